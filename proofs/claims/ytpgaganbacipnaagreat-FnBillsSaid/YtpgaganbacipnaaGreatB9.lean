/-
  Lemmas, part 9.
-/
import Derived.Test.YtpgaganbacipnaaGreatB8
import Derived.Sort.Grow
import Derived.Lib.SlicesCompact
import Derived.Shelf.SlSortCmp.NoneTotal
import Derived.Ground.SlsfProg
import Derived.Shelf.Small.Bits
import Derived.Shelf.Strconv.Itoa0
import Derived.Shelf.Sort.Plain
import Derived.Ground.Names2Prog
import Derived.Shelf.Slices.CompactI
import Derived.Shelf.Slices.SearchI
import Derived.Shelf.Slices.Cells
import Derived.Shelf.Slices.In.SortNone
import Derived.Shelf.SlSortCmp.Insertion
import Derived.Shelf.SlSortCmp.SiftDown1
import Derived.Shelf.SlSortCmp.HeapSort1
import Derived.Shelf.SlSortCmp.Insertion1
import Derived.Shelf.SlSortCmp.Median1
import Derived.Shelf.SlSortCmp.Pivot1
import Derived.Shelf.SlSortCmp.ReverseRange1
import Derived.Shelf.SlSortCmp.PartialInsertion1
import Derived.Shelf.SlSortCmp.PartitionEqual1
import Derived.Shelf.SlSortCmp.Partition1
import Derived.Shelf.SlSortCmp.Pdq1
import Derived.Shelf.SlSortCmp.Whole1
import Derived.Test.YtpgaganbacipnaaGreatProg
namespace Go.Proofs.YtpgaganbacipnaaGreat.Eng
open Go Go.RowKit
structure Enc{α:Type}(sz:Nat)(enc:α->AV)(val:α->List Value):Prop where
 len:∀x,(enc x).cells.length=sz
 vlen:∀x,(val x).length=sz
 one:∀x,∀a∈(enc x).cells,a.one=true
 vone:∀x,∀v∈val x,v.oneCell'=true
 rd:∀(w:World) (S:Nat->Nat->Prop) (T:Tag->Nat->Value->Prop) x (j:Nat) (a:AV) (u:Value),(enc x).cells[j]?=some a->(val x)[j]?=some u->Rd w S T a u
 inv:∀(w:World) (S:Nat->Nat->Prop) (T:Tag->Nat->Value->Prop) x (j:Nat) (a:AV) (u v:Value),(enc x).cells[j]?=some a->(val x)[j]?=some u->Rd w S T a v->v=u
theorem Enc.flen{α:Type}{sz:Nat}{enc:α->AV}{val:α->List Value}(E:Enc sz enc val)(zs:List α):(zs.flatMap val).length=zs.length*sz:=by
 induction zs with
 |nil=>simp
 |cons x l ih=>simp only[ya,yU,ih,E.vlen,yT,Nat.succ_mul];omega
theorem Enc.elen{α:Type}{sz:Nat}{enc:α->AV}{val:α->List Value}(E:Enc sz enc val)(zs:List α):(flat (zs.map enc)).length=zs.length*sz:=by
 induction zs with
 |nil=>simp[flat]
 |cons x l ih=>simp only[flat,List.map_cons,ya,yU,yT,Nat.succ_mul]at ih ⊢;rw[ih,E.len];omega
theorem Enc.pair{α:Type}{sz:Nat}{enc:α->AV}{val:α->List Value}(E:Enc sz enc val){zs:List α}:∀{j:Nat} {a:AV} {u:Value},(flat (zs.map enc))[j]?=some a->(zs.flatMap val)[j]?=some u->∃(x:α) (i:Nat),(enc x).cells[i]?=some a/\(val x)[i]?=some u:=by
 induction zs with
 |nil=>intro j a u h;simp[flat]at h
 |cons x l ih =>
  intro j a u h1 h2
  simp only[flat,List.map_cons,ya]at ih h1 h2
  by_cases hj:j<sz
  .rw[yK (by rw[E.len];exact hj)]at h1
   rw[yK (by rw[E.vlen];exact hj)]at h2
   exact⟨x,j,h1,h2⟩
  .rw[yS (by rw[E.len];omega),E.len]at h1
   rw[yS (by rw[E.vlen];omega),E.vlen]at h2
   exact ih h1 h2
theorem Enc.flat_inv{α:Type}{sz:Nat}{enc:α->AV}{val:α->List Value}(E:Enc sz enc val){zs:List α}{w:World}{S:Nat->Nat->Prop}{T:Tag->Nat->Value->Prop}{j:Nat}{a:AV}{u v:Value}(h1:(flat (zs.map enc))[j]?=some a)(h2:(zs.flatMap val)[j]?=some u)(h:Rd w S T a v):v=u:=by
 obtain⟨x,i,q1,q2⟩:=E.pair h1 h2
 exact E.inv w S T x i a u v q1 q2 h
theorem J1a{α:Type}{sz:Nat}{enc:α->AV}{val:α->List Value}(E:Enc sz enc val){w:World}{S:Nat->Nat->Prop}{T:Tag->Nat->Value->Prop}{zs:List α}{b cap:Nat}{cur:Array Value}{ty:TypeId}(h1:w.heap[b]?=some (.cells cur ty (0,0)))(h2:zs.length<=cap)(h3:cap<=maxLen)
  (h4:cur.size=cap*sz) (h5:cur.toList.take (zs.length*sz)=zs.flatMap val):VA w S T ⟨sz,zs.map enc,false⟩ (.slice (some ⟨b,0,none⟩) zs.length cap):=by
 refine⟨zs.flatMap val,ty,?_,fun e he=>?_,fun j a u ha hu=>?_⟩
 .simp only[List.length_map]
  exact⟨E.flen zs,.inr ⟨b,cap,cur,rfl,Nat.zero_le _,h1,h2,h3,h4,h5⟩⟩
 .obtain⟨x,_,rfl⟩:=yY he;exact E.len x
 .obtain⟨x,i,q1,q2⟩:=E.pair ha hu
  exact⟨E.one x a (yE q1),E.vone x u (yE q2),E.rd _ _ _ x i a u q1 q2⟩
def RowX{α:Type}(P:Program)(f:FuncId)(sz:Nat)(enc:α->AV)(val:α->List Value)(xa:List AV)(zs zs':List α)(ret:Bool):Prop :=
 ∀(w:World) (g:Gh) (n0:Nat) (us:List Value),Heap w g (hSt n0 [] [some ⟨sz,zs.map enc,false⟩])->us.length=xa.length ->
  (∀(i:Nat) (a:AV) (v:Value),xa[i]?=some a->us[i]?=some v->Gv w g (hSt n0 [] [some ⟨sz,zs.map enc,false⟩]) a v) ->
 (zs=[]->Calls P f (.slice none 0 0::us).toArray w fun e w'=>e=.returned (if ret then .slice none 0 0 else .tuple #[])/\w'=w) /\
 ∀(b cap:Nat) (cur:Array Value) (ty:TypeId),w.heap[b]?=some (.cells cur ty (0,0))->zs.length<=cap->cap<=maxLen->cur.size=cap*sz->cur.toList.take (zs.length*sz)=zs.flatMap val->(∀o,¬ g.S b o) ->
  Calls P f (.slice (some ⟨b,0,none⟩) zs.length cap::us).toArray w fun e w'=>e=.returned (if ret then .slice (some ⟨b,0,none⟩) zs'.length cap else .tuple #[]) /\
   ∃cur':Array Value,w'.heap[b]?=some (.cells cur' ty (0,0))/\cur'.size=cap*sz/\cur'.toList.take (zs'.length*sz)=zs'.flatMap val/\zs'.length<=cap /\
    w'.os=w.os/\w'.tape=w.tape/\w'.output=w.output/\w.heap.size<=w'.heap.size/\∀k,k<w.heap.size->k≠b->w'.heap[k]?=w.heap[k]?
theorem Z1o{α:Type}{sz:Nat}{enc:α->AV}{val:α->List Value}(E:Enc sz enc val){P:Program}{f:FuncId}{zs zs':List α}{ret:Bool}{xa:List AV}(h0:zs=[]->zs'=[])(hr:ret=false->zs'.length=zs.length)(h:RowX P f sz enc val xa zs zs' ret):O11 P f sz (zs.map enc) xa ret (zs'.map enc):=by
 intro n0 w g vs H hN hl hvs
 match vs,hl with
 |v::us,hl =>
 obtain⟨hnil,hblk⟩:=h w g n0 us H (by simpa using hl) fun i a u ha hu=>hvs (i+1) a u (by simpa using ha) (by simpa using hu)
 have hv:v=g.rv 0:=by
  have q:=hvs 0 _ v rfl rfl
  exact q.sref_inv (by rfl)
 subst hv
 have hrow:=H.rws 0 ⟨sz,zs.map enc,false⟩ rfl
 have hrn:=H.rwn 0 ⟨sz,zs.map enc,false⟩ rfl
 obtain⟨xs,ty,hown,_,hc⟩:=hrow
 have hzl:(zs.map enc).length=zs.length:=by simp
 have fin:∀(v':Value) (w':World) (e:Ending),e=.returned (if ret then v' else .tuple #[])->(ret=false->v'=g.rv 0)->v'.ownBlock=(g.rv 0).ownBlock->v'.oneCell'=true->VA w' g.S g.T ⟨sz,zs'.map enc,false⟩ v'->w'.os=w.os->w'.tape=w.tape->w'.output=w.output->w.heap.size<=w'.heap.size ->
   (∀k,k<w.heap.size->(g.rv 0).ownBlock≠some k->w'.heap[k]?=w.heap[k]?) ->
   ∃v,e=.returned v/\Kept (OwnB g 0 1) w w'/\∃n1 res bout upd new,n0<=n1/\(bout=[]/\(match ret with|true=>res=.sref 1/\upd=[none]/\new=[⟨sz,zs'.map enc,false⟩]|false=>res=.tup []/\upd=[some (zs'.map enc)]/\new=[])) /\
   bout.map List.length=([]:List (List AV)).map List.length/\upd.length=1/\∃g':Gh,(∀b o,g'.S b o->(g.S b o\/w.heap.size<=b\/OwnB g 0 1 b)/\(w.heap.size<=b\/OwnB g 0 1 b->UnfB w' b))/\(∀b,g'.N b->g.N b) /\
   (∀i,i<0->g'.bb i=g.bb i)/\(∀i es,upd[i]?=some (some es)->g'.rv i=g.rv i)/\Heap w' g' (hSt n1 bout (Q5 [⟨sz,zs.map enc,false⟩] upd new)) /\
   (∀(j:Nat) (r:Row),new[j]?=some r->∀b,(g'.rv (1+j)).ownBlock=some b->w.heap.size<=b\/OwnB g 0 1 b) /\
   (∀i,i<n0->g'.ov i=g.ov i)/\(∀i D,n0<=i->g'.ov i=some D->∀b,D b->w.heap.size<=b\/OwnB g 0 1 b) /\
   Gv w' g' (hSt n1 bout (Q5 [⟨sz,zs.map enc,false⟩] upd new)) res v:=by
  intro v' w' e he hv' hb' h1 hro q1 q2 q3 q4 q5
  have hownB:∀b,g.own b->b<w.heap.size/\(g.rv 0).ownBlock≠some b:=fun b hb=>⟨H.ow.size hb,fun q=>H.ow.rw 0 _ rfl b q hb⟩
  have noU:∀b o,g.S b o->(g.S b o\/w.heap.size<=b\/OwnB g 0 1 b)/\(w.heap.size<=b\/OwnB g 0 1 b->UnfB w' b):=fun b o h=>⟨.inl h,fun q=>by
   rcases q with q|⟨i,hi,_⟩|⟨i,hi,e⟩
   .exact absurd (H.sw b o h) (Nat.not_lt.2 q)
   .omega
   .have:i=0:=by omega
    subst this
    exact absurd h ((hrn.2 b e).2 o)⟩
  have hK:Kept (OwnB g 0 1) w w':=⟨q1,q2,q3,q4,fun k hk hno=>q5 k hk fun q=>hno (.inr ⟨0,by omega,q⟩)⟩
  cases ret with
  |false =>
   have hv':=hv' rfl
   subst hv'
   refine⟨.tuple #[],by simpa using he,hK,n0,.tup [],[],[some (zs'.map enc)],[],yV _,⟨rfl,rfl,rfl,rfl⟩,rfl,rfl,g,noU,fun b h=>h,fun i hi=>by omega,fun i es _=>rfl,?_,fun j r h=>by simp at h,fun _ _=>rfl,
    fun i D hi ho=>fun _ _=>absurd (H.ow.lt i D ho) (by simp only[hSt];omega),.tup [] [] rfl fun i a v h=>by simp at h⟩
   have hrw:∀k r,(hSt n0 [] (Q5 [⟨sz,zs.map enc,false⟩] [some (zs'.map enc)] [])).rw k=some r->k=0/\r=⟨sz,zs'.map enc,false⟩:=by
    intro k r hk
    match k with
    |0=>simp[hSt,Q5]at hk;exact⟨rfl,hk.symm⟩
    |k+1=>simp[hSt,Q5]at hk
   refine⟨fun k cs h=>by simp[hSt]at h,fun k cs h=>by simp[hSt]at h,fun k r hk=>?_,fun k r hk=>?_,fun k k' cs cs' h=>by simp[hSt]at h,fun k k' cs r h=>by simp[hSt]at h,fun k k' r r' hk hk' hne=>?_,fun b o h=>Nat.lt_of_lt_of_le (H.sw b o h) q4,?_⟩
   .obtain⟨rfl,rfl⟩:=hrw k r hk;exact hro
   .obtain⟨rfl,rfl⟩:=hrw k r hk;exact⟨rfl,hrn.2⟩
   .obtain⟨rfl,_⟩:=hrw k r hk;obtain⟨rfl,_⟩:=hrw k' r' hk';exact absurd rfl hne
   .refine H.ow.turn rfl (fun _ h=>h) (yV _) (fun b hb=>q5 b (hownB b hb).1 (hownB b hb).2) (fun k cs h=>by simp[hSt]at h) fun k r hk b hb=>?_
    obtain⟨rfl,_⟩:=hrw k r hk
    exact H.ow.rw 0 _ rfl b hb
  |true =>
   refine⟨v',by simpa using he,hK,n0,.sref 1,[],[none],[⟨sz,zs'.map enc,false⟩],yV _,⟨rfl,rfl,rfl,rfl⟩,rfl,rfl,{ g with rv:=fun i=>if i=1 then v' else g.rv i },noU,fun b h=>h,fun i hi=>by omega,fun i es h=>?_,?_,fun j r h b hb=>?_,fun _ _=>rfl,
    fun i D hi ho=>fun _ _=>absurd (H.ow.lt i D ho) (by simp only[hSt];omega),.sref 1 v' h1 fun r hr=>by simp⟩
   .match i with
    |0=>simp at h
    |i+1=>simp at h
   .have hrw:∀k r,(hSt n0 [] (Q5 [⟨sz,zs.map enc,false⟩] [none] [⟨sz,zs'.map enc,false⟩])).rw k=some r->k=1/\r=⟨sz,zs'.map enc,false⟩:=by
     intro k r hk
     match k with
     |0=>simp[hSt,Q5]at hk
     |1=>simp[hSt,Q5]at hk;exact⟨rfl,hk.symm⟩
     |k+2=>simp[hSt,Q5]at hk
    have hT:({ g with rv:=fun i=>if i=1 then v' else g.rv i }:Gh).T=g.T:=Gh.T_eq rfl rfl
    refine⟨fun k cs h=>by simp[hSt]at h,fun k cs h=>by simp[hSt]at h,fun k r hk=>?_,fun k r hk=>?_,fun k k' cs cs' h=>by simp[hSt]at h,fun k k' cs r h=>by simp[hSt]at h,fun k k' r r' hk hk' hne=>?_,fun b o h=>Nat.lt_of_lt_of_le (H.sw b o h) q4,?_⟩
    .obtain⟨rfl,rfl⟩:=hrw k r hk
     rw[hT];exact hro
    .obtain⟨rfl,rfl⟩:=hrw k r hk
     refine⟨rfl,fun b hb=>hrn.2 b ?_⟩
     simp only[yb]at hb
     rw[← hb',hb]
    .obtain⟨rfl,_⟩:=hrw k r hk;obtain⟨rfl,_⟩:=hrw k' r' hk';exact absurd rfl hne
    .refine H.ow.turn rfl (fun _ h=>h) (yV _) (fun b hb=>q5 b (hownB b hb).1 (hownB b hb).2) (fun k cs h=>by simp[hSt]at h) fun k r hk b hb=>?_
     obtain⟨rfl,_⟩:=hrw k r hk
     simp only[yb]at hb
     exact H.ow.rw 0 _ rfl b (by rw[← hb',hb])
   .match j with
    |0 =>
     simp only[Nat.add_zero,yb]at hb
     exact .inr (.inr ⟨0,by omega,by rw[← hb',hb]⟩)
    |j+1=>simp at h
 rcases hown.2 with⟨hv,hn⟩|⟨b,cap,cur,hv,_,hb,hnc,hcm,hcs,htk⟩
 .have hz:zs=[]:=by
   rw[hzl]at hn
   exact List.eq_nil_of_length_eq_zero hn
  subst hz
  have hz':=h0 rfl
  subst hz'
  have:=hnil rfl
  rw[← hv]at this
  refine this.mono fun e w' hw=>?_
  obtain⟨he,rfl⟩:=hw
  refine fin (g.rv 0) w' e (by rw[he]) (fun _=>rfl) rfl (by rw[hv];rfl) ?_ rfl rfl rfl (yV _) fun _ _ _=>rfl
  exact⟨xs,ty,hown,fun e he=>by simp at he,fun j a u ha=>by simp[flat]at ha⟩
 .rw[hzl]at hv hnc
  rw[hzl]at htk
  have hxs:xs=zs.flatMap val:=by
   have hxl:xs.length=zs.length*sz:=by rw[hown.1,hzl]
   have hvl:(zs.flatMap val).length=zs.length*sz:=E.flen zs
   apply List.ext_getElem (by rw[hxl,hvl])
   intro j h1 h2
   have hfl:(flat (zs.map enc)).length=zs.length*sz:=E.elen zs
   have hj:j<(flat (zs.map enc)).length:=by omega
   have q:=(hc j _ xs[j] (yA hj) (yA h1)).2.2
   exact E.flat_inv (yA hj) (yA h2) q
  have:=hblk b cap cur ty hb hnc hcm hcs (by rw[htk,hxs]) (hrn.2 b (by rw[hv];rfl)).2
  rw[← hv]at this
  refine this.mono fun e w' hw=>?_
  obtain⟨he,cur',c1,c2,c3,c4,q1,q2,q3,q4,q5⟩:=hw
  have hrob:=J1a E (S:=g.S) (T:=g.T) c1 c4 hcm c2 c3
  refine fin (.slice (some ⟨b,0,none⟩) zs'.length cap) w' e he (fun hr'=>by rw[hv,hr hr']) (by rw[hv];rfl) rfl hrob q1 q2 q3 q4 fun k hk hne=>q5 k hk fun e=>hne (by rw[hv,e];rfl)
def i64s(zs:List Int):List AV:=zs.map fun n=>.int .i64 n
def i64v(zs:List Int):List Value:=zs.map fun n=>.int .i64 n
theorem L18(zs:List Int):noOL (i64s zs):=Y7.2 fun a ha=>by
 obtain⟨n,_,rfl⟩:=yY ha
 trivial
def M1A(P:Program)(f:FuncId)(zs zs':List Int)(ret:Bool):Prop :=
 (∀(w:World),Calls P f #[.slice none 0 0] w fun e w'=>e=.returned (if ret then .slice none 0 0 else .tuple #[])/\w'=w) /\
 ∀(w:World) (b cap:Nat) (cur:Array Value) (ty:TypeId),w.heap[b]?=some (.cells cur ty (0,0))->zs.length<=cap->cap<=maxLen->cur.size=cap->cur.toList.take zs.length=i64v zs ->
  Calls P f #[.slice (some ⟨b,0,none⟩) zs.length cap] w fun e w'=>e=.returned (if ret then .slice (some ⟨b,0,none⟩) zs'.length cap else .tuple #[]) /\
   ∃cur':Array Value,w'.heap[b]?=some (.cells cur' ty (0,0))/\cur'.size=cap/\cur'.toList.take zs'.length=i64v zs'/\zs'.length<=cap /\
    w'.os=w.os/\w'.tape=w.tape/\w'.output=w.output/\w.heap.size<=w'.heap.size/\∀k,k<w.heap.size->k≠b->w'.heap[k]?=w.heap[k]?
theorem W1y:Enc 1 (fun n:Int=>AV.int .i64 n) (fun n=>[Value.int .i64 n]):=by
 have key:∀(x:Int) (j:Nat) (a:AV) (u:Value),(AV.int .i64 x).cells[j]?=some a->[Value.int .i64 x][j]?=some u->a=.int .i64 x/\u=.int .i64 x:=by
  intro x j a u h1 h2
  match j with
  |0=>exact⟨(Option.some.inj h1).symm,(Option.some.inj h2).symm⟩
  |j+1=>simp at h2
 refine⟨fun x=>rfl,fun x=>rfl,fun x a ha=>?_,fun x v hv=>?_,fun w S T x j a u h1 h2=>?_,fun w S T x j a u v h1 h2 h=>?_⟩
 .rw[List.mem_singleton.1 ha];rfl
 .rw[List.mem_singleton.1 hv];rfl
 .obtain⟨rfl,rfl⟩:=key x j a u h1 h2
  exact .int _ _
 .obtain⟨rfl,rfl⟩:=key x j a u h1 h2
  cases h;rfl
theorem Z0Z(zs:List Int):zs.flatMap (fun n=>[Value.int .i64 n])=i64v zs:=by
 induction zs with
 |nil=>rfl
 |cons n l ih=>rw[ya,ih];rfl
theorem L0x{P:Program}{f:FuncId}{zs zs':List Int}{ret:Bool}(h0:zs=[]->zs'=[])(hr:ret=false->zs'.length=zs.length)(h:M1A P f zs zs' ret):O11 P f 1 (i64s zs) [] ret (i64s zs'):=by
 refine Z1o W1y h0 hr fun w g n0 us _ hl _=>?_
 match us,hl with
 |[],_ =>
 refine⟨fun _=>h.1 w,fun b cap cur ty h1 h2 h3 h4 h5 _=>?_⟩
 have:=h.2 w b cap cur ty h1 h2 h3 (by omega) (by rw[← Z0Z,← h5,Nat.mul_one])
 simpa only[Z0Z,Nat.mul_one]using this
theorem U0L{w:World}{b cap:Nat}{cur:Array Value}{ty:TypeId}{zs:List Int}(h1:w.heap[b]?=some (.cells cur ty (0,0)))(h4:cur.size=cap)(h2:zs.length<=cap)(n:Nat)(os:Array Obj) :
  ∃cur':Array Value,(Go.Sort.grow (Go.Sort.putRow (Value.int .i64) (Go.Sort.ahead w n) b 0 zs.toArray) os).heap[b]?=some (.cells cur' ty (0,0))/\cur'.size=cap/\cur'.toList.take zs.length=i64v zs /\
   w.heap.size<=(Go.Sort.grow (Go.Sort.putRow (Value.int .i64) (Go.Sort.ahead w n) b 0 zs.toArray) os).heap.size/\∀k,k<w.heap.size->k≠b->(Go.Sort.grow (Go.Sort.putRow (Value.int .i64) (Go.Sort.ahead w n) b 0 zs.toArray) os).heap[k]?=w.heap[k]?:=by
 have hb:b<w.heap.size:=(Array.getElem?_eq_some_iff.1 h1).1
 have hg:∀k,k<w.heap.size->(Go.Sort.grow (Go.Sort.putRow (Value.int .i64) (Go.Sort.ahead w n) b 0 zs.toArray) os).heap[k]?=(w.heap.modify b (Go.Sort.onCells (Go.Sort.putCells (Value.int .i64) 0 zs.toArray)))[k]?:=by
  intro k hk
  simp only[Go.Sort.grow,Go.Sort.putRow,Go.Sort.mapBlock,Go.Sort.ahead]
  rw[Array.getElem?_append_left (by simpa using hk)]
 refine⟨Go.Sort.putCells (Value.int .i64) 0 zs.toArray cur,?_,?_,?_,?_,fun k hk hne=>?_⟩
 .rw[hg b hb,Array.getElem?_modify];simp only[yb,h1];rfl
 .simp[Go.Sort.putCells,h4]
 .apply List.ext_getElem
  .simp[Go.Sort.putCells,i64v,h4];omega
  .intro j q1 q2
   have hj:j<zs.length:=by simp[i64v]at q2;exact q2
   simp[Go.Sort.putCells,i64v,hj]
 .simp[Go.Sort.grow,Go.Sort.putRow,Go.Sort.mapBlock,Go.Sort.ahead]
 .rw[hg k hk,Array.getElem?_modify,ye (fun e=>hne e.symm)]
theorem Y0Z{w:World}{b:Nat}{cur:Array Value}{ty:TypeId}{zs:List Int}(h1:w.heap[b]?=some (.cells cur ty (0,0)))(h5:cur.toList.take zs.length=i64v zs):Go.Sort.Holds (Value.int .i64) w b 0 zs.toArray:=by
 intro j hj
 have hj':j<zs.length:=by simpa using hj
 refine⟨?_,frozen_of_row w b (0+j) cur ty h1⟩
 have hc:cur[j]?=some (.int .i64 zs[j]):=by
  have:=congrArg (·[j]?) h5
  simp only[i64v,yF,List.getElem?_take,hj',yb,yA hj',Option.map_some]at this
  simpa using this
 simp only[World.cell?,h1,Option.isSome_none,yG,yc,Nat.zero_add]
 rw[hc]
 simp[hj']
end Go.Proofs.YtpgaganbacipnaaGreat.Eng
namespace Go.Proofs
open Go.Shelf
def Tryz.lays189_ren:Go.Shelf.Ren:=⟨fun|189=>128|125=>116|257=>202|128=>189|129=>190|294=>234|295=>235|296=>236|297=>237|298=>238|299=>239|216=>240|300=>241|301=>242|328=>256|329=>228|330=>229|331=>257|332=>258|215=>259|343=>273|n=>n,fun|28=>23|3=>3|46=>153|0=>0|51=>216|53=>218|4=>4|183=>210|182=>209|131=>182|5=>5|9=>9|218=>239|222=>243|228=>261|229=>262|n=>n,fun|n=>n⟩
theorem Tryz.lays189:Go.Proofs.Lays.n189 Tryz.prog Tryz.lays189_ren:={
 mixed:=by kernel_rfl
 f125:=Tryz.func116.trans (congrArg some (by kernel_rfl))
 f128:=Tryz.func189.trans (congrArg some (by kernel_rfl))
 f129:=Tryz.func190.trans (congrArg some (by kernel_rfl))
 f189:=Tryz.func128.trans (congrArg some (by kernel_rfl))
 f215:=Tryz.func259.trans (congrArg some (by kernel_rfl))
 f216:=Tryz.func240.trans (congrArg some (by kernel_rfl))
 f257:=Tryz.func202.trans (congrArg some (by kernel_rfl))
 f294:=Tryz.func234.trans (congrArg some (by kernel_rfl))
 f295:=Tryz.func235.trans (congrArg some (by kernel_rfl))
 f296:=Tryz.func236.trans (congrArg some (by kernel_rfl))
 f297:=Tryz.func237.trans (congrArg some (by kernel_rfl))
 f298:=Tryz.func238.trans (congrArg some (by kernel_rfl))
 f299:=Tryz.func239.trans (congrArg some (by kernel_rfl))
 f300:=Tryz.func241.trans (congrArg some (by kernel_rfl))
 f301:=Tryz.func242.trans (congrArg some (by kernel_rfl))
 f328:=Tryz.func256.trans (congrArg some (by kernel_rfl))
 f329:=Tryz.func228.trans (congrArg some (by kernel_rfl))
 f330:=Tryz.func229.trans (congrArg some (by kernel_rfl))
 f331:=Tryz.func257.trans (congrArg some (by kernel_rfl))
 f332:=Tryz.func258.trans (congrArg some (by kernel_rfl))
 f343:=Tryz.func273.trans (congrArg some (by kernel_rfl))
 t0:=Tryz.underlying0
 a0:=Tryz.isAgg0
 z0:=Tryz.sizeOf0
 v0:=Tryz.zeroValue0
 t3:=Tryz.underlying3
 a3:=Tryz.isAgg3
 z3:=Tryz.sizeOf3
 v3:=Tryz.zeroValue3
 t4:=Tryz.underlying4
 a4:=Tryz.isAgg4
 z4:=Tryz.sizeOf4
 v4:=Tryz.zeroValue4
 t5:=Tryz.underlying5
 a5:=Tryz.isAgg5
 z5:=Tryz.sizeOf5
 v5:=Tryz.zeroValue5
 t9:=Tryz.underlying9
 a9:=Tryz.isAgg9
 z9:=Tryz.sizeOf9
 v9:=Tryz.zeroValue9
 t28:=Tryz.underlying23
 a28:=Tryz.isAgg23
 z28:=Tryz.sizeOf23
 v28:=Tryz.zeroValue23
 t46:=Tryz.underlying153
 a46:=Tryz.isAgg153
 z46:=Tryz.sizeOf153
 v46:=Tryz.zeroValue153
 t51:=Tryz.underlying216
 a51:=Tryz.isAgg216
 z51:=Tryz.sizeOf216
 v51:=Tryz.zeroValue216
 t53:=Tryz.underlying218
 a53:=Tryz.isAgg218
 z53:=Tryz.sizeOf218
 v53:=Tryz.zeroValue218
 t131:=Tryz.underlying182
 a131:=Tryz.isAgg182
 z131:=Tryz.sizeOf182
 v131:=Tryz.zeroValue182
 t182:=Tryz.underlying209
 a182:=Tryz.isAgg209
 z182:=Tryz.sizeOf209
 v182:=Tryz.zeroValue209
 t183:=Tryz.underlying210
 a183:=Tryz.isAgg210
 z183:=Tryz.sizeOf210
 v183:=Tryz.zeroValue210
 t218:=Tryz.underlying239
 a218:=Tryz.isAgg239
 z218:=Tryz.sizeOf239
 v218:=Tryz.zeroValue239
 t222:=Tryz.underlying243
 a222:=Tryz.isAgg243
 z222:=Tryz.sizeOf243
 v222:=Tryz.zeroValue243
 t228:=Tryz.underlying261
 a228:=Tryz.isAgg261
 z228:=Tryz.sizeOf261
 v228:=Tryz.zeroValue261
 t229:=Tryz.underlying262
 a229:=Tryz.isAgg262
 z229:=Tryz.sizeOf262
 v229:=Tryz.zeroValue262 }
open Go.Sort Go.RowKit in
theorem Tryz.slices_Sort_int(blk off cap:Nat)(zs:List Int)(w:World)(hH:Holds (Value.int .i64) w blk off zs.toArray)(hblk:blk<w.heap.size)(hsz:zs.length<4611686018427387904) :
  Calls Tryz.prog 128 #[.slice (some ⟨blk,off,none⟩) zs.length cap] w fun e w' =>
   e=.returned (.tuple #[])/\∃n os,w'=grow (putRow (Value.int .i64) (Sort.ahead w n) blk off (zs.mergeSort fun x y=>decide (x<=y)).toArray) os:=Any.slices_Sort_int Tryz.lays189 blk off cap zs w hH hblk hsz
def Tryz.laysNm220_ren:Go.Shelf.Ren:=⟨fun|20=>129|n=>n,fun|22=>23|3=>3|4=>4|0=>0|n=>n,fun|n=>n⟩
theorem Tryz.laysNm220:Go.Proofs.Lays2.n20 Tryz.prog Tryz.laysNm220_ren:={
 mixed:=by kernel_rfl
 f20:=Tryz.func129.trans (congrArg some (by kernel_rfl))
 t0:=Tryz.underlying0
 a0:=Tryz.isAgg0
 z0:=Tryz.sizeOf0
 v0:=Tryz.zeroValue0
 t3:=Tryz.underlying3
 a3:=Tryz.isAgg3
 z3:=Tryz.sizeOf3
 v3:=Tryz.zeroValue3
 t4:=Tryz.underlying4
 a4:=Tryz.isAgg4
 z4:=Tryz.sizeOf4
 v4:=Tryz.zeroValue4
 t22:=Tryz.underlying23
 a22:=Tryz.isAgg23
 z22:=Tryz.sizeOf23
 v22:=Tryz.zeroValue23
 i3:=by kernel_rfl }
open Go.RowKit Go.Lib Go.Sort in
theorem Tryz.slices_Compact_int(blk off cap:Nat)(zs:List Int)(w:World)(hH:Holds (Value.int .i64) w blk off zs.toArray)(hsz:zs.length<=9223372036854775807)(hcap:zs.length<=cap) :
  Calls Tryz.prog 129 #[.slice (some ⟨blk,off,none⟩) zs.length cap] w fun e w'=>e=.returned (.slice (some ⟨blk,off,none⟩) (Lib.compact zs).length cap)/\∃q,w'=putRow (Value.int .i64) (Sort.ahead w q) blk off (Lib.compact zs++List.replicate (zs.length-(Lib.compact zs).length) 0).toArray:=Any.slices_Compact_int Tryz.laysNm220 blk off cap zs w hH hsz hcap
open Go.RowKit Go.Lib Go.Sort in
theorem Tryz.slices_Compact_int_empty(a:Option Addr)(cap:Nat)(w:World) :
  Calls Tryz.prog 129 #[.slice a 0 cap] w fun e w'=>e=.returned (.slice a 0 cap)/\w'=w:=Any.slices_Compact_int_empty Tryz.laysNm220 a cap w
open Go.RowKit Go.Sort in
theorem Tryz.slices_Sort_int_none(p:Option Addr)(cap:Nat)(w:World) :
  Calls Tryz.prog 128 #[.slice p 0 cap] w fun e w'=>e=.returned (.tuple #[])/\w'=w:=Any.slices_Sort_int_none Tryz.lays189 p cap w
end Go.Proofs
namespace Go.Proofs.YtpgaganbacipnaaGreat
open Go Go.RowKit Eng
section
def O0F(zs:List Int):List Int:=zs.mergeSort fun x y=>decide (x<=y)
def M1e(zs:List Int):Option (List Int):=if zs.length<4611686018427387904 then some (O0F zs)else none
def L8(zs:List Int):List Int:=Lib.compact zs
theorem W10:L8 []=[]:=by simp[L8,Lib.compact,Lib.compactUpTo]
theorem O10(zs:List Int):(L8 zs).length<=zs.length:=by
 simp only[L8,Lib.compact,Lib.compactUpTo,List.length_map]
 exact Nat.le_trans (List.length_filter_le ..) (by simp)
theorem O0x(zs:List Int):(O0F zs).length=zs.length:=by simp[O0F]
theorem L1n{zs r:List Int}(h:M1e zs=some r):O11 Tryz.prog Ql 1 (zs.map eI) [] false (r.map eI):=by
 unfold M1e at h
 split at h
 .rename_i hl
  cases h
  refine L0x (zs:=zs) (zs':=O0F zs) (fun e=>by subst e;simp[O0F]) (fun _=>O0x zs) ⟨fun w=>?_,fun w b cap cur ty h1 h2 h3 h4 h5=>?_⟩
  .exact(Tryz.slices_Sort_int_none none 0 w).mono fun e w' h=>⟨by simp[h.1],h.2⟩
  .refine(Tryz.slices_Sort_int b 0 cap zs w (Y0Z h1 h5) (Array.getElem?_eq_some_iff.1 h1).1 hl).mono fun e w' h=>?_
   obtain⟨he,n,os,hw⟩:=h
   rw[hw]
   obtain⟨cur',q1,q2,q3,q4,q5⟩:=U0L (zs:=O0F zs) h1 h4 (by rw[O0x];exact h2) n os
   exact⟨by simp[he],cur',q1,q2,q3,by rw[O0x];exact h2,rfl,rfl,rfl,q4,q5⟩
 .cases h
theorem X14(zs:List Int):O11 Tryz.prog Ug 1 (zs.map eI) [] true ((L8 zs).map eI):=by
 refine L0x (zs:=zs) (zs':=L8 zs) (fun e=>by subst e;exact W10) (fun h=>by cases h) ⟨fun w=>?_,fun w b cap cur ty h1 h2 h3 h4 h5=>?_⟩
 .exact(Tryz.slices_Compact_int_empty none 0 w).mono fun e w' h=>⟨by simp[h.1],h.2⟩
 .refine(Tryz.slices_Compact_int b 0 cap zs w (Y0Z h1 h5) (by simp only[maxLen]at h3;omega) h2).mono fun e w' h=>?_
  obtain⟨he,q,hw⟩:=h
  rw[hw]
  have hcl:=O10 zs
  have e0:(Lib.compact zs++List.replicate (zs.length-(Lib.compact zs).length) 0).length=zs.length:=by
   rw[yU,List.length_replicate];unfold L8 at hcl;omega
  obtain⟨cur',q1,q2,q3,q4,q5⟩:=U0L (zs:=Lib.compact zs++List.replicate (zs.length-(Lib.compact zs).length) 0) h1 h4 (by rw[e0];exact h2) q #[]
  rw[Go.Sort.grow_empty]at q1 q4 q5
  refine⟨by simp[he,L8],cur',q1,q2,?_,by omega,rfl,rfl,rfl,q4,q5⟩
  have:=congrArg (·.take (L8 zs).length) q3
  simp only[List.take_take,i64v,← List.map_take]at this
  rw[e0,Nat.min_eq_left hcl]at this
  rw[this,i64v]
  congr 1
  exact List.take_left
section
variable{α β γ σ:Type}
theorem V4{n:Int}(h:-9223372036854775808<=n/\n<=9223372036854775807):w64 n=n:=L11 h.1 h.2
theorem J0i{n:Nat}(h:n<9223372036854775807):w64 ((n:Int)+1)=((n+1:Nat):Int):=by rw[V4 (by omega)];omega
theorem U0v{n:Nat}(h0:0<n)(h:n<=9223372036854775807):w64 ((n:Int)-1)=((n-1:Nat):Int):=by rw[V4 (by omega)];omega
theorem Y8{l:List α}{i:Nat}:idx l (i:Int)=l[i]?:=by simp[idx]
theorem Md{l:List α}{i:Int}(h0:0<=i)(h:i<l.length):∃x,idx l i=some x/\l[i.toNat]?=some x:=by
 have:i.toNat<l.length:=by omega
 exact⟨l[i.toNat],by simp[idx,h0,this],by simp[this]⟩
theorem M0{bs:Nat}{l m:List α}(h:(l.length+m.length)*bs<=140737488355328):appL bs l m=some (l++m):=by simp[appL,h]
theorem Xg{p:Prop}(h:¬ p):(false=true↔p):=by simp[h]
@[simp] theorem W1L {c:Bool}{a b:Option α}{f:α->Option β}:(bif c then a else b).bind f=bif c then a.bind f else b.bind f:=by cases c<;>rfl
theorem Z0P{α2 β2:Type}{bd:α->Nat->β->(β->Option γ)->Option γ}{kk:β->Option γ}{bd2:α2->Nat->β2->(β2->Option γ)->Option γ}{kk2:β2->Option γ}
  (R:Nat->β->β2->Prop) {l0:List α} {m0:List α2} (hl:l0.length=m0.length)
  (h:∀i x y b c (k:β->Option γ) (k2:β2->Option γ),l0[i]?=some x->m0[i]?=some y->R i b c->(∀b' c',R (i+1) b' c'->k b'=k2 c')->bd x i b k=bd2 y i c k2)
  (hk:∀b c,R l0.length b c->kk b=kk2 c) {b:β} {c:β2} (h0:R 0 b c):rgl bd kk l0 0 b=rgl bd2 kk2 m0 0 c:=by
 have key:∀(n i:Nat) (b:β) (c:β2),l0.length-i=n->i<=l0.length->R i b c->rgl bd kk (l0.drop i) i b=rgl bd2 kk2 (m0.drop i) i c:=by
  intro n
  induction n with
  |zero =>
   intro i b c hn hi hr
   have:i=l0.length:=by omega
   subst this
   rw[List.drop_length,hl,List.drop_length]
   exact hk b c (by simpa using hr)
  |succ n ih =>
   intro i b c hn hi hr
   have h1:i<l0.length:=by omega
   have h2:i<m0.length:=by omega
   rw[List.drop_eq_getElem_cons h1,List.drop_eq_getElem_cons h2,rgl,rgl]
   exact h i _ _ b c _ _ (yA h1) (yA h2) hr fun b' c' hr'=>ih (i+1) b' c' (by omega) (by omega) hr'
 have:=key l0.length 0 b c (by simp) (Nat.zero_le _) h0
 simpa using this
theorem U04{bd bd2:α->Nat->β->(β->Option γ)->Option γ}{kk kk2:β->Option γ}{l:List α}{b:β}
  (h:∀i x b (k:β->Option γ),l[i]?=some x->bd x i b k=bd2 x i b k) (hk:∀b,kk b=kk2 b):rgl bd kk l 0 b=rgl bd2 kk2 l 0 b :=
 Z0P (fun _ b c=>b=c) rfl (fun i x y b c k k2 hx hy hr hkk=>by
  subst hr;rw[hx]at hy;cases hy
  rw[h i x b k hx]
  congr 1
  funext b'
  exact hkk b' b' rfl) (fun b c hr=>by subst hr;exact hk b) rfl
theorem U7{bd:α->Nat->β->(β->Option γ)->Option γ}{kk:β->Option γ}(I:Nat->β->Prop)(Q:Option γ->Prop){l0:List α}
  (h:∀i x b (k:β->Option γ),l0[i]?=some x->I i b->(∀b',I (i+1) b'->Q (k b'))->Q (bd x i b k)) (hk:∀b,I l0.length b->Q (kk b)) {b:β} (h0:I 0 b):Q (rgl bd kk l0 0 b):=by
 have key:∀(n i:Nat) (b:β),l0.length-i=n->i<=l0.length->I i b->Q (rgl bd kk (l0.drop i) i b):=by
  intro n
  induction n with
  |zero =>
   intro i b hn hi hr
   have:i=l0.length:=by omega
   subst this
   rw[List.drop_length]
   exact hk b hr
  |succ n ih =>
   intro i b hn hi hr
   have h1:i<l0.length:=by omega
   rw[List.drop_eq_getElem_cons h1,rgl]
   exact h i _ b _ (yA h1) hr fun b' hr'=>ih (i+1) b' (by omega) (by omega) hr'
 have:=key l0.length 0 b (by simp) (Nat.zero_le _) h0
 simpa using this
theorem YD{bd:α->Nat->β->(β->Option γ)->Option γ}{kk:β->Option γ}{f:β->α->β}:∀{l:List α} {i:Nat} {b:β},(∀x∈l,∀i b k,bd x i b k=k (f b x))->rgl bd kk l i b=kk (l.foldl f b)
 |[],_,_,_=>rfl
 |x::l,i,b,h=>by
  rw[rgl,h x (yJ ..),List.foldl_cons]
  exact YD fun y hy=>h y (yH _ hy)
theorem Mf{bd:α->Nat->Unit->(Unit->Option γ)->Option γ}{kk:Unit->Option γ}{p:α->Bool}{r:Option γ}:∀{l:List α} {i:Nat},(∀x∈l,∀i k,bd x i () k=bif p x then r else k ())->rgl bd kk l i ()=bif l.any p then r else kk ()
 |[],_,_=>rfl
 |x::l,i,h=>by
  rw[rgl,h x (yJ ..),Mf fun y hy=>h y (yH _ hy),List.any_cons]
  cases p x<;>rfl
theorem U1f{α2:Type}{bd:α->Nat->β->(β->Option γ)->Option γ}{kk:β->Option γ}{f:α2->α}:∀{l:List α2} {i:Nat} {b:β},rgl bd kk (l.map f) i b=rgl (fun x=>bd (f x)) kk l i b
 |[],_,_=>rfl
 |x::l,i,b=>by
  rw[List.map_cons,rgl,rgl]
  congr 1
  funext b'
  exact U1f
theorem M8{bs:Nat}{bd:α->Nat->List β->(List β->Option γ)->Option γ}{kk:List β->Option γ}{p:α->Bool}{f:α->β}:∀{l:List α} {i:Nat} {acc:List β},
  (∀x∈l,∀i b k,bd x i b k=bif p x then(appL bs b [f x]).bind k else k b)->(acc.length+l.length)*bs<=140737488355328->rgl bd kk l i acc=kk (acc++(l.filter p).map f)
 |[],_,acc,_,_=>by simp[rgl]
 |x::l,i,acc,h,hb=>by
  rw[rgl,h x (yJ ..)]
  have hb1:(acc.length+1+l.length)*bs<=140737488355328:=by simpa[Nat.add_assoc,Nat.add_comm 1]using hb
  cases hp:p x with
  |true =>
   have:(acc.length+1)*bs<=(acc.length+1+l.length)*bs:=Nat.mul_le_mul_right _ (by omega)
   rw[yN,M0 (by simp;omega),bS,M8 (fun y hy=>h y (yH _ hy)) (by simpa using hb1)]
   simp[hp]
  |false =>
   have:(acc.length+l.length)*bs<=(acc.length+1+l.length)*bs:=Nat.mul_le_mul_right _ (by omega)
   rw[yM,M8 (fun y hy=>h y (yH _ hy)) (by omega)]
   simp[hp]
theorem W0c{bd:β->(β->Option γ)->Option γ}(mk:Nat->σ->β){B:Nat->Nat->σ->(σ->Option γ)->Option γ}{kk:σ->Option γ}{n:Nat}
  (h1:∀i st k,i<n->bd (mk i st) k=B i i st fun st'=>k (mk (i+1) st')) (h2:∀i st k,n<=i->bd (mk i st) k=kk st):∀(fuel i:Nat) (st:σ),n-i<fuel->whl bd fuel (mk i st)=rgl B kk (List.range' i (n-i)) i st
 |0,i,st,h=>by omega
 |fuel+1,i,st,h=>by
  rw[whl]
  by_cases hi:i<n
  .rw[h1 i st _ hi,show n-i=n-(i+1)+1 by omega,List.range'_succ,rgl]
   congr 1
   funext st'
   exact W0c mk h1 h2 fuel (i+1) st' (by omega)
  .rw[h2 i st _ (by omega),show n-i=0 by omega]
   rfl
theorem UQ{bd:β->(β->Option γ)->Option γ}(Q:β->Option γ->Prop)(m:β->Nat)(I:β->Prop)(h:∀b (k:β->Option γ),I b->(∀b',I b'->m b'<m b->Q b' (k b'))->Q b (bd b k)):∀(fuel:Nat) (b:β),I b->m b<fuel->Q b (whl bd fuel b)
 |0,_,_,h=>by omega
 |fuel+1,b,hI,hm=>by
  rw[whl]
  exact h b _ hI fun b' hI' hlt=>UQ Q m I h fuel b' hI' (by omega)
end
end
def V0G:L :=
.seq (rE 2 (cB false))
 (sR [mV 3 0,.bi 4 .geq 3 (kI 0),mV 5 4,gT 5 (mV 6 0),gT 5 (.bi 7 .leq 6 (kI 1000000)),.pk 8 5 7 (cB false),mV 2 8]
 gR)
def XH(n1:Int):Option Bool :=
 some ((decide (0<=n1))&&(decide (n1<=1000000)))
theorem J0p{n1:Int}{r:Bool}(H:XH n1=some r):Snd Tryz.prog Ow [iV n1] (.bool r) []:=by
 refine wS V0G [.t 2] ?_
 unfold XH at H
 obtain rfl:=sI H
 exact wP (wE [(2,.d)])
def Q6(n1:Int):Bool :=
 ((decide (0<=n1))&&(decide (n1<=1000000)))
theorem O0N(n1:Int):XH n1=some (Q6 n1):=by
 unfold XH Q6
 first|rfl|simp only[J5]
theorem LQ(n1:Int):Snd Tryz.prog Ow [iV n1] (.bool (Q6 n1)) []:=J0p (O0N n1)
def W0A:L :=
.seq (rE 2 (cB false))
 (sR [mV 3 0,.bi 4 .geq 3 (kI 0),mV 5 4,gT 5 (mV 6 0),gT 5 (.bi 7 .leq 6 (kI 1000000000)),.pk 8 5 7 (cB false),mV 2 8]
 gR)
def WA(n1:Int):Option Bool :=
 some ((decide (0<=n1))&&(decide (n1<=1000000000)))
theorem O0j{n1:Int}{r:Bool}(H:WA n1=some r):Snd Tryz.prog M3 [iV n1] (.bool r) []:=by
 refine wS W0A [.t 2] ?_
 unfold WA at H
 obtain rfl:=sI H
 exact wP (wE [(2,.d)])
def Q1(n1:Int):Bool :=
 ((decide (0<=n1))&&(decide (n1<=1000000000)))
theorem M0E(n1:Int):WA n1=some (Q1 n1):=by
 unfold WA Q1
 first|rfl|simp only[J5]
theorem U4(n1:Int):Snd Tryz.prog M3 [iV n1] (.bool (Q1 n1)) []:=O0j (M0E n1)
def Y0R:L :=
sR [.bx 1 0,.mv 2 (cB false)]
 (sR [fA 3 1 0,lF 4 3 1,cQ 5 Ow [4],mV 6 5,gT 6 (fA 7 1 1),gT 6 (lF 8 7 1),gT 6 (cQ 9 Ow [8]),.pk 10 6 9 (cB false),mV 11 10,gT 11 (fA 12 1 2),gT 11 (lF 13 12 1),gT 11 (cQ 14 Ow [13]),.pk 15 11 14 (cB false),mV 2 15]
 gR)
def QO(v1:Vec):Option Bool :=
 some (((Q6 v1.a)&&(Q6 v1.b))&&(Q6 v1.c))
theorem Y0x{v1:Vec}{r:Bool}(H:QO v1=some r):Snd Tryz.prog U3 [eVec v1] (.bool r) []:=by
 refine wS Y0R [.t 2] ?_
 unfold QO at H
 refine wG [.c 5 (LQ v1.a),.g 9 [((Q6 v1.a),true)] (.call _ _ _ _ _ (AEs.refl _) (fun _=>LQ v1.b)),.g 14 [(((Q6 v1.a)&&(Q6 v1.b)),true)] (.call _ _ _ _ _ (AEs.refl _) (fun _=>LQ v1.c))] fun _=>?_
 replace H:=sI H;subst H
 exact wE [(2,.d)]
def W0(v1:Vec):Bool :=
 (((Q6 v1.a)&&(Q6 v1.b))&&(Q6 v1.c))
theorem W0V(v1:Vec):QO v1=some (W0 v1):=by
 unfold QO W0
 first|rfl|simp only[J5]
theorem Q3(v1:Vec):Snd Tryz.prog U3 [eVec v1] (.bool (W0 v1)) []:=Y0x (W0V v1)
def O0A:L :=
sR [.bx 2 0,.bx 3 1,.mv 4 (cB false)]
 (sR [lT 5 2 3,cQ 6 U3 [5],mV 7 6,gT 7 (lT 8 3 3),gT 7 (cQ 9 U3 [8]),.pk 10 7 9 (cB false),mV 11 10,gT 11 (fA 12 2 0),gT 11 (lF 13 12 1),gT 11 (fA 14 3 0),gT 11 (lF 15 14 1),gT 11 (bI 16 .leq 13 15),.pk 17 11 16 (cB false),mV 18 17,gT 18 (fA 19 2 1),gT 18 (lF 20 19 1),gT 18 (fA 21 3 1),gT 18 (lF 22 21 1),gT 18 (bI 23 .leq 20 22),.pk 24 18 23 (cB false),mV 25 24,gT 25 (fA 26 2 2),gT 25 (lF 27 26 1),gT 25 (fA 28 3 2),gT 25 (lF 29 28 1),gT 25 (bI 30 .leq 27 29),.pk 31 25 30 (cB false),mV 4 31]
 gR)
def OA(a1 b2:Vec):Option Bool :=
 some (((((W0 a1)&&(W0 b2))&&(decide (a1.a<=b2.a)))&&(decide (a1.b<=b2.b)))&&(decide (a1.c<=b2.c)))
theorem M0j{a1 b2:Vec}{r:Bool}(H:OA a1 b2=some r):Snd Tryz.prog Qp [eVec a1,eVec b2] (.bool r) []:=by
 refine wS O0A [.t 4] ?_
 unfold OA at H
 refine wG [.c 6 (Q3 a1),.g 9 [((W0 a1),true)] (.call _ _ _ _ _ (AEs.refl _) (fun _=>Q3 b2))] fun _=>?_
 replace H:=sI H;subst H
 exact wE [(4,.d)]
def L3(a1 b2:Vec):Bool :=
 (((((W0 a1)&&(W0 b2))&&(decide (a1.a<=b2.a)))&&(decide (a1.b<=b2.b)))&&(decide (a1.c<=b2.c)))
theorem Z0F(a1 b2:Vec):OA a1 b2=some (L3 a1 b2):=by
 unfold OA L3
 first|rfl|simp only[J5]
theorem UK(a1 b2:Vec):Snd Tryz.prog Qp [eVec a1,eVec b2] (.bool (L3 a1 b2)) []:=M0j (Z0F a1 b2)
def O0G:L :=
sR [.bx 2 0,.bx 3 1,.al 4 [.int .i64 0,.int .i64 0,.int .i64 0],.mv 5 (cB false)]
 (.seq (sR [lT 7 2 3,cQ 8 U3 [7],.un 9 8,mV 10 9,gF 10 (lT 11 3 3),gF 10 (cQ 12 U3 [11]),gF 10 (.un 13 12),.pk 14 10 (cB true) 13]
 (.cond 14 (sR [.bd 15 [.int .i64 0,.int .i64 0,.int .i64 0] [],.st 4 15 3,.mv 5 (cB false)]
 gR)
 .skip))
 (sR [fA 16 2 0,lF 17 16 1,fA 18 3 0,lF 19 18 1,bI 20 .add 17 19,fA 21 2 1,lF 22 21 1,fA 23 3 1,lF 24 23 1,bI 25 .add 22 24,fA 26 2 2,lF 27 26 1,fA 28 3 2,lF 29 28 1,bI 30 .add 27 29,.bd 31 [.int .i64 0,.int .i64 0,.int .i64 0] [(0,1,20),(1,1,25),(2,1,30)],.al 6 [.int .i64 0,.int .i64 0,.int .i64 0],.st 6 31 3]
 (.seq (sR [lT 32 6 3,cQ 33 U3 [32],.un 34 33]
 (.cond 34 (sR [.bd 35 [.int .i64 0,.int .i64 0,.int .i64 0] [],.st 4 35 3,.mv 5 (cB false)]
 gR)
 .skip))
 (sR [lT 36 6 3,.st 4 36 3,.mv 5 (cB true)]
 gR))))
def WH(a1 b2:Vec):Option (Vec×Bool) :=
 bif ((!(W0 a1))||(!(W0 b2)))then(some ((Vec.mk 0 0 0),false))else(bif (!(W0 (Vec.mk (w64 (a1.a+b2.a)) (w64 (a1.b+b2.b)) (w64 (a1.c+b2.c)))))then(some ((Vec.mk 0 0 0),false))else(some ((Vec.mk (w64 (a1.a+b2.a)) (w64 (a1.b+b2.b)) (w64 (a1.c+b2.c))),true)))
theorem V0q{a1 b2:Vec}{r:Vec×Bool}(H:WH a1 b2=some r):Snd Tryz.prog ZY [eVec a1,eVec b2] (.tup [eVec r.1,.bool r.2]) []:=by
 refine wS O0G [.c 4 3 true,.t 5] ?_
 unfold WH at H
 refine wG [.c 8 (Q3 a1),.g 12 [((!(W0 a1)),false)] (.call _ _ _ _ _ (AEs.refl _) (fun _=>Q3 b2))] fun _=>?_
 refine O0 H (fun H=>?_) fun H=>?_
 .refine wP ?_
  replace H:=sI H;subst H
  exact wN [(4,.d),(5,.d)] [(4,[])] [] [] [] []
 .refine wG [.u 33 (.call _ _ _ _ _ (AEs.refl _) (fun _=>Q3 (Vec.mk (w64 (a1.a+b2.a)) (w64 (a1.b+b2.b)) (w64 (a1.c+b2.c)))))] fun _=>?_
  refine O0 H (fun H=>?_) fun H=>?_
  .refine wP ?_
   replace H:=sI H;subst H
   exact wN [(4,.d),(5,.d)] [(4,[])] [] [] [] []
  .refine wP ?_
   replace H:=sI H;subst H
   exact wN [(4,.d),(5,.d)] [(4,[])] [] [] [] []
def Uy(a1 b2:Vec):Vec×Bool :=
 bif ((!(W0 a1))||(!(W0 b2)))then(((Vec.mk 0 0 0),false))else(bif (!(W0 (Vec.mk (w64 (a1.a+b2.a)) (w64 (a1.b+b2.b)) (w64 (a1.c+b2.c)))))then(((Vec.mk 0 0 0),false))else(((Vec.mk (w64 (a1.a+b2.a)) (w64 (a1.b+b2.b)) (w64 (a1.c+b2.c))),true)))
theorem Z0O(a1 b2:Vec):WH a1 b2=some (Uy a1 b2):=by
 unfold WH Uy
 first|rfl|simp only[J5]
theorem Y0F(a1 b2:Vec):Snd Tryz.prog ZY [eVec a1,eVec b2] (.tup [eVec ((Uy a1 b2).1),.bool ((Uy a1 b2).2)]) []:=V0q (Z0O a1 b2)
def Q0G:L :=
sR [.bx 2 0,.bx 3 1,.al 4 [.int .i64 0,.int .i64 0,.int .i64 0],.mv 5 (cB false)]
 (.seq (sR [lT 6 3 3,lT 7 2 3,cQ 8 Qp [6,7],.un 9 8]
 (.cond 9 (sR [.bd 10 [.int .i64 0,.int .i64 0,.int .i64 0] [],.st 4 10 3,.mv 5 (cB false)]
 gR)
 .skip))
 (sR [fA 11 2 0,lF 12 11 1,fA 13 3 0,lF 14 13 1,bI 15 .sub 12 14,fA 16 2 1,lF 17 16 1,fA 18 3 1,lF 19 18 1,bI 20 .sub 17 19,fA 21 2 2,lF 22 21 1,fA 23 3 2,lF 24 23 1,bI 25 .sub 22 24,.bd 26 [.int .i64 0,.int .i64 0,.int .i64 0] [(0,1,15),(1,1,20),(2,1,25)],.st 4 26 3,.mv 5 (cB true)]
 gR))
def UH(a1 b2:Vec):Option (Vec×Bool) :=
 bif (!(L3 b2 a1))then(some ((Vec.mk 0 0 0),false))else(some ((Vec.mk (w64 (a1.a-b2.a)) (w64 (a1.b-b2.b)) (w64 (a1.c-b2.c))),true))
theorem Y0q{a1 b2:Vec}{r:Vec×Bool}(H:UH a1 b2=some r):Snd Tryz.prog LX [eVec a1,eVec b2] (.tup [eVec r.1,.bool r.2]) []:=by
 refine wS Q0G [.c 4 3 true,.t 5] ?_
 unfold UH at H
 refine wG [.c 8 (UK b2 a1)] fun _=>?_
 refine O0 H (fun H=>?_) fun H=>?_
 .refine wP ?_
  replace H:=sI H;subst H
  exact wN [(4,.d),(5,.d)] [(4,[])] [] [] [] []
 .refine wP ?_
  replace H:=sI H;subst H
  exact wN [(4,.d),(5,.d)] [(4,[])] [] [] [] []
def X3(a1 b2:Vec):Vec×Bool :=
 bif (!(L3 b2 a1))then(((Vec.mk 0 0 0),false))else(((Vec.mk (w64 (a1.a-b2.a)) (w64 (a1.b-b2.b)) (w64 (a1.c-b2.c))),true))
theorem L0N(a1 b2:Vec):UH a1 b2=some (X3 a1 b2):=by
 unfold UH X3
 first|rfl|simp only[J5]
theorem L0E(a1 b2:Vec):Snd Tryz.prog LX [eVec a1,eVec b2] (.tup [eVec ((X3 a1 b2).1),.bool ((X3 a1 b2).2)]) []:=Y0q (L0N a1 b2)
def U0G:L :=
.seq (rE 4 (kI 0))
 (.seq (sR [mV 5 0,mV 6 1,bI 7 .lss 5 6]
 (.cond 7 (sR [mV 8 0,mV 4 8]
 gR)
 .skip))
 (sR [mV 9 1,mV 4 9]
 gR))
def VH(a1 b2:Int):Option Int :=
 bif (decide (a1<b2))then(some a1)else(some b2)
theorem Z0q{a1 b2 r:Int}(H:VH a1 b2=some r):Snd Tryz.prog Mw [iV a1,iV b2] (iV r) []:=by
 refine wS U0G [.t 4] ?_
 unfold VH at H
 refine wP ?_
 refine O0 H (fun H=>?_) fun H=>?_
 .obtain rfl:=sI H
  exact wP (wE [(4,.d)])
 .obtain rfl:=sI H
  exact wP (wE [(4,.d)])
def Xh(a1 b2:Int):Int :=
 bif (decide (a1<b2))then(a1)else(b2)
theorem M0N(a1 b2:Int):VH a1 b2=some (Xh a1 b2):=by
 unfold VH Xh
 first|rfl|simp only[J5]
theorem JQ(a1 b2:Int):Snd Tryz.prog Mw [iV a1,iV b2] (iV (Xh a1 b2)) []:=Z0q (M0N a1 b2)
def W0G:L :=
sR [.bx 2 0,.bx 3 1,.al 4 [.int .i64 0,.int .i64 0,.int .i64 0]]
 (.seq (sR [lT 5 2 3,cQ 6 U3 [5],.un 7 6,mV 8 7,gF 8 (lT 9 3 3),gF 8 (cQ 10 U3 [9]),gF 8 (.un 11 10),.pk 12 8 (cB true) 11]
 (.cond 12 (sR [.bd 13 [.int .i64 0,.int .i64 0,.int .i64 0] [],.st 4 13 3]
 gR)
 .skip))
 (.seq (.rq 16 [fA 14 2 0,lF 15 14 1,fA 16 3 0,lF 17 16 1,cQ 18 Mw [15,17],fA 19 2 1,lF 20 19 1,fA 21 3 1,lF 22 21 1,cQ 23 Mw [20,22],fA 24 2 2,lF 25 24 1,fA 26 3 2,lF 27 26 1,cQ 28 Mw [25,27],.bd 29 [.int .i64 0,.int .i64 0,.int .i64 0] [(0,1,18),(1,1,23),(2,1,28)],.st 4 29 3])
 gR))
def QH(a1 b2:Vec):Option Vec :=
 bif ((!(W0 a1))||(!(W0 b2)))then(some (Vec.mk 0 0 0))else(some (Vec.mk (Xh a1.a b2.a) (Xh a1.b b2.b) (Xh a1.c b2.c)))
theorem X0q{a1 b2 r:Vec}(H:QH a1 b2=some r):Snd Tryz.prog JX [eVec a1,eVec b2] (eVec r) []:=by
 refine wS W0G [.c 4 3 true] ?_
 unfold QH at H
 refine wG [.c 6 (Q3 a1),.g 10 [((!(W0 a1)),false)] (.call _ _ _ _ _ (AEs.refl _) (fun _=>Q3 b2))] fun _=>?_
 refine O0 H (fun H=>?_) fun H=>?_
 .refine wP ?_
  replace H:=sI H;subst H
  exact wN [(4,.d)] [(4,[])] [] [] [] []
 .refine wG [.c 18 (JQ a1.a b2.a),.c 23 (JQ a1.b b2.b),.c 28 (JQ a1.c b2.c)] fun _=>?_
  replace H:=sI H;subst H
  exact wN [(4,.d)] [(4,[])] [] [] [] []
def Vy(a1 b2:Vec):Vec :=
 bif ((!(W0 a1))||(!(W0 b2)))then((Vec.mk 0 0 0))else((Vec.mk (Xh a1.a b2.a) (Xh a1.b b2.b) (Xh a1.c b2.c)))
theorem J0N(a1 b2:Vec):QH a1 b2=some (Vy a1 b2):=by
 unfold QH Vy
 first|rfl|simp only[J5]
theorem J0E(a1 b2:Vec):Snd Tryz.prog JX [eVec a1,eVec b2] (eVec (Vy a1 b2)) []:=X0q (J0N a1 b2)
def M0H:L :=
.seq (rE 6 (cB false))
 (sR [mV 7 0,mV 8 1,bI 9 .geq 7 8,mV 10 9,gT 10 (mV 11 0),gT 10 (mV 12 2),gT 10 (bI 13 .leq 11 12),.pk 14 10 13 (cB false),mV 6 14]
 gR)
def YI(x1 lo2 hi3:Int):Option Bool :=
 some ((decide (lo2<=x1))&&(decide (x1<=hi3)))
theorem M0t{x1 lo2 hi3:Int}{r:Bool}(H:YI x1 lo2 hi3=some r):Snd Tryz.prog U1 [iV x1,iV lo2,iV hi3] (.bool r) []:=by
 refine wS M0H [.t 6] ?_
 unfold YI at H
 obtain rfl:=sI H
 exact wP (wE [(6,.d)])
def V0(x1 lo2 hi3:Int):Bool :=
 ((decide (lo2<=x1))&&(decide (x1<=hi3)))
theorem V0S(x1 lo2 hi3:Int):YI x1 lo2 hi3=some (V0 x1 lo2 hi3):=by
 unfold YI V0
 first|rfl|simp only[J5]
theorem Y1(x1 lo2 hi3:Int):Snd Tryz.prog U1 [iV x1,iV lo2,iV hi3] (.bool (V0 x1 lo2 hi3)) []:=M0t (V0S x1 lo2 hi3)
def L0H:L :=
.seq (rE 2 (cB false))
 (sR [mV 3 0,.cq 4 U1 [3,(kI 0),(kI 1000000000)],mV 2 4]
 gR)
def XI(t1:Int):Option Bool :=
 some (V0 t1 0 1000000000)
theorem L0t{t1:Int}{r:Bool}(H:XI t1=some r):Snd Tryz.prog Ze [iV t1] (.bool r) []:=by
 refine wS L0H [.t 2] ?_
 unfold XI at H
 refine wG [.c 4 (Y1 t1 0 1000000000)] fun _=>?_
 replace H:=sI H;subst H
 exact wE [(2,.d)]
def Q2(t1:Int):Bool :=
 (V0 t1 0 1000000000)
theorem O0S(t1:Int):XI t1=some (Q2 t1):=by
 unfold XI Q2
 first|rfl|simp only[J5]
theorem Oi(t1:Int):Snd Tryz.prog Ze [iV t1] (.bool (Q2 t1)) []:=L0t (O0S t1)
def Q0t:L :=
sR [.mv 2 (.c (.nl))]
 (sR [mV 3 0,.ap 4 (.c (.nl)) 3 1 8,mV 2 4]
 gR)
def Ov(l1:List Int):Option (List Int) :=
 (appL 8 ([]:List Int) l1).bind fun xs2=>some xs2
theorem X0u{l1:List Int}{r:(List Int)}(H:Ov l1=some r):Snd Tryz.prog M07 [rV 1 (l1.map eI)] (.sref 0) [⟨1,r.map eI,false⟩]:=by
 refine wS Q0t [.t 2] ?_
 unfold Ov at H
 obtain⟨xs2,h2,H⟩:=bB H
 refine wG [.u 4 (.ap _ _ _ _ fun _=>L0 eI h2)] fun _=>?_
 replace H:=sI H;subst H
 exact wN [(2,.d)] [] [(4,some 4,0)] [] [some 4] [⟨_,nw_I xs2⟩]
def J0R:L :=
sR [.bx 1 0,.mv 2 (cB false)]
 (sR [fA 3 1 0,lF 4 3 1,.cq 5 U1 [4,(kI 0),(kI 1000000)],mV 6 5,gT 6 (fA 7 1 1),gT 6 (lF 8 7 1),gT 6 (.cq 9 U1 [8,(kI 0),(kI 1000000)]),.pk 10 6 9 (cB false),mV 11 10,gT 11 (fA 12 1 2),gT 11 (lF 13 12 1),gT 11 (.cq 14 U1 [13,(kI 0),(kI 1000000)]),.pk 15 11 14 (cB false),mV 2 15]
 gR)
def YP(v1:Vec):Option Bool :=
 some (((V0 v1.a 0 1000000)&&(V0 v1.b 0 1000000))&&(V0 v1.c 0 1000000))
theorem V0C{v1:Vec}{r:Bool}(H:YP v1=some r):Snd Tryz.prog V6 [eVec v1] (.bool r) []:=by
 refine wS J0R [.t 2] ?_
 unfold YP at H
 refine wG [.c 5 (Y1 v1.a 0 1000000),.g 9 [((V0 v1.a 0 1000000),true)] (.call _ _ _ _ _ (AEs.refl _) (fun _=>Y1 v1.b 0 1000000)),.g 14 [(((V0 v1.a 0 1000000)&&(V0 v1.b 0 1000000)),true)] (.call _ _ _ _ _ (AEs.refl _) (fun _=>Y1 v1.c 0 1000000))] fun _=>?_
 replace H:=sI H;subst H
 exact wE [(2,.d)]
def M1(v1:Vec):Bool :=
 (((V0 v1.a 0 1000000)&&(V0 v1.b 0 1000000))&&(V0 v1.c 0 1000000))
theorem L0Y(v1:Vec):YP v1=some (M1 v1):=by
 unfold YP M1
 first|rfl|simp only[J5]
theorem L6(v1:Vec):Snd Tryz.prog V6 [eVec v1] (.bool (M1 v1)) []:=V0C (L0Y v1)
def Q0R:L :=
sR [.bx 3 0,.bx 4 1,.bx 5 2,.al 6 [.int .i64 0,.int .i64 0,.int .i64 0],.mv 7 (cB false)]
 (.seq (sR [lT 8 3 3,cQ 9 V6 [8],.un 10 9,mV 11 10,gF 11 (lT 12 4 3),gF 11 (cQ 13 V6 [12]),gF 11 (.un 14 13),.pk 15 11 (cB true) 14,mV 16 15,gF 16 (lT 17 5 3),gF 16 (cQ 18 V6 [17]),gF 16 (.un 19 18),.pk 20 16 (cB true) 19]
 (.cond 20 (sR [.bd 21 [.int .i64 0,.int .i64 0,.int .i64 0] [],.st 6 21 3,.mv 7 (cB false)]
 gR)
 .skip))
 (sR [lT 22 5 3,.st 6 22 3,.mv 7 (cB true)]
 gR))
def ZP(a1 b2 v3:Vec):Option (Vec×Bool) :=
 bif (((!(M1 a1))||(!(M1 b2)))||(!(M1 v3)))then(some ((Vec.mk 0 0 0),false))else(some (v3,true))
theorem X0C{a1 b2 v3:Vec}{r:Vec×Bool}(H:ZP a1 b2 v3=some r):Snd Tryz.prog W07 [eVec a1,eVec b2,eVec v3] (.tup [eVec r.1,.bool r.2]) []:=by
 refine wS Q0R [.c 6 3 true,.t 7] ?_
 unfold ZP at H
 refine wG [.c 9 (L6 a1),.g 13 [((!(M1 a1)),false)] (.call _ _ _ _ _ (AEs.refl _) (fun _=>L6 b2)),.g 18 [(((!(M1 a1))||(!(M1 b2))),false)] (.call _ _ _ _ _ (AEs.refl _) (fun _=>L6 v3))] fun _=>?_
 refine O0 H (fun H=>?_) fun H=>?_
 .refine wP ?_
  replace H:=sI H;subst H
  exact wN [(6,.d),(7,.d)] [(6,[])] [] [] [] []
 .refine wP ?_
  replace H:=sI H;subst H
  exact wN [(6,.d),(7,.d)] [(6,[])] [] [] [] []
def Lm(a1 b2 v3:Vec):Vec×Bool :=
 bif (((!(M1 a1))||(!(M1 b2)))||(!(M1 v3)))then(((Vec.mk 0 0 0),false))else((v3,true))
theorem O0Y(a1 b2 v3:Vec):ZP a1 b2 v3=some (Lm a1 b2 v3):=by
 unfold ZP Lm
 first|rfl|simp only[J5]
theorem U0S(a1 b2 v3:Vec):Snd Tryz.prog W07 [eVec a1,eVec b2,eVec v3] (.tup [eVec ((Lm a1 b2 v3).1),.bool ((Lm a1 b2 v3).2)]) []:=X0C (O0Y a1 b2 v3)
def V0I:L :=
sR [.bx 2 0,.bx 3 1,.al 4 [.int .i64 0,.int .i64 0,.int .i64 0],.mv 5 (cB false)]
 (sR [lT 6 2 3,lT 7 3 3,fA 8 2 0,lF 9 8 1,fA 10 3 0,lF 11 10 1,bI 12 .sub 9 11,fA 13 2 1,lF 14 13 1,fA 15 3 1,lF 16 15 1,bI 17 .sub 14 16,fA 18 2 2,lF 19 18 1,fA 20 3 2,lF 21 20 1,bI 22 .sub 19 21,.bd 23 [.int .i64 0,.int .i64 0,.int .i64 0] [(0,1,12),(1,1,17),(2,1,22)],cQ 24 W07 [6,7,23],eX 25 24 0,eX 26 24 1,.st 4 25 3,mV 5 26]
 gR)
def UI(a1 b2:Vec):Option (Vec×Bool) :=
 some (((Lm a1 b2 (Vec.mk (w64 (a1.a-b2.a)) (w64 (a1.b-b2.b)) (w64 (a1.c-b2.c)))).1),(Lm a1 b2 (Vec.mk (w64 (a1.a-b2.a)) (w64 (a1.b-b2.b)) (w64 (a1.c-b2.c)))).2)
theorem V0u{a1 b2:Vec}{r:Vec×Bool}(H:UI a1 b2=some r):Snd Tryz.prog MY [eVec a1,eVec b2] (.tup [eVec r.1,.bool r.2]) []:=by
 refine wS V0I [.c 4 3 true,.t 5] ?_
 unfold UI at H
 refine wG [.u 24 (.call _ _ _ _ _ (AEs.refl _) (fun _=>U0S a1 b2 (Vec.mk (w64 (a1.a-b2.a)) (w64 (a1.b-b2.b)) (w64 (a1.c-b2.c)))))] fun _=>?_
 replace H:=sI H;subst H
 exact wN [(4,.d),(5,.d)] [(4,[])] [] [] [] []
def Ve(a1 b2:Vec):Vec×Bool :=
 (((Lm a1 b2 (Vec.mk (w64 (a1.a-b2.a)) (w64 (a1.b-b2.b)) (w64 (a1.c-b2.c)))).1),(Lm a1 b2 (Vec.mk (w64 (a1.a-b2.a)) (w64 (a1.b-b2.b)) (w64 (a1.c-b2.c)))).2)
theorem X0T(a1 b2:Vec):UI a1 b2=some (Ve a1 b2):=by
 unfold UI Ve
 first|rfl|simp only[J5]
theorem V0J(a1 b2:Vec):Snd Tryz.prog MY [eVec a1,eVec b2] (.tup [eVec ((Ve a1 b2).1),.bool ((Ve a1 b2).2)]) []:=V0u (X0T a1 b2)
def time (n:Int):Bool:=decide (0<=n)&&decide (n<=1000000000)
theorem YV{n:Int}:time n=true↔0<=n/\n<=1000000000:=by simp[time]
theorem LJ{v:Vec}:W0 v=true↔(0<=v.a/\v.a<=1000000)/\(0<=v.b/\v.b<=1000000)/\(0<=v.c/\v.c<=1000000):=by
 simp[W0,Q6,and_assoc]
theorem Mv(v:Vec):M1 v=W0 v:=rfl
theorem X0b(n:Int):Q2 n=time n:=rfl
theorem Je(n:Int):Q1 n=time n:=rfl
theorem U0J{a b:Vec}(ha:W0 a=true):Ve a b=X3 a b:=by
 have h:=LJ.1 ha
 unfold Ve Lm X3 L3
 simp only[Mv,ha]
 cases hb:W0 b with
 |false=>simp
 |true =>
  have h2:=LJ.1 hb
  have w1:w64 (a.a-b.a)=a.a-b.a:=V4 (by omega)
  have w2:w64 (a.b-b.b)=a.b-b.b:=V4 (by omega)
  have w3:w64 (a.c-b.c)=a.c-b.c:=V4 (by omega)
  simp only[w1,w2,w3]
  cases hc:W0 (Vec.mk (a.a-b.a) (a.b-b.b) (a.c-b.c))with
  |false =>
   have:¬ ((b.a<=a.a/\b.b<=a.b)/\b.c<=a.c):=fun q=>by
    rw[LJ.2 (by simp only;omega)]at hc;cases hc
   by_cases q1:b.a<=a.a<;>by_cases q2:b.b<=a.b<;>by_cases q3:b.c<=a.c<;>simp[q1,q2,q3]at this ⊢
  |true =>
   have q:=LJ.1 hc
   simp only at q
   have q1:b.a<=a.a:=by omega
   have q2:b.b<=a.b:=by omega
   have q3:b.c<=a.c:=by omega
   simp[q1,q2,q3]
def Q0A:L :=
sR [.bx 2 0,.mv 4 (.c (.nl))]
 (sR [.bs 7 1 [] true,mV 5 7]
 (.seq (.seq (rE 6 (kI 1))
 (.blk 0 (.loop (.gw (.seq (sR [mV 8 6,fA 9 2 0,lF 10 9 1,.ln 11 10,bI 12 .lss 8 11]
 (.cond 12 .skip
 (.exit 0)))
 (.seq (.blk 1 (sR [fA 15 2 0,lF 16 15 1,mV 17 6,iA 18 16 17 1,lF 19 18 1,mV 20 1,bI 21 .eql 19 20]
 (.cond 21 (.reg [mV 22 5,mV 23 6,.bs 24 1 [23] false,.ap 25 22 24 1 8,mV 5 25])
 .skip)))
 (.reg [mV 13 6,.bi 14 .add 13 (kI 1),mV 6 14])))))))
 (sR [mV 26 5,mV 4 26]
 gR)))
def Mh(t1:Topo)(s2:Int)(v3:Int×(List Int))(k3:(Int×(List Int))->Option (List Int)):Option (List Int) :=
 bif (decide (v3.1<(t1.parents.length:Int)))then((idx t1.parents v3.1).bind fun e5=>bif (e5==s2)then((appL 8 v3.2 [v3.1]).bind fun xs6=>k3 ((w64 (v3.1+1)),xs6))else(k3 ((w64 (v3.1+1)),v3.2)))else(some v3.2)
def Mg(t1:Topo)(s2:Int):Option (List Int) :=
 whl (Mh t1 s2) 9223372036854775807 (1,[])
theorem Yu{t1:Topo}{s2:Int}{r:(List Int)}(H:Mg t1 s2=some r):Snd Tryz.prog Up [W4 .rd t1,iV s2] (nV 1 (r.map eI)) []:=by
 refine wS Q0A [.t 4] ?_
 unfold Mg at H
 refine wP ?_
 refine wW (fun(v3:Int×(List Int))=>⟨[(1,iV s2),(2,.ptr 2 0),(5,.sref 7),(6,iV v3.1)],[],[(2,(W4 .rd t1).cells)],[(7,⟨1,v3.2.map eI,false⟩)]⟩) H (fun v3 I m k3 H N17=>?_)
 unfold Mh at H
 refine wG [.u 11 (.ln _ _ fun _=>lm t1.parents eI)] fun q4=>?_
 refine O0 H (fun H=>?_) fun H=>?_
 .obtain⟨e5,h5,H⟩:=bB H
  refine wG [.u 18 (.ix _ _ _ fun _=>Q0 eI h5)] fun _=>?_
  refine O0 H (fun H=>?_) fun H=>?_
  .obtain⟨xs6,h6,H⟩:=bB H
   refine wG [.u 25 (.ap _ _ _ _ fun _=>L0 eI h6)] fun _=>?_
   exact wT (N17 _ H)
  .refine wP ?_
   exact wT (N17 _ H)
 .refine wP ?_
  replace H:=sI H;subst H
  exact wN [(4,.f)] [] [] [7] [] [⟨_,nw_I v3.2⟩]
def U0s:L :=
sR [.bx 2 0,.mv 4 (kI 0)]
 (.seq (rE 5 (kI (-1)))
 (.seq (sR [lT 9 2 2,mV 10 1,cQ 11 Up [9,10],.ln 12 11,.mv 13 (kI 0)]
 (.blk 0 (.loop (.gw (sR [bI 14 .lss 13 12]
 (.seq (.cond 14 .skip
 (.exit 0))
 (.seq (.blk 1 (sR [mV 15 13,iA 16 11 13 1,lF 17 16 1,mV 6 15,mV 7 17]
 (sR [lT 18 2 2,mV 19 7,cQ 20 O5 [18,19],mV 8 20]
 (.seq (sR [mV 21 8,.bi 22 .lss 21 (kI 0),mV 23 22,gF 23 (mV 24 6),gF 23 (.bi 25 .gtr 24 (kI 0)),gF 23 (mV 26 25),gT 26 (mV 27 8),gT 26 (mV 28 5),gT 26 (bI 29 .neq 27 28),gF 23 (.pk 30 26 29 (cB false)),.pk 31 23 (cB true) 30]
 (.cond 31 (.seq (rE 4 (kI (-1)))
 gR)
 .skip))
 (.reg [mV 32 8,mV 5 32])))))
 (.reg [.bi 33 .add 13 (kI 1),mV 13 33]))))))))
 (sR [mV 34 5,.bi 35 .add 34 (kI 1),mV 4 35]
 gR)))
def Xy(rc:Topo->Int->Option Int)(t1:Topo)(x5:Int)(i5:Nat)(v5:Int)(k5:Int->Option Int):Option Int :=
 (rc t1 x5).bind fun n6=>bif ((decide (n6<0))||((decide (0<(i5:Int)))&&(n6 != v5)))then(some (-1))else(k5 n6)
def Yy(v5:Int):Option Int :=
 some (w64 (v5+1))
def Me:Nat->Topo->Int->Option Int
 |0,_,_=>none
 |fuel+1,t1,s2 =>
 (Mg t1 s2).bind fun y3=>rgl (Xy (Me fuel) t1) Yy y3 0 (-1)
def W7(t1:Topo)(s2:Int):Option Int:=Me 100000000 t1 s2
theorem M0e(fuel:Nat):∀{t1:Topo} {s2 r:Int} (_:Me fuel t1 s2=some r),Snd Tryz.prog O5 [W4 .rd t1,.int .i64 s2] (.int .i64 r) []:=by
 induction fuel with
 |zero=>intro t1 s2 r H;cases H
 |succ fuel IH =>
 intro t1 s2 r H
 refine wS U0s [.t 4] ?_
 rw[Me]at H
 obtain⟨y3,h3,H⟩:=bB H
 refine wG [.c 11 (Yu h3),.u 12 (.ln _ _ fun _=>lm y3 eI)] fun q4=>?_
 refine wR (fun(i5:Nat) (v5:Int)=>⟨[(2,.ptr 2 0),(5,iV v5),(11,nV 1 (y3.map eI)),(12,iV (y3.length:Int)),(13,iV (i5:Int))],[],[(2,(W4 .rd t1).cells)],[]⟩) H (fun i5 x5 v5 I m k5 hxv5 hiv5 H N25=>?_) (fun v5 I m H=>?_)
 .unfold Xy at H
  refine wP ?_
  refine wt (ltT hiv5) ?_
  obtain⟨n6,h6,H⟩:=bB H
  refine wG [.u 16 (.ix _ _ _ fun _=>Q0 eI (J0 hxv5)),.c 20 (IH h6)] fun _=>?_
  refine O0 H (fun H=>?_) fun H=>?_
  .obtain rfl:=sI H
   exact wP (wE [(4,.d)])
  .refine wG [.w 33 (wi .i64 rfl hiv5 q4.1)] fun _=>?_
   exact wT (N25 _ H)
 .unfold Yy at H
  refine wP ?_
  refine wf (ltF y3.length) ?_
  obtain rfl:=sI H
  exact wP (wE [(4,.d)])
theorem J8{t1:Topo}{s2 r:Int}(H:W7 t1 s2=some r):Snd Tryz.prog O5 [W4 .rd t1,iV s2] (iV r) []:=M0e _ H
def M0G:L :=
sR [.bx 1 0,.mv 2 (cB false)]
 (.seq (sR [fA 6 1 0,lF 7 6 1,.ln 8 7,.bi 9 .lss 8 (kI 1),mV 10 9,gF 10 (fA 11 1 0),gF 10 (lF 12 11 1),gF 10 (.ln 13 12),gF 10 (.bi 14 .gtr 13 (kI 24)),.pk 15 10 (cB true) 14,mV 16 15,gF 16 (fA 17 1 1),gF 16 (lF 18 17 1),gF 16 (.ln 19 18),gF 16 (.bi 20 .gtr 19 (kI 24)),.pk 21 16 (cB true) 20,mV 22 21,gF 22 (fA 23 1 0),gF 22 (lF 24 23 1),gF 22 (.ia 25 24 (kI 0) 1),gF 22 (lF 26 25 1),gF 22 (.bi 27 .neq 26 (kI 0)),.pk 28 22 (cB true) 27]
 (.cond 28 (.seq (rE 2 (cB false))
 gR)
 .skip))
 (.seq (.seq (rE 3 (kI 1))
 (.blk 0 (.loop (.gw (.seq (sR [mV 29 3,fA 30 1 0,lF 31 30 1,.ln 32 31,bI 33 .lss 29 32]
 (.cond 33 .skip
 (.exit 0)))
 (.seq (.blk 1 (sR [fA 36 1 0,lF 37 36 1,mV 38 3,iA 39 37 38 1,lF 40 39 1,.bi 41 .lss 40 (kI 0),mV 42 41,gF 42 (fA 43 1 0),gF 42 (lF 44 43 1),gF 42 (mV 45 3),gF 42 (iA 46 44 45 1),gF 42 (lF 47 46 1),gF 42 (mV 48 3),gF 42 (bI 49 .geq 47 48),.pk 50 42 (cB true) 49]
 (.cond 50 (.seq (rE 2 (cB false))
 gR)
 .skip)))
 (.reg [mV 34 3,.bi 35 .add 34 (kI 1),mV 3 35])))))))
 (.seq (sR [fA 51 1 1,lF 52 51 1,.ln 53 52,.mv 54 (kI 0)]
 (.blk 2 (.loop (.gw (sR [bI 55 .lss 54 53]
 (.seq (.cond 55 .skip
 (.exit 2))
 (.seq (.blk 3 (sR [iA 56 52 54 4,lT 57 56 4,.al 5 [.int .i64 0,.int .i64 0,.int .i64 0,.int .i64 0],.st 5 57 4]
 (sR [fA 58 5 0,lF 59 58 1,.bi 60 .lss 59 (kI 0),mV 61 60,gF 61 (fA 62 5 0),gF 61 (lF 63 62 1),gF 61 (fA 64 1 0),gF 61 (lF 65 64 1),gF 61 (.ln 66 65),gF 61 (bI 67 .geq 63 66),.pk 68 61 (cB true) 67,mV 69 68,gF 69 (lT 70 1 2),gF 69 (fA 71 5 0),gF 69 (lF 72 71 1),gF 69 (cQ 73 Up [70,72]),gF 69 (.ln 74 73),gF 69 (.bi 75 .gtr 74 (kI 0)),.pk 76 69 (cB true) 75,mV 77 76,gF 77 (fA 78 5 1),gF 77 (lT 79 78 3),gF 77 (cQ 80 U3 [79]),gF 77 (.un 81 80),.pk 82 77 (cB true) 81]
 (.cond 82 (.seq (rE 2 (cB false))
 gR)
 .skip))))
 (.reg [.bi 83 .add 54 (kI 1),mV 54 83]))))))))
 (sR [lT 84 1 2,.cq 85 O5 [84,(kI 0)],.bi 86 .geq 85 (kI 0),mV 2 86]
 gR))))
def Oj(t1:Topo)(x8:Node)(_:Nat)(_:Unit)(k8:Unit->Option Bool):Option Bool :=
 (bif ((decide (x8.leaf<0))||(decide ((t1.parents.length:Int)<=x8.leaf)))then some default else(Mg t1 x8.leaf)).bind fun y9=>bif ((((decide (x8.leaf<0))||(decide ((t1.parents.length:Int)<=x8.leaf)))||(decide (0<(y9.length:Int))))||(!(W0 x8.cap)))then(some false)else(k8 ())
def Lu(t1:Topo)(_:Unit):Option Bool :=
 (W7 t1 0).bind fun n10=>some (decide (0<=n10))
def Mj(t1:Topo)(v4:Int)(k4:Int->Option Bool):Option Bool :=
 bif (decide (v4<(t1.parents.length:Int)))then((idx t1.parents v4).bind fun e6=>bif ((decide (e6<0))||(decide (v4<=e6)))then(some false)else(k4 (w64 (v4+1))))else(rgl (Oj t1) (Lu t1) t1.nodes 0 ())
def Xe(t1:Topo):Option Bool :=
 (bif (((decide ((t1.parents.length:Int)<1))||(decide (24<(t1.parents.length:Int))))||(decide (24<(t1.nodes.length:Int))))then some default else(idx t1.parents 0)).bind fun e2=>bif ((((decide ((t1.parents.length:Int)<1))||(decide (24<(t1.parents.length:Int))))||(decide (24<(t1.nodes.length:Int))))||(e2 != 0))then(some false)else(whl (Mj t1) 9223372036854775807 1)
theorem YR{t1:Topo}{r:Bool}(H:Xe t1=some r):Snd Tryz.prog JI [W4 .rd t1] (.bool r) []:=by
 refine wS M0G [.t 2] ?_
 unfold Xe at H
 obtain⟨e2,h2,H⟩:=bB H
 refine wG [.u 8 (.ln _ _ fun _=>lm t1.parents eI),.g 13 [((decide ((t1.parents.length:Int)<1)),false)] (.ln _ _ fun _=>lm t1.parents eI),.g 19 [(((decide ((t1.parents.length:Int)<1))||(decide (24<(t1.parents.length:Int)))),false)] (.ln _ _ fun _=>lm t1.nodes V1),.g 25 [(_,false)] (.ix _ _ _ fun q=>Q0 eI (bF q.1 h2))] fun q3=>?_
 refine O0 H (fun H=>?_) fun H=>?_
 .obtain rfl:=sI H
  exact wP (wE [(2,.d)])
 .refine wP ?_
  refine wW (fun(v4:Int)=>⟨[(1,.ptr 1 0),(3,iV v4)],[],[(1,(W4 .rd t1).cells)],[]⟩) H (fun v4 I m k4 H N25=>?_)
  unfold Mj at H
  refine wG [.u 32 (.ln _ _ fun _=>lm t1.parents eI)] fun q5=>?_
  refine O0 H (fun H=>?_) fun H=>?_
  .obtain⟨e6,h6,H⟩:=bB H
   refine wG [.u 39 (.ix _ _ _ fun _=>Q0 eI h6),.g 46 [((decide (e6<0)),false)] (.ix _ _ _ fun _=>Q0 eI h6)] fun _=>?_
   refine O0 H (fun H=>?_) fun H=>?_
   .obtain rfl:=sI H
    exact wP (wE [(2,.d)])
   .refine wP ?_
    exact wT (N25 _ H)
  .refine wG [.u 53 (.ln _ _ fun _=>lm t1.nodes V1)] fun q7=>?_
   refine wR (fun(i8:Nat) (v8:Unit)=>⟨[(1,.ptr 1 0),(52,rV 4 (t1.nodes.map V1)),(53,iV (t1.nodes.length:Int)),(54,iV (i8:Int))],[],[(1,(W4 .rd t1).cells)],[]⟩) H (fun i8 x8 v8 I m k8 hxv8 hiv8 H N47=>?_) (fun v8 I m H=>?_)
   .unfold Oj at H
    refine wP ?_
    refine wt (ltT hiv8) ?_
    obtain⟨y9,h9,H⟩:=bB H
    refine wG [.u 56 (.ix _ _ _ fun _=>Q0 V1 (J0 hxv8)),.g 66 [((decide (x8.leaf<0)),false)] (.ln _ _ fun _=>lm t1.parents eI),.g 73 [(_,false)] (.call _ _ _ _ _ (AEs.refl _) (fun q=>Yu (bF q.1 h9))),.g 74 [(((decide (x8.leaf<0))||(decide ((t1.parents.length:Int)<=x8.leaf))),false)] (.ln _ _ fun _=>lm y9 eI),.g 80 [((((decide (x8.leaf<0))||(decide ((t1.parents.length:Int)<=x8.leaf)))||(decide (0<(y9.length:Int)))),false)] (.call _ _ _ _ _ (AEs.refl _) (fun _=>Q3 x8.cap))] fun _=>?_
    refine O0 H (fun H=>?_) fun H=>?_
    .obtain rfl:=sI H
     exact wP (wE [(2,.d)])
    .refine wG [.w 83 (wi .i64 rfl hiv8 q7.1)] fun _=>?_
     exact wT (N47 () H)
   .unfold Lu at H
    refine wP ?_
    refine wf (ltF t1.nodes.length) ?_
    obtain⟨n10,h10,H⟩:=bB H
    refine wG [.c 85 (J8 h10)] fun _=>?_
    replace H:=sI H;subst H
    exact wE [(2,.d)]
def Z0R:L :=
sR [.bx 2 0,.mv 4 (.c (.nl))]
 (sR [mV 6 1,.bs 7 1 [6] true,mV 5 7]
 (.seq (.blk 0 (.loop (.gw (.seq (sR [mV 8 1,.bi 9 .gtr 8 (kI 0)]
 (.cond 9 .skip
 (.exit 0)))
 (.blk 1 (sR [fA 10 2 0,lF 11 10 1,mV 12 1,iA 13 11 12 1,lF 14 13 1,mV 1 14]
 (.reg [mV 15 5,mV 16 1,.bs 17 1 [16] false,.ap 18 15 17 1 8,mV 5 18])))))))
 (sR [mV 19 5,mV 4 19]
 gR)))
def MQ(t1:Topo)(v3:Int×(List Int))(k3:(Int×(List Int))->Option (List Int)):Option (List Int) :=
 bif (decide (0<v3.1))then((idx t1.parents v3.1).bind fun e4=>(appL 8 v3.2 [e4]).bind fun xs5=>k3 (e4,xs5))else(some v3.2)
def Vs(t1:Topo)(s2:Int):Option (List Int) :=
 whl (MQ t1) 9223372036854775807 (s2,[s2])
theorem O0e{t1:Topo}{s2:Int}{r:(List Int)}(H:Vs t1 s2=some r):Snd Tryz.prog X07 [W4 .rd t1,iV s2] (nV 1 (r.map eI)) []:=by
 refine wS Z0R [.t 4] ?_
 unfold Vs at H
 refine wP ?_
 refine wW (fun(v3:Int×(List Int))=>⟨[(1,iV v3.1),(2,.ptr 2 0),(5,.sref 7)],[],[(2,(W4 .rd t1).cells)],[(7,⟨1,v3.2.map eI,false⟩)]⟩) H (fun v3 I m k3 H N12=>?_)
 unfold MQ at H
 refine wP ?_
 refine O0 H (fun H=>?_) fun H=>?_
 .obtain⟨e4,h4,H⟩:=bB H
  obtain⟨xs5,h5,H⟩:=bB H
  refine wG [.u 13 (.ix _ _ _ fun _=>Q0 eI h4),.u 18 (.ap _ _ _ _ fun _=>L0 eI h5)] fun _=>?_
  exact wT (N12 _ H)
 .refine wP ?_
  replace H:=sI H;subst H
  exact wN [(4,.f)] [] [] [7] [] [⟨_,nw_I v3.2⟩]
def X0G:L :=
.seq (rE 4 (cB false))
 (.seq (sR [mV 7 0,.ln 8 7,.mv 9 (kI 0)]
 (.blk 0 (.loop (.gw (sR [bI 10 .lss 9 8]
 (.seq (.cond 10 .skip
 (.exit 0))
 (.seq (.blk 1 (sR [iA 11 7 9 1,lF 12 11 1,mV 6 12]
 (sR [mV 13 6,mV 14 1,bI 15 .eql 13 14]
 (.cond 15 (.seq (rE 4 (cB true))
 gR)
 .skip))))
 (.reg [.bi 16 .add 9 (kI 1),mV 9 16]))))))))
 (.seq (rE 4 (cB false))
 gR))
def V03(n2 x4:Int)(_:Nat)(_:Unit)(k4:Unit->Option Bool):Option Bool :=
 bif (x4==n2)then(some true)else(k4 ())
def VK(_:Unit):Option Bool :=
 some false
def Z9(l1:List Int)(n2:Int):Option Bool :=
 rgl (V03 n2) VK l1 0 ()
theorem Ye{l1:List Int}{n2:Int}{r:Bool}(H:Z9 l1 n2=some r):Snd Tryz.prog Jd [rV 1 (l1.map eI),iV n2] (.bool r) []:=by
 refine wS X0G [.t 4] ?_
 unfold Z9 at H
 refine wG [.u 8 (.ln _ _ fun _=>lm l1 eI)] fun q3=>?_
 refine wR (fun(i4:Nat) (v4:Unit)=>⟨[(1,iV n2),(7,rV 1 (l1.map eI)),(8,iV (l1.length:Int)),(9,iV (i4:Int))],[],[],[]⟩) H (fun i4 x4 v4 I m k4 hxv4 hiv4 H N20=>?_) (fun v4 I m H=>?_)
 .unfold V03 at H
  refine wP ?_
  refine wt (ltT hiv4) ?_
  refine wG [.u 11 (.ix _ _ _ fun _=>Q0 eI (J0 hxv4))] fun _=>?_
  refine O0 H (fun H=>?_) fun H=>?_
  .obtain rfl:=sI H
   exact wP (wE [(4,.d)])
  .refine wG [.w 16 (wi .i64 rfl hiv4 q3.1)] fun _=>?_
   exact wT (N20 () H)
 .unfold VK at H
  refine wP ?_
  refine wf (ltF l1.length) ?_
  obtain rfl:=sI H
  exact wP (wE [(4,.d)])
def V0s:L :=
sR [.bx 2 0,.mv 4 (cB false)]
 (.seq (sR [mV 7 1,.ln 8 7,.mv 9 (kI 0)]
 (.blk 0 (.loop (.gw (sR [bI 10 .lss 9 8]
 (.seq (.cond 10 .skip
 (.exit 0))
 (.seq (.blk 1 (sR [iA 11 7 9 1,lF 12 11 1,mV 6 12]
 (sR [mV 13 6,.bi 14 .lss 13 (kI 0),mV 15 14,gF 15 (mV 16 6),gF 15 (fA 17 2 1),gF 15 (lF 18 17 1),gF 15 (.ln 19 18),gF 15 (bI 20 .geq 16 19),.pk 21 15 (cB true) 20]
 (.cond 21 (.seq (rE 4 (cB false))
 gR)
 .skip))))
 (.reg [.bi 22 .add 9 (kI 1),mV 9 22]))))))))
 (sR [lT 23 2 2,cQ 24 JI [23],mV 4 24]
 gR))
def Qm(t1:Topo)(x4:Int)(_:Nat)(_:Unit)(k4:Unit->Option Bool):Option Bool :=
 bif ((decide (x4<0))||(decide ((t1.nodes.length:Int)<=x4)))then(some false)else(k4 ())
def Um(t1:Topo)(_:Unit):Option Bool :=
 (Xe t1).bind fun b5=>some b5
def Ud(t1:Topo)(nodes2:List Int):Option Bool :=
 rgl (Qm t1) (Um t1) nodes2 0 ()
theorem OE{t1:Topo}{nodes2:List Int}{r:Bool}(H:Ud t1 nodes2=some r):Snd Tryz.prog Ww [W4 .rd t1,rV 1 (nodes2.map eI)] (.bool r) []:=by
 refine wS V0s [.t 4] ?_
 unfold Ud at H
 refine wG [.u 8 (.ln _ _ fun _=>lm nodes2 eI)] fun q3=>?_
 refine wR (fun(i4:Nat) (v4:Unit)=>⟨[(2,.ptr 2 0),(7,rV 1 (nodes2.map eI)),(8,iV (nodes2.length:Int)),(9,iV (i4:Int))],[],[(2,(W4 .rd t1).cells)],[]⟩) H (fun i4 x4 v4 I m k4 hxv4 hiv4 H N20=>?_) (fun v4 I m H=>?_)
 .unfold Qm at H
  refine wP ?_
  refine wt (ltT hiv4) ?_
  refine wG [.u 11 (.ix _ _ _ fun _=>Q0 eI (J0 hxv4)),.g 19 [((decide (x4<0)),false)] (.ln _ _ fun _=>lm t1.nodes V1)] fun _=>?_
  refine O0 H (fun H=>?_) fun H=>?_
  .obtain rfl:=sI H
   exact wP (wE [(4,.d)])
  .refine wG [.w 22 (wi .i64 rfl hiv4 q3.1)] fun _=>?_
   exact wT (N20 () H)
 .unfold Um at H
  refine wP ?_
  refine wf (ltF nodes2.length) ?_
  obtain⟨b5,h5,H⟩:=bB H
  refine wG [.c 24 (YR h5)] fun _=>?_
  replace H:=sI H;subst H
  exact wE [(4,.d)]
def U0H:L :=
sR [.bx 2 0,.mv 4 (kI 0)]
 (.seq (rE 5 (kI (-1)))
 (.seq (sR [lT 10 2 2,mV 11 1,cQ 12 Ww [10,11],.un 13 12,mV 14 13,gF 14 (mV 15 1),gF 14 (.ln 16 15),gF 14 (.bi 17 .eql 16 (kI 0)),.pk 18 14 (cB true) 17]
 (.cond 18 (sR [mV 19 5,mV 4 19]
 gR)
 .skip))
 (.seq (sR [fA 20 2 0,lF 21 20 1,.ln 22 21,.mv 23 (kI 0)]
 (.blk 0 (.loop (.gw (sR [bI 24 .lss 23 22]
 (.seq (.cond 24 .skip
 (.exit 0))
 (.seq (.blk 1 (sR [mV 25 23,mV 6 25]
 (.seq (rE 7 (cB true))
 (.seq (sR [mV 26 1,.ln 27 26,.mv 28 (kI 0)]
 (.blk 2 (.loop (.gw (sR [bI 29 .lss 28 27]
 (.seq (.cond 29 .skip
 (.exit 2))
 (.seq (.blk 3 (sR [iA 30 26 28 1,lF 31 30 1,mV 9 31]
 (.seq (.rq 11 [lT 32 2 2,fA 33 2 1,lF 34 33 1,mV 35 9,iA 36 34 35 4,fA 37 36 0,lF 38 37 1,cQ 39 X07 [32,38],mV 40 6,cQ 41 Jd [39,40],.un 42 41])
 (.cond 42 (rE 7 (cB false))
 .skip))))
 (.reg [.bi 43 .add 28 (kI 1),mV 28 43]))))))))
 (.seq (.rq 14 [mV 44 7,mV 45 44,gT 45 (mV 46 5),gT 45 (.bi 47 .lss 46 (kI 0)),gT 45 (mV 48 47),gF 48 (lT 49 2 2),gF 48 (mV 50 6),gF 48 (cQ 51 O5 [49,50]),gF 48 (lT 52 2 2),gF 48 (mV 53 5),gF 48 (cQ 54 O5 [52,53]),gF 48 (bI 55 .leq 51 54),gT 45 (.pk 56 48 (cB true) 55),.pk 57 45 56 (cB false)])
 (.cond 57 (.reg [mV 58 6,mV 5 58])
 .skip))))))
 (.reg [.bi 59 .add 23 (kI 1),mV 23 59]))))))))
 (sR [mV 60 5,mV 4 60]
 gR))))
def Vk(t1:Topo)(i5:Nat)(x7:Int)(_:Nat)(v7:Bool)(k7:Bool->Option Int):Option Int :=
 (idx t1.nodes x7).bind fun e8=>(Vs t1 e8.leaf).bind fun y9=>(Z9 y9 (i5:Int)).bind fun b10=>bif (!b10)then(k7 false)else(k7 v7)
def Vf(t1:Topo)(v5:Int)(i5:Nat)(k5:Int->Option Int)(v7:Bool):Option Int :=
 (bif v7 then(bif (decide (v5<0))then some default else(W7 t1 (i5:Int)))else some default).bind fun n11=>(bif v7 then(bif (decide (v5<0))then some default else(W7 t1 v5))else some default).bind fun n12=>bif (v7&&((decide (v5<0))||(decide (n11<=n12))))then(k5 (i5:Int))else(k5 v5)
def Uf(t1:Topo)(nodes2:List Int)(_:Int)(i5:Nat)(v5:Int)(k5:Int->Option Int):Option Int :=
 rgl (Vk t1 i5) (Vf t1 v5 i5 k5) nodes2 0 true
def Xv(v5:Int):Option Int :=
 some v5
def Yr(t1:Topo)(nodes2:List Int):Option Int :=
 (Ud t1 nodes2).bind fun b3=>bif ((!b3)||((nodes2.length:Int)==0))then(some (-1))else(rgl (Uf t1 nodes2) Xv t1.parents 0 (-1))
theorem V0F{t1:Topo}{nodes2:List Int}{r:Int}(H:Yr t1 nodes2=some r):Snd Tryz.prog Y0i [W4 .rd t1,rV 1 (nodes2.map eI)] (iV r) []:=by
 refine wS U0H [.t 4] ?_
 unfold Yr at H
 obtain⟨b3,h3,H⟩:=bB H
 refine wG [.c 12 (OE h3),.g 16 [((!b3),false)] (.ln _ _ fun _=>lm nodes2 eI)] fun _=>?_
 refine O0 H (fun H=>?_) fun H=>?_
 .obtain rfl:=sI H
  exact wP (wE [(4,.d)])
 .refine wG [.u 22 (.ln _ _ fun _=>lm t1.parents eI)] fun q4=>?_
  refine wR (fun(i5:Nat) (v5:Int)=>⟨[(1,rV 1 (nodes2.map eI)),(2,.ptr 2 0),(5,iV v5),(22,iV (t1.parents.length:Int)),(23,iV (i5:Int))],[],[(2,(W4 .rd t1).cells)],[]⟩) H (fun i5 x5 v5 I m k5 hxv5 hiv5 H N49=>?_) (fun v5 I m H=>?_)
  .unfold Uf at H
   refine wP ?_
   refine wt (ltT hiv5) ?_
   refine wG [.u 27 (.ln _ _ fun _=>lm nodes2 eI)] fun q6=>?_
   refine wR (fun(i7:Nat) (v7:Bool)=>⟨[(1,rV 1 (nodes2.map eI)),(2,.ptr 2 0),(5,iV v5),(6,iV (i5:Int)),(7,.bool v7),(22,iV (t1.parents.length:Int)),(23,iV (i5:Int)),(26,rV 1 (nodes2.map eI)),(27,iV (nodes2.length:Int)),(28,iV (i7:Int))],[],[(2,(W4 .rd t1).cells)],[]⟩) H (fun i7 x7 v7 I m k7 hxv7 hiv7 H N33=>?_) (fun v7 I m H=>?_)
   .unfold Vk at H
    refine wP ?_
    refine wt (ltT hiv7) ?_
    obtain⟨e8,h8,H⟩:=bB H
    obtain⟨y9,h9,H⟩:=bB H
    obtain⟨b10,h10,H⟩:=bB H
    refine wG [.u 30 (.ix _ _ _ fun _=>Q0 eI (J0 hxv7)),.u 36 (.ix _ _ _ fun _=>Q0 V1 h8),.c 39 (O0e h9),.c 41 (Ye h10)] fun _=>?_
    refine O0 H (fun H=>?_) fun H=>?_
    .refine wG [.w 43 (wi .i64 rfl hiv7 q6.1)] fun _=>?_
     exact wT (N33 _ H)
    .refine wG [.w 43 (wi .i64 rfl hiv7 q6.1)] fun _=>?_
     exact wT (N33 _ H)
   .unfold Vf at H
    refine wP ?_
    refine wf (ltF nodes2.length) ?_
    obtain⟨n11,h11,H⟩:=bB H
    obtain⟨n12,h12,H⟩:=bB H
    refine wG [.g 51 [(_,false),(_,true)] (.call _ _ _ _ _ (AEs.refl _) (fun q=>J8 (bF q.1 (bT q.2.1 h11)))),.g 54 [(_,false),(_,true)] (.call _ _ _ _ _ (AEs.refl _) (fun q=>J8 (bF q.1 (bT q.2.1 h12))))] fun _=>?_
    refine O0 H (fun H=>?_) fun H=>?_
    .refine wG [.w 59 (wi .i64 rfl hiv5 q4.1)] fun _=>?_
     exact wT (N49 _ H)
    .refine wG [.w 59 (wi .i64 rfl hiv5 q4.1)] fun _=>?_
     exact wT (N49 _ H)
  .unfold Xv at H
   refine wP ?_
   refine wf (ltF t1.parents.length) ?_
   obtain rfl:=sI H
   exact wP (wE [(4,.d)])
def X0t:L :=
sR [.bx 1 0,.al 2 [.nl,.nl]]
 (.seq (.rq 5 [fA 3 1 0,lF 4 3 1,cQ 5 M07 [4],fA 6 1 1,lF 7 6 1,.ap 8 (.c (.nl)) 7 4 32,.bd 9 [.nl,.nl] [(0,1,5),(1,1,8)],.st 2 9 2])
 gR)
def Jm(t1:Topo):Option Topo :=
 (Ov t1.parents).bind fun y2=>(appL 32 ([]:List Node) t1.nodes).bind fun xs3=>some (Topo.mk y2 xs3)
theorem O00{t1 r:Topo}(H:Jm t1=some r):Snd Tryz.prog ON [W4 .rd t1] (W4 .nw r) []:=by
 refine wS X0t [.c 2 2 true] ?_
 unfold Jm at H
 obtain⟨y2,h2,H⟩:=bB H
 obtain⟨xs3,h3,H⟩:=bB H
 refine wG [.c 5 (X0u h2),.u 8 (.ap _ _ _ _ fun _=>L0 V1 h3)] fun _=>?_
 replace H:=sI H;subst H
 exact wN [(2,.d)] [(2,[.d,.f])] [] [8] [] [⟨_,nw_I y2⟩,⟨_,M2 xs3⟩]
def Z0I:L :=
.seq (rE 4 (cB false))
 (.seq (.seq (rE 5 (kI 1))
 (.blk 0 (.loop (.gw (.seq (sR [mV 6 5,mV 7 0,.ln 8 7,bI 9 .lss 6 8]
 (.cond 9 .skip
 (.exit 0)))
 (.seq (.blk 1 (sR [mV 12 0,mV 13 5,iA 14 12 13 1,lF 15 14 1,mV 16 1,bI 17 .eql 15 16]
 (.cond 17 (.seq (rE 4 (cB false))
 gR)
 .skip)))
 (.reg [mV 10 5,.bi 11 .add 10 (kI 1),mV 5 11])))))))
 (.seq (rE 4 (cB true))
 gR))
def Mk(parents1:List Int)(s2 v3:Int)(k3:Int->Option Bool):Option Bool :=
 bif (decide (v3<(parents1.length:Int)))then((idx parents1 v3).bind fun e5=>bif (e5==s2)then(some false)else(k3 (w64 (v3+1))))else(some true)
def Qz(parents1:List Int)(s2:Int):Option Bool :=
 whl (Mk parents1 s2) 9223372036854775807 1
theorem V0b{parents1:List Int}{s2:Int}{r:Bool}(H:Qz parents1 s2=some r):Snd Tryz.prog OY [rV 1 (parents1.map eI),iV s2] (.bool r) []:=by
 refine wS Z0I [.t 4] ?_
 unfold Qz at H
 refine wP ?_
 refine wW (fun(v3:Int)=>⟨[(0,rV 1 (parents1.map eI)),(1,iV s2),(5,iV v3)],[],[],[]⟩) H (fun v3 I m k3 H N18=>?_)
 unfold Mk at H
 refine wG [.u 8 (.ln _ _ fun _=>lm parents1 eI)] fun q4=>?_
 refine O0 H (fun H=>?_) fun H=>?_
 .obtain⟨e5,h5,H⟩:=bB H
  refine wG [.u 14 (.ix _ _ _ fun _=>Q0 eI h5)] fun _=>?_
  refine O0 H (fun H=>?_) fun H=>?_
  .obtain rfl:=sI H
   exact wP (wE [(4,.d)])
  .refine wP ?_
   exact wT (N18 _ H)
 .obtain rfl:=sI H
  exact wP (wE [(4,.d)])
def M0R:L :=
.seq (rE 4 (kI 0))
 (.seq (rE 5 (kI 0))
 (.seq (.blk 0 (.loop (.gw (.seq (sR [mV 6 1,.bi 7 .gtr 6 (kI 0)]
 (.cond 7 .skip
 (.exit 0)))
 (.blk 1 (sR [mV 8 0,mV 9 1,iA 10 8 9 1,lF 11 10 1,mV 1 11]
 (.reg [mV 12 5,.bi 13 .add 12 (kI 1),mV 5 13])))))))
 (sR [mV 14 5,mV 4 14]
 gR)))
def MR(parents1:List Int)(v3:Int×Int)(k3:(Int×Int)->Option Int):Option Int :=
 bif (decide (0<v3.1))then((idx parents1 v3.1).bind fun e4=>k3 (e4,(w64 (v3.2+1))))else(some v3.2)
def Wz(parents1:List Int)(s2:Int):Option Int :=
 whl (MR parents1) 9223372036854775807 (s2,0)
theorem MW{parents1:List Int}{s2 r:Int}(H:Wz parents1 s2=some r):Snd Tryz.prog XQ [rV 1 (parents1.map eI),iV s2] (iV r) []:=by
 refine wS M0R [.t 4] ?_
 unfold Wz at H
 refine wP ?_
 refine wW (fun(v3:Int×Int)=>⟨[(0,rV 1 (parents1.map eI)),(1,iV v3.1),(5,iV v3.2)],[],[],[]⟩) H (fun v3 I m k3 H N12=>?_)
 unfold MR at H
 refine wP ?_
 refine O0 H (fun H=>?_) fun H=>?_
 .obtain⟨e4,h4,H⟩:=bB H
  refine wG [.u 10 (.ix _ _ _ fun _=>Q0 eI h4)] fun _=>?_
  exact wT (N12 _ H)
 .obtain rfl:=sI H
  exact wP (wE [(4,.d)])
def Y0I:L :=
.seq (rE 2 (kI 0))
 (sR [mV 3 0,mV 4 0,.ln 5 4,.bi 6 .sub 5 (kI 1),cQ 7 XQ [3,6],mV 2 7]
 gR)
def OW(parents1:List Int):Option Int :=
 (Wz parents1 (w64 ((parents1.length:Int)-1))).bind fun n2=>some n2
theorem Y0J{parents1:List Int}{r:Int}(H:OW parents1=some r):Snd Tryz.prog V0i [rV 1 (parents1.map eI)] (iV r) []:=by
 refine wS Y0I [.t 2] ?_
 unfold OW at H
 obtain⟨n2,h2,H⟩:=bB H
 refine wG [.u 5 (.ln _ _ fun _=>lm parents1 eI),.c 7 (MW h2)] fun q3=>?_
 replace H:=sI H;subst H
 exact wE [(2,.d)]
def U0I:L :=
sR [.bx 1 0,.mv 2 (cB false)]
 (.seq (sR [fA 9 1 0,lF 10 9 1,.ln 11 10,.cq 12 U1 [11,(kI 1),(kI 24)],.un 13 12,mV 14 13,gF 14 (fA 15 1 0),gF 14 (lF 16 15 1),gF 14 (.ia 17 16 (kI 0) 1),gF 14 (lF 18 17 1),gF 14 (.bi 19 .neq 18 (kI 0)),.pk 20 14 (cB true) 19,mV 21 20,gF 21 (fA 22 1 1),gF 21 (lF 23 22 1),gF 21 (.ln 24 23),gF 21 (.bi 25 .gtr 24 (kI 24)),.pk 26 21 (cB true) 25]
 (.cond 26 (.seq (rE 2 (cB false))
 gR)
 .skip))
 (.seq (.seq (rE 3 (kI 1))
 (.blk 0 (.loop (.gw (.seq (sR [mV 27 3,fA 28 1 0,lF 29 28 1,.ln 30 29,bI 31 .lss 27 30]
 (.cond 31 .skip
 (.exit 0)))
 (.seq (.blk 1 (sR [fA 34 1 0,lF 35 34 1,mV 36 3,iA 37 35 36 1,lF 38 37 1,mV 39 3,.bi 40 .sub 39 (kI 1),.cq 41 U1 [38,(kI 0),40],.un 42 41]
 (.cond 42 (.seq (rE 2 (cB false))
 gR)
 .skip)))
 (.reg [mV 32 3,.bi 33 .add 32 (kI 1),mV 3 33])))))))
 (.seq (rE 4 (kI (-1)))
 (.seq (sR [fA 43 1 0,lF 44 43 1,.ln 45 44,.mv 46 (kI 0)]
 (.blk 2 (.loop (.gw (sR [bI 47 .lss 46 45]
 (.seq (.cond 47 .skip
 (.exit 2))
 (.seq (.blk 3 (sR [mV 48 46,mV 5 48]
 (.seq (sR [fA 49 1 0,lF 50 49 1,mV 51 5,cQ 52 OY [50,51],.un 53 52]
 (.cond 53 (.exit 3)
 .skip))
 (sR [fA 54 1 0,lF 55 54 1,mV 56 5,cQ 57 XQ [55,56],mV 6 57]
 (.seq (sR [mV 58 4,.bi 59 .geq 58 (kI 0),mV 60 59,gT 60 (mV 61 6),gT 60 (mV 62 4),gT 60 (bI 63 .neq 61 62),.pk 64 60 63 (cB false)]
 (.cond 64 (.seq (rE 2 (cB false))
 gR)
 .skip))
 (.reg [mV 65 6,mV 4 65]))))))
 (.reg [.bi 66 .add 46 (kI 1),mV 46 66]))))))))
 (.seq (sR [fA 67 1 1,lF 68 67 1,.ln 69 68,.mv 70 (kI 0)]
 (.blk 4 (.loop (.gw (sR [bI 71 .lss 70 69]
 (.seq (.cond 71 .skip
 (.exit 4))
 (.seq (.blk 5 (sR [iA 72 68 70 4,lT 73 72 4,.al 8 [.int .i64 0,.int .i64 0,.int .i64 0,.int .i64 0],.st 8 73 4]
 (sR [fA 74 8 0,lF 75 74 1,fA 76 1 0,lF 77 76 1,.ln 78 77,.bi 79 .sub 78 (kI 1),.cq 80 U1 [75,(kI 0),79],.un 81 80,mV 82 81,gF 82 (fA 83 1 0),gF 82 (lF 84 83 1),gF 82 (fA 85 8 0),gF 82 (lF 86 85 1),gF 82 (cQ 87 OY [84,86]),gF 82 (.un 88 87),.pk 89 82 (cB true) 88,mV 90 89,gF 90 (fA 91 8 1),gF 90 (lT 92 91 3),gF 90 (cQ 93 V6 [92]),gF 90 (.un 94 93),.pk 95 90 (cB true) 94]
 (.cond 95 (.seq (rE 2 (cB false))
 gR)
 .skip))))
 (.reg [.bi 96 .add 70 (kI 1),mV 70 96]))))))))
 (.seq (rE 2 (cB true))
 gR))))))
def Jv(t1:Topo)(x12:Node)(_:Nat)(_:Unit)(k12:Unit->Option Bool):Option Bool :=
 (bif (!(V0 x12.leaf 0 (w64 ((t1.parents.length:Int)-1))))then some default else(Qz t1.parents x12.leaf)).bind fun b13=>bif (((!(V0 x12.leaf 0 (w64 ((t1.parents.length:Int)-1))))||(!b13))||(!(M1 x12.cap)))then(some false)else(k12 ())
def V05(_:Unit):Option Bool :=
 some true
def Zw(t1:Topo)(_:Int)(i8:Nat)(v8:Int)(k8:Int->Option Bool):Option Bool :=
 (Qz t1.parents (i8:Int)).bind fun b9=>bif (!b9)then(k8 v8)else((Wz t1.parents (i8:Int)).bind fun n10=>bif ((decide (0<=v8))&&(n10 != v8))then(some false)else(k8 n10))
def Lv(t1:Topo)(_:Int):Option Bool :=
 rgl (Jv t1) V05 t1.nodes 0 ()
def Lk(t1:Topo)(v4:Int)(k4:Int->Option Bool):Option Bool :=
 bif (decide (v4<(t1.parents.length:Int)))then((idx t1.parents v4).bind fun e6=>bif (!(V0 e6 0 (w64 (v4-1))))then(some false)else(k4 (w64 (v4+1))))else(rgl (Zw t1) (Lv t1) t1.parents 0 (-1))
def Jk(t1:Topo):Option Bool :=
 (bif (!(V0 (t1.parents.length:Int) 1 24))then some default else(idx t1.parents 0)).bind fun e2=>bif (((!(V0 (t1.parents.length:Int) 1 24))||(e2 != 0))||(decide (24<(t1.nodes.length:Int))))then(some false)else(whl (Lk t1) 9223372036854775807 1)
theorem LR{t1:Topo}{r:Bool}(H:Jk t1=some r):Snd Tryz.prog YJ [W4 .rd t1] (.bool r) []:=by
 refine wS U0I [.t 2] ?_
 unfold Jk at H
 obtain⟨e2,h2,H⟩:=bB H
 refine wG [.u 11 (.ln _ _ fun _=>lm t1.parents eI),.u 12 (.call _ _ _ _ _ (AEs.refl _) (fun _=>Y1 (t1.parents.length:Int) 1 24)),.g 17 [(_,false)] (.ix _ _ _ fun q=>Q0 eI (bF q.1 h2)),.g 24 [(((!(V0 (t1.parents.length:Int) 1 24))||(e2 != 0)),false)] (.ln _ _ fun _=>lm t1.nodes V1)] fun q3=>?_
 refine O0 H (fun H=>?_) fun H=>?_
 .obtain rfl:=sI H
  exact wP (wE [(2,.d)])
 .refine wP ?_
  refine wW (fun(v4:Int)=>⟨[(1,.ptr 1 0),(3,iV v4)],[],[(1,(W4 .rd t1).cells)],[]⟩) H (fun v4 I m k4 H N25=>?_)
  unfold Lk at H
  refine wG [.u 30 (.ln _ _ fun _=>lm t1.parents eI)] fun q5=>?_
  refine O0 H (fun H=>?_) fun H=>?_
  .obtain⟨e6,h6,H⟩:=bB H
   refine wG [.u 37 (.ix _ _ _ fun _=>Q0 eI h6),.u 41 (.call _ _ _ _ _ (AEs.refl _) (fun _=>Y1 e6 0 (w64 (v4-1))))] fun _=>?_
   refine O0 H (fun H=>?_) fun H=>?_
   .obtain rfl:=sI H
    exact wP (wE [(2,.d)])
   .refine wP ?_
    exact wT (N25 _ H)
  .refine wG [.u 45 (.ln _ _ fun _=>lm t1.parents eI)] fun q7=>?_
   refine wR (fun(i8:Nat) (v8:Int)=>⟨[(1,.ptr 1 0),(4,iV v8),(45,iV (t1.parents.length:Int)),(46,iV (i8:Int))],[],[(1,(W4 .rd t1).cells)],[]⟩) H (fun i8 x8 v8 I m k8 hxv8 hiv8 H N58=>?_) (fun v8 I m H=>?_)
   .unfold Zw at H
    refine wP ?_
    refine wt (ltT hiv8) ?_
    obtain⟨b9,h9,H⟩:=bB H
    refine wG [.c 52 (V0b h9)] fun _=>?_
    refine O0 H (fun H=>?_) fun H=>?_
    .refine wG [.w 66 (wi .i64 rfl hiv8 q3.1)] fun _=>?_
     exact wT (N58 _ H)
    .obtain⟨n10,h10,H⟩:=bB H
     refine wG [.c 57 (MW h10)] fun _=>?_
     refine O0 H (fun H=>?_) fun H=>?_
     .obtain rfl:=sI H
      exact wP (wE [(2,.d)])
     .refine wG [.w 66 (wi .i64 rfl hiv8 q3.1)] fun _=>?_
      exact wT (N58 _ H)
   .unfold Lv at H
    refine wP ?_
    refine wf (ltF t1.parents.length) ?_
    refine wG [.u 69 (.ln _ _ fun _=>lm t1.nodes V1)] fun q11=>?_
    refine wR (fun(i12:Nat) (v12:Unit)=>⟨[(1,.ptr 1 0),(68,rV 4 (t1.nodes.map V1)),(69,iV (t1.nodes.length:Int)),(70,iV (i12:Int))],[],[(1,(W4 .rd t1).cells)],[]⟩) H (fun i12 x12 v12 I m k12 hxv12 hiv12 H N80=>?_) (fun v12 I m H=>?_)
    .unfold Jv at H
     refine wP ?_
     refine wt (ltT hiv12) ?_
     obtain⟨b13,h13,H⟩:=bB H
     refine wG [.u 72 (.ix _ _ _ fun _=>Q0 V1 (J0 hxv12)),.u 78 (.ln _ _ fun _=>lm t1.parents eI),.u 80 (.call _ _ _ _ _ (AEs.refl _) (fun _=>Y1 x12.leaf 0 (w64 ((t1.parents.length:Int)-1)))),.g 87 [(_,false)] (.call _ _ _ _ _ (AEs.refl _) (fun q=>V0b (bF q.1 h13))),.g 93 [(((!(V0 x12.leaf 0 (w64 ((t1.parents.length:Int)-1))))||(!b13)),false)] (.call _ _ _ _ _ (AEs.refl _) (fun _=>L6 x12.cap))] fun q14=>?_
     refine O0 H (fun H=>?_) fun H=>?_
     .obtain rfl:=sI H
      exact wP (wE [(2,.d)])
     .refine wG [.w 96 (wi .i64 rfl hiv12 q11.1)] fun _=>?_
      exact wT (N80 () H)
    .unfold V05 at H
     refine wP ?_
     refine wf (ltF t1.nodes.length) ?_
     obtain rfl:=sI H
     exact wP (wE [(2,.d)])
def W0R:L :=
sR [.bx 2 0,.mv 4 (kI 0)]
 (.seq (.rq 9 [fA 5 2 0,lF 6 5 1,cQ 7 V0i [6],fA 8 2 0,lF 9 8 1,mV 10 1,cQ 11 XQ [9,10],bI 12 .sub 7 11,mV 4 12])
 gR)
def Vz(t1:Topo)(s2:Int):Option Int :=
 (OW t1.parents).bind fun n3=>(Wz t1.parents s2).bind fun n4=>some (w64 (n3-n4))
theorem WW{t1:Topo}{s2 r:Int}(H:Vz t1 s2=some r):Snd Tryz.prog YQ [W4 .rd t1,iV s2] (iV r) []:=by
 refine wS W0R [.t 4] ?_
 unfold Vz at H
 obtain⟨n3,h3,H⟩:=bB H
 obtain⟨n4,h4,H⟩:=bB H
 refine wG [.c 7 (Y0J h3),.c 11 (MW h4)] fun _=>?_
 replace H:=sI H;subst H
 exact wE [(4,.d)]
def L0R:L :=
sR [.bx 2 0,.mv 4 (.c (.nl))]
 (sR [mV 6 1,.bs 7 1 [6] true,mV 5 7]
 (.seq (.blk 0 (.loop (.gw (.seq (sR [mV 8 1,.bi 9 .gtr 8 (kI 0)]
 (.cond 9 .skip
 (.exit 0)))
 (.blk 1 (sR [fA 10 2 0,lF 11 10 1,mV 12 1,iA 13 11 12 1,lF 14 13 1,mV 1 14]
 (.reg [mV 15 5,mV 16 1,.bs 17 1 [16] false,.ap 18 15 17 1 8,mV 5 18])))))))
 (sR [mV 19 5,mV 4 19]
 gR)))
def Q0b(t1:Topo)(v3:Int×(List Int))(k3:(Int×(List Int))->Option (List Int)):Option (List Int) :=
 bif (decide (0<v3.1))then((idx t1.parents v3.1).bind fun e4=>(appL 8 v3.2 [e4]).bind fun xs5=>k3 (e4,xs5))else(some v3.2)
def Z09(t1:Topo)(s2:Int):Option (List Int) :=
 whl (Q0b t1) 9223372036854775807 (s2,[s2])
theorem Z0T{t1:Topo}{s2:Int}{r:(List Int)}(H:Z09 t1 s2=some r):Snd Tryz.prog Y0p [W4 .rd t1,iV s2] (nV 1 (r.map eI)) []:=by
 refine wS L0R [.t 4] ?_
 unfold Z09 at H
 refine wP ?_
 refine wW (fun(v3:Int×(List Int))=>⟨[(1,iV v3.1),(2,.ptr 2 0),(5,.sref 7)],[],[(2,(W4 .rd t1).cells)],[(7,⟨1,v3.2.map eI,false⟩)]⟩) H (fun v3 I m k3 H N12=>?_)
 unfold Q0b at H
 refine wP ?_
 refine O0 H (fun H=>?_) fun H=>?_
 .obtain⟨e4,h4,H⟩:=bB H
  obtain⟨xs5,h5,H⟩:=bB H
  refine wG [.u 13 (.ix _ _ _ fun _=>Q0 eI h4),.u 18 (.ap _ _ _ _ fun _=>L0 eI h5)] fun _=>?_
  exact wT (N12 _ H)
 .refine wP ?_
  replace H:=sI H;subst H
  exact wN [(4,.f)] [] [] [7] [] [⟨_,nw_I v3.2⟩]
def W0t:L :=
sR [.bx 2 0,.mv 4 (cB false)]
 (.seq (sR [mV 7 1,.ln 8 7,.mv 9 (kI 0)]
 (.blk 0 (.loop (.gw (sR [bI 10 .lss 9 8]
 (.seq (.cond 10 .skip
 (.exit 0))
 (.seq (.blk 1 (sR [iA 11 7 9 1,lF 12 11 1,mV 6 12]
 (sR [mV 13 6,fA 14 2 1,lF 15 14 1,.ln 16 15,.bi 17 .sub 16 (kI 1),.cq 18 U1 [13,(kI 0),17],.un 19 18]
 (.cond 19 (.seq (rE 4 (cB false))
 gR)
 .skip))))
 (.reg [.bi 20 .add 9 (kI 1),mV 9 20]))))))))
 (sR [lT 21 2 2,cQ 22 YJ [21],mV 4 22]
 gR))
def Lz(t1:Topo)(x4:Int)(_:Nat)(_:Unit)(k4:Unit->Option Bool):Option Bool :=
 bif (!(V0 x4 0 (w64 ((t1.nodes.length:Int)-1))))then(some false)else(k4 ())
def Mz(t1:Topo)(_:Unit):Option Bool :=
 (Jk t1).bind fun b6=>some b6
def Xn(t1:Topo)(nodes2:List Int):Option Bool :=
 rgl (Lz t1) (Mz t1) nodes2 0 ()
theorem L00{t1:Topo}{nodes2:List Int}{r:Bool}(H:Xn t1 nodes2=some r):Snd Tryz.prog LN [W4 .rd t1,rV 1 (nodes2.map eI)] (.bool r) []:=by
 refine wS W0t [.t 4] ?_
 unfold Xn at H
 refine wG [.u 8 (.ln _ _ fun _=>lm nodes2 eI)] fun q3=>?_
 refine wR (fun(i4:Nat) (v4:Unit)=>⟨[(2,.ptr 2 0),(7,rV 1 (nodes2.map eI)),(8,iV (nodes2.length:Int)),(9,iV (i4:Int))],[],[(2,(W4 .rd t1).cells)],[]⟩) H (fun i4 x4 v4 I m k4 hxv4 hiv4 H N20=>?_) (fun v4 I m H=>?_)
 .unfold Lz at H
  refine wP ?_
  refine wt (ltT hiv4) ?_
  refine wG [.u 11 (.ix _ _ _ fun _=>Q0 eI (J0 hxv4)),.u 16 (.ln _ _ fun _=>lm t1.nodes V1),.u 18 (.call _ _ _ _ _ (AEs.refl _) (fun _=>Y1 x4 0 (w64 ((t1.nodes.length:Int)-1))))] fun q5=>?_
  refine O0 H (fun H=>?_) fun H=>?_
  .obtain rfl:=sI H
   exact wP (wE [(4,.d)])
  .refine wG [.w 20 (wi .i64 rfl hiv4 q3.1)] fun _=>?_
   exact wT (N20 () H)
 .unfold Mz at H
  refine wP ?_
  refine wf (ltF nodes2.length) ?_
  obtain⟨b6,h6,H⟩:=bB H
  refine wG [.c 22 (LR h6)] fun _=>?_
  replace H:=sI H;subst H
  exact wE [(4,.d)]
def QW:L :=
.seq (rE 4 (kI 0))
 (.seq (sR [mV 6 0,.ln 7 6,.mv 8 (kI 0)]
 (.blk 0 (.loop (.gw (sR [bI 9 .lss 8 7]
 (.seq (.cond 9 .skip
 (.exit 0))
 (.seq (.blk 1 (sR [mV 10 8,mV 5 10]
 (sR [mV 11 1,mV 12 0,mV 13 5,iA 14 12 13 1,lF 15 14 1,bI 16 .eql 11 15]
 (.cond 16 (sR [mV 17 5,mV 4 17]
 gR)
 .skip))))
 (.reg [.bi 18 .add 8 (kI 1),mV 8 18]))))))))
 (.seq (rE 4 (kI (-1)))
 gR))
def Wf(v2 x4:Int)(i4:Nat)(_:Unit)(k4:Unit->Option Int):Option Int :=
 bif (v2==x4)then(some (i4:Int))else(k4 ())
def Us(_:Unit):Option Int :=
 some (-1)
def W9(s1:List Int)(v2:Int):Option Int :=
 rgl (Wf v2) Us s1 0 ()
theorem WV{s1:List Int}{v2 r:Int}(H:W9 s1 v2=some r):Snd Tryz.prog Vx [rV 1 (s1.map eI),iV v2] (iV r) []:=by
 refine wS QW [.t 4] ?_
 unfold W9 at H
 refine wG [.u 7 (.ln _ _ fun _=>lm s1 eI)] fun q3=>?_
 refine wR (fun(i4:Nat) (v4:Unit)=>⟨[(0,rV 1 (s1.map eI)),(1,iV v2),(7,iV (s1.length:Int)),(8,iV (i4:Int))],[],[],[]⟩) H (fun i4 x4 v4 I m k4 hxv4 hiv4 H N20=>?_) (fun v4 I m H=>?_)
 .unfold Wf at H
  refine wP ?_
  refine wt (ltT hiv4) ?_
  refine wG [.u 14 (.ix _ _ _ fun _=>Q0 eI (J0 hxv4))] fun _=>?_
  refine O0 H (fun H=>?_) fun H=>?_
  .obtain rfl:=sI H
   exact wP (wE [(4,.d)])
  .refine wG [.w 18 (wi .i64 rfl hiv4 q3.1)] fun _=>?_
   exact wT (N20 () H)
 .unfold Us at H
  refine wP ?_
  refine wf (ltF s1.length) ?_
  obtain rfl:=sI H
  exact wP (wE [(4,.d)])
def XO:L :=
.seq (rE 4 (cB false))
 (sR [mV 5 0,mV 6 1,cQ 7 Vx [5,6],.bi 8 .geq 7 (kI 0),mV 4 8]
 gR)
def M4(s1:List Int)(v2:Int):Option Bool :=
 (W9 s1 v2).bind fun n3=>some (decide (0<=n3))
theorem Mn{s1:List Int}{v2:Int}{r:Bool}(H:M4 s1 v2=some r):Snd Tryz.prog Ue [rV 1 (s1.map eI),iV v2] (.bool r) []:=by
 refine wS XO [.t 4] ?_
 unfold M4 at H
 obtain⟨n3,h3,H⟩:=bB H
 refine wG [.c 7 (WV h3)] fun _=>?_
 replace H:=sI H;subst H
 exact wE [(4,.d)]
def M0I:L :=
sR [.bx 2 0,.mv 4 (kI 0)]
 (.seq (sR [lT 10 2 2,mV 11 1,cQ 12 LN [10,11],.un 13 12,mV 14 13,gF 14 (mV 15 1),gF 14 (.ln 16 15),gF 14 (.bi 17 .eql 16 (kI 0)),.pk 18 14 (cB true) 17]
 (.cond 18 (.seq (rE 4 (kI (-1)))
 gR)
 .skip))
 (.seq (rE 5 (kI (-1)))
 (.seq (sR [fA 19 2 0,lF 20 19 1,.ln 21 20,.mv 22 (kI 0)]
 (.blk 0 (.loop (.gw (sR [bI 23 .lss 22 21]
 (.seq (.cond 23 .skip
 (.exit 0))
 (.seq (.blk 1 (sR [mV 24 22,mV 6 24]
 (.seq (rE 7 (cB true))
 (.seq (sR [mV 25 1,.ln 26 25,.mv 27 (kI 0)]
 (.blk 2 (.loop (.gw (sR [bI 28 .lss 27 26]
 (.seq (.cond 28 .skip
 (.exit 2))
 (.seq (.blk 3 (sR [iA 29 25 27 1,lF 30 29 1,mV 9 30]
 (.rq 13 [mV 31 7,mV 32 31,gT 32 (lT 33 2 2),gT 32 (fA 34 2 1),gT 32 (lF 35 34 1),gT 32 (mV 36 9),gT 32 (iA 37 35 36 4),gT 32 (fA 38 37 0),gT 32 (lF 39 38 1),gT 32 (cQ 40 Y0p [33,39]),gT 32 (mV 41 6),gT 32 (cQ 42 Ue [40,41]),.pk 43 32 42 (cB false),mV 7 43])))
 (.reg [.bi 44 .add 27 (kI 1),mV 27 44]))))))))
 (.seq (.rq 14 [mV 45 7,mV 46 45,gT 46 (mV 47 5),gT 46 (.bi 48 .lss 47 (kI 0)),gT 46 (mV 49 48),gF 49 (lT 50 2 2),gF 49 (mV 51 6),gF 49 (cQ 52 YQ [50,51]),gF 49 (lT 53 2 2),gF 49 (mV 54 5),gF 49 (cQ 55 YQ [53,54]),gF 49 (bI 56 .leq 52 55),gT 46 (.pk 57 49 (cB true) 56),.pk 58 46 57 (cB false)])
 (.cond 58 (.reg [mV 59 6,mV 5 59])
 .skip))))))
 (.reg [.bi 60 .add 22 (kI 1),mV 22 60]))))))))
 (sR [mV 61 5,mV 4 61]
 gR))))
def Zl(t1:Topo)(i5:Nat)(x7:Int)(_:Nat)(v7:Bool)(k7:Bool->Option Int):Option Int :=
 (bif v7 then(idx t1.nodes x7)else some default).bind fun e8=>(bif v7 then(Z09 t1 e8.leaf)else some default).bind fun y9=>(bif v7 then(M4 y9 (i5:Int))else some default).bind fun b10=>k7 (v7&&b10)
def Zg(t1:Topo)(v5:Int)(i5:Nat)(k5:Int->Option Int)(v7:Bool):Option Int :=
 (bif v7 then(bif (decide (v5<0))then some default else(Vz t1 (i5:Int)))else some default).bind fun n11=>(bif v7 then(bif (decide (v5<0))then some default else(Vz t1 v5))else some default).bind fun n12=>bif (v7&&((decide (v5<0))||(decide (n11<=n12))))then(k5 (i5:Int))else(k5 v5)
def Xw(t1:Topo)(nodes2:List Int)(_:Int)(i5:Nat)(v5:Int)(k5:Int->Option Int):Option Int :=
 rgl (Zl t1 i5) (Zg t1 v5 i5 k5) nodes2 0 true
def JM(v5:Int):Option Int :=
 some v5
def Jz(t1:Topo)(nodes2:List Int):Option Int :=
 (Xn t1 nodes2).bind fun b3=>bif ((!b3)||((nodes2.length:Int)==0))then(some (-1))else(rgl (Xw t1 nodes2) JM t1.parents 0 (-1))
theorem J0J{t1:Topo}{nodes2:List Int}{r:Int}(H:Jz t1 nodes2=some r):Snd Tryz.prog O0i [W4 .rd t1,rV 1 (nodes2.map eI)] (iV r) []:=by
 refine wS M0I [.t 4] ?_
 unfold Jz at H
 obtain⟨b3,h3,H⟩:=bB H
 refine wG [.c 12 (L00 h3),.g 16 [((!b3),false)] (.ln _ _ fun _=>lm nodes2 eI)] fun _=>?_
 refine O0 H (fun H=>?_) fun H=>?_
 .obtain rfl:=sI H
  exact wP (wE [(4,.d)])
 .refine wG [.u 21 (.ln _ _ fun _=>lm t1.parents eI)] fun q4=>?_
  refine wR (fun(i5:Nat) (v5:Int)=>⟨[(1,rV 1 (nodes2.map eI)),(2,.ptr 2 0),(5,iV v5),(21,iV (t1.parents.length:Int)),(22,iV (i5:Int))],[],[(2,(W4 .rd t1).cells)],[]⟩) H (fun i5 x5 v5 I m k5 hxv5 hiv5 H N45=>?_) (fun v5 I m H=>?_)
  .unfold Xw at H
   refine wP ?_
   refine wt (ltT hiv5) ?_
   refine wG [.u 26 (.ln _ _ fun _=>lm nodes2 eI)] fun q6=>?_
   refine wR (fun(i7:Nat) (v7:Bool)=>⟨[(1,rV 1 (nodes2.map eI)),(2,.ptr 2 0),(5,iV v5),(6,iV (i5:Int)),(7,.bool v7),(21,iV (t1.parents.length:Int)),(22,iV (i5:Int)),(25,rV 1 (nodes2.map eI)),(26,iV (nodes2.length:Int)),(27,iV (i7:Int))],[],[(2,(W4 .rd t1).cells)],[]⟩) H (fun i7 x7 v7 I m k7 hxv7 hiv7 H N29=>?_) (fun v7 I m H=>?_)
   .unfold Zl at H
    refine wP ?_
    refine wt (ltT hiv7) ?_
    obtain⟨e8,h8,H⟩:=bB H
    obtain⟨y9,h9,H⟩:=bB H
    obtain⟨b10,h10,H⟩:=bB H
    refine wG [.u 29 (.ix _ _ _ fun _=>Q0 eI (J0 hxv7)),.g 37 [(_,true)] (.ix _ _ _ fun q=>Q0 V1 (bT q.1 h8)),.g 40 [(_,true)] (.call _ _ _ _ _ (AEs.refl _) (fun q=>Z0T (bT q.1 h9))),.g 42 [(_,true)] (.call _ _ _ _ _ (AEs.refl _) (fun q=>Mn (bT q.1 h10))),.w 44 (wi .i64 rfl hiv7 q6.1)] fun _=>?_
    exact wT (N29 _ H)
   .unfold Zg at H
    refine wP ?_
    refine wf (ltF nodes2.length) ?_
    obtain⟨n11,h11,H⟩:=bB H
    obtain⟨n12,h12,H⟩:=bB H
    refine wG [.g 52 [(_,false),(_,true)] (.call _ _ _ _ _ (AEs.refl _) (fun q=>WW (bF q.1 (bT q.2.1 h11)))),.g 55 [(_,false),(_,true)] (.call _ _ _ _ _ (AEs.refl _) (fun q=>WW (bF q.1 (bT q.2.1 h12))))] fun _=>?_
    refine O0 H (fun H=>?_) fun H=>?_
    .refine wG [.w 60 (wi .i64 rfl hiv5 q4.1)] fun _=>?_
     exact wT (N45 _ H)
    .refine wG [.w 60 (wi .i64 rfl hiv5 q4.1)] fun _=>?_
     exact wT (N45 _ H)
  .unfold JM at H
   refine wP ?_
   refine wf (ltF t1.parents.length) ?_
   obtain rfl:=sI H
   exact wP (wE [(4,.d)])
structure TreeP(P:List Int):Prop where
 pos:0<P.length
 le:P.length<=24
 root:P[0]?=some 0
 par:∀(i:Nat),1<=i->∀(p:Int),P[i]?=some p->0<=p/\p<i
def prt(P:List Int)(i:Nat):Nat:=(P.getD i 0).toNat
def dep(P:List Int)(s:Nat):Nat:=if h:0<s/\prt P s<s then dep P (prt P s)+1 else 0
termination_by s
decreasing_by exact h.2
def ups(P:List Int)(s:Nat):List Nat:=if _:0<s/\prt P s<s then s::ups P (prt P s)else[s]
termination_by s
decreasing_by exact(‹0<s/\prt P s<s›:0<s/\prt P s<s).2
def kids(P:List Int)(s:Int):List Nat:=(List.range' 1 (P.length-1)).filter fun i=>P[i]?==some s
theorem Z18{P:List Int}{s:Int}{c:Nat}:c∈kids P s↔1<=c/\c<P.length/\P[c]?=some s:=by
 simp only[kids,List.mem_filter,List.mem_range',beq_iff_eq]
 constructor
 .rintro⟨⟨i,hi,rfl⟩,h⟩;exact⟨by omega,by omega,h⟩
 .rintro⟨h1,h2,h3⟩;exact⟨⟨c-1,by omega,by omega⟩,h3⟩
theorem TreeP.par_lt{P:List Int}(T:TreeP P){i:Nat}(h1:1<=i)(h:i<P.length):prt P i<i/\P[i]?=some (prt P i:Int):=by
 have e:P[i]?=some P[i]:=yA h
 have:=T.par i h1 _ e
 have q:prt P i=P[i].toNat:=by simp[prt,h]
 rw[q]
 exact⟨by omega,by rw[e];congr 1;omega⟩
theorem V1q(P:List Int):dep P 0=0:=by rw[dep];simp
theorem TreeP.dep_succ{P:List Int}(T:TreeP P){i:Nat}(h1:1<=i)(h:i<P.length):dep P i=dep P (prt P i)+1:=by
 rw[dep,dif_pos ⟨by omega,(T.par_lt h1 h).1⟩]
theorem Y0N(P:List Int):ups P 0=[0]:=by rw[ups];simp
theorem TreeP.ups_succ{P:List Int}(T:TreeP P){i:Nat}(h1:1<=i)(h:i<P.length):ups P i=i::ups P (prt P i):=by
 rw[ups,dif_pos ⟨by omega,(T.par_lt h1 h).1⟩]
theorem U1l(P:List Int):∀s,dep P s<=s:=by
 intro s
 induction s using Nat.strongRecOn with
 |_ s ih =>
  rw[dep]
  split
  .rename_i h;have:=ih _ h.2;omega
  .omega
theorem Y0f(P:List Int)(s:Nat):s∈ups P s:=by rw[ups];split<;>simp
theorem TreeP.ups_mem{P:List Int}(T:TreeP P):∀l,l<P.length->∀s,s∈ups P l->s<=l/\∀x,x∈ups P s->x∈ups P l:=by
 intro l
 induction l using Nat.strongRecOn with
 |_ l ih =>
  intro hl s hs
  by_cases h0:l=0
  .subst h0;rw[Y0N]at hs;simp at hs;subst hs;exact⟨yV _,fun x hx=>hx⟩
  .have hp:=T.par_lt (i:=l) (by omega) hl
   rw[T.ups_succ (by omega) hl]at hs ⊢
   rcases yX hs with rfl|hs
   .exact⟨yV _,fun x hx=>by rwa [T.ups_succ (by omega) hl]at hx⟩
   .obtain⟨q1,q2⟩:=ih _ hp.1 (by omega) s hs
    exact⟨by omega,fun x hx=>yH _ (q2 x hx)⟩
theorem TreeP.kid_of{P:List Int}(T:TreeP P):∀l,l<P.length->∀s,s∈ups P l->s≠l->∃c,c∈kids P (s:Int)/\c∈ups P l:=by
 intro l
 induction l using Nat.strongRecOn with
 |_ l ih =>
  intro hl s hs hne
  by_cases h0:l=0
  .subst h0;rw[Y0N]at hs;simp at hs;exact absurd hs hne
  .have hp:=T.par_lt (i:=l) (by omega) hl
   rw[T.ups_succ (by omega) hl]at hs ⊢
   rcases yX hs with rfl|hs
   .exact absurd rfl hne
   .by_cases he:s=prt P l
    .subst he
     exact⟨l,Z18.2 ⟨by omega,hl,hp.2⟩,yJ ..⟩
    .obtain⟨c,q1,q2⟩:=ih _ hp.1 (by omega) s hs he
     exact⟨c,q1,yH _ q2⟩
theorem TreeP.kid_par{P:List Int}(T:TreeP P){s c:Nat}(h:c∈kids P (s:Int)):1<=c/\c<P.length/\prt P c=s/\s<c:=by
 obtain⟨h1,h2,h3⟩:=Z18.1 h
 have hp:=T.par_lt h1 h2
 rw[hp.2]at h3
 have:prt P c=s:=by have:=Option.some.inj h3;omega
 exact⟨h1,h2,this,by omega⟩
structure LeafP(P:List Int)(s l:Nat):Prop where
 lt:l<P.length
 leaf:kids P (l:Int)=[]
 up:s∈ups P l
theorem TreeP.some_leaf{P:List Int}(T:TreeP P):∀(n s:Nat),P.length-s=n->s<P.length->∃l,LeafP P s l:=by
 intro n
 induction n using Nat.strongRecOn with
 |_ n ih =>
  intro s hn hs
  cases hk:kids P (s:Int)with
  |nil=>exact⟨s,hs,hk,Y0f P s⟩
  |cons c ks =>
   have hc:c∈kids P (s:Int):=by rw[hk];exact yJ ..
   obtain⟨q1,q2,q3,q4⟩:=T.kid_par hc
   obtain⟨l,hl⟩:=ih (P.length-c) (by omega) c rfl q2
   refine⟨l,hl.lt,hl.leaf,(T.ups_mem l hl.lt c hl.up).2 s ?_⟩
   rw[T.ups_succ q1 q2,q3]
   exact yH _ (Y0f P s)
theorem TreeP.leaf_kid{P:List Int}(T:TreeP P){s c l:Nat}(hc:c∈kids P (s:Int))(h:LeafP P c l):LeafP P s l:=by
 obtain⟨q1,q2,q3,q4⟩:=T.kid_par hc
 refine⟨h.lt,h.leaf,(T.ups_mem l h.lt c h.up).2 s ?_⟩
 rw[T.ups_succ q1 q2,q3]
 exact yH _ (Y0f P s)
theorem TreeP.leaf_cases{P:List Int}(T:TreeP P){s l:Nat}(h:LeafP P s l):s=l\/∃c,c∈kids P (s:Int)/\LeafP P c l:=by
 by_cases e:s=l
 .exact .inl e
 .obtain⟨c,q1,q2⟩:=T.kid_of l h.lt s h.up e
  exact .inr ⟨c,q1,h.lt,h.leaf,q2⟩
theorem TreeP.zero_up{P:List Int}(T:TreeP P):∀l,l<P.length->0∈ups P l:=by
 intro l
 induction l using Nat.strongRecOn with
 |_ l ih =>
  intro hl
  by_cases h0:l=0
  .subst h0;exact Y0f P 0
  .rw[T.ups_succ (by omega) hl]
   exact yH _ (ih _ (T.par_lt (by omega) hl).1 (by have:=(T.par_lt (i:=l) (by omega) hl).1;omega))
theorem Qj(t:Topo)(s:Int)(hl:t.parents.length<=1048576):Mg t s=some ((kids t.parents s).map fun(i:Nat)=>(i:Int)):=by
 unfold Mg
 have h:=W0c (bd:=Mh t s) (fun(i:Nat) (st:List Int)=>((i:Int),st)) (n:=t.parents.length)
  (B:=fun x _ st k=>bif t.parents[x]?==some s then(appL 8 st [(x:Int)]).bind k else k st) (kk:=some) (fun i st k hi=>by
   obtain⟨e,he⟩:∃e,t.parents[i]?=some e:=⟨_,yA hi⟩
   have hlt:(i:Int)<(t.parents.length:Int):=by omega
   simp only[Mh,hlt,decide_true,yN,Y8,he,bS,J0i (n:=i) (by omega)]
   rw[show(some e==some s)=(e==s) from rfl])
  (fun i st k hi=>by
   have hlt:¬ (i:Int)<(t.parents.length:Int):=by omega
   simp only[Mh,hlt,decide_false,yM]) 9223372036854775807 1 [] (by omega)
 refine h.trans ?_
 rw[M8 (p:=fun(x:Nat)=>t.parents[x]?==some s) (f:=fun(x:Nat)=>(x:Int)) (fun x _ i b k=>rfl) (by simp;omega)]
 rfl
def LevP(P:List Int)(s:Nat)(v:Int):Prop :=
 (0<=v/\v<=P.length-s/\∀l,LeafP P s l->(dep P l:Int)=dep P s+v)\/(v = -1/\∃l1 l2,LeafP P s l1/\LeafP P s l2/\dep P l1≠dep P l2)
theorem L0e{t:Topo}(T:TreeP t.parents):∀(n s fuel:Nat),t.parents.length-s=n->s<t.parents.length->n<=fuel->∃v,Me fuel t (s:Int)=some v/\LevP t.parents s v:=by
 intro n
 induction n using Nat.strongRecOn with
 |_ n ih =>
  intro s fuel hn hs hf
  obtain⟨fuel,rfl⟩:∃m,fuel=m+1:=⟨fuel-1,by omega⟩
  have hle:=T.le
  rw[Me,Qj t s (by omega),bS,U1f]
  refine U7 (fun i (v:Int)=>(i=0->v = -1)/\(0<i->0<=v/\v<=t.parents.length-s-1/\∀j c,j<i->(kids t.parents (s:Int))[j]?=some c->∀l,LeafP t.parents c l->(dep t.parents l:Int)=dep t.parents s+1+v)) (fun r=>∃v,r=some v/\LevP t.parents s v) ?_ ?_ ⟨fun _=>rfl,fun h=>by omega⟩
  .intro i c v k hi hI hk
   have hc:c∈kids t.parents (s:Int):=yE hi
   obtain⟨q1,q2,q3,q4⟩:=T.kid_par hc
   have hd:dep t.parents c=dep t.parents s+1:=by rw[T.dep_succ q1 q2,q3]
   obtain⟨n6,hn6,hl6⟩:=ih (t.parents.length-c) (by omega) c fuel rfl q2 (by omega)
   rw[Xy,hn6,bS]
   rcases hl6 with⟨p1,p2,p3⟩|⟨rfl,l1,l2,h1,h2,hne⟩
   .have e1:decide (n6<0)=false:=by simpa using p1
    rw[e1,Bool.false_or]
    by_cases h0:i=0
    .subst h0
     simp only[Int.natCast_zero,Int.lt_irrefl,decide_false,Bool.false_and,yM]
     refine hk n6 ⟨fun h=>by omega,fun _=>⟨p1,by omega,fun j c' hj hc' l hl=>?_⟩⟩
     have:j=0:=by omega
     subst this
     rw[hi]at hc';cases hc'
     rw[p3 l hl,hd];omega
    .have e2:decide ((0:Int)<(i:Int))=true:=by simp;omega
     obtain⟨r1,r2,r3⟩:=hI.2 (by omega)
     rw[e2,Bool.true_and]
     by_cases hv:n6=v
     .subst hv
      simp only[bne_self_eq_false,yM]
      refine hk n6 ⟨fun h=>by omega,fun _=>⟨p1,r2,fun j c' hj hc' l hl=>?_⟩⟩
      by_cases hji:j=i
      .subst hji
       rw[hi]at hc';cases hc'
       rw[p3 l hl,hd];omega
      .exact r3 j c' (by omega) hc' l hl
     .have e3:(n6 != v)=true:=by simpa using hv
      rw[e3,yN]
      refine⟨-1,rfl,.inr ⟨rfl,?_⟩⟩
      obtain⟨c0,hc0⟩:∃c0,(kids t.parents (s:Int))[0]?=some c0:=⟨_,yA (by have:=(yB hi).1;omega)⟩
      have hm0:=yE hc0
      obtain⟨w1,w2,w3,w4⟩:=T.kid_par hm0
      obtain⟨la,hla⟩:=T.some_leaf _ c0 rfl w2
      obtain⟨lb,hlb⟩:=T.some_leaf _ c rfl q2
      refine⟨la,lb,T.leaf_kid hm0 hla,T.leaf_kid hc hlb,fun e=>hv ?_⟩
      have a1:=r3 0 c0 (by omega) hc0 la hla
      have a2:=p3 lb hlb
      omega
   .refine⟨-1,by rfl,.inr ⟨rfl,l1,l2,T.leaf_kid hc h1,T.leaf_kid hc h2,hne⟩⟩
  .intro v hI
   rw[Yy]
   by_cases h0:(kids t.parents (s:Int)).length=0
   .rw[hI.1 h0]
    refine⟨0,rfl,.inl ⟨by omega,by omega,fun l hl=>?_⟩⟩
    rcases T.leaf_cases hl with rfl|⟨c,hc,_⟩
    .omega
    .rw[List.eq_nil_of_length_eq_zero h0]at hc;cases hc
   .obtain⟨r1,r2,r3⟩:=hI.2 (by omega)
    rw[V4 (by omega)]
    refine⟨v+1,rfl,.inl ⟨by omega,by omega,fun l hl=>?_⟩⟩
    rcases T.leaf_cases hl with rfl|⟨c,hc,hlc⟩
    .have:=hl.leaf
     rw[this]at h0;simp at h0
    .obtain⟨j,hj⟩:=List.getElem?_of_mem hc
     rw[r3 j c (yB hj).1 hj l hlc];omega
theorem MZ{t:Topo}(T:TreeP t.parents){s:Nat}(hs:s<t.parents.length):∃v,W7 t (s:Int)=some v/\LevP t.parents s v :=
 L0e T _ s _ rfl hs (by have:=T.le;omega)
structure TopoP(t:Topo):Prop where
 tree:TreeP t.parents
 nodes:t.nodes.length<=24
 node:∀x∈t.nodes,0<=x.leaf/\x.leaf<t.parents.length/\kids t.parents x.leaf=[]/\W0 x.cap=true
 even:∀l1 l2,l1<t.parents.length->l2<t.parents.length->kids t.parents (l1:Int)=[]->kids t.parents (l2:Int)=[]->dep t.parents l1=dep t.parents l2
theorem QK(t:Topo):∃b,Xe t=some b/\(b=true↔TopoP t):=by
 unfold Xe
 by_cases h1:t.parents.length<1
 .exact⟨false,by simp[show((t.parents.length:Int)<1) by omega],Xg fun h=>by have:=h.tree.pos;omega⟩
 by_cases h2:24<t.parents.length
 .exact⟨false,by simp[show((24:Int)<t.parents.length) by omega],Xg fun h=>by have:=h.tree.le;omega⟩
 by_cases h3:24<t.nodes.length
 .exact⟨false,by simp[show((24:Int)<t.nodes.length) by omega],Xg fun h=>by have:=h.nodes;omega⟩
 obtain⟨p0,hp0⟩:∃p0,t.parents[0]?=some p0:=⟨_,yA (by omega)⟩
 have e1:decide ((t.parents.length:Int)<1)=false:=by simp;omega
 have e2:decide ((24:Int)<(t.parents.length:Int))=false:=by simp;omega
 have e3:decide ((24:Int)<(t.nodes.length:Int))=false:=by simp;omega
 rw[e1,e2,e3]
 simp only[Bool.or_self,yM,Bool.false_or,show idx t.parents 0=some p0 from by rw[← hp0];exact Y8 (i:=0),bS]
 by_cases h4:p0=0
 .subst h4
  simp only[bne_self_eq_false,yM]
  have h:=W0c (bd:=Mj t) (fun(i:Nat) (_:Unit)=>(i:Int)) (n:=t.parents.length)
   (B:=fun x _ _ k=>bif (match t.parents[x]? with|some e=>decide (e<0)||decide ((x:Int)<=e)|none=>true)then some false else k ())
   (kk:=fun _=>rgl (Oj t) (Lu t) t.nodes 0 ()) (fun i st k hi=>by
    obtain⟨e,he⟩:∃e,t.parents[i]?=some e:=⟨_,yA hi⟩
    have hlt:(i:Int)<(t.parents.length:Int):=by omega
    simp only[Mj,hlt,decide_true,yN,Y8,he,bS,J0i (n:=i) (by omega)])
   (fun i st k hi=>by
    have hlt:¬ (i:Int)<(t.parents.length:Int):=by omega
    simp only[Mj,hlt,decide_false,yM]) 9223372036854775807 1 () (by omega)
  rw[show(1:Int)=((1:Nat):Int) from rfl,h,Mf (p:=fun(x:Nat)=>match t.parents[x]? with|some e=>decide (e<0)||decide ((x:Int)<=e)|none=>true) (fun x _ i k=>rfl)]
  cases hany:(List.range' 1 (t.parents.length-1)).any (fun(x:Nat)=>match t.parents[x]? with|some e=>decide (e<0)||decide ((x:Int)<=e)|none=>true)with
  |true =>
   refine⟨false,rfl,Xg fun hT=>?_⟩
   obtain⟨x,hx,hq⟩:=List.any_eq_true.1 hany
   obtain⟨j,hj,rfl⟩:=List.mem_range'.1 hx
   obtain⟨e,he⟩:∃e,t.parents[1+1*j]?=some e:=⟨_,yA (by omega)⟩
   have:=hT.tree.par _ (by omega) e he
   rw[he]at hq
   simp at hq
   omega
  |false =>
   have T:TreeP t.parents:=⟨by omega,by omega,hp0,fun i hi p hp=>by
    have hlt:i<t.parents.length:=(yB hp).1
    have:=List.any_eq_false.1 hany i (List.mem_range'.2 ⟨i-1,by omega,by omega⟩)
    rw[hp]at this
    simp at this
    omega⟩
   rw[yM]
   have hb:∀x∈t.nodes,∀i k,Oj t x i () k=bif (!(decide (0<=x.leaf)&&decide (x.leaf<t.parents.length)&&(kids t.parents x.leaf).isEmpty&&W0 x.cap))then some false else k ():=by
    intro x _ i k
    unfold Oj
    by_cases q1:x.leaf<0
    .simp[q1,show ¬ 0<=x.leaf by omega]
    .by_cases q2:(t.parents.length:Int)<=x.leaf
     .simp[q1,q2,show ¬ x.leaf<t.parents.length by omega]
     .rw[show decide (x.leaf<0)=false by simpa using q1,show decide ((t.parents.length:Int)<=x.leaf)=false by simpa using q2]
      simp only[Bool.or_self,yM,Bool.false_or,Qj t x.leaf (by omega),bS,List.length_map]
      rw[show decide (0<=x.leaf)=true by simpa using q1,show decide (x.leaf<(t.parents.length:Int))=true by simpa using q2]
      cases hk:kids t.parents x.leaf with
      |nil=>simp
      |cons a l=>simp
   rw[Mf hb]
   cases hany2:t.nodes.any (fun x=>!(decide (0<=x.leaf)&&decide (x.leaf<t.parents.length)&&(kids t.parents x.leaf).isEmpty&&W0 x.cap))with
   |true =>
    refine⟨false,rfl,Xg fun hT=>?_⟩
    obtain⟨x,hx,hq⟩:=List.any_eq_true.1 hany2
    obtain⟨a1,a2,a3,a4⟩:=hT.node x hx
    simp[a1,a2,a3,a4]at hq
   |false =>
    obtain⟨v,hv,hl⟩:=MZ T (s:=0) (by omega)
    rw[yM,Lu,show(0:Int)=((0:Nat):Int) from rfl,hv,bS]
    have mem:∀l,l<t.parents.length->kids t.parents (l:Int)=[]->LeafP t.parents 0 l:=fun l h1 h2=>⟨h1,h2,T.zero_up l h1⟩
    refine⟨_,rfl,?_⟩
    rw[decide_eq_true_iff]
    constructor
    .intro h0
     refine⟨T,by omega,fun x hx=>?_,fun l1 l2 a1 a2 a3 a4=>?_⟩
     .have:=List.any_eq_false.1 hany2 x hx
      simpa[and_assoc]using this
     .rcases hl with⟨_,_,hl⟩|⟨rfl,_⟩
      .have:=hl l1 (mem l1 a1 a3)
       have:=hl l2 (mem l2 a2 a4)
       omega
      .simp at h0
    .intro hT
     rcases hl with⟨h0,_⟩|⟨rfl,l1,l2,a1,a2,hne⟩
     .exact h0
     .exact absurd (hT.even l1 l2 a1.lt a2.lt a1.leaf a2.leaf) hne
 .refine⟨false,by rw[show(p0 != 0)=true by simpa using h4];rfl,Xg fun h=>h4 ?_⟩
  have:=h.tree.root
  rw[hp0]at this;exact Option.some.inj this
theorem U0b(P:List Int)(s:Int)(hl:P.length<=1048576):Qz P s=some (kids P s).isEmpty:=by
 unfold Qz
 have h:=W0c (bd:=Mk P s) (fun(i:Nat) (_:Unit)=>(i:Int)) (n:=P.length)
  (B:=fun x _ _ k=>bif P[x]?==some s then some false else k ()) (kk:=fun _=>some true) (fun i st k hi=>by
   obtain⟨e,he⟩:∃e,P[i]?=some e:=⟨_,yA hi⟩
   have hlt:(i:Int)<(P.length:Int):=by omega
   simp only[Mk,hlt,decide_true,yN,Y8,he,bS,J0i (n:=i) (by omega)]
   rw[show(some e==some s)=(e==s) from rfl])
  (fun i st k hi=>by
   have hlt:¬ (i:Int)<(P.length:Int):=by omega
   simp only[Mk,hlt,decide_false,yM]) 9223372036854775807 1 () (by omega)
 refine h.trans ?_
 rw[Mf (p:=fun(x:Nat)=>P[x]?==some s) (fun x _ i k=>rfl)]
 unfold kids
 generalize List.range' 1 (P.length-1)=l
 induction l with
 |nil=>rfl
 |cons x l ih =>
  rw[List.any_cons,List.filter_cons]
  cases h:(P[x]?==some s)with
  |true=>simp
  |false=>simpa using ih
theorem LW{P:List Int}(T:TreeP P){s:Nat}(hs:s<P.length):Wz P (s:Int)=some (dep P s:Int):=by
 unfold Wz
 refine UQ (fun _ r=>r=some (dep P s:Int)) (fun b=>b.1.toNat) (fun b=>∃m:Nat,b.1=(m:Int)/\m<P.length/\b.2+(dep P m:Int)=(dep P s:Int)/\0<=b.2) ?_ 9223372036854775807 _ ⟨s,rfl,hs,by simp,by simp⟩ (by have:=T.le;simp only;omega)
 rintro⟨x,n⟩ k ⟨m,hm,h1,h2,h3⟩ hk
 simp only at hm h2 hk h3
 subst hm
 have hle:=T.le
 have hdl:=U1l P s
 unfold MR
 by_cases h0:0<m
 .have hp:=T.par_lt (i:=m) (by omega) h1
  have hlt:(0:Int)<(m:Int):=by omega
  simp only[hlt,decide_true,yN,Y8,hp.2,bS]
  have hd:=T.dep_succ (i:=m) (by omega) h1
  rw[V4 (by omega)]
  refine hk _ ⟨_,rfl,by omega,by simp only;omega,by simp only;omega⟩ (by simp only;omega)
 .have:m=0:=by omega
  subst this
  rw[V1q]at h2
  simp only[Int.natCast_zero,Int.lt_irrefl,decide_false,yM]
  congr 1
  omega
theorem U0C(t:Topo):∃b,Jk t=some b/\(b=true↔TopoP t):=by
 unfold Jk
 cases hw:V0 (t.parents.length:Int) 1 24 with
 |false =>
  refine⟨false,by simp,Xg fun h=>?_⟩
  have:=h.tree.pos;have:=h.tree.le
  simp[V0]at hw
  omega
 |true =>
 have hw':1<=t.parents.length/\t.parents.length<=24:=by simp[V0]at hw;omega
 obtain⟨p0,hp0⟩:∃p0,t.parents[0]?=some p0:=⟨_,yA (by omega)⟩
 simp only[yL,yM,Bool.false_or,show idx t.parents 0=some p0 from by rw[← hp0];exact Y8 (i:=0),bS]
 by_cases h4:p0=0
 rotate_left
 .refine⟨false,by rw[show(p0 != 0)=true by simpa using h4];rfl,Xg fun h=>h4 ?_⟩
  have:=h.tree.root
  rw[hp0]at this;exact Option.some.inj this
 subst h4
 by_cases h3:24<t.nodes.length
 .exact⟨false,by simp[show((24:Int)<t.nodes.length) by omega],Xg fun h=>by have:=h.nodes;omega⟩
 have e3:decide ((24:Int)<(t.nodes.length:Int))=false:=by simp;omega
 rw[e3]
 simp only[bne_self_eq_false,Bool.or_self,yM]
 have h:=W0c (bd:=Lk t) (fun(i:Nat) (_:Unit)=>(i:Int)) (n:=t.parents.length)
  (B:=fun x _ _ k=>bif (match t.parents[x]? with|some e=>!(V0 e 0 (w64 ((x:Int)-1)))|none=>true)then some false else k ())
  (kk:=fun _=>rgl (Zw t) (Lv t) t.parents 0 (-1)) (fun i st k hi=>by
   obtain⟨e,he⟩:∃e,t.parents[i]?=some e:=⟨_,yA hi⟩
   have hlt:(i:Int)<(t.parents.length:Int):=by omega
   simp only[Lk,hlt,decide_true,yN,Y8,he,bS,J0i (n:=i) (by omega)])
  (fun i st k hi=>by
   have hlt:¬ (i:Int)<(t.parents.length:Int):=by omega
   simp only[Lk,hlt,decide_false,yM]) 9223372036854775807 1 () (by omega)
 rw[show(1:Int)=((1:Nat):Int) from rfl,h,Mf (p:=fun(x:Nat)=>match t.parents[x]? with|some e=>!(V0 e 0 (w64 ((x:Int)-1)))|none=>true) (fun x _ i k=>rfl)]
 cases hany:(List.range' 1 (t.parents.length-1)).any (fun(x:Nat)=>match t.parents[x]? with|some e=>!(V0 e 0 (w64 ((x:Int)-1)))|none=>true)with
 |true =>
  refine⟨false,rfl,Xg fun hT=>?_⟩
  obtain⟨x,hx,hq⟩:=List.any_eq_true.1 hany
  obtain⟨j,hj,rfl⟩:=List.mem_range'.1 hx
  obtain⟨e,he⟩:∃e,t.parents[1+1*j]?=some e:=⟨_,yA (by omega)⟩
  have:=hT.tree.par _ (by omega) e he
  rw[he]at hq
  simp only at hq
  rw[V4 (by omega)]at hq
  simp[V0]at hq
  omega
 |false =>
  have T:TreeP t.parents:=⟨by omega,by omega,hp0,fun i hi p hp=>by
   have hlt:i<t.parents.length:=(yB hp).1
   have:=List.any_eq_false.1 hany i (List.mem_range'.2 ⟨i-1,by omega,by omega⟩)
   rw[hp]at this
   simp only at this
   rw[V4 (by omega)]at this
   simp[V0]at this
   omega⟩
  rw[yM]
  refine U7 (fun i (v:Int)=>(v = -1/\∀l,l<i->kids t.parents (l:Int)≠[])\/(0<=v/\(∃l,l<i/\kids t.parents (l:Int)=[])/\∀l,l<i->kids t.parents (l:Int)=[]->(dep t.parents l:Int)=v))
   (fun r=>∃b,r=some b/\(b=true↔TopoP t)) ?_ ?_ (.inl ⟨rfl,fun l hl=>by omega⟩)
  .intro i x v k hi hI hk
   have hil:i<t.parents.length:=(yB hi).1
   rw[Zw,U0b _ _ (by omega),bS]
   cases hkd:kids t.parents (i:Int)with
   |cons a l =>
    simp only[List.isEmpty_cons,Bool.not_false,yN]
    refine hk v ?_
    rcases hI with⟨q1,q2⟩|⟨q1,⟨l0,q2,q3⟩,q4⟩
    .refine .inl ⟨q1,fun l hl=>?_⟩
     by_cases e:l=i
     .subst e;rw[hkd];simp
     .exact q2 l (by omega)
    .refine .inr ⟨q1,⟨l0,by omega,q3⟩,fun l hl hl2=>?_⟩
     by_cases e:l=i
     .subst e;rw[hkd]at hl2;cases hl2
     .exact q4 l (by omega) hl2
   |nil =>
    simp only[List.isEmpty_nil,yL,yM,LW T hil,bS]
    have hnew:∀v',(∀l,l<i->kids t.parents (l:Int)=[]->(dep t.parents l:Int)=dep t.parents i)->v'=(dep t.parents i:Int)->(v' = -1/\∀l,l<i+1->kids t.parents (l:Int)≠[])\/(0<=v'/\(∃l,l<i+1/\kids t.parents (l:Int)=[])/\∀l,l<i+1->kids t.parents (l:Int)=[]->(dep t.parents l:Int)=v'):=by
     intro v' hq e
     subst e
     refine .inr ⟨by omega,⟨i,by omega,hkd⟩,fun l hl hl2=>?_⟩
     by_cases e:l=i
     .subst e;rfl
     .exact hq l (by omega) hl2
    rcases hI with⟨rfl,q2⟩|⟨q1,⟨l0,q2,q3⟩,q4⟩
    .simp only[show decide ((0:Int)<=-1)=false from rfl,Bool.false_and,yM]
     exact hk _ (hnew _ (fun l hl hl2=>absurd hl2 (q2 l hl)) rfl)
    .by_cases he:(dep t.parents i:Int)=v
     .rw[he]
      simp only[bne_self_eq_false,Bool.and_false,yM]
      exact hk _ (hnew _ (fun l hl hl2=>by rw[q4 l hl hl2,he]) he.symm)
     .have e1:((dep t.parents i:Int)!=v)=true:=by simpa using he
      rw[e1,show decide (0<=v)=true by simpa using q1]
      refine⟨false,rfl,Xg fun hT=>he ?_⟩
      rw[← q4 l0 q2 q3]
      exact_mod_cast hT.even i l0 hil (by omega) hkd q3
  .intro v hI
   rw[Lv]
   have hb:∀x∈t.nodes,∀i k,Jv t x i () k=bif (!(decide (0<=x.leaf)&&decide (x.leaf<t.parents.length)&&(kids t.parents x.leaf).isEmpty&&W0 x.cap))then some false else k ():=by
    intro x _ i k
    unfold Jv
    rw[V4 (by omega)]
    by_cases q1:x.leaf<0
    .simp[V0,show ¬ 0<=x.leaf by omega]
    .by_cases q2:(t.parents.length:Int)<=x.leaf
     .simp[V0,show ¬ x.leaf<t.parents.length by omega,show ¬ x.leaf<=(t.parents.length:Int)-1 by omega]
     .have e:V0 x.leaf 0 ((t.parents.length:Int)-1)=true:=by simp[V0];omega
      rw[e]
      simp only[yL,yM,Bool.false_or,U0b t.parents x.leaf (by omega),bS,Mv]
      rw[show decide (0<=x.leaf)=true by simpa using q1,show decide (x.leaf<(t.parents.length:Int))=true by simpa using q2]
      cases(kids t.parents x.leaf).isEmpty<;>cases W0 x.cap<;>rfl
   rw[Mf hb]
   cases hany2:t.nodes.any (fun x=>!(decide (0<=x.leaf)&&decide (x.leaf<t.parents.length)&&(kids t.parents x.leaf).isEmpty&&W0 x.cap))with
   |true =>
    refine⟨false,rfl,Xg fun hT=>?_⟩
    obtain⟨x,hx,hq⟩:=List.any_eq_true.1 hany2
    obtain⟨a1,a2,a3,a4⟩:=hT.node x hx
    simp[a1,a2,a3,a4]at hq
   |false =>
    refine⟨true,rfl,⟨fun _=>⟨T,by omega,fun x hx=>?_,fun l1 l2 a1 a2 a3 a4=>?_⟩,fun _=>rfl⟩⟩
    .have:=List.any_eq_false.1 hany2 x hx
     simpa[and_assoc]using this
    .rcases hI with⟨_,q2⟩|⟨q1,_,q4⟩
     .exact absurd a3 (q2 l1 a1)
     .have:=q4 l1 a1 a3
      have:=q4 l2 a2 a4
      omega
theorem JR(t:Topo):Jk t=Xe t:=by
 obtain⟨a,h1,h2⟩:=U0C t
 obtain⟨b,h3,h4⟩:=QK t
 rw[h1,h3]
 congr 1
 exact Bool.eq_iff_iff.2 (h2.trans h4.symm)
noncomputable def topoOk(t:Topo):Bool:=(Xe t).getD false
theorem Wo(t:Topo):Xe t=some (topoOk t):=by
 obtain⟨b,h3,_⟩:=QK t
 rw[topoOk,h3];rfl
theorem UJ{t:Topo}:topoOk t=true↔TopoP t:=by
 obtain⟨b,h3,h4⟩:=QK t
 rw[topoOk,h3];exact h4
theorem TopoP.last{t:Topo}(h:TopoP t):kids t.parents ((t.parents.length-1:Nat):Int)=[]:=by
 cases hk:kids t.parents ((t.parents.length-1:Nat):Int)with
 |nil=>rfl
 |cons c l =>
  obtain⟨q1,q2,q3,q4⟩:=h.tree.kid_par (s:=t.parents.length-1) (c:=c) (by rw[hk];exact yJ ..)
  omega
def lev(t:Topo)(s:Nat):Int:=(dep t.parents (t.parents.length-1):Int)-dep t.parents s
theorem Qd{t:Topo}(h:TopoP t){s:Nat}(hs:s<t.parents.length):W7 t (s:Int)=some (lev t s):=by
 obtain⟨v,h1,h2⟩:=MZ h.tree hs
 rw[h1]
 have hp:=h.tree.pos
 obtain⟨l,hl⟩:=h.tree.some_leaf _ s rfl hs
 rcases h2 with⟨_,_,h2⟩|⟨_,l1,l2,a1,a2,hne⟩
 .have e1:=h2 l hl
  have e2:=h.even l (t.parents.length-1) hl.lt (by omega) hl.leaf h.last
  unfold lev
  congr 1
  omega
 .exact absurd (h.even l1 l2 a1.lt a2.lt a1.leaf a2.leaf) hne
theorem VM{t:Topo}(h:TopoP t){s:Nat}(hs:s<t.parents.length):Vz t (s:Int)=some (lev t s):=by
 have hp:=h.tree.pos
 have hle:=h.tree.le
 unfold Vz OW
 rw[V4 (by omega),show((t.parents.length:Int)-1)=((t.parents.length-1:Nat):Int) by omega,LW h.tree (by omega),bS,bS,LW h.tree hs,bS]
 have:=U1l t.parents (t.parents.length-1)
 have:=U1l t.parents s
 rw[V4 (by omega)];rfl
theorem W0N{t:Topo}(T:TreeP t.parents){s:Nat}(hs:s<t.parents.length):Vs t (s:Int)=some ((ups t.parents s).map fun(i:Nat)=>(i:Int)):=by
 unfold Vs
 refine UQ (fun _ r=>r=some ((ups t.parents s).map fun(i:Nat)=>(i:Int))) (fun b=>b.1.toNat) (fun b=>∃m:Nat,b.1=(m:Int)/\m<t.parents.length/\b.2.length+m<=1000/\∃l,b.2=l++[(m:Int)]/\(ups t.parents s).map (fun(i:Nat)=>(i:Int))=l++(ups t.parents m).map fun(i:Nat)=>(i:Int)) ?_ 9223372036854775807 _ ⟨s,rfl,hs,by have:=T.le;simp;omega,[],by simp⟩ (by have:=T.le;simp only;omega)
 rintro⟨x,n⟩ k ⟨m,hm,h1,h2,l,h3,h4⟩ hk
 simp only at hm h2 hk h3
 subst hm
 have hle:=T.le
 unfold MQ
 by_cases h0:0<m
 .have hp:=T.par_lt (i:=m) (by omega) h1
  have hlt:(0:Int)<(m:Int):=by omega
  simp only[hlt,decide_true,yN,Y8,hp.2,bS]
  rw[M0 (by simp;omega),bS]
  refine hk _ ⟨_,rfl,by omega,by simp;omega,n,rfl,?_⟩ (by simp only;omega)
  rw[h4,h3,T.ups_succ (by omega) h1]
  simp
 .have:m=0:=by omega
  subst this
  simp only[Int.natCast_zero,Int.lt_irrefl,decide_false,yM]
  rw[h4,h3,Y0N];rfl
theorem Y0T(t:Topo)(s:Int):Z09 t s=Vs t s:=rfl
theorem Za(l:List Int)(n:Int):Z9 l n=some (l.contains n):=by
 unfold Z9
 rw[Mf (p:=fun x=>x==n) (fun x _ i k=>rfl)]
 unfold VK
 rw[show l.contains n=l.any (fun x=>x==n) from by rw[List.contains_eq_any_beq];congr 1;funext x;exact Bool.beq_comm]
 cases l.any fun x=>x==n<;>rfl
theorem M0x(l:List Int)(n:Int):∃r:Int,W9 l n=some r/\decide (0<=r)=l.contains n:=by
 unfold W9
 refine U7 (fun i (_:Unit)=>∀j x,j<i->l[j]?=some x->x≠n) (fun r=>∃m:Int,r=some m/\decide (0<=m)=l.contains n) ?_ ?_ (fun j x h=>by omega)
 .intro i x b k hi hI hk
  unfold Wf
  by_cases h:n=x
  .subst h
   simp only[beq_self_eq_true,yN]
   refine⟨i,rfl,?_⟩
   have:l.contains n=true:=List.contains_iff_mem.2 (yE hi)
   rw[this];simp
  .rw[show(n==x)=false by simpa using h,yM]
   refine hk () fun j y hj hy=>?_
   by_cases e:j=i
   .subst e;rw[hi]at hy;cases hy;exact fun e=>h e.symm
   .exact hI j y (by omega) hy
 .intro b hI
  refine⟨-1,rfl,?_⟩
  have:l.contains n=false:=by
   rw[Bool.eq_false_iff]
   intro h
   obtain⟨j,hj⟩:=List.getElem?_of_mem (List.contains_iff_mem.1 h)
   exact hI j n (yB hj).1 hj rfl
  rw[this];rfl
theorem OO(l:List Int)(n:Int):M4 l n=some (l.contains n):=by
 obtain⟨r,h1,h2⟩:=M0x l n
 unfold M4
 rw[h1,bS,h2]
noncomputable def W5(t:Topo)(l:List Int):Bool:=l.all (fun n=>decide (0<=n)&&decide (n<t.nodes.length))&&topoOk t
theorem O6{t:Topo}{l:List Int}:W5 t l=true↔TopoP t/\∀n∈l,0<=n/\n<t.nodes.length:=by
 simp[W5,UJ,and_comm]
theorem Xq(t:Topo)(l:List Int):Ud t l=some (W5 t l):=by
 unfold Ud W5
 rw[Mf (r:=some false) (p:=fun(x:Int)=>!(decide (0<=x)&&decide (x<t.nodes.length))) (fun x _ i k=>by
  unfold Qm
  by_cases h1:x<0
  .simp[h1,show ¬ 0<=x by omega]
  .by_cases h2:(t.nodes.length:Int)<=x
   .simp[h1,h2,show 0<=x by omega,show ¬ x<t.nodes.length by omega]
   .simp[h1,h2,show 0<=x by omega,show x<t.nodes.length by omega])]
 unfold Um
 rw[Wo,← List.not_all_eq_any_not]
 cases l.all fun n=>decide (0<=n)&&decide (n<t.nodes.length)<;>rfl
theorem J00(t:Topo)(l:List Int)(hl:t.nodes.length<=1048576):Xn t l=some (W5 t l):=by
 rw[← Xq]
 unfold Xn Ud
 refine U04 (fun i x b k _=>?_) fun b=>?_
 .unfold Lz Qm
  rw[V4 (by omega)]
  by_cases h1:x<0
  .simp[V0,h1,show ¬ 0<=x by omega]
  .by_cases h2:(t.nodes.length:Int)<=x
   .simp[V0,h1,h2,show 0<=x by omega,show ¬ x<=(t.nodes.length:Int)-1 by omega]
   .simp[V0,h1,h2,show 0<=x by omega,show x<=(t.nodes.length:Int)-1 by omega]
 .unfold Mz Um
  rw[JR]
def hasUp(t:Topo)(n:Int)(s:Nat):Bool:=match idx t.nodes n with
 |some e=>((ups t.parents e.leaf.toNat).map fun(i:Nat)=>(i:Int)).contains (s:Int)
 |none=>false
theorem X0o{t:Topo}{l:List Int}(h:W5 t l=true){n:Int}(hn:n∈l):∃(e:Node) (m:Nat),idx t.nodes n=some e/\e.leaf=m/\m<t.parents.length:=by
 obtain⟨h1,h2⟩:=O6.1 h
 obtain⟨e,q1,q2⟩:=Md (l:=t.nodes) (i:=n) (h2 n hn).1 (h2 n hn).2
 obtain⟨a1,a2,_,_⟩:=h1.node e (yE q2)
 exact⟨e,e.leaf.toNat,q1,by omega,by omega⟩
theorem W0T{t:Topo}{l:List Int}(h:W5 t l=true){n:Int}(hn:n∈l)(s:Nat){γ:Type}(f:Bool->Option γ) :
  ((idx t.nodes n).bind fun e=>(Vs t e.leaf).bind fun y=>(Z9 y (s:Int)).bind f)=f (hasUp t n s):=by
 obtain⟨e,m,q1,q2,q3⟩:=X0o h hn
 have T:=(O6.1 h).1.tree
 unfold hasUp
 rw[q1,bS,q2,W0N T q3,bS,Za,bS]
 simp[q2]
theorem V1c{t:Topo}{l:List Int}(h:W5 t l=true){n:Int}(hn:n∈l):hasUp t n 0=true:=by
 obtain⟨e,m,q1,q2,q3⟩:=X0o h hn
 have T:=(O6.1 h).1.tree
 unfold hasUp
 rw[q1]
 simp only[List.contains_iff_mem,q2]
 exact List.mem_map.2 ⟨0,T.zero_up _ (by simpa using q3),rfl⟩
theorem L0U(p:Int->Bool):∀(l:List Int) (v:Bool),l.foldl (fun v x=>v&&p x) v=(v&&l.all p)
 |[],v=>by simp
 |x::l,v=>by rw[List.foldl_cons,L0U p l,List.all_cons,Bool.and_assoc]
theorem X1n{t:Topo}{l:List Int}(h:W5 t l=true)(s:Nat)(v5:Int)(k:Int->Option Int) :
  rgl (Vk t s) (Vf t v5 s k) l 0 true=Vf t v5 s k (l.all fun n=>hasUp t n s) /\
  rgl (Zl t s) (Zg t v5 s k) l 0 true=Zg t v5 s k (l.all fun n=>hasUp t n s):=by
 constructor
 .rw[YD (f:=fun v x=>v&&hasUp t x s) (fun x hx i b k=>by
   unfold Vk
   rw[W0T h hx s (fun b10=>bif (!b10)then k false else k b)]
   cases hasUp t x s<;>simp),L0U,Bool.true_and]
 .rw[YD (f:=fun v x=>v&&hasUp t x s) (fun x hx i b k=>by
   unfold Zl
   cases b with
   |false=>simp only[yM,Bool.false_and];rfl
   |true =>
    simp only[yN,Bool.true_and]
    rw[← W0T h hx s k]
    congr 1;funext e;rw[Y0T];congr 1;funext y;rw[OO,Za]),L0U,Bool.true_and]
theorem W14{t:Topo}{l:List Int}(h:W5 t l=true)(hne:l≠[]):∃s:Nat,s<t.parents.length/\Yr t l=some (s:Int)/\Jz t l=some (s:Int):=by
 have hT:=(O6.1 h).1
 have hnl:=hT.nodes
 have hpos:=hT.tree.pos
 have e1:((l.length:Int)==0)=false:=by
  cases l with
  |nil=>exact absurd rfl hne
  |cons a l=>simp;omega
 have step:∀(i:Nat) (b:Int) (k:Int->Option Int),i<t.parents.length->(b = -1\/∃s:Nat,b=s/\s<t.parents.length) ->
   rgl (Vk t i) (Vf t b i k) l 0 true=k (bif (l.all fun n=>hasUp t n i)&&(decide (b<0)||decide (lev t i<=lev t b.toNat))then(i:Int)else b) /\
   rgl (Zl t i) (Zg t b i k) l 0 true=k (bif (l.all fun n=>hasUp t n i)&&(decide (b<0)||decide (lev t i<=lev t b.toNat))then(i:Int)else b):=by
  intro i b k hi hb
  obtain⟨q1,q2⟩:=X1n h i b k
  rw[q1,q2]
  unfold Vf Zg
  cases hall:l.all fun n=>hasUp t n i with
  |false=>exact⟨rfl,rfl⟩
  |true =>
   rcases hb with rfl|⟨s,rfl,hs⟩
   .exact⟨rfl,rfl⟩
   .have hn:decide ((s:Int)<0)=false:=by simp
    simp only[hn,yN,yM,Bool.true_and,Bool.false_or,Qd hT hi,Qd hT hs,VM hT hi,VM hT hs,bS,yZ]
    cases decide (lev t i<=lev t s)<;>exact⟨rfl,rfl⟩
 have fin:∀(bd:Int->Nat->Int->(Int->Option Int)->Option Int) (kk:Int->Option Int),kk=some->(∀(x:Int) (i:Nat) (b:Int) (k:Int->Option Int),i<t.parents.length->(b = -1\/∃s:Nat,b=s/\s<t.parents.length)->bd x i b k=k (bif (l.all fun n=>hasUp t n i)&&(decide (b<0)||decide (lev t i<=lev t b.toNat))then(i:Int)else b)) ->
   ∃s:Nat,s<t.parents.length/\rgl bd kk t.parents 0 (-1)=some (s:Int):=by
  intro bd kk hkk hbd
  refine U7 (fun i (b:Int)=>(i=0/\b = -1)\/(0<i/\∃s:Nat,b=s/\s<t.parents.length)) (fun r=>∃s:Nat,s<t.parents.length/\r=some (s:Int)) ?_ ?_ (.inl ⟨rfl,rfl⟩)
  .intro i x b k hi hI hk
   have hil:=(yB hi).1
   rw[hbd x i b k hil (by rcases hI with h|h;exact .inl h.2;exact .inr h.2)]
   refine hk _ (.inr ⟨by omega,?_⟩)
   rcases hI with⟨rfl,rfl⟩|⟨_,s,rfl,hs⟩
   .rw[show(l.all fun n=>hasUp t n 0)=true from List.all_eq_true.2 fun n hn=>V1c h hn]
    exact⟨0,rfl,hpos⟩
   .cases((l.all fun n=>hasUp t n i)&&(decide ((s:Int)<0)||decide (lev t i<=lev t (s:Int).toNat)))with
    |true=>exact⟨i,rfl,hil⟩
    |false=>exact⟨s,rfl,hs⟩
  .intro b hI
   rcases hI with⟨h0,_⟩|⟨_,s,rfl,hs⟩
   .omega
   .exact⟨s,hs,by rw[hkk]⟩
 have eq:rgl (Xw t l) JM t.parents 0 (-1)=rgl (Uf t l) Xv t.parents 0 (-1):=by
  refine Z0P (fun i (b c:Int)=>b=c/\(b = -1\/∃s:Nat,b=s/\s<t.parents.length)) rfl (fun i x y b c k k2 hx hy hr hk=>?_) (fun b c hr=>by rw[hr.1];rfl) ⟨rfl,.inl rfl⟩
  obtain⟨rfl,hb⟩:=hr
  have hil:=(yB hx).1
  unfold Xw Uf
  rw[(step i b k hil hb).2,(step i b k2 hil hb).1]
  refine hk _ _ ⟨rfl,?_⟩
  cases((l.all fun n=>hasUp t n i)&&(decide (b<0)||decide (lev t i<=lev t b.toNat)))with
  |true=>exact .inr ⟨i,rfl,hil⟩
  |false=>exact hb
 obtain⟨s,h1,h2⟩:=fin (Uf t l) Xv rfl fun x i b k hi hb=>by unfold Uf;exact(step i b k hi hb).1
 refine⟨s,h1,?_,?_⟩
 .unfold Yr
  rw[Xq,h,bS,e1]
  exact h2
 .unfold Jz
  rw[J00 t l (by omega),h,bS,e1]
  exact eq.trans h2
def V0H:L :=
sR [.bx 1 0,.mv 2 (cB false)]
 (.seq (sR [fA 5 1 0,lF 6 5 1,.ln 7 6,.bi 8 .lss 7 (kI 1),mV 9 8,gF 9 (fA 10 1 0),gF 9 (lF 11 10 1),gF 9 (.ln 12 11),gF 9 (.bi 13 .gtr 12 (kI 200)),.pk 14 9 (cB true) 13,mV 15 14,gF 15 (fA 16 1 0),gF 15 (lF 17 16 1),gF 15 (.ia 18 17 (kI 0) 4),gF 15 (fA 19 18 0),gF 15 (lF 20 19 1),gF 15 (.bi 21 .neq 20 (kI 0)),.pk 22 15 (cB true) 21]
 (.cond 22 (.seq (rE 2 (cB false))
 gR)
 .skip))
 (.seq (sR [fA 23 1 0,lF 24 23 1,.ln 25 24,.mv 26 (kI 0)]
 (.blk 0 (.loop (.gw (sR [bI 27 .lss 26 25]
 (.seq (.cond 27 .skip
 (.exit 0))
 (.seq (.blk 1 (sR [mV 28 26,iA 29 24 26 4,lT 30 29 4,.al 4 [.int .i64 0,.int .i64 0,.int .i64 0,.int .i64 0],mV 3 28,.st 4 30 4]
 (.seq (.rq 38 [fA 31 4 0,lF 32 31 1,cQ 33 M3 [32],.un 34 33,mV 35 34,gF 35 (fA 36 4 1),gF 35 (lT 37 36 3),gF 35 (cQ 38 U3 [37]),gF 35 (.un 39 38),.pk 40 35 (cB true) 39,mV 41 40,gF 41 (mV 42 3),gF 41 (.bi 43 .gtr 42 (kI 0)),gF 41 (mV 44 43),gT 44 (fA 45 1 0),gT 44 (lF 46 45 1),gT 44 (mV 47 3),gT 44 (.bi 48 .sub 47 (kI 1)),gT 44 (iA 49 46 48 4),gT 44 (fA 50 49 0),gT 44 (lF 51 50 1),gT 44 (fA 52 4 0),gT 44 (lF 53 52 1),gT 44 (bI 54 .geq 51 53),gT 44 (mV 55 54),gF 55 (fA 56 1 0),gF 55 (lF 57 56 1),gF 55 (mV 58 3),gF 55 (.bi 59 .sub 58 (kI 1)),gF 55 (iA 60 57 59 4),gF 55 (fA 61 60 1),gF 55 (lT 62 61 3),gF 55 (fA 63 4 1),gF 55 (lT 64 63 3),gF 55 (.es 65 false [0,0,0] 62 64),gT 44 (.pk 66 55 (cB true) 65),gF 41 (.pk 67 44 66 (cB false)),.pk 68 41 (cB true) 67])
 (.cond 68 (.seq (rE 2 (cB false))
 gR)
 .skip))))
 (.reg [.bi 69 .add 26 (kI 1),mV 26 69]))))))))
 (.seq (rE 2 (cB true))
 gR)))
def LK(p1:List Pt)(x5:Pt)(i5:Nat)(_:Unit)(k5:Unit->Option Bool):Option Bool :=
 (bif ((!(Q1 x5.t))||(!(W0 x5.free)))then some default else(bif (decide (0<(i5:Int)))then(idx p1 (w64 ((i5:Int)-1)))else some default)).bind fun e6=>(bif ((!(Q1 x5.t))||(!(W0 x5.free)))then some default else(bif (decide (0<(i5:Int)))then(bif (decide (x5.t<=e6.t))then some default else(idx p1 (w64 ((i5:Int)-1))))else some default)).bind fun e7=>bif (((!(Q1 x5.t))||(!(W0 x5.free)))||((decide (0<(i5:Int)))&&((decide (x5.t<=e6.t))||(e7.free.a==x5.free.a&&(e7.free.b==x5.free.b&&(e7.free.c==x5.free.c&&true))))))then(some false)else(k5 ())
def M03(_:Unit):Option Bool :=
 some true
def X9(p1:List Pt):Option Bool :=
 (bif ((decide ((p1.length:Int)<1))||(decide (200<(p1.length:Int))))then some default else(idx p1 0)).bind fun e2=>bif (((decide ((p1.length:Int)<1))||(decide (200<(p1.length:Int))))||(e2.t != 0))then(some false)else(rgl (LK p1) M03 p1 0 ())
theorem YB{p1:List Pt}{r:Bool}(H:X9 p1=some r):Snd Tryz.prog Jw [.agg [rV 4 (p1.map ePt)]] (.bool r) []:=by
 refine wS V0H [.t 2] ?_
 unfold X9 at H
 obtain⟨e2,h2,H⟩:=bB H
 refine wG [.u 7 (.ln _ _ fun _=>lm p1 ePt),.g 12 [((decide ((p1.length:Int)<1)),false)] (.ln _ _ fun _=>lm p1 ePt),.g 18 [(_,false)] (.ix _ _ _ fun q=>Q0 ePt (bF q.1 h2))] fun q3=>?_
 refine O0 H (fun H=>?_) fun H=>?_
 .obtain rfl:=sI H
  exact wP (wE [(2,.d)])
 .refine wG [.u 25 (.ln _ _ fun _=>lm p1 ePt)] fun q4=>?_
  refine wR (fun(i5:Nat) (v5:Unit)=>⟨[(1,.ptr 1 0),(24,rV 4 (p1.map ePt)),(25,iV (p1.length:Int)),(26,iV (i5:Int))],[],[(1,[rV 4 (p1.map ePt)])],[]⟩) H (fun i5 x5 v5 I m k5 hxv5 hiv5 H N27=>?_) (fun v5 I m H=>?_)
  .unfold LK at H
   refine wP ?_
   refine wt (ltT hiv5) ?_
   obtain⟨e6,h6,H⟩:=bB H
   obtain⟨e7,h7,H⟩:=bB H
   refine wG [.u 29 (.ix _ _ _ fun _=>Q0 ePt (J0 hxv5)),.c 33 (U4 x5.t),.g 38 [((!(Q1 x5.t)),false)] (.call _ _ _ _ _ (AEs.refl _) (fun _=>Q3 x5.free)),.g 49 [(_,true),(_,false)] (.ix _ _ _ fun q=>Q0 ePt (bT q.1 (bF q.2.1 h6))),.g 60 [(_,false),(_,true),(_,false)] (.ix _ _ _ fun q=>Q0 ePt (bF q.1 (bT q.2.1 (bF q.2.2.1 h7))))] fun _=>?_
   refine O0 H (fun H=>?_) fun H=>?_
   .obtain rfl:=sI H
    exact wP (wE [(2,.d)])
   .refine wG [.w 69 (wi .i64 rfl hiv5 q3.1)] fun _=>?_
    exact wT (N27 () H)
  .unfold M03 at H
   refine wP ?_
   refine wf (ltF p1.length) ?_
   obtain rfl:=sI H
   exact wP (wE [(2,.d)])
def Z0B:L :=
sR [.bx 1 0,.al 2 [.nl],.mv 3 (cB false)]
 (.seq (sR [lT 4 1 3,cQ 5 U3 [4],.un 6 5]
 (.cond 6 (sR [.bd 7 [.nl] [],.st 2 7 1,.mv 3 (cB false)]
 gR)
 .skip))
 (sR [lT 8 1 3,.bd 9 [.int .i64 0,.int .i64 0,.int .i64 0,.int .i64 0] [(1,3,8)],.bs 10 4 [9] true,.bd 11 [.nl] [(0,1,10)],.st 2 11 1,.mv 3 (cB true)]
 gR))
def XB(v1:Vec):Option ((List Pt)×Bool) :=
 bif (!(W0 v1))then(some ([],false))else(some ([(Pt.mk 0 v1)],true))
theorem J0j{v1:Vec}{r:(List Pt)×Bool}(H:XB v1=some r):Snd Tryz.prog QC [eVec v1] (.tup [V2 .nw r.1,.bool r.2]) []:=by
 refine wS Z0B [.c 2 1 true,.t 3] ?_
 unfold XB at H
 refine wG [.c 5 (Q3 v1)] fun _=>?_
 refine O0 H (fun H=>?_) fun H=>?_
 .refine wP ?_
  replace H:=sI H;subst H
  exact wN [(2,.d),(3,.d)] [(2,[.n 4])] [] [] [] [⟨_,Ji ([]:List Pt)⟩]
 .refine wP ?_
  replace H:=sI H;subst H
  exact wN [(2,.d),(3,.d)] [(2,[.f])] [] [10] [] [⟨_,Ji [(Pt.mk 0 v1)]⟩]
def V5(v1:Vec):(List Pt)×Bool :=
 bif (!(W0 v1))then(([],false))else(([(Pt.mk 0 v1)],true))
theorem X0F(v1:Vec):XB v1=some (V5 v1):=by
 unfold XB V5
 first|rfl|simp only[J5]
theorem J03(v1:Vec):Snd Tryz.prog QC [eVec v1] (.tup [V2 .nw ((V5 v1).1),.bool ((V5 v1).2)]) []:=J0j (X0F v1)
def J0Q:L :=
sR [.bx 2 0,.al 4 [.int .i64 0,.int .i64 0,.int .i64 0]]
 (sR [.bd 8 [.int .i64 0,.int .i64 0,.int .i64 0] [],.al 5 [.int .i64 0,.int .i64 0,.int .i64 0],.st 5 8 3]
 (.seq (sR [fA 9 2 0,lF 10 9 1,.ln 11 10,.mv 12 (kI 0)]
 (.blk 0 (.loop (.gw (sR [bI 13 .lss 12 11]
 (.seq (.cond 13 .skip
 (.exit 0))
 (.seq (.blk 1 (sR [iA 14 10 12 4,lT 15 14 4,.al 7 [.int .i64 0,.int .i64 0,.int .i64 0,.int .i64 0],.st 7 15 4]
 (sR [fA 16 7 0,lF 17 16 1,mV 18 1,bI 19 .leq 17 18]
 (.cond 19 (.reg [fA 20 7 1,lT 21 20 3,.st 5 21 3])
 .skip))))
 (.reg [.bi 22 .add 12 (kI 1),mV 12 22]))))))))
 (sR [lT 23 5 3,.st 4 23 3]
 gR)))
def OQ(t2:Int)(x4:Pt)(_:Nat)(v4:Vec)(k4:Vec->Option Vec):Option Vec :=
 bif (decide (x4.t<=t2))then(k4 x4.free)else(k4 v4)
def V0a(v4:Vec):Option Vec :=
 some v4
def QJ(p1:List Pt)(t2:Int):Option Vec :=
 rgl (OQ t2) V0a p1 0 (Vec.mk 0 0 0)
theorem W0e{p1:List Pt}{t2:Int}{r:Vec}(H:QJ p1 t2=some r):Snd Tryz.prog Y07 [.agg [rV 4 (p1.map ePt)],iV t2] (eVec r) []:=by
 refine wS J0Q [.c 4 3 true] ?_
 unfold QJ at H
 refine wG [.u 11 (.ln _ _ fun _=>lm p1 ePt)] fun q3=>?_
 refine wR (fun(i4:Nat) (v4:Vec)=>⟨[(1,iV t2),(4,.ptr 4 0),(5,.ptr 5 0),(10,rV 4 (p1.map ePt)),(11,iV (p1.length:Int)),(12,iV (i4:Int))],[],[(4,(eVec (Vec.mk 0 0 0)).cells),(5,(eVec v4).cells)],[]⟩) H (fun i4 x4 v4 I m k4 hxv4 hiv4 H N19=>?_) (fun v4 I m H=>?_)
 .unfold OQ at H
  refine wP ?_
  refine wt (ltT hiv4) ?_
  refine wG [.u 14 (.ix _ _ _ fun _=>Q0 ePt (J0 hxv4))] fun _=>?_
  refine O0 H (fun H=>?_) fun H=>?_
  .refine wG [.w 22 (wi .i64 rfl hiv4 q3.1)] fun _=>?_
   exact wT (N19 _ H)
  .refine wG [.w 22 (wi .i64 rfl hiv4 q3.1)] fun _=>?_
   exact wT (N19 _ H)
 .unfold V0a at H
  refine wP ?_
  refine wf (ltF p1.length) ?_
  refine wP ?_
  replace H:=sI H;subst H
  exact wN [(4,.d)] [(4,[])] [] [] [] []
def Y0B:L :=
sR [.bx 3 0,.al 6 [.int .i64 0,.int .i64 0,.int .i64 0],.mv 7 (cB false)]
 (.seq (sR [lT 11 3 1,cQ 12 Jw [11],.un 13 12,mV 14 13,gF 14 (mV 15 1),gF 14 (cQ 16 M3 [15]),gF 14 (.un 17 16),.pk 18 14 (cB true) 17,mV 19 18,gF 19 (mV 20 2),gF 19 (cQ 21 M3 [20]),gF 19 (.un 22 21),.pk 23 19 (cB true) 22,mV 24 23,gF 24 (mV 25 1),gF 24 (mV 26 2),gF 24 (bI 27 .geq 25 26),.pk 28 24 (cB true) 27]
 (.cond 28 (sR [.bd 29 [.int .i64 0,.int .i64 0,.int .i64 0] [],.st 6 29 3,.mv 7 (cB false)]
 gR)
 .skip))
 (sR [lT 30 3 1,mV 31 1,cQ 32 Y07 [30,31],.al 8 [.int .i64 0,.int .i64 0,.int .i64 0],.st 8 32 3]
 (.seq (sR [fA 33 3 0,lF 34 33 1,.ln 35 34,.mv 36 (kI 0)]
 (.blk 0 (.loop (.gw (sR [bI 37 .lss 36 35]
 (.seq (.cond 37 .skip
 (.exit 0))
 (.seq (.blk 1 (sR [iA 38 34 36 4,lT 39 38 4,.al 10 [.int .i64 0,.int .i64 0,.int .i64 0,.int .i64 0],.st 10 39 4]
 (sR [fA 40 10 0,lF 41 40 1,mV 42 1,bI 43 .geq 41 42,mV 44 43,gT 44 (fA 45 10 0),gT 44 (lF 46 45 1),gT 44 (mV 47 2),gT 44 (bI 48 .lss 46 47),.pk 49 44 48 (cB false)]
 (.cond 49 (.reg [lT 50 8 3,fA 51 10 1,lT 52 51 3,cQ 53 JX [50,52],.st 8 53 3])
 .skip))))
 (.reg [.bi 54 .add 36 (kI 1),mV 36 54]))))))))
 (sR [lT 55 8 3,.st 6 55 3,.mv 7 (cB true)]
 gR))))
def YF(from2 to3:Int)(x7:Pt)(_:Nat)(v7:Vec)(k7:Vec->Option (Vec×Bool)):Option (Vec×Bool) :=
 bif ((decide (from2<=x7.t))&&(decide (x7.t<to3)))then(k7 (Vy v7 x7.free))else(k7 v7)
def X00(v7:Vec):Option (Vec×Bool) :=
 some (v7,true)
def Yk(p1:List Pt)(from2 to3:Int):Option (Vec×Bool) :=
 (X9 p1).bind fun b4=>bif ((((!b4)||(!(Q1 from2)))||(!(Q1 to3)))||(decide (to3<=from2)))then(some ((Vec.mk 0 0 0),false))else((QJ p1 from2).bind fun y5=>rgl (YF from2 to3) X00 p1 0 y5)
theorem JK{p1:List Pt}{from2 to3:Int}{r:Vec×Bool}(H:Yk p1 from2 to3=some r):Snd Tryz.prog WC [.agg [rV 4 (p1.map ePt)],iV from2,iV to3] (.tup [eVec r.1,.bool r.2]) []:=by
 refine wS Y0B [.c 6 3 true,.t 7] ?_
 unfold Yk at H
 obtain⟨b4,h4,H⟩:=bB H
 refine wG [.c 12 (YB h4),.g 16 [((!b4),false)] (.call _ _ _ _ _ (AEs.refl _) (fun _=>U4 from2)),.g 21 [(((!b4)||(!(Q1 from2))),false)] (.call _ _ _ _ _ (AEs.refl _) (fun _=>U4 to3))] fun _=>?_
 refine O0 H (fun H=>?_) fun H=>?_
 .refine wP ?_
  replace H:=sI H;subst H
  exact wN [(6,.d),(7,.d)] [(6,[])] [] [] [] []
 .obtain⟨y5,h5,H⟩:=bB H
  refine wG [.c 32 (W0e h5),.u 35 (.ln _ _ fun _=>lm p1 ePt)] fun q6=>?_
  refine wR (fun(i7:Nat) (v7:Vec)=>⟨[(1,iV from2),(2,iV to3),(6,.ptr 6 0),(8,.ptr 8 0),(34,rV 4 (p1.map ePt)),(35,iV (p1.length:Int)),(36,iV (i7:Int))],[],[(6,(eVec (Vec.mk 0 0 0)).cells),(8,(eVec v7).cells)],[]⟩) H (fun i7 x7 v7 I m k7 hxv7 hiv7 H N26=>?_) (fun v7 I m H=>?_)
  .unfold YF at H
   refine wP ?_
   refine wt (ltT hiv7) ?_
   refine wG [.u 38 (.ix _ _ _ fun _=>Q0 ePt (J0 hxv7))] fun _=>?_
   refine O0 H (fun H=>?_) fun H=>?_
   .refine wG [.c 53 (J0E v7 x7.free),.w 54 (wi .i64 rfl hiv7 q6.1)] fun _=>?_
    exact wT (N26 _ H)
   .refine wG [.w 54 (wi .i64 rfl hiv7 q6.1)] fun _=>?_
    exact wT (N26 _ H)
  .unfold X00 at H
   refine wP ?_
   refine wf (ltF p1.length) ?_
   refine wP ?_
   replace H:=sI H;subst H
   exact wN [(6,.d),(7,.d)] [(6,[])] [] [] [] []
def X0s:L :=
sR [.bx 3 0,.mv 6 (.c (.nl))]
 (sR [.bs 16 1 [] true,mV 7 16]
 (.seq (sR [fA 17 3 0,lF 18 17 1,.ln 19 18,.mv 20 (kI 0)]
 (.blk 0 (.loop (.gw (sR [bI 21 .lss 20 19]
 (.seq (.cond 21 .skip
 (.exit 0))
 (.seq (.blk 1 (sR [iA 22 18 20 4,lT 23 22 4,.al 9 [.int .i64 0,.int .i64 0,.int .i64 0,.int .i64 0],.st 9 23 4]
 (.reg [mV 24 7,fA 25 9 0,lF 26 25 1,.bs 27 1 [26] false,.ap 28 24 27 1 8,mV 7 28])))
 (.reg [.bi 29 .add 20 (kI 1),mV 20 29]))))))))
 (.seq (sR [mV 30 1,mV 31 2,.bs 32 1 [30,31] false,.ln 33 32,.mv 34 (kI 0)]
 (.blk 2 (.loop (.gw (sR [bI 35 .lss 34 33]
 (.seq (.cond 35 .skip
 (.exit 2))
 (.seq (.blk 3 (sR [iA 36 32 34 1,lF 37 36 1,mV 11 37]
 (sR [.bs 38 1 [] true,mV 12 38]
 (.seq (rE 13 (cB false))
 (.seq (sR [mV 39 7,.ln 40 39,.mv 41 (kI 0)]
 (.blk 4 (.loop (.gw (sR [bI 42 .lss 41 40]
 (.seq (.cond 42 .skip
 (.exit 4))
 (.seq (.blk 5 (sR [iA 43 39 41 1,lF 44 43 1,mV 15 44]
 (.seq (sR [mV 45 13,.un 46 45,mV 47 46,gT 47 (mV 48 11),gT 47 (mV 49 15),gT 47 (bI 50 .leq 48 49),.pk 51 47 50 (cB false)]
 (.cond 51 (sR [mV 52 12,mV 53 11,.bs 54 1 [53] false,.ap 55 52 54 1 8,mV 12 55]
 (rE 13 (cB true)))
 .skip))
 (.gw (sR [mV 56 15,mV 57 11,bI 58 .neq 56 57]
 (.cond 58 (.reg [mV 59 12,mV 60 15,.bs 61 1 [60] false,.ap 62 59 61 1 8,mV 12 62])
 .skip))))))
 (.reg [.bi 63 .add 41 (kI 1),mV 41 63]))))))))
 (.seq (sR [mV 64 13,.un 65 64]
 (.cond 65 (.reg [mV 66 12,mV 67 11,.bs 68 1 [67] false,.ap 69 66 68 1 8,mV 12 69])
 .skip))
 (.reg [mV 70 12,mV 7 70])))))))
 (.reg [.bi 71 .add 34 (kI 1),mV 34 71]))))))))
 (sR [mV 72 7,mV 6 72]
 gR))))
def Oe(x8 x10:Int)(k10:(Bool×(List Int))->Option (List Int))(v12:Bool×(List Int)):Option (List Int) :=
 bif (x10 != x8)then((appL 8 v12.2 [x10]).bind fun xs13=>k10 (v12.1,xs13))else(k10 (v12.1,v12.2))
def Vm(x8 x10:Int)(_:Nat)(v10:Bool×(List Int))(k10:(Bool×(List Int))->Option (List Int)):Option (List Int) :=
 bif ((!v10.1)&&(decide (x8<=x10)))then((appL 8 v10.2 [x8]).bind fun xs11=>(Oe x8 x10 k10) (true,xs11))else((Oe x8 x10 k10) (v10.1,v10.2))
def Ym(x8:Int)(k8:(List Int)->Option (List Int))(v10:Bool×(List Int)):Option (List Int) :=
 bif (!v10.1)then((appL 8 v10.2 [x8]).bind fun xs14=>k8 xs14)else(k8 v10.2)
def Xm(x8:Int)(_:Nat)(v8:(List Int))(k8:(List Int)->Option (List Int)):Option (List Int) :=
 rgl (Vm x8) (Ym x8 k8) v8 0 (false,[])
def WT(v8:(List Int)):Option (List Int) :=
 some v8
def Zy(x5:Pt)(_:Nat)(v5:(List Int))(k5:(List Int)->Option (List Int)):Option (List Int) :=
 (appL 8 v5 [x5.t]).bind fun xs6=>k5 xs6
def Jx(from2 to3:Int)(v5:(List Int)):Option (List Int) :=
 rgl Xm WT [from2,to3] 0 v5
def Jt(p1:List Pt)(from2 to3:Int):Option (List Int) :=
 rgl Zy (Jx from2 to3) p1 0 []
theorem W0p{p1:List Pt}{from2 to3:Int}{r:(List Int)}(H:Jt p1 from2 to3=some r):Snd Tryz.prog Z07 [.agg [rV 4 (p1.map ePt)],iV from2,iV to3] (nV 1 (r.map eI)) []:=by
 refine wS X0s [.t 6] ?_
 unfold Jt at H
 refine wG [.u 19 (.ln _ _ fun _=>lm p1 ePt)] fun q4=>?_
 refine wR (fun(i5:Nat) (v5:(List Int))=>⟨[(1,iV from2),(2,iV to3),(7,.sref 16),(18,rV 4 (p1.map ePt)),(19,iV (p1.length:Int)),(20,iV (i5:Int))],[],[],[(16,⟨1,v5.map eI,false⟩)]⟩) H (fun i5 x5 v5 I m k5 hxv5 hiv5 H N15=>?_) (fun v5 I m H=>?_)
 .unfold Zy at H
  refine wP ?_
  refine wt (ltT hiv5) ?_
  obtain⟨xs6,h6,H⟩:=bB H
  refine wG [.u 22 (.ix _ _ _ fun _=>Q0 ePt (J0 hxv5)),.u 28 (.ap _ _ _ _ fun _=>L0 eI h6),.w 29 (wi .i64 rfl hiv5 q4.1)] fun _=>?_
  exact wT (N15 _ H)
 .unfold Jx at H
  refine wP ?_
  refine wf (ltF p1.length) ?_
  refine wG [.u 33 (.ln _ _ fun _=>lm ([from2,to3]:List Int) eI)] fun q7=>?_
  refine wR (fun(i8:Nat) (v8:(List Int))=>⟨[(7,.sref 16),(32,nV 1 (([from2,to3]).map eI)),(33,iV (([from2,to3]:List Int).length:Int)),(34,iV (i8:Int))],[],[],[(16,⟨1,v8.map eI,false⟩)]⟩) H (fun i8 x8 v8 I m k8 hxv8 hiv8 H N70=>?_) (fun v8 I m H=>?_)
  .unfold Xm at H
   refine wP ?_
   refine wt (ltT hiv8) ?_
   refine wG [.u 36 (.ix _ _ _ fun _=>Q0 eI (J0 hxv8)),.u 40 (.ln _ _ fun _=>lm v8 eI)] fun q9=>?_
   refine wR (fun(i10:Nat) (v10:Bool×(List Int))=>⟨[(11,iV x8),(12,.sref 38),(13,.bool v10.1),(32,nV 1 (([from2,to3]).map eI)),(33,iV (([from2,to3]:List Int).length:Int)),(34,iV (i8:Int)),(39,.sref 16),(40,iV (v8.length:Int)),(41,iV (i10:Int))],[],[],[(38,⟨1,v10.2.map eI,false⟩),(16,⟨1,v8.map eI,false⟩)]⟩) H (fun i10 x10 v10 I m k10 hxv10 hiv10 H N51=>?_) (fun v10 I m H=>?_)
   .unfold Vm at H
    refine wP ?_
    refine wt (ltT hiv10) ?_
    refine wG [.u 43 (.ix _ _ _ fun _=>Q0 eI (J0 hxv10)),.u 44 (.el _ _ _ fun _=>gm eI (Y5 (J0 hxv10)))] fun _=>?_
    refine Z6 (r:=r) (Oe x8 x10 k10) 0 (fun v12:Bool×(List Int)=>⟨[(11,.int .i64 x8),(12,.sref 38),(13,.bool v12.1),(15,.int .i64 x10),(32,.sl .nw 1 (([from2,to3]).map eI)),(33,.int .i64 (([from2,to3]:List Int).length:Int)),(34,.int .i64 (i8:Int)),(39,.sref 16),(40,.int .i64 (v8.length:Int)),(41,.int .i64 (i10:Int))],[],[],[(38,⟨1,v12.2.map eI,false⟩),(16,⟨1,v8.map eI,false⟩)]⟩) (by kernel_rfl) (fun v12 H=>?_) (fun J43=>?_)
    .unfold Oe at H
     refine wP ?_
     refine O0 H (fun H=>?_) fun H=>?_
     .obtain⟨xs13,h13,H⟩:=bB H
      refine wG [.u 62 (.ap _ _ _ _ fun _=>L0 eI h13),.w 63 (wi .i64 rfl hiv10 q9.1)] fun _=>?_
      exact wT (N51 _ H)
     .refine wG [.w 63 (wi .i64 rfl hiv10 q9.1)] fun _=>?_
      exact wT (N51 _ H)
    .refine O0 H (fun H=>?_) fun H=>?_
     .obtain⟨xs11,h11,H⟩:=bB H
      refine wG [.u 55 (.ap _ _ _ _ fun _=>L0 eI h11)] fun _=>?_
      exact wT (J43 _ H)
     .refine wP ?_
      exact wT (J43 _ H)
   .unfold Ym at H
    refine wP ?_
    refine wf (ltF v8.length) ?_
    refine wP ?_
    refine O0 H (fun H=>?_) fun H=>?_
    .obtain⟨xs14,h14,H⟩:=bB H
     refine wG [.u 69 (.ap _ _ _ _ fun _=>L0 eI h14),.w 71 (wi .i64 rfl hiv8 q7.1)] fun _=>?_
     exact Z0e (N70 _ H) [] [] [(16,(some 38,0))] [] (by kernel_rfl) (by kernel_rfl)
    .refine wG [.w 71 (wi .i64 rfl hiv8 q7.1)] fun _=>?_
     exact Z0e (N70 _ H) [] [] [(16,(some 38,0))] [] (by kernel_rfl) (by kernel_rfl)
  .unfold WT at H
   refine wP ?_
   refine wf (ltF [from2,to3].length) ?_
   refine wP ?_
   replace H:=sI H;subst H
   exact wN [(6,.f)] [] [] [16] [] [⟨_,nw_I v8⟩]
def Z0l:L :=
sR [.bx 5 0,.bx 8 3,.al 10 [.nl],.mv 11 (cB false)]
 (sR [.bd 18 [.nl] [],.al 12 [.nl],.st 12 18 1]
 (.seq (sR [lT 19 5 1,mV 20 1,mV 21 2,cQ 22 Z07 [19,20,21],.ln 23 22,.mv 24 (kI 0)]
 (.blk 0 (.loop (.gw (sR [bI 25 .lss 24 23]
 (.seq (.cond 25 .skip
 (.exit 0))
 (.seq (.blk 1 (sR [iA 26 22 24 1,lF 27 26 1,mV 14 27]
 (sR [lT 28 5 1,mV 29 14,cQ 30 Y07 [28,29],.al 15 [.int .i64 0,.int .i64 0,.int .i64 0],.st 15 30 3]
 (.seq (sR [mV 31 14,mV 32 1,bI 33 .geq 31 32,mV 34 33,gT 34 (mV 35 14),gT 34 (mV 36 2),gT 34 (bI 37 .lss 35 36),.pk 38 34 37 (cB false)]
 (.cond 38 (.seq (rE 16 (cB false))
 (.seq (sR [mV 39 4]
 (.cond 39 (.reg [lT 41 15 3,lT 42 8 3,cQ 43 ZY [41,42],mV 40 43,eX 44 40 0,eX 45 40 1,.st 15 44 3,mV 16 45])
 (.reg [lT 47 15 3,lT 48 8 3,cQ 49 LX [47,48],mV 46 49,eX 50 46 0,eX 51 46 1,.st 15 50 3,mV 16 51])))
 (.gw (sR [mV 52 16,.un 53 52]
 (.cond 53 (sR [.bd 54 [.nl] [],.st 10 54 1,.mv 11 (cB false)]
 gR)
 .skip)))))
 .skip))
 (.gw (sR [fA 55 12 0,lF 56 55 1,.ln 57 56,mV 17 57]
 (.seq (.rq 13 [mV 58 17,.bi 59 .eql 58 (kI 0),mV 60 59,gF 60 (fA 61 12 0),gF 60 (lF 62 61 1),gF 60 (mV 63 17),gF 60 (.bi 64 .sub 63 (kI 1)),gF 60 (iA 65 62 64 4),gF 60 (fA 66 65 1),gF 60 (lT 67 66 3),gF 60 (lT 68 15 3),gF 60 (.es 69 true [0,0,0] 67 68),.pk 70 60 (cB true) 69])
 (.cond 70 (.reg [fA 71 12 0,lF 72 71 1,mV 73 14,lT 74 15 3,.bd 75 [.int .i64 0,.int .i64 0,.int .i64 0,.int .i64 0] [(0,1,73),(1,3,74)],.bs 76 4 [75] false,.ap 77 72 76 4 32,fA 78 12 0,.st 78 77 1])
 .skip))))))))
 (.reg [.bi 79 .add 24 (kI 1),mV 24 79]))))))))
 (.seq (sR [lT 80 12 1,cQ 81 Jw [80],.un 82 81]
 (.cond 82 (sR [.bd 83 [.nl] [],.st 10 83 1,.mv 11 (cB false)]
 gR)
 .skip))
 (sR [lT 84 12 1,.st 10 84 1,.mv 11 (cB true)]
 gR))))
def Q8(v8:(List Pt))(x8:Int)(k8:(List Pt)->Option ((List Pt)×Bool))(v11:Vec):Option ((List Pt)×Bool) :=
 (bif ((v8.length:Int)==0)then some default else(idx v8 (w64 ((v8.length:Int)-1)))).bind fun e12=>bif (((v8.length:Int)==0)||(!(e12.free.a==v11.a&&(e12.free.b==v11.b&&(e12.free.c==v11.c&&true)))))then((appL 32 v8 [(Pt.mk x8 v11)]).bind fun xs14=>k8 xs14)else(k8 v8)
def Vd(v8:(List Pt))(x8:Int)(k8:(List Pt)->Option ((List Pt)×Bool))(v10:Vec×Bool):Option ((List Pt)×Bool) :=
 bif (!v10.2)then(some ([],false))else((Q8 v8 x8 k8) v10.1)
def Zj(p1:List Pt)(from2 to3:Int)(v4:Vec)(add5:Bool)(x8:Int)(_:Nat)(v8:(List Pt))(k8:(List Pt)->Option ((List Pt)×Bool)):Option ((List Pt)×Bool) :=
 (QJ p1 x8).bind fun y9=>bif ((decide (from2<=x8))&&(decide (x8<to3)))then(bif add5 then((Vd v8 x8 k8) (((Uy y9 v4).1),(Uy y9 v4).2))else((Vd v8 x8 k8) (((X3 y9 v4).1),(X3 y9 v4).2)))else((Q8 v8 x8 k8) y9)
def U8(v8:(List Pt)):Option ((List Pt)×Bool) :=
 (X9 v8).bind fun b15=>bif (!b15)then(some ([],false))else(some (v8,true))
def Vo(p1:List Pt)(from2 to3:Int)(v4:Vec)(add5:Bool):Option ((List Pt)×Bool) :=
 (Jt p1 from2 to3).bind fun y6=>rgl (Zj p1 from2 to3 v4 add5) U8 y6 0 []
theorem Q0j{p1:List Pt}{from2 to3:Int}{v4:Vec}{add5:Bool}{r:(List Pt)×Bool}(H:Vo p1 from2 to3 v4 add5=some r):Snd Tryz.prog O01 [.agg [rV 4 (p1.map ePt)],iV from2,iV to3,eVec v4,.bool add5] (.tup [V2 .nw r.1,.bool r.2]) []:=by
 refine wS Z0l [.c 10 1 true,.t 11] ?_
 unfold Vo at H
 obtain⟨y6,h6,H⟩:=bB H
 refine wG [.c 22 (W0p h6),.u 23 (.ln _ _ fun _=>lm y6 eI)] fun q7=>?_
 refine L0b (fun(i8:Nat) (v8:(List Pt))=>⟨[(1,.int .i64 from2),(2,.int .i64 to3),(4,.bool add5),(5,.ptr 5 0),(8,.ptr 8 0),(10,.ptr 10 0),(12,.ptr 12 0),(22,.sl .nw 1 (y6.map eI)),(23,.int .i64 (y6.length:Int)),(24,.int .i64 (i8:Int))],[],[(5,[.sl .rd 4 (p1.map ePt)]),(8,(eVec v4).cells),(10,[.nl]),(12,[.sref 147000])],[(147000,⟨4,v8.map ePt,false⟩)]⟩) [] [(12,[.z 147000])] [(147000,(none,4))] [] (by kernel_rfl) (by kernel_rfl) H (fun i8 x8 v8 I m k8 hxv8 hiv8 H N43=>?_) (fun v8 I m H=>?_)
 .unfold Zj at H
  refine wP ?_
  refine wt (ltT hiv8) ?_
  obtain⟨y9,h9,H⟩:=bB H
  refine wG [.u 26 (.ix _ _ _ fun _=>Q0 eI (J0 hxv8)),.c 30 (W0e h9)] fun _=>?_
  refine Z6 (r:=r) (Q8 v8 x8 k8) 0 (fun v11:Vec=>⟨[(1,.int .i64 from2),(2,.int .i64 to3),(4,.bool add5),(5,.ptr 5 0),(8,.ptr 8 0),(10,.ptr 10 0),(12,.ptr 12 0),(14,.int .i64 x8),(15,.ptr 15 0),(22,.sl .nw 1 (y6.map eI)),(23,.int .i64 (y6.length:Int)),(24,.int .i64 (i8:Int))],[],[(5,[.sl .rd 4 (p1.map ePt)]),(8,(eVec v4).cells),(10,[.nl]),(12,[.sref 147000]),(15,(eVec v11).cells)],[(147000,⟨4,v8.map ePt,false⟩)]⟩) (by kernel_rfl) (fun v11 H=>?_) (fun J34=>?_)
  .unfold Q8 at H
   obtain⟨e12,h12,H⟩:=bB H
   refine wG [.u 57 (.ln _ _ fun _=>lm v8 ePt),.g 65 [(_,false)] (.ix _ _ _ fun q=>Q0 ePt (bF q.1 h12)),.g 67 [(_,false)] (.el _ _ _ fun q=>gm ePt (Y5 (bF q.1 h12)))] fun q13=>?_
   refine O0 H (fun H=>?_) fun H=>?_
   .obtain⟨xs14,h14,H⟩:=bB H
    refine wG [.u 77 (.ap _ _ _ _ fun _=>L0 ePt h14),.w 79 (wi .i64 rfl hiv8 q7.1)] fun _=>?_
    exact wT (N43 _ H)
   .refine wG [.w 79 (wi .i64 rfl hiv8 q7.1)] fun _=>?_
    exact wT (N43 _ H)
  .refine O0 H (fun H=>?_) fun H=>?_
   .refine wP ?_
    refine Z6 (r:=r) (Vd v8 x8 k8) 0 (fun v10:Vec×Bool=>⟨[(1,.int .i64 from2),(2,.int .i64 to3),(4,.bool add5),(5,.ptr 5 0),(8,.ptr 8 0),(10,.ptr 10 0),(12,.ptr 12 0),(14,.int .i64 x8),(15,.ptr 15 0),(16,.bool v10.2),(22,.sl .nw 1 (y6.map eI)),(23,.int .i64 (y6.length:Int)),(24,.int .i64 (i8:Int))],[],[(5,[.sl .rd 4 (p1.map ePt)]),(8,(eVec v4).cells),(10,[.nl]),(12,[.sref 147000]),(15,(eVec v10.1).cells)],[(147000,⟨4,v8.map ePt,false⟩)]⟩) (by kernel_rfl) (fun v10 H=>?_) (fun J22=>?_)
    .unfold Vd at H
     refine wP ?_
     refine O0 H (fun H=>?_) fun H=>?_
     .refine wP ?_
      replace H:=sI H;subst H
      exact wN [(10,.d),(11,.d)] [(10,[.n 4])] [] [] [] [⟨_,Ji ([]:List Pt)⟩]
     .refine wP ?_
      exact wT (J34 _ H)
    .refine O0 H (fun H=>?_) fun H=>?_
     .refine wG [.c 43 (Y0F y9 v4)] fun _=>?_
      exact wT (J22 _ H)
     .refine wG [.c 49 (L0E y9 v4)] fun _=>?_
      exact wT (J22 _ H)
   .refine wP ?_
    exact wT (J34 _ H)
 .unfold U8 at H
  refine wP ?_
  refine wf (ltF y6.length) ?_
  obtain⟨b15,h15,H⟩:=bB H
  refine wG [.c 81 (YB h15)] fun _=>?_
  refine O0 H (fun H=>?_) fun H=>?_
  .refine wP ?_
   replace H:=sI H;subst H
   exact wN [(10,.d),(11,.d)] [(10,[.n 4])] [] [] [] [⟨_,Ji ([]:List Pt)⟩]
  .refine wP ?_
   replace H:=sI H;subst H
   exact wN [(10,.d),(11,.d)] [(10,[.f])] [] [147000] [] [⟨_,Ji v8⟩]
def J0s:L :=
sR [.bx 4 0,.bx 7 3,.al 8 [.nl],.mv 9 (cB false)]
 (sR [lT 13 4 1,mV 14 1,mV 15 2,cQ 16 WC [13,14,15],mV 12 16,eX 17 12 0,eX 18 12 1,.al 10 [.int .i64 0,.int .i64 0,.int .i64 0],.st 10 17 3,mV 11 18]
 (.seq (sR [mV 19 11,.un 20 19]
 (.cond 20 (sR [.bd 21 [.nl] [],.st 8 21 1,.mv 9 (cB false)]
 gR)
 .skip))
 (sR [lT 22 4 1,mV 23 1,mV 24 2,lT 25 7 3,.cq 26 O01 [22,23,24,25,(cB false)],eX 27 26 0,eX 28 26 1,.st 8 27 1,mV 9 28]
 gR)))
def O9(p1:List Pt)(from2 to3:Int)(v4:Vec):Option ((List Pt)×Bool) :=
 (Yk p1 from2 to3).bind fun y5=>bif (!y5.2)then(some ([],false))else((Vo p1 from2 to3 v4 false).bind fun y6=>some (y6.1,y6.2))
theorem Y00{p1:List Pt}{from2 to3:Int}{v4:Vec}{r:(List Pt)×Bool}(H:O9 p1 from2 to3 v4=some r):Snd Tryz.prog QN [.agg [rV 4 (p1.map ePt)],iV from2,iV to3,eVec v4] (.tup [V2 .nw r.1,.bool r.2]) []:=by
 refine wS J0s [.c 8 1 true,.t 9] ?_
 unfold O9 at H
 obtain⟨y5,h5,H⟩:=bB H
 refine wG [.c 16 (JK h5)] fun _=>?_
 refine O0 H (fun H=>?_) fun H=>?_
 .refine wP ?_
  replace H:=sI H;subst H
  exact wN [(8,.d),(9,.d)] [(8,[.n 4])] [] [] [] [⟨_,Ji ([]:List Pt)⟩]
 .obtain⟨y6,h6,H⟩:=bB H
  refine wG [.c 26 (Q0j h6)] fun _=>?_
  replace H:=sI H;subst H
  exact wN [(8,.d),(9,.d)] [(8,[])] [] [] [] [⟨_,Ji y6.1⟩]
def U0t:L :=
sR [.bx 1 0,.al 2 [.nl]]
 (sR [fA 3 1 0,lF 4 3 1,.ap 5 (.c (.nl)) 4 4 32,.bd 6 [.nl] [(0,1,5)],.st 2 6 1]
 gR)
def Yn(p1:List Pt):Option (List Pt) :=
 (appL 32 ([]:List Pt) p1).bind fun xs2=>some xs2
theorem M00{p1:List Pt}{r:(List Pt)}(H:Yn p1=some r):Snd Tryz.prog MN [.agg [rV 4 (p1.map ePt)]] (V2 .nw r) []:=by
 refine wS U0t [.c 2 1 true] ?_
 unfold Yn at H
 obtain⟨xs2,h2,H⟩:=bB H
 refine wG [.u 5 (.ap _ _ _ _ fun _=>L0 ePt h2)] fun _=>?_
 replace H:=sI H;subst H
 exact wN [(2,.d)] [(2,[.f])] [] [5] [] [⟨_,Ji xs2⟩]
def O0I:L :=
sR [.bx 1 0,.mv 2 (cB false)]
 (.seq (sR [fA 5 1 0,lF 6 5 1,.ln 7 6,.cq 8 U1 [7,(kI 1),(kI 200)],.un 9 8,mV 10 9,gF 10 (fA 11 1 0),gF 10 (lF 12 11 1),gF 10 (.ia 13 12 (kI 0) 4),gF 10 (fA 14 13 0),gF 10 (lF 15 14 1),gF 10 (.bi 16 .neq 15 (kI 0)),.pk 17 10 (cB true) 16]
 (.cond 17 (.seq (rE 2 (cB false))
 gR)
 .skip))
 (.seq (sR [fA 18 1 0,lF 19 18 1,.ln 20 19,.mv 21 (kI 0)]
 (.blk 0 (.loop (.gw (sR [bI 22 .lss 21 20]
 (.seq (.cond 22 .skip
 (.exit 0))
 (.seq (.blk 1 (sR [mV 23 21,iA 24 19 21 4,lT 25 24 4,.al 4 [.int .i64 0,.int .i64 0,.int .i64 0,.int .i64 0],mV 3 23,.st 4 25 4]
 (.seq (.rq 38 [fA 26 4 0,lF 27 26 1,cQ 28 Ze [27],.un 29 28,mV 30 29,gF 30 (fA 31 4 1),gF 30 (lT 32 31 3),gF 30 (cQ 33 V6 [32]),gF 30 (.un 34 33),.pk 35 30 (cB true) 34,mV 36 35,gF 36 (mV 37 3),gF 36 (.bi 38 .gtr 37 (kI 0)),gF 36 (mV 39 38),gT 39 (fA 40 1 0),gT 39 (lF 41 40 1),gT 39 (mV 42 3),gT 39 (.bi 43 .sub 42 (kI 1)),gT 39 (iA 44 41 43 4),gT 39 (fA 45 44 0),gT 39 (lF 46 45 1),gT 39 (fA 47 4 0),gT 39 (lF 48 47 1),gT 39 (bI 49 .geq 46 48),gT 39 (mV 50 49),gF 50 (fA 51 1 0),gF 50 (lF 52 51 1),gF 50 (mV 53 3),gF 50 (.bi 54 .sub 53 (kI 1)),gF 50 (iA 55 52 54 4),gF 50 (fA 56 55 1),gF 50 (lT 57 56 3),gF 50 (fA 58 4 1),gF 50 (lT 59 58 3),gF 50 (.es 60 false [0,0,0] 57 59),gT 39 (.pk 61 50 (cB true) 60),gF 36 (.pk 62 39 61 (cB false)),.pk 63 36 (cB true) 62])
 (.cond 63 (.seq (rE 2 (cB false))
 gR)
 .skip))))
 (.reg [.bi 64 .add 21 (kI 1),mV 21 64]))))))))
 (.seq (rE 2 (cB true))
 gR)))
def O05(p1:List Pt)(x5:Pt)(i5:Nat)(_:Unit)(k5:Unit->Option Bool):Option Bool :=
 (bif ((!(Q2 x5.t))||(!(M1 x5.free)))then some default else(bif (decide (0<(i5:Int)))then(idx p1 (w64 ((i5:Int)-1)))else some default)).bind fun e6=>(bif ((!(Q2 x5.t))||(!(M1 x5.free)))then some default else(bif (decide (0<(i5:Int)))then(bif (decide (x5.t<=e6.t))then some default else(idx p1 (w64 ((i5:Int)-1))))else some default)).bind fun e7=>bif (((!(Q2 x5.t))||(!(M1 x5.free)))||((decide (0<(i5:Int)))&&((decide (x5.t<=e6.t))||(e7.free.a==x5.free.a&&(e7.free.b==x5.free.b&&(e7.free.c==x5.free.c&&true))))))then(some false)else(k5 ())
def W05(_:Unit):Option Bool :=
 some true
def Xr(p1:List Pt):Option Bool :=
 (bif (!(V0 (p1.length:Int) 1 200))then some default else(idx p1 0)).bind fun e2=>bif ((!(V0 (p1.length:Int) 1 200))||(e2.t != 0))then(some false)else(rgl (O05 p1) W05 p1 0 ())
theorem ZS{p1:List Pt}{r:Bool}(H:Xr p1=some r):Snd Tryz.prog XJ [.agg [rV 4 (p1.map ePt)]] (.bool r) []:=by
 refine wS O0I [.t 2] ?_
 unfold Xr at H
 obtain⟨e2,h2,H⟩:=bB H
 refine wG [.u 7 (.ln _ _ fun _=>lm p1 ePt),.u 8 (.call _ _ _ _ _ (AEs.refl _) (fun _=>Y1 (p1.length:Int) 1 200)),.g 13 [(_,false)] (.ix _ _ _ fun q=>Q0 ePt (bF q.1 h2))] fun q3=>?_
 refine O0 H (fun H=>?_) fun H=>?_
 .obtain rfl:=sI H
  exact wP (wE [(2,.d)])
 .refine wG [.u 20 (.ln _ _ fun _=>lm p1 ePt)] fun q4=>?_
  refine wR (fun(i5:Nat) (v5:Unit)=>⟨[(1,.ptr 1 0),(19,rV 4 (p1.map ePt)),(20,iV (p1.length:Int)),(21,iV (i5:Int))],[],[(1,[rV 4 (p1.map ePt)])],[]⟩) H (fun i5 x5 v5 I m k5 hxv5 hiv5 H N27=>?_) (fun v5 I m H=>?_)
  .unfold O05 at H
   refine wP ?_
   refine wt (ltT hiv5) ?_
   obtain⟨e6,h6,H⟩:=bB H
   obtain⟨e7,h7,H⟩:=bB H
   refine wG [.u 24 (.ix _ _ _ fun _=>Q0 ePt (J0 hxv5)),.c 28 (Oi x5.t),.g 33 [((!(Q2 x5.t)),false)] (.call _ _ _ _ _ (AEs.refl _) (fun _=>L6 x5.free)),.g 44 [(_,true),(_,false)] (.ix _ _ _ fun q=>Q0 ePt (bT q.1 (bF q.2.1 h6))),.g 55 [(_,false),(_,true),(_,false)] (.ix _ _ _ fun q=>Q0 ePt (bF q.1 (bT q.2.1 (bF q.2.2.1 h7))))] fun _=>?_
   refine O0 H (fun H=>?_) fun H=>?_
   .obtain rfl:=sI H
    exact wP (wE [(2,.d)])
   .refine wG [.w 64 (wi .i64 rfl hiv5 q3.1)] fun _=>?_
    exact wT (N27 () H)
  .unfold W05 at H
   refine wP ?_
   refine wf (ltF p1.length) ?_
   obtain rfl:=sI H
   exact wP (wE [(2,.d)])
def M0B:L :=
sR [.bx 1 0,.al 2 [.nl],.mv 3 (cB false)]
 (.seq (sR [lT 4 1 3,cQ 5 V6 [4],.un 6 5]
 (.cond 6 (sR [.bd 7 [.nl] [],.st 2 7 1,.mv 3 (cB false)]
 gR)
 .skip))
 (sR [lT 8 1 3,.bd 9 [.int .i64 0,.int .i64 0,.int .i64 0,.int .i64 0] [(1,3,8)],.bs 10 4 [9] true,.bd 11 [.nl] [(0,1,10)],.st 2 11 1,.mv 3 (cB true)]
 gR))
def LB(v1:Vec):Option ((List Pt)×Bool) :=
 bif (!(M1 v1))then(some ([],false))else(some ([(Pt.mk 0 v1)],true))
theorem V0m{v1:Vec}{r:(List Pt)×Bool}(H:LB v1=some r):Snd Tryz.prog OC [eVec v1] (.tup [V2 .nw r.1,.bool r.2]) []:=by
 refine wS M0B [.c 2 1 true,.t 3] ?_
 unfold LB at H
 refine wG [.c 5 (L6 v1)] fun _=>?_
 refine O0 H (fun H=>?_) fun H=>?_
 .refine wP ?_
  replace H:=sI H;subst H
  exact wN [(2,.d),(3,.d)] [(2,[.n 4])] [] [] [] [⟨_,Ji ([]:List Pt)⟩]
 .refine wP ?_
  replace H:=sI H;subst H
  exact wN [(2,.d),(3,.d)] [(2,[.f])] [] [10] [] [⟨_,Ji [(Pt.mk 0 v1)]⟩]
def Jg(v1:Vec):(List Pt)×Bool :=
 bif (!(M1 v1))then(([],false))else(([(Pt.mk 0 v1)],true))
theorem L0J(v1:Vec):LB v1=some (Jg v1):=by
 unfold LB Jg
 first|rfl|simp only[J5]
theorem M05(v1:Vec):Snd Tryz.prog OC [eVec v1] (.tup [V2 .nw ((Jg v1).1),.bool ((Jg v1).2)]) []:=V0m (L0J v1)
def W0l:L :=
sR [.bx 2 0,.al 4 [.int .i64 0,.int .i64 0,.int .i64 0]]
 (sR [.bd 8 [.int .i64 0,.int .i64 0,.int .i64 0] [],.al 5 [.int .i64 0,.int .i64 0,.int .i64 0],.st 5 8 3]
 (.seq (sR [fA 9 2 0,lF 10 9 1,.ln 11 10,.mv 12 (kI 0)]
 (.blk 0 (.loop (.gw (sR [bI 13 .lss 12 11]
 (.seq (.cond 13 .skip
 (.exit 0))
 (.seq (.blk 1 (sR [iA 14 10 12 4,lT 15 14 4,.al 7 [.int .i64 0,.int .i64 0,.int .i64 0,.int .i64 0],.st 7 15 4]
 (sR [fA 16 7 0,lF 17 16 1,mV 18 1,bI 19 .leq 17 18]
 (.cond 19 (.reg [fA 20 7 1,lT 21 20 3,.st 5 21 3])
 .skip))))
 (.reg [.bi 22 .add 12 (kI 1),mV 12 22]))))))))
 (sR [lT 23 5 3,.st 4 23 3]
 gR)))
def QP(t2:Int)(x4:Pt)(_:Nat)(v4:Vec)(k4:Vec->Option Vec):Option Vec :=
 bif (decide (x4.t<=t2))then(k4 x4.free)else(k4 v4)
def UP(v4:Vec):Option Vec :=
 some v4
def MB(p1:List Pt)(t2:Int):Option Vec :=
 rgl (QP t2) UP p1 0 (Vec.mk 0 0 0)
theorem Y0m{p1:List Pt}{t2:Int}{r:Vec}(H:MB p1 t2=some r):Snd Tryz.prog L01 [.agg [rV 4 (p1.map ePt)],iV t2] (eVec r) []:=by
 refine wS W0l [.c 4 3 true] ?_
 unfold MB at H
 refine wG [.u 11 (.ln _ _ fun _=>lm p1 ePt)] fun q3=>?_
 refine wR (fun(i4:Nat) (v4:Vec)=>⟨[(1,iV t2),(4,.ptr 4 0),(5,.ptr 5 0),(10,rV 4 (p1.map ePt)),(11,iV (p1.length:Int)),(12,iV (i4:Int))],[],[(4,(eVec (Vec.mk 0 0 0)).cells),(5,(eVec v4).cells)],[]⟩) H (fun i4 x4 v4 I m k4 hxv4 hiv4 H N19=>?_) (fun v4 I m H=>?_)
 .unfold QP at H
  refine wP ?_
  refine wt (ltT hiv4) ?_
  refine wG [.u 14 (.ix _ _ _ fun _=>Q0 ePt (J0 hxv4))] fun _=>?_
  refine O0 H (fun H=>?_) fun H=>?_
  .refine wG [.w 22 (wi .i64 rfl hiv4 q3.1)] fun _=>?_
   exact wT (N19 _ H)
  .refine wG [.w 22 (wi .i64 rfl hiv4 q3.1)] fun _=>?_
   exact wT (N19 _ H)
 .unfold UP at H
  refine wP ?_
  refine wf (ltF p1.length) ?_
  refine wP ?_
  replace H:=sI H;subst H
  exact wN [(4,.d)] [(4,[])] [] [] [] []
def J0H:L :=
.seq (rE 4 (cB false))
 (sR [mV 5 0,cQ 6 Ze [5],mV 7 6,gT 7 (mV 8 1),gT 7 (cQ 9 Ze [8]),.pk 10 7 9 (cB false),mV 11 10,gT 11 (mV 12 0),gT 11 (mV 13 1),gT 11 (bI 14 .lss 12 13),.pk 15 11 14 (cB false),mV 4 15]
 gR)
def VI(from1 to2:Int):Option Bool :=
 some (((Q2 from1)&&(Q2 to2))&&(decide (from1<to2)))
theorem J0t{from1 to2:Int}{r:Bool}(H:VI from1 to2=some r):Snd Tryz.prog WY [iV from1,iV to2] (.bool r) []:=by
 refine wS J0H [.t 4] ?_
 unfold VI at H
 refine wG [.c 6 (Oi from1),.g 9 [((Q2 from1),true)] (.call _ _ _ _ _ (AEs.refl _) (fun _=>Oi to2))] fun _=>?_
 replace H:=sI H;subst H
 exact wE [(4,.d)]
def Uz(from1 to2:Int):Bool :=
 (((Q2 from1)&&(Q2 to2))&&(decide (from1<to2)))
theorem M0S(from1 to2:Int):VI from1 to2=some (Uz from1 to2):=by
 unfold VI Uz
 first|rfl|simp only[J5]
theorem Z0J(from1 to2:Int):Snd Tryz.prog WY [iV from1,iV to2] (.bool (Uz from1 to2)) []:=J0t (M0S from1 to2)
def M0g:L :=
sR [.bx 2 0,.al 3 [.int .i64 0,.int .i64 0,.int .i64 0],.mv 4 (cB false)]
 (sR [lT 5 2 3,lT 6 1 3,cQ 7 MY [5,6],eX 8 7 0,eX 9 7 1,.st 3 8 3,mV 4 9]
 gR)
def Vn(x1 x2:Vec):Option (Vec×Bool) :=
 some (((Ve x1 x2).1),(Ve x1 x2).2)
theorem J09{x1 x2:Vec}{r:Vec×Bool}(H:Vn x1 x2=some r):Snd Tryz.prog Q7 [eVec x1,.ept (eVec x2) 0] (.tup [eVec r.1,.bool r.2]) []:=by
 refine wS M0g [.c 3 3 true,.t 4] ?_
 unfold Vn at H
 refine wG [.c 7 (V0J x1 x2)] fun _=>?_
 replace H:=sI H;subst H
 exact wN [(3,.d),(4,.d)] [(3,[])] [] [] [] []
def Qc(x1 x2:Vec):Vec×Bool :=
 (((Ve x1 x2).1),(Ve x1 x2).2)
theorem X0m(x1 x2:Vec):Vn x1 x2=some (Qc x1 x2):=by
 unfold Vn Qc
 first|rfl|simp only[J5]
theorem Z0h(x1 x2:Vec):Snd Tryz.prog Q7 [eVec x1,.ept (eVec x2) 0] (.tup [eVec ((Qc x1 x2).1),.bool ((Qc x1 x2).2)]) []:=J09 (X0m x1 x2)
def Lo:L :=
sR [.bx 4 0,.al 8 [.nl],.mv 9 (cB false)]
 (sR [mV 20 1,mV 21 2,.bs 22 1 [20,21] true,mV 10 22]
 (.seq (sR [fA 23 4 0,lF 24 23 1,.ln 25 24,.mv 26 (kI 0)]
 (.blk 0 (.loop (.gw (sR [bI 27 .lss 26 25]
 (.seq (.cond 27 .skip
 (.exit 0))
 (.seq (.blk 1 (sR [iA 28 24 26 4,lT 29 28 4,.al 12 [.int .i64 0,.int .i64 0,.int .i64 0,.int .i64 0],.st 12 29 4]
 (.reg [mV 30 10,fA 31 12 0,lF 32 31 1,.bs 33 1 [32] false,.ap 34 30 33 1 8,mV 10 34])))
 (.reg [.bi 35 .add 26 (kI 1),mV 26 35]))))))))
 (sR [mV 36 10,.cm 37 Ql [36]]
 (sR [.bd 38 [.nl] [],.al 13 [.nl],.st 13 38 1]
 (.seq (sR [mV 39 10,.cm 40 Ug [39],.ln 41 40,.mv 42 (kI 0)]
 (.blk 2 (.loop (.gw (sR [bI 43 .lss 42 41]
 (.seq (.cond 43 .skip
 (.exit 2))
 (.seq (.blk 3 (sR [iA 44 40 42 1,lF 45 44 1,mV 15 45]
 (sR [lT 46 4 1,mV 47 15,cQ 48 L01 [46,47],.al 16 [.int .i64 0,.int .i64 0,.int .i64 0],.st 16 48 3]
 (.seq (sR [mV 49 15,mV 50 1,bI 51 .geq 49 50,mV 52 51,gT 52 (mV 53 15),gT 52 (mV 54 2),gT 52 (bI 55 .lss 53 54),.pk 56 52 55 (cB false)]
 (.cond 56 (sR [mV 58 3,lT 59 16 3,.cc 60 58 [59],mV 57 60,eX 61 57 0,eX 62 57 1,.al 17 [.int .i64 0,.int .i64 0,.int .i64 0],.st 17 61 3,mV 18 62]
 (.seq (sR [mV 63 18,.un 64 63]
 (.cond 64 (sR [.bd 65 [.nl] [],.st 8 65 1,.mv 9 (cB false)]
 gR)
 .skip))
 (.reg [lT 66 17 3,.st 16 66 3])))
 .skip))
 (.gw (sR [fA 67 13 0,lF 68 67 1,.ln 69 68,mV 19 69]
 (.seq (.rq 13 [mV 70 19,.bi 71 .eql 70 (kI 0),mV 72 71,gF 72 (fA 73 13 0),gF 72 (lF 74 73 1),gF 72 (mV 75 19),gF 72 (.bi 76 .sub 75 (kI 1)),gF 72 (iA 77 74 76 4),gF 72 (fA 78 77 1),gF 72 (lT 79 78 3),gF 72 (lT 80 16 3),gF 72 (.es 81 true [0,0,0] 79 80),.pk 82 72 (cB true) 81])
 (.cond 82 (.reg [fA 83 13 0,lF 84 83 1,mV 85 15,lT 86 16 3,.bd 87 [.int .i64 0,.int .i64 0,.int .i64 0,.int .i64 0] [(0,1,85),(1,3,86)],.bs 88 4 [87] false,.ap 89 84 88 4 32,fA 90 13 0,.st 90 89 1])
 .skip))))))))
 (.reg [.bi 91 .add 42 (kI 1),mV 42 91]))))))))
 (.seq (sR [fA 92 13 0,lF 93 92 1,.ln 94 93,.bi 95 .gtr 94 (kI 200)]
 (.cond 95 (sR [.bd 96 [.nl] [],.st 8 96 1,.mv 9 (cB false)]
 gR)
 .skip))
 (sR [lT 97 13 1,.st 8 97 1,.mv 9 (cB true)]
 gR)))))))
def Z3(v10:(List Pt))(x10:Int)(k10:(List Pt)->Option ((List Pt)×Bool))(v12:Vec):Option ((List Pt)×Bool) :=
 (bif ((v10.length:Int)==0)then some default else(idx v10 (w64 ((v10.length:Int)-1)))).bind fun e13=>bif (((v10.length:Int)==0)||(!(e13.free.a==v12.a&&(e13.free.b==v12.b&&(e13.free.c==v12.c&&true)))))then((appL 32 v10 [(Pt.mk x10 v12)]).bind fun xs15=>k10 xs15)else(k10 v10)
def Y3(p1:List Pt)(from2 to3:Int)(c4:Vec)(x10:Int)(_:Nat)(v10:(List Pt))(k10:(List Pt)->Option ((List Pt)×Bool)):Option ((List Pt)×Bool) :=
 (MB p1 x10).bind fun y11=>bif ((decide (from2<=x10))&&(decide (x10<to3)))then(bif (!(Qc y11 c4).2)then(some ([],false))else((Z3 v10 x10 k10) ((Qc y11 c4).1)))else((Z3 v10 x10 k10) y11)
def L4(v10:(List Pt)):Option ((List Pt)×Bool) :=
 bif (decide (200<(v10.length:Int)))then(some ([],false))else(some (v10,true))
def Z5(x6:Pt)(_:Nat)(v6:(List Int))(k6:(List Int)->Option ((List Pt)×Bool)):Option ((List Pt)×Bool) :=
 (appL 8 v6 [x6.t]).bind fun xs7=>k6 xs7
def J4(p1:List Pt)(from2 to3:Int)(c4:Vec)(v6:(List Int)):Option ((List Pt)×Bool) :=
 (M1e v6).bind fun xs8=>rgl (Y3 p1 from2 to3 c4) L4 (L8 xs8) 0 []
def Z4(p1:List Pt)(from2 to3:Int)(c4:Vec):Option ((List Pt)×Bool) :=
 rgl Z5 (J4 p1 from2 to3 c4) p1 0 [from2,to3]
theorem Zp{p1:List Pt}{from2 to3:Int}{c4:Vec}{r:(List Pt)×Bool}(H:Z4 p1 from2 to3 c4=some r):Snd Tryz.prog ZO [.agg [rV 4 (p1.map ePt)],iV from2,iV to3,.fn Q7 [.ept (eVec c4) 0]] (.tup [V2 .nw r.1,.bool r.2]) []:=by
 refine wS Lo [.c 8 1 true,.t 9] ?_
 unfold Z4 at H
 refine wG [.u 25 (.ln _ _ fun _=>lm p1 ePt)] fun q5=>?_
 refine wR (fun(i6:Nat) (v6:(List Int))=>⟨[(1,iV from2),(2,iV to3),(3,.fn Q7 [.ept (eVec c4) 0]),(4,.ptr 4 0),(8,.ptr 8 0),(10,.sref 22),(24,rV 4 (p1.map ePt)),(25,iV (p1.length:Int)),(26,iV (i6:Int))],[],[(4,[rV 4 (p1.map ePt)]),(8,[.nl])],[(22,⟨1,v6.map eI,false⟩)]⟩) H (fun i6 x6 v6 I m k6 hxv6 hiv6 H N15=>?_) (fun v6 I m H=>?_)
 .unfold Z5 at H
  refine wP ?_
  refine wt (ltT hiv6) ?_
  obtain⟨xs7,h7,H⟩:=bB H
  refine wG [.u 28 (.ix _ _ _ fun _=>Q0 ePt (J0 hxv6)),.u 34 (.ap _ _ _ _ fun _=>L0 eI h7),.w 35 (wi .i64 rfl hiv6 q5.1)] fun _=>?_
  exact wT (N15 _ H)
 .unfold J4 at H
  refine wP ?_
  refine wf (ltF p1.length) ?_
  obtain⟨xs8,h8,H⟩:=bB H
  refine wG [.u 37 (.cr Ql 1 _ [] [] false _ (fun _=>L18 v6) (fun _=>trivial) (fun _=>rfl) (fun _=>L1n h8)),.u 40 (.cr Ug 1 _ [] [] true _ (fun _=>L18 xs8) (fun _=>trivial) (fun _=>rfl) (fun _=>X14 xs8)),.u 41 (.ln _ _ fun _=>lm (L8 xs8) eI)] fun q9=>?_
  refine L0b (fun(i10:Nat) (v10:(List Pt))=>⟨[(1,.int .i64 from2),(2,.int .i64 to3),(3,.fn Q7 [.ept (eVec c4) 0]),(4,.ptr 4 0),(8,.ptr 8 0),(13,.ptr 13 0),(40,.sref 41000),(41,.int .i64 ((L8 xs8).length:Int)),(42,.int .i64 (i10:Int))],[],[(4,[.sl .rd 4 (p1.map ePt)]),(8,[.nl]),(13,[.sref 117000])],[(117000,⟨4,v10.map ePt,false⟩),(41000,⟨1,(L8 xs8).map eI,false⟩)]⟩) [] [(13,[.z 117000])] [(117000,(none,4))] [] (by kernel_rfl) (by kernel_rfl) H (fun i10 x10 v10 I m k10 hxv10 hiv10 H N57=>?_) (fun v10 I m H=>?_)
  .unfold Y3 at H
   refine wP ?_
   refine wt (ltT hiv10) ?_
   obtain⟨y11,h11,H⟩:=bB H
   refine wG [.u 44 (.ix _ _ _ fun _=>Q0 eI (J0 hxv10)),.u 45 (.el _ _ _ fun _=>gm eI (Y5 (J0 hxv10))),.c 48 (Y0m h11)] fun _=>?_
   refine Z6 (r:=r) (Z3 v10 x10 k10) 0 (fun v12:Vec=>⟨[(1,.int .i64 from2),(2,.int .i64 to3),(3,.fn Q7 [.ept (eVec c4) 0]),(4,.ptr 4 0),(8,.ptr 8 0),(13,.ptr 13 0),(15,.int .i64 x10),(16,.ptr 16 0),(40,.sref 41000),(41,.int .i64 ((L8 xs8).length:Int)),(42,.int .i64 (i10:Int))],[],[(4,[.sl .rd 4 (p1.map ePt)]),(8,[.nl]),(13,[.sref 117000]),(16,(eVec v12).cells)],[(117000,⟨4,v10.map ePt,false⟩),(41000,⟨1,(L8 xs8).map eI,false⟩)]⟩) (by kernel_rfl) (fun v12 H=>?_) (fun J48=>?_)
   .unfold Z3 at H
    obtain⟨e13,h13,H⟩:=bB H
    refine wG [.u 69 (.ln _ _ fun _=>lm v10 ePt),.g 77 [(_,false)] (.ix _ _ _ fun q=>Q0 ePt (bF q.1 h13)),.g 79 [(_,false)] (.el _ _ _ fun q=>gm ePt (Y5 (bF q.1 h13)))] fun q14=>?_
    refine O0 H (fun H=>?_) fun H=>?_
    .obtain⟨xs15,h15,H⟩:=bB H
     refine wG [.u 89 (.ap _ _ _ _ fun _=>L0 ePt h15),.w 91 (wi .i64 rfl hiv10 q9.1)] fun _=>?_
     exact wT (N57 _ H)
    .refine wG [.w 91 (wi .i64 rfl hiv10 q9.1)] fun _=>?_
     exact wT (N57 _ H)
   .refine O0 H (fun H=>?_) fun H=>?_
    .refine wG [.u 60 (.clsr _ _ _ _ _ (AEs.refl _) (by kernel_rfl) (fun _=>Z0h y11 c4))] fun _=>?_
     refine O0 H (fun H=>?_) fun H=>?_
     .refine wP ?_
      replace H:=sI H;subst H
      exact wN [(8,.d),(9,.d)] [(8,[.n 4])] [] [] [] [⟨_,Ji ([]:List Pt)⟩]
     .refine wP ?_
      exact wT (J48 _ H)
    .refine wP ?_
     exact wT (J48 _ H)
  .unfold L4 at H
   refine wP ?_
   refine wf (ltF (L8 xs8).length) ?_
   refine wG [.u 94 (.ln _ _ fun _=>lm v10 ePt)] fun q16=>?_
   refine O0 H (fun H=>?_) fun H=>?_
   .refine wP ?_
    replace H:=sI H;subst H
    exact wN [(8,.d),(9,.d)] [(8,[.n 4])] [] [] [] [⟨_,Ji ([]:List Pt)⟩]
   .refine wP ?_
    replace H:=sI H;subst H
    exact wN [(8,.d),(9,.d)] [(8,[.f])] [] [117000] [] [⟨_,Ji v10⟩]
def O0t:L :=
sR [.bx 4 0,.bx 7 3,.al 8 [.nl],.mv 9 (cB false)]
 (.seq (sR [lT 10 4 1,cQ 11 XJ [10],.un 12 11,mV 13 12,gF 13 (mV 14 1),gF 13 (mV 15 2),gF 13 (cQ 16 WY [14,15]),gF 13 (.un 17 16),.pk 18 13 (cB true) 17,mV 19 18,gF 19 (lT 20 7 3),gF 19 (cQ 21 V6 [20]),gF 19 (.un 22 21),.pk 23 19 (cB true) 22]
 (.cond 23 (sR [.bd 24 [.nl] [],.st 8 24 1,.mv 9 (cB false)]
 gR)
 .skip))
 (sR [.fb 7,lT 25 4 1,mV 26 1,mV 27 2,.mf 28 Q7 [7],cQ 29 ZO [25,26,27,28],eX 30 29 0,eX 31 29 1,.st 8 30 1,mV 9 31]
 gR))
def Un(p1:List Pt)(from2 to3:Int)(v4:Vec):Option ((List Pt)×Bool) :=
 (Xr p1).bind fun b5=>bif (((!b5)||(!(Uz from2 to3)))||(!(M1 v4)))then(some ([],false))else((Z4 p1 from2 to3 v4).bind fun y6=>some (y6.1,y6.2))
theorem Z01{p1:List Pt}{from2 to3:Int}{v4:Vec}{r:(List Pt)×Bool}(H:Un p1 from2 to3 v4=some r):Snd Tryz.prog Wl [.agg [rV 4 (p1.map ePt)],iV from2,iV to3,eVec v4] (.tup [V2 .nw r.1,.bool r.2]) []:=by
 refine wS O0t [.c 8 1 true,.t 9] ?_
 unfold Un at H
 obtain⟨b5,h5,H⟩:=bB H
 refine wG [.c 11 (ZS h5),.g 16 [((!b5),false)] (.call _ _ _ _ _ (AEs.refl _) (fun _=>Z0J from2 to3)),.g 21 [(((!b5)||(!(Uz from2 to3))),false)] (.call _ _ _ _ _ (AEs.refl _) (fun _=>L6 v4))] fun _=>?_
 refine O0 H (fun H=>?_) fun H=>?_
 .refine wP ?_
  replace H:=sI H;subst H
  exact wN [(8,.d),(9,.d)] [(8,[.n 4])] [] [] [] [⟨_,Ji ([]:List Pt)⟩]
 .obtain⟨y6,h6,H⟩:=bB H
  refine wG [.c 29 (Zp h6)] fun _=>?_
  replace H:=sI H;subst H
  exact wN [(8,.d),(9,.d)] [(8,[])] [] [] [] [⟨_,Ji y6.1⟩]
structure ProfP(p:List Pt):Prop where
 pos:0<p.length
 le:p.length<=200
 zero:∀x,p[0]?=some x->x.t=0
 ok:∀x∈p,time x.t=true/\W0 x.free=true
 asc:∀(i:Nat) (x y:Pt),p[i]?=some x->p[i+1]?=some y->x.t<y.t/\x.free≠y.free
theorem YS(p:List Pt):Xr p=X9 p:=by
 have e:(!V0 (p.length:Int) 1 200)=(decide ((p.length:Int)<1)||decide (200<(p.length:Int))):=by
  unfold V0
  rw[Bool.eq_iff_iff];simp
 unfold Xr X9
 rw[e]
 rfl
theorem W1d(a b:Vec):(a.a==b.a&&(a.b==b.b&&(a.c==b.c&&true)))=decide (a=b):=by
 cases a;cases b
 simp only[Vec.mk.injEq,Bool.and_true]
 rw[Bool.eq_iff_iff]
 simp
theorem L03(p:List Pt):∃b,X9 p=some b/\(b=true↔ProfP p):=by
 unfold X9
 by_cases h1:p.length<1
 .exact⟨false,by simp[show((p.length:Int)<1) by omega],Xg fun h=>by have:=h.pos;omega⟩
 by_cases h2:200<p.length
 .exact⟨false,by simp[show((200:Int)<p.length) by omega],Xg fun h=>by have:=h.le;omega⟩
 obtain⟨p0,hp0⟩:∃p0,p[0]?=some p0:=⟨_,yA (by omega)⟩
 have e1:decide ((p.length:Int)<1)=false:=by simp;omega
 have e2:decide ((200:Int)<(p.length:Int))=false:=by simp;omega
 rw[e1,e2]
 simp only[Bool.or_self,yM,Bool.false_or,show idx p 0=some p0 from by rw[← hp0];exact Y8 (i:=0),bS]
 by_cases h4:p0.t=0
 rotate_left
 .refine⟨false,by rw[show(p0.t != 0)=true by simpa using h4];rfl,Xg fun h=>h4 (h.zero _ hp0)⟩
 rw[h4]
 simp only[bne_self_eq_false,yM]
 refine U7 (fun i (_:Unit)=>(∀j x,j<i->p[j]?=some x->time x.t=true/\W0 x.free=true)/\∀j x y,j+1<i->p[j]?=some x->p[j+1]?=some y->x.t<y.t/\x.free≠y.free)
  (fun r=>∃b,r=some b/\(b=true↔ProfP p)) ?_ ?_ ⟨fun j x h=>by omega,fun j x y h=>by omega⟩
 .intro i x _ k hi hI hk
  have hil:=(yB hi).1
  unfold LK
  rw[Je]
  cases ht:time x.t with
  |false=>exact⟨false,rfl,Xg fun h=>by have:=(h.ok x (yE hi)).1;rw[ht]at this;cases this⟩
  |true =>
  cases hv:W0 x.free with
  |false=>exact⟨false,rfl,Xg fun h=>by have:=(h.ok x (yE hi)).2;rw[hv]at this;cases this⟩
  |true =>
  simp only[yL,Bool.or_self,yM,Bool.false_or,W1d]
  have new1:∀j y,j<i+1->p[j]?=some y->time y.t=true/\W0 y.free=true:=by
   intro j y hj hy
   by_cases e:j=i
   .subst e;rw[hi]at hy;cases hy;exact⟨ht,hv⟩
   .exact hI.1 j y (by omega) hy
  by_cases h0:i=0
  .subst h0
   simp only[Int.natCast_zero,Int.lt_irrefl,decide_false,yM,Bool.false_and]
   exact hk () ⟨new1,fun j x y h=>by omega⟩
  .have hgt:decide ((0:Int)<(i:Int))=true:=by simp;omega
   obtain⟨q,hq⟩:∃q,p[i-1]?=some q:=⟨_,yA (by omega)⟩
   rw[hgt,U0v (by omega) (by omega)]
   simp only[yN,Bool.true_and,Y8,hq,bS]
   by_cases h5:x.t<=q.t
   .simp only[h5,decide_true,yN,Bool.true_or]
    refine⟨false,rfl,Xg fun h=>?_⟩
    have:=(h.asc (i-1) q x hq (by rw[show i-1+1=i by omega];exact hi)).1
    omega
   .simp only[h5,decide_false,yM,Bool.false_or,bS]
    by_cases h6:q.free=x.free
    .simp only[h6,decide_true,yN]
     refine⟨false,rfl,Xg fun h=>?_⟩
     exact(h.asc (i-1) q x hq (by rw[show i-1+1=i by omega];exact hi)).2 h6
    .simp only[h6,decide_false,yM]
     refine hk () ⟨new1,fun j a b hj ha hb=>?_⟩
     by_cases e:j+1=i
     .have:j=i-1:=by omega
      subst this
      rw[hq]at ha;cases ha
      rw[show i-1+1=i by omega,hi]at hb;cases hb
      exact⟨by omega,h6⟩
     .exact hI.2 j a b (by omega) ha hb
 .intro _ hI
  refine⟨true,rfl,fun _=>⟨by omega,by omega,fun x hx=>by rw[hp0]at hx;cases hx;exact h4,fun x hx=>?_,fun i x y hx hy=>?_⟩,fun _=>rfl⟩
  .obtain⟨j,hj⟩:=List.getElem?_of_mem hx
   exact hI.1 j x (yB hj).1 hj
  .exact hI.2 i x y (yB hy).1 hx hy
noncomputable def profOk(p:List Pt):Bool:=(X9 p).getD false
theorem Ya(p:List Pt):X9 p=some (profOk p):=by
 obtain⟨b,h3,_⟩:=L03 p
 rw[profOk,h3];rfl
theorem MJ{p:List Pt}:profOk p=true↔ProfP p:=by
 obtain⟨b,h3,h4⟩:=L03 p
 rw[profOk,h3];exact h4
theorem ProfP.lt{p:List Pt}(h:ProfP p):∀(j i:Nat) (x y:Pt),i<j->p[i]?=some x->p[j]?=some y->x.t<y.t:=by
 intro j
 induction j with
 |zero=>intro i x y hij;omega
 |succ j ih =>
  intro i x y hij hx hy
  obtain⟨z,hz⟩:∃z,p[j]?=some z:=⟨_,yA (by have:=(yB hy).1;omega)⟩
  have h1:=(h.asc j z y hz hy).1
  by_cases e:i=j
  .subst e;rw[hz]at hx;cases hx;exact h1
  .have:=ih i x z (by omega) hx hz
   omega
theorem ProfP.asc_times{p:List Pt}(h:ProfP p):(p.map Pt.t).Pairwise (· < ·):=by
 rw[List.pairwise_iff_getElem]
 intro i j hi hj hij
 simp only[List.length_map]at hi hj
 simp only[List.getElem_map]
 exact h.lt j i _ _ hij (yA hi) (yA hj)
def atV(p:List Pt)(t:Int):Vec:=p.foldl (fun v x=>bif decide (x.t<=t)then x.free else v) ⟨0,0,0⟩
theorem VV(p:List Pt)(t:Int):QJ p t=some (atV p t):=by
 unfold QJ
 rw[YD (f:=fun v (x:Pt)=>bif decide (x.t<=t)then x.free else v) (fun x _ i b k=>by unfold OQ;cases decide (x.t<=t)<;>rfl)]
 rfl
theorem M0Y(p:List Pt)(t:Int):MB p t=some (atV p t):=VV p t
theorem Z1z{p:List Pt}(t:Int)(h:∀x∈p,W0 x.free=true):∀v,W0 v=true->W0 (p.foldl (fun v x=>bif decide (x.t<=t)then x.free else v) v)=true:=by
 induction p with
 |nil=>intro v hv;exact hv
 |cons x l ih =>
  intro v hv
  rw[List.foldl_cons]
  refine ih (fun y hy=>h y (yH _ hy)) _ ?_
  cases decide (x.t<=t)with
  |true=>exact h x (yJ ..)
  |false=>exact hv
theorem Q11{p:List Pt}(h:ProfP p)(t:Int):W0 (atV p t)=true:=Z1z t (fun x hx=>(h.ok x hx).2) _ (by decide)
def minV(p:List Pt)(from_ to_:Int):Vec:=p.foldl (fun v x=>bif decide (from_<=x.t)&&decide (x.t<to_)then Vy v x.free else v) (atV p from_)
theorem Yv(p:List Pt)(from_ to_:Int):Yk p from_ to_=some (if profOk p=true/\time from_=true/\time to_=true/\from_<to_ then(minV p from_ to_,true)else(⟨0,0,0⟩,false)):=by
 unfold Yk
 rw[Ya,bS]
 simp only[Je]
 cases profOk p<;>cases time from_<;>cases time to_<;>try simp
 by_cases h:to_<=from_
 .simp[h,show ¬ from_<to_ by omega]
 .simp only[h,decide_false,yM,show from_<to_ by omega,yb,VV,bS]
  rw[YD (f:=fun v (x:Pt)=>bif decide (from_<=x.t)&&decide (x.t<to_)then Vy v x.free else v) (fun x _ i b k=>by unfold YF;cases(decide (from_<=x.t)&&decide (x.t<to_))<;>rfl)]
  rfl
theorem Z0L:∀{l m:List Int},l.Pairwise (· < ·)->m.Pairwise (· < ·)->(∀x,x∈l↔x∈m)->l=m
 |[],[],_,_,_=>rfl
 |[],b::m,_,_,h=>by have:=(h b).2 (yJ ..);cases this
 |a::l,[],_,_,h=>by have:=(h a).1 (yJ ..);cases this
 |a::l,b::m,h1,h2,h=>by
  rw[List.pairwise_cons]at h1 h2
  have e:a=b:=by
   rcases yX ((h a).1 (yJ ..))with q|q
   .exact q
   .rcases yX ((h b).2 (yJ ..))with q2|q2
    .exact q2.symm
    .have:=h1.1 b q2;have:=h2.1 a q;omega
  subst e
  congr 1
  refine Z0L h1.2 h2.2 fun x=>⟨fun hx=>?_,fun hx=>?_⟩
  .rcases yX ((h x).1 (yH _ hx))with q|q
   .have:=h1.1 x hx;omega
   .exact q
  .rcases yX ((h x).2 (yH _ hx))with q|q
   .have:=h2.1 x hx;omega
   .exact q
def insT(t:Int)(l:List Int):List Int:=(l.filter fun x=>decide (x<t))++t::l.filter fun x=>decide (t<x)
theorem J0v{t x:Int}{l:List Int}:x∈insT t l↔x=t\/x∈l:=by
 simp only[insT,List.mem_append,List.mem_filter,List.mem_cons,yO]
 constructor
 .rintro(⟨h,_⟩|h|⟨h,_⟩)
  .exact .inr h
  .exact .inl h
  .exact .inr h
 .rintro(h|h)
  .exact .inr (.inl h)
  .by_cases h1:x<t
   .exact .inl ⟨h,h1⟩
   .by_cases h2:t<x
    .exact .inr (.inr ⟨h,h2⟩)
    .exact .inr (.inl (by omega))
theorem YM{t:Int}{l:List Int}(h:l.Pairwise (· < ·)):(insT t l).Pairwise (· < ·):=by
 unfold insT
 rw[List.pairwise_append,List.pairwise_cons]
 refine⟨h.filter _,⟨fun x hx=>by simpa using(List.mem_filter.1 hx).2,h.filter _⟩,fun x hx y hy=>?_⟩
 have hx':x<t:=by simpa using(List.mem_filter.1 hx).2
 rcases yX hy with rfl|hy
 .exact hx'
 .have:t<y:=by simpa using(List.mem_filter.1 hy).2
  omega
theorem X0S(t:Int)(l:List Int):(insT t l).length<=l.length+1:=by
 have:∀m:List Int,(m.filter fun x=>decide (x<t)).length+(m.filter fun x=>decide (t<x)).length<=m.length:=by
  intro m
  induction m with
  |nil=>simp
  |cons a m ih =>
   simp only[List.filter_cons,yT]
   by_cases h1:a<t
   .simp only[h1,decide_true,yb,show ¬ t<a by omega,decide_false,yG,yc,yT];omega
   .by_cases h2:t<a
    .simp only[h1,h2,decide_true,yb,decide_false,yG,yc,yT];omega
    .simp only[h1,h2,decide_false,yG,yc];omega
 have:=this l
 simp only[insT,yU,yT];omega
theorem W18{γ:Type}(t:Int)(k:List Int->Option γ)(bd:Int->Nat->Bool×List Int->((Bool×List Int)->Option γ)->Option γ)(kk:Bool×List Int->Option γ)
  (hb:∀x i d acc kc,acc.length<=1000->bd x i (d,acc) kc=bif (!d)&&decide (t<=x)then(bif x != t then kc (true,acc++[t]++[x])else kc (true,acc++[t]))else(bif x != t then kc (d,acc++[x])else kc (d,acc)))
  (hk:∀d acc,acc.length<=1000->kk (d,acc)=bif !d then k (acc++[t])else k acc):∀(l:List Int) (i:Nat),l.Pairwise (· < ·)->l.length<=500 ->
  (∀acc:List Int,acc.length<=500-l.length->rgl bd kk l i (false,acc)=k (acc++insT t l))/\∀acc:List Int,acc.length<=501-l.length->(∀x∈l,t<x)->rgl bd kk l i (true,acc)=k (acc++l)
 |[],i,_,_=>⟨fun acc h=>by rw[rgl,hk _ _ (by omega)];simp[insT],fun acc h _=>by rw[rgl,hk _ _ (by omega)];simp⟩
 |x::l,i,hp,hl=>by
  rw[List.pairwise_cons]at hp
  simp only[yT]at hl
  obtain⟨q1,q2⟩:=W18 t k bd kk hb hk l (i+1) hp.2 (by omega)
  refine⟨fun acc ha=>?_,fun acc ha hx=>?_⟩
  .simp only[yT]at ha
   rw[rgl,hb _ _ _ _ _ (by omega)]
   by_cases h1:t<=x
   .have hall:∀y∈l,t<y:=fun y hy=>by have:=hp.1 y hy;omega
    have f1:(l.filter fun y=>decide (y<t))=[]:=List.filter_eq_nil_iff.2 fun y hy=>by have:=hall y hy;simp;omega
    have f2:(l.filter fun y=>decide (t<y))=l:=List.filter_eq_self.2 fun y hy=>by simpa using hall y hy
    simp only[Bool.not_false,Bool.true_and,h1,decide_true,yN]
    by_cases h2:x=t
    .subst h2
     simp only[bne_self_eq_false,yM]
     rw[q2 _ (by simp;omega) hall]
     simp[insT,f1,f2]
    .rw[show(x != t)=true by simpa using h2,yN,q2 _ (by simp;omega) hall]
     simp[insT,f1,f2,show ¬ x<t by omega,show t<x by omega]
   .simp only[Bool.not_false,Bool.true_and,h1,decide_false,yM]
    rw[show(x != t)=true by simp;omega,yN,q1 _ (by simp;omega)]
    simp[insT,show x<t by omega,show ¬ t<x by omega]
  .simp only[yT]at ha
   have hx1:=hx x (yJ ..)
   rw[rgl,hb _ _ _ _ _ (by omega)]
   simp only[yL,Bool.false_and,yM]
   rw[show(x != t)=true by simp;omega,yN,q2 _ (by simp;omega) fun y hy=>hx y (yH _ hy)]
   simp
def Qg(p:List Pt)(from_ to_:Int):List Int:=insT to_ (insT from_ (p.map Pt.t))
theorem O0p{p:List Pt}(h:ProfP p)(from_ to_:Int):Jt p from_ to_=some (Qg p from_ to_):=by
 have hle:=h.le
 unfold Jt
 rw[M8 (bd:=Zy) (bs:=8) (p:=fun _=>true) (f:=Pt.t) (fun x _ i b k=>rfl) (by simp;omega)]
 have one:∀(t:Int) (i:Nat) (v:List Int) (k:List Int->Option (List Int)),v.Pairwise (· < ·)->v.length<=300->Xm t i v k=k (insT t v):=by
  intro t i v k hv hl
  unfold Xm
  have:=(W18 t k (Vm t) (Ym t k) (fun x i d acc kc ha=>by
   unfold Vm Oe
   cases((!d)&&decide (t<=x))with
   |true =>
    simp only[yN]
    rw[M0 (by simp;omega),bS]
    cases(x != t)with
    |true=>simp only[yN];rw[M0 (by simp;omega),bS]
    |false=>rfl
   |false =>
    simp only[yM]
    cases(x != t)with
    |true=>simp only[yN];rw[M0 (by simp;omega),bS]
    |false=>rfl) (fun d acc ha=>by
   unfold Ym
   cases d with
   |true=>rfl
   |false=>simp only[Bool.not_false,yN];rw[M0 (by simp;omega),bS]) v 0 hv (by omega)).1 [] (by simp)
  simpa using this
 have hp:=h.asc_times
 have hl1:=X0S from_ (p.map Pt.t)
 simp only[List.length_map]at hl1
 unfold Jx
 simp only[List.nil_append,show(p.filter fun _=>true)=p from List.filter_eq_self.2 fun _ _=>rfl]
 rw[rgl,one _ _ _ _ hp (by simp;omega),rgl,one _ _ _ _ (YM hp) (by omega)]
 rfl
theorem U10{l:List Int}(h:l.Pairwise (·<=·)):(L8 l).Pairwise (· < ·)/\∀x,x∈L8 l↔x∈l:=by
 have hsz:l.toArray.size=l.length:=by simp
 have get:∀j,j<l.length->l.toArray[j]! = l[j]!:=by intro j hj;simp
 have mono:∀i j,i<=j->j<l.length->l.toArray[i]!<=l.toArray[j]!:=by
  intro i j hij hj
  by_cases e:i=j
  .subst e;exact Int.le_refl _
  .have:=List.pairwise_iff_getElem.1 h i j (by omega) hj (by omega)
   simpa[show i<l.length by omega,hj]using this
 unfold L8 Lib.compact Lib.compactUpTo
 constructor
 .rw[List.pairwise_map]
  have hr:((List.range l.length).filter (Lib.keeps l.toArray)).Pairwise (· < ·):=List.Pairwise.filter _ List.pairwise_lt_range
  refine List.Pairwise.imp_of_mem (fun{a b} ha hb hab=>?_) hr
  have hb1:=List.mem_filter.1 hb
  have hbl:b<l.length:=List.mem_range.1 hb1.1
  have hk:b=0\/l.toArray[b]!≠l.toArray[b-1]!:=by simpa[Lib.keeps]using hb1.2
  rcases hk with rfl|hk
  .omega
  .have:=mono a (b-1) (by omega) (by omega)
   have:=mono (b-1) b (by omega) hbl
   omega
 .intro x
  simp only[List.mem_map,List.mem_filter,List.mem_range]
  constructor
  .rintro⟨j,⟨hj,_⟩,rfl⟩
   rw[get j hj]
   simp[hj]
  .intro hx
   have:∀n,(∃j,j<n/\j<l.length/\l.toArray[j]! = x)->∃j,(j<l.length/\Lib.keeps l.toArray j=true)/\l.toArray[j]! = x:=by
    intro n
    induction n with
    |zero=>rintro⟨j,hj,_⟩;omega
    |succ n ih =>
     rintro⟨j,hj,hjl,he⟩
     cases hk:Lib.keeps l.toArray j with
     |true=>exact⟨j,⟨hjl,hk⟩,he⟩
     |false =>
      have hk':¬ (j=0\/l.toArray[j]!≠l.toArray[j-1]!):=by simpa[Lib.keeps]using hk
      have h0:j≠0:=fun e=>hk' (.inl e)
      have h1:l.toArray[j]! = l.toArray[j-1]!:=Classical.byContradiction fun q=>hk' (.inr q)
      exact ih ⟨j-1,by omega,by omega,by rw[← h1];exact he⟩
   obtain⟨j,hj⟩:=List.getElem?_of_mem hx
   obtain⟨hjl,hje⟩:=yB hj
   exact this l.length ⟨j,hjl,hjl,by rw[get j hjl];simp[hjl,hje]⟩
theorem M1a(l:List Int):(O0F l).Pairwise (·<=·)/\∀x,x∈O0F l↔x∈l:=by
 refine⟨?_,fun x=>(List.mergeSort_perm l _).mem_iff⟩
 have:=List.pairwise_mergeSort (le:=fun(x y:Int)=>decide (x<=y)) (fun a b c h1 h2=>by simp at *;omega) (fun a b=>by simp;omega) l
 exact this.imp fun h=>by simpa using h
theorem Q10{p:List Pt}(h:ProfP p)(from_ to_:Int):L8 (O0F ([from_,to_]++p.map Pt.t))=Qg p from_ to_:=by
 obtain⟨s1,s2⟩:=M1a ([from_,to_]++p.map Pt.t)
 obtain⟨c1,c2⟩:=U10 s1
 refine Z0L c1 (YM (YM h.asc_times)) fun x=>?_
 rw[c2,s2,Qg,J0v,J0v]
 simp only[List.cons_append,List.nil_append,List.mem_cons]
 constructor
 .rintro(h|h|h)
  .exact .inr (.inl h)
  .exact .inl h
  .exact .inr (.inr h)
 .rintro(h|h|h)
  .exact .inr (.inl h)
  .exact .inl h
  .exact .inr (.inr h)
def Y1b(out:List Pt)(t:Int)(w:Vec):List Pt:=match out.getLast? with
 |some e=>if e.free=w then out else out++[⟨t,w⟩]
 |none=>[⟨t,w⟩]
theorem Q18{out:List Pt}(h:out.length<=1000)(x:Int)(w:Vec)(k:List Pt->Option (List Pt×Bool)):Q8 out x k w=k (Y1b out x w):=by
 unfold Q8 Y1b
 cases hl:out with
 |nil =>
  simp only[List.length_nil,List.getLast?_nil]
  rw[show(((0:Nat):Int)==0)=true from rfl,yN,bS,Bool.true_or,yN,M0 (by simp),bS];rfl
 |cons a l =>
  have hne:((out.length:Int)==0)=false:=by rw[hl];simp;omega
  obtain⟨e,he⟩:∃e,out[out.length-1]?=some e:=⟨_,yA (by rw[hl];simp)⟩
  have hlast:out.getLast?=some e:=by rw[List.getLast?_eq_getElem?];exact he
  rw[← hl,hne,hlast,U0v (by rw[hl];simp) (by omega),Y8,he]
  simp only[yM,bS,Bool.false_or,W1d]
  by_cases hw:e.free=w
  .simp[hw]
  .simp only[hw,decide_false,Bool.not_false,yN,yc]
   rw[M0 (by simp;omega),bS]
structure Made(T:List Int)(i:Nat)(out:List Pt):Prop where
 len:out.length<=i
 mem:∀x∈out,∃j,j<i/\T[j]?=some x.t
 ok:∀x∈out,W0 x.free=true
 asc:∀(j:Nat) (x y:Pt),out[j]?=some x->out[j+1]?=some y->x.t<y.t/\x.free≠y.free
 fst:0<i->∃x,out[0]?=some x/\T[0]?=some x.t
theorem Made.nil(T:List Int):Made T 0 [] where
 len:=yV _
 mem:=fun x hx=>by cases hx
 ok:=fun x hx=>by cases hx
 asc:=fun j x y hx=>by simp at hx
 fst:=fun h=>by omega
theorem Made.push{T:List Int}(hT:T.Pairwise (· < ·)){i:Nat}{out:List Pt}(M:Made T i out){t:Int}(ht:T[i]?=some t){w:Vec}(hw:W0 w=true):Made T (i+1) (Y1b out t w):=by
 have lt:∀x∈out,x.t<t:=by
  intro x hx
  obtain⟨j,hj,he⟩:=M.mem x hx
  obtain⟨h1,e1⟩:=yB he
  obtain⟨h2,e2⟩:=yB ht
  rw[← e1,← e2]
  exact List.pairwise_iff_getElem.1 hT j i h1 h2 hj
 unfold Y1b
 cases hl:out.getLast? with
 |none =>
  have:out=[]:=List.getLast?_eq_none_iff.1 hl
  subst this
  have hi:i=0:=by
   cases i with
   |zero=>rfl
   |succ i=>obtain⟨x,hx,_⟩:=M.fst (by omega);simp at hx
  subst hi
  exact⟨by simp,fun x hx=>by simp at hx;subst hx;exact⟨0,by omega,ht⟩,fun x hx=>by simp at hx;subst hx;exact hw,fun j x y hx hy=>by simp at hy,fun _=>⟨_,rfl,ht⟩⟩
 |some e =>
  simp only
  by_cases he:e.free=w
  .rw[yd he]
   exact⟨by have:=M.len;omega,fun x hx=>by obtain⟨j,hj,h⟩:=M.mem x hx;exact⟨j,by omega,h⟩,M.ok,M.asc,fun _=>by
    cases i with
    |zero=>have:=M.len;have:out=[]:=List.eq_nil_of_length_eq_zero (by omega);subst this;simp at hl
    |succ i=>exact M.fst (by omega)⟩
  .rw[ye he]
   refine⟨by have:=M.len;simp;omega,fun x hx=>?_,fun x hx=>?_,fun j x y hx hy=>?_,fun _=>?_⟩
   .rcases List.mem_append.1 hx with hx|hx
    .obtain⟨j,hj,h⟩:=M.mem x hx;exact⟨j,by omega,h⟩
    .simp at hx;subst hx;exact⟨i,by omega,ht⟩
   .rcases List.mem_append.1 hx with hx|hx
    .exact M.ok x hx
    .simp at hx;subst hx;exact hw
   .by_cases hj:j+1<out.length
    .rw[yK (by omega)]at hx
     rw[yK hj]at hy
     exact M.asc j x y hx hy
    .have hlt:=(yB hy).1
     simp only[yU,yT,List.length_nil]at hlt
     have hje:j=out.length-1:=by omega
     rw[yK (by omega)]at hx
     rw[yS (by omega),show j+1-out.length=0 by omega]at hy
     simp at hy
     subst hy
     rw[List.getLast?_eq_getElem?,← hje,hx]at hl
     have hl:=Option.some.inj hl
     subst hl
     exact⟨lt _ (yE hx),he⟩
   .have hne:out≠[]:=fun e=>by rw[e]at hl;simp at hl
    cases i with
    |zero=>have:=M.len;exact absurd (List.eq_nil_of_length_eq_zero (by omega)) hne
    |succ i =>
     obtain⟨x,hx,h⟩:=M.fst (by omega)
     exact⟨x,by rw[yK (by have:=(yB hx).1;omega)];exact hx,h⟩
theorem Y1e{p:List Pt}(h:ProfP p){from_ to_:Int}(h1:time from_=true)(h2:time to_=true) :
  (Qg p from_ to_).Pairwise (· < ·)/\(Qg p from_ to_).length<=202/\(∀t∈Qg p from_ to_,time t=true)/\(Qg p from_ to_)[0]?=some 0/\from_∈Qg p from_ to_:=by
 have hp:=YM (t:=to_) (YM (t:=from_) h.asc_times)
 have hm:∀t,t∈Qg p from_ to_↔t=to_\/t=from_\/t∈p.map Pt.t:=fun t=>by rw[Qg,J0v,J0v]
 have hok:∀t∈Qg p from_ to_,time t=true:=by
  intro t ht
  rcases(hm t).1 ht with rfl|rfl|ht
  .exact h2
  .exact h1
  .obtain⟨x,hx,rfl⟩:=yY ht
   exact(h.ok x hx).1
 have h0:(0:Int)∈Qg p from_ to_:=by
  obtain⟨x,hx⟩:∃x,p[0]?=some x:=⟨_,yA h.pos⟩
  exact(hm 0).2 (.inr (.inr (List.mem_map.2 ⟨x,yE hx,h.zero x hx⟩)))
 have hl1:=X0S from_ (p.map Pt.t)
 have hl2:=X0S to_ (insT from_ (p.map Pt.t))
 simp only[List.length_map]at hl1
 have:=h.le
 refine⟨hp,by unfold Qg;omega,hok,?_,(hm from_).2 (.inr (.inl rfl))⟩
 obtain⟨j,hj⟩:=List.getElem?_of_mem h0
 obtain⟨hjl,hje⟩:=yB hj
 by_cases e:j=0
 .subst e;exact hj
 .have:=List.pairwise_iff_getElem.1 hp 0 j (by unfold Qg at hjl;omega) (by unfold Qg at hjl;exact hjl) (by omega)
  have h00:=hok (Qg p from_ to_)[0] (List.getElem_mem (by omega))
  have:=(YV.1 h00).1
  unfold Qg at hje this
  omega
def Q0E(p:List Pt)(from_ to_:Int)(v:Vec)(x:Int)(out:List Pt)(k:List Pt->Option (List Pt×Bool)):Option (List Pt×Bool) :=
 bif decide (from_<=x)&&decide (x<to_)then(bif (X3 (atV p x) v).2 then k (Y1b out x (X3 (atV p x) v).1)else some ([],false))else k (Y1b out x (atV p x))
theorem O1a{p:List Pt}{from_ to_:Int}{v:Vec}{x:Int}{i:Nat}{out:List Pt}(h:out.length<=1000)(k:List Pt->Option (List Pt×Bool)):Zj p from_ to_ v false x i out k=Q0E p from_ to_ v x out k:=by
 unfold Zj Q0E
 rw[VV,bS]
 cases(decide (from_<=x)&&decide (x<to_))with
 |false=>simp only[yM];rw[Q18 h]
 |true =>
  simp only[yN,yM,Vd]
  cases(X3 (atV p x) v).2 with
  |false=>rfl
  |true=>simp only[yL,yM,yN];rw[Q18 h]
theorem Y1c{p:List Pt}(hp:ProfP p){from_ to_:Int}{v:Vec}{x:Int}{i:Nat}{out:List Pt}(h:out.length<=1000)(k:List Pt->Option (List Pt×Bool)):Y3 p from_ to_ v x i out k=Q0E p from_ to_ v x out k:=by
 unfold Y3 Q0E Qc
 rw[M0Y,bS,U0J (Q11 hp x)]
 cases(decide (from_<=x)&&decide (x<to_))with
 |false=>simp only[yM];exact Q18 h x _ k
 |true =>
  simp only[yN]
  cases(X3 (atV p x) v).2 with
  |false=>rfl
  |true=>simp only[yL,yM,yN];exact Q18 h x _ k
theorem U0E{a b:Vec}(h:(X3 a b).2=true):W0 (X3 a b).1=true:=by
 unfold X3 at h ⊢
 cases hf:L3 b a with
 |false=>rw[hf]at h;simp at h
 |true =>
  simp only[yL,yM]
  unfold L3 at hf
  simp only[yD,yO]at hf
  obtain⟨⟨⟨⟨h1,h2⟩,h3⟩,h4⟩,h5⟩:=hf
  have h1:=LJ.1 h1
  have h2:=LJ.1 h2
  rw[LJ,V4 (by omega),V4 (by omega),V4 (by omega)]
  simp only;omega
theorem Y0e(p:List Pt)(from_ to_:Int)(v:Vec):Un p from_ to_ v=O9 p from_ to_ v/\∃r,O9 p from_ to_ v=some r/\(r.2=true->ProfP r.1):=by
 unfold Un O9
 rw[YS,Ya,Yv,bS,bS]
 cases hpo:profOk p with
 |false=>simp
 |true =>
 have hp:=MJ.1 hpo
 unfold Uz
 simp only[X0b]
 by_cases hs:time from_=true/\time to_=true/\from_<to_
 rotate_left
 .have e:((time from_&&time to_)&&decide (from_<to_))=false:=by
   rw[Bool.eq_false_iff];intro q;simp only[yD,yO]at q;exact hs ⟨q.1.1,q.1.2,q.2⟩
  rw[e,ye (fun q=>hs q.2)]
  simp
 obtain⟨h1,h2,h3⟩:=hs
 rw[yd ⟨trivial,h1,h2,h3⟩]
 obtain⟨t1,t2,t3,t4,t5⟩:=Y1e hp h1 h2
 have T:=O0p hp from_ to_
 have U0N:Vo p from_ to_ v false=rgl (fun x _=>Q0E p from_ to_ v x) U8 (Qg p from_ to_) 0 []:=by
  unfold Vo
  rw[T,bS]
  refine Z0P (fun i b c=>b=c/\Made (Qg p from_ to_) i b) rfl (fun i x y b c k k2 hx hy hr hk=>?_) (fun b c hr=>by rw[hr.1]) ⟨rfl,Made.nil _⟩
  obtain⟨rfl,M⟩:=hr
  rw[hx]at hy;cases hy
  have hil:=(yB hx).1
  rw[O1a (by have:=M.len;omega)]
  unfold Q0E
  cases(decide (from_<=x)&&decide (x<to_))with
  |false=>exact hk _ _ ⟨rfl,M.push t1 hx (Q11 hp x)⟩
  |true =>
   simp only[yN]
   cases hv:(X3 (atV p x) v).2 with
   |false=>rfl
   |true=>exact hk _ _ ⟨rfl,M.push t1 hx (U0E hv)⟩
 have ends:∀b,Made (Qg p from_ to_) (Qg p from_ to_).length b->(profOk b=true↔b.length<=200):=by
  intro b M
  rw[MJ]
  refine⟨fun h=>h.le,fun hl=>?_⟩
  obtain⟨x,hx,h0⟩:=M.fst (by have:=List.length_pos_of_mem t5;omega)
  rw[t4]at h0
  exact⟨(yB hx).1,hl,fun y hy=>by rw[hx]at hy;cases hy;exact(Option.some.inj h0).symm,fun y hy=>⟨by
   obtain⟨j,_,hj⟩:=M.mem y hy
   exact t3 _ (yE hj),M.ok y hy⟩,M.asc⟩
 have total:∃r:List Pt×Bool,rgl (fun x _=>Q0E p from_ to_ v x) U8 (Qg p from_ to_) 0 []=some r/\(r.2=true->ProfP r.1):=by
  refine U7 (fun i b=>Made (Qg p from_ to_) i b) (fun o=>∃r:List Pt×Bool,o=some r/\(r.2=true->ProfP r.1)) (fun i x b k hx M hk=>?_) (fun b M=>?_) (Made.nil _)
  .unfold Q0E
   cases(decide (from_<=x)&&decide (x<to_))with
   |false=>exact hk _ (M.push t1 hx (Q11 hp x))
   |true =>
    simp only[yN]
    cases hv:(X3 (atV p x) v).2 with
    |false=>exact⟨_,rfl,fun h=>by cases h⟩
    |true=>exact hk _ (M.push t1 hx (U0E hv))
  .unfold U8
   rw[Ya,bS]
   cases hb:profOk b with
   |false=>exact⟨_,rfl,fun h=>by cases h⟩
   |true=>exact⟨_,rfl,fun _=>MJ.1 hb⟩
 have bind_id:∀o:Option (List Pt×Bool),(o.bind fun y6=>some (y6.1,y6.2))=o:=by intro o;cases o<;>rfl
 simp only[yL,Bool.false_or,h1,h2,h3,Bool.and_self,decide_true,yM,bind_id,Mv]
 rw[U0N]
 refine⟨?_,total⟩
 cases hv:W0 v with
 |false =>
  simp only[Bool.not_false,yN]
  symm
  refine U7 (fun i b=>Made (Qg p from_ to_) i b/\∀j,j<i->(Qg p from_ to_)[j]?≠some from_) (fun o=>o=some ([],false)) (fun i x b k hx hI hk=>?_) (fun b hI=>?_) ⟨Made.nil _,fun j h=>by omega⟩
  .obtain⟨M,hI⟩:=hI
   have sub:∀x,X3 (atV p x) v=(⟨0,0,0⟩,false):=fun x=>by unfold X3 L3;rw[hv];rfl
   unfold Q0E
   rw[sub]
   by_cases hf:from_<=x/\x<to_
   .simp[hf.1,hf.2]
   .have e:(decide (from_<=x)&&decide (x<to_))=false:=by simpa using fun q=>by omega
    rw[e]
    refine hk _ ⟨M.push t1 hx (Q11 hp x),fun j hj e=>?_⟩
    by_cases hji:j=i
    .subst hji;rw[hx]at e;cases e;omega
    .exact hI j (by omega) e
  .obtain⟨j,hj⟩:=List.getElem?_of_mem t5
   exact absurd hj (hI.2 j (yB hj).1)
 |true =>
  simp only[yL,yM]
  unfold Z4
  rw[M8 (bd:=Z5) (bs:=8) (p:=fun _=>true) (f:=Pt.t) (fun x _ i b k=>rfl) (by have:=hp.le;simp;omega)]
  unfold J4
  rw[show(p.filter fun _=>true)=p from List.filter_eq_self.2 fun _ _=>rfl]
  have hs:M1e ([from_,to_]++p.map Pt.t)=some (O0F ([from_,to_]++p.map Pt.t)):=by
   unfold M1e
   rw[yd (by have:=hp.le;simp;omega)]
  rw[hs,bS,Q10 hp]
  refine Z0P (fun i b c=>b=c/\Made (Qg p from_ to_) i b) rfl (fun i x y b c k k2 hx hy hr hk=>?_) (fun b c hr=>?_) ⟨rfl,Made.nil _⟩
  .obtain⟨rfl,M⟩:=hr
   rw[hx]at hy;cases hy
   have hil:=(yB hx).1
   rw[Y1c hp (by have:=M.len;omega)]
   unfold Q0E
   cases(decide (from_<=x)&&decide (x<to_))with
   |false=>exact hk _ _ ⟨rfl,M.push t1 hx (Q11 hp x)⟩
   |true =>
    simp only[yN]
    cases hv:(X3 (atV p x) v).2 with
    |false=>rfl
    |true=>exact hk _ _ ⟨rfl,M.push t1 hx (U0E hv)⟩
  .obtain⟨rfl,M⟩:=hr
   unfold L4 U8
   rw[Ya,bS]
   by_cases hl:b.length<=200
   .rw[(ends b M).2 hl]
    simp[show ¬ (200:Int)<b.length by omega]
   .rw[show profOk b=false from Bool.eq_false_iff.2 fun q=>hl ((ends b M).1 q)]
    simp[show(200:Int)<b.length by omega]
def X18(cnt zs:List Int):Prop:=(∀z∈zs,0<=z/\z<(cnt.length:Int))/\cnt.length<=24/\(∀c∈cnt,0<=c/\c<=1000000)/\zs.length<4611686018427387904
instance(cnt zs:List Int):Decidable (X18 cnt zs):=by unfold X18;infer_instance
end Go.Proofs.YtpgaganbacipnaaGreat
