/-
  Lemmas, part 9.
-/
import Derived.Test.YtodafdoninblmaaGreatV8
import Derived.Sort.Grow
import Derived.Lib.SlicesCompact
import Derived.Shelf.SlSortCmp.NoneTotal
import Derived.Ground.SlsfProg
import Derived.Shelf.Small.Bits
import Derived.Shelf.Strconv.Itoa0
import Derived.Shelf.Sort.Plain
import Derived.Ground.Names2Prog
import Derived.Shelf.Slices.CompactI
import Derived.Shelf.Slices.SearchI
import Derived.Shelf.Slices.Cells
import Derived.Shelf.Slices.In.SortNone
import Derived.Shelf.SlSortCmp.Insertion
import Derived.Shelf.SlSortCmp.SiftDown1
import Derived.Shelf.SlSortCmp.HeapSort1
import Derived.Shelf.SlSortCmp.Insertion1
import Derived.Shelf.SlSortCmp.Median1
import Derived.Shelf.SlSortCmp.Pivot1
import Derived.Shelf.SlSortCmp.ReverseRange1
import Derived.Shelf.SlSortCmp.PartialInsertion1
import Derived.Shelf.SlSortCmp.PartitionEqual1
import Derived.Shelf.SlSortCmp.Partition1
import Derived.Shelf.SlSortCmp.Pdq1
import Derived.Shelf.SlSortCmp.Whole1
import Derived.Test.YtodafdoninblmaaGreatProg
namespace Go.Proofs.YtodafdoninblmaaGreat.Eng
open Go Go.RowKit
structure Enc{α:Type}(sz:Nat)(enc:α->AV)(val:α->List Value):Prop where
 len:∀x,(enc x).cells.length=sz
 vlen:∀x,(val x).length=sz
 one:∀x,∀a∈(enc x).cells,a.one=true
 vone:∀x,∀v∈val x,v.oneCell'=true
 rd:∀(w:World) (S:Nat->Nat->Prop) (T:Tag->Nat->Value->Prop) x (j:Nat) (a:AV) (u:Value),(enc x).cells[j]?=some a->(val x)[j]?=some u->Rd w S T a u
 inv:∀(w:World) (S:Nat->Nat->Prop) (T:Tag->Nat->Value->Prop) x (j:Nat) (a:AV) (u v:Value),(enc x).cells[j]?=some a->(val x)[j]?=some u->Rd w S T a v->v=u
theorem Enc.flen{α:Type}{sz:Nat}{enc:α->AV}{val:α->List Value}(E:Enc sz enc val)(zs:List α):(zs.flatMap val).length=zs.length*sz:=by
 induction zs with
 |nil=>simp
 |cons x l ih=>simp only[ya,yU,ih,E.vlen,yT,Nat.succ_mul];omega
theorem Enc.elen{α:Type}{sz:Nat}{enc:α->AV}{val:α->List Value}(E:Enc sz enc val)(zs:List α):(flat (zs.map enc)).length=zs.length*sz:=by
 induction zs with
 |nil=>simp[flat]
 |cons x l ih=>simp only[flat,List.map_cons,ya,yU,yT,Nat.succ_mul]at ih ⊢;rw[ih,E.len];omega
theorem Enc.pair{α:Type}{sz:Nat}{enc:α->AV}{val:α->List Value}(E:Enc sz enc val){zs:List α}:∀{j:Nat} {a:AV} {u:Value},(flat (zs.map enc))[j]?=some a->(zs.flatMap val)[j]?=some u->∃(x:α) (i:Nat),(enc x).cells[i]?=some a/\(val x)[i]?=some u:=by
 induction zs with
 |nil=>intro j a u h;simp[flat]at h
 |cons x l ih =>
  intro j a u h1 h2
  simp only[flat,List.map_cons,ya]at ih h1 h2
  by_cases hj:j<sz
  .rw[yK (by rw[E.len];exact hj)]at h1
   rw[yK (by rw[E.vlen];exact hj)]at h2
   exact⟨x,j,h1,h2⟩
  .rw[yS (by rw[E.len];omega),E.len]at h1
   rw[yS (by rw[E.vlen];omega),E.vlen]at h2
   exact ih h1 h2
theorem Enc.flat_inv{α:Type}{sz:Nat}{enc:α->AV}{val:α->List Value}(E:Enc sz enc val){zs:List α}{w:World}{S:Nat->Nat->Prop}{T:Tag->Nat->Value->Prop}{j:Nat}{a:AV}{u v:Value}(h1:(flat (zs.map enc))[j]?=some a)(h2:(zs.flatMap val)[j]?=some u)(h:Rd w S T a v):v=u:=by
 obtain⟨x,i,q1,q2⟩:=E.pair h1 h2
 exact E.inv w S T x i a u v q1 q2 h
theorem Q1m{α:Type}{sz:Nat}{enc:α->AV}{val:α->List Value}(E:Enc sz enc val){w:World}{S:Nat->Nat->Prop}{T:Tag->Nat->Value->Prop}{zs:List α}{b cap:Nat}{cur:Array Value}{ty:TypeId}(h1:w.heap[b]?=some (.cells cur ty (0,0)))(h2:zs.length<=cap)(h3:cap<=maxLen)
  (h4:cur.size=cap*sz) (h5:cur.toList.take (zs.length*sz)=zs.flatMap val):Wt w S T ⟨sz,zs.map enc,false⟩ (.slice (some ⟨b,0,none⟩) zs.length cap):=by
 refine⟨zs.flatMap val,ty,?_,fun e he=>?_,fun j a u ha hu=>?_⟩
 .simp only[List.length_map]
  exact⟨E.flen zs,.inr ⟨b,cap,cur,rfl,Nat.zero_le _,h1,h2,h3,h4,h5⟩⟩
 .obtain⟨x,_,rfl⟩:=yY he;exact E.len x
 .obtain⟨x,i,q1,q2⟩:=E.pair ha hu
  exact⟨E.one x a (yE q1),E.vone x u (yE q2),E.rd _ _ _ x i a u q1 q2⟩
def RowX{α:Type}(P:Program)(f:FuncId)(sz:Nat)(enc:α->AV)(val:α->List Value)(xa:List AV)(zs zs':List α)(ret:Bool):Prop :=
 ∀(w:World) (g:Gh) (n0:Nat) (us:List Value),Heap w g (hSt n0 [] [some ⟨sz,zs.map enc,false⟩])->us.length=xa.length ->
  (∀(i:Nat) (a:AV) (v:Value),xa[i]?=some a->us[i]?=some v->Gv w g (hSt n0 [] [some ⟨sz,zs.map enc,false⟩]) a v) ->
 (zs=[]->Calls P f (.slice none 0 0::us).toArray w fun e w'=>e=.returned (if ret then .slice none 0 0 else .tuple #[])/\w'=w) /\
 ∀(b cap:Nat) (cur:Array Value) (ty:TypeId),w.heap[b]?=some (.cells cur ty (0,0))->zs.length<=cap->cap<=maxLen->cur.size=cap*sz->cur.toList.take (zs.length*sz)=zs.flatMap val->(∀o,¬ g.S b o) ->
  Calls P f (.slice (some ⟨b,0,none⟩) zs.length cap::us).toArray w fun e w'=>e=.returned (if ret then .slice (some ⟨b,0,none⟩) zs'.length cap else .tuple #[]) /\
   ∃cur':Array Value,w'.heap[b]?=some (.cells cur' ty (0,0))/\cur'.size=cap*sz/\cur'.toList.take (zs'.length*sz)=zs'.flatMap val/\zs'.length<=cap /\
    w'.os=w.os/\w'.tape=w.tape/\w'.output=w.output/\w.heap.size<=w'.heap.size/\∀k,k<w.heap.size->k≠b->w'.heap[k]?=w.heap[k]?
theorem Y1h{α:Type}{sz:Nat}{enc:α->AV}{val:α->List Value}(E:Enc sz enc val){P:Program}{f:FuncId}{zs zs':List α}{ret:Bool}{xa:List AV}(h0:zs=[]->zs'=[])(hr:ret=false->zs'.length=zs.length)(h:RowX P f sz enc val xa zs zs' ret):L0c P f sz (zs.map enc) xa ret (zs'.map enc):=by
 intro n0 w g vs H hN hl hvs
 match vs,hl with
 |v::us,hl =>
 obtain⟨hnil,hblk⟩:=h w g n0 us H (by simpa using hl) fun i a u ha hu=>hvs (i+1) a u (by simpa using ha) (by simpa using hu)
 have hv:v=g.rv 0:=by
  have q:=hvs 0 _ v rfl rfl
  exact q.sref_inv (by rfl)
 subst hv
 have hrow:=H.rws 0 ⟨sz,zs.map enc,false⟩ rfl
 have hrn:=H.rwn 0 ⟨sz,zs.map enc,false⟩ rfl
 obtain⟨xs,ty,hown,_,hc⟩:=hrow
 have hzl:(zs.map enc).length=zs.length:=by simp
 have fin:∀(v':Value) (w':World) (e:Ending),e=.returned (if ret then v' else .tuple #[])->(ret=false->v'=g.rv 0)->v'.ownBlock=(g.rv 0).ownBlock->v'.oneCell'=true->Wt w' g.S g.T ⟨sz,zs'.map enc,false⟩ v'->w'.os=w.os->w'.tape=w.tape->w'.output=w.output->w.heap.size<=w'.heap.size ->
   (∀k,k<w.heap.size->(g.rv 0).ownBlock≠some k->w'.heap[k]?=w.heap[k]?) ->
   ∃v,e=.returned v/\Kept (OwnB g 0 1) w w'/\∃n1 res bout upd new,n0<=n1/\(bout=[]/\(match ret with|true=>res=.sref 1/\upd=[none]/\new=[⟨sz,zs'.map enc,false⟩]|false=>res=.tup []/\upd=[some (zs'.map enc)]/\new=[])) /\
   bout.map List.length=([]:List (List AV)).map List.length/\upd.length=1/\∃g':Gh,(∀b o,g'.S b o->(g.S b o\/w.heap.size<=b\/OwnB g 0 1 b)/\(w.heap.size<=b\/OwnB g 0 1 b->UnfB w' b))/\(∀b,g'.N b->g.N b) /\
   (∀i,i<0->g'.bb i=g.bb i)/\(∀i es,upd[i]?=some (some es)->g'.rv i=g.rv i)/\Heap w' g' (hSt n1 bout (W3 [⟨sz,zs.map enc,false⟩] upd new)) /\
   (∀(j:Nat) (r:Row),new[j]?=some r->∀b,(g'.rv (1+j)).ownBlock=some b->w.heap.size<=b\/OwnB g 0 1 b) /\
   (∀i,i<n0->g'.ov i=g.ov i)/\(∀i D,n0<=i->g'.ov i=some D->∀b,D b->w.heap.size<=b\/OwnB g 0 1 b) /\
   Gv w' g' (hSt n1 bout (W3 [⟨sz,zs.map enc,false⟩] upd new)) res v:=by
  intro v' w' e he hv' hb' h1 hro q1 q2 q3 q4 q5
  have hownB:∀b,g.own b->b<w.heap.size/\(g.rv 0).ownBlock≠some b:=fun b hb=>⟨H.ow.size hb,fun q=>H.ow.rw 0 _ rfl b q hb⟩
  have noU:∀b o,g.S b o->(g.S b o\/w.heap.size<=b\/OwnB g 0 1 b)/\(w.heap.size<=b\/OwnB g 0 1 b->UnfB w' b):=fun b o h=>⟨.inl h,fun q=>by
   rcases q with q|⟨i,hi,_⟩|⟨i,hi,e⟩
   .exact absurd (H.sw b o h) (Nat.not_lt.2 q)
   .omega
   .have:i=0:=by omega
    subst this
    exact absurd h ((hrn.2 b e).2 o)⟩
  have hK:Kept (OwnB g 0 1) w w':=⟨q1,q2,q3,q4,fun k hk hno=>q5 k hk fun q=>hno (.inr ⟨0,by omega,q⟩)⟩
  cases ret with
  |false =>
   have hv':=hv' rfl
   subst hv'
   refine⟨.tuple #[],by simpa using he,hK,n0,.tup [],[],[some (zs'.map enc)],[],yV _,⟨rfl,rfl,rfl,rfl⟩,rfl,rfl,g,noU,fun b h=>h,fun i hi=>by omega,fun i es _=>rfl,?_,fun j r h=>by simp at h,fun _ _=>rfl,
    fun i D hi ho=>fun _ _=>absurd (H.ow.lt i D ho) (by simp only[hSt];omega),.tup [] [] rfl fun i a v h=>by simp at h⟩
   have hrw:∀k r,(hSt n0 [] (W3 [⟨sz,zs.map enc,false⟩] [some (zs'.map enc)] [])).rw k=some r->k=0/\r=⟨sz,zs'.map enc,false⟩:=by
    intro k r hk
    match k with
    |0=>simp[hSt,W3]at hk;exact⟨rfl,hk.symm⟩
    |k+1=>simp[hSt,W3]at hk
   refine⟨fun k cs h=>by simp[hSt]at h,fun k cs h=>by simp[hSt]at h,fun k r hk=>?_,fun k r hk=>?_,fun k k' cs cs' h=>by simp[hSt]at h,fun k k' cs r h=>by simp[hSt]at h,fun k k' r r' hk hk' hne=>?_,fun b o h=>Nat.lt_of_lt_of_le (H.sw b o h) q4,?_⟩
   .obtain⟨rfl,rfl⟩:=hrw k r hk;exact hro
   .obtain⟨rfl,rfl⟩:=hrw k r hk;exact⟨rfl,hrn.2⟩
   .obtain⟨rfl,_⟩:=hrw k r hk;obtain⟨rfl,_⟩:=hrw k' r' hk';exact absurd rfl hne
   .refine H.ow.turn rfl (fun _ h=>h) (yV _) (fun b hb=>q5 b (hownB b hb).1 (hownB b hb).2) (fun k cs h=>by simp[hSt]at h) fun k r hk b hb=>?_
    obtain⟨rfl,_⟩:=hrw k r hk
    exact H.ow.rw 0 _ rfl b hb
  |true =>
   refine⟨v',by simpa using he,hK,n0,.sref 1,[],[none],[⟨sz,zs'.map enc,false⟩],yV _,⟨rfl,rfl,rfl,rfl⟩,rfl,rfl,{ g with rv:=fun i=>if i=1 then v' else g.rv i },noU,fun b h=>h,fun i hi=>by omega,fun i es h=>?_,?_,fun j r h b hb=>?_,fun _ _=>rfl,
    fun i D hi ho=>fun _ _=>absurd (H.ow.lt i D ho) (by simp only[hSt];omega),.sref 1 v' h1 fun r hr=>by simp⟩
   .match i with
    |0=>simp at h
    |i+1=>simp at h
   .have hrw:∀k r,(hSt n0 [] (W3 [⟨sz,zs.map enc,false⟩] [none] [⟨sz,zs'.map enc,false⟩])).rw k=some r->k=1/\r=⟨sz,zs'.map enc,false⟩:=by
     intro k r hk
     match k with
     |0=>simp[hSt,W3]at hk
     |1=>simp[hSt,W3]at hk;exact⟨rfl,hk.symm⟩
     |k+2=>simp[hSt,W3]at hk
    have hT:({ g with rv:=fun i=>if i=1 then v' else g.rv i }:Gh).T=g.T:=Gh.T_eq rfl rfl
    refine⟨fun k cs h=>by simp[hSt]at h,fun k cs h=>by simp[hSt]at h,fun k r hk=>?_,fun k r hk=>?_,fun k k' cs cs' h=>by simp[hSt]at h,fun k k' cs r h=>by simp[hSt]at h,fun k k' r r' hk hk' hne=>?_,fun b o h=>Nat.lt_of_lt_of_le (H.sw b o h) q4,?_⟩
    .obtain⟨rfl,rfl⟩:=hrw k r hk
     rw[hT];exact hro
    .obtain⟨rfl,rfl⟩:=hrw k r hk
     refine⟨rfl,fun b hb=>hrn.2 b ?_⟩
     simp only[yb]at hb
     rw[← hb',hb]
    .obtain⟨rfl,_⟩:=hrw k r hk;obtain⟨rfl,_⟩:=hrw k' r' hk';exact absurd rfl hne
    .refine H.ow.turn rfl (fun _ h=>h) (yV _) (fun b hb=>q5 b (hownB b hb).1 (hownB b hb).2) (fun k cs h=>by simp[hSt]at h) fun k r hk b hb=>?_
     obtain⟨rfl,_⟩:=hrw k r hk
     simp only[yb]at hb
     exact H.ow.rw 0 _ rfl b (by rw[← hb',hb])
   .match j with
    |0 =>
     simp only[Nat.add_zero,yb]at hb
     exact .inr (.inr ⟨0,by omega,by rw[← hb',hb]⟩)
    |j+1=>simp at h
 rcases hown.2 with⟨hv,hn⟩|⟨b,cap,cur,hv,_,hb,hnc,hcm,hcs,htk⟩
 .have hz:zs=[]:=by
   rw[hzl]at hn
   exact List.eq_nil_of_length_eq_zero hn
  subst hz
  have hz':=h0 rfl
  subst hz'
  have:=hnil rfl
  rw[← hv]at this
  refine this.mono fun e w' hw=>?_
  obtain⟨he,rfl⟩:=hw
  refine fin (g.rv 0) w' e (by rw[he]) (fun _=>rfl) rfl (by rw[hv];rfl) ?_ rfl rfl rfl (yV _) fun _ _ _=>rfl
  exact⟨xs,ty,hown,fun e he=>by simp at he,fun j a u ha=>by simp[flat]at ha⟩
 .rw[hzl]at hv hnc
  rw[hzl]at htk
  have hxs:xs=zs.flatMap val:=by
   have hxl:xs.length=zs.length*sz:=by rw[hown.1,hzl]
   have hvl:(zs.flatMap val).length=zs.length*sz:=E.flen zs
   apply List.ext_getElem (by rw[hxl,hvl])
   intro j h1 h2
   have hfl:(flat (zs.map enc)).length=zs.length*sz:=E.elen zs
   have hj:j<(flat (zs.map enc)).length:=by omega
   have q:=(hc j _ xs[j] (yA hj) (yA h1)).2.2
   exact E.flat_inv (yA hj) (yA h2) q
  have:=hblk b cap cur ty hb hnc hcm hcs (by rw[htk,hxs]) (hrn.2 b (by rw[hv];rfl)).2
  rw[← hv]at this
  refine this.mono fun e w' hw=>?_
  obtain⟨he,cur',c1,c2,c3,c4,q1,q2,q3,q4,q5⟩:=hw
  have hrob:=Q1m E (S:=g.S) (T:=g.T) c1 c4 hcm c2 c3
  refine fin (.slice (some ⟨b,0,none⟩) zs'.length cap) w' e he (fun hr'=>by rw[hv,hr hr']) (by rw[hv];rfl) rfl hrob q1 q2 q3 q4 fun k hk hne=>q5 k hk fun e=>hne (by rw[hv,e];rfl)
def i64s(zs:List Int):List AV:=zs.map fun n=>.int .i64 n
def i64v(zs:List Int):List Value:=zs.map fun n=>.int .i64 n
theorem O1v(zs:List Int):flat (i64s zs)=i64s zs:=by
 induction zs with
 |nil=>rfl
 |cons n l ih=>simp only[i64s,flat,List.map_cons,ya,AV.cells]at ih ⊢;rw[ih];rfl
theorem J09(zs:List Int):noOL (i64s zs):=Q7.2 fun a ha=>by
 obtain⟨n,_,rfl⟩:=yY ha
 trivial
def M1M(P:Program)(f:FuncId)(zs zs':List Int)(ret:Bool):Prop :=
 (∀(w:World),Calls P f #[.slice none 0 0] w fun e w'=>e=.returned (if ret then .slice none 0 0 else .tuple #[])/\w'=w) /\
 ∀(w:World) (b cap:Nat) (cur:Array Value) (ty:TypeId),w.heap[b]?=some (.cells cur ty (0,0))->zs.length<=cap->cap<=maxLen->cur.size=cap->cur.toList.take zs.length=i64v zs ->
  Calls P f #[.slice (some ⟨b,0,none⟩) zs.length cap] w fun e w'=>e=.returned (if ret then .slice (some ⟨b,0,none⟩) zs'.length cap else .tuple #[]) /\
   ∃cur':Array Value,w'.heap[b]?=some (.cells cur' ty (0,0))/\cur'.size=cap/\cur'.toList.take zs'.length=i64v zs'/\zs'.length<=cap /\
    w'.os=w.os/\w'.tape=w.tape/\w'.output=w.output/\w.heap.size<=w'.heap.size/\∀k,k<w.heap.size->k≠b->w'.heap[k]?=w.heap[k]?
theorem Y1v:Enc 1 (fun n:Int=>AV.int .i64 n) (fun n=>[Value.int .i64 n]):=by
 have key:∀(x:Int) (j:Nat) (a:AV) (u:Value),(AV.int .i64 x).cells[j]?=some a->[Value.int .i64 x][j]?=some u->a=.int .i64 x/\u=.int .i64 x:=by
  intro x j a u h1 h2
  match j with
  |0=>exact⟨(Option.some.inj h1).symm,(Option.some.inj h2).symm⟩
  |j+1=>simp at h2
 refine⟨fun x=>rfl,fun x=>rfl,fun x a ha=>?_,fun x v hv=>?_,fun w S T x j a u h1 h2=>?_,fun w S T x j a u v h1 h2 h=>?_⟩
 .rw[List.mem_singleton.1 ha];rfl
 .rw[List.mem_singleton.1 hv];rfl
 .obtain⟨rfl,rfl⟩:=key x j a u h1 h2
  exact .int _ _
 .obtain⟨rfl,rfl⟩:=key x j a u h1 h2
  cases h;rfl
theorem O0j(zs:List Int):zs.flatMap (fun n=>[Value.int .i64 n])=i64v zs:=by
 induction zs with
 |nil=>rfl
 |cons n l ih=>rw[ya,ih];rfl
theorem Q0B{P:Program}{f:FuncId}{zs zs':List Int}{ret:Bool}(h0:zs=[]->zs'=[])(hr:ret=false->zs'.length=zs.length)(h:M1M P f zs zs' ret):L0c P f 1 (i64s zs) [] ret (i64s zs'):=by
 refine Y1h Y1v h0 hr fun w g n0 us _ hl _=>?_
 match us,hl with
 |[],_ =>
 refine⟨fun _=>h.1 w,fun b cap cur ty h1 h2 h3 h4 h5 _=>?_⟩
 have:=h.2 w b cap cur ty h1 h2 h3 (by omega) (by rw[← O0j,← h5,Nat.mul_one])
 simpa only[O0j,Nat.mul_one]using this
theorem U0n{w:World}{b cap:Nat}{cur:Array Value}{ty:TypeId}{zs:List Int}(h1:w.heap[b]?=some (.cells cur ty (0,0)))(h4:cur.size=cap)(h2:zs.length<=cap)(n:Nat)(os:Array Obj) :
  ∃cur':Array Value,(Go.Sort.grow (Go.Sort.putRow (Value.int .i64) (Go.Sort.ahead w n) b 0 zs.toArray) os).heap[b]?=some (.cells cur' ty (0,0))/\cur'.size=cap/\cur'.toList.take zs.length=i64v zs /\
   w.heap.size<=(Go.Sort.grow (Go.Sort.putRow (Value.int .i64) (Go.Sort.ahead w n) b 0 zs.toArray) os).heap.size/\∀k,k<w.heap.size->k≠b->(Go.Sort.grow (Go.Sort.putRow (Value.int .i64) (Go.Sort.ahead w n) b 0 zs.toArray) os).heap[k]?=w.heap[k]?:=by
 have hb:b<w.heap.size:=(Array.getElem?_eq_some_iff.1 h1).1
 have hg:∀k,k<w.heap.size->(Go.Sort.grow (Go.Sort.putRow (Value.int .i64) (Go.Sort.ahead w n) b 0 zs.toArray) os).heap[k]?=(w.heap.modify b (Go.Sort.onCells (Go.Sort.putCells (Value.int .i64) 0 zs.toArray)))[k]?:=by
  intro k hk
  simp only[Go.Sort.grow,Go.Sort.putRow,Go.Sort.mapBlock,Go.Sort.ahead]
  rw[Array.getElem?_append_left (by simpa using hk)]
 refine⟨Go.Sort.putCells (Value.int .i64) 0 zs.toArray cur,?_,?_,?_,?_,fun k hk hne=>?_⟩
 .rw[hg b hb,Array.getElem?_modify];simp only[yb,h1];rfl
 .simp[Go.Sort.putCells,h4]
 .apply List.ext_getElem
  .simp[Go.Sort.putCells,i64v,h4];omega
  .intro j q1 q2
   have hj:j<zs.length:=by simp[i64v]at q2;exact q2
   simp[Go.Sort.putCells,i64v,hj]
 .simp[Go.Sort.grow,Go.Sort.putRow,Go.Sort.mapBlock,Go.Sort.ahead]
 .rw[hg k hk,Array.getElem?_modify,ye (fun e=>hne e.symm)]
theorem M0I{w:World}{b:Nat}{cur:Array Value}{ty:TypeId}{zs:List Int}(h1:w.heap[b]?=some (.cells cur ty (0,0)))(h5:cur.toList.take zs.length=i64v zs):Go.Sort.Holds (Value.int .i64) w b 0 zs.toArray:=by
 intro j hj
 have hj':j<zs.length:=by simpa using hj
 refine⟨?_,frozen_of_row w b (0+j) cur ty h1⟩
 have hc:cur[j]?=some (.int .i64 zs[j]):=by
  have:=congrArg (·[j]?) h5
  simp only[i64v,yF,List.getElem?_take,hj',yb,yA hj',Option.map_some]at this
  simpa using this
 simp only[World.cell?,h1,Option.isSome_none,yG,yc,Nat.zero_add]
 rw[hc]
 simp[hj']
end Go.Proofs.YtodafdoninblmaaGreat.Eng
namespace Go.Proofs
open Go.Shelf
def Tryz.lays189_ren:Go.Shelf.Ren:=⟨fun|189=>154|125=>185|257=>227|128=>245|129=>246|294=>261|295=>262|296=>263|297=>264|298=>265|299=>266|216=>267|300=>268|301=>269|328=>285|329=>274|330=>275|331=>286|332=>287|215=>288|343=>299|n=>n,fun|28=>22|3=>3|46=>197|0=>0|51=>246|53=>248|4=>4|183=>240|182=>239|131=>176|5=>5|9=>9|218=>265|222=>269|228=>281|229=>282|n=>n,fun|n=>n⟩
theorem Tryz.lays189:Go.Proofs.Lays.n189 Tryz.prog Tryz.lays189_ren:={
 mixed:=by kernel_rfl
 f125:=Tryz.func185.trans (congrArg some (by kernel_rfl))
 f128:=Tryz.func245.trans (congrArg some (by kernel_rfl))
 f129:=Tryz.func246.trans (congrArg some (by kernel_rfl))
 f189:=Tryz.func154.trans (congrArg some (by kernel_rfl))
 f215:=Tryz.func288.trans (congrArg some (by kernel_rfl))
 f216:=Tryz.func267.trans (congrArg some (by kernel_rfl))
 f257:=Tryz.func227.trans (congrArg some (by kernel_rfl))
 f294:=Tryz.func261.trans (congrArg some (by kernel_rfl))
 f295:=Tryz.func262.trans (congrArg some (by kernel_rfl))
 f296:=Tryz.func263.trans (congrArg some (by kernel_rfl))
 f297:=Tryz.func264.trans (congrArg some (by kernel_rfl))
 f298:=Tryz.func265.trans (congrArg some (by kernel_rfl))
 f299:=Tryz.func266.trans (congrArg some (by kernel_rfl))
 f300:=Tryz.func268.trans (congrArg some (by kernel_rfl))
 f301:=Tryz.func269.trans (congrArg some (by kernel_rfl))
 f328:=Tryz.func285.trans (congrArg some (by kernel_rfl))
 f329:=Tryz.func274.trans (congrArg some (by kernel_rfl))
 f330:=Tryz.func275.trans (congrArg some (by kernel_rfl))
 f331:=Tryz.func286.trans (congrArg some (by kernel_rfl))
 f332:=Tryz.func287.trans (congrArg some (by kernel_rfl))
 f343:=Tryz.func299.trans (congrArg some (by kernel_rfl))
 t0:=Tryz.underlying0
 a0:=Tryz.isAgg0
 z0:=Tryz.sizeOf0
 v0:=Tryz.zeroValue0
 t3:=Tryz.underlying3
 a3:=Tryz.isAgg3
 z3:=Tryz.sizeOf3
 v3:=Tryz.zeroValue3
 t4:=Tryz.underlying4
 a4:=Tryz.isAgg4
 z4:=Tryz.sizeOf4
 v4:=Tryz.zeroValue4
 t5:=Tryz.underlying5
 a5:=Tryz.isAgg5
 z5:=Tryz.sizeOf5
 v5:=Tryz.zeroValue5
 t9:=Tryz.underlying9
 a9:=Tryz.isAgg9
 z9:=Tryz.sizeOf9
 v9:=Tryz.zeroValue9
 t28:=Tryz.underlying22
 a28:=Tryz.isAgg22
 z28:=Tryz.sizeOf22
 v28:=Tryz.zeroValue22
 t46:=Tryz.underlying197
 a46:=Tryz.isAgg197
 z46:=Tryz.sizeOf197
 v46:=Tryz.zeroValue197
 t51:=Tryz.underlying246
 a51:=Tryz.isAgg246
 z51:=Tryz.sizeOf246
 v51:=Tryz.zeroValue246
 t53:=Tryz.underlying248
 a53:=Tryz.isAgg248
 z53:=Tryz.sizeOf248
 v53:=Tryz.zeroValue248
 t131:=Tryz.underlying176
 a131:=Tryz.isAgg176
 z131:=Tryz.sizeOf176
 v131:=Tryz.zeroValue176
 t182:=Tryz.underlying239
 a182:=Tryz.isAgg239
 z182:=Tryz.sizeOf239
 v182:=Tryz.zeroValue239
 t183:=Tryz.underlying240
 a183:=Tryz.isAgg240
 z183:=Tryz.sizeOf240
 v183:=Tryz.zeroValue240
 t218:=Tryz.underlying265
 a218:=Tryz.isAgg265
 z218:=Tryz.sizeOf265
 v218:=Tryz.zeroValue265
 t222:=Tryz.underlying269
 a222:=Tryz.isAgg269
 z222:=Tryz.sizeOf269
 v222:=Tryz.zeroValue269
 t228:=Tryz.underlying281
 a228:=Tryz.isAgg281
 z228:=Tryz.sizeOf281
 v228:=Tryz.zeroValue281
 t229:=Tryz.underlying282
 a229:=Tryz.isAgg282
 z229:=Tryz.sizeOf282
 v229:=Tryz.zeroValue282 }
open Go.Sort Go.RowKit in
theorem Tryz.slices_Sort_int(blk off cap:Nat)(zs:List Int)(w:World)(hH:Holds (Value.int .i64) w blk off zs.toArray)(hblk:blk<w.heap.size)(hsz:zs.length<4611686018427387904) :
  Calls Tryz.prog 154 #[.slice (some ⟨blk,off,none⟩) zs.length cap] w fun e w' =>
   e=.returned (.tuple #[])/\∃n os,w'=grow (putRow (Value.int .i64) (Sort.ahead w n) blk off (zs.mergeSort fun x y=>decide (x<=y)).toArray) os:=Any.slices_Sort_int Tryz.lays189 blk off cap zs w hH hblk hsz
def Tryz.laysNm220_ren:Go.Shelf.Ren:=⟨fun|20=>155|n=>n,fun|22=>22|3=>3|4=>4|0=>0|n=>n,fun|n=>n⟩
theorem Tryz.laysNm220:Go.Proofs.Lays2.n20 Tryz.prog Tryz.laysNm220_ren:={
 mixed:=by kernel_rfl
 f20:=Tryz.func155.trans (congrArg some (by kernel_rfl))
 t0:=Tryz.underlying0
 a0:=Tryz.isAgg0
 z0:=Tryz.sizeOf0
 v0:=Tryz.zeroValue0
 t3:=Tryz.underlying3
 a3:=Tryz.isAgg3
 z3:=Tryz.sizeOf3
 v3:=Tryz.zeroValue3
 t4:=Tryz.underlying4
 a4:=Tryz.isAgg4
 z4:=Tryz.sizeOf4
 v4:=Tryz.zeroValue4
 t22:=Tryz.underlying22
 a22:=Tryz.isAgg22
 z22:=Tryz.sizeOf22
 v22:=Tryz.zeroValue22
 i3:=by kernel_rfl }
open Go.RowKit Go.Lib Go.Sort in
theorem Tryz.slices_Compact_int(blk off cap:Nat)(zs:List Int)(w:World)(hH:Holds (Value.int .i64) w blk off zs.toArray)(hsz:zs.length<=9223372036854775807)(hcap:zs.length<=cap) :
  Calls Tryz.prog 155 #[.slice (some ⟨blk,off,none⟩) zs.length cap] w fun e w'=>e=.returned (.slice (some ⟨blk,off,none⟩) (Lib.compact zs).length cap)/\∃q,w'=putRow (Value.int .i64) (Sort.ahead w q) blk off (Lib.compact zs++List.replicate (zs.length-(Lib.compact zs).length) 0).toArray:=Any.slices_Compact_int Tryz.laysNm220 blk off cap zs w hH hsz hcap
open Go.RowKit Go.Lib Go.Sort in
theorem Tryz.slices_Compact_int_empty(a:Option Addr)(cap:Nat)(w:World) :
  Calls Tryz.prog 155 #[.slice a 0 cap] w fun e w'=>e=.returned (.slice a 0 cap)/\w'=w:=Any.slices_Compact_int_empty Tryz.laysNm220 a cap w
open Go.RowKit Go.Sort in
theorem Tryz.slices_Sort_int_none(p:Option Addr)(cap:Nat)(w:World) :
  Calls Tryz.prog 154 #[.slice p 0 cap] w fun e w'=>e=.returned (.tuple #[])/\w'=w:=Any.slices_Sort_int_none Tryz.lays189 p cap w
def Tryz.laysSlF6_f231_ren:Go.Shelf.Ren:=⟨fun|6=>231|15=>185|14=>270|28=>245|29=>246|20=>289|21=>290|22=>291|23=>292|24=>293|25=>294|26=>295|27=>296|46=>300|47=>274|48=>275|49=>301|50=>302|57=>311|n=>n,fun|22=>22|24=>3|25=>231|3=>3|39=>197|0=>0|53=>246|55=>248|4=>4|46=>240|45=>239|50=>176|5=>5|9=>9|66=>265|70=>269|76=>281|77=>282|n=>n,fun|n=>n⟩
def Tryz.sortFI_ren:Go.Shelf.Ren:=⟨fun|6=>231|15=>185|14=>270|28=>245|29=>246|20=>289|21=>290|22=>291|23=>292|24=>293|25=>294|26=>295|27=>296|46=>300|47=>274|48=>275|49=>301|50=>302|57=>311|n=>n,fun|22=>22|24=>3|25=>231|3=>3|39=>197|0=>0|53=>246|55=>248|4=>4|46=>240|45=>239|50=>176|5=>5|9=>9|66=>265|70=>269|76=>281|77=>282|n=>n,fun|n=>n⟩
theorem Tryz.sortFI:Go.Proofs.SlLaysF.n6 Tryz.prog Tryz.sortFI_ren:={
 mixed:=by kernel_rfl
 f6:=⟨Tryz.f231.name,by decide,Tryz.func231.trans (congrArg some (by kernel_rfl))⟩
 f14:=⟨Tryz.f270.name,by decide,Tryz.func270.trans (congrArg some (by kernel_rfl))⟩
 f15:=Tryz.func185.trans (congrArg some (by kernel_rfl))
 f20:=⟨Tryz.f289.name,by decide,Tryz.func289.trans (congrArg some (by kernel_rfl))⟩
 f21:=⟨Tryz.f290.name,by decide,Tryz.func290.trans (congrArg some (by kernel_rfl))⟩
 f22:=⟨Tryz.f291.name,by decide,Tryz.func291.trans (congrArg some (by kernel_rfl))⟩
 f23:=⟨Tryz.f292.name,by decide,Tryz.func292.trans (congrArg some (by kernel_rfl))⟩
 f24:=⟨Tryz.f293.name,by decide,Tryz.func293.trans (congrArg some (by kernel_rfl))⟩
 f25:=⟨Tryz.f294.name,by decide,Tryz.func294.trans (congrArg some (by kernel_rfl))⟩
 f26:=⟨Tryz.f295.name,by decide,Tryz.func295.trans (congrArg some (by kernel_rfl))⟩
 f27:=⟨Tryz.f296.name,by decide,Tryz.func296.trans (congrArg some (by kernel_rfl))⟩
 f28:=Tryz.func245.trans (congrArg some (by kernel_rfl))
 f29:=Tryz.func246.trans (congrArg some (by kernel_rfl))
 f46:=⟨Tryz.f300.name,by decide,Tryz.func300.trans (congrArg some (by kernel_rfl))⟩
 f47:=Tryz.func274.trans (congrArg some (by kernel_rfl))
 f48:=Tryz.func275.trans (congrArg some (by kernel_rfl))
 f49:=⟨Tryz.f301.name,by decide,Tryz.func301.trans (congrArg some (by kernel_rfl))⟩
 f50:=⟨Tryz.f302.name,by decide,Tryz.func302.trans (congrArg some (by kernel_rfl))⟩
 f57:=⟨Tryz.f311.name,by decide,Tryz.func311.trans (congrArg some (by kernel_rfl))⟩
 t0:=Tryz.underlying0
 a0:=Tryz.isAgg0
 z0:=Tryz.sizeOf0
 v0:=Tryz.zeroValue0
 t3:=Tryz.underlying3
 a3:=Tryz.isAgg3
 z3:=Tryz.sizeOf3
 v3:=Tryz.zeroValue3
 t4:=Tryz.underlying4
 a4:=Tryz.isAgg4
 z4:=Tryz.sizeOf4
 v4:=Tryz.zeroValue4
 t5:=Tryz.underlying5
 a5:=Tryz.isAgg5
 z5:=Tryz.sizeOf5
 v5:=Tryz.zeroValue5
 t9:=Tryz.underlying9
 a9:=Tryz.isAgg9
 z9:=Tryz.sizeOf9
 v9:=Tryz.zeroValue9
 t22:=Tryz.underlying22
 a22:=Tryz.isAgg22
 z22:=Tryz.sizeOf22
 v22:=Tryz.zeroValue22
 a24:=Tryz.isAgg3
 z24:=Tryz.sizeOf3
 t25:=Tryz.underlying231
 a25:=Tryz.isAgg231
 z25:=Tryz.sizeOf231
 v25:=Tryz.zeroValue231
 t39:=Tryz.underlying197
 a39:=Tryz.isAgg197
 z39:=Tryz.sizeOf197
 v39:=Tryz.zeroValue197
 t45:=Tryz.underlying239
 a45:=Tryz.isAgg239
 z45:=Tryz.sizeOf239
 v45:=Tryz.zeroValue239
 t46:=Tryz.underlying240
 a46:=Tryz.isAgg240
 z46:=Tryz.sizeOf240
 v46:=Tryz.zeroValue240
 t50:=Tryz.underlying176
 a50:=Tryz.isAgg176
 z50:=Tryz.sizeOf176
 v50:=Tryz.zeroValue176
 t53:=Tryz.underlying246
 a53:=Tryz.isAgg246
 z53:=Tryz.sizeOf246
 v53:=Tryz.zeroValue246
 t55:=Tryz.underlying248
 a55:=Tryz.isAgg248
 z55:=Tryz.sizeOf248
 v55:=Tryz.zeroValue248
 t66:=Tryz.underlying265
 a66:=Tryz.isAgg265
 z66:=Tryz.sizeOf265
 v66:=Tryz.zeroValue265
 t70:=Tryz.underlying269
 a70:=Tryz.isAgg269
 z70:=Tryz.sizeOf269
 v70:=Tryz.zeroValue269
 t76:=Tryz.underlying281
 a76:=Tryz.isAgg281
 z76:=Tryz.sizeOf281
 v76:=Tryz.zeroValue281
 t77:=Tryz.underlying282
 a77:=Tryz.isAgg282
 z77:=Tryz.sizeOf282
 v77:=Tryz.zeroValue282 }
def Tryz.sortFR_ren:Go.Shelf.Ren:=⟨fun|6=>104|15=>185|14=>184|28=>245|29=>246|20=>237|21=>238|22=>239|23=>240|24=>241|25=>242|26=>243|27=>244|46=>273|47=>274|48=>275|49=>276|50=>277|57=>297|n=>n,fun|22=>40|24=>126|25=>133|3=>3|39=>197|0=>0|53=>246|55=>248|4=>4|46=>240|45=>239|50=>176|5=>5|9=>9|66=>265|70=>269|76=>281|77=>282|n=>n,fun|n=>n⟩
theorem Tryz.sortFR:Go.Proofs.SlLaysF0.n6 Tryz.prog Tryz.sortFR_ren:={
 mixed:=by kernel_rfl
 f6:=⟨Tryz.f104.name,by decide,Tryz.func104.trans (congrArg some (by kernel_rfl))⟩
 f14:=⟨Tryz.f184.name,by decide,Tryz.func184.trans (congrArg some (by kernel_rfl))⟩
 f15:=Tryz.func185.trans (congrArg some (by kernel_rfl))
 f20:=⟨Tryz.f237.name,by decide,Tryz.func237.trans (congrArg some (by kernel_rfl))⟩
 f21:=⟨Tryz.f238.name,by decide,Tryz.func238.trans (congrArg some (by kernel_rfl))⟩
 f22:=⟨Tryz.f239.name,by decide,Tryz.func239.trans (congrArg some (by kernel_rfl))⟩
 f23:=⟨Tryz.f240.name,by decide,Tryz.func240.trans (congrArg some (by kernel_rfl))⟩
 f24:=⟨Tryz.f241.name,by decide,Tryz.func241.trans (congrArg some (by kernel_rfl))⟩
 f25:=⟨Tryz.f242.name,by decide,Tryz.func242.trans (congrArg some (by kernel_rfl))⟩
 f26:=⟨Tryz.f243.name,by decide,Tryz.func243.trans (congrArg some (by kernel_rfl))⟩
 f27:=⟨Tryz.f244.name,by decide,Tryz.func244.trans (congrArg some (by kernel_rfl))⟩
 f28:=Tryz.func245.trans (congrArg some (by kernel_rfl))
 f29:=Tryz.func246.trans (congrArg some (by kernel_rfl))
 f46:=⟨Tryz.f273.name,by decide,Tryz.func273.trans (congrArg some (by kernel_rfl))⟩
 f47:=Tryz.func274.trans (congrArg some (by kernel_rfl))
 f48:=Tryz.func275.trans (congrArg some (by kernel_rfl))
 f49:=⟨Tryz.f276.name,by decide,Tryz.func276.trans (congrArg some (by kernel_rfl))⟩
 f50:=⟨Tryz.f277.name,by decide,Tryz.func277.trans (congrArg some (by kernel_rfl))⟩
 f57:=⟨Tryz.f297.name,by decide,Tryz.func297.trans (congrArg some (by kernel_rfl))⟩
 t0:=Tryz.underlying0
 a0:=Tryz.isAgg0
 z0:=Tryz.sizeOf0
 v0:=Tryz.zeroValue0
 t3:=Tryz.underlying3
 a3:=Tryz.isAgg3
 z3:=Tryz.sizeOf3
 v3:=Tryz.zeroValue3
 t4:=Tryz.underlying4
 a4:=Tryz.isAgg4
 z4:=Tryz.sizeOf4
 v4:=Tryz.zeroValue4
 t5:=Tryz.underlying5
 a5:=Tryz.isAgg5
 z5:=Tryz.sizeOf5
 v5:=Tryz.zeroValue5
 t9:=Tryz.underlying9
 a9:=Tryz.isAgg9
 z9:=Tryz.sizeOf9
 v9:=Tryz.zeroValue9
 t22:=Tryz.underlying40
 a22:=Tryz.isAgg40
 z22:=Tryz.sizeOf40
 v22:=Tryz.zeroValue40
 t25:=Tryz.underlying133
 a25:=Tryz.isAgg133
 z25:=Tryz.sizeOf133
 v25:=Tryz.zeroValue133
 t39:=Tryz.underlying197
 a39:=Tryz.isAgg197
 z39:=Tryz.sizeOf197
 v39:=Tryz.zeroValue197
 t45:=Tryz.underlying239
 a45:=Tryz.isAgg239
 z45:=Tryz.sizeOf239
 v45:=Tryz.zeroValue239
 t46:=Tryz.underlying240
 a46:=Tryz.isAgg240
 z46:=Tryz.sizeOf240
 v46:=Tryz.zeroValue240
 t50:=Tryz.underlying176
 a50:=Tryz.isAgg176
 z50:=Tryz.sizeOf176
 v50:=Tryz.zeroValue176
 t53:=Tryz.underlying246
 a53:=Tryz.isAgg246
 z53:=Tryz.sizeOf246
 v53:=Tryz.zeroValue246
 t55:=Tryz.underlying248
 a55:=Tryz.isAgg248
 z55:=Tryz.sizeOf248
 v55:=Tryz.zeroValue248
 t66:=Tryz.underlying265
 a66:=Tryz.isAgg265
 z66:=Tryz.sizeOf265
 v66:=Tryz.zeroValue265
 t70:=Tryz.underlying269
 a70:=Tryz.isAgg269
 z70:=Tryz.sizeOf269
 v70:=Tryz.zeroValue269
 t76:=Tryz.underlying281
 a76:=Tryz.isAgg281
 z76:=Tryz.sizeOf281
 v76:=Tryz.zeroValue281
 t77:=Tryz.underlying282
 a77:=Tryz.isAgg282
 z77:=Tryz.sizeOf282
 v77:=Tryz.zeroValue282 }
end Go.Proofs
namespace Go.Proofs.YtodafdoninblmaaGreat
open Go Go.RowKit Eng
section
def X0n(zs:List Int):List Int:=zs.mergeSort fun x y=>decide (x<=y)
def W0X(zs:List Int):Option (List Int):=if zs.length<4611686018427387904 then some (X0n zs)else none
def L5(zs:List Int):List Int:=Lib.compact zs
theorem X1c:L5 []=[]:=by simp[L5,Lib.compact,Lib.compactUpTo]
theorem V1c(zs:List Int):(L5 zs).length<=zs.length:=by
 simp only[L5,Lib.compact,Lib.compactUpTo,List.length_map]
 exact Nat.le_trans (List.length_filter_le ..) (by simp)
theorem J0A(zs:List Int):(X0n zs).length=zs.length:=by simp[X0n]
theorem Q0X{zs r:List Int}(h:W0X zs=some r):L0c Tryz.prog M4 1 (zs.map eI) [] false (r.map eI):=by
 unfold W0X at h
 split at h
 .rename_i hl
  cases h
  refine Q0B (zs:=zs) (zs':=X0n zs) (fun e=>by subst e;simp[X0n]) (fun _=>J0A zs) ⟨fun w=>?_,fun w b cap cur ty h1 h2 h3 h4 h5=>?_⟩
  .exact(Tryz.slices_Sort_int_none none 0 w).mono fun e w' h=>⟨by simp[h.1],h.2⟩
  .refine(Tryz.slices_Sort_int b 0 cap zs w (M0I h1 h5) (Array.getElem?_eq_some_iff.1 h1).1 hl).mono fun e w' h=>?_
   obtain⟨he,n,os,hw⟩:=h
   rw[hw]
   obtain⟨cur',q1,q2,q3,q4,q5⟩:=U0n (zs:=X0n zs) h1 h4 (by rw[J0A];exact h2) n os
   exact⟨by simp[he],cur',q1,q2,q3,by rw[J0A];exact h2,rfl,rfl,rfl,q4,q5⟩
 .cases h
theorem M0J(zs:List Int):L0c Tryz.prog V6 1 (zs.map eI) [] true ((L5 zs).map eI):=by
 refine Q0B (zs:=zs) (zs':=L5 zs) (fun e=>by subst e;exact X1c) (fun h=>by cases h) ⟨fun w=>?_,fun w b cap cur ty h1 h2 h3 h4 h5=>?_⟩
 .exact(Tryz.slices_Compact_int_empty none 0 w).mono fun e w' h=>⟨by simp[h.1],h.2⟩
 .refine(Tryz.slices_Compact_int b 0 cap zs w (M0I h1 h5) (by simp only[maxLen]at h3;omega) h2).mono fun e w' h=>?_
  obtain⟨he,q,hw⟩:=h
  rw[hw]
  have hcl:=V1c zs
  have e0:(Lib.compact zs++List.replicate (zs.length-(Lib.compact zs).length) 0).length=zs.length:=by
   rw[yU,List.length_replicate];unfold L5 at hcl;omega
  obtain⟨cur',q1,q2,q3,q4,q5⟩:=U0n (zs:=Lib.compact zs++List.replicate (zs.length-(Lib.compact zs).length) 0) h1 h4 (by rw[e0];exact h2) q #[]
  rw[Go.Sort.grow_empty]at q1 q4 q5
  refine⟨by simp[he,L5],cur',q1,q2,?_,by omega,rfl,rfl,rfl,q4,q5⟩
  have:=congrArg (·.take (L5 zs).length) q3
  simp only[List.take_take,i64v,← List.map_take]at this
  rw[e0,Nat.min_eq_left hcl]at this
  rw[this,i64v]
  congr 1
  exact List.take_left
section
variable{α β γ σ:Type}
theorem Wc{n:Int}(h:-9223372036854775808<=n/\n<=9223372036854775807):w64 n=n:=OB h.1 h.2
theorem Zc{n:Nat}(h:n<9223372036854775807):w64 ((n:Int)+1)=((n+1:Nat):Int):=by rw[Wc (by omega)];omega
theorem O0y{n:Nat}(h0:0<n)(h:n<=9223372036854775807):w64 ((n:Int)-1)=((n-1:Nat):Int):=by rw[Wc (by omega)];omega
theorem U2{l:List α}{i:Nat}:idx l (i:Int)=l[i]?:=by simp[idx]
theorem U0z{l:List α}{i:Int}(h0:0<=i)(h:i<l.length):∃x,idx l i=some x/\l[i.toNat]?=some x:=by
 have:i.toNat<l.length:=by omega
 exact⟨l[i.toNat],by simp[idx,h0,this],by simp[this]⟩
theorem U0{bs:Nat}{l m:List α}(h:(l.length+m.length)*bs<=140737488355328):appL bs l m=some (l++m):=by simp[appL,h]
theorem Ze{p:Prop}(h:¬ p):(false=true↔p):=by simp[h]
@[simp] theorem J1Z {c:Bool}{a b:Option α}{f:α->Option β}:(bif c then a else b).bind f=bif c then a.bind f else b.bind f:=by cases c<;>rfl
theorem W0Y{α2 β2:Type}{bd:α->Nat->β->(β->Option γ)->Option γ}{kk:β->Option γ}{bd2:α2->Nat->β2->(β2->Option γ)->Option γ}{kk2:β2->Option γ}
  (R:Nat->β->β2->Prop) {l0:List α} {m0:List α2} (hl:l0.length=m0.length)
  (h:∀i x y b c (k:β->Option γ) (k2:β2->Option γ),l0[i]?=some x->m0[i]?=some y->R i b c->(∀b' c',R (i+1) b' c'->k b'=k2 c')->bd x i b k=bd2 y i c k2)
  (hk:∀b c,R l0.length b c->kk b=kk2 c) {b:β} {c:β2} (h0:R 0 b c):rgl bd kk l0 0 b=rgl bd2 kk2 m0 0 c:=by
 have key:∀(n i:Nat) (b:β) (c:β2),l0.length-i=n->i<=l0.length->R i b c->rgl bd kk (l0.drop i) i b=rgl bd2 kk2 (m0.drop i) i c:=by
  intro n
  induction n with
  |zero =>
   intro i b c hn hi hr
   have:i=l0.length:=by omega
   subst this
   rw[List.drop_length,hl,List.drop_length]
   exact hk b c (by simpa using hr)
  |succ n ih =>
   intro i b c hn hi hr
   have h1:i<l0.length:=by omega
   have h2:i<m0.length:=by omega
   rw[List.drop_eq_getElem_cons h1,List.drop_eq_getElem_cons h2,rgl,rgl]
   exact h i _ _ b c _ _ (yA h1) (yA h2) hr fun b' c' hr'=>ih (i+1) b' c' (by omega) (by omega) hr'
 have:=key l0.length 0 b c (by simp) (Nat.zero_le _) h0
 simpa using this
theorem M0h{bd bd2:α->Nat->β->(β->Option γ)->Option γ}{kk kk2:β->Option γ}{l:List α}{b:β}
  (h:∀i x b (k:β->Option γ),l[i]?=some x->bd x i b k=bd2 x i b k) (hk:∀b,kk b=kk2 b):rgl bd kk l 0 b=rgl bd2 kk2 l 0 b :=
 W0Y (fun _ b c=>b=c) rfl (fun i x y b c k k2 hx hy hr hkk=>by
  subst hr;rw[hx]at hy;cases hy
  rw[h i x b k hx]
  congr 1
  funext b'
  exact hkk b' b' rfl) (fun b c hr=>by subst hr;exact hk b) rfl
theorem Ud{bd:α->Nat->β->(β->Option γ)->Option γ}{kk:β->Option γ}(I:Nat->β->Prop)(Q:Option γ->Prop){l0:List α}
  (h:∀i x b (k:β->Option γ),l0[i]?=some x->I i b->(∀b',I (i+1) b'->Q (k b'))->Q (bd x i b k)) (hk:∀b,I l0.length b->Q (kk b)) {b:β} (h0:I 0 b):Q (rgl bd kk l0 0 b):=by
 have key:∀(n i:Nat) (b:β),l0.length-i=n->i<=l0.length->I i b->Q (rgl bd kk (l0.drop i) i b):=by
  intro n
  induction n with
  |zero =>
   intro i b hn hi hr
   have:i=l0.length:=by omega
   subst this
   rw[List.drop_length]
   exact hk b hr
  |succ n ih =>
   intro i b hn hi hr
   have h1:i<l0.length:=by omega
   rw[List.drop_eq_getElem_cons h1,rgl]
   exact h i _ b _ (yA h1) hr fun b' hr'=>ih (i+1) b' (by omega) (by omega) hr'
 have:=key l0.length 0 b (by simp) (Nat.zero_le _) h0
 simpa using this
theorem JJ{bd:α->Nat->β->(β->Option γ)->Option γ}{kk:β->Option γ}{f:β->α->β}:∀{l:List α} {i:Nat} {b:β},(∀x∈l,∀i b k,bd x i b k=k (f b x))->rgl bd kk l i b=kk (l.foldl f b)
 |[],_,_,_=>rfl
 |x::l,i,b,h=>by
  rw[rgl,h x (yJ ..),List.foldl_cons]
  exact JJ fun y hy=>h y (yH _ hy)
theorem Mh{bd:α->Nat->Unit->(Unit->Option γ)->Option γ}{kk:Unit->Option γ}{p:α->Bool}{r:Option γ}:∀{l:List α} {i:Nat},(∀x∈l,∀i k,bd x i () k=bif p x then r else k ())->rgl bd kk l i ()=bif l.any p then r else kk ()
 |[],_,_=>rfl
 |x::l,i,h=>by
  rw[rgl,h x (yJ ..),Mh fun y hy=>h y (yH _ hy),List.any_cons]
  cases p x<;>rfl
theorem V1r{α2:Type}{bd:α->Nat->β->(β->Option γ)->Option γ}{kk:β->Option γ}{f:α2->α}:∀{l:List α2} {i:Nat} {b:β},rgl bd kk (l.map f) i b=rgl (fun x=>bd (f x)) kk l i b
 |[],_,_=>rfl
 |x::l,i,b=>by
  rw[List.map_cons,rgl,rgl]
  congr 1
  funext b'
  exact V1r
theorem Z7{bs:Nat}{bd:α->Nat->List β->(List β->Option γ)->Option γ}{kk:List β->Option γ}{p:α->Bool}{f:α->β}:∀{l:List α} {i:Nat} {acc:List β},
  (∀x∈l,∀i b k,bd x i b k=bif p x then(appL bs b [f x]).bind k else k b)->(acc.length+l.length)*bs<=140737488355328->rgl bd kk l i acc=kk (acc++(l.filter p).map f)
 |[],_,acc,_,_=>by simp[rgl]
 |x::l,i,acc,h,hb=>by
  rw[rgl,h x (yJ ..)]
  have hb1:(acc.length+1+l.length)*bs<=140737488355328:=by simpa[Nat.add_assoc,Nat.add_comm 1]using hb
  cases hp:p x with
  |true =>
   have:(acc.length+1)*bs<=(acc.length+1+l.length)*bs:=Nat.mul_le_mul_right _ (by omega)
   rw[yN,U0 (by simp;omega),bS,Z7 (fun y hy=>h y (yH _ hy)) (by simpa using hb1)]
   simp[hp]
  |false =>
   have:(acc.length+l.length)*bs<=(acc.length+1+l.length)*bs:=Nat.mul_le_mul_right _ (by omega)
   rw[yM,Z7 (fun y hy=>h y (yH _ hy)) (by omega)]
   simp[hp]
theorem Z0e{bd:β->(β->Option γ)->Option γ}(mk:Nat->σ->β){B:Nat->Nat->σ->(σ->Option γ)->Option γ}{kk:σ->Option γ}{n:Nat}
  (h1:∀i st k,i<n->bd (mk i st) k=B i i st fun st'=>k (mk (i+1) st')) (h2:∀i st k,n<=i->bd (mk i st) k=kk st):∀(fuel i:Nat) (st:σ),n-i<fuel->whl bd fuel (mk i st)=rgl B kk (List.range' i (n-i)) i st
 |0,i,st,h=>by omega
 |fuel+1,i,st,h=>by
  rw[whl]
  by_cases hi:i<n
  .rw[h1 i st _ hi,show n-i=n-(i+1)+1 by omega,List.range'_succ,rgl]
   congr 1
   funext st'
   exact Z0e mk h1 h2 fuel (i+1) st' (by omega)
  .rw[h2 i st _ (by omega),show n-i=0 by omega]
   rfl
theorem Y0e{bd:β->(β->Option γ)->Option γ}(Q:β->Option γ->Prop)(m:β->Nat)(I:β->Prop)(h:∀b (k:β->Option γ),I b->(∀b',I b'->m b'<m b->Q b' (k b'))->Q b (bd b k)):∀(fuel:Nat) (b:β),I b->m b<fuel->Q b (whl bd fuel b)
 |0,_,_,h=>by omega
 |fuel+1,b,hI,hm=>by
  rw[whl]
  exact h b _ hI fun b' hI' hlt=>Y0e Q m I h fuel b' hI' (by omega)
end
end
def Z0O:L :=
.seq (rE 2 (cB false))
 (sR [mV 3 0,.bi 4 .geq 3 (kI 0),mV 5 4,gT 5 (mV 6 0),gT 5 (.bi 7 .leq 6 (kI 1000000)),.pk 8 5 7 (cB false),mV 2 8]
 gR)
def JE(n1:Int):Option Bool :=
 some ((decide (0<=n1))&&(decide (n1<=1000000)))
theorem J0t{n1:Int}{r:Bool}(H:JE n1=some r):Snd Tryz.prog Mt [iV n1] (.bool r) []:=by
 refine wS Z0O [.t 2] ?_
 unfold JE at H
 obtain rfl:=sI H
 exact wP (wE [(2,.d)])
def J6(n1:Int):Bool :=
 ((decide (0<=n1))&&(decide (n1<=1000000)))
theorem J0W(n1:Int):JE n1=some (J6 n1):=by
 unfold JE J6
 first|rfl|simp only[Z2]
theorem UR(n1:Int):Snd Tryz.prog Mt [iV n1] (.bool (J6 n1)) []:=J0t (J0W n1)
def O0F:L :=
.seq (rE 2 (cB false))
 (sR [mV 3 0,.bi 4 .geq 3 (kI 0),mV 5 4,gT 5 (mV 6 0),gT 5 (.bi 7 .leq 6 (kI 1000000000)),.pk 8 5 7 (cB false),mV 2 8]
 gR)
def Vy(n1:Int):Option Bool :=
 some ((decide (0<=n1))&&(decide (n1<=1000000000)))
theorem J0m{n1:Int}{r:Bool}(H:Vy n1=some r):Snd Tryz.prog W7 [iV n1] (.bool r) []:=by
 refine wS O0F [.t 2] ?_
 unfold Vy at H
 obtain rfl:=sI H
 exact wP (wE [(2,.d)])
def W4(n1:Int):Bool :=
 ((decide (0<=n1))&&(decide (n1<=1000000000)))
theorem W0K(n1:Int):Vy n1=some (W4 n1):=by
 unfold Vy W4
 first|rfl|simp only[Z2]
theorem L9(n1:Int):Snd Tryz.prog W7 [iV n1] (.bool (W4 n1)) []:=J0m (W0K n1)
def J11:L :=
sR [.bx 1 0,.mv 2 (cB false)]
 (sR [fA 3 1 0,lF 4 3 1,cQ 5 Mt [4],mV 6 5,gT 6 (fA 7 1 1),gT 6 (lF 8 7 1),gT 6 (cQ 9 Mt [8]),.pk 10 6 9 (cB false),mV 11 10,gT 11 (fA 12 1 2),gT 11 (lF 13 12 1),gT 11 (cQ 14 Mt [13]),.pk 15 11 14 (cB false),mV 2 15]
 gR)
def YO(v1:Vec):Option Bool :=
 some (((J6 v1.a)&&(J6 v1.b))&&(J6 v1.c))
theorem U0A{v1:Vec}{r:Bool}(H:YO v1=some r):Snd Tryz.prog O4 [eVec v1] (.bool r) []:=by
 refine wS J11 [.t 2] ?_
 unfold YO at H
 refine wG [.c 5 (UR v1.a),.g 9 [((J6 v1.a),true)] (.call _ _ _ _ _ (AEs.refl _) (fun _=>UR v1.b)),.g 14 [(((J6 v1.a)&&(J6 v1.b)),true)] (.call _ _ _ _ _ (AEs.refl _) (fun _=>UR v1.c))] fun _=>?_
 replace H:=sI H;subst H
 exact wE [(2,.d)]
def X0(v1:Vec):Bool :=
 (((J6 v1.a)&&(J6 v1.b))&&(J6 v1.c))
theorem L16(v1:Vec):YO v1=some (X0 v1):=by
 unfold YO X0
 first|rfl|simp only[Z2]
theorem L4(v1:Vec):Snd Tryz.prog O4 [eVec v1] (.bool (X0 v1)) []:=U0A (L16 v1)
def L0F:L :=
sR [.bx 2 0,.bx 3 1,.mv 4 (cB false)]
 (sR [lT 5 2 3,cQ 6 O4 [5],mV 7 6,gT 7 (lT 8 3 3),gT 7 (cQ 9 O4 [8]),.pk 10 7 9 (cB false),mV 11 10,gT 11 (fA 12 2 0),gT 11 (lF 13 12 1),gT 11 (fA 14 3 0),gT 11 (lF 15 14 1),gT 11 (bI 16 .leq 13 15),.pk 17 11 16 (cB false),mV 18 17,gT 18 (fA 19 2 1),gT 18 (lF 20 19 1),gT 18 (fA 21 3 1),gT 18 (lF 22 21 1),gT 18 (bI 23 .leq 20 22),.pk 24 18 23 (cB false),mV 25 24,gT 25 (fA 26 2 2),gT 25 (lF 27 26 1),gT 25 (fA 28 3 2),gT 25 (lF 29 28 1),gT 25 (bI 30 .leq 27 29),.pk 31 25 30 (cB false),mV 4 31]
 gR)
def Uy(a1 b2:Vec):Option Bool :=
 some (((((X0 a1)&&(X0 b2))&&(decide (a1.a<=b2.a)))&&(decide (a1.b<=b2.b)))&&(decide (a1.c<=b2.c)))
theorem Z0n{a1 b2:Vec}{r:Bool}(H:Uy a1 b2=some r):Snd Tryz.prog Jl [eVec a1,eVec b2] (.bool r) []:=by
 refine wS L0F [.t 4] ?_
 unfold Uy at H
 refine wG [.c 6 (L4 a1),.g 9 [((X0 a1),true)] (.call _ _ _ _ _ (AEs.refl _) (fun _=>L4 b2))] fun _=>?_
 replace H:=sI H;subst H
 exact wE [(4,.d)]
def V2(a1 b2:Vec):Bool :=
 (((((X0 a1)&&(X0 b2))&&(decide (a1.a<=b2.a)))&&(decide (a1.b<=b2.b)))&&(decide (a1.c<=b2.c)))
theorem J0K(a1 b2:Vec):Uy a1 b2=some (V2 a1 b2):=by
 unfold Uy V2
 first|rfl|simp only[Z2]
theorem ZJ(a1 b2:Vec):Snd Tryz.prog Jl [eVec a1,eVec b2] (.bool (V2 a1 b2)) []:=Z0n (J0K a1 b2)
def Q0O:L :=
sR [.bx 2 0,.bx 3 1,.al 4 [.int .i64 0,.int .i64 0,.int .i64 0],.mv 5 (cB false)]
 (.seq (sR [lT 7 2 3,cQ 8 O4 [7],.un 9 8,mV 10 9,gF 10 (lT 11 3 3),gF 10 (cQ 12 O4 [11]),gF 10 (.un 13 12),.pk 14 10 (cB true) 13]
 (.cond 14 (sR [.bd 15 [.int .i64 0,.int .i64 0,.int .i64 0] [],.st 4 15 3,.mv 5 (cB false)]
 gR)
 .skip))
 (sR [fA 16 2 0,lF 17 16 1,fA 18 3 0,lF 19 18 1,bI 20 .add 17 19,fA 21 2 1,lF 22 21 1,fA 23 3 1,lF 24 23 1,bI 25 .add 22 24,fA 26 2 2,lF 27 26 1,fA 28 3 2,lF 29 28 1,bI 30 .add 27 29,.bd 31 [.int .i64 0,.int .i64 0,.int .i64 0] [(0,1,20),(1,1,25),(2,1,30)],.al 6 [.int .i64 0,.int .i64 0,.int .i64 0],.st 6 31 3]
 (.seq (sR [lT 32 6 3,cQ 33 O4 [32],.un 34 33]
 (.cond 34 (sR [.bd 35 [.int .i64 0,.int .i64 0,.int .i64 0] [],.st 4 35 3,.mv 5 (cB false)]
 gR)
 .skip))
 (sR [lT 36 6 3,.st 4 36 3,.mv 5 (cB true)]
 gR))))
def UF(a1 b2:Vec):Option (Vec×Bool) :=
 bif ((!(X0 a1))||(!(X0 b2)))then(some ((Vec.mk 0 0 0),false))else(bif (!(X0 (Vec.mk (w64 (a1.a+b2.a)) (w64 (a1.b+b2.b)) (w64 (a1.c+b2.c)))))then(some ((Vec.mk 0 0 0),false))else(some ((Vec.mk (w64 (a1.a+b2.a)) (w64 (a1.b+b2.b)) (w64 (a1.c+b2.c))),true)))
theorem Q0u{a1 b2:Vec}{r:Vec×Bool}(H:UF a1 b2=some r):Snd Tryz.prog Y00 [eVec a1,eVec b2] (.tup [eVec r.1,.bool r.2]) []:=by
 refine wS Q0O [.c 4 3 true,.t 5] ?_
 unfold UF at H
 refine wG [.c 8 (L4 a1),.g 12 [((!(X0 a1)),false)] (.call _ _ _ _ _ (AEs.refl _) (fun _=>L4 b2))] fun _=>?_
 refine V0 H (fun H=>?_) fun H=>?_
 .refine wP ?_
  replace H:=sI H;subst H
  exact wN [(4,.d),(5,.d)] [(4,[])] [] [] [] []
 .refine wG [.u 33 (.call _ _ _ _ _ (AEs.refl _) (fun _=>L4 (Vec.mk (w64 (a1.a+b2.a)) (w64 (a1.b+b2.b)) (w64 (a1.c+b2.c)))))] fun _=>?_
  refine V0 H (fun H=>?_) fun H=>?_
  .refine wP ?_
   replace H:=sI H;subst H
   exact wN [(4,.d),(5,.d)] [(4,[])] [] [] [] []
  .refine wP ?_
   replace H:=sI H;subst H
   exact wN [(4,.d),(5,.d)] [(4,[])] [] [] [] []
def Qv(a1 b2:Vec):Vec×Bool :=
 bif ((!(X0 a1))||(!(X0 b2)))then(((Vec.mk 0 0 0),false))else(bif (!(X0 (Vec.mk (w64 (a1.a+b2.a)) (w64 (a1.b+b2.b)) (w64 (a1.c+b2.c)))))then(((Vec.mk 0 0 0),false))else(((Vec.mk (w64 (a1.a+b2.a)) (w64 (a1.b+b2.b)) (w64 (a1.c+b2.c))),true)))
theorem U0X(a1 b2:Vec):UF a1 b2=some (Qv a1 b2):=by
 unfold UF Qv
 first|rfl|simp only[Z2]
theorem Z0L(a1 b2:Vec):Snd Tryz.prog Y00 [eVec a1,eVec b2] (.tup [eVec ((Qv a1 b2).1),.bool ((Qv a1 b2).2)]) []:=Q0u (U0X a1 b2)
def V0O:L :=
sR [.bx 2 0,.bx 3 1,.al 4 [.int .i64 0,.int .i64 0,.int .i64 0],.mv 5 (cB false)]
 (.seq (sR [lT 6 3 3,lT 7 2 3,cQ 8 Jl [6,7],.un 9 8]
 (.cond 9 (sR [.bd 10 [.int .i64 0,.int .i64 0,.int .i64 0] [],.st 4 10 3,.mv 5 (cB false)]
 gR)
 .skip))
 (sR [fA 11 2 0,lF 12 11 1,fA 13 3 0,lF 14 13 1,bI 15 .sub 12 14,fA 16 2 1,lF 17 16 1,fA 18 3 1,lF 19 18 1,bI 20 .sub 17 19,fA 21 2 2,lF 22 21 1,fA 23 3 2,lF 24 23 1,bI 25 .sub 22 24,.bd 26 [.int .i64 0,.int .i64 0,.int .i64 0] [(0,1,15),(1,1,20),(2,1,25)],.st 4 26 3,.mv 5 (cB true)]
 gR))
def XF(a1 b2:Vec):Option (Vec×Bool) :=
 bif (!(V2 b2 a1))then(some ((Vec.mk 0 0 0),false))else(some ((Vec.mk (w64 (a1.a-b2.a)) (w64 (a1.b-b2.b)) (w64 (a1.c-b2.c))),true))
theorem X0u{a1 b2:Vec}{r:Vec×Bool}(H:XF a1 b2=some r):Snd Tryz.prog JZ [eVec a1,eVec b2] (.tup [eVec r.1,.bool r.2]) []:=by
 refine wS V0O [.c 4 3 true,.t 5] ?_
 unfold XF at H
 refine wG [.c 8 (ZJ b2 a1)] fun _=>?_
 refine V0 H (fun H=>?_) fun H=>?_
 .refine wP ?_
  replace H:=sI H;subst H
  exact wN [(4,.d),(5,.d)] [(4,[])] [] [] [] []
 .refine wP ?_
  replace H:=sI H;subst H
  exact wN [(4,.d),(5,.d)] [(4,[])] [] [] [] []
def Q3(a1 b2:Vec):Vec×Bool :=
 bif (!(V2 b2 a1))then(((Vec.mk 0 0 0),false))else(((Vec.mk (w64 (a1.a-b2.a)) (w64 (a1.b-b2.b)) (w64 (a1.c-b2.c))),true))
theorem X0X(a1 b2:Vec):XF a1 b2=some (Q3 a1 b2):=by
 unfold XF Q3
 first|rfl|simp only[Z2]
theorem M0K(a1 b2:Vec):Snd Tryz.prog JZ [eVec a1,eVec b2] (.tup [eVec ((Q3 a1 b2).1),.bool ((Q3 a1 b2).2)]) []:=X0u (X0X a1 b2)
def Y0O:L :=
.seq (rE 4 (kI 0))
 (.seq (sR [mV 5 0,mV 6 1,bI 7 .lss 5 6]
 (.cond 7 (sR [mV 8 0,mV 4 8]
 gR)
 .skip))
 (sR [mV 9 1,mV 4 9]
 gR))
def ZF(a1 b2:Int):Option Int :=
 bif (decide (a1<b2))then(some a1)else(some b2)
theorem Z0u{a1 b2 r:Int}(H:ZF a1 b2=some r):Snd Tryz.prog Lt [iV a1,iV b2] (iV r) []:=by
 refine wS Y0O [.t 4] ?_
 unfold ZF at H
 refine wP ?_
 refine V0 H (fun H=>?_) fun H=>?_
 .obtain rfl:=sI H
  exact wP (wE [(4,.d)])
 .obtain rfl:=sI H
  exact wP (wE [(4,.d)])
def U3(a1 b2:Int):Int :=
 bif (decide (a1<b2))then(a1)else(b2)
theorem Z0X(a1 b2:Int):ZF a1 b2=some (U3 a1 b2):=by
 unfold ZF U3
 first|rfl|simp only[Z2]
theorem QR(a1 b2:Int):Snd Tryz.prog Lt [iV a1,iV b2] (iV (U3 a1 b2)) []:=Z0u (Z0X a1 b2)
def U0O:L :=
sR [.bx 2 0,.bx 3 1,.al 4 [.int .i64 0,.int .i64 0,.int .i64 0]]
 (.seq (sR [lT 5 2 3,cQ 6 O4 [5],.un 7 6,mV 8 7,gF 8 (lT 9 3 3),gF 8 (cQ 10 O4 [9]),gF 8 (.un 11 10),.pk 12 8 (cB true) 11]
 (.cond 12 (sR [.bd 13 [.int .i64 0,.int .i64 0,.int .i64 0] [],.st 4 13 3]
 gR)
 .skip))
 (.seq (.rq 16 [fA 14 2 0,lF 15 14 1,fA 16 3 0,lF 17 16 1,cQ 18 Lt [15,17],fA 19 2 1,lF 20 19 1,fA 21 3 1,lF 22 21 1,cQ 23 Lt [20,22],fA 24 2 2,lF 25 24 1,fA 26 3 2,lF 27 26 1,cQ 28 Lt [25,27],.bd 29 [.int .i64 0,.int .i64 0,.int .i64 0] [(0,1,18),(1,1,23),(2,1,28)],.st 4 29 3])
 gR))
def VF(a1 b2:Vec):Option Vec :=
 bif ((!(X0 a1))||(!(X0 b2)))then(some (Vec.mk 0 0 0))else(some (Vec.mk (U3 a1.a b2.a) (U3 a1.b b2.b) (U3 a1.c b2.c)))
theorem U0u{a1 b2 r:Vec}(H:VF a1 b2=some r):Snd Tryz.prog Z00 [eVec a1,eVec b2] (eVec r) []:=by
 refine wS U0O [.c 4 3 true] ?_
 unfold VF at H
 refine wG [.c 6 (L4 a1),.g 10 [((!(X0 a1)),false)] (.call _ _ _ _ _ (AEs.refl _) (fun _=>L4 b2))] fun _=>?_
 refine V0 H (fun H=>?_) fun H=>?_
 .refine wP ?_
  replace H:=sI H;subst H
  exact wN [(4,.d)] [(4,[])] [] [] [] []
 .refine wG [.c 18 (QR a1.a b2.a),.c 23 (QR a1.b b2.b),.c 28 (QR a1.c b2.c)] fun _=>?_
  replace H:=sI H;subst H
  exact wN [(4,.d)] [(4,[])] [] [] [] []
def M1(a1 b2:Vec):Vec :=
 bif ((!(X0 a1))||(!(X0 b2)))then((Vec.mk 0 0 0))else((Vec.mk (U3 a1.a b2.a) (U3 a1.b b2.b) (U3 a1.c b2.c)))
theorem V0X(a1 b2:Vec):VF a1 b2=some (M1 a1 b2):=by
 unfold VF M1
 first|rfl|simp only[Z2]
theorem L0K(a1 b2:Vec):Snd Tryz.prog Z00 [eVec a1,eVec b2] (eVec (M1 a1 b2)) []:=U0u (V0X a1 b2)
def M0Q:L :=
.seq (rE 6 (cB false))
 (sR [mV 7 0,mV 8 1,bI 9 .geq 7 8,mV 10 9,gT 10 (mV 11 0),gT 10 (mV 12 2),gT 10 (bI 13 .leq 11 12),.pk 14 10 13 (cB false),mV 6 14]
 gR)
def WG(x1 lo2 hi3:Int):Option Bool :=
 some ((decide (lo2<=x1))&&(decide (x1<=hi3)))
theorem V0x{x1 lo2 hi3:Int}{r:Bool}(H:WG x1 lo2 hi3=some r):Snd Tryz.prog Q1 [iV x1,iV lo2,iV hi3] (.bool r) []:=by
 refine wS M0Q [.t 6] ?_
 unfold WG at H
 obtain rfl:=sI H
 exact wP (wE [(6,.d)])
def Z0(x1 lo2 hi3:Int):Bool :=
 ((decide (lo2<=x1))&&(decide (x1<=hi3)))
theorem J13(x1 lo2 hi3:Int):WG x1 lo2 hi3=some (Z0 x1 lo2 hi3):=by
 unfold WG Z0
 first|rfl|simp only[Z2]
theorem V1(x1 lo2 hi3:Int):Snd Tryz.prog Q1 [iV x1,iV lo2,iV hi3] (.bool (Z0 x1 lo2 hi3)) []:=V0x (J13 x1 lo2 hi3)
def L0Q:L :=
.seq (rE 2 (cB false))
 (sR [mV 3 0,.cq 4 Q1 [3,(kI 0),(kI 1000000000)],mV 2 4]
 gR)
def MG(t1:Int):Option Bool :=
 some (Z0 t1 0 1000000000)
theorem U0x{t1:Int}{r:Bool}(H:MG t1=some r):Snd Tryz.prog Zf [iV t1] (.bool r) []:=by
 refine wS L0Q [.t 2] ?_
 unfold MG at H
 refine wG [.c 4 (V1 t1 0 1000000000)] fun _=>?_
 replace H:=sI H;subst H
 exact wE [(2,.d)]
def J5(t1:Int):Bool :=
 (Z0 t1 0 1000000000)
theorem V14(t1:Int):MG t1=some (J5 t1):=by
 unfold MG J5
 first|rfl|simp only[Z2]
theorem Ul(t1:Int):Snd Tryz.prog Zf [iV t1] (.bool (J5 t1)) []:=U0x (V14 t1)
def J0w:L :=
sR [.mv 2 (.c (.nl))]
 (sR [mV 3 0,.ap 4 (.c (.nl)) 3 1 8,mV 2 4]
 gR)
def O6(l1:List Int):Option (List Int) :=
 (appL 8 ([]:List Int) l1).bind fun xs2=>some xs2
theorem VD{l1:List Int}{r:(List Int)}(H:O6 l1=some r):Snd Tryz.prog Xu [rV 1 (l1.map eI)] (.sref 0) [⟨1,r.map eI,false⟩]:=by
 refine wS J0w [.t 2] ?_
 unfold O6 at H
 obtain⟨xs2,h2,H⟩:=bB H
 refine wG [.u 4 (.ap _ _ _ _ fun _=>M0 eI h2)] fun _=>?_
 replace H:=sI H;subst H
 exact wN [(2,.d)] [] [(4,some 4,0)] [] [some 4] [⟨_,nw_I xs2⟩]
def W13:L :=
sR [.bx 1 0,.mv 2 (cB false)]
 (sR [fA 3 1 0,lF 4 3 1,.cq 5 Q1 [4,(kI 0),(kI 1000000)],mV 6 5,gT 6 (fA 7 1 1),gT 6 (lF 8 7 1),gT 6 (.cq 9 Q1 [8,(kI 0),(kI 1000000)]),.pk 10 6 9 (cB false),mV 11 10,gT 11 (fA 12 1 2),gT 11 (lF 13 12 1),gT 11 (.cq 14 Q1 [13,(kI 0),(kI 1000000)]),.pk 15 11 14 (cB false),mV 2 15]
 gR)
def ZQ(v1:Vec):Option Bool :=
 some (((Z0 v1.a 0 1000000)&&(Z0 v1.b 0 1000000))&&(Z0 v1.c 0 1000000))
theorem Y0I{v1:Vec}{r:Bool}(H:ZQ v1=some r):Snd Tryz.prog Q5 [eVec v1] (.bool r) []:=by
 refine wS W13 [.t 2] ?_
 unfold ZQ at H
 refine wG [.c 5 (V1 v1.a 0 1000000),.g 9 [((Z0 v1.a 0 1000000),true)] (.call _ _ _ _ _ (AEs.refl _) (fun _=>V1 v1.b 0 1000000)),.g 14 [(((Z0 v1.a 0 1000000)&&(Z0 v1.b 0 1000000)),true)] (.call _ _ _ _ _ (AEs.refl _) (fun _=>V1 v1.c 0 1000000))] fun _=>?_
 replace H:=sI H;subst H
 exact wE [(2,.d)]
def J0(v1:Vec):Bool :=
 (((Z0 v1.a 0 1000000)&&(Z0 v1.b 0 1000000))&&(Z0 v1.c 0 1000000))
theorem J1a(v1:Vec):ZQ v1=some (J0 v1):=by
 unfold ZQ J0
 first|rfl|simp only[Z2]
theorem M5(v1:Vec):Snd Tryz.prog Q5 [eVec v1] (.bool (J0 v1)) []:=Y0I (J1a v1)
def Q0H:L :=
sR [.bx 2 0,.bx 3 1,.mv 4 (cB false)]
 (sR [lT 5 2 3,cQ 6 Q5 [5],mV 7 6,gT 7 (lT 8 3 3),gT 7 (cQ 9 Q5 [8]),.pk 10 7 9 (cB false),mV 11 10,gT 11 (fA 12 2 0),gT 11 (lF 13 12 1),gT 11 (fA 14 3 0),gT 11 (lF 15 14 1),gT 11 (bI 16 .leq 13 15),.pk 17 11 16 (cB false),mV 18 17,gT 18 (fA 19 2 1),gT 18 (lF 20 19 1),gT 18 (fA 21 3 1),gT 18 (lF 22 21 1),gT 18 (bI 23 .leq 20 22),.pk 24 18 23 (cB false),mV 25 24,gT 25 (fA 26 2 2),gT 25 (lF 27 26 1),gT 25 (fA 28 3 2),gT 25 (lF 29 28 1),gT 25 (bI 30 .leq 27 29),.pk 31 25 30 (cB false),mV 4 31]
 gR)
def Xz(a1 b2:Vec):Option Bool :=
 some (((((J0 a1)&&(J0 b2))&&(decide (a1.a<=b2.a)))&&(decide (a1.b<=b2.b)))&&(decide (a1.c<=b2.c)))
theorem W0p{a1 b2:Vec}{r:Bool}(H:Xz a1 b2=some r):Snd Tryz.prog Jz [eVec a1,eVec b2] (.bool r) []:=by
 refine wS Q0H [.t 4] ?_
 unfold Xz at H
 refine wG [.c 6 (M5 a1),.g 9 [((J0 a1),true)] (.call _ _ _ _ _ (AEs.refl _) (fun _=>M5 b2))] fun _=>?_
 replace H:=sI H;subst H
 exact wE [(4,.d)]
def Qp(a1 b2:Vec):Bool :=
 (((((J0 a1)&&(J0 b2))&&(decide (a1.a<=b2.a)))&&(decide (a1.b<=b2.b)))&&(decide (a1.c<=b2.c)))
theorem L0S(a1 b2:Vec):Xz a1 b2=some (Qp a1 b2):=by
 unfold Xz Qp
 first|rfl|simp only[Z2]
theorem M05(a1 b2:Vec):Snd Tryz.prog Jz [eVec a1,eVec b2] (.bool (Qp a1 b2)) []:=W0p (L0S a1 b2)
def J12:L :=
sR [.bx 3 0,.bx 4 1,.bx 5 2,.al 6 [.int .i64 0,.int .i64 0,.int .i64 0],.mv 7 (cB false)]
 (.seq (sR [lT 8 3 3,cQ 9 Q5 [8],.un 10 9,mV 11 10,gF 11 (lT 12 4 3),gF 11 (cQ 13 Q5 [12]),gF 11 (.un 14 13),.pk 15 11 (cB true) 14,mV 16 15,gF 16 (lT 17 5 3),gF 16 (cQ 18 Q5 [17]),gF 16 (.un 19 18),.pk 20 16 (cB true) 19]
 (.cond 20 (sR [.bd 21 [.int .i64 0,.int .i64 0,.int .i64 0] [],.st 6 21 3,.mv 7 (cB false)]
 gR)
 .skip))
 (sR [lT 22 5 3,.st 6 22 3,.mv 7 (cB true)]
 gR))
def LP(a1 b2 v3:Vec):Option (Vec×Bool) :=
 bif (((!(J0 a1))||(!(J0 b2)))||(!(J0 v3)))then(some ((Vec.mk 0 0 0),false))else(some (v3,true))
theorem J0H{a1 b2 v3:Vec}{r:Vec×Bool}(H:LP a1 b2 v3=some r):Snd Tryz.prog LQ [eVec a1,eVec b2,eVec v3] (.tup [eVec r.1,.bool r.2]) []:=by
 refine wS J12 [.c 6 3 true,.t 7] ?_
 unfold LP at H
 refine wG [.c 9 (M5 a1),.g 13 [((!(J0 a1)),false)] (.call _ _ _ _ _ (AEs.refl _) (fun _=>M5 b2)),.g 18 [(((!(J0 a1))||(!(J0 b2))),false)] (.call _ _ _ _ _ (AEs.refl _) (fun _=>M5 v3))] fun _=>?_
 refine V0 H (fun H=>?_) fun H=>?_
 .refine wP ?_
  replace H:=sI H;subst H
  exact wN [(6,.d),(7,.d)] [(6,[])] [] [] [] []
 .refine wP ?_
  replace H:=sI H;subst H
  exact wN [(6,.d),(7,.d)] [(6,[])] [] [] [] []
def Yb(a1 b2 v3:Vec):Vec×Bool :=
 bif (((!(J0 a1))||(!(J0 b2)))||(!(J0 v3)))then(((Vec.mk 0 0 0),false))else((v3,true))
theorem L1a(a1 b2 v3:Vec):LP a1 b2 v3=some (Yb a1 b2 v3):=by
 unfold LP Yb
 first|rfl|simp only[Z2]
theorem Y0j(a1 b2 v3:Vec):Snd Tryz.prog LQ [eVec a1,eVec b2,eVec v3] (.tup [eVec ((Yb a1 b2 v3).1),.bool ((Yb a1 b2 v3).2)]) []:=J0H (L1a a1 b2 v3)
def V0R:L :=
sR [.bx 2 0,.bx 3 1,.al 4 [.int .i64 0,.int .i64 0,.int .i64 0],.mv 5 (cB false)]
 (sR [lT 6 2 3,lT 7 3 3,fA 8 2 0,lF 9 8 1,fA 10 3 0,lF 11 10 1,bI 12 .sub 9 11,fA 13 2 1,lF 14 13 1,fA 15 3 1,lF 16 15 1,bI 17 .sub 14 16,fA 18 2 2,lF 19 18 1,fA 20 3 2,lF 21 20 1,bI 22 .sub 19 21,.bd 23 [.int .i64 0,.int .i64 0,.int .i64 0] [(0,1,12),(1,1,17),(2,1,22)],cQ 24 LQ [6,7,23],eX 25 24 0,eX 26 24 1,.st 4 25 3,mV 5 26]
 gR)
def JG(a1 b2:Vec):Option (Vec×Bool) :=
 some (((Yb a1 b2 (Vec.mk (w64 (a1.a-b2.a)) (w64 (a1.b-b2.b)) (w64 (a1.c-b2.c)))).1),(Yb a1 b2 (Vec.mk (w64 (a1.a-b2.a)) (w64 (a1.b-b2.b)) (w64 (a1.c-b2.c)))).2)
theorem Z0y{a1 b2:Vec}{r:Vec×Bool}(H:JG a1 b2=some r):Snd Tryz.prog Z01 [eVec a1,eVec b2] (.tup [eVec r.1,.bool r.2]) []:=by
 refine wS V0R [.c 4 3 true,.t 5] ?_
 unfold JG at H
 refine wG [.u 24 (.call _ _ _ _ _ (AEs.refl _) (fun _=>Y0j a1 b2 (Vec.mk (w64 (a1.a-b2.a)) (w64 (a1.b-b2.b)) (w64 (a1.c-b2.c)))))] fun _=>?_
 replace H:=sI H;subst H
 exact wN [(4,.d),(5,.d)] [(4,[])] [] [] [] []
def Uc(a1 b2:Vec):Vec×Bool :=
 (((Yb a1 b2 (Vec.mk (w64 (a1.a-b2.a)) (w64 (a1.b-b2.b)) (w64 (a1.c-b2.c)))).1),(Yb a1 b2 (Vec.mk (w64 (a1.a-b2.a)) (w64 (a1.b-b2.b)) (w64 (a1.c-b2.c)))).2)
theorem O14(a1 b2:Vec):JG a1 b2=some (Uc a1 b2):=by
 unfold JG Uc
 first|rfl|simp only[Z2]
theorem Q0S(a1 b2:Vec):Snd Tryz.prog Z01 [eVec a1,eVec b2] (.tup [eVec ((Uc a1 b2).1),.bool ((Uc a1 b2).2)]) []:=Z0y (O14 a1 b2)
def U0R:L :=
sR [.bx 2 0,.bx 3 1,.al 4 [.int .i64 0,.int .i64 0,.int .i64 0]]
 (sR [lT 8 2 3,lT 9 3 3,fA 10 2 0,lF 11 10 1,fA 12 3 0,lF 13 12 1,.mm 14 false 11 13,fA 15 2 1,lF 16 15 1,fA 17 3 1,lF 18 17 1,.mm 19 false 16 18,fA 20 2 2,lF 21 20 1,fA 22 3 2,lF 23 22 1,.mm 24 false 21 23,.bd 25 [.int .i64 0,.int .i64 0,.int .i64 0] [(0,1,14),(1,1,19),(2,1,24)],cQ 26 LQ [8,9,25],mV 7 26,eX 27 7 0,eX 28 7 1,.al 5 [.int .i64 0,.int .i64 0,.int .i64 0],.st 5 27 3,mV 6 28]
 (sR [lT 29 5 3,.st 4 29 3]
 gR))
def ZH(a1 b2:Vec):Option Vec :=
 some ((Yb a1 b2 (Vec.mk (min a1.a b2.a) (min a1.b b2.b) (min a1.c b2.c))).1)
theorem Y0y{a1 b2 r:Vec}(H:ZH a1 b2=some r):Snd Tryz.prog Y01 [eVec a1,eVec b2] (eVec r) []:=by
 refine wS U0R [.c 4 3 true] ?_
 unfold ZH at H
 refine wG [.u 26 (.call _ _ _ _ _ (AEs.refl _) (fun _=>Y0j a1 b2 (Vec.mk (min a1.a b2.a) (min a1.b b2.b) (min a1.c b2.c))))] fun _=>?_
 replace H:=sI H;subst H
 exact wN [(4,.d)] [(4,[])] [] [] [] []
def Xx(a1 b2:Vec):Vec :=
 ((Yb a1 b2 (Vec.mk (min a1.a b2.a) (min a1.b b2.b) (min a1.c b2.c))).1)
theorem M14(a1 b2:Vec):ZH a1 b2=some (Xx a1 b2):=by
 unfold ZH Xx
 first|rfl|simp only[Z2]
theorem O0S(a1 b2:Vec):Snd Tryz.prog Y01 [eVec a1,eVec b2] (eVec (Xx a1 b2)) []:=Y0y (M14 a1 b2)
def time (n:Int):Bool:=decide (0<=n)&&decide (n<=1000000000)
theorem Yy{n:Int}:time n=true↔0<=n/\n<=1000000000:=by simp[time]
theorem Oc{v:Vec}:X0 v=true↔(0<=v.a/\v.a<=1000000)/\(0<=v.b/\v.b<=1000000)/\(0<=v.c/\v.c<=1000000):=by
 simp[X0,J6,and_assoc]
theorem Mj(v:Vec):J0 v=X0 v:=rfl
theorem XS(n:Int):J5 n=time n:=rfl
theorem Jc(n:Int):W4 n=time n:=rfl
theorem L05(a b:Vec):Qp a b=V2 a b:=rfl
theorem W0S{a b:Vec}(ha:X0 a=true):Uc a b=Q3 a b:=by
 have h:=Oc.1 ha
 unfold Uc Yb Q3 V2
 simp only[Mj,ha]
 cases hb:X0 b with
 |false=>simp
 |true =>
  have h2:=Oc.1 hb
  have w1:w64 (a.a-b.a)=a.a-b.a:=Wc (by omega)
  have w2:w64 (a.b-b.b)=a.b-b.b:=Wc (by omega)
  have w3:w64 (a.c-b.c)=a.c-b.c:=Wc (by omega)
  simp only[w1,w2,w3]
  cases hc:X0 (Vec.mk (a.a-b.a) (a.b-b.b) (a.c-b.c))with
  |false =>
   have:¬ ((b.a<=a.a/\b.b<=a.b)/\b.c<=a.c):=fun q=>by
    rw[Oc.2 (by simp only;omega)]at hc;cases hc
   by_cases q1:b.a<=a.a<;>by_cases q2:b.b<=a.b<;>by_cases q3:b.c<=a.c<;>simp[q1,q2,q3]at this ⊢
  |true =>
   have q:=Oc.1 hc
   simp only at q
   have q1:b.a<=a.a:=by omega
   have q2:b.b<=a.b:=by omega
   have q3:b.c<=a.c:=by omega
   simp[q1,q2,q3]
theorem M0S(a b:Vec):Xx a b=M1 a b:=by
 have e:∀x y:Int,min x y=U3 x y:=fun x y=>by unfold U3;by_cases h:x<y<;>simp[h]<;>omega
 unfold Xx Yb M1
 simp only[Mj,e]
 cases ha:X0 a with
 |false=>simp
 |true =>
  cases hb:X0 b with
  |false=>simp
  |true =>
   have h:=Oc.1 ha
   have h2:=Oc.1 hb
   have:X0 (Vec.mk (U3 a.a b.a) (U3 a.b b.b) (U3 a.c b.c))=true:=by
    rw[Oc];simp only[← e];omega
   simp[this]
theorem VU{a b:Vec}(ha:X0 a=true)(hb:X0 b=true):X0 (M1 a b)=true:=by
 have e:∀x y:Int,U3 x y=min x y:=fun x y=>by unfold U3;by_cases h:x<y<;>simp[h]<;>omega
 have h:=Oc.1 ha
 have h2:=Oc.1 hb
 unfold M1
 simp only[ha,hb,yL,Bool.or_self,yM]
 rw[Oc];simp only[e];omega
theorem V0u{a:Vec}(ha:X0 a=true):M1 a a=a:=by
 have e:∀x:Int,U3 x x=x:=fun x=>by simp[U3]
 unfold M1
 simp[ha,e]
def W0F:L :=
sR [.bx 2 0,.mv 4 (.c (.nl))]
 (sR [.bs 7 1 [] true,mV 5 7]
 (.seq (.seq (rE 6 (kI 1))
 (.blk 0 (.loop (.gw (.seq (sR [mV 8 6,fA 9 2 0,lF 10 9 1,.ln 11 10,bI 12 .lss 8 11]
 (.cond 12 .skip
 (.exit 0)))
 (.seq (.blk 1 (sR [fA 15 2 0,lF 16 15 1,mV 17 6,iA 18 16 17 1,lF 19 18 1,mV 20 1,bI 21 .eql 19 20]
 (.cond 21 (.reg [mV 22 5,mV 23 6,.bs 24 1 [23] false,.ap 25 22 24 1 8,mV 5 25])
 .skip)))
 (.reg [mV 13 6,.bi 14 .add 13 (kI 1),mV 6 14])))))))
 (sR [mV 26 5,mV 4 26]
 gR)))
def Xf(t1:Topo)(s2:Int)(v3:Int×(List Int))(k3:(Int×(List Int))->Option (List Int)):Option (List Int) :=
 bif (decide (v3.1<(t1.parents.length:Int)))then((idx t1.parents v3.1).bind fun e5=>bif (e5==s2)then((appL 8 v3.2 [v3.1]).bind fun xs6=>k3 ((w64 (v3.1+1)),xs6))else(k3 ((w64 (v3.1+1)),v3.2)))else(some v3.2)
def Jg(t1:Topo)(s2:Int):Option (List Int) :=
 whl (Xf t1 s2) 9223372036854775807 (1,[])
theorem LI{t1:Topo}{s2:Int}{r:(List Int)}(H:Jg t1 s2=some r):Snd Tryz.prog Oz [Y3 .rd t1,iV s2] (nV 1 (r.map eI)) []:=by
 refine wS W0F [.t 4] ?_
 unfold Jg at H
 refine wP ?_
 refine wW (fun(v3:Int×(List Int))=>⟨[(1,iV s2),(2,.ptr 2 0),(5,.sref 7),(6,iV v3.1)],[],[(2,(Y3 .rd t1).cells)],[(7,⟨1,v3.2.map eI,false⟩)]⟩) H (fun v3 I m k3 H N17=>?_)
 unfold Xf at H
 refine wG [.u 11 (.ln _ _ fun _=>lm t1.parents eI)] fun q4=>?_
 refine V0 H (fun H=>?_) fun H=>?_
 .obtain⟨e5,h5,H⟩:=bB H
  refine wG [.u 18 (.ix _ _ _ fun _=>Y0 eI h5)] fun _=>?_
  refine V0 H (fun H=>?_) fun H=>?_
  .obtain⟨xs6,h6,H⟩:=bB H
   refine wG [.u 25 (.ap _ _ _ _ fun _=>M0 eI h6)] fun _=>?_
   exact wT (N17 _ H)
  .refine wP ?_
   exact wT (N17 _ H)
 .refine wP ?_
  replace H:=sI H;subst H
  exact wN [(4,.f)] [] [] [7] [] [⟨_,nw_I v3.2⟩]
def X0w:L :=
sR [.bx 2 0,.mv 4 (kI 0)]
 (.seq (rE 5 (kI (-1)))
 (.seq (sR [lT 9 2 2,mV 10 1,cQ 11 Oz [9,10],.ln 12 11,.mv 13 (kI 0)]
 (.blk 0 (.loop (.gw (sR [bI 14 .lss 13 12]
 (.seq (.cond 14 .skip
 (.exit 0))
 (.seq (.blk 1 (sR [mV 15 13,iA 16 11 13 1,lF 17 16 1,mV 6 15,mV 7 17]
 (sR [lT 18 2 2,mV 19 7,cQ 20 O5 [18,19],mV 8 20]
 (.seq (sR [mV 21 8,.bi 22 .lss 21 (kI 0),mV 23 22,gF 23 (mV 24 6),gF 23 (.bi 25 .gtr 24 (kI 0)),gF 23 (mV 26 25),gT 26 (mV 27 8),gT 26 (mV 28 5),gT 26 (bI 29 .neq 27 28),gF 23 (.pk 30 26 29 (cB false)),.pk 31 23 (cB true) 30]
 (.cond 31 (.seq (rE 4 (kI (-1)))
 gR)
 .skip))
 (.reg [mV 32 8,mV 5 32])))))
 (.reg [.bi 33 .add 13 (kI 1),mV 13 33]))))))))
 (sR [mV 34 5,.bi 35 .add 34 (kI 1),mV 4 35]
 gR)))
def Uv(rc:Topo->Int->Option Int)(t1:Topo)(x5:Int)(i5:Nat)(v5:Int)(k5:Int->Option Int):Option Int :=
 (rc t1 x5).bind fun n6=>bif ((decide (n6<0))||((decide (0<(i5:Int)))&&(n6 != v5)))then(some (-1))else(k5 n6)
def Vv(v5:Int):Option Int :=
 some (w64 (v5+1))
def Lc:Nat->Topo->Int->Option Int
 |0,_,_=>none
 |fuel+1,t1,s2 =>
 (Jg t1 s2).bind fun y3=>rgl (Uv (Lc fuel) t1) Vv y3 0 (-1)
def V7(t1:Topo)(s2:Int):Option Int:=Lc 100000000 t1 s2
theorem M0g(fuel:Nat):∀{t1:Topo} {s2 r:Int} (_:Lc fuel t1 s2=some r),Snd Tryz.prog O5 [Y3 .rd t1,.int .i64 s2] (.int .i64 r) []:=by
 induction fuel with
 |zero=>intro t1 s2 r H;cases H
 |succ fuel IH =>
 intro t1 s2 r H
 refine wS X0w [.t 4] ?_
 rw[Lc]at H
 obtain⟨y3,h3,H⟩:=bB H
 refine wG [.c 11 (LI h3),.u 12 (.ln _ _ fun _=>lm y3 eI)] fun q4=>?_
 refine wR (fun(i5:Nat) (v5:Int)=>⟨[(2,.ptr 2 0),(5,iV v5),(11,nV 1 (y3.map eI)),(12,iV (y3.length:Int)),(13,iV (i5:Int))],[],[(2,(Y3 .rd t1).cells)],[]⟩) H (fun i5 x5 v5 I m k5 hxv5 hiv5 H N25=>?_) (fun v5 I m H=>?_)
 .unfold Uv at H
  refine wP ?_
  refine wt (ltT hiv5) ?_
  obtain⟨n6,h6,H⟩:=bB H
  refine wG [.u 16 (.ix _ _ _ fun _=>Y0 eI (Q0 hxv5)),.c 20 (IH h6)] fun _=>?_
  refine V0 H (fun H=>?_) fun H=>?_
  .obtain rfl:=sI H
   exact wP (wE [(4,.d)])
  .refine wG [.w 33 (wi .i64 rfl hiv5 q4.1)] fun _=>?_
   exact wT (N25 _ H)
 .unfold Vv at H
  refine wP ?_
  refine wf (ltF y3.length) ?_
  obtain rfl:=sI H
  exact wP (wE [(4,.d)])
theorem X8{t1:Topo}{s2 r:Int}(H:V7 t1 s2=some r):Snd Tryz.prog O5 [Y3 .rd t1,iV s2] (iV r) []:=M0g _ H
def W0O:L :=
sR [.bx 1 0,.mv 2 (cB false)]
 (.seq (sR [fA 6 1 0,lF 7 6 1,.ln 8 7,.bi 9 .lss 8 (kI 1),mV 10 9,gF 10 (fA 11 1 0),gF 10 (lF 12 11 1),gF 10 (.ln 13 12),gF 10 (.bi 14 .gtr 13 (kI 24)),.pk 15 10 (cB true) 14,mV 16 15,gF 16 (fA 17 1 1),gF 16 (lF 18 17 1),gF 16 (.ln 19 18),gF 16 (.bi 20 .gtr 19 (kI 24)),.pk 21 16 (cB true) 20,mV 22 21,gF 22 (fA 23 1 0),gF 22 (lF 24 23 1),gF 22 (.ia 25 24 (kI 0) 1),gF 22 (lF 26 25 1),gF 22 (.bi 27 .neq 26 (kI 0)),.pk 28 22 (cB true) 27]
 (.cond 28 (.seq (rE 2 (cB false))
 gR)
 .skip))
 (.seq (.seq (rE 3 (kI 1))
 (.blk 0 (.loop (.gw (.seq (sR [mV 29 3,fA 30 1 0,lF 31 30 1,.ln 32 31,bI 33 .lss 29 32]
 (.cond 33 .skip
 (.exit 0)))
 (.seq (.blk 1 (sR [fA 36 1 0,lF 37 36 1,mV 38 3,iA 39 37 38 1,lF 40 39 1,.bi 41 .lss 40 (kI 0),mV 42 41,gF 42 (fA 43 1 0),gF 42 (lF 44 43 1),gF 42 (mV 45 3),gF 42 (iA 46 44 45 1),gF 42 (lF 47 46 1),gF 42 (mV 48 3),gF 42 (bI 49 .geq 47 48),.pk 50 42 (cB true) 49]
 (.cond 50 (.seq (rE 2 (cB false))
 gR)
 .skip)))
 (.reg [mV 34 3,.bi 35 .add 34 (kI 1),mV 3 35])))))))
 (.seq (sR [fA 51 1 1,lF 52 51 1,.ln 53 52,.mv 54 (kI 0)]
 (.blk 2 (.loop (.gw (sR [bI 55 .lss 54 53]
 (.seq (.cond 55 .skip
 (.exit 2))
 (.seq (.blk 3 (sR [iA 56 52 54 4,lT 57 56 4,.al 5 [.int .i64 0,.int .i64 0,.int .i64 0,.int .i64 0],.st 5 57 4]
 (sR [fA 58 5 0,lF 59 58 1,.bi 60 .lss 59 (kI 0),mV 61 60,gF 61 (fA 62 5 0),gF 61 (lF 63 62 1),gF 61 (fA 64 1 0),gF 61 (lF 65 64 1),gF 61 (.ln 66 65),gF 61 (bI 67 .geq 63 66),.pk 68 61 (cB true) 67,mV 69 68,gF 69 (lT 70 1 2),gF 69 (fA 71 5 0),gF 69 (lF 72 71 1),gF 69 (cQ 73 Oz [70,72]),gF 69 (.ln 74 73),gF 69 (.bi 75 .gtr 74 (kI 0)),.pk 76 69 (cB true) 75,mV 77 76,gF 77 (fA 78 5 1),gF 77 (lT 79 78 3),gF 77 (cQ 80 O4 [79]),gF 77 (.un 81 80),.pk 82 77 (cB true) 81]
 (.cond 82 (.seq (rE 2 (cB false))
 gR)
 .skip))))
 (.reg [.bi 83 .add 54 (kI 1),mV 54 83]))))))))
 (sR [lT 84 1 2,.cq 85 O5 [84,(kI 0)],.bi 86 .geq 85 (kI 0),mV 2 86]
 gR))))
def Zh(t1:Topo)(x8:Node)(_:Nat)(_:Unit)(k8:Unit->Option Bool):Option Bool :=
 (bif ((decide (x8.leaf<0))||(decide ((t1.parents.length:Int)<=x8.leaf)))then some default else(Jg t1 x8.leaf)).bind fun y9=>bif ((((decide (x8.leaf<0))||(decide ((t1.parents.length:Int)<=x8.leaf)))||(decide (0<(y9.length:Int))))||(!(X0 x8.cap)))then(some false)else(k8 ())
def Wq(t1:Topo)(_:Unit):Option Bool :=
 (V7 t1 0).bind fun n10=>some (decide (0<=n10))
def Yh(t1:Topo)(v4:Int)(k4:Int->Option Bool):Option Bool :=
 bif (decide (v4<(t1.parents.length:Int)))then((idx t1.parents v4).bind fun e6=>bif ((decide (e6<0))||(decide (v4<=e6)))then(some false)else(k4 (w64 (v4+1))))else(rgl (Zh t1) (Wq t1) t1.nodes 0 ())
def Xc(t1:Topo):Option Bool :=
 (bif (((decide ((t1.parents.length:Int)<1))||(decide (24<(t1.parents.length:Int))))||(decide (24<(t1.nodes.length:Int))))then some default else(idx t1.parents 0)).bind fun e2=>bif ((((decide ((t1.parents.length:Int)<1))||(decide (24<(t1.parents.length:Int))))||(decide (24<(t1.nodes.length:Int))))||(e2 != 0))then(some false)else(whl (Yh t1) 9223372036854775807 1)
theorem WR{t1:Topo}{r:Bool}(H:Xc t1=some r):Snd Tryz.prog XH [Y3 .rd t1] (.bool r) []:=by
 refine wS W0O [.t 2] ?_
 unfold Xc at H
 obtain⟨e2,h2,H⟩:=bB H
 refine wG [.u 8 (.ln _ _ fun _=>lm t1.parents eI),.g 13 [((decide ((t1.parents.length:Int)<1)),false)] (.ln _ _ fun _=>lm t1.parents eI),.g 19 [(((decide ((t1.parents.length:Int)<1))||(decide (24<(t1.parents.length:Int)))),false)] (.ln _ _ fun _=>lm t1.nodes L2),.g 25 [(_,false)] (.ix _ _ _ fun q=>Y0 eI (bF q.1 h2))] fun q3=>?_
 refine V0 H (fun H=>?_) fun H=>?_
 .obtain rfl:=sI H
  exact wP (wE [(2,.d)])
 .refine wP ?_
  refine wW (fun(v4:Int)=>⟨[(1,.ptr 1 0),(3,iV v4)],[],[(1,(Y3 .rd t1).cells)],[]⟩) H (fun v4 I m k4 H N25=>?_)
  unfold Yh at H
  refine wG [.u 32 (.ln _ _ fun _=>lm t1.parents eI)] fun q5=>?_
  refine V0 H (fun H=>?_) fun H=>?_
  .obtain⟨e6,h6,H⟩:=bB H
   refine wG [.u 39 (.ix _ _ _ fun _=>Y0 eI h6),.g 46 [((decide (e6<0)),false)] (.ix _ _ _ fun _=>Y0 eI h6)] fun _=>?_
   refine V0 H (fun H=>?_) fun H=>?_
   .obtain rfl:=sI H
    exact wP (wE [(2,.d)])
   .refine wP ?_
    exact wT (N25 _ H)
  .refine wG [.u 53 (.ln _ _ fun _=>lm t1.nodes L2)] fun q7=>?_
   refine wR (fun(i8:Nat) (v8:Unit)=>⟨[(1,.ptr 1 0),(52,rV 4 (t1.nodes.map L2)),(53,iV (t1.nodes.length:Int)),(54,iV (i8:Int))],[],[(1,(Y3 .rd t1).cells)],[]⟩) H (fun i8 x8 v8 I m k8 hxv8 hiv8 H N47=>?_) (fun v8 I m H=>?_)
   .unfold Zh at H
    refine wP ?_
    refine wt (ltT hiv8) ?_
    obtain⟨y9,h9,H⟩:=bB H
    refine wG [.u 56 (.ix _ _ _ fun _=>Y0 L2 (Q0 hxv8)),.g 66 [((decide (x8.leaf<0)),false)] (.ln _ _ fun _=>lm t1.parents eI),.g 73 [(_,false)] (.call _ _ _ _ _ (AEs.refl _) (fun q=>LI (bF q.1 h9))),.g 74 [(((decide (x8.leaf<0))||(decide ((t1.parents.length:Int)<=x8.leaf))),false)] (.ln _ _ fun _=>lm y9 eI),.g 80 [((((decide (x8.leaf<0))||(decide ((t1.parents.length:Int)<=x8.leaf)))||(decide (0<(y9.length:Int)))),false)] (.call _ _ _ _ _ (AEs.refl _) (fun _=>L4 x8.cap))] fun _=>?_
    refine V0 H (fun H=>?_) fun H=>?_
    .obtain rfl:=sI H
     exact wP (wE [(2,.d)])
    .refine wG [.w 83 (wi .i64 rfl hiv8 q7.1)] fun _=>?_
     exact wT (N47 () H)
   .unfold Wq at H
    refine wP ?_
    refine wf (ltF t1.nodes.length) ?_
    obtain⟨n10,h10,H⟩:=bB H
    refine wG [.c 85 (X8 h10)] fun _=>?_
    replace H:=sI H;subst H
    exact wE [(2,.d)]
def L11:L :=
sR [.bx 2 0,.mv 4 (.c (.nl))]
 (sR [mV 6 1,.bs 7 1 [6] true,mV 5 7]
 (.seq (.blk 0 (.loop (.gw (.seq (sR [mV 8 1,.bi 9 .gtr 8 (kI 0)]
 (.cond 9 .skip
 (.exit 0)))
 (.blk 1 (sR [fA 10 2 0,lF 11 10 1,mV 12 1,iA 13 11 12 1,lF 14 13 1,mV 1 14]
 (.reg [mV 15 5,mV 16 1,.bs 17 1 [16] false,.ap 18 15 17 1 8,mV 5 18])))))))
 (sR [mV 19 5,mV 4 19]
 gR)))
def VR(t1:Topo)(v3:Int×(List Int))(k3:(Int×(List Int))->Option (List Int)):Option (List Int) :=
 bif (decide (0<v3.1))then((idx t1.parents v3.1).bind fun e4=>(appL 8 v3.2 [e4]).bind fun xs5=>k3 (e4,xs5))else(some v3.2)
def Jo(t1:Topo)(s2:Int):Option (List Int) :=
 whl (VR t1) 9223372036854775807 (s2,[s2])
theorem O0g{t1:Topo}{s2:Int}{r:(List Int)}(H:Jo t1 s2=some r):Snd Tryz.prog J07 [Y3 .rd t1,iV s2] (nV 1 (r.map eI)) []:=by
 refine wS L11 [.t 4] ?_
 unfold Jo at H
 refine wP ?_
 refine wW (fun(v3:Int×(List Int))=>⟨[(1,iV v3.1),(2,.ptr 2 0),(5,.sref 7)],[],[(2,(Y3 .rd t1).cells)],[(7,⟨1,v3.2.map eI,false⟩)]⟩) H (fun v3 I m k3 H N12=>?_)
 unfold VR at H
 refine wP ?_
 refine V0 H (fun H=>?_) fun H=>?_
 .obtain⟨e4,h4,H⟩:=bB H
  obtain⟨xs5,h5,H⟩:=bB H
  refine wG [.u 13 (.ix _ _ _ fun _=>Y0 eI h4),.u 18 (.ap _ _ _ _ fun _=>M0 eI h5)] fun _=>?_
  exact wT (N12 _ H)
 .refine wP ?_
  replace H:=sI H;subst H
  exact wN [(4,.f)] [] [] [7] [] [⟨_,nw_I v3.2⟩]
def J0N:L :=
.seq (rE 4 (cB false))
 (.seq (sR [mV 7 0,.ln 8 7,.mv 9 (kI 0)]
 (.blk 0 (.loop (.gw (sR [bI 10 .lss 9 8]
 (.seq (.cond 10 .skip
 (.exit 0))
 (.seq (.blk 1 (sR [iA 11 7 9 1,lF 12 11 1,mV 6 12]
 (sR [mV 13 6,mV 14 1,bI 15 .eql 13 14]
 (.cond 15 (.seq (rE 4 (cB true))
 gR)
 .skip))))
 (.reg [.bi 16 .add 9 (kI 1),mV 9 16]))))))))
 (.seq (rE 4 (cB false))
 gR))
def J03(n2 x4:Int)(_:Nat)(_:Unit)(k4:Unit->Option Bool):Option Bool :=
 bif (x4==n2)then(some true)else(k4 ())
def JI(_:Unit):Option Bool :=
 some false
def M9(l1:List Int)(n2:Int):Option Bool :=
 rgl (J03 n2) JI l1 0 ()
theorem Lf{l1:List Int}{n2:Int}{r:Bool}(H:M9 l1 n2=some r):Snd Tryz.prog Je [rV 1 (l1.map eI),iV n2] (.bool r) []:=by
 refine wS J0N [.t 4] ?_
 unfold M9 at H
 refine wG [.u 8 (.ln _ _ fun _=>lm l1 eI)] fun q3=>?_
 refine wR (fun(i4:Nat) (v4:Unit)=>⟨[(1,iV n2),(7,rV 1 (l1.map eI)),(8,iV (l1.length:Int)),(9,iV (i4:Int))],[],[],[]⟩) H (fun i4 x4 v4 I m k4 hxv4 hiv4 H N20=>?_) (fun v4 I m H=>?_)
 .unfold J03 at H
  refine wP ?_
  refine wt (ltT hiv4) ?_
  refine wG [.u 11 (.ix _ _ _ fun _=>Y0 eI (Q0 hxv4))] fun _=>?_
  refine V0 H (fun H=>?_) fun H=>?_
  .obtain rfl:=sI H
   exact wP (wE [(4,.d)])
  .refine wG [.w 16 (wi .i64 rfl hiv4 q3.1)] fun _=>?_
   exact wT (N20 () H)
 .unfold JI at H
  refine wP ?_
  refine wf (ltF l1.length) ?_
  obtain rfl:=sI H
  exact wP (wE [(4,.d)])
def Y0w:L :=
sR [.bx 2 0,.mv 4 (cB false)]
 (.seq (sR [mV 7 1,.ln 8 7,.mv 9 (kI 0)]
 (.blk 0 (.loop (.gw (sR [bI 10 .lss 9 8]
 (.seq (.cond 10 .skip
 (.exit 0))
 (.seq (.blk 1 (sR [iA 11 7 9 1,lF 12 11 1,mV 6 12]
 (sR [mV 13 6,.bi 14 .lss 13 (kI 0),mV 15 14,gF 15 (mV 16 6),gF 15 (fA 17 2 1),gF 15 (lF 18 17 1),gF 15 (.ln 19 18),gF 15 (bI 20 .geq 16 19),.pk 21 15 (cB true) 20]
 (.cond 21 (.seq (rE 4 (cB false))
 gR)
 .skip))))
 (.reg [.bi 22 .add 9 (kI 1),mV 9 22]))))))))
 (sR [lT 23 2 2,cQ 24 XH [23],mV 4 24]
 gR))
def Xj(t1:Topo)(x4:Int)(_:Nat)(_:Unit)(k4:Unit->Option Bool):Option Bool :=
 bif ((decide (x4<0))||(decide ((t1.nodes.length:Int)<=x4)))then(some false)else(k4 ())
def Yj(t1:Topo)(_:Unit):Option Bool :=
 (Xc t1).bind fun b5=>some b5
def Qb(t1:Topo)(nodes2:List Int):Option Bool :=
 rgl (Xj t1) (Yj t1) nodes2 0 ()
theorem VC{t1:Topo}{nodes2:List Int}{r:Bool}(H:Qb t1 nodes2=some r):Snd Tryz.prog Ot [Y3 .rd t1,rV 1 (nodes2.map eI)] (.bool r) []:=by
 refine wS Y0w [.t 4] ?_
 unfold Qb at H
 refine wG [.u 8 (.ln _ _ fun _=>lm nodes2 eI)] fun q3=>?_
 refine wR (fun(i4:Nat) (v4:Unit)=>⟨[(2,.ptr 2 0),(7,rV 1 (nodes2.map eI)),(8,iV (nodes2.length:Int)),(9,iV (i4:Int))],[],[(2,(Y3 .rd t1).cells)],[]⟩) H (fun i4 x4 v4 I m k4 hxv4 hiv4 H N20=>?_) (fun v4 I m H=>?_)
 .unfold Xj at H
  refine wP ?_
  refine wt (ltT hiv4) ?_
  refine wG [.u 11 (.ix _ _ _ fun _=>Y0 eI (Q0 hxv4)),.g 19 [((decide (x4<0)),false)] (.ln _ _ fun _=>lm t1.nodes L2)] fun _=>?_
  refine V0 H (fun H=>?_) fun H=>?_
  .obtain rfl:=sI H
   exact wP (wE [(4,.d)])
  .refine wG [.w 22 (wi .i64 rfl hiv4 q3.1)] fun _=>?_
   exact wT (N20 () H)
 .unfold Yj at H
  refine wP ?_
  refine wf (ltF nodes2.length) ?_
  obtain⟨b5,h5,H⟩:=bB H
  refine wG [.c 24 (WR h5)] fun _=>?_
  replace H:=sI H;subst H
  exact wE [(4,.d)]
def J0O:L :=
sR [.bx 2 0,.mv 4 (kI 0)]
 (.seq (rE 5 (kI (-1)))
 (.seq (sR [lT 10 2 2,mV 11 1,cQ 12 Ot [10,11],.un 13 12,mV 14 13,gF 14 (mV 15 1),gF 14 (.ln 16 15),gF 14 (.bi 17 .eql 16 (kI 0)),.pk 18 14 (cB true) 17]
 (.cond 18 (sR [mV 19 5,mV 4 19]
 gR)
 .skip))
 (.seq (sR [fA 20 2 0,lF 21 20 1,.ln 22 21,.mv 23 (kI 0)]
 (.blk 0 (.loop (.gw (sR [bI 24 .lss 23 22]
 (.seq (.cond 24 .skip
 (.exit 0))
 (.seq (.blk 1 (sR [mV 25 23,mV 6 25]
 (.seq (rE 7 (cB true))
 (.seq (sR [mV 26 1,.ln 27 26,.mv 28 (kI 0)]
 (.blk 2 (.loop (.gw (sR [bI 29 .lss 28 27]
 (.seq (.cond 29 .skip
 (.exit 2))
 (.seq (.blk 3 (sR [iA 30 26 28 1,lF 31 30 1,mV 9 31]
 (.seq (.rq 11 [lT 32 2 2,fA 33 2 1,lF 34 33 1,mV 35 9,iA 36 34 35 4,fA 37 36 0,lF 38 37 1,cQ 39 J07 [32,38],mV 40 6,cQ 41 Je [39,40],.un 42 41])
 (.cond 42 (rE 7 (cB false))
 .skip))))
 (.reg [.bi 43 .add 28 (kI 1),mV 28 43]))))))))
 (.seq (.rq 14 [mV 44 7,mV 45 44,gT 45 (mV 46 5),gT 45 (.bi 47 .lss 46 (kI 0)),gT 45 (mV 48 47),gF 48 (lT 49 2 2),gF 48 (mV 50 6),gF 48 (cQ 51 O5 [49,50]),gF 48 (lT 52 2 2),gF 48 (mV 53 5),gF 48 (cQ 54 O5 [52,53]),gF 48 (bI 55 .leq 51 54),gT 45 (.pk 56 48 (cB true) 55),.pk 57 45 56 (cB false)])
 (.cond 57 (.reg [mV 58 6,mV 5 58])
 .skip))))))
 (.reg [.bi 59 .add 23 (kI 1),mV 23 59]))))))))
 (sR [mV 60 5,mV 4 60]
 gR))))
def Uh(t1:Topo)(i5:Nat)(x7:Int)(_:Nat)(v7:Bool)(k7:Bool->Option Int):Option Int :=
 (idx t1.nodes x7).bind fun e8=>(Jo t1 e8.leaf).bind fun y9=>(M9 y9 (i5:Int)).bind fun b10=>bif (!b10)then(k7 false)else(k7 v7)
def Zd(t1:Topo)(v5:Int)(i5:Nat)(k5:Int->Option Int)(v7:Bool):Option Int :=
 (bif v7 then(bif (decide (v5<0))then some default else(V7 t1 (i5:Int)))else some default).bind fun n11=>(bif v7 then(bif (decide (v5<0))then some default else(V7 t1 v5))else some default).bind fun n12=>bif (v7&&((decide (v5<0))||(decide (n11<=n12))))then(k5 (i5:Int))else(k5 v5)
def Yd(t1:Topo)(nodes2:List Int)(_:Int)(i5:Nat)(v5:Int)(k5:Int->Option Int):Option Int :=
 rgl (Uh t1 i5) (Zd t1 v5 i5 k5) nodes2 0 true
def Lq(v5:Int):Option Int :=
 some v5
def Zo(t1:Topo)(nodes2:List Int):Option Int :=
 (Qb t1 nodes2).bind fun b3=>bif ((!b3)||((nodes2.length:Int)==0))then(some (-1))else(rgl (Yd t1 nodes2) Lq t1.parents 0 (-1))
theorem X0L{t1:Topo}{nodes2:List Int}{r:Int}(H:Zo t1 nodes2=some r):Snd Tryz.prog Y0l [Y3 .rd t1,rV 1 (nodes2.map eI)] (iV r) []:=by
 refine wS J0O [.t 4] ?_
 unfold Zo at H
 obtain⟨b3,h3,H⟩:=bB H
 refine wG [.c 12 (VC h3),.g 16 [((!b3),false)] (.ln _ _ fun _=>lm nodes2 eI)] fun _=>?_
 refine V0 H (fun H=>?_) fun H=>?_
 .obtain rfl:=sI H
  exact wP (wE [(4,.d)])
 .refine wG [.u 22 (.ln _ _ fun _=>lm t1.parents eI)] fun q4=>?_
  refine wR (fun(i5:Nat) (v5:Int)=>⟨[(1,rV 1 (nodes2.map eI)),(2,.ptr 2 0),(5,iV v5),(22,iV (t1.parents.length:Int)),(23,iV (i5:Int))],[],[(2,(Y3 .rd t1).cells)],[]⟩) H (fun i5 x5 v5 I m k5 hxv5 hiv5 H N49=>?_) (fun v5 I m H=>?_)
  .unfold Yd at H
   refine wP ?_
   refine wt (ltT hiv5) ?_
   refine wG [.u 27 (.ln _ _ fun _=>lm nodes2 eI)] fun q6=>?_
   refine wR (fun(i7:Nat) (v7:Bool)=>⟨[(1,rV 1 (nodes2.map eI)),(2,.ptr 2 0),(5,iV v5),(6,iV (i5:Int)),(7,.bool v7),(22,iV (t1.parents.length:Int)),(23,iV (i5:Int)),(26,rV 1 (nodes2.map eI)),(27,iV (nodes2.length:Int)),(28,iV (i7:Int))],[],[(2,(Y3 .rd t1).cells)],[]⟩) H (fun i7 x7 v7 I m k7 hxv7 hiv7 H N33=>?_) (fun v7 I m H=>?_)
   .unfold Uh at H
    refine wP ?_
    refine wt (ltT hiv7) ?_
    obtain⟨e8,h8,H⟩:=bB H
    obtain⟨y9,h9,H⟩:=bB H
    obtain⟨b10,h10,H⟩:=bB H
    refine wG [.u 30 (.ix _ _ _ fun _=>Y0 eI (Q0 hxv7)),.u 36 (.ix _ _ _ fun _=>Y0 L2 h8),.c 39 (O0g h9),.c 41 (Lf h10)] fun _=>?_
    refine V0 H (fun H=>?_) fun H=>?_
    .refine wG [.w 43 (wi .i64 rfl hiv7 q6.1)] fun _=>?_
     exact wT (N33 _ H)
    .refine wG [.w 43 (wi .i64 rfl hiv7 q6.1)] fun _=>?_
     exact wT (N33 _ H)
   .unfold Zd at H
    refine wP ?_
    refine wf (ltF nodes2.length) ?_
    obtain⟨n11,h11,H⟩:=bB H
    obtain⟨n12,h12,H⟩:=bB H
    refine wG [.g 51 [(_,false),(_,true)] (.call _ _ _ _ _ (AEs.refl _) (fun q=>X8 (bF q.1 (bT q.2.1 h11)))),.g 54 [(_,false),(_,true)] (.call _ _ _ _ _ (AEs.refl _) (fun q=>X8 (bF q.1 (bT q.2.1 h12))))] fun _=>?_
    refine V0 H (fun H=>?_) fun H=>?_
    .refine wG [.w 59 (wi .i64 rfl hiv5 q4.1)] fun _=>?_
     exact wT (N49 _ H)
    .refine wG [.w 59 (wi .i64 rfl hiv5 q4.1)] fun _=>?_
     exact wT (N49 _ H)
  .unfold Lq at H
   refine wP ?_
   refine wf (ltF t1.parents.length) ?_
   obtain rfl:=sI H
   exact wP (wE [(4,.d)])
def O0w:L :=
sR [.bx 1 0,.al 2 [.nl,.nl]]
 (.seq (.rq 5 [fA 3 1 0,lF 4 3 1,cQ 5 Xu [4],fA 6 1 1,lF 7 6 1,.ap 8 (.c (.nl)) 7 4 32,.bd 9 [.nl,.nl] [(0,1,5),(1,1,8)],.st 2 9 2])
 gR)
def Lb(t1:Topo):Option Topo :=
 (O6 t1.parents).bind fun y2=>(appL 32 ([]:List Node) t1.nodes).bind fun xs3=>some (Topo.mk y2 xs3)
theorem XD{t1 r:Topo}(H:Lb t1=some r):Snd Tryz.prog Yu [Y3 .rd t1] (Y3 .nw r) []:=by
 refine wS O0w [.c 2 2 true] ?_
 unfold Lb at H
 obtain⟨y2,h2,H⟩:=bB H
 obtain⟨xs3,h3,H⟩:=bB H
 refine wG [.c 5 (VD h2),.u 8 (.ap _ _ _ _ fun _=>M0 L2 h3)] fun _=>?_
 replace H:=sI H;subst H
 exact wN [(2,.d)] [(2,[.d,.f])] [] [8] [] [⟨_,nw_I y2⟩,⟨_,Y7 xs3⟩]
def Z0R:L :=
.seq (rE 4 (cB false))
 (.seq (.seq (rE 5 (kI 1))
 (.blk 0 (.loop (.gw (.seq (sR [mV 6 5,mV 7 0,.ln 8 7,bI 9 .lss 6 8]
 (.cond 9 .skip
 (.exit 0)))
 (.seq (.blk 1 (sR [mV 12 0,mV 13 5,iA 14 12 13 1,lF 15 14 1,mV 16 1,bI 17 .eql 15 16]
 (.cond 17 (.seq (rE 4 (cB false))
 gR)
 .skip)))
 (.reg [mV 10 5,.bi 11 .add 10 (kI 1),mV 5 11])))))))
 (.seq (rE 4 (cB true))
 gR))
def Lh(parents1:List Int)(s2 v3:Int)(k3:Int->Option Bool):Option Bool :=
 bif (decide (v3<(parents1.length:Int)))then((idx parents1 v3).bind fun e5=>bif (e5==s2)then(some false)else(k3 (w64 (v3+1))))else(some true)
def Ww(parents1:List Int)(s2:Int):Option Bool :=
 whl (Lh parents1 s2) 9223372036854775807 1
theorem L0b{parents1:List Int}{s2:Int}{r:Bool}(H:Ww parents1 s2=some r):Snd Tryz.prog J00 [rV 1 (parents1.map eI),iV s2] (.bool r) []:=by
 refine wS Z0R [.t 4] ?_
 unfold Ww at H
 refine wP ?_
 refine wW (fun(v3:Int)=>⟨[(0,rV 1 (parents1.map eI)),(1,iV s2),(5,iV v3)],[],[],[]⟩) H (fun v3 I m k3 H N18=>?_)
 unfold Lh at H
 refine wG [.u 8 (.ln _ _ fun _=>lm parents1 eI)] fun q4=>?_
 refine V0 H (fun H=>?_) fun H=>?_
 .obtain⟨e5,h5,H⟩:=bB H
  refine wG [.u 14 (.ix _ _ _ fun _=>Y0 eI h5)] fun _=>?_
  refine V0 H (fun H=>?_) fun H=>?_
  .obtain rfl:=sI H
   exact wP (wE [(4,.d)])
  .refine wP ?_
   exact wT (N18 _ H)
 .obtain rfl:=sI H
  exact wP (wE [(4,.d)])
def U13:L :=
.seq (rE 4 (kI 0))
 (.seq (rE 5 (kI 0))
 (.seq (.blk 0 (.loop (.gw (.seq (sR [mV 6 1,.bi 7 .gtr 6 (kI 0)]
 (.cond 7 .skip
 (.exit 0)))
 (.blk 1 (sR [mV 8 0,mV 9 1,iA 10 8 9 1,lF 11 10 1,mV 1 11]
 (.reg [mV 12 5,.bi 13 .add 12 (kI 1),mV 5 13])))))))
 (sR [mV 14 5,mV 4 14]
 gR)))
def QS(parents1:List Int)(v3:Int×Int)(k3:(Int×Int)->Option Int):Option Int :=
 bif (decide (0<v3.1))then((idx parents1 v3.1).bind fun e4=>k3 (e4,(w64 (v3.2+1))))else(some v3.2)
def Mw(parents1:List Int)(s2:Int):Option Int :=
 whl (QS parents1) 9223372036854775807 (s2,0)
theorem JY{parents1:List Int}{s2 r:Int}(H:Mw parents1 s2=some r):Snd Tryz.prog JQ [rV 1 (parents1.map eI),iV s2] (iV r) []:=by
 refine wS U13 [.t 4] ?_
 unfold Mw at H
 refine wP ?_
 refine wW (fun(v3:Int×Int)=>⟨[(0,rV 1 (parents1.map eI)),(1,iV v3.1),(5,iV v3.2)],[],[],[]⟩) H (fun v3 I m k3 H N12=>?_)
 unfold QS at H
 refine wP ?_
 refine V0 H (fun H=>?_) fun H=>?_
 .obtain⟨e4,h4,H⟩:=bB H
  refine wG [.u 10 (.ix _ _ _ fun _=>Y0 eI h4)] fun _=>?_
  exact wT (N12 _ H)
 .obtain rfl:=sI H
  exact wP (wE [(4,.d)])
def Y0R:L :=
.seq (rE 2 (kI 0))
 (sR [mV 3 0,mV 4 0,.ln 5 4,.bi 6 .sub 5 (kI 1),cQ 7 JQ [3,6],mV 2 7]
 gR)
def LY(parents1:List Int):Option Int :=
 (Mw parents1 (w64 ((parents1.length:Int)-1))).bind fun n2=>some n2
theorem X0S{parents1:List Int}{r:Int}(H:LY parents1=some r):Snd Tryz.prog Y0m [rV 1 (parents1.map eI)] (iV r) []:=by
 refine wS Y0R [.t 2] ?_
 unfold LY at H
 obtain⟨n2,h2,H⟩:=bB H
 refine wG [.u 5 (.ln _ _ fun _=>lm parents1 eI),.c 7 (JY h2)] fun q3=>?_
 replace H:=sI H;subst H
 exact wE [(2,.d)]
def Q0R:L :=
sR [.bx 1 0,.mv 2 (cB false)]
 (.seq (sR [fA 9 1 0,lF 10 9 1,.ln 11 10,.cq 12 Q1 [11,(kI 1),(kI 24)],.un 13 12,mV 14 13,gF 14 (fA 15 1 0),gF 14 (lF 16 15 1),gF 14 (.ia 17 16 (kI 0) 1),gF 14 (lF 18 17 1),gF 14 (.bi 19 .neq 18 (kI 0)),.pk 20 14 (cB true) 19,mV 21 20,gF 21 (fA 22 1 1),gF 21 (lF 23 22 1),gF 21 (.ln 24 23),gF 21 (.bi 25 .gtr 24 (kI 24)),.pk 26 21 (cB true) 25]
 (.cond 26 (.seq (rE 2 (cB false))
 gR)
 .skip))
 (.seq (.seq (rE 3 (kI 1))
 (.blk 0 (.loop (.gw (.seq (sR [mV 27 3,fA 28 1 0,lF 29 28 1,.ln 30 29,bI 31 .lss 27 30]
 (.cond 31 .skip
 (.exit 0)))
 (.seq (.blk 1 (sR [fA 34 1 0,lF 35 34 1,mV 36 3,iA 37 35 36 1,lF 38 37 1,mV 39 3,.bi 40 .sub 39 (kI 1),.cq 41 Q1 [38,(kI 0),40],.un 42 41]
 (.cond 42 (.seq (rE 2 (cB false))
 gR)
 .skip)))
 (.reg [mV 32 3,.bi 33 .add 32 (kI 1),mV 3 33])))))))
 (.seq (rE 4 (kI (-1)))
 (.seq (sR [fA 43 1 0,lF 44 43 1,.ln 45 44,.mv 46 (kI 0)]
 (.blk 2 (.loop (.gw (sR [bI 47 .lss 46 45]
 (.seq (.cond 47 .skip
 (.exit 2))
 (.seq (.blk 3 (sR [mV 48 46,mV 5 48]
 (.seq (sR [fA 49 1 0,lF 50 49 1,mV 51 5,cQ 52 J00 [50,51],.un 53 52]
 (.cond 53 (.exit 3)
 .skip))
 (sR [fA 54 1 0,lF 55 54 1,mV 56 5,cQ 57 JQ [55,56],mV 6 57]
 (.seq (sR [mV 58 4,.bi 59 .geq 58 (kI 0),mV 60 59,gT 60 (mV 61 6),gT 60 (mV 62 4),gT 60 (bI 63 .neq 61 62),.pk 64 60 63 (cB false)]
 (.cond 64 (.seq (rE 2 (cB false))
 gR)
 .skip))
 (.reg [mV 65 6,mV 4 65]))))))
 (.reg [.bi 66 .add 46 (kI 1),mV 46 66]))))))))
 (.seq (sR [fA 67 1 1,lF 68 67 1,.ln 69 68,.mv 70 (kI 0)]
 (.blk 4 (.loop (.gw (sR [bI 71 .lss 70 69]
 (.seq (.cond 71 .skip
 (.exit 4))
 (.seq (.blk 5 (sR [iA 72 68 70 4,lT 73 72 4,.al 8 [.int .i64 0,.int .i64 0,.int .i64 0,.int .i64 0],.st 8 73 4]
 (sR [fA 74 8 0,lF 75 74 1,fA 76 1 0,lF 77 76 1,.ln 78 77,.bi 79 .sub 78 (kI 1),.cq 80 Q1 [75,(kI 0),79],.un 81 80,mV 82 81,gF 82 (fA 83 1 0),gF 82 (lF 84 83 1),gF 82 (fA 85 8 0),gF 82 (lF 86 85 1),gF 82 (cQ 87 J00 [84,86]),gF 82 (.un 88 87),.pk 89 82 (cB true) 88,mV 90 89,gF 90 (fA 91 8 1),gF 90 (lT 92 91 3),gF 90 (cQ 93 Q5 [92]),gF 90 (.un 94 93),.pk 95 90 (cB true) 94]
 (.cond 95 (.seq (rE 2 (cB false))
 gR)
 .skip))))
 (.reg [.bi 96 .add 70 (kI 1),mV 70 96]))))))))
 (.seq (rE 2 (cB true))
 gR))))))
def Js(t1:Topo)(x12:Node)(_:Nat)(_:Unit)(k12:Unit->Option Bool):Option Bool :=
 (bif (!(Z0 x12.leaf 0 (w64 ((t1.parents.length:Int)-1))))then some default else(Ww t1.parents x12.leaf)).bind fun b13=>bif (((!(Z0 x12.leaf 0 (w64 ((t1.parents.length:Int)-1))))||(!b13))||(!(J0 x12.cap)))then(some false)else(k12 ())
def J05(_:Unit):Option Bool :=
 some true
def Zt(t1:Topo)(_:Int)(i8:Nat)(v8:Int)(k8:Int->Option Bool):Option Bool :=
 (Ww t1.parents (i8:Int)).bind fun b9=>bif (!b9)then(k8 v8)else((Mw t1.parents (i8:Int)).bind fun n10=>bif ((decide (0<=v8))&&(n10 != v8))then(some false)else(k8 n10))
def Ls(t1:Topo)(_:Int):Option Bool :=
 rgl (Js t1) J05 t1.nodes 0 ()
def Zi(t1:Topo)(v4:Int)(k4:Int->Option Bool):Option Bool :=
 bif (decide (v4<(t1.parents.length:Int)))then((idx t1.parents v4).bind fun e6=>bif (!(Z0 e6 0 (w64 (v4-1))))then(some false)else(k4 (w64 (v4+1))))else(rgl (Zt t1) (Ls t1) t1.parents 0 (-1))
def Yi(t1:Topo):Option Bool :=
 (bif (!(Z0 (t1.parents.length:Int) 1 24))then some default else(idx t1.parents 0)).bind fun e2=>bif (((!(Z0 (t1.parents.length:Int) 1 24))||(e2 != 0))||(decide (24<(t1.nodes.length:Int))))then(some false)else(whl (Zi t1) 9223372036854775807 1)
theorem WS{t1:Topo}{r:Bool}(H:Yi t1=some r):Snd Tryz.prog WH [Y3 .rd t1] (.bool r) []:=by
 refine wS Q0R [.t 2] ?_
 unfold Yi at H
 obtain⟨e2,h2,H⟩:=bB H
 refine wG [.u 11 (.ln _ _ fun _=>lm t1.parents eI),.u 12 (.call _ _ _ _ _ (AEs.refl _) (fun _=>V1 (t1.parents.length:Int) 1 24)),.g 17 [(_,false)] (.ix _ _ _ fun q=>Y0 eI (bF q.1 h2)),.g 24 [(((!(Z0 (t1.parents.length:Int) 1 24))||(e2 != 0)),false)] (.ln _ _ fun _=>lm t1.nodes L2)] fun q3=>?_
 refine V0 H (fun H=>?_) fun H=>?_
 .obtain rfl:=sI H
  exact wP (wE [(2,.d)])
 .refine wP ?_
  refine wW (fun(v4:Int)=>⟨[(1,.ptr 1 0),(3,iV v4)],[],[(1,(Y3 .rd t1).cells)],[]⟩) H (fun v4 I m k4 H N25=>?_)
  unfold Zi at H
  refine wG [.u 30 (.ln _ _ fun _=>lm t1.parents eI)] fun q5=>?_
  refine V0 H (fun H=>?_) fun H=>?_
  .obtain⟨e6,h6,H⟩:=bB H
   refine wG [.u 37 (.ix _ _ _ fun _=>Y0 eI h6),.u 41 (.call _ _ _ _ _ (AEs.refl _) (fun _=>V1 e6 0 (w64 (v4-1))))] fun _=>?_
   refine V0 H (fun H=>?_) fun H=>?_
   .obtain rfl:=sI H
    exact wP (wE [(2,.d)])
   .refine wP ?_
    exact wT (N25 _ H)
  .refine wG [.u 45 (.ln _ _ fun _=>lm t1.parents eI)] fun q7=>?_
   refine wR (fun(i8:Nat) (v8:Int)=>⟨[(1,.ptr 1 0),(4,iV v8),(45,iV (t1.parents.length:Int)),(46,iV (i8:Int))],[],[(1,(Y3 .rd t1).cells)],[]⟩) H (fun i8 x8 v8 I m k8 hxv8 hiv8 H N58=>?_) (fun v8 I m H=>?_)
   .unfold Zt at H
    refine wP ?_
    refine wt (ltT hiv8) ?_
    obtain⟨b9,h9,H⟩:=bB H
    refine wG [.c 52 (L0b h9)] fun _=>?_
    refine V0 H (fun H=>?_) fun H=>?_
    .refine wG [.w 66 (wi .i64 rfl hiv8 q3.1)] fun _=>?_
     exact wT (N58 _ H)
    .obtain⟨n10,h10,H⟩:=bB H
     refine wG [.c 57 (JY h10)] fun _=>?_
     refine V0 H (fun H=>?_) fun H=>?_
     .obtain rfl:=sI H
      exact wP (wE [(2,.d)])
     .refine wG [.w 66 (wi .i64 rfl hiv8 q3.1)] fun _=>?_
      exact wT (N58 _ H)
   .unfold Ls at H
    refine wP ?_
    refine wf (ltF t1.parents.length) ?_
    refine wG [.u 69 (.ln _ _ fun _=>lm t1.nodes L2)] fun q11=>?_
    refine wR (fun(i12:Nat) (v12:Unit)=>⟨[(1,.ptr 1 0),(68,rV 4 (t1.nodes.map L2)),(69,iV (t1.nodes.length:Int)),(70,iV (i12:Int))],[],[(1,(Y3 .rd t1).cells)],[]⟩) H (fun i12 x12 v12 I m k12 hxv12 hiv12 H N80=>?_) (fun v12 I m H=>?_)
    .unfold Js at H
     refine wP ?_
     refine wt (ltT hiv12) ?_
     obtain⟨b13,h13,H⟩:=bB H
     refine wG [.u 72 (.ix _ _ _ fun _=>Y0 L2 (Q0 hxv12)),.u 78 (.ln _ _ fun _=>lm t1.parents eI),.u 80 (.call _ _ _ _ _ (AEs.refl _) (fun _=>V1 x12.leaf 0 (w64 ((t1.parents.length:Int)-1)))),.g 87 [(_,false)] (.call _ _ _ _ _ (AEs.refl _) (fun q=>L0b (bF q.1 h13))),.g 93 [(((!(Z0 x12.leaf 0 (w64 ((t1.parents.length:Int)-1))))||(!b13)),false)] (.call _ _ _ _ _ (AEs.refl _) (fun _=>M5 x12.cap))] fun q14=>?_
     refine V0 H (fun H=>?_) fun H=>?_
     .obtain rfl:=sI H
      exact wP (wE [(2,.d)])
     .refine wG [.w 96 (wi .i64 rfl hiv12 q11.1)] fun _=>?_
      exact wT (N80 () H)
    .unfold J05 at H
     refine wP ?_
     refine wf (ltF t1.nodes.length) ?_
     obtain rfl:=sI H
     exact wP (wE [(2,.d)])
def Y13:L :=
sR [.bx 2 0,.mv 4 (kI 0)]
 (.seq (.rq 9 [fA 5 2 0,lF 6 5 1,cQ 7 Y0m [6],fA 8 2 0,lF 9 8 1,mV 10 1,cQ 11 JQ [9,10],bI 12 .sub 7 11,mV 4 12])
 gR)
def Up(t1:Topo)(s2:Int):Option Int :=
 (LY t1.parents).bind fun n3=>(Mw t1.parents s2).bind fun n4=>some (w64 (n3-n4))
theorem OG{t1:Topo}{s2 r:Int}(H:Up t1 s2=some r):Snd Tryz.prog WB [Y3 .rd t1,iV s2] (iV r) []:=by
 refine wS Y13 [.t 4] ?_
 unfold Up at H
 obtain⟨n3,h3,H⟩:=bB H
 obtain⟨n4,h4,H⟩:=bB H
 refine wG [.c 7 (X0S h3),.c 11 (JY h4)] fun _=>?_
 replace H:=sI H;subst H
 exact wE [(4,.d)]
def Q13:L :=
sR [.bx 2 0,.mv 4 (.c (.nl))]
 (sR [mV 6 1,.bs 7 1 [6] true,mV 5 7]
 (.seq (.blk 0 (.loop (.gw (.seq (sR [mV 8 1,.bi 9 .gtr 8 (kI 0)]
 (.cond 9 .skip
 (.exit 0)))
 (.blk 1 (sR [fA 10 2 0,lF 11 10 1,mV 12 1,iA 13 11 12 1,lF 14 13 1,mV 1 14]
 (.reg [mV 15 5,mV 16 1,.bs 17 1 [16] false,.ap 18 15 17 1 8,mV 5 18])))))))
 (sR [mV 19 5,mV 4 19]
 gR)))
def Z0c(t1:Topo)(v3:Int×(List Int))(k3:(Int×(List Int))->Option (List Int)):Option (List Int) :=
 bif (decide (0<v3.1))then((idx t1.parents v3.1).bind fun e4=>(appL 8 v3.2 [e4]).bind fun xs5=>k3 (e4,xs5))else(some v3.2)
def ZX(t1:Topo)(s2:Int):Option (List Int) :=
 whl (Z0c t1) 9223372036854775807 (s2,[s2])
theorem U0j{t1:Topo}{s2:Int}{r:(List Int)}(H:ZX t1 s2=some r):Snd Tryz.prog M08 [Y3 .rd t1,iV s2] (nV 1 (r.map eI)) []:=by
 refine wS Q13 [.t 4] ?_
 unfold ZX at H
 refine wP ?_
 refine wW (fun(v3:Int×(List Int))=>⟨[(1,iV v3.1),(2,.ptr 2 0),(5,.sref 7)],[],[(2,(Y3 .rd t1).cells)],[(7,⟨1,v3.2.map eI,false⟩)]⟩) H (fun v3 I m k3 H N12=>?_)
 unfold Z0c at H
 refine wP ?_
 refine V0 H (fun H=>?_) fun H=>?_
 .obtain⟨e4,h4,H⟩:=bB H
  obtain⟨xs5,h5,H⟩:=bB H
  refine wG [.u 13 (.ix _ _ _ fun _=>Y0 eI h4),.u 18 (.ap _ _ _ _ fun _=>M0 eI h5)] fun _=>?_
  exact wT (N12 _ H)
 .refine wP ?_
  replace H:=sI H;subst H
  exact wN [(4,.f)] [] [] [7] [] [⟨_,nw_I v3.2⟩]
def Z0x:L :=
sR [.bx 2 0,.mv 4 (cB false)]
 (.seq (sR [mV 7 1,.ln 8 7,.mv 9 (kI 0)]
 (.blk 0 (.loop (.gw (sR [bI 10 .lss 9 8]
 (.seq (.cond 10 .skip
 (.exit 0))
 (.seq (.blk 1 (sR [iA 11 7 9 1,lF 12 11 1,mV 6 12]
 (sR [mV 13 6,fA 14 2 1,lF 15 14 1,.ln 16 15,.bi 17 .sub 16 (kI 1),.cq 18 Q1 [13,(kI 0),17],.un 19 18]
 (.cond 19 (.seq (rE 4 (cB false))
 gR)
 .skip))))
 (.reg [.bi 20 .add 9 (kI 1),mV 9 20]))))))))
 (sR [lT 21 2 2,cQ 22 WH [21],mV 4 22]
 gR))
def Yx(t1:Topo)(x4:Int)(_:Nat)(_:Unit)(k4:Unit->Option Bool):Option Bool :=
 bif (!(Z0 x4 0 (w64 ((t1.nodes.length:Int)-1))))then(some false)else(k4 ())
def Zx(t1:Topo)(_:Unit):Option Bool :=
 (Yi t1).bind fun b6=>some b6
def Oj(t1:Topo)(nodes2:List Int):Option Bool :=
 rgl (Yx t1) (Zx t1) nodes2 0 ()
theorem Q02{t1:Topo}{nodes2:List Int}{r:Bool}(H:Oj t1 nodes2=some r):Snd Tryz.prog XN [Y3 .rd t1,rV 1 (nodes2.map eI)] (.bool r) []:=by
 refine wS Z0x [.t 4] ?_
 unfold Oj at H
 refine wG [.u 8 (.ln _ _ fun _=>lm nodes2 eI)] fun q3=>?_
 refine wR (fun(i4:Nat) (v4:Unit)=>⟨[(2,.ptr 2 0),(7,rV 1 (nodes2.map eI)),(8,iV (nodes2.length:Int)),(9,iV (i4:Int))],[],[(2,(Y3 .rd t1).cells)],[]⟩) H (fun i4 x4 v4 I m k4 hxv4 hiv4 H N20=>?_) (fun v4 I m H=>?_)
 .unfold Yx at H
  refine wP ?_
  refine wt (ltT hiv4) ?_
  refine wG [.u 11 (.ix _ _ _ fun _=>Y0 eI (Q0 hxv4)),.u 16 (.ln _ _ fun _=>lm t1.nodes L2),.u 18 (.call _ _ _ _ _ (AEs.refl _) (fun _=>V1 x4 0 (w64 ((t1.nodes.length:Int)-1))))] fun q5=>?_
  refine V0 H (fun H=>?_) fun H=>?_
  .obtain rfl:=sI H
   exact wP (wE [(4,.d)])
  .refine wG [.w 20 (wi .i64 rfl hiv4 q3.1)] fun _=>?_
   exact wT (N20 () H)
 .unfold Zx at H
  refine wP ?_
  refine wf (ltF nodes2.length) ?_
  obtain⟨b6,h6,H⟩:=bB H
  refine wG [.c 22 (WS h6)] fun _=>?_
  replace H:=sI H;subst H
  exact wE [(4,.d)]
def MY:L :=
.seq (rE 4 (kI 0))
 (.seq (sR [mV 6 0,.ln 7 6,.mv 8 (kI 0)]
 (.blk 0 (.loop (.gw (sR [bI 9 .lss 8 7]
 (.seq (.cond 9 .skip
 (.exit 0))
 (.seq (.blk 1 (sR [mV 10 8,mV 5 10]
 (sR [mV 11 1,mV 12 0,mV 13 5,iA 14 12 13 1,lF 15 14 1,bI 16 .eql 11 15]
 (.cond 16 (sR [mV 17 5,mV 4 17]
 gR)
 .skip))))
 (.reg [.bi 18 .add 8 (kI 1),mV 8 18]))))))))
 (.seq (rE 4 (kI (-1)))
 gR))
def Xd(v2 x4:Int)(i4:Nat)(_:Unit)(k4:Unit->Option Int):Option Int :=
 bif (v2==x4)then(some (i4:Int))else(k4 ())
def Yp(_:Unit):Option Int :=
 some (-1)
def M8(s1:List Int)(v2:Int):Option Int :=
 rgl (Xd v2) Yp s1 0 ()
theorem LX{s1:List Int}{v2 r:Int}(H:M8 s1 v2=some r):Snd Tryz.prog Wu [rV 1 (s1.map eI),iV v2] (iV r) []:=by
 refine wS MY [.t 4] ?_
 unfold M8 at H
 refine wG [.u 7 (.ln _ _ fun _=>lm s1 eI)] fun q3=>?_
 refine wR (fun(i4:Nat) (v4:Unit)=>⟨[(0,rV 1 (s1.map eI)),(1,iV v2),(7,iV (s1.length:Int)),(8,iV (i4:Int))],[],[],[]⟩) H (fun i4 x4 v4 I m k4 hxv4 hiv4 H N20=>?_) (fun v4 I m H=>?_)
 .unfold Xd at H
  refine wP ?_
  refine wt (ltT hiv4) ?_
  refine wG [.u 14 (.ix _ _ _ fun _=>Y0 eI (Q0 hxv4))] fun _=>?_
  refine V0 H (fun H=>?_) fun H=>?_
  .obtain rfl:=sI H
   exact wP (wE [(4,.d)])
  .refine wG [.w 18 (wi .i64 rfl hiv4 q3.1)] fun _=>?_
   exact wT (N20 () H)
 .unfold Yp at H
  refine wP ?_
  refine wf (ltF s1.length) ?_
  obtain rfl:=sI H
  exact wP (wE [(4,.d)])
def ON:L :=
.seq (rE 4 (cB false))
 (sR [mV 5 0,mV 6 1,cQ 7 Wu [5,6],.bi 8 .geq 7 (kI 0),mV 4 8]
 gR)
def X2(s1:List Int)(v2:Int):Option Bool :=
 (M8 s1 v2).bind fun n3=>some (decide (0<=n3))
theorem J4{s1:List Int}{v2:Int}{r:Bool}(H:X2 s1 v2=some r):Snd Tryz.prog Z4 [rV 1 (s1.map eI),iV v2] (.bool r) []:=by
 refine wS ON [.t 4] ?_
 unfold X2 at H
 obtain⟨n3,h3,H⟩:=bB H
 refine wG [.c 7 (LX h3)] fun _=>?_
 replace H:=sI H;subst H
 exact wE [(4,.d)]
def L0R:L :=
sR [.bx 2 0,.mv 4 (kI 0)]
 (.seq (sR [lT 10 2 2,mV 11 1,cQ 12 XN [10,11],.un 13 12,mV 14 13,gF 14 (mV 15 1),gF 14 (.ln 16 15),gF 14 (.bi 17 .eql 16 (kI 0)),.pk 18 14 (cB true) 17]
 (.cond 18 (.seq (rE 4 (kI (-1)))
 gR)
 .skip))
 (.seq (rE 5 (kI (-1)))
 (.seq (sR [fA 19 2 0,lF 20 19 1,.ln 21 20,.mv 22 (kI 0)]
 (.blk 0 (.loop (.gw (sR [bI 23 .lss 22 21]
 (.seq (.cond 23 .skip
 (.exit 0))
 (.seq (.blk 1 (sR [mV 24 22,mV 6 24]
 (.seq (rE 7 (cB true))
 (.seq (sR [mV 25 1,.ln 26 25,.mv 27 (kI 0)]
 (.blk 2 (.loop (.gw (sR [bI 28 .lss 27 26]
 (.seq (.cond 28 .skip
 (.exit 2))
 (.seq (.blk 3 (sR [iA 29 25 27 1,lF 30 29 1,mV 9 30]
 (.rq 13 [mV 31 7,mV 32 31,gT 32 (lT 33 2 2),gT 32 (fA 34 2 1),gT 32 (lF 35 34 1),gT 32 (mV 36 9),gT 32 (iA 37 35 36 4),gT 32 (fA 38 37 0),gT 32 (lF 39 38 1),gT 32 (cQ 40 M08 [33,39]),gT 32 (mV 41 6),gT 32 (cQ 42 Z4 [40,41]),.pk 43 32 42 (cB false),mV 7 43])))
 (.reg [.bi 44 .add 27 (kI 1),mV 27 44]))))))))
 (.seq (.rq 14 [mV 45 7,mV 46 45,gT 46 (mV 47 5),gT 46 (.bi 48 .lss 47 (kI 0)),gT 46 (mV 49 48),gF 49 (lT 50 2 2),gF 49 (mV 51 6),gF 49 (cQ 52 WB [50,51]),gF 49 (lT 53 2 2),gF 49 (mV 54 5),gF 49 (cQ 55 WB [53,54]),gF 49 (bI 56 .leq 52 55),gT 46 (.pk 57 49 (cB true) 56),.pk 58 46 57 (cB false)])
 (.cond 58 (.reg [mV 59 6,mV 5 59])
 .skip))))))
 (.reg [.bi 60 .add 22 (kI 1),mV 22 60]))))))))
 (sR [mV 61 5,mV 4 61]
 gR))))
def Xi(t1:Topo)(i5:Nat)(x7:Int)(_:Nat)(v7:Bool)(k7:Bool->Option Int):Option Int :=
 (bif v7 then(idx t1.nodes x7)else some default).bind fun e8=>(bif v7 then(ZX t1 e8.leaf)else some default).bind fun y9=>(bif v7 then(X2 y9 (i5:Int))else some default).bind fun b10=>k7 (v7&&b10)
def Ld(t1:Topo)(v5:Int)(i5:Nat)(k5:Int->Option Int)(v7:Bool):Option Int :=
 (bif v7 then(bif (decide (v5<0))then some default else(Up t1 (i5:Int)))else some default).bind fun n11=>(bif v7 then(bif (decide (v5<0))then some default else(Up t1 v5))else some default).bind fun n12=>bif (v7&&((decide (v5<0))||(decide (n11<=n12))))then(k5 (i5:Int))else(k5 v5)
def Xt(t1:Topo)(nodes2:List Int)(_:Int)(i5:Nat)(v5:Int)(k5:Int->Option Int):Option Int :=
 rgl (Xi t1 i5) (Ld t1 v5 i5 k5) nodes2 0 true
def VM(v5:Int):Option Int :=
 some v5
def Qx(t1:Topo)(nodes2:List Int):Option Int :=
 (Oj t1 nodes2).bind fun b3=>bif ((!b3)||((nodes2.length:Int)==0))then(some (-1))else(rgl (Xt t1 nodes2) VM t1.parents 0 (-1))
theorem Z0T{t1:Topo}{nodes2:List Int}{r:Int}(H:Qx t1 nodes2=some r):Snd Tryz.prog V0m [Y3 .rd t1,rV 1 (nodes2.map eI)] (iV r) []:=by
 refine wS L0R [.t 4] ?_
 unfold Qx at H
 obtain⟨b3,h3,H⟩:=bB H
 refine wG [.c 12 (Q02 h3),.g 16 [((!b3),false)] (.ln _ _ fun _=>lm nodes2 eI)] fun _=>?_
 refine V0 H (fun H=>?_) fun H=>?_
 .obtain rfl:=sI H
  exact wP (wE [(4,.d)])
 .refine wG [.u 21 (.ln _ _ fun _=>lm t1.parents eI)] fun q4=>?_
  refine wR (fun(i5:Nat) (v5:Int)=>⟨[(1,rV 1 (nodes2.map eI)),(2,.ptr 2 0),(5,iV v5),(21,iV (t1.parents.length:Int)),(22,iV (i5:Int))],[],[(2,(Y3 .rd t1).cells)],[]⟩) H (fun i5 x5 v5 I m k5 hxv5 hiv5 H N45=>?_) (fun v5 I m H=>?_)
  .unfold Xt at H
   refine wP ?_
   refine wt (ltT hiv5) ?_
   refine wG [.u 26 (.ln _ _ fun _=>lm nodes2 eI)] fun q6=>?_
   refine wR (fun(i7:Nat) (v7:Bool)=>⟨[(1,rV 1 (nodes2.map eI)),(2,.ptr 2 0),(5,iV v5),(6,iV (i5:Int)),(7,.bool v7),(21,iV (t1.parents.length:Int)),(22,iV (i5:Int)),(25,rV 1 (nodes2.map eI)),(26,iV (nodes2.length:Int)),(27,iV (i7:Int))],[],[(2,(Y3 .rd t1).cells)],[]⟩) H (fun i7 x7 v7 I m k7 hxv7 hiv7 H N29=>?_) (fun v7 I m H=>?_)
   .unfold Xi at H
    refine wP ?_
    refine wt (ltT hiv7) ?_
    obtain⟨e8,h8,H⟩:=bB H
    obtain⟨y9,h9,H⟩:=bB H
    obtain⟨b10,h10,H⟩:=bB H
    refine wG [.u 29 (.ix _ _ _ fun _=>Y0 eI (Q0 hxv7)),.g 37 [(_,true)] (.ix _ _ _ fun q=>Y0 L2 (bT q.1 h8)),.g 40 [(_,true)] (.call _ _ _ _ _ (AEs.refl _) (fun q=>U0j (bT q.1 h9))),.g 42 [(_,true)] (.call _ _ _ _ _ (AEs.refl _) (fun q=>J4 (bT q.1 h10))),.w 44 (wi .i64 rfl hiv7 q6.1)] fun _=>?_
    exact wT (N29 _ H)
   .unfold Ld at H
    refine wP ?_
    refine wf (ltF nodes2.length) ?_
    obtain⟨n11,h11,H⟩:=bB H
    obtain⟨n12,h12,H⟩:=bB H
    refine wG [.g 52 [(_,false),(_,true)] (.call _ _ _ _ _ (AEs.refl _) (fun q=>OG (bF q.1 (bT q.2.1 h11)))),.g 55 [(_,false),(_,true)] (.call _ _ _ _ _ (AEs.refl _) (fun q=>OG (bF q.1 (bT q.2.1 h12))))] fun _=>?_
    refine V0 H (fun H=>?_) fun H=>?_
    .refine wG [.w 60 (wi .i64 rfl hiv5 q4.1)] fun _=>?_
     exact wT (N45 _ H)
    .refine wG [.w 60 (wi .i64 rfl hiv5 q4.1)] fun _=>?_
     exact wT (N45 _ H)
  .unfold VM at H
   refine wP ?_
   refine wf (ltF t1.parents.length) ?_
   obtain rfl:=sI H
   exact wP (wE [(4,.d)])
structure TreeP(P:List Int):Prop where
 pos:0<P.length
 le:P.length<=24
 root:P[0]?=some 0
 par:∀(i:Nat),1<=i->∀(p:Int),P[i]?=some p->0<=p/\p<i
def prt(P:List Int)(i:Nat):Nat:=(P.getD i 0).toNat
def dep(P:List Int)(s:Nat):Nat:=if h:0<s/\prt P s<s then dep P (prt P s)+1 else 0
termination_by s
decreasing_by exact h.2
def ups(P:List Int)(s:Nat):List Nat:=if _:0<s/\prt P s<s then s::ups P (prt P s)else[s]
termination_by s
decreasing_by exact(‹0<s/\prt P s<s›:0<s/\prt P s<s).2
def kids(P:List Int)(s:Int):List Nat:=(List.range' 1 (P.length-1)).filter fun i=>P[i]?==some s
theorem Z1j{P:List Int}{s:Int}{c:Nat}:c∈kids P s↔1<=c/\c<P.length/\P[c]?=some s:=by
 simp only[kids,List.mem_filter,List.mem_range',beq_iff_eq]
 constructor
 .rintro⟨⟨i,hi,rfl⟩,h⟩;exact⟨by omega,by omega,h⟩
 .rintro⟨h1,h2,h3⟩;exact⟨⟨c-1,by omega,by omega⟩,h3⟩
theorem TreeP.par_lt{P:List Int}(T:TreeP P){i:Nat}(h1:1<=i)(h:i<P.length):prt P i<i/\P[i]?=some (prt P i:Int):=by
 have e:P[i]?=some P[i]:=yA h
 have:=T.par i h1 _ e
 have q:prt P i=P[i].toNat:=by simp[prt,h]
 rw[q]
 exact⟨by omega,by rw[e];congr 1;omega⟩
theorem M1C(P:List Int):dep P 0=0:=by rw[dep];simp
theorem TreeP.dep_succ{P:List Int}(T:TreeP P){i:Nat}(h1:1<=i)(h:i<P.length):dep P i=dep P (prt P i)+1:=by
 rw[dep,dif_pos ⟨by omega,(T.par_lt h1 h).1⟩]
theorem Y0W(P:List Int):ups P 0=[0]:=by rw[ups];simp
theorem TreeP.ups_succ{P:List Int}(T:TreeP P){i:Nat}(h1:1<=i)(h:i<P.length):ups P i=i::ups P (prt P i):=by
 rw[ups,dif_pos ⟨by omega,(T.par_lt h1 h).1⟩]
theorem W1x(P:List Int):∀s,dep P s<=s:=by
 intro s
 induction s using Nat.strongRecOn with
 |_ s ih =>
  rw[dep]
  split
  .rename_i h;have:=ih _ h.2;omega
  .omega
theorem Z0h(P:List Int)(s:Nat):s∈ups P s:=by rw[ups];split<;>simp
theorem TreeP.ups_mem{P:List Int}(T:TreeP P):∀l,l<P.length->∀s,s∈ups P l->s<=l/\∀x,x∈ups P s->x∈ups P l:=by
 intro l
 induction l using Nat.strongRecOn with
 |_ l ih =>
  intro hl s hs
  by_cases h0:l=0
  .subst h0;rw[Y0W]at hs;simp at hs;subst hs;exact⟨yV _,fun x hx=>hx⟩
  .have hp:=T.par_lt (i:=l) (by omega) hl
   rw[T.ups_succ (by omega) hl]at hs ⊢
   rcases yX hs with rfl|hs
   .exact⟨yV _,fun x hx=>by rwa [T.ups_succ (by omega) hl]at hx⟩
   .obtain⟨q1,q2⟩:=ih _ hp.1 (by omega) s hs
    exact⟨by omega,fun x hx=>yH _ (q2 x hx)⟩
theorem TreeP.kid_of{P:List Int}(T:TreeP P):∀l,l<P.length->∀s,s∈ups P l->s≠l->∃c,c∈kids P (s:Int)/\c∈ups P l:=by
 intro l
 induction l using Nat.strongRecOn with
 |_ l ih =>
  intro hl s hs hne
  by_cases h0:l=0
  .subst h0;rw[Y0W]at hs;simp at hs;exact absurd hs hne
  .have hp:=T.par_lt (i:=l) (by omega) hl
   rw[T.ups_succ (by omega) hl]at hs ⊢
   rcases yX hs with rfl|hs
   .exact absurd rfl hne
   .by_cases he:s=prt P l
    .subst he
     exact⟨l,Z1j.2 ⟨by omega,hl,hp.2⟩,yJ ..⟩
    .obtain⟨c,q1,q2⟩:=ih _ hp.1 (by omega) s hs he
     exact⟨c,q1,yH _ q2⟩
theorem TreeP.kid_par{P:List Int}(T:TreeP P){s c:Nat}(h:c∈kids P (s:Int)):1<=c/\c<P.length/\prt P c=s/\s<c:=by
 obtain⟨h1,h2,h3⟩:=Z1j.1 h
 have hp:=T.par_lt h1 h2
 rw[hp.2]at h3
 have:prt P c=s:=by have:=Option.some.inj h3;omega
 exact⟨h1,h2,this,by omega⟩
structure LeafP(P:List Int)(s l:Nat):Prop where
 lt:l<P.length
 leaf:kids P (l:Int)=[]
 up:s∈ups P l
theorem TreeP.some_leaf{P:List Int}(T:TreeP P):∀(n s:Nat),P.length-s=n->s<P.length->∃l,LeafP P s l:=by
 intro n
 induction n using Nat.strongRecOn with
 |_ n ih =>
  intro s hn hs
  cases hk:kids P (s:Int)with
  |nil=>exact⟨s,hs,hk,Z0h P s⟩
  |cons c ks =>
   have hc:c∈kids P (s:Int):=by rw[hk];exact yJ ..
   obtain⟨q1,q2,q3,q4⟩:=T.kid_par hc
   obtain⟨l,hl⟩:=ih (P.length-c) (by omega) c rfl q2
   refine⟨l,hl.lt,hl.leaf,(T.ups_mem l hl.lt c hl.up).2 s ?_⟩
   rw[T.ups_succ q1 q2,q3]
   exact yH _ (Z0h P s)
theorem TreeP.leaf_kid{P:List Int}(T:TreeP P){s c l:Nat}(hc:c∈kids P (s:Int))(h:LeafP P c l):LeafP P s l:=by
 obtain⟨q1,q2,q3,q4⟩:=T.kid_par hc
 refine⟨h.lt,h.leaf,(T.ups_mem l h.lt c h.up).2 s ?_⟩
 rw[T.ups_succ q1 q2,q3]
 exact yH _ (Z0h P s)
theorem TreeP.leaf_cases{P:List Int}(T:TreeP P){s l:Nat}(h:LeafP P s l):s=l\/∃c,c∈kids P (s:Int)/\LeafP P c l:=by
 by_cases e:s=l
 .exact .inl e
 .obtain⟨c,q1,q2⟩:=T.kid_of l h.lt s h.up e
  exact .inr ⟨c,q1,h.lt,h.leaf,q2⟩
theorem TreeP.zero_up{P:List Int}(T:TreeP P):∀l,l<P.length->0∈ups P l:=by
 intro l
 induction l using Nat.strongRecOn with
 |_ l ih =>
  intro hl
  by_cases h0:l=0
  .subst h0;exact Z0h P 0
  .rw[T.ups_succ (by omega) hl]
   exact yH _ (ih _ (T.par_lt (by omega) hl).1 (by have:=(T.par_lt (i:=l) (by omega) hl).1;omega))
theorem Qq(t:Topo)(s:Int)(hl:t.parents.length<=1048576):Jg t s=some ((kids t.parents s).map fun(i:Nat)=>(i:Int)):=by
 unfold Jg
 have h:=Z0e (bd:=Xf t s) (fun(i:Nat) (st:List Int)=>((i:Int),st)) (n:=t.parents.length)
  (B:=fun x _ st k=>bif t.parents[x]?==some s then(appL 8 st [(x:Int)]).bind k else k st) (kk:=some) (fun i st k hi=>by
   obtain⟨e,he⟩:∃e,t.parents[i]?=some e:=⟨_,yA hi⟩
   have hlt:(i:Int)<(t.parents.length:Int):=by omega
   simp only[Xf,hlt,decide_true,yN,U2,he,bS,Zc (n:=i) (by omega)]
   rw[show(some e==some s)=(e==s) from rfl])
  (fun i st k hi=>by
   have hlt:¬ (i:Int)<(t.parents.length:Int):=by omega
   simp only[Xf,hlt,decide_false,yM]) 9223372036854775807 1 [] (by omega)
 refine h.trans ?_
 rw[Z7 (p:=fun(x:Nat)=>t.parents[x]?==some s) (f:=fun(x:Nat)=>(x:Int)) (fun x _ i b k=>rfl) (by simp;omega)]
 rfl
def LevP(P:List Int)(s:Nat)(v:Int):Prop :=
 (0<=v/\v<=P.length-s/\∀l,LeafP P s l->(dep P l:Int)=dep P s+v)\/(v = -1/\∃l1 l2,LeafP P s l1/\LeafP P s l2/\dep P l1≠dep P l2)
theorem L0g{t:Topo}(T:TreeP t.parents):∀(n s fuel:Nat),t.parents.length-s=n->s<t.parents.length->n<=fuel->∃v,Lc fuel t (s:Int)=some v/\LevP t.parents s v:=by
 intro n
 induction n using Nat.strongRecOn with
 |_ n ih =>
  intro s fuel hn hs hf
  obtain⟨fuel,rfl⟩:∃m,fuel=m+1:=⟨fuel-1,by omega⟩
  have hle:=T.le
  rw[Lc,Qq t s (by omega),bS,V1r]
  refine Ud (fun i (v:Int)=>(i=0->v = -1)/\(0<i->0<=v/\v<=t.parents.length-s-1/\∀j c,j<i->(kids t.parents (s:Int))[j]?=some c->∀l,LeafP t.parents c l->(dep t.parents l:Int)=dep t.parents s+1+v)) (fun r=>∃v,r=some v/\LevP t.parents s v) ?_ ?_ ⟨fun _=>rfl,fun h=>by omega⟩
  .intro i c v k hi hI hk
   have hc:c∈kids t.parents (s:Int):=yE hi
   obtain⟨q1,q2,q3,q4⟩:=T.kid_par hc
   have hd:dep t.parents c=dep t.parents s+1:=by rw[T.dep_succ q1 q2,q3]
   obtain⟨n6,hn6,hl6⟩:=ih (t.parents.length-c) (by omega) c fuel rfl q2 (by omega)
   rw[Uv,hn6,bS]
   rcases hl6 with⟨p1,p2,p3⟩|⟨rfl,l1,l2,h1,h2,hne⟩
   .have e1:decide (n6<0)=false:=by simpa using p1
    rw[e1,Bool.false_or]
    by_cases h0:i=0
    .subst h0
     simp only[Int.natCast_zero,Int.lt_irrefl,decide_false,Bool.false_and,yM]
     refine hk n6 ⟨fun h=>by omega,fun _=>⟨p1,by omega,fun j c' hj hc' l hl=>?_⟩⟩
     have:j=0:=by omega
     subst this
     rw[hi]at hc';cases hc'
     rw[p3 l hl,hd];omega
    .have e2:decide ((0:Int)<(i:Int))=true:=by simp;omega
     obtain⟨r1,r2,r3⟩:=hI.2 (by omega)
     rw[e2,Bool.true_and]
     by_cases hv:n6=v
     .subst hv
      simp only[bne_self_eq_false,yM]
      refine hk n6 ⟨fun h=>by omega,fun _=>⟨p1,r2,fun j c' hj hc' l hl=>?_⟩⟩
      by_cases hji:j=i
      .subst hji
       rw[hi]at hc';cases hc'
       rw[p3 l hl,hd];omega
      .exact r3 j c' (by omega) hc' l hl
     .have e3:(n6 != v)=true:=by simpa using hv
      rw[e3,yN]
      refine⟨-1,rfl,.inr ⟨rfl,?_⟩⟩
      obtain⟨c0,hc0⟩:∃c0,(kids t.parents (s:Int))[0]?=some c0:=⟨_,yA (by have:=(yB hi).1;omega)⟩
      have hm0:=yE hc0
      obtain⟨w1,w2,w3,w4⟩:=T.kid_par hm0
      obtain⟨la,hla⟩:=T.some_leaf _ c0 rfl w2
      obtain⟨lb,hlb⟩:=T.some_leaf _ c rfl q2
      refine⟨la,lb,T.leaf_kid hm0 hla,T.leaf_kid hc hlb,fun e=>hv ?_⟩
      have a1:=r3 0 c0 (by omega) hc0 la hla
      have a2:=p3 lb hlb
      omega
   .refine⟨-1,by rfl,.inr ⟨rfl,l1,l2,T.leaf_kid hc h1,T.leaf_kid hc h2,hne⟩⟩
  .intro v hI
   rw[Vv]
   by_cases h0:(kids t.parents (s:Int)).length=0
   .rw[hI.1 h0]
    refine⟨0,rfl,.inl ⟨by omega,by omega,fun l hl=>?_⟩⟩
    rcases T.leaf_cases hl with rfl|⟨c,hc,_⟩
    .omega
    .rw[List.eq_nil_of_length_eq_zero h0]at hc;cases hc
   .obtain⟨r1,r2,r3⟩:=hI.2 (by omega)
    rw[Wc (by omega)]
    refine⟨v+1,rfl,.inl ⟨by omega,by omega,fun l hl=>?_⟩⟩
    rcases T.leaf_cases hl with rfl|⟨c,hc,hlc⟩
    .have:=hl.leaf
     rw[this]at h0;simp at h0
    .obtain⟨j,hj⟩:=List.getElem?_of_mem hc
     rw[r3 j c (yB hj).1 hj l hlc];omega
theorem M01{t:Topo}(T:TreeP t.parents){s:Nat}(hs:s<t.parents.length):∃v,V7 t (s:Int)=some v/\LevP t.parents s v :=
 L0g T _ s _ rfl hs (by have:=T.le;omega)
structure TopoP(t:Topo):Prop where
 tree:TreeP t.parents
 nodes:t.nodes.length<=24
 node:∀x∈t.nodes,0<=x.leaf/\x.leaf<t.parents.length/\kids t.parents x.leaf=[]/\X0 x.cap=true
 even:∀l1 l2,l1<t.parents.length->l2<t.parents.length->kids t.parents (l1:Int)=[]->kids t.parents (l2:Int)=[]->dep t.parents l1=dep t.parents l2
theorem YJ(t:Topo):∃b,Xc t=some b/\(b=true↔TopoP t):=by
 unfold Xc
 by_cases h1:t.parents.length<1
 .exact⟨false,by simp[show((t.parents.length:Int)<1) by omega],Ze fun h=>by have:=h.tree.pos;omega⟩
 by_cases h2:24<t.parents.length
 .exact⟨false,by simp[show((24:Int)<t.parents.length) by omega],Ze fun h=>by have:=h.tree.le;omega⟩
 by_cases h3:24<t.nodes.length
 .exact⟨false,by simp[show((24:Int)<t.nodes.length) by omega],Ze fun h=>by have:=h.nodes;omega⟩
 obtain⟨p0,hp0⟩:∃p0,t.parents[0]?=some p0:=⟨_,yA (by omega)⟩
 have e1:decide ((t.parents.length:Int)<1)=false:=by simp;omega
 have e2:decide ((24:Int)<(t.parents.length:Int))=false:=by simp;omega
 have e3:decide ((24:Int)<(t.nodes.length:Int))=false:=by simp;omega
 rw[e1,e2,e3]
 simp only[Bool.or_self,yM,Bool.false_or,show idx t.parents 0=some p0 from by rw[← hp0];exact U2 (i:=0),bS]
 by_cases h4:p0=0
 .subst h4
  simp only[bne_self_eq_false,yM]
  have h:=Z0e (bd:=Yh t) (fun(i:Nat) (_:Unit)=>(i:Int)) (n:=t.parents.length)
   (B:=fun x _ _ k=>bif (match t.parents[x]? with|some e=>decide (e<0)||decide ((x:Int)<=e)|none=>true)then some false else k ())
   (kk:=fun _=>rgl (Zh t) (Wq t) t.nodes 0 ()) (fun i st k hi=>by
    obtain⟨e,he⟩:∃e,t.parents[i]?=some e:=⟨_,yA hi⟩
    have hlt:(i:Int)<(t.parents.length:Int):=by omega
    simp only[Yh,hlt,decide_true,yN,U2,he,bS,Zc (n:=i) (by omega)])
   (fun i st k hi=>by
    have hlt:¬ (i:Int)<(t.parents.length:Int):=by omega
    simp only[Yh,hlt,decide_false,yM]) 9223372036854775807 1 () (by omega)
  rw[show(1:Int)=((1:Nat):Int) from rfl,h,Mh (p:=fun(x:Nat)=>match t.parents[x]? with|some e=>decide (e<0)||decide ((x:Int)<=e)|none=>true) (fun x _ i k=>rfl)]
  cases hany:(List.range' 1 (t.parents.length-1)).any (fun(x:Nat)=>match t.parents[x]? with|some e=>decide (e<0)||decide ((x:Int)<=e)|none=>true)with
  |true =>
   refine⟨false,rfl,Ze fun hT=>?_⟩
   obtain⟨x,hx,hq⟩:=List.any_eq_true.1 hany
   obtain⟨j,hj,rfl⟩:=List.mem_range'.1 hx
   obtain⟨e,he⟩:∃e,t.parents[1+1*j]?=some e:=⟨_,yA (by omega)⟩
   have:=hT.tree.par _ (by omega) e he
   rw[he]at hq
   simp at hq
   omega
  |false =>
   have T:TreeP t.parents:=⟨by omega,by omega,hp0,fun i hi p hp=>by
    have hlt:i<t.parents.length:=(yB hp).1
    have:=List.any_eq_false.1 hany i (List.mem_range'.2 ⟨i-1,by omega,by omega⟩)
    rw[hp]at this
    simp at this
    omega⟩
   rw[yM]
   have hb:∀x∈t.nodes,∀i k,Zh t x i () k=bif (!(decide (0<=x.leaf)&&decide (x.leaf<t.parents.length)&&(kids t.parents x.leaf).isEmpty&&X0 x.cap))then some false else k ():=by
    intro x _ i k
    unfold Zh
    by_cases q1:x.leaf<0
    .simp[q1,show ¬ 0<=x.leaf by omega]
    .by_cases q2:(t.parents.length:Int)<=x.leaf
     .simp[q1,q2,show ¬ x.leaf<t.parents.length by omega]
     .rw[show decide (x.leaf<0)=false by simpa using q1,show decide ((t.parents.length:Int)<=x.leaf)=false by simpa using q2]
      simp only[Bool.or_self,yM,Bool.false_or,Qq t x.leaf (by omega),bS,List.length_map]
      rw[show decide (0<=x.leaf)=true by simpa using q1,show decide (x.leaf<(t.parents.length:Int))=true by simpa using q2]
      cases hk:kids t.parents x.leaf with
      |nil=>simp
      |cons a l=>simp
   rw[Mh hb]
   cases hany2:t.nodes.any (fun x=>!(decide (0<=x.leaf)&&decide (x.leaf<t.parents.length)&&(kids t.parents x.leaf).isEmpty&&X0 x.cap))with
   |true =>
    refine⟨false,rfl,Ze fun hT=>?_⟩
    obtain⟨x,hx,hq⟩:=List.any_eq_true.1 hany2
    obtain⟨a1,a2,a3,a4⟩:=hT.node x hx
    simp[a1,a2,a3,a4]at hq
   |false =>
    obtain⟨v,hv,hl⟩:=M01 T (s:=0) (by omega)
    rw[yM,Wq,show(0:Int)=((0:Nat):Int) from rfl,hv,bS]
    have mem:∀l,l<t.parents.length->kids t.parents (l:Int)=[]->LeafP t.parents 0 l:=fun l h1 h2=>⟨h1,h2,T.zero_up l h1⟩
    refine⟨_,rfl,?_⟩
    rw[decide_eq_true_iff]
    constructor
    .intro h0
     refine⟨T,by omega,fun x hx=>?_,fun l1 l2 a1 a2 a3 a4=>?_⟩
     .have:=List.any_eq_false.1 hany2 x hx
      simpa[and_assoc]using this
     .rcases hl with⟨_,_,hl⟩|⟨rfl,_⟩
      .have:=hl l1 (mem l1 a1 a3)
       have:=hl l2 (mem l2 a2 a4)
       omega
      .simp at h0
    .intro hT
     rcases hl with⟨h0,_⟩|⟨rfl,l1,l2,a1,a2,hne⟩
     .exact h0
     .exact absurd (hT.even l1 l2 a1.lt a2.lt a1.leaf a2.leaf) hne
 .refine⟨false,by rw[show(p0 != 0)=true by simpa using h4];rfl,Ze fun h=>h4 ?_⟩
  have:=h.tree.root
  rw[hp0]at this;exact Option.some.inj this
theorem J0b(P:List Int)(s:Int)(hl:P.length<=1048576):Ww P s=some (kids P s).isEmpty:=by
 unfold Ww
 have h:=Z0e (bd:=Lh P s) (fun(i:Nat) (_:Unit)=>(i:Int)) (n:=P.length)
  (B:=fun x _ _ k=>bif P[x]?==some s then some false else k ()) (kk:=fun _=>some true) (fun i st k hi=>by
   obtain⟨e,he⟩:∃e,P[i]?=some e:=⟨_,yA hi⟩
   have hlt:(i:Int)<(P.length:Int):=by omega
   simp only[Lh,hlt,decide_true,yN,U2,he,bS,Zc (n:=i) (by omega)]
   rw[show(some e==some s)=(e==s) from rfl])
  (fun i st k hi=>by
   have hlt:¬ (i:Int)<(P.length:Int):=by omega
   simp only[Lh,hlt,decide_false,yM]) 9223372036854775807 1 () (by omega)
 refine h.trans ?_
 rw[Mh (p:=fun(x:Nat)=>P[x]?==some s) (fun x _ i k=>rfl)]
 unfold kids
 generalize List.range' 1 (P.length-1)=l
 induction l with
 |nil=>rfl
 |cons x l ih =>
  rw[List.any_cons,List.filter_cons]
  cases h:(P[x]?==some s)with
  |true=>simp
  |false=>simpa using ih
theorem ZZ{P:List Int}(T:TreeP P){s:Nat}(hs:s<P.length):Mw P (s:Int)=some (dep P s:Int):=by
 unfold Mw
 refine Y0e (fun _ r=>r=some (dep P s:Int)) (fun b=>b.1.toNat) (fun b=>∃m:Nat,b.1=(m:Int)/\m<P.length/\b.2+(dep P m:Int)=(dep P s:Int)/\0<=b.2) ?_ 9223372036854775807 _ ⟨s,rfl,hs,by simp,by simp⟩ (by have:=T.le;simp only;omega)
 rintro⟨x,n⟩ k ⟨m,hm,h1,h2,h3⟩ hk
 simp only at hm h2 hk h3
 subst hm
 have hle:=T.le
 have hdl:=W1x P s
 unfold QS
 by_cases h0:0<m
 .have hp:=T.par_lt (i:=m) (by omega) h1
  have hlt:(0:Int)<(m:Int):=by omega
  simp only[hlt,decide_true,yN,U2,hp.2,bS]
  have hd:=T.dep_succ (i:=m) (by omega) h1
  rw[Wc (by omega)]
  refine hk _ ⟨_,rfl,by omega,by simp only;omega,by simp only;omega⟩ (by simp only;omega)
 .have:m=0:=by omega
  subst this
  rw[M1C]at h2
  simp only[Int.natCast_zero,Int.lt_irrefl,decide_false,yM]
  congr 1
  omega
theorem X0I(t:Topo):∃b,Yi t=some b/\(b=true↔TopoP t):=by
 unfold Yi
 cases hw:Z0 (t.parents.length:Int) 1 24 with
 |false =>
  refine⟨false,by simp,Ze fun h=>?_⟩
  have:=h.tree.pos;have:=h.tree.le
  simp[Z0]at hw
  omega
 |true =>
 have hw':1<=t.parents.length/\t.parents.length<=24:=by simp[Z0]at hw;omega
 obtain⟨p0,hp0⟩:∃p0,t.parents[0]?=some p0:=⟨_,yA (by omega)⟩
 simp only[yL,yM,Bool.false_or,show idx t.parents 0=some p0 from by rw[← hp0];exact U2 (i:=0),bS]
 by_cases h4:p0=0
 rotate_left
 .refine⟨false,by rw[show(p0 != 0)=true by simpa using h4];rfl,Ze fun h=>h4 ?_⟩
  have:=h.tree.root
  rw[hp0]at this;exact Option.some.inj this
 subst h4
 by_cases h3:24<t.nodes.length
 .exact⟨false,by simp[show((24:Int)<t.nodes.length) by omega],Ze fun h=>by have:=h.nodes;omega⟩
 have e3:decide ((24:Int)<(t.nodes.length:Int))=false:=by simp;omega
 rw[e3]
 simp only[bne_self_eq_false,Bool.or_self,yM]
 have h:=Z0e (bd:=Zi t) (fun(i:Nat) (_:Unit)=>(i:Int)) (n:=t.parents.length)
  (B:=fun x _ _ k=>bif (match t.parents[x]? with|some e=>!(Z0 e 0 (w64 ((x:Int)-1)))|none=>true)then some false else k ())
  (kk:=fun _=>rgl (Zt t) (Ls t) t.parents 0 (-1)) (fun i st k hi=>by
   obtain⟨e,he⟩:∃e,t.parents[i]?=some e:=⟨_,yA hi⟩
   have hlt:(i:Int)<(t.parents.length:Int):=by omega
   simp only[Zi,hlt,decide_true,yN,U2,he,bS,Zc (n:=i) (by omega)])
  (fun i st k hi=>by
   have hlt:¬ (i:Int)<(t.parents.length:Int):=by omega
   simp only[Zi,hlt,decide_false,yM]) 9223372036854775807 1 () (by omega)
 rw[show(1:Int)=((1:Nat):Int) from rfl,h,Mh (p:=fun(x:Nat)=>match t.parents[x]? with|some e=>!(Z0 e 0 (w64 ((x:Int)-1)))|none=>true) (fun x _ i k=>rfl)]
 cases hany:(List.range' 1 (t.parents.length-1)).any (fun(x:Nat)=>match t.parents[x]? with|some e=>!(Z0 e 0 (w64 ((x:Int)-1)))|none=>true)with
 |true =>
  refine⟨false,rfl,Ze fun hT=>?_⟩
  obtain⟨x,hx,hq⟩:=List.any_eq_true.1 hany
  obtain⟨j,hj,rfl⟩:=List.mem_range'.1 hx
  obtain⟨e,he⟩:∃e,t.parents[1+1*j]?=some e:=⟨_,yA (by omega)⟩
  have:=hT.tree.par _ (by omega) e he
  rw[he]at hq
  simp only at hq
  rw[Wc (by omega)]at hq
  simp[Z0]at hq
  omega
 |false =>
  have T:TreeP t.parents:=⟨by omega,by omega,hp0,fun i hi p hp=>by
   have hlt:i<t.parents.length:=(yB hp).1
   have:=List.any_eq_false.1 hany i (List.mem_range'.2 ⟨i-1,by omega,by omega⟩)
   rw[hp]at this
   simp only at this
   rw[Wc (by omega)]at this
   simp[Z0]at this
   omega⟩
  rw[yM]
  refine Ud (fun i (v:Int)=>(v = -1/\∀l,l<i->kids t.parents (l:Int)≠[])\/(0<=v/\(∃l,l<i/\kids t.parents (l:Int)=[])/\∀l,l<i->kids t.parents (l:Int)=[]->(dep t.parents l:Int)=v))
   (fun r=>∃b,r=some b/\(b=true↔TopoP t)) ?_ ?_ (.inl ⟨rfl,fun l hl=>by omega⟩)
  .intro i x v k hi hI hk
   have hil:i<t.parents.length:=(yB hi).1
   rw[Zt,J0b _ _ (by omega),bS]
   cases hkd:kids t.parents (i:Int)with
   |cons a l =>
    simp only[List.isEmpty_cons,Bool.not_false,yN]
    refine hk v ?_
    rcases hI with⟨q1,q2⟩|⟨q1,⟨l0,q2,q3⟩,q4⟩
    .refine .inl ⟨q1,fun l hl=>?_⟩
     by_cases e:l=i
     .subst e;rw[hkd];simp
     .exact q2 l (by omega)
    .refine .inr ⟨q1,⟨l0,by omega,q3⟩,fun l hl hl2=>?_⟩
     by_cases e:l=i
     .subst e;rw[hkd]at hl2;cases hl2
     .exact q4 l (by omega) hl2
   |nil =>
    simp only[List.isEmpty_nil,yL,yM,ZZ T hil,bS]
    have hnew:∀v',(∀l,l<i->kids t.parents (l:Int)=[]->(dep t.parents l:Int)=dep t.parents i)->v'=(dep t.parents i:Int)->(v' = -1/\∀l,l<i+1->kids t.parents (l:Int)≠[])\/(0<=v'/\(∃l,l<i+1/\kids t.parents (l:Int)=[])/\∀l,l<i+1->kids t.parents (l:Int)=[]->(dep t.parents l:Int)=v'):=by
     intro v' hq e
     subst e
     refine .inr ⟨by omega,⟨i,by omega,hkd⟩,fun l hl hl2=>?_⟩
     by_cases e:l=i
     .subst e;rfl
     .exact hq l (by omega) hl2
    rcases hI with⟨rfl,q2⟩|⟨q1,⟨l0,q2,q3⟩,q4⟩
    .simp only[show decide ((0:Int)<=-1)=false from rfl,Bool.false_and,yM]
     exact hk _ (hnew _ (fun l hl hl2=>absurd hl2 (q2 l hl)) rfl)
    .by_cases he:(dep t.parents i:Int)=v
     .rw[he]
      simp only[bne_self_eq_false,Bool.and_false,yM]
      exact hk _ (hnew _ (fun l hl hl2=>by rw[q4 l hl hl2,he]) he.symm)
     .have e1:((dep t.parents i:Int)!=v)=true:=by simpa using he
      rw[e1,show decide (0<=v)=true by simpa using q1]
      refine⟨false,rfl,Ze fun hT=>he ?_⟩
      rw[← q4 l0 q2 q3]
      exact_mod_cast hT.even i l0 hil (by omega) hkd q3
  .intro v hI
   rw[Ls]
   have hb:∀x∈t.nodes,∀i k,Js t x i () k=bif (!(decide (0<=x.leaf)&&decide (x.leaf<t.parents.length)&&(kids t.parents x.leaf).isEmpty&&X0 x.cap))then some false else k ():=by
    intro x _ i k
    unfold Js
    rw[Wc (by omega)]
    by_cases q1:x.leaf<0
    .simp[Z0,show ¬ 0<=x.leaf by omega]
    .by_cases q2:(t.parents.length:Int)<=x.leaf
     .simp[Z0,show ¬ x.leaf<t.parents.length by omega,show ¬ x.leaf<=(t.parents.length:Int)-1 by omega]
     .have e:Z0 x.leaf 0 ((t.parents.length:Int)-1)=true:=by simp[Z0];omega
      rw[e]
      simp only[yL,yM,Bool.false_or,J0b t.parents x.leaf (by omega),bS,Mj]
      rw[show decide (0<=x.leaf)=true by simpa using q1,show decide (x.leaf<(t.parents.length:Int))=true by simpa using q2]
      cases(kids t.parents x.leaf).isEmpty<;>cases X0 x.cap<;>rfl
   rw[Mh hb]
   cases hany2:t.nodes.any (fun x=>!(decide (0<=x.leaf)&&decide (x.leaf<t.parents.length)&&(kids t.parents x.leaf).isEmpty&&X0 x.cap))with
   |true =>
    refine⟨false,rfl,Ze fun hT=>?_⟩
    obtain⟨x,hx,hq⟩:=List.any_eq_true.1 hany2
    obtain⟨a1,a2,a3,a4⟩:=hT.node x hx
    simp[a1,a2,a3,a4]at hq
   |false =>
    refine⟨true,rfl,⟨fun _=>⟨T,by omega,fun x hx=>?_,fun l1 l2 a1 a2 a3 a4=>?_⟩,fun _=>rfl⟩⟩
    .have:=List.any_eq_false.1 hany2 x hx
     simpa[and_assoc]using this
    .rcases hI with⟨_,q2⟩|⟨q1,_,q4⟩
     .exact absurd a3 (q2 l1 a1)
     .have:=q4 l1 a1 a3
      have:=q4 l2 a2 a4
      omega
theorem OS(t:Topo):Yi t=Xc t:=by
 obtain⟨a,h1,h2⟩:=X0I t
 obtain⟨b,h3,h4⟩:=YJ t
 rw[h1,h3]
 congr 1
 exact Bool.eq_iff_iff.2 (h2.trans h4.symm)
noncomputable def topoOk(t:Topo):Bool:=(Xc t).getD false
theorem Zl(t:Topo):Xc t=some (topoOk t):=by
 obtain⟨b,h3,_⟩:=YJ t
 rw[topoOk,h3];rfl
theorem MH{t:Topo}:topoOk t=true↔TopoP t:=by
 obtain⟨b,h3,h4⟩:=YJ t
 rw[topoOk,h3];exact h4
theorem TopoP.last{t:Topo}(h:TopoP t):kids t.parents ((t.parents.length-1:Nat):Int)=[]:=by
 cases hk:kids t.parents ((t.parents.length-1:Nat):Int)with
 |nil=>rfl
 |cons c l =>
  obtain⟨q1,q2,q3,q4⟩:=h.tree.kid_par (s:=t.parents.length-1) (c:=c) (by rw[hk];exact yJ ..)
  omega
def lev(t:Topo)(s:Nat):Int:=(dep t.parents (t.parents.length-1):Int)-dep t.parents s
theorem Wb{t:Topo}(h:TopoP t){s:Nat}(hs:s<t.parents.length):V7 t (s:Int)=some (lev t s):=by
 obtain⟨v,h1,h2⟩:=M01 h.tree hs
 rw[h1]
 have hp:=h.tree.pos
 obtain⟨l,hl⟩:=h.tree.some_leaf _ s rfl hs
 rcases h2 with⟨_,_,h2⟩|⟨_,l1,l2,a1,a2,hne⟩
 .have e1:=h2 l hl
  have e2:=h.even l (t.parents.length-1) hl.lt (by omega) hl.leaf h.last
  unfold lev
  congr 1
  omega
 .exact absurd (h.even l1 l2 a1.lt a2.lt a1.leaf a2.leaf) hne
theorem Us{t:Topo}(h:TopoP t){s:Nat}(hs:s<t.parents.length):Up t (s:Int)=some (lev t s):=by
 have hp:=h.tree.pos
 have hle:=h.tree.le
 unfold Up LY
 rw[Wc (by omega),show((t.parents.length:Int)-1)=((t.parents.length-1:Nat):Int) by omega,ZZ h.tree (by omega),bS,bS,ZZ h.tree hs,bS]
 have:=W1x t.parents (t.parents.length-1)
 have:=W1x t.parents s
 rw[Wc (by omega)];rfl
theorem L0W{t:Topo}(T:TreeP t.parents){s:Nat}(hs:s<t.parents.length):Jo t (s:Int)=some ((ups t.parents s).map fun(i:Nat)=>(i:Int)):=by
 unfold Jo
 refine Y0e (fun _ r=>r=some ((ups t.parents s).map fun(i:Nat)=>(i:Int))) (fun b=>b.1.toNat) (fun b=>∃m:Nat,b.1=(m:Int)/\m<t.parents.length/\b.2.length+m<=1000/\∃l,b.2=l++[(m:Int)]/\(ups t.parents s).map (fun(i:Nat)=>(i:Int))=l++(ups t.parents m).map fun(i:Nat)=>(i:Int)) ?_ 9223372036854775807 _ ⟨s,rfl,hs,by have:=T.le;simp;omega,[],by simp⟩ (by have:=T.le;simp only;omega)
 rintro⟨x,n⟩ k ⟨m,hm,h1,h2,l,h3,h4⟩ hk
 simp only at hm h2 hk h3
 subst hm
 have hle:=T.le
 unfold VR
 by_cases h0:0<m
 .have hp:=T.par_lt (i:=m) (by omega) h1
  have hlt:(0:Int)<(m:Int):=by omega
  simp only[hlt,decide_true,yN,U2,hp.2,bS]
  rw[U0 (by simp;omega),bS]
  refine hk _ ⟨_,rfl,by omega,by simp;omega,n,rfl,?_⟩ (by simp only;omega)
  rw[h4,h3,T.ups_succ (by omega) h1]
  simp
 .have:m=0:=by omega
  subst this
  simp only[Int.natCast_zero,Int.lt_irrefl,decide_false,yM]
  rw[h4,h3,Y0W];rfl
theorem Q0j(t:Topo)(s:Int):ZX t s=Jo t s:=rfl
theorem X9(l:List Int)(n:Int):M9 l n=some (l.contains n):=by
 unfold M9
 rw[Mh (p:=fun x=>x==n) (fun x _ i k=>rfl)]
 unfold JI
 rw[show l.contains n=l.any (fun x=>x==n) from by rw[List.contains_eq_any_beq];congr 1;funext x;exact Bool.beq_comm]
 cases l.any fun x=>x==n<;>rfl
theorem Z0B(l:List Int)(n:Int):∃r:Int,M8 l n=some r/\decide (0<=r)=l.contains n:=by
 unfold M8
 refine Ud (fun i (_:Unit)=>∀j x,j<i->l[j]?=some x->x≠n) (fun r=>∃m:Int,r=some m/\decide (0<=m)=l.contains n) ?_ ?_ (fun j x h=>by omega)
 .intro i x b k hi hI hk
  unfold Xd
  by_cases h:n=x
  .subst h
   simp only[beq_self_eq_true,yN]
   refine⟨i,rfl,?_⟩
   have:l.contains n=true:=List.contains_iff_mem.2 (yE hi)
   rw[this];simp
  .rw[show(n==x)=false by simpa using h,yM]
   refine hk () fun j y hj hy=>?_
   by_cases e:j=i
   .subst e;rw[hi]at hy;cases hy;exact fun e=>h e.symm
   .exact hI j y (by omega) hy
 .intro b hI
  refine⟨-1,rfl,?_⟩
  have:l.contains n=false:=by
   rw[Bool.eq_false_iff]
   intro h
   obtain⟨j,hj⟩:=List.getElem?_of_mem (List.contains_iff_mem.1 h)
   exact hI j n (yB hj).1 hj rfl
  rw[this];rfl
theorem Ob(l:List Int)(n:Int):X2 l n=some (l.contains n):=by
 obtain⟨r,h1,h2⟩:=Z0B l n
 unfold X2
 rw[h1,bS,h2]
noncomputable def J3(t:Topo)(l:List Int):Bool:=l.all (fun n=>decide (0<=n)&&decide (n<t.nodes.length))&&topoOk t
theorem J2{t:Topo}{l:List Int}:J3 t l=true↔TopoP t/\∀n∈l,0<=n/\n<t.nodes.length:=by
 simp[J3,MH,and_comm]
theorem Qm(t:Topo)(l:List Int):Qb t l=some (J3 t l):=by
 unfold Qb J3
 rw[Mh (r:=some false) (p:=fun(x:Int)=>!(decide (0<=x)&&decide (x<t.nodes.length))) (fun x _ i k=>by
  unfold Xj
  by_cases h1:x<0
  .simp[h1,show ¬ 0<=x by omega]
  .by_cases h2:(t.nodes.length:Int)<=x
   .simp[h1,h2,show 0<=x by omega,show ¬ x<t.nodes.length by omega]
   .simp[h1,h2,show 0<=x by omega,show x<t.nodes.length by omega])]
 unfold Yj
 rw[Zl,← List.not_all_eq_any_not]
 cases l.all fun n=>decide (0<=n)&&decide (n<t.nodes.length)<;>rfl
theorem W02(t:Topo)(l:List Int)(hl:t.nodes.length<=1048576):Oj t l=some (J3 t l):=by
 rw[← Qm]
 unfold Oj Qb
 refine M0h (fun i x b k _=>?_) fun b=>?_
 .unfold Yx Xj
  rw[Wc (by omega)]
  by_cases h1:x<0
  .simp[Z0,h1,show ¬ 0<=x by omega]
  .by_cases h2:(t.nodes.length:Int)<=x
   .simp[Z0,h1,h2,show 0<=x by omega,show ¬ x<=(t.nodes.length:Int)-1 by omega]
   .simp[Z0,h1,h2,show 0<=x by omega,show x<=(t.nodes.length:Int)-1 by omega]
 .unfold Zx Yj
  rw[OS]
def hasUp(t:Topo)(n:Int)(s:Nat):Bool:=match idx t.nodes n with
 |some e=>((ups t.parents e.leaf.toNat).map fun(i:Nat)=>(i:Int)).contains (s:Int)
 |none=>false
theorem MA{t:Topo}{l:List Int}(h:J3 t l=true){n:Int}(hn:n∈l):∃(e:Node) (m:Nat),idx t.nodes n=some e/\e.leaf=m/\m<t.parents.length:=by
 obtain⟨h1,h2⟩:=J2.1 h
 obtain⟨e,q1,q2⟩:=U0z (l:=t.nodes) (i:=n) (h2 n hn).1 (h2 n hn).2
 obtain⟨a1,a2,_,_⟩:=h1.node e (yE q2)
 exact⟨e,e.leaf.toNat,q1,by omega,by omega⟩
theorem J14{t:Topo}{l:List Int}(h:J3 t l=true){n:Int}(hn:n∈l)(s:Nat){γ:Type}(f:Bool->Option γ) :
  ((idx t.nodes n).bind fun e=>(Jo t e.leaf).bind fun y=>(M9 y (s:Int)).bind f)=f (hasUp t n s):=by
 obtain⟨e,m,q1,q2,q3⟩:=MA h hn
 have T:=(J2.1 h).1.tree
 unfold hasUp
 rw[q1,bS,q2,L0W T q3,bS,X9,bS]
 simp[q2]
theorem M1n{t:Topo}{l:List Int}(h:J3 t l=true){n:Int}(hn:n∈l):hasUp t n 0=true:=by
 obtain⟨e,m,q1,q2,q3⟩:=MA h hn
 have T:=(J2.1 h).1.tree
 unfold hasUp
 rw[q1]
 simp only[List.contains_iff_mem,q2]
 exact List.mem_map.2 ⟨0,T.zero_up _ (by simpa using q3),rfl⟩
theorem Y16(p:Int->Bool):∀(l:List Int) (v:Bool),l.foldl (fun v x=>v&&p x) v=(v&&l.all p)
 |[],v=>by simp
 |x::l,v=>by rw[List.foldl_cons,Y16 p l,List.all_cons,Bool.and_assoc]
theorem M1z{t:Topo}{l:List Int}(h:J3 t l=true)(s:Nat)(v5:Int)(k:Int->Option Int) :
  rgl (Uh t s) (Zd t v5 s k) l 0 true=Zd t v5 s k (l.all fun n=>hasUp t n s) /\
  rgl (Xi t s) (Ld t v5 s k) l 0 true=Ld t v5 s k (l.all fun n=>hasUp t n s):=by
 constructor
 .rw[JJ (f:=fun v x=>v&&hasUp t x s) (fun x hx i b k=>by
   unfold Uh
   rw[J14 h hx s (fun b10=>bif (!b10)then k false else k b)]
   cases hasUp t x s<;>simp),Y16,Bool.true_and]
 .rw[JJ (f:=fun v x=>v&&hasUp t x s) (fun x hx i b k=>by
   unfold Xi
   cases b with
   |false=>simp only[yM,Bool.false_and];rfl
   |true =>
    simp only[yN,Bool.true_and]
    rw[← J14 h hx s k]
    congr 1;funext e;rw[Q0j];congr 1;funext y;rw[Ob,X9]),Y16,Bool.true_and]
theorem L1f{t:Topo}{l:List Int}(h:J3 t l=true)(hne:l≠[]):∃s:Nat,s<t.parents.length/\Zo t l=some (s:Int)/\Qx t l=some (s:Int):=by
 have hT:=(J2.1 h).1
 have hnl:=hT.nodes
 have hpos:=hT.tree.pos
 have e1:((l.length:Int)==0)=false:=by
  cases l with
  |nil=>exact absurd rfl hne
  |cons a l=>simp;omega
 have step:∀(i:Nat) (b:Int) (k:Int->Option Int),i<t.parents.length->(b = -1\/∃s:Nat,b=s/\s<t.parents.length) ->
   rgl (Uh t i) (Zd t b i k) l 0 true=k (bif (l.all fun n=>hasUp t n i)&&(decide (b<0)||decide (lev t i<=lev t b.toNat))then(i:Int)else b) /\
   rgl (Xi t i) (Ld t b i k) l 0 true=k (bif (l.all fun n=>hasUp t n i)&&(decide (b<0)||decide (lev t i<=lev t b.toNat))then(i:Int)else b):=by
  intro i b k hi hb
  obtain⟨q1,q2⟩:=M1z h i b k
  rw[q1,q2]
  unfold Zd Ld
  cases hall:l.all fun n=>hasUp t n i with
  |false=>exact⟨rfl,rfl⟩
  |true =>
   rcases hb with rfl|⟨s,rfl,hs⟩
   .exact⟨rfl,rfl⟩
   .have hn:decide ((s:Int)<0)=false:=by simp
    simp only[hn,yN,yM,Bool.true_and,Bool.false_or,Wb hT hi,Wb hT hs,Us hT hi,Us hT hs,bS,yZ]
    cases decide (lev t i<=lev t s)<;>exact⟨rfl,rfl⟩
 have fin:∀(bd:Int->Nat->Int->(Int->Option Int)->Option Int) (kk:Int->Option Int),kk=some->(∀(x:Int) (i:Nat) (b:Int) (k:Int->Option Int),i<t.parents.length->(b = -1\/∃s:Nat,b=s/\s<t.parents.length)->bd x i b k=k (bif (l.all fun n=>hasUp t n i)&&(decide (b<0)||decide (lev t i<=lev t b.toNat))then(i:Int)else b)) ->
   ∃s:Nat,s<t.parents.length/\rgl bd kk t.parents 0 (-1)=some (s:Int):=by
  intro bd kk hkk hbd
  refine Ud (fun i (b:Int)=>(i=0/\b = -1)\/(0<i/\∃s:Nat,b=s/\s<t.parents.length)) (fun r=>∃s:Nat,s<t.parents.length/\r=some (s:Int)) ?_ ?_ (.inl ⟨rfl,rfl⟩)
  .intro i x b k hi hI hk
   have hil:=(yB hi).1
   rw[hbd x i b k hil (by rcases hI with h|h;exact .inl h.2;exact .inr h.2)]
   refine hk _ (.inr ⟨by omega,?_⟩)
   rcases hI with⟨rfl,rfl⟩|⟨_,s,rfl,hs⟩
   .rw[show(l.all fun n=>hasUp t n 0)=true from List.all_eq_true.2 fun n hn=>M1n h hn]
    exact⟨0,rfl,hpos⟩
   .cases((l.all fun n=>hasUp t n i)&&(decide ((s:Int)<0)||decide (lev t i<=lev t (s:Int).toNat)))with
    |true=>exact⟨i,rfl,hil⟩
    |false=>exact⟨s,rfl,hs⟩
  .intro b hI
   rcases hI with⟨h0,_⟩|⟨_,s,rfl,hs⟩
   .omega
   .exact⟨s,hs,by rw[hkk]⟩
 have eq:rgl (Xt t l) VM t.parents 0 (-1)=rgl (Yd t l) Lq t.parents 0 (-1):=by
  refine W0Y (fun i (b c:Int)=>b=c/\(b = -1\/∃s:Nat,b=s/\s<t.parents.length)) rfl (fun i x y b c k k2 hx hy hr hk=>?_) (fun b c hr=>by rw[hr.1];rfl) ⟨rfl,.inl rfl⟩
  obtain⟨rfl,hb⟩:=hr
  have hil:=(yB hx).1
  unfold Xt Yd
  rw[(step i b k hil hb).2,(step i b k2 hil hb).1]
  refine hk _ _ ⟨rfl,?_⟩
  cases((l.all fun n=>hasUp t n i)&&(decide (b<0)||decide (lev t i<=lev t b.toNat)))with
  |true=>exact .inr ⟨i,rfl,hil⟩
  |false=>exact hb
 obtain⟨s,h1,h2⟩:=fin (Yd t l) Lq rfl fun x i b k hi hb=>by unfold Yd;exact(step i b k hi hb).1
 refine⟨s,h1,?_,?_⟩
 .unfold Zo
  rw[Qm,h,bS,e1]
  exact h2
 .unfold Qx
  rw[W02 t l (by omega),h,bS,e1]
  exact eq.trans h2
def L0O:L :=
sR [.bx 1 0,.mv 2 (cB false)]
 (.seq (sR [fA 5 1 0,lF 6 5 1,.ln 7 6,.bi 8 .lss 7 (kI 1),mV 9 8,gF 9 (fA 10 1 0),gF 9 (lF 11 10 1),gF 9 (.ln 12 11),gF 9 (.bi 13 .gtr 12 (kI 200)),.pk 14 9 (cB true) 13,mV 15 14,gF 15 (fA 16 1 0),gF 15 (lF 17 16 1),gF 15 (.ia 18 17 (kI 0) 4),gF 15 (fA 19 18 0),gF 15 (lF 20 19 1),gF 15 (.bi 21 .neq 20 (kI 0)),.pk 22 15 (cB true) 21]
 (.cond 22 (.seq (rE 2 (cB false))
 gR)
 .skip))
 (.seq (sR [fA 23 1 0,lF 24 23 1,.ln 25 24,.mv 26 (kI 0)]
 (.blk 0 (.loop (.gw (sR [bI 27 .lss 26 25]
 (.seq (.cond 27 .skip
 (.exit 0))
 (.seq (.blk 1 (sR [mV 28 26,iA 29 24 26 4,lT 30 29 4,.al 4 [.int .i64 0,.int .i64 0,.int .i64 0,.int .i64 0],mV 3 28,.st 4 30 4]
 (.seq (.rq 38 [fA 31 4 0,lF 32 31 1,cQ 33 W7 [32],.un 34 33,mV 35 34,gF 35 (fA 36 4 1),gF 35 (lT 37 36 3),gF 35 (cQ 38 O4 [37]),gF 35 (.un 39 38),.pk 40 35 (cB true) 39,mV 41 40,gF 41 (mV 42 3),gF 41 (.bi 43 .gtr 42 (kI 0)),gF 41 (mV 44 43),gT 44 (fA 45 1 0),gT 44 (lF 46 45 1),gT 44 (mV 47 3),gT 44 (.bi 48 .sub 47 (kI 1)),gT 44 (iA 49 46 48 4),gT 44 (fA 50 49 0),gT 44 (lF 51 50 1),gT 44 (fA 52 4 0),gT 44 (lF 53 52 1),gT 44 (bI 54 .geq 51 53),gT 44 (mV 55 54),gF 55 (fA 56 1 0),gF 55 (lF 57 56 1),gF 55 (mV 58 3),gF 55 (.bi 59 .sub 58 (kI 1)),gF 55 (iA 60 57 59 4),gF 55 (fA 61 60 1),gF 55 (lT 62 61 3),gF 55 (fA 63 4 1),gF 55 (lT 64 63 3),gF 55 (.es 65 false [0,0,0] 62 64),gT 44 (.pk 66 55 (cB true) 65),gF 41 (.pk 67 44 66 (cB false)),.pk 68 41 (cB true) 67])
 (.cond 68 (.seq (rE 2 (cB false))
 gR)
 .skip))))
 (.reg [.bi 69 .add 26 (kI 1),mV 26 69]))))))))
 (.seq (rE 2 (cB true))
 gR)))
def VJ(p1:List Pt)(x5:Pt)(i5:Nat)(_:Unit)(k5:Unit->Option Bool):Option Bool :=
 (bif ((!(W4 x5.t))||(!(X0 x5.free)))then some default else(bif (decide (0<(i5:Int)))then(idx p1 (w64 ((i5:Int)-1)))else some default)).bind fun e6=>(bif ((!(W4 x5.t))||(!(X0 x5.free)))then some default else(bif (decide (0<(i5:Int)))then(bif (decide (x5.t<=e6.t))then some default else(idx p1 (w64 ((i5:Int)-1))))else some default)).bind fun e7=>bif (((!(W4 x5.t))||(!(X0 x5.free)))||((decide (0<(i5:Int)))&&((decide (x5.t<=e6.t))||(e7.free.a==x5.free.a&&(e7.free.b==x5.free.b&&(e7.free.c==x5.free.c&&true))))))then(some false)else(k5 ())
def V04(_:Unit):Option Bool :=
 some true
def U8(p1:List Pt):Option Bool :=
 (bif ((decide ((p1.length:Int)<1))||(decide (200<(p1.length:Int))))then some default else(idx p1 0)).bind fun e2=>bif (((decide ((p1.length:Int)<1))||(decide (200<(p1.length:Int))))||(e2.t != 0))then(some false)else(rgl (VJ p1) V04 p1 0 ())
theorem Qy{p1:List Pt}{r:Bool}(H:U8 p1=some r):Snd Tryz.prog Jt [.agg [rV 4 (p1.map ePt)]] (.bool r) []:=by
 refine wS L0O [.t 2] ?_
 unfold U8 at H
 obtain⟨e2,h2,H⟩:=bB H
 refine wG [.u 7 (.ln _ _ fun _=>lm p1 ePt),.g 12 [((decide ((p1.length:Int)<1)),false)] (.ln _ _ fun _=>lm p1 ePt),.g 18 [(_,false)] (.ix _ _ _ fun q=>Y0 ePt (bF q.1 h2))] fun q3=>?_
 refine V0 H (fun H=>?_) fun H=>?_
 .obtain rfl:=sI H
  exact wP (wE [(2,.d)])
 .refine wG [.u 25 (.ln _ _ fun _=>lm p1 ePt)] fun q4=>?_
  refine wR (fun(i5:Nat) (v5:Unit)=>⟨[(1,.ptr 1 0),(24,rV 4 (p1.map ePt)),(25,iV (p1.length:Int)),(26,iV (i5:Int))],[],[(1,[rV 4 (p1.map ePt)])],[]⟩) H (fun i5 x5 v5 I m k5 hxv5 hiv5 H N27=>?_) (fun v5 I m H=>?_)
  .unfold VJ at H
   refine wP ?_
   refine wt (ltT hiv5) ?_
   obtain⟨e6,h6,H⟩:=bB H
   obtain⟨e7,h7,H⟩:=bB H
   refine wG [.u 29 (.ix _ _ _ fun _=>Y0 ePt (Q0 hxv5)),.c 33 (L9 x5.t),.g 38 [((!(W4 x5.t)),false)] (.call _ _ _ _ _ (AEs.refl _) (fun _=>L4 x5.free)),.g 49 [(_,true),(_,false)] (.ix _ _ _ fun q=>Y0 ePt (bT q.1 (bF q.2.1 h6))),.g 60 [(_,false),(_,true),(_,false)] (.ix _ _ _ fun q=>Y0 ePt (bF q.1 (bT q.2.1 (bF q.2.2.1 h7))))] fun _=>?_
   refine V0 H (fun H=>?_) fun H=>?_
   .obtain rfl:=sI H
    exact wP (wE [(2,.d)])
   .refine wG [.w 69 (wi .i64 rfl hiv5 q3.1)] fun _=>?_
    exact wT (N27 () H)
  .unfold V04 at H
   refine wP ?_
   refine wf (ltF p1.length) ?_
   obtain rfl:=sI H
   exact wP (wE [(2,.d)])
def X0G:L :=
sR [.bx 1 0,.al 2 [.nl],.mv 3 (cB false)]
 (.seq (sR [lT 4 1 3,cQ 5 O4 [4],.un 6 5]
 (.cond 6 (sR [.bd 7 [.nl] [],.st 2 7 1,.mv 3 (cB false)]
 gR)
 .skip))
 (sR [lT 8 1 3,.bd 9 [.int .i64 0,.int .i64 0,.int .i64 0,.int .i64 0] [(1,3,8)],.bs 10 4 [9] true,.bd 11 [.nl] [(0,1,10)],.st 2 11 1,.mv 3 (cB true)]
 gR))
def Wy(v1:Vec):Option ((List Pt)×Bool) :=
 bif (!(X0 v1))then(some ([],false))else(some ([(Pt.mk 0 v1)],true))
theorem Y0n{v1:Vec}{r:(List Pt)×Bool}(H:Wy v1=some r):Snd Tryz.prog Mz [eVec v1] (.tup [O1 .nw r.1,.bool r.2]) []:=by
 refine wS X0G [.c 2 1 true,.t 3] ?_
 unfold Wy at H
 refine wG [.c 5 (L4 v1)] fun _=>?_
 refine V0 H (fun H=>?_) fun H=>?_
 .refine wP ?_
  replace H:=sI H;subst H
  exact wN [(2,.d),(3,.d)] [(2,[.n 4])] [] [] [] [⟨_,Xg ([]:List Pt)⟩]
 .refine wP ?_
  replace H:=sI H;subst H
  exact wN [(2,.d),(3,.d)] [(2,[.f])] [] [10] [] [⟨_,Xg [(Pt.mk 0 v1)]⟩]
def U5(v1:Vec):(List Pt)×Bool :=
 bif (!(X0 v1))then(([],false))else(([(Pt.mk 0 v1)],true))
theorem Y0L(v1:Vec):Wy v1=some (U5 v1):=by
 unfold Wy U5
 first|rfl|simp only[Z2]
theorem Q04(v1:Vec):Snd Tryz.prog Mz [eVec v1] (.tup [O1 .nw ((U5 v1).1),.bool ((U5 v1).2)]) []:=Y0n (Y0L v1)
def M11:L :=
sR [.bx 2 0,.al 4 [.int .i64 0,.int .i64 0,.int .i64 0]]
 (sR [.bd 8 [.int .i64 0,.int .i64 0,.int .i64 0] [],.al 5 [.int .i64 0,.int .i64 0,.int .i64 0],.st 5 8 3]
 (.seq (sR [fA 9 2 0,lF 10 9 1,.ln 11 10,.mv 12 (kI 0)]
 (.blk 0 (.loop (.gw (sR [bI 13 .lss 12 11]
 (.seq (.cond 13 .skip
 (.exit 0))
 (.seq (.blk 1 (sR [iA 14 10 12 4,lT 15 14 4,.al 7 [.int .i64 0,.int .i64 0,.int .i64 0,.int .i64 0],.st 7 15 4]
 (sR [fA 16 7 0,lF 17 16 1,mV 18 1,bI 19 .leq 17 18]
 (.cond 19 (.reg [fA 20 7 1,lT 21 20 3,.st 5 21 3])
 .skip))))
 (.reg [.bi 22 .add 12 (kI 1),mV 12 22]))))))))
 (sR [lT 23 5 3,.st 4 23 3]
 gR)))
def XR(t2:Int)(x4:Pt)(_:Nat)(v4:Vec)(k4:Vec->Option Vec):Option Vec :=
 bif (decide (x4.t<=t2))then(k4 x4.free)else(k4 v4)
def Z0b(v4:Vec):Option Vec :=
 some v4
def LH(p1:List Pt)(t2:Int):Option Vec :=
 rgl (XR t2) Z0b p1 0 (Vec.mk 0 0 0)
theorem W0g{p1:List Pt}{t2:Int}{r:Vec}(H:LH p1 t2=some r):Snd Tryz.prog L07 [.agg [rV 4 (p1.map ePt)],iV t2] (eVec r) []:=by
 refine wS M11 [.c 4 3 true] ?_
 unfold LH at H
 refine wG [.u 11 (.ln _ _ fun _=>lm p1 ePt)] fun q3=>?_
 refine wR (fun(i4:Nat) (v4:Vec)=>⟨[(1,iV t2),(4,.ptr 4 0),(5,.ptr 5 0),(10,rV 4 (p1.map ePt)),(11,iV (p1.length:Int)),(12,iV (i4:Int))],[],[(4,(eVec (Vec.mk 0 0 0)).cells),(5,(eVec v4).cells)],[]⟩) H (fun i4 x4 v4 I m k4 hxv4 hiv4 H N19=>?_) (fun v4 I m H=>?_)
 .unfold XR at H
  refine wP ?_
  refine wt (ltT hiv4) ?_
  refine wG [.u 14 (.ix _ _ _ fun _=>Y0 ePt (Q0 hxv4))] fun _=>?_
  refine V0 H (fun H=>?_) fun H=>?_
  .refine wG [.w 22 (wi .i64 rfl hiv4 q3.1)] fun _=>?_
   exact wT (N19 _ H)
  .refine wG [.w 22 (wi .i64 rfl hiv4 q3.1)] fun _=>?_
   exact wT (N19 _ H)
 .unfold Z0b at H
  refine wP ?_
  refine wf (ltF p1.length) ?_
  refine wP ?_
  replace H:=sI H;subst H
  exact wN [(4,.d)] [(4,[])] [] [] [] []
def V0G:L :=
sR [.bx 3 0,.al 6 [.int .i64 0,.int .i64 0,.int .i64 0],.mv 7 (cB false)]
 (.seq (sR [lT 11 3 1,cQ 12 Jt [11],.un 13 12,mV 14 13,gF 14 (mV 15 1),gF 14 (cQ 16 W7 [15]),gF 14 (.un 17 16),.pk 18 14 (cB true) 17,mV 19 18,gF 19 (mV 20 2),gF 19 (cQ 21 W7 [20]),gF 19 (.un 22 21),.pk 23 19 (cB true) 22,mV 24 23,gF 24 (mV 25 1),gF 24 (mV 26 2),gF 24 (bI 27 .geq 25 26),.pk 28 24 (cB true) 27]
 (.cond 28 (sR [.bd 29 [.int .i64 0,.int .i64 0,.int .i64 0] [],.st 6 29 3,.mv 7 (cB false)]
 gR)
 .skip))
 (sR [lT 30 3 1,mV 31 1,cQ 32 L07 [30,31],.al 8 [.int .i64 0,.int .i64 0,.int .i64 0],.st 8 32 3]
 (.seq (sR [fA 33 3 0,lF 34 33 1,.ln 35 34,.mv 36 (kI 0)]
 (.blk 0 (.loop (.gw (sR [bI 37 .lss 36 35]
 (.seq (.cond 37 .skip
 (.exit 0))
 (.seq (.blk 1 (sR [iA 38 34 36 4,lT 39 38 4,.al 10 [.int .i64 0,.int .i64 0,.int .i64 0,.int .i64 0],.st 10 39 4]
 (sR [fA 40 10 0,lF 41 40 1,mV 42 1,bI 43 .geq 41 42,mV 44 43,gT 44 (fA 45 10 0),gT 44 (lF 46 45 1),gT 44 (mV 47 2),gT 44 (bI 48 .lss 46 47),.pk 49 44 48 (cB false)]
 (.cond 49 (.reg [lT 50 8 3,fA 51 10 1,lT 52 51 3,cQ 53 Z00 [50,52],.st 8 53 3])
 .skip))))
 (.reg [.bi 54 .add 36 (kI 1),mV 36 54]))))))))
 (sR [lT 55 8 3,.st 6 55 3,.mv 7 (cB true)]
 gR))))
def ZD(from2 to3:Int)(x7:Pt)(_:Nat)(v7:Vec)(k7:Vec->Option (Vec×Bool)):Option (Vec×Bool) :=
 bif ((decide (from2<=x7.t))&&(decide (x7.t<to3)))then(k7 (M1 v7 x7.free))else(k7 v7)
def Y02(v7:Vec):Option (Vec×Bool) :=
 some (v7,true)
def Xh(p1:List Pt)(from2 to3:Int):Option (Vec×Bool) :=
 (U8 p1).bind fun b4=>bif ((((!b4)||(!(W4 from2)))||(!(W4 to3)))||(decide (to3<=from2)))then(some ((Vec.mk 0 0 0),false))else((LH p1 from2).bind fun y5=>rgl (ZD from2 to3) Y02 p1 0 y5)
theorem UJ{p1:List Pt}{from2 to3:Int}{r:Vec×Bool}(H:Xh p1 from2 to3=some r):Snd Tryz.prog Lz [.agg [rV 4 (p1.map ePt)],iV from2,iV to3] (.tup [eVec r.1,.bool r.2]) []:=by
 refine wS V0G [.c 6 3 true,.t 7] ?_
 unfold Xh at H
 obtain⟨b4,h4,H⟩:=bB H
 refine wG [.c 12 (Qy h4),.g 16 [((!b4),false)] (.call _ _ _ _ _ (AEs.refl _) (fun _=>L9 from2)),.g 21 [(((!b4)||(!(W4 from2))),false)] (.call _ _ _ _ _ (AEs.refl _) (fun _=>L9 to3))] fun _=>?_
 refine V0 H (fun H=>?_) fun H=>?_
 .refine wP ?_
  replace H:=sI H;subst H
  exact wN [(6,.d),(7,.d)] [(6,[])] [] [] [] []
 .obtain⟨y5,h5,H⟩:=bB H
  refine wG [.c 32 (W0g h5),.u 35 (.ln _ _ fun _=>lm p1 ePt)] fun q6=>?_
  refine wR (fun(i7:Nat) (v7:Vec)=>⟨[(1,iV from2),(2,iV to3),(6,.ptr 6 0),(8,.ptr 8 0),(34,rV 4 (p1.map ePt)),(35,iV (p1.length:Int)),(36,iV (i7:Int))],[],[(6,(eVec (Vec.mk 0 0 0)).cells),(8,(eVec v7).cells)],[]⟩) H (fun i7 x7 v7 I m k7 hxv7 hiv7 H N26=>?_) (fun v7 I m H=>?_)
  .unfold ZD at H
   refine wP ?_
   refine wt (ltT hiv7) ?_
   refine wG [.u 38 (.ix _ _ _ fun _=>Y0 ePt (Q0 hxv7))] fun _=>?_
   refine V0 H (fun H=>?_) fun H=>?_
   .refine wG [.c 53 (L0K v7 x7.free),.w 54 (wi .i64 rfl hiv7 q6.1)] fun _=>?_
    exact wT (N26 _ H)
   .refine wG [.w 54 (wi .i64 rfl hiv7 q6.1)] fun _=>?_
    exact wT (N26 _ H)
  .unfold Y02 at H
   refine wP ?_
   refine wf (ltF p1.length) ?_
   refine wP ?_
   replace H:=sI H;subst H
   exact wN [(6,.d),(7,.d)] [(6,[])] [] [] [] []
def Z0w:L :=
sR [.bx 3 0,.mv 6 (.c (.nl))]
 (sR [.bs 16 1 [] true,mV 7 16]
 (.seq (sR [fA 17 3 0,lF 18 17 1,.ln 19 18,.mv 20 (kI 0)]
 (.blk 0 (.loop (.gw (sR [bI 21 .lss 20 19]
 (.seq (.cond 21 .skip
 (.exit 0))
 (.seq (.blk 1 (sR [iA 22 18 20 4,lT 23 22 4,.al 9 [.int .i64 0,.int .i64 0,.int .i64 0,.int .i64 0],.st 9 23 4]
 (.reg [mV 24 7,fA 25 9 0,lF 26 25 1,.bs 27 1 [26] false,.ap 28 24 27 1 8,mV 7 28])))
 (.reg [.bi 29 .add 20 (kI 1),mV 20 29]))))))))
 (.seq (sR [mV 30 1,mV 31 2,.bs 32 1 [30,31] false,.ln 33 32,.mv 34 (kI 0)]
 (.blk 2 (.loop (.gw (sR [bI 35 .lss 34 33]
 (.seq (.cond 35 .skip
 (.exit 2))
 (.seq (.blk 3 (sR [iA 36 32 34 1,lF 37 36 1,mV 11 37]
 (sR [.bs 38 1 [] true,mV 12 38]
 (.seq (rE 13 (cB false))
 (.seq (sR [mV 39 7,.ln 40 39,.mv 41 (kI 0)]
 (.blk 4 (.loop (.gw (sR [bI 42 .lss 41 40]
 (.seq (.cond 42 .skip
 (.exit 4))
 (.seq (.blk 5 (sR [iA 43 39 41 1,lF 44 43 1,mV 15 44]
 (.seq (sR [mV 45 13,.un 46 45,mV 47 46,gT 47 (mV 48 11),gT 47 (mV 49 15),gT 47 (bI 50 .leq 48 49),.pk 51 47 50 (cB false)]
 (.cond 51 (sR [mV 52 12,mV 53 11,.bs 54 1 [53] false,.ap 55 52 54 1 8,mV 12 55]
 (rE 13 (cB true)))
 .skip))
 (.gw (sR [mV 56 15,mV 57 11,bI 58 .neq 56 57]
 (.cond 58 (.reg [mV 59 12,mV 60 15,.bs 61 1 [60] false,.ap 62 59 61 1 8,mV 12 62])
 .skip))))))
 (.reg [.bi 63 .add 41 (kI 1),mV 41 63]))))))))
 (.seq (sR [mV 64 13,.un 65 64]
 (.cond 65 (.reg [mV 66 12,mV 67 11,.bs 68 1 [67] false,.ap 69 66 68 1 8,mV 12 69])
 .skip))
 (.reg [mV 70 12,mV 7 70])))))))
 (.reg [.bi 71 .add 34 (kI 1),mV 34 71]))))))))
 (sR [mV 72 7,mV 6 72]
 gR))))
def Mc(x8 x10:Int)(k10:(Bool×(List Int))->Option (List Int))(v12:Bool×(List Int)):Option (List Int) :=
 bif (x10 != x8)then((appL 8 v12.2 [x10]).bind fun xs13=>k10 (v12.1,xs13))else(k10 (v12.1,v12.2))
def Zj(x8 x10:Int)(_:Nat)(v10:Bool×(List Int))(k10:(Bool×(List Int))->Option (List Int)):Option (List Int) :=
 bif ((!v10.1)&&(decide (x8<=x10)))then((appL 8 v10.2 [x8]).bind fun xs11=>(Mc x8 x10 k10) (true,xs11))else((Mc x8 x10 k10) (v10.1,v10.2))
def Li(x8:Int)(k8:(List Int)->Option (List Int))(v10:Bool×(List Int)):Option (List Int) :=
 bif (!v10.1)then((appL 8 v10.2 [x8]).bind fun xs14=>k8 xs14)else(k8 v10.2)
def Ji(x8:Int)(_:Nat)(v8:(List Int))(k8:(List Int)->Option (List Int)):Option (List Int) :=
 rgl (Zj x8) (Li x8 k8) v8 0 (false,[])
def XU(v8:(List Int)):Option (List Int) :=
 some v8
def Xv(x5:Pt)(_:Nat)(v5:(List Int))(k5:(List Int)->Option (List Int)):Option (List Int) :=
 (appL 8 v5 [x5.t]).bind fun xs6=>k5 xs6
def Yv(from2 to3:Int)(v5:(List Int)):Option (List Int) :=
 rgl Ji XU [from2,to3] 0 v5
def Uq(p1:List Pt)(from2 to3:Int):Option (List Int) :=
 rgl Xv (Yv from2 to3) p1 0 []
theorem M0t{p1:List Pt}{from2 to3:Int}{r:(List Int)}(H:Uq p1 from2 to3=some r):Snd Tryz.prog M07 [.agg [rV 4 (p1.map ePt)],iV from2,iV to3] (nV 1 (r.map eI)) []:=by
 refine wS Z0w [.t 6] ?_
 unfold Uq at H
 refine wG [.u 19 (.ln _ _ fun _=>lm p1 ePt)] fun q4=>?_
 refine wR (fun(i5:Nat) (v5:(List Int))=>⟨[(1,iV from2),(2,iV to3),(7,.sref 16),(18,rV 4 (p1.map ePt)),(19,iV (p1.length:Int)),(20,iV (i5:Int))],[],[],[(16,⟨1,v5.map eI,false⟩)]⟩) H (fun i5 x5 v5 I m k5 hxv5 hiv5 H N15=>?_) (fun v5 I m H=>?_)
 .unfold Xv at H
  refine wP ?_
  refine wt (ltT hiv5) ?_
  obtain⟨xs6,h6,H⟩:=bB H
  refine wG [.u 22 (.ix _ _ _ fun _=>Y0 ePt (Q0 hxv5)),.u 28 (.ap _ _ _ _ fun _=>M0 eI h6),.w 29 (wi .i64 rfl hiv5 q4.1)] fun _=>?_
  exact wT (N15 _ H)
 .unfold Yv at H
  refine wP ?_
  refine wf (ltF p1.length) ?_
  refine wG [.u 33 (.ln _ _ fun _=>lm ([from2,to3]:List Int) eI)] fun q7=>?_
  refine wR (fun(i8:Nat) (v8:(List Int))=>⟨[(7,.sref 16),(32,nV 1 (([from2,to3]).map eI)),(33,iV (([from2,to3]:List Int).length:Int)),(34,iV (i8:Int))],[],[],[(16,⟨1,v8.map eI,false⟩)]⟩) H (fun i8 x8 v8 I m k8 hxv8 hiv8 H N70=>?_) (fun v8 I m H=>?_)
  .unfold Ji at H
   refine wP ?_
   refine wt (ltT hiv8) ?_
   refine wG [.u 36 (.ix _ _ _ fun _=>Y0 eI (Q0 hxv8)),.u 40 (.ln _ _ fun _=>lm v8 eI)] fun q9=>?_
   refine wR (fun(i10:Nat) (v10:Bool×(List Int))=>⟨[(11,iV x8),(12,.sref 38),(13,.bool v10.1),(32,nV 1 (([from2,to3]).map eI)),(33,iV (([from2,to3]:List Int).length:Int)),(34,iV (i8:Int)),(39,.sref 16),(40,iV (v8.length:Int)),(41,iV (i10:Int))],[],[],[(38,⟨1,v10.2.map eI,false⟩),(16,⟨1,v8.map eI,false⟩)]⟩) H (fun i10 x10 v10 I m k10 hxv10 hiv10 H N51=>?_) (fun v10 I m H=>?_)
   .unfold Zj at H
    refine wP ?_
    refine wt (ltT hiv10) ?_
    refine wG [.u 43 (.ix _ _ _ fun _=>Y0 eI (Q0 hxv10)),.u 44 (.el _ _ _ fun _=>gm eI (L7 (Q0 hxv10)))] fun _=>?_
    refine WZ (r:=r) (Mc x8 x10 k10) 0 (fun v12:Bool×(List Int)=>⟨[(11,.int .i64 x8),(12,.sref 38),(13,.bool v12.1),(15,.int .i64 x10),(32,.sl .nw 1 (([from2,to3]).map eI)),(33,.int .i64 (([from2,to3]:List Int).length:Int)),(34,.int .i64 (i8:Int)),(39,.sref 16),(40,.int .i64 (v8.length:Int)),(41,.int .i64 (i10:Int))],[],[],[(38,⟨1,v12.2.map eI,false⟩),(16,⟨1,v8.map eI,false⟩)]⟩) (by kernel_rfl) (fun v12 H=>?_) (fun J43=>?_)
    .unfold Mc at H
     refine wP ?_
     refine V0 H (fun H=>?_) fun H=>?_
     .obtain⟨xs13,h13,H⟩:=bB H
      refine wG [.u 62 (.ap _ _ _ _ fun _=>M0 eI h13),.w 63 (wi .i64 rfl hiv10 q9.1)] fun _=>?_
      exact wT (N51 _ H)
     .refine wG [.w 63 (wi .i64 rfl hiv10 q9.1)] fun _=>?_
      exact wT (N51 _ H)
    .refine V0 H (fun H=>?_) fun H=>?_
     .obtain⟨xs11,h11,H⟩:=bB H
      refine wG [.u 55 (.ap _ _ _ _ fun _=>M0 eI h11)] fun _=>?_
      exact wT (J43 _ H)
     .refine wP ?_
      exact wT (J43 _ H)
   .unfold Li at H
    refine wP ?_
    refine wf (ltF v8.length) ?_
    refine wP ?_
    refine V0 H (fun H=>?_) fun H=>?_
    .obtain⟨xs14,h14,H⟩:=bB H
     refine wG [.u 69 (.ap _ _ _ _ fun _=>M0 eI h14),.w 71 (wi .i64 rfl hiv8 q7.1)] fun _=>?_
     exact M1f (N70 _ H) [] [] [(16,(some 38,0))] [] (by kernel_rfl) (by kernel_rfl)
    .refine wG [.w 71 (wi .i64 rfl hiv8 q7.1)] fun _=>?_
     exact M1f (N70 _ H) [] [] [(16,(some 38,0))] [] (by kernel_rfl) (by kernel_rfl)
  .unfold XU at H
   refine wP ?_
   refine wf (ltF [from2,to3].length) ?_
   refine wP ?_
   replace H:=sI H;subst H
   exact wN [(6,.f)] [] [] [16] [] [⟨_,nw_I v8⟩]
def O0o:L :=
sR [.bx 5 0,.bx 8 3,.al 10 [.nl],.mv 11 (cB false)]
 (sR [.bd 18 [.nl] [],.al 12 [.nl],.st 12 18 1]
 (.seq (sR [lT 19 5 1,mV 20 1,mV 21 2,cQ 22 M07 [19,20,21],.ln 23 22,.mv 24 (kI 0)]
 (.blk 0 (.loop (.gw (sR [bI 25 .lss 24 23]
 (.seq (.cond 25 .skip
 (.exit 0))
 (.seq (.blk 1 (sR [iA 26 22 24 1,lF 27 26 1,mV 14 27]
 (sR [lT 28 5 1,mV 29 14,cQ 30 L07 [28,29],.al 15 [.int .i64 0,.int .i64 0,.int .i64 0],.st 15 30 3]
 (.seq (sR [mV 31 14,mV 32 1,bI 33 .geq 31 32,mV 34 33,gT 34 (mV 35 14),gT 34 (mV 36 2),gT 34 (bI 37 .lss 35 36),.pk 38 34 37 (cB false)]
 (.cond 38 (.seq (rE 16 (cB false))
 (.seq (sR [mV 39 4]
 (.cond 39 (.reg [lT 41 15 3,lT 42 8 3,cQ 43 Y00 [41,42],mV 40 43,eX 44 40 0,eX 45 40 1,.st 15 44 3,mV 16 45])
 (.reg [lT 47 15 3,lT 48 8 3,cQ 49 JZ [47,48],mV 46 49,eX 50 46 0,eX 51 46 1,.st 15 50 3,mV 16 51])))
 (.gw (sR [mV 52 16,.un 53 52]
 (.cond 53 (sR [.bd 54 [.nl] [],.st 10 54 1,.mv 11 (cB false)]
 gR)
 .skip)))))
 .skip))
 (.gw (sR [fA 55 12 0,lF 56 55 1,.ln 57 56,mV 17 57]
 (.seq (.rq 13 [mV 58 17,.bi 59 .eql 58 (kI 0),mV 60 59,gF 60 (fA 61 12 0),gF 60 (lF 62 61 1),gF 60 (mV 63 17),gF 60 (.bi 64 .sub 63 (kI 1)),gF 60 (iA 65 62 64 4),gF 60 (fA 66 65 1),gF 60 (lT 67 66 3),gF 60 (lT 68 15 3),gF 60 (.es 69 true [0,0,0] 67 68),.pk 70 60 (cB true) 69])
 (.cond 70 (.reg [fA 71 12 0,lF 72 71 1,mV 73 14,lT 74 15 3,.bd 75 [.int .i64 0,.int .i64 0,.int .i64 0,.int .i64 0] [(0,1,73),(1,3,74)],.bs 76 4 [75] false,.ap 77 72 76 4 32,fA 78 12 0,.st 78 77 1])
 .skip))))))))
 (.reg [.bi 79 .add 24 (kI 1),mV 24 79]))))))))
 (.seq (sR [lT 80 12 1,cQ 81 Jt [80],.un 82 81]
 (.cond 82 (sR [.bd 83 [.nl] [],.st 10 83 1,.mv 11 (cB false)]
 gR)
 .skip))
 (sR [lT 84 12 1,.st 10 84 1,.mv 11 (cB true)]
 gR))))
def Y8(v8:(List Pt))(x8:Int)(k8:(List Pt)->Option ((List Pt)×Bool))(v11:Vec):Option ((List Pt)×Bool) :=
 (bif ((v8.length:Int)==0)then some default else(idx v8 (w64 ((v8.length:Int)-1)))).bind fun e12=>bif (((v8.length:Int)==0)||(!(e12.free.a==v11.a&&(e12.free.b==v11.b&&(e12.free.c==v11.c&&true)))))then((appL 32 v8 [(Pt.mk x8 v11)]).bind fun xs14=>k8 xs14)else(k8 v8)
def Ub(v8:(List Pt))(x8:Int)(k8:(List Pt)->Option ((List Pt)×Bool))(v10:Vec×Bool):Option ((List Pt)×Bool) :=
 bif (!v10.2)then(some ([],false))else((Y8 v8 x8 k8) v10.1)
def Ug(p1:List Pt)(from2 to3:Int)(v4:Vec)(add5:Bool)(x8:Int)(_:Nat)(v8:(List Pt))(k8:(List Pt)->Option ((List Pt)×Bool)):Option ((List Pt)×Bool) :=
 (LH p1 x8).bind fun y9=>bif ((decide (from2<=x8))&&(decide (x8<to3)))then(bif add5 then((Ub v8 x8 k8) (((Qv y9 v4).1),(Qv y9 v4).2))else((Ub v8 x8 k8) (((Q3 y9 v4).1),(Q3 y9 v4).2)))else((Y8 v8 x8 k8) y9)
def Z8(v8:(List Pt)):Option ((List Pt)×Bool) :=
 (U8 v8).bind fun b15=>bif (!b15)then(some ([],false))else(some (v8,true))
def Jk(p1:List Pt)(from2 to3:Int)(v4:Vec)(add5:Bool):Option ((List Pt)×Bool) :=
 (Uq p1 from2 to3).bind fun y6=>rgl (Ug p1 from2 to3 v4 add5) Z8 y6 0 []
theorem L0m{p1:List Pt}{from2 to3:Int}{v4:Vec}{add5:Bool}{r:(List Pt)×Bool}(H:Jk p1 from2 to3 v4 add5=some r):Snd Tryz.prog J02 [.agg [rV 4 (p1.map ePt)],iV from2,iV to3,eVec v4,.bool add5] (.tup [O1 .nw r.1,.bool r.2]) []:=by
 refine wS O0o [.c 10 1 true,.t 11] ?_
 unfold Jk at H
 obtain⟨y6,h6,H⟩:=bB H
 refine wG [.c 22 (M0t h6),.u 23 (.ln _ _ fun _=>lm y6 eI)] fun q7=>?_
 refine X07 (fun(i8:Nat) (v8:(List Pt))=>⟨[(1,.int .i64 from2),(2,.int .i64 to3),(4,.bool add5),(5,.ptr 5 0),(8,.ptr 8 0),(10,.ptr 10 0),(12,.ptr 12 0),(22,.sl .nw 1 (y6.map eI)),(23,.int .i64 (y6.length:Int)),(24,.int .i64 (i8:Int))],[],[(5,[.sl .rd 4 (p1.map ePt)]),(8,(eVec v4).cells),(10,[.nl]),(12,[.sref 191000])],[(191000,⟨4,v8.map ePt,false⟩)]⟩) [] [(12,[.z 191000])] [(191000,(none,4))] [] (by kernel_rfl) (by kernel_rfl) H (fun i8 x8 v8 I m k8 hxv8 hiv8 H N43=>?_) (fun v8 I m H=>?_)
 .unfold Ug at H
  refine wP ?_
  refine wt (ltT hiv8) ?_
  obtain⟨y9,h9,H⟩:=bB H
  refine wG [.u 26 (.ix _ _ _ fun _=>Y0 eI (Q0 hxv8)),.c 30 (W0g h9)] fun _=>?_
  refine WZ (r:=r) (Y8 v8 x8 k8) 0 (fun v11:Vec=>⟨[(1,.int .i64 from2),(2,.int .i64 to3),(4,.bool add5),(5,.ptr 5 0),(8,.ptr 8 0),(10,.ptr 10 0),(12,.ptr 12 0),(14,.int .i64 x8),(15,.ptr 15 0),(22,.sl .nw 1 (y6.map eI)),(23,.int .i64 (y6.length:Int)),(24,.int .i64 (i8:Int))],[],[(5,[.sl .rd 4 (p1.map ePt)]),(8,(eVec v4).cells),(10,[.nl]),(12,[.sref 191000]),(15,(eVec v11).cells)],[(191000,⟨4,v8.map ePt,false⟩)]⟩) (by kernel_rfl) (fun v11 H=>?_) (fun J34=>?_)
  .unfold Y8 at H
   obtain⟨e12,h12,H⟩:=bB H
   refine wG [.u 57 (.ln _ _ fun _=>lm v8 ePt),.g 65 [(_,false)] (.ix _ _ _ fun q=>Y0 ePt (bF q.1 h12)),.g 67 [(_,false)] (.el _ _ _ fun q=>gm ePt (L7 (bF q.1 h12)))] fun q13=>?_
   refine V0 H (fun H=>?_) fun H=>?_
   .obtain⟨xs14,h14,H⟩:=bB H
    refine wG [.u 77 (.ap _ _ _ _ fun _=>M0 ePt h14),.w 79 (wi .i64 rfl hiv8 q7.1)] fun _=>?_
    exact wT (N43 _ H)
   .refine wG [.w 79 (wi .i64 rfl hiv8 q7.1)] fun _=>?_
    exact wT (N43 _ H)
  .refine V0 H (fun H=>?_) fun H=>?_
   .refine wP ?_
    refine WZ (r:=r) (Ub v8 x8 k8) 0 (fun v10:Vec×Bool=>⟨[(1,.int .i64 from2),(2,.int .i64 to3),(4,.bool add5),(5,.ptr 5 0),(8,.ptr 8 0),(10,.ptr 10 0),(12,.ptr 12 0),(14,.int .i64 x8),(15,.ptr 15 0),(16,.bool v10.2),(22,.sl .nw 1 (y6.map eI)),(23,.int .i64 (y6.length:Int)),(24,.int .i64 (i8:Int))],[],[(5,[.sl .rd 4 (p1.map ePt)]),(8,(eVec v4).cells),(10,[.nl]),(12,[.sref 191000]),(15,(eVec v10.1).cells)],[(191000,⟨4,v8.map ePt,false⟩)]⟩) (by kernel_rfl) (fun v10 H=>?_) (fun J22=>?_)
    .unfold Ub at H
     refine wP ?_
     refine V0 H (fun H=>?_) fun H=>?_
     .refine wP ?_
      replace H:=sI H;subst H
      exact wN [(10,.d),(11,.d)] [(10,[.n 4])] [] [] [] [⟨_,Xg ([]:List Pt)⟩]
     .refine wP ?_
      exact wT (J34 _ H)
    .refine V0 H (fun H=>?_) fun H=>?_
     .refine wG [.c 43 (Z0L y9 v4)] fun _=>?_
      exact wT (J22 _ H)
     .refine wG [.c 49 (M0K y9 v4)] fun _=>?_
      exact wT (J22 _ H)
   .refine wP ?_
    exact wT (J34 _ H)
 .unfold Z8 at H
  refine wP ?_
  refine wf (ltF y6.length) ?_
  obtain⟨b15,h15,H⟩:=bB H
  refine wG [.c 81 (Qy h15)] fun _=>?_
  refine V0 H (fun H=>?_) fun H=>?_
  .refine wP ?_
   replace H:=sI H;subst H
   exact wN [(10,.d),(11,.d)] [(10,[.n 4])] [] [] [] [⟨_,Xg ([]:List Pt)⟩]
  .refine wP ?_
   replace H:=sI H;subst H
   exact wN [(10,.d),(11,.d)] [(10,[.f])] [] [191000] [] [⟨_,Xg v8⟩]
def V0w:L :=
sR [.bx 4 0,.bx 7 3,.al 8 [.nl],.mv 9 (cB false)]
 (sR [lT 13 4 1,mV 14 1,mV 15 2,cQ 16 Lz [13,14,15],mV 12 16,eX 17 12 0,eX 18 12 1,.al 10 [.int .i64 0,.int .i64 0,.int .i64 0],.st 10 17 3,mV 11 18]
 (.seq (sR [mV 19 11,.un 20 19]
 (.cond 20 (sR [.bd 21 [.nl] [],.st 8 21 1,.mv 9 (cB false)]
 gR)
 .skip))
 (sR [lT 22 4 1,mV 23 1,mV 24 2,lT 25 7 3,.cq 26 J02 [22,23,24,25,(cB false)],eX 27 26 0,eX 28 26 1,.st 8 27 1,mV 9 28]
 gR)))
def L8(p1:List Pt)(from2 to3:Int)(v4:Vec):Option ((List Pt)×Bool) :=
 (Xh p1 from2 to3).bind fun y5=>bif (!y5.2)then(some ([],false))else((Jk p1 from2 to3 v4 false).bind fun y6=>some (y6.1,y6.2))
theorem Z02{p1:List Pt}{from2 to3:Int}{v4:Vec}{r:(List Pt)×Bool}(H:L8 p1 from2 to3 v4=some r):Snd Tryz.prog WM [.agg [rV 4 (p1.map ePt)],iV from2,iV to3,eVec v4] (.tup [O1 .nw r.1,.bool r.2]) []:=by
 refine wS V0w [.c 8 1 true,.t 9] ?_
 unfold L8 at H
 obtain⟨y5,h5,H⟩:=bB H
 refine wG [.c 16 (UJ h5)] fun _=>?_
 refine V0 H (fun H=>?_) fun H=>?_
 .refine wP ?_
  replace H:=sI H;subst H
  exact wN [(8,.d),(9,.d)] [(8,[.n 4])] [] [] [] [⟨_,Xg ([]:List Pt)⟩]
 .obtain⟨y6,h6,H⟩:=bB H
  refine wG [.c 26 (L0m h6)] fun _=>?_
  replace H:=sI H;subst H
  exact wN [(8,.d),(9,.d)] [(8,[])] [] [] [] [⟨_,Xg y6.1⟩]
def L0w:L :=
sR [.bx 1 0,.al 2 [.nl]]
 (sR [fA 3 1 0,lF 4 3 1,.ap 5 (.c (.nl)) 4 4 32,.bd 6 [.nl] [(0,1,5)],.st 2 6 1]
 gR)
def Wj(p1:List Pt):Option (List Pt) :=
 (appL 32 ([]:List Pt) p1).bind fun xs2=>some xs2
theorem U02{p1:List Pt}{r:(List Pt)}(H:Wj p1=some r):Snd Tryz.prog ZN [.agg [rV 4 (p1.map ePt)]] (O1 .nw r) []:=by
 refine wS L0w [.c 2 1 true] ?_
 unfold Wj at H
 obtain⟨xs2,h2,H⟩:=bB H
 refine wG [.u 5 (.ap _ _ _ _ fun _=>M0 ePt h2)] fun _=>?_
 replace H:=sI H;subst H
 exact wN [(2,.d)] [(2,[.f])] [] [5] [] [⟨_,Xg xs2⟩]
def M0R:L :=
sR [.bx 1 0,.mv 2 (cB false)]
 (.seq (sR [fA 5 1 0,lF 6 5 1,.ln 7 6,.cq 8 Q1 [7,(kI 1),(kI 200)],.un 9 8,mV 10 9,gF 10 (fA 11 1 0),gF 10 (lF 12 11 1),gF 10 (.ia 13 12 (kI 0) 4),gF 10 (fA 14 13 0),gF 10 (lF 15 14 1),gF 10 (.bi 16 .neq 15 (kI 0)),.pk 17 10 (cB true) 16]
 (.cond 17 (.seq (rE 2 (cB false))
 gR)
 .skip))
 (.seq (sR [fA 18 1 0,lF 19 18 1,.ln 20 19,.mv 21 (kI 0)]
 (.blk 0 (.loop (.gw (sR [bI 22 .lss 21 20]
 (.seq (.cond 22 .skip
 (.exit 0))
 (.seq (.blk 1 (sR [mV 23 21,iA 24 19 21 4,lT 25 24 4,.al 4 [.int .i64 0,.int .i64 0,.int .i64 0,.int .i64 0],mV 3 23,.st 4 25 4]
 (.seq (.rq 38 [fA 26 4 0,lF 27 26 1,cQ 28 Zf [27],.un 29 28,mV 30 29,gF 30 (fA 31 4 1),gF 30 (lT 32 31 3),gF 30 (cQ 33 Q5 [32]),gF 30 (.un 34 33),.pk 35 30 (cB true) 34,mV 36 35,gF 36 (mV 37 3),gF 36 (.bi 38 .gtr 37 (kI 0)),gF 36 (mV 39 38),gT 39 (fA 40 1 0),gT 39 (lF 41 40 1),gT 39 (mV 42 3),gT 39 (.bi 43 .sub 42 (kI 1)),gT 39 (iA 44 41 43 4),gT 39 (fA 45 44 0),gT 39 (lF 46 45 1),gT 39 (fA 47 4 0),gT 39 (lF 48 47 1),gT 39 (bI 49 .geq 46 48),gT 39 (mV 50 49),gF 50 (fA 51 1 0),gF 50 (lF 52 51 1),gF 50 (mV 53 3),gF 50 (.bi 54 .sub 53 (kI 1)),gF 50 (iA 55 52 54 4),gF 50 (fA 56 55 1),gF 50 (lT 57 56 3),gF 50 (fA 58 4 1),gF 50 (lT 59 58 3),gF 50 (.es 60 false [0,0,0] 57 59),gT 39 (.pk 61 50 (cB true) 60),gF 36 (.pk 62 39 61 (cB false)),.pk 63 36 (cB true) 62])
 (.cond 63 (.seq (rE 2 (cB false))
 gR)
 .skip))))
 (.reg [.bi 64 .add 21 (kI 1),mV 21 64]))))))))
 (.seq (rE 2 (cB true))
 gR)))
def V06(p1:List Pt)(x5:Pt)(i5:Nat)(_:Unit)(k5:Unit->Option Bool):Option Bool :=
 (bif ((!(J5 x5.t))||(!(J0 x5.free)))then some default else(bif (decide (0<(i5:Int)))then(idx p1 (w64 ((i5:Int)-1)))else some default)).bind fun e6=>(bif ((!(J5 x5.t))||(!(J0 x5.free)))then some default else(bif (decide (0<(i5:Int)))then(bif (decide (x5.t<=e6.t))then some default else(idx p1 (w64 ((i5:Int)-1))))else some default)).bind fun e7=>bif (((!(J5 x5.t))||(!(J0 x5.free)))||((decide (0<(i5:Int)))&&((decide (x5.t<=e6.t))||(e7.free.a==x5.free.a&&(e7.free.b==x5.free.b&&(e7.free.c==x5.free.c&&true))))))then(some false)else(k5 ())
def X06(_:Unit):Option Bool :=
 some true
def Vo(p1:List Pt):Option Bool :=
 (bif (!(Z0 (p1.length:Int) 1 200))then some default else(idx p1 0)).bind fun e2=>bif ((!(Z0 (p1.length:Int) 1 200))||(e2.t != 0))then(some false)else(rgl (V06 p1) X06 p1 0 ())
theorem MS{p1:List Pt}{r:Bool}(H:Vo p1=some r):Snd Tryz.prog OH [.agg [rV 4 (p1.map ePt)]] (.bool r) []:=by
 refine wS M0R [.t 2] ?_
 unfold Vo at H
 obtain⟨e2,h2,H⟩:=bB H
 refine wG [.u 7 (.ln _ _ fun _=>lm p1 ePt),.u 8 (.call _ _ _ _ _ (AEs.refl _) (fun _=>V1 (p1.length:Int) 1 200)),.g 13 [(_,false)] (.ix _ _ _ fun q=>Y0 ePt (bF q.1 h2))] fun q3=>?_
 refine V0 H (fun H=>?_) fun H=>?_
 .obtain rfl:=sI H
  exact wP (wE [(2,.d)])
 .refine wG [.u 20 (.ln _ _ fun _=>lm p1 ePt)] fun q4=>?_
  refine wR (fun(i5:Nat) (v5:Unit)=>⟨[(1,.ptr 1 0),(19,rV 4 (p1.map ePt)),(20,iV (p1.length:Int)),(21,iV (i5:Int))],[],[(1,[rV 4 (p1.map ePt)])],[]⟩) H (fun i5 x5 v5 I m k5 hxv5 hiv5 H N27=>?_) (fun v5 I m H=>?_)
  .unfold V06 at H
   refine wP ?_
   refine wt (ltT hiv5) ?_
   obtain⟨e6,h6,H⟩:=bB H
   obtain⟨e7,h7,H⟩:=bB H
   refine wG [.u 24 (.ix _ _ _ fun _=>Y0 ePt (Q0 hxv5)),.c 28 (Ul x5.t),.g 33 [((!(J5 x5.t)),false)] (.call _ _ _ _ _ (AEs.refl _) (fun _=>M5 x5.free)),.g 44 [(_,true),(_,false)] (.ix _ _ _ fun q=>Y0 ePt (bT q.1 (bF q.2.1 h6))),.g 55 [(_,false),(_,true),(_,false)] (.ix _ _ _ fun q=>Y0 ePt (bF q.1 (bT q.2.1 (bF q.2.2.1 h7))))] fun _=>?_
   refine V0 H (fun H=>?_) fun H=>?_
   .obtain rfl:=sI H
    exact wP (wE [(2,.d)])
   .refine wG [.w 64 (wi .i64 rfl hiv5 q3.1)] fun _=>?_
    exact wT (N27 () H)
  .unfold X06 at H
   refine wP ?_
   refine wf (ltF p1.length) ?_
   obtain rfl:=sI H
   exact wP (wE [(2,.d)])
def M0H:L :=
sR [.bx 1 0,.al 2 [.nl],.mv 3 (cB false)]
 (.seq (sR [lT 4 1 3,cQ 5 Q5 [4],.un 6 5]
 (.cond 6 (sR [.bd 7 [.nl] [],.st 2 7 1,.mv 3 (cB false)]
 gR)
 .skip))
 (sR [lT 8 1 3,.bd 9 [.int .i64 0,.int .i64 0,.int .i64 0,.int .i64 0] [(1,3,8)],.bs 10 4 [9] true,.bd 11 [.nl] [(0,1,10)],.st 2 11 1,.mv 3 (cB true)]
 gR))
def Vz(v1:Vec):Option ((List Pt)×Bool) :=
 bif (!(J0 v1))then(some ([],false))else(some ([(Pt.mk 0 v1)],true))
theorem L0p{v1:Vec}{r:(List Pt)×Bool}(H:Vz v1=some r):Snd Tryz.prog YA [eVec v1] (.tup [O1 .nw r.1,.bool r.2]) []:=by
 refine wS M0H [.c 2 1 true,.t 3] ?_
 unfold Vz at H
 refine wG [.c 5 (M5 v1)] fun _=>?_
 refine V0 H (fun H=>?_) fun H=>?_
 .refine wP ?_
  replace H:=sI H;subst H
  exact wN [(2,.d),(3,.d)] [(2,[.n 4])] [] [] [] [⟨_,Xg ([]:List Pt)⟩]
 .refine wP ?_
  replace H:=sI H;subst H
  exact wN [(2,.d),(3,.d)] [(2,[.f])] [] [10] [] [⟨_,Xg [(Pt.mk 0 v1)]⟩]
def Qe(v1:Vec):(List Pt)×Bool :=
 bif (!(J0 v1))then(([],false))else(([(Pt.mk 0 v1)],true))
theorem J0S(v1:Vec):Vz v1=some (Qe v1):=by
 unfold Vz Qe
 first|rfl|simp only[Z2]
theorem U06(v1:Vec):Snd Tryz.prog YA [eVec v1] (.tup [O1 .nw ((Qe v1).1),.bool ((Qe v1).2)]) []:=L0p (J0S v1)
def X0p:L :=
sR [.bx 2 0,.al 4 [.int .i64 0,.int .i64 0,.int .i64 0]]
 (sR [.bd 8 [.int .i64 0,.int .i64 0,.int .i64 0] [],.al 5 [.int .i64 0,.int .i64 0,.int .i64 0],.st 5 8 3]
 (.seq (sR [fA 9 2 0,lF 10 9 1,.ln 11 10,.mv 12 (kI 0)]
 (.blk 0 (.loop (.gw (sR [bI 13 .lss 12 11]
 (.seq (.cond 13 .skip
 (.exit 0))
 (.seq (.blk 1 (sR [iA 14 10 12 4,lT 15 14 4,.al 7 [.int .i64 0,.int .i64 0,.int .i64 0,.int .i64 0],.st 7 15 4]
 (sR [fA 16 7 0,lF 17 16 1,mV 18 1,bI 19 .leq 17 18]
 (.cond 19 (.reg [fA 20 7 1,lT 21 20 3,.st 5 21 3])
 .skip))))
 (.reg [.bi 22 .add 12 (kI 1),mV 12 22]))))))))
 (sR [lT 23 5 3,.st 4 23 3]
 gR)))
def QQ(t2:Int)(x4:Pt)(_:Nat)(v4:Vec)(k4:Vec->Option Vec):Option Vec :=
 bif (decide (x4.t<=t2))then(k4 x4.free)else(k4 v4)
def UQ(v4:Vec):Option Vec :=
 some v4
def Ml(p1:List Pt)(t2:Int):Option Vec :=
 rgl (QQ t2) UQ p1 0 (Vec.mk 0 0 0)
theorem VX{p1:List Pt}{t2:Int}{r:Vec}(H:Ml p1 t2=some r):Snd Tryz.prog OE [.agg [rV 4 (p1.map ePt)],iV t2] (eVec r) []:=by
 refine wS X0p [.c 4 3 true] ?_
 unfold Ml at H
 refine wG [.u 11 (.ln _ _ fun _=>lm p1 ePt)] fun q3=>?_
 refine wR (fun(i4:Nat) (v4:Vec)=>⟨[(1,iV t2),(4,.ptr 4 0),(5,.ptr 5 0),(10,rV 4 (p1.map ePt)),(11,iV (p1.length:Int)),(12,iV (i4:Int))],[],[(4,(eVec (Vec.mk 0 0 0)).cells),(5,(eVec v4).cells)],[]⟩) H (fun i4 x4 v4 I m k4 hxv4 hiv4 H N19=>?_) (fun v4 I m H=>?_)
 .unfold QQ at H
  refine wP ?_
  refine wt (ltT hiv4) ?_
  refine wG [.u 14 (.ix _ _ _ fun _=>Y0 ePt (Q0 hxv4))] fun _=>?_
  refine V0 H (fun H=>?_) fun H=>?_
  .refine wG [.w 22 (wi .i64 rfl hiv4 q3.1)] fun _=>?_
   exact wT (N19 _ H)
  .refine wG [.w 22 (wi .i64 rfl hiv4 q3.1)] fun _=>?_
   exact wT (N19 _ H)
 .unfold UQ at H
  refine wP ?_
  refine wf (ltF p1.length) ?_
  refine wP ?_
  replace H:=sI H;subst H
  exact wN [(4,.d)] [(4,[])] [] [] [] []
def L0i:L :=
sR [.bx 3 0,.al 6 [.int .i64 0,.int .i64 0,.int .i64 0]]
 (sR [lT 10 3 1,mV 11 1,cQ 12 OE [10,11],.al 7 [.int .i64 0,.int .i64 0,.int .i64 0],.st 7 12 3]
 (.seq (sR [fA 13 3 0,lF 14 13 1,.ln 15 14,.mv 16 (kI 0)]
 (.blk 0 (.loop (.gw (sR [bI 17 .lss 16 15]
 (.seq (.cond 17 .skip
 (.exit 0))
 (.seq (.blk 1 (sR [iA 18 14 16 4,lT 19 18 4,.al 9 [.int .i64 0,.int .i64 0,.int .i64 0,.int .i64 0],.st 9 19 4]
 (sR [fA 20 9 0,lF 21 20 1,mV 22 1,bI 23 .gtr 21 22,mV 24 23,gT 24 (fA 25 9 0),gT 24 (lF 26 25 1),gT 24 (mV 27 2),gT 24 (bI 28 .lss 26 27),.pk 29 24 28 (cB false)]
 (.cond 29 (.reg [lT 30 7 3,fA 31 9 1,lT 32 31 3,cQ 33 Y01 [30,32],.st 7 33 3])
 .skip))))
 (.reg [.bi 34 .add 16 (kI 1),mV 16 34]))))))))
 (sR [lT 35 7 3,.st 6 35 3]
 gR)))
def Xo(from2 to3:Int)(x6:Pt)(_:Nat)(v6:Vec)(k6:Vec->Option Vec):Option Vec :=
 bif ((decide (from2<x6.t))&&(decide (x6.t<to3)))then(k6 (Xx v6 x6.free))else(k6 v6)
def XM(v6:Vec):Option Vec :=
 some v6
def Md(p1:List Pt)(from2 to3:Int):Option Vec :=
 (Ml p1 from2).bind fun y4=>rgl (Xo from2 to3) XM p1 0 y4
theorem VQ{p1:List Pt}{from2 to3:Int}{r:Vec}(H:Md p1 from2 to3=some r):Snd Tryz.prog Zy [.agg [rV 4 (p1.map ePt)],iV from2,iV to3] (eVec r) []:=by
 refine wS L0i [.c 6 3 true] ?_
 unfold Md at H
 obtain⟨y4,h4,H⟩:=bB H
 refine wG [.c 12 (VX h4),.u 15 (.ln _ _ fun _=>lm p1 ePt)] fun q5=>?_
 refine wR (fun(i6:Nat) (v6:Vec)=>⟨[(1,iV from2),(2,iV to3),(6,.ptr 6 0),(7,.ptr 7 0),(14,rV 4 (p1.map ePt)),(15,iV (p1.length:Int)),(16,iV (i6:Int))],[],[(6,(eVec (Vec.mk 0 0 0)).cells),(7,(eVec v6).cells)],[]⟩) H (fun i6 x6 v6 I m k6 hxv6 hiv6 H N19=>?_) (fun v6 I m H=>?_)
 .unfold Xo at H
  refine wP ?_
  refine wt (ltT hiv6) ?_
  refine wG [.u 18 (.ix _ _ _ fun _=>Y0 ePt (Q0 hxv6))] fun _=>?_
  refine V0 H (fun H=>?_) fun H=>?_
  .refine wG [.c 33 (O0S v6 x6.free),.w 34 (wi .i64 rfl hiv6 q5.1)] fun _=>?_
   exact wT (N19 _ H)
  .refine wG [.w 34 (wi .i64 rfl hiv6 q5.1)] fun _=>?_
   exact wT (N19 _ H)
 .unfold XM at H
  refine wP ?_
  refine wf (ltF p1.length) ?_
  refine wP ?_
  replace H:=sI H;subst H
  exact wN [(6,.d)] [(6,[])] [] [] [] []
def J0Q:L :=
.seq (rE 4 (cB false))
 (sR [mV 5 0,cQ 6 Zf [5],mV 7 6,gT 7 (mV 8 1),gT 7 (cQ 9 Zf [8]),.pk 10 7 9 (cB false),mV 11 10,gT 11 (mV 12 0),gT 11 (mV 13 1),gT 11 (bI 14 .lss 12 13),.pk 15 11 14 (cB false),mV 4 15]
 gR)
def LG(from1 to2:Int):Option Bool :=
 some (((J5 from1)&&(J5 to2))&&(decide (from1<to2)))
theorem Q0x{from1 to2:Int}{r:Bool}(H:LG from1 to2=some r):Snd Tryz.prog L00 [iV from1,iV to2] (.bool r) []:=by
 refine wS J0Q [.t 4] ?_
 unfold LG at H
 refine wG [.c 6 (Ul from1),.g 9 [((J5 from1),true)] (.call _ _ _ _ _ (AEs.refl _) (fun _=>Ul to2))] fun _=>?_
 replace H:=sI H;subst H
 exact wE [(4,.d)]
def Qw(from1 to2:Int):Bool :=
 (((J5 from1)&&(J5 to2))&&(decide (from1<to2)))
theorem U14(from1 to2:Int):LG from1 to2=some (Qw from1 to2):=by
 unfold LG Qw
 first|rfl|simp only[Z2]
theorem Y0S(from1 to2:Int):Snd Tryz.prog L00 [iV from1,iV to2] (.bool (Qw from1 to2)) []:=Q0x (U14 from1 to2)
def J0i:L :=
sR [.bx 2 0,.al 3 [.int .i64 0,.int .i64 0,.int .i64 0],.mv 4 (cB false)]
 (sR [lT 5 2 3,lT 6 1 3,cQ 7 Z01 [5,6],eX 8 7 0,eX 9 7 1,.st 3 8 3,mV 4 9]
 gR)
def Lj(x1 x2:Vec):Option (Vec×Bool) :=
 some (((Uc x1 x2).1),(Uc x1 x2).2)
theorem O0a{x1 x2:Vec}{r:Vec×Bool}(H:Lj x1 x2=some r):Snd Tryz.prog X7 [eVec x1,.ept (eVec x2) 0] (.tup [eVec r.1,.bool r.2]) []:=by
 refine wS J0i [.c 3 3 true,.t 4] ?_
 unfold Lj at H
 refine wG [.c 7 (Q0S x1 x2)] fun _=>?_
 replace H:=sI H;subst H
 exact wN [(3,.d),(4,.d)] [(3,[])] [] [] [] []
def J9(x1 x2:Vec):Vec×Bool :=
 (((Uc x1 x2).1),(Uc x1 x2).2)
theorem M0p(x1 x2:Vec):Lj x1 x2=some (J9 x1 x2):=by
 unfold Lj J9
 first|rfl|simp only[Z2]
theorem W0j(x1 x2:Vec):Snd Tryz.prog X7 [eVec x1,.ept (eVec x2) 0] (.tup [eVec ((J9 x1 x2).1),.bool ((J9 x1 x2).2)]) []:=O0a (M0p x1 x2)
def Vl:L :=
sR [.bx 4 0,.al 8 [.nl],.mv 9 (cB false)]
 (sR [mV 20 1,mV 21 2,.bs 22 1 [20,21] true,mV 10 22]
 (.seq (sR [fA 23 4 0,lF 24 23 1,.ln 25 24,.mv 26 (kI 0)]
 (.blk 0 (.loop (.gw (sR [bI 27 .lss 26 25]
 (.seq (.cond 27 .skip
 (.exit 0))
 (.seq (.blk 1 (sR [iA 28 24 26 4,lT 29 28 4,.al 12 [.int .i64 0,.int .i64 0,.int .i64 0,.int .i64 0],.st 12 29 4]
 (.reg [mV 30 10,fA 31 12 0,lF 32 31 1,.bs 33 1 [32] false,.ap 34 30 33 1 8,mV 10 34])))
 (.reg [.bi 35 .add 26 (kI 1),mV 26 35]))))))))
 (sR [mV 36 10,.cm 37 M4 [36]]
 (sR [.bd 38 [.nl] [],.al 13 [.nl],.st 13 38 1]
 (.seq (sR [mV 39 10,.cm 40 V6 [39],.ln 41 40,.mv 42 (kI 0)]
 (.blk 2 (.loop (.gw (sR [bI 43 .lss 42 41]
 (.seq (.cond 43 .skip
 (.exit 2))
 (.seq (.blk 3 (sR [iA 44 40 42 1,lF 45 44 1,mV 15 45]
 (sR [lT 46 4 1,mV 47 15,cQ 48 OE [46,47],.al 16 [.int .i64 0,.int .i64 0,.int .i64 0],.st 16 48 3]
 (.seq (sR [mV 49 15,mV 50 1,bI 51 .geq 49 50,mV 52 51,gT 52 (mV 53 15),gT 52 (mV 54 2),gT 52 (bI 55 .lss 53 54),.pk 56 52 55 (cB false)]
 (.cond 56 (sR [mV 58 3,lT 59 16 3,.cc 60 58 [59],mV 57 60,eX 61 57 0,eX 62 57 1,.al 17 [.int .i64 0,.int .i64 0,.int .i64 0],.st 17 61 3,mV 18 62]
 (.seq (sR [mV 63 18,.un 64 63]
 (.cond 64 (sR [.bd 65 [.nl] [],.st 8 65 1,.mv 9 (cB false)]
 gR)
 .skip))
 (.reg [lT 66 17 3,.st 16 66 3])))
 .skip))
 (.gw (sR [fA 67 13 0,lF 68 67 1,.ln 69 68,mV 19 69]
 (.seq (.rq 13 [mV 70 19,.bi 71 .eql 70 (kI 0),mV 72 71,gF 72 (fA 73 13 0),gF 72 (lF 74 73 1),gF 72 (mV 75 19),gF 72 (.bi 76 .sub 75 (kI 1)),gF 72 (iA 77 74 76 4),gF 72 (fA 78 77 1),gF 72 (lT 79 78 3),gF 72 (lT 80 16 3),gF 72 (.es 81 true [0,0,0] 79 80),.pk 82 72 (cB true) 81])
 (.cond 82 (.reg [fA 83 13 0,lF 84 83 1,mV 85 15,lT 86 16 3,.bd 87 [.int .i64 0,.int .i64 0,.int .i64 0,.int .i64 0] [(0,1,85),(1,3,86)],.bs 88 4 [87] false,.ap 89 84 88 4 32,fA 90 13 0,.st 90 89 1])
 .skip))))))))
 (.reg [.bi 91 .add 42 (kI 1),mV 42 91]))))))))
 (.seq (sR [fA 92 13 0,lF 93 92 1,.ln 94 93,.bi 95 .gtr 94 (kI 200)]
 (.cond 95 (sR [.bd 96 [.nl] [],.st 8 96 1,.mv 9 (cB false)]
 gR)
 .skip))
 (sR [lT 97 13 1,.st 8 97 1,.mv 9 (cB true)]
 gR)))))))
def X3(v10:(List Pt))(x10:Int)(k10:(List Pt)->Option ((List Pt)×Bool))(v12:Vec):Option ((List Pt)×Bool) :=
 (bif ((v10.length:Int)==0)then some default else(idx v10 (w64 ((v10.length:Int)-1)))).bind fun e13=>bif (((v10.length:Int)==0)||(!(e13.free.a==v12.a&&(e13.free.b==v12.b&&(e13.free.c==v12.c&&true)))))then((appL 32 v10 [(Pt.mk x10 v12)]).bind fun xs15=>k10 xs15)else(k10 v10)
def V3(p1:List Pt)(from2 to3:Int)(c4:Vec)(x10:Int)(_:Nat)(v10:(List Pt))(k10:(List Pt)->Option ((List Pt)×Bool)):Option ((List Pt)×Bool) :=
 (Ml p1 x10).bind fun y11=>bif ((decide (from2<=x10))&&(decide (x10<to3)))then(bif (!(J9 y11 c4).2)then(some ([],false))else((X3 v10 x10 k10) ((J9 y11 c4).1)))else((X3 v10 x10 k10) y11)
def Y5(v10:(List Pt)):Option ((List Pt)×Bool) :=
 bif (decide (200<(v10.length:Int)))then(some ([],false))else(some (v10,true))
def V5(x6:Pt)(_:Nat)(v6:(List Int))(k6:(List Int)->Option ((List Pt)×Bool)):Option ((List Pt)×Bool) :=
 (appL 8 v6 [x6.t]).bind fun xs7=>k6 xs7
def X5(p1:List Pt)(from2 to3:Int)(c4:Vec)(v6:(List Int)):Option ((List Pt)×Bool) :=
 (W0X v6).bind fun xs8=>rgl (V3 p1 from2 to3 c4) Y5 (L5 xs8) 0 []
def Y4(p1:List Pt)(from2 to3:Int)(c4:Vec):Option ((List Pt)×Bool) :=
 rgl V5 (X5 p1 from2 to3 c4) p1 0 [from2,to3]
theorem Ll{p1:List Pt}{from2 to3:Int}{c4:Vec}{r:(List Pt)×Bool}(H:Y4 p1 from2 to3 c4=some r):Snd Tryz.prog UN [.agg [rV 4 (p1.map ePt)],iV from2,iV to3,.fn X7 [.ept (eVec c4) 0]] (.tup [O1 .nw r.1,.bool r.2]) []:=by
 refine wS Vl [.c 8 1 true,.t 9] ?_
 unfold Y4 at H
 refine wG [.u 25 (.ln _ _ fun _=>lm p1 ePt)] fun q5=>?_
 refine wR (fun(i6:Nat) (v6:(List Int))=>⟨[(1,iV from2),(2,iV to3),(3,.fn X7 [.ept (eVec c4) 0]),(4,.ptr 4 0),(8,.ptr 8 0),(10,.sref 22),(24,rV 4 (p1.map ePt)),(25,iV (p1.length:Int)),(26,iV (i6:Int))],[],[(4,[rV 4 (p1.map ePt)]),(8,[.nl])],[(22,⟨1,v6.map eI,false⟩)]⟩) H (fun i6 x6 v6 I m k6 hxv6 hiv6 H N15=>?_) (fun v6 I m H=>?_)
 .unfold V5 at H
  refine wP ?_
  refine wt (ltT hiv6) ?_
  obtain⟨xs7,h7,H⟩:=bB H
  refine wG [.u 28 (.ix _ _ _ fun _=>Y0 ePt (Q0 hxv6)),.u 34 (.ap _ _ _ _ fun _=>M0 eI h7),.w 35 (wi .i64 rfl hiv6 q5.1)] fun _=>?_
  exact wT (N15 _ H)
 .unfold X5 at H
  refine wP ?_
  refine wf (ltF p1.length) ?_
  obtain⟨xs8,h8,H⟩:=bB H
  refine wG [.u 37 (.cr M4 1 _ [] [] false _ (fun _=>J09 v6) (fun _=>trivial) (fun _=>rfl) (fun _=>Q0X h8)),.u 40 (.cr V6 1 _ [] [] true _ (fun _=>J09 xs8) (fun _=>trivial) (fun _=>rfl) (fun _=>M0J xs8)),.u 41 (.ln _ _ fun _=>lm (L5 xs8) eI)] fun q9=>?_
  refine X07 (fun(i10:Nat) (v10:(List Pt))=>⟨[(1,.int .i64 from2),(2,.int .i64 to3),(3,.fn X7 [.ept (eVec c4) 0]),(4,.ptr 4 0),(8,.ptr 8 0),(13,.ptr 13 0),(40,.sref 41000),(41,.int .i64 ((L5 xs8).length:Int)),(42,.int .i64 (i10:Int))],[],[(4,[.sl .rd 4 (p1.map ePt)]),(8,[.nl]),(13,[.sref 290000])],[(290000,⟨4,v10.map ePt,false⟩),(41000,⟨1,(L5 xs8).map eI,false⟩)]⟩) [] [(13,[.z 290000])] [(290000,(none,4))] [] (by kernel_rfl) (by kernel_rfl) H (fun i10 x10 v10 I m k10 hxv10 hiv10 H N57=>?_) (fun v10 I m H=>?_)
  .unfold V3 at H
   refine wP ?_
   refine wt (ltT hiv10) ?_
   obtain⟨y11,h11,H⟩:=bB H
   refine wG [.u 44 (.ix _ _ _ fun _=>Y0 eI (Q0 hxv10)),.u 45 (.el _ _ _ fun _=>gm eI (L7 (Q0 hxv10))),.c 48 (VX h11)] fun _=>?_
   refine WZ (r:=r) (X3 v10 x10 k10) 0 (fun v12:Vec=>⟨[(1,.int .i64 from2),(2,.int .i64 to3),(3,.fn X7 [.ept (eVec c4) 0]),(4,.ptr 4 0),(8,.ptr 8 0),(13,.ptr 13 0),(15,.int .i64 x10),(16,.ptr 16 0),(40,.sref 41000),(41,.int .i64 ((L5 xs8).length:Int)),(42,.int .i64 (i10:Int))],[],[(4,[.sl .rd 4 (p1.map ePt)]),(8,[.nl]),(13,[.sref 290000]),(16,(eVec v12).cells)],[(290000,⟨4,v10.map ePt,false⟩),(41000,⟨1,(L5 xs8).map eI,false⟩)]⟩) (by kernel_rfl) (fun v12 H=>?_) (fun J48=>?_)
   .unfold X3 at H
    obtain⟨e13,h13,H⟩:=bB H
    refine wG [.u 69 (.ln _ _ fun _=>lm v10 ePt),.g 77 [(_,false)] (.ix _ _ _ fun q=>Y0 ePt (bF q.1 h13)),.g 79 [(_,false)] (.el _ _ _ fun q=>gm ePt (L7 (bF q.1 h13)))] fun q14=>?_
    refine V0 H (fun H=>?_) fun H=>?_
    .obtain⟨xs15,h15,H⟩:=bB H
     refine wG [.u 89 (.ap _ _ _ _ fun _=>M0 ePt h15),.w 91 (wi .i64 rfl hiv10 q9.1)] fun _=>?_
     exact wT (N57 _ H)
    .refine wG [.w 91 (wi .i64 rfl hiv10 q9.1)] fun _=>?_
     exact wT (N57 _ H)
   .refine V0 H (fun H=>?_) fun H=>?_
    .refine wG [.u 60 (.clsr _ _ _ _ _ (AEs.refl _) (by kernel_rfl) (fun _=>W0j y11 c4))] fun _=>?_
     refine V0 H (fun H=>?_) fun H=>?_
     .refine wP ?_
      replace H:=sI H;subst H
      exact wN [(8,.d),(9,.d)] [(8,[.n 4])] [] [] [] [⟨_,Xg ([]:List Pt)⟩]
     .refine wP ?_
      exact wT (J48 _ H)
    .refine wP ?_
     exact wT (J48 _ H)
  .unfold Y5 at H
   refine wP ?_
   refine wf (ltF (L5 xs8).length) ?_
   refine wG [.u 94 (.ln _ _ fun _=>lm v10 ePt)] fun q16=>?_
   refine V0 H (fun H=>?_) fun H=>?_
   .refine wP ?_
    replace H:=sI H;subst H
    exact wN [(8,.d),(9,.d)] [(8,[.n 4])] [] [] [] [⟨_,Xg ([]:List Pt)⟩]
   .refine wP ?_
    replace H:=sI H;subst H
    exact wN [(8,.d),(9,.d)] [(8,[.f])] [] [290000] [] [⟨_,Xg v10⟩]
def Y0x:L :=
sR [.bx 4 0,.bx 7 3,.al 8 [.nl],.mv 9 (cB false)]
 (.seq (sR [lT 10 4 1,cQ 11 OH [10],.un 12 11,mV 13 12,gF 13 (mV 14 1),gF 13 (mV 15 2),gF 13 (cQ 16 L00 [14,15]),gF 13 (.un 17 16),.pk 18 13 (cB true) 17,mV 19 18,gF 19 (lT 20 7 3),gF 19 (cQ 21 Q5 [20]),gF 19 (.un 22 21),.pk 23 19 (cB true) 22]
 (.cond 23 (sR [.bd 24 [.nl] [],.st 8 24 1,.mv 9 (cB false)]
 gR)
 .skip))
 (sR [.fb 7,lT 25 4 1,mV 26 1,mV 27 2,.mf 28 X7 [7],cQ 29 UN [25,26,27,28],eX 30 29 0,eX 31 29 1,.st 8 30 1,mV 9 31]
 gR))
def Jj(p1:List Pt)(from2 to3:Int)(v4:Vec):Option ((List Pt)×Bool) :=
 (Vo p1).bind fun b5=>bif (((!b5)||(!(Qw from2 to3)))||(!(J0 v4)))then(some ([],false))else((Y4 p1 from2 to3 v4).bind fun y6=>some (y6.1,y6.2))
theorem O02{p1:List Pt}{from2 to3:Int}{v4:Vec}{r:(List Pt)×Bool}(H:Jj p1 from2 to3 v4=some r):Snd Tryz.prog Ui [.agg [rV 4 (p1.map ePt)],iV from2,iV to3,eVec v4] (.tup [O1 .nw r.1,.bool r.2]) []:=by
 refine wS Y0x [.c 8 1 true,.t 9] ?_
 unfold Jj at H
 obtain⟨b5,h5,H⟩:=bB H
 refine wG [.c 11 (MS h5),.g 16 [((!b5),false)] (.call _ _ _ _ _ (AEs.refl _) (fun _=>Y0S from2 to3)),.g 21 [(((!b5)||(!(Qw from2 to3))),false)] (.call _ _ _ _ _ (AEs.refl _) (fun _=>M5 v4))] fun _=>?_
 refine V0 H (fun H=>?_) fun H=>?_
 .refine wP ?_
  replace H:=sI H;subst H
  exact wN [(8,.d),(9,.d)] [(8,[.n 4])] [] [] [] [⟨_,Xg ([]:List Pt)⟩]
 .obtain⟨y6,h6,H⟩:=bB H
  refine wG [.c 29 (Ll h6)] fun _=>?_
  replace H:=sI H;subst H
  exact wN [(8,.d),(9,.d)] [(8,[])] [] [] [] [⟨_,Xg y6.1⟩]
structure ProfP(p:List Pt):Prop where
 pos:0<p.length
 le:p.length<=200
 zero:∀x,p[0]?=some x->x.t=0
 ok:∀x∈p,time x.t=true/\X0 x.free=true
 asc:∀(i:Nat) (x y:Pt),p[i]?=some x->p[i+1]?=some y->x.t<y.t/\x.free≠y.free
theorem JS(p:List Pt):Vo p=U8 p:=by
 have e:(!Z0 (p.length:Int) 1 200)=(decide ((p.length:Int)<1)||decide (200<(p.length:Int))):=by
  unfold Z0
  rw[Bool.eq_iff_iff];simp
 unfold Vo U8
 rw[e]
 rfl
theorem U1p(a b:Vec):(a.a==b.a&&(a.b==b.b&&(a.c==b.c&&true)))=decide (a=b):=by
 cases a;cases b
 simp only[Vec.mk.injEq,Bool.and_true]
 rw[Bool.eq_iff_iff]
 simp
theorem U04(p:List Pt):∃b,U8 p=some b/\(b=true↔ProfP p):=by
 unfold U8
 by_cases h1:p.length<1
 .exact⟨false,by simp[show((p.length:Int)<1) by omega],Ze fun h=>by have:=h.pos;omega⟩
 by_cases h2:200<p.length
 .exact⟨false,by simp[show((200:Int)<p.length) by omega],Ze fun h=>by have:=h.le;omega⟩
 obtain⟨p0,hp0⟩:∃p0,p[0]?=some p0:=⟨_,yA (by omega)⟩
 have e1:decide ((p.length:Int)<1)=false:=by simp;omega
 have e2:decide ((200:Int)<(p.length:Int))=false:=by simp;omega
 rw[e1,e2]
 simp only[Bool.or_self,yM,Bool.false_or,show idx p 0=some p0 from by rw[← hp0];exact U2 (i:=0),bS]
 by_cases h4:p0.t=0
 rotate_left
 .refine⟨false,by rw[show(p0.t != 0)=true by simpa using h4];rfl,Ze fun h=>h4 (h.zero _ hp0)⟩
 rw[h4]
 simp only[bne_self_eq_false,yM]
 refine Ud (fun i (_:Unit)=>(∀j x,j<i->p[j]?=some x->time x.t=true/\X0 x.free=true)/\∀j x y,j+1<i->p[j]?=some x->p[j+1]?=some y->x.t<y.t/\x.free≠y.free)
  (fun r=>∃b,r=some b/\(b=true↔ProfP p)) ?_ ?_ ⟨fun j x h=>by omega,fun j x y h=>by omega⟩
 .intro i x _ k hi hI hk
  have hil:=(yB hi).1
  unfold VJ
  rw[Jc]
  cases ht:time x.t with
  |false=>exact⟨false,rfl,Ze fun h=>by have:=(h.ok x (yE hi)).1;rw[ht]at this;cases this⟩
  |true =>
  cases hv:X0 x.free with
  |false=>exact⟨false,rfl,Ze fun h=>by have:=(h.ok x (yE hi)).2;rw[hv]at this;cases this⟩
  |true =>
  simp only[yL,Bool.or_self,yM,Bool.false_or,U1p]
  have new1:∀j y,j<i+1->p[j]?=some y->time y.t=true/\X0 y.free=true:=by
   intro j y hj hy
   by_cases e:j=i
   .subst e;rw[hi]at hy;cases hy;exact⟨ht,hv⟩
   .exact hI.1 j y (by omega) hy
  by_cases h0:i=0
  .subst h0
   simp only[Int.natCast_zero,Int.lt_irrefl,decide_false,yM,Bool.false_and]
   exact hk () ⟨new1,fun j x y h=>by omega⟩
  .have hgt:decide ((0:Int)<(i:Int))=true:=by simp;omega
   obtain⟨q,hq⟩:∃q,p[i-1]?=some q:=⟨_,yA (by omega)⟩
   rw[hgt,O0y (by omega) (by omega)]
   simp only[yN,Bool.true_and,U2,hq,bS]
   by_cases h5:x.t<=q.t
   .simp only[h5,decide_true,yN,Bool.true_or]
    refine⟨false,rfl,Ze fun h=>?_⟩
    have:=(h.asc (i-1) q x hq (by rw[show i-1+1=i by omega];exact hi)).1
    omega
   .simp only[h5,decide_false,yM,Bool.false_or,bS]
    by_cases h6:q.free=x.free
    .simp only[h6,decide_true,yN]
     refine⟨false,rfl,Ze fun h=>?_⟩
     exact(h.asc (i-1) q x hq (by rw[show i-1+1=i by omega];exact hi)).2 h6
    .simp only[h6,decide_false,yM]
     refine hk () ⟨new1,fun j a b hj ha hb=>?_⟩
     by_cases e:j+1=i
     .have:j=i-1:=by omega
      subst this
      rw[hq]at ha;cases ha
      rw[show i-1+1=i by omega,hi]at hb;cases hb
      exact⟨by omega,h6⟩
     .exact hI.2 j a b (by omega) ha hb
 .intro _ hI
  refine⟨true,rfl,fun _=>⟨by omega,by omega,fun x hx=>by rw[hp0]at hx;cases hx;exact h4,fun x hx=>?_,fun i x y hx hy=>?_⟩,fun _=>rfl⟩
  .obtain⟨j,hj⟩:=List.getElem?_of_mem hx
   exact hI.1 j x (yB hj).1 hj
  .exact hI.2 i x y (yB hy).1 hx hy
noncomputable def profOk(p:List Pt):Bool:=(U8 p).getD false
theorem V9(p:List Pt):U8 p=some (profOk p):=by
 obtain⟨b,h3,_⟩:=U04 p
 rw[profOk,h3];rfl
theorem XI{p:List Pt}:profOk p=true↔ProfP p:=by
 obtain⟨b,h3,h4⟩:=U04 p
 rw[profOk,h3];exact h4
theorem ProfP.lt{p:List Pt}(h:ProfP p):∀(j i:Nat) (x y:Pt),i<j->p[i]?=some x->p[j]?=some y->x.t<y.t:=by
 intro j
 induction j with
 |zero=>intro i x y hij;omega
 |succ j ih =>
  intro i x y hij hx hy
  obtain⟨z,hz⟩:∃z,p[j]?=some z:=⟨_,yA (by have:=(yB hy).1;omega)⟩
  have h1:=(h.asc j z y hz hy).1
  by_cases e:i=j
  .subst e;rw[hz]at hx;cases hx;exact h1
  .have:=ih i x z (by omega) hx hz
   omega
theorem ProfP.asc_times{p:List Pt}(h:ProfP p):(p.map Pt.t).Pairwise (· < ·):=by
 rw[List.pairwise_iff_getElem]
 intro i j hi hj hij
 simp only[List.length_map]at hi hj
 simp only[List.getElem_map]
 exact h.lt j i _ _ hij (yA hi) (yA hj)
def atV(p:List Pt)(t:Int):Vec:=p.foldl (fun v x=>bif decide (x.t<=t)then x.free else v) ⟨0,0,0⟩
theorem MX(p:List Pt)(t:Int):LH p t=some (atV p t):=by
 unfold LH
 rw[JJ (f:=fun v (x:Pt)=>bif decide (x.t<=t)then x.free else v) (fun x _ i b k=>by unfold XR;cases decide (x.t<=t)<;>rfl)]
 rfl
theorem X0s(p:List Pt)(t:Int):Ml p t=some (atV p t):=MX p t
theorem Y1L{p:List Pt}(t:Int)(h:∀x∈p,X0 x.free=true):∀v,X0 v=true->X0 (p.foldl (fun v x=>bif decide (x.t<=t)then x.free else v) v)=true:=by
 induction p with
 |nil=>intro v hv;exact hv
 |cons x l ih =>
  intro v hv
  rw[List.foldl_cons]
  refine ih (fun y hy=>h y (yH _ hy)) _ ?_
  cases decide (x.t<=t)with
  |true=>exact h x (yJ ..)
  |false=>exact hv
theorem M0s{p:List Pt}(h:ProfP p)(t:Int):X0 (atV p t)=true:=Y1L t (fun x hx=>(h.ok x hx).2) _ (by decide)
theorem J1W{p:List Pt}(h:(p.map Pt.t).Pairwise (· < ·)){x:Pt}(hx:x∈p):atV p x.t=x.free:=by
 have key:∀(l:List Pt) (v:Vec),(l.map Pt.t).Pairwise (· < ·)->x∈l->l.foldl (fun v y=>bif decide (y.t<=x.t)then y.free else v) v=x.free:=by
  intro l
  induction l with
  |nil=>intro v _ h;cases h
  |cons y l ih =>
   intro v hp hm
   rw[List.foldl_cons]
   rw[List.map_cons,List.pairwise_cons]at hp
   rcases yX hm with rfl|hm
   .rw[show decide (x.t<=x.t)=true by simp,yN]
    have:∀(m:List Pt) (v:Vec),(∀y∈m,x.t<y.t)->m.foldl (fun v y=>bif decide (y.t<=x.t)then y.free else v) v=v:=by
     intro m
     induction m with
     |nil=>intro v _;rfl
     |cons z m ih =>
      intro v hm
      have:=hm z (yJ ..)
      rw[List.foldl_cons,show decide (z.t<=x.t)=false by simp;omega,yM]
      exact ih v fun y hy=>hm y (yH _ hy)
    exact this l _ fun y hy=>hp.1 _ (List.mem_map_of_mem hy)
   .exact ih _ hp.2 hm
 exact key p _ h hx
theorem Y1B{p:List Pt}{from_ to_:Int}{f0:Vec}(hp:∀x∈p,x.t=from_->x.free=f0)(hok:∀x∈p,X0 x.free=true)(h0:X0 f0=true):∀(v:Vec),X0 v=true->M1 v f0=v ->
  p.foldl (fun v x=>bif decide (from_<=x.t)&&decide (x.t<to_)then M1 v x.free else v) v=p.foldl (fun v x=>bif decide (from_<x.t)&&decide (x.t<to_)then M1 v x.free else v) v:=by
 induction p with
 |nil=>intro v _ _;rfl
 |cons x l ih =>
  intro v hv hm
  rw[List.foldl_cons,List.foldl_cons]
  have ih:=ih (fun y hy=>hp y (yH _ hy)) (fun y hy=>hok y (yH _ hy))
  by_cases e:x.t=from_
  .rw[show decide (from_<x.t)=false by simp;omega]
   simp only[Bool.false_and,yM]
   have:(bif decide (from_<=x.t)&&decide (x.t<to_)then M1 v x.free else v)=v:=by
    rw[hp x (yJ ..) e,hm]
    cases(decide (from_<=x.t)&&decide (x.t<to_))<;>rfl
   rw[this]
   exact ih v hv hm
  .have e2:decide (from_<=x.t)=decide (from_<x.t):=by rw[Bool.eq_iff_iff];simp;omega
   rw[e2]
   cases(decide (from_<x.t)&&decide (x.t<to_))with
   |false=>exact ih v hv hm
   |true =>
    simp only[yN]
    have hx:=hok x (yJ ..)
    refine ih _ (VU hv hx) ?_
    have e:∀x y:Int,U3 x y=min x y:=fun x y=>by unfold U3;by_cases h:x<y<;>simp[h]<;>omega
    have q:=VU hv hx
    have a1:M1 v x.free=⟨min v.a x.free.a,min v.b x.free.b,min v.c x.free.c⟩:=by unfold M1;simp[hv,hx,e]
    have a2:M1 v f0=⟨min v.a f0.a,min v.b f0.b,min v.c f0.c⟩:=by unfold M1;simp[hv,h0,e]
    have a3:M1 (M1 v x.free) f0=⟨min (M1 v x.free).a f0.a,min (M1 v x.free).b f0.b,min (M1 v x.free).c f0.c⟩:=by rw[M1];simp[q,h0,e]
    rw[a3,a1]
    rw[a2]at hm
    have b1:=congrArg Vec.a hm;have b2:=congrArg Vec.b hm;have b3:=congrArg Vec.c hm
    simp only at b1 b2 b3
    simp only[Vec.mk.injEq];omega
def minV(p:List Pt)(from_ to_:Int):Vec:=p.foldl (fun v x=>bif decide (from_<=x.t)&&decide (x.t<to_)then M1 v x.free else v) (atV p from_)
theorem Mq(p:List Pt)(from_ to_:Int):Xh p from_ to_=some (if profOk p=true/\time from_=true/\time to_=true/\from_<to_ then(minV p from_ to_,true)else(⟨0,0,0⟩,false)):=by
 unfold Xh
 rw[V9,bS]
 simp only[Jc]
 cases profOk p<;>cases time from_<;>cases time to_<;>try simp
 by_cases h:to_<=from_
 .simp[h,show ¬ from_<to_ by omega]
 .simp only[h,decide_false,yM,show from_<to_ by omega,yb,MX,bS]
  rw[JJ (f:=fun v (x:Pt)=>bif decide (from_<=x.t)&&decide (x.t<to_)then M1 v x.free else v) (fun x _ i b k=>by unfold ZD;cases(decide (from_<=x.t)&&decide (x.t<to_))<;>rfl)]
  rfl
theorem V0j{p:List Pt}(h:ProfP p)(from_ to_:Int):Md p from_ to_=some (minV p from_ to_):=by
 unfold Md minV
 rw[X0s,bS]
 rw[JJ (f:=fun v (x:Pt)=>bif decide (from_<x.t)&&decide (x.t<to_)then M1 v x.free else v) (fun x _ i b k=>by unfold Xo;rw[M0S];cases(decide (from_<x.t)&&decide (x.t<to_))<;>rfl)]
 rw[Y1B (p:=p) (f0:=atV p from_) (fun x hx e=>by rw[← e,J1W h.asc_times hx]) (fun x hx=>(h.ok x hx).2) (M0s h _) _ (M0s h _) (V0u (M0s h _))]
 rfl
end Go.Proofs.YtodafdoninblmaaGreat
