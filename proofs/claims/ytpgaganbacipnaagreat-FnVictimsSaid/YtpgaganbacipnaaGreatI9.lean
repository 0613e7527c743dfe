/-
  Lemmas, part 9.
-/
import Derived.Test.YtpgaganbacipnaaGreatI8
import Derived.Sort.Grow
import Derived.Lib.SlicesCompact
import Derived.Shelf.SlSortCmp.NoneTotal
import Derived.Ground.SlsfProg
import Derived.Shelf.Small.Bits
import Derived.Shelf.Strconv.Itoa0
import Derived.Shelf.Sort.Plain
import Derived.Ground.Names2Prog
import Derived.Shelf.Slices.CompactI
import Derived.Shelf.Slices.Cells
import Derived.Shelf.Slices.In.SortNone
import Derived.Shelf.SlSortCmp.Insertion
import Derived.Shelf.SlSortCmp.SiftDown1
import Derived.Shelf.SlSortCmp.HeapSort1
import Derived.Shelf.SlSortCmp.Insertion1
import Derived.Shelf.SlSortCmp.Median1
import Derived.Shelf.SlSortCmp.Pivot1
import Derived.Shelf.SlSortCmp.ReverseRange1
import Derived.Shelf.SlSortCmp.PartialInsertion1
import Derived.Shelf.SlSortCmp.PartitionEqual1
import Derived.Shelf.SlSortCmp.Partition1
import Derived.Shelf.SlSortCmp.Pdq1
import Derived.Shelf.SlSortCmp.Whole1
import Derived.Test.YtpgaganbacipnaaGreatProg
namespace Go.Proofs.YtpgaganbacipnaaGreat.Eng
open Go Go.RowKit
structure Enc{α:Type}(sz:Nat)(enc:α->AV)(val:α->List Value):Prop where
 len:∀x,(enc x).cells.length=sz
 vlen:∀x,(val x).length=sz
 one:∀x,∀a∈(enc x).cells,a.one=true
 vone:∀x,∀v∈val x,v.oneCell'=true
 rd:∀(w:World) (S:Nat->Nat->Prop) (T:Tag->Nat->Value->Prop) x (j:Nat) (a:AV) (u:Value),(enc x).cells[j]?=some a->(val x)[j]?=some u->Rd w S T a u
 inv:∀(w:World) (S:Nat->Nat->Prop) (T:Tag->Nat->Value->Prop) x (j:Nat) (a:AV) (u v:Value),(enc x).cells[j]?=some a->(val x)[j]?=some u->Rd w S T a v->v=u
theorem Enc.flen{α:Type}{sz:Nat}{enc:α->AV}{val:α->List Value}(E:Enc sz enc val)(zs:List α):(zs.flatMap val).length=zs.length*sz:=by
 induction zs with
 |nil=>simp
 |cons x l ih=>simp only[ya,yU,ih,E.vlen,yT,Nat.succ_mul];omega
theorem Enc.elen{α:Type}{sz:Nat}{enc:α->AV}{val:α->List Value}(E:Enc sz enc val)(zs:List α):(flat (zs.map enc)).length=zs.length*sz:=by
 induction zs with
 |nil=>simp[flat]
 |cons x l ih=>simp only[flat,List.map_cons,ya,yU,yT,Nat.succ_mul]at ih ⊢;rw[ih,E.len];omega
theorem Enc.pair{α:Type}{sz:Nat}{enc:α->AV}{val:α->List Value}(E:Enc sz enc val){zs:List α}:∀{j:Nat} {a:AV} {u:Value},(flat (zs.map enc))[j]?=some a->(zs.flatMap val)[j]?=some u->∃(x:α) (i:Nat),(enc x).cells[i]?=some a/\(val x)[i]?=some u:=by
 induction zs with
 |nil=>intro j a u h;simp[flat]at h
 |cons x l ih =>
  intro j a u h1 h2
  simp only[flat,List.map_cons,ya]at ih h1 h2
  by_cases hj:j<sz
  .rw[yK (by rw[E.len];exact hj)]at h1
   rw[yK (by rw[E.vlen];exact hj)]at h2
   exact⟨x,j,h1,h2⟩
  .rw[yS (by rw[E.len];omega),E.len]at h1
   rw[yS (by rw[E.vlen];omega),E.vlen]at h2
   exact ih h1 h2
theorem Enc.flat_inv{α:Type}{sz:Nat}{enc:α->AV}{val:α->List Value}(E:Enc sz enc val){zs:List α}{w:World}{S:Nat->Nat->Prop}{T:Tag->Nat->Value->Prop}{j:Nat}{a:AV}{u v:Value}(h1:(flat (zs.map enc))[j]?=some a)(h2:(zs.flatMap val)[j]?=some u)(h:Rd w S T a v):v=u:=by
 obtain⟨x,i,q1,q2⟩:=E.pair h1 h2
 exact E.inv w S T x i a u v q1 q2 h
theorem M1s{α:Type}{sz:Nat}{enc:α->AV}{val:α->List Value}(E:Enc sz enc val){w:World}{S:Nat->Nat->Prop}{T:Tag->Nat->Value->Prop}{zs:List α}{b cap:Nat}{cur:Array Value}{ty:TypeId}(h1:w.heap[b]?=some (.cells cur ty (0,0)))(h2:zs.length<=cap)(h3:cap<=maxLen)
  (h4:cur.size=cap*sz) (h5:cur.toList.take (zs.length*sz)=zs.flatMap val):YC w S T ⟨sz,zs.map enc,false⟩ (.slice (some ⟨b,0,none⟩) zs.length cap):=by
 refine⟨zs.flatMap val,ty,?_,λe he=>?_,λj a u ha hu=>?_⟩
 .simp only[List.length_map]
  exact⟨E.flen zs,.inr ⟨b,cap,cur,rfl,Nat.zero_le _,h1,h2,h3,h4,h5⟩⟩
 .obtain⟨x,_,rfl⟩:=yY he;exact E.len x
 .obtain⟨x,i,q1,q2⟩:=E.pair ha hu
  exact⟨E.one x a (yE q1),E.vone x u (yE q2),E.rd _ _ _ x i a u q1 q2⟩
def RowX{α:Type}(P:Program)(f:FuncId)(sz:Nat)(enc:α->AV)(val:α->List Value)(xa:List AV)(zs zs':List α)(ret:Bool):Prop :=
 ∀(w:World) (g:Gh) (n0:Nat) (us:List Value),Heap w g (hSt n0 [] [some ⟨sz,zs.map enc,false⟩])->us.length=xa.length ->
  (∀(i:Nat) (a:AV) (v:Value),xa[i]?=some a->us[i]?=some v->Gv w g (hSt n0 [] [some ⟨sz,zs.map enc,false⟩]) a v) ->
 (zs=[]->Calls P f (.slice none 0 0::us).toArray w λe w'=>e=.returned (if ret then .slice none 0 0 else .tuple #[])/\w'=w) /\
 ∀(b cap:Nat) (cur:Array Value) (ty:TypeId),w.heap[b]?=some (.cells cur ty (0,0))->zs.length<=cap->cap<=maxLen->cur.size=cap*sz->cur.toList.take (zs.length*sz)=zs.flatMap val->(∀o,¬ g.S b o) ->
  Calls P f (.slice (some ⟨b,0,none⟩) zs.length cap::us).toArray w λe w'=>e=.returned (if ret then .slice (some ⟨b,0,none⟩) zs'.length cap else .tuple #[]) /\
   ∃cur':Array Value,w'.heap[b]?=some (.cells cur' ty (0,0))/\cur'.size=cap*sz/\cur'.toList.take (zs'.length*sz)=zs'.flatMap val/\zs'.length<=cap /\
    w'.os=w.os/\w'.tape=w.tape/\w'.output=w.output/\w.heap.size<=w'.heap.size/\∀k,k<w.heap.size->k≠b->w'.heap[k]?=w.heap[k]?
theorem Y1n{α:Type}{sz:Nat}{enc:α->AV}{val:α->List Value}(E:Enc sz enc val){P:Program}{f:FuncId}{zs zs':List α}{ret:Bool}{xa:List AV}(h0:zs=[]->zs'=[])(hr:ret=false->zs'.length=zs.length)(h:RowX P f sz enc val xa zs zs' ret):W0h P f sz (zs.map enc) xa ret (zs'.map enc):=by
 intro n0 w g vs H hN hl hvs
 match vs,hl with
 |v::us,hl =>
 obtain⟨hnil,hblk⟩:=h w g n0 us H (by simpa using hl) λi a u ha hu=>hvs (i+1) a u (by simpa using ha) (by simpa using hu)
 have hv:v=g.rv 0:=by
  have q:=hvs 0 _ v rfl rfl
  exact q.sref_inv (by rfl)
 subst hv
 have hrow:=H.rws 0 ⟨sz,zs.map enc,false⟩ rfl
 have hrn:=H.rwn 0 ⟨sz,zs.map enc,false⟩ rfl
 obtain⟨xs,ty,hown,_,hc⟩:=hrow
 have hzl:(zs.map enc).length=zs.length:=by simp
 have fin:∀(v':Value) (w':World) (e:Ending),e=.returned (if ret then v' else .tuple #[])->(ret=false->v'=g.rv 0)->v'.ownBlock=(g.rv 0).ownBlock->v'.oneCell'=true->YC w' g.S g.T ⟨sz,zs'.map enc,false⟩ v'->w'.os=w.os->w'.tape=w.tape->w'.output=w.output->w.heap.size<=w'.heap.size ->
   (∀k,k<w.heap.size->(g.rv 0).ownBlock≠some k->w'.heap[k]?=w.heap[k]?) ->
   ∃v,e=.returned v/\Kept (OwnB g 0 1) w w'/\∃n1 res bout upd new,n0<=n1/\(bout=[]/\(match ret with|true=>res=.sref 1/\upd=[none]/\new=[⟨sz,zs'.map enc,false⟩]|false=>res=.tup []/\upd=[some (zs'.map enc)]/\new=[])) /\
   bout.map List.length=([]:List (List AV)).map List.length/\upd.length=1/\∃g':Gh,(∀b o,g'.S b o->(g.S b o\/w.heap.size<=b\/OwnB g 0 1 b)/\(w.heap.size<=b\/OwnB g 0 1 b->UnfB w' b))/\(∀b,g'.N b->g.N b) /\
   (∀i,i<0->g'.bb i=g.bb i)/\(∀i es,upd[i]?=some (some es)->g'.rv i=g.rv i)/\Heap w' g' (hSt n1 bout (V4 [⟨sz,zs.map enc,false⟩] upd new)) /\
   (∀(j:Nat) (r:Row),new[j]?=some r->∀b,(g'.rv (1+j)).ownBlock=some b->w.heap.size<=b\/OwnB g 0 1 b) /\
   (∀i,i<n0->g'.ov i=g.ov i)/\(∀i D,n0<=i->g'.ov i=some D->∀b,D b->w.heap.size<=b\/OwnB g 0 1 b) /\
   Gv w' g' (hSt n1 bout (V4 [⟨sz,zs.map enc,false⟩] upd new)) res v:=by
  intro v' w' e he hv' hb' h1 hro q1 q2 q3 q4 q5
  have hownB:∀b,g.own b->b<w.heap.size/\(g.rv 0).ownBlock≠some b:=λb hb=>⟨H.ow.size hb,λq=>H.ow.rw 0 _ rfl b q hb⟩
  have noU:∀b o,g.S b o->(g.S b o\/w.heap.size<=b\/OwnB g 0 1 b)/\(w.heap.size<=b\/OwnB g 0 1 b->UnfB w' b):=λb o h=>⟨.inl h,λq=>by
   rcases q with q|⟨i,hi,_⟩|⟨i,hi,e⟩
   .exact absurd (H.sw b o h) (Nat.not_lt.2 q)
   .omega
   .have:i=0:=by omega
    subst this
    exact absurd h ((hrn.2 b e).2 o)⟩
  have hK:Kept (OwnB g 0 1) w w':=⟨q1,q2,q3,q4,λk hk hno=>q5 k hk λq=>hno (.inr ⟨0,by omega,q⟩)⟩
  cases ret with
  |false =>
   have hv':=hv' rfl
   subst hv'
   refine⟨.tuple #[],by simpa using he,hK,n0,.tup [],[],[some (zs'.map enc)],[],yV _,⟨rfl,rfl,rfl,rfl⟩,rfl,rfl,g,noU,λb h=>h,λi hi=>by omega,λi es _=>rfl,?_,λj r h=>by simp at h,λ_ _=>rfl,
    λi D hi ho=>λ_ _=>absurd (H.ow.lt i D ho) (by simp only[hSt];omega),.tup [] [] rfl λi a v h=>by simp at h⟩
   have hrw:∀k r,(hSt n0 [] (V4 [⟨sz,zs.map enc,false⟩] [some (zs'.map enc)] [])).rw k=some r->k=0/\r=⟨sz,zs'.map enc,false⟩:=by
    intro k r hk
    match k with
    |0=>simp[hSt,V4]at hk;exact⟨rfl,hk.symm⟩
    |k+1=>simp[hSt,V4]at hk
   refine⟨λk cs h=>by simp[hSt]at h,λk cs h=>by simp[hSt]at h,λk r hk=>?_,λk r hk=>?_,λk k' cs cs' h=>by simp[hSt]at h,λk k' cs r h=>by simp[hSt]at h,λk k' r r' hk hk' hne=>?_,λb o h=>Nat.lt_of_lt_of_le (H.sw b o h) q4,?_⟩
   .obtain⟨rfl,rfl⟩:=hrw k r hk;exact hro
   .obtain⟨rfl,rfl⟩:=hrw k r hk;exact⟨rfl,hrn.2⟩
   .obtain⟨rfl,_⟩:=hrw k r hk;obtain⟨rfl,_⟩:=hrw k' r' hk';exact absurd rfl hne
   .refine H.ow.turn rfl (λ_ h=>h) (yV _) (λb hb=>q5 b (hownB b hb).1 (hownB b hb).2) (λk cs h=>by simp[hSt]at h) λk r hk b hb=>?_
    obtain⟨rfl,_⟩:=hrw k r hk
    exact H.ow.rw 0 _ rfl b hb
  |true =>
   refine⟨v',by simpa using he,hK,n0,.sref 1,[],[none],[⟨sz,zs'.map enc,false⟩],yV _,⟨rfl,rfl,rfl,rfl⟩,rfl,rfl,{ g with rv:=λi=>if i=1 then v' else g.rv i },noU,λb h=>h,λi hi=>by omega,λi es h=>?_,?_,λj r h b hb=>?_,λ_ _=>rfl,
    λi D hi ho=>λ_ _=>absurd (H.ow.lt i D ho) (by simp only[hSt];omega),.sref 1 v' h1 λr hr=>by simp⟩
   .match i with
    |0=>simp at h
    |i+1=>simp at h
   .have hrw:∀k r,(hSt n0 [] (V4 [⟨sz,zs.map enc,false⟩] [none] [⟨sz,zs'.map enc,false⟩])).rw k=some r->k=1/\r=⟨sz,zs'.map enc,false⟩:=by
     intro k r hk
     match k with
     |0=>simp[hSt,V4]at hk
     |1=>simp[hSt,V4]at hk;exact⟨rfl,hk.symm⟩
     |k+2=>simp[hSt,V4]at hk
    have hT:({ g with rv:=λi=>if i=1 then v' else g.rv i }:Gh).T=g.T:=Gh.T_eq rfl rfl
    refine⟨λk cs h=>by simp[hSt]at h,λk cs h=>by simp[hSt]at h,λk r hk=>?_,λk r hk=>?_,λk k' cs cs' h=>by simp[hSt]at h,λk k' cs r h=>by simp[hSt]at h,λk k' r r' hk hk' hne=>?_,λb o h=>Nat.lt_of_lt_of_le (H.sw b o h) q4,?_⟩
    .obtain⟨rfl,rfl⟩:=hrw k r hk
     rw[hT];exact hro
    .obtain⟨rfl,rfl⟩:=hrw k r hk
     refine⟨rfl,λb hb=>hrn.2 b ?_⟩
     simp only[yb]at hb
     rw[← hb',hb]
    .obtain⟨rfl,_⟩:=hrw k r hk;obtain⟨rfl,_⟩:=hrw k' r' hk';exact absurd rfl hne
    .refine H.ow.turn rfl (λ_ h=>h) (yV _) (λb hb=>q5 b (hownB b hb).1 (hownB b hb).2) (λk cs h=>by simp[hSt]at h) λk r hk b hb=>?_
     obtain⟨rfl,_⟩:=hrw k r hk
     simp only[yb]at hb
     exact H.ow.rw 0 _ rfl b (by rw[← hb',hb])
   .match j with
    |0 =>
     simp only[Nat.add_zero,yb]at hb
     exact .inr (.inr ⟨0,by omega,by rw[← hb',hb]⟩)
    |j+1=>simp at h
 rcases hown.2 with⟨hv,hn⟩|⟨b,cap,cur,hv,_,hb,hnc,hcm,hcs,htk⟩
 .have hz:zs=[]:=by
   rw[hzl]at hn
   exact List.eq_nil_of_length_eq_zero hn
  subst hz
  have hz':=h0 rfl
  subst hz'
  have:=hnil rfl
  rw[← hv]at this
  refine this.mono λe w' hw=>?_
  obtain⟨he,rfl⟩:=hw
  refine fin (g.rv 0) w' e (by rw[he]) (λ_=>rfl) rfl (by rw[hv];rfl) ?_ rfl rfl rfl (yV _) λ_ _ _=>rfl
  exact⟨xs,ty,hown,λe he=>by simp at he,λj a u ha=>by simp[flat]at ha⟩
 .rw[hzl]at hv hnc
  rw[hzl]at htk
  have hxs:xs=zs.flatMap val:=by
   have hxl:xs.length=zs.length*sz:=by rw[hown.1,hzl]
   have hvl:(zs.flatMap val).length=zs.length*sz:=E.flen zs
   apply List.ext_getElem (by rw[hxl,hvl])
   intro j h1 h2
   have hfl:(flat (zs.map enc)).length=zs.length*sz:=E.elen zs
   have hj:j<(flat (zs.map enc)).length:=by omega
   have q:=(hc j _ xs[j] (yA hj) (yA h1)).2.2
   exact E.flat_inv (yA hj) (yA h2) q
  have:=hblk b cap cur ty hb hnc hcm hcs (by rw[htk,hxs]) (hrn.2 b (by rw[hv];rfl)).2
  rw[← hv]at this
  refine this.mono λe w' hw=>?_
  obtain⟨he,cur',c1,c2,c3,c4,q1,q2,q3,q4,q5⟩:=hw
  have hrob:=M1s E (S:=g.S) (T:=g.T) c1 c4 hcm c2 c3
  refine fin (.slice (some ⟨b,0,none⟩) zs'.length cap) w' e he (λhr'=>by rw[hv,hr hr']) (by rw[hv];rfl) rfl hrob q1 q2 q3 q4 λk hk hne=>q5 k hk λe=>hne (by rw[hv,e];rfl)
def i64s(zs:List Int):List AV:=zs.map λn=>.int .i64 n
def i64v(zs:List Int):List Value:=zs.map λn=>.int .i64 n
theorem Z1D(zs:List Int):flat (i64s zs)=i64s zs:=by
 induction zs with
 |nil=>rfl
 |cons n l ih=>simp only[i64s,flat,List.map_cons,ya,AV.cells]at ih ⊢;rw[ih];rfl
theorem Y0e(zs:List Int):noOL (i64s zs):=O8.2 λa ha=>by
 obtain⟨n,_,rfl⟩:=yY ha
 trivial
def Z1V(P:Program)(f:FuncId)(zs zs':List Int)(ret:Bool):Prop :=
 (∀(w:World),Calls P f #[.slice none 0 0] w λe w'=>e=.returned (if ret then .slice none 0 0 else .tuple #[])/\w'=w) /\
 ∀(w:World) (b cap:Nat) (cur:Array Value) (ty:TypeId),w.heap[b]?=some (.cells cur ty (0,0))->zs.length<=cap->cap<=maxLen->cur.size=cap->cur.toList.take zs.length=i64v zs ->
  Calls P f #[.slice (some ⟨b,0,none⟩) zs.length cap] w λe w'=>e=.returned (if ret then .slice (some ⟨b,0,none⟩) zs'.length cap else .tuple #[]) /\
   ∃cur':Array Value,w'.heap[b]?=some (.cells cur' ty (0,0))/\cur'.size=cap/\cur'.toList.take zs'.length=i64v zs'/\zs'.length<=cap /\
    w'.os=w.os/\w'.tape=w.tape/\w'.output=w.output/\w.heap.size<=w'.heap.size/\∀k,k<w.heap.size->k≠b->w'.heap[k]?=w.heap[k]?
theorem W1C:Enc 1 (λn:Int=>AV.int .i64 n) (λn=>[Value.int .i64 n]):=by
 have key:∀(x:Int) (j:Nat) (a:AV) (u:Value),(AV.int .i64 x).cells[j]?=some a->[Value.int .i64 x][j]?=some u->a=.int .i64 x/\u=.int .i64 x:=by
  intro x j a u h1 h2
  match j with
  |0=>exact⟨(Option.some.inj h1).symm,(Option.some.inj h2).symm⟩
  |j+1=>simp at h2
 refine⟨λx=>rfl,λx=>rfl,λx a ha=>?_,λx v hv=>?_,λw S T x j a u h1 h2=>?_,λw S T x j a u v h1 h2 h=>?_⟩
 .rw[List.mem_singleton.1 ha];rfl
 .rw[List.mem_singleton.1 hv];rfl
 .obtain⟨rfl,rfl⟩:=key x j a u h1 h2
  exact .int _ _
 .obtain⟨rfl,rfl⟩:=key x j a u h1 h2
  cases h;rfl
theorem W0p(zs:List Int):zs.flatMap (λn=>[Value.int .i64 n])=i64v zs:=by
 induction zs with
 |nil=>rfl
 |cons n l ih=>rw[ya,ih];rfl
theorem Z0L{P:Program}{f:FuncId}{zs zs':List Int}{ret:Bool}(h0:zs=[]->zs'=[])(hr:ret=false->zs'.length=zs.length)(h:Z1V P f zs zs' ret):W0h P f 1 (i64s zs) [] ret (i64s zs'):=by
 refine Y1n W1C h0 hr λw g n0 us _ hl _=>?_
 match us,hl with
 |[],_ =>
 refine⟨λ_=>h.1 w,λb cap cur ty h1 h2 h3 h4 h5 _=>?_⟩
 have:=h.2 w b cap cur ty h1 h2 h3 (by omega) (by rw[← W0p,← h5,Nat.mul_one])
 simpa only[W0p,Nat.mul_one]using this
theorem L0u{w:World}{b cap:Nat}{cur:Array Value}{ty:TypeId}{zs:List Int}(h1:w.heap[b]?=some (.cells cur ty (0,0)))(h4:cur.size=cap)(h2:zs.length<=cap)(n:Nat)(os:Array Obj) :
  ∃cur':Array Value,(Go.Sort.grow (Go.Sort.putRow (Value.int .i64) (Go.Sort.ahead w n) b 0 zs.toArray) os).heap[b]?=some (.cells cur' ty (0,0))/\cur'.size=cap/\cur'.toList.take zs.length=i64v zs /\
   w.heap.size<=(Go.Sort.grow (Go.Sort.putRow (Value.int .i64) (Go.Sort.ahead w n) b 0 zs.toArray) os).heap.size/\∀k,k<w.heap.size->k≠b->(Go.Sort.grow (Go.Sort.putRow (Value.int .i64) (Go.Sort.ahead w n) b 0 zs.toArray) os).heap[k]?=w.heap[k]?:=by
 have hb:b<w.heap.size:=(Array.getElem?_eq_some_iff.1 h1).1
 have hg:∀k,k<w.heap.size->(Go.Sort.grow (Go.Sort.putRow (Value.int .i64) (Go.Sort.ahead w n) b 0 zs.toArray) os).heap[k]?=(w.heap.modify b (Go.Sort.onCells (Go.Sort.putCells (Value.int .i64) 0 zs.toArray)))[k]?:=by
  intro k hk
  simp only[Go.Sort.grow,Go.Sort.putRow,Go.Sort.mapBlock,Go.Sort.ahead]
  rw[Array.getElem?_append_left (by simpa using hk)]
 refine⟨Go.Sort.putCells (Value.int .i64) 0 zs.toArray cur,?_,?_,?_,?_,λk hk hne=>?_⟩
 .rw[hg b hb,Array.getElem?_modify];simp only[yb,h1];rfl
 .simp[Go.Sort.putCells,h4]
 .apply List.ext_getElem
  .simp[Go.Sort.putCells,i64v,h4];omega
  .intro j q1 q2
   have hj:j<zs.length:=by simp[i64v]at q2;exact q2
   simp[Go.Sort.putCells,i64v,hj]
 .simp[Go.Sort.grow,Go.Sort.putRow,Go.Sort.mapBlock,Go.Sort.ahead]
 .rw[hg k hk,Array.getElem?_modify,ye (λe=>hne e.symm)]
theorem M0Q{w:World}{b:Nat}{cur:Array Value}{ty:TypeId}{zs:List Int}(h1:w.heap[b]?=some (.cells cur ty (0,0)))(h5:cur.toList.take zs.length=i64v zs):Go.Sort.Holds (Value.int .i64) w b 0 zs.toArray:=by
 intro j hj
 have hj':j<zs.length:=by simpa using hj
 refine⟨?_,frozen_of_row w b (0+j) cur ty h1⟩
 have hc:cur[j]?=some (.int .i64 zs[j]):=by
  have:=congrArg (·[j]?) h5
  simp only[i64v,yF,List.getElem?_take,hj',yb,yA hj',Option.map_some]at this
  simpa using this
 simp only[World.cell?,h1,Option.isSome_none,yG,yc,Nat.zero_add]
 rw[hc]
 simp[hj']
end Go.Proofs.YtpgaganbacipnaaGreat.Eng
namespace Go.Proofs
open Go.Shelf
def Tryz.lays189_ren:Go.Shelf.Ren:=⟨fun|189=>128|125=>116|257=>202|128=>189|129=>190|294=>234|295=>235|296=>236|297=>237|298=>238|299=>239|216=>240|300=>241|301=>242|328=>256|329=>228|330=>229|331=>257|332=>258|215=>259|343=>273|n=>n,fun|28=>23|3=>3|46=>153|0=>0|51=>216|53=>218|4=>4|183=>210|182=>209|131=>182|5=>5|9=>9|218=>239|222=>243|228=>261|229=>262|n=>n,fun|n=>n⟩
theorem Tryz.lays189:Go.Proofs.Lays.n189 Tryz.prog Tryz.lays189_ren:={
 mixed:=by kernel_rfl
 f125:=Tryz.func116.trans (congrArg some (by kernel_rfl))
 f128:=Tryz.func189.trans (congrArg some (by kernel_rfl))
 f129:=Tryz.func190.trans (congrArg some (by kernel_rfl))
 f189:=Tryz.func128.trans (congrArg some (by kernel_rfl))
 f215:=Tryz.func259.trans (congrArg some (by kernel_rfl))
 f216:=Tryz.func240.trans (congrArg some (by kernel_rfl))
 f257:=Tryz.func202.trans (congrArg some (by kernel_rfl))
 f294:=Tryz.func234.trans (congrArg some (by kernel_rfl))
 f295:=Tryz.func235.trans (congrArg some (by kernel_rfl))
 f296:=Tryz.func236.trans (congrArg some (by kernel_rfl))
 f297:=Tryz.func237.trans (congrArg some (by kernel_rfl))
 f298:=Tryz.func238.trans (congrArg some (by kernel_rfl))
 f299:=Tryz.func239.trans (congrArg some (by kernel_rfl))
 f300:=Tryz.func241.trans (congrArg some (by kernel_rfl))
 f301:=Tryz.func242.trans (congrArg some (by kernel_rfl))
 f328:=Tryz.func256.trans (congrArg some (by kernel_rfl))
 f329:=Tryz.func228.trans (congrArg some (by kernel_rfl))
 f330:=Tryz.func229.trans (congrArg some (by kernel_rfl))
 f331:=Tryz.func257.trans (congrArg some (by kernel_rfl))
 f332:=Tryz.func258.trans (congrArg some (by kernel_rfl))
 f343:=Tryz.func273.trans (congrArg some (by kernel_rfl))
 t0:=Tryz.underlying0
 a0:=Tryz.isAgg0
 z0:=Tryz.sizeOf0
 v0:=Tryz.zeroValue0
 t3:=Tryz.underlying3
 a3:=Tryz.isAgg3
 z3:=Tryz.sizeOf3
 v3:=Tryz.zeroValue3
 t4:=Tryz.underlying4
 a4:=Tryz.isAgg4
 z4:=Tryz.sizeOf4
 v4:=Tryz.zeroValue4
 t5:=Tryz.underlying5
 a5:=Tryz.isAgg5
 z5:=Tryz.sizeOf5
 v5:=Tryz.zeroValue5
 t9:=Tryz.underlying9
 a9:=Tryz.isAgg9
 z9:=Tryz.sizeOf9
 v9:=Tryz.zeroValue9
 t28:=Tryz.underlying23
 a28:=Tryz.isAgg23
 z28:=Tryz.sizeOf23
 v28:=Tryz.zeroValue23
 t46:=Tryz.underlying153
 a46:=Tryz.isAgg153
 z46:=Tryz.sizeOf153
 v46:=Tryz.zeroValue153
 t51:=Tryz.underlying216
 a51:=Tryz.isAgg216
 z51:=Tryz.sizeOf216
 v51:=Tryz.zeroValue216
 t53:=Tryz.underlying218
 a53:=Tryz.isAgg218
 z53:=Tryz.sizeOf218
 v53:=Tryz.zeroValue218
 t131:=Tryz.underlying182
 a131:=Tryz.isAgg182
 z131:=Tryz.sizeOf182
 v131:=Tryz.zeroValue182
 t182:=Tryz.underlying209
 a182:=Tryz.isAgg209
 z182:=Tryz.sizeOf209
 v182:=Tryz.zeroValue209
 t183:=Tryz.underlying210
 a183:=Tryz.isAgg210
 z183:=Tryz.sizeOf210
 v183:=Tryz.zeroValue210
 t218:=Tryz.underlying239
 a218:=Tryz.isAgg239
 z218:=Tryz.sizeOf239
 v218:=Tryz.zeroValue239
 t222:=Tryz.underlying243
 a222:=Tryz.isAgg243
 z222:=Tryz.sizeOf243
 v222:=Tryz.zeroValue243
 t228:=Tryz.underlying261
 a228:=Tryz.isAgg261
 z228:=Tryz.sizeOf261
 v228:=Tryz.zeroValue261
 t229:=Tryz.underlying262
 a229:=Tryz.isAgg262
 z229:=Tryz.sizeOf262
 v229:=Tryz.zeroValue262 }
open Go.Sort Go.RowKit in
theorem Tryz.slices_Sort_int(blk off cap:Nat)(zs:List Int)(w:World)(hH:Holds (Value.int .i64) w blk off zs.toArray)(hblk:blk<w.heap.size)(hsz:zs.length<4611686018427387904) :
  Calls Tryz.prog 128 #[.slice (some ⟨blk,off,none⟩) zs.length cap] w λe w' =>
   e=.returned (.tuple #[])/\∃n os,w'=grow (putRow (Value.int .i64) (Sort.ahead w n) blk off (zs.mergeSort λx y=>decide (x<=y)).toArray) os:=Any.slices_Sort_int Tryz.lays189 blk off cap zs w hH hblk hsz
def Tryz.laysNm220_ren:Go.Shelf.Ren:=⟨fun|20=>129|n=>n,fun|22=>23|3=>3|4=>4|0=>0|n=>n,fun|n=>n⟩
theorem Tryz.laysNm220:Go.Proofs.Lays2.n20 Tryz.prog Tryz.laysNm220_ren:={
 mixed:=by kernel_rfl
 f20:=Tryz.func129.trans (congrArg some (by kernel_rfl))
 t0:=Tryz.underlying0
 a0:=Tryz.isAgg0
 z0:=Tryz.sizeOf0
 v0:=Tryz.zeroValue0
 t3:=Tryz.underlying3
 a3:=Tryz.isAgg3
 z3:=Tryz.sizeOf3
 v3:=Tryz.zeroValue3
 t4:=Tryz.underlying4
 a4:=Tryz.isAgg4
 z4:=Tryz.sizeOf4
 v4:=Tryz.zeroValue4
 t22:=Tryz.underlying23
 a22:=Tryz.isAgg23
 z22:=Tryz.sizeOf23
 v22:=Tryz.zeroValue23
 i3:=by kernel_rfl }
open Go.RowKit Go.Lib Go.Sort in
theorem Tryz.slices_Compact_int(blk off cap:Nat)(zs:List Int)(w:World)(hH:Holds (Value.int .i64) w blk off zs.toArray)(hsz:zs.length<=9223372036854775807)(hcap:zs.length<=cap) :
  Calls Tryz.prog 129 #[.slice (some ⟨blk,off,none⟩) zs.length cap] w λe w'=>e=.returned (.slice (some ⟨blk,off,none⟩) (Lib.compact zs).length cap)/\∃q,w'=putRow (Value.int .i64) (Sort.ahead w q) blk off (Lib.compact zs++List.replicate (zs.length-(Lib.compact zs).length) 0).toArray:=Any.slices_Compact_int Tryz.laysNm220 blk off cap zs w hH hsz hcap
open Go.RowKit Go.Lib Go.Sort in
theorem Tryz.slices_Compact_int_empty(a:Option Addr)(cap:Nat)(w:World) :
  Calls Tryz.prog 129 #[.slice a 0 cap] w λe w'=>e=.returned (.slice a 0 cap)/\w'=w:=Any.slices_Compact_int_empty Tryz.laysNm220 a cap w
open Go.RowKit Go.Sort in
theorem Tryz.slices_Sort_int_none(p:Option Addr)(cap:Nat)(w:World) :
  Calls Tryz.prog 128 #[.slice p 0 cap] w λe w'=>e=.returned (.tuple #[])/\w'=w:=Any.slices_Sort_int_none Tryz.lays189 p cap w
def Tryz.laysSlF6_f206_ren:Go.Shelf.Ren:=⟨fun|6=>206|15=>116|14=>243|28=>189|29=>190|20=>260|21=>261|22=>262|23=>263|24=>264|25=>265|26=>266|27=>267|46=>274|47=>228|48=>229|49=>275|50=>276|57=>285|n=>n,fun|22=>23|24=>3|25=>233|3=>3|39=>153|0=>0|53=>216|55=>218|4=>4|46=>210|45=>209|50=>182|5=>5|9=>9|66=>239|70=>243|76=>261|77=>262|n=>n,fun|n=>n⟩
def Tryz.sortFI_ren:Go.Shelf.Ren:=⟨fun|6=>206|15=>116|14=>243|28=>189|29=>190|20=>260|21=>261|22=>262|23=>263|24=>264|25=>265|26=>266|27=>267|46=>274|47=>228|48=>229|49=>275|50=>276|57=>285|n=>n,fun|22=>23|24=>3|25=>233|3=>3|39=>153|0=>0|53=>216|55=>218|4=>4|46=>210|45=>209|50=>182|5=>5|9=>9|66=>239|70=>243|76=>261|77=>262|n=>n,fun|n=>n⟩
theorem Tryz.sortFI:Go.Proofs.SlLaysF.n6 Tryz.prog Tryz.sortFI_ren:={
 mixed:=by kernel_rfl
 f6:=⟨Tryz.f206.name,by decide,Tryz.func206.trans (congrArg some (by kernel_rfl))⟩
 f14:=⟨Tryz.f243.name,by decide,Tryz.func243.trans (congrArg some (by kernel_rfl))⟩
 f15:=Tryz.func116.trans (congrArg some (by kernel_rfl))
 f20:=⟨Tryz.f260.name,by decide,Tryz.func260.trans (congrArg some (by kernel_rfl))⟩
 f21:=⟨Tryz.f261.name,by decide,Tryz.func261.trans (congrArg some (by kernel_rfl))⟩
 f22:=⟨Tryz.f262.name,by decide,Tryz.func262.trans (congrArg some (by kernel_rfl))⟩
 f23:=⟨Tryz.f263.name,by decide,Tryz.func263.trans (congrArg some (by kernel_rfl))⟩
 f24:=⟨Tryz.f264.name,by decide,Tryz.func264.trans (congrArg some (by kernel_rfl))⟩
 f25:=⟨Tryz.f265.name,by decide,Tryz.func265.trans (congrArg some (by kernel_rfl))⟩
 f26:=⟨Tryz.f266.name,by decide,Tryz.func266.trans (congrArg some (by kernel_rfl))⟩
 f27:=⟨Tryz.f267.name,by decide,Tryz.func267.trans (congrArg some (by kernel_rfl))⟩
 f28:=Tryz.func189.trans (congrArg some (by kernel_rfl))
 f29:=Tryz.func190.trans (congrArg some (by kernel_rfl))
 f46:=⟨Tryz.f274.name,by decide,Tryz.func274.trans (congrArg some (by kernel_rfl))⟩
 f47:=Tryz.func228.trans (congrArg some (by kernel_rfl))
 f48:=Tryz.func229.trans (congrArg some (by kernel_rfl))
 f49:=⟨Tryz.f275.name,by decide,Tryz.func275.trans (congrArg some (by kernel_rfl))⟩
 f50:=⟨Tryz.f276.name,by decide,Tryz.func276.trans (congrArg some (by kernel_rfl))⟩
 f57:=⟨Tryz.f285.name,by decide,Tryz.func285.trans (congrArg some (by kernel_rfl))⟩
 t0:=Tryz.underlying0
 a0:=Tryz.isAgg0
 z0:=Tryz.sizeOf0
 v0:=Tryz.zeroValue0
 t3:=Tryz.underlying3
 a3:=Tryz.isAgg3
 z3:=Tryz.sizeOf3
 v3:=Tryz.zeroValue3
 t4:=Tryz.underlying4
 a4:=Tryz.isAgg4
 z4:=Tryz.sizeOf4
 v4:=Tryz.zeroValue4
 t5:=Tryz.underlying5
 a5:=Tryz.isAgg5
 z5:=Tryz.sizeOf5
 v5:=Tryz.zeroValue5
 t9:=Tryz.underlying9
 a9:=Tryz.isAgg9
 z9:=Tryz.sizeOf9
 v9:=Tryz.zeroValue9
 t22:=Tryz.underlying23
 a22:=Tryz.isAgg23
 z22:=Tryz.sizeOf23
 v22:=Tryz.zeroValue23
 a24:=Tryz.isAgg3
 z24:=Tryz.sizeOf3
 t25:=Tryz.underlying233
 a25:=Tryz.isAgg233
 z25:=Tryz.sizeOf233
 v25:=Tryz.zeroValue233
 t39:=Tryz.underlying153
 a39:=Tryz.isAgg153
 z39:=Tryz.sizeOf153
 v39:=Tryz.zeroValue153
 t45:=Tryz.underlying209
 a45:=Tryz.isAgg209
 z45:=Tryz.sizeOf209
 v45:=Tryz.zeroValue209
 t46:=Tryz.underlying210
 a46:=Tryz.isAgg210
 z46:=Tryz.sizeOf210
 v46:=Tryz.zeroValue210
 t50:=Tryz.underlying182
 a50:=Tryz.isAgg182
 z50:=Tryz.sizeOf182
 v50:=Tryz.zeroValue182
 t53:=Tryz.underlying216
 a53:=Tryz.isAgg216
 z53:=Tryz.sizeOf216
 v53:=Tryz.zeroValue216
 t55:=Tryz.underlying218
 a55:=Tryz.isAgg218
 z55:=Tryz.sizeOf218
 v55:=Tryz.zeroValue218
 t66:=Tryz.underlying239
 a66:=Tryz.isAgg239
 z66:=Tryz.sizeOf239
 v66:=Tryz.zeroValue239
 t70:=Tryz.underlying243
 a70:=Tryz.isAgg243
 z70:=Tryz.sizeOf243
 v70:=Tryz.zeroValue243
 t76:=Tryz.underlying261
 a76:=Tryz.isAgg261
 z76:=Tryz.sizeOf261
 v76:=Tryz.zeroValue261
 t77:=Tryz.underlying262
 a77:=Tryz.isAgg262
 z77:=Tryz.sizeOf262
 v77:=Tryz.zeroValue262 }
def Tryz.sortFR_ren:Go.Shelf.Ren:=⟨fun|6=>51|15=>116|14=>115|28=>189|29=>190|20=>181|21=>182|22=>183|23=>184|24=>185|25=>186|26=>187|27=>188|46=>227|47=>228|48=>229|49=>230|50=>231|57=>255|n=>n,fun|22=>31|24=>44|25=>96|3=>3|39=>153|0=>0|53=>216|55=>218|4=>4|46=>210|45=>209|50=>182|5=>5|9=>9|66=>239|70=>243|76=>261|77=>262|n=>n,fun|n=>n⟩
theorem Tryz.sortFR:Go.Proofs.SlLaysF0.n6 Tryz.prog Tryz.sortFR_ren:={
 mixed:=by kernel_rfl
 f6:=⟨Tryz.f51.name,by decide,Tryz.func51.trans (congrArg some (by kernel_rfl))⟩
 f14:=⟨Tryz.f115.name,by decide,Tryz.func115.trans (congrArg some (by kernel_rfl))⟩
 f15:=Tryz.func116.trans (congrArg some (by kernel_rfl))
 f20:=⟨Tryz.f181.name,by decide,Tryz.func181.trans (congrArg some (by kernel_rfl))⟩
 f21:=⟨Tryz.f182.name,by decide,Tryz.func182.trans (congrArg some (by kernel_rfl))⟩
 f22:=⟨Tryz.f183.name,by decide,Tryz.func183.trans (congrArg some (by kernel_rfl))⟩
 f23:=⟨Tryz.f184.name,by decide,Tryz.func184.trans (congrArg some (by kernel_rfl))⟩
 f24:=⟨Tryz.f185.name,by decide,Tryz.func185.trans (congrArg some (by kernel_rfl))⟩
 f25:=⟨Tryz.f186.name,by decide,Tryz.func186.trans (congrArg some (by kernel_rfl))⟩
 f26:=⟨Tryz.f187.name,by decide,Tryz.func187.trans (congrArg some (by kernel_rfl))⟩
 f27:=⟨Tryz.f188.name,by decide,Tryz.func188.trans (congrArg some (by kernel_rfl))⟩
 f28:=Tryz.func189.trans (congrArg some (by kernel_rfl))
 f29:=Tryz.func190.trans (congrArg some (by kernel_rfl))
 f46:=⟨Tryz.f227.name,by decide,Tryz.func227.trans (congrArg some (by kernel_rfl))⟩
 f47:=Tryz.func228.trans (congrArg some (by kernel_rfl))
 f48:=Tryz.func229.trans (congrArg some (by kernel_rfl))
 f49:=⟨Tryz.f230.name,by decide,Tryz.func230.trans (congrArg some (by kernel_rfl))⟩
 f50:=⟨Tryz.f231.name,by decide,Tryz.func231.trans (congrArg some (by kernel_rfl))⟩
 f57:=⟨Tryz.f255.name,by decide,Tryz.func255.trans (congrArg some (by kernel_rfl))⟩
 t0:=Tryz.underlying0
 a0:=Tryz.isAgg0
 z0:=Tryz.sizeOf0
 v0:=Tryz.zeroValue0
 t3:=Tryz.underlying3
 a3:=Tryz.isAgg3
 z3:=Tryz.sizeOf3
 v3:=Tryz.zeroValue3
 t4:=Tryz.underlying4
 a4:=Tryz.isAgg4
 z4:=Tryz.sizeOf4
 v4:=Tryz.zeroValue4
 t5:=Tryz.underlying5
 a5:=Tryz.isAgg5
 z5:=Tryz.sizeOf5
 v5:=Tryz.zeroValue5
 t9:=Tryz.underlying9
 a9:=Tryz.isAgg9
 z9:=Tryz.sizeOf9
 v9:=Tryz.zeroValue9
 t22:=Tryz.underlying31
 a22:=Tryz.isAgg31
 z22:=Tryz.sizeOf31
 v22:=Tryz.zeroValue31
 t25:=Tryz.underlying96
 a25:=Tryz.isAgg96
 z25:=Tryz.sizeOf96
 v25:=Tryz.zeroValue96
 t39:=Tryz.underlying153
 a39:=Tryz.isAgg153
 z39:=Tryz.sizeOf153
 v39:=Tryz.zeroValue153
 t45:=Tryz.underlying209
 a45:=Tryz.isAgg209
 z45:=Tryz.sizeOf209
 v45:=Tryz.zeroValue209
 t46:=Tryz.underlying210
 a46:=Tryz.isAgg210
 z46:=Tryz.sizeOf210
 v46:=Tryz.zeroValue210
 t50:=Tryz.underlying182
 a50:=Tryz.isAgg182
 z50:=Tryz.sizeOf182
 v50:=Tryz.zeroValue182
 t53:=Tryz.underlying216
 a53:=Tryz.isAgg216
 z53:=Tryz.sizeOf216
 v53:=Tryz.zeroValue216
 t55:=Tryz.underlying218
 a55:=Tryz.isAgg218
 z55:=Tryz.sizeOf218
 v55:=Tryz.zeroValue218
 t66:=Tryz.underlying239
 a66:=Tryz.isAgg239
 z66:=Tryz.sizeOf239
 v66:=Tryz.zeroValue239
 t70:=Tryz.underlying243
 a70:=Tryz.isAgg243
 z70:=Tryz.sizeOf243
 v70:=Tryz.zeroValue243
 t76:=Tryz.underlying261
 a76:=Tryz.isAgg261
 z76:=Tryz.sizeOf261
 v76:=Tryz.zeroValue261
 t77:=Tryz.underlying262
 a77:=Tryz.isAgg262
 z77:=Tryz.sizeOf262
 v77:=Tryz.zeroValue262 }
end Go.Proofs
namespace Go.Proofs.YtpgaganbacipnaaGreat
open Go Go.RowKit Eng
section
def X0u(zs:List Int):List Int:=zs.mergeSort λx y=>decide (x<=y)
def L13(zs:List Int):Option (List Int):=if zs.length<4611686018427387904 then some (X0u zs)else none
def O6(zs:List Int):List Int:=Lib.compact zs
theorem U1g:O6 []=[]:=by simp[O6,Lib.compact,Lib.compactUpTo]
theorem Q1g(zs:List Int):(O6 zs).length<=zs.length:=by
 simp only[O6,Lib.compact,Lib.compactUpTo,List.length_map]
 exact Nat.le_trans (List.length_filter_le ..) (by simp)
theorem Q0K(zs:List Int):(X0u zs).length=zs.length:=by simp[X0u]
theorem M13{zs r:List Int}(h:L13 zs=some r):W0h Tryz.prog Jg 1 (zs.map eI) [] false (r.map eI):=by
 unfold L13 at h
 split at h
 .rename_i hl
  cases h
  refine Z0L (zs:=zs) (zs':=X0u zs) (λe=>by subst e;simp[X0u]) (λ_=>Q0K zs) ⟨λw=>?_,λw b cap cur ty h1 h2 h3 h4 h5=>?_⟩
  .exact(Tryz.slices_Sort_int_none none 0 w).mono λe w' h=>⟨by simp[h.1],h.2⟩
  .refine(Tryz.slices_Sort_int b 0 cap zs w (M0Q h1 h5) (Array.getElem?_eq_some_iff.1 h1).1 hl).mono λe w' h=>?_
   obtain⟨he,n,os,hw⟩:=h
   rw[hw]
   obtain⟨cur',q1,q2,q3,q4,q5⟩:=L0u (zs:=X0u zs) h1 h4 (by rw[Q0K];exact h2) n os
   exact⟨by simp[he],cur',q1,q2,q3,by rw[Q0K];exact h2,rfl,rfl,rfl,q4,q5⟩
 .cases h
theorem O0R(zs:List Int):W0h Tryz.prog Uj 1 (zs.map eI) [] true ((O6 zs).map eI):=by
 refine Z0L (zs:=zs) (zs':=O6 zs) (λe=>by subst e;exact U1g) (λh=>by cases h) ⟨λw=>?_,λw b cap cur ty h1 h2 h3 h4 h5=>?_⟩
 .exact(Tryz.slices_Compact_int_empty none 0 w).mono λe w' h=>⟨by simp[h.1],h.2⟩
 .refine(Tryz.slices_Compact_int b 0 cap zs w (M0Q h1 h5) (by simp only[maxLen]at h3;omega) h2).mono λe w' h=>?_
  obtain⟨he,q,hw⟩:=h
  rw[hw]
  have hcl:=Q1g zs
  have e0:(Lib.compact zs++List.replicate (zs.length-(Lib.compact zs).length) 0).length=zs.length:=by
   rw[yU,List.length_replicate];unfold O6 at hcl;omega
  obtain⟨cur',q1,q2,q3,q4,q5⟩:=L0u (zs:=Lib.compact zs++List.replicate (zs.length-(Lib.compact zs).length) 0) h1 h4 (by rw[e0];exact h2) q #[]
  rw[Go.Sort.grow_empty]at q1 q4 q5
  refine⟨by simp[he,O6],cur',q1,q2,?_,by omega,rfl,rfl,rfl,q4,q5⟩
  have:=congrArg (·.take (O6 zs).length) q3
  simp only[List.take_take,i64v,← List.map_take]at this
  rw[e0,Nat.min_eq_left hcl]at this
  rw[this,i64v]
  congr 1
  exact List.take_left
section
variable{α β γ σ:Type}
theorem Q5{n:Int}(h:-9223372036854775808<=n/\n<=9223372036854775807):w64 n=n:=W1h h.1 h.2
theorem X06{n:Nat}(h:n<9223372036854775807):w64 ((n:Int)+1)=((n+1:Nat):Int):=by rw[Q5 (by omega)];omega
theorem V0I{n:Nat}(h0:0<n)(h:n<=9223372036854775807):w64 ((n:Int)-1)=((n-1:Nat):Int):=by rw[Q5 (by omega)];omega
theorem Y7{l:List α}{i:Nat}:idx l (i:Int)=l[i]?:=by simp[idx]
theorem Mb{l:List α}{i:Int}(h0:0<=i)(h:i<l.length):∃x,idx l i=some x/\l[i.toNat]?=some x:=by
 have:i.toNat<l.length:=by omega
 exact⟨l[i.toNat],by simp[idx,h0,this],by simp[this]⟩
theorem O0{bs:Nat}{l m:List α}(h:(l.length+m.length)*bs<=140737488355328):appL bs l m=some (l++m):=by simp[appL,h]
theorem Vj{p:Prop}(h:¬ p):(false=true↔p):=by simp[h]
@[simp] theorem J25 {c:Bool}{a b:Option α}{f:α->Option β}:(bif c then a else b).bind f=bif c then a.bind f else b.bind f:=by cases c<;>rfl
theorem V0L{α2 β2:Type}{bd:α->Nat->β->(β->Option γ)->Option γ}{kk:β->Option γ}{bd2:α2->Nat->β2->(β2->Option γ)->Option γ}{kk2:β2->Option γ}
  (R:Nat->β->β2->Prop) {l0:List α} {m0:List α2} (hl:l0.length=m0.length)
  (h:∀i x y b c (k:β->Option γ) (k2:β2->Option γ),l0[i]?=some x->m0[i]?=some y->R i b c->(∀b' c',R (i+1) b' c'->k b'=k2 c')->bd x i b k=bd2 y i c k2)
  (hk:∀b c,R l0.length b c->kk b=kk2 c) {b:β} {c:β2} (h0:R 0 b c):rgl bd kk l0 0 b=rgl bd2 kk2 m0 0 c:=by
 have key:∀(n i:Nat) (b:β) (c:β2),l0.length-i=n->i<=l0.length->R i b c->rgl bd kk (l0.drop i) i b=rgl bd2 kk2 (m0.drop i) i c:=by
  intro n
  induction n with
  |zero =>
   intro i b c hn hi hr
   have:i=l0.length:=by omega
   subst this
   rw[List.drop_length,hl,List.drop_length]
   exact hk b c (by simpa using hr)
  |succ n ih =>
   intro i b c hn hi hr
   have h1:i<l0.length:=by omega
   have h2:i<m0.length:=by omega
   rw[List.drop_eq_getElem_cons h1,List.drop_eq_getElem_cons h2,rgl,rgl]
   exact h i _ _ b c _ _ (yA h1) (yA h2) hr λb' c' hr'=>ih (i+1) b' c' (by omega) (by omega) hr'
 have:=key l0.length 0 b c (by simp) (Nat.zero_le _) h0
 simpa using this
theorem Q0n{bd bd2:α->Nat->β->(β->Option γ)->Option γ}{kk kk2:β->Option γ}{l:List α}{b:β}
  (h:∀i x b (k:β->Option γ),l[i]?=some x->bd x i b k=bd2 x i b k) (hk:∀b,kk b=kk2 b):rgl bd kk l 0 b=rgl bd2 kk2 l 0 b :=
 V0L (λ_ b c=>b=c) rfl (λi x y b c k k2 hx hy hr hkk=>by
  subst hr;rw[hx]at hy;cases hy
  rw[h i x b k hx]
  congr 1
  funext b'
  exact hkk b' b' rfl) (λb c hr=>by subst hr;exact hk b) rfl
theorem X7{bd:α->Nat->β->(β->Option γ)->Option γ}{kk:β->Option γ}(I:Nat->β->Prop)(Q:Option γ->Prop){l0:List α}
  (h:∀i x b (k:β->Option γ),l0[i]?=some x->I i b->(∀b',I (i+1) b'->Q (k b'))->Q (bd x i b k)) (hk:∀b,I l0.length b->Q (kk b)) {b:β} (h0:I 0 b):Q (rgl bd kk l0 0 b):=by
 have key:∀(n i:Nat) (b:β),l0.length-i=n->i<=l0.length->I i b->Q (rgl bd kk (l0.drop i) i b):=by
  intro n
  induction n with
  |zero =>
   intro i b hn hi hr
   have:i=l0.length:=by omega
   subst this
   rw[List.drop_length]
   exact hk b hr
  |succ n ih =>
   intro i b hn hi hr
   have h1:i<l0.length:=by omega
   rw[List.drop_eq_getElem_cons h1,rgl]
   exact h i _ b _ (yA h1) hr λb' hr'=>ih (i+1) b' (by omega) (by omega) hr'
 have:=key l0.length 0 b (by simp) (Nat.zero_le _) h0
 simpa using this
theorem LI{bd:α->Nat->β->(β->Option γ)->Option γ}{kk:β->Option γ}{f:β->α->β}:∀{l:List α} {i:Nat} {b:β},(∀x∈l,∀i b k,bd x i b k=k (f b x))->rgl bd kk l i b=kk (l.foldl f b)
 |[],_,_,_=>rfl
 |x::l,i,b,h=>by
  rw[rgl,h x (yJ ..),List.foldl_cons]
  exact LI λy hy=>h y (yH _ hy)
theorem Mn{bd:α->Nat->Unit->(Unit->Option γ)->Option γ}{kk:Unit->Option γ}{p:α->Bool}{r:Option γ}:∀{l:List α} {i:Nat},(∀x∈l,∀i k,bd x i () k=bif p x then r else k ())->rgl bd kk l i ()=bif l.any p then r else kk ()
 |[],_,_=>rfl
 |x::l,i,h=>by
  rw[rgl,h x (yJ ..),Mn λy hy=>h y (yH _ hy),List.any_cons]
  cases p x<;>rfl
theorem Y1y{α2:Type}{bd:α->Nat->β->(β->Option γ)->Option γ}{kk:β->Option γ}{f:α2->α}:∀{l:List α2} {i:Nat} {b:β},rgl bd kk (l.map f) i b=rgl (λx=>bd (f x)) kk l i b
 |[],_,_=>rfl
 |x::l,i,b=>by
  rw[List.map_cons,rgl,rgl]
  congr 1
  funext b'
  exact Y1y
theorem O0z(p:α->Bool)(f:α->β):∀(l:List α) (acc:List β),l.foldl (λb x=>bif p x then b++[f x]else b) acc=acc++(l.filter p).map f
 |[],acc=>by simp
 |x::l,acc=>by
  rw[List.foldl_cons,O0z p f l]
  cases h:p x<;>simp[h]
theorem V6{bs:Nat}{bd:α->Nat->List β->(List β->Option γ)->Option γ}{kk:List β->Option γ}{p:α->Bool}{f:α->β}:∀{l:List α} {i:Nat} {acc:List β},
  (∀x∈l,∀i b k,bd x i b k=bif p x then(appL bs b [f x]).bind k else k b)->(acc.length+l.length)*bs<=140737488355328->rgl bd kk l i acc=kk (acc++(l.filter p).map f)
 |[],_,acc,_,_=>by simp[rgl]
 |x::l,i,acc,h,hb=>by
  rw[rgl,h x (yJ ..)]
  have hb1:(acc.length+1+l.length)*bs<=140737488355328:=by simpa[Nat.add_assoc,Nat.add_comm 1]using hb
  cases hp:p x with
  |true =>
   have:(acc.length+1)*bs<=(acc.length+1+l.length)*bs:=Nat.mul_le_mul_right _ (by omega)
   rw[yN,O0 (by simp;omega),bS,V6 (λy hy=>h y (yH _ hy)) (by simpa using hb1)]
   simp[hp]
  |false =>
   have:(acc.length+l.length)*bs<=(acc.length+1+l.length)*bs:=Nat.mul_le_mul_right _ (by omega)
   rw[yM,V6 (λy hy=>h y (yH _ hy)) (by omega)]
   simp[hp]
theorem Q0j{bd:β->(β->Option γ)->Option γ}(mk:Nat->σ->β){B:Nat->Nat->σ->(σ->Option γ)->Option γ}{kk:σ->Option γ}{n:Nat}
  (h1:∀i st k,i<n->bd (mk i st) k=B i i st λst'=>k (mk (i+1) st')) (h2:∀i st k,n<=i->bd (mk i st) k=kk st):∀(fuel i:Nat) (st:σ),n-i<fuel->whl bd fuel (mk i st)=rgl B kk (List.range' i (n-i)) i st
 |0,i,st,h=>by omega
 |fuel+1,i,st,h=>by
  rw[whl]
  by_cases hi:i<n
  .rw[h1 i st _ hi,show n-i=n-(i+1)+1 by omega,List.range'_succ,rgl]
   congr 1
   funext st'
   exact Q0j mk h1 h2 fuel (i+1) st' (by omega)
  .rw[h2 i st _ (by omega),show n-i=0 by omega]
   rfl
theorem QO{bd:β->(β->Option γ)->Option γ}(Q:β->Option γ->Prop)(m:β->Nat)(I:β->Prop)(h:∀b (k:β->Option γ),I b->(∀b',I b'->m b'<m b->Q b' (k b'))->Q b (bd b k)):∀(fuel:Nat) (b:β),I b->m b<fuel->Q b (whl bd fuel b)
 |0,_,_,h=>by omega
 |fuel+1,b,hI,hm=>by
  rw[whl]
  exact h b _ hI λb' hI' hlt=>QO Q m I h fuel b' hI' (by omega)
end
end
noncomputable def U0U:L :=
 lf Tryz.prog Q02 [] [] [] [] [] [] []
def OM(n1:Int):Option Bool :=
 some (decide (0<=n1)&&decide (n1<=1000000))
theorem M0B{n1:Int}{r:Bool}(H:OM n1=some r):Snd Tryz.prog Q02 [iV n1] (.bool r) []:=by
 refine wS U0U [.t 2] ?_
 unfold OM at H
 obtain rfl:=sI H
 exact wP (wE [(2,.d)])
def Z9(n1:Int):Bool :=
 (decide (0<=n1)&&decide (n1<=1000000))
theorem L12(n1:Int):OM n1=some (Z9 n1):=by
 unfold OM Z9
 first|rfl|simp only[O5]
theorem XV(n1:Int):Snd Tryz.prog Q02 [iV n1] (.bool (Z9 n1)) []:=M0B (L12 n1)
noncomputable def X0O:L :=
 lf Tryz.prog YX [] [] [] [] [] [] []
def UG(n1:Int):Option Bool :=
 some (decide (0<=n1)&&decide (n1<=1000000000))
theorem L0t{n1:Int}{r:Bool}(H:UG n1=some r):Snd Tryz.prog YX [iV n1] (.bool r) []:=by
 refine wS X0O [.t 2] ?_
 unfold UG at H
 obtain rfl:=sI H
 exact wP (wE [(2,.d)])
def M3(n1:Int):Bool :=
 (decide (0<=n1)&&decide (n1<=1000000000))
theorem W0S(n1:Int):UG n1=some (M3 n1):=by
 unfold UG M3
 first|rfl|simp only[O5]
theorem W7(n1:Int):Snd Tryz.prog YX [iV n1] (.bool (M3 n1)) []:=L0t (W0S n1)
noncomputable def L16:L :=
 lf Tryz.prog V0b [] [] [] [] [] [] []
def VT(v1:Vec):Option Bool :=
 some (((Z9 v1.a)&&(Z9 v1.b))&&(Z9 v1.c))
theorem V0K{v1:Vec}{r:Bool}(H:VT v1=some r):Snd Tryz.prog V0b [eVec v1] (.bool r) []:=by
 refine wS L16 [.t 2] ?_
 unfold VT at H
 refine wH [.c 5 (XV v1.a),.g 9 [((Z9 v1.a),true)] (.call _ _ _ _ _ (AEs.refl _) (λ_=>XV v1.b)),.g 14 [(((Z9 v1.a)&&(Z9 v1.b)),true)] (.call _ _ _ _ _ (AEs.refl _) (λ_=>XV v1.c))] ?_
 replace H:=sI H;subst H
 exact wE [(2,.d)]
def Q0(v1:Vec):Bool :=
 (((Z9 v1.a)&&(Z9 v1.b))&&(Z9 v1.c))
theorem W1b(v1:Vec):VT v1=some (Q0 v1):=by
 unfold VT Q0
 first|rfl|simp only[O5]
theorem Y5(v1:Vec):Snd Tryz.prog V0b [eVec v1] (.bool (Q0 v1)) []:=V0K (W1b v1)
noncomputable def U0O:L :=
 lf Tryz.prog XX [] [] [] [] [] [] []
def QG(a1 b2:Vec):Option Bool :=
 some (((((Q0 a1)&&(Q0 b2))&&decide (a1.a<=b2.a))&&decide (a1.b<=b2.b))&&decide (a1.c<=b2.c))
theorem J0t{a1 b2:Vec}{r:Bool}(H:QG a1 b2=some r):Snd Tryz.prog XX [eVec a1,eVec b2] (.bool r) []:=by
 refine wS U0O [.t 4] ?_
 unfold QG at H
 refine wH [.c 6 (Y5 a1),.g 9 [((Q0 a1),true)] (.call _ _ _ _ _ (AEs.refl _) (λ_=>Y5 b2))] ?_
 replace H:=sI H;subst H
 exact wE [(4,.d)]
def J0(a1 b2:Vec):Bool :=
 (((((Q0 a1)&&(Q0 b2))&&decide (a1.a<=b2.a))&&decide (a1.b<=b2.b))&&decide (a1.c<=b2.c))
theorem J0S(a1 b2:Vec):QG a1 b2=some (J0 a1 b2):=by
 unfold QG J0
 first|rfl|simp only[O5]
theorem YP(a1 b2:Vec):Snd Tryz.prog XX [eVec a1,eVec b2] (.bool (J0 a1 b2)) []:=J0t (J0S a1 b2)
noncomputable def L0U:L :=
 lf Tryz.prog Z03 [] [] [] [] [] [] []
def YN(a1 b2:Vec):Option (Vec×Bool) :=
 bif (!(Q0 a1))||(!(Q0 b2))then(some ((Vec.mk 0 0 0),false))else(bif !(Q0 (Vec.mk (w64 (a1.a+b2.a)) (w64 (a1.b+b2.b)) (w64 (a1.c+b2.c))))then(some ((Vec.mk 0 0 0),false))else(some ((Vec.mk (w64 (a1.a+b2.a)) (w64 (a1.b+b2.b)) (w64 (a1.c+b2.c))),true)))
theorem V0C{a1 b2:Vec}{r:Vec×Bool}(H:YN a1 b2=some r):Snd Tryz.prog Z03 [eVec a1,eVec b2] (.tup [eVec r.1,.bool r.2]) []:=by
 refine wS L0U [.c 4 3 true,.t 5] ?_
 unfold YN at H
 refine wH [.c 8 (Y5 a1),.g 12 [((!(Q0 a1)),false)] (.call _ _ _ _ _ (AEs.refl _) (λ_=>Y5 b2))] ?_
 refine M0 H ?_ ?_<;>intro H
 .refine wP ?_
  replace H:=sI H;subst H
  exact wN [(4,.d),(5,.d)] [(4,[])] [] [] [] []
 .refine wH [.u 33 (.call _ _ _ _ _ (AEs.refl _) (λ_=>Y5 (Vec.mk (w64 (a1.a+b2.a)) (w64 (a1.b+b2.b)) (w64 (a1.c+b2.c)))))] ?_
  refine M0 H ?_ ?_<;>intro H
  .refine wP ?_
   replace H:=sI H;subst H
   exact wN [(4,.d),(5,.d)] [(4,[])] [] [] [] []
  .refine wP ?_
   replace H:=sI H;subst H
   exact wN [(4,.d),(5,.d)] [(4,[])] [] [] [] []
def WD(a1 b2:Vec):Vec×Bool :=
 bif (!(Q0 a1))||(!(Q0 b2))then(((Vec.mk 0 0 0),false))else(bif !(Q0 (Vec.mk (w64 (a1.a+b2.a)) (w64 (a1.b+b2.b)) (w64 (a1.c+b2.c))))then(((Vec.mk 0 0 0),false))else(((Vec.mk (w64 (a1.a+b2.a)) (w64 (a1.b+b2.b)) (w64 (a1.c+b2.c))),true)))
theorem U13(a1 b2:Vec):YN a1 b2=some (WD a1 b2):=by
 unfold YN WD
 first|rfl|simp only[O5]
theorem Z0T(a1 b2:Vec):Snd Tryz.prog Z03 [eVec a1,eVec b2] (.tup [eVec ((WD a1 b2).1),.bool ((WD a1 b2).2)]) []:=V0C (U13 a1 b2)
noncomputable def O0U:L :=
 lf Tryz.prog L02 [] [] [] [] [] [] []
def JM(a1 b2:Vec):Option (Vec×Bool) :=
 bif !(J0 b2 a1)then(some ((Vec.mk 0 0 0),false))else(some ((Vec.mk (w64 (a1.a-b2.a)) (w64 (a1.b-b2.b)) (w64 (a1.c-b2.c))),true))
theorem Z0C{a1 b2:Vec}{r:Vec×Bool}(H:JM a1 b2=some r):Snd Tryz.prog L02 [eVec a1,eVec b2] (.tup [eVec r.1,.bool r.2]) []:=by
 refine wS O0U [.c 4 3 true,.t 5] ?_
 unfold JM at H
 refine wH [.c 8 (YP b2 a1)] ?_
 refine M0 H ?_ ?_<;>intro H
 .refine wP ?_
  replace H:=sI H;subst H
  exact wN [(4,.d),(5,.d)] [(4,[])] [] [] [] []
 .refine wP ?_
  replace H:=sI H;subst H
  exact wN [(4,.d),(5,.d)] [(4,[])] [] [] [] []
def M2(a1 b2:Vec):Vec×Bool :=
 bif !(J0 b2 a1)then(((Vec.mk 0 0 0),false))else(((Vec.mk (w64 (a1.a-b2.a)) (w64 (a1.b-b2.b)) (w64 (a1.c-b2.c))),true))
theorem X13(a1 b2:Vec):JM a1 b2=some (M2 a1 b2):=by
 unfold JM M2
 first|rfl|simp only[O5]
theorem M0S(a1 b2:Vec):Snd Tryz.prog L02 [eVec a1,eVec b2] (.tup [eVec ((M2 a1 b2).1),.bool ((M2 a1 b2).2)]) []:=Z0C (X13 a1 b2)
noncomputable def Q0U:L :=
 lf Tryz.prog O02 [] [] [] [] [] [] []
def MM(a1 b2:Int):Option Int :=
 bif decide (a1<b2)then(some a1)else(some b2)
theorem L0B{a1 b2 r:Int}(H:MM a1 b2=some r):Snd Tryz.prog O02 [iV a1,iV b2] (iV r) []:=by
 refine wS Q0U [.t 4] ?_
 unfold MM at H
 refine wP ?_
 refine M0 H ?_ ?_<;>intro H
 .obtain rfl:=sI H
  exact wP (wE [(4,.d)])
 .obtain rfl:=sI H
  exact wP (wE [(4,.d)])
def O3(a1 b2:Int):Int :=
 bif decide (a1<b2)then(a1)else(b2)
theorem Z13(a1 b2:Int):MM a1 b2=some (O3 a1 b2):=by
 unfold MM O3
 first|rfl|simp only[O5]
theorem VV(a1 b2:Int):Snd Tryz.prog O02 [iV a1,iV b2] (iV (O3 a1 b2)) []:=L0B (Z13 a1 b2)
noncomputable def M0U:L :=
 lf Tryz.prog J02 [] [] [] [] [(3,16)] [] []
def ZN(a1 b2:Vec):Option Vec :=
 bif (!(Q0 a1))||(!(Q0 b2))then(some (Vec.mk 0 0 0))else(some (Vec.mk (O3 a1.a b2.a) (O3 a1.b b2.b) (O3 a1.c b2.c)))
theorem X0C{a1 b2 r:Vec}(H:ZN a1 b2=some r):Snd Tryz.prog J02 [eVec a1,eVec b2] (eVec r) []:=by
 refine wS M0U [.c 4 3 true] ?_
 unfold ZN at H
 refine wH [.c 6 (Y5 a1),.g 10 [((!(Q0 a1)),false)] (.call _ _ _ _ _ (AEs.refl _) (λ_=>Y5 b2))] ?_
 refine M0 H ?_ ?_<;>intro H
 .refine wP ?_
  replace H:=sI H;subst H
  exact wN [(4,.d)] [(4,[])] [] [] [] []
 .refine wH [.c 18 (VV a1.a b2.a),.c 23 (VV a1.b b2.b),.c 28 (VV a1.c b2.c)] ?_
  replace H:=sI H;subst H
  exact wN [(4,.d)] [(4,[])] [] [] [] []
def W1(a1 b2:Vec):Vec :=
 bif (!(Q0 a1))||(!(Q0 b2))then((Vec.mk 0 0 0))else((Vec.mk (O3 a1.a b2.a) (O3 a1.b b2.b) (O3 a1.c b2.c)))
theorem V13(a1 b2:Vec):ZN a1 b2=some (W1 a1 b2):=by
 unfold ZN W1
 first|rfl|simp only[O5]
theorem L0S(a1 b2:Vec):Snd Tryz.prog J02 [eVec a1,eVec b2] (eVec (W1 a1 b2)) []:=X0C (V13 a1 b2)
noncomputable def J0V:L :=
 lf Tryz.prog X03 [] [] [] [] [] [] []
def VN(x1 lo2 hi3:Int):Option Bool :=
 some (decide (lo2<=x1)&&decide (x1<=hi3))
theorem Z0G{x1 lo2 hi3:Int}{r:Bool}(H:VN x1 lo2 hi3=some r):Snd Tryz.prog X03 [iV x1,iV lo2,iV hi3] (.bool r) []:=by
 refine wS J0V [.t 6] ?_
 unfold VN at H
 obtain rfl:=sI H
 exact wP (wE [(6,.d)])
def U0(x1 lo2 hi3:Int):Bool :=
 (decide (lo2<=x1)&&decide (x1<=hi3))
theorem X18(x1 lo2 hi3:Int):VN x1 lo2 hi3=some (U0 x1 lo2 hi3):=by
 unfold VN U0
 first|rfl|simp only[O5]
theorem Y2(x1 lo2 hi3:Int):Snd Tryz.prog X03 [iV x1,iV lo2,iV hi3] (.bool (U0 x1 lo2 hi3)) []:=Z0G (X18 x1 lo2 hi3)
noncomputable def Z0W:L :=
 lf Tryz.prog V03 [] [] [] [] [] [] []
def QN(t1:Int):Option Bool :=
 some (U0 t1 0 1000000000)
theorem Y0G{t1:Int}{r:Bool}(H:QN t1=some r):Snd Tryz.prog V03 [iV t1] (.bool r) []:=by
 refine wS Z0W [.t 2] ?_
 unfold QN at H
 refine wH [.c 4 (Y2 t1 0 1000000000)] ?_
 replace H:=sI H;subst H
 exact wE [(2,.d)]
def J6(t1:Int):Bool :=
 (U0 t1 0 1000000000)
theorem W18(t1:Int):QN t1=some (J6 t1):=by
 unfold QN J6
 first|rfl|simp only[O5]
theorem Ls(t1:Int):Snd Tryz.prog V03 [iV t1] (.bool (J6 t1)) []:=Y0G (W18 t1)
noncomputable def O0F:L :=
 lf Tryz.prog V0c [] [] [] [] [] [] []
def M7(l1:List Int):Option (List Int) :=
 (appL 8 ([]:List Int) l1).bind λxs2=>some xs2
theorem UL{l1:List Int}{r:(List Int)}(H:M7 l1=some r):Snd Tryz.prog V0c [rV 1 (l1.map eI)] (.sref 0) [⟨1,r.map eI,false⟩]:=by
 refine wS O0F [.t 2] ?_
 unfold M7 at H
 obtain⟨xs2,h2,H⟩:=bB H
 refine wH [.u 4 (.ap _ _ _ _ λ_=>L0 eI h2)] ?_
 replace H:=sI H;subst H
 exact wN [(2,.d)] [] [(4,some 4,0)] [] [some 4] [⟨_,nw_I xs2⟩]
noncomputable def J17:L :=
 lf Tryz.prog W0c [] [] [] [] [] [] []
def JT(v1:Vec):Option Bool :=
 some (((U0 v1.a 0 1000000)&&(U0 v1.b 0 1000000))&&(U0 v1.c 0 1000000))
theorem Y0Q{v1:Vec}{r:Bool}(H:JT v1=some r):Snd Tryz.prog W0c [eVec v1] (.bool r) []:=by
 refine wS J17 [.t 2] ?_
 unfold JT at H
 refine wH [.c 5 (Y2 v1.a 0 1000000),.g 9 [((U0 v1.a 0 1000000),true)] (.call _ _ _ _ _ (AEs.refl _) (λ_=>Y2 v1.b 0 1000000)),.g 14 [(((U0 v1.a 0 1000000)&&(U0 v1.b 0 1000000)),true)] (.call _ _ _ _ _ (AEs.refl _) (λ_=>Y2 v1.c 0 1000000))] ?_
 replace H:=sI H;subst H
 exact wE [(2,.d)]
def Q1(v1:Vec):Bool :=
 (((U0 v1.a 0 1000000)&&(U0 v1.b 0 1000000))&&(U0 v1.c 0 1000000))
theorem J1e(v1:Vec):JT v1=some (Q1 v1):=by
 unfold JT Q1
 first|rfl|simp only[O5]
theorem W6(v1:Vec):Snd Tryz.prog W0c [eVec v1] (.bool (Q1 v1)) []:=Y0Q (J1e v1)
noncomputable def V0P:L :=
 lf Tryz.prog UX [] [] [] [] [] [] []
def LH(a1 b2:Vec):Option Bool :=
 some (((((Q1 a1)&&(Q1 b2))&&decide (a1.a<=b2.a))&&decide (a1.b<=b2.b))&&decide (a1.c<=b2.c))
theorem Y0x{a1 b2:Vec}{r:Bool}(H:LH a1 b2=some r):Snd Tryz.prog UX [eVec a1,eVec b2] (.bool r) []:=by
 refine wS V0P [.t 4] ?_
 unfold LH at H
 refine wH [.c 6 (W6 a1),.g 9 [((Q1 a1),true)] (.call _ _ _ _ _ (AEs.refl _) (λ_=>W6 b2))] ?_
 replace H:=sI H;subst H
 exact wE [(4,.d)]
def Vx(a1 b2:Vec):Bool :=
 (((((Q1 a1)&&(Q1 b2))&&decide (a1.a<=b2.a))&&decide (a1.b<=b2.b))&&decide (a1.c<=b2.c))
theorem Z0Y(a1 b2:Vec):LH a1 b2=some (Vx a1 b2):=by
 unfold LH Vx
 first|rfl|simp only[O5]
theorem Y09(a1 b2:Vec):Snd Tryz.prog UX [eVec a1,eVec b2] (.bool (Vx a1 b2)) []:=Y0x (Z0Y a1 b2)
noncomputable def V17:L :=
 lf Tryz.prog L0b [] [] [] [] [] [] []
def LT(a1 b2 v3:Vec):Option (Vec×Bool) :=
 bif ((!(Q1 a1))||(!(Q1 b2)))||(!(Q1 v3))then(some ((Vec.mk 0 0 0),false))else(some (v3,true))
theorem L0P{a1 b2 v3:Vec}{r:Vec×Bool}(H:LT a1 b2 v3=some r):Snd Tryz.prog L0b [eVec a1,eVec b2,eVec v3] (.tup [eVec r.1,.bool r.2]) []:=by
 refine wS V17 [.c 6 3 true,.t 7] ?_
 unfold LT at H
 refine wH [.c 9 (W6 a1),.g 13 [((!(Q1 a1)),false)] (.call _ _ _ _ _ (AEs.refl _) (λ_=>W6 b2)),.g 18 [(((!(Q1 a1))||(!(Q1 b2))),false)] (.call _ _ _ _ _ (AEs.refl _) (λ_=>W6 v3))] ?_
 refine M0 H ?_ ?_<;>intro H
 .refine wP ?_
  replace H:=sI H;subst H
  exact wN [(6,.d),(7,.d)] [(6,[])] [] [] [] []
 .refine wP ?_
  replace H:=sI H;subst H
  exact wN [(6,.d),(7,.d)] [(6,[])] [] [] [] []
def Uf(a1 b2 v3:Vec):Vec×Bool :=
 bif ((!(Q1 a1))||(!(Q1 b2)))||(!(Q1 v3))then(((Vec.mk 0 0 0),false))else((v3,true))
theorem L1e(a1 b2 v3:Vec):LT a1 b2 v3=some (Uf a1 b2 v3):=by
 unfold LT Uf
 first|rfl|simp only[O5]
theorem Z0p(a1 b2 v3:Vec):Snd Tryz.prog L0b [eVec a1,eVec b2,eVec v3] (.tup [eVec ((Uf a1 b2 v3).1),.bool ((Uf a1 b2 v3).2)]) []:=L0P (L1e a1 b2 v3)
noncomputable def Q0W:L :=
 lf Tryz.prog Q03 [] [] [] [] [] [] []
def ON(a1 b2:Vec):Option (Vec×Bool) :=
 some (((Uf a1 b2 (Vec.mk (w64 (a1.a-b2.a)) (w64 (a1.b-b2.b)) (w64 (a1.c-b2.c)))).1),(Uf a1 b2 (Vec.mk (w64 (a1.a-b2.a)) (w64 (a1.b-b2.b)) (w64 (a1.c-b2.c)))).2)
theorem M0G{a1 b2:Vec}{r:Vec×Bool}(H:ON a1 b2=some r):Snd Tryz.prog Q03 [eVec a1,eVec b2] (.tup [eVec r.1,.bool r.2]) []:=by
 refine wS Q0W [.c 4 3 true,.t 5] ?_
 unfold ON at H
 refine wH [.u 24 (.call _ _ _ _ _ (AEs.refl _) (λ_=>Z0p a1 b2 (Vec.mk (w64 (a1.a-b2.a)) (w64 (a1.b-b2.b)) (w64 (a1.c-b2.c)))))] ?_
 replace H:=sI H;subst H
 exact wN [(4,.d),(5,.d)] [(4,[])] [] [] [] []
def Uh(a1 b2:Vec):Vec×Bool :=
 (((Uf a1 b2 (Vec.mk (w64 (a1.a-b2.a)) (w64 (a1.b-b2.b)) (w64 (a1.c-b2.c)))).1),(Uf a1 b2 (Vec.mk (w64 (a1.a-b2.a)) (w64 (a1.b-b2.b)) (w64 (a1.c-b2.c)))).2)
theorem J18(a1 b2:Vec):ON a1 b2=some (Uh a1 b2):=by
 unfold ON Uh
 first|rfl|simp only[O5]
theorem O0X(a1 b2:Vec):Snd Tryz.prog Q03 [eVec a1,eVec b2] (.tup [eVec ((Uh a1 b2).1),.bool ((Uh a1 b2).2)]) []:=M0G (J18 a1 b2)
noncomputable def W0W:L :=
 lf Tryz.prog W03 [] [] [] [] [] [] []
def MN(a1 b2:Vec):Option Vec :=
 some ((Uf a1 b2 (Vec.mk (min a1.a b2.a) (min a1.b b2.b) (min a1.c b2.c))).1)
theorem L0G{a1 b2 r:Vec}(H:MN a1 b2=some r):Snd Tryz.prog W03 [eVec a1,eVec b2] (eVec r) []:=by
 refine wS W0W [.c 4 3 true] ?_
 unfold MN at H
 refine wH [.u 26 (.call _ _ _ _ _ (AEs.refl _) (λ_=>Z0p a1 b2 (Vec.mk (min a1.a b2.a) (min a1.b b2.b) (min a1.c b2.c))))] ?_
 replace H:=sI H;subst H
 exact wN [(4,.d)] [(4,[])] [] [] [] []
def VF(a1 b2:Vec):Vec :=
 ((Uf a1 b2 (Vec.mk (min a1.a b2.a) (min a1.b b2.b) (min a1.c b2.c))).1)
theorem Z19(a1 b2:Vec):MN a1 b2=some (VF a1 b2):=by
 unfold MN VF
 first|rfl|simp only[O5]
theorem L0X(a1 b2:Vec):Snd Tryz.prog W03 [eVec a1,eVec b2] (eVec (VF a1 b2)) []:=L0G (Z19 a1 b2)
def time (n:Int):Bool:=decide (0<=n)&&decide (n<=1000000000)
theorem Ol{n:Int}:time n=true↔0<=n/\n<=1000000000:=by simp[time]
theorem Xb{v:Vec}:Q0 v=true↔(0<=v.a/\v.a<=1000000)/\(0<=v.b/\v.b<=1000000)/\(0<=v.c/\v.c<=1000000):=by
 simp[Q0,Z9,and_assoc]
theorem Mq(v:Vec):Q1 v=Q0 v:=rfl
theorem XW(n:Int):J6 n=time n:=rfl
theorem Xi(n:Int):M3 n=time n:=rfl
theorem X09(a b:Vec):Vx a b=J0 a b:=rfl
theorem M0X{a b:Vec}(ha:Q0 a=true):Uh a b=M2 a b:=by
 have h:=Xb.1 ha
 unfold Uh Uf M2 J0
 simp only[Mq,ha]
 cases hb:Q0 b with
 |false=>simp
 |true =>
  have h2:=Xb.1 hb
  have w1:w64 (a.a-b.a)=a.a-b.a:=Q5 (by omega)
  have w2:w64 (a.b-b.b)=a.b-b.b:=Q5 (by omega)
  have w3:w64 (a.c-b.c)=a.c-b.c:=Q5 (by omega)
  simp only[w1,w2,w3]
  cases hc:Q0 (Vec.mk (a.a-b.a) (a.b-b.b) (a.c-b.c))with
  |false =>
   have:¬ ((b.a<=a.a/\b.b<=a.b)/\b.c<=a.c):=λq=>by
    rw[Xb.2 (by simp only;omega)]at hc;cases hc
   by_cases q1:b.a<=a.a<;>by_cases q2:b.b<=a.b<;>by_cases q3:b.c<=a.c<;>simp[q1,q2,q3]at this ⊢
  |true =>
   have q:=Xb.1 hc
   simp only at q
   have q1:b.a<=a.a:=by omega
   have q2:b.b<=a.b:=by omega
   have q3:b.c<=a.c:=by omega
   simp[q1,q2,q3]
theorem J0X(a b:Vec):VF a b=W1 a b:=by
 have e:∀x y:Int,min x y=O3 x y:=λx y=>by unfold O3;by_cases h:x<y<;>simp[h]<;>omega
 unfold VF Uf W1
 simp only[Mq,e]
 cases ha:Q0 a with
 |false=>simp
 |true =>
  cases hb:Q0 b with
  |false=>simp
  |true =>
   have h:=Xb.1 ha
   have h2:=Xb.1 hb
   have:Q0 (Vec.mk (O3 a.a b.a) (O3 a.b b.b) (O3 a.c b.c))=true:=by
    rw[Xb];simp only[← e];omega
   simp[this]
theorem Yq{a b:Vec}(ha:Q0 a=true)(hb:Q0 b=true):Q0 (W1 a b)=true:=by
 have e:∀x y:Int,O3 x y=min x y:=λx y=>by unfold O3;by_cases h:x<y<;>simp[h]<;>omega
 have h:=Xb.1 ha
 have h2:=Xb.1 hb
 unfold W1
 simp only[ha,hb,yL,Bool.or_self,yM]
 rw[Xb];simp only[e];omega
theorem Y0C{a:Vec}(ha:Q0 a=true):W1 a a=a:=by
 have e:∀x:Int,O3 x x=x:=λx=>by simp[O3]
 unfold W1
 simp[ha,e]
noncomputable def Y0O:L :=
 lf Tryz.prog Q0i [7] [] [] [] [] [] []
def Xk(t1:Topo)(s2:Int)(v3:Int×(List Int))(k3:(Int×(List Int))->Option (List Int)):Option (List Int) :=
 bif decide (v3.1<(t1.parents.length:Int))then((idx t1.parents v3.1).bind λe5=>bif e5==s2 then((appL 8 v3.2 [v3.1]).bind λxs6=>k3 ((w64 (v3.1+1)),xs6))else(k3 ((w64 (v3.1+1)),v3.2)))else(some v3.2)
def Qj(t1:Topo)(s2:Int):Option (List Int) :=
 whl (Xk t1 s2) 9223372036854775807 (1,[])
theorem Jy{t1:Topo}{s2:Int}{r:(List Int)}(H:Qj t1 s2=some r):Snd Tryz.prog Q0i [M4 .rd t1,iV s2] (nV 1 (r.map eI)) []:=by
 refine wS Y0O [.t 4] ?_
 unfold Qj at H
 refine wP ?_
 refine wW (λ(v3:Int×(List Int))=>⟨[(1,iV s2),(2,.ptr 2 0),(5,.sref 7),(6,iV v3.1)],[],[(2,(M4 .rd t1).cells)],[(7,⟨1,v3.2.map eI,false⟩)]⟩) H (λv3 I m k3 H N17=>?_)
 unfold Xk at H
 refine wG [.u 11 (.ln _ _ λ_=>lm t1.parents eI)] λq4=>?_
 refine M0 H ?_ ?_<;>intro H
 .obtain⟨e5,h5,H⟩:=bB H
  refine wH [.u 18 (.ix _ _ _ λ_=>W0 eI h5)] ?_
  refine M0 H ?_ ?_<;>intro H
  .obtain⟨xs6,h6,H⟩:=bB H
   exact wH [.u 25 (.ap _ _ _ _ λ_=>L0 eI h6)] (wT (N17 _ H))
  .refine wP ?_
   exact wT (N17 _ H)
 .refine wP ?_
  replace H:=sI H;subst H
  exact wN [(4,.f)] [] [] [7] [] [⟨_,nw_I v3.2⟩]
noncomputable def Q0E:L :=
 lf Tryz.prog US [] [] [] [] [] [] []
def QD(rc:Topo->Int->Option Int)(t1:Topo)(x5:Int)(i5:Nat)(v5:Int)(k5:Int->Option Int):Option Int :=
 (rc t1 x5).bind λn6=>bif decide (n6<0)||(decide (0<(i5:Int))&&(n6 != v5))then(some (-1))else(k5 n6)
def UD(v5:Int):Option Int :=
 some (w64 (v5+1))
def Zi:Nat->Topo->Int->Option Int
 |0,_,_=>none
 |fuel+1,t1,s2 =>
 (Qj t1 s2).bind λy3=>rgl (QD (Zi fuel) t1) UD y3 0 (-1)
def X9(t1:Topo)(s2:Int):Option Int:=Zi 100000000 t1 s2
theorem W0m(fuel:Nat):∀{t1:Topo} {s2 r:Int} (_:Zi fuel t1 s2=some r),Snd Tryz.prog US [M4 .rd t1,.int .i64 s2] (.int .i64 r) []:=by
 induction fuel with
 |zero=>intro t1 s2 r H;cases H
 |succ fuel IH =>
 intro t1 s2 r H
 refine wS Q0E [.t 4] ?_
 rw[Zi]at H
 obtain⟨y3,h3,H⟩:=bB H
 refine wG [.c 11 (Jy h3),.u 12 (.ln _ _ λ_=>lm y3 eI)] λq4=>?_
 refine wR (λ(i5:Nat) (v5:Int)=>⟨[(2,.ptr 2 0),(5,iV v5),(11,nV 1 (y3.map eI)),(12,iV (y3.length:Int)),(13,iV (i5:Int))],[],[(2,(M4 .rd t1).cells)],[]⟩) H (λi5 x5 v5 I m k5 hxv5 hiv5 H N25=>?_) (λv5 I m H=>?_)
 .unfold QD at H
  refine wP (wt (ltT hiv5) ?_)
  obtain⟨n6,h6,H⟩:=bB H
  refine wH [.u 16 (.ix _ _ _ λ_=>W0 eI (Y1 hxv5)),.c 20 (IH h6)] ?_
  refine M0 H ?_ ?_<;>intro H
  .obtain rfl:=sI H
   exact wP (wE [(4,.d)])
  .exact wH [.w 33 (wi .i64 rfl hiv5 q4.1)] (wT (N25 _ H))
 .unfold UD at H
  refine wP (wf (ltF y3.length) ?_)
  obtain rfl:=sI H
  exact wP (wE [(4,.d)])
theorem Ma{t1:Topo}{s2 r:Int}(H:X9 t1 s2=some r):Snd Tryz.prog US [M4 .rd t1,iV s2] (iV r) []:=W0m _ H
noncomputable def J0U:L :=
 lf Tryz.prog J0q [] [] [] [] [] [] []
def Mm(t1:Topo)(x8:Node)(_:Nat)(_:Unit)(k8:Unit->Option Bool):Option Bool :=
 (bif decide (x8.leaf<0)||decide ((t1.parents.length:Int)<=x8.leaf)then some default else(Qj t1 x8.leaf)).bind λy9=>bif ((decide (x8.leaf<0)||decide ((t1.parents.length:Int)<=x8.leaf))||decide (0<(y9.length:Int)))||(!(Q0 x8.cap))then(some false)else(k8 ())
def Mz(t1:Topo)(_:Unit):Option Bool :=
 (X9 t1 0).bind λn10=>some (decide (0<=n10))
def Lm(t1:Topo)(v4:Int)(k4:Int->Option Bool):Option Bool :=
 bif decide (v4<(t1.parents.length:Int))then((idx t1.parents v4).bind λe6=>bif decide (e6<0)||decide (v4<=e6)then(some false)else(k4 (w64 (v4+1))))else(rgl (Mm t1) (Mz t1) t1.nodes 0 ())
def Yh(t1:Topo):Option Bool :=
 (bif (decide ((t1.parents.length:Int)<1)||decide (24<(t1.parents.length:Int)))||decide (24<(t1.nodes.length:Int))then some default else(idx t1.parents 0)).bind λe2=>bif ((decide ((t1.parents.length:Int)<1)||decide (24<(t1.parents.length:Int)))||decide (24<(t1.nodes.length:Int)))||(e2 != 0)then(some false)else(whl (Lm t1) 9223372036854775807 1)
theorem QV{t1:Topo}{r:Bool}(H:Yh t1=some r):Snd Tryz.prog J0q [M4 .rd t1] (.bool r) []:=by
 refine wS J0U [.t 2] ?_
 unfold Yh at H
 obtain⟨e2,h2,H⟩:=bB H
 refine wG [.u 8 (.ln _ _ λ_=>lm t1.parents eI),.g 13 [((decide ((t1.parents.length:Int)<1)),false)] (.ln _ _ λ_=>lm t1.parents eI),.g 19 [((decide ((t1.parents.length:Int)<1)||decide (24<(t1.parents.length:Int))),false)] (.ln _ _ λ_=>lm t1.nodes V1),.g 25 [(_,false)] (.ix _ _ _ λq=>W0 eI (bF q.1 h2))] λq3=>?_
 refine M0 H ?_ ?_<;>intro H
 .obtain rfl:=sI H
  exact wP (wE [(2,.d)])
 .refine wP ?_
  refine wW (λ(v4:Int)=>⟨[(1,.ptr 1 0),(3,iV v4)],[],[(1,(M4 .rd t1).cells)],[]⟩) H (λv4 I m k4 H N25=>?_)
  unfold Lm at H
  refine wG [.u 32 (.ln _ _ λ_=>lm t1.parents eI)] λq5=>?_
  refine M0 H ?_ ?_<;>intro H
  .obtain⟨e6,h6,H⟩:=bB H
   refine wH [.u 39 (.ix _ _ _ λ_=>W0 eI h6),.g 46 [((decide (e6<0)),false)] (.ix _ _ _ λ_=>W0 eI h6)] ?_
   refine M0 H ?_ ?_<;>intro H
   .obtain rfl:=sI H
    exact wP (wE [(2,.d)])
   .refine wP ?_
    exact wT (N25 _ H)
  .refine wG [.u 53 (.ln _ _ λ_=>lm t1.nodes V1)] λq7=>?_
   refine wR (λ(i8:Nat) (v8:Unit)=>⟨[(1,.ptr 1 0),(52,rV 4 (t1.nodes.map V1)),(53,iV (t1.nodes.length:Int)),(54,iV (i8:Int))],[],[(1,(M4 .rd t1).cells)],[]⟩) H (λi8 x8 v8 I m k8 hxv8 hiv8 H N47=>?_) (λv8 I m H=>?_)
   .unfold Mm at H
    refine wP (wt (ltT hiv8) ?_)
    obtain⟨y9,h9,H⟩:=bB H
    refine wH [.u 56 (.ix _ _ _ λ_=>W0 V1 (Y1 hxv8)),.g 66 [((decide (x8.leaf<0)),false)] (.ln _ _ λ_=>lm t1.parents eI),.g 73 [(_,false)] (.call _ _ _ _ _ (AEs.refl _) (λq=>Jy (bF q.1 h9))),.g 74 [((decide (x8.leaf<0)||decide ((t1.parents.length:Int)<=x8.leaf)),false)] (.ln _ _ λ_=>lm y9 eI),.g 80 [(((decide (x8.leaf<0)||decide ((t1.parents.length:Int)<=x8.leaf))||decide (0<(y9.length:Int))),false)] (.call _ _ _ _ _ (AEs.refl _) (λ_=>Y5 x8.cap))] ?_
    refine M0 H ?_ ?_<;>intro H
    .obtain rfl:=sI H
     exact wP (wE [(2,.d)])
    .exact wH [.w 83 (wi .i64 rfl hiv8 q7.1)] (wT (N47 () H))
   .unfold Mz at H
    refine wP (wf (ltF t1.nodes.length) ?_)
    obtain⟨n10,h10,H⟩:=bB H
    refine wH [.c 85 (Ma h10)] ?_
    replace H:=sI H;subst H
    exact wE [(2,.d)]
noncomputable def M16:L :=
 lf Tryz.prog Z0A [7] [] [] [] [] [] []
def YV(t1:Topo)(v3:Int×(List Int))(k3:(Int×(List Int))->Option (List Int)):Option (List Int) :=
 bif decide (0<v3.1)then((idx t1.parents v3.1).bind λe4=>(appL 8 v3.2 [e4]).bind λxs5=>k3 (e4,xs5))else(some v3.2)
def Lw(t1:Topo)(s2:Int):Option (List Int) :=
 whl (YV t1) 9223372036854775807 (s2,[s2])
theorem Q0m{t1:Topo}{s2:Int}{r:(List Int)}(H:Lw t1 s2=some r):Snd Tryz.prog Z0A [M4 .rd t1,iV s2] (nV 1 (r.map eI)) []:=by
 refine wS M16 [.t 4] ?_
 unfold Lw at H
 refine wP ?_
 refine wW (λ(v3:Int×(List Int))=>⟨[(1,iV v3.1),(2,.ptr 2 0),(5,.sref 7)],[],[(2,(M4 .rd t1).cells)],[(7,⟨1,v3.2.map eI,false⟩)]⟩) H (λv3 I m k3 H N12=>?_)
 unfold YV at H
 refine wP ?_
 refine M0 H ?_ ?_<;>intro H
 .obtain⟨e4,h4,xs5,h5,H⟩:=bB2 H
  exact wH [.u 13 (.ix _ _ _ λ_=>W0 eI h4),.u 18 (.ap _ _ _ _ λ_=>L0 eI h5)] (wT (N12 _ H))
 .refine wP ?_
  replace H:=sI H;subst H
  exact wN [(4,.f)] [] [] [7] [] [⟨_,nw_I v3.2⟩]
noncomputable def V0U:L :=
 lf Tryz.prog L0q [] [] [] [] [] [] []
def Z07(n2 x4:Int)(_:Nat)(_:Unit)(k4:Unit->Option Bool):Option Bool :=
 bif x4==n2 then(some true)else(k4 ())
def ZP(_:Unit):Option Bool :=
 some false
def J8(l1:List Int)(n2:Int):Option Bool :=
 rgl (Z07 n2) ZP l1 0 ()
theorem Lb{l1:List Int}{n2:Int}{r:Bool}(H:J8 l1 n2=some r):Snd Tryz.prog L0q [rV 1 (l1.map eI),iV n2] (.bool r) []:=by
 refine wS V0U [.t 4] ?_
 unfold J8 at H
 refine wG [.u 8 (.ln _ _ λ_=>lm l1 eI)] λq3=>?_
 refine wR (λ(i4:Nat) (v4:Unit)=>⟨[(1,iV n2),(7,rV 1 (l1.map eI)),(8,iV (l1.length:Int)),(9,iV (i4:Int))],[],[],[]⟩) H (λi4 x4 v4 I m k4 hxv4 hiv4 H N20=>?_) (λv4 I m H=>?_)
 .unfold Z07 at H
  refine wP (wt (ltT hiv4) ?_)
  refine wH [.u 11 (.ix _ _ _ λ_=>W0 eI (Y1 hxv4))] ?_
  refine M0 H ?_ ?_<;>intro H
  .obtain rfl:=sI H
   exact wP (wE [(4,.d)])
  .exact wH [.w 16 (wi .i64 rfl hiv4 q3.1)] (wT (N20 () H))
 .unfold ZP at H
  refine wP (wf (ltF l1.length) ?_)
  obtain rfl:=sI H
  exact wP (wE [(4,.d)])
noncomputable def U0E:L :=
 lf Tryz.prog X0b [] [] [] [] [] [] []
def Zq(t1:Topo)(x4:Int)(_:Nat)(_:Unit)(k4:Unit->Option Bool):Option Bool :=
 bif decide (x4<0)||decide ((t1.nodes.length:Int)<=x4)then(some false)else(k4 ())
def Jp(t1:Topo)(_:Unit):Option Bool :=
 (Yh t1).bind λb5=>some b5
def Zg(t1:Topo)(nodes2:List Int):Option Bool :=
 rgl (Zq t1) (Jp t1) nodes2 0 ()
theorem XK{t1:Topo}{nodes2:List Int}{r:Bool}(H:Zg t1 nodes2=some r):Snd Tryz.prog X0b [M4 .rd t1,rV 1 (nodes2.map eI)] (.bool r) []:=by
 refine wS U0E [.t 4] ?_
 unfold Zg at H
 refine wG [.u 8 (.ln _ _ λ_=>lm nodes2 eI)] λq3=>?_
 refine wR (λ(i4:Nat) (v4:Unit)=>⟨[(2,.ptr 2 0),(7,rV 1 (nodes2.map eI)),(8,iV (nodes2.length:Int)),(9,iV (i4:Int))],[],[(2,(M4 .rd t1).cells)],[]⟩) H (λi4 x4 v4 I m k4 hxv4 hiv4 H N20=>?_) (λv4 I m H=>?_)
 .unfold Zq at H
  refine wP (wt (ltT hiv4) ?_)
  refine wH [.u 11 (.ix _ _ _ λ_=>W0 eI (Y1 hxv4)),.g 19 [((decide (x4<0)),false)] (.ln _ _ λ_=>lm t1.nodes V1)] ?_
  refine M0 H ?_ ?_<;>intro H
  .obtain rfl:=sI H
   exact wP (wE [(4,.d)])
  .exact wH [.w 22 (wi .i64 rfl hiv4 q3.1)] (wT (N20 () H))
 .unfold Jp at H
  refine wP (wf (ltF nodes2.length) ?_)
  obtain⟨b5,h5,H⟩:=bB H
  refine wH [.c 24 (QV h5)] ?_
  replace H:=sI H;subst H
  exact wE [(4,.d)]
noncomputable def W0V:L :=
 lf Tryz.prog W0r [] [] [] [] [(11,11),(14,14)] [] []
def Qn(t1:Topo)(i5:Nat)(x7:Int)(_:Nat)(v7:Bool)(k7:Bool->Option Int):Option Int :=
 (idx t1.nodes x7).bind λe8=>(Lw t1 e8.leaf).bind λy9=>(J8 y9 (i5:Int)).bind λb10=>bif !b10 then(k7 false)else(k7 v7)
def Wi(t1:Topo)(v5:Int)(i5:Nat)(k5:Int->Option Int)(v7:Bool):Option Int :=
 (bif v7 then(bif decide (v5<0)then some default else(X9 t1 (i5:Int)))else some default).bind λn11=>(bif v7 then(bif decide (v5<0)then some default else(X9 t1 v5))else some default).bind λn12=>bif v7&&(decide (v5<0)||decide (n11<=n12))then(k5 (i5:Int))else(k5 v5)
def Oi(t1:Topo)(nodes2:List Int)(_:Int)(i5:Nat)(v5:Int)(k5:Int->Option Int):Option Int :=
 rgl (Qn t1 i5) (Wi t1 v5 i5 k5) nodes2 0 true
def YA(v5:Int):Option Int :=
 some v5
def Jv(t1:Topo)(nodes2:List Int):Option Int :=
 (Zg t1 nodes2).bind λb3=>bif (!b3)||((nodes2.length:Int)==0)then(some (-1))else(rgl (Oi t1 nodes2) YA t1.parents 0 (-1))
theorem U0T{t1:Topo}{nodes2:List Int}{r:Int}(H:Jv t1 nodes2=some r):Snd Tryz.prog W0r [M4 .rd t1,rV 1 (nodes2.map eI)] (iV r) []:=by
 refine wS W0V [.t 4] ?_
 unfold Jv at H
 obtain⟨b3,h3,H⟩:=bB H
 refine wH [.c 12 (XK h3),.g 16 [((!b3),false)] (.ln _ _ λ_=>lm nodes2 eI)] ?_
 refine M0 H ?_ ?_<;>intro H
 .obtain rfl:=sI H
  exact wP (wE [(4,.d)])
 .refine wG [.u 22 (.ln _ _ λ_=>lm t1.parents eI)] λq4=>?_
  refine wR (λ(i5:Nat) (v5:Int)=>⟨[(1,rV 1 (nodes2.map eI)),(2,.ptr 2 0),(5,iV v5),(22,iV (t1.parents.length:Int)),(23,iV (i5:Int))],[],[(2,(M4 .rd t1).cells)],[]⟩) H (λi5 x5 v5 I m k5 hxv5 hiv5 H N49=>?_) (λv5 I m H=>?_)
  .unfold Oi at H
   refine wP (wt (ltT hiv5) ?_)
   refine wG [.u 27 (.ln _ _ λ_=>lm nodes2 eI)] λq6=>?_
   refine wR (λ(i7:Nat) (v7:Bool)=>⟨[(1,rV 1 (nodes2.map eI)),(2,.ptr 2 0),(5,iV v5),(6,iV (i5:Int)),(7,.bool v7),(22,iV (t1.parents.length:Int)),(23,iV (i5:Int)),(26,rV 1 (nodes2.map eI)),(27,iV (nodes2.length:Int)),(28,iV (i7:Int))],[],[(2,(M4 .rd t1).cells)],[]⟩) H (λi7 x7 v7 I m k7 hxv7 hiv7 H N33=>?_) (λv7 I m H=>?_)
   .unfold Qn at H
    refine wP (wt (ltT hiv7) ?_)
    obtain⟨e8,h8,y9,h9,b10,h10,H⟩:=bB3 H
    refine wH [.u 30 (.ix _ _ _ λ_=>W0 eI (Y1 hxv7)),.u 36 (.ix _ _ _ λ_=>W0 V1 h8),.c 39 (Q0m h9),.c 41 (Lb h10)] ?_
    refine M0 H ?_ ?_<;>intro H
    .exact wH [.w 43 (wi .i64 rfl hiv7 q6.1)] (wT (N33 _ H))
    .exact wH [.w 43 (wi .i64 rfl hiv7 q6.1)] (wT (N33 _ H))
   .unfold Wi at H
    refine wP (wf (ltF nodes2.length) ?_)
    obtain⟨n11,h11,n12,h12,H⟩:=bB2 H
    refine wH [.g 51 [(_,false),(_,true)] (.call _ _ _ _ _ (AEs.refl _) (λq=>Ma (bF q.1 (bT q.2.1 h11)))),.g 54 [(_,false),(_,true)] (.call _ _ _ _ _ (AEs.refl _) (λq=>Ma (bF q.1 (bT q.2.1 h12))))] ?_
    refine M0 H ?_ ?_<;>intro H
    .exact wH [.w 59 (wi .i64 rfl hiv5 q4.1)] (wT (N49 _ H))
    .exact wH [.w 59 (wi .i64 rfl hiv5 q4.1)] (wT (N49 _ H))
  .unfold YA at H
   refine wP (wf (ltF t1.parents.length) ?_)
   obtain rfl:=sI H
   exact wP (wE [(4,.d)])
noncomputable def U0F:L :=
 lf Tryz.prog Z0c [] [] [] [] [(1,5)] [] []
def Lg(t1:Topo):Option Topo :=
 (M7 t1.parents).bind λy2=>(appL 32 ([]:List Node) t1.nodes).bind λxs3=>some (Topo.mk y2 xs3)
theorem VL{t1 r:Topo}(H:Lg t1=some r):Snd Tryz.prog Z0c [M4 .rd t1] (M4 .nw r) []:=by
 refine wS U0F [.c 2 2 true] ?_
 unfold Lg at H
 obtain⟨y2,h2,xs3,h3,H⟩:=bB2 H
 refine wH [.c 5 (UL h2),.u 8 (.ap _ _ _ _ λ_=>L0 V1 h3)] ?_
 replace H:=sI H;subst H
 exact wN [(2,.d)] [(2,[.d,.f])] [] [8] [] [⟨_,nw_I y2⟩,⟨_,L2 xs3⟩]
noncomputable def X0W:L :=
 lf Tryz.prog J0r [] [] [] [] [] [] []
def Vo(parents1:List Int)(s2 v3:Int)(k3:Int->Option Bool):Option Bool :=
 bif decide (v3<(parents1.length:Int))then((idx parents1 v3).bind λe5=>bif e5==s2 then(some false)else(k3 (w64 (v3+1))))else(some true)
def OE(parents1:List Int)(s2:Int):Option Bool :=
 whl (Vo parents1 s2) 9223372036854775807 1
theorem W0g{parents1:List Int}{s2:Int}{r:Bool}(H:OE parents1 s2=some r):Snd Tryz.prog J0r [rV 1 (parents1.map eI),iV s2] (.bool r) []:=by
 refine wS X0W [.t 4] ?_
 unfold OE at H
 refine wP ?_
 refine wW (λ(v3:Int)=>⟨[(0,rV 1 (parents1.map eI)),(1,iV s2),(5,iV v3)],[],[],[]⟩) H (λv3 I m k3 H N18=>?_)
 unfold Vo at H
 refine wG [.u 8 (.ln _ _ λ_=>lm parents1 eI)] λq4=>?_
 refine M0 H ?_ ?_<;>intro H
 .obtain⟨e5,h5,H⟩:=bB H
  refine wH [.u 14 (.ix _ _ _ λ_=>W0 eI h5)] ?_
  refine M0 H ?_ ?_<;>intro H
  .obtain rfl:=sI H
   exact wP (wE [(4,.d)])
  .refine wP ?_
   exact wT (N18 _ H)
 .obtain rfl:=sI H
  exact wP (wE [(4,.d)])
noncomputable def M17:L :=
 lf Tryz.prog M0A [] [] [] [] [] [] []
def QW(parents1:List Int)(v3:Int×Int)(k3:(Int×Int)->Option Int):Option Int :=
 bif decide (0<v3.1)then((idx parents1 v3.1).bind λe4=>k3 (e4,(w64 (v3.2+1))))else(some v3.2)
def LE(parents1:List Int)(s2:Int):Option Int :=
 whl (QW parents1) 9223372036854775807 (s2,0)
theorem M01{parents1:List Int}{s2 r:Int}(H:LE parents1 s2=some r):Snd Tryz.prog M0A [rV 1 (parents1.map eI),iV s2] (iV r) []:=by
 refine wS M17 [.t 4] ?_
 unfold LE at H
 refine wP ?_
 refine wW (λ(v3:Int×Int)=>⟨[(0,rV 1 (parents1.map eI)),(1,iV v3.1),(5,iV v3.2)],[],[],[]⟩) H (λv3 I m k3 H N12=>?_)
 unfold QW at H
 refine wP ?_
 refine M0 H ?_ ?_<;>intro H
 .obtain⟨e4,h4,H⟩:=bB H
  exact wH [.u 10 (.ix _ _ _ λ_=>W0 eI h4)] (wT (N12 _ H))
 .obtain rfl:=sI H
  exact wP (wE [(4,.d)])
noncomputable def V0W:L :=
 lf Tryz.prog Z0s [] [] [] [] [] [] []
def O01(parents1:List Int):Option Int :=
 (LE parents1 (w64 ((parents1.length:Int)-1))).bind λn2=>some n2
theorem U0X{parents1:List Int}{r:Int}(H:O01 parents1=some r):Snd Tryz.prog Z0s [rV 1 (parents1.map eI)] (iV r) []:=by
 refine wS V0W [.t 2] ?_
 unfold O01 at H
 obtain⟨n2,h2,H⟩:=bB H
 refine wG [.u 5 (.ln _ _ λ_=>lm parents1 eI),.c 7 (M01 h2)] λq3=>?_
 replace H:=sI H;subst H
 exact wE [(2,.d)]
noncomputable def O0W:L :=
 lf Tryz.prog X0s [] [] [] [] [] [] []
def OB(t1:Topo)(x12:Node)(_:Nat)(_:Unit)(k12:Unit->Option Bool):Option Bool :=
 (bif !(U0 x12.leaf 0 (w64 ((t1.parents.length:Int)-1)))then some default else(OE t1.parents x12.leaf)).bind λb13=>bif ((!(U0 x12.leaf 0 (w64 ((t1.parents.length:Int)-1))))||(!b13))||(!(Q1 x12.cap))then(some false)else(k12 ())
def V09(_:Unit):Option Bool :=
 some true
def MB(t1:Topo)(_:Int)(i8:Nat)(v8:Int)(k8:Int->Option Bool):Option Bool :=
 (OE t1.parents (i8:Int)).bind λb9=>bif !b9 then(k8 v8)else((LE t1.parents (i8:Int)).bind λn10=>bif decide (0<=v8)&&(n10 != v8)then(some false)else(k8 n10))
def WB(t1:Topo)(_:Int):Option Bool :=
 rgl (OB t1) V09 t1.nodes 0 ()
def Qo(t1:Topo)(v4:Int)(k4:Int->Option Bool):Option Bool :=
 bif decide (v4<(t1.parents.length:Int))then((idx t1.parents v4).bind λe6=>bif !(U0 e6 0 (w64 (v4-1)))then(some false)else(k4 (w64 (v4+1))))else(rgl (MB t1) (WB t1) t1.parents 0 (-1))
def Wo(t1:Topo):Option Bool :=
 (bif !(U0 (t1.parents.length:Int) 1 24)then some default else(idx t1.parents 0)).bind λe2=>bif ((!(U0 (t1.parents.length:Int) 1 24))||(e2 != 0))||decide (24<(t1.nodes.length:Int))then(some false)else(whl (Qo t1) 9223372036854775807 1)
theorem WW{t1:Topo}{r:Bool}(H:Wo t1=some r):Snd Tryz.prog X0s [M4 .rd t1] (.bool r) []:=by
 refine wS O0W [.t 2] ?_
 unfold Wo at H
 obtain⟨e2,h2,H⟩:=bB H
 refine wG [.u 11 (.ln _ _ λ_=>lm t1.parents eI),.u 12 (.call _ _ _ _ _ (AEs.refl _) (λ_=>Y2 (t1.parents.length:Int) 1 24)),.g 17 [(_,false)] (.ix _ _ _ λq=>W0 eI (bF q.1 h2)),.g 24 [(((!(U0 (t1.parents.length:Int) 1 24))||(e2 != 0)),false)] (.ln _ _ λ_=>lm t1.nodes V1)] λq3=>?_
 refine M0 H ?_ ?_<;>intro H
 .obtain rfl:=sI H
  exact wP (wE [(2,.d)])
 .refine wP ?_
  refine wW (λ(v4:Int)=>⟨[(1,.ptr 1 0),(3,iV v4)],[],[(1,(M4 .rd t1).cells)],[]⟩) H (λv4 I m k4 H N25=>?_)
  unfold Qo at H
  refine wG [.u 30 (.ln _ _ λ_=>lm t1.parents eI)] λq5=>?_
  refine M0 H ?_ ?_<;>intro H
  .obtain⟨e6,h6,H⟩:=bB H
   refine wH [.u 37 (.ix _ _ _ λ_=>W0 eI h6),.u 41 (.call _ _ _ _ _ (AEs.refl _) (λ_=>Y2 e6 0 (w64 (v4-1))))] ?_
   refine M0 H ?_ ?_<;>intro H
   .obtain rfl:=sI H
    exact wP (wE [(2,.d)])
   .refine wP ?_
    exact wT (N25 _ H)
  .refine wG [.u 45 (.ln _ _ λ_=>lm t1.parents eI)] λq7=>?_
   refine wR (λ(i8:Nat) (v8:Int)=>⟨[(1,.ptr 1 0),(4,iV v8),(45,iV (t1.parents.length:Int)),(46,iV (i8:Int))],[],[(1,(M4 .rd t1).cells)],[]⟩) H (λi8 x8 v8 I m k8 hxv8 hiv8 H N58=>?_) (λv8 I m H=>?_)
   .unfold MB at H
    refine wP (wt (ltT hiv8) ?_)
    obtain⟨b9,h9,H⟩:=bB H
    refine wH [.c 52 (W0g h9)] ?_
    refine M0 H ?_ ?_<;>intro H
    .exact wH [.w 66 (wi .i64 rfl hiv8 q3.1)] (wT (N58 _ H))
    .obtain⟨n10,h10,H⟩:=bB H
     refine wH [.c 57 (M01 h10)] ?_
     refine M0 H ?_ ?_<;>intro H
     .obtain rfl:=sI H
      exact wP (wE [(2,.d)])
     .exact wH [.w 66 (wi .i64 rfl hiv8 q3.1)] (wT (N58 _ H))
   .unfold WB at H
    refine wP (wf (ltF t1.parents.length) ?_)
    refine wG [.u 69 (.ln _ _ λ_=>lm t1.nodes V1)] λq11=>?_
    refine wR (λ(i12:Nat) (v12:Unit)=>⟨[(1,.ptr 1 0),(68,rV 4 (t1.nodes.map V1)),(69,iV (t1.nodes.length:Int)),(70,iV (i12:Int))],[],[(1,(M4 .rd t1).cells)],[]⟩) H (λi12 x12 v12 I m k12 hxv12 hiv12 H N80=>?_) (λv12 I m H=>?_)
    .unfold OB at H
     refine wP (wt (ltT hiv12) ?_)
     obtain⟨b13,h13,H⟩:=bB H
     refine wG [.u 72 (.ix _ _ _ λ_=>W0 V1 (Y1 hxv12)),.u 78 (.ln _ _ λ_=>lm t1.parents eI),.u 80 (.call _ _ _ _ _ (AEs.refl _) (λ_=>Y2 x12.leaf 0 (w64 ((t1.parents.length:Int)-1)))),.g 87 [(_,false)] (.call _ _ _ _ _ (AEs.refl _) (λq=>W0g (bF q.1 h13))),.g 93 [(((!(U0 x12.leaf 0 (w64 ((t1.parents.length:Int)-1))))||(!b13)),false)] (.call _ _ _ _ _ (AEs.refl _) (λ_=>W6 x12.cap))] λq14=>?_
     refine M0 H ?_ ?_<;>intro H
     .obtain rfl:=sI H
      exact wP (wE [(2,.d)])
     .exact wH [.w 96 (wi .i64 rfl hiv12 q11.1)] (wT (N80 () H))
    .unfold V09 at H
     refine wP (wf (ltF t1.nodes.length) ?_)
     obtain rfl:=sI H
     exact wP (wE [(2,.d)])
noncomputable def Q17:L :=
 lf Tryz.prog Q0A [] [] [] [] [(1,9)] [] []
def Yx(t1:Topo)(s2:Int):Option Int :=
 (O01 t1.parents).bind λn3=>(LE t1.parents s2).bind λn4=>some (w64 (n3-n4))
theorem UN{t1:Topo}{s2 r:Int}(H:Yx t1 s2=some r):Snd Tryz.prog Q0A [M4 .rd t1,iV s2] (iV r) []:=by
 refine wS Q17 [.t 4] ?_
 unfold Yx at H
 obtain⟨n3,h3,n4,h4,H⟩:=bB2 H
 refine wH [.c 7 (U0X h3),.c 11 (M01 h4)] ?_
 replace H:=sI H;subst H
 exact wE [(4,.d)]
noncomputable def L17:L :=
 lf Tryz.prog L0A [7] [] [] [] [] [] []
def M0g(t1:Topo)(v3:Int×(List Int))(k3:(Int×(List Int))->Option (List Int)):Option (List Int) :=
 bif decide (0<v3.1)then((idx t1.parents v3.1).bind λe4=>(appL 8 v3.2 [e4]).bind λxs5=>k3 (e4,xs5))else(some v3.2)
def YZ(t1:Topo)(s2:Int):Option (List Int) :=
 whl (M0g t1) 9223372036854775807 (s2,[s2])
theorem V0p{t1:Topo}{s2:Int}{r:(List Int)}(H:YZ t1 s2=some r):Snd Tryz.prog L0A [M4 .rd t1,iV s2] (nV 1 (r.map eI)) []:=by
 refine wS L17 [.t 4] ?_
 unfold YZ at H
 refine wP ?_
 refine wW (λ(v3:Int×(List Int))=>⟨[(1,iV v3.1),(2,.ptr 2 0),(5,.sref 7)],[],[(2,(M4 .rd t1).cells)],[(7,⟨1,v3.2.map eI,false⟩)]⟩) H (λv3 I m k3 H N12=>?_)
 unfold M0g at H
 refine wP ?_
 refine M0 H ?_ ?_<;>intro H
 .obtain⟨e4,h4,xs5,h5,H⟩:=bB2 H
  exact wH [.u 13 (.ix _ _ _ λ_=>W0 eI h4),.u 18 (.ap _ _ _ _ λ_=>L0 eI h5)] (wT (N12 _ H))
 .refine wP ?_
  replace H:=sI H;subst H
  exact wN [(4,.f)] [] [] [7] [] [⟨_,nw_I v3.2⟩]
noncomputable def M0F:L :=
 lf Tryz.prog Q0c [] [] [] [] [] [] []
def XF(t1:Topo)(x4:Int)(_:Nat)(_:Unit)(k4:Unit->Option Bool):Option Bool :=
 bif !(U0 x4 0 (w64 ((t1.nodes.length:Int)-1)))then(some false)else(k4 ())
def YF(t1:Topo)(_:Unit):Option Bool :=
 (Wo t1).bind λb6=>some b6
def Oq(t1:Topo)(nodes2:List Int):Option Bool :=
 rgl (XF t1) (YF t1) nodes2 0 ()
theorem M04{t1:Topo}{nodes2:List Int}{r:Bool}(H:Oq t1 nodes2=some r):Snd Tryz.prog Q0c [M4 .rd t1,rV 1 (nodes2.map eI)] (.bool r) []:=by
 refine wS M0F [.t 4] ?_
 unfold Oq at H
 refine wG [.u 8 (.ln _ _ λ_=>lm nodes2 eI)] λq3=>?_
 refine wR (λ(i4:Nat) (v4:Unit)=>⟨[(2,.ptr 2 0),(7,rV 1 (nodes2.map eI)),(8,iV (nodes2.length:Int)),(9,iV (i4:Int))],[],[(2,(M4 .rd t1).cells)],[]⟩) H (λi4 x4 v4 I m k4 hxv4 hiv4 H N20=>?_) (λv4 I m H=>?_)
 .unfold XF at H
  refine wP (wt (ltT hiv4) ?_)
  refine wG [.u 11 (.ix _ _ _ λ_=>W0 eI (Y1 hxv4)),.u 16 (.ln _ _ λ_=>lm t1.nodes V1),.u 18 (.call _ _ _ _ _ (AEs.refl _) (λ_=>Y2 x4 0 (w64 ((t1.nodes.length:Int)-1))))] λq5=>?_
  refine M0 H ?_ ?_<;>intro H
  .obtain rfl:=sI H
   exact wP (wE [(4,.d)])
  .exact wH [.w 20 (wi .i64 rfl hiv4 q3.1)] (wT (N20 () H))
 .unfold YF at H
  refine wP (wf (ltF nodes2.length) ?_)
  obtain⟨b6,h6,H⟩:=bB H
  refine wH [.c 22 (WW h6)] ?_
  replace H:=sI H;subst H
  exact wE [(4,.d)]
noncomputable def W01:L :=
 lf Tryz.prog UC [] [] [] [] [] [] []
def Li(v2 x4:Int)(i4:Nat)(_:Unit)(k4:Unit->Option Int):Option Int :=
 bif v2==x4 then(some (i4:Int))else(k4 ())
def Jw(_:Unit):Option Int :=
 some (-1)
def Ub(s1:List Int)(v2:Int):Option Int :=
 rgl (Li v2) Jw s1 0 ()
theorem O00{s1:List Int}{v2 r:Int}(H:Ub s1 v2=some r):Snd Tryz.prog UC [rV 1 (s1.map eI),iV v2] (iV r) []:=by
 refine wS W01 [.t 4] ?_
 unfold Ub at H
 refine wG [.u 7 (.ln _ _ λ_=>lm s1 eI)] λq3=>?_
 refine wR (λ(i4:Nat) (v4:Unit)=>⟨[(0,rV 1 (s1.map eI)),(1,iV v2),(7,iV (s1.length:Int)),(8,iV (i4:Int))],[],[],[]⟩) H (λi4 x4 v4 I m k4 hxv4 hiv4 H N20=>?_) (λv4 I m H=>?_)
 .unfold Li at H
  refine wP (wt (ltT hiv4) ?_)
  refine wH [.u 14 (.ix _ _ _ λ_=>W0 eI (Y1 hxv4))] ?_
  refine M0 H ?_ ?_<;>intro H
  .obtain rfl:=sI H
   exact wP (wE [(4,.d)])
  .exact wH [.w 18 (wi .i64 rfl hiv4 q3.1)] (wT (N20 () H))
 .unfold Jw at H
  refine wP (wf (ltF s1.length) ?_)
  obtain rfl:=sI H
  exact wP (wE [(4,.d)])
noncomputable def JS:L :=
 lf Tryz.prog Lt [] [] [] [] [] [] []
def X3(s1:List Int)(v2:Int):Option Bool :=
 (Ub s1 v2).bind λn3=>some (decide (0<=n3))
theorem M5{s1:List Int}{v2:Int}{r:Bool}(H:X3 s1 v2=some r):Snd Tryz.prog Lt [rV 1 (s1.map eI),iV v2] (.bool r) []:=by
 refine wS JS [.t 4] ?_
 unfold X3 at H
 obtain⟨n3,h3,H⟩:=bB H
 refine wH [.c 7 (O00 h3)] ?_
 replace H:=sI H;subst H
 exact wE [(4,.d)]
noncomputable def Z0X:L :=
 lf Tryz.prog W0s [] [] [] [] [(11,13),(13,14)] [] []
def Mo(t1:Topo)(i5:Nat)(x7:Int)(_:Nat)(v7:Bool)(k7:Bool->Option Int):Option Int :=
 (bif v7 then(idx t1.nodes x7)else some default).bind λe8=>(bif v7 then(YZ t1 e8.leaf)else some default).bind λy9=>(bif v7 then(X3 y9 (i5:Int))else some default).bind λb10=>k7 (v7&&b10)
def Yj(t1:Topo)(v5:Int)(i5:Nat)(k5:Int->Option Int)(v7:Bool):Option Int :=
 (bif v7 then(bif decide (v5<0)then some default else(Yx t1 (i5:Int)))else some default).bind λn11=>(bif v7 then(bif decide (v5<0)then some default else(Yx t1 v5))else some default).bind λn12=>bif v7&&(decide (v5<0)||decide (n11<=n12))then(k5 (i5:Int))else(k5 v5)
def JB(t1:Topo)(nodes2:List Int)(_:Int)(i5:Nat)(v5:Int)(k5:Int->Option Int):Option Int :=
 rgl (Mo t1 i5) (Yj t1 v5 i5 k5) nodes2 0 true
def JR(v5:Int):Option Int :=
 some v5
def WF(t1:Topo)(nodes2:List Int):Option Int :=
 (Oq t1 nodes2).bind λb3=>bif (!b3)||((nodes2.length:Int)==0)then(some (-1))else(rgl (JB t1 nodes2) JR t1.parents 0 (-1))
theorem X0Y{t1:Topo}{nodes2:List Int}{r:Int}(H:WF t1 nodes2=some r):Snd Tryz.prog W0s [M4 .rd t1,rV 1 (nodes2.map eI)] (iV r) []:=by
 refine wS Z0X [.t 4] ?_
 unfold WF at H
 obtain⟨b3,h3,H⟩:=bB H
 refine wH [.c 12 (M04 h3),.g 16 [((!b3),false)] (.ln _ _ λ_=>lm nodes2 eI)] ?_
 refine M0 H ?_ ?_<;>intro H
 .obtain rfl:=sI H
  exact wP (wE [(4,.d)])
 .refine wG [.u 21 (.ln _ _ λ_=>lm t1.parents eI)] λq4=>?_
  refine wR (λ(i5:Nat) (v5:Int)=>⟨[(1,rV 1 (nodes2.map eI)),(2,.ptr 2 0),(5,iV v5),(21,iV (t1.parents.length:Int)),(22,iV (i5:Int))],[],[(2,(M4 .rd t1).cells)],[]⟩) H (λi5 x5 v5 I m k5 hxv5 hiv5 H N45=>?_) (λv5 I m H=>?_)
  .unfold JB at H
   refine wP (wt (ltT hiv5) ?_)
   refine wG [.u 26 (.ln _ _ λ_=>lm nodes2 eI)] λq6=>?_
   refine wR (λ(i7:Nat) (v7:Bool)=>⟨[(1,rV 1 (nodes2.map eI)),(2,.ptr 2 0),(5,iV v5),(6,iV (i5:Int)),(7,.bool v7),(21,iV (t1.parents.length:Int)),(22,iV (i5:Int)),(25,rV 1 (nodes2.map eI)),(26,iV (nodes2.length:Int)),(27,iV (i7:Int))],[],[(2,(M4 .rd t1).cells)],[]⟩) H (λi7 x7 v7 I m k7 hxv7 hiv7 H N29=>?_) (λv7 I m H=>?_)
   .unfold Mo at H
    refine wP (wt (ltT hiv7) ?_)
    obtain⟨e8,h8,y9,h9,b10,h10,H⟩:=bB3 H
    exact wH [.u 29 (.ix _ _ _ λ_=>W0 eI (Y1 hxv7)),.g 37 [(_,true)] (.ix _ _ _ λq=>W0 V1 (bT q.1 h8)),.g 40 [(_,true)] (.call _ _ _ _ _ (AEs.refl _) (λq=>V0p (bT q.1 h9))),.g 42 [(_,true)] (.call _ _ _ _ _ (AEs.refl _) (λq=>M5 (bT q.1 h10))),.w 44 (wi .i64 rfl hiv7 q6.1)] (wT (N29 _ H))
   .unfold Yj at H
    refine wP (wf (ltF nodes2.length) ?_)
    obtain⟨n11,h11,n12,h12,H⟩:=bB2 H
    refine wH [.g 52 [(_,false),(_,true)] (.call _ _ _ _ _ (AEs.refl _) (λq=>UN (bF q.1 (bT q.2.1 h11)))),.g 55 [(_,false),(_,true)] (.call _ _ _ _ _ (AEs.refl _) (λq=>UN (bF q.1 (bT q.2.1 h12))))] ?_
    refine M0 H ?_ ?_<;>intro H
    .exact wH [.w 60 (wi .i64 rfl hiv5 q4.1)] (wT (N45 _ H))
    .exact wH [.w 60 (wi .i64 rfl hiv5 q4.1)] (wT (N45 _ H))
  .unfold JR at H
   refine wP (wf (ltF t1.parents.length) ?_)
   obtain rfl:=sI H
   exact wP (wE [(4,.d)])
structure TreeP(P:List Int):Prop where
 pos:0<P.length
 le:P.length<=24
 root:P[0]?=some 0
 par:∀(i:Nat),1<=i->∀(p:Int),P[i]?=some p->0<=p/\p<i
def prt(P:List Int)(i:Nat):Nat:=(P.getD i 0).toNat
def dep(P:List Int)(s:Nat):Nat:=if h:0<s/\prt P s<s then dep P (prt P s)+1 else 0
termination_by s
decreasing_by exact h.2
def ups(P:List Int)(s:Nat):List Nat:=if _:0<s/\prt P s<s then s::ups P (prt P s)else[s]
termination_by s
decreasing_by exact(‹0<s/\prt P s<s›:0<s/\prt P s<s).2
def kids(P:List Int)(s:Int):List Nat:=(List.range' 1 (P.length-1)).filter λi=>P[i]?==some s
theorem X1p{P:List Int}{s:Int}{c:Nat}:c∈kids P s↔1<=c/\c<P.length/\P[c]?=some s:=by
 simp only[kids,List.mem_filter,List.mem_range',beq_iff_eq]
 constructor
 .rintro⟨⟨i,hi,rfl⟩,h⟩;exact⟨by omega,by omega,h⟩
 .rintro⟨h1,h2,h3⟩;exact⟨⟨c-1,by omega,by omega⟩,h3⟩
theorem TreeP.par_lt{P:List Int}(T:TreeP P){i:Nat}(h1:1<=i)(h:i<P.length):prt P i<i/\P[i]?=some (prt P i:Int):=by
 have e:P[i]?=some P[i]:=yA h
 have:=T.par i h1 _ e
 have q:prt P i=P[i].toNat:=by simp[prt,h]
 rw[q]
 exact⟨by omega,by rw[e];congr 1;omega⟩
theorem W1K(P:List Int):dep P 0=0:=by rw[dep];simp
theorem TreeP.dep_succ{P:List Int}(T:TreeP P){i:Nat}(h1:1<=i)(h:i<P.length):dep P i=dep P (prt P i)+1:=by
 rw[dep,dif_pos ⟨by omega,(T.par_lt h1 h).1⟩]
theorem Z12(P:List Int):ups P 0=[0]:=by rw[ups];simp
theorem TreeP.ups_succ{P:List Int}(T:TreeP P){i:Nat}(h1:1<=i)(h:i<P.length):ups P i=i::ups P (prt P i):=by
 rw[ups,dif_pos ⟨by omega,(T.par_lt h1 h).1⟩]
theorem O1E(P:List Int):∀s,dep P s<=s:=by
 intro s
 induction s using Nat.strongRecOn with
 |_ s ih =>
  rw[dep]
  split
  .rename_i h;have:=ih _ h.2;omega
  .omega
theorem L0m(P:List Int)(s:Nat):s∈ups P s:=by rw[ups];split<;>simp
theorem TreeP.ups_mem{P:List Int}(T:TreeP P):∀l,l<P.length->∀s,s∈ups P l->s<=l/\∀x,x∈ups P s->x∈ups P l:=by
 intro l
 induction l using Nat.strongRecOn with
 |_ l ih =>
  intro hl s hs
  by_cases h0:l=0
  .subst h0;rw[Z12]at hs;simp at hs;subst hs;exact⟨yV _,λx hx=>hx⟩
  .have hp:=T.par_lt (i:=l) (by omega) hl
   rw[T.ups_succ (by omega) hl]at hs ⊢
   rcases yX hs with rfl|hs
   .exact⟨yV _,λx hx=>by rwa [T.ups_succ (by omega) hl]at hx⟩
   .obtain⟨q1,q2⟩:=ih _ hp.1 (by omega) s hs
    exact⟨by omega,λx hx=>yH _ (q2 x hx)⟩
theorem TreeP.kid_of{P:List Int}(T:TreeP P):∀l,l<P.length->∀s,s∈ups P l->s≠l->∃c,c∈kids P (s:Int)/\c∈ups P l:=by
 intro l
 induction l using Nat.strongRecOn with
 |_ l ih =>
  intro hl s hs hne
  by_cases h0:l=0
  .subst h0;rw[Z12]at hs;simp at hs;exact absurd hs hne
  .have hp:=T.par_lt (i:=l) (by omega) hl
   rw[T.ups_succ (by omega) hl]at hs ⊢
   rcases yX hs with rfl|hs
   .exact absurd rfl hne
   .by_cases he:s=prt P l
    .subst he
     exact⟨l,X1p.2 ⟨by omega,hl,hp.2⟩,yJ ..⟩
    .obtain⟨c,q1,q2⟩:=ih _ hp.1 (by omega) s hs he
     exact⟨c,q1,yH _ q2⟩
theorem TreeP.kid_par{P:List Int}(T:TreeP P){s c:Nat}(h:c∈kids P (s:Int)):1<=c/\c<P.length/\prt P c=s/\s<c:=by
 obtain⟨h1,h2,h3⟩:=X1p.1 h
 have hp:=T.par_lt h1 h2
 rw[hp.2]at h3
 have:prt P c=s:=by have:=Option.some.inj h3;omega
 exact⟨h1,h2,this,by omega⟩
structure LeafP(P:List Int)(s l:Nat):Prop where
 lt:l<P.length
 leaf:kids P (l:Int)=[]
 up:s∈ups P l
theorem TreeP.some_leaf{P:List Int}(T:TreeP P):∀(n s:Nat),P.length-s=n->s<P.length->∃l,LeafP P s l:=by
 intro n
 induction n using Nat.strongRecOn with
 |_ n ih =>
  intro s hn hs
  cases hk:kids P (s:Int)with
  |nil=>exact⟨s,hs,hk,L0m P s⟩
  |cons c ks =>
   have hc:c∈kids P (s:Int):=by rw[hk];exact yJ ..
   obtain⟨q1,q2,q3,q4⟩:=T.kid_par hc
   obtain⟨l,hl⟩:=ih (P.length-c) (by omega) c rfl q2
   refine⟨l,hl.lt,hl.leaf,(T.ups_mem l hl.lt c hl.up).2 s ?_⟩
   rw[T.ups_succ q1 q2,q3]
   exact yH _ (L0m P s)
theorem TreeP.leaf_kid{P:List Int}(T:TreeP P){s c l:Nat}(hc:c∈kids P (s:Int))(h:LeafP P c l):LeafP P s l:=by
 obtain⟨q1,q2,q3,q4⟩:=T.kid_par hc
 refine⟨h.lt,h.leaf,(T.ups_mem l h.lt c h.up).2 s ?_⟩
 rw[T.ups_succ q1 q2,q3]
 exact yH _ (L0m P s)
theorem TreeP.leaf_cases{P:List Int}(T:TreeP P){s l:Nat}(h:LeafP P s l):s=l\/∃c,c∈kids P (s:Int)/\LeafP P c l:=by
 by_cases e:s=l
 .exact .inl e
 .obtain⟨c,q1,q2⟩:=T.kid_of l h.lt s h.up e
  exact .inr ⟨c,q1,h.lt,h.leaf,q2⟩
theorem TreeP.zero_up{P:List Int}(T:TreeP P):∀l,l<P.length->0∈ups P l:=by
 intro l
 induction l using Nat.strongRecOn with
 |_ l ih =>
  intro hl
  by_cases h0:l=0
  .subst h0;exact L0m P 0
  .rw[T.ups_succ (by omega) hl]
   exact yH _ (ih _ (T.par_lt (by omega) hl).1 (by have:=(T.par_lt (i:=l) (by omega) hl).1;omega))
theorem Wm(t:Topo)(s:Int)(hl:t.parents.length<=1048576):Qj t s=some ((kids t.parents s).map λ(i:Nat)=>(i:Int)):=by
 unfold Qj
 have h:=Q0j (bd:=Xk t s) (λ(i:Nat) (st:List Int)=>((i:Int),st)) (n:=t.parents.length)
  (B:=λx _ st k=>bif t.parents[x]?==some s then(appL 8 st [(x:Int)]).bind k else k st) (kk:=some) (λi st k hi=>by
   obtain⟨e,he⟩:∃e,t.parents[i]?=some e:=⟨_,yA hi⟩
   have hlt:(i:Int)<(t.parents.length:Int):=by omega
   simp only[Xk,hlt,decide_true,yN,Y7,he,bS,X06 (n:=i) (by omega)]
   rw[show(some e==some s)=(e==s) from rfl])
  (λi st k hi=>by
   have hlt:¬ (i:Int)<(t.parents.length:Int):=by omega
   simp only[Xk,hlt,decide_false,yM]) 9223372036854775807 1 [] (by omega)
 refine h.trans ?_
 rw[V6 (p:=λ(x:Nat)=>t.parents[x]?==some s) (f:=λ(x:Nat)=>(x:Int)) (λx _ i b k=>rfl) (by simp;omega)]
 rfl
def LevP(P:List Int)(s:Nat)(v:Int):Prop :=
 (0<=v/\v<=P.length-s/\∀l,LeafP P s l->(dep P l:Int)=dep P s+v)\/(v = -1/\∃l1 l2,LeafP P s l1/\LeafP P s l2/\dep P l1≠dep P l2)
theorem O0m{t:Topo}(T:TreeP t.parents):∀(n s fuel:Nat),t.parents.length-s=n->s<t.parents.length->n<=fuel->∃v,Zi fuel t (s:Int)=some v/\LevP t.parents s v:=by
 intro n
 induction n using Nat.strongRecOn with
 |_ n ih =>
  intro s fuel hn hs hf
  obtain⟨fuel,rfl⟩:∃m,fuel=m+1:=⟨fuel-1,by omega⟩
  have hle:=T.le
  rw[Zi,Wm t s (by omega),bS,Y1y]
  refine X7 (λi (v:Int)=>(i=0->v = -1)/\(0<i->0<=v/\v<=t.parents.length-s-1/\∀j c,j<i->(kids t.parents (s:Int))[j]?=some c->∀l,LeafP t.parents c l->(dep t.parents l:Int)=dep t.parents s+1+v)) (λr=>∃v,r=some v/\LevP t.parents s v) ?_ ?_ ⟨λ_=>rfl,λh=>by omega⟩
  .intro i c v k hi hI hk
   have hc:c∈kids t.parents (s:Int):=yE hi
   obtain⟨q1,q2,q3,q4⟩:=T.kid_par hc
   have hd:dep t.parents c=dep t.parents s+1:=by rw[T.dep_succ q1 q2,q3]
   obtain⟨n6,hn6,hl6⟩:=ih (t.parents.length-c) (by omega) c fuel rfl q2 (by omega)
   rw[QD,hn6,bS]
   rcases hl6 with⟨p1,p2,p3⟩|⟨rfl,l1,l2,h1,h2,hne⟩
   .have e1:decide (n6<0)=false:=by simpa using p1
    rw[e1,Bool.false_or]
    by_cases h0:i=0
    .subst h0
     simp only[Int.natCast_zero,Int.lt_irrefl,decide_false,Bool.false_and,yM]
     refine hk n6 ⟨λh=>by omega,λ_=>⟨p1,by omega,λj c' hj hc' l hl=>?_⟩⟩
     have:j=0:=by omega
     subst this
     rw[hi]at hc';cases hc'
     rw[p3 l hl,hd];omega
    .have e2:decide ((0:Int)<(i:Int))=true:=by simp;omega
     obtain⟨r1,r2,r3⟩:=hI.2 (by omega)
     rw[e2,Bool.true_and]
     by_cases hv:n6=v
     .subst hv
      simp only[bne_self_eq_false,yM]
      refine hk n6 ⟨λh=>by omega,λ_=>⟨p1,r2,λj c' hj hc' l hl=>?_⟩⟩
      by_cases hji:j=i
      .subst hji
       rw[hi]at hc';cases hc'
       rw[p3 l hl,hd];omega
      .exact r3 j c' (by omega) hc' l hl
     .have e3:(n6 != v)=true:=by simpa using hv
      rw[e3,yN]
      refine⟨-1,rfl,.inr ⟨rfl,?_⟩⟩
      obtain⟨c0,hc0⟩:∃c0,(kids t.parents (s:Int))[0]?=some c0:=⟨_,yA (by have:=(yB hi).1;omega)⟩
      have hm0:=yE hc0
      obtain⟨w1,w2,w3,w4⟩:=T.kid_par hm0
      obtain⟨la,hla⟩:=T.some_leaf _ c0 rfl w2
      obtain⟨lb,hlb⟩:=T.some_leaf _ c rfl q2
      refine⟨la,lb,T.leaf_kid hm0 hla,T.leaf_kid hc hlb,λe=>hv ?_⟩
      have a1:=r3 0 c0 (by omega) hc0 la hla
      have a2:=p3 lb hlb
      omega
   .refine⟨-1,by rfl,.inr ⟨rfl,l1,l2,T.leaf_kid hc h1,T.leaf_kid hc h2,hne⟩⟩
  .intro v hI
   rw[UD]
   by_cases h0:(kids t.parents (s:Int)).length=0
   .rw[hI.1 h0]
    refine⟨0,rfl,.inl ⟨by omega,by omega,λl hl=>?_⟩⟩
    rcases T.leaf_cases hl with rfl|⟨c,hc,_⟩
    .omega
    .rw[List.eq_nil_of_length_eq_zero h0]at hc;cases hc
   .obtain⟨r1,r2,r3⟩:=hI.2 (by omega)
    rw[Q5 (by omega)]
    refine⟨v+1,rfl,.inl ⟨by omega,by omega,λl hl=>?_⟩⟩
    rcases T.leaf_cases hl with rfl|⟨c,hc,hlc⟩
    .have:=hl.leaf
     rw[this]at h0;simp at h0
    .obtain⟨j,hj⟩:=List.getElem?_of_mem hc
     rw[r3 j c (yB hj).1 hj l hlc];omega
theorem X04{t:Topo}(T:TreeP t.parents){s:Nat}(hs:s<t.parents.length):∃v,X9 t (s:Int)=some v/\LevP t.parents s v :=
 O0m T _ s _ rfl hs (by have:=T.le;omega)
structure TopoP(t:Topo):Prop where
 tree:TreeP t.parents
 nodes:t.nodes.length<=24
 node:∀x∈t.nodes,0<=x.leaf/\x.leaf<t.parents.length/\kids t.parents x.leaf=[]/\Q0 x.cap=true
 even:∀l1 l2,l1<t.parents.length->l2<t.parents.length->kids t.parents (l1:Int)=[]->kids t.parents (l2:Int)=[]->dep t.parents l1=dep t.parents l2
theorem XP(t:Topo):∃b,Yh t=some b/\(b=true↔TopoP t):=by
 unfold Yh
 by_cases h1:t.parents.length<1
 .exact⟨false,by simp[show((t.parents.length:Int)<1) by omega],Vj λh=>by have:=h.tree.pos;omega⟩
 by_cases h2:24<t.parents.length
 .exact⟨false,by simp[show((24:Int)<t.parents.length) by omega],Vj λh=>by have:=h.tree.le;omega⟩
 by_cases h3:24<t.nodes.length
 .exact⟨false,by simp[show((24:Int)<t.nodes.length) by omega],Vj λh=>by have:=h.nodes;omega⟩
 obtain⟨p0,hp0⟩:∃p0,t.parents[0]?=some p0:=⟨_,yA (by omega)⟩
 have e1:decide ((t.parents.length:Int)<1)=false:=by simp;omega
 have e2:decide ((24:Int)<(t.parents.length:Int))=false:=by simp;omega
 have e3:decide ((24:Int)<(t.nodes.length:Int))=false:=by simp;omega
 rw[e1,e2,e3]
 simp only[Bool.or_self,yM,Bool.false_or,show idx t.parents 0=some p0 from by rw[← hp0];exact Y7 (i:=0),bS]
 by_cases h4:p0=0
 .subst h4
  simp only[bne_self_eq_false,yM]
  have h:=Q0j (bd:=Lm t) (λ(i:Nat) (_:Unit)=>(i:Int)) (n:=t.parents.length)
   (B:=λx _ _ k=>bif match t.parents[x]? with|some e=>decide (e<0)||decide ((x:Int)<=e)|none=>true then some false else k ())
   (kk:=λ_=>rgl (Mm t) (Mz t) t.nodes 0 ()) (λi st k hi=>by
    obtain⟨e,he⟩:∃e,t.parents[i]?=some e:=⟨_,yA hi⟩
    have hlt:(i:Int)<(t.parents.length:Int):=by omega
    simp only[Lm,hlt,decide_true,yN,Y7,he,bS,X06 (n:=i) (by omega)])
   (λi st k hi=>by
    have hlt:¬ (i:Int)<(t.parents.length:Int):=by omega
    simp only[Lm,hlt,decide_false,yM]) 9223372036854775807 1 () (by omega)
  rw[show(1:Int)=((1:Nat):Int) from rfl,h,Mn (p:=λ(x:Nat)=>match t.parents[x]? with|some e=>decide (e<0)||decide ((x:Int)<=e)|none=>true) (λx _ i k=>rfl)]
  cases hany:(List.range' 1 (t.parents.length-1)).any (λ(x:Nat)=>match t.parents[x]? with|some e=>decide (e<0)||decide ((x:Int)<=e)|none=>true)with
  |true =>
   refine⟨false,rfl,Vj λhT=>?_⟩
   obtain⟨x,hx,hq⟩:=List.any_eq_true.1 hany
   obtain⟨j,hj,rfl⟩:=List.mem_range'.1 hx
   obtain⟨e,he⟩:∃e,t.parents[1+1*j]?=some e:=⟨_,yA (by omega)⟩
   have:=hT.tree.par _ (by omega) e he
   rw[he]at hq
   simp at hq
   omega
  |false =>
   have T:TreeP t.parents:=⟨by omega,by omega,hp0,λi hi p hp=>by
    have hlt:i<t.parents.length:=(yB hp).1
    have:=List.any_eq_false.1 hany i (List.mem_range'.2 ⟨i-1,by omega,by omega⟩)
    rw[hp]at this
    simp at this
    omega⟩
   rw[yM]
   have hb:∀x∈t.nodes,∀i k,Mm t x i () k=bif !(decide (0<=x.leaf)&&decide (x.leaf<t.parents.length)&&(kids t.parents x.leaf).isEmpty&&Q0 x.cap)then some false else k ():=by
    intro x _ i k
    unfold Mm
    by_cases q1:x.leaf<0
    .simp[q1,show ¬ 0<=x.leaf by omega]
    .by_cases q2:(t.parents.length:Int)<=x.leaf
     .simp[q1,q2,show ¬ x.leaf<t.parents.length by omega]
     .rw[show decide (x.leaf<0)=false by simpa using q1,show decide ((t.parents.length:Int)<=x.leaf)=false by simpa using q2]
      simp only[Bool.or_self,yM,Bool.false_or,Wm t x.leaf (by omega),bS,List.length_map]
      rw[show decide (0<=x.leaf)=true by simpa using q1,show decide (x.leaf<(t.parents.length:Int))=true by simpa using q2]
      cases hk:kids t.parents x.leaf with
      |nil=>simp
      |cons a l=>simp
   rw[Mn hb]
   cases hany2:t.nodes.any (λx=>!(decide (0<=x.leaf)&&decide (x.leaf<t.parents.length)&&(kids t.parents x.leaf).isEmpty&&Q0 x.cap))with
   |true =>
    refine⟨false,rfl,Vj λhT=>?_⟩
    obtain⟨x,hx,hq⟩:=List.any_eq_true.1 hany2
    obtain⟨a1,a2,a3,a4⟩:=hT.node x hx
    simp[a1,a2,a3,a4]at hq
   |false =>
    obtain⟨v,hv,hl⟩:=X04 T (s:=0) (by omega)
    rw[yM,Mz,show(0:Int)=((0:Nat):Int) from rfl,hv,bS]
    have mem:∀l,l<t.parents.length->kids t.parents (l:Int)=[]->LeafP t.parents 0 l:=λl h1 h2=>⟨h1,h2,T.zero_up l h1⟩
    refine⟨_,rfl,?_⟩
    rw[decide_eq_true_iff]
    constructor
    .intro h0
     refine⟨T,by omega,λx hx=>?_,λl1 l2 a1 a2 a3 a4=>?_⟩
     .have:=List.any_eq_false.1 hany2 x hx
      simpa[and_assoc]using this
     .rcases hl with⟨_,_,hl⟩|⟨rfl,_⟩
      .have:=hl l1 (mem l1 a1 a3)
       have:=hl l2 (mem l2 a2 a4)
       omega
      .simp at h0
    .intro hT
     rcases hl with⟨h0,_⟩|⟨rfl,l1,l2,a1,a2,hne⟩
     .exact h0
     .exact absurd (hT.even l1 l2 a1.lt a2.lt a1.leaf a2.leaf) hne
 .refine⟨false,by rw[show(p0 != 0)=true by simpa using h4];rfl,Vj λh=>h4 ?_⟩
  have:=h.tree.root
  rw[hp0]at this;exact Option.some.inj this
theorem O0g(P:List Int)(s:Int)(hl:P.length<=1048576):OE P s=some (kids P s).isEmpty:=by
 unfold OE
 have h:=Q0j (bd:=Vo P s) (λ(i:Nat) (_:Unit)=>(i:Int)) (n:=P.length)
  (B:=λx _ _ k=>bif P[x]?==some s then some false else k ()) (kk:=λ_=>some true) (λi st k hi=>by
   obtain⟨e,he⟩:∃e,P[i]?=some e:=⟨_,yA hi⟩
   have hlt:(i:Int)<(P.length:Int):=by omega
   simp only[Vo,hlt,decide_true,yN,Y7,he,bS,X06 (n:=i) (by omega)]
   rw[show(some e==some s)=(e==s) from rfl])
  (λi st k hi=>by
   have hlt:¬ (i:Int)<(P.length:Int):=by omega
   simp only[Vo,hlt,decide_false,yM]) 9223372036854775807 1 () (by omega)
 refine h.trans ?_
 rw[Mn (p:=λ(x:Nat)=>P[x]?==some s) (λx _ i k=>rfl)]
 unfold kids
 generalize List.range' 1 (P.length-1)=l
 induction l with
 |nil=>rfl
 |cons x l ih =>
  rw[List.any_cons,List.filter_cons]
  cases h:(P[x]?==some s)with
  |true=>simp
  |false=>simpa using ih
theorem L01{P:List Int}(T:TreeP P){s:Nat}(hs:s<P.length):LE P (s:Int)=some (dep P s:Int):=by
 unfold LE
 refine QO (λ_ r=>r=some (dep P s:Int)) (λb=>b.1.toNat) (λb=>∃m:Nat,b.1=(m:Int)/\m<P.length/\b.2+(dep P m:Int)=(dep P s:Int)/\0<=b.2) ?_ 9223372036854775807 _ ⟨s,rfl,hs,by simp,by simp⟩ (by have:=T.le;simp only;omega)
 rintro⟨x,n⟩ k ⟨m,hm,h1,h2,h3⟩ hk
 simp only at hm h2 hk h3
 subst hm
 have hle:=T.le
 have hdl:=O1E P s
 unfold QW
 by_cases h0:0<m
 .have hp:=T.par_lt (i:=m) (by omega) h1
  have hlt:(0:Int)<(m:Int):=by omega
  simp only[hlt,decide_true,yN,Y7,hp.2,bS]
  have hd:=T.dep_succ (i:=m) (by omega) h1
  rw[Q5 (by omega)]
  refine hk _ ⟨_,rfl,by omega,by simp only;omega,by simp only;omega⟩ (by simp only;omega)
 .have:m=0:=by omega
  subst this
  rw[W1K]at h2
  simp only[Int.natCast_zero,Int.lt_irrefl,decide_false,yM]
  congr 1
  omega
theorem X0Q(t:Topo):∃b,Wo t=some b/\(b=true↔TopoP t):=by
 unfold Wo
 cases hw:U0 (t.parents.length:Int) 1 24 with
 |false =>
  refine⟨false,by simp,Vj λh=>?_⟩
  have:=h.tree.pos;have:=h.tree.le
  simp[U0]at hw
  omega
 |true =>
 have hw':1<=t.parents.length/\t.parents.length<=24:=by simp[U0]at hw;omega
 obtain⟨p0,hp0⟩:∃p0,t.parents[0]?=some p0:=⟨_,yA (by omega)⟩
 simp only[yL,yM,Bool.false_or,show idx t.parents 0=some p0 from by rw[← hp0];exact Y7 (i:=0),bS]
 by_cases h4:p0=0
 rotate_left
 .refine⟨false,by rw[show(p0 != 0)=true by simpa using h4];rfl,Vj λh=>h4 ?_⟩
  have:=h.tree.root
  rw[hp0]at this;exact Option.some.inj this
 subst h4
 by_cases h3:24<t.nodes.length
 .exact⟨false,by simp[show((24:Int)<t.nodes.length) by omega],Vj λh=>by have:=h.nodes;omega⟩
 have e3:decide ((24:Int)<(t.nodes.length:Int))=false:=by simp;omega
 rw[e3]
 simp only[bne_self_eq_false,Bool.or_self,yM]
 have h:=Q0j (bd:=Qo t) (λ(i:Nat) (_:Unit)=>(i:Int)) (n:=t.parents.length)
  (B:=λx _ _ k=>bif match t.parents[x]? with|some e=>!(U0 e 0 (w64 ((x:Int)-1)))|none=>true then some false else k ())
  (kk:=λ_=>rgl (MB t) (WB t) t.parents 0 (-1)) (λi st k hi=>by
   obtain⟨e,he⟩:∃e,t.parents[i]?=some e:=⟨_,yA hi⟩
   have hlt:(i:Int)<(t.parents.length:Int):=by omega
   simp only[Qo,hlt,decide_true,yN,Y7,he,bS,X06 (n:=i) (by omega)])
  (λi st k hi=>by
   have hlt:¬ (i:Int)<(t.parents.length:Int):=by omega
   simp only[Qo,hlt,decide_false,yM]) 9223372036854775807 1 () (by omega)
 rw[show(1:Int)=((1:Nat):Int) from rfl,h,Mn (p:=λ(x:Nat)=>match t.parents[x]? with|some e=>!(U0 e 0 (w64 ((x:Int)-1)))|none=>true) (λx _ i k=>rfl)]
 cases hany:(List.range' 1 (t.parents.length-1)).any (λ(x:Nat)=>match t.parents[x]? with|some e=>!(U0 e 0 (w64 ((x:Int)-1)))|none=>true)with
 |true =>
  refine⟨false,rfl,Vj λhT=>?_⟩
  obtain⟨x,hx,hq⟩:=List.any_eq_true.1 hany
  obtain⟨j,hj,rfl⟩:=List.mem_range'.1 hx
  obtain⟨e,he⟩:∃e,t.parents[1+1*j]?=some e:=⟨_,yA (by omega)⟩
  have:=hT.tree.par _ (by omega) e he
  rw[he]at hq
  simp only at hq
  rw[Q5 (by omega)]at hq
  simp[U0]at hq
  omega
 |false =>
  have T:TreeP t.parents:=⟨by omega,by omega,hp0,λi hi p hp=>by
   have hlt:i<t.parents.length:=(yB hp).1
   have:=List.any_eq_false.1 hany i (List.mem_range'.2 ⟨i-1,by omega,by omega⟩)
   rw[hp]at this
   simp only at this
   rw[Q5 (by omega)]at this
   simp[U0]at this
   omega⟩
  rw[yM]
  refine X7 (λi (v:Int)=>(v = -1/\∀l,l<i->kids t.parents (l:Int)≠[])\/(0<=v/\(∃l,l<i/\kids t.parents (l:Int)=[])/\∀l,l<i->kids t.parents (l:Int)=[]->(dep t.parents l:Int)=v))
   (λr=>∃b,r=some b/\(b=true↔TopoP t)) ?_ ?_ (.inl ⟨rfl,λl hl=>by omega⟩)
  .intro i x v k hi hI hk
   have hil:i<t.parents.length:=(yB hi).1
   rw[MB,O0g _ _ (by omega),bS]
   cases hkd:kids t.parents (i:Int)with
   |cons a l =>
    simp only[List.isEmpty_cons,Bool.not_false,yN]
    refine hk v ?_
    rcases hI with⟨q1,q2⟩|⟨q1,⟨l0,q2,q3⟩,q4⟩
    .refine .inl ⟨q1,λl hl=>?_⟩
     by_cases e:l=i
     .subst e;rw[hkd];simp
     .exact q2 l (by omega)
    .refine .inr ⟨q1,⟨l0,by omega,q3⟩,λl hl hl2=>?_⟩
     by_cases e:l=i
     .subst e;rw[hkd]at hl2;cases hl2
     .exact q4 l (by omega) hl2
   |nil =>
    simp only[List.isEmpty_nil,yL,yM,L01 T hil,bS]
    have hnew:∀v',(∀l,l<i->kids t.parents (l:Int)=[]->(dep t.parents l:Int)=dep t.parents i)->v'=(dep t.parents i:Int)->(v' = -1/\∀l,l<i+1->kids t.parents (l:Int)≠[])\/(0<=v'/\(∃l,l<i+1/\kids t.parents (l:Int)=[])/\∀l,l<i+1->kids t.parents (l:Int)=[]->(dep t.parents l:Int)=v'):=by
     intro v' hq e
     subst e
     refine .inr ⟨by omega,⟨i,by omega,hkd⟩,λl hl hl2=>?_⟩
     by_cases e:l=i
     .subst e;rfl
     .exact hq l (by omega) hl2
    rcases hI with⟨rfl,q2⟩|⟨q1,⟨l0,q2,q3⟩,q4⟩
    .simp only[show decide ((0:Int)<=-1)=false from rfl,Bool.false_and,yM]
     exact hk _ (hnew _ (λl hl hl2=>absurd hl2 (q2 l hl)) rfl)
    .by_cases he:(dep t.parents i:Int)=v
     .rw[he]
      simp only[bne_self_eq_false,Bool.and_false,yM]
      exact hk _ (hnew _ (λl hl hl2=>by rw[q4 l hl hl2,he]) he.symm)
     .have e1:((dep t.parents i:Int)!=v)=true:=by simpa using he
      rw[e1,show decide (0<=v)=true by simpa using q1]
      refine⟨false,rfl,Vj λhT=>he ?_⟩
      rw[← q4 l0 q2 q3]
      exact_mod_cast hT.even i l0 hil (by omega) hkd q3
  .intro v hI
   rw[WB]
   have hb:∀x∈t.nodes,∀i k,OB t x i () k=bif !(decide (0<=x.leaf)&&decide (x.leaf<t.parents.length)&&(kids t.parents x.leaf).isEmpty&&Q0 x.cap)then some false else k ():=by
    intro x _ i k
    unfold OB
    rw[Q5 (by omega)]
    by_cases q1:x.leaf<0
    .simp[U0,show ¬ 0<=x.leaf by omega]
    .by_cases q2:(t.parents.length:Int)<=x.leaf
     .simp[U0,show ¬ x.leaf<t.parents.length by omega,show ¬ x.leaf<=(t.parents.length:Int)-1 by omega]
     .have e:U0 x.leaf 0 ((t.parents.length:Int)-1)=true:=by simp[U0];omega
      rw[e]
      simp only[yL,yM,Bool.false_or,O0g t.parents x.leaf (by omega),bS,Mq]
      rw[show decide (0<=x.leaf)=true by simpa using q1,show decide (x.leaf<(t.parents.length:Int))=true by simpa using q2]
      cases(kids t.parents x.leaf).isEmpty<;>cases Q0 x.cap<;>rfl
   rw[Mn hb]
   cases hany2:t.nodes.any (λx=>!(decide (0<=x.leaf)&&decide (x.leaf<t.parents.length)&&(kids t.parents x.leaf).isEmpty&&Q0 x.cap))with
   |true =>
    refine⟨false,rfl,Vj λhT=>?_⟩
    obtain⟨x,hx,hq⟩:=List.any_eq_true.1 hany2
    obtain⟨a1,a2,a3,a4⟩:=hT.node x hx
    simp[a1,a2,a3,a4]at hq
   |false =>
    refine⟨true,rfl,⟨λ_=>⟨T,by omega,λx hx=>?_,λl1 l2 a1 a2 a3 a4=>?_⟩,λ_=>rfl⟩⟩
    .have:=List.any_eq_false.1 hany2 x hx
     simpa[and_assoc]using this
    .rcases hI with⟨_,q2⟩|⟨q1,_,q4⟩
     .exact absurd a3 (q2 l1 a1)
     .have:=q4 l1 a1 a3
      have:=q4 l2 a2 a4
      omega
theorem OW(t:Topo):Wo t=Yh t:=by
 obtain⟨a,h1,h2⟩:=X0Q t
 obtain⟨b,h3,h4⟩:=XP t
 rw[h1,h3]
 congr 1
 exact Bool.eq_iff_iff.2 (h2.trans h4.symm)
noncomputable def topoOk(t:Topo):Bool:=(Yh t).getD false
theorem Qs(t:Topo):Yh t=some (topoOk t):=by
 obtain⟨b,h3,_⟩:=XP t
 rw[topoOk,h3];rfl
theorem QC{t:Topo}:topoOk t=true↔TopoP t:=by
 obtain⟨b,h3,h4⟩:=XP t
 rw[topoOk,h3];exact h4
theorem TopoP.last{t:Topo}(h:TopoP t):kids t.parents ((t.parents.length-1:Nat):Int)=[]:=by
 cases hk:kids t.parents ((t.parents.length-1:Nat):Int)with
 |nil=>rfl
 |cons c l =>
  obtain⟨q1,q2,q3,q4⟩:=h.tree.kid_par (s:=t.parents.length-1) (c:=c) (by rw[hk];exact yJ ..)
  omega
def lev(t:Topo)(s:Nat):Int:=(dep t.parents (t.parents.length-1):Int)-dep t.parents s
theorem Yg{t:Topo}(h:TopoP t){s:Nat}(hs:s<t.parents.length):X9 t (s:Int)=some (lev t s):=by
 obtain⟨v,h1,h2⟩:=X04 h.tree hs
 rw[h1]
 have hp:=h.tree.pos
 obtain⟨l,hl⟩:=h.tree.some_leaf _ s rfl hs
 rcases h2 with⟨_,_,h2⟩|⟨_,l1,l2,a1,a2,hne⟩
 .have e1:=h2 l hl
  have e2:=h.even l (t.parents.length-1) hl.lt (by omega) hl.leaf h.last
  unfold lev
  congr 1
  omega
 .exact absurd (h.even l1 l2 a1.lt a2.lt a1.leaf a2.leaf) hne
theorem XB{t:Topo}(h:TopoP t){s:Nat}(hs:s<t.parents.length):Yx t (s:Int)=some (lev t s):=by
 have hp:=h.tree.pos
 have hle:=h.tree.le
 unfold Yx O01
 rw[Q5 (by omega),show((t.parents.length:Int)-1)=((t.parents.length-1:Nat):Int) by omega,L01 h.tree (by omega),bS,bS,L01 h.tree hs,bS]
 have:=O1E t.parents (t.parents.length-1)
 have:=O1E t.parents s
 rw[Q5 (by omega)];rfl
theorem M12{t:Topo}(T:TreeP t.parents){s:Nat}(hs:s<t.parents.length):Lw t (s:Int)=some ((ups t.parents s).map λ(i:Nat)=>(i:Int)):=by
 unfold Lw
 refine QO (λ_ r=>r=some ((ups t.parents s).map λ(i:Nat)=>(i:Int))) (λb=>b.1.toNat) (λb=>∃m:Nat,b.1=(m:Int)/\m<t.parents.length/\b.2.length+m<=1000/\∃l,b.2=l++[(m:Int)]/\(ups t.parents s).map (λ(i:Nat)=>(i:Int))=l++(ups t.parents m).map λ(i:Nat)=>(i:Int)) ?_ 9223372036854775807 _ ⟨s,rfl,hs,by have:=T.le;simp;omega,[],by simp⟩ (by have:=T.le;simp only;omega)
 rintro⟨x,n⟩ k ⟨m,hm,h1,h2,l,h3,h4⟩ hk
 simp only at hm h2 hk h3
 subst hm
 have hle:=T.le
 unfold YV
 by_cases h0:0<m
 .have hp:=T.par_lt (i:=m) (by omega) h1
  have hlt:(0:Int)<(m:Int):=by omega
  simp only[hlt,decide_true,yN,Y7,hp.2,bS]
  rw[O0 (by simp;omega),bS]
  refine hk _ ⟨_,rfl,by omega,by simp;omega,n,rfl,?_⟩ (by simp only;omega)
  rw[h4,h3,T.ups_succ (by omega) h1]
  simp
 .have:m=0:=by omega
  subst this
  simp only[Int.natCast_zero,Int.lt_irrefl,decide_false,yM]
  rw[h4,h3,Z12];rfl
theorem U0p(t:Topo)(s:Int):YZ t s=Lw t s:=rfl
theorem U7(l:List Int)(n:Int):J8 l n=some (l.contains n):=by
 unfold J8
 rw[Mn (p:=λx=>x==n) (λx _ i k=>rfl)]
 unfold ZP
 rw[show l.contains n=l.any (λx=>x==n) from by rw[List.contains_eq_any_beq];congr 1;funext x;exact Bool.beq_comm]
 cases l.any λx=>x==n<;>rfl
theorem W0K(l:List Int)(n:Int):∃r:Int,Ub l n=some r/\decide (0<=r)=l.contains n:=by
 unfold Ub
 refine X7 (λi (_:Unit)=>∀j x,j<i->l[j]?=some x->x≠n) (λr=>∃m:Int,r=some m/\decide (0<=m)=l.contains n) ?_ ?_ (λj x h=>by omega)
 .intro i x b k hi hI hk
  unfold Li
  by_cases h:n=x
  .subst h
   simp only[beq_self_eq_true,yN]
   refine⟨i,rfl,?_⟩
   have:l.contains n=true:=List.contains_iff_mem.2 (yE hi)
   rw[this];simp
  .rw[show(n==x)=false by simpa using h,yM]
   refine hk () λj y hj hy=>?_
   by_cases e:j=i
   .subst e;rw[hi]at hy;cases hy;exact λe=>h e.symm
   .exact hI j y (by omega) hy
 .intro b hI
  refine⟨-1,rfl,?_⟩
  have:l.contains n=false:=by
   rw[Bool.eq_false_iff]
   intro h
   obtain⟨j,hj⟩:=List.getElem?_of_mem (List.contains_iff_mem.1 h)
   exact hI j n (yB hj).1 hj rfl
  rw[this];rfl
theorem Og(l:List Int)(n:Int):X3 l n=some (l.contains n):=by
 obtain⟨r,h1,h2⟩:=W0K l n
 unfold X3
 rw[h1,bS,h2]
noncomputable def U4(t:Topo)(l:List Int):Bool:=l.all (λn=>decide (0<=n)&&decide (n<t.nodes.length))&&topoOk t
theorem Q3{t:Topo}{l:List Int}:U4 t l=true↔TopoP t/\∀n∈l,0<=n/\n<t.nodes.length:=by
 simp[U4,QC,and_comm]
theorem Mu(t:Topo)(l:List Int):Zg t l=some (U4 t l):=by
 unfold Zg U4
 rw[Mn (r:=some false) (p:=λ(x:Int)=>!(decide (0<=x)&&decide (x<t.nodes.length))) (λx _ i k=>by
  unfold Zq
  by_cases h1:x<0
  .simp[h1,show ¬ 0<=x by omega]
  .by_cases h2:(t.nodes.length:Int)<=x
   .simp[h1,h2,show 0<=x by omega,show ¬ x<t.nodes.length by omega]
   .simp[h1,h2,show 0<=x by omega,show x<t.nodes.length by omega])]
 unfold Jp
 rw[Qs,← List.not_all_eq_any_not]
 cases l.all λn=>decide (0<=n)&&decide (n<t.nodes.length)<;>rfl
theorem L04(t:Topo)(l:List Int)(hl:t.nodes.length<=1048576):Oq t l=some (U4 t l):=by
 rw[← Mu]
 unfold Oq Zg
 refine Q0n (λi x b k _=>?_) λb=>?_
 .unfold XF Zq
  rw[Q5 (by omega)]
  by_cases h1:x<0
  .simp[U0,h1,show ¬ 0<=x by omega]
  .by_cases h2:(t.nodes.length:Int)<=x
   .simp[U0,h1,h2,show 0<=x by omega,show ¬ x<=(t.nodes.length:Int)-1 by omega]
   .simp[U0,h1,h2,show 0<=x by omega,show x<=(t.nodes.length:Int)-1 by omega]
 .unfold YF Jp
  rw[OW]
def hasUp(t:Topo)(n:Int)(s:Nat):Bool:=match idx t.nodes n with
 |some e=>((ups t.parents e.leaf.toNat).map λ(i:Nat)=>(i:Int)).contains (s:Int)
 |none=>false
theorem ZJ{t:Topo}{l:List Int}(h:U4 t l=true){n:Int}(hn:n∈l):∃(e:Node) (m:Nat),idx t.nodes n=some e/\e.leaf=m/\m<t.parents.length:=by
 obtain⟨h1,h2⟩:=Q3.1 h
 obtain⟨e,q1,q2⟩:=Mb (l:=t.nodes) (i:=n) (h2 n hn).1 (h2 n hn).2
 obtain⟨a1,a2,_,_⟩:=h1.node e (yE q2)
 exact⟨e,e.leaf.toNat,q1,by omega,by omega⟩
theorem V19{t:Topo}{l:List Int}(h:U4 t l=true){n:Int}(hn:n∈l)(s:Nat){γ:Type}(f:Bool->Option γ) :
  ((idx t.nodes n).bind λe=>(Lw t e.leaf).bind λy=>(J8 y (s:Int)).bind f)=f (hasUp t n s):=by
 obtain⟨e,m,q1,q2,q3⟩:=ZJ h hn
 have T:=(Q3.1 h).1.tree
 unfold hasUp
 rw[q1,bS,q2,M12 T q3,bS,U7,bS]
 simp[q2]
theorem U1u{t:Topo}{l:List Int}(h:U4 t l=true){n:Int}(hn:n∈l):hasUp t n 0=true:=by
 obtain⟨e,m,q1,q2,q3⟩:=ZJ h hn
 have T:=(Q3.1 h).1.tree
 unfold hasUp
 rw[q1]
 simp only[List.contains_iff_mem,q2]
 exact List.mem_map.2 ⟨0,T.zero_up _ (by simpa using q3),rfl⟩
theorem U1a(p:Int->Bool):∀(l:List Int) (v:Bool),l.foldl (λv x=>v&&p x) v=(v&&l.all p)
 |[],v=>by simp
 |x::l,v=>by rw[List.foldl_cons,U1a p l,List.all_cons,Bool.and_assoc]
theorem Y1H{t:Topo}{l:List Int}(h:U4 t l=true)(s:Nat)(v5:Int)(k:Int->Option Int) :
  rgl (Qn t s) (Wi t v5 s k) l 0 true=Wi t v5 s k (l.all λn=>hasUp t n s) /\
  rgl (Mo t s) (Yj t v5 s k) l 0 true=Yj t v5 s k (l.all λn=>hasUp t n s):=by
 constructor
 .rw[LI (f:=λv x=>v&&hasUp t x s) (λx hx i b k=>by
   unfold Qn
   rw[V19 h hx s (λb10=>bif !b10 then k false else k b)]
   cases hasUp t x s<;>simp),U1a,Bool.true_and]
 .rw[LI (f:=λv x=>v&&hasUp t x s) (λx hx i b k=>by
   unfold Mo
   cases b with
   |false=>simp only[yM,Bool.false_and];rfl
   |true =>
    simp only[yN,Bool.true_and]
    rw[← V19 h hx s k]
    congr 1;funext e;rw[U0p];congr 1;funext y;rw[Og,U7]),U1a,Bool.true_and]
theorem W1l{t:Topo}{l:List Int}(h:U4 t l=true)(hne:l≠[]):∃s:Nat,s<t.parents.length/\Jv t l=some (s:Int)/\WF t l=some (s:Int):=by
 have hT:=(Q3.1 h).1
 have hnl:=hT.nodes
 have hpos:=hT.tree.pos
 have e1:((l.length:Int)==0)=false:=by
  cases l with
  |nil=>exact absurd rfl hne
  |cons a l=>simp;omega
 have step:∀(i:Nat) (b:Int) (k:Int->Option Int),i<t.parents.length->(b = -1\/∃s:Nat,b=s/\s<t.parents.length) ->
   rgl (Qn t i) (Wi t b i k) l 0 true=k (bif (l.all λn=>hasUp t n i)&&(decide (b<0)||decide (lev t i<=lev t b.toNat))then(i:Int)else b) /\
   rgl (Mo t i) (Yj t b i k) l 0 true=k (bif (l.all λn=>hasUp t n i)&&(decide (b<0)||decide (lev t i<=lev t b.toNat))then(i:Int)else b):=by
  intro i b k hi hb
  obtain⟨q1,q2⟩:=Y1H h i b k
  rw[q1,q2]
  unfold Wi Yj
  cases hall:l.all λn=>hasUp t n i with
  |false=>exact⟨rfl,rfl⟩
  |true =>
   rcases hb with rfl|⟨s,rfl,hs⟩
   .exact⟨rfl,rfl⟩
   .have hn:decide ((s:Int)<0)=false:=by simp
    simp only[hn,yN,yM,Bool.true_and,Bool.false_or,Yg hT hi,Yg hT hs,XB hT hi,XB hT hs,bS,yZ]
    cases decide (lev t i<=lev t s)<;>exact⟨rfl,rfl⟩
 have fin:∀(bd:Int->Nat->Int->(Int->Option Int)->Option Int) (kk:Int->Option Int),kk=some->(∀(x:Int) (i:Nat) (b:Int) (k:Int->Option Int),i<t.parents.length->(b = -1\/∃s:Nat,b=s/\s<t.parents.length)->bd x i b k=k (bif (l.all λn=>hasUp t n i)&&(decide (b<0)||decide (lev t i<=lev t b.toNat))then(i:Int)else b)) ->
   ∃s:Nat,s<t.parents.length/\rgl bd kk t.parents 0 (-1)=some (s:Int):=by
  intro bd kk hkk hbd
  refine X7 (λi (b:Int)=>(i=0/\b = -1)\/(0<i/\∃s:Nat,b=s/\s<t.parents.length)) (λr=>∃s:Nat,s<t.parents.length/\r=some (s:Int)) ?_ ?_ (.inl ⟨rfl,rfl⟩)
  .intro i x b k hi hI hk
   have hil:=(yB hi).1
   rw[hbd x i b k hil (by rcases hI with h|h;exact .inl h.2;exact .inr h.2)]
   refine hk _ (.inr ⟨by omega,?_⟩)
   rcases hI with⟨rfl,rfl⟩|⟨_,s,rfl,hs⟩
   .rw[show(l.all λn=>hasUp t n 0)=true from List.all_eq_true.2 λn hn=>U1u h hn]
    exact⟨0,rfl,hpos⟩
   .cases((l.all λn=>hasUp t n i)&&(decide ((s:Int)<0)||decide (lev t i<=lev t (s:Int).toNat)))with
    |true=>exact⟨i,rfl,hil⟩
    |false=>exact⟨s,rfl,hs⟩
  .intro b hI
   rcases hI with⟨h0,_⟩|⟨_,s,rfl,hs⟩
   .omega
   .exact⟨s,hs,by rw[hkk]⟩
 have eq:rgl (JB t l) JR t.parents 0 (-1)=rgl (Oi t l) YA t.parents 0 (-1):=by
  refine V0L (λi (b c:Int)=>b=c/\(b = -1\/∃s:Nat,b=s/\s<t.parents.length)) rfl (λi x y b c k k2 hx hy hr hk=>?_) (λb c hr=>by rw[hr.1];rfl) ⟨rfl,.inl rfl⟩
  obtain⟨rfl,hb⟩:=hr
  have hil:=(yB hx).1
  unfold JB Oi
  rw[(step i b k hil hb).2,(step i b k2 hil hb).1]
  refine hk _ _ ⟨rfl,?_⟩
  cases((l.all λn=>hasUp t n i)&&(decide (b<0)||decide (lev t i<=lev t b.toNat)))with
  |true=>exact .inr ⟨i,rfl,hil⟩
  |false=>exact hb
 obtain⟨s,h1,h2⟩:=fin (Oi t l) YA rfl λx i b k hi hb=>by unfold Oi;exact(step i b k hi hb).1
 refine⟨s,h1,?_,?_⟩
 .unfold Jv
  rw[Mu,h,bS,e1]
  exact h2
 .unfold WF
  rw[L04 t l (by omega),h,bS,e1]
  exact eq.trans h2
noncomputable def Q0V:L :=
 lf Tryz.prog Q0r [] [] [] [] [(6,38)] [] []
def MP(p1:List Pt)(x5:Pt)(i5:Nat)(_:Unit)(k5:Unit->Option Bool):Option Bool :=
 (bif (!(M3 x5.t))||(!(Q0 x5.free))then some default else(bif decide (0<(i5:Int))then(idx p1 (w64 ((i5:Int)-1)))else some default)).bind λe6=>(bif (!(M3 x5.t))||(!(Q0 x5.free))then some default else(bif decide (0<(i5:Int))then(bif decide (x5.t<=e6.t)then some default else(idx p1 (w64 ((i5:Int)-1))))else some default)).bind λe7=>bif ((!(M3 x5.t))||(!(Q0 x5.free)))||(decide (0<(i5:Int))&&(decide (x5.t<=e6.t)||(e7.free.a==x5.free.a&&(e7.free.b==x5.free.b&&(e7.free.c==x5.free.c&&true)))))then(some false)else(k5 ())
def Q07(_:Unit):Option Bool :=
 some true
def Ja(p1:List Pt):Option Bool :=
 (bif decide ((p1.length:Int)<1)||decide (200<(p1.length:Int))then some default else(idx p1 0)).bind λe2=>bif (decide ((p1.length:Int)<1)||decide (200<(p1.length:Int)))||(e2.t != 0)then(some false)else(rgl (MP p1) Q07 p1 0 ())
theorem JG{p1:List Pt}{r:Bool}(H:Ja p1=some r):Snd Tryz.prog Q0r [.agg [rV 4 (p1.map ePt)]] (.bool r) []:=by
 refine wS Q0V [.t 2] ?_
 unfold Ja at H
 obtain⟨e2,h2,H⟩:=bB H
 refine wG [.u 7 (.ln _ _ λ_=>lm p1 ePt),.g 12 [((decide ((p1.length:Int)<1)),false)] (.ln _ _ λ_=>lm p1 ePt),.g 18 [(_,false)] (.ix _ _ _ λq=>W0 ePt (bF q.1 h2))] λq3=>?_
 refine M0 H ?_ ?_<;>intro H
 .obtain rfl:=sI H
  exact wP (wE [(2,.d)])
 .refine wG [.u 25 (.ln _ _ λ_=>lm p1 ePt)] λq4=>?_
  refine wR (λ(i5:Nat) (v5:Unit)=>⟨[(1,.ptr 1 0),(24,rV 4 (p1.map ePt)),(25,iV (p1.length:Int)),(26,iV (i5:Int))],[],[(1,[rV 4 (p1.map ePt)])],[]⟩) H (λi5 x5 v5 I m k5 hxv5 hiv5 H N27=>?_) (λv5 I m H=>?_)
  .unfold MP at H
   refine wP (wt (ltT hiv5) ?_)
   obtain⟨e6,h6,e7,h7,H⟩:=bB2 H
   refine wH [.u 29 (.ix _ _ _ λ_=>W0 ePt (Y1 hxv5)),.c 33 (W7 x5.t),.g 38 [((!(M3 x5.t)),false)] (.call _ _ _ _ _ (AEs.refl _) (λ_=>Y5 x5.free)),.g 49 [(_,true),(_,false)] (.ix _ _ _ λq=>W0 ePt (bT q.1 (bF q.2.1 h6))),.g 60 [(_,false),(_,true),(_,false)] (.ix _ _ _ λq=>W0 ePt (bF q.1 (bT q.2.1 (bF q.2.2.1 h7))))] ?_
   refine M0 H ?_ ?_<;>intro H
   .obtain rfl:=sI H
    exact wP (wE [(2,.d)])
   .exact wH [.w 69 (wi .i64 rfl hiv5 q3.1)] (wT (N27 () H))
  .unfold Q07 at H
   refine wP (wf (ltF p1.length) ?_)
   obtain rfl:=sI H
   exact wP (wE [(2,.d)])
noncomputable def M0O:L :=
 lf Tryz.prog VX [10] [] [] [] [] [] []
def ZH(v1:Vec):Option ((List Pt)×Bool) :=
 bif !(Q0 v1)then(some ([],false))else(some ([(Pt.mk 0 v1)],true))
theorem Y0u{v1:Vec}{r:(List Pt)×Bool}(H:ZH v1=some r):Snd Tryz.prog VX [eVec v1] (.tup [J1 .nw r.1,.bool r.2]) []:=by
 refine wS M0O [.c 2 1 true,.t 3] ?_
 unfold ZH at H
 refine wH [.c 5 (Y5 v1)] ?_
 refine M0 H ?_ ?_<;>intro H
 .refine wP ?_
  replace H:=sI H;subst H
  exact wN [(2,.d),(3,.d)] [(2,[.n 4])] [] [] [] [⟨_,Wl ([]:List Pt)⟩]
 .refine wP ?_
  replace H:=sI H;subst H
  exact wN [(2,.d),(3,.d)] [(2,[.f])] [] [10] [] [⟨_,Wl [(Pt.mk 0 v1)]⟩]
def Z5(v1:Vec):(List Pt)×Bool :=
 bif !(Q0 v1)then(([],false))else(([(Pt.mk 0 v1)],true))
theorem V0T(v1:Vec):ZH v1=some (Z5 v1):=by
 unfold ZH Z5
 first|rfl|simp only[O5]
theorem O07(v1:Vec):Snd Tryz.prog VX [eVec v1] (.tup [J1 .nw ((Z5 v1).1),.bool ((Z5 v1).2)]) []:=Y0u (V0T v1)
noncomputable def O16:L :=
 lf Tryz.prog J0z [] [] [] [] [] [] []
def ZV(t2:Int)(x4:Pt)(_:Nat)(v4:Vec)(k4:Vec->Option Vec):Option Vec :=
 bif decide (x4.t<=t2)then(k4 x4.free)else(k4 v4)
def L0f(v4:Vec):Option Vec :=
 some v4
def UO(p1:List Pt)(t2:Int):Option Vec :=
 rgl (ZV t2) L0f p1 0 (Vec.mk 0 0 0)
theorem U0m{p1:List Pt}{t2:Int}{r:Vec}(H:UO p1 t2=some r):Snd Tryz.prog J0z [.agg [rV 4 (p1.map ePt)],iV t2] (eVec r) []:=by
 refine wS O16 [.c 4 3 true] ?_
 unfold UO at H
 refine wG [.u 11 (.ln _ _ λ_=>lm p1 ePt)] λq3=>?_
 refine wR (λ(i4:Nat) (v4:Vec)=>⟨[(1,iV t2),(4,.ptr 4 0),(5,.ptr 5 0),(10,rV 4 (p1.map ePt)),(11,iV (p1.length:Int)),(12,iV (i4:Int))],[],[(4,(eVec (Vec.mk 0 0 0)).cells),(5,(eVec v4).cells)],[]⟩) H (λi4 x4 v4 I m k4 hxv4 hiv4 H N19=>?_) (λv4 I m H=>?_)
 .unfold ZV at H
  refine wP (wt (ltT hiv4) ?_)
  refine wH [.u 14 (.ix _ _ _ λ_=>W0 ePt (Y1 hxv4))] ?_
  refine M0 H ?_ ?_<;>intro H
  .exact wH [.w 22 (wi .i64 rfl hiv4 q3.1)] (wT (N19 _ H))
  .exact wH [.w 22 (wi .i64 rfl hiv4 q3.1)] (wT (N19 _ H))
 .unfold L0f at H
  refine wP (wf (ltF p1.length) ?_)
  refine wP ?_
  replace H:=sI H;subst H
  exact wN [(4,.d)] [(4,[])] [] [] [] []
noncomputable def L0O:L :=
 lf Tryz.prog J0i [] [] [] [] [] [] []
def JK(from2 to3:Int)(x7:Pt)(_:Nat)(v7:Vec)(k7:Vec->Option (Vec×Bool)):Option (Vec×Bool) :=
 bif decide (from2<=x7.t)&&decide (x7.t<to3)then(k7 (W1 v7 x7.free))else(k7 v7)
def W04(v7:Vec):Option (Vec×Bool) :=
 some (v7,true)
def Vn(p1:List Pt)(from2 to3:Int):Option (Vec×Bool) :=
 (Ja p1).bind λb4=>bif (((!b4)||(!(M3 from2)))||(!(M3 to3)))||decide (to3<=from2)then(some ((Vec.mk 0 0 0),false))else((UO p1 from2).bind λy5=>rgl (JK from2 to3) W04 p1 0 y5)
theorem LP{p1:List Pt}{from2 to3:Int}{r:Vec×Bool}(H:Vn p1 from2 to3=some r):Snd Tryz.prog J0i [.agg [rV 4 (p1.map ePt)],iV from2,iV to3] (.tup [eVec r.1,.bool r.2]) []:=by
 refine wS L0O [.c 6 3 true,.t 7] ?_
 unfold Vn at H
 obtain⟨b4,h4,H⟩:=bB H
 refine wH [.c 12 (JG h4),.g 16 [((!b4),false)] (.call _ _ _ _ _ (AEs.refl _) (λ_=>W7 from2)),.g 21 [(((!b4)||(!(M3 from2))),false)] (.call _ _ _ _ _ (AEs.refl _) (λ_=>W7 to3))] ?_
 refine M0 H ?_ ?_<;>intro H
 .refine wP ?_
  replace H:=sI H;subst H
  exact wN [(6,.d),(7,.d)] [(6,[])] [] [] [] []
 .obtain⟨y5,h5,H⟩:=bB H
  refine wG [.c 32 (U0m h5),.u 35 (.ln _ _ λ_=>lm p1 ePt)] λq6=>?_
  refine wR (λ(i7:Nat) (v7:Vec)=>⟨[(1,iV from2),(2,iV to3),(6,.ptr 6 0),(8,.ptr 8 0),(34,rV 4 (p1.map ePt)),(35,iV (p1.length:Int)),(36,iV (i7:Int))],[],[(6,(eVec (Vec.mk 0 0 0)).cells),(8,(eVec v7).cells)],[]⟩) H (λi7 x7 v7 I m k7 hxv7 hiv7 H N26=>?_) (λv7 I m H=>?_)
  .unfold JK at H
   refine wP (wt (ltT hiv7) ?_)
   refine wH [.u 38 (.ix _ _ _ λ_=>W0 ePt (Y1 hxv7))] ?_
   refine M0 H ?_ ?_<;>intro H
   .exact wH [.c 53 (L0S v7 x7.free),.w 54 (wi .i64 rfl hiv7 q6.1)] (wT (N26 _ H))
   .exact wH [.w 54 (wi .i64 rfl hiv7 q6.1)] (wT (N26 _ H))
  .unfold W04 at H
   refine wP (wf (ltF p1.length) ?_)
   refine wP ?_
   replace H:=sI H;subst H
   exact wN [(6,.d),(7,.d)] [(6,[])] [] [] [] []
noncomputable def V0E:L :=
 lf Tryz.prog Y0b [16,38] [] [] [] [] [] [32087347]
def Jh(x8 x10:Int)(k10:(Bool×(List Int))->Option (List Int))(v12:Bool×(List Int)):Option (List Int) :=
 bif x10 != x8 then((appL 8 v12.2 [x10]).bind λxs13=>k10 (v12.1,xs13))else(k10 (v12.1,v12.2))
def Lp(x8 x10:Int)(_:Nat)(v10:Bool×(List Int))(k10:(Bool×(List Int))->Option (List Int)):Option (List Int) :=
 bif (!v10.1)&&decide (x8<=x10)then((appL 8 v10.2 [x8]).bind λxs11=>(Jh x8 x10 k10) (true,xs11))else((Jh x8 x10 k10) (v10.1,v10.2))
def Wp(x8:Int)(k8:List Int->Option (List Int))(v10:Bool×(List Int)):Option (List Int) :=
 bif !v10.1 then((appL 8 v10.2 [x8]).bind λxs14=>k8 xs14)else(k8 v10.2)
def Mp(x8:Int)(_:Nat)(v8:List Int)(k8:List Int->Option (List Int)):Option (List Int) :=
 rgl (Lp x8) (Wp x8 k8) v8 0 (false,[])
def MX(v8:List Int):Option (List Int) :=
 some v8
def VD(x5:Pt)(_:Nat)(v5:List Int)(k5:List Int->Option (List Int)):Option (List Int) :=
 (appL 8 v5 [x5.t]).bind λxs6=>k5 xs6
def XD(from2 to3:Int)(v5:List Int):Option (List Int) :=
 rgl Mp MX [from2,to3] 0 v5
def My(p1:List Pt)(from2 to3:Int):Option (List Int) :=
 rgl VD (XD from2 to3) p1 0 []
theorem Q0B{p1:List Pt}{from2 to3:Int}{r:(List Int)}(H:My p1 from2 to3=some r):Snd Tryz.prog Y0b [.agg [rV 4 (p1.map ePt)],iV from2,iV to3] (nV 1 (r.map eI)) []:=by
 refine wS V0E [.t 6] ?_
 unfold My at H
 refine wG [.u 19 (.ln _ _ λ_=>lm p1 ePt)] λq4=>?_
 refine wR (λ(i5:Nat) (v5:List Int)=>⟨[(1,iV from2),(2,iV to3),(7,.sref 16),(18,rV 4 (p1.map ePt)),(19,iV (p1.length:Int)),(20,iV (i5:Int))],[],[],[(16,⟨1,v5.map eI,false⟩)]⟩) H (λi5 x5 v5 I m k5 hxv5 hiv5 H N15=>?_) (λv5 I m H=>?_)
 .unfold VD at H
  refine wP (wt (ltT hiv5) ?_)
  obtain⟨xs6,h6,H⟩:=bB H
  exact wH [.u 22 (.ix _ _ _ λ_=>W0 ePt (Y1 hxv5)),.u 28 (.ap _ _ _ _ λ_=>L0 eI h6),.w 29 (wi .i64 rfl hiv5 q4.1)] (wT (N15 _ H))
 .unfold XD at H
  refine wP (wf (ltF p1.length) ?_)
  refine wG [.u 33 (.ln _ _ λ_=>lm ([from2,to3]:List Int) eI)] λq7=>?_
  refine wR (λ(i8:Nat) (v8:List Int)=>⟨[(7,.sref 16),(32,nV 1 (([from2,to3]).map eI)),(33,iV (([from2,to3]:List Int).length:Int)),(34,iV (i8:Int))],[],[],[(16,⟨1,v8.map eI,false⟩)]⟩) H (λi8 x8 v8 I m k8 hxv8 hiv8 H N70=>?_) (λv8 I m H=>?_)
  .unfold Mp at H
   refine wP (wt (ltT hiv8) ?_)
   refine wG [.u 36 (.ix _ _ _ λ_=>W0 eI (Y1 hxv8)),.u 40 (.ln _ _ λ_=>lm v8 eI)] λq9=>?_
   refine wR (λ(i10:Nat) (v10:Bool×(List Int))=>⟨[(11,iV x8),(12,.sref 38),(13,.bool v10.1),(32,nV 1 (([from2,to3]).map eI)),(33,iV (([from2,to3]:List Int).length:Int)),(34,iV (i8:Int)),(39,.sref 16),(40,iV (v8.length:Int)),(41,iV (i10:Int))],[],[],[(38,⟨1,v10.2.map eI,false⟩),(16,⟨1,v8.map eI,false⟩)]⟩) H (λi10 x10 v10 I m k10 hxv10 hiv10 H N51=>?_) (λv10 I m H=>?_)
   .unfold Lp at H
    refine wP (wt (ltT hiv10) ?_)
    refine wH [.u 43 (.ix _ _ _ λ_=>W0 eI (Y1 hxv10)),.u 44 (.el _ _ _ λ_=>gm eI (W4 (Y1 hxv10)))] ?_
    refine J3 (r:=r) (Jh x8 x10 k10) 0 (λv12:Bool×(List Int)=>⟨[(11,.int .i64 x8),(12,.sref 38),(13,.bool v12.1),(15,.int .i64 x10),(32,.sl .nw 1 (([from2,to3]).map eI)),(33,.int .i64 (([from2,to3]:List Int).length:Int)),(34,.int .i64 (i8:Int)),(39,.sref 16),(40,.int .i64 (v8.length:Int)),(41,.int .i64 (i10:Int))],[],[],[(38,⟨1,v12.2.map eI,false⟩),(16,⟨1,v8.map eI,false⟩)]⟩) (by kernel_rfl) (λv12 H=>?_) (λJ43=>?_)
    .unfold Jh at H
     refine wP ?_
     refine M0 H ?_ ?_<;>intro H
     .obtain⟨xs13,h13,H⟩:=bB H
      exact wH [.u 62 (.ap _ _ _ _ λ_=>L0 eI h13),.w 63 (wi .i64 rfl hiv10 q9.1)] (wT (N51 _ H))
     .exact wH [.w 63 (wi .i64 rfl hiv10 q9.1)] (wT (N51 _ H))
    .refine M0 H ?_ ?_<;>intro H
     .obtain⟨xs11,h11,H⟩:=bB H
      exact wH [.u 55 (.ap _ _ _ _ λ_=>L0 eI h11)] (wT (J43 _ H))
     .refine wP ?_
      exact wT (J43 _ H)
   .unfold Wp at H
    refine wP (wf (ltF v8.length) ?_)
    refine wP ?_
    refine M0 H ?_ ?_<;>intro H
    .obtain⟨xs14,h14,H⟩:=bB H
     refine wH [.u 69 (.ap _ _ _ _ λ_=>L0 eI h14),.w 71 (wi .i64 rfl hiv8 q7.1)] ?_
     exact wU (N70 _ H) [] [] [(16,(some 38,0))] []
    .refine wH [.w 71 (wi .i64 rfl hiv8 q7.1)] ?_
     exact wU (N70 _ H) [] [] [(16,(some 38,0))] []
  .unfold MX at H
   refine wP (wf (ltF [from2,to3].length) ?_)
   refine wP ?_
   replace H:=sI H;subst H
   exact wN [(6,.f)] [] [] [16] [] [⟨_,nw_I v8⟩]
noncomputable def L0v:L :=
 lf Tryz.prog U05 [] [] [] [] [(14,13)] [] [239211,14951]
def Ua(v8:List Pt)(x8:Int)(k8:List Pt->Option ((List Pt)×Bool))(v11:Vec):Option ((List Pt)×Bool) :=
 (bif (v8.length:Int)==0 then some default else(idx v8 (w64 ((v8.length:Int)-1)))).bind λe12=>bif ((v8.length:Int)==0)||(!(e12.free.a==v11.a&&(e12.free.b==v11.b&&(e12.free.c==v11.c&&true))))then((appL 32 v8 [(Pt.mk x8 v11)]).bind λxs14=>k8 xs14)else(k8 v8)
def Jf(v8:List Pt)(x8:Int)(k8:List Pt->Option ((List Pt)×Bool))(v10:Vec×Bool):Option ((List Pt)×Bool) :=
 bif !v10.2 then(some ([],false))else((Ua v8 x8 k8) v10.1)
def Ll(p1:List Pt)(from2 to3:Int)(v4:Vec)(add5:Bool)(x8:Int)(_:Nat)(v8:List Pt)(k8:List Pt->Option ((List Pt)×Bool)):Option ((List Pt)×Bool) :=
 (UO p1 x8).bind λy9=>bif decide (from2<=x8)&&decide (x8<to3)then(bif add5 then((Jf v8 x8 k8) (((WD y9 v4).1),(WD y9 v4).2))else((Jf v8 x8 k8) (((M2 y9 v4).1),(M2 y9 v4).2)))else((Ua v8 x8 k8) y9)
def Y6(v8:List Pt):Option ((List Pt)×Bool) :=
 (Ja v8).bind λb15=>bif !b15 then(some ([],false))else(some (v8,true))
def Yl(p1:List Pt)(from2 to3:Int)(v4:Vec)(add5:Bool):Option ((List Pt)×Bool) :=
 (My p1 from2 to3).bind λy6=>rgl (Ll p1 from2 to3 v4 add5) Y6 y6 0 []
theorem O0t{p1:List Pt}{from2 to3:Int}{v4:Vec}{add5:Bool}{r:(List Pt)×Bool}(H:Yl p1 from2 to3 v4 add5=some r):Snd Tryz.prog U05 [.agg [rV 4 (p1.map ePt)],iV from2,iV to3,eVec v4,.bool add5] (.tup [J1 .nw r.1,.bool r.2]) []:=by
 refine wS L0v [.c 10 1 true,.t 11] ?_
 unfold Yl at H
 obtain⟨y6,h6,H⟩:=bB H
 refine wG [.c 22 (Q0B h6),.u 23 (.ln _ _ λ_=>lm y6 eI)] λq7=>?_
 refine X05 (λ(i8:Nat) (v8:List Pt)=>⟨[(1,iV from2),(2,iV to3),(4,.bool add5),(5,.ptr 5 0),(8,.ptr 8 0),(10,.ptr 10 0),(12,.ptr 12 0),(22,nV 1 (y6.map eI)),(23,iV (y6.length:Int)),(24,iV (i8:Int))],[],[(5,[rV 4 (p1.map ePt)]),(8,(eVec v4).cells),(10,[.nl]),(12,[.sref 147000])],[(147000,⟨4,v8.map ePt,false⟩)]⟩) [] [(12,[.z 147000])] [(147000,(none,4))] [] (by kernel_rfl) (by kernel_rfl) H (λi8 x8 v8 I m k8 hxv8 hiv8 H N43=>?_) (λv8 I m H=>?_)
 .unfold Ll at H
  refine wP (wt (ltT hiv8) ?_)
  obtain⟨y9,h9,H⟩:=bB H
  refine wH [.u 26 (.ix _ _ _ λ_=>W0 eI (Y1 hxv8)),.c 30 (U0m h9)] ?_
  refine J3 (r:=r) (Ua v8 x8 k8) 0 (λv11:Vec=>⟨[(1,.int .i64 from2),(2,.int .i64 to3),(4,.bool add5),(5,.ptr 5 0),(8,.ptr 8 0),(10,.ptr 10 0),(12,.ptr 12 0),(14,.int .i64 x8),(15,.ptr 15 0),(22,.sl .nw 1 (y6.map eI)),(23,.int .i64 (y6.length:Int)),(24,.int .i64 (i8:Int))],[],[(5,[.sl .rd 4 (p1.map ePt)]),(8,(eVec v4).cells),(10,[.nl]),(12,[.sref 147000]),(15,(eVec v11).cells)],[(147000,⟨4,v8.map ePt,false⟩)]⟩) (by kernel_rfl) (λv11 H=>?_) (λJ34=>?_)
  .unfold Ua at H
   obtain⟨e12,h12,H⟩:=bB H
   refine wG [.u 57 (.ln _ _ λ_=>lm v8 ePt),.g 65 [(_,false)] (.ix _ _ _ λq=>W0 ePt (bF q.1 h12)),.g 67 [(_,false)] (.el _ _ _ λq=>gm ePt (W4 (bF q.1 h12)))] λq13=>?_
   refine M0 H ?_ ?_<;>intro H
   .obtain⟨xs14,h14,H⟩:=bB H
    exact wH [.u 77 (.ap _ _ _ _ λ_=>L0 ePt h14),.w 79 (wi .i64 rfl hiv8 q7.1)] (wT (N43 _ H))
   .exact wH [.w 79 (wi .i64 rfl hiv8 q7.1)] (wT (N43 _ H))
  .refine M0 H ?_ ?_<;>intro H
   .refine wP ?_
    refine J3 (r:=r) (Jf v8 x8 k8) 0 (λv10:Vec×Bool=>⟨[(1,.int .i64 from2),(2,.int .i64 to3),(4,.bool add5),(5,.ptr 5 0),(8,.ptr 8 0),(10,.ptr 10 0),(12,.ptr 12 0),(14,.int .i64 x8),(15,.ptr 15 0),(16,.bool v10.2),(22,.sl .nw 1 (y6.map eI)),(23,.int .i64 (y6.length:Int)),(24,.int .i64 (i8:Int))],[],[(5,[.sl .rd 4 (p1.map ePt)]),(8,(eVec v4).cells),(10,[.nl]),(12,[.sref 147000]),(15,(eVec v10.1).cells)],[(147000,⟨4,v8.map ePt,false⟩)]⟩) (by kernel_rfl) (λv10 H=>?_) (λJ22=>?_)
    .unfold Jf at H
     refine wP ?_
     refine M0 H ?_ ?_<;>intro H
     .refine wP ?_
      replace H:=sI H;subst H
      exact wN [(10,.d),(11,.d)] [(10,[.n 4])] [] [] [] [⟨_,Wl ([]:List Pt)⟩]
     .refine wP ?_
      exact wT (J34 _ H)
    .refine M0 H ?_ ?_<;>intro H
     .exact wH [.c 43 (Z0T y9 v4)] (wT (J22 _ H))
     .exact wH [.c 49 (M0S y9 v4)] (wT (J22 _ H))
   .refine wP ?_
    exact wT (J34 _ H)
 .unfold Y6 at H
  refine wP (wf (ltF y6.length) ?_)
  obtain⟨b15,h15,H⟩:=bB H
  refine wH [.c 81 (JG h15)] ?_
  refine M0 H ?_ ?_<;>intro H
  .refine wP ?_
   replace H:=sI H;subst H
   exact wN [(10,.d),(11,.d)] [(10,[.n 4])] [] [] [] [⟨_,Wl ([]:List Pt)⟩]
  .refine wP ?_
   replace H:=sI H;subst H
   exact wN [(10,.d),(11,.d)] [(10,[.f])] [] [147000] [] [⟨_,Wl v8⟩]
noncomputable def Z0F:L :=
 lf Tryz.prog Q0b [] [] [] [] [] [] []
def Q2(p1:List Pt)(from2 to3:Int)(v4:Vec):Option ((List Pt)×Bool) :=
 (Vn p1 from2 to3).bind λy5=>bif !y5.2 then(some ([],false))else((Yl p1 from2 to3 v4 false).bind λy6=>some (y6.1,y6.2))
theorem Q04{p1:List Pt}{from2 to3:Int}{v4:Vec}{r:(List Pt)×Bool}(H:Q2 p1 from2 to3 v4=some r):Snd Tryz.prog Q0b [.agg [rV 4 (p1.map ePt)],iV from2,iV to3,eVec v4] (.tup [J1 .nw r.1,.bool r.2]) []:=by
 refine wS Z0F [.c 8 1 true,.t 9] ?_
 unfold Q2 at H
 obtain⟨y5,h5,H⟩:=bB H
 refine wH [.c 16 (LP h5)] ?_
 refine M0 H ?_ ?_<;>intro H
 .refine wP ?_
  replace H:=sI H;subst H
  exact wN [(8,.d),(9,.d)] [(8,[.n 4])] [] [] [] [⟨_,Wl ([]:List Pt)⟩]
 .obtain⟨y6,h6,H⟩:=bB H
  refine wH [.c 26 (O0t h6)] ?_
  replace H:=sI H;subst H
  exact wN [(8,.d),(9,.d)] [(8,[])] [] [] [] [⟨_,Wl y6.1⟩]
noncomputable def W0F:L :=
 lf Tryz.prog X0c [] [] [] [] [] [] []
def Wq(p1:List Pt):Option (List Pt) :=
 (appL 32 ([]:List Pt) p1).bind λxs2=>some xs2
theorem O04{p1:List Pt}{r:(List Pt)}(H:Wq p1=some r):Snd Tryz.prog X0c [.agg [rV 4 (p1.map ePt)]] (J1 .nw r) []:=by
 refine wS W0F [.c 2 1 true] ?_
 unfold Wq at H
 obtain⟨xs2,h2,H⟩:=bB H
 refine wH [.u 5 (.ap _ _ _ _ λ_=>L0 ePt h2)] ?_
 replace H:=sI H;subst H
 exact wN [(2,.d)] [(2,[.f])] [] [5] [] [⟨_,Wl xs2⟩]
noncomputable def J0W:L :=
 lf Tryz.prog Q0s [] [] [] [] [(6,38)] [] []
def W09(p1:List Pt)(x5:Pt)(i5:Nat)(_:Unit)(k5:Unit->Option Bool):Option Bool :=
 (bif (!(J6 x5.t))||(!(Q1 x5.free))then some default else(bif decide (0<(i5:Int))then(idx p1 (w64 ((i5:Int)-1)))else some default)).bind λe6=>(bif (!(J6 x5.t))||(!(Q1 x5.free))then some default else(bif decide (0<(i5:Int))then(bif decide (x5.t<=e6.t)then some default else(idx p1 (w64 ((i5:Int)-1))))else some default)).bind λe7=>bif ((!(J6 x5.t))||(!(Q1 x5.free)))||(decide (0<(i5:Int))&&(decide (x5.t<=e6.t)||(e7.free.a==x5.free.a&&(e7.free.b==x5.free.b&&(e7.free.c==x5.free.c&&true)))))then(some false)else(k5 ())
def Q09(_:Unit):Option Bool :=
 some true
def Yw(p1:List Pt):Option Bool :=
 (bif !(U0 (p1.length:Int) 1 200)then some default else(idx p1 0)).bind λe2=>bif (!(U0 (p1.length:Int) 1 200))||(e2.t != 0)then(some false)else(rgl (W09 p1) Q09 p1 0 ())
theorem MW{p1:List Pt}{r:Bool}(H:Yw p1=some r):Snd Tryz.prog Q0s [.agg [rV 4 (p1.map ePt)]] (.bool r) []:=by
 refine wS J0W [.t 2] ?_
 unfold Yw at H
 obtain⟨e2,h2,H⟩:=bB H
 refine wG [.u 7 (.ln _ _ λ_=>lm p1 ePt),.u 8 (.call _ _ _ _ _ (AEs.refl _) (λ_=>Y2 (p1.length:Int) 1 200)),.g 13 [(_,false)] (.ix _ _ _ λq=>W0 ePt (bF q.1 h2))] λq3=>?_
 refine M0 H ?_ ?_<;>intro H
 .obtain rfl:=sI H
  exact wP (wE [(2,.d)])
 .refine wG [.u 20 (.ln _ _ λ_=>lm p1 ePt)] λq4=>?_
  refine wR (λ(i5:Nat) (v5:Unit)=>⟨[(1,.ptr 1 0),(19,rV 4 (p1.map ePt)),(20,iV (p1.length:Int)),(21,iV (i5:Int))],[],[(1,[rV 4 (p1.map ePt)])],[]⟩) H (λi5 x5 v5 I m k5 hxv5 hiv5 H N27=>?_) (λv5 I m H=>?_)
  .unfold W09 at H
   refine wP (wt (ltT hiv5) ?_)
   obtain⟨e6,h6,e7,h7,H⟩:=bB2 H
   refine wH [.u 24 (.ix _ _ _ λ_=>W0 ePt (Y1 hxv5)),.c 28 (Ls x5.t),.g 33 [((!(J6 x5.t)),false)] (.call _ _ _ _ _ (AEs.refl _) (λ_=>W6 x5.free)),.g 44 [(_,true),(_,false)] (.ix _ _ _ λq=>W0 ePt (bT q.1 (bF q.2.1 h6))),.g 55 [(_,false),(_,true),(_,false)] (.ix _ _ _ λq=>W0 ePt (bF q.1 (bT q.2.1 (bF q.2.2.1 h7))))] ?_
   refine M0 H ?_ ?_<;>intro H
   .obtain rfl:=sI H
    exact wP (wE [(2,.d)])
   .exact wH [.w 64 (wi .i64 rfl hiv5 q3.1)] (wT (N27 () H))
  .unfold Q09 at H
   refine wP (wf (ltF p1.length) ?_)
   obtain rfl:=sI H
   exact wP (wE [(2,.d)])
noncomputable def W0P:L :=
 lf Tryz.prog QX [10] [] [] [] [] [] []
def JH(v1:Vec):Option ((List Pt)×Bool) :=
 bif !(Q1 v1)then(some ([],false))else(some ([(Pt.mk 0 v1)],true))
theorem U0x{v1:Vec}{r:(List Pt)×Bool}(H:JH v1=some r):Snd Tryz.prog QX [eVec v1] (.tup [J1 .nw r.1,.bool r.2]) []:=by
 refine wS W0P [.c 2 1 true,.t 3] ?_
 unfold JH at H
 refine wH [.c 5 (W6 v1)] ?_
 refine M0 H ?_ ?_<;>intro H
 .refine wP ?_
  replace H:=sI H;subst H
  exact wN [(2,.d),(3,.d)] [(2,[.n 4])] [] [] [] [⟨_,Wl ([]:List Pt)⟩]
 .refine wP ?_
  replace H:=sI H;subst H
  exact wN [(2,.d),(3,.d)] [(2,[.f])] [] [10] [] [⟨_,Wl [(Pt.mk 0 v1)]⟩]
def Wj(v1:Vec):(List Pt)×Bool :=
 bif !(Q1 v1)then(([],false))else(([(Pt.mk 0 v1)],true))
theorem Y0Y(v1:Vec):JH v1=some (Wj v1):=by
 unfold JH Wj
 first|rfl|simp only[O5]
theorem O09(v1:Vec):Snd Tryz.prog QX [eVec v1] (.tup [J1 .nw ((Wj v1).1),.bool ((Wj v1).2)]) []:=U0x (Y0Y v1)
noncomputable def M0w:L :=
 lf Tryz.prog M05 [] [] [] [] [] [] []
def UU(t2:Int)(x4:Pt)(_:Nat)(v4:Vec)(k4:Vec->Option Vec):Option Vec :=
 bif decide (x4.t<=t2)then(k4 x4.free)else(k4 v4)
def VU(v4:Vec):Option Vec :=
 some v4
def Xt(p1:List Pt)(t2:Int):Option Vec :=
 rgl (UU t2) VU p1 0 (Vec.mk 0 0 0)
theorem UZ{p1:List Pt}{t2:Int}{r:Vec}(H:Xt p1 t2=some r):Snd Tryz.prog M05 [.agg [rV 4 (p1.map ePt)],iV t2] (eVec r) []:=by
 refine wS M0w [.c 4 3 true] ?_
 unfold Xt at H
 refine wG [.u 11 (.ln _ _ λ_=>lm p1 ePt)] λq3=>?_
 refine wR (λ(i4:Nat) (v4:Vec)=>⟨[(1,iV t2),(4,.ptr 4 0),(5,.ptr 5 0),(10,rV 4 (p1.map ePt)),(11,iV (p1.length:Int)),(12,iV (i4:Int))],[],[(4,(eVec (Vec.mk 0 0 0)).cells),(5,(eVec v4).cells)],[]⟩) H (λi4 x4 v4 I m k4 hxv4 hiv4 H N19=>?_) (λv4 I m H=>?_)
 .unfold UU at H
  refine wP (wt (ltT hiv4) ?_)
  refine wH [.u 14 (.ix _ _ _ λ_=>W0 ePt (Y1 hxv4))] ?_
  refine M0 H ?_ ?_<;>intro H
  .exact wH [.w 22 (wi .i64 rfl hiv4 q3.1)] (wT (N19 _ H))
  .exact wH [.w 22 (wi .i64 rfl hiv4 q3.1)] (wT (N19 _ H))
 .unfold VU at H
  refine wP (wf (ltF p1.length) ?_)
  refine wP ?_
  replace H:=sI H;subst H
  exact wN [(4,.d)] [(4,[])] [] [] [] []
noncomputable def W0o:L :=
 lf Tryz.prog JZ [] [] [] [] [] [] []
def Zw(from2 to3:Int)(x6:Pt)(_:Nat)(v6:Vec)(k6:Vec->Option Vec):Option Vec :=
 bif decide (from2<x6.t)&&decide (x6.t<to3)then(k6 (VF v6 x6.free))else(k6 v6)
def LR(v6:Vec):Option Vec :=
 some v6
def Zj(p1:List Pt)(from2 to3:Int):Option Vec :=
 (Xt p1 from2).bind λy4=>rgl (Zw from2 to3) LR p1 0 y4
theorem XU{p1:List Pt}{from2 to3:Int}{r:Vec}(H:Zj p1 from2 to3=some r):Snd Tryz.prog JZ [.agg [rV 4 (p1.map ePt)],iV from2,iV to3] (eVec r) []:=by
 refine wS W0o [.c 6 3 true] ?_
 unfold Zj at H
 obtain⟨y4,h4,H⟩:=bB H
 refine wG [.c 12 (UZ h4),.u 15 (.ln _ _ λ_=>lm p1 ePt)] λq5=>?_
 refine wR (λ(i6:Nat) (v6:Vec)=>⟨[(1,iV from2),(2,iV to3),(6,.ptr 6 0),(7,.ptr 7 0),(14,rV 4 (p1.map ePt)),(15,iV (p1.length:Int)),(16,iV (i6:Int))],[],[(6,(eVec (Vec.mk 0 0 0)).cells),(7,(eVec v6).cells)],[]⟩) H (λi6 x6 v6 I m k6 hxv6 hiv6 H N19=>?_) (λv6 I m H=>?_)
 .unfold Zw at H
  refine wP (wt (ltT hiv6) ?_)
  refine wH [.u 18 (.ix _ _ _ λ_=>W0 ePt (Y1 hxv6))] ?_
  refine M0 H ?_ ?_<;>intro H
  .exact wH [.c 33 (L0X v6 x6.free),.w 34 (wi .i64 rfl hiv6 q5.1)] (wT (N19 _ H))
  .exact wH [.w 34 (wi .i64 rfl hiv6 q5.1)] (wT (N19 _ H))
 .unfold LR at H
  refine wP (wf (ltF p1.length) ?_)
  refine wP ?_
  replace H:=sI H;subst H
  exact wN [(6,.d)] [(6,[])] [] [] [] []
noncomputable def Y0W:L :=
 lf Tryz.prog U03 [] [] [] [] [] [] []
def WN(from1 to2:Int):Option Bool :=
 some (((J6 from1)&&(J6 to2))&&decide (from1<to2))
theorem X0G{from1 to2:Int}{r:Bool}(H:WN from1 to2=some r):Snd Tryz.prog U03 [iV from1,iV to2] (.bool r) []:=by
 refine wS Y0W [.t 4] ?_
 unfold WN at H
 refine wH [.c 6 (Ls from1),.g 9 [((J6 from1),true)] (.call _ _ _ _ _ (AEs.refl _) (λ_=>Ls to2))] ?_
 replace H:=sI H;subst H
 exact wE [(4,.d)]
def WE(from1 to2:Int):Bool :=
 (((J6 from1)&&(J6 to2))&&decide (from1<to2))
theorem O18(from1 to2:Int):WN from1 to2=some (WE from1 to2):=by
 unfold WN WE
 first|rfl|simp only[O5]
theorem V0X(from1 to2:Int):Snd Tryz.prog U03 [iV from1,iV to2] (.bool (WE from1 to2)) []:=X0G (O18 from1 to2)
noncomputable def O0o:L :=
 lf Tryz.prog Y9 [] [] [] [] [] [] []
def Lq(x1 x2:Vec):Option (Vec×Bool) :=
 some (((Uh x1 x2).1),(Uh x1 x2).2)
theorem V0f{x1 x2:Vec}{r:Vec×Bool}(H:Lq x1 x2=some r):Snd Tryz.prog Y9 [eVec x1,.ept (eVec x2) 0] (.tup [eVec r.1,.bool r.2]) []:=by
 refine wS O0o [.c 3 3 true,.t 4] ?_
 unfold Lq at H
 refine wH [.c 7 (O0X x1 x2)] ?_
 replace H:=sI H;subst H
 exact wN [(3,.d),(4,.d)] [(3,[])] [] [] [] []
def Ve(x1 x2:Vec):Vec×Bool :=
 (((Uh x1 x2).1),(Uh x1 x2).2)
theorem V0x(x1 x2:Vec):Lq x1 x2=some (Ve x1 x2):=by
 unfold Lq Ve
 first|rfl|simp only[O5]
theorem Q0p(x1 x2:Vec):Snd Tryz.prog Y9 [eVec x1,.ept (eVec x2) 0] (.tup [eVec ((Ve x1 x2).1),.bool ((Ve x1 x2).2)]) []:=V0f (V0x x1 x2)
noncomputable def Ms:L :=
 lf Tryz.prog WS [22] [(37,2),(40,2)] [] [] [(19,13)] [] [129639]
def Z4(v10:List Pt)(x10:Int)(k10:List Pt->Option ((List Pt)×Bool))(v12:Vec):Option ((List Pt)×Bool) :=
 (bif (v10.length:Int)==0 then some default else(idx v10 (w64 ((v10.length:Int)-1)))).bind λe13=>bif ((v10.length:Int)==0)||(!(e13.free.a==v12.a&&(e13.free.b==v12.b&&(e13.free.c==v12.c&&true))))then((appL 32 v10 [(Pt.mk x10 v12)]).bind λxs15=>k10 xs15)else(k10 v10)
def Y4(p1:List Pt)(from2 to3:Int)(c4:Vec)(x10:Int)(_:Nat)(v10:List Pt)(k10:List Pt->Option ((List Pt)×Bool)):Option ((List Pt)×Bool) :=
 (Xt p1 x10).bind λy11=>bif decide (from2<=x10)&&decide (x10<to3)then(bif !(Ve y11 c4).2 then(some ([],false))else((Z4 v10 x10 k10) ((Ve y11 c4).1)))else((Z4 v10 x10 k10) y11)
def L5(v10:List Pt):Option ((List Pt)×Bool) :=
 bif decide (200<(v10.length:Int))then(some ([],false))else(some (v10,true))
def Z6(x6:Pt)(_:Nat)(v6:List Int)(k6:List Int->Option ((List Pt)×Bool)):Option ((List Pt)×Bool) :=
 (appL 8 v6 [x6.t]).bind λxs7=>k6 xs7
def J5(p1:List Pt)(from2 to3:Int)(c4:Vec)(v6:List Int):Option ((List Pt)×Bool) :=
 (L13 v6).bind λxs8=>rgl (Y4 p1 from2 to3 c4) L5 (O6 xs8) 0 []
def X5(p1:List Pt)(from2 to3:Int)(c4:Vec):Option ((List Pt)×Bool) :=
 rgl Z6 (J5 p1 from2 to3 c4) p1 0 [from2,to3]
theorem Vt{p1:List Pt}{from2 to3:Int}{c4:Vec}{r:(List Pt)×Bool}(H:X5 p1 from2 to3 c4=some r):Snd Tryz.prog WS [.agg [rV 4 (p1.map ePt)],iV from2,iV to3,.fn Y9 [.ept (eVec c4) 0]] (.tup [J1 .nw r.1,.bool r.2]) []:=by
 refine wS Ms [.c 8 1 true,.t 9] ?_
 unfold X5 at H
 refine wG [.u 25 (.ln _ _ λ_=>lm p1 ePt)] λq5=>?_
 refine wR (λ(i6:Nat) (v6:List Int)=>⟨[(1,iV from2),(2,iV to3),(3,.fn Y9 [.ept (eVec c4) 0]),(4,.ptr 4 0),(8,.ptr 8 0),(10,.sref 22),(24,rV 4 (p1.map ePt)),(25,iV (p1.length:Int)),(26,iV (i6:Int))],[],[(4,[rV 4 (p1.map ePt)]),(8,[.nl])],[(22,⟨1,v6.map eI,false⟩)]⟩) H (λi6 x6 v6 I m k6 hxv6 hiv6 H N15=>?_) (λv6 I m H=>?_)
 .unfold Z6 at H
  refine wP (wt (ltT hiv6) ?_)
  obtain⟨xs7,h7,H⟩:=bB H
  exact wH [.u 28 (.ix _ _ _ λ_=>W0 ePt (Y1 hxv6)),.u 34 (.ap _ _ _ _ λ_=>L0 eI h7),.w 35 (wi .i64 rfl hiv6 q5.1)] (wT (N15 _ H))
 .unfold J5 at H
  refine wP (wf (ltF p1.length) ?_)
  obtain⟨xs8,h8,H⟩:=bB H
  refine wG [.u 37 (.cr Jg 1 _ [] [] false _ (λ_=>Y0e v6) (λ_=>trivial) (λ_=>rfl) (λ_=>M13 h8)),.u 40 (.cr Uj 1 _ [] [] true _ (λ_=>Y0e xs8) (λ_=>trivial) (λ_=>rfl) (λ_=>O0R xs8)),.u 41 (.ln _ _ λ_=>lm (O6 xs8) eI)] λq9=>?_
  refine X05 (λ(i10:Nat) (v10:List Pt)=>⟨[(1,iV from2),(2,iV to3),(3,.fn Y9 [.ept (eVec c4) 0]),(4,.ptr 4 0),(8,.ptr 8 0),(13,.ptr 13 0),(40,.sref 41000),(41,iV ((O6 xs8).length:Int)),(42,iV (i10:Int))],[],[(4,[rV 4 (p1.map ePt)]),(8,[.nl]),(13,[.sref 117000])],[(117000,⟨4,v10.map ePt,false⟩),(41000,⟨1,(O6 xs8).map eI,false⟩)]⟩) [] [(13,[.z 117000])] [(117000,(none,4))] [] (by kernel_rfl) (by kernel_rfl) H (λi10 x10 v10 I m k10 hxv10 hiv10 H N57=>?_) (λv10 I m H=>?_)
  .unfold Y4 at H
   refine wP (wt (ltT hiv10) ?_)
   obtain⟨y11,h11,H⟩:=bB H
   refine wH [.u 44 (.ix _ _ _ λ_=>W0 eI (Y1 hxv10)),.u 45 (.el _ _ _ λ_=>gm eI (W4 (Y1 hxv10))),.c 48 (UZ h11)] ?_
   refine J3 (r:=r) (Z4 v10 x10 k10) 0 (λv12:Vec=>⟨[(1,.int .i64 from2),(2,.int .i64 to3),(3,.fn Y9 [.ept (eVec c4) 0]),(4,.ptr 4 0),(8,.ptr 8 0),(13,.ptr 13 0),(15,.int .i64 x10),(16,.ptr 16 0),(40,.sref 41000),(41,.int .i64 ((O6 xs8).length:Int)),(42,.int .i64 (i10:Int))],[],[(4,[.sl .rd 4 (p1.map ePt)]),(8,[.nl]),(13,[.sref 117000]),(16,(eVec v12).cells)],[(117000,⟨4,v10.map ePt,false⟩),(41000,⟨1,(O6 xs8).map eI,false⟩)]⟩) (by kernel_rfl) (λv12 H=>?_) (λJ48=>?_)
   .unfold Z4 at H
    obtain⟨e13,h13,H⟩:=bB H
    refine wG [.u 69 (.ln _ _ λ_=>lm v10 ePt),.g 77 [(_,false)] (.ix _ _ _ λq=>W0 ePt (bF q.1 h13)),.g 79 [(_,false)] (.el _ _ _ λq=>gm ePt (W4 (bF q.1 h13)))] λq14=>?_
    refine M0 H ?_ ?_<;>intro H
    .obtain⟨xs15,h15,H⟩:=bB H
     exact wH [.u 89 (.ap _ _ _ _ λ_=>L0 ePt h15),.w 91 (wi .i64 rfl hiv10 q9.1)] (wT (N57 _ H))
    .exact wH [.w 91 (wi .i64 rfl hiv10 q9.1)] (wT (N57 _ H))
   .refine M0 H ?_ ?_<;>intro H
    .refine wH [.u 60 (.clsr _ _ _ _ _ (AEs.refl _) (by kernel_rfl) (λ_=>Q0p y11 c4))] ?_
     refine M0 H ?_ ?_<;>intro H
     .refine wP ?_
      replace H:=sI H;subst H
      exact wN [(8,.d),(9,.d)] [(8,[.n 4])] [] [] [] [⟨_,Wl ([]:List Pt)⟩]
     .refine wP ?_
      exact wT (J48 _ H)
    .refine wP ?_
     exact wT (J48 _ H)
  .unfold L5 at H
   refine wP (wf (ltF (O6 xs8).length) ?_)
   refine wG [.u 94 (.ln _ _ λ_=>lm v10 ePt)] λq16=>?_
   refine M0 H ?_ ?_<;>intro H
   .refine wP ?_
    replace H:=sI H;subst H
    exact wN [(8,.d),(9,.d)] [(8,[.n 4])] [] [] [] [⟨_,Wl ([]:List Pt)⟩]
   .refine wP ?_
    replace H:=sI H;subst H
    exact wN [(8,.d),(9,.d)] [(8,[.f])] [] [117000] [] [⟨_,Wl v10⟩]
noncomputable def L0F:L :=
 lf Tryz.prog Jo [] [] [] [] [] [] []
def Jq(p1:List Pt)(from2 to3:Int)(v4:Vec):Option ((List Pt)×Bool) :=
 (Yw p1).bind λb5=>bif ((!b5)||(!(WE from2 to3)))||(!(Q1 v4))then(some ([],false))else((X5 p1 from2 to3 v4).bind λy6=>some (y6.1,y6.2))
theorem J04{p1:List Pt}{from2 to3:Int}{v4:Vec}{r:(List Pt)×Bool}(H:Jq p1 from2 to3 v4=some r):Snd Tryz.prog Jo [.agg [rV 4 (p1.map ePt)],iV from2,iV to3,eVec v4] (.tup [J1 .nw r.1,.bool r.2]) []:=by
 refine wS L0F [.c 8 1 true,.t 9] ?_
 unfold Jq at H
 obtain⟨b5,h5,H⟩:=bB H
 refine wH [.c 11 (MW h5),.g 16 [((!b5),false)] (.call _ _ _ _ _ (AEs.refl _) (λ_=>V0X from2 to3)),.g 21 [(((!b5)||(!(WE from2 to3))),false)] (.call _ _ _ _ _ (AEs.refl _) (λ_=>W6 v4))] ?_
 refine M0 H ?_ ?_<;>intro H
 .refine wP ?_
  replace H:=sI H;subst H
  exact wN [(8,.d),(9,.d)] [(8,[.n 4])] [] [] [] [⟨_,Wl ([]:List Pt)⟩]
 .obtain⟨y6,h6,H⟩:=bB H
  refine wH [.c 29 (Vt h6)] ?_
  replace H:=sI H;subst H
  exact wN [(8,.d),(9,.d)] [(8,[])] [] [] [] [⟨_,Wl y6.1⟩]
structure ProfP(p:List Pt):Prop where
 pos:0<p.length
 le:p.length<=200
 zero:∀x,p[0]?=some x->x.t=0
 ok:∀x∈p,time x.t=true/\Q0 x.free=true
 asc:∀(i:Nat) (x y:Pt),p[i]?=some x->p[i+1]?=some y->x.t<y.t/\x.free≠y.free
theorem LW(p:List Pt):Yw p=Ja p:=by
 have e:(!U0 (p.length:Int) 1 200)=(decide ((p.length:Int)<1)||decide (200<(p.length:Int))):=by
  unfold U0
  rw[Bool.eq_iff_iff];simp
 unfold Yw Ja
 rw[e]
 rfl
theorem J1v(a b:Vec):(a.a==b.a&&(a.b==b.b&&(a.c==b.c&&true)))=decide (a=b):=by
 cases a;cases b
 simp only[Vec.mk.injEq,Bool.and_true]
 rw[Bool.eq_iff_iff]
 simp
theorem W07(p:List Pt):∃b,Ja p=some b/\(b=true↔ProfP p):=by
 unfold Ja
 by_cases h1:p.length<1
 .exact⟨false,by simp[show((p.length:Int)<1) by omega],Vj λh=>by have:=h.pos;omega⟩
 by_cases h2:200<p.length
 .exact⟨false,by simp[show((200:Int)<p.length) by omega],Vj λh=>by have:=h.le;omega⟩
 obtain⟨p0,hp0⟩:∃p0,p[0]?=some p0:=⟨_,yA (by omega)⟩
 have e1:decide ((p.length:Int)<1)=false:=by simp;omega
 have e2:decide ((200:Int)<(p.length:Int))=false:=by simp;omega
 rw[e1,e2]
 simp only[Bool.or_self,yM,Bool.false_or,show idx p 0=some p0 from by rw[← hp0];exact Y7 (i:=0),bS]
 by_cases h4:p0.t=0
 rotate_left
 .refine⟨false,by rw[show(p0.t != 0)=true by simpa using h4];rfl,Vj λh=>h4 (h.zero _ hp0)⟩
 rw[h4]
 simp only[bne_self_eq_false,yM]
 refine X7 (λi (_:Unit)=>(∀j x,j<i->p[j]?=some x->time x.t=true/\Q0 x.free=true)/\∀j x y,j+1<i->p[j]?=some x->p[j+1]?=some y->x.t<y.t/\x.free≠y.free)
  (λr=>∃b,r=some b/\(b=true↔ProfP p)) ?_ ?_ ⟨λj x h=>by omega,λj x y h=>by omega⟩
 .intro i x _ k hi hI hk
  have hil:=(yB hi).1
  unfold MP
  rw[Xi]
  cases ht:time x.t with
  |false=>exact⟨false,rfl,Vj λh=>by have:=(h.ok x (yE hi)).1;rw[ht]at this;cases this⟩
  |true =>
  cases hv:Q0 x.free with
  |false=>exact⟨false,rfl,Vj λh=>by have:=(h.ok x (yE hi)).2;rw[hv]at this;cases this⟩
  |true =>
  simp only[yL,Bool.or_self,yM,Bool.false_or,J1v]
  have new1:∀j y,j<i+1->p[j]?=some y->time y.t=true/\Q0 y.free=true:=by
   intro j y hj hy
   by_cases e:j=i
   .subst e;rw[hi]at hy;cases hy;exact⟨ht,hv⟩
   .exact hI.1 j y (by omega) hy
  by_cases h0:i=0
  .subst h0
   simp only[Int.natCast_zero,Int.lt_irrefl,decide_false,yM,Bool.false_and]
   exact hk () ⟨new1,λj x y h=>by omega⟩
  .have hgt:decide ((0:Int)<(i:Int))=true:=by simp;omega
   obtain⟨q,hq⟩:∃q,p[i-1]?=some q:=⟨_,yA (by omega)⟩
   rw[hgt,V0I (by omega) (by omega)]
   simp only[yN,Bool.true_and,Y7,hq,bS]
   by_cases h5:x.t<=q.t
   .simp only[h5,decide_true,yN,Bool.true_or]
    refine⟨false,rfl,Vj λh=>?_⟩
    have:=(h.asc (i-1) q x hq (by rw[show i-1+1=i by omega];exact hi)).1
    omega
   .simp only[h5,decide_false,yM,Bool.false_or,bS]
    by_cases h6:q.free=x.free
    .simp only[h6,decide_true,yN]
     refine⟨false,rfl,Vj λh=>?_⟩
     exact(h.asc (i-1) q x hq (by rw[show i-1+1=i by omega];exact hi)).2 h6
    .simp only[h6,decide_false,yM]
     refine hk () ⟨new1,λj a b hj ha hb=>?_⟩
     by_cases e:j+1=i
     .have:j=i-1:=by omega
      subst this
      rw[hq]at ha;cases ha
      rw[show i-1+1=i by omega,hi]at hb;cases hb
      exact⟨by omega,h6⟩
     .exact hI.2 j a b (by omega) ha hb
 .intro _ hI
  refine⟨true,rfl,λ_=>⟨by omega,by omega,λx hx=>by rw[hp0]at hx;cases hx;exact h4,λx hx=>?_,λi x y hx hy=>?_⟩,λ_=>rfl⟩
  .obtain⟨j,hj⟩:=List.getElem?_of_mem hx
   exact hI.1 j x (yB hj).1 hj
  .exact hI.2 i x y (yB hy).1 hx hy
noncomputable def profOk(p:List Pt):Bool:=(Ja p).getD false
theorem U9(p:List Pt):Ja p=some (profOk p):=by
 obtain⟨b,h3,_⟩:=W07 p
 rw[profOk,h3];rfl
theorem Uq{p:List Pt}:profOk p=true↔ProfP p:=by
 obtain⟨b,h3,h4⟩:=W07 p
 rw[profOk,h3];exact h4
theorem ProfP.lt{p:List Pt}(h:ProfP p):∀(j i:Nat) (x y:Pt),i<j->p[i]?=some x->p[j]?=some y->x.t<y.t:=by
 intro j
 induction j with
 |zero=>intro i x y hij;omega
 |succ j ih =>
  intro i x y hij hx hy
  obtain⟨z,hz⟩:∃z,p[j]?=some z:=⟨_,yA (by have:=(yB hy).1;omega)⟩
  have h1:=(h.asc j z y hz hy).1
  by_cases e:i=j
  .subst e;rw[hz]at hx;cases hx;exact h1
  .have:=ih i x z (by omega) hx hz
   omega
theorem ProfP.asc_times{p:List Pt}(h:ProfP p):(p.map Pt.t).Pairwise (· < ·):=by
 rw[List.pairwise_iff_getElem]
 intro i j hi hj hij
 simp only[List.length_map]at hi hj
 simp only[List.getElem_map]
 exact h.lt j i _ _ hij (yA hi) (yA hj)
def atV(p:List Pt)(t:Int):Vec:=p.foldl (λv x=>bif decide (x.t<=t)then x.free else v) ⟨0,0,0⟩
theorem U00(p:List Pt)(t:Int):UO p t=some (atV p t):=by
 unfold UO
 rw[LI (f:=λv (x:Pt)=>bif decide (x.t<=t)then x.free else v) (λx _ i b k=>by unfold ZV;cases decide (x.t<=t)<;>rfl)]
 rfl
theorem U0z(p:List Pt)(t:Int):Xt p t=some (atV p t):=U00 p t
theorem Q1T{p:List Pt}(t:Int)(h:∀x∈p,Q0 x.free=true):∀v,Q0 v=true->Q0 (p.foldl (λv x=>bif decide (x.t<=t)then x.free else v) v)=true:=by
 induction p with
 |nil=>intro v hv;exact hv
 |cons x l ih =>
  intro v hv
  rw[List.foldl_cons]
  refine ih (λy hy=>h y (yH _ hy)) _ ?_
  cases decide (x.t<=t)with
  |true=>exact h x (yJ ..)
  |false=>exact hv
theorem Y05{p:List Pt}(h:ProfP p)(t:Int):Q0 (atV p t)=true:=Q1T t (λx hx=>(h.ok x hx).2) _ (by decide)
theorem W1G{p:List Pt}(h:(p.map Pt.t).Pairwise (· < ·)){x:Pt}(hx:x∈p):atV p x.t=x.free:=by
 have key:∀(l:List Pt) (v:Vec),(l.map Pt.t).Pairwise (· < ·)->x∈l->l.foldl (λv y=>bif decide (y.t<=x.t)then y.free else v) v=x.free:=by
  intro l
  induction l with
  |nil=>intro v _ h;cases h
  |cons y l ih =>
   intro v hp hm
   rw[List.foldl_cons]
   rw[List.map_cons,List.pairwise_cons]at hp
   rcases yX hm with rfl|hm
   .rw[show decide (x.t<=x.t)=true by simp,yN]
    have:∀(m:List Pt) (v:Vec),(∀y∈m,x.t<y.t)->m.foldl (λv y=>bif decide (y.t<=x.t)then y.free else v) v=v:=by
     intro m
     induction m with
     |nil=>intro v _;rfl
     |cons z m ih =>
      intro v hm
      have:=hm z (yJ ..)
      rw[List.foldl_cons,show decide (z.t<=x.t)=false by simp;omega,yM]
      exact ih v λy hy=>hm y (yH _ hy)
    exact this l _ λy hy=>hp.1 _ (List.mem_map_of_mem hy)
   .exact ih _ hp.2 hm
 exact key p _ h hx
theorem W1I{p:List Pt}{from_ to_:Int}{f0:Vec}(hp:∀x∈p,x.t=from_->x.free=f0)(hok:∀x∈p,Q0 x.free=true)(h0:Q0 f0=true):∀(v:Vec),Q0 v=true->W1 v f0=v ->
  p.foldl (λv x=>bif decide (from_<=x.t)&&decide (x.t<to_)then W1 v x.free else v) v=p.foldl (λv x=>bif decide (from_<x.t)&&decide (x.t<to_)then W1 v x.free else v) v:=by
 induction p with
 |nil=>intro v _ _;rfl
 |cons x l ih =>
  intro v hv hm
  rw[List.foldl_cons,List.foldl_cons]
  have ih:=ih (λy hy=>hp y (yH _ hy)) (λy hy=>hok y (yH _ hy))
  by_cases e:x.t=from_
  .rw[show decide (from_<x.t)=false by simp;omega]
   simp only[Bool.false_and,yM]
   have:(bif decide (from_<=x.t)&&decide (x.t<to_)then W1 v x.free else v)=v:=by
    rw[hp x (yJ ..) e,hm]
    cases(decide (from_<=x.t)&&decide (x.t<to_))<;>rfl
   rw[this]
   exact ih v hv hm
  .have e2:decide (from_<=x.t)=decide (from_<x.t):=by rw[Bool.eq_iff_iff];simp;omega
   rw[e2]
   cases(decide (from_<x.t)&&decide (x.t<to_))with
   |false=>exact ih v hv hm
   |true =>
    simp only[yN]
    have hx:=hok x (yJ ..)
    refine ih _ (Yq hv hx) ?_
    have e:∀x y:Int,O3 x y=min x y:=λx y=>by unfold O3;by_cases h:x<y<;>simp[h]<;>omega
    have q:=Yq hv hx
    have a1:W1 v x.free=⟨min v.a x.free.a,min v.b x.free.b,min v.c x.free.c⟩:=by unfold W1;simp[hv,hx,e]
    have a2:W1 v f0=⟨min v.a f0.a,min v.b f0.b,min v.c f0.c⟩:=by unfold W1;simp[hv,h0,e]
    have a3:W1 (W1 v x.free) f0=⟨min (W1 v x.free).a f0.a,min (W1 v x.free).b f0.b,min (W1 v x.free).c f0.c⟩:=by rw[W1];simp[q,h0,e]
    rw[a3,a1]
    rw[a2]at hm
    have b1:=congrArg Vec.a hm;have b2:=congrArg Vec.b hm;have b3:=congrArg Vec.c hm
    simp only at b1 b2 b3
    simp only[Vec.mk.injEq];omega
def minV(p:List Pt)(from_ to_:Int):Vec:=p.foldl (λv x=>bif decide (from_<=x.t)&&decide (x.t<to_)then W1 v x.free else v) (atV p from_)
theorem Xn(p:List Pt)(from_ to_:Int):Vn p from_ to_=some (if profOk p=true/\time from_=true/\time to_=true/\from_<to_ then(minV p from_ to_,true)else(⟨0,0,0⟩,false)):=by
 unfold Vn
 rw[U9,bS]
 simp only[Xi]
 cases profOk p<;>cases time from_<;>cases time to_<;>try simp
 by_cases h:to_<=from_
 .simp[h,show ¬ from_<to_ by omega]
 .simp only[h,decide_false,yM,show from_<to_ by omega,yb,U00,bS]
  rw[LI (f:=λv (x:Pt)=>bif decide (from_<=x.t)&&decide (x.t<to_)then W1 v x.free else v) (λx _ i b k=>by unfold JK;cases(decide (from_<=x.t)&&decide (x.t<to_))<;>rfl)]
  rfl
theorem X0p{p:List Pt}(h:ProfP p)(from_ to_:Int):Zj p from_ to_=some (minV p from_ to_):=by
 unfold Zj minV
 rw[U0z,bS]
 rw[LI (f:=λv (x:Pt)=>bif decide (from_<x.t)&&decide (x.t<to_)then W1 v x.free else v) (λx _ i b k=>by unfold Zw;rw[J0X];cases(decide (from_<x.t)&&decide (x.t<to_))<;>rfl)]
 rw[W1I (p:=p) (f0:=atV p from_) (λx hx e=>by rw[← e,W1G h.asc_times hx]) (λx hx=>(h.ok x hx).2) (Y05 h _) _ (Y05 h _) (Y0C (Y05 h _))]
 rfl
theorem M0u:∀{l m:List Int},l.Pairwise (· < ·)->m.Pairwise (· < ·)->(∀x,x∈l↔x∈m)->l=m
 |[],[],_,_,_=>rfl
 |[],b::m,_,_,h=>by have:=(h b).2 (yJ ..);cases this
 |a::l,[],_,_,h=>by have:=(h a).1 (yJ ..);cases this
 |a::l,b::m,h1,h2,h=>by
  rw[List.pairwise_cons]at h1 h2
  have e:a=b:=by
   rcases yX ((h a).1 (yJ ..))with q|q
   .exact q
   .rcases yX ((h b).2 (yJ ..))with q2|q2
    .exact q2.symm
    .have:=h1.1 b q2;have:=h2.1 a q;omega
  subst e
  congr 1
  refine M0u h1.2 h2.2 λx=>⟨λhx=>?_,λhx=>?_⟩
  .rcases yX ((h x).1 (yH _ hx))with q|q
   .have:=h1.1 x hx;omega
   .exact q
  .rcases yX ((h x).2 (yH _ hx))with q|q
   .have:=h2.1 x hx;omega
   .exact q
def insT(t:Int)(l:List Int):List Int:=(l.filter λx=>decide (x<t))++t::l.filter λx=>decide (t<x)
theorem L0d{t x:Int}{l:List Int}:x∈insT t l↔x=t\/x∈l:=by
 simp only[insT,List.mem_append,List.mem_filter,List.mem_cons,yO]
 constructor
 .rintro(⟨h,_⟩|h|⟨h,_⟩)
  .exact .inr h
  .exact .inl h
  .exact .inr h
 .rintro(h|h)
  .exact .inr (.inl h)
  .by_cases h1:x<t
   .exact .inl ⟨h,h1⟩
   .by_cases h2:t<x
    .exact .inr (.inr ⟨h,h2⟩)
    .exact .inr (.inl (by omega))
theorem JQ{t:Int}{l:List Int}(h:l.Pairwise (· < ·)):(insT t l).Pairwise (· < ·):=by
 unfold insT
 rw[List.pairwise_append,List.pairwise_cons]
 refine⟨h.filter _,⟨λx hx=>by simpa using(List.mem_filter.1 hx).2,h.filter _⟩,λx hx y hy=>?_⟩
 have hx':x<t:=by simpa using(List.mem_filter.1 hx).2
 rcases yX hy with rfl|hy
 .exact hx'
 .have:t<y:=by simpa using(List.mem_filter.1 hy).2
  omega
theorem L0o(t:Int)(l:List Int):(insT t l).length<=l.length+1:=by
 have:∀m:List Int,(m.filter λx=>decide (x<t)).length+(m.filter λx=>decide (t<x)).length<=m.length:=by
  intro m
  induction m with
  |nil=>simp
  |cons a m ih =>
   simp only[List.filter_cons,yT]
   by_cases h1:a<t
   .simp only[h1,decide_true,yb,show ¬ t<a by omega,decide_false,yG,yc,yT];omega
   .by_cases h2:t<a
    .simp only[h1,h2,decide_true,yb,decide_false,yG,yc,yT];omega
    .simp only[h1,h2,decide_false,yG,yc];omega
 have:=this l
 simp only[insT,yU,yT];omega
theorem L1p{γ:Type}(t:Int)(k:List Int->Option γ)(bd:Int->Nat->Bool×List Int->((Bool×List Int)->Option γ)->Option γ)(kk:Bool×List Int->Option γ)
  (hb:∀x i d acc kc,acc.length<=1000->bd x i (d,acc) kc=bif (!d)&&decide (t<=x)then(bif x != t then kc (true,acc++[t]++[x])else kc (true,acc++[t]))else(bif x != t then kc (d,acc++[x])else kc (d,acc)))
  (hk:∀d acc,acc.length<=1000->kk (d,acc)=bif !d then k (acc++[t])else k acc):∀(l:List Int) (i:Nat),l.Pairwise (· < ·)->l.length<=500 ->
  (∀acc:List Int,acc.length<=500-l.length->rgl bd kk l i (false,acc)=k (acc++insT t l))/\∀acc:List Int,acc.length<=501-l.length->(∀x∈l,t<x)->rgl bd kk l i (true,acc)=k (acc++l)
 |[],i,_,_=>⟨λacc h=>by rw[rgl,hk _ _ (by omega)];simp[insT],λacc h _=>by rw[rgl,hk _ _ (by omega)];simp⟩
 |x::l,i,hp,hl=>by
  rw[List.pairwise_cons]at hp
  simp only[yT]at hl
  obtain⟨q1,q2⟩:=L1p t k bd kk hb hk l (i+1) hp.2 (by omega)
  refine⟨λacc ha=>?_,λacc ha hx=>?_⟩
  .simp only[yT]at ha
   rw[rgl,hb _ _ _ _ _ (by omega)]
   by_cases h1:t<=x
   .have hall:∀y∈l,t<y:=λy hy=>by have:=hp.1 y hy;omega
    have f1:(l.filter λy=>decide (y<t))=[]:=List.filter_eq_nil_iff.2 λy hy=>by have:=hall y hy;simp;omega
    have f2:(l.filter λy=>decide (t<y))=l:=List.filter_eq_self.2 λy hy=>by simpa using hall y hy
    simp only[Bool.not_false,Bool.true_and,h1,decide_true,yN]
    by_cases h2:x=t
    .subst h2
     simp only[bne_self_eq_false,yM]
     rw[q2 _ (by simp;omega) hall]
     simp[insT,f1,f2]
    .rw[show(x != t)=true by simpa using h2,yN,q2 _ (by simp;omega) hall]
     simp[insT,f1,f2,show ¬ x<t by omega,show t<x by omega]
   .simp only[Bool.not_false,Bool.true_and,h1,decide_false,yM]
    rw[show(x != t)=true by simp;omega,yN,q1 _ (by simp;omega)]
    simp[insT,show x<t by omega,show ¬ t<x by omega]
  .simp only[yT]at ha
   have hx1:=hx x (yJ ..)
   rw[rgl,hb _ _ _ _ _ (by omega)]
   simp only[yL,Bool.false_and,yM]
   rw[show(x != t)=true by simp;omega,yN,q2 _ (by simp;omega) λy hy=>hx y (yH _ hy)]
   simp
def U5(p:List Pt)(from_ to_:Int):List Int:=insT to_ (insT from_ (p.map Pt.t))
theorem Y04{p:List Pt}(h:ProfP p)(from_ to_:Int):My p from_ to_=some (U5 p from_ to_):=by
 have hle:=h.le
 unfold My
 rw[V6 (bd:=VD) (bs:=8) (p:=λ_=>true) (f:=Pt.t) (λx _ i b k=>rfl) (by simp;omega)]
 have one:∀(t:Int) (i:Nat) (v:List Int) (k:List Int->Option (List Int)),v.Pairwise (· < ·)->v.length<=300->Mp t i v k=k (insT t v):=by
  intro t i v k hv hl
  unfold Mp
  have:=(L1p t k (Lp t) (Wp t k) (λx i d acc kc ha=>by
   unfold Lp Jh
   cases((!d)&&decide (t<=x))with
   |true =>
    simp only[yN]
    rw[O0 (by simp;omega),bS]
    cases(x != t)with
    |true=>simp only[yN];rw[O0 (by simp;omega),bS]
    |false=>rfl
   |false =>
    simp only[yM]
    cases(x != t)with
    |true=>simp only[yN];rw[O0 (by simp;omega),bS]
    |false=>rfl) (λd acc ha=>by
   unfold Wp
   cases d with
   |true=>rfl
   |false=>simp only[Bool.not_false,yN];rw[O0 (by simp;omega),bS]) v 0 hv (by omega)).1 [] (by simp)
  simpa using this
 have hp:=h.asc_times
 have hl1:=L0o from_ (p.map Pt.t)
 simp only[List.length_map]at hl1
 unfold XD
 simp only[List.nil_append,show(p.filter λ_=>true)=p from List.filter_eq_self.2 λ_ _=>rfl]
 rw[rgl,one _ _ _ _ hp (by simp;omega),rgl,one _ _ _ _ (JQ hp) (by omega)]
 rfl
theorem M0z{l:List Int}(h:l.Pairwise (·<=·)):(O6 l).Pairwise (· < ·)/\∀x,x∈O6 l↔x∈l:=by
 have hsz:l.toArray.size=l.length:=by simp
 have get:∀j,j<l.length->l.toArray[j]! = l[j]!:=by intro j hj;simp
 have mono:∀i j,i<=j->j<l.length->l.toArray[i]!<=l.toArray[j]!:=by
  intro i j hij hj
  by_cases e:i=j
  .subst e;exact Int.le_refl _
  .have:=List.pairwise_iff_getElem.1 h i j (by omega) hj (by omega)
   simpa[show i<l.length by omega,hj]using this
 unfold O6 Lib.compact Lib.compactUpTo
 constructor
 .rw[List.pairwise_map]
  have hr:((List.range l.length).filter (Lib.keeps l.toArray)).Pairwise (· < ·):=List.Pairwise.filter _ List.pairwise_lt_range
  refine List.Pairwise.imp_of_mem (fun{a b} ha hb hab=>?_) hr
  have hb1:=List.mem_filter.1 hb
  have hbl:b<l.length:=List.mem_range.1 hb1.1
  have hk:b=0\/l.toArray[b]!≠l.toArray[b-1]!:=by simpa[Lib.keeps]using hb1.2
  rcases hk with rfl|hk
  .omega
  .have:=mono a (b-1) (by omega) (by omega)
   have:=mono (b-1) b (by omega) hbl
   omega
 .intro x
  simp only[List.mem_map,List.mem_filter,List.mem_range]
  constructor
  .rintro⟨j,⟨hj,_⟩,rfl⟩
   rw[get j hj]
   simp[hj]
  .intro hx
   have:∀n,(∃j,j<n/\j<l.length/\l.toArray[j]! = x)->∃j,(j<l.length/\Lib.keeps l.toArray j=true)/\l.toArray[j]! = x:=by
    intro n
    induction n with
    |zero=>rintro⟨j,hj,_⟩;omega
    |succ n ih =>
     rintro⟨j,hj,hjl,he⟩
     cases hk:Lib.keeps l.toArray j with
     |true=>exact⟨j,⟨hjl,hk⟩,he⟩
     |false =>
      have hk':¬ (j=0\/l.toArray[j]!≠l.toArray[j-1]!):=by simpa[Lib.keeps]using hk
      have h0:j≠0:=λe=>hk' (.inl e)
      have h1:l.toArray[j]! = l.toArray[j-1]!:=Classical.byContradiction λq=>hk' (.inr q)
      exact ih ⟨j-1,by omega,by omega,by rw[← h1];exact he⟩
   obtain⟨j,hj⟩:=List.getElem?_of_mem hx
   obtain⟨hjl,hje⟩:=yB hj
   exact this l.length ⟨j,hjl,hjl,by rw[get j hjl];simp[hjl,hje]⟩
theorem Y0Z(l:List Int):(X0u l).Pairwise (·<=·)/\∀x,x∈X0u l↔x∈l:=by
 refine⟨?_,λx=>(List.mergeSort_perm l _).mem_iff⟩
 have:=List.pairwise_mergeSort (le:=λ(x y:Int)=>decide (x<=y)) (λa b c h1 h2=>by simp at *;omega) (λa b=>by simp;omega) l
 exact this.imp λh=>by simpa using h
theorem V1g{p:List Pt}(h:ProfP p)(from_ to_:Int):O6 (X0u ([from_,to_]++p.map Pt.t))=U5 p from_ to_:=by
 obtain⟨s1,s2⟩:=Y0Z ([from_,to_]++p.map Pt.t)
 obtain⟨c1,c2⟩:=M0z s1
 refine M0u c1 (JQ (JQ h.asc_times)) λx=>?_
 rw[c2,s2,U5,L0d,L0d]
 simp only[List.cons_append,List.nil_append,List.mem_cons]
 constructor
 .rintro(h|h|h)
  .exact .inr (.inl h)
  .exact .inl h
  .exact .inr (.inr h)
 .rintro(h|h|h)
  .exact .inr (.inl h)
  .exact .inl h
  .exact .inr (.inr h)
def Z1d(out:List Pt)(t:Int)(w:Vec):List Pt:=match out.getLast? with
 |some e=>if e.free=w then out else out++[⟨t,w⟩]
 |none=>[⟨t,w⟩]
theorem M1p{out:List Pt}(h:out.length<=1000)(x:Int)(w:Vec)(k:List Pt->Option (List Pt×Bool)):Ua out x k w=k (Z1d out x w):=by
 unfold Ua Z1d
 cases hl:out with
 |nil =>
  simp only[List.length_nil,List.getLast?_nil]
  rw[show(((0:Nat):Int)==0)=true from rfl,yN,bS,Bool.true_or,yN,O0 (by simp),bS];rfl
 |cons a l =>
  have hne:((out.length:Int)==0)=false:=by rw[hl];simp;omega
  obtain⟨e,he⟩:∃e,out[out.length-1]?=some e:=⟨_,yA (by rw[hl];simp)⟩
  have hlast:out.getLast?=some e:=by rw[List.getLast?_eq_getElem?];exact he
  rw[← hl,hne,hlast,V0I (by rw[hl];simp) (by omega),Y7,he]
  simp only[yM,bS,Bool.false_or,J1v]
  by_cases hw:e.free=w
  .simp[hw]
  .simp only[hw,decide_false,Bool.not_false,yN,yc]
   rw[O0 (by simp;omega),bS]
structure Made(T:List Int)(i:Nat)(out:List Pt):Prop where
 len:out.length<=i
 mem:∀x∈out,∃j,j<i/\T[j]?=some x.t
 ok:∀x∈out,Q0 x.free=true
 asc:∀(j:Nat) (x y:Pt),out[j]?=some x->out[j+1]?=some y->x.t<y.t/\x.free≠y.free
 fst:0<i->∃x,out[0]?=some x/\T[0]?=some x.t
theorem Made.nil(T:List Int):Made T 0 [] where
 len:=yV _
 mem:=λx hx=>by cases hx
 ok:=λx hx=>by cases hx
 asc:=λj x y hx=>by simp at hx
 fst:=λh=>by omega
theorem Made.push{T:List Int}(hT:T.Pairwise (· < ·)){i:Nat}{out:List Pt}(M:Made T i out){t:Int}(ht:T[i]?=some t){w:Vec}(hw:Q0 w=true):Made T (i+1) (Z1d out t w):=by
 have lt:∀x∈out,x.t<t:=by
  intro x hx
  obtain⟨j,hj,he⟩:=M.mem x hx
  obtain⟨h1,e1⟩:=yB he
  obtain⟨h2,e2⟩:=yB ht
  rw[← e1,← e2]
  exact List.pairwise_iff_getElem.1 hT j i h1 h2 hj
 unfold Z1d
 cases hl:out.getLast? with
 |none =>
  have:out=[]:=List.getLast?_eq_none_iff.1 hl
  subst this
  have hi:i=0:=by
   cases i with
   |zero=>rfl
   |succ i=>obtain⟨x,hx,_⟩:=M.fst (by omega);simp at hx
  subst hi
  exact⟨by simp,λx hx=>by simp at hx;subst hx;exact⟨0,by omega,ht⟩,λx hx=>by simp at hx;subst hx;exact hw,λj x y hx hy=>by simp at hy,λ_=>⟨_,rfl,ht⟩⟩
 |some e =>
  simp only
  by_cases he:e.free=w
  .rw[yd he]
   exact⟨by have:=M.len;omega,λx hx=>by obtain⟨j,hj,h⟩:=M.mem x hx;exact⟨j,by omega,h⟩,M.ok,M.asc,λ_=>by
    cases i with
    |zero=>have:=M.len;have:out=[]:=List.eq_nil_of_length_eq_zero (by omega);subst this;simp at hl
    |succ i=>exact M.fst (by omega)⟩
  .rw[ye he]
   refine⟨by have:=M.len;simp;omega,λx hx=>?_,λx hx=>?_,λj x y hx hy=>?_,λ_=>?_⟩
   .rcases List.mem_append.1 hx with hx|hx
    .obtain⟨j,hj,h⟩:=M.mem x hx;exact⟨j,by omega,h⟩
    .simp at hx;subst hx;exact⟨i,by omega,ht⟩
   .rcases List.mem_append.1 hx with hx|hx
    .exact M.ok x hx
    .simp at hx;subst hx;exact hw
   .by_cases hj:j+1<out.length
    .rw[yK (by omega)]at hx
     rw[yK hj]at hy
     exact M.asc j x y hx hy
    .have hlt:=(yB hy).1
     simp only[yU,yT,List.length_nil]at hlt
     have hje:j=out.length-1:=by omega
     rw[yK (by omega)]at hx
     rw[yS (by omega),show j+1-out.length=0 by omega]at hy
     simp at hy
     subst hy
     rw[List.getLast?_eq_getElem?,← hje,hx]at hl
     have hl:=Option.some.inj hl
     subst hl
     exact⟨lt _ (yE hx),he⟩
   .have hne:out≠[]:=λe=>by rw[e]at hl;simp at hl
    cases i with
    |zero=>have:=M.len;exact absurd (List.eq_nil_of_length_eq_zero (by omega)) hne
    |succ i =>
     obtain⟨x,hx,h⟩:=M.fst (by omega)
     exact⟨x,by rw[yK (by have:=(yB hx).1;omega)];exact hx,h⟩
theorem L0J{p:List Pt}(h:ProfP p){from_ to_:Int}(h1:time from_=true)(h2:time to_=true) :
  (U5 p from_ to_).Pairwise (· < ·)/\(U5 p from_ to_).length<=202/\(∀t∈U5 p from_ to_,time t=true)/\(U5 p from_ to_)[0]?=some 0/\from_∈U5 p from_ to_:=by
 have hp:=JQ (t:=to_) (JQ (t:=from_) h.asc_times)
 have hm:∀t,t∈U5 p from_ to_↔t=to_\/t=from_\/t∈p.map Pt.t:=λt=>by rw[U5,L0d,L0d]
 have hok:∀t∈U5 p from_ to_,time t=true:=by
  intro t ht
  rcases(hm t).1 ht with rfl|rfl|ht
  .exact h2
  .exact h1
  .obtain⟨x,hx,rfl⟩:=yY ht
   exact(h.ok x hx).1
 have h0:(0:Int)∈U5 p from_ to_:=by
  obtain⟨x,hx⟩:∃x,p[0]?=some x:=⟨_,yA h.pos⟩
  exact(hm 0).2 (.inr (.inr (List.mem_map.2 ⟨x,yE hx,h.zero x hx⟩)))
 have hl1:=L0o from_ (p.map Pt.t)
 have hl2:=L0o to_ (insT from_ (p.map Pt.t))
 simp only[List.length_map]at hl1
 have:=h.le
 refine⟨hp,by unfold U5;omega,hok,?_,(hm from_).2 (.inr (.inl rfl))⟩
 obtain⟨j,hj⟩:=List.getElem?_of_mem h0
 obtain⟨hjl,hje⟩:=yB hj
 by_cases e:j=0
 .subst e;exact hj
 .have:=List.pairwise_iff_getElem.1 hp 0 j (by unfold U5 at hjl;omega) (by unfold U5 at hjl;exact hjl) (by omega)
  have h00:=hok (U5 p from_ to_)[0] (List.getElem_mem (by omega))
  have:=(Ol.1 h00).1
  unfold U5 at hje this
  omega
def Y0t(p:List Pt)(from_ to_:Int)(v:Vec)(x:Int)(out:List Pt)(k:List Pt->Option (List Pt×Bool)):Option (List Pt×Bool) :=
 bif decide (from_<=x)&&decide (x<to_)then(bif (M2 (atV p x) v).2 then k (Z1d out x (M2 (atV p x) v).1)else some ([],false))else k (Z1d out x (atV p x))
theorem J0Y{p:List Pt}{from_ to_:Int}{v:Vec}{x:Int}{i:Nat}{out:List Pt}(h:out.length<=1000)(k:List Pt->Option (List Pt×Bool)):Ll p from_ to_ v false x i out k=Y0t p from_ to_ v x out k:=by
 unfold Ll Y0t
 rw[U00,bS]
 cases(decide (from_<=x)&&decide (x<to_))with
 |false=>simp only[yM];rw[M1p h]
 |true =>
  simp only[yN,yM,Jf]
  cases(M2 (atV p x) v).2 with
  |false=>rfl
  |true=>simp only[yL,yM,yN];rw[M1p h]
theorem Z1u{p:List Pt}(hp:ProfP p){from_ to_:Int}{v:Vec}{x:Int}{i:Nat}{out:List Pt}(h:out.length<=1000)(k:List Pt->Option (List Pt×Bool)):Y4 p from_ to_ v x i out k=Y0t p from_ to_ v x out k:=by
 unfold Y4 Y0t Ve
 rw[U0z,bS,M0X (Y05 hp x)]
 cases(decide (from_<=x)&&decide (x<to_))with
 |false=>simp only[yM];exact M1p h x _ k
 |true =>
  simp only[yN]
  cases(M2 (atV p x) v).2 with
  |false=>rfl
  |true=>simp only[yL,yM,yN];exact M1p h x _ k
theorem O0a{a b:Vec}(h:(M2 a b).2=true):Q0 (M2 a b).1=true:=by
 unfold M2 at h ⊢
 cases hf:J0 b a with
 |false=>rw[hf]at h;simp at h
 |true =>
  simp only[yL,yM]
  unfold J0 at hf
  simp only[yD,yO]at hf
  obtain⟨⟨⟨⟨h1,h2⟩,h3⟩,h4⟩,h5⟩:=hf
  have h1:=Xb.1 h1
  have h2:=Xb.1 h2
  rw[Xb,Q5 (by omega),Q5 (by omega),Q5 (by omega)]
  simp only;omega
theorem VS(p:List Pt)(from_ to_:Int)(v:Vec):Jq p from_ to_ v=Q2 p from_ to_ v/\∃r,Q2 p from_ to_ v=some r/\(r.2=true->ProfP r.1):=by
 unfold Jq Q2
 rw[LW,U9,Xn,bS,bS]
 cases hpo:profOk p with
 |false=>simp
 |true =>
 have hp:=Uq.1 hpo
 unfold WE
 simp only[XW]
 by_cases hs:time from_=true/\time to_=true/\from_<to_
 rotate_left
 .have e:((time from_&&time to_)&&decide (from_<to_))=false:=by
   rw[Bool.eq_false_iff];intro q;simp only[yD,yO]at q;exact hs ⟨q.1.1,q.1.2,q.2⟩
  rw[e,ye (λq=>hs q.2)]
  simp
 obtain⟨h1,h2,h3⟩:=hs
 rw[yd ⟨trivial,h1,h2,h3⟩]
 obtain⟨t1,t2,t3,t4,t5⟩:=L0J hp h1 h2
 have T:=Y04 hp from_ to_
 have W12:Yl p from_ to_ v false=rgl (λx _=>Y0t p from_ to_ v x) Y6 (U5 p from_ to_) 0 []:=by
  unfold Yl
  rw[T,bS]
  refine V0L (λi b c=>b=c/\Made (U5 p from_ to_) i b) rfl (λi x y b c k k2 hx hy hr hk=>?_) (λb c hr=>by rw[hr.1]) ⟨rfl,Made.nil _⟩
  obtain⟨rfl,M⟩:=hr
  rw[hx]at hy;cases hy
  have hil:=(yB hx).1
  rw[J0Y (by have:=M.len;omega)]
  unfold Y0t
  cases(decide (from_<=x)&&decide (x<to_))with
  |false=>exact hk _ _ ⟨rfl,M.push t1 hx (Y05 hp x)⟩
  |true =>
   simp only[yN]
   cases hv:(M2 (atV p x) v).2 with
   |false=>rfl
   |true=>exact hk _ _ ⟨rfl,M.push t1 hx (O0a hv)⟩
 have ends:∀b,Made (U5 p from_ to_) (U5 p from_ to_).length b->(profOk b=true↔b.length<=200):=by
  intro b M
  rw[Uq]
  refine⟨λh=>h.le,λhl=>?_⟩
  obtain⟨x,hx,h0⟩:=M.fst (by have:=List.length_pos_of_mem t5;omega)
  rw[t4]at h0
  exact⟨(yB hx).1,hl,λy hy=>by rw[hx]at hy;cases hy;exact(Option.some.inj h0).symm,λy hy=>⟨by
   obtain⟨j,_,hj⟩:=M.mem y hy
   exact t3 _ (yE hj),M.ok y hy⟩,M.asc⟩
 have total:∃r:List Pt×Bool,rgl (λx _=>Y0t p from_ to_ v x) Y6 (U5 p from_ to_) 0 []=some r/\(r.2=true->ProfP r.1):=by
  refine X7 (λi b=>Made (U5 p from_ to_) i b) (λo=>∃r:List Pt×Bool,o=some r/\(r.2=true->ProfP r.1)) (λi x b k hx M hk=>?_) (λb M=>?_) (Made.nil _)
  .unfold Y0t
   cases(decide (from_<=x)&&decide (x<to_))with
   |false=>exact hk _ (M.push t1 hx (Y05 hp x))
   |true =>
    simp only[yN]
    cases hv:(M2 (atV p x) v).2 with
    |false=>exact⟨_,rfl,λh=>by cases h⟩
    |true=>exact hk _ (M.push t1 hx (O0a hv))
  .unfold Y6
   rw[U9,bS]
   cases hb:profOk b with
   |false=>exact⟨_,rfl,λh=>by cases h⟩
   |true=>exact⟨_,rfl,λ_=>Uq.1 hb⟩
 have bind_id:∀o:Option (List Pt×Bool),(o.bind λy6=>some (y6.1,y6.2))=o:=by intro o;cases o<;>rfl
 simp only[yL,Bool.false_or,h1,h2,h3,Bool.and_self,decide_true,yM,bind_id,Mq]
 rw[W12]
 refine⟨?_,total⟩
 cases hv:Q0 v with
 |false =>
  simp only[Bool.not_false,yN]
  symm
  refine X7 (λi b=>Made (U5 p from_ to_) i b/\∀j,j<i->(U5 p from_ to_)[j]?≠some from_) (λo=>o=some ([],false)) (λi x b k hx hI hk=>?_) (λb hI=>?_) ⟨Made.nil _,λj h=>by omega⟩
  .obtain⟨M,hI⟩:=hI
   have sub:∀x,M2 (atV p x) v=(⟨0,0,0⟩,false):=λx=>by unfold M2 J0;rw[hv];rfl
   unfold Y0t
   rw[sub]
   by_cases hf:from_<=x/\x<to_
   .simp[hf.1,hf.2]
   .have e:(decide (from_<=x)&&decide (x<to_))=false:=by simpa using λq=>by omega
    rw[e]
    refine hk _ ⟨M.push t1 hx (Y05 hp x),λj hj e=>?_⟩
    by_cases hji:j=i
    .subst hji;rw[hx]at e;cases e;omega
    .exact hI j (by omega) e
  .obtain⟨j,hj⟩:=List.getElem?_of_mem t5
   exact absurd hj (hI.2 j (yB hj).1)
 |true =>
  simp only[yL,yM]
  unfold X5
  rw[V6 (bd:=Z6) (bs:=8) (p:=λ_=>true) (f:=Pt.t) (λx _ i b k=>rfl) (by have:=hp.le;simp;omega)]
  unfold J5
  rw[show(p.filter λ_=>true)=p from List.filter_eq_self.2 λ_ _=>rfl]
  have hs:L13 ([from_,to_]++p.map Pt.t)=some (X0u ([from_,to_]++p.map Pt.t)):=by
   unfold L13
   rw[yd (by have:=hp.le;simp;omega)]
  rw[hs,bS,V1g hp]
  refine V0L (λi b c=>b=c/\Made (U5 p from_ to_) i b) rfl (λi x y b c k k2 hx hy hr hk=>?_) (λb c hr=>?_) ⟨rfl,Made.nil _⟩
  .obtain⟨rfl,M⟩:=hr
   rw[hx]at hy;cases hy
   have hil:=(yB hx).1
   rw[Z1u hp (by have:=M.len;omega)]
   unfold Y0t
   cases(decide (from_<=x)&&decide (x<to_))with
   |false=>exact hk _ _ ⟨rfl,M.push t1 hx (Y05 hp x)⟩
   |true =>
    simp only[yN]
    cases hv:(M2 (atV p x) v).2 with
    |false=>rfl
    |true=>exact hk _ _ ⟨rfl,M.push t1 hx (O0a hv)⟩
  .obtain⟨rfl,M⟩:=hr
   unfold L5 Y6
   rw[U9,bS]
   by_cases hl:b.length<=200
   .rw[(ends b M).2 hl]
    simp[show ¬ (200:Int)<b.length by omega]
   .rw[show profOk b=false from Bool.eq_false_iff.2 λq=>hl ((ends b M).1 q)]
    simp[show(200:Int)<b.length by omega]
def inn(fr to_ x:Int):Bool:=decide (fr<=x)&&decide (x<to_)
theorem L0k{fr to_ x:Int}:inn fr to_ x=true↔fr<=x/\x<to_:=by simp[inn]
def O1k(W:Int->Vec)(T:List Int)(t:Int):Vec:=T.foldl (λu x=>bif decide (x<=t)then W x else u) ⟨0,0,0⟩
theorem O0x(W:Int->Vec)(T:List Int)(x t:Int):O1k W (T++[x]) t=bif decide (x<=t)then W x else O1k W T t:=by simp[O1k]
theorem U1q{W:Int->Vec}{t:Int}{g:Vec}:∀(n:Nat) (T:List Int),T.length=n->T.Pairwise (· < ·)->(∀x∈T,x<=t->(∀y∈T,y<=t->y<=x)->W x=g)->((∀x∈T,t<x)->(⟨0,0,0⟩:Vec)=g)->O1k W T t=g
 |0,T,hn,_,_,h2=>by
  have:T=[]:=List.length_eq_zero_iff.1 hn
  subst this
  exact h2 (by simp)
 |n+1,T,hn,hp,h1,h2=>by
  rcases List.eq_nil_or_concat T with rfl|⟨T',x,rfl⟩
  .simp at hn
  rw[List.concat_eq_append]at *
  rw[List.pairwise_append]at hp
  obtain⟨p1,_,p3⟩:=hp
  rw[O0x]
  by_cases hx:x<=t
  .rw[decide_eq_true hx,yN]
   refine h1 x (by simp) hx λy hy _=>?_
   rcases List.mem_append.1 hy with hy|hy
   .have:=p3 y hy x (by simp);omega
   .rw[List.mem_singleton.1 hy];omega
  .rw[decide_eq_false hx,yM]
   refine U1q n T' (by simpa using hn) p1 (λy hy hyt hm=>h1 y (by simp[hy]) hyt λz hz hzt=>?_) λh=>h2 λy hy=>?_
   .rcases List.mem_append.1 hz with hz|hz
    .exact hm z hz hzt
    .rw[List.mem_singleton.1 hz]at hzt;omega
   .rcases List.mem_append.1 hy with hy|hy
    .exact h y hy
    .rw[List.mem_singleton.1 hy];omega
theorem Q1r(l:List Pt)(e:Pt)(t:Int):atV (l++[e]) t=bif decide (e.t<=t)then e.free else atV l t:=by simp[atV]
theorem X1B{out:List Pt}{x:Int}{w:Vec}(h:∀y∈out,y.t<x)(t:Int):atV (Z1d out x w) t=bif decide (x<=t)then w else atV out t:=by
 unfold Z1d
 cases hl:out.getLast? with
 |none =>
  rw[List.getLast?_eq_none_iff.1 hl]
  rfl
 |some e =>
  obtain⟨l,rfl⟩:=List.getLast?_eq_some_iff.1 hl
  have he:=h e (by simp)
  simp only
  split
  .rename_i hw
   by_cases hx:x<=t
   .rw[decide_eq_true hx,yN,Q1r,decide_eq_true (show e.t<=t by omega),yN,hw]
   .rw[decide_eq_false hx,yM]
  .rw[Q1r]
theorem V0J{p:List Pt}{x t:Int}(h:∀y∈p,y.t<=x↔y.t<=t):atV p x=atV p t:=by
 unfold atV
 generalize (⟨0,0,0⟩:Vec)=u
 induction p generalizing u with
 |nil=>rfl
 |cons y p ih =>
  rw[List.foldl_cons,List.foldl_cons,show decide (y.t<=x)=decide (y.t<=t) from decide_eq_decide.2 (h y (yJ ..))]
  exact ih (λz hz=>h z (yH _ hz)) _
theorem Z1L{p:List Pt}{t:Int}(h:∀y∈p,t<y.t):atV p t=⟨0,0,0⟩:=by
 unfold atV
 generalize (⟨0,0,0⟩:Vec)=u
 induction p generalizing u with
 |nil=>rfl
 |cons y p ih =>
  rw[List.foldl_cons,decide_eq_false (by have:=h y (yJ ..);omega),yM]
  exact ih (λz hz=>h z (yH _ hz)) _
def U0h(p:List Pt)(fr to_:Int)(v:Vec)(x:Int):Vec:=bif inn fr to_ x then(M2 (atV p x) v).1 else atV p x
theorem XS{a b:Vec}:(M2 a b).2=J0 b a/\(J0 b a=true->(M2 a b).1=⟨a.a-b.a,a.b-b.b,a.c-b.c⟩):=by
 unfold M2
 cases hf:J0 b a with
 |false=>exact⟨rfl,λh=>by cases h⟩
 |true =>
  refine⟨rfl,λ_=>?_⟩
  simp only[yL,yM]
  unfold J0 at hf
  simp only[yD,yO]at hf
  obtain⟨⟨⟨⟨h1,h2⟩,h3⟩,h4⟩,h5⟩:=hf
  have h1:=Xb.1 h1
  have h2:=Xb.1 h2
  rw[Q5 (by omega),Q5 (by omega),Q5 (by omega)]
theorem V0e{a b:Vec}:J0 a b=true↔Q0 a=true/\Q0 b=true/\a.a<=b.a/\a.b<=b.b/\a.c<=b.c:=by
 unfold J0
 simp[and_assoc]
theorem V1m{p:List Pt}(hp:ProfP p){from_ to_:Int}{v:Vec}(h1:time from_=true)(h2:time to_=true)(h3:from_<to_) :
  (∃b,Q2 p from_ to_ v=some (b,true)/\ProfP b/\b.length<=p.length+2/\(∀x∈U5 p from_ to_,inn from_ to_ x=true->J0 v (atV p x)=true)/\∀t,atV b t=O1k (U0h p from_ to_ v) (U5 p from_ to_) t) \/
  ((∃x∈U5 p from_ to_,inn from_ to_ x=true/\J0 v (atV p x)=false)/\∃b,Q2 p from_ to_ v=some (b,false))\/(198<p.length/\∃b,Q2 p from_ to_ v=some (b,false)):=by
 obtain⟨t1,t2,t3,t4,t5⟩:=L0J hp h1 h2
 have tl:(U5 p from_ to_).length<=p.length+2:=by
  have a:=L0o from_ (p.map Pt.t)
  have b:=L0o to_ (insT from_ (p.map Pt.t))
  rw[List.length_map]at a
  unfold U5;omega
 have hpo:=Uq.2 hp
 have e0:Q2 p from_ to_ v=rgl (λx _=>Y0t p from_ to_ v x) Y6 (U5 p from_ to_) 0 []:=by
  unfold Q2
  rw[Xn,bS,yd ⟨hpo,h1,h2,h3⟩]
  have bind_id:∀o:Option (List Pt×Bool),(o.bind λy6=>some (y6.1,y6.2))=o:=by intro o;cases o<;>rfl
  simp only[yL,yM,bind_id]
  unfold Yl
  rw[Y04 hp from_ to_,bS]
  refine V0L (λi b c=>b=c/\Made (U5 p from_ to_) i b) rfl (λi x y b c k k2 hx hy hr hk=>?_) (λb c hr=>by rw[hr.1]) ⟨rfl,Made.nil _⟩
  obtain⟨rfl,M⟩:=hr
  rw[hx]at hy;cases hy
  have hil:=(yB hx).1
  rw[J0Y (by have:=M.len;omega)]
  unfold Y0t
  cases(decide (from_<=x)&&decide (x<to_))with
  |false=>exact hk _ _ ⟨rfl,M.push t1 hx (Y05 hp x)⟩
  |true =>
   simp only[yN]
   cases hv:(M2 (atV p x) v).2 with
   |false=>rfl
   |true=>exact hk _ _ ⟨rfl,M.push t1 hx (O0a hv)⟩
 rw[e0]
 refine X7 (λi b=>Made (U5 p from_ to_) i b/\(∀x∈(U5 p from_ to_).take i,inn from_ to_ x=true->J0 v (atV p x)=true)/\∀t,atV b t=O1k (U0h p from_ to_ v) ((U5 p from_ to_).take i) t)
  (λo=>(∃b,o=some (b,true)/\ProfP b/\b.length<=p.length+2/\(∀x∈U5 p from_ to_,inn from_ to_ x=true->J0 v (atV p x)=true)/\∀t,atV b t=O1k (U0h p from_ to_ v) (U5 p from_ to_) t) \/
   ((∃x∈U5 p from_ to_,inn from_ to_ x=true/\J0 v (atV p x)=false)/\∃b,o=some (b,false))\/(198<p.length/\∃b,o=some (b,false)))
  (λi x b k hx hI hk=>?_) (λb hI=>?_) ⟨Made.nil _,by simp,λt=>rfl⟩
 .obtain⟨M,hf,ha⟩:=hI
  have hil:=(yB hx).1
  have hT:(U5 p from_ to_).take (i+1)=(U5 p from_ to_).take i++[x]:=by
   rw[List.take_succ_eq_append_getElem hil]
   rw[yA hil]at hx
   rw[Option.some.inj hx]
  have lt:∀y∈b,y.t<x:=by
   intro y hy
   obtain⟨j,hj,he⟩:=M.mem y hy
   obtain⟨q1,e1⟩:=yB he
   obtain⟨q2,e2⟩:=yB hx
   rw[← e1,← e2]
   exact List.pairwise_iff_getElem.1 t1 j i q1 q2 hj
  unfold Y0t
  rw[show(decide (from_<=x)&&decide (x<to_))=inn from_ to_ x from rfl]
  cases hi:inn from_ to_ x with
  |false =>
   refine hk _ ⟨M.push t1 hx (Y05 hp x),λy hy hy2=>?_,λt=>?_⟩
   .rw[hT]at hy
    rcases List.mem_append.1 hy with hy|hy
    .exact hf y hy hy2
    .rw[List.mem_singleton.1 hy,hi]at hy2;cases hy2
   .rw[X1B lt,hT,O0x,ha]
    simp only[U0h,hi,yM]
  |true =>
   simp only[yN]
   cases hv:(M2 (atV p x) v).2 with
   |false =>
    refine .inr (.inl ⟨⟨x,yE hx,hi,?_⟩,_,rfl⟩)
    rw[← XS.1];exact hv
   |true =>
    refine hk _ ⟨M.push t1 hx (O0a hv),λy hy hy2=>?_,λt=>?_⟩
    .rw[hT]at hy
     rcases List.mem_append.1 hy with hy|hy
     .exact hf y hy hy2
     .rw[List.mem_singleton.1 hy,← XS.1];exact hv
    .rw[X1B lt,hT,O0x,ha]
     simp only[U0h,hi,yN]
 .obtain⟨M,hf,ha⟩:=hI
  rw[List.take_of_length_le (yV _)]at hf ha
  have hlen:=M.len
  unfold Y6
  rw[U9,bS]
  cases hb:profOk b with
  |true =>
   refine .inl ⟨b,rfl,Uq.1 hb,?_,hf,ha⟩
   omega
  |false =>
   refine .inr (.inr ⟨?_,_,rfl⟩)
   rcases Nat.lt_or_ge 198 p.length with h|h
   .exact h
   .exfalso
    have:profOk b=true:=by
     rw[Uq]
     obtain⟨x,hx,h0⟩:=M.fst (by have:=List.length_pos_of_mem t5;omega)
     rw[t4]at h0
     exact⟨(yB hx).1,by omega,λy hy=>by rw[hx]at hy;cases hy;exact(Option.some.inj h0).symm,λy hy=>⟨by
      obtain⟨j,_,hj⟩:=M.mem y hy
      exact t3 _ (yE hj),M.ok y hy⟩,M.asc⟩
    rw[this]at hb;cases hb
theorem M1j(t:Int):∀(T:List Int),(∀x∈T,t<x)\/∃x∈T,x<=t/\∀y∈T,y<=t->y<=x
 |[]=>.inl (by simp)
 |x::T=>by
  rcases M1j t T with h|⟨y,hy,h1,h2⟩
  .by_cases hx:x<=t
   .refine .inr ⟨x,by simp,hx,λz hz hzt=>?_⟩
    rcases yX hz with rfl|hz
    .omega
    .have:=h z hz;omega
   .refine .inl λz hz=>?_
    rcases yX hz with rfl|hz
    .omega
    .exact h z hz
  .by_cases hx:x<=t/\y<=x
   .refine .inr ⟨x,by simp,hx.1,λz hz hzt=>?_⟩
    rcases yX hz with rfl|hz
    .omega
    .have:=h2 z hz hzt;omega
   .refine .inr ⟨y,by simp[hy],h1,λz hz hzt=>?_⟩
    rcases yX hz with rfl|hz
    .omega
    .exact h2 z hz hzt
theorem UY{p:List Pt}{from_ to_ x:Int}:x∈U5 p from_ to_↔x=to_\/x=from_\/x∈p.map Pt.t:=by
 unfold U5
 rw[L0d,L0d]
theorem O0Y{p:List Pt}{from_ to_ x t:Int}(_:x∈U5 p from_ to_)(h1:x<=t)(h2:∀y∈U5 p from_ to_,y<=t->y<=x):atV p x=atV p t/\inn from_ to_ x=inn from_ to_ t:=by
 refine⟨V0J λy hy=>⟨λh=>by omega,λh=>h2 _ (UY.2 (.inr (.inr (List.mem_map_of_mem hy)))) h⟩,?_⟩
 rw[Bool.eq_iff_iff,L0k,L0k]
 have a1:=h2 from_ (UY.2 (.inr (.inl rfl)))
 have a2:=h2 to_ (UY.2 (.inl rfl))
 omega
theorem U12{p q:List Pt}(hp:ProfP p){from_ to_:Int}{v:Vec}(h1:time from_=true)(h2:time to_=true)(h3:from_<to_)(h:Q2 p from_ to_ v=some (q,true)) :
  ProfP q/\q.length<=p.length+2/\(∀t,from_<=t->t<to_->J0 v (atV p t)=true)/\∀t,atV q t=U0h p from_ to_ v t:=by
 obtain⟨t1,t2,t3,t4,t5⟩:=L0J hp h1 h2
 rcases V1m hp (v:=v) h1 h2 h3 with⟨b,e,q1,q2,q3,q4⟩|⟨_,b,e⟩|⟨_,b,e⟩
 .rw[h]at e
  cases e
  have h0:0<=from_:=(Ol.1 h1).1
  have key:∀t,(∀x∈U5 p from_ to_,t<x)\/∃x∈U5 p from_ to_,x<=t/\∀y∈U5 p from_ to_,y<=t->y<=x:=λt=>M1j t _
  refine⟨q1,q2,λt ht1 ht2=>?_,λt=>?_⟩
  .rcases key t with k|⟨x,hx,hxt,hm⟩
   .have:=k from_ (UY.2 (.inr (.inl rfl)));omega
   .obtain⟨s1,s2⟩:=O0Y hx hxt hm
    rw[← s1]
    exact q3 x hx (by rw[s2];exact L0k.2 ⟨ht1,ht2⟩)
  .rw[q4]
   refine U1q _ _ rfl t1 (λx hx hxt hm=>?_) λhn=>?_
   .obtain⟨s1,s2⟩:=O0Y hx hxt hm
    unfold U0h
    rw[s1,s2]
   .have hlt:=hn from_ (UY.2 (.inr (.inl rfl)))
    have e:inn from_ to_ t=false:=by
     rw[Bool.eq_false_iff];intro q;have:=L0k.1 q;omega
    unfold U0h
    rw[e,yM]
    exact(Z1L λy hy=>hn _ (UY.2 (.inr (.inr (List.mem_map_of_mem hy))))).symm
 .rw[h]at e;cases e
 .rw[h]at e;cases e
theorem O1P{p:List Pt}(hp:ProfP p){from_ to_:Int}{v:Vec}(h1:time from_=true)(h2:time to_=true)(h3:from_<to_)(hl:p.length<=198)(hf:∀t,from_<=t->t<to_->J0 v (atV p t)=true):∃q,Q2 p from_ to_ v=some (q,true):=by
 rcases V1m hp (v:=v) h1 h2 h3 with⟨b,e,_⟩|⟨⟨x,hx,hi,hn⟩,_⟩|⟨h,_⟩
 .exact⟨b,e⟩
 .obtain⟨a1,a2⟩:=L0k.1 hi
  rw[hf x a1 a2]at hn;cases hn
 .omega
theorem O1I{v u w:Vec}(hu:Q0 u=true)(hw:Q0 w=true):J0 v (W1 u w)=true↔J0 v u=true/\J0 v w=true:=by
 have e:∀x y:Int,O3 x y=min x y:=λx y=>by unfold O3;by_cases h:x<y<;>simp[h]<;>omega
 have q:=Yq hu hw
 rw[V0e,V0e,V0e,q,hu,hw]
 have e2:W1 u w=⟨min u.a w.a,min u.b w.b,min u.c w.c⟩:=by unfold W1;simp[hu,hw,e]
 rw[e2]
 simp only
 constructor
 .rintro⟨a,_,b,c,d⟩
  refine⟨⟨a,trivial,?_,?_,?_⟩,⟨a,trivial,?_,?_,?_⟩⟩<;>omega
 .rintro⟨⟨a,_,b,c,d⟩,⟨_,_,b2,c2,d2⟩⟩
  refine⟨a,trivial,?_,?_,?_⟩<;>omega
theorem Z0o{p:List Pt}(hp:ProfP p){from_ to_:Int}(h3:from_<to_){v:Vec}:J0 v (minV p from_ to_)=true↔∀t,from_<=t->t<to_->J0 v (atV p t)=true:=by
 have key:∀(l:List Pt) (u:Vec),(∀x∈l,Q0 x.free=true)->Q0 u=true->(J0 v (l.foldl (λv x=>bif decide (from_<=x.t)&&decide (x.t<to_)then W1 v x.free else v) u)=true↔J0 v u=true/\∀x∈l,from_<=x.t->x.t<to_->J0 v x.free=true):=by
  intro l
  induction l with
  |nil=>intro u _ _;simp
  |cons x l ih =>
   intro u hl hu
   have hx:=hl x (yJ ..)
   have hl':∀y∈l,Q0 y.free=true:=λy hy=>hl y (yH _ hy)
   rw[List.foldl_cons]
   by_cases h:from_<=x.t/\x.t<to_
   .rw[decide_eq_true h.1,decide_eq_true h.2,Bool.and_self,yN,ih _ hl' (Yq hu hx),O1I hu hx]
    simp only[List.mem_cons,forall_eq_or_imp]
    constructor
    .rintro⟨⟨a,b⟩,c⟩;exact⟨a,λ_ _=>b,c⟩
    .rintro⟨a,b,c⟩;exact⟨⟨a,b h.1 h.2⟩,c⟩
   .have e:(decide (from_<=x.t)&&decide (x.t<to_))=false:=by simpa using h
    rw[e,yM,ih _ hl' hu]
    simp only[List.mem_cons,forall_eq_or_imp]
    constructor
    .rintro⟨a,c⟩;exact⟨a,λh1 h2=>absurd ⟨h1,h2⟩ h,c⟩
    .rintro⟨a,_,c⟩;exact⟨a,c⟩
 unfold minV
 rw[key p _ (λx hx=>(hp.ok x hx).2) (Y05 hp _)]
 constructor
 .rintro⟨a,b⟩ t ht1 ht2
  rcases M1j t (p.map Pt.t)with h|⟨x,hx,hxt,hm⟩
  .have:atV p from_=atV p t:=V0J λy hy=>by have:=h y.t (List.mem_map_of_mem hy);omega
   rw[← this];exact a
  .obtain⟨y,hy,rfl⟩:=yY hx
   by_cases hf:y.t<=from_
   .have:atV p from_=atV p t:=V0J λz hz=>⟨λh=>by omega,λh=>by have:=hm z.t (List.mem_map_of_mem hz) h;omega⟩
    rw[← this];exact a
   .have e:atV p y.t=atV p t:=V0J λz hz=>⟨λh=>by omega,λh=>hm z.t (List.mem_map_of_mem hz) h⟩
    rw[← e,W1G hp.asc_times hy]
    exact b y hy (by omega) (by omega)
 .intro h
  refine⟨h from_ (by omega) h3,λx hx h1 h2=>?_⟩
  rw[← W1G hp.asc_times hx]
  exact h x.t h1 h2
def leV(a b:Vec):Prop:=a.a<=b.a/\a.b<=b.b/\a.c<=b.c
def leP(p q:List Pt):Prop:=∀t,leV (atV p t) (atV q t)
theorem leP.refl(p:List Pt):leP p p:=λ_=>⟨Int.le_refl _,Int.le_refl _,Int.le_refl _⟩
theorem leP.trans{p q r:List Pt}(h1:leP p q)(h2:leP q r):leP p r:=λt=>by
 obtain⟨a,b,c⟩:=h1 t
 obtain⟨d,e,f⟩:=h2 t
 exact⟨by omega,by omega,by omega⟩
theorem leP.fits{p q:List Pt}(h:leP p q)(hq:ProfP q){v:Vec}{t:Int}(hf:J0 v (atV p t)=true):J0 v (atV q t)=true:=by
 obtain⟨a,b,c⟩:=h t
 obtain⟨f1,f2,f3,f4,f5⟩:=V0e.1 hf
 exact V0e.2 ⟨f1,Y05 hq t,by omega,by omega,by omega⟩
theorem O1w{p q:List Pt}(hp:ProfP p){from_ to_:Int}{v:Vec}(h1:time from_=true)(h2:time to_=true)(h3:from_<to_)(h:Q2 p from_ to_ v=some (q,true)):leP q p:=λt=>by
 obtain⟨_,_,hf,ha⟩:=U12 hp h1 h2 h3 h
 rw[ha]
 unfold U0h
 cases hi:inn from_ to_ t with
 |false=>exact leP.refl p t
 |true =>
  obtain⟨i1,i2⟩:=L0k.1 hi
  have:=hf t i1 i2
  obtain⟨f1,_,f3,f4,f5⟩:=V0e.1 this
  have:=Xb.1 f1
  rw[yN,XS.2 ‹_›]
  exact⟨by simp only;omega,by simp only;omega,by simp only;omega⟩
theorem X1b{p q p':List Pt}(hp:ProfP p)(hq:ProfP q)(hle:leP p q){from_ to_:Int}{v:Vec}(h1:time from_=true)(h2:time to_=true)(h3:from_<to_)(hl:q.length<=198)(h:Q2 p from_ to_ v=some (p',true)) :
  ∃q',Q2 q from_ to_ v=some (q',true)/\ProfP q'/\leP p' q'/\q'.length<=q.length+2:=by
 obtain⟨_,_,hf,ha⟩:=U12 hp h1 h2 h3 h
 obtain⟨q',e⟩:=O1P hq (v:=v) h1 h2 h3 hl λt t1 t2=>hle.fits hq (hf t t1 t2)
 obtain⟨b1,b2,b3,b4⟩:=U12 hq h1 h2 h3 e
 refine⟨q',e,b1,λt=>?_,b2⟩
 rw[ha,b4]
 unfold U0h
 cases hi:inn from_ to_ t with
 |false=>exact hle t
 |true =>
  obtain⟨i1,i2⟩:=L0k.1 hi
  obtain⟨l1,l2,l3⟩:=hle t
  rw[yN,yN,XS.2 (hf t i1 i2),XS.2 (b3 t i1 i2)]
  exact⟨by simp only;omega,by simp only;omega,by simp only;omega⟩
end Go.Proofs.YtpgaganbacipnaaGreat
namespace Go.Proofs.YtpgaganbacipnaaGreat.Eng
open Go Go.RowKit
def V1L(P:Program)(f:FuncId)(xa:List AV)(zs zs':List Int)(ret:Bool):Prop :=
 ∀(w:World) (g:Gh) (n0:Nat) (us:List Value),Heap w g (hSt n0 [] [some ⟨1,i64s zs,false⟩])->us.length=xa.length ->
  (∀(i:Nat) (a:AV) (v:Value),xa[i]?=some a->us[i]?=some v->Gv w g (hSt n0 [] [some ⟨1,i64s zs,false⟩]) a v) ->
 (Calls P f (.slice none 0 0::us).toArray w λe w'=>e=.returned (if ret then .slice none 0 0 else .tuple #[])/\w'=w) /\
 ∀(b cap:Nat) (cur:Array Value) (ty:TypeId),w.heap[b]?=some (.cells cur ty (0,0))->zs.length<=cap->cap<=maxLen->cur.size=cap->cur.toList.take zs.length=i64v zs->(∀o,¬ g.S b o) ->
  Calls P f (.slice (some ⟨b,0,none⟩) zs.length cap::us).toArray w λe w'=>e=.returned (if ret then .slice (some ⟨b,0,none⟩) zs'.length cap else .tuple #[]) /\
   ∃cur':Array Value,w'.heap[b]?=some (.cells cur' ty (0,0))/\cur'.size=cap/\cur'.toList.take zs'.length=i64v zs'/\zs'.length<=cap /\
    w'.os=w.os/\w'.tape=w.tape/\w'.output=w.output/\w.heap.size<=w'.heap.size/\∀k,k<w.heap.size->k≠b->w'.heap[k]?=w.heap[k]?
theorem O1c{P:Program}{f:FuncId}{zs zs':List Int}{ret:Bool}{xa:List AV}(h0:zs=[]->zs'=[])(hr:ret=false->zs'.length=zs.length)(h:V1L P f xa zs zs' ret):W0h P f 1 (i64s zs) xa ret (i64s zs'):=by
 refine Y1n W1C h0 hr λw g n0 us H hl hus=>?_
 obtain⟨a,b⟩:=h w g n0 us H hl hus
 refine⟨λ_=>a,λblk cap cur ty h1 h2 h3 h4 h5 h6=>?_⟩
 have:=b blk cap cur ty h1 h2 h3 (by omega) (by rw[← W0p,← h5,Nat.mul_one]) h6
 simpa only[W0p,Nat.mul_one]using this
theorem Rd.cap1_inv{w:World}{S:Nat->Nat->Prop}{T:Tag->Nat->Value->Prop}{g:Nat}{xs:List Int}{v:Value}(h:Rd w S T (.fn g [.ept (.agg [.sl .rd 1 (i64s xs)]) 0]) v)(hn:0<xs.length) :
  ∃b ob r o cap,v=.func (.func g) #[] #[.pointer (some ⟨b,ob,none⟩)]/\w.cell? ⟨b,ob,none⟩=some (.slice (some ⟨r,o,none⟩) xs.length cap)/\S b ob/\∀(j:Nat) (x:Int),xs[j]?=some x->w.cell? ⟨r,o+j,none⟩=some (.int .i64 x)/\S r (o+j):=by
 cases h with
 |fn _ _ vs hl hv =>
  match vs,hl with
  |[p],_ =>
  have hp:=hv 0 _ p rfl rfl
  cases hp with
  |ept _ _ b o cv hw hr =>
   have h0:=hw 0 (.sl .rd 1 (i64s xs)) rfl
   have h1:=hr 0 (.sl .rd 1 (i64s xs)) rfl
   obtain⟨q1,q2,_,_⟩:=h0
   generalize he:i64s xs=es at h1
   generalize cv 0=u at h1 q1
   cases h1 with
   |sl0 _ _ a c ho =>
    have:xs.length=0:=by
     have q:=congrArg List.length he
     unfold i64s at q
     rwa [List.length_map]at q
    omega
   |sl _ _ _ b2 o2 c cv2 hc hm hs hw2 ho hh =>
    subst he
    refine⟨b,o,b2,o2,c,rfl,?_,q2,λj x hx=>?_⟩
    .simpa[i64s]using q1
    .have hj:(flat (i64s xs))[j]?=some (.int .i64 x):=by rw[Z1D];simp[i64s,hx]
     obtain⟨c1,c2,_,_⟩:=hw2 j _ hj
     have c3:=hh j _ hj
     generalize cv2 j=z at c1 c3
     cases c3 with
     |int _ _=>exact⟨c1,c2⟩
end Go.Proofs.YtpgaganbacipnaaGreat.Eng
namespace Go.Proofs.YtpgaganbacipnaaGreat
open Go Go.RowKit Go.Sort Go.Lib
def J00(cnt:List Int)(x y:Fin cnt.length):Int:=if cnt[x]≠cnt[y]then IntKind.i64.wrap (cnt[y]-cnt[x])else IntKind.i64.wrap ((x.val:Int)-(y.val:Int))
theorem QY{cnt:List Int}(hl:cnt.length<=24)(hc:∀c∈cnt,0<=c/\c<=1000000)(x y:Fin cnt.length):ltOf (J00 cnt) x y=decide (cnt[y]<cnt[x]\/(cnt[x]=cnt[y]/\x.val<y.val)):=by
 have hx:=hc cnt[x] (List.getElem_mem x.isLt)
 have hy:=hc cnt[y] (List.getElem_mem y.isLt)
 have bx:=x.isLt
 have bY:=y.isLt
 unfold ltOf J00
 rw[decide_eq_decide]
 by_cases h:cnt[x]=cnt[y]
 .rw[ye (by simpa using h)]
  have e:IntKind.i64.wrap ((x.val:Int)-(y.val:Int))=(x.val:Int)-(y.val:Int):=by rw[IntKind.wrap_i64];omega
  rw[e]
  omega
 .rw[yd h]
  have e:IntKind.i64.wrap (cnt[y]-cnt[x])=cnt[y]-cnt[x]:=by rw[IntKind.wrap_i64];omega
  rw[e]
  omega
theorem O1j{cnt:List Int}(hl:cnt.length<=24)(hc:∀c∈cnt,0<=c/\c<=1000000):SWO (ltOf (J00 cnt)) where
 irrefl x:=by rw[QY hl hc];simp
 trans x y z h1 h2:=by
  rw[QY hl hc]at *
  simp only[yO]at *
  omega
 ntrans x y z h1 h2:=by
  rw[QY hl hc]at *
  simp only[decide_eq_false_iff_not]at *
  omega
theorem L15{cnt:List Int}(hl:cnt.length<=24)(hc:∀c∈cnt,0<=c/\c<=1000000)(x y:Fin cnt.length)(h1:ltOf (J00 cnt) x y=false)(h2:ltOf (J00 cnt) y x=false):x=y:=by
 rw[QY hl hc]at h1 h2
 simp only[decide_eq_false_iff_not]at h1 h2
 apply Fin.ext
 omega
end Go.Proofs.YtpgaganbacipnaaGreat
