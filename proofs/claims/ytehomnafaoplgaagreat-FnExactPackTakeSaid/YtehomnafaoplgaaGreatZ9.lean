/-
  Lemmas, part 9.
-/
import Derived.Test.YtehomnafaoplgaaGreatZ8
import Derived.Sort.Grow
import Derived.Lib.SlicesCompact
import Derived.Shelf.SlSortCmp.NoneTotal
import Derived.Ground.SlsfProg
import Derived.Shelf.Small.Bits
import Derived.Shelf.Strconv.Itoa0
import Derived.Shelf.Sort.Plain
import Derived.Ground.Names2Prog
import Derived.Shelf.Slices.CompactI
import Derived.Shelf.Slices.SearchI
import Derived.Shelf.Slices.Cells
import Derived.Shelf.Slices.In.SortNone
import Derived.Shelf.SlSortCmp.Insertion
import Derived.Shelf.SlSortCmp.SiftDown1
import Derived.Shelf.SlSortCmp.HeapSort1
import Derived.Shelf.SlSortCmp.Insertion1
import Derived.Shelf.SlSortCmp.Median1
import Derived.Shelf.SlSortCmp.Pivot1
import Derived.Shelf.SlSortCmp.ReverseRange1
import Derived.Shelf.SlSortCmp.PartialInsertion1
import Derived.Shelf.SlSortCmp.PartitionEqual1
import Derived.Shelf.SlSortCmp.Partition1
import Derived.Shelf.SlSortCmp.Pdq1
import Derived.Shelf.SlSortCmp.Whole1
import Derived.Test.YtehomnafaoplgaaGreatProg
namespace Go.Proofs.YtehomnafaoplgaaGreat.Eng
open Go Go.RowKit
structure Enc{α:Type}(sz:Nat)(enc:α->AV)(val:α->List Value):Prop where
 len:∀x,(enc x).cells.length=sz
 vlen:∀x,(val x).length=sz
 one:∀x,∀a∈(enc x).cells,a.one=true
 vone:∀x,∀v∈val x,v.oneCell'=true
 rd:∀(w:World) (S:Nat->Nat->Prop) (T:Tag->Nat->Value->Prop) x (j:Nat) (a:AV) (u:Value),(enc x).cells[j]?=some a->(val x)[j]?=some u->Rd w S T a u
 inv:∀(w:World) (S:Nat->Nat->Prop) (T:Tag->Nat->Value->Prop) x (j:Nat) (a:AV) (u v:Value),(enc x).cells[j]?=some a->(val x)[j]?=some u->Rd w S T a v->v=u
theorem Enc.flen{α:Type}{sz:Nat}{enc:α->AV}{val:α->List Value}(E:Enc sz enc val)(zs:List α):(zs.flatMap val).length=zs.length*sz:=by
 induction zs with
 |nil=>simp
 |cons x l ih=>simp only[ya,yU,ih,E.vlen,yT,Nat.succ_mul];omega
theorem Enc.elen{α:Type}{sz:Nat}{enc:α->AV}{val:α->List Value}(E:Enc sz enc val)(zs:List α):(flat (zs.map enc)).length=zs.length*sz:=by
 induction zs with
 |nil=>simp[flat]
 |cons x l ih=>simp only[flat,List.map_cons,ya,yU,yT,Nat.succ_mul]at ih ⊢;rw[ih,E.len];omega
theorem Enc.pair{α:Type}{sz:Nat}{enc:α->AV}{val:α->List Value}(E:Enc sz enc val){zs:List α}:∀{j:Nat} {a:AV} {u:Value},(flat (zs.map enc))[j]?=some a->(zs.flatMap val)[j]?=some u->∃(x:α) (i:Nat),(enc x).cells[i]?=some a/\(val x)[i]?=some u:=by
 induction zs with
 |nil=>intro j a u h;simp[flat]at h
 |cons x l ih =>
  intro j a u h1 h2
  simp only[flat,List.map_cons,ya]at ih h1 h2
  by_cases hj:j<sz
  .rw[yK (by rw[E.len];exact hj)]at h1
   rw[yK (by rw[E.vlen];exact hj)]at h2
   exact⟨x,j,h1,h2⟩
  .rw[yS (by rw[E.len];omega),E.len]at h1
   rw[yS (by rw[E.vlen];omega),E.vlen]at h2
   exact ih h1 h2
theorem Enc.flat_inv{α:Type}{sz:Nat}{enc:α->AV}{val:α->List Value}(E:Enc sz enc val){zs:List α}{w:World}{S:Nat->Nat->Prop}{T:Tag->Nat->Value->Prop}{j:Nat}{a:AV}{u v:Value}(h1:(flat (zs.map enc))[j]?=some a)(h2:(zs.flatMap val)[j]?=some u)(h:Rd w S T a v):v=u:=by
 obtain⟨x,i,q1,q2⟩:=E.pair h1 h2
 exact E.inv w S T x i a u v q1 q2 h
theorem L21{α:Type}{sz:Nat}{enc:α->AV}{val:α->List Value}(E:Enc sz enc val){w:World}{S:Nat->Nat->Prop}{T:Tag->Nat->Value->Prop}{zs:List α}{b cap:Nat}{cur:Array Value}{ty:TypeId}(h1:w.heap[b]?=some (.cells cur ty (0,0)))(h2:zs.length<=cap)(h3:cap<=maxLen)
  (h4:cur.size=cap*sz) (h5:cur.toList.take (zs.length*sz)=zs.flatMap val):QU w S T ⟨sz,zs.map enc,false⟩ (.slice (some ⟨b,0,none⟩) zs.length cap):=by
 refine⟨zs.flatMap val,ty,?_,λe he=>?_,λj a u ha hu=>?_⟩
 .simp only[List.length_map]
  exact⟨E.flen zs,by grind⟩
 .obtain⟨x,_,rfl⟩:=yY he;exact E.len x
 .obtain⟨x,i,q1,q2⟩:=E.pair ha hu
  exact⟨E.one x a (by grind),E.vone x u (by grind),E.rd _ _ _ x i a u q1 q2⟩
def RowX{α:Type}(P:Program)(f:FuncId)(sz:Nat)(enc:α->AV)(val:α->List Value)(xa:List AV)(zs zs':List α)(ret:Bool):Prop :=
 ∀(w:World) (g:Gh) (n0:Nat) (us:List Value),Heap w g (hSt n0 [] [some ⟨sz,zs.map enc,false⟩])->us.length=xa.length ->
  (∀(i:Nat) (a:AV) (v:Value),xa[i]?=some a->us[i]?=some v->Gv w g (hSt n0 [] [some ⟨sz,zs.map enc,false⟩]) a v) ->
 (zs=[]->Calls P f (.slice none 0 0::us).toArray w λe w'=>e=.returned (if ret then .slice none 0 0 else .tuple #[])/\w'=w) /\
 ∀(b cap:Nat) (cur:Array Value) (ty:TypeId),w.heap[b]?=some (.cells cur ty (0,0))->zs.length<=cap->cap<=maxLen->cur.size=cap*sz->cur.toList.take (zs.length*sz)=zs.flatMap val->(∀o,¬ g.S b o) ->
  Calls P f (.slice (some ⟨b,0,none⟩) zs.length cap::us).toArray w λe w'=>e=.returned (if ret then .slice (some ⟨b,0,none⟩) zs'.length cap else .tuple #[]) /\
   ∃cur':Array Value,w'.heap[b]?=some (.cells cur' ty (0,0))/\cur'.size=cap*sz/\cur'.toList.take (zs'.length*sz)=zs'.flatMap val/\zs'.length<=cap /\
    w'.os=w.os/\w'.tape=w.tape/\w'.output=w.output/\w.heap.size<=w'.heap.size/\∀k,k<w.heap.size->k≠b->w'.heap[k]?=w.heap[k]?
theorem W19{α:Type}{sz:Nat}{enc:α->AV}{val:α->List Value}(E:Enc sz enc val){P:Program}{f:FuncId}{zs zs':List α}{ret:Bool}{xa:List AV}(h0:zs=[]->zs'=[])(hr:ret=false->zs'.length=zs.length)(h:RowX P f sz enc val xa zs zs' ret):M0Q P f sz (zs.map enc) xa ret (zs'.map enc):=by
 intro n0 w g vs H hN hl hvs
 match vs,hl with
 |v::us,hl =>
 obtain⟨hnil,hblk⟩:=h w g n0 us H (by simpa using hl) λi a u ha hu=>hvs (i+1) a u (by simpa using ha) (by simpa using hu)
 have hv:v=g.rv 0:=by
  have q:=hvs 0 _ v rfl rfl
  exact q.sref_inv (by rfl)
 subst hv
 have hrow:=H.rws 0 ⟨sz,zs.map enc,false⟩ rfl
 have hrn:=H.rwn 0 ⟨sz,zs.map enc,false⟩ rfl
 obtain⟨xs,ty,hown,_,hc⟩:=hrow
 have hzl:(zs.map enc).length=zs.length:=by simp
 have fin:∀(v':Value) (w':World) (e:Ending),e=.returned (if ret then v' else .tuple #[])->(ret=false->v'=g.rv 0)->v'.ownBlock=(g.rv 0).ownBlock->v'.oneCell'=true->QU w' g.S g.T ⟨sz,zs'.map enc,false⟩ v'->w'.os=w.os->w'.tape=w.tape->w'.output=w.output->w.heap.size<=w'.heap.size ->
   (∀k,k<w.heap.size->(g.rv 0).ownBlock≠some k->w'.heap[k]?=w.heap[k]?) ->
   ∃v,e=.returned v/\Kept (OwnB g 0 1) w w'/\∃n1 res bout upd new,n0<=n1/\(bout=[]/\(match ret with|true=>res=.sref 1/\upd=[none]/\new=[⟨sz,zs'.map enc,false⟩]|false=>res=.tup []/\upd=[some (zs'.map enc)]/\new=[])) /\
   bout.map List.length=([]:List (List AV)).map List.length/\upd.length=1/\∃g':Gh,(∀b o,g'.S b o->(g.S b o\/w.heap.size<=b\/OwnB g 0 1 b)/\(w.heap.size<=b\/OwnB g 0 1 b->UnfB w' b))/\(∀b,g'.N b->g.N b) /\
   (∀i,i<0->g'.bb i=g.bb i)/\(∀i es,upd[i]?=some (some es)->g'.rv i=g.rv i)/\Heap w' g' (hSt n1 bout (Ua [⟨sz,zs.map enc,false⟩] upd new)) /\
   (∀(j:Nat) (r:Row),new[j]?=some r->∀b,(g'.rv (1+j)).ownBlock=some b->w.heap.size<=b\/OwnB g 0 1 b) /\
   (∀i,i<n0->g'.ov i=g.ov i)/\(∀i D,n0<=i->g'.ov i=some D->∀b,D b->w.heap.size<=b\/OwnB g 0 1 b) /\
   Gv w' g' (hSt n1 bout (Ua [⟨sz,zs.map enc,false⟩] upd new)) res v:=by
  intro v' w' e he hv' hb' h1 hro q1 q2 q3 q4 q5
  have hownB:∀b,g.own b->b<w.heap.size/\(g.rv 0).ownBlock≠some b:=λb hb=>⟨H.ow.size hb,λq=>H.ow.rw 0 _ rfl b q hb⟩
  have noU:∀b o,g.S b o->(g.S b o\/w.heap.size<=b\/OwnB g 0 1 b)/\(w.heap.size<=b\/OwnB g 0 1 b->UnfB w' b):=λb o h=>⟨.inl h,λq=>by
   rcases q with q|⟨i,hi,_⟩|⟨i,hi,e⟩
   .exact absurd (H.sw b o h) (Nat.not_lt.2 q)
   .omega
   .have:i=0:=by omega
    subst this
    exact absurd h ((hrn.2 b e).2 o)⟩
  have hK:Kept (OwnB g 0 1) w w':=⟨q1,q2,q3,q4,λk hk hno=>q5 k hk λq=>hno (.inr ⟨0,by omega,q⟩)⟩
  cases ret with
  |false =>
   have hv':=hv' rfl
   subst hv'
   refine⟨.tuple #[],by simpa using he,hK,n0,.tup [],[],[some (zs'.map enc)],[],yV _,(by simp),rfl,rfl,g,noU,λb h=>h,by omega,λi es _=>rfl,?_,by simp,λ_ _=>rfl,
    λi D hi ho=>λ_ _=>absurd (H.ow.lt i D ho) (by simp only[hSt];omega),.tup [] [] rfl λi a v h=>by simp at h⟩
   have hrw:∀k r,(hSt n0 [] (Ua [⟨sz,zs.map enc,false⟩] [some (zs'.map enc)] [])).rw k=some r->k=0/\r=⟨sz,zs'.map enc,false⟩:=by
    intro k r hk
    match k with
    |0=>simp[hSt,Ua]at hk;exact⟨rfl,hk.symm⟩
    |k+1=>simp[hSt,Ua]at hk
   refine⟨by simp[hSt],by simp[hSt],λk r hk=>?_,λk r hk=>?_,by simp[hSt],by simp[hSt],λk k' r r' hk hk' hne=>?_,λb o h=>Nat.lt_of_lt_of_le (H.sw b o h) q4,?_⟩
   .obtain⟨rfl,rfl⟩:=hrw k r hk;exact hro
   .obtain⟨rfl,rfl⟩:=hrw k r hk;exact⟨rfl,hrn.2⟩
   .grind
   .refine H.ow.turn rfl (λ_ h=>h) (yV _) (λb hb=>q5 b (hownB b hb).1 (hownB b hb).2) (by simp[hSt]) λk r hk b hb=>?_
    obtain⟨rfl,_⟩:=hrw k r hk
    exact H.ow.rw 0 _ rfl b hb
  |true =>
   refine⟨v',by simpa using he,hK,n0,.sref 1,[],[none],[⟨sz,zs'.map enc,false⟩],yV _,(by simp),rfl,rfl,{ g with rv:=λi=>if i=1 then v' else g.rv i },noU,λb h=>h,by omega,λi es h=>?_,?_,λj r h b hb=>?_,λ_ _=>rfl,
    λi D hi ho=>λ_ _=>absurd (H.ow.lt i D ho) (by simp only[hSt];omega),.sref 1 v' h1 λr hr=>by simp⟩
   .match i with
    |0=>simp at h
    |i+1=>simp at h
   .have hrw:∀k r,(hSt n0 [] (Ua [⟨sz,zs.map enc,false⟩] [none] [⟨sz,zs'.map enc,false⟩])).rw k=some r->k=1/\r=⟨sz,zs'.map enc,false⟩:=by
     intro k r hk
     match k with
     |0=>simp[hSt,Ua]at hk
     |1=>simp[hSt,Ua]at hk;exact⟨rfl,hk.symm⟩
     |k+2=>simp[hSt,Ua]at hk
    have hT:({ g with rv:=λi=>if i=1 then v' else g.rv i }:Gh).T=g.T:=Gh.T_eq rfl rfl
    refine⟨by simp[hSt],by simp[hSt],λk r hk=>?_,λk r hk=>?_,by simp[hSt],by simp[hSt],λk k' r r' hk hk' hne=>?_,λb o h=>Nat.lt_of_lt_of_le (H.sw b o h) q4,?_⟩
    .obtain⟨rfl,rfl⟩:=hrw k r hk
     rw[hT];exact hro
    .obtain⟨rfl,rfl⟩:=hrw k r hk
     refine⟨rfl,λb hb=>hrn.2 b ?_⟩
     simp only[yb]at hb
     rw[← hb',hb]
    .obtain⟨rfl,_⟩:=hrw k r hk;obtain⟨rfl,_⟩:=hrw k' r' hk';exact absurd rfl hne
    .refine H.ow.turn rfl (λ_ h=>h) (yV _) (λb hb=>q5 b (hownB b hb).1 (hownB b hb).2) (by simp[hSt]) λk r hk b hb=>?_
     grind
   .match j with
    |0 =>
     simp only[Nat.add_zero,yb]at hb
     exact .inr (.inr ⟨0,by omega,by rw[← hb',hb]⟩)
    |j+1=>simp at h
 rcases hown.2 with⟨hv,hn⟩|⟨b,cap,cur,hv,_,hb,hnc,hcm,hcs,htk⟩
 .have hz:zs=[]:=by
   rw[hzl]at hn
   exact List.eq_nil_of_length_eq_zero hn
  subst hz
  have hz':=h0 rfl
  subst hz'
  have:=hnil rfl
  rw[← hv]at this
  refine this.mono λe w' hw=>?_
  obtain⟨he,rfl⟩:=hw
  refine fin (g.rv 0) w' e (by rw[he]) (λ_=>rfl) rfl (by rw[hv];rfl) ?_ rfl rfl rfl (yV _) λ_ _ _=>rfl
  exact⟨xs,ty,hown,λe he=>by simp at he,λj a u ha=>by simp[flat]at ha⟩
 .rw[hzl]at hv hnc
  rw[hzl]at htk
  have hxs:xs=zs.flatMap val:=by
   have hxl:xs.length=zs.length*sz:=by rw[hown.1,hzl]
   have hvl:(zs.flatMap val).length=zs.length*sz:=E.flen zs
   apply List.ext_getElem (by rw[hxl,hvl])
   intro j h1 h2
   have hfl:(flat (zs.map enc)).length=zs.length*sz:=E.elen zs
   have hj:j<(flat (zs.map enc)).length:=by omega
   have q:=(hc j _ xs[j] (yA hj) (by simp)).2.2
   exact E.flat_inv (by simp) (yA h2) q
  have:=hblk b cap cur ty hb hnc hcm hcs (by rw[htk,hxs]) (hrn.2 b (by rw[hv];rfl)).2
  rw[← hv]at this
  refine this.mono λe w' hw=>?_
  obtain⟨he,cur',c1,c2,c3,c4,q1,q2,q3,q4,q5⟩:=hw
  have hrob:=L21 E (S:=g.S) (T:=g.T) c1 c4 hcm c2 c3
  refine fin (.slice (some ⟨b,0,none⟩) zs'.length cap) w' e he (by grind) (by rw[hv];rfl) rfl hrob q1 q2 q3 q4 λk hk hne=>q5 k hk λe=>hne (by rw[hv,e];rfl)
def i64s(zs:List Int):List AV:=zs.map λn=>.int .i64 n
def i64v(zs:List Int):List Value:=zs.map λn=>.int .i64 n
theorem U2c(zs:List Int):flat (i64s zs)=i64s zs:=by
 induction zs with
 |nil=>rfl
 |cons n l ih=>simp only[i64s,flat,List.map_cons,ya,AV.cells]at ih ⊢;rw[ih];rfl
theorem M0B(zs:List Int):noOL (i64s zs):=Zd.2 λa ha=>by
 obtain⟨n,_,rfl⟩:=yY ha
 trivial
def V2w(P:Program)(f:FuncId)(zs zs':List Int)(ret:Bool):Prop :=
 (∀(w:World),Calls P f #[.slice none 0 0] w λe w'=>e=.returned (if ret then .slice none 0 0 else .tuple #[])/\w'=w) /\
 ∀(w:World) (b cap:Nat) (cur:Array Value) (ty:TypeId),w.heap[b]?=some (.cells cur ty (0,0))->zs.length<=cap->cap<=maxLen->cur.size=cap->cur.toList.take zs.length=i64v zs ->
  Calls P f #[.slice (some ⟨b,0,none⟩) zs.length cap] w λe w'=>e=.returned (if ret then .slice (some ⟨b,0,none⟩) zs'.length cap else .tuple #[]) /\
   ∃cur':Array Value,w'.heap[b]?=some (.cells cur' ty (0,0))/\cur'.size=cap/\cur'.toList.take zs'.length=i64v zs'/\zs'.length<=cap /\
    w'.os=w.os/\w'.tape=w.tape/\w'.output=w.output/\w.heap.size<=w'.heap.size/\∀k,k<w.heap.size->k≠b->w'.heap[k]?=w.heap[k]?
theorem Y2c:Enc 1 (λn:Int=>AV.int .i64 n) (λn=>[Value.int .i64 n]):=by
 have key:∀(x:Int) (j:Nat) (a:AV) (u:Value),(AV.int .i64 x).cells[j]?=some a->[Value.int .i64 x][j]?=some u->a=.int .i64 x/\u=.int .i64 x:=by
  intro x j a u h1 h2
  match j with
  |0=>exact⟨(Option.some.inj h1).symm,(Option.some.inj h2).symm⟩
  |j+1=>simp at h2
 refine⟨λx=>rfl,λx=>rfl,λx a ha=>?_,λx v hv=>?_,λw S T x j a u h1 h2=>?_,λw S T x j a u v h1 h2 h=>?_⟩
 .rw[List.mem_singleton.1 ha];rfl
 .rw[List.mem_singleton.1 hv];rfl
 .obtain⟨rfl,rfl⟩:=key x j a u h1 h2
  exact .int _ _
 .obtain⟨rfl,rfl⟩:=key x j a u h1 h2
  cases h;rfl
theorem O0P(zs:List Int):zs.flatMap (λn=>[Value.int .i64 n])=i64v zs:=by
 induction zs with
 |nil=>rfl
 |cons n l ih=>rw[ya,ih];rfl
theorem U1c{P:Program}{f:FuncId}{zs zs':List Int}{ret:Bool}(h0:zs=[]->zs'=[])(hr:ret=false->zs'.length=zs.length)(h:V2w P f zs zs' ret):M0Q P f 1 (i64s zs) [] ret (i64s zs'):=by
 refine W19 Y2c h0 hr λw g n0 us _ hl _=>?_
 match us,hl with
 |[],_ =>
 refine⟨λ_=>h.1 w,λb cap cur ty h1 h2 h3 h4 h5 _=>?_⟩
 have:=h.2 w b cap cur ty h1 h2 h3 (by omega) (by rw[← O0P,← h5,Nat.mul_one])
 simpa only[O0P,Nat.mul_one]using this
theorem W0V{w:World}{b cap:Nat}{cur:Array Value}{ty:TypeId}{zs:List Int}(h1:w.heap[b]?=some (.cells cur ty (0,0)))(h4:cur.size=cap)(h2:zs.length<=cap)(n:Nat)(os:Array Obj) :
  ∃cur':Array Value,(Go.Sort.grow (Go.Sort.putRow (Value.int .i64) (Go.Sort.ahead w n) b 0 zs.toArray) os).heap[b]?=some (.cells cur' ty (0,0))/\cur'.size=cap/\cur'.toList.take zs.length=i64v zs /\
   w.heap.size<=(Go.Sort.grow (Go.Sort.putRow (Value.int .i64) (Go.Sort.ahead w n) b 0 zs.toArray) os).heap.size/\∀k,k<w.heap.size->k≠b->(Go.Sort.grow (Go.Sort.putRow (Value.int .i64) (Go.Sort.ahead w n) b 0 zs.toArray) os).heap[k]?=w.heap[k]?:=by
 have hb:b<w.heap.size:=(Array.getElem?_eq_some_iff.1 h1).1
 have hg:∀k,k<w.heap.size->(Go.Sort.grow (Go.Sort.putRow (Value.int .i64) (Go.Sort.ahead w n) b 0 zs.toArray) os).heap[k]?=(w.heap.modify b (Go.Sort.onCells (Go.Sort.putCells (Value.int .i64) 0 zs.toArray)))[k]?:=by
  intro k hk
  simp only[Go.Sort.grow,Go.Sort.putRow,Go.Sort.mapBlock,Go.Sort.ahead]
  rw[Array.getElem?_append_left (by simpa using hk)]
 refine⟨Go.Sort.putCells (Value.int .i64) 0 zs.toArray cur,?_,?_,?_,?_,λk hk hne=>?_⟩
 .rw[hg b hb,Array.getElem?_modify];simp only[yb,h1];rfl
 .simp[Go.Sort.putCells,h4]
 .apply List.ext_getElem
  .simp[Go.Sort.putCells,i64v,h4];omega
  .intro j q1 q2
   have hj:j<zs.length:=by simp[i64v]at q2;exact q2
   simp[Go.Sort.putCells,i64v,hj]
 .simp[Go.Sort.grow,Go.Sort.putRow,Go.Sort.mapBlock,Go.Sort.ahead]
 .rw[hg k hk,Array.getElem?_modify,ye (λe=>hne e.symm)]
theorem X1l{w:World}{b:Nat}{cur:Array Value}{ty:TypeId}{zs:List Int}(h1:w.heap[b]?=some (.cells cur ty (0,0)))(h5:cur.toList.take zs.length=i64v zs):Go.Sort.Holds (Value.int .i64) w b 0 zs.toArray:=by
 intro j hj
 have hj':j<zs.length:=by simpa using hj
 refine⟨?_,frozen_of_row w b (0+j) cur ty h1⟩
 have hc:cur[j]?=some (.int .i64 zs[j]):=by
  have:=congrArg (·[j]?) h5
  simp only[i64v,yF,List.getElem?_take,hj',yb,yA hj',Option.map_some]at this
  simpa using this
 simp only[World.cell?,h1,Option.isSome_none,yG,yc,Nat.zero_add]
 rw[hc]
 simp[hj']
end Go.Proofs.YtehomnafaoplgaaGreat.Eng
namespace Go.Proofs
open Go.Shelf
def Tryz.lays189_ren:Go.Shelf.Ren:=⟨fun|189=>221|125=>251|257=>250|128=>279|129=>280|294=>270|295=>271|296=>272|297=>273|298=>274|299=>275|216=>276|300=>277|301=>278|328=>293|329=>294|330=>295|331=>296|332=>297|215=>298|343=>316|n=>n,fun|28=>22|3=>3|46=>232|0=>0|51=>262|53=>264|4=>4|183=>256|182=>255|131=>131|5=>5|9=>9|218=>271|222=>275|228=>287|229=>288|n=>n,fun|n=>n⟩
theorem Tryz.lays189:Go.Proofs.Lays.n189 Tryz.prog Tryz.lays189_ren:={
 mixed:=by kernel_rfl
 f125:=Tryz.func251.trans (congrArg some (by kernel_rfl))
 f128:=Tryz.func279.trans (congrArg some (by kernel_rfl))
 f129:=Tryz.func280.trans (congrArg some (by kernel_rfl))
 f189:=Tryz.func221.trans (congrArg some (by kernel_rfl))
 f215:=Tryz.func298.trans (congrArg some (by kernel_rfl))
 f216:=Tryz.func276.trans (congrArg some (by kernel_rfl))
 f257:=Tryz.func250.trans (congrArg some (by kernel_rfl))
 f294:=Tryz.func270.trans (congrArg some (by kernel_rfl))
 f295:=Tryz.func271.trans (congrArg some (by kernel_rfl))
 f296:=Tryz.func272.trans (congrArg some (by kernel_rfl))
 f297:=Tryz.func273.trans (congrArg some (by kernel_rfl))
 f298:=Tryz.func274.trans (congrArg some (by kernel_rfl))
 f299:=Tryz.func275.trans (congrArg some (by kernel_rfl))
 f300:=Tryz.func277.trans (congrArg some (by kernel_rfl))
 f301:=Tryz.func278.trans (congrArg some (by kernel_rfl))
 f328:=Tryz.func293.trans (congrArg some (by kernel_rfl))
 f329:=Tryz.func294.trans (congrArg some (by kernel_rfl))
 f330:=Tryz.func295.trans (congrArg some (by kernel_rfl))
 f331:=Tryz.func296.trans (congrArg some (by kernel_rfl))
 f332:=Tryz.func297.trans (congrArg some (by kernel_rfl))
 f343:=Tryz.func316.trans (congrArg some (by kernel_rfl))
 t0:=Tryz.underlying0
 a0:=Tryz.isAgg0
 z0:=Tryz.sizeOf0
 v0:=Tryz.zeroValue0
 t3:=Tryz.underlying3
 a3:=Tryz.isAgg3
 z3:=Tryz.sizeOf3
 v3:=Tryz.zeroValue3
 t4:=Tryz.underlying4
 a4:=Tryz.isAgg4
 z4:=Tryz.sizeOf4
 v4:=Tryz.zeroValue4
 t5:=Tryz.underlying5
 a5:=Tryz.isAgg5
 z5:=Tryz.sizeOf5
 v5:=Tryz.zeroValue5
 t9:=Tryz.underlying9
 a9:=Tryz.isAgg9
 z9:=Tryz.sizeOf9
 v9:=Tryz.zeroValue9
 t28:=Tryz.underlying22
 a28:=Tryz.isAgg22
 z28:=Tryz.sizeOf22
 v28:=Tryz.zeroValue22
 t46:=Tryz.underlying232
 a46:=Tryz.isAgg232
 z46:=Tryz.sizeOf232
 v46:=Tryz.zeroValue232
 t51:=Tryz.underlying262
 a51:=Tryz.isAgg262
 z51:=Tryz.sizeOf262
 v51:=Tryz.zeroValue262
 t53:=Tryz.underlying264
 a53:=Tryz.isAgg264
 z53:=Tryz.sizeOf264
 v53:=Tryz.zeroValue264
 t131:=Tryz.underlying131
 a131:=Tryz.isAgg131
 z131:=Tryz.sizeOf131
 v131:=Tryz.zeroValue131
 t182:=Tryz.underlying255
 a182:=Tryz.isAgg255
 z182:=Tryz.sizeOf255
 v182:=Tryz.zeroValue255
 t183:=Tryz.underlying256
 a183:=Tryz.isAgg256
 z183:=Tryz.sizeOf256
 v183:=Tryz.zeroValue256
 t218:=Tryz.underlying271
 a218:=Tryz.isAgg271
 z218:=Tryz.sizeOf271
 v218:=Tryz.zeroValue271
 t222:=Tryz.underlying275
 a222:=Tryz.isAgg275
 z222:=Tryz.sizeOf275
 v222:=Tryz.zeroValue275
 t228:=Tryz.underlying287
 a228:=Tryz.isAgg287
 z228:=Tryz.sizeOf287
 v228:=Tryz.zeroValue287
 t229:=Tryz.underlying288
 a229:=Tryz.isAgg288
 z229:=Tryz.sizeOf288
 v229:=Tryz.zeroValue288 }
open Go.Sort Go.RowKit in
theorem Tryz.slices_Sort_int(blk off cap:Nat)(zs:List Int)(w:World)(hH:Holds (Value.int .i64) w blk off zs.toArray)(hblk:blk<w.heap.size)(hsz:zs.length<4611686018427387904) :
  Calls Tryz.prog 221 #[.slice (some ⟨blk,off,none⟩) zs.length cap] w λe w' =>
   e=.returned (.tuple #[])/\∃n os,w'=grow (putRow (Value.int .i64) (Sort.ahead w n) blk off (zs.mergeSort λx y=>decide (x<=y)).toArray) os:=Any.slices_Sort_int Tryz.lays189 blk off cap zs w hH hblk hsz
def Tryz.laysNm220_ren:Go.Shelf.Ren:=⟨fun|20=>222|n=>n,fun|22=>22|3=>3|4=>4|0=>0|n=>n,fun|n=>n⟩
theorem Tryz.laysNm220:Go.Proofs.Lays2.n20 Tryz.prog Tryz.laysNm220_ren:={
 mixed:=by kernel_rfl
 f20:=Tryz.func222.trans (congrArg some (by kernel_rfl))
 t0:=Tryz.underlying0
 a0:=Tryz.isAgg0
 z0:=Tryz.sizeOf0
 v0:=Tryz.zeroValue0
 t3:=Tryz.underlying3
 a3:=Tryz.isAgg3
 z3:=Tryz.sizeOf3
 v3:=Tryz.zeroValue3
 t4:=Tryz.underlying4
 a4:=Tryz.isAgg4
 z4:=Tryz.sizeOf4
 v4:=Tryz.zeroValue4
 t22:=Tryz.underlying22
 a22:=Tryz.isAgg22
 z22:=Tryz.sizeOf22
 v22:=Tryz.zeroValue22
 i3:=by kernel_rfl }
open Go.RowKit Go.Lib Go.Sort in
theorem Tryz.slices_Compact_int(blk off cap:Nat)(zs:List Int)(w:World)(hH:Holds (Value.int .i64) w blk off zs.toArray)(hsz:zs.length<=9223372036854775807)(hcap:zs.length<=cap) :
  Calls Tryz.prog 222 #[.slice (some ⟨blk,off,none⟩) zs.length cap] w λe w'=>e=.returned (.slice (some ⟨blk,off,none⟩) (Lib.compact zs).length cap)/\∃q,w'=putRow (Value.int .i64) (Sort.ahead w q) blk off (Lib.compact zs++List.replicate (zs.length-(Lib.compact zs).length) 0).toArray:=Any.slices_Compact_int Tryz.laysNm220 blk off cap zs w hH hsz hcap
open Go.RowKit Go.Lib Go.Sort in
theorem Tryz.slices_Compact_int_empty(a:Option Addr)(cap:Nat)(w:World) :
  Calls Tryz.prog 222 #[.slice a 0 cap] w λe w'=>e=.returned (.slice a 0 cap)/\w'=w:=Any.slices_Compact_int_empty Tryz.laysNm220 a cap w
open Go.RowKit Go.Sort in
theorem Tryz.slices_Sort_int_none(p:Option Addr)(cap:Nat)(w:World) :
  Calls Tryz.prog 221 #[.slice p 0 cap] w λe w'=>e=.returned (.tuple #[])/\w'=w:=Any.slices_Sort_int_none Tryz.lays189 p cap w
def Tryz.laysSlF6_f255_ren:Go.Shelf.Ren:=⟨fun|6=>255|15=>251|14=>281|28=>279|29=>280|20=>299|21=>300|22=>301|23=>302|24=>303|25=>304|26=>305|27=>306|46=>317|47=>294|48=>295|49=>318|50=>319|57=>329|n=>n,fun|22=>22|24=>3|25=>246|3=>3|39=>232|0=>0|53=>262|55=>264|4=>4|46=>256|45=>255|50=>131|5=>5|9=>9|66=>271|70=>275|76=>287|77=>288|n=>n,fun|n=>n⟩
def Tryz.sortFI_ren:Go.Shelf.Ren:=⟨fun|6=>255|15=>251|14=>281|28=>279|29=>280|20=>299|21=>300|22=>301|23=>302|24=>303|25=>304|26=>305|27=>306|46=>317|47=>294|48=>295|49=>318|50=>319|57=>329|n=>n,fun|22=>22|24=>3|25=>246|3=>3|39=>232|0=>0|53=>262|55=>264|4=>4|46=>256|45=>255|50=>131|5=>5|9=>9|66=>271|70=>275|76=>287|77=>288|n=>n,fun|n=>n⟩
theorem Tryz.sortFI:Go.Proofs.SlLaysF.n6 Tryz.prog Tryz.sortFI_ren:={
 mixed:=by kernel_rfl
 f6:=⟨Tryz.f255.name,by decide,Tryz.func255.trans (congrArg some (by kernel_rfl))⟩
 f14:=⟨Tryz.f281.name,by decide,Tryz.func281.trans (congrArg some (by kernel_rfl))⟩
 f15:=Tryz.func251.trans (congrArg some (by kernel_rfl))
 f20:=⟨Tryz.f299.name,by decide,Tryz.func299.trans (congrArg some (by kernel_rfl))⟩
 f21:=⟨Tryz.f300.name,by decide,Tryz.func300.trans (congrArg some (by kernel_rfl))⟩
 f22:=⟨Tryz.f301.name,by decide,Tryz.func301.trans (congrArg some (by kernel_rfl))⟩
 f23:=⟨Tryz.f302.name,by decide,Tryz.func302.trans (congrArg some (by kernel_rfl))⟩
 f24:=⟨Tryz.f303.name,by decide,Tryz.func303.trans (congrArg some (by kernel_rfl))⟩
 f25:=⟨Tryz.f304.name,by decide,Tryz.func304.trans (congrArg some (by kernel_rfl))⟩
 f26:=⟨Tryz.f305.name,by decide,Tryz.func305.trans (congrArg some (by kernel_rfl))⟩
 f27:=⟨Tryz.f306.name,by decide,Tryz.func306.trans (congrArg some (by kernel_rfl))⟩
 f28:=Tryz.func279.trans (congrArg some (by kernel_rfl))
 f29:=Tryz.func280.trans (congrArg some (by kernel_rfl))
 f46:=⟨Tryz.f317.name,by decide,Tryz.func317.trans (congrArg some (by kernel_rfl))⟩
 f47:=Tryz.func294.trans (congrArg some (by kernel_rfl))
 f48:=Tryz.func295.trans (congrArg some (by kernel_rfl))
 f49:=⟨Tryz.f318.name,by decide,Tryz.func318.trans (congrArg some (by kernel_rfl))⟩
 f50:=⟨Tryz.f319.name,by decide,Tryz.func319.trans (congrArg some (by kernel_rfl))⟩
 f57:=⟨Tryz.f329.name,by decide,Tryz.func329.trans (congrArg some (by kernel_rfl))⟩
 t0:=Tryz.underlying0
 a0:=Tryz.isAgg0
 z0:=Tryz.sizeOf0
 v0:=Tryz.zeroValue0
 t3:=Tryz.underlying3
 a3:=Tryz.isAgg3
 z3:=Tryz.sizeOf3
 v3:=Tryz.zeroValue3
 t4:=Tryz.underlying4
 a4:=Tryz.isAgg4
 z4:=Tryz.sizeOf4
 v4:=Tryz.zeroValue4
 t5:=Tryz.underlying5
 a5:=Tryz.isAgg5
 z5:=Tryz.sizeOf5
 v5:=Tryz.zeroValue5
 t9:=Tryz.underlying9
 a9:=Tryz.isAgg9
 z9:=Tryz.sizeOf9
 v9:=Tryz.zeroValue9
 t22:=Tryz.underlying22
 a22:=Tryz.isAgg22
 z22:=Tryz.sizeOf22
 v22:=Tryz.zeroValue22
 a24:=Tryz.isAgg3
 z24:=Tryz.sizeOf3
 t25:=Tryz.underlying246
 a25:=Tryz.isAgg246
 z25:=Tryz.sizeOf246
 v25:=Tryz.zeroValue246
 t39:=Tryz.underlying232
 a39:=Tryz.isAgg232
 z39:=Tryz.sizeOf232
 v39:=Tryz.zeroValue232
 t45:=Tryz.underlying255
 a45:=Tryz.isAgg255
 z45:=Tryz.sizeOf255
 v45:=Tryz.zeroValue255
 t46:=Tryz.underlying256
 a46:=Tryz.isAgg256
 z46:=Tryz.sizeOf256
 v46:=Tryz.zeroValue256
 t50:=Tryz.underlying131
 a50:=Tryz.isAgg131
 z50:=Tryz.sizeOf131
 v50:=Tryz.zeroValue131
 t53:=Tryz.underlying262
 a53:=Tryz.isAgg262
 z53:=Tryz.sizeOf262
 v53:=Tryz.zeroValue262
 t55:=Tryz.underlying264
 a55:=Tryz.isAgg264
 z55:=Tryz.sizeOf264
 v55:=Tryz.zeroValue264
 t66:=Tryz.underlying271
 a66:=Tryz.isAgg271
 z66:=Tryz.sizeOf271
 v66:=Tryz.zeroValue271
 t70:=Tryz.underlying275
 a70:=Tryz.isAgg275
 z70:=Tryz.sizeOf275
 v70:=Tryz.zeroValue275
 t76:=Tryz.underlying287
 a76:=Tryz.isAgg287
 z76:=Tryz.sizeOf287
 v76:=Tryz.zeroValue287
 t77:=Tryz.underlying288
 a77:=Tryz.isAgg288
 z77:=Tryz.sizeOf288
 v77:=Tryz.zeroValue288 }
def Tryz.sortFJ_ren:Go.Shelf.Ren:=⟨fun|6=>282|15=>251|14=>307|28=>279|29=>280|20=>320|21=>321|22=>322|23=>323|24=>324|25=>325|26=>326|27=>327|46=>330|47=>294|48=>295|49=>331|50=>332|57=>333|n=>n,fun|22=>29|24=>68|25=>267|3=>3|39=>232|0=>0|53=>262|55=>264|4=>4|46=>256|45=>255|50=>131|5=>5|9=>9|66=>271|70=>275|76=>287|77=>288|n=>n,fun|n=>n⟩
theorem Tryz.sortFJ:Go.Proofs.SlLaysF0.n6 Tryz.prog Tryz.sortFJ_ren:={
 mixed:=by kernel_rfl
 f6:=⟨Tryz.f282.name,by decide,Tryz.func282.trans (congrArg some (by kernel_rfl))⟩
 f14:=⟨Tryz.f307.name,by decide,Tryz.func307.trans (congrArg some (by kernel_rfl))⟩
 f15:=Tryz.func251.trans (congrArg some (by kernel_rfl))
 f20:=⟨Tryz.f320.name,by decide,Tryz.func320.trans (congrArg some (by kernel_rfl))⟩
 f21:=⟨Tryz.f321.name,by decide,Tryz.func321.trans (congrArg some (by kernel_rfl))⟩
 f22:=⟨Tryz.f322.name,by decide,Tryz.func322.trans (congrArg some (by kernel_rfl))⟩
 f23:=⟨Tryz.f323.name,by decide,Tryz.func323.trans (congrArg some (by kernel_rfl))⟩
 f24:=⟨Tryz.f324.name,by decide,Tryz.func324.trans (congrArg some (by kernel_rfl))⟩
 f25:=⟨Tryz.f325.name,by decide,Tryz.func325.trans (congrArg some (by kernel_rfl))⟩
 f26:=⟨Tryz.f326.name,by decide,Tryz.func326.trans (congrArg some (by kernel_rfl))⟩
 f27:=⟨Tryz.f327.name,by decide,Tryz.func327.trans (congrArg some (by kernel_rfl))⟩
 f28:=Tryz.func279.trans (congrArg some (by kernel_rfl))
 f29:=Tryz.func280.trans (congrArg some (by kernel_rfl))
 f46:=⟨Tryz.f330.name,by decide,Tryz.func330.trans (congrArg some (by kernel_rfl))⟩
 f47:=Tryz.func294.trans (congrArg some (by kernel_rfl))
 f48:=Tryz.func295.trans (congrArg some (by kernel_rfl))
 f49:=⟨Tryz.f331.name,by decide,Tryz.func331.trans (congrArg some (by kernel_rfl))⟩
 f50:=⟨Tryz.f332.name,by decide,Tryz.func332.trans (congrArg some (by kernel_rfl))⟩
 f57:=⟨Tryz.f333.name,by decide,Tryz.func333.trans (congrArg some (by kernel_rfl))⟩
 t0:=Tryz.underlying0
 a0:=Tryz.isAgg0
 z0:=Tryz.sizeOf0
 v0:=Tryz.zeroValue0
 t3:=Tryz.underlying3
 a3:=Tryz.isAgg3
 z3:=Tryz.sizeOf3
 v3:=Tryz.zeroValue3
 t4:=Tryz.underlying4
 a4:=Tryz.isAgg4
 z4:=Tryz.sizeOf4
 v4:=Tryz.zeroValue4
 t5:=Tryz.underlying5
 a5:=Tryz.isAgg5
 z5:=Tryz.sizeOf5
 v5:=Tryz.zeroValue5
 t9:=Tryz.underlying9
 a9:=Tryz.isAgg9
 z9:=Tryz.sizeOf9
 v9:=Tryz.zeroValue9
 t22:=Tryz.underlying29
 a22:=Tryz.isAgg29
 z22:=Tryz.sizeOf29
 v22:=Tryz.zeroValue29
 t25:=Tryz.underlying267
 a25:=Tryz.isAgg267
 z25:=Tryz.sizeOf267
 v25:=Tryz.zeroValue267
 t39:=Tryz.underlying232
 a39:=Tryz.isAgg232
 z39:=Tryz.sizeOf232
 v39:=Tryz.zeroValue232
 t45:=Tryz.underlying255
 a45:=Tryz.isAgg255
 z45:=Tryz.sizeOf255
 v45:=Tryz.zeroValue255
 t46:=Tryz.underlying256
 a46:=Tryz.isAgg256
 z46:=Tryz.sizeOf256
 v46:=Tryz.zeroValue256
 t50:=Tryz.underlying131
 a50:=Tryz.isAgg131
 z50:=Tryz.sizeOf131
 v50:=Tryz.zeroValue131
 t53:=Tryz.underlying262
 a53:=Tryz.isAgg262
 z53:=Tryz.sizeOf262
 v53:=Tryz.zeroValue262
 t55:=Tryz.underlying264
 a55:=Tryz.isAgg264
 z55:=Tryz.sizeOf264
 v55:=Tryz.zeroValue264
 t66:=Tryz.underlying271
 a66:=Tryz.isAgg271
 z66:=Tryz.sizeOf271
 v66:=Tryz.zeroValue271
 t70:=Tryz.underlying275
 a70:=Tryz.isAgg275
 z70:=Tryz.sizeOf275
 v70:=Tryz.zeroValue275
 t76:=Tryz.underlying287
 a76:=Tryz.isAgg287
 z76:=Tryz.sizeOf287
 v76:=Tryz.zeroValue287
 t77:=Tryz.underlying288
 a77:=Tryz.isAgg288
 z77:=Tryz.sizeOf288
 v77:=Tryz.zeroValue288 }
end Go.Proofs
namespace Go.Proofs.YtehomnafaoplgaaGreat
open Go Go.RowKit Eng
section
def U0V(zs:List Int):List Int:=zs.mergeSort λx y=>decide (x<=y)
def J1A(zs:List Int):Option (List Int):=if zs.length<4611686018427387904 then some (U0V zs)else none
def Qa(zs:List Int):List Int:=Lib.compact zs
theorem Q1Q:Qa []=[]:=by simp[Qa,Lib.compact,Lib.compactUpTo]
theorem W1Q(zs:List Int):(Qa zs).length<=zs.length:=by
 simp only[Qa,Lib.compact,Lib.compactUpTo,List.length_map]
 exact Nat.le_trans (List.length_filter_le ..) (by simp)
theorem Z1c(zs:List Int):(U0V zs).length=zs.length:=by simp[U0V]
theorem L1A{zs r:List Int}(h:J1A zs=some r):M0Q Tryz.prog Vn 1 (zs.map eI) [] false (r.map eI):=by
 unfold J1A at h
 split at h
 .rename_i hl
  cases h
  refine U1c (zs:=zs) (zs':=U0V zs) (λe=>by subst e;simp[U0V]) (λ_=>Z1c zs) ⟨λw=>?_,λw b cap cur ty h1 h2 h3 h4 h5=>?_⟩
  .exact(Tryz.slices_Sort_int_none none 0 w).mono λe w' h=>⟨by simp[h.1],h.2⟩
  .refine(Tryz.slices_Sort_int b 0 cap zs w (X1l h1 h5) (Array.getElem?_eq_some_iff.1 h1).1 hl).mono λe w' h=>?_
   obtain⟨he,n,os,hw⟩:=h
   rw[hw]
   obtain⟨cur',q1,q2,q3,q4,q5⟩:=W0V (zs:=U0V zs) h1 h4 (by rw[Z1c];exact h2) n os
   exact⟨by simp[he],cur',q1,q2,q3,by rw[Z1c];exact h2,rfl,rfl,rfl,q4,q5⟩
 .cases h
theorem X1m(zs:List Int):M0Q Tryz.prog Oq 1 (zs.map eI) [] true ((Qa zs).map eI):=by
 refine U1c (zs:=zs) (zs':=Qa zs) (λe=>by subst e;exact Q1Q) (λh=>by cases h) ⟨λw=>?_,λw b cap cur ty h1 h2 h3 h4 h5=>?_⟩
 .exact(Tryz.slices_Compact_int_empty none 0 w).mono λe w' h=>⟨by simp[h.1],h.2⟩
 .refine(Tryz.slices_Compact_int b 0 cap zs w (X1l h1 h5) (by simp only[maxLen]at h3;omega) h2).mono λe w' h=>?_
  obtain⟨he,q,hw⟩:=h
  rw[hw]
  have hcl:=W1Q zs
  have e0:(Lib.compact zs++List.replicate (zs.length-(Lib.compact zs).length) 0).length=zs.length:=by
   rw[yU,List.length_replicate];unfold Qa at hcl;omega
  obtain⟨cur',q1,q2,q3,q4,q5⟩:=W0V (zs:=Lib.compact zs++List.replicate (zs.length-(Lib.compact zs).length) 0) h1 h4 (by rw[e0];exact h2) q #[]
  rw[Go.Sort.grow_empty]at q1 q4 q5
  refine⟨by simp[he,Qa],cur',q1,q2,?_,by omega,rfl,rfl,rfl,q4,q5⟩
  have:=congrArg (·.take (Qa zs).length) q3
  simp only[List.take_take,i64v,← List.map_take]at this
  rw[e0,Nat.min_eq_left hcl]at this
  rw[this,i64v]
  congr 1
  exact List.take_left
section
variable{α β γ σ:Type}
theorem Y5{n:Int}(h:-9223372036854775808<=n/\n<=9223372036854775807):w64 n=n:=M1R h.1 h.2
theorem Wn{n:Nat}(h:n<9223372036854775807):w64 ((n:Int)+1)=((n+1:Nat):Int):=by rw[Y5 (by omega)];omega
theorem X19{n:Nat}(h0:0<n)(h:n<=9223372036854775807):w64 ((n:Int)-1)=((n-1:Nat):Int):=by rw[Y5 (by omega)];omega
theorem X3{l:List α}{i:Nat}:idx l (i:Int)=l[i]?:=by simp[idx]
theorem L0j{l:List α}{i:Int}(h0:0<=i)(h:i<l.length):∃x,idx l i=some x/\l[i.toNat]?=some x:=by
 have:i.toNat<l.length:=by omega
 exact⟨l[i.toNat],by simp[idx,h0,this],by simp[this]⟩
theorem Q0{bs:Nat}{l m:List α}(h:(l.length+m.length)*bs<=140737488355328):appL bs l m=some (l++m):=by simp[appL,h]
theorem V0{a b:Str}(h:a.length+b.length<=9223372036854775807):catS a b=some (a++b):=by simp[catS,h]
theorem Wq{p:Prop}(h:¬ p):(false=true↔p):=by simp[h]
@[simp] theorem M2G {c:Bool}{a b:Option α}{f:α->Option β}:(bif c then a else b).bind f=bif c then a.bind f else b.bind f:=by cases c<;>rfl
theorem O1B{α2 β2:Type}{bd:α->Nat->β->(β->Option γ)->Option γ}{kk:β->Option γ}{bd2:α2->Nat->β2->(β2->Option γ)->Option γ}{kk2:β2->Option γ}
  (R:Nat->β->β2->Prop) {l0:List α} {m0:List α2} (hl:l0.length=m0.length)
  (h:∀i x y b c (k:β->Option γ) (k2:β2->Option γ),l0[i]?=some x->m0[i]?=some y->R i b c->(∀b' c',R (i+1) b' c'->k b'=k2 c')->bd x i b k=bd2 y i c k2)
  (hk:∀b c,R l0.length b c->kk b=kk2 c) {b:β} {c:β2} (h0:R 0 b c):rgl bd kk l0 0 b=rgl bd2 kk2 m0 0 c:=by
 have key:∀(n i:Nat) (b:β) (c:β2),l0.length-i=n->i<=l0.length->R i b c->rgl bd kk (l0.drop i) i b=rgl bd2 kk2 (m0.drop i) i c:=by
  intro n
  induction n with
  |zero =>
   intro i b c hn hi hr
   have:i=l0.length:=by omega
   subst this
   rw[List.drop_length,hl,List.drop_length]
   exact hk b c (by simpa using hr)
  |succ n ih =>
   intro i b c hn hi hr
   have h1:i<l0.length:=by omega
   have h2:i<m0.length:=by omega
   rw[List.drop_eq_getElem_cons h1,List.drop_eq_getElem_cons h2,rgl,rgl]
   exact h i _ _ b c _ _ (yA h1) (yA h2) hr λb' c' hr'=>ih (i+1) b' c' (by omega) (by omega) hr'
 have:=key l0.length 0 b c (by simp) (Nat.zero_le _) h0
 simpa using this
theorem V0u{bd bd2:α->Nat->β->(β->Option γ)->Option γ}{kk kk2:β->Option γ}{l:List α}{b:β}
  (h:∀i x b (k:β->Option γ),l[i]?=some x->bd x i b k=bd2 x i b k) (hk:∀b,kk b=kk2 b):rgl bd kk l 0 b=rgl bd2 kk2 l 0 b :=
 O1B (λ_ b c=>b=c) rfl (λi x y b c k k2 hx hy hr hkk=>by
  subst hr;rw[hx]at hy;cases hy
  rw[h i x b k hx]
  congr 1
  funext b'
  exact hkk b' b' rfl) (λb c hr=>by subst hr;exact hk b) rfl
theorem Lh{bd:α->Nat->β->(β->Option γ)->Option γ}{kk:β->Option γ}(I:Nat->β->Prop)(Q:Option γ->Prop){l0:List α}
  (h:∀i x b (k:β->Option γ),l0[i]?=some x->I i b->(∀b',I (i+1) b'->Q (k b'))->Q (bd x i b k)) (hk:∀b,I l0.length b->Q (kk b)) {b:β} (h0:I 0 b):Q (rgl bd kk l0 0 b):=by
 have key:∀(n i:Nat) (b:β),l0.length-i=n->i<=l0.length->I i b->Q (rgl bd kk (l0.drop i) i b):=by
  intro n
  induction n with
  |zero =>
   intro i b hn hi hr
   have:i=l0.length:=by omega
   subst this
   rw[List.drop_length]
   exact hk b hr
  |succ n ih =>
   intro i b hn hi hr
   have h1:i<l0.length:=by omega
   rw[List.drop_eq_getElem_cons h1,rgl]
   exact h i _ b _ (yA h1) hr λb' hr'=>ih (i+1) b' (by omega) (by omega) hr'
 have:=key l0.length 0 b (by simp) (Nat.zero_le _) h0
 simpa using this
theorem JM{bd:α->Nat->β->(β->Option γ)->Option γ}{kk:β->Option γ}{f:β->α->β}:∀{l:List α} {i:Nat} {b:β},(∀x∈l,∀i b k,bd x i b k=k (f b x))->rgl bd kk l i b=kk (l.foldl f b)
 |[],_,_,_=>rfl
 |x::l,i,b,h=>by
  rw[rgl,h x (yJ ..),List.foldl_cons]
  exact JM λy hy=>h y (yH _ hy)
theorem Ox{bd:α->Nat->Unit->(Unit->Option γ)->Option γ}{kk:Unit->Option γ}{p:α->Bool}{r:Option γ}:∀{l:List α} {i:Nat},(∀x∈l,∀i k,bd x i () k=bif p x then r else k ())->rgl bd kk l i ()=bif l.any p then r else kk ()
 |[],_,_=>rfl
 |x::l,i,h=>by
  rw[rgl,h x (yJ ..),Ox λy hy=>h y (yH _ hy),List.any_cons]
  cases p x<;>rfl
theorem Q27{α2:Type}{bd:α->Nat->β->(β->Option γ)->Option γ}{kk:β->Option γ}{f:α2->α}:∀{l:List α2} {i:Nat} {b:β},rgl bd kk (l.map f) i b=rgl (λx=>bd (f x)) kk l i b
 |[],_,_=>rfl
 |x::l,i,b=>by
  rw[List.map_cons,rgl,rgl]
  congr 1
  funext b'
  exact Q27
theorem Q7{bs:Nat}{bd:α->Nat->List β->(List β->Option γ)->Option γ}{kk:List β->Option γ}{p:α->Bool}{f:α->β}:∀{l:List α} {i:Nat} {acc:List β},
  (∀x∈l,∀i b k,bd x i b k=bif p x then(appL bs b [f x]).bind k else k b)->(acc.length+l.length)*bs<=140737488355328->rgl bd kk l i acc=kk (acc++(l.filter p).map f)
 |[],_,acc,_,_=>by simp[rgl]
 |x::l,i,acc,h,hb=>by
  rw[rgl,h x (yJ ..)]
  have hb1:(acc.length+1+l.length)*bs<=140737488355328:=by simpa[Nat.add_assoc,Nat.add_comm 1]using hb
  cases hp:p x with
  |true =>
   have:(acc.length+1)*bs<=(acc.length+1+l.length)*bs:=Nat.mul_le_mul_right _ (by omega)
   rw[yN,Q0 (by simp;omega),bS,Q7 (λy hy=>h y (yH _ hy)) (by simpa using hb1)]
   simp[hp]
  |false =>
   have:(acc.length+l.length)*bs<=(acc.length+1+l.length)*bs:=Nat.mul_le_mul_right _ (by omega)
   rw[yM,Q7 (λy hy=>h y (yH _ hy)) (by omega)]
   simp[hp]
theorem W0r{bd:β->(β->Option γ)->Option γ}(mk:Nat->σ->β){B:Nat->Nat->σ->(σ->Option γ)->Option γ}{kk:σ->Option γ}{n:Nat}
  (h1:∀i st k,i<n->bd (mk i st) k=B i i st λst'=>k (mk (i+1) st')) (h2:∀i st k,n<=i->bd (mk i st) k=kk st):∀(fuel i:Nat) (st:σ),n-i<fuel->whl bd fuel (mk i st)=rgl B kk (List.range' i (n-i)) i st
 |0,i,st,h=>by omega
 |fuel+1,i,st,h=>by
  rw[whl]
  by_cases hi:i<n
  .rw[h1 i st _ hi,show n-i=n-(i+1)+1 by omega,List.range'_succ,rgl]
   congr 1
   funext st'
   exact W0r mk h1 h2 fuel (i+1) st' (by omega)
  .rw[h2 i st _ (by omega),show n-i=0 by omega]
   rfl
theorem Xw{bd:β->(β->Option γ)->Option γ}(Q:β->Option γ->Prop)(m:β->Nat)(I:β->Prop)(h:∀b (k:β->Option γ),I b->(∀b',I b'->m b'<m b->Q b' (k b'))->Q b (bd b k)):∀(fuel:Nat) (b:β),I b->m b<fuel->Q b (whl bd fuel b)
 |0,_,_,h=>by omega
 |fuel+1,b,hI,hm=>by
  rw[whl]
  exact h b _ hI λb' hI' hlt=>Xw Q m I h fuel b' hI' (by omega)
end
end
def zna(l:List Int):NW:=⟨_,nw_I l⟩
abbrev zfa(l:List Int):AV:=.sl .nw 1 (l.map eI)
abbrev zra(l:List Int):AV:=.sl .rd 1 (l.map eI)
def zwa(l:List Int):Row:=⟨1,l.map eI,false⟩
def znb(l:List Str):NW:=⟨_,nw_S l⟩
abbrev zfb(l:List Str):AV:=.sl .nw 1 (l.map eS)
abbrev zrb(l:List Str):AV:=.sl .rd 1 (l.map eS)
def zwb(l:List Str):Row:=⟨1,l.map eS,false⟩
def znc(l:List Int):NW:=⟨_,nw_B l⟩
abbrev zfc(l:List Int):AV:=.sl .nw 1 (l.map eB)
abbrev zrc(l:List Int):AV:=.sl .rd 1 (l.map eB)
def zwc(l:List Int):Row:=⟨1,l.map eB,false⟩
def znd(l:List Bool):NW:=⟨_,M4 l⟩
abbrev zfd(l:List Bool):AV:=.sl .nw 1 (l.map eBo)
abbrev zrd(l:List Bool):AV:=.sl .rd 1 (l.map eBo)
def zwd(l:List Bool):Row:=⟨1,l.map eBo,false⟩
def zne(l:List Node):NW:=⟨_,L0 l⟩
abbrev zfe(l:List Node):AV:=.sl .nw 4 (l.map Q1)
abbrev zre(l:List Node):AV:=.sl .rd 4 (l.map Q1)
def zwe(l:List Node):Row:=⟨4,l.map Q1,false⟩
def znf(l:List Job):NW:=⟨_,M2 l⟩
abbrev zff(l:List Job):AV:=.sl .nw 11 (l.map eJob)
abbrev zrf(l:List Job):AV:=.sl .rd 11 (l.map eJob)
def zwf(l:List Job):Row:=⟨11,l.map eJob,false⟩
def zng(l:List Run):NW:=⟨_,O1 l⟩
abbrev zfg(l:List Run):AV:=.sl .nw 13 (l.map (X1 .nw))
abbrev zrg(l:List Run):AV:=.sl .rd 13 (l.map (X1 .nw))
def zwg(l:List Run):Row:=⟨13,l.map (X1 .nw),false⟩
abbrev zqg(l:List Run):AV:=.sl .rd 13 (l.map (X1 .rd))
def znh(l:List End):NW:=⟨_,U3 l⟩
abbrev zfh(l:List End):AV:=.sl .nw 3 (l.map eEnd)
abbrev zrh(l:List End):AV:=.sl .rd 3 (l.map eEnd)
def zwh(l:List End):Row:=⟨3,l.map eEnd,false⟩
def zni(l:List Pt):NW:=⟨_,Jq l⟩
abbrev zfi(l:List Pt):AV:=.sl .nw 4 (l.map ePt)
abbrev zri(l:List Pt):AV:=.sl .rd 4 (l.map ePt)
def zwi(l:List Pt):Row:=⟨4,l.map ePt,false⟩
def znj(l:List (List Pt)):NW:=⟨_,Vb l⟩
abbrev zfj(l:List (List Pt)):AV:=.sl .nw 1 (l.map (O2 .nw))
abbrev zrj(l:List (List Pt)):AV:=.sl .rd 1 (l.map (O2 .nw))
def zwj(l:List (List Pt)):Row:=⟨1,l.map (O2 .nw),false⟩
abbrev zqj(l:List (List Pt)):AV:=.sl .rd 1 (l.map (O2 .rd))
abbrev SP(f:FuncId)(u:List AV)(r:AV)(w:List Row):Prop:=Snd Tryz.prog f u r w
abbrev SQ(f:FuncId)(u:List AV)(r:AV):Prop:=Snd Tryz.prog f u r []
abbrev zs(s:State)(a q r e:AV):List AV:=[.sl .nw 1 (s.topo.parents.map eI),.sl .nw 4 (s.topo.nodes.map Q1),a,.int .i64 s.lic.a,.int .i64 s.lic.b,.int .i64 s.lic.c,.int .i64 s.depth,.int .i64 s.now,q,r,e]
abbrev zX(s:State):AV:=.agg [.sl .rd 1 (s.topo.parents.map eI),.sl .rd 4 (s.topo.nodes.map Q1),.sl .rd 1 (s.up.map eBo),.int .i64 s.lic.a,.int .i64 s.lic.b,.int .i64 s.lic.c,.int .i64 s.depth,.int .i64 s.now,.sl .rd 11 (s.queue.map eJob),.sl .rd 13 (s.runs.map (X1 .nw)),.sl .rd 3 (s.ends.map eEnd)]
abbrev zR(r:Room):AV:=.agg [.sl .rd 1 (r.topo.parents.map eI),.sl .rd 4 (r.topo.nodes.map Q1),.sl .rd 1 (r.up.map eBo),.sl .rd 1 (r.profs.map (O2 .nw)),.sl .rd 4 (r.lics.map ePt)]
def zl{α:Type}(k:Nat)(l:List α)(i:Nat):List (Nat×AV):=[(k,.int .i64 (l.length:Int)),(k+1,.int .i64 (i:Int))]
abbrev z0:List Hn:=[.n 1,.n 4,.n 1,.d,.d,.d,.d,.d,.n 11,.n 13,.n 3]
abbrev z1:List NW:=[zna [],zne [],znd [],znf [],zng [],znh []]
abbrev z2:List AV:=[.nl,.nl,.nl,iV 0,iV 0,iV 0,iV 0,iV 0,.nl,.nl,.nl]
abbrev z3:List Hn:=[.n 1,.n 4,.n 1,.n 1,.n 4]
abbrev z4:List AV:=[.nl,.nl,.nl,.nl,.nl]
abbrev z5:List Hn:=[.d,.d,.f,.d,.d,.d,.d,.d,.d,.f,.f]
abbrev z6:List Hn:=[.d,.d,.d,.d,.d,.d,.d,.d,.f,.d,.d]
abbrev z7:List NW:=[zna [],zne []]
abbrev z8:List AV:=[.nl,.nl,.nl,.int .i64 0,.int .i64 0,.int .i64 0,.int .i64 0,.int .i64 0,.nl,.nl,.nl]
abbrev z9:List AV:=[.int .i64 0,.int .i64 0,.int .i64 0,.int .i64 0,.int .i64 0,.int .i64 0,.int .i64 0,.int .i64 0,.int .i64 0,.int .i64 0,.int .i64 0]
abbrev za:List Hn:=[.d,.d,.d,.d,.d,.d,.d,.d,.d,.d,.d,.d,.f]
abbrev zb:List Hn:=[.d,.d,.f,.d,.d,.d,.d,.d,.f,.f,.d]
abbrev tI:=List Int
abbrev tJ:=List Job
abbrev tP:=List Pt
abbrev tT:=List Str
abbrev tR:=List Run
abbrev tB:=List Bool
abbrev tE:=List End
abbrev tH:=List Held
def zzMark:Nat:=0
def X02(n1:Int):Option Bool :=
 some (decide (0<=n1)&&decide (n1<=1000000))
theorem M13{n1:Int}{r:Bool}(H:X02 n1=some r):SQ O0k [iV n1] (.bool r):=by
 exact wa [.t 2] (sI H▸wV)
def Lb(n1:Int):Bool :=
 (decide (0<=n1)&&decide (n1<=1000000))
theorem Y1A(n1:Int):X02 n1=some (Lb n1):=by
 unfold X02 Lb
 first|rfl|simp only[U4]
theorem Q0c(n1:Int):Snd Tryz.prog O0k [iV n1] (.bool (Lb n1)) []:=M13 (Y1A n1)
def LU(n1:Int):Option Bool :=
 some (decide (0<=n1)&&decide (n1<=1000000000))
theorem O0U{n1:Int}{r:Bool}(H:LU n1=some r):SQ U0e [iV n1] (.bool r):=by
 exact wa [.t 2] (sI H▸wV)
def Q3(n1:Int):Bool :=
 (decide (0<=n1)&&decide (n1<=1000000000))
theorem W1n(n1:Int):LU n1=some (Q3 n1):=by
 unfold LU Q3
 first|rfl|simp only[U4]
theorem X9(n1:Int):Snd Tryz.prog U0e [iV n1] (.bool (Q3 n1)) []:=O0U (W1n n1)
def Z0a(v1:Vec):Option Bool :=
 some (((Lb v1.a)&&(Lb v1.b))&&(Lb v1.c))
theorem M1b{v1:Vec}{r:Bool}(H:Z0a v1=some r):SQ U0y [eVec v1] (.bool r):=by
 exact wa [.t 2] (wH [.c 5 (Q0c v1.a),.d 9 [((Lb v1.a),true)] λ_=>Q0c v1.b,.d 14 [(((Lb v1.a)&&(Lb v1.b)),true)] λ_=>Q0c v1.c] (sI H▸wD))
def U0(v1:Vec):Bool :=
 (((Lb v1.a)&&(Lb v1.b))&&(Lb v1.c))
theorem Q1K(v1:Vec):Z0a v1=some (U0 v1):=by
 unfold Z0a U0
 first|rfl|simp only[U4]
theorem X6(v1:Vec):Snd Tryz.prog U0y [eVec v1] (.bool (U0 v1)) []:=M1b (Q1K v1)
def JU(a1 b2:Vec):Option Bool :=
 some (((((U0 a1)&&(U0 b2))&&decide (a1.a<=b2.a))&&decide (a1.b<=b2.b))&&decide (a1.c<=b2.c))
theorem M0U{a1 b2:Vec}{r:Bool}(H:JU a1 b2=some r):SQ Q0e [eVec a1,eVec b2] (.bool r):=by
 exact wa [.t 4] (wH [.c 6 (X6 a1),.d 9 [((U0 a1),true)] λ_=>X6 b2] (sI H▸wD))
def X5(a1 b2:Vec):Bool :=
 (((((U0 a1)&&(U0 b2))&&decide (a1.a<=b2.a))&&decide (a1.b<=b2.b))&&decide (a1.c<=b2.c))
theorem L1n(a1 b2:Vec):JU a1 b2=some (X5 a1 b2):=by
 unfold JU X5
 first|rfl|simp only[U4]
theorem Z05(a1 b2:Vec):Snd Tryz.prog Q0e [eVec a1,eVec b2] (.bool (X5 a1 b2)) []:=M0U (L1n a1 b2)
def W02(a1 b2:Vec):Option (Vec×Bool) :=
 bif (!(U0 a1))||(!(U0 b2))then(some ((Vec.mk 0 0 0),false))else(bif !(U0 (Vec.mk (w64 (a1.a+b2.a)) (w64 (a1.b+b2.b)) (w64 (a1.c+b2.c))))then(some ((Vec.mk 0 0 0),false))else(some ((Vec.mk (w64 (a1.a+b2.a)) (w64 (a1.b+b2.b)) (w64 (a1.c+b2.c))),true)))
theorem V14{a1 b2:Vec}{r:Vec×Bool}(H:W02 a1 b2=some r):SQ Z0l [eVec a1,eVec b2] (.tup [eVec r.1,.bool r.2]):=by
 exact wa [.c 4 3 true,.t 5] (wH [.c 8 (X6 a1),.d 12 [((!(U0 a1)),false)] λ_=>X6 b2] (X0 H (λH=>sI H▸wQ [(4,[])] []) λH=>wH [.u 33 (.call _ _ _ _ _ (AEs.refl _) (λ_=>X6 (Vec.mk (w64 (a1.a+b2.a)) (w64 (a1.b+b2.b)) (w64 (a1.c+b2.c)))))] (X0 H (λH=>sI H▸wQ [(4,[])] []) λH=>sI H▸wQ [(4,[])] [])))
def QR(a1 b2:Vec):Vec×Bool :=
 bif (!(U0 a1))||(!(U0 b2))then(((Vec.mk 0 0 0),false))else(bif !(U0 (Vec.mk (w64 (a1.a+b2.a)) (w64 (a1.b+b2.b)) (w64 (a1.c+b2.c))))then(((Vec.mk 0 0 0),false))else(((Vec.mk (w64 (a1.a+b2.a)) (w64 (a1.b+b2.b)) (w64 (a1.c+b2.c))),true)))
theorem Q1A(a1 b2:Vec):W02 a1 b2=some (QR a1 b2):=by
 unfold W02 QR
 first|rfl|simp only[U4]
theorem J1n(a1 b2:Vec):Snd Tryz.prog Z0l [eVec a1,eVec b2] (.tup [eVec ((QR a1 b2).1),.bool ((QR a1 b2).2)]) []:=V14 (Q1A a1 b2)
def U02(a1 b2:Vec):Option (Vec×Bool) :=
 bif !(X5 b2 a1)then(some ((Vec.mk 0 0 0),false))else(some ((Vec.mk (w64 (a1.a-b2.a)) (w64 (a1.b-b2.b)) (w64 (a1.c-b2.c))),true))
theorem Z14{a1 b2:Vec}{r:Vec×Bool}(H:U02 a1 b2=some r):SQ L0k [eVec a1,eVec b2] (.tup [eVec r.1,.bool r.2]):=by
 exact wa [.c 4 3 true,.t 5] (wH [.c 8 (Z05 b2 a1)] (X0 H (λH=>sI H▸wQ [(4,[])] []) λH=>sI H▸wQ [(4,[])] []))
def L6(a1 b2:Vec):Vec×Bool :=
 bif !(X5 b2 a1)then(((Vec.mk 0 0 0),false))else(((Vec.mk (w64 (a1.a-b2.a)) (w64 (a1.b-b2.b)) (w64 (a1.c-b2.c))),true))
theorem V1A(a1 b2:Vec):U02 a1 b2=some (L6 a1 b2):=by
 unfold U02 L6
 first|rfl|simp only[U4]
theorem O1n(a1 b2:Vec):Snd Tryz.prog L0k [eVec a1,eVec b2] (.tup [eVec ((L6 a1 b2).1),.bool ((L6 a1 b2).2)]) []:=Z14 (V1A a1 b2)
def V02(a1 b2:Int):Option Int :=
 bif decide (a1<b2)then(some a1)else(some b2)
theorem L13{a1 b2 r:Int}(H:V02 a1 b2=some r):SQ M0k [iV a1,iV b2] (iV r):=by
 exact wa [.t 4] (wP (X0 H (λH=>sI H▸wV) λH=>sI H▸wV))
def M6(a1 b2:Int):Int :=
 bif decide (a1<b2)then(a1)else(b2)
theorem X1A(a1 b2:Int):V02 a1 b2=some (M6 a1 b2):=by
 unfold V02 M6
 first|rfl|simp only[U4]
theorem W0c(a1 b2:Int):Snd Tryz.prog M0k [iV a1,iV b2] (iV (M6 a1 b2)) []:=L13 (X1A a1 b2)
def Q02(a1 b2:Vec):Option Vec :=
 bif (!(U0 a1))||(!(U0 b2))then(some (Vec.mk 0 0 0))else(some (Vec.mk (M6 a1.a b2.a) (M6 a1.b b2.b) (M6 a1.c b2.c)))
theorem X14{a1 b2 r:Vec}(H:Q02 a1 b2=some r):SQ J0k [eVec a1,eVec b2] (eVec r):=by
 exact wc [(3,16)] [.c 4 3 true] (wH [.c 6 (X6 a1),.d 10 [((!(U0 a1)),false)] λ_=>X6 b2] (X0 H (λH=>sI H▸wQ [(4,[])] []) λH=>wH [.c 18 (W0c a1.a b2.a),.c 23 (W0c a1.b b2.b),.c 28 (W0c a1.c b2.c)] (sI H▸wM [(4,[])] [])))
def L3(a1 b2:Vec):Vec :=
 bif (!(U0 a1))||(!(U0 b2))then((Vec.mk 0 0 0))else((Vec.mk (M6 a1.a b2.a) (M6 a1.b b2.b) (M6 a1.c b2.c)))
theorem U1A(a1 b2:Vec):Q02 a1 b2=some (L3 a1 b2):=by
 unfold Q02 L3
 first|rfl|simp only[U4]
theorem M1n(a1 b2:Vec):Snd Tryz.prog J0k [eVec a1,eVec b2] (eVec (L3 a1 b2)) []:=X14 (U1A a1 b2)
noncomputable def W1h:L :=
 lf Tryz.prog O0e [11] [] [] [] [(5,11)] [] []
def Ji:Nat->Int->Option Str
 |0,_=>none
 |fuel+1,n1 =>
 bif !(Q3 n1)then(some ([]:Str))else(bif decide (n1<10)then((b2sQ [(IntKind.wrap .u8 (w64 (48+n1)))]).bind λw2=>some w2)else((quoI .i64 n1 10).bind λn3=>((Ji fuel) n3).bind λw4=>(remI n1 10).bind λn5=>(b2sQ [(IntKind.wrap .u8 (w64 (48+n5)))]).bind λw6=>(catS w4 w6).bind λw7=>some w7))
def Y6(n1:Int):Option Str:=Ji 100000000 n1
theorem X0V(fuel:Nat):∀{n1:Int} {r:Str} (_:Ji fuel n1=some r),Snd Tryz.prog O0e [.int .i64 n1] (.str r) []:=by
 induction fuel with
 |zero=>intro n1 r H;cases H
 |succ fuel IH =>
 intro n1 r H
 refine wS W1h [.t 2] ?_
 rw[Ji]at H
 refine wH [.c 4 (X9 n1)] ?_
 refine X0 H ?_ ?_<;>intro H
 .obtain rfl:=sI H
  exact wP (wE [(2,.d)])
 .refine wP ?_
  refine X0 H ?_ ?_<;>intro H
  .obtain⟨w2,h2,H⟩:=bB H
   refine wH [.u 12 (.b2s _ _ λ_=>W0b h2)] ?_
   replace H:=sI H;subst H
   exact wE [(2,.d)]
  .obtain⟨n3,h3,w4,h4,n5,h5,H⟩:=bB3 H
   obtain⟨w6,h6,w7,h7,H⟩:=bB2 H
   refine wH [.u 14 (.quo _ _ _ _ λ_=>h3),.c 15 (IH h4),.u 17 (.rem _ _ _ λ_=>h5),.u 21 (.b2s _ _ λ_=>W0b h6),.u 22 (.sa _ _ _ λ_=>h7)] ?_
   replace H:=sI H;subst H
   exact wE [(2,.d)]
theorem W5{n1:Int}{r:Str}(H:Y6 n1=some r):Snd Tryz.prog O0e [iV n1] (.str r) []:=X0V _ H
def ZG(s1:Str)(v2:Int×Int)(k2:(Int×Int)->Option (Int×Bool)):Option (Int×Bool) :=
 bif decide (v2.2<(s1.length:Int))then((idx s1 v2.2).bind λc3=>bif decide ((c3.toNat:Int)<48)||decide (57<(c3.toNat:Int))then(some (0,false))else(k2 ((w64 ((w64 (v2.1*10))+(IntKind.wrap .i64 (IntKind.wrap .u8 ((c3.toNat:Int)-48))))),(w64 (v2.2+1)))))else((Y6 v2.1).bind λw4=>bif w4 != s1 then(some (0,false))else(some (v2.1,true)))
def Ya(s1:Str):Option (Int×Bool) :=
 bif decide ((s1.length:Int)<1)||decide (10<(s1.length:Int))then(some (0,false))else(whl (ZG s1) 9223372036854775807 (0,0))
theorem Va{s1:Str}{r:Int×Bool}(H:Ya s1=some r):SQ J0F [.str s1] (.tup [iV r.1,.bool r.2]):=by
 refine wa [.t 2,.t 3] (wP (X0 H (λH=>sI H▸wV) λH=>wP (wW (λ(v2:Int×Int)=>⟨[(0,.str s1),(4,iV v2.1),(5,iV v2.2)],[],[],[]⟩) H (λv2 I m k2 H N28=>?_))))
 refine wP ?_
 refine X0 H ?_ ?_<;>intro H
 .exact bC H λc3 h3 H=>wH [.u 22 (.sx _ _ _ λ_=>h3),.g 27 [((decide ((c3.toNat:Int)<48)),false)] (.sx _ _ _ λ_=>h3)] (X0 H (λH=>sI H▸wV) λH=>wH [.u 34 (.sx _ _ _ λ_=>h3)] (wT (N28 _ H)))
 .exact bC H λw4 h4 H=>wH [.c 39 (W5 h4)] (X0 H (λH=>sI H▸wV) λH=>sI H▸wV)
def Y0D(s1:Str)(b2:Int)(v3:Int×Int×tT)(k3:(Int×Int×tT)->Option tT):Option tT :=
 bif decide (v3.2.1<(s1.length:Int))then((idx s1 v3.2.1).bind λc4=>bif (c4.toNat:Int)==b2 then((cutL s1 (some v3.1) (some v3.2.1)).bind λw5=>(appL 16 v3.2.2 [w5]).bind λxs6=>k3 ((w64 (v3.2.1+1)),(w64 (v3.2.1+1)),xs6))else(k3 (v3.1,(w64 (v3.2.1+1)),v3.2.2)))else((cutL s1 (some v3.1) none).bind λw7=>(appL 16 v3.2.2 [w7]).bind λxs8=>some xs8)
def JA(s1:Str)(b2:Int):Option tT :=
 whl (Y0D s1 b2) 9223372036854775807 (0,0,[])
theorem MA{s1:Str}{b2:Int}{r:tT}(H:JA s1 b2=some r):SQ M11 [.str s1,.int .u8 b2] (zfb r):=by
 refine wb [8] [.t 4] (wP (wW (λ(v3:Int×Int×tT)=>⟨[(0,.str s1),(1,.int .u8 b2),(5,.sref 8),(6,iV v3.1),(7,iV v3.2.1)],[],[],[(8,zwb v3.2.2)]⟩) H (λv3 I m k3 H N20=>?_)))
 refine wP ?_
 refine X0 H ?_ ?_<;>intro H
 .refine bC H λc4 h4 H=>wH [.u 17 (.sx _ _ _ λ_=>h4)] ?_
  refine X0 H ?_ ?_<;>intro H
  .exact bC2 H λw5 h5 xs6 h6 H=>wH [.u 24 (.ss _ _ _ _ λ_=>h5),.p 26 eS h6] (wT (N20 _ H))
  .exact wP (wT (N20 _ H))
 .exact bC2 H λw7 h7 xs8 h8 H=>wH [.u 32 (.ss _ _ _ _ λ_=>h7),.p 34 eS h8] (sI H▸wN [(4,.f)] [] [] [8] [] [znb xs8])
def Wi(v1:Vec):Option Str :=
 bif !(U0 v1)then(some ([]:Str))else((Y6 v1.a).bind λw2=>(catS w2 ([47]:Str)).bind λw3=>(Y6 v1.b).bind λw4=>(catS w3 w4).bind λw5=>(catS w5 ([47]:Str)).bind λw6=>(Y6 v1.c).bind λw7=>(catS w6 w7).bind λw8=>some w8)
theorem Lo{v1:Vec}{r:Str}(H:Wi v1=some r):SQ M0F [eVec v1] (.str r):=by
 exact wc [(3,14)] [.t 2] (wH [.c 4 (X6 v1)] (X0 H (λH=>sI H▸wV) λH=>bC3 H λw2 h2 w3 h3 w4 h4 H=>bC3 H λw5 h5 w6 h6 w7 h7 H=>bC H λw8 h8 H=>wH [.c 8 (W5 h2),.u 9 (.sa _ _ _ λ_=>h3),.c 12 (W5 h4),.u 13 (.sa _ _ _ λ_=>h5),.u 14 (.sa _ _ _ λ_=>h6),.c 17 (W5 h7),.u 18 (.sa _ _ _ λ_=>h8)] (sI H▸wD)))
noncomputable def O1g:L :=
 lf Tryz.prog L0F [8] [] [] [] [(8,11)] [] []
def Y4(x4:Str)(i4:Nat)(v4:tI)(k4:tI->Option (Vec×Bool)):Option (Vec×Bool) :=
 bif decide ((i4:Int)<3)then((Ya x4).bind λy5=>(idx v4 (i4:Int)).bind λ_=>k4 (v4.set (i4:Int).toNat y5.1))else(k4 v4)
def W3(s1:Str)(v4:tI):Option (Vec×Bool) :=
 (idx v4 0).bind λe7=>(idx v4 1).bind λe8=>(idx v4 2).bind λe9=>(Wi (Vec.mk e7 e8 e9)).bind λw10=>bif w10 != s1 then(some ((Vec.mk 0 0 0),false))else(some ((Vec.mk e7 e8 e9),true))
def Xm(s1:Str):Option (Vec×Bool) :=
 (JA s1 47).bind λy2=>rgl Y4 (W3 s1) y2 0 [0,0,0]
theorem Jw{s1:Str}{r:Vec×Bool}(H:Xm s1=some r):SQ L0F [.str s1] (.tup [eVec r.1,.bool r.2]):=by
 refine wS O1g [.c 2 3 true,.t 3] (bC H λy2 h2 H=>wG [.c 10 (MA h2),.l 11 y2 eS] λq3=>wL (λ(i4:Nat) (v4:tI)=>⟨[(0,.str s1),pB 2,(4,.sref 8),(10,zfb y2)]++zl 11 y2 i4,[],[(2,(eVec (Vec.mk 0 0 0)).cells)],[(8,zwa v4)]⟩) H (λi4 x4 v4 I m k4 A4 B4 H N19=>?_) (λv4 I m H=>?_))
 .refine wH [.y 15 eS A4] (X0 H (λH=>?_) λH=>wH [.i 27 B4 q3.1] (wT (N19 _ H)))
  exact bC2 H λy5 h5 e6 h6 H=>wH [.c 23 (Va h5),.x 26 eI h6,.u 1000000 (.sto _ _ _ (eI y5.1) _ (λ_=>gm eI (V4 h6)) (λ_=>YS ..)),.i 27 B4 q3.1] (wT (N19 _ H))
 .exact bC3 H λe7 h7 e8 h8 e9 h9 H=>bC H λw10 h10 H=>wH [.x 29 eI h7,.u 30 (.el _ _ _ λ_=>gm eI (V4 h7)),.x 32 eI h8,.u 33 (.el _ _ _ λ_=>gm eI (V4 h8)),.x 35 eI h9,.u 36 (.el _ _ _ λ_=>gm eI (V4 h9)),.c 39 (Lo h10)] (X0 H (λH=>sI H▸wQ [(2,[])] []) λH=>sI H▸wQ [(2,[])] [])
def J02(x1 lo2 hi3:Int):Option Bool :=
 some (decide (lo2<=x1)&&decide (x1<=hi3))
theorem W17{x1 lo2 hi3:Int}{r:Bool}(H:J02 x1 lo2 hi3=some r):SQ X0l [iV x1,iV lo2,iV hi3] (.bool r):=by
 exact wa [.t 6] (sI H▸wV)
def Z0(x1 lo2 hi3:Int):Bool :=
 (decide (lo2<=x1)&&decide (x1<=hi3))
theorem J1G(x1 lo2 hi3:Int):J02 x1 lo2 hi3=some (Z0 x1 lo2 hi3):=by
 unfold J02 Z0
 first|rfl|simp only[U4]
theorem V1(x1 lo2 hi3:Int):Snd Tryz.prog X0l [iV x1,iV lo2,iV hi3] (.bool (Z0 x1 lo2 hi3)) []:=W17 (J1G x1 lo2 hi3)
def Y03(t1:Int):Option Bool :=
 some (Z0 t1 0 1000000000)
theorem O17{t1:Int}{r:Bool}(H:Y03 t1=some r):SQ V0l [iV t1] (.bool r):=by
 exact wa [.t 2] (wH [.c 4 (V1 t1 0 1000000000)] (sI H▸wD))
def J6(t1:Int):Bool :=
 (Z0 t1 0 1000000000)
theorem V1H(t1:Int):Y03 t1=some (J6 t1):=by
 unfold Y03 J6
 first|rfl|simp only[U4]
theorem Ze(t1:Int):Snd Tryz.prog V0l [iV t1] (.bool (J6 t1)) []:=O17 (V1H t1)
def Lm(l1:tI):Option tI :=
 (appL 8 ([]:tI) l1).bind λxs2=>some xs2
theorem W0n{l1:tI}{r:tI}(H:Lm l1=some r):SQ M0z [zra l1] (zfa r):=by
 exact wa [.t 2] (bC H λxs2 h2 H=>wH [.p 4 eI h2] (sI H▸wN [(2,.f)] [] [] [4] [] [zna xs2]))
def M0a(v1:Vec):Option Bool :=
 some (((Z0 v1.a 0 1000000)&&(Z0 v1.b 0 1000000))&&(Z0 v1.c 0 1000000))
theorem X1k{v1:Vec}{r:Bool}(H:M0a v1=some r):SQ Z0A [eVec v1] (.bool r):=by
 exact wa [.t 2] (wH [.c 5 (V1 v1.a 0 1000000),.d 9 [((Z0 v1.a 0 1000000),true)] λ_=>V1 v1.b 0 1000000,.d 14 [(((Z0 v1.a 0 1000000)&&(Z0 v1.b 0 1000000)),true)] λ_=>V1 v1.c 0 1000000] (sI H▸wD))
def Z2(v1:Vec):Bool :=
 (((Z0 v1.a 0 1000000)&&(Z0 v1.b 0 1000000))&&(Z0 v1.c 0 1000000))
theorem W1O(v1:Vec):M0a v1=some (Z2 v1):=by
 unfold M0a Z2
 first|rfl|simp only[U4]
theorem V6(v1:Vec):Snd Tryz.prog Z0A [eVec v1] (.bool (Z2 v1)) []:=X1k (W1O v1)
def WW(a1 b2:Vec):Option Bool :=
 some (((((Z2 a1)&&(Z2 b2))&&decide (a1.a<=b2.a))&&decide (a1.b<=b2.b))&&decide (a1.c<=b2.c))
theorem M0Y{a1 b2:Vec}{r:Bool}(H:WW a1 b2=some r):SQ L0e [eVec a1,eVec b2] (.bool r):=by
 exact wa [.t 4] (wH [.c 6 (V6 a1),.d 9 [((Z2 a1),true)] λ_=>V6 b2] (sI H▸wD))
def OJ(a1 b2:Vec):Bool :=
 (((((Z2 a1)&&(Z2 b2))&&decide (a1.a<=b2.a))&&decide (a1.b<=b2.b))&&decide (a1.c<=b2.c))
theorem Q1u(a1 b2:Vec):WW a1 b2=some (OJ a1 b2):=by
 unfold WW OJ
 first|rfl|simp only[U4]
theorem W0v(a1 b2:Vec):Snd Tryz.prog L0e [eVec a1,eVec b2] (.bool (OJ a1 b2)) []:=M0Y (Q1u a1 b2)
def O0a(a1 b2 v3:Vec):Option (Vec×Bool) :=
 bif ((!(Z2 a1))||(!(Z2 b2)))||(!(Z2 v3))then(some ((Vec.mk 0 0 0),false))else(some (v3,true))
theorem J1j{a1 b2 v3:Vec}{r:Vec×Bool}(H:O0a a1 b2 v3=some r):SQ X0z [eVec a1,eVec b2,eVec v3] (.tup [eVec r.1,.bool r.2]):=by
 exact wa [.c 6 3 true,.t 7] (wH [.c 9 (V6 a1),.d 13 [((!(Z2 a1)),false)] λ_=>V6 b2,.d 18 [(((!(Z2 a1))||(!(Z2 b2))),false)] λ_=>V6 v3] (X0 H (λH=>sI H▸wQ [(6,[])] []) λH=>sI H▸wQ [(6,[])] []))
def Ol(a1 b2 v3:Vec):Vec×Bool :=
 bif ((!(Z2 a1))||(!(Z2 b2)))||(!(Z2 v3))then(((Vec.mk 0 0 0),false))else((v3,true))
theorem V1O(a1 b2 v3:Vec):O0a a1 b2 v3=some (Ol a1 b2 v3):=by
 unfold O0a Ol
 first|rfl|simp only[U4]
theorem Q0O(a1 b2 v3:Vec):Snd Tryz.prog X0z [eVec a1,eVec b2,eVec v3] (.tup [eVec ((Ol a1 b2 v3).1),.bool ((Ol a1 b2 v3).2)]) []:=J1j (V1O a1 b2 v3)
def V03(a1 b2:Vec):Option (Vec×Bool) :=
 some (((Ol a1 b2 (Vec.mk (w64 (a1.a-b2.a)) (w64 (a1.b-b2.b)) (w64 (a1.c-b2.c)))).1),(Ol a1 b2 (Vec.mk (w64 (a1.a-b2.a)) (w64 (a1.b-b2.b)) (w64 (a1.c-b2.c)))).2)
theorem X18{a1 b2:Vec}{r:Vec×Bool}(H:V03 a1 b2=some r):SQ Q0l [eVec a1,eVec b2] (.tup [eVec r.1,.bool r.2]):=by
 exact wa [.c 4 3 true,.t 5] (wH [.u 24 (.call _ _ _ _ _ (AEs.refl _) (λ_=>Q0O a1 b2 (Vec.mk (w64 (a1.a-b2.a)) (w64 (a1.b-b2.b)) (w64 (a1.c-b2.c)))))] (sI H▸wM [(4,[])] []))
def Mn(a1 b2:Vec):Vec×Bool :=
 (((Ol a1 b2 (Vec.mk (w64 (a1.a-b2.a)) (w64 (a1.b-b2.b)) (w64 (a1.c-b2.c)))).1),(Ol a1 b2 (Vec.mk (w64 (a1.a-b2.a)) (w64 (a1.b-b2.b)) (w64 (a1.c-b2.c)))).2)
theorem Q1H(a1 b2:Vec):V03 a1 b2=some (Mn a1 b2):=by
 unfold V03 Mn
 first|rfl|simp only[U4]
theorem Y1u(a1 b2:Vec):Snd Tryz.prog Q0l [eVec a1,eVec b2] (.tup [eVec ((Mn a1 b2).1),.bool ((Mn a1 b2).2)]) []:=X18 (Q1H a1 b2)
def U03(a1 b2:Vec):Option Vec :=
 some ((Ol a1 b2 (Vec.mk (min a1.a b2.a) (min a1.b b2.b) (min a1.c b2.c))).1)
theorem V18{a1 b2 r:Vec}(H:U03 a1 b2=some r):SQ W0l [eVec a1,eVec b2] (eVec r):=by
 exact wa [.c 4 3 true] (wH [.u 26 (.call _ _ _ _ _ (AEs.refl _) (λ_=>Q0O a1 b2 (Vec.mk (min a1.a b2.a) (min a1.b b2.b) (min a1.c b2.c))))] (sI H▸wM [(4,[])] []))
def VT(a1 b2:Vec):Vec :=
 ((Ol a1 b2 (Vec.mk (min a1.a b2.a) (min a1.b b2.b) (min a1.c b2.c))).1)
theorem W1H(a1 b2:Vec):U03 a1 b2=some (VT a1 b2):=by
 unfold U03 VT
 first|rfl|simp only[U4]
theorem V1u(a1 b2:Vec):Snd Tryz.prog W0l [eVec a1,eVec b2] (eVec (VT a1 b2)) []:=V18 (W1H a1 b2)
def Z01(v2:Int×Str)(k2:(Int×Str)->Option Str):Option Str :=
 bif decide (9<v2.1)then((remI v2.1 10).bind λn3=>(b2sQ [(IntKind.wrap .u8 (w64 (48+n3)))]).bind λw4=>(catS w4 v2.2).bind λw5=>(quoI .i64 v2.1 10).bind λn6=>k2 (n6,w5))else((b2sQ [(IntKind.wrap .u8 (w64 (48+v2.1)))]).bind λw7=>(catS w7 v2.2).bind λw8=>some w8)
def V5(n1:Int):Option Str :=
 bif !(J6 n1)then(some ([]:Str))else(whl Z01 9223372036854775807 (n1,([]:Str)))
theorem O4{n1:Int}{r:Str}(H:V5 n1=some r):SQ V0I [iV n1] (.str r):=by
 refine wb [13,22] [.t 2] ?_
 refine wH [.c 5 (Ze n1)] ?_
 refine X0 H (λH=>sI H▸wV) λH=>?_
 refine wP ?_
 refine wW (λ(v2:Int×Str)=>⟨[(0,iV v2.1),(3,.str v2.2)],[],[],[]⟩) H (λv2 I m k2 H N19=>?_)
 refine wP ?_
 refine X0 H ?_ ?_<;>intro H
 .obtain⟨n3,h3,w4,h4,w5,h5,H⟩:=bB3 H
  obtain⟨n6,h6,H⟩:=bB H
  exact wH [.u 10 (.rem _ _ _ λ_=>h3),.u 14 (.b2s _ _ λ_=>W0b h4),.u 16 (.sa _ _ _ λ_=>h5),.u 18 (.quo _ _ _ _ λ_=>h6)] (wT (N19 _ H))
 .obtain⟨w7,h7,w8,h8,H⟩:=bB2 H
  refine wH [.u 23 (.b2s _ _ λ_=>W0b h7),.u 25 (.sa _ _ _ λ_=>h8)] ?_
  exact sI H▸wD
def Jm(v1:Vec):Option Str :=
 bif !(Z2 v1)then(some ([]:Str))else((V5 v1.a).bind λw2=>(catS w2 ([47]:Str)).bind λw3=>(V5 v1.b).bind λw4=>(catS w3 w4).bind λw5=>(catS w5 ([47]:Str)).bind λw6=>(V5 v1.c).bind λw7=>(catS w6 w7).bind λw8=>some w8)
theorem Oy{v1:Vec}{r:Str}(H:Jm v1=some r):SQ W0H [eVec v1] (.str r):=by
 exact wc [(3,14)] [.t 2] (wH [.c 4 (V6 v1)] (X0 H (λH=>sI H▸wV) λH=>bC3 H λw2 h2 w3 h3 w4 h4 H=>bC3 H λw5 h5 w6 h6 w7 h7 H=>bC H λw8 h8 H=>wH [.c 8 (O4 h2),.u 9 (.sa _ _ _ λ_=>h3),.c 12 (O4 h4),.u 13 (.sa _ _ _ λ_=>h5),.u 14 (.sa _ _ _ λ_=>h6),.c 17 (O4 h7),.u 18 (.sa _ _ _ λ_=>h8)] (sI H▸wD)))
def LE(s1:Str)(b2:Int)(v3:Int×Int×tT)(k3:(Int×Int×tT)->Option tT):Option tT :=
 bif decide (v3.2.1<(s1.length:Int))then((idx s1 v3.2.1).bind λc4=>bif (c4.toNat:Int)==b2 then((cutL s1 (some v3.1) (some v3.2.1)).bind λw5=>(appL 16 v3.2.2 [w5]).bind λxs6=>k3 ((w64 (v3.2.1+1)),(w64 (v3.2.1+1)),xs6))else(k3 (v3.1,(w64 (v3.2.1+1)),v3.2.2)))else((cutL s1 (some v3.1) none).bind λw7=>(appL 16 v3.2.2 [w7]).bind λxs8=>some xs8)
def Z3(s1:Str)(b2:Int):Option tT :=
 whl (LE s1 b2) 9223372036854775807 (0,0,[])
theorem Vt{s1:Str}{b2:Int}{r:tT}(H:Z3 s1 b2=some r):SQ Z13 [.str s1,.int .u8 b2] (zfb r):=by
 refine wb [8] [.t 4] (wP (wW (λ(v3:Int×Int×tT)=>⟨[(0,.str s1),(1,.int .u8 b2),(5,.sref 8),(6,iV v3.1),(7,iV v3.2.1)],[],[],[(8,zwb v3.2.2)]⟩) H (λv3 I m k3 H N20=>?_)))
 refine wP ?_
 refine X0 H ?_ ?_<;>intro H
 .refine bC H λc4 h4 H=>wH [.u 17 (.sx _ _ _ λ_=>h4)] ?_
  refine X0 H ?_ ?_<;>intro H
  .exact bC2 H λw5 h5 xs6 h6 H=>wH [.u 24 (.ss _ _ _ _ λ_=>h5),.p 26 eS h6] (wT (N20 _ H))
  .exact wP (wT (N20 _ H))
 .exact bC2 H λw7 h7 xs8 h8 H=>wH [.u 32 (.ss _ _ _ _ λ_=>h7),.p 34 eS h8] (sI H▸wN [(4,.f)] [] [] [8] [] [znb xs8])
def Og(s1:Str)(v2:Int×Int)(k2:(Int×Int)->Option (Int×Bool)):Option (Int×Bool) :=
 bif decide (v2.2<(s1.length:Int))then((idx s1 v2.2).bind λc3=>bif decide ((c3.toNat:Int)<48)||decide (57<(c3.toNat:Int))then(some (0,false))else(k2 ((w64 ((w64 (10*v2.1))+(IntKind.wrap .i64 (IntKind.wrap .u8 ((c3.toNat:Int)-48))))),(w64 (v2.2+1)))))else((V5 v2.1).bind λw4=>bif w4 != s1 then(some (0,false))else(some (v2.1,true)))
def U2(s1:Str):Option (Int×Bool) :=
 bif !(Z0 (s1.length:Int) 1 10)then(some (0,false))else(whl (Og s1) 9223372036854775807 (0,0))
theorem Z8{s1:Str}{r:Int×Bool}(H:U2 s1=some r):SQ M0H [.str s1] (.tup [iV r.1,.bool r.2]):=by
 refine wa [.t 2,.t 3] (wH [.u 8 (.call _ _ _ _ _ (AEs.refl _) (λ_=>V1 (s1.length:Int) 1 10))] (X0 H (λH=>sI H▸wV) λH=>wP (wW (λ(v2:Int×Int)=>⟨[(0,.str s1),(4,iV v2.1),(5,iV v2.2)],[],[],[]⟩) H (λv2 I m k2 H N28=>?_))))
 refine wP ?_
 refine X0 H ?_ ?_<;>intro H
 .exact bC H λc3 h3 H=>wH [.u 18 (.sx _ _ _ λ_=>h3),.g 23 [((decide ((c3.toNat:Int)<48)),false)] (.sx _ _ _ λ_=>h3)] (X0 H (λH=>sI H▸wV) λH=>wH [.u 30 (.sx _ _ _ λ_=>h3)] (wT (N28 _ H)))
 .exact bC H λw4 h4 H=>wH [.c 35 (O4 h4)] (X0 H (λH=>sI H▸wV) λH=>sI H▸wV)
def U9(s1:Str):Option (Vec×Bool) :=
 (Z3 s1 47).bind λy2=>bif (y2.length:Int)!=3 then(some ((Vec.mk 0 0 0),false))else((idx y2 0).bind λe4=>(U2 e4).bind λy5=>(idx y2 1).bind λe6=>(U2 e6).bind λy7=>(idx y2 2).bind λe8=>(U2 e8).bind λy9=>bif (((!y5.2)||(!y7.2))||(!y9.2))||(!(Z2 (Vec.mk y5.1 y7.1 y9.1)))then(some ((Vec.mk 0 0 0),false))else(some ((Vec.mk y5.1 y7.1 y9.1),true)))
theorem Ly{s1:Str}{r:Vec×Bool}(H:U9 s1=some r):SQ O0H [.str s1] (.tup [eVec r.1,.bool r.2]):=by
 exact wa [.c 2 3 true,.t 3] (bC H λy2 h2 H=>wG [.c 13 (Vt h2),.l 15 y2 eS] λq3=>X0 H (λH=>sI H▸wQ [(2,[])] []) λH=>bC3 H λe4 h4 y5 h5 e6 h6 H=>bC3 H λy7 h7 e8 h8 y9 h9 H=>wH [.x 20 eS h4,.c 22 (Z8 h5),.x 27 eS h6,.c 29 (Z8 h7),.x 34 eS h8,.c 36 (Z8 h9),.d 55 [((((!y5.2)||(!y7.2))||(!y9.2)),false)] λ_=>V6 (Vec.mk y5.1 y7.1 y9.1)] (X0 H (λH=>sI H▸wQ [(2,[])] []) λH=>sI H▸wQ [(2,[])] []))
noncomputable def U1F:L :=
 lf Tryz.prog Y12 [] [] [] [] [] [] [7475]
def Wu(x3:Str)(k3:Str->Option Str)(v5:Str):Option Str :=
 (catS v5 x3).bind λw6=>k3 w6
def VE(x3:Str)(i3:Nat)(v3:Str)(k3:Str->Option Str):Option Str :=
 bif decide (0<(i3:Int))then((catS v3 ([32]:Str)).bind λw4=>(Wu x3 k3) w4)else((Wu x3 k3) v3)
def XE(v3:Str):Option Str :=
 some v3
def Mp(l1:tT):Option Str :=
 rgl VE XE l1 0 ([]:Str)
theorem Xt{l1:tT}{r:Str}(H:Mp l1=some r):SQ Y12 [zrb l1] (.str r):=by
 refine wS U1F [.t 2] (wG [.l 7 l1 eS] λq2=>wL (λ(i3:Nat) (v3:Str)=>⟨[(3,.str v3),(6,zrb l1)]++zl 7 l1 i3,[],[],[]⟩) H (λi3 x3 v3 I m k3 A3 B3 H N21=>?_) (λv3 I m H=>?_))
 .refine wH [.y 11 eS A3] (Xi (r:=r) (Wu x3 k3) 0 (λv5:Str=>⟨[(3,.str v5),(5,.str x3),(6,.sl .rd 1 (l1.map eS)),(7,.int .i64 (l1.length:Int)),(8,.int .i64 (i3:Int))],[],[],[]⟩) (by kernel_rfl) (λv5 H=>?_) (λJ13=>?_))
  .exact bC H λw6 h6 H=>wH [.u 19 (.sa _ _ _ λ_=>h6),.i 20 B3 q2.1] (wT (N21 _ H))
  .refine X0 H ?_ ?_<;>intro H
   .exact bC H λw4 h4 H=>wH [.u 16 (.sa _ _ _ λ_=>h4)] (wT (J13 _ H))
   .exact wP (wT (J13 _ H))
 .exact sI H▸wV
def time (n:Int):Bool:=decide (0<=n)&&decide (n<=1000000000)
theorem Ob{n:Int}:time n=true↔0<=n/\n<=1000000000:=by simp[time]
theorem Vo{v:Vec}:U0 v=true↔(0<=v.a/\v.a<=1000000)/\(0<=v.b/\v.b<=1000000)/\(0<=v.c/\v.c<=1000000):=by
 simp[U0,Lb,and_assoc]
theorem Uc(v:Vec):Z2 v=U0 v:=rfl
theorem On(n:Int):J6 n=time n:=rfl
theorem Mb(n:Int):Q3 n=time n:=rfl
theorem O0v(a b:Vec):OJ a b=X5 a b:=rfl
theorem X1u{a b:Vec}(ha:U0 a=true):Mn a b=L6 a b:=by
 have h:=Vo.1 ha
 unfold Mn Ol L6 X5
 simp only[Uc,ha]
 cases hb:U0 b with
 |false=>simp
 |true =>
  have h2:=Vo.1 hb
  have w1:w64 (a.a-b.a)=a.a-b.a:=Y5 (by omega)
  have w2:w64 (a.b-b.b)=a.b-b.b:=Y5 (by omega)
  have w3:w64 (a.c-b.c)=a.c-b.c:=Y5 (by omega)
  simp only[w1,w2,w3]
  cases hc:U0 (Vec.mk (a.a-b.a) (a.b-b.b) (a.c-b.c))with
  |false =>
   have:¬ ((b.a<=a.a/\b.b<=a.b)/\b.c<=a.c):=λq=>by
    rw[Vo.2 (by simp only;omega)]at hc;cases hc
   by_cases q1:b.a<=a.a<;>by_cases q2:b.b<=a.b<;>by_cases q3:b.c<=a.c<;>simp[q1,q2,q3]at this ⊢
  |true =>
   have q:=Vo.1 hc
   simp only at q
   have q1:b.a<=a.a:=by omega
   have q2:b.b<=a.b:=by omega
   have q3:b.c<=a.c:=by omega
   simp[q1,q2,q3]
theorem U1u(a b:Vec):VT a b=L3 a b:=by
 have e:∀x y:Int,min x y=M6 x y:=λx y=>by unfold M6;by_cases h:x<y<;>simp[h]<;>omega
 unfold VT Ol L3
 simp only[Uc,e]
 cases ha:U0 a with
 |false=>simp
 |true =>
  cases hb:U0 b with
  |false=>simp
  |true =>
   have h:=Vo.1 ha
   have h2:=Vo.1 hb
   have:U0 (Vec.mk (M6 a.a b.a) (M6 a.b b.b) (M6 a.c b.c))=true:=by
    rw[Vo];simp only[← e];omega
   simp[this]
theorem U0f{a b:Vec}(ha:U0 a=true)(hb:U0 b=true):U0 (L3 a b)=true:=by
 have e:∀x y:Int,M6 x y=min x y:=λx y=>by unfold M6;by_cases h:x<y<;>simp[h]<;>omega
 have h:=Vo.1 ha
 have h2:=Vo.1 hb
 unfold L3
 simp only[ha,hb,yL,Bool.or_self,yM]
 rw[Vo];simp only[e];omega
theorem Y14{a:Vec}(ha:U0 a=true):L3 a a=a:=by
 have e:∀x:Int,M6 x x=x:=λx=>by simp[M6]
 unfold L3
 simp[ha,e]
def dgt(n:Nat):UInt8:=UInt8.ofNat (48+n % 10)
def dg(n:Nat):Str:=if n<10 then[dgt n]else dg (n / 10)++[dgt n]
termination_by n
decreasing_by omega
def numText(n:Int):Str:=if time n=true then dg n.toNat else[]
theorem Y1U{n:Nat}(h:n<10):dg n=[dgt n]:=by rw[dg,yd h]
theorem O2e{n:Nat}(h:10<=n):dg n=dg (n / 10)++[dgt n]:=by rw[dg,ye (by omega)]
theorem W2o:∀(k n:Nat),n<10 ^ k->(dg n).length<=k+1
 |0,n,h=>by rw[Y1U (by simp at h;omega)];simp
 |k+1,n,h=>by
  by_cases h10:n<10
  .rw[Y1U h10];simp
  .rw[O2e (by omega)]
   have:=W2o k (n / 10) (by rw[Nat.pow_succ]at h;omega)
   simp;omega
theorem J0(n:Int):(numText n).length<=10:=by
 unfold numText
 split
 .rename_i h
  simp[time]at h
  by_cases e:n.toNat<10 ^ 9
  .have:=W2o 9 n.toNat e;omega
  .have e:n.toNat=1000000000:=by omega
   rw[e];decide +kernel
 .simp
theorem L1R{n:Int}(h0:0<=n)(h1:n<10):IntKind.u8.wrap (48+n)=((UInt8.ofNat (48+n.toNat)).toNat:Int):=by
 unfold IntKind.wrap
 simp[IntKind.bits,IntKind.signed]
 omega
theorem X1J{n:Int}(h0:0<=n)(h1:n<10):b2sQ [IntKind.wrap .u8 (w64 (48+n))]=some [dgt n.toNat]:=by
 have e:IntKind.wrap .u8 (w64 (48+n))=((dgt n.toNat).toNat:Int):=by
  rw[Y5 (by omega),L1R h0 h1]
  unfold dgt
  rw[Nat.mod_eq_of_lt (by omega)]
 rw[e]
 have hd:((dgt n.toNat).toNat:Int)<256:=by have:=(dgt n.toNat).toNat_lt;omega
 unfold b2sQ
 rw[yd (by simp;omega)]
 simp
theorem U2g{n:Int}(h0:0<=n):(remI n 10).bind (λm=>b2sQ [IntKind.wrap .u8 (w64 (48+m))])=some [dgt n.toNat]:=by
 have e:remI n 10=some (n % 10):=by simp[remI,Int.tmod_eq_emod_of_nonneg h0]
 rw[e,bS,X1J (by omega) (by omega)]
 have:(n % 10).toNat=n.toNat % 10:=by omega
 rw[this,dgt,dgt,Nat.mod_mod]
theorem X2B{n:Int}(h0:0<=n)(h1:n<=9223372036854775807):quoI .i64 n 10=some (n / 10):=by
 have e:n.tdiv 10=n / 10:=Int.tdiv_eq_ediv_of_nonneg h0
 unfold quoI
 rw[ye (by decide),e,M1R (by omega) (by omega)]
theorem M0f:∀(k fuel:Nat) (n:Int),k<=fuel->0<=n->n<10 ^ k->n<=1000000000->Ji (fuel+1) n=some (dg n.toNat)
 |0,fuel,n,_,h0,h1,h2=>by
  have:n=0:=by simp at h1;omega
  subst this
  rw[Ji]
  simp only[show Q3 0=true from rfl,yL,yM,show decide ((0:Int)<10)=true from rfl,yN]
  rw[X1J (by omega) (by omega),Y1U (by simp)];rfl
 |k+1,0,n,hk,h0,h1,h2=>by omega
 |k+1,fuel+1,n,hk,h0,h1,h2=>by
  have ht:Q3 n=true:=by simp[Q3];omega
  rw[Ji,ht]
  by_cases h:n<10
  .simp only[h,decide_true,yN,yL,yM]
   rw[X1J h0 h,Y1U (by omega)];rfl
  .simp only[h,decide_false,yL,yM]
   have e2:(n / 10).toNat=n.toNat / 10:=by omega
   rw[X2B h0 (by omega),bS,M0f k fuel (n / 10) (by omega) (by omega) (by rw[Int.pow_succ]at h1;omega) (by omega),bS,← Option.bind_assoc,U2g h0,bS,e2]
   have hl:(dg (n.toNat / 10)).length<=10:=by
    have:=J0 (n / 10)
    rw[numText,yd (by simp[time];omega),e2]at this
    exact this
   rw[V0 (by simp;omega),O2e (n:=n.toNat) (by omega)];rfl
theorem V9(n:Int):Y6 n=some (numText n):=by
 unfold Y6 numText
 cases ht:time n with
 |false=>rw[show(100000000:Nat)=99999999+1 from rfl,Ji,Mb,ht];rfl
 |true =>
  have h:=Ob.1 ht
  rw[yd rfl,show(100000000:Nat)=99999999+1 from rfl]
  exact M0f 10 _ n (by omega) h.1 (by omega) h.2
theorem Z7(n:Int):V5 n=some (numText n):=by
 unfold V5 numText
 rw[On]
 cases ht:time n with
 |false=>rfl
 |true =>
  have h:=Ob.1 ht
  simp only[yL,yM,yb]
  refine Xw (λ_ r=>r=some (dg n.toNat)) (λb=>b.1.toNat) (λb=>0<=b.1/\b.1<=1000000000/\dg n.toNat=dg b.1.toNat++b.2) ?_ 9223372036854775807 (n,[]) ⟨h.1,h.2,by simp⟩ (by simp only;omega)
  rintro⟨k,o⟩ kk ⟨h0,h1,hd⟩ hk
  simp only at h0 h1 hd hk
  have hlen:(dg n.toNat).length<=10:=by have:=J0 n;simpa[numText,ht]using this
  have hol:o.length<=10:=by rw[hd]at hlen;simp at hlen;omega
  unfold Z01
  by_cases h9:9<k
  .simp only[h9,decide_true,yN]
   rw[← Option.bind_assoc,U2g h0,bS,V0 (by simp;omega),bS,X2B h0 (by omega),bS]
   refine hk _ ⟨by simp only;omega,by simp only;omega,?_⟩ (by simp only;omega)
   simp only
   rw[hd,O2e (n:=k.toNat) (by omega),show(k / 10).toNat=k.toNat / 10 by omega]
   simp
  .simp only[h9,decide_false,yM]
   rw[X1J h0 (by omega),bS,V0 (by simp;omega),bS,hd,Y1U (n:=k.toNat) (by omega)]
def X4(v:Vec):Str:=if U0 v=true then numText v.a++[47]++numText v.b++[47]++numText v.c else[]
theorem W7(v:Vec):(X4 v).length<=32:=by
 unfold X4
 have:=J0 v.a;have:=J0 v.b;have:=J0 v.c
 split<;>simp<;>omega
theorem Jo(v:Vec):Wi v=some (X4 v):=by
 unfold Wi X4
 have:=J0 v.a;have:=J0 v.b;have:=J0 v.c
 cases U0 v with
 |false=>rfl
 |true =>
  simp only[yL,yM,yb,V9,bS]
  rw[V0 (by simp;omega),bS,V0 (by simp;omega),bS,V0 (by simp;omega),bS,V0 (by simp;omega),bS]
theorem YO(v:Vec):Jm v=some (X4 v):=by
 unfold Jm X4
 rw[Uc]
 have:=J0 v.a;have:=J0 v.b;have:=J0 v.c
 cases U0 v with
 |false=>rfl
 |true =>
  simp only[yL,yM,yb,Z7,bS]
  rw[V0 (by simp;omega),bS,V0 (by simp;omega),bS,V0 (by simp;omega),bS,V0 (by simp;omega),bS]
def Yt:tT->Str
 |[]=>[]
 |[w]=>w
 |w::v::ws=>w++32::Yt (v::ws)
theorem O1V:∀(l:tT) (i:Nat) (s:Str),0<i->s.length+(Yt l).length+1<=4611686018427387904->rgl VE XE l i s=some (if l=[]then s else s++32::Yt l)
 |[],i,s,_,_=>rfl
 |w::l,i,s,hi,hl=>by
  have hw:w.length<=(Yt (w::l)).length:=by
   cases l with
   |nil=>exact yV _
   |cons v l=>simp[Yt]
  rw[rgl,VE]
  simp only[show decide (0<(i:Int))=true by simpa using hi,yN,Wu]
  rw[V0 (by simp;omega),bS,V0 (by simp;omega),bS]
  cases l with
  |nil=>simp[rgl,XE,Yt]
  |cons v l =>
   rw[O1V (v::l) (i+1) _ (by omega) (by simp only[Yt,yU,yT,List.length_nil]at hl ⊢;omega)]
   simp[Yt]
theorem Wm(l:tT)(hl:(Yt l).length<=4611686018427387900):Mp l=some (Yt l):=by
 unfold Mp
 cases l with
 |nil=>rfl
 |cons w l =>
  have hw:w.length<=(Yt (w::l)).length:=by
   cases l with
   |nil=>exact yV _
   |cons v l=>simp[Yt]
  rw[rgl,VE]
  simp only[show decide (0<((0:Nat):Int))=false by rfl,yM,Wu]
  rw[V0 (by simp;omega),bS]
  cases l with
  |nil=>simp[rgl,XE,Yt]
  |cons v l =>
   rw[O1V (v::l) _ _ (by omega) (by simp only[Yt,yU,yT,List.nil_append]at hl ⊢;omega)]
   simp[Yt]
def Wt(t1:Topo)(s2:Int)(v3:Int×tI)(k3:(Int×tI)->Option tI):Option tI :=
 bif decide (v3.1<(t1.parents.length:Int))then((idx t1.parents v3.1).bind λe5=>bif e5==s2 then((appL 8 v3.2 [v3.1]).bind λxs6=>k3 ((w64 (v3.1+1)),xs6))else(k3 ((w64 (v3.1+1)),v3.2)))else(some v3.2)
def Ww(t1:Topo)(s2:Int):Option tI :=
 whl (Wt t1 s2) 9223372036854775807 (1,[])
theorem L04{t1:Topo}{s2:Int}{r:tI}(H:Ww t1 s2=some r):SQ O0F [Y7 .rd t1,iV s2] (zfa r):=by
 refine wb [7] [.t 4] (wP (wW (λ(v3:Int×tI)=>⟨[(1,iV s2),pB 2,(5,.sref 7),(6,iV v3.1)],[],[(2,(Y7 .rd t1).cells)],[(7,zwa v3.2)]⟩) H (λv3 I m k3 H N17=>?_)))
 refine wG [.l 11 t1.parents eI] λq4=>X0 H (λH=>?_) λH=>sI H▸wP (wN [(4,.f)] [] [] [7] [] [zna v3.2])
 refine bC H λe5 h5 H=>wH [.x 18 eI h5] ?_
 refine X0 H ?_ ?_<;>intro H
 .exact bC H λxs6 h6 H=>wH [.p 25 eI h6] (wT (N17 _ H))
 .exact wP (wT (N17 _ H))
noncomputable def Q15:L :=
 lf Tryz.prog X09 [] [] [] [] [] [] []
def UR(rc:Topo->Int->Option Int)(t1:Topo)(x5:Int)(i5:Nat)(v5:Int)(k5:Int->Option Int):Option Int :=
 (rc t1 x5).bind λn6=>bif decide (n6<0)||(decide (0<(i5:Int))&&(n6 != v5))then(some (-1))else(k5 n6)
def VR(v5:Int):Option Int :=
 some (w64 (v5+1))
def Mo:Nat->Topo->Int->Option Int
 |0,_,_=>none
 |fuel+1,t1,s2 =>
 (Ww t1 s2).bind λy3=>rgl (UR (Mo fuel) t1) VR y3 0 (-1)
def Ld(t1:Topo)(s2:Int):Option Int:=Mo 100000000 t1 s2
theorem J0L(fuel:Nat):∀{t1:Topo} {s2 r:Int} (_:Mo fuel t1 s2=some r),Snd Tryz.prog X09 [Y7 .rd t1,.int .i64 s2] (.int .i64 r) []:=by
 induction fuel with
 |zero=>intro t1 s2 r H;cases H
 |succ fuel IH =>
 intro t1 s2 r H
 refine wS Q15 [.t 4] ?_
 rw[Mo]at H
 obtain⟨y3,h3,H⟩:=bB H
 refine wG [.c 11 (L04 h3),.u 12 (.ln _ _ λ_=>lm y3 eI)] λq4=>?_
 refine wR (λ(i5:Nat) (v5:Int)=>⟨[(2,.ptr 2 0),(5,iV v5),(11,nV 1 (y3.map eI)),(12,iV (y3.length:Int)),(13,iV (i5:Int))],[],[(2,(Y7 .rd t1).cells)],[]⟩) H (λi5 x5 v5 I m k5 hxv5 hiv5 H N25=>?_) (λv5 I m H=>?_)
 .unfold UR at H
  refine wP (wt (ltT hiv5) ?_)
  obtain⟨n6,h6,H⟩:=bB H
  refine wH [.u 16 (.ix _ _ _ λ_=>Y0 eI (O0 hxv5)),.c 20 (IH h6)] ?_
  refine X0 H ?_ ?_<;>intro H
  .obtain rfl:=sI H
   exact wP (wE [(4,.d)])
  .exact wH [.w 33 (wi .i64 rfl hiv5 q4.1)] (wT (N25 _ H))
 .unfold VR at H
  refine wP (wf (ltF y3.length) ?_)
  obtain rfl:=sI H
  exact wP (wE [(4,.d)])
theorem Mf{t1:Topo}{s2 r:Int}(H:Ld t1 s2=some r):Snd Tryz.prog X09 [Y7 .rd t1,iV s2] (iV r) []:=J0L _ H
def Mw(t1:Topo)(x8:Node)(_:Nat)(_:Unit)(k8:Unit->Option Bool):Option Bool :=
 (bif decide (x8.leaf<0)||decide ((t1.parents.length:Int)<=x8.leaf)then some default else(Ww t1 x8.leaf)).bind λy9=>bif ((decide (x8.leaf<0)||decide ((t1.parents.length:Int)<=x8.leaf))||decide (0<(y9.length:Int)))||(!(U0 x8.cap))then(some false)else(k8 ())
def UL(t1:Topo)(_:Unit):Option Bool :=
 (Ld t1 0).bind λn10=>some (decide (0<=n10))
def Lw(t1:Topo)(v4:Int)(k4:Int->Option Bool):Option Bool :=
 bif decide (v4<(t1.parents.length:Int))then((idx t1.parents v4).bind λe6=>bif decide (e6<0)||decide (v4<=e6)then(some false)else(k4 (w64 (v4+1))))else(rgl (Mw t1) (UL t1) t1.nodes 0 ())
def Lf(t1:Topo):Option Bool :=
 (bif (decide ((t1.parents.length:Int)<1)||decide (24<(t1.parents.length:Int)))||decide (24<(t1.nodes.length:Int))then some default else(idx t1.parents 0)).bind λe2=>bif ((decide ((t1.parents.length:Int)<1)||decide (24<(t1.parents.length:Int)))||decide (24<(t1.nodes.length:Int)))||(e2 != 0)then(some false)else(whl (Lw t1) 9223372036854775807 1)
theorem QD{t1:Topo}{r:Bool}(H:Lf t1=some r):SQ X0R [Y7 .rd t1] (.bool r):=by
 refine wa [.t 2] (bC H λe2 h2 H=>wG [.l 8 t1.parents eI,.g 13 [((decide ((t1.parents.length:Int)<1)),false)] (.ln _ _ λ_=>lm t1.parents eI),.g 19 [((decide ((t1.parents.length:Int)<1)||decide (24<(t1.parents.length:Int))),false)] (.ln _ _ λ_=>lm t1.nodes Q1),.g 25 [(_,false)] (.ix _ _ _ λq=>Y0 eI (bF q.1 h2))] λq3=>X0 H (λH=>sI H▸wV) λH=>wP (wW (λ(v4:Int)=>⟨[pB 1,(3,iV v4)],[],[(1,(Y7 .rd t1).cells)],[]⟩) H (λv4 I m k4 H N25=>?_)))
 refine wG [.l 32 t1.parents eI] λq5=>?_
 refine X0 H ?_ ?_<;>intro H
 .exact bC H λe6 h6 H=>wH [.x 39 eI h6,.g 46 [((decide (e6<0)),false)] (.ix _ _ _ λ_=>Y0 eI h6)] (X0 H (λH=>sI H▸wV) λH=>wP (wT (N25 _ H)))
 .refine wG [.l 53 t1.nodes Q1] λq7=>wL (λ(i8:Nat) (v8:Unit)=>⟨[pB 1,(52,zre t1.nodes)]++zl 53 t1.nodes i8,[],[(1,(Y7 .rd t1).cells)],[]⟩) H (λi8 x8 v8 I m k8 A8 B8 H N47=>?_) (λv8 I m H=>?_)
  .exact bC H λy9 h9 H=>wH [.y 56 Q1 A8,.g 66 [((decide (x8.leaf<0)),false)] (.ln _ _ λ_=>lm t1.parents eI),.d 73 [(_,false)] λq=>L04 (bF q.1 h9),.g 74 [((decide (x8.leaf<0)||decide ((t1.parents.length:Int)<=x8.leaf)),false)] (.ln _ _ λ_=>lm y9 eI),.d 80 [(((decide (x8.leaf<0)||decide ((t1.parents.length:Int)<=x8.leaf))||decide (0<(y9.length:Int))),false)] λ_=>X6 x8.cap] (X0 H (λH=>sI H▸wV) λH=>wH [.i 83 B8 q7.1] (wT (N47 () H)))
  .exact bC H λn10 h10 H=>wH [.c 85 (Mf h10)] (sI H▸wD)
def U0c(t1:Topo)(v3:Int×tI)(k3:(Int×tI)->Option tI):Option tI :=
 bif decide (0<v3.1)then((idx t1.parents v3.1).bind λe4=>(appL 8 v3.2 [e4]).bind λxs5=>k3 (e4,xs5))else(some v3.2)
def YJ(t1:Topo)(s2:Int):Option tI :=
 whl (U0c t1) 9223372036854775807 (s2,[s2])
theorem L0L{t1:Topo}{s2:Int}{r:tI}(H:YJ t1 s2=some r):SQ W11 [Y7 .rd t1,iV s2] (zfa r):=by
 refine wb [7] [.t 4] (wP (wW (λ(v3:Int×tI)=>⟨[(1,iV v3.1),pB 2,(5,.sref 7)],[],[(2,(Y7 .rd t1).cells)],[(7,zwa v3.2)]⟩) H (λv3 I m k3 H N12=>?_)))
 refine wP (X0 H (λH=>?_) λH=>sI H▸wP (wN [(4,.f)] [] [] [7] [] [zna v3.2]))
 exact bC2 H λe4 h4 xs5 h5 H=>wH [.x 13 eI h4,.p 18 eI h5] (wT (N12 _ H))
def O0s(n2 x4:Int)(_:Nat)(_:Unit)(k4:Unit->Option Bool):Option Bool :=
 bif x4==n2 then(some true)else(k4 ())
def J04(_:Unit):Option Bool :=
 some false
def Xd(l1:tI)(n2:Int):Option Bool :=
 rgl (O0s n2) J04 l1 0 ()
theorem Qi{l1:tI}{n2:Int}{r:Bool}(H:Xd l1 n2=some r):SQ Y0R [zra l1,iV n2] (.bool r):=by
 refine wa [.t 4] (wG [.l 8 l1 eI] λq3=>wL (λ(i4:Nat) (v4:Unit)=>⟨[(1,iV n2),(7,zra l1)]++zl 8 l1 i4,[],[],[]⟩) H (λi4 x4 v4 I m k4 A4 B4 H N20=>?_) (λv4 I m H=>?_))
 .exact wH [.y 11 eI A4] (X0 H (λH=>sI H▸wV) λH=>wH [.i 16 B4 q3.1] (wT (N20 () H)))
 .exact sI H▸wV
def UA(t1:Topo)(x4:Int)(_:Nat)(_:Unit)(k4:Unit->Option Bool):Option Bool :=
 bif decide (x4<0)||decide ((t1.nodes.length:Int)<=x4)then(some false)else(k4 ())
def VA(t1:Topo)(_:Unit):Option Bool :=
 (Lf t1).bind λb5=>some b5
def Zm(t1:Topo)(nodes2:tI):Option Bool :=
 rgl (UA t1) (VA t1) nodes2 0 ()
theorem LY{t1:Topo}{nodes2:tI}{r:Bool}(H:Zm t1 nodes2=some r):SQ V0y [Y7 .rd t1,zra nodes2] (.bool r):=by
 refine wa [.t 4] (wG [.l 8 nodes2 eI] λq3=>wL (λ(i4:Nat) (v4:Unit)=>⟨[pB 2,(7,zra nodes2)]++zl 8 nodes2 i4,[],[(2,(Y7 .rd t1).cells)],[]⟩) H (λi4 x4 v4 I m k4 A4 B4 H N20=>?_) (λv4 I m H=>?_))
 .exact wH [.y 11 eI A4,.g 19 [((decide (x4<0)),false)] (.ln _ _ λ_=>lm t1.nodes Q1)] (X0 H (λH=>sI H▸wV) λH=>wH [.i 22 B4 q3.1] (wT (N20 () H)))
 .exact bC H λb5 h5 H=>wH [.c 24 (QD h5)] (sI H▸wD)
def Vx(t1:Topo)(i5:Nat)(x7:Int)(_:Nat)(v7:Bool)(k7:Bool->Option Int):Option Int :=
 (idx t1.nodes x7).bind λe8=>(YJ t1 e8.leaf).bind λy9=>(Xd y9 (i5:Int)).bind λb10=>bif !b10 then(k7 false)else(k7 v7)
def Xp(t1:Topo)(v5:Int)(i5:Nat)(k5:Int->Option Int)(v7:Bool):Option Int :=
 (bif v7 then(bif decide (v5<0)then some default else(Ld t1 (i5:Int)))else some default).bind λn11=>(bif v7 then(bif decide (v5<0)then some default else(Ld t1 v5))else some default).bind λn12=>bif v7&&(decide (v5<0)||decide (n11<=n12))then(k5 (i5:Int))else(k5 v5)
def Vp(t1:Topo)(nodes2:tI)(_:Int)(i5:Nat)(v5:Int)(k5:Int->Option Int):Option Int :=
 rgl (Vx t1 i5) (Xp t1 v5 i5 k5) nodes2 0 true
def WM(v5:Int):Option Int :=
 some v5
def QH(t1:Topo)(nodes2:tI):Option Int :=
 (Zm t1 nodes2).bind λb3=>bif (!b3)||((nodes2.length:Int)==0)then(some (-1))else(rgl (Vp t1 nodes2) WM t1.parents 0 (-1))
theorem Q1o{t1:Topo}{nodes2:tI}{r:Int}(H:QH t1 nodes2=some r):SQ J0R [Y7 .rd t1,zra nodes2] (iV r):=by
 refine wc [(11,11),(14,14)] [.t 4] (bC H λb3 h3 H=>wH [.c 12 (LY h3),.g 16 [((!b3),false)] (.ln _ _ λ_=>lm nodes2 eI)] (X0 H (λH=>sI H▸wV) λH=>wG [.l 22 t1.parents eI] λq4=>wL (λ(i5:Nat) (v5:Int)=>⟨[(1,zra nodes2),pB 2,(5,iV v5)]++zl 22 t1.parents i5,[],[(2,(Y7 .rd t1).cells)],[]⟩) H (λi5 x5 v5 I m k5 A5 B5 H N49=>?_) (λv5 I m H=>?_)))
 .refine wG [.l 27 nodes2 eI] λq6=>wL (λ(i7:Nat) (v7:Bool)=>⟨[(1,zra nodes2),pB 2,(5,iV v5),(6,iV (i5:Int)),(7,.bool v7),(22,iV (t1.parents.length:Int)),(23,iV (i5:Int)),(26,zra nodes2)]++zl 27 nodes2 i7,[],[(2,(Y7 .rd t1).cells)],[]⟩) H (λi7 x7 v7 I m k7 A7 B7 H N33=>?_) (λv7 I m H=>?_)
  .exact bC3 H λe8 h8 y9 h9 b10 h10 H=>wH [.y 30 eI A7,.x 36 Q1 h8,.c 39 (L0L h9),.c 41 (Qi h10)] (X0 H (λH=>wH [.i 43 B7 q6.1] (wT (N33 _ H))) λH=>wH [.i 43 B7 q6.1] (wT (N33 _ H)))
  .exact bC2 H λn11 h11 n12 h12 H=>wH [.d 51 [(_,false),(_,true)] λq=>Mf (bF q.1 (bT q.2.1 h11)),.d 54 [(_,false),(_,true)] λq=>Mf (bF q.1 (bT q.2.1 h12))] (X0 H (λH=>wH [.i 59 B5 q4.1] (wT (N49 _ H))) λH=>wH [.i 59 B5 q4.1] (wT (N49 _ H)))
 .exact sI H▸wV
def QA(x11:Node)(_:Nat)(v11:Str)(k11:Str->Option Str):Option Str :=
 (catS v11 ([110,111,100,101,32]:Str)).bind λw12=>(Y6 x11.leaf).bind λw13=>(catS w12 w13).bind λw14=>(catS w14 ([32]:Str)).bind λw15=>(Wi x11.cap).bind λw16=>(catS w15 w16).bind λw17=>(catS w17 ([10]:Str)).bind λw18=>k11 w18
def WR(v11:Str):Option Str :=
 some v11
def Zp(t1:Topo)(v3:Str×Int)(k3:(Str×Int)->Option Str):Option Str :=
 bif decide (v3.2<(t1.parents.length:Int))then((catS v3.1 ([115,119,105,116,99,104,32]:Str)).bind λw5=>(idx t1.parents v3.2).bind λe6=>(Y6 e6).bind λw7=>(catS w5 w7).bind λw8=>(catS w8 ([10]:Str)).bind λw9=>k3 (w9,(w64 (v3.2+1))))else(rgl QA WR t1.nodes 0 v3.1)
def WA(t1:Topo):Option Str :=
 (Lf t1).bind λb2=>bif !b2 then(some ([]:Str))else(whl (Zp t1) 9223372036854775807 (([]:Str),1))
theorem Q0m{t1:Topo}{r:Str}(H:WA t1=some r):SQ Q0y [Y7 .rd t1] (.str r):=by
 refine wc [(11,12)] [.t 2] (bC H λb2 h2 H=>wH [.c 8 (QD h2)] (X0 H (λH=>sI H▸wV) λH=>wP (wW (λ(v3:Str×Int)=>⟨[pB 1,(3,.str v3.1),(4,iV v3.2)],[],[(1,(Y7 .rd t1).cells)],[]⟩) H (λv3 I m k3 H N20=>?_))))
 refine wG [.l 13 t1.parents eI] λq4=>?_
 refine X0 H ?_ ?_<;>intro H
 .exact bC3 H λw5 h5 e6 h6 w7 h7 H=>bC2 H λw8 h8 w9 h9 H=>wH [.u 18 (.sa _ _ _ λ_=>h5),.x 22 eI h6,.c 24 (W5 h7),.u 25 (.sa _ _ _ λ_=>h8),.u 26 (.sa _ _ _ λ_=>h9)] (wT (N20 _ H))
 .refine wG [.l 29 t1.nodes Q1] λq10=>wL (λ(i11:Nat) (v11:Str)=>⟨[(3,.str v11),(28,zre t1.nodes)]++zl 29 t1.nodes i11,[],[],[]⟩) H (λi11 x11 v11 I m k11 A11 B11 H N36=>?_) (λv11 I m H=>?_)
  .exact bC3 H λw12 h12 w13 h13 w14 h14 H=>bC3 H λw15 h15 w16 h16 w17 h17 H=>bC H λw18 h18 H=>wH [.y 32 Q1 A11,.u 35 (.sa _ _ _ λ_=>h12),.c 38 (W5 h13),.u 39 (.sa _ _ _ λ_=>h14),.u 40 (.sa _ _ _ λ_=>h15),.c 43 (Lo h16),.u 44 (.sa _ _ _ λ_=>h17),.u 45 (.sa _ _ _ λ_=>h18),.i 46 B11 q10.1] (wT (N36 _ H))
  .exact sI H▸wV
noncomputable def O15:L :=
 lf Tryz.prog W0y [14] [] [] [] [] [] [29903]
def Yp(v4:Topo)(k4:Topo->Option (Topo×Bool))(y5:tT)(e7:Str)(v11:tI):Option (Topo×Bool) :=
 bif (e7==([110,111,100,101]:Str))&&((y5.length:Int)==3)then((idx y5 1).bind λe12=>(Ya e12).bind λy13=>(idx y5 2).bind λe14=>(Xm e14).bind λy15=>(appL 32 v4.nodes [(Node.mk y13.1 y15.1)]).bind λxs16=>k4 (Topo.mk v11 xs16))else(k4 (Topo.mk v11 v4.nodes))
def La(x4:Str)(_:Nat)(v4:Topo)(k4:Topo->Option (Topo×Bool)):Option (Topo×Bool) :=
 (JA x4 32).bind λy5=>bif decide (24<(v4.parents.length:Int))||decide (24<(v4.nodes.length:Int))then(some ((Topo.mk [] []),false))else((idx y5 0).bind λe7=>bif (e7==([115,119,105,116,99,104]:Str))&&((y5.length:Int)==2)then((idx y5 1).bind λe8=>(Ya e8).bind λy9=>(appL 8 v4.parents [y9.1]).bind λxs10=>(Yp v4 k4 y5 e7) xs10)else((Yp v4 k4 y5 e7) v4.parents))
def Vd(s1:Str)(v4:Topo):Option (Topo×Bool) :=
 (Lf v4).bind λb17=>(bif !b17 then some default else(WA v4)).bind λw18=>bif (!b17)||(w18 != s1)then(some ((Topo.mk [] []),false))else(some (v4,true))
def OA(s1:Str):Option (Topo×Bool) :=
 (JA s1 10).bind λy2=>rgl La (Vd s1) y2 0 (Topo.mk [0] [])
theorem U14{s1:Str}{r:Topo×Bool}(H:OA s1=some r):SQ W0y [.str s1] (.tup [Y7 .nw r.1,.bool r.2]):=by
 refine wS O15 [.c 2 2 true,.t 3] (bC H λy2 h2 H=>wG [.c 17 (MA h2),.l 18 y2 eS] λq3=>M01 (λ(i4:Nat) (v4:Topo)=>⟨[(0,.str s1),pB 2,pB 4,(17,zfb y2)]++zl 18 y2 i4,[],[(2,[.nl,.nl]),(4,[.sref 14,.sref 235001])],[(14,zwa v4.parents),(235001,zwe v4.nodes)]⟩) [] [(4,[.d,.z 235001])] [(235001,(none,4))] [] (by kernel_rfl) (by kernel_rfl) H (λi4 x4 v4 I m k4 A4 B4 H N41=>?_) (λv4 I m H=>?_))
 .refine wP (wt (ltT B4) ?_)
  refine bC H λy5 h5 H=>wG [.y 21 eS A4,.c 24 (MA h5),.l 27 v4.parents eI,.g 32 [((decide (24<(v4.parents.length:Int))),false)] (.ln _ _ λ_=>lm v4.nodes Q1)] λq6=>X0 H (λH=>sI H▸wQ [(2,[.n 1,.n 4])] z7) λH=>bC H λe7 h7 H=>wH [.x 37 eS h7,.g 42 [((e7==([115,119,105,116,99,104]:Str)),true)] (.ln _ _ λ_=>lm y5 eS)] (Xi (r:=r) (Yp v4 k4 y5 e7) 0 (λv11:tI=>⟨[(0,.str s1),pB 2,pB 4,(7,.sl .nw 1 (y5.map eS)),(17,.sl .nw 1 (y2.map eS)),(18,.int .i64 (y2.length:Int)),(19,.int .i64 (i4:Int))],[],[(2,[.nl,.nl]),(4,[.sref 14,.sref 235001])],[(14,zwa v11),(235001,zwe v4.nodes)]⟩) (by kernel_rfl) (λv11 H=>?_) (λJ31=>?_))
  .refine wH [.x 59 eS h7,.g 64 [((e7==([110,111,100,101]:Str)),true)] (.ln _ _ λ_=>lm y5 eS)] (X0 H (λH=>?_) λH=>wH [.i 89 B4 q3.1] (wT (N41 _ H)))
   exact bC3 H λe12 h12 y13 h13 e14 h14 H=>bC2 H λy15 h15 xs16 h16 H=>wH [.x 69 eS h12,.c 71 (Va h13),.x 76 eS h14,.c 78 (Jw h15),.p 87 Q1 h16,.i 89 B4 q3.1] (wT (N41 _ H))
  .refine X0 H ?_ ?_<;>intro H
   .exact bC3 H λe8 h8 y9 h9 xs10 h10 H=>wH [.x 47 eS h8,.c 49 (Va h9),.p 56 eI h10] (wT (J31 _ H))
   .exact wP (wT (J31 _ H))
 .refine wP (wf (ltF y2.length) ?_)
  exact bC2 H λb17 h17 w18 h18 H=>wH [.c 91 (QD h17),.d 95 [(_,false)] λq=>Q0m (bF q.1 h18)] (X0 H (λH=>sI H▸wQ [(2,[.n 1,.n 4])] z7) λH=>sI H▸wY [(2,[.f,.f])] [] [14,235001] [] [zna v4.parents,zne v4.nodes])
def Mm(t1:Topo):Option Topo :=
 (Lm t1.parents).bind λy2=>(appL 32 ([]:List Node) t1.nodes).bind λxs3=>some (Topo.mk y2 xs3)
theorem Z00{t1 r:Topo}(H:Mm t1=some r):SQ Q0z [Y7 .rd t1] (Y7 .nw r):=by
 exact wc [(1,5)] [.c 2 2 true] (bC2 H λy2 h2 xs3 h3 H=>wH [.c 5 (W0n h2),.p 8 Q1 h3] (sI H▸wO [(2,[.d,.f])] [] [8] [] [zna y2,zne xs3]))
def Qy(parents1:tI)(s2 v3:Int)(k3:Int->Option Bool):Option Bool :=
 bif decide (v3<(parents1.length:Int))then((idx parents1 v3).bind λe5=>bif e5==s2 then(some false)else(k3 (w64 (v3+1))))else(some true)
def QS(parents1:tI)(s2:Int):Option Bool :=
 whl (Qy parents1 s2) 9223372036854775807 1
theorem L0D{parents1:tI}{s2:Int}{r:Bool}(H:QS parents1 s2=some r):SQ W0S [zra parents1,iV s2] (.bool r):=by
 refine wa [.t 4] (wP (wW (λ(v3:Int)=>⟨[(0,zra parents1),(1,iV s2),(5,iV v3)],[],[],[]⟩) H (λv3 I m k3 H N18=>?_)))
 refine wG [.l 8 parents1 eI] λq4=>X0 H (λH=>?_) λH=>sI H▸wV
 exact bC H λe5 h5 H=>wH [.x 14 eI h5] (X0 H (λH=>sI H▸wV) λH=>wP (wT (N18 _ H)))
def Q0d(parents1:tI)(v3:Int×Int)(k3:(Int×Int)->Option Int):Option Int :=
 bif decide (0<v3.1)then((idx parents1 v3.1).bind λe4=>k3 (e4,(w64 (v3.2+1))))else(some v3.2)
def MS(parents1:tI)(s2:Int):Option Int :=
 whl (Q0d parents1) 9223372036854775807 (s2,0)
theorem W0j{parents1:tI}{s2 r:Int}(H:MS parents1 s2=some r):SQ M12 [zra parents1,iV s2] (iV r):=by
 refine wa [.t 4] (wP (wW (λ(v3:Int×Int)=>⟨[(0,zra parents1),(1,iV v3.1),(5,iV v3.2)],[],[],[]⟩) H (λv3 I m k3 H N12=>?_)))
 refine wP (X0 H (λH=>?_) λH=>sI H▸wV)
 exact bC H λe4 h4 H=>wH [.x 10 eI h4] (wT (N12 _ H))
def Q0j(parents1:tI):Option Int :=
 (MS parents1 (w64 ((parents1.length:Int)-1))).bind λn2=>some n2
theorem L1t{parents1:tI}{r:Int}(H:Q0j parents1=some r):SQ O0S [zra parents1] (iV r):=by
 exact wa [.t 2] (bC H λn2 h2 H=>wG [.l 5 parents1 eI,.c 7 (W0j h2)] λq3=>sI H▸wD)
def VO(t1:Topo)(x12:Node)(_:Nat)(_:Unit)(k12:Unit->Option Bool):Option Bool :=
 (bif !(Z0 x12.leaf 0 (w64 ((t1.parents.length:Int)-1)))then some default else(QS t1.parents x12.leaf)).bind λb13=>bif ((!(Z0 x12.leaf 0 (w64 ((t1.parents.length:Int)-1))))||(!b13))||(!(Z2 x12.cap))then(some false)else(k12 ())
def M0v(_:Unit):Option Bool :=
 some true
def UO(t1:Topo)(_:Int)(i8:Nat)(v8:Int)(k8:Int->Option Bool):Option Bool :=
 (QS t1.parents (i8:Int)).bind λb9=>bif !b9 then(k8 v8)else((MS t1.parents (i8:Int)).bind λn10=>bif decide (0<=v8)&&(n10 != v8)then(some false)else(k8 n10))
def XO(t1:Topo)(_:Int):Option Bool :=
 rgl (VO t1) M0v t1.nodes 0 ()
def My(t1:Topo)(v4:Int)(k4:Int->Option Bool):Option Bool :=
 bif decide (v4<(t1.parents.length:Int))then((idx t1.parents v4).bind λe6=>bif !(Z0 e6 0 (w64 (v4-1)))then(some false)else(k4 (w64 (v4+1))))else(rgl (UO t1) (XO t1) t1.parents 0 (-1))
def Jn(t1:Topo):Option Bool :=
 (bif !(Z0 (t1.parents.length:Int) 1 24)then some default else(idx t1.parents 0)).bind λe2=>bif ((!(Z0 (t1.parents.length:Int) 1 24))||(e2 != 0))||decide (24<(t1.nodes.length:Int))then(some false)else(whl (My t1) 9223372036854775807 1)
theorem UE{t1:Topo}{r:Bool}(H:Jn t1=some r):SQ L0S [Y7 .rd t1] (.bool r):=by
 refine wa [.t 2] (bC H λe2 h2 H=>wG [.l 11 t1.parents eI,.u 12 (.call _ _ _ _ _ (AEs.refl _) (λ_=>V1 (t1.parents.length:Int) 1 24)),.g 17 [(_,false)] (.ix _ _ _ λq=>Y0 eI (bF q.1 h2)),.g 24 [(((!(Z0 (t1.parents.length:Int) 1 24))||(e2 != 0)),false)] (.ln _ _ λ_=>lm t1.nodes Q1)] λq3=>X0 H (λH=>sI H▸wV) λH=>wP (wW (λ(v4:Int)=>⟨[pB 1,(3,iV v4)],[],[(1,(Y7 .rd t1).cells)],[]⟩) H (λv4 I m k4 H N25=>?_)))
 refine wG [.l 30 t1.parents eI] λq5=>?_
 refine X0 H ?_ ?_<;>intro H
 .exact bC H λe6 h6 H=>wH [.x 37 eI h6,.u 41 (.call _ _ _ _ _ (AEs.refl _) (λ_=>V1 e6 0 (w64 (v4-1))))] (X0 H (λH=>sI H▸wV) λH=>wP (wT (N25 _ H)))
 .refine wG [.l 45 t1.parents eI] λq7=>wL (λ(i8:Nat) (v8:Int)=>⟨[pB 1,(4,iV v8)]++zl 45 t1.parents i8,[],[(1,(Y7 .rd t1).cells)],[]⟩) H (λi8 x8 v8 I m k8 A8 B8 H N58=>?_) (λv8 I m H=>?_)
  .exact bC H λb9 h9 H=>wH [.c 52 (L0D h9)] (X0 H (λH=>wH [.i 66 B8 q3.1] (wT (N58 _ H))) λH=>bC H λn10 h10 H=>wH [.c 57 (W0j h10)] (X0 H (λH=>sI H▸wV) λH=>wH [.i 66 B8 q3.1] (wT (N58 _ H))))
  .refine wG [.l 69 t1.nodes Q1] λq11=>wL (λ(i12:Nat) (v12:Unit)=>⟨[pB 1,(68,zre t1.nodes)]++zl 69 t1.nodes i12,[],[(1,(Y7 .rd t1).cells)],[]⟩) H (λi12 x12 v12 I m k12 A12 B12 H N80=>?_) (λv12 I m H=>?_)
   .exact bC H λb13 h13 H=>wG [.y 72 Q1 A12,.l 78 t1.parents eI,.u 80 (.call _ _ _ _ _ (AEs.refl _) (λ_=>V1 x12.leaf 0 (w64 ((t1.parents.length:Int)-1)))),.d 87 [(_,false)] λq=>L0D (bF q.1 h13),.d 93 [(((!(Z0 x12.leaf 0 (w64 ((t1.parents.length:Int)-1))))||(!b13)),false)] λ_=>V6 x12.cap] λq14=>X0 H (λH=>sI H▸wV) λH=>wH [.i 96 B12 q11.1] (wT (N80 () H))
   .exact sI H▸wV
def QJ(t1:Topo)(s2:Int):Option Int :=
 (Q0j t1.parents).bind λn3=>(MS t1.parents s2).bind λn4=>some (w64 (n3-n4))
theorem Z03{t1:Topo}{s2 r:Int}(H:QJ t1 s2=some r):SQ Q12 [Y7 .rd t1,iV s2] (iV r):=by
 exact wc [(1,9)] [.t 4] (bC2 H λn3 h3 n4 h4 H=>wH [.c 7 (L1t h3),.c 11 (W0j h4)] (sI H▸wD))
def Z0E(t1:Topo)(v3:Int×tI)(k3:(Int×tI)->Option tI):Option tI :=
 bif decide (0<v3.1)then((idx t1.parents v3.1).bind λe4=>(appL 8 v3.2 [e4]).bind λxs5=>k3 (e4,xs5))else(some v3.2)
def Q0g(t1:Topo)(s2:Int):Option tI :=
 whl (Z0E t1) 9223372036854775807 (s2,[s2])
theorem Z0P{t1:Topo}{s2:Int}{r:tI}(H:Q0g t1 s2=some r):SQ L12 [Y7 .rd t1,iV s2] (zfa r):=by
 refine wb [7] [.t 4] (wP (wW (λ(v3:Int×tI)=>⟨[(1,iV v3.1),pB 2,(5,.sref 7)],[],[(2,(Y7 .rd t1).cells)],[(7,zwa v3.2)]⟩) H (λv3 I m k3 H N12=>?_)))
 refine wP (X0 H (λH=>?_) λH=>sI H▸wP (wN [(4,.f)] [] [] [7] [] [zna v3.2]))
 exact bC2 H λe4 h4 xs5 h5 H=>wH [.x 13 eI h4,.p 18 eI h5] (wT (N12 _ H))
def XT(t1:Topo)(x4:Int)(_:Nat)(_:Unit)(k4:Unit->Option Bool):Option Bool :=
 bif !(Z0 x4 0 (w64 ((t1.nodes.length:Int)-1)))then(some false)else(k4 ())
def YT(t1:Topo)(_:Unit):Option Bool :=
 (Jn t1).bind λb6=>some b6
def MB(t1:Topo)(nodes2:tI):Option Bool :=
 rgl (XT t1) (YT t1) nodes2 0 ()
theorem O0n{t1:Topo}{nodes2:tI}{r:Bool}(H:MB t1 nodes2=some r):SQ J0z [Y7 .rd t1,zra nodes2] (.bool r):=by
 refine wa [.t 4] (wG [.l 8 nodes2 eI] λq3=>wL (λ(i4:Nat) (v4:Unit)=>⟨[pB 2,(7,zra nodes2)]++zl 8 nodes2 i4,[],[(2,(Y7 .rd t1).cells)],[]⟩) H (λi4 x4 v4 I m k4 A4 B4 H N20=>?_) (λv4 I m H=>?_))
 .exact wG [.y 11 eI A4,.l 16 t1.nodes Q1,.u 18 (.call _ _ _ _ _ (AEs.refl _) (λ_=>V1 x4 0 (w64 ((t1.nodes.length:Int)-1))))] λq5=>X0 H (λH=>sI H▸wV) λH=>wH [.i 20 B4 q3.1] (wT (N20 () H))
 .exact bC H λb6 h6 H=>wH [.c 22 (UE h6)] (sI H▸wD)
def Qp(v2 x4:Int)(i4:Nat)(_:Unit)(k4:Unit->Option Int):Option Int :=
 bif v2==x4 then(some (i4:Int))else(k4 ())
def UJ(_:Unit):Option Int :=
 some (-1)
def Mg(s1:tI)(v2:Int):Option Int :=
 rgl (Qp v2) UJ s1 0 ()
theorem J0h{s1:tI}{v2 r:Int}(H:Mg s1 v2=some r):SQ UQ [zra s1,iV v2] (iV r):=by
 refine wa [.t 4] (wG [.l 7 s1 eI] λq3=>wL (λ(i4:Nat) (v4:Unit)=>⟨[(0,zra s1),(1,iV v2)]++zl 7 s1 i4,[],[],[]⟩) H (λi4 x4 v4 I m k4 A4 B4 H N20=>?_) (λv4 I m H=>?_))
 .exact wH [.y 14 eI A4] (X0 H (λH=>sI H▸wV) λH=>wH [.i 18 B4 q3.1] (wT (N20 () H)))
 .exact sI H▸wV
def Z5(s1:tI)(v2:Int):Option Bool :=
 (Mg s1 v2).bind λn3=>some (decide (0<=n3))
theorem O9{s1:tI}{v2:Int}{r:Bool}(H:Z5 s1 v2=some r):SQ XF [zra s1,iV v2] (.bool r):=by
 exact wa [.t 4] (bC H λn3 h3 H=>wH [.c 7 (J0h h3)] (sI H▸wD))
def Xz(t1:Topo)(i5:Nat)(x7:Int)(_:Nat)(v7:Bool)(k7:Bool->Option Int):Option Int :=
 (bif v7 then(idx t1.nodes x7)else some default).bind λe8=>(bif v7 then(Q0g t1 e8.leaf)else some default).bind λy9=>(bif v7 then(Z5 y9 (i5:Int))else some default).bind λb10=>k7 (v7&&b10)
def Vq(t1:Topo)(v5:Int)(i5:Nat)(k5:Int->Option Int)(v7:Bool):Option Int :=
 (bif v7 then(bif decide (v5<0)then some default else(QJ t1 (i5:Int)))else some default).bind λn11=>(bif v7 then(bif decide (v5<0)then some default else(QJ t1 v5))else some default).bind λn12=>bif v7&&(decide (v5<0)||decide (n11<=n12))then(k5 (i5:Int))else(k5 v5)
def UP(t1:Topo)(nodes2:tI)(_:Int)(i5:Nat)(v5:Int)(k5:Int->Option Int):Option Int :=
 rgl (Xz t1 i5) (Vq t1 v5 i5 k5) nodes2 0 true
def L08(v5:Int):Option Int :=
 some v5
def LT(t1:Topo)(nodes2:tI):Option Int :=
 (MB t1 nodes2).bind λb3=>bif (!b3)||((nodes2.length:Int)==0)then(some (-1))else(rgl (UP t1 nodes2) L08 t1.parents 0 (-1))
theorem Y1v{t1:Topo}{nodes2:tI}{r:Int}(H:LT t1 nodes2=some r):SQ W0T [Y7 .rd t1,zra nodes2] (iV r):=by
 refine wc [(11,13),(13,14)] [.t 4] (bC H λb3 h3 H=>wH [.c 12 (O0n h3),.g 16 [((!b3),false)] (.ln _ _ λ_=>lm nodes2 eI)] (X0 H (λH=>sI H▸wV) λH=>wG [.l 21 t1.parents eI] λq4=>wL (λ(i5:Nat) (v5:Int)=>⟨[(1,zra nodes2),pB 2,(5,iV v5)]++zl 21 t1.parents i5,[],[(2,(Y7 .rd t1).cells)],[]⟩) H (λi5 x5 v5 I m k5 A5 B5 H N45=>?_) (λv5 I m H=>?_)))
 .refine wG [.l 26 nodes2 eI] λq6=>wL (λ(i7:Nat) (v7:Bool)=>⟨[(1,zra nodes2),pB 2,(5,iV v5),(6,iV (i5:Int)),(7,.bool v7),(21,iV (t1.parents.length:Int)),(22,iV (i5:Int)),(25,zra nodes2)]++zl 26 nodes2 i7,[],[(2,(Y7 .rd t1).cells)],[]⟩) H (λi7 x7 v7 I m k7 A7 B7 H N29=>?_) (λv7 I m H=>?_)
  .exact bC3 H λe8 h8 y9 h9 b10 h10 H=>wH [.y 29 eI A7,.g 37 [(_,true)] (.ix _ _ _ λq=>Y0 Q1 (bT q.1 h8)),.d 40 [(_,true)] λq=>Z0P (bT q.1 h9),.d 42 [(_,true)] λq=>O9 (bT q.1 h10),.i 44 B7 q6.1] (wT (N29 _ H))
  .exact bC2 H λn11 h11 n12 h12 H=>wH [.d 52 [(_,false),(_,true)] λq=>Z03 (bF q.1 (bT q.2.1 h11)),.d 55 [(_,false),(_,true)] λq=>Z03 (bF q.1 (bT q.2.1 h12))] (X0 H (λH=>wH [.i 60 B5 q4.1] (wT (N45 _ H))) λH=>wH [.i 60 B5 q4.1] (wT (N45 _ H)))
 .exact sI H▸wV
def WT(x11:Node)(_:Nat)(v11:Str)(k11:Str->Option Str):Option Str :=
 (catS v11 ([110,111,100,101,32]:Str)).bind λw12=>(V5 x11.leaf).bind λw13=>(catS w12 w13).bind λw14=>(catS w14 ([32]:Str)).bind λw15=>(Jm x11.cap).bind λw16=>(catS w15 w16).bind λw17=>(catS w17 ([10]:Str)).bind λw18=>k11 w18
def W0g(v11:Str):Option Str :=
 some v11
def OT(x5:Int)(_:Nat)(v5:Str)(k5:Str->Option Str):Option Str :=
 (catS v5 ([115,119,105,116,99,104,32]:Str)).bind λw6=>(V5 x5).bind λw7=>(catS w6 w7).bind λw8=>(catS w8 ([10]:Str)).bind λw9=>k5 w9
def QT(t1:Topo)(v5:Str):Option Str :=
 rgl WT W0g t1.nodes 0 v5
def LB(t1:Topo):Option Str :=
 (Jn t1).bind λb2=>bif !b2 then(some ([]:Str))else((cutL t1.parents (some 1) none).bind λxs3=>rgl OT (QT t1) xs3 0 ([]:Str))
theorem L0n{t1:Topo}{r:Str}(H:LB t1=some r):SQ Y0A [Y7 .rd t1] (.str r):=by
 refine wc [(12,12)] [.t 2] (bC H λb2 h2 H=>wH [.c 9 (UE h2)] (X0 H (λH=>sI H▸wV) λH=>bC H λxs3 h3 H=>wG [.u 13 (.sc _ _ _ _ λ_=>Ut eI h3),.l 14 xs3 eI] λq4=>wL (λ(i5:Nat) (v5:Str)=>⟨[pB 1,(3,.str v5),(13,zra xs3)]++zl 14 xs3 i5,[],[(1,(Y7 .rd t1).cells)],[]⟩) H (λi5 x5 v5 I m k5 A5 B5 H N22=>?_) (λv5 I m H=>?_)))
 .exact bC3 H λw6 h6 w7 h7 w8 h8 H=>bC H λw9 h9 H=>wH [.y 17 eI A5,.u 20 (.sa _ _ _ λ_=>h6),.c 22 (O4 h7),.u 23 (.sa _ _ _ λ_=>h8),.u 24 (.sa _ _ _ λ_=>h9),.i 25 B5 q4.1] (wT (N22 _ H))
 .refine wG [.l 28 t1.nodes Q1] λq10=>wL (λ(i11:Nat) (v11:Str)=>⟨[(3,.str v11),(27,zre t1.nodes)]++zl 28 t1.nodes i11,[],[],[]⟩) H (λi11 x11 v11 I m k11 A11 B11 H N38=>?_) (λv11 I m H=>?_)
  .exact bC3 H λw12 h12 w13 h13 w14 h14 H=>bC3 H λw15 h15 w16 h16 w17 h17 H=>bC H λw18 h18 H=>wH [.y 31 Q1 A11,.u 34 (.sa _ _ _ λ_=>h12),.c 37 (O4 h13),.u 38 (.sa _ _ _ λ_=>h14),.u 39 (.sa _ _ _ λ_=>h15),.c 42 (Oy h16),.u 43 (.sa _ _ _ λ_=>h17),.u 44 (.sa _ _ _ λ_=>h18),.i 45 B11 q10.1] (wT (N38 _ H))
  .exact sI H▸wV
noncomputable def Z17:L :=
 lf Tryz.prog X0A [11] [] [] [] [] [] [14951]
def V8(k4:Topo->Option (Topo×Bool))(v18:Topo):Option (Topo×Bool) :=
 bif decide (24<(v18.parents.length:Int))||decide (24<(v18.nodes.length:Int))then(some ((Topo.mk [] []),false))else(k4 v18)
def J2(x4:Str)(_:Nat)(v4:Topo)(k4:Topo->Option (Topo×Bool)):Option (Topo×Bool) :=
 (Z3 x4 32).bind λy5=>(bif (y5.length:Int)==2 then(idx y5 0)else some default).bind λe6=>bif ((y5.length:Int)==2)&&(e6==([115,119,105,116,99,104]:Str))then((idx y5 1).bind λe8=>(U2 e8).bind λy9=>(appL 8 v4.parents [y9.1]).bind λxs10=>(V8 k4) (Topo.mk xs10 v4.nodes))else((bif (y5.length:Int)==3 then(idx y5 0)else some default).bind λe11=>bif ((y5.length:Int)==3)&&(e11==([110,111,100,101]:Str))then((idx y5 1).bind λe13=>(U2 e13).bind λy14=>(idx y5 2).bind λe15=>(U9 e15).bind λy16=>(appL 32 v4.nodes [(Node.mk y14.1 y16.1)]).bind λxs17=>(V8 k4) (Topo.mk v4.parents xs17))else((V8 k4) v4))
def Ud(s1:Str)(v4:Topo):Option (Topo×Bool) :=
 (Jn v4).bind λb20=>(bif !b20 then some default else(LB v4)).bind λw21=>bif (!b20)||(w21 != s1)then(some ((Topo.mk [] []),false))else(some (v4,true))
def Yi(s1:Str):Option (Topo×Bool) :=
 (Z3 s1 10).bind λy2=>rgl J2 (Ud s1) y2 0 (Topo.mk [0] [])
theorem U18{s1:Str}{r:Topo×Bool}(H:Yi s1=some r):SQ X0A [.str s1] (.tup [Y7 .nw r.1,.bool r.2]):=by
 refine wS Z17 [.c 2 2 true,.t 3] (bC H λy2 h2 H=>wG [.c 14 (Vt h2),.l 15 y2 eS] λq3=>M01 (λ(i4:Nat) (v4:Topo)=>⟨[(0,.str s1),pB 2,pB 4,(14,zfb y2)]++zl 15 y2 i4,[],[(2,[.nl,.nl]),(4,[.sref 11,.sref 235001])],[(11,zwa v4.parents),(235001,zwe v4.nodes)]⟩) [] [(4,[.d,.z 235001])] [(235001,(none,4))] [] (by kernel_rfl) (by kernel_rfl) H (λi4 x4 v4 I m k4 A4 B4 H N42=>?_) (λv4 I m H=>?_))
 .refine wP (wt (ltT B4) ?_)
  refine bC2 H λy5 h5 e6 h6 H=>wG [.y 18 eS A4,.c 21 (Vt h5),.l 24 y5 eS,.g 28 [(_,true)] (.ix _ _ _ λq=>Y0 eS (bT q.1 h6))] λq7=>Xi (r:=r) (V8 k4) 0 (λv18:Topo=>⟨[(0,.str s1),pB 2,pB 4,(14,.sl .nw 1 (y2.map eS)),(15,.int .i64 (y2.length:Int)),(16,.int .i64 (i4:Int))],[],[(2,[.nl,.nl]),(4,[.sref 11,.sref 235001])],[(11,zwa v18.parents),(235001,zwe v18.nodes)]⟩) (by kernel_rfl) (λv18 H=>?_) (λJ33=>?_)
  .exact wG [.l 80 v18.parents eI,.g 85 [((decide (24<(v18.parents.length:Int))),false)] (.ln _ _ λ_=>lm v18.nodes Q1)] λq19=>X0 H (λH=>sI H▸wQ [(2,[.n 1,.n 4])] z7) λH=>wH [.i 89 B4 q3.1] (wT (N42 _ H))
  .refine X0 H ?_ ?_<;>intro H
   .exact bC3 H λe8 h8 y9 h9 xs10 h10 H=>wH [.x 34 eS h8,.c 36 (Z8 h9),.p 43 eI h10] (wT (J33 _ H))
   .refine bC H λe11 h11 H=>wG [.l 47 y5 eS,.g 51 [(_,true)] (.ix _ _ _ λq=>Y0 eS (bT q.1 h11))] λq12=>?_
    refine X0 H ?_ ?_<;>intro H
    .exact bC3 H λe13 h13 y14 h14 e15 h15 H=>bC2 H λy16 h16 xs17 h17 H=>wH [.x 58 eS h13,.c 60 (Z8 h14),.x 66 eS h15,.c 68 (Ly h16),.p 76 Q1 h17] (wT (J33 _ H))
    .exact wP (wT (J33 _ H))
 .refine wP (wf (ltF y2.length) ?_)
  exact bC2 H λb20 h20 w21 h21 H=>wH [.c 91 (UE h20),.d 95 [(_,false)] λq=>L0n (bF q.1 h21)] (X0 H (λH=>sI H▸wQ [(2,[.n 1,.n 4])] z7) λH=>sI H▸wY [(2,[.f,.f])] [] [11,235001] [] [zna v4.parents,zne v4.nodes])
structure TreeP(P:tI):Prop where
 pos:0<P.length
 le:P.length<=24
 root:P[0]?=some 0
 par:∀(i:Nat),1<=i->∀(p:Int),P[i]?=some p->0<=p/\p<i
def prt(P:tI)(i:Nat):Nat:=(P.getD i 0).toNat
def dep(P:tI)(s:Nat):Nat:=if h:0<s/\prt P s<s then dep P (prt P s)+1 else 0
termination_by s
decreasing_by exact h.2
def ups(P:tI)(s:Nat):List Nat:=if _:0<s/\prt P s<s then s::ups P (prt P s)else[s]
termination_by s
decreasing_by exact(‹0<s/\prt P s<s›:0<s/\prt P s<s).2
def kids(P:tI)(s:Int):List Nat:=(List.range' 1 (P.length-1)).filter λi=>P[i]?==some s
theorem L1Y{P:tI}{s:Int}{c:Nat}:c∈kids P s↔1<=c/\c<P.length/\P[c]?=some s:=by
 simp only[kids,List.mem_filter,List.mem_range',beq_iff_eq]
 constructor
 .rintro⟨⟨i,hi,rfl⟩,h⟩;exact⟨by omega,by omega,h⟩
 .rintro⟨h1,h2,h3⟩;exact⟨⟨c-1,by omega,by omega⟩,h3⟩
theorem TreeP.par_lt{P:tI}(T:TreeP P){i:Nat}(h1:1<=i)(h:i<P.length):prt P i<i/\P[i]?=some (prt P i:Int):=by
 have e:P[i]?=some P[i]:=yA h
 have:=T.par i h1 _ e
 have q:prt P i=P[i].toNat:=by simp[prt,h]
 rw[q]
 exact⟨by omega,by rw[e];congr 1;omega⟩
theorem Q2k(P:tI):dep P 0=0:=by rw[dep];simp
theorem TreeP.dep_succ{P:tI}(T:TreeP P){i:Nat}(h1:1<=i)(h:i<P.length):dep P i=dep P (prt P i)+1:=by
 rw[dep,dif_pos ⟨by omega,(T.par_lt h1 h).1⟩]
theorem U1z(P:tI):ups P 0=[0]:=by rw[ups];simp
theorem TreeP.ups_succ{P:tI}(T:TreeP P){i:Nat}(h1:1<=i)(h:i<P.length):ups P i=i::ups P (prt P i):=by
 rw[ups,dif_pos ⟨by omega,(T.par_lt h1 h).1⟩]
theorem M2e(P:tI):∀s,dep P s<=s:=by
 intro s
 induction s using Nat.strongRecOn with
 |_ s ih =>
  rw[dep]
  split
  .rename_i h;have:=ih _ h.2;omega
  .omega
theorem V0M(P:tI)(s:Nat):s∈ups P s:=by rw[ups];split<;>simp
theorem TreeP.ups_mem{P:tI}(T:TreeP P):∀l,l<P.length->∀s,s∈ups P l->s<=l/\∀x,x∈ups P s->x∈ups P l:=by
 intro l
 induction l using Nat.strongRecOn with
 |_ l ih =>
  intro hl s hs
  by_cases h0:l=0
  .subst h0;rw[U1z]at hs;simp at hs;subst hs;exact⟨yV _,λx hx=>hx⟩
  .have hp:=T.par_lt (i:=l) (by omega) hl
   rw[T.ups_succ (by omega) hl]at hs ⊢
   rcases yX hs with rfl|hs
   .exact⟨yV _,λx hx=>by rwa [T.ups_succ (by omega) hl]at hx⟩
   .obtain⟨q1,q2⟩:=ih _ hp.1 (by omega) s hs
    exact⟨by omega,λx hx=>yH _ (q2 x hx)⟩
theorem TreeP.kid_of{P:tI}(T:TreeP P):∀l,l<P.length->∀s,s∈ups P l->s≠l->∃c,c∈kids P (s:Int)/\c∈ups P l:=by
 intro l
 induction l using Nat.strongRecOn with
 |_ l ih =>
  intro hl s hs hne
  by_cases h0:l=0
  .subst h0;rw[U1z]at hs;simp at hs;exact absurd hs hne
  .have hp:=T.par_lt (i:=l) (by omega) hl
   rw[T.ups_succ (by omega) hl]at hs ⊢
   rcases yX hs with rfl|hs
   .exact absurd rfl hne
   .by_cases he:s=prt P l
    .subst he
     exact⟨l,L1Y.2 ⟨by omega,hl,hp.2⟩,yJ ..⟩
    .obtain⟨c,q1,q2⟩:=ih _ hp.1 (by omega) s hs he
     exact⟨c,q1,yH _ q2⟩
theorem TreeP.kid_par{P:tI}(T:TreeP P){s c:Nat}(h:c∈kids P (s:Int)):1<=c/\c<P.length/\prt P c=s/\s<c:=by
 obtain⟨h1,h2,h3⟩:=L1Y.1 h
 have hp:=T.par_lt h1 h2
 rw[hp.2]at h3
 have:prt P c=s:=by have:=Option.some.inj h3;omega
 exact⟨h1,h2,this,by omega⟩
structure LeafP(P:tI)(s l:Nat):Prop where
 lt:l<P.length
 leaf:kids P (l:Int)=[]
 up:s∈ups P l
theorem TreeP.some_leaf{P:tI}(T:TreeP P):∀(n s:Nat),P.length-s=n->s<P.length->∃l,LeafP P s l:=by
 intro n
 induction n using Nat.strongRecOn with
 |_ n ih =>
  intro s hn hs
  cases hk:kids P (s:Int)with
  |nil=>exact⟨s,hs,hk,V0M P s⟩
  |cons c ks =>
   have hc:c∈kids P (s:Int):=by rw[hk];exact yJ ..
   obtain⟨q1,q2,q3,q4⟩:=T.kid_par hc
   obtain⟨l,hl⟩:=ih (P.length-c) (by omega) c rfl q2
   refine⟨l,hl.lt,hl.leaf,(T.ups_mem l hl.lt c hl.up).2 s ?_⟩
   rw[T.ups_succ q1 q2,q3]
   exact yH _ (V0M P s)
theorem TreeP.leaf_kid{P:tI}(T:TreeP P){s c l:Nat}(hc:c∈kids P (s:Int))(h:LeafP P c l):LeafP P s l:=by
 obtain⟨q1,q2,q3,q4⟩:=T.kid_par hc
 refine⟨h.lt,h.leaf,(T.ups_mem l h.lt c h.up).2 s ?_⟩
 rw[T.ups_succ q1 q2,q3]
 exact yH _ (V0M P s)
theorem TreeP.leaf_cases{P:tI}(T:TreeP P){s l:Nat}(h:LeafP P s l):s=l\/∃c,c∈kids P (s:Int)/\LeafP P c l:=by
 by_cases e:s=l
 .exact .inl e
 .obtain⟨c,q1,q2⟩:=T.kid_of l h.lt s h.up e
  exact .inr ⟨c,q1,h.lt,h.leaf,q2⟩
theorem TreeP.zero_up{P:tI}(T:TreeP P):∀l,l<P.length->0∈ups P l:=by
 intro l
 induction l using Nat.strongRecOn with
 |_ l ih =>
  intro hl
  by_cases h0:l=0
  .subst h0;exact V0M P 0
  .rw[T.ups_succ (by omega) hl]
   exact yH _ (ih _ (T.par_lt (by omega) hl).1 (by have:=(T.par_lt (i:=l) (by omega) hl).1;omega))
theorem VL(t:Topo)(s:Int)(hl:t.parents.length<=1048576):Ww t s=some ((kids t.parents s).map λ(i:Nat)=>(i:Int)):=by
 unfold Ww
 have h:=W0r (bd:=Wt t s) (λ(i:Nat) (st:tI)=>((i:Int),st)) (n:=t.parents.length)
  (B:=λx _ st k=>bif t.parents[x]?==some s then(appL 8 st [(x:Int)]).bind k else k st) (kk:=some) (λi st k hi=>by
   obtain⟨e,he⟩:∃e,t.parents[i]?=some e:=⟨_,yA hi⟩
   have hlt:(i:Int)<(t.parents.length:Int):=by omega
   simp only[Wt,hlt,decide_true,yN,X3,he,bS,Wn (n:=i) (by omega)]
   rw[show(some e==some s)=(e==s) from rfl])
  (λi st k hi=>by
   have hlt:¬ (i:Int)<(t.parents.length:Int):=by omega
   simp only[Wt,hlt,decide_false,yM]) 9223372036854775807 1 [] (by omega)
 refine h.trans ?_
 rw[Q7 (p:=λ(x:Nat)=>t.parents[x]?==some s) (f:=λ(x:Nat)=>(x:Int)) (λx _ i b k=>rfl) (by simp;omega)]
 rfl
def LevP(P:tI)(s:Nat)(v:Int):Prop :=
 (0<=v/\v<=P.length-s/\∀l,LeafP P s l->(dep P l:Int)=dep P s+v)\/(v = -1/\∃l1 l2,LeafP P s l1/\LeafP P s l2/\dep P l1≠dep P l2)
theorem Z0M{t:Topo}(T:TreeP t.parents):∀(n s fuel:Nat),t.parents.length-s=n->s<t.parents.length->n<=fuel->∃v,Mo fuel t (s:Int)=some v/\LevP t.parents s v:=by
 intro n
 induction n using Nat.strongRecOn with
 |_ n ih =>
  intro s fuel hn hs hf
  obtain⟨fuel,rfl⟩:∃m,fuel=m+1:=⟨fuel-1,by omega⟩
  have hle:=T.le
  rw[Mo,VL t s (by omega),bS,Q27]
  refine Lh (λi (v:Int)=>(i=0->v = -1)/\(0<i->0<=v/\v<=t.parents.length-s-1/\∀j c,j<i->(kids t.parents (s:Int))[j]?=some c->∀l,LeafP t.parents c l->(dep t.parents l:Int)=dep t.parents s+1+v)) (λr=>∃v,r=some v/\LevP t.parents s v) ?_ ?_ ⟨λ_=>rfl,λh=>by omega⟩
  .intro i c v k hi hI hk
   have hc:c∈kids t.parents (s:Int):=yE hi
   obtain⟨q1,q2,q3,q4⟩:=T.kid_par hc
   have hd:dep t.parents c=dep t.parents s+1:=by rw[T.dep_succ q1 q2,q3]
   obtain⟨n6,hn6,hl6⟩:=ih (t.parents.length-c) (by omega) c fuel rfl q2 (by omega)
   rw[UR,hn6,bS]
   rcases hl6 with⟨p1,p2,p3⟩|⟨rfl,l1,l2,h1,h2,hne⟩
   .have e1:decide (n6<0)=false:=by simpa using p1
    rw[e1,Bool.false_or]
    by_cases h0:i=0
    .subst h0
     simp only[Int.natCast_zero,Int.lt_irrefl,decide_false,Bool.false_and,yM]
     refine hk n6 ⟨λh=>by omega,λ_=>⟨p1,by omega,λj c' hj hc' l hl=>?_⟩⟩
     have:j=0:=by omega
     subst this
     rw[hi]at hc';cases hc'
     rw[p3 l hl,hd];omega
    .have e2:decide ((0:Int)<(i:Int))=true:=by simp;omega
     obtain⟨r1,r2,r3⟩:=hI.2 (by omega)
     rw[e2,Bool.true_and]
     by_cases hv:n6=v
     .subst hv
      simp only[bne_self_eq_false,yM]
      refine hk n6 ⟨λh=>by omega,λ_=>⟨p1,r2,λj c' hj hc' l hl=>?_⟩⟩
      by_cases hji:j=i
      .subst hji
       rw[hi]at hc';cases hc'
       rw[p3 l hl,hd];omega
      .exact r3 j c' (by omega) hc' l hl
     .have e3:(n6 != v)=true:=by simpa using hv
      rw[e3,yN]
      refine⟨-1,rfl,.inr ⟨rfl,?_⟩⟩
      obtain⟨c0,hc0⟩:∃c0,(kids t.parents (s:Int))[0]?=some c0:=⟨_,yA (by have:=(yB hi).1;omega)⟩
      have hm0:=yE hc0
      obtain⟨w1,w2,w3,w4⟩:=T.kid_par hm0
      obtain⟨la,hla⟩:=T.some_leaf _ c0 rfl w2
      obtain⟨lb,hlb⟩:=T.some_leaf _ c rfl q2
      refine⟨la,lb,T.leaf_kid hm0 hla,T.leaf_kid hc hlb,λe=>hv ?_⟩
      have a1:=r3 0 c0 (by omega) hc0 la hla
      have a2:=p3 lb hlb
      omega
   .refine⟨-1,by rfl,.inr ⟨rfl,l1,l2,T.leaf_kid hc h1,T.leaf_kid hc h2,hne⟩⟩
  .intro v hI
   rw[VR]
   by_cases h0:(kids t.parents (s:Int)).length=0
   .rw[hI.1 h0]
    refine⟨0,rfl,.inl ⟨by omega,by omega,λl hl=>?_⟩⟩
    rcases T.leaf_cases hl with rfl|⟨c,hc,_⟩
    .omega
    .rw[List.eq_nil_of_length_eq_zero h0]at hc;cases hc
   .obtain⟨r1,r2,r3⟩:=hI.2 (by omega)
    rw[Y5 (by omega)]
    refine⟨v+1,rfl,.inl ⟨by omega,by omega,λl hl=>?_⟩⟩
    rcases T.leaf_cases hl with rfl|⟨c,hc,hlc⟩
    .have:=hl.leaf
     rw[this]at h0;simp at h0
    .obtain⟨j,hj⟩:=List.getElem?_of_mem hc
     rw[r3 j c (yB hj).1 hj l hlc];omega
theorem U0m{t:Topo}(T:TreeP t.parents){s:Nat}(hs:s<t.parents.length):∃v,Ld t (s:Int)=some v/\LevP t.parents s v :=
 Z0M T _ s _ rfl hs (by have:=T.le;omega)
structure TopoP(t:Topo):Prop where
 tree:TreeP t.parents
 nodes:t.nodes.length<=24
 node:∀x∈t.nodes,0<=x.leaf/\x.leaf<t.parents.length/\kids t.parents x.leaf=[]/\U0 x.cap=true
 even:∀l1 l2,l1<t.parents.length->l2<t.parents.length->kids t.parents (l1:Int)=[]->kids t.parents (l2:Int)=[]->dep t.parents l1=dep t.parents l2
theorem Y05(t:Topo):∃b,Lf t=some b/\(b=true↔TopoP t):=by
 unfold Lf
 by_cases h1:t.parents.length<1
 .exact⟨false,by simp[show((t.parents.length:Int)<1) by omega],Wq λh=>by have:=h.tree.pos;omega⟩
 by_cases h2:24<t.parents.length
 .exact⟨false,by simp[show((24:Int)<t.parents.length) by omega],Wq λh=>by have:=h.tree.le;omega⟩
 by_cases h3:24<t.nodes.length
 .exact⟨false,by simp[show((24:Int)<t.nodes.length) by omega],Wq λh=>by have:=h.nodes;omega⟩
 obtain⟨p0,hp0⟩:∃p0,t.parents[0]?=some p0:=⟨_,yA (by omega)⟩
 have e1:decide ((t.parents.length:Int)<1)=false:=by simp;omega
 have e2:decide ((24:Int)<(t.parents.length:Int))=false:=by simp;omega
 have e3:decide ((24:Int)<(t.nodes.length:Int))=false:=by simp;omega
 rw[e1,e2,e3]
 simp only[Bool.or_self,yM,Bool.false_or,show idx t.parents 0=some p0 from by rw[← hp0];exact X3 (i:=0),bS]
 by_cases h4:p0=0
 .subst h4
  simp only[bne_self_eq_false,yM]
  have h:=W0r (bd:=Lw t) (λ(i:Nat) (_:Unit)=>(i:Int)) (n:=t.parents.length)
   (B:=λx _ _ k=>bif match t.parents[x]? with|some e=>decide (e<0)||decide ((x:Int)<=e)|none=>true then some false else k ())
   (kk:=λ_=>rgl (Mw t) (UL t) t.nodes 0 ()) (λi st k hi=>by
    obtain⟨e,he⟩:∃e,t.parents[i]?=some e:=⟨_,yA hi⟩
    have hlt:(i:Int)<(t.parents.length:Int):=by omega
    simp only[Lw,hlt,decide_true,yN,X3,he,bS,Wn (n:=i) (by omega)])
   (λi st k hi=>by
    have hlt:¬ (i:Int)<(t.parents.length:Int):=by omega
    simp only[Lw,hlt,decide_false,yM]) 9223372036854775807 1 () (by omega)
  rw[show(1:Int)=((1:Nat):Int) from rfl,h,Ox (p:=λ(x:Nat)=>match t.parents[x]? with|some e=>decide (e<0)||decide ((x:Int)<=e)|none=>true) (λx _ i k=>rfl)]
  cases hany:(List.range' 1 (t.parents.length-1)).any (λ(x:Nat)=>match t.parents[x]? with|some e=>decide (e<0)||decide ((x:Int)<=e)|none=>true)with
  |true =>
   refine⟨false,rfl,Wq λhT=>?_⟩
   obtain⟨x,hx,hq⟩:=List.any_eq_true.1 hany
   obtain⟨j,hj,rfl⟩:=List.mem_range'.1 hx
   obtain⟨e,he⟩:∃e,t.parents[1+1*j]?=some e:=⟨_,yA (by omega)⟩
   have:=hT.tree.par _ (by omega) e he
   rw[he]at hq
   simp at hq
   omega
  |false =>
   have T:TreeP t.parents:=⟨by omega,by omega,hp0,λi hi p hp=>by
    have hlt:i<t.parents.length:=(yB hp).1
    have:=List.any_eq_false.1 hany i (List.mem_range'.2 ⟨i-1,by omega,by omega⟩)
    rw[hp]at this
    simp at this
    omega⟩
   rw[yM]
   have hb:∀x∈t.nodes,∀i k,Mw t x i () k=bif !(decide (0<=x.leaf)&&decide (x.leaf<t.parents.length)&&(kids t.parents x.leaf).isEmpty&&U0 x.cap)then some false else k ():=by
    intro x _ i k
    unfold Mw
    by_cases q1:x.leaf<0
    .simp[q1,show ¬ 0<=x.leaf by omega]
    .by_cases q2:(t.parents.length:Int)<=x.leaf
     .simp[q1,q2,show ¬ x.leaf<t.parents.length by omega]
     .rw[show decide (x.leaf<0)=false by simpa using q1,show decide ((t.parents.length:Int)<=x.leaf)=false by simpa using q2]
      simp only[Bool.or_self,yM,Bool.false_or,VL t x.leaf (by omega),bS,List.length_map]
      rw[show decide (0<=x.leaf)=true by simpa using q1,show decide (x.leaf<(t.parents.length:Int))=true by simpa using q2]
      cases hk:kids t.parents x.leaf with
      |nil=>simp
      |cons a l=>simp
   rw[Ox hb]
   cases hany2:t.nodes.any (λx=>!(decide (0<=x.leaf)&&decide (x.leaf<t.parents.length)&&(kids t.parents x.leaf).isEmpty&&U0 x.cap))with
   |true =>
    refine⟨false,rfl,Wq λhT=>?_⟩
    obtain⟨x,hx,hq⟩:=List.any_eq_true.1 hany2
    obtain⟨a1,a2,a3,a4⟩:=hT.node x hx
    simp[a1,a2,a3,a4]at hq
   |false =>
    obtain⟨v,hv,hl⟩:=U0m T (s:=0) (by omega)
    rw[yM,UL,show(0:Int)=((0:Nat):Int) from rfl,hv,bS]
    have mem:∀l,l<t.parents.length->kids t.parents (l:Int)=[]->LeafP t.parents 0 l:=λl h1 h2=>⟨h1,h2,T.zero_up l h1⟩
    refine⟨_,rfl,?_⟩
    rw[decide_eq_true_iff]
    constructor
    .intro h0
     refine⟨T,by omega,λx hx=>?_,λl1 l2 a1 a2 a3 a4=>?_⟩
     .have:=List.any_eq_false.1 hany2 x hx
      simpa[and_assoc]using this
     .rcases hl with⟨_,_,hl⟩|⟨rfl,_⟩
      .have:=hl l1 (mem l1 a1 a3)
       have:=hl l2 (mem l2 a2 a4)
       omega
      .simp at h0
    .intro hT
     rcases hl with⟨h0,_⟩|⟨rfl,l1,l2,a1,a2,hne⟩
     .exact h0
     .exact absurd (hT.even l1 l2 a1.lt a2.lt a1.leaf a2.leaf) hne
 .refine⟨false,by rw[show(p0 != 0)=true by simpa using h4];rfl,Wq λh=>h4 ?_⟩
  have:=h.tree.root
  rw[hp0]at this;exact Option.some.inj this
theorem J0D(P:tI)(s:Int)(hl:P.length<=1048576):QS P s=some (kids P s).isEmpty:=by
 unfold QS
 have h:=W0r (bd:=Qy P s) (λ(i:Nat) (_:Unit)=>(i:Int)) (n:=P.length)
  (B:=λx _ _ k=>bif P[x]?==some s then some false else k ()) (kk:=λ_=>some true) (λi st k hi=>by
   obtain⟨e,he⟩:∃e,P[i]?=some e:=⟨_,yA hi⟩
   have hlt:(i:Int)<(P.length:Int):=by omega
   simp only[Qy,hlt,decide_true,yN,X3,he,bS,Wn (n:=i) (by omega)]
   rw[show(some e==some s)=(e==s) from rfl])
  (λi st k hi=>by
   have hlt:¬ (i:Int)<(P.length:Int):=by omega
   simp only[Qy,hlt,decide_false,yM]) 9223372036854775807 1 () (by omega)
 refine h.trans ?_
 rw[Ox (p:=λ(x:Nat)=>P[x]?==some s) (λx _ i k=>rfl)]
 unfold kids
 generalize List.range' 1 (P.length-1)=l
 induction l with
 |nil=>rfl
 |cons x l ih =>
  rw[List.any_cons,List.filter_cons]
  cases h:(P[x]?==some s)with
  |true=>simp
  |false=>simpa using ih
theorem O0j{P:tI}(T:TreeP P){s:Nat}(hs:s<P.length):MS P (s:Int)=some (dep P s:Int):=by
 unfold MS
 refine Xw (λ_ r=>r=some (dep P s:Int)) (λb=>b.1.toNat) (λb=>∃m:Nat,b.1=(m:Int)/\m<P.length/\b.2+(dep P m:Int)=(dep P s:Int)/\0<=b.2) ?_ 9223372036854775807 _ ⟨s,rfl,hs,by simp,by simp⟩ (by have:=T.le;simp only;omega)
 rintro⟨x,n⟩ k ⟨m,hm,h1,h2,h3⟩ hk
 simp only at hm h2 hk h3
 subst hm
 have hle:=T.le
 have hdl:=M2e P s
 unfold Q0d
 by_cases h0:0<m
 .have hp:=T.par_lt (i:=m) (by omega) h1
  have hlt:(0:Int)<(m:Int):=by omega
  simp only[hlt,decide_true,yN,X3,hp.2,bS]
  have hd:=T.dep_succ (i:=m) (by omega) h1
  rw[Y5 (by omega)]
  refine hk _ ⟨_,rfl,by omega,by simp only;omega,by simp only;omega⟩ (by simp only;omega)
 .have:m=0:=by omega
  subst this
  rw[Q2k]at h2
  simp only[Int.natCast_zero,Int.lt_irrefl,decide_false,yM]
  congr 1
  omega
theorem U1k(t:Topo):∃b,Jn t=some b/\(b=true↔TopoP t):=by
 unfold Jn
 cases hw:Z0 (t.parents.length:Int) 1 24 with
 |false =>
  refine⟨false,by simp,Wq λh=>?_⟩
  have:=h.tree.pos;have:=h.tree.le
  simp[Z0]at hw
  omega
 |true =>
 have hw':1<=t.parents.length/\t.parents.length<=24:=by simp[Z0]at hw;omega
 obtain⟨p0,hp0⟩:∃p0,t.parents[0]?=some p0:=⟨_,yA (by omega)⟩
 simp only[yL,yM,Bool.false_or,show idx t.parents 0=some p0 from by rw[← hp0];exact X3 (i:=0),bS]
 by_cases h4:p0=0
 rotate_left
 .refine⟨false,by rw[show(p0 != 0)=true by simpa using h4];rfl,Wq λh=>h4 ?_⟩
  have:=h.tree.root
  rw[hp0]at this;exact Option.some.inj this
 subst h4
 by_cases h3:24<t.nodes.length
 .exact⟨false,by simp[show((24:Int)<t.nodes.length) by omega],Wq λh=>by have:=h.nodes;omega⟩
 have e3:decide ((24:Int)<(t.nodes.length:Int))=false:=by simp;omega
 rw[e3]
 simp only[bne_self_eq_false,Bool.or_self,yM]
 have h:=W0r (bd:=My t) (λ(i:Nat) (_:Unit)=>(i:Int)) (n:=t.parents.length)
  (B:=λx _ _ k=>bif match t.parents[x]? with|some e=>!(Z0 e 0 (w64 ((x:Int)-1)))|none=>true then some false else k ())
  (kk:=λ_=>rgl (UO t) (XO t) t.parents 0 (-1)) (λi st k hi=>by
   obtain⟨e,he⟩:∃e,t.parents[i]?=some e:=⟨_,yA hi⟩
   have hlt:(i:Int)<(t.parents.length:Int):=by omega
   simp only[My,hlt,decide_true,yN,X3,he,bS,Wn (n:=i) (by omega)])
  (λi st k hi=>by
   have hlt:¬ (i:Int)<(t.parents.length:Int):=by omega
   simp only[My,hlt,decide_false,yM]) 9223372036854775807 1 () (by omega)
 rw[show(1:Int)=((1:Nat):Int) from rfl,h,Ox (p:=λ(x:Nat)=>match t.parents[x]? with|some e=>!(Z0 e 0 (w64 ((x:Int)-1)))|none=>true) (λx _ i k=>rfl)]
 cases hany:(List.range' 1 (t.parents.length-1)).any (λ(x:Nat)=>match t.parents[x]? with|some e=>!(Z0 e 0 (w64 ((x:Int)-1)))|none=>true)with
 |true =>
  refine⟨false,rfl,Wq λhT=>?_⟩
  obtain⟨x,hx,hq⟩:=List.any_eq_true.1 hany
  obtain⟨j,hj,rfl⟩:=List.mem_range'.1 hx
  obtain⟨e,he⟩:∃e,t.parents[1+1*j]?=some e:=⟨_,yA (by omega)⟩
  have:=hT.tree.par _ (by omega) e he
  rw[he]at hq
  simp only at hq
  rw[Y5 (by omega)]at hq
  simp[Z0]at hq
  omega
 |false =>
  have T:TreeP t.parents:=⟨by omega,by omega,hp0,λi hi p hp=>by
   have hlt:i<t.parents.length:=(yB hp).1
   have:=List.any_eq_false.1 hany i (List.mem_range'.2 ⟨i-1,by omega,by omega⟩)
   rw[hp]at this
   simp only at this
   rw[Y5 (by omega)]at this
   simp[Z0]at this
   omega⟩
  rw[yM]
  refine Lh (λi (v:Int)=>(v = -1/\∀l,l<i->kids t.parents (l:Int)≠[])\/(0<=v/\(∃l,l<i/\kids t.parents (l:Int)=[])/\∀l,l<i->kids t.parents (l:Int)=[]->(dep t.parents l:Int)=v))
   (λr=>∃b,r=some b/\(b=true↔TopoP t)) ?_ ?_ (.inl ⟨rfl,λl hl=>by omega⟩)
  .intro i x v k hi hI hk
   have hil:i<t.parents.length:=(yB hi).1
   rw[UO,J0D _ _ (by omega),bS]
   cases hkd:kids t.parents (i:Int)with
   |cons a l =>
    simp only[List.isEmpty_cons,Bool.not_false,yN]
    refine hk v ?_
    rcases hI with⟨q1,q2⟩|⟨q1,⟨l0,q2,q3⟩,q4⟩
    .refine .inl ⟨q1,λl hl=>?_⟩
     by_cases e:l=i
     .subst e;rw[hkd];simp
     .exact q2 l (by omega)
    .refine .inr ⟨q1,⟨l0,by omega,q3⟩,λl hl hl2=>?_⟩
     by_cases e:l=i
     .subst e;rw[hkd]at hl2;cases hl2
     .exact q4 l (by omega) hl2
   |nil =>
    simp only[List.isEmpty_nil,yL,yM,O0j T hil,bS]
    have hnew:∀v',(∀l,l<i->kids t.parents (l:Int)=[]->(dep t.parents l:Int)=dep t.parents i)->v'=(dep t.parents i:Int)->(v' = -1/\∀l,l<i+1->kids t.parents (l:Int)≠[])\/(0<=v'/\(∃l,l<i+1/\kids t.parents (l:Int)=[])/\∀l,l<i+1->kids t.parents (l:Int)=[]->(dep t.parents l:Int)=v'):=by
     intro v' hq e
     subst e
     refine .inr ⟨by omega,⟨i,by omega,hkd⟩,λl hl hl2=>?_⟩
     by_cases e:l=i
     .subst e;rfl
     .exact hq l (by omega) hl2
    rcases hI with⟨rfl,q2⟩|⟨q1,⟨l0,q2,q3⟩,q4⟩
    .simp only[show decide ((0:Int)<=-1)=false from rfl,Bool.false_and,yM]
     exact hk _ (hnew _ (λl hl hl2=>absurd hl2 (q2 l hl)) rfl)
    .by_cases he:(dep t.parents i:Int)=v
     .rw[he]
      simp only[bne_self_eq_false,Bool.and_false,yM]
      exact hk _ (hnew _ (λl hl hl2=>by rw[q4 l hl hl2,he]) he.symm)
     .have e1:((dep t.parents i:Int)!=v)=true:=by simpa using he
      rw[e1,show decide (0<=v)=true by simpa using q1]
      refine⟨false,rfl,Wq λhT=>he ?_⟩
      rw[← q4 l0 q2 q3]
      exact_mod_cast hT.even i l0 hil (by omega) hkd q3
  .intro v hI
   rw[XO]
   have hb:∀x∈t.nodes,∀i k,VO t x i () k=bif !(decide (0<=x.leaf)&&decide (x.leaf<t.parents.length)&&(kids t.parents x.leaf).isEmpty&&U0 x.cap)then some false else k ():=by
    intro x _ i k
    unfold VO
    rw[Y5 (by omega)]
    by_cases q1:x.leaf<0
    .simp[Z0,show ¬ 0<=x.leaf by omega]
    .by_cases q2:(t.parents.length:Int)<=x.leaf
     .simp[Z0,show ¬ x.leaf<t.parents.length by omega,show ¬ x.leaf<=(t.parents.length:Int)-1 by omega]
     .have e:Z0 x.leaf 0 ((t.parents.length:Int)-1)=true:=by simp[Z0];omega
      rw[e]
      simp only[yL,yM,Bool.false_or,J0D t.parents x.leaf (by omega),bS,Uc]
      rw[show decide (0<=x.leaf)=true by simpa using q1,show decide (x.leaf<(t.parents.length:Int))=true by simpa using q2]
      cases(kids t.parents x.leaf).isEmpty<;>cases U0 x.cap<;>rfl
   rw[Ox hb]
   cases hany2:t.nodes.any (λx=>!(decide (0<=x.leaf)&&decide (x.leaf<t.parents.length)&&(kids t.parents x.leaf).isEmpty&&U0 x.cap))with
   |true =>
    refine⟨false,rfl,Wq λhT=>?_⟩
    obtain⟨x,hx,hq⟩:=List.any_eq_true.1 hany2
    obtain⟨a1,a2,a3,a4⟩:=hT.node x hx
    simp[a1,a2,a3,a4]at hq
   |false =>
    refine⟨true,rfl,⟨λ_=>⟨T,by omega,λx hx=>?_,λl1 l2 a1 a2 a3 a4=>?_⟩,λ_=>rfl⟩⟩
    .have:=List.any_eq_false.1 hany2 x hx
     simpa[and_assoc]using this
    .rcases hI with⟨_,q2⟩|⟨q1,_,q4⟩
     .exact absurd a3 (q2 l1 a1)
     .have:=q4 l1 a1 a3
      have:=q4 l2 a2 a4
      omega
theorem Lu(t:Topo):Jn t=Lf t:=by
 obtain⟨a,h1,h2⟩:=U1k t
 obtain⟨b,h3,h4⟩:=Y05 t
 rw[h1,h3]
 congr 1
 exact Bool.eq_iff_iff.2 (h2.trans h4.symm)
noncomputable def topoOk(t:Topo):Bool:=(Lf t).getD false
theorem Qb(t:Topo):Lf t=some (topoOk t):=by
 obtain⟨b,h3,_⟩:=Y05 t
 rw[topoOk,h3];rfl
theorem Ma{t:Topo}:topoOk t=true↔TopoP t:=by
 obtain⟨b,h3,h4⟩:=Y05 t
 rw[topoOk,h3];exact h4
theorem TopoP.last{t:Topo}(h:TopoP t):kids t.parents ((t.parents.length-1:Nat):Int)=[]:=by
 cases hk:kids t.parents ((t.parents.length-1:Nat):Int)with
 |nil=>rfl
 |cons c l =>
  obtain⟨q1,q2,q3,q4⟩:=h.tree.kid_par (s:=t.parents.length-1) (c:=c) (by rw[hk];exact yJ ..)
  omega
def lev(t:Topo)(s:Nat):Int:=(dep t.parents (t.parents.length-1):Int)-dep t.parents s
theorem Ym{t:Topo}(h:TopoP t){s:Nat}(hs:s<t.parents.length):Ld t (s:Int)=some (lev t s):=by
 obtain⟨v,h1,h2⟩:=U0m h.tree hs
 rw[h1]
 have hp:=h.tree.pos
 obtain⟨l,hl⟩:=h.tree.some_leaf _ s rfl hs
 rcases h2 with⟨_,_,h2⟩|⟨_,l1,l2,a1,a2,hne⟩
 .have e1:=h2 l hl
  have e2:=h.even l (t.parents.length-1) hl.lt (by omega) hl.leaf h.last
  unfold lev
  congr 1
  omega
 .exact absurd (h.even l1 l2 a1.lt a2.lt a1.leaf a2.leaf) hne
theorem ON{t:Topo}(h:TopoP t){s:Nat}(hs:s<t.parents.length):QJ t (s:Int)=some (lev t s):=by
 have hp:=h.tree.pos
 have hle:=h.tree.le
 unfold QJ Q0j
 rw[Y5 (by omega),show((t.parents.length:Int)-1)=((t.parents.length-1:Nat):Int) by omega,O0j h.tree (by omega),bS,bS,O0j h.tree hs,bS]
 have:=M2e t.parents (t.parents.length-1)
 have:=M2e t.parents s
 rw[Y5 (by omega)];rfl
theorem Z1A{t:Topo}(T:TreeP t.parents){s:Nat}(hs:s<t.parents.length):YJ t (s:Int)=some ((ups t.parents s).map λ(i:Nat)=>(i:Int)):=by
 unfold YJ
 refine Xw (λ_ r=>r=some ((ups t.parents s).map λ(i:Nat)=>(i:Int))) (λb=>b.1.toNat) (λb=>∃m:Nat,b.1=(m:Int)/\m<t.parents.length/\b.2.length+m<=1000/\∃l,b.2=l++[(m:Int)]/\(ups t.parents s).map (λ(i:Nat)=>(i:Int))=l++(ups t.parents m).map λ(i:Nat)=>(i:Int)) ?_ 9223372036854775807 _ ⟨s,rfl,hs,by have:=T.le;simp;omega,[],by simp⟩ (by have:=T.le;simp only;omega)
 rintro⟨x,n⟩ k ⟨m,hm,h1,h2,l,h3,h4⟩ hk
 simp only at hm h2 hk h3
 subst hm
 have hle:=T.le
 unfold U0c
 by_cases h0:0<m
 .have hp:=T.par_lt (i:=m) (by omega) h1
  have hlt:(0:Int)<(m:Int):=by omega
  simp only[hlt,decide_true,yN,X3,hp.2,bS]
  rw[Q0 (by simp;omega),bS]
  refine hk _ ⟨_,rfl,by omega,by simp;omega,n,rfl,?_⟩ (by simp only;omega)
  rw[h4,h3,T.ups_succ (by omega) h1]
  simp
 .have:m=0:=by omega
  subst this
  simp only[Int.natCast_zero,Int.lt_irrefl,decide_false,yM]
  rw[h4,h3,U1z];rfl
theorem Y0P(t:Topo)(s:Int):Q0g t s=YJ t s:=rfl
theorem Jd(l:tI)(n:Int):Xd l n=some (l.contains n):=by
 unfold Xd
 rw[Ox (p:=λx=>x==n) (λx _ i k=>rfl)]
 unfold J04
 rw[show l.contains n=l.any (λx=>x==n) from by rw[List.contains_eq_any_beq];congr 1;funext x;exact Bool.beq_comm]
 cases l.any λx=>x==n<;>rfl
theorem Y1c(l:tI)(n:Int):∃r:Int,Mg l n=some r/\decide (0<=r)=l.contains n:=by
 unfold Mg
 refine Lh (λi (_:Unit)=>∀j x,j<i->l[j]?=some x->x≠n) (λr=>∃m:Int,r=some m/\decide (0<=m)=l.contains n) ?_ ?_ (λj x h=>by omega)
 .intro i x b k hi hI hk
  unfold Qp
  by_cases h:n=x
  .subst h
   simp only[beq_self_eq_true,yN]
   refine⟨i,rfl,?_⟩
   have:l.contains n=true:=List.contains_iff_mem.2 (yE hi)
   rw[this];simp
  .rw[show(n==x)=false by simpa using h,yM]
   refine hk () λj y hj hy=>?_
   by_cases e:j=i
   .subst e;rw[hi]at hy;cases hy;exact λe=>h e.symm
   .exact hI j y (by omega) hy
 .intro b hI
  refine⟨-1,rfl,?_⟩
  have:l.contains n=false:=by
   rw[Bool.eq_false_iff]
   intro h
   obtain⟨j,hj⟩:=List.getElem?_of_mem (List.contains_iff_mem.1 h)
   exact hI j n (yB hj).1 hj rfl
  rw[this];rfl
theorem Um(l:tI)(n:Int):Z5 l n=some (l.contains n):=by
 obtain⟨r,h1,h2⟩:=Y1c l n
 unfold Z5
 rw[h1,bS,h2]
noncomputable def J7(t:Topo)(l:tI):Bool:=l.all (λn=>decide (0<=n)&&decide (n<t.nodes.length))&&topoOk t
theorem O5{t:Topo}{l:tI}:J7 t l=true↔TopoP t/\∀n∈l,0<=n/\n<t.nodes.length:=by
 simp[J7,Ma,and_comm]
theorem JF(t:Topo)(l:tI):Zm t l=some (J7 t l):=by
 unfold Zm J7
 rw[Ox (r:=some false) (p:=λ(x:Int)=>!(decide (0<=x)&&decide (x<t.nodes.length))) (λx _ i k=>by
  unfold UA
  by_cases h1:x<0
  .simp[h1,show ¬ 0<=x by omega]
  .by_cases h2:(t.nodes.length:Int)<=x
   .simp[h1,h2,show 0<=x by omega,show ¬ x<t.nodes.length by omega]
   .simp[h1,h2,show 0<=x by omega,show x<t.nodes.length by omega])]
 unfold VA
 rw[Qb,← List.not_all_eq_any_not]
 cases l.all λn=>decide (0<=n)&&decide (n<t.nodes.length)<;>rfl
theorem M0n(t:Topo)(l:tI)(hl:t.nodes.length<=1048576):MB t l=some (J7 t l):=by
 rw[← JF]
 unfold MB Zm
 refine V0u (λi x b k _=>?_) λb=>?_
 .unfold XT UA
  rw[Y5 (by omega)]
  by_cases h1:x<0
  .simp[Z0,h1,show ¬ 0<=x by omega]
  .by_cases h2:(t.nodes.length:Int)<=x
   .simp[Z0,h1,h2,show 0<=x by omega,show ¬ x<=(t.nodes.length:Int)-1 by omega]
   .simp[Z0,h1,h2,show 0<=x by omega,show x<=(t.nodes.length:Int)-1 by omega]
 .unfold YT VA
  rw[Lu]
def hasUp(t:Topo)(n:Int)(s:Nat):Bool:=match idx t.nodes n with
 |some e=>((ups t.parents e.leaf.toNat).map λ(i:Nat)=>(i:Int)).contains (s:Int)
 |none=>false
theorem VX{t:Topo}{l:tI}(h:J7 t l=true){n:Int}(hn:n∈l):∃(e:Node) (m:Nat),idx t.nodes n=some e/\e.leaf=m/\m<t.parents.length:=by
 obtain⟨h1,h2⟩:=O5.1 h
 obtain⟨e,q1,q2⟩:=L0j (l:=t.nodes) (i:=n) (h2 n hn).1 (h2 n hn).2
 obtain⟨a1,a2,_,_⟩:=h1.node e (yE q2)
 exact⟨e,e.leaf.toNat,q1,by omega,by omega⟩
theorem Z1I{t:Topo}{l:tI}(h:J7 t l=true){n:Int}(hn:n∈l)(s:Nat){γ:Type}(f:Bool->Option γ) :
  ((idx t.nodes n).bind λe=>(YJ t e.leaf).bind λy=>(Xd y (s:Int)).bind f)=f (hasUp t n s):=by
 obtain⟨e,m,q1,q2,q3⟩:=VX h hn
 have T:=(O5.1 h).1.tree
 unfold hasUp
 rw[q1,bS,q2,Z1A T q3,bS,Jd,bS]
 simp[q2]
theorem W23{t:Topo}{l:tI}(h:J7 t l=true){n:Int}(hn:n∈l):hasUp t n 0=true:=by
 obtain⟨e,m,q1,q2,q3⟩:=VX h hn
 have T:=(O5.1 h).1.tree
 unfold hasUp
 rw[q1]
 simp only[List.contains_iff_mem,q2]
 exact List.mem_map.2 ⟨0,T.zero_up _ (by simpa using q3),rfl⟩
theorem U1J(p:Int->Bool):∀(l:tI) (v:Bool),l.foldl (λv x=>v&&p x) v=(v&&l.all p)
 |[],v=>by simp
 |x::l,v=>by rw[List.foldl_cons,U1J p l,List.all_cons,Bool.and_assoc]
theorem O2g{t:Topo}{l:tI}(h:J7 t l=true)(s:Nat)(v5:Int)(k:Int->Option Int) :
  rgl (Vx t s) (Xp t v5 s k) l 0 true=Xp t v5 s k (l.all λn=>hasUp t n s) /\
  rgl (Xz t s) (Vq t v5 s k) l 0 true=Vq t v5 s k (l.all λn=>hasUp t n s):=by
 constructor
 .rw[JM (f:=λv x=>v&&hasUp t x s) (λx hx i b k=>by
   unfold Vx
   rw[Z1I h hx s (λb10=>bif !b10 then k false else k b)]
   cases hasUp t x s<;>simp),U1J,Bool.true_and]
 .rw[JM (f:=λv x=>v&&hasUp t x s) (λx hx i b k=>by
   unfold Xz
   cases b with
   |false=>simp only[yM,Bool.false_and];rfl
   |true =>
    simp only[yN,Bool.true_and]
    rw[← Z1I h hx s k]
    congr 1;funext e;rw[Y0P];congr 1;funext y;rw[Um,Jd]),U1J,Bool.true_and]
theorem V1V{t:Topo}{l:tI}(h:J7 t l=true)(hne:l≠[]):∃s:Nat,s<t.parents.length/\QH t l=some (s:Int)/\LT t l=some (s:Int):=by
 have hT:=(O5.1 h).1
 have hnl:=hT.nodes
 have hpos:=hT.tree.pos
 have e1:((l.length:Int)==0)=false:=by
  cases l with
  |nil=>exact absurd rfl hne
  |cons a l=>simp;omega
 have step:∀(i:Nat) (b:Int) (k:Int->Option Int),i<t.parents.length->(b = -1\/∃s:Nat,b=s/\s<t.parents.length) ->
   rgl (Vx t i) (Xp t b i k) l 0 true=k (bif (l.all λn=>hasUp t n i)&&(decide (b<0)||decide (lev t i<=lev t b.toNat))then(i:Int)else b) /\
   rgl (Xz t i) (Vq t b i k) l 0 true=k (bif (l.all λn=>hasUp t n i)&&(decide (b<0)||decide (lev t i<=lev t b.toNat))then(i:Int)else b):=by
  intro i b k hi hb
  obtain⟨q1,q2⟩:=O2g h i b k
  rw[q1,q2]
  unfold Xp Vq
  cases hall:l.all λn=>hasUp t n i with
  |false=>exact⟨rfl,rfl⟩
  |true =>
   rcases hb with rfl|⟨s,rfl,hs⟩
   .exact⟨rfl,rfl⟩
   .have hn:decide ((s:Int)<0)=false:=by simp
    simp only[hn,yN,yM,Bool.true_and,Bool.false_or,Ym hT hi,Ym hT hs,ON hT hi,ON hT hs,bS,yZ]
    cases decide (lev t i<=lev t s)<;>exact⟨rfl,rfl⟩
 have fin:∀(bd:Int->Nat->Int->(Int->Option Int)->Option Int) (kk:Int->Option Int),kk=some->(∀(x:Int) (i:Nat) (b:Int) (k:Int->Option Int),i<t.parents.length->(b = -1\/∃s:Nat,b=s/\s<t.parents.length)->bd x i b k=k (bif (l.all λn=>hasUp t n i)&&(decide (b<0)||decide (lev t i<=lev t b.toNat))then(i:Int)else b)) ->
   ∃s:Nat,s<t.parents.length/\rgl bd kk t.parents 0 (-1)=some (s:Int):=by
  intro bd kk hkk hbd
  refine Lh (λi (b:Int)=>(i=0/\b = -1)\/(0<i/\∃s:Nat,b=s/\s<t.parents.length)) (λr=>∃s:Nat,s<t.parents.length/\r=some (s:Int)) ?_ ?_ (.inl ⟨rfl,rfl⟩)
  .intro i x b k hi hI hk
   have hil:=(yB hi).1
   rw[hbd x i b k hil (by rcases hI with h|h;exact .inl h.2;exact .inr h.2)]
   refine hk _ (.inr ⟨by omega,?_⟩)
   rcases hI with⟨rfl,rfl⟩|⟨_,s,rfl,hs⟩
   .rw[show(l.all λn=>hasUp t n 0)=true from List.all_eq_true.2 λn hn=>W23 h hn]
    exact⟨0,rfl,hpos⟩
   .cases((l.all λn=>hasUp t n i)&&(decide ((s:Int)<0)||decide (lev t i<=lev t (s:Int).toNat)))with
    |true=>exact⟨i,rfl,hil⟩
    |false=>exact⟨s,rfl,hs⟩
  .intro b hI
   rcases hI with⟨h0,_⟩|⟨_,s,rfl,hs⟩
   .omega
   .exact⟨s,hs,by rw[hkk]⟩
 have eq:rgl (UP t l) L08 t.parents 0 (-1)=rgl (Vp t l) WM t.parents 0 (-1):=by
  refine O1B (λi (b c:Int)=>b=c/\(b = -1\/∃s:Nat,b=s/\s<t.parents.length)) rfl (λi x y b c k k2 hx hy hr hk=>?_) (λb c hr=>by rw[hr.1];rfl) ⟨rfl,.inl rfl⟩
  obtain⟨rfl,hb⟩:=hr
  have hil:=(yB hx).1
  unfold UP Vp
  rw[(step i b k hil hb).2,(step i b k2 hil hb).1]
  refine hk _ _ ⟨rfl,?_⟩
  cases((l.all λn=>hasUp t n i)&&(decide (b<0)||decide (lev t i<=lev t b.toNat)))with
  |true=>exact .inr ⟨i,rfl,hil⟩
  |false=>exact hb
 obtain⟨s,h1,h2⟩:=fin (Vp t l) WM rfl λx i b k hi hb=>by unfold Vp;exact(step i b k hi hb).1
 refine⟨s,h1,?_,?_⟩
 .unfold QH
  rw[JF,h,bS,e1]
  exact h2
 .unfold LT
  rw[M0n t l (by omega),h,bS,e1]
  exact eq.trans h2
def Wz(p:Int):Str:=[115,119,105,116,99,104,32]++numText p++[10]
def OV(x:Node):Str:=[110,111,100,101,32]++numText x.leaf++[32]++X4 x.cap++[10]
noncomputable def Wb(t:Topo):Str:=if topoOk t=true then(t.parents.drop 1).flatMap Wz++t.nodes.flatMap OV else[]
theorem W27{α γ:Type}{bd:α->Nat->Str->(Str->Option γ)->Option γ}{kk:Str->Option γ}{f:α->Str}{c:Nat}:∀{l:List α} {i:Nat} {s:Str},(∀x∈l,(f x).length<=c) ->
  (∀x∈l,∀i s k,s.length+c<=4611686018427387904->bd x i s k=k (s++f x))->s.length+l.length*c<=4611686018427387904->rgl bd kk l i s=kk (s++l.flatMap f)
 |[],_,s,_,_,_=>by simp[rgl]
 |x::l,i,s,h1,h2,h3=>by
  have h0:s.length+c+l.length*c<=4611686018427387904:=by simp only[yT,Nat.add_mul,Nat.one_mul]at h3;omega
  have hx:=h1 x (yJ ..)
  rw[rgl,h2 x (yJ ..) i s _ (by omega),W27 (c:=c) (λy hy=>h1 y (yH _ hy)) (λy hy=>h2 y (yH _ hy)) (by simp;omega)]
  simp
theorem QG{α γ:Type}{bd:α->Nat->Str->(Str->Option γ)->Option γ}{kk:Str->Option γ}{f:α->Str}(c:Nat){l:List α}{i:Nat}{s:Str}(h1:∀x∈l,(f x).length<=c)
  (h2:∀x∈l,∀i s k,s.length+c<=4611686018427387904->bd x i s k=k (s++f x)) (h3:s.length+l.length*c<=4611686018427387904):rgl bd kk l i s=kk (s++l.flatMap f):=W27 h1 h2 h3
theorem ZX(p:Int):(Wz p).length<=64:=by have:=J0 p;simp[Wz];omega
theorem L0u(x:Node):(OV x).length<=64:=by have:=J0 x.leaf;have:=W7 x.cap;simp[OV];omega
theorem W03{α:Type}(f:α->Str)(c:Nat):∀(l:List α),(∀x∈l,(f x).length<=c)->(l.flatMap f).length<=l.length*c
 |[],_=>by simp
 |x::l,h=>by
  have:=W03 f c l λy hy=>h y (yH _ hy)
  have:=h x (yJ ..)
  simp only[ya,yU,yT,Nat.add_mul,Nat.one_mul];omega
theorem VI(t:Topo):(Wb t).length<=4096:=by
 unfold Wb
 split
 .rename_i h
  have h:=Ma.1 h
  have h1:=W03 Wz 64 (t.parents.drop 1) λx _=>ZX x
  have h2:=W03 OV 64 t.nodes λx _=>L0u x
  have:=h.tree.le;have:=h.nodes
  rw[yU]
  simp only[List.length_drop]at h1;omega
 .simp
theorem W0m(t:Topo):WA t=some (Wb t):=by
 unfold WA Wb
 rw[Qb,bS]
 cases ht:topoOk t with
 |false=>rfl
 |true =>
  have hT:=Ma.1 ht
  have hle:=hT.tree.le
  have hpos:=hT.tree.pos
  have hn:=hT.nodes
  rw[yd rfl]
  simp only[yL,yM]
  have h:=W0r (bd:=Zp t) (λ(i:Nat) (s:Str)=>(s,(i:Int))) (n:=t.parents.length)
   (B:=λx _ s k=>(catS s ([115,119,105,116,99,104,32]:Str)).bind λw5=>(idx t.parents (x:Int)).bind λe6=>(Y6 e6).bind λw7=>(catS w5 w7).bind λw8=>(catS w8 ([10]:Str)).bind λw9=>k w9)
   (kk:=λs=>rgl QA WR t.nodes 0 s) (λi st k hi=>by
    have hlt:(i:Int)<(t.parents.length:Int):=by omega
    simp only[Zp,hlt,decide_true,yN,Wn (n:=i) (by omega)])
   (λi st k hi=>by
    have hlt:¬ (i:Int)<(t.parents.length:Int):=by omega
    simp only[Zp,hlt,decide_false,yM]) 9223372036854775807 1 [] (by omega)
  refine h.trans ?_
  rw[QG 64 (f:=λ(x:Nat)=>Wz (t.parents.getD x 0)) (λx _=>ZX _) (λx hx i s k hs=>by
   obtain⟨j,hj,rfl⟩:=List.mem_range'.1 hx
   obtain⟨p,hp⟩:∃p,t.parents[1+1*j]?=some p:=⟨_,yA (by omega)⟩
   have:=J0 p
   rw[V0 (by simp;omega),bS,X3,hp,bS,V9,bS,V0 (by simp;omega),bS,V0 (by simp;omega),bS]
   simp only[Wz,List.getD_eq_getElem?_getD,hp,Option.getD_some,List.append_assoc]) (by simp;omega)]
  have e:(List.range' 1 (t.parents.length-1)).flatMap (λ(x:Nat)=>Wz (t.parents.getD x 0))=(t.parents.drop 1).flatMap Wz:=by
   rw[List.flatMap_def,List.flatMap_def]
   congr 1
   apply List.ext_getElem
   .simp
   .intro i h1 h2
    have:i+1<t.parents.length:=by simp at h1;omega
    simp[this,Nat.add_comm 1 i]
  rw[e]
  have hl1:=W03 Wz 64 (t.parents.drop 1) λx _=>ZX x
  simp only[List.length_drop]at hl1
  rw[QG 64 (f:=OV) (λx _=>L0u _) (λx hx i s k hs=>by
   have:=J0 x.leaf
   have:=W7 x.cap
   unfold QA
   rw[V0 (by simp;omega),bS,V9,bS,V0 (by simp;omega),bS,V0 (by simp;omega),bS,Jo,bS,V0 (by simp;omega),bS,V0 (by simp;omega),bS]
   simp only[OV,List.append_assoc]) (by simp only[List.nil_append];omega)]
  rfl
theorem V00(t:Topo):LB t=some (Wb t):=by
 unfold LB Wb
 rw[Lu,Qb,bS]
 cases ht:topoOk t with
 |false=>rfl
 |true =>
  have hT:=Ma.1 ht
  have hle:=hT.tree.le
  have hpos:=hT.tree.pos
  have hn:=hT.nodes
  rw[yd rfl]
  have hcut:cutL t.parents (some 1) none=some (t.parents.drop 1):=by
   unfold cutL bhi blo
   simp only
   rw[yd (by omega)]
   simp
  simp only[yL,yM,hcut,bS]
  rw[QG 64 (f:=Wz) (λx _=>ZX _) (λx hx i s k hs=>by
   have:=J0 x
   unfold OT
   rw[V0 (by simp;omega),bS,Z7,bS,V0 (by simp;omega),bS,V0 (by simp;omega),bS]
   simp only[Wz,List.append_assoc]) (by simp;omega)]
  unfold QT
  have hl1:=W03 Wz 64 (t.parents.drop 1) λx _=>ZX x
  simp only[List.length_drop]at hl1
  rw[QG 64 (f:=OV) (λx _=>L0u _) (λx hx i s k hs=>by
   have:=J0 x.leaf
   have:=W7 x.cap
   unfold WT
   rw[V0 (by simp;omega),bS,Z7,bS,V0 (by simp;omega),bS,V0 (by simp;omega),bS,YO,bS,V0 (by simp;omega),bS,V0 (by simp;omega),bS]
   simp only[OV,List.append_assoc]) (by simp only[List.nil_append];omega)]
  rfl
def L05(p1:tP)(x5:Pt)(i5:Nat)(_:Unit)(k5:Unit->Option Bool):Option Bool :=
 (bif (!(Q3 x5.t))||(!(U0 x5.free))then some default else(bif decide (0<(i5:Int))then(idx p1 (w64 ((i5:Int)-1)))else some default)).bind λe6=>(bif (!(Q3 x5.t))||(!(U0 x5.free))then some default else(bif decide (0<(i5:Int))then(bif decide (x5.t<=e6.t)then some default else(idx p1 (w64 ((i5:Int)-1))))else some default)).bind λe7=>bif ((!(Q3 x5.t))||(!(U0 x5.free)))||(decide (0<(i5:Int))&&(decide (x5.t<=e6.t)||(e7.free.a==x5.free.a&&(e7.free.b==x5.free.b&&(e7.free.c==x5.free.c&&true)))))then(some false)else(k5 ())
def X0t(_:Unit):Option Bool :=
 some true
def Xg(p1:tP):Option Bool :=
 (bif decide ((p1.length:Int)<1)||decide (200<(p1.length:Int))then some default else(idx p1 0)).bind λe2=>bif (decide ((p1.length:Int)<1)||decide (200<(p1.length:Int)))||(e2.t != 0)then(some false)else(rgl (L05 p1) X0t p1 0 ())
theorem VV{p1:tP}{r:Bool}(H:Xg p1=some r):SQ M0R [.agg [zri p1]] (.bool r):=by
 refine wc [(6,38)] [.t 2] (bC H λe2 h2 H=>wG [.l 7 p1 ePt,.g 12 [((decide ((p1.length:Int)<1)),false)] (.ln _ _ λ_=>lm p1 ePt),.g 18 [(_,false)] (.ix _ _ _ λq=>Y0 ePt (bF q.1 h2))] λq3=>X0 H (λH=>sI H▸wV) λH=>wG [.l 25 p1 ePt] λq4=>wL (λ(i5:Nat) (v5:Unit)=>⟨[pB 1,(24,zri p1)]++zl 25 p1 i5,[],[(1,[zri p1])],[]⟩) H (λi5 x5 v5 I m k5 A5 B5 H N27=>?_) (λv5 I m H=>?_))
 .exact bC2 H λe6 h6 e7 h7 H=>wH [.y 29 ePt A5,.c 33 (X9 x5.t),.d 38 [((!(Q3 x5.t)),false)] λ_=>X6 x5.free,.g 49 [(_,true),(_,false)] (.ix _ _ _ λq=>Y0 ePt (bT q.1 (bF q.2.1 h6))),.g 60 [(_,false),(_,true),(_,false)] (.ix _ _ _ λq=>Y0 ePt (bF q.1 (bT q.2.1 (bF q.2.2.1 h7))))] (X0 H (λH=>sI H▸wV) λH=>wH [.i 69 B5 q3.1] (wT (N27 () H)))
 .exact sI H▸wV
def UV(v1:Vec):Option (tP×Bool) :=
 bif !(U0 v1)then(some ([],false))else(some ([(Pt.mk 0 v1)],true))
theorem Z0V{v1:Vec}{r:tP×Bool}(H:UV v1=some r):SQ W0e [eVec v1] (.tup [O2 .nw r.1,.bool r.2]):=by
 exact wb [10] [.c 2 1 true,.t 3] (wH [.c 5 (X6 v1)] (X0 H (λH=>sI H▸wQ [(2,[.n 4])] [zni []]) λH=>sI H▸wY [(2,[.f])] [] [10] [] [⟨_,Jq [(Pt.mk 0 v1)]⟩]))
def Xa(v1:Vec):tP×Bool :=
 bif !(U0 v1)then(([],false))else(([(Pt.mk 0 v1)],true))
theorem V1o(v1:Vec):UV v1=some (Xa v1):=by
 unfold UV Xa
 first|rfl|simp only[U4]
theorem U0t(v1:Vec):Snd Tryz.prog W0e [eVec v1] (.tup [O2 .nw ((Xa v1).1),.bool ((Xa v1).2)]) []:=Z0V (V1o v1)
def V0c(t2:Int)(x4:Pt)(_:Nat)(v4:Vec)(k4:Vec->Option Vec):Option Vec :=
 bif decide (x4.t<=t2)then(k4 x4.free)else(k4 v4)
def J0C(v4:Vec):Option Vec :=
 some v4
def J03(p1:tP)(t2:Int):Option Vec :=
 rgl (V0c t2) J0C p1 0 (Vec.mk 0 0 0)
theorem M0L{p1:tP}{t2:Int}{r:Vec}(H:J03 p1 t2=some r):SQ Q11 [.agg [zri p1],iV t2] (eVec r):=by
 refine wa [.c 4 3 true] (wG [.l 11 p1 ePt] λq3=>wL (λ(i4:Nat) (v4:Vec)=>⟨[(1,iV t2),pB 4,pB 5,(10,zri p1)]++zl 11 p1 i4,[],[(4,(eVec (Vec.mk 0 0 0)).cells),(5,(eVec v4).cells)],[]⟩) H (λi4 x4 v4 I m k4 A4 B4 H N19=>?_) (λv4 I m H=>?_))
 .exact wH [.y 14 ePt A4] (X0 H (λH=>wH [.i 22 B4 q3.1] (wT (N19 _ H))) λH=>wH [.i 22 B4 q3.1] (wT (N19 _ H)))
 .exact sI H▸wQ [(4,[])] []
def VZ(from2 to3:Int)(x7:Pt)(_:Nat)(v7:Vec)(k7:Vec->Option (Vec×Bool)):Option (Vec×Bool) :=
 bif decide (from2<=x7.t)&&decide (x7.t<to3)then(k7 (L3 v7 x7.free))else(k7 v7)
def J0m(v7:Vec):Option (Vec×Bool) :=
 some (v7,true)
def Xx(p1:tP)(from2 to3:Int):Option (Vec×Bool) :=
 (Xg p1).bind λb4=>bif (((!b4)||(!(Q3 from2)))||(!(Q3 to3)))||decide (to3<=from2)then(some ((Vec.mk 0 0 0),false))else((J03 p1 from2).bind λy5=>rgl (VZ from2 to3) J0m p1 0 y5)
theorem J05{p1:tP}{from2 to3:Int}{r:Vec×Bool}(H:Xx p1 from2 to3=some r):SQ Q0G [.agg [zri p1],iV from2,iV to3] (.tup [eVec r.1,.bool r.2]):=by
 refine wa [.c 6 3 true,.t 7] (bC H λb4 h4 H=>wH [.c 12 (VV h4),.d 16 [((!b4),false)] λ_=>X9 from2,.d 21 [(((!b4)||(!(Q3 from2))),false)] λ_=>X9 to3] (X0 H (λH=>sI H▸wQ [(6,[])] []) λH=>bC H λy5 h5 H=>wG [.c 32 (M0L h5),.l 35 p1 ePt] λq6=>wL (λ(i7:Nat) (v7:Vec)=>⟨[(1,iV from2),(2,iV to3),pB 6,pB 8,(34,zri p1)]++zl 35 p1 i7,[],[(6,(eVec (Vec.mk 0 0 0)).cells),(8,(eVec v7).cells)],[]⟩) H (λi7 x7 v7 I m k7 A7 B7 H N26=>?_) (λv7 I m H=>?_)))
 .exact wH [.y 38 ePt A7] (X0 H (λH=>wH [.c 53 (M1n v7 x7.free),.i 54 B7 q6.1] (wT (N26 _ H))) λH=>wH [.i 54 B7 q6.1] (wT (N26 _ H)))
 .exact sI H▸wQ [(6,[])] []
noncomputable def V15:L :=
 lf Tryz.prog X0y [16,38] [] [] [] [] [] [32087347]
def Oo(x8 x10:Int)(k10:(Bool×tI)->Option tI)(v12:Bool×tI):Option tI :=
 bif x10 != x8 then((appL 8 v12.2 [x10]).bind λxs13=>k10 (v12.1,xs13))else(k10 (v12.1,v12.2))
def XA(x8 x10:Int)(_:Nat)(v10:Bool×tI)(k10:(Bool×tI)->Option tI):Option tI :=
 bif (!v10.1)&&decide (x8<=x10)then((appL 8 v10.2 [x8]).bind λxs11=>(Oo x8 x10 k10) (true,xs11))else((Oo x8 x10 k10) (v10.1,v10.2))
def Jz(x8:Int)(k8:tI->Option tI)(v10:Bool×tI):Option tI :=
 bif !v10.1 then((appL 8 v10.2 [x8]).bind λxs14=>k8 xs14)else(k8 v10.2)
def YA(x8:Int)(_:Nat)(v8:tI)(k8:tI->Option tI):Option tI :=
 rgl (XA x8) (Jz x8 k8) v8 0 (false,[])
def V0f(v8:tI):Option tI :=
 some v8
def XR(x5:Pt)(_:Nat)(v5:tI)(k5:tI->Option tI):Option tI :=
 (appL 8 v5 [x5.t]).bind λxs6=>k5 xs6
def YR(from2 to3:Int)(v5:tI):Option tI :=
 rgl YA V0f [from2,to3] 0 v5
def XL(p1:tP)(from2 to3:Int):Option tI :=
 rgl XR (YR from2 to3) p1 0 []
theorem W13{p1:tP}{from2 to3:Int}{r:tI}(H:XL p1 from2 to3=some r):SQ X0y [.agg [zri p1],iV from2,iV to3] (zfa r):=by
 refine wS V15 [.t 6] (wG [.l 19 p1 ePt] λq4=>wL (λ(i5:Nat) (v5:tI)=>⟨[(1,iV from2),(2,iV to3),(7,.sref 16),(18,zri p1)]++zl 19 p1 i5,[],[],[(16,zwa v5)]⟩) H (λi5 x5 v5 I m k5 A5 B5 H N15=>?_) (λv5 I m H=>?_))
 .exact bC H λxs6 h6 H=>wH [.y 22 ePt A5,.p 28 eI h6,.i 29 B5 q4.1] (wT (N15 _ H))
 .refine wG [.l 33 ([from2,to3]:tI) eI] λq7=>wL (λ(i8:Nat) (v8:tI)=>⟨[(7,.sref 16),(32,zfa ([from2,to3])),(33,iV (([from2,to3]:tI).length:Int)),(34,iV (i8:Int))],[],[],[(16,zwa v8)]⟩) H (λi8 x8 v8 I m k8 A8 B8 H N70=>?_) (λv8 I m H=>?_)
  .refine wG [.y 36 eI A8,.l 40 v8 eI] λq9=>wL (λ(i10:Nat) (v10:Bool×tI)=>⟨[(11,iV x8),(12,.sref 38),(13,.bool v10.1),(32,zfa ([from2,to3])),(33,iV (([from2,to3]:tI).length:Int)),(34,iV (i8:Int)),(39,.sref 16)]++zl 40 v8 i10,[],[],[(38,zwa v10.2),(16,zwa v8)]⟩) H (λi10 x10 v10 I m k10 A10 B10 H N51=>?_) (λv10 I m H=>?_)
   .refine wH [.y 43 eI A10,.u 44 (.el _ _ _ λ_=>gm eI (V4 (O0 A10)))] (Xi (r:=r) (Oo x8 x10 k10) 0 (λv12:Bool×tI=>⟨[(11,.int .i64 x8),(12,.sref 38),(13,.bool v12.1),(15,.int .i64 x10),(32,.sl .nw 1 (([from2,to3]).map eI)),(33,.int .i64 (([from2,to3]:tI).length:Int)),(34,.int .i64 (i8:Int)),(39,.sref 16),(40,.int .i64 (v8.length:Int)),(41,.int .i64 (i10:Int))],[],[],[(38,zwa v12.2),(16,zwa v8)]⟩) (by kernel_rfl) (λv12 H=>?_) (λJ43=>?_))
    .refine wP (X0 H (λH=>?_) λH=>wH [.i 63 B10 q9.1] (wT (N51 _ H)))
     exact bC H λxs13 h13 H=>wH [.p 62 eI h13,.i 63 B10 q9.1] (wT (N51 _ H))
    .refine X0 H ?_ ?_<;>intro H
     .exact bC H λxs11 h11 H=>wH [.p 55 eI h11] (wT (J43 _ H))
     .exact wP (wT (J43 _ H))
   .refine wP ?_
    refine X0 H ?_ ?_<;>intro H
    .exact bC H λxs14 h14 H=>wH [.p 69 eI h14,.i 71 B8 q7.1] (wU (N70 _ H) [] [] [(16,(some 38,0))] [])
    .exact wH [.i 71 B8 q7.1] (wU (N70 _ H) [] [] [(16,(some 38,0))] [])
  .exact sI H▸wP (wN [(6,.f)] [] [] [16] [] [zna v8])
noncomputable def Z0X:L :=
 lf Tryz.prog U0o [] [] [] [] [(14,13)] [] [239211,14951]
def Yf(v8:tP)(x8:Int)(k8:tP->Option (tP×Bool))(v11:Vec):Option (tP×Bool) :=
 (bif (v8.length:Int)==0 then some default else(idx v8 (w64 ((v8.length:Int)-1)))).bind λe12=>bif ((v8.length:Int)==0)||(!(e12.free.a==v11.a&&(e12.free.b==v11.b&&(e12.free.c==v11.c&&true))))then((appL 32 v8 [(Pt.mk x8 v11)]).bind λxs14=>k8 xs14)else(k8 v8)
def Jl(v8:tP)(x8:Int)(k8:tP->Option (tP×Bool))(v10:Vec×Bool):Option (tP×Bool) :=
 bif !v10.2 then(some ([],false))else((Yf v8 x8 k8) v10.1)
def Xv(p1:tP)(from2 to3:Int)(v4:Vec)(add5:Bool)(x8:Int)(_:Nat)(v8:tP)(k8:tP->Option (tP×Bool)):Option (tP×Bool) :=
 (J03 p1 x8).bind λy9=>bif decide (from2<=x8)&&decide (x8<to3)then(bif add5 then((Jl v8 x8 k8) (((QR y9 v4).1),(QR y9 v4).2))else((Jl v8 x8 k8) (((L6 y9 v4).1),(L6 y9 v4).2)))else((Yf v8 x8 k8) y9)
def Zf(v8:tP):Option (tP×Bool) :=
 (Xg v8).bind λb15=>bif !b15 then(some ([],false))else(some (v8,true))
def VD(p1:tP)(from2 to3:Int)(v4:Vec)(add5:Bool):Option (tP×Bool) :=
 (XL p1 from2 to3).bind λy6=>rgl (Xv p1 from2 to3 v4 add5) Zf y6 0 []
theorem W0U{p1:tP}{from2 to3:Int}{v4:Vec}{add5:Bool}{r:tP×Bool}(H:VD p1 from2 to3 v4 add5=some r):SQ U0o [.agg [zri p1],iV from2,iV to3,eVec v4,.bool add5] (.tup [O2 .nw r.1,.bool r.2]):=by
 refine wS Z0X [.c 10 1 true,.t 11] (bC H λy6 h6 H=>wG [.c 22 (W13 h6),.l 23 y6 eI] λq7=>M01 (λ(i8:Nat) (v8:tP)=>⟨[(1,iV from2),(2,iV to3),(4,.bool add5),pB 5,pB 8,pB 10,pB 12,(22,zfa y6)]++zl 23 y6 i8,[],[(5,[zri p1]),(8,(eVec v4).cells),(10,[.nl]),(12,[.sref 147000])],[(147000,zwi v8)]⟩) [] [(12,[.z 147000])] [(147000,(none,4))] [] (by kernel_rfl) (by kernel_rfl) H (λi8 x8 v8 I m k8 A8 B8 H N43=>?_) (λv8 I m H=>?_))
 .refine wP (wt (ltT B8) ?_)
  refine bC H λy9 h9 H=>wH [.y 26 eI A8,.c 30 (M0L h9)] (Xi (r:=r) (Yf v8 x8 k8) 0 (λv11:Vec=>⟨[(1,.int .i64 from2),(2,.int .i64 to3),(4,.bool add5),pB 5,pB 8,pB 10,pB 12,(14,.int .i64 x8),pB 15,(22,.sl .nw 1 (y6.map eI)),(23,.int .i64 (y6.length:Int)),(24,.int .i64 (i8:Int))],[],[(5,[.sl .rd 4 (p1.map ePt)]),(8,(eVec v4).cells),(10,[.nl]),(12,[.sref 147000]),(15,(eVec v11).cells)],[(147000,zwi v8)]⟩) (by kernel_rfl) (λv11 H=>?_) (λJ34=>?_))
  .refine bC H λe12 h12 H=>wG [.l 57 v8 ePt,.g 65 [(_,false)] (.ix _ _ _ λq=>Y0 ePt (bF q.1 h12)),.g 67 [(_,false)] (.el _ _ _ λq=>gm ePt (V4 (bF q.1 h12)))] λq13=>X0 H (λH=>?_) λH=>wH [.i 79 B8 q7.1] (wT (N43 _ H))
   exact bC H λxs14 h14 H=>wH [.p 77 ePt h14,.i 79 B8 q7.1] (wT (N43 _ H))
  .refine X0 H ?_ ?_<;>intro H
   .refine wP (Xi (r:=r) (Jl v8 x8 k8) 0 (λv10:Vec×Bool=>⟨[(1,.int .i64 from2),(2,.int .i64 to3),(4,.bool add5),pB 5,pB 8,pB 10,pB 12,(14,.int .i64 x8),pB 15,(16,.bool v10.2),(22,.sl .nw 1 (y6.map eI)),(23,.int .i64 (y6.length:Int)),(24,.int .i64 (i8:Int))],[],[(5,[.sl .rd 4 (p1.map ePt)]),(8,(eVec v4).cells),(10,[.nl]),(12,[.sref 147000]),(15,(eVec v10.1).cells)],[(147000,zwi v8)]⟩) (by kernel_rfl) (λv10 H=>?_) (λJ22=>?_))
    .exact wP (X0 H (λH=>sI H▸wQ [(10,[.n 4])] [zni []]) λH=>wP (wT (J34 _ H)))
    .exact X0 H (λH=>wH [.c 43 (J1n y9 v4)] (wT (J22 _ H))) λH=>wH [.c 49 (O1n y9 v4)] (wT (J22 _ H))
   .exact wP (wT (J34 _ H))
 .refine wP (wf (ltF y6.length) ?_)
  exact bC H λb15 h15 H=>wH [.c 81 (VV h15)] (X0 H (λH=>sI H▸wQ [(10,[.n 4])] [zni []]) λH=>sI H▸wY [(10,[.f])] [] [147000] [] [zni v8])
def Mh(p1:tP)(from2 to3:Int)(v4:Vec):Option (tP×Bool) :=
 (Xx p1 from2 to3).bind λy5=>bif !y5.2 then(some ([],false))else((VD p1 from2 to3 v4 false).bind λy6=>some (y6.1,y6.2))
theorem L0m{p1:tP}{from2 to3:Int}{v4:Vec}{r:tP×Bool}(H:Mh p1 from2 to3 v4=some r):SQ M0y [.agg [zri p1],iV from2,iV to3,eVec v4] (.tup [O2 .nw r.1,.bool r.2]):=by
 exact wa [.c 8 1 true,.t 9] (bC H λy5 h5 H=>wH [.c 16 (J05 h5)] (X0 H (λH=>sI H▸wQ [(8,[.n 4])] [zni []]) λH=>bC H λy6 h6 H=>wH [.c 26 (W0U h6)] (sI H▸wM [(8,[])] [zni y6.1])))
def OB(p1:tP):Option tP :=
 (appL 32 ([]:tP) p1).bind λxs2=>some xs2
theorem Q0n{p1:tP}{r:tP}(H:OB p1=some r):SQ O0z [.agg [zri p1]] (O2 .nw r):=by
 exact wa [.c 2 1 true] (bC H λxs2 h2 H=>wH [.p 5 ePt h2] (sI H▸wO [(2,[.f])] [] [5] [] [zni xs2]))
def X0w(p1:tP)(x5:Pt)(i5:Nat)(_:Unit)(k5:Unit->Option Bool):Option Bool :=
 (bif (!(J6 x5.t))||(!(Z2 x5.free))then some default else(bif decide (0<(i5:Int))then(idx p1 (w64 ((i5:Int)-1)))else some default)).bind λe6=>(bif (!(J6 x5.t))||(!(Z2 x5.free))then some default else(bif decide (0<(i5:Int))then(bif decide (x5.t<=e6.t)then some default else(idx p1 (w64 ((i5:Int)-1))))else some default)).bind λe7=>bif ((!(J6 x5.t))||(!(Z2 x5.free)))||(decide (0<(i5:Int))&&(decide (x5.t<=e6.t)||(e7.free.a==x5.free.a&&(e7.free.b==x5.free.b&&(e7.free.c==x5.free.c&&true)))))then(some false)else(k5 ())
def Y0w(_:Unit):Option Bool :=
 some true
def JH(p1:tP):Option Bool :=
 (bif !(Z0 (p1.length:Int) 1 200)then some default else(idx p1 0)).bind λe2=>bif (!(Z0 (p1.length:Int) 1 200))||(e2.t != 0)then(some false)else(rgl (X0w p1) Y0w p1 0 ())
theorem J0d{p1:tP}{r:Bool}(H:JH p1=some r):SQ U0T [.agg [zri p1]] (.bool r):=by
 refine wc [(6,38)] [.t 2] (bC H λe2 h2 H=>wG [.l 7 p1 ePt,.u 8 (.call _ _ _ _ _ (AEs.refl _) (λ_=>V1 (p1.length:Int) 1 200)),.g 13 [(_,false)] (.ix _ _ _ λq=>Y0 ePt (bF q.1 h2))] λq3=>X0 H (λH=>sI H▸wV) λH=>wG [.l 20 p1 ePt] λq4=>wL (λ(i5:Nat) (v5:Unit)=>⟨[pB 1,(19,zri p1)]++zl 20 p1 i5,[],[(1,[zri p1])],[]⟩) H (λi5 x5 v5 I m k5 A5 B5 H N27=>?_) (λv5 I m H=>?_))
 .exact bC2 H λe6 h6 e7 h7 H=>wH [.y 24 ePt A5,.c 28 (Ze x5.t),.d 33 [((!(J6 x5.t)),false)] λ_=>V6 x5.free,.g 44 [(_,true),(_,false)] (.ix _ _ _ λq=>Y0 ePt (bT q.1 (bF q.2.1 h6))),.g 55 [(_,false),(_,true),(_,false)] (.ix _ _ _ λq=>Y0 ePt (bF q.1 (bT q.2.1 (bF q.2.2.1 h7))))] (X0 H (λH=>sI H▸wV) λH=>wH [.i 64 B5 q3.1] (wT (N27 () H)))
 .exact sI H▸wV
def MW(v1:Vec):Option (tP×Bool) :=
 bif !(Z2 v1)then(some ([],false))else(some ([(Pt.mk 0 v1)],true))
theorem X0Z{v1:Vec}{r:tP×Bool}(H:MW v1=some r):SQ J0e [eVec v1] (.tup [O2 .nw r.1,.bool r.2]):=by
 exact wb [10] [.c 2 1 true,.t 3] (wH [.c 5 (V6 v1)] (X0 H (λH=>sI H▸wQ [(2,[.n 4])] [zni []]) λH=>sI H▸wY [(2,[.f])] [] [10] [] [⟨_,Jq [(Pt.mk 0 v1)]⟩]))
def Jr(v1:Vec):tP×Bool :=
 bif !(Z2 v1)then(([],false))else(([(Pt.mk 0 v1)],true))
theorem J1u(v1:Vec):MW v1=some (Jr v1):=by
 unfold MW Jr
 first|rfl|simp only[U4]
theorem V0w(v1:Vec):Snd Tryz.prog J0e [eVec v1] (.tup [O2 .nw ((Jr v1).1),.bool ((Jr v1).2)]) []:=X0Z (J1u v1)
def X0b(t2:Int)(x4:Pt)(_:Nat)(v4:Vec)(k4:Vec->Option Vec):Option Vec :=
 bif decide (x4.t<=t2)then(k4 x4.free)else(k4 v4)
def Y0b(v4:Vec):Option Vec :=
 some v4
def OE(p1:tP)(t2:Int):Option Vec :=
 rgl (X0b t2) Y0b p1 0 (Vec.mk 0 0 0)
theorem J0g{p1:tP}{t2:Int}{r:Vec}(H:OE p1 t2=some r):SQ Q0p [.agg [zri p1],iV t2] (eVec r):=by
 refine wa [.c 4 3 true] (wG [.l 11 p1 ePt] λq3=>wL (λ(i4:Nat) (v4:Vec)=>⟨[(1,iV t2),pB 4,pB 5,(10,zri p1)]++zl 11 p1 i4,[],[(4,(eVec (Vec.mk 0 0 0)).cells),(5,(eVec v4).cells)],[]⟩) H (λi4 x4 v4 I m k4 A4 B4 H N19=>?_) (λv4 I m H=>?_))
 .exact wH [.y 14 ePt A4] (X0 H (λH=>wH [.i 22 B4 q3.1] (wT (N19 _ H))) λH=>wH [.i 22 B4 q3.1] (wT (N19 _ H)))
 .exact sI H▸wQ [(4,[])] []
def LH(from2 to3:Int)(x6:Pt)(_:Nat)(v6:Vec)(k6:Vec->Option Vec):Option Vec :=
 bif decide (from2<x6.t)&&decide (x6.t<to3)then(k6 (VT v6 x6.free))else(k6 v6)
def W08(v6:Vec):Option Vec :=
 some v6
def Yq(p1:tP)(from2 to3:Int):Option Vec :=
 (OE p1 from2).bind λy4=>rgl (LH from2 to3) W08 p1 0 y4
theorem Z0b{p1:tP}{from2 to3:Int}{r:Vec}(H:Yq p1 from2 to3=some r):SQ Q0h [.agg [zri p1],iV from2,iV to3] (eVec r):=by
 refine wa [.c 6 3 true] (bC H λy4 h4 H=>wG [.c 12 (J0g h4),.l 15 p1 ePt] λq5=>wL (λ(i6:Nat) (v6:Vec)=>⟨[(1,iV from2),(2,iV to3),pB 6,pB 7,(14,zri p1)]++zl 15 p1 i6,[],[(6,(eVec (Vec.mk 0 0 0)).cells),(7,(eVec v6).cells)],[]⟩) H (λi6 x6 v6 I m k6 A6 B6 H N19=>?_) (λv6 I m H=>?_))
 .exact wH [.y 18 ePt A6] (X0 H (λH=>wH [.c 33 (V1u v6 x6.free),.i 34 B6 q5.1] (wT (N19 _ H))) λH=>wH [.i 34 B6 q5.1] (wT (N19 _ H)))
 .exact sI H▸wQ [(6,[])] []
def X03(from1 to2:Int):Option Bool :=
 some (((J6 from1)&&(J6 to2))&&decide (from1<to2))
theorem M17{from1 to2:Int}{r:Bool}(H:X03 from1 to2=some r):SQ U0l [iV from1,iV to2] (.bool r):=by
 exact wa [.t 4] (wH [.c 6 (Ze from1),.d 9 [((J6 from1),true)] λ_=>Ze to2] (sI H▸wD))
def US(from1 to2:Int):Bool :=
 (((J6 from1)&&(J6 to2))&&decide (from1<to2))
theorem U1H(from1 to2:Int):X03 from1 to2=some (US from1 to2):=by
 unfold X03 US
 first|rfl|simp only[U4]
theorem M1t(from1 to2:Int):Snd Tryz.prog U0l [iV from1,iV to2] (.bool (US from1 to2)) []:=M17 (U1H from1 to2)
def YC(x1 x2:Vec):Option (Vec×Bool) :=
 some (((Mn x1 x2).1),(Mn x1 x2).2)
theorem W0C{x1 x2:Vec}{r:Vec×Bool}(H:YC x1 x2=some r):SQ Qd [eVec x1,.ept (eVec x2) 0] (.tup [eVec r.1,.bool r.2]):=by
 exact wa [.c 3 3 true,.t 4] (wH [.c 7 (Y1u x1 x2)] (sI H▸wM [(3,[])] []))
def Uk(x1 x2:Vec):Vec×Bool :=
 (((Mn x1 x2).1),(Mn x1 x2).2)
theorem Y0Z(x1 x2:Vec):YC x1 x2=some (Uk x1 x2):=by
 unfold YC Uk
 first|rfl|simp only[U4]
theorem X0P(x1 x2:Vec):Snd Tryz.prog Qd [eVec x1,.ept (eVec x2) 0] (.tup [eVec ((Uk x1 x2).1),.bool ((Uk x1 x2).2)]) []:=W0C (Y0Z x1 x2)
noncomputable def YE:L :=
 lf Tryz.prog Q09 [22] [(37,2),(40,2)] [] [] [(19,13)] [] [129639]
def W6(v10:tP)(x10:Int)(k10:tP->Option (tP×Bool))(v12:Vec):Option (tP×Bool) :=
 (bif (v10.length:Int)==0 then some default else(idx v10 (w64 ((v10.length:Int)-1)))).bind λe13=>bif ((v10.length:Int)==0)||(!(e13.free.a==v12.a&&(e13.free.b==v12.b&&(e13.free.c==v12.c&&true))))then((appL 32 v10 [(Pt.mk x10 v12)]).bind λxs15=>k10 xs15)else(k10 v10)
def O6(p1:tP)(from2 to3:Int)(c4:Vec)(x10:Int)(_:Nat)(v10:tP)(k10:tP->Option (tP×Bool)):Option (tP×Bool) :=
 (OE p1 x10).bind λy11=>bif decide (from2<=x10)&&decide (x10<to3)then(bif !(Uk y11 c4).2 then(some ([],false))else((W6 v10 x10 k10) ((Uk y11 c4).1)))else((W6 v10 x10 k10) y11)
def M9(v10:tP):Option (tP×Bool) :=
 bif decide (200<(v10.length:Int))then(some ([],false))else(some (v10,true))
def J9(x6:Pt)(_:Nat)(v6:tI)(k6:tI->Option (tP×Bool)):Option (tP×Bool) :=
 (appL 8 v6 [x6.t]).bind λxs7=>k6 xs7
def L9(p1:tP)(from2 to3:Int)(c4:Vec)(v6:tI):Option (tP×Bool) :=
 (J1A v6).bind λxs8=>rgl (O6 p1 from2 to3 c4) M9 (Qa xs8) 0 []
def O8(p1:tP)(from2 to3:Int)(c4:Vec):Option (tP×Bool) :=
 rgl J9 (L9 p1 from2 to3 c4) p1 0 [from2,to3]
theorem ME{p1:tP}{from2 to3:Int}{c4:Vec}{r:tP×Bool}(H:O8 p1 from2 to3 c4=some r):SQ Q09 [.agg [zri p1],iV from2,iV to3,.fn Qd [.ept (eVec c4) 0]] (.tup [O2 .nw r.1,.bool r.2]):=by
 refine wS YE [.c 8 1 true,.t 9] (wG [.l 25 p1 ePt] λq5=>wL (λ(i6:Nat) (v6:tI)=>⟨[(1,iV from2),(2,iV to3),(3,.fn Qd [.ept (eVec c4) 0]),pB 4,pB 8,(10,.sref 22),(24,zri p1)]++zl 25 p1 i6,[],[(4,[zri p1]),(8,[.nl])],[(22,zwa v6)]⟩) H (λi6 x6 v6 I m k6 A6 B6 H N15=>?_) (λv6 I m H=>?_))
 .exact bC H λxs7 h7 H=>wH [.y 28 ePt A6,.p 34 eI h7,.i 35 B6 q5.1] (wT (N15 _ H))
 .refine bC H λxs8 h8 H=>wG [.u 37 (.cr Vn 1 _ [] [] false _ (λ_=>M0B v6) (λ_=>trivial) (λ_=>rfl) (λ_=>L1A h8)),.u 40 (.cr Oq 1 _ [] [] true _ (λ_=>M0B xs8) (λ_=>trivial) (λ_=>rfl) (λ_=>X1m xs8)),.l 41 (Qa xs8) eI] λq9=>M01 (λ(i10:Nat) (v10:tP)=>⟨[(1,iV from2),(2,iV to3),(3,.fn Qd [.ept (eVec c4) 0]),pB 4,pB 8,pB 13,(40,.sref 41000),(41,iV ((Qa xs8).length:Int)),(42,iV (i10:Int))],[],[(4,[zri p1]),(8,[.nl]),(13,[.sref 117000])],[(117000,zwi v10),(41000,zwa (Qa xs8))]⟩) [] [(13,[.z 117000])] [(117000,(none,4))] [] (by kernel_rfl) (by kernel_rfl) H (λi10 x10 v10 I m k10 A10 B10 H N57=>?_) (λv10 I m H=>?_)
  .refine wP (wt (ltT B10) ?_)
   refine bC H λy11 h11 H=>wH [.y 44 eI A10,.u 45 (.el _ _ _ λ_=>gm eI (V4 (O0 A10))),.c 48 (J0g h11)] (Xi (r:=r) (W6 v10 x10 k10) 0 (λv12:Vec=>⟨[(1,.int .i64 from2),(2,.int .i64 to3),(3,.fn Qd [.ept (eVec c4) 0]),pB 4,pB 8,pB 13,(15,.int .i64 x10),pB 16,(40,.sref 41000),(41,.int .i64 ((Qa xs8).length:Int)),(42,.int .i64 (i10:Int))],[],[(4,[.sl .rd 4 (p1.map ePt)]),(8,[.nl]),(13,[.sref 117000]),(16,(eVec v12).cells)],[(117000,zwi v10),(41000,zwa (Qa xs8))]⟩) (by kernel_rfl) (λv12 H=>?_) (λJ48=>?_))
   .refine bC H λe13 h13 H=>wG [.l 69 v10 ePt,.g 77 [(_,false)] (.ix _ _ _ λq=>Y0 ePt (bF q.1 h13)),.g 79 [(_,false)] (.el _ _ _ λq=>gm ePt (V4 (bF q.1 h13)))] λq14=>X0 H (λH=>?_) λH=>wH [.i 91 B10 q9.1] (wT (N57 _ H))
    exact bC H λxs15 h15 H=>wH [.p 89 ePt h15,.i 91 B10 q9.1] (wT (N57 _ H))
   .refine X0 H ?_ ?_<;>intro H
    .refine wH [.u 60 (.clsr _ _ _ _ _ (AEs.refl _) (by kernel_rfl) (λ_=>X0P y11 c4))] ?_
     refine X0 H ?_ ?_<;>intro H
     .refine wP ?_
      replace H:=sI H;subst H
      exact wM [(8,[.n 4])] [zni []]
     .exact wP (wT (J48 _ H))
    .exact wP (wT (J48 _ H))
  .refine wP (wf (ltF (Qa xs8).length) ?_)
   exact wG [.l 94 v10 ePt] λq16=>X0 H (λH=>sI H▸wQ [(8,[.n 4])] [zni []]) λH=>sI H▸wY [(8,[.f])] [] [117000] [] [zni v10]
def XC(p1:tP)(from2 to3:Int)(v4:Vec):Option (tP×Bool) :=
 (JH p1).bind λb5=>bif ((!b5)||(!(US from2 to3)))||(!(Z2 v4))then(some ([],false))else((O8 p1 from2 to3 v4).bind λy6=>some (y6.1,y6.2))
theorem J0n{p1:tP}{from2 to3:Int}{v4:Vec}{r:tP×Bool}(H:XC p1 from2 to3 v4=some r):SQ Qz [.agg [zri p1],iV from2,iV to3,eVec v4] (.tup [O2 .nw r.1,.bool r.2]):=by
 exact wa [.c 8 1 true,.t 9] (bC H λb5 h5 H=>wH [.c 11 (J0d h5),.d 16 [((!b5),false)] λ_=>M1t from2 to3,.d 21 [(((!b5)||(!(US from2 to3))),false)] λ_=>V6 v4] (X0 H (λH=>sI H▸wQ [(8,[.n 4])] [zni []]) λH=>bC H λy6 h6 H=>wH [.c 29 (ME h6)] (sI H▸wM [(8,[])] [zni y6.1])))
end Go.Proofs.YtehomnafaoplgaaGreat
