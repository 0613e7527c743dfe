/-
  Lemmas, part 4.
-/
import Derived.Test.YtpgaganbacipnaaGreatS3
import Derived.Laws.StructEq
namespace Go.Proofs.YtpgaganbacipnaaGreat.Eng
open Go Go.RowKit
section
def eqKF(P:Program)(eq:TypeId->Option (List Nat)):List Field->Nat->Option (List Nat)
 |[],_=>some []
 | f :: fs, off => if f.name ≠ "_" /\ f.offset = off then
   match eq f.type with
   |some ks=>if tsz P f.type=some ks.length then
     match eqKF P eq fs (off+ks.length)with
     |some r=>some (ks++r)
     |none=>none
    else none
   |none=>none
  else none
def eqK(P:Program):Nat->TypeId->Option (List Nat)
 |0,_=>none
 |d+1,t=>match P.underlying t with
  |some (.int _)=>some [0]
  |some .string=>some [1]
  |some .bool=>some [2]
  |some (.struct fs)=>if P.stoodInHeld t=true then none else eqKF P (eqK P d) fs.toList 0
  |_=>none
section
variable{P:Program}{c:Cx}{g:Gh}{s:St}{a:Act}{w:World}
theorem OI:∀{ks:List Nat} {xs ys:List AV} {r:Bool},eqCells ks xs ys=some r->xs.length=ks.length/\ys.length=ks.length
 |[],xs,ys,r,h=>by
  cases xs<;>cases ys<;>simp[eqCells]at h ⊢
 |k::ks,xs,ys,r,h=>by
  unfold eqCells at h
  split at h
  .rename_i e;cases e
  .rename_i e1;cases e1
   split at h
   .obtain⟨r',h',_⟩:=yC h
    have:=OI h';simp;omega
   .cases h
  .rename_i e1;cases e1
   obtain⟨r',h',_⟩:=yC h
   have:=OI h';simp;omega
  .rename_i e1;cases e1
   obtain⟨r',h',_⟩:=yC h
   have:=OI h';simp;omega
  .cases h
theorem O04:∀{ks ls:List Nat} {xs ys:List AV} {r:Bool},eqCells (ks++ls) xs ys=some r ->
  ∃r1 r2,eqCells ks (xs.take ks.length) (ys.take ks.length)=some r1/\eqCells ls (xs.drop ks.length) (ys.drop ks.length)=some r2/\r=(r1&&r2)
 |[],ls,xs,ys,r,h=>⟨true,r,by simp[eqCells],by simpa using h,by simp⟩
 |k::ks,ls,xs,ys,r,h=>by
  rw[List.cons_append]at h
  unfold eqCells at h
  split at h
  .rename_i e;cases e
  .rename_i e1;cases e1
   split at h
   .rename_i hk;subst hk
    obtain⟨r',h',rfl⟩:=yC h
    obtain⟨r1,r2,q1,q2,rfl⟩:=O04 h'
    exact⟨_,r2,by simp[eqCells,q1];rfl,by simpa using q2,by rw[Bool.and_assoc]⟩
   .cases h
  .rename_i e1;cases e1
   obtain⟨r',h',rfl⟩:=yC h
   obtain⟨r1,r2,q1,q2,rfl⟩:=O04 h'
   exact⟨_,r2,by simp[eqCells,q1];rfl,by simpa using q2,by rw[Bool.and_assoc]⟩
  .rename_i e1;cases e1
   obtain⟨r',h',rfl⟩:=yC h
   obtain⟨r1,r2,q1,q2,rfl⟩:=O04 h'
   exact⟨_,r2,by simp[eqCells,q1];rfl,by simpa using q2,by rw[Bool.and_assoc]⟩
  .cases h
def Sc(w:World)(g:Gh)(s:St)(xs:List AV)(vs:List Value):Prop:=xs.length=vs.length/\∀(i:Nat) (x:AV) (v:Value),xs[i]?=some x->vs[i]?=some v->Gv w g s x v
theorem Sc.sub{xs:List AV}{vs:List Value}(h:Sc w g s xs vs)(o n:Nat):Sc w g s ((xs.drop o).take n) ((vs.drop o).take n):=by
 refine⟨by simp[h.1],fun i x v hx hv=>?_⟩
 rw[List.getElem?_take]at hx hv
 split at hx
 .rename_i hi
  rw[yd hi,List.getElem?_drop]at hv
  rw[List.getElem?_drop]at hx
  exact h.2 _ x v hx hv
 .cases hx
theorem eq1{t:TypeId}{k:Nat}{x y:AV}{r:Bool}(hr:eqCells [k] [x] [y]=some r)(ht:(k=0/\∃q,P.underlying t=some (.int q))\/(k=1/\P.underlying t=some .string)\/(k=2/\P.underlying t=some .bool))
  {v u:Value} (hv:Gv w g s x v) (hu:Gv w g s y u) (e:Nat):(Op.equalIn (e+1) t v u).run P w=.ok r w:=by
 rcases ht with⟨rfl,q,ht⟩|⟨rfl,ht⟩|⟨rfl,ht⟩
 .cases x<;>cases y<;>simp only[eqCells]at hr<;>try (cases hr;done)
  rename_i k1 m k2 n
  split at hr
  .rename_i hk;subst hk
   simp only[Option.map_some,Bool.and_true,yI]at hr;subst hr
   rw[hv.int_inv,hu.int_inv];exact run_equalIn_int w e t k1 q m n ht
  .cases hr
 .cases x<;>cases y<;>simp only[eqCells]at hr<;>try (cases hr;done)
  simp only[Option.map_some,Bool.and_true,yI]at hr;subst hr
  rw[hv.str_inv,hu.str_inv,run_equalIn_string w e t _ _ ht];simp[ByteArray.toList_eq]
 .cases x<;>cases y<;>simp only[eqCells]at hr<;>try (cases hr;done)
  simp only[Option.map_some,Bool.and_true,yI]at hr;subst hr
  rw[hv.bool_inv,hu.bool_inv];exact run_equalIn_bool' w e t _ _ ht
def EqA(P:Program)(w:World)(g:Gh)(s:St)(d:Nat):Prop :=
 ∀(t:TypeId) (ks:List Nat),eqK P d t=some ks->∀(e:Nat),d<=e->∀(xs ys:List AV) (vs us:List Value) (r:Bool),Sc w g s xs vs->Sc w g s ys us->eqCells ks xs ys=some r ->
  ∃ag,tag? P t=some ag/\(ag=false->ks.length=1)/\(Op.equalIn e t (if ag then .agg vs.toArray else vs.getD 0 undef) (if ag then .agg us.toArray else us.getD 0 undef)).run P w=.ok r w
theorem Z1H{d:Nat}(A:EqA P w g s d):∀(fs:List Field) (off:Nat) (ks:List Nat),eqKF P (eqK P d) fs off=some ks->∀(e:Nat),d<=e->∀(xs ys:List AV) (vs us:List Value) (r:Bool),Sc w g s xs vs->Sc w g s ys us ->
  eqCells ks (xs.drop off) (ys.drop off)=some r->(Op.eqFields e vs.toArray us.toArray fs).run P w=.ok r w:=by
 intro fs
 induction fs with
 |nil =>
  intro off ks h e _ xs ys vs us r hx hy hr
  simp only[eqKF,yI]at h;subst h
  have:=OI hr
  simp only[List.length_nil]at this
  have e1:=List.eq_nil_of_length_eq_zero this.1
  have e2:=List.eq_nil_of_length_eq_zero this.2
  rw[e1,e2]at hr
  simp[eqCells]at hr;subst hr
  simp[Op.eqFields]
 |cons f fs ih =>
  intro off ks h e he xs ys vs us r hx hy hr
  simp only[eqKF]at h
  split at h
  .rename_i hc
   split at h
   .rename_i k1 hk1
    split at h
    .rename_i hts
     split at h
     .rename_i k2 hk2
      cases h
      obtain⟨r1,r2,q1,q2,rfl⟩:=O04 hr
      obtain⟨ag,ha,h1,hrun⟩:=A f.type k1 hk1 e he _ _ _ _ r1 (hx.sub off k1.length) (hy.sub off k1.length) q1
      have hl:=OI q1
      have gx:∀(xs:List AV) (vs:List Value),Sc w g s xs vs->((xs.drop off).take k1.length).length=k1.length->ag=false->vs[f.offset]?=some (((vs.drop off).take k1.length).getD 0 undef):=by
       intro xs vs hx hxl hag
       have h1:=h1 hag
       rw[hc.2]
       have hl:=hx.1
       simp only[List.length_take,List.length_drop]at hxl
       have:off<vs.length:=by omega
       rw[h1]
       simp[List.getD,this,List.getElem?_drop]
      have px:=U0p (P:=P) (w:=w) hts ha vs f.offset _ (gx xs vs hx hl.1)
      have py:=U0p (P:=P) (w:=w) hts ha us f.offset _ (gx ys us hy hl.2)
      rw[hc.2]at px py
      simp only[Op.eqFields,hc.1,ne_eq,not_false_eq_true,yb,Sem.run_bind,hc.2,px,py,Result.andThen_ok,hrun]
      cases r1 with
      |false=>simp
      |true =>
       simp only[yL,yG,yc,Bool.true_and]
       refine ih (off+k1.length) k2 hk2 e he xs ys vs us r2 hx hy ?_
       rw[List.drop_drop,List.drop_drop]at q2
       exact q2
     .cases h
    .cases h
   .cases h
  .cases h
theorem U1R:∀d,EqA P w g s d:=by
 intro d
 induction d with
 |zero=>intro t ks h;simp[eqK]at h
 |succ d ih =>
  intro t ks h e he xs ys vs us r hx hy hr
  obtain⟨e,rfl⟩:∃e',e=e'+1:=⟨e-1,by omega⟩
  have scal:∀k,ks=[k]->((k=0/\∃q,P.underlying t=some (.int q))\/(k=1/\P.underlying t=some .string)\/(k=2/\P.underlying t=some .bool))->tag? P t=some false ->
    ∃ag,tag? P t=some ag/\(ag=false->ks.length=1)/\(Op.equalIn (e+1) t (if ag then .agg vs.toArray else vs.getD 0 undef) (if ag then .agg us.toArray else us.getD 0 undef)).run P w=.ok r w:=by
   intro k hk hc ht
   subst hk
   have hl:=OI hr
   have l1:=hx.1;have l2:=hy.1
   match xs,ys,vs,us,hl.1,hl.2,l1,l2 with
   |[x],[y],[v],[u],_,_,_,_ =>
    exact⟨false,ht,fun _=>rfl,eq1 hr hc (hx.2 0 x v rfl rfl) (hy.2 0 y u rfl rfl) e⟩
  unfold eqK at h
  split at h
  .rename_i k ht
   cases h
   exact scal 0 rfl (.inl ⟨rfl,k,ht⟩) (by simp[tag?,ht,Y1A])
  .rename_i ht
   cases h
   exact scal 1 rfl (.inr (.inl ⟨rfl,ht⟩)) (by simp[tag?,ht,Y1A])
  .rename_i ht
   cases h
   exact scal 2 rfl (.inr (.inr ⟨rfl,ht⟩)) (by simp[tag?,ht,Y1A])
  .rename_i fs ht
   split at h
   .cases h
   .rename_i hst
    refine⟨true,by simp[tag?,ht,Y1A],by simp,?_⟩
    have hfo:P.fieldsOf t=fs:=by simp[Program.fieldsOf,ht]
    simp only[yb]
    rw[run_equalIn_agg w e t vs.toArray us.toArray (by rw[hfo];exact ht) (by simpa using hst),hfo]
    exact Z1H ih fs.toList 0 ks h e (by omega) xs ys vs us r hx hy (by simpa using hr)
  .cases h
section ops
variable{o:Oper}{d:Nat}{K:St->Prop}{K':Act->World->Prop}{Q':Exit->Act->World->Prop}
theorem X1W(I:Inv c g s a w)(hK:∀g' s' a' w',Inv c g' s' a' w'->K s'->K' a' w')(hd:o.dst=some d)(hlt:d<c.nt)
  {ne:Bool} {x y:X} {p q:Operand} {t u:TypeId} {ks:List Nat} (ho:o.op=.binOp (if ne then .neq else .eql) t p q u) (hk:eqK P 20 t=some ks) (ht:tag? P t=some true) (hgd:P.eqGuardType P.depth t=false)
  (hx:chkX x p=true) (hy:chkX y q=true) (h:wop P (.es d ne ks x y) K s):o.wp P a w K' Q':=by
 simp only[wop]at h
 have gx:=I.get hx
 have gy:=I.get hy
 split at h
 .rename_i xs ys e1 e2
  rw[e1]at gx;rw[e2]at gy
  obtain⟨vs,hv,hvl,_,hvg⟩:=gx.agg_inv
  obtain⟨us,hu,hul,_,hug⟩:=gy.agg_inv
  split at h
  .rename_i r hr
   refine sok (g':=g) (s':=s) (w':=w) (v:=.bool (if ne then !r else r)) hK hd hlt ?_ I (.data _ _ (.bool _)) h
   obtain⟨ag,ha,_,hrun⟩:=U1R (P:=P) (w:=w) (g:=g) (s:=s) 20 t ks hk 10000 (by decide) xs ys vs us r ⟨hvl,hvg⟩ ⟨hul,hug⟩ hr
   rw[ht]at ha;cases ha
   simp only[yb]at hrun
   have hgu:=fun op=>run_eqGuard_agg (P:=P) w op t p q vs.toArray us.toArray hgd
   cases ne
   .simp only[yG,yc]at ho ⊢
    simp only[execOp,ho,Sem.run_bind,hv,hu,hgu,Result.andThen_ok,run_eql_struct,hrun]
    rfl
   .simp only[yb]at ho ⊢
    simp only[execOp,ho,Sem.run_bind,hv,hu,hgu,Result.andThen_ok,run_neq_struct,hrun]
    rfl
  .cases h
 .cases h
theorem X10{i:AV}{n j:Nat}(h:J1q i n=some j):∃k q,i=.int k q/\0<=q/\q<=n/\j=q.toNat:=by
 unfold J1q at h
 split at h
 .rename_i k q
  split at h
  .rename_i hq;cases h;exact⟨k,q,rfl,hq.1,hq.2,rfl⟩
  .cases h
 .cases h
def chkO:Option X->Option Operand->Bool
 |none,none=>true
 |some x,some p=>chkX x p
 |_,_=>false
theorem V1o{isS:Bool}(I:Inv c g s a w){lo hi:Option X}{pl ph:Option Operand}(hl:chkO lo pl=true)(hh:chkO hi ph=true){n cap hh' ll:Nat}(hc:n<=cap)(h1:s.hi hi n=some hh')(h2:s.lo lo hh'=some ll) :
  (Instr.sliceBounds isS n cap (pl.map a.eval) (ph.map a.eval) none).run P w=.ok (ll,hh',cap) w/\ll<=hh'/\hh'<=n:=by
 have H:(match ph.map a.eval with|some v=>Instr.sliceBound v cap (if isS then .sliceAcap else .sliceAlen)|none=>pure n:Sem Nat).run P w=.ok hh' w/\hh'<=n:=by
  cases hi with
  |none =>
   cases ph with
   |none=>simp only[St.hi,yI]at h1;subst h1;simp
   |some p=>simp[chkO]at hh
  |some x =>
   cases ph with
   |none=>simp[chkO]at hh
   |some p =>
    simp only[St.hi]at h1
    obtain⟨k,q,e,q0,q1,rfl⟩:=X10 h1
    have gx:=I.get (x:=x) (p:=p) (by simpa[chkO]using hh)
    rw[e]at gx
    simp only[Option.map_some,gx.int_inv]
    refine⟨?_,by omega⟩
    have:=run_sliceBound (P:=P) w k q cap (if isS then .sliceAcap else .sliceAlen) q0 (by omega)
    exact this
 have L:(match pl.map a.eval with|some v=>Instr.sliceBound v hh' .sliceB|none=>pure 0:Sem Nat).run P w=.ok ll w/\ll<=hh':=by
  cases lo with
  |none =>
   cases pl with
   |none=>simp only[St.lo,yI]at h2;subst h2;simp
   |some p=>simp[chkO]at hl
  |some x =>
   cases pl with
   |none=>simp[chkO]at hl
   |some p =>
    simp only[St.lo]at h2
    obtain⟨k,q,e,q0,q1,rfl⟩:=X10 h2
    have gx:=I.get (x:=x) (p:=p) (by simpa[chkO]using hl)
    rw[e]at gx
    simp only[Option.map_some,gx.int_inv]
    exact⟨run_sliceBound (P:=P) w k q hh' .sliceB q0 (by omega),by omega⟩
 refine⟨?_,L.2,H.2⟩
 obtain⟨H1,_⟩:=H
 obtain⟨L1,_⟩:=L
 unfold Instr.sliceBounds
 cases ph with
 |none =>
  simp only[Option.map_none]at H1 ⊢
  cases pl with
  |none=>simp only[Option.map_none]at L1 ⊢;simp at H1 L1 ⊢;simp[H1,L1]
  |some p=>simp only[Option.map_some]at L1 ⊢;simp at H1 ⊢;simp[H1,L1]
 |some q =>
  simp only[Option.map_some]at H1 ⊢
  cases pl with
  |none=>simp only[Option.map_none]at L1 ⊢;simp at L1 ⊢;simp[H1,L1]
  |some p=>simp only[Option.map_some]at L1 ⊢;simp[H1,L1]
theorem L1U(I:Inv c g s a w)(hK:∀g' s' a' w',Inv c g' s' a' w'->K s'->K' a' w')(hd:o.dst=some d)(hlt:d<c.nt)
  {x:X} {p:Operand} {lo hi:Option X} {pl ph:Option Operand} {t:TypeId} (ho:o.op=.slice t p pl ph none) (ht:P.underlying t=some .string)
  (hx:chkX x p=true) (hl:chkO lo pl=true) (hh:chkO hi ph=true) (h:wop P (.ss d x lo hi) K s):o.wp P a w K' Q':=by
 simp only[wop]at h
 have gx:=I.get hx
 split at h
 .rename_i b e
  rw[e]at gx
  split at h
  .rename_i hv h1
   split at h
   .rename_i lv h2
    have hsz:(⟨b.toArray⟩:ByteArray).size=b.length:=by show b.toArray.size=_;simp
    have hb:=V1o (P:=P) (isS:=false) I hl hh (n:=b.length) (cap:=b.length) (yV _) h1 h2
    refine sok (g':=g) (s':=s) (w':=w) (v:=.string ⟨((b.take hv).drop lv).toArray⟩) hK hd hlt ?_ I (.data _ _ (.str _)) h
    have hex:(⟨b.toArray⟩:ByteArray).extract lv hv=⟨((b.take hv).drop lv).toArray⟩:=by
     have:((⟨b.toArray⟩:ByteArray).extract lv hv).data=b.toArray.extract lv hv:=by simp[ByteArray.data_extract]
     have e2:((⟨b.toArray⟩:ByteArray).extract lv hv)=⟨b.toArray.extract lv hv⟩:=by rw[← this]
     rw[e2]
     congr 1
     rw[List.extract_toArray,List.extract_eq_take_drop,List.drop_take]
    simp[execOp,ho,gx.str_inv,Instr.sliceAt,Instr.slice,run_underlying ht,hsz,hb.1,hex]
   .cases h
  .cases h
 .cases h
end ops
end
end
section
section
variable{P:Program}{c:Cx}{g:Gh}{s:St}{a:Act}{w:World}
theorem X1e{sz:Nat}:∀{es:List AV} (_:∀e∈es,e.cells.length=sz) (n:Nat),flat (es.drop n)=(flat es).drop (n*sz)
 |[],_,n=>by simp[flat]
 |e::es,hs,0=>by simp
 |e::es,hs,n+1=>by
  have he:=hs e (by simp)
  simp only[List.drop_succ_cons]
  rw[X1e (fun x hx=>hs x (by simp[hx])) n]
  simp only[flat,ya]
  rw[show(n+1)*sz=e.cells.length+n*sz by rw[he,Nat.succ_mul];omega,List.drop_length_add_append]
theorem V18{es:List AV}(n:Nat){j:Nat}{x:AV}(h:(flat (es.take n))[j]?=some x):(flat es)[j]?=some x:=by
 have e:flat es=flat (es.take n)++flat (es.drop n):=by rw[← X0R,List.take_append_drop]
 rw[e,yK (yB h).1]
 exact h
theorem Rd.cut{S:Nat->Nat->Prop}{N:Tag->Nat->Value->Prop}{t:Tag}{sz:Nat}{es:List AV}{v:Value}(h:Rd w S N (.sl t sz es) v)(ht:t.isOwn=false)(hN:∀z b o n c o' n' c',N t z (.slice (some ⟨b,o,none⟩) n c)->N t z (.slice (some ⟨b,o',none⟩) n' c')){l hh:Nat}(hl:l<=hh)(hle:hh<=es.length) :
  ∃pa n cp,v=.slice pa n cp/\es.length=n/\n<=cp/\Rd w S N (.sl t sz ((es.take hh).drop l)) (.slice (if cp=l then pa else pa.map (·.add (l*sz))) (hh-l) (cp-l)):=by
 have no:∀{i:Nat} {q:Prop},t=.own i->q:=fun e=>by subst e;cases ht
 cases h with
 |sl0 _ _ p q =>
  simp only[List.length_nil,Nat.le_zero_eq]at hle
  subst hle
  have:l=0:=by omega
  subst this
  exact⟨p,0,q,rfl,rfl,Nat.zero_le _,by simpa using Rd.sl0 t sz _ _ fun _ e=>no e⟩
 |sl _ _ _ b o cc cv hc hm hs hw hn hrd =>
  refine⟨_,_,cc,rfl,rfl,hc,?_⟩
  have hlen:((es.take hh).drop l).length=hh-l:=by simp;omega
  by_cases hcl:cc=l
  .have h0:(es.take hh).drop l=[]:=List.eq_nil_of_length_eq_zero (by omega)
   rw[h0,show hh-l=0 by omega]
   exact .sl0 t sz _ _ fun _ e=>no e
  .rw[ye hcl]
   simp only[Option.map_some,WX]
   rw[← hlen]
   have hs':∀e∈es.take hh,e.cells.length=sz:=fun e he=>hs e (List.mem_of_mem_take he)
   have hget:∀(j:Nat) (x:AV),(flat ((es.take hh).drop l))[j]?=some x->(flat es)[l*sz+j]?=some x:=by
    intro j x hx
    rw[X1e hs',List.getElem?_drop]at hx
    exact V18 hh hx
   refine .sl t sz _ b (o+l*sz) (cc-l) (fun j=>cv (l*sz+j)) (by omega) (by omega) (fun e he=>hs' e (List.mem_of_mem_drop he)) (fun j x hx=>?_) (fun _ e=>no e) (fun j x hx=>hrd _ x (hget j x hx))
   have:=hw _ x (hget j x hx)
   rw[Nat.add_assoc];exact⟨this.1,this.2.1,this.2.2.1,hN _ _ _ _ _ _ _ _ this.2.2.2⟩
theorem Rd.cap_le{S:Nat->Nat->Prop}{N:Tag->Nat->Value->Prop}{t:Tag}{sz:Nat}{es:List AV}{p:Option Addr}{n cp:Nat}(h:Rd w S N (.sl t sz es) (.slice p n cp)):es.length<=cp:=by
 cases h with
 |sl0=>simp
 |sl _ _ _ _ _ _ _ hc=>exact hc
theorem U18(l:List UInt8):flat (l.map fun b=>AV.int .u8 b.toNat)=l.map fun b=>AV.int .u8 b.toNat:=by
 induction l with
 |nil=>rfl
 |cons b l ih=>simp only[List.map_cons,flat,ya]at ih ⊢;rw[ih];rfl
theorem Rd.bytes{S:Nat->Nat->Prop}{N:Tag->Nat->Value->Prop}{tg:Tag}{sz:Nat}{es:List AV}{v:Value}(h:Rd w S N (.sl tg sz es) v){l:List UInt8}(hl:es=l.map fun b=>AV.int .u8 b.toNat)
  {t u e:TypeId} (ht:P.underlying t=some (.slice e)) (he:P.underlying e=some (.int .u8)) (hu:P.underlying u=some .string):(convert t u v).run P w=.ok (.string ⟨l.toArray⟩) w:=by
 cases h with
 |sl0 _ _ p q =>
  have:l=[]:=by cases l<;>simp at hl ⊢
  subst this
  cases p with
  |none=>rw[run_convert_bytes_string w t u e none 0 q ht he hu];simp[Conv.bytesToString];rfl
  |some ad=>exact run_convert_bytes_back w t u e ad q [] ht he hu (by simp)
 |sl _ _ _ b o cc cv hc hm hs hw hn hrd =>
  have hlen:es.length=l.length:=by rw[hl];simp
  rw[hlen]
  refine run_convert_bytes_back (P:=P) w t u e ⟨b,o,none⟩ cc l ht he hu (fun j hj=>?_)
  have hx:(flat es)[j]?=some (.int .u8 (l[j].toNat)):=by rw[hl,U18];simp[hj]
  have h1:=(hw j _ hx).1
  have h2:=hrd j _ hx
  rw[WX,h1]
  generalize cv j=z at *
  cases h2;rfl
section ops
variable{o:Oper}{d:Nat}{K:St->Prop}{K':Act->World->Prop}{Q':Exit->Act->World->Prop}
theorem Z1N(I:Inv c g s a w)(hK:∀g' s' a' w',Inv c g' s' a' w'->K s'->K' a' w')(hd:o.dst=some d)(hlt:d<c.nt)
  {x:X} {p:Operand} {n:Nat} (ho:o.op=.move p) (hx:chkX x p=true) (h:wop P (.sc d x none none n) K s):o.wp P a w K' Q':=by
 simp only[wop,St.hi,St.lo,List.take_length,List.drop_zero]at h
 have gx:=I.get hx
 have run:(execOp a.eval o).run P w=.ok (.value (a.eval p)) w:=by simp[execOp,ho]
 split at h
 .rename_i t' sz es e1
  rw[e1]at gx
  exact sok (g':=g) (s':=s) (w':=w) hK hd hlt run I gx h.2.2
 .rename_i k e1
  rw[e1]at gx
  split at h
  .rename_i r hr
   obtain⟨rfl,h⟩:=h
   have I2:=I.share hr
   have hrow:=(I.rws k r hr).mono (w':=w) (S':=fun b o=>g.S b o\/((g.rv k).ownBlock=some b/\o<r.es.length*r.sz)) (N':=g.T) (fun _ _ h=>.inl h) TLe.refl (fun _ _ _=>rfl) (fun _ _=>rfl)
   have hrd:=YW hrow (fun b o hb ho=>.inr ⟨hb,ho⟩) .nw (fun b hb=>⟨(I.rwn k r hr b hb).1.1,I.ow.rw k r hr b hb⟩)
   exact sok hK hd hlt run I2 (.data _ _ (by rw[gx.sref_inv hr];simpa using hrd)) h
  .cases h
 .rename_i e1
  rw[e1]at gx
  exact sok (g':=g) (s':=s) (w':=w) hK hd hlt run I gx h
 .cases h
theorem J1U(I:Inv c g s a w)(hK:∀g' s' a' w',Inv c g' s' a' w'->K s'->K' a' w')(hd:o.dst=some d)(hlt:d<c.nt)
  {x:X} {p:Operand} {lo hi:Option X} {pl ph:Option Operand} {t e:TypeId} {n:Nat} (ho:o.op=.slice t p pl ph none) (ht:P.underlying t=some (.slice e)) (hs:tsz P e=some n)
  (hx:chkX x p=true) (hl:chkO lo pl=true) (hh:chkO hi ph=true) (h:wop P (.sc d x lo hi n) K s):o.wp P a w K' Q':=by
 simp only[wop]at h
 have gx:=I.get hx
 have run:∀pa m cp ll hv,a.eval p=.slice pa m cp->(Instr.sliceBounds true m cp (pl.map a.eval) (ph.map a.eval) none).run P w=.ok (ll,hv,cp) w ->
   (execOp a.eval o).run P w=.ok (.value (.slice (if cp=ll then pa else pa.map (·.add (ll*n))) (hv-ll) (cp-ll))) w:=by
  intro pa m cp ll hv e1 e2
  simp[execOp,ho,e1,Instr.sliceAt,Instr.slice,run_underlying ht,e2,Lm hs]
 split at h
 .rename_i t' sz es e1
  rw[e1]at gx
  split at h
  .rename_i hv h1
   split at h
   .rename_i lv h2
    obtain⟨rfl,hto,h⟩:=h
    obtain⟨pa0,cp0,hv0,hm0⟩:=gx.sl_inv.sl_len
    have hrd:=gx.sl_inv
    have hcp:es.length<=cp0:=by
     rw[hv0]at hrd;exact hrd.cap_le
    have hb:=V1o (P:=P) (isS:=true) I hl hh (n:=es.length) (cap:=cp0) hcp h1 h2
    obtain⟨pa,m,cp,hv',hm,_,hr⟩:=hrd.cut hto (fun _ _ _ _ _ _ _ _ h=>Gh.T_cut hto h) hb.2.1 hb.2.2
    rw[hv0]at hv';cases hv'
    exact sok (g':=g) (s':=s) (w':=w) hK hd hlt (run _ _ _ _ _ hv0 hb.1) I (.data _ _ hr) h
   .cases h
  .cases h
 .rename_i k e1
  rw[e1]at gx
  split at h
  .rename_i r hr
   split at h
   .rename_i hv h1
    split at h
    .rename_i lv h2
     obtain⟨rfl,h⟩:=h
     have I2:=I.share hr
     have hrow:=(I.rws k r hr).mono (w':=w) (S':=fun b o=>g.S b o\/((g.rv k).ownBlock=some b/\o<r.es.length*r.sz)) (N':=g.T) (fun _ _ h=>.inl h) TLe.refl (fun _ _ _=>rfl) (fun _ _=>rfl)
     have hrd:=YW hrow (fun b o hb ho=>.inr ⟨hb,ho⟩) .nw (fun b hb=>⟨(I.rwn k r hr b hb).1.1,I.ow.rw k r hr b hb⟩)
     obtain⟨pa0,cp0,hv0,hm0⟩:=hrd.sl_len
     have hcp:r.es.length<=cp0:=by
      rw[hv0]at hrd;exact hrd.cap_le
     have hb:=V1o (P:=P) (isS:=true) I hl hh (n:=r.es.length) (cap:=cp0) hcp h1 h2
     obtain⟨pa,m,cp,hv',hm,_,hr'⟩:=hrd.cut rfl (fun _ _ _ _ _ _ _ _ h=>Gh.T_cut rfl h) hb.2.1 hb.2.2
     rw[hv0]at hv';cases hv'
     exact sok hK hd hlt (run _ _ _ _ _ ((gx.sref_inv hr).trans hv0) hb.1) I2 (.data _ _ (by simpa using hr')) h
    .cases h
   .cases h
  .cases h
 .rename_i e1
  rw[e1]at gx
  split at h
  .rename_i hv h1
   split at h
   .rename_i lv h2
    have hb:=V1o (P:=P) (isS:=true) I hl hh (n:=0) (cap:=0) (yV _) h1 h2
    have hv0:hv=0:=by omega
    have hl0:lv=0:=by omega
    subst hv0;subst hl0
    refine sok (g':=g) (s':=s) (w':=w) (v:=.slice none 0 0) hK hd hlt ?_ I (.data _ _ .nl) h
    have:=run none 0 0 0 0 gx.nl_inv hb.1
    simpa using this
   .cases h
  .cases h
 .cases h
theorem V1N(I:Inv c g s a w)(hK:∀g' s' a' w',Inv c g' s' a' w'->K s'->K' a' w')(hd:o.dst=some d)(hlt:d<c.nt)
  {x:X} {p:Operand} {t u e:TypeId} (ho:o.op=.convert t u p) (ht:P.underlying t=some (.slice e)) (he:P.underlying e=some (.int .u8)) (hu:P.underlying u=some .string)
  (hx:chkX x p=true) (h:wop P (.b2s d x) K s):o.wp P a w K' Q':=by
 simp only[wop]at h
 have gx:=I.get hx
 have run:∀str,(convert t u (a.eval p)).run P w=.ok (.string str) w->(execOp a.eval o).run P w=.ok (.value (.string str)) w:=by
  intro str e1
  simp[execOp,ho,e1]
 split at h
 .rename_i tt sz es hdt
  obtain⟨l,hl,h⟩:=h
  have hrd:=M1R I (fun b o=>g.S b o\/∃k r,s.rw k=some r/\(g.rv k).ownBlock=some b/\o<r.es.length*r.sz) (fun _ _ h=>.inl h) (fun k r b o h1 h2 h3=>.inr ⟨k,r,h1,h2,h3⟩) hdt gx
  exact sok (g':=g) (s':=s) (w':=w) (v:=.string ⟨l.toArray⟩) hK hd hlt (run _ (hrd.bytes hl ht he hu)) I (.data _ _ (.str _)) h
 .rename_i hdt
  have hrd:=M1R I (fun b o=>g.S b o\/∃k r,s.rw k=some r/\(g.rv k).ownBlock=some b/\o<r.es.length*r.sz) (fun _ _ h=>.inl h) (fun k r b o h1 h2 h3=>.inr ⟨k,r,h1,h2,h3⟩) hdt gx
  refine sok (g':=g) (s':=s) (w':=w) (v:=.string ⟨([]:List UInt8).toArray⟩) hK hd hlt (run _ ?_) I (.data _ _ (.str _)) h
  generalize a.eval p=v at *
  cases hrd
  rw[run_convert_bytes_string w t u e none 0 0 ht he hu];simp[Conv.bytesToString];rfl
 .cases h
theorem Y1N(I:Inv c g s a w)(hK:∀g' s' a' w',Inv c g' s' a' w'->K s'->K' a' w')(hd:o.dst=some d)(hlt:d<c.nt)
  {x:X} {p:Operand} {t u e:TypeId} (ho:o.op=.convert t u p) (ht:P.underlying t=some .string) (hu:P.underlying u=some (.slice e)) (he:P.underlying e=some (.int .u8))
  (hx:chkX x p=true) (h:wop P (.s2b d x) K s):o.wp P a w K' Q':=by
 simp only[wop]at h
 have gx:=I.get hx
 split at h
 .rename_i l e1
  rw[e1]at gx
  obtain⟨h1,h⟩:=h
  have hr:=run_bytes_of_string (P:=P) w t u e ⟨l.toArray⟩ ht hu he
  have hsz:(⟨l.toArray⟩:ByteArray).size=l.length:=by show l.toArray.size=_;simp
  rw[hsz]at hr
  have hcap:=grownCap_ge w l.length 0 e
  have hcm:grownCap w l.length 0 e<=maxLen:=grownCap_le_maxLen w l.length 0 e (by simp only[maxLen];omega)
  generalize hC:grownCap w l.length 0 e=C at *
  generalize hB:bytesRow ⟨l.toArray⟩ C=B at *
  have I1:=I.grow (w':=w.drew.alloc (.cells B e (B.size,B.size+1))) (S':=fun b o=>g.S b o\/b=w.heap.size) rfl rfl rfl (by simp) (fun b hb=>heap_alloc_old w.drew _ hb) (fun _ _ h=>.inl h) (fun b o h=>by
   rcases h with h|h
   .exact .inl h
   .exact .inr ⟨by omega,by subst h;simp⟩) (fun b o h=>h.imp id fun h=>by
    subst h
    intro o v hv
    have hnew:(w.drew.alloc (.cells B e (B.size,B.size+1))).heap[w.heap.size]?=some (.cells B e (B.size,B.size+1)):=heap_alloc_new w.drew (.cells B e (B.size,B.size+1))
    simp only[World.cell?]at hv
    rw[hnew]at hv
    have ho:o<B.size:=by
     simp only[Option.isSome_none,yG,yc]at hv
     exact(Array.getElem?_eq_some_iff.1 hv).1
    simp only[World.frozen?]
    rw[hnew]
    simp only[Bool.and_eq_false_imp,yO,decide_eq_false_iff_not]
    omega)
  refine sok hK hd hlt (v:=.slice (some ⟨w.heap.size,0,none⟩) l.length C) ?_ I1 (.data _ _ ?_) h
  .simp[execOp,ho,gx.str_inv,hr]
  .have hnew:=heap_alloc_new w.drew (.cells B e (B.size,B.size+1))
   have hlen:(l.map fun b=>AV.int .u8 b.toNat).length=l.length:=by simp
   rw[← hlen]
   refine .sl .nw 1 _ w.heap.size 0 C (fun j=>.int .u8 ((l.getD j 0).toNat)) (by simpa using hcap) hcm (fun y hy=>?_) (fun j y hy=>?_) (fun _ e=>by cases e) (fun j y hy=>?_)
   .obtain⟨b,_,rfl⟩:=yY hy;rfl
   .rw[U18,yF]at hy
    obtain⟨b,hb,rfl⟩:=yC hy
    have hj:j<l.length:=(yB hb).1
    refine⟨?_,.inr rfl,rfl,fun b0 hb0=>by cases hb0;exact⟨I.nn _ I.fr.size,(I.vac (yV _)).O⟩⟩
    rw[Nat.zero_add,cell_of_row _ w.heap.size j B e _ hnew,← hB]
    have hjb:l[j]=b:=(yB hb).2
    simp only[bytesRow]
    rw[Array.getElem?_append_left (by simpa using hj)]
    simp[hj,hjb,List.getD]
   .rw[U18,yF]at hy
    obtain⟨b,hb,rfl⟩:=yC hy
    simp only[List.getD,hb,Option.getD_some]
    exact .int _ _
 .cases h
end ops
end
end
section
section
variable{P:Program}{c:Cx}{g:Gh}{s:St}{a:Act}{w:World}
theorem J0b{x:AV}(h:x.one=true):x.rdt.one=true:=by cases x<;>first|exact h|simp[AV.one]at h
theorem V0e(x:AV):x.rdt.cells=x.cells.map AV.rdt:=by
 cases x with
 |agg cs=>simp[AV.rdt,AV.cells,X3]
 |_=>simp[AV.rdt,AV.cells]
theorem O0J(es:List AV):flat (rdtL es)=(flat es).map AV.rdt:=by
 induction es with
 |nil=>rfl
 |cons e es ih=>simp only[rdtL,flat,ya,List.map_append]at ih ⊢;rw[ih,V0e]
theorem Rd.rdt{S:Nat->Nat->Prop}{N N':Tag->Nat->Value->Prop}(hr:∀z v,N' .rd z v){x:AV}{v:Value}(h:Rd w S N x v):Rd w S N' x.rdt v:=by
 induction h with
 |bool b=>exact .bool b
 |int k n=>exact .int k n
 |str l=>exact .str l
 |nl=>exact .nl
 |sl0 t sz p q _=>rw[AV.rdt,rdtL];exact .sl0 _ _ _ _ fun _ e=>by cases e
 |agg cs vs hl h1 h ih =>
  rw[AV.rdt,X3]
  refine .agg _ vs (by simpa using hl) (fun y hy=>?_) (fun i y v hy hv=>?_)
  .obtain⟨y0,h0,rfl⟩:=yY hy;exact J0b (h1 y0 h0)
  .rw[yF]at hy
   obtain⟨y0,h0,rfl⟩:=yC hy
   exact ih i y0 v h0 hv
 |fn f cs vs hl h ih =>
  rw[AV.rdt,X3]
  refine .fn f _ vs (by simpa using hl) (fun i y v hy hv=>?_)
  rw[yF]at hy
  obtain⟨y0,h0,rfl⟩:=yC hy
  exact ih i y0 v h0 hv
 |ept e off b o cv hw h ih =>
  rw[AV.rdt]
  have hget:∀(j:Nat) (y:AV),e.rdt.cells[j]?=some y->∃y0,e.cells[j]?=some y0/\y=y0.rdt:=by
   intro j y hy
   rw[V0e,yF]at hy
   obtain⟨y0,h0,rfl⟩:=yC hy
   exact⟨y0,h0,rfl⟩
  refine .ept _ off b o cv (fun j y hy=>?_) (fun j y hy=>?_)
  .obtain⟨y0,h0,rfl⟩:=hget j y hy
   exact⟨(hw j y0 h0).1,(hw j y0 h0).2.1,J0b (hw j y0 h0).2.2.1,hr _ _⟩
  .obtain⟨y0,h0,rfl⟩:=hget j y hy
   exact ih j y0 h0
 |sl t sz es b o cc cv hc hm hs hw hn h ih =>
  rw[AV.rdt]
  have hlen:(rdtL es).length=es.length:=by rw[X3];simp
  have hget:∀(j:Nat) (y:AV),(flat (rdtL es))[j]?=some y->∃y0,(flat es)[j]?=some y0/\y=y0.rdt:=by
   intro j y hy
   rw[O0J,yF]at hy
   obtain⟨y0,h0,rfl⟩:=yC hy
   exact⟨y0,h0,rfl⟩
  rw[← hlen]
  refine .sl .rd sz _ b o cc cv (by omega) hm (fun e he=>?_) (fun j y hy=>?_) (fun _ h=>by cases h) (fun j y hy=>?_)
  .rw[X3]at he
   obtain⟨e0,h0,rfl⟩:=yY he
   rw[V0e,List.length_map];exact hs e0 h0
  .obtain⟨y0,h0,rfl⟩:=hget j y hy
   exact⟨(hw j y0 h0).1,(hw j y0 h0).2.1,J0b (hw j y0 h0).2.2.1,hr _ _⟩
  .obtain⟨y0,h0,rfl⟩:=hget j y hy
   exact ih j y0 h0
def X0L(g:Gh)(s:St):Nat->Nat->Prop:=fun b o=>g.S b o\/∃k r,s.rw k=some r/\(g.rv k).ownBlock=some b/\o<r.es.length*r.sz
theorem U1k(I:Inv c g s a w):∀b o,X0L g s b o->b<w.heap.size:=by
 intro b o h
 rcases h with h|⟨k,r,h1,h2,_⟩
 .exact I.sw b o h
 .exact XT (I.rws k r h1) h2
theorem U21(I:Inv c g s a w){x y:AV}{v:Value}(hy:s.dt x=some y)(h:Gv w g s x v):Rd w (X0L g s) g.T1 y v :=
 M1R I (X0L g s) (fun _ _ h=>.inl h) (fun k r _ _ h1 h2 h3=>.inr ⟨k,r,h1,h2,h3⟩) hy h
theorem J1N{S:Nat->Nat->Prop}{N:Tag->Nat->Value->Prop}{r:Row}{v:Value}(h:LI w S N r v){b:Nat}(hb:v.ownBlock=some b):UnfB w b:=by
 obtain⟨xs,ty,hown,_⟩:=h
 rcases hown.2 with⟨e,_⟩|⟨b',cap,cur,e,_,e3,_⟩
 .rw[e]at hb;cases hb
 .rw[e]at hb;cases hb
  exact .plain e3
theorem Z1j(I:Inv c g s a w){xs:List X}{ps:List Operand}(hx:xs.length=ps.length/\∀(i:Nat) (x:X) (p:Operand),xs[i]?=some x->ps[i]?=some p->chkX x p=true)
  {as:List AV} (h:s.args xs=some as):(ps.map a.eval).length=as.length/\∀(i:Nat) (y:AV) (v:Value),as[i]?=some y->(ps.map a.eval)[i]?=some v->Rd w (X0L g s) rdT y v:=by
 unfold St.args at h
 split at h
 .rename_i l hl
  cases h
  have hlen:=O18 hl
  rw[X3]
  refine⟨by simp at hlen ⊢;omega,fun i y v hy hv=>?_⟩
  rw[yF]at hy hv
  obtain⟨y0,h0,rfl⟩:=yC hy
  obtain⟨p0,hp0,rfl⟩:=yC hv
  have hi:i<xs.length:=by rw[hx.1];exact(yB hp0).1
  have hxi:(xs.map s.get)[i]?=some (s.get xs[i]):=by simp[hi]
  exact(U21 I (M18 hl i _ y0 hxi h0) (I.get (hx.2 i xs[i] p0 (yA hi) hp0))).rdt fun _ _=>rfl
 .cases h
theorem U1P(k n:Nat){x:AV}(h:x.one=true\/x=.bad):(x.ren k n).one=true\/x.ren k n=.bad:=by
 rcases h with h|rfl
 .cases x with
  |sref j=>rw[AV.ren];split<;>simp[AV.one]
  |ptr j o=>right;rfl
  |rpt j i o=>right;rfl
  |_=>simp[AV.ren,AV.one]at h ⊢
 .right;rfl
theorem W1P(rows:List Row){x:AV}(h:x.one=true\/x=.bad):(x.nwd rows).one=true\/x.nwd rows=.bad:=by
 rcases h with h|rfl
 .cases x with
  |sref j=>rw[AV.nwd];split<;>simp[AV.one]
  |ptr j o=>right;rfl
  |rpt j i o=>right;rfl
  |_=>simp[AV.nwd,AV.one]at h ⊢
 .right;rfl
theorem Rd.ren{S:Nat->Nat->Prop}{N:Tag->Nat->Value->Prop}(k n:Nat){x:AV}{v:Value}(h:Rd w S N x v):Rd w S N (x.ren k n) v:=by
 induction h with
 |bool b=>exact .bool b
 |int k n=>exact .int k n
 |str l=>exact .str l
 |nl=>exact .nl
 |sl0 t sz p q ho=>exact .sl0 _ _ _ _ ho
 |sl t sz es b o cc cv hc hm hs hw hn h _=>exact .sl t sz es b o cc cv hc hm hs hw hn h
 |ept e off b o cv hw h _=>exact .ept e off b o cv hw h
 |agg cs vs hl h1 h ih =>
  rw[AV.ren,V0h]
  refine .agg _ vs (by simpa using hl) (fun y hy=>?_) (fun i y v hy hv=>?_)
  .obtain⟨y0,h0,rfl⟩:=yY hy
   obtain⟨i,hi,rfl⟩:=List.getElem_of_mem h0
   have hlt:i<vs.length:=by omega
   have hr:=h i _ _ (yA hi) (yA hlt)
   have h1':=h1 _ h0
   generalize cs[i]=z at *
   generalize vs[i]=u at *
   cases hr<;>simp_all [AV.ren,AV.one]
  .rw[yF]at hy
   obtain⟨y0,h0,rfl⟩:=yC hy
   exact ih i y0 v h0 hv
 |fn f cs vs hl h ih =>
  rw[AV.ren,V0h]
  refine .fn f _ vs (by simpa using hl) (fun i y v hy hv=>?_)
  rw[yF]at hy
  obtain⟨y0,h0,rfl⟩:=yC hy
  exact ih i y0 v h0 hv
theorem Rd.nwd{S:Nat->Nat->Prop}{N:Tag->Nat->Value->Prop}(rows:List Row){x:AV}{v:Value}(h:Rd w S N x v):Rd w S N (x.nwd rows) v:=by
 induction h with
 |bool b=>exact .bool b
 |int k n=>exact .int k n
 |str l=>exact .str l
 |nl=>exact .nl
 |sl0 t sz p q ho=>exact .sl0 _ _ _ _ ho
 |sl t sz es b o cc cv hc hm hs hw hn h _=>exact .sl t sz es b o cc cv hc hm hs hw hn h
 |ept e off b o cv hw h _=>exact .ept e off b o cv hw h
 |agg cs vs hl h1 h ih =>
  rw[AV.nwd,W0h]
  refine .agg _ vs (by simpa using hl) (fun y hy=>?_) (fun i y v hy hv=>?_)
  .obtain⟨y0,h0,rfl⟩:=yY hy
   obtain⟨i,hi,rfl⟩:=List.getElem_of_mem h0
   have hlt:i<vs.length:=by omega
   have hr:=h i _ _ (yA hi) (yA hlt)
   have h1':=h1 _ h0
   generalize cs[i]=z at *
   generalize vs[i]=u at *
   cases hr<;>simp_all [AV.nwd,AV.one]
  .rw[yF]at hy
   obtain⟨y0,h0,rfl⟩:=yC hy
   exact ih i y0 v h0 hv
 |fn f cs vs hl h ih =>
  rw[AV.nwd,W0h]
  refine .fn f _ vs (by simpa using hl) (fun i y v hy hv=>?_)
  rw[yF]at hy
  obtain⟨y0,h0,rfl⟩:=yC hy
  exact ih i y0 v h0 hv
theorem Gv.ren{g':Gh}{s':St}{rows:List Row}{k:Nat}(hS:∀b o,g.S b o->g'.S b o)(hN:TLe g.S g.T g'.T)(hr:∀i,i<rows.length->g'.rv (k+i)=g.rv i)
  {x:AV} {v:Value} (h:Gv w g (Z0U rows) x v):Gv w g' s' (x.ren k rows.length) v:=by
 have mp:∀(cs:List AV) (vs:List Value),(∀(i:Nat) (x:AV) (v:Value),cs[i]?=some x->vs[i]?=some v->Gv w g' s' (x.ren k rows.length) v) ->
   ∀(i:Nat) (x:AV) (v:Value),(cs.map (AV.ren k rows.length))[i]?=some x->vs[i]?=some v->Gv w g' s' x v:=by
  intro cs vs ih i x v hx hv
  rw[yF]at hx
  obtain⟨x0,h0,rfl⟩:=yC hx
  exact ih i x0 v h0 hv
 induction h with
 |data x v h=>exact .data _ v ((h.mono hS hN (fun _ _ _=>rfl)).ren _ _)
 |bad v=>exact .bad v
 |und=>exact .und
 |sref i v h1 h =>
  rw[AV.ren];split
  .rename_i hi
   refine .sref _ v h1 fun r' _=>?_
   rw[hr i hi]
   exact h rows[i] (by simp[Z0U,hi])
  .exact .bad v
 |ptr j off v h1 h=>exact .bad v
 |rpt j i off v h1 h=>exact .bad v
 |el ad=>exact .el ad
 |od=>exact .bad _
 |op=>exact .bad _
 |eot e off b o cv hw h=>exact .eot e off b o cv (fun j y hj=>⟨(hw j y hj).1,hS _ _ (hw j y hj).2.1,(hw j y hj).2.2⟩) (fun j y hj=>(h j y hj).mono hS hN (fun _ _ _=>rfl))
 |agg cs vs hl h1 _ ih =>
  rw[AV.ren,V0h]
  refine .agg _ vs (by simpa using hl) (fun y hy=>?_) (mp cs vs ih)
  obtain⟨y0,h0,rfl⟩:=yY hy
  exact U1P k _ (h1 _ h0)
 |tup cs vs hl _ ih=>rw[AV.ren,V0h];exact .tup _ vs (by simpa using hl) (mp cs vs ih)
 |fn f cs vs hl _ ih=>rw[AV.ren,V0h];exact .fn f _ vs (by simpa using hl) (mp cs vs ih)
theorem Gv.nwd{g':Gh}{s':St}{rows:List Row}(hS:∀b o,g.S b o->g'.S b o)(hN:TLe g.S g.T g'.T)(hr:∀(i:Nat) (r:Row),rows[i]?=some r->Rd w g'.S g'.T (.sl .nw r.sz r.es) (g.rv i))
  {x:AV} {v:Value} (h:Gv w g (Z0U rows) x v):Gv w g' s' (x.nwd rows) v:=by
 have mp:∀(cs:List AV) (vs:List Value),(∀(i:Nat) (x:AV) (v:Value),cs[i]?=some x->vs[i]?=some v->Gv w g' s' (x.nwd rows) v) ->
   ∀(i:Nat) (x:AV) (v:Value),(cs.map (AV.nwd rows))[i]?=some x->vs[i]?=some v->Gv w g' s' x v:=by
  intro cs vs ih i x v hx hv
  rw[yF]at hx
  obtain⟨x0,h0,rfl⟩:=yC hx
  exact ih i x0 v h0 hv
 induction h with
 |data x v h=>exact .data _ v ((h.mono hS hN (fun _ _ _=>rfl)).nwd _)
 |bad v=>exact .bad v
 |und=>exact .und
 |sref i v h1 h =>
  rw[AV.nwd];split
  .rename_i r hi
   rw[h r (by simpa[Z0U]using hi)]
   exact .data _ _ (hr i r hi)
  .exact .bad v
 |ptr j off v h1 h=>exact .bad v
 |rpt j i off v h1 h=>exact .bad v
 |el ad=>exact .el ad
 |od=>exact .bad _
 |op=>exact .bad _
 |eot e off b o cv hw h=>exact .eot e off b o cv (fun j y hj=>⟨(hw j y hj).1,hS _ _ (hw j y hj).2.1,(hw j y hj).2.2⟩) (fun j y hj=>(h j y hj).mono hS hN (fun _ _ _=>rfl))
 |agg cs vs hl h1 _ ih =>
  rw[AV.nwd,W0h]
  refine .agg _ vs (by simpa using hl) (fun y hy=>?_) (mp cs vs ih)
  obtain⟨y0,h0,rfl⟩:=yY hy
  exact W1P rows (h1 _ h0)
 |tup cs vs hl _ ih=>rw[AV.nwd,W0h];exact .tup _ vs (by simpa using hl) (mp cs vs ih)
 |fn f cs vs hl _ ih=>rw[AV.nwd,W0h];exact .fn f _ vs (by simpa using hl) (mp cs vs ih)
theorem Inv.addrows:∀(rows:List Row) (k:Nat) (val:Nat->Value) (g:Gh) (s:St),Inv c g s a w ->
  (∀(i:Nat) (r:Row),rows[i]?=some r->LI w g.S g.T r (val i)/\∀b,(val i).ownBlock=some b->Vac c g s b)->k+rows.length<1000000000 ->
  (∀(i j:Nat) (r r':Row),rows[i]?=some r->rows[j]?=some r'->i≠j->∀b,(val i).ownBlock=some b->(val j).ownBlock≠some b) ->
  ∃g',Inv c g' (s.addrows k rows) a w/\g'.S=g.S/\(g'.N=g.N/\g'.ov=g.ov)/\(∀i,i<rows.length->g'.rv (k+i)=val i)/\∀j,j<k->g'.rv j=g.rv j
 |[],k,val,g,s,I,_,_,_=>⟨g,I,rfl,⟨rfl,rfl⟩,by simp,fun _ _=>rfl⟩
 |r::rs,k,val,g,s,I,h,hkb,hd=>by
  obtain⟨h0,hv0⟩:=h 0 r rfl
  have I1:=I.addrow k r (val 0) h0 hv0 (by simp at hkb;omega)
  obtain⟨g',I2,e1,e2,e3,e4⟩:=Inv.addrows rs (k+1) (fun i=>val (i+1)) _ _ I1 (fun i r' hi=>by
   obtain⟨q1,q2⟩:=h (i+1) r' hi
   refine⟨by simpa using q1,fun b hb=>?_⟩
   have V:=q2 b hb
   refine⟨V.S,fun j cs hj=>?_,fun j r'' hj=>?_,V.N,V.O⟩
   .obtain⟨_,c0,hc0,_⟩:=X6 hj;exact V.bx j c0 hc0
   .by_cases hjk:j=k
    .subst hjk
     simp only[yb]
     exact fun e=>hd 0 (i+1) r r' rfl hi (by omega) b e hb
    .simp only[hjk,yc]at hj ⊢
     exact V.rw j r'' (X9 hj).2) (by simp at hkb;omega) (fun i j r1 r2 hi hj hne=>hd (i+1) (j+1) r1 r2 hi hj (by omega))
  refine⟨g',I2,e1,e2,fun i hi=>?_,fun j hj=>?_⟩
  .cases i with
   |zero=>rw[Nat.add_zero,e4 k (by omega)];simp
   |succ i=>rw[show k+(i+1)=k+1+i by omega];exact e3 i (by simpa using hi)
  .rw[e4 j (by omega)];simp[show j≠k by omega]
section ops
variable{o:Oper}{d:Nat}{K:St->Prop}{K':Act->World->Prop}{Q':Exit->Act->World->Prop}
theorem Z0A{f:FuncId}(hf:isFn P f=true)(as:Array Value):(callFunc f as).run P w=.ok (.enter f as) w:=by
 unfold isFn at hf
 split at hf
 .rename_i fn hfn
  simp only[yD,bne_iff_ne]at hf
  obtain⟨bd,hb⟩:=Option.isSome_iff_exists.1 hf.1
  simp[callFunc,hfn,hf.2,hb]
 .cases hf
theorem after(I:Inv c g s a w){w':World}(hb:Below w.heap.size w w'){S2:Nat->Nat->Prop}(hS:∀b o,S2 b o->w.heap.size<=b/\b<w'.heap.size)(hU:∀b o,S2 b o->UnfB w' b):Inv c { g with S:=fun b o=>g.S b o\/S2 b o } s a w' :=
 I.grow hb.os hb.tape hb.output hb.size (fun k hk=>hb.block k hk) (fun _ _ h=>.inl h) (fun b o h=>by
  rcases h with h|h
  .exact .inl h
  .exact .inr (hS b o h)) fun b o h=>h.imp id (hU b o)
theorem O1S(I:Inv c g s a w)(hK:∀g' s' a' w',Inv c g' s' a' w'->K s'->K' a' w')(hd:o.dst=some d)(hlt:d<c.nt)
  {f:FuncId} {as:List AV} {res:AV} {rows:List Row} {vs:List Value} (hrun:(execOp a.eval o).run P w=.ok (.enter f vs.toArray) w)
  (hvs:vs.length=as.length/\∀(i:Nat) (y:AV) (v:Value),as[i]?=some y->vs[i]?=some v->Rd w (X0L g s) rdT y v)
  (hs:Snd P f as res rows) (hrl:rows.length<=1000) (h:K ((s.addrows (1000*d+1000) rows).set d (res.ren (1000*d+1000) rows.length))):o.wp P a w K' Q':=by
 have hc:=hs w (X0L g s) rdT vs (U1k I) hvs.1 hvs.2
 unfold Oper.wp
 rw[hrun,Oper.upon_enter]
 refine hc.mono fun e w' hq=>?_
 obtain⟨v,rfl,hb,g2,hS2,hN2,hov2,hgv,hrows,hdis,hU2⟩:=hq
 have hT2:TLe g2.S g2.T g.T:=TLe.call hov2 (fun b o h=>(hS2 b o h).1) (fun b hb'=>I.nn b (Nat.le_trans I.fr.size (hN2 b hb'))) (fun b h=>I.ow.size h)
 simp only[hd]
 have I1:=after I hb hS2 hU2
 obtain⟨g3,I2,e1,e2,e3,_⟩:=Inv.addrows rows (1000*d+1000) g2.rv _ s I1 (fun i r hi=>by
  obtain⟨q1,q2⟩:=hrows i r hi
  refine⟨q1.mono (w':=w') (S':=fun b o=>g.S b o\/g2.S b o) (N':=g.T) (fun _ _ h=>.inr h) hT2 (fun _ _ _=>rfl) (fun _ _=>rfl),fun b hbk=>?_⟩
  obtain⟨z1,z2⟩:=q2 b hbk
  have V:=I.vac z1
  refine⟨fun o' ho'=>?_,V.bx,V.rw,V.N,V.O⟩
  rcases ho' with ho'|ho'
  .exact V.S o' ho'
  .exact z2 o' ho') (by have:=c.ntb;omega) hdis
 refine hK _ _ _ _ (I2.put hlt ?_) h
 refine hgv.ren (fun b o' ho'=>by rw[e1];exact(Or.inr ho':g.S b o'\/g2.S b o')) (by rw[Gh.T_eq (g:=g) e2.1 e2.2];exact hT2) e3
theorem M1C(I:Inv c g s a w)(hK:∀g' s' a' w',Inv c g' s' a' w'->K s'->K' a' w')(hd:o.dst=some d)(hlt:d<c.nt)
  {f:FuncId} {as:List AV} {res:AV} {rows:List Row} {vs:List Value} (hrun:(execOp a.eval o).run P w=.ok (.enter f vs.toArray) w)
  (hvs:vs.length=as.length/\∀(i:Nat) (y:AV) (v:Value),as[i]?=some y->vs[i]?=some v->Rd w (X0L g s) rdT y v)
  (hs:Snd P f as res rows) (h:K (s.set d (res.nwd rows))):o.wp P a w K' Q':=by
 have hc:=hs w (X0L g s) rdT vs (U1k I) hvs.1 hvs.2
 unfold Oper.wp
 rw[hrun,Oper.upon_enter]
 refine hc.mono fun e w' hq=>?_
 obtain⟨v,rfl,hb,g2,hS2,hN2,hov2,hgv,hrows,hdis,hU2⟩:=hq
 have hT2:TLe g2.S g2.T g.T:=TLe.call hov2 (fun b o h=>(hS2 b o h).1) (fun b hb'=>I.nn b (Nat.le_trans I.fr.size (hN2 b hb'))) (fun b h=>I.ow.size h)
 simp only[hd]
 have I1:=after I hb (S2:=X0L g2 (Z0U rows)) (fun b o' h=>by
  rcases h with h|⟨k,r,h1,h2,_⟩
  .exact hS2 b o' h
  .exact⟨((hrows k r h1).2 b h2).1,XT (hrows k r h1).1 h2⟩) (fun b o' h=>by
  rcases h with h|⟨k,r,h1,h2,_⟩
  .exact hU2 b o' h
  .exact J1N (hrows k r h1).1 h2)
 refine hK _ _ _ _ (I1.put hlt ?_) h
 refine hgv.nwd (g':={ g with S:=fun b o=>g.S b o\/X0L g2 (Z0U rows) b o }) (fun b o' ho'=>.inr (.inl ho')) (by simpa using hT2) (fun i r hi=>?_)
 have q:=(hrows i r hi).1.mono (w':=w') (S':=fun b o=>g.S b o\/X0L g2 (Z0U rows) b o) (N':=g.T) (fun _ _ h=>.inr (.inl h)) hT2 (fun _ _ _=>rfl) (fun _ _=>rfl)
 simp only[Gh.T_of]
 exact YW q (fun b o' hb' ho'=>.inr (.inr ⟨i,r,hi,hb',ho'⟩)) .nw (fun b hb'=>⟨I.nn b (Nat.le_trans I.fr.size ((hrows i r hi).2 b hb').1),fun q=>by have:=I.ow.size q;have:=((hrows i r hi).2 b hb').1;omega⟩)
theorem L0g{f:FuncId}{ps:List Operand}{ts:Array TypeId}(ho:o.op=.call { callee:=.value (.func f),args:=ps.toArray,argTypes:=ts })(hf:isFn P f=true) :
  (execOp a.eval o).run P w=.ok (.enter f (ps.map a.eval).toArray) w:=by
 simp[execOp,ho,resolve,Act.eval,Deferred.ofValue,invoke,Z0A hf]
theorem M1W(I:Inv c g s a w)(hK:∀g' s' a' w',Inv c g' s' a' w'->K s'->K' a' w')(hd:o.dst=some d)(hlt:d<c.nt)
  {f:FuncId} {xs:List X} {ps:List Operand} {ts:Array TypeId} (ho:o.op=.call { callee:=.value (.func f),args:=ps.toArray,argTypes:=ts }) (hf:isFn P f=true)
  (hx:xs.length=ps.length/\∀(i:Nat) (x:X) (p:Operand),xs[i]?=some x->ps[i]?=some p->chkX x p=true) (h:wop P (.cl d f xs) K s):o.wp P a w K' Q':=by
 simp only[wop]at h
 obtain⟨as,has,res,rows,hs,hrl,h⟩:=h
 exact O1S I hK hd hlt (L0g ho hf) (Z1j I hx has) hs hrl h
theorem Q1W(I:Inv c g s a w)(hK:∀g' s' a' w',Inv c g' s' a' w'->K s'->K' a' w')(hd:o.dst=some d)(hlt:d<c.nt)
  {f:FuncId} {xs:List X} {ps:List Operand} {ts:Array TypeId} (ho:o.op=.call { callee:=.value (.func f),args:=ps.toArray,argTypes:=ts }) (hf:isFn P f=true)
  (hx:xs.length=ps.length/\∀(i:Nat) (x:X) (p:Operand),xs[i]?=some x->ps[i]?=some p->chkX x p=true) (h:wop P (.cq d f xs) K s):o.wp P a w K' Q':=by
 simp only[wop]at h
 obtain⟨as,has,res,rows,hs,h⟩:=h
 exact M1C I hK hd hlt (L0g ho hf) (Z1j I hx has) hs h
theorem L1W(I:Inv c g s a w)(hK:∀g' s' a' w',Inv c g' s' a' w'->K s'->K' a' w')(hd:o.dst=some d)(hlt:d<c.nt)
  {fx:X} {fp:Operand} {xs:List X} {ps:List Operand} {ts:Array TypeId} (ho:o.op=.call { callee:=.value fp,args:=ps.toArray,argTypes:=ts })
  (hfx:chkX fx fp=true) (hx:xs.length=ps.length/\∀(i:Nat) (x:X) (p:Operand),xs[i]?=some x->ps[i]?=some p->chkX x p=true) (h:wop P (.cc d fx xs) K s):o.wp P a w K' Q':=by
 simp only[wop]at h
 obtain⟨as,has,f,cap,as',rfl,hf,res,rows,hs,h⟩:=h
 have hx':(fx::xs).length=(fp::ps).length/\∀(i:Nat) (x:X) (p:Operand),(fx::xs)[i]?=some x->(fp::ps)[i]?=some p->chkX x p=true:=by
  refine⟨by simp[hx.1],fun i x p h1 h2=>?_⟩
  cases i with
  |zero=>simp at h1 h2;subst h1;subst h2;exact hfx
  |succ i=>simp at h1 h2;exact hx.2 i x p h1 h2
 obtain⟨hl,hr⟩:=Z1j I hx' has
 simp only[List.map_cons,yT]at hl
 have hfn:=hr 0 _ (a.eval fp) rfl rfl
 generalize hv:a.eval fp=v at hfn
 cases hfn with
 |fn _ _ vs hlc hc =>
  have hrun:(execOp a.eval o).run P w=.ok (.enter f (ps.map a.eval++vs).toArray) w:=by
   simp[execOp,ho,resolve,hv,Deferred.ofValue,invoke,Z0A hf]
  refine M1C I hK hd hlt hrun ⟨by simp at hl ⊢;omega,fun i y u hy hu=>?_⟩ hs h
  have hpl:as'.length=(ps.map a.eval).length:=by simp at hl ⊢;omega
  by_cases hi:i<as'.length
  .rw[yK hi]at hy
   rw[yK (by omega)]at hu
   exact hr (i+1) y u (by simpa using hy) (by simpa using hu)
  .rw[yS (by omega)]at hy
   rw[yS (by omega)]at hu
   rw[← hpl]at hu
   exact hc _ y u hy hu
end ops
end
end
section
section
variable{P:Program}{c:Cx}{g:Gh}{s:St}{a:Act}{w:World}
theorem Rd.mp{S:Nat->Nat->Prop}{N:Tag->Nat->Value->Prop}(fb fr:Nat->Option Nat){x:AV}{v:Value}(h:Rd w S N x v):Rd w S N (x.mp fb fr) v:=by
 induction h with
 |bool b=>exact .bool b
 |int k n=>exact .int k n
 |str l=>exact .str l
 |nl=>exact .nl
 |sl0 t sz p q ho=>exact .sl0 _ _ _ _ ho
 |sl t sz es b o cc cv hc hm hs hw hn h _=>exact .sl t sz es b o cc cv hc hm hs hw hn h
 |ept e off b o cv hw h _=>exact .ept e off b o cv hw h
 |agg cs vs hl h1 h ih =>
  rw[AV.mp,JC]
  refine .agg _ vs (by simpa using hl) (fun y hy=>?_) (fun i y v hy hv=>?_)
  .obtain⟨y0,h0,rfl⟩:=yY hy
   obtain⟨i,hi,rfl⟩:=List.getElem_of_mem h0
   have hlt:i<vs.length:=by omega
   have hr:=h i _ _ (yA hi) (yA hlt)
   have h1':=h1 _ h0
   generalize cs[i]=z at *
   generalize vs[i]=u at *
   cases hr<;>simp_all [AV.mp,AV.one]
  .rw[yF]at hy
   obtain⟨y0,h0,rfl⟩:=yC hy
   exact ih i y0 v h0 hv
 |fn f cs vs hl h ih =>
  rw[AV.mp,JC]
  refine .fn f _ vs (by simpa using hl) (fun i y v hy hv=>?_)
  rw[yF]at hy
  obtain⟨y0,h0,rfl⟩:=yC hy
  exact ih i y0 v h0 hv
theorem M1w(fb fr:Nat->Option Nat){x:AV}(h:x.one=true\/x=.bad):(x.mp fb fr).one=true\/x.mp fb fr=.bad:=by
 rcases h with h|rfl
 .cases x with
  |sref j=>rw[AV.mp];split<;>simp[AV.one]
  |ptr j o=>rw[AV.mp];split<;>simp[AV.one]
  |rpt j i o=>rw[AV.mp];split<;>simp[AV.one]
  |_=>simp[AV.mp,AV.one]at h ⊢
 .right;rfl
theorem Gv.mp{w':World}{g':Gh}{s':St}{fb fr:Nat->Option Nat}(hS:∀b o,g.S b o->g'.S b o)(hN:TLe g.S g.T g'.T)(hc:∀b o,g.S b o->w'.cell? ⟨b,o,none⟩=w.cell? ⟨b,o,none⟩)
  (hr:∀i k,fr i=some k->∀r',s'.rw k=some r'->∃r,s.rw i=some r/\r'.sz=r.sz/\g'.rv k=g.rv i)
  (hb:∀i k,fb i=some k->∀c',s'.bx k=some c'->∃c,s.bx i=some c/\g'.bb k=g.bb i)
  {x:AV} {v:Value} (h:Gv w g s x v):Gv w' g' s' (x.mp fb fr) v:=by
 have mp:∀(cs:List AV) (vs:List Value),(∀(i:Nat) (x:AV) (v:Value),cs[i]?=some x->vs[i]?=some v->Gv w' g' s' (x.mp fb fr) v) ->
   ∀(i:Nat) (x:AV) (v:Value),(cs.map (AV.mp fb fr))[i]?=some x->vs[i]?=some v->Gv w' g' s' x v:=by
  intro cs vs ih i x v hx hv
  rw[yF]at hx
  obtain⟨x0,h0,rfl⟩:=yC hx
  exact ih i x0 v h0 hv
 induction h with
 |data x v h=>exact .data _ v ((h.mono hS hN hc).mp _ _)
 |bad v=>exact .bad v
 |und=>exact .und
 |sref i v h1 h =>
  rw[AV.mp];split
  .rename_i k hk
   refine .sref _ v h1 fun r' hr'=>?_
   obtain⟨r,q1,q2,q3⟩:=hr i k hk r' hr'
   rw[q3];exact h r q1
  .exact .bad v
 |ptr j off v h1 h =>
  rw[AV.mp];split
  .rename_i k hk
   refine .ptr _ _ v h1 fun c' hc'=>?_
   obtain⟨r,q1,q3⟩:=hb j k hk c' hc'
   rw[q3];exact h r q1
  .exact .bad v
 |rpt j i off v h1 h =>
  rw[AV.mp];split
  .rename_i k hk
   refine .rpt _ _ _ v h1 fun r' hr'=>?_
   obtain⟨r,q1,q2,q3⟩:=hr j k hk r' hr'
   rw[q3,q2];exact h r q1
  .exact .bad v
 |el ad=>exact .el ad
 |od=>exact .bad _
 |op=>exact .bad _
 |eot e off b o cv hw h=>exact .eot e off b o cv (fun j y hj=>⟨by rw[hc _ _ (hw j y hj).2.1];exact(hw j y hj).1,hS _ _ (hw j y hj).2.1,(hw j y hj).2.2⟩) (fun j y hj=>(h j y hj).mono hS hN hc)
 |agg cs vs hl h1 _ ih =>
  rw[AV.mp,JC]
  refine .agg _ vs (by simpa using hl) (fun y hy=>?_) (mp cs vs ih)
  obtain⟨y0,h0,rfl⟩:=yY hy
  exact M1w fb fr (h1 _ h0)
 |tup cs vs hl _ ih=>rw[AV.mp,JC];exact .tup _ vs (by simpa using hl) (mp cs vs ih)
 |fn f cs vs hl _ ih=>rw[AV.mp,JC];exact .fn f _ vs (by simpa using hl) (mp cs vs ih)
theorem OO.mp{w':World}{g':Gh}{s':St}{fb fr:Nat->Option Nat}{b b':Nat}{cs:List AV}(hS:∀b o,g.S b o->g'.S b o)(hN:TLe g.S g.T g'.T)(hc:∀b o,g.S b o->w'.cell? ⟨b,o,none⟩=w.cell? ⟨b,o,none⟩)
  (hr:∀i k,fr i=some k->∀r',s'.rw k=some r'->∃r,s.rw i=some r/\r'.sz=r.sz/\g'.rv k=g.rv i)
  (hb:∀i k,fb i=some k->∀c',s'.bx k=some c'->∃c,s.bx i=some c/\g'.bb k=g.bb i) (hh:w'.heap[b']?=w.heap[b]?)
  (h:OO w g s b cs):OO w' g' s' b' (mpL fb fr cs):=by
 obtain⟨vs,ty,h1,h2,h3⟩:=h
 refine⟨vs,ty,by rw[hh];exact h1,by rw[JC];simpa using h2,fun i x v hx hv=>?_⟩
 rw[JC,yF]at hx
 obtain⟨x0,h0,rfl⟩:=yC hx
 obtain⟨q1,q2,q3⟩:=h3 i x0 v h0 hv
 exact⟨M1w fb fr q1,q2,q3.mp hS hN hc hr hb⟩
theorem Q1v{x:AV}(h:x=.bad):x.rdt=.bad:=by subst h;rfl
def Gh.bare(g:Gh):Gh:={ g with S:=fun b o=>g.S b o/\¬ g.own b,ov:=fun _=>none }
theorem Gh.bare_rd(g:Gh)(z:Nat)(v:Value):g.bare.T .rd z v:=Gh.T_rd (fun _=>rfl) z v
theorem Gv.rdt(hr:∀z v,g.T .rd z v){x:AV}{v:Value}(h:Gv w g s x v):Gv w g s x.rdt v:=by
 have mp:∀(cs:List AV) (vs:List Value),(∀(i:Nat) (x:AV) (v:Value),cs[i]?=some x->vs[i]?=some v->Gv w g s x.rdt v) ->
   ∀(i:Nat) (x:AV) (v:Value),(cs.map AV.rdt)[i]?=some x->vs[i]?=some v->Gv w g s x v:=by
  intro cs vs ih i x v hx hv
  rw[yF]at hx
  obtain⟨x0,h0,rfl⟩:=yC hx
  exact ih i x0 v h0 hv
 induction h with
 |data x v h=>exact .data _ v (h.rdt hr)
 |bad v=>exact .bad v
 |und=>exact .und
 |sref i v h1 h=>exact .sref i v h1 h
 |ptr j off v h1 h=>exact .ptr j off v h1 h
 |rpt j i off v h1 h=>exact .rpt j i off v h1 h
 |el ad=>exact .el ad
 |eot e off b o cv hw h=>exact .eot e off b o cv hw h
 |od i ks a n c D hD h=>exact .od i ks a n c D hD h
 |op i ks off b o D cv hD hb hw h=>exact .op i ks off b o D cv hD hb hw h
 |agg cs vs hl h1 _ ih =>
  rw[AV.rdt,X3]
  refine .agg _ vs (by simpa using hl) (fun y hy=>?_) (mp cs vs ih)
  obtain⟨y0,h0,rfl⟩:=yY hy
  rcases h1 _ h0 with h|h
  .exact .inl (J0b h)
  .exact .inr (Q1v h)
 |tup cs vs hl _ ih=>rw[AV.rdt,X3];exact .tup _ vs (by simpa using hl) (mp cs vs ih)
 |fn f cs vs hl _ ih=>rw[AV.rdt,X3];exact .fn f _ vs (by simpa using hl) (mp cs vs ih)
theorem GE.rdt(a:AV):GE a a.rdt:=fun _ _ _ _ h hv=>hv.rdt fun z v=>Gh.T_rd h z v
theorem GEs.rdt(l:List AV):GEs l (l.map AV.rdt):=⟨by simp,fun i a b h h'=>by
 rw[yF,h]at h'
 cases h'
 exact .rdt _⟩
mutual
def AV.kod:AV->AV
 |.od _ _ _=>.bad
 |.op _ _ _=>.bad
 |.agg cs=>.agg (kodL cs)
 |.tup cs=>.tup (kodL cs)
 |.fn f cs=>.fn f (kodL cs)
 |a=>a
def kodL:List AV->List AV
 |[]=>[]
 |a::l=>AV.kod a::kodL l
end
theorem U03:∀l,kodL l=l.map AV.kod
 |[]=>rfl
 |a::l=>by rw[kodL,U03 l];rfl
mutual
theorem Y20(fb fr:Nat->Option Nat):∀x:AV,x.kod.mp fb fr=x.mp fb fr
 |.od _ _ _ | .op _ _ _ | .bool _ | .int _ _ | .str _ | .nl | .el | .ept _ _ | .eot _ _ | .und | .bad | .sl _ _ _ | .sref _ | .ptr _ _ | .rpt _ _ _=>by simp[AV.kod,AV.mp]
 |.tup cs=>by rw[AV.kod,AV.mp,AV.mp,W0M fb fr cs]
 |.agg cs=>by rw[AV.kod,AV.mp,AV.mp,W0M fb fr cs]
 |.fn f cs=>by rw[AV.kod,AV.mp,AV.mp,W0M fb fr cs]
theorem W0M(fb fr:Nat->Option Nat):∀l:List AV,mpL fb fr (kodL l)=mpL fb fr l
 |[]=>rfl
 |a::l=>by rw[kodL,mpL,mpL,Y20 fb fr a,W0M fb fr l]
end
mutual
theorem U1Z{fb fr:Nat->Option Nat}:∀{x:AV},(x.mp fb fr).noO->x.kod.noO
 |.bool _,_ | .int _ _,_ | .str _,_ | .nl,_ | .el,_ | .und,_ | .bad,_ | .sref _,_ | .ptr _ _,_ | .rpt _ _ _,_ | .od _ _ _,_ | .op _ _ _,_=>by simp[AV.kod,AV.noO]
 |.sl _ _ _,h | .ept _ _,h | .eot _ _,h=>by simpa[AV.mp,AV.kod]using h
 |.agg cs,h=>by simp only[AV.mp,AV.kod,AV.noO]at h ⊢;exact X0c h
 |.tup cs,h=>by simp only[AV.mp,AV.kod,AV.noO]at h ⊢;exact X0c h
 |.fn f cs,h=>by simp only[AV.mp,AV.kod,AV.noO]at h ⊢;exact X0c h
theorem X0c{fb fr:Nat->Option Nat}:∀{l:List AV},noOL (mpL fb fr l)->noOL (kodL l)
 |[],_=>by simp[kodL,noOL]
 |a::l,h=>by simp only[mpL,kodL,noOL]at h ⊢;exact⟨U1Z h.1,X0c h.2⟩
end
theorem Rd.kod{S:Nat->Nat->Prop}{T:Tag->Nat->Value->Prop}{x:AV}{v:Value}(h:Rd w S T x v):x.kod=x:=by
 have mp:∀(cs:List AV) (vs:List Value),cs.length=vs.length->(∀(i:Nat) (x:AV) (v:Value),cs[i]?=some x->vs[i]?=some v->x.kod=x)->kodL cs=cs:=by
  intro cs vs hl ih
  rw[U03]
  apply List.ext_getElem?
  intro i
  rw[yF]
  cases hc:cs[i]? with
  |none=>rfl
  |some x =>
   have hi:i<vs.length:=by rw[← hl];exact(yB hc).1
   rw[Option.map_some,ih i x vs[i] hc (yA hi)]
 induction h with
 |agg cs vs hl h1 _ ih=>rw[AV.kod,mp cs vs hl ih]
 |fn f cs vs hl _ ih=>rw[AV.kod,mp cs vs hl ih]
 |_=>rfl
theorem V1z{x:AV}(h:x.one=true\/x=.bad):x.kod.one=true\/x.kod=.bad:=by
 rcases h with h|rfl
 .cases x<;>simp_all [AV.kod,AV.one]
 .right;rfl
theorem Gv.kod{x:AV}{v:Value}(h:Gv w g s x v):Gv w g s x.kod v:=by
 have mp:∀(cs:List AV) (vs:List Value),(∀(i:Nat) (x:AV) (v:Value),cs[i]?=some x->vs[i]?=some v->Gv w g s x.kod v) ->
   ∀(i:Nat) (x:AV) (v:Value),(cs.map AV.kod)[i]?=some x->vs[i]?=some v->Gv w g s x v:=by
  intro cs vs ih i x v hx hv
  rw[yF]at hx
  obtain⟨x0,h0,rfl⟩:=yC hx
  exact ih i x0 v h0 hv
 induction h with
 |data x v h=>exact .data _ v (by rw[h.kod];exact h)
 |bad v=>exact .bad v
 |und=>exact .und
 |sref i v h1 h=>exact .sref i v h1 h
 |ptr j off v h1 h=>exact .ptr j off v h1 h
 |rpt j i off v h1 h=>exact .rpt j i off v h1 h
 |el ad=>exact .el ad
 |od=>exact .bad _
 |op=>exact .bad _
 |eot e off b o cv hw h=>exact .eot e off b o cv hw h
 |agg cs vs hl h1 _ ih =>
  rw[AV.kod,U03]
  refine .agg _ vs (by simpa using hl) (fun y hy=>?_) (mp cs vs ih)
  obtain⟨y0,h0,rfl⟩:=yY hy
  exact V1z (h1 _ h0)
 |tup cs vs hl _ ih=>rw[AV.kod,U03];exact .tup _ vs (by simpa using hl) (mp cs vs ih)
 |fn f cs vs hl _ ih=>rw[AV.kod,U03];exact .fn f _ vs (by simpa using hl) (mp cs vs ih)
theorem OO.kod{b:Nat}{cs:List AV}(h:OO w g s b cs):OO w g s b (kodL cs):=by
 obtain⟨vs,ty,h1,h2,h3⟩:=h
 refine⟨vs,ty,h1,by rw[U03];simpa using h2,fun i a v ha hv=>?_⟩
 rw[U03,yF]at ha
 obtain⟨x0,h0,rfl⟩:=yC ha
 exact⟨V1z (h3 i x0 v h0 hv).1,(h3 i x0 v h0 hv).2.1,(h3 i x0 v h0 hv).2.2.kod⟩
theorem J0L{x:AV}(h:x.noO):noOL x.cells:=by
 cases x with
 |agg cs=>simpa[AV.noO,AV.cells]using h
 |_=>exact⟨h,trivial⟩
theorem O9:∀{l:List AV},noOL l↔∀a∈l,a.noO
 |[]=>by simp[noOL]
 |a::l=>by simp[noOL,O9 (l:=l)]
theorem O13{es:List AV}(h:noOL es):noOL (flat es):=by
 rw[O9]at h ⊢
 intro a ha
 obtain⟨e,he,hae⟩:=List.mem_flatMap.1 ha
 exact O9.1 (J0L (h e he)) a hae
theorem Rd.bare{x:AV}{v:Value}(h:Rd w g.S g.T x v)(hn:x.noO):Rd w g.bare.S g.bare.T x v:=by
 induction h with
 |bool b=>exact .bool b
 |int k n=>exact .int k n
 |str l=>exact .str l
 |nl=>exact .nl
 |agg cs vs hl h1 _ ih=>exact .agg cs vs hl h1 fun i a v ha hv=>ih i a v ha hv (O9.1 (by simpa[AV.noO]using hn) a (yE ha))
 |fn f cs vs hl _ ih=>exact .fn f cs vs hl fun i a v ha hv=>ih i a v ha hv (O9.1 (by simpa[AV.noO]using hn) a (yE ha))
 |sl0 t sz a c ho=>exact .sl0 t sz a c fun i e=>by subst e;simp[AV.noO,Tag.isOwn]at hn
 |sl t sz es b o c cv hcc hm hs hw ho _ ih =>
  simp only[AV.noO]at hn
  refine .sl t sz es b o c cv hcc hm hs (fun j a hj=>⟨(hw j a hj).1,⟨(hw j a hj).2.1,Gh.T_to_rd (z':=0) (o':=0) (n':=0) (c':=0) hn.1 (hw j a hj).2.2.2 b rfl⟩,(hw j a hj).2.2.1,?_⟩) (fun i e=>by subst e;simp[Tag.isOwn]at hn) fun j a hj=>ih j a hj (O9.1 (O13 hn.2) a (yE hj))
  have:=(hw j a hj).2.2.2
  cases t with
  |rd=>exact g.bare_rd _ _
  |nw=>exact fun b' hb'=>⟨(this b' hb').1,fun q=>by obtain⟨_,_,e,_⟩:=q;cases e⟩
  |own i=>simp[Tag.isOwn]at hn
 |ept e off b o cv hw _ ih =>
  simp only[AV.noO]at hn
  exact .ept e off b o cv (fun j a hj=>⟨(hw j a hj).1,⟨(hw j a hj).2.1,(hw j a hj).2.2.2 b rfl⟩,(hw j a hj).2.2.1,g.bare_rd _ _⟩) fun j a hj=>ih j a hj (O9.1 (J0L hn) a (yE hj))
theorem Gv.bare{x:AV}{v:Value}(h:Gv w g s x v)(hn:x.noO):Gv w g.bare s x v:=by
 induction h with
 |data x v h=>exact .data _ v (h.bare hn)
 |bad v=>exact .bad v
 |und=>exact .und
 |sref i v h1 h=>exact .sref i v h1 h
 |ptr j off v h1 h=>exact .ptr j off v h1 h
 |rpt j i off v h1 h=>exact .rpt j i off v h1 h
 |el ad=>exact .el ad
 |od=>exact(show False from hn).elim
 |op=>exact(show False from hn).elim
 |eot e off b o cv hw h=>exact(show False from hn).elim
 |agg cs vs hl h1 _ ih=>exact .agg cs vs hl h1 fun i a v ha hv=>ih i a v ha hv (O9.1 (by simpa[AV.noO]using hn) a (yE ha))
 |tup cs vs hl _ ih=>exact .tup cs vs hl fun i a v ha hv=>ih i a v ha hv (O9.1 (by simpa[AV.noO]using hn) a (yE ha))
 |fn f cs vs hl _ ih=>exact .fn f cs vs hl fun i a v ha hv=>ih i a v ha hv (O9.1 (by simpa[AV.noO]using hn) a (yE ha))
theorem OO.bare{b:Nat}{cs:List AV}(h:OO w g s b cs)(hn:noOL cs):OO w g.bare s b cs:=by
 obtain⟨vs,ty,h1,h2,h3⟩:=h
 exact⟨vs,ty,h1,h2,fun i a v ha hv=>⟨(h3 i a v ha hv).1,(h3 i a v ha hv).2.1,(h3 i a v ha hv).2.2.bare (O9.1 hn a (yE ha))⟩⟩
theorem LI.bare{r:Row}{v:Value}(h:LI w g.S g.T r v)(hn:noOL r.es):LI w g.bare.S g.bare.T r v:=by
 obtain⟨xs,ty,h1,h2,h3⟩:=h
 exact⟨xs,ty,h1,h2,fun j a u ha hu=>⟨(h3 j a u ha hu).1,(h3 j a u ha hu).2.1,(h3 j a u ha hu).2.2.bare (O9.1 (O13 hn) a (yE ha))⟩⟩
theorem Inv.kill0(I:Inv c g s a w)(k:Nat):Inv c g (s.kill k) a w:=by
 have T:Turn (·≠k) w w g g s (s.kill k):=by
  refine⟨fun _ _ h=>h,fun _ h=>h,TLe.of (fun _ h=>h) rfl,fun _ _ _=>rfl,fun j hj r h=>⟨r,(X9 h).2,rfl,rfl⟩,fun j hj c' h=>?_,fun _ _ h=>h,J14⟩
  obtain⟨_,c0,h0,_⟩:=X6 h
  exact⟨c0,h0,rfl⟩
 refine⟨I.defers,I.nt,I.fr,fun i=>(I.tm i).turn_dead T,?_,?_,?_,?_,?_,?_,?_,I.sw,I.nn,I.nx,I.fix,I.sm,I.sb,I.ow.turn rfl (fun _ h=>h) (yV _) (fun _ _=>rfl) (fun j cs' h=>by obtain⟨_,c0,h0,_⟩:=X6 h;exact I.ow.bx j c0 h0) (fun j r h=>I.ow.rw j r (X9 h).2),I.uf,I.sd⟩
 .intro j cs' h
  obtain⟨_,c0,h0,rfl⟩:=X6 h
  exact V02 T (I.bxs j c0 h0)
 .intro j cs' h
  obtain⟨_,c0,h0,rfl⟩:=X6 h
  exact I.bxn j c0 h0
 .intro j r h;exact I.rws j r (X9 h).2
 .intro j r h;exact I.rwn j r (X9 h).2
 .intro j j' c1 c2 h1 h2 hne
  obtain⟨_,d1,h1',_⟩:=X6 h1
  obtain⟨_,d2,h2',_⟩:=X6 h2
  exact I.dbb j j' d1 d2 h1' h2' hne
 .intro j j' c1 r h1 h2
  obtain⟨_,d1,h1',_⟩:=X6 h1
  exact I.dbr j j' d1 r h1' (X9 h2).2
 .intro j j' r r' h1 h2 hne
  exact I.drr j j' r r' (X9 h1).2 (X9 h2).2 hne
theorem Inv.kill2:∀(ks:List Nat) {s:St},Inv c g s a w->Inv c g (s.kill2 ks) a w
 |[],_,I=>I
 |k::ks,_,I=>Inv.kill2 ks (I.kill0 k)
theorem W03:∀{ks:List Nat} {s:St} {j:Nat} {cs:List AV},(s.kill2 ks).bx j=some cs->j∉ks/\∃c0,s.bx j=some c0/\cs.length=c0.length
 |[],s,j,cs,h=>⟨by simp,cs,h,rfl⟩
 |k::ks,s,j,cs,h=>by
  obtain⟨h1,c0,h2,h3⟩:=W03 (ks:=ks) (s:=s.kill k) h
  obtain⟨h4,c1,h5,rfl⟩:=X6 h2
  exact⟨by simp[h1,h4],c1,h5,by rw[h3,Za];simp⟩
theorem Q03:∀{ks:List Nat} {s:St} {j:Nat} {r:Row},(s.kill2 ks).rw j=some r->j∉ks/\s.rw j=some r
 |[],s,j,r,h=>⟨by simp,h⟩
 |k::ks,s,j,r,h=>by
  obtain⟨h1,h2⟩:=Q03 (ks:=ks) (s:=s.kill k) h
  obtain⟨h4,h5⟩:=X9 h2
  exact⟨by simp[h1,h4],h5⟩
theorem V0n:∀{ks:List Nat} {s:St} {j:Nat} {c0:List AV},j∉ks->s.bx j=some c0->∃cs,(s.kill2 ks).bx j=some cs/\cs.length=c0.length
 |[],s,j,c0,_,h=>⟨c0,h,rfl⟩
 |k::ks,s,j,c0,hj,h=>by
  simp only[List.mem_cons,not_or]at hj
  obtain⟨cs,h1,h2⟩:=V0n (ks:=ks) (s:=s.kill k) (c0:=Z5 k c0) hj.2 (by simp[St.kill,hj.1,h])
  exact⟨cs,h1,by rw[h2,Za];simp⟩
theorem V0r:∀{ks:List Nat} {us:List (Option (List AV))} {k:Nat},k∈drops ks us->k∈ks
 |[],_,k,h=>by simp[drops]at h
 |_::_,[],k,h=>by simp[drops]at h
 |k0::ks,none::us,k,h=>by
  simp only[drops,List.mem_cons]at h ⊢
  rcases h with h|h
  .exact .inl h
  .exact .inr (V0r h)
 |k0::ks,some _::us,k,h=>by
  simp only[drops,List.mem_cons]at h ⊢
  exact .inr (V0r h)
theorem Q0R:∀{ks:List Nat} {us:List (Option (List AV))} {i k:Nat},ks[i]?=some k->us[i]?=some none->k∈drops ks us
 |[],_,i,k,h,_=>by simp at h
 |_::_,[],i,k,_,h=>by simp at h
 |k0::ks,u::us,0,k,h,h2=>by simp at h h2;subst h;subst h2;simp[drops]
 |k0::ks,u::us,i+1,k,h,h2=>by
  have:=Q0R (ks:=ks) (us:=us) (i:=i) (k:=k) (by simpa using h) (by simpa using h2)
  cases u<;>simp[drops,this]
theorem X1I:∀{ks:List Nat} {us:List (Option (List AV))} {k:Nat} {es:List AV},upf ks us k=some es->∃i:Nat,ks[i]?=some k/\us[i]?=some (some es)
 |[],_,k,es,h=>by simp[upf]at h
 |_::_,[],k,es,h=>by simp[upf]at h
 |k0::ks,u::us,k,es,h=>by
  simp only[upf]at h
  split at h
  .rename_i e;exact⟨0,by simp[e],by simp[h]⟩
  .obtain⟨i,h1,h2⟩:=X1I h
   exact⟨i+1,by simpa using h1,by simpa using h2⟩
theorem V11:∀{ks:List Nat} {us:List (Option (List AV))} {i k:Nat},ks.length=us.length->ks.Nodup->ks[i]?=some k->upf ks us k=none->us[i]?=some none
 |[],_,i,k,_,_,h,_=>by simp at h
 |_::_,[],i,k,h,_,_,_=>by simp at h
 |k0::ks,u::us,0,k,_,_,h,h2=>by simp at h;subst h;simp[upf]at h2;simp[h2]
 |k0::ks,u::us,i+1,k,hl,hn,h,h2=>by
  simp only[List.nodup_cons]at hn
  have hk:k∈ks:=yE (by simpa using h)
  have hne:k≠k0:=fun e=>hn.1 (e ▸ hk)
  simp only[upf,hne,yc]at h2
  simpa using V11 (by simpa using hl) hn.2 (by simpa using h) h2
theorem M0R:∀{ks:List Nat} {bs:List (List AV)} {k:Nat} {b:List AV},bxf ks bs k=some b->∃i:Nat,ks[i]?=some k/\bs[i]?=some b
 |[],_,k,b,h=>by simp[bxf]at h
 |_::_,[],k,b,h=>by simp[bxf]at h
 |k0::ks,u::us,k,b,h=>by
  simp only[bxf]at h
  split at h
  .rename_i e;exact⟨0,by simp[e],by simpa using h⟩
  .obtain⟨i,h1,h2⟩:=M0R h
   exact⟨i+1,by simpa using h1,by simpa using h2⟩
theorem L10{fb fr:Nat->Option Nat}:∀{ks:List Nat} {bs:List (List AV)},MI s fb fr ks bs->ks.length=bs.length/\∀(i k:Nat) (b:List AV),ks[i]?=some k->bs[i]?=some b->∃cs,s.bx k=some cs/\b=mpL fb fr cs
 |[],[],_=>⟨rfl,by intro i k b h;simp at h⟩
 |k0::ks,b0::bs,h=>by
  simp only[MI]at h
  obtain⟨h1,h2⟩:=L10 h.2
  refine⟨by simp[h1],fun i k b hk hb=>?_⟩
  cases i with
  |zero=>simp at hk hb;subst hk;subst hb;exact h.1
  |succ i=>exact h2 i k b (by simpa using hk) (by simpa using hb)
 |[],_::_,h=>h.elim
 |_::_,[],h=>h.elim
theorem J0R:∀{ks:List Nat} {rs:List Row},J0r s ks rs->ks.length=rs.length/\∀(i k:Nat) (r:Row),ks[i]?=some k->rs[i]?=some r->s.rw k=some r/\r.sh=false
 |[],[],_=>⟨rfl,by intro i k b h;simp at h⟩
 |k0::ks,b0::bs,h=>by
  simp only[J0r]at h
  obtain⟨h1,h2⟩:=J0R h.2.2
  refine⟨by simp[h1],fun i k b hk hb=>?_⟩
  cases i with
  |zero=>simp at hk hb;subst hk;subst hb;exact⟨h.1,h.2.1⟩
  |succ i=>exact h2 i k b (by simpa using hk) (by simpa using hb)
 |[],_::_,h=>h.elim
 |_::_,[],h=>h.elim
theorem Y0n:∀{rin:List Row} {upd:List (Option (List AV))} {new:List Row} {i:Nat} {r:Row} {u:Option (List AV)},rin[i]?=some r->upd[i]?=some u->(V7 rin upd new)[i]?=some (u.map fun es=>{ r with es:=es })
 |[],_,_,i,r,u,h,_=>by simp at h
 |_::_,[],_,i,r,u,_,h=>by simp at h
 |r0::rs,u0::us,new,0,r,u,h1,h2=>by simp at h1 h2;subst h1;subst h2;simp[V7]
 |r0::rs,u0::us,new,i+1,r,u,h1,h2=>by
  simp only[V7,List.getElem?_cons_succ]
  exact Y0n (by simpa using h1) (by simpa using h2)
theorem X0n:∀{rin:List Row} {upd:List (Option (List AV))} {new:List Row} {j:Nat},upd.length=rin.length->(V7 rin upd new)[rin.length+j]?=(new[j]?).map some
 |[],[],new,j,_=>by simp[V7]
 |r::rs,u::us,new,j,h=>by
  rw[yT,show rs.length+1+j=(rs.length+j)+1 by omega]
  simp only[V7,List.getElem?_cons_succ]
  exact X0n (by simpa using h)
 |[],_::_,_,_,h=>by simp at h
 |_::_,[],_,_,h=>by simp at h
theorem Inv.reboxes(I:Inv c g s a w)(f:Nat->Option (List AV))(h:∀k cs',f k=some cs'->(∃cs,s.bx k=some cs)/\OO w g s (g.bb k) cs') :
    Inv c g { s with bx:=fun j=>match f j with|some cs=>some cs|none=>s.bx j } a w:=by
  have hbx:∀k cs',(match f k with|some cs=>some cs|none=>s.bx k)=some cs'->(∃cs,s.bx k=some cs)/\OO w g s (g.bb k) cs':=by
    intro k cs' hk
    split at hk
    · rename_i cs e;cases hk;exact h k _ e
    · exact⟨⟨cs',hk⟩,I.bxs k cs' hk⟩
  have T:Turn (fun _=>True) w w g g s { s with bx:=fun j=>match f j with|some cs=>some cs|none=>s.bx j } :=
    ⟨fun _ _ h=>h,fun _ h=>h,TLe.of (fun _ h=>h) rfl,fun _ _ _=>rfl,fun j _ r h=>⟨r,h,rfl,rfl⟩,fun j _ c' h=>by obtain⟨⟨c0,h0⟩,_⟩:=hbx j c' h;exact⟨c0,h0,rfl⟩,fun _ _ h=>h,J14⟩
  refine⟨I.defers,I.nt,I.fr,fun i=>(I.tm i).turn T,fun k cs hk=>(hbx k cs hk).2.turn T rfl,fun k cs hk=>?_,I.rws,I.rwn,fun k k' c1 c2 h1 h2 hne=>?_,fun k k' c1 r h1 h2=>?_,I.drr,I.sw,I.nn,I.nx,I.fix,I.sm,I.sb,I.ow.turn rfl (fun _ h=>h) (yV _) (fun _ _=>rfl) (fun k cs hk=>by obtain⟨⟨c0,h0⟩,_⟩:=hbx k cs hk;exact I.ow.bx k c0 h0) I.ow.rw,I.uf,I.sd⟩
  · obtain⟨⟨c0,h0⟩,_⟩:=hbx k cs hk;exact I.bxn k c0 h0
  · obtain⟨⟨d1,e1⟩,_⟩:=hbx k c1 h1
    obtain⟨⟨d2,e2⟩,_⟩:=hbx k' c2 h2
    exact I.dbb k k' d1 d2 e1 e2 hne
  · obtain⟨⟨d1,e1⟩,_⟩:=hbx k c1 h1
    exact I.dbr k k' d1 r e1 h2
end
end
section
section
variable{P:Program}{c:Cx}{g:Gh}{s:St}{a:Act}{w:World}
theorem Inv.switch(I:Inv c g s a w){w':World}{S':Nat->Nat->Prop}{D:Nat->Prop}{ov':Nat->Option (Nat->Prop)}{n1:Nat}(bks rks:List Nat)(upd:List (Option (List AV)))
  (hK:Kept D w w') (hD:∀b,D b->Wr c g b/\(∀o,¬ g.S b o))
  (hS1:∀b o,g.S b o->S' b o) (hS2:∀b o,S' b o->g.S b o\/w.heap.size<=b\/D b) (hS3:∀b o,S' b o->b<w'.heap.size)
  (hbx:∀k cs,k∈bks->s.bx k=some cs->OO w' { g with S:=S',ov:=ov' } s (g.bb k) (List.replicate cs.length .bad))
  (hbn:∀k cs,k∈bks->s.bx k=some cs->∀o,¬ S' (g.bb k) o)
  (hbo:∀k cs,k∉bks->s.bx k=some cs->¬ D (g.bb k))
  (_:∀k r,k∈drops rks upd->s.rw k=some r->False)
  (hru:∀k r es,upf rks upd k=some es->s.rw k=some r->r.sh=false/\LI w' S' ({ g with S:=S',ov:=ov' }:Gh).T { r with es:=es } (g.rv k)/\∀b,(g.rv k).ownBlock=some b->∀o,¬ S' b o)
  (hro:∀k r,upf rks upd k=none->s.rw k=some r->∀b,(g.rv k).ownBlock=some b->¬ D b)
  (hDo:∀b,D b->¬ g.own b) (hn:s.nx<=n1) (ho:∀i,i<s.nx->ov' i=g.ov i)
  (hoN:∀i E,s.nx<=i->ov' i=some E->i<n1/\(∀b,E b->b<w'.heap.size)/\∀b,E b->(w.heap.size<=b\/D b)/\g.N b)
  (hoD:∀i j E E',s.nx<=i->s.nx<=j->ov' i=some E->ov' j=some E'->i≠j->∀b,E b->¬ E' b)
  (hoB:∀k cs,k∈bks->s.bx k=some cs->∀i E,s.nx<=i->ov' i=some E->¬ E (g.bb k))
  (hoR:∀k r es,upf rks upd k=some es->s.rw k=some r->∀i E,s.nx<=i->ov' i=some E->∀b,(g.rv k).ownBlock=some b->¬ E b)
  (huf:∀b o,S' b o->g.S b o\/UnfB w' b) (hoU:∀i E,s.nx<=i->ov' i=some E->∀b,E b->UnfB w' b) :
  Inv c { g with S:=S',ov:=ov' } { e:=s.e,bx:=fun j=>if j∈bks then(s.bx j).map (fun cs=>List.replicate cs.length .bad)else s.bx j,rw:=fun j=>match upf rks upd j with|some es=>(s.rw j).map (fun r=>{ r with es:=es })|none=>s.rw j,nx:=n1,my:=s.my,kn:=s.kn } a w':=by
 have oSp:∀b,({ g with S:=S',ov:=ov' }:Gh).own b->g.own b\/∃i E,s.nx<=i/\ov' i=some E/\E b:=fun b q=>by
  obtain⟨i,E,h1,h2⟩:=q
  have h1':ov' i=some E:=h1
  rcases Nat.lt_or_ge i s.nx with hi|hi
  .exact .inl ⟨i,E,by rw[← ho i hi];exact h1',h2⟩
  .exact .inr ⟨i,E,hi,h1',h2⟩
 have oNew:∀b i E,s.nx<=i->ov' i=some E->E b->∀o,¬ g.S b o:=fun b i E hi h hb o hs=>by
  rcases((hoN i E hi h).2.2 b hb).1 with q|q
  .have:=I.sw b o hs;omega
  .exact(hD b q).2 o hs
 have tle:TLe g.S g.T ({ g with S:=S',ov:=ov' }:Gh).T:=by
  refine⟨fun t z b o n cc hs h=>?_,fun i z v h=>?_⟩
  .obtain⟨o',hs⟩:=hs
   have nown:¬ g.own b->¬ ({ g with S:=S',ov:=ov' }:Gh).own b:=fun q1 q2=>by
    rcases oSp b q2 with q|⟨i,E,q3,q4,q5⟩
    .exact q1 q
    .exact oNew b i E q3 q4 q5 o' hs
   cases t with
   |rd=>exact fun b' hb'=>by cases hb';exact nown (h _ rfl)
   |nw=>exact fun b' hb'=>by cases hb';exact⟨(h _ rfl).1,nown (h _ rfl).2⟩
   |own i =>
    obtain⟨E,h1,h2⟩:=h
    exact⟨E,(ho i (I.ow.lt i _ h1)).trans h1,h2⟩
  .obtain⟨E,h1,h2⟩:=h
   exact⟨E,(ho i (I.ow.lt i _ h1)).trans h1,h2⟩
 have hcell:∀b o,g.S b o->w'.cell? ⟨b,o,none⟩=w.cell? ⟨b,o,none⟩:=fun b o ho=>World.cell?_of_block (hK.block b (I.sw b o ho) (fun hd=>(hD b hd).2 o ho))
 have hbx':∀k cs',(if k∈bks then(s.bx k).map (fun cs=>List.replicate cs.length .bad)else s.bx k)=some cs'->∃cs,s.bx k=some cs/\((k∈bks/\cs'=List.replicate cs.length .bad)\/(k∉bks/\cs'=cs)):=by
  intro k cs' h
  split at h
  .rename_i hk
   obtain⟨cs,h1,rfl⟩:=yC h
   exact⟨cs,h1,.inl ⟨hk,rfl⟩⟩
  .rename_i hk;exact⟨cs',h,.inr ⟨hk,rfl⟩⟩
 have hrw':∀k r',(match upf rks upd k with|some es=>(s.rw k).map (fun r=>{ r with es:=es })|none=>s.rw k)=some r' ->
   ∃r,s.rw k=some r/\r'.sz=r.sz/\r'.sh=r.sh/\((∃es,upf rks upd k=some es/\r'={ r with es:=es })\/(upf rks upd k=none/\r'=r)):=by
  intro k r' h
  split at h
  .rename_i es e
   obtain⟨r,h1,rfl⟩:=yC h
   exact⟨r,h1,rfl,rfl,.inl ⟨es,e,rfl⟩⟩
  .rename_i e;exact⟨r',h,rfl,rfl,.inr ⟨e,rfl⟩⟩
 have T:Turn (fun _=>True) w w' g { g with S:=S',ov:=ov' } s { e:=s.e,bx:=fun j=>if j∈bks then(s.bx j).map (fun cs=>List.replicate cs.length .bad)else s.bx j,rw:=fun j=>match upf rks upd j with|some es=>(s.rw j).map (fun r=>{ r with es:=es })|none=>s.rw j,nx:=n1,my:=s.my,kn:=s.kn }:=by
  refine⟨hS1,fun _ h=>h,tle,hcell,fun k _ r' h=>?_,fun k _ c' h=>?_,fun i E h=>(ho i (I.ow.lt i E h)).trans h,J0M fun b hb=>hK.block b (I.ow.size hb) fun hd=>hDo b hd hb⟩
  .obtain⟨r,h1,h2,_,_⟩:=hrw' k r' h;exact⟨r,h1,h2,rfl⟩
  .obtain⟨cs,h1,_⟩:=hbx' k c' h;exact⟨cs,h1,rfl⟩
 refine⟨I.defers,I.nt,⟨hK.os.trans I.fr.os,hK.tape.trans I.fr.tape,hK.output.trans I.fr.output,Nat.le_trans I.fr.size hK.size,?_⟩,fun i=>(I.tm i).turn T,?_,?_,?_,?_,?_,?_,?_,hS3,I.nn,I.nx,I.fix,fun b o h=>hS1 b o (I.sm b o h),fun b o h=>?_,?_,fun b o h q=>(huf b o h).elim (fun h=>(I.uf b o h q).block (hK.block b (I.sw b o h) fun hd=>(hD b hd).2 o h)) id,fun b o h q=>(hS2 b o h).elim (fun h=>I.sd b o h q) fun h=>h.elim (fun h=>by have:=I.ow.size (I.ow.dd b q);omega) fun h=>hDo b h (I.ow.dd b q)⟩
 .intro b hb hx
  rw[hK.block b (Nat.lt_of_lt_of_le hb I.fr.size) (fun hd=>hx ((hD b hd).1.2 hb))]
  exact I.fr.block b hb hx
 .intro k cs' h
  obtain⟨cs,h1,h2⟩:=hbx' k cs' h
  rcases h2 with⟨hk,rfl⟩|⟨hk,rfl⟩
  .obtain⟨vs,ty,q1,q2,q3⟩:=hbx k cs hk h1
   refine⟨vs,ty,q1,q2,fun i x v hx hv=>⟨(q3 i x v hx hv).1,(q3 i x v hx hv).2.1,?_⟩⟩
   rw[List.getElem?_replicate]at hx
   split at hx
   .cases hx;exact .bad v
   .cases hx
  .exact(I.bxs k cs' h1).turn T (hK.block _ (Q0k (I.bxs k cs' h1)) (hbo k cs' hk h1))
 .intro k cs' h
  obtain⟨cs,h1,_⟩:=hbx' k cs' h
  refine⟨(I.bxn k cs h1).1,fun o ho=>?_⟩
  rcases hS2 _ _ ho with h|h|h
  .exact(I.bxn k cs h1).2 o h
  .have:=Q0k (I.bxs k cs h1);exact absurd h (Nat.not_le.2 this)
  .by_cases hk:k∈bks
   .exact hbn k cs hk h1 o ho
   .exact hbo k cs hk h1 h
 .intro k r' h
  obtain⟨r,h1,_,_,h2⟩:=hrw' k r' h
  rcases h2 with⟨es,e,rfl⟩|⟨e,rfl⟩
  .exact(hru k r es e h1).2.1
  .exact(I.rws k r' h1).mono hS1 tle hcell (fun b hb=>hK.block b (XT (I.rws k r' h1) hb) (hro k r' e h1 b hb))
 .intro k r' h b hb
  obtain⟨r,h1,_,_,h2⟩:=hrw' k r' h
  refine⟨(I.rwn k r h1 b hb).1,fun o ho=>?_⟩
  have hg:g.S b o:=by
   rcases hS2 _ _ ho with h|h|h
   .exact h
   .have:=XT (I.rws k r h1) hb;exact absurd h (Nat.not_le.2 this)
   .rcases h2 with⟨es,e,rfl⟩|⟨e,rfl⟩
    .exact absurd ho ((hru k r es e h1).2.2 b hb o)
    .exact absurd h (hro k r' e h1 b hb)
  have:=(I.rwn k r h1 b hb).2 o hg
  rcases h2 with⟨es,e,rfl⟩|⟨e,rfl⟩
  .rw[(hru k r es e h1).1]at this;cases this.1
  .exact this
 .intro k k' c1 c2 h1 h2 hne
  obtain⟨d1,e1,_⟩:=hbx' k c1 h1
  obtain⟨d2,e2,_⟩:=hbx' k' c2 h2
  exact I.dbb k k' d1 d2 e1 e2 hne
 .intro k k' c1 r h1 h2
  obtain⟨d1,e1,_⟩:=hbx' k c1 h1
  obtain⟨r0,e2,_⟩:=hrw' k' r h2
  exact I.dbr k k' d1 r0 e1 e2
 .intro k k' r r' h1 h2 hne
  obtain⟨r0,e1,_⟩:=hrw' k r h1
  obtain⟨r1,e2,_⟩:=hrw' k' r' h2
  exact I.drr k k' r0 r1 e1 e2 hne
 .rcases hS2 _ _ h with h|h|h
  .exact I.sb b o h
  .exact .inr (.inl (Nat.le_trans I.fr.size h))
  .rcases Nat.lt_or_ge b c.w0.heap.size with hl|hl
   .exact .inr (.inr ((hD b h).1.2 hl))
   .exact .inr (.inl hl)
 .have oldlt:∀{b},g.own b->b<w.heap.size:=fun q=>I.ow.size q
  refine⟨⟨fun i E h=>?_,fun i E h=>?_,fun i j E E' h1 h2 hne b hb=>?_,fun k cs' h q=>?_,fun k r' h b hb q=>?_,fun i E h b hb=>?_⟩,fun i E h hi b hb=>?_,I.ow.mm,Nat.le_trans I.ow.n0 hn,fun i hi=>(ho i (Nat.lt_of_lt_of_le hi I.ow.n0)).trans (I.ow.old i hi),fun b hb=>?_,fun i hi=>⟨Nat.lt_of_lt_of_le (I.ow.kn i hi).1 hn,fun E h=>(I.ow.kn i hi).2 E (by rw[← ho i (I.ow.kn i hi).1];exact h)⟩,fun b o v hb hv=>?_⟩
  .have h':ov' i=some E:=h
   rcases Nat.lt_or_ge i s.nx with hi|hi
   .exact Nat.lt_of_lt_of_le hi hn
   .exact(hoN i E hi h').1
  .have h':ov' i=some E:=h
   rcases Nat.lt_or_ge i s.nx with hi|hi
   .rw[ho i hi]at h'
    exact fun b hb=>⟨Nat.lt_of_lt_of_le (I.ow.own i E h' b hb).1 hK.size,(I.ow.own i E h' b hb).2⟩
   .exact fun b hb=>⟨(hoN i E hi h').2.1 b hb,((hoN i E hi h').2.2 b hb).2⟩
  .have h1':ov' i=some E:=h1
   have h2':ov' j=some E':=h2
   rcases Nat.lt_or_ge i s.nx with hi|hi<;>rcases Nat.lt_or_ge j s.nx with hj|hj
   .rw[ho i hi]at h1';rw[ho j hj]at h2'
    exact I.ow.dis i j E E' h1' h2' hne b hb
   .intro e
    rw[ho i hi]at h1'
    rcases((hoN j E' hj h2').2.2 b e).1 with q|q
    .have:=oldlt ⟨i,E,h1',hb⟩;omega
    .exact hDo b q ⟨i,E,h1',hb⟩
   .intro e
    rw[ho j hj]at h2'
    rcases((hoN i E hi h1').2.2 b hb).1 with q|q
    .have:=oldlt ⟨j,E',h2',e⟩;omega
    .exact hDo b q ⟨j,E',h2',e⟩
   .exact hoD i j E E' hi hj h1' h2' hne b hb
  .obtain⟨cs,h1,h2⟩:=hbx' k cs' h
   rcases oSp _ q with q|⟨i,E,q3,q4,q5⟩
   .exact I.ow.bx k cs h1 q
   .by_cases hk:k∈bks
    .exact hoB k cs hk h1 i E q3 q4 q5
    .rcases((hoN i E q3 q4).2.2 _ q5).1 with q|q
     .have:=Q0k (I.bxs k cs h1);exact absurd q (Nat.not_le.2 this)
     .exact hbo k cs hk h1 q
  .obtain⟨r,h1,_,_,h2⟩:=hrw' k r' h
   rcases oSp _ q with q|⟨i,E,q3,q4,q5⟩
   .exact I.ow.rw k r h1 b hb q
   .rcases h2 with⟨es,e,rfl⟩|⟨e,rfl⟩
    .exact hoR k r es e h1 i E q3 q4 b hb q5
    .rcases((hoN i E q3 q4).2.2 _ q5).1 with q|q
     .have:=XT (I.rws k r' h1) hb;omega
     .exact hro k r' e h1 b hb q
  .have h':ov' i=some E:=h
   rcases Nat.lt_or_ge i s.nx with hi'|hi'
   .rw[ho i hi']at h'
    exact(I.ow.uf i E h' b hb).block (hK.block b (oldlt ⟨i,E,h',hb⟩) fun hd=>hDo b hd ⟨i,E,h',hb⟩)
   .exact hoU i E hi' h' b hb
  .have h':ov' i=some E:=h
   rcases Nat.lt_or_ge i s.nx with hi'|hi'
   .rw[ho i hi']at h';exact I.ow.my i E h' hi b hb
   .obtain⟨q1,q2⟩:=(hoN i E hi' h').2.2 b hb
    refine⟨q2,fun hlt=>?_⟩
    rcases q1 with q|q
    .have:=I.fr.size;omega
    .exact(hD b q).1.2 hlt
  .obtain⟨i,E,h1,h2⟩:=I.ow.dd b hb
   exact⟨i,E,(ho i (I.ow.lt i E h1)).trans h1,h2⟩
  .have q:=I.ow.dd b hb
   obtain⟨v',h1,h2⟩:=I.ow.dk b o v hb hv
   exact⟨v',by rw[World.cell?_of_block (hK.block b (oldlt q) fun hd=>hDo b hd q)];exact h1,h2⟩
theorem Inv.addrowsX:∀(rows:List Row) (k:Nat) (val:Nat->Value) (g:Gh) (s:St),Inv c g s a w ->
  (∀(i:Nat) (r:Row),rows[i]?=some r->LI w g.S g.T r (val i)/\∀b,(val i).ownBlock=some b->Vac c g s b)->k+rows.length<1000000000 ->
  (∀(i j:Nat) (r r':Row),rows[i]?=some r->rows[j]?=some r'->i≠j->∀b,(val i).ownBlock=some b->(val j).ownBlock≠some b) ->
  ∃g',Inv c g' (s.addrows k rows) a w/\g'.S=g.S/\(g'.N=g.N/\g'.bb=g.bb/\g'.ov=g.ov)/\(∀i,i<rows.length->g'.rv (k+i)=val i)/\(∀j,j<k->g'.rv j=g.rv j)/\∀j,k+rows.length<=j->g'.rv j=g.rv j
 |[],k,val,g,s,I,_,_,_=>⟨g,I,rfl,⟨rfl,rfl,rfl⟩,by simp,fun _ _=>rfl,fun _ _=>rfl⟩
 |r::rs,k,val,g,s,I,h,hkb,hd=>by
  obtain⟨h0,hv0⟩:=h 0 r rfl
  have I1:=I.addrow k r (val 0) h0 hv0 (by simp at hkb;omega)
  obtain⟨g',I2,e1,e2,e3,e4,e5⟩:=Inv.addrowsX rs (k+1) (fun i=>val (i+1)) _ _ I1 (fun i r' hi=>by
   obtain⟨q1,q2⟩:=h (i+1) r' hi
   refine⟨by simpa using q1,fun b hb=>?_⟩
   have V:=q2 b hb
   refine⟨V.S,fun j cs hj=>?_,fun j r'' hj=>?_,V.N,V.O⟩
   .obtain⟨_,c0,hc0,_⟩:=X6 hj;exact V.bx j c0 hc0
   .by_cases hjk:j=k
    .subst hjk
     simp only[yb]
     exact fun e=>hd 0 (i+1) r r' rfl hi (by omega) b e hb
    .simp only[hjk,yc]at hj ⊢
     exact V.rw j r'' (X9 hj).2) (by simp at hkb;omega) (fun i j r1 r2 hi hj hne=>hd (i+1) (j+1) r1 r2 hi hj (by omega))
  refine⟨g',I2,e1,e2,fun i hi=>?_,fun j hj=>?_,fun j hj=>?_⟩
  .cases i with
   |zero=>rw[Nat.add_zero,e4 k (by omega)];simp
   |succ i=>rw[show k+(i+1)=k+1+i by omega];exact e3 i (by simpa using hi)
  .rw[e4 j (by omega)];simp[show j≠k by omega]
  .simp only[yT]at hj
   rw[e5 j (by omega)];simp[show j≠k by omega]
section ops
variable{o:Oper}{d:Nat}{K:St->Prop}{K':Act->World->Prop}{Q':Exit->Act->World->Prop}
theorem O0v:∀{ks:List Nat} {us:List (Option (List AV))} {b n i k:Nat} {es:List AV},QT ks us b n->ks[i]?=some k->us[i]?=some (some es)->k<b\/b+n<=k
 |[],_,b,n,i,k,es,_,h,_=>by simp at h
 |_::_,[],b,n,i,k,es,_,_,h=>by simp at h
 |k0::ks,u::us,b,n,0,k,es,h,h1,h2=>by simp at h1 h2;subst h1;subst h2;exact h.1
 |k0::ks,some _::us,b,n,i+1,k,es,h,h1,h2=>O0v h.2 (by simpa using h1) (by simpa using h2)
 |k0::ks,none::us,b,n,i+1,k,es,h,h1,h2=>O0v (show QT ks us b n from h) (by simpa using h1) (by simpa using h2)
theorem QO:∀{rows:List Row} {k j:Nat} {s:St},(j<k\/k+rows.length<=j)->(s.addrows k rows).rw j=s.rw j
 |[],k,j,s,_=>rfl
 |r::rs,k,j,s,h=>by
  have hne:j≠k:=by rcases h with h|h;omega;simp at h;omega
  rw[St.addrows,QO (by rcases h with h|h;exact .inl (by omega);simp at h;exact .inr (by omega))]
  simp[St.kill,hne]
theorem W0k:∀{rows:List Row} {k i:Nat} {s:St} {r:Row},rows[i]?=some r->(s.addrows k rows).rw (k+i)=some r
 |[],k,i,s,r,h=>by simp at h
 |r0::rs,k,0,s,r,h=>by
  simp at h;subst h
  rw[St.addrows,Nat.add_zero,QO (.inl (by omega))]
  simp
 |r0::rs,k,i+1,s,r,h=>by
  rw[St.addrows,show k+(i+1)=(k+1)+i by omega]
  exact W0k (by simpa using h)
theorem J04:∀{rows:List Row} {k j:Nat} {s:St} {cs:List AV},(j<k\/k+rows.length<=j)->s.bx j=some cs->∃c0,(s.addrows k rows).bx j=some c0
 |[],k,j,s,cs,_,h=>⟨cs,h⟩
 |r::rs,k,j,s,cs,hj,h=>by
  have hne:j≠k:=by rcases hj with h|h;omega;simp at h;omega
  rw[St.addrows]
  exact J04 (cs:=Z5 k cs) (by rcases hj with h|h;exact .inl (by omega);simp at h;exact .inr (by omega)) (by simp[St.kill,hne,h])
theorem W1S(I:Inv c g s a w)(hK:∀g' s' a' w',Inv c g' s' a' w'->K s'->K' a' w')(hd:o.dst=some d)(hlt:d<c.nt)
    {f:FuncId} {xs:List X} {ps:List Operand} {bks rks:List Nat} {bin:List (List AV)} {rin:List Row} {Φ:Nat->AV->List (List AV)->List (Option (List AV))->List Row->Prop}
    (hrun:(execOp a.eval o).run P w=.ok (.enter f (ps.map a.eval).toArray) w)
    (hx:xs.length=ps.length/\∀(i:Nat) (x:X) (p:Operand),xs[i]?=some x->ps[i]?=some p->chkX x p=true)
    {as:List AV} (hnd:(bks++rks).Nodup) (hb:MI s (ix bks) (ix rks) bks bin) (hr:J0r s rks rin) (hno:(∀b∈bin,noOL b)/\(∀r∈rin,noOL r.es)/\∀x∈xs,(s.get x).noO)
    (hge:GEs (xs.map fun x=>(s.get x).mp (ix bks) (ix rks)) as) (hC:ConN P f s.nx as bin rin Φ)
    (h:∀n1 res bout upd new,s.nx<=n1->bout.map List.length=bin.map List.length->upd.length=rin.length->Φ n1 res bout upd new ->
        new.length<=1000/\QT rks upd (1000*d+1000) new.length/\X0q (1000*d+1000) new.length bks/\K (afterM s n1 d bks rks res bout upd new)):o.wp P a w K' Q':=by
  obtain⟨hb1,hb2⟩:=L10 hb
  obtain⟨hr1,hr2⟩:=J0R hr
  have hndb:bks.Nodup:=(List.nodup_append.1 hnd).1
  have hndr:rks.Nodup:=(List.nodup_append.1 hnd).2.1
  have hdis:∀k,k∈bks->k∉rks:=fun k h1 h2=>(List.nodup_append.1 hnd).2.2 k h1 k h2 rfl
  let G:Gh:={ S:=g.bare.S,N:=g.N,bb:=fun i=>g.bb (bks.getD i 0),rv:=fun i=>g.rv (rks.getD i 0) }
  have eB:∀i k,bks[i]?=some k->G.bb i=g.bb k:=fun i k h=>by simp[G,List.getD_eq_getElem?_getD,h]
  have eR:∀i k,rks[i]?=some k->G.rv i=g.rv k:=fun i k h=>by simp[G,List.getD_eq_getElem?_getD,h]
  have bkey:∀i cs,(hSt s.nx bin (rin.map some)).bx i=some cs->∃k c0,bks[i]?=some k/\s.bx k=some c0/\cs=mpL (ix bks) (ix rks) c0:=by
    intro i cs h
    have h':bin[i]?=some cs:=h
    have hi:i<bks.length:=by rw[hb1];exact(yB h').1
    obtain⟨c0,q1,q2⟩:=hb2 i bks[i] cs (yA hi) h'
    exact⟨bks[i],c0,yA hi,q1,q2⟩
  have rkey:∀i r,(hSt s.nx bin (rin.map some)).rw i=some r->∃k,rks[i]?=some k/\s.rw k=some r/\r.sh=false/\rin[i]?=some r:=by
    intro i r h
    have h':rin[i]?=some r:=by
      simp only[hSt,yF]at h
      cases hh:rin[i]? with
      |none=>simp[hh]at h
      |some r0=>simpa[hh]using h
    have hi:i<rks.length:=by rw[hr1];exact(yB h').1
    obtain⟨q1,q2⟩:=hr2 i rks[i] r (yA hi) h'
    exact⟨rks[i],yA hi,q1,q2,h'⟩
  have toR:∀i k,ix rks i=some k->∀r',(hSt s.nx bin (rin.map some)).rw k=some r'->∃r,s.rw i=some r/\r'.sz=r.sz/\G.rv k=g.rv i:=by
    intro i k hik r' hr'
    obtain⟨k',h1,h2,_⟩:=rkey k r' hr'
    have:=L1F hik
    rw[this]at h1;cases h1
    exact⟨r',h2,rfl,eR k i this⟩
  have toB:∀i k,ix bks i=some k->∀c',(hSt s.nx bin (rin.map some)).bx k=some c'->∃c,s.bx i=some c/\G.bb k=g.bb i:=by
    intro i k hik c' hc'
    obtain⟨k',c0,h1,h2,_⟩:=bkey k c' hc'
    have:=L1F hik
    rw[this]at h1;cases h1
    exact⟨c0,h2,eB k i this⟩
  have H:Heap w G (hSt s.nx bin (rin.map some)):=by
    refine⟨fun i cs h=>?_,fun i cs h=>?_,fun i r h=>?_,fun i r h=>?_,fun i i' cs cs' h h' hne=>?_,fun i i' cs r h h'=>?_,fun i i' r r' h h' hne b hb'=>?_,fun b o h=>I.sw b o h.1,⟨fun i E h=>(by cases h),fun i E h=>(by cases h),fun i j E E' h=>(by cases h),fun k cs h q=>(by obtain⟨_,_,e,_⟩:=q;cases e),fun k r h b hb q=>(by obtain⟨_,_,e,_⟩:=q;cases e),fun i E h=>(by cases h)⟩⟩
    · obtain⟨k,c0,h1,h2,rfl⟩:=bkey i cs h
      rw[eB i k h1]
      rw[← W0M]
      exact((I.bxs k c0 h2).kod.bare (X0c (hno.1 _ (yE h)))).mp (g:=g.bare) (s:=s) (g':=G) (s':=hSt s.nx bin (rin.map some)) (fun _ _ h=>h) (TLe.of (fun _ h=>h) rfl) (fun _ _ _=>rfl) toR toB rfl
    · obtain⟨k,c0,h1,h2,rfl⟩:=bkey i cs h
      rw[eB i k h1]
      exact⟨(I.bxn k c0 h2).1.1,fun o h=>(I.bxn k c0 h2).2 o h.1⟩
    · obtain⟨k,h1,h2,_,h4⟩:=rkey i r h
      rw[eR i k h1];exact(I.rws k r h2).bare (hno.2.1 r (yE h4))
    · obtain⟨k,h1,h2,h3,_⟩:=rkey i r h
      rw[eR i k h1]
      refine⟨h3,fun b hb'=>⟨(I.rwn k r h2 b hb').1.1,fun o ho=>?_⟩⟩
      have:=((I.rwn k r h2 b hb').2 o ho.1).1
      rw[h3]at this;cases this
    · obtain⟨k,c0,h1,h2,_⟩:=bkey i cs h
      obtain⟨k',c1,h1',h2',_⟩:=bkey i' cs' h'
      rw[eB i k h1,eB i' k' h1']
      refine I.dbb k k' c0 c1 h2 h2' (fun e=>hne ?_)
      subst e
      exact(List.getElem?_inj (yB h1).1 hndb).1 (by rw[h1,h1'])
    · obtain⟨k,c0,h1,h2,_⟩:=bkey i cs h
      obtain⟨k',h1',h2',_⟩:=rkey i' r h'
      rw[eB i k h1,eR i' k' h1']
      exact I.dbr k k' c0 r h2 h2'
    · obtain⟨k,h1,h2,_⟩:=rkey i r h
      obtain⟨k',h1',h2',_⟩:=rkey i' r' h'
      rw[eR i k h1]at hb';rw[eR i' k' h1']
      refine I.drr k k' r r' h2 h2' (fun e=>hne ?_) b hb'
      subst e
      exact(List.getElem?_inj (yB h1).1 hndr).1 (by rw[h1,h1'])
  have hasl:as.length=ps.length:=by rw[← hge.1,List.length_map];exact hx.1
  have hargs:∀(i:Nat) (y:AV) (v:Value),as[i]?=some y->(ps.map a.eval)[i]?=some v->Gv w G (hSt s.nx bin (rin.map some)) y v:=by
    intro i y v hy hv
    rw[yF]at hv
    obtain⟨p0,hp0,rfl⟩:=yC hv
    obtain⟨x0,h0⟩:∃x0,xs[i]?=some x0:=⟨_,yA (by rw[hx.1];exact(yB hp0).1)⟩
    refine hge.2 i _ y (by rw[yF,h0];rfl) hy w G _ _ (fun _=>rfl) ?_
    exact((I.get (hx.2 i x0 p0 h0 hp0)).bare (hno.2.2 x0 (yE h0))).mp (g:=g.bare) (s:=s) (g':=G) (s':=hSt s.nx bin (rin.map some)) (fun _ _ h=>h) (TLe.of (fun _ h=>h) rfl) (fun _ _ _=>rfl) toR toB
  have hc:=hC w G (ps.map a.eval) H (fun b hb'=>I.nn b (Nat.le_trans I.fr.size hb')) (by simp[hasl]) hargs
  unfold Oper.wp
  rw[hrun,Oper.upon_enter]
  refine hc.mono fun e w' hq=>?_
  obtain⟨v,rfl,hKp,n1,res,bout,upd,new,hn01,hΦ,hbl,hul,g',hS2,hN,hbb,hrv,H',hnb,hov0,hovn,hgv⟩:=hq
  simp only[hd]
  obtain⟨hn1,hn2,hn3,hk⟩:=h n1 res bout upd new hn01 hbl hul hΦ
  have hbl':bout.length=bin.length:=by simpa using congrArg List.length hbl
  have hulr:rks.length=upd.length:=by rw[hr1,hul]
  have ownOf:∀b,OwnB G bin.length rin.length b->(∃k c0,k∈bks/\s.bx k=some c0/\g.bb k=b)\/(∃k r,k∈rks/\s.rw k=some r/\r.sh=false/\(g.rv k).ownBlock=some b):=by
    intro b hb'
    rcases hb' with⟨i,hi,e⟩|⟨i,hi,e⟩
    · obtain⟨k,c0,h1,h2,_⟩:=bkey i bin[i] (yA hi)
      rw[eB i k h1]at e
      exact .inl ⟨k,c0,yE h1,h2,e⟩
    · obtain⟨k,h1,h2,h3,_⟩:=rkey i rin[i] (by simp[hSt,yA hi])
      rw[eR i k h1]at e
      exact .inr ⟨k,rin[i],yE h1,h2,h3,e⟩
  have hD:∀b,OwnB G bin.length rin.length b->Wr c g b/\∀o,¬ g.S b o:=by
    intro b hb'
    rcases ownOf b hb' with⟨k,c0,_,h2,rfl⟩|⟨k,r,_,h2,h3,e⟩
    · exact I.bxn k c0 h2
    · refine⟨(I.rwn k r h2 b e).1,fun o ho=>?_⟩
      have:=((I.rwn k r h2 b e).2 o ho).1
      rw[h3]at this;cases this
  have I1:=I.kill2 (drops rks upd)
  have hDo:∀b,OwnB G bin.length rin.length b->¬ g.own b:=by
    intro b hb'
    rcases ownOf b hb' with⟨k,c0,_,h2,rfl⟩|⟨k,r,_,h2,h3,e⟩
    · exact I.ow.bx k c0 h2
    · exact I.ow.rw k r h2 b e
  let ov':Nat->Option (Nat->Prop):=fun i=>if i<s.nx then g.ov i else g'.ov i
  have ovl:∀i,i<s.nx->ov' i=g.ov i:=fun i hi=>yd hi
  have ovg:∀i E,s.nx<=i->ov' i=some E->g'.ov i=some E:=fun i E hi h=>by
    have:ov' i=g'.ov i:=ye (by omega)
    rw[← this];exact h
  have gown:∀b,¬ g'.own b->(∃o',g'.S b o')->¬ ({ g with S:=fun b o=>g.S b o\/g'.S b o,ov:=ov' }:Gh).own b:=by
    intro b h1 ⟨o',h2⟩ ⟨i,E,h3,h4⟩
    have h3':ov' i=some E:=h3
    rcases Nat.lt_or_ge i s.nx with hi|hi
    · rw[ovl i hi]at h3'
      have ho:g.own b:=⟨i,E,h3',h4⟩
      rcases(hS2 b o' h2).1 with q|q|q
      · exact q.2 ho
      · have:=I.ow.size ho;omega
      · exact hDo b q ho
    · exact h1 ⟨i,E,ovg i E hi h3',h4⟩
  have tleC:TLe g'.S g'.T ({ g with S:=fun b o=>g.S b o\/g'.S b o,ov:=ov' }:Gh).T:=by
    have own:∀i z v,g'.T (.own i) z v->({ g with S:=fun b o=>g.S b o\/g'.S b o,ov:=ov' }:Gh).T (.own i) z v:=fun i z v h=>by
      obtain⟨E,h',h2⟩:=h
      refine⟨E,?_,h2⟩
      rcases Nat.lt_or_ge i s.nx with hi|hi
      · rw[hov0 i hi]at h';cases h'
      · show(if i<s.nx then g.ov i else g'.ov i)=_
        rw[ye (by omega)];exact h'
    refine⟨fun t z b o n cc hs h=>?_,fun i z v h=>own i z v h⟩
    cases t with
    |rd=>exact fun b' hb'=>by cases hb';exact gown b (h _ rfl) hs
    |nw=>exact fun b' hb'=>by cases hb';exact⟨hN _ (h _ rfl).1,gown b (h _ rfl).2 hs⟩
    |own i=>exact own i z _ h
  have kept:∀k r es,upf rks upd k=some es->s.rw k=some r->∃i,rks[i]?=some k/\upd[i]?=some (some es)/\rin[i]?=some r/\r.sh=false/\(hSt n1 bout (V7 rin upd new)).rw i=some { r with es:=es }/\g'.rv i=g.rv k:=by
    intro k r es he hk'
    obtain⟨i,h1,h2⟩:=X1I he
    have hi:i<rin.length:=by rw[← hr1];exact(yB h1).1
    obtain⟨q1,q2⟩:=hr2 i k rin[i] h1 (yA hi)
    rw[hk']at q1;cases q1
    refine⟨i,h1,h2,yA hi,q2,?_,by rw[hrv i es h2,eR i k h1]⟩
    simp only[hSt,Y0n (yA hi) h2]
    rfl
  have boxat:∀k,k∈bks->∃i,bks[i]?=some k/\∃cs,bout[i]?=some cs/\(hSt n1 bout (V7 rin upd new)).bx i=some cs/\g'.bb i=g.bb k/\∃c0,s.bx k=some c0/\cs.length=c0.length:=by
    intro k hk'
    obtain⟨i,hi,e⟩:=List.getElem_of_mem hk'
    have h1:bks[i]?=some k:=by rw[yA hi,e]
    have hib:i<bout.length:=by omega
    have hii:i<bin.length:=by omega
    obtain⟨c0,q1,q2⟩:=hb2 i k bin[i] h1 (yA hii)
    refine⟨i,h1,bout[i],yA hib,yA hib,by rw[hbb i hii,eB i k h1],c0,q1,?_⟩
    have:=congrArg (fun l:List Nat=>l[i]?) hbl
    simp only[yF,yA hib,yA hii,Option.map_some,yI]at this
    rw[this,q2,JC];simp
  have knx:∀(ks:List Nat) (s:St),(s.kill2 ks).nx=s.nx:=by
    intro ks
    induction ks with
    |nil=>intro s;rfl
    |cons k ks ih=>intro s;exact ih (s.kill k)
  have kkn:∀(ks:List Nat) (s:St),(s.kill2 ks).kn=s.kn:=by
    intro ks
    induction ks with
    |nil=>intro s;rfl
    |cons k ks ih=>intro s;exact ih (s.kill k)
  have kmy:∀(ks:List Nat) (s:St),(s.kill2 ks).my=s.my:=by
    intro ks
    induction ks with
    |nil=>intro s;rfl
    |cons k ks ih=>intro s;exact ih (s.kill k)
  have I2:=I1.switch (w':=w') (S':=fun b o=>g.S b o\/g'.S b o) (D:=OwnB G bin.length rin.length) (ov':=ov') (n1:=n1) bks rks upd hKp hD (fun _ _ h=>.inl h)
    (fun b o h=>h.elim .inl (fun h=>(hS2 b o h).1.elim (fun q=>.inl q.1) .inr)) (fun b o h=>h.elim (fun h=>Nat.lt_of_lt_of_le (I.sw b o h) hKp.size) (fun h=>H'.sw b o h))
    (fun k cs hk' hcs=>by
      obtain⟨_,c0,h0,hl⟩:=W03 hcs
      obtain⟨i,h1,cs',h2,h3,h4,c0',h0',hl'⟩:=boxat k hk'
      rw[h0]at h0';cases h0'
      obtain⟨vs,ty,q1,q2,q3⟩:=H'.bxs i cs' h3
      rw[h4]at q1
      refine⟨vs,ty,q1,by simp;omega,fun j x u hx hu=>?_⟩
      rw[List.getElem?_replicate]at hx
      split at hx
      · cases hx
        have hj:j<cs'.length:=by rw[← q2];exact(yB hu).1
        exact⟨.inr rfl,(q3 j _ u (yA hj) hu).2.1,.bad u⟩
      · cases hx)
    (fun k cs hk' hcs o ho=>by
      obtain⟨_,c0,h0,hl⟩:=W03 hcs
      obtain⟨i,h1,cs',h2,h3,h4,_⟩:=boxat k hk'
      rcases ho with ho|ho
      · exact(I.bxn k c0 h0).2 o ho
      · exact(H'.bxn i cs' h3).2 o (by rw[h4];exact ho))
    (fun k cs hk' hcs hown=>by
      obtain⟨_,c0,h0,_⟩:=W03 hcs
      rcases ownOf _ hown with⟨k',c1,q1,q2,q3⟩|⟨k',r,q1,q2,_,q3⟩
      · exact I.dbb k' k c1 c0 q2 h0 (fun e=>hk' (e ▸ q1)) q3
      · exact I.dbr k k' c0 r h0 q2 q3)
    (fun k r hk' hr'=>absurd hk' (Q03 hr').1)
    (fun k r es he hr'=>by
      obtain⟨_,hr0⟩:=Q03 hr'
      obtain⟨i,h1,h2,h3,h4,h5,h6⟩:=kept k r es he hr0
      have:=H'.rws i _ h5
      rw[h6]at this
      refine⟨h4,this.mono (fun _ _ h=>.inr h) tleC (fun _ _ _=>rfl) (fun _ _=>rfl),fun b hb' o ho=>?_⟩
      rcases ho with ho|ho
      · have:=((I.rwn k r hr0 b hb').2 o ho).1
        rw[h4]at this;cases this
      · exact((H'.rwn i _ h5).2 b (by rw[h6];exact hb')).2 o ho)
    (fun k r he hr' b hb' hown=>by
      obtain⟨hnd',hr0⟩:=Q03 hr'
      rcases ownOf _ hown with⟨k',c1,q1,q2,q3⟩|⟨k',r',q1,q2,_,q3⟩
      · exact I.dbr k' k c1 r q2 hr0 (by rw[hb',q3])
      · by_cases e:k=k'
        · subst e
          obtain⟨i,hi,e⟩:=List.getElem_of_mem q1
          exact hnd' (Q0R (by rw[yA hi,e]) (V11 hulr hndr (by rw[yA hi,e]) he))
        · exact I.drr k k' r r' hr0 q2 e b hb' q3)
    hDo (by rw[knx];exact hn01) (fun i hi=>ovl i (by rw[knx]at hi;exact hi))
    (fun i E hi h=>by
      rw[knx]at hi
      have h':=ovg i E hi h
      exact⟨H'.ow.lt i E h',fun b hb'=>(H'.ow.own i E h' b hb').1,fun b hb'=>⟨hovn i E hi h' b hb',hN b (H'.ow.own i E h' b hb').2⟩⟩)
    (fun i j E E' hi hj h1 h2 hne=>by
      rw[knx]at hi hj
      exact H'.ow.dis i j E E' (ovg i E hi h1) (ovg j E' hj h2) hne)
    (fun k cs hk' hcs i E hi h e=>by
      rw[knx]at hi
      obtain⟨_,c0,h0,hl⟩:=W03 hcs
      obtain⟨i',h1,cs',h2,h3,h4,_⟩:=boxat k hk'
      exact H'.ow.bx i' cs' h3 ⟨i,E,ovg i E hi h,by rw[h4];exact e⟩)
    (fun k r es he hr' i E hi h b hb' e=>by
      rw[knx]at hi
      obtain⟨_,hr0⟩:=Q03 hr'
      obtain⟨i',h1,h2,h3,h4,h5,h6⟩:=kept k r es he hr0
      exact H'.ow.rw i' _ h5 b (by rw[h6];exact hb') ⟨i,E,ovg i E hi h,e⟩)
    (fun b o h=>h.elim .inl fun h=>(hS2 b o h).1.elim (fun q=>.inl q.1) fun q=>.inr ((hS2 b o h).2 q))
    (fun i E hi h b hb'=>by
      rw[knx]at hi
      exact H'.ow.uf i E (ovg i E hi h) b hb')
  have rw2:∀k r',({ setRows s bks rks upd with nx:=n1 }:St).rw k=some r'->(∃i es r,rks[i]?=some k/\upd[i]?=some (some es)/\(hSt n1 bout (V7 rin upd new)).rw i=some r'/\g'.rv i=g.rv k/\s.rw k=some r)\/(k∉rks/\s.rw k=some r'):=by
    intro k r' h'
    simp only[setRows]at h'
    split at h'
    · rename_i es he
      obtain⟨r,h1,rfl⟩:=yC h'
      obtain⟨_,h2⟩:=Q03 h1
      obtain⟨i,q1,q2,q3,q4,q5,q6⟩:=kept k r es he h2
      exact .inl ⟨i,es,r,q1,q2,q5,q6,h2⟩
    · rename_i he
      obtain⟨h1,h2⟩:=Q03 h'
      refine .inr ⟨fun hm=>?_,h2⟩
      obtain⟨i,hi,e⟩:=List.getElem_of_mem hm
      exact h1 (Q0R (by rw[yA hi,e]) (V11 hulr hndr (by rw[yA hi,e]) he))
  have newrow:∀j r,new[j]?=some r->(hSt n1 bout (V7 rin upd new)).rw (rin.length+j)=some r:=by
    intro j r hj
    simp only[hSt,X0n hul,hj]
    rfl
  obtain⟨g3,I3,e1,e2,e3,e4,e5⟩:=Inv.addrowsX new (1000*d+1000) (fun j=>g'.rv (rin.length+j)) { g with S:=fun b o=>g.S b o\/g'.S b o,ov:=ov' } { setRows s bks rks upd with nx:=n1 } (by rw[kmy,kkn]at I2;exact I2) (fun j r hj=>by
    have hj':=newrow j r hj
    refine⟨(H'.rws _ _ hj').mono (fun _ _ h=>.inr h) tleC (fun _ _ _=>rfl) (fun _ _=>rfl),fun b hb'=>?_⟩
    have hsn:=(H'.rwn _ _ hj').2 b hb'
    have hbnd:=XT (H'.rws _ _ hj') hb'
    refine⟨fun o ho=>?_,fun k cs hk'=>?_,fun k r' hk'=>?_,?_,fun⟨i,E,q3,q4⟩=>?_⟩
    · rcases ho with ho|ho
      · rcases hnb j r hj b hb' with h'|h'
        · have:=I.sw b o ho;omega
        · exact(hD b h').2 o ho
      · exact hsn.2 o ho
    · have:∃c0,s.bx k=some c0/\(k∈bks\/k∉bks):=by
        simp only[setRows]at hk'
        split at hk'
        · rename_i hm
          obtain⟨c1,h1,_⟩:=yC hk'
          obtain⟨_,c0,h0,_⟩:=W03 h1
          exact⟨c0,h0,.inl hm⟩
        · rename_i hm
          obtain⟨_,c0,h0,_⟩:=W03 hk'
          exact⟨c0,h0,.inr hm⟩
      obtain⟨c0,h0,hm⟩:=this
      rcases hm with hm|hm
      · obtain⟨i,q1,cs',q2,q3,q4,_⟩:=boxat k hm
        show g.bb k≠b
        rw[← q4]
        exact fun e=>H'.dbr i (rin.length+j) cs' r q3 hj' (by rw[hb',e])
      · rcases hnb j r hj b hb' with h'|h'
        · show g.bb k≠b
          have:=Q0k (I.bxs k c0 h0)
          omega
        · show g.bb k≠b
          intro e
          rcases ownOf _ h' with⟨k',c1,q1,q2,q3⟩|⟨k',r',q1,q2,_,q3⟩
          · exact I.dbb k' k c1 c0 q2 h0 (fun e'=>hm (e' ▸ q1)) (by rw[q3,e])
          · exact I.dbr k k' c0 r' h0 q2 (by rw[q3,e])
    · show(g.rv k).ownBlock≠some b
      rcases rw2 k r' hk' with⟨i,es,r0,q1,q2,q3,q4,q5⟩|⟨q1,q2⟩
      · rw[← q4]
        exact fun e=>H'.drr i (rin.length+j) r' r q3 hj' (by have:=(yB q1).1;omega) b e hb'
      · rcases hnb j r hj b hb' with h'|h'
        · intro e
          have:=XT (I.rws k r' q2) e
          omega
        · intro e
          rcases ownOf _ h' with⟨k',c1,p1,p2,p3⟩|⟨k',r1,p1,p2,_,p3⟩
          · exact I.dbr k' k c1 r' p2 q2 (by rw[e,p3])
          · exact I.drr k k' r' r1 q2 p2 (fun e'=>q1 (e' ▸ p1)) b e p3
    · refine⟨hN b hsn.1,fun hlt'=>?_⟩
      rcases hnb j r hj b hb' with h'|h'
      · have:=I.fr.size;omega
      · exact(hD b h').1.2 hlt'
    · have q3':ov' i=some E:=q3
      rcases Nat.lt_or_ge i s.nx with hi|hi
      · rw[ovl i hi]at q3'
        have ho:g.own b:=⟨i,E,q3',q4⟩
        rcases hnb j r hj b hb' with h'|h'
        · have:=I.ow.size ho;omega
        · exact hDo b h' ho
      · exact H'.ow.rw _ _ hj' b hb' ⟨i,E,ovg i E hi q3',q4⟩) (by have:=c.ntb;omega) (fun i j r r' hi hj hne b hb'=>H'.drr _ _ r r' (newrow i r hi) (newrow j r' hj) (by omega) b hb')
  have nR:∀i k,frB rks upd (1000*d+1000) new.length i=some k->∀r',(({ setRows s bks rks upd with nx:=n1 }:St).addrows (1000*d+1000) new).rw k=some r'->∃r,(hSt n1 bout (V7 rin upd new)).rw i=some r/\r'.sz=r.sz/\g3.rv k=g'.rv i:=by
    intro i k hik r' hr'
    simp only[frB]at hik
    split at hik
    · rename_i hi
      split at hik
      · rename_i es hu
        have hcl:=O0v hn2 hik hu
        rw[QO hcl]at hr'
        have hkr:=yE hik
        rcases rw2 k r' hr' with⟨i',es',r0,q1,q2,q3,q4,q5⟩|⟨q1,q2⟩
        · have:i'=i:=(List.getElem?_inj (yB q1).1 hndr).1 (by rw[q1,hik])
          subst this
          refine⟨r',q3,rfl,?_⟩
          rw[q4]
          rcases hcl with hcl|hcl
          · exact e4 k hcl
          · exact e5 k hcl
        · exact absurd hkr q1
      · cases hik
    · rename_i hi
      split at hik
      · rename_i hin
        cases hik
        have hj:new[i-rks.length]?=some new[i-rks.length]:=yA hin
        rw[W0k hj]at hr'
        cases hr'
        have:=newrow _ _ hj
        rw[show rin.length+(i-rks.length)=i by omega]at this
        refine⟨_,this,rfl,?_⟩
        rw[e3 _ hin,show rin.length+(i-rks.length)=i by omega]
      · cases hik
  have nB:∀i k,fbB bks i=some k->∀c',(({ setRows s bks rks upd with nx:=n1 }:St).addrows (1000*d+1000) new).bx k=some c'->∃c,(hSt n1 bout (V7 rin upd new)).bx i=some c/\g3.bb k=g'.bb i:=by
    intro i k hik c' hc'
    obtain⟨i',h1,cs,h2,h3,h4,_⟩:=boxat k (yE hik)
    have:i'=i:=(List.getElem?_inj (yB h1).1 hndb).1 (by rw[h1];exact hik.symm)
    subst this
    exact⟨cs,h3,by rw[h4,e2.2.1]⟩
  have nS:∀b o,g'.S b o->g3.S b o:=fun b o h=>by rw[e1];exact .inr h
  have nN:TLe g'.S g'.T g3.T:=by rw[Gh.T_eq (g:=({ g with S:=fun b o=>g.S b o\/g'.S b o,ov:=ov' }:Gh)) e2.1 e2.2.2];exact tleC
  have I4:=I3.reboxes (bxf bks (bout.map (mpL (fbB bks) (frB rks upd (1000*d+1000) new.length)))) (fun k cs' hk'=>by
    obtain⟨i,h1,h2⟩:=M0R hk'
    rw[yF]at h2
    obtain⟨cs,h3,rfl⟩:=yC h2
    have hm:=yE h1
    obtain⟨i',q1,cs2,q2,q3,q4,c0,q5,_⟩:=boxat k hm
    have hii:i'=i:=(List.getElem?_inj (yB q1).1 hndb).1 (by rw[q1,h1])
    subst hii
    rw[q2]at h3;cases h3
    refine⟨?_,?_⟩
    · obtain⟨c1,hc1,_⟩:=V0n (ks:=drops rks upd) (fun hd'=>hdis k hm (V0r hd')) q5
      exact J04 (hn3 k hm) (cs:=List.replicate c1.length .bad) (by simp[setRows,hm,hc1])
    · have hh:=H'.bxs i' cs q3
      rw[e2.2.1]
      show OO w' g3 _ (g.bb k) _
      rw[← q4]
      exact hh.mp nS nN (fun _ _ _=>rfl) nR nB rfl)
  refine hK _ _ _ _ (I4.put hlt (x:=res.mp (fbB bks) (frB rks upd (1000*d+1000) new.length)) (v:=v) ?_) hk
  have T:Turn (fun _=>True) w' w' g3 g3 (({ setRows s bks rks upd with nx:=n1 }:St).addrows (1000*d+1000) new) (Mb (({ setRows s bks rks upd with nx:=n1 }:St).addrows (1000*d+1000) new) bks (bout.map (mpL (fbB bks) (frB rks upd (1000*d+1000) new.length)))) :=
    ⟨fun _ _ h=>h,fun _ h=>h,TLe.of (fun _ h=>h) rfl,fun _ _ _=>rfl,fun j _ r h=>⟨r,h,rfl,rfl⟩,fun j _ c' h=>by
      simp only[Mb]at h
      split at h
      · rename_i cs e
        obtain⟨i,h1,_⟩:=M0R e
        have hm:=yE h1
        obtain⟨_,_,_,_,_,_,c0,q5,_⟩:=boxat j hm
        obtain⟨c1,hc1,_⟩:=V0n (ks:=drops rks upd) (fun hd'=>hdis j hm (V0r hd')) q5
        obtain⟨c2,hc2⟩:=J04 (hn3 j hm) (s:={ setRows s bks rks upd with nx:=n1 }) (cs:=List.replicate c1.length .bad) (by simp[setRows,hm,hc1])
        exact⟨c2,hc2,rfl⟩
      · exact⟨c',h,rfl⟩,fun _ _ h=>h,J14⟩
  exact(hgv.mp nS nN (fun _ _ _=>rfl) nR nB).turn T
theorem O1W(I:Inv c g s a w)(hK:∀g' s' a' w',Inv c g' s' a' w'->K s'->K' a' w')(hd:o.dst=some d)(hlt:d<c.nt)
  {f:FuncId} {xs:List X} {ps:List Operand} {ts:Array TypeId} (ho:o.op=.call { callee:=.value (.func f),args:=ps.toArray,argTypes:=ts }) (hf:isFn P f=true)
  (hx:xs.length=ps.length/\∀(i:Nat) (x:X) (p:Operand),xs[i]?=some x->ps[i]?=some p->chkX x p=true) (h:wop P (.cm d f xs) K s):o.wp P a w K' Q':=by
 simp only[wop]at h
 obtain⟨bks,rks,bin,rin,as,h1,h2,h3,h6,h7,Φ,h4,h5⟩:=h
 exact W1S I hK hd hlt (L0g ho hf) hx h1 h2 h3 h6 h7 h4 h5
theorem Q1S(I:Inv c g s a w)(hK:∀g' s' a' w',Inv c g' s' a' w'->K s'->K' a' w')(hd:o.dst=some d)(hlt:d<c.nt)
  {f:FuncId} {as:List AV} {Ψ:List AV->Prop} {vs:List Value} (hrun:(execOp a.eval o).run P w=.ok (.enter f vs.toArray) w)
  (hvs:vs.length=as.length/\∀(i:Nat) (y:AV) (v:Value),as[i]?=some y->vs[i]?=some v->Rd w g.bare.S rdT y v)
  (hs:SndB P f as Ψ) (h:∀cs,Ψ cs->K (St.set { s.kill d with bx:=fun j=>if j=d then some (Z5 d cs)else(s.kill d).bx j } d (.ptr d 0))):o.wp P a w K' Q':=by
 have hc:=hs w g.bare.S rdT vs (fun b o h=>I.sw b o h.1) hvs.1 hvs.2
 unfold Oper.wp
 rw[hrun,Oper.upon_enter]
 refine hc.mono fun e w' hq=>?_
 obtain⟨b,rfl,hb,hge,cs,hΨ,S2,us,ty,hS2,hnb,hblk,hlen,hcell⟩:=hq
 simp only[hd]
 have I1:=I.grow (w':=w') (S':=fun b o=>g.S b o\/S2 b o) hb.os hb.tape hb.output hb.size (fun k hk=>hb.block k hk) (fun _ _ h=>.inl h) (fun b o h=>by
  rcases h with h|h
  .exact .inl h
  .exact(hS2 b o h).imp (fun h=>h.1) fun h=>⟨h.1,h.2.1⟩) (fun b o h=>h.elim .inl fun h=>(hS2 b o h).imp (fun h=>h.1) fun h=>h.2.2)
 have V:=I.vac hge
 have tl:TLe S2 rdT g.T:=by
  refine⟨fun t z b o n cc hs' h=>?_,fun i z v h=>(by cases h)⟩
  have e:t=.rd:=h
  subst e
  obtain⟨o',hs'⟩:=hs'
  intro b' hb' q
  cases hb'
  rcases hS2 _ o' hs' with r|r
  .exact r.2 q
  .have:=I.ow.size q;have:=r.1;simp only at *;omega
 have I2:=I1.addbox d b cs ⟨us,ty,hblk,hlen,fun i x u hx hu=>by
  obtain⟨q1,q2,q3⟩:=hcell i x u hx hu
  exact⟨.inl q1,q2,.data _ _ (q3.mono (fun _ _ h=>.inr h) tl (fun _ _ _=>rfl))⟩⟩ ⟨fun o' ho'=>by
   rcases ho' with ho'|ho'
   .exact V.S o' ho'
   .exact hnb o' ho',V.bx,V.rw,V.N,V.O⟩ (by have:=c.ntb;omega)
 refine hK _ _ _ _ (I2.put hlt (x:=.ptr d 0) (v:=.pointer (some ⟨b,0,none⟩)) (.ptr d 0 _ rfl fun cs' _=>by simp)) (h cs hΨ)
theorem W1W(I:Inv c g s a w)(hK:∀g' s' a' w',Inv c g' s' a' w'->K s'->K' a' w')(hd:o.dst=some d)(hlt:d<c.nt)
  {f:FuncId} {xs:List X} {ps:List Operand} {ts:Array TypeId} (ho:o.op=.call { callee:=.value (.func f),args:=ps.toArray,argTypes:=ts }) (hf:isFn P f=true)
  (hx:xs.length=ps.length/\∀(i:Nat) (x:X) (p:Operand),xs[i]?=some x->ps[i]?=some p->chkX x p=true) (h:wop P (.cn d f xs) K s):o.wp P a w K' Q':=by
 simp only[wop]at h
 obtain⟨as,has,hns,hno,Ψ,hs,h⟩:=h
 refine Q1S I hK hd hlt (L0g ho hf) ?_ hs h
 unfold St.args at has
 split at has
 .rename_i l hl
  cases has
  have hlen:=O18 hl
  rw[X3]
  refine⟨by simp at hlen ⊢;omega,fun i y v hy hv=>?_⟩
  rw[yF]at hy hv
  obtain⟨y0,h0,rfl⟩:=yC hy
  obtain⟨p0,hp0,rfl⟩:=yC hv
  have hi:i<xs.length:=by rw[hx.1];exact(yB hp0).1
  have hxi:(xs.map s.get)[i]?=some (s.get xs[i]):=by simp[hi]
  have hn:nosr (s.get xs[i])=true:=List.all_eq_true.1 hns _ (yE hxi)
  have hd0:=M18 hl i _ y0 hxi h0
  have ey:y0=s.get xs[i]:=by rw[W13 hn]at hd0;exact(Option.some.inj hd0).symm
  exact((I.plain hn hd0 (I.get (hx.2 i xs[i] p0 (yA hi) hp0))).bare (by rw[ey];exact hno _ (yE (yA hi)))).rdt fun _ _=>rfl
 .cases has
end ops
end
end
section
def W0I:List X->List Operand->Bool
 |[],[]=>true
 |x::xs,p::ps=>chkX x p&&W0I xs ps
 |_,_=>false
theorem QX:∀{xs:List X} {ps:List Operand},W0I xs ps=true->xs.length=ps.length/\∀(i:Nat) (x:X) (p:Operand),xs[i]?=some x->ps[i]?=some p->chkX x p=true
 |[],[],_=>⟨rfl,by intro i x p h;simp at h⟩
 |x::xs,p::ps,h=>by
  simp only[W0I,yD]at h
  obtain⟨h1,h2⟩:=QX h.2
  refine⟨by simp[h1],fun i y q hy hq=>?_⟩
  cases i with
  |zero=>simp at hy hq;subst hy;subst hq;exact h.1
  |succ i=>simp at hy hq;exact h2 i y q hy hq
 |[],_::_,h=>by simp[W0I]at h
 |_::_,[],h=>by simp[W0I]at h
def opEq:BinOp->BinOp->Bool
 |.add,.add | .sub,.sub | .mul,.mul | .quo,.quo | .rem,.rem | .eql,.eql | .neq,.neq | .lss,.lss | .leq,.leq | .gtr,.gtr | .geq,.geq | .and,.and | .xor,.xor | .shr,.shr=>true
 |_,_=>false
theorem U1h{a b:BinOp}(h:opEq a b=true):a=b:=by cases a<;>cases b<;>first|rfl|simp[opEq]at h
def LO(P:Program)(t:TypeId):Option TypeId:=match P.underlying t with|some (.slice e)=>some e|_=>none
def ZZ(P:Program)(t:TypeId):Bool:=match P.underlying t with|some .string=>true|_=>false
def Y15(P:Program)(t:TypeId):Bool:=match P.underlying t with|some .bool=>true|_=>false
def Z1r(P:Program)(t:TypeId):Option IntKind:=match P.underlying t with|some (.int k)=>some k|_=>none
def Y0o(P:Program)(t:TypeId)(f:Nat):Option Field:=match P.underlying t with|some (.struct fs)=>fs[f]? | _=>none
def U19(P:Program)(t:TypeId)(z:List AV):Bool:=match(P.info? t).bind (·.zero)with|some zv=>vmL z zv.cells.toList&&allOne z|none=>false
theorem Qq{P:Program}{t e:TypeId}(h:LO P t=some e):P.underlying t=some (.slice e):=by
 unfold LO at h;split at h<;>simp_all
theorem V01{P:Program}{t:TypeId}(h:ZZ P t=true):P.underlying t=some .string:=by
 unfold ZZ at h;split at h<;>simp_all
theorem Z1i{P:Program}{t:TypeId}(h:Y15 P t=true):P.underlying t=some .bool:=by
 unfold Y15 at h;split at h<;>simp_all
theorem M16{P:Program}{t:TypeId}{k:IntKind}(h:Z1r P t=some k):P.underlying t=some (.int k):=by
 unfold Z1r at h;split at h<;>simp_all
theorem W10{P:Program}{t:TypeId}{f:Nat}{fd:Field}(h:Y0o P t f=some fd):∃fs,P.underlying t=some (.struct fs)/\fs[f]?=some fd:=by
 unfold Y0o at h;split at h
 .rename_i fs e;exact⟨fs,e,h⟩
 .cases h
theorem Y0K{P:Program}{t:TypeId}{z:List AV}(h:U19 P t z=true):∃zv,((P.info? t).bind (·.zero))=some zv/\vmL z zv.cells.toList=true/\allOne z=true:=by
 unfold U19 at h;split at h
 .rename_i zv e;simp only[yD]at h;exact⟨zv,e,h.1,h.2⟩
 .cases h
def Z1s(fs:Array Field)(P:Program):List (Nat×Nat×X)->List (Nat×Operand)->Bool
  |[],[]=>true
  | (off,n,x)::ps,(j,p)::qs=>(match fs[j]? with|some fd=>fd.offset==off&&tsz P fd.type==some n|none=>false)&&chkX x p&&Z1s fs P ps qs
  |_,_=>false
theorem Y1o{fs:Array Field}{P:Program}:∀{ps:List (Nat×Nat×X)} {qs:List (Nat×Operand)},Z1s fs P ps qs=true->ps.length=qs.length /\
    ∀(i off n:Nat) (x:X) (j:Nat) (p:Operand),ps[i]?=some (off,n,x)->qs[i]?=some (j,p)->(∃fd,fs[j]?=some fd/\fd.offset=off/\tsz P fd.type=some n)/\chkX x p=true
  |[],[],_=>⟨rfl,by intro i off n x j p h;simp at h⟩
  | (off,n,x)::ps,(j,p)::qs,h=>by
    simp only[Z1s,yD]at h
    obtain⟨⟨h1,h2⟩,h3⟩:=h
    obtain⟨q1,q2⟩:=Y1o h3
    refine⟨by simp[q1],fun i off' n' x' j' p' hy hq=>?_⟩
    cases i with
    |zero =>
      simp at hy hq
      obtain⟨rfl,rfl,rfl⟩:=hy
      obtain⟨rfl,rfl⟩:=hq
      split at h1
      · rename_i fd hfd
        simp only[yD,beq_iff_eq]at h1
        exact⟨⟨fd,hfd,h1.1,h1.2⟩,h2⟩
      · cases h1
    |succ i=>simp at hy hq;exact q2 i _ _ _ _ _ hy hq
  |[],_::_,h=>by simp[Z1s]at h
  |_::_,[],h=>by simp[Z1s]at h
def Z18:Nat->List (Nat×Operand)->Bool
 |_,[]=>true
 |k,(i,_)::l=>i==k&&Z18 (k+1) l
theorem V10:∀{l:List (Nat×Operand)} {k:Nat},Z18 k l=true->l=((l.map (·.2)).zipIdx k).map fun(q,i)=>(i,q)
  |[],k,_=>rfl
  | (i,q)::l,k,h=>by
    simp only[Z18,yD,beq_iff_eq]at h
    have:=V10 h.2
    simp only[List.map_cons,List.zipIdx_cons,h.1]
    rw[← this]
def asB:Op->Option (Builtin×List Operand×List TypeId)
 |.call c=>match c.callee with | .builtin b=>some (b,c.args.toList,c.argTypes.toList)|_=>none
 |_=>none
theorem Z0S{op:Op}{b:Builtin}{ps:List Operand}{ts:List TypeId}(h:asB op=some (b,ps,ts)):op=.call { callee:=.builtin b,args:=ps.toArray,argTypes:=ts.toArray }:=by
 cases op<;>simp only[asB,reduceCtorEq]at h
 rename_i c
 obtain⟨ce,ar,at'⟩:=c
 cases ce<;>simp only[reduceCtorEq,yI,Prod.mk.injEq]at h
 obtain⟨rfl,rfl,rfl⟩:=h
 simp
def asV:Op->Option (Operand×List Operand×List TypeId)
 |.call c=>match c.callee with | .value f=>some (f,c.args.toList,c.argTypes.toList)|_=>none
 |_=>none
theorem Y1g{op:Op}{b:Operand}{ps:List Operand}{ts:List TypeId}(h:asV op=some (b,ps,ts)):op=.call { callee:=.value b,args:=ps.toArray,argTypes:=ts.toArray }:=by
 cases op<;>simp only[asV,reduceCtorEq]at h
 rename_i c
 obtain⟨ce,ar,at'⟩:=c
 cases ce<;>simp only[reduceCtorEq,yI,Prod.mk.injEq]at h
 obtain⟨rfl,rfl,rfl⟩:=h
 simp
def chkOp(P:Program):LOp->Op->Bool
 |.mv _ x,.move p=>chkX x p
 |.mv _ x,.assign p=>chkX x p||chkK x p
 |.pk _ c a b,.pick p q r=>chkX c p&&chkX a q&&chkX b r
 |.un _ x,.unOp .not _ p=>chkX x p
 |.bi _ op x y,.binOp op' _ p q _=>opEq op op'&&chkX x p&&chkX y q
 |.eb _ ne x y,.binOp op t p q _=>opEq op (if ne then .neq else .eql)&&Y15 P t&&chkX x p&&chkX y q
 |.es _ ne ks x y,.binOp op t p q _=>opEq op (if ne then .neq else .eql)&&eqK P 20 t==some ks&&tag? P t==some true&&P.eqGuardType P.depth t==false&&chkX x p&&chkX y q
 |.sa _ x y,.binOp .add _ p q _=>chkX x p&&chkX y q
 |.cv _ k x,.convert t u p=>(P.underlying t).isSome&&decide (Z1r P u=some k)&&chkX x p
 |.fa _ x off,.fieldAddr t p f=>(match Y0o P t f with|some fd=>fd.offset==off&&(match tsz P fd.type with|some n=>n != 0|none=>false)|none=>false)&&chkX x p
 |.ia _ x i n,.indexAddr t p q=>(match LO P t with|some e=>tsz P e==some n|none=>false)&&chkX x p&&chkX i q
 |.ix _ x i,.index t p q=>ZZ P t&&chkX x p&&chkX i q
 |.ld _ x n ag,.load t p=>tsz P t==some n&&tag? P t==some ag&&(ag||n==1)&&chkX x p
 |.st x y n,.store t p q=>tsz P t==some n&&chkX x p&&chkX y q
 |.al _ z,.alloc t=>U19 P t z
 |.bx _ x,.box _ p=>chkX x p
 |.bd _ z ps,.build t qs=>(match P.underlying t with|some (.struct fs)=>Z1s fs P ps qs.toList&&fs.all (fun fd=>(tsz P fd.type).isSome)|_=>false)&&U19 P t z
 |.bs _ sz ps _,.buildSlice t n qs=>(match LO P t with|some e=>tsz P e==some sz&&((P.info? e).bind (·.zero)).isSome|none=>false)&&n==qs.size&&Z18 0 qs.toList&&W0I ps (qs.toList.map (·.2))
 |.ms _ sz by' z x,.makeSlice t p q=>(match LO P t with|some e=>tsz P e==some sz&&tby P e==some by'&&U19 P e z|none=>false)&&z.length==sz&&sz != 0&&chkX x p&&chkX x q&&(match p,q with | .tmp i,.tmp j=>i==j|_,_=>false)
 |.ln _ x,op=>(match asB op with|some (.len,[p],[t])=>(LO P t).isSome&&chkX x p|_=>false)
 |.lq _ x,op=>(match asB op with|some (.len,[p],[t])=>(LO P t).isSome&&chkX x p|_=>false)
 |.ls _ x,op=>(match asB op with|some (.len,[p],[t])=>ZZ P t&&chkX x p|_=>false)
 |.ap _ x y sz by',op=>(match asB op with
  |some (.append,[p,q],[t,t'])=>t==t'&&(match LO P t with|some e=>(match P.info? e with|some i=>(match i.zero with|some z=>z.cells.size==i.size|none=>false)&&i.size==sz&&i.bytes==by'|none=>false)|none=>false)&&by' != 0&&chkX x p&&chkX y q
  |_=>false)
 |.ae _ x y sz by',op=>(match asB op with
  |some (.append,[p,q],[t,t'])=>t==t'&&(match LO P t with|some e=>(match P.info? e with|some i=>(match i.zero with|some z=>z.cells.size==i.size|none=>false)&&i.size==sz&&i.bytes==by'|none=>false)|none=>false)&&by' != 0&&chkX x p&&chkX y q
  |_=>false)
 |.be _,.buildSlice t n qs=>n==0&&qs.size==0&&(match LO P t with|some e=>(tsz P e).isSome|none=>false)
 |.sc _ x lo hi _,.move p=>lo.isNone&&hi.isNone&&chkX x p
 |.sc _ x lo hi n,.slice t p pl ph none=>(match LO P t with|some e=>tsz P e==some n|none=>false)&&chkX x p&&chkO lo pl&&chkO hi ph
 |.ss _ x lo hi,.slice t p pl ph none=>ZZ P t&&chkX x p&&chkO lo pl&&chkO hi ph
 |.ex _ x i,.extract p j=>i==j&&chkX x p
 |.fd _ x off n ag,.field t p f=>(match Y0o P t f with|some fd=>fd.offset==off&&tsz P fd.type==some n&&tag? P fd.type==some ag|none=>false)&&chkX x p
 |.nc _ x,.nilCheck p=>chkX x p
 |.mm _ true x y,op=>(match asB op with|some (.max,[p,q],_)=>chkX x p&&chkX y q|_=>false)
 |.mm _ false x y,op=>(match asB op with|some (.min,[p,q],_)=>chkX x p&&chkX y q|_=>false)
 |.b2s _ x,.convert t u p=>(match LO P t with|some e=>decide (Z1r P e=some .u8)|none=>false)&&ZZ P u&&chkX x p
 |.s2b _ x,.convert t u p=>ZZ P t&&(match LO P u with|some e=>decide (Z1r P e=some .u8)|none=>false)&&chkX x p
 |.mf _ f xs,.makeFunc (.func f') ⟨[]⟩ ps=>f==f'&&W0I xs ps.toList
 |.cl _ f xs,op=>(match asV op with|some (.func f',ps,_)=>f==f'&&isFn P f&&W0I xs ps|_=>false)
 |.cq _ f xs,op=>(match asV op with|some (.func f',ps,_)=>f==f'&&isFn P f&&W0I xs ps|_=>false)
 |.cc _ fx xs,op=>(match asV op with|some (fp,ps,_)=>chkX fx fp&&W0I xs ps|_=>false)
 |.cn _ f xs,op=>(match asV op with|some (.func f',ps,_)=>f==f'&&isFn P f&&W0I xs ps|_=>false)
 |.cm _ f xs,op=>(match asV op with|some (.func f',ps,_)=>f==f'&&isFn P f&&W0I xs ps|_=>false)
 |_,_=>false
def Z8:LOp->Bool | .st _ _ _=>false | .ost _ _=>false|_=>true
section
variable{P:Program}{c:Cx}{g:Gh}{s:St}{a:Act}{w:World}
variable{o:Oper}{K:St->Prop}{K':Act->World->Prop}{Q':Exit->Act->World->Prop}
theorem U1l(I:Inv c g s a w)(hK:∀g' s' a' w',Inv c g' s' a' w'->K s'->K' a' w'){l:LOp}(hc:chkOp P l o.op=true)
    (hd:o.dst=if Z8 l then some l.dst else none) (hlt:l.dst<c.nt) (h:wop P l K s):o.wp P a w K' Q':=by
  cases l with
  |mv d x =>
    simp only[Z8,yb,LOp.dst]at hd hlt
    generalize ho:o.op=op at hc
    cases op<;>simp only[chkOp,yG,Bool.or_eq_true]at hc
    · exact W1I I hK hd hlt (.inl ho) hc h
    · rcases hc with hc|hc
      · exact W1I I hK hd hlt (.inr ho) hc h
      · exact X1N I hK hd hlt ho hc h
  |pk d x y z =>
    simp only[Z8,yb,LOp.dst]at hd hlt
    generalize ho:o.op=op at hc
    cases op<;>simp only[chkOp,yG,yD]at hc
    exact Y1V I hK hd hlt ho hc.1.1 hc.1.2 hc.2 h
  |un d x =>
    simp only[Z8,yb,LOp.dst]at hd hlt
    generalize ho:o.op=op at hc
    cases op<;>try (simp only[chkOp,yG]at hc;done)
    rename_i u t p
    cases u<;>simp only[chkOp,yG]at hc
    exact O1U I hK hd hlt ho hc h
  |bi d op x y =>
    simp only[Z8,yb,LOp.dst]at hd hlt
    generalize ho:o.op=oo at hc
    cases oo<;>simp only[chkOp,yG,yD]at hc
    rw[← U1h hc.1.1]at ho
    exact Y1X I hK hd hlt ho hc.1.2 hc.2 h
  |eb d ne x y =>
    simp only[Z8,yb,LOp.dst]at hd hlt
    generalize ho:o.op=oo at hc
    cases oo<;>simp only[chkOp,yG,yD]at hc
    rw[U1h hc.1.1.1]at ho
    exact V1W I hK hd hlt ho (Z1i hc.1.1.2) hc.1.2 hc.2 h
  |es d ne ks x y =>
    simp only[Z8,yb,LOp.dst]at hd hlt
    generalize ho:o.op=oo at hc
    cases oo<;>simp only[chkOp,yG,yD,beq_iff_eq]at hc
    rw[U1h hc.1.1.1.1.1]at ho
    exact X1W I hK hd hlt ho hc.1.1.1.1.2 hc.1.1.1.2 hc.1.1.2 hc.1.2 hc.2 h
  |sa d x y =>
    simp only[Z8,yb,LOp.dst]at hd hlt
    generalize ho:o.op=oo at hc
    cases oo<;>try (simp only[chkOp,yG]at hc;done)
    rename_i b t p q u
    cases b<;>simp only[chkOp,yG,yD]at hc
    exact Z1V I hK hd hlt ho hc.1 hc.2 h
  |cv d k x =>
    simp only[Z8,yb,LOp.dst]at hd hlt
    generalize ho:o.op=oo at hc
    cases oo<;>simp only[chkOp,yG,yD,yO]at hc
    exact U1W I hK hd hlt ho hc.1.1 (M16 hc.1.2) hc.2 h
  |fa d x off =>
    simp only[Z8,yb,LOp.dst]at hd hlt
    generalize ho:o.op=oo at hc
    cases oo<;>simp only[chkOp,yG,yD]at hc
    obtain⟨hc,hx⟩:=hc
    split at hc
    · rename_i fd hf
      simp only[yD,beq_iff_eq]at hc
      obtain⟨rfl,hc⟩:=hc
      split at hc
      · rename_i n hn
        obtain⟨fs,h1,h2⟩:=W10 hf
        exact Z1W I hK hd hlt ho h1 h2 hn (by simpa using hc) hx h
      · cases hc
    · cases hc
  |ia d x i n =>
    simp only[Z8,yb,LOp.dst]at hd hlt
    generalize ho:o.op=oo at hc
    cases oo<;>simp only[chkOp,yG,yD]at hc
    obtain⟨⟨hc,hx⟩,hi⟩:=hc
    split at hc
    · rename_i e he
      exact L1V I hK hd hlt ho (Qq he) (by simpa using hc) hx hi h
    · cases hc
  |ix d x i =>
    simp only[Z8,yb,LOp.dst]at hd hlt
    generalize ho:o.op=oo at hc
    cases oo<;>simp only[chkOp,yG,yD]at hc
    exact M1V I hK hd hlt ho (V01 hc.1.1) hc.1.2 hc.2 h
  |ld d x n ag =>
    simp only[Z8,yb,LOp.dst]at hd hlt
    generalize ho:o.op=oo at hc
    cases oo<;>simp only[chkOp,yG,yD,beq_iff_eq,Bool.or_eq_true]at hc
    exact O1V I hK hd hlt ho hc.1.1.1 hc.1.1.2 (fun hag=>by rcases hc.1.2 with h|h;rw[hag]at h;cases h;exact h) hc.2 h
  |st x y n =>
    simp only[Z8,yG,yc]at hd
    generalize ho:o.op=oo at hc
    cases oo<;>simp only[chkOp,yG,yD,beq_iff_eq]at hc
    exact M1U I hK hd ho hc.1.1 hc.1.2 hc.2 h
  |al d z =>
    simp only[Z8,yb,LOp.dst]at hd hlt
    generalize ho:o.op=oo at hc
    cases oo<;>simp only[chkOp,yG]at hc
    obtain⟨zv,h1,h2,h3⟩:=Y0K hc
    exact Q1X I hK hd hlt ho h1 h2 h3 h
  |bx d x =>
    simp only[Z8,yb,LOp.dst]at hd hlt
    generalize ho:o.op=oo at hc
    cases oo<;>simp only[chkOp,yG]at hc
    exact J1W I hK hd hlt ho hc h
  |bd d z ps =>
    simp only[Z8,yb,LOp.dst]at hd hlt
    generalize ho:o.op=oo at hc
    cases oo<;>simp only[chkOp,yG,yD]at hc
    rename_i t qs
    obtain⟨hc,hz⟩:=hc
    split at hc
    · rename_i fs hfs
      simp only[yD]at hc
      obtain⟨hps,hall⟩:=hc
      obtain⟨zv,h1,h2,h3⟩:=Y0K hz
      obtain⟨q1,q2⟩:=Y1o hps
      refine V1X (qs:=qs.toList) I hK hd hlt (by simpa using ho) hfs h1 h2 h3 q1 q2 (fun fd hfd=>?_) h
      rw[Array.all_eq_true']at hall
      exact hall fd hfd
    · cases hc
  |bs d sz ps own =>
    simp only[Z8,yb,LOp.dst]at hd hlt
    generalize ho:o.op=oo at hc
    cases oo<;>simp only[chkOp,yG,yD,beq_iff_eq]at hc
    rename_i t n qs
    obtain⟨⟨⟨hc,hn⟩,hidx⟩,hxs⟩:=hc
    split at hc
    · rename_i e he
      simp only[yD,beq_iff_eq]at hc
      obtain⟨zv,hz⟩:=Option.isSome_iff_exists.1 hc.2
      have hq:=V10 hidx
      refine Z1X (qs:=qs.toList.map (·.2)) I hK hd hlt ?_ (Qq he) hc.1 hz (QX hxs) h
      rw[ho,hn]
      congr 1
      · simp
      · rw[← hq]
    · cases hc
  |ms d sz by' z x =>
    simp only[Z8,yb,LOp.dst]at hd hlt
    generalize ho:o.op=oo at hc
    cases oo<;>simp only[chkOp,yG,yD,beq_iff_eq]at hc
    rename_i t p q
    obtain⟨⟨⟨⟨⟨hc,hzl⟩,hsz⟩,hx⟩,_⟩,hpq⟩:=hc
    have hpq':p=q:=by
      split at hpq
      · simp only[beq_iff_eq]at hpq;subst hpq;rfl
      · cases hpq
    subst hpq'
    split at hc
    · rename_i e he
      simp only[yD,beq_iff_eq]at hc
      obtain⟨⟨h1,h2⟩,h3⟩:=hc
      obtain⟨zv,z1,z2,z3⟩:=Y0K h3
      unfold tsz at h1
      unfold tby at h2
      obtain⟨i,hi,e1⟩:=yC h1
      rw[hi]at h2 z1
      simp only[Option.map_some,yI]at h2
      simp only[bS]at z1
      exact V1V I hK hd hlt ho (Qq he) hi z1 e1 h2 z2 z3 hzl (Nat.pos_of_ne_zero (by simpa using hsz)) hx h
    · cases hc
  |ln d x =>
    simp only[Z8,yb,LOp.dst]at hd hlt
    simp only[chkOp]at hc
    split at hc
    · rename_i p t e
      simp only[yD]at hc
      obtain⟨el,hel⟩:=Option.isSome_iff_exists.1 hc.1
      exact M1I I hK hd hlt (Z0S e) (Qq hel) hc.2 h
    · cases hc
  |lq d x =>
    simp only[Z8,yb,LOp.dst]at hd hlt
    simp only[chkOp]at hc
    split at hc
    · rename_i p t e
      simp only[yD]at hc
      obtain⟨el,hel⟩:=Option.isSome_iff_exists.1 hc.1
      exact W1V I hK hd hlt (Z0S e) (Qq hel) hc.2 h
    · cases hc
  |ls d x =>
    simp only[Z8,yb,LOp.dst]at hd hlt
    simp only[chkOp]at hc
    split at hc
    · rename_i p t e
      simp only[yD]at hc
      exact Q1V I hK hd hlt (Z0S e) (V01 hc.1) hc.2 h
    · cases hc
  |ap d x y sz by' =>
    simp only[Z8,yb,LOp.dst]at hd hlt
    simp only[chkOp]at hc
    split at hc
    · rename_i p q t t' e
      simp only[yD,beq_iff_eq,bne_iff_ne]at hc
      obtain⟨⟨⟨⟨rfl,hc⟩,hb0⟩,hx⟩,hy⟩:=hc
      split at hc
      · rename_i el hel
        split at hc
        · rename_i i hi
          simp only[yD,beq_iff_eq]at hc
          obtain⟨⟨hc,h1⟩,h2⟩:=hc
          split at hc
          · rename_i z hz
            exact U1X I hK hd hlt (Z0S e) (Qq hel) hi hz h1 h2 (Nat.pos_of_ne_zero hb0) (by simpa using hc) hx hy h
          · cases hc
        · cases hc
      · cases hc
    · cases hc
  |ae d x y sz by' =>
    simp only[Z8,yb,LOp.dst]at hd hlt
    simp only[chkOp]at hc
    split at hc
    · rename_i p q t t' e
      simp only[yD,beq_iff_eq,bne_iff_ne]at hc
      obtain⟨⟨⟨⟨rfl,hc⟩,hb0⟩,hx⟩,hy⟩:=hc
      split at hc
      · rename_i el hel
        split at hc
        · rename_i i hi
          simp only[yD,beq_iff_eq]at hc
          obtain⟨⟨hc,h1⟩,h2⟩:=hc
          split at hc
          · rename_i z hz
            exact W1X I hK hd hlt (Z0S e) (Qq hel) hi hz h1 h2 (Nat.pos_of_ne_zero hb0) (by simpa using hc) hx hy h
          · cases hc
        · cases hc
      · cases hc
    · cases hc
  |be d =>
    simp only[Z8,yb,LOp.dst]at hd hlt
    generalize ho:o.op=oo at hc
    cases oo<;>simp only[chkOp,yG,yD,beq_iff_eq]at hc
    rename_i t n qs
    obtain⟨⟨hn,hq⟩,hc⟩:=hc
    split at hc
    · rename_i e he
      obtain⟨sz,hsz⟩:=Option.isSome_iff_exists.1 hc
      refine X1X I hK hd hlt ?_ (Qq he) hsz h
      rw[ho,hn,Array.eq_empty_of_size_eq_zero hq]
    · cases hc
  |sc d x lo hi n =>
    simp only[Z8,yb,LOp.dst]at hd hlt
    generalize ho:o.op=oo at hc
    cases oo<;>try (simp only[chkOp,yG]at hc;done)
    all_goals first
    | (rename_i p
       simp only[chkOp,yD,Option.isNone_iff_eq_none]at hc
       obtain⟨⟨rfl,rfl⟩,hx⟩:=hc
       exact Z1N I hK hd hlt ho hx h)
    | (rename_i t p pl ph pm
       cases pm<;>simp only[chkOp,yG,yD]at hc
       obtain⟨⟨⟨hc,hx⟩,hl⟩,hh⟩:=hc
       split at hc
       · rename_i e he
         exact J1U I hK hd hlt ho (Qq he) (by simpa using hc) hx hl hh h
       · cases hc)
  |ss d x lo hi =>
    simp only[Z8,yb,LOp.dst]at hd hlt
    generalize ho:o.op=oo at hc
    cases oo<;>try (simp only[chkOp,yG]at hc;done)
    rename_i t p pl ph pm
    cases pm<;>simp only[chkOp,yG,yD]at hc
    obtain⟨⟨⟨hc,hx⟩,hl⟩,hh⟩:=hc
    exact L1U I hK hd hlt ho (V01 hc) hx hl hh h
  |ex d x i =>
    simp only[Z8,yb,LOp.dst]at hd hlt
    generalize ho:o.op=oo at hc
    cases oo<;>simp only[chkOp,yG,yD,beq_iff_eq]at hc
    rw[← hc.1]at ho
    exact Y1W I hK hd hlt ho hc.2 h
  |fd d x off n ag =>
    simp only[Z8,yb,LOp.dst]at hd hlt
    generalize ho:o.op=oo at hc
    cases oo<;>simp only[chkOp,yG,yD]at hc
    obtain⟨hc,hx⟩:=hc
    split at hc
    · rename_i fd hf
      simp only[yD,beq_iff_eq]at hc
      obtain⟨⟨rfl,h1⟩,h2⟩:=hc
      obtain⟨fs,q1,q2⟩:=W10 hf
      exact J1V I hK hd hlt ho q1 q2 h1 h2 hx h
    · cases hc
  |nc d x =>
    simp only[Z8,yb,LOp.dst]at hd hlt
    generalize ho:o.op=oo at hc
    cases oo<;>simp only[chkOp,yG]at hc
    exact X1V I hK hd hlt ho hc h
  |mm d mx x y =>
    simp only[Z8,yb,LOp.dst]at hd hlt
    cases mx<;>simp only[chkOp]at hc<;>split at hc
    · rename_i p q ts e
      simp only[yD]at hc
      exact O1I (mx:=false) I hK hd hlt (Z0S e) hc.1 hc.2 h
    · cases hc
    · rename_i p q ts e
      simp only[yD]at hc
      exact O1I (mx:=true) I hK hd hlt (Z0S e) hc.1 hc.2 h
    · cases hc
  |b2s d x =>
    simp only[Z8,yb,LOp.dst]at hd hlt
    generalize ho:o.op=oo at hc
    cases oo<;>simp only[chkOp,yG,yD]at hc
    obtain⟨⟨hc,hu⟩,hx⟩:=hc
    split at hc
    · rename_i e he
      exact V1N I hK hd hlt ho (Qq he) (M16 (by simpa using hc)) (V01 hu) hx h
    · cases hc
  |s2b d x =>
    simp only[Z8,yb,LOp.dst]at hd hlt
    generalize ho:o.op=oo at hc
    cases oo<;>simp only[chkOp,yG,yD]at hc
    obtain⟨⟨hu,hc⟩,hx⟩:=hc
    split at hc
    · rename_i e he
      exact Y1N I hK hd hlt ho (V01 hu) (Qq he) (M16 (by simpa using hc)) hx h
    · cases hc
  |mf d f xs =>
    simp only[Z8,yb,LOp.dst]at hd hlt
    generalize ho:o.op=oo at hc
    unfold chkOp at hc
    split at hc<;>simp_all
    rename_i ps
    exact U1V (ps:=ps.toList) I hK hd hlt (by simpa using ho) (QX hc.2) h
  |cl d f xs =>
    simp only[Z8,yb,LOp.dst]at hd hlt
    simp only[chkOp]at hc
    split at hc
    · rename_i f' ps ts e
      simp only[yD,beq_iff_eq]at hc
      obtain⟨⟨rfl,hf⟩,hx⟩:=hc
      exact M1W I hK hd hlt (Y1g e) hf (QX hx) h
    · cases hc
  |cq d f xs =>
    simp only[Z8,yb,LOp.dst]at hd hlt
    simp only[chkOp]at hc
    split at hc
    · rename_i f' ps ts e
      simp only[yD,beq_iff_eq]at hc
      obtain⟨⟨rfl,hf⟩,hx⟩:=hc
      exact Q1W I hK hd hlt (Y1g e) hf (QX hx) h
    · cases hc
  |cc d fx xs =>
    simp only[Z8,yb,LOp.dst]at hd hlt
    simp only[chkOp]at hc
    split at hc
    · rename_i fp ps ts e
      simp only[yD]at hc
      exact L1W I hK hd hlt (Y1g e) hc.1 (QX hc.2) h
    · cases hc
  |cm d f xs =>
    simp only[Z8,yb,LOp.dst]at hd hlt
    simp only[chkOp]at hc
    split at hc
    · rename_i f' ps ts e
      simp only[yD,beq_iff_eq]at hc
      obtain⟨⟨rfl,hf⟩,hx⟩:=hc
      exact O1W I hK hd hlt (Y1g e) hf (QX hx) h
    · cases hc
  |cn d f xs =>
    simp only[Z8,yb,LOp.dst]at hd hlt
    simp only[chkOp]at hc
    split at hc
    · rename_i f' ps ts e
      simp only[yD,beq_iff_eq]at hc
      obtain⟨⟨rfl,hf⟩,hx⟩:=hc
      exact W1W I hK hd hlt (Y1g e) hf (QX hx) h
    · cases hc
  |oln d x=>simp[chkOp]at hc
  |oia d x i n=>simp[chkOp]at hc
  |ofa d x off=>simp[chkOp]at hc
  |old d x=>simp[chkOp]at hc
  |ost x y=>simp[chkOp]at hc
  |co d f xs=>simp[chkOp]at hc
  |cf d f m xs=>simp[chkOp]at hc
  |g t want l=>simp[chkOp]at hc
  |cs t=>simp[chkOp]at hc
  |fz t=>simp[chkOp]at hc
  |fb t=>simp[chkOp]at hc
end
end
section
def wops(P:Program):List LOp->(St->Prop)->St->Prop
 |[],K,s=>K s
 |l::ls,K,s=>wop P l (wops P ls K) s
def X0y(ops:Array Oper)(o:Oper):Option (Nat×Bool) :=
 match o.guard with
 |some (j,want)=>match ops[j]? with
  |some oj=>match oj.dst with
   |some t=>some (t,want)
   |none=>none
  |none=>none
 |none=>none
def U1f(nt:Nat)(l:LOp)(o:Oper):Bool:=decide (l.dst<nt)&&decide (o.dst=if Z8 l then some l.dst else none)
def chk1(P:Program)(nt:Nat)(ops:Array Oper)(l:LOp)(o:Oper):Bool:=match l with
 |.g t want l'=>decide (X0y ops o=some (t,want))&&decide (t<nt)&&U1f nt l' o&&Z8 l'&&chkOp P l' o.op
 |l=>o.guard.isNone&&U1f nt l o&&chkOp P l o.op
def chkL(P:Program)(nt:Nat)(ops:Array Oper):List LOp->List Oper->Bool
 |[],[]=>true
 |.cs t::ls,os=>decide (t<nt)&&chkL P nt ops ls os
 |.fz t::ls,os=>decide (t<nt)&&chkL P nt ops ls os
 |.fb t::ls,os=>decide (t<nt)&&chkL P nt ops ls os
 |l::ls,o::os=>chk1 P nt ops l o&&chkL P nt ops ls os
 |_,_=>false
section
variable{P:Program}{c:Cx}{g:Gh}{s:St}{a:Act}{w:World}
theorem Y1k(s:St)(t:Nat):s.set t (s.e t)=s:=by
 have:upd s.e t (s.e t)=s.e:=by funext j;unfold upd;split<;>simp_all
 unfold St.set;rw[this]
theorem J1k(a:Act)(t:Nat):a.put (some t) (a.tmps.getD t undef)=a:=by
 have:a.tmps.setIfInBounds t (a.tmps.getD t undef)=a.tmps:=by
  apply Array.ext_getElem?
  intro i
  rw[Array.getElem?_setIfInBounds]
  split
  .rename_i h;subst h
   split
   .rename_i h;simp[h]
   .rename_i h;simp[h]
  .rfl
 simp only[Act.put,this]
theorem O1G(_:Inv c g s a w){t:Nat}{K:St->Prop}(h:wop P (.cs t) K s):K s:=by
 simp only[wop]at h
 split at h
 .rename_i b e
  have hs:s.set t (.bool b)=s:=by rw[← e];exact Y1k s t
  cases b
  .have:=h.2 rfl;rwa [hs]at this
  .have:=h.1 rfl;rwa [hs]at this
 .cases h
theorem Q1G(I:Inv c g s a w){t:Nat}(ht:t<c.nt){K:St->Prop}(h:wop P (.fz t) K s):∃g' s',Inv c g' s' a w/\K s':=by
 simp only[wop]at h
 split at h
 .rename_i k e
  split at h
  .rename_i r hr
   have I1:=I.share hr
   have hv:=I.tm t
   rw[e]at hv
   have e1:=hv.sref_inv hr
   have I2:=I1.put ht (x:=.sl .nw r.sz r.es) (v:=a.tmps.getD t undef) (.data _ _ (by
    rw[e1,Gh.T_of]
    have q:=(I.rws k r hr).mono (w':=w) (S':=fun b o=>g.S b o\/((g.rv k).ownBlock=some b/\o<r.es.length*r.sz)) (N':=g.T) (fun _ _ h=>.inl h) TLe.refl (fun _ _ _=>rfl) (fun _ _=>rfl)
    exact YW q (fun b o hb ho=>.inr ⟨hb,ho⟩) .nw (fun b hb=>⟨(I.rwn k r hr b hb).1.1,I.ow.rw k r hr b hb⟩)))
   rw[J1k]at I2
   exact⟨_,_,I2,h⟩
  .cases h
 .exact⟨_,_,I,h⟩
 .cases h
theorem Inv.moreS(I:Inv c g s a w)(b0 n:Nat)(hb:Wr c g b0)(hlt:b0<w.heap.size)(hbx:∀k cs,s.bx k=some cs->g.bb k≠b0)(hrw:∀k r,s.rw k=some r->(g.rv k).ownBlock≠some b0)(huf:UnfB w b0)(hno:¬ g.own b0) :
    Inv c { g with S:=fun b o=>g.S b o\/(b=b0/\o<n) } s a w:=by
  have T:Turn (fun _=>True) w w g { g with S:=fun b o=>g.S b o\/(b=b0/\o<n) } s s :=
    ⟨fun _ _ h=>.inl h,fun _ h=>h,TLe.of (fun _ h=>h) rfl,fun _ _ _=>rfl,fun j _ r1 h=>⟨r1,h,rfl,rfl⟩,fun j _ c' h=>⟨c',h,rfl⟩,fun _ _ h=>h,J14⟩
  refine⟨I.defers,I.nt,I.fr,fun i=>(I.tm i).turn T,fun j c1 h=>(I.bxs j c1 h).turn T rfl,fun j c1 h=>⟨(I.bxn j c1 h).1,fun o ho=>?_⟩,fun j r h=>(I.rws j r h).mono T.S T.T T.cell (fun _ _=>rfl),fun j r h b hb'=>⟨(I.rwn j r h b hb').1,fun o ho=>?_⟩,I.dbb,I.dbr,I.drr,fun b o ho=>?_,I.nn,I.nx,I.fix,fun b o h=>.inl (I.sm b o h),fun b o h=>?_,I.ow.turn rfl (fun _ h=>h) (yV _) (fun _ _=>rfl) I.ow.bx I.ow.rw,fun b o h q=>h.elim (fun h=>I.uf b o h q) (fun h=>by rw[h.1];exact huf),fun b o h q=>h.elim (fun h=>I.sd b o h q) fun h=>hno (by rw[← h.1];exact I.ow.dd b q)⟩
  · rcases ho with ho|⟨e,_⟩
    · exact(I.bxn j c1 h).2 o ho
    · exact hbx j c1 h e
  · rcases ho with ho|⟨e,_⟩
    · exact(I.rwn j r h b hb').2 o ho
    · exact absurd hb' (by rw[e];exact hrw j r h)
  · rcases ho with ho|⟨e,_⟩
    · exact I.sw b o ho
    · rw[e];exact hlt
  · rcases h with h|⟨e,_⟩
    · exact I.sb b o h
    · rcases Nat.lt_or_ge b c.w0.heap.size with hl|hl
      · exact .inr (.inr (by rw[e]at hl ⊢;exact hb.2 hl))
      · exact .inr (.inl hl)
theorem W1G(I:Inv c g s a w){t:Nat}(ht:t<c.nt){K:St->Prop}(h:wop P (.fb t) K s):∃g' s',Inv c g' s' a w/\K s':=by
 simp only[wop]at h
 split at h
 .rename_i k e
  split at h
  .rename_i cs hk
   obtain⟨hns,h⟩:=h
   have hv:=I.tm t
   rw[e]at hv
   have e1:=hv.ptr_inv hk
   obtain⟨vs,ty,hb1,hb2,hb3⟩:=I.bxs k cs hk
   have hlt:=Q0k (I.bxs k cs hk)
   have I1:=I.kill0 k
   have I2:=I1.moreS (g.bb k) cs.length (I.bxn k cs hk).1 hlt (fun j c1 hj=>by
    obtain⟨hne,c0,h0,_⟩:=X6 hj
    exact I.dbb j k c0 cs h0 hk hne) (fun j r hj=>by
    obtain⟨hne,h0⟩:=X9 hj
    exact I.dbr k j cs r hk h0) (.plain hb1) (I.ow.bx k cs hk)
   have hcell:∀(j:Nat) (y:AV),cs[j]?=some y->w.cell? ⟨g.bb k,0+j,none⟩=some (vs.getD j undef)/\vs[j]?=some (vs.getD j undef):=by
    intro j y hj
    have hjl:j<vs.length:=by rw[hb2];exact(yB hj).1
    refine⟨?_,by simp[List.getD_eq_getElem?_getD,hjl]⟩
    simp[World.cell?,hb1,List.getD_eq_getElem?_getD,hjl]
   have hpl:∀y∈cs,plain y=true:=by simpa[nosr]using hns
   have I3:=I2.put ht (x:=.ept (.agg cs) 0) (v:=a.tmps.getD t undef) (.data _ _ (by
    rw[e1]
    refine .ept (.agg cs) 0 (g.bb k) 0 (fun j=>vs.getD j undef) (fun j y hj=>?_) (fun j y hj=>?_)
    .have hj':cs[j]?=some y:=hj
     have hp:=hpl y (yE hj')
     exact⟨(hcell j y hj').1,.inr ⟨rfl,by have:=(yB hj').1;omega⟩,by cases y<;>simp[plain]at hp<;>rfl,fun b' hb'=>by cases hb';exact I.ow.bx k cs hk⟩
    .have hj':cs[j]?=some y:=hj
     have hp:=hpl y (yE hj')
     obtain⟨_,_,q3⟩:=hb3 j y _ hj' (hcell j y hj').2
     have hd:s.dt y=some y:=Y0J hp
     exact(I.plain (x:=y) (y:=y) (by cases y<;>simp[plain]at hp<;>simp[nosr,plain]) hd q3).mono (fun _ _ h=>.inl h) TLe.refl (fun _ _ _=>rfl)))
   rw[J1k]at I3
   exact⟨_,_,I3,h⟩
  .cases h
 .exact⟨_,_,I,h⟩
 .cases h
theorem U1G{ops:Array Oper}{o:Oper}{t:Nat}{want:Bool}(I:Inv c g s a w)(h:X0y ops o=some (t,want))(ht:t<c.nt){b:Bool}(hb:s.e t=.bool b) :
  Region.wanted o (yielded ops a.tmps)=decide (b=want):=by
 unfold X0y at h
 split at h
 .rename_i j want' hg
  split at h
  .rename_i oj hj
   split at h
   .rename_i t' ht'
    simp only[yI,Prod.mk.injEq]at h
    obtain⟨rfl,rfl⟩:=h
    have hv:=I.tm t'
    rw[hb]at hv
    have e:=hv.bool_inv
    have hlt:t'<a.tmps.size:=by rw[I.nt];exact ht
    have e2:a.tmps[t']?=some (.bool b):=by
     rw[Array.getD_eq_getD_getElem?]at e
     cases h:a.tmps[t']? with
     |none=>exact absurd hlt (Nat.not_lt.2 (Array.getElem?_eq_none_iff.1 h))
     |some v=>rw[h]at e;simpa using e
    simp only[Region.wanted,hg,yielded,hj,bS,ht',e2]
    cases b<;>cases want'<;>rfl
   .cases h
  .cases h
 .cases h
theorem W1A{ops:Array Oper}{o:Oper}{t:Nat}{want:Bool}(I:Inv c g s a w)(h:X0y ops o=some (t,want))(hb:s.e t=.und) :
  Region.wanted o (yielded ops a.tmps)=false:=by
 unfold X0y at h
 split at h
 .rename_i j want' hg
  split at h
  .rename_i oj hj
   split at h
   .rename_i t' ht'
    simp only[yI,Prod.mk.injEq]at h
    obtain⟨rfl,rfl⟩:=h
    have hv:=I.tm t'
    rw[hb]at hv
    have e:=hv.und_inv
    have e2:∀b,a.tmps[t']?≠some (.bool b):=by
     intro b h
     rw[Array.getD_eq_getD_getElem?,h]at e
     simp only[Option.getD_some]at e
     exact absurd e (by unfold undef;simp)
    simp only[Region.wanted,hg,yielded,hj,bS,ht']
    cases h:a.tmps[t']? with
    |none=>rfl
    |some v=>cases v<;>first|rfl|exact absurd h (e2 _)
   .cases h
  .cases h
 .cases h
variable{K:St->Prop}{K':Act->World->Prop}{Q':Exit->Act->World->Prop}
theorem X0e{nt:Nat}{l:LOp}{o:Oper}(h:U1f nt l o=true):l.dst<nt/\o.dst=if Z8 l then some l.dst else none:=by
 simpa[U1f]using h
theorem Vq{ops:Array Oper}{l:LOp}{o:Oper}(hK:∀g' s' a' w',Inv c g' s' a' w'->K s'->K' a' w')(hc:chk1 P c.nt ops l o=true)(I:Inv c g s a w)(h:wop P l K s) :
  if Region.wanted o (yielded ops a.tmps)then o.wp P a w K' Q' else K' (a.put o.dst undef) w:=by
 have plain:(o.guard.isNone&&U1f c.nt l o&&chkOp P l o.op)=true->if Region.wanted o (yielded ops a.tmps)then o.wp P a w K' Q' else K' (a.put o.dst undef) w:=by
  intro hc
  simp only[yD]at hc
  obtain⟨⟨h1,h2⟩,h3⟩:=hc
  obtain⟨q1,q2⟩:=X0e h2
  have hw:Region.wanted o (yielded ops a.tmps)=true:=by simp[Region.wanted,Option.isNone_iff_eq_none.1 h1]
  rw[yd hw]
  exact U1l I hK h3 q2 q1 h
 cases l with
 |g t want l' =>
  simp only[chk1,yD,yO]at hc
  obtain⟨⟨⟨⟨h1,h2⟩,h3⟩,h5⟩,h4⟩:=hc
  obtain⟨q1,q2⟩:=X0e h3
  rw[yd h5]at q2
  simp only[wop]at h
  have skip:Region.wanted o (yielded ops a.tmps)=false->K (s.set l'.dst .und)->if Region.wanted o (yielded ops a.tmps)then o.wp P a w K' Q' else K' (a.put o.dst undef) w:=by
   intro hw hk
   rw[hw,ye (by simp),q2]
   exact hK _ _ _ _ (I.put q1 .und) hk
  split at h
  .rename_i b e
   have hw:=U1G I h1 h2 e
   split at h
   .rename_i hb
    rw[hw,yd (by simpa using hb)]
    exact U1l I hK h4 (by rw[yd h5];exact q2) q1 h
   .rename_i hb
    exact skip (by rw[hw];simpa using hb) h
  .rename_i e
   exact skip (W1A I h1 e) h
  .cases h
 |_=>exact plain hc
theorem V1q{ops:Array Oper}(hK:∀g' s' a' w',Inv c g' s' a' w'->K s'->Q' .normal a' w') :
  ∀(ls:List LOp) (os:List Oper) (g:Gh) (s:St) (a:Act) (w:World),chkL P c.nt ops ls os=true->Inv c g s a w->wops P ls K s->wpList P ops Q' os a w:=by
 intro ls
 induction ls with
 |nil =>
  intro os g s a w hc I h
  cases os with
  |nil=>exact hK _ _ _ _ I h
  |cons o os=>simp[chkL]at hc
 |cons l ls ih =>
  intro os g s a w hc I h
  have main:(∃o os',os=o::os'/\chk1 P c.nt ops l o=true/\chkL P c.nt ops ls os'=true)->wpList P ops Q' os a w:=by
   rintro⟨o,os',rfl,h1,h2⟩
   refine wpList_step fun K'' hK''=>?_
   exact Vq (K:=wops P ls K) (fun g' s' a' w' I' h'=>hK'' _ _ (ih os' g' s' a' w' h2 I' h')) h1 I h
  cases l with
  |cs t =>
   simp only[chkL,yD,yO]at hc
   exact ih os g s a w hc.2 I (O1G I h)
  |fb t =>
   simp only[chkL,yD,yO]at hc
   obtain⟨g',s',I',h'⟩:=W1G I hc.1 h
   exact ih os g' s' a w hc.2 I' h'
  |fz t =>
   simp only[chkL,yD,yO]at hc
   obtain⟨g',s',I',h'⟩:=Q1G I hc.1 h
   exact ih os g' s' a w hc.2 I' h'
  |_ =>
   cases os with
   |nil=>simp[chkL]at hc
   |cons o os' =>
    simp only[chkL,yD]at hc
    exact main ⟨o,os',rfl,hc.1,hc.2⟩
end
end
section
def X.rd:X->List Nat
 |.t i=>[i]
 |.c _=>[]
def rdO:Option X->List Nat
 |some x=>x.rd
 |none=>[]
def LOp.rds:LOp->List Nat
 |.mv _ x | .un _ x | .cv _ _ x | .fa _ x _ | .ld _ x _ _ | .ls _ x | .lq _ x | .ex _ x _ | .fd _ x _ _ _ | .nc _ x | .b2s _ x | .s2b _ x=>x.rd
 |.pk _ x y z=>x.rd++y.rd++z.rd
 |.oln _ x | .ofa _ x _=>x.rd
 |.bi _ _ x y | .eb _ _ x y | .es _ _ _ x y | .sa _ x y | .ia _ x y _ | .oia _ x y _ | .ix _ x y | .mm _ _ x y | .ae _ x y _ _=>x.rd++y.rd
 |.bd _ _ ps=>ps.flatMap fun p=>p.2.2.rd
 |.bs _ _ ps _=>ps.flatMap X.rd
 |.sc _ x lo hi _ | .ss _ x lo hi=>x.rd++rdO lo++rdO hi
 |.mf _ _ xs | .cq _ _ xs=>xs.flatMap X.rd
 |.cc _ f xs=>f.rd++xs.flatMap X.rd
 |.g t _ o=>t::o.rds
 |_=>[]
def isQ1:LOp->Bool
 |.mv _ _ | .un _ _ | .cv _ _ _ | .fa _ _ _ | .ld _ _ _ _ | .ls _ _ | .lq _ _ | .ex _ _ _ | .fd _ _ _ _ _ | .nc _ _ | .b2s _ _ | .s2b _ _
 |.pk _ _ _ _ | .bi _ _ _ _ | .eb _ _ _ _ | .es _ _ _ _ _ | .sa _ _ _ | .ia _ _ _ _ | .ix _ _ _ | .mm _ _ _ _ | .bd _ _ _ | .bs _ _ _ false
 |.sc _ _ _ _ _ | .ss _ _ _ _ | .mf _ _ _ | .cq _ _ _ | .cc _ _ _ | .be _ | .ae _ _ _ _ _ | .oln _ _ | .oia _ _ _ _ | .ofa _ _ _=>true
 |_=>false
def isQ:LOp->Bool
 |.g _ _ o=>isQ1 o
 |o=>isQ1 o
def O1b:AV->Bool | .sref _=>false|_=>true
def scOk(s:St):LOp->Prop
 |.sc _ x _ _ _=>O1b (s.get x)=true
 |.g _ _ (.sc _ x _ _ _)=>O1b (s.get x)=true
 |_=>True
structure Ag(l:List Nat)(s s':St):Prop where
 e:∀t,t∈l->s'.e t=s.e t
 bx:∀k cs,s.bx k=some cs->s'.bx k=some cs
 rw:∀k r,s.rw k=some r->s'.rw k=some r
section
variable{P:Program}{s s':St}
theorem Ag.sub{l l':List Nat}(A:Ag l s s')(h:∀t,t∈l'->t∈l):Ag l' s s':=⟨fun t ht=>A.e t (h t ht),A.bx,A.rw⟩
theorem Ag.get{l:List Nat}(A:Ag l s s'){x:X}(h:∀t,t∈x.rd->t∈l):s'.get x=s.get x:=by
 cases x with
 |t i=>exact A.e i (h i (by simp[X.rd]))
 |c a=>rfl
theorem Ag.gets{l:List Nat}(A:Ag l s s'){xs:List X}(h:∀t,t∈xs.flatMap X.rd->t∈l):xs.map s'.get=xs.map s.get:=by
 apply List.map_congr_left
 intro x hx
 exact A.get fun t ht=>h t (List.mem_flatMap.2 ⟨x,hx,ht⟩)
mutual
theorem O1r(h:∀k r,s.rw k=some r->s'.rw k=some r):∀a x,s.dt a=some x->s'.dt a=some x
 |.bool _,x,hx | .int _ _,x,hx | .str _,x,hx | .nl,x,hx | .sl _ _ _,x,hx | .ept _ _,x,hx=>by simpa[St.dt]using hx
 |.tup _,x,hx | .ptr _ _,x,hx | .rpt _ _ _,x,hx | .el,x,hx | .od _ _ _,x,hx | .op _ _ _,x,hx | .und,x,hx | .bad,x,hx=>by simp[St.dt]at hx
 |.sref k,x,hx=>by
  simp only[St.dt,Option.map_eq_some_iff]at hx ⊢
  obtain⟨r,h1,h2⟩:=hx
  exact⟨r,h k r h1,h2⟩
 |.agg cs,x,hx=>by
  rw[St.dt,Option.map_eq_some_iff]at hx ⊢
  obtain⟨y,h1,h2⟩:=hx
  exact⟨y,W1e h cs y h1,h2⟩
 |.fn f cs,x,hx=>by
  rw[St.dt,Option.map_eq_some_iff]at hx ⊢
  obtain⟨y,h1,h2⟩:=hx
  exact⟨y,W1e h cs y h1,h2⟩
theorem W1e(h:∀k r,s.rw k=some r->s'.rw k=some r):∀l y,s.dtL l=some y->s'.dtL l=some y
 |[],y,hy=>by simpa[St.dtL]using hy
 |a::l,y,hy=>by
  rw[St.dtL]at hy ⊢
  split at hy
  .rename_i u v h1 h2
   rw[O1r h a u h1,W1e h l v h2];exact hy
  .cases hy
end
theorem U1D{l:List Nat}(A:Ag l s s'){xs:List X}{as:List AV}(h:∀t,t∈xs.flatMap X.rd->t∈l)(ha:s.args xs=some as):s'.args xs=some as:=by
 unfold St.args at *
 rw[A.gets h]
 split at ha
 .rename_i l' e
  rw[W1e A.rw _ _ e];exact ha
 .cases ha
theorem ld_ag{l:List Nat}(A:Ag l s s'){p v:AV}{n:Nat}{ag:Bool}(h:s.ld p n ag=some v):s'.ld p n ag=some v:=by
 unfold St.ld at *
 split at h
 .exact h
 .exact h
 .split at h
  .rename_i cs hk;simp only[A.bx _ _ hk];exact h
  .cases h
 .split at h
  .rename_i r hr;simp only[A.rw _ _ hr];exact h
  .cases h
 .cases h
theorem Q1Q{l:List Nat}(A:Ag l s s'){o:Option X}(h:∀t,t∈rdO o->t∈l)(n:Nat):s'.lo o n=s.lo o n:=by
 cases o with
 |none=>rfl
 |some x=>simp only[St.lo];rw[A.get h]
theorem J1Q{l:List Nat}(A:Ag l s s'){o:Option X}(h:∀t,t∈rdO o->t∈l)(n:Nat):s'.hi o n=s.hi o n:=by
 cases o with
 |none=>rfl
 |some x=>simp only[St.hi];rw[A.get h]
theorem J0m{t:Nat}{v:AV}:(s.set t v).e t=v:=by simp[St.set,upd]
def Yld(P:Program)(l:LOp)(s:St)(v:AV):Prop:=∀s',Ag l.rds s s'->∀K:St->Prop,K (s'.set l.dst v)->wop P l K s'
theorem W1v{K:St->Prop}{l:LOp}(hq:isQ1 l=true)(hsc:scOk s l)(h:wop P l K s):∃v,K (s.set l.dst v)/\Yld P l s v:=by
 cases l with
 |mv d x =>
  exact⟨_,h,fun s' A K' hK=>by have e:=A.get (x:=x) (fun t h=>h);simp only[wop,e];exact hK⟩
 |pk d x y z =>
  simp only[wop]at h
  split at h
  .rename_i t ht
   refine⟨_,h,fun s' A K' hK=>?_⟩
   have e1:=A.get (x:=x) (fun t h=>by simp[LOp.rds,h])
   have e2:=A.get (x:=y) (fun t h=>by simp[LOp.rds,h])
   have e3:=A.get (x:=z) (fun t h=>by simp[LOp.rds,h])
   simp only[wop,e1,e2,e3,ht];exact hK
  .cases h
 |un d x =>
  simp only[wop]at h
  split at h
  .rename_i t ht
   refine⟨_,h,fun s' A K' hK=>?_⟩
   have e1:=A.get (x:=x) (fun t h=>h)
   simp only[wop,e1,ht];exact hK
  .cases h
 |bi d op x y =>
  simp only[wop]at h
  split at h
  .rename_i t ht
   refine⟨_,h,fun s' A K' hK=>?_⟩
   have e1:=A.get (x:=x) (fun t h=>by simp[LOp.rds,h])
   have e2:=A.get (x:=y) (fun t h=>by simp[LOp.rds,h])
   simp only[wop,e1,e2,ht];exact hK
  .cases h
 |eb d ne x y =>
  simp only[wop]at h
  split at h
  .rename_i t ht ht2
   refine⟨_,h,fun s' A K' hK=>?_⟩
   have e1:=A.get (x:=x) (fun t h=>by simp[LOp.rds,h])
   have e2:=A.get (x:=y) (fun t h=>by simp[LOp.rds,h])
   simp only[wop,e1,e2,ht,ht2];exact hK
  .cases h
 |es d ne ks x y =>
  simp only[wop]at h
  split at h
  .rename_i t1 t2 ht ht2
   split at h
   .rename_i r hr
    refine⟨_,h,fun s' A K' hK=>?_⟩
    have e1:=A.get (x:=x) (fun t h=>by simp[LOp.rds,h])
    have e2:=A.get (x:=y) (fun t h=>by simp[LOp.rds,h])
    simp only[wop,e1,e2,ht,ht2,hr];exact hK
   .cases h
  .cases h
 |sa d x y =>
  simp only[wop]at h
  split at h
  .rename_i t ht ht2
   refine⟨_,h.2,fun s' A K' hK=>?_⟩
   have e1:=A.get (x:=x) (fun t h=>by simp[LOp.rds,h])
   have e2:=A.get (x:=y) (fun t h=>by simp[LOp.rds,h])
   simp only[wop,e1,e2,ht,ht2];exact⟨h.1,hK⟩
  .cases h
 |cv d k x =>
  simp only[wop]at h
  split at h
  .rename_i k' t ht
   refine⟨_,h,fun s' A K' hK=>?_⟩
   have e1:=A.get (x:=x) (fun t h=>h)
   simp only[wop,e1,ht];exact hK
  .cases h
 |fa d x off =>
  simp only[wop]at h
  split at h
  .rename_i k o ht
   refine⟨_,h.2,fun s' A K' hK=>?_⟩
   have e1:=A.get (x:=x) (fun t h=>h)
   obtain⟨cs,hcs⟩:=Option.isSome_iff_exists.1 h.1
   simp only[wop,e1,ht];exact⟨by rw[A.bx _ _ hcs];rfl,hK⟩
  .rename_i e o ht
   refine⟨_,h,fun s' A K' hK=>?_⟩
   have e1:=A.get (x:=x) (fun t h=>h)
   simp only[wop,e1,ht];exact hK
  .rename_i e o ht
   refine⟨_,h,fun s' A K' hK=>?_⟩
   have e1:=A.get (x:=x) (fun t h=>h)
   simp only[wop,e1,ht];exact hK
  .rename_i k i o ht
   refine⟨_,h.2,fun s' A K' hK=>?_⟩
   have e1:=A.get (x:=x) (fun t h=>h)
   obtain⟨r,hr⟩:=Option.isSome_iff_exists.1 h.1
   simp only[wop,e1,ht];exact⟨by rw[A.rw _ _ hr];rfl,hK⟩
  .cases h
 |ia d x i n =>
  simp only[wop]at h
  split at h
  .rename_i t sz es ht
   split at h
   .rename_i j hj
    split at h
    .rename_i e he
     refine⟨_,h.2,fun s' A K' hK=>?_⟩
     have e1:=A.get (x:=x) (fun t h=>by simp[LOp.rds,h])
     have e2:=A.get (x:=i) (fun t h=>by simp[LOp.rds,h])
     simp only[wop,e1,e2,ht,hj,he];exact⟨h.1,hK⟩
    .cases h
   .cases h
  .rename_i k ht
   split at h
   .rename_i r hr
    split at h
    .rename_i j hj
     refine⟨_,h.2,fun s' A K' hK=>?_⟩
     have e1:=A.get (x:=x) (fun t h=>by simp[LOp.rds,h])
     have e2:=A.get (x:=i) (fun t h=>by simp[LOp.rds,h])
     simp only[wop,e1,e2,ht,A.rw _ _ hr,hj];exact⟨h.1,hK⟩
    .cases h
   .cases h
  .cases h
 |ix d x i =>
  simp only[wop]at h
  split at h
  .rename_i l ht
   split at h
   .rename_i j hj
    split at h
    .rename_i b hb
     refine⟨_,h,fun s' A K' hK=>?_⟩
     have e1:=A.get (x:=x) (fun t h=>by simp[LOp.rds,h])
     have e2:=A.get (x:=i) (fun t h=>by simp[LOp.rds,h])
     simp only[wop,e1,e2,ht,hj,hb];exact hK
    .cases h
   .cases h
  .cases h
 |ld d p n ag =>
  simp only[wop]at h
  split at h
  .rename_i v hv
   refine⟨_,h,fun s' A K' hK=>?_⟩
   have e1:=A.get (x:=p) (fun t h=>h)
   simp only[wop,e1,ld_ag A hv];exact hK
  .cases h
 |bd d z ps =>
  simp only[wop]at h
  split at h
  .rename_i cs hcs
   refine⟨_,h.2,fun s' A K' hK=>?_⟩
   have e1:(ps.map fun(off,n,x)=>(off,n,s'.get x))=ps.map fun(off,n,x)=>(off,n,s.get x):=by
    apply List.map_congr_left
    rintro⟨off,n,x⟩ hx
    simp only[Prod.mk.injEq,true_and]
    exact A.get fun t ht=>List.mem_flatMap.2 ⟨_,hx,ht⟩
   simp only[wop,e1,hcs];exact⟨h.1,hK⟩
  .cases h
 |bs d sz ps own =>
  cases own with
  |true=>simp[isQ1]at hq
  |false =>
   simp only[wop]at h
   split at h
   .rename_i es hes
    simp only[yG,yc]at h
    obtain⟨h1,h2,h3,h4,h5⟩:=h
    refine⟨_,h5,fun s' A K' hK=>?_⟩
    have e1:=A.gets (xs:=ps) (fun t h=>h)
    simp only[wop,e1,W1e A.rw _ _ hes,yG,yc];exact⟨h1,h2,h3,h4,hK⟩
   .cases h
 |be d=>exact⟨_,h,fun s' A K' hK=>hK⟩
 |oln d x =>
  simp only[wop]at h
  split at h
  .rename_i m ks n ht
   refine⟨_,h,fun s' A K' hK=>?_⟩
   have e1:=A.get (x:=x) (fun t h=>by simp[LOp.rds,h])
   simp only[wop,e1,ht];exact hK
  .cases h
 |oia d x i n =>
  simp only[wop]at h
  split at h
  .rename_i m ks l ht
   split at h
   .rename_i j hj
    refine⟨_,h.2,fun s' A K' hK=>?_⟩
    have e1:=A.get (x:=x) (fun t h=>by simp[LOp.rds,h])
    have e2:=A.get (x:=i) (fun t h=>by simp[LOp.rds,h])
    simp only[wop,e1,e2,ht,hj];exact⟨h.1,hK⟩
   .cases h
  .cases h
 |ofa d x off =>
  simp only[wop]at h
  split at h
  .rename_i m ks o ht
   refine⟨_,h,fun s' A K' hK=>?_⟩
   have e1:=A.get (x:=x) (fun t h=>by simp[LOp.rds,h])
   simp only[wop,e1,ht];exact hK
  .cases h
 |ae d x y sz by' =>
  simp only[wop]at h
  split at h
  .rename_i hx
   split at h
   .rename_i tt sy news hy
    refine⟨_,h.2.2,fun s' A K' hK=>?_⟩
    have e1:=A.get (x:=x) (fun t h=>by simp[LOp.rds,h])
    have e2:=A.get (x:=y) (fun t h=>by simp[LOp.rds,h])
    simp only[wop,e1,hx,e2,O1r A.rw _ _ hy];exact⟨h.1,h.2.1,hK⟩
   .rename_i hy
    refine⟨_,h,fun s' A K' hK=>?_⟩
    have e1:=A.get (x:=x) (fun t h=>by simp[LOp.rds,h])
    have e2:=A.get (x:=y) (fun t h=>by simp[LOp.rds,h])
    simp only[wop,e1,hx,e2,O1r A.rw _ _ hy];exact hK
   .cases h
  .cases h
 |ls d x =>
  simp only[wop]at h
  split at h
  .rename_i t ht
   refine⟨_,h,fun s' A K' hK=>?_⟩
   have e1:=A.get (x:=x) (fun t h=>h)
   simp only[wop,e1,ht];exact hK
  .cases h
 |lq d x =>
  simp only[wop]at h
  split at h
  .rename_i t sz es ht
   refine⟨_,h.2,fun s' A K' hK=>?_⟩
   have e1:=A.get (x:=x) (fun t h=>h)
   simp only[wop,e1,ht];exact⟨h.1,hK⟩
  .rename_i k ht
   split at h
   .rename_i r hr
    refine⟨_,h.2,fun s' A K' hK=>?_⟩
    have e1:=A.get (x:=x) (fun t h=>h)
    simp only[wop,e1,ht,A.rw _ _ hr];exact⟨h.1,hK⟩
   .cases h
  .rename_i ht
   refine⟨_,h,fun s' A K' hK=>?_⟩
   have e1:=A.get (x:=x) (fun t h=>h)
   simp only[wop,e1,ht];exact hK
  .cases h
 |sc d x lo hi n =>
  simp only[wop]at h
  split at h
  .rename_i t sz es ht
   split at h
   .rename_i hh e2
    split at h
    .rename_i ll e3
     refine⟨_,h.2.2,fun s' A K' hK=>?_⟩
     have e1:=A.get (x:=x) (fun t h=>by simp[LOp.rds,h])
     have q2:=J1Q A (o:=hi) (fun t h=>by simp[LOp.rds,h]) es.length
     have q3:=Q1Q A (o:=lo) (fun t h=>by simp[LOp.rds,h]) hh
     simp only[wop,e1,ht,q2,q3,e2,e3];exact⟨h.1,h.2.1,hK⟩
    .cases h
   .cases h
  .rename_i k ht
   simp only[scOk,ht,O1b,yG]at hsc
  .rename_i ht
   split at h
   .rename_i hh e2
    split at h
    .rename_i ll e3
     refine⟨_,h,fun s' A K' hK=>?_⟩
     have e1:=A.get (x:=x) (fun t h=>by simp[LOp.rds,h])
     have q2:=J1Q A (o:=hi) (fun t h=>by simp[LOp.rds,h]) 0
     have q3:=Q1Q A (o:=lo) (fun t h=>by simp[LOp.rds,h]) hh
     simp only[wop,e1,ht,q2,q3,e2,e3];exact hK
    .cases h
   .cases h
  .cases h
 |ss d x lo hi =>
  simp only[wop]at h
  split at h
  .rename_i b ht
   split at h
   .rename_i hh e2
    split at h
    .rename_i ll e3
     refine⟨_,h,fun s' A K' hK=>?_⟩
     have e1:=A.get (x:=x) (fun t h=>by simp[LOp.rds,h])
     have q2:=J1Q A (o:=hi) (fun t h=>by simp[LOp.rds,h]) b.length
     have q3:=Q1Q A (o:=lo) (fun t h=>by simp[LOp.rds,h]) hh
     simp only[wop,e1,ht,q2,q3,e2,e3];exact hK
    .cases h
   .cases h
  .cases h
 |ex d x i =>
  simp only[wop]at h
  split at h
  .rename_i vs ht
   split at h
   .rename_i v hv
    refine⟨_,h,fun s' A K' hK=>?_⟩
    have e1:=A.get (x:=x) (fun t h=>h)
    simp only[wop,e1,ht,hv];exact hK
   .cases h
  .cases h
 |fd d x off n ag =>
  simp only[wop]at h
  split at h
  .rename_i vs ht
   split at h
   .rename_i v hv
    refine⟨_,h,fun s' A K' hK=>?_⟩
    have e1:=A.get (x:=x) (fun t h=>h)
    simp only[wop,e1,ht,hv];exact hK
   .cases h
  .cases h
 |nc d x =>
  simp only[wop]at h
  split at h
  .rename_i k o ht
   refine⟨_,h.2,fun s' A K' hK=>?_⟩
   have e1:=A.get (x:=x) (fun t h=>h)
   obtain⟨cs,hcs⟩:=Option.isSome_iff_exists.1 h.1
   simp only[wop,e1,ht];exact⟨by rw[A.bx _ _ hcs];rfl,hK⟩
  .rename_i f cs ht
   refine⟨_,h,fun s' A K' hK=>?_⟩
   have e1:=A.get (x:=x) (fun t h=>h)
   simp only[wop,e1,ht];exact hK
  .cases h
 |mm d mx x y =>
  simp only[wop]at h
  split at h
  .rename_i k a k' b ht ht2
   refine⟨_,h.2,fun s' A K' hK=>?_⟩
   have e1:=A.get (x:=x) (fun t h=>by simp[LOp.rds,h])
   have e2:=A.get (x:=y) (fun t h=>by simp[LOp.rds,h])
   simp only[wop,e1,e2,ht,ht2];exact⟨h.1,hK⟩
  .cases h
 |b2s d x =>
  simp only[wop]at h
  split at h
  .rename_i t sz es ht
   obtain⟨l,hl,h⟩:=h
   refine⟨_,h,fun s' A K' hK=>?_⟩
   have e1:=A.get (x:=x) (fun t h=>h)
   simp only[wop,e1,O1r A.rw _ _ ht];exact⟨l,hl,hK⟩
  .rename_i ht
   refine⟨_,h,fun s' A K' hK=>?_⟩
   have e1:=A.get (x:=x) (fun t h=>h)
   simp only[wop,e1,O1r A.rw _ _ ht];exact hK
  .cases h
 |s2b d x =>
  simp only[wop]at h
  split at h
  .rename_i l ht
   refine⟨_,h.2,fun s' A K' hK=>?_⟩
   have e1:=A.get (x:=x) (fun t h=>h)
   simp only[wop,e1,ht];exact⟨h.1,hK⟩
  .cases h
 |mf d f xs =>
  simp only[wop]at h
  refine⟨_,h,fun s' A K' hK=>?_⟩
  simp only[wop,A.gets (xs:=xs) (fun t h=>h)];exact hK
 |cq d f xs =>
  simp only[wop]at h
  obtain⟨as,has,res,rows,hs,h⟩:=h
  refine⟨_,h,fun s' A K' hK=>?_⟩
  simp only[wop];exact⟨as,U1D A (xs:=xs) (fun t h=>h) has,res,rows,hs,hK⟩
 |cc d fx xs =>
  simp only[wop]at h
  obtain⟨as,has,f,cap,as',e,hf,res,rows,hs,h⟩:=h
  refine⟨_,h,fun s' A K' hK=>?_⟩
  simp only[wop];exact⟨as,U1D A (xs:=fx::xs) (fun t h=>by simpa[LOp.rds]using h) has,f,cap,as',e,hf,res,rows,hs,hK⟩
 |_=>simp[isQ1]at hq
theorem O1v{K:St->Prop}{l:LOp}(hq:isQ l=true)(hsc:scOk s l)(h:wop P l K s):∃v,K (s.set l.dst v)/\Yld P l s v:=by
 cases l with
 |g t want o =>
  simp only[isQ]at hq
  simp only[wop]at h
  have hsc':scOk s o:=by cases o<;>first|exact hsc|trivial
  have skip:(s.e t=.und\/∃b,s.e t=.bool b/\b≠want)->K (s.set o.dst .und)->∃v,K (s.set (LOp.g t want o).dst v)/\Yld P (.g t want o) s v:=by
   intro ht hk
   refine⟨.und,hk,fun s' A K' hK=>?_⟩
   have e1:=A.e t (by simp[LOp.rds])
   rcases ht with ht|⟨b,ht,hb⟩
   .simp only[wop,e1,ht];exact hK
   .simp only[wop,e1,ht,hb,yc];exact hK
  split at h
  .rename_i b ht
   split at h
   .rename_i hb
    obtain⟨v,h1,h2⟩:=W1v hq hsc' h
    refine⟨v,h1,fun s' A K' hK=>?_⟩
    have e1:=A.e t (by simp[LOp.rds])
    simp only[wop,e1,ht,hb,yb]
    exact h2 s' (A.sub fun t ht=>by simp[LOp.rds,ht]) K' hK
   .rename_i hb
    exact skip (.inr ⟨b,ht,hb⟩) h
  .rename_i ht
   exact skip (.inl ht) h
  .cases h
 |_=>exact W1v hq hsc h
end
end
section
def alSt(s:St)(d:Nat)(z:List AV):St:=St.set { s with bx:=fun j=>if j=d then some (Z5 d z)else s.bx j } d (.ptr d 0)
def X09(P:Program):List LOp->List AV->(St->Prop)->St->Prop
 |[],_,K,s=>K s
 |.al d z::ls,acc,K,s=>(∀v∈acc,v.dead d=v)/\X09 P ls (.ptr d 0::Z5 d z++acc) K (alSt s d z)
 |l::ls,acc,K,s=>scOk s l/\wop P l (fun s'=>X09 P ls (s'.e l.dst::acc) K s') s
def alKeys:List LOp->List Nat
 |[]=>[]
 |.al d _::ls=>d::alKeys ls
 |_::ls=>alKeys ls
def St.kills(s:St):List Nat->St
 |[]=>s
 |k::ks=>(s.kill k).kills ks
def St.rst(s:St):(Nat->Option Row)×Nat×(Nat->Prop)×(Nat->Prop):=(s.rw,s.nx,s.my,s.kn)
def isAl:LOp->Bool | .al _ _=>true|_=>false
section kill
mutual
theorem M1e(k:Nat):∀a:AV,(a.dead k).dead k=a.dead k
 |.sref j=>by by_cases h:j=k<;>simp[AV.dead,h]
 |.ptr j o=>by by_cases h:j=k<;>simp[AV.dead,h]
 |.rpt j i o=>by by_cases h:j=k<;>simp[AV.dead,h]
 |.agg cs=>by simp[AV.dead,Z02 k cs]
 |.tup cs=>by simp[AV.dead,Z02 k cs]
 |.fn f cs=>by simp[AV.dead,Z02 k cs]
 |.bool _ | .int _ _ | .str _ | .nl | .el | .sl _ _ _ | .ept _ _ | .eot _ _ | .od _ _ _ | .op _ _ _ | .und | .bad=>rfl
theorem Z02(k:Nat):∀l:List AV,Z5 k (Z5 k l)=Z5 k l
 |[]=>rfl
 |a::l=>by simp[Z5,M1e k a,Z02 k l]
end
mutual
theorem L1e(k i:Nat):∀a:AV,a.dead k=a->(a.dead i).dead k=a.dead i
 |.sref j,h=>by by_cases e:j=i<;>simp_all [AV.dead]
 |.ptr j o,h=>by by_cases e:j=i<;>simp_all [AV.dead]
 |.rpt j i o,h=>by
  simp only[AV.dead]at *
  split
  .rfl
  .simpa[AV.dead]using h
 |.agg cs,h=>by simp only[AV.dead,AV.agg.injEq]at *;exact Y02 k i cs h
 |.tup cs,h=>by simp only[AV.dead,AV.tup.injEq]at *;exact Y02 k i cs h
 |.fn f cs,h=>by simp only[AV.dead,AV.fn.injEq,true_and]at *;exact Y02 k i cs h
 |.bool _,_ | .int _ _,_ | .str _,_ | .nl,_ | .el,_ | .sl _ _ _,_ | .ept _ _,_ | .eot _ _,_ | .od _ _ _,_ | .op _ _ _,_ | .und,_ | .bad,_=>rfl
theorem Y02(k i:Nat):∀l:List AV,Z5 k l=l->Z5 k (Z5 i l)=Z5 i l
 |[],_=>rfl
 |a::l,h=>by
  simp only[Z5,yW]at *
  exact⟨L1e k i a h.1,Y02 k i l h.2⟩
end
structure Free(k:Nat)(s:St):Prop where
 e:∀t,(s.e t).dead k=s.e t
 bx:s.bx k=none
 rw:s.rw k=none
 bd:∀j cs,s.bx j=some cs->Z5 k cs=cs
theorem Free.kill{k i:Nat}{s:St}(F:Free k s):Free k (s.kill i) where
 e:=fun t=>L1e k i _ (F.e t)
 bx:=by simp[St.kill,F.bx]
 rw:=by simp[St.kill,F.rw]
 bd:=fun j cs h=>by
  obtain⟨_,c0,h0,rfl⟩:=X6 h
  exact Y02 k i c0 (F.bd j c0 h0)
theorem Free.of_kill{k:Nat}{s:St}:Free k (s.kill k) where
 e:=fun t=>M1e k _
 bx:=by simp[St.kill]
 rw:=by simp[St.kill]
 bd:=fun j cs h=>by
  obtain⟨_,c0,h0,rfl⟩:=X6 h
  exact Z02 k c0
theorem Free.kills{k:Nat}:∀{ks:List Nat} {s:St},Free k s->Free k (s.kills ks)
 |[],_,F=>F
 |_::ks,_,F=>Free.kills (ks:=ks) F.kill
theorem V0y:∀{ks:List Nat} {s:St} {k:Nat},k∈ks->Free k (s.kills ks)
 |k::ks,s,k',h=>by
  rcases yX h with rfl|h
  .exact Free.kills (ks:=ks) Free.of_kill
  .exact V0y (ks:=ks) h
variable{c:Cx}{g:Gh}{s:St}{a:Act}{w:World}
theorem Inv.kill(I:Inv c g s a w)(k:Nat):Inv c g (s.kill k) a w:=by
 have T:Turn (·≠k) w w g g s (s.kill k):=by
  refine⟨fun _ _ h=>h,fun _ h=>h,TLe.of (fun _ h=>h) rfl,fun _ _ _=>rfl,fun j hj r h=>⟨r,(X9 h).2,rfl,rfl⟩,fun j hj c' h=>?_,fun _ _ h=>h,J14⟩
  obtain⟨_,c0,h0,_⟩:=X6 h
  exact⟨c0,h0,rfl⟩
 refine⟨I.defers,I.nt,I.fr,fun i=>(I.tm i).turn_dead T,?_,?_,?_,?_,?_,?_,?_,I.sw,I.nn,I.nx,I.fix,I.sm,I.sb,I.ow.turn rfl (fun _ h=>h) (yV _) (fun _ _=>rfl) (fun j cs' h=>by obtain⟨_,c0,h0,_⟩:=X6 h;exact I.ow.bx j c0 h0) (fun j r h=>I.ow.rw j r (X9 h).2),I.uf,I.sd⟩
 .intro j cs' h
  obtain⟨_,c0,h0,rfl⟩:=X6 h
  exact V02 T (I.bxs j c0 h0)
 .intro j cs' h
  obtain⟨_,c0,h0,rfl⟩:=X6 h
  exact I.bxn j c0 h0
 .intro j r h;exact I.rws j r (X9 h).2
 .intro j r h;exact I.rwn j r (X9 h).2
 .intro j j' c1 c2 h1 h2 hne
  obtain⟨_,d1,h1',_⟩:=X6 h1
  obtain⟨_,d2,h2',_⟩:=X6 h2
  exact I.dbb j j' d1 d2 h1' h2' hne
 .intro j j' c1 r h1 h2
  obtain⟨_,d1,h1',_⟩:=X6 h1
  exact I.dbr j j' d1 r h1' (X9 h2).2
 .intro j j' r r' h1 h2 hne
  exact I.drr j j' r r' (X9 h1).2 (X9 h2).2 hne
theorem Inv.kills:∀(ks:List Nat) {s:St},Inv c g s a w->Inv c g (s.kills ks) a w
 |[],_,I=>I
 |k::ks,_,I=>Inv.kills ks (I.kill k)
end kill
section
variable{P:Program}
inductive Tr(P:Program):List LOp->List AV->St->St->Prop
 |nil (acc:List AV) (s:St):Tr P [] acc s s
 |al {d:Nat} {z:List AV} {ls:List LOp} {acc:List AV} {s sm:St} (h1:∀v∈acc,v.dead d=v) (h:Tr P ls (.ptr d 0::Z5 d z++acc) (alSt s d z) sm):Tr P (.al d z::ls) acc s sm
 |q {l:LOp} {ls:List LOp} {acc:List AV} {s sm:St} {v:AV} (ha:isAl l=false) (h1:Yld P l s v) (h:Tr P ls (v::acc) (s.set l.dst v) sm):Tr P (l::ls) acc s sm
def isQA(l:LOp):Bool:=isAl l||isQ l
theorem W1M{K:St->Prop}:∀{ls:List LOp} {acc:List AV} {s:St},ls.all isQA=true->X09 P ls acc K s->∃sm,Tr P ls acc s sm/\K sm
 |[],acc,s,_,h=>⟨s,.nil acc s,h⟩
 |l::ls,acc,s,hq,h=>by
  simp only[List.all_cons,yD]at hq
  have main:isAl l=false->scOk s l/\wop P l (fun s'=>X09 P ls (s'.e l.dst::acc) K s') s->∃sm,Tr P (l::ls) acc s sm/\K sm:=by
   rintro ha ⟨h1,h2⟩
   have hq1:isQ l=true:=by simpa[isQA,ha]using hq.1
   obtain⟨v,q1,q2⟩:=O1v hq1 h1 h2
   rw[J0m]at q1
   obtain⟨sm,t1,t2⟩:=W1M hq.2 q1
   exact⟨sm,.q ha q2 t1,t2⟩
  cases l with
  |al d z =>
   simp only[X09]at h
   obtain⟨sm,t1,t2⟩:=W1M hq.2 h.2
   exact⟨sm,.al h.1 t1,t2⟩
  |_=>exact main rfl h
theorem M1g{ls:List LOp}{acc:List AV}{s sm:St}(h:Tr P ls acc s sm):(∀t,t∉ls.map LOp.dst->sm.e t=s.e t/\sm.bx t=s.bx t)/\sm.rst=s.rst/\∀k,(∀l∈ls,isAl l=true->l.dst≠k)->sm.bx k=s.bx k:=by
 induction h with
 |nil acc s=>exact⟨fun _ _=>⟨rfl,rfl⟩,rfl,fun _ _=>rfl⟩
 |al h1 h ih =>
  rename_i d z ls acc s sm
  refine⟨fun t ht=>?_,ih.2.1,fun k hk=>?_⟩
  .simp only[List.map_cons,List.mem_cons,not_or]at ht
   have q:=ih.1 t ht.2
   have hd:t≠d:=ht.1
   rw[q.1,q.2]
   simp[alSt,St.set,upd,hd]
  .rw[ih.2.2 k fun l hl ha=>hk l (by simp[hl]) ha]
   have hd:k≠d:=fun e=>hk (.al d z) (by simp) rfl e.symm
   simp[alSt,St.set,hd]
 |q ha h1 h ih =>
  rename_i l ls acc s sm v
  refine⟨fun t ht=>?_,ih.2.1,fun k hk=>?_⟩
  .simp only[List.map_cons,List.mem_cons,not_or]at ht
   have q:=ih.1 t ht.2
   rw[q.1,q.2]
   simp[St.set,upd,ht.1]
  .rw[ih.2.2 k fun l hl ha=>hk l (by simp[hl]) ha]
   rfl
open Classical in
noncomputable def mix(ls:List LOp)(L:Nat->Prop)(s0 sm:St):St where
 e:=fun t=>if ∃(j:Nat) (l:LOp),ls[j]?=some l/\L j/\l.dst=t then sm.e t else s0.e t
 bx:=fun k=>if ∃(j:Nat) (l:LOp),ls[j]?=some l/\L j/\isAl l=true/\l.dst=k then sm.bx k else s0.bx k
 rw:=s0.rw
 nx:=s0.nx
 my:=s0.my
 kn:=s0.kn
theorem Jm{s s':St}(h1:∀t,s.e t=s'.e t)(h2:∀t,s.bx t=s'.bx t)(h3:s.rst=s'.rst):s=s':=by
 obtain⟨e,b,r,n,m,kk⟩:=s
 obtain⟨e',b',r',n',m',kk'⟩:=s'
 simp only[St.rst,Prod.mk.injEq]at h1 h2 h3
 obtain⟨rfl,rfl,rfl,rfl⟩:=h3
 have e1:e=e':=funext h1
 have e2:b=b':=funext h2
 subst e1;subst e2;rfl
def Fct(P:Program)(ls:List LOp)(s0 sm:St)(i:Nat)(l:LOp):Prop :=
 (isAl l=false->Yld P l (mix ls (·<i) s0 sm) (sm.e l.dst)) /\
 (∀d z,l=.al d z->sm.e d=.ptr d 0/\sm.bx d=some (Z5 d z) /\
  ∀(j:Nat) (l':LOp),ls[j]?=some l'->j<i->(sm.e l'.dst).dead d=sm.e l'.dst/\(isAl l'=true->∀cs,sm.bx l'.dst=some cs->Z5 d cs=cs))
theorem U1U{ls:List LOp}{s0 sm:St}(hn:(ls.map LOp.dst).Nodup):∀(suf pre:List LOp) (acc:List AV) (s:St),ls=pre++suf->Tr P suf acc s sm ->
  s=mix ls (·<pre.length) s0 sm->(∀(j:Nat) (l':LOp),ls[j]?=some l'->j<pre.length->sm.e l'.dst∈acc/\(isAl l'=true->∀cs,sm.bx l'.dst=some cs->∀x∈cs,x∈acc)) ->
  ∀(i:Nat) (l:LOp),suf[i]?=some l->Fct P ls s0 sm (pre.length+i) l:=by
 intro suf
 induction suf with
 |nil=>intro pre acc s _ _ _ _ i l hl;simp at hl
 |cons x suf ih =>
  intro pre acc s hls htr hs hacc i l hl
  have hx:ls[pre.length]?=some x:=by rw[hls];simp
  have hnx:x.dst∉suf.map LOp.dst:=by
   rw[hls]at hn
   simp only[List.map_append,List.map_cons,List.nodup_append,List.nodup_cons]at hn
   exact hn.2.1.1
  have hlen:(pre++[x]).length=pre.length+1:=by simp
  have hstep:∀(s':St),(∀t,s'.e t=if t=x.dst then sm.e t else s.e t)->(∀t,s'.bx t=if t=x.dst/\isAl x=true then sm.bx t else s.bx t)->s'.rst=s.rst ->
    s'=mix ls (·<(pre++[x]).length) s0 sm:=by
   intro s' h1 h2 h3
   subst hs
   refine Jm (fun t=>?_) (fun t=>?_) h3
   .rw[h1 t]
    simp only[mix]
    by_cases ht:t=x.dst
    .rw[yd ht,yd ⟨pre.length,x,hx,by omega,ht.symm⟩]
    .rw[ye ht]
     congr 1
     apply propext
     constructor
     .rintro⟨j,l',q1,q2,q3⟩;exact⟨j,l',q1,by omega,q3⟩
     .rintro⟨j,l',q1,q2,q3⟩
      refine⟨j,l',q1,?_,q3⟩
      rcases Nat.lt_or_ge j pre.length with h|h
      .exact h
      .have:j=pre.length:=by omega
       subst this
       rw[hx]at q1;cases q1
       exact absurd q3.symm ht
   .rw[h2 t]
    simp only[mix]
    by_cases ht:t=x.dst/\isAl x=true
    .rw[yd ht,yd ⟨pre.length,x,hx,by omega,ht.2,ht.1.symm⟩]
    .rw[ye ht]
     congr 1
     apply propext
     constructor
     .rintro⟨j,l',q1,q2,q3⟩;exact⟨j,l',q1,by omega,q3⟩
     .rintro⟨j,l',q1,q2,q3,q4⟩
      refine⟨j,l',q1,?_,q3,q4⟩
      rcases Nat.lt_or_ge j pre.length with h|h
      .exact h
      .have:j=pre.length:=by omega
       subst this
       rw[hx]at q1;cases q1
       exact absurd ⟨q4.symm,q3⟩ ht
  cases htr with
  |al h1 h =>
   rename_i d z
   have hk:=M1g h
   have hk1:=hk.1 d hnx
   have e1:sm.e d=.ptr d 0:=by rw[hk1.1];simp[alSt,St.set,upd]
   have e2:sm.bx d=some (Z5 d z):=by rw[hk1.2];simp[alSt,St.set]
   cases i with
   |zero =>
    simp at hl;subst hl
    refine⟨fun h=>(by simp[isAl]at h),fun d' z' he=>?_⟩
    cases he
    refine⟨e1,e2,fun j l' hj hlt=>?_⟩
    have:=hacc j l' hj hlt
    refine⟨h1 _ this.1,fun ha cs hcs=>?_⟩
    rw[Za]
    conv=>rhs;rw[← List.map_id cs]
    exact List.map_congr_left fun y hy=>h1 y (this.2 ha cs hcs y hy)
   |succ i =>
    have:=ih (pre++[.al d z]) _ _ (by rw[hls];simp) h (hstep (alSt s d z) (fun t=>?_) (fun t=>?_) rfl) (fun j l' hj hlt=>?_) i l (by simpa using hl)
    .simpa[Nat.add_assoc,Nat.add_comm 1 i]using this
    .simp only[alSt,St.set,upd,LOp.dst]
     by_cases ht:t=d
     .subst ht;simp[e1]
     .simp[ht]
    .simp only[alSt,St.set,LOp.dst,isAl,and_true]
     by_cases ht:t=d
     .subst ht;simp[e2]
     .simp[ht]
    .simp only[yU,List.length_singleton]at hlt
     rcases Nat.lt_or_ge j pre.length with hjl|hjl
     .have:=hacc j l' hj hjl
      exact⟨by simp[this.1],fun ha cs hcs y hy=>by have:=this.2 ha cs hcs y hy;simp[this]⟩
     .have:j=pre.length:=by omega
      subst this
      rw[hx]at hj;cases hj
      refine⟨by simp[LOp.dst,e1],fun _ cs hcs y hy=>?_⟩
      simp only[LOp.dst,e2,yI]at hcs
      subst hcs
      simp[hy]
  |q ha h1 h =>
   rename_i v
   have hk:=M1g h
   have hk1:=hk.1 x.dst hnx
   have e1:sm.e x.dst=v:=by rw[hk1.1];simp[St.set,upd]
   cases i with
   |zero =>
    simp at hl;subst hl
    refine⟨fun _=>?_,fun d z he=>(by subst he;simp[isAl]at ha)⟩
    rw[e1]
    have:mix ls (·<pre.length+0) s0 sm=s:=hs.symm
    rw[this];exact h1
   |succ i =>
    have:=ih (pre++[x]) _ _ (by rw[hls];simp) h (hstep (s.set x.dst v) (fun t=>?_) (fun t=>?_) rfl) (fun j l' hj hlt=>?_) i l (by simpa using hl)
    .simpa[Nat.add_assoc,Nat.add_comm 1 i]using this
    .simp only[St.set,upd]
     by_cases ht:t=x.dst
     .simp[ht,e1]
     .simp[ht]
    .simp[St.set,ha]
    .simp only[yU,List.length_singleton]at hlt
     rcases Nat.lt_or_ge j pre.length with hjl|hjl
     .have:=hacc j l' hj hjl
      exact⟨by simp[this.1],fun ha cs hcs y hy=>by have:=this.2 ha cs hcs y hy;simp[this]⟩
     .have:j=pre.length:=by omega
      subst this
      rw[hx]at hj;cases hj
      exact⟨by simp[e1],fun h=>by rw[ha]at h;cases h⟩
end
end
section
def V1Q(acc:List Nat)(m:Nat)(e:Edge):Nat:=if Region.binds .any e then m ||| (1 <<< e.on) ||| acc.getD e.on 0 else m
def Z10(o:Oper)(acc:List Nat):Nat:=o.after.toList.foldl (V1Q acc) 0
def JY:List Oper->List Nat->List Nat
 |[],acc=>acc
 |o::os,acc=>JY os (acc++[Z10 o acc])
def Clo(ops:Array Oper)(L:Nat->Prop):Prop:=∀(i:Nat) (o:Oper),ops[i]?=some o->L i->∀e∈o.after,Region.binds .any e=true->L e.on
theorem V1c{acc:List Nat}{j:Nat}:∀(l:List Edge) (m:Nat),(l.foldl (V1Q acc) m).testBit j=true->m.testBit j=true\/∃e∈l,Region.binds .any e=true/\(j=e.on\/(acc.getD e.on 0).testBit j=true)
 |[],m,h=>.inl h
 |e::l,m,h=>by
  rcases V1c l _ h with h|⟨e',h1,h2,h3⟩
  .unfold V1Q at h
   split at h
   .rename_i hb
    simp only[Nat.testBit_or,Bool.or_eq_true]at h
    rcases h with(h|h)|h
    .exact .inl h
    .refine .inr ⟨e,by simp,hb,.inl ?_⟩
     rw[Nat.one_shiftLeft,Nat.testBit_two_pow]at h
     exact(by simpa using h:e.on=j).symm
    .exact .inr ⟨e,by simp,hb,.inr h⟩
   .exact .inl h
  .exact .inr ⟨e',by simp[h1],h2,h3⟩
def M1o(ops:Array Oper)(i m:Nat):Prop :=
 ∀(L:Nat->Prop),Clo ops L->(∀o,ops[i]?=some o->∀e∈o.after,Region.binds .any e=true->L e.on)->∀j,m.testBit j=true->L j
theorem Z14{ops:Array Oper}:∀(os:List Oper) (acc:List Nat),(∀k,os[k]?=ops[acc.length+k]?)->(∀i,i<acc.length->M1o ops i (acc.getD i 0)) ->
  ∀i,i<acc.length+os.length->M1o ops i ((JY os acc).getD i 0)
 |[],acc,_,h,i,hi=>h i (by simpa using hi)
 |o::os,acc,ho,h,i,hi=>by
  simp only[JY]
  refine Z14 os (acc++[Z10 o acc]) (fun k=>?_) (fun i hi=>?_) i (by simp at hi ⊢;omega)
  .have:=ho (k+1)
   simpa[Nat.add_assoc,Nat.add_comm 1 k]using this
  .by_cases hlt:i<acc.length
   .have:(acc++[Z10 o acc]).getD i 0=acc.getD i 0:=by simp[List.getD_eq_getElem?_getD,yK hlt]
    rw[this];exact h i hlt
   .have hie:i=acc.length:=by simp at hi;omega
    subst hie
    have:(acc++[Z10 o acc]).getD acc.length 0=Z10 o acc:=by simp[List.getD_eq_getElem?_getD]
    rw[this]
    intro L hL he j hj
    have ho0:ops[acc.length]?=some o:=by simpa using(ho 0).symm
    unfold Z10 at hj
    rcases V1c _ _ hj with hj|⟨e,h1,h2,h3⟩
    .simp at hj
    .have hLe:=he o ho0 e (by simpa using h1) h2
     rcases h3 with rfl|h3
     .exact hLe
     .by_cases hel:e.on<acc.length
      .exact h e.on hel L hL (fun o' ho' e' he' hb'=>hL e.on o' ho' hLe e' he' hb') j h3
      .rw[List.getD_eq_getElem?_getD,List.getElem?_eq_none (by omega)]at h3
       simp at h3
def UW:List Nat->Bool
 |[]=>true
 |x::l=>!l.contains x&&UW l
theorem Uq:∀{l:List Nat},UW l=true->l.Nodup
 |[],_=>.nil
 |x::l,h=>by
  simp only[UW,yD,Bool.not_eq_true',List.contains_eq_mem,decide_eq_false_iff_not]at h
  exact List.nodup_cons.2 ⟨h.1,Uq h.2⟩
def V13(l:LOp)(mask:Nat):List LOp->Nat->Bool
 |[],_=>true
 |l'::ls,j=>(!l.rds.contains l'.dst||mask.testBit j)&&V13 l mask ls (j+1)
theorem X0Z{l:LOp}{mask:Nat}:∀{ls:List LOp} {k:Nat},V13 l mask ls k=true->∀(j:Nat) (l':LOp),ls[j]?=some l'->l'.dst∈l.rds->mask.testBit (k+j)=true
 |[],_,_,j,l',h,_=>by simp at h
 |x::ls,k,h,j,l',hj,hm=>by
  simp only[V13,yD,Bool.or_eq_true,Bool.not_eq_true',List.contains_eq_mem,decide_eq_false_iff_not]at h
  cases j with
  |zero=>simp at hj;subst hj;exact h.1.resolve_left (fun hn=>hn hm)
  |succ j=>have:=X0Z h.2 j l' (by simpa using hj) hm;rwa [show k+(j+1)=k+1+j by omega]
def X0z(mask:Nat):Nat->Bool
 |0=>true
 |n+1=>mask.testBit n&&X0z mask n
theorem Y0z{mask:Nat}:∀{n:Nat},X0z mask n=true->∀j,j<n->mask.testBit j=true
 |0,_,j,h=>by omega
 |n+1,h,j,hj=>by
  simp only[X0z,yD]at h
  by_cases e:j=n
  .subst e;exact h.1
  .exact Y0z h.2 j (by omega)
def W1o(mask i:Nat):List LOp->Nat->Bool
 |[],_=>true
 |l'::ls,j=>(!isAl l'||!decide (j<i)||mask.testBit j)&&W1o mask i ls (j+1)
theorem X1g{mask i:Nat}:∀{ls:List LOp} {k:Nat},W1o mask i ls k=true->∀(j:Nat) (l':LOp),ls[j]?=some l'->isAl l'=true->k+j<i->mask.testBit (k+j)=true
 |[],_,_,j,l',h,_,_=>by simp at h
 |x::ls,k,h,j,l',hj,hm,hlt=>by
  simp only[W1o,yD,Bool.or_eq_true,Bool.not_eq_true',decide_eq_false_iff_not]at h
  cases j with
  |zero =>
   simp at hj;subst hj
   rcases h.1 with(h|h)|h
   .rw[hm]at h;cases h
   .exact absurd (by simpa using hlt) h
   .exact h
  |succ j=>have:=X1g h.2 j l' (by simpa using hj) hm (by omega);rwa [show k+(j+1)=k+1+j by omega]
def M0r(P:Program)(nt:Nat)(ops:Array Oper)(q:List LOp)(m i mask:Nat)(l:LOp)(o:Oper):Bool :=
 chk1 P nt ops l o&&(o.after.toList.all fun e=>!Region.binds .any e||decide (e.on<i)) &&
  (if i<m then isQA l&&V13 l mask q 0&&W1o mask i q 0 else X0z mask i)
def L1i(P:Program)(nt:Nat)(ops:Array Oper)(q:List LOp)(m:Nat):Nat->List LOp->List Oper->List Nat->Bool
 |_,[],[],_=>true
 |i,l::ls,o::os,mk::mks=>M0r P nt ops q m i mk l o&&L1i P nt ops q m (i+1) ls os mks
 |_,_,_,_=>false
theorem X1o{P:Program}{nt:Nat}{ops:Array Oper}{q:List LOp}{m:Nat}:∀{ls:List LOp} {os:List Oper} {mks:List Nat} {k:Nat},L1i P nt ops q m k ls os mks=true ->
  ls.length=os.length/\∀(i:Nat) (l:LOp) (o:Oper),ls[i]?=some l->os[i]?=some o->M0r P nt ops q m (k+i) (mks.getD i 0) l o=true
 |[],[],_,_,_=>⟨rfl,by intro i l o h;simp at h⟩
 |l::ls,o::os,mk::mks,k,h=>by
  simp only[L1i,yD]at h
  obtain⟨q1,q2⟩:=X1o h.2
  refine⟨by simp[q1],fun i l' o' hl ho=>?_⟩
  cases i with
  |zero=>simp at hl ho;subst hl;subst ho;exact h.1
  |succ i =>
   have:=q2 i l' o' (by simpa using hl) (by simpa using ho)
   rw[show k+(i+1)=k+1+i by omega]
   simpa[List.getD_eq_getElem?_getD]using this
 |[],_::_,_,_,h=>by simp[L1i]at h
 |_::_,[],_,_,h=>by simp[L1i]at h
 |_::_,_::_,[],_,h=>by simp[L1i]at h
def chkQ(P:Program)(nt:Nat)(ops:Array Oper)(ls:List LOp)(m:Nat):Bool :=
 decide (m<=ls.length)&&UW ((ls.take m).map LOp.dst)&&L1i P nt ops (ls.take m) m 0 ls ops.toList (JY ops.toList [])
section
variable{P:Program}{c:Cx}{ops:Array Oper}{ls:List LOp}{m:Nat}{K:St->Prop}{Q':Exit->Act->World->Prop}
def Lst(listed:Array Bool):Nat->Prop:=fun j=>listed.getD j false=true
theorem unl{listed:Array Bool}{j:Nat}(h:j<listed.size):listed.getD j true=false↔¬ Lst listed j:=by
 simp[Lst,Array.getD_eq_getD_getElem?,Array.getElem?_eq_getElem h]
theorem Y14{listed:Array Bool}{i j:Nat}(h:i<listed.size):Lst (listed.setIfInBounds i true) j↔Lst listed j\/j=i:=by
 simp only[Lst,Array.getD_eq_getD_getElem?,Array.getElem?_setIfInBounds]
 by_cases e:i=j
 .subst e;simp[h]
 .simp[e,Ne.symm e]
theorem Ye{listed:Array Bool}{i n:Nat}(h:i<listed.size)(hu:¬ Lst listed i)(hc:listed.toList.count false<=n+1):(listed.setIfInBounds i true).toList.count false<=n:=by
 rw[Array.toList_setIfInBounds,List.count_set (by simpa using h)]
 have hf:listed.toList[i]'(by simpa using h)=false:=by
  simp only[Lst,Array.getD_eq_getD_getElem?,Array.getElem?_eq_getElem h]at hu
  simpa using hu
 have h2:(true==false)=false:=rfl
 simp only[hf,beq_self_eq_true,yb,h2,yG,yc]
 omega
theorem W0r{listed:Array Bool}{i:Nat}(h:i<listed.size)(hu:¬ Lst listed i):0<listed.toList.count false:=by
 rw[List.count_pos_iff]
 have hf:listed[i]=false:=by
  simp only[Lst,Array.getD_eq_getD_getElem?,Array.getElem?_eq_getElem h]at hu
  simpa using hu
 rw[← hf];simp
structure Ok(P:Program)(nt:Nat)(ops:Array Oper)(ls:List LOp)(m:Nat):Prop where
 len:ls.length=ops.size
 mle:m<=ls.length
 nd:((ls.take m).map LOp.dst).Nodup
 one:∀(i:Nat) (l:LOp) (o:Oper),ls[i]?=some l->ops[i]?=some o->chk1 P nt ops l o=true
 edge:∀(i:Nat) (o:Oper),ops[i]?=some o->∀e∈o.after,Region.binds .any e=true->e.on<i
 qa:(ls.take m).all isQA=true
 rd:∀(i:Nat) (l:LOp) (o:Oper) (L:Nat->Prop),i<m->ls[i]?=some l->ops[i]?=some o->Clo ops L->(∀e∈o.after,Region.binds .any e=true->L e.on) ->
  ∀(j:Nat) (l':LOp),(ls.take m)[j]?=some l'->l'.dst∈l.rds->L j/\j<i
 al:∀(i:Nat) (l:LOp) (o:Oper) (L:Nat->Prop),i<m->ls[i]?=some l->ops[i]?=some o->Clo ops L->(∀e∈o.after,Region.binds .any e=true->L e.on) ->
  ∀(j:Nat) (l':LOp),(ls.take m)[j]?=some l'->isAl l'=true->j<i->L j
 tl:∀(i:Nat) (o:Oper) (L:Nat->Prop),m<=i->ops[i]?=some o->Clo ops L->(∀e∈o.after,Region.binds .any e=true->L e.on)->∀j,j<i->L j
theorem V1S{nt:Nat}(h:chkQ P nt ops ls m=true):Ok P nt ops ls m:=by
 simp only[chkQ,yD,yO]at h
 obtain⟨⟨h1,h2⟩,h3⟩:=h
 obtain⟨q1,q2⟩:=X1o h3
 have hlen:ls.length=ops.size:=by simpa using q1
 have hm:∀i,i<ops.size->M1o ops i ((JY ops.toList []).getD i 0):=fun i hi=>Z14 ops.toList [] (by simp) (by simp) i (by simpa using hi)
 have lt_of:∀{i:Nat} {o:Oper},ops[i]?=some o->i<ops.size:=fun h=>(Array.getElem?_eq_some_iff.1 h).1
 have all:∀(i:Nat) (o:Oper),ops[i]?=some o->∃l,ls[i]?=some l/\M0r P nt ops (ls.take m) m i ((JY ops.toList []).getD i 0) l o=true:=fun i o ho=>by
  have hi:i<ls.length:=by rw[hlen];exact lt_of ho
  refine⟨ls[i],yA hi,?_⟩
  have:=q2 i ls[i] o (yA hi) (by simpa using ho)
  rwa [Nat.zero_add]at this
 have edge:∀(i:Nat) (o:Oper),ops[i]?=some o->∀e∈o.after,Region.binds .any e=true->e.on<i:=fun i o ho e he hb=>by
  obtain⟨l,_,hc⟩:=all i o ho
  simp only[M0r,yD,List.all_eq_true]at hc
  have:=hc.1.2 e (by simpa using he)
  simpa[hb]using this
 refine⟨hlen,h1,Uq h2,fun i l o hl ho=>?_,edge,?_,fun i l o L hi hl ho hL he j l' hj hr=>?_,fun i l o L hi hl ho hL he j l' hj ha hji=>?_,fun i o L hi ho hL he j hj=>?_⟩
 .obtain⟨l',hl',hc⟩:=all i o ho
  rw[hl]at hl';cases hl'
  simp only[M0r,yD]at hc
  exact hc.1.1
 .rw[List.all_eq_true]
  intro l hl
  obtain⟨i,hi,rfl⟩:=List.getElem_of_mem hl
  have hi':i<m:=by simp at hi;omega
  have hil:i<ls.length:=by simp at hi;omega
  obtain⟨l',hl',hc⟩:=all i ops[i] (Array.getElem?_eq_getElem (by omega))
  rw[yA hil]at hl';cases hl'
  simp only[M0r,yD,hi',yb]at hc
  rw[List.getElem_take];exact hc.2.1.1
 .obtain⟨l',hl',hc⟩:=all i o ho
  rw[hl]at hl';cases hl'
  simp only[M0r,yD,hi,yb]at hc
  have hb:=X0Z hc.2.1.2 j l' hj hr
  rw[Nat.zero_add]at hb
  have hk:=hm i (lt_of ho)
  refine⟨hk L hL (fun o' ho'=>by rw[ho]at ho';cases ho';exact he) j hb,?_⟩
  exact hk (·<i) (fun i' o' ho' hi' e' he' hb'=>Nat.lt_trans (edge i' o' ho' e' he' hb') hi') (fun o' ho'=>by rw[ho]at ho';cases ho';exact edge i o ho) j hb
 .obtain⟨l',hl',hc⟩:=all i o ho
  rw[hl]at hl';cases hl'
  simp only[M0r,yD,hi,yb]at hc
  have hb:=X1g hc.2.2 j l' hj ha (by omega)
  rw[Nat.zero_add]at hb
  exact hm i (lt_of ho) L hL (fun o' ho'=>by rw[ho]at ho';cases ho';exact he) j hb
 .obtain⟨l',hl',hc⟩:=all i o ho
  simp only[M0r,yD,Nat.not_lt.2 hi,yc]at hc
  exact hm i (lt_of ho) L hL (fun o' ho'=>by rw[ho]at ho';cases ho';exact he) j (Y0z hc.2 j hj)
theorem MK{listed:Array Bool}(hs:listed.size=ops.size){j:Nat}(h:j∈Region.ready .any ops listed) :
  j<ops.size/\¬ Lst listed j/\∃o,ops[j]?=some o/\∀e∈o.after,Region.binds .any e=true->Lst listed e.on:=by
 obtain⟨h0,o,ho,he⟩:=mem_ready.1 h
 have hlt:=(Array.getElem?_eq_some_iff.1 ho).1
 exact⟨hlt,(unl (by omega)).1 h0,o,ho,he⟩
theorem U0q{listed:Array Bool}(hs:listed.size=ops.size){j:Nat}{o:Oper}(h1:¬ Lst listed j)(h2:ops[j]?=some o)(h3:∀e∈o.after,Region.binds .any e=true->Lst listed e.on) :
  j∈Region.ready .any ops listed :=
 mem_ready.2 ⟨(unl (by rw[hs];exact(Array.getElem?_eq_some_iff.1 h2).1)).2 h1,o,h2,h3⟩
theorem U02{i:Nat}{o:Oper}(ho:ops[i]?=some o){K':Act->World->Prop}{a:Act}{w:World}(h:if Region.wanted o (yielded ops a.tmps)then o.wp P a w K' Q' else K' (a.put o.dst undef) w):wpOp P ops Q' i K' a w:=by
 unfold wpOp
 simp only[ho]
 split
 .rename_i hw;rw[yd hw]at h;exact .inl h
 .rename_i hw;rw[ye hw]at h;exact h
theorem X22(H:Ok P c.nt ops ls m)(hK:∀g' s' a' w',Inv c g' s' a' w'->K s'->Q' .normal a' w'):∀(fuel i:Nat) (listed:Array Bool) (g:Gh) (s:St) (a:Act) (w:World),
  listed.size=ops.size->m<=i->(∀j,Lst listed j↔j<i/\j<ops.size)->listed.toList.count false<=fuel->Inv c g s a w->wops P (ls.drop i) K s->wpAny P .any ops Q' fuel listed a w:=by
 intro fuel
 induction fuel with
 |zero =>
  intro i listed g s a w hs hm hL hc I h
  have hi:ops.size<=i:=by
   rcases Nat.lt_or_ge i ops.size with hi|hi
   .have:=W0r (listed:=listed) (i:=i) (by omega) (fun h=>by have:=((hL i).1 h).1;omega);omega
   .exact hi
  have hr:Region.ready .any ops listed=[]:=by
   cases hr:Region.ready .any ops listed with
   |nil=>rfl
   |cons j _ =>
    obtain⟨h1,h2,_⟩:=MK hs (j:=j) (by rw[hr];simp)
    exact absurd ((hL j).2 ⟨by omega,h1⟩) h2
  rw[List.drop_eq_nil_of_le (by rw[H.len];exact hi)]at h
  exact⟨hr,hK _ _ _ _ I h⟩
 |succ fuel ih =>
  intro i listed g s a w hs hm hL hc I h
  rcases Nat.lt_or_ge i ops.size with hi|hi
  .have hil:i<ls.length:=by rw[H.len];exact hi
   have ho:=Array.getElem?_eq_getElem hi
   have hui:¬ Lst listed i:=fun h=>by have:=((hL i).1 h).1;omega
   have hclo:Clo ops (Lst listed):=fun i' o' ho' hi' e' he' hb'=>(hL e'.on).2 ⟨by have:=H.edge i' o' ho' e' he' hb';have:=((hL i').1 hi').1;omega,by have:=H.edge i' o' ho' e' he' hb';have:=(Array.getElem?_eq_some_iff.1 ho').1;omega⟩
   have hri:i∈Region.ready .any ops listed:=U0q hs hui ho (fun e he hb=>by have:=H.edge i _ ho e he hb;exact(hL e.on).2 ⟨this,by omega⟩)
   refine⟨fun h0=>(by rw[h0]at hri;cases hri),fun j hj=>?_⟩
   obtain⟨hj1,hj2,oj,hoj,hje⟩:=MK hs hj
   have hji:j=i:=by
    rcases Nat.lt_trichotomy j i with h|h|h
    .exact absurd ((hL j).2 ⟨h,hj1⟩) hj2
    .exact h
    .exact absurd (H.tl j oj (Lst listed) (by omega) hoj hclo hje i h) hui
   subst hji
   refine U02 ho ?_
   rw[← List.getElem_cons_drop hil]at h
   simp only[wops]at h
   refine Vq (fun g' s' a' w' I' h'=>?_) (H.one j _ _ (yA hil) ho) I h
   refine ih (j+1) _ g' s' a' w' (by simpa using hs) (by omega) (fun j'=>?_) (Ye (by omega) hui hc) I' h'
   rw[Y14 (by omega),hL j']
   omega
  .have hr:Region.ready .any ops listed=[]:=by
    cases hr:Region.ready .any ops listed with
    |nil=>rfl
    |cons j _ =>
     obtain⟨h1,h2,_⟩:=MK hs (j:=j) (by rw[hr];simp)
     exact absurd ((hL j).2 ⟨by omega,h1⟩) h2
   rw[List.drop_eq_nil_of_le (by rw[H.len];exact hi)]at h
   exact wpAny_done hr (hK _ _ _ _ I h) _
theorem V0z:∀{q:List LOp} {l:LOp},l∈q->isAl l=true->l.dst∈alKeys q
 |x::q,l,h,ha=>by
  rcases yX h with rfl|h
  .cases l<;>simp[isAl]at ha
   simp[alKeys,LOp.dst]
  .have:=V0z h ha
   cases x<;>simp[alKeys,this]
variable{s0 sm:St}
theorem W1U(H:Ok P c.nt ops ls m)(F:∀k,k∈alKeys (ls.take m)->Free k s0)(hF:∀(i:Nat) (l:LOp),(ls.take m)[i]?=some l->Fct P (ls.take m) s0 sm i l)
  {L:Nat->Prop} (hL:Clo ops L) (hLm:∀j,L j->j<m) {i:Nat} {l:LOp} {o:Oper} (hi:i<m) (hl:ls[i]?=some l) (ho:ops[i]?=some o) (hu:¬ L i)
  (he:∀e∈o.after,Region.binds .any e=true->L e.on):wop P l (fun s'=>s'=mix (ls.take m) (fun j=>L j\/j=i) s0 sm) (mix (ls.take m) L s0 sm):=by
 have hlq:(ls.take m)[i]?=some l:=by rw[List.getElem?_take];simp[hi,hl]
 obtain⟨f1,f2⟩:=hF i l hlq
 have uniq:∀(j:Nat) (l':LOp),(ls.take m)[j]?=some l'->l'.dst=l.dst->j=i/\l'=l:=fun j l' hj e=>by
  have hjl:=(yB hj).1
  have hil:=(yB hlq).1
  have h1:=(yB hj).2
  have h2:=(yB hlq).2
  have hji:j=i:=by
   have hp:=List.pairwise_iff_getElem.1 H.nd
   rcases Nat.lt_trichotomy j i with h|h|h
   .exact absurd (by rw[List.getElem_map,List.getElem_map,h1,h2,e]) (hp j i (by simpa using hjl) (by simpa using hil) h)
   .exact h
   .exact absurd (by rw[List.getElem_map,List.getElem_map,h1,h2,e]) (hp i j (by simpa using hil) (by simpa using hjl) h)
  subst hji
  rw[hlq]at hj;cases hj
  exact⟨rfl,rfl⟩
 have notlater:∀(j:Nat) (l':LOp),isAl l=true->(ls.take m)[j]?=some l'->L j->j<i:=fun j l' ha hj hLj=>by
  rcases Nat.lt_trichotomy j i with h|h|h
  .exact h
  .subst h;exact absurd hLj hu
  .have hjm:=hLm j hLj
   have hjl:j<ops.size:=by have:=(yB hj).1;have:=H.len;simp at *;omega
   have hls:ls[j]?=some l':=by rw[List.getElem?_take]at hj;simpa[hjm]using hj
   exact absurd (H.al j l' ops[j] L hjm hls (Array.getElem?_eq_getElem hjl) hL (fun e he hb=>hL j _ (Array.getElem?_eq_getElem hjl) hLj e he hb) i l hlq ha h) hu
 cases hal:isAl l with
 |false =>
  refine f1 hal (mix (ls.take m) L s0 sm) ⟨fun t ht=>?_,fun k cs hk=>?_,fun _ _ h=>h⟩ _ ?_
  .simp only[mix]
   by_cases hex:∃(j:Nat) (l':LOp),(ls.take m)[j]?=some l'/\l'.dst=t
   .obtain⟨j,l',hj,hd⟩:=hex
    have q:=H.rd i l o L hi hl ho hL he j l' hj (by rw[hd];exact ht)
    rw[yd ⟨j,l',hj,q.1,hd⟩,yd ⟨j,l',hj,q.2,hd⟩]
   .rw[ye (fun⟨j,l',hj,_,hd⟩=>hex ⟨j,l',hj,hd⟩),ye (fun⟨j,l',hj,_,hd⟩=>hex ⟨j,l',hj,hd⟩)]
  .simp only[mix]at hk ⊢
   by_cases hex:∃(j:Nat) (l':LOp),(ls.take m)[j]?=some l'/\j<i/\isAl l'=true/\l'.dst=k
   .rw[yd hex]at hk
    obtain⟨j,l',hj,hji,ha,hd⟩:=hex
    rw[yd ⟨j,l',hj,H.al i l o L hi hl ho hL he j l' hj ha hji,ha,hd⟩]
    exact hk
   .rw[ye hex]at hk
    rw[ye ?_]
    .exact hk
    .rintro⟨j,l',hj,_,ha,hd⟩
     have:=(F k (by rw[← hd];exact V0z (yE hj) ha)).bx
     rw[this]at hk;cases hk
  .refine Jm (fun t=>?_) (fun k=>?_) rfl
   .simp only[mix,St.set,upd]
    by_cases ht:t=l.dst
    .rw[yd ht,yd ⟨i,l,hlq,.inr rfl,ht.symm⟩,ht]
    .rw[ye ht]
     congr 1
     apply propext
     constructor
     .rintro⟨j,l',hj,hLj,hd⟩;exact⟨j,l',hj,.inl hLj,hd⟩
     .rintro⟨j,l',hj,hLj|hji,hd⟩
      .exact⟨j,l',hj,hLj,hd⟩
      .subst hji;rw[hlq]at hj;cases hj;exact absurd hd.symm ht
   .simp only[mix,St.set]
    congr 1
    apply propext
    constructor
    .rintro⟨j,l',hj,hLj,ha,hd⟩;exact⟨j,l',hj,.inl hLj,ha,hd⟩
    .rintro⟨j,l',hj,hLj|hji,ha,hd⟩
     .exact⟨j,l',hj,hLj,ha,hd⟩
     .subst hji;rw[hlq]at hj;cases hj;rw[hal]at ha;cases ha
 |true =>
  cases l with
  |al d z =>
   obtain⟨g1,g2,g3⟩:=f2 d z rfl
   have FF:=F d (V0z (l:=.al d z) (yE hlq) rfl)
   simp only[wop]
   refine Jm (fun t=>?_) (fun k=>?_) ?_
   .simp only[mix,St.set,upd,St.kill]
    by_cases ht:t=d
    .rw[yd ht,yd ⟨i,_,hlq,.inr rfl,ht.symm⟩,ht,g1]
    .rw[ye ht]
     by_cases hex:∃(j:Nat) (l':LOp),(ls.take m)[j]?=some l'/\L j/\l'.dst=t
     .rw[yd hex]
      obtain⟨j,l',hj,hLj,hd⟩:=hex
      rw[yd ⟨j,l',hj,.inl hLj,hd⟩,← hd]
      exact(g3 j l' hj (notlater j l' rfl hj hLj)).1
     .rw[ye hex,ye ?_]
      .exact FF.e t
      .rintro⟨j,l',hj,hLj|hji,hd⟩
       .exact hex ⟨j,l',hj,hLj,hd⟩
       .subst hji;rw[hlq]at hj;cases hj;exact ht hd.symm
   .simp only[mix,St.set,St.kill]
    by_cases hk:k=d
    .rw[yd hk,yd ⟨i,_,hlq,.inr rfl,rfl,hk.symm⟩,hk,g2]
    .rw[ye hk,ye hk]
     by_cases hex:∃(j:Nat) (l':LOp),(ls.take m)[j]?=some l'/\L j/\isAl l'=true/\l'.dst=k
     .rw[yd hex]
      obtain⟨j,l',hj,hLj,ha,hd⟩:=hex
      rw[yd ⟨j,l',hj,.inl hLj,ha,hd⟩]
      cases hcs:sm.bx k with
      |none=>rfl
      |some cs =>
       simp only[Option.map_some,yI]
       exact(g3 j l' hj (notlater j l' rfl hj hLj)).2 ha cs (by rw[hd];exact hcs)
     .rw[ye hex,ye ?_]
      .cases hcs:s0.bx k with
       |none=>rfl
       |some cs=>simp only[Option.map_some,yI];exact FF.bd k cs hcs
      .rintro⟨j,l',hj,hLj|hji,ha,hd⟩
       .exact hex ⟨j,l',hj,hLj,ha,hd⟩
       .subst hji;rw[hlq]at hj;cases hj;exact hk hd.symm
   .simp only[St.rst,mix,St.set,St.kill,Prod.mk.injEq]
    refine⟨?_,trivial⟩
    funext j
    split
    .rename_i hj;rw[hj];exact FF.rw.symm
    .rfl
  |_=>simp[isAl]at hal
theorem any_q(H:Ok P c.nt ops ls m)(hK:∀g' s' a' w',Inv c g' s' a' w'->K s'->Q' .normal a' w')(F:∀k,k∈alKeys (ls.take m)->Free k s0)
  (hF:∀(i:Nat) (l:LOp),(ls.take m)[i]?=some l->Fct P (ls.take m) s0 sm i l) (hsm:mix (ls.take m) (fun _=>True) s0 sm=sm) (hT:wops P (ls.drop m) K sm) :
  ∀(fuel:Nat) (listed:Array Bool) (g:Gh) (a:Act) (w:World),listed.size=ops.size->Clo ops (Lst listed)->(∀j,Lst listed j->j<m)->listed.toList.count false<=fuel ->
   Inv c g (mix (ls.take m) (Lst listed) s0 sm) a w->wpAny P .any ops Q' fuel listed a w:=by
 have hmo:m<=ops.size:=by rw[← H.len];exact H.mle
 have full:∀(listed:Array Bool),listed.size=ops.size->(∀j,Lst listed j->j<m)->(∀j,j<m->Lst listed j)->mix (ls.take m) (Lst listed) s0 sm=sm:=by
  intro listed hs h1 h2
  refine Eq.trans ?_ hsm
  have e:∀(p:Nat->LOp->Prop),(∃(j:Nat) (l:LOp),(ls.take m)[j]?=some l/\Lst listed j/\p j l)↔∃(j:Nat) (l:LOp),(ls.take m)[j]?=some l/\True/\p j l:=fun p=>by
   constructor
   .rintro⟨j,l,q1,_,q2⟩;exact⟨j,l,q1,trivial,q2⟩
   .rintro⟨j,l,q1,_,q2⟩
    refine⟨j,l,q1,h2 j ?_,q2⟩
    have:=(yB q1).1
    simp at this;omega
  refine Jm (fun t=>?_) (fun t=>?_) rfl
  .simp only[mix];congr 1
   exact propext (e fun _ l=>l.dst=t)
  .simp only[mix];congr 1
   exact propext (e fun _ l=>isAl l=true/\l.dst=t)
 intro fuel
 induction fuel with
 |zero =>
  intro listed g a w hs hclo hm hc I
  have hall:∀j,j<m->Lst listed j:=fun j hj=>Classical.byContradiction fun hn=>by have:=W0r (listed:=listed) (i:=j) (by omega) hn;omega
  rw[full listed hs hm hall]at I
  exact X22 H hK 0 m listed g sm a w hs (yV _) (fun j=>⟨fun h=>⟨hm j h,by have:=hm j h;omega⟩,fun h=>hall j h.1⟩) hc I hT
 |succ fuel ih =>
  intro listed g a w hs hclo hm hc I
  by_cases hall:∀j,j<m->Lst listed j
  .rw[full listed hs hm hall]at I
   exact X22 H hK (fuel+1) m listed g sm a w hs (yV _) (fun j=>⟨fun h=>⟨hm j h,by have:=hm j h;omega⟩,fun h=>hall j h.1⟩) hc I hT
  .have hex:∃j,j<m/\¬ Lst listed j:=Classical.byContradiction fun hn=>hall fun j hj=>Classical.byContradiction fun hl=>hn ⟨j,hj,hl⟩
   obtain⟨j1,hj1,hj1u⟩:=hex
   have hleast:∀n j,j<=n->j<m->¬ Lst listed j->∃j,j<m/\¬ Lst listed j/\∀j',j'<j->Lst listed j':=by
    intro n
    induction n with
    |zero=>intro j hj h1 h2;exact⟨j,h1,h2,fun j' hj'=>by omega⟩
    |succ n ihn =>
     intro j hj h1 h2
     by_cases hb:∃j',j'<j/\¬ Lst listed j'
     .obtain⟨j',q1,q2⟩:=hb
      exact ihn j' (by omega) (by omega) q2
     .exact⟨j,h1,h2,fun j' hj'=>Classical.byContradiction fun hn=>hb ⟨j',hj',hn⟩⟩
   obtain⟨j0,hj0,hj0u,hj0l⟩:=hleast j1 j1 (yV _) hj1 hj1u
   have ho0:=Array.getElem?_eq_getElem (xs:=ops) (i:=j0) (by omega)
   have hr0:j0∈Region.ready .any ops listed:=U0q hs hj0u ho0 (fun e he hb=>hj0l e.on (H.edge j0 _ ho0 e he hb))
   refine⟨fun h0=>(by rw[h0]at hr0;cases hr0),fun i hi=>?_⟩
   obtain⟨hi1,hi2,o,ho,he⟩:=MK hs hi
   have him:i<m:=by
    rcases Nat.lt_or_ge i m with h|h
    .exact h
    .exact absurd (H.tl i o (Lst listed) h ho hclo he j1 (by omega)) hj1u
   have hil:i<ls.length:=by rw[H.len];exact hi1
   have hl:=yA hil
   refine U02 ho ?_
   refine Vq (fun g' s' a' w' I' h'=>?_) (H.one i _ _ hl ho) I (W1U H F hF hclo hm him hl ho hi2 he)
   subst h'
   have eL:Lst (listed.setIfInBounds i true)=fun j=>Lst listed j\/j=i:=funext fun j=>propext (Y14 (by omega))
   refine ih _ g' a' w' (by simpa using hs) ?_ ?_ (Ye (by omega) hi2 hc) (by rw[eL];exact I')
   .rw[eL]
    intro i' o' ho' hi' e' he' hb'
    rcases hi' with hi'|rfl
    .exact .inl (hclo i' o' ho' hi' e' he' hb')
    .rw[ho]at ho';cases ho';exact .inl (he e' he' hb')
   .intro j hj
    rw[eL]at hj
    rcases hj with hj|rfl
    .exact hm j hj
    .exact him
theorem V1h{id:Nat}{g:Gh}{s:St}{a:Act}{w:World}(hmo:P.follows .mixedOrders=true)(hc:chkQ P c.nt ops ls m=true)(hK:∀g' s' a' w',Inv c g' s' a' w'->K s'->Q' .normal a' w')
  (I:Inv c g s a w) (h:X09 P (ls.take m) [] (fun s'=>wops P (ls.drop m) K s') (s.kills (alKeys (ls.take m)))):(Code.region id ops true).wp P Q' a w:=by
 have H:=V1S hc
 refine wp_region_any hmo ?_
 have I1:=(I.kills (alKeys (ls.take m))).drawn (w.drawn+1)
 obtain⟨sm,ht,hT⟩:=W1M H.qa h
 have e0:s.kills (alKeys (ls.take m))=mix (ls.take m) (·<([]:List LOp).length) (s.kills (alKeys (ls.take m))) sm:=by
  refine Jm (fun t=>?_) (fun t=>?_) rfl<;>simp[mix]
 have hF:∀(i:Nat) (l:LOp),(ls.take m)[i]?=some l->Fct P (ls.take m) (s.kills (alKeys (ls.take m))) sm i l:=fun i l hl=>by
  have:=U1U H.nd (ls.take m) [] [] _ (by simp) ht e0 (by simp) i l hl
  simpa using this
 have hk:=M1g ht
 have hsm:mix (ls.take m) (fun _=>True) (s.kills (alKeys (ls.take m))) sm=sm:=by
  refine Jm (fun t=>?_) (fun t=>?_) hk.2.1.symm
  .simp only[mix]
   split
   .rfl
   .rename_i hn
    refine(hk.1 t fun hm=>hn ?_).1.symm
    obtain⟨l,hl,hd⟩:=yY hm
    obtain⟨j,hj,rfl⟩:=List.getElem_of_mem hl
    exact⟨j,_,yA hj,trivial,hd⟩
  .simp only[mix]
   split
   .rfl
   .rename_i hn
    refine(hk.2.2 t fun l hl ha hd=>hn ?_).symm
    obtain⟨j,hj,rfl⟩:=List.getElem_of_mem hl
    exact⟨j,_,yA hj,trivial,ha,hd⟩
 have hnone:Lst (Array.replicate ops.size false)=fun _=>False:=by
  funext j
  apply propext
  simp only[Lst,Array.getD_eq_getD_getElem?,Array.getElem?_replicate,iff_false]
  split<;>simp
 refine any_q H hK (fun k hk=>V0y hk) hF hsm hT ops.size _ g a _ (by simp) ?_ ?_ ?_ ?_
 .rw[hnone];intro i o _ hi;exact hi.elim
 .rw[hnone];intro j hj;exact hj.elim
 .simp[Array.toList_replicate]
 .have:mix (ls.take m) (Lst (Array.replicate ops.size false)) (s.kills (alKeys (ls.take m))) sm=s.kills (alKeys (ls.take m)):=by
   rw[hnone]
   refine Jm (fun t=>?_) (fun t=>?_) rfl<;>simp[mix]
  rw[this];exact I1
end
end
end Go.Proofs.YtpgaganbacipnaaGreat.Eng
