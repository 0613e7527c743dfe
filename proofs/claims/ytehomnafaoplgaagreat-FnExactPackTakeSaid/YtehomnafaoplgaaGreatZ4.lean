/-
  Lemmas, part 4.
-/
import Derived.Test.YtehomnafaoplgaaGreatZ3
import Derived.Laws.StructEq
namespace Go.Proofs.YtehomnafaoplgaaGreat.Eng
open Go Go.RowKit
section
def eqKF(P:Program)(eq:TypeId->Option (List Nat)):List Field->Nat->Option (List Nat)
 |[],_=>some []| f :: fs, off => if f.name ≠ "_" /\ f.offset = off then
   match eq f.type with
   |some ks=>if tsz P f.type=some ks.length then
     match eqKF P eq fs (off+ks.length)with
     |some r=>some (ks++r)
     |none=>none
    else none
   |none=>none
  else none
def eqK(P:Program):Nat->TypeId->Option (List Nat)
 |0,_=>none|d+1,t=>match P.underlying t with
  |some (.int _)=>some [0]
  |some .string=>some [1]
  |some .bool=>some [2]
  |some (.struct fs)=>if P.stoodInHeld t=true then none else eqKF P (eqK P d) fs.toList 0
  |_=>none
section
variable{P:Program}{c:Cx}{g:Gh}{s:St}{a:Act}{w:World}
theorem VU:∀{ks:List Nat}{xs a:List AV}{r:Bool},eqCells ks xs a=some r->xs.length=ks.length/\a.length=ks.length
 |[],xs,a,r,h=>by cases xs<;>cases a<;>simp[eqCells]at h ⊢|k::ks,xs,a,r,h=>by
  unfold eqCells at h;split at h
  .rename_i e;cases e
  .rename_i c;cases c;split at h
   .obtain⟨r',b,_⟩:=yC h;have:=VU b;simp;omega
   .cases h
  .rename_i c;cases c;obtain⟨r',b,_⟩:=yC h;have:=VU b;simp;omega
  .rename_i c;cases c;obtain⟨r',b,_⟩:=yC h;have:=VU b;simp;omega
  .cases h
theorem Z0k:∀{ks e:List Nat}{xs ys:List AV}{r:Bool},eqCells (ks++e) xs ys=some r -> ∃b a,eqCells ks (xs.take ks.length) (ys.take ks.length)=some b/\eqCells e (xs.drop ks.length) (ys.drop ks.length)=some a/\r=(b&&a)
 |[],e,xs,ys,r,h=>(by grind[eqCells])|k::ks,e,xs,ys,r,h=>by
  rw[List.cons_append]at h;unfold eqCells at h;split at h
  .grind
  .rename_i d;cases d;split at h
   .rename_i i;subst i;obtain⟨r',c,rfl⟩:=yC h;obtain⟨b,a,g,f,rfl⟩:=Z0k c;grind[eqCells,Bool.and_assoc]
   .cases h
  .rename_i d;cases d;obtain⟨r',c,rfl⟩:=yC h;obtain⟨b,a,g,f,rfl⟩:=Z0k c;grind[eqCells,Bool.and_assoc]
  .rename_i d;cases d;obtain⟨r',c,rfl⟩:=yC h;obtain⟨b,a,g,f,rfl⟩:=Z0k c;grind[eqCells,Bool.and_assoc]
  .cases h
def Sc(w:World)(g:Gh)(s:St)(xs:List AV)(vs:List Value):Prop:=xs.length=vs.length/\∀(i:Nat) (x:AV) (v:Value),xs[i]?=some x->vs[i]?=some v->Gv w g s x v
theorem Sc.sub{xs:List AV}{c:List Value}(h:Sc w g s xs c)(o n:Nat):Sc w g s ((xs.drop o).take n) ((c.drop o).take n):=by
 refine⟨by simp[h.1],λi x v a b=>?_⟩;rw[List.getElem?_take]at a b;split at a
 .rename_i d;rw[yd d,List.getElem?_drop]at b;rw[List.getElem?_drop]at a;exact h.2 _ x v a b
 cases a
theorem eq1{t:TypeId}{k:Nat}{x y:AV}{r:Bool}(a:eqCells [k] [x] [y]=some r)(b:(k=0/\∃q,P.underlying t=some (.int q))\/(k=1/\P.underlying t=some .string)\/(k=2/\P.underlying t=some .bool)){v u:Value}(c:Gv w g s x v)(d:Gv w g s y u)(e:Nat):(Op.equalIn (e+1) t v u).run P w=.ok r w:=by
 rcases b with⟨rfl,q,b⟩|⟨rfl,b⟩|⟨rfl,b⟩
 .cases x<;>cases y<;>simp only[eqCells]at a<;>try (cases a;done)
  rename_i i m h n;split at a
  .rename_i f;subst f;simp[Option.map_some,Bool.and_true]at a;subst a;rw[c.int_inv,d.int_inv];grind[run_equalIn_int]
  cases a
 .cases x<;>cases y<;>simp only[eqCells]at a<;>try (cases a;done)
  simp[Option.map_some,Bool.and_true]at a;subst a;rw[c.str_inv,d.str_inv,run_equalIn_string w e t _ _ b];simp
 cases x<;>cases y<;>simp only[eqCells]at a<;>try (cases a;done)
 simp[Option.map_some,Bool.and_true]at a;subst a;rw[c.bool_inv,d.bool_inv];grind[run_equalIn_bool']
def EqA(P:Program)(w:World)(g:Gh)(s:St)(d:Nat):Prop :=
 ∀(t:TypeId) (ks:List Nat),eqK P d t=some ks->∀(e:Nat),d<=e->∀(xs ys:List AV) (vs us:List Value) (r:Bool),Sc w g s xs vs->Sc w g s ys us->eqCells ks xs ys=some r ->
  ∃ag,tag? P t=some ag/\(ag=false->ks.length=1)/\(Op.equalIn e t (if ag then .agg vs.toArray else vs.getD 0 undef) (if ag then .agg us.toArray else us.getD 0 undef)).run P w=.ok r w
theorem V2k{d:Nat}(A:EqA P w g s d):∀(k:List Field)(off:Nat)(ks:List Nat),eqKF P (eqK P d) k off=some ks->∀(e:Nat),d<=e->∀(xs ys:List AV)(a us:List Value)(r:Bool),Sc w g s xs a->Sc w g s ys us -> eqCells ks (xs.drop off) (ys.drop off)=some r->(Op.eqFields e a.toArray us.toArray k).run P w=.ok r w:=by
 intro k;induction k with
 |nil =>intro off ks h e _ xs ys a us r c m o;simp[eqKF]at h;subst h;have:=VU o;simp_all[List.length_nil,List.eq_nil_of_length_eq_zero,eqCells,Op.eqFields]|cons f k J =>
  intro off ks h e E xs ys a us r c m o;simp only[eqKF]at h;split at h
  .rename_i l;split at h
   .rename_i b q;split at h
    .rename_i i;split at h
     .rename_i I D;cases h;obtain⟨v,G,x,H,rfl⟩:=Z0k o;obtain⟨F,B,u,j⟩:=A f.type b q e E _ _ _ _ v (c.sub off b.length) (m.sub off b.length) x;have p:=VU x;have C:∀(xs:List AV) (a:List Value),Sc w g s xs a->((xs.drop off).take b.length).length=b.length->F=false->a[f.offset]?=some (((a.drop off).take b.length).getD 0 undef):=by
       intro xs a c n t;have u:=u t;rw[l.2];have p:=c.1;simp[List.length_take,List.length_drop]at n;have:off<a.length:=by omega
       rw[u];simp[List.getD,this,List.getElem?_drop]
      have z:=U0M (P:=P) (w:=w) i B a f.offset _ (C xs a c p.1);have y:=U0M (P:=P) (w:=w) i B us f.offset _ (C ys us m p.2);rw[l.2]at z y;simp only[Op.eqFields,l.1,ne_eq,not_false_eq_true,yb,Sem.run_bind,l.2,z,y,Result.andThen_ok,j];cases v with|false=>simp|true =>simp[Bool.true_and];grind[List.drop_drop]
     cases h
    cases h
   cases h
  cases h
theorem Z2v:∀d,EqA P w g s d:=by
 intro d;induction d with
 |zero=>intro t ks h;simp[eqK]at h|succ d C =>
  intro t ks h e G xs o c us r l j n;obtain⟨e,rfl⟩:∃F,e=F+1:=⟨e-1,by omega⟩;have b:∀k,ks=[k]->((k=0/\∃q,P.underlying t=some (.int q))\/(k=1/\P.underlying t=some .string)\/(k=2/\P.underlying t=some .bool))->tag? P t=some false -> ∃i,tag? P t=some i/\(i=false->ks.length=1)/\(Op.equalIn (e+1) t (if i then .agg c.toArray else c.getD 0 undef) (if i then .agg us.toArray else us.getD 0 undef)).run P w=.ok r w:=by intro k D E a;subst D;have p:=VU n;have B:=l.1;have A:=j.1;match xs,o,c,us,p.1,p.2,B,A with|[x],[y],[v],[u],_,_,_,_ =>exact⟨false,a,λ_=>rfl,eq1 n E (l.2 0 x v rfl rfl) (j.2 0 y u rfl rfl) e⟩
  unfold eqK at h;split at h
  .rename_i k a;cases h;exact b 0 rfl (.inl ⟨rfl,k,a⟩) (by simp[tag?,a,Z2c])
  .rename_i a;cases h;exact b 1 rfl (.inr (.inl ⟨rfl,a⟩)) (by simp[tag?,a,Z2c])
  .rename_i a;cases h;exact b 2 rfl (.inr (.inr ⟨rfl,a⟩)) (by simp[tag?,a,Z2c])
  .rename_i z a;split at h
   .cases h
   rename_i m;refine⟨true,by simp[tag?,a,Z2c],by simp,?_⟩;have f:P.fieldsOf t=z:=by simp[Program.fieldsOf,a]
   simp[];rw[run_equalIn_agg w e t c.toArray us.toArray (by rw[f];exact a) (by simpa using m),f];exact V2k C z.toList 0 ks h e (by omega) xs o c us r l j (by simpa using n)
  cases h
section ops
variable{o:Oper}{d:Nat}{K:St->Prop}{K':Act->World->Prop}{Q':Exit->Act->World->Prop}
theorem X2z(I:Inv c g s a w)(N:∀g' s' C w',Inv c g' s' C w'->K s'->K' C w')(M:o.dst=some d)(l:d<c.nt){e:Bool}{x y:X}{p q:Operand}{t u:TypeId}{ks:List Nat}(T:o.op=.binOp (if e then .neq else .eql) t p q u)(J:eqK P 20 t=some ks)(G:tag? P t=some true)(m:P.eqGuardType P.depth t=false)(F:chkX x p=true)(E:chkX y q=true)(h:wop P (.es d e ks x y) K s):o.wp P a w K' Q':=by
 simp[wop]at h;have B:=I.get F;have A:=I.get E;split at h
 .rename_i xs ys Q O;rw[Q]at B;rw[O]at A;obtain⟨n,R,f,_,i⟩:=B.agg_inv;obtain⟨us,S,j,_,k⟩:=A.agg_inv;split at h
  .rename_i r H;refine sok (g':=g) (s':=s) (w':=w) (v:=.bool (if e then !r else r)) N M l ?_ I (.data _ _ (.bool _)) h;obtain⟨U,z,_,b⟩:=Z2v (P:=P) (w:=w) (g:=g) (s:=s) 20 t ks J 10000 (by decide) xs ys n us r ⟨f,i⟩ ⟨j,k⟩ H;rw[G]at z;cases z;simp[]at b;have L:=λD=>run_eqGuard_agg (P:=P) w D t p q n.toArray us.toArray m;cases e
   .simp_all[execOp,Sem.run_bind,Result.andThen_ok,run_eql_struct]
   simp_all[execOp,Sem.run_bind,Result.andThen_ok,run_neq_struct]
  cases h
 cases h
theorem W1x{i:AV}{n j:Nat}(h:L22 i n=some j):∃k q,i=.int k q/\0<=q/\q<=n/\j=q.toNat:=by unfold L22 at h;grind
def chkO:Option X->Option Operand->Bool
 |none,none=>true|some x,some p=>chkX x p|_,_=>false
theorem O20{isS:Bool}(I:Inv c g s a w){m r:Option X}{d f:Option Operand}(o:chkO m d=true)(t:chkO r f=true){n cap b h:Nat}(A:n<=cap)(u:s.hi r n=some b)(j:s.lo m b=some h) : (Instr.sliceBounds isS n cap (d.map a.eval) (f.map a.eval) none).run P w=.ok (h,b,cap) w/\h<=b/\b<=n:=by
 have H:(match f.map a.eval with|some v=>Instr.sliceBound v cap (if isS then .sliceAcap else .sliceAlen)|none=>pure n:Sem Nat).run P w=.ok b w/\b<=n:=by
  cases r with
  |none =>cases f with|none=>simp_all[St.hi]|some p=>simp[chkO]at t
  |some x =>cases f with|none=>simp[chkO]at t|some p =>simp only[St.hi]at u;obtain⟨k,q,e,l,z,rfl⟩:=W1x u;have i:=I.get (x:=x) (p:=p) (by simpa[chkO]using t);rw[e]at i;simp only[Option.map_some,i.int_inv];refine⟨?_,by omega⟩;have:=run_sliceBound (P:=P) w k q cap (if isS then .sliceAcap else .sliceAlen) l (by omega);exact this
 have L:(match d.map a.eval with|some v=>Instr.sliceBound v b .sliceB|none=>pure 0:Sem Nat).run P w=.ok h w/\h<=b:=by
  cases m with
  |none =>cases d with|none=>simp only[St.lo,yI]at j;subst j;simp|some p=>simp[chkO]at o
  |some x =>cases d with|none=>simp[chkO]at o|some p =>simp only[St.lo]at j;obtain⟨k,q,e,l,z,rfl⟩:=W1x j;have i:=I.get (x:=x) (p:=p) (by simpa[chkO]using o);rw[e]at i;simp only[Option.map_some,i.int_inv];exact⟨run_sliceBound (P:=P) w k q b .sliceB l (by omega),by omega⟩
 refine⟨?_,L.2,H.2⟩;obtain⟨y,_⟩:=H;obtain⟨B,_⟩:=L;unfold Instr.sliceBounds;cases f with
 |none =>simp only[Option.map_none]at y ⊢;cases d with|none=>simp_all|some p=>simp_all
 |some q =>simp only[Option.map_some]at y ⊢;cases d with|none=>simp_all|some p=>simp_all
theorem L2x(I:Inv c g s a w)(H:∀g' s' z w',Inv c g' s' z w'->K s'->K' z w')(F:o.dst=some d)(k:d<c.nt){x:X}{p:Operand}{r u:Option X}{m q:Option Operand}{t:TypeId}(C:o.op=.slice t p m q none)(B:P.underlying t=some .string)(A:chkX x p=true)(D:chkO r m=true)(E:chkO u q=true)(h:wop P (.ss d x r u) K s):o.wp P a w K' Q':=by
 simp[wop]at h;have y:=I.get A;split at h
 .rename_i b e;rw[e]at y;split at h
  .rename_i i L;split at h
   .rename_i f J;have j:(⟨b.toArray⟩:ByteArray).size=b.length:=by show b.toArray.size=_;simp
    have G:=O20 (P:=P) (isS:=false) I D E (n:=b.length) (cap:=b.length) (yV _) L J;refine sok (g':=g) (s':=s) (w':=w) (v:=.string ⟨((b.take i).drop f).toArray⟩) H F k ?_ I (.data _ _ (.str _)) h;have l:(⟨b.toArray⟩:ByteArray).extract f i=⟨((b.take i).drop f).toArray⟩:=by
     have:((⟨b.toArray⟩:ByteArray).extract f i).data=b.toArray.extract f i:=by simp
     have M:((⟨b.toArray⟩:ByteArray).extract f i)=⟨b.toArray.extract f i⟩:=by rw[← this]
     rw[M];simp[List.extract_toArray,List.extract_eq_take_drop,List.drop_take]
    simp[execOp,C,y.str_inv,Instr.sliceAt,Instr.slice,run_underlying B,j,G.1,l]
   cases h
  cases h
 cases h
end ops
end
end
section
section
variable{P:Program}{c:Cx}{g:Gh}{s:St}{a:Act}{w:World}
theorem V1P{b:Nat}:∀{a:List AV}(_:∀e∈a,e.cells.length=b)(n:Nat),flat (a.drop n)=(flat a).drop (n*b)
 |[],_,n=>by simp[flat]|e::a,hs,0=>by simp|e::a,hs,n+1=>by have d:=hs e (by simp);simp[List.drop_succ_cons];rw[V1P (λx c=>hs x (by simp[c])) n];simp[flat];rw[show(n+1)*b=e.cells.length+n*b by rw[d,Nat.succ_mul];omega,List.drop_length_add_append]
theorem V1I{a:List AV}(n:Nat){j:Nat}{x:AV}(h:(flat (a.take n))[j]?=some x):(flat a)[j]?=some x:=by
 have e:flat a=flat (a.take n)++flat (a.drop n):=by rw[← W1l,List.take_append_drop]
 rw[e,yK (yB h).1];exact h
theorem Rd.cut{S:Nat->Nat->Prop}{N:Tag->Nat->Value->Prop}{t:Tag}{d:Nat}{es:List AV}{v:Value}(h:Rd w S N (.sl t d es) v)(C:t.isOwn=false)(M:∀z b o n c o' n' c',N t z (.slice (some ⟨b,o,none⟩) n c)->N t z (.slice (some ⟨b,o',none⟩) n' c')){l a:Nat}(L:l<=a)(g:a<=es.length) : ∃pa n r,v=.slice pa n r/\es.length=n/\n<=r/\Rd w S N (.sl t d ((es.take a).drop l)) (.slice (if r=l then pa else pa.map (·.add (l*d))) (a-l) (r-l)):=by
 have s:∀{i:Nat} {q:Prop},t=.own i->q:=λe=>by subst e;cases C
 cases h with
 |sl0 _ _ p q =>
  simp[List.length_nil,Nat.le_zero_eq]at g;subst g;have:l=0:=by omega
  subst this;exact⟨p,0,q,rfl,rfl,Nat.zero_le _,by simpa using Rd.sl0 t d _ _ λ_ e=>s e⟩
 |sl _ _ _ b o A I G K D B J E =>
  refine⟨_,_,A,rfl,rfl,G,?_⟩;have f:((es.take a).drop l).length=a-l:=by simp;omega
  by_cases y:A=l
  .have H:(es.take a).drop l=[]:=List.eq_nil_of_length_eq_zero (by omega);rw[H,show a-l=0 by omega];exact .sl0 t d _ _ λ_ e=>s e
  rw[ye y];simp[Option.map_some,O0b];rw[← f];have u:∀e∈es.take a,e.cells.length=d:=λe F=>D e (List.mem_of_mem_take F);have k:∀(j:Nat) (x:AV),(flat ((es.take a).drop l))[j]?=some x->(flat es)[l*d+j]?=some x:=by intro j x m;rw[V1P u,List.getElem?_drop]at m;exact V1I a m
  refine .sl t d _ b (o+l*d) (A-l) (λj=>I (l*d+j)) (by omega) (by omega) (by grind) (λj x m=>?_) (λ_ e=>s e) (by grind);have:=B _ x (k j x m);rw[Nat.add_assoc];grind
theorem Rd.cap_le{S:Nat->Nat->Prop}{N:Tag->Nat->Value->Prop}{t:Tag}{c:Nat}{a:List AV}{p:Option Addr}{n b:Nat}(h:Rd w S N (.sl t c a) (.slice p n b)):a.length<=b:=by cases h with|sl0=>simp|sl _ _ _ _ _ _ _ d=>exact d
theorem Rd.bytes{S:Nat->Nat->Prop}{N:Tag->Nat->Value->Prop}{n:Tag}{r:Nat}{c:List AV}{v:Value}(h:Rd w S N (.sl n r c) v){l:List UInt8}(i:c=l.map λb=>AV.int .u8 b.toNat){t u e:TypeId}(f:P.underlying t=some (.slice e))(k:P.underlying e=some (.int .u8))(d:P.underlying u=some .string):(convert t u v).run P w=.ok (.string ⟨l.toArray⟩) w:=by
 cases h with
 |sl0 _ _ p q =>
  have:l=[]:=by cases l<;>simp at i ⊢
  subst this;cases p with|none=>rw[run_convert_bytes_string w t u e none 0 q f k d];simp[Conv.bytesToString];rfl|some D=>exact run_convert_bytes_back w t u e D q [] f k d (by simp)
 |sl _ _ _ b o C B H G E s F g =>
  have a:c.length=l.length:=by rw[i];simp
  rw[a];refine run_convert_bytes_back (P:=P) w t u e ⟨b,o,none⟩ C l f k d (λj x=>?_);have m:(flat c)[j]?=some (.int .u8 (l[j].toNat)):=by rw[i,U1I];simp[x]
  have A:=(s j _ m).1;have y:=g j _ m;rw[O0b,A];generalize B j=z at *;cases y;rfl
section ops
variable{o:Oper}{d:Nat}{K:St->Prop}{K':Act->World->Prop}{Q':Exit->Act->World->Prop}
theorem L2q(I:Inv c g s a w)(u:∀g' s' y w',Inv c g' s' y w'->K s'->K' y w')(t:o.dst=some d)(f:d<c.nt){x:X}{p:Operand}{n:Nat}(A:o.op=.move p)(z:chkX x p=true)(h:wop P (.sc d x none none n) K s):o.wp P a w K' Q':=by
 simp[wop,St.hi,St.lo,List.take_length,List.drop_zero]at h;have i:=I.get z;have e:(execOp a.eval o).run P w=.ok (.value (a.eval p)) w:=by simp[execOp,A]
 split at h
 .rename_i C D es m;rw[m]at i;exact sok (g':=g) (s':=s) (w':=w) u t f e I i h.2.2
 .rename_i k m;rw[m]at i;split at h
  .rename_i r l;obtain⟨rfl,h⟩:=h;have B:=I.share l;have j:=(I.rws k r l).mono (w':=w) (S':=λb o=>g.S b o\/((g.rv k).ownBlock=some b/\o<r.es.length*r.sz)) (N':=g.T) (by grind) TLe.refl (by simp) (λ_ _=>rfl);have q:=V0a j (by grind) .nw (λb v=>⟨(I.rwn k r l b v).1.1,I.ow.rw k r l b v⟩);exact sok u t f e B (.data _ _ (by rw[i.sref_inv l];simpa using q)) h
  cases h
 .rename_i m;rw[m]at i;exact sok (g':=g) (s':=s) (w':=w) u t f e I i h
 cases h
theorem J2x(I:Inv c g s a w)(hK:∀g' s' a' w',Inv c g' s' a' w'->K s'->K' a' w')(hd:o.dst=some d)(B:d<c.nt){x:X}{p:Operand}{lo hi:Option X}{M N:Option Operand}{t e:TypeId}{n:Nat}(U:o.op=.slice t p M N none)(ht:P.underlying t=some (.slice e))(hs:tsz P e=some n)(hx:chkX x p=true)(Y:chkO lo M=true)(Z:chkO hi N=true)(h:wop P (.sc d x lo hi n) K s):o.wp P a w K' Q':=by
 simp[wop]at h;have D:=I.get hx;have y:∀pa m u F z,a.eval p=.slice pa m u->(Instr.sliceBounds true m u (M.map a.eval) (N.map a.eval) none).run P w=.ok (F,z,u) w -> (execOp a.eval o).run P w=.ok (.value (.slice (if u=F then pa else pa.map (·.add (F*n))) (z-F) (u-F))) w:=by intro pa m u F z E e2;simp[execOp,U,E,Instr.sliceAt,Instr.slice,run_underlying ht,e2,Ws hs]
 split at h
 .rename_i t' sz es E;rw[E]at D;split at h
  .rename_i z L;split at h
   .rename_i Q J;obtain⟨rfl,G,h⟩:=h;obtain⟨O,q,f,V⟩:=D.sl_inv.sl_len;have i:=D.sl_inv;have C:es.length<=q:=by rw[f]at i;exact i.cap_le
    have j:=O20 (P:=P) (isS:=true) I Y Z (n:=es.length) (cap:=q) C L J;obtain⟨pa,m,u,l,hm,_,A⟩:=i.cut G (λ_ _ _ _ _ _ _ _ h=>Gh.T_cut G h) j.2.1 j.2.2;rw[f]at l;cases l;exact sok (g':=g) (s':=s) (w':=w) hK hd B (y _ _ _ _ _ f j.1) I (.data _ _ A) h
   cases h
  cases h
 .rename_i k E;rw[E]at D;split at h
  .rename_i r A;split at h
   .rename_i z L;split at h
    .rename_i Q J;obtain⟨rfl,h⟩:=h;have I2:=I.share A;have H:=(I.rws k r A).mono (w':=w) (S':=λb o=>g.S b o\/((g.rv k).ownBlock=some b/\o<r.es.length*r.sz)) (N':=g.T) (λ_ _ h=>.inl h) TLe.refl (by simp) (λ_ _=>rfl);have i:=V0a H (λb o j U=>.inr ⟨j,U⟩) .nw (λb j=>⟨(I.rwn k r A b j).1.1,I.ow.rw k r A b j⟩);obtain⟨O,q,f,V⟩:=i.sl_len;have C:r.es.length<=q:=by rw[f]at i;exact i.cap_le
     have j:=O20 (P:=P) (isS:=true) I Y Z (n:=r.es.length) (cap:=q) C L J;obtain⟨pa,m,u,l,hm,_,R⟩:=i.cut rfl (λ_ _ _ _ _ _ _ _ h=>Gh.T_cut rfl h) j.2.1 j.2.2;rw[f]at l;cases l;exact sok hK hd B (y _ _ _ _ _ ((D.sref_inv A).trans f) j.1) I2 (.data _ _ (by simpa using R)) h
    cases h
   cases h
  cases h
 .rename_i E;rw[E]at D;split at h
  .rename_i z L;split at h
   .rename_i Q J;have j:=O20 (P:=P) (isS:=true) I Y Z (n:=0) (cap:=0) (yV _) L J;have f:z=0:=by omega
    have W:Q=0:=by omega
    subst f;subst W;refine sok (g':=g) (s':=s) (w':=w) (v:=.slice none 0 0) hK hd B ?_ I (.data _ _ .nl) h;have:=y none 0 0 0 0 D.nl_inv j.1;simpa using this
   cases h
  cases h
 cases h
theorem Y2r(I:Inv c g s a w)(E:∀g' s' G w',Inv c g' s' G w'->K s'->K' G w')(D:o.dst=some d)(n:d<c.nt){x:X}{p:Operand}{t u e:TypeId}(N:o.op=.convert t u p)(B:P.underlying t=some (.slice e))(C:P.underlying e=some (.int .u8))(A:P.underlying u=some .string)(H:chkX x p=true)(h:wop P (.b2s d x) K s):o.wp P a w K' Q':=by
 simp[wop]at h;have F:=I.get H;have m:∀j,(convert t u (a.eval p)).run P w=.ok (.string j) w->(execOp a.eval o).run P w=.ok (.value (.string j)) w:=by simp_all[execOp]
 split at h
 .rename_i L M es i;obtain⟨l,J,h⟩:=h;have f:=V2v I (λb o=>g.S b o\/∃k r,s.rw k=some r/\(g.rv k).ownBlock=some b/\o<r.es.length*r.sz) (λ_ _ h=>.inl h) (λk r b o z y q=>.inr ⟨k,r,z,y,q⟩) i F;exact sok (g':=g) (s':=s) (w':=w) (v:=.string ⟨l.toArray⟩) E D n (m _ (f.bytes J B C A)) I (.data _ _ (.str _)) h
 .rename_i i;have f:=V2v I (λb o=>g.S b o\/∃k r,s.rw k=some r/\(g.rv k).ownBlock=some b/\o<r.es.length*r.sz) (λ_ _ h=>.inl h) (λk r b o z y q=>.inr ⟨k,r,z,y,q⟩) i F;refine sok (g':=g) (s':=s) (w':=w) (v:=.string ⟨([]:List UInt8).toArray⟩) E D n (m _ ?_) I (.data _ _ (.str _)) h;generalize a.eval p=v at *;cases f;rw[run_convert_bytes_string w t u e none 0 0 B C A];simp[Conv.bytesToString];rfl
 cases h
theorem J2q(I:Inv c g s a w)(T:∀g' s' H w',Inv c g' s' H w'->K s'->K' H w')(R:o.dst=some d)(z:d<c.nt){x:X}{p:Operand}{t u e:TypeId}(F:o.op=.convert t u p)(M:P.underlying t=some .string)(L:P.underlying u=some (.slice e))(Q:P.underlying e=some (.int .u8))(J:chkX x p=true)(h:wop P (.s2b d x) K s):o.wp P a w K' Q':=by
 simp only[wop]at h;have G:=I.get J;split at h
 .rename_i l V;rw[V]at G;obtain⟨h1,h⟩:=h;have E:=run_bytes_of_string (P:=P) w t u e ⟨l.toArray⟩ M L Q;have r:(⟨l.toArray⟩:ByteArray).size=l.length:=by show l.toArray.size=_;simp
  rw[r]at E;have m:=grownCap_ge w l.length 0 e;have A:=grownCap_le_maxLen w l.length 0 e (by simp only[maxLen];omega);generalize Z:grownCap w l.length 0 e=C at *;generalize U:bytesRow ⟨l.toArray⟩ C=B at *;have W:=I.grow (w':=w.drew.alloc (.cells B e (B.size,B.size+1))) (S':=λb o=>g.S b o\/b=w.heap.size) rfl rfl rfl (by simp) (λb q=>heap_alloc_old w.drew _ q) (λ_ _ h=>.inl h) (λb o h=>by
   rcases h with h|h
   .exact .inl h
   exact .inr ⟨by omega,by subst h;simp⟩) (λb o h=>h.imp id λh=>by
   subst h;intro o v n;have f:(w.drew.alloc (.cells B e (B.size,B.size+1))).heap[w.heap.size]?=some (.cells B e (B.size,B.size+1)):=heap_alloc_new w.drew (.cells B e (B.size,B.size+1));simp only[World.cell?]at n;rw[f]at n;have F:o<B.size:=by simp only[Option.isSome_none,yG,yc]at n;exact(Array.getElem?_eq_some_iff.1 n).1
   simp only[World.frozen?];rw[f];simp only[Bool.and_eq_false_imp,yO,decide_eq_false_iff_not];omega)
  refine sok T R z (v:=.slice (some ⟨w.heap.size,0,none⟩) l.length C) ?_ W (.data _ _ ?_) h
  .simp[execOp,F,G.str_inv,E]
  have f:=heap_alloc_new w.drew (.cells B e (B.size,B.size+1));have k:(l.map λb=>AV.int .u8 b.toNat).length=l.length:=by simp
  rw[← k];refine .sl .nw 1 _ w.heap.size 0 C (λj=>.int .u8 ((l.getD j 0).toNat)) (by simpa using m) A (λy i=>?_) (λj y i=>?_) (by simp) (λj y i=>?_)
  .obtain⟨b,_,rfl⟩:=yY i;rfl
  .rw[U1I,yF]at i;obtain⟨b,q,rfl⟩:=yC i;have Y:j<l.length:=(by grind);refine⟨?_,.inr rfl,rfl,λb0 D=>by cases D;exact⟨I.nn _ I.fr.size,(I.vac (yV _)).O⟩⟩;rw[Nat.zero_add,cell_of_row _ w.heap.size j B e _ f,← U];have N:l[j]=b:=(by grind);grind[bytesRow,Array.getElem?_append_left,List.getD]
  rw[U1I,yF]at i;obtain⟨b,q,rfl⟩:=yC i;simp only[List.getD,q,Option.getD_some];exact .int _ _
 cases h
end ops
end
end
section
section
variable{P:Program}{c:Cx}{g:Gh}{s:St}{a:Act}{w:World}
theorem W0u{x:AV}(h:x.one=true):x.rdt.one=true:=by cases x<;>first|exact h|simp[AV.one]at h
theorem W0x(x:AV):x.rdt.cells=x.cells.map AV.rdt:=by cases x with|agg cs=>simp[AV.rdt,AV.cells,U5]|_=>simp[AV.rdt,AV.cells]
theorem V1a(es:List AV):flat (rdtL es)=(flat es).map AV.rdt:=by induction es with|nil=>rfl|cons e es a=>grind[rdtL,flat,ya,W0x]
theorem Rd.rdt{S:Nat->Nat->Prop}{N N':Tag->Nat->Value->Prop}(G:∀z v,N' .rd z v){x:AV}{v:Value}(h:Rd w S N x v):Rd w S N' x.rdt v:=by
 induction h with
 |bool b=>exact .bool b|int k n=>exact .int k n|str l=>exact .str l|nl=>exact .nl|sl0 t D p q _=>rw[AV.rdt,rdtL];exact .sl0 _ _ _ _ λ_ e=>by cases e|agg cs u B I h m =>
  rw[AV.rdt,U5];refine .agg _ u (by simpa using B) (λy c=>?_) (λi y v c A=>?_)
  .obtain⟨a,d,rfl⟩:=yY c;exact W0u (I a d)
  rw[yF]at c;obtain⟨a,d,rfl⟩:=yC c;exact m i a v d A
 |fn f cs u B h m =>rw[AV.rdt,U5];refine .fn f _ u (by simpa using B) (λi y v c A=>?_);rw[yF]at c;obtain⟨a,d,rfl⟩:=yC c;exact m i a v d A|ept e off b o C s h m =>
  rw[AV.rdt];have g:∀(j:Nat) (y:AV),e.rdt.cells[j]?=some y->∃a,e.cells[j]?=some a/\y=a.rdt:=by intro j y c;rw[W0x,yF]at c;obtain⟨a,d,rfl⟩:=yC c;exact⟨a,d,rfl⟩
  refine .ept _ off b o C (λj y c=>?_) (λj y c=>?_)
  .obtain⟨a,d,rfl⟩:=g j y c;exact⟨(s j a d).1,(s j a d).2.1,W0u (s j a d).2.2.1,G _ _⟩
  obtain⟨a,d,rfl⟩:=g j y c;exact m j a d
 |sl t D es b o K C M H F s L h m =>
  rw[AV.rdt];have r:(rdtL es).length=es.length:=by rw[U5];simp
  have g:∀(j:Nat) (y:AV),(flat (rdtL es))[j]?=some y->∃a,(flat es)[j]?=some a/\y=a.rdt:=by intro j y c;rw[V1a,yF]at c;obtain⟨a,d,rfl⟩:=yC c;exact⟨a,d,rfl⟩
  rw[← r];refine .sl .rd D _ b o K C (by omega) H (λe E=>?_) (λj y c=>?_) (by simp) (λj y c=>?_)
  .rw[U5]at E;obtain⟨J,d,rfl⟩:=yY E;rw[W0x,List.length_map];exact F J d
  .obtain⟨a,d,rfl⟩:=g j y c;grind[W0u]
  grind
def V1c(g:Gh)(s:St):Nat->Nat->Prop:=λb o=>g.S b o\/∃k r,s.rw k=some r/\(g.rv k).ownBlock=some b/\o<r.es.length*r.sz
theorem M1W(I:Inv c g s a w):∀b o,V1c g s b o->b<w.heap.size:=by
 intro b o h;rcases h with h|⟨k,r,e,d,_⟩
 .exact I.sw b o h
 exact O06 (I.rws k r e) d
theorem Z2E(I:Inv c g s a w){x y:AV}{v:Value}(b:s.dt x=some y)(h:Gv w g s x v):Rd w (V1c g s) g.T1 y v :=by grind[V2v,V1c]
theorem W2r{S:Nat->Nat->Prop}{N:Tag->Nat->Value->Prop}{r:Row}{v:Value}(h:QU w S N r v){b:Nat}(c:v.ownBlock=some b):UnfB w b:=by
 obtain⟨xs,g,a,_⟩:=h;rcases a.2 with⟨e,_⟩|⟨i,cap,f,e,_,d,_⟩
 .rw[e]at c;cases c
 rw[e]at c;cases c;exact .plain d
theorem O1U(I:Inv c g s a w){xs:List X}{ps:List Operand}(n:xs.length=ps.length/\∀(i:Nat)(x:X)(p:Operand),xs[i]?=some x->ps[i]?=some p->chkX x p=true){e:List AV}(h:s.args xs=some e):(ps.map a.eval).length=e.length/\∀(i:Nat)(y:AV)(v:Value),e[i]?=some y->(ps.map a.eval)[i]?=some v->Rd w (V1c g s) rdT y v:=by
 unfold St.args at h;split at h
 .rename_i l k;cases h;have b:=W1I k;rw[U5];refine⟨by simp at b ⊢;omega,λi y v f j=>?_⟩;rw[yF]at f j;obtain⟨m,r,rfl⟩:=yC f;obtain⟨t,o,rfl⟩:=yC j;have q:i<xs.length:=by rw[n.1];grind
  have d:(xs.map s.get)[i]?=some (s.get xs[i]):=by simp[q]
  exact(Z2E I (O1I k i _ m d r) (I.get (by grind))).rdt λ_ _=>rfl
 cases h
theorem Z2t(k n:Nat){x:AV}(h:x.one=true\/x=.bad):(x.ren k n).one=true\/x.ren k n=.bad:=by
 rcases h with h|rfl
 .cases x with|sref j=>rw[AV.ren];split<;>simp[AV.one]|ptr j o=>right;rfl|rpt j i o=>right;rfl|_=>simp[AV.ren,AV.one]at h ⊢
 right;rfl
theorem X2t(rows:List Row){x:AV}(h:x.one=true\/x=.bad):(x.nwd rows).one=true\/x.nwd rows=.bad:=by
 rcases h with h|rfl
 .cases x with|sref j=>rw[AV.nwd];split<;>simp[AV.one]|ptr j o=>right;rfl|rpt j i o=>right;rfl|_=>simp[AV.nwd,AV.one]at h ⊢
 right;rfl
theorem Rd.ren{S:Nat->Nat->Prop}{N:Tag->Nat->Value->Prop}(k n:Nat){x:AV}{v:Value}(h:Rd w S N x v):Rd w S N (x.ren k n) v:=by
 induction h with
 |bool b=>exact .bool b|int k n=>exact .int k n|str l=>exact .str l|nl=>exact .nl|sl0 t r p q E=>exact .sl0 _ _ _ _ E|sl t r es b o L m I G C d F h _=>exact .sl t r es b o L m I G C d F h|ept e off b o m d h _=>exact .ept e off b o m d h|agg cs a j K h A =>
  rw[AV.ren,V0B];refine .agg _ a (by simpa using j) (λy c=>?_) (λi y v c B=>?_)
  .obtain⟨M,s,rfl⟩:=yY c;obtain⟨i,H,rfl⟩:=List.getElem_of_mem s;have g:i<a.length:=by omega
   have D:=h i _ _ (yA H) (yA g);have J:=K _ s;generalize cs[i]=z at *;generalize a[i]=u at *;cases D<;>simp_all [AV.ren,AV.one]
  grind
 |fn f cs a j h A =>rw[AV.ren,V0B];refine .fn f _ a (by simpa using j) (λi y v c B=>?_);rw[yF]at c;grind
theorem Rd.nwd{S:Nat->Nat->Prop}{N:Tag->Nat->Value->Prop}(rows:List Row){x:AV}{v:Value}(h:Rd w S N x v):Rd w S N (x.nwd rows) v:=by
 induction h with
 |bool b=>exact .bool b|int k n=>exact .int k n|str l=>exact .str l|nl=>exact .nl|sl0 t r p q E=>exact .sl0 _ _ _ _ E|sl t r es b o L m I G C d F h _=>exact .sl t r es b o L m I G C d F h|ept e off b o m d h _=>exact .ept e off b o m d h|agg cs a j K h A =>
  rw[AV.nwd,W0B];refine .agg _ a (by simpa using j) (λy c=>?_) (λi y v c B=>?_)
  .obtain⟨M,s,rfl⟩:=yY c;obtain⟨i,H,rfl⟩:=List.getElem_of_mem s;have g:i<a.length:=by omega
   have D:=h i _ _ (yA H) (yA g);have J:=K _ s;generalize cs[i]=z at *;generalize a[i]=u at *;cases D<;>simp_all [AV.nwd,AV.one]
  grind
 |fn f cs a j h A =>rw[AV.nwd,W0B];refine .fn f _ a (by simpa using j) (λi y v c B=>?_);rw[yF]at c;grind
theorem Gv.ren{g':Gh}{s':St}{rows:List Row}{k:Nat}(n:∀b o,g.S b o->g'.S b o)(p:TLe g.S g.T g'.T)(r:∀i,i<rows.length->g'.rv (k+i)=g.rv i){x:AV}{v:Value}(h:Gv w g (L1o rows) x v):Gv w g' s' (x.ren k rows.length) v:=by
 have m:∀(cs:List AV) (a:List Value),(∀(i:Nat) (x:AV) (v:Value),cs[i]?=some x->a[i]?=some v->Gv w g' s' (x.ren k rows.length) v) -> ∀(i:Nat) (x:AV) (v:Value),(cs.map (AV.ren k rows.length))[i]?=some x->a[i]?=some v->Gv w g' s' x v:=by grind
 induction h with
 |data x v h=>exact .data _ v ((h.mono n p (by simp)).ren _ _)|bad v=>exact .bad v|und=>exact .und|sref i v l h =>
  rw[AV.ren];split
  .rename_i t;refine .sref _ v l λr' _=>?_;rw[r i t];grind[L1o]
  exact .bad v
 |ptr j off v l h=>exact .bad v|rpt j i off v l h=>exact .bad v|el z=>exact .el z|od=>exact .bad _|op=>exact .bad _|eot e off b o u B h=>exact .eot e off b o u (by grind) (λj y s=>(h j y s).mono n p (by simp))|agg cs a d l _ c =>rw[AV.ren,V0B];refine .agg _ a (by simpa using d) (λy q=>?_) (m cs a c);obtain⟨A,C,rfl⟩:=yY q;grind[Z2t]|tup cs a d _ c=>rw[AV.ren,V0B];exact .tup _ a (by simpa using d) (m cs a c)|fn f cs a d _ c=>rw[AV.ren,V0B];exact .fn f _ a (by simpa using d) (m cs a c)
theorem Gv.nwd{g':Gh}{s':St}{rows:List Row}(n:∀b o,g.S b o->g'.S b o)(p:TLe g.S g.T g'.T)(s:∀(i:Nat)(r:Row),rows[i]?=some r->Rd w g'.S g'.T (.sl .nw r.sz r.es) (g.rv i)){x:AV}{v:Value}(h:Gv w g (L1o rows) x v):Gv w g' s' (x.nwd rows) v:=by
 have k:∀(cs:List AV) (a:List Value),(∀(i:Nat) (x:AV) (v:Value),cs[i]?=some x->a[i]?=some v->Gv w g' s' (x.nwd rows) v) -> ∀(i:Nat) (x:AV) (v:Value),(cs.map (AV.nwd rows))[i]?=some x->a[i]?=some v->Gv w g' s' x v:=by grind
 induction h with
 |data x v h=>exact .data _ v ((h.mono n p (by simp)).nwd _)|bad v=>exact .bad v|und=>exact .und|sref i v l h =>
  rw[AV.nwd];split
  .rename_i r m;rw[h r (by simpa[L1o]using m)];exact .data _ _ (s i r m)
  exact .bad v
 |ptr j off v l h=>exact .bad v|rpt j i off v l h=>exact .bad v|el z=>exact .el z|od=>exact .bad _|op=>exact .bad _|eot e off b o u B h=>exact .eot e off b o u (by grind) (λj y t=>(h j y t).mono n p (by simp))|agg cs a d l _ c =>rw[AV.nwd,W0B];refine .agg _ a (by simpa using d) (λy q=>?_) (k cs a c);obtain⟨A,C,rfl⟩:=yY q;grind[X2t]|tup cs a d _ c=>rw[AV.nwd,W0B];exact .tup _ a (by simpa using d) (k cs a c)|fn f cs a d _ c=>rw[AV.nwd,W0B];exact .fn f _ a (by simpa using d) (k cs a c)
theorem Inv.addrows:∀(rows:List Row)(k:Nat)(d:Nat->Value)(g:Gh)(s:St),Inv c g s a w -> (∀(i:Nat)(r:Row),rows[i]?=some r->QU w g.S g.T r (d i)/\∀b,(d i).ownBlock=some b->Vac c g s b)->k+rows.length<1000000000 -> (∀(i j:Nat)(r r':Row),rows[i]?=some r->rows[j]?=some r'->i≠j->∀b,(d i).ownBlock=some b->(d j).ownBlock≠some b) -> ∃g',Inv c g' (s.addrows k rows) a w/\g'.S=g.S/\(g'.N=g.N/\g'.ov=g.ov)/\(∀i,i<rows.length->g'.rv (k+i)=d i)/\∀j,j<k->g'.rv j=g.rv j
 |[],k,d,g,s,I,_,_,_=>⟨g,I,rfl,⟨rfl,rfl⟩,by simp,λ_ _=>rfl⟩|r::rs,k,d,g,s,I,h,hkb,hd=>by
  obtain⟨A,o⟩:=h 0 r rfl;have F:=I.addrow k r (d 0) A o (by simp at hkb;omega);obtain⟨g',E,D,C,B,t⟩:=Inv.addrows rs (k+1) (λi=>d (i+1)) _ _ F (λi r' l=>by
   obtain⟨y,x⟩:=h (i+1) r' l;refine⟨by simpa using y,λb q=>?_⟩;have V:=x b q;refine⟨V.S,λj cs f=>?_,λj n f=>?_,V.N,V.O⟩
   .obtain⟨_,c0,p,_⟩:=M8 f;exact V.bx j c0 p
   .by_cases m:j=k
    .subst m;simp[];exact λe=>hd 0 (i+1) r r' rfl l (by omega) b e q
    .simp[m]at f ⊢;exact V.rw j n (Xc f).2) (by simp at hkb;omega) (λi j v u l f z=>hd (i+1) (j+1) v u l f (by omega))
  refine⟨g',E,D,C,λi l=>?_,λj f=>?_⟩
  .cases i with|zero=>rw[Nat.add_zero,t k (by omega)];simp|succ i=>rw[show k+(i+1)=k+1+i by omega];exact B i (by simpa using l)
  .rw[t j (by omega)];simp[show j≠k by omega]
section ops
variable{o:Oper}{d:Nat}{K:St->Prop}{K':Act->World->Prop}{Q':Exit->Act->World->Prop}
theorem L10{f:FuncId}(a:isFn P f=true)(b:Array Value):(callFunc f b).run P w=.ok (.enter f b) w:=by
 unfold isFn at a;split at a
 .rename_i e c;simp[bne_iff_ne]at a;obtain⟨bd,d⟩:=Option.isSome_iff_exists.1 a.1;simp_all[callFunc]
 cases a
theorem after(I:Inv c g s a w){w':World}(d:Below w.heap.size w w'){S2:Nat->Nat->Prop}(i:∀b o,S2 b o->w.heap.size<=b/\b<w'.heap.size)(f:∀b o,S2 b o->UnfB w' b):Inv c { g with S:=λb o=>g.S b o\/S2 b o } s a w' :=I.grow d.os d.tape d.output d.size (λk e=>d.block k e) (by grind) (by grind) λb o h=>h.imp id (f b o)
theorem J2v(I:Inv c g s a w)(hK:∀g' s' J w',Inv c g' s' J w'->K s'->K' J w')(Z:o.dst=some d)(z:d<c.nt){f:FuncId}{F:List AV}{l:AV}{rows:List Row}{x:List Value}(n:(execOp a.eval o).run P w=.ok (.enter f x.toArray) w)(m:x.length=F.length/\∀(i:Nat)(y:AV)(v:Value),F[i]?=some y->x[i]?=some v->Rd w (V1c g s) rdT y v)(U:Snd P f F l rows)(W:rows.length<=1000)(h:K ((s.addrows (1000*d+1000) rows).set d (l.ren (1000*d+1000) rows.length))):o.wp P a w K' Q':=by
 have hc:=U w (V1c g s) rdT x (M1W I) m.1 m.2;unfold Oper.wp;rw[n,Oper.upon_enter];refine hc.mono λe w' X=>?_;obtain⟨v,rfl,hb,G,u,E,p,A,k,q,D⟩:=X;have t:=TLe.call p (λb o h=>(u b o h).1) (λb C=>I.nn b (Nat.le_trans I.fr.size (E b C))) (λb h=>I.ow.size h);simp[Z];have I1:=after I hb u D;obtain⟨g3,I2,e1,H,e3,_⟩:=Inv.addrows rows (1000*d+1000) G.rv _ s I1 (λi r Y=>by
  obtain⟨R,Q⟩:=k i r Y;refine⟨R.mono (w':=w') (S':=λb o=>g.S b o\/G.S b o) (N':=g.T) (λ_ _ h=>.inr h) t (by simp) (λ_ _=>rfl),λb B=>?_⟩;obtain⟨M,L⟩:=Q b B;have V:=I.vac M;refine⟨λo' j=>?_,V.bx,V.rw,V.N,V.O⟩;rcases j with j|j
  .exact V.S o' j
  exact L o' j) (by have:=c.ntb;omega) q
 refine hK _ _ _ _ (I2.put z ?_) h;refine A.ren (by grind) (by rw[Gh.T_eq (g:=g) H.1 H.2];exact t) e3
theorem L2f(I:Inv c g s a w)(W:∀g' s' N w',Inv c g' s' N w'->K s'->K' N w')(R:o.dst=some d)(E:d<c.nt){f:FuncId}{L:List AV}{n:AV}{rows:List Row}{A:List Value}(t:(execOp a.eval o).run P w=.ok (.enter f A.toArray) w)(p:A.length=L.length/\∀(i:Nat)(y:AV)(v:Value),L[i]?=some y->A[i]?=some v->Rd w (V1c g s) rdT y v)(O:Snd P f L n rows)(h:K (s.set d (n.nwd rows))):o.wp P a w K' Q':=by
 have U:=O w (V1c g s) rdT A (M1W I) p.1 p.2;unfold Oper.wp;rw[t,Oper.upon_enter];refine U.mono λe w' Q=>?_;obtain⟨v,rfl,V,J,z,H,u,F,j,M,G⟩:=Q;have x:=TLe.call u (λb o h=>(z b o h).1) (λb l=>I.nn b (Nat.le_trans I.fr.size (H b l))) (λb h=>I.ow.size h);simp[R];have X:=after I V (S2:=V1c J (L1o rows)) (λb o' h=>by
  rcases h with h|⟨k,r,D,C,_⟩
  .exact z b o' h
  .exact⟨((j k r D).2 b C).1,O06 (j k r D).1 C⟩) (λb o' h=>by
  rcases h with h|⟨k,r,D,C,_⟩
  .exact G b o' h
  exact W2r (j k r D).1 C)
 refine W _ _ _ _ (X.put E ?_) h;refine F.nwd (g':={ g with S:=λb o=>g.S b o\/V1c J (L1o rows) b o }) (λb o' m=>.inr (.inl m)) (by simpa using x) (λi r B=>?_);have q:=(j i r B).1.mono (w':=w') (S':=λb o=>g.S b o\/V1c J (L1o rows) b o) (N':=g.T) (λ_ _ h=>.inr (.inl h)) x (by simp) (λ_ _=>rfl);simp[Gh.T_of];exact V0a q (λb o' l m=>.inr (.inr ⟨i,r,B,l,m⟩)) .nw (λb l=>⟨I.nn b (Nat.le_trans I.fr.size ((j i r B).2 b l).1),λq=>by have:=I.ow.size q;have:=((j i r B).2 b l).1;omega⟩)
theorem J0A{f:FuncId}{ps:List Operand}{b:Array TypeId}(c:o.op=.call { callee:=.value (.func f),args:=ps.toArray,argTypes:=b })(d:isFn P f=true) : (execOp a.eval o).run P w=.ok (.enter f (ps.map a.eval).toArray) w:=by simp[execOp,c,resolve,Act.eval,Deferred.ofValue,invoke,L10 d]
theorem M2z(I:Inv c g s a w)(v:∀g' s' k w',Inv c g' s' k w'->K s'->K' k w')(u:o.dst=some d)(e:d<c.nt){f:FuncId}{xs:List X}{ps:List Operand}{l:Array TypeId}(r:o.op=.call { callee:=.value (.func f),args:=ps.toArray,argTypes:=l })(t:isFn P f=true)(n:xs.length=ps.length/\∀(i:Nat)(x:X)(p:Operand),xs[i]?=some x->ps[i]?=some p->chkX x p=true)(h:wop P (.cl d f xs) K s):o.wp P a w K' Q':=by simp[wop]at h;obtain⟨y,j,m,rows,q,b,h⟩:=h;exact J2v I v u e (J0A r t) (O1U I n j) q b h
theorem Q2z(I:Inv c g s a w)(u:∀g' s' j w',Inv c g' s' j w'->K s'->K' j w')(t:o.dst=some d)(b:d<c.nt){f:FuncId}{xs:List X}{ps:List Operand}{k:Array TypeId}(q:o.op=.call { callee:=.value (.func f),args:=ps.toArray,argTypes:=k })(r:isFn P f=true)(m:xs.length=ps.length/\∀(i:Nat)(x:X)(p:Operand),xs[i]?=some x->ps[i]?=some p->chkX x p=true)(h:wop P (.cq d f xs) K s):o.wp P a w K' Q':=by simp[wop]at h;obtain⟨v,e,l,rows,n,h⟩:=h;exact L2f I u t b (J0A q r) (O1U I m e) n h
theorem L2z(I:Inv c g s a w)(V:∀g' s' G w',Inv c g' s' G w'->K s'->K' G w')(T:o.dst=some d)(A:d<c.nt){r:X}{b:Operand}{xs:List X}{ps:List Operand}{J:Array TypeId}(O:o.op=.call { callee:=.value b,args:=ps.toArray,argTypes:=J })(C:chkX r b=true)(E:xs.length=ps.length/\∀(i:Nat)(x:X)(p:Operand),xs[i]?=some x->ps[i]?=some p->chkX x p=true)(h:wop P (.cc d r xs) K s):o.wp P a w K' Q':=by
 simp[wop]at h;obtain⟨W,D,f,cap,l,rfl,S,L,rows,N,h⟩:=h;have t:(r::xs).length=(b::ps).length/\∀(i:Nat) (x:X) (p:Operand),(r::xs)[i]?=some x->(b::ps)[i]?=some p->chkX x p=true:=by refine⟨by simp[E.1],λi x p q n=>?_⟩;cases i with|zero=>simp at q n;subst q;subst n;exact C|succ i=>simp at q n;exact E.2 i x p q n
 obtain⟨B,F⟩:=O1U I t D;simp only[List.map_cons,yT]at B;have k:=F 0 _ (a.eval b) rfl rfl;generalize M:a.eval b=v at k;cases k with
 |fn _ _ H Q U =>
  have j:(execOp a.eval o).run P w=.ok (.enter f (ps.map a.eval++H).toArray) w:=by simp[execOp,O,resolve,M,Deferred.ofValue,invoke,L10 S]
  refine L2f I V T A j ⟨by simp at B ⊢;omega,λi y u m e=>?_⟩ N h;have z:l.length=(ps.map a.eval).length:=by simp at B ⊢;omega
  by_cases R:i<l.length
  .rw[yK R]at m;rw[yK (by omega)]at e;exact F (i+1) y u (by simpa using m) (by simpa using e)
  rw[yS (by omega)]at m;rw[yS (by omega)]at e;rw[← z]at e;exact U _ y u m e
end ops
end
end
section
section
variable{P:Program}{c:Cx}{g:Gh}{s:St}{a:Act}{w:World}
theorem Rd.mp{S:Nat->Nat->Prop}{N:Tag->Nat->Value->Prop}(fb fr:Nat->Option Nat){x:AV}{v:Value}(h:Rd w S N x v):Rd w S N (x.mp fb fr) v:=by
 induction h with
 |bool b=>exact .bool b|int k n=>exact .int k n|str l=>exact .str l|nl=>exact .nl|sl0 t r p q E=>exact .sl0 _ _ _ _ E|sl t r es b o L m I G C d F h _=>exact .sl t r es b o L m I G C d F h|ept e off b o m d h _=>exact .ept e off b o m d h|agg cs a j K h A =>
  rw[AV.mp,VN];refine .agg _ a (by simpa using j) (λy c=>?_) (λi y v c B=>?_)
  .obtain⟨M,s,rfl⟩:=yY c;obtain⟨i,H,rfl⟩:=List.getElem_of_mem s;have g:i<a.length:=by omega
   have D:=h i _ _ (yA H) (yA g);have J:=K _ s;generalize cs[i]=z at *;generalize a[i]=u at *;cases D<;>simp_all [AV.mp,AV.one]
  grind
 |fn f cs a j h A =>rw[AV.mp,VN];refine .fn f _ a (by simpa using j) (λi y v c B=>?_);rw[yF]at c;grind
theorem J28(fb fr:Nat->Option Nat){x:AV}(h:x.one=true\/x=.bad):(x.mp fb fr).one=true\/x.mp fb fr=.bad:=by
 rcases h with h|rfl
 .cases x with|sref j=>rw[AV.mp];split<;>simp[AV.one]|ptr j o=>rw[AV.mp];split<;>simp[AV.one]|rpt j i o=>rw[AV.mp];split<;>simp[AV.one]|_=>simp[AV.mp,AV.one]at h ⊢
 right;rfl
theorem Gv.mp{w':World}{g':Gh}{s':St}{fb fr:Nat->Option Nat}(u:∀b o,g.S b o->g'.S b o)(z:TLe g.S g.T g'.T)(t:∀b o,g.S b o->w'.cell? ⟨b,o,none⟩=w.cell? ⟨b,o,none⟩)(H:∀i k,fr i=some k->∀r',s'.rw k=some r'->∃r,s.rw i=some r/\r'.sz=r.sz/\g'.rv k=g.rv i)(I:∀i k,fb i=some k->∀c',s'.bx k=some c'->∃c,s.bx i=some c/\g'.bb k=g.bb i){x:AV}{v:Value}(h:Gv w g s x v):Gv w' g' s' (x.mp fb fr) v:=by
 have n:∀(cs:List AV) (a:List Value),(∀(i:Nat) (x:AV) (v:Value),cs[i]?=some x->a[i]?=some v->Gv w' g' s' (x.mp fb fr) v) -> ∀(i:Nat) (x:AV) (v:Value),(cs.map (AV.mp fb fr))[i]?=some x->a[i]?=some v->Gv w' g' s' x v:=by grind
 induction h with
 |data x v h=>exact .data _ v ((h.mono u z t).mp _ _)|bad v=>exact .bad v|und=>exact .und|sref i v d h =>
  rw[AV.mp];split
  .rename_i k q;refine .sref _ v d λr' p=>?_;grind
  exact .bad v
 |ptr j off v d h =>
  rw[AV.mp];split
  .rename_i k q;refine .ptr _ _ v d λc' C=>?_;grind
  exact .bad v
 |rpt j i off v d h =>
  rw[AV.mp];split
  .rename_i k q;refine .rpt _ _ _ v d λr' p=>?_;grind
  exact .bad v
 |el E=>exact .el E|od=>exact .bad _|op=>exact .bad _|eot e off b o D G h=>exact .eot e off b o D (by grind) (λj y B=>(h j y B).mono u z t)|agg cs a m d _ l =>rw[AV.mp,VN];refine .agg _ a (by simpa using m) (λy A=>?_) (n cs a l);obtain⟨F,J,rfl⟩:=yY A;grind[J28]|tup cs a m _ l=>rw[AV.mp,VN];exact .tup _ a (by simpa using m) (n cs a l)|fn f cs a m _ l=>rw[AV.mp,VN];exact .fn f _ a (by simpa using m) (n cs a l)
theorem Q01.mp{w':World}{g':Gh}{s':St}{fb fr:Nat->Option Nat}{b d:Nat}{cs:List AV}(z:∀b o,g.S b o->g'.S b o)(A:TLe g.S g.T g'.T)(u:∀b o,g.S b o->w'.cell? ⟨b,o,none⟩=w.cell? ⟨b,o,none⟩)(q:∀i k,fr i=some k->∀r',s'.rw k=some r'->∃r,s.rw i=some r/\r'.sz=r.sz/\g'.rv k=g.rv i)(y:∀i k,fb i=some k->∀c',s'.bx k=some c'->∃c,s.bx i=some c/\g'.bb k=g.bb i)(t:w'.heap[d]?=w.heap[b]?)(h:Q01 w g s b cs):Q01 w' g' s' d (mpL fb fr cs):=by obtain⟨f,j,D,C,B⟩:=h;refine⟨f,j,by rw[t];exact D,by rw[VN];simpa using C,λi x v a p=>?_⟩;rw[VN,yF]at a;obtain⟨e,E,rfl⟩:=yC a;obtain⟨n,m,l⟩:=B i e v E p;exact⟨J28 fb fr n,m,l.mp z A u q y⟩
theorem M27{x:AV}(h:x=.bad):x.rdt=.bad:=by subst h;rfl
def Gh.bare(g:Gh):Gh:={ g with S:=λb o=>g.S b o/\¬ g.own b,ov:=λ_=>none }
theorem Gh.bare_rd(g:Gh)(z:Nat)(v:Value):g.bare.T .rd z v:=Gh.T_rd (λ_=>rfl) z v
theorem Gv.rdt(A:∀z v,g.T .rd z v){x:AV}{v:Value}(h:Gv w g s x v):Gv w g s x.rdt v:=by
 have p:∀(cs:List AV) (d:List Value),(∀(i:Nat) (x:AV) (v:Value),cs[i]?=some x->d[i]?=some v->Gv w g s x.rdt v) -> ∀(i:Nat) (x:AV) (v:Value),(cs.map AV.rdt)[i]?=some x->d[i]?=some v->Gv w g s x v:=by grind
 induction h with|data x v h=>exact .data _ v (h.rdt A)|bad v=>exact .bad v|und=>exact .und|sref i v k h=>exact .sref i v k h|ptr j off v k h=>exact .ptr j off v k h|rpt j i off v k h=>exact .rpt j i off v k h|el C=>exact .el C|eot e off b o t q h=>exact .eot e off b o t q h|od i ks a n c D r h=>exact .od i ks a n c D r h|op i ks off b o D t r B q h=>exact .op i ks off b o D t r B q h|agg cs d m k _ l =>rw[AV.rdt,U5];refine .agg _ d (by simpa using m) (λy u=>?_) (p cs d l);obtain⟨E,F,rfl⟩:=yY u;grind[W0u,M27]|tup cs d m _ l=>rw[AV.rdt,U5];exact .tup _ d (by simpa using m) (p cs d l)|fn f cs d m _ l=>rw[AV.rdt,U5];exact .fn f _ d (by simpa using m) (p cs d l)
theorem GE.rdt(a:AV):GE a a.rdt:=λ_ _ _ _ h b=>b.rdt λz v=>Gh.T_rd h z v
theorem GEs.rdt(l:List AV):GEs l (l.map AV.rdt):=⟨by simp,λi a b h c=>by
 rw[yF,h]at c
 cases c
 exact .rdt _⟩
mutual
def AV.kod:AV->AV
 |.od _ _ _=>.bad
 |.op _ _ _=>.bad
 |.agg cs=>.agg (kodL cs)
 |.tup cs=>.tup (kodL cs)
 |.fn f cs=>.fn f (kodL cs)
 |a=>a
def kodL:List AV->List AV
 |[]=>[]
 |a::l=>AV.kod a::kodL l
end
theorem W0i:∀l,kodL l=l.map AV.kod
 |[]=>rfl|a::l=>by rw[kodL,W0i l];rfl
mutual
theorem Z2D(fb fr:Nat->Option Nat):∀x:AV,x.kod.mp fb fr=x.mp fb fr
 |.od _ _ _ | .op _ _ _ | .bool _ | .int _ _ | .str _ | .nl | .el | .ept _ _ | .eot _ _ | .und | .bad | .sl _ _ _ | .sref _ | .ptr _ _ | .rpt _ _ _=>by simp[AV.kod,AV.mp]
 |.tup cs=>by rw[AV.kod,AV.mp,AV.mp,V1e fb fr cs]
 |.agg cs=>by rw[AV.kod,AV.mp,AV.mp,V1e fb fr cs]
 |.fn f cs=>by rw[AV.kod,AV.mp,AV.mp,V1e fb fr cs]
theorem V1e(fb fr:Nat->Option Nat):∀l:List AV,mpL fb fr (kodL l)=mpL fb fr l
 |[]=>rfl
 |a::l=>by rw[kodL,mpL,mpL,Z2D fb fr a,V1e fb fr l]
end
mutual
theorem U2C{fb fr:Nat->Option Nat}:∀{x:AV},(x.mp fb fr).noO->x.kod.noO
 |.bool _,_ | .int _ _,_ | .str _,_ | .nl,_ | .el,_ | .und,_ | .bad,_ | .sref _,_ | .ptr _ _,_ | .rpt _ _ _,_ | .od _ _ _,_ | .op _ _ _,_=>by simp[AV.kod,AV.noO]
 |.sl _ _ _,h | .ept _ _,h | .eot _ _,h=>by simpa[AV.mp,AV.kod]using h
 |.agg cs,h=>by simp only[AV.mp,AV.kod,AV.noO]at h ⊢;exact J0u h
 |.tup cs,h=>by simp only[AV.mp,AV.kod,AV.noO]at h ⊢;exact J0u h
 |.fn f cs,h=>by simp only[AV.mp,AV.kod,AV.noO]at h ⊢;exact J0u h
theorem J0u{fb fr:Nat->Option Nat}:∀{l:List AV},noOL (mpL fb fr l)->noOL (kodL l)
 |[],_=>by simp[kodL,noOL]
 |a::l,h=>by simp only[mpL,kodL,noOL]at h ⊢;exact⟨U2C h.1,J0u h.2⟩
end
theorem Rd.kod{S:Nat->Nat->Prop}{T:Tag->Nat->Value->Prop}{x:AV}{v:Value}(h:Rd w S T x v):x.kod=x:=by
 have d:∀(cs:List AV) (a:List Value),cs.length=a.length->(∀(i:Nat) (x:AV) (v:Value),cs[i]?=some x->a[i]?=some v->x.kod=x)->kodL cs=cs:=by
  intro cs a c b;rw[W0i];apply List.ext_getElem?;intro i;rw[yF];cases hc:cs[i]? with
  |none=>rfl|some x =>
   have e:i<a.length:=by rw[← c];grind
   rw[Option.map_some,b i x a[i] hc (by simp)]
 induction h with|agg cs a c g _ b=>rw[AV.kod,d cs a c b]|fn f cs a c _ b=>rw[AV.kod,d cs a c b]|_=>rfl
theorem X2b{x:AV}(h:x.one=true\/x=.bad):x.kod.one=true\/x.kod=.bad:=by
 rcases h with h|rfl
 .cases x<;>simp_all [AV.kod,AV.one]
 right;rfl
theorem Gv.kod{x:AV}{v:Value}(h:Gv w g s x v):Gv w g s x.kod v:=by
 have l:∀(cs:List AV) (a:List Value),(∀(i:Nat) (x:AV) (v:Value),cs[i]?=some x->a[i]?=some v->Gv w g s x.kod v) -> ∀(i:Nat) (x:AV) (v:Value),(cs.map AV.kod)[i]?=some x->a[i]?=some v->Gv w g s x v:=by grind
 induction h with|data x v h=>exact .data _ v (by rw[h.kod];exact h)|bad v=>exact .bad v|und=>exact .und|sref i v c h=>exact .sref i v c h|ptr j off v c h=>exact .ptr j off v c h|rpt j i off v c h=>exact .rpt j i off v c h|el q=>exact .el q|od=>exact .bad _|op=>exact .bad _|eot e off b o p n h=>exact .eot e off b o p n h|agg cs a k c _ d =>rw[AV.kod,W0i];refine .agg _ a (by simpa using k) (λy m=>?_) (l cs a d);obtain⟨r,t,rfl⟩:=yY m;grind[X2b]|tup cs a k _ d=>rw[AV.kod,W0i];exact .tup _ a (by simpa using k) (l cs a d)|fn f cs a k _ d=>rw[AV.kod,W0i];exact .fn f _ a (by simpa using k) (l cs a d)
theorem Q01.kod{b:Nat}{cs:List AV}(h:Q01 w g s b cs):Q01 w g s b (kodL cs):=by obtain⟨e,f,m,l,k⟩:=h;refine⟨e,f,m,by rw[W0i];simpa using l,λi a v c j=>?_⟩;rw[W0i,yF]at c;obtain⟨d,n,rfl⟩:=yC c;exact⟨by grind[X2b],(by grind),(k i d v n j).2.2.kod⟩
theorem X1d{x:AV}(h:x.noO):noOL x.cells:=by cases x with|agg cs=>grind[AV.noO,AV.cells]|_=>exact⟨h,trivial⟩
theorem Zd:∀{l:List AV},noOL l↔∀a∈l,a.noO
 |[]=>by simp[noOL]|a::l=>by simp[noOL,Zd (l:=l)]
theorem O1C{es:List AV}(h:noOL es):noOL (flat es):=by rw[Zd]at h ⊢;intro a c;obtain⟨e,d,b⟩:=List.mem_flatMap.1 c;grind[Zd,X1d]
theorem Rd.bare{x:AV}{v:Value}(h:Rd w g.S g.T x v)(p:x.noO):Rd w g.bare.S g.bare.T x v:=by
 induction h with
 |bool b=>exact .bool b|int k n=>exact .int k n|str l=>exact .str l|nl=>exact .nl|agg cs u A H _ r=>exact .agg cs u A H λi a v s z=>r i a v s z (Zd.1 (by simpa[AV.noO]using p) a (yE s))|fn f cs u A _ r=>exact .fn f cs u A λi a v s z=>r i a v s z (Zd.1 (by simpa[AV.noO]using p) a (yE s))|sl0 t y a c F=>exact .sl0 t y a c λi e=>by subst e;simp[AV.noO,Tag.isOwn]at p|sl t y es b o c D B G E m F _ r =>simp[AV.noO]at p;refine .sl t y es b o c D B G E (λj a d=>⟨(m j a d).1,⟨(m j a d).2.1,Gh.T_to_rd (z':=0) (o':=0) (n':=0) (c':=0) p.1 (m j a d).2.2.2 b rfl⟩,(m j a d).2.2.1,?_⟩) (by omega) λj a d=>r j a d (Zd.1 (O1C p.2) a (yE d));have:=(m j a d).2.2.2;cases t with|rd=>exact g.bare_rd _ _|nw=>exact λI C=>⟨(this I C).1,λq=>by obtain⟨_,_,e,_⟩:=q;cases e⟩|own i=>grind[Tag.isOwn]
 |ept e off b o D m _ r =>simp[AV.noO]at p;exact .ept e off b o D (λj a d=>⟨(m j a d).1,⟨(m j a d).2.1,(m j a d).2.2.2 b rfl⟩,(m j a d).2.2.1,g.bare_rd _ _⟩) λj a d=>r j a d (Zd.1 (X1d p) a (yE d))
theorem Gv.bare{x:AV}{v:Value}(h:Gv w g s x v)(d:x.noO):Gv w g.bare s x v:=by induction h with|data x v h=>exact .data _ v (h.bare d)|bad v=>exact .bad v|und=>exact .und|sref i v k h=>exact .sref i v k h|ptr j off v k h=>exact .ptr j off v k h|rpt j i off v k h=>exact .rpt j i off v k h|el q=>exact .el q|od=>exact(show False from d).elim|op=>exact(show False from d).elim|eot e off b o t r h=>exact(show False from d).elim|agg cs l p k _ m=>exact .agg cs l p k λi a v c n=>m i a v c n (Zd.1 (by simpa[AV.noO]using d) a (yE c))|tup cs l p _ m=>exact .tup cs l p λi a v c n=>m i a v c n (Zd.1 (by simpa[AV.noO]using d) a (yE c))|fn f cs l p _ m=>exact .fn f cs l p λi a v c n=>m i a v c n (Zd.1 (by simpa[AV.noO]using d) a (yE c))
theorem Q01.bare{b:Nat}{cs:List AV}(h:Q01 w g s b cs)(f:noOL cs):Q01 w g.bare s b cs:=by obtain⟨c,d,m,l,k⟩:=h;exact⟨c,d,m,l,λi a v j e=>⟨(by grind),(by grind),(k i a v j e).2.2.bare (Zd.1 f a (by grind))⟩⟩
theorem QU.bare{r:Row}{v:Value}(h:QU w g.S g.T r v)(k:noOL r.es):QU w g.bare.S g.bare.T r v:=by obtain⟨xs,b,i,f,e⟩:=h;exact⟨xs,b,i,f,λj a u d c=>⟨(by grind),(by grind),(e j a u d c).2.2.bare (by grind[Zd,O1C,yE])⟩⟩
theorem Inv.kill0(I:Inv c g s a w)(k:Nat):Inv c g (s.kill k) a w:=by
 have T:Turn (·≠k) w w g g s (s.kill k):=by refine⟨λ_ _ h=>h,λ_ h=>h,TLe.of (λ_ h=>h) rfl,λ_ _ _=>rfl,λj q r h=>⟨r,(Xc h).2,rfl,rfl⟩,λj q c' h=>?_,λ_ _ h=>h,Y1E⟩;obtain⟨_,c0,e,_⟩:=M8 h;grind
 refine⟨I.defers,I.nt,I.fr,λi=>(I.tm i).turn_dead T,?_,?_,?_,?_,?_,?_,?_,I.sw,I.nn,I.nx,I.fix,I.sm,I.sb,I.ow.turn rfl (λ_ h=>h) (yV _) (λ_ _=>rfl) (λj n h=>by obtain⟨_,c0,e,_⟩:=M8 h;exact I.ow.bx j c0 e) (λj r h=>I.ow.rw j r (Xc h).2),I.uf,I.sd⟩
 .intro j n h;obtain⟨_,c0,e,rfl⟩:=M8 h;exact U0h T (I.bxs j c0 e)
 .intro j n h;obtain⟨_,c0,e,rfl⟩:=M8 h;exact I.bxn j c0 e
 .intro j r h;exact I.rws j r (Xc h).2
 .intro j r h;exact I.rwn j r (Xc h).2
 .intro j f u v m l b;obtain⟨_,p,d,_⟩:=M8 m;obtain⟨_,t,o,_⟩:=M8 l;exact I.dbb j f p t d o b
 .intro j f u r m l;obtain⟨_,p,d,_⟩:=M8 m;exact I.dbr j f p r d (Xc l).2
 intro j f r r' m l b;exact I.drr j f r r' (Xc m).2 (Xc l).2 b
theorem Inv.kill2:∀(ks:List Nat){s:St},Inv c g s a w->Inv c g (s.kill2 ks) a w
 |[],_,I=>I|k::ks,_,I=>Inv.kill2 ks (I.kill0 k)
theorem M0i:∀{ks:List Nat}{s:St}{j:Nat}{cs:List AV},(s.kill2 ks).bx j=some cs->j∉ks/\∃c0,s.bx j=some c0/\cs.length=c0.length
 |[],s,j,cs,h=>⟨by simp,cs,h,rfl⟩|k::ks,s,j,cs,h=>by obtain⟨e,c0,d,c⟩:=M0i (ks:=ks) (s:=s.kill k) h;obtain⟨b,f,a,rfl⟩:=M8 d;exact⟨by simp[e,b],f,a,by rw[c,Yd];simp⟩
theorem O0i:∀{ks:List Nat}{s:St}{j:Nat}{r:Row},(s.kill2 ks).rw j=some r->j∉ks/\s.rw j=some r
 |[],s,j,r,h=>⟨by simp,h⟩|k::ks,s,j,r,h=>by obtain⟨b,a⟩:=O0i (ks:=ks) (s:=s.kill k) h;grind[Xc]
theorem V0J:∀{ks:List Nat}{s:St}{j:Nat}{c0:List AV},j∉ks->s.bx j=some c0->∃cs,(s.kill2 ks).bx j=some cs/\cs.length=c0.length
 |[],s,j,c0,_,h=>⟨c0,h,rfl⟩|k::ks,s,j,c0,hj,h=>by simp[List.mem_cons,not_or]at hj;obtain⟨cs,b,a⟩:=V0J (ks:=ks) (s:=s.kill k) (c0:=U7 k c0) hj.2 (by simp[St.kill,hj.1,h]);exact⟨cs,b,by rw[a,Yd];simp⟩
theorem J0P:∀{ks:List Nat}{us:List (Option (List AV))}{k:Nat},k∈drops ks us->k∈ks
 |[],_,k,h=>by simp[drops]at h|_::_,[],k,h=>by simp[drops]at h|k0::ks,none::us,k,h=>by
  simp[drops,List.mem_cons]at h ⊢;rcases h with h|h
  .exact .inl h
  .exact .inr (J0P h)
 |k0::ks,some _::us,k,h=>by simp[drops,List.mem_cons]at h ⊢;exact .inr (J0P h)
theorem Z1m:∀{ks:List Nat}{us:List (Option (List AV))}{i k:Nat},ks[i]?=some k->us[i]?=some none->k∈drops ks us
 |[],_,i,k,h,_=>by simp at h|_::_,[],i,k,_,h=>by simp at h|k0::ks,u::us,0,k,h,h2=>by simp at h h2;subst h;subst h2;simp[drops]|k0::ks,u::us,i+1,k,h,h2=>by have:=Z1m (ks:=ks) (us:=us) (i:=i) (k:=k) (by simpa using h) (by simpa using h2);cases u<;>simp[drops,this]
theorem O2l:∀{ks:List Nat}{us:List (Option (List AV))}{k:Nat}{a:List AV},upf ks us k=some a->∃i:Nat,ks[i]?=some k/\us[i]?=some (some a)
 |[],_,k,a,h=>by simp[upf]at h|_::_,[],k,a,h=>by simp[upf]at h|k0::ks,u::us,k,a,h=>by
  simp[upf]at h;split at h
  .rename_i e;exact⟨0,by simp[e],by simp[h]⟩
  .obtain⟨i,c,b⟩:=O2l h;exact⟨i+1,by simpa using c,by simpa using b⟩
theorem Q1z:∀{ks:List Nat}{us:List (Option (List AV))}{i k:Nat},ks.length=us.length->ks.Nodup->ks[i]?=some k->upf ks us k=none->us[i]?=some none
 |[],_,i,k,_,_,h,_=>by simp at h|_::_,[],i,k,h,_,_,_=>by simp at h|k0::ks,u::us,0,k,_,_,h,h2=>by simp at h;subst h;simp[upf]at h2;simp[h2]|k0::ks,u::us,i+1,k,hl,hn,h,h2=>by simp[List.nodup_cons]at hn;have b:=yE (by simpa using h);have a:k≠k0:=λe=>hn.1 (e ▸ b);simp[upf,a]at h2;simpa using Q1z (by simpa using hl) hn.2 (by simpa using h) h2
theorem V1m:∀{ks:List Nat}{bs:List (List AV)}{k:Nat}{b:List AV},bxf ks bs k=some b->∃i:Nat,ks[i]?=some k/\bs[i]?=some b
 |[],_,k,b,h=>by simp[bxf]at h|_::_,[],k,b,h=>by simp[bxf]at h|k0::ks,u::us,k,b,h=>by
  simp[bxf]at h;split at h
  .rename_i e;exact⟨0,by simp[e],by simpa using h⟩
  .obtain⟨i,c,a⟩:=V1m h;exact⟨i+1,by simpa using c,by simpa using a⟩
theorem L1y{fb fr:Nat->Option Nat}:∀{ks:List Nat}{bs:List (List AV)},UU s fb fr ks bs->ks.length=bs.length/\∀(i k:Nat)(b:List AV),ks[i]?=some k->bs[i]?=some b->∃cs,s.bx k=some cs/\b=mpL fb fr cs
 |[],[],_=>⟨rfl,by intro i k b h;simp at h⟩|k0::ks,b0::bs,h=>by simp[UU]at h;obtain⟨e,d⟩:=L1y h.2;refine⟨by simp[e],λi k b a c=>?_⟩;cases i with|zero=>simp at a c;subst a;subst c;exact h.1|succ i=>exact d i k b (by simpa using a) (by simpa using c)
 |[],_::_,h=>h.elim|_::_,[],h=>h.elim
theorem Q1m:∀{ks:List Nat}{a:List Row},W0Q s ks a->ks.length=a.length/\∀(i k:Nat)(r:Row),ks[i]?=some k->a[i]?=some r->s.rw k=some r/\r.sh=false
 |[],[],_=>⟨rfl,by intro i k b h;simp at h⟩|k0::ks,b0::bs,h=>by simp[W0Q]at h;obtain⟨f,e⟩:=Q1m h.2.2;refine⟨by simp[f],λi k b c d=>?_⟩;cases i with|zero=>simp at c d;subst c;subst d;exact⟨h.1,h.2.1⟩|succ i=>exact e i k b (by simpa using c) (by simpa using d)
 |[],_::_,h=>h.elim|_::_,[],h=>h.elim
theorem L0I:∀{rin:List Row}{upd:List (Option (List AV))}{new:List Row}{i:Nat}{r:Row}{u:Option (List AV)},rin[i]?=some r->upd[i]?=some u->(Ua rin upd new)[i]?=some (u.map λes=>{ r with es:=es })
 |[],_,_,i,r,u,h,_=>by simp at h|_::_,[],_,i,r,u,_,h=>by simp at h|r0::rs,u0::us,new,0,r,u,h1,h2=>by grind[Ua]|r0::rs,u0::us,new,i+1,r,u,h1,h2=>by simp[Ua,List.getElem?_cons_succ];exact L0I (by simpa using h1) (by simpa using h2)
theorem J0I:∀{rin:List Row}{upd:List (Option (List AV))}{new:List Row}{j:Nat},upd.length=rin.length->(Ua rin upd new)[rin.length+j]?=(new[j]?).map some
 |[],[],new,j,_=>by simp[Ua]|r::rs,u::us,new,j,h=>by rw[yT,show rs.length+1+j=(rs.length+j)+1 by omega];simp[Ua,List.getElem?_cons_succ];exact J0I (by simpa using h)|[],_::_,_,_,h=>by simp at h|_::_,[],_,_,h=>by simp at h
theorem Inv.reboxes(I:Inv c g s a w)(f:Nat->Option (List AV))(h:∀k b,f k=some b->(∃cs,s.bx k=some cs)/\Q01 w g s (g.bb k) b) : Inv c g { s with bx:=λj=>match f j with|some cs=>some cs|none=>s.bx j } a w:=by
 have d:∀k b,(match f k with|some cs=>some cs|none=>s.bx k)=some b->(∃cs,s.bx k=some cs)/\Q01 w g s (g.bb k) b:=by
  intro k b e;split at e
  .grind
  exact⟨⟨b,e⟩,I.bxs k b e⟩
 have T:Turn (λ_=>True) w w g g s { s with bx:=λj=>match f j with|some cs=>some cs|none=>s.bx j } := ⟨λ_ _ h=>h,λ_ h=>h,TLe.of (λ_ h=>h) rfl,λ_ _ _=>rfl,by grind,by grind,λ_ _ h=>h,Y1E⟩;refine⟨I.defers,I.nt,I.fr,λi=>(I.tm i).turn T,λk cs e=>(d k cs e).2.turn T rfl,λk cs e=>?_,I.rws,I.rwn,λk l u y o n m=>?_,λk l u r o n=>?_,I.drr,I.sw,I.nn,I.nx,I.fix,I.sm,I.sb,I.ow.turn rfl (λ_ h=>h) (yV _) (λ_ _=>rfl) (λk cs e=>by obtain⟨⟨c0,p⟩,_⟩:=d k cs e;exact I.ow.bx k c0 p) I.ow.rw,I.uf,I.sd⟩
 .obtain⟨⟨c0,p⟩,_⟩:=d k cs e;exact I.bxn k c0 p
 .obtain⟨⟨t,q⟩,_⟩:=d k u o;obtain⟨⟨x,v⟩,_⟩:=d l y n;exact I.dbb k l t x q v m
 obtain⟨⟨t,q⟩,_⟩:=d k u o;exact I.dbr k l t r q n
end
end
section
section
variable{P:Program}{c:Cx}{g:Gh}{s:St}{a:Act}{w:World}
theorem Inv.switch(I:Inv c g s a w){w':World}{S':Nat->Nat->Prop}{D:Nat->Prop}{ov':Nat->Option (Nat->Prop)}{n1:Nat}(B F:List Nat)(upd:List (Option (List AV)))(P:Kept D w w')(hD:∀b,D b->Wr c g b/\(∀o,¬ g.S b o))(hS1:∀b o,g.S b o->S' b o)(W:∀b o,S' b o->g.S b o\/w.heap.size<=b\/D b)(hS3:∀b o,S' b o->b<w'.heap.size)(hbx:∀k cs,k∈B->s.bx k=some cs->Q01 w' { g with S:=S',ov:=ov' } s (g.bb k) (List.replicate cs.length .bad))(hbn:∀k cs,k∈B->s.bx k=some cs->∀o,¬ S' (g.bb k) o)(hbo:∀k cs,k∉B->s.bx k=some cs->¬ D (g.bb k))(_:∀k r,k∈drops F upd->s.rw k=some r->False)(hru:∀k r es,upf F upd k=some es->s.rw k=some r->r.sh=false/\QU w' S' ({ g with S:=S',ov:=ov' }:Gh).T { r with es:=es } (g.rv k)/\∀b,(g.rv k).ownBlock=some b->∀o,¬ S' b o)(hro:∀k r,upf F upd k=none->s.rw k=some r->∀b,(g.rv k).ownBlock=some b->¬ D b)(Q:∀b,D b->¬ g.own b)(hn:s.nx<=n1)(y:∀i,i<s.nx->ov' i=g.ov i)(H:∀i E,s.nx<=i->ov' i=some E->i<n1/\(∀b,E b->b<w'.heap.size)/\∀b,E b->(w.heap.size<=b\/D b)/\g.N b)(hoD:∀i j E X,s.nx<=i->s.nx<=j->ov' i=some E->ov' j=some X->i≠j->∀b,E b->¬ X b)(hoB:∀k cs,k∈B->s.bx k=some cs->∀i E,s.nx<=i->ov' i=some E->¬ E (g.bb k))(hoR:∀k r es,upf F upd k=some es->s.rw k=some r->∀i E,s.nx<=i->ov' i=some E->∀b,(g.rv k).ownBlock=some b->¬ E b)(huf:∀b o,S' b o->g.S b o\/UnfB w' b)(hoU:∀i E,s.nx<=i->ov' i=some E->∀b,E b->UnfB w' b) : Inv c { g with S:=S',ov:=ov' } { e:=s.e,bx:=λj=>if j∈B then(s.bx j).map (λcs=>List.replicate cs.length .bad)else s.bx j,rw:=λj=>match upf F upd j with|some es=>(s.rw j).map (λr=>{ r with es:=es })|none=>s.rw j,nx:=n1,my:=s.my,kn:=s.kn } a w':=by
 have oSp:∀b,({ g with S:=S',ov:=ov' }:Gh).own b->g.own b\/∃i E,s.nx<=i/\ov' i=some E/\E b:=λb q=>by
  obtain⟨i,E,d,l⟩:=q;have C:=d;rcases Nat.lt_or_ge i s.nx with m|m
  .exact .inl ⟨i,E,by rw[← y i m];exact C,l⟩
  exact .inr ⟨i,E,m,C,l⟩
 have oNew:∀b i E,s.nx<=i->ov' i=some E->E b->∀o,¬ g.S b o:=λb i E m h f o hs=>by
  rcases((H i E m h).2.2 b f).1 with q|q
  .have:=I.sw b o hs;omega
  exact(hD b q).2 o hs
 have tle:TLe g.S g.T ({ g with S:=S',ov:=ov' }:Gh).T:=by
  refine⟨λt z b o n cc hs h=>?_,λi z v h=>?_⟩
  .obtain⟨o',hs⟩:=hs;have Z:¬ g.own b->¬ ({ g with S:=S',ov:=ov' }:Gh).own b:=by grind
   cases t with|rd=>exact λb' hb'=>by cases hb';exact Z (h _ rfl)|nw=>exact λb' hb'=>by cases hb';exact⟨(h _ rfl).1,Z (h _ rfl).2⟩|own i =>obtain⟨E,d,l⟩:=h;exact⟨E,(y i (I.ow.lt i _ d)).trans d,l⟩
  obtain⟨E,d,l⟩:=h;exact⟨E,(y i (I.ow.lt i _ d)).trans d,l⟩
 have U:∀b o,g.S b o->w'.cell? ⟨b,o,none⟩=w.cell? ⟨b,o,none⟩:=λb o y=>World.cell?_of_block (P.block b (I.sw b o y) (λR=>(hD b R).2 o y));have A:∀k p,(if k∈B then(s.bx k).map (λcs=>List.replicate cs.length .bad)else s.bx k)=some p->∃cs,s.bx k=some cs/\((k∈B/\p=List.replicate cs.length .bad)\/(k∉B/\p=cs)):=by
  intro k p h;split at h
  .rename_i O;obtain⟨cs,d,rfl⟩:=yC h;exact⟨cs,d,.inl ⟨O,rfl⟩⟩
  rename_i O;exact⟨p,h,.inr ⟨O,rfl⟩⟩
 have u:∀k r',(match upf F upd k with|some es=>(s.rw k).map (λr=>{ r with es:=es })|none=>s.rw k)=some r' -> ∃r,s.rw k=some r/\r'.sz=r.sz/\r'.sh=r.sh/\((∃es,upf F upd k=some es/\r'={ r with es:=es })\/(upf F upd k=none/\r'=r)):=by
  intro k r' h;split at h
  .rename_i es e;obtain⟨r,d,rfl⟩:=yC h;exact⟨r,d,rfl,rfl,.inl ⟨es,e,rfl⟩⟩
  rename_i e;exact⟨r',h,rfl,rfl,.inr ⟨e,rfl⟩⟩
 have T:Turn (λ_=>True) w w' g { g with S:=S',ov:=ov' } s { e:=s.e,bx:=λj=>if j∈B then(s.bx j).map (λcs=>List.replicate cs.length .bad)else s.bx j,rw:=λj=>match upf F upd j with|some es=>(s.rw j).map (λr=>{ r with es:=es })|none=>s.rw j,nx:=n1,my:=s.my,kn:=s.kn }:=by
  refine⟨hS1,λ_ h=>h,tle,U,λk _ r' h=>?_,λk _ c' h=>?_,λi E h=>(y i (I.ow.lt i E h)).trans h,O1e λb f=>P.block b (I.ow.size f) λR=>Q b R f⟩
  .obtain⟨r,d,l,_,_⟩:=u k r' h;exact⟨r,d,l,rfl⟩
  obtain⟨cs,d,_⟩:=A k c' h;exact⟨cs,d,rfl⟩
 refine⟨I.defers,I.nt,⟨P.os.trans I.fr.os,P.tape.trans I.fr.tape,P.output.trans I.fr.output,Nat.le_trans I.fr.size P.size,?_⟩,λi=>(I.tm i).turn T,?_,?_,?_,?_,?_,?_,?_,hS3,I.nn,I.nx,I.fix,λb o h=>hS1 b o (I.sm b o h),λb o h=>?_,?_,λb o h q=>(huf b o h).elim (λh=>(I.uf b o h q).block (P.block b (I.sw b o h) λR=>(hD b R).2 o h)) id,λb o h q=>(W b o h).elim (λh=>I.sd b o h q) λh=>h.elim (λh=>by have:=I.ow.size (I.ow.dd b q);omega) λh=>Q b h (I.ow.dd b q)⟩
 .intro b f V;rw[P.block b (Nat.lt_of_lt_of_le f I.fr.size) (λR=>V ((hD b R).1.2 f))];exact I.fr.block b f V
 .intro k p h;obtain⟨cs,d,l⟩:=A k p h;rcases l with⟨O,rfl⟩|⟨O,rfl⟩
  .obtain⟨vs,ty,q1,q2,Y⟩:=hbx k cs O d;refine⟨vs,ty,q1,q2,λi x v V hv=>⟨(Y i x v V hv).1,(Y i x v V hv).2.1,?_⟩⟩;rw[List.getElem?_replicate]at V;split at V
   .cases V;exact .bad v
   cases V
  exact(I.bxs k p d).turn T (P.block _ (U0E (I.bxs k p d)) (hbo k p O d))
 .intro k p h;obtain⟨cs,d,_⟩:=A k p h;refine⟨(I.bxn k cs d).1,λo y=>?_⟩;rcases W _ _ y with h|h|h
  .exact(I.bxn k cs d).2 o h
  .have:=U0E (I.bxs k cs d);exact absurd h (Nat.not_le.2 this)
  by_cases O:k∈B
  .exact hbn k cs O d o y
  exact hbo k cs O d h
 .intro k r' h;obtain⟨r,d,_,_,l⟩:=u k r' h;rcases l with⟨es,e,rfl⟩|⟨e,rfl⟩
  .exact(hru k r es e d).2.1
  exact(I.rws k r' d).mono hS1 tle U (λb f=>P.block b (O06 (I.rws k r' d) f) (hro k r' e d b f))
 .intro k r' h b f;obtain⟨r,d,_,_,l⟩:=u k r' h;refine⟨(I.rwn k r d b f).1,λo y=>?_⟩;have hg:g.S b o:=by
   rcases W _ _ y with h|h|h
   .exact h
   .have:=O06 (I.rws k r d) f;exact absurd h (Nat.not_le.2 this)
   rcases l with⟨es,e,rfl⟩|⟨e,rfl⟩
   .exact absurd y ((hru k r es e d).2.2 b f o)
   exact absurd h (hro k r' e d b f)
  have:=(I.rwn k r d b f).2 o hg;rcases l with⟨es,e,rfl⟩|⟨e,rfl⟩
  .rw[(hru k r es e d).1]at this;cases this.1
  exact this
 .intro k k' c1 c2 d l M;obtain⟨d1,e1,_⟩:=A k c1 d;obtain⟨d2,e2,_⟩:=A k' c2 l;exact I.dbb k k' d1 d2 e1 e2 M
 .intro k k' c1 r d l;obtain⟨d1,e1,_⟩:=A k c1 d;obtain⟨r0,e2,_⟩:=u k' r l;exact I.dbr k k' d1 r0 e1 e2
 .intro k k' r r' d l M;obtain⟨r0,e1,_⟩:=u k r d;obtain⟨r1,e2,_⟩:=u k' r' l;exact I.drr k k' r0 r1 e1 e2 M
 .rcases W _ _ h with h|h|h
  .exact I.sb b o h
  .exact .inr (.inl (Nat.le_trans I.fr.size h))
  rcases Nat.lt_or_ge b c.w0.heap.size with hl|hl
  .exact .inr (.inr ((hD b h).1.2 hl))
  exact .inr (.inl hl)
 have G:∀{b},g.own b->b<w.heap.size:=λq=>I.ow.size q;refine⟨⟨λi E h=>?_,λi E h=>?_,λi j E X d l M b f=>?_,λk p h q=>?_,λk r' h b f q=>?_,λi E h b f=>?_⟩,λi E h m b f=>?_,I.ow.mm,Nat.le_trans I.ow.n0 hn,λi m=>(y i (Nat.lt_of_lt_of_le m I.ow.n0)).trans (I.ow.old i m),λb f=>?_,λi m=>⟨Nat.lt_of_lt_of_le (I.ow.kn i m).1 hn,λE h=>(I.ow.kn i m).2 E (by rw[← y i (I.ow.kn i m).1];exact h)⟩,λb o v f hv=>?_⟩
 .have J:=h;rcases Nat.lt_or_ge i s.nx with m|m
  .exact Nat.lt_of_lt_of_le m hn
  exact(H i E m J).1
 .have J:ov' i=some E:=h;rcases Nat.lt_or_ge i s.nx with m|m
  .rw[y i m]at J;exact λb f=>⟨Nat.lt_of_lt_of_le (I.ow.own i E J b f).1 P.size,(I.ow.own i E J b f).2⟩
  exact λb f=>⟨(H i E m J).2.1 b f,((H i E m J).2.2 b f).2⟩
 .have C:ov' i=some E:=d;have L:ov' j=some X:=l;rcases Nat.lt_or_ge i s.nx with m|m<;>rcases Nat.lt_or_ge j s.nx with hj|hj
  .rw[y i m]at C;rw[y j hj]at L;exact I.ow.dis i j E X C L M b f
  .intro e;rw[y i m]at C;rcases((H j X hj L).2.2 b e).1 with q|q
   .have:=G ⟨i,E,C,f⟩;omega
   exact Q b q ⟨i,E,C,f⟩
  .intro e;rw[y j hj]at L;rcases((H i E m C).2.2 b f).1 with q|q
   .have:=G ⟨j,X,L,e⟩;omega
   exact Q b q ⟨j,X,L,e⟩
  exact hoD i j E X m hj C L M b f
 .obtain⟨cs,d,l⟩:=A k p h;rcases oSp _ q with q|⟨i,E,Y,q4,q5⟩
  .exact I.ow.bx k cs d q
  by_cases O:k∈B
  .exact hoB k cs O d i E Y q4 q5
  rcases((H i E Y q4).2.2 _ q5).1 with q|q
  .have:=U0E (I.bxs k cs d);exact absurd q (Nat.not_le.2 this)
  exact hbo k cs O d q
 .obtain⟨r,d,_,_,l⟩:=u k r' h;rcases oSp _ q with q|⟨i,E,Y,q4,q5⟩
  .exact I.ow.rw k r d b f q
  rcases l with⟨es,e,rfl⟩|⟨e,rfl⟩
  .exact hoR k r es e d i E Y q4 b f q5
  rcases((H i E Y q4).2.2 _ q5).1 with q|q
  .have:=O06 (I.rws k r' d) f;omega
  exact hro k r' e d b f q
 .have J:ov' i=some E:=h;rcases Nat.lt_or_ge i s.nx with K|K
  .rw[y i K]at J;exact(I.ow.uf i E J b f).block (P.block b (G ⟨i,E,J,f⟩) λR=>Q b R ⟨i,E,J,f⟩)
  exact hoU i E K J b f
 .have J:ov' i=some E:=h;rcases Nat.lt_or_ge i s.nx with K|K
  .rw[y i K]at J;exact I.ow.my i E J m b f
  obtain⟨q1,q2⟩:=(H i E K J).2.2 b f;refine⟨q2,λhlt=>?_⟩;rcases q1 with q|q
  .have:=I.fr.size;omega
  exact(hD b q).1.2 hlt
 .obtain⟨i,E,d,l⟩:=I.ow.dd b f;exact⟨i,E,(y i (I.ow.lt i E d)).trans d,l⟩
 have q:=I.ow.dd b f;obtain⟨v',d,l⟩:=I.ow.dk b o v f hv;exact⟨v',by rw[World.cell?_of_block (P.block b (G q) λR=>Q b R q)];exact d,l⟩
theorem Inv.addrowsX:∀(rows:List Row)(k:Nat)(d:Nat->Value)(g:Gh)(s:St),Inv c g s a w -> (∀(i:Nat)(r:Row),rows[i]?=some r->QU w g.S g.T r (d i)/\∀b,(d i).ownBlock=some b->Vac c g s b)->k+rows.length<1000000000 -> (∀(i j:Nat)(r r':Row),rows[i]?=some r->rows[j]?=some r'->i≠j->∀b,(d i).ownBlock=some b->(d j).ownBlock≠some b) -> ∃g',Inv c g' (s.addrows k rows) a w/\g'.S=g.S/\(g'.N=g.N/\g'.bb=g.bb/\g'.ov=g.ov)/\(∀i,i<rows.length->g'.rv (k+i)=d i)/\(∀j,j<k->g'.rv j=g.rv j)/\∀j,k+rows.length<=j->g'.rv j=g.rv j
 |[],k,d,g,s,I,_,_,_=>⟨g,I,rfl,⟨rfl,rfl,rfl⟩,by simp,λ_ _=>rfl,λ_ _=>rfl⟩|r::rs,k,d,g,s,I,h,hkb,hd=>by
  obtain⟨A,o⟩:=h 0 r rfl;have G:=I.addrow k r (d 0) A o (by simp at hkb;omega);obtain⟨g',F,E,D,C,t,B⟩:=Inv.addrowsX rs (k+1) (λi=>d (i+1)) _ _ G (λi r' l=>by
   obtain⟨y,x⟩:=h (i+1) r' l;refine⟨by simpa using y,λb q=>?_⟩;have V:=x b q;refine⟨V.S,λj cs f=>?_,λj n f=>?_,V.N,V.O⟩
   .obtain⟨_,c0,p,_⟩:=M8 f;exact V.bx j c0 p
   .by_cases m:j=k
    .subst m;simp[];exact λe=>hd 0 (i+1) r r' rfl l (by omega) b e q
    .simp[m]at f ⊢;exact V.rw j n (Xc f).2) (by simp at hkb;omega) (λi j v u l f z=>hd (i+1) (j+1) v u l f (by omega))
  refine⟨g',F,E,D,λi l=>?_,λj f=>?_,λj f=>?_⟩
  .cases i with|zero=>rw[Nat.add_zero,t k (by omega)];simp|succ i=>rw[show k+(i+1)=k+1+i by omega];exact C i (by simpa using l)
  .rw[t j (by omega)];simp[show j≠k by omega]
  .simp[]at f;rw[B j (by omega)];simp[show j≠k by omega]
section ops
variable{o:Oper}{d:Nat}{K:St->Prop}{K':Act->World->Prop}{Q':Exit->Act->World->Prop}
theorem M0V:∀{ks:List Nat}{us:List (Option (List AV))}{b n i k:Nat}{a:List AV},J06 ks us b n->ks[i]?=some k->us[i]?=some (some a)->k<b\/b+n<=k
 |[],_,b,n,i,k,a,_,h,_=>by simp at h|_::_,[],b,n,i,k,a,_,_,h=>by simp at h|k0::ks,u::us,b,n,0,k,a,h,h1,h2=>by simp at h1 h2;subst h1;subst h2;exact h.1|k0::ks,some _::us,b,n,i+1,k,a,h,h1,h2=>M0V h.2 (by simpa using h1) (by simpa using h2)|k0::ks,none::us,b,n,i+1,k,a,h,h1,h2=>M0V (show J06 ks us b n from h) (by simpa using h1) (by simpa using h2)
theorem X01:∀{rows:List Row}{k j:Nat}{s:St},(j<k\/k+rows.length<=j)->(s.addrows k rows).rw j=s.rw j
 |[],k,j,s,_=>rfl|r::rs,k,j,s,h=>by
  have a:j≠k:=by rcases h with h|h;omega;simp at h;omega
  rw[St.addrows,X01 (by rcases h with h|h;exact .inl (by omega);simp at h;exact .inr (by omega))];simp[St.kill,a]
theorem Q0E:∀{rows:List Row}{k i:Nat}{s:St}{r:Row},rows[i]?=some r->(s.addrows k rows).rw (k+i)=some r
 |[],k,i,s,r,h=>by simp at h|r0::rs,k,0,s,r,h=>by simp at h;subst h;rw[St.addrows,Nat.add_zero,X01 (.inl (by omega))];simp|r0::rs,k,i+1,s,r,h=>by rw[St.addrows,show k+(i+1)=(k+1)+i by omega];exact Q0E (by simpa using h)
theorem Q0k:∀{rows:List Row}{k j:Nat}{s:St}{cs:List AV},(j<k\/k+rows.length<=j)->s.bx j=some cs->∃c0,(s.addrows k rows).bx j=some c0
 |[],k,j,s,cs,_,h=>⟨cs,h⟩|r::rs,k,j,s,cs,hj,h=>by
  have a:j≠k:=by grind
  rw[St.addrows];exact Q0k (cs:=U7 k cs) (by grind) (by grind[St.kill])
theorem L2v(I:Inv c g s a w)(hK:∀g' s' a' w',Inv c g' s' a' w'->K s'->K' a' w')(hd:o.dst=some d)(hlt:d<c.nt){f:FuncId}{xs:List X}{ps:List Operand}{B A:List Nat}{Q:List (List AV)}{rin:List Row}{Φ:Nat->AV->List (List AV)->List (Option (List AV))->List Row->Prop}(hrun:(execOp a.eval o).run P w=.ok (.enter f (ps.map a.eval).toArray) w)(hx:xs.length=ps.length/\∀(i:Nat)(x:X)(p:Operand),xs[i]?=some x->ps[i]?=some p->chkX x p=true){as:List AV}(hnd:(B++A).Nodup)(hb:UU s (ix B) (ix A) B Q)(hr:W0Q s A rin)(hno:(∀b∈Q,noOL b)/\(∀r∈rin,noOL r.es)/\∀x∈xs,(s.get x).noO)(hge:GEs (xs.map λx=>(s.get x).mp (ix B) (ix A)) as)(hC:ConN P f s.nx as Q rin Φ)(h:∀n1 res L upd new,s.nx<=n1->L.map List.length=Q.map List.length->upd.length=rin.length->Φ n1 res L upd new -> new.length<=1000/\J06 A upd (1000*d+1000) new.length/\U0N (1000*d+1000) new.length B/\K (afterM s n1 d B A res L upd new)):o.wp P a w K' Q':=by
 obtain⟨hb1,hb2⟩:=L1y hb;obtain⟨hr1,hr2⟩:=Q1m hr;have hndb:=(List.nodup_append.1 hnd).1;have hndr:=(List.nodup_append.1 hnd).2.1;have hdis:∀k,k∈B->k∉A:=by grind
 let G:Gh:={ S:=g.bare.S,N:=g.N,bb:=λi=>g.bb (B.getD i 0),rv:=λi=>g.rv (A.getD i 0) };have eB:∀i k,B[i]?=some k->G.bb i=g.bb k:=λi k h=>by simp[G,List.getD_eq_getElem?_getD,h]
 have eR:∀i k,A[i]?=some k->G.rv i=g.rv k:=λi k h=>by simp[G,List.getD_eq_getElem?_getD,h]
 have bkey:∀i cs,(hSt s.nx Q (rin.map some)).bx i=some cs->∃k c0,B[i]?=some k/\s.bx k=some c0/\cs=mpL (ix B) (ix A) c0:=by
  intro i cs h;have O:=h;have F:i<B.length:=by rw[hb1];exact(yB O).1
  obtain⟨c0,V,U⟩:=hb2 i B[i] cs (yA F) O;exact⟨B[i],c0,yA F,V,U⟩
 have rkey:∀i r,(hSt s.nx Q (rin.map some)).rw i=some r->∃k,A[i]?=some k/\s.rw k=some r/\r.sh=false/\rin[i]?=some r:=by
  intro i r h;have O:rin[i]?=some r:=by simp only[hSt,yF]at h;cases hh:rin[i]? with|none=>simp[hh]at h|some r0=>simpa[hh]using h
  have F:i<A.length:=by rw[hr1];exact(yB O).1
  obtain⟨V,U⟩:=hr2 i A[i] r (yA F) O;exact⟨A[i],yA F,V,U,O⟩
 have toR:∀i k,ix A i=some k->∀r',(hSt s.nx Q (rin.map some)).rw k=some r'->∃r,s.rw i=some r/\r'.sz=r.sz/\G.rv k=g.rv i:=by intro i k R r' Y;obtain⟨k',C,J,_⟩:=rkey k r' Y;have:=L2i R;rw[this]at C;cases C;exact⟨r',J,rfl,eR k i this⟩
 have toB:∀i k,ix B i=some k->∀c',(hSt s.nx Q (rin.map some)).bx k=some c'->∃c,s.bx i=some c/\G.bb k=g.bb i:=by intro i k R c' hc';obtain⟨k',c0,C,J,_⟩:=bkey k c' hc';have:=L2i R;rw[this]at C;cases C;exact⟨c0,J,eB k i this⟩
 have H:Heap w G (hSt s.nx Q (rin.map some)):=by
  refine⟨λi cs h=>?_,λi cs h=>?_,λi r h=>?_,λi r h=>?_,λi i' cs cs' h O hne=>?_,λi i' cs r h O=>?_,λi i' r r' h O hne b m=>?_,λb o h=>I.sw b o h.1,⟨by simp,by simp,by simp,λk cs h q=>(by obtain⟨_,_,e,_⟩:=q;cases e),λk r h b hb q=>(by obtain⟨_,_,e,_⟩:=q;cases e),by simp⟩⟩
  .obtain⟨k,c0,C,J,rfl⟩:=bkey i cs h;rw[eB i k C];rw[← V1e];exact((I.bxs k c0 J).kod.bare (J0u (hno.1 _ (yE h)))).mp (g:=g.bare) (s:=s) (g':=G) (s':=hSt s.nx Q (rin.map some)) (λ_ _ h=>h) (TLe.of (λ_ h=>h) rfl) (by simp) toR toB rfl
  .obtain⟨k,c0,C,J,rfl⟩:=bkey i cs h;rw[eB i k C];exact⟨(I.bxn k c0 J).1.1,λo h=>(I.bxn k c0 J).2 o h.1⟩
  .obtain⟨k,C,J,_,h4⟩:=rkey i r h;rw[eR i k C];exact(I.rws k r J).bare (hno.2.1 r (yE h4))
  .obtain⟨k,C,J,h3,_⟩:=rkey i r h;rw[eR i k C];refine⟨h3,λb m=>⟨(I.rwn k r J b m).1.1,λo Z=>?_⟩⟩;have:=((I.rwn k r J b m).2 o Z.1).1;rw[h3]at this;cases this
  .obtain⟨k,c0,C,J,_⟩:=bkey i cs h;obtain⟨k',c1,h1',h2',_⟩:=bkey i' cs' O;rw[eB i k C,eB i' k' h1'];refine I.dbb k k' c0 c1 J h2' (λe=>hne ?_);subst e;exact(List.getElem?_inj (yB C).1 hndb).1 (by rw[C,h1'])
  .obtain⟨k,c0,C,J,_⟩:=bkey i cs h;obtain⟨k',h1',h2',_⟩:=rkey i' r O;rw[eB i k C,eR i' k' h1'];exact I.dbr k k' c0 r J h2'
  obtain⟨k,C,J,_⟩:=rkey i r h;obtain⟨k',h1',h2',_⟩:=rkey i' r' O;rw[eR i k C]at m;rw[eR i' k' h1'];refine I.drr k k' r r' J h2' (λe=>hne ?_) b m;subst e;exact(List.getElem?_inj (yB C).1 hndr).1 (by rw[C,h1'])
 have hasl:as.length=ps.length:=by rw[← hge.1,List.length_map];exact hx.1
 have hargs:∀(i:Nat) (y:AV) (v:Value),as[i]?=some y->(ps.map a.eval)[i]?=some v->Gv w G (hSt s.nx Q (rin.map some)) y v:=by intro i y v hy hv;rw[yF]at hv;obtain⟨p0,hp0,rfl⟩:=yC hv;obtain⟨x0,h0⟩:∃x0,xs[i]?=some x0:=⟨_,yA (by rw[hx.1];exact(yB hp0).1)⟩;refine hge.2 i _ y (by rw[yF,h0];rfl) hy w G _ _ (λ_=>rfl) ?_;exact((I.get (hx.2 i x0 p0 h0 hp0)).bare (hno.2.2 x0 (yE h0))).mp (g:=g.bare) (s:=s) (g':=G) (s':=hSt s.nx Q (rin.map some)) (λ_ _ h=>h) (TLe.of (λ_ h=>h) rfl) (by simp) toR toB
 have hc:=hC w G (ps.map a.eval) H (λb m=>I.nn b (Nat.le_trans I.fr.size m)) (by simp[hasl]) hargs;unfold Oper.wp;rw[hrun,Oper.upon_enter];refine hc.mono λe w' hq=>?_;obtain⟨v,rfl,hKp,n1,res,L,upd,new,hn01,hΦ,hbl,hul,g',hS2,hN,hbb,hrv,H',hnb,hov0,hovn,hgv⟩:=hq;simp only[hd];obtain⟨hn1,hn2,hn3,hk⟩:=h n1 res L upd new hn01 hbl hul hΦ;have hbl':L.length=Q.length:=by simpa using congrArg List.length hbl
 have hulr:A.length=upd.length:=by rw[hr1,hul]
 have ownOf:∀b,OwnB G Q.length rin.length b->(∃k c0,k∈B/\s.bx k=some c0/\g.bb k=b)\/(∃k r,k∈A/\s.rw k=some r/\r.sh=false/\(g.rv k).ownBlock=some b):=by
  intro b m;rcases m with⟨i,F,e⟩|⟨i,F,e⟩
  .obtain⟨k,c0,C,J,_⟩:=bkey i Q[i] (yA F);rw[eB i k C]at e;exact .inl ⟨k,c0,yE C,J,e⟩
  obtain⟨k,C,J,h3,_⟩:=rkey i rin[i] (by simp[hSt,yA F]);rw[eR i k C]at e;exact .inr ⟨k,rin[i],yE C,J,h3,e⟩
 have hD:∀b,OwnB G Q.length rin.length b->Wr c g b/\∀o,¬ g.S b o:=by
  intro b m;rcases ownOf b m with⟨k,c0,_,J,rfl⟩|⟨k,r,_,J,h3,e⟩
  .exact I.bxn k c0 J
  refine⟨(I.rwn k r J b e).1,λo Z=>?_⟩;have:=((I.rwn k r J b e).2 o Z).1;rw[h3]at this;cases this
 have I1:=I.kill2 (drops A upd);have hDo:∀b,OwnB G Q.length rin.length b->¬ g.own b:=by
  intro b m;rcases ownOf b m with⟨k,c0,_,J,rfl⟩|⟨k,r,_,J,h3,e⟩
  .exact I.ow.bx k c0 J
  exact I.ow.rw k r J b e
 let ov':Nat->Option (Nat->Prop):=λi=>if i<s.nx then g.ov i else g'.ov i
 have ovl:∀i,i<s.nx->ov' i=g.ov i:=λi F=>yd F;have ovg:∀i E,s.nx<=i->ov' i=some E->g'.ov i=some E:=λi E F h=>by have:ov' i=g'.ov i:=ye (by omega);rw[← this];exact h
 have gown:∀b,¬ g'.own b->(∃o',g'.S b o')->¬ ({ g with S:=λb o=>g.S b o\/g'.S b o,ov:=ov' }:Gh).own b:=by
  intro b C ⟨o',J⟩ ⟨i,E,h3,h4⟩;have h3':ov' i=some E:=h3;rcases Nat.lt_or_ge i s.nx with F|F
  .rw[ovl i F]at h3';have Z:g.own b:=⟨i,E,h3',h4⟩;rcases(hS2 b o' J).1 with q|q|q
   .exact q.2 Z
   .have:=I.ow.size Z;omega
   exact hDo b q Z
  exact C ⟨i,E,ovg i E F h3',h4⟩
 have tleC:TLe g'.S g'.T ({ g with S:=λb o=>g.S b o\/g'.S b o,ov:=ov' }:Gh).T:=by
  have own:∀i z v,g'.T (.own i) z v->({ g with S:=λb o=>g.S b o\/g'.S b o,ov:=ov' }:Gh).T (.own i) z v:=λi z v h=>by
   obtain⟨E,O,J⟩:=h;refine⟨E,?_,J⟩;rcases Nat.lt_or_ge i s.nx with F|F
   .rw[hov0 i F]at O;cases O
   show(if i<s.nx then g.ov i else g'.ov i)=_;rw[ye (by omega)];exact O
  refine⟨λt z b o n cc hs h=>?_,by omega⟩;cases t with|rd=>exact λb' m=>by cases m;exact gown b (h _ rfl) hs|nw=>exact λb' m=>by cases m;exact⟨hN _ (h _ rfl).1,gown b (h _ rfl).2 hs⟩|own i=>exact own i z _ h
 have kept:∀k r es,upf A upd k=some es->s.rw k=some r->∃i,A[i]?=some k/\upd[i]?=some (some es)/\rin[i]?=some r/\r.sh=false/\(hSt n1 L (Ua rin upd new)).rw i=some { r with es:=es }/\g'.rv i=g.rv k:=by
  intro k r es he M;obtain⟨i,C,J⟩:=O2l he;have F:i<rin.length:=by rw[← hr1];exact(yB C).1
  obtain⟨V,U⟩:=hr2 i k rin[i] C (yA F);rw[M]at V;cases V;refine⟨i,C,J,by simp,U,?_,by rw[hrv i es J,eR i k C]⟩;simp only[hSt,L0I (yA F) J];rfl
 have W:∀k,k∈B->∃i,B[i]?=some k/\∃cs,L[i]?=some cs/\(hSt n1 L (Ua rin upd new)).bx i=some cs/\g'.bb i=g.bb k/\∃c0,s.bx k=some c0/\cs.length=c0.length:=by
  intro k M;obtain⟨i,F,e⟩:=List.getElem_of_mem M;have C:B[i]?=some k:=by rw[yA F,e]
  have hib:i<L.length:=by omega
  have hii:i<Q.length:=by omega
  obtain⟨c0,V,U⟩:=hb2 i k Q[i] C (by simp);refine⟨i,C,L[i],by simp,yA hib,by rw[hbb i hii,eB i k C],c0,V,?_⟩;have:=congrArg (λl:List Nat=>l[i]?) hbl;simp only[yF,yA hib,yA hii,Option.map_some,yI]at this;rw[this,U,VN];simp
 have knx:∀(ks:List Nat) (s:St),(s.kill2 ks).nx=s.nx:=by intro ks;induction ks with|nil=>intro s;rfl|cons k ks ih=>intro s;exact ih (s.kill k)
 have kkn:∀(ks:List Nat) (s:St),(s.kill2 ks).kn=s.kn:=by intro ks;induction ks with|nil=>intro s;rfl|cons k ks ih=>intro s;exact ih (s.kill k)
 have kmy:∀(ks:List Nat) (s:St),(s.kill2 ks).my=s.my:=by intro ks;induction ks with|nil=>intro s;rfl|cons k ks ih=>intro s;exact ih (s.kill k)
 have I2:=I1.switch (w':=w') (S':=λb o=>g.S b o\/g'.S b o) (D:=OwnB G Q.length rin.length) (ov':=ov') (n1:=n1) B A upd hKp hD (λ_ _ h=>.inl h)
   (λb o h=>h.elim .inl (λh=>(hS2 b o h).1.elim (λq=>.inl q.1) .inr)) (λb o h=>h.elim (λh=>Nat.lt_of_lt_of_le (I.sw b o h) hKp.size) (λh=>H'.sw b o h))
   (λk cs M hcs=>by
     obtain⟨_,c0,h0,hl⟩:=M0i hcs
     obtain⟨i,C,cs',J,h3,h4,c0',h0',hl'⟩:=W k M
     rw[h0]at h0';cases h0'
     obtain⟨vs,ty,V,U,q3⟩:=H'.bxs i cs' h3
     rw[h4]at V
     refine⟨vs,ty,V,by simp;omega,λj x u hx hu=>?_⟩
     rw[List.getElem?_replicate]at hx
     split at hx
     · cases hx
       have hj:j<cs'.length:=by rw[← U];exact(yB hu).1
       exact⟨.inr rfl,(q3 j _ u (yA hj) hu).2.1,.bad u⟩
     · cases hx)
   (λk cs M hcs o Z=>by
     obtain⟨_,c0,h0,hl⟩:=M0i hcs
     obtain⟨i,C,cs',J,h3,h4,_⟩:=W k M
     rcases Z with Z|Z
     · exact(I.bxn k c0 h0).2 o Z
     · exact(H'.bxn i cs' h3).2 o (by rw[h4];exact Z))
   (λk cs M hcs hown=>by
     obtain⟨_,c0,h0,_⟩:=M0i hcs
     rcases ownOf _ hown with⟨k',c1,V,U,q3⟩|⟨k',r,V,U,_,q3⟩
     · exact I.dbb k' k c1 c0 U h0 (λe=>M (e ▸ V)) q3
     · exact I.dbr k k' c0 r h0 U q3)
   (λk r M Y=>absurd M (O0i Y).1)
   (λk r es he Y=>by
     obtain⟨_,hr0⟩:=O0i Y
     obtain⟨i,C,J,h3,h4,h5,h6⟩:=kept k r es he hr0
     have:=H'.rws i _ h5
     rw[h6]at this
     refine⟨h4,this.mono (λ_ _ h=>.inr h) tleC (by simp) (λ_ _=>rfl),λb m o Z=>?_⟩
     rcases Z with Z|Z
     · have:=((I.rwn k r hr0 b m).2 o Z).1
       rw[h4]at this;cases this
     · exact((H'.rwn i _ h5).2 b (by rw[h6];exact m)).2 o Z)
   (λk r he Y b m hown=>by
     obtain⟨hnd',hr0⟩:=O0i Y
     rcases ownOf _ hown with⟨k',c1,V,U,q3⟩|⟨k',r',V,U,_,q3⟩
     · exact I.dbr k' k c1 r U hr0 (by rw[m,q3])
     · by_cases e:k=k'
       · subst e
         obtain⟨i,F,e⟩:=List.getElem_of_mem V
         exact hnd' (Z1m (by rw[yA F,e]) (Q1z hulr hndr (by rw[yA F,e]) he))
       · exact I.drr k k' r r' hr0 U e b m q3)
   hDo (by rw[knx];exact hn01) (λi F=>ovl i (by rw[knx]at F;exact F))
   (λi E F h=>by
     rw[knx]at F
     have O:=ovg i E F h
     exact⟨H'.ow.lt i E O,λb m=>(H'.ow.own i E O b m).1,λb m=>⟨hovn i E F O b m,hN b (H'.ow.own i E O b m).2⟩⟩)
   (λi j E E' F hj C J hne=>by
     rw[knx]at F hj
     exact H'.ow.dis i j E E' (ovg i E F C) (ovg j E' hj J) hne)
   (λk cs M hcs i E F h e=>by
     rw[knx]at F
     obtain⟨_,c0,h0,hl⟩:=M0i hcs
     obtain⟨i',C,cs',J,h3,h4,_⟩:=W k M
     exact H'.ow.bx i' cs' h3 ⟨i,E,ovg i E F h,by rw[h4];exact e⟩)
   (λk r es he Y i E F h b m e=>by
     rw[knx]at F
     obtain⟨_,hr0⟩:=O0i Y
     obtain⟨i',C,J,h3,h4,h5,h6⟩:=kept k r es he hr0
     exact H'.ow.rw i' _ h5 b (by rw[h6];exact m) ⟨i,E,ovg i E F h,e⟩)
   (λb o h=>h.elim .inl λh=>(hS2 b o h).1.elim (λq=>.inl q.1) λq=>.inr ((hS2 b o h).2 q))
   (λi E F h b m=>by
     rw[knx]at F
     exact H'.ow.uf i E (ovg i E F h) b m)
 have rw2:∀k r',({ setRows s B A upd with nx:=n1 }:St).rw k=some r'->(∃i es r,A[i]?=some k/\upd[i]?=some (some es)/\(hSt n1 L (Ua rin upd new)).rw i=some r'/\g'.rv i=g.rv k/\s.rw k=some r)\/(k∉A/\s.rw k=some r'):=by
  intro k r' O;simp only[setRows]at O;split at O
  .rename_i es he;obtain⟨r,C,rfl⟩:=yC O;obtain⟨_,J⟩:=O0i C;obtain⟨i,V,U,q3,q4,q5,q6⟩:=kept k r es he J;exact .inl ⟨i,es,r,V,U,q5,q6,J⟩
  rename_i he;obtain⟨C,J⟩:=O0i O;refine .inr ⟨λhm=>?_,J⟩;obtain⟨i,F,e⟩:=List.getElem_of_mem hm;exact C (Z1m (by rw[yA F,e]) (Q1z hulr hndr (by rw[yA F,e]) he))
 have newrow:∀j r,new[j]?=some r->(hSt n1 L (Ua rin upd new)).rw (rin.length+j)=some r:=by intro j r hj;simp only[hSt,J0I hul,hj];rfl
 obtain⟨g3,I3,e1,e2,e3,e4,e5⟩:=Inv.addrowsX new (1000*d+1000) (λj=>g'.rv (rin.length+j)) { g with S:=λb o=>g.S b o\/g'.S b o,ov:=ov' } { setRows s B A upd with nx:=n1 } (by rw[kmy,kkn]at I2;exact I2) (λj r hj=>by
  have hj':=newrow j r hj;refine⟨(H'.rws _ _ hj').mono (λ_ _ h=>.inr h) tleC (by simp) (λ_ _=>rfl),λb m=>?_⟩;have hsn:=(H'.rwn _ _ hj').2 b m;have hbnd:=O06 (H'.rws _ _ hj') m;refine⟨λo Z=>?_,λk cs M=>?_,λk r' M=>?_,?_,λ⟨i,E,q3,q4⟩=>?_⟩
  .rcases Z with Z|Z
   .rcases hnb j r hj b m with O|O
    .have:=I.sw b o Z;omega
    exact(hD b O).2 o Z
   exact hsn.2 o Z
  .have:∃c0,s.bx k=some c0/\(k∈B\/k∉B):=by
    simp only[setRows]at M;split at M
    .rename_i hm;obtain⟨c1,C,_⟩:=yC M;obtain⟨_,c0,h0,_⟩:=M0i C;exact⟨c0,h0,.inl hm⟩
    rename_i hm;obtain⟨_,c0,h0,_⟩:=M0i M;exact⟨c0,h0,.inr hm⟩
   obtain⟨c0,h0,hm⟩:=this;rcases hm with hm|hm
   .obtain⟨i,V,cs',U,q3,q4,_⟩:=W k hm;show g.bb k≠b;rw[← q4];exact λe=>H'.dbr i (rin.length+j) cs' r q3 hj' (by rw[m,e])
   rcases hnb j r hj b m with O|O
   .show g.bb k≠b;have:=U0E (I.bxs k c0 h0);omega
   show g.bb k≠b;intro e;rcases ownOf _ O with⟨k',c1,V,U,q3⟩|⟨k',r',V,U,_,q3⟩
   .exact I.dbb k' k c1 c0 U h0 (λe'=>hm (e' ▸ V)) (by rw[q3,e])
   exact I.dbr k k' c0 r' h0 U (by rw[q3,e])
  .show(g.rv k).ownBlock≠some b;rcases rw2 k r' M with⟨i,es,r0,V,U,q3,q4,q5⟩|⟨V,U⟩
   .rw[← q4];exact λe=>H'.drr i (rin.length+j) r' r q3 hj' (by have:=(yB V).1;omega) b e m
   rcases hnb j r hj b m with O|O
   .intro e;have:=O06 (I.rws k r' U) e;omega
   intro e;rcases ownOf _ O with⟨k',c1,p1,p2,p3⟩|⟨k',r1,p1,p2,_,p3⟩
   .exact I.dbr k' k c1 r' p2 U (by rw[e,p3])
   exact I.drr k k' r' r1 U p2 (λe'=>V (e' ▸ p1)) b e p3
  .refine⟨hN b hsn.1,λhlt'=>?_⟩;rcases hnb j r hj b m with O|O
   .have:=I.fr.size;omega
   exact(hD b O).1.2 hlt'
  have q3':ov' i=some E:=q3;rcases Nat.lt_or_ge i s.nx with F|F
  .rw[ovl i F]at q3';have Z:g.own b:=⟨i,E,q3',q4⟩;rcases hnb j r hj b m with O|O
   .have:=I.ow.size Z;omega
   exact hDo b O Z
  exact H'.ow.rw _ _ hj' b m ⟨i,E,ovg i E F q3',q4⟩) (by have:=c.ntb;omega) (λi j r r' F hj hne b m=>H'.drr _ _ r r' (newrow i r F) (newrow j r' hj) (by omega) b m)
 have nR:∀i k,frB A upd (1000*d+1000) new.length i=some k->∀r',(({ setRows s B A upd with nx:=n1 }:St).addrows (1000*d+1000) new).rw k=some r'->∃r,(hSt n1 L (Ua rin upd new)).rw i=some r/\r'.sz=r.sz/\g3.rv k=g'.rv i:=by
  intro i k R r' Y;simp only[frB]at R;split at R
  .rename_i F;split at R
   .rename_i es hu;have hcl:=M0V hn2 R hu;rw[X01 hcl]at Y;have hkr:=yE R;rcases rw2 k r' Y with⟨i',es',r0,V,U,q3,q4,q5⟩|⟨V,U⟩
    .have:i'=i:=(List.getElem?_inj (yB V).1 hndr).1 (by rw[V,R]);subst this;refine⟨r',q3,rfl,?_⟩;rw[q4];rcases hcl with hcl|hcl
     .exact e4 k hcl
     exact e5 k hcl
    exact absurd hkr V
   cases R
  rename_i F;split at R
  .rename_i hin;cases R;have hj:new[i-A.length]?=some new[i-A.length]:=by simp
   rw[Q0E hj]at Y;cases Y;have:=newrow _ _ hj;rw[show rin.length+(i-A.length)=i by omega]at this;refine⟨_,this,rfl,?_⟩;rw[e3 _ hin,show rin.length+(i-A.length)=i by omega]
  cases R
 have nB:∀i k,fbB B i=some k->∀c',(({ setRows s B A upd with nx:=n1 }:St).addrows (1000*d+1000) new).bx k=some c'->∃c,(hSt n1 L (Ua rin upd new)).bx i=some c/\g3.bb k=g'.bb i:=by intro i k R c' hc';obtain⟨i',C,cs,J,h3,h4,_⟩:=W k (yE R);have:i'=i:=(List.getElem?_inj (yB C).1 hndb).1 (by rw[C];exact R.symm);grind
 have nS:∀b o,g'.S b o->g3.S b o:=by grind
 have nN:TLe g'.S g'.T g3.T:=by rw[Gh.T_eq (g:=({ g with S:=λb o=>g.S b o\/g'.S b o,ov:=ov' }:Gh)) e2.1 e2.2.2];exact tleC
 have I4:=I3.reboxes (bxf B (L.map (mpL (fbB B) (frB A upd (1000*d+1000) new.length)))) (λk cs' M=>by
  obtain⟨i,C,J⟩:=V1m M;rw[yF]at J;obtain⟨cs,h3,rfl⟩:=yC J;have hm:=yE C;obtain⟨i',V,cs2,U,q3,q4,c0,q5,_⟩:=W k hm;have hii:i'=i:=(by grind[List.getElem?_inj,List.getElem?_eq_some_iff]);subst hii;rw[U]at h3;cases h3;refine⟨?_,?_⟩
  .obtain⟨c1,hc1,_⟩:=V0J (ks:=drops A upd) (by grind[J0P]) q5;exact Q0k (hn3 k hm) (cs:=List.replicate c1.length .bad) (by grind[setRows])
  have hh:=H'.bxs i' cs q3;rw[e2.2.1];show Q01 w' g3 _ (g.bb k) _;rw[← q4];exact hh.mp nS nN (by simp) nR nB rfl)
 refine hK _ _ _ _ (I4.put hlt (x:=res.mp (fbB B) (frB A upd (1000*d+1000) new.length)) (v:=v) ?_) hk;have T:Turn (λ_=>True) w' w' g3 g3 (({ setRows s B A upd with nx:=n1 }:St).addrows (1000*d+1000) new) (Xf (({ setRows s B A upd with nx:=n1 }:St).addrows (1000*d+1000) new) B (L.map (mpL (fbB B) (frB A upd (1000*d+1000) new.length)))) := ⟨λ_ _ h=>h,λ_ h=>h,TLe.of (λ_ h=>h) rfl,λ_ _ _=>rfl,λj _ r h=>⟨r,h,rfl,rfl⟩,λj _ c' h=>by
  simp only[Xf]at h;split at h
  .rename_i cs e;obtain⟨i,C,_⟩:=V1m e;have hm:=yE C;obtain⟨_,_,_,_,_,_,c0,q5,_⟩:=W j hm;obtain⟨c1,hc1,_⟩:=V0J (ks:=drops A upd) (by grind[J0P]) q5;obtain⟨c2,hc2⟩:=Q0k (hn3 j hm) (s:={ setRows s B A upd with nx:=n1 }) (cs:=List.replicate c1.length .bad) (by grind[setRows]);grind
  grind,λ_ _ h=>h,Y1E⟩
 exact(hgv.mp nS nN (by simp) nR nB).turn T
theorem O2z(I:Inv c g s a w)(r:∀g' s' e w',Inv c g' s' e w'->K s'->K' e w')(q:o.dst=some d)(b:d<c.nt){f:FuncId}{xs:List X}{ps:List Operand}{j:Array TypeId}(m:o.op=.call { callee:=.value (.func f),args:=ps.toArray,argTypes:=j })(n:isFn P f=true)(l:xs.length=ps.length/\∀(i:Nat)(x:X)(p:Operand),xs[i]?=some x->ps[i]?=some p->chkX x p=true)(h:wop P (.cm d f xs) K s):o.wp P a w K' Q':=by simp only[wop]at h;obtain⟨C,k,D,rin,E,B,A,z,u,t,Φ,y,v⟩:=h;exact L2v I r q b (J0A m n) l B A z u t y v
theorem M2v(I:Inv c g s a w)(hK:∀g' s' U w',Inv c g' s' U w'->K s'->K' U w')(hd:o.dst=some d)(L:d<c.nt){f:FuncId}{R:List AV}{Ψ:List AV->Prop}{G:List Value}(C:(execOp a.eval o).run P w=.ok (.enter f G.toArray) w)(B:G.length=R.length/\∀(i:Nat)(y:AV)(v:Value),R[i]?=some y->G[i]?=some v->Rd w g.bare.S rdT y v)(hs:SndB P f R Ψ)(h:∀cs,Ψ cs->K (St.set { s.kill d with bx:=λj=>if j=d then some (U7 d cs)else(s.kill d).bx j } d (.ptr d 0))):o.wp P a w K' Q':=by
 have hc:=hs w g.bare.S rdT G (λb o h=>I.sw b o h.1) B.1 B.2;unfold Oper.wp;rw[C,Oper.upon_enter];refine hc.mono λe w' hq=>?_;obtain⟨b,rfl,F,M,cs,H,S2,us,W,A,J,E,D,p⟩:=hq;simp[hd];have I1:=I.grow (w':=w') (S':=λb o=>g.S b o\/S2 b o) F.os F.tape F.output F.size (λk hk=>F.block k hk) (λ_ _ h=>.inl h) (λb o h=>by
  rcases h with h|h
  .exact .inl h
  exact(A b o h).imp (λh=>h.1) λh=>⟨h.1,h.2.1⟩) (λb o h=>h.elim .inl λh=>(A b o h).imp (λh=>h.1) λh=>h.2.2)
 have V:=I.vac M;have X:TLe S2 rdT g.T:=by
  refine⟨λt z b o n cc m h=>?_,λi z v h=>(by cases h)⟩;have e:=h;subst e;obtain⟨o',m⟩:=m;intro b' Q q;cases Q;rcases A _ o' m with r|r
  .exact r.2 q
  have:=I.ow.size q;have:=r.1;simp only at *;omega
 have I2:=I1.addbox d b cs ⟨us,W,E,D,λi x u hx hu=>by
  obtain⟨q1,Z,Y⟩:=p i x u hx hu;exact⟨.inl q1,Z,.data _ _ (Y.mono (λ_ _ h=>.inr h) X (by simp))⟩⟩ ⟨λo' l=>by
   rcases l with l|l
   .exact V.S o' l
   exact J o' l,V.bx,V.rw,V.N,V.O⟩ (by have:=c.ntb;omega)
 refine hK _ _ _ _ (I2.put L (x:=.ptr d 0) (v:=.pointer (some ⟨b,0,none⟩)) (.ptr d 0 _ rfl λcs' _=>by simp)) (h cs H)
theorem W2z(I:Inv c g s a w)(M:∀g' s' z w',Inv c g' s' z w'->K s'->K' z w')(L:o.dst=some d)(m:d<c.nt){f:FuncId}{xs:List X}{ps:List Operand}{A:Array TypeId}(E:o.op=.call { callee:=.value (.func f),args:=ps.toArray,argTypes:=A })(J:isFn P f=true)(B:xs.length=ps.length/\∀(i:Nat)(x:X)(p:Operand),xs[i]?=some x->ps[i]?=some p->chkX x p=true)(h:wop P (.cn d f xs) K s):o.wp P a w K' Q':=by
 simp only[wop]at h;obtain⟨R,b,F,G,Ψ,C,h⟩:=h;refine M2v I M L m (J0A E J) ?_ C h;unfold St.args at b;split at b
 .rename_i l u;cases b;have e:=W1I u;rw[U5];refine⟨by simp at e ⊢;omega,λi y v q r=>?_⟩;rw[yF]at q r;obtain⟨n,N,rfl⟩:=yC q;obtain⟨Q,D,rfl⟩:=yC r;have H:i<xs.length:=by rw[B.1];grind
  have k:(xs.map s.get)[i]?=some (s.get xs[i]):=by simp[H]
  have t:nosr (s.get xs[i])=true:=by grind
  have j:=O1I u i _ n k N;have O:n=s.get xs[i]:=by rw[Q1C t]at j;grind
  exact((I.plain t j (I.get (by grind))).bare (by rw[O];grind)).rdt λ_ _=>rfl
 cases b
end ops
end
end
section
def J18:List X->List Operand->Bool
 |[],[]=>true|x::xs,p::ps=>chkX x p&&J18 xs ps|_,_=>false
theorem Q0b:∀{xs:List X}{ps:List Operand},J18 xs ps=true->xs.length=ps.length/\∀(i:Nat)(x:X)(p:Operand),xs[i]?=some x->ps[i]?=some p->chkX x p=true
 |[],[],_=>⟨rfl,by intro i x p h;simp at h⟩|x::xs,p::ps,h=>by simp[J18]at h;obtain⟨d,c⟩:=Q0b h.2;refine⟨by simp[d],λi y q a b=>?_⟩;cases i with|zero=>simp at a b;subst a;subst b;exact h.1|succ i=>simp at a b;exact c i y q a b
 |[],_::_,h=>by simp[J18]at h|_::_,[],h=>by simp[J18]at h
def opEq:BinOp->BinOp->Bool
 |.add,.add | .sub,.sub | .mul,.mul | .quo,.quo | .rem,.rem | .eql,.eql | .neq,.neq | .lss,.lss | .leq,.leq | .gtr,.gtr | .geq,.geq | .and,.and | .xor,.xor | .shr,.shr=>true|_,_=>false
theorem L1S{a b:BinOp}(h:opEq a b=true):a=b:=by cases a<;>cases b<;>first|rfl|simp[opEq]at h
def O01(P:Program)(t:TypeId):Option TypeId:=match P.underlying t with|some (.slice e)=>some e|_=>none
def Y0d(P:Program)(t:TypeId):Bool:=match P.underlying t with|some .string=>true|_=>false
def U1E(P:Program)(t:TypeId):Bool:=match P.underlying t with|some .bool=>true|_=>false
def Z23(P:Program)(t:TypeId):Option IntKind:=match P.underlying t with|some (.int k)=>some k|_=>none
def Q0K(P:Program)(t:TypeId)(f:Nat):Option Field:=match P.underlying t with|some (.struct fs)=>fs[f]? | _=>none
def W1J(P:Program)(t:TypeId)(z:List AV):Bool:=match(P.info? t).bind (·.zero)with|some zv=>vmL z zv.cells.toList&&allOne z|none=>false
theorem Yy{P:Program}{t e:TypeId}(h:O01 P t=some e):P.underlying t=some (.slice e):=by grind[O01]
theorem Y0g{P:Program}{t:TypeId}(h:Y0d P t=true):P.underlying t=some .string:=by grind[Y0d]
theorem O1T{P:Program}{t:TypeId}(h:U1E P t=true):P.underlying t=some .bool:=by grind[U1E]
theorem M1G{P:Program}{t:TypeId}{k:IntKind}(h:Z23 P t=some k):P.underlying t=some (.int k):=by grind[Z23]
theorem X1y{P:Program}{t:TypeId}{f:Nat}{b:Field}(h:Q0K P t f=some b):∃a,P.underlying t=some (.struct a)/\a[f]?=some b:=by grind[Q0K]
theorem O1a{P:Program}{t:TypeId}{z:List AV}(h:W1J P t z=true):∃a,((P.info? t).bind (·.zero))=some a/\vmL z a.cells.toList=true/\allOne z=true:=by unfold W1J at h;grind
def M24(fs:Array Field)(P:Program):List (Nat×Nat×X)->List (Nat×Operand)->Bool
 |[],[]=>true| (off,n,x)::ps,(j,p)::qs=>(match fs[j]? with|some fd=>fd.offset==off&&tsz P fd.type==some n|none=>false)&&chkX x p&&M24 fs P ps qs
 |_,_=>false
theorem Q20{g:Array Field}{P:Program}:∀{ps:List (Nat×Nat×X)}{qs:List (Nat×Operand)},M24 g P ps qs=true->ps.length=qs.length /\ ∀(i off n:Nat)(x:X)(j:Nat)(p:Operand),ps[i]?=some (off,n,x)->qs[i]?=some (j,p)->(∃b,g[j]?=some b/\b.offset=off/\tsz P b.type=some n)/\chkX x p=true
 |[],[],_=>(by simp)| (off,n,x)::ps,(j,p)::qs,h=>by
  simp[M24]at h;obtain⟨⟨a,o⟩,m⟩:=h;obtain⟨l,k⟩:=Q20 m;refine⟨by simp[l],λi f n' q s r c d=>?_⟩;cases i with
  |zero =>
   simp at c d;obtain⟨rfl,rfl,rfl⟩:=c;obtain⟨rfl,rfl⟩:=d;split at a
   .rename_i b e;simp[beq_iff_eq]at a;exact⟨⟨b,e,a.1,a.2⟩,o⟩
   .cases a
  |succ i=>simp at c d;exact k i _ _ _ _ _ c d
 |[],_::_,h=>by simp[M24]at h|_::_,[],h=>by simp[M24]at h
def L1H:Nat->List (Nat×Operand)->Bool
 |_,[]=>true|k,(i,_)::l=>i==k&&L1H (k+1) l
theorem O1x:∀{l:List (Nat×Operand)}{k:Nat},L1H k l=true->l=((l.map (·.2)).zipIdx k).map λ(q,i)=>(i,q)
 |[],k,_=>rfl| (i,q)::l,k,h=>by simp[L1H,beq_iff_eq]at h;have:=O1x h.2;grind[List.zipIdx_cons]
def asB:Op->Option (Builtin×List Operand×List TypeId)
 |.call c=>match c.callee with | .builtin b=>some (b,c.args.toList,c.argTypes.toList)|_=>none
 |_=>none
theorem W1m{a:Op}{b:Builtin}{ps:List Operand}{d:List TypeId}(h:asB a=some (b,ps,d)):a=.call { callee:=.builtin b,args:=ps.toArray,argTypes:=d.toArray }:=by cases a<;>simp[asB,reduceCtorEq]at h;rename_i c;obtain⟨e,g,f⟩:=c;cases e<;>simp[reduceCtorEq,Prod.mk.injEq]at h;obtain⟨rfl,rfl,rfl⟩:=h;simp
def asV:Op->Option (Operand×List Operand×List TypeId)
 |.call c=>match c.callee with | .value f=>some (f,c.args.toList,c.argTypes.toList)|_=>none
 |_=>none
theorem V1R{a:Op}{b:Operand}{ps:List Operand}{d:List TypeId}(h:asV a=some (b,ps,d)):a=.call { callee:=.value b,args:=ps.toArray,argTypes:=d.toArray }:=by cases a<;>simp[asV,reduceCtorEq]at h;rename_i c;obtain⟨e,g,f⟩:=c;cases e<;>simp[reduceCtorEq,Prod.mk.injEq]at h;obtain⟨rfl,rfl,rfl⟩:=h;simp
def chkOp(P:Program):LOp->Op->Bool
 |.mv _ x,.move p=>chkX x p|.mv _ x,.assign p=>chkX x p||chkK x p|.pk _ c a b,.pick p q r=>chkX c p&&chkX a q&&chkX b r|.un _ x,.unOp .not _ p=>chkX x p|.bi _ op x y,.binOp op' _ p q _=>opEq op op'&&chkX x p&&chkX y q|.eb _ ne x y,.binOp op t p q _=>opEq op (if ne then .neq else .eql)&&U1E P t&&chkX x p&&chkX y q|.es _ ne ks x y,.binOp op t p q _=>opEq op (if ne then .neq else .eql)&&eqK P 20 t==some ks&&tag? P t==some true&&P.eqGuardType P.depth t==false&&chkX x p&&chkX y q|.sa _ x y,.binOp .add _ p q _=>chkX x p&&chkX y q|.cv _ k x,.convert t u p=>(P.underlying t).isSome&&decide (Z23 P u=some k)&&chkX x p|.fa _ x off,.fieldAddr t p f=>(match Q0K P t f with|some fd=>fd.offset==off&&(match tsz P fd.type with|some n=>n != 0|none=>false)|none=>false)&&chkX x p
 |.ia _ x i n,.indexAddr t p q=>(match O01 P t with|some e=>tsz P e==some n|none=>false)&&chkX x p&&chkX i q
 |.ix _ x i,.index t p q=>Y0d P t&&chkX x p&&chkX i q|.ld _ x n ag,.load t p=>tsz P t==some n&&tag? P t==some ag&&(ag||n==1)&&chkX x p|.st x y n,.store t p q=>tsz P t==some n&&chkX x p&&chkX y q|.al _ z,.alloc t=>W1J P t z|.bx _ x,.box _ p=>chkX x p|.bd _ z ps,.build t qs=>(match P.underlying t with|some (.struct fs)=>M24 fs P ps qs.toList&&fs.all (λfd=>(tsz P fd.type).isSome)|_=>false)&&W1J P t z
 |.bs _ sz ps _,.buildSlice t n qs=>(match O01 P t with|some e=>tsz P e==some sz&&((P.info? e).bind (·.zero)).isSome|none=>false)&&n==qs.size&&L1H 0 qs.toList&&J18 ps (qs.toList.map (·.2))
 |.ms _ sz by' z x,.makeSlice t p q=>(match O01 P t with|some e=>tsz P e==some sz&&tby P e==some by'&&W1J P e z|none=>false)&&z.length==sz&&sz != 0&&chkX x p&&chkX x q&&(match p,q with | .tmp i,.tmp j=>i==j|_,_=>false)
 |.ln _ x,op=>(match asB op with|some (.len,[p],[t])=>(O01 P t).isSome&&chkX x p|_=>false)
 |.lq _ x,op=>(match asB op with|some (.len,[p],[t])=>(O01 P t).isSome&&chkX x p|_=>false)
 |.ls _ x,op=>(match asB op with|some (.len,[p],[t])=>Y0d P t&&chkX x p|_=>false)
 |.ap _ x y sz by',op=>(match asB op with
  |some (.append,[p,q],[t,t'])=>t==t'&&(match O01 P t with|some e=>(match P.info? e with|some i=>(match i.zero with|some z=>z.cells.size==i.size|none=>false)&&i.size==sz&&i.bytes==by'|none=>false)|none=>false)&&by' != 0&&chkX x p&&chkX y q
  |_=>false)
 |.ae _ x y sz by',op=>(match asB op with
  |some (.append,[p,q],[t,t'])=>t==t'&&(match O01 P t with|some e=>(match P.info? e with|some i=>(match i.zero with|some z=>z.cells.size==i.size|none=>false)&&i.size==sz&&i.bytes==by'|none=>false)|none=>false)&&by' != 0&&chkX x p&&chkX y q
  |_=>false)
 |.ab _ x y,op=>(match asB op with
  |some (.append,[p,q],[t,t'])=>Y0d P t'&&(match O01 P t with|some e=>(match P.info? e with|some i=>(match i.zero with|some z=>z.cells.size==1|none=>false)&&i.size==1&&i.bytes==1|none=>false)|none=>false)&&chkX x p&&chkX y q
  |_=>false)
 |.be _,.buildSlice t n qs=>n==0&&qs.size==0&&(match O01 P t with|some e=>(tsz P e).isSome|none=>false)
 |.sc _ x lo hi _,.move p=>lo.isNone&&hi.isNone&&chkX x p|.sc _ x lo hi n,.slice t p pl ph none=>(match O01 P t with|some e=>tsz P e==some n|none=>false)&&chkX x p&&chkO lo pl&&chkO hi ph
 |.ss _ x lo hi,.slice t p pl ph none=>Y0d P t&&chkX x p&&chkO lo pl&&chkO hi ph|.ex _ x i,.extract p j=>i==j&&chkX x p|.fd _ x off n ag,.field t p f=>(match Q0K P t f with|some fd=>fd.offset==off&&tsz P fd.type==some n&&tag? P fd.type==some ag|none=>false)&&chkX x p
 |.nc _ x,.nilCheck p=>chkX x p|.mm _ true x y,op=>(match asB op with|some (.max,[p,q],_)=>chkX x p&&chkX y q|_=>false)
 |.mm _ false x y,op=>(match asB op with|some (.min,[p,q],_)=>chkX x p&&chkX y q|_=>false)
 |.b2s _ x,.convert t u p=>(match O01 P t with|some e=>decide (Z23 P e=some .u8)|none=>false)&&Y0d P u&&chkX x p
 |.s2b _ x,.convert t u p=>Y0d P t&&(match O01 P u with|some e=>decide (Z23 P e=some .u8)|none=>false)&&chkX x p
 |.mf _ f xs,.makeFunc (.func f') ⟨[]⟩ ps=>f==f'&&J18 xs ps.toList|.cl _ f xs,op=>(match asV op with|some (.func f',ps,_)=>f==f'&&isFn P f&&J18 xs ps|_=>false)
 |.cq _ f xs,op=>(match asV op with|some (.func f',ps,_)=>f==f'&&isFn P f&&J18 xs ps|_=>false)
 |.cc _ fx xs,op=>(match asV op with|some (fp,ps,_)=>chkX fx fp&&J18 xs ps|_=>false)
 |.cn _ f xs,op=>(match asV op with|some (.func f',ps,_)=>f==f'&&isFn P f&&J18 xs ps|_=>false)
 |.cm _ f xs,op=>(match asV op with|some (.func f',ps,_)=>f==f'&&isFn P f&&J18 xs ps|_=>false)
 |_,_=>false
def Wa:LOp->Bool | .st _ _ _=>false | .ost _ _=>false|_=>true
section
variable{P:Program}{c:Cx}{g:Gh}{s:St}{a:Act}{w:World}
variable{o:Oper}{K:St->Prop}{K':Act->World->Prop}{Q':Exit->Act->World->Prop}
theorem O1X(I:Inv c g s a w)(B:∀g' s' a' w',Inv c g' s' a' w'->K s'->K' a' w'){l:LOp}(j:chkOp P l o.op=true)
    (v:o.dst=if Wa l then some l.dst else none) (r:l.dst<c.nt) (h:wop P l K s):o.wp P a w K' Q':=by
  cases l with
  |mv d x =>
    simp only[Wa,yb,LOp.dst]at v r
    generalize A:o.op=S at j
    cases S<;>simp only[chkOp,yG,Bool.or_eq_true]at j
    · exact Y2m I B v r (.inl A) j h
    · rcases j with j|j
      · exact Y2m I B v r (.inr A) j h
      · exact Z2r I B v r A j h
  |pk d x y z =>
    simp only[Wa,yb,LOp.dst]at v r
    generalize A:o.op=S at j
    cases S<;>simp only[chkOp,yG,yD]at j
    exact Y2y I B v r A j.1.1 j.1.2 j.2 h
  |un d x =>
    simp only[Wa,yb,LOp.dst]at v r
    generalize A:o.op=S at j
    cases S<;>try (simp only[chkOp,yG]at j;done)
    rename_i u t p
    cases u<;>simp only[chkOp,yG]at j
    exact O2x I B v r A j h
  |bi d S x y =>
    simp only[Wa,yb,LOp.dst]at v r
    generalize A:o.op=oo at j
    cases oo<;>simp only[chkOp,yG,yD]at j
    rw[← L1S j.1.1]at A
    exact Y2A I B v r A j.1.2 j.2 h
  |eb d ne x y =>
    simp only[Wa,yb,LOp.dst]at v r
    generalize A:o.op=oo at j
    cases oo<;>simp only[chkOp,yG,yD]at j
    rw[L1S j.1.1.1]at A
    exact V2z I B v r A (O1T j.1.1.2) j.1.2 j.2 h
  |es d ne ks x y =>
    simp only[Wa,yb,LOp.dst]at v r
    generalize A:o.op=oo at j
    cases oo<;>simp only[chkOp,yG,yD,beq_iff_eq]at j
    rw[L1S j.1.1.1.1.1]at A
    exact X2z I B v r A j.1.1.1.1.2 j.1.1.1.2 j.1.1.2 j.1.2 j.2 h
  |sa d x y =>
    simp only[Wa,yb,LOp.dst]at v r
    generalize A:o.op=oo at j
    cases oo<;>try (simp only[chkOp,yG]at j;done)
    rename_i b t p q u
    cases b<;>simp only[chkOp,yG,yD]at j
    exact Z2y I B v r A j.1 j.2 h
  |cv d k x =>
    simp only[Wa,yb,LOp.dst]at v r
    generalize A:o.op=oo at j
    cases oo<;>simp only[chkOp,yG,yD,yO]at j
    exact U2z I B v r A j.1.1 (M1G j.1.2) j.2 h
  |fa d x off =>
    simp only[Wa,yb,LOp.dst]at v r
    generalize A:o.op=oo at j
    cases oo<;>simp only[chkOp,yG,yD]at j
    obtain⟨j,C⟩:=j
    split at j
    · rename_i fd J
      simp only[yD,beq_iff_eq]at j
      obtain⟨rfl,j⟩:=j
      split at j
      · rename_i n W
        obtain⟨fs,F,E⟩:=X1y J
        exact Z2z I B v r A F E W (by simpa using j) C h
      · cases j
    · cases j
  |ia d x i n =>
    simp only[Wa,yb,LOp.dst]at v r
    generalize A:o.op=oo at j
    cases oo<;>simp only[chkOp,yG,yD]at j
    obtain⟨⟨j,C⟩,H⟩:=j
    split at j
    · rename_i e G
      exact L2y I B v r A (Yy G) (by simpa using j) C H h
    · cases j
  |ix d x i =>
    simp only[Wa,yb,LOp.dst]at v r
    generalize A:o.op=oo at j
    cases oo<;>simp only[chkOp,yG,yD]at j
    exact M2y I B v r A (Y0g j.1.1) j.1.2 j.2 h
  |ld d x n ag =>
    simp only[Wa,yb,LOp.dst]at v r
    generalize A:o.op=oo at j
    cases oo<;>simp only[chkOp,yG,yD,beq_iff_eq,Bool.or_eq_true]at j
    exact O2y I B v r A j.1.1.1 j.1.1.2 (λhag=>by rcases j.1.2 with h|h;rw[hag]at h;cases h;exact h) j.2 h
  |st x y n =>
    simp only[Wa,yG,yc]at v
    generalize A:o.op=oo at j
    cases oo<;>simp only[chkOp,yG,yD,beq_iff_eq]at j
    exact M2x I B v A j.1.1 j.1.2 j.2 h
  |al d z =>
    simp only[Wa,yb,LOp.dst]at v r
    generalize A:o.op=oo at j
    cases oo<;>simp only[chkOp,yG]at j
    obtain⟨zv,F,E,Y⟩:=O1a j
    exact Q2A I B v r A F E Y h
  |bx d x =>
    simp only[Wa,yb,LOp.dst]at v r
    generalize A:o.op=oo at j
    cases oo<;>simp only[chkOp,yG]at j
    exact J2z I B v r A j h
  |bd d z ps =>
    simp only[Wa,yb,LOp.dst]at v r
    generalize A:o.op=oo at j
    cases oo<;>simp only[chkOp,yG,yD]at j
    rename_i t qs
    obtain⟨j,L⟩:=j
    split at j
    · rename_i fs hfs
      simp only[yD]at j
      obtain⟨hps,N⟩:=j
      obtain⟨zv,F,E,Y⟩:=O1a L
      obtain⟨q1,q2⟩:=Q20 hps
      refine V2A (qs:=qs.toList) I B v r (by simpa using A) hfs F E Y q1 q2 (λfd hfd=>?_) h
      rw[Array.all_eq_true']at N
      exact N fd hfd
    · cases j
  |bs d sz ps own =>
    simp only[Wa,yb,LOp.dst]at v r
    generalize A:o.op=oo at j
    cases oo<;>simp only[chkOp,yG,yD,beq_iff_eq]at j
    rename_i t n qs
    obtain⟨⟨⟨j,W⟩,X⟩,hxs⟩:=j
    split at j
    · rename_i e G
      simp only[yD,beq_iff_eq]at j
      obtain⟨zv,L⟩:=Option.isSome_iff_exists.1 j.2
      have hq:=O1x X
      refine Z2A (qs:=qs.toList.map (·.2)) I B v r ?_ (Yy G) j.1 L (Q0b hxs) h
      rw[A,W]
      congr 1
      · simp
      · rw[← hq]
    · cases j
  |ms d sz Z z x =>
    simp only[Wa,yb,LOp.dst]at v r
    generalize A:o.op=oo at j
    cases oo<;>simp only[chkOp,yG,yD,beq_iff_eq]at j
    rename_i t p q
    obtain⟨⟨⟨⟨⟨j,hzl⟩,O⟩,C⟩,_⟩,M⟩:=j
    have V:p=q:=by
      split at M
      · simp only[beq_iff_eq]at M;subst M;rfl
      · cases M
    subst V
    split at j
    · rename_i e G
      simp only[yD,beq_iff_eq]at j
      obtain⟨⟨F,E⟩,Y⟩:=j
      obtain⟨zv,z1,z2,z3⟩:=O1a Y
      unfold tsz at F
      unfold tby at E
      obtain⟨i,H,e1⟩:=yC F
      rw[H]at E z1
      simp only[Option.map_some,yI]at E
      simp only[bS]at z1
      exact V2y I B v r A (Yy G) H z1 e1 E z2 z3 hzl (Nat.pos_of_ne_zero (by simpa using O)) C h
    · cases j
  |ln d x =>
    simp only[Wa,yb,LOp.dst]at v r
    simp only[chkOp]at j
    split at j
    · rename_i p t e
      simp only[yD]at j
      obtain⟨el,D⟩:=Option.isSome_iff_exists.1 j.1
      exact V2m I B v r (W1m e) (Yy D) j.2 h
    · cases j
  |lq d x =>
    simp only[Wa,yb,LOp.dst]at v r
    simp only[chkOp]at j
    split at j
    · rename_i p t e
      simp only[yD]at j
      obtain⟨el,D⟩:=Option.isSome_iff_exists.1 j.1
      exact W2y I B v r (W1m e) (Yy D) j.2 h
    · cases j
  |ls d x =>
    simp only[Wa,yb,LOp.dst]at v r
    simp only[chkOp]at j
    split at j
    · rename_i p t e
      simp only[yD]at j
      exact Q2y I B v r (W1m e) (Y0g j.1) j.2 h
    · cases j
  |ab d x y =>
    simp only[Wa,yb,LOp.dst]at v r
    simp only[chkOp]at j
    split at j
    · rename_i p q t t' e
      simp only[yD]at j
      obtain⟨⟨⟨U,j⟩,C⟩,T⟩:=j
      split at j
      · rename_i el D
        split at j
        · rename_i i H
          simp only[yD,beq_iff_eq]at j
          obtain⟨⟨j,F⟩,E⟩:=j
          split at j
          · rename_i z L
            exact W2O I B v r (W1m e) (Yy D) (Y0g U) H L F E (by simpa using j) C T h
          · cases j
        · cases j
      · cases j
    · cases j
  |ap d x y sz Z =>
    simp only[Wa,yb,LOp.dst]at v r
    simp only[chkOp]at j
    split at j
    · rename_i p q t t' e
      simp only[yD,beq_iff_eq,bne_iff_ne]at j
      obtain⟨⟨⟨⟨rfl,j⟩,Q⟩,C⟩,T⟩:=j
      split at j
      · rename_i el D
        split at j
        · rename_i i H
          simp only[yD,beq_iff_eq]at j
          obtain⟨⟨j,F⟩,E⟩:=j
          split at j
          · rename_i z L
            exact U2A I B v r (W1m e) (Yy D) H L F E (Nat.pos_of_ne_zero Q) (by simpa using j) C T h
          · cases j
        · cases j
      · cases j
    · cases j
  |ae d x y sz Z =>
    simp only[Wa,yb,LOp.dst]at v r
    simp only[chkOp]at j
    split at j
    · rename_i p q t t' e
      simp only[yD,beq_iff_eq,bne_iff_ne]at j
      obtain⟨⟨⟨⟨rfl,j⟩,Q⟩,C⟩,T⟩:=j
      split at j
      · rename_i el D
        split at j
        · rename_i i H
          simp only[yD,beq_iff_eq]at j
          obtain⟨⟨j,F⟩,E⟩:=j
          split at j
          · rename_i z L
            exact W2A I B v r (W1m e) (Yy D) H L F E (Nat.pos_of_ne_zero Q) (by simpa using j) C T h
          · cases j
        · cases j
      · cases j
    · cases j
  |be d =>
    simp only[Wa,yb,LOp.dst]at v r
    generalize A:o.op=oo at j
    cases oo<;>simp only[chkOp,yG,yD,beq_iff_eq]at j
    rename_i t n qs
    obtain⟨⟨W,hq⟩,j⟩:=j
    split at j
    · rename_i e G
      obtain⟨sz,O⟩:=Option.isSome_iff_exists.1 j
      refine X2A I B v r ?_ (Yy G) O h
      rw[A,W,Array.eq_empty_of_size_eq_zero hq]
    · cases j
  |sc d x lo H n =>
    simp only[Wa,yb,LOp.dst]at v r
    generalize A:o.op=oo at j
    cases oo<;>try (simp only[chkOp,yG]at j;done)
    all_goals first
    | (rename_i p
       simp only[chkOp,yD,Option.isNone_iff_eq_none]at j
       obtain⟨⟨rfl,rfl⟩,C⟩:=j
       exact L2q I B v r A C h)
    | (rename_i t p pl ph pm
       cases pm<;>simp only[chkOp,yG,yD]at j
       obtain⟨⟨⟨j,C⟩,hl⟩,hh⟩:=j
       split at j
       · rename_i e G
         exact J2x I B v r A (Yy G) (by simpa using j) C hl hh h
       · cases j)
  |ss d x lo H =>
    simp only[Wa,yb,LOp.dst]at v r
    generalize A:o.op=oo at j
    cases oo<;>try (simp only[chkOp,yG]at j;done)
    rename_i t p pl ph pm
    cases pm<;>simp only[chkOp,yG,yD]at j
    obtain⟨⟨⟨j,C⟩,hl⟩,hh⟩:=j
    exact L2x I B v r A (Y0g j) C hl hh h
  |ex d x i =>
    simp only[Wa,yb,LOp.dst]at v r
    generalize A:o.op=oo at j
    cases oo<;>simp only[chkOp,yG,yD,beq_iff_eq]at j
    rw[← j.1]at A
    exact Y2z I B v r A j.2 h
  |fd d x off n ag =>
    simp only[Wa,yb,LOp.dst]at v r
    generalize A:o.op=oo at j
    cases oo<;>simp only[chkOp,yG,yD]at j
    obtain⟨j,C⟩:=j
    split at j
    · rename_i fd J
      simp only[yD,beq_iff_eq]at j
      obtain⟨⟨rfl,F⟩,E⟩:=j
      obtain⟨fs,q1,q2⟩:=X1y J
      exact J2y I B v r A q1 q2 F E C h
    · cases j
  |nc d x =>
    simp only[Wa,yb,LOp.dst]at v r
    generalize A:o.op=oo at j
    cases oo<;>simp only[chkOp,yG]at j
    exact X2y I B v r A j h
  |mm d mx x y =>
    simp only[Wa,yb,LOp.dst]at v r
    cases mx<;>simp only[chkOp]at j<;>split at j
    · rename_i p q R e
      simp only[yD]at j
      exact X2m (mx:=false) I B v r (W1m e) j.1 j.2 h
    · cases j
    · rename_i p q R e
      simp only[yD]at j
      exact X2m (mx:=true) I B v r (W1m e) j.1 j.2 h
    · cases j
  |b2s d x =>
    simp only[Wa,yb,LOp.dst]at v r
    generalize A:o.op=oo at j
    cases oo<;>simp only[chkOp,yG,yD]at j
    obtain⟨⟨j,U⟩,C⟩:=j
    split at j
    · rename_i e G
      exact Y2r I B v r A (Yy G) (M1G (by simpa using j)) (Y0g U) C h
    · cases j
  |s2b d x =>
    simp only[Wa,yb,LOp.dst]at v r
    generalize A:o.op=oo at j
    cases oo<;>simp only[chkOp,yG,yD]at j
    obtain⟨⟨U,j⟩,C⟩:=j
    split at j
    · rename_i e G
      exact J2q I B v r A (Y0g U) (Yy G) (M1G (by simpa using j)) C h
    · cases j
  |mf d f xs =>
    simp only[Wa,yb,LOp.dst]at v r
    generalize A:o.op=oo at j
    unfold chkOp at j
    split at j<;>simp_all
    rename_i ps
    exact U2y (ps:=ps.toList) I B v r (by simpa using A) (Q0b j.2) h
  |cl d f xs =>
    simp only[Wa,yb,LOp.dst]at v r
    simp only[chkOp]at j
    split at j
    · rename_i f' ps R e
      simp only[yD,beq_iff_eq]at j
      obtain⟨⟨rfl,J⟩,C⟩:=j
      exact M2z I B v r (V1R e) J (Q0b C) h
    · cases j
  |cq d f xs =>
    simp only[Wa,yb,LOp.dst]at v r
    simp only[chkOp]at j
    split at j
    · rename_i f' ps R e
      simp only[yD,beq_iff_eq]at j
      obtain⟨⟨rfl,J⟩,C⟩:=j
      exact Q2z I B v r (V1R e) J (Q0b C) h
    · cases j
  |cc d fx xs =>
    simp only[Wa,yb,LOp.dst]at v r
    simp only[chkOp]at j
    split at j
    · rename_i fp ps R e
      simp only[yD]at j
      exact L2z I B v r (V1R e) j.1 (Q0b j.2) h
    · cases j
  |cm d f xs =>
    simp only[Wa,yb,LOp.dst]at v r
    simp only[chkOp]at j
    split at j
    · rename_i f' ps R e
      simp only[yD,beq_iff_eq]at j
      obtain⟨⟨rfl,J⟩,C⟩:=j
      exact O2z I B v r (V1R e) J (Q0b C) h
    · cases j
  |cn d f xs =>
    simp only[Wa,yb,LOp.dst]at v r
    simp only[chkOp]at j
    split at j
    · rename_i f' ps R e
      simp only[yD,beq_iff_eq]at j
      obtain⟨⟨rfl,J⟩,C⟩:=j
      exact W2z I B v r (V1R e) J (Q0b C) h
    · cases j
  |oln d x=>simp[chkOp]at j
  |oia d x i n=>simp[chkOp]at j
  |ofa d x off=>simp[chkOp]at j
  |old d x=>simp[chkOp]at j
  |ost x y=>simp[chkOp]at j
  |co d f xs=>simp[chkOp]at j
  |cf d f m xs=>simp[chkOp]at j
  |g t want l=>simp[chkOp]at j
  |cs t=>simp[chkOp]at j
  |fz t=>simp[chkOp]at j
  |fb t=>simp[chkOp]at j
end
end
section
def wops(P:Program):List LOp->(St->Prop)->St->Prop
 |[],K,s=>K s|l::ls,K,s=>wop P l (wops P ls K) s
def Q0Z(ops:Array Oper)(o:Oper):Option (Nat×Bool) :=
 match o.guard with
 |some (j,want)=>match ops[j]? with
  |some oj=>match oj.dst with
   |some t=>some (t,want)
   |none=>none
  |none=>none
 |none=>none
def J1Q(nt:Nat)(l:LOp)(o:Oper):Bool:=decide (l.dst<nt)&&decide (o.dst=if Wa l then some l.dst else none)
def chk1(P:Program)(nt:Nat)(ops:Array Oper)(l:LOp)(o:Oper):Bool:=match l with
 |.g t want l'=>decide (Q0Z ops o=some (t,want))&&decide (t<nt)&&J1Q nt l' o&&Wa l'&&chkOp P l' o.op
 |l=>o.guard.isNone&&J1Q nt l o&&chkOp P l o.op
def chkL(P:Program)(nt:Nat)(ops:Array Oper):List LOp->List Oper->Bool
 |[],[]=>true|.cs t::ls,os=>decide (t<nt)&&chkL P nt ops ls os|.fz t::ls,os=>decide (t<nt)&&chkL P nt ops ls os|.fb t::ls,os=>decide (t<nt)&&chkL P nt ops ls os|l::ls,o::os=>chk1 P nt ops l o&&chkL P nt ops ls os|_,_=>false
section
variable{P:Program}{c:Cx}{g:Gh}{s:St}{a:Act}{w:World}
theorem Q1W(s:St)(t:Nat):s.set t (s.e t)=s:=by
 have:upd s.e t (s.e t)=s.e:=by funext j;grind[upd]
 simp_all[St.set]
theorem V1X(a:Act)(t:Nat):a.put (some t) (a.tmps.getD t undef)=a:=by
 have:a.tmps.setIfInBounds t (a.tmps.getD t undef)=a.tmps:=by
  apply Array.ext_getElem?;intro i;rw[Array.getElem?_setIfInBounds];split
  .rename_i h;subst h;split
   .simp
   grind
  rfl
 simp_all[Act.put]
theorem L2j(_:Inv c g s a w){t:Nat}{K:St->Prop}(h:wop P (.cs t) K s):K s:=by
 simp[wop]at h;split at h
 .rename_i b e;have d:s.set t (.bool b)=s:=by rw[← e];exact Q1W s t
  cases b
  .have:=h.2 rfl;rwa [d]at this
  grind
 cases h
theorem O2j(I:Inv c g s a w){t:Nat}(j:t<c.nt){K:St->Prop}(h:wop P (.fz t) K s):∃g' s',Inv c g' s' a w/\K s':=by
 simp[wop]at h;split at h
 .rename_i k e;split at h
  .rename_i r d;have n:=I.share d;have f:=I.tm t;rw[e]at f;have l:=f.sref_inv d;have m:=n.put j (x:=.sl .nw r.sz r.es) (v:=a.tmps.getD t undef) (.data _ _ (by rw[l,Gh.T_of];have q:=(I.rws k r d).mono (w':=w) (S':=λb o=>g.S b o\/((g.rv k).ownBlock=some b/\o<r.es.length*r.sz)) (N':=g.T) (by grind) TLe.refl (by simp) (λ_ _=>rfl);exact V0a q (by grind) .nw (λb i=>⟨(I.rwn k r d b i).1.1,I.ow.rw k r d b i⟩)));rw[V1X]at m;grind
  cases h
 .grind
 cases h
theorem Inv.moreS(I:Inv c g s a w)(f n:Nat)(z:Wr c g f)(x:f<w.heap.size)(y:∀k cs,s.bx k=some cs->g.bb k≠f)(v:∀k r,s.rw k=some r->(g.rv k).ownBlock≠some f)(u:UnfB w f)(p:¬ g.own f) : Inv c { g with S:=λb o=>g.S b o\/(b=f/\o<n) } s a w:=by
 have T:Turn (λ_=>True) w w g { g with S:=λb o=>g.S b o\/(b=f/\o<n) } s s := ⟨by grind,λ_ h=>h,TLe.of (λ_ h=>h) rfl,λ_ _ _=>rfl,by grind,by grind,λ_ _ h=>h,Y1E⟩;refine⟨I.defers,I.nt,I.fr,λi=>(I.tm i).turn T,λj m h=>(I.bxs j m h).turn T rfl,λj m h=>⟨(I.bxn j m h).1,λo d=>?_⟩,λj r h=>(I.rws j r h).mono T.S T.T T.cell (λ_ _=>rfl),λj r h b l=>⟨(I.rwn j r h b l).1,λo d=>?_⟩,I.dbb,I.dbr,I.drr,λb o d=>?_,I.nn,I.nx,I.fix,λb o h=>.inl (I.sm b o h),λb o h=>?_,I.ow.turn rfl (λ_ h=>h) (yV _) (λ_ _=>rfl) I.ow.bx I.ow.rw,λb o h q=>h.elim (λh=>I.uf b o h q) (by grind),λb o h q=>h.elim (λh=>I.sd b o h q) λh=>p (by rw[← h.1];exact I.ow.dd b q)⟩
 .rcases d with d|⟨e,_⟩
  .exact(I.bxn j m h).2 o d
  grind
 .rcases d with d|⟨e,_⟩
  .exact(I.rwn j r h b l).2 o d
  grind
 .rcases d with d|⟨e,_⟩
  .exact I.sw b o d
  omega
 rcases h with h|⟨e,_⟩
 .exact I.sb b o h
 rcases Nat.lt_or_ge b c.w0.heap.size with t|t
 .exact .inr (.inr (by rw[e]at t ⊢;exact z.2 t))
 omega
theorem M2j(I:Inv c g s a w){t:Nat}(G:t<c.nt){K:St->Prop}(h:wop P (.fb t) K s):∃g' s',Inv c g' s' a w/\K s':=by
 simp[wop]at h;split at h
 .rename_i k e;split at h
  .rename_i cs i;obtain⟨u,h⟩:=h;have E:=I.tm t;rw[e]at E;have J:=E.ptr_inv i;obtain⟨l,O,p,B,A⟩:=I.bxs k cs i;have z:=U0E (I.bxs k cs i);have N:=I.kill0 k;have M:=N.moreS (g.bb k) cs.length (I.bxn k cs i).1 z (λj Q f=>by
    obtain⟨n,c0,D,_⟩:=M8 f;exact I.dbb j k c0 cs D i n) (λj r f=>by
    obtain⟨n,D⟩:=Xc f;exact I.dbr k j cs r i D) (.plain p) (I.ow.bx k cs i)
   have d:∀(j:Nat) (y:AV),cs[j]?=some y->w.cell? ⟨g.bb k,0+j,none⟩=some (l.getD j undef)/\l[j]?=some (l.getD j undef):=by
    intro j y f;have o:j<l.length:=by rw[B];exact(yB f).1
    refine⟨?_,by simp[List.getD_eq_getElem?_getD,o]⟩;simp[World.cell?,p,List.getD_eq_getElem?_getD,o]
   have m:∀y∈cs,plain y=true:=by simpa[nosr]using u
   have L:=M.put G (x:=.ept (.agg cs) 0) (v:=a.tmps.getD t undef) (.data _ _ (by
    rw[J];refine .ept (.agg cs) 0 (g.bb k) 0 (λj=>l.getD j undef) (λj y f=>?_) (λj y f=>?_)
    .have b:cs[j]?=some y:=f;have q:=m y (yE b);exact⟨(d j y b).1,.inr ⟨rfl,by have:=(yB b).1;omega⟩,by cases y<;>simp[plain]at q<;>rfl,λR C=>by cases C;exact I.ow.bx k cs i⟩
    have b:=f;have q:=m y (yE b);obtain⟨_,_,F⟩:=A j y _ b (d j y b).2;have H:s.dt y=some y:=Z1C q;exact(I.plain (x:=y) (y:=y) (by cases y<;>simp[plain]at q<;>simp[nosr,plain]) H F).mono (by grind) TLe.refl (by simp)))
   rw[V1X]at L;grind
  cases h
 .grind
 cases h
theorem W2j{f:Array Oper}{o:Oper}{t:Nat}{d:Bool}(I:Inv c g s a w)(h:Q0Z f o=some (t,d))(n:t<c.nt){b:Bool}(q:s.e t=.bool b) : Region.wanted o (yielded f a.tmps)=decide (b=d):=by
 unfold Q0Z at h;split at h
 .rename_i j i v;split at h
  .rename_i r u;split at h
   .rename_i k m;simp[Prod.mk.injEq]at h;obtain⟨rfl,rfl⟩:=h;have l:=I.tm k;rw[q]at l;have e:=l.bool_inv;have p:k<a.tmps.size:=by rw[I.nt];exact n
    have x:a.tmps[k]?=some (.bool b):=by rw[Array.getD_eq_getD_getElem?]at e;grind
    grind[Region.wanted,yielded,bS]
   cases h
  cases h
 cases h
theorem L2c{f:Array Oper}{o:Oper}{t:Nat}{d:Bool}(I:Inv c g s a w)(h:Q0Z f o=some (t,d))(n:s.e t=.und) : Region.wanted o (yielded f a.tmps)=false:=by
 unfold Q0Z at h;split at h
 .rename_i j i r;split at h
  .rename_i p q;split at h
   .rename_i k m;simp[Prod.mk.injEq]at h;obtain⟨rfl,rfl⟩:=h;have l:=I.tm k;rw[n]at l;have e:=l.und_inv;have u:∀b,a.tmps[k]?≠some (.bool b):=by intro b h;rw[Array.getD_eq_getD_getElem?,h]at e;grind[absurd,undef]
    grind[Region.wanted,yielded,bS,absurd]
   cases h
  cases h
 cases h
variable{K:St->Prop}{K':Act->World->Prop}{Q':Exit->Act->World->Prop}
theorem Q0x{a:Nat}{l:LOp}{o:Oper}(h:J1Q a l o=true):l.dst<a/\o.dst=if Wa l then some l.dst else none:=by grind[J1Q]
theorem Mx{d:Array Oper}{l:LOp}{o:Oper}(r:∀g' s' y w',Inv c g' s' y w'->K s'->K' y w')(i:chk1 P c.nt d l o=true)(I:Inv c g s a w)(h:wop P l K s) : if Region.wanted o (yielded d a.tmps)then o.wp P a w K' Q' else K' (a.put o.dst undef) w:=by
 have f:(o.guard.isNone&&J1Q c.nt l o&&chkOp P l o.op)=true->if Region.wanted o (yielded d a.tmps)then o.wp P a w K' Q' else K' (a.put o.dst undef) w:=by
  intro i;simp only[yD]at i;obtain⟨⟨x,n⟩,v⟩:=i;obtain⟨m,k⟩:=Q0x n;have j:Region.wanted o (yielded d a.tmps)=true:=by grind[Region.wanted,Option.isNone_iff_eq_none]
  rw[yd j];grind[O1X]
 cases l with
 |g t p z =>
  simp[chk1]at i;obtain⟨⟨⟨⟨x,n⟩,v⟩,u⟩,C⟩:=i;obtain⟨m,k⟩:=Q0x v;rw[yd u]at k;simp[wop]at h;have q:Region.wanted o (yielded d a.tmps)=false->K (s.set z.dst .und)->if Region.wanted o (yielded d a.tmps)then o.wp P a w K' Q' else K' (a.put o.dst undef) w:=by intro j A;rw[j,ye (by simp),k];exact r _ _ _ _ (I.put m .und) A
  split at h
  .rename_i b e;have j:=W2j I x n e;split at h
   .rename_i B;rw[j,yd (by simpa using B)];exact O1X I r C (by rw[yd u];exact k) m h
   grind
  .grind[L2c]
  cases h
 |_=>exact f i
theorem Q22{b:Array Oper}(p:∀g' s' m w',Inv c g' s' m w'->K s'->Q' .normal m w') : ∀(i:List LOp)(d:List Oper)(g:Gh)(s:St)(a:Act)(w:World),chkL P c.nt b i d=true->Inv c g s a w->wops P i K s->wpList P b Q' d a w:=by
 intro i;induction i with
 |nil =>intro d g s a w e I h;cases d with|nil=>exact p _ _ _ _ I h|cons o d=>simp[chkL]at e
 |cons l i n =>
  intro d g s a w e I h;have j:(∃o f,d=o::f/\chk1 P c.nt b l o=true/\chkL P c.nt b i f=true)->wpList P b Q' d a w:=by rintro⟨o,f,rfl,q,x⟩;exact  wpList_step λu k=> Mx (K:=wops P i K) (by grind) q I h
  cases l with|cs t =>simp[chkL]at e;exact n d g s a w e.2 I (L2j I h)|fb t =>simp[chkL]at e;obtain⟨g',s',v,r⟩:=M2j I e.1 h;grind|fz t =>simp[chkL]at e;obtain⟨g',s',v,r⟩:=O2j I e.1 h;grind|_ =>cases d with|nil=>simp[chkL]at e|cons o f =>simp[chkL]at e;exact by grind
end
end
section
def X.rd:X->List Nat
 |.t i=>[i]|.c _=>[]
def rdO:Option X->List Nat
 |some x=>x.rd|none=>[]
def LOp.rds:LOp->List Nat
 |.mv _ x | .un _ x | .cv _ _ x | .fa _ x _ | .ld _ x _ _ | .ls _ x | .lq _ x | .ex _ x _ | .fd _ x _ _ _ | .nc _ x | .b2s _ x | .s2b _ x=>x.rd|.pk _ x y z=>x.rd++y.rd++z.rd|.oln _ x | .ofa _ x _=>x.rd|.bi _ _ x y | .eb _ _ x y | .es _ _ _ x y | .sa _ x y | .ia _ x y _ | .oia _ x y _ | .ix _ x y | .mm _ _ x y | .ae _ x y _ _=>x.rd++y.rd|.bd _ _ ps=>ps.flatMap λp=>p.2.2.rd|.bs _ _ ps _=>ps.flatMap X.rd|.sc _ x lo hi _ | .ss _ x lo hi=>x.rd++rdO lo++rdO hi|.mf _ _ xs | .cq _ _ xs=>xs.flatMap X.rd|.cc _ f xs=>f.rd++xs.flatMap X.rd|.g t _ o=>t::o.rds|_=>[]
def isQ1:LOp->Bool
 |.mv _ _ | .un _ _ | .cv _ _ _ | .fa _ _ _ | .ld _ _ _ _ | .ls _ _ | .lq _ _ | .ex _ _ _ | .fd _ _ _ _ _ | .nc _ _ | .b2s _ _ | .s2b _ _|.pk _ _ _ _ | .bi _ _ _ _ | .eb _ _ _ _ | .es _ _ _ _ _ | .sa _ _ _ | .ia _ _ _ _ | .ix _ _ _ | .mm _ _ _ _ | .bd _ _ _ | .bs _ _ _ false|.sc _ _ _ _ _ | .ss _ _ _ _ | .mf _ _ _ | .cq _ _ _ | .cc _ _ _ | .be _ | .ae _ _ _ _ _ | .oln _ _ | .oia _ _ _ _ | .ofa _ _ _=>true|_=>false
def isQ:LOp->Bool
 |.g _ _ o=>isQ1 o|o=>isQ1 o
def U1M:AV->Bool | .sref _=>false|_=>true
def scOk(s:St):LOp->Prop
 |.sc _ x _ _ _=>U1M (s.get x)=true|.g _ _ (.sc _ x _ _ _)=>U1M (s.get x)=true|_=>True
structure Ag(l:List Nat)(s s':St):Prop where
 e:∀t,t∈l->s'.e t=s.e t
 bx:∀k cs,s.bx k=some cs->s'.bx k=some cs
 rw:∀k r,s.rw k=some r->s'.rw k=some r
section
variable{P:Program}{s s':St}
theorem Ag.sub{l a:List Nat}(A:Ag l s s')(h:∀t,t∈a->t∈l):Ag a s s':=⟨λt b=>A.e t (h t b),A.bx,A.rw⟩
theorem Ag.get{l:List Nat}(A:Ag l s s'){x:X}(h:∀t,t∈x.rd->t∈l):s'.get x=s.get x:=by cases x with|t i=>exact A.e i (by grind[X.rd])|c a=>rfl
theorem Ag.gets{l:List Nat}(A:Ag l s s'){xs:List X}(h:∀t,t∈xs.flatMap X.rd->t∈l):xs.map s'.get=xs.map s.get:=by apply List.map_congr_left;intro x a;exact A.get λt b=>h t (List.mem_flatMap.2 ⟨x,a,b⟩)
mutual
theorem X24(h:∀k r,s.rw k=some r->s'.rw k=some r):∀a x,s.dt a=some x->s'.dt a=some x
 |.bool _,x,hx | .int _ _,x,hx | .str _,x,hx | .nl,x,hx | .sl _ _ _,x,hx | .ept _ _,x,hx=>by simpa[St.dt]using hx
 |.tup _,x,hx | .ptr _ _,x,hx | .rpt _ _ _,x,hx | .el,x,hx | .od _ _ _,x,hx | .op _ _ _,x,hx | .und,x,hx | .bad,x,hx=>by simp[St.dt]at hx
 |.sref k,x,hx=>by
  simp only[St.dt,Option.map_eq_some_iff]at hx ⊢
  obtain⟨r,h1,h2⟩:=hx
  exact⟨r,h k r h1,h2⟩
 |.agg cs,x,hx=>by
  rw[St.dt,Option.map_eq_some_iff]at hx ⊢
  obtain⟨y,h1,h2⟩:=hx
  exact⟨y,J1P h cs y h1,h2⟩
 |.fn f cs,x,hx=>by
  rw[St.dt,Option.map_eq_some_iff]at hx ⊢
  obtain⟨y,h1,h2⟩:=hx
  exact⟨y,J1P h cs y h1,h2⟩
theorem J1P(h:∀k r,s.rw k=some r->s'.rw k=some r):∀l y,s.dtL l=some y->s'.dtL l=some y
 |[],y,hy=>by simpa[St.dtL]using hy
 |a::l,y,hy=>by
  rw[St.dtL]at hy ⊢
  split at hy
  .rename_i u v h1 h2
   rw[X24 h a u h1,J1P h l v h2];exact hy
  .cases hy
end
theorem W2g{l:List Nat}(A:Ag l s s'){xs:List X}{b:List AV}(h:∀t,t∈xs.flatMap X.rd->t∈l)(a:s.args xs=some b):s'.args xs=some b:=by
 unfold St.args at *;rw[A.gets h];split at a
 .rename_i c e;rw[J1P A.rw _ _ e];exact a
 cases a
theorem ld_ag{l:List Nat}(A:Ag l s s'){p v:AV}{n:Nat}{a:Bool}(h:s.ld p n a=some v):s'.ld p n a=some v:=by
 unfold St.ld at *;split at h
 .exact h
 .exact h
 .split at h
  .rename_i cs c;simp[A.bx _ _ c];exact h
  cases h
 .split at h
  .rename_i r b;simp[A.rw _ _ b];exact h
  cases h
 cases h
theorem X2u{l:List Nat}(A:Ag l s s'){o:Option X}(h:∀t,t∈rdO o->t∈l)(n:Nat):s'.lo o n=s.lo o n:=by cases o with|none=>rfl|some x=>simp[St.lo];rw[A.get h]
theorem Q2u{l:List Nat}(A:Ag l s s'){o:Option X}(h:∀t,t∈rdO o->t∈l)(n:Nat):s'.hi o n=s.hi o n:=by cases o with|none=>rfl|some x=>simp[St.hi];rw[A.get h]
theorem W0I{t:Nat}{v:AV}:(s.set t v).e t=v:=by simp[St.set,upd]
def Yld(P:Program)(l:LOp)(s:St)(v:AV):Prop:=∀s',Ag l.rds s s'->∀K:St->Prop,K (s'.set l.dst v)->wop P l K s'
theorem L27{K:St->Prop}{l:LOp}(hq:isQ1 l=true)(hsc:scOk s l)(h:wop P l K s):∃v,K (s.set l.dst v)/\Yld P l s v:=by
 cases l with
 |mv d x =>exact⟨_,h,λs' A u c=>by have e:=A.get (x:=x) (λt h=>h);simp only[wop,e];exact c⟩|pk d x y z =>
  simp only[wop]at h;split at h
  .rename_i t q;refine⟨_,h,λs' A u c=>?_⟩;have g:=A.get (x:=x) (by grind[LOp.rds]);have w:=A.get (x:=y) (by grind[LOp.rds]);have G:=A.get (x:=z) (by grind[LOp.rds]);simp only[wop,g,w,G,q];exact c
  cases h
 |un d x =>
  simp only[wop]at h;split at h
  .rename_i t q;refine⟨_,h,λs' A u c=>?_⟩;have g:=A.get (x:=x) (λt h=>h);simp only[wop,g,q];exact c
  cases h
 |bi d op x y =>
  simp only[wop]at h;split at h
  .rename_i t q;refine⟨_,h,λs' A u c=>?_⟩;have g:=A.get (x:=x) (by grind[LOp.rds]);have w:=A.get (x:=y) (by grind[LOp.rds]);simp only[wop,g,w,q];exact c
  cases h
 |eb d ne x y =>
  simp only[wop]at h;split at h
  .rename_i t q B;refine⟨_,h,λs' A u c=>?_⟩;have g:=A.get (x:=x) (by grind[LOp.rds]);have w:=A.get (x:=y) (by grind[LOp.rds]);simp only[wop,g,w,q,B];exact c
  cases h
 |es d ne ks x y =>
  simp only[wop]at h;split at h
  .rename_i t1 t2 q B;split at h
   .rename_i r E;refine⟨_,h,λs' A u c=>?_⟩;have g:=A.get (x:=x) (by grind[LOp.rds]);have w:=A.get (x:=y) (by grind[LOp.rds]);simp only[wop,g,w,q,B,E];exact c
   cases h
  cases h
 |sa d x y =>
  simp only[wop]at h;split at h
  .rename_i t q B;refine⟨_,h.2,λs' A u c=>?_⟩;have g:=A.get (x:=x) (by grind[LOp.rds]);have w:=A.get (x:=y) (by grind[LOp.rds]);simp only[wop,g,w,q,B];exact⟨h.1,c⟩
  cases h
 |cv d k x =>
  simp only[wop]at h;split at h
  .rename_i k' t q;refine⟨_,h,λs' A u c=>?_⟩;have g:=A.get (x:=x) (λt h=>h);simp only[wop,g,q];exact c
  cases h
 |fa d x off =>
  simp only[wop]at h;split at h
  .rename_i k o q;refine⟨_,h.2,λs' A u c=>?_⟩;have g:=A.get (x:=x) (λt h=>h);obtain⟨cs,C⟩:=Option.isSome_iff_exists.1 h.1;simp only[wop,g,q];exact⟨by rw[A.bx _ _ C];rfl,c⟩
  .rename_i e o q;refine⟨_,h,λs' A u c=>?_⟩;have g:=A.get (x:=x) (λt h=>h);simp only[wop,g,q];exact c
  .rename_i e o q;refine⟨_,h,λs' A u c=>?_⟩;have g:=A.get (x:=x) (λt h=>h);simp only[wop,g,q];exact c
  .rename_i k i o q;refine⟨_,h.2,λs' A u c=>?_⟩;have g:=A.get (x:=x) (λt h=>h);obtain⟨r,E⟩:=Option.isSome_iff_exists.1 h.1;simp only[wop,g,q];exact⟨by rw[A.rw _ _ E];rfl,c⟩
  cases h
 |ia d x i n =>
  simp only[wop]at h;split at h
  .rename_i t H es q;split at h
   .rename_i j F;split at h
    .rename_i e he;refine⟨_,h.2,λs' A u c=>?_⟩;have g:=A.get (x:=x) (by grind[LOp.rds]);have w:=A.get (x:=i) (by grind[LOp.rds]);simp only[wop,g,w,q,F,he];exact⟨h.1,c⟩
    cases h
   cases h
  .rename_i k q;split at h
   .rename_i r E;split at h
    .rename_i j F;refine⟨_,h.2,λs' A u c=>?_⟩;have g:=A.get (x:=x) (by grind[LOp.rds]);have w:=A.get (x:=i) (by grind[LOp.rds]);simp only[wop,g,w,q,A.rw _ _ E,F];exact⟨h.1,c⟩
    cases h
   cases h
  cases h
 |ix d x i =>
  simp only[wop]at h;split at h
  .rename_i l q;split at h
   .rename_i j F;split at h
    .rename_i b hb;refine⟨_,h,λs' A u c=>?_⟩;have g:=A.get (x:=x) (by grind[LOp.rds]);have w:=A.get (x:=i) (by grind[LOp.rds]);simp only[wop,g,w,q,F,hb];exact c
    cases h
   cases h
  cases h
 |ld d p n ag =>
  simp only[wop]at h;split at h
  .rename_i v L;refine⟨_,h,λs' A u c=>?_⟩;have g:=A.get (x:=p) (λt h=>h);simp only[wop,g,ld_ag A L];exact c
  cases h
 |bd d z ps =>
  simp only[wop]at h;split at h
  .rename_i cs C;refine⟨_,h.2,λs' A u c=>?_⟩;have g:(ps.map λ(off,n,x)=>(off,n,s'.get x))=ps.map λ(off,n,x)=>(off,n,s.get x):=by apply List.map_congr_left;rintro⟨off,n,x⟩ Q;simp only[Prod.mk.injEq,true_and];exact A.get λt q=>List.mem_flatMap.2 ⟨_,Q,q⟩
   simp only[wop,g,C];exact⟨h.1,c⟩
  cases h
 |bs d H ps S =>
  cases S with
  |true=>simp[isQ1]at hq|false =>
   simp only[wop]at h;split at h
   .rename_i es V;simp only[yG,yc]at h;obtain⟨h1,h2,h3,h4,h5⟩:=h;refine⟨_,h5,λs' A u c=>?_⟩;have g:=A.gets (xs:=ps) (λt h=>h);simp only[wop,g,J1P A.rw _ _ V,yG,yc];exact⟨h1,h2,h3,h4,c⟩
   cases h
 |be d=>exact⟨_,h,λs' A u c=>c⟩|oln d x =>
  simp only[wop]at h;split at h
  .rename_i m ks n q;refine⟨_,h,λs' A u c=>?_⟩;have g:=A.get (x:=x) (by simp[LOp.rds]);simp only[wop,g,q];exact c
  cases h
 |oia d x i n =>
  simp only[wop]at h;split at h
  .rename_i m ks l q;split at h
   .rename_i j F;refine⟨_,h.2,λs' A u c=>?_⟩;have g:=A.get (x:=x) (by grind[LOp.rds]);have w:=A.get (x:=i) (by grind[LOp.rds]);simp only[wop,g,w,q,F];exact⟨h.1,c⟩
   cases h
  cases h
 |ofa d x off =>
  simp only[wop]at h;split at h
  .rename_i m ks o q;refine⟨_,h,λs' A u c=>?_⟩;have g:=A.get (x:=x) (by simp[LOp.rds]);simp only[wop,g,q];exact c
  cases h
 |ae d x y H by' =>
  simp only[wop]at h;split at h
  .rename_i Q;split at h
   .rename_i tt sy Y T;refine⟨_,h.2.2,λs' A u c=>?_⟩;have g:=A.get (x:=x) (by grind[LOp.rds]);have w:=A.get (x:=y) (by grind[LOp.rds]);simp only[wop,g,Q,w,X24 A.rw _ _ T];exact⟨h.1,h.2.1,c⟩
   .rename_i T;refine⟨_,h,λs' A u c=>?_⟩;have g:=A.get (x:=x) (by grind[LOp.rds]);have w:=A.get (x:=y) (by grind[LOp.rds]);simp only[wop,g,Q,w,X24 A.rw _ _ T];exact c
   cases h
  cases h
 |ls d x =>
  simp only[wop]at h;split at h
  .rename_i t q;refine⟨_,h,λs' A u c=>?_⟩;have g:=A.get (x:=x) (λt h=>h);simp only[wop,g,q];exact c
  cases h
 |lq d x =>
  simp only[wop]at h;split at h
  .rename_i t H es q;refine⟨_,h.2,λs' A u c=>?_⟩;have g:=A.get (x:=x) (λt h=>h);simp only[wop,g,q];exact⟨h.1,c⟩
  .rename_i k q;split at h
   .rename_i r E;refine⟨_,h.2,λs' A u c=>?_⟩;have g:=A.get (x:=x) (λt h=>h);simp only[wop,g,q,A.rw _ _ E];exact⟨h.1,c⟩
   cases h
  .rename_i q;refine⟨_,h,λs' A u c=>?_⟩;have g:=A.get (x:=x) (λt h=>h);simp only[wop,g,q];exact c
  cases h
 |sc d x O R n =>
  simp only[wop]at h;split at h
  .rename_i t H es q;split at h
   .rename_i M w;split at h
    .rename_i Z G;refine⟨_,h.2.2,λs' A u c=>?_⟩;have g:=A.get (x:=x) (by grind[LOp.rds]);have J:=Q2u A (o:=R) (λt h=>by simp[LOp.rds,h]) es.length;have I:=X2u A (o:=O) (λt h=>by simp[LOp.rds,h]) M;simp only[wop,g,q,J,I,w,G];exact⟨h.1,h.2.1,c⟩
    cases h
   cases h
  .grind[scOk,U1M,yG]
  .rename_i q;split at h
   .rename_i M w;split at h
    .rename_i Z G;refine⟨_,h,λs' A u c=>?_⟩;have g:=A.get (x:=x) (by grind[LOp.rds]);have J:=Q2u A (o:=R) (λt h=>by simp[LOp.rds,h]) 0;have I:=X2u A (o:=O) (λt h=>by simp[LOp.rds,h]) M;simp only[wop,g,q,J,I,w,G];exact c
    cases h
   cases h
  cases h
 |ss d x O R =>
  simp only[wop]at h;split at h
  .rename_i b q;split at h
   .rename_i M w;split at h
    .rename_i Z G;refine⟨_,h,λs' A u c=>?_⟩;have g:=A.get (x:=x) (by grind[LOp.rds]);have J:=Q2u A (o:=R) (λt h=>by simp[LOp.rds,h]) b.length;have I:=X2u A (o:=O) (λt h=>by simp[LOp.rds,h]) M;simp only[wop,g,q,J,I,w,G];exact c
    cases h
   cases h
  cases h
 |ex d x i =>
  simp only[wop]at h;split at h
  .rename_i vs q;split at h
   .rename_i v L;refine⟨_,h,λs' A u c=>?_⟩;have g:=A.get (x:=x) (λt h=>h);simp only[wop,g,q,L];exact c
   cases h
  cases h
 |fd d x off n ag =>
  simp only[wop]at h;split at h
  .rename_i vs q;split at h
   .rename_i v L;refine⟨_,h,λs' A u c=>?_⟩;have g:=A.get (x:=x) (λt h=>h);simp only[wop,g,q,L];exact c
   cases h
  cases h
 |nc d x =>
  simp only[wop]at h;split at h
  .rename_i k o q;refine⟨_,h.2,λs' A u c=>?_⟩;have g:=A.get (x:=x) (λt h=>h);obtain⟨cs,C⟩:=Option.isSome_iff_exists.1 h.1;simp only[wop,g,q];exact⟨by rw[A.bx _ _ C];rfl,c⟩
  .rename_i f cs q;refine⟨_,h,λs' A u c=>?_⟩;have g:=A.get (x:=x) (λt h=>h);simp only[wop,g,q];exact c
  cases h
 |mm d mx x y =>
  simp only[wop]at h;split at h
  .rename_i k a k' b q B;refine⟨_,h.2,λs' A u c=>?_⟩;have g:=A.get (x:=x) (by grind[LOp.rds]);have w:=A.get (x:=y) (by grind[LOp.rds]);simp only[wop,g,w,q,B];exact⟨h.1,c⟩
  cases h
 |b2s d x =>
  simp only[wop]at h;split at h
  .rename_i t H es q;obtain⟨l,hl,h⟩:=h;refine⟨_,h,λs' A u c=>?_⟩;have g:=A.get (x:=x) (λt h=>h);simp only[wop,g,X24 A.rw _ _ q];exact⟨l,hl,c⟩
  .rename_i q;refine⟨_,h,λs' A u c=>?_⟩;have g:=A.get (x:=x) (λt h=>h);simp only[wop,g,X24 A.rw _ _ q];exact c
  cases h
 |s2b d x =>
  simp only[wop]at h;split at h
  .rename_i l q;refine⟨_,h.2,λs' A u c=>?_⟩;have g:=A.get (x:=x) (λt h=>h);simp only[wop,g,q];exact⟨h.1,c⟩
  cases h
 |mf d f xs =>simp only[wop]at h;refine⟨_,h,λs' A u c=>?_⟩;simp only[wop,A.gets (xs:=xs) (λt h=>h)];exact c|cq d f xs =>simp only[wop]at h;obtain⟨X,N,D,rows,U,h⟩:=h;refine⟨_,h,λs' A u c=>?_⟩;simp only[wop];exact⟨X,W2g A (xs:=xs) (λt h=>h) N,D,rows,U,c⟩|cc d fx xs =>simp only[wop]at h;obtain⟨X,N,f,cap,W,e,hf,D,rows,U,h⟩:=h;refine⟨_,h,λs' A u c=>?_⟩;simp only[wop];exact⟨X,by grind[W2g,LOp.rds],f,cap,W,e,hf,D,rows,U,c⟩|_=>simp[isQ1]at hq
theorem J27{K:St->Prop}{l:LOp}(k:isQ l=true)(f:scOk s l)(h:wop P l K s):∃v,K (s.set l.dst v)/\Yld P l s v:=by
 cases l with
 |g t a o =>
  simp[isQ]at k;simp[wop]at h;have d:scOk s o:=by cases o<;>first|exact f|trivial
  have n:(s.e t=.und\/∃b,s.e t=.bool b/\b≠a)->K (s.set o.dst .und)->∃v,K (s.set (LOp.g t a o).dst v)/\Yld P (.g t a o) s v:=by
   intro c q;refine⟨.und,q,λs' A p i=>?_⟩;have j:=A.e t (by simp[LOp.rds]);rcases c with c|⟨b,c,m⟩
   .simp[wop,j,c];exact i
   simp[wop,j,c,m];exact i
  split at h
  .rename_i b c;split at h
   .rename_i m;obtain⟨v,u,r⟩:=L27 k d h;refine⟨v,u,λs' A p i=>?_⟩;have j:=A.e t (by simp[LOp.rds]);simp[wop,j,c,m];exact r s' (A.sub λt c=>by simp[LOp.rds,c]) p i
   simp_all
  .grind
  cases h
 |_=>exact L27 k f h
end
end
section
def alSt(s:St)(d:Nat)(z:List AV):St:=St.set { s with bx:=λj=>if j=d then some (U7 d z)else s.bx j } d (.ptr d 0)
def Q0q(P:Program):List LOp->List AV->(St->Prop)->St->Prop
 |[],_,K,s=>K s|.al d z::ls,acc,K,s=>(∀v∈acc,v.dead d=v)/\Q0q P ls (.ptr d 0::U7 d z++acc) K (alSt s d z)|l::ls,acc,K,s=>scOk s l/\wop P l (λs'=>Q0q P ls (s'.e l.dst::acc) K s') s
def alKeys:List LOp->List Nat
 |[]=>[]|.al d _::ls=>d::alKeys ls|_::ls=>alKeys ls
def St.kills(s:St):List Nat->St
 |[]=>s|k::ks=>(s.kill k).kills ks
def St.rst(s:St):(Nat->Option Row)×Nat×(Nat->Prop)×(Nat->Prop):=(s.rw,s.nx,s.my,s.kn)
def isAl:LOp->Bool | .al _ _=>true|_=>false
section kill
mutual
theorem X1Q(k:Nat):∀a:AV,(a.dead k).dead k=a.dead k
 |.sref j=>by by_cases h:j=k<;>simp[AV.dead,h]
 |.ptr j o=>by by_cases h:j=k<;>simp[AV.dead,h]
 |.rpt j i o=>by by_cases h:j=k<;>simp[AV.dead,h]
 |.agg cs=>by simp[AV.dead,X0h k cs]
 |.tup cs=>by simp[AV.dead,X0h k cs]
 |.fn f cs=>by simp[AV.dead,X0h k cs]
 |.bool _ | .int _ _ | .str _ | .nl | .el | .sl _ _ _ | .ept _ _ | .eot _ _ | .od _ _ _ | .op _ _ _ | .und | .bad=>rfl
theorem X0h(k:Nat):∀l:List AV,U7 k (U7 k l)=U7 k l
 |[]=>rfl
 |a::l=>by simp[U7,X1Q k a,X0h k l]
end
mutual
theorem V1Q(k i:Nat):∀a:AV,a.dead k=a->(a.dead i).dead k=a.dead i
 |.sref j,h=>by by_cases e:j=i<;>simp_all [AV.dead]
 |.ptr j o,h=>by by_cases e:j=i<;>simp_all [AV.dead]
 |.rpt j i o,h=>by
  simp only[AV.dead]at *
  split
  .rfl
  .simpa[AV.dead]using h
 |.agg cs,h=>by simp only[AV.dead,AV.agg.injEq]at *;exact V0h k i cs h
 |.tup cs,h=>by simp only[AV.dead,AV.tup.injEq]at *;exact V0h k i cs h
 |.fn f cs,h=>by simp only[AV.dead,AV.fn.injEq,true_and]at *;exact V0h k i cs h
 |.bool _,_ | .int _ _,_ | .str _,_ | .nl,_ | .el,_ | .sl _ _ _,_ | .ept _ _,_ | .eot _ _,_ | .od _ _ _,_ | .op _ _ _,_ | .und,_ | .bad,_=>rfl
theorem V0h(k i:Nat):∀l:List AV,U7 k l=l->U7 k (U7 i l)=U7 i l
 |[],_=>rfl
 |a::l,h=>by
  simp only[U7,yW]at *
  exact⟨V1Q k i a h.1,V0h k i l h.2⟩
end
structure Free(k:Nat)(s:St):Prop where
 e:∀t,(s.e t).dead k=s.e t
 bx:s.bx k=none
 rw:s.rw k=none
 bd:∀j cs,s.bx j=some cs->U7 k cs=cs
theorem Free.kill{k i:Nat}{s:St}(F:Free k s):Free k (s.kill i) where
 e:=λt=>V1Q k i _ (F.e t)
 bx:=by simp[St.kill,F.bx]
 rw:=by simp[St.kill,F.rw]
 bd:=λj cs h=>by
  obtain⟨_,c0,a,rfl⟩:=M8 h
  exact V0h k i c0 (F.bd j c0 a)
theorem Free.of_kill{k:Nat}{s:St}:Free k (s.kill k) where
 e:=λt=>X1Q k _
 bx:=by simp[St.kill]
 rw:=by simp[St.kill]
 bd:=λj cs h=>by
  obtain⟨_,c0,a,rfl⟩:=M8 h
  simp[X0h]
theorem Free.kills{k:Nat}:∀{ks:List Nat}{s:St},Free k s->Free k (s.kills ks)
 |[],_,F=>F|_::ks,_,F=>Free.kills (ks:=ks) F.kill
theorem W0Z:∀{ks:List Nat}{s:St}{k:Nat},k∈ks->Free k (s.kills ks)
 |k::ks,s,k',h=>by
  rcases yX h with rfl|h
  .exact Free.kills (ks:=ks) Free.of_kill
  .exact W0Z (ks:=ks) h
variable{c:Cx}{g:Gh}{s:St}{a:Act}{w:World}
theorem Inv.kill(I:Inv c g s a w)(k:Nat):Inv c g (s.kill k) a w:=by
 have T:Turn (·≠k) w w g g s (s.kill k):=by refine⟨λ_ _ h=>h,λ_ h=>h,TLe.of (λ_ h=>h) rfl,λ_ _ _=>rfl,λj q r h=>⟨r,(Xc h).2,rfl,rfl⟩,λj q c' h=>?_,λ_ _ h=>h,Y1E⟩;obtain⟨_,c0,e,_⟩:=M8 h;grind
 refine⟨I.defers,I.nt,I.fr,λi=>(I.tm i).turn_dead T,?_,?_,?_,?_,?_,?_,?_,I.sw,I.nn,I.nx,I.fix,I.sm,I.sb,I.ow.turn rfl (λ_ h=>h) (yV _) (λ_ _=>rfl) (λj n h=>by obtain⟨_,c0,e,_⟩:=M8 h;exact I.ow.bx j c0 e) (λj r h=>I.ow.rw j r (Xc h).2),I.uf,I.sd⟩
 .intro j n h;obtain⟨_,c0,e,rfl⟩:=M8 h;exact U0h T (I.bxs j c0 e)
 .intro j n h;obtain⟨_,c0,e,rfl⟩:=M8 h;exact I.bxn j c0 e
 .intro j r h;exact I.rws j r (Xc h).2
 .intro j r h;exact I.rwn j r (Xc h).2
 .intro j f u v m l b;obtain⟨_,p,d,_⟩:=M8 m;obtain⟨_,t,o,_⟩:=M8 l;exact I.dbb j f p t d o b
 .intro j f u r m l;obtain⟨_,p,d,_⟩:=M8 m;exact I.dbr j f p r d (Xc l).2
 intro j f r r' m l b;exact I.drr j f r r' (Xc m).2 (Xc l).2 b
theorem Inv.kills:∀(ks:List Nat){s:St},Inv c g s a w->Inv c g (s.kills ks) a w
 |[],_,I=>I|k::ks,_,I=>Inv.kills ks (I.kill k)
end kill
section
variable{P:Program}
inductive Tr(P:Program):List LOp->List AV->St->St->Prop
 |nil (acc:List AV) (s:St):Tr P [] acc s s
 |al {d:Nat} {z:List AV} {ls:List LOp} {acc:List AV} {s sm:St} (h1:∀v∈acc,v.dead d=v) (h:Tr P ls (.ptr d 0::U7 d z++acc) (alSt s d z) sm):Tr P (.al d z::ls) acc s sm
 |q {l:LOp} {ls:List LOp} {acc:List AV} {s sm:St} {v:AV} (ha:isAl l=false) (h1:Yld P l s v) (h:Tr P ls (v::acc) (s.set l.dst v) sm):Tr P (l::ls) acc s sm
def isQA(l:LOp):Bool:=isAl l||isQ l
theorem Q2q{K:St->Prop}:∀{b:List LOp}{acc:List AV}{s:St},b.all isQA=true->Q0q P b acc K s->∃a,Tr P b acc s a/\K a
 |[],acc,s,_,h=>⟨s,.nil acc s,h⟩|l::b,acc,s,hq,h=>by
  simp only[List.all_cons,yD]at hq;have c:isAl l=false->scOk s l/\wop P l (λs'=>Q0q P b (s'.e l.dst::acc) K s') s->∃a,Tr P (l::b) acc s a/\K a:=by
   rintro k ⟨o,n⟩;have i:isQ l=true:=by simpa[isQA,k]using hq.1
   obtain⟨v,j,m⟩:=J27 i o n;rw[W0I]at j;obtain⟨a,g,f⟩:=Q2q hq.2 j;exact⟨a,.q k m g,f⟩
  cases l with|al d z =>simp[Q0q]at h;obtain⟨a,g,f⟩:=Q2q hq.2 h.2;exact⟨a,.al h.1 g,f⟩|_=>exact c rfl h
theorem X1S{c:List LOp}{acc:List AV}{s a:St}(h:Tr P c acc s a):(∀t,t∉c.map LOp.dst->a.e t=s.e t/\a.bx t=s.bx t)/\a.rst=s.rst/\∀k,(∀l∈c,isAl l=true->l.dst≠k)->a.bx k=s.bx k:=by
 induction h with
 |nil acc s=>simp|al n h b =>
  rename_i d z c acc s a;refine⟨λt f=>?_,b.2.1,λk g=>?_⟩
  .simp only[List.map_cons,List.mem_cons,not_or]at f;have q:=b.1 t f.2;have m:t≠d:=f.1;rw[q.1,q.2];simp_all[alSt,St.set,upd]
  rw[b.2.2 k λl j i=>g l (by simp[j]) i];have m:k≠d:=λe=>g (.al d z) (by simp) rfl e.symm;grind[alSt,St.set]
 |q i n h b =>
  rename_i l c acc s a v;refine⟨λt f=>?_,b.2.1,λk g=>?_⟩
  .simp_all[List.map_cons,List.mem_cons,not_or,St.set,upd]
  rw[b.2.2 k λl j i=>g l (by simp[j]) i];rfl
open Classical in
noncomputable def mix(ls:List LOp)(L:Nat->Prop)(s0 sm:St):St where
 e:=λt=>if ∃(j:Nat) (l:LOp),ls[j]?=some l/\L j/\l.dst=t then sm.e t else s0.e t
 bx:=λk=>if ∃(j:Nat) (l:LOp),ls[j]?=some l/\L j/\isAl l=true/\l.dst=k then sm.bx k else s0.bx k
 rw:=s0.rw
 nx:=s0.nx
 my:=s0.my
 kn:=s0.kn
theorem Ls{s s':St}(d:∀t,s.e t=s'.e t)(c:∀t,s.bx t=s'.bx t)(a:s.rst=s'.rst):s=s':=by obtain⟨e,b,r,n,m,kk⟩:=s;obtain⟨j,k,r',n',g,f⟩:=s';simp[St.rst,Prod.mk.injEq]at d c a;obtain⟨rfl,rfl,rfl,rfl⟩:=a;have i:=funext d;have h:=funext c;grind
def Fct(P:Program)(ls:List LOp)(s0 sm:St)(i:Nat)(l:LOp):Prop :=
 (isAl l=false->Yld P l (mix ls (·<i) s0 sm) (sm.e l.dst)) /\
 (∀d z,l=.al d z->sm.e d=.ptr d 0/\sm.bx d=some (U7 d z) /\
  ∀(j:Nat) (l':LOp),ls[j]?=some l'->j<i->(sm.e l'.dst).dead d=sm.e l'.dst/\(isAl l'=true->∀cs,sm.bx l'.dst=some cs->U7 d cs=cs))
theorem Q2x{D:List LOp}{K k:St}(N:(D.map LOp.dst).Nodup):∀(g a:List LOp)(acc:List AV)(s:St),D=a++g->Tr P g acc s k -> s=mix D (·<a.length) K k->(∀(j:Nat)(c:LOp),D[j]?=some c->j<a.length->k.e c.dst∈acc/\(isAl c=true->∀cs,k.bx c.dst=some cs->∀x∈cs,x∈acc)) -> ∀(i:Nat)(l:LOp),g[i]?=some l->Fct P D K k (a.length+i) l:=by
 intro g;induction g with
 |nil=>simp|cons x g T =>
  intro a acc s w M U r i l H;have G:D[a.length]?=some x:=by rw[w];simp
  have J:x.dst∉g.map LOp.dst:=by rw[w]at N;simp only[List.map_append,List.map_cons,List.nodup_append,List.nodup_cons]at N;exact N.2.1.1
  have V:(a++[x]).length=a.length+1:=by simp
  have n:∀(s':St),(∀t,s'.e t=if t=x.dst then k.e t else s.e t)->(∀t,s'.bx t=if t=x.dst/\isAl x=true then k.bx t else s.bx t)->s'.rst=s.rst -> s'=mix D (·<(a++[x]).length) K k:=by
   intro s' I X W;subst U;refine Ls (λt=>?_) (λt=>?_) W
   .rw[I t];simp only[mix];by_cases b:t=x.dst
    .rw[yd b,yd ⟨a.length,x,G,by omega,b.symm⟩]
    rw[ye b];congr 1;apply propext;constructor
    .rintro⟨j,c,m,L,u⟩;exact⟨j,c,m,by omega,u⟩
    rintro⟨j,c,m,L,u⟩;refine⟨j,c,m,?_,u⟩;rcases Nat.lt_or_ge j a.length with h|h
    .exact h
    have:j=a.length:=by omega
    subst this;rw[G]at m;cases m;exact absurd u.symm b
   rw[X t];simp only[mix];by_cases b:t=x.dst/\isAl x=true
   .rw[yd b,yd ⟨a.length,x,G,by omega,b.2,b.1.symm⟩]
   rw[ye b];congr 1;apply propext;constructor
   .rintro⟨j,c,m,L,u⟩;exact⟨j,c,m,by omega,u⟩
   rintro⟨j,c,m,L,u,S⟩;refine⟨j,c,m,?_,u,S⟩;rcases Nat.lt_or_ge j a.length with h|h
   .exact h
   have:j=a.length:=by omega
   subst this;rw[G]at m;cases m;exact absurd ⟨S.symm,u⟩ b
  cases M with
  |al I h =>
   rename_i d z;have O:=X1S h;have A:=O.1 d J;have F:k.e d=.ptr d 0:=by rw[A.1];simp[alSt,St.set,upd]
   have R:k.bx d=some (U7 d z):=by rw[A.2];simp[alSt,St.set]
   cases i with
   |zero =>
    simp at H;subst H;refine⟨by simp[isAl],λY z' Q=>?_⟩;cases Q;refine⟨F,R,λj c B o=>?_⟩;have:=r j c B o;refine⟨I _ this.1,λC cs f=>?_⟩;rw[Yd];conv=>rhs;rw[← List.map_id cs]
    exact List.map_congr_left λy E=>I y (this.2 C cs f y E)
   |succ i =>
    have:=T (a++[.al d z]) _ _ (by rw[w];simp) h (n (alSt s d z) (λt=>?_) (λt=>?_) rfl) (λj c B o=>?_) i l (by simpa using H)
    .simpa[Nat.add_assoc,Nat.add_comm 1 i]using this
    .simp only[alSt,St.set,upd,LOp.dst];by_cases b:t=d
     .subst b;simp[F]
     simp[b]
    .simp only[alSt,St.set,LOp.dst,isAl,and_true];by_cases b:t=d
     .subst b;simp[R]
     simp[b]
    simp only[yU,List.length_singleton]at o;rcases Nat.lt_or_ge j a.length with p|p
    .have:=r j c B p;exact⟨by simp[this.1],λC cs f y E=>by have:=this.2 C cs f y E;simp[this]⟩
    have:j=a.length:=by omega
    subst this;rw[G]at B;cases B;refine⟨by simp[LOp.dst,F],λ_ cs f y E=>?_⟩;simp only[LOp.dst,R,yI]at f;subst f;simp[E]
  |q C I h =>
   rename_i v;have O:=X1S h;have A:=O.1 x.dst J;have F:k.e x.dst=v:=by rw[A.1];simp[St.set,upd]
   cases i with
   |zero =>simp at H;subst H;refine⟨λ_=>?_,λd z Q=>(by subst Q;simp[isAl]at C)⟩;rw[F];have:mix D (·<a.length+0) K k=s:=U.symm;rw[this];exact I|succ i =>
    have:=T (a++[x]) _ _ (by rw[w];simp) h (n (s.set x.dst v) (λt=>?_) (λt=>?_) rfl) (λj c B o=>?_) i l (by simpa using H)
    .simpa[Nat.add_assoc,Nat.add_comm 1 i]using this
    .simp only[St.set,upd];by_cases b:t=x.dst
     .simp[b,F]
     simp[b]
    .simp[St.set,C]
    simp only[yU,List.length_singleton]at o;rcases Nat.lt_or_ge j a.length with p|p
    .have:=r j c B p;exact⟨by simp[this.1],λC cs f y E=>by have:=this.2 C cs f y E;simp[this]⟩
    have:j=a.length:=by omega
    subst this;rw[G]at B;cases B;exact⟨by simp[F],λh=>by rw[C]at h;cases h⟩
end
end
section
def Z2u(acc:List Nat)(m:Nat)(e:Edge):Nat:=if Region.binds .any e then m ||| (1 <<< e.on) ||| acc.getD e.on 0 else m
def V1x(o:Oper)(acc:List Nat):Nat:=o.after.toList.foldl (Z2u acc) 0
def Z0d:List Oper->List Nat->List Nat
 |[],acc=>acc|o::os,acc=>Z0d os (acc++[V1x o acc])
def Clo(ops:Array Oper)(L:Nat->Prop):Prop:=∀(i:Nat) (o:Oper),ops[i]?=some o->L i->∀e∈o.after,Region.binds .any e=true->L e.on
theorem Y1N{acc:List Nat}{j:Nat}:∀(l:List Edge)(m:Nat),(l.foldl (Z2u acc) m).testBit j=true->m.testBit j=true\/∃e∈l,Region.binds .any e=true/\(j=e.on\/(acc.getD e.on 0).testBit j=true)
 |[],m,h=>.inl h|e::l,m,h=>by
  rcases Y1N l _ h with h|⟨f,d,c,b⟩
  .unfold Z2u at h;split at h
   .rename_i a;simp only[Nat.testBit_or,Bool.or_eq_true]at h;rcases h with(h|h)|h
    .exact .inl h
    .refine .inr ⟨e,by simp,a,.inl ?_⟩;rw[Nat.one_shiftLeft,Nat.testBit_two_pow]at h;exact(by simpa using h:e.on=j).symm
    .exact .inr ⟨e,by simp,a,.inr h⟩
   .exact .inl h
  .exact .inr ⟨f,by simp[d],c,b⟩
def J20(ops:Array Oper)(i m:Nat):Prop :=∀(L:Nat->Prop),Clo ops L->(∀o,ops[i]?=some o->∀e∈o.after,Region.binds .any e=true->L e.on)->∀j,m.testBit j=true->L j
theorem J1C{a:Array Oper}:∀(b:List Oper)(acc:List Nat),(∀k,b[k]?=a[acc.length+k]?)->(∀i,i<acc.length->J20 a i (acc.getD i 0)) -> ∀i,i<acc.length+b.length->J20 a i ((Z0d b acc).getD i 0)
 |[],acc,_,h,i,d=>h i (by simpa using d)|o::b,acc,ho,h,i,d=>by
  simp[Z0d];refine J1C b (acc++[V1x o acc]) (λk=>?_) (λi d=>?_) i (by simp at d ⊢;omega)
  .have:=ho (k+1);simpa[Nat.add_assoc,Nat.add_comm 1 k]using this
  .by_cases c:i<acc.length
   .have:(acc++[V1x o acc]).getD i 0=acc.getD i 0:=by simp[List.getD_eq_getElem?_getD,yK c]
    rw[this];exact h i c
   .have p:i=acc.length:=by simp at d;omega
    subst p;have:(acc++[V1x o acc]).getD acc.length 0=V1x o acc:=by simp[List.getD_eq_getElem?_getD]
    rw[this];intro L t u j l;have m:a[acc.length]?=some o:=by simpa using(ho 0).symm
    unfold V1x at l;rcases Y1N _ _ l with l|⟨e,w,v,g⟩
    .simp at l
    .have f:=u o m e (by simpa using w) v;rcases g with rfl|g
     .exact f
     .by_cases q:e.on<acc.length
      .exact h e.on q L t (λo' n x r s=>t e.on o' n f x r s) j g
      .rw[List.getD_eq_getElem?_getD,List.getElem?_eq_none (by omega)]at g;simp at g
def U0a:List Nat->Bool
 |[]=>true|x::l=>!l.contains x&&U0a l
theorem Lx:∀{l:List Nat},U0a l=true->l.Nodup
 |[],_=>.nil|x::l,h=>by simp[U0a,List.contains_eq_mem,decide_eq_false_iff_not]at h;exact List.nodup_cons.2 ⟨h.1,Lx h.2⟩
def L1B(l:LOp)(mask:Nat):List LOp->Nat->Bool
 |[],_=>true|l'::ls,j=>(!l.rds.contains l'.dst||mask.testBit j)&&L1B l mask ls (j+1)
theorem O1w{l:LOp}{a:Nat}:∀{c:List LOp}{k:Nat},L1B l a c k=true->∀(j:Nat)(b:LOp),c[j]?=some b->b.dst∈l.rds->a.testBit (k+j)=true
 |[],_,_,j,b,h,_=>by simp at h|x::c,k,h,j,b,hj,hm=>by simp[L1B,Bool.or_eq_true,List.contains_eq_mem,decide_eq_false_iff_not]at h;cases j with|zero=>simp at hj;subst hj;exact h.1.resolve_left (λd=>d hm)|succ j=>have:=O1w h.2 j b (by simpa using hj) hm;rwa [show k+(j+1)=k+1+j by omega]
def L0Z(mask:Nat):Nat->Bool
 |0=>true|n+1=>mask.testBit n&&L0Z mask n
theorem M0Z{a:Nat}:∀{n:Nat},L0Z a n=true->∀j,j<n->a.testBit j=true
 |0,_,j,h=>by omega|n+1,h,j,hj=>by
  simp[L0Z]at h;by_cases e:j=n
  .subst e;exact h.1
  .exact M0Z h.2 j (by omega)
def L20(mask i:Nat):List LOp->Nat->Bool
 |[],_=>true|l'::ls,j=>(!isAl l'||!decide (j<i)||mask.testBit j)&&L20 mask i ls (j+1)
theorem U1R{a i:Nat}:∀{c:List LOp}{k:Nat},L20 a i c k=true->∀(j:Nat)(b:LOp),c[j]?=some b->isAl b=true->k+j<i->a.testBit (k+j)=true
 |[],_,_,j,b,h,_,_=>by simp at h|x::c,k,h,j,b,hj,hm,hlt=>by
  simp only[L20,yD,Bool.or_eq_true,Bool.not_eq_true',decide_eq_false_iff_not]at h;cases j with
  |zero =>
   simp at hj;subst hj;rcases h.1 with(h|h)|h
   .rw[hm]at h;cases h
   .exact absurd (by simpa using hlt) h
   .exact h
  |succ j=>have:=U1R h.2 j b (by simpa using hj) hm (by omega);rwa [show k+(j+1)=k+1+j by omega]
def Q0Q(P:Program)(nt:Nat)(ops:Array Oper)(q:List LOp)(m i mask:Nat)(l:LOp)(o:Oper):Bool :=
 chk1 P nt ops l o&&(o.after.toList.all λe=>!Region.binds .any e||decide (e.on<i)) &&
  (if i<m then isQA l&&L1B l mask q 0&&L20 mask i q 0 else L0Z mask i)
def Q1U(P:Program)(nt:Nat)(ops:Array Oper)(q:List LOp)(m:Nat):Nat->List LOp->List Oper->List Nat->Bool
 |_,[],[],_=>true|i,l::ls,o::os,mk::mks=>Q0Q P nt ops q m i mk l o&&Q1U P nt ops q m (i+1) ls os mks|_,_,_,_=>false
theorem W20{P:Program}{g:Nat}{b:Array Oper}{q:List LOp}{m:Nat}:∀{d:List LOp}{c:List Oper}{a:List Nat}{k:Nat},Q1U P g b q m k d c a=true -> d.length=c.length/\∀(i:Nat)(l:LOp)(o:Oper),d[i]?=some l->c[i]?=some o->Q0Q P g b q m (k+i) (a.getD i 0) l o=true
 |[],[],_,_,_=>(by simp)|l::d,o::c,mk::a,k,h=>by simp[Q1U]at h;obtain⟨n,j⟩:=W20 h.2;refine⟨by simp[n],λi p o' f e=>?_⟩;cases i with|zero=>simp at f e;subst f;subst e;exact h.1|succ i =>have:=j i p o' (by simpa using f) (by simpa using e);rw[show k+(i+1)=k+1+i by omega];simpa[List.getD_eq_getElem?_getD]using this
 |[],_::_,_,_,h=>by simp[Q1U]at h|_::_,[],_,_,h=>by simp[Q1U]at h|_::_,_::_,[],_,h=>by simp[Q1U]at h
def chkQ(P:Program)(nt:Nat)(ops:Array Oper)(ls:List LOp)(m:Nat):Bool :=decide (m<=ls.length)&&U0a ((ls.take m).map LOp.dst)&&Q1U P nt ops (ls.take m) m 0 ls ops.toList (Z0d ops.toList [])
section
variable{P:Program}{c:Cx}{ops:Array Oper}{ls:List LOp}{m:Nat}{K:St->Prop}{Q':Exit->Act->World->Prop}
def Lst(listed:Array Bool):Nat->Prop:=λj=>listed.getD j false=true
theorem unl{listed:Array Bool}{j:Nat}(h:j<listed.size):listed.getD j true=false↔¬ Lst listed j:=by grind[Lst,Array.getD_eq_getD_getElem?,Array.getElem?_eq_getElem]
theorem Z1D{listed:Array Bool}{i j:Nat}(h:i<listed.size):Lst (listed.setIfInBounds i true) j↔Lst listed j\/j=i:=by simp[Lst,Array.getD_eq_getD_getElem?,Array.getElem?_setIfInBounds];grind
theorem Uj{listed:Array Bool}{i n:Nat}(h:i<listed.size)(c:¬ Lst listed i)(d:listed.toList.count false<=n+1):(listed.setIfInBounds i true).toList.count false<=n:=by
 rw[Array.toList_setIfInBounds,List.count_set (by simpa using h)];have a:listed.toList[i]'(by simpa using h)=false:=by simp_all[Lst,Array.getD_eq_getD_getElem?]
 have b:(true==false)=false:=rfl;simp only[a,beq_self_eq_true,yb,b,yG,yc];omega
theorem Y0Q{listed:Array Bool}{i:Nat}(h:i<listed.size)(b:¬ Lst listed i):0<listed.toList.count false:=by
 rw[List.count_pos_iff];have a:listed[i]=false:=by simp_all[Lst,Array.getD_eq_getD_getElem?]
 rw[← a];simp
structure Ok(P:Program)(nt:Nat)(ops:Array Oper)(ls:List LOp)(m:Nat):Prop where
 len:ls.length=ops.size
 mle:m<=ls.length
 nd:((ls.take m).map LOp.dst).Nodup
 one:∀(i:Nat) (l:LOp) (o:Oper),ls[i]?=some l->ops[i]?=some o->chk1 P nt ops l o=true
 edge:∀(i:Nat) (o:Oper),ops[i]?=some o->∀e∈o.after,Region.binds .any e=true->e.on<i
 qa:(ls.take m).all isQA=true
 rd:∀(i:Nat) (l:LOp) (o:Oper) (L:Nat->Prop),i<m->ls[i]?=some l->ops[i]?=some o->Clo ops L->(∀e∈o.after,Region.binds .any e=true->L e.on) ->
  ∀(j:Nat) (l':LOp),(ls.take m)[j]?=some l'->l'.dst∈l.rds->L j/\j<i
 al:∀(i:Nat) (l:LOp) (o:Oper) (L:Nat->Prop),i<m->ls[i]?=some l->ops[i]?=some o->Clo ops L->(∀e∈o.after,Region.binds .any e=true->L e.on) ->
  ∀(j:Nat) (l':LOp),(ls.take m)[j]?=some l'->isAl l'=true->j<i->L j
 tl:∀(i:Nat) (o:Oper) (L:Nat->Prop),m<=i->ops[i]?=some o->Clo ops L->(∀e∈o.after,Region.binds .any e=true->L e.on)->∀j,j<i->L j
theorem W2v{x:Nat}(h:chkQ P x ops ls m=true):Ok P x ops ls m:=by
 simp only[chkQ,yD,yO]at h;obtain⟨⟨K,J⟩,I⟩:=h;obtain⟨D,N⟩:=W20 I;have t:ls.length=ops.size:=by simpa using D
 have y:∀i,i<ops.size->J20 ops i ((Z0d ops.toList []).getD i 0):=λi n=>J1C ops.toList [] (by simp) (by simp) i (by simpa using n);have c:∀{i:Nat} {o:Oper},ops[i]?=some o->i<ops.size:=by grind
 have g:∀(i:Nat) (o:Oper),ops[i]?=some o->∃l,ls[i]?=some l/\Q0Q P x ops (ls.take m) m i ((Z0d ops.toList []).getD i 0) l o=true:=by simp_all
 have k:∀(i:Nat) (o:Oper),ops[i]?=some o->∀e∈o.after,Region.binds .any e=true->e.on<i:=λi o f e v q=>by obtain⟨l,_,b⟩:=g i o f;simp only[Q0Q,yD,List.all_eq_true]at b;have:=b.1.2 e (by simpa using v);simpa[q]using this
 refine⟨t,K,Lx J,λi l o r f=>?_,k,?_,λi l o L n r f w v j p u F=>?_,λi l o L n r f w v j p u H G=>?_,λi o L n f w v j u=>?_⟩
 .obtain⟨p,a,b⟩:=g i o f;rw[r]at a;cases a;simp only[Q0Q,yD]at b;exact b.1.1
 .rw[List.all_eq_true];intro l r;obtain⟨i,n,rfl⟩:=List.getElem_of_mem r;have s:i<m:=by simp at n;omega
  have z:i<ls.length:=by simp at n;omega
  obtain⟨p,a,b⟩:=g i ops[i] (by simp);rw[yA z]at a;cases a;simp only[Q0Q,yD,s,yb]at b;rw[List.getElem_take];exact b.2.1.1
 .obtain⟨p,a,b⟩:=g i o f;rw[r]at a;cases a;simp only[Q0Q,yD,n,yb]at b;have q:=O1w b.2.1.2 j p u F;rw[Nat.zero_add]at q;have C:=y i (c f);refine⟨C L w (λo' d=>by rw[f]at d;cases d;exact v) j q,?_⟩;exact C (·<i) (λE o' d s M A B=>Nat.lt_trans (k E o' d M A B) s) (λo' d=>by rw[f]at d;cases d;exact k i o f) j q
 .obtain⟨p,a,b⟩:=g i o f;rw[r]at a;cases a;simp only[Q0Q,yD,n,yb]at b;have q:=U1R b.2.2 j p u H (by omega);rw[Nat.zero_add]at q;exact y i (c f) L w (by grind) j q
 obtain⟨p,a,b⟩:=g i o f;simp only[Q0Q,yD,Nat.not_lt.2 n,yc]at b;exact y i (c f) L w (by grind) j (M0Z b.2 j u)
theorem XX{listed:Array Bool}(f:listed.size=ops.size){j:Nat}(h:j∈Region.ready .any ops listed) : j<ops.size/\¬ Lst listed j/\∃o,ops[j]?=some o/\∀e∈o.after,Region.binds .any e=true->Lst listed e.on:=by obtain⟨d,o,b,c⟩:=mem_ready.1 h;have a:=(Array.getElem?_eq_some_iff.1 b).1;exact⟨a,(unl (by omega)).1 d,o,b,c⟩
theorem W0N{listed:Array Bool}(c:listed.size=ops.size){j:Nat}{o:Oper}(d:¬ Lst listed j)(b:ops[j]?=some o)(a:∀e∈o.after,Region.binds .any e=true->Lst listed e.on) : j∈Region.ready .any ops listed :=mem_ready.2 ⟨(by grind[unl,Array.getElem?_eq_some_iff]),o,b,a⟩
theorem W0h{i:Nat}{o:Oper}(c:ops[i]?=some o){b:Act->World->Prop}{a:Act}{w:World}(h:if Region.wanted o (yielded ops a.tmps)then o.wp P a w b Q' else b (a.put o.dst undef) w):wpOp P ops Q' i b a w:=by unfold wpOp;grind
theorem J2E(H:Ok P c.nt ops ls m)(M:∀g' s' v w',Inv c g' s' v w'->K s'->Q' .normal v w'):∀(b i:Nat)(listed:Array Bool)(g:Gh)(s:St)(a:Act)(w:World), listed.size=ops.size->m<=i->(∀j,Lst listed j↔j<i/\j<ops.size)->listed.toList.count false<=b->Inv c g s a w->wops P (ls.drop i) K s->wpAny P .any ops Q' b listed a w:=by
 intro b;induction b with
 |zero =>
  intro i listed g s a w o R d L I h;have f:ops.size<=i:=by
   rcases Nat.lt_or_ge i ops.size with f|f
   .have:=Y0Q (listed:=listed) (i:=i) (by omega) (λh=>by have:=((d i).1 h).1;omega);omega
   exact f
  have l:Region.ready .any ops listed=[]:=by cases l:Region.ready .any ops listed with|nil=>rfl|cons j _ =>obtain⟨G,F,_⟩:=XX o (j:=j) (by rw[l];simp);exact absurd ((d j).2 ⟨by omega,G⟩) F
  rw[List.drop_eq_nil_of_le (by rw[H.len];exact f)]at h;exact⟨l,M _ _ _ _ I h⟩
 |succ b Q =>
  intro i listed g s a w o R d L I h;rcases Nat.lt_or_ge i ops.size with f|f
  .have D:i<ls.length:=by rw[H.len];exact f
   have u:=Array.getElem?_eq_getElem f;have k:¬ Lst listed i:=λh=>by have:=((d i).1 h).1;omega
   have r:Clo ops (Lst listed):=λx o' n E J q t=>(d J.on).2 ⟨by have:=H.edge x o' n J q t;have:=((d x).1 E).1;omega,by have:=H.edge x o' n J q t;have:=(Array.getElem?_eq_some_iff.1 n).1;omega⟩;have p:=W0N o k u (λe T U=>by have:=H.edge i _ u e T U;exact(d e.on).2 ⟨this,by omega⟩);refine⟨λV=>(by rw[V]at p;cases p),λj S=>?_⟩;obtain⟨C,B,N,y,A⟩:=XX o S;have z:j=i:=by
    rcases Nat.lt_trichotomy j i with h|h|h
    .exact absurd ((d j).2 ⟨h,C⟩) B
    .exact h
    exact absurd (H.tl j N (Lst listed) (by omega) y r A i h) k
   subst z;apply W0h u;rw[← List.getElem_cons_drop D]at h;simp[wops]at h;refine Mx (λg' s' v w' X W=>?_) (H.one j _ _ (by simp) u) I h;refine Q (j+1) _ g' s' v w' (by simpa using o) (by omega) (λO=>?_) (Uj (by omega) k L) X W;rw[Z1D (by omega),d O];omega
  have l:Region.ready .any ops listed=[]:=by cases l:Region.ready .any ops listed with|nil=>rfl|cons j _ =>obtain⟨G,F,_⟩:=XX o (j:=j) (by rw[l];simp);exact absurd ((d j).2 ⟨by omega,G⟩) F
  rw[List.drop_eq_nil_of_le (by rw[H.len];exact f)]at h;exact wpAny_done l (M _ _ _ _ I h) _
theorem J0Z:∀{q:List LOp}{l:LOp},l∈q->isAl l=true->l.dst∈alKeys q
 |x::q,l,h,ha=>by
  rcases yX h with rfl|h
  .cases l<;>simp[isAl]at ha;simp[alKeys,LOp.dst]
  .have:=J0Z h ha;cases x<;>simp[alKeys,this]
variable{s0 sm:St}
theorem W2x(H:Ok P c.nt ops ls m)(F:∀k,k∈alKeys (ls.take m)->Free k s0)(T:∀(i:Nat)(l:LOp),(ls.take m)[i]?=some l->Fct P (ls.take m) s0 sm i l){L:Nat->Prop}(B:Clo ops L)(I:∀j,L j->j<m){i:Nat}{l:LOp}{o:Oper}(G:i<m)(D:ls[i]?=some l)(O:ops[i]?=some o)(M:¬ L i)(A:∀e∈o.after,Region.binds .any e=true->L e.on):wop P l (λs'=>s'=mix (ls.take m) (λj=>L j\/j=i) s0 sm) (mix (ls.take m) L s0 sm):=by
 have g:(ls.take m)[i]?=some l:=by rw[List.getElem?_take];simp[G,D]
 obtain⟨X,W⟩:=T i l g;have K:∀(j:Nat) (a:LOp),(ls.take m)[j]?=some a->a.dst=l.dst->j=i/\a=l:=λj a f e=>by
  have w:=(yB f).1;have y:=(yB g).1;have R:=(yB f).2;have Q:=(yB g).2;have n:j=i:=by
   have N:=List.pairwise_iff_getElem.1 H.nd;rcases Nat.lt_trichotomy j i with h|h|h
   .exact absurd (by rw[List.getElem_map,List.getElem_map,R,Q,e]) (N j i (by simpa using w) (by simpa using y) h)
   .exact h
   exact absurd (by rw[List.getElem_map,List.getElem_map,R,Q,e]) (N i j (by simpa using y) (by simpa using w) h)
  subst n;rw[g]at f;cases f;exact⟨rfl,rfl⟩
 have x:∀(j:Nat) (a:LOp),isAl l=true->(ls.take m)[j]?=some a->L j->j<i:=λj a v f p=>by
  rcases Nat.lt_trichotomy j i with h|h|h
  .exact h
  .subst h;exact absurd p M
  have E:=I j p;have w:j<ops.size:=by have:=(yB f).1;have:=H.len;simp at *;omega
  have C:ls[j]?=some a:=by rw[List.getElem?_take]at f;grind
  exact absurd (H.al j a ops[j] L E C (by simp) B (λe A S=>B j _ (by simp) p e A S) i l g v h) M
 cases hal:isAl l with
 |false =>
  refine X hal (mix (ls.take m) L s0 sm) ⟨λt s=>?_,λk cs r=>?_,λ_ _ h=>h⟩ _ ?_
  .simp only[mix];by_cases b:∃(j:Nat) (a:LOp),(ls.take m)[j]?=some a/\a.dst=t
   .obtain⟨j,a,f,u⟩:=b;have q:=H.rd i l o L G D O B A j a f (by rw[u];exact s);rw[yd (by grind),yd (by grind)]
   grind
  .simp only[mix]at r ⊢;by_cases b:∃(j:Nat) (a:LOp),(ls.take m)[j]?=some a/\j<i/\isAl a=true/\a.dst=k
   .rw[yd b]at r;obtain⟨j,a,f,n,v,u⟩:=b;rw[yd ⟨j,a,f,H.al i l o L G D O B A j a f v n,v,u⟩];exact r
   rw[ye b]at r;rw[ye ?_]
   .exact r
   rintro⟨j,a,f,_,v,u⟩;have:=(F k (by rw[← u];exact J0Z (yE f) v)).bx;rw[this]at r;cases r
  refine Ls (λt=>?_) (λk=>?_) rfl
  .simp only[mix,St.set,upd];by_cases s:t=l.dst
   .rw[yd s,yd ⟨i,l,g,.inr rfl,s.symm⟩,s]
   rw[ye s];congr 1;grind
  simp only[mix,St.set];congr 1;grind
 |true =>
  cases l with
  |al d z =>
   obtain⟨V,U,Y⟩:=W d z rfl;have J:=F d (J0Z (l:=.al d z) (by grind) rfl);simp only[wop];refine Ls (λt=>?_) (λk=>?_) ?_
   .simp only[mix,St.set,upd,St.kill];by_cases s:t=d
    .rw[yd s,yd ⟨i,_,g,.inr rfl,s.symm⟩,s,V]
    rw[ye s];by_cases b:∃(j:Nat) (a:LOp),(ls.take m)[j]?=some a/\L j/\a.dst=t
    .rw[yd b];obtain⟨j,a,f,p,u⟩:=b;rw[yd (by grind),← u];grind
    rw[ye b,ye ?_]
    .exact J.e t
    rintro⟨j,a,f,p|n,u⟩
    .grind
    subst n;rw[g]at f;cases f;exact s u.symm
   .simp only[mix,St.set,St.kill];by_cases r:k=d
    .rw[yd r,yd ⟨i,_,g,.inr rfl,rfl,r.symm⟩,r,U]
    rw[ye r,ye r];by_cases b:∃(j:Nat) (a:LOp),(ls.take m)[j]?=some a/\L j/\isAl a=true/\a.dst=k
    .rw[yd b];obtain⟨j,a,f,p,v,u⟩:=b;rw[yd (by grind)];cases hcs:sm.bx k with|none=>rfl|some cs =>grind
    rw[ye b,ye ?_]
    .cases hcs:s0.bx k with|none=>rfl|some cs=>simp only[Option.map_some,yI];exact J.bd k cs hcs
    rintro⟨j,a,f,p|n,v,u⟩
    .grind
    subst n;rw[g]at f;cases f;exact r u.symm
   simp only[St.rst,mix,St.set,St.kill,Prod.mk.injEq];refine⟨?_,trivial⟩;funext j;split
   .rename_i f;rw[f];exact J.rw.symm
   rfl
  |_=>simp[isAl]at hal
theorem any_q(H:Ok P c.nt ops ls m)(hK:∀g' s' T w',Inv c g' s' T w'->K s'->Q' .normal T w')(F:∀k,k∈alKeys (ls.take m)->Free k s0)(hF:∀(i:Nat)(l:LOp),(ls.take m)[i]?=some l->Fct P (ls.take m) s0 sm i l)(W:mix (ls.take m) (λ_=>True) s0 sm=sm)(hT:wops P (ls.drop m) K sm) : ∀(d:Nat)(listed:Array Bool)(g:Gh)(a:Act)(w:World),listed.size=ops.size->Clo ops (Lst listed)->(∀j,Lst listed j->j<m)->listed.toList.count false<=d -> Inv c g (mix (ls.take m) (Lst listed) s0 sm) a w->wpAny P .any ops Q' d listed a w:=by
 have hmo:m<=ops.size:=by rw[← H.len];exact H.mle
 have x:∀(listed:Array Bool),listed.size=ops.size->(∀j,Lst listed j->j<m)->(∀j,j<m->Lst listed j)->mix (ls.take m) (Lst listed) s0 sm=sm:=by
  intro listed r S L;refine Eq.trans ?_ W;have e:∀(p:Nat->LOp->Prop),(∃(j:Nat) (l:LOp),(ls.take m)[j]?=some l/\Lst listed j/\p j l)↔∃(j:Nat) (l:LOp),(ls.take m)[j]?=some l/\True/\p j l:=λp=>by
   constructor
   .rintro⟨j,l,A,_,z⟩;exact⟨j,l,A,trivial,z⟩
   rintro⟨j,l,A,_,z⟩;refine⟨j,l,A,L j ?_,z⟩;have:=(yB A).1;simp at this;omega
  refine Ls (λt=>?_) (λt=>?_) rfl
  .simp[mix];congr 1;exact propext (e λ_ l=>l.dst=t)
  simp[mix];congr 1;exact propext (e λ_ l=>isAl l=true/\l.dst=t)
 intro d;induction d with
 |zero =>
  intro listed g a w r f u hc I;have b:∀j,j<m->Lst listed j:=λj O=>Classical.byContradiction λD=>by have:=Y0Q (listed:=listed) (i:=j) (by omega) D;omega
  rw[x listed r u b]at I;exact J2E H hK 0 m listed g sm a w r (yV _) (λj=>⟨λh=>⟨u j h,by have:=u j h;omega⟩,λh=>b j h.1⟩) hc I hT
 |succ d ih =>
  intro listed g a w r f u hc I;by_cases b:∀j,j<m->Lst listed j
  .rw[x listed r u b]at I;exact J2E H hK (d+1) m listed g sm a w r (yV _) (λj=>⟨λh=>⟨u j h,by have:=u j h;omega⟩,λh=>b j h.1⟩) hc I hT
  have hex:∃j,j<m/\¬ Lst listed j:=Classical.byContradiction λD=>b λj O=>Classical.byContradiction λN=>D ⟨j,O,N⟩;obtain⟨U,Y,v⟩:=hex;have s:∀n j,j<=n->j<m->¬ Lst listed j->∃j,j<m/\¬ Lst listed j/\∀q,q<j->Lst listed q:=by
   intro n;induction n with
   |zero=>intro j O S L;exact⟨j,S,L,λq J=>by omega⟩|succ n V =>
    intro j O S L;by_cases R:∃q,q<j/\¬ Lst listed q
    .obtain⟨q,A,z⟩:=R;exact V q (by omega) (by omega) z
    exact⟨j,S,L,λq J=>Classical.byContradiction λD=>R ⟨q,J,D⟩⟩
  obtain⟨j0,hj0,E,G⟩:=s U U (yV _) Y v;have C:=Array.getElem?_eq_getElem (xs:=ops) (i:=j0) (by omega);have B:=W0N r E C (λe Q R=>G e.on (H.edge j0 _ C e Q R));refine⟨λh0=>(by rw[h0]at B;cases B),λi hi=>?_⟩;obtain⟨hi1,hi2,o,M,Q⟩:=XX r hi;have Z:i<m:=by
   rcases Nat.lt_or_ge i m with h|h
   .exact h
   exact absurd (H.tl i o (Lst listed) h M f Q U (by omega)) v
  have hil:i<ls.length:=by rw[H.len];exact hi1
  have N:=yA hil;apply W0h M;refine Mx (λg' s' T w' I' h'=>?_) (H.one i _ _ N M) I (W2x H F hF f u Z N M hi2 Q);subst h';have eL:Lst (listed.setIfInBounds i true)=λj=>Lst listed j\/j=i:=funext λj=>propext (Z1D (by omega));refine ih _ g' T w' (by simpa using r) ?_ ?_ (by grind[Uj]) (by rw[eL];exact I')
  .rw[eL];intro i' o' X y e' he' hb';rcases y with y|rfl
   .exact .inl (f i' o' X y e' he' hb')
   grind
  grind
theorem W1S{x:Nat}{g:Gh}{s:St}{a:Act}{w:World}(n:P.follows .mixedOrders=true)(A:chkQ P c.nt ops ls m=true)(D:∀g' s' v w',Inv c g' s' v w'->K s'->Q' .normal v w')(I:Inv c g s a w)(h:Q0q P (ls.take m) [] (λs'=>wops P (ls.drop m) K s') (s.kills (alKeys (ls.take m)))):(Code.region x ops true).wp P Q' a w:=by
 have H:=W2v A;apply wp_region_any n;have G:=(I.kills (alKeys (ls.take m))).drawn (w.drawn+1);obtain⟨e,r,C⟩:=Q2q H.qa h;have F:s.kills (alKeys (ls.take m))=mix (ls.take m) (·<([]:List LOp).length) (s.kills (alKeys (ls.take m))) e:=by refine Ls (λt=>?_) (λt=>?_) rfl<;>simp[mix]
 have E:=λi l d=>by have:=Q2x H.nd (ls.take m) [] [] _ (by simp) r F (by simp) i l d;simpa using this
 have p:=X1S r;have f:mix (ls.take m) (λ_=>True) (s.kills (alKeys (ls.take m))) e=e:=by
  refine Ls (λt=>?_) (λt=>?_) p.2.1.symm
  .simp only[mix];split
   .rfl
   rename_i k;refine(p.1 t λy=>k ?_).1.symm;obtain⟨l,d,q⟩:=yY y;obtain⟨j,u,rfl⟩:=List.getElem_of_mem d;exact⟨j,_,yA u,trivial,q⟩
  simp only[mix];split
  .rfl
  rename_i k;refine(p.2.2 t λl d B q=>k ?_).symm;obtain⟨j,u,rfl⟩:=List.getElem_of_mem d;exact⟨j,_,by grind,trivial,B,q⟩
 have b:Lst (Array.replicate ops.size false)=λ_=>False:=by funext j;apply propext;simp[Lst,Array.getD_eq_getD_getElem?,Array.getElem?_replicate,iff_false];split<;>simp
 apply any_q H D (by grind[W0Z]) E f C ops.size _ g a _ (by simp)
 .rw[b];intro i o _ z;exact z.elim
 .rw[b];simp
 .simp
 have:mix (ls.take m) (Lst (Array.replicate ops.size false)) (s.kills (alKeys (ls.take m))) e=s.kills (alKeys (ls.take m)):=by rw[b];refine Ls (λt=>?_) (λt=>?_) rfl<;>simp[mix]
 rw[this];exact G
end
end
end Go.Proofs.YtehomnafaoplgaaGreat.Eng
