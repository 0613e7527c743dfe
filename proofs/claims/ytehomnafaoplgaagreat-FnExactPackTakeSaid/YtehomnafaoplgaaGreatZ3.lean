/-
  Lemmas, part 3.
-/
import Derived.Test.YtehomnafaoplgaaGreatZ2
import Derived.Laws.BytesString
import Derived.Laws.IdiomStrings
import Derived.Lib.AppendStr
namespace Go.Proofs.YtehomnafaoplgaaGreat.Eng
open Go Go.RowKit
section
section
variable{P:Program}{c:Cx}{g:Gh}{s:St}{a:Act}{w:World}
theorem Al.turn{w':World}{g':Gh}{s':St}{cs:List AV}{c:List Value}(T:Turn (λ_=>True) w w' g g' s s')(h:Al w g s cs c):Al w' g' s' cs c :=⟨h.1,λi y u a b=>⟨(h.2 i y u a b).1,(h.2 i y u a b).2.1,(h.2 i y u a b).2.2.turn T⟩⟩
theorem Y2k{b:List AV}{c:Nat}(g:∀e∈b,e.cells.length=c){i off:Nat}{e j:AV}{d:List AV}(a:b[i]?=some e)(n:off+d.length<=e.cells.length)(f:j.cells=putC e.cells off d) : flat (b.set i j)=putC (flat b) (i*c+off) d:=by induction b generalizing i with|nil=>simp at a|cons x l k =>have m:=g x (by simp);cases i with|zero =>simp at a;subst a;simp[List.set_cons_zero,flat,f,Nat.zero_mul,Nat.zero_add];unfold putC;rw[List.take_append_of_le_length (by omega),List.drop_append_of_le_length (by omega)];simp|succ i =>simp at a;have:=k (λe h=>g e (by simp[h])) a;simp[flat,List.set_cons_succ]at this ⊢;rw[this];unfold putC;rw[show(i+1)*c+off=x.cells.length+(i*c+off) by rw[m,Nat.succ_mul];omega];rw[List.take_length_add_append,Nat.add_assoc (x.cells.length),List.drop_length_add_append];simp
theorem Y28{cs a:List Value}{p m:Nat}(h:p+a.length<=m)(c:m<=cs.length):(putV cs p a).take m=putV (cs.take m) p a:=by
 apply List.ext_getElem?;intro i;rw[List.getElem?_take,U0B (by omega),U0B (by rw[List.length_take];omega),List.getElem?_take];by_cases b:i<m
 .simp[b]
 rw[ye b,ye (by omega),ye b]
theorem V10{t:TypeId}{n:Nat}(i:tsz P t=some n)(b o:Nat)(v:Value)(us:List Value)(h:v.cells=us.toArray)(e:us.length=n)(a:Array Value)(d:TypeId)(f:w.heap[b]?=some (.cells a d (0,0)))(c:o+n<=a.size)(g:∀u∈us,u.oneCell'=true) : (Instr.storeAt t (.pointer (some ⟨b,o,none⟩)) v).run P w=.ok () (w.setRow b (putV a.toList o us).toArray):=by have:=run_storeCells_at P b o d us 0 a w f (by rw[e];simpa using c) g;simp_all[Nat.add_zero,Instr.storeAt,Instr.sureAddr,Sem.run_bind,Result.andThen_ok,storeVar,Ws,putV]
theorem Rd.allOne{S:Nat->Nat->Prop}{N:Tag->Nat->Value->Prop}{x:AV}{v:Value}(h:Rd w S N x v)(_:True->True):allOne x.cells=true:=by cases h with|agg cs a b c h=>grind[Eng.allOne,AV.cells]|_=>simp[Eng.allOne,AV.cells,AV.one]
theorem Rd.cell{S:Nat->Nat->Prop}{N:Tag->Nat->Value->Prop}{x:AV}{v:Value}(h:Rd w S N x v){j:Nat}{y:AV}{u:Value}(a:x.cells[j]?=some y)(b:v.cells[j]?=some u):Rd w S N y u:=by have c:=h;cases h with|agg cs d e f h=>exact h j y u a (by grind[Value.cells])|_ =>cases j with|zero=>simp[AV.cells,Value.cells]at a b;subst a;subst b;exact c|succ j=>simp[AV.cells]at a
theorem Z1C{x:AV}(h:plain x=true):s.dt x=some x:=by cases x<;>simp[plain]at h<;>rfl
theorem Y1M:∀{cs:List AV},cs.all plain=true->s.dtL cs=some cs
 |[],_=>rfl|x::l,h=>by simp only[List.all_cons,yD]at h;simp[St.dtL,Z1C h.1,Y1M h.2]
theorem Q1C{x:AV}(h:nosr x=true):s.dt x=some x:=by cases x with|agg cs=>grind[nosr,St.dt,Y1M]|_=>first|exact Z1C h|simp[nosr,plain]at h
theorem W1X{x:AV}{v:Value}(a:plain x=true)(h:Gv w g s x v):Rd w g.S g.T x v:=by cases h with|data _ _ h=>exact h|_=>simp[Eng.plain]at a
theorem Inv.plain(_:Inv c g s a w){x y:AV}{v:Value}(b:nosr x=true)(d:s.dt x=some y)(h:Gv w g s x v):Rd w g.S g.T y v:=by
 rw[Q1C b]at d;cases d;cases x with
 |agg cs =>simp[nosr,List.all_eq_true]at b;cases h with|data _ _ h=>exact h|agg _ e f k j =>refine .agg cs e f (λa i=>?_) (by grind[W1X,yE]);have:=b a i;cases a<;>simp[Eng.plain]at this<;>rfl
 |_=>exact by grind[W1X,nosr]
section ops
variable{o:Oper}{d:Nat}{K:St->Prop}{K':Act->World->Prop}{Q':Exit->Act->World->Prop}
theorem M2x(I:Inv c g s a w)(hK:∀g' s' a' w',Inv c g' s' a' w'->K s'->K' a' w')(hd:o.dst=none){x y:X}{p q:Operand}{t:TypeId}{n:Nat}(ho:o.op=.store t p q)(hs:tsz P t=some n)(J:chkX x p=true)(hy:chkX y q=true)(h:wop P (.st x y n) K s):o.wp P a w K' Q':=by
 have F:∀g' s' w',(Instr.storeAt t (a.eval p) (a.eval q)).run P w=.ok () w'->Inv c g' s' a w'->K s'->o.wp P a w K' Q':=by
  intro g' s' w' hr I' l;have hr':(execOp a.eval o).run P w=.ok .skip w':=by simp_all[execOp]
  unfold Oper.wp;rw[hr',Oper.upon_skip,hd];exact hK _ _ _ _ I' l
 simp[wop]at h;have gx:=I.get J;have gy:=I.get hy;split at h
 .rename_i k off e;rw[e]at gx;split at h
  .rename_i cs l;obtain⟨h1,h2,h3,h⟩:=h;obtain⟨us,hv,m,d⟩:=gy.cells h3;obtain⟨U,L,D,hvl,hva⟩:=I.bxs k cs l;have B:∀u∈us,u.oneCell'=true:=by
    intro u f;obtain⟨i,hi,rfl⟩:=List.getElem_of_mem f;have O:i<(s.get y).cells.length:=by rw[m];exact hi
    exact(d i _ _ (yA O) (by simp)).2.1
   have hr:=V10 (P:=P) hs (g.bb k) off (a.eval q) us hv (by omega) U.toArray L D (by rw[List.size_toArray];omega) B;rw[gx.ptr_inv l]at F;refine F g _ _ hr ?_ h;have W:=X10 w (g.bb k) (putV U.toArray.toList off us).toArray;have T:Turn (λ_=>True) w (w.setRow (g.bb k) (putV U.toArray.toList off us).toArray) g g s { s with bx:=λj=>if j=k then some (putC cs off (s.get y).cells)else s.bx j } := ⟨λ_ _ h=>h,λ_ h=>h,TLe.of (λ_ h=>h) rfl,λb o ho=>World.cell?_of_block (W.block b (λe=>(I.bxn k cs l).2 o (e ▸ ho))),λj _ r h=>⟨r,h,rfl,rfl⟩,λj _ c' h=>by
    by_cases hj:j=k
    .subst hj;exact⟨cs,l,rfl⟩
    simp[hj]at h;exact⟨c',h,rfl⟩,λ_ _ h=>h,O1e λb D=>W.block b λe=>I.ow.bx k cs l (e ▸ D)⟩
   have A1:Al w g s cs U:=⟨hvl.symm,hva⟩;have A2:Al w g s (s.get y).cells us:=⟨m,λi z u hz f=>⟨.inl (d i z u hz f).1,(d i z u hz f).2⟩⟩;have A3:=(A1.put A2 (off:=off) (by omega)).turn T;exact  I.setbox l W ⟨putV U off us,L, setRow_heap w (g.bb k) U.toArray _ L (0,0) D,A3.1.symm,A3.2⟩
  cases h
 .rename_i k i off e;rw[e]at gx;split at h
  .rename_i r l;split at h
   .rename_i G v Q hdt;obtain⟨Y,h1,h2,hno,h⟩:=h;obtain⟨b,D,hp⟩:=gx.rpt_inv l;have M:=I.plain hno hdt gy;have N:=M.allOne id;obtain⟨us,hv,m,d⟩:=(Gv.data (s:=s) v _ M).cells N;have B:∀u∈us,u.oneCell'=true:=by
     intro u f;obtain⟨i,hi,rfl⟩:=List.getElem_of_mem f;have O:i<v.cells.length:=by rw[m];exact hi
     exact(d i _ _ (yA O) (by simp)).2.1
    have Z:=I.rws k r l;obtain⟨xs,L,A,E,hc⟩:=Z;have hel':=E G (yE Q);have hi:=(yB Q).1;rcases A.2 with⟨hn,_⟩|⟨R,cap,H,V,h0,hbk,q1,q2,q3,q4⟩
    .rw[hn]at D;simp[Value.ownBlock]at D
    have hbb:R=b:=by rw[V]at D;simpa[Value.ownBlock]using D
    subst hbb;have hmul:i*r.sz+r.sz<=r.es.length*r.sz:=by rw[← Nat.succ_mul];exact Nat.mul_le_mul_right _ hi
    have hmul2:r.es.length*r.sz<=cap*r.sz:=Nat.mul_le_mul_right _ q1;have hr:=V10 (P:=P) hs R (i*r.sz+off) (a.eval q) us hv (by omega) H L hbk (by omega) B;rw[hp]at F;refine F g _ _ hr ?_ h;have W:=X10 w R (putV H.toList (i*r.sz+off) us).toArray;have hS:∀b o,g.S b o->(w.setRow R (putV H.toList (i*r.sz+off) us).toArray).cell? ⟨b,o,none⟩=w.cell? ⟨b,o,none⟩:=λb o ho' =>World.cell?_of_block (W.block b (λe=>by have:=((I.rwn k r l R D).2 o (e ▸ ho')).1;rw[Y]at this;cases this));refine I.setrow l Y rfl D W ?_;have he':(if n=G.cells.length then v else AV.agg (putC G.cells off v.cells)).cells=putC G.cells off v.cells:=by
     split
     .rename_i hn;have:off=0:=by omega
      subst this;unfold putC;rw[List.take_zero,List.nil_append,List.drop_eq_nil_of_le (by omega),List.append_nil]
     rfl
    refine⟨putV xs (i*r.sz+off) us,L,⟨?_,.inr ⟨R,cap,_,by simpa using V,Nat.zero_le _,setRow_heap w R H _ L (0,0) hbk,by simpa using q1,q2,?_,?_⟩⟩,?_,?_⟩
    .have:=A.1;rw[O19 (by omega)];simpa using this
    .rw[List.size_toArray,O19 (by simp;omega)];simpa using q3
    .simp[List.length_set];rw[Y28 (by omega) (by simp;omega),q4]
    .intro e1 he1;rcases List.mem_or_eq_of_mem_set he1 with h'|h'
     .exact E e1 h'
     rw[h',he',U1X (by omega)];exact hel'
    intro j x u J f;rw[Y2k E Q (by omega) he']at J;have hfl:=L0B E;rw[Q1X (by omega)]at J;rw[U0B (by have:=A.1;omega),← m]at f;split at J
    .rename_i C;rw[yd C]at f;obtain⟨z1,z2,z3⟩:=d _ _ _ J f;have hrd':=M.cell J (by rw[hv];simpa using f);exact⟨z1,z2,hrd'.mono (λ_ _ h=>h) TLe.refl hS⟩
    rename_i C;rw[ye C]at f;obtain⟨z1,z2,z3⟩:=hc j x u J f;exact⟨z1,z2,z3.mono (λ_ _ h=>h) TLe.refl hS⟩
   cases h
  cases h
 cases h
end ops
end
end
section
section
variable{P:Program}{c:Cx}{g:Gh}{s:St}{a:Act}{w:World}
theorem W2h(t q e k:TypeId)(i:TypeInfo)(r:P.underlying t=some (.slice e))(v:P.info? e=some i)(b c d:Nat)(f:Array Value)(x:w.heap[b]?=some (.cells f k (0,0)))(o:Addr)(m p:Nat)(a:List Value)(s:a.length=m*i.size)(h:∀j u,a[j]?=some u->w.cell? (o.add j)=some u)(z:∀u∈a,u.oneCell'=true)(g:c+m<=d)(n:c*i.size+a.length<=f.size) : (Builtin.append_ #[t,t] q #[.slice (some ⟨b,0,none⟩) c d,.slice (some o) m p]).run P w = .ok (.slice (some ⟨b,0,none⟩) (c+m) d) (w.setRow b (f.toList.take (c*i.size)++a++f.toList.drop (c*i.size+a.length)).toArray):=by have y:=run_firstCells_some (P:=P) (w:=w) i.size m o m p a s h;have l:=run_storeCells_at P b (c*i.size) k a 0 f w x (by simpa using n) z;simp[Nat.add_zero]at l;simp[Builtin.append_,run_underlying r,sizeOf,typeInfo,v,Builtin.lenOf,g,y,Addr.add_lit,l]
theorem Q2r(t F e p:TypeId)(i:TypeInfo)(z:Value)(B:P.underlying t=some (.slice e))(D:P.info? e=some i)(G:i.zero=some z)(hzs:z.cells.size=i.size)(v:Value)(n:Nat)(xs:List Value)(c:w.ownsRow 0 p i.size v n xs)(y:Value)(m E:Nat)(pa:Option Addr)(hsrc:y=.slice pa m E)(a:List Value)(s:a.length=m*i.size)(r:0<a.length->∃x,pa=some x/\∀j u,a[j]?=some u->w.cell? (x.add j)=some u)(hpa:0<m->pa.isSome=true)(h1:∀u∈a,u.oneCell'=true)(h63:n+m<=maxLen)(hbytes:(n+m)*i.bytes<=140737488355328) : ∃v' w' ty1,(Builtin.append_ #[t,t] F #[v,y]).run P w=.ok v' w'/\w'.ownsRow 0 ty1 i.size v' (n+m) (xs++a)/\w.grownBy w' v.ownBlock /\ (v'.ownBlock=v.ownBlock\/(v'.ownBlock=some w.heap.size/\w.grownBy w' none)):=by
 subst hsrc;by_cases hm0:m=0
 .subst hm0;have hn0:=List.eq_nil_of_length_eq_zero (by simpa using s);subst hn0;refine⟨v,w,p,?_,by simpa using c,World.grownBy.refl w _,.inl rfl⟩;have hfc:(Builtin.firstCells i.size 0 (.slice pa 0 E)).run P w=.ok #[] w:=by cases pa<;>simp[Builtin.firstCells,loadCells,loadCellsFrom]
  rcases c.2 with⟨rfl,rfl⟩|⟨b,cap,q,rfl,_,I,hnc,_,_,_⟩
  .simp[Builtin.append_,run_underlying B,sizeOf,typeInfo,D,Builtin.lenOf,hfc]
  simp[Builtin.append_,run_underlying B,sizeOf,typeInfo,D,Builtin.lenOf,hfc,hnc,storeCells]
 obtain⟨x,rfl⟩:=Option.isSome_iff_exists.1 (hpa (by omega));have d:∀j u,a[j]?=some u->w.cell? (x.add j)=some u:=by intro j u hj;obtain⟨ad',e1,e2⟩:=r (by have:=(yB hj).1;omega);cases e1;exact e2 j u hj
 have l:(xs++a).length=(n+m)*i.size:=by rw[yU,c.1,s,Nat.add_mul]
 have h:∀(f:Nat),f<n+m->∀(A:Option Nat), (w.drew.alloc (.cells (xs.toArray++a.toArray++Builtin.zeroCells z.cells (grownCap w (n+m) f e-(n+m))) e)).ownsRow 0 e i.size (.slice (some ⟨w.heap.size,0,none⟩) (n+m) (grownCap w (n+m) f e)) (n+m) (xs++a) /\ w.grownBy (w.drew.alloc (.cells (xs.toArray++a.toArray++Builtin.zeroCells z.cells (grownCap w (n+m) f e-(n+m))) e)) A:=by
  intro f J A;have hge:=grownCap_ge w (n+m) f e;have hcm:=grownCap_le_maxLen w (n+m) f e h63;refine⟨⟨l,.inr ⟨w.heap.size,_,_,rfl,Nat.zero_le _,heap_alloc_new w.drew _,hge,hcm,?_,?_⟩⟩,⟨rfl,rfl,rfl,by simp,λk hk _=>heap_alloc_old w.drew _ hk⟩⟩
  .simp[Array.size_append,List.size_toArray,size_zeroCells,hzs,c.1,s,← Nat.add_mul];congr 1;omega
  simp[Array.toList_append,List.append_assoc];rw[← List.append_assoc,← l];exact List.take_left
 have h63n:n+m<=9223372036854775807:=by simp[maxLen]at h63;omega
 rcases c.2 with⟨rfl,rfl⟩|⟨b,cap,q,rfl,hbg,H,hnc,hcm,hcs,htake⟩
 .have hx:xs=[]:=by simp_all
  subst hx;have C:=run_append_nil (P:=P) w t F e i z B D G x m E a s d (by omega) (by omega) (by have I:=hbytes;simp[Nat.zero_add]at I;omega);have o:=h 0 (by omega) (Value.ownBlock (.slice none 0 0));have hgr2:=h 0 (by omega) none;simp only[Nat.zero_add,List.nil_append,Array.empty_append]at o hgr2 ⊢;exact⟨_,_,e,C,o.1,o.2,.inr ⟨rfl,hgr2.2⟩⟩
 by_cases hroom:n+m<=cap
 .have hfit:n*i.size+a.length<=q.size:=by rw[s,hcs,← Nat.add_mul];simp_all[Nat.mul_le_mul_right]
  have C:=W2h (P:=P) (w:=w) t F e p i B D b n cap q H x m E a s d h1 hroom hfit;refine⟨_,_,p,C,⟨l,.inr ⟨b,cap,_,rfl,hbg,setRow_heap w b q _ p _ H,hroom,hcm,?_,?_⟩⟩,⟨rfl,rfl,rfl,by simp,λk _ hk=>setRow_other w b k _ (λe=>hk (by simp[Value.ownBlock,e]))⟩,.inl rfl⟩
  .simp only[List.size_toArray,yU,List.length_take,List.length_drop,Array.length_toList];omega
  rw[htake,← l];exact List.take_left
 have holds:=c.cells (g:=b) rfl;have C:=run_append_grow (P:=P) w t F e i z B D G ⟨b,0,none⟩ n cap xs c.1 holds x m E a s d (by omega) (by omega) (growslice_fits (by omega) hbytes);have o:=h cap (by omega) (Value.ownBlock (.slice (some ⟨b,0,none⟩) n cap));exact⟨_,_,e,C,o.1,o.2,.inr ⟨rfl,(by grind)⟩⟩
theorem Rd.src{S:Nat->Nat->Prop}{N:Tag->Nat->Value->Prop}{t:Tag}{g:Nat}{es:List AV}{v:Value}(h:Rd w S N (.sl t g es) v) : ∃pa A,v=.slice pa es.length A/\(0<es.length->pa.isSome=true)/\∃a:List Value,(es≠[]->a.length=es.length*g)/\(es=[]->a=[])/\(flat es).length=a.length/\(∀u∈a,u.oneCell'=true) /\ (∀e∈es,e.cells.length=g) /\ (0<a.length->∃y,pa=some y/\∀j u,a[j]?=some u->w.cell? (y.add j)=some u) /\ ∀(j:Nat)(x:AV)(u:Value),(flat es)[j]?=some x->a[j]?=some u->x.one=true/\u.oneCell'=true/\Rd w S N x u:=by
 cases h with
 |sl0 _ _ p q=>exact⟨p,q,rfl,by simp,[],by simp,by simp,by simp[flat],by simp,by simp,by simp,by simp⟩|sl _ _ _ b o H n G F r D E z =>
  have s:=L0B r;have c:∀j u,((List.range (flat es).length).map n)[j]?=some u->∃x,(flat es)[j]?=some x/\u=n j:=by
   intro j u d;rw[yF]at d;obtain⟨C,f,rfl⟩:=yC d;have m:j<(flat es).length:=by have:=(yB f).1;simpa using this
   rw[List.getElem?_range m]at f;simp_all
  refine⟨_,_,rfl,λ_=>rfl,(List.range (flat es).length).map n,by grind,by grind,by simp,λu l=>?_,r,λ_=>⟨_,rfl,λj u d=>?_⟩,λj x u k l=>?_⟩
  .obtain⟨j,d,rfl⟩:=List.getElem_of_mem l;obtain⟨x,k,e⟩:=c j _ (yA d);rw[e];grind[one_cell]
  .obtain⟨x,k,rfl⟩:=c j u d;rw[O0b];grind
  obtain⟨B,i,rfl⟩:=c j u l;rw[k]at i;grind[one_cell]
theorem O2r{S:Nat->Nat->Prop}{N:Tag->Nat->Value->Prop}{r:Row}{v:Value}(h:QU w S N r v) : ∃pa y,v=.slice pa r.es.length y/\(0<r.es.length->pa.isSome=true)/\∃a:List Value,a.length=r.es.length*r.sz/\(flat r.es).length=a.length/\(∀u∈a,u.oneCell'=true) /\ (∀e∈r.es,e.cells.length=r.sz) /\ (0<a.length->∃p,pa=some p/\∀j u,a[j]?=some u->w.cell? (p.add j)=some u) /\ ∀(j:Nat)(x:AV)(u:Value),(flat r.es)[j]?=some x->a[j]?=some u->x.one=true/\u.oneCell'=true/\Rd w S N x u:=by
 obtain⟨xs,z,f,k,l⟩:=h;have i:=L0B k;have m:(flat r.es).length=xs.length:=by rw[i,f.1]
 have d:∀u∈xs,u.oneCell'=true:=by intro u q;obtain⟨j,A,rfl⟩:=List.getElem_of_mem q;exact(l j _ _ (yA (by omega)) (by simp)).2.1
 have c:=λb (s:v.ownBlock=some b)=>f.cells (g:=b) s;rcases f.2 with⟨rfl,n⟩|⟨b,cap,t,rfl,_⟩
 .have o:=f.1;refine⟨none,0,by rw[n],by omega,xs,o,m,d,k,λh=>?_,l⟩;rw[o,n]at h;simp at h
 exact⟨_,_,rfl,λ_=>rfl,xs,f.1,m,d,k,λ_=>⟨_,rfl,c b rfl⟩,l⟩
end
end
section
section
variable{P:Program}{c:Cx}{g:Gh}{s:St}{a:Act}{w:World}
theorem Inv.rerow(I:Inv c g s a w){k:Nat}{r r':Row}{v':Value}{w':World}(y:s.rw k=some r)(hkb:k<1000000000)(t:w.grownBy w' (g.rv k).ownBlock)(R:r'.sz=r.sz)(hle:r.es.length<=r'.es.length)(U:r'.sh=r.sh)(hr:QU w' g.S g.T r' v')(P:v'.ownBlock=(g.rv k).ownBlock\/v'.ownBlock=some w.heap.size)(H:∀b o,(g.rv k).ownBlock=some b->g.S b o->w'.cell? ⟨b,o,none⟩=w.cell? ⟨b,o,none⟩)(Q:∀b,(g.rv k).ownBlock=some b->UnfB w' b) : Inv c { g with rv:=λj=>if j=k then v' else g.rv j } { s.kill k with rw:=λj=>if j=k then some r' else(s.kill k).rw j } a w':=by
 have Z:∀b o,g.S b o->w'.cell? ⟨b,o,none⟩=w.cell? ⟨b,o,none⟩:=by
  intro b o B;by_cases d:(g.rv k).ownBlock=some b
  .exact H b o d B
  exact World.cell?_of_block (t.block b (I.sw b o B) (λe=>d e.symm))
 have T:Turn (·≠k) w w' g { g with rv:=λj=>if j=k then v' else g.rv j } s { s.kill k with rw:=λj=>if j=k then some r' else(s.kill k).rw j }:=by
  refine⟨λ_ _ h=>h,λ_ h=>h,TLe.of (λ_ h=>h) rfl,Z,λj l f h=>?_,λj l c' h=>?_,λ_ _ h=>h,O1e λb d=>t.block b (I.ow.size d) (λe=>I.ow.rw k r y b e.symm d)⟩
  .simp[l]at h;exact⟨f,(Xc h).2,rfl,by simp[l]⟩
  obtain⟨_,c0,m,_⟩:=M8 h;exact⟨c0,m,rfl⟩
 have p:∀j f,(if j=k then some r' else(s.kill k).rw j)=some f->(j=k/\f=r')\/(j≠k/\s.rw j=some f):=by
  intro j f h;by_cases l:j=k
  .simp[l]at h;exact .inl ⟨l,h.symm⟩
  simp[l]at h;exact .inr ⟨l,(Xc h).2⟩
 have n:∀b,v'.ownBlock=some b->(g.rv k).ownBlock=some b\/b=w.heap.size:=by
  intro b d;rcases P with h|h
  .exact .inl (by rw[← h];exact d)
  rw[h]at d;cases d;exact .inr rfl
 refine⟨I.defers,I.nt,⟨t.os.trans I.fr.os,t.tape.trans I.fr.tape,t.output.trans I.fr.output,Nat.le_trans I.fr.size t.size,?_⟩,λi=>(I.tm i).turn_dead T,?_,?_,?_,?_,?_,?_,?_,?_,I.nn,I.nx,λj l=>⟨by simp[show j≠k by omega];exact(I.fix j l).1,(I.fix j l).2⟩,I.sm,I.sb,I.ow.turn rfl (λ_ h=>h) (yV _) (λb d=>t.block b (I.ow.size d) (λe=>I.ow.rw k r y b e.symm d)) (λj K h=>by obtain⟨_,c0,m,_⟩:=M8 h;exact I.ow.bx j c0 m) (λj f h b d=>?_),λb o h q=>by
  by_cases d:(g.rv k).ownBlock=some b
  .exact Q b d
  exact(I.uf b o h q).block (t.block b (I.sw b o h) (λe=>d e.symm)),I.sd⟩
 .intro b d G;have W:=Nat.lt_of_lt_of_le d I.fr.size;rw[t.block b W (λe=>G ((I.rwn k r y b e.symm).1.2 d))];exact I.fr.block b d G
 .intro j K h;obtain⟨_,c0,m,rfl⟩:=M8 h;have d:=I.bxs j c0 m;obtain⟨vs,ty,E,D,h3⟩:=d;refine⟨vs,ty,?_,by rw[Yd];simpa using D,λi x v G hv=>?_⟩
  .show w'.heap[g.bb j]?=_;rw[t.block _ (U0E (I.bxs j c0 m)) (λe=>I.dbr j k c0 r m y e.symm)];exact E
  rw[Yd,yF]at G;obtain⟨a0,X,rfl⟩:=yC G;obtain⟨q1,q2,q3⟩:=h3 i a0 v X hv;exact⟨one_dead k q1,q2,q3.turn_dead T⟩
 .intro j K h;obtain⟨_,c0,m,rfl⟩:=M8 h;exact I.bxn j c0 m
 .intro j f h;rcases p j f h with⟨rfl,rfl⟩|⟨l,m⟩
  .simpa using hr
  simp[l];exact(I.rws j f m).mono (λ_ _ h=>h) TLe.refl Z (λb d=>t.block b (O06 (I.rws j f m) d) (λe=>I.drr j k f r m y l b d e.symm))
 .intro j f h b d;rcases p j f h with⟨rfl,rfl⟩|⟨l,m⟩
  .simp[]at d;rcases n b d with h|h
   .refine⟨(I.rwn j r y b h).1,λo B=>?_⟩;have:=(I.rwn j r y b h).2 o B;exact⟨by rw[U];exact this.1,Nat.lt_of_lt_of_le this.2 (by rw[R];simp_all[Nat.mul_le_mul_right])⟩
   subst h;have V:=I.vac (yV _);exact⟨V.N,λo B=>absurd B (V.S o)⟩
  simp[l]at d;exact I.rwn j f m b d
 .intro j u c1 c2 E D A;obtain⟨_,J,z,_⟩:=M8 E;obtain⟨_,d2,Y,_⟩:=M8 D;exact I.dbb j u J d2 z Y A
 .intro j u c1 f E D;obtain⟨_,J,z,_⟩:=M8 E;rcases p u f D with⟨rfl,rfl⟩|⟨l,m⟩
  .simp[];intro e;rcases n _ e with h|h
   .exact I.dbr j u J r z y h
   have:=U0E (I.bxs j J z);omega
  simp[l];exact I.dbr j u J f z m
 .intro j u f L E D A b;rcases p j f E with⟨rfl,rfl⟩|⟨l,m⟩<;>rcases p u L D with⟨rfl,rfl⟩|⟨C,F⟩
  .exact absurd rfl A
  .simp[C];intro e M;rcases n b e with h|h
   .exact I.drr u j L r F y C b M h
   have:=O06 (I.rws u L F) M;omega
  .simp[l];intro e M;rcases n b M with h|h
   .exact I.drr j u f r m y l b e h
   have:=O06 (I.rws j f m) e;omega
  simp[l,C];exact I.drr j u f L m F A b
 .intro b o B;exact Nat.lt_of_lt_of_le (I.sw b o B) t.size
 rcases p j f h with⟨rfl,rfl⟩|⟨l,m⟩
 .simp[]at d;rcases n b d with h|h
  .exact I.ow.rw j r y b h
  subst h;exact(I.vac (yV _)).O
 simp[l]at d;exact I.ow.rw j f m b d
section ops
variable{o:Oper}{d:Nat}{K:St->Prop}{K':Act->World->Prop}{Q':Exit->Act->World->Prop}
theorem W1l(xs a:List AV):flat (xs++a)=flat xs++flat a:=by simp[flat]
theorem U2p(I:Inv c g s a w){y:X}{q:Operand}(t:Gv w g s (s.get y) (a.eval q)){isz:Nat}:∀m h nw,s.dt (s.get y)=some (.sl m h nw)->(nw=[]\/h=isz)->∃(pa:Option Addr)(l:Nat)(b:List Value),a.eval q=.slice pa nw.length l/\(0<nw.length->pa.isSome=true)/\b.length=nw.length*isz /\ (∀u∈b,u.oneCell'=true)/\(∀e∈nw,e.cells.length=isz)/\(0<b.length->∃v,pa=some v/\∀j u,b[j]?=some u->w.cell? (v.add j)=some u) /\ (∀(j:Nat)(x:AV)(u:Value),(flat nw)[j]?=some x->b[j]?=some u->x.one=true/\u.oneCell'=true/\Rd w g.S g.T x u):=by intro m h nw d F;generalize G:s.get y=yv at *;cases yv with|sl H s1 K =>simp[St.dt,AV.sl.injEq]at d;obtain⟨rfl,rfl,rfl⟩:=d;obtain⟨pa,l,n,i,b,n1,J,D,C,B,A,z⟩:=t.sl_inv.src;grind|sref k =>simp only[St.dt]at d;obtain⟨r,o,p⟩:=yC d;simp[AV.sl.injEq]at p;obtain⟨_,rfl,rfl⟩:=p;obtain⟨pa,l,n,i,b,n1,D,C,B,A,z⟩:=O2r (I.rws k r o);have E:=(t.sref_inv o).trans n;grind|agg cs=>grind[St.dt,Option.map_eq_some_iff]|fn f cs=>grind[St.dt,Option.map_eq_some_iff]|_=>simp[St.dt]at d
theorem Q2p{y:X}{q:Operand}(d:Gv w g s (s.get y) (a.eval q)):s.dt (s.get y)=some .nl->a.eval q=.slice none 0 0:=by intro b;generalize c:s.get y=yv at *;cases yv with|nl=>exact d.nl_inv|agg cs=>grind[St.dt,Option.map_eq_some_iff]|fn f cs=>grind[St.dt,Option.map_eq_some_iff]|sref k=>grind[St.dt,Option.map_eq_some_iff]|_=>simp[St.dt]at b
theorem J2N(I:Inv c g s a w)(hK:∀g' s' X w',Inv c g' s' X w'->K s'->K' X w')(hd:o.dst=some d)(N:d<c.nt){k:Nat}{r:Row}{nw:List AV}{l xs:List Value}{isz:Nat}{Y:TypeId}(F:s.rw k=some r)(O:k<1000000000)(t:r.sz=isz)(f:w.ownsRow 0 Y isz (g.rv k) r.es.length xs){v':Value}{w':World}{B:TypeId}(U:(execOp a.eval o).run P w=.ok (.value v') w')(E:w'.ownsRow 0 B isz v' (r.es++nw).length (xs++l))(R:w.grownBy w' (g.rv k).ownBlock)(m:v'.ownBlock=(g.rv k).ownBlock\/(v'.ownBlock=some w.heap.size/\w.grownBy w' none))(Z:∀e∈r.es++nw,e.cells.length=isz)(H:∀(j:Nat)(x:AV)(u:Value),(flat (r.es++nw))[j]?=some x->(xs++l)[j]?=some u->x.one=true/\u.oneCell'=true/\Rd w g.S g.T x u)(Q:K (St.set { s.kill k with rw:=λj=>if j=k then some { r with es:=r.es++nw } else(s.kill k).rw j } d (.sref k))):o.wp P a w K' Q':=by
 have q:∀b o,(g.rv k).ownBlock=some b->g.S b o->w'.cell? ⟨b,o,none⟩=w.cell? ⟨b,o,none⟩:=by
  intro b o' i p;have D:=((I.rwn k r F b i).2 o' p).2;have z:o'<xs.length:=by rw[f.1,← t];exact D
  rcases m with m|⟨m,J⟩
  .have W:=f.cells i o' _ (yA z);have V:=E.cells (by rw[m];exact i) o' (xs[o']) (by rw[yK z,yA z]);rw[O0b,Nat.zero_add]at W V;rw[W,V]
  exact World.cell?_of_block (J.block b (O06 (I.rws k r F) i) (by simp))
 have hS:∀b o,g.S b o->w'.cell? ⟨b,o,none⟩=w.cell? ⟨b,o,none⟩:=by
  intro b o' p;by_cases i:(g.rv k).ownBlock=some b
  .exact q b o' i p
  exact World.cell?_of_block (R.block b (I.sw b o' p) (λe=>i e.symm))
 have y:QU w' g.S g.T { r with es:=r.es++nw } v' := ⟨xs++l,B,by rw[t];exact E,by rw[t];exact Z,λj x u L M=>⟨(H j x u L M).1,(H j x u L M).2.1,(H j x u L M).2.2.mono (λ_ _ h=>h) TLe.refl hS⟩⟩;have I2:=I.rerow (r':={ r with es:=r.es++nw }) F O R rfl (by simp) rfl y (by rcases m with h|h;exact .inl h;exact .inr h.1) q (λb i=>by
  have C:∀(G:World) (v:Value) (A:TypeId) (n:Nat) (xs:List Value),G.ownsRow 0 A isz v n xs->v.ownBlock=some b->UnfB G b:=by
   intro G v A n xs f i;rcases f.2 with⟨e,_⟩|⟨b',cap,cur,e,_,e3,_⟩
   .rw[e]at i;cases i
   rw[e]at i;cases i;exact .plain e3
  rcases m with m|⟨_,m⟩
  .exact C _ _ _ _ _ E (by rw[m];exact i)
  exact(C _ _ _ _ _ f i).block (m.block b (O06 (I.rws k r F) i) (by simp)))
 refine sok hK hd N U I2 (.sref k v' ?_ λU _=>by simp) Q;rcases E.2 with⟨rfl,_⟩|⟨_,_,_,rfl,_⟩<;>rfl
theorem U2A(I:Inv c g s a w)(hK:∀g' s' a' w',Inv c g' s' a' w'->K s'->K' a' w')(hd:o.dst=some d)(hlt:d<c.nt){x y:X}{p q:Operand}{t e:TypeId}{i:TypeInfo}{z:Value}{sz by':Nat}(ho:o.op=.call { callee:=.builtin .append,args:=#[p,q],argTypes:=#[t,t] })(ht:P.underlying t=some (.slice e))(hi:P.info? e=some i)(hz:i.zero=some z)(hs:i.size=sz)(hby:i.bytes=by')(hby0:0<by')(hzs:z.cells.size=i.size)(G:chkX x p=true)(hy:chkX y q=true)(h:wop P (.ap d x y sz by') K s):o.wp P a w K' Q':=by
 subst hs;subst hby;simp[wop]at h;have gx:=I.get G;have gy:=I.get hy;have run:∀v' w',(Builtin.append_ #[t,t] o.type #[a.eval p,a.eval q]).run P w=.ok v' w'->(execOp a.eval o).run P w=.ok (.value v') w':=by intro v' w' hr;simp[execOp,ho,resolve,invoke,builtin];simp[hr]
 have fin:∀(es:List AV) (v:Value) (n:Nat) (xs f:List Value) (nw:List AV) (ty0:TypeId),w.ownsRow 0 ty0 i.size v n xs->n=es.length->(∀e∈es,e.cells.length=i.size) -> (∀(j:Nat) (x:AV) (u:Value),(flat es)[j]?=some x->xs[j]?=some u->x.one=true/\u.oneCell'=true/\Rd w g.S g.T x u) -> ∀(pa:Option Addr) (E:Nat),a.eval q=.slice pa nw.length E->(0<nw.length->pa.isSome=true)->f.length=nw.length*i.size->(∀u∈f,u.oneCell'=true)->(∀e∈nw,e.cells.length=i.size) -> (0<f.length->∃ad,pa=some ad/\∀j u,f[j]?=some u->w.cell? (ad.add j)=some u) -> (∀(j:Nat) (x:AV) (u:Value),(flat nw)[j]?=some x->f[j]?=some u->x.one=true/\u.oneCell'=true/\Rd w g.S g.T x u) -> (es.length+nw.length)*i.bytes<=140737488355328->es.length+nw.length<=maxLen -> ∃v' w' F,(Builtin.append_ #[t,t] o.type #[v,a.eval q]).run P w=.ok v' w'/\w'.ownsRow 0 F i.size v' (es++nw).length (xs++f)/\w.grownBy w' v.ownBlock /\ (v'.ownBlock=v.ownBlock\/(v'.ownBlock=some w.heap.size/\w.grownBy w' none))/\(∀e∈es++nw,e.cells.length=i.size) /\ (∀(j:Nat) (x:AV) (u:Value),(flat (es++nw))[j]?=some x->(xs++f)[j]?=some u->x.one=true/\u.oneCell'=true/\Rd w g.S g.T x u):=by
  intro es v n xs f nw ty0 m hn U hxs pa E Y H M C J B L l D;subst hn;obtain⟨v',w',F,r1,r2,Q,O⟩:=Q2r (P:=P) t o.type e ty0 i z ht hi hz hzs v es.length xs m (a.eval q) nw.length E pa Y f M B H C D l;refine⟨v',w',F,r1,by simpa using r2,Q,O,?_,?_⟩
  .intro e he;rcases List.mem_append.1 he with h|h
   .exact U e h
   exact J e h
  intro j x u G W;rw[W1l]at G;have hxl:(flat es).length=xs.length:=by rw[L0B U,m.1]
  by_cases hj:j<xs.length
  .rw[yK (by omega)]at G;rw[yK hj]at W;exact hxs j x u G W
  rw[yS (by omega)]at G;rw[yS (by omega)]at W;rw[hxl]at G;exact L _ x u G W
 have old:∀(k:Nat) (r:Row) (nw:List AV) (f:List Value),s.rw k=some r->k<1000000000->s.get x=.sref k->r.sz=i.size -> ∀(pa:Option Addr) (E:Nat),a.eval q=.slice pa nw.length E->(0<nw.length->pa.isSome=true)->f.length=nw.length*i.size->(∀u∈f,u.oneCell'=true)->(∀e∈nw,e.cells.length=i.size) -> (0<f.length->∃ad,pa=some ad/\∀j u,f[j]?=some u->w.cell? (ad.add j)=some u) -> (∀(j:Nat) (x:AV) (u:Value),(flat nw)[j]?=some x->f[j]?=some u->x.one=true/\u.oneCell'=true/\Rd w g.S g.T x u) -> (r.es.length+nw.length)*i.bytes<=140737488355328->r.es.length+nw.length<=maxLen -> K (St.set { s.kill k with rw:=λj=>if j=k then some { r with es:=r.es++nw } else(s.kill k).rw j } d (.sref k))->o.wp P a w K' Q':=by
  intro k r nw f N hkb A hsz pa E Y H M C J B L l D hKs;have hrow:=I.rws k r N;obtain⟨xs,ty,m,U,hc⟩:=hrow;have hv:a.eval p=g.rv k:=by rw[A]at gx;exact gx.sref_inv N
  rw[hsz]at m;obtain⟨v',w',F,r1,r2,Q,O,r5,r6⟩:=fin r.es (g.rv k) _ xs f nw ty m rfl (by rw[← hsz];exact U) hc pa E Y H M C J B L l D;exact J2N I hK hd hlt N hkb hsz m (run v' w' (by rw[hv];exact r1)) r2 Q O r5 r6 hKs
 have new:∀(nw:List AV) (f:List Value),s.get x=.nl -> ∀(pa:Option Addr) (E:Nat),a.eval q=.slice pa nw.length E->(0<nw.length->pa.isSome=true)->f.length=nw.length*i.size->(∀u∈f,u.oneCell'=true)->(∀e∈nw,e.cells.length=i.size) -> (0<f.length->∃ad,pa=some ad/\∀j u,f[j]?=some u->w.cell? (ad.add j)=some u) -> (∀(j:Nat) (x:AV) (u:Value),(flat nw)[j]?=some x->f[j]?=some u->x.one=true/\u.oneCell'=true/\Rd w g.S g.T x u) -> nw.length*i.bytes<=140737488355328->nw.length<=maxLen -> K (St.set { s.kill d with rw:=λj=>if j=d then some ⟨i.size,nw,false⟩else(s.kill d).rw j } d (.sref d))->o.wp P a w K' Q':=by
  intro nw f A pa E Y H M C J B L l D hKs;have hv:a.eval p=.slice none 0 0:=by rw[A]at gx;exact gx.nl_inv
  obtain⟨v',w',F,r1,r2,Q,O,r5,r6⟩:=fin [] (.slice none 0 0) 0 [] f nw 0 (World.ownsRow_nil w 0 0 i.size) rfl (by simp) (by intro j x u h;simp[flat]at h) pa E Y H M C J B L (by simpa using l) (by simpa using D);simp[List.nil_append]at r2 r5 r6;have Z:=λb hb=>Q.block b hb (by simp[Value.ownBlock]);have I1:=I.grow (S':=g.S) Q.os Q.tape Q.output Q.size Z (λ_ _ h=>h) (λ_ _ h=>.inl h);have hrow':QU w' g.S g.T ⟨i.size,nw,false⟩ v' := ⟨f,F,r2,r5,λj x u G W=>⟨(r6 j x u G W).1,(r6 j x u G W).2.1,(r6 j x u G W).2.2.mono (λ_ _ h=>h) TLe.refl (λb o ho=>World.cell?_of_block (Z b (I.sw b o ho)))⟩⟩;have I2:=I1.addrow d ⟨i.size,nw,false⟩ v' hrow' (λb hb=>by
   rcases O with O|⟨O,_⟩
   .rw[O]at hb;simp[Value.ownBlock]at hb
   rw[O]at hb;cases hb;exact I.vac (yV _)) (by have:=c.ntb;omega)
  refine sok hK hd hlt (run v' w' (by rw[hv];exact r1)) I2 (.sref d v' ?_ λr0 _=>by simp) hKs;rcases r2.2 with⟨rfl,_⟩|⟨_,_,_,rfl,_⟩<;>rfl
 have hml:∀n,n*i.bytes<=140737488355328->n<=maxLen:=by intro n hn;have:n*1<=n*i.bytes:=Nat.mul_le_mul_left _ hby0;simp only[maxLen];omega
 have src:=U2p I gy (isz:=i.size);have R:=Q2p gy;split at h
 .rename_i tt sy nw V;split at h
  .rename_i k A;split at h
   .rename_i r N;obtain⟨h1,hkb,h2,h3,h⟩:=h;obtain⟨pa,E,f,q1,q2,q3,q4,q5,q6,q7⟩:=src tt sy nw V h2;exact old k r nw f N hkb A h1 pa E q1 q2 q3 q4 q5 q6 q7 h3 (hml _ h3) h
   cases h
  .rename_i A;obtain⟨h2,h3,h⟩:=h;obtain⟨pa,E,f,q1,q2,q3,q4,q5,q6,q7⟩:=src tt sy nw V h2;exact new nw f A pa E q1 q2 q3 q4 q5 q6 q7 h3 (hml _ h3) h
  cases h
 .rename_i V;have Y:=R V;split at h
  .rename_i k A;rw[A]at gx;cases N:s.rw k with
   |none=>rw[N]at h;cases h|some r =>
    rw[N]at h;obtain⟨xs,ty,m,_⟩:=I.rws k r N;have hv:=gx.sref_inv N;have hr:(Builtin.append_ #[t,t] o.type #[a.eval p,a.eval q]).run P w=.ok (a.eval p) w:=by
     rw[Y,hv];rcases m.2 with⟨hh,hn⟩|⟨b,cap,cur,hh,_,hb,hnc,_,_,_⟩
     .rw[hh];simp[Builtin.append_,run_underlying ht,sizeOf,typeInfo,hi,Builtin.lenOf,Builtin.firstCells]
     rw[hh];simp[Builtin.append_,run_underlying ht,sizeOf,typeInfo,hi,Builtin.lenOf,Builtin.firstCells,hnc,storeCells]
    exact sok (g':=g) (s':=s) (w':=w) hK hd hlt (run _ _ hr) I gx h
  .rename_i A;exact new [] [] A none 0 (by simpa using Y) (by simp) (by simp) (by simp) (by simp) (by simp) (by intro j x u h;simp[flat]at h) (by simp) (by simp) h
  cases h
 cases h
theorem U1I(l:List UInt8):flat (l.map λb=>AV.int .u8 b.toNat)=l.map λb=>AV.int .u8 b.toNat:=by induction l with|nil=>rfl|cons b l a=>simp[List.map_cons,flat]at a ⊢;rw[a];rfl
theorem W2N(t u y e f:TypeId)(i:TypeInfo)(z:Value)(q:P.underlying t=some (.slice e))(p:P.underlying u=some .string)(x:P.info? e=some i)(A:i.zero=some z)(hzs:z.cells.size=1)(hsz:i.size=1)(hby:i.bytes=1)(v:Value)(n:Nat)(xs:List Value)(c:w.ownsRow 0 f 1 v n xs)(l:ByteArray)(hbytes:n+l.size<=140737488355328) : ∃v' w' ty1,(Builtin.append_ #[t,u] y #[v,.string l]).run P w=.ok v' w'/\w'.ownsRow 0 ty1 1 v' (n+l.size) (xs++Lib.strCells l)/\w.grownBy w' v.ownBlock /\ (v'.ownBlock=v.ownBlock\/(v'.ownBlock=some w.heap.size/\w.grownBy w' none)):=by
 have hxl:xs.length=n:=by simpa using c.1
 have m:=Lib.strCells_length l;have d:(xs++Lib.strCells l).length=(n+l.size)*1:=by rw[yU,hxl,m,Nat.mul_one]
 have a:∀(h:Nat) (o:Option Nat), (w.drew.alloc (.cells (xs.toArray++(Lib.strCells l).toArray++Builtin.zeroCells z.cells (grownCap w (n+l.size) h e-(n+l.size))) e)).ownsRow 0 e 1 (.slice (some ⟨w.heap.size,0,none⟩) (n+l.size) (grownCap w (n+l.size) h e)) (n+l.size) (xs++Lib.strCells l) /\ w.grownBy (w.drew.alloc (.cells (xs.toArray++(Lib.strCells l).toArray++Builtin.zeroCells z.cells (grownCap w (n+l.size) h e-(n+l.size))) e)) o:=by
  intro h o;have hge:=grownCap_ge w (n+l.size) h e;have hcm:=grownCap_le_maxLen w (n+l.size) h e (by simp only[maxLen];omega);refine⟨⟨d,.inr ⟨w.heap.size,_,_,rfl,Nat.zero_le _,heap_alloc_new w.drew _,hge,hcm,?_,?_⟩⟩,⟨rfl,rfl,rfl,by simp,λk hk _=>heap_alloc_old w.drew _ hk⟩⟩
  .simp only[Array.size_append,List.size_toArray,size_zeroCells,hzs,hxl,m];omega
  simp only[Array.toList_append,List.append_assoc];rw[← List.append_assoc,← d];exact List.take_left
 have hfs:=Lib.run_firstCells_string (P:=P) w 1 l;rcases c.2 with⟨rfl,rfl⟩|⟨b,cap,cur,rfl,hbg,B,hnc,hcm,hcs,htake⟩
 .have C:=List.eq_nil_of_length_eq_zero hxl;subst C;by_cases s:l.size=0
  .have hn:=List.eq_nil_of_length_eq_zero (by rw[m];exact s);refine⟨.slice none 0 0,w,f,?_,by rw[s,hn];exact World.ownsRow_nil w 0 f 1,World.grownBy.refl w _,.inl rfl⟩;rw[s]at hfs;simp[Builtin.append_,run_underlying q,run_underlying p,sizeOf,typeInfo,x,hsz,Builtin.lenOf,s,hfs]
  have r:=run_append_nil_string (P:=P) w t u y e i z q p x A l (by omega) (by omega) (by rw[hby];omega);have j:=a 0 (Value.ownBlock (.slice none 0 0));have hgr2:=a 0 none;simp only[Nat.zero_add,List.nil_append,Array.empty_append]at j hgr2 ⊢;have e1:(l.data.map λb=>Value.int .u8 b.toNat)=(Lib.strCells l).toArray:=Array.ext' (by simp[Lib.strCells]);rw[e1]at r;exact⟨_,_,e,r,j.1,j.2,.inr ⟨rfl,hgr2.2⟩⟩
 by_cases hroom:n+l.size<=cap
 .have hst:=run_storeCells_at P b n f (Lib.strCells l) 0 cur w B (by rw[m];omega) (Lib.strCells_oneCell l);simp[Nat.add_zero]at hst;refine⟨.slice (some ⟨b,0,none⟩) (n+l.size) cap,_,f,?_,⟨d,.inr ⟨b,cap,_,rfl,hbg,setRow_heap w b cur (cur.toList.take n++Lib.strCells l++cur.toList.drop (n+(Lib.strCells l).length)).toArray f _ B,hroom,hcm,?_,?_⟩⟩,⟨rfl,rfl,rfl,by simp,λk _ hk=>setRow_other w b k _ (λe=>hk (by simp[Value.ownBlock,e]))⟩,.inl rfl⟩
  .simp[Builtin.append_,run_underlying q,run_underlying p,sizeOf,typeInfo,x,hsz,Builtin.lenOf,hroom,hfs,Addr.add_lit,hst]
  .simp only[List.size_toArray,yU,List.length_take,List.length_drop,Array.length_toList,m];omega
  rw[Nat.mul_one]at htake;rw[htake,← d];exact List.take_left
 have holds:=c.cells (g:=b) rfl;have r:=Lib.run_append_grow_string (P:=P) w t u y e i z q p x A ⟨b,0,none⟩ n cap xs (by rw[hsz];exact c.1) holds l (by omega) (by omega) (growslice_fits (by omega) (by rw[hby];omega));have j:=a cap (Value.ownBlock (.slice (some ⟨b,0,none⟩) n cap));exact⟨_,_,e,r,j.1,j.2,.inr ⟨rfl,(a cap none).2⟩⟩
theorem W2O(I:Inv c g s a w)(hK:∀g' s' R w',Inv c g' s' R w'->K s'->K' R w')(hd:o.dst=some d)(E:d<c.nt){x y:X}{p q:Operand}{t u e:TypeId}{i:TypeInfo}{z:Value}(ho:o.op=.call { callee:=.builtin .append,args:=#[p,q],argTypes:=#[t,u] })(ht:P.underlying t=some (.slice e))(n:P.underlying u=some .string)(hi:P.info? e=some i)(Y:i.zero=some z)(hs:i.size=1)(J:i.bytes=1)(A:z.cells.size=1)(m:chkX x p=true)(Z:chkX y q=true)(h:wop P (.ab d x y) K s):o.wp P a w K' Q':=by
 simp[wop]at h;have Q:=I.get m;have O:=I.get Z;split at h
 .rename_i l B;rw[B]at O;have hq:=O.str_inv;split at h
  .rename_i k D;split at h
   .rename_i r G;obtain⟨N,F,h3,h⟩:=h;obtain⟨xs,T,f,v,hc⟩:=I.rws k r G;rw[D]at Q;have hv:=Q.sref_inv G;rw[N]at f v;have M:(⟨l.toArray⟩:ByteArray).size=l.length:=by show l.toArray.size=_;simp
    obtain⟨v',w',S,W,L,V,U⟩:=W2N (P:=P) t u o.type e T i z ht n hi Y A hs J (g.rv k) _ xs f ⟨l.toArray⟩ (by rw[M];exact h3);have H:Lib.strCells ⟨l.toArray⟩=l.map λb=>Value.int .u8 b.toNat:=by simp[Lib.strCells]
    rw[M,H]at L;refine J2N (nw:=l.map λb=>AV.int .u8 b.toNat) I hK hd E G F N f (v':=v') (w':=w') ?_ (by simpa using L) V U (λe he=>?_) (λj x u m n=>?_) h
    .simp[execOp,ho,resolve,invoke,builtin];simp[hq,hv,W]
    .rcases List.mem_append.1 he with h|h
     .exact v e h
     obtain⟨b,_,rfl⟩:=yY h;rfl
    rw[W1l]at m;have C:(flat r.es).length=xs.length:=by rw[L0B v,f.1]
    by_cases hj:j<xs.length
    .rw[yK (by omega)]at m;rw[yK hj]at n;exact hc j x u m n
    rw[yS (by omega),U1I,yF]at m;rw[yS (by omega),← C,yF]at n;cases hb:l[j-(flat r.es).length]? with|none=>rw[hb]at m;cases m|some b =>rw[hb]at m n;cases m;cases n;exact⟨rfl,rfl,.int _ _⟩
   cases h
  cases h
 cases h
theorem Gv.el_inv{v:Value}(h:Gv w g s .el v):∃a,v=.slice a 0 0:=by cases h with|data _ _ h=>cases h|el a=>simp
theorem W2A(I:Inv c g s a w)(W:∀g' s' a' w',Inv c g' s' a' w'->K s'->K' a' w')(U:o.dst=some d)(n:d<c.nt){x y:X}{p q:Operand}{t e:TypeId}{i:TypeInfo}{z:Value}{Z C:Nat}(ho:o.op=.call { callee:=.builtin .append,args:=#[p,q],argTypes:=#[t,t] })(G:P.underlying t=some (.slice e))(H:P.info? e=some i)(hz:i.zero=some z)(hs:i.size=Z)(V:i.bytes=C)(hby0:0<C)(hzs:z.cells.size=i.size)(E:chkX x p=true)(hy:chkX y q=true)(h:wop P (.ae d x y Z C) K s):o.wp P a w K' Q':=by
 subst hs;subst V;simp only[wop]at h;have gx:=I.get E;have gy:=I.get hy;have l:∀v' w',(Builtin.append_ #[t,t] o.type #[a.eval p,a.eval q]).run P w=.ok v' w'->(execOp a.eval o).run P w=.ok (.value v') w':=by simp_all[execOp,resolve,Result.andThen_ok,invoke,builtin]
 split at h
 .rename_i hxe;rw[hxe]at gx;obtain⟨Y,R⟩:=gx.el_inv;have none':∀B pa,a.eval q=.slice pa 0 B->(Builtin.append_ #[t,t] o.type #[a.eval p,a.eval q]).run P w=.ok (.slice Y 0 0) w:=by
   intro B pa hq;have hfc:(Builtin.firstCells i.size 0 (.slice pa 0 B)).run P w=.ok #[] w:=by cases pa<;>simp[Builtin.firstCells,loadCells,loadCellsFrom]
   rw[R,hq];cases Y with|none=>simp[Builtin.append_,run_underlying G,sizeOf,typeInfo,H,Builtin.lenOf,hfc]|some b=>simp[Builtin.append_,run_underlying G,sizeOf,typeInfo,H,Builtin.lenOf,hfc,storeCells]
  split at h
  .rename_i tt sy f r;obtain⟨h2,h3,h⟩:=h;obtain⟨pa,B,k,M,q2,D,q4,q5,q6,L⟩:=U2p I gy (isz:=i.size) tt sy f r h2;by_cases hn:f.length=0
   .have hn':=List.eq_nil_of_length_eq_zero hn;subst hn';exact sok (g':=g) (s':=s) (w':=w) W U n (l _ _ (none' B pa (by simpa using M))) I (.data _ _ (.sl0 _ _ _ _ λ_ e=>by cases e)) h
   obtain⟨J,rfl⟩:=Option.isSome_iff_exists.1 (q2 (by omega));have m:f.length<=maxLen:=by have:f.length*1<=f.length*i.bytes:=Nat.mul_le_mul_left _ hby0;simp only[maxLen];omega
   have hcells:∀j v,k[j]?=some v->w.cell? (J.add j)=some v:=by intro j u hj;obtain⟨ad',e1,e2⟩:=q6 (by have:=(yB hj).1;omega);cases e1;exact e2 j u hj
   have hm9:f.length<=9223372036854775807:=by simp only[maxLen]at m;omega
   have F:∀(cap:Nat),f.length<=cap->cap<=maxLen->(Builtin.append_ #[t,t] o.type #[a.eval p,a.eval q]).run P w=.ok (.slice (some ⟨w.heap.size,0,none⟩) f.length cap) (w.drew.alloc (.cells (k.toArray++Builtin.zeroCells z.cells (cap-f.length)) e))->o.wp P a w K' Q':=by
    intro cap hc1 hc2 Q;have hold:∀b,b<w.heap.size->(w.drew.alloc (.cells (k.toArray++Builtin.zeroCells z.cells (cap-f.length)) e)).heap[b]?=w.heap[b]?:=λb A=>heap_alloc_old w.drew _ A;have T0:∀b o,g.S b o->(w.drew.alloc (.cells (k.toArray++Builtin.zeroCells z.cells (cap-f.length)) e)).cell? ⟨b,o,none⟩=w.cell? ⟨b,o,none⟩:=λb o ho=>World.cell?_of_block (hold b (I.sw b o ho));have I1:=I.grow (w':=w.drew.alloc (.cells (k.toArray++Builtin.zeroCells z.cells (cap-f.length)) e)) (S':=λb o=>g.S b o\/(b=w.heap.size)) rfl rfl rfl (by simp) hold (λ_ _ h=>.inl h) (λb o h=>by
     rcases h with h|h
     .exact .inl h
     exact .inr ⟨by omega,by subst h;simp⟩) (λb o h=>h.imp id λh=>by subst h;exact .plain (heap_alloc_new w.drew _))
    have hrow:QU (w.drew.alloc (.cells (k.toArray++Builtin.zeroCells z.cells (cap-f.length)) e)) (λb o=>g.S b o\/(b=w.heap.size)) g.T ⟨i.size,f,false⟩ (.slice (some ⟨w.heap.size,0,none⟩) f.length cap):=by
     refine⟨k,e,⟨D,.inr ⟨w.heap.size,cap,_,rfl,Nat.zero_le _,heap_alloc_new w.drew _,hc1,hc2,?_,?_⟩⟩,q5,λj x u E N=>⟨(L j x u E N).1,(L j x u E N).2.1,(L j x u E N).2.2.mono (λ_ _ h=>.inl h) TLe.refl T0⟩⟩
     .simp only[Array.size_append,List.size_toArray,size_zeroCells,hzs,D,← Nat.add_mul];congr 1;omega
     simp only[Array.toList_append];rw[← D];exact List.take_left
    refine sok W U n (l _ _ Q) I1 (.data _ _ (V0a hrow (λb o A _=>?_) .nw (λb A=>?_))) h
    .simp only[Value.ownBlock,yI]at A;exact .inr A.symm
    simp only[Value.ownBlock,yI]at A;subst A;exact⟨I.nn _ I.fr.size,(I.vac (yV _)).O⟩
   cases Y with|none =>apply F (grownCap w f.length 0 e) (grownCap_ge ..) (grownCap_le_maxLen _ _ _ _ m);rw[R,M];exact run_append_nil (P:=P) w t o.type e i z G H hz J f.length B k D hcells (by omega) (by omega) (by omega)|some b =>refine F (grownCap w (0+f.length) 0 e) (by rw[Nat.zero_add];exact grownCap_ge ..) (by rw[Nat.zero_add];exact grownCap_le_maxLen _ _ _ _ m) ?_;rw[R,M];have Q:=run_append_grow (P:=P) w t o.type e i z G H hz b 0 0 [] (by simp) (by intro j v h;simp at h) J f.length B k D hcells (by omega) (by omega) (growslice_fits (by omega) (by simpa using h3));simpa using Q
  .rename_i r;exact sok (g':=g) (s':=s) (w':=w) W U n (l _ _ (none' 0 none (Q2p gy r))) I (.data _ _ (.sl0 _ _ _ _ λ_ e=>by cases e)) h
  cases h
 cases h
theorem X2A(I:Inv c g s a w)(m:∀g' s' i w',Inv c g' s' i w'->K s'->K' i w')(l:o.dst=some d)(f:d<c.nt){t e:TypeId}(q:o.op=.buildSlice t 0 #[])(p:P.underlying t=some (.slice e)){j:Nat}(k:tsz P e=some j)(h:wop P (.be d) K s):o.wp P a w K' Q':=by
 simp[wop]at h;have b:(execOp a.eval o).run P w=.ok (.value (.slice (some ⟨w.heap.size,0,none⟩) 0 0)) (w.alloc (.cells #[] e)):=by simp_all[execOp,Instr.buildSlice,run_underlying,Ws,Instr.fill,newRow,Array.map,Array.range,Array.eq_empty_of_size_eq_zero]
 have n:=I.grow (w':=w.alloc (.cells #[] e)) (S':=g.S) rfl rfl rfl (by simp) (by grind[heap_alloc_old]) (λ_ _ h=>h) (by grind);exact sok m l f b n (.el _) h
end ops
end
end
section
section
variable{P:Program}{c:Cx}{g:Gh}{s:St}{a:Act}{w:World}
theorem W2f{y:AV}(h:y.one=true):y.cells=[y]:=by cases y with|agg cs=>cases h|_=>rfl
theorem Z20(a n:Nat):∀(c:List Value)(k:Nat)(cs:List Value),cs.length=n*a->k+c.length=n->(∀v∈c,v.cells.size=a) -> Instr.fill (λi=>some (i*a,a)) cs.toArray (c.zipIdx k |>.map λ(v,i)=>(i,v))=some ((cs.take (k*a))++c.flatMap (λv=>v.cells.toList)).toArray
 |[],k,cs,hl,hk,_=>by simp[List.length_nil,Nat.add_zero]at hk;subst hk;simp[Instr.fill,List.take_of_length_le (Nat.le_of_eq hl)]|v::c,k,cs,hl,hk,hv=>by
  have b:=hv v (by simp);simp[]at hk;have h:k*a+a<=n*a:=by rw[← Nat.succ_mul];exact Nat.mul_le_mul_right _ (by omega)
  simp only[List.zipIdx_cons,List.map_cons,Instr.fill];rw[ye (by simp[b,hl];omega)];have d:=Q1l (k*a) v.cells.toList 0 cs.toArray (by simp[b,hl];omega);simp[Nat.add_zero]at d;have e:(v.cells.zipIdx.foldl (λcs (x:Value×Nat)=>cs.setIfInBounds (k*a+x.2) x.1) cs.toArray)=(putV cs (k*a) v.cells.toList).toArray:=by rw[← d,← Array.foldl_toList];simp
  have j:=e;have f:=Z20 a n c (k+1) (putV cs (k*a) v.cells.toList) (by rw[O19 (by simp[b,hl];omega)];exact hl) (by omega) (λu g=>hv u (by simp[g]));simp only[j];rw[f];congr 1;congr 1;simp[];rw[← List.append_assoc];congr 1;unfold putV;exact List.take_left' (by rw[yU,List.length_take,show v.cells.toList.length=a from by simpa using b,Nat.succ_mul];omega)
section ops
variable{o:Oper}{d:Nat}{K:St->Prop}{K':Act->World->Prop}{Q':Exit->Act->World->Prop}
theorem W1I:∀{l m:List AV},s.dtL l=some m->l.length=m.length
 |[],m,h=>by grind[St.dtL,yI]|x::l,m,h=>by
  simp[St.dtL]at h;split at h
  .rename_i c b d a;simp[]at h;subst h;simp[W1I a]
  .cases h
theorem O1I:∀{l m:List AV},s.dtL l=some m->∀(i:Nat)(x y:AV),l[i]?=some x->m[i]?=some y->s.dt x=some y
 |[],m,h,i,x,y,hx,_=>by simp at hx|x0::l,m,h,i,x,y,hx,hy=>by
  simp[St.dtL]at h;split at h
  .rename_i d c b a;simp[]at h;subst h;cases i with|zero=>simp at hx hy;subst hx;subst hy;exact b|succ i=>simp at hx hy;exact O1I a i x y hx hy
  .cases h
theorem Z2A(I:Inv c g s a w)(hK:∀g' s' a' w',Inv c g' s' a' w'->K s'->K' a' w')(hd:o.dst=some d)(Y:d<c.nt){ps:List X}{qs:List Operand}{t e:TypeId}{k:Nat}{Q:Bool}{zv:Value}(ho:o.op=.buildSlice t qs.length (qs.zipIdx.map λ(q,i)=>(i,q)).toArray)(ht:P.underlying t=some (.slice e))(hsz:tsz P e=some k)(hz:((P.info? e).bind (·.zero))=some zv)(z:ps.length=qs.length/\∀(i:Nat)(x:X)(p:Operand),ps[i]?=some x->qs[i]?=some p->chkX x p=true)(h:wop P (.bs d k ps Q) K s):o.wp P a w K' Q':=by
 simp only[wop]at h;split at h
 .rename_i es hes;obtain⟨h0,h1,h2,h3,h⟩:=h;have C:es.length=qs.length:=by have:=W1I hes;simp at this;omega
  have A:∀(i:Nat) (y:AV) (q:Operand),es[i]?=some y->qs[i]?=some q->Rd w g.S g.T y (a.eval q):=by
   intro i y q L F;have hi:i<ps.length:=by have:=(yB F).1;omega
   have R:(ps.map s.get)[i]?=some (s.get ps[i]):=by simp[hi]
   have hdt:=O1I hes i _ y R L;have hn:nosr (s.get ps[i])=true:=by rw[List.all_eq_true]at h0;exact h0 _ (yE R)
   exact I.plain hn hdt (I.get (z.2 i ps[i] q (yA hi) F))
  have hcl:∀(i:Nat) (y:AV) (q:Operand),es[i]?=some y->qs[i]?=some q->(a.eval q).cells.size=k/\y.cells.length=k:=by intro i y q L F;have M:=A i y q L F;obtain⟨us,r,W,_⟩:=(Gv.data (s:=s) y _ M).cells (M.allOne id);have:=h1 y (yE L);exact⟨by rw[r];simp;omega,this⟩
  have U:∀v∈qs.map a.eval,v.cells.size=k:=by intro v J;obtain⟨q,F,rfl⟩:=yY J;obtain⟨i,hi,rfl⟩:=List.getElem_of_mem F;exact(hcl i es[i] _ (by simp) (by simp)).1
  have f:∀(j:Nat) (x:AV) (u:Value),(flat es)[j]?=some x->((qs.map a.eval).flatMap λv=>v.cells.toList)[j]?=some u->x.one=true/\u.oneCell'=true/\Rd w g.S g.T x u:=by
   have key:∀(es:List AV) (n:List Value),es.length=n.length->(∀(i:Nat) (y:AV) (v:Value),es[i]?=some y->n[i]?=some v->Rd w g.S g.T y v) -> ∀(j:Nat) (x:AV) (u:Value),(flat es)[j]?=some x->(n.flatMap λv=>v.cells.toList)[j]?=some u->x.one=true/\u.oneCell'=true/\Rd w g.S g.T x u:=by
    intro es;induction es with
    |nil=>intro n _ _ j x u h;simp[flat]at h|cons y l ih =>
     intro n hl hc j x u z r;match n,hl with
     |v::n,hl =>
      have M:=hc 0 y v rfl rfl;obtain⟨us,V,W,hua⟩:=(Gv.data (s:=s) y _ M).cells (M.allOne id);have hvt:v.cells.toList=us:=by rw[V]
      simp only[flat,ya,hvt]at z r;by_cases hj:j<us.length
      .rw[yK (by omega)]at z;rw[yK hj]at r;have:=hua j x u z r;exact⟨this.1,this.2.1,M.cell z (by rw[V];simpa using r)⟩
      rw[yS (by omega)]at z;rw[yS (by omega)]at r;rw[W]at z;exact ih n (by simpa using hl) (λi=>hc (i+1)) _ x u z r
   exact key es (qs.map a.eval) (by simp[C]) (λi y v L J=>by rw[yF]at J;obtain⟨q,F,rfl⟩:=yC J;exact A i y q L F)
  have m:((qs.map a.eval).flatMap λv=>v.cells.toList).length=es.length*k:=by
   have:∀(n:List Value),(∀v∈n,v.cells.size=k)->(n.flatMap λv=>v.cells.toList).length=n.length*k:=by intro n;induction n with|nil=>simp|cons v l ih=>intro J;simp[ih (λu r=>J u (by simp[r])),J v (by simp),Nat.succ_mul];omega
   rw[this _ U];simp[C]
  have D:(execOp a.eval o).run P w=.ok (.value (.slice (some ⟨w.heap.size,0,none⟩) es.length es.length)) (w.alloc (.cells ((qs.map a.eval).flatMap λv=>v.cells.toList).toArray e)):=by
   have Z:∀N:Array Value,Instr.fill (λi=>some (i*k,k)) ((Array.range (qs.length*k)).map (N[· % N.size]!)) (((qs.map a.eval).zipIdx 0).map λ(v,i)=>(i,v))=some ((qs.map a.eval).flatMap λv=>v.cells.toList).toArray:=by intro N;have Z:=Z20 k qs.length (qs.map a.eval) 0 ((Array.range (qs.length*k)).map (N[· % N.size]!)).toList (by simp) (by simp) U;simpa only[Array.toArray_toList,Nat.zero_mul,List.take_zero,List.nil_append]using Z
   have e2:((qs.zipIdx.map λ(q,i)=>(i,q)).toArray.map λ(i,x)=>(i,a.eval x)).toList=((qs.map a.eval).zipIdx 0).map λ(v,i)=>(i,v):=by simp[List.zipIdx_map]
   have hle:¬ (qs.length*k > 2 ^ 24):=by rw[← C];omega
   simp only[execOp,ho,Sem.run_bind,Instr.buildSlice,run_underlying ht,Result.andThen_ok,Ws hsz,ye hle,Sem.run_pure];rw[e2];by_cases hq0:qs.length*k=0
   .simp_all[Result.andThen_ok,newRow]
   simp_all[Sem.run_bind,V1B,Result.andThen_ok,newRow]
  have G:=heap_alloc_new w (.cells ((qs.map a.eval).flatMap λv=>v.cells.toList).toArray e);have B:∀b,b<w.heap.size->(w.alloc (.cells ((qs.map a.eval).flatMap λv=>v.cells.toList).toArray e)).heap[b]?=w.heap[b]?:=λb H=>heap_alloc_old w _ H;have hml:es.length<=maxLen:=by simp only[maxLen];omega
  have T0:∀b o,g.S b o->(w.alloc (.cells ((qs.map a.eval).flatMap λv=>v.cells.toList).toArray e)).cell? ⟨b,o,none⟩=w.cell? ⟨b,o,none⟩:=λb o ho=>World.cell?_of_block (B b (I.sw b o ho));have E:∀S',(∀b o,g.S b o->S' b o)->QU (w.alloc (.cells ((qs.map a.eval).flatMap λv=>v.cells.toList).toArray e)) S' g.T ⟨k,es,false⟩ (.slice (some ⟨w.heap.size,0,none⟩) es.length es.length):=λS' hS' =>⟨(qs.map a.eval).flatMap λv=>v.cells.toList,e,⟨m,.inr ⟨w.heap.size,es.length,_,rfl,Nat.zero_le _,G,yV _,hml,by rw[List.size_toArray];exact m,List.take_of_length_le (Nat.le_of_eq m)⟩⟩,h1, λj x u z r=>⟨(f j x u z r).1,(f j x u z r).2.1,(f j x u z r).2.2.mono hS' TLe.refl T0⟩⟩;cases Q with
  |true =>simp only[yb]at h;have I1:=I.grow (w':=w.alloc (.cells ((qs.map a.eval).flatMap λv=>v.cells.toList).toArray e)) (S':=g.S) rfl rfl rfl (by simp) B (λ_ _ h=>h) (λ_ _ h=>.inl h);have I2:=I1.addrow d ⟨k,es,false⟩ _ (E g.S (λ_ _ h=>h)) (λb H=>by simp only[Value.ownBlock,yI]at H;subst H;exact I.vac (yV _)) (by have:=c.ntb;omega);exact sok hK hd Y D I2 (.sref d _ rfl λr0 _=>by simp) h|false =>
   simp only[yG,yc]at h;have I1:=I.grow (w':=w.alloc (.cells ((qs.map a.eval).flatMap λv=>v.cells.toList).toArray e)) (S':=λb o=>g.S b o\/(b=w.heap.size)) rfl rfl rfl (by simp) B (λ_ _ h=>.inl h) (λb o h=>by
    rcases h with h|h
    .exact .inl h
    exact .inr ⟨by omega,by subst h;simp⟩) (λb o h=>h.imp id λh=>by subst h;exact .plain G)
   refine sok hK hd Y D I1 (.data _ _ (V0a (E _ (λ_ _ h=>.inl h)) (λb o H _=>?_) .nw (λb H=>?_))) h
   .grind[Value.ownBlock,yI]
   simp only[Value.ownBlock,yI]at H;subst H;exact⟨I.nn _ I.fr.size,(I.vac (yV _)).O⟩
 cases h
theorem J1o(n b:Nat)(e:AV)(g:e.cells.length=b)(j:Nat)(x:AV)(a:(flat (List.replicate n e))[j]?=some x):j<n*b/\e.cells[j % b]?=some x:=by
 induction n generalizing j with
 |zero=>simp[flat]at a|succ n c =>
  simp[List.replicate_succ,flat]at a c;by_cases f:j<b
  .rw[yK (by omega)]at a;exact⟨by rw[Nat.succ_mul];omega,by rw[Nat.mod_eq_of_lt f];exact a⟩
  rw[yS (by omega),g]at a;obtain⟨h,d⟩:=c (j-b) a;exact⟨by rw[Nat.succ_mul];omega,by rw[Nat.mod_eq_sub_mod (by omega)];exact d⟩
theorem V2y(I:Inv c g s a w)(hK:∀g' s' a' w',Inv c g' s' a' w'->K s'->K' a' w')(hd:o.dst=some d)(W:d<c.nt){x:X}{p:Operand}{t e:TypeId}{i:TypeInfo}{r:Value}{z:List AV}{f A:Nat}(ho:o.op=.makeSlice t p p)(ht:P.underlying t=some (.slice e))(hi:P.info? e=some i)(hz:i.zero=some r)(hs:i.size=f)(Z:i.bytes=A)(D:vmL z r.cells.toList=true)(l:allOne z=true)(E:z.length=f)(F:0<f)(hx:chkX x p=true)(h:wop P (.ms d f A z x) K s):o.wp P a w K' Q':=by
 simp[wop]at h;have gx:=I.get hx;split at h
 .rename_i k m hm;rw[hm]at gx;obtain⟨O,h2,h3,h⟩:=h;obtain⟨n,rfl⟩:=Int.eq_ofNat_of_zero_le O;have J:n<=maxLen:=by simp only[maxLen];omega
  have hbn:i.bytes*n<=140737488355328:=by
   rw[Z];have h2':((A*n:Nat):Int)<=140737488355328:=by rw[Int.natCast_mul];exact h2
   omega
  obtain⟨w',r1,r2,B⟩:=run_make_full (P:=P) w 0 t e i r f ht hi hz hs k k n (by omega) J (Nat.zero_le _);simp[]at h;have L:∀(n:Nat),((if f=1 then z.getD 0 .bad else .agg z:AV)).cells.length=f/\(if f=1 then z.getD 0 .bad else .agg z:AV).cells=z:=by
   intro _;split
   .rename_i O;match z,l,(E.trans O:z.length=1)with|[y],l,_ =>have:=W2f (by simpa[allOne]using l);show y.cells.length=f/\y.cells=[y];rw[this];exact⟨O.symm,rfl⟩
   exact⟨E,rfl⟩
  have H:=λb M=>B.block b M (by simp);have hal:=M1U (w:=w) (g:=g) (s:=s) D l;have G:QU w' g.S g.T ⟨f,List.replicate n (if f=1 then z.getD 0 .bad else .agg z),false⟩ (.slice (some ⟨w.heap.size,0,none⟩) n n):=by
   refine⟨_,e,by simpa using r2,by simp_all,λj y u hy V=>?_⟩;obtain⟨q1,Q⟩:=J1o n f _ (L 0).1 j y hy;rw[(L 0).2]at Q;have C:r.cells.size=f:=by have:=hal.1;simp at this;omega
   have U:u=r.cells[j % r.cells.size]!:=by simp only[madeCells,Array.toList_map,yF,Array.toList_range]at V;rw[List.getElem?_range q1]at V;simpa using V.symm
   have Y:j % f<f:=Nat.mod_lt _ F;have R:r.cells.toList[j % f]?=some u:=by rw[U,C];simp[C,Y]
   have hr:=(Z1W (w:=w') (S:=g.S) (N:=g.T) D).2 _ y u Q R;have q:y.one=true:=by simp[allOne,List.all_eq_true]at l;exact l y (yE Q)
   exact⟨q,hr.one_cell q,hr⟩
  have I1:=I.grow (w':=w') (S':=g.S) B.os B.tape B.output B.size H (λ_ _ h=>h) (λ_ _ h=>.inl h);have I2:=I1.addrow d _ _ G (λb M=>by simp[Value.ownBlock]at M;subst M;exact I.vac (yV _)) (by have:=c.ntb;omega);refine sok (v:=.slice (some ⟨w.heap.size,0,none⟩) n n) hK hd W ?_ I2 (.sref d _ rfl λr0 _=>by simp) h;have hp:=gx.int_inv;simp_all[execOp]
 cases h
end ops
end
end
end Go.Proofs.YtehomnafaoplgaaGreat.Eng
