/-
  Lemmas, part 3.
-/
import Derived.Test.YtehomnafaoplgaaGreatY2
import Derived.Laws.BytesString
import Derived.Laws.IdiomStrings
namespace Go.Proofs.YtehomnafaoplgaaGreat.Eng
open Go Go.RowKit
section
section
variable{P:Program}{c:Cx}{g:Gh}{s:St}{a:Act}{w:World}
theorem Al.turn{w':World}{g':Gh}{s':St}{cs:List AV}{c:List Value}(T:Turn (λ_=>True) w w' g g' s s')(h:Al w g s cs c):Al w' g' s' cs c :=⟨h.1,λi y u a b=>⟨(h.2 i y u a b).1,(h.2 i y u a b).2.1,(h.2 i y u a b).2.2.turn T⟩⟩
theorem Y2k{b:List AV}{c:Nat}(g:∀e∈b,e.cells.length=c){i off:Nat}{e j:AV}{d:List AV}(a:b[i]?=some e)(n:off+d.length<=e.cells.length)(f:j.cells=putC e.cells off d) : flat (b.set i j)=putC (flat b) (i*c+off) d:=by induction b generalizing i with|nil=>simp at a|cons x l k =>have m:=g x (by simp);cases i with|zero =>simp at a;subst a;simp[List.set_cons_zero,flat,f,Nat.zero_mul,Nat.zero_add];unfold putC;rw[List.take_append_of_le_length (by omega),List.drop_append_of_le_length (by omega)];simp|succ i =>simp at a;have:=k (λe h=>g e (by simp[h])) a;simp[flat,List.set_cons_succ]at this ⊢;rw[this];unfold putC;rw[show(i+1)*c+off=x.cells.length+(i*c+off) by rw[m,Nat.succ_mul];omega];rw[List.take_length_add_append,Nat.add_assoc (x.cells.length),List.drop_length_add_append];simp
theorem Y28{cs a:List Value}{p m:Nat}(h:p+a.length<=m)(c:m<=cs.length):(putV cs p a).take m=putV (cs.take m) p a:=by
 apply List.ext_getElem?;intro i;rw[List.getElem?_take,U0B (by omega),U0B (by rw[List.length_take];omega),List.getElem?_take];by_cases b:i<m
 .simp[b]
 rw[ye b,ye (by omega),ye b]
theorem V10{t:TypeId}{n:Nat}(g:tsz P t=some n)(b o:Nat)(v:Value)(us:List Value)(f:v.cells=us.toArray)(e:us.length=n)(a:Array Value)(d:TypeId)(h:w.heap[b]?=some (.cells a d (0,0)))(c:o+n<=a.size)(i:∀u∈us,u.oneCell'=true) : (Instr.storeAt t (.pointer (some ⟨b,o,none⟩)) v).run P w=.ok () (w.setRow b (putV a.toList o us).toArray):=by have:=run_storeCells_at P b o d us 0 a w h (by rw[e];simpa using c) i;simp[Nat.add_zero]at this;simp[Instr.storeAt,Instr.sureAddr,Sem.run_bind,Result.andThen_ok,storeVar,Ws g,f];simp[e,this,putV]
theorem Rd.allOne{S:Nat->Nat->Prop}{N:Tag->Nat->Value->Prop}{x:AV}{v:Value}(h:Rd w S N x v)(_:True->True):allOne x.cells=true:=by cases h with|agg cs b c a h=>simpa[Eng.allOne,AV.cells]using a|_=>simp[Eng.allOne,AV.cells,AV.one]
theorem Rd.cell{S:Nat->Nat->Prop}{N:Tag->Nat->Value->Prop}{x:AV}{v:Value}(h:Rd w S N x v){j:Nat}{y:AV}{u:Value}(a:x.cells[j]?=some y)(b:v.cells[j]?=some u):Rd w S N y u:=by have c:=h;cases h with|agg cs d e f h=>exact h j y u a (by simpa[Value.cells]using b)|_ =>cases j with|zero=>simp[AV.cells,Value.cells]at a b;subst a;subst b;exact c|succ j=>simp[AV.cells]at a
theorem Z1C{x:AV}(h:plain x=true):s.dt x=some x:=by cases x<;>simp[plain]at h<;>rfl
theorem Y1M:∀{cs:List AV},cs.all plain=true->s.dtL cs=some cs
 |[],_=>rfl|x::l,h=>by simp only[List.all_cons,yD]at h;simp[St.dtL,Z1C h.1,Y1M h.2]
theorem Q1C{x:AV}(h:nosr x=true):s.dt x=some x:=by cases x with|agg cs=>simp only[nosr]at h;simp[St.dt,Y1M h]|_=>first|exact Z1C h|simp[nosr,plain]at h
theorem W1X{x:AV}{v:Value}(a:plain x=true)(h:Gv w g s x v):Rd w g.S g.T x v:=by cases h with|data _ _ h=>exact h|_=>simp[Eng.plain]at a
theorem Inv.plain(_:Inv c g s a w){x y:AV}{v:Value}(b:nosr x=true)(e:s.dt x=some y)(h:Gv w g s x v):Rd w g.S g.T y v:=by
 rw[Q1C b]at e;cases e;cases x with
 |agg cs =>simp[nosr,List.all_eq_true]at b;cases h with|data _ _ h=>exact h|agg _ f k m l =>refine .agg cs f k (λa d=>?_) (λi a v d j=>W1X (b a (yE d)) (l i a v d j));have:=b a d;cases a<;>simp[Eng.plain]at this<;>rfl
 |_=>exact W1X (by simpa[nosr]using b) h
section ops
variable{o:Oper}{d:Nat}{K:St->Prop}{K':Act->World->Prop}{Q':Exit->Act->World->Prop}
theorem M2x(I:Inv c g s a w)(hK:∀g' s' a' w',Inv c g' s' a' w'->K s'->K' a' w')(hd:o.dst=none){x y:X}{p q:Operand}{t:TypeId}{n:Nat}(ho:o.op=.store t p q)(hs:tsz P t=some n)(J:chkX x p=true)(hy:chkX y q=true)(h:wop P (.st x y n) K s):o.wp P a w K' Q':=by
 have F:∀g' s' w',(Instr.storeAt t (a.eval p) (a.eval q)).run P w=.ok () w'->Inv c g' s' a w'->K s'->o.wp P a w K' Q':=by
  intro g' s' w' hr I' l;have hr':(execOp a.eval o).run P w=.ok .skip w':=by simp[execOp,ho,hr]
  unfold Oper.wp;rw[hr',Oper.upon_skip,hd];exact hK _ _ _ _ I' l
 simp[wop]at h;have gx:=I.get J;have gy:=I.get hy;split at h
 .rename_i k off e;rw[e]at gx;split at h
  .rename_i cs l;obtain⟨h1,h2,h3,h⟩:=h;obtain⟨us,hv,m,d⟩:=gy.cells h3;obtain⟨V,L,D,hvl,hva⟩:=I.bxs k cs l;have B:∀u∈us,u.oneCell'=true:=by
    intro u f;obtain⟨i,Q,rfl⟩:=List.getElem_of_mem f;have O:i<(s.get y).cells.length:=by rw[m];exact Q
    exact(d i _ _ (yA O) (yA Q)).2.1
   have hr:=V10 (P:=P) hs (g.bb k) off (a.eval q) us hv (by omega) V.toArray L D (by rw[List.size_toArray];omega) B;rw[gx.ptr_inv l]at F;refine F g _ _ hr ?_ h;have W:=X10 w (g.bb k) (putV V.toArray.toList off us).toArray;have T:Turn (λ_=>True) w (w.setRow (g.bb k) (putV V.toArray.toList off us).toArray) g g s { s with bx:=λj=>if j=k then some (putC cs off (s.get y).cells)else s.bx j } := ⟨λ_ _ h=>h,λ_ h=>h,TLe.of (λ_ h=>h) rfl,λb o ho=>World.cell?_of_block (W.block b (λe=>(I.bxn k cs l).2 o (e ▸ ho))),λj _ r h=>⟨r,h,rfl,rfl⟩,λj _ c' h=>by
    by_cases hj:j=k
    .subst hj;exact⟨cs,l,rfl⟩
    simp[hj]at h;exact⟨c',h,rfl⟩,λ_ _ h=>h,O1e λb D=>W.block b λe=>I.ow.bx k cs l (e ▸ D)⟩
   have A1:Al w g s cs V:=⟨hvl.symm,hva⟩;have A2:Al w g s (s.get y).cells us:=⟨m,λi z u hz f=>⟨.inl (d i z u hz f).1,(d i z u hz f).2⟩⟩;have A3:=(A1.put A2 (off:=off) (by omega)).turn T;exact  I.setbox l W ⟨putV V off us,L, setRow_heap w (g.bb k) V.toArray _ L (0,0) D,A3.1.symm,A3.2⟩
  cases h
 .rename_i k i off e;rw[e]at gx;split at h
  .rename_i r l;split at h
   .rename_i G v R hdt;obtain⟨Z,h1,h2,hno,h⟩:=h;obtain⟨b,D,hp⟩:=gx.rpt_inv l;have M:=I.plain hno hdt gy;have N:=M.allOne id;obtain⟨us,hv,m,d⟩:=(Gv.data (s:=s) v _ M).cells N;have B:∀u∈us,u.oneCell'=true:=by
     intro u f;obtain⟨i,Q,rfl⟩:=List.getElem_of_mem f;have O:i<v.cells.length:=by rw[m];exact Q
     exact(d i _ _ (yA O) (yA Q)).2.1
    have hrow:=I.rws k r l;obtain⟨xs,L,A,E,hc⟩:=hrow;have hel':=E G (yE R);have Q:=(yB R).1;rcases A.2 with⟨hn,_⟩|⟨U,cap,H,Y,h0,hbk,q1,q2,q3,q4⟩
    .rw[hn]at D;simp[Value.ownBlock]at D
    have hbb:U=b:=by rw[Y]at D;simpa[Value.ownBlock]using D
    subst hbb;have hmul:i*r.sz+r.sz<=r.es.length*r.sz:=by rw[← Nat.succ_mul];exact Nat.mul_le_mul_right _ Q
    have hmul2:r.es.length*r.sz<=cap*r.sz:=Nat.mul_le_mul_right _ q1;have hr:=V10 (P:=P) hs U (i*r.sz+off) (a.eval q) us hv (by omega) H L hbk (by omega) B;rw[hp]at F;refine F g _ _ hr ?_ h;have W:=X10 w U (putV H.toList (i*r.sz+off) us).toArray;have hS:∀b o,g.S b o->(w.setRow U (putV H.toList (i*r.sz+off) us).toArray).cell? ⟨b,o,none⟩=w.cell? ⟨b,o,none⟩:=λb o ho' =>World.cell?_of_block (W.block b (λe=>by have:=((I.rwn k r l U D).2 o (e ▸ ho')).1;rw[Z]at this;cases this));refine I.setrow l Z rfl D W ?_;have he':(if n=G.cells.length then v else AV.agg (putC G.cells off v.cells)).cells=putC G.cells off v.cells:=by
     split
     .rename_i hn;have:off=0:=by omega
      subst this;unfold putC;rw[List.take_zero,List.nil_append,List.drop_eq_nil_of_le (by omega),List.append_nil]
     rfl
    refine⟨putV xs (i*r.sz+off) us,L,⟨?_,.inr ⟨U,cap,_,by simpa using Y,Nat.zero_le _,setRow_heap w U H _ L (0,0) hbk,by simpa using q1,q2,?_,?_⟩⟩,?_,?_⟩
    .have:=A.1;rw[O19 (by omega)];simpa using this
    .rw[List.size_toArray,O19 (by simp;omega)];simpa using q3
    .simp[List.length_set];rw[Y28 (by omega) (by simp;omega),q4]
    .intro e1 he1;rcases List.mem_or_eq_of_mem_set he1 with h'|h'
     .exact E e1 h'
     rw[h',he',U1X (by omega)];exact hel'
    intro j x u J f;rw[Y2k E R (by omega) he']at J;have hfl:=L0B E;rw[Q1X (by omega)]at J;rw[U0B (by have:=A.1;omega),← m]at f;split at J
    .rename_i C;rw[yd C]at f;obtain⟨z1,z2,z3⟩:=d _ _ _ J f;have hrd':=M.cell J (by rw[hv];simpa using f);exact⟨z1,z2,hrd'.mono (λ_ _ h=>h) TLe.refl hS⟩
    rename_i C;rw[ye C]at f;obtain⟨z1,z2,z3⟩:=hc j x u J f;exact⟨z1,z2,z3.mono (λ_ _ h=>h) TLe.refl hS⟩
   cases h
  cases h
 cases h
end ops
end
end
section
section
variable{P:Program}{c:Cx}{g:Gh}{s:St}{a:Act}{w:World}
theorem W2h(t q e k:TypeId)(i:TypeInfo)(r:P.underlying t=some (.slice e))(v:P.info? e=some i)(b c d:Nat)(f:Array Value)(x:w.heap[b]?=some (.cells f k (0,0)))(o:Addr)(m p:Nat)(a:List Value)(s:a.length=m*i.size)(h:∀j u,a[j]?=some u->w.cell? (o.add j)=some u)(z:∀u∈a,u.oneCell'=true)(g:c+m<=d)(n:c*i.size+a.length<=f.size) : (Builtin.append_ #[t,t] q #[.slice (some ⟨b,0,none⟩) c d,.slice (some o) m p]).run P w = .ok (.slice (some ⟨b,0,none⟩) (c+m) d) (w.setRow b (f.toList.take (c*i.size)++a++f.toList.drop (c*i.size+a.length)).toArray):=by have y:=run_firstCells_some (P:=P) (w:=w) i.size m o m p a s h;have l:=run_storeCells_at P b (c*i.size) k a 0 f w x (by simpa using n) z;simp[Nat.add_zero]at l;simp[Builtin.append_,run_underlying r,sizeOf,typeInfo,v,Builtin.lenOf,g,y,Addr.add_lit,l]
theorem Q2r(t G e p:TypeId)(i:TypeInfo)(z:Value)(B:P.underlying t=some (.slice e))(D:P.info? e=some i)(H:i.zero=some z)(hzs:z.cells.size=i.size)(v:Value)(n:Nat)(xs:List Value)(c:w.ownsRow 0 p i.size v n xs)(y:Value)(m E:Nat)(pa:Option Addr)(hsrc:y=.slice pa m E)(a:List Value)(s:a.length=m*i.size)(r:0<a.length->∃x,pa=some x/\∀j u,a[j]?=some u->w.cell? (x.add j)=some u)(hpa:0<m->pa.isSome=true)(h1:∀u∈a,u.oneCell'=true)(h63:n+m<=maxLen)(hbytes:(n+m)*i.bytes<=140737488355328) : ∃F w' ty1,(Builtin.append_ #[t,t] G #[v,y]).run P w=.ok F w'/\w'.ownsRow 0 ty1 i.size F (n+m) (xs++a)/\w.grownBy w' v.ownBlock /\ (F.ownBlock=v.ownBlock\/(F.ownBlock=some w.heap.size/\w.grownBy w' none)):=by
 subst hsrc;by_cases hm0:m=0
 .subst hm0;have hn0:=List.eq_nil_of_length_eq_zero (by simpa using s);subst hn0;refine⟨v,w,p,?_,by simpa using c,World.grownBy.refl w _,.inl rfl⟩;have hfc:(Builtin.firstCells i.size 0 (.slice pa 0 E)).run P w=.ok #[] w:=by cases pa<;>simp[Builtin.firstCells,loadCells,loadCellsFrom]
  rcases c.2 with⟨rfl,rfl⟩|⟨b,cap,q,rfl,_,J,hnc,_,_,_⟩
  .simp[Builtin.append_,run_underlying B,sizeOf,typeInfo,D,Builtin.lenOf,hfc]
  simp[Builtin.append_,run_underlying B,sizeOf,typeInfo,D,Builtin.lenOf,hfc,hnc,storeCells]
 obtain⟨x,rfl⟩:=Option.isSome_iff_exists.1 (hpa (by omega));have hnews':∀j u,a[j]?=some u->w.cell? (x.add j)=some u:=by intro j u hj;obtain⟨ad',e1,e2⟩:=r (by have:=(yB hj).1;omega);cases e1;exact e2 j u hj
 have l:(xs++a).length=(n+m)*i.size:=by rw[yU,c.1,s,Nat.add_mul]
 have d:∀(f:Nat),f<n+m->∀(A:Option Nat), (w.drew.alloc (.cells (xs.toArray++a.toArray++Builtin.zeroCells z.cells (grownCap w (n+m) f e-(n+m))) e)).ownsRow 0 e i.size (.slice (some ⟨w.heap.size,0,none⟩) (n+m) (grownCap w (n+m) f e)) (n+m) (xs++a) /\ w.grownBy (w.drew.alloc (.cells (xs.toArray++a.toArray++Builtin.zeroCells z.cells (grownCap w (n+m) f e-(n+m))) e)) A:=by
  intro f K A;have hge:=grownCap_ge w (n+m) f e;have hcm:=grownCap_le_maxLen w (n+m) f e h63;refine⟨⟨l,.inr ⟨w.heap.size,_,_,rfl,Nat.zero_le _,heap_alloc_new w.drew _,hge,hcm,?_,?_⟩⟩,⟨rfl,rfl,rfl,by simp,λk hk _=>heap_alloc_old w.drew _ hk⟩⟩
  .simp[Array.size_append,List.size_toArray,size_zeroCells,hzs,c.1,s,← Nat.add_mul];congr 1;omega
  simp[Array.toList_append,List.append_assoc];rw[← List.append_assoc,← l];exact List.take_left
 have h63n:n+m<=9223372036854775807:=by simp[maxLen]at h63;omega
 rcases c.2 with⟨rfl,rfl⟩|⟨b,cap,q,rfl,hbg,I,hnc,hcm,hcs,htake⟩
 .have hx:=List.eq_nil_of_length_eq_zero (by simpa using c.1);subst hx;have C:=run_append_nil (P:=P) w t G e i z B D H x m E a s hnews' (by omega) (by omega) (by have J:=hbytes;simp[Nat.zero_add]at J;omega);have o:=d 0 (by omega) (Value.ownBlock (.slice none 0 0));have hgr2:=d 0 (by omega) none;simp only[Nat.zero_add,List.nil_append,Array.empty_append]at o hgr2 ⊢;exact⟨_,_,e,C,o.1,o.2,.inr ⟨rfl,hgr2.2⟩⟩
 by_cases h:n+m<=cap
 .have hfit:n*i.size+a.length<=q.size:=by rw[s,hcs,← Nat.add_mul];exact Nat.mul_le_mul_right _ h
  have C:=W2h (P:=P) (w:=w) t G e p i B D b n cap q I x m E a s hnews' h1 h hfit;refine⟨_,_,p,C,⟨l,.inr ⟨b,cap,_,rfl,hbg,setRow_heap w b q _ p _ I,h,hcm,?_,?_⟩⟩,⟨rfl,rfl,rfl,by simp,λk _ hk=>setRow_other w b k _ (λe=>hk (by simp[Value.ownBlock,e]))⟩,.inl rfl⟩
  .simp only[List.size_toArray,yU,List.length_take,List.length_drop,Array.length_toList];omega
  rw[htake,← l];exact List.take_left
 have holds:=c.cells (g:=b) rfl;have C:=run_append_grow (P:=P) w t G e i z B D H ⟨b,0,none⟩ n cap xs c.1 holds x m E a s hnews' (by omega) (by omega) (growslice_fits (by omega) hbytes);have o:=d cap (by omega) (Value.ownBlock (.slice (some ⟨b,0,none⟩) n cap));exact⟨_,_,e,C,o.1,o.2,.inr ⟨rfl,(d cap (by omega) none).2⟩⟩
theorem Rd.src{S:Nat->Nat->Prop}{N:Tag->Nat->Value->Prop}{t:Tag}{s:Nat}{c:List AV}{v:Value}(h:Rd w S N (.sl t s c) v) : ∃pa C,v=.slice pa c.length C/\(0<c.length->pa.isSome=true)/\∃a:List Value,(c≠[]->a.length=c.length*s)/\(c=[]->a=[])/\(flat c).length=a.length/\(∀u∈a,u.oneCell'=true) /\ (∀e∈c,e.cells.length=s) /\ (0<a.length->∃B,pa=some B/\∀j u,a[j]?=some u->w.cell? (B.add j)=some u) /\ ∀(j:Nat)(x:AV)(u:Value),(flat c)[j]?=some x->a[j]?=some u->x.one=true/\u.oneCell'=true/\Rd w S N x u:=by
 cases h with
 |sl0 _ _ p q=>exact⟨p,q,rfl,by simp,[],by simp,by simp,by simp[flat],by simp,by simp,by simp,by intro j x u h;simp[flat]at h⟩|sl _ _ _ b o I z H G A r F g =>
  have n:=L0B A;have d:∀j u,((List.range (flat c).length).map z)[j]?=some u->∃x,(flat c)[j]?=some x/\u=z j:=by
   intro j u k;rw[yF]at k;obtain⟨E,i,rfl⟩:=yC k;have m:j<(flat c).length:=by have:=(yB i).1;simpa using this
   rw[List.getElem?_range m]at i;cases i;exact⟨_,yA m,rfl⟩
  refine⟨_,_,rfl,λ_=>rfl,(List.range (flat c).length).map z,λ_=>by simp[n],λh=>by simp[h,flat],by simp,λu y=>?_,A,λ_=>⟨_,rfl,λj u k=>?_⟩,λj x u f y=>?_⟩
  .obtain⟨j,k,rfl⟩:=List.getElem_of_mem y;obtain⟨x,f,e⟩:=d j _ (yA k);rw[e];exact(g j x f).one_cell (r j x f).2.2.1
  .obtain⟨x,f,rfl⟩:=d j u k;rw[O0b];exact(r j x f).1
  obtain⟨D,l,rfl⟩:=d j u y;rw[f]at l;cases l;exact⟨(r j x f).2.2.1,(g j x f).one_cell (r j x f).2.2.1,g j x f⟩
theorem O2r{S:Nat->Nat->Prop}{N:Tag->Nat->Value->Prop}{r:Row}{v:Value}(h:QU w S N r v) : ∃pa z,v=.slice pa r.es.length z/\(0<r.es.length->pa.isSome=true)/\∃a:List Value,a.length=r.es.length*r.sz/\(flat r.es).length=a.length/\(∀u∈a,u.oneCell'=true) /\ (∀e∈r.es,e.cells.length=r.sz) /\ (0<a.length->∃p,pa=some p/\∀j u,a[j]?=some u->w.cell? (p.add j)=some u) /\ ∀(j:Nat)(x:AV)(u:Value),(flat r.es)[j]?=some x->a[j]?=some u->x.one=true/\u.oneCell'=true/\Rd w S N x u:=by
 obtain⟨xs,A,f,k,l⟩:=h;have i:=L0B k;have m:(flat r.es).length=xs.length:=by rw[i,f.1]
 have d:∀u∈xs,u.oneCell'=true:=by intro u q;obtain⟨j,s,rfl⟩:=List.getElem_of_mem q;exact(l j _ _ (yA (by omega)) (yA s)).2.1
 have c:=λb (t:v.ownBlock=some b)=>f.cells (g:=b) t;rcases f.2 with⟨rfl,n⟩|⟨b,cap,y,rfl,_⟩
 .have o:=f.1;refine⟨none,0,by rw[n],by omega,xs,o,m,d,k,λh=>?_,l⟩;rw[o,n]at h;simp at h
 exact⟨_,_,rfl,λ_=>rfl,xs,f.1,m,d,k,λ_=>⟨_,rfl,c b rfl⟩,l⟩
end
end
section
section
variable{P:Program}{c:Cx}{g:Gh}{s:St}{a:Act}{w:World}
theorem Inv.rerow(I:Inv c g s a w){k:Nat}{r r':Row}{G:Value}{w':World}(y:s.rw k=some r)(hkb:k<1000000000)(t:w.grownBy w' (g.rv k).ownBlock)(U:r'.sz=r.sz)(Y:r.es.length<=r'.es.length)(W:r'.sh=r.sh)(hr:QU w' g.S g.T r' G)(Q:G.ownBlock=(g.rv k).ownBlock\/G.ownBlock=some w.heap.size)(J:∀b o,(g.rv k).ownBlock=some b->g.S b o->w'.cell? ⟨b,o,none⟩=w.cell? ⟨b,o,none⟩)(R:∀b,(g.rv k).ownBlock=some b->UnfB w' b) : Inv c { g with rv:=λj=>if j=k then G else g.rv j } { s.kill k with rw:=λj=>if j=k then some r' else(s.kill k).rw j } a w':=by
 have hS:∀b o,g.S b o->w'.cell? ⟨b,o,none⟩=w.cell? ⟨b,o,none⟩:=by
  intro b o B;by_cases d:(g.rv k).ownBlock=some b
  .exact J b o d B
  exact World.cell?_of_block (t.block b (I.sw b o B) (λe=>d e.symm))
 have T:Turn (·≠k) w w' g { g with rv:=λj=>if j=k then G else g.rv j } s { s.kill k with rw:=λj=>if j=k then some r' else(s.kill k).rw j }:=by
  refine⟨λ_ _ h=>h,λ_ h=>h,TLe.of (λ_ h=>h) rfl,hS,λj l f h=>?_,λj l c' h=>?_,λ_ _ h=>h,O1e λb d=>t.block b (I.ow.size d) (λe=>I.ow.rw k r y b e.symm d)⟩
  .simp[l]at h;exact⟨f,(Xc h).2,rfl,by simp[l]⟩
  obtain⟨_,c0,m,_⟩:=M8 h;exact⟨c0,m,rfl⟩
 have p:∀j f,(if j=k then some r' else(s.kill k).rw j)=some f->(j=k/\f=r')\/(j≠k/\s.rw j=some f):=by
  intro j f h;by_cases l:j=k
  .simp[l]at h;exact .inl ⟨l,h.symm⟩
  simp[l]at h;exact .inr ⟨l,(Xc h).2⟩
 have n:∀b,G.ownBlock=some b->(g.rv k).ownBlock=some b\/b=w.heap.size:=by
  intro b d;rcases Q with h|h
  .exact .inl (by rw[← h];exact d)
  rw[h]at d;cases d;exact .inr rfl
 refine⟨I.defers,I.nt,⟨t.os.trans I.fr.os,t.tape.trans I.fr.tape,t.output.trans I.fr.output,Nat.le_trans I.fr.size t.size,?_⟩,λi=>(I.tm i).turn_dead T,?_,?_,?_,?_,?_,?_,?_,?_,I.nn,I.nx,λj l=>⟨by simp[show j≠k by omega];exact(I.fix j l).1,(I.fix j l).2⟩,I.sm,I.sb,I.ow.turn rfl (λ_ h=>h) (yV _) (λb d=>t.block b (I.ow.size d) (λe=>I.ow.rw k r y b e.symm d)) (λj L h=>by obtain⟨_,c0,m,_⟩:=M8 h;exact I.ow.bx j c0 m) (λj f h b d=>?_),λb o h q=>by
  by_cases d:(g.rv k).ownBlock=some b
  .exact R b d
  exact(I.uf b o h q).block (t.block b (I.sw b o h) (λe=>d e.symm)),I.sd⟩
 .intro b d H;have X:=Nat.lt_of_lt_of_le d I.fr.size;rw[t.block b X (λe=>H ((I.rwn k r y b e.symm).1.2 d))];exact I.fr.block b d H
 .intro j L h;obtain⟨_,c0,m,rfl⟩:=M8 h;have d:=I.bxs j c0 m;obtain⟨vs,ty,E,D,h3⟩:=d;refine⟨vs,ty,?_,by rw[Yd];simpa using D,λi x v H hv=>?_⟩
  .show w'.heap[g.bb j]?=_;rw[t.block _ (U0E (I.bxs j c0 m)) (λe=>I.dbr j k c0 r m y e.symm)];exact E
  rw[Yd,yF]at H;obtain⟨a0,Z,rfl⟩:=yC H;obtain⟨q1,q2,q3⟩:=h3 i a0 v Z hv;exact⟨one_dead k q1,q2,q3.turn_dead T⟩
 .intro j L h;obtain⟨_,c0,m,rfl⟩:=M8 h;exact I.bxn j c0 m
 .intro j f h;rcases p j f h with⟨rfl,rfl⟩|⟨l,m⟩
  .simpa using hr
  simp[l];exact(I.rws j f m).mono (λ_ _ h=>h) TLe.refl hS (λb d=>t.block b (O06 (I.rws j f m) d) (λe=>I.drr j k f r m y l b d e.symm))
 .intro j f h b d;rcases p j f h with⟨rfl,rfl⟩|⟨l,m⟩
  .simp[]at d;rcases n b d with h|h
   .refine⟨(I.rwn j r y b h).1,λo B=>?_⟩;have:=(I.rwn j r y b h).2 o B;exact⟨by rw[W];exact this.1,Nat.lt_of_lt_of_le this.2 (by rw[U];exact Nat.mul_le_mul_right _ Y)⟩
   subst h;have V:=I.vac (yV _);exact⟨V.N,λo B=>absurd B (V.S o)⟩
  simp[l]at d;exact I.rwn j f m b d
 .intro j u c1 c2 E D A;obtain⟨_,K,z,_⟩:=M8 E;obtain⟨_,d2,h2',_⟩:=M8 D;exact I.dbb j u K d2 z h2' A
 .intro j u c1 f E D;obtain⟨_,K,z,_⟩:=M8 E;rcases p u f D with⟨rfl,rfl⟩|⟨l,m⟩
  .simp[];intro e;rcases n _ e with h|h
   .exact I.dbr j u K r z y h
   have:=U0E (I.bxs j K z);omega
  simp[l];exact I.dbr j u K f z m
 .intro j u f M E D A b;rcases p j f E with⟨rfl,rfl⟩|⟨l,m⟩<;>rcases p u M D with⟨rfl,rfl⟩|⟨C,F⟩
  .exact absurd rfl A
  .simp[C];intro e P;rcases n b e with h|h
   .exact I.drr u j M r F y C b P h
   have:=O06 (I.rws u M F) P;omega
  .simp[l];intro e P;rcases n b P with h|h
   .exact I.drr j u f r m y l b e h
   have:=O06 (I.rws j f m) e;omega
  simp[l,C];exact I.drr j u f M m F A b
 .intro b o B;exact Nat.lt_of_lt_of_le (I.sw b o B) t.size
 rcases p j f h with⟨rfl,rfl⟩|⟨l,m⟩
 .simp[]at d;rcases n b d with h|h
  .exact I.ow.rw j r y b h
  subst h;exact(I.vac (yV _)).O
 simp[l]at d;exact I.ow.rw j f m b d
section ops
variable{o:Oper}{d:Nat}{K:St->Prop}{K':Act->World->Prop}{Q':Exit->Act->World->Prop}
theorem W1l(xs a:List AV):flat (xs++a)=flat xs++flat a:=by simp[flat]
theorem U2p(I:Inv c g s a w){y:X}{q:Operand}(H:Gv w g s (s.get y) (a.eval q)){isz:Nat}:∀E D l,s.dt (s.get y)=some (.sl E D l)->(l=[]\/D=isz)->∃(pa:Option Addr)(n:Nat)(b:List Value),a.eval q=.slice pa l.length n/\(0<l.length->pa.isSome=true)/\b.length=l.length*isz /\ (∀u∈b,u.oneCell'=true)/\(∀e∈l,e.cells.length=isz)/\(0<b.length->∃J,pa=some J/\∀j u,b[j]?=some u->w.cell? (J.add j)=some u) /\ (∀(j:Nat)(x:AV)(u:Value),(flat l)[j]?=some x->b[j]?=some u->x.one=true/\u.oneCell'=true/\Rd w g.S g.T x u):=by
 intro E D l d A;generalize L:s.get y=yv at *;cases yv with
 |sl N O M =>
  simp[St.dt,AV.sl.injEq]at d;obtain⟨rfl,rfl,rfl⟩:=d;obtain⟨pa,n,B,i,b,n1,F,K,z,v,t,o⟩:=H.sl_inv.src;rcases A with rfl|rfl
  .exact⟨pa,n,b,B,i,by rw[F rfl];simp,z,by simp,t,o⟩
  refine⟨pa,n,b,B,i,?_,z,v,t,o⟩;by_cases p:M=[]
  .rw[F p,p];simp
  exact n1 p
 |sref k =>
  simp only[St.dt]at d;obtain⟨r,G,p⟩:=yC d;simp[AV.sl.injEq]at p;obtain⟨_,rfl,rfl⟩:=p;obtain⟨pa,n,B,i,b,n1,K,z,v,t,o⟩:=O2r (I.rws k r G);have m:=(H.sref_inv G).trans B;rcases A with C|C
  .rw[C]at n1 v i m ⊢;refine⟨pa,n,b,m,i,by rw[n1];simp,z,by simp,t,?_⟩;rw[C]at o;exact o
  rw[C]at n1 v;exact⟨pa,n,b,m,i,n1,z,v,t,o⟩
 |agg cs=>simp only[St.dt]at d;obtain⟨_,_,h⟩:=yC d;cases h|fn f cs=>simp only[St.dt]at d;obtain⟨_,_,h⟩:=yC d;cases h|_=>simp[St.dt]at d
theorem Q2p{y:X}{q:Operand}(d:Gv w g s (s.get y) (a.eval q)):s.dt (s.get y)=some .nl->a.eval q=.slice none 0 0:=by intro b;generalize c:s.get y=yv at *;cases yv with|nl=>exact d.nl_inv|agg cs=>simp only[St.dt]at b;obtain⟨_,_,h⟩:=yC b;cases h|fn f cs=>simp only[St.dt]at b;obtain⟨_,_,h⟩:=yC b;cases h|sref k=>simp only[St.dt]at b;obtain⟨_,_,h⟩:=yC b;cases h|_=>simp[St.dt]at b
theorem U2A(I:Inv c g s a w)(hK:∀g' s' a' w',Inv c g' s' a' w'->K s'->K' a' w')(hd:o.dst=some d)(hlt:d<c.nt){x y:X}{p q:Operand}{t e:TypeId}{i:TypeInfo}{z:Value}{sz by':Nat}(ho:o.op=.call { callee:=.builtin .append,args:=#[p,q],argTypes:=#[t,t] })(ht:P.underlying t=some (.slice e))(hi:P.info? e=some i)(hz:i.zero=some z)(hs:i.size=sz)(hby:i.bytes=by')(hby0:0<by')(hzs:z.cells.size=i.size)(J:chkX x p=true)(hy:chkX y q=true)(h:wop P (.ap d x y sz by') K s):o.wp P a w K' Q':=by
 subst hs;subst hby;simp[wop]at h;have gx:=I.get J;have gy:=I.get hy;have run:∀E w',(Builtin.append_ #[t,t] o.type #[a.eval p,a.eval q]).run P w=.ok E w'->(execOp a.eval o).run P w=.ok (.value E) w':=by intro E w' hr;simp[execOp,ho,resolve,invoke,builtin];simp[hr]
 have fin:∀(es:List AV) (v:Value) (n:Nat) (xs f:List Value) (l:List AV) (ty0:TypeId),w.ownsRow 0 ty0 i.size v n xs->n=es.length->(∀e∈es,e.cells.length=i.size) -> (∀(j:Nat) (x:AV) (u:Value),(flat es)[j]?=some x->xs[j]?=some u->x.one=true/\u.oneCell'=true/\Rd w g.S g.T x u) -> ∀(pa:Option Addr) (N:Nat),a.eval q=.slice pa l.length N->(0<l.length->pa.isSome=true)->f.length=l.length*i.size->(∀u∈f,u.oneCell'=true)->(∀e∈l,e.cells.length=i.size) -> (0<f.length->∃ad,pa=some ad/\∀j u,f[j]?=some u->w.cell? (ad.add j)=some u) -> (∀(j:Nat) (x:AV) (u:Value),(flat l)[j]?=some x->f[j]?=some u->x.one=true/\u.oneCell'=true/\Rd w g.S g.T x u) -> (es.length+l.length)*i.bytes<=140737488355328->es.length+l.length<=maxLen -> ∃E w' L,(Builtin.append_ #[t,t] o.type #[v,a.eval q]).run P w=.ok E w'/\w'.ownsRow 0 L i.size E (es++l).length (xs++f)/\w.grownBy w' v.ownBlock /\ (E.ownBlock=v.ownBlock\/(E.ownBlock=some w.heap.size/\w.grownBy w' none))/\(∀e∈es++l,e.cells.length=i.size) /\ (∀(j:Nat) (x:AV) (u:Value),(flat (es++l))[j]?=some x->(xs++f)[j]?=some u->x.one=true/\u.oneCell'=true/\Rd w g.S g.T x u):=by
  intro es v n xs f l ty0 m hn hes hxs pa N hq U Y G V D W A H;subst hn;obtain⟨E,w',L,r1,r2,Z,F⟩:=Q2r (P:=P) t o.type e ty0 i z ht hi hz hzs v es.length xs m (a.eval q) l.length N pa hq f Y D U G H A;refine⟨E,w',L,r1,by simpa using r2,Z,F,?_,?_⟩
  .intro e he;rcases List.mem_append.1 he with h|h
   .exact hes e h
   exact V e h
  intro j x u J Q;rw[W1l]at J;have hxl:(flat es).length=xs.length:=by rw[L0B hes,m.1]
  by_cases hj:j<xs.length
  .rw[yK (by omega)]at J;rw[yK hj]at Q;exact hxs j x u J Q
  rw[yS (by omega)]at J;rw[yS (by omega)]at Q;rw[hxl]at J;exact W _ x u J Q
 have old:∀(k:Nat) (r:Row) (l:List AV) (f:List Value),s.rw k=some r->k<1000000000->s.get x=.sref k->r.sz=i.size -> ∀(pa:Option Addr) (N:Nat),a.eval q=.slice pa l.length N->(0<l.length->pa.isSome=true)->f.length=l.length*i.size->(∀u∈f,u.oneCell'=true)->(∀e∈l,e.cells.length=i.size) -> (0<f.length->∃ad,pa=some ad/\∀j u,f[j]?=some u->w.cell? (ad.add j)=some u) -> (∀(j:Nat) (x:AV) (u:Value),(flat l)[j]?=some x->f[j]?=some u->x.one=true/\u.oneCell'=true/\Rd w g.S g.T x u) -> (r.es.length+l.length)*i.bytes<=140737488355328->r.es.length+l.length<=maxLen -> K (St.set { s.kill k with rw:=λj=>if j=k then some { r with es:=r.es++l } else(s.kill k).rw j } d (.sref k))->o.wp P a w K' Q':=by
  intro k r l f O hkb C R pa N hq U Y G V D W A H hKs;have hrow:=I.rws k r O;obtain⟨xs,ty,m,hes,hc⟩:=hrow;have hv:a.eval p=g.rv k:=by rw[C]at gx;exact gx.sref_inv O
  rw[R]at m;obtain⟨E,w',L,r1,r2,Z,F,r5,r6⟩:=fin r.es (g.rv k) _ xs f l ty m rfl (by rw[← R];exact hes) hc pa N hq U Y G V D W A H;have hpre:∀b o,(g.rv k).ownBlock=some b->g.S b o->w'.cell? ⟨b,o,none⟩=w.cell? ⟨b,o,none⟩:=by
   intro b o' B ho';have hlt':=((I.rwn k r O b B).2 o' ho').2;have hox:o'<xs.length:=by rw[m.1,← R];exact hlt'
   rcases F with F|⟨F,r4'⟩
   .have e1:=m.cells B o' _ (yA hox);have e2:=r2.cells (by rw[F];exact B) o' (xs[o']) (by rw[yK hox,yA hox]);rw[O0b,Nat.zero_add]at e1 e2;rw[e1,e2]
   exact World.cell?_of_block (r4'.block b (O06 (I.rws k r O) B) (by simp))
  have hS:∀b o,g.S b o->w'.cell? ⟨b,o,none⟩=w.cell? ⟨b,o,none⟩:=by
   intro b o' ho';by_cases B:(g.rv k).ownBlock=some b
   .exact hpre b o' B ho'
   exact World.cell?_of_block (Z.block b (I.sw b o' ho') (λe=>B e.symm))
  have M:QU w' g.S g.T { r with es:=r.es++l } E := ⟨xs++f,L,by rw[R];exact r2,by rw[R];exact r5,λj x u J Q=>⟨(r6 j x u J Q).1,(r6 j x u J Q).2.1,(r6 j x u J Q).2.2.mono (λ_ _ h=>h) TLe.refl hS⟩⟩;have I2:=I.rerow (r':={ r with es:=r.es++l }) O hkb Z rfl (by simp) rfl M (by rcases F with h|h;exact .inl h;exact .inr h.1) hpre (λb B=>by
   have old:∀(w1:World) (v:Value) (ty2:TypeId) (n:Nat) (xs:List Value),w1.ownsRow 0 ty2 i.size v n xs->v.ownBlock=some b->UnfB w1 b:=by
    intro w1 v ty2 n xs m B;rcases m.2 with⟨e,_⟩|⟨b',cap,cur,e,_,e3,_⟩
    .rw[e]at B;cases B
    rw[e]at B;cases B;exact .plain e3
   rcases F with F|⟨_,F⟩
   .exact old _ _ _ _ _ r2 (by rw[F];exact B)
   exact(old _ _ _ _ _ m B).block (F.block b (O06 (I.rws k r O) B) (by simp)))
  refine sok hK hd hlt (run E w' (by rw[hv];exact r1)) I2 (.sref k E ?_ λr0 _=>by simp) hKs;rcases r2.2 with⟨rfl,_⟩|⟨_,_,_,rfl,_⟩<;>rfl
 have new:∀(l:List AV) (f:List Value),s.get x=.nl -> ∀(pa:Option Addr) (N:Nat),a.eval q=.slice pa l.length N->(0<l.length->pa.isSome=true)->f.length=l.length*i.size->(∀u∈f,u.oneCell'=true)->(∀e∈l,e.cells.length=i.size) -> (0<f.length->∃ad,pa=some ad/\∀j u,f[j]?=some u->w.cell? (ad.add j)=some u) -> (∀(j:Nat) (x:AV) (u:Value),(flat l)[j]?=some x->f[j]?=some u->x.one=true/\u.oneCell'=true/\Rd w g.S g.T x u) -> l.length*i.bytes<=140737488355328->l.length<=maxLen -> K (St.set { s.kill d with rw:=λj=>if j=d then some ⟨i.size,l,false⟩else(s.kill d).rw j } d (.sref d))->o.wp P a w K' Q':=by
  intro l f C pa N hq U Y G V D W A H hKs;have hv:a.eval p=.slice none 0 0:=by rw[C]at gx;exact gx.nl_inv
  obtain⟨E,w',L,r1,r2,Z,F,r5,r6⟩:=fin [] (.slice none 0 0) 0 [] f l 0 (World.ownsRow_nil w 0 0 i.size) rfl (by simp) (by intro j x u h;simp[flat]at h) pa N hq U Y G V D W (by simpa using A) (by simpa using H);simp[List.nil_append]at r2 r5 r6;have hold:=λb B=>Z.block b B (by simp[Value.ownBlock]);have I1:=I.grow (S':=g.S) Z.os Z.tape Z.output Z.size hold (λ_ _ h=>h) (λ_ _ h=>.inl h);have M:QU w' g.S g.T ⟨i.size,l,false⟩ E := ⟨f,L,r2,r5,λj x u J Q=>⟨(r6 j x u J Q).1,(r6 j x u J Q).2.1,(r6 j x u J Q).2.2.mono (λ_ _ h=>h) TLe.refl (λb o ho=>World.cell?_of_block (hold b (I.sw b o ho)))⟩⟩;have I2:=I1.addrow d ⟨i.size,l,false⟩ E M (λb B=>by
   rcases F with F|⟨F,_⟩
   .rw[F]at B;simp[Value.ownBlock]at B
   rw[F]at B;cases B;exact I.vac (yV _)) (by have:=c.ntb;omega)
  refine sok hK hd hlt (run E w' (by rw[hv];exact r1)) I2 (.sref d E ?_ λr0 _=>by simp) hKs;rcases r2.2 with⟨rfl,_⟩|⟨_,_,_,rfl,_⟩<;>rfl
 have hml:∀n,n*i.bytes<=140737488355328->n<=maxLen:=by intro n hn;have:n*1<=n*i.bytes:=Nat.mul_le_mul_left _ hby0;simp only[maxLen];omega
 have src:=U2p I gy (isz:=i.size);have nilsrc:=Q2p gy;split at h
 .rename_i tt sy l hdt;split at h
  .rename_i k C;split at h
   .rename_i r O;obtain⟨h1,hkb,h2,h3,h⟩:=h;obtain⟨pa,N,f,q1,q2,q3,q4,q5,q6,q7⟩:=src tt sy l hdt h2;exact old k r l f O hkb C h1 pa N q1 q2 q3 q4 q5 q6 q7 h3 (hml _ h3) h
   cases h
  .rename_i C;obtain⟨h2,h3,h⟩:=h;obtain⟨pa,N,f,q1,q2,q3,q4,q5,q6,q7⟩:=src tt sy l hdt h2;exact new l f C pa N q1 q2 q3 q4 q5 q6 q7 h3 (hml _ h3) h
  cases h
 .rename_i hdt;have hq:=nilsrc hdt;split at h
  .rename_i k C;rw[C]at gx;cases O:s.rw k with
   |none=>rw[O]at h;cases h|some r =>
    rw[O]at h;obtain⟨xs,ty,m,_⟩:=I.rws k r O;have hv:=gx.sref_inv O;have hr:(Builtin.append_ #[t,t] o.type #[a.eval p,a.eval q]).run P w=.ok (a.eval p) w:=by
     rw[hq,hv];rcases m.2 with⟨hh,hn⟩|⟨b,cap,cur,hh,_,B,hnc,_,_,_⟩
     .rw[hh];simp[Builtin.append_,run_underlying ht,sizeOf,typeInfo,hi,Builtin.lenOf,Builtin.firstCells]
     rw[hh];simp[Builtin.append_,run_underlying ht,sizeOf,typeInfo,hi,Builtin.lenOf,Builtin.firstCells,hnc,storeCells]
    exact sok (g':=g) (s':=s) (w':=w) hK hd hlt (run _ _ hr) I gx h
  .rename_i C;exact new [] [] C none 0 (by simpa using hq) (by simp) (by simp) (by simp) (by simp) (by simp) (by intro j x u h;simp[flat]at h) (by simp) (by simp) h
  cases h
 cases h
theorem Gv.el_inv{v:Value}(h:Gv w g s .el v):∃a,v=.slice a 0 0:=by cases h with|data _ _ h=>cases h|el a=>exact⟨a,rfl⟩
theorem W2A(I:Inv c g s a w)(Y:∀g' s' a' w',Inv c g' s' a' w'->K s'->K' a' w')(V:o.dst=some d)(n:d<c.nt){x y:X}{p q:Operand}{t e:TypeId}{i:TypeInfo}{z:Value}{sz by':Nat}(U:o.op=.call { callee:=.builtin .append,args:=#[p,q],argTypes:=#[t,t] })(G:P.underlying t=some (.slice e))(H:P.info? e=some i)(hz:i.zero=some z)(hs:i.size=sz)(W:i.bytes=by')(hby0:0<by')(hzs:z.cells.size=i.size)(D:chkX x p=true)(hy:chkX y q=true)(h:wop P (.ae d x y sz by') K s):o.wp P a w K' Q':=by
 subst hs;subst W;simp only[wop]at h;have gx:=I.get D;have gy:=I.get hy;have l:∀J w',(Builtin.append_ #[t,t] o.type #[a.eval p,a.eval q]).run P w=.ok J w'->(execOp a.eval o).run P w=.ok (.value J) w':=by intro J w' E;simp only[execOp,U,Sem.run_bind,resolve,Sem.run_pure,Result.andThen_ok,invoke,builtin];simp[E]
 split at h
 .rename_i hxe;rw[hxe]at gx;obtain⟨Z,R⟩:=gx.el_inv;have none':∀B pa,a.eval q=.slice pa 0 B->(Builtin.append_ #[t,t] o.type #[a.eval p,a.eval q]).run P w=.ok (.slice Z 0 0) w:=by
   intro B pa hq;have hfc:(Builtin.firstCells i.size 0 (.slice pa 0 B)).run P w=.ok #[] w:=by cases pa<;>simp[Builtin.firstCells,loadCells,loadCellsFrom]
   rw[R,hq];cases Z with|none=>simp[Builtin.append_,run_underlying G,sizeOf,typeInfo,H,Builtin.lenOf,hfc]|some b=>simp[Builtin.append_,run_underlying G,sizeOf,typeInfo,H,Builtin.lenOf,hfc,storeCells]
  split at h
  .rename_i tt sy f r;obtain⟨h2,h3,h⟩:=h;obtain⟨pa,B,k,N,q2,C,q4,q5,q6,M⟩:=U2p I gy (isz:=i.size) tt sy f r h2;by_cases hn:f.length=0
   .have hn':=List.eq_nil_of_length_eq_zero hn;subst hn';exact sok (g':=g) (s':=s) (w':=w) Y V n (l _ _ (none' B pa (by simpa using N))) I (.data _ _ (.sl0 _ _ _ _ λ_ e=>by cases e)) h
   obtain⟨L,rfl⟩:=Option.isSome_iff_exists.1 (q2 (by omega));have m:f.length<=maxLen:=by have:f.length*1<=f.length*i.bytes:=Nat.mul_le_mul_left _ hby0;simp only[maxLen];omega
   have hcells:∀j v,k[j]?=some v->w.cell? (L.add j)=some v:=by intro j u hj;obtain⟨ad',e1,e2⟩:=q6 (by have:=(yB hj).1;omega);cases e1;exact e2 j u hj
   have hm9:f.length<=9223372036854775807:=by simp only[maxLen]at m;omega
   have F:∀(cap:Nat),f.length<=cap->cap<=maxLen->(Builtin.append_ #[t,t] o.type #[a.eval p,a.eval q]).run P w=.ok (.slice (some ⟨w.heap.size,0,none⟩) f.length cap) (w.drew.alloc (.cells (k.toArray++Builtin.zeroCells z.cells (cap-f.length)) e))->o.wp P a w K' Q':=by
    intro cap hc1 hc2 E;have hold:∀b,b<w.heap.size->(w.drew.alloc (.cells (k.toArray++Builtin.zeroCells z.cells (cap-f.length)) e)).heap[b]?=w.heap[b]?:=λb A=>heap_alloc_old w.drew _ A;have T0:∀b o,g.S b o->(w.drew.alloc (.cells (k.toArray++Builtin.zeroCells z.cells (cap-f.length)) e)).cell? ⟨b,o,none⟩=w.cell? ⟨b,o,none⟩:=λb o U=>World.cell?_of_block (hold b (I.sw b o U));have I1:=I.grow (w':=w.drew.alloc (.cells (k.toArray++Builtin.zeroCells z.cells (cap-f.length)) e)) (S':=λb o=>g.S b o\/(b=w.heap.size)) rfl rfl rfl (by simp) hold (λ_ _ h=>.inl h) (λb o h=>by
     rcases h with h|h
     .exact .inl h
     exact .inr ⟨by omega,by subst h;simp⟩) (λb o h=>h.imp id λh=>by subst h;exact .plain (heap_alloc_new w.drew _))
    have hrow:QU (w.drew.alloc (.cells (k.toArray++Builtin.zeroCells z.cells (cap-f.length)) e)) (λb o=>g.S b o\/(b=w.heap.size)) g.T ⟨i.size,f,false⟩ (.slice (some ⟨w.heap.size,0,none⟩) f.length cap):=by
     refine⟨k,e,⟨C,.inr ⟨w.heap.size,cap,_,rfl,Nat.zero_le _,heap_alloc_new w.drew _,hc1,hc2,?_,?_⟩⟩,q5,λj x u D Q=>⟨(M j x u D Q).1,(M j x u D Q).2.1,(M j x u D Q).2.2.mono (λ_ _ h=>.inl h) TLe.refl T0⟩⟩
     .simp only[Array.size_append,List.size_toArray,size_zeroCells,hzs,C,← Nat.add_mul];congr 1;omega
     simp only[Array.toList_append];rw[← C];exact List.take_left
    refine sok Y V n (l _ _ E) I1 (.data _ _ (V0a hrow (λb o A _=>?_) .nw (λb A=>?_))) h
    .simp only[Value.ownBlock,yI]at A;exact .inr A.symm
    simp only[Value.ownBlock,yI]at A;subst A;exact⟨I.nn _ I.fr.size,(I.vac (yV _)).O⟩
   cases Z with|none =>apply F (grownCap w f.length 0 e) (grownCap_ge ..) (grownCap_le_maxLen _ _ _ _ m);rw[R,N];exact run_append_nil (P:=P) w t o.type e i z G H hz L f.length B k C hcells (by omega) (by omega) (by omega)|some b =>refine F (grownCap w (0+f.length) 0 e) (by rw[Nat.zero_add];exact grownCap_ge ..) (by rw[Nat.zero_add];exact grownCap_le_maxLen _ _ _ _ m) ?_;rw[R,N];have E:=run_append_grow (P:=P) w t o.type e i z G H hz b 0 0 [] (by simp) (by intro j v h;simp at h) L f.length B k C hcells (by omega) (by omega) (growslice_fits (by omega) (by simpa using h3));simpa using E
  .rename_i r;exact sok (g':=g) (s':=s) (w':=w) Y V n (l _ _ (none' 0 none (Q2p gy r))) I (.data _ _ (.sl0 _ _ _ _ λ_ e=>by cases e)) h
  cases h
 cases h
theorem X2A(I:Inv c g s a w)(hK:∀g' s' i w',Inv c g' s' i w'->K s'->K' i w')(hd:o.dst=some d)(hlt:d<c.nt){t e:TypeId}(l:o.op=.buildSlice t 0 #[])(k:P.underlying t=some (.slice e)){j:Nat}(f:tsz P e=some j)(h:wop P (.be d) K s):o.wp P a w K' Q':=by
 simp[wop]at h;have hrun:(execOp a.eval o).run P w=.ok (.value (.slice (some ⟨w.heap.size,0,none⟩) 0 0)) (w.alloc (.cells #[] e)):=by simp[execOp,l,Instr.buildSlice,run_underlying k,Ws f,Instr.fill,newRow];rw[show Array.map (λ_:Nat=>(default:Value)) (Array.range 0)=#[] from Array.eq_empty_of_size_eq_zero (by simp)]
 have I1:=I.grow (w':=w.alloc (.cells #[] e)) (S':=g.S) rfl rfl rfl (by simp) (λb hb=>heap_alloc_old w _ hb) (λ_ _ h=>h) (λ_ _ h=>.inl h);exact sok hK hd hlt hrun I1 (.el _) h
end ops
end
end
section
section
variable{P:Program}{c:Cx}{g:Gh}{s:St}{a:Act}{w:World}
theorem W2f{y:AV}(h:y.one=true):y.cells=[y]:=by cases y with|agg cs=>cases h|_=>rfl
theorem Z20(a n:Nat):∀(c:List Value)(k:Nat)(cs:List Value),cs.length=n*a->k+c.length=n->(∀v∈c,v.cells.size=a) -> Instr.fill (λi=>some (i*a,a)) cs.toArray (c.zipIdx k |>.map λ(v,i)=>(i,v))=some ((cs.take (k*a))++c.flatMap (λv=>v.cells.toList)).toArray
 |[],k,cs,hl,hk,_=>by simp[List.length_nil,Nat.add_zero]at hk;subst hk;simp[Instr.fill,List.take_of_length_le (Nat.le_of_eq hl)]|v::c,k,cs,hl,hk,hv=>by
  have b:=hv v (by simp);simp[]at hk;have h:k*a+a<=n*a:=by rw[← Nat.succ_mul];exact Nat.mul_le_mul_right _ (by omega)
  simp only[List.zipIdx_cons,List.map_cons,Instr.fill];rw[ye (by simp[b,hl];omega)];have d:=Q1l (k*a) v.cells.toList 0 cs.toArray (by simp[b,hl];omega);simp[Nat.add_zero]at d;have e:(v.cells.zipIdx.foldl (λcs (x:Value×Nat)=>cs.setIfInBounds (k*a+x.2) x.1) cs.toArray)=(putV cs (k*a) v.cells.toList).toArray:=by rw[← d,← Array.foldl_toList];simp
  have j:=e;have f:=Z20 a n c (k+1) (putV cs (k*a) v.cells.toList) (by rw[O19 (by simp[b,hl];omega)];exact hl) (by omega) (λu g=>hv u (by simp[g]));simp only[j];rw[f];congr 1;congr 1;simp[];rw[← List.append_assoc];congr 1;unfold putV;exact List.take_left' (by rw[yU,List.length_take,show v.cells.toList.length=a from by simpa using b,Nat.succ_mul];omega)
section ops
variable{o:Oper}{d:Nat}{K:St->Prop}{K':Act->World->Prop}{Q':Exit->Act->World->Prop}
theorem W1I:∀{l m:List AV},s.dtL l=some m->l.length=m.length
 |[],m,h=>by simp[St.dtL]at h;subst h;rfl|x::l,m,h=>by
  simp[St.dtL]at h;split at h
  .rename_i c b d a;simp[]at h;subst h;simp[W1I a]
  .cases h
theorem O1I:∀{l m:List AV},s.dtL l=some m->∀(i:Nat)(x y:AV),l[i]?=some x->m[i]?=some y->s.dt x=some y
 |[],m,h,i,x,y,hx,_=>by simp at hx|x0::l,m,h,i,x,y,hx,hy=>by
  simp[St.dtL]at h;split at h
  .rename_i d c b a;simp[]at h;subst h;cases i with|zero=>simp at hx hy;subst hx;subst hy;exact b|succ i=>simp at hx hy;exact O1I a i x y hx hy
  .cases h
theorem Z2A(I:Inv c g s a w)(hK:∀g' s' a' w',Inv c g' s' a' w'->K s'->K' a' w')(hd:o.dst=some d)(hlt:d<c.nt){ps:List X}{qs:List Operand}{t e:TypeId}{m:Nat}{V:Bool}{zv:Value}(ho:o.op=.buildSlice t qs.length (qs.zipIdx.map λ(q,i)=>(i,q)).toArray)(ht:P.underlying t=some (.slice e))(hsz:tsz P e=some m)(hz:((P.info? e).bind (·.zero))=some zv)(B:ps.length=qs.length/\∀(i:Nat)(x:X)(p:Operand),ps[i]?=some x->qs[i]?=some p->chkX x p=true)(h:wop P (.bs d m ps V) K s):o.wp P a w K' Q':=by
 simp only[wop]at h;split at h
 .rename_i f hes;obtain⟨h0,h1,h2,h3,h⟩:=h;have n:f.length=qs.length:=by have:=W1I hes;simp at this;omega
  have C:∀(i:Nat) (y:AV) (q:Operand),f[i]?=some y->qs[i]?=some q->Rd w g.S g.T y (a.eval q):=by
   intro i y q Q J;have hi:i<ps.length:=by have:=(yB J).1;omega
   have W:(ps.map s.get)[i]?=some (s.get ps[i]):=by simp[hi]
   have hdt:=O1I hes i _ y W Q;have hn:nosr (s.get ps[i])=true:=by rw[List.all_eq_true]at h0;exact h0 _ (yE W)
   exact I.plain hn hdt (I.get (B.2 i ps[i] q (yA hi) J))
  have hcl:∀(i:Nat) (y:AV) (q:Operand),f[i]?=some y->qs[i]?=some q->(a.eval q).cells.size=m/\y.cells.length=m:=by intro i y q Q J;have R:=C i y q Q J;obtain⟨us,A,hul,_⟩:=(Gv.data (s:=s) y _ R).cells (R.allOne id);have:=h1 y (yE Q);exact⟨by rw[A];simp;omega,this⟩
  have Y:∀v∈qs.map a.eval,v.cells.size=m:=by intro v M;obtain⟨q,J,rfl⟩:=yY M;obtain⟨i,hi,rfl⟩:=List.getElem_of_mem J;exact(hcl i f[i] _ (yA (by omega)) (yA hi)).1
  have k:∀(j:Nat) (x:AV) (u:Value),(flat f)[j]?=some x->((qs.map a.eval).flatMap λv=>v.cells.toList)[j]?=some u->x.one=true/\u.oneCell'=true/\Rd w g.S g.T x u:=by
   have key:∀(f:List AV) (z:List Value),f.length=z.length->(∀(i:Nat) (y:AV) (v:Value),f[i]?=some y->z[i]?=some v->Rd w g.S g.T y v) -> ∀(j:Nat) (x:AV) (u:Value),(flat f)[j]?=some x->(z.flatMap λv=>v.cells.toList)[j]?=some u->x.one=true/\u.oneCell'=true/\Rd w g.S g.T x u:=by
    intro f;induction f with
    |nil=>intro z _ _ j x u h;simp[flat]at h|cons y l ih =>
     intro z hl hc j x u B A;match z,hl with
     |v::z,hl =>
      have R:=hc 0 y v rfl rfl;obtain⟨us,Z,hul,hua⟩:=(Gv.data (s:=s) y _ R).cells (R.allOne id);have hvt:v.cells.toList=us:=by rw[Z]
      simp only[flat,ya,hvt]at B A;by_cases hj:j<us.length
      .rw[yK (by omega)]at B;rw[yK hj]at A;have:=hua j x u B A;exact⟨this.1,this.2.1,R.cell B (by rw[Z];simpa using A)⟩
      rw[yS (by omega)]at B;rw[yS (by omega)]at A;rw[hul]at B;exact ih z (by simpa using hl) (λi=>hc (i+1)) _ x u B A
   exact key f (qs.map a.eval) (by simp[n]) (λi y v Q M=>by rw[yF]at M;obtain⟨q,J,rfl⟩:=yC M;exact C i y q Q J)
  have r:((qs.map a.eval).flatMap λv=>v.cells.toList).length=f.length*m:=by
   have:∀(z:List Value),(∀v∈z,v.cells.size=m)->(z.flatMap λv=>v.cells.toList).length=z.length*m:=by intro z;induction z with|nil=>simp|cons v l ih=>intro M;simp[ih (λu A=>M u (by simp[A])),M v (by simp),Nat.succ_mul];omega
   rw[this _ Y];simp[n]
  have G:(execOp a.eval o).run P w=.ok (.value (.slice (some ⟨w.heap.size,0,none⟩) f.length f.length)) (w.alloc (.cells ((qs.map a.eval).flatMap λv=>v.cells.toList).toArray e)):=by
   have F:∀U:Array Value,Instr.fill (λi=>some (i*m,m)) ((Array.range (qs.length*m)).map (U[· % U.size]!)) (((qs.map a.eval).zipIdx 0).map λ(v,i)=>(i,v))=some ((qs.map a.eval).flatMap λv=>v.cells.toList).toArray:=by intro U;have F:=Z20 m qs.length (qs.map a.eval) 0 ((Array.range (qs.length*m)).map (U[· % U.size]!)).toList (by simp) (by simp) Y;simpa only[Array.toArray_toList,Nat.zero_mul,List.take_zero,List.nil_append]using F
   have e2:((qs.zipIdx.map λ(q,i)=>(i,q)).toArray.map λ(i,x)=>(i,a.eval x)).toList=((qs.map a.eval).zipIdx 0).map λ(v,i)=>(i,v):=by simp[List.zipIdx_map]
   have hle:¬ (qs.length*m > 2 ^ 24):=by rw[← n];omega
   simp only[execOp,ho,Sem.run_bind,Instr.buildSlice,run_underlying ht,Result.andThen_ok,Ws hsz,ye hle,Sem.run_pure];rw[e2];by_cases N:qs.length*m=0
   .simp only[N,yb];have:=F #[];rw[N]at this;simp only[Sem.run_bind,Sem.run_pure,Result.andThen_ok,this];simp[newRow,n]
   simp only[N,yc];simp only[Sem.run_bind,V1B hz,Sem.run_pure,Result.andThen_ok,F];simp[newRow,n]
  have L:=heap_alloc_new w (.cells ((qs.map a.eval).flatMap λv=>v.cells.toList).toArray e);have D:∀b,b<w.heap.size->(w.alloc (.cells ((qs.map a.eval).flatMap λv=>v.cells.toList).toArray e)).heap[b]?=w.heap[b]?:=λb E=>heap_alloc_old w _ E;have hml:f.length<=maxLen:=by simp only[maxLen];omega
  have T0:∀b o,g.S b o->(w.alloc (.cells ((qs.map a.eval).flatMap λv=>v.cells.toList).toArray e)).cell? ⟨b,o,none⟩=w.cell? ⟨b,o,none⟩:=λb o ho=>World.cell?_of_block (D b (I.sw b o ho));have H:∀S',(∀b o,g.S b o->S' b o)->QU (w.alloc (.cells ((qs.map a.eval).flatMap λv=>v.cells.toList).toArray e)) S' g.T ⟨m,f,false⟩ (.slice (some ⟨w.heap.size,0,none⟩) f.length f.length):=λS' hS' =>⟨(qs.map a.eval).flatMap λv=>v.cells.toList,e,⟨r,.inr ⟨w.heap.size,f.length,_,rfl,Nat.zero_le _,L,yV _,hml,by rw[List.size_toArray];exact r,List.take_of_length_le (Nat.le_of_eq r)⟩⟩,h1, λj x u B A=>⟨(k j x u B A).1,(k j x u B A).2.1,(k j x u B A).2.2.mono hS' TLe.refl T0⟩⟩;cases V with
  |true =>simp only[yb]at h;have I1:=I.grow (w':=w.alloc (.cells ((qs.map a.eval).flatMap λv=>v.cells.toList).toArray e)) (S':=g.S) rfl rfl rfl (by simp) D (λ_ _ h=>h) (λ_ _ h=>.inl h);have I2:=I1.addrow d ⟨m,f,false⟩ _ (H g.S (λ_ _ h=>h)) (λb E=>by simp only[Value.ownBlock,yI]at E;subst E;exact I.vac (yV _)) (by have:=c.ntb;omega);exact sok hK hd hlt G I2 (.sref d _ rfl λr0 _=>by simp) h|false =>
   simp only[yG,yc]at h;have I1:=I.grow (w':=w.alloc (.cells ((qs.map a.eval).flatMap λv=>v.cells.toList).toArray e)) (S':=λb o=>g.S b o\/(b=w.heap.size)) rfl rfl rfl (by simp) D (λ_ _ h=>.inl h) (λb o h=>by
    rcases h with h|h
    .exact .inl h
    exact .inr ⟨by omega,by subst h;simp⟩) (λb o h=>h.imp id λh=>by subst h;exact .plain L)
   refine sok hK hd hlt G I1 (.data _ _ (V0a (H _ (λ_ _ h=>.inl h)) (λb o E _=>?_) .nw (λb E=>?_))) h
   .simp only[Value.ownBlock,yI]at E;exact .inr E.symm
   simp only[Value.ownBlock,yI]at E;subst E;exact⟨I.nn _ I.fr.size,(I.vac (yV _)).O⟩
 cases h
theorem J1o(n b:Nat)(e:AV)(g:e.cells.length=b)(j:Nat)(x:AV)(a:(flat (List.replicate n e))[j]?=some x):j<n*b/\e.cells[j % b]?=some x:=by
 induction n generalizing j with
 |zero=>simp[flat]at a|succ n c =>
  simp[List.replicate_succ,flat]at a c;by_cases f:j<b
  .rw[yK (by omega)]at a;exact⟨by rw[Nat.succ_mul];omega,by rw[Nat.mod_eq_of_lt f];exact a⟩
  rw[yS (by omega),g]at a;obtain⟨h,d⟩:=c (j-b) a;exact⟨by rw[Nat.succ_mul];omega,by rw[Nat.mod_eq_sub_mod (by omega)];exact d⟩
theorem V2y(I:Inv c g s a w)(hK:∀g' s' a' w',Inv c g' s' a' w'->K s'->K' a' w')(hd:o.dst=some d)(Y:d<c.nt){x:X}{p:Operand}{t e:TypeId}{i:TypeInfo}{r:Value}{z:List AV}{f B:Nat}(ho:o.op=.makeSlice t p p)(ht:P.underlying t=some (.slice e))(hi:P.info? e=some i)(hz:i.zero=some r)(hs:i.size=f)(hby:i.bytes=B)(E:vmL z r.cells.toList=true)(l:allOne z=true)(F:z.length=f)(G:0<f)(hx:chkX x p=true)(h:wop P (.ms d f B z x) K s):o.wp P a w K' Q':=by
 simp[wop]at h;have gx:=I.get hx;split at h
 .rename_i k m hm;rw[hm]at gx;obtain⟨O,h2,h3,h⟩:=h;obtain⟨n,rfl⟩:=Int.eq_ofNat_of_zero_le O;have L:n<=maxLen:=by simp only[maxLen];omega
  have hbn:i.bytes*n<=140737488355328:=by
   rw[hby];have h2':((B*n:Nat):Int)<=140737488355328:=by rw[Int.natCast_mul];exact h2
   omega
  obtain⟨w',r1,r2,C⟩:=run_make_full (P:=P) w 0 t e i r f ht hi hz hs k k n (by omega) L (Nat.zero_le _);simp[]at h;have A:∀(n:Nat),((if f=1 then z.getD 0 .bad else .agg z:AV)).cells.length=f/\(if f=1 then z.getD 0 .bad else .agg z:AV).cells=z:=by
   intro _;split
   .rename_i O;match z,l,(F.trans O:z.length=1)with|[y],l,_ =>have:=W2f (by simpa[allOne]using l);show y.cells.length=f/\y.cells=[y];rw[this];exact⟨O.symm,rfl⟩
   exact⟨F,rfl⟩
  have J:=λb M=>C.block b M (by simp);have hal:=M1U (w:=w) (g:=g) (s:=s) E l;have H:QU w' g.S g.T ⟨f,List.replicate n (if f=1 then z.getD 0 .bad else .agg z),false⟩ (.slice (some ⟨w.heap.size,0,none⟩) n n):=by
   refine⟨_,e,by simpa using r2,λy R=>by rw[List.eq_of_mem_replicate R];exact(A 0).1,λj y u R W=>?_⟩;obtain⟨q1,Q⟩:=J1o n f _ (A 0).1 j y R;rw[(A 0).2]at Q;have D:r.cells.size=f:=by have:=hal.1;simp at this;omega
   have V:u=r.cells[j % r.cells.size]!:=by simp only[madeCells,Array.toList_map,yF,Array.toList_range]at W;rw[List.getElem?_range q1]at W;simpa using W.symm
   have Z:j % f<f:=Nat.mod_lt _ G;have U:r.cells.toList[j % f]?=some u:=by rw[V,D];simp[D,Z]
   have hr:=(Z1W (w:=w') (S:=g.S) (N:=g.T) E).2 _ y u Q U;have q:y.one=true:=by simp[allOne,List.all_eq_true]at l;exact l y (yE Q)
   exact⟨q,hr.one_cell q,hr⟩
  have I1:=I.grow (w':=w') (S':=g.S) C.os C.tape C.output C.size J (λ_ _ h=>h) (λ_ _ h=>.inl h);have I2:=I1.addrow d _ _ H (λb M=>by simp[Value.ownBlock]at M;subst M;exact I.vac (yV _)) (by have:=c.ntb;omega);refine sok (v:=.slice (some ⟨w.heap.size,0,none⟩) n n) hK hd Y ?_ I2 (.sref d _ rfl λr0 _=>by simp) h;have hp:=gx.int_inv;simp[execOp,ho,hp,r1]
 cases h
end ops
end
end
end Go.Proofs.YtehomnafaoplgaaGreat.Eng
