/-
  Lemmas, part 3.
-/
import Derived.Test.YtpgaganbacipnaaGreatS2
import Derived.Laws.BytesString
import Derived.Laws.IdiomStrings
namespace Go.Proofs.YtpgaganbacipnaaGreat.Eng
open Go Go.RowKit
section
section
variable{P:Program}{c:Cx}{g:Gh}{s:St}{a:Act}{w:World}
theorem Al.turn{w':World}{g':Gh}{s':St}{cs:List AV}{vs:List Value}(T:Turn (fun _=>True) w w' g g' s s')(h:Al w g s cs vs):Al w' g' s' cs vs :=
  ⟨h.1,fun i y u hy hu=>⟨(h.2 i y u hy hu).1,(h.2 i y u hy hu).2.1,(h.2 i y u hy hu).2.2.turn T⟩⟩
theorem J1G{es:List AV}{sz:Nat}(hs:∀e∈es,e.cells.length=sz){i off:Nat}{e e':AV}{vs:List AV}(he:es[i]?=some e)(hle:off+vs.length<=e.cells.length)(he':e'.cells=putC e.cells off vs) :
  flat (es.set i e')=putC (flat es) (i*sz+off) vs:=by
 induction es generalizing i with
 |nil=>simp at he
 |cons x l ih =>
  have hx:x.cells.length=sz:=hs x (by simp)
  cases i with
  |zero =>
   simp at he;subst he
   simp only[List.set_cons_zero,flat,ya,he',Nat.zero_mul,Nat.zero_add]
   unfold putC
   rw[List.take_append_of_le_length (by omega),List.drop_append_of_le_length (by omega)]
   simp
  |succ i =>
   simp at he
   have:=ih (fun e h=>hs e (by simp[h])) he
   simp only[flat,List.set_cons_succ,ya]at this ⊢
   rw[this]
   unfold putC
   rw[show(i+1)*sz+off=x.cells.length+(i*sz+off) by rw[hx,Nat.succ_mul];omega]
   rw[List.take_length_add_append,Nat.add_assoc (x.cells.length),List.drop_length_add_append]
   simp
theorem L1v{cs vs:List Value}{p m:Nat}(h:p+vs.length<=m)(hm:m<=cs.length):(putV cs p vs).take m=putV (cs.take m) p vs:=by
 apply List.ext_getElem?
 intro i
 rw[List.getElem?_take,U0h (by omega),U0h (by rw[List.length_take];omega),List.getElem?_take]
 by_cases h1:i<m
 .simp[h1]
 .rw[ye h1,ye (by omega),ye h1]
theorem W0z{t:TypeId}{n:Nat}(hs:tsz P t=some n)(b o:Nat)(v:Value)(us:List Value)(hv:v.cells=us.toArray)(hl:us.length=n)(cur:Array Value)(ty:TypeId)
  (hb:w.heap[b]?=some (.cells cur ty (0,0))) (hle:o+n<=cur.size) (h1:∀u∈us,u.oneCell'=true) :
  (Instr.storeAt t (.pointer (some ⟨b,o,none⟩)) v).run P w=.ok () (w.setRow b (putV cur.toList o us).toArray):=by
 have:=run_storeCells_at P b o ty us 0 cur w hb (by rw[hl];simpa using hle) h1
 simp only[Nat.add_zero]at this
 simp only[Instr.storeAt,Instr.sureAddr,Sem.run_bind,Sem.run_pure,Result.andThen_ok,storeVar,Lm hs,hv]
 simp[hl,this,putV]
theorem Rd.allOne{S:Nat->Nat->Prop}{N:Tag->Nat->Value->Prop}{x:AV}{v:Value}(h:Rd w S N x v)(_h:True->True):allOne x.cells=true:=by
 cases h with
 |agg cs vs hl h1 h=>simpa[Eng.allOne,AV.cells]using h1
 |_=>simp[Eng.allOne,AV.cells,AV.one]
theorem Rd.cell{S:Nat->Nat->Prop}{N:Tag->Nat->Value->Prop}{x:AV}{v:Value}(h:Rd w S N x v){j:Nat}{y:AV}{u:Value}(hy:x.cells[j]?=some y)(hu:v.cells[j]?=some u):Rd w S N y u:=by
 have hh:=h
 cases h with
 |agg cs vs hl h1 h=>exact h j y u hy (by simpa[Value.cells]using hu)
 |_ =>
  cases j with
  |zero=>simp[AV.cells,Value.cells]at hy hu;subst hy;subst hu;exact hh
  |succ j=>simp[AV.cells]at hy
theorem Y0J{x:AV}(h:plain x=true):s.dt x=some x:=by cases x<;>simp[plain]at h<;>rfl
theorem U1b:∀{cs:List AV},cs.all plain=true->s.dtL cs=some cs
 |[],_=>rfl
 |x::l,h=>by
  simp only[List.all_cons,yD]at h
  simp[St.dtL,Y0J h.1,U1b h.2]
theorem W13{x:AV}(h:nosr x=true):s.dt x=some x:=by
 cases x with
 |agg cs=>simp only[nosr]at h;simp[St.dt,U1b h]
 |_=>first|exact Y0J h|simp[nosr,plain]at h
theorem X1l{x:AV}{v:Value}(hp:plain x=true)(h:Gv w g s x v):Rd w g.S g.T x v:=by
 cases h with
 |data _ _ h=>exact h
 |_=>simp[Eng.plain]at hp
theorem Inv.plain(_I:Inv c g s a w){x y:AV}{v:Value}(hn:nosr x=true)(hy:s.dt x=some y)(h:Gv w g s x v):Rd w g.S g.T y v:=by
 rw[W13 hn]at hy;cases hy
 cases x with
 |agg cs =>
  simp only[nosr,List.all_eq_true]at hn
  cases h with
  |data _ _ h=>exact h
  |agg _ vs hl h1 hc =>
   refine .agg cs vs hl (fun a ha=>?_) (fun i a v ha hv=>X1l (hn a (yE ha)) (hc i a v ha hv))
   have:=hn a ha
   cases a<;>simp[Eng.plain]at this<;>rfl
 |_=>exact X1l (by simpa[nosr]using hn) h
section ops
variable{o:Oper}{d:Nat}{K:St->Prop}{K':Act->World->Prop}{Q':Exit->Act->World->Prop}
theorem M1U(I:Inv c g s a w)(hK:∀g' s' a' w',Inv c g' s' a' w'->K s'->K' a' w')(hd:o.dst=none)
    {x y:X} {p q:Operand} {t:TypeId} {n:Nat} (ho:o.op=.store t p q) (hs:tsz P t=some n) (hx:chkX x p=true) (hy:chkX y q=true) (h:wop P (.st x y n) K s):o.wp P a w K' Q':=by
  have fin:∀g' s' w',(Instr.storeAt t (a.eval p) (a.eval q)).run P w=.ok () w'->Inv c g' s' a w'->K s'->o.wp P a w K' Q':=by
    intro g' s' w' hr I' hk
    have hr':(execOp a.eval o).run P w=.ok .skip w':=by simp[execOp,ho,hr]
    unfold Oper.wp
    rw[hr',Oper.upon_skip,hd]
    exact hK _ _ _ _ I' hk
  simp only[wop]at h
  have gx:=I.get hx
  have gy:=I.get hy
  split at h
  · rename_i k off e
    rw[e]at gx
    split at h
    · rename_i cs hk
      obtain⟨h1,h2,h3,h⟩:=h
      obtain⟨us,hv,hul,hua⟩:=gy.cells h3
      obtain⟨vs,ty,hb,hvl,hva⟩:=I.bxs k cs hk
      have hone:∀u∈us,u.oneCell'=true:=by
        intro u hu
        obtain⟨i,hi,rfl⟩:=List.getElem_of_mem hu
        have hi':i<(s.get y).cells.length:=by rw[hul];exact hi
        exact(hua i _ _ (yA hi') (yA hi)).2.1
      have hr:=W0z (P:=P) hs (g.bb k) off (a.eval q) us hv (by omega) vs.toArray ty hb (by rw[List.size_toArray];omega) hone
      rw[gx.ptr_inv hk]at fin
      refine fin g _ _ hr ?_ h
      have W:=Q0z w (g.bb k) (putV vs.toArray.toList off us).toArray
      have T:Turn (fun _=>True) w (w.setRow (g.bb k) (putV vs.toArray.toList off us).toArray) g g s { s with bx:=fun j=>if j=k then some (putC cs off (s.get y).cells)else s.bx j } :=
        ⟨fun _ _ h=>h,fun _ h=>h,TLe.of (fun _ h=>h) rfl,fun b o ho=>World.cell?_of_block (W.block b (fun e=>(I.bxn k cs hk).2 o (e ▸ ho))),fun j _ r h=>⟨r,h,rfl,rfl⟩,fun j _ c' h=>by
          by_cases hj:j=k
          · subst hj;exact⟨cs,hk,rfl⟩
          · simp only[hj,yc]at h;exact⟨c',h,rfl⟩,fun _ _ h=>h,J0M fun b hb=>W.block b fun e=>I.ow.bx k cs hk (e ▸ hb)⟩
      have A1:Al w g s cs vs:=⟨hvl.symm,hva⟩
      have A2:Al w g s (s.get y).cells us:=⟨hul,fun i z u hz hu=>⟨.inl (hua i z u hz hu).1,(hua i z u hz hu).2⟩⟩
      have A3:=(A1.put A2 (off:=off) (by omega)).turn T
      refine I.setbox hk W ⟨putV vs off us,ty,?_,A3.1.symm,A3.2⟩
      exact setRow_heap w (g.bb k) vs.toArray _ ty (0,0) hb
    · cases h
  · rename_i k i off e
    rw[e]at gx
    split at h
    · rename_i r hk
      split at h
      · rename_i el1 v hel hdt
        obtain⟨hsh,h1,h2,hno,h⟩:=h
        obtain⟨b,hb,hp⟩:=gx.rpt_inv hk
        have hrd:Rd w g.S g.T v (a.eval q):=I.plain hno hdt gy
        have hone1:allOne v.cells=true:=hrd.allOne id
        obtain⟨us,hv,hul,hua⟩:=(Gv.data (s:=s) v _ hrd).cells hone1
        have hone:∀u∈us,u.oneCell'=true:=by
          intro u hu
          obtain⟨i,hi,rfl⟩:=List.getElem_of_mem hu
          have hi':i<v.cells.length:=by rw[hul];exact hi
          exact(hua i _ _ (yA hi') (yA hi)).2.1
        have hrow:=I.rws k r hk
        obtain⟨xs,ty,hown,hsz,hc⟩:=hrow
        have hel':=hsz el1 (yE hel)
        have hi:i<r.es.length:=(yB hel).1
        rcases hown.2 with⟨hn,_⟩|⟨b',cap,cur,hv',h0,hbk,q1,q2,q3,q4⟩
        · rw[hn]at hb;simp[Value.ownBlock]at hb
        · have hbb:b'=b:=by rw[hv']at hb;simpa[Value.ownBlock]using hb
          subst hbb
          have hmul:i*r.sz+r.sz<=r.es.length*r.sz:=by rw[← Nat.succ_mul];exact Nat.mul_le_mul_right _ hi
          have hmul2:r.es.length*r.sz<=cap*r.sz:=Nat.mul_le_mul_right _ q1
          have hr:=W0z (P:=P) hs b' (i*r.sz+off) (a.eval q) us hv (by omega) cur ty hbk (by omega) hone
          rw[hp]at fin
          refine fin g _ _ hr ?_ h
          have W:=Q0z w b' (putV cur.toList (i*r.sz+off) us).toArray
          have hS:∀b o,g.S b o->(w.setRow b' (putV cur.toList (i*r.sz+off) us).toArray).cell? ⟨b,o,none⟩=w.cell? ⟨b,o,none⟩:=fun b o ho' =>
            World.cell?_of_block (W.block b (fun e=>by have:=((I.rwn k r hk b' hb).2 o (e ▸ ho')).1;rw[hsh]at this;cases this))
          refine I.setrow hk hsh rfl hb W ?_
          have he':(if n=el1.cells.length then v else AV.agg (putC el1.cells off v.cells)).cells=putC el1.cells off v.cells:=by
            split
            · rename_i hn
              have:off=0:=by omega
              subst this
              unfold putC;rw[List.take_zero,List.nil_append,List.drop_eq_nil_of_le (by omega),List.append_nil]
            · rfl
          refine⟨putV xs (i*r.sz+off) us,ty,⟨?_,.inr ⟨b',cap,_,by simpa using hv',Nat.zero_le _,setRow_heap w b' cur _ ty (0,0) hbk,by simpa using q1,q2,?_,?_⟩⟩,?_,?_⟩
          · have:=hown.1
            rw[Z0J (by omega)];simpa using this
          · rw[List.size_toArray,Z0J (by simp;omega)];simpa using q3
          · simp only[List.length_set]
            rw[L1v (by omega) (by simp;omega),q4]
          · intro e1 he1
            rcases List.mem_or_eq_of_mem_set he1 with h'|h'
            · exact hsz e1 h'
            · rw[h',he',Z1l (by omega)];exact hel'
          · intro j x u hx hu
            rw[J1G hsz hel (by omega) he']at hx
            have hfl:=Y0i hsz
            rw[Y1l (by omega)]at hx
            rw[U0h (by have:=hown.1;omega),← hul]at hu
            split at hx
            · rename_i hcnd
              rw[yd hcnd]at hu
              obtain⟨z1,z2,z3⟩:=hua _ _ _ hx hu
              have hrd':Rd w g.S g.T x u:=hrd.cell hx (by rw[hv];simpa using hu)
              exact⟨z1,z2,hrd'.mono (fun _ _ h=>h) TLe.refl hS⟩
            · rename_i hcnd
              rw[ye hcnd]at hu
              obtain⟨z1,z2,z3⟩:=hc j x u hx hu
              exact⟨z1,z2,z3.mono (fun _ _ h=>h) TLe.refl hS⟩
      · cases h
    · cases h
  · cases h
end ops
end
end
section
section
variable{P:Program}{c:Cx}{g:Gh}{s:St}{a:Act}{w:World}
theorem O1E(t ty e ty0:TypeId)(i:TypeInfo)(ht:P.underlying t=some (.slice e))(hi:P.info? e=some i)
  (b sLen sCap:Nat) (cur:Array Value) (hg:w.heap[b]?=some (.cells cur ty0 (0,0)))
  (ad:Addr) (m cp:Nat) (news:List Value) (hl:news.length=m*i.size) (hnews:∀j u,news[j]?=some u->w.cell? (ad.add j)=some u) (h1:∀u∈news,u.oneCell'=true)
  (hroom:sLen+m<=sCap) (hfit:sLen*i.size+news.length<=cur.size) :
  (Builtin.append_ #[t,t] ty #[.slice (some ⟨b,0,none⟩) sLen sCap,.slice (some ad) m cp]).run P w =
   .ok (.slice (some ⟨b,0,none⟩) (sLen+m) sCap) (w.setRow b (cur.toList.take (sLen*i.size)++news++cur.toList.drop (sLen*i.size+news.length)).toArray):=by
 have hf:=run_firstCells_some (P:=P) (w:=w) i.size m ad m cp news hl hnews
 have hst:=run_storeCells_at P b (sLen*i.size) ty0 news 0 cur w hg (by simpa using hfit) h1
 simp only[Nat.add_zero]at hst
 simp[Builtin.append_,run_underlying ht,sizeOf,typeInfo,hi,Builtin.lenOf,hroom,hf,Addr.add_lit,hst]
theorem L1N(t ty e ty0:TypeId)(i:TypeInfo)(z:Value)(ht:P.underlying t=some (.slice e))(hi:P.info? e=some i)(hz:i.zero=some z)
  (hzs:z.cells.size=i.size)
  (v:Value) (n:Nat) (xs:List Value) (hown:w.ownsRow 0 ty0 i.size v n xs)
  (src:Value) (m cp:Nat) (pa:Option Addr) (hsrc:src=.slice pa m cp) (news:List Value) (hl:news.length=m*i.size)
  (hnews:0<news.length->∃ad,pa=some ad/\∀j u,news[j]?=some u->w.cell? (ad.add j)=some u) (hpa:0<m->pa.isSome=true) (h1:∀u∈news,u.oneCell'=true)
  (h63:n+m<=maxLen) (hbytes:(n+m)*i.bytes<=140737488355328) :
  ∃v' w' ty1,(Builtin.append_ #[t,t] ty #[v,src]).run P w=.ok v' w'/\w'.ownsRow 0 ty1 i.size v' (n+m) (xs++news)/\w.grownBy w' v.ownBlock /\
   (v'.ownBlock=v.ownBlock\/(v'.ownBlock=some w.heap.size/\w.grownBy w' none)):=by
 subst hsrc
 by_cases hm0:m=0
 .subst hm0
  have hn0:news=[]:=List.eq_nil_of_length_eq_zero (by simpa using hl)
  subst hn0
  refine⟨v,w,ty0,?_,by simpa using hown,World.grownBy.refl w _,.inl rfl⟩
  have hfc:(Builtin.firstCells i.size 0 (.slice pa 0 cp)).run P w=.ok #[] w:=by
   cases pa<;>simp[Builtin.firstCells,loadCells,loadCellsFrom]
  rcases hown.2 with⟨rfl,rfl⟩|⟨b,cap,cur,rfl,_,hb,hnc,_,_,_⟩
  .simp[Builtin.append_,run_underlying ht,sizeOf,typeInfo,hi,Builtin.lenOf,hfc]
  .simp[Builtin.append_,run_underlying ht,sizeOf,typeInfo,hi,Builtin.lenOf,hfc,hnc,storeCells]
 .obtain⟨ad,rfl⟩:=Option.isSome_iff_exists.1 (hpa (by omega))
  have hnews':∀j u,news[j]?=some u->w.cell? (ad.add j)=some u:=by
   intro j u hj
   obtain⟨ad',e1,e2⟩:=hnews (by have:=(yB hj).1;omega)
   cases e1;exact e2 j u hj
  have hlen:(xs++news).length=(n+m)*i.size:=by rw[yU,hown.1,hl,Nat.add_mul]
  have grown:∀(old:Nat),old<n+m->∀(row:Option Nat),
    (w.drew.alloc (.cells (xs.toArray++news.toArray++Builtin.zeroCells z.cells (grownCap w (n+m) old e-(n+m))) e)).ownsRow 0 e i.size
     (.slice (some ⟨w.heap.size,0,none⟩) (n+m) (grownCap w (n+m) old e)) (n+m) (xs++news) /\
    w.grownBy (w.drew.alloc (.cells (xs.toArray++news.toArray++Builtin.zeroCells z.cells (grownCap w (n+m) old e-(n+m))) e)) row:=by
   intro old ho row
   have hge:=grownCap_ge w (n+m) old e
   have hcm:grownCap w (n+m) old e<=maxLen:=grownCap_le_maxLen w (n+m) old e h63
   refine⟨⟨hlen,.inr ⟨w.heap.size,_,_,rfl,Nat.zero_le _,heap_alloc_new w.drew _,hge,hcm,?_,?_⟩⟩,⟨rfl,rfl,rfl,by simp,fun k hk _=>heap_alloc_old w.drew _ hk⟩⟩
   .simp only[Array.size_append,List.size_toArray,size_zeroCells,hzs,hown.1,hl,← Nat.add_mul]
    congr 1
    omega
   .simp only[Array.toList_append,List.append_assoc]
    rw[← List.append_assoc,← hlen]
    exact List.take_left
  have h63n:n+m<=9223372036854775807:=by simp only[maxLen]at h63;omega
  rcases hown.2 with⟨rfl,rfl⟩|⟨b,cap,cur,rfl,hbg,hg,hnc,hcm,hcs,htake⟩
  .have hx:xs=[]:=List.eq_nil_of_length_eq_zero (by simpa using hown.1)
   subst hx
   have hr:=run_append_nil (P:=P) w t ty e i z ht hi hz ad m cp news hl hnews' (by omega) (by omega) (by have hb:=hbytes;simp only[Nat.zero_add]at hb;omega)
   have hgr:=grown 0 (by omega) (Value.ownBlock (.slice none 0 0))
   have hgr2:=grown 0 (by omega) none
   simp only[Nat.zero_add,List.nil_append,Array.empty_append]at hgr hgr2 ⊢
   exact⟨_,_,e,hr,hgr.1,hgr.2,.inr ⟨rfl,hgr2.2⟩⟩
  .by_cases hroom:n+m<=cap
   .have hfit:n*i.size+news.length<=cur.size:=by rw[hl,hcs,← Nat.add_mul];exact Nat.mul_le_mul_right _ hroom
    have hr:=O1E (P:=P) (w:=w) t ty e ty0 i ht hi b n cap cur hg ad m cp news hl hnews' h1 hroom hfit
    refine⟨_,_,ty0,hr,⟨hlen,.inr ⟨b,cap,_,rfl,hbg,setRow_heap w b cur _ ty0 _ hg,hroom,hcm,?_,?_⟩⟩,⟨rfl,rfl,rfl,by simp,fun k _ hk=>setRow_other w b k _ (fun e=>hk (by simp[Value.ownBlock,e]))⟩,.inl rfl⟩
    .simp only[List.size_toArray,yU,List.length_take,List.length_drop,Array.length_toList]
     omega
    .rw[htake,← hlen]
     exact List.take_left
   .have holds:∀j u,xs[j]?=some u->w.cell? ((⟨b,0,none⟩:Addr).add j)=some u:=hown.cells (g:=b) rfl
    have hr:=run_append_grow (P:=P) w t ty e i z ht hi hz ⟨b,0,none⟩ n cap xs hown.1 holds ad m cp news hl hnews' (by omega) (by omega) (growslice_fits (by omega) hbytes)
    have hgr:=grown cap (by omega) (Value.ownBlock (.slice (some ⟨b,0,none⟩) n cap))
    exact⟨_,_,e,hr,hgr.1,hgr.2,.inr ⟨rfl,(grown cap (by omega) none).2⟩⟩
theorem Rd.src{S:Nat->Nat->Prop}{N:Tag->Nat->Value->Prop}{t:Tag}{sz:Nat}{es:List AV}{v:Value}(h:Rd w S N (.sl t sz es) v) :
  ∃pa cp,v=.slice pa es.length cp/\(0<es.length->pa.isSome=true)/\∃news:List Value,(es≠[]->news.length=es.length*sz)/\(es=[]->news=[])/\(flat es).length=news.length/\(∀u∈news,u.oneCell'=true) /\
   (∀e∈es,e.cells.length=sz) /\
   (0<news.length->∃ad,pa=some ad/\∀j u,news[j]?=some u->w.cell? (ad.add j)=some u) /\
   ∀(j:Nat) (x:AV) (u:Value),(flat es)[j]?=some x->news[j]?=some u->x.one=true/\u.oneCell'=true/\Rd w S N x u:=by
 cases h with
 |sl0 _ _ p q=>exact⟨p,q,rfl,by simp,[],by simp,by simp,by simp[flat],by simp,by simp,by simp,by intro j x u h;simp[flat]at h⟩
 |sl _ _ _ b o cc cv hc hm hs hw hn hrd =>
  have hlen:=Y0i hs
  have hget:∀j u,((List.range (flat es).length).map cv)[j]?=some u->∃x,(flat es)[j]?=some x/\u=cv j:=by
   intro j u hj
   rw[yF]at hj
   obtain⟨j',hj',rfl⟩:=yC hj
   have hlt:j<(flat es).length:=by have:=(yB hj').1;simpa using this
   rw[List.getElem?_range hlt]at hj'
   cases hj'
   exact⟨_,yA hlt,rfl⟩
  refine⟨_,_,rfl,fun _=>rfl,(List.range (flat es).length).map cv,fun _=>by simp[hlen],fun h=>by simp[h,flat],by simp,fun u hu=>?_,hs,fun _=>⟨_,rfl,fun j u hj=>?_⟩,fun j x u hx hu=>?_⟩
  .obtain⟨j,hj,rfl⟩:=List.getElem_of_mem hu
   obtain⟨x,hx,e⟩:=hget j _ (yA hj)
   rw[e]
   exact(hrd j x hx).one_cell (hw j x hx).2.2.1
  .obtain⟨x,hx,rfl⟩:=hget j u hj
   rw[WX];exact(hw j x hx).1
  .obtain⟨x',hx',rfl⟩:=hget j u hu
   rw[hx]at hx';cases hx'
   exact⟨(hw j x hx).2.2.1,(hrd j x hx).one_cell (hw j x hx).2.2.1,hrd j x hx⟩
theorem Z1O{S:Nat->Nat->Prop}{N:Tag->Nat->Value->Prop}{r:Row}{v:Value}(h:LI w S N r v) :
  ∃pa cp,v=.slice pa r.es.length cp/\(0<r.es.length->pa.isSome=true)/\∃news:List Value,news.length=r.es.length*r.sz/\(flat r.es).length=news.length/\(∀u∈news,u.oneCell'=true) /\
   (∀e∈r.es,e.cells.length=r.sz) /\
   (0<news.length->∃ad,pa=some ad/\∀j u,news[j]?=some u->w.cell? (ad.add j)=some u) /\
   ∀(j:Nat) (x:AV) (u:Value),(flat r.es)[j]?=some x->news[j]?=some u->x.one=true/\u.oneCell'=true/\Rd w S N x u:=by
 obtain⟨xs,ty,ho,hs,hc⟩:=h
 have hlen:=Y0i hs
 have hx:(flat r.es).length=xs.length:=by rw[hlen,ho.1]
 have hone:∀u∈xs,u.oneCell'=true:=by
  intro u hu
  obtain⟨j,hj,rfl⟩:=List.getElem_of_mem hu
  exact(hc j _ _ (yA (by omega)) (yA hj)).2.1
 have hcells:=fun b (hb:v.ownBlock=some b)=>ho.cells (g:=b) hb
 rcases ho.2 with⟨rfl,hn⟩|⟨b,cap,cur,rfl,_⟩
 .have h1:=ho.1
  refine⟨none,0,by rw[hn],by omega,xs,h1,hx,hone,hs,fun h=>?_,hc⟩
  rw[h1,hn]at h;simp at h
 .exact⟨_,_,rfl,fun _=>rfl,xs,ho.1,hx,hone,hs,fun _=>⟨_,rfl,hcells b rfl⟩,hc⟩
end
end
section
section
variable{P:Program}{c:Cx}{g:Gh}{s:St}{a:Act}{w:World}
theorem Inv.rerow(I:Inv c g s a w){k:Nat}{r r':Row}{v':Value}{w':World}(hk:s.rw k=some r)(hkb:k<1000000000)(hg:w.grownBy w' (g.rv k).ownBlock)(hsz:r'.sz=r.sz)(hle:r.es.length<=r'.es.length)(hsh:r'.sh=r.sh)
  (hr:LI w' g.S g.T r' v') (hv':v'.ownBlock=(g.rv k).ownBlock\/v'.ownBlock=some w.heap.size)
  (hpre:∀b o,(g.rv k).ownBlock=some b->g.S b o->w'.cell? ⟨b,o,none⟩=w.cell? ⟨b,o,none⟩) (huf:∀b,(g.rv k).ownBlock=some b->UnfB w' b) :
  Inv c { g with rv:=fun j=>if j=k then v' else g.rv j } { s.kill k with rw:=fun j=>if j=k then some r' else(s.kill k).rw j } a w':=by
 have hS:∀b o,g.S b o->w'.cell? ⟨b,o,none⟩=w.cell? ⟨b,o,none⟩:=by
  intro b o ho
  by_cases hb:(g.rv k).ownBlock=some b
  .exact hpre b o hb ho
  .exact World.cell?_of_block (hg.block b (I.sw b o ho) (fun e=>hb e.symm))
 have T:Turn (·≠k) w w' g { g with rv:=fun j=>if j=k then v' else g.rv j } s { s.kill k with rw:=fun j=>if j=k then some r' else(s.kill k).rw j }:=by
  refine⟨fun _ _ h=>h,fun _ h=>h,TLe.of (fun _ h=>h) rfl,hS,fun j hj r1 h=>?_,fun j hj c' h=>?_,fun _ _ h=>h,J0M fun b hb=>hg.block b (I.ow.size hb) (fun e=>I.ow.rw k r hk b e.symm hb)⟩
  .simp only[hj,yc]at h
   exact⟨r1,(X9 h).2,rfl,by simp[hj]⟩
  .obtain⟨_,c0,h0,_⟩:=X6 h
   exact⟨c0,h0,rfl⟩
 have hrw:∀j r1,(if j=k then some r' else(s.kill k).rw j)=some r1->(j=k/\r1=r')\/(j≠k/\s.rw j=some r1):=by
  intro j r1 h
  by_cases hj:j=k
  .simp only[hj,yb,yI]at h;exact .inl ⟨hj,h.symm⟩
  .simp only[hj,yc]at h;exact .inr ⟨hj,(X9 h).2⟩
 have hblk:∀b,v'.ownBlock=some b->(g.rv k).ownBlock=some b\/b=w.heap.size:=by
  intro b hb
  rcases hv' with h|h
  .exact .inl (by rw[← h];exact hb)
  .rw[h]at hb;cases hb;exact .inr rfl
 refine⟨I.defers,I.nt,⟨hg.os.trans I.fr.os,hg.tape.trans I.fr.tape,hg.output.trans I.fr.output,Nat.le_trans I.fr.size hg.size,?_⟩,fun i=>(I.tm i).turn_dead T,?_,?_,?_,?_,?_,?_,?_,?_,I.nn,I.nx,fun j hj=>⟨by simp only[show j≠k by omega,yc];exact(I.fix j hj).1,(I.fix j hj).2⟩,I.sm,I.sb,I.ow.turn rfl (fun _ h=>h) (yV _) (fun b hb=>hg.block b (I.ow.size hb) (fun e=>I.ow.rw k r hk b e.symm hb)) (fun j cs' h=>by obtain⟨_,c0,h0,_⟩:=X6 h;exact I.ow.bx j c0 h0) (fun j r1 h b hb=>?_),fun b o h q=>by
  by_cases hb:(g.rv k).ownBlock=some b
  .exact huf b hb
  .exact(I.uf b o h q).block (hg.block b (I.sw b o h) (fun e=>hb e.symm)),I.sd⟩
 .intro b hb hx
  have hlt:b<w.heap.size:=Nat.lt_of_lt_of_le hb I.fr.size
  rw[hg.block b hlt (fun e=>hx ((I.rwn k r hk b e.symm).1.2 hb))]
  exact I.fr.block b hb hx
 .intro j cs' h
  obtain⟨_,c0,h0,rfl⟩:=X6 h
  have hb:=I.bxs j c0 h0
  obtain⟨vs,ty,h1,h2,h3⟩:=hb
  refine⟨vs,ty,?_,by rw[Za];simpa using h2,fun i x v hx hv=>?_⟩
  .show w'.heap[g.bb j]?=_
   rw[hg.block _ (Q0k (I.bxs j c0 h0)) (fun e=>I.dbr j k c0 r h0 hk e.symm)];exact h1
  .rw[Za,yF]at hx
   obtain⟨a0,ha0,rfl⟩:=yC hx
   obtain⟨q1,q2,q3⟩:=h3 i a0 v ha0 hv
   exact⟨one_dead k q1,q2,q3.turn_dead T⟩
 .intro j cs' h
  obtain⟨_,c0,h0,rfl⟩:=X6 h
  exact I.bxn j c0 h0
 .intro j r1 h
  rcases hrw j r1 h with⟨rfl,rfl⟩|⟨hj,h0⟩
  .simpa using hr
  .simp only[hj,yc]
   exact(I.rws j r1 h0).mono (fun _ _ h=>h) TLe.refl hS (fun b hb=>hg.block b (XT (I.rws j r1 h0) hb) (fun e=>I.drr j k r1 r h0 hk hj b hb e.symm))
 .intro j r1 h b hb
  rcases hrw j r1 h with⟨rfl,rfl⟩|⟨hj,h0⟩
  .simp only[yb]at hb
   rcases hblk b hb with h|h
   .refine⟨(I.rwn j r hk b h).1,fun o ho=>?_⟩
    have:=(I.rwn j r hk b h).2 o ho
    exact⟨by rw[hsh];exact this.1,Nat.lt_of_lt_of_le this.2 (by rw[hsz];exact Nat.mul_le_mul_right _ hle)⟩
   .subst h
    have V:=I.vac (yV _)
    exact⟨V.N,fun o ho=>absurd ho (V.S o)⟩
  .simp only[hj,yc]at hb
   exact I.rwn j r1 h0 b hb
 .intro j j' c1 c2 h1 h2 hne
  obtain⟨_,d1,h1',_⟩:=X6 h1
  obtain⟨_,d2,h2',_⟩:=X6 h2
  exact I.dbb j j' d1 d2 h1' h2' hne
 .intro j j' c1 r1 h1 h2
  obtain⟨_,d1,h1',_⟩:=X6 h1
  rcases hrw j' r1 h2 with⟨rfl,rfl⟩|⟨hj,h0⟩
  .simp only[yb]
   intro e
   rcases hblk _ e with h|h
   .exact I.dbr j j' d1 r h1' hk h
   .have:=Q0k (I.bxs j d1 h1');omega
  .simp only[hj,yc];exact I.dbr j j' d1 r1 h1' h0
 .intro j j' r1 r2 h1 h2 hne b
  rcases hrw j r1 h1 with⟨rfl,rfl⟩|⟨hj,h0⟩<;>rcases hrw j' r2 h2 with⟨rfl,rfl⟩|⟨hj',h0'⟩
  .exact absurd rfl hne
  .simp only[yb,hj',yc]
   intro e e'
   rcases hblk b e with h|h
   .exact I.drr j' j r2 r h0' hk hj' b e' h
   .have:=XT (I.rws j' r2 h0') e';omega
  .simp only[yb,hj,yc]
   intro e e'
   rcases hblk b e' with h|h
   .exact I.drr j j' r1 r h0 hk hj b e h
   .have:=XT (I.rws j r1 h0) e;omega
  .simp only[hj,hj',yc];exact I.drr j j' r1 r2 h0 h0' hne b
 .intro b o ho;exact Nat.lt_of_lt_of_le (I.sw b o ho) hg.size
 .rcases hrw j r1 h with⟨rfl,rfl⟩|⟨hj,h0⟩
  .simp only[yb]at hb
   rcases hblk b hb with h|h
   .exact I.ow.rw j r hk b h
   .subst h;exact(I.vac (yV _)).O
  .simp only[hj,yc]at hb
   exact I.ow.rw j r1 h0 b hb
section ops
variable{o:Oper}{d:Nat}{K:St->Prop}{K':Act->World->Prop}{Q':Exit->Act->World->Prop}
theorem X0R(xs ys:List AV):flat (xs++ys)=flat xs++flat ys:=by simp[flat]
theorem W1L(I:Inv c g s a w){y:X}{q:Operand}(gy:Gv w g s (s.get y) (a.eval q)){isz:Nat}:∀tt sy nw,s.dt (s.get y)=some (.sl tt sy nw)->(nw=[]\/sy=isz)->∃(pa:Option Addr) (cp:Nat) (news:List Value),a.eval q=.slice pa nw.length cp/\(0<nw.length->pa.isSome=true)/\news.length=nw.length*isz /\
   (∀u∈news,u.oneCell'=true)/\(∀e∈nw,e.cells.length=isz)/\(0<news.length->∃ad,pa=some ad/\∀j u,news[j]?=some u->w.cell? (ad.add j)=some u) /\
   (∀(j:Nat) (x:AV) (u:Value),(flat nw)[j]?=some x->news[j]?=some u->x.one=true/\u.oneCell'=true/\Rd w g.S g.T x u):=by
  intro tt sy nw hdt hsy
  generalize hgy:s.get y=yv at *
  cases yv with
  |sl t1 s1 e1 =>
   simp only[St.dt,yI,AV.sl.injEq]at hdt
   obtain⟨rfl,rfl,rfl⟩:=hdt
   obtain⟨pa,cp,hv,hpa,news,n1,n2,n3,n4,n5,n6,n7⟩:=gy.sl_inv.src
   rcases hsy with rfl|rfl
   .exact⟨pa,cp,news,hv,hpa,by rw[n2 rfl];simp,n4,by simp,n6,n7⟩
   .refine⟨pa,cp,news,hv,hpa,?_,n4,n5,n6,n7⟩
    by_cases he:e1=[]
    .rw[n2 he,he];simp
    .exact n1 he
  |sref k =>
   simp only[St.dt]at hdt
   obtain⟨r,hr,he⟩:=yC hdt
   simp only[AV.sl.injEq]at he
   obtain⟨_,rfl,rfl⟩:=he
   obtain⟨pa,cp,hv,hpa,news,n1,n3,n4,n5,n6,n7⟩:=Z1O (I.rws k r hr)
   have hv':=(gy.sref_inv hr).trans hv
   rcases hsy with h0|h0
   .rw[h0]at n1 n5 hpa hv' ⊢
    refine⟨pa,cp,news,hv',hpa,by rw[n1];simp,n4,by simp,n6,?_⟩
    rw[h0]at n7;exact n7
   .rw[h0]at n1 n5
    exact⟨pa,cp,news,hv',hpa,n1,n4,n5,n6,n7⟩
  |agg cs=>simp only[St.dt]at hdt;obtain⟨_,_,h⟩:=yC hdt;cases h
  |fn f cs=>simp only[St.dt]at hdt;obtain⟨_,_,h⟩:=yC hdt;cases h
  |_=>simp[St.dt]at hdt
theorem O1L{y:X}{q:Operand}(gy:Gv w g s (s.get y) (a.eval q)):s.dt (s.get y)=some .nl->a.eval q=.slice none 0 0:=by
  intro hdt
  generalize hgy:s.get y=yv at *
  cases yv with
  |nl=>exact gy.nl_inv
  |agg cs=>simp only[St.dt]at hdt;obtain⟨_,_,h⟩:=yC hdt;cases h
  |fn f cs=>simp only[St.dt]at hdt;obtain⟨_,_,h⟩:=yC hdt;cases h
  |sref k=>simp only[St.dt]at hdt;obtain⟨_,_,h⟩:=yC hdt;cases h
  |_=>simp[St.dt]at hdt
theorem U1X(I:Inv c g s a w)(hK:∀g' s' a' w',Inv c g' s' a' w'->K s'->K' a' w')(hd:o.dst=some d)(hlt:d<c.nt)
    {x y:X} {p q:Operand} {t e:TypeId} {i:TypeInfo} {z:Value} {sz by':Nat} (ho:o.op=.call { callee:=.builtin .append,args:=#[p,q],argTypes:=#[t,t] })
    (ht:P.underlying t=some (.slice e)) (hi:P.info? e=some i) (hz:i.zero=some z) (hs:i.size=sz) (hby:i.bytes=by') (hby0:0<by') (hzs:z.cells.size=i.size)
    (hx:chkX x p=true) (hy:chkX y q=true) (h:wop P (.ap d x y sz by') K s):o.wp P a w K' Q':=by
  subst hs;subst hby
  simp only[wop]at h
  have gx:=I.get hx
  have gy:=I.get hy
  have run:∀v' w',(Builtin.append_ #[t,t] o.type #[a.eval p,a.eval q]).run P w=.ok v' w'->(execOp a.eval o).run P w=.ok (.value v') w':=by
    intro v' w' hr
    simp only[execOp,ho,Sem.run_bind,resolve,Sem.run_pure,Result.andThen_ok,invoke,builtin]
    simp[hr]
  have fin:∀(es:List AV) (v:Value) (n:Nat) (xs news:List Value) (nw:List AV) (ty0:TypeId),w.ownsRow 0 ty0 i.size v n xs->n=es.length->(∀e∈es,e.cells.length=i.size) ->
      (∀(j:Nat) (x:AV) (u:Value),(flat es)[j]?=some x->xs[j]?=some u->x.one=true/\u.oneCell'=true/\Rd w g.S g.T x u) ->
      ∀(pa:Option Addr) (cp:Nat),a.eval q=.slice pa nw.length cp->(0<nw.length->pa.isSome=true)->news.length=nw.length*i.size->(∀u∈news,u.oneCell'=true)->(∀e∈nw,e.cells.length=i.size) ->
      (0<news.length->∃ad,pa=some ad/\∀j u,news[j]?=some u->w.cell? (ad.add j)=some u) ->
      (∀(j:Nat) (x:AV) (u:Value),(flat nw)[j]?=some x->news[j]?=some u->x.one=true/\u.oneCell'=true/\Rd w g.S g.T x u) ->
      (es.length+nw.length)*i.bytes<=140737488355328->es.length+nw.length<=maxLen ->
      ∃v' w' ty1,(Builtin.append_ #[t,t] o.type #[v,a.eval q]).run P w=.ok v' w'/\w'.ownsRow 0 ty1 i.size v' (es++nw).length (xs++news)/\w.grownBy w' v.ownBlock /\
        (v'.ownBlock=v.ownBlock\/(v'.ownBlock=some w.heap.size/\w.grownBy w' none))/\(∀e∈es++nw,e.cells.length=i.size) /\
        (∀(j:Nat) (x:AV) (u:Value),(flat (es++nw))[j]?=some x->(xs++news)[j]?=some u->x.one=true/\u.oneCell'=true/\Rd w g.S g.T x u):=by
    intro es v n xs news nw ty0 hown hn hes hxs pa cp hq hpa hnl hone hnw hnews hnr hbytes hmax
    subst hn
    obtain⟨v',w',ty1,r1,r2,r3,r4⟩:=L1N (P:=P) t o.type e ty0 i z ht hi hz hzs v es.length xs hown (a.eval q) nw.length cp pa hq news hnl hnews hpa hone hmax hbytes
    refine⟨v',w',ty1,r1,by simpa using r2,r3,r4,?_,?_⟩
    · intro e he
      rcases List.mem_append.1 he with h|h
      · exact hes e h
      · exact hnw e h
    · intro j x u hx hu
      rw[X0R]at hx
      have hxl:(flat es).length=xs.length:=by rw[Y0i hes,hown.1]
      by_cases hj:j<xs.length
      · rw[yK (by omega)]at hx
        rw[yK hj]at hu
        exact hxs j x u hx hu
      · rw[yS (by omega)]at hx
        rw[yS (by omega)]at hu
        rw[hxl]at hx
        exact hnr _ x u hx hu
  have old:∀(k:Nat) (r:Row) (nw:List AV) (news:List Value),s.rw k=some r->k<1000000000->s.get x=.sref k->r.sz=i.size ->
      ∀(pa:Option Addr) (cp:Nat),a.eval q=.slice pa nw.length cp->(0<nw.length->pa.isSome=true)->news.length=nw.length*i.size->(∀u∈news,u.oneCell'=true)->(∀e∈nw,e.cells.length=i.size) ->
      (0<news.length->∃ad,pa=some ad/\∀j u,news[j]?=some u->w.cell? (ad.add j)=some u) ->
      (∀(j:Nat) (x:AV) (u:Value),(flat nw)[j]?=some x->news[j]?=some u->x.one=true/\u.oneCell'=true/\Rd w g.S g.T x u) ->
      (r.es.length+nw.length)*i.bytes<=140737488355328->r.es.length+nw.length<=maxLen ->
      K (St.set { s.kill k with rw:=fun j=>if j=k then some { r with es:=r.es++nw } else(s.kill k).rw j } d (.sref k))->o.wp P a w K' Q':=by
    intro k r nw news hk hkb hxk hsz pa cp hq hpa hnl hone hnw hnews hnr hbytes hmax hKs
    have hrow:=I.rws k r hk
    obtain⟨xs,ty,hown,hes,hc⟩:=hrow
    have hv:a.eval p=g.rv k:=by rw[hxk]at gx;exact gx.sref_inv hk
    rw[hsz]at hown
    obtain⟨v',w',ty1,r1,r2,r3,r4,r5,r6⟩:=fin r.es (g.rv k) _ xs news nw ty hown rfl (by rw[← hsz];exact hes) hc pa cp hq hpa hnl hone hnw hnews hnr hbytes hmax
    have hpre:∀b o,(g.rv k).ownBlock=some b->g.S b o->w'.cell? ⟨b,o,none⟩=w.cell? ⟨b,o,none⟩:=by
      intro b o' hb ho'
      have hlt':=((I.rwn k r hk b hb).2 o' ho').2
      have hox:o'<xs.length:=by rw[hown.1,← hsz];exact hlt'
      rcases r4 with r4|⟨r4,r4'⟩
      · have e1:=hown.cells hb o' _ (yA hox)
        have e2:=r2.cells (by rw[r4];exact hb) o' (xs[o']) (by rw[yK hox,yA hox])
        rw[WX,Nat.zero_add]at e1 e2
        rw[e1,e2]
      · exact World.cell?_of_block (r4'.block b (XT (I.rws k r hk) hb) (by simp))
    have hS:∀b o,g.S b o->w'.cell? ⟨b,o,none⟩=w.cell? ⟨b,o,none⟩:=by
      intro b o' ho'
      by_cases hb:(g.rv k).ownBlock=some b
      · exact hpre b o' hb ho'
      · exact World.cell?_of_block (r3.block b (I.sw b o' ho') (fun e=>hb e.symm))
    have hrow':LI w' g.S g.T { r with es:=r.es++nw } v' :=
      ⟨xs++news,ty1,by rw[hsz];exact r2,by rw[hsz];exact r5,fun j x u hx hu=>⟨(r6 j x u hx hu).1,(r6 j x u hx hu).2.1,(r6 j x u hx hu).2.2.mono (fun _ _ h=>h) TLe.refl hS⟩⟩
    have I2:=I.rerow (r':={ r with es:=r.es++nw }) hk hkb r3 rfl (by simp) rfl hrow' (by rcases r4 with h|h;exact .inl h;exact .inr h.1) hpre (fun b hb=>by
      have old:∀(w1:World) (v:Value) (ty2:TypeId) (n:Nat) (xs:List Value),w1.ownsRow 0 ty2 i.size v n xs->v.ownBlock=some b->UnfB w1 b:=by
        intro w1 v ty2 n xs hown hb
        rcases hown.2 with⟨e,_⟩|⟨b',cap,cur,e,_,e3,_⟩
        · rw[e]at hb;cases hb
        · rw[e]at hb;cases hb
          exact .plain e3
      rcases r4 with r4|⟨_,r4⟩
      · exact old _ _ _ _ _ r2 (by rw[r4];exact hb)
      · exact(old _ _ _ _ _ hown hb).block (r4.block b (XT (I.rws k r hk) hb) (by simp)))
    refine sok hK hd hlt (run v' w' (by rw[hv];exact r1)) I2 (.sref k v' ?_ fun r0 _=>by simp) hKs
    rcases r2.2 with⟨rfl,_⟩|⟨_,_,_,rfl,_⟩<;>rfl
  have new:∀(nw:List AV) (news:List Value),s.get x=.nl ->
      ∀(pa:Option Addr) (cp:Nat),a.eval q=.slice pa nw.length cp->(0<nw.length->pa.isSome=true)->news.length=nw.length*i.size->(∀u∈news,u.oneCell'=true)->(∀e∈nw,e.cells.length=i.size) ->
      (0<news.length->∃ad,pa=some ad/\∀j u,news[j]?=some u->w.cell? (ad.add j)=some u) ->
      (∀(j:Nat) (x:AV) (u:Value),(flat nw)[j]?=some x->news[j]?=some u->x.one=true/\u.oneCell'=true/\Rd w g.S g.T x u) ->
      nw.length*i.bytes<=140737488355328->nw.length<=maxLen ->
      K (St.set { s.kill d with rw:=fun j=>if j=d then some ⟨i.size,nw,false⟩else(s.kill d).rw j } d (.sref d))->o.wp P a w K' Q':=by
    intro nw news hxk pa cp hq hpa hnl hone hnw hnews hnr hbytes hmax hKs
    have hv:a.eval p=.slice none 0 0:=by rw[hxk]at gx;exact gx.nl_inv
    obtain⟨v',w',ty1,r1,r2,r3,r4,r5,r6⟩:=fin [] (.slice none 0 0) 0 [] news nw 0 (World.ownsRow_nil w 0 0 i.size) rfl (by simp) (by intro j x u h;simp[flat]at h) pa cp hq hpa hnl hone hnw hnews hnr (by simpa using hbytes) (by simpa using hmax)
    simp only[List.nil_append]at r2 r5 r6
    have hold:∀b,b<w.heap.size->w'.heap[b]?=w.heap[b]?:=fun b hb=>r3.block b hb (by simp[Value.ownBlock])
    have I1:=I.grow (S':=g.S) r3.os r3.tape r3.output r3.size hold (fun _ _ h=>h) (fun _ _ h=>.inl h)
    have hrow':LI w' g.S g.T ⟨i.size,nw,false⟩ v' :=
      ⟨news,ty1,r2,r5,fun j x u hx hu=>⟨(r6 j x u hx hu).1,(r6 j x u hx hu).2.1,(r6 j x u hx hu).2.2.mono (fun _ _ h=>h) TLe.refl (fun b o ho=>World.cell?_of_block (hold b (I.sw b o ho)))⟩⟩
    have I2:=I1.addrow d ⟨i.size,nw,false⟩ v' hrow' (fun b hb=>by
      rcases r4 with r4|⟨r4,_⟩
      · rw[r4]at hb;simp[Value.ownBlock]at hb
      · rw[r4]at hb;cases hb
        exact I.vac (yV _)) (by have:=c.ntb;omega)
    refine sok hK hd hlt (run v' w' (by rw[hv];exact r1)) I2 (.sref d v' ?_ fun r0 _=>by simp) hKs
    rcases r2.2 with⟨rfl,_⟩|⟨_,_,_,rfl,_⟩<;>rfl
  have hml:∀n,n*i.bytes<=140737488355328->n<=maxLen:=by
    intro n hn
    have:n*1<=n*i.bytes:=Nat.mul_le_mul_left _ hby0
    simp only[maxLen];omega
  have src:=W1L I gy (isz:=i.size)
  have nilsrc:=O1L gy
  split at h
  · rename_i tt sy nw hdt
    split at h
    · rename_i k hxk
      split at h
      · rename_i r hk
        obtain⟨h1,hkb,h2,h3,h⟩:=h
        obtain⟨pa,cp,news,q1,q2,q3,q4,q5,q6,q7⟩:=src tt sy nw hdt h2
        exact old k r nw news hk hkb hxk h1 pa cp q1 q2 q3 q4 q5 q6 q7 h3 (hml _ h3) h
      · cases h
    · rename_i hxk
      obtain⟨h2,h3,h⟩:=h
      obtain⟨pa,cp,news,q1,q2,q3,q4,q5,q6,q7⟩:=src tt sy nw hdt h2
      exact new nw news hxk pa cp q1 q2 q3 q4 q5 q6 q7 h3 (hml _ h3) h
    · cases h
  · rename_i hdt
    have hq:=nilsrc hdt
    split at h
    · rename_i k hxk
      rw[hxk]at gx
      cases hk:s.rw k with
      |none=>rw[hk]at h;cases h
      |some r =>
        rw[hk]at h
        obtain⟨xs,ty,hown,_⟩:=I.rws k r hk
        have hv:=gx.sref_inv hk
        have hr:(Builtin.append_ #[t,t] o.type #[a.eval p,a.eval q]).run P w=.ok (a.eval p) w:=by
          rw[hq,hv]
          rcases hown.2 with⟨hh,hn⟩|⟨b,cap,cur,hh,_,hb,hnc,_,_,_⟩
          · rw[hh];simp[Builtin.append_,run_underlying ht,sizeOf,typeInfo,hi,Builtin.lenOf,Builtin.firstCells]
          · rw[hh];simp[Builtin.append_,run_underlying ht,sizeOf,typeInfo,hi,Builtin.lenOf,Builtin.firstCells,hnc,storeCells]
        exact sok (g':=g) (s':=s) (w':=w) hK hd hlt (run _ _ hr) I gx h
    · rename_i hxk
      exact new [] [] hxk none 0 (by simpa using hq) (by simp) (by simp) (by simp) (by simp) (by simp) (by intro j x u h;simp[flat]at h) (by simp) (by simp) h
    · cases h
  · cases h
theorem Gv.el_inv{v:Value}(h:Gv w g s .el v):∃ad,v=.slice ad 0 0:=by
 cases h with
 |data _ _ h=>cases h
 |el ad=>exact⟨ad,rfl⟩
theorem W1X(I:Inv c g s a w)(hK:∀g' s' a' w',Inv c g' s' a' w'->K s'->K' a' w')(hd:o.dst=some d)(hlt:d<c.nt)
  {x y:X} {p q:Operand} {t e:TypeId} {i:TypeInfo} {z:Value} {sz by':Nat} (ho:o.op=.call { callee:=.builtin .append,args:=#[p,q],argTypes:=#[t,t] })
  (ht:P.underlying t=some (.slice e)) (hi:P.info? e=some i) (hz:i.zero=some z) (hs:i.size=sz) (hby:i.bytes=by') (hby0:0<by') (hzs:z.cells.size=i.size)
  (hx:chkX x p=true) (hy:chkX y q=true) (h:wop P (.ae d x y sz by') K s):o.wp P a w K' Q':=by
 subst hs;subst hby
 simp only[wop]at h
 have gx:=I.get hx
 have gy:=I.get hy
 have run:∀v' w',(Builtin.append_ #[t,t] o.type #[a.eval p,a.eval q]).run P w=.ok v' w'->(execOp a.eval o).run P w=.ok (.value v') w':=by
  intro v' w' hr
  simp only[execOp,ho,Sem.run_bind,resolve,Sem.run_pure,Result.andThen_ok,invoke,builtin]
  simp[hr]
 split at h
 .rename_i hxe
  rw[hxe]at gx
  obtain⟨ad,hp⟩:=gx.el_inv
  have none':∀cp pa,a.eval q=.slice pa 0 cp->(Builtin.append_ #[t,t] o.type #[a.eval p,a.eval q]).run P w=.ok (.slice ad 0 0) w:=by
   intro cp pa hq
   have hfc:(Builtin.firstCells i.size 0 (.slice pa 0 cp)).run P w=.ok #[] w:=by
    cases pa<;>simp[Builtin.firstCells,loadCells,loadCellsFrom]
   rw[hp,hq]
   cases ad with
   |none=>simp[Builtin.append_,run_underlying ht,sizeOf,typeInfo,hi,Builtin.lenOf,hfc]
   |some b=>simp[Builtin.append_,run_underlying ht,sizeOf,typeInfo,hi,Builtin.lenOf,hfc,storeCells]
  split at h
  .rename_i tt sy news hdt
   obtain⟨h2,h3,h⟩:=h
   obtain⟨pa,cp,nv,q1,q2,q3,q4,q5,q6,q7⟩:=W1L I gy (isz:=i.size) tt sy news hdt h2
   by_cases hn:news.length=0
   .have hn':news=[]:=List.eq_nil_of_length_eq_zero hn
    subst hn'
    exact sok (g':=g) (s':=s) (w':=w) hK hd hlt (run _ _ (none' cp pa (by simpa using q1))) I (.data _ _ (.sl0 _ _ _ _ fun _ e=>by cases e)) h
   .obtain⟨sa,rfl⟩:=Option.isSome_iff_exists.1 (q2 (by omega))
    have hml:news.length<=maxLen:=by
     have:news.length*1<=news.length*i.bytes:=Nat.mul_le_mul_left _ hby0
     simp only[maxLen];omega
    have hcells:∀j v,nv[j]?=some v->w.cell? (sa.add j)=some v:=by
     intro j u hj
     obtain⟨ad',e1,e2⟩:=q6 (by have:=(yB hj).1;omega)
     cases e1;exact e2 j u hj
    have hm9:news.length<=9223372036854775807:=by simp only[maxLen]at hml;omega
    have fin:∀(cap:Nat),news.length<=cap->cap<=maxLen->(Builtin.append_ #[t,t] o.type #[a.eval p,a.eval q]).run P w=.ok (.slice (some ⟨w.heap.size,0,none⟩) news.length cap) (w.drew.alloc (.cells (nv.toArray++Builtin.zeroCells z.cells (cap-news.length)) e))->o.wp P a w K' Q':=by
     intro cap hc1 hc2 hr
     have hold:∀b,b<w.heap.size->(w.drew.alloc (.cells (nv.toArray++Builtin.zeroCells z.cells (cap-news.length)) e)).heap[b]?=w.heap[b]?:=fun b hb=>heap_alloc_old w.drew _ hb
     have T0:∀b o,g.S b o->(w.drew.alloc (.cells (nv.toArray++Builtin.zeroCells z.cells (cap-news.length)) e)).cell? ⟨b,o,none⟩=w.cell? ⟨b,o,none⟩:=fun b o ho=>World.cell?_of_block (hold b (I.sw b o ho))
     have I1:=I.grow (w':=w.drew.alloc (.cells (nv.toArray++Builtin.zeroCells z.cells (cap-news.length)) e)) (S':=fun b o=>g.S b o\/(b=w.heap.size)) rfl rfl rfl (by simp) hold (fun _ _ h=>.inl h) (fun b o h=>by
      rcases h with h|h
      .exact .inl h
      .exact .inr ⟨by omega,by subst h;simp⟩) (fun b o h=>h.imp id fun h=>by subst h;exact .plain (heap_alloc_new w.drew _))
     have hrow:LI (w.drew.alloc (.cells (nv.toArray++Builtin.zeroCells z.cells (cap-news.length)) e)) (fun b o=>g.S b o\/(b=w.heap.size)) g.T ⟨i.size,news,false⟩ (.slice (some ⟨w.heap.size,0,none⟩) news.length cap):=by
      refine⟨nv,e,⟨q3,.inr ⟨w.heap.size,cap,_,rfl,Nat.zero_le _,heap_alloc_new w.drew _,hc1,hc2,?_,?_⟩⟩,q5,fun j x u hx hu=>⟨(q7 j x u hx hu).1,(q7 j x u hx hu).2.1,(q7 j x u hx hu).2.2.mono (fun _ _ h=>.inl h) TLe.refl T0⟩⟩
      .simp only[Array.size_append,List.size_toArray,size_zeroCells,hzs,q3,← Nat.add_mul]
       congr 1
       omega
      .simp only[Array.toList_append]
       rw[← q3]
       exact List.take_left
     refine sok hK hd hlt (run _ _ hr) I1 (.data _ _ (YW hrow (fun b o hb _=>?_) .nw (fun b hb=>?_))) h
     .simp only[Value.ownBlock,yI]at hb;exact .inr hb.symm
     .simp only[Value.ownBlock,yI]at hb;subst hb;exact⟨I.nn _ I.fr.size,(I.vac (yV _)).O⟩
    cases ad with
    |none =>
     refine fin (grownCap w news.length 0 e) (grownCap_ge ..) (grownCap_le_maxLen _ _ _ _ hml) ?_
     rw[hp,q1]
     exact run_append_nil (P:=P) w t o.type e i z ht hi hz sa news.length cp nv q3 hcells (by omega) (by omega) (by omega)
    |some b =>
     refine fin (grownCap w (0+news.length) 0 e) (by rw[Nat.zero_add];exact grownCap_ge ..) (by rw[Nat.zero_add];exact grownCap_le_maxLen _ _ _ _ hml) ?_
     rw[hp,q1]
     have hr:=run_append_grow (P:=P) w t o.type e i z ht hi hz b 0 0 [] (by simp) (by intro j v h;simp at h) sa news.length cp nv q3 hcells (by omega) (by omega) (growslice_fits (by omega) (by simpa using h3))
     simpa using hr
  .rename_i hdt
   exact sok (g':=g) (s':=s) (w':=w) hK hd hlt (run _ _ (none' 0 none (O1L gy hdt))) I (.data _ _ (.sl0 _ _ _ _ fun _ e=>by cases e)) h
  .cases h
 .cases h
theorem X1X(I:Inv c g s a w)(hK:∀g' s' a' w',Inv c g' s' a' w'->K s'->K' a' w')(hd:o.dst=some d)(hlt:d<c.nt)
  {t e:TypeId} (ho:o.op=.buildSlice t 0 #[]) (ht:P.underlying t=some (.slice e)) {sz:Nat} (hsz:tsz P e=some sz) (h:wop P (.be d) K s):o.wp P a w K' Q':=by
 simp only[wop]at h
 have hrun:(execOp a.eval o).run P w=.ok (.value (.slice (some ⟨w.heap.size,0,none⟩) 0 0)) (w.alloc (.cells #[] e)):=by
  simp[execOp,ho,Instr.buildSlice,run_underlying ht,Lm hsz,Instr.fill,newRow]
  rw[show Array.map (fun _:Nat=>(default:Value)) (Array.range 0)=#[] from Array.eq_empty_of_size_eq_zero (by simp)]
 have I1:=I.grow (w':=w.alloc (.cells #[] e)) (S':=g.S) rfl rfl rfl (by simp) (fun b hb=>heap_alloc_old w _ hb) (fun _ _ h=>h) (fun _ _ h=>.inl h)
 exact sok hK hd hlt hrun I1 (.el _) h
end ops
end
end
section
section
variable{P:Program}{c:Cx}{g:Gh}{s:St}{a:Act}{w:World}
theorem W1f{y:AV}(h:y.one=true):y.cells=[y]:=by
 cases y with
 |agg cs=>cases h
 |_=>rfl
theorem L1n(size n:Nat):∀(vs:List Value) (k:Nat) (cs:List Value),cs.length=n*size->k+vs.length=n->(∀v∈vs,v.cells.size=size) ->
  Instr.fill (fun i=>some (i*size,size)) cs.toArray (vs.zipIdx k |>.map fun(v,i)=>(i,v))=some ((cs.take (k*size))++vs.flatMap (fun v=>v.cells.toList)).toArray
 |[],k,cs,hl,hk,_=>by
  simp only[List.length_nil,Nat.add_zero]at hk
  subst hk
  simp[Instr.fill,List.take_of_length_le (Nat.le_of_eq hl)]
 |v::vs,k,cs,hl,hk,hv=>by
  have hvs:v.cells.size=size:=hv v (by simp)
  simp only[yT]at hk
  have hle:k*size+size<=n*size:=by rw[← Nat.succ_mul];exact Nat.mul_le_mul_right _ (by omega)
  simp only[List.zipIdx_cons,List.map_cons,Instr.fill]
  rw[ye (by simp[hvs,hl];omega)]
  have hf:=Z0R (k*size) v.cells.toList 0 cs.toArray (by simp[hvs,hl];omega)
  simp only[Nat.add_zero]at hf
  have e:(v.cells.zipIdx.foldl (fun cs (x:Value×Nat)=>cs.setIfInBounds (k*size+x.2) x.1) cs.toArray)=(putV cs (k*size) v.cells.toList).toArray:=by
   rw[← hf,← Array.foldl_toList];simp
  have e':(Array.foldl (fun cs x=>cs.setIfInBounds (k*size+x.2) x.1) cs.toArray v.cells.zipIdx)=(putV cs (k*size) v.cells.toList).toArray:=e
  have ih:=L1n size n vs (k+1) (putV cs (k*size) v.cells.toList) (by rw[Z0J (by simp[hvs,hl];omega)];exact hl) (by omega) (fun u hu=>hv u (by simp[hu]))
  simp only[e']
  rw[ih]
  congr 1
  congr 1
  simp only[ya]
  rw[← List.append_assoc]
  congr 1
  unfold putV
  exact List.take_left' (by rw[yU,List.length_take,show v.cells.toList.length=size from by simpa using hvs,Nat.succ_mul];omega)
section ops
variable{o:Oper}{d:Nat}{K:St->Prop}{K':Act->World->Prop}{Q':Exit->Act->World->Prop}
theorem O18:∀{l m:List AV},s.dtL l=some m->l.length=m.length
 |[],m,h=>by simp only[St.dtL,yI]at h;subst h;rfl
 |x::l,m,h=>by
  simp only[St.dtL]at h
  split at h
  .rename_i x' y' e1 e2
   simp only[yI]at h;subst h
   simp[O18 e2]
  .cases h
theorem M18:∀{l m:List AV},s.dtL l=some m->∀(i:Nat) (x y:AV),l[i]?=some x->m[i]?=some y->s.dt x=some y
 |[],m,h,i,x,y,hx,_=>by simp at hx
 |x0::l,m,h,i,x,y,hx,hy=>by
  simp only[St.dtL]at h
  split at h
  .rename_i x' y' e1 e2
   simp only[yI]at h;subst h
   cases i with
   |zero=>simp at hx hy;subst hx;subst hy;exact e1
   |succ i=>simp at hx hy;exact M18 e2 i x y hx hy
  .cases h
theorem Z1X(I:Inv c g s a w)(hK:∀g' s' a' w',Inv c g' s' a' w'->K s'->K' a' w')(hd:o.dst=some d)(hlt:d<c.nt)
    {ps:List X} {qs:List Operand} {t e:TypeId} {sz:Nat} {own:Bool} {zv:Value} (ho:o.op=.buildSlice t qs.length (qs.zipIdx.map fun(q,i)=>(i,q)).toArray) (ht:P.underlying t=some (.slice e))
    (hsz:tsz P e=some sz) (hz:((P.info? e).bind (·.zero))=some zv)
    (hx:ps.length=qs.length/\∀(i:Nat) (x:X) (p:Operand),ps[i]?=some x->qs[i]?=some p->chkX x p=true)
    (h:wop P (.bs d sz ps own) K s):o.wp P a w K' Q':=by
  simp only[wop]at h
  split at h
  · rename_i es hes
    obtain⟨h0,h1,h2,h3,h⟩:=h
    have hlen:es.length=qs.length:=by have:=O18 hes;simp at this;omega
    have hpart:∀(i:Nat) (y:AV) (q:Operand),es[i]?=some y->qs[i]?=some q->Rd w g.S g.T y (a.eval q):=by
      intro i y q hy hq
      have hi:i<ps.length:=by have:=(yB hq).1;omega
      have hxi:(ps.map s.get)[i]?=some (s.get ps[i]):=by simp[hi]
      have hdt:=M18 hes i _ y hxi hy
      have hn:nosr (s.get ps[i])=true:=by
        rw[List.all_eq_true]at h0
        exact h0 _ (yE hxi)
      exact I.plain hn hdt (I.get (hx.2 i ps[i] q (yA hi) hq))
    have hcl:∀(i:Nat) (y:AV) (q:Operand),es[i]?=some y->qs[i]?=some q->(a.eval q).cells.size=sz/\y.cells.length=sz:=by
      intro i y q hy hq
      have hr:=hpart i y q hy hq
      obtain⟨us,hu,hul,_⟩:=(Gv.data (s:=s) y _ hr).cells (hr.allOne id)
      have:=h1 y (yE hy)
      exact⟨by rw[hu];simp;omega,this⟩
    have hvs:∀v∈qs.map a.eval,v.cells.size=sz:=by
      intro v hv
      obtain⟨q,hq,rfl⟩:=yY hv
      obtain⟨i,hi,rfl⟩:=List.getElem_of_mem hq
      exact(hcl i es[i] _ (yA (by omega)) (yA hi)).1
    have hcells:∀(j:Nat) (x:AV) (u:Value),(flat es)[j]?=some x->((qs.map a.eval).flatMap fun v=>v.cells.toList)[j]?=some u->x.one=true/\u.oneCell'=true/\Rd w g.S g.T x u:=by
      have key:∀(es:List AV) (vs:List Value),es.length=vs.length->(∀(i:Nat) (y:AV) (v:Value),es[i]?=some y->vs[i]?=some v->Rd w g.S g.T y v) ->
          ∀(j:Nat) (x:AV) (u:Value),(flat es)[j]?=some x->(vs.flatMap fun v=>v.cells.toList)[j]?=some u->x.one=true/\u.oneCell'=true/\Rd w g.S g.T x u:=by
        intro es
        induction es with
        |nil=>intro vs _ _ j x u h;simp[flat]at h
        |cons y l ih =>
          intro vs hl hc j x u hx hu
          match vs,hl with
          |v::vs,hl =>
            have hr:=hc 0 y v rfl rfl
            obtain⟨us,hus,hul,hua⟩:=(Gv.data (s:=s) y _ hr).cells (hr.allOne id)
            have hvt:v.cells.toList=us:=by rw[hus]
            simp only[flat,ya,hvt]at hx hu
            by_cases hj:j<us.length
            · rw[yK (by omega)]at hx
              rw[yK hj]at hu
              have:=hua j x u hx hu
              exact⟨this.1,this.2.1,hr.cell hx (by rw[hus];simpa using hu)⟩
            · rw[yS (by omega)]at hx
              rw[yS (by omega)]at hu
              rw[hul]at hx
              exact ih vs (by simpa using hl) (fun i=>hc (i+1)) _ x u hx hu
      exact key es (qs.map a.eval) (by simp[hlen]) (fun i y v hy hv=>by
        rw[yF]at hv
        obtain⟨q,hq,rfl⟩:=yC hv
        exact hpart i y q hy hq)
    have hflen:((qs.map a.eval).flatMap fun v=>v.cells.toList).length=es.length*sz:=by
      have:∀(vs:List Value),(∀v∈vs,v.cells.size=sz)->(vs.flatMap fun v=>v.cells.toList).length=vs.length*sz:=by
        intro vs
        induction vs with
        |nil=>simp
        |cons v l ih=>intro hv;simp[ih (fun u hu=>hv u (by simp[hu])),hv v (by simp),Nat.succ_mul];omega
      rw[this _ hvs];simp[hlen]
    have hrun:(execOp a.eval o).run P w=.ok (.value (.slice (some ⟨w.heap.size,0,none⟩) es.length es.length)) (w.alloc (.cells ((qs.map a.eval).flatMap fun v=>v.cells.toList).toArray e)):=by
      have hfa:∀zz:Array Value,Instr.fill (fun i=>some (i*sz,sz)) ((Array.range (qs.length*sz)).map (zz[· % zz.size]!)) (((qs.map a.eval).zipIdx 0).map fun(v,i)=>(i,v))=some ((qs.map a.eval).flatMap fun v=>v.cells.toList).toArray:=by
        intro zz
        have hfa:=L1n sz qs.length (qs.map a.eval) 0 ((Array.range (qs.length*sz)).map (zz[· % zz.size]!)).toList (by simp) (by simp) hvs
        simpa only[Array.toArray_toList,Nat.zero_mul,List.take_zero,List.nil_append]using hfa
      have e2:((qs.zipIdx.map fun(q,i)=>(i,q)).toArray.map fun(i,x)=>(i,a.eval x)).toList=((qs.map a.eval).zipIdx 0).map fun(v,i)=>(i,v):=by
        simp[List.zipIdx_map]
      have hle:¬ (qs.length*sz > 2 ^ 24):=by rw[← hlen];omega
      simp only[execOp,ho,Sem.run_bind,Instr.buildSlice,run_underlying ht,Result.andThen_ok,Lm hsz,ye hle,Sem.run_pure]
      rw[e2]
      by_cases hq0:qs.length*sz=0
      · simp only[hq0,yb]
        have:=hfa #[]
        rw[hq0]at this
        simp only[Sem.run_bind,Sem.run_pure,Result.andThen_ok,this]
        simp[newRow,hlen]
      · simp only[hq0,yc]
        simp only[Sem.run_bind,O12 hz,Sem.run_pure,Result.andThen_ok,hfa]
        simp[newRow,hlen]
    have hnew:=heap_alloc_new w (.cells ((qs.map a.eval).flatMap fun v=>v.cells.toList).toArray e)
    have hold:∀b,b<w.heap.size->(w.alloc (.cells ((qs.map a.eval).flatMap fun v=>v.cells.toList).toArray e)).heap[b]?=w.heap[b]?:=fun b hb=>heap_alloc_old w _ hb
    have hml:es.length<=maxLen:=by simp only[maxLen];omega
    have T0:∀b o,g.S b o->(w.alloc (.cells ((qs.map a.eval).flatMap fun v=>v.cells.toList).toArray e)).cell? ⟨b,o,none⟩=w.cell? ⟨b,o,none⟩:=fun b o ho=>World.cell?_of_block (hold b (I.sw b o ho))
    have hrow:∀S',(∀b o,g.S b o->S' b o)->LI (w.alloc (.cells ((qs.map a.eval).flatMap fun v=>v.cells.toList).toArray e)) S' g.T ⟨sz,es,false⟩ (.slice (some ⟨w.heap.size,0,none⟩) es.length es.length):=fun S' hS' =>
      ⟨(qs.map a.eval).flatMap fun v=>v.cells.toList,e,⟨hflen,.inr ⟨w.heap.size,es.length,_,rfl,Nat.zero_le _,hnew,yV _,hml,by rw[List.size_toArray];exact hflen,List.take_of_length_le (Nat.le_of_eq hflen)⟩⟩,h1,
        fun j x u hx hu=>⟨(hcells j x u hx hu).1,(hcells j x u hx hu).2.1,(hcells j x u hx hu).2.2.mono hS' TLe.refl T0⟩⟩
    cases own with
    |true =>
      simp only[yb]at h
      have I1:=I.grow (w':=w.alloc (.cells ((qs.map a.eval).flatMap fun v=>v.cells.toList).toArray e)) (S':=g.S) rfl rfl rfl (by simp) hold (fun _ _ h=>h) (fun _ _ h=>.inl h)
      have I2:=I1.addrow d ⟨sz,es,false⟩ _ (hrow g.S (fun _ _ h=>h)) (fun b hb=>by
        simp only[Value.ownBlock,yI]at hb;subst hb
        exact I.vac (yV _)) (by have:=c.ntb;omega)
      exact sok hK hd hlt hrun I2 (.sref d _ rfl fun r0 _=>by simp) h
    |false =>
      simp only[yG,yc]at h
      have I1:=I.grow (w':=w.alloc (.cells ((qs.map a.eval).flatMap fun v=>v.cells.toList).toArray e)) (S':=fun b o=>g.S b o\/(b=w.heap.size)) rfl rfl rfl (by simp) hold (fun _ _ h=>.inl h) (fun b o h=>by
        rcases h with h|h
        · exact .inl h
        · exact .inr ⟨by omega,by subst h;simp⟩) (fun b o h=>h.imp id fun h=>by subst h;exact .plain hnew)
      refine sok hK hd hlt hrun I1 (.data _ _ (YW (hrow _ (fun _ _ h=>.inl h)) (fun b o hb _=>?_) .nw (fun b hb=>?_))) h
      · simp only[Value.ownBlock,yI]at hb;exact .inr hb.symm
      · simp only[Value.ownBlock,yI]at hb;subst hb;exact⟨I.nn _ I.fr.size,(I.vac (yV _)).O⟩
  · cases h
theorem Y0U(n sz:Nat)(e:AV)(he:e.cells.length=sz)(j:Nat)(x:AV)(hx:(flat (List.replicate n e))[j]?=some x):j<n*sz/\e.cells[j % sz]?=some x:=by
 induction n generalizing j with
 |zero=>simp[flat]at hx
 |succ n ih =>
  simp only[List.replicate_succ,flat,ya]at hx ih
  by_cases hj:j<sz
  .rw[yK (by omega)]at hx
   exact⟨by rw[Nat.succ_mul];omega,by rw[Nat.mod_eq_of_lt hj];exact hx⟩
  .rw[yS (by omega),he]at hx
   obtain⟨q1,q2⟩:=ih (j-sz) hx
   exact⟨by rw[Nat.succ_mul];omega,by rw[Nat.mod_eq_sub_mod (by omega)];exact q2⟩
theorem V1V(I:Inv c g s a w)(hK:∀g' s' a' w',Inv c g' s' a' w'->K s'->K' a' w')(hd:o.dst=some d)(hlt:d<c.nt)
  {x:X} {p:Operand} {t e:TypeId} {i:TypeInfo} {zv:Value} {z:List AV} {sz by':Nat} (ho:o.op=.makeSlice t p p) (ht:P.underlying t=some (.slice e))
  (hi:P.info? e=some i) (hz:i.zero=some zv) (hs:i.size=sz) (hby:i.bytes=by') (hzm:vmL z zv.cells.toList=true) (hz1:allOne z=true) (hzl:z.length=sz) (hsz0:0<sz)
  (hx:chkX x p=true) (h:wop P (.ms d sz by' z x) K s):o.wp P a w K' Q':=by
 simp only[wop]at h
 have gx:=I.get hx
 split at h
 .rename_i k m hm
  rw[hm]at gx
  obtain⟨h1,h2,h3,h⟩:=h
  obtain⟨n,rfl⟩:=Int.eq_ofNat_of_zero_le h1
  have hmax:n<=maxLen:=by simp only[maxLen];omega
  have hbn:i.bytes*n<=140737488355328:=by
   rw[hby]
   have h2':((by'*n:Nat):Int)<=140737488355328:=by rw[Int.natCast_mul];exact h2
   omega
  obtain⟨w',r1,r2,r3⟩:=run_make_full (P:=P) w 0 t e i zv sz ht hi hz hs k k n (by omega) hmax (Nat.zero_le _)
  simp only[yZ]at h
  have hel:∀(n:Nat),((if sz=1 then z.getD 0 .bad else .agg z:AV)).cells.length=sz/\(if sz=1 then z.getD 0 .bad else .agg z:AV).cells=z:=by
   intro _
   split
   .rename_i h1
    match z,hz1,(hzl.trans h1:z.length=1)with
    |[y],hz1,_ =>
     have:y.cells=[y]:=W1f (by simpa[allOne]using hz1)
     show y.cells.length=sz/\y.cells=[y]
     rw[this];exact⟨h1.symm,rfl⟩
   .exact⟨hzl,rfl⟩
  have hold:∀b,b<w.heap.size->w'.heap[b]?=w.heap[b]?:=fun b hb=>r3.block b hb (by simp)
  have hal:=Y1j (w:=w) (g:=g) (s:=s) hzm hz1
  have hrow:LI w' g.S g.T ⟨sz,List.replicate n (if sz=1 then z.getD 0 .bad else .agg z),false⟩ (.slice (some ⟨w.heap.size,0,none⟩) n n):=by
   refine⟨_,e,by simpa using r2,fun y hy=>by rw[List.eq_of_mem_replicate hy];exact(hel 0).1,fun j y u hy hu=>?_⟩
   obtain⟨q1,q2⟩:=Y0U n sz _ (hel 0).1 j y hy
   rw[(hel 0).2]at q2
   have hzs:zv.cells.size=sz:=by have:=hal.1;simp at this;omega
   have hu':u=zv.cells[j % zv.cells.size]!:=by
    simp only[madeCells,Array.toList_map,yF,Array.toList_range]at hu
    rw[List.getElem?_range q1]at hu
    simpa using hu.symm
   have hjs:j % sz<sz:=Nat.mod_lt _ hsz0
   have hu2:zv.cells.toList[j % sz]?=some u:=by
    rw[hu',hzs]
    simp[hzs,hjs]
   have hr:=(L1j (w:=w') (S:=g.S) (N:=g.T) hzm).2 _ y u q2 hu2
   have hone:y.one=true:=by simp only[allOne,List.all_eq_true]at hz1;exact hz1 y (yE q2)
   exact⟨hone,hr.one_cell hone,hr⟩
  have I1:=I.grow (w':=w') (S':=g.S) r3.os r3.tape r3.output r3.size hold (fun _ _ h=>h) (fun _ _ h=>.inl h)
  have I2:=I1.addrow d _ _ hrow (fun b hb=>by
   simp only[Value.ownBlock,yI]at hb;subst hb
   exact I.vac (yV _)) (by have:=c.ntb;omega)
  refine sok (v:=.slice (some ⟨w.heap.size,0,none⟩) n n) hK hd hlt ?_ I2 (.sref d _ rfl fun r0 _=>by simp) h
  have hp:a.eval p=.int k (n:Int):=gx.int_inv
  simp[execOp,ho,hp,r1]
 .cases h
end ops
end
end
end Go.Proofs.YtpgaganbacipnaaGreat.Eng
