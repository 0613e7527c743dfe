/-
  Lemmas, part 13.
-/
import Derived.Test.YtpgaganbacipnaaGreatB12
namespace Go.Proofs.YtpgaganbacipnaaGreat
open Go Go.RowKit Eng
section
theorem Y1n(r:Room)(now:Int)(l:List Job)(d:Int):∃p,Xf r now l d=some p/\(p.1=[]\/(queueOk l=true/\HeldsOk (ordF l) p.1)):=by
 unfold Xf
 rw[JA,MK,bS]
 cases hr:roomOk r with
 |false=>exact⟨_,rfl,.inl rfl⟩
 |true =>
  simp only[yL,yM,bS,Bool.false_or]
  cases hq:queueOk l with
  |false=>exact⟨_,rfl,.inl rfl⟩
  |true =>
   simp only[yL,Bool.false_or]
   cases(((!Q1 now)||decide (d<0))||decide (60<d))with
   |true=>exact⟨_,rfl,.inl rfl⟩
   |false =>
    simp only[yM,X0O hq,bS]
    obtain⟨p,h1,h2⟩:=Q1g (r:=r) (now:=now) (d:=d) (L:=ordF l) (by rw[(X0y l).length_eq];exact(Mm hq).1)
    exact⟨p,h1,.inr ⟨by simp,h2⟩⟩
theorem V12(s:State)(hs:List Held):∀(i:Nat) (q:List Job) (rs:List Run),(hs.map Held.id).Nodup->(∀h∈hs,∃j∈q,j.id=h.id)->(q.map Job.id).Nodup->q.length+rs.length<=1048576 ->
  ∃q' new,(∀k,rgl (V8 s) k hs i (q,rs)=k (q',rs++new)) /\
   (∀x∈new,x.t=s.now/\∃h∈hs,x.nodes=h.nodes)/\(q'++new.map Run.job).Perm q:=by
 induction hs with
 |nil=>intro i q rs _ _ _ _;exact⟨q,[],fun k=>by simp[rgl],by simp,by simp⟩
 |cons h hs ih =>
  intro i q rs hn hm hq hl
  obtain⟨j,hj,hid⟩:=hm h (yJ ..)
  obtain⟨a,b,rfl⟩:=List.append_of_mem hj
  have hq2:(j.id::((a++b).map Job.id)).Nodup:=by
   have:((a++j::b).map Job.id).Perm ((j::(a++b)).map Job.id):=List.perm_middle.map _
   exact(this.nodup_iff.1 hq)
  rw[List.nodup_cons]at hq2
  have hab:∀x∈a++b,x.id≠h.id:=fun x hx e=>hq2.1 (by rw[hid,← e];exact List.mem_map_of_mem hx)
  have ha:∀x∈a,x.id≠h.id:=fun x hx=>hab x (List.mem_append_left _ hx)
  have hb:∀x∈b,x.id≠h.id:=fun x hx=>hab x (List.mem_append_right _ hx)
  simp only[yU,yT]at hl
  rw[List.map_cons,List.nodup_cons]at hn
  obtain⟨q',new,h1,h3,h4⟩:=ih (i+1) (a++b) (rs++[Run.mk j s.now h.nodes]) hn.2 (fun h' hh'=>by
   obtain⟨j',hj',hid'⟩:=hm h' (yH _ hh')
   have hne:j'.id≠j.id:=fun e=>hn.1 (by rw[← hid,← e,hid'];exact List.mem_map_of_mem hh')
   rcases List.mem_append.1 hj' with q|q
   .exact⟨j',List.mem_append_left _ q,hid'⟩
   .rcases yX q with q|q
    .exact absurd (by rw[q]) hne
    .exact⟨j',List.mem_append_right _ q,hid'⟩) hq2.2 (by simp;omega)
  refine⟨q',Run.mk j s.now h.nodes::new,fun k=>?_,fun x hx=>?_,?_⟩
  .rw[rgl,V8]
   unfold Xd
   simp only
   rw[L1k j b h.id hid a 0 ha,bS,U1G (by omega) hid ha hb,bS,M0 (by simp;omega),bS,h1 k]
   simp
  .rcases yX hx with rfl|hx
   .exact⟨rfl,h,yJ ..,rfl⟩
   .obtain⟨e1,h',hh',e2⟩:=h3 x hx
    exact⟨e1,h',yH _ hh',e2⟩
  .rw[List.map_cons]
   refine List.perm_middle.trans ?_
   exact(h4.cons j).trans List.perm_middle.symm
theorem M0K{s:State}(hs:SmallS s):∃s' new,X2 s=some s'/\StartP s s' new:=by
 obtain⟨r,hr,_⟩:=Wq s
 obtain⟨p,p1,p3⟩:=Y1n r.1 s.now s.queue s.depth
 unfold X2
 rw[hr,bS,p1,bS]
 have key:(p.1.map Held.id).Nodup/\(∀h∈p.1,∃j∈s.queue,j.id=h.id)/\(∀h∈p.1,h.nodes.length<=24)/\(p.1=[]\/(s.queue.map Job.id).Nodup):=by
  rcases p3 with p3|⟨p3,p4⟩
  .rw[p3];exact⟨by simp,by simp,by simp,.inl rfl⟩
  .have hn:=(Mm p3).2.2
   have ho:((ordF s.queue).map Job.id).Nodup:=((X0y s.queue).map _).nodup_iff.2 hn
   refine⟨ho.sublist p4.sub,fun h hh=>?_,p4.nodes,.inr hn⟩
   have:h.id∈(ordF s.queue).map Job.id:=p4.sub.subset (List.mem_map_of_mem hh)
   obtain⟨j,hj,e⟩:=yY this
   exact⟨j,(X0y s.queue).mem_iff.1 hj,e⟩
 obtain⟨k1,k2,k3,k4⟩:=key
 rcases k4 with k4|k4
 .rw[k4]
  exact⟨s,[],rfl,rfl,rfl,rfl,rfl,rfl,rfl,by simp,by simp,by simp⟩
 .obtain⟨q',new,h1,h3,h4⟩:=V12 s p.1 0 s.queue s.runs k1 k2 k4 hs.jobs
  rw[h1]
  exact⟨_,new,rfl,rfl,rfl,rfl,rfl,rfl,rfl,rfl,fun x hx=>by
   obtain⟨e1,h,hh,e2⟩:=h3 x hx
   exact⟨e1,by rw[e2];exact k3 h hh⟩,h4⟩
structure DrS(n:Nat)(s:State):Prop where
 up:s.up.length<=100
 par:s.topo.parents.length<=100
 nodes:s.topo.nodes.length<=100
 jobs:s.queue.length+s.runs.length<=n
 ends:s.ends.length<=n
 run:∀x∈s.runs,x.nodes.length<=100
theorem DrS.small{n:Nat}{s:State}(h:DrS n s)(hn:n<=100000):SmallS s :=
  ⟨by have:=h.up;omega,by have:=h.par;omega,by have:=h.nodes;omega,by have:=h.jobs;omega,by have:=h.ends;omega,fun x hx=>by have:=h.run x hx;omega⟩
theorem DrS.mono{n m:Nat}{s:State}(h:DrS n s)(hn:n<=m):DrS m s:=⟨h.up,h.par,h.nodes,by have:=h.jobs;omega,by have:=h.ends;omega,h.run⟩
theorem Vl(n:Nat):DrS n (State.mk (Topo.mk [] []) [] (Vec.mk 0 0 0) 0 0 [] [] []):=⟨by simp,by simp,by simp,by simp,by simp,by simp⟩
theorem O0M{s:State}(h:stateOk s=true):DrS 300 s:=by
 have hP:=Q0e h
 have hq:=(Mm hP.queue).1
 unfold allJobs at hq
 simp only[yU,List.length_map]at hq
 exact⟨by have:=hP.up;have:=hP.topo.nodes;omega,by have:=hP.topo.tree.le;omega,by have:=hP.topo.nodes;omega,by omega,by have:=hP.ends;omega,fun x hx=>by
  obtain⟨h1,h2,_⟩:=hP.runs.job x hx
  have:=VD.1 h1;omega⟩
theorem J07{n:Nat}{s:State}(h:DrS n s)(hn:n<=100000):∃s',X2 s=some s'/\DrS n s':=by
 obtain⟨s',new,e,hT⟩:=M0K (h.small hn)
 refine⟨s',e,by rw[hT.up];exact h.up,by rw[hT.topo];exact h.par,by rw[hT.topo];exact h.nodes,by rw[hT.len];exact h.jobs,by rw[hT.ends];exact h.ends,fun x hx=>?_⟩
 rw[hT.runs]at hx
 rcases List.mem_append.1 hx with hx|hx
 .exact h.run x hx
 .have:=(hT.fresh x hx).2;omega
theorem U0V(t:Int){n:Nat}(h300:300<=n)(hn:n<=100000):∀(m:Nat) (s:State) (f:Nat),DrS n s->s.queue.length+s.runs.length<=m->m<f->∃r,whl (Qo t) f (s,ML s)=some r/\DrS n r.1:=by
 intro m
 induction m with
 |zero =>
  intro s f hs hm hf
  obtain⟨f,rfl⟩:∃g,f=g+1:=⟨f-1,by omega⟩
  rw[whl,L0K t (hs.small hn)]
  cases hc:(decide (0<=ML s)&&decide (ML s<=t))with
  |false=>exact⟨_,rfl,hs.up,hs.par,hs.nodes,hs.jobs,hs.ends,hs.run⟩
  |true =>
   simp only[yD,yO]at hc
   obtain⟨x,hx,_⟩:=X0X hc.1
   have:=List.length_pos_of_mem hx
   omega
 |succ m ih =>
  intro s f hs hm hf
  obtain⟨f,rfl⟩:∃g,f=g+1:=⟨f-1,by omega⟩
  rw[whl,L0K t (hs.small hn)]
  cases hc:(decide (0<=ML s)&&decide (ML s<=t))with
  |false=>exact⟨_,rfl,hs.up,hs.par,hs.nodes,hs.jobs,hs.ends,hs.run⟩
  |true =>
   simp only[yD,yO]at hc
   obtain⟨x,hx,he⟩:=X0X hc.1
   have hk:=Z1p hx he
   simp only[yN]
   by_cases h3:300<((endF s (ML s)).ends.length:Int)
   .rw[decide_eq_true h3];exact⟨_,rfl,Vl n⟩
   .rw[decide_eq_false h3]
    simp only[yM]
    have kl:(keepF (ML s) s.runs).length<=s.runs.length:=List.length_filter_le ..
    have hE:DrS n (endF s (ML s)):=⟨hs.up,hs.par,hs.nodes,by have:=hs.jobs;simp only[endF];omega,by omega,fun x hx=>hs.run x (List.mem_filter.1 hx).1⟩
    obtain⟨s',e1,hS⟩:=J07 hE hn
    obtain⟨s'',new,e2,hT⟩:=M0K (hE.small hn)
    rw[e1]at e2;cases e2
    rw[e1,bS]
    have hl:=hT.len
    have:(endF s (ML s)).queue.length+(endF s (ML s)).runs.length=s.queue.length+(keepF (ML s) s.runs).length:=rfl
    exact ih s' f hS (by omega) (by omega)
theorem O1n{s:State}{n:Nat}(hs:DrS n s)(hn:n<=100000)(t:Int):∃r,WJ s t=some r/\DrS 300 r.1:=by
 unfold WJ
 rw[(Jc (hs.small hn).jobs).1,bS]
 cases hS:stateOk s with
 |false=>exact⟨_,rfl,Vl _⟩
 |true =>
  have hD:=O0M hS
  simp only[yL,Bool.false_or]
  cases(!Q1 t)||decide (t<s.now)with
  |true=>exact⟨_,rfl,Vl _⟩
  |false =>
   rw[yM,Wj (hs.small hn),bS,J0n,bS]
   exact U0V t (yV _) (by omega) (s.queue.length+s.runs.length) s _ hD (yV _) (by have:=hD.jobs;omega)
theorem L0T(l:List Job)(id:Int):∃y,Xd l id=some y:=by
 unfold Xd
 refine U7 (fun _ (_:Unit)=>True) (fun o=>∃y,o=some y) (fun i x b k hx hI hk=>?_) (fun _ _=>⟨_,rfl⟩) trivial
 unfold Oc
 cases x.id==id with
 |true=>exact⟨_,rfl⟩
 |false=>exact hk () trivial
theorem W1l(s:State)(j:Job):∃b,Wt s j=some b:=by
 unfold Wt
 rw[VZ,bS]
 generalize (bif topoOk s.topo&&decide (s.up.length=s.topo.nodes.length)&&W0 s.lic then(LD s.topo s.up s.lic,true)else Mo)=y
 refine U7 (fun _ (v:List Bool)=>v.length=y.1.up.length) (fun o=>∃b,o=some b) (fun i x v k hx hI hk=>?_) (fun v _=>?_) rfl
 .have hi:=(yB hx).1
  unfold Ox
  rw[Y8,yA (by omega),bS]
  exact hk _ (by simp[hI])
 .unfold Wx
  rw[U00]
  exact⟨_,rfl⟩
abbrev DrR(o:Option (State×Int)):Prop:=∃r,o=some r/\DrS 400 r.1
theorem V1e{s:State}{n:Nat}(hs:DrS n s)(hn:n<=100000)(j:Job):DrR (Qy s j):=by
 unfold Qy
 rw[(Jc (hs.small hn).jobs).1,bS]
 cases hS:stateOk s with
 |false=>exact⟨_,rfl,Vl _⟩
 |true =>
  have hD:=O0M hS
  simp only[yL,Bool.false_or]
  cases !W1 j with
  |true=>exact⟨_,rfl,Vl _⟩
  |false =>
   obtain⟨y,hy⟩:=L0T (allJobs s) j.id
   obtain⟨b,hb⟩:=W1l s j
   rw[yM,YK (hs.small hn).jobs,bS,hy,bS,hb]
   cases y.2 with
   |true=>exact⟨_,rfl,Vl _⟩
   |false =>
    cases decide (60<=((allJobs s).length:Int))with
    |true=>exact⟨_,rfl,Vl _⟩
    |false =>
     cases b with
     |false=>exact⟨_,rfl,Vl _⟩
     |true =>
      have:=hD.jobs
      simp only[yM,bS,yL,Wj (hs.small hn)]
      rw[M0 (by simp;omega),bS]
      obtain⟨s',e,h'⟩:=J07 (n:=400) (s:=State.mk s.topo s.up s.lic s.depth s.now (s.queue++[j]) s.runs s.ends) ⟨hD.up,hD.par,hD.nodes,by simp;omega,by have:=hD.ends;simp only;omega,hD.run⟩ (by omega)
      rw[e]
      exact⟨_,rfl,h'⟩
theorem V1l{s:State}(_:s.queue.length<=361)(hr:s.runs.length<=300)(he:s.ends.length<=301)(why id node:Int):∃rs es,V7 s why id node=some (State.mk s.topo s.up s.lic s.depth s.now s.queue rs es)/\(∀x∈rs,x∈s.runs)/\rs.length<=s.runs.length/\es.length<=s.ends.length+s.runs.length:=by
  unfold V7
  refine U7 (fun i (v:List End×List Run)=>(∀x∈v.2,x∈s.runs)/\v.2.length<=i/\v.1.length<=s.ends.length+i) (fun(o:Option State)=>∃rs es,o=some (State.mk s.topo s.up s.lic s.depth s.now s.queue rs es)/\(∀x∈rs,x∈s.runs)/\rs.length<=s.runs.length/\es.length<=s.ends.length+s.runs.length) (fun i x v k hx hI hk=>?_) (fun v hI=>⟨v.2,v.1,rfl,hI⟩) (by simp)
  have hi:=(yB hx).1
  obtain⟨h1,h2,h3⟩:=hI
  unfold Zh
  rw[Za]
  cases x.job.id==id<;>cases x.nodes.contains node<;>simp only[yN,yM,bS,Bool.or_self,Bool.or_true,Bool.true_or]<;>rw[M0 (by simp;omega),bS]<;>refine hk _ ⟨fun y hy=>?_,by simp;omega,by simp;omega⟩
  all_goals first
    |exact h1 y hy
    | (rcases List.mem_append.1 hy with hy|hy
       · exact h1 y hy
       · rw[List.mem_singleton.1 hy];exact yE hx)
theorem Q1o(l:List Job)(id:Int)(hl:l.length<=100000):∃l',Vj l id=some l'/\l'.length<=l.length:=by
 unfold Vj
 rw[M8 (bd:=Xt id) (bs:=88) (p:=fun x=>x.id != id) (f:=fun x=>x) (fun x _ i b k=>rfl) (by simp;omega)]
 exact⟨_,rfl,by simp;exact List.length_filter_le ..⟩
theorem M0Z{s:State}{n:Nat}(hs:DrS n s)(hn:n<=100000)(id why:Int):DrR (Uk s id why):=by
 unfold Uk
 rw[(Jc (hs.small hn).jobs).1,bS]
 cases hS:stateOk s with
 |false=>exact⟨_,rfl,Vl _⟩
 |true =>
  have hD:=O0M hS
  simp only[yL,Bool.false_or]
  cases(why != 2)&&(why != 3)with
  |true=>exact⟨_,rfl,Vl _⟩
  |false =>
   obtain⟨y,hy⟩:=L0T s.queue id
   obtain⟨z,hz⟩:=L0T (allJobs s) id
   rw[yM,hy,bS,YK (hs.small hn).jobs,bS,hz,bS]
   cases(!z.2)||y.2&&why==2 with
   |true=>exact⟨_,rfl,Vl _⟩
   |false =>
    cases decide (300<=(s.ends.length:Int))with
    |true=>exact⟨_,rfl,Vl _⟩
    |false =>
     have d1:=hD.jobs;have d2:=hD.ends
     have j36:∀v:List Job×List End,v.1.length<=s.queue.length->v.2.length<=s.ends.length+1->DrR (Qf id why s v):=fun v h1 h2=>by
      unfold Qf
      have hS:=Q0e hS
      have hq:=(Mm hS.queue).1
      unfold allJobs at hq
      simp only[yU,List.length_map]at hq
      obtain⟨rs,es,e,q1,q2,q3⟩:=V1l (s:=State.mk s.topo s.up s.lic s.depth s.now v.1 s.runs v.2) (by simp only;omega) (by simp only;omega) (by simp only;omega) why id (-1)
      simp only at q1 q2 q3
      rw[e,bS]
      obtain⟨s',e',h'⟩:=J07 (n:=400) (s:=State.mk s.topo s.up s.lic s.depth s.now v.1 rs es) ⟨hD.up,hD.par,hD.nodes,by simp only;omega,by simp only;omega,fun x hx=>hD.run x (q1 x hx)⟩ (by omega)
      simp only
      rw[e']
      exact⟨_,rfl,h'⟩
     simp only[yM,bS,Wj (hs.small hn)]
     cases y.2 with
     |false=>exact j36 _ (yV _) (by simp)
     |true =>
      obtain⟨l',e,hl⟩:=Q1o s.queue id (by omega)
      rw[yN,e,bS,M0 (by simp;omega),bS]
      exact j36 _ hl (by simp)
theorem Q1f{s:State}{n:Nat}(hs:DrS n s)(hn:n<=100000)(k:Int):DrR (My s k):=by
 unfold My
 rw[(Jc (hs.small hn).jobs).1,bS]
 cases hS:stateOk s with
 |false=>exact⟨_,rfl,Vl _⟩
 |true =>
  have hD:=O0M hS
  have hu:=(Q0e hS).up
  simp only[yL,yM]
  cases hk:L7 s k with
  |false=>exact⟨_,rfl,Vl _⟩
  |true =>
   unfold L7 at hk
   simp only[yD,yO]at hk
   obtain⟨x,ex,_⟩:=Md (l:=s.up) hk.1 (by omega)
   simp only[yL,yM,ex,bS,Bool.false_or,Wj (hs.small hn)]
   cases x with
   |true=>exact⟨_,rfl,Vl _⟩
   |false =>
    obtain⟨s',e',h'⟩:=J07 (n:=400) (s:=State.mk s.topo (s.up.set k.toNat true) s.lic s.depth s.now s.queue s.runs s.ends) ⟨by simp;exact hD.up,hD.par,hD.nodes,by have:=hD.jobs;simp only;omega,by have:=hD.ends;simp only;omega,hD.run⟩ (by omega)
    rw[yM,e']
    exact⟨_,rfl,h'⟩
theorem W1f{s:State}{n:Nat}(hs:DrS n s)(hn:n<=100000)(v:Vec):DrR (Ly s v):=by
 unfold Ly
 rw[(Jc (hs.small hn).jobs).1,bS]
 cases hS:stateOk s with
 |false=>exact⟨_,rfl,Vl _⟩
 |true =>
  have hD:=O0M hS
  simp only[yL,Bool.false_or]
  cases !W0 v with
  |true=>exact⟨_,rfl,Vl _⟩
  |false =>
   obtain⟨q,hq,_⟩:=Wq (State.mk s.topo s.up v s.depth s.now s.queue s.runs s.ends)
   simp only[yM,Wj (hs.small hn),bS,hq]
   cases q.2 with
   |false=>exact⟨_,rfl,Vl _⟩
   |true =>
    obtain⟨s',e',h'⟩:=J07 (n:=400) (s:=State.mk s.topo s.up v s.depth s.now s.queue s.runs s.ends) ⟨hD.up,hD.par,hD.nodes,by have:=hD.jobs;simp only;omega,by have:=hD.ends;simp only;omega,hD.run⟩ (by omega)
    simp only[yL,yM]
    rw[e']
    exact⟨_,rfl,h'⟩
theorem X1z{s:State}{n:Nat}(hs:DrS n s)(hn:n<=100000)(k:Int):DrR (LT s k):=by
 unfold LT
 rw[(Jc (hs.small hn).jobs).1,bS]
 cases hS:stateOk s with
 |false=>exact⟨_,rfl,Vl _⟩
 |true =>
  have hD:=O0M hS
  have hP:=Q0e hS
  have hu:=hP.up
  have hq:=(Mm hP.queue).1
  unfold allJobs at hq
  simp only[yU,List.length_map]at hq
  simp only[yL,yM]
  cases hk:L7 s k with
  |false=>exact⟨_,rfl,Vl _⟩
  |true =>
   unfold L7 at hk
   simp only[yD,yO]at hk
   obtain⟨x,ex,_⟩:=Md (l:=s.up) hk.1 (by omega)
   simp only[yL,yM,ex,bS,Bool.false_or,Wj (hs.small hn)]
   cases x with
   |false=>exact⟨_,rfl,Vl _⟩
   |true =>
    simp only[yL,yM]
    have d2:=hD.ends
    refine U7 (fun i (v:List Job)=>v.length<=s.queue.length+i) (fun(o:Option (State×Int))=>DrR o) (fun i x v k' hx hI hk'=>?_) (fun v hI=>?_) (by simp)
    .have hi:=(yB hx).1
     unfold QV
     rw[Za,bS]
     cases x.nodes.contains k with
     |true=>rw[yN,M0 (by simp;omega),bS];exact hk' _ (by simp;omega)
     |false=>exact hk' _ (by omega)
    .unfold UV
     obtain⟨rs,es,e,q1,q2,q3⟩:=V1l (s:=State.mk s.topo s.up s.lic s.depth s.now v s.runs s.ends) (by simp only;omega) (by simp only;omega) (by simp only;omega) 4 0 k
     simp only at q1 q2 q3
     rw[e,bS]
     simp only
     cases decide (300<(es.length:Int))with
     |true=>exact⟨_,rfl,Vl _⟩
     |false =>
      obtain⟨s',e',h'⟩:=J07 (n:=400) (s:=State.mk s.topo (s.up.set k.toNat false) s.lic s.depth s.now v rs es) ⟨by simp;exact hD.up,hD.par,hD.nodes,by simp only;omega,by simp only;omega,fun x hx=>hD.run x (q1 x hx)⟩ (by omega)
      rw[yM,ex,bS,e']
      exact⟨_,rfl,h'⟩
def Dr{α:Type}(P:α->Prop)(o:Option (α×l01Cur)):Prop:=∃r,o=some r/\P r.1/\CurP r.2
theorem Dr.bind{α γ:Type}{P:α->Prop}{o:Option (α×l01Cur)}{f:α×l01Cur->Option γ}{Q:Option γ->Prop}(h:Dr P o)(k:∀r,P r.1->CurP r.2->Q (f r)):Q (o.bind f):=by
 obtain⟨r,rfl,h1,h2⟩:=h
 exact k r h1 h2
theorem Y2{c:l01Cur}{n:Int}(h:CurP c)(hn:n<=1000000000:=by omega):Dr (fun v=>0<=v/\v<=max 0 (n-1)) (X0 c n):=by
 obtain⟨r,e,h0,h1,h2⟩:=Z7 h hn
 exact⟨r,e,⟨h0,h1⟩,h2⟩
theorem X0L{c:l01Cur}(h:CurP c):Dr (fun _=>True) (J3 c):=by
 obtain⟨r,e,h2⟩:=M08 h
 exact⟨r,e,trivial,h2⟩
theorem V1u{c:l01Cur}(h:CurP c):Dr (fun _=>True) (Uh c):=by
 obtain⟨r,e,h2⟩:=L1b h
 exact⟨r,e,trivial,h2⟩
theorem L1H{c:l01Cur}(h:CurP c):Dr (fun _=>True) (Zm c):=by
 unfold Zm
 refine(Y2 h).bind fun y2 _ h=>(Y2 h).bind fun y3 _ h=>(Y2 h).bind fun y4 _ h=>(Y2 h).bind fun y5 _ h=>(Y2 h).bind fun y6 _ h=>(Y2 h).bind fun y7 _ h=>?_
 have:∃n,quoI .i64 y7.1 3=some n:=⟨_,by simp[quoI];rfl⟩
 obtain⟨n8,e8⟩:=this
 rw[e8,bS]
 refine(Y2 h).bind fun y9 _ h=>(Y2 h).bind fun y10 _ h=>(Y2 h).bind fun y11 _ h=>?_
 cases y11.1==0 with
 |true=>exact(Y2 h).bind fun y12 _ h=>(Y2 h).bind fun y13 _ h=>⟨_,rfl,trivial,h⟩
 |false=>exact⟨_,rfl,trivial,h⟩
theorem Y0E{α:Type}{b:Bool}{x y:α}{Q:α->Prop}(h1:Q x)(h2:Q y):Q (bif b then x else y):=by cases b<;>assumption
abbrev TopS(t:Topo):Prop:=1<=t.parents.length/\t.parents.length<=20/\t.nodes.length<=20
theorem L1d{c:l01Cur}(h:CurP c):Dr TopS (Ui c):=by
 unfold Ui
 refine(Y2 h).bind fun y2 h2 hc=>?_
 refine UQ (fun _ (o:Option (Topo×l01Cur))=>Dr TopS o) (fun v:l01Cur×Int×List Int×List Int=>(y2.1-v.2.1).toNat) (fun v=>CurP v.1/\0<=v.2.1/\v.2.1<=max 0 y2.1/\1<=v.2.2.1.length/\v.2.2.1.length<=18/\1<=v.2.2.2.length/\v.2.2.2.length<=18) (fun v k hI hk=>?_) _ _ ⟨hc,by simp only;omega,by simp only;omega,by simp,by simp,by simp,by simp⟩ (by simp only;omega)
 obtain⟨g1,g2,g3,g4,g5,g6,g7⟩:=hI
 unfold Uu
 by_cases hlt:v.2.1<y2.1
 .rw[decide_eq_true hlt,yN]
  refine U7 (fun i (w:l01Cur×List Int×List Int)=>CurP w.1/\1<=w.2.1.length/\w.2.1.length<=18/\w.2.2.length<=w.2.1.length) (fun(o:Option (Topo×l01Cur))=>Dr TopS o) (fun i x w k' hx hJ hk'=>?_) (fun w hJ=>?_) ⟨g1,g4,g5,by simp⟩
  .obtain⟨j1,j2,j3,j4⟩:=hJ
   unfold Qu
   refine(Y2 j1).bind fun y6 h6 hc6=>?_
   refine UQ (fun _ (o:Option (Topo×l01Cur))=>Dr TopS o) (fun u:Int×List Int×List Int=>u.1.toNat) (fun u=>u.1<=100/\1<=u.2.1.length/\u.2.1.length<=18/\u.2.2.length<=u.2.1.length) (fun u k'' hU hk''=>?_) _ _ ⟨by rw[V4 (by omega)];omega,j2,j3,j4⟩ (by simp only;rw[V4 (by omega)];omega)
   obtain⟨u1,u2,u3,u4⟩:=hU
   unfold Wu
   by_cases hu:0<u.1/\(u.2.1.length:Int)<18
   .rw[show(decide (0<u.1)&&decide ((u.2.1.length:Int)<18))=true by(rw[yD,yO,yO];exact hu),yN,M0 (by simp;omega),bS,M0 (by simp;omega),bS]
    have ew:w64 (u.1-1)=u.1-1:=V4 (by omega)
    exact hk'' _ ⟨by rw[ew];omega,by simp,by simp;omega,by simp;omega⟩ (by simp only;rw[ew];omega)
   .rw[show(decide (0<u.1)&&decide ((u.2.1.length:Int)<18))=false by(rw[Bool.eq_false_iff];intro q;rw[yD,yO,yO]at q;exact hu q),yM]
    exact hk' _ ⟨hc6,u2,u3,u4⟩
  .obtain⟨j1,j2,j3,j4⟩:=hJ
   unfold Xu
   have ew:w64 (v.2.1+1)=v.2.1+1:=V4 (by omega)
   by_cases hl:0<(w.2.2.length:Int)
   .rw[decide_eq_true hl,yN]
    exact hk _ ⟨j1,by simp only;rw[ew];omega,by simp only;rw[ew];omega,j2,j3,by simp only;omega,by simp only;omega⟩ (by simp only;rw[ew];omega)
   .rw[decide_eq_false hl,yM]
    exact hk _ ⟨j1,by simp only;rw[ew];omega,by simp only;rw[ew];omega,j2,j3,g6,g7⟩ (by simp only;rw[ew];omega)
 .rw[decide_eq_false hlt,yM]
  refine(Y2 g1).bind fun y12 h12 hc12=>?_
  refine UQ (fun _ (o:Option (Topo×l01Cur))=>Dr TopS o) (fun u:l01Cur×Int×List Node=>u.2.1.toNat) (fun u=>CurP u.1/\u.2.1<=10/\(u.2.2.length:Int)+max 0 u.2.1<=10) (fun u k'' hU hk''=>?_) _ _ ⟨hc12,by simp only;rw[V4 (by omega)];omega,by simp only;rw[V4 (by omega)];simp;omega⟩ (by simp only;rw[V4 (by omega)];omega)
  obtain⟨u1,u2,u3⟩:=hU
  unfold Vu
  by_cases hu:0<u.2.1
  .have ew:w64 (u.2.1-1)=u.2.1-1:=V4 (by omega)
   rw[decide_eq_true hu,yN]
   refine(Y2 u1).bind fun y14 h14 hc14=>?_
   obtain⟨x,ex,_⟩:=Md (l:=v.2.2.2) h14.1 (by omega)
   rw[ex,bS,Qj _ _ (by simp only;omega),bS]
   refine Y0E (Q:=Dr TopS) ?_ ?_
   .refine(Y2 hc14).bind fun y18 _ h=>(Y2 h).bind fun y19 _ h=>(Y2 h).bind fun y20 _ h=>?_
    rw[M0 (by simp;omega),bS]
    exact hk'' _ ⟨h,by simp only;rw[ew];omega,by simp only;rw[ew];simp;omega⟩ (by simp only;rw[ew];omega)
   .exact hk'' _ ⟨hc14,by simp only;rw[ew];omega,by simp only;rw[ew];omega⟩ (by simp only;rw[ew];omega)
  .rw[decide_eq_false hu,yM]
   exact⟨_,rfl,⟨g4,by simp only;omega,by simp only;omega⟩,u1⟩
theorem X12{t:Topo}(h:TopS t)(v:Vec)(d:Int):∃r,Ju t v d=some r/\DrS 400 r.1:=by
 unfold Ju
 refine U7 (fun i (u:List Bool)=>u.length=i) (fun o=>∃r:State×Bool,o=some r/\DrS 400 r.1) (fun i x u k hx hI hk=>?_) (fun u hI=>?_) rfl
 .have hi:=(yB hx).1
  unfold Oy
  rw[M0 (by simp;omega),bS]
  exact hk _ (by simp[hI])
 .unfold Wy
  have hD:DrS 400 (State.mk t u v d 0 [] [] []):=⟨by simp only;omega,by simp only;omega,by simp only;omega,by simp,by simp,by simp⟩
  rw[(Jc (by simp)).1,bS]
  cases stateOk (State.mk t u v d 0 [] [] [])with
  |false=>exact⟨_,rfl,Vl _⟩
  |true =>
   simp only[yL,yM,Wj (hD.small (by omega)),bS]
   exact⟨_,rfl,hD⟩
theorem X1H{c:l01Cur}(h:CurP c):Dr (DrS 400) (Vt c):=by
 unfold Vt
 refine(L1d h).bind fun y2 h2 h=>(Y2 h).bind fun y3 _ h=>(Y2 h).bind fun y4 _ h=>(Y2 h).bind fun y5 _ h=>?_
 obtain⟨r,e,hr⟩:=X12 h2 (Vec.mk y3.1 y4.1 1) y5.1
 rw[e,bS]
 exact⟨_,rfl,hr,h⟩
theorem Yt{s s':State}{c:l01Cur}{n:Nat}(hs:DrS n s)(hs':DrS n s')(hc:CurP c)(b:Bool):Dr (DrS n) (bif b then(some (s,c))else(some (s',c))):=by
 cases b with
 |true=>exact⟨_,rfl,hs,hc⟩
 |false=>exact⟨_,rfl,hs',hc⟩
theorem U1e{c:l01Cur}{s:State}{n:Nat}(hn:400<=n)(hn':n<=100000)(hs:DrS n s)(h:CurP c):Dr (DrS n) (Y6 c s):=by
 have hnn:=hs.nodes;have hjj:=hs.jobs
 unfold Y6
 refine(Y2 h).bind fun y3 _ h3=>?_
 cases decide (y3.1<7)with
 |true =>
  refine(L1H h3).bind fun y4 _ h=>?_
  obtain⟨r,e,hr⟩:=V1e hs hn' y4.1
  rw[e,bS]
  exact Yt hs (hr.mono hn) h _
 |false =>
 cases decide (y3.1<9)with
 |true =>
  refine(Y2 h3).bind fun y6 _ h=>?_
  obtain⟨r,e,hr⟩:=O1n hs hn' (w64 (s.now+y6.1))
  rw[e,bS]
  exact Y0E (Q:=Dr (DrS n)) (Yt hs (hr.mono (by omega)) h _) (Yt hs hs h _)
 |false =>
 cases y3.1==9 with
 |true =>
  refine(Y2 h3).bind fun y8 _ h=>(Y2 h).bind fun y9 _ h=>?_
  obtain⟨r,e,hr⟩:=M0Z hs hn' (w64 (1+y8.1)) (w64 (2+y9.1))
  rw[e,bS]
  exact Yt hs (hr.mono hn) h _
 |false =>
 cases y3.1==10 with
 |true =>
  rw[yN,Z05 (by omega),bS]
  refine(Y2 h3).bind fun y12 _ h=>?_
  obtain⟨r,e,hr⟩:=X1z hs hn' y12.1
  rw[e,bS]
  exact Yt hs (hr.mono hn) h _
 |false =>
 cases y3.1==11 with
 |true =>
  rw[yN,Z05 (by omega),bS]
  refine(Y2 h3).bind fun y15 _ h=>?_
  obtain⟨r,e,hr⟩:=Q1f hs hn' y15.1
  rw[e,bS]
  exact Yt hs (hr.mono hn) h _
 |false =>
 cases y3.1==12 with
 |true =>
  refine(Y2 h3).bind fun y17 _ h=>(Y2 h).bind fun y18 _ h=>(Y2 h).bind fun y19 _ h=>?_
  obtain⟨r,e,hr⟩:=W1f hs hn' (Vec.mk y17.1 y18.1 y19.1)
  rw[e,bS]
  exact Yt hs (hr.mono hn) h _
 |false =>
 by_cases hl:0<(s.runs.length:Int)
 .simp only[yM]
  rw[decide_eq_true hl,yN]
  refine(Y2 h3).bind fun y22 h22 h=>?_
  obtain⟨x,ex,_⟩:=Md (l:=s.runs) h22.1 (by omega)
  rw[ex,bS]
  refine(Y2 h).bind fun y24 _ h=>?_
  obtain⟨r,e,hr⟩:=M0Z hs hn' x.job.id (w64 (2+y24.1))
  rw[e,bS]
  exact Yt hs (hr.mono hn) h _
 .simp only[yM]
  rw[decide_eq_false hl,yM]
  exact Yt hs hs h3 _
theorem U1b{c:l01Cur}(h:CurP c):Dr (DrS 400) (Yo c 14):=by
 unfold Yo
 refine(X1H h).bind fun y3 h3 hc=>(Y2 hc (by decide)).bind fun y4 h4 hc=>?_
 have e15:w64 (14+1)=15:=by decide
 rw[e15]at h4
 refine UQ (fun _ (o:Option (State×l01Cur))=>Dr (DrS 400) o) (fun v:l01Cur×State×Int=>v.2.2.toNat) (fun v=>CurP v.1/\DrS 400 v.2.1/\v.2.2<=14) (fun v k hI hk=>?_) _ _ ⟨hc,h3,by simp only;omega⟩ (by simp only;omega)
 obtain⟨g1,g2,g3⟩:=hI
 unfold Qt
 by_cases hp:0<v.2.2
 .rw[decide_eq_true hp,yN]
  have ew:w64 (v.2.2-1)=v.2.2-1:=V4 (by omega)
  refine(U1e (yV _) (by omega) g2 g1).bind fun y6 h6 hc6=>hk _ ⟨hc6,h6,by simp only;rw[ew];omega⟩ (by simp only;rw[ew];omega)
 .rw[decide_eq_false hp]
  exact⟨_,rfl,g2,g1⟩
theorem V1v{c:l01Cur}(h:CurP c){t:Topo}(ht:t.nodes.length<=1000):Dr (fun l:List Int=>l.length<=100) (Uo c t):=by
 unfold Uo
 refine(Y2 h).bind fun y3 h3 hc=>?_
 refine UQ (fun _ (o:Option (List Int×l01Cur))=>Dr (fun l:List Int=>l.length<=100) o) (fun v:l01Cur×Int×List Int=>v.2.1.toNat) (fun v=>CurP v.1/\v.2.1<=10/\(v.2.2.length:Int)+max 0 v.2.1<=10) (fun v k hI hk=>?_) _ _ ⟨hc,by simp only;omega,by simp;omega⟩ (by simp only;omega)
 obtain⟨g1,g2,g3⟩:=hI
 unfold Zu
 by_cases hp:0<v.2.1
 .rw[decide_eq_true hp,yN]
  have ew:w64 (v.2.1-1)=v.2.1-1:=V4 (by omega)
  refine(Y2 g1).bind fun y5 _ h=>?_
  rw[M0 (by simp;omega),bS]
  exact hk _ ⟨h,by simp only;rw[ew];omega,by simp only;rw[ew];simp;omega⟩ (by simp only;rw[ew];omega)
 .rw[decide_eq_false hp,yM]
  refine(Y2 g1).bind fun y8 _ h=>?_
  cases y8.1==0 with
  |true =>
   refine(X0L h).bind fun y9 _ h=>?_
   rw[M0 (by simp;omega)]
   exact⟨_,rfl,by simp;omega,h⟩
  |false=>exact⟨_,rfl,by simp only;omega,h⟩
theorem J1c{c:l01Cur}(h:CurP c):Dr (fun t:Topo=>t.parents.length<=100/\t.nodes.length<=100) (Ou c):=by
 unfold Ou
 refine(L1d h).bind fun y2 h2 hc=>(Y2 hc).bind fun y3 _ hc=>?_
 obtain⟨t1,t2,t3⟩:=h2
 have j31:∀(v14:l01Cur×List Node) (v18:l01Cur×List Int),CurP v18.1->v14.2.length<=20->v18.2.length<=21->Dr (fun t:Topo=>t.parents.length<=100/\t.nodes.length<=100) (Ob y3 v14 v18):=fun v14 v18 hc h1 h2=>by
  unfold Ob Le
  cases y3.1==4 with
  |true=>exact⟨_,rfl,⟨by simp,by simp only;omega⟩,hc⟩
  |false=>exact⟨_,rfl,⟨by simp only;omega,by simp only;omega⟩,hc⟩
 have j32:∀(v8:l01Cur×List Int) (v14:l01Cur×List Node),CurP v14.1->v14.2.length<=20->v8.2.length<=20->Dr (fun t:Topo=>t.parents.length<=100/\t.nodes.length<=100) (Wb y3 v8 v14):=fun v8 v14 hc h1 h2=>by
  unfold Wb
  cases y3.1==3 with
  |true =>
   rw[yN,Z05 (by omega),bS]
   refine(Y2 hc).bind fun y16 _ h=>?_
   rw[M0 (by simp;omega),bS]
   exact j31 _ _ h h1 (by simp;omega)
  |false=>exact j31 _ _ hc h1 (by simp only;omega)
 have j33:∀(v8:l01Cur×List Int) (v11:l01Cur×List Node),CurP v11.1->v11.2.length<=20->v8.2.length<=20->Dr (fun t:Topo=>t.parents.length<=100/\t.nodes.length<=100) (Qb y3 v8 v11):=fun v8 v11 hc h1 h2=>by
  unfold Qb
  by_cases hq:(y3.1==2)=true/\0<(v11.2.length:Int)
  .rw[show((y3.1==2)&&decide (0<(v11.2.length:Int)))=true by simp[hq];omega,yN]
   refine(V1u hc).bind fun y12 _ h=>?_
   obtain⟨x,ex,_⟩:=Md (l:=v11.2) (i:=0) (by omega) hq.2
   rw[ex,bS]
   exact j32 _ _ h (by simp;omega) h2
  .rw[show((y3.1==2)&&decide (0<(v11.2.length:Int)))=false by rw[Bool.eq_false_iff];intro q;rw[yD,yO]at q;exact hq q,yM]
   exact j32 _ _ hc h1 h2
 have j34:∀(v8:l01Cur×List Int),CurP v8.1->v8.2.length<=20->Dr (fun t:Topo=>t.parents.length<=100/\t.nodes.length<=100) (Ub y2 y3 v8):=fun v8 hc h1=>by
  unfold Ub
  by_cases hq:(y3.1==1)=true/\0<(y2.1.nodes.length:Int)
  .rw[show((y3.1==1)&&decide (0<(y2.1.nodes.length:Int)))=true by simp[hq];omega,yN]
   refine(X0L hc).bind fun y12 _ h=>?_
   obtain⟨x,ex,_⟩:=Md (l:=y2.1.nodes) (i:=0) (by omega) hq.2
   rw[ex,bS]
   exact j33 _ _ h (by simp;omega) h1
  .rw[show((y3.1==1)&&decide (0<(y2.1.nodes.length:Int)))=false by rw[Bool.eq_false_iff];intro q;rw[yD,yO]at q;exact hq q,yM]
   exact j33 _ _ hc (by simp only;omega) h1
 cases y3.1==0 with
 |true =>
  rw[yN,Z05 (by omega),bS]
  refine(Y2 hc).bind fun y5 h5 h=>(X0L h).bind fun y6 _ h=>?_
  obtain⟨x,ex,_⟩:=Md (l:=y2.1.parents) h5.1 (by omega)
  rw[ex,bS]
  exact j34 _ h (by simp;omega)
 |false=>exact j34 _ hc (by simp only;omega)
theorem VN{b:Bool}{p:Prop}[Decidable p]:(b&&decide p)=true/\b=true/\p\/(b&&decide p)=false:=by
 cases b<;>by_cases hp:p<;>simp[hp]
theorem Q12{l:List Run}{n:Nat}(h:∀x∈l,x.nodes.length<=n){i:Nat}{y:Run}(hy:y.nodes.length<=n):∀x∈l.set i y,x.nodes.length<=n:=fun x hx=>by
 rcases List.mem_or_eq_of_mem_set hx with hx|rfl
 .exact h x hx
 .exact hy
theorem L1m{c:l01Cur}(h:CurP c):Dr (DrS 500) (Yh c):=by
 unfold Yh
 refine(U1b h).bind fun y2 h2 hc=>(Y2 hc).bind fun y3 _ hc=>?_
 have d1:=h2.up;have d2:=h2.par;have d3:=h2.nodes;have d4:=h2.jobs;have d5:=h2.ends;have d6:=h2.run
 have j56:∀(v5:l01Cur×Int) (v7:List Bool) (v9:l01Cur×Int×Int×Int) (v15:List Job) (v20:l01Cur×List End) (v25:List Run) (v27:l01Cur×Int),CurP v27.1->v7.length<=100->v15.length+v25.length<=500->v20.2.length<=500->(∀x∈v25,x.nodes.length<=100)->Dr (DrS 500) (Vb y2 y3 v5 v7 v9 v15 v20 v25 v27):=fun v5 v7 v9 v15 v20 v25 v27 hc g1 g2 g3 g4=>by
  unfold Vb Qe
  cases y3.1==9 with
  |true=>exact(J1c hc).bind fun y28 h28 h=>⟨_,rfl,⟨g1,h28.1,h28.2,g2,g3,g4⟩,h⟩
  |false=>exact⟨_,rfl,⟨g1,d2,d3,g2,g3,g4⟩,hc⟩
 have j57:∀(v5:l01Cur×Int) (v7:List Bool) (v9:l01Cur×Int×Int×Int) (v15:List Job) (v20:l01Cur×List End) (v23:l01Cur×List Run) (v25:List Run),CurP v23.1->v7.length<=100->v15.length+v25.length<=500->v20.2.length<=500->(∀x∈v25,x.nodes.length<=100)->Dr (DrS 500) (Xb y2 y3 v5 v7 v9 v15 v20 v23 v25):=fun v5 v7 v9 v15 v20 v23 v25 hc g1 g2 g3 g4=>by
  unfold Xb
  cases y3.1==8 with
  |true=>exact(X0L hc).bind fun y26 _ h=>j56 _ _ _ _ _ _ _ h g1 g2 g3 g4
  |false=>exact j56 _ _ _ _ _ _ _ hc g1 g2 g3 g4
 have j58:∀(v5:l01Cur×Int) (v7:List Bool) (v9:l01Cur×Int×Int×Int) (v15:List Job) (v20:l01Cur×List End) (v23:l01Cur×List Run),CurP v23.1->v7.length<=100->v15.length+v23.2.length<=500->v20.2.length<=500->(∀x∈v23.2,x.nodes.length<=100)->Dr (DrS 500) (Yb y2 y3 v5 v7 v9 v15 v20 v23):=fun v5 v7 v9 v15 v20 v23 hc g1 g2 g3 g4=>by
  unfold Yb
  rcases VN (b:=y3.1==7) (p:=0<(v23.2.length:Int))with⟨e,_,hp⟩|e<;>rw[e]
  .obtain⟨x,ex,hx⟩:=Md (l:=v23.2) (i:=0) (by omega) hp
   rw[yN,ex,bS]
   exact j57 _ _ _ _ _ _ _ hc g1 (by simp;omega) g3 (Q12 g4 (g4 x (yE hx)))
  .exact j57 _ _ _ _ _ _ _ hc g1 g2 g3 g4
 have j59:∀(v5:l01Cur×Int) (v7:List Bool) (v9:l01Cur×Int×Int×Int) (v12:l01Cur×List Run) (v15:List Job) (v20:l01Cur×List End),CurP v20.1->v7.length<=100->v15.length+v12.2.length<=500->v20.2.length<=500->(∀x∈v12.2,x.nodes.length<=100)->Dr (DrS 500) (Zb y2 y3 v5 v7 v9 v12 v15 v20):=fun v5 v7 v9 v12 v15 v20 hc g1 g2 g3 g4=>by
  unfold Zb
  rcases VN (b:=y3.1==6) (p:=0<(v12.2.length:Int))with⟨e,_,hp⟩|e<;>rw[e]
  .refine(V1v hc (by omega)).bind fun y21 h21 h=>?_
   obtain⟨x,ex,hx⟩:=Md (l:=v12.2) (i:=0) (by omega) hp
   rw[ex,bS]
   exact j58 _ _ _ _ _ _ h g1 (by simp;omega) g3 (Q12 g4 h21)
  .exact j58 _ _ _ _ _ _ hc g1 g2 g3 g4
 have j60:∀(v5:l01Cur×Int) (v7:List Bool) (v9:l01Cur×Int×Int×Int) (v12:l01Cur×List Run) (v15:List Job),CurP v12.1->v7.length<=100->v15.length+v12.2.length<=500->(∀x∈v12.2,x.nodes.length<=100)->Dr (DrS 500) (Ja y2 y3 v5 v7 v9 v12 v15):=fun v5 v7 v9 v12 v15 hc g1 g2 g4=>by
  unfold Ja
  cases y3.1==5 with
  |true =>
   refine(Y2 hc).bind fun y16 _ h=>(Y2 h).bind fun y17 _ h=>(Y2 h).bind fun y18 _ h=>?_
   rw[M0 (by simp;omega),bS]
   exact j59 _ _ _ _ _ _ h g1 g2 (by simp;omega) g4
  |false=>exact j59 _ _ _ _ _ _ hc g1 g2 (by simp only;omega) g4
 have j61:∀(v5:l01Cur×Int) (v7:List Bool) (v9:l01Cur×Int×Int×Int) (v12:l01Cur×List Run),CurP v12.1->v7.length<=100->y2.1.queue.length+v12.2.length<=400->(∀x∈v12.2,x.nodes.length<=100)->Dr (DrS 500) (La y2 y3 v5 v7 v9 v12):=fun v5 v7 v9 v12 hc g1 g2 g4=>by
  unfold La
  rcases VN (b:=y3.1==4) (p:=0<(v12.2.length:Int))with⟨e,_,hp⟩|e<;>rw[e]
  .obtain⟨x,ex,hx⟩:=Md (l:=v12.2) (i:=0) (by omega) hp
   rw[yN,ex,bS,M0 (by simp;omega),bS]
   exact j60 _ _ _ _ _ hc g1 (by simp;omega) g4
  .exact j60 _ _ _ _ _ hc g1 (by omega) g4
 have j62:∀(v5:l01Cur×Int) (v7:List Bool) (v9:l01Cur×Int×Int×Int),CurP v9.1->v7.length<=100->Dr (DrS 500) (Ma y2 y3 v5 v7 v9):=fun v5 v7 v9 hc g1=>by
  unfold Ma
  rcases VN (b:=y3.1==3) (p:=0<(y2.1.runs.length:Int))with⟨e,_,hp⟩|e<;>rw[e]
  .refine(X0L hc).bind fun y10 _ h=>?_
   obtain⟨x,ex,hx⟩:=Md (l:=y2.1.runs) (i:=0) (by omega) hp
   rw[ex,bS]
   exact j61 _ _ _ _ h g1 (by simp;omega) (Q12 d6 (d6 x (yE hx)))
  .exact j61 _ _ _ _ hc g1 (by simp only;omega) d6
 have j63:∀(v5:l01Cur×Int) (v7:List Bool),CurP v5.1->v7.length<=100->Dr (DrS 500) (Oa y2 y3 v5 v7):=fun v5 v7 hc g1=>by
  unfold Oa
  cases y3.1==2 with
  |true=>exact(V1u hc).bind fun y8 _ h=>j62 _ _ _ h g1
  |false=>exact j62 _ _ _ hc g1
 have j64:∀(v5:l01Cur×Int),CurP v5.1->Dr (DrS 500) (Wa y2 y3 v5):=fun v5 hc=>by
  unfold Wa
  rcases VN (b:=y3.1==1) (p:=0<(y2.1.up.length:Int))with⟨e,_,hp⟩|e<;>rw[e]
  .obtain⟨x,ex,hx⟩:=Md (l:=y2.1.up) (i:=0) (by omega) hp
   rw[yN,ex,bS]
   exact j63 _ _ hc (by simp;omega)
  .exact j63 _ _ hc d1
 cases y3.1==0 with
 |true=>exact(X0L hc).bind fun y4 _ h=>j64 _ h
 |false=>exact j64 _ hc
set_option maxRecDepth 20000
def U0B:L :=
.seq (rE 2 (cB false))
 (.seq (sR [mV 13 0,.ln 14 13,.bi 15 .gtr 14 (kI 1048576)]
 (.cond 15 (.seq (rE 2 (cB true))
 gR)
 .skip))
 (sR [mV 17 0,cQ 18 ZQ [17],mV 16 18,eX 19 16 0,eX 20 16 1,.al 3 [.nl,.nl,.nl,.int .i64 0,.int .i64 0,.int .i64 0,.int .i64 0,.int .i64 0,.nl,.nl,.nl],.al 4 [.nl,.nl,.nl,.int .i64 0,.int .i64 0,.int .i64 0,.int .i64 0,.int .i64 0,.nl,.nl,.nl],.st 3 19 11,.st 4 20 11]
 (sR [lT 21 3 11,lT 22 4 11,cQ 23 U0c [21,22],mV 5 23]
 (sR [lT 24 3 11,lT 25 4 11,cQ 26 X0c [24,25],mV 6 26]
 (.seq (sR [mV 27 5,.ln 28 27,mV 29 6,.ln 30 29,bI 31 .neq 28 30,mV 32 31,gF 32 (mV 33 5),gF 32 (.ln 34 33),gF 32 (fA 35 3 9),gF 32 (lF 36 35 1),gF 32 (.ln 37 36),gF 32 (bI 38 .gtr 34 37),.pk 39 32 (cB true) 38]
 (.cond 39 (.seq (rE 2 (cB false))
 gR)
 .skip))
 (.seq (sR [mV 40 5,cQ 41 MC [40],.un 42 41]
 (.cond 42 (sR [mV 43 6,cQ 44 Y0c [43],.un 45 44,mV 2 45]
 gR)
 .skip))
 (sR [.bs 46 2 [] true,mV 7 46]
 (.seq (rE 8 (kI 0))
 (.seq (sR [mV 47 5,.ln 48 47,.mv 49 (kI 0)]
 (.blk 0 (.loop (.gw (sR [bI 50 .lss 49 48]
 (.seq (.cond 50 .skip
 (.exit 0))
 (.seq (.blk 1 (sR [iA 51 47 49 7,lT 52 51 7,.al 10 [.int .i64 0,.int .i64 0,.int .i64 0,.int .i64 0,.int .i64 0,.int .i64 0,.int .i64 0],.st 10 52 7]
 (sR [mV 53 7,fA 54 10 0,lF 55 54 1,.bd 56 [.int .i64 0,.str []] [(0,1,55),(1,1,(.c (.str [97,108,108])))],.bs 57 2 [56] false,.ap 58 53 57 2 24,mV 7 58]
 (.reg [mV 59 8,lT 60 10 7,cQ 61 YO [60],bI 62 .add 59 61,mV 8 62]))))
 (.reg [.bi 63 .add 49 (kI 1),mV 49 63]))))))))
 (sR [.bd 65 [.str [],.int .i64 0,.int .i64 0] [(0,1,(.c (.str [97,108,108]))),(1,1,(kI 1))],.bs 66 3 [65] false,mV 67 5,mV 68 7,cQ 69 J01 [66,67,68],mV 64 69,eX 70 64 0,eX 71 64 1,mV 11 70,mV 12 71]
 (sR [mV 72 12,mV 73 72,gT 73 (mV 74 5),gT 73 (mV 75 7),gT 73 (.cq 76 Q0c [74,75,(.c (.str [97,108,108]))]),gT 73 (mV 77 8),gT 73 (bI 78 .eql 76 77),.pk 79 73 78 (cB false),mV 80 79,gT 80 (mV 81 11),gT 80 (.ln 82 81),gT 80 (.bi 83 .eql 82 (kI 1)),.pk 84 80 83 (cB false),mV 85 84,gT 85 (mV 86 11),gT 85 (.ia 87 86 (kI 0) 3),gT 85 (fA 88 87 2),gT 85 (lF 89 88 1),gT 85 (mV 90 8),gT 85 (bI 91 .eql 89 90),gT 85 (mV 92 91),gF 92 (mV 93 8),gF 92 (.bi 94 .gtr 93 (kI 1000000000)),gF 92 (mV 95 94),gT 95 (mV 96 11),gT 95 (.ia 97 96 (kI 0) 3),gT 95 (fA 98 97 2),gT 95 (lF 99 98 1),gT 95 (.bi 100 .eql 99 (kI 1000000000)),gF 92 (.pk 101 95 100 (cB false)),gT 85 (.pk 102 92 (cB true) 101),.pk 103 85 102 (cB false),mV 2 103]
 gR)))))))))))
def WF(x10:Bill)(_:Nat)(v10:Int×(List Owner))(k10:(Int×(List Owner))->Option Bool):Option Bool :=
 (appL 24 v10.2 [(Owner.mk x10.id ([97,108,108]:Str))]).bind fun xs11=>k10 ((w64 (v10.1+(QD x10))),xs11)
def QF(y4:(List Bill))(v10:Int×(List Owner)):Option Bool :=
 (Yp [(Account.mk ([97,108,108]:Str) 1 0)] y4 v10.2).bind fun y12=>(bif y12.2 then(OD y4 v10.2 ([97,108,108]:Str))else some default).bind fun n13=>(bif ((y12.2&&(n13==v10.1))&&((y12.1.length:Int)==1))then(idx y12.1 0)else some default).bind fun e14=>(bif ((y12.2&&(n13==v10.1))&&((y12.1.length:Int)==1))then(bif (e14.used==v10.1)then some default else(bif (decide (1000000000<v10.1))then(idx y12.1 0)else some default))else some default).bind fun e15=>some (((y12.2&&(n13==v10.1))&&((y12.1.length:Int)==1))&&((e14.used==v10.1)||((decide (1000000000<v10.1))&&(e15.used==1000000000))))
def LO(code1:List Int):Option Bool :=
 bif (decide (1048576<(code1.length:Int)))then(some true)else((Zi code1).bind fun y3=>(WD y3.1 y3.2).bind fun y4=>(ZD y3.1 y3.2).bind fun y5=>bif (((y4.length:Int)!=(y5.length:Int))||(decide ((y3.1.runs.length:Int)<(y4.length:Int))))then(some false)else((Yl y4).bind fun b7=>bif (!b7)then((JC y5).bind fun b8=>some (!b8))else(rgl WF (QF y4) y4 0 (0,[]))))
theorem J0y{code1:List Int}{r:Bool}(H:LO code1=some r):Snd Tryz.prog ZT [rV 1 (code1.map eB)] (.bool r) []:=by
 refine wS U0B [.t 2] ?_
 unfold LO at H
 refine wG [.u 14 (.ln _ _ fun _=>lm code1 eB)] fun q2=>?_
 refine O0 H (fun H=>?_) fun H=>?_
 .obtain rfl:=sI H
  exact wP (wE [(2,.d)])
 .obtain⟨y3,h3,H⟩:=bB H
  obtain⟨y4,h4,H⟩:=bB H
  obtain⟨y5,h5,H⟩:=bB H
  refine wG [.c 18 (M0c h3),.u 23 (.call _ _ _ _ _ (AEs.of (xs:=[.agg [rV 1 (y3.1.topo.parents.map eI),rV 4 (y3.1.topo.nodes.map V1),rV 1 (y3.1.up.map eBo),iV y3.1.lic.a,iV y3.1.lic.b,iV y3.1.lic.c,iV y3.1.depth,iV y3.1.now,rV 11 (y3.1.queue.map eJob),rV 13 (y3.1.runs.map (Z1 .nw)),rV 3 (y3.1.ends.map eEnd)],.agg [rV 1 (y3.2.topo.parents.map eI),rV 4 (y3.2.topo.nodes.map V1),rV 1 (y3.2.up.map eBo),iV y3.2.lic.a,iV y3.2.lic.b,iV y3.2.lic.c,iV y3.2.depth,iV y3.2.now,rV 11 (y3.2.queue.map eJob),rV 13 (y3.2.runs.map (Z1 .nw)),rV 3 (y3.2.ends.map eEnd)]]) (by simp)) (fun _=>L0C h4)),.u 26 (.call _ _ _ _ _ (AEs.of (xs:=[.agg [rV 1 (y3.1.topo.parents.map eI),rV 4 (y3.1.topo.nodes.map V1),rV 1 (y3.1.up.map eBo),iV y3.1.lic.a,iV y3.1.lic.b,iV y3.1.lic.c,iV y3.1.depth,iV y3.1.now,rV 11 (y3.1.queue.map eJob),rV 13 (y3.1.runs.map (Z1 .nw)),rV 3 (y3.1.ends.map eEnd)],.agg [rV 1 (y3.2.topo.parents.map eI),rV 4 (y3.2.topo.nodes.map V1),rV 1 (y3.2.up.map eBo),iV y3.2.lic.a,iV y3.2.lic.b,iV y3.2.lic.c,iV y3.2.depth,iV y3.2.now,rV 11 (y3.2.queue.map eJob),rV 13 (y3.2.runs.map (Z1 .nw)),rV 3 (y3.2.ends.map eEnd)]]) (by simp)) (fun _=>Q0x h5)),.u 28 (.ln _ _ fun _=>lm y4 Wc),.u 30 (.ln _ _ fun _=>lm y5 Wc),.g 34 [(((y4.length:Int)!=(y5.length:Int)),false)] (.ln _ _ fun _=>lm y4 Wc),.g 37 [(((y4.length:Int)!=(y5.length:Int)),false)] (.ln _ _ fun _=>lm y3.1.runs (Z1 .nw))] fun q6=>?_
  refine O0 H (fun H=>?_) fun H=>?_
  .obtain rfl:=sI H
   exact wP (wE [(2,.d)])
  .obtain⟨b7,h7,H⟩:=bB H
   refine wG [.c 41 (YN h7)] fun _=>?_
   refine O0 H (fun H=>?_) fun H=>?_
   .obtain⟨b8,h8,H⟩:=bB H
    refine wG [.c 44 (V0x h8)] fun _=>?_
    replace H:=sI H;subst H
    exact wE [(2,.d)]
   .refine wG [.u 48 (.ln _ _ fun _=>lm y4 Wc)] fun q9=>?_
    refine wR (fun(i10:Nat) (v10:Int×(List Owner))=>⟨[(5,nV 7 (y4.map Wc)),(7,.sref 46),(8,iV v10.1),(47,nV 7 (y4.map Wc)),(48,iV (y4.length:Int)),(49,iV (i10:Int))],[],[],[(46,⟨2,v10.2.map U01,false⟩)]⟩) H (fun i10 x10 v10 I m k10 hxv10 hiv10 H N42=>?_) (fun v10 I m H=>?_)
    .unfold WF at H
     refine wP ?_
     refine wt (ltT hiv10) ?_
     obtain⟨xs11,h11,H⟩:=bB H
     refine wG [.u 51 (.ix _ _ _ fun _=>Q0 Wc (J0 hxv10)),.u 58 (.ap _ _ _ _ fun _=>L0 U01 h11),.c 61 (L05 x10),.w 63 (wi .i64 rfl hiv10 q6.1)] fun _=>?_
     exact wT (N42 _ H)
    .unfold QF at H
     refine wP ?_
     refine wf (ltF y4.length) ?_
     obtain⟨y12,h12,H⟩:=bB H
     obtain⟨n13,h13,H⟩:=bB H
     obtain⟨e14,h14,H⟩:=bB H
     obtain⟨e15,h15,H⟩:=bB H
     refine wG [.c 69 (U0m h12),.g 76 [(_,true)] (.call _ _ _ _ _ (AEs.refl _) (fun q=>J0C (bT q.1 h13))),.g 82 [((y12.2&&(n13==v10.1)),true)] (.ln _ _ fun _=>lm y12.1 O3),.g 87 [(_,true)] (.ix _ _ _ fun q=>Q0 O3 (bT q.1 h14)),.g 97 [(_,true),(_,false),(_,true)] (.ix _ _ _ fun q=>Q0 O3 (bT q.1 (bF q.2.1 (bT q.2.2.1 h15))))] fun _=>?_
     replace H:=sI H;subst H
     exact wE [(2,.d)]
end
theorem M1n:@Yd = @Y6:=rfl
theorem X0U{bs:List Int}(h:bs.length<=1048576):∃r,Zi bs=some r/\DrS 500 r.1/\DrS 500 r.2:=by
 unfold Zi
 obtain⟨c,ec,hc⟩:=O1b h
 rw[ec,bS]
 refine(L1m hc).bind (Q:=fun o=>∃r:State×State,o=some r/\DrS 500 r.1/\DrS 500 r.2) fun y3 h3 hc=>?_
 refine(Y2 hc).bind (Q:=fun o=>∃r:State×State,o=some r/\DrS 500 r.1/\DrS 500 r.2) fun y4 h4 hc=>?_
 refine UQ (fun _ (o:Option (State×State))=>∃r,o=some r/\DrS 500 r.1/\DrS 500 r.2) (fun v:l01Cur×State×Int=>v.2.2.toNat) (fun v=>CurP v.1/\DrS 500 v.2.1/\v.2.2<=10) (fun v k hI hk=>?_) _ _ ⟨hc,h3,by simp only;omega⟩ (by simp only;omega)
 obtain⟨g1,g2,g3⟩:=hI
 have hend:∃r,((X0 v.1 8).bind fun y8=>bif (y8.1==0)then((Yh y8.2).bind fun y9=>(J6 y3) y9.1)else((J6 y3) v.2.1))=some r/\DrS 500 r.1/\DrS 500 r.2:=by
  refine(Y2 g1).bind (Q:=fun o=>∃r:State×State,o=some r/\DrS 500 r.1/\DrS 500 r.2) fun y8 _ h=>?_
  refine Y0E (Q:=fun o=>∃r:State×State,o=some r/\DrS 500 r.1/\DrS 500 r.2) ?_ ⟨_,rfl,h3,g2⟩
  exact(L1m h).bind (Q:=fun o=>∃r:State×State,o=some r/\DrS 500 r.1/\DrS 500 r.2) fun y9 h9 _=>⟨_,rfl,h3,h9⟩
 unfold Ln
 by_cases hp:0<v.2.2
 .rw[decide_eq_true hp,yN,(Jc (g2.small (by omega)).jobs).1,bS]
  cases stateOk v.2.1 with
  |false=>exact hend
  |true =>
   have ew:w64 (v.2.2-1)=v.2.2-1:=V4 (by omega)
   rw[M1n,Bool.and_self,yN]
   exact(U1e (by omega) (by omega) g2 g1).bind (Q:=fun o=>∃r:State×State,o=some r/\DrS 500 r.1/\DrS 500 r.2) fun y7 h7 h=>hk _ ⟨h,h7,by simp only;rw[ew];omega⟩ (by simp only;rw[ew];omega)
 .rw[decide_eq_false hp,yM,bS,Bool.false_and,yM]
  exact hend
theorem Z0E(b:Bill):Xl b=W6 b:=by
 unfold Xl W6 V0
 rw[show Q2 b.fr=Q1 b.fr from rfl,show Q2 b.to_=Q1 b.to_ from rfl,show M1 b.need=W0 b.need from rfl]
 simp only[Bool.and_assoc]
def XS(l:List Bill):Bool:=l.all W6&&decide (l.length<=300)
theorem U0x(l:List Bill):JC l=some (XS l):=by
 unfold JC XS
 rw[Mf (r:=some false) (p:=fun x=>!W6 x) (fun x _ i k=>rfl),← List.not_all_eq_any_not]
 unfold XF
 cases l.all W6<;>simp<;>omega
theorem XN(l:List Bill):Yl l=some (XS l):=by
 unfold Yl XS
 rw[Mf (r:=some false) (p:=fun x=>!W6 x) (fun x _ i k=>by unfold UG;rw[Z0E]),← List.not_all_eq_any_not]
 unfold VG
 cases l.all W6<;>simp<;>omega
def V10(b:Bill):Int:=(b.to_-b.fr)*b.nodes*max 1 b.need.a
theorem U0X{a b x y:Int}(h0:0<=a)(h1:a<=x)(h2:0<=b)(h3:b<=y):0<=a*b/\a*b<=x*y :=
  ⟨Int.mul_nonneg h0 h2,Int.le_trans (Int.mul_le_mul_of_nonneg_right h1 h2) (Int.mul_le_mul_of_nonneg_left h3 (by omega))⟩
theorem W0U{b:Bill}(h:W6 b=true):QD b=V10 b/\0<=V10 b/\V10 b<=24000000000000000:=by
 have h':=h
 unfold W6 at h'
 simp only[yD,yO]at h'
 obtain⟨⟨⟨⟨⟨⟨⟨_,_⟩,t1⟩,t2⟩,t3⟩,n1⟩,n2⟩,v⟩:=h'
 have t1':0<=b.fr/\b.fr<=1000000000:=by simpa[Q1]using t1
 have t2':0<=b.to_/\b.to_<=1000000000:=by simpa[Q1]using t2
 have va:0<=b.need.a/\b.need.a<=1000000:=by
  simp[W0,Q6]at v
  omega
 have m1:=U0X (a:=b.to_-b.fr) (b:=b.nodes) (x:=1000000000) (y:=24) (by omega) (by omega) (by omega) n2
 have m2:=U0X (a:=(b.to_-b.fr)*b.nodes) (b:=max 1 b.need.a) (x:=1000000000*24) (y:=1000000) m1.1 m1.2 (by omega) (by omega)
 refine⟨?_,m2.1,by unfold V10;omega⟩
 unfold QD V10
 rw[Z0E,h]
 simp only[yL,yM]
 rw[V4 (n:=b.to_-b.fr) (by omega),V4 (n:=(b.to_-b.fr)*b.nodes) (by omega),V4 (by omega)]
def sumB(l:List Bill):Int:=(l.map V10).sum
theorem M0w{l:List Bill}{i:Nat}{x:Bill}(hx:l[i]?=some x):sumB (l.take (i+1))=sumB (l.take i)+V10 x:=by
 obtain⟨hi,rfl⟩:=yB hx
 rw[List.take_succ_eq_append_getElem hi];unfold sumB;rw[List.map_append,List.sum_append,List.map_singleton,List.sum_singleton]
theorem L0w:∀{l:List Bill},(∀x∈l,W6 x=true)->0<=sumB l/\sumB l<=24000000000000000*l.length
 |[],_=>by simp[sumB]
 |x::l,h=>by
  have h1:=L0w (l:=l) fun y hy=>h y (by simp[hy])
  have h2:=W0U (h x (by simp))
  rw[show sumB (x::l)=V10 x+sumB l by simp[sumB],yT]
  omega
def allS:Str:=[97,108,108]
theorem Z1v:QM allS=some true:=by
 unfold QM
 rw[show(9223372036854775807:Nat)=9223372036854775803+1+1+1+1 from rfl]
 generalize (9223372036854775803:Nat)=n
 simp only[whl,UM]
 rfl
theorem W1J{u:Int}(h0:0<=u)(h1:u<=1000000000):Yg [Account.mk allS 1 u]=some true:=by
 unfold Yg
 simp only[rgl]
 unfold Ur Vr V0
 simp only[Z1v,bS]
 simp[h0,h1]
theorem accAt{u:Int}(h0:0<=u)(h1:u<=1000000000):Xp [Account.mk allS 1 u] allS=some 0:=by
 unfold Xp
 rw[W1J h0 h1,bS]
 simp only[rgl,yL,yM]
 unfold Uw
 simp
theorem J1l{u n:Int}(h0:0<=u)(h1:u<=1000000000)(n0:0<=n)(n1:n<=1000000000):ZN [Account.mk allS 1 u] allS n=some ([Account.mk allS 1 (min 1000000000 (u+n))],true):=by
 unfold ZN
 rw[accAt h0 h1,bS]
 unfold V0
 simp only[Int.lt_irrefl,decide_false,Bool.false_or,decide_eq_true n0,decide_eq_true n1,Bool.and_self,yL,yM]
 rw[M0 (by simp),bS]
 have:idx ([]++[Account.mk allS 1 u]) 0=some (Account.mk allS 1 u):=rfl
 rw[this,bS]
 dsimp only
 rw[V4 (by omega)]
 rfl
def L0f(l:List Bill):List Owner:=l.map fun x=>Owner.mk x.id allS
theorem W16{l:List Bill}{x:Bill}(hx:x∈l):Ws (L0f l) x.id=some (allS,true):=by
 obtain⟨i,hi⟩:=List.getElem?_of_mem hx
 have hil:=(yB hi).1
 unfold Ws
 refine U7 (fun j (_:Unit)=>j<=i) (fun(o:Option (Str×Bool))=>o=some (allS,true)) (fun j y _ k hj hI hk=>?_) (fun _ hI=>by simp[L0f]at hI;omega) (Nat.zero_le _)
 unfold OF
 have hy:∃z,l[j]?=some z/\y=Owner.mk z.id allS:=by
  unfold L0f at hj
  rw[yF]at hj
  obtain⟨z,hz,e⟩:=yC hj
  exact⟨z,hz,e.symm⟩
 obtain⟨z,hz,rfl⟩:=hy
 cases e:z.id==x.id with
 |true=>rfl
 |false =>
  refine hk () ?_
  have:j≠i:=fun q=>by subst q;rw[hi]at hz;cases hz;simp at e
  omega
theorem L1c{l:List Bill}(h:XS l=true):OD l (L0f l) allS=some (sumB l):=by
 have h':=h
 unfold XS at h'
 simp only[yD,List.all_eq_true,yO]at h'
 unfold OD
 rw[XN,h,bS]
 simp only[yL,yM]
 refine U7 (fun i (v:Int)=>v=sumB (l.take i)) (fun(o:Option Int)=>o=some (sumB l)) (fun i x v k hx hI hk=>?_) (fun v hI=>by rw[hI,List.take_length];rfl) (by simp[sumB])
 have hxm:=yE hx
 have hc:=W0U (h'.1 x hxm)
 have hs:=L0w (l:=l.take i) fun y hy=>h'.1 y (List.mem_of_mem_take hy)
 have hl:(l.take i).length<=300:=by simp;omega
 unfold MG
 rw[W16 hxm,bS]
 simp only[beq_self_eq_true,Bool.and_self,yN]
 refine hk _ ?_
 rw[M0w hx,hI,hc.1,V4 (by omega)]
theorem J10{l:List Bill}(h:XS l=true):Yp [Account.mk allS 1 0] l (L0f l)=some ([Account.mk allS 1 (min 1000000000 (sumB l))],true):=by
 have h':=h
 unfold XS at h'
 simp only[yD,List.all_eq_true,yO]at h'
 unfold Yp
 rw[W1J (by omega) (by omega),bS]
 simp only[yL,yM,XN,h,bS,Bool.or_self]
 rw[M0 (by simp),bS,List.nil_append]
 refine U7 (fun i (v:List Account)=>v=[Account.mk allS 1 (min 1000000000 (sumB (l.take i)))]) (fun(o:Option (List Account×Bool))=>o=some ([Account.mk allS 1 (min 1000000000 (sumB l))],true)) (fun i x v k hx hI hk=>?_) (fun v hI=>by rw[hI,List.take_length];rfl) (by simp[sumB];omega)
 have hxm:=yE hx
 have hc:=W0U (h'.1 x hxm)
 have hs:=L0w (l:=l.take i) fun y hy=>h'.1 y (List.mem_of_mem_take hy)
 unfold Vw
 rw[W16 hxm,bS]
 simp only[yL,yM]
 rw[hI,hc.1,J1l (by omega) (by omega) (by omega) (by omega),bS]
 simp only[yN]
 refine hk _ ?_
 rw[M0w hx]
 congr 2
 omega
theorem O14{a b:State}(ha:a.queue.length+a.runs.length<=1048576)(hb:b.queue.length+b.runs.length<=1048576):∃l,ZD a b=some l/\WD a b=some l/\l.length<=a.runs.length:=by
 have es:rgl (Yi b) VF a.runs 0 []=rgl (U11 b) some a.runs 0 []:=U04 (fun i x v k _=>O1e b x i v k) fun _=>rfl
 have ei:rgl (Vi b) QG a.runs 0 []=rgl (U11 b) some a.runs 0 []:=U04 (fun i x v k _=>J1j b x i v k) fun _=>rfl
 obtain⟨l,hl,hn⟩:∃l,rgl (U11 b) some a.runs 0 []=some l/\l.length<=a.runs.length:=by
  refine U7 (l0:=a.runs) (b:=([]:List Bill)) (fun i (v:List Bill)=>v.length<=i) (fun o=>∃l,o=some l/\l.length<=a.runs.length) (fun i x v k hx hI hk=>?_) (fun v hI=>⟨v,rfl,hI⟩) (yV 0)
  have hi:=(yB hx).1
  unfold U11
  cases billHas b x with
  |true=>exact hk v (by omega)
  |false =>
   rw[yM,M0 (by simp;omega),bS]
   exact hk _ (by simp;omega)
 unfold ZD WD
 rw[(Jc ha).1,(Jc ha).2,(Jc hb).1,(Jc hb).2,es,ei,hl]
 cases stateOk a with
 |false=>exact⟨[],rfl,rfl,by simp⟩
 |true=>cases stateOk b with
  |false=>exact⟨[],rfl,rfl,by simp⟩
  |true =>
   simp only[bS,yL,yM,Bool.false_or]
   cases decide (b.now<a.now)with
   |true=>exact⟨[],rfl,rfl,by simp⟩
   |false=>exact⟨l,rfl,rfl,hn⟩
theorem W0Z(code:List Int):LO code=some true:=by
 unfold LO
 by_cases hl:1048576<code.length
 .rw[show decide ((1048576:Int)<(code.length:Int))=true by simp;omega];rfl
 rw[show decide ((1048576:Int)<(code.length:Int))=false by simp;omega,yM]
 obtain⟨⟨a,b⟩,e3,hA,hB⟩:=X0U (bs:=code) (by omega)
 have ja:a.queue.length+a.runs.length<=500:=hA.jobs
 have jb:b.queue.length+b.runs.length<=500:=hB.jobs
 obtain⟨l,h1,h2,h3⟩:=O14 (a:=a) (b:=b) (by omega) (by omega)
 rw[e3,bS]
 dsimp only
 rw[h2,h1,bS,bS,bne_self_eq_false,show decide ((a.runs.length:Int)<(l.length:Int))=false by simp;omega,Bool.or_self,yM,XN,bS]
 cases hb:XS l with
 |false=>rw[Bool.not_false,yN,U0x,hb];rfl
 |true =>
  have h':=hb
  unfold XS at h'
  simp only[yD,List.all_eq_true,yO]at h'
  simp only[yL,yM]
  refine U7 (fun i (v:Int×List Owner)=>v=(sumB (l.take i),L0f (l.take i))) (fun(o:Option Bool)=>o=some true) (fun i x v k hx hI hk=>?_) (fun v hI=>?_) (by simp[sumB,L0f])
  .have hxm:=yE hx
   have hil:=(yB hx).1
   have hc:=W0U (h'.1 x hxm)
   have hs:=L0w (l:=l.take i) fun y hy=>h'.1 y (List.mem_of_mem_take hy)
   have ht:(l.take i).length<=300:=by simp;omega
   unfold WF
   rw[hI]
   dsimp only
   rw[M0 (by simp[L0f];omega),bS]
   refine hk _ ?_
   rw[hc.1,V4 (by omega),M0w hx]
   obtain⟨_,rfl⟩:=yB hx
   rw[List.take_succ_eq_append_getElem hil]
   unfold L0f
   rw[List.map_append]
   rfl
  .have hs:=L0w (l:=l) h'.1
   rw[List.take_length]at hI
   unfold QF
   rw[hI]
   dsimp only
   rw[show([97,108,108]:Str)=allS from rfl,J10 hb,bS]
   dsimp only
   rw[yN,L1c hb,bS]
   have e0:idx [Account.mk allS 1 (min 1000000000 (sumB l))] 0=some (Account.mk allS 1 (min 1000000000 (sumB l))):=rfl
   simp only[beq_self_eq_true,Bool.true_and,Bool.and_true,yT,List.length_nil,Nat.zero_add,Int.natCast_one,yN,e0,bS]
   by_cases hm:sumB l<=1000000000
   .rw[show min 1000000000 (sumB l)=sumB l by omega]
    simp
   .rw[show min 1000000000 (sumB l)=1000000000 by omega]
    have c1:((1000000000:Int)==sumB l)=false:=beq_eq_false_iff_ne.2 (by omega)
    have c2:decide ((1000000000:Int)<sumB l)=true:=by simp;omega
    rw[c1,c2]
    rfl
theorem W1q{a:AV}(h:(Ty.sl (.int .u8)).okV a):∃l:List Int,AV.wkA (fun _=>False) a (.sl .rd 1 (l.map eB)):=by
 simp only[Ty.okV,Ty.ok]at h
 rcases h with h|⟨es,h,_,h2⟩
 .exact⟨[],by rw[(List.cons.inj h).1];simp⟩
 .obtain⟨l,rfl⟩:=U1y eB fun x hx=>by
   obtain⟨_,h3,n,h4,_⟩:=h2 x hx
   simp only[Ty.isSt,yG,yc]at h3
   rw[Z11 h3]at h4
   exact⟨n,(List.cons.inj h4).1⟩
  exact⟨l,by rw[(List.cons.inj h).1];simp[Ty.size]⟩
theorem Y1d(xs:List AV)(h:okVs [.sl (.int .u8)] xs):Snd Tryz.prog ZT xs (.bool true) []:=by
 obtain⟨a,_,rfl,ha,rfl⟩:=h
 obtain⟨l,ha⟩:=W1q ha
 exact(J0y (W0Z l)).wk ⟨ha,trivial⟩
end Go.Proofs.YtpgaganbacipnaaGreat
