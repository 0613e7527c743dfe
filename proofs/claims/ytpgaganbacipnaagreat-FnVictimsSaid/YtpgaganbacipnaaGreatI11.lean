/-
  Lemmas, part 11.
-/
import Derived.Test.YtpgaganbacipnaaGreatI10
import Derived.Test.YtpgaganbacipnaaGreatI1
namespace Go.Proofs.YtpgaganbacipnaaGreat
open Go Go.RowKit Eng
section
def AscP(l:List Int):Prop:=∀(i:Nat) (x y:Int),l[i]?=some x->l[i+1]?=some y->x<y
open Classical in
noncomputable def ascB(l:List Int):Bool:=decide (AscP l)
theorem U0J{l:List Int}:ascB l=true↔AscP l:=by unfold ascB;simp
theorem X0f{l:List Int}(hl:l.length<=1048576):Ji l=some (ascB l):=by
 unfold Ji
 have h:=Q0j (bd:=Za l) (λ(i:Nat) (_:Unit)=>((i+1:Nat):Int)) (n:=l.length-1)
  (B:=λx _ _ k=>bif match l[x]?,l[x+1]? with|some a,some b=>decide (b<=a)|_,_=>true then some false else k ()) (kk:=λ_=>some true) (λi st k hi=>by
   obtain⟨a,ha⟩:∃e,l[i]?=some e:=⟨_,yA (by omega)⟩
   obtain⟨b,hb⟩:∃e,l[i+1]?=some e:=⟨_,yA (by omega)⟩
   have hlt:((i+1:Nat):Int)<(l.length:Int):=by omega
   simp only[Za,hlt,decide_true,yN,V0I (n:=i+1) (by omega) (by omega),Nat.add_sub_cancel,Y7,ha,hb,bS,X06 (n:=i+1) (by omega)])
  (λi st k hi=>by
   have hlt:¬ ((i+1:Nat):Int)<(l.length:Int):=by omega
   simp only[Za,hlt,decide_false,yM]) 9223372036854775807 0 () (by omega)
 refine h.trans ?_
 rw[Mn (r:=some false) (p:=λ(x:Nat)=>match l[x]?,l[x+1]? with|some a,some b=>decide (b<=a)|_,_=>true) (λx _ i k=>rfl)]
 cases hany:(List.range' 0 (l.length-1-0)).any (λ(x:Nat)=>match l[x]?,l[x+1]? with|some a,some b=>decide (b<=a)|_,_=>true)with
 |true =>
  obtain⟨x,hx,hq⟩:=List.any_eq_true.1 hany
  obtain⟨j,hj,rfl⟩:=List.mem_range'.1 hx
  obtain⟨a,ha⟩:∃e,l[0+1*j]?=some e:=⟨_,yA (by omega)⟩
  obtain⟨b,hb⟩:∃e,l[0+1*j+1]?=some e:=⟨_,yA (by omega)⟩
  rw[ha,hb]at hq
  have:ascB l=false:=by
   rw[Bool.eq_false_iff]
   intro q
   have:=U0J.1 q _ a b ha hb
   simp at hq;omega
  rw[this];rfl
 |false =>
  have:ascB l=true:=U0J.2 λi x y hx hy=>by
   have hlt:=(yB hy).1
   have:=List.any_eq_false.1 hany i (List.mem_range'.2 ⟨i,by omega,by omega⟩)
   rw[hx,hy]at this
   simpa using this
  rw[this];rfl
noncomputable def lowN(t:Topo)(l:List Int):Nat:=((Jv t l).getD 0).toNat
theorem V1B{t:Topo}{l:List Int}(h:U4 t l=true)(hne:l≠[]):lowN t l<t.parents.length/\Jv t l=some (lowN t l:Int)/\WF t l=some (lowN t l:Int):=by
 obtain⟨s,h1,h2,h3⟩:=W1l h hne
 have:lowN t l=s:=by unfold lowN;rw[h2];simp
 rw[this];exact⟨h1,h2,h3⟩
def isUp(s:State)(n:Int):Bool:=(idx s.up n).getD false
noncomputable def runFit(s:State)(x:Run):Bool:=x.nodes.all (isUp s)&&ascB x.nodes&&decide (lev s.topo (lowN s.topo x.nodes)<=x.job.level)
def endOk(s:State)(e:End):Bool:=(decide (1<=e.id)&&decide (e.id<=999))&&(decide (0<=e.t)&&decide (e.t<=s.now))&&(decide (1<=e.why)&&decide (e.why<=4))
noncomputable def stateOk(s:State):Bool:=((L6 s).getD Oh).2&&(decide (0<=s.depth)&&decide (s.depth<=60))&&queueOk (allJobs s)&&decide (s.ends.length<=300)&&s.runs.all (runFit s)&&s.ends.all (endOk s)
theorem U1e{a b:Int}:decide (b<a) = !decide (a<=b):=by rw[Bool.eq_iff_iff];simp
theorem Q1c{s:State}(_:TopoP s.topo)(hu:s.up.length=s.topo.nodes.length)(hR:RunsP s){x:Run}(hx:x∈s.runs) :
  x.nodes≠[]/\U4 s.topo x.nodes=true/\x.nodes.length<=24/\∀n∈x.nodes,∃b,idx s.up n=some b:=by
 obtain⟨h1,h2,h3,_,_⟩:=hR.job x hx
 have hj:=(Zo.1 h1).2.2.1
 refine⟨λe=>by rw[e]at h2;simp at h2;omega,h3,by omega,λn hn=>?_⟩
 have:=(Q3.1 h3).2 n hn
 obtain⟨b,q,_⟩:=Mb (l:=s.up) (i:=n) this.1 (by rw[hu];exact this.2)
 exact⟨b,q⟩
theorem W12{s:State}(hT:TopoP s.topo)(hu:s.up.length=s.topo.nodes.length)(hR:RunsP s){x:Run}(hx:x∈s.runs)(k:Unit->Option Bool)(i:Nat):Yv s x i () k=bif !runFit s x then some false else k ():=by
 obtain⟨h1,h2,h3,h4⟩:=Q1c hT hu hR hx
 obtain⟨l1,l2,l3⟩:=V1B h2 h1
 unfold Yv
 have hk:La s x k ()=bif decide (lev s.topo (lowN s.topo x.nodes)<=x.job.level)then k ()else some false:=by
  unfold La
  rw[l2,bS,Yg hT l1,bS,U1e]
  cases decide (lev s.topo (lowN s.topo x.nodes)<=x.job.level)<;>rfl
 have:rgl (Xv s x) (La s x k) x.nodes 0 ()=bif x.nodes.all (isUp s)&&ascB x.nodes then La s x k ()else some false:=by
  refine X7 (λi (_:Unit)=>(∀j n,j<i->x.nodes[j]?=some n->isUp s n=true)/\∀j a b,j+1<i->x.nodes[j]?=some a->x.nodes[j+1]?=some b->a<b) (λo=>o=bif x.nodes.all (isUp s)&&ascB x.nodes then La s x k ()else some false) (λi n b kc hi hI hkc=>?_) (λb hI=>?_) ⟨λj n h=>by omega,λj a b h=>by omega⟩
  .have hil:=(yB hi).1
   obtain⟨u,hu'⟩:=h4 n (yE hi)
   have hup:isUp s n=u:=by unfold isUp;rw[hu'];rfl
   unfold Xv
   rw[hu',bS]
   cases u with
   |false =>
    have:x.nodes.all (isUp s)=false:=List.all_eq_false.2 ⟨n,yE hi,by rw[hup];simp⟩
    rw[this];rfl
   |true =>
    have new:∀j m,j<i+1->x.nodes[j]?=some m->isUp s m=true:=by
     intro j m hj hm
     by_cases e:j=i
     .subst e;rw[hi]at hm;cases hm;exact hup
     .exact hI.1 j m (by omega) hm
    by_cases h0:i=0
    .subst h0
     exact hkc () ⟨new,λj a b hj=>by omega⟩
    .have hgt:decide ((0:Int)<(i:Int))=true:=by simp;omega
     obtain⟨q,hq⟩:∃q,x.nodes[i-1]?=some q:=⟨_,yA (by omega)⟩
     rw[hgt,V0I (by omega) (by omega)]
     simp only[yL,yM,yN,Bool.false_or,Bool.true_and,Y7,hq,bS]
     by_cases h5:n<=q
     .have:ascB x.nodes=false:=by
       rw[Bool.eq_false_iff]
       intro w
       have:=U0J.1 w (i-1) q n hq (by rw[show i-1+1=i by omega];exact hi)
       omega
      rw[this,Bool.and_false];simp[h5]
     .simp only[h5,decide_false,yM]
      refine hkc () ⟨new,λj a b hj ha hb=>?_⟩
      by_cases e:j+1=i
      .have:j=i-1:=by omega
       subst this
       rw[hq]at ha;cases ha
       rw[show i-1+1=i by omega,hi]at hb;cases hb
       omega
      .exact hI.2 j a b (by omega) ha hb
  .have e1:x.nodes.all (isUp s)=true:=List.all_eq_true.2 λn hn=>by
    obtain⟨j,hj⟩:=List.getElem?_of_mem hn
    exact hI.1 j n (yB hj).1 hj
   have e2:ascB x.nodes=true:=U0J.2 λj a b ha hb=>hI.2 j a b (yB hb).1 ha hb
   rw[e1,e2];rfl
 rw[this,hk]
 unfold runFit
 cases x.nodes.all (isUp s)<;>cases ascB x.nodes<;>cases decide (lev s.topo (lowN s.topo x.nodes)<=x.job.level)<;>rfl
theorem W1J{s:State}(hT:TopoP s.topo)(hu:s.up.length=s.topo.nodes.length)(hR:RunsP s){x:Run}(hx:x∈s.runs)(k:Unit->Option Bool)(i:Nat):Qv s x i () k=bif !runFit s x then some false else k ():=by
 obtain⟨h1,h2,h3,h4⟩:=Q1c hT hu hR hx
 obtain⟨l1,l2,l3⟩:=V1B h2 h1
 unfold Qv
 rw[Mn (r:=some false) (p:=λn=>!isUp s n) (λn hn i k=>by
  obtain⟨u,hu'⟩:=h4 n hn
  unfold JL isUp
  rw[hu',bS];rfl),← List.not_all_eq_any_not]
 unfold LL
 rw[X0f (by omega),bS]
 unfold runFit
 cases x.nodes.all (isUp s)with
 |false=>rfl
 |true =>
 cases ascB x.nodes with
 |false=>rfl
 |true =>
  simp only[yL,yM,l3,bS,XB hT l1,Bool.false_or,Bool.true_and,U1e]
theorem Wf{s:State}(hs:s.queue.length+s.runs.length<=1048576):X6 s=some (stateOk s)/\Oo s=some (stateOk s):=by
 obtain⟨q,h1,h2⟩:=Uk s
 unfold X6 Oo stateOk
 rw[Y0h,h1,bS,bS,VZ,Yy hs,Option.getD_some]
 have e1:(decide (s.depth<0)||decide (60<s.depth)) = !(decide (0<=s.depth)&&decide (s.depth<=60)):=by rw[Bool.eq_iff_iff];simp
 have e2:U0 s.depth 0 60=(decide (0<=s.depth)&&decide (s.depth<=60)):=rfl
 have e3:decide ((300:Int)<(s.ends.length:Int)) = !decide (s.ends.length<=300):=by rw[Bool.eq_iff_iff];simp;omega
 rw[Bool.or_assoc,e1,e2,e3]
 cases hq:q.2 with
 |false=>exact⟨rfl,rfl⟩
 |true =>
 obtain⟨a1,a2,a3,a4,a5⟩:=h2 hq
 have hT:TopoP s.topo:=by rw[← a3];exact a2.topo
 have hu:s.up.length=s.topo.nodes.length:=by rw[← a3,← a4];exact a2.up
 cases(decide (0<=s.depth)&&decide (s.depth<=60))with
 |false=>exact⟨rfl,rfl⟩
 |true =>
 simp only[yL,Bool.or_self,yM,bS,OP,U0Q,Bool.false_or,Bool.true_and]
 cases queueOk (allJobs s)with
 |false=>exact⟨rfl,rfl⟩
 |true =>
 cases decide (s.ends.length<=300)with
 |false=>exact⟨rfl,rfl⟩
 |true =>
 simp only[yL,Bool.or_self,yM,Bool.true_and]
 rw[Mn (r:=some false) (p:=λx=>!runFit s x) (λx hx i k=>W12 hT hu a5 hx k i),Mn (r:=some false) (p:=λx=>!runFit s x) (λx hx i k=>W1J hT hu a5 hx k i),← List.not_all_eq_any_not]
 unfold OK ML
 have f1:∀e:End,(((((decide (e.id<1)||decide (999<e.id))||decide (e.t<0))||decide (s.now<e.t))||decide (e.why<1))||decide (4<e.why)) = !endOk s e:=by
  intro e;unfold endOk;rw[Bool.eq_iff_iff];simp;omega
 have f2:∀e:End,(((!(U0 e.id 1 999))||(!(U0 e.t 0 s.now)))||(!(U0 e.why 1 4))) = !endOk s e:=by
  intro e;unfold endOk U0
  cases(decide (1<=e.id)&&decide (e.id<=999))<;>cases(decide (0<=e.t)&&decide (e.t<=s.now))<;>cases(decide (1<=e.why)&&decide (e.why<=4))<;>rfl
 rw[Mn (bd:=Zv s) (r:=some false) (p:=λe=>!endOk s e) (λe he i k=>by unfold Zv;rw[f1]),Mn (bd:=Uv s) (r:=some false) (p:=λe=>!endOk s e) (λe he i k=>by unfold Uv;rw[f2]),← List.not_all_eq_any_not]
 unfold WK OL
 cases s.runs.all (runFit s)<;>cases s.ends.all (endOk s)<;>exact⟨rfl,rfl⟩
structure StateP(s:State):Prop where
 topo:TopoP s.topo
 up:s.up.length=s.topo.nodes.length
 lic:Q0 s.lic=true
 now:time s.now=true
 room:∃r,L6 s=some (r,true)/\RoomP r/\r.topo=s.topo/\r.up=s.up
 runs:RunsP s
 depth:0<=s.depth/\s.depth<=60
 queue:queueOk (allJobs s)=true
 ends:s.ends.length<=300
 fit:∀x∈s.runs,runFit s x=true
 fin:∀e∈s.ends,endOk s e=true
theorem Xm{s:State}(h:stateOk s=true):StateP s:=by
 obtain⟨q,h1,h2⟩:=Uk s
 unfold stateOk at h
 rw[h1,Option.getD_some]at h
 simp only[yD,yO,List.all_eq_true]at h
 obtain⟨⟨⟨⟨⟨a1,a2⟩,a3⟩,a4⟩,a5⟩,a6⟩:=h
 obtain⟨b1,b2,b3,b4,b5⟩:=h2 a1
 unfold Zp at b1
 simp only[yD,yO,QC]at b1
 exact⟨b1.1.1.1,b1.1.1.2,b1.1.2,b1.2,⟨q.1,by rw[h1,← a1],b2,b3,b4⟩,b5,a2,a3,a4,a5,a6⟩
structure LeR(r q:Room):Prop where
 topo:q.topo=r.topo
 up:q.up=r.up
 len:q.profs.length=r.profs.length
 prof:∀(i:Nat) (a b:List Pt),r.profs[i]?=some a->q.profs[i]?=some b->leP a b
 lics:leP r.lics q.lics
def leS(v w:List (List Pt)):Prop:=w.length=v.length/\∀(i:Nat) (a b:List Pt),v[i]?=some a->w[i]?=some b->leP a b
theorem leS.refl(v:List (List Pt)):leS v v:=⟨rfl,λi a b h1 h2=>by rw[h1]at h2;cases h2;exact leP.refl a⟩
theorem leS.trans{u v w:List (List Pt)}(h1:leS u v)(h2:leS v w):leS u w:=⟨h2.1.trans h1.1,λi a b ha hb=>by
 have hi:=(yB ha).1
 have hv:v[i]?=some (v[i]'(by rw[h1.1];exact hi)):=yA _
 exact(h1.2 i a _ ha hv).trans (h2.2 i _ b hv hb)⟩
theorem leS.set{v w:List (List Pt)}(h:leS v w){k:Nat}{a b:List Pt}(hab:leP a b):leS (v.set k a) (w.set k b):=⟨by simp[h.1],λi x y hx hy=>by
 rw[List.getElem?_set]at hx hy
 split at hx
 .rename_i e
  rw[yd e]at hy
  split at hx
  .split at hy
   .cases hx;cases hy;exact hab
   .cases hy
  .cases hx
 .rename_i e
  rw[ye e]at hy
  exact h.2 i x y hx hy⟩
theorem leS.set_l{v:List (List Pt)}{k:Nat}{a e:List Pt}(he:v[k]?=some e)(hab:leP a e):leS (v.set k a) v:=⟨by simp,λi x y hx hy=>by
 rw[List.getElem?_set]at hx
 split at hx
 .rename_i q
  subst q
  split at hx
  .cases hx;rw[he]at hy;cases hy;exact hab
  .cases hx
 .rw[hx]at hy;cases hy;exact leP.refl x⟩
section
variable{from_ to_:Int}(h1:time from_=true)(h2:time to_=true)(h3:from_<to_){need:Vec}{N m:Nat}(hm:m<=190)
include h1 h2 h3 hm
def U1m(from_ to_:Int)(need:Vec)(x:Int)(v:List (List Pt))(k:List (List Pt)->Option (Room×Bool)):Option (Room×Bool):=(idx v x).bind λe=>(Q2 e from_ to_ need).bind λy=>bif !y.2 then some Oh else k (v.set x.toNat y.1)
theorem Z1s{kk1 kk2:List (List Pt)->Option (Room×Bool)}:∀(l:List Int) (i j:Nat) (v w:List (List Pt)),v.length=N->(∀n∈l,0<=n/\n<N)->l.Nodup->(∀p∈v,ProfP p)->(∀p∈w,ProfP p)->leS v w ->
  (∀p∈w,p.length<=m+2)->(∀n∈l,∀p,w[n.toNat]?=some p->p.length<=m)->∀q1:Room×Bool,rgl (λx _=>U1m from_ to_ need x) kk1 l i v=some q1->q1.2=true ->
  ∃v' w',kk1 v'=some q1/\rgl (λx _=>U1m from_ to_ need x) kk2 l j w=kk2 w'/\v'.length=N/\(∀p∈v',ProfP p)/\(∀p∈w',ProfP p)/\leS v' w'/\leS v' v/\∀p∈w',p.length<=m+2:=by
 intro l
 induction l with
 |nil=>intro i j v w a1 _ _ a4 a5 a6 a7 _ q1 hq _;exact⟨v,w,hq,rfl,a1,a4,a5,a6,leS.refl v,a7⟩
 |cons x l ih =>
  intro i j v w a1 a2 a3 a4 a5 a6 a7 a8 q1 hq hq2
  obtain⟨x0,x1⟩:=a2 x (yJ ..)
  obtain⟨e,e1,e2⟩:=Mb (l:=v) (i:=x) x0 (by omega)
  obtain⟨f,f1,f2⟩:=Mb (l:=w) (i:=x) x0 (by rw[a6.1];omega)
  have he:=a4 e (yE e2)
  have hf:=a5 f (yE f2)
  rw[rgl,U1m,e1,bS]at hq
  obtain⟨y,y1,_⟩:=(VS e from_ to_ need).2
  rw[y1,bS]at hq
  obtain⟨e',yb⟩:=y
  cases yb with
  |false =>
   simp only[Bool.not_false,yN,yI]at hq
   rw[← hq]at hq2;cases hq2
  |true =>
   simp only[yL,yM]at hq
   have hfl:=a8 x (yJ ..) f f2
   obtain⟨f',g1,g2,g3,g4⟩:=X1b he hf (a6.2 _ _ _ e2 f2) h1 h2 h3 (by omega) y1
   have he':=(U12 he h1 h2 h3 y1).1
   obtain⟨n1,n2⟩:=List.nodup_cons.1 a3
   have key:=ih (i+1) (j+1) (v.set x.toNat e') (w.set x.toNat f') (by simpa using a1) (λn hn=>a2 n (yH _ hn)) n2
    (λp hp=>(List.mem_or_eq_of_mem_set hp).elim (a4 p) λq=>q ▸ he') (λp hp=>(List.mem_or_eq_of_mem_set hp).elim (a5 p) λq=>q ▸ g2) (a6.set g3)
    (λp hp=>(List.mem_or_eq_of_mem_set hp).elim (a7 p) λq=>by subst q;omega) (λn hn p hp=>by
     have hne:x.toNat≠n.toNat:=by
      have:=a2 n (yH _ hn)
      intro q
      have:x=n:=by omega
      exact n1 (this ▸ hn)
     rw[List.getElem?_set_ne hne]at hp
     exact a8 n (yH _ hn) p hp) q1 hq hq2
   obtain⟨v',w',b1,b2,b3,b4,b5,b6,b7,b8⟩:=key
   refine⟨v',w',b1,?_,b3,b4,b5,b6,b7.trans (leS.set_l e2 (O1w he h1 h2 h3 y1)),b8⟩
   rw[rgl,U1m,f1,bS,g1,bS]
   exact b2
theorem Q12{r q:Room}(R:RoomP r)(Q:RoomP q)(hle:LeR r q){lic:Vec}{nodes:List Int}(hn:U4 r.topo nodes=true)(hd:nodes.Nodup)(hl:∀p∈q.profs,p.length<=m)(hll:q.lics.length<=m){r':Room}(h:YG r need lic from_ to_ nodes=some (r',true)) :
  ∃q',YG q need lic from_ to_ nodes=some (q',true)/\LeR r' q'/\LeR r' r/\RoomP r'/\RoomP q'/\(∀p∈q'.profs,p.length<=m+2)/\q'.lics.length<=m+2:=by
 have hn2:=(Q3.1 hn).2
 unfold YG at h
 have key:=Z1s h1 h2 h3 (N:=r.topo.nodes.length) hm (kk2:=λv=>(Q2 q.lics from_ to_ lic).bind λy=>bif !y.2 then some Oh else some (⟨q.topo,q.up,v,y.1⟩,true)) nodes 0 0 r.profs q.profs R.profs hn2 hd R.prof Q.prof ⟨hle.len,hle.prof⟩ (λp hp=>by have:=hl p hp;omega) (λn _ p hp=>hl p (yE hp)) _ h rfl
 obtain⟨v',w',b1,b2,b3,b4,b5,b6,b7,b8⟩:=key
 obtain⟨y,y1,y2⟩:=(VS r.lics from_ to_ lic).2
 rw[y1,bS]at b1
 obtain⟨e',yb⟩:=y
 cases yb with
 |false=>simp[Oh]at b1
 |true =>
  simp only[yL,yM,yI,Prod.mk.injEq,and_true]at b1
  obtain⟨f',g1,g2,g3,g4⟩:=X1b R.lics Q.lics hle.lics h1 h2 h3 (by omega) y1
  refine⟨⟨q.topo,q.up,w',f'⟩,?_,?_,?_,?_,?_,b8,by simp only;omega⟩
  .unfold YG
   refine Eq.trans b2 ?_
   rw[g1,bS]
   rfl
  .rw[← b1]
   exact⟨hle.topo,hle.up,b6.1,b6.2,g3⟩
  .rw[← b1]
   exact⟨rfl,rfl,b7.1,b7.2,O1w R.lics h1 h2 h3 y1⟩
  .rw[← b1]
   exact⟨R.topo,R.up,b3,b4,y2 rfl⟩
  .exact⟨Q.topo,Q.up,by have:=b6.1;have:=hle.topo;simp only[this];omega,b5,g2⟩
end
noncomputable def goR(s:State)(l:List Run)(i:Nat)(v:Room):Option (Room×Bool):=rgl (λx _ v k=>(XH s x v).bind λy=>bif !y.2 then some Oh else k y.1) (λv=>some (v,true)) l i v
theorem LeR.trans{r q p:Room}(a:LeR r q)(b:LeR q p):LeR r p:=⟨b.topo.trans a.topo,b.up.trans a.up,b.len.trans a.len,(leS.trans ⟨a.len,a.prof⟩ ⟨b.len,b.prof⟩).2,a.lics.trans b.lics⟩
theorem Z11{r:Room}(R:RoomP r){j:Job}{nodes:List Int}:diffOk r j nodes=true↔X1 j=true/\(nodes.length:Int)=j.nodes/\U4 r.topo nodes=true/\nodes.Nodup:=by
 unfold diffOk
 rw[Zx.2 R]
 simp only[Bool.true_and,yD,yO,and_assoc]
theorem L1J{s s2:State}(hnow:s2.now=s.now)(keep:Run->Bool):∀(l:List Run) (i j:Nat) (v w:Room) (m:Nat),RoomP v->RoomP w->LeR v w->(∀p∈w.profs,p.length<=m)->w.lics.length<=m->m+2*l.length<=190 ->
  ∀v':Room,goR s l i v=some (v',true)->∃w',goR s2 (l.filter keep) j w=some (w',true)/\LeR v' w'/\RoomP v'/\RoomP w':=by
 intro l
 induction l with
 |nil =>
  intro i j v w m a1 a2 a3 _ _ _ v' h
  simp only[goR,rgl,yI,Prod.mk.injEq,and_true]at h
  subst h
  exact⟨w,rfl,a3,a1,a2⟩
 |cons x l ih =>
  intro i j v w m a1 a2 a3 a4 a5 a6 v' h
  simp only[yT]at a6
  rw[goR,rgl]at h
  unfold XH at h
  cases hc:(diffOk v x.job x.nodes&&O0C s x)with
  |false=>rw[hc]at h;simp[Oh]at h
  |true =>
   rw[hc,yN]at h
   rw[yD]at hc
   obtain⟨hd,hr⟩:=hc
   have hd':=(Z11 a1).1 hd
   have hr2:O0C s2 x=true:=by unfold O0C at hr ⊢;rw[hnow];exact hr
   have hr':=hr
   unfold O0C at hr'
   simp only[yD,yO]at hr'
   obtain⟨⟨⟨r1,r2⟩,r3⟩,r4⟩:=hr'
   have r1:=Ol.1 r1
   have t1:time s.now=true:=Ol.2 (by omega)
   have t2:time (x.t+x.job.wall)=true:=Ol.2 (by omega)
   obtain⟨q,q1,q2⟩:=V00 a1 x.job.need x.job.lic s.now (x.t+x.job.wall) hd'.2.2.1
   rw[q1,bS]at h
   obtain⟨v1,qb⟩:=q
   cases qb with
   |false=>simp[Oh]at h
   |true =>
    simp only[yL,yM]at h
    obtain⟨w1,g1,g2,g3,g4,g5,g6,g7⟩:=Q12 t1 t2 r3 (m:=m) (by omega) a1 a2 a3 hd'.2.2.1 hd'.2.2.2 a4 a5 q1
    cases hk:keep x with
    |true =>
     obtain⟨w',k1,k2,k3,k4⟩:=ih (i+1) (j+1) v1 w1 (m+2) g4 g5 g2 g6 g7 (by omega) v' h
     refine⟨w',?_,k2,k3,k4⟩
     rw[List.filter_cons,hk,yd rfl,goR,rgl]
     have hd2:diffOk w x.job x.nodes=true:=(Z11 a2).2 ⟨hd'.1,hd'.2.1,by rw[a3.topo];exact hd'.2.2.1,hd'.2.2.2⟩
     have hstep:XH s2 x w=some (w1,true):=by
      unfold XH
      rw[hd2,hr2,Bool.and_self,yN,hnow,g1]
     rw[hstep]
     exact k1
    |false =>
     obtain⟨w',k1,k2,k3,k4⟩:=ih (i+1) j v1 w m g4 a2 (g3.trans a3) a4 a5 (by omega) v' h
     refine⟨w',?_,k2,k3,k4⟩
     rw[List.filter_cons,hk]
     exact k1
theorem Q0L(v:Vec):(Z5 v).1.length<=1:=by
 unfold Z5
 cases Q0 v<;>simp
theorem M1c{s s2:State}(keep:Run->Bool)(e1:s2.topo=s.topo)(e2:s2.up=s.up)(e3:s2.lic=s.lic)(e4:s2.now=s.now)(e5:s2.runs=s.runs.filter keep)(hl:s.runs.length<=60){r:Room}(h:L6 s=some (r,true)) :
  ∃q,L6 s2=some (q,true)/\LeR r q/\RoomP r/\RoomP q:=by
 rw[WV]at h ⊢
 have et:Zp s2=Zp s:=by unfold Zp;rw[e1,e2,e3,e4]
 rw[et]
 cases ht:Zp s with
 |false=>rw[ht]at h;simp[Oh]at h
 |true =>
  rw[ht,yN]at h
  unfold Zp at ht
  simp only[yD,yO,QC]at ht
  have hE:=Z0a ht.1.1.1 ht.1.1.2 ht.1.2
  have refl:LeR (Ut s.topo s.up s.lic) (Ut s.topo s.up s.lic):=⟨rfl,rfl,rfl,(leS.refl _).2,leP.refl _⟩
  obtain⟨q,q1,q2,q3,q4⟩:=L1J e4 keep s.runs 0 0 _ _ 1 hE hE refl (λp hp=>by
   obtain⟨x,_,rfl⟩:=yY hp
   exact Q0L _) (Q0L _) (by omega) r h
  refine⟨q,?_,q2,q3,q4⟩
  rw[yN]
  unfold V0d
  rw[e1,e2,e3,e5]
  exact q1
end
section
theorem Mg{t:Topo}{l:List Int}(h:U4 t l=true)(hl:l.length<=1048576)(s:Nat):Xf t l (s:Int)=some (l.filter λn=>hasUp t n s):=by
 unfold Xf
 rw[V6 (bs:=8) (p:=λn=>hasUp t n s) (f:=λn=>n) (λx hx i b k=>by
  unfold VG
  exact V19 h hx s _) (by simp;omega)]
 unfold JU
 simp
def rise(n:Int):List Int->List Int
 |[]=>[n]
 |x::l=>if n<x then n::x::l else x::rise n l
theorem V0n(n:Int):∀l:List Int,(rise n l).length=l.length+1
 |[]=>rfl
 |x::l=>by
  unfold rise
  split
  .rfl
  .simp[V0n n l]
theorem U0d(n m:Int):∀l:List Int,m∈rise n l↔m=n\/m∈l
 |[]=>by simp[rise]
 |x::l=>by
  unfold rise
  split
  .simp
  .simp only[List.mem_cons,U0d n m l]
   constructor<;>rintro(h|h|h)<;>simp[h]
theorem U1M(n x:Int)(i:Nat)(v:Bool×List Int)(k:Bool×List Int->Option (List Int)) :
  Zk n x i v k=bif (!v.1)&&decide (n<x)then(appL 8 v.2 [n]).bind λxs5=>(appL 8 xs5 [x]).bind λxs7=>k (true,xs7)else(appL 8 v.2 [x]).bind λxs7=>k (v.1,xs7):=rfl
theorem Y10{l:List Int}(n:Int)(hl:l.length<=1048576):Qw l n=some (rise n l):=by
 have key:∀(l:List Int) (i:Nat) (acc:List Int),acc.length+l.length<=1048576 ->
   rgl (Zk n) (Zf n) l i (false,acc)=some (acc++rise n l):=by
  have key2:∀(l:List Int) (i:Nat) (acc:List Int),acc.length+l.length<=1048577->rgl (Zk n) (Zf n) l i (true,acc)=some (acc++l):=by
   intro l
   induction l with
   |nil=>intro i acc _;rw[rgl];unfold Zf Yf;simp
   |cons x l ih =>
    intro i acc h
    simp only[yT]at h
    rw[rgl,U1M]
    simp only[yL,Bool.false_and,yM]
    rw[O0 (by simp;omega),bS,ih _ _ (by simp;omega)]
    simp
  intro l
  induction l with
  |nil =>
   intro i acc h
   rw[rgl]
   unfold Zf Yf
   simp only[Bool.not_false,yN]
   simp only[List.length_nil]at h
   rw[O0 (by simp;omega)]
   rfl
  |cons x l ih =>
   intro i acc h
   simp only[yT]at h
   rw[rgl,U1M]
   unfold rise
   by_cases hx:n<x
   .simp only[Bool.not_false,Bool.true_and,hx,decide_true,yN,yb]
    rw[O0 (by simp;omega),bS,O0 (by simp;omega),bS,key2 _ _ _ (by simp;omega)]
    simp
   .simp only[Bool.not_false,Bool.true_and,hx,decide_false,yM,yc]
    rw[O0 (by simp;omega),bS,ih _ _ (by simp;omega)]
    simp
 unfold Qw
 rw[key l 0 [] (by simpa using hl)]
 rfl
def U0f(n:Int)(v ys:List Int):List Int:=ys.foldl (λv x=>if(v.length:Int)<n then rise x v else v) v
theorem V0R(n:Int):∀(ys v:List Int),(v.length:Int)<=n->((U0f n v ys).length:Int)=min n ((v.length:Int)+(ys.length:Int))
 |[],v,h=>by simp only[U0f,List.foldl_nil,List.length_nil];omega
 |y::ys,v,h=>by
  unfold U0f
  rw[List.foldl_cons]
  by_cases hv:(v.length:Int)<n
  .have:=V0R n ys (rise y v) (by rw[V0n];omega)
   unfold U0f at this
   rw[yd hv,this,V0n]
   simp only[yT];omega
  .have:=V0R n ys v h
   unfold U0f at this
   rw[ye hv,this]
   simp only[yT];omega
theorem W1f(n m:Int):∀(ys v:List Int),m∈U0f n v ys->m∈v\/m∈ys
 |[],v,h=>.inl h
 |y::ys,v,h=>by
  unfold U0f at h
  rw[List.foldl_cons]at h
  rcases W1f n m ys _ h with h|h
  .split at h
   .rcases(U0d y m v).1 h with h|h
    .exact .inr (by simp[h])
    .exact .inl h
   .exact .inl h
  .exact .inr (yH _ h)
def Q1G(Q:Nat->Prop)(m:Nat)(v:Int):Prop:=(v<0->∀s,s<m->¬ Q s)/\(0<=v->∃s:Nat,v=(s:Int)/\s<m/\Q s)
def M15(t:Topo)(l taken:List Int)(s:Nat):Prop:=(l.filter λn=>hasUp t n s)≠[]/\kids t.parents (s:Int)=[]/\(s:Int)∉taken
theorem V1t{t:Topo}{l:List Int}(h:U4 t l=true)(hl:l.length<=1048576)(taken:List Int):∃v,Qm t l taken=some v/\Q1G (M15 t l taken) t.parents.length v:=by
 have T:=(Q3.1 h).1
 unfold Qm
 refine X7 (l0:=t.parents) (λi (v:Int)=>Q1G (M15 t l taken) i v) (λo=>∃v,o=some v/\Q1G (M15 t l taken) t.parents.length v) (λi x v k hx hI hk=>?_) (λv hI=>⟨v,rfl,hI⟩) ⟨λ_ s hs=>by omega,λh=>by omega⟩
 have hi:=(yB hx).1
 have skip:¬ M15 t l taken i->Q1G (M15 t l taken) (i+1) v:=λhq=>by
  refine⟨λhv s hs=>?_,λhv=>?_⟩
  .by_cases e:s=i
   .subst e;exact hq
   .exact hI.1 hv s (by omega)
  .obtain⟨s,e,hs,q⟩:=hI.2 hv
   exact⟨s,e,by omega,q⟩
 have take:M15 t l taken i->Q1G (M15 t l taken) (i+1) (i:Int):=λhq=>⟨λhv=>by omega,λ_=>⟨i,rfl,by omega,hq⟩⟩
 unfold Uu
 rw[Mg h hl i,bS]
 by_cases h0:(l.filter λn=>hasUp t n i)=[]
 .simp only[h0,List.length_nil,Int.natCast_zero,beq_self_eq_true,yN,bS,Bool.true_or]
  exact hk v (skip λq=>q.1 h0)
 .have hne:(((l.filter λn=>hasUp t n i).length:Int)==0)=false:=by
   rw[beq_eq_false_iff_ne]
   have:=List.length_pos_iff.2 h0
   omega
  rw[hne,yM,Wm t (i:Int) (by have:=T.tree.le;omega),bS]
  by_cases hkd:kids t.parents (i:Int)=[]
  .simp only[hkd,List.map_nil,List.length_nil,Int.natCast_zero,Int.lt_irrefl,decide_false,Bool.or_self,yM,U7,bS,Bool.false_or]
   cases ht:taken.contains (i:Int)with
   |true =>
    rw[yN]
    exact hk v (skip λq=>q.2.2 (List.contains_iff_mem.1 ht))
   |false =>
    have hq:M15 t l taken i:=⟨h0,hkd,λhm=>by rw[List.contains_iff_mem.2 hm]at ht;cases ht⟩
    rw[yM]
    by_cases hv:v<0
    .simp only[hv,decide_true,yN,bS,Bool.true_or]
     exact hk _ (take hq)
    .obtain⟨s,e,hs,q⟩:=hI.2 (by omega)
     subst e
     rw[show decide ((s:Int)<0)=false by simp,yM,Mg h hl s,bS,Bool.false_or]
     cases decide (((l.filter λn=>hasUp t n s).length:Int)<((l.filter λn=>hasUp t n i).length:Int))with
     |true=>exact hk _ (take hq)
     |false=>exact hk _ ⟨λhv=>by omega,λ_=>⟨s,rfl,by omega,q⟩⟩
  .have hpos:decide (0<(((kids t.parents (i:Int)).map λ(n:Nat)=>(n:Int)).length:Int))=true:=by
    have:=List.length_pos_iff.2 hkd
    simp;omega
   simp only[hpos,Bool.or_true,yN,bS,Bool.true_or]
   exact hk v (skip λq=>hkd q.2.1)
section
variable{α β γ:Type}
theorem U0n{bd:α->Nat->β->(β->Option γ)->Option γ}{kk:β->Option γ}{l0:List α}{f:β->Nat->β}(I:Nat->β->Prop)(hI:∀j b,j<l0.length->I j b->I (j+1) (f b j))
  (h:∀j x b k,l0[j]?=some x->I j b->bd x j b k=k (f b j)) {b:β} (h0:I 0 b):rgl bd kk l0 0 b=kk ((List.range l0.length).foldl f b)/\I l0.length ((List.range l0.length).foldl f b):=by
 have key:∀(m i:Nat) (b:β),l0.length-i=m->i<=l0.length->I i b->rgl bd kk (l0.drop i) i b=kk ((List.range' i m).foldl f b)/\I l0.length ((List.range' i m).foldl f b):=by
  intro m
  induction m with
  |zero =>
   intro i b hm hi hb
   have:i=l0.length:=by omega
   subst this
   rw[List.drop_length]
   exact⟨rfl,hb⟩
  |succ m ih =>
   intro i b hm hi hb
   have h1:i<l0.length:=by omega
   rw[List.drop_eq_getElem_cons h1,rgl,h i _ b _ (yA h1) hb,List.range'_succ,List.foldl_cons]
   exact ih (i+1) _ (by omega) h1 (hI i b h1 hb)
 have:=key l0.length 0 b (by simp) (Nat.zero_le _) h0
 rwa [List.drop_zero,← List.range_eq_range']at this
end
def cntU(t:Topo)(l:List Int)(s:Nat):Nat:=(l.filter λn=>hasUp t n s).length
def inR(i:Nat)(v:Int):Prop:=-1<=v/\v<(i:Int)
def Ym(t:Topo)(l:List Int)(n level v:Int)(s:Nat):Int :=
 if(cntU t l s:Int)<n\/level<lev t s then v
 else if v<0\/lev t s<lev t v.toNat\/(lev t s=lev t v.toNat/\(cntU t l s:Int)<cntU t l v.toNat)then(s:Int)else v
def swF(t:Topo)(l:List Int)(n level:Int):Int:=(List.range t.parents.length).foldl (Ym t l n level) (-1)
theorem X0z{t:Topo}{l:List Int}(h:U4 t l=true)(hl:l.length<=1048576)(n level:Int):Xs t l n level=some (swF t l n level)/\inR t.parents.length (swF t l n level):=by
 have T:=(Q3.1 h).1
 unfold Xs swF
 refine(U0n (f:=Ym t l n level) inR (λj v hj hv=>?_) (λj x v k hx hv=>?_) ⟨by omega,by omega⟩).imp (λe=>e) λe=>e
 .obtain⟨v1,v2⟩:=hv
  unfold Ym inR
  split
  .omega
  .split<;>omega
 .have hj:=(yB hx).1
  obtain⟨v1,v2⟩:=hv
  unfold Oy Ym
  rw[Mg h hl j,bS,Yg T hj,bS]
  rw[show(l.filter λn=>hasUp t n j).length=cntU t l j from rfl]
  by_cases h1:(cntU t l j:Int)<n\/level<lev t j
  .rw[yd h1,show(decide ((cntU t l j:Int)<n)||decide (level<lev t j))=true by simpa using h1,yN]
  .rw[ye h1,show(decide ((cntU t l j:Int)<n)||decide (level<lev t j))=false by
    rw[Bool.eq_false_iff];intro q;exact h1 (by simpa using q),yM]
   by_cases hv0:v<0
   .rw[yd (.inl hv0),show decide (v<0)=true by simpa using hv0]
    rfl
   .obtain⟨m,rfl⟩:∃m:Nat,v=(m:Int):=⟨v.toNat,by omega⟩
    have hm:m<t.parents.length:=by omega
    rw[show decide ((m:Int)<0)=false by simp]
    simp only[yM,Bool.false_or]
    rw[Yg T hm,bS,yZ]
    by_cases h2:lev t j<lev t m
    .rw[yd (.inr (.inl h2)),show decide (lev t j<lev t m)=true by simpa using h2]
     rfl
    .rw[show decide (lev t j<lev t m)=false by simpa using h2,yM,bS,yM]
     by_cases h3:lev t j=lev t m
     .rw[show(lev t j==lev t m)=true by simpa using h3,yN,Mg h hl m,bS]
      rw[show(l.filter λn=>hasUp t n m).length=cntU t l m from rfl]
      by_cases h4:(cntU t l j:Int)<cntU t l m
      .rw[yd (.inr (.inr ⟨h3,h4⟩)),show decide ((cntU t l j:Int)<(cntU t l m:Int))=true by simpa using h4]
       rfl
      .rw[ye (by omega),show decide ((cntU t l j:Int)<(cntU t l m:Int))=false by simpa using h4]
       rfl
     .rw[show(lev t j==lev t m)=false by simpa using h3,yM,bS,ye (by omega)]
      rfl
def XN(t:Topo)(l taken:List Int)(v:Int)(s:Nat):Int :=
 if cntU t l s=0\/kids t.parents (s:Int)≠[]\/(s:Int)∈taken then v
 else if v<0\/cntU t l v.toNat<cntU t l s then(s:Int)else v
def Q0M(t:Topo)(l taken:List Int):Int:=(List.range t.parents.length).foldl (XN t l taken) (-1)
theorem Q1p{t:Topo}{l:List Int}(h:U4 t l=true)(hl:l.length<=1048576)(taken:List Int):Qm t l taken=some (Q0M t l taken)/\inR t.parents.length (Q0M t l taken):=by
 have T:=(Q3.1 h).1
 unfold Qm Q0M
 refine(U0n (f:=XN t l taken) inR (λj v hj hv=>?_) (λj x v k hx hv=>?_) ⟨by omega,by omega⟩).imp (λe=>e) λe=>e
 .obtain⟨v1,v2⟩:=hv
  unfold XN inR
  split
  .omega
  .split<;>omega
 .have hj:=(yB hx).1
  obtain⟨v1,v2⟩:=hv
  unfold Uu XN
  rw[Mg h hl j,bS]
  rw[show(l.filter λn=>hasUp t n j).length=cntU t l j from rfl]
  by_cases h0:cntU t l j=0
  .rw[yd (.inl h0),show((cntU t l j:Int)==0)=true by simpa using h0]
   rfl
  .rw[show((cntU t l j:Int)==0)=false by simpa using h0,yM,Wm t (j:Int) (by have:=T.tree.le;omega),bS]
   by_cases hk:kids t.parents (j:Int)=[]
   .simp only[hk,List.map_nil,List.length_nil,Int.natCast_zero,Int.lt_irrefl,decide_false,Bool.or_self,yM,U7,bS,Bool.false_or]
    by_cases ht:(j:Int)∈taken
    .rw[yd (.inr (.inr ht)),List.contains_iff_mem.2 ht,yN]
    .rw[ye (by rintro(q|q|q);exact h0 q;exact q rfl;exact ht q),show taken.contains (j:Int)=false by
      rw[Bool.eq_false_iff];exact λq=>ht (List.contains_iff_mem.1 q),yM]
     by_cases hv0:v<0
     .rw[yd (.inl hv0),show decide (v<0)=true by simpa using hv0]
      rfl
     .obtain⟨m,rfl⟩:∃m:Nat,v=(m:Int):=⟨v.toNat,by omega⟩
      rw[show decide ((m:Int)<0)=false by simp,yM,Mg h hl m,bS,Bool.false_or,yZ]
      rw[show(l.filter λn=>hasUp t n m).length=cntU t l m from rfl]
      by_cases h4:cntU t l m<cntU t l j
      .rw[yd (.inr h4),show decide ((cntU t l m:Int)<(cntU t l j:Int))=true by simpa using h4,yN]
      .rw[ye (by omega),show decide ((cntU t l m:Int)<(cntU t l j:Int))=false by simpa using h4,yM]
   .have hpos:decide (0<(((kids t.parents (j:Int)).map λ(n:Nat)=>(n:Int)).length:Int))=true:=by
     have:=List.length_pos_iff.2 hk
     simp;omega
    rw[yd (.inr (.inl hk))]
    simp only[hpos,Bool.or_true,yN,bS,Bool.true_or]
end
def lfOf(t:Topo)(x:Int):Nat:=match idx t.nodes x with
 |some e=>e.leaf.toNat
 |none=>0
theorem U1p{t:Topo}{l:List Int}(h:U4 t l=true){x:Int}(hx:x∈l):hasUp t x (lfOf t x)=true/\lfOf t x<t.parents.length/\kids t.parents (lfOf t x:Int)=[]:=by
 obtain⟨h1,h2⟩:=Q3.1 h
 obtain⟨e,q1,q2⟩:=Mb (l:=t.nodes) (i:=x) (h2 x hx).1 (h2 x hx).2
 obtain⟨a1,a2,a3,_⟩:=h1.node e (yE q2)
 have e1:lfOf t x=e.leaf.toNat:=by unfold lfOf;rw[q1]
 have e2:(lfOf t x:Int)=e.leaf:=by omega
 refine⟨?_,by omega,by rw[e2];exact a3⟩
 unfold hasUp
 rw[q1,e1]
 simp only[List.contains_iff_mem]
 exact List.mem_map.2 ⟨_,L0m _ _,rfl⟩
theorem Q1f{α:Type}{r p q:α->Bool}:∀{l:List α},(∀x∈l,r x=true->p x=true\/q x=true)->(l.filter r).length<=(l.filter p).length+(l.filter q).length
 |[],_=>Nat.zero_le _
 |x::l,h=>by
  have ih:=Q1f λy hy=>h y (yH _ hy)
  have hx:=h x (yJ ..)
  cases hr:r x with
  |false=>cases hp:p x<;>cases hq:q x<;>simp[hr,hp,hq]<;>omega
  |true =>
   rcases hx hr with hp|hq
   .cases hq:q x<;>simp[hr,hp,hq]<;>omega
   .cases hp:p x<;>simp[hr,hp,hq]<;>omega
def cntT(t:Topo)(l taken:List Int):Nat:=(l.filter λx=>taken.contains (lfOf t x:Int)).length
theorem M1I{t:Topo}{l:List Int}(h:U4 t l=true)(hl:l.length<=1048576){taken:List Int}(hc:cntT t l taken<l.length):∃m:Nat,Q0M t l taken=(m:Int)/\m<t.parents.length/\(m:Int)∉taken:=by
 obtain⟨v,h1,h2,h3⟩:=V1t h hl taken
 have e:=(Q1p h hl taken).1
 rw[h1]at e
 have e:v=Q0M t l taken:=Option.some.inj e
 subst e
 have:∃x∈l,(lfOf t x:Int)∉taken:=by
  by_cases hx:∃x∈l,(lfOf t x:Int)∉taken
  .exact hx
  .have:l.filter (λx=>taken.contains (lfOf t x:Int))=l:=List.filter_eq_self.2 λx hxl=>by
    rw[List.contains_iff_mem]
    by_cases hm:(lfOf t x:Int)∈taken
    .exact hm
    .exact absurd ⟨x,hxl,hm⟩ hx
   unfold cntT at hc
   rw[this]at hc
   omega
 obtain⟨x,hx,hm⟩:=this
 obtain⟨q1,q2,q3⟩:=U1p h hx
 have hne:(l.filter λn=>hasUp t n (lfOf t x))≠[]:=λq=>by
  have:x∈l.filter λn=>hasUp t n (lfOf t x):=List.mem_filter.2 ⟨hx,q1⟩
  rw[q]at this
  cases this
 have hQ:M15 t l taken (lfOf t x):=⟨hne,q3,hm⟩
 have hv:0<=Q0M t l taken:=by
  by_cases hv:Q0M t l taken<0
  .exact absurd hQ (h2 hv _ q2)
  .omega
 obtain⟨m,e,hm,q⟩:=h3 hv
 exact⟨m,e,hm,q.2.2⟩
theorem L19{n:Int}{k11:(List Int×List Int)->Option (List Int×Bool)}{xs:List Int}:∀(ys:List Int) (i:Nat) (v:List Int),v.length+ys.length<=1048576->rgl (UA n) (JP k11 xs) ys i v=k11 (U0f n v ys,xs)
 |[],_,_,_=>rfl
 |y::ys,i,v,h=>by
  simp only[yT]at h
  have e:U0f n v (y::ys)=U0f n (if(v.length:Int)<n then rise y v else v) ys:=rfl
  rw[rgl,e]
  unfold UA
  by_cases hv:(v.length:Int)<n
  .rw[show decide ((v.length:Int)<n)=true by simpa using hv,yN,Y10 y (by omega),bS,yd hv]
   exact L19 ys _ _ (by rw[V0n];omega)
  .rw[show decide ((v.length:Int)<n)=false by simpa using hv,yM,ye hv]
   exact L19 ys _ _ (by omega)
def chL(t:Topo)(l:List Int)(n:Int):Nat->List Int->List Int->List Int
 |0,out,_=>out
 |k+1,out,taken=>if(out.length:Int)<n then chL t l n k (U0f n out (l.filter λx=>hasUp t x (Q0M t l taken).toNat)) (taken++[Q0M t l taken])else out
theorem Y1v{t:Topo}{l:List Int}{n:Int}(h:U4 t l=true)(hl:l.length<=24)(h0:1<=n)(hn:n<=l.length) :
    whl (Wn t n l) 9223372036854775807 ([],[])=some (chL t l n (t.parents.length+1) [] [],true)/\((chL t l n (t.parents.length+1) [] []).length:Int)=n/\∀m∈chL t l n (t.parents.length+1) [] [],m∈l:=by
  have T:=(Q3.1 h).1
  have hP:=T.tree.le
  have:=QO (bd:=Wn t n l) (λb o=>o=some (chL t l n (t.parents.length+1-b.2.length) b.1 b.2,true)/\((chL t l n (t.parents.length+1-b.2.length) b.1 b.2).length:Int)=n/\∀m∈chL t l n (t.parents.length+1-b.2.length) b.1 b.2,m∈l)
    (λb=>t.parents.length-b.2.length) (λb=>(b.1.length:Int)<=n/\(∀m∈b.1,m∈l)/\b.2.Nodup/\(∀s∈b.2,s∈(List.range t.parents.length).map λ(i:Nat)=>(i:Int))/\((b.1.length:Int)<n->cntT t l b.2<=b.1.length)) ?_ 9223372036854775807 ([],[])
    ⟨by simp;omega,by simp,List.nodup_nil,by simp,λ_=>by simp[cntT]⟩ (by simp;omega)
  · simpa using this
  rintro⟨out,taken⟩ k ⟨i1,i2,i3,i4,i5⟩ hk
  simp only at i1 i2 i3 i4 i5 hk ⊢
  have hlen:taken.length<=t.parents.length:=by simpa using i3.length_le_of_subset i4
  unfold Wn
  simp only
  rw[show t.parents.length+1-taken.length=(t.parents.length-taken.length)+1 by omega,chL]
  by_cases ho:(out.length:Int)<n
  · obtain⟨m,e,hm,hmt⟩:=M1I h (by omega) (taken:=taken) (by have:=i5 ho;omega)
    rw[show decide ((out.length:Int)<n)=true by simpa using ho,yN,(Q1p h (by omega) taken).1,bS,yd ho]
    rw[e,yZ]
    rw[O0 (by simp;omega),bS,Mg h (by omega) m,bS]
    have hfl:(l.filter λx=>hasUp t x m).length<=l.length:=List.length_filter_le ..
    rw[L19 _ _ _ (by omega)]
    have hnd:(taken++[(m:Int)]).Nodup:=by
      rw[List.nodup_append]
      exact⟨i3,by simp,λa ha b hb q=>by simp at hb;subst hb;subst q;exact hmt ha⟩
    have hsub:∀s∈taken++[(m:Int)],s∈(List.range t.parents.length).map λ(i:Nat)=>(i:Int):=λs hs=>by
      rcases List.mem_append.1 hs with hs|hs
      · exact i4 s hs
      · simp at hs;subst hs
        exact List.mem_map.2 ⟨m,List.mem_range.2 hm,rfl⟩
    have hlen2:taken.length+1<=t.parents.length:=by simpa using hnd.length_le_of_subset hsub
    have hfn:=V0R n (l.filter λx=>hasUp t x m) out i1
    have:=hk (U0f n out (l.filter λx=>hasUp t x m),taken++[(m:Int)]) ⟨by simp only;omega,λy hy=>?_,hnd,hsub,λhlt=>?_⟩ (by simp;omega)
    · simp only[yU,yT,List.length_nil]at this
      rw[show t.parents.length+1-(taken.length+(0+1))=t.parents.length-taken.length by omega]at this
      exact this
    · rcases W1f n y _ _ hy with hy|hy
      · exact i2 y hy
      · exact(List.mem_filter.1 hy).1
    · simp only at hlt ⊢
      have c1:=i5 ho
      have c2:cntT t l (taken++[(m:Int)])<=cntT t l taken+(l.filter λx=>hasUp t x m).length:=Q1f λx hx hr=>by
        rw[List.contains_iff_mem]at hr
        rcases List.mem_append.1 hr with hr|hr
        · exact .inl (List.contains_iff_mem.2 hr)
        · have hr:(lfOf t x:Int)=(m:Int):=by simpa using hr
          have hr:lfOf t x=m:=by omega
          exact .inr (hr ▸ (U1p h hx).1)
      omega
  · rw[show decide ((out.length:Int)<n)=false by simpa using ho,yM,ye ho]
    exact⟨rfl,by omega,i2⟩
theorem V1n{α γ:Type}{bd:α->Nat->Unit->(Unit->Option γ)->Option γ}{kk:Unit->Option γ}{p:α->Nat->Bool}{r:Option γ}:∀{l:List α} {i:Nat},(∀j x k,l[j]?=some x->bd x (i+j) () k=bif p x (i+j)then r else k ())->rgl bd kk l i ()=bif (l.zipIdx i).any (λq=>p q.1 q.2)then r else kk ()
 |[],_,_=>rfl
 |x::l,i,h=>by
  have h0:=h 0 x (λb'=>rgl bd kk l (i+1) b') rfl
  rw[Nat.add_zero]at h0
  rw[rgl,h0,List.zipIdx_cons,List.any_cons]
  cases p x i with
  |true=>rfl
  |false =>
   rw[yM,Bool.false_or]
   exact V1n λj y k hy=>by
    have:=h (j+1) y k (by simpa using hy)
    rwa [show i+(j+1)=i+1+j by omega]at this
theorem QZ{α β:Type}(P:β->Prop){f:β->α->β}(h:∀b x,P b->P (f b x)):∀(l:List α) (b:β),P b->P (l.foldl f b)
 |[],_,hb=>hb
 |x::l,b,hb=>QZ P h l _ (h b x hb)
theorem J1w{t:Topo}{l:List Int}{n level:Int}(h:0<=swF t l n level):n<=cntU t l (swF t l n level).toNat/\lev t (swF t l n level).toNat<=level:=by
 have:=QZ (λv:Int=>v<0\/(n<=cntU t l v.toNat/\lev t v.toNat<=level)) (f:=Ym t l n level) (λv s hv=>by
  unfold Ym
  split
  .exact hv
  .rename_i h1
   split
   .exact .inr (by rw[yZ];omega)
   .exact hv) (List.range t.parents.length) (-1) (.inl (by omega))
 rcases this with q|q
 .exact absurd q (by unfold swF at h;omega)
 .exact q
def J1s(l:List Int)(i:Nat):Int:=if 0<i then(l[i-1]?).getD default else default
theorem J1y{l:List Int}{i:Nat}(hi:i<l.length)(hl:l.length<=1048576):(bif decide (0<(i:Int))then idx l (w64 ((i:Int)-1))else some default)=some (J1s l i):=by
 unfold J1s
 by_cases h:0<i
 .have e:w64 ((i:Int)-1)=((i-1:Nat):Int):=by rw[Q5 (by omega)];omega
  rw[show decide (0<(i:Int))=true by simpa using h,yN,e,Y7,yd h,yA (by omega)]
  rfl
 .rw[show decide (0<(i:Int))=false by simpa using h,yM,ye h]
def L1k(l:List Int):Bool:=(l.zipIdx 0).any λq=>decide (0<(q.2:Int))&&decide (q.1<=J1s l q.2)
def Z0M(t:Topo)(l:List Int)(n level:Int):List Int:=l.filter λx=>hasUp t x (swF t l n level).toNat
noncomputable def YS(t:Topo)(l:List Int)(n level:Int):List Int×Bool :=
 if U4 t l=true/\1<=n/\L1k l=false/\0<=swF t l n level then(chL t (Z0M t l n level) n (t.parents.length+1) [] [],true)else([],false)
theorem W0T{t:Topo}{l:List Int}(hl:l.length<=24)(n level:Int):XQ t l n level=some (YS t l n level)/\((YS t l n level).2=true->((YS t l n level).1.length:Int)=n/\∀m∈(YS t l n level).1,m∈l):=by
 unfold XQ YS
 rw[Mu,bS]
 by_cases hno:U4 t l=true
 .by_cases hn:1<=n
  .rw[hno,show decide (n<1)=false by simp;omega,yL,Bool.or_self,yM]
   rw[V1n (r:=some ([],false)) (p:=λx i=>decide (0<(i:Int))&&decide (x<=J1s l i)) (λj x k hx=>by
    have hj:=(yB hx).1
    rw[Nat.zero_add]
    unfold YQ
    rw[J1y hj (by omega),bS])]
   rw[show((l.zipIdx 0).any λq=>decide (0<(q.2:Int))&&decide (q.1<=J1s l q.2))=L1k l from rfl]
   cases hf:L1k l with
   |true =>
    rw[ye (by rintro⟨_,_,q,_⟩;cases q)]
    exact⟨rfl,λq=>by cases q⟩
   |false =>
    rw[yM]
    unfold ZQ
    obtain⟨s1,s2⟩:=X0z hno (by omega) n level
    rw[s1,bS]
    by_cases hs:0<=swF t l n level
    .rw[yd ⟨rfl,hn,rfl,hs⟩,show decide (swF t l n level<0)=false by simp;omega,yM]
     obtain⟨m,e⟩:∃m:Nat,swF t l n level=(m:Int):=⟨(swF t l n level).toNat,by omega⟩
     have e2:Xf t l (swF t l n level)=some (Z0M t l n level):=by
      unfold Z0M
      rw[e,yZ,Mg hno (by omega) m]
     rw[e2,bS]
     have hle:(Z0M t l n level).length<=l.length:=List.length_filter_le ..
     have hmine:U4 t (Z0M t l n level)=true:=Q3.2 ⟨(Q3.1 hno).1,λx hx=>(Q3.1 hno).2 x (List.mem_filter.1 hx).1⟩
     obtain⟨c1,c2,c3⟩:=Y1v (n:=n) hmine (by omega) hn (J1w hs).1
     rw[c1]
     exact⟨rfl,λ_=>⟨c2,λx hx=>(List.mem_filter.1 (c3 x hx)).1⟩⟩
    .rw[ye λq=>hs q.2.2.2,show decide (swF t l n level<0)=true by simp;omega,yN]
     exact⟨rfl,λq=>by cases q⟩
  .rw[ye λq=>hn q.2.1,show(!U4 t l||decide (n<1))=true by
    rw[show decide (n<1)=true by simp;omega,Bool.or_true],yN]
   exact⟨rfl,λq=>by cases q⟩
 .rw[ye λq=>hno q.1,show U4 t l=false by simpa using hno,Bool.not_false,Bool.true_or,yN]
  exact⟨rfl,λq=>by cases q⟩
def Qx(fr:Int)(v:List Int)(x:Pt):List Int:=bif decide (fr<x.t)&&!v.contains x.t then rise x.t v else v
theorem J1r(fr:Int)(v:List Int)(x:Pt):(Qx fr v x).length<=v.length+1:=by
 unfold Qx
 cases(decide (fr<x.t)&&!v.contains x.t)with
 |true=>rw[yN,V0n];exact yV _
 |false=>rw[yM];omega
theorem U1w{fr:Int}{k:List Int->Option (List Int)}:∀(p:List Pt) (i:Nat) (v:List Int),v.length+p.length<=1048576->rgl (Up fr) (YD k) p i v=k (p.foldl (Qx fr) v)/\(p.foldl (Qx fr) v).length<=v.length+p.length
 |[],_,_,_=>⟨rfl,by simp⟩
 |x::p,i,v,h=>by
  simp only[yT]at h
  have hs:=J1r fr v x
  obtain⟨q1,q2⟩:=U1w (fr:=fr) (k:=k) p (i+1) (Qx fr v x) (by omega)
  refine⟨?_,by simp only[List.foldl_cons,yT];omega⟩
  rw[rgl,List.foldl_cons]
  unfold Up
  rw[← q1]
  unfold Qx
  by_cases hx:fr<x.t
  .rw[show decide (fr<x.t)=true by simpa using hx,yN,U7,bS,Bool.true_and]
   cases v.contains x.t with
   |true=>rfl
   |false =>
    simp only[Bool.not_false,yN]
    rw[Y10 _ (by omega),bS]
    rfl
  .rw[show decide (fr<x.t)=false by simpa using hx,yM,bS,Bool.false_and,yM]
   rfl
def timesF(fr:Int)(ps:List (List Pt))(v:List Int):List Int:=ps.foldl (λv p=>p.foldl (Qx fr) v) v
theorem V1w{fr:Int}:∀(ps:List (List Pt)) (i:Nat) (v:List Int),(∀p∈ps,p.length<=200)->v.length+200*ps.length<=1048576->rgl (Vp fr) ZD ps i v=some (timesF fr ps v)/\(timesF fr ps v).length<=v.length+200*ps.length
 |[],_,_,_,_=>⟨rfl,by simp[timesF]⟩
 |p::ps,i,v,hp,h=>by
  simp only[yT]at h
  have h1:=hp p (yJ ..)
  obtain⟨_,b2⟩:=U1w (fr:=fr) (k:=λ_=>none) p 0 v (by omega)
  obtain⟨q1,q2⟩:=V1w (fr:=fr) ps (i+1) (p.foldl (Qx fr) v) (λq hq=>hp q (yH _ hq)) (by omega)
  have e:timesF fr (p::ps) v=timesF fr ps (p.foldl (Qx fr) v):=rfl
  refine⟨?_,by rw[e];simp only[yT];omega⟩
  rw[rgl,e,← q1]
  unfold Vp
  exact(U1w p 0 v (by omega)).1
theorem L1j{r:Room}(h:RoomP r)(fr:Int):Wy r fr=some (timesF fr (r.profs++[r.lics]) [fr]):=by
 have h1:=h.topo.nodes
 have h2:=h.profs
 unfold Wy
 rw[O0 (by simp;omega),bS,List.nil_append,O0 (by simp;omega),bS]
 rw[show lenQ (r.profs++[r.lics])=some () by unfold lenQ;rw[yd (by simp;omega)],bS]
 refine(V1w _ 0 _ (λp hp=>?_) (by simp;omega)).1
 rcases List.mem_append.1 hp with hp|hp
 .exact(h.prof p hp).le
 .simp at hp;subst hp;exact h.lics.le
def spanOk(fr to_:Int):Bool:=time fr&&time to_&&decide (fr<to_)
def LN(r:Room)(need:Vec)(fr to_:Int)(v:List Int)(i:Nat):List Int :=
 bif (r.up[i]?).getD false&&J0 need (minV ((r.profs[i]?).getD []) fr to_)then v++[(i:Int)]else v
def M0p(r:Room)(need:Vec)(fr to_:Int):List Int:=bif spanOk fr to_ then(List.range r.profs.length).foldl (LN r need fr to_) []else[]
theorem XE{fr to_:Int}:spanOk fr to_=true↔time fr=true/\time to_=true/\fr<to_:=by simp[spanOk,and_assoc]
theorem ZL{r:Room}(R:RoomP r)(need:Vec)(fr to_:Int):VA r need fr to_=some (M0p r need fr to_)/\(M0p r need fr to_).length<=24:=by
 have h24:=R.topo.nodes
 have hpl:=R.profs
 unfold VA M0p
 rw[MG,bS,Zx.2 R,yL,yM]
 cases hs:spanOk fr to_ with
 |true =>
  obtain⟨q2,q3,q4⟩:=XE.1 hs
  rw[yN]
  refine(U0n (b:=([]:List Int)) (f:=LN r need fr to_) (λi (v:List Int)=>v.length<=i) (λj v hj hv=>?_) (λj x v k hx hv=>?_) (yV 0)).imp (λe=>e) λe=>by omega
  .unfold LN
   cases(r.up[j]?).getD false&&J0 need (minV ((r.profs[j]?).getD []) fr to_)with
   |true=>rw[yN];simp;omega
   |false=>rw[yM];omega
  .have hj:=(yB hx).1
   obtain⟨u,hu⟩:∃u,r.up[j]?=some u:=⟨_,yA (by rw[R.up,← R.profs];exact hj)⟩
   unfold Xq LN
   rw[Xn,bS,yd ⟨Uq.2 (R.prof _ (yE hx)),q2,q3,q4⟩,Y7,hu,hx]
   simp only[yN,bS,Option.getD_some,Bool.true_and]
   cases(u&&J0 need (minV x fr to_))with
   |true=>rw[yN,yN,O0 (by simp;omega),bS]
   |false=>rfl
 |false =>
  have hn:¬ (time fr=true/\time to_=true/\fr<to_):=λq=>by rw[XE.2 q]at hs;cases hs
  rw[yM]
  refine⟨?_,by simp⟩
  refine X7 (l0:=r.profs) (λi (v:List Int)=>v=[]) (λo=>o=some []) (λi x v k hx hI hk=>?_) (λv hI=>by rw[hI];rfl) rfl
  subst hI
  unfold Xq
  rw[Xn,bS,ye λq=>hn q.2]
  exact hk _ rfl
noncomputable def canM(r:Room)(j:Job)(t:Int):List Int×Bool :=
 bif spanOk t (t+j.wall)&&J0 j.lic (minV r.lics t (t+j.wall))then YS r.topo (M0p r j.need t (t+j.wall)) j.nodes j.level else([],false)
theorem M1B{r:Room}(R:RoomP r){j:Job}(hj:X1 j=true){t:Int}(ht:time t=true):JO r j t=some (canM r j t):=by
 have hw:=(Zo.1 hj).2.2.2.2.2.1
 have ht':=Ol.1 ht
 unfold JO canM
 rw[Q5 (by omega),Xn,bS]
 by_cases hs:spanOk t (t+j.wall)=true
 .obtain⟨q2,q3,q4⟩:=XE.1 hs
  rw[yd ⟨Uq.2 R.lics,q2,q3,q4⟩,hs,Bool.true_and]
  simp only[yL,Bool.false_or]
  cases J0 j.lic (minV r.lics t (t+j.wall))with
  |false=>rfl
  |true =>
   obtain⟨e1,e2⟩:=ZL R j.need t (t+j.wall)
   rw[yL,yM,yN,e1,bS,(W0T e2 j.nodes j.level).1]
   rfl
 .rw[ye λq=>hs (XE.2 q.2),show spanOk t (t+j.wall)=false by simpa using hs]
  rfl
theorem L1L(fr m:Int):∀(p:List Pt) (v:List Int),m∈p.foldl (Qx fr) v->m∈v\/∃x∈p,m=x.t
 |[],_,h=>.inl h
 |x::p,v,h=>by
  rw[List.foldl_cons]at h
  rcases L1L fr m p _ h with h|⟨y,hy,e⟩
  .unfold Qx at h
   cases hc:(decide (fr<x.t)&&!v.contains x.t)with
   |false=>rw[hc,yM]at h;exact .inl h
   |true =>
    rw[hc,yN]at h
    rcases(U0d x.t m v).1 h with h|h
    .exact .inr ⟨x,yJ ..,h⟩
    .exact .inl h
  .exact .inr ⟨y,yH _ hy,e⟩
theorem J0s(fr m:Int):∀(ps:List (List Pt)) (v:List Int),m∈timesF fr ps v->m∈v\/∃p∈ps,∃x∈p,m=x.t
 |[],_,h=>.inl h
 |p::ps,v,h=>by
  have e:timesF fr (p::ps) v=timesF fr ps (p.foldl (Qx fr) v):=rfl
  rw[e]at h
  rcases J0s fr m ps _ h with h|⟨q,hq,x,hx,e⟩
  .rcases L1L fr m p v h with h|⟨x,hx,e⟩
   .exact .inl h
   .exact .inr ⟨p,yJ ..,x,hx,e⟩
  .exact .inr ⟨q,yH _ hq,x,hx,e⟩
theorem Z1y{fr n:Int}(h:fr<n):∀(v:List Int),v.head?=some fr->(rise n v).head?=some fr
 |[],h0=>by cases h0
 |x::v,h0=>by
  have:x=fr:=by simpa using h0
  subst this
  unfold rise
  rw[ye (by omega)]
  rfl
theorem Y1i(fr:Int)(ps:List (List Pt)){v:List Int}(h:v.head?=some fr):(timesF fr ps v).head?=some fr :=
 QZ (λv:List Int=>v.head?=some fr) (λv p hv=>QZ (λv:List Int=>v.head?=some fr) (λv x hv=>by
  unfold Qx
  cases hc:(decide (fr<x.t)&&!v.contains x.t)with
  |false=>exact hv
  |true =>
   simp only[yD,yO]at hc
   exact Z1y hc.1 v hv) p v hv) ps v h
theorem X1n{α γ:Type}{bd:α->Nat->Unit->(Unit->Option γ)->Option γ}{kk:Unit->Option γ}{p:α->Bool}{g:α->γ}:∀{l:List α} {i:Nat},(∀x∈l,∀i k,bd x i () k=bif p x then some (g x)else k ())->rgl bd kk l i ()=match l.find? p with
  |some x=>some (g x)
  |none=>kk ()
 |[],_,_=>rfl
 |x::l,i,h=>by
  rw[rgl,h x (yJ ..),List.find?_cons]
  cases p x with
  |true=>rfl
  |false=>exact X1n λy hy=>h y (yH _ hy)
noncomputable def J1k(r:Room)(j:Job)(fr:Int):Int×List Int×Bool :=
 match(timesF fr (r.profs++[r.lics]) [fr]).find? (λt=>(canM r j t).2)with
 |some t=>(t,(canM r j t).1,true)
 |none=>(0,[],false)
theorem Wk(r:Room)(j:Job)(fr:Int):Qg r j fr=some (bif roomOk r&&X1 j&&time fr then J1k r j fr else(0,[],false)):=by
 unfold Qg
 rw[MG,bS,Xi]
 cases hr:roomOk r with
 |false=>rfl
 |true=>cases hj:X1 j with
  |false=>rfl
  |true=>cases ht:time fr with
   |false=>rfl
   |true =>
    have R:=Zx.1 hr
    simp only[yL,Bool.or_self,yM,Bool.and_self,yN]
    rw[L1j R,bS]
    have hall:∀t∈timesF fr (r.profs++[r.lics]) [fr],time t=true:=λt h=>by
     rcases J0s fr t _ _ h with h|⟨p,hp,x,hx,rfl⟩
     .rw[List.mem_singleton.1 h];exact ht
     .rcases List.mem_append.1 hp with hp|hp
      .exact((R.prof p hp).ok x hx).1
      .rw[List.mem_singleton.1 hp]at hx;exact(R.lics.ok x hx).1
    rw[X1n (p:=λt=>(canM r j t).2) (g:=λt=>(t,(canM r j t).1,true)) (λt h i k=>by
     unfold YE
     rw[M1B R hj (hall t h),bS])]
    unfold J1k ZE
    cases(timesF fr (r.profs++[r.lics]) [fr]).find? (λt=>(canM r j t).2)<;>rfl
theorem L1c(n:Int):∀l:List Int,(rise n l).Perm (n::l)
 |[]=>.refl _
 |x::l=>by
  unfold rise
  split
  .exact .refl _
  .exact((L1c n l).cons x).trans (.swap n x l)
theorem Y0L(n:Int):∀{l:List Int},l.Pairwise (·<=·)->(rise n l).Pairwise (·<=·)
 |[],_=>by simp[rise]
 |x::l,h=>by
  unfold rise
  split
  .rename_i hx
   refine List.pairwise_cons.2 ⟨λy hy=>?_,h⟩
   rcases yX hy with rfl|hy
   .omega
   .have:=(List.pairwise_cons.1 h).1 y hy;omega
  .rename_i hx
   refine List.pairwise_cons.2 ⟨λy hy=>?_,Y0L n (List.pairwise_cons.1 h).2⟩
   rcases(U0d n y l).1 hy with rfl|hy
   .omega
   .exact(List.pairwise_cons.1 h).1 y hy
def V0m(n:Int)(v ys:List Int):List Int:=ys.foldl (λv x=>if(v.length:Int)<n then v++[x]else v) v
theorem U0I(n:Int):∀(ys v:List Int),V0m n v ys=v++ys.take (n.toNat-v.length)
 |[],v=>by simp[V0m]
 |y::ys,v=>by
  have e:V0m n v (y::ys)=V0m n (if(v.length:Int)<n then v++[y]else v) ys:=rfl
  rw[e]
  by_cases h:(v.length:Int)<n
  .rw[yd h,U0I n ys,yU,List.length_singleton,show n.toNat-v.length=(n.toNat-(v.length+1))+1 by omega,List.take_succ_cons,List.append_assoc]
   rfl
  .rw[ye h,U0I n ys,show n.toNat-v.length=0 by omega]
   simp
theorem M0x(n:Int):∀(ys v w:List Int),v.Perm w->v.Pairwise (·<=·)->(U0f n v ys).Perm (V0m n w ys)/\(U0f n v ys).Pairwise (·<=·)
 |[],v,w,h,hs=>⟨h,hs⟩
 |y::ys,v,w,h,hs=>by
  have e:U0f n v (y::ys)=U0f n (if(v.length:Int)<n then rise y v else v) ys:=rfl
  have e2:V0m n w (y::ys)=V0m n (if(w.length:Int)<n then w++[y]else w) ys:=rfl
  rw[e,e2,← h.length_eq]
  by_cases hv:(v.length:Int)<n
  .rw[yd hv,yd hv]
   refine M0x n ys _ _ ?_ (Y0L y hs)
   exact(L1c y v).trans ((h.cons y).trans (List.perm_append_singleton y w).symm)
  .rw[ye hv,ye hv]
   exact M0x n ys _ _ h hs
theorem U1s{v w:List Int}(h:v.Perm w)(hs:v.Pairwise (·<=·)):X0u w=v:=by
 have h1:(X0u w).Perm v:=(List.mergeSort_perm w _).trans h.symm
 have h2:(X0u w).Pairwise (·<=·):=by
  have:=List.pairwise_mergeSort (le:=λ(x y:Int)=>decide (x<=y)) (λa b c h1 h2=>by simp at *;omega) (λa b=>by simp;omega) w
  exact this.imp λh=>by simpa using h
 exact List.Perm.eq_of_pairwise (le:=(·<=·)) (λa b _ _ h1 h2=>Int.le_antisymm h1 h2) h2 hs h1
theorem Z0t(n:Int)(grp:Int->List Int):∀(B w:List Int),B.foldl (λw s=>V0m n w (grp s)) w=w++(B.flatMap grp).take (n.toNat-w.length)
 |[],w=>by simp
 |s::B,w=>by
  rw[List.foldl_cons,Z0t n grp B,U0I,ya,List.append_assoc,List.take_append,yU,List.length_take]
  congr 3
  omega
theorem L1I{t:Topo}{l taken:List Int}{s0:Nat}(h0:s0<t.parents.length)(ok0:¬ (cntU t l s0=0\/kids t.parents (s0:Int)≠[]\/(s0:Int)∈taken))
  (best:∀s,s<t.parents.length->¬ (cntU t l s=0\/kids t.parents (s:Int)≠[]\/(s:Int)∈taken)->s≠s0->cntU t l s<cntU t l s0\/(cntU t l s=cntU t l s0/\s0<s)):Q0M t l taken=(s0:Int):=by
 have key:∀n,n<=t.parents.length->(n<=s0->((List.range n).foldl (XN t l taken) (-1)<0\/cntU t l ((List.range n).foldl (XN t l taken) (-1)).toNat<cntU t l s0))/\(s0<n->(List.range n).foldl (XN t l taken) (-1)=(s0:Int)):=by
  intro n
  induction n with
  |zero=>intro _;exact⟨λ_=>.inl (by simp),λh=>by omega⟩
  |succ n ih =>
   intro hn
   obtain⟨i1,i2⟩:=ih (by omega)
   rw[List.range_succ,List.foldl_append,List.foldl_cons,List.foldl_nil]
   generalize (List.range n).foldl (XN t l taken) (-1)=v at i1 i2
   unfold XN
   by_cases hk:cntU t l n=0\/kids t.parents (n:Int)≠[]\/(n:Int)∈taken
   .rw[yd hk]
    refine⟨λh=>i1 (by omega),λh=>?_⟩
    by_cases e:n=s0
    .subst e;exact absurd hk ok0
    .exact i2 (by omega)
   .rw[ye hk]
    by_cases e:n=s0
    .subst e
     refine⟨λh=>by omega,λ_=>?_⟩
     rw[yd (i1 (yV _))]
    .have b:=best n (by omega) hk e
     refine⟨λh=>?_,λh=>?_⟩
     .have q:=i1 (by omega)
      split
      .right;rw[yZ];omega
      .exact q
     .have q:=i2 (by omega)
      rw[q,ye]
      rintro(h|h)
      .omega
      .rw[yZ]at h;omega
 exact(key _ (yV _)).2 h0
noncomputable def grp(t:Topo)(l:List Int)(s:Int):List Int:=l.filter λx=>decide ((lfOf t x:Int)=s)
theorem V1O{t:Topo}{l L:List Int}{n:Int}(hg:∀s,s<t.parents.length->kids t.parents (s:Int)=[]->(l.filter λx=>hasUp t x s)=grp t l (s:Int))
  (hm:∀z∈L,∃s:Nat,z=(s:Int)/\s<t.parents.length/\kids t.parents (s:Int)=[]/\cntU t l s≠0) (hm2:∀s:Nat,s<t.parents.length->kids t.parents (s:Int)=[]->cntU t l s≠0->(s:Int)∈L) (hn:L.Nodup)
  (hs:L.Pairwise λa b=>cntU t l b.toNat<cntU t l a.toNat\/(cntU t l b.toNat=cntU t l a.toNat/\a<b)) (hlen:n<=((L.flatMap (grp t l)).length:Int)) :
  ∀(B A v w:List Int) (fuel:Nat),L=A++B->B.length<fuel->v.Perm w->v.Pairwise (·<=·)->w=(A.flatMap (grp t l)).take n.toNat ->
   (chL t l n fuel v A).Perm (B.foldl (λw s=>V0m n w (grp t l s)) w)/\(chL t l n fuel v A).Pairwise (·<=·)
 |[],A,v,w,fuel+1,hL,hf,hp,hsv,hw=>by
  have hvl:=hp.length_eq
  rw[List.append_nil]at hL
  subst hL
  have:w.length=min n.toNat (L.flatMap (grp t l)).length:=by rw[hw,List.length_take]
  rw[chL,ye (by omega)]
  exact⟨hp,hsv⟩
 |s::B,A,v,w,fuel+1,hL,hf,hp,hsv,hw=>by
  have hvl:=hp.length_eq
  rw[chL]
  by_cases hv:(v.length:Int)<n
  .rw[yd hv]
   have hsL:s∈L:=by rw[hL];simp
   obtain⟨m,rfl,h1,h2,h3⟩:=hm s hsL
   rw[hL]at hn hs
   have e:Q0M t l A=(m:Int):=by
    refine L1I h1 (by
     rintro(q|q|q)
     .exact h3 q
     .exact q h2
     .exact(List.nodup_append.1 hn).2.2 _ q _ (yJ ..) rfl) λs' hs' ok' hne=>?_
    have hk':kids t.parents (s':Int)=[]:=Classical.byContradiction λq=>ok' (.inr (.inl q))
    have hmem:=hm2 s' hs' hk' λq=>ok' (.inl q)
    rw[hL]at hmem
    rcases List.mem_append.1 hmem with q|q
    .exact absurd (.inr (.inr q)) ok'
    .rcases yX q with q|q
     .omega
     .have:=(List.pairwise_cons.1 (List.pairwise_append.1 hs).2.1).1 _ q
      simp only[yZ]at this
      omega
   rw[e,yZ,hg m h1 h2]
   obtain⟨p1,p2⟩:=M0x n (grp t l (m:Int)) v w hp hsv
   rw[List.foldl_cons]
   refine V1O hg hm hm2 (by rw[hL];exact hn) (by rw[hL];exact hs) hlen B (A++[(m:Int)]) _ _ fuel (by rw[hL];simp) (by simp at hf;omega) p1 p2 ?_
   rw[U0I,hw,List.flatMap_append,List.take_append,List.length_take,ya,List.flatMap_nil,List.append_nil]
   congr 2
   omega
  .rw[ye hv]
   refine⟨?_,hsv⟩
   rw[Z0t,show n.toNat-w.length=0 by omega]
   simpa using hp
theorem Q10{t:Topo}{l:List Int}(h:U4 t l=true){x:Int}(hx:x∈l){s:Nat}(hk:kids t.parents (s:Int)=[]):hasUp t x s=decide ((lfOf t x:Int)=(s:Int)):=by
 obtain⟨q1,q2,q3⟩:=U1p h hx
 by_cases e:lfOf t x=s
 .rw[← e,q1];simp
 .rw[show decide ((lfOf t x:Int)=(s:Int))=false by simp;omega]
  rw[Bool.eq_false_iff]
  intro hu
  obtain⟨e1,m,r1,r2,r3⟩:=ZJ h hx
  have T:=(Q3.1 h).1.tree
  have em:lfOf t x=m:=by unfold lfOf;rw[r1];simp only;omega
  unfold hasUp at hu
  rw[r1]at hu
  simp only[List.contains_iff_mem,r2,yZ]at hu
  obtain⟨a,ha,hae⟩:=yY hu
  have hae:a=s:=by omega
  subst hae
  obtain⟨c,hc,_⟩:=T.kid_of m r3 a ha (by omega)
  rw[hk]at hc
  cases hc
theorem Q19(t:Topo)(x:Int)(m:List Int)(s:Int):grp t (x::m) s=if(lfOf t x:Int)=s then x::grp t m s else grp t m s:=by
 unfold grp
 rw[List.filter_cons]
 by_cases e:(lfOf t x:Int)=s<;>simp[e]
theorem U19(t:Topo)(x:Int)(m:List Int):∀L:List Int,(L.flatMap (grp t m)).length<=(L.flatMap (grp t (x::m))).length
 |[]=>yV _
 |s::L=>by
  have:=U19 t x m L
  rw[ya,ya,yU,yU,Q19]
  split
  .simp only[yT];omega
  .omega
theorem W1D{t:Topo}{L:List Int}:∀{m:List Int},(∀x∈m,(lfOf t x:Int)∈L)->m.length<=(L.flatMap (grp t m)).length
 |[],_=>Nat.zero_le _
 |x::m,h=>by
  have ih:=W1D (L:=L) (m:=m) λy hy=>h y (yH _ hy)
  obtain⟨A,B,e⟩:=List.append_of_mem (h x (yJ ..))
  have h1:=U19 t x m A
  have h2:=U19 t x m B
  have h3:(grp t (x::m) (lfOf t x:Int)).length=(grp t m (lfOf t x:Int)).length+1:=by rw[Q19,yd rfl];rfl
  rw[e]at ih ⊢
  simp only[List.flatMap_append,ya,yU,yT]at ih ⊢
  omega
theorem J0y{t:Topo}{l:List Int}(h:U4 t l=true)(hl:l.length<=1048576)(s:Nat):QE t l (s:Int)=some (l.filter λn=>hasUp t n s):=by
 rw[← Mg h hl s]
 unfold QE Xf
 exact Q0n (λi x b k _=>by
  unfold YW VG
  simp only[U0p,Og,U7]) λ_=>rfl
def swMk(t:Topo)(l:List Int)(v:Int):Int×Int×Int:=(v,if v<0 then 0 else lev t v.toNat,if v<0 then 0 else(cntU t l v.toNat:Int))
theorem Q1F{t:Topo}{l:List Int}(h:U4 t l=true)(hl:l.length<=24)(n level:Int):ZF t l n level=L9 t l n (swMk t l (swF t l n level)):=by
 have T:=(Q3.1 h).1
 unfold ZF
 refine X7 (λi (b:Int×Int×Int)=>inR i ((List.range i).foldl (Ym t l n level) (-1))/\b=swMk t l ((List.range i).foldl (Ym t l n level) (-1))) (λo=>o=L9 t l n (swMk t l (swF t l n level))) (λi x b k hx hI hk=>?_) (λb hI=>by rw[hI.2];rfl) ⟨⟨by simp,by simp⟩,rfl⟩
 obtain⟨hr,rfl⟩:=hI
 have hi:=(yB hx).1
 have hk2:∀b',inR (i+1) (Ym t l n level ((List.range i).foldl (Ym t l n level) (-1)) i)->b'=swMk t l (Ym t l n level ((List.range i).foldl (Ym t l n level) (-1)) i)->k b'=L9 t l n (swMk t l (swF t l n level)):=by
  intro b' q1 q2
  refine hk b' ?_
  rw[List.range_succ,List.foldl_append,List.foldl_cons,List.foldl_nil]
  exact⟨q1,q2⟩
 clear hk
 generalize (List.range i).foldl (Ym t l n level) (-1)=v at hr hk2 ⊢
 obtain⟨r1,r2⟩:=hr
 have keep:Ym t l n level v i=v->k (swMk t l v)=L9 t l n (swMk t l (swF t l n level)):=λe=>hk2 _ (by rw[e];exact⟨r1,by omega⟩) (by rw[e])
 have take:Ym t l n level v i=(i:Int)->k ((i:Int),lev t i,(cntU t l i:Int))=L9 t l n (swMk t l (swF t l n level)):=λe=>hk2 _ (by rw[e];exact⟨by omega,by omega⟩) (by
  rw[e];unfold swMk;rw[ye (by omega),ye (by omega),yZ])
 unfold QR
 rw[XB T hi,bS]
 by_cases c1:level<lev t i
 .rw[show decide (level<lev t i)=true by simpa using c1,yN]
  exact keep (by unfold Ym;rw[yd (.inr c1)])
 rw[show decide (level<lev t i)=false by simpa using c1,yM,J0y h (by omega) i,bS]
 rw[show(l.filter λn=>hasUp t n i).length=cntU t l i from rfl]
 by_cases c2:(cntU t l i:Int)<n
 .rw[show decide (n<=(cntU t l i:Int))=false by simp;omega,Bool.false_and,yM]
  exact keep (by unfold Ym;rw[yd (.inl c2)])
 rw[show decide (n<=(cntU t l i:Int))=true by simp;omega,Bool.true_and]
 have hst:Ym t l n level v i=if v<0\/lev t i<lev t v.toNat\/(lev t i=lev t v.toNat/\(cntU t l i:Int)<cntU t l v.toNat)then(i:Int)else v:=by
  unfold Ym;rw[ye (by omega)]
 by_cases c3:v<0
 .rw[show decide ((swMk t l v).1<0)=true from decide_eq_true c3]
  simp only[Bool.true_or,yN]
  exact take (by rw[hst,yd (.inl c3)])
 .rw[show decide ((swMk t l v).1<0)=false from decide_eq_false c3,Bool.false_or]
  rw[show(swMk t l v).2.1=lev t v.toNat by unfold swMk;simp[c3],show(swMk t l v).2.2=(cntU t l v.toNat:Int) by unfold swMk;simp[c3]]
  by_cases c4:lev t i<lev t v.toNat
  .rw[show decide (lev t i<lev t v.toNat)=true by simpa using c4,Bool.true_or,yN]
   exact take (by rw[hst,yd (.inr (.inl c4))])
  .rw[show decide (lev t i<lev t v.toNat)=false by simpa using c4,Bool.false_or]
   by_cases c5:lev t i=lev t v.toNat/\(cntU t l i:Int)<cntU t l v.toNat
   .rw[show((lev t i==lev t v.toNat)&&decide ((cntU t l i:Int)<(cntU t l v.toNat:Int)))=true by simpa using c5,yN]
    exact take (by rw[hst,yd (.inr (.inr c5))])
   .rw[show((lev t i==lev t v.toNat)&&decide ((cntU t l i:Int)<(cntU t l v.toNat:Int)))=false by
     rw[Bool.eq_false_iff];intro q;exact c5 (by simpa using q),yM]
    rw[show((swMk t l v).1,lev t v.toNat,(cntU t l v.toNat:Int))=swMk t l v by unfold swMk;simp[c3]]
    refine keep (by rw[hst,ye];rintro(q|q|q)<;>first|exact c3 q|exact c4 q|exact c5 q)
def cntM(t:Topo)(m:List Int):List Int:=(List.range t.parents.length).map λs=>((m.filter λx=>decide (lfOf t x=s)).length:Int)
theorem V1F(t:Topo)(m:List Int){s:Nat}(hs:s<t.parents.length):(cntM t m)[s]?=some ((m.filter λx=>decide (lfOf t x=s)).length:Int):=by
 unfold cntM;simp[hs]
theorem L1q(t:Topo)(m:List Int){s:Nat}(hs:s<t.parents.length):(cntM t m).getD s 0=((grp t m (s:Int)).length:Int):=by
 rw[List.getD_eq_getElem?_getD,V1F t m hs,Option.getD_some]
 unfold grp
 rw[show(λx=>decide (lfOf t x=s))=λx=>decide ((lfOf t x:Int)=(s:Int)) from by
  funext x;rw[decide_eq_decide];omega]
theorem X1F(t:Topo)(m:List Int)(x:Int):cntM t (m++[x])=(cntM t m).set (lfOf t x) (((m.filter λy=>decide (lfOf t y=lfOf t x)).length:Int)+1):=by
 apply List.ext_getElem
 .simp[cntM]
 .intro s h1 h2
  have hs:s<t.parents.length:=by simpa[cntM]using h1
  rw[List.getElem_set]
  unfold cntM
  simp only[List.getElem_map,List.getElem_range,List.filter_append,yU]
  by_cases e:lfOf t x=s
  .subst e;simp
  .rw[ye e];simp[e]
theorem W1j(cnt zs:List Int):(zs.mergeSort (Ws cnt)).Pairwise λa b=>Ws cnt a b=true:=by
 refine List.pairwise_mergeSort (λa b c h1 h2=>?_) (λa b=>?_) zs
 .unfold Ws at *
  simp only[Bool.not_eq_true',decide_eq_false_iff_not]at *
  omega
 .unfold Ws
  simp only[Bool.or_eq_true,Bool.not_eq_true',decide_eq_false_iff_not]
  omega
theorem W0X{t:Topo}{l:List Int}(h:U4 t l=true)(hl:l.length<=24){n:Int}(hn:1<=n)(hf:L1k l=false)(level:Int):ZF t l n level=some (YS t l n level):=by
 have T:=(Q3.1 h).1
 have hP:=T.tree.le
 rw[Q1F h hl]
 unfold L9 YS
 by_cases hs:0<=swF t l n level
 rotate_left
 .rw[ye λq=>hs q.2.2.2,show decide ((swMk t l (swF t l n level)).1<0)=true from decide_eq_true (by show swF t l n level<0;omega),yN]
 rw[yd ⟨h,hn,hf,hs⟩,show decide ((swMk t l (swF t l n level)).1<0)=false from decide_eq_false (by show ¬ swF t l n level<0;omega),yM]
 have e1:QE t l (swMk t l (swF t l n level)).1=some (Z0M t l n level):=by
  obtain⟨m,e⟩:∃m:Nat,swF t l n level=(m:Int):=⟨(swF t l n level).toNat,by omega⟩
  unfold Z0M
  rw[show(swMk t l (swF t l n level)).1=swF t l n level from rfl,e,yZ,J0y h (by omega) m]
 rw[e1,bS]
 have hle:(Z0M t l n level).length<=l.length:=List.length_filter_le ..
 have hmine:U4 t (Z0M t l n level)=true:=Q3.2 ⟨(Q3.1 h).1,λx hx=>(Q3.1 h).2 x (List.mem_filter.1 hx).1⟩
 have hnm:n<=(Z0M t l n level).length:=(J1w hs).1
 generalize Z0M t l n level=m at hle hmine hnm ⊢
 rw[show mkL 8 (t.parents.length:Int) (0:Int)=some (List.replicate t.parents.length 0) by unfold mkL;rw[yd (by omega),yZ],bS]
 refine X7 (λi (b:List Int×List Int)=>b.1=cntM t (m.take i)/\b.2.Nodup/\∀z,z∈b.2↔∃x∈m.take i,z=(lfOf t x:Int)) (λo=>o=some (chL t m n (t.parents.length+1) [] [],true)) (λi x b k hx hI hk=>?_) (λb hI=>?_) ⟨?_,List.nodup_nil,λz=>by simp⟩
 .obtain⟨i1,i2,i3⟩:=hI
  have hi:=(yB hx).1
  have hxm:x∈m:=yE hx
  obtain⟨e,s,r1,r2,r3⟩:=ZJ hmine hxm
  have es:lfOf t x=s:=by unfold lfOf;rw[r1];simp only;omega
  have htk:m.take (i+1)=m.take i++[x]:=by rw[List.take_succ_eq_append_getElem hi];rw[yA hi]at hx;rw[Option.some.inj hx]
  have hbnd:((m.take i).filter λy=>decide (lfOf t y=s)).length<=24:=Nat.le_trans (List.length_filter_le ..) (by simp;omega)
  unfold UR
  rw[r1,bS,r2,i1,Y7,V1F t _ r3,bS,Og,bS,Q5 (by omega),yZ]
  have hset:(cntM t (m.take i)).set s (((m.take i).filter λy=>decide (lfOf t y=s)).length+1:Int)=cntM t (m.take (i+1)):=by
   rw[htk,X1F,es]
  have hbl:b.2.length<=24:=by
   have:=i2.length_le_of_subset (l₂:=(m.take i).map λx=>(lfOf t x:Int)) λz hz=>by
    obtain⟨y,hy,e⟩:=(i3 z).1 hz
    exact List.mem_map.2 ⟨y,hy,e.symm⟩
   simp at this;omega
  rw[hset]
  cases hc:b.2.contains (s:Int)with
  |true =>
   have hc:=List.contains_iff_mem.1 hc
   refine hk _ ⟨rfl,i2,λz=>?_⟩
   rw[i3,htk]
   constructor
   .rintro⟨y,hy,e⟩;exact⟨y,by simp[hy],e⟩
   .rintro⟨y,hy,e⟩
    rcases List.mem_append.1 hy with hy|hy
    .exact⟨y,hy,e⟩
    .rw[List.mem_singleton.1 hy,es]at e
     rw[← i3,e];exact hc
  |false =>
   have hc:(s:Int)∉b.2:=λq=>by rw[List.contains_iff_mem.2 q]at hc;cases hc
   simp only[Bool.not_false,yN]
   rw[O0 (by simp;omega),bS]
   refine hk _ ⟨rfl,?_,λz=>?_⟩
   .rw[List.nodup_append]
    exact⟨i2,by simp,λa ha c hc' q=>by rw[List.mem_singleton.1 hc']at q;exact hc (q ▸ ha)⟩
   .rw[List.mem_append,i3,htk,List.mem_singleton]
    constructor
    .rintro(⟨y,hy,e⟩|e)
     .exact⟨y,by simp[hy],e⟩
     .exact⟨x,by simp,by rw[es];exact e⟩
    .rintro⟨y,hy,e⟩
     rcases List.mem_append.1 hy with hy|hy
     .exact .inl ⟨y,hy,e⟩
     .rw[List.mem_singleton.1 hy,es]at e;exact .inr e
 .obtain⟨i1,i2,i3⟩:=hI
  rw[List.take_of_length_le (yV _)]at i1 i3
  unfold VR
  rw[i1]
  have lfP:∀z∈b.2,∃s:Nat,z=(s:Int)/\s<t.parents.length/\kids t.parents (s:Int)=[]/\cntU t m s≠0:=λz hz=>by
   obtain⟨x,hx,e⟩:=(i3 z).1 hz
   obtain⟨q1,q2,q3⟩:=U1p hmine hx
   refine⟨lfOf t x,e,q2,q3,λq=>?_⟩
   have:x∈m.filter λn=>hasUp t n (lfOf t x):=List.mem_filter.2 ⟨hx,q1⟩
   have q:(m.filter λn=>hasUp t n (lfOf t x)).length=0:=q
   rw[List.eq_nil_of_length_eq_zero q]at this
   cases this
  have hbl:b.2.length<=t.parents.length:=by
   have:=i2.length_le_of_subset (l₂:=(List.range t.parents.length).map λ(s:Nat)=>(s:Int)) λz hz=>by
    obtain⟨s,e,hs,_⟩:=lfP z hz
    exact List.mem_map.2 ⟨s,List.mem_range.2 hs,e.symm⟩
   simpa using this
  have hin:J0I (cntM t m) b.2:=by
   refine⟨λz hz=>?_,by simp[cntM];omega,λc hc=>?_,by omega⟩
   .obtain⟨s,e,hs,_⟩:=lfP z hz
    simp[cntM];omega
   .obtain⟨s,_,rfl⟩:=yY hc
    have:(m.filter λx=>decide (lfOf t x=s)).length<=m.length:=List.length_filter_le ..
    omega
  unfold J0c
  rw[yd hin,bS]
  have hg:∀s,s<t.parents.length->kids t.parents (s:Int)=[]->(m.filter λx=>hasUp t x s)=grp t m (s:Int):=λs _ hk=>by
   unfold grp
   exact List.filter_congr λx hx=>Q10 hmine hx hk
  have hmem:∀z,z∈b.2.mergeSort (Ws (cntM t m))↔z∈b.2:=λz=>(List.mergeSort_perm b.2 _).mem_iff
  have hm2:∀s:Nat,s<t.parents.length->kids t.parents (s:Int)=[]->cntU t m s≠0->(s:Int)∈b.2.mergeSort (Ws (cntM t m)):=λs hs hk hc=>by
   rw[hmem,i3]
   have:(m.filter λn=>hasUp t n s)≠[]:=λq=>hc (by unfold cntU;rw[q];rfl)
   obtain⟨x,hx⟩:=List.exists_mem_of_ne_nil _ this
   obtain⟨x1,x2⟩:=List.mem_filter.1 hx
   rw[Q10 hmine x1 hk]at x2
   exact⟨x,x1,by simpa using(of_decide_eq_true x2).symm⟩
  have hnd:(b.2.mergeSort (Ws (cntM t m))).Nodup:=(List.mergeSort_perm b.2 _).nodup_iff.2 i2
  have hsort:(b.2.mergeSort (Ws (cntM t m))).Pairwise λa c=>cntU t m c.toNat<cntU t m a.toNat\/(cntU t m c.toNat=cntU t m a.toNat/\a<c):=by
   refine List.Pairwise.imp_of_mem (fun{a c} ha hc q=>?_) ((W1j (cntM t m) b.2).and hnd)
   obtain⟨q,hne⟩:=q
   obtain⟨sa,ea,ha1,ha2,_⟩:=lfP a ((hmem a).1 ha)
   obtain⟨sc,ec,hc1,hc2,_⟩:=lfP c ((hmem c).1 hc)
   subst ea;subst ec
   unfold Ws at q
   rw[yZ,yZ,L1q t m ha1,L1q t m hc1,← hg sa ha1 ha2,← hg sc hc1 hc2]at q
   rw[yZ,yZ]
   unfold cntU
   simp only[Bool.not_eq_true',decide_eq_false_iff_not]at q
   omega
  have hlen:n<=(((b.2.mergeSort (Ws (cntM t m))).flatMap (grp t m)).length:Int):=by
   have:=W1D (t:=t) (L:=b.2.mergeSort (Ws (cntM t m))) (m:=m) λx hx=>by rw[hmem,i3];exact⟨x,hx,rfl⟩
   omega
  have hll:(b.2.mergeSort (Ws (cntM t m))).length<t.parents.length+1:=by rw[List.length_mergeSort];omega
  obtain⟨p1,p2⟩:=V1O hg (λz hz=>lfP z ((hmem z).1 hz)) hm2 hnd hsort hlen _ [] [] [] _ rfl hll (.refl _) .nil (by simp)
  have hmemI:∀z∈b.2.mergeSort (Ws (cntM t m)),∃s:Nat,z=(s:Int):=λz hz=>by
   obtain⟨s,e,_⟩:=lfP z ((hmem z).1 hz)
   exact⟨s,e⟩
  generalize b.2.mergeSort (Ws (cntM t m))=L at p1 hmemI
  rw[LI (f:=λw s=>V0m n w (grp t m s)) (λs hs i w k=>by
   unfold WL
   have key:∀(ys:List Int) (i:Nat) (w:List Int),(∀y∈ys,y∈m)->rgl (Uo t n s) (XR k) ys i w=k (V0m n w (grp t ys s)):=by
    intro ys
    induction ys with
    |nil=>intro i w _;rfl
    |cons y ys ih =>
     intro i w hy
     obtain⟨e,c,r1,r2,r3⟩:=ZJ hmine (hy y (yJ ..))
     have es:lfOf t y=c:=by unfold lfOf;rw[r1];simp only;omega
     have hb:∀k',Uo t n s y i w k'=if(c:Int)=s/\(w.length:Int)<n then k' (w++[y])else k' w:=λk'=>by
      unfold Uo
      rw[r1,bS,r2]
      by_cases h1:(c:Int)=s
      .rw[show((c:Int)==s)=true by simpa using h1,Bool.true_and]
       by_cases h2:(w.length:Int)<n
       .rw[show decide ((w.length:Int)<n)=true by simpa using h2,yN,O0 (by simp;omega),bS,yd ⟨h1,h2⟩]
       .rw[show decide ((w.length:Int)<n)=false by simpa using h2,yM,ye λq=>h2 q.2]
      .rw[show((c:Int)==s)=false by simpa using h1,Bool.false_and,yM,ye λq=>h1 q.1]
     rw[rgl,hb,Q19,es]
     by_cases h1:(c:Int)=s
     .rw[yd h1]
      by_cases h2:(w.length:Int)<n
      .rw[yd ⟨h1,h2⟩,ih _ _ λz hz=>hy z (yH _ hz)]
       congr 1
       unfold V0m
       rw[List.foldl_cons,yd h2]
      .rw[ye λq=>h2 q.2,ih _ _ λz hz=>hy z (yH _ hz)]
       congr 1
       unfold V0m
       rw[List.foldl_cons,ye h2]
     .rw[ye h1,ye λq=>h1 q.1,ih _ _ λz hz=>hy z (yH _ hz)]
   exact key m 0 w λ_ h=>h)]
  unfold QL L13
  have hfl:((L.foldl (λw s=>V0m n w (grp t m s)) []).length:Int)<=24:=by
   rw[Z0t]
   simp
   omega
  rw[yd (by omega),bS,U1s p1 p2]
 .show List.replicate t.parents.length 0=cntM t []
  unfold cntM
  rw[eq_comm,List.eq_replicate_iff]
  exact⟨by simp,λb hb=>by obtain⟨_,_,rfl⟩:=yY hb;rfl⟩
theorem U0G{r:Room}(R:RoomP r)(need:Vec){fr to_:Int}(hs:spanOk fr to_=true):VB r need fr to_=some (M0p r need fr to_):=by
 have h24:=R.topo.nodes
 have hpl:=R.profs
 unfold VB M0p
 rw[hs,yN]
 refine(U0n (b:=([]:List Int)) (f:=LN r need fr to_) (λi (v:List Int)=>v.length<=i) (λj v hj hv=>?_) (λj x v k hx hv=>?_) (yV 0)).1
 .unfold LN
  cases(r.up[j]?).getD false&&J0 need (minV ((r.profs[j]?).getD []) fr to_)with
  |true=>rw[yN];simp;omega
  |false=>rw[yM];omega
 .have hj:=(yB hx).1
  obtain⟨u,hu⟩:∃u,r.up[j]?=some u:=⟨_,yA (by rw[R.up,← R.profs];exact hj)⟩
  unfold ME LN
  rw[Y7,hu,hx]
  simp only[bS,Option.getD_some,X09]
  cases u with
  |false=>rfl
  |true =>
   rw[yN,X0p (R.prof _ (yE hx)),bS,Bool.true_and]
   cases J0 need (minV x fr to_)with
   |true=>rw[yN,yN,O0 (by simp;omega),bS]
   |false=>rfl
theorem L1f{r:Room}(R:RoomP r)(need:Vec)(fr to_:Int):(M0p r need fr to_).Pairwise (· < ·)/\∀z∈M0p r need fr to_,0<=z/\z<r.topo.nodes.length:=by
 have hpl:=R.profs
 unfold M0p
 cases spanOk fr to_ with
 |false=>exact⟨List.Pairwise.nil,λz hz=>by simp at hz⟩
 |true =>
  rw[yN,← hpl]
  generalize r.profs.length=n
  induction n with
  |zero=>exact⟨List.Pairwise.nil,λz hz=>by simp at hz⟩
  |succ n ih =>
   obtain⟨i1,i2⟩:=ih
   rw[List.range_succ,List.foldl_append,List.foldl_cons,List.foldl_nil]
   generalize (List.range n).foldl (LN r need fr to_) []=v at i1 i2
   unfold LN
   cases(r.up[n]?).getD false&&J0 need (minV ((r.profs[n]?).getD []) fr to_)with
   |false=>exact⟨i1,λz hz=>by have:=i2 z hz;omega⟩
   |true =>
    rw[yN]
    refine⟨List.pairwise_append.2 ⟨i1,List.pairwise_singleton ..,λa ha b hb=>?_⟩,λz hz=>?_⟩
    .rw[List.mem_singleton.1 hb];have:=i2 a ha;omega
    .rcases List.mem_append.1 hz with hz|hz
     .have:=i2 z hz;omega
     .rw[List.mem_singleton.1 hz];omega
theorem O1f{l:List Int}(h:l.Pairwise (· < ·)):L1k l=false:=by
 unfold L1k
 rw[List.any_eq_false]
 rintro⟨x,i⟩ hq
 obtain⟨hi,e⟩:∃hi:i<l.length,x=l[i]:=by
  have hx:=List.mem_zipIdx hq
  simp only[Nat.zero_le,Nat.zero_add,Nat.sub_zero,true_and]at hx
  obtain⟨hi,e⟩:=hx
  exact⟨hi,e⟩
 clear hq
 simp only[yD,yO,not_and]
 intro h0 hle
 have h0:0<i:=by omega
 unfold J1s at hle
 rw[yd h0,yA (by omega),Option.getD_some]at hle
 subst e
 have:=List.pairwise_iff_getElem.1 h (i-1) i (by omega) hi (by omega)
 omega
theorem X0L(n:Int):∀{l:List Int},l.Pairwise (· < ·)->n∉l->(rise n l).Pairwise (· < ·)
 |[],_,_=>by simp[rise]
 |x::l,h,hn=>by
  have hx:n≠x:=λe=>hn (by simp[e])
  unfold rise
  split
  .rename_i hlt
   refine List.pairwise_cons.2 ⟨λy hy=>?_,h⟩
   rcases yX hy with rfl|hy
   .exact hlt
   .have:=(List.pairwise_cons.1 h).1 y hy;omega
  .refine List.pairwise_cons.2 ⟨λy hy=>?_,X0L n (List.pairwise_cons.1 h).2 λq=>hn (yH _ q)⟩
   rcases(U0d n y l).1 hy with rfl|hy
   .omega
   .exact(List.pairwise_cons.1 h).1 y hy
theorem V12(fr:Int){v:List Int}(h:v.Pairwise (· < ·))(x:Pt):(Qx fr v x).Pairwise (· < ·):=by
 unfold Qx
 cases hc:(decide (fr<x.t)&&!v.contains x.t)with
 |false=>exact h
 |true =>
  rw[yN]
  simp only[yD,Bool.not_eq_true']at hc
  exact X0L _ h λq=>by rw[List.contains_iff_mem.2 q]at hc;cases hc.2
theorem Y00(fr:Int)(ps:List (List Pt)){v:List Int}(h:v.Pairwise (· < ·)):(timesF fr ps v).Pairwise (· < ·) :=
 QZ (λv:List Int=>v.Pairwise (· < ·)) (λv p hv=>QZ (λv:List Int=>v.Pairwise (· < ·)) (λ_ x hv=>V12 fr hv x) p v hv) ps v h
theorem J1L(fr m:Int):∀(p:List Pt) (v:List Int),m∈p.foldl (Qx fr) v↔m∈v\/∃x∈p,fr<x.t/\m=x.t
 |[],v=>by simp
 |x::p,v=>by
  have h1:m∈Qx fr v x↔m∈v\/(fr<x.t/\m=x.t):=by
   unfold Qx
   by_cases hx:fr<x.t
   .rw[show decide (fr<x.t)=true by simpa using hx,Bool.true_and]
    cases hc:v.contains x.t with
    |true =>
     have:=List.contains_iff_mem.1 hc
     simp only[yL,yM]
     exact⟨.inl,λq=>q.elim id λq=>q.2 ▸ this⟩
    |false =>
     simp only[Bool.not_false,yN]
     rw[U0d]
     exact⟨λq=>q.elim (λe=>.inr ⟨hx,e⟩) .inl,λq=>q.elim .inr λe=>.inl e.2⟩
   .rw[show decide (fr<x.t)=false by simpa using hx,Bool.false_and,yM]
    exact⟨.inl,λq=>q.elim id λq=>absurd q.1 hx⟩
  rw[List.foldl_cons,J1L fr m p,h1]
  simp only[List.mem_cons,exists_eq_or_imp,or_assoc]
theorem M0Y(fr m:Int):∀(ps:List (List Pt)) (v:List Int),m∈timesF fr ps v↔m∈v\/∃p∈ps,∃x∈p,fr<x.t/\m=x.t
 |[],v=>by simp[timesF]
 |p::ps,v=>by
  have e:timesF fr (p::ps) v=timesF fr ps (p.foldl (Qx fr) v):=rfl
  rw[e,M0Y fr m ps,J1L]
  simp only[List.mem_cons,exists_eq_or_imp,or_assoc]
def ptsF(fr:Int)(p:List Pt):List Int:=(p.filter λx=>decide (fr<x.t)).map Pt.t
theorem J1t{r:Room}(R:RoomP r)(j:Job)(fr:Int):((appL 24 [r.lics] r.profs).bind λxs5=>rgl (Vr fr) (Yr r j) xs5 0 [fr])=rgl (Jd r j) Xj (timesF fr (r.profs++[r.lics]) [fr]) 0 ():=by
 have h1:=R.topo.nodes
 have h2:=R.profs
 rw[O0 (by simp;omega),bS]
 have hle:∀p∈[r.lics]++r.profs,p.length<=200:=λp hp=>by
  rcases List.mem_append.1 hp with hp|hp
  .simp at hp;subst hp;exact R.lics.le
  .exact(R.prof p hp).le
 refine X7 (l0:=[r.lics]++r.profs) (λi (v:List Int)=>v=[fr]++(([r.lics]++r.profs).take i).flatMap (ptsF fr)/\v.length<=1+200*i) (λo=>o=rgl (Jd r j) Xj (timesF fr (r.profs++[r.lics]) [fr]) 0 ()) (λi p v k hx hI hk=>?_) (λv hI=>?_) ⟨by simp,by simp⟩
 .obtain⟨i1,i2⟩:=hI
  have hi:=(yB hx).1
  have hp:=hle p (yE hx)
  simp only[yU,List.length_singleton]at hi
  unfold Vr
  rw[V6 (bd:=MF fr) (bs:=8) (p:=λx:Pt=>decide (fr<x.t)) (f:=Pt.t) (λx _ i b k=>rfl) (by omega)]
  unfold OF
  refine hk _ ⟨?_,?_⟩
  .rw[List.take_succ_eq_append_getElem (by simp;omega),List.flatMap_append,ya,List.flatMap_nil,List.append_nil,i1,List.append_assoc]
   rw[yA (by simp;omega)]at hx
   rw[Option.some.inj hx];rfl
  .have:(p.filter λx:Pt=>decide (fr<x.t)).length<=p.length:=List.length_filter_le ..
   simp only[yU,List.length_map];omega
 .obtain⟨i1,i2⟩:=hI
  rw[List.take_of_length_le (yV _)]at i1
  unfold Yr L13
  have hl:v.length<4611686018427387904:=by simp at i2;omega
  rw[yd hl,bS]
  obtain⟨s1,s2⟩:=Y0Z v
  obtain⟨c1,c2⟩:=M0z s1
  rw[M0u c1 (Y00 fr (r.profs++[r.lics]) (v:=[fr]) (by simp)) λx=>?_]
  rw[c2,s2,i1,M0Y]
  simp only[List.mem_append,List.mem_flatMap,ptsF,List.mem_map,List.mem_filter,yO]
  constructor
  .rintro(q|⟨p,hp,y,⟨hy,hlt⟩,rfl⟩)
   .exact .inl q
   .exact .inr ⟨p,hp.symm,y,hy,hlt,rfl⟩
  .rintro(q|⟨p,hp,y,hy,hlt,rfl⟩)
   .exact .inl q
   .exact .inr ⟨p,hp.symm,y,⟨hy,hlt⟩,rfl⟩
theorem J1f{r:Room}(R:RoomP r){j:Job}(hj:X1 j=true):∀(l:List Int) (i:Nat),l.Pairwise (· < ·)->(∀t∈l,time t=true)->rgl (Jd r j) Xj l i ()=some (match l.find? (λt=>(canM r j t).2)with
  |some t=>(t,(canM r j t).1,true)
  |none=>(0,[],false))
 |[],_,_,_=>rfl
 |t::l,i,hs,ht=>by
  have hw:=(Zo.1 hj).2.2.2.2.2.1
  have hnn:=(Zo.1 hj).2.2.1
  have ht0:=Ol.1 (ht t (yJ ..))
  obtain⟨s1,s2⟩:=List.pairwise_cons.1 hs
  rw[rgl]
  unfold Jd
  rw[Q5 (by omega)]
  have far:∀t',1000000000<t'+j.wall->(canM r j t').2=false:=λt' h=>by
   have:spanOk t' (t'+j.wall)=false:=by
    rw[Bool.eq_false_iff];intro q
    have:=Ol.1 (XE.1 q).2.1
    omega
   unfold canM;rw[this];rfl
  by_cases hb:1000000000<t+j.wall
  .rw[show decide (1000000000<t+j.wall)=true by simpa using hb,yN]
   have:(t::l).find? (λt=>(canM r j t).2)=none:=by
    rw[List.find?_eq_none]
    intro t' h'
    have:1000000000<t'+j.wall:=by
     rcases yX h' with rfl|h'
     .exact hb
     .have:=s1 t' h';omega
    rw[far t' this];simp
   rw[this];rfl
  rw[show decide (1000000000<t+j.wall)=false by simpa using hb,yM,X0p R.lics,bS,X09,List.find?_cons]
  have hspan:spanOk t (t+j.wall)=true:=XE.2 ⟨ht t (yJ ..),Ol.2 (by omega),by omega⟩
  have ih:=J1f R hj l (i+1) s2 λt' h'=>ht t' (yH _ h')
  cases hfit:J0 j.lic (minV r.lics t (t+j.wall))with
  |false =>
   have:(canM r j t).2=false:=by unfold canM;rw[hfit,Bool.and_false];rfl
   rw[this]
   exact ih
  |true =>
   obtain⟨a1,a2⟩:=L1f R j.need t (t+j.wall)
   have hno:U4 r.topo (M0p r j.need t (t+j.wall))=true:=Q3.2 ⟨R.topo,a2⟩
   have hl:=(ZL R j.need t (t+j.wall)).2
   have e:canM r j t=YS r.topo (M0p r j.need t (t+j.wall)) j.nodes j.level:=by unfold canM;rw[hspan,hfit];rfl
   simp only[yL,yM]
   rw[U0G R j.need hspan,bS,W0X hno hl hnn.1 (O1f a1) j.level,bS,← e]
   cases h:(canM r j t).2 with
   |true=>rfl
   |false=>exact ih
theorem Y0H(r:Room)(j:Job)(fr:Int):Ur r j fr=some (bif roomOk r&&X1 j&&time fr then J1k r j fr else(0,[],false)):=by
 unfold Ur
 rw[J0g,bS,Zr,XW]
 cases hr:roomOk r with
 |false=>rfl
 |true=>cases hj:X1 j with
  |false=>rfl
  |true=>cases ht:time fr with
   |false=>rfl
   |true =>
    have R:=Zx.1 hr
    simp only[yL,Bool.or_self,yM,Bool.and_self,yN]
    rw[J1t R]
    have hall:∀t∈timesF fr (r.profs++[r.lics]) [fr],time t=true:=λt h=>by
     rcases J0s fr t _ _ h with h|⟨p,hp,x,hx,rfl⟩
     .rw[List.mem_singleton.1 h];exact ht
     .rcases List.mem_append.1 hp with hp|hp
      .exact((R.prof p hp).ok x hx).1
      .rw[List.mem_singleton.1 hp]at hx;exact(R.lics.ok x hx).1
    rw[J1f R hj _ 0 (Y00 fr _ (by simp)) hall]
    rfl
theorem O1l(r:Room)(j:Job)(fr:Int):Ur r j fr=Qg r j fr:=by rw[Y0H,Wk]
end Go.Proofs.YtpgaganbacipnaaGreat
namespace Go.Proofs.YtpgaganbacipnaaGreat.Eng
open Go Go.RowKit
theorem Y0R{sz:Nat}:∀{es:List AV},(∀e∈es,e.cells.length=sz)->∀(i c:Nat),c<sz->(flat es)[i*sz+c]?=es[i]?.bind λe=>e.cells[c]?
 |[],_,i,c,_=>by simp[flat]
 |x::l,h,0,c,hc=>by
  have hx:=h x (yJ ..)
  simp only[flat,ya]
  rw[yK (by rw[hx];omega)]
  simp
 |x::l,h,i+1,c,hc=>by
  have hx:=h x (yJ ..)
  have ih:=Y0R (es:=l) (λe he=>h e (yH _ he)) i c hc
  simp only[flat,ya]at ih ⊢
  rw[yS (by rw[hx,Nat.succ_mul];omega),hx,show(i+1)*sz+c-sz=i*sz+c by rw[Nat.succ_mul];omega,ih]
  simp
theorem Z0R{sz:Nat}:∀{es:List AV},(∀e∈es,e.cells.length=sz)->(flat es).length=es.length*sz
 |[],_=>by simp[flat]
 |x::l,h=>by
  have hx:=h x (yJ ..)
  have ih:=Z0R (es:=l) λe he=>h e (yH _ he)
  simp only[flat,ya,yU,yT,Nat.succ_mul]at ih ⊢
  rw[ih,hx];omega
def J1G(P:Program)(f:FuncId)(sz:Nat)(es xa:List AV)(sel:List Nat)(ret:Bool):Prop :=
 ∀(w:World) (g:Gh) (n0:Nat) (us:List Value),Heap w g (hSt n0 [] [some ⟨sz,es,false⟩])->us.length=xa.length ->
  (∀(i:Nat) (a:AV) (v:Value),xa[i]?=some a->us[i]?=some v->Gv w g (hSt n0 [] [some ⟨sz,es,false⟩]) a v) ->
 (es=[]->Calls P f (.slice none 0 0::us).toArray w λe w'=>e=.returned (if ret then .slice none 0 0 else .tuple #[])/\Below w.heap.size w w') /\
 ∀(b cap:Nat) (cur:Array Value) (ty:TypeId),w.heap[b]?=some (.cells cur ty (0,0))->es.length<=cap->cap<=maxLen->cur.size=cap*sz ->
  (∀(j:Nat) (a:AV) (u:Value),(flat es)[j]?=some a->cur[j]?=some u->a.one=true/\u.oneCell'=true/\Rd w g.S g.T a u)->(∀o,¬ g.S b o) ->
  Calls P f (.slice (some ⟨b,0,none⟩) es.length cap::us).toArray w λe w'=>e=.returned (if ret then .slice (some ⟨b,0,none⟩) sel.length cap else .tuple #[]) /\
   ∃cur':Array Value,w'.heap[b]?=some (.cells cur' ty (0,0))/\cur'.size=cap*sz/\sel.length<=cap/\(∀(i s:Nat),sel[i]?=some s->∀c,c<sz->cur'[i*sz+c]?=cur[s*sz+c]?) /\
    w'.os=w.os/\w'.tape=w.tape/\w'.output=w.output/\w.heap.size<=w'.heap.size/\∀k,k<w.heap.size->k≠b->w'.heap[k]?=w.heap[k]?
theorem V0Z{sz:Nat}{P:Program}{f:FuncId}{es es':List AV}{ret:Bool}{xa:List AV}{sel:List Nat}(h0:es=[]->es'=[])(hr:ret=false->es'.length=es.length)(hl1:es'.length=sel.length)(hl2:∀(i s:Nat),sel[i]?=some s->s<es.length/\es'[i]?=es[s]?)
  (h:J1G P f sz es xa sel ret):W0h P f sz es xa ret es':=by
 intro n0 w g vs H hN hl hvs
 match vs,hl with
 |v::us,hl =>
 obtain⟨hnil,hblk⟩:=h w g n0 us H (by simpa using hl) λi a u ha hu=>hvs (i+1) a u (by simpa using ha) (by simpa using hu)
 have hv:v=g.rv 0:=by
  have q:=hvs 0 _ v rfl rfl
  exact q.sref_inv (by rfl)
 subst hv
 have hrow:=H.rws 0 ⟨sz,es,false⟩ rfl
 have hrn:=H.rwn 0 ⟨sz,es,false⟩ rfl
 obtain⟨xs,ty,hown,hcl,hc⟩:=hrow
 simp only at hcl
 have fin:∀(v':Value) (w':World) (e:Ending),e=.returned (if ret then v' else .tuple #[])->(ret=false->v'=g.rv 0)->v'.ownBlock=(g.rv 0).ownBlock->v'.oneCell'=true->YC w' g.S g.T ⟨sz,es',false⟩ v'->w'.os=w.os->w'.tape=w.tape->w'.output=w.output->w.heap.size<=w'.heap.size ->
   (∀k,k<w.heap.size->(g.rv 0).ownBlock≠some k->w'.heap[k]?=w.heap[k]?) ->
   ∃v,e=.returned v/\Kept (OwnB g 0 1) w w'/\∃n1 res bout upd new,n0<=n1/\(bout=[]/\(match ret with|true=>res=.sref 1/\upd=[none]/\new=[⟨sz,es',false⟩]|false=>res=.tup []/\upd=[some es']/\new=[])) /\
   bout.map List.length=([]:List (List AV)).map List.length/\upd.length=1/\∃g':Gh,(∀b o,g'.S b o->(g.S b o\/w.heap.size<=b\/OwnB g 0 1 b)/\(w.heap.size<=b\/OwnB g 0 1 b->UnfB w' b))/\(∀b,g'.N b->g.N b) /\
   (∀i,i<0->g'.bb i=g.bb i)/\(∀i es,upd[i]?=some (some es)->g'.rv i=g.rv i)/\Heap w' g' (hSt n1 bout (V4 [⟨sz,es,false⟩] upd new)) /\
   (∀(j:Nat) (r:Row),new[j]?=some r->∀b,(g'.rv (1+j)).ownBlock=some b->w.heap.size<=b\/OwnB g 0 1 b) /\
   (∀i,i<n0->g'.ov i=g.ov i)/\(∀i D,n0<=i->g'.ov i=some D->∀b,D b->w.heap.size<=b\/OwnB g 0 1 b) /\
   Gv w' g' (hSt n1 bout (V4 [⟨sz,es,false⟩] upd new)) res v:=by
  intro v' w' e he hv' hb' h1 hro q1 q2 q3 q4 q5
  have hownB:∀b,g.own b->b<w.heap.size/\(g.rv 0).ownBlock≠some b:=λb hb=>⟨H.ow.size hb,λq=>H.ow.rw 0 _ rfl b q hb⟩
  have noU:∀b o,g.S b o->(g.S b o\/w.heap.size<=b\/OwnB g 0 1 b)/\(w.heap.size<=b\/OwnB g 0 1 b->UnfB w' b):=λb o h=>⟨.inl h,λq=>by
   rcases q with q|⟨i,hi,_⟩|⟨i,hi,e⟩
   .exact absurd (H.sw b o h) (Nat.not_lt.2 q)
   .omega
   .have:i=0:=by omega
    subst this
    exact absurd h ((hrn.2 b e).2 o)⟩
  have hK:Kept (OwnB g 0 1) w w':=⟨q1,q2,q3,q4,λk hk hno=>q5 k hk λq=>hno (.inr ⟨0,by omega,q⟩)⟩
  cases ret with
  |false =>
   have hv':=hv' rfl
   subst hv'
   refine⟨.tuple #[],by simpa using he,hK,n0,.tup [],[],[some es'],[],yV _,⟨rfl,rfl,rfl,rfl⟩,rfl,rfl,g,noU,λb h=>h,λi hi=>by omega,λi es _=>rfl,?_,λj r h=>by simp at h,λ_ _=>rfl,
    λi D hi ho=>λ_ _=>absurd (H.ow.lt i D ho) (by simp only[hSt];omega),.tup [] [] rfl λi a v h=>by simp at h⟩
   have hrw:∀k r,(hSt n0 [] (V4 [⟨sz,es,false⟩] [some es'] [])).rw k=some r->k=0/\r=⟨sz,es',false⟩:=by
    intro k r hk
    match k with
    |0=>simp[hSt,V4]at hk;exact⟨rfl,hk.symm⟩
    |k+1=>simp[hSt,V4]at hk
   refine⟨λk cs h=>by simp[hSt]at h,λk cs h=>by simp[hSt]at h,λk r hk=>?_,λk r hk=>?_,λk k' cs cs' h=>by simp[hSt]at h,λk k' cs r h=>by simp[hSt]at h,λk k' r r' hk hk' hne=>?_,λb o h=>Nat.lt_of_lt_of_le (H.sw b o h) q4,?_⟩
   .obtain⟨rfl,rfl⟩:=hrw k r hk;exact hro
   .obtain⟨rfl,rfl⟩:=hrw k r hk;exact⟨rfl,hrn.2⟩
   .obtain⟨rfl,_⟩:=hrw k r hk;obtain⟨rfl,_⟩:=hrw k' r' hk';exact absurd rfl hne
   .refine H.ow.turn rfl (λ_ h=>h) (yV _) (λb hb=>q5 b (hownB b hb).1 (hownB b hb).2) (λk cs h=>by simp[hSt]at h) λk r hk b hb=>?_
    obtain⟨rfl,_⟩:=hrw k r hk
    exact H.ow.rw 0 _ rfl b hb
  |true =>
   refine⟨v',by simpa using he,hK,n0,.sref 1,[],[none],[⟨sz,es',false⟩],yV _,⟨rfl,rfl,rfl,rfl⟩,rfl,rfl,{ g with rv:=λi=>if i=1 then v' else g.rv i },noU,λb h=>h,λi hi=>by omega,λi es h=>?_,?_,λj r h b hb=>?_,λ_ _=>rfl,
    λi D hi ho=>λ_ _=>absurd (H.ow.lt i D ho) (by simp only[hSt];omega),.sref 1 v' h1 λr hr=>by simp⟩
   .match i with
    |0=>simp at h
    |i+1=>simp at h
   .have hrw:∀k r,(hSt n0 [] (V4 [⟨sz,es,false⟩] [none] [⟨sz,es',false⟩])).rw k=some r->k=1/\r=⟨sz,es',false⟩:=by
     intro k r hk
     match k with
     |0=>simp[hSt,V4]at hk
     |1=>simp[hSt,V4]at hk;exact⟨rfl,hk.symm⟩
     |k+2=>simp[hSt,V4]at hk
    have hT:({ g with rv:=λi=>if i=1 then v' else g.rv i }:Gh).T=g.T:=Gh.T_eq rfl rfl
    refine⟨λk cs h=>by simp[hSt]at h,λk cs h=>by simp[hSt]at h,λk r hk=>?_,λk r hk=>?_,λk k' cs cs' h=>by simp[hSt]at h,λk k' cs r h=>by simp[hSt]at h,λk k' r r' hk hk' hne=>?_,λb o h=>Nat.lt_of_lt_of_le (H.sw b o h) q4,?_⟩
    .obtain⟨rfl,rfl⟩:=hrw k r hk
     rw[hT];exact hro
    .obtain⟨rfl,rfl⟩:=hrw k r hk
     refine⟨rfl,λb hb=>hrn.2 b ?_⟩
     simp only[yb]at hb
     rw[← hb',hb]
    .obtain⟨rfl,_⟩:=hrw k r hk;obtain⟨rfl,_⟩:=hrw k' r' hk';exact absurd rfl hne
    .refine H.ow.turn rfl (λ_ h=>h) (yV _) (λb hb=>q5 b (hownB b hb).1 (hownB b hb).2) (λk cs h=>by simp[hSt]at h) λk r hk b hb=>?_
     obtain⟨rfl,_⟩:=hrw k r hk
     simp only[yb]at hb
     exact H.ow.rw 0 _ rfl b (by rw[← hb',hb])
   .match j with
    |0 =>
     simp only[Nat.add_zero,yb]at hb
     exact .inr (.inr ⟨0,by omega,by rw[← hb',hb]⟩)
    |j+1=>simp at h
 rcases hown.2 with⟨hv,hn⟩|⟨b,cap,cur,hv,_,hb,hnc,hcm,hcs,htk⟩
 .have hz:es=[]:=List.eq_nil_of_length_eq_zero hn
  subst hz
  have hz':=h0 rfl
  subst hz'
  have:=hnil rfl
  rw[← hv]at this
  refine this.mono λe w' hw=>?_
  obtain⟨he,hw⟩:=hw
  refine fin (g.rv 0) w' e (by rw[he]) (λ_=>rfl) rfl (by rw[hv];rfl) ?_ hw.os hw.tape hw.output hw.size λk hk _=>hw.block k hk
  exact⟨xs,ty,⟨hown.1,.inl ⟨hv,hn⟩⟩,λe he=>by simp at he,λj a u ha=>by simp[flat]at ha⟩
 .simp only at hv hnc htk hc hcs
  have hfs:=Z0R hcl
  have hnS:=(hrn.2 b (by rw[hv];rfl)).2
  have hcx:∀j,j<es.length*sz->cur[j]?=xs[j]?:=by
   intro j hj
   rw[← htk]
   simp[hj]
  have:=hblk b cap cur ty hb hnc hcm hcs (λj a u ha hu=>by
   have hj:j<es.length*sz:=by have:=(yB ha).1;omega
   exact hc j a u ha (by rw[← hcx j hj];exact hu)) hnS
  rw[← hv]at this
  refine this.mono λe w' hw=>?_
  obtain⟨he,cur',c1,c2,c4,c3,q1,q2,q3,q4,q5⟩:=hw
  rw[← hl1]at he c4
  have hcl':∀e∈es',e.cells.length=sz:=λe he=>by
   obtain⟨i,hi⟩:=List.getElem?_of_mem he
   have hi2:i<sel.length:=by rw[← hl1];exact(yB hi).1
   have:=(hl2 i sel[i] (yA hi2)).2
   rw[hi]at this
   exact hcl e (yE this.symm)
  have hrob:YC w' g.S g.T ⟨sz,es',false⟩ (.slice (some ⟨b,0,none⟩) es'.length cap):=by
   have hm:es'.length*sz<=cap*sz:=Nat.mul_le_mul_right sz c4
   refine⟨cur'.toList.take (es'.length*sz),ty,⟨by simp;omega,.inr ⟨b,cap,cur',rfl,Nat.zero_le _,c1,c4,hcm,c2,rfl⟩⟩,hcl',λj a u ha hu=>?_⟩
   have hj:j<es'.length*sz:=by have:=(yB ha).1;rw[Z0R hcl']at this;exact this
   have hz:0<sz:=by
    rcases Nat.eq_zero_or_pos sz with h|h
    .rw[h,Nat.mul_zero]at hj;omega
    .exact h
   have hm2:j % sz<sz:=Nat.mod_lt _ hz
   have e0:j / sz*sz+j % sz=j:=by rw[Nat.mul_comm];exact Nat.div_add_mod j sz
   have hi2:j / sz<sel.length:=by rw[← hl1];exact Nat.div_lt_of_lt_mul (by rw[Nat.mul_comm];exact hj)
   obtain⟨hs1,hs2⟩:=hl2 _ _ (yA hi2)
   have hu2:cur'[j]?=some u:=by simpa[List.getElem?_take,hj]using hu
   rw[← e0,Y0R hcl' _ _ hm2,hs2,← Y0R hcl _ _ hm2]at ha
   rw[← e0,c3 _ _ (yA hi2) _ hm2]at hu2
   have hlt:sel[j / sz]*sz+j % sz<es.length*sz:=by
    have:=Nat.mul_le_mul_right sz (show sel[j / sz]+1<=es.length from hs1)
    rw[Nat.succ_mul]at this;omega
   rw[hcx _ hlt]at hu2
   obtain⟨r1,r2,r3⟩:=hc _ a u ha hu2
   refine⟨r1,r2,r3.mono (λ_ _ h=>h) TLe.refl λb' o hS=>?_⟩
   have hne:b'≠b:=λe=>hnS o (e ▸ hS)
   simp only[World.cell?,q5 b' (H.sw b' o hS) hne]
  refine fin (.slice (some ⟨b,0,none⟩) es'.length cap) w' e he (λhr'=>by rw[hv,hr hr']) (by rw[hv];rfl) rfl hrob q1 q2 q3 q4 λk hk hne=>q5 k hk λe=>hne (by rw[hv,e];rfl)
end Go.Proofs.YtpgaganbacipnaaGreat.Eng
namespace Go.Proofs.YtpgaganbacipnaaGreat
open Go Go.RowKit Eng Go.Sort
def V0q(cur:Array Value)(j:Nat):List Value:=(List.range 13).map λc=>cur[j*13+c]!
theorem Q0e(cur:Array Value)(j:Nat):(V0q cur j).length=13:=by simp[V0q]
theorem V11{cur:Array Value}{j c:Nat}(hc:c<13)(h:j*13+c<cur.size):(V0q cur j)[c]?=cur[j*13+c]?:=by
 simp[V0q,hc,h]
theorem U1T{w:World}{g:Gh}{s:St}{f:Nat}{e:AV}{v:Value}(h:Gv w g s (.fn f [.ept e 0]) v):∃u,v=.func (.func f) #[] #[u]/\Rd w g.S g.T (.ept e 0) u:=by
 obtain⟨vs,rfl,hl,hc⟩:=h.fn_inv
 match vs,hl with
 |[u],_ =>
  refine⟨u,rfl,?_⟩
  have q:=hc 0 _ u rfl rfl
  cases q with
  |data _ _ q=>exact q
def delF(p:Run->Option Bool):List Run->Option (List Run)
 |[]=>some []
 |x::l=>(p x).bind λb=>(delF p l).bind λr=>some (bif b then r else x::r)
theorem O1q{p:Run->Option Bool}:∀{l r:List Run},delF p l=some r->(∀x∈l,∃b,p x=some b)/\r=l.filter λx=>!(p x).getD false
 |[],r,h=>by cases h;simp
 |x::l,r,h=>by
  simp only[delF]at h
  obtain⟨b,hb,h⟩:=Option.bind_eq_some_iff.1 h
  obtain⟨r',hr,h⟩:=Option.bind_eq_some_iff.1 h
  cases h
  obtain⟨q1,q2⟩:=O1q hr
  refine⟨λy hy=>?_,?_⟩
  .rcases yX hy with rfl|hy
   .exact⟨b,hb⟩
   .exact q1 y hy
  .rw[List.filter_cons,hb]
   cases b<;>simp[q2]
theorem Q1s(f:Run->Bool)(l:List Run):l.filter f=(sel (λj=>match l[j]? with|some x=>!f x|none=>true) l.length).map λj=>l.getD j default:=by
 have e:=Go.Lib.keptUpTo_filter f l.toArray
 simp only[Go.Lib.keptUpTo,List.size_toArray]at e
 rw[← e]
 unfold sel
 have hf:(List.range l.length).filter (λj=>f l.toArray[j]!)=(List.range l.length).filter λj=>!(match l[j]? with|some x=>!f x|none=>true):=by
  apply List.filter_congr
  intro j hj
  have hj:=List.mem_range.1 hj
  simp[hj]
 rw[hf]
 apply List.map_congr_left
 intro j hj
 have hj:=List.mem_range.1 (List.mem_filter.1 hj).1
 simp[hj]
set_option maxHeartbeats 4000000 in
theorem J1C(g:Nat)(lb:Array Value)(w:World):Calls Tryz.prog 113 #[.slice none 0 0,.func (.func g) #[] lb] w λe w'=>e=.returned (.int .i64 (-1))/\Below w.heap.size w w':=by
 have mixed:Tryz.prog.follows .mixedOrders=true:=by kernel_rfl
 go_enter Tryz.func113,Tryz.ntmps113
 go_wp2
 go_loopg [5,8] 0 (λgg _ s8 wr=>s8=.int .i64 0/\Aside (Below w.heap.size w wr))
 case atStart=>exact⟨rfl,Below.refl _ w⟩
 case round =>
  obtain⟨rfl,BW⟩:=hrel
  go_wp2
  go_ret
  exact⟨rfl,BW.out⟩
set_option maxHeartbeats 4000000 in
theorem J1E(g:Nat)(lb:Array Value)(w:World):Calls Tryz.prog 48 #[.slice none 0 0,.func (.func g) #[] lb] w λe w'=>e=.returned (.slice none 0 0)/\Below w.heap.size w w':=by
 have mixed:Tryz.prog.follows .mixedOrders=true:=by kernel_rfl
 have e6:∀args w,(callFunc 113 args).run Tryz.prog w=.ok (.enter 113 args) w:=enters_of Tryz.func113 (by kernel_rfl) rfl
 have hI:=J1C g lb w
 go_enter Tryz.func48,Tryz.ntmps48
 go_wp2_with (go_at_fn 113;refine hI.mono ?_;rintro e w' ⟨rfl,hb⟩)
 go_ret
 exact⟨rfl,hb⟩
theorem M1E(es:List AV)(hes:∀e∈es,∃cs,e=.agg cs/\cs.length=13/\∀a∈cs,a.one=true)(f:Nat)(hf:isFn Tryz.prog f=true)(e0:AV)(p:Nat->Bool)(hp:∀(i:Nat) (e:AV),es[i]?=some e->Snd Tryz.prog f [e.rdt,.ept e0 0] (.bool (p i)) []) :
  J1G Tryz.prog X4 13 es [.fn f [.ept e0 0]] (sel p es.length) true:=by
 have hes13:∀e∈es,e.cells.length=13:=λe he=>by obtain⟨cs,rfl,h,_⟩:=hes e he;exact h
 intro w gh n0 us H hul hus
 match us,hul with
 |[u],_ =>
 obtain⟨u0,rfl,hu0⟩:=U1T (hus 0 _ u rfl rfl)
 refine⟨λ_=>(J1E f #[u0] w).mono λe w' h=>⟨by simpa using h.1,h.2⟩,λb cap cur ty h1 h2 h3 h4 h5 h6=>?_⟩
 have hm:=Nat.mul_le_mul_right 13 h2
 have hlt:∀j c,j<es.length->c<13->j*13+c<cur.size:=λj c hj hc=>by
  have:=Nat.mul_le_mul_right 13 (show j+1<=es.length from hj)
  rw[Nat.succ_mul]at this;omega
 have hrd:∀(j:Nat) (e:AV),es[j]?=some e->∀(c:Nat) (a:AV) (u:Value),e.cells[c]?=some a->(V0q cur j)[c]?=some u->a.one=true/\u.oneCell'=true/\Rd w gh.S gh.T a u:=by
  intro j e he c a u ha hu
  have hj:j<es.length:=(yB he).1
  have hc:c<13:=by have:=(yB hu).1;rwa [Q0e]at this
  rw[V11 hc (hlt j c hj hc)]at hu
  refine h5 (j*13+c) a u ?_ hu
  rw[Y0R hes13 _ _ hc,he]
  exact ha
 have hone:∀j,j<es.length->∀v∈V0q cur j,v.oneCell'=true:=by
  intro j hj v hv
  obtain⟨c,hc⟩:=List.getElem?_of_mem hv
  have hcl:c<13:=by have:=(yB hc).1;rwa [Q0e]at this
  have he:=yA hj
  obtain⟨a,ha⟩:∃a,(es[j]).cells[c]?=some a:=⟨_,yA (by rw[hes13 es[j] (List.getElem_mem hj)];exact hcl)⟩
  exact(hrd j _ he c a v ha hc).2.1
 have hw:=L1E b 0 cap es.length cur ty (V0q cur) p f #[u0] w (λargs w=>Y08 hf args) rfl (λj=>Q0e _ _) hone (by simp only[maxLen]at h3;omega) h2 h1 h4 (λj hj i hi=>(V11 hi (hlt j i hj hi)).symm) λW j hj hW=>by
  have he:=yA hj
  have hS:∀b' o,gh.S b' o->W.cell? ⟨b',o,none⟩=w.cell? ⟨b',o,none⟩:=λb' o hs=>by
   have hne:b'≠b:=λe=>h6 o (e ▸ hs)
   simp only[World.cell?,hW.block b' (H.sw b' o hs) hne]
  obtain⟨cs,ecs,hcs,h1a⟩:=hes es[j] (List.getElem_mem hj)
  have hx:Rd W gh.S (λ_ _ _=>True) (es[j]).rdt (.agg (V0q cur j).toArray):=by
   refine Rd.rdt (N:=gh.T) (λ_ _=>trivial) ?_
   rw[ecs]
   refine .agg cs _ (by rw[hcs,Q0e]) h1a λc a v ha hv=>?_
   exact((hrd j _ he c a v (by rw[ecs];exact ha) hv).2.2).mono (λ_ _ h=>h) TLe.refl hS
  have hu:Rd W gh.S (λ_ _ _=>True) (.ept e0 0) u0:=hu0.mono (λ_ _ h=>h) ⟨λ_ _ _ _ _ _ _ _=>trivial,λ_ _ _ _=>trivial⟩ hS
  refine(hp j _ he W gh.S (λ_ _ _=>True) [.agg (V0q cur j).toArray,u0] (λb' o hs=>Nat.lt_of_lt_of_le (H.sw b' o hs) hW.size) rfl λi a v ha hv=>?_).mono λe w' hq=>?_
  .match i with
   |0=>simp at ha hv;subst ha;subst hv;exact hx
   |1=>simp at ha hv;subst ha;subst hv;exact hu
   |i+2=>simp at ha
  .obtain⟨v,rfl,hb,g2,_,_,_,hg,_⟩:=hq
   exact⟨by rw[hg.bool_inv],hb⟩
 refine hw.mono λe w' h=>?_
 obtain⟨he,hB,cr,q1,q2,q3⟩:=h
 refine⟨by simpa using he,cr,q1,q2,?_,λi s hi c hc=>q3 i s hi c hc,hB.os,hB.tape,hB.output,hB.size,hB.block⟩
 refine Nat.le_trans ?_ h2
 have:=List.length_filter_le (λj=>!p j) (List.range es.length)
 simpa[sel]using this
theorem Y11{tg:Tag}{f:Nat}{e0:AV}{p:Run->Option Bool}{l r:List Run}(hf:isFn Tryz.prog f=true)(hp:∀x b,p x=some b->Snd Tryz.prog f [Z1 .rd x,.ept e0 0] (.bool b) [])(h:delF p l=some r) :
  W0h Tryz.prog X4 13 (l.map (Z1 tg)) [.fn f [.ept e0 0]] true (r.map (Z1 tg)):=by
 obtain⟨hall,hr⟩:=O1q h
 have hs:=Q1s (λx=>!(p x).getD false) l
 rw[← hr]at hs
 have key:=M1E (l.map (Z1 tg)) (λe he=>by
   obtain⟨x,_,rfl⟩:=yY he
   refine⟨_,rfl,rfl,λa ha=>?_⟩
   simp only[List.mem_cons,List.not_mem_nil,or_false]at ha
   rcases ha with rfl|rfl|rfl|rfl|rfl|rfl|rfl|rfl|rfl|rfl|rfl|rfl|rfl<;>rfl) f hf e0 (λj=>match l[j]? with|some x=>!(!(p x).getD false)|none=>true) λi e he=>by
  obtain⟨x,hx,rfl⟩:∃x,l[i]?=some x/\Z1 tg x=e:=by simpa using he
  obtain⟨b,hb⟩:=hall x (yE hx)
  have q:=hp x b hb
  simp only[hx,hb,Option.getD_some,Bool.not_not]
  simpa using q
 rw[List.length_map]at key
 have hS:∀s∈sel (λj=>match l[j]? with|some x=>!(!(p x).getD false)|none=>true) l.length,s<l.length:=λs hs=>List.mem_range.1 (List.mem_filter.1 hs).1
 generalize sel (λj=>match l[j]? with|some x=>!(!(p x).getD false)|none=>true) l.length=S at key hs hS
 refine V0Z (sel:=S) (λe=>?_) (λe=>by cases e) (by rw[hs];simp) (λi s hi=>?_) key
 .have:l=[]:=by simpa using e
  subst this
  cases h;rfl
 .have hs2:=hS s (yE hi)
  refine⟨by simpa using hs2,?_⟩
  rw[hs,List.map_map,yF,hi,yF,yA hs2]
  simp[hs2]
def JF(cur:Array Value)(sz i:Nat):List Value:=(List.range sz).map λc=>cur[i*sz+c]!
theorem M0l(cur:Array Value)(sz i:Nat):(JF cur sz i).length=sz:=by simp[JF]
theorem L0l{cur:Array Value}{sz i c:Nat}(hc:c<sz)(h:i*sz+c<cur.size):(JF cur sz i)[c]?=cur[i*sz+c]?:=by
 simp[JF,hc,h]
theorem V1s{sz:Nat}(h0:0<sz){P:Program}{ρ:Shelf.Ren}(L:SlLaysF0.n6 P ρ)(aE:∀w,(isAgg (ρ.t 24)).run P w=.ok true w)(zE:∀w,(Go.sizeOf (ρ.t 24)).run P w=.ok sz w)(g:Nat)(eg:∀args w,(callFunc g args).run P w=.ok (.enter g args) w)
  (es:List AV) (hes:∀e∈es,e.cells.length=sz) (cf:Fin es.length->Fin es.length->Int) (hO:SWO (ltOf cf)) (hT:∀x y,(ltOf cf) x y=false->(ltOf cf) y x=false->x=y)
  (hcmp:∀(w0:World) (S:Nat->Nat->Prop) (T:Tag->Nat->Value->Prop) (x y:Fin es.length) (vx vy:List Value),vx.length=sz->vy.length=sz->(∀(c:Nat) (a:AV) (u:Value),(es[x]).cells[c]?=some a->vx[c]?=some u->Rd w0 S T a u)->(∀(c:Nat) (a:AV) (u:Value),(es[y]).cells[c]?=some a->vy[c]?=some u->Rd w0 S T a u) ->
   ∀w:World,Calls P g #[.agg vx.toArray,.agg vy.toArray] w λe w'=>e=.returned (.int .i64 (cf x y))/\∃q os',w'=grow (w.drewN q) os') (hl:es.length<4611686018427387904) :
  J1G P (ρ.f 6) sz es [.fn g []] (((List.finRange es.length).mergeSort λx y=>!(ltOf cf) y x).map Fin.val) false:=by
 intro w gh n0 us H hul hus
 match us,hul with
 |[u],_ =>
 obtain⟨vs,hu,hvs,_⟩:=(hus 0 _ u rfl rfl).fn_inv
 have hvs0:vs=[]:=List.eq_nil_of_length_eq_zero (by simpa using hvs.symm)
 subst hvs0
 refine⟨λhz=>?_,λb cap cur ty h1 h2 h3 h4 h5 h6=>?_⟩
 .subst hz
  exact(AnyF.slices_SortFunc_none L none 0 u w).mono λe w' h=>⟨by simp[h.1],by rw[h.2];exact Below.refl _ _⟩
 .have hb:b<w.heap.size:=(Array.getElem?_eq_some_iff.1 h1).1
  by_cases hz:es=[]
  .subst hz
   refine(AnyF.slices_SortFunc_none L (some ⟨b,0,none⟩) cap u w).mono λe w' h=>?_
   obtain⟨he,rfl⟩:=h
   exact⟨by simp[he],cur,h1,h4,by simp,λi s hi=>by simp at hi,rfl,rfl,rfl,yV _,λ_ _ _=>rfl⟩
  .have hn:0<es.length:=List.length_pos_iff.2 hz
   haveI:Inhabited (Fin es.length):=⟨⟨0,hn⟩⟩
   have hsz:∀(x:Fin es.length) (c:Nat),c<sz->x.val*sz+c<es.length*sz:=λx c hc=>by
    have:=Nat.mul_le_mul_right sz (show x.val+1<=es.length from x.isLt)
    rw[Nat.succ_mul]at this;omega
   have hm:=Nat.mul_le_mul_right sz h2
   have hcs:∀(x:Fin es.length) (c:Nat),c<sz->x.val*sz+c<cur.size:=λx c hc=>by have:=hsz x c hc;omega
   have hk:∀x:Fin es.length,(JF cur sz x.val).length=sz:=λx=>M0l _ _ _
   have hrd:∀(x:Fin es.length) (c:Nat) (a:AV) (u:Value),(es[x]).cells[c]?=some a->(JF cur sz x.val)[c]?=some u->a.one=true/\u.oneCell'=true/\Rd w gh.S gh.T a u:=by
    intro x c a u ha hu
    have hc:c<sz:=by have:=(yB hu).1;rwa [M0l]at this
    rw[L0l hc (hcs x c hc)]at hu
    refine h5 (x.val*sz+c) a u ?_ hu
    rw[Y0R hes _ _ hc,yA x.isLt]
    exact ha
   have h1c:∀x:Fin es.length,∀v∈JF cur sz x.val,v.oneCell'=true:=by
    intro x v hv
    obtain⟨c,hc⟩:=List.getElem?_of_mem hv
    have hcl:c<sz:=by have:=(yB hc).1;rwa [M0l]at this
    obtain⟨a,ha⟩:∃a,(es[x]).cells[c]?=some a:=⟨_,yA (by rw[hes es[x] (List.getElem_mem x.isLt)];exact hcl)⟩
    exact(hrd x c a v ha hc).2.1
   have hflat:∀(l:List (Fin es.length)) (i c:Nat),c<sz->(flatK (λx:Fin es.length=>JF cur sz x.val) sz l.toArray).toList[i*sz+c]?=l[i]?.bind λx=>(JF cur sz x.val)[c]?:=λl i c hc=>by
    rw[O1u h0 hk]
    exact V0l hk l i c hc
   have hs0:(flatK (λx:Fin es.length=>JF cur sz x.val) sz (List.finRange es.length).toArray).size=es.length*sz:=by simp
   have hH:HoldsK (λx:Fin es.length=>JF cur sz x.val) sz w b 0 (List.finRange es.length).toArray:=by
    refine V1u h1 ?_
    apply List.ext_getElem? 
    intro j
    by_cases hj:j<es.length*sz
    .have hc:j % sz<sz:=Nat.mod_lt _ h0
     have e0:j / sz*sz+j % sz=j:=by rw[Nat.mul_comm];exact Nat.div_add_mod j sz
     have hi:j / sz<es.length:=Nat.div_lt_of_lt_mul (by rw[Nat.mul_comm];exact hj)
     have q:=hflat (List.finRange es.length) (j / sz) (j % sz) hc
     rw[e0]at q
     have hg:(List.finRange es.length)[j / sz]?=some ⟨j / sz,hi⟩:=by
      rw[yA (by simpa using hi)]
      simp
     rw[q,hg,bS,L0l hc (hcs ⟨j / sz,hi⟩ _ hc)]
     simp only[e0]
     simp[hj]
    .rw[List.getElem?_eq_none (by simp;omega),List.getElem?_eq_none (by simp;omega)]
   have:=AnyQ.slices_SortFunc_total L sz aE zE (λx:Fin es.length=>JF cur sz x.val) hk h1c cf hO g #[] b 0 cap (List.finRange es.length).toArray w eg
    (λm os dk _ x y=>hcmp w gh.S gh.T x y _ _ (hk x) (hk y) (λc a u ha hu=>(hrd x c a u ha hu).2.2) (λc a u ha hu=>(hrd y c a u ha hu).2.2) _) hH hb (by simpa using hl) hT
   simp only[List.size_toArray,List.length_finRange]at this
   rw[hu]
   refine this.mono λe w' h=>?_
   obtain⟨he,n,os,hw⟩:=h
   obtain⟨M,hM⟩:∃M,M=(List.finRange es.length).mergeSort λx y=>!(ltOf cf) y x:=⟨_,rfl⟩
   have hMl:M.length=es.length:=by rw[hM];simp
   obtain⟨F,hF⟩:∃F,F=flatK (λx:Fin es.length=>JF cur sz x.val) sz M.toArray:=⟨_,rfl⟩
   have hFs:F.size=es.length*sz:=by rw[hF];simp[hMl]
   have hw2:w'=grow (putRow id (Sort.ahead w n) b 0 F) os:=by
    rw[hw,hF,hM]
    rfl
   rw[hw2,← hM]
   obtain⟨cur',q1,q2,q3,q4,q5⟩:=Y1j (F:=F) h1 (by rw[hFs,h4];exact hm) n os
   refine⟨by simp[he],cur',q1,by rw[q2,h4],by simpa[hMl]using h2,λi s hi c hc=>?_,rfl,rfl,rfl,q4,q5⟩
   rw[yF,Option.map_eq_some_iff]at hi
   obtain⟨x,hx,rfl⟩:=hi
   have hil:i<es.length:=by rw[← hMl];exact(yB hx).1
   have q:=hflat M i c hc
   rw[hx,bS,L0l hc (hcs x c hc),← hF]at q
   rw[← q,← q3,List.getElem?_take,yd (by rw[hFs];exact hsz ⟨i,hil⟩ c hc),Array.getElem?_toList]
def runLt(x y:Run):Bool:=if x.job.prio≠y.job.prio then decide (x.job.prio<y.job.prio)else if x.t≠y.t then decide (y.t<x.t)else decide (y.job.id<x.job.id)
def XL(x y:Run):Bool:=!runLt y x
def M1i(l:List Run):Prop:=(l.map (·.job.id)).Nodup/\l.length<4611686018427387904
instance(l:List Run):Decidable (M1i l):=by unfold M1i;infer_instance
def M0m(l:List Run):Option (List Run):=if M1i l then some (l.mergeSort XL)else none
theorem On(x y:Run):runLt x y=true↔x.job.prio<y.job.prio\/(x.job.prio=y.job.prio/\(y.t<x.t\/(x.t=y.t/\y.job.id<x.job.id))):=by
 unfold runLt
 by_cases h1:x.job.prio=y.job.prio
 .by_cases h2:x.t=y.t
  .simp[h1,h2]
  .simp[h1,h2]
 .simp[h1]
def Z0n(l:List Run)(x y:Fin l.length):Int:=if runLt l[x] l[y]=true then -1 else 1
theorem X08(l:List Run)(x y:Fin l.length):ltOf (Z0n l) x y=runLt l[x] l[y]:=by
 unfold ltOf Z0n
 cases runLt l[x] l[y]<;>rfl
theorem O1s(l:List Run):SWO (ltOf (Z0n l)) where
 irrefl x:=by
  rw[X08]
  cases h:runLt l[x] l[x]with
  |false=>rfl
  |true=>rw[On]at h;omega
 trans x y z h1 h2:=by
  rw[X08,On]at *
  omega
 ntrans x y z h1 h2:=by
  rw[X08,Bool.eq_false_iff,ne_eq,On]at *
  omega
theorem W1c{l:List Run}(h:(l.map (·.job.id)).Nodup)(x y:Fin l.length)(h1:ltOf (Z0n l) x y=false)(h2:ltOf (Z0n l) y x=false):x=y:=by
 rw[X08,Bool.eq_false_iff,ne_eq,On]at h1 h2
 have e:l[x].job.id=l[y].job.id:=by omega
 have hp:=List.pairwise_iff_getElem.1 h
 rcases Nat.lt_trichotomy x.val y.val with q|q|q
 .exact absurd (by simpa using e) (hp x.val y.val (by simp) (by simp) q)
 .exact Fin.ext q
 .exact absurd (by simpa using e.symm) (hp y.val x.val (by simp) (by simp) q)
theorem U15(l:List Run)(n:Nat)(hn:n=l.length)(f:Fin n->Fin n->Bool)(hf:∀x y:Fin n,f x y=XL (l[x.val]'(hn ▸ x.isLt)) (l[y.val]'(hn ▸ y.isLt))):((List.finRange n).mergeSort f).map (λx:Fin n=>l[x.val]'(hn ▸ x.isLt))=l.mergeSort XL:=by
 subst hn
 have hfr:(List.finRange l.length).map (λx:Fin l.length=>l[x.val])=l:=by
  apply List.ext_getElem
  .simp
  .intro i h1 h2;simp
 conv=>rhs;rw[← hfr]
 rw[List.map_mergeSort]
 intro a _ b _
 exact hf a b
theorem L1m{w:World}{S:Nat->Nat->Prop}{T:Tag->Nat->Value->Prop}{tg:Tag}{x:Run}{v:List Value}(hl:v.length=13)(h:∀(c:Nat) (a:AV) (u:Value),(Z1 tg x).cells[c]?=some a->v[c]?=some u->Rd w S T a u) :
  ∃av,v=[.int .i64 x.job.id,.int .i64 x.job.prio,.int .i64 x.job.nodes,.int .i64 x.job.need.a,.int .i64 x.job.need.b,.int .i64 x.job.need.c,.int .i64 x.job.lic.a,.int .i64 x.job.lic.b,.int .i64 x.job.lic.c,.int .i64 x.job.wall,.int .i64 x.job.level,.int .i64 x.t,av]:=by
 match v,hl with
 |[v0,v1,v2,v3,v4,v5,v6,v7,v8,v9,v10,v11,v12],_ =>
  have g:∀(c:Nat) (n:Int) (u:Value),(Z1 tg x).cells[c]?=some (.int .i64 n)->[v0,v1,v2,v3,v4,v5,v6,v7,v8,v9,v10,v11,v12][c]?=some u->u=.int .i64 n:=λc n u h1 h2=>by
   have:=h c _ u h1 h2
   cases this;rfl
  refine⟨v12,?_⟩
  rw[g 0 _ v0 rfl rfl,g 1 _ v1 rfl rfl,g 2 _ v2 rfl rfl,g 3 _ v3 rfl rfl,g 4 _ v4 rfl rfl,g 5 _ v5 rfl rfl,g 6 _ v6 rfl rfl,g 7 _ v7 rfl rfl,g 8 _ v8 rfl rfl,g 9 _ v9 rfl rfl,g 10 _ v10 rfl rfl,g 11 _ v11 rfl rfl]
theorem Q1i{tg:Tag}{l r:List Run}(h:M0m l=some r):W0h Tryz.prog Ue 13 (l.map (Z1 tg)) [.fn W05 []] false (r.map (Z1 tg)):=by
 unfold M0m at h
 split at h
 .rename_i hl
  cases h
  have eg:∀args w,(callFunc 52 args).run Tryz.prog w=.ok (.enter 52 args) w:=enters_of Tryz.func52 (by kernel_rfl) rfl
  have hlen:(l.map (Z1 tg)).length=l.length:=by simp
  have c0:∀x:Fin (l.map (Z1 tg)).length,x.val<l.length:=λx=>by rw[← hlen];exact x.isLt
  have cx:∀x:Fin (l.map (Z1 tg)).length,(l.map (Z1 tg))[x]=Z1 tg (l[x.val]'(c0 x)):=λx=>by simp
  have key:=V1s (sz:=13) (by omega) (ρ:=Tryz.sortFR_ren) Tryz.sortFR Tryz.isAgg44 Tryz.sizeOf44 52 eg (l.map (Z1 tg)) (λe he=>by obtain⟨x,_,rfl⟩:=yY he;rfl)
   (λx y=>Z0n l ⟨x.val,c0 x⟩ ⟨y.val,c0 y⟩) ?_ ?_ ?_ (by rw[hlen];exact hl.2)
  .have hM:=U15 l _ hlen (λx y=>!(ltOf λx y=>Z0n l ⟨x.val,c0 x⟩ ⟨y.val,c0 y⟩) y x) λx y=>by
    have:=X08 l ⟨y.val,c0 y⟩ ⟨x.val,c0 x⟩
    show(!(ltOf (Z0n l) ⟨y.val,c0 y⟩ ⟨x.val,c0 x⟩))=_
    rw[this];rfl
   generalize ((List.finRange (l.map (Z1 tg)).length).mergeSort λx y=>!(ltOf λx y=>Z0n l ⟨x.val,c0 x⟩ ⟨y.val,c0 y⟩) y x)=M at key hM
   refine V0Z (λe=>?_) (λ_=>by simp) ?_ (λi s hi=>?_) key
   .have:l=[]:=by simpa using e
    subst this;simp
   .rw[← hM];simp
   .obtain⟨x,hx,rfl⟩:∃x,M[i]?=some x/\x.val=s:=by simpa using hi
    refine⟨x.isLt,?_⟩
    rw[← hM,List.map_map,yF,hx,yA x.isLt]
    simp
  .have:=O1s l
   exact⟨λx=>this.irrefl _,λx y z=>this.trans _ _ _,λx y z=>this.ntrans _ _ _⟩
  .intro x y h1 h2
   have:=W1c hl.1 ⟨x.val,c0 x⟩ ⟨y.val,c0 y⟩ h1 h2
   exact Fin.ext (by simpa using congrArg Fin.val this)
  .intro w0 S T x y vx vy hx hy hvx hvy w
   rw[cx]at hvx hvy
   obtain⟨av,rfl⟩:=L1m hx hvx
   obtain⟨bv,rfl⟩:=L1m hy hvy
   exact L11 _ _ _ _ _ _ _ _ _ _ _ _ _ _ _ _ _ _ _ _ _ _ _ _ av bv w
 .cases h
end Go.Proofs.YtpgaganbacipnaaGreat
namespace Go.Proofs.YtpgaganbacipnaaGreat
open Go Go.RowKit Eng
section
set_option maxRecDepth 20000
noncomputable def W0U:L :=
 lf Tryz.prog M02 [] [] [] [] [] [] []
def LM(a1 b2:Run):Option Bool :=
 bif a1.job.prio != b2.job.prio then(some (decide (a1.job.prio<b2.job.prio)))else(some (decide (b2.t<a1.t)||((a1.t==b2.t)&&decide (b2.job.id<a1.job.id))))
theorem J0B{a1 b2:Run}{r:Bool}(H:LM a1 b2=some r):Snd Tryz.prog M02 [Z1 .rd a1,Z1 .rd b2] (.bool r) []:=by
 refine wS W0U [.t 4] ?_
 unfold LM at H
 refine wP ?_
 refine M0 H ?_ ?_<;>intro H
 .obtain rfl:=sI H
  exact wP (wE [(4,.d)])
 .obtain rfl:=sI H
  exact wP (wE [(4,.d)])
def Zh(a1 b2:Run):Bool :=
 bif a1.job.prio != b2.job.prio then(decide (a1.job.prio<b2.job.prio))else((decide (b2.t<a1.t)||((a1.t==b2.t)&&decide (b2.job.id<a1.job.id))))
theorem Y13(a1 b2:Run):LM a1 b2=some (Zh a1 b2):=by
 unfold LM Zh
 first|rfl|simp only[O5]
theorem O0S(a1 b2:Run):Snd Tryz.prog M02 [Z1 .rd a1,Z1 .rd b2] (.bool (Zh a1 b2)) []:=J0B (Y13 a1 b2)
noncomputable def L0V:L :=
 lf Tryz.prog L0r [] [] [] [] [] [] []
def Xh(s1:State)(j2:Job):Option Bool :=
 (X6 s1).bind λb3=>bif !b3 then(some false)else((L6 s1).bind λy4=>(Qg y4.1 j2 s1.now).bind λy5=>some (y5.2.2&&(y5.1==s1.now)))
theorem MV{s1:State}{j2:Job}{r:Bool}(H:Xh s1 j2=some r):Snd Tryz.prog L0r [V2 .rd s1,eJob j2] (.bool r) []:=by
 refine wS L0V [.t 4] ?_
 unfold Xh at H
 obtain⟨b3,h3,H⟩:=bB H
 refine wH [.c 11 (Q6 h3)] ?_
 refine M0 H ?_ ?_<;>intro H
 .obtain rfl:=sI H
  exact wP (wE [(4,.d)])
 .obtain⟨y4,h4,y5,h5,H⟩:=bB2 H
  refine wH [.c 15 (LG h4),.u 23 (.call _ _ _ _ _ (AEs.of (xs:=[.agg [rV 1 (y4.1.topo.parents.map eI),rV 4 (y4.1.topo.nodes.map V1),rV 1 (y4.1.up.map eBo),rV 1 (y4.1.profs.map (J1 .nw)),rV 4 (y4.1.lics.map ePt)],.agg [iV j2.id,iV j2.prio,iV j2.nodes,iV j2.need.a,iV j2.need.b,iV j2.need.c,iV j2.lic.a,iV j2.lic.b,iV j2.lic.c,iV j2.wall,iV j2.level],iV s1.now]) (by simp)) (λ_=>YL h5))] ?_
  replace H:=sI H;subst H
  exact wE [(4,.d)]
noncomputable def Y0N:L :=
 lf Tryz.prog XI [12,26] [] [] [] [] [] [30620979]
def L0K:List Rv:=[.t 4]
theorem M0R:Qt Tryz.prog XI 2 Y0N L0K=true:=by kernel_rfl
def U8(x6:Run)(k6:(Bool×(List Run))->Option (List Run))(v8:Bool×(List Run)):Option (List Run) :=
 (appL 120 v8.2 [x6]).bind λxs9=>k6 (v8.1,xs9)
def Je(x4 x6:Run)(_:Nat)(v6:Bool×(List Run))(k6:(Bool×(List Run))->Option (List Run)):Option (List Run) :=
 bif (!v6.1)&&(Zh x4 x6)then((appL 120 v6.2 [x4]).bind λxs7=>(U8 x6 k6) (true,xs7))else((U8 x6 k6) (v6.1,v6.2))
def Le(x4:Run)(k4:List Run->Option (List Run))(v6:Bool×(List Run)):Option (List Run) :=
 bif !v6.1 then((appL 120 v6.2 [x4]).bind λxs10=>k4 xs10)else(k4 v6.2)
def Zu(j2:Job)(x4:Run)(_:Nat)(v4:List Run)(k4:List Run->Option (List Run)):Option (List Run) :=
 bif decide (j2.prio<=x4.job.prio)then(k4 v4)else(rgl (Je x4) (Le x4 k4) v4 0 (false,[]))
def QJ(v4:List Run):Option (List Run) :=
 some v4
def OI(s1:State)(j2:Job):Option (List Run) :=
 rgl (Zu j2) QJ s1.runs 0 []
set_option maxRecDepth 20000 in
theorem J0J{s1:State}{j2:Job}{r:(List Run)}(H:OI s1 j2=some r):ConD Tryz.prog XI [V2 .rd s1,eJob j2] [] [] (.sref 0) [] [] [(13,r.map (Z1 .rd))]:=by
 refine JW [] M0R rfl (by kernel_rfl) ?_
 unfold OI at H
 refine wG [.u 15 (.ln _ _ λ_=>lm s1.runs (Z1 .rd))] λq3=>?_
 refine wR (λ(i4:Nat) (v4:List Run)=>⟨[(3,.ptr 3 0),(5,.sref 12),(14,rV 13 (s1.runs.map (Z1 .rd))),(15,iV (s1.runs.length:Int)),(16,iV (i4:Int))],[],[(3,(eJob j2).cells)],[(12,⟨13,v4.map (Z1 .rd),false⟩)]⟩) H (λi4 x4 v4 I m k4 hxv4 hiv4 H N56=>?_) (λv4 I m H=>?_)
 .unfold Zu at H
  refine wP (wt (ltT hiv4) ?_)
  refine wH [.u 18 (.ix _ _ _ λ_=>W0 (Z1 .rd) (Y1 hxv4))] ?_
  refine M0 H ?_ ?_<;>intro H
  .exact wH [.w 56 (wi .i64 rfl hiv4 q3.1)] (wT (N56 _ H))
  .refine wG [.u 28 (.ln _ _ λ_=>lm v4 (Z1 .rd))] λq5=>?_
   refine wR (λ(i6:Nat) (v6:Bool×(List Run))=>⟨[(3,.ptr 3 0),(7,.ptr 7 0),(8,.sref 26),(9,.bool v6.1),(14,rV 13 (s1.runs.map (Z1 .rd))),(15,iV (s1.runs.length:Int)),(16,iV (i4:Int)),(27,.sref 12),(28,iV (v4.length:Int)),(29,iV (i6:Int))],[],[(3,(eJob j2).cells),(7,(Z1 .rd x4).cells)],[(26,⟨13,v6.2.map (Z1 .rd),false⟩),(12,⟨13,v4.map (Z1 .rd),false⟩)]⟩) H (λi6 x6 v6 I m k6 hxv6 hiv6 H N36=>?_) (λv6 I m H=>?_)
   .unfold Je at H
    refine wP (wt (ltT hiv6) ?_)
    refine wH [.u 31 (.ix _ _ _ λ_=>W0 (Z1 .rd) (Y1 hxv6)),.u 32 (.el _ _ _ λ_=>gm (Z1 .rd) (W4 (Y1 hxv6))),.g 38 [((!v6.1),true)] (.call _ _ _ _ _ (AEs.refl _) (λ_=>O0S x4 x6))] ?_
    refine J3 (r:=r) (U8 x6 k6) 0 (λv8:Bool×(List Run)=>⟨[(3,.ptr 3 0),(7,.ptr 7 0),(8,.sref 26),(9,.bool v8.1),(11,.ptr 11 0),(14,.sl .rd 13 (s1.runs.map (Z1 .rd))),(15,.int .i64 (s1.runs.length:Int)),(16,.int .i64 (i4:Int)),(27,.sref 12),(28,.int .i64 (v4.length:Int)),(29,.int .i64 (i6:Int))],[],[(3,(eJob j2).cells),(7,(Z1 .rd x4).cells),(11,(Z1 .rd x6).cells)],[(26,⟨13,v8.2.map (Z1 .rd),false⟩),(12,⟨13,v4.map (Z1 .rd),false⟩)]⟩) (by kernel_rfl) (λv8 H=>?_) (λJ28=>?_)
    .unfold U8 at H
     obtain⟨xs9,h9,H⟩:=bB H
     exact wH [.u 47 (.ap _ _ _ _ λ_=>L0 (Z1 .rd) h9),.w 48 (wi .i64 rfl hiv6 q5.1)] (wT (N36 _ H))
    .refine M0 H ?_ ?_<;>intro H
     .obtain⟨xs7,h7,H⟩:=bB H
      exact wH [.u 43 (.ap _ _ _ _ λ_=>L0 (Z1 .rd) h7)] (wT (J28 _ H))
     .refine wP ?_
      exact wT (J28 _ H)
   .unfold Le at H
    refine wP (wf (ltF v4.length) ?_)
    refine wP ?_
    refine M0 H ?_ ?_<;>intro H
    .obtain⟨xs10,h10,H⟩:=bB H
     refine wH [.u 54 (.ap _ _ _ _ λ_=>L0 (Z1 .rd) h10),.w 56 (wi .i64 rfl hiv4 q3.1)] ?_
     exact wU (N56 _ H) [] [] [(12,(some 26,0))] []
    .refine wH [.w 56 (wi .i64 rfl hiv4 q3.1)] ?_
     exact wU (N56 _ H) [] [] [(12,(some 26,0))] []
 .unfold QJ at H
  refine wP (wf (ltF s1.runs.length) ?_)
  refine wP ?_
  replace H:=sI H;subst H
  exact W3 [(4,.d)] [] [(12,some 12,0)] [] [12] (by kernel_rfl)
noncomputable def Z0U:L :=
 lf Tryz.prog W0q [8] [] [] [] [] [] []
def MO(n2 x4:Int)(_:Nat)(v4:List Int)(k4:List Int->Option (List Int)):Option (List Int) :=
 bif x4 != n2 then((appL 8 v4 [x4]).bind λxs5=>k4 xs5)else(k4 v4)
def OO(v4:List Int):Option (List Int) :=
 some v4
def WC(l1:List Int)(n2:Int):Option (List Int) :=
 rgl (MO n2) OO l1 0 []
theorem O0f{l1:List Int}{n2:Int}{r:(List Int)}(H:WC l1 n2=some r):Snd Tryz.prog W0q [rV 1 (l1.map eI),iV n2] (nV 1 (r.map eI)) []:=by
 refine wS Z0U [.t 4] ?_
 unfold WC at H
 refine wG [.u 10 (.ln _ _ λ_=>lm l1 eI)] λq3=>?_
 refine wR (λ(i4:Nat) (v4:List Int)=>⟨[(1,iV n2),(5,.sref 8),(9,rV 1 (l1.map eI)),(10,iV (l1.length:Int)),(11,iV (i4:Int))],[],[],[(8,⟨1,v4.map eI,false⟩)]⟩) H (λi4 x4 v4 I m k4 hxv4 hiv4 H N19=>?_) (λv4 I m H=>?_)
 .unfold MO at H
  refine wP (wt (ltT hiv4) ?_)
  refine wH [.u 13 (.ix _ _ _ λ_=>W0 eI (Y1 hxv4))] ?_
  refine M0 H ?_ ?_<;>intro H
  .obtain⟨xs5,h5,H⟩:=bB H
   exact wH [.u 21 (.ap _ _ _ _ λ_=>L0 eI h5),.w 22 (wi .i64 rfl hiv4 q3.1)] (wT (N19 _ H))
  .exact wH [.w 22 (wi .i64 rfl hiv4 q3.1)] (wT (N19 _ H))
 .unfold OO at H
  refine wP (wf (ltF l1.length) ?_)
  refine wP ?_
  replace H:=sI H;subst H
  exact wN [(4,.f)] [] [] [8] [] [⟨_,nw_I v4⟩]
noncomputable def MS:L :=
 lf Tryz.prog Ze [8] [] [] [] [] [] []
def OS:List Rv:=[.c 4 11 true]
theorem ZT:Qt Tryz.prog Ze 2 MS OS=true:=by kernel_rfl
def Q7(ids2:List Int)(x4:Run)(_:Nat)(v4:List Run)(k4:List Run->Option State):Option State :=
 (J8 ids2 x4.job.id).bind λb5=>bif !b5 then((appL 120 v4 [x4]).bind λxs6=>k4 xs6)else(k4 v4)
def Ye(s1:State)(v4:List Run):Option State :=
 some (State.mk s1.topo s1.up s1.lic s1.depth s1.now s1.queue v4 s1.ends)
def L4(s1:State)(ids2:List Int):Option State :=
 rgl (Q7 ids2) (Ye s1) s1.runs 0 []
set_option maxRecDepth 20000 in
theorem Me{s1:State}{ids2:List Int}{r:State}(H:L4 s1 ids2=some r):ConD Tryz.prog Ze [V2 .rd s1,rV 1 (ids2.map eI)] [] [] (.agg [rV 1 (r.topo.parents.map eI),rV 4 (r.topo.nodes.map V1),rV 1 (r.up.map eBo),iV r.lic.a,iV r.lic.b,iV r.lic.c,iV r.depth,iV r.now,rV 11 (r.queue.map eJob),nV 13 (r.runs.map (Z1 .rd)),rV 3 (r.ends.map eEnd)]) [] [] []:=by
 refine JW [] ZT rfl (by kernel_rfl) ?_
 unfold L4 at H
 refine wG [.u 11 (.ln _ _ λ_=>lm s1.runs (Z1 .rd))] λq3=>?_
 refine wR (λ(i4:Nat) (v4:List Run)=>⟨[(1,rV 1 (ids2.map eI)),(2,.ptr 2 0),(4,.ptr 4 0),(5,.sref 8),(10,rV 13 (s1.runs.map (Z1 .rd))),(11,iV (s1.runs.length:Int)),(12,iV (i4:Int))],[],[(2,(V2 .rd s1).cells),(4,[.nl,.nl,.nl,iV 0,iV 0,iV 0,iV 0,iV 0,.nl,.nl,.nl])],[(8,⟨13,v4.map (Z1 .rd),false⟩)]⟩) H (λi4 x4 v4 I m k4 hxv4 hiv4 H N19=>?_) (λv4 I m H=>?_)
 .unfold Q7 at H
  refine wP (wt (ltT hiv4) ?_)
  obtain⟨b5,h5,H⟩:=bB H
  refine wH [.u 14 (.ix _ _ _ λ_=>W0 (Z1 .rd) (Y1 hxv4)),.c 20 (Lb h5)] ?_
  refine M0 H ?_ ?_<;>intro H
  .obtain⟨xs6,h6,H⟩:=bB H
   exact wH [.u 25 (.ap _ _ _ _ λ_=>L0 (Z1 .rd) h6),.w 26 (wi .i64 rfl hiv4 q3.1)] (wT (N19 _ H))
  .exact wH [.w 26 (wi .i64 rfl hiv4 q3.1)] (wT (N19 _ H))
 .unfold Ye at H
  refine wP (wf (ltF s1.runs.length) ?_)
  refine wP ?_
  replace H:=sI H;subst H
  exact W3 [(4,.d)] [(4,[.d,.d,.d,.d,.d,.d,.d,.d,.d,.f,.d])] [] [8] [] (by kernel_rfl)
noncomputable def V0O:L :=
 lf Tryz.prog W0i [32,59] [(35,2),(43,2),(55,2),(71,2)] [(42,1),(54,1)] [] [] [(1,[],[8],[0,2,4,6,8,10,12,14],9),(8,[],[],[0,6,3,5],4),(11,[],[],[0,6,3,5],4),(16,[],[],[0,2,4,6,10,9],6)] [63]
def Lu(s1:State)(j2:Job)(x17:Int)(_:Nat)(v17:List Int)(k17:List Int->Option ((List Int)×Bool)):Option ((List Int)×Bool) :=
 (WC v17 x17).bind λy18=>(L4 s1 y18).bind λy19=>(Xh y19 j2).bind λb20=>bif b20 then((WC v17 x17).bind λy21=>k17 y21)else(k17 v17)
def UK(v17:List Int):Option ((List Int)×Bool) :=
 some (v17,true)
def Vf(s1:State)(j2:Job)(v12:List Int):Option ((List Int)×Bool) :=
 (L4 s1 v12).bind λy13=>(Xh y13 j2).bind λb14=>bif !b14 then(some ([],false))else((appL 8 ([]:List Int) v12).bind λxs15=>rgl (Lu s1 j2) UK xs15 0 v12)
def Ju(s1:State)(j2:Job)(x8:Run)(_:Nat)(v8:List Int)(k8:List Int->Option ((List Int)×Bool)):Option ((List Int)×Bool) :=
 (L4 s1 v8).bind λy9=>(Xh y9 j2).bind λb10=>bif b10 then((Vf s1 j2) v8)else((appL 8 v8 [x8.job.id]).bind λxs11=>k8 xs11)
def QK(s1:State)(j2:Job)(v8:List Int):Option ((List Int)×Bool) :=
 (Vf s1 j2) v8
def MI(s1:State)(j2:Job):Option ((List Int)×Bool) :=
 (Mf s1).bind λy3=>(Q8 y3 j2.id).bind λy4=>(X6 s1).bind λb5=>bif ((!b5)||(!(X1 j2)))||y4.2 then(some ([],false))else((OI s1 j2).bind λy6=>rgl (Ju s1 j2) (QK s1 j2) y6 0 [])
theorem X0K{s1:State}{j2:Job}{r:(List Int)×Bool}(H:MI s1 j2=some r):Snd Tryz.prog W0i [V2 .rd s1,eJob j2] (.tup [nV 1 (r.1.map eI),.bool r.2]) []:=by
 refine wS V0O [.t 4,.t 5] ?_
 unfold MI at H
 obtain⟨y3,h3,y4,h4,b5,h5,H⟩:=bB3 H
 refine wH [.c 15 (Zy h3),.c 18 (Um h4),.c 22 (Q6 h5),.g 26 [((!b5),false)] (.call _ _ _ _ _ (AEs.refl _) (λ_=>XA j2))] ?_
 refine M0 H ?_ ?_<;>intro H
 .refine wP ?_
  replace H:=sI H;subst H
  exact wN [(4,.n 1),(5,.d)] [] [] [] [] [⟨_,nw_I ([]:List Int)⟩]
 .obtain⟨y6,h6,H⟩:=bB H
  refine wG [.u 35 (.cw XI [] [] [] [] [V2 .rd s1,eJob j2] _ _ _ _ _ (GEs.of [false,false] (by simp)) (by simp) (by simp) (by simp) (λ_=>J0J h6)),.u 36 (.ln _ _ λ_=>lm y6 (Z1 .rd))] λq7=>?_
  refine J3 (r:=r) (Vf s1 j2) 0 (λv12:(List Int)=>⟨[(2,.ptr 2 0),(3,.ptr 3 0),(8,.sref 32)],[],[(2,(V2 .rd s1).cells),(3,(eJob j2).cells)],[(32,⟨1,v12.map eI,true⟩)]⟩) (by kernel_rfl) (λv12 H=>?_) (λJ63=>?_)
  .unfold Vf at H
   obtain⟨y13,h13,b14,h14,H⟩:=bB2 H
   refine wH [.u 54 (.sc _ none none _ λ_=>M1q (v12.map eI)),.u 55 (.cz Ze [] [] [V2 .rd s1,nV 1 (v12.map eI)] _ _ _ (by simp) (by simp) (λ_=>by simp) (λ_=>Me h13)),.c 57 (MV h14)] ?_
   refine M0 H ?_ ?_<;>intro H
   .refine wP ?_
    replace H:=sI H;subst H
    exact wN [(4,.n 1),(5,.d)] [] [] [] [] [⟨_,nw_I ([]:List Int)⟩]
   .obtain⟨xs15,h15,H⟩:=bB H
    refine wG [.u 61 (.ap _ _ _ _ λ_=>L0 eI h15),.u 62 (.ln _ _ λ_=>lm xs15 eI)] λq16=>?_
    refine X05 (λ(i17:Nat) (v17:List Int)=>⟨[(2,.ptr 2 0),(3,.ptr 3 0),(8,nV 1 (v17.map eI)),(61,.sref 59),(62,iV (xs15.length:Int)),(63,iV (i17:Int))],[],[(2,(V2 .rd s1).cells),(3,(eJob j2).cells)],[(59,⟨1,xs15.map eI,false⟩)]⟩) [(8,.f)] [] [] [32] (by kernel_rfl) (by kernel_rfl) H (λi17 x17 v17 I m k17 hxv17 hiv17 H N56=>?_) (λv17 I m H=>?_)
    .unfold Lu at H
     refine wP (wt (ltT hiv17) ?_)
     obtain⟨y18,h18,y19,h19,b20,h20,H⟩:=bB3 H
     refine wH [.u 65 (.ix _ _ _ λ_=>W0 eI (Y1 hxv17)),.u 66 (.el _ _ _ λ_=>gm eI (W4 (Y1 hxv17))),.c 70 (O0f h18),.u 71 (.cz Ze [] [] [V2 .rd s1,nV 1 (y18.map eI)] _ _ _ (by simp) (by simp) (λ_=>by simp) (λ_=>Me h19)),.c 73 (MV h20)] ?_
     refine M0 H ?_ ?_<;>intro H
     .obtain⟨y21,h21,H⟩:=bB H
      exact wH [.c 76 (O0f h21),.w 77 (wi .i64 rfl hiv17 q16.1)] (wT (N56 _ H))
     .exact wH [.w 77 (wi .i64 rfl hiv17 q16.1)] (wT (N56 _ H))
    .unfold UK at H
     refine wP (wf (ltF xs15.length) ?_)
     refine wP ?_
     replace H:=sI H;subst H
     exact wN [(4,.d),(5,.d)] [] [] [] [] [⟨_,nw_I v17⟩]
  .refine X05 (λ(i8:Nat) (v8:List Int)=>⟨[(2,.ptr 2 0),(3,.ptr 3 0),(8,.sref 32),(35,.sref 36000),(36,iV (y6.length:Int)),(37,iV (i8:Int))],[],[(2,(V2 .rd s1).cells),(3,(eJob j2).cells)],[(32,⟨1,v8.map eI,true⟩),(36000,⟨13,y6.map (Z1 .rd),false⟩)]⟩) [] [] [] [32] (by kernel_rfl) (by kernel_rfl) H (λi8 x8 v8 I m k8 hxv8 hiv8 H N29=>?_) (λv8 I m H=>?_)
   .unfold Ju at H
    refine wP (wt (ltT hiv8) ?_)
    obtain⟨y9,h9,b10,h10,H⟩:=bB2 H
    refine wH [.u 39 (.ix _ _ _ λ_=>W0 (Z1 .rd) (Y1 hxv8)),.u 40 (.el _ _ _ λ_=>gm (Z1 .rd) (W4 (Y1 hxv8))),.u 42 (.sc _ none none _ λ_=>M1q (v8.map eI)),.u 43 (.cz Ze [] [] [V2 .rd s1,nV 1 (v8.map eI)] _ _ _ (by simp) (by simp) (λ_=>by simp) (λ_=>Me h9)),.c 45 (MV h10)] ?_
    refine M0 H ?_ ?_<;>intro H
    .refine wP ?_
     exact wT (J63 _ H)
    .obtain⟨xs11,h11,H⟩:=bB H
     exact wH [.u 51 (.ap _ _ _ _ λ_=>L0 eI h11),.w 52 (wi .i64 rfl hiv8 q7.1)] (wT (N29 _ H))
   .unfold QK at H
    refine wP (wf (ltF y6.length) ?_)
    refine wP ?_
    exact wT (J63 _ H)
noncomputable def V0w:L :=
 lf Tryz.prog Lv [] [] [] [] [] [] []
def OH(x1:Run)(x2:List Int):Option Bool :=
 (X3 x2 x1.job.id).bind λb3=>some b3
theorem L0w{x1:Run}{x2:List Int}{r:Bool}(H:OH x1 x2=some r):Snd Tryz.prog Lv [Z1 .rd x1,.ept (.agg [rV 1 (x2.map eI)]) 0] (.bool r) []:=by
 refine wS V0w [.t 3] ?_
 unfold OH at H
 obtain⟨b3,h3,H⟩:=bB H
 refine wH [.c 8 (M5 h3)] ?_
 replace H:=sI H;subst H
 exact wE [(3,.d)]
noncomputable def J0O:L :=
 lf Tryz.prog Z0j [] [(6,1),(10,2)] [] [] [] [] []
def Xo(s1:State)(ids2:List Int):Option State :=
 (Ql s1).bind λy3=>(delF (λx4=>OH x4 ids2) y3.runs).bind λxs5=>some (State.mk y3.topo y3.up y3.lic y3.depth y3.now y3.queue xs5 y3.ends)
theorem ZR{s1:State}{ids2:List Int}{r:State}(H:Xo s1 ids2=some r):Snd Tryz.prog Z0j [V2 .rd s1,rV 1 (ids2.map eI)] (V2 .nw r) []:=by
 refine wS J0O [.c 4 11 true] ?_
 unfold Xo at H
 obtain⟨y3,h3,xs5,h5,H⟩:=bB2 H
 refine wH [.c 6 (ZZ h3),.u 10 (.cr X4 13 _ [.fn Lv [.ept (.agg [rV 1 (ids2.map eI)]) 0]] [.fn Lv [.ept (.agg [rV 1 (ids2.map eI)]) 0]] true _ (λ_=>by simp) (λ_=>by simp) (λ_=>by simp) (λ_=>Y11 (tg:=.nw) (by kernel_rfl) (λx b hb=>L0w hb) h5))] ?_
 replace H:=sI H;subst H
 exact wN [(4,.d)] [(4,[.d,.d,.d,.d,.d,.d,.d,.d,.f,.f,.f])] [] [7000,11000,7002] [] [⟨_,nw_I y3.topo.parents⟩,⟨_,L2 y3.topo.nodes⟩,⟨_,Mr y3.up⟩,⟨_,VC y3.queue⟩,⟨_,UE xs5⟩,⟨_,VY y3.ends⟩]
noncomputable def Y0P:L :=
 lf Tryz.prog Y0j [] [] [] [] [] [] []
def Xx(s1:State)(ids2:List Int):Option State :=
 (Oo s1).bind λb3=>bif !b3 then(some (State.mk (Topo.mk [] []) [] (Vec.mk 0 0 0) 0 0 [] [] []))else((Xo s1 ids2).bind λy4=>some y4)
theorem Z09{s1:State}{ids2:List Int}{r:State}(H:Xx s1 ids2=some r):Snd Tryz.prog Y0j [V2 .rd s1,rV 1 (ids2.map eI)] (V2 .nw r) []:=by
 refine wS Y0P [.c 4 11 true] ?_
 unfold Xx at H
 obtain⟨b3,h3,H⟩:=bB H
 refine wH [.c 6 (WR h3)] ?_
 refine M0 H ?_ ?_<;>intro H
 .refine wP ?_
  replace H:=sI H;subst H
  exact wN [(4,.d)] [(4,[.n 1,.n 4,.n 1,.d,.d,.d,.d,.d,.n 11,.n 13,.n 3])] [] [] [] [⟨_,nw_I ([]:List Int)⟩,⟨_,L2 ([]:List Node)⟩,⟨_,Mr ([]:List Bool)⟩,⟨_,VC ([]:List Job)⟩,⟨_,UE ([]:List Run)⟩,⟨_,VY ([]:List End)⟩]
 .obtain⟨y4,h4,H⟩:=bB H
  refine wH [.c 11 (ZR h4)] ?_
  replace H:=sI H;subst H
  exact wN [(4,.d)] [(4,[])] [] [] [] [⟨_,nw_I y4.topo.parents⟩,⟨_,L2 y4.topo.nodes⟩,⟨_,Mr y4.up⟩,⟨_,VC y4.queue⟩,⟨_,UE y4.runs⟩,⟨_,VY y4.ends⟩]
noncomputable def Y0X:L :=
 lf Tryz.prog O0s [] [] [] [] [] [] []
def Qh(s1:State)(j2:Job):Option Bool :=
 (Oo s1).bind λb3=>bif !b3 then(some false)else((QF s1).bind λy4=>(Ur y4.1 j2 s1.now).bind λy5=>some (y5.2.2&&(y5.1==s1.now)))
theorem YI{s1:State}{j2:Job}{r:Bool}(H:Qh s1 j2=some r):Snd Tryz.prog O0s [V2 .rd s1,eJob j2] (.bool r) []:=by
 refine wS Y0X [.t 4] ?_
 unfold Qh at H
 obtain⟨b3,h3,H⟩:=bB H
 refine wH [.c 11 (WR h3)] ?_
 refine M0 H ?_ ?_<;>intro H
 .obtain rfl:=sI H
  exact wP (wE [(4,.d)])
 .obtain⟨y4,h4,y5,h5,H⟩:=bB2 H
  refine wH [.c 15 (Z0h h4),.u 23 (.call _ _ _ _ _ (AEs.of (xs:=[.agg [rV 1 (y4.1.topo.parents.map eI),rV 4 (y4.1.topo.nodes.map V1),rV 1 (y4.1.up.map eBo),rV 1 (y4.1.profs.map (J1 .nw)),rV 4 (y4.1.lics.map ePt)],.agg [iV j2.id,iV j2.prio,iV j2.nodes,iV j2.need.a,iV j2.need.b,iV j2.need.c,iV j2.lic.a,iV j2.lic.b,iV j2.lic.c,iV j2.wall,iV j2.level],iV s1.now]) (by simp)) (λ_=>Z0H h5))] ?_
  replace H:=sI H;subst H
  exact wE [(4,.d)]
noncomputable def Q0w:L :=
 lf Tryz.prog Zl [] [] [] [] [] [] []
def Vv(x1:Run)(x2:Job):Option Bool :=
 some (decide (x2.prio<=x1.job.prio))
theorem Y0l{x1:Run}{x2:Job}{r:Bool}(H:Vv x1 x2=some r):Snd Tryz.prog Zl [Z1 .rd x1,.ept (eJob x2) 0] (.bool r) []:=by
 refine wS Q0w [.t 3] ?_
 unfold Vv at H
 obtain rfl:=sI H
 exact wP (wE [(3,.d)])
def Js(x1:Run)(x2:Job):Bool :=
 (decide (x2.prio<=x1.job.prio))
theorem O0G(x1:Run)(x2:Job):Vv x1 x2=some (Js x1 x2):=by
 unfold Vv Js
 first|rfl|simp only[O5]
theorem Z0x(x1:Run)(x2:Job):Snd Tryz.prog Zl [Z1 .rd x1,.ept (eJob x2) 0] (.bool (Js x1 x2)) []:=Y0l (O0G x1 x2)
noncomputable def X0P:L :=
 lf Tryz.prog X0j [33,76] [(27,1),(30,2),(32,2),(62,1)] [] [] [(1,16),(6,6),(13,5)] [(12,[],[],[0,2,4,8,10,12,14,7],8)] [16292]
def Qf(s1:State)(j2:Job)(v17:(List Int)×Int)(k17:((List Int)×Int)->Option ((List Int)×Bool)):Option ((List Int)×Bool) :=
 bif decide (v17.2<(v17.1.length:Int))then((cutL v17.1 none (some v17.2)).bind λxs19=>(cutL v17.1 (some (w64 (v17.2+1))) none).bind λxs20=>(M7 xs19).bind λy21=>(appL 8 y21 xs20).bind λxs22=>(Xo s1 xs22).bind λy23=>(Qh y23 j2).bind λb24=>bif b24 then(k17 (xs22,v17.2))else(k17 (v17.1,(w64 (v17.2+1)))))else((appL 8 ([]:List Int) v17.1).bind λxs25=>some (xs25,true))
def Jk(s1:State)(j2:Job)(xs9:List Run)(v10:List Int)(k10:List Int->Option ((List Int)×Bool)):Option ((List Int)×Bool) :=
 (Xo s1 v10).bind λy11=>(Qh y11 j2).bind λb12=>bif !b12 then(bif (v10.length:Int)==(xs9.length:Int)then(some ([],false))else((idx xs9 (v10.length:Int)).bind λe14=>(appL 8 v10 [e14.job.id]).bind λxs15=>k10 xs15))else(whl (Qf s1 j2) 9223372036854775807 (v10,0))
def XJ(s1:State)(j2:Job):Option ((List Int)×Bool) :=
 (Oo s1).bind λb3=>(bif (!b3)||(!(U6 j2))then some default else(Zt s1)).bind λy4=>(bif (!b3)||(!(U6 j2))then some default else(MY y4 j2.id)).bind λn5=>bif ((!b3)||(!(U6 j2)))||decide (0<=n5)then(some ([],false))else((Ql s1).bind λy6=>(delF (λx7=>some (Js x7 j2)) y6.runs).bind λxs8=>(M0m xs8).bind λxs9=>whl (Jk s1 j2 xs9) 9223372036854775807 [])
theorem Z0Q{s1:State}{j2:Job}{r:(List Int)×Bool}(H:XJ s1 j2=some r):Snd Tryz.prog X0j [V2 .rd s1,eJob j2] (.tup [.sref 0,.bool r.2]) [⟨1,r.1.map eI,false⟩]:=by
 refine wS X0P [.t 4,.t 5] ?_
 unfold XJ at H
 obtain⟨b3,h3,y4,h4,n5,h5,H⟩:=bB3 H
 refine wH [.c 11 (WR h3),.g 15 [((!b3),false)] (.call _ _ _ _ _ (AEs.refl _) (λ_=>ZC j2)),.g 20 [(_,false)] (.call _ _ _ _ _ (AEs.refl _) (λq=>XZ (bF q.1 h4))),.g 23 [(_,false)] (.call _ _ _ _ _ (AEs.refl _) (λq=>Q18 (bF q.1 h5)))] ?_
 refine M0 H ?_ ?_<;>intro H
 .refine wP ?_
  replace H:=sI H;subst H
  exact wN [(4,.d),(5,.d)] [] [] [] [none] []
 .obtain⟨y6,h6,xs8,h8,xs9,h9,H⟩:=bB3 H
  refine wH [.c 27 (ZZ h6),.u 30 (.cr X4 13 _ [.fn Zl [.ept (eJob j2) 0]] [.fn Zl [.ept (eJob j2) 0]] true _ (λ_=>by simp) (λ_=>by simp) (λ_=>by simp) (λ_=>Y11 (tg:=.nw) (by kernel_rfl) (λx b hb=>by cases hb;exact Z0x x j2) h8)),.u 32 (.cr Ue 13 _ [.fn W05 []] _ false _ (λ_=>by simp) (λ_=>by simp) (λ_=>by simp) (λ_=>Q1i (tg:=.nw) h9))] ?_
  refine wW (λ(v10:List Int)=>⟨[(2,.ptr 2 0),(3,.ept (eJob j2) 0),(6,.sref 31000),(7,.sref 33)],[],[(2,(V2 .rd s1).cells)],[(31000,⟨13,xs9.map (Z1 .nw),false⟩),(33,⟨1,v10.map eI,false⟩)]⟩) H (λv10 I m k10 H N27=>?_)
  unfold Jk at H
  obtain⟨y11,h11,b12,h12,H⟩:=bB2 H
  refine wH [.c 36 (ZR h11),.u 38 (.call _ _ _ _ _ (AEs.of (xs:=[.agg [rV 1 (y11.topo.parents.map eI),rV 4 (y11.topo.nodes.map V1),rV 1 (y11.up.map eBo),iV y11.lic.a,iV y11.lic.b,iV y11.lic.c,iV y11.depth,iV y11.now,rV 11 (y11.queue.map eJob),rV 13 (y11.runs.map (Z1 .nw)),rV 3 (y11.ends.map eEnd)],.agg [iV j2.id,iV j2.prio,iV j2.nodes,iV j2.need.a,iV j2.need.b,iV j2.need.c,iV j2.lic.a,iV j2.lic.b,iV j2.lic.c,iV j2.wall,iV j2.level]]) (by simp)) (λ_=>YI h12))] ?_
  refine M0 H ?_ ?_<;>intro H
  .refine wG [.u 41 (.ln _ _ λ_=>lm v10 eI),.u 43 (.ln _ _ λ_=>lm xs9 (Z1 .nw))] λq13=>?_
   refine M0 H ?_ ?_<;>intro H
   .refine wP ?_
    replace H:=sI H;subst H
    exact wN [(4,.d),(5,.d)] [] [] [] [none] []
   .obtain⟨e14,h14,xs15,h15,H⟩:=bB2 H
    refine wG [.u 48 (.ln _ _ λ_=>lm v10 eI),.u 49 (.ix _ _ _ λ_=>W0 (Z1 .nw) h14),.u 52 (.el _ _ _ λ_=>gm (Z1 .nw) (W4 h14)),.u 54 (.ap _ _ _ _ λ_=>L0 eI h15)] λq16=>?_
    exact wT (N27 _ H)
  .refine wP ?_
   refine W11 (λ(v17:(List Int)×Int)=>⟨[(2,.ptr 2 0),(3,.ept (eJob j2) 0),(7,nV 1 (v17.1.map eI)),(8,iV v17.2)],[],[(2,(V2 .rd s1).cells)],[]⟩) [(7,.f)] [] [] [33] (by kernel_rfl) (by kernel_rfl) H (λv17 I m k17 H N44=>?_)
   unfold Qf at H
   refine wG [.u 57 (.ln _ _ λ_=>lm v17.1 eI)] λq18=>?_
   refine M0 H ?_ ?_<;>intro H
   .refine wP ?_
    refine M1U [] [] [] (by kernel_rfl) ?_
    obtain⟨xs19,h19,xs20,h20,y21,h21,H⟩:=bB3 H
    obtain⟨xs22,h22,y23,h23,b24,h24,H⟩:=bB3 H
    refine wH [.u 61 (.sc _ _ _ _ λ_=>Y02 eI h19),.u 66 (.sc _ _ _ _ λ_=>Y02 eI h20),.c 62 (UL h21),.u 67 (.ap _ _ _ _ λ_=>L0 eI h22),.c 70 (ZR h23),.u 72 (.call _ _ _ _ _ (AEs.of (xs:=[.agg [rV 1 (y23.topo.parents.map eI),rV 4 (y23.topo.nodes.map V1),rV 1 (y23.up.map eBo),iV y23.lic.a,iV y23.lic.b,iV y23.lic.c,iV y23.depth,iV y23.now,rV 11 (y23.queue.map eJob),rV 13 (y23.runs.map (Z1 .nw)),rV 3 (y23.ends.map eEnd)],.agg [iV j2.id,iV j2.prio,iV j2.nodes,iV j2.need.a,iV j2.need.b,iV j2.need.c,iV j2.lic.a,iV j2.lic.b,iV j2.lic.c,iV j2.wall,iV j2.level]]) (by simp)) (λ_=>YI h24))] ?_
    refine M0 H ?_ ?_<;>intro H
    .refine wP ?_
     exact wU (N44 _ H) [(7,.f)] [] [] [63000]
    .refine wP ?_
     exact wT (N44 _ H)
   .obtain⟨xs25,h25,H⟩:=bB H
    refine wH [.u 78 (.ap _ _ _ _ λ_=>L0 eI h25)] ?_
    replace H:=sI H;subst H
    exact wN [(4,.d),(5,.d)] [] [(76,some 76,0)] [] [some 76] [⟨_,nw_I xs25⟩]
end
section
theorem X1H{s:State}(hs:s.queue.length+s.runs.length<=1048576)(j:Job):∃b,Xh s j=some b/\Qh s j=some b:=by
 obtain⟨h1,h2⟩:=Wf hs
 unfold Xh Qh
 rw[h1,h2,Y0h,bS,bS]
 cases stateOk s with
 |false=>exact⟨false,rfl,rfl⟩
 |true =>
  obtain⟨q,hq,_⟩:=Uk s
  simp only[yL,yM,hq,bS,O1l,Wk]
  exact⟨_,rfl,rfl⟩
def insJ(x:Job):List Job->List Job
 |[]=>[x]
 |y::l=>if V7 x y then x::y::l else y::insJ x l
theorem J0o(x:Job):∀l:List Job,(insJ x l).Perm (x::l)
 |[]=>.refl _
 |y::l=>by
  unfold insJ
  split
  .exact .refl _
  .exact((J0o x l).cons y).trans (.swap x y l)
theorem Q1J(x:Job)(l:List Job):(insJ x l).length=l.length+1:=(J0o x l).length_eq
theorem Q1e{x y:Job}(h:V7 x y=true):Q0D x y=true:=by
 unfold V7 at h;unfold Q0D
 simp at h ⊢;omega
theorem J15{x y:Job}(h:¬ V7 x y=true):Q0D y x=true:=by
 unfold V7 at h;unfold Q0D
 simp at h ⊢;omega
theorem Z1k{x y z:Job}(h1:Q0D x y=true)(h2:Q0D y z=true):Q0D x z=true:=by
 unfold Q0D at *
 simp at h1 h2 ⊢;omega
theorem M0P(x:Job):∀{l:List Job},l.Pairwise (λa b=>Q0D a b=true)->(insJ x l).Pairwise (λa b=>Q0D a b=true)
 |[],_=>by simp[insJ]
 |y::l,h=>by
  unfold insJ
  obtain⟨h1,h2⟩:=List.pairwise_cons.1 h
  split
  .rename_i hb
   refine List.pairwise_cons.2 ⟨λz hz=>?_,h⟩
   rcases yX hz with rfl|hz
   .exact Q1e hb
   .exact Z1k (Q1e hb) (h1 z hz)
  .rename_i hb
   refine List.pairwise_cons.2 ⟨λz hz=>?_,M0P x h2⟩
   rcases yX ((J0o x l).mem_iff.1 hz)with rfl|hz
   .exact J15 hb
   .exact h1 z hz
def ordF(l:List Job):List Job:=l.foldl (λv x=>insJ x v) []
theorem J1n:∀(l v:List Job),(l.foldl (λv x=>insJ x v) v).Perm (l++v)/\(v.Pairwise (λa b=>Q0D a b=true)->(l.foldl (λv x=>insJ x v) v).Pairwise (λa b=>Q0D a b=true))
 |[],v=>⟨.refl _,id⟩
 |x::l,v=>by
  obtain⟨h1,h2⟩:=J1n l (insJ x v)
  exact⟨h1.trans (((J0o x v).append_left l).trans List.perm_middle),λh=>h2 (M0P x h)⟩
theorem O0L(l:List Job):(ordF l).Perm l:=by unfold ordF;simpa using(J1n l []).1
theorem O1R(x:Job)(k:List Job->Option (List Job))(l:List Job):∀(i:Nat) (acc:List Job),acc.length+l.length<=1000002->rgl (Ul x) (Vl x k) l i (true,acc)=k (acc++l):=by
 induction l with
 |nil=>intro i acc h;simp[rgl,Vl]
 |cons y l ih =>
  intro i acc h
  simp only[yT]at h
  rw[rgl,Ul]
  simp only[yL,Bool.false_and,yM,Jb]
  rw[O0 (by simp;omega),bS,ih (i+1) (acc++[y]) (by simp;omega)]
  simp
theorem Q20(x:Job)(k:List Job->Option (List Job))(l:List Job):∀(i:Nat) (p:Bool) (acc:List Job),acc.length+l.length<=1000000->rgl (Ul x) (Vl x k) l i (p,acc)=k (acc++if p then l else insJ x l):=by
 induction l with
 |nil =>
  intro i p acc h
  simp only[rgl,Vl]
  cases p with
  |true=>simp
  |false =>
   simp only[Bool.not_false,yN,insJ]
   rw[O0 (by simp at h ⊢;omega),bS];simp
 |cons y l ih =>
  intro i p acc h
  simp only[yT]at h
  rw[rgl,Ul]
  cases p with
  |true =>
   simp only[yL,Bool.false_and,yM,Jb,yb]
   rw[O0 (by simp;omega),bS,ih (i+1) true (acc++[y]) (by simp;omega)]
   simp
  |false =>
   simp only[Bool.not_false,Bool.true_and,insJ]
   cases hb:V7 x y with
   |true =>
    simp only[yN,yb,Jb]
    rw[O0 (by simp;omega),bS,O0 (by simp;omega),bS]
    rw[O1R x k l (i+1) _ (by simp;omega)]
    simp
   |false =>
    simp only[yM,Jb]
    rw[O0 (by simp;omega),bS,ih (i+1) false (acc++[y]) (by simp;omega)]
    simp
theorem U1I(l:List Job):∀(i:Nat) (v:List Job),v.length+l.length<=1000000->rgl YH OV l i v=some (l.foldl (λv x=>insJ x v) v):=by
 induction l with
 |nil=>intro i v _;rfl
 |cons x l ih =>
  intro i v h
  simp only[yT]at h
  rw[rgl,YH,Q20 x _ v 0 false [] (by simp;omega)]
  simp only[List.nil_append,yG,yc]
  rw[ih (i+1) (insJ x v) (by rw[Q1J];omega)]
  rfl
theorem Qb{l:List Job}(h:queueOk l=true):l.length<=60/\(∀x∈l,X1 x=true)/\(l.map Job.id).Nodup:=by
 unfold queueOk idsOk at h
 simp only[yD,yO,List.all_eq_true]at h
 exact⟨h.1.1,h.1.2,h.2⟩
theorem O13{l:List Job}(h:queueOk l=true):ZY l=some (ordF l):=by
 unfold ZY
 rw[OP,bS,h]
 simp only[yL,yM]
 have:=(Qb h).1
 exact U1I l 0 [] (by simp;omega)
theorem Z0u(r:Room)(j:Job)(t:Int)(nodes:List Int):∃q,Zn r j t nodes=some q/\(q.2=true->nodes.length<=24):=by
 rw[U07]
 cases hd:(diffOk r j nodes&&time t)with
 |false=>exact⟨Oh,rfl,λh=>by cases h⟩
 |true =>
  simp only[yD]at hd
  have hd1:=hd.1
  unfold diffOk at hd1
  simp only[yD,yO]at hd1
  obtain⟨q,q1,_⟩:=V00 (Zx.1 hd1.1.1.1.1) j.need j.lic t (w64 (t+j.wall)) hd1.1.2
  exact⟨q,q1,λ_=>by have:=Zo.1 hd1.1.1.1.2;omega⟩
structure HeldsOk(L:List Job)(hs:List Held):Prop where
 sub:(hs.map Held.id).Sublist (L.map Job.id)
 nodes:∀h∈hs,h.nodes.length<=24
theorem Y1z{r:Room}{now d:Int}{L:List Job}(hL:L.length<=60):∃p,rgl (Ug now d) Un L 0 (r,[],[])=some p/\HeldsOk L p.1:=by
 refine X7 (λi (v:Room×List Held×List Held)=>HeldsOk (L.take i) v.2.1/\v.2.1.length<=i/\v.2.2.length<=i) (λo=>∃p:List Held×List Held×Bool,o=some p/\HeldsOk L p.1) (λi x v k hx hI hk=>?_) (λv hI=>?_) ⟨⟨by simp,by simp⟩,by simp,by simp⟩
 .obtain⟨hi,rfl⟩:=yB hx
  obtain⟨hI,l1,l2⟩:=hI
  have grow:∀{hs},HeldsOk (L.take i) hs->HeldsOk (L.take (i+1)) hs:=λh=>⟨h.sub.trans ((List.take_sublist_take_left (by omega)).map _),h.nodes⟩
  unfold Ug
  rw[Wk,bS]
  generalize (bif roomOk v.1&&X1 L[i]&&time now then J1k v.1 L[i] now else(0,[],false))=y
  cases hc:((!y.2.2)||(decide (now<y.1)&&decide (d<=(v.2.2.length:Int))))with
  |true=>exact hk _ ⟨grow hI,by simp only;omega,by simp only;omega⟩
  |false =>
   obtain⟨q,q1,q2⟩:=Z0u v.1 L[i] y.1 y.2.1
   simp only[yM,q1,bS]
   cases hq:q.2 with
   |false=>exact hk _ ⟨grow hI,by simp only;omega,by simp only;omega⟩
   |true =>
    have hn:=q2 hq
    simp only[yL,yM]
    cases y.1==now with
    |true =>
     simp only[yN]
     rw[O0 (by simp;omega),bS]
     refine hk _ ⟨⟨?_,λh hh=>?_⟩,by simp;omega,by simp only;omega⟩
     .rw[List.take_succ_eq_append_getElem hi,List.map_append,List.map_append]
      exact hI.sub.append (.refl _)
     .rcases List.mem_append.1 hh with hh|hh
      .exact hI.nodes h hh
      .rw[List.mem_singleton.1 hh];exact hn
    |false =>
     simp only[yM]
     rw[O0 (by simp;omega),bS]
     exact hk _ ⟨grow hI,by simp only;omega,by simp;omega⟩
 .rw[List.take_of_length_le (yV _)]at hI
  exact⟨_,rfl,hI.1⟩
structure SmallS(s:State):Prop where
 up:s.up.length<=1048576
 par:s.topo.parents.length<=1048576
 nodes:s.topo.nodes.length<=1048576
 jobs:s.queue.length+s.runs.length<=1048576
 ends:s.ends.length<=1048576
 run:∀x∈s.runs,x.nodes.length<=1048576
theorem StateP.small{s:State}(h:StateP s):SmallS s:=by
 have hq:=(Qb h.queue).1
 unfold allJobs at hq
 simp only[yU,List.length_map]at hq
 exact⟨by have:=h.up;have:=h.topo.nodes;omega,by have:=h.topo.tree.le;omega,by have:=h.topo.nodes;omega,by omega,by have:=h.ends;omega,λx hx=>by
  obtain⟨h1,h2,_⟩:=h.runs.job x hx
  have:=Zo.1 h1;omega⟩
theorem Om{s:State}(h:SmallS s):M9 s=some s:=by
 unfold M9
 have:=h.up;have:=h.par;have:=h.nodes;have:=h.jobs;have:=h.ends
 rw[O0 (by simp;omega),bS,O0 (by simp;omega),bS,O0 (by simp;omega),bS,O0 (by simp;omega),bS]
 rw[V6 (bd:=Yu) (bs:=120) (p:=λ_=>true) (f:=id) (λx hx i b k=>by
  have:=h.run x hx
  unfold Yu
  rw[O0 (by simp;omega),bS];simp) (by simp;omega)]
 unfold LJ
 rw[O0 (by simp;omega),bS]
 simp[List.filter_eq_self.2]
theorem Q0z{s:State}(h:SmallS s):Ql s=some s:=by
 unfold Ql Lg M7
 have:=h.up;have:=h.par;have:=h.nodes;have:=h.jobs;have:=h.ends
 rw[O0 (by simp;omega),bS,bS,O0 (by simp;omega),bS,bS,O0 (by simp;omega),bS,O0 (by simp;omega),bS]
 rw[V6 (bd:=Zm) (bs:=120) (p:=λ_=>true) (f:=id) (λx hx i b k=>by
  have:=h.run x hx
  unfold Zm M7
  rw[O0 (by simp;omega),bS,bS];simp) (by simp;omega)]
 unfold UB
 rw[O0 (by simp;omega),bS]
 simp[List.filter_eq_self.2]
theorem Z1E(j:Job)(b:List Job)(id:Int)(hj:j.id=id):∀(a:List Job) (i:Nat),(∀x∈a,x.id≠id)->rgl (Oa id) JJ (a++j::b) i ()=some (j,true)
 |[],i,_=>by simp[rgl,Oa,hj]
 |x::a,i,h=>by
  have hx:(x.id==id)=false:=by simpa using h x (yJ ..)
  rw[List.cons_append,rgl,Oa,hx,yM]
  exact Z1E j b id hj a (i+1) λy hy=>h y (yH _ hy)
theorem U20{j:Job}{a b:List Job}{id:Int}(hl:a.length+b.length<=1048576)(hj:j.id=id)(ha:∀x∈a,x.id≠id)(hb:∀x∈b,x.id≠id):Vm (a++j::b) id=some (a++b):=by
 unfold Vm
 rw[V6 (bd:=Lx id) (bs:=88) (p:=λx=>x.id != id) (f:=λx=>x) (λx _ i b k=>rfl) (by simp;omega)]
 unfold LO
 have e1:a.filter (λx=>x.id != id)=a:=List.filter_eq_self.2 λx hx=>by simpa using ha x hx
 have e2:b.filter (λx=>x.id != id)=b:=List.filter_eq_self.2 λx hx=>by simpa using hb x hx
 rw[List.filter_append,List.filter_cons,e1,e2]
 simp[hj]
structure StartP(s s':State)(new:List Run):Prop where
 topo:s'.topo=s.topo
 up:s'.up=s.up
 lic:s'.lic=s.lic
 depth:s'.depth=s.depth
 now:s'.now=s.now
 ends:s'.ends=s.ends
 runs:s'.runs=s.runs++new
 fresh:∀x∈new,x.t=s.now/\x.nodes.length<=24
 perm:(s'.queue++new.map Run.job).Perm s.queue
theorem StartP.len{s s':State}{new:List Run}(h:StartP s s' new):s'.queue.length+s'.runs.length=s.queue.length+s.runs.length:=by
 have:=h.perm.length_eq
 rw[h.runs]
 simp at this ⊢;omega
def vHas(l:List Job)(id:Int):Bool:=l.any λy=>y.id==id
theorem V1W(l:List Job)(id:Int):∃y,Q8 l id=some y/\y.2=vHas l id:=by
 unfold Q8 vHas
 refine X7 (λi (_:Unit)=>∀y∈l.take i,(y.id==id)=false) (λo=>∃y:Job×Bool,o=some y/\y.2=l.any λy=>y.id==id) (λi x b k hx hI hk=>?_) (λb hI=>?_) (by simp)
 .unfold Oa
  cases h:(x.id==id)with
  |true=>exact⟨(x,true),rfl,by rw[List.any_eq_true.2 ⟨x,yE hx,h⟩]⟩
  |false =>
   refine hk () λy hy=>?_
   obtain⟨hi,rfl⟩:=yB hx
   rw[List.take_succ_eq_append_getElem hi]at hy
   rcases List.mem_append.1 hy with hy|hy
   .exact hI y hy
   .rw[List.mem_singleton.1 hy];exact h
 .rw[List.take_of_length_le (yV _)]at hI
  exact⟨_,rfl,by rw[List.any_eq_false.2 λy hy=>by rw[hI y hy];simp]⟩
theorem v_at(l:List Job)(id:Int):∃r,MY l id=some r/\decide (0<=r)=vHas l id:=by
 unfold MY O2 vHas
 suffices h:∃r,rgl (Z2 id) U3 l 0 ()=some r/\decide (0<=r)=l.any λy=>y.id==id by
  obtain⟨r,h1,h2⟩:=h
  exact⟨r,by rw[h1];rfl,h2⟩
 refine X7 (λi (_:Unit)=>∀y∈l.take i,(y.id==id)=false) (λo=>∃r:Int,o=some r/\decide (0<=r)=l.any λy=>y.id==id) (λi x b k hx hI hk=>?_) (λb hI=>?_) (by simp)
 .unfold Z2 YJ
  cases h:(x.id==id)with
  |true=>exact⟨i,rfl,by rw[List.any_eq_true.2 ⟨x,yE hx,h⟩];simp⟩
  |false =>
   refine hk () λy hy=>?_
   obtain⟨hi,rfl⟩:=yB hx
   rw[List.take_succ_eq_append_getElem hi]at hy
   rcases List.mem_append.1 hy with hy|hy
   .exact hI y hy
   .rw[List.mem_singleton.1 hy];exact h
 .rw[List.take_of_length_le (yV _)]at hI
  exact⟨_,rfl,by rw[List.any_eq_false.2 λy hy=>by rw[hI y hy];simp];rfl⟩
def woS(s:State)(ids:List Int):State:={ s with runs:=s.runs.filter λx=>!ids.contains x.job.id }
theorem WO{s:State}(hs:s.runs.length<=1048576)(ids:List Int):L4 s ids=some (woS s ids):=by
 unfold L4
 rw[V6 (bd:=Q7 ids) (bs:=120) (p:=λx=>!ids.contains x.job.id) (f:=λx=>x) (λx _ i b k=>by
  unfold Q7
  rw[U7,bS]) (by simp;omega)]
 unfold Ye
 simp[woS]
theorem Q0l{p:Run->Option Bool}{f:Run->Bool}(h:∀x,p x=some (f x)):∀l,delF p l=some (l.filter λx=>!f x)
 |[]=>rfl
 |x::l=>by
  rw[delF,h,bS,Q0l h l,bS,List.filter_cons]
  cases f x<;>rfl
theorem YB{s:State}(hs:SmallS s)(ids:List Int):Xo s ids=some (woS s ids):=by
 unfold Xo
 rw[Q0z hs,bS,Q0l (f:=λx=>ids.contains x.job.id) (λx=>by unfold OH;rw[Og];rfl),bS]
 rfl
def canB(s:State)(j:Job):Bool:=(Xh s j).getD false
theorem J0l{s:State}(hs:s.queue.length+s.runs.length<=1048576)(j:Job):Xh s j=some (canB s j)/\Qh s j=some (canB s j):=by
 obtain⟨b,h1,h2⟩:=X1H hs j
 unfold canB
 rw[h1,h2];exact⟨rfl,rfl⟩
theorem YT{s:State}(hs:s.queue.length+s.runs.length<=1048576)(ids:List Int):(woS s ids).queue.length+(woS s ids).runs.length<=1048576:=by
 have:=List.length_filter_le (λx:Run=>!ids.contains x.job.id) s.runs
 show s.queue.length+_<=_
 simp only[woS];omega
theorem M0K{x y z:Run}(h1:XL x y=true)(h2:XL y z=true):XL x z=true:=by
 unfold XL at *
 rw[Bool.not_eq_true',Bool.eq_false_iff,ne_eq,On]at *
 omega
theorem J1i(x y:Run):(XL x y||XL y x)=true:=by
 cases h:XL x y with
 |true=>rfl
 |false =>
  unfold XL at *
  rw[Bool.not_eq_false',On]at h
  rw[Bool.false_or,Bool.not_eq_true',Bool.eq_false_iff,ne_eq,On]
  omega
theorem L1a(x y:Run):Zh x y=runLt x y:=by
 rw[Bool.eq_iff_iff,On]
 unfold Zh
 by_cases h:x.job.prio=y.job.prio
 .simp[h]
 .simp[h]
def insW(x:Run):List Run->List Run
 |[]=>[x]
 |y::l=>if Zh x y then x::y::l else y::insW x l
theorem M0o(x:Run):∀l:List Run,(insW x l).Perm (x::l)
 |[]=>.refl _
 |y::l=>by
  unfold insW
  split
  .exact .refl _
  .exact((M0o x l).cons y).trans (.swap x y l)
theorem U1J(x:Run)(l:List Run):(insW x l).length=l.length+1:=(M0o x l).length_eq
theorem Q21{x y:Run}(h:Zh x y=true):XL x y=true:=by
 rw[L1a,On]at h
 unfold XL
 rw[Bool.not_eq_true',Bool.eq_false_iff,ne_eq,On];omega
theorem J1z{x y:Run}(h:¬ Zh x y=true):XL y x=true:=by
 rw[L1a]at h
 unfold XL
 rw[Bool.not_eq_true',Bool.eq_false_iff];exact h
theorem O0P(x:Run):∀{l:List Run},l.Pairwise (λa b=>XL a b=true)->(insW x l).Pairwise (λa b=>XL a b=true)
 |[],_=>by simp[insW]
 |y::l,h=>by
  unfold insW
  obtain⟨h1,h2⟩:=List.pairwise_cons.1 h
  split
  .rename_i hb
   refine List.pairwise_cons.2 ⟨λz hz=>?_,h⟩
   rcases yX hz with rfl|hz
   .exact Q21 hb
   .exact M0K (Q21 hb) (h1 z hz)
  .rename_i hb
   refine List.pairwise_cons.2 ⟨λz hz=>?_,O0P x h2⟩
   rcases yX ((M0o x l).mem_iff.1 hz)with rfl|hz
   .exact J1z hb
   .exact h1 z hz
theorem Z1b:∀(l v:List Run),(l.foldl (λv x=>insW x v) v).Perm (l++v)/\(v.Pairwise (λa b=>XL a b=true)->(l.foldl (λv x=>insW x v) v).Pairwise (λa b=>XL a b=true))
 |[],v=>⟨.refl _,id⟩
 |x::l,v=>by
  obtain⟨h1,h2⟩:=Z1b l (insW x v)
  exact⟨h1.trans (((M0o x v).append_left l).trans List.perm_middle),λh=>h2 (O0P x h)⟩
theorem wTail(x:Run)(k:List Run->Option (List Run))(l:List Run):∀(i:Nat) (acc:List Run),acc.length+l.length<=1000002->rgl (Je x) (Le x k) l i (true,acc)=k (acc++l):=by
 induction l with
 |nil=>intro i acc h;simp[rgl,Le]
 |cons y l ih =>
  intro i acc h
  simp only[yT]at h
  rw[rgl,Je]
  simp only[yL,Bool.false_and,yM,U8]
  rw[O0 (by simp;omega),bS,ih (i+1) (acc++[y]) (by simp;omega)]
  simp
theorem wIns(x:Run)(k:List Run->Option (List Run))(l:List Run):∀(i:Nat) (p:Bool) (acc:List Run),acc.length+l.length<=1000000->rgl (Je x) (Le x k) l i (p,acc)=k (acc++if p then l else insW x l):=by
 induction l with
 |nil =>
  intro i p acc h
  simp only[rgl,Le]
  cases p with
  |true=>simp
  |false =>
   simp only[Bool.not_false,yN,insW]
   rw[O0 (by simp at h ⊢;omega),bS];simp
 |cons y l ih =>
  intro i p acc h
  simp only[yT]at h
  rw[rgl,Je]
  cases p with
  |true =>
   simp only[yL,Bool.false_and,yM,U8,yb]
   rw[O0 (by simp;omega),bS,ih (i+1) true (acc++[y]) (by simp;omega)]
   simp
  |false =>
   simp only[Bool.not_false,Bool.true_and,insW]
   cases hb:Zh x y with
   |true =>
    simp only[yN,yb,U8]
    rw[O0 (by simp;omega),bS,O0 (by simp;omega),bS]
    rw[wTail x k l (i+1) _ (by simp;omega)]
    simp
   |false =>
    simp only[yM,U8]
    rw[O0 (by simp;omega),bS,ih (i+1) false (acc++[y]) (by simp;omega)]
    simp
def Y0m(s:State)(j:Job):List Run:=(s.runs.filter λx=>!decide (j.prio<=x.job.prio)).foldl (λv x=>insW x v) []
theorem Y1W(j:Job)(l:List Run):∀(i:Nat) (v:List Run),v.length+l.length<=1000000->rgl (Zu j) QJ l i v=some ((l.filter λx=>!decide (j.prio<=x.job.prio)).foldl (λv x=>insW x v) v):=by
 induction l with
 |nil=>intro i v _;rfl
 |cons x l ih =>
  intro i v h
  simp only[yT]at h
  rw[rgl,Zu,List.filter_cons]
  cases hb:decide (j.prio<=x.job.prio)with
  |true =>
   simp only[yN,yL,yG,yc]
   exact ih (i+1) v (by omega)
  |false =>
   simp only[yM,Bool.not_false,yb,List.foldl_cons]
   rw[wIns x _ v 0 false [] (by simp;omega)]
   simp only[List.nil_append,yG,yc]
   exact ih (i+1) (insW x v) (by rw[U1J];omega)
theorem Q1b{s:State}(hs:s.runs.length<=1000000)(j:Job):OI s j=some (Y0m s j):=by
 unfold OI
 exact Y1W j s.runs 0 [] (by simp;omega)
theorem Z0d{s:State}(h:queueOk (allJobs s)=true):(s.runs.map (·.job.id)).Nodup/\s.runs.length<=60:=by
 obtain⟨h1,_,h3⟩:=Qb h
 unfold allJobs at h1 h3
 rw[List.map_append,List.map_map]at h3
 simp only[yU,List.length_map]at h1
 exact⟨(List.nodup_append.1 h3).2.1,by omega⟩
theorem M1h{s:State}(h:queueOk (allJobs s)=true)(j:Job):((Y0m s j).map (·.job.id)).Nodup:=by
 have hp:=(Z1b (s.runs.filter λx=>!decide (j.prio<=x.job.prio)) []).1
 rw[List.append_nil]at hp
 exact((hp.map (·.job.id)).nodup_iff).2 ((Z0d h).1.sublist (List.filter_sublist.map _))
theorem Q1x{s:State}(h:queueOk (allJobs s)=true)(j:Job):M0m (s.runs.filter λx=>!decide (j.prio<=x.job.prio))=some (Y0m s j):=by
 obtain⟨h1,h2⟩:=Z0d h
 have hn:((s.runs.filter λx=>!decide (j.prio<=x.job.prio)).map (·.job.id)).Nodup:=h1.sublist (List.filter_sublist.map _)
 have hl:=List.length_filter_le (λx:Run=>!decide (j.prio<=x.job.prio)) s.runs
 unfold M0m
 rw[yd ⟨hn,by omega⟩]
 congr 1
 unfold Y0m
 obtain⟨p1,p2⟩:=Z1b (s.runs.filter λx=>!decide (j.prio<=x.job.prio)) []
 rw[List.append_nil]at p1
 generalize s.runs.filter (λx=>!decide (j.prio<=x.job.prio))=L at hn p1 p2 ⊢
 have hs:(L.mergeSort XL).Pairwise (λa b=>XL a b=true):=List.pairwise_mergeSort (le:=XL) (λa b c=>M0K) J1i L
 refine List.Perm.eq_of_pairwise (le:=λa b=>XL a b=true) (λa b ha hb q1 q2=>?_) hs (p2 .nil) ((List.mergeSort_perm L _).trans p1.symm)
 have ea:a∈L:=(List.mergeSort_perm L XL).mem_iff.1 ha
 have eb:b∈L:=p1.mem_iff.1 hb
 have e:a.job.id=b.job.id:=by
  unfold XL at q1 q2
  rw[Bool.not_eq_true',Bool.eq_false_iff,ne_eq,On]at q1 q2
  omega
 obtain⟨i,hi,rfl⟩:=List.getElem_of_mem ea
 obtain⟨k,hk,rfl⟩:=List.getElem_of_mem eb
 have hp:=List.pairwise_iff_getElem.1 hn
 have hi':i<(L.map (·.job.id)).length:=by simpa using hi
 have hk':k<(L.map (·.job.id)).length:=by simpa using hk
 have e':(L.map (·.job.id))[i]'hi'=(L.map (·.job.id))[k]'hk':=by rw[List.getElem_map,List.getElem_map];exact e
 rcases Nat.lt_trichotomy i k with q|q|q
 .exact absurd e' (hp i k hi' hk' q)
 .subst q;rfl
 .exact absurd e'.symm (hp k i hk' hi' q)
def tkL(s:State)(j:Job):List Run->List Int->List Int
 |[],v=>v
 |x::l,v=>if canB (woS s v) j=true then v else tkL s j l (v++[x.job.id])
theorem W1w(s:State)(j:Job):∀(l:List Run) (v:List Int),(tkL s j l v).length<=v.length+l.length
 |[],v=>by simp[tkL]
 |x::l,v=>by
  rw[tkL];split
  .simp
  .have:=W1w s j l (v++[x.job.id]);simp at this ⊢;omega
theorem Q1w(s:State)(j:Job):∀(l:List Run) (v:List Int),∃m,tkL s j l v=v++(l.map (·.job.id)).take m
 |[],v=>⟨0,by simp[tkL]⟩
 |x::l,v=>by
  rw[tkL];split
  .exact⟨0,by simp⟩
  .obtain⟨m,h⟩:=Q1w s j l (v++[x.job.id])
   exact⟨m+1,by rw[h];simp⟩
def spL(s:State)(j:Job):List Int->List Int->List Int
 |[],v=>v
 |x::r,v=>spL s j r (if canB (woS s (v.filter λy=>y != x)) j=true then v.filter λy=>y != x else v)
theorem V1x(s:State)(j:Job):∀(r v:List Int),(spL s j r v).length<=v.length
 |[],v=>by simp[spL]
 |x::r,v=>by
  rw[spL]
  refine Nat.le_trans (V1x s j r _) ?_
  split
  .exact List.length_filter_le _ _
  .exact yV _
theorem Y0K{l:List Int}(hl:l.length<=1000000)(n:Int):WC l n=some (l.filter λy=>y != n):=by
 unfold WC
 rw[V6 (bd:=MO n) (bs:=8) (p:=λx=>x != n) (f:=λx=>x) (λx _ i b k=>rfl) (by simp;omega)]
 unfold OO
 simp
section
variable{s:State}{j:Job}
theorem X1s(hs:s.queue.length+s.runs.length<=1048576):∀(r:List Int) (i:Nat) (v:List Int),v.length<=1000000->rgl (Lu s j) UK r i v=some (spL s j r v,true):=by
 intro r
 induction r with
 |nil=>intro i v _;rfl
 |cons x r ih =>
  intro i v hv
  have hf:=List.length_filter_le (λy=>y != x) v
  rw[rgl,Lu,Y0K hv,bS,WO (by omega),bS,(J0l (YT hs _) j).1,bS,spL]
  cases hb:canB (woS s (v.filter λy=>y != x)) j with
  |true =>
   simp only[yN,yb,bS]
   exact ih (i+1) _ (by omega)
  |false =>
   simp only[yM,yG,yc]
   exact ih (i+1) _ hv
theorem O10{kept r:List Int}{x:Int}(h:(kept++x::r).Nodup):(kept++x::r).filter (λy=>y != x)=kept++r:=by
 obtain⟨h1,h2,h3⟩:=List.nodup_append.1 h
 obtain⟨h4,h5⟩:=List.nodup_cons.1 h2
 rw[List.filter_append,List.filter_cons]
 have e1:kept.filter (λy=>y != x)=kept:=List.filter_eq_self.2 λy hy=>by
  have:=h3 y hy x (yJ ..)
  simpa using this
 have e2:r.filter (λy=>y != x)=r:=List.filter_eq_self.2 λy hy=>by
  have:y≠x:=λe=>h4 (e ▸ hy)
  simpa using this
 rw[e1,e2];simp
theorem Y1u(hS:SmallS s):∀(r kept:List Int) (fuel:Nat),r.length<fuel->kept.length+r.length<=1000000->(kept++r).Nodup->whl (Qf s j) fuel (kept++r,(kept.length:Int))=some (spL s j r (kept++r),true):=by
 intro r
 induction r with
 |nil =>
  intro kept fuel hf hk _
  obtain⟨f,rfl⟩:∃f,fuel=f+1:=⟨fuel-1,by simp at hf;omega⟩
  rw[whl,Qf]
  simp only[List.append_nil,Int.lt_irrefl,decide_false,yM,spL]
  rw[O0 (by simp;omega)]
  rfl
 |cons x r ih =>
  intro kept fuel hf hk hn
  obtain⟨f,rfl⟩:∃f,fuel=f+1:=⟨fuel-1,by simp at hf;omega⟩
  simp only[yT]at hf hk
  have hmid:=O10 hn
  have hlt:(kept.length:Int)<((kept++x::r).length:Int):=by simp;omega
  have c1:cutL (kept++x::r) none (some (kept.length:Int))=some kept:=by
   have:(0:Int)<=kept.length/\(kept.length:Int)<=((kept++x::r).length:Int):=⟨by omega,by omega⟩
   simp only[cutL,bhi,blo,yd this]
   simp
  have c2:cutL (kept++x::r) (some (w64 ((kept.length:Int)+1))) none=some r:=by
   have:(0:Int)<=((kept.length+1:Nat):Int)/\((kept.length+1:Nat):Int)<=((kept++x::r).length:Int):=⟨by omega,by simp;omega⟩
   rw[X06 (by omega)]
   simp only[cutL,bhi,blo,yd this,List.take_length,yZ]
   rw[List.drop_append]
   simp
  have cp:M7 kept=some kept:=by
   unfold M7
   rw[O0 (by simp;omega)]
   simp
  rw[whl,Qf]
  simp only[decide_eq_true hlt,yN,c1,c2,cp,bS]
  rw[O0 (by omega),bS,YB hS,bS,(J0l (YT hS.jobs _) j).2,bS,spL,hmid]
  cases hb:canB (woS s (kept++r)) j with
  |true =>
   simp only[yN,yb]
   refine ih kept f (by omega) (by omega) ?_
   rw[← hmid];exact hn.sublist List.filter_sublist
  |false =>
   simp only[yM,yG,yc,X06 (show kept.length<9223372036854775807 by omega)]
   have:=ih (kept++[x]) f (by omega) (by simp;omega) (by simpa using hn)
   simpa using this
theorem Z1x(hs:s.queue.length+s.runs.length<=1048576):∀(l:List Run) (i:Nat) (v:List Int),v.length+l.length<=1000000->rgl (Ju s j) (QK s j) l i v=Vf s j (tkL s j l v):=by
 intro l
 induction l with
 |nil=>intro i v _;rfl
 |cons x l ih =>
  intro i v hv
  simp only[yT]at hv
  rw[rgl,Ju,WO (by omega),bS,(J0l (YT hs _) j).1,bS,tkL]
  cases hb:canB (woS s v) j with
  |true=>simp only[yN,yb]
  |false =>
   simp only[yM,yG,yc]
   rw[O0 (by simp;omega),bS]
   exact ih (i+1) _ (by simp;omega)
theorem M1C(hS:SmallS s)(W:List Run)(hW:W.length<=1000):∀(l:List Run) (v:List Int) (fuel:Nat),l.length<fuel->W.drop v.length=l->v.length<=W.length ->
  whl (Jk s j W) fuel v=bif canB (woS s (tkL s j l v)) j then whl (Qf s j) 9223372036854775807 (tkL s j l v,0)else some ([],false):=by
 intro l
 induction l with
 |nil =>
  intro v fuel hf hd hv
  obtain⟨f,rfl⟩:∃f,fuel=f+1:=⟨fuel-1,by simp at hf;omega⟩
  have hlen:v.length=W.length:=by
   have:=List.drop_eq_nil_iff.1 hd;omega
  rw[whl,Jk,YB hS,bS,(J0l (YT hS.jobs _) j).2,bS,tkL]
  cases hb:canB (woS s v) j with
  |true=>rfl
  |false=>simp[hlen]
 |cons x l ih =>
  intro v fuel hf hd hv
  obtain⟨f,rfl⟩:∃f,fuel=f+1:=⟨fuel-1,by simp at hf;omega⟩
  simp only[yT]at hf
  have hlt:v.length<W.length:=by
   rcases Nat.lt_or_ge v.length W.length with h|h
   .exact h
   .rw[List.drop_of_length_le h]at hd;cases hd
  have hx:W[v.length]?=some x:=by
   have:=congrArg (·[0]?) hd
   simpa using this
  have hne:((v.length:Int)==(W.length:Int))=false:=by
   rw[beq_eq_false_iff_ne];omega
  rw[whl,Jk,YB hS,bS,(J0l (YT hS.jobs _) j).2,bS,tkL]
  cases hb:canB (woS s v) j with
  |true=>simp only[yL,yM,yb,hb,yN]
  |false =>
   simp only[Bool.not_false,yN,hne,yM,yG,yc,Y7,hx,bS]
   rw[O0 (by simp;omega),bS]
   refine ih (v++[x.job.id]) f (by omega) ?_ (by simp;omega)
   have:=congrArg (List.drop 1) hd
   rw[List.drop_drop]at this
   simpa using this
end
end
def M1u(r:Room)(need:Vec)(fr to_:Int)(i:Nat):Bool:=(r.up[i]?).getD false&&J0 need (minV ((r.profs[i]?).getD []) fr to_)
theorem V1E(r:Room)(need:Vec){fr to_:Int}(hs:spanOk fr to_=true):M0p r need fr to_=((List.range r.profs.length).filter (M1u r need fr to_)).map λ(i:Nat)=>(i:Int):=by
 unfold M0p
 rw[hs,yN]
 have:=O0z (M1u r need fr to_) (λ(i:Nat)=>(i:Int)) (List.range r.profs.length) []
 rw[List.nil_append]at this
 exact this
theorem X1O(f:Nat->Int)(u:Int->Bool){p p':Nat->Bool}:∀{l:List Nat},(∀i∈l,p i=true->p' i=true)->(((l.filter p).map f).filter u).length<=(((l.filter p').map f).filter u).length
 |[],_=>by simp
 |x::l,h=>by
  have ih:=X1O f u (l:=l) λi hi=>h i (yH _ hi)
  have hx:=h x (yJ ..)
  rw[List.filter_cons,List.filter_cons]
  cases hp:p x with
  |true =>
   rw[hx hp,yd rfl,yd rfl,List.map_cons,List.map_cons,List.filter_cons,List.filter_cons]
   split
   .simp only[yT];omega
   .exact ih
  |false =>
   rw[ye (by simp)]
   cases hp':p' x with
   |false=>rw[ye (by simp)];exact ih
   |true =>
    rw[yd rfl,List.map_cons,List.filter_cons]
    split
    .simp only[yT];omega
    .exact ih
theorem Y1s{t:Topo}{l:List Int}{n level:Int}{s:Nat}(hs:s<t.parents.length)(h1:n<=cntU t l s)(h2:lev t s<=level):0<=swF t l n level:=by
 have key:∀(L:List Nat) (v:Int),(0<=v\/s∈L)->0<=L.foldl (Ym t l n level) v:=by
  intro L
  induction L with
  |nil=>intro v h;rcases h with h|h;exact h;cases h
  |cons x L ih =>
   intro v h
   rw[List.foldl_cons]
   refine ih _ ?_
   have keep:0<=v->0<=Ym t l n level v x:=λhv=>by
    unfold Ym
    split
    .exact hv
    .split
     .omega
     .exact hv
   rcases h with h|h
   .exact .inl (keep h)
   .rcases yX h with rfl|h
    .refine .inl ?_
     by_cases hv:0<=v
     .exact keep hv
     .unfold Ym
      rw[ye (by omega),yd (.inl (by omega))]
      omega
    .exact .inr h
 unfold swF
 exact key _ _ (.inr (List.mem_range.2 hs))
theorem X11{t:Topo}{l:List Int}{n level:Int}:(YS t l n level).2=true↔U4 t l=true/\1<=n/\L1k l=false/\0<=swF t l n level:=by
 unfold YS
 split
 .rename_i h;simp[h]
 .rename_i h;simp[h]
theorem L1K{r q:Room}(R:RoomP r)(Q:RoomP q)(hle:LeR r q){j:Job}{t:Int}(h:(canM r j t).2=true):(canM q j t).2=true:=by
 unfold canM at h ⊢
 cases hs:spanOk t (t+j.wall)with
 |false=>rw[hs]at h;cases h
 |true =>
  rw[hs,Bool.true_and]at h
  rw[Bool.true_and]
  obtain⟨_,_,h3⟩:=XE.1 hs
  cases hf:J0 j.lic (minV r.lics t (t+j.wall))with
  |false=>rw[hf]at h;cases h
  |true =>
   rw[hf,yN]at h
   have hf2:J0 j.lic (minV q.lics t (t+j.wall))=true:=(Z0o Q.lics h3).2 λx x1 x2=>hle.lics.fits Q.lics ((Z0o R.lics h3).1 hf x x1 x2)
   rw[hf2,yN]
   obtain⟨c1,c2,c3,c4⟩:=X11.1 h
   obtain⟨a1,a2⟩:=L1f Q j.need t (t+j.wall)
   refine X11.2 ⟨Q3.2 ⟨Q.topo,a2⟩,c2,O1f a1,?_⟩
   obtain⟨s1,s2⟩:=J1w c4
   have hin:=(X0z c1 (by have:=(ZL R j.need t (t+j.wall)).2;omega) j.nodes j.level).2
   unfold inR at hin
   rw[hle.topo]
   refine Y1s (s:=(swF r.topo (M0p r j.need t (t+j.wall)) j.nodes j.level).toNat) (by omega) (Int.le_trans s1 ?_) s2
   unfold cntU
   rw[V1E r j.need hs,V1E q j.need hs,hle.len]
   have:=X1O (λ(i:Nat)=>(i:Int)) (λn=>hasUp r.topo n (swF r.topo (((List.range r.profs.length).filter (M1u r j.need t (t+j.wall))).map λ(i:Nat)=>(i:Int)) j.nodes j.level).toNat) (p:=M1u r j.need t (t+j.wall)) (p':=M1u q j.need t (t+j.wall)) (l:=List.range r.profs.length) λi hi hp=>by
    have hi:=List.mem_range.1 hi
    have hi2:i<q.profs.length:=by rw[hle.len];exact hi
    unfold M1u at hp ⊢
    rw[yA hi,Option.getD_some,yD]at hp
    rw[yA hi2,Option.getD_some,hle.up,yD]
    have l1:=hle.prof i _ _ (yA hi) (yA hi2)
    have q1:=Q.prof _ (List.getElem_mem hi2)
    exact⟨hp.1,(Z0o q1 h3).2 λx x1 x2=>l1.fits q1 ((Z0o (R.prof _ (List.getElem_mem hi)) h3).1 hp.2 x x1 x2)⟩
   exact_mod_cast this
theorem U1E(r:Room)(j:Job)(fr:Int):((J1k r j fr).2.2&&((J1k r j fr).1==fr))=(canM r j fr).2:=by
 unfold J1k
 have hh:=Y1i fr (r.profs++[r.lics]) (v:=[fr]) rfl
 have hr:=Y00 fr (r.profs++[r.lics]) (v:=[fr]) (List.pairwise_singleton ..)
 generalize timesF fr (r.profs++[r.lics]) [fr]=T at hh hr
 cases T with
 |nil=>cases hh
 |cons x T =>
  have:x=fr:=by simpa using hh
  subst this
  rw[List.find?_cons]
  cases hc:(canM r j x).2 with
  |true=>simp
  |false =>
   simp only
   cases hf:T.find? (λt=>(canM r j t).2)with
   |none=>rfl
   |some t =>
    have hm:=List.mem_of_find?_eq_some hf
    have:=(List.pairwise_cons.1 hr).1 t hm
    simp only[Bool.true_and]
    rw[beq_eq_false_iff_ne]
    omega
theorem X1r{s:State}{j:Job}(hs:s.queue.length+s.runs.length<=1048576):canB s j=true↔stateOk s=true/\X1 j=true/\∃r,L6 s=some (r,true)/\RoomP r/\(canM r j s.now).2=true:=by
 unfold canB Xh
 rw[(Wf hs).1,bS]
 cases h:stateOk s with
 |false=>simp
 |true =>
  obtain⟨r,hr,hR,_⟩:=(Xm h).room
  have hn:=(Xm h).now
  rw[hr,bS,Wk,Zx.2 hR,hn]
  cases hj:X1 j with
  |false=>simp
  |true =>
   simp only[yL,yM,Bool.and_self,yN,bS,Option.getD_some,U1E,true_and]
   constructor
   .intro q;exact⟨r,rfl,hR,q⟩
   .rintro⟨r',e,_,q⟩
    cases e
    exact q
theorem Y1S{s:State}(keep:Run->Bool)(h:stateOk s=true):stateOk { s with runs:=s.runs.filter keep }=true:=by
 have hP:=Xm h
 obtain⟨r,hr,_⟩:=hP.room
 obtain⟨q1,q2,q3⟩:=Qb hP.queue
 have hsub:(allJobs { s with runs:=s.runs.filter keep }).Sublist (allJobs s):=by
  unfold allJobs
  exact List.Sublist.append (List.Sublist.refl _) (List.filter_sublist.map _)
 have hq:queueOk (allJobs { s with runs:=s.runs.filter keep })=true:=by
  unfold queueOk idsOk
  simp only[yD,yO,List.all_eq_true]
  exact⟨⟨by have:=hsub.length_le;omega,λx hx=>q2 x (hsub.subset hx)⟩,q3.sublist (hsub.map _)⟩
 obtain⟨r2,hr2,_⟩:=M1c (s:=s) (s2:={ s with runs:=s.runs.filter keep }) keep rfl rfl rfl rfl rfl (Z0d hP.queue).2 hr
 have hd:=hP.depth
 have he:=hP.ends
 unfold stateOk
 rw[hr2,hq]
 simp only[Option.getD_some,Bool.true_and,yD,yO,List.all_eq_true]
 exact⟨⟨⟨⟨hd,trivial⟩,he⟩,λx hx=>hP.fit x (List.mem_filter.1 hx).1⟩,λe he=>hP.fin e he⟩
theorem J1F{s:State}(hs:s.queue.length+s.runs.length<=1048576)(keep:Run->Bool){j:Job}(h:canB s j=true):canB { s with runs:=s.runs.filter keep } j=true:=by
 have hl:=List.length_filter_le keep s.runs
 obtain⟨h1,h2,r,h3,h4,h5⟩:=(X1r hs).1 h
 have hP:=Xm h1
 obtain⟨q,q1,q2,q3,q4⟩:=M1c (s:=s) (s2:={ s with runs:=s.runs.filter keep }) keep rfl rfl rfl rfl rfl (Z0d hP.queue).2 h3
 exact(X1r (by simp only;omega)).2 ⟨Y1S keep h1,h2,q,q1,q4,L1K h4 q4 q2 h5⟩
theorem O1H{s:State}(hs:s.queue.length+s.runs.length<=1048576){a b:List Int}(hab:∀x∈a,x∈b){j:Job}(h:canB (woS s a) j=true):canB (woS s b) j=true:=by
 have e:woS s b={ woS s a with runs:=(woS s a).runs.filter λx=>!b.contains x.job.id }:=by
  unfold woS
  simp only[List.filter_filter]
  congr 1
  refine List.filter_congr λx _=>?_
  cases hb:b.contains x.job.id with
  |true=>simp
  |false =>
   have ha:a.contains x.job.id=false:=by
    rw[Bool.eq_false_iff]
    intro q
    have:=List.contains_iff_mem.2 (hab _ (List.contains_iff_mem.1 q))
    rw[hb]at this;cases this
   rw[ha];rfl
 rw[e]
 exact J1F (YT hs a) _ h
def O08(h b:Int):Int:=bAnd .i64 (w64 (w64 (w64 (h*151)+w64 b)+7)) 1073741823
def newH(bs:List Int):Int:=(bs.take 4000).foldl O08 (w64 (958001+bs.length))
def W0M(bs:List Int):Option l01Cur:=if bs.length<=1048576 then some ⟨bs,0,newH bs⟩else none
def U0g:L :=
 .seq (
 .reg [.mv 2 (.c (.bad))]) (
 .seq (
 .reg [.mv 5 (.t 0),.ln 6 (.t 5),.bi 7 .add (.c (.int .i64 958001)) (.t 6),.mv 3 (.t 7)]) (
 .seq (
 .seq (
 .reg [.mv 4 (.c (.int .i64 0))]) (
 .blk 0 (
  .loop (
   .seq (
   .seq (
   .reg [.mv 8 (.t 4),.mv 9 (.t 0),.ln 10 (.t 9),.bi 11 .lss (.t 8) (.t 10),.mv 12 (.t 11),.g 12 true (.mv 13 (.t 4)),.g 12 true (.bi 14 .lss (.t 13) (.c (.int .i64 4000))),.pk 15 (.t 12) (.t 14) (.c (.bool false))]) (
   .cond (.t 15) (
    .skip) (
    .exit 0))) (
   .seq (
   .blk 1 (
    .reg [.mv 18 (.t 3),.bi 19 .mul (.t 18) (.c (.int .i64 151)),.mv 20 (.t 0),.mv 21 (.t 4),.ia 22 (.t 20) (.t 21) 1,.ld 23 (.t 22) 1 false,.cv 24 .i64 (.t 23),.bi 25 .add (.t 19) (.t 24),.bi 26 .add (.t 25) (.c (.int .i64 7)),.bi 27 .and (.t 26) (.c (.int .i64 1073741823)),.mv 3 (.t 27)])) (
   .reg [.mv 16 (.t 4),.bi 17 .add (.t 16) (.c (.int .i64 1)),.mv 4 (.t 17)])))))) (
 .seq (
 .reg [.mv 28 (.t 0),.mv 29 (.t 3),.bd 30 [.nl,.int .i64 0,.int .i64 0] [(0,1,(.t 28)),(2,1,(.t 29))],.bx 31 (.t 30),.mv 2 (.t 31)]) (
 .ret))))
def M0T:List Rv:=[.t 2]
theorem U0Y:Qt Tryz.prog W02 1 U0g M0T=true:=by kernel_rfl
set_option maxRecDepth 20000 in
theorem W1t{bs:List Int}{c:l01Cur}(H:W0M bs=some c):SndB Tryz.prog W02 [.sl .rd 1 (bs.map eB)] (λcs=>cs=(Y0 .rd c).cells):=by
 unfold W0M at H
 split at H
 rotate_left
 .cases H
 rename_i hl
 cases H
 refine Q1Q U0Y rfl (by simp) (L1T ?_)
 unfold U0g
 simp
 intro _
 refine U24 bs.length (λi s=>i<=4000/\s.e 0=.sl .rd 1 (bs.map eB)/\s.e 3=.int .i64 ((bs.take i).foldl O08 (w64 (958001+bs.length)))/\s.e 4=.int .i64 (i:Nat)) (λs=>s.e 0=.sl .rd 1 (bs.map eB)/\s.e 3=.int .i64 (newH bs)) ?_ ?_ ?_
 .simp[w64]
 .rintro i s hi ⟨h4000,e0,e3,e4⟩
  by_cases hlt:i<bs.length
  .by_cases h4:(i:Int)<4000
   .simp[e0,e3,e4,hlt,h4]
    intro _
    refine J1H hlt ⟨by omega,?_⟩
    have et:(bs.take (i+1)).foldl O08 (w64 (958001+bs.length))=O08 ((bs.take i).foldl O08 (w64 (958001+bs.length))) bs[i]:=by
     rw[List.take_succ_eq_append_getElem hlt,List.foldl_append];rfl
    rw[et]
    generalize (bs.take i).foldl O08 (w64 (958001+bs.length))=h
    simp[e0,M1a hlt (by omega:bs.length<=9223372036854775807)]
    rfl
   .simp[e0,e3,e4,hlt,h4]
    intro _
    refine W1O ?_
    have h40:i=4000:=by omega
    have e:newH bs=(bs.take i).foldl O08 (w64 (958001+bs.length)):=by unfold newH;rw[h40]
    simp[e0,e3,e]
  .simp[e0,e3,e4,hlt]
   intro _
   refine W1O ?_
   have e:newH bs=(bs.take i).foldl O08 (w64 (958001+bs.length)):=by
    unfold newH;rw[List.take_of_length_le (by omega),List.take_of_length_le (by omega)]
   simp[e0,e3,e]
 rintro s ⟨e0,e3⟩
 simp[e0,e3]
end Go.Proofs.YtpgaganbacipnaaGreat
