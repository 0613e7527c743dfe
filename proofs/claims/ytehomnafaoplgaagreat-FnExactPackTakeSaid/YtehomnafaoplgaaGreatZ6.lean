/-
  Lemmas, part 6.
-/
import Derived.Test.YtehomnafaoplgaaGreatZ5
import Derived.Scope
import Derived.Deep.Slices
import Derived.ProofKit
namespace Go.Proofs.YtehomnafaoplgaaGreat.Eng
open Go Go.RowKit
section
inductive L
 |skip
 |reg (ls:List LOp)
 |rq (m:Nat) (ls:List LOp)
 |rz (als:List ZA) (items:List ZI) (tl:List LOp)
 |ro (ow:List Nat) (als:List ZA) (items:List ZI) (tl:List LOp)
 |seq (x y:L)
 |cond (c:X) (x y:L)
 |blk (id:Nat) (x:L)
 |loop (x:L)
 |exit (id:Nat)
 |ret
 |scope (x:L)
 |gw (x:L)
inductive Ex|nrm|ext(id:Nat)|ret
def Ex.to:Ex->Exit
 |.nrm=>.normal|.ext id=>.exit id|.ret=>.ret
def den(P:Program):L->(Ex->St->Prop)->St->Prop
 |.skip,K,s=>K .nrm s|.reg ls,K,s=>wops P ls (K .nrm) s|.rq m ls,K,s=>Q0q P (ls.take m) [] (λs'=>wops P (ls.drop m) (K .nrm) s') (s.kills (alKeys (ls.take m)))|.ro ow als items tl,K,s=>ZK P (zcOf (items.map Prod.snd)) ow (items.map Prod.snd) (λs'=>(∀d∈ow,s'.e d=.ptr d 0)/\wops P tl (K .nrm) (alZ s' als)) (s.kills (als.map (·.2.1)))|.rz als items tl,K,s=>ZK P (zcOf (items.map Prod.snd)) [] (items.map Prod.snd) (λs'=>wops P tl (K .nrm) (alZ s' als)) (s.kills (als.map (·.2.1)))|.seq x y,K,s=>den P x (λe s'=>match e with | .nrm=>den P y K s'|e=>K e s') s
 |.cond c x y,K,s=>match s.get c with
  |.bool t=>(t=true->den P x K s)/\(t=false->den P y K s)
  |_=>False
 |.blk id x,K,s=>den P x (λe s'=>match e with | .ext id'=>if id'=id then K .nrm s' else K (.ext id') s'|e=>K e s') s
 |.loop x,K,s=>∃(I:Nat->St->Prop) (n:Nat),I n s/\∀m s',I m s'->den P x (λe s''=>match e with | .nrm=>∃m',m'<m/\I m' s''|e=>K e s'') s'
 |.exit id,K,s=>K (.ext id) s|.ret,K,s=>K .ret s|.scope x,K,s=>den P x K s|.gw x,K,s=>∃G:GW,G.ok=true/\nooT s G.te/\nooB s G.tb/\den P x K (s.gw G)
def chkC(P:Program)(nt:Nat):L->Code->Bool
 |.gw x,c=>chkC P nt x c|.skip,.skip=>true|.reg ls,.region _ ops false=>chkL P nt ops ls ops.toList|.rq m ls,.region _ ops true=>P.follows .mixedOrders&&chkQ P nt ops ls m|.rz als items tl,.region _ ops true=>P.follows .mixedOrders&&chkZ P nt ops [] als items tl|.ro ow als items tl,.region _ ops true=>P.follows .mixedOrders&&chkZ P nt ops ow als items tl|.seq x y,.seq a b=>chkC P nt x a&&chkC P nt y b|.cond c x y,.cond p a b=>chkX c p&&chkC P nt x a&&chkC P nt y b|.blk id x,.block id' a=>id==id'&&chkC P nt x a|.loop x,.loop a=>chkC P nt x a|.exit id,.exit id'=>id==id'|.ret,.ret=>true|.scope x,.scope a=>chkC P nt x a|_,_=>false
section
variable{P:Program}{c:Cx}
theorem least{p:Nat->Prop}:∀n,p n->∃m,p m/\∀k,p k->m<=k:=by
 intro n;induction n using Nat.strongRecOn with
 |_ n b =>
  intro d;by_cases h:∃k,k<n/\p k
  .obtain⟨k,a,c⟩:=h;exact b k a c
  exact⟨n,d,λk a=>Classical.byContradiction λe=>h ⟨k,by omega,a⟩⟩
theorem Y21{b:Code}{Q:Exit->Act->World->Prop}(J:Nat->Act->World->Prop)(c:∀m a w,J m a w->b.wp P (Exit.then (λi w'=>∃f,f<m/\J f i w') Q) a w){n:Nat}{a:Act}{w:World}(h:J n a w):(Code.loop b).wp P Q a w:=by
 classical
 have g:∀a w,(∃m,J m a w)->∃m,J m a w/\∀k,J k a w->m<=k:=λa w ⟨m,hm⟩=>least m hm
 let μ:Act->World->Nat:=λa w=>if h:∃m,J m a w then(g a w h).choose else 0
 have d:∀a w (h:∃m,J m a w),J (μ a w) a w/\∀k,J k a w->μ a w<=k:=λa w h=>by
  have:=(g a w h).choose_spec
  grind
 refine wp_loop (λa w=>∃m,J m a w) μ ⟨n,h⟩ λa w j=>?_
 refine Code.wp_mono (λe i w' q=>?_) (c (μ a w) a w (d a w j).1)
 grind
theorem W1y:∀{l:L}{b:Code}{K:Ex->St->Prop}{k:Exit->Act->World->Prop}{g:Gh}{s:St}{a:Act}{w:World},chkC P c.nt l b=true -> (∀e g' s' p w',Inv c g' s' p w'->K e s'->k e.to p w')->Inv c g s a w->den P l K s->b.wp P k a w:=by
 intro l;induction l with
 |skip =>intro b K k g s a w d f I h;cases b<;>simp[chkC]at d;exact wp_skip (f .nrm _ _ _ _ I h)|reg D =>
  intro b K k g s a w d f I h;cases b<;>try (simp[chkC]at d;done)
  rename_i o r z;cases z<;>simp only[chkC,yG]at d;exact wp_region_list (Q22 (K:=K .nrm) (λg' s' p w' j i=>f .nrm _ _ _ _ j i) D r.toList g s a w d I h)
 |rq m D =>
  intro b K k g s a w d f I h;cases b<;>try (simp[chkC]at d;done)
  rename_i o r z;cases z<;>simp only[chkC,yG,yD]at d;exact W1S (K:=K .nrm) d.1 d.2 (λg' s' p w' j i=>f .nrm _ _ _ _ j i) I h
 |rz als u F =>
  intro b K k g s a w d f I h;cases b<;>try (simp[chkC]at d;done)
  rename_i o r z;cases z<;>simp only[chkC,yG,yD]at d;exact Y1X (K:=K .nrm) d.1 d.2 (by simp) (λg' s' p w' j i=>f .nrm _ _ _ _ j i) I h
 |ro ow als u F =>
  intro b K k g s a w d f I h;cases b<;>try (simp[chkC]at d;done)
  rename_i o r z;cases z<;>simp only[chkC,yG,yD]at d;exact Y1X (K:=K .nrm) d.1 d.2 (λs' q=>q) (λg' s' p w' j i=>f .nrm _ _ _ _ j i) I h
 |seq x y B v =>intro b K k g s a w d f I h;cases b<;>simp only[chkC,yG,yD]at d;refine wp_seq (B d.1 (λe g' s' p w' j i=>?_) I h);cases e with|nrm=>exact v d.2 f j i|ext o=>exact f (.ext o) _ _ _ _ j i|ret=>exact f .ret _ _ _ _ j i
 |cond X x y B v =>
  intro b K k g s a w d f I h;cases b<;>simp only[chkC,yG,yD]at d;have E:=I.get d.1.1;simp only[den]at h;split at h
  .rename_i t O;rw[O]at E;exact wp_cond_split E.bool_inv (by grind) (λe=>v d.2 f I (h.2 e))
  cases h
 |blk o x A =>
  intro b K k g s a w d f I h;cases b<;>simp only[chkC,yG,yD,beq_iff_eq]at d;obtain⟨rfl,d⟩:=d;refine wp_block (A d (λe g' s' p w' j i=>?_) I h);cases e with
  |nrm=>exact f .nrm _ _ _ _ j i|ext C =>
   simp only[Ex.to,Exit.inBlock];simp only at i;split
   .rename_i e;rw[yd e]at i;exact f .nrm _ _ _ _ j i
   rename_i e;rw[ye e]at i;exact f (.ext C) _ _ _ _ j i
  |ret=>exact f .ret _ _ _ _ j i
 |loop x A =>intro b K k g s a w d f I h;cases b<;>simp only[chkC,yG]at d;simp only[den]at h;obtain⟨J,n,U,Q⟩:=h;refine Y21 (λm a w=>∃g s,Inv c g s a w/\J m s) (λm a w ⟨g,s,I,hJ⟩=>?_) (n:=n) ⟨g,s,I,U⟩;refine A d (λe g' s' p w' j i=>?_) I (Q m s hJ);cases e with|nrm=>obtain⟨N,M,H⟩:=i;exact⟨N,M,g',s',j,H⟩|ext o=>exact f (.ext o) _ _ _ _ j i|ret=>exact f .ret _ _ _ _ j i
 |exit o =>intro b K k g s a w d f I h;cases b<;>simp only[chkC,yG,beq_iff_eq]at d;subst d;exact wp_exit (f (.ext o) _ _ _ _ I h)|ret =>intro b K k g s a w d f I h;cases b<;>simp[chkC]at d;exact wp_ret (f .ret _ _ _ _ I h)|scope x A =>intro b K k g s a w d f I h;cases b<;>simp only[chkC,yG]at d;refine wp_scope_straight (A d (λe g' s' p w' j i=>?_) I h);cases e with|nrm=>exact f .nrm _ _ _ _ j i|ext o=>exact f (.ext o) _ _ _ _ j i|ret=>exact f .ret _ _ _ _ j i
 |gw x A =>intro b K k g s a w d f I h;obtain⟨G,T,S,R,V⟩:=h;obtain⟨W,Y⟩:=I.gw G T S R;grind[chkC]
end
end
section
inductive Rv|t(i:Nat)|c(i n:Nat)(ag:Bool)
def chkR(P:Program):Rv->ResultVar->Bool
 |.t i,.tmp j=>i==j|.c i n ag,.cell a t=>i==a&&tsz P t==some n&&tag? P t==some ag&&(ag||n==1)|_,_=>false
def L0C(P:Program):List Rv->List ResultVar->Bool
 |[],[]=>true|r::rs,v::vs=>chkR P r v&&L0C P rs vs|_,_=>false
def St.rv1(s:St):Rv->Option AV
 |.t i=>some (s.e i)|.c i n ag=>s.ld (s.e i) n ag
def St.rvs(s:St):List Rv->Option (List AV)
 |[]=>some []|r::rs=>match s.rv1 r,s.rvs rs with
  |some x,some l=>some (x::l)
  |_,_=>none
def O1c:List AV->AV
 |[a]=>a|l=>.tup l
def ixO:List (Option Nat)->Nat->Option Nat
 |[],_=>none|some k::ks,j=>if k=j then some 0 else(ixO ks j).map (·+1)|none::ks,j=>(ixO ks j).map (·+1)
theorem L2b:∀{ks:List (Option Nat)}{k i:Nat},ixO ks k=some i->ks[i]?=some (some k)
 |[],_,_,h=>by simp[ixO]at h|some x::ks,k,i,h=>by
  simp[ixO]at h;split at h
  .rename_i e;cases h;simp[e]
  .obtain⟨j,a,rfl⟩:=yC h;simpa using L2b a
 |none::ks,k,i,h=>by simp only[ixO]at h;obtain⟨j,a,rfl⟩:=yC h;simpa using L2b a
mutual
def AV.out(ks:List (Option Nat)):AV->AV
 |.sref k=>match ixO ks k with|some i=>.sref i|none=>.bad
 |.agg cs=>.agg (outL ks cs)
 |.tup cs=>.tup (outL ks cs)
 |.fn f cs=>.fn f (outL ks cs)
 |.ptr _ _=>.bad
 |.rpt _ _ _=>.bad
 |.od _ _ _=>.bad
 |.op _ _ _=>.bad
 |a=>a
def outL(ks:List (Option Nat)):List AV->List AV
 |[]=>[]
 |a::l=>AV.out ks a::outL ks l
end
theorem Q0B(ks:List (Option Nat)):∀l,outL ks l=l.map (AV.out ks)
 |[]=>rfl|a::l=>by rw[outL,Q0B ks l];rfl
def AV.wk1(p:Nat->Prop):AV->AV->Prop
 |.nl,.sl t _ es=>t.isOwn=false/\es=[]|.nl,.sref i=>p i|a,b=>a=b
def wkLs(R:AV->AV->Prop):List AV->List AV->Prop
 |[],[]=>True|a::l,b::m=>R a b/\wkLs R l m|_,_=>False
def AV.wkA(p:Nat->Prop):AV->AV->Prop
 |.agg cs,.agg ds=>wkLs (AV.wk1 p) cs ds|a,b=>AV.wk1 p a b
def AV.wk(p:Nat->Prop):AV->AV->Prop
 |.tup cs,.tup ds=>wkLs (AV.wkA p) cs ds|a,b=>AV.wkA p a b
theorem X1z{R:AV->AV->Prop}:∀{cs g:List AV},wkLs R cs g->cs.length=g.length/\∀(i:Nat)(c d:AV),cs[i]?=some c->g[i]?=some d->R c d
 |[],[],_=>⟨rfl,by intro i c d h;simp at h⟩|a::l,b::m,h=>by obtain⟨k,j⟩:=X1z h.2;refine⟨by simp[k],λi c d f e=>?_⟩;cases i with|zero=>simp at f e;subst f;subst e;exact h.1|succ i=>exact j i c d (by simpa using f) (by simpa using e)
 |[],_::_,h=>h.elim|_::_,[],h=>h.elim
mutual
def Nw:AV->Prop
 |.sl t _ es=>(es=[]/\t.isOwn=false)\/(t=.nw/\NwL es)
 |.agg cs=>NwL cs
 |.tup cs=>NwL cs
 |.fn _ cs=>NwL cs
 |.od _ _ _=>False
 |.op _ _ _=>False
 |.ept _ _=>False
 |.eot _ _=>False
 |_=>True
def NwL:List AV->Prop
 |[]=>True
 |a::l=>Nw a/\NwL l
end
theorem W0k:∀{l:List AV},NwL l↔∀a∈l,Nw a
 |[]=>by simp[NwL]|a::l=>by simp[NwL,W0k (l:=l)]
def Q0D(s:St):List (Option Nat)->List Row->Prop
 |[],[]=>True|some k::ks,r::rs=>s.rw k=some r/\r.sh=false/\NwL r.es/\Q0D s ks rs|none::ks,r::rs=>r.es=[]/\Q0D s ks rs|_,_=>False
theorem M0M{s:St}:∀{ks:List (Option Nat)}{rows:List Row},Q0D s ks rows->ks.length=rows.length /\ (∀(i k:Nat)(r:Row),ks[i]?=some (some k)->rows[i]?=some r->s.rw k=some r/\r.sh=false/\NwL r.es)/\∀(i:Nat)(r:Row),ks[i]?=some none->rows[i]?=some r->r.es=[]
 |[],[],_=>(by simp)|some k::ks,r::rs,h=>by simp[Q0D]at h;obtain⟨e,g,f,a⟩:=h;obtain⟨d,c,b⟩:=M0M a;grind|none::ks,r::rs,h=>by simp[Q0D]at h;obtain⟨e,a⟩:=h;obtain⟨d,c,b⟩:=M0M a;grind|[],_::_,h=>h.elim|some _::_,[],h=>h.elim|none::_,[],h=>h.elim
def Q0W:List (Option Nat)->List Nat
 |[]=>[]|some k::ks=>k::Q0W ks|none::ks=>Q0W ks
theorem W1e:∀{ks:List (Option Nat)}{i j k:Nat},(Q0W ks).Nodup->ks[i]?=some (some k)->ks[j]?=some (some k)->i=j
 |[],i,j,k,_,h,_=>by simp at h
 |o::ks,0,0,k,_,_,_=>rfl
 |some x::ks,0,j+1,k,hn,h1,h2=>by
  simp at h1 h2;subst h1
  have:=mem_keysO h2
  exact absurd this (List.nodup_cons.1 hn).1
 |some x::ks,i+1,0,k,hn,h1,h2=>by
  simp at h1 h2;subst h2
  have:=mem_keysO h1
  exact absurd this (List.nodup_cons.1 hn).1
 |none::ks,0,j+1,k,_,h1,_=>by simp at h1
 |none::ks,i+1,0,k,_,_,h2=>by simp at h2
 |some x::ks,i+1,j+1,k,hn,h1,h2=>congrArg (·+1) (W1e (ks:=ks) (i:=i) (j:=j) (k:=k) (List.nodup_cons.1 hn).2 (by simpa using h1) (by simpa using h2))
 |none::ks,i+1,j+1,k,hn,h1,h2=>congrArg (·+1) (W1e (ks:=ks) (i:=i) (j:=j) (k:=k) hn (by simpa using h1) (by simpa using h2))
where
 mem_keysO:∀{ks:List (Option Nat)} {j x:Nat},ks[j]?=some (some x)->x∈Q0W ks
  |[],j,x,h=>by simp at h
  |some y::ks,0,x,h=>by simp at h;simp[Q0W,h]
  |none::ks,0,x,h=>by simp at h
  |some y::ks,j+1,x,h=>by simp[Q0W,List.mem_cons];exact .inr (mem_keysO (by simpa using h))
  |none::ks,j+1,x,h=>by simp[Q0W];exact mem_keysO (by simpa using h)
def post(rs:List Rv)(res:AV)(rows:List Row)(e:Ex)(s:St):Prop :=(match e with | .ext _=>False|_=>True)/\∃(l:List AV) (ks:List (Option Nat)),s.rvs rs=some l/\AV.wk (λi=>ks[i]?=some none) ((O1c l).out ks) res/\Nw (O1c l)/\(Q0W ks).Nodup/\Q0D s ks rows
section
variable{P:Program}{c:Cx}{g:Gh}{s:St}{a:Act}{w:World}
theorem O2d{es:List AV}(h:NwL es):∀a∈flat es,Nw a:=by
 intro a d;obtain⟨e,c,b⟩:=List.mem_flatMap.1 d;have:=W0k.1 h e c;cases e with
 |agg cs =>
  have f:NwL cs:=by grind[Nw]
  exact W0k.1 f a b
 |_=>simp[AV.cells]at b;subst b;exact this
theorem Rd.fresh{S:Nat->Nat->Prop}{N N':Tag->Nat->Value->Prop}{B:Nat}(hB:∀z b o n c,N .nw z (.slice (some ⟨b,o,none⟩) n c)->B<=b)(hN:∀z v,N .nw z v->N' .nw z v){x:AV}{v:Value}(h:Rd w S N x v)(hn:Nw x):Rd w (λb o=>S b o/\B<=b) N' x v:=by
 induction h with
 |bool b=>exact .bool b|int k n=>exact .int k n|str l=>exact .str l|nl=>exact .nl|sl0 t sz p q ho =>refine .sl0 _ _ _ _ λi e=>?_;simp|agg cs vs hl h1 h ih=>exact .agg cs vs hl h1 λi y u hy hu=>ih i y u hy hu (W0k.1 (by simpa[Nw]using hn) y (yE hy))|fn f cs vs hl h ih=>exact .fn f cs vs hl λi y u hy hu=>ih i y u hy hu (W0k.1 (by simpa[Nw]using hn) y (yE hy))|ept e off b o cv hw h _=>grind[Nw]|sl t sz es b o cc cv hc hm hs hw hnn h ih =>
  have hall:∀a∈flat es,Nw a:=by
   rcases(by grind[Nw]:(es=[]/\t.isOwn=false)\/(t=.nw/\NwL es))with⟨rfl,_⟩|⟨_,h2⟩
   .simp[flat]
   grind[O2d]
  refine .sl t sz es b o cc cv hc hm hs (λj y hj=>⟨(hw j y hj).1,⟨(hw j y hj).2.1,?_⟩,(hw j y hj).2.2.1,?_⟩) (λi e=>?_) (by grind)
  .rcases(by grind[Nw]:(es=[]/\t.isOwn=false)\/(t=.nw/\NwL es))with⟨rfl,_⟩|⟨rfl,_⟩
   .simp[flat]at hj
   grind
  .rcases(by grind[Nw]:(es=[]/\t.isOwn=false)\/(t=.nw/\NwL es))with⟨rfl,_⟩|⟨rfl,_⟩
   .simp[flat]at hj
   grind
  simp
theorem Y2t(ks:List (Option Nat)){x:AV}(h:x.one=true\/x=.bad):(x.out ks).one=true\/x.out ks=.bad:=by
 rcases h with h|rfl
 .cases x with|sref j=>rw[AV.out];split<;>simp[AV.one]|ptr j o=>right;rfl|rpt j i o=>right;rfl|ept e o=>left;rfl|eot e o=>left;rfl|_=>simp[AV.out,AV.one]at h ⊢
 right;rfl
theorem Rd.out{S:Nat->Nat->Prop}{N:Tag->Nat->Value->Prop}(ks:List (Option Nat)){x:AV}{v:Value}(h:Rd w S N x v):Rd w S N (x.out ks) v:=by
 induction h with
 |bool b=>exact .bool b|int k n=>exact .int k n|str l=>exact .str l|nl=>exact .nl|sl0 t r p q E=>exact .sl0 _ _ _ _ E|sl t r es b o L m I G C d F h _=>exact .sl t r es b o L m I G C d F h|ept e off b o m d h _=>exact .ept e off b o m d h|agg cs a j K h A =>
  rw[AV.out,Q0B];refine .agg _ a (by simpa using j) (λy c=>?_) (λi y v c B=>?_)
  .obtain⟨M,s,rfl⟩:=yY c;obtain⟨i,H,rfl⟩:=List.getElem_of_mem s;have g:i<a.length:=by omega
   have D:=h i _ _ (yA H) (yA g);have J:=K _ s;generalize cs[i]=z at *;generalize a[i]=u at *;cases D<;>simp_all [AV.out,AV.one]
  grind
 |fn f cs a j h A =>rw[AV.out,Q0B];refine .fn f _ a (by simpa using j) (λi y v c B=>?_);rw[yF]at c;grind
def rvO(g:Gh)(ks:List (Option Nat))(i:Nat):Value:=match ks[i]? with|some (some k)=>g.rv k|_=>.slice none 0 0
section wk
variable{p:Nat->Prop}
theorem Gv.wk1(f:∀i,p i->∀r,s.rw i=some r->g.rv i=.slice none 0 0){a b:AV}{v:Value}(h:Gv w g s a v)(c:a.wk1 p b):Gv w g s b v:=by
 unfold AV.wk1 at c;split at c
 .obtain⟨q,rfl⟩:=c;rw[h.nl_inv];exact .data _ _ (.sl0 _ _ _ _ λi e=>by subst e;cases q)
 .rw[h.nl_inv];exact .sref _ _ rfl λr d=>(f _ c r d).symm
 grind
theorem J2s{a b:AV}(c:a.wk1 p b)(h:a.one=true\/a=.bad):b.one=true\/b=.bad:=by
 unfold AV.wk1 at c;split at c
 .exact .inl rfl
 .exact .inl rfl
 grind
theorem Gv.wkA(k:∀i,p i->∀r,s.rw i=some r->g.rv i=.slice none 0 0){a b:AV}{v:Value}(h:Gv w g s a v)(c:a.wkA p b):Gv w g s b v:=by
 unfold AV.wkA at c;split at c
 .rename_i cs t;obtain⟨m,rfl,x,q,o⟩:=h.agg_inv;obtain⟨y,l⟩:=X1z c;refine .agg t m (by omega) (λd e=>?_) (λi d u e n=>?_)
  .obtain⟨i,j,rfl⟩:=List.getElem_of_mem e;have f:i<cs.length:=by omega
   exact J2s (l i _ _ (by simp) (by simp)) (q _ (List.getElem_mem f))
  have j:i<cs.length:=by have:=(yB e).1;omega
  exact(o i _ u (yA j) n).wk1 k (l i _ d (yA j) e)
 exact h.wk1 k c
theorem Gv.wk(f:∀i,p i->∀r,s.rw i=some r->g.rv i=.slice none 0 0){a b:AV}{v:Value}(h:Gv w g s a v)(c:a.wk p b):Gv w g s b v:=by
 unfold AV.wk at c;split at c
 .rename_i cs k;obtain⟨e,rfl,m,o⟩:=h.tup_inv;obtain⟨t,q⟩:=X1z c;refine .tup k e (by omega) (λi d u j l=>?_);have n:i<cs.length:=by have:=(yB j).1;omega
  grind[yA,wkA]
 exact h.wkA f c
end wk
theorem Gv.out{B:Nat}(D:∀b,g.N b->B<=b){ks:List (Option Nat)}{rows:List Row}(m:Q0D s ks rows){x:AV}{v:Value}(h:Gv w g s x v)(u:Nw x) : Gv w { S:=λb o=>g.S b o/\B<=b,N:=g.N,bb:=g.bb,rv:=λi=>rvO g ks i } (L1o rows) (x.out ks) v:=by
 have G:∀(cs:List AV) (a:List Value) (g':Gh) (s':St),(∀(i:Nat) (x:AV) (v:Value),cs[i]?=some x->a[i]?=some v->Gv w g' s' (x.out ks) v) -> ∀(i:Nat) (x:AV) (v:Value),(cs.map (AV.out ks))[i]?=some x->a[i]?=some v->Gv w g' s' x v:=by grind
 induction h with
 |data x v h=>exact .data _ v ((h.fresh (λ_ _ _ _ _ q=>D _ (q _ rfl).1) (λ_ _ q b C=>⟨(q b C).1,λr=>by obtain⟨_,_,e,_⟩:=r;cases e⟩) u).out ks)|bad v=>exact .bad v|und=>exact .und|sref k v l h =>
  rw[AV.out];split
  .rename_i i A;have z:=L2b A;refine .sref _ v l λr' t=>?_;have c:rows[i]?=some r':=by grind[L1o]
   have:=((M0M m).2.1 i k r' z c).1;grind[rvO]
  exact .bad v
 |ptr j off v l h=>exact .bad v|rpt j i off v l h=>exact .bad v|el E=>exact .el E|od=>exact .bad _|op=>exact .bad _|eot e off b o J H h=>grind[Nw]|agg cs a d l _ n =>rw[AV.out,Q0B];refine .agg _ a (by simpa using d) (λy p=>?_) (by grind[W0k,Nw,yE]);obtain⟨F,I,rfl⟩:=yY p;grind[Y2t]|tup cs a d _ n =>rw[AV.out,Q0B];exact .tup _ a (by simpa using d) (by grind[W0k,Nw,yE])|fn f cs a d _ n =>rw[AV.out,Q0B];exact .fn f _ a (by simpa using d) (by grind[W0k,Nw,yE])
theorem L2C{p x:AV}{n:Nat}{e:Bool}{v:Value}(h:s.ld p n e=some x)(a:Gv w g s p v):∃f,v=.pointer (some f):=by
 unfold St.ld at h;split at h
 .obtain⟨b,o,d,rfl,_⟩:=a.ept_inv;simp
 .obtain⟨b,o,d,rfl,_⟩:=a.eot_inv;simp
 .split at h
  .rename_i cs c;exact⟨_,a.ptr_inv c⟩
  cases h
 .split at h
  .rename_i r c;obtain⟨b,_,rfl⟩:=a.rpt_inv c;simp
  cases h
 cases h
def X2r(tmps:Array Value):ResultVar->Sem Value
 |.tmp t=>pure (tmps.getD t undef)|.cell a t=>do loadVar t (← asAddr (tmps.getD a undef))
theorem U0D(I:Inv c g s a w){r:Rv}{R:ResultVar}(b:chkR P r R=true){x:AV}(h:s.rv1 r=some x):∃u,(X2r a.tmps R).run P w=.ok u w/\Gv w g s x u:=by cases r with|t i =>cases R<;>simp[chkR]at b;subst b;simp[St.rv1]at h;subst h;exact⟨_,rfl,I.tm i⟩|c i n k =>cases R<;>simp[chkR,beq_iff_eq,Bool.or_eq_true]at b;obtain⟨⟨⟨rfl,j⟩,f⟩,e⟩:=b;simp[St.rv1]at h;have d:=I.tm i;grind[J2C,L2C,X2r,Instr.loadAt,Instr.sureAddr,asAddr]
theorem X1c{m:Func}(I:Inv c g s a w){z:List Rv}(t:z.length<=4)(b:L0C P z m.results.toList=true){l:List AV}(h:s.rvs z=some l) : ∃u,(results m a.tmps).run P w=.ok u w/\Gv w g s (O1c l) u:=by
 have J:∀L:List ResultVar,m.results.toList=L->m.results=L.toArray:=by simp
 have r:∀L:List ResultVar,m.results.toList=L->results m a.tmps=(do let vs ← L.toArray.mapM (X2r a.tmps);pure (if h:vs.size=1 then vs[0]else .tuple vs)):=λL C=>by unfold results;rw[J L C];rfl
 generalize C:m.results.toList=L at b;rw[r L C];match z,L,t,b,h with
 |[],[],_,_,h =>simp[St.rvs]at h;subst h;exact⟨.tuple #[],by simp,.tup [] [] rfl (by simp)⟩|[r1],[R1],_,b,h =>simp only[L0C,yD]at b;simp only[St.rvs]at h;cases h1:s.rv1 r1 with|none=>simp[h1]at h|some n =>simp[h1]at h;subst h;obtain⟨f,o,k⟩:=U0D (P:=P) I b.1 h1;exact⟨f,by simp[o],k⟩
 |[r1,r2],[R1,R2],_,b,h =>
  simp only[L0C,yD]at b;simp only[St.rvs]at h;cases h1:s.rv1 r1 with|none=>simp[h1]at h|some n =>
  cases h2:s.rv1 r2 with|none=>simp[h2]at h|some p =>simp[h1,h2]at h;subst h;obtain⟨f,o,k⟩:=U0D (P:=P) I b.1 h1;obtain⟨j,A,x⟩:=U0D (P:=P) I b.2.1 h2;refine⟨.tuple #[f,j],by simp[o,A],.tup [n,p] [f,j] rfl λi y v d e=>?_⟩;match i with|0=>simp at d e;subst d;subst e;exact k|1=>simp at d e;subst d;subst e;exact x|i+2=>simp at d
 |[r1,r2,r3],[R1,R2,R3],_,b,h =>
  simp only[L0C,yD]at b;simp only[St.rvs]at h;cases h1:s.rv1 r1 with|none=>simp[h1]at h|some n =>
  cases h2:s.rv1 r2 with|none=>simp[h2]at h|some p =>
  cases h3:s.rv1 r3 with|none=>simp[h3]at h|some B =>simp[h1,h2,h3]at h;subst h;obtain⟨f,o,k⟩:=U0D (P:=P) I b.1 h1;obtain⟨j,A,x⟩:=U0D (P:=P) I b.2.1 h2;obtain⟨q,F,D⟩:=U0D (P:=P) I b.2.2.1 h3;refine⟨.tuple #[f,j,q],by simp[o,A,F],.tup [n,p,B] [f,j,q] rfl λi y v d e=>?_⟩;match i with|0=>simp at d e;subst d;subst e;exact k|1=>simp at d e;subst d;subst e;exact x|2=>simp at d e;subst d;subst e;exact D|i+3=>simp at d
 |[r1,r2,r3,r4],[R1,R2,R3,R4],_,b,h =>
  simp only[L0C,yD]at b;simp only[St.rvs]at h;cases h1:s.rv1 r1 with|none=>simp[h1]at h|some n =>
  cases h2:s.rv1 r2 with|none=>simp[h2]at h|some p =>
  cases h3:s.rv1 r3 with|none=>simp[h3]at h|some B =>
  cases h4:s.rv1 r4 with|none=>simp[h4]at h|some G =>simp[h1,h2,h3,h4]at h;subst h;obtain⟨f,o,k⟩:=U0D (P:=P) I b.1 h1;obtain⟨j,A,x⟩:=U0D (P:=P) I b.2.1 h2;obtain⟨q,F,D⟩:=U0D (P:=P) I b.2.2.1 h3;obtain⟨E,K,H⟩:=U0D (P:=P) I b.2.2.2.1 h4;refine⟨.tuple #[f,j,q,E],by simp_all,.tup [n,p,B,G] [f,j,q,E] rfl λi y v d e=>?_⟩;match i with|0=>simp at d e;subst d;subst e;exact k|1=>simp at d e;subst d;subst e;exact x|2=>simp at d e;subst d;subst e;exact D|3=>simp at d e;subst d;subst e;exact H|i+4=>simp at d
 |[],_::_,_,b,_=>grind[L0C]|_::_,[],_,b,_=>grind[L0C]|[_],_::_::_,_,b,_=>grind[L0C]|_::_::_,[_],_,b,_=>grind[L0C]|[_,_],_::_::_::_,_,b,_=>grind[L0C]|_::_::_::_,[_,_],_,b,_=>grind[L0C]|[_,_,_],_::_::_::_::_,_,b,_=>grind[L0C]|_::_::_::_::_,[_,_,_],_,b,_=>grind[L0C]|[_,_,_,_],_::_::_::_::_::_,_,b,_=>grind[L0C]|_::_::_::_::_::_,_::_::_::_::_,hl,_,_=>simp at hl
def st0(args:List AV):St:={ e:=λi=>args.getD i .und,bx:=λ_=>none,rw:=λ_=>none,nx:=0,my:=λ_=>True }
def chkF(P:Program)(n:Nat)(l:L)(rs:List Rv)(fn:Func):Bool :=(match fn.body with|some code=>chkC P fn.ntmps l code|none=>false)&&L0C P rs fn.results.toList&&decide (rs.length<=4)&&decide (n<=fn.ntmps)&&decide (fn.ntmps<=900000)
theorem O2A{f:FuncId}{x:Func}{l:L}{rs:List Rv}{a:List AV}{z:AV}{rows:List Row}(hf:P.funcs[f]?=some x)(t:chkF P a.length l rs x=true)(Q:rdtL a=a)(h:den P l (post rs z rows) (st0 a)):Snd P f a z rows:=by
 simp only[chkF,yD,yO]at t;obtain⟨⟨⟨⟨t,hr⟩,R⟩,hn⟩,V⟩:=t;cases m:x.body with
 |none=>rw[m]at t;cases t|some code =>
  rw[m]at t;simp only at t;intro w S N p hS hvl M;let c:Cx:={ nt:=x.ntmps,X:=λ_=>False,Y:=λ_=>False,S0:=S,w0:=w,rv0:=λ_=>undef,bb0:=λ_=>0,ntb:=V,s0:=hS,sx:=λ_ _ _ h=>h };let g:Gh:={ S:=S,N:=λb=>w.heap.size<=b,bb:=λ_=>0,rv:=λ_=>undef };have I:Inv c g (st0 a) { tmps:=p.toArray++Array.replicate (x.ntmps-p.toArray.size) undef,defers:=[] } w:=by
   refine⟨rfl,by simp only[Array.size_append,List.size_toArray,Array.size_replicate,c];omega,⟨rfl,rfl,rfl,yV _,λ_ _ _=>rfl⟩,λi=>?_,λk cs h=>(by cases h),λk cs h=>(by cases h),λk r h=>(by cases h),λk r h=>(by cases h),λk H cs cs' h=>(by cases h),λk H cs r h=>(by cases h),λk H r r' h=>(by cases h),by omega,λb h=>h,λb h1 h2=>absurd h2 (Nat.not_lt.2 h1),λ_ _=>⟨rfl,rfl⟩,λ_ _ h=>h,λ_ _ h=>.inl h,⟨OwnH.none λ_=>rfl,by simp,rfl,yV _,λ_ _=>rfl,λ_ h=>(show False from h).elim,λ_ h=>(show False from h).elim,λ_ _ _ h=>(show False from h).elim⟩,λb o h q=>q.elim (λq=>absurd (hS b o h) (Nat.not_lt.2 q)) λq=>(show False from q).elim,λ_ _ _ h=>h⟩;simp only[st0];rcases Nat.lt_or_ge i a.length with s|s
   .have hiv:i<p.length:=by omega
    have e1:a.getD i .und=a[i]:=by simp[List.getD_eq_getElem?_getD,s]
    have e2:(p.toArray++Array.replicate (x.ntmps-p.toArray.size) undef).getD i undef=p[i]:=by simp_all[Array.getD_eq_getD_getElem?,Array.getElem?_append_left]
    rw[e1,e2];have:=(M i a[i] p[i] (by simp) (by simp)).rdt (N':=g.T) (Gh.T_rd λ_=>rfl);have e3:a[i].rdt=a[i]:=by have:=congrArg (λl:List AV=>l[i]?) Q;simp only[U5,yF,yA s,Option.map_some,yI]at this;exact this
    rw[e3]at this;exact .data _ _ this
   have e1:a.getD i .und=.und:=by simp[List.getD_eq_getElem?_getD,List.getElem?_eq_none s]
   have e2:(p.toArray++Array.replicate (x.ntmps-p.toArray.size) undef).getD i undef=undef:=by rw[Array.getD_eq_getD_getElem?,Array.getElem?_append_right (by simp;omega),Array.getElem?_replicate];split<;>rfl
   rw[e1,e2];exact .und
  apply calls_of_wp hf m;refine W1y (c:=c) t (λe g' s' a' w' d hp=>?_) I h;have F:(∃v,(results x a'.tmps).run P w'=.ok v w'/\∃v',Ending.returned v=.returned v'/\Below w.heap.size w w'/\Ret w.heap.size w' z rows v'):=by
   obtain⟨_,l',ks,h1,h2,h3,h4,h5⟩:=hp;obtain⟨u,q1,q2⟩:=X1c (P:=P) d R hr h1;have K:∀b,g'.N b->w.heap.size<=b:=λb m=>Classical.byContradiction λW=>d.nx b m (show b<w.heap.size by omega);refine⟨u,q1,u,rfl,⟨d.fr.os,d.fr.tape,d.fr.output,d.fr.size,λk C=>d.fr.block k C (λh=>h)⟩,?_⟩;obtain⟨r1,r2,r3⟩:=M0M h5;have A:∀(i:Nat) (r:Row),rows[i]?=some r->(∃k,ks[i]?=some (some k)/\s'.rw k=some r/\r.sh=false/\NwL r.es/\rvO g' ks i=g'.rv k)\/(ks[i]?=some none/\r.es=[]/\rvO g' ks i=.slice none 0 0):=λi r s=>by
    have W:i<ks.length:=by rw[r1];grind
    cases C:ks[i]with|none=>grind[yA,rvO]|some k =>grind[yA,rvO]
   refine⟨{ S:=λb o=>g'.S b o/\w.heap.size<=b,N:=g'.N,bb:=g'.bb,rv:=λi=>rvO g' ks i },λb o B=>⟨B.2,d.sw b o B.1⟩,K,λ_=>rfl,(q2.out K h5 h3).wk (by grind) h2,λi r s=>?_,λi j r r' s hj hne b m=>?_,λb o B=>d.uf b o B.1 (.inl B.2)⟩
   .rcases A i r s with⟨k,C,n,O,U,D⟩|⟨C,J,D⟩
    .simp only[D];obtain⟨xs,ty,p1,p2,p3⟩:=d.rws k r n;refine⟨⟨xs,ty,p1,p2,λj y v hy hv=>⟨(by grind),(by grind),((p3 j y v hy hv).2.2).fresh (λ_ _ _ _ _ h=>K _ (h _ rfl).1) (λ_ _ h b m=>⟨(h b m).1,λq=>by obtain⟨_,_,e,_⟩:=q;cases e⟩) (O2d U y (by grind))⟩⟩,λb m=>⟨K b (d.rwn k r n b m).1.1,λo B=>?_⟩⟩;have:=((d.rwn k r n b m).2 o B.1).1;rw[O]at this;cases this
    simp only[D];refine⟨⟨[],0,by rw[J];simp[World.ownsRow_nil],by rw[J];simp,by rw[J];simp⟩,by simp[Value.ownBlock]⟩
   rcases A i r s with⟨k,C,n,_,_,D⟩|⟨C,J,D⟩
   .rcases A j r' hj with⟨H,Z,E,_,_,G⟩|⟨Z,he',G⟩
    .simp only[D,G]at m ⊢;exact d.drr k H r r' n E (by grind[W1e]) b m
    grind[Value.ownBlock]
   grind[Value.ownBlock]
  cases e with|nrm=>exact⟨d.defers,F⟩|ret=>exact⟨d.defers,F⟩|ext id=>exact hp.1.elim
def YQ(P:Program)(f:FuncId)(n:Nat)(l:L)(rs:List Rv):Bool:=match P.funcs[f]? with
 |some fn=>chkF P n l rs fn
 |none=>false
theorem M2A{f:FuncId}{l:L}{c:List Rv}{a:List AV}{b:AV}{rows:List Row}{n:Nat}(g:YQ P f n l c=true)(e:a.length=n)(d:rdtL a=a)(h:den P l (post c b rows) (st0 a)):Snd P f a b rows:=by grind[YQ,O2A]
end
end
section
inductive It
 |l (c:L)
 |mk (id:Nat)
 |lp (I:Nat->St->Prop) (m:Nat)
 |jn (J:St->Prop)
def denK(P:Program)(R:Ex->St->Prop):List It->Ex->St->Prop
 |[],e,s=>R e s|.l c::k,e,s=>match e with
  |.nrm=>den P c (denK P R k) s
  |e=>denK P R k e s
 |.mk id::k,e,s=>match e with
  |.ext id'=>if id'=id then denK P R k .nrm s else denK P R k (.ext id') s
  |e=>denK P R k e s
 |.lp I m::k,e,s=>match e with
  |.nrm=>∃m',m'<m/\I m' s
  |e=>denK P R k e s
 |.jn J::k,e,s=>match e with
  |.nrm=>J s
  |e=>denK P R k e s
def W(P:Program)(R:Ex->St->Prop)(k:List It)(s:St):Prop:=denK P R k .nrm s
section
variable{P:Program}{R:Ex->St->Prop}{k:List It}{s:St}
theorem X20{K r:Ex->St->Prop}(h:∀e s,K e s->r e s):∀{l:L}{s:St},den P l K s->den P l r s:=by
 have j:∀(o:LOp) (K r:St->Prop) (s:St),(∀s,K s->r s)->wop P o K s->wop P o r s:=by
  intro o
  induction o with
  |g t Z o C =>
   intro K r s h a
   simp only[wop]at a ⊢
   grind
  |pk d x y z =>grind[wop]|eb d ne x y =>grind[wop]|es d ne ks x y =>grind[wop,eqCells]|st p x n =>
   intro K r s h a
   simp only[wop]at a ⊢
   cases hp:s.get p<;>rw[hp]at a<;>first
     |exact a
     | (rename_i k off;cases N:s.bx k<;>simp only[N]at a ⊢<;>first|exact a|exact(by grind))
     |grind
  |ms d Q by' z x =>grind[wop]|mm d mx x y =>grind[wop]|ln d x =>grind[wop]|cl d f xs =>grind[wop]|cq d f xs =>grind[wop]|cc d f xs =>grind[wop]|cm d f xs =>grind[wop,upd]|lq d x =>grind[wop]|cn d f xs =>grind[wop]|ia d x i n =>
   intro K r s h a
   simp only[wop]at a ⊢
   split at a
   .grind
   .grind
   exact a
  |old d x =>grind[wop]|co d f xs =>grind[wop]|cf d f m xs =>
   intro K r s h a
   simp only[wop]at a ⊢
   obtain⟨hm,Y,Φ,S,M,J,H,O⟩:=a
   exact⟨hm,Y,Φ,S,M,J,H,by grind⟩
  |b2s d x =>grind[wop]|cs t =>grind[wop]|bs d Q ps T =>
   intro K r s h a
   simp only[wop]at a ⊢
   grind
  |_ =>
   intro K r s h a
   simp only[wop]at a ⊢
   repeat' split at a
   all_goals first
     |exact a
     |exact h _ a
     |exact(by grind)
     |exact(by grind)
     |exact(by grind)
     |grind
 have A:∀(v:List LOp) (K r:St->Prop) (s:St),(∀s,K s->r s)->wops P v K s->wops P v r s:=by
  intro v
  induction v with|nil=>exact λK r s h a=>h _ a|cons l v C=>exact λK r s h a=>j l _ _ s (by grind) a
 have w:∀(v:List LOp) (acc:List AV) (K r:St->Prop) (s:St),(∀s,K s->r s)->Q0q P v acc K s->Q0q P v acc r s:=by
  intro v
  induction v with
  |nil=>exact λacc K r s h a=>h _ a|cons l v C =>
   intro acc K r s h a
   cases l with|al d z=>grind[Q0q]|_=>simp only[Q0q]at a ⊢;exact(by grind)
 have B:∀(l:LOp) (K r:St->Prop) (s:St),(∀s,K s->r s)->zw P l K s->zw P l r s:=by
  intro l K r s h a
  cases l with
  |cm d f xs =>
   obtain⟨W,X,M,J,H,hn,Φ,hC,N⟩:=a
   exact⟨W,X,M,J,H,hn,Φ,hC,λn1 D E us new q0 q1 q2=>⟨(N n1 D E us new q0 q1 q2).1,h _ (N n1 D E us new q0 q1 q2).2⟩⟩
  |cl d f xs =>
   obtain⟨Y,M,D,R,J,h8,hd,H,O,h5⟩:=a
   exact⟨Y,M,D,R,J,h8,hd,H,O,h _ h5⟩
  |bs d Q ps T=>exact⟨a.1,j _ _ _ s h a.2⟩|ap d x y Q b=>exact⟨a.1,j _ _ _ s h a.2⟩|_=>first
    | (simp only[zw]at a ⊢;exact by grind)
    |exact j _ _ _ s h a
 have u:∀(c:Zc) (ow:List Nat) (v:List (Bool×LOp)) (K r:St->Prop) (s:St),(∀s,K s->r s)->ZK P c ow v K s->ZK P c ow v r s:=by
  intro c ow v
  induction v with
  |nil=>exact λK r s h a=>h _ a|cons it v C =>
   intro K r s h a
   obtain⟨f,l⟩:=it
   cases f with|true=>exact B l _ _ s (by grind) a|false=>exact⟨a.1,a.2.1,j l _ _ _ (by grind) a.2.2⟩
 intro l
 induction l generalizing K r with
 |skip=>exact λa=>h _ _ a|ro ow als F tl=>exact λa=>u _ _ _ _ _ _ (by grind) a|rz als F tl=>exact λa=>u _ _ _ _ _ _ (by grind) a|reg v=>exact λa=>A v _ _ _ (by grind) a|rq m v=>exact λa=>w _ _ _ _ _ (by grind) a|seq x y V U =>grind[den]|cond c x y V U =>grind[den]|blk id x C =>
  intro s a
  simp only[den]at a ⊢
  grind
 |loop x C =>
  intro s a
  simp only[den]at a ⊢
  obtain⟨I,n,h0,hr⟩:=a
  refine⟨I,n,h0,λm s' hI=>C (λe s'' q=>?_) (hr m s' hI)⟩
  grind
 |exit id=>exact λa=>h _ _ a|ret=>exact λa=>h _ _ a|scope x C=>exact λa=>C h a|gw x C=>exact λ⟨G,M,J,H,O⟩=>⟨G,M,J,H,C h O⟩
@[simp] theorem W_reg {a:List LOp}:W P R (.l (.reg a)::k) s=wops P a (W P R k) s:=_root_.id rfl
@[simp] theorem W_rq {m:Nat}{a:List LOp}:W P R (.l (.rq m a)::k) s=Q0q P (a.take m) [] (wops P (a.drop m) (W P R k)) (s.kills (alKeys (a.take m))):=_root_.id rfl
@[simp] theorem W_rz {als:List ZA}{a:List ZI}{b:List LOp}:W P R (.l (.rz als a b)::k) s=ZK P (zcOf (a.map Prod.snd)) [] (a.map Prod.snd) (λs'=>wops P b (W P R k) (alZ s' als)) (s.kills (als.map (·.2.1))):=_root_.id rfl
@[simp] theorem W_ro {ow:List Nat}{als:List ZA}{a:List ZI}{b:List LOp}:W P R (.l (.ro ow als a b)::k) s=ZK P (zcOf (a.map Prod.snd)) ow (a.map Prod.snd) (λs'=>(∀d∈ow,s'.e d=.ptr d 0)/\wops P b (W P R k) (alZ s' als)) (s.kills (als.map (·.2.1))):=_root_.id rfl
@[simp] theorem J2k {i d:Nat}{z:List AV}{r:List ZA}:alZ s ((i,d,z)::r)=alZ { s with e:=upd s.e d (.ptr d 0),bx:=λk=>if k=d then some z else s.bx k } r:=_root_.id rfl
@[simp] theorem W_seq {x y:L}:W P R (.l (.seq x y)::k) s=W P R (.l x::.l y::k) s:=by show den P x _ s=den P x _ s;congr 1
@[simp] theorem W2F {c:X}{x y:L}:W P R (.l (.cond c x y)::k) s=match s.get c with
 |.bool t=>(t=true->W P R (.l x::k) s)/\(t=false->W P R (.l y::k) s)|_=>False:=_root_.id rfl
@[simp] theorem W_blk {a:Nat}{x:L}:W P R (.l (.blk a x)::k) s=W P R (.l x::.mk a::k) s:=by show den P x _ s=den P x _ s;congr 1
@[simp] theorem Y2w {x:L}:W P R (.l (.scope x)::k) s=W P R (.l x::k) s:=_root_.id rfl
theorem W_gw{x:L}(G:GW)(c:G.ok=true)(b:nooT s G.te)(a:nooB s G.tb)(h:W P R (.l x::k) (s.gw G)):W P R (.l (.gw x)::k) s:=⟨G,c,b,a,h⟩
@[simp] theorem Q2F {a:Nat}:W P R (.l (.exit a)::k) s=denK P R k (.ext a) s:=_root_.id rfl
@[simp] theorem U2F:W P R (.l .ret::k) s=denK P R k .ret s:=_root_.id rfl
@[simp] theorem X1U {b a:Nat}:denK P R (.mk b::k) (.ext a) s=if a=b then W P R k s else denK P R k (.ext a) s:=_root_.id rfl
theorem J2p{x:L}(I:Nat->St->Prop)(n:Nat)(c:I n s)(h:∀m s',I m s'->W P R (.l x::.lp I m::k) s'):W P R (.l (.loop x)::k) s:=by refine⟨I,n,c,λm s' b=>?_⟩;refine X20 (λe a q=>?_) (h m s' b);cases e<;>exact q
theorem X2E{l:L}(h:W P R [.l l] s):den P l R s:=by refine X20 (λe a q=>?_) h;cases e<;>exact q
@[simp] theorem U2O {t:Nat}{a:Bool}{o:LOp}{K:St->Prop}(h:s.e t=.und):wop P (.g t a o) K s=K (s.set o.dst .und):=by simp[wop,h]
def V2B(P:Program)(d:Nat)(ls:List LOp)(acc:List AV)(K:St->Prop)(s':St):Prop:=Q0q P ls (s'.e d::acc) K s'
@[simp] theorem Z2i {d:Nat}{z:List AV}{a:List LOp}{acc:List AV}{K:St->Prop}:Q0q P (.al d z::a) acc K s=((∀v∈acc,v.dead d=v)/\Q0q P a (.ptr d 0::U7 d z++acc) K (alSt s d z)):=_root_.id rfl
@[simp] theorem J21 {l:LOp}{a:List LOp}{acc:List AV}{K:St->Prop}(h:isAl l=false):Q0q P (l::a) acc K s=(scOk s l/\wop P l (V2B P l.dst a acc K) s):=by cases l<;>first|rfl|simp[isAl]at h
def J2g(P:Program)(c:Zc)(ow:List Nat)(d:Nat)(r:List (Bool×LOp))(K:St->Prop)(s s':St):Prop:=kfz c (s.hide ow) (s'.e d)=true/\ZK P c ow r K (s.set d (s'.e d))
@[simp] theorem U1V {c:Zc}{ow:List Nat}{d:Nat}{r:List (Bool×LOp)}{K:St->Prop}{s':St}:J2g P c ow d r K s s'=(kfz c (s.hide ow) (s'.e d)=true/\ZK P c ow r K (s.set d (s'.e d))):=_root_.id rfl
@[simp] theorem Z2q {c:Zc}{ow:List Nat}{l:LOp}{r:List (Bool×LOp)}{K:St->Prop}:ZK P c ow ((false,l)::r) K s=(((∀t∈l.rds,kfz c s (s.e t)=true)\/L1K r=true)/\scOk ((s.hide ow).stripc c) l/\wop P l (J2g P c ow l.dst r K s) ((s.hide ow).stripc c)):=_root_.id rfl
@[simp] theorem Q2o {ow:List Nat}(i:Nat):(s.hide ow).e i=s.e i:=_root_.id rfl
attribute [simp] L1K W0D
@[simp] theorem Y2q {c:Zc}{ow:List Nat}{l:LOp}{r:List (Bool×LOp)}{K:St->Prop}:ZK P c ow ((true,l)::r) K s=zw P l (ZK P c ow r K) s:=_root_.id rfl
attribute [simp] zcOf V1K W0J AV.ks ksL rO rS clK clKs
attribute [simp] isCm Y0C
@[simp] theorem J2j (i:Nat):s.get (.t i)=s.e i:=rfl
@[simp] theorem get_c (a:AV):s.get (.c a)=a:=rfl
@[simp] theorem e_set (d i:Nat)(v:AV):(s.set d v).e i=if i=d then v else s.e i:=rfl
@[simp] theorem bx_set (d:Nat)(v:AV):(s.set d v).bx=s.bx:=rfl
@[simp] theorem rw_set (d:Nat)(v:AV):(s.set d v).rw=s.rw:=rfl
@[simp] theorem e_kill (d i:Nat):(s.kill d).e i=(s.e i).dead d:=rfl
@[simp] theorem bx_kill (d i:Nat):(s.kill d).bx i=if i=d then none else(s.bx i).map (U7 d):=rfl
@[simp] theorem rw_kill (d i:Nat):(s.kill d).rw i=if i=d then none else s.rw i:=rfl
@[simp] theorem e_st0 (l:List AV)(i:Nat):(st0 l).e i=l.getD i .und:=rfl
@[simp] theorem bx_st0 (l:List AV)(i:Nat):(st0 l).bx i=none:=rfl
@[simp] theorem rw_st0 (l:List AV)(i:Nat):(st0 l).rw i=none:=rfl
section wks
variable{p:Nat->Prop}
@[simp] theorem J1V (a:AV):AV.wk1 p a a↔True:=by cases a<;>simp[AV.wk1]
@[simp] theorem Z2x (t:Tag)(b:Nat)(a:List AV):AV.wk1 p .nl (.sl t b a)↔t.isOwn=false/\a=[]:=Iff.rfl
@[simp] theorem U2q (i:Nat):AV.wk1 p .nl (.sref i)↔p i:=Iff.rfl
theorem M1a{R:AV->AV->Prop}(h:∀a,R a a):∀l,wkLs R l l
 |[]=>trivial|a::l=>⟨h a,M1a h l⟩
@[simp] theorem L1V (a:AV):AV.wkA p a a↔True:=by cases a<;>simp[AV.wkA,J1V];simp[M1a,J1V]
@[simp] theorem wkA_agg (cs a:List AV):AV.wkA p (.agg cs) (.agg a)↔wkLs (AV.wk1 p) cs a:=Iff.rfl
@[simp] theorem wk_tup (cs a:List AV):AV.wk p (.tup cs) (.tup a)↔wkLs (AV.wkA p) cs a:=Iff.rfl
attribute [simp] wkLs
end wks
def argsW(s:St)(xs:List X)(as:List AV):Prop:=match s.args xs with|some l=>wkLs (AV.wkA λ_=>False) l as|none=>False
attribute [simp] argsW
section ev
variable(a b:Int)(x y:List UInt8)(k:IntKind)
@[simp] theorem ev_shr (c:IntKind):evB .shr (.int k a) (.int c b)=if 0<=b then some (.int k (bShr k a b))else none:=by simp[evB]
@[simp] theorem ev_quo:evB .quo (.int k a) (.int k b)=if b≠0 then some (.int k (k.wrap (a.tdiv b)))else none:=by simp[evB]
@[simp] theorem ev_rem:evB .rem (.int k a) (.int k b)=if b≠0 then some (.int k (a.tmod b))else none:=by simp[evB]
end ev
theorem M1R{n:Int}(b:-9223372036854775808<=n)(a:n<=9223372036854775807):IntKind.i64.wrap n=n:=by unfold IntKind.wrap;simp[IntKind.bits,IntKind.signed];omega
@[simp] theorem W25 {i n:Nat}(h:i<n)(a:n<=9223372036854775807):IntKind.i64.wrap ((i:Int)+1)=((i+1:Nat):Int):=by rw[M1R (by omega) (by omega)];simp
end
attribute [simp] wop.eq_1 wop.eq_2 wop.eq_3 wop.eq_4 wop.eq_5 wop.eq_6 wop.eq_7 wop.eq_8 wop.eq_9 wop.eq_10 wop.eq_11 wop.eq_12 wop.eq_13 wop.eq_14 wop.eq_15 wop.eq_16 wop.eq_17 wop.eq_18 wop.eq_19 wop.eq_20 wop.eq_21 wop.eq_22 wop.eq_23 wop.eq_24 wop.eq_25 wop.eq_26 wop.eq_27 wop.eq_28 wop.eq_29 wop.eq_30 wop.eq_36 wop.eq_37
attribute [simp] LOp.dst scOk U1M alSt LOp.rds X.rd rdO AV.kf kfL bO
attribute [simp] AV.nwd nwdL AV.ren renL St.addrows O1c ix U0a
attribute [simp] ixO Q0W
attribute [simp] Tag.isOwn AV.noO noOL
mutual
theorem V2C:∀a:AV,Nw a->a.noO
 |.bool _,_ | .int _ _,_ | .str _,_ | .nl,_ | .el,_ | .sref _,_ | .ptr _ _,_ | .rpt _ _ _,_ | .und,_ | .bad,_=>by simp[AV.noO]
 |.ept _ _,h | .eot _ _,h=>by simp[Nw]at h
 |.sl t sz es,h=>by
  simp only[Nw]at h
  rcases h with⟨rfl,h⟩|⟨rfl,h⟩
  .exact⟨h,trivial⟩
  .exact⟨rfl,J19 es h⟩
 |.agg cs,h | .tup cs,h | .fn _ cs,h=>by simp only[AV.noO];simp only[Nw]at h;exact J19 cs h
theorem J19:∀l:List AV,NwL l->noOL l
 |[],_=>trivial
 |a::l,h=>⟨V2C a h.1,J19 l h.2⟩
end
theorem M2t{l:List AV}(h:NwL l):noOL l=True:=eq_true (J19 l h)
attribute [simp low] M2t
attribute [simp] St.rvs St.rv1 O1c AV.out outL Nw NwL Q0D St.ld U0u allOne AV.one AV.cells U7 AV.dead AV.rdt rdtL St.dt St.dtL Y0o putC nosr plain St.kills alKeys
end
section
inductive Ty
 |bool
 |int (k:IntKind)
 |str
 |sl (e:Ty)
 |st (fs:List Ty)
mutual
def Ty.size:Ty->Nat
 |.st fs=>Z1L fs
 |_=>1
def Z1L:List Ty->Nat
 |[]=>0
 |f::fs=>f.size+Z1L fs
end
def Ty.isSt:Ty->Bool
 |.st _=>true|_=>false
mutual
def Ty.ok:Ty->List AV->Prop
 |.bool,l=>∃b,l=[.bool b]
 |.int k,l=>∃n,l=[.int k n]/\(Lit.int k n).wf=true
 |.str,l=>∃s,l=[.str s]/\s.length<=maxLen
 |.sl e,l=>l=[.nl]\/∃es:List AV,l=[.sl .rd e.size es]/\es.length<=maxLen/\∀x∈es,x.cells.length=e.size/\(if e.isSt then ∃cs,x=.agg cs else x.one=true)/\Ty.ok e x.cells
 |.st fs,l=>okL fs l
def okL:List Ty->List AV->Prop
 |[],l=>l=[]
 |f::fs,l=>∃l1 l2,l=l1++l2/\Ty.ok f l1/\okL fs l2
end
mutual
def L0K(P:Program):Ty->TypeId->Bool
 |.bool,t=>(match P.underlying t with|some .bool=>true|_=>false)
 |.int k,t=>(match P.underlying t with|some (.int k')=>decide (k'=k)|_=>false)
 |.str,t=>(match P.underlying t with|some .string=>true|_=>false)
 |.sl e,t=>(match P.underlying t with|some (.slice u)=>L0K P e u&&P.cellsOf u==e.size&&e.size != 0|_=>false)
 |.st fs,t=>(match P.underlying t with|some (.struct gs)=>L1Q P fs gs.toList 0&&P.cellsOf t==Z1L fs|_=>false)
def L1Q(P:Program):List Ty->List Field->Nat->Bool
 |[],[],_=>true
 |f::fs,g::gs,o=>g.offset==o&&L0K P f g.type&&P.cellsOf g.type==f.size&&L1Q P fs gs (o+f.size)
 |_,_,_=>false
end
section
variable{H:Type}{enc:TypeId×Value->H}{P:Program}{w:World}{base:Nat}{spare:Nat->Bool}{held:Bool}
def AllS(w:World):Nat->Nat->Prop:=λb _=>b<w.heap.size
def Cells(w:World)(l:List AV)(cs:List Value):Prop :=l.length=cs.length/\∀(i:Nat) (a:AV) (v:Value),l[i]?=some a->cs[i]?=some v->a.one=true/\Rd w (AllS w) rdT a v
theorem J2f{a:AV}{v:Value}(d:a.one=true)(h:Rd w (AllS w) rdT a v):Cells w [a] [v]:=by refine⟨rfl,λi x u b c=>?_⟩;grind
theorem O2f{e f:List AV}{j h:List Value}(b:Cells w e j)(g:Cells w f h):Cells w (e++f) (j++h):=by
 refine⟨by simp[b.1,g.1],λi x u c d=>?_⟩;rcases Nat.lt_or_ge i e.length with a|a
 .rw[yK a]at c;rw[yK (by rw[← b.1];exact a)]at d;exact b.2 i x u c d
 rw[yS a]at c;rw[yS (by rw[← b.1];exact a),← b.1]at d;exact g.2 _ x u c d
theorem O2v{b o:Nat}{a:Option Nat}{v:Value}(h:w.cell? ⟨b,o,a⟩=some v):b<w.heap.size:=by grind[World.cell?,Nat.lt_or_ge,Array.getElem?_eq_none]
theorem M2f{b o:Nat}{a:Option Nat}{v:Value}(h:w.cell? ⟨b,o,a⟩=some v):a=none:=by
 unfold World.cell? at h;split at h
 .simp_all
 cases h
mutual
theorem X1C:∀{τ:Ty} {l:List AV},τ.ok l->l.length=τ.size
 |.bool,l,h=>by obtain⟨b,rfl⟩:=(by simpa[Ty.ok]using h:∃b,l=[.bool b]);rfl
 |.int k,l,h=>by simp only[Ty.ok]at h;obtain⟨n,rfl,_⟩:=h;rfl
 |.str,l,h=>by simp only[Ty.ok]at h;obtain⟨n,rfl,_⟩:=h;rfl
 |.sl e,l,h=>by
  simp only[Ty.ok]at h
  rcases h with rfl|⟨es,rfl,_⟩<;>rfl
 |.st fs,l,h=>by simp only[Ty.ok]at h;simp only[Ty.size];exact Z1Y h
theorem Z1Y:∀{fs:List Ty} {l:List AV},okL fs l->l.length=Z1L fs
 |[],l,h=>by simp only[okL]at h;subst h;rfl
 |f::fs,l,h=>by
  simp only[okL]at h
  obtain⟨l1,l2,rfl,h1,h2⟩:=h
  simp only[yU,Z1L,X1C h1,Z1Y h2]
end
theorem Y2p{b:Nat}(c:0<b):∀(f:List AV),(∀e∈f,e.cells.length=b)->∀(j:Nat)(a:AV),(flat f)[j]?=some a->∃e,f[j / b]?=some e/\e.cells[j % b]?=some a
 |[],_,j,a,h=>by simp[flat]at h|e::f,hs,j,a,h=>by
  simp only[flat,ya]at h;have g:=hs e (by simp);rcases Nat.lt_or_ge j b with d|d
  .rw[yK (by rw[g];exact d)]at h;exact⟨e,by simp[Nat.div_eq_of_lt d],by rw[Nat.mod_eq_of_lt d];exact h⟩
  .rw[yS (by rw[g];exact d),g]at h;obtain⟨m,l,k⟩:=Y2p c f (λx i=>hs x (by simp[i])) (j-b) a h;refine⟨m,?_,?_⟩
   .have:j / b=(j-b) / b+1:=by rw[← Nat.add_div_right _ c];congr 1;omega
    rw[this];simpa using l
   .have:j % b=(j-b) % b:=by rw[← Nat.add_mod_right (j-b) b];congr 1;omega
    rw[this];exact k
mutual
theorem M0T:∀(τ:Ty) {t:TypeId} {fuel:Nat} {cs:List Value} {x:DataW H×List MemPlace},L0K P τ t=true->DataW.trod enc P w base spare held fuel t cs=some x ->
  ∃l,τ.ok l/\Cells w l cs
 |.bool,t,fuel,cs,x,hc,h=>by
  simp only[L0K]at hc
  split at hc
  .rename_i hu
   cases fuel with
   |zero=>simp[DataW.trod]at h
   |succ fuel =>
    unfold DataW.trod at h
    rw[hu]at h
    split at h<;>simp_all
    rename_i b0
    exact⟨[.bool b0],by simp only[Ty.ok];exact⟨_,rfl⟩,J2f rfl (.bool _)⟩
  .cases hc
 |.int k,t,fuel,cs,x,hc,h=>by
  simp only[L0K]at hc
  split at hc
  .rename_i k' hu
   cases fuel with
   |zero=>simp[DataW.trod]at h
   |succ fuel =>
    have hk:k'=k:=by simpa using hc
    subst hk
    unfold DataW.trod at h
    rw[hu]at h
    split at h<;>simp_all
    rename_i k1 n1 _
    obtain⟨⟨rfl,h2⟩,_⟩:=h
    exact⟨[.int _ n1],by simp only[Ty.ok];exact⟨n1,rfl,h2⟩,J2f rfl (.int _ _)⟩
  .cases hc
 |.str,t,fuel,cs,x,hc,h=>by
  simp only[L0K]at hc
  split at hc
  .rename_i hu
   cases fuel with
   |zero=>simp[DataW.trod]at h
   |succ fuel =>
    unfold DataW.trod at h
    rw[hu]at h
    split at h<;>simp_all
    rename_i s0
    refine⟨[.str s0.data.toList],?_,J2f rfl ?_⟩
    .simp only[Ty.ok]
     exact⟨_,rfl,by have h1:=h.1;unfold ByteArray.size at h1;rw[Array.length_toList];exact h1⟩
    .have:s0=⟨s0.data.toList.toArray⟩:=by simp
     have h2:=Rd.str (w:=w) (S:=AllS w) (T:=rdT) s0.data.toList
     rw[← this]at h2
     exact h2
  .cases hc
 |.sl e,t,fuel,cs,x,hc,h=>by
  simp only[L0K]at hc
  split at hc
  .rename_i u hu
   simp only[yD,beq_iff_eq,bne_iff_ne]at hc
   obtain⟨⟨hce,hcc⟩,hne⟩:=hc
   rcases Go.Deep.open_slice hu h with⟨rfl,_⟩|⟨a,len,cap,m,n,D,Pl,rfl,hb,hlc,hcm,hm,_,hel⟩
   .exact⟨[.nl],by simp[Ty.ok],J2f rfl .nl⟩
   .have hlm:len<=m:=by rw[hm];split<;>omega
    have hex:∀i,i<len->∃(l:List AV) (cs':List Value),e.ok l/\Cells w l cs'/\w.cells? base (a.add (i*e.size)) e.size=some cs':=λi hi=>by
     obtain⟨cs',h1,h2⟩:=hel i (by omega)
     rw[hcc]at h1
     obtain⟨l,q1,q2⟩:=M0T e hce h2
     exact⟨l,cs',q1,q2,h1⟩
    classical
    let L:Nat->List AV:=λi=>if hi:i<len then(hex i hi).choose else[]
    have hL:∀i,i<len->∃cs',e.ok (L i)/\Cells w (L i) cs'/\w.cells? base (a.add (i*e.size)) e.size=some cs':=λi hi=>by
     have:=(hex i hi).choose_spec
     simp only[L,dif_pos hi];exact this
    let mkV:List AV->AV:=λl=>if e.isSt then .agg l else l.getD 0 .bad
    have hmk:∀l cs',e.ok l->Cells w l cs'->(mkV l).cells=l/\(if e.isSt then ∃cs,mkV l=.agg cs else(mkV l).one=true):=λl cs' hl hcl=>by
     simp only[mkV]
     cases hst:e.isSt with
     |true=>simp[AV.cells]
     |false =>
      have hsz:=X1C hl
      have:e.size=1:=by cases e<;>simp[Ty.isSt]at hst<;>rfl
      rw[this]at hsz
      match l,hsz with
      |[y],_ =>
       have hlen:=hcl.1
       simp at hlen
       obtain⟨v0,hv0⟩:∃v0,cs'[0]?=some v0:=⟨cs'[0]'(by omega),yA (by omega)⟩
       have h1:=(hcl.2 0 y v0 rfl hv0).1
       simp
       exact⟨by cases y<;>first|rfl|simp[AV.one]at h1,h1⟩
    let es:List AV:=(List.range len).map λi=>mkV (L i)
    have hes:es.length=len:=by simp[es]
    have hget:∀i e',es[i]?=some e'->i<len/\e'=mkV (L i):=λi e' hi=>by
     simp only[es,yF]at hi
     obtain⟨j,hj,rfl⟩:=yC hi
     have hlt:i<len:=by have:=(yB hj).1;simpa using this
     rw[List.getElem?_range hlt]at hj
     cases hj
     exact⟨hlt,rfl⟩
    have hall:∀x∈es,x.cells.length=e.size/\(if e.isSt then ∃cs,x=.agg cs else x.one=true)/\e.ok x.cells:=λx hx=>by
     obtain⟨i,hi,rfl⟩:=List.getElem_of_mem hx
     obtain⟨hlt,he⟩:=hget i _ (yA hi)
     obtain⟨cs',q1,q2,q3⟩:=hL i hlt
     obtain⟨p1,p2⟩:=hmk _ _ q1 q2
     rw[he,p1]
     exact⟨X1C q1,p2,q1⟩
    refine⟨[.sl .rd e.size es],by simp only[Ty.ok];exact .inr ⟨es,rfl,by omega,hall⟩,J2f rfl ?_⟩
    rcases Nat.eq_zero_or_pos len with h0|hpos
    .have:es=[]:=List.eq_nil_of_length_eq_zero (by omega)
     rw[this,h0]
     exact .sl0 _ _ _ _ λ_ e=>by cases e
    .have hszp:0<e.size:=Nat.pos_of_ne_zero hne
     have hsp:a.spot=none:=by
      obtain⟨cs',q1,q2,q3⟩:=hL 0 hpos
      obtain⟨_,hcl,hat⟩:=World.cells?_some q3
      have:=hat 0 hszp
      simp only[Nat.zero_mul,Addr.add,yb]at this
      rw[yA (by omega)]at this
      obtain⟨b,o,sp⟩:=a
      exact M2f this
     obtain⟨b,o,sp⟩:=a
     simp only at hsp
     subst hsp
     have hadd:∀o k,(⟨b,o,none⟩:Addr).add k=⟨b,o+k,none⟩:=λo k=>by
      unfold Addr.add
      split
      .rename_i hk;subst hk;rfl
      .rfl
     have hcell:∀(j:Nat) (y:AV),(flat es)[j]?=some y->∃v,w.cell? ⟨b,o+j,none⟩=some v/\y.one=true/\Rd w (AllS w) rdT y v:=λj y hj=>by
      obtain⟨e',h1,h2⟩:=Y2p hszp es (λx hx=>(hall x hx).1) j y hj
      obtain⟨hlt,rfl⟩:=hget _ _ h1
      obtain⟨cs',q1,q2,q3⟩:=hL _ hlt
      obtain⟨p1,_⟩:=hmk _ _ q1 q2
      rw[p1]at h2
      obtain⟨_,hcl,hat⟩:=World.cells?_some q3
      have hmod:j % e.size<e.size:=Nat.mod_lt _ hszp
      have h3:=hat (j % e.size) hmod
      rw[hadd,hadd]at h3
      have hjj:o+j / e.size*e.size+j % e.size=o+j:=by
       have:=Nat.div_add_mod j e.size
       rw[Nat.mul_comm]at this;omega
      rw[hjj,yA (by omega)]at h3
      exact⟨_,h3,q2.2 _ _ _ h2 (yA (by omega))⟩
     rw[← hes]
     refine .sl .rd e.size es b o cap (λj=>(w.cell? ⟨b,o+j,none⟩).getD undef) (by omega) hcm (λx hx=>(hall x hx).1) (λj y hj=>?_) (λ_ e=>by cases e) (λj y hj=>?_)
     .obtain⟨v,h1,h2,h3⟩:=hcell j y hj
      rw[h1]
      exact⟨rfl,O2v h1,h2,rfl⟩
     .obtain⟨v,h1,h2,h3⟩:=hcell j y hj
      simp only[h1,Option.getD_some]
      exact h3
  .cases hc
 |.st fs,t,fuel,cs,x,hc,h=>by
  simp only[L0K]at hc
  split at hc
  .rename_i gs hu
   simp only[yD,beq_iff_eq]at hc
   obtain⟨xs,n,_,_,hlen,hxl,hf⟩:=DataW.trod_struct hu h
   have:=J1a fs (gs:=gs.toList) (o:=0) (n:=n) (cs:=cs) hc.1 (λi f hi=>by
    have h1:=hf i f (by simpa using hi)
    have hlt:i<xs.length:=by rw[hxl];have:=(yB hi).1;simpa using this
    rw[yA hlt]at h1
    exact⟨_,h1⟩) (by rw[hlen,hc.2];simp)
   simpa[Ty.ok]using this
  .cases hc
theorem J1a:∀(fs:List Ty) {gs:List Field} {o n:Nat} {cs:List Value},L1Q P fs gs o=true ->
  (∀(i:Nat) (f:Field),gs[i]?=some f->∃x,DataW.trod enc P w base spare held n f.type ((cs.drop f.offset).take (P.cellsOf f.type))=some x)->cs.length=o+Z1L fs ->
  ∃l,okL fs l/\Cells w l (cs.drop o)
 |[],gs,o,n,cs,hc,h,hl=>by
  simp only[Z1L]at hl
  refine⟨[],rfl,?_⟩
  rw[List.drop_eq_nil_of_le (by omega)]
  exact⟨rfl,by intro i a v h;simp at h⟩
 |f::fs,[],o,n,cs,hc,h,hl=>by simp[L1Q]at hc
 |f::fs,g::gs,o,n,cs,hc,h,hl=>by
  simp only[L1Q,yD,beq_iff_eq]at hc
  obtain⟨⟨⟨h1,h2⟩,h3⟩,h4⟩:=hc
  obtain⟨x,hx⟩:=h 0 g rfl
  rw[h1,h3]at hx
  obtain⟨l1,q1,q2⟩:=M0T f h2 hx
  simp only[Z1L]at hl
  obtain⟨l2,q3,q4⟩:=J1a fs (o:=o+f.size) h4 (λi f' hi=>h (i+1) f' (by simpa using hi)) (by omega)
  refine⟨l1++l2,by simp only[okL];exact⟨l1,l2,rfl,q1,q3⟩,?_⟩
  have:cs.drop o=(cs.drop o).take f.size++cs.drop (o+f.size):=by
   rw[← List.drop_drop,List.take_append_drop]
  rw[this]
  exact O2f q2 q4
end
end
end
section
def Ty.okV(τ:Ty)(a:AV):Prop:=match τ with
 |.st fs=>∃cs,a=.agg cs/\okL fs cs
 |τ=>τ.ok [a]
def okVs:List Ty->List AV->Prop
 |[],l=>l=[]|τ::τs,l=>∃a l',l=a::l'/\τ.okV a/\okVs τs l'
def XI(P:Program):List Ty->List TypeId->Bool
 |[],[]=>true|τ::τs,t::ts=>L0K P τ t&&P.readableRec t&&decide (t<P.types.size)&&XI P τs ts|_,_=>false
section
variable{H:Type}{enc:TypeId×Value->H}{P:Program}
theorem Y2B{w:World}{o:Ty}{t:TypeId}{v:Value}{d:DataW H}{p:List MemPlace}{z:Nat}{q:Nat->Bool}{x:Bool}{J:Nat}(f:L0K P o t=true)(r:Value.okWide P w .any J t v)(h:DataW.Trod enc P w z q x t v d p):∃a,o.okV a/\Rd w (AllS w) rdT a v:=by
 obtain⟨E,h⟩:=h;obtain⟨l,g,y⟩:=M0T o f h;have j:v.cells=#[v]->o.size=1->(∀a,l=[a]->o.okV a)->∃a,o.okV a/\Rd w (AllS w) rdT a v:=λA F G=>by have s:=X1C g;rw[F]at s;rw[A]at y;match l,s with|[a],_=>exact⟨a,G a rfl,(y.2 0 a v rfl rfl).2⟩
 cases o with
 |st L =>
  simp[L0K]at f;split at f
  .rename_i gs m;obtain⟨cs,rfl,_⟩:=WideShapes.okWide_struct m r;simp[Ty.ok]at g;refine⟨.agg l,⟨l,rfl,g⟩,?_⟩;have e:cs=cs.toList.toArray:=by simp
   have C:l.length=cs.toList.length:=y.1;have D:=Rd.agg (w:=w) (S:=AllS w) (T:=rdT) l cs.toList C (λa I=>by obtain⟨i,B,rfl⟩:=List.getElem_of_mem I;exact(y.2 i _ _ (by simp) (yA (show i<cs.toList.length by rw[← C];exact B))).1) (λi a v B r=>(y.2 i a v B r).2);rw[← e]at D;exact D
  cases f
 |bool =>
  simp[L0K]at f;split at f
  .rename_i m;obtain⟨b,rfl⟩:=WideShapes.okWide_bool m r;exact j rfl rfl (λa e=>by rw[e]at g;exact g)
  cases f
 |int k =>
  simp[L0K]at f;split at f
  .rename_i K m;obtain⟨b,rfl⟩:=WideShapes.okWide_int m r;exact j rfl rfl (λa e=>by rw[e]at g;exact g)
  cases f
 |str =>
  simp[L0K]at f;split at f
  .rename_i m;obtain⟨b,rfl⟩:=WideShapes.okWide_string m r;exact j rfl rfl (λa e=>by rw[e]at g;exact g)
  cases f
 |sl e =>
  simp[L0K]at f;split at f
  .rename_i u m;obtain⟨a,n,c,rfl⟩:=WideShapes.okWide_slice m r;exact j rfl rfl (λa e=>by rw[e]at g;exact g)
  cases f
theorem Q10{w:World}{l:Nat}{e:Nat->Bool}{k:Bool}{C:Nat}:∀{c:List Ty}{m:List TypeId}{b:List Value}{f:List (DataW H)}{p:List MemPlace},XI P c m=true -> (∀(j:Nat)(t:TypeId)(v:Value),m[j]?=some t->b[j]?=some v->Value.okWide P w .any C t v)->DataW.TrodAll enc P w l e k m b f p -> ∃g,okVs c g/\b.length=g.length/\∀(i:Nat)(a:AV)(v:Value),g[i]?=some a->b[i]?=some v->Rd w (AllS w) rdT a v
 |[],[],b,f,p,_,_,h=>by match b,f,h with|[],[],_=>exact⟨[],rfl,rfl,by intro i a v h;simp at h⟩|[],_::_,h=>cases h|_::_,_,h=>cases h
 |τ::c,t::m,b,f,p,hc,hok,h=>by
  simp[XI]at hc;match b,f,h with
  |v::b,d::f,⟨p1,q1,h1,h2,_⟩ =>obtain⟨a,B,z⟩:=Y2B hc.1.1.1 (hok 0 t v rfl rfl) h1;obtain⟨g,r,A,q⟩:=Q10 hc.2 (λj t v y s=>hok (j+1) t v (by simpa using y) (by simpa using s)) h2;refine⟨a::g,⟨a,g,rfl,B,r⟩,by simp[A],λi x u n o=>?_⟩;cases i with|zero=>simp at n o;subst n;subst o;exact z|succ i=>exact q i x u (by simpa using n) (by simpa using o)
  |[],_,h=>cases ‹List (DataW H)›<;>cases h|_::_,[],h=>cases h
 |[],_::_,_,_,_,hc,_,_=>by simp[XI]at hc|_::_,[],_,_,_,hc,_,_=>by simp[XI]at hc
theorem Y0L{w w':World}(g:laidOutB P=true)(i:Below w.heap.size w w'):∀{τs:List Ty}{f:List TypeId}{a:List Value}{c:List (DataW H)}{p:List MemPlace},XI P τs f=true -> (∀x∈p,x.block<w.heap.size)->DataW.TrodAll enc P w 0 (λ_=>true) true f a c p->DataW.TrodAll enc P w' 0 (λb=>decide (b<w.heap.size)) true f a c p
 |[],[],a,c,p,_,_,h=>by match a,c,h with|[],[],h=>exact h|[],_::_,h=>cases h|_::_,_,h=>cases h
 |τ::τs,t::f,a,c,p,hc,hlt,h=>by simp[XI]at hc;match a,c,h with|v::a,d::c,⟨p1,q1,h1,h2,e⟩ =>subst e;exact⟨p1,q1,by grind[Below.trod],Y0L g i hc.2 (by grind) h2,rfl⟩|[],_,h=>cases ‹List (DataW H)›<;>cases h|_::_,[],h=>cases h
 |[],_::_,_,_,_,hc,_,_=>by grind[XI]|_::_,[],_,_,_,hc,_,_=>by grind[XI]
theorem W2i{f:FuncId}{B:Func}{s:ChangeSpec}{τs:List Ty}{tb:TypeId}(Y:laidOutB P=true)(r:XI P τs B.params.toList=true)(F:B.resultTypes=#[tb])(T:P.underlying tb=some .bool)(c:s.vars=[])(m:∀a:List (DataW H),a.length=τs.length->s.fn H a={ results:=[.lit (.bool true)],args:=a })(hS:∀D,okVs τs D->Snd P f D (.bool true) [])(W:World)(C:Nat)(args:Array Value)(a gs:List (DataW H))(k:List MemPlace)(w:∀(j:Nat)(t:TypeId)(v:Value),B.params[j]?=some t->args[j]?=some v->Value.okWide P W .any C t v)(Q:DataW.Whole enc P B.params.toList s.vars false W args.toList a gs k) : Calls P f args W λe R=>∃v,e=.returned v/\s.post enc P B false true false false W args v R:=by
 have z:=Q;obtain⟨p,q,N,M,rfl,hfz,X⟩:=Q;obtain⟨D,L,y,G⟩:=Q10 r (λj t v U E=>w j t v (by simpa using U) (by simpa using E)) N;have i:=hS D L W (AllS W) rdT args.toList (λb o h=>h) y G;rw[show args.toList.toArray=args by simp]at i;refine i.mono λe R V=>?_;obtain⟨v,rfl,O,g,_,_,_,Z,_⟩:=V;have E:=Z.bool_inv;subst E;refine⟨_,rfl,?_⟩;have K:∀{τs:List Ty} {l:List TypeId} {u:List Value} {a:List (DataW H)} {p:List MemPlace},XI P τs l=true->DataW.TrodAll enc P W 0 (λ_=>true) true l u a p->a.length=τs.length:=by
  intro τs;induction τs with
  |nil =>
   intro l u a p r h;cases l with
   |nil=>cases u<;>cases a<;>first|rfl|cases h
   |cons _ _=>grind[XI]
  |cons τ τs ih =>intro l u a p r h;cases l with|nil=>grind[XI]|cons t l =>cases u with|nil=>cases a<;>cases h|cons v u =>cases a with|nil=>cases h|cons d a =>obtain⟨p1,q1,h1,h2,_⟩:=h;simp[XI]at r;simp[ih r.2 h2]
 have J:gs=[]:=by rw[c]at M;cases gs with|nil=>rfl|cons _ _=>exact M.elim
 subst J;have n:=m a (K r N);have A:=M;rw[c]at A;have I:=A;subst I;refine⟨a,[],p++[],[],p,[],z,?_,?_,?_,O.frame _,by simp⟩
 .rw[List.append_nil,n,F];refine⟨[],[],⟨1,?_⟩,rfl,rfl⟩;simp_all[DataW.trod,Value.cells]
 .rw[List.append_nil,n];exact Y0L Y O r (λx S=>z.lt x (by simpa using S)) N
 rw[List.append_nil,n,c];rfl
def Q2f(P:Program)(fn:Func):Bool:=match fn.resultTypes.toList with
 |[t]=>(match P.underlying t with|some .bool=>true|_=>false)
 |_=>false
theorem U2f{P:Program}{a:Func}(h:Q2f P a=true):∃t,a.resultTypes=#[t]/\P.underlying t=some .bool:=by grind[Q2f]
theorem Z2b{f:FuncId}{i:Func}{s:ChangeSpec}{τs:List Ty}(m:laidOutB P=true)(n:XI P τs i.params.toList=true)(k:Q2f P i=true)(c:s.vars=[])(d:∀g:List (DataW H),g.length=τs.length->s.fn H g={ results:=[.lit (.bool true)],args:=g })(p:∀l,okVs τs l->Snd P f l (.bool true) [])(W:World)(b:Nat)(args:Array Value)(g gs:List (DataW H))(a:List MemPlace)(h:∀(j:Nat)(t:TypeId)(v:Value),i.params[j]?=some t->args[j]?=some v->Value.okWide P W .any b t v)(o:DataW.Whole enc P i.params.toList s.vars false W args.toList g gs a) : Calls P f args W λe u=>∃v,e=.returned v/\s.post enc P i false true false false W args v u:=by obtain⟨t,r,q⟩:=U2f k;exact W2i m n r q c d p W b args g gs a h o
end
end
section
def rkey(fx:List Bool)(i:Nat):Nat:=if fx.getD i true then 1000000000+i else 500000000+i
def cfb(n j:Nat):Option Nat:=if j<n then some (2000000000+j)else none
def cfr(fx:List Bool)(n i:Nat):Option Nat:=if i<n then some (rkey fx i)else none
def stC(n0:Nat)(args:List AV)(bin:List (List AV))(rin:List Row)(fx:List Bool):St :=
  { e:=λi=>(args.getD i .und).mp (cfb bin.length) (cfr fx rin.length)
    bx:=λk=>if 2000000000<=k then(bin[k-2000000000]?).map (mpL (cfb bin.length) (cfr fx rin.length))else none
    rw:=λk=>if 1000000000<=k then(if fx.getD (k-1000000000) true then rin[k-1000000000]? else none)
      else if 500000000<=k then(if fx.getD (k-500000000) true then none else rin[k-500000000]?)else none
    nx:=n0
    my:=λi=>n0<=i }
def cob(n k:Nat):Option Nat:=if 2000000000<=k then(if k-2000000000<n then some (k-2000000000)else none)else none
def cor(upd:List (Option (List AV)))(ks:List Nat)(n k:Nat):Option Nat :=if 1000000000<=k then(match upd[k-1000000000]? with|some (some _)=>some (k-1000000000)|_=>none)else(ix ks k).map λj=>n+j
def X1R(s:St)(fb fr:Nat->Option Nat):Nat->List (List AV)->Prop
 |_,[]=>True|k,b::bs=>(∃cs,s.bx k=some cs/\b=mpL fb fr cs)/\X1R s fb fr (k+1) bs
def updC(s:St)(fx:List Bool):Nat->List Row->List (Option (List AV))->Prop
 |i,r::rs,some es::us=>(fx.getD i true=true/\s.rw (1000000000+i)=some { r with es:=es }/\r.sh=false)/\updC s fx (i+1) rs us
 |i,_::rs,none::us=>updC s fx (i+1) rs us|_,[],[]=>True|_,_,_=>False
def J0t:List Nat->Prop
 |[]=>True|k::ks=>k<1000000000/\J0t ks
def U28(rs:List Rv)(bin:List (List AV))(rin:List Row)(fx:List Bool)(Φ:Nat->AV->List (List AV)->List (Option (List AV))->List Row->Prop)(e:Ex)(s:St):Prop :=
 (match e with | .ext _=>False|_=>True)/\∃(l:List AV) (bout:List (List AV)) (upd:List (Option (List AV))) (ks:List Nat) (new:List Row),s.rvs rs=some l /\
  X1R s (cob bin.length) (cor upd ks rin.length) 2000000000 bout/\updC s fx 0 rin upd/\ks.Nodup/\J0t ks/\W0Q s ks new/\bout.map List.length=bin.map List.length /\
  Φ s.nx ((O1c l).mp (cob bin.length) (cor upd ks rin.length)) bout upd new
section
variable{P:Program}{c:Cx}{g:Gh}{s:St}{a:Act}{w:World}
theorem Y1R{fb fr:Nat->Option Nat}:∀{bs:List (List AV)}{k:Nat},X1R s fb fr k bs->∀(i:Nat)(b:List AV),bs[i]?=some b->∃cs,s.bx (k+i)=some cs/\b=mpL fb fr cs
 |[],k,_,i,b,h=>by simp at h|b0::bs,k,h,i,b,hb=>by cases i with|zero=>simp at hb;subst hb;exact h.1|succ i =>obtain⟨cs,c,a⟩:=Y1R h.2 i b (by simpa using hb);exact⟨cs,by rw[show k+(i+1)=k+1+i by omega];exact c,a⟩
theorem Z1S{b:List Bool}:∀{rin:List Row}{upd:List (Option (List AV))}{k:Nat},updC s b k rin upd->upd.length=rin.length /\ ∀(i:Nat)(es:List AV),upd[i]?=some (some es)->∃r,rin[i]?=some r/\b.getD (k+i) true=true/\s.rw (1000000000+(k+i))=some { r with es:=es }/\r.sh=false
 |[],[],k,_=>(by simp)|r::rs,some es::us,k,h=>by obtain⟨e,d⟩:=Z1S h.2;refine⟨by simp[e],λi c a=>?_⟩;cases i with|zero=>simp at a;subst a;exact⟨r,rfl,h.1⟩|succ i =>obtain⟨r',l,j,g,f⟩:=d i c (by simpa using a);rw[show k+(i+1)=k+1+i by omega];exact⟨r',by simpa using l,j,g,f⟩
 |r::rs,none::us,k,h=>by obtain⟨e,d⟩:=Z1S (show updC s b (k+1) rs us from h);grind|[],_::_,_,h=>h.elim|_::_,[],_,h=>by simp[updC]at h
theorem L0t:∀{ks:List Nat}{k:Nat},J0t ks->k∈ks->k<1000000000
 |[],k,_,h=>by simp at h|k0::ks,k,h,a=>by
  rcases yX a with rfl|a
  .exact h.1
  .exact L0t h.2 a
theorem Q2E{n0:Nat}{f:FuncId}{fn:Func}{l:L}{rs:List Rv}{n:List AV}{a:List (List AV)}{rin:List Row}{Φ:Nat->AV->List (List AV)->List (Option (List AV))->List Row->Prop}(V:List Bool)(hf:P.funcs[f]?=some fn)(hc:chkF P n.length l rs fn=true)(hrl:rin.length<=1000)(h:(∀r∈rin,r.sh=false)->den P l (U28 rs a rin V Φ) (stC n0 n a rin V)):ConN P f n0 n a rin Φ:=by
 simp only[chkF,yD,yO]at hc;obtain⟨⟨⟨⟨hc,hr⟩,hr4⟩,hn⟩,hnb⟩:=hc;cases hb:fn.body with
 |none=>rw[hb]at hc;cases hc|some code =>
  rw[hb]at hc;simp only at hc;intro w g vs H hN hvl hvs;have hT:∀J:Gh,J.S=g.S->J.N=g.N->J.ov=g.ov->TLe g.S g.T J.T:=λJ _ z F=>TLe.of (λb q=>by rw[z];exact q) F;have h:=h (λr hr'=>by obtain⟨i,m,rfl⟩:=List.getElem_of_mem hr';exact(H.rwn i rin[i] (by simp[hSt,yA m])).1);let J:Gh:={ S:=g.S,N:=g.N,bb:=λk=>g.bb (k-2000000000),rv:=λk=>if 1000000000<=k then g.rv (k-1000000000)else g.rv (k-500000000),ov:=g.ov };have noX:∀b o,g.S b o->¬ OwnB g a.length rin.length b:=by
   rintro b o hs (⟨i,m,e⟩|⟨i,m,e⟩)
   .exact(H.bxn i a[i] (by simp[hSt])).2 o (by rw[e];exact hs)
   exact((H.rwn i rin[i] (by simp[hSt,yA m])).2 b e).2 o hs
  let c:Cx:={ nt:=fn.ntmps,X:=OwnB g a.length rin.length,Y:=g.N,S0:=g.S,w0:=w,rv0:=J.rv,bb0:=J.bb,ntb:=hnb,n0:=n0,my:=λi=>n0<=i,ov0:=g.ov,s0:=H.sw,sx:=noX };have Q:∀k r,(stC n0 n a rin V).rw k=some r->∃i,i<rin.length/\rin[i]?=some r/\k=rkey V i/\J.rv k=g.rv i/\(hSt n0 a (rin.map some)).rw i=some r:=by
   intro k r E;simp only[stC]at E;split at E
   .rename_i A;split at E
    .rename_i z;have m:=(yB E).1;refine⟨k-1000000000,m,E,by unfold rkey;rw[yd z];omega,by simp only[J,A,yb],by simp_all[hSt]⟩
    cases E
   rename_i A;split at E
   .rename_i F;split at E
    .cases E
    rename_i z;have m:=(yB E).1;refine⟨k-500000000,m,E,by unfold rkey;rw[ye z];omega,by simp only[J,A,yc],by simp_all[hSt]⟩
   cases E
  have R:∀k cs,(stC n0 n a rin V).bx k=some cs->∃i,i<a.length/\k=2000000000+i/\J.bb k=g.bb i/\∃c0,(hSt n0 a (rin.map some)).bx i=some c0/\cs=mpL (cfb a.length) (cfr V rin.length) c0:=by
   intro k cs E;simp only[stC]at E;split at E
   .rename_i A;obtain⟨c0,z,rfl⟩:=yC E;exact⟨k-2000000000,(yB z).1,by omega,rfl,c0,z,rfl⟩
   cases E
  have kinj:∀i j,i<rin.length->j<rin.length->rkey V i=rkey V j->i=j:=by intro i j m hj e;unfold rkey at e;split at e<;>split at e<;>omega
  have toR:∀i k,cfr V rin.length i=some k->∀r',(stC n0 n a rin V).rw k=some r'->∃r,(hSt n0 a (rin.map some)).rw i=some r/\r'.sz=r.sz/\J.rv k=g.rv i:=by
   intro i k K r' hr';obtain⟨j,A,z,F,C,h5⟩:=Q k r' hr';unfold cfr at K;split at K
   .rename_i m;cases K;have:=kinj i j m A F;subst this;exact⟨r',h5,rfl,C⟩
   cases K
  have toB:∀i k,cfb a.length i=some k->∀c',(stC n0 n a rin V).bx k=some c'->∃c,(hSt n0 a (rin.map some)).bx i=some c/\J.bb k=g.bb i:=by
   intro i k K c' hc';obtain⟨j,A,z,F,c0,C,_⟩:=R k c' hc';unfold cfb at K;split at K
   .cases K;have:i=j:=by omega
    subst this;exact⟨c0,C,F⟩
   cases K
  have I:Inv c J (stC n0 n a rin V) { tmps:=vs.toArray++Array.replicate (fn.ntmps-vs.toArray.size) undef,defers:=[] } w:=by
   refine⟨rfl,by simp only[Array.size_append,List.size_toArray,Array.size_replicate,c];omega,⟨rfl,rfl,rfl,yV _,λ_ _ _=>rfl⟩,λi=>?_,λk cs h=>?_,λk cs h=>?_,λk r h=>?_,λk r h b d=>?_, λk k' cs cs' h h' W=>?_,λk k' cs r h h'=>?_,λk k' r r' h h' W b d=>?_,H.sw,hN,λ_ h _=>h,λ_ _=>⟨rfl,rfl⟩,λ_ _ h=>h,λ_ _ h=>.inl h,⟨⟨H.ow.lt,H.ow.own,H.ow.dis,λk cs h q=>?_,λk r h b d q=>?_,H.ow.uf⟩,λi D h m b d=>absurd (H.ow.lt i D h) (Nat.not_lt.2 m),rfl,yV _,λ_ _=>rfl,λ_ h=>(show False from h).elim,λ_ h=>(show False from h).elim,λ_ _ _ h=>(show False from h).elim⟩,λb o h q=>q.elim (λq=>absurd (H.sw b o h) (Nat.not_lt.2 q)) λq=>absurd q (noX b o h),λ_ _ _ h=>h⟩
   .simp only[stC];rcases Nat.lt_or_ge i n.length with m|m
    .have hiv:i<vs.length:=by omega
     have e1:n.getD i .und=n[i]:=by simp[List.getD_eq_getElem?_getD,m]
     have e2:(vs.toArray++Array.replicate (fn.ntmps-vs.toArray.size) undef).getD i undef=vs[i]:=by simp_all[Array.getD_eq_getD_getElem?,Array.getElem?_append_left]
     rw[e1,e2];exact(hvs i n[i] vs[i] (by simp) (by simp)).mp (g:=g) (g':=J) (s':=stC n0 n a rin V) (λ_ _ h=>h) (hT J rfl rfl rfl) (by simp) toR toB
    have e1:n.getD i .und=.und:=by simp[List.getD_eq_getElem?_getD,List.getElem?_eq_none m]
    have e2:(vs.toArray++Array.replicate (fn.ntmps-vs.toArray.size) undef).getD i undef=undef:=by rw[Array.getD_eq_getD_getElem?,Array.getElem?_append_right (by simp;omega),Array.getElem?_replicate];split<;>rfl
    rw[e1,e2];exact .und
   .obtain⟨j,A,z,F,c0,C,rfl⟩:=R k cs h;rw[F];exact(H.bxs j c0 C).mp (g:=g) (g':=J) (s':=stC n0 n a rin V) (λ_ _ h=>h) (hT J rfl rfl rfl) (by simp) toR toB rfl
   .obtain⟨j,A,z,F,c0,C,rfl⟩:=R k cs h;rw[F];exact⟨⟨(H.bxn j c0 C).1,λ_=>.inl ⟨j,A,rfl⟩⟩,(H.bxn j c0 C).2⟩
   .obtain⟨j,A,z,F,C,h5⟩:=Q k r h;have e:J.T=g.T:=Gh.T_eq rfl rfl;rw[C,e];exact H.rws j r h5
   .obtain⟨j,A,z,F,C,h5⟩:=Q k r h;rw[C]at d;obtain⟨q1,q2⟩:=(H.rwn j r h5).2 b d;exact⟨⟨q1,λ_=>.inr ⟨j,A,d⟩⟩,λo ho=>absurd ho (q2 o)⟩
   .obtain⟨j,A,z,F,c0,C,rfl⟩:=R k cs h;obtain⟨j',h1',h2',h3',c0',h4',rfl⟩:=R k' cs' h';rw[F,h3'];exact H.dbb j j' c0 c0' C h4' (λe=>W (by omega))
   .obtain⟨j,A,z,F,c0,C,rfl⟩:=R k cs h;obtain⟨j',h1',h2',h3',h4',h5'⟩:=Q k' r h';rw[F,h4'];exact H.dbr j j' c0 r C h5'
   .obtain⟨j,A,z,F,C,h5⟩:=Q k r h;obtain⟨j',h1',h2',h3',h4',h5'⟩:=Q k' r' h';rw[C]at d;rw[h4'];exact H.drr j j' r r' h5 h5' (λe=>W (by rw[F,h3',e])) b d
   .obtain⟨j,A,z,F,c0,C,rfl⟩:=R k cs h;have q:J.own (g.bb j):=by rw[← F];exact q
    exact H.ow.bx j c0 C (by obtain⟨i,D,q1,q2⟩:=q;exact⟨i,D,q1,q2⟩)
   obtain⟨j,A,z,F,C,h5⟩:=Q k r h;have d:(g.rv j).ownBlock=some b:=by rw[← C];exact d
   exact H.ow.rw j r h5 b d (by obtain⟨i,D,q1,q2⟩:=q;exact⟨i,D,q1,q2⟩)
  apply calls_of_wp hf hb;refine W1y (c:=c) hc (λe g' s' a' w' s hp=>?_) I h;have fin:(∃v,(results fn a'.tmps).run P w'=.ok v w'/\∃v',Ending.returned v=.returned v'/\Kept (OwnB g a.length rin.length) w w'/\∃n1 res p upd new,n0<=n1/\Φ n1 res p upd new /\ p.map List.length=a.map List.length/\upd.length=rin.length/\∃g':Gh,(∀b o,g'.S b o->(g.S b o\/w.heap.size<=b\/OwnB g a.length rin.length b)/\(w.heap.size<=b\/OwnB g a.length rin.length b->UnfB w' b))/\(∀b,g'.N b->g.N b) /\ (∀i,i<a.length->g'.bb i=g.bb i)/\(∀i es,upd[i]?=some (some es)->g'.rv i=g.rv i)/\Heap w' g' (hSt n1 p (Ua rin upd new)) /\ (∀(j:Nat) (r:Row),new[j]?=some r->∀b,(g'.rv (rin.length+j)).ownBlock=some b->w.heap.size<=b\/OwnB g a.length rin.length b) /\ (∀i,i<n0->g'.ov i=g.ov i)/\(∀i D,n0<=i->g'.ov i=some D->∀b,D b->w.heap.size<=b\/OwnB g a.length rin.length b) /\ Gv w' g' (hSt n1 p (Ua rin upd new)) res v'):=by
   obtain⟨_,l',p,upd,ks,new,p1,p2,p3,p4,p5,p6,p7,p8⟩:=hp;obtain⟨u,q1,q2⟩:=X1c (P:=P) s hr4 hr p1;have p2:=Y1R p2;obtain⟨hul,p3⟩:=Z1S p3;obtain⟨hkl,p6⟩:=Q1m p6;have hbl:p.length=a.length:=by simpa using congrArg List.length p7
   have hNg:∀b,g'.N b->g.N b:=λb d=>by
    rcases Nat.lt_or_ge b w.heap.size with M|M
    .exact s.nx b d M
    exact hN b M
   let G:Gh:={ S:=g'.S,N:=g'.N,bb:=λi=>g'.bb (2000000000+i),rv:=λi=>if i<rin.length then g'.rv (1000000000+i)else g'.rv (ks.getD (i-rin.length) 0),ov:=g'.ov };have hTG:TLe g'.S g'.T G.T:=TLe.of (λ_ q=>q) rfl;have B:∀i cs,(hSt s'.nx p (Ua rin upd new)).bx i=some cs->i<a.length/\∃c0,s'.bx (2000000000+i)=some c0/\cs=mpL (cob a.length) (cor upd ks rin.length) c0:=by intro i cs m;have O:=m;obtain⟨c0,A,z⟩:=p2 i cs O;exact⟨by rw[← hbl];exact(yB O).1,c0,A,z⟩
   have x:∀i r,(hSt s'.nx p (Ua rin upd new)).rw i=some r->∃k,s'.rw k=some r/\r.sh=false/\G.rv i=g'.rv k/\((i<rin.length/\k=1000000000+i)\/(rin.length<=i/\ks[i-rin.length]?=some k)):=by
    intro i r m;rcases Nat.lt_or_ge i rin.length with M|M
    .have hu:i<upd.length:=by omega
     have e:=L0I (new:=new) (yA M) (yA hu);simp only[hSt,e,Option.join]at m;cases hui:upd[i]with|none=>simp[hui]at m|some es =>simp only[hui,Option.map_some,bS,_root_.id,yI]at m;obtain⟨r0,t,z2,z3,z4⟩:=p3 i es (by rw[yA hu,hui]);rw[yA M]at t;cases t;subst m;exact⟨1000000000+i,by simpa using z3,z4,by simp[G,M],.inl ⟨M,rfl⟩⟩
    have e:=J0I (rin:=rin) (upd:=upd) (new:=new) (j:=i-rin.length) hul;rw[show rin.length+(i-rin.length)=i by omega]at e;simp only[hSt,e,Option.join]at m;cases hn':new[i-rin.length]? with
    |none=>simp[hn']at m|some r0 =>
     simp only[hn',Option.map_some,bS,_root_.id,yI]at m;subst m;have Z:i-rin.length<ks.length:=by rw[hkl];exact(yB hn').1
     obtain⟨t,z2⟩:=p6 _ _ _ (yA Z) hn';refine⟨ks[i-rin.length],t,z2,?_,.inr ⟨M,yA Z⟩⟩;simp only[G,Nat.not_lt.2 M,yc,List.getD_eq_getElem?_getD,yA Z,Option.getD_some]
   have kinj':∀i U k,((i<rin.length/\k=1000000000+i)\/(rin.length<=i/\ks[i-rin.length]?=some k))->((U<rin.length/\k=1000000000+U)\/(rin.length<=U/\ks[U-rin.length]?=some k))->i=U:=by
    intro i U k A z;rcases A with⟨A,e1⟩|⟨A,e1⟩<;>rcases z with⟨z,e2⟩|⟨z,e2⟩
    .omega
    .have:=L0t p5 (yE e2);omega
    .have:=L0t p5 (yE e1);omega
    have:=(List.getElem?_inj (i:=i-rin.length) (j:=U-rin.length) (yB e1).1 p4).1 (by rw[e1,e2]);omega
   have nR:∀k i,cor upd ks rin.length k=some i->∀r',(hSt s'.nx p (Ua rin upd new)).rw i=some r'->∃r,s'.rw k=some r/\r'.sz=r.sz/\G.rv i=g'.rv k:=by
    intro k i y r' hr';obtain⟨k',t,z2,z3,z4⟩:=x i r' hr';have:k'=k:=by
     unfold cor at y;split at y
     .rename_i E;split at y
      .rename_i es he;have y:=Option.some.inj y;have:=(yB he).1;rcases z4 with⟨z4,z5⟩|⟨z4,z5⟩<;>omega
      cases y
     obtain⟨j,hj,rfl⟩:=yC y;have:=L2i hj;rcases z4 with⟨z4,z5⟩|⟨z4,z5⟩
     .omega
     rw[show rin.length+j-rin.length=j by omega,this]at z5;cases z5;rfl
    subst this;exact⟨r',t,rfl,z3⟩
   have nB:∀k i,cob a.length k=some i->∀c',(hSt s'.nx p (Ua rin upd new)).bx i=some c'->∃c,s'.bx k=some c/\G.bb i=g'.bb k:=by
    intro k i y c' hc';obtain⟨_,c0,t,_⟩:=B i c' hc';unfold cob at y;split at y
    .split at y
     .have y:=Option.some.inj y;rename_i E _;have e:2000000000+i=k:=by omega
      exact⟨c0,by rw[e]at t;exact t,by simp only[G,e]⟩
     cases y
    cases y
   have blkW:∀b,Wr c g' b->w.heap.size<=b\/OwnB g a.length rin.length b:=by
    intro b hw;rcases Nat.lt_or_ge b w.heap.size with M|M
    .exact .inr (hw.2 M)
    exact .inl M
   refine⟨u,q1,u,rfl,⟨s.fr.os,s.fr.tape,s.fr.output,s.fr.size,λk E hx=>s.fr.block k E hx⟩,s'.nx,_,p,upd,new,s.ow.n0,p8,p7,hul,G,λb o ho=>⟨s.sb b o ho,s.uf b o ho⟩,hNg,λi m=>?_,λi es m=>?_,?_,λj r hj b d=>?_,λi m=>s.ow.old i m,λi D m hv b d=>blkW b (s.ow.my i D hv (by rw[s.ow.mm];exact m) b d),?_⟩
   .have:=(s.fix (2000000000+i) (by omega)).2;show g'.bb (2000000000+i)=g.bb i;rw[this];show g.bb (2000000000+i-2000000000)=g.bb i;rw[Nat.add_sub_cancel_left]
   .obtain⟨r,t,_⟩:=p3 i es m;have M:=(yB t).1;have:=(s.fix (1000000000+i) (by omega)).1;show(if i<rin.length then g'.rv (1000000000+i)else g'.rv (ks.getD (i-rin.length) 0))=g.rv i;rw[yd M,this];show(if 1000000000<=1000000000+i then g.rv (1000000000+i-1000000000)else g.rv (1000000000+i-500000000))=g.rv i;rw[yd (Nat.le_add_right _ _),Nat.add_sub_cancel_left]
   .refine⟨λi cs m=>?_,λi cs m=>?_,λi r m=>?_,λi r m=>?_,λi U cs cs' m O W=>?_,λi U cs r m O=>?_,λi U r r' m O W b d=>?_,s.sw,⟨s.ow.lt,s.ow.own,s.ow.dis,λi cs m q=>?_,λi r m b d q=>?_,s.ow.uf⟩⟩
    .obtain⟨_,c0,t,rfl⟩:=B i cs m;exact(s.bxs _ c0 t).mp (g:=g') (g':=G) (s':=hSt s'.nx p (Ua rin upd new)) (λ_ _ h=>h) hTG (by simp) nR nB rfl
    .obtain⟨_,c0,t,rfl⟩:=B i cs m;exact⟨(s.bxn _ c0 t).1.1,(s.bxn _ c0 t).2⟩
    .obtain⟨k,t,z2,z3,_⟩:=x i r m;have e:G.T=g'.T:=Gh.T_eq rfl rfl;rw[z3,e];exact s.rws k r t
    .obtain⟨k,t,z2,z3,_⟩:=x i r m;rw[z3];refine⟨z2,λb d=>⟨(s.rwn k r t b d).1.1,λo ho=>?_⟩⟩;have:=((s.rwn k r t b d).2 o ho).1;rw[z2]at this;cases this
    .obtain⟨_,c0,t,_⟩:=B i cs m;obtain⟨_,c0',z1',_⟩:=B U cs' O;exact s.dbb _ _ c0 c0' t z1' (by omega)
    .obtain⟨_,c0,t,_⟩:=B i cs m;obtain⟨k,y1,y2,y3,_⟩:=x U r O;rw[y3];exact s.dbr _ _ c0 r t y1
    .obtain⟨k,t,z2,z3,z4⟩:=x i r m;obtain⟨k',y1,y2,y3,y4⟩:=x U r' O;rw[z3]at d;rw[y3];exact s.drr k k' r r' t y1 (λe=>W (kinj' i U k z4 (by rw[e];exact y4))) b d
    .obtain⟨_,c0,t,_⟩:=B i cs m;exact s.ow.bx _ c0 t q
    obtain⟨k,t,z2,z3,_⟩:=x i r m;rw[z3]at d;exact s.ow.rw k r t b d q
   .have Z:j<ks.length:=by rw[hkl];exact(yB hj).1
    obtain⟨t,z2⟩:=p6 j _ r (yA Z) hj;have e:G.rv (rin.length+j)=g'.rv ks[j]:=by simp only[G,show ¬ rin.length+j<rin.length by omega,yc,List.getD_eq_getElem?_getD,show rin.length+j-rin.length=j by omega,yA Z,Option.getD_some]
    rw[e]at d;exact blkW b (s.rwn _ r t b d).1
   exact q2.mp (g:=g') (g':=G) (s':=hSt s'.nx p (Ua rin upd new)) (λ_ _ h=>h) hTG (by simp) nR nB
  cases e with|nrm=>exact⟨s.defers,fin⟩|ret=>exact⟨s.defers,fin⟩|ext id=>exact hp.1.elim
theorem W2E{f:FuncId}{l:L}{i:List Rv}{a:List AV}{b:List (List AV)}{rin:List Row}{Φ:AV->List (List AV)->List (Option (List AV))->List Row->Prop}{n:Nat}(g:List Bool)(c:YQ P f n l i=true)(j:a.length=n)(e:rin.length<=1000)(h:∀d,(∀r∈rin,r.sh=false)->den P l (U28 i b rin g λ_=>Φ) (stC d a b rin g)):Con P f a b rin Φ:=by
 unfold YQ at c;split at c
 .rename_i m k;subst j;exact λd=>Q2E g k c e (h d)
 cases c
end
end
section
section
variable{P:Program}{R:Ex->St->Prop}{k:List It}{s:St}
theorem Con.wk{f:FuncId}{d c:List AV}{a:List (List AV)}{rin:List Row}{Φ:AV->List (List AV)->List (Option (List AV))->List Row->Prop}(h:Con P f c a rin Φ)(o:wkLs (AV.wkA λ_=>False) d c):Con P f d a rin Φ:=by
 intro l w g k H p r n;obtain⟨s,q⟩:=X1z o;refine h l w g k H p (by omega) λi b v j m=>?_;have e:i<d.length:=by have:=(yB j).1;omega
 exact(n i _ v (yA e) m).wkA (by simp) (q i _ b (yA e) j)
theorem do_cm{d f:Nat}{xs:List X}{K:St->Prop}{j:List AV}(e a:List Nat){g:List (List AV)}{rin:List Row}{Φ:AV->List (List AV)->List (Option (List AV))->List Row->Prop}(o:Con P f j g rin Φ)(t:U0a (e++a)=true)(q:UU s (ix e) (ix a) e g)(p:W0Q s a rin)(n:wkLs (AV.wkA λ_=>False) (xs.map λx=>((s.get x).mp (ix e) (ix a)).rdt) j)(h:∀n1 i c upd new,c.map List.length=g.map List.length->upd.length=rin.length->Φ i c upd new->new.length<=1000/\J06 a upd (1000*d+1000) new.length/\U0N (1000*d+1000) new.length e /\ K (afterM s n1 d e a i c upd new))(m:∀b∈g,noOL b:=by first | (simp;done) | (simp[*];done))(k:∀r∈rin,noOL r.es:=by first | (simp;done) | (simp[*];done))(l:∀x∈xs,(s.get x).noO:=by first | (simp;done) | (simp[*];done)):wop P (.cm d f xs) K s :=⟨e,a,g,rin,_,Lx t,q,p,⟨m,k,l⟩,by have:=GEs.rdt (xs.map λx=>(s.get x).mp (ix e) (ix a));rwa [List.map_map]at this,λ_=>Φ,o.wk n s.nx,λn1 i c upd new _=>h n1 i c upd new⟩
end
attribute [simp] UU W0Q J06 U0N afterM setRows Xf St.kill2 drops upf bxf frB fbB AV.mp mpL stC rkey cfb cfr cob cor X1R updC J0t
end
section
structure LS where
 te:List (Nat×AV)
 tg:List (Nat×Nat×Bool×AV)
 tb:List (Nat×List AV)
 tr:List (Nat×Row)
structure LS.has(σ:LS)(s:St):Prop where
 e:∀t v,lk σ.te t=some v->s.e t=v
 g:∀t g w v,(t,g,w,v)∈σ.tg->(s.e g=.bool w/\s.e t=v)\/(s.e g≠.bool w/\s.e t=.und)
 b:∀k cs,lk σ.tb k=some cs->s.bx k=some cs
 r:∀k r,lk σ.tr k=some r->s.rw k=some r/\s.bx k=none
 n:∀k,lk σ.tb k=none->s.bx k=none
def er{α:Type}(d:Nat):List (Nat×α)->List (Nat×α)
 |[]=>[]| (k,v)::l=>match Nat.beq k d with
   |true=>er d l
   |false=>(k,v)::er d l
def erg(d:Nat):List (Nat×Nat×Bool×AV)->List (Nat×Nat×Bool×AV)
 |[]=>[]| (k,g,w,v)::l=>match Nat.beq k d with
   |true=>erg d l
   |false=>match Nat.beq g d with
     |true=>erg d l
     |false=>(k,g,w,v)::erg d l
theorem L1d{α:Type}{d:Nat}:∀{l:List (Nat×α)}{i:Nat}{v:α},lk (er d l) i=some v->i≠d/\lk l i=some v
 |[],_,_,h=>by cases h| (k,u)::l,i,v,h=>by
  simp[er]at h;split at h
  .rename_i e;have e:=yR e;obtain⟨a,b⟩:=L1d h;refine⟨a,?_⟩;simp[lk];rw[show Nat.beq i k=false from Bool.eq_false_iff.2 λq=>a (by rw[yR q,e])];exact b
  .rename_i e;simp[lk]at h ⊢;split at h
   .grind[yR]
   .exact L1d h
theorem Q1d{d t g:Nat}{w:Bool}{v:AV}:∀{l:List (Nat×Nat×Bool×AV)},(t,g,w,v)∈erg d l->t≠d/\g≠d/\(t,g,w,v)∈l
 |[],h=>by cases h| (k,g',w',v')::l,h=>by
  simp[erg]at h;split at h
  .obtain⟨c,b,a⟩:=Q1d h;grind
  .rename_i f;split at h
   .obtain⟨c,b,a⟩:=Q1d h;grind
   .rename_i e;rcases yX h with h|h
    .cases h;exact⟨λq=>by simp_all,λq=>by simp_all,yJ ..⟩
    .obtain⟨c,b,a⟩:=Q1d h;grind
theorem Z2e{b:Type}{d:Nat}:∀{l:List (Nat×b)}{i:Nat},lk (er d l) i=none->i=d\/lk l i=none
 |[],_,_=>.inr rfl| (k,u)::l,i,h=>by
  simp[er]at h;split at h
  .rename_i e;have e:=yR e;subst e;rcases Z2e h with h|h
   .exact .inl h
   .by_cases a:i=k
    .exact .inl a
    .right;simp[lk];rw[show Nat.beq i k=false from Bool.eq_false_iff.2 λq=>a (yR q)];exact h
  .simp[lk]at h ⊢;split at h
   .cases h
   .rename_i c;exact Z2e h
theorem L2a{a:Type}(f:a->a):∀{l:List (Nat×a)}{i:Nat},lk (l.map λp=>(p.1,f p.2)) i=none->lk l i=none
 |[],_,_=>rfl| (k,u)::l,i,h=>by
  simp[List.map_cons,lk]at h ⊢;split at h
  .cases h
  .exact L2a f h
theorem J1Y{α:Type}{d i:Nat}{u:α}{l:List (Nat×α)}(h:lk ((d,u)::l) i=none):i≠d/\lk l i=none:=by
 simp[lk]at h;split at h
 .cases h
 rename_i e;exact⟨λq=>by simp_all,h⟩
theorem Z0v{α:Type}{d i:Nat}{u v:α}{l:List (Nat×α)}(h:lk ((d,u)::l) i=some v):(i=d/\u=v)\/lk l i=some v:=by
 simp[lk]at h;split at h
 .simp_all
 exact .inr h
theorem J2a{α:Type}(f:α->α):∀{l:List (Nat×α)}{i:Nat}{v:α},lk (l.map λp=>(p.1,f p.2)) i=some v->∃u,lk l i=some u/\v=f u
 |[],_,_,h=>by cases h| (k,u)::l,i,v,h=>by
  simp[List.map_cons,lk]at h ⊢;split at h
  .grind
  .exact J2a f h
def LS.set(σ:LS)(d:Nat)(v:AV):LS:={ σ with te:=(d,v)::er d σ.te,tg:=erg d σ.tg }
def LS.setc(σ:LS)(d g:Nat)(w:Bool)(v:AV):LS:={ σ with te:=er d σ.te,tg:=(d,g,w,v)::erg d σ.tg }
def LS.kill(σ:LS)(k:Nat):LS :={ te:=σ.te.map λp=>(p.1,p.2.dead k),tg:=σ.tg.map λp=>(p.1,p.2.1,p.2.2.1,p.2.2.2.dead k),tb:=(er k σ.tb).map λp=>(p.1,U7 k p.2),tr:=er k σ.tr }
def LS.box(σ:LS)(k:Nat)(cs:List AV):LS:={ σ with tb:=(k,cs)::er k σ.tb,tr:=er k σ.tr }
def LS.row(σ:LS)(k:Nat)(r:Row):LS:={ σ with tr:=(k,r)::er k σ.tr,tb:=er k σ.tb }
section
variable{σ:LS}{s:St}
theorem LS.has.set(H:σ.has s)(d:Nat)(v:AV):(σ.set d v).has (s.set d v):=by
 refine⟨λt u h=>?_,λt g w u h=>?_,λk cs h=>H.b k cs h,λk r h=>H.r k r h,H.n⟩
 .rcases Z0v h with⟨rfl,rfl⟩|h
  .simp
  obtain⟨c,a⟩:=L1d h;simp[c,H.e t u a]
 obtain⟨c,a,h3⟩:=Q1d h;simpa[c,a]using H.g t g w u h3
theorem LS.has.setc(H:σ.has s)(d g:Nat)(w:Bool)(v u:AV)(j:g≠d)(h:(s.e g=.bool w/\u=v)\/(s.e g≠.bool w/\u=.und)):(σ.setc d g w v).has (s.set d u):=by
 refine⟨λt x a=>?_,λt g' w' x a=>?_,λk cs h=>H.b k cs h,λk r h=>H.r k r h,H.n⟩
 .obtain⟨f,c⟩:=L1d a;simp[f,H.e t x c]
 rcases yX a with e|a
 .simp_all
 obtain⟨f,c,i⟩:=Q1d a;simpa[f,c]using H.g t g' w' x i
theorem Y2g{k:Nat}{w:Bool}{a:AV}:a.dead k=.bool w↔a=.bool w:=by cases a<;>simp[AV.dead]<;>first | (split<;>simp;done)|simp
theorem LS.has.kill(H:σ.has s)(k:Nat):(σ.kill k).has (s.kill k):=by
 refine⟨λt u h=>?_,λt g w u h=>?_,λj cs h=>?_,λj r h=>?_,λj h=>?_⟩
 .obtain⟨x,d,rfl⟩:=J2a (λa=>AV.dead k a) h;simp[H.e t x d]
 .obtain⟨⟨t',g',w',v'⟩,o,p⟩:=yY h;cases p;rcases H.g _ _ _ _ o with⟨d,c⟩|⟨d,c⟩
  .simp_all
  simp_all[Y2g,AV.dead]
 .obtain⟨x,d,rfl⟩:=J2a (λa=>U7 k a) h;obtain⟨c,f⟩:=L1d d;simp[c,H.b j x f]
 .obtain⟨c,f⟩:=L1d h;obtain⟨m,i⟩:=H.r j r f;simp[c,m,i]
 rcases Z2e (L2a (λl=>U7 k l) h)with rfl|h
 .simp
 simp[H.n j h]
theorem LS.has.box(H:σ.has s)(k:Nat)(cs:List AV):(σ.box k cs).has { s with bx:=λj=>if j=k then some cs else s.bx j }:=by
 refine⟨H.e,H.g,λj c h=>?_,λj r h=>?_,λj h=>?_⟩
 .rcases Z0v h with⟨rfl,rfl⟩|h
  .simp
  obtain⟨d,a⟩:=L1d h;simp[d,H.b j c a]
 .obtain⟨d,a⟩:=L1d h;simp[d,H.r j r a]
 obtain⟨d,a⟩:=J1Y h;rcases Z2e a with a|a
 .omega
 simp[d,H.n j a]
theorem LS.has.row(H:σ.has s)(k:Nat)(r:Row)(hb:s.bx k=none):(σ.row k r).has { s with rw:=λj=>if j=k then some r else s.rw j }:=by
 refine⟨H.e,H.g,λj c h=>?_,λj r' h=>?_,λj h=>(Z2e h).elim (by grind) (H.n j)⟩
 .obtain⟨_,a⟩:=L1d h;exact H.b j c a
 rcases Z0v h with⟨rfl,rfl⟩|h
 .simp[hb]
 obtain⟨h1,a⟩:=L1d h;simp[h1,H.r j r' a]
end
def sat(s:St)(A:List (Nat×Bool)):Prop:=∀p∈A,s.e p.1=.bool p.2
def fndg(t:Nat):List (Nat×Nat×Bool×AV)->Option (Nat×Bool×AV)
 |[]=>none| (k,g,w,v)::l=>match Nat.beq t k with
   |true=>some (g,w,v)
   |false=>fndg t l
theorem J0j{t g:Nat}{w:Bool}{v:AV}:∀{l:List (Nat×Nat×Bool×AV)},fndg t l=some (g,w,v)->(t,g,w,v)∈l
 |[],h=>by cases h| (k,g',w',v')::l,h=>by
  simp[fndg]at h;split at h
  .rename_i e;have:=yR e;subst this;cases h;exact yJ ..
  .exact yH _ (J0j h)
def clo(tg:List (Nat×Nat×Bool×AV)):Nat->Nat->Bool->List (Nat×Bool)
 |0,g,w=>[(g,w)]|n+1,g,w=>(g,w)::(match fndg g tg with|some (g',w',_)=>clo tg n g' w'|none=>[])
theorem V0x{b:LS}{s:St}(H:b.has s):∀{n g:Nat}{w:Bool},s.e g=.bool w->sat s (clo b.tg n g w)
 |0,g,w,h=>by intro p a;simp[clo]at a;subst a;exact h|n+1,g,w,h=>by
  intro p a;simp only[clo]at a;rcases yX a with rfl|a
  .exact h
  .split at a
   .rename_i g' w' v' e;rcases H.g _ _ _ _ (J0j e)with⟨d,_⟩|⟨_,c⟩
    .exact V0x H d p a
    .rw[h]at c;cases c
   .cases a
def eqb:Bool->Bool->Bool
 |true,true=>true|false,false=>true|_,_=>false
theorem J2D{a b:Bool}(h:eqb a b=true):a=b:=by cases a<;>cases b<;>simp[eqb]at h<;>rfl
def inA(g:Nat)(w:Bool):List (Nat×Bool)->Bool
 |[]=>false| (k,u)::l=>match Nat.beq g k with
   |true=>match eqb w u with
     |true=>true
     |false=>inA g w l
   |false=>inA g w l
theorem X2c{g:Nat}{w:Bool}:∀{A:List (Nat×Bool)},inA g w A=true->(g,w)∈A
 |[],h=>by cases h| (k,u)::l,h=>by
  simp[inA]at h;split at h
  .rename_i a;split at h
   .grind[yR,J2D,yJ]
   .exact yH _ (X2c h)
  .exact yH _ (X2c h)
def rdv(A:List (Nat×Bool))(σ:LS)(t:Nat):Option AV:=match lk σ.te t with
 |some v=>some v
 |none=>match fndg t σ.tg with
  |some (g,w,v)=>match inA g w A with
   |true=>some v
   |false=>none
  |none=>none
def gt(A:List (Nat×Bool))(σ:LS):X->Option AV
 |.t i=>rdv A σ i|.c a=>some a
def gts(A:List (Nat×Bool))(σ:LS):List X->Option (List AV)
 |[]=>some []|x::xs=>match gt A σ x with
  |some v=>match gts A σ xs with
   |some l=>some (v::l)
   |none=>none
  |none=>none
section
variable{σ:LS}{s:St}{A:List (Nat×Bool)}
theorem Y0N(H:σ.has s)(a:sat s A){t:Nat}{v:AV}(h:rdv A σ t=some v):s.e t=v:=by
 unfold rdv at h;split at h
 .rename_i u e;cases h;exact H.e t _ e
 split at h
 .rename_i g w u e;split at h
  .rename_i e2;cases h;rcases H.g _ _ _ _ (J0j e)with⟨_,b⟩|⟨h1,_⟩
   .exact b
   exact absurd (a _ (X2c e2)) h1
  cases h
 cases h
theorem L7(H:σ.has s)(b:sat s A){x:X}{v:AV}(h:gt A σ x=some v):s.get x=v:=by cases x with|t i=>exact Y0N H b h|c a=>cases h;rfl
theorem X0E(H:σ.has s)(a:sat s A):∀{xs:List X}{l:List AV},gts A σ xs=some l->xs.map s.get=l
 |[],l,h=>by cases h;rfl|x::xs,l,h=>by
  simp[gts]at h;split at h
  .rename_i v e;split at h
   .rename_i c b;cases h;rw[List.map_cons,L7 H a e,X0E H a b]
   .cases h
  .cases h
theorem X27{A B:List (Nat×Bool)}(c:sat s A)(b:sat s B):sat s (A++B):=λp a=>(List.mem_append.1 a).elim (c p) (b p)
end
def pkV(t:Bool):AV->AV->Option AV
 |.bool x,.bool y=>some (.bool (bif t then x else y))|.int k x,.int k' y=>if k=k' then some (.int k (bif t then x else y))else none|.str x,.str y=>some (.str (bif t then x else y))|_,_=>none
theorem U2B{t:Bool}{a b v:AV}(h:pkV t a b=some v):(t=true->v=a)/\(t=false->v=b):=by unfold pkV at h;grind
def ldv(σ:LS)(p:AV)(n:Nat)(ag:Bool):Option AV:=match p with
 |.ept e off=>U0u e.cells off n ag
 |.eot e off=>U0u e.cells off n ag
 |.ptr k off=>match lk σ.tb k with
  |some cs=>U0u cs off n ag
  |none=>none
 |_=>none
def gtp(A:List (Nat×Bool))(σ:LS):List (Nat×Nat×X)->Option (List (Nat×Nat×AV))
 |[]=>some []| (o,n,x)::ps=>match gt A σ x with
   |some v=>match gtp A σ ps with
     |some l=>some ((o,n,v)::l)
     |none=>none
   |none=>none
theorem Y2o{a:LS}{s:St}{A:List (Nat×Bool)}(H:a.has s)(b:sat s A):∀{ps:List (Nat×Nat×X)}{l:List (Nat×Nat×AV)},gtp A a ps=some l->(ps.map λ(off,n,x)=>(off,n,s.get x))=l
 |[],l,h=>by cases h;rfl| (o,n,x)::ps,l,h=>by
  simp[gtp]at h;split at h
  .rename_i v e;split at h
   .rename_i d c;cases h;rw[List.map_cons,Y2o H b c];simp[L7 H b e]
   .cases h
  .cases h
def pv(A:List (Nat×Bool))(σ:LS):LOp->Option AV
 |.mv _ x=>gt A σ x|.pk _ (.t i) a b=>match rdv A σ i with
  |some (.bool t)=>match gt (clo σ.tg 9 i true++A) σ a with
   |some x=>match gt (clo σ.tg 9 i false++A) σ b with
    |some y=>pkV t x y
    |none=>none
   |none=>none
  |_=>none
 |.un _ x=>match gt A σ x with
  |some (.bool b)=>some (.bool (!b))
  |_=>none
 |.bi _ op x y=>match gt A σ x with
  |some a=>match gt A σ y with
   |some b=>evB op a b
   |none=>none
  |none=>none
 |.eb _ ne x y=>match gt A σ x with
  |some (.bool a)=>match gt A σ y with
   |some (.bool b)=>match ne with
    |true=>some (.bool (!(a==b)))
    |false=>some (.bool (a==b))
   |_=>none
  |_=>none
 |.es _ ne ks x y=>match gt A σ x with
  |some (.agg a)=>match gt A σ y with
   |some (.agg b)=>match eqCells ks a b with
    |some r=>match ne with
     |true=>some (.bool (!r))
     |false=>some (.bool r)
    |none=>none
   |_=>none
  |_=>none
 |.cv _ k x=>match gt A σ x with
  |some (.int _ n)=>some (.int k (k.wrap n))
  |_=>none
 |.fa _ x off=>match gt A σ x with
  |some (.ptr k o)=>match lk σ.tb k with
   |some _=>some (.ptr k (o+off))
   |none=>none
  |some (.ept e o)=>some (.ept e (o+off))
  |some (.eot e o)=>some (.eot e (o+off))
  |some (.rpt k i o)=>match lk σ.tr k with
   |some _=>some (.rpt k i (o+off))
   |none=>none
  |_=>none
 |.ld _ p n ag=>match gt A σ p with
  |some v=>ldv σ v n ag
  |none=>none
 |.bd _ z ps=>match gtp A σ ps with
  |some l=>match Y0o z l with
   |some cs=>match allOne cs with
    |true=>some (.agg cs)
    |false=>none
   |none=>none
  |none=>none
 |.ln _ x=>match gt A σ x with
  |some .nl=>some (.int .i64 0)
  |_=>none
 |.lq _ x=>match gt A σ x with
  |some .nl=>some (.int .i64 0)
  |_=>none
 |.ls _ x=>match gt A σ x with
  |some (.str l)=>some (.int .i64 l.length)
  |_=>none
 |.ex _ x i=>match gt A σ x with
  |some (.tup vs)=>vs[i]?
  |_=>none
 |.fd _ x off n ag=>match gt A σ x with
  |some (.agg cs)=>U0u cs off n ag
  |_=>none
 |.nc _ x=>match gt A σ x with
  |some (.ptr k o)=>match lk σ.tb k with
   |some _=>some (.ptr k o)
   |none=>none
  |some (.fn f cs)=>some (.fn f cs)
  |_=>none
 |.mm _ mx x y=>match gt A σ x with
  |some (.int k a)=>match gt A σ y with
   |some (.int k' b)=>if k=k' then match mx with
     |true=>some (.int k (max a b))
     |false=>some (.int k (min a b))
    else none
   |_=>none
  |_=>none
 |.mf _ f xs=>match gts A σ xs with
  |some l=>some (.fn f l)
  |none=>none
 |.be _=>some .el|.ae _ x y sz _=>match gt A σ x with
  |some .el=>match gt A σ y with
   |some .nl=>some (.sl .nw sz [])
   |_=>none
  |_=>none
 |.bs _ sz ps own=>match own with
  |true=>none
  |false=>match gts A σ ps with
   |some es=>if es.all nosr=true/\(es.all λe=>Nat.beq e.cells.length sz)=true/\es.length*sz<=1000000/\es.length<=1000000 then some (.sl .nw sz es)else none
   |none=>none
 |_=>none
theorem U1C{s:St}:∀{l:List AV},l.all nosr=true->s.dtL l=some l
 |[],_=>rfl|a::l,h=>by simp only[List.all_cons,yD]at h;rw[St.dtL,Q1C h.1,U1C h.2]
section
variable{P:Program}{σ:LS}{s:St}{A:List (Nat×Bool)}
theorem pv_ok(H:σ.has s)(hA:sat s A){l:LOp}{v:AV}(h:pv A σ l=some v){K:St->Prop}(hK:K (s.set l.dst v)):wop P l K s:=by
 cases l with
 |mv d x=>simp only[wop];rw[L7 H hA h];exact hK|pk d c a b =>
  cases c with
  |c _=>simp[pv]at h|t i =>
   simp only[pv]at h;split at h
   .rename_i t e;have e1:=Y0N H hA e;split at h
    .rename_i x ex;split at h
     .rename_i y ey;obtain⟨w,m⟩:=U2B h;simp only[wop,J2j,e1];cases t
      .have:=L7 H (X27 (V0x H e1) hA) ey;rw[ye (by simp),this,← m rfl];exact hK
      have:=L7 H (X27 (V0x H e1) hA) ex;rw[yd rfl,this,← w rfl];exact hK
     cases h
    cases h
   cases h
 |un d x =>
  simp only[pv]at h;split at h
  .rename_i b e;cases h;simp only[wop];rw[L7 H hA e];exact hK
  cases h
 |bi d op x y =>
  simp only[pv]at h;split at h
  .rename_i a e;split at h
   .rename_i b e2;simp only[wop];rw[L7 H hA e,L7 H hA e2,h];exact hK
   cases h
  cases h
 |eb d ne x y =>
  simp only[pv]at h;split at h
  .rename_i a e;split at h
   .rename_i b e2;simp only[wop];rw[L7 H hA e,L7 H hA e2];cases ne<;>(cases h;exact hK)
   cases h
  cases h
 |es d ne ks x y =>
  simp only[pv]at h;split at h
  .rename_i a e;split at h
   .rename_i b e2;split at h
    .rename_i r e3;simp only[wop];rw[L7 H hA e,L7 H hA e2];simp only[e3];cases ne<;>(cases h;exact hK)
    cases h
   cases h
  cases h
 |cv d k x =>
  simp only[pv]at h;split at h
  .rename_i j n e;cases h;simp only[wop];rw[L7 H hA e];exact hK
  cases h
 |fa d x off =>
  simp only[pv]at h;split at h
  .rename_i k o e;split at h
   .rename_i cs e2;cases h;simp only[wop];rw[L7 H hA e];exact⟨by simp[H.b _ _ e2],hK⟩
   cases h
  .rename_i B o e;cases h;simp only[wop];rw[L7 H hA e];exact hK
  .rename_i B o e;cases h;simp only[wop];rw[L7 H hA e];exact hK
  .rename_i k i o e;split at h
   .rename_i r e2;cases h;simp only[wop];rw[L7 H hA e];exact⟨by simp[(H.r _ _ e2).1],hK⟩
   cases h
  cases h
 |ld d p n ag =>
  simp only[pv]at h;split at h
  .rename_i u e;simp only[wop];rw[L7 H hA e];have:s.ld u n ag=some v:=by
    unfold ldv at h;split at h
    .exact h
    .exact h
    .split at h
     .rename_i cs e2;simp only[St.ld,H.b _ _ e2];exact h
     cases h
    cases h
   rw[this];exact hK
  cases h
 |bd d z ps =>
  simp only[pv]at h;split at h
  .rename_i l e;split at h
   .rename_i cs e2;split at h
    .rename_i e3;cases h;simp only[wop];rw[Y2o H hA e];simp_all
    cases h
   cases h
  cases h
 |ln d x =>
  simp only[pv]at h;split at h
  .rename_i e;cases h;simp only[wop];rw[L7 H hA e];exact hK
  cases h
 |lq d x =>
  simp only[pv]at h;split at h
  .rename_i e;cases h;simp only[wop];rw[L7 H hA e];exact hK
  cases h
 |be d =>cases h;exact hK|ae d x y sz C =>
  simp only[pv]at h;split at h
  .rename_i ex;split at h
   .rename_i ey;cases h;simp only[wop];rw[L7 H hA ex];simp only;rw[L7 H hA ey];exact hK
   cases h
  cases h
 |ls d x =>
  simp only[pv]at h;split at h
  .rename_i l e;cases h;simp only[wop];rw[L7 H hA e];exact hK
  cases h
 |ex d x i =>
  simp only[pv]at h;split at h
  .rename_i D e;simp only[wop];rw[L7 H hA e];simp_all
  cases h
 |fd d x off n ag =>
  simp only[pv]at h;split at h
  .rename_i cs e;simp only[wop];rw[L7 H hA e];simp_all
  cases h
 |nc d x =>
  simp only[pv]at h;split at h
  .rename_i k o e;split at h
   .rename_i cs e2;cases h;simp only[wop];rw[L7 H hA e];exact⟨by simp[H.b _ _ e2],hK⟩
   cases h
  .rename_i f cs e;cases h;simp only[wop];rw[L7 H hA e];exact hK
  cases h
 |mm d mx x y =>
  simp only[pv]at h;split at h
  .rename_i k a e;split at h
   .rename_i j b e2;split at h
    .rename_i e3;simp only[wop];rw[L7 H hA e,L7 H hA e2];cases mx<;>(cases h;exact⟨e3,hK⟩)
    cases h
   cases h
  cases h
 |mf d f xs =>
  simp only[pv]at h;split at h
  .rename_i l e;cases h;simp only[wop];rw[X0E H hA e];exact hK
  cases h
 |bs d sz ps g =>
  simp only[pv]at h;split at h
  .cases h
  split at h
  .rename_i es ex;split at h
   .rename_i E;cases h;have q:=X0E H hA ex;simp_all[wop,U1C,yR,List.all_eq_true]
   cases h
  cases h
 |_=>cases h
end
end
section
def idx{α:Type}(l:List α)(i:Int):Option α:=if 0<=i then l[i.toNat]? else none
def bhi(h:Option Int)(n:Nat):Option Nat:=match h with
 |none=>some n
 |some i=>if 0<=i/\i<=n then some i.toNat else none
def blo(h:Option Int)(n:Nat):Option Nat:=match h with
 |none=>some 0
 |some i=>if 0<=i/\i<=n then some i.toNat else none
def cutL{α:Type}(l:List α)(lo hi:Option Int):Option (List α):=match bhi hi l.length with
 |some h=>match blo lo h with
  |some a=>some ((l.take h).drop a)
  |none=>none
 |none=>none
def appL{α:Type}(bs:Nat)(l m:List α):Option (List α):=if(l.length+m.length)*bs<=140737488355328 then some (l++m)else none
def catS(a b:List UInt8):Option (List UInt8):=if a.length+b.length<=9223372036854775807 then some (a++b)else none
def mkL{α:Type}(bs:Nat)(n:Int)(z:α):Option (List α):=if 0<=n/\bs*n<=140737488355328/\n<=9223372036854775807 then some (List.replicate n.toNat z)else none
def quoI(k:IntKind)(a b:Int):Option Int:=if b=0 then none else some (k.wrap (a.tdiv b))
def remI(a b:Int):Option Int:=if b=0 then none else some (a.tmod b)
def shrI(k:IntKind)(a b:Int):Option Int:=if 0<=b then some (bShr k a b)else none
theorem Y0{α a:Type}(f:α->a){l:List α}{i:Int}{x:α}(h:idx l i=some x):idx (l.map f) i=some (f x):=by simp_all[idx]
theorem O0{a:Type}{l:List a}{i:Nat}{x:a}(h:l[i]?=some x):idx l (i:Int)=some x:=by unfold idx;rw[yd (by omega)];simpa using h
theorem V4{α:Type}{l:List α}{i:Int}{x:α}(h:idx l i=some x):l[i.toNat]?=some x:=by grind[idx]
theorem O2n{a:Type}{l:List a}{i:Int}{x:a}(h:idx l i=some x):0<=i/\i<l.length:=by
 unfold idx at h;split at h
 .have:=(yB h).1;omega
 cases h
theorem Ut{α c:Type}(f:α->c){l m:List α}{a b:Option Int}(h:cutL l a b=some m):cutL (l.map f) a b=some (m.map f):=by grind[cutL,List.length_map,List.map_take,List.map_drop]
theorem W0{α a:Type}(f:α->a){n:Nat}{l m r:List α}(h:appL n l m=some r):appL n (l.map f) (m.map f)=some (r.map f):=by unfold appL at *;grind
theorem O2a{a b:Type}(f:a->b){n:Nat}{i:Int}{z:a}{r:List a}(h:mkL n i z=some r):mkL n i (f z)=some (r.map f):=by
 unfold mkL at *;split at h
 .rename_i e;cases h;rw[yd e,List.map_replicate]
 cases h
theorem YS{a b:Type}(f:a->b)(l:List a)(i:Nat)(x:a):(l.map f).set i (f x)=(l.set i x).map f:=by rw[List.map_set]
def TT:Tag->Nat->Value->Prop:=λ_ _ _=>True
def AEs(l l':List AV):Prop:=l.length=l'.length/\∀(w:World) (S:Nat->Nat->Prop) (i:Nat) (a a':AV) (v:Value),l[i]?=some a->l'[i]?=some a'->Rd w S TT a v->Rd w S TT a' v
theorem AEs.refl(l:List AV):AEs l l:=⟨rfl,λw S i a d v h b c=>by rw[h]at b;cases b;exact c⟩
theorem AEs.nil:AEs [] []:=AEs.refl _
def AE(a a':AV):Prop:=∀(w:World) (S:Nat->Nat->Prop) (v:Value),Rd w S TT a v->Rd w S TT a' v
theorem AE.refl(a:AV):AE a a:=λ_ _ _ h=>h
theorem AEs.cons{a g:AV}{l d:List AV}(h:AE a g)(f:AEs l d):AEs (a::l) (g::d):=by refine⟨by simp[f.1],λw S i x j v c b e=>?_⟩;cases i with|zero=>simp at c b;subst c;subst b;exact h w S v e|succ i=>exact f.2 w S i x j v (by simpa using c) (by simpa using b) e
def mrg1:AV->AV->AV
 |.nl,.sl t sz es=>match es with
  |[]=>.sl t sz []
  |_=>.nl
 |.sl _ sz es,.sl t _ _=>.sl t sz es|a,_=>a
def V1d:List AV->List AV->List AV
 |a::l,b::m=>mrg1 a b::V1d l m|l,_=>l
def mrg2:AV->AV->AV
 |.agg cs,.agg ds=>.agg (V1d cs ds)|.ept (.agg cs) o,.ept (.agg ds) _=>.ept (.agg (V1d cs ds)) o|a,b=>mrg1 a b
def Z1N:List AV->List AV->List AV
 |a::l,b::m=>mrg2 a b::Z1N l m|l,_=>l
def mrg:AV->AV->AV
 |.fn f cs,.fn _ ds=>.fn f (Z1N cs ds)|a,b=>mrg2 a b
def mrgL:List AV->List AV->List AV
 |a::l,b::m=>mrg a b::mrgL l m|l,_=>l
section
variable{w:World}{S:Nat->Nat->Prop}
theorem Rd.mrg1{a b:AV}{v:Value}(h:Rd w S TT a v):Rd w S TT (mrg1 a b) v:=by
 unfold Eng.mrg1;split
 .split
  .cases h;exact .sl0 _ _ _ _ λ_ _=>trivial
  exact h
 .cases h with|sl0 _ _ a c _=>exact .sl0 _ _ _ _ λ_ _=>trivial|sl _ _ _ b o c l k i g e m f=>exact .sl _ _ _ b o c l k i g (λj a d=>⟨(e j a d).1,(e j a d).2.1,(e j a d).2.2.1,trivial⟩) (by simp) f
 exact h
theorem L1X{a b:AV}(h:a.one=true):(mrg1 a b).one=true:=by
 unfold Eng.mrg1;split
 .split<;>rfl
 .rfl
 exact h
theorem M0w:∀{l m:List AV}{i:Nat}{x:AV},(V1d l m)[i]?=some x->∃a b,l[i]?=some a/\(x=a\/x=mrg1 a b)
 |[],m,i,x,h=>by simp[V1d]at h|a::l,[],i,x,h=>⟨x,x,h,.inl rfl⟩|a::l,b::m,0,x,h=>by simp[V1d]at h;exact⟨a,b,rfl,.inr h.symm⟩|a::l,b::m,i+1,x,h=>by obtain⟨f,e,d,c⟩:=M0w (l:=l) (m:=m) (i:=i) (by simpa[V1d]using h);exact⟨f,e,by simpa using d,c⟩
theorem Q1N:∀(l m:List AV),(V1d l m).length=l.length
 |[],_=>rfl|_::_,[]=>rfl|a::l,b::m=>by simp[V1d,Q1N l m]
theorem Rd.mrg2{a b:AV}{v:Value}(h:Rd w S TT a v):Rd w S TT (mrg2 a b) v:=by
 unfold Eng.mrg2;split
 .rename_i cs f;cases h with
  |agg _ m p r h =>
   refine .agg _ m (by rw[Q1N];exact p) (λx d=>?_) λi x v d u=>?_
   .obtain⟨i,q⟩:=List.getElem?_of_mem d;obtain⟨a,b,e,c⟩:=M0w q;have:=r a (yE e);rcases c with rfl|rfl
    .exact this
    grind[L1X]
   obtain⟨a,b,e,c⟩:=M0w d;rcases c with rfl|rfl
   .grind
   grind[mrg1]
 .rename_i cs o f o';cases h with
  |ept _ off b o s n h =>
   refine .ept _ _ b _ s (λj x d=>?_) λj x d=>?_
   .obtain⟨a,b,e,c⟩:=M0w (show(V1d cs f)[j]?=some x from d);obtain⟨l,k,g,t⟩:=n j a e;rcases c with rfl|rfl
    .grind
    exact⟨l,k,L1X g,trivial⟩
   obtain⟨a,b,e,c⟩:=M0w (show(V1d cs f)[j]?=some x from d);rcases c with rfl|rfl
   .exact h j _ e
   simp_all[mrg1]
 exact h.mrg1
theorem Z1P:∀{l m:List AV}{i:Nat}{x:AV},(Z1N l m)[i]?=some x->∃a b,l[i]?=some a/\(x=a\/x=mrg2 a b)
 |[],m,i,x,h=>by simp[Z1N]at h|a::l,[],i,x,h=>⟨x,x,h,.inl rfl⟩|a::l,b::m,0,x,h=>by simp[Z1N]at h;exact⟨a,b,rfl,.inr h.symm⟩|a::l,b::m,i+1,x,h=>by obtain⟨f,e,d,c⟩:=Z1P (l:=l) (m:=m) (i:=i) (by simpa[Z1N]using h);exact⟨f,e,by simpa using d,c⟩
theorem U1N:∀(l m:List AV),(Z1N l m).length=l.length
 |[],_=>rfl|_::_,[]=>rfl|a::l,b::m=>by simp[Z1N,U1N l m]
theorem Rd.mrg{a b:AV}{v:Value}(h:Rd w S TT a v):Rd w S TT (mrg a b) v:=by
 unfold Eng.mrg;split
 .rename_i f cs g m;cases h with
  |fn _ _ c j h =>
   refine .fn f _ c (by rw[U1N];exact j) λi x v e l=>?_;obtain⟨a,b,k,d⟩:=Z1P e;rcases d with rfl|rfl
   .grind
   grind[mrg2]
 exact h.mrg2
theorem J1Z:∀{l m:List AV},mrgL l m=m->l.length=m.length/\∀(i:Nat)(a b:AV),l[i]?=some a->m[i]?=some b->mrg a b=b
 |[],m,h=>by simp[mrgL]at h;subst h;exact⟨rfl,by intro i a b h;simp at h⟩|a::l,[],h=>by simp[mrgL]at h|a::l,b::m,h=>by simp[mrgL]at h;obtain⟨f,e⟩:=J1Z h.2;refine⟨by simp[f],λi x y d c=>?_⟩;cases i with|zero=>simp at d c;subst d;subst c;exact h.1|succ i=>exact e i x y (by simpa using d) (by simpa using c)
variable{N:Tag->Nat->Value->Prop}
mutual
theorem Rd.unrdt:∀(a:AV) {v:Value},Rd w S N a.rdt v->Rd w S TT a v
 |.bool b,v,h=>by cases h;exact .bool b
 |.int k n,v,h=>by cases h;exact .int k n
 |.str l,v,h=>by cases h;exact .str l
 |.nl,v,h=>by cases h;exact .nl
 |.agg cs,v,h=>by
  rw[AV.rdt]at h
  cases h with
  |agg _ vs hl h1 h =>
   refine .agg cs vs (by simpa[U5]using hl) (λx hx=>?_) λi x v hx hv=>unrdtL cs i x hx _ (h i x.rdt v (by rw[U5,yF,hx];rfl) hv)
   have:=h1 x.rdt (by rw[U5];exact List.mem_map_of_mem hx)
   cases x<;>simp[AV.rdt,AV.one]at this ⊢
 |.fn f cs,v,h=>by
  rw[AV.rdt]at h
  cases h with
  |fn _ _ vs hl h=>exact .fn f cs vs (by simpa[U5]using hl) λi x v hx hv=>unrdtL cs i x hx _ (h i x.rdt v (by rw[U5,yF,hx];rfl) hv)
 |.sl t sz es,v,h=>by
  rw[AV.rdt]at h
  generalize hz:rdtL es=zs at h
  cases h with
  |sl0 _ _ a c _ =>
   have:es=[]:=by
    rw[U5]at hz
    simpa using hz
   subst this
   exact .sl0 _ _ _ _ λ_ _=>trivial
  |sl _ _ _ b o c cv h1 h2 h3 h4 h5 h6 =>
   subst hz
   have hl:(rdtL es).length=es.length:=by rw[U5];simp
   rw[hl]
   refine .sl t sz es b o c cv (by rw[← hl];exact h1) h2 (λe he=>?_) (λj x hj=>?_) (λ_ _=>trivial) λj x hj=>?_
   .have:=h3 e.rdt (by rw[U5];exact List.mem_map_of_mem he)
    cases e<;>simp[AV.rdt,AV.cells,U5]at this ⊢<;>exact this
   .have q:(flat (rdtL es))[j]?=some x.rdt:=by rw[V1a,yF,hj];rfl
    obtain⟨z1,z2,z3,_⟩:=h4 j _ q
    exact⟨z1,z2,by cases x<;>simp[AV.rdt,AV.one]at z3 ⊢,trivial⟩
   .have q:(flat (rdtL es))[j]?=some x.rdt:=by rw[V1a,yF,hj];rfl
    exact unrdtF es j x hj _ (h6 j _ q)
 |.ept e o,v,h=>by
  rw[AV.rdt]at h
  cases h with
  |ept _ off b o cv hw h =>
   have hc:e.rdt.cells=e.cells.map AV.rdt:=by cases e<;>simp[AV.rdt,AV.cells,U5]
   refine .ept e _ b _ cv (λj x hx=>?_) λj x hx=>?_
   .obtain⟨z1,z2,z3,_⟩:=hw j x.rdt (by rw[hc,yF,hx];rfl)
    exact⟨z1,z2,by cases x<;>simp[AV.rdt,AV.one]at z3 ⊢,trivial⟩
   .exact unrdtC e j x hx _ (h j x.rdt (by rw[hc,yF,hx];rfl))
 |.tup _,v,h=>by rw[AV.rdt]at h;cases h
 |.sref k,v,h=>by have h:Rd w S N (.sref k) v:=h;cases h
 |.ptr k o,v,h=>by have h:Rd w S N (.ptr k o) v:=h;cases h
 |.eot e o,v,h=>by have h:Rd w S N (.eot e o) v:=h;cases h
 |.rpt k i o,v,h=>by have h:Rd w S N (.rpt k i o) v:=h;cases h
 |.und,v,h=>by have h:Rd w S N (.und) v:=h;cases h
 |.el,v,h=>by have h:Rd w S N (.el) v:=h;cases h
 |.od i ks n,v,h=>by have h:Rd w S N (.od i ks n) v:=h;cases h
 |.op i ks o,v,h=>by have h:Rd w S N (.op i ks o) v:=h;cases h
 |.bad,v,h=>by have h:Rd w S N (.bad) v:=h;cases h
termination_by a=>(SizeOf.sizeOf a,0)
theorem Rd.unrdtL:∀(l:List AV) (i:Nat) (a:AV),l[i]?=some a->∀v,Rd w S N a.rdt v->Rd w S TT a v
 |[],i,a,h,_,_=>by simp at h
 |x::l,0,a,h,v,hr=>by
  have e:x=a:=by simpa using h
  exact e ▸ Rd.unrdt x (e ▸ hr)
 |x::l,i+1,a,h,v,hr=>Rd.unrdtL l i a (by simpa using h) v hr
termination_by l=>(SizeOf.sizeOf l,0)
theorem Rd.unrdtF:∀(l:List AV) (i:Nat) (a:AV),(flat l)[i]?=some a->∀v,Rd w S N a.rdt v->Rd w S TT a v
 |[],i,a,h,_,_=>by simp[flat]at h
 |x::l,i,a,h,v,hr=>by
  have e:flat (x::l)=x.cells++flat l:=by simp[flat]
  rw[e,List.getElem?_append]at h
  split at h
  .exact Rd.unrdtC x i a h v hr
  .exact Rd.unrdtF l _ a h v hr
termination_by l=>(SizeOf.sizeOf l,0)
theorem Rd.unrdtC:∀(e:AV) (i:Nat) (a:AV),e.cells[i]?=some a->∀v,Rd w S N a.rdt v->Rd w S TT a v
 |.agg cs,i,a,h,v,hr=>Rd.unrdtL cs i a h v hr
 |.bool b,i,a,h,v,hr | .int _ _,i,a,h,v,hr | .str _,i,a,h,v,hr | .nl,i,a,h,v,hr | .el,i,a,h,v,hr | .od _ _ _,i,a,h,v,hr | .op _ _ _,i,a,h,v,hr | .sl _ _ _,i,a,h,v,hr | .ept _ _,i,a,h,v,hr
 |.tup _,i,a,h,v,hr | .sref _,i,a,h,v,hr | .ptr _ _,i,a,h,v,hr | .eot _ _,i,a,h,v,hr | .rpt _ _ _,i,a,h,v,hr | .fn _ _,i,a,h,v,hr | .und,i,a,h,v,hr | .bad,i,a,h,v,hr=>by
  cases i with
  |zero =>
   simp only[AV.cells,List.getElem?_cons_zero,yI]at h
   exact h ▸ Rd.unrdt _ (h ▸ hr)
  |succ i=>simp[AV.cells]at h
termination_by e=>(SizeOf.sizeOf e,1)
end
theorem Snd.aes{P:Program}{f:FuncId}{l b e:List AV}{c:AV}{rows:List Row}(h:Snd P f e c rows)(d:AEs b e)(j:mrgL l b=b):Snd P f (rdtL l) c rows:=by
 intro w S N o x p g;obtain⟨y,j⟩:=J1Z j;have r:(rdtL l).length=l.length:=by rw[U5];simp
 have u:=d.1;refine h w S TT o x (by omega) λi a v k q=>?_;have z:=(yB k).1;have t:i<l.length:=by omega
 have s:i<b.length:=by omega
 have n:l[i]?=some l[i]:=by simp
 have m:b[i]?=some b[i]:=by simp
 apply d.2 w S i b[i] a v m k;have:=Rd.unrdt (N:=N) l[i] (g i l[i].rdt v (by rw[U5,yF,n];rfl) q);rw[← j i _ _ n m];exact this.mrg
end
def LS.dc(σ:LS):AV->Option AV
 |.sref k=>match lk σ.tr k with
  |some r=>some (.sl .nw r.sz r.es)
  |none=>none
 |.bool b=>some (.bool b)|.int k n=>some (.int k n)|.str l=>some (.str l)|.nl=>some .nl|.sl t sz es=>some (.sl t sz es)|.ept e o=>some (.ept e o)|_=>none
def LS.dcL(σ:LS):List AV->Option (List AV)
 |[]=>some []|a::l=>match σ.dc a with
  |some x=>match σ.dcL l with
   |some y=>some (x::y)
   |none=>none
  |none=>none
def LS.d2(σ:LS):AV->Option AV
 |.agg cs=>match σ.dcL cs with
  |some l=>some (.agg l)
  |none=>none
 |a=>σ.dc a
def LS.d2L(σ:LS):List AV->Option (List AV)
 |[]=>some []|a::l=>match σ.d2 a with
  |some x=>match σ.d2L l with
   |some y=>some (x::y)
   |none=>none
  |none=>none
def LS.dt(σ:LS):AV->Option AV
 |.fn f cs=>match σ.d2L cs with
  |some l=>some (.fn f l)
  |none=>none
 |a=>σ.d2 a
def LS.dtL(σ:LS):List AV->Option (List AV)
 |[]=>some []|a::l=>match σ.dt a with
  |some x=>match σ.dtL l with
   |some y=>some (x::y)
   |none=>none
  |none=>none
section
variable{σ:LS}{s:St}
theorem M2k(H:σ.has s){a x:AV}(h:σ.dc a=some x):s.dt a=some x:=by
 unfold LS.dc at h;split at h
 .split at h
  .rename_i r e;cases h;simp[St.dt,(H.r _ _ e).1]
  cases h
 all_goals first | (cases h;rfl)|cases h
theorem L2o(H:σ.has s):∀{l m:List AV},σ.dcL l=some m->s.dtL l=some m
 |[],m,h=>by cases h;rfl|a::l,m,h=>by
  simp[LS.dcL]at h;split at h
  .rename_i x e;split at h
   .rename_i y b;cases h;rw[St.dtL,M2k H e,L2o H b]
   .cases h
  .cases h
theorem V2E(H:σ.has s){a x:AV}(h:σ.d2 a=some x):s.dt a=some x:=by unfold LS.d2 at h;grind[St.dt,L2o,M2k]
theorem J2o(H:σ.has s):∀{l m:List AV},σ.d2L l=some m->s.dtL l=some m
 |[],m,h=>by cases h;rfl|a::l,m,h=>by
  simp[LS.d2L]at h;split at h
  .rename_i x e;split at h
   .rename_i y b;cases h;rw[St.dtL,V2E H e,J2o H b]
   .cases h
  .cases h
theorem Y2E(H:σ.has s){a x:AV}(h:σ.dt a=some x):s.dt a=some x:=by unfold LS.dt at h;grind[St.dt,J2o,V2E]
theorem W2e(H:σ.has s):∀{l m:List AV},σ.dtL l=some m->s.dtL l=some m
 |[],m,h=>by cases h;rfl|a::l,m,h=>by
  simp[LS.dtL]at h;split at h
  .rename_i x e;split at h
   .rename_i y b;cases h;rw[St.dtL,Y2E H e,W2e H b]
   .cases h
  .cases h
end
end
section
inductive Act|a(v:AV)|l(es:List AV)|i(i:Int)|n(n:Nat)|s(l:List UInt8)|o(o:Option Int)|w(f:Nat)(as:List AV)(bin:List (List AV))(rin:List (Nat×List AV))
def allG:List (Bool×Bool)->Prop
 |[]=>True| (b,w)::r=>b=w/\allG r
structure Rw(q:Prop) where
 a:AV
 b:AV
 h:q->a=b
def M0Q(P:Program)(f sz:Nat)(es as:List AV)(ret:Bool)(es':List AV):Prop:=Con P f (.sref 0::as) [] [⟨sz,es,false⟩] λres bout upd new =>
 bout=[]/\(match ret with|true=>res=.sref 1/\upd=[none]/\new=[⟨sz,es',false⟩]|false=>res=.tup []/\upd=[some es']/\new=[])
def ownR(rin:List (Nat×List AV)):List Row:=rin.map λp=>⟨p.1,p.2,false⟩
def ConD(P:Program)(f:FuncId)(as:List AV)(bin:List (List AV))(rin:List (Nat×List AV))(res:AV)(bout:List (List AV))(upd:List (Option (List AV)))(new:List (Nat×List AV)):Prop :=Con P f as bin (ownR rin) λr b u n=>r=res/\b=bout/\u=upd/\n=ownR new
inductive Hint(P:Program)(q:Prop)
 |ln (es:List AV) (n:Nat) (h:q->es.length=n)
 |le (es:List AV) (n:Nat) (h:q->es.length=n) (h2:q->n<=9223372036854775807)
 |ix (es:List AV) (i:Int) (e:AV) (h:q->idx es i=some e)
 |el (es:List AV) (j:Nat) (e:AV) (h:q->es[j]?=some e)
 |sx (l:List UInt8) (i:Int) (b:UInt8) (h:q->idx l i=some b)
 |sto (es:List AV) (j:Nat) (e ne:AV) (es':List AV) (h:q->es[j]?=some e) (h2:q->es.set j ne=es')
 |ap (es news:List AV) (bs:Nat) (es':List AV) (h:q->appL bs es news=some es')
 |ms (bs:Nat) (n:Int) (z:AV) (es:List AV) (h:q->mkL bs n z=some es)
 |sc (es:List AV) (lo hi:Option Int) (es':List AV) (h:q->cutL es lo hi=some es')
 |ss (l:List UInt8) (lo hi:Option Int) (y:List UInt8) (h:q->cutL l lo hi=some y)
 |sa (x y z:List UInt8) (h:q->catS x y=some z)
 |quo (k:IntKind) (x y z:Int) (h:q->quoI k x y=some z)
 |rem (x y z:Int) (h:q->remI x y=some z)
 |shr (k:IntKind) (x y z:Int) (h:q->shrI k x y=some z)
 |b2s (es:List AV) (l:List UInt8) (h:q->es=l.map λb=>AV.int .u8 b.toNat)
 |s2b (l:List UInt8) (es:List AV) (h:q->l.length<=140737488355328) (h2:q->(l.map λb=>AV.int .u8 b.toNat)=es)
 |call (f:Nat) (as as':List AV) (res:AV) (rows:List Row) (hae:AEs as as') (h:q->Snd P f as' res rows)
 |clsr (f:Nat) (as as':List AV) (res:AV) (rows:List Row) (hae:AEs as as') (hf:isFn P f=true) (h:q->Snd P f as' res rows)
 |cw (f:Nat) (bks rks:List Nat) (bin:List (List AV)) (rin:List (Nat×List AV)) (as0 as:List AV) (res:AV) (bout:List (List AV)) (upd:List (Option (List AV))) (new:List (Nat×List AV))
  (hae:GEs as0 as) (hb:∀b∈bin,noOL b) (hr:∀r∈rin,noOL r.2) (ho:noOL as0) (h:q->ConD P f as bin rin res bout upd new)
 |cz (f:Nat) (bks:List Nat) (bin:List (List AV)) (as0 as:List AV) (res:AV) (bout:List (List AV)) (hb:∀b∈bin,noOL b) (ho:noOL as0) (hr:q->rdtL as0=as) (h:q->ConD P f as bin [] res bout [] [])
 |bn (f:Nat) (as0 as1 as cs:List AV) (ho:q->noOL as0) (hr:q->rdtL as1=as) (h:q->SndB P f as λc=>c=cs)
 |cr (f sz:Nat) (es vs as:List AV) (ret:Bool) (es':List AV) (hn:q->noOL es) (hv:q->noOL vs) (hr:q->rdtL vs=as) (h:q->M0Q P f sz es as ret es')
structure HE(P:Program) where
 k:Nat
 gs:List (Bool×Bool)
 h:Option (Hint P (allG gs))
 r:Option (Rw (allG gs))
def Hint.exp{P:Program}{q:Prop}:Hint P q->List Act
 |.ln es _ _=>[.l es]|.le es _ _ _=>[.l es]|.ix es i _ _=>[.l es,.i i]|.el es j _ _=>[.l es,.n j]|.sx l i _ _=>[.s l,.i i]|.sto es j _ ne _ _ _=>[.l es,.n j,.a ne]|.ap es news bs _ _=>[.l es,.l news,.n bs]|.ms bs n z _ _=>[.n bs,.i n,.a z]|.sc es lo hi _ _=>[.l es,.o lo,.o hi]|.ss l lo hi _ _=>[.s l,.o lo,.o hi]|.sa x y _ _=>[.s x,.s y]|.quo _ x y _ _=>[.i x,.i y]|.rem x y _ _=>[.i x,.i y]|.shr _ x y _ _=>[.i x,.i y]|.b2s es _ _=>[.l es]|.s2b l _ _ _=>[.s l]|.call f as _ _ _ _ _=>[.n f,.l as]|.clsr f as _ _ _ _ _ _=>[.n f,.l as]|.cw f _ _ bin rin as0 _ _ _ _ _ _ _ _ _ _=>[.w f as0 bin rin]|.cz f _ bin as0 _ _ _ _ _ _ _=>[.w f as0 bin []]|.bn f as0 as1 _ _ _ _ _=>[.n f,.l as0,.l as1]|.cr f sz es vs _ _ _ _ _ _ _=>[.n f,.n sz,.l es,.l vs]
def Rw.exp{p:Prop}(q:Option (Rw p)):List Act:=match q with|some q=>[.a q.a]|none=>[]
def hexp{P:Program}{p:Prop}(q:Option (Hint P p)):List Act:=match q with|some q=>q.exp|none=>[]
def kdec(a b:IntKind):Bool:=decide (a=b)
def gto(A:List (Nat×Bool))(σ:LS):Option X->Option (Option Int)
 |none=>some none|some x=>match gt A σ x with
  |some (.int _ i)=>some (some i)
  |_=>none
def pvh{P:Program}{q:Prop}(A:List (Nat×Bool))(σ:LS):Option (Hint P q)->LOp->Option (AV×List Act)
 |none,l=>match l with
  |.b2s _ x=>match gt A σ x with
   |some .nl=>some (.str [],[])
   |_=>none
  |l=>match pv A σ l with
   |some v=>some (v,[])
   |none=>none
 |some h,l=>match h with
  |.ln _ n _=>match l with
   |.ln _ x=>match gt A σ x with
    |some (.sl _ _ es)=>some (.int .i64 n,[.l es])
    |some (.sref k)=>match lk σ.tr k with
     |some r=>some (.int .i64 n,[.l r.es])
     |none=>none
    |_=>none
   |_=>none
  |.le _ n _ _=>match l with
   |.lq _ x=>match gt A σ x with
    |some (.sl _ _ es)=>some (.int .i64 n,[.l es])
    |some (.sref k)=>match lk σ.tr k with
     |some r=>some (.int .i64 n,[.l r.es])
     |none=>none
    |_=>none
   |_=>none
  |.ix _ _ e _=>match l with
   |.ia _ x i n=>match gt A σ i with
    |some (.int _ j)=>match gt A σ x with
     |some (.sl t sz es)=>match Nat.beq sz n with
      |true=>match t with
       |.own _=>some (.eot e 0,[.l es,.i j])
       |_=>some (.ept e 0,[.l es,.i j])
      |false=>none
     |some (.sref k)=>match lk σ.tr k with
      |some r=>match Nat.beq r.sz n with
       |true=>some (.rpt k j.toNat 0,[.l r.es,.i j])
       |false=>none
      |none=>none
     |_=>none
    |_=>none
   |_=>none
  |.el _ _ e _=>match l with
   |.ld _ p n ag=>match gt A σ p with
    |some (.rpt k j off)=>match lk σ.tr k with
     |some r=>match U0u e.cells off n ag with
      |some v=>some (v,[.l r.es,.n j])
      |none=>none
     |none=>none
    |_=>none
   |_=>none
  |.sx _ _ b _=>match l with
   |.ix _ x i=>match gt A σ x with
    |some (.str s)=>match gt A σ i with
     |some (.int _ j)=>some (.int .u8 b.toNat,[.s s,.i j])
     |_=>none
    |_=>none
   |_=>none
  |.sc _ _ _ es' _=>match l with
   |.sc _ x lo hi n=>match gto A σ lo with
    |some lo=>match gto A σ hi with
     |some hi=>match gt A σ x with
      |some (.sl t sz es)=>match Nat.beq sz n with
       |true=>match t with
        |.own _=>none
        |_=>some (.sl t sz es',[.l es,.o lo,.o hi])
       |false=>none
      |some .nl=>some (.nl,[.l [],.o lo,.o hi])
      |_=>none
     |none=>none
    |none=>none
   |_=>none
  |.ss _ _ _ y _=>match l with
   |.ss _ x lo hi=>match gto A σ lo with
    |some lo=>match gto A σ hi with
     |some hi=>match gt A σ x with
      |some (.str s)=>some (.str y,[.s s,.o lo,.o hi])
      |_=>none
     |none=>none
    |none=>none
   |_=>none
  |.sa _ _ z _=>match l with
   |.sa _ x y=>match gt A σ x with
    |some (.str a)=>match gt A σ y with
     |some (.str b)=>some (.str z,[.s a,.s b])
     |_=>none
    |_=>none
   |_=>none
  |.quo k _ _ z _=>match l with
   |.bi _ .quo x y=>match gt A σ x with
    |some (.int k1 a)=>match gt A σ y with
     |some (.int k2 b)=>match kdec k1 k&&kdec k2 k with
      |true=>some (.int k z,[.i a,.i b])
      |false=>none
     |_=>none
    |_=>none
   |_=>none
  |.rem _ _ z _=>match l with
   |.bi _ .rem x y=>match gt A σ x with
    |some (.int k1 a)=>match gt A σ y with
     |some (.int k2 b)=>match kdec k1 k2 with
      |true=>some (.int k1 z,[.i a,.i b])
      |false=>none
     |_=>none
    |_=>none
   |_=>none
  |.shr k _ _ z _=>match l with
   |.bi _ .shr x y=>match gt A σ x with
    |some (.int k1 a)=>match gt A σ y with
     |some (.int _ b)=>match kdec k1 k with
      |true=>some (.int k z,[.i a,.i b])
      |false=>none
     |_=>none
    |_=>none
   |_=>none
  |.b2s _ y _=>match l with
   |.b2s _ x=>match gt A σ x with
    |some v=>match σ.dc v with
     |some (.sl _ _ es)=>some (.str y,[.l es])
     |_=>none
    |none=>none
   |_=>none
  |.s2b _ es _ _=>match l with
   |.s2b _ x=>match gt A σ x with
    |some (.str s)=>some (.sl .nw 1 es,[.s s])
    |_=>none
   |_=>none
  |.call _ as _ res rows _ _=>match l with
   |.cq _ f' xs=>match gts A σ xs with
    |some vs=>match σ.dtL vs with
     |some ds=>some (res.nwd rows,[.n f',.l (mrgL ds as)])
     |none=>none
    |none=>none
   |_=>none
  |.clsr _ as _ res rows _ _ _=>match l with
   |.cc _ fx xs=>match gt A σ fx with
    |some fv=>match σ.dt fv with
     |some (.fn f' cap)=>match gts A σ xs with
      |some vs=>match σ.dtL vs with
       |some ds=>some (res.nwd rows,[.n f',.l (mrgL (ds++cap) as)])
       |none=>none
      |none=>none
     |_=>none
    |none=>none
   |_=>none
  |.ap _ _ _ es' _=>match l with
   |.ae _ x y sz by'=>match gt A σ x with
    |some .el=>match gt A σ y with
     |some (.sl _ sy news)=>match Nat.beq sy sz with
      |true=>some (.sl .nw sz es',[.l [],.l news,.n by'])
      |false=>none
     |_=>none
    |_=>none
   |_=>none
  |_=>none
section
variable{P:Program}{σ:LS}{s:St}{A:List (Nat×Bool)}
theorem Z1y(H:σ.has s)(a:sat s A){o:Option X}{q:Option Int}(h:gto A σ o=some q):(∀n,s.hi o n=bhi q n)/\∀n,s.lo o n=blo q n:=by cases o with|none=>cases h;exact⟨λ_=>rfl,λ_=>rfl⟩|some x =>grind[gto,L7,St.hi,L22,bhi,St.lo,blo]
theorem Y1l{es:List AV}{k:IntKind}{j:Int}{e:AV}(h:idx es j=some e):Q1p (.int k j) es.length=some j.toNat/\es[j.toNat]?=some e:=by have a:=O2n h;exact⟨by simp_all[Q1p],V4 h⟩
theorem V23{l:List UInt8}{k:IntKind}{j:Int}{b:UInt8}(h:idx l j=some b):Q1p (.int k j) l.length=some j.toNat/\l[j.toNat]?=some b:=by have a:=O2n h;exact⟨by simp_all[Q1p],V4 h⟩
theorem Q1a{α:Type}{l m:List α}{c d:Option Int}(h:cutL l c d=some m):∃b a,bhi d l.length=some b/\blo c b=some a/\(l.take b).drop a=m:=by unfold cutL at h;grind
theorem V1J{xs:List X}{a b:List AV}(H:σ.has s)(c:sat s A)(h:gts A σ xs=some a)(d:σ.dtL a=some b):s.args xs=some (rdtL b):=by grind[St.args,X0E,W2e]
theorem Z1M{q:Prop}(w:q)(H:σ.has s)(g:sat s A){l:LOp}{h:Option (Hint P q)}{v:AV}{as:List Act}(e:pvh A σ h l=some (v,as))(c:as=hexp h){K:St->Prop}(R:K (s.set l.dst v)):wop P l K s:=by
 cases h with
 |none =>
  have gen:∀{l:LOp},(match pv A σ l with|some v=>some (v,[])|none=>none)=some (v,as)->K (s.set l.dst v)->wop P l K s:=by grind[pv_ok]
  cases l with
  |b2s d x =>
   simp[pvh]at e;split at e
   .rename_i D;cases e;simp[wop];rw[L7 H g D];exact R
   cases e
  |_=>exact gen e R
 |some h =>
  cases h with
  |ln es n h =>
   have h:=h w;cases l with
   |ln d x =>
    simp[pvh]at e;split at e
    .rename_i t S C D;cases e;simp[hexp,Hint.exp,Act.l.injEq,and_true]at c;simp[wop];rw[L7 H g D];simp_all
    .rename_i k D;split at e
     .rename_i r M;cases e;simp[hexp,Hint.exp,Act.l.injEq,and_true]at c;simp[wop];rw[L7 H g D];simp[(H.r _ _ M).1];simp_all
     cases e
    cases e
   |_=>cases e
  |le es n h L =>
   have h:=h w;have L:=L w;cases l with
   |lq d x =>
    simp[pvh]at e;split at e
    .rename_i t S C D;cases e;simp[hexp,Hint.exp,Act.l.injEq,and_true]at c;simp[wop];rw[L7 H g D];simp_all
    .rename_i k D;split at e
     .rename_i r M;cases e;simp[hexp,Hint.exp,Act.l.injEq,and_true]at c;simp[wop];rw[L7 H g D];simp[(H.r _ _ M).1];simp_all
     cases e
    cases e
   |_=>cases e
  |ix es i e0 h =>
   have h:=h w;cases l with
   |ia d x y n =>
    simp[pvh]at e;split at e
    .rename_i k j B;split at e
     .rename_i t S C m;split at e
      .rename_i E;have E:=yR E;split at e
       .cases e;simp[hexp,Hint.exp,Act.l.injEq,Act.i.injEq,and_true]at c;obtain⟨rfl,rfl⟩:=c;obtain⟨I,Q⟩:=Y1l (k:=k) h;simp[wop];rw[L7 H g m,L7 H g B];simp_all
       rename_i hno;cases e;simp[hexp,Hint.exp,Act.l.injEq,Act.i.injEq,and_true]at c;obtain⟨rfl,rfl⟩:=c;obtain⟨I,Q⟩:=Y1l (k:=k) h;simp[wop];rw[L7 H g m,L7 H g B];simp_all
      cases e
     .rename_i k' m;split at e
      .rename_i r M;split at e
       .rename_i E;have E:=yR E;cases e;simp[hexp,Hint.exp,Act.l.injEq,Act.i.injEq,and_true]at c;obtain⟨rfl,rfl⟩:=c;obtain⟨I,Q⟩:=Y1l (k:=k) h;simp[wop];rw[L7 H g m,L7 H g B];simp[(H.r _ _ M).1,I];simp_all
       cases e
      cases e
     cases e
    cases e
   |_=>cases e
  |el es j e0 h =>
   have h:=h w;cases l with
   |ld d p n ag =>
    simp[pvh]at e;split at e
    .rename_i k j' off ep;split at e
     .rename_i r M;split at e
      .rename_i u eu;cases e;simp[hexp,Hint.exp,Act.l.injEq,Act.n.injEq,and_true]at c;obtain⟨rfl,rfl⟩:=c;simp[wop];rw[L7 H g ep];simp[(H.r _ _ M).1,h,eu];exact R
      cases e
     cases e
    cases e
   |_=>cases e
  |sx l0 i b h =>
   have h:=h w;cases l with
   |ix d x y =>
    simp[pvh]at e;split at e
    .rename_i s0 m;split at e
     .rename_i k j B;cases e;simp[hexp,Hint.exp,Act.s.injEq,Act.i.injEq,and_true]at c;obtain⟨rfl,rfl⟩:=c;obtain⟨I,Q⟩:=V23 (k:=k) h;simp[wop];rw[L7 H g m,L7 H g B];simp_all
     cases e
    cases e
   |_=>cases e
  |sc es lo hi C h =>
   have h:=h w;cases l with
   |sc d x X Y n =>
    simp[pvh]at e;split at e
    .rename_i lo' N;split at e
     .rename_i hi' O;have h1:=(Z1y H g O).1;have L:=(Z1y H g N).2;split at e
      .rename_i t S U m;split at e
       .rename_i E;have E:=yR E;split at e
        .cases e
        rename_i hno;cases e;simp[hexp,Hint.exp,Act.l.injEq,Act.o.injEq,and_true]at c;obtain⟨rfl,rfl,rfl⟩:=c;obtain⟨b,a,I,Q,q3⟩:=Q1a h;simp[wop];rw[L7 H g m];simp_all
       cases e
      .rename_i m;cases e;simp[hexp,Hint.exp,Act.l.injEq,Act.o.injEq,and_true]at c;obtain⟨rfl,rfl,rfl⟩:=c;obtain⟨b,a,I,Q,q3⟩:=Q1a h;simp[wop];rw[L7 H g m];simp_all
      cases e
     cases e
    cases e
   |_=>cases e
  |ss l0 lo hi y h =>
   have h:=h w;cases l with
   |ss d x X Y =>
    simp[pvh]at e;split at e
    .rename_i lo' N;split at e
     .rename_i hi' O;have h1:=(Z1y H g O).1;have L:=(Z1y H g N).2;split at e
      .rename_i s0 m;cases e;simp[hexp,Hint.exp,Act.s.injEq,Act.o.injEq,and_true]at c;obtain⟨rfl,rfl,rfl⟩:=c;obtain⟨b,a,I,Q,q3⟩:=Q1a h;simp[wop];rw[L7 H g m];simp_all
      cases e
     cases e
    cases e
   |_=>cases e
  |ap U news0 bs0 C h =>
   have h:=h w;cases l with
   |ae d x y S by' =>
    simp[pvh]at e;split at e
    .rename_i m;split at e
     .rename_i t sy news B;split at e
      .rename_i hc;have c3:=yR hc;cases e;simp[hexp,Hint.exp,Act.l.injEq,Act.n.injEq,and_true]at c;obtain⟨rfl,rfl,rfl⟩:=c;unfold appL at h;split at h
       .rename_i hle;cases h;simp[wop];rw[L7 H g m];simp only;rw[L7 H g B];simp_all
       cases h
      cases e
     cases e
    cases e
   |_=>cases e
  |sa Z W z h =>
   have h:=h w;cases l with
   |sa d x y =>
    simp[pvh]at e;split at e
    .rename_i a m;split at e
     .rename_i b B;cases e;simp[hexp,Hint.exp,Act.s.injEq,and_true]at c;obtain⟨rfl,rfl⟩:=c;unfold catS at h;split at h
      .rename_i hle;cases h;simp[wop];rw[L7 H g m,L7 H g B];simp_all
      cases h
     cases e
    cases e
   |_=>cases e
  |quo k Z W z h =>
   have h:=h w;cases l with
   |bi d T x y =>
    cases T with
    |quo =>
     simp[pvh]at e;split at e
     .rename_i k1 a m;split at e
      .rename_i k2 b B;split at e
       .rename_i F;simp[kdec]at F;obtain⟨rfl,rfl⟩:=F;cases e;simp[hexp,Hint.exp,Act.i.injEq,and_true]at c;obtain⟨rfl,rfl⟩:=c;unfold quoI at h;split at h
        .cases h
        rename_i hb;cases h;simp[wop];rw[L7 H g m,L7 H g B];simp_all
       cases e
      cases e
     cases e
    |_=>cases e
   |_=>cases e
  |rem Z W z h =>
   have h:=h w;cases l with
   |bi d T x y =>
    cases T with
    |rem =>
     simp[pvh]at e;split at e
     .rename_i k1 a m;split at e
      .rename_i k2 b B;split at e
       .rename_i F;simp[kdec]at F;subst F;cases e;simp[hexp,Hint.exp,Act.i.injEq,and_true]at c;obtain⟨rfl,rfl⟩:=c;unfold remI at h;split at h
        .cases h
        rename_i hb;cases h;simp[wop];rw[L7 H g m,L7 H g B];simp_all
       cases e
      cases e
     cases e
    |_=>cases e
   |_=>cases e
  |shr k Z W z h =>
   have h:=h w;cases l with
   |bi d T x y =>
    cases T with
    |shr =>
     simp[pvh]at e;split at e
     .rename_i k1 a m;split at e
      .rename_i k2 b B;split at e
       .rename_i F;simp[kdec]at F;subst F;cases e;simp[hexp,Hint.exp,Act.i.injEq,and_true]at c;obtain⟨rfl,rfl⟩:=c;unfold shrI at h;split at h
        .rename_i hb;cases h;simp[wop];rw[L7 H g m,L7 H g B];simp_all
        cases h
       cases e
      cases e
     cases e
    |_=>cases e
   |_=>cases e
  |b2s es y h =>
   have h:=h w;cases l with
   |b2s d x =>
    simp[pvh]at e;split at e
    .rename_i u m;split at e
     .rename_i t S U V;cases e;simp[hexp,Hint.exp,Act.l.injEq,and_true]at c;simp[wop];rw[L7 H g m,M2k H V];exact⟨y,by rw[c];exact h,R⟩
     cases e
    cases e
   |_=>cases e
  |s2b l0 es h L =>
   have h:=h w;have L:=L w;cases l with
   |s2b d x =>
    simp[pvh]at e;split at e
    .rename_i s0 m;cases e;simp[hexp,Hint.exp,Act.s.injEq,and_true]at c;subst c;simp[wop];rw[L7 H g m];simp_all
    cases e
   |_=>cases e
  |call f as0 as' G rows J h =>
   have h:=h w;cases l with
   |cq d f' xs =>
    simp[pvh]at e;split at e
    .rename_i vs ev;split at e
     .rename_i ds V;cases e;simp[hexp,Hint.exp,Act.n.injEq,Act.l.injEq,and_true]at c;obtain⟨rfl,c⟩:=c;exact⟨_,V1J H g ev V,G,rows,h.aes J c,R⟩
     cases e
    cases e
   |_=>cases e
  |clsr f as0 as' G rows J hf h =>
   have h:=h w;cases l with
   |cc d fx xs =>
    simp[pvh]at e;split at e
    .rename_i fv efx;split at e
     .rename_i f' cap edf;split at e
      .rename_i vs ev;split at e
       .rename_i ds V;cases e;simp[hexp,Hint.exp,Act.n.injEq,Act.l.injEq,and_true]at c;obtain⟨rfl,c⟩:=c;refine⟨rdtL (.fn f' cap::ds),?_,f',rdtL cap,rdtL ds,by simp,hf,G,rows,?_,R⟩
        .grind[St.args,L7,X0E,St.dtL,Y2E,W2e]
        have:=h.aes J c;rwa [U5,List.map_append,← U5,← U5]at this
       cases e
      cases e
     cases e
    cases e
   |_=>cases e
  |_=>cases l<;>cases e
end
end
section
def addRows(σ:LS)(k:Nat):List Row->LS
 |[]=>σ|r::rs=>addRows ((σ.kill k).row k r) (k+1) rs
mutual
def AV.odF:AV->Bool
 |.od _ _ _=>false
 |.op _ _ _=>false
 |.agg cs=>odFL cs
 |.tup cs=>odFL cs
 |.fn _ cs=>odFL cs
 |_=>true
def odFL:List AV->Bool
 |[]=>true
 |a::l=>match a.odF with|true=>odFL l|false=>false
end
mutual
theorem V2u:∀{a:AV},a.odF=true->a.kod=a
 |.agg cs,h=>by rw[AV.kod,Q0i (by simpa only[AV.odF]using h)]
 |.tup cs,h=>by rw[AV.kod,Q0i (by simpa only[AV.odF]using h)]
 |.fn f cs,h=>by rw[AV.kod,Q0i (by simpa only[AV.odF]using h)]
 |.od _ _ _,h | .op _ _ _,h=>by simp[AV.odF]at h
 |.bool _,_ | .int _ _,_ | .str _,_ | .nl,_ | .el,_ | .sl _ _ _,_ | .ept _ _,_ | .eot _ _,_ | .und,_ | .bad,_ | .sref _,_ | .ptr _ _,_ | .rpt _ _ _,_=>by simp[AV.kod]
theorem Q0i:∀{l:List AV},odFL l=true->kodL l=l
 |[],_=>rfl
 |a::l,h=>by
  simp only[odFL]at h
  split at h
  .rename_i e;rw[kodL,V2u e,Q0i h]
  .cases h
end
def gtsF(A:List (Nat×Bool))(σ:LS)(ys:List X):Option (List AV):=match gts A σ ys with
 |some vs=>match odFL vs with
  |true=>some vs
  |false=>none
 |none=>none
theorem Z1U{A:List (Nat×Bool)}{b:LS}{ys:List X}{a:List AV}(h:gtsF A b ys=some a):gts A b ys=some a/\odFL a=true:=by grind[gtsF]
def LS.kill2(σ:LS):List Nat->LS
 |[]=>σ|k::ks=>LS.kill2 (σ.kill k) ks
def blk(bks:List Nat):List (Nat×List AV)->List (Nat×List AV)
 |[]=>[]| (k,cs)::l=>(k,match inL k bks with|true=>List.replicate cs.length .bad|false=>cs)::blk bks l
def upr(rks:List Nat)(upd:List (Option (List AV))):List (Nat×Row)->List (Nat×Row)
 |[]=>[]| (k,r)::l=>(k,match upf rks upd k with|some es=>⟨r.sz,es,r.sh⟩|none=>r)::upr rks upd l
def LS.setB(σ:LS):List Nat->List (List AV)->LS
 |k::ks,b::bs=>(LS.setB σ ks bs).box k b|_,_=>σ
def LS.afterM(σ:LS)(d:Nat)(bks rks:List Nat)(res:AV)(bout:List (List AV))(upd:List (Option (List AV)))(new:List Row):LS :=
 LS.set (LS.setB (addRows { σ.kill2 (drops rks upd)with tb:=blk bks (σ.kill2 (drops rks upd)).tb,tr:=upr rks upd (σ.kill2 (drops rks upd)).tr } (1000*d+1000) new) bks (bout.map (mpL (fbB bks) (frB rks upd (1000*d+1000) new.length)))) d
  (res.mp (fbB bks) (frB rks upd (1000*d+1000) new.length))
def gbx(σ:LS):List Nat->Option (List (List AV))
 |[]=>some []|k::ks=>match lk σ.tb k with
  |some cs=>match gbx σ ks with
   |some l=>some (cs::l)
   |none=>none
  |none=>none
def grw(σ:LS):List Nat->Option (List (Nat×List AV))
 |[]=>some []|k::ks=>match lk σ.tr k with
  |some r=>match r.sh with
   |false=>match grw σ ks with
    |some l=>some ((r.sz,r.es)::l)
    |none=>none
   |true=>none
  |none=>none
def ncl:List Nat->List (Option (List AV))->Nat->Nat->Bool
 |k::ks,some _::us,b,n=>(Nat.blt k b||Nat.ble (b+n) k)&&ncl ks us b n|_::ks,none::us,b,n=>ncl ks us b n|_,_,_,_=>true
def nclB(b n:Nat):List Nat->Bool
 |[]=>true|k::ks=>(Nat.blt k b||Nat.ble (b+n) k)&&nclB b n ks
def cwx(A:List (Nat×Bool))(σ:LS)(d f':Nat)(xs:List X)(bks rks:List Nat)(res:AV)(bout:List (List AV))(upd:List (Option (List AV)))(new:List (Nat×List AV)):Option (LS×Act) :=
 match U0a (bks++rks)&&ncl rks upd (1000*d+1000) new.length&&nclB (1000*d+1000) new.length bks&&Nat.ble new.length 1000 with
 |true=>match gbx σ bks with
  |some bs=>match grw σ rks with
   |some rs=>match gtsF A σ xs with
    |some vs=>some (σ.afterM d bks rks res bout upd (ownR new),.w f' (mpL (ix bks) (ix rks) vs) (bs.map (mpL (ix bks) (ix rks))) rs)
    |none=>none
   |none=>none
  |none=>none
 |false=>none
section
variable{P:Program}{σ:LS}{s:St}{A:List (Nat×Bool)}
theorem LS.has.addRows:∀{rows:List Row}{a:LS}{s:St}{k:Nat},a.has s->(addRows a k rows).has (s.addrows k rows)
 |[],_,_,_,H=>H|r::rs,a,s,k,H=>LS.has.addRows (rows:=rs) ((H.kill k).row k r (by simp))
theorem LS.has.congr{s':St}(H:σ.has s)(c:s'.e=s.e)(a:s'.bx=s.bx)(d:s'.rw=s.rw):σ.has s' :=⟨λt v h=>by rw[c];exact H.e t v h,λt g w v h=>by rw[c];exact H.g t g w v h,λk cs h=>by rw[a];exact H.b k cs h,λk r h=>by rw[a,d];exact H.r k r h,λk h=>by rw[a];exact H.n k h⟩
theorem LS.has.kill2:∀{ks:List Nat}{a:LS}{s:St},a.has s->(a.kill2 ks).has (s.kill2 ks)
 |[],_,_,H=>H|k::ks,_,_,H=>LS.has.kill2 (ks:=ks) (H.kill k)
theorem M1T{k:Nat}:∀{ks:List Nat},inL k ks=true↔k∈ks
 |[]=>by simp[inL]|j::ks=>by
  simp[inL,List.mem_cons];split
  .simp_all
  .rename_i e;rw[M1T (ks:=ks)];constructor
   .exact .inr
   .rintro(rfl|h)
    .simp at e
    .exact h
theorem X2p(a:List Nat):∀{l:List (Nat×List AV)}{k:Nat}{cs:List AV},lk (blk a l) k=some cs->∃c0,lk l k=some c0/\cs=if k∈a then List.replicate c0.length .bad else c0
 |[],_,_,h=>by cases h| (j,c)::l,k,cs,h=>by
  simp[blk,lk]at h ⊢;split at h
  .rename_i e;have e:=yR e;subst e;cases h;refine⟨c,rfl,?_⟩;cases hb:inL k a with|true=>simp[M1T.1 hb]|false=>rw[ye λq=>by rw[M1T.2 q]at hb;cases hb]
  .exact X2p a h
theorem M20(a:List Nat):∀{l:List (Nat×List AV)}{k:Nat},lk (blk a l) k=none->lk l k=none
 |[],_,_=>rfl| (j,c)::l,k,h=>by
  simp[blk,lk]at h ⊢;split at h
  .cases h
  .exact M20 a h
theorem W2l(a:List Nat)(upd:List (Option (List AV))):∀{l:List (Nat×Row)}{k:Nat}{r:Row},lk (upr a upd l) k=some r->∃b,lk l k=some b/\r=(match upf a upd k with|some es=>{ b with es:=es }|none=>b)
 |[],_,_,h=>by cases h| (j,c)::l,k,r,h=>by
  simp[upr,lk]at h ⊢;split at h
  .simp_all
  .exact W2l a upd h
theorem LS.has.setRows(H:σ.has s)(a c:List Nat)(upd:List (Option (List AV))):({ σ with tb:=blk a σ.tb,tr:=upr c upd σ.tr }:LS).has { s with bx:=λj=>if j∈a then(s.bx j).map (λcs=>List.replicate cs.length .bad)else s.bx j,rw:=λj=>match upf c upd j with|some es=>(s.rw j).map (λr=>{ r with es:=es })|none=>s.rw j }:=by
 refine⟨H.e,H.g,λk cs h=>?_,λk r h=>?_,λk h=>?_⟩
 .obtain⟨c0,d,rfl⟩:=X2p a h;simp[H.b k c0 d,Option.map_some];split<;>rfl
 .obtain⟨f,d,rfl⟩:=W2l c upd h;obtain⟨l,i⟩:=H.r k f d;grind
 have:=H.n k (M20 a h);simp[this]
theorem LS.has.setB:∀{ks:List Nat}{bs:List (List AV)}{a:LS}{s:St},a.has s->(a.setB ks bs).has (Xf s ks bs)
 |[],bs,a,s,H=>H.congr rfl (by funext j;simp[Xf,bxf]) rfl|k::ks,[],a,s,H=>H.congr rfl (by funext j;simp[Xf,bxf]) rfl|k::ks,b::bs,a,s,H=>by refine((LS.has.setB (ks:=ks) (bs:=bs) H).box k b).congr rfl ?_ rfl;funext j;grind[Xf,bxf,e]
theorem L1x(H:σ.has s)(n1 d:Nat)(c a:List Nat)(e:AV)(b:List (List AV))(upd:List (Option (List AV)))(new:List Row):(σ.afterM d c a e b upd new).has (afterM s n1 d c a e b upd new):=by unfold LS.afterM Eng.afterM;refine LS.has.set (LS.has.setB (LS.has.addRows ?_)) d _;exact((H.kill2 (ks:=drops a upd)).setRows c a upd).congr rfl rfl rfl
theorem Y2d(H:σ.has s)(fb fr:Nat->Option Nat):∀{ks:List Nat}{bs:List (List AV)},gbx σ ks=some bs->UU s fb fr ks (bs.map (mpL fb fr))
 |[],bs,h=>by cases h;trivial|k::ks,bs,h=>by
  simp[gbx]at h;split at h
  .rename_i cs e;split at h
   .rename_i l a;cases h;exact⟨⟨cs,H.b k cs e,rfl⟩,Y2d H fb fr a⟩
   .cases h
  .cases h
theorem J2c(H:σ.has s):∀{ks:List Nat}{a:List (Nat×List AV)},grw σ ks=some a->W0Q s ks (ownR a)
 |[],a,h=>by cases h;trivial|k::ks,a,h=>by
  simp[grw]at h;split at h
  .rename_i r e;split at h
   .rename_i b;split at h
    .rename_i l c;cases h;refine⟨?_,rfl,J2c H c⟩;rw[(H.r k r e).1];simp[← b]
    .cases h
   .cases h
  .cases h
theorem Z2a:∀{ks:List Nat}{us:List (Option (List AV))}{b n:Nat},ncl ks us b n=true->J06 ks us b n
 |[],_,_,_,_=>by simp[J06]|_::_,[],_,_,_=>by simp[J06]|k::ks,some _::us,b,n,h=>by simp only[ncl,yD,Bool.or_eq_true]at h;refine⟨h.1.elim (λq=>.inl ?_) λq=>.inr (Nat.le_of_ble_eq_true q),Z2a h.2⟩;simp_all|_::ks,none::us,b,n,h=>Z2a (ks:=ks) (us:=us) h
theorem Y2a{b n:Nat}:∀{ks:List Nat},nclB b n ks=true->U0N b n ks
 |[],_=>λk c=>by cases c|k::ks,h=>by
  simp only[nclB,yD,Bool.or_eq_true]at h;intro j a;rcases yX a with rfl|a
  .refine h.1.elim (λq=>.inl ?_) λq=>.inr (Nat.le_of_ble_eq_true q);simpa[Nat.blt_eq]using q
  .exact Y2a h.2 j a
theorem X0N(l:List (Nat×List AV)):(ownR l).length=l.length:=by simp[ownR]
theorem U2E(H:σ.has s)(S:sat s A){d J f:Nat}{xs:List X}{i g:List Nat}{j:List (List AV)}{rin:List (Nat×List AV)}{k z:List AV}{m:AV}{c:List (List AV)}{upd:List (Option (List AV))}{new:List (Nat×List AV)}{l:LS}{a:Act}(e:cwx A σ d J xs i g m c upd new=some (l,a))(G:a=.w f k j rin)(n:GEs k z)(Q:∀b∈j,noOL b)(N:∀r∈rin,noOL r.2)(E:noOL k)(h:ConD P f z j rin m c upd new){K:St->Prop}(R:∀s',l.has s'->K s'):wop P (.cm d J xs) K s:=by
 unfold cwx at e;split at e
 .rename_i I;simp only[yD]at I;obtain⟨⟨⟨Z,Y⟩,W⟩,V⟩:=I;split at e
  .rename_i bs U;split at e
   .rename_i M T;split at e
    .rename_i vs v;cases e;simp[Act.w.injEq]at G;obtain⟨rfl,L,rfl,rfl⟩:=G;obtain⟨v,u⟩:=Z1U v;have F:=X0E H S v;simp only[wop];refine⟨i,g,_,ownR M,z,Lx Z,Y2d H _ _ U,J2c H T,⟨Q,λr t=>?_,λx hx=>?_⟩,?_,_,h s.nx,λn1 C y B D _ _ _ o=>?_⟩
     .obtain⟨p,O,rfl⟩:=yY t;exact N p O
     .rw[← L]at E;have q:=J0u E;rw[Q0i u,← F]at q;grind[Zd,List.mem_map_of_mem]
     .rw[← L,VN,← F,List.map_map]at n;exact n
     obtain⟨rfl,rfl,rfl,rfl⟩:=o;rw[X0N];exact⟨Nat.le_of_ble_eq_true V,Z2a Y,Y2a W,R _ (L1x H n1 d i g _ _ _ _)⟩
    cases e
   cases e
  cases e
 cases e
end
end
section
def X0C:List Nat->Prop
 |[]=>True|n::ns=>n<=9223372036854775807/\X0C ns
def hkey:LOp->Nat
 |.st _ _ _=>1000000|l=>l.dst
def LS.fzr(σ:LS)(k:Nat)(r:Row):LS:={ σ with tr:=(k,{ r with sh:=true })::er k σ.tr }
def M2E(σ:LS)(x:AV)(d sz:Nat)(es':List AV)(sy:Nat)(news:List AV)(bs:Nat):Option (LS×List Act×List Nat):=match x with
 |.sref k=>match lk σ.tr k with
  |some r=>match Nat.beq r.sz sz&&Nat.ble k 999999999&&Nat.beq sy sz with
   |true=>some (((σ.kill k).row k ⟨r.sz,es',r.sh⟩).set d (.sref k),[.l r.es,.l news,.n bs],[])
   |false=>none
  |none=>none
 |.nl=>match Nat.beq sy sz with
  |true=>some (((σ.kill d).row d ⟨sz,es',false⟩).set d (.sref d),[.l [],.l news,.n bs],[])
  |false=>none
 |_=>none
def L2E(σ:LS)(x:AV)(d sz:Nat):Option (LS×List Act×List Nat):=match x with
 |.sref k=>match lk σ.tr k with
  |some _=>some (σ.set d (.sref k),[],[])
  |none=>none
 |.nl=>some (((σ.kill d).row d ⟨sz,[],false⟩).set d (.sref d),[],[])
 |_=>none
def efx{P:Program}{q:Prop}(A:List (Nat×Bool))(σ:LS)(h:Option (Hint P q))(l:LOp):Option (LS×List Act×List Nat):=match l with
  |.ln d x=>match gt A σ x with
    |some (.sl _ _ es)=>match h with
      |some (.ln _ n _)=>some (σ.set d (.int .i64 n),[.l es],[n])
      |_=>none
    |some (.sref k)=>match lk σ.tr k with
      |some r=>match h with
        |some (.ln _ n _)=>some (σ.set d (.int .i64 n),[.l r.es],[n])
        |some (.le _ n _ _)=>some (σ.set d (.int .i64 n),[.l r.es],[])
        |_=>none
      |none=>none
    |some .nl=>match h with
      |none=>some (σ.set d (.int .i64 0),[],[])
      |_=>none
    |_=>none
  |.st p x n=>match gt A σ p with
    |some (.ptr k off)=>match lk σ.tb k with
      |some cs=>match gt A σ x with
        |some v=>match h with
          |none=>if v.cells.length=n/\off+n<=cs.length/\allOne v.cells=true then some (σ.box k (putC cs off v.cells),[],[])else none
          |_=>none
        |none=>none
      |none=>none
    |some (.rpt k i off)=>match lk σ.tr k with
      |some r=>match gt A σ x with
        |some v=>match h with
          |some (.sto _ _ e _ es' _ _)=>if r.sh=false/\v.cells.length=n/\off+n<=e.cells.length/\nosr v=true
            then some (σ.row k ⟨r.sz,es',r.sh⟩,[.l r.es,.n i,.a (if n=e.cells.length then v else .agg (putC e.cells off v.cells))],[])else none
          |_=>none
        |none=>none
      |none=>none
    |_=>none
  |.cn d f' xs=>match gts A σ xs with
    |some vs=>match vs.all nosr with
      |true=>match σ.dtL vs with
        |some ds=>match h with
          |some (.bn _ _ _ _ cs _ _ _)=>some (((σ.kill d).box d (U7 d cs)).set d (.ptr d 0),[.n f',.l vs,.l ds],[])
          |_=>none
        |none=>none
      |false=>none
    |none=>none
  |.al d z=>match h with
    |none=>some (((σ.kill d).box d (U7 d z)).set d (.ptr d 0),[],[])
    |_=>none
  |.bx d x=>match gt A σ x with
    |some v=>match h with
      |none=>match allOne v.cells with
        |true=>some (((σ.kill d).box d (U7 d v.cells)).set d (.ptr d 0),[],[])
        |false=>none
      |_=>none
    |none=>none
  |.bs d sz ps own=>match gts A σ ps with
    |some es=>match h with
      |none=>if es.all nosr=true/\(es.all λe=>Nat.beq e.cells.length sz)=true/\es.length*sz<=1000000/\es.length<=1000000
        then match own with
          |true=>some (((σ.kill d).row d ⟨sz,es,false⟩).set d (.sref d),[],[])
          |false=>some (σ.set d (.sl .nw sz es),[],[])
        else none
      |_=>none
    |none=>none
  |.ms d sz by' z l=>match gt A σ l with
    |some (.int _ n)=>match h with
      |some (.ms _ _ _ es _)=>some (((σ.kill d).row d ⟨sz,es,false⟩).set d (.sref d),[.n by',.i n,.a (if sz=1 then z.getD 0 .bad else .agg z)],[])
      |_=>none
    |_=>none
  |.ap d x y sz by'=>match gt A σ y with
    |some vy=>match gt A σ x with
      |some vx=>match h with
        |some (.ap _ _ _ es' _)=>match σ.dc vy with
          |some (.sl _ sy news)=>M2E σ vx d sz es' sy news by'
          |_=>none
        |none=>match vy with
          |.nl=>L2E σ vx d sz
          |_=>none
        |_=>none
      |none=>none
    |none=>none
  |.ab d x y=>match gt A σ y with
    |some (.str l)=>match gt A σ x with
      |some (.sref k)=>match h with
        |some (.ap _ _ _ es' _)=>M2E σ (.sref k) d 1 es' 1 (l.map λb=>AV.int .u8 b.toNat) 1
        |_=>none
      |_=>none
    |_=>none
  |.sc d x lo hi n=>match gt A σ x with
    |some (.sref k)=>match lk σ.tr k with
      |some r=>match gto A σ lo with
        |some lo=>match gto A σ hi with
          |some hi=>match h with
            |some (.sc _ _ _ es' _)=>match Nat.beq r.sz n with
              |true=>some ((σ.fzr k r).set d (.sl .nw r.sz es'),[.l r.es,.o lo,.o hi],[])
              |false=>none
            |_=>none
          |none=>none
        |none=>none
      |none=>none
    |_=>match pvh A σ h (.sc d x lo hi n)with
      |some (v,as)=>some (σ.set d v,as,[])
      |none=>none
  |.cl d f' xs=>match gts A σ xs with
    |some vs=>match σ.dtL vs with
      |some ds=>match h with
        |some (.call _ as _ res rows _ _)=>match Nat.ble rows.length 1000 with
          |true=>some ((addRows σ (1000*d+1000) rows).set d (res.ren (1000*d+1000) rows.length),[.n f',.l (mrgL ds as)],[])
          |false=>none
        |_=>none
      |none=>none
    |none=>none
  |.cm d f' xs=>match h with
   |some (.cw _ bks rks _ _ _ _ res bout upd new _ _ _ _ _)=>match cwx A σ d f' xs bks rks res bout upd new with
     |some (σ1,a)=>some (σ1,[a],[])
     |none=>none
   |_=>match xs with
    |x::ys=>match gt A σ x with
      |some (.sref k)=>match lk σ.tr k with
        |some r=>match r.sh with
          |false=>match gtsF A σ ys with
            |some vs=>match h with
              |some (.cr _ _ _ _ _ ret es' _ _ _ _)=>some ((match ret with
                  |true=>(((σ.kill k).kill (1000*d+1000)).row (1000*d+1000) ⟨r.sz,es',false⟩).set d (.sref (1000*d+1000))
                  |false=>(σ.row k ⟨r.sz,es',false⟩).set d (.tup [])),[.n f',.n r.sz,.l r.es,.l (mpL (ix []) (ix [k]) vs)],[])
              |_=>none
            |none=>none
          |true=>none
        |none=>none
      |_=>none
    |[]=>none
  |.fb t=>match rdv A σ t with
    |some (.ptr k 0)=>match lk σ.tb k with
      |some cs=>match h with
        |none=>match nosr (.agg cs)with
          |true=>some ((σ.kill k).set t (.ept (.agg cs) 0),[],[])
          |false=>none
        |_=>none
      |none=>none
    |some (.ept _ _)=>match h with
      |none=>some (σ,[],[])
      |_=>none
    |_=>none
  |.fz t=>match rdv A σ t with
    |some (.sref k)=>match lk σ.tr k with
      |some r=>match h with
        |none=>some ((σ.fzr k r).set t (.sl .nw r.sz r.es),[],[])
        |_=>none
      |none=>none
    |some (.sl _ _ _)=>match h with
      |none=>some (σ,[],[])
      |_=>none
    |_=>none
  |l=>match pvh A σ h l with
    |some (v,as)=>some (σ.set l.dst v,as,[])
    |none=>none
section
variable{P:Program}{σ:LS}{s:St}{A:List (Nat×Bool)}
theorem LS.has.fzr(H:σ.has s){k:Nat}{r:Row}(a:lk σ.tr k=some r):(σ.fzr k r).has { s with rw:=λj=>if j=k then some { r with sh:=true } else s.rw j }:=by
 refine⟨H.e,H.g,H.b,λj r' h=>?_,H.n⟩;rcases Z0v h with⟨rfl,rfl⟩|h
 .exact⟨by simp,(H.r _ _ a).2⟩
 obtain⟨h1,h2⟩:=L1d h;simp[h1,H.r j r' h2]
theorem LS.has.self(H:σ.has s){d:Nat}{v:AV}(h:s.e d=v):(σ.set d v).has s:=by have q:=H.set d v;rwa [show s.set d v=s by rw[← h,Q1W]]at q
theorem J24(n1 d k:Nat)(r:Row):(afterM s n1 d [] [k] (.sref 1) [] [none] [r]).e=(St.set { (s.kill k).kill (1000*d+1000)with rw:=λj=>if j=1000*d+1000 then some r else((s.kill k).kill (1000*d+1000)).rw j } d (.sref (1000*d+1000))).e /\ (afterM s n1 d [] [k] (.sref 1) [] [none] [r]).bx=((s.kill k).kill (1000*d+1000)).bx/\(afterM s n1 d [] [k] (.sref 1) [] [none] [r]).rw=(λj=>if j=1000*d+1000 then some r else((s.kill k).kill (1000*d+1000)).rw j):=by simp[St.set,St.kill]
theorem U2o{q:Prop}(D:q)(H:σ.has s)(w:sat s A){l:LOp}{h:Option (Hint P q)}{U:LS}{as:List Act}{ns:List Nat}(e:efx A σ h l=some (U,as,ns))(g:as=hexp h){K:St->Prop}(B:X0C ns->∀s',U.has s'->K s'):wop P l K s:=by
 have gen:∀{l:LOp},(match pvh A σ h l with|some (v,as)=>some (σ.set l.dst v,as,[])|none=>none)=some (U,as,ns)->wop P l K s:=by
  intro l e;split at e
  .rename_i v J e2;cases e;exact Z1M D H w e2 g (B trivial _ (H.set _ _))
  cases e
 cases l with
 |ln d x =>
  simp only[efx]at e;split at e
  .rename_i t sz es m;split at e
   .rename_i G n E;have E:=E D;cases e;simp only[hexp,Hint.exp,yW,Act.l.injEq,and_true]at g;subst g;simp only[wop];rw[L7 H w m];exact λq=>B ⟨by omega,trivial⟩ _ (by rw[E];exact H.set _ _)
   cases e
  .rename_i k m;split at e
   .rename_i r C;split at e
    .rename_i G n E;have E:=E D;cases e;simp only[hexp,Hint.exp,yW,Act.l.injEq,and_true]at g;subst g;simp only[wop];rw[L7 H w m];simp only[(H.r _ _ C).1];exact λq=>B ⟨by omega,trivial⟩ _ (by rw[E];exact H.set _ _)
    .rename_i G n E hn2;have E:=E D;cases e;simp only[hexp,Hint.exp,yW,Act.l.injEq,and_true]at g;subst g;simp only[wop];rw[L7 H w m];simp only[(H.r _ _ C).1];exact λq=>B trivial _ (by rw[E];exact H.set _ _)
    cases e
   cases e
  .rename_i m;split at e
   .cases e;simp only[wop];rw[L7 H w m];exact B trivial _ (H.set _ _)
   cases e
  cases e
 |st p x n =>
  simp only[efx]at e;split at e
  .rename_i k off ep;split at e
   .rename_i cs eb;split at e
    .rename_i v m;split at e
     .split at e
      .rename_i u;cases e;simp only[wop];rw[L7 H w ep];simp only[H.b _ _ eb];rw[L7 H w m];exact⟨u.1,u.2.1,u.2.2,B trivial _ (H.box _ _)⟩
      cases e
     cases e
    cases e
   cases e
  .rename_i k i off ep;split at e
   .rename_i r C;split at e
    .rename_i v m;split at e
     .rename_i G j e0 ne I h1 h2;have h1:=h1 D;have h2:=h2 D;split at e
      .rename_i u;cases e;simp only[hexp,Hint.exp,yW,Act.l.injEq,Act.n.injEq,Act.a.injEq,and_true]at g;obtain⟨rfl,rfl,g⟩:=g;simp only[wop];rw[L7 H w ep];simp only[(H.r _ _ C).1];rw[L7 H w m,h1,Q1C u.2.2.2];refine⟨u.1,u.2.1,u.2.2.1,u.2.2.2,?_⟩;rw[g,h2];exact B trivial _ (H.row _ _ (H.r _ _ C).2)
      cases e
     cases e
    cases e
   cases e
  cases e
 |cn d f' xs =>
  simp only[efx]at e;split at e
  .rename_i vs T;split at e
   .rename_i E;split at e
    .rename_i ds ed;split at e
     .rename_i f0 F as1 J cs W N f;have W:=W D;have f:=f D;have N:=N D;cases e;simp only[hexp,Hint.exp,yW,Act.n.injEq,Act.l.injEq,and_true]at g;obtain⟨rfl,rfl,rfl⟩:=g;have X:=X0E H w T;refine⟨_,(V1J H w T ed).trans (by rw[N]),by rw[X];exact E,λx hx=>Zd.1 W _ (by rw[← X];exact List.mem_map_of_mem hx),_,f,λc ec=>?_⟩;subst ec;exact B trivial _ (((H.kill d).box d _).set d _)
     cases e
    cases e
   cases e
  cases e
 |al d z =>
  simp only[efx]at e;split at e
  .cases e;exact B trivial _ (((H.kill d).box d _).set d _)
  cases e
 |bx d x =>
  simp only[efx]at e;split at e
  .rename_i v m;split at e
   .split at e
    .rename_i u;cases e;simp only[wop];rw[L7 H w m];exact⟨u,B trivial _ (((H.kill d).box d _).set d _)⟩
    cases e
   cases e
  cases e
 |bs d sz ps own =>
  simp only[efx]at e;split at e
  .rename_i es m;split at e
   .split at e
    .rename_i u;have q:=X0E H w m;simp only[wop];rw[q,U1C u.1];refine⟨u.1,λe g=>yR (List.all_eq_true.1 u.2.1 e g),u.2.2.1,u.2.2.2,?_⟩;split at e
     .cases e;rw[yd rfl];exact B trivial _ (((H.kill d).row d _ (by simp)).set d _)
     cases e;rw[ye (by simp)];exact B trivial _ (H.set d _)
    cases e
   cases e
  cases e
 |ms d sz by' z x =>
  simp only[efx]at e;split at e
  .rename_i k n m;split at e
   .rename_i b0 n0 z0 es f;have f:=f D;cases e;simp only[hexp,Hint.exp,yW,Act.n.injEq,Act.i.injEq,Act.a.injEq,and_true]at g;obtain⟨rfl,rfl,g⟩:=g;unfold mkL at f;split at f
    .rename_i u;cases f;simp only[wop];rw[L7 H w m];refine⟨u.1,u.2.1,u.2.2,?_⟩;rw[g];exact B trivial _ (((H.kill d).row d _ (by simp)).set d _)
    cases f
   cases e
  cases e
 |ab d x y =>
  simp only[efx]at e;split at e
  .rename_i l ey;split at e
   .rename_i k m;split at e
    .rename_i G V bs0 I f;have f:=f D;simp only[wop];rw[L7 H w ey,L7 H w m];simp only;simp only[M2E]at e;split at e
     .rename_i r C;split at e
      .rename_i u;simp only[yD]at u;obtain⟨⟨Y,c2⟩,Z⟩:=u;have Y:=yR Y;have c2:=Nat.le_of_ble_eq_true c2;cases e;simp only[hexp,Hint.exp,yW,Act.l.injEq,Act.n.injEq,and_true]at g;obtain⟨rfl,rfl,rfl⟩:=g;unfold appL at f;split at f
       .rename_i O;cases f;simp only[(H.r _ _ C).1];exact⟨Y,by omega,by simpa using O,B trivial _ (((H.kill k).row k _ (by simp)).set d _)⟩
       cases f
      cases e
     cases e
    cases e
   cases e
  cases e
 |ap d x y sz by' =>
  simp only[efx]at e;split at e
  .rename_i vy ey;split at e
   .rename_i vx m;split at e
    .rename_i G V bs0 I f;have f:=f D;split at e
     .rename_i t sy news ed;have hd:=M2k H ed;simp only[wop];rw[L7 H w ey,hd];simp only;rw[L7 H w m];unfold M2E at e;split at e
      .rename_i k;split at e
       .rename_i r C;split at e
        .rename_i u;simp only[yD]at u;obtain⟨⟨Y,c2⟩,Z⟩:=u;have Y:=yR Y;have c2:=Nat.le_of_ble_eq_true c2;have Z:=yR Z;cases e;simp only[hexp,Hint.exp,yW,Act.l.injEq,Act.n.injEq,and_true]at g;obtain⟨rfl,rfl,rfl⟩:=g;unfold appL at f;split at f
         .rename_i O;cases f;simp only[(H.r _ _ C).1];exact⟨Y,by omega,.inr Z,O,B trivial _ (((H.kill k).row k _ (by simp)).set d _)⟩
         cases f
        cases e
       cases e
      .split at e
       .rename_i u;have Z:=yR u;cases e;simp only[hexp,Hint.exp,yW,Act.l.injEq,Act.n.injEq,and_true]at g;obtain⟨rfl,rfl,rfl⟩:=g;unfold appL at f;split at f
        .rename_i O;cases f;exact⟨.inr Z,by simpa using O,B trivial _ (((H.kill d).row d _ (by simp)).set d _)⟩
        cases f
       cases e
      cases e
     cases e
    .split at e
     .simp only[wop];rw[L7 H w ey];simp only[St.dt];rw[L7 H w m];unfold L2E at e;split at e
      .split at e
       .rename_i r C;cases e;simp only[(H.r _ _ C).1];exact B trivial _ (H.set d _)
       cases e
      .cases e;exact B trivial _ (((H.kill d).row d _ (by simp)).set d _)
      cases e
     cases e
    cases e
   cases e
  cases e
 |sc d x lo hi n =>
  simp only[efx]at e;split at e
  .rename_i k m;split at e
   .rename_i r C;split at e
    .rename_i lo' elo;split at e
     .rename_i hi' ehi;split at e
      .rename_i G lo0 hi0 I f;have f:=f D;split at e
       .rename_i hs;have hs:=yR hs;cases e;simp only[hexp,Hint.exp,yW,Act.l.injEq,Act.o.injEq,and_true]at g;obtain⟨rfl,rfl,rfl⟩:=g;obtain⟨b,a,q1,q2,q3⟩:=Q1a f;simp only[wop];rw[L7 H w m];simp only[(H.r _ _ C).1,(Z1y H w ehi).1,(Z1y H w elo).2,q1,q2,q3];exact⟨hs,B trivial _ ((H.fzr C).set d _)⟩
       cases e
      cases e
     cases e
    cases e
   cases e
  exact gen (l:=.sc d x lo hi n) (by simpa only[LOp.dst]using e)
 |cl d f' xs =>
  simp only[efx]at e;split at e
  .rename_i vs T;split at e
   .rename_i ds ed;split at e
    .rename_i f0 F J M rows Q f;have f:=f D;split at e
     .rename_i N;cases e;simp only[hexp,Hint.exp,yW,Act.n.injEq,Act.l.injEq,and_true]at g;obtain⟨rfl,g⟩:=g;exact⟨_,V1J H w T ed,M,rows,f.aes Q g,Nat.le_of_ble_eq_true N,B trivial _ (H.addRows.set d _)⟩
     cases e
    cases e
   cases e
  cases e
 |cm d f' xs =>
  have alt:∀{bks rks:List Nat} {S:List (List AV)} {rin:List (Nat×List AV)} {F J:List AV} {M:AV} {L:List (List AV)} {upd:List (Option (List AV))} {new:List (Nat×List AV)} {f0:Nat} {Q:GEs F J} {hb:∀b∈S,noOL b} {N:∀r∈rin,noOL r.2} {W:noOL F} {f:q->ConD P f0 J S rin M L upd new}, h=some (.cw f0 bks rks S rin F J M L upd new Q hb N W f)->wop P (.cm d f' xs) K s:=by
   intro bks rks S rin F J M L upd new f0 Q hb N W f eh;subst eh;simp only[efx]at e;split at e
   .rename_i σ2 a ec;cases e;simp only[hexp,Hint.exp,yW,and_true]at g;exact U2E H w ec g Q hb N W (f D) λs' hs'=>B trivial s' hs'
   cases e
  cases xs with
  |nil =>
   simp only[efx]at e;split at e
   .exact alt rfl
   cases e
  |cons x ys =>
   simp only[efx]at e;split at e
   .exact alt rfl
   split at e
   .rename_i k m;split at e
    .rename_i r C;split at e
     .rename_i hsh;split at e
      .rename_i vs T;split at e
       .rename_i f0 sz0 G vs0 F ret I E hv N f _;have E:=E D;have hv:=hv D;have N:=N D;have f:=f D;cases e;simp only[hexp,Hint.exp,yW,Act.n.injEq,Act.l.injEq,and_true]at g;obtain⟨rfl,rfl,rfl,hvs⟩:=g;obtain⟨T,hod⟩:=Z1U T;have X:=X0E H w T;have hx:=L7 H w m;refine do_cm [] [k] f rfl trivial ⟨by rw[(H.r _ _ C).1];simp only[← hsh],rfl,trivial⟩ ?_ ?_ (by simp) ?_ ?_
        .have e1:(ys.map λx=>((s.get x).mp (ix []) (ix [k])).rdt)=F:=by rw[← N,← hvs,U5,VN,← X,List.map_map,List.map_map];rfl
         rw[List.map_cons,e1,hx];have e2:((AV.sref k).mp (ix []) (ix [k])).rdt=.sref 0:=by simp[AV.mp,ix,AV.rdt]
         rw[e2];exact⟨(L1V _).2 trivial,M1a (λa=>(L1V a).2 trivial) _⟩
        .intro n1 M L upd new hb hu R;obtain⟨rfl,R⟩:=R;cases ret with
         |true =>obtain⟨rfl,rfl,rfl⟩:=R;refine⟨by simp,by simp,by simp,B trivial _ ?_⟩;obtain⟨a1,a2,a3⟩:=J24 (s:=s) n1 d k ⟨r.sz,I,false⟩;exact((((H.kill k).kill (1000*d+1000)).row (1000*d+1000) ⟨r.sz,I,false⟩ (by simp)).set d _).congr a1 a2 a3|false =>
          obtain⟨rfl,rfl,rfl⟩:=R;refine⟨by simp,by simp;omega,by simp,B trivial _ ?_⟩;refine((H.row k ⟨r.sz,I,false⟩ (H.r _ _ C).2).set d (.tup [])).congr ?_ ?_ ?_
          .funext t;simp[St.set,upd]
          .funext t;simp[St.set]
          funext t;simp only[afterM,setRows,Xf,St.addrows,drops,St.kill2,upf,St.set];by_cases ht:t=k
          .subst ht;simp[(H.r _ _ C).1,hsh]
          simp[ht]
        .intro r' hr';rw[List.mem_singleton.1 hr'];exact E
        intro y hy;rcases yX hy with rfl|hy
        .rw[hx];trivial
        have:noOL (mpL (ix []) (ix [k]) vs):=by rw[hvs];exact hv
        rw[← X]at this;have q:=J0u this;rw[X,Q0i hod,← X]at q;exact Zd.1 q _ (List.mem_map_of_mem hy)
       cases e
      cases e
     cases e
    cases e
   cases e
 |fb t =>
  simp only[efx]at e;split at e
  .rename_i k m;split at e
   .rename_i cs eb;split at e
    .split at e
     .rename_i u;cases e;simp only[wop];rw[Y0N H w m];simp only[H.b _ _ eb];exact⟨u,B trivial _ ((H.kill k).set t _)⟩
     cases e
    cases e
   cases e
  .rename_i m;split at e
   .cases e;simp only[wop];rw[Y0N H w m];exact B trivial _ H
   cases e
  cases e
 |fz t =>
  simp only[efx]at e;split at e
  .rename_i k m;split at e
   .rename_i r C;split at e
    .cases e;simp only[wop];rw[Y0N H w m];simp only[(H.r _ _ C).1];exact B trivial _ ((H.fzr C).set t _)
    cases e
   cases e
  .rename_i m;split at e
   .cases e;simp only[wop];rw[Y0N H w m];exact B trivial _ H
   cases e
  cases e
 |_=>exact gen e
end
def fin{P:Program}{q:Prop}(σ:LS)(l:LOp)(h:Option (Hint P q))(r:Option (Rw q)):Option (LS×List Act×List Act×List Nat):=match efx [] σ h l with
 |some (σ1,as,ns)=>match r with
  |none=>some (σ1,as,[],ns)
  |some q=>match lk σ1.te l.dst with
   |some v=>some (σ1.set l.dst q.b,as,[.a v],ns)
   |none=>none
 |none=>none
def gvs(A:List (Nat×Bool))(σ:LS):List (Nat×Bool)->Option (List (Bool×Bool))
 |[]=>some []| (t,w)::r=>match rdv A σ t with
   |some (.bool b)=>match gvs A σ r with
     |some l=>some ((b,w)::l)
     |none=>none
   |_=>none
def pvg{P:Program}{q:Prop}(t:Nat)(w:Bool)(A:List (Nat×Bool))(σ:LS)(l:LOp)(h:Option (Hint P q))(r:Option (Rw q)):Option (LS×List (Bool×Bool)×List Act×List Act×List Nat):=match Nat.beq t l.dst with
 |true=>none
 |false=>match gvs A σ A with
  |some gs=>match pvh A σ h l with
   |some (v,as)=>match r with
    |none=>some (σ.setc l.dst t w v,gs,as,[],[])
    |some q=>some (σ.setc l.dst t w q.b,gs,as,[.a v],[])
   |none=>none
  |none=>none
def one{P:Program}{q:Prop}(σ:LS)(l:LOp)(h:Option (Hint P q))(r:Option (Rw q)):Option (LS×List (Bool×Bool)×List Act×List Act×List Nat):=match l with
 |.g t w l'=>match rdv [] σ t with
  |some (.bool _)=>pvg t w (clo σ.tg 9 t w) σ l' h r
  |some _=>none
  |none=>match fndg t σ.tg with
   |some (_,_,.bool _)=>pvg t w (clo σ.tg 9 t w) σ l' h r
   |_=>none
 |l=>match fin σ l h r with
  |some (σ1,as,rs,ns)=>some (σ1,[],as,rs,ns)
  |none=>none
section
variable{P:Program}{σ:LS}{s:St}{A:List (Nat×Bool)}
theorem Q06:sat s []:=λp a=>by cases a
theorem L2D{q:Prop}(c:q)(H:σ.has s){l:LOp}{h:Option (Hint P q)}{r:Option (Rw q)}{b:LS}{m d:List Act}{f:List Nat}(e:fin σ l h r=some (b,m,d,f))(i:m=hexp h)(g:d=Rw.exp r){K:St->Prop}(j:X0C f->∀s',b.has s'->K s'):wop P l K s:=by
 unfold fin at e;split at e
 .rename_i o w t k;split at e
  .cases e;exact U2o c H Q06 k i j
  rename_i q;split at e
  .rename_i v u;cases e;simp[Rw.exp,Act.a.injEq,and_true]at g;refine U2o c H Q06 k i λp s' n=>j p s' (n.self ?_);rw[n.e _ _ u,g,q.h c]
  cases e
 cases e
theorem L1Z(H:σ.has s)(a:sat s A):∀{B:List (Nat×Bool)}{gs:List (Bool×Bool)},sat s B->gvs A σ B=some gs->allG gs
 |[],gs,_,h=>by cases h;trivial| (t,w)::B,gs,hB,h=>by
  simp[gvs]at h;split at h
  .rename_i b e;split at h
   .rename_i l f;cases h;refine⟨?_,L1Z H a (λp d=>hB p (yH _ d)) f⟩;have c:=Y0N H a e;rw[hB (t,w) (yJ ..)]at c;exact(AV.bool.inj c).symm
   .cases h
  .cases h
theorem O2m{q:Prop}{t:Nat}{w:Bool}{l:LOp}{gs:List (Bool×Bool)}(z:allG gs->q){h:Option (Hint P q)}{r:Option (Rw q)}{i:LS}{C p:List Act}{x:List Nat}(H:σ.has s)(c:(∃b,s.e t=.bool b)\/s.e t=.und)(e:pvg t w (clo σ.tg 9 t w) σ l h r=some (i,gs,C,p,x))(A:C=hexp h)(y:p=Rw.exp r){K:St->Prop}(f:X0C x->∀s',i.has s'->K s'):wop P (.g t w l) K s:=by
 unfold pvg at e;split at e
 .cases e
 rename_i d;have d:t≠l.dst:=λq=>by simp_all
 split at e
 .rename_i n B;split at e
  .rename_i v o F;have j:s.e t=.bool w->n=gs->o=hexp h->∀K:St->Prop,K (s.set l.dst v)->wop P l K s:=λc m E K D =>Z1M (z (m ▸ L1Z H (V0x H c) (V0x H c) B)) H (V0x H c) F E D;have G:s.e t≠.bool w->(∀u,(σ.setc l.dst t w u).has (s.set l.dst .und)):=λc u=>H.setc _ _ _ _ _ d (by grind);split at e
   .cases e;rcases c with⟨b,c⟩|c
    .simp[wop,c];by_cases k:b=w
     .subst k;rw[yd rfl];exact j c rfl A _ (f trivial _ (H.setc _ _ _ _ _ d (by grind)))
     rw[ye k];exact f trivial _ (by simp_all)
    simp[wop,c];exact f trivial _ (by grind)
   rename_i q;cases e;simp[Rw.exp,Act.a.injEq,and_true]at y;rcases c with⟨b,c⟩|c
   .simp[wop,c];by_cases k:b=w
    .subst k;rw[yd rfl];refine j c rfl A _ (f trivial _ (H.setc _ _ _ _ _ d (.inl ⟨c,?_⟩)));rw[y];exact q.h (z (L1Z H (V0x H c) (V0x H c) B))
    rw[ye k];exact f trivial _ (by simp_all)
   simp[wop,c];exact f trivial _ (by grind)
  cases e
 cases e
theorem J1w{q:Prop}{gs:List (Bool×Bool)}(j:allG gs->q)(H:σ.has s){l:LOp}{h:Option (Hint P q)}{r:Option (Rw q)}{a:LS}{f c:List Act}{d:List Nat}(e:one σ l h r=some (a,gs,f,c,d))(k:f=hexp h)(i:c=Rw.exp r){K:St->Prop}(m:X0C d->∀s',a.has s'->K s'):wop P l K s:=by
 have gen:∀{l:LOp},(match fin σ l h r with|some (a,f,c,d)=>some (a,([]:List (Bool×Bool)),f,c,d)|none=>none)=some (a,gs,f,c,d)->wop P l K s:=by
  intro l e;split at e
  .rename_i σ2 as2 rs2 ns2 e2;cases e;exact L2D (j trivial) H e2 k i m
  cases e
 cases l with
 |g t w l' =>
  simp[one]at e;split at e
  .rename_i b eb;exact O2m j H (.inl ⟨b,Y0N H Q06 eb⟩) e k i m
  .cases e
  split at e
  .rename_i g' w' b' o;refine O2m j H ?_ e k i m;rcases H.g _ _ _ _ (J0j o)with⟨_,n⟩|⟨_,n⟩
   .grind
   exact .inr n
  cases e
 |_=>exact gen e
end
abbrev HA:=List (Bool×Bool)×List Act×List Act
def HE.exp{P:Program}(e:HE P):HA:=(e.gs,hexp e.h,Rw.exp e.r)
def HE.ns{P:Program}(e:HE P):List Nat:=match e.h with
 |some (.ln _ n _)=>match e.gs with
  |[]=>[n]
  |_=>[]
 |_=>[]
def run{P:Program}:List LOp->List (HE P)->LS->Option (LS×List (HE P)×List HA×List Nat)
 |[],hs,σ=>some (σ,hs,[],[])|l::ls,hs,σ =>
  let no:=λ(_:Unit)=>match one (P:=P) (q:=True) σ l none none with
   |some (σ1,_,[],[],[])=>run ls hs σ1
   |_=>none
  match hs with
  |[]=>no ()|e::r=>match Nat.beq e.k (hkey l)with
   |true=>match one σ l e.h e.r with
    |some (σ1,gs,as,rs,ns)=>match run ls r σ1 with
     |some (σ2,r',ass,ns2)=>some (σ2,r',(gs,as,rs)::ass,ns++ns2)
     |none=>none
    |none=>none
   |false=>no ()
theorem LV:∀{a b:List Nat},X0C a->X0C b->X0C (a++b)
 |[],_,_,h=>h|_::_,_,h,h2=>⟨h.1,LV h.2 h2⟩
theorem W1w{P:Program}:∀{h:List LOp}{d b:List (HE P)}{f a:LS}{i:List HA}{g:List Nat}{s:St},f.has s->run h d f=some (a,b,i,g)->∀{c:List HA},i++c=d.map HE.exp -> ∀{K:St->Prop},(c=b.map HE.exp->X0C g->∀s',a.has s'->K s')->wops P h K s
 |[],d,b,f,a,i,g,s,H,e,c,he,K,hK=>by simp only[run]at e;cases e;exact hK he trivial s H|l::h,d,b,f,a,i,g,s,H,e,c,he,K,hK=>by
  have n:(match one (P:=P) (q:=True) f l none none with|some (a,_,[],[],[])=>run h d a|_=>none)=some (a,b,i,g)->wops P (l::h) K s:=by
   intro e;split at e
   .rename_i j gs k;exact J1w (λ_=>trivial) H k rfl rfl λ_ s' m=>W1w m e he hK
   .cases e
  cases d with
  |nil=>exact n e|cons q r =>
   simp[run]at e;split at e
   .split at e
    .rename_i j E c D w k;split at e
     .rename_i o r' C v B;cases e;simp[List.map_cons,List.cons_append,HE.exp,Prod.mk.injEq]at he;obtain⟨⟨A,z,y⟩,x⟩:=he;exact J1w (λq=>A ▸ q) H k z y λu s' m=>W1w m B x λp t=>hK p (LV u t)
     .cases e
    .cases e
   .exact n e
end
end Go.Proofs.YtehomnafaoplgaaGreat.Eng
