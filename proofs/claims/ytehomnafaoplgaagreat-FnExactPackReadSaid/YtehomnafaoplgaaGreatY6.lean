/-
  Lemmas, part 6.
-/
import Derived.Test.YtehomnafaoplgaaGreatY5
import Derived.Scope
import Derived.Deep.Slices
import Derived.ProofKit
namespace Go.Proofs.YtehomnafaoplgaaGreat.Eng
open Go Go.RowKit
section
inductive L
 |skip
 |reg (ls:List LOp)
 |rq (m:Nat) (ls:List LOp)
 |rz (als:List ZA) (items:List ZI) (tl:List LOp)
 |ro (ow:List Nat) (als:List ZA) (items:List ZI) (tl:List LOp)
 |seq (x y:L)
 |cond (c:X) (x y:L)
 |blk (id:Nat) (x:L)
 |loop (x:L)
 |exit (id:Nat)
 |ret
 |scope (x:L)
 |gw (x:L)
inductive Ex|nrm|ext(id:Nat)|ret
def Ex.to:Ex->Exit
 |.nrm=>.normal|.ext id=>.exit id|.ret=>.ret
def den(P:Program):L->(Ex->St->Prop)->St->Prop
 |.skip,K,s=>K .nrm s|.reg ls,K,s=>wops P ls (K .nrm) s|.rq m ls,K,s=>Q0q P (ls.take m) [] (λs'=>wops P (ls.drop m) (K .nrm) s') (s.kills (alKeys (ls.take m)))|.ro ow als items tl,K,s=>ZK P (zcOf (items.map Prod.snd)) ow (items.map Prod.snd) (λs'=>(∀d∈ow,s'.e d=.ptr d 0)/\wops P tl (K .nrm) (alZ s' als)) (s.kills (als.map (·.2.1)))|.rz als items tl,K,s=>ZK P (zcOf (items.map Prod.snd)) [] (items.map Prod.snd) (λs'=>wops P tl (K .nrm) (alZ s' als)) (s.kills (als.map (·.2.1)))|.seq x y,K,s=>den P x (λe s'=>match e with | .nrm=>den P y K s'|e=>K e s') s
 |.cond c x y,K,s=>match s.get c with
  |.bool t=>(t=true->den P x K s)/\(t=false->den P y K s)
  |_=>False
 |.blk id x,K,s=>den P x (λe s'=>match e with | .ext id'=>if id'=id then K .nrm s' else K (.ext id') s'|e=>K e s') s
 |.loop x,K,s=>∃(I:Nat->St->Prop) (n:Nat),I n s/\∀m s',I m s'->den P x (λe s''=>match e with | .nrm=>∃m',m'<m/\I m' s''|e=>K e s'') s'
 |.exit id,K,s=>K (.ext id) s|.ret,K,s=>K .ret s|.scope x,K,s=>den P x K s|.gw x,K,s=>∃G:GW,G.ok=true/\nooT s G.te/\nooB s G.tb/\den P x K (s.gw G)
def chkC(P:Program)(nt:Nat):L->Code->Bool
 |.gw x,c=>chkC P nt x c|.skip,.skip=>true|.reg ls,.region _ ops false=>chkL P nt ops ls ops.toList|.rq m ls,.region _ ops true=>P.follows .mixedOrders&&chkQ P nt ops ls m|.rz als items tl,.region _ ops true=>P.follows .mixedOrders&&chkZ P nt ops [] als items tl|.ro ow als items tl,.region _ ops true=>P.follows .mixedOrders&&chkZ P nt ops ow als items tl|.seq x y,.seq a b=>chkC P nt x a&&chkC P nt y b|.cond c x y,.cond p a b=>chkX c p&&chkC P nt x a&&chkC P nt y b|.blk id x,.block id' a=>id==id'&&chkC P nt x a|.loop x,.loop a=>chkC P nt x a|.exit id,.exit id'=>id==id'|.ret,.ret=>true|.scope x,.scope a=>chkC P nt x a|_,_=>false
section
variable{P:Program}{c:Cx}
theorem least{p:Nat->Prop}:∀n,p n->∃m,p m/\∀k,p k->m<=k:=by
 intro n;induction n using Nat.strongRecOn with
 |_ n b =>
  intro d;by_cases h:∃k,k<n/\p k
  .obtain⟨k,a,c⟩:=h;exact b k a c
  exact⟨n,d,λk a=>Classical.byContradiction λe=>h ⟨k,by omega,a⟩⟩
theorem Y21{b:Code}{Q:Exit->Act->World->Prop}(J:Nat->Act->World->Prop)(c:∀m a w,J m a w->b.wp P (Exit.then (λj w'=>∃d,d<m/\J d j w') Q) a w){n:Nat}{a:Act}{w:World}(h:J n a w):(Code.loop b).wp P Q a w:=by
 classical
 have l:∀a w,(∃m,J m a w)->∃m,J m a w/\∀k,J k a w->m<=k:=λa w ⟨m,hm⟩=>least m hm
 let μ:Act->World->Nat:=λa w=>if h:∃m,J m a w then(l a w h).choose else 0
 have f:∀a w (h:∃m,J m a w),J (μ a w) a w/\∀k,J k a w->μ a w<=k:=λa w h=>by
  have:=(l a w h).choose_spec
  simp[μ,dif_pos h];exact this
 refine wp_loop (λa w=>∃m,J m a w) μ ⟨n,h⟩ λa w o=>?_
 refine Code.wp_mono (λe j w' q=>?_) (c (μ a w) a w (f a w o).1)
 cases e with
 |normal =>
  obtain⟨d,g,i⟩:=q
  exact⟨⟨d,i⟩,Nat.lt_of_le_of_lt ((f j w' ⟨d,i⟩).2 d i) g⟩
 |_=>exact q
theorem W1y:∀{l:L}{b:Code}{K:Ex->St->Prop}{o:Exit->Act->World->Prop}{g:Gh}{s:St}{a:Act}{w:World},chkC P c.nt l b=true -> (∀e g' s' r w',Inv c g' s' r w'->K e s'->o e.to r w')->Inv c g s a w->den P l K s->b.wp P o a w:=by
 intro l;induction l with
 |skip =>intro b K o g s a w f i I h;cases b<;>simp[chkC]at f;exact wp_skip (i .nrm _ _ _ _ I h)|reg E =>
  intro b K o g s a w f i I h;cases b<;>try (simp[chkC]at f;done)
  rename_i p u C;cases C<;>simp only[chkC,yG]at f;exact wp_region_list (Q22 (K:=K .nrm) (λg' s' r w' k j=>i .nrm _ _ _ _ k j) E u.toList g s a w f I h)
 |rq m E =>
  intro b K o g s a w f i I h;cases b<;>try (simp[chkC]at f;done)
  rename_i p u C;cases C<;>simp only[chkC,yG,yD]at f;exact W1S (K:=K .nrm) f.1 f.2 (λg' s' r w' k j=>i .nrm _ _ _ _ k j) I h
 |rz als v H =>
  intro b K o g s a w f i I h;cases b<;>try (simp[chkC]at f;done)
  rename_i p u C;cases C<;>simp only[chkC,yG,yD]at f;exact Y1X (K:=K .nrm) f.1 f.2 (λs' q=>⟨λd S=>(by cases S),q⟩) (λg' s' r w' k j=>i .nrm _ _ _ _ k j) I h
 |ro ow als v H =>
  intro b K o g s a w f i I h;cases b<;>try (simp[chkC]at f;done)
  rename_i p u C;cases C<;>simp only[chkC,yG,yD]at f;exact Y1X (K:=K .nrm) f.1 f.2 (λs' q=>q) (λg' s' r w' k j=>i .nrm _ _ _ _ k j) I h
 |seq x y A z =>intro b K o g s a w f i I h;cases b<;>simp only[chkC,yG,yD]at f;refine wp_seq (A f.1 (λe g' s' r w' k j=>?_) I h);cases e with|nrm=>exact z f.2 i k j|ext p=>exact i (.ext p) _ _ _ _ k j|ret=>exact i .ret _ _ _ _ k j
 |cond cx x y A z =>
  intro b K o g s a w f i I h;cases b<;>simp only[chkC,yG,yD]at f;have F:=I.get f.1.1;simp only[den]at h;split at h
  .rename_i t Q;rw[Q]at F;exact wp_cond_split F.bool_inv (λe=>A f.1.2 i I (h.1 e)) (λe=>z f.2 i I (h.2 e))
  cases h
 |blk p x B =>
  intro b K o g s a w f i I h;cases b<;>simp only[chkC,yG,yD,beq_iff_eq]at f;obtain⟨rfl,f⟩:=f;refine wp_block (B f (λe g' s' r w' k j=>?_) I h);cases e with
  |nrm=>exact i .nrm _ _ _ _ k j|ext D =>
   simp only[Ex.to,Exit.inBlock];simp only at j;split
   .rename_i e;rw[yd e]at j;exact i .nrm _ _ _ _ k j
   rename_i e;rw[ye e]at j;exact i (.ext D) _ _ _ _ k j
  |ret=>exact i .ret _ _ _ _ k j
 |loop x B =>intro b K o g s a w f i I h;cases b<;>simp only[chkC,yG]at f;simp only[den]at h;obtain⟨J,n,X,R⟩:=h;refine Y21 (λm a w=>∃g s,Inv c g s a w/\J m s) (λm a w ⟨g,s,I,hJ⟩=>?_) (n:=n) ⟨g,s,I,X⟩;refine B f (λe g' s' r w' k j=>?_) I (R m s hJ);cases e with|nrm=>obtain⟨O,N,M⟩:=j;exact⟨O,N,g',s',k,M⟩|ext p=>exact i (.ext p) _ _ _ _ k j|ret=>exact i .ret _ _ _ _ k j
 |exit p =>intro b K o g s a w f i I h;cases b<;>simp only[chkC,yG,beq_iff_eq]at f;subst f;exact wp_exit (i (.ext p) _ _ _ _ I h)|ret =>intro b K o g s a w f i I h;cases b<;>simp[chkC]at f;exact wp_ret (i .ret _ _ _ _ I h)|scope x B =>intro b K o g s a w f i I h;cases b<;>simp only[chkC,yG]at f;refine wp_scope_straight (B f (λe g' s' r w' k j=>?_) I h);cases e with|nrm=>exact i .nrm _ _ _ _ k j|ext p=>exact i (.ext p) _ _ _ _ k j|ret=>exact i .ret _ _ _ _ k j
 |gw x B =>intro b K o g s a w f i I h;obtain⟨G,W,V,U,T⟩:=h;obtain⟨Z,Y⟩:=I.gw G W V U;exact B (by unfold chkC at f;exact f) i Y T
end
end
section
inductive Rv|t(i:Nat)|c(i n:Nat)(ag:Bool)
def chkR(P:Program):Rv->ResultVar->Bool
 |.t i,.tmp j=>i==j|.c i n ag,.cell a t=>i==a&&tsz P t==some n&&tag? P t==some ag&&(ag||n==1)|_,_=>false
def L0C(P:Program):List Rv->List ResultVar->Bool
 |[],[]=>true|r::rs,v::vs=>chkR P r v&&L0C P rs vs|_,_=>false
def St.rv1(s:St):Rv->Option AV
 |.t i=>some (s.e i)|.c i n ag=>s.ld (s.e i) n ag
def St.rvs(s:St):List Rv->Option (List AV)
 |[]=>some []|r::rs=>match s.rv1 r,s.rvs rs with
  |some x,some l=>some (x::l)
  |_,_=>none
def O1c:List AV->AV
 |[a]=>a|l=>.tup l
def ixO:List (Option Nat)->Nat->Option Nat
 |[],_=>none|some k::ks,j=>if k=j then some 0 else(ixO ks j).map (·+1)|none::ks,j=>(ixO ks j).map (·+1)
theorem L2b:∀{ks:List (Option Nat)}{k i:Nat},ixO ks k=some i->ks[i]?=some (some k)
 |[],_,_,h=>by simp[ixO]at h|some x::ks,k,i,h=>by
  simp[ixO]at h;split at h
  .rename_i e;cases h;simp[e]
  .obtain⟨j,a,rfl⟩:=yC h;simpa using L2b a
 |none::ks,k,i,h=>by simp only[ixO]at h;obtain⟨j,a,rfl⟩:=yC h;simpa using L2b a
mutual
def AV.out(ks:List (Option Nat)):AV->AV
 |.sref k=>match ixO ks k with|some i=>.sref i|none=>.bad
 |.agg cs=>.agg (outL ks cs)
 |.tup cs=>.tup (outL ks cs)
 |.fn f cs=>.fn f (outL ks cs)
 |.ptr _ _=>.bad
 |.rpt _ _ _=>.bad
 |.od _ _ _=>.bad
 |.op _ _ _=>.bad
 |a=>a
def outL(ks:List (Option Nat)):List AV->List AV
 |[]=>[]
 |a::l=>AV.out ks a::outL ks l
end
theorem Q0B(ks:List (Option Nat)):∀l,outL ks l=l.map (AV.out ks)
 |[]=>rfl|a::l=>by rw[outL,Q0B ks l];rfl
def AV.wk1(p:Nat->Prop):AV->AV->Prop
 |.nl,.sl t _ es=>t.isOwn=false/\es=[]|.nl,.sref i=>p i|a,b=>a=b
def wkLs(R:AV->AV->Prop):List AV->List AV->Prop
 |[],[]=>True|a::l,b::m=>R a b/\wkLs R l m|_,_=>False
def AV.wkA(p:Nat->Prop):AV->AV->Prop
 |.agg cs,.agg ds=>wkLs (AV.wk1 p) cs ds|a,b=>AV.wk1 p a b
def AV.wk(p:Nat->Prop):AV->AV->Prop
 |.tup cs,.tup ds=>wkLs (AV.wkA p) cs ds|a,b=>AV.wkA p a b
theorem X1z{R:AV->AV->Prop}:∀{cs g:List AV},wkLs R cs g->cs.length=g.length/\∀(i:Nat)(c d:AV),cs[i]?=some c->g[i]?=some d->R c d
 |[],[],_=>⟨rfl,by intro i c d h;simp at h⟩|a::l,b::m,h=>by obtain⟨k,j⟩:=X1z h.2;refine⟨by simp[k],λi c d f e=>?_⟩;cases i with|zero=>simp at f e;subst f;subst e;exact h.1|succ i=>exact j i c d (by simpa using f) (by simpa using e)
 |[],_::_,h=>h.elim|_::_,[],h=>h.elim
mutual
def Nw:AV->Prop
 |.sl t _ es=>(es=[]/\t.isOwn=false)\/(t=.nw/\NwL es)
 |.agg cs=>NwL cs
 |.tup cs=>NwL cs
 |.fn _ cs=>NwL cs
 |.od _ _ _=>False
 |.op _ _ _=>False
 |.ept _ _=>False
 |.eot _ _=>False
 |_=>True
def NwL:List AV->Prop
 |[]=>True
 |a::l=>Nw a/\NwL l
end
theorem W0k:∀{l:List AV},NwL l↔∀a∈l,Nw a
 |[]=>by simp[NwL]|a::l=>by simp[NwL,W0k (l:=l)]
def Q0D(s:St):List (Option Nat)->List Row->Prop
 |[],[]=>True|some k::ks,r::rs=>s.rw k=some r/\r.sh=false/\NwL r.es/\Q0D s ks rs|none::ks,r::rs=>r.es=[]/\Q0D s ks rs|_,_=>False
theorem M0M{s:St}:∀{ks:List (Option Nat)}{rows:List Row},Q0D s ks rows->ks.length=rows.length /\ (∀(i k:Nat)(r:Row),ks[i]?=some (some k)->rows[i]?=some r->s.rw k=some r/\r.sh=false/\NwL r.es)/\∀(i:Nat)(r:Row),ks[i]?=some none->rows[i]?=some r->r.es=[]
 |[],[],_=>⟨rfl,by intro i k r h;simp at h,by intro i r h;simp at h⟩|some k::ks,r::rs,h=>by
  simp[Q0D]at h;obtain⟨j,m,l,g⟩:=h;obtain⟨e,d,c⟩:=M0M g;refine⟨by simp[e],λi f r' b a=>?_,λi r' b a=>?_⟩
  .cases i with|zero=>simp at b a;subst b;subst a;exact⟨j,m,l⟩|succ i=>exact d i f r' (by simpa using b) (by simpa using a)
  .cases i with|zero=>simp at b|succ i=>exact c i r' (by simpa using b) (by simpa using a)
 |none::ks,r::rs,h=>by
  simp[Q0D]at h;obtain⟨j,g⟩:=h;obtain⟨e,d,c⟩:=M0M g;refine⟨by simp[e],λi f r' b a=>?_,λi r' b a=>?_⟩
  .cases i with|zero=>simp at b|succ i=>exact d i f r' (by simpa using b) (by simpa using a)
  .cases i with|zero=>simp at a;subst a;exact j|succ i=>exact c i r' (by simpa using b) (by simpa using a)
 |[],_::_,h=>h.elim|some _::_,[],h=>h.elim|none::_,[],h=>h.elim
def Q0W:List (Option Nat)->List Nat
 |[]=>[]|some k::ks=>k::Q0W ks|none::ks=>Q0W ks
theorem W1e:∀{ks:List (Option Nat)}{i j k:Nat},(Q0W ks).Nodup->ks[i]?=some (some k)->ks[j]?=some (some k)->i=j
 |[],i,j,k,_,h,_=>by simp at h
 |o::ks,0,0,k,_,_,_=>rfl
 |some x::ks,0,j+1,k,hn,h1,h2=>by
  simp at h1 h2;subst h1
  have:=mem_keysO h2
  exact absurd this (List.nodup_cons.1 hn).1
 |some x::ks,i+1,0,k,hn,h1,h2=>by
  simp at h1 h2;subst h2
  have:=mem_keysO h1
  exact absurd this (List.nodup_cons.1 hn).1
 |none::ks,0,j+1,k,_,h1,_=>by simp at h1
 |none::ks,i+1,0,k,_,_,h2=>by simp at h2
 |some x::ks,i+1,j+1,k,hn,h1,h2=>congrArg (·+1) (W1e (ks:=ks) (i:=i) (j:=j) (k:=k) (List.nodup_cons.1 hn).2 (by simpa using h1) (by simpa using h2))
 |none::ks,i+1,j+1,k,hn,h1,h2=>congrArg (·+1) (W1e (ks:=ks) (i:=i) (j:=j) (k:=k) hn (by simpa using h1) (by simpa using h2))
where
 mem_keysO:∀{ks:List (Option Nat)} {j x:Nat},ks[j]?=some (some x)->x∈Q0W ks
  |[],j,x,h=>by simp at h
  |some y::ks,0,x,h=>by simp at h;simp[Q0W,h]
  |none::ks,0,x,h=>by simp at h
  |some y::ks,j+1,x,h=>by simp[Q0W,List.mem_cons];exact .inr (mem_keysO (by simpa using h))
  |none::ks,j+1,x,h=>by simp[Q0W];exact mem_keysO (by simpa using h)
def post(rs:List Rv)(res:AV)(rows:List Row)(e:Ex)(s:St):Prop :=(match e with | .ext _=>False|_=>True)/\∃(l:List AV) (ks:List (Option Nat)),s.rvs rs=some l/\AV.wk (λi=>ks[i]?=some none) ((O1c l).out ks) res/\Nw (O1c l)/\(Q0W ks).Nodup/\Q0D s ks rows
section
variable{P:Program}{c:Cx}{g:Gh}{s:St}{a:Act}{w:World}
theorem O2d{c:List AV}(h:NwL c):∀a∈flat c,Nw a:=by
 intro a f;obtain⟨e,d,b⟩:=List.mem_flatMap.1 f;have:=W0k.1 h e d;cases e with
 |agg cs =>
  have g:NwL cs:=by simpa[Nw]using this
  exact W0k.1 g a b
 |_=>simp[AV.cells]at b;subst b;exact this
theorem Rd.fresh{S:Nat->Nat->Prop}{N N':Tag->Nat->Value->Prop}{B:Nat}(hB:∀z b o n c,N .nw z (.slice (some ⟨b,o,none⟩) n c)->B<=b)(hN:∀z v,N .nw z v->N' .nw z v){x:AV}{v:Value}(h:Rd w S N x v)(hn:Nw x):Rd w (λb o=>S b o/\B<=b) N' x v:=by
 induction h with
 |bool b=>exact .bool b|int k n=>exact .int k n|str l=>exact .str l|nl=>exact .nl|sl0 t sz p q ho =>
  refine .sl0 _ _ _ _ λi e=>?_;subst e;rcases(by simpa[Nw]using hn:(Tag.own i).isOwn=false\/False)with q|q
  .cases q
  exact q.elim
 |agg cs vs hl h1 h ih=>exact .agg cs vs hl h1 λi y u hy hu=>ih i y u hy hu (W0k.1 (by simpa[Nw]using hn) y (yE hy))|fn f cs vs hl h ih=>exact .fn f cs vs hl λi y u hy hu=>ih i y u hy hu (W0k.1 (by simpa[Nw]using hn) y (yE hy))|ept e off b o cv hw h _=>exact(show False by simp[Nw]at hn).elim|sl t sz es b o cc cv hc hm hs hw hnn h ih =>
  have hall:∀a∈flat es,Nw a:=by
   rcases(by simpa[Nw]using hn:(es=[]/\t.isOwn=false)\/(t=.nw/\NwL es))with⟨rfl,_⟩|⟨_,h2⟩
   .intro a ha;simp[flat]at ha
   exact O2d h2
  refine .sl t sz es b o cc cv hc hm hs (λj y hj=>⟨(hw j y hj).1,⟨(hw j y hj).2.1,?_⟩,(hw j y hj).2.2.1,?_⟩) (λi e=>?_) (λj y hj=>ih j y hj (hall y (yE hj)))
  .rcases(by simpa[Nw]using hn:(es=[]/\t.isOwn=false)\/(t=.nw/\NwL es))with⟨rfl,_⟩|⟨rfl,_⟩
   .simp[flat]at hj
   exact hB _ _ _ _ _ (hw j y hj).2.2.2
  .rcases(by simpa[Nw]using hn:(es=[]/\t.isOwn=false)\/(t=.nw/\NwL es))with⟨rfl,_⟩|⟨rfl,_⟩
   .simp[flat]at hj
   exact hN _ _ (hw j y hj).2.2.2
  subst e;rcases(by simpa[Nw]using hn:(es=[]/\(Tag.own i).isOwn=false)\/False)with⟨_,q⟩|q
  .cases q
  exact q.elim
theorem Y2t(ks:List (Option Nat)){x:AV}(h:x.one=true\/x=.bad):(x.out ks).one=true\/x.out ks=.bad:=by
 rcases h with h|rfl
 .cases x with|sref j=>rw[AV.out];split<;>simp[AV.one]|ptr j o=>right;rfl|rpt j i o=>right;rfl|ept e o=>left;rfl|eot e o=>left;rfl|_=>simp[AV.out,AV.one]at h ⊢
 right;rfl
theorem Rd.out{S:Nat->Nat->Prop}{N:Tag->Nat->Value->Prop}(ks:List (Option Nat)){x:AV}{v:Value}(h:Rd w S N x v):Rd w S N (x.out ks) v:=by
 induction h with
 |bool b=>exact .bool b|int k n=>exact .int k n|str l=>exact .str l|nl=>exact .nl|sl0 t C p q F=>exact .sl0 _ _ _ _ F|sl t C M b o O B J H D m G h _=>exact .sl t C M b o O B J H D m G h|ept e off b o B m h _=>exact .ept e off b o B m h|agg cs d A L h j =>
  rw[AV.out,Q0B];refine .agg _ d (by simpa using A) (λy a=>?_) (λi y v a r=>?_)
  .obtain⟨g,c,rfl⟩:=yY a;obtain⟨i,I,rfl⟩:=List.getElem_of_mem c;have s:i<d.length:=by omega
   have E:=h i _ _ (yA I) (yA s);have K:=L _ c;generalize cs[i]=z at *;generalize d[i]=u at *;cases E<;>simp_all [AV.out,AV.one]
  rw[yF]at a;obtain⟨g,c,rfl⟩:=yC a;exact j i g v c r
 |fn f cs d A h j =>rw[AV.out,Q0B];refine .fn f _ d (by simpa using A) (λi y v a r=>?_);rw[yF]at a;obtain⟨g,c,rfl⟩:=yC a;exact j i g v c r
def rvO(g:Gh)(ks:List (Option Nat))(i:Nat):Value:=match ks[i]? with|some (some k)=>g.rv k|_=>.slice none 0 0
section wk
variable{p:Nat->Prop}
theorem Gv.wk1(f:∀i,p i->∀r,s.rw i=some r->g.rv i=.slice none 0 0){a b:AV}{v:Value}(h:Gv w g s a v)(c:a.wk1 p b):Gv w g s b v:=by
 unfold AV.wk1 at c;split at c
 .obtain⟨q,rfl⟩:=c;rw[h.nl_inv];exact .data _ _ (.sl0 _ _ _ _ λi e=>by subst e;cases q)
 .rw[h.nl_inv];exact .sref _ _ rfl λr d=>(f _ c r d).symm
 subst c;exact h
theorem J2s{a b:AV}(c:a.wk1 p b)(h:a.one=true\/a=.bad):b.one=true\/b=.bad:=by
 unfold AV.wk1 at c;split at c
 .exact .inl rfl
 .exact .inl rfl
 subst c;exact h
theorem Gv.wkA(k:∀i,p i->∀r,s.rw i=some r->g.rv i=.slice none 0 0){a b:AV}{v:Value}(h:Gv w g s a v)(e:a.wkA p b):Gv w g s b v:=by
 unfold AV.wkA at e;split at e
 .rename_i cs t;obtain⟨m,rfl,x,q,o⟩:=h.agg_inv;obtain⟨y,l⟩:=X1z e;refine .agg t m (by omega) (λd j=>?_) (λi d u j n=>?_)
  .obtain⟨i,f,rfl⟩:=List.getElem_of_mem j;have c:i<cs.length:=by omega
   exact J2s (l i _ _ (yA c) (yA f)) (q _ (List.getElem_mem c))
  have f:i<cs.length:=by have:=(yB j).1;omega
  exact(o i _ u (yA f) n).wk1 k (l i _ d (yA f) j)
 exact h.wk1 k e
theorem Gv.wk(e:∀i,p i->∀r,s.rw i=some r->g.rv i=.slice none 0 0){a b:AV}{v:Value}(h:Gv w g s a v)(c:a.wk p b):Gv w g s b v:=by
 unfold AV.wk at c;split at c
 .rename_i cs o;obtain⟨k,rfl,q,m⟩:=h.tup_inv;obtain⟨t,n⟩:=X1z c;refine .tup o k (by omega) (λi d u j l=>?_);have f:i<cs.length:=by have:=(yB j).1;omega
  exact(m i _ u (yA f) l).wkA e (n i _ d (yA f) j)
 exact h.wkA e c
end wk
theorem Gv.out{B:Nat}(K:∀b,g.N b->B<=b){ks:List (Option Nat)}{rows:List Row}(C:Q0D s ks rows){x:AV}{v:Value}(h:Gv w g s x v)(n:Nw x) : Gv w { S:=λb o=>g.S b o/\B<=b,N:=g.N,bb:=g.bb,rv:=λi=>rvO g ks i } (L1o rows) (x.out ks) v:=by
 have z:∀(cs:List AV) (a:List Value) (g':Gh) (s':St),(∀(i:Nat) (x:AV) (v:Value),cs[i]?=some x->a[i]?=some v->Gv w g' s' (x.out ks) v) -> ∀(i:Nat) (x:AV) (v:Value),(cs.map (AV.out ks))[i]?=some x->a[i]?=some v->Gv w g' s' x v:=by intro cs a g' s' d i x v E H;rw[yF]at E;obtain⟨G,D,rfl⟩:=yC E;exact d i G v D H
 induction h with
 |data x v h=>exact .data _ v ((h.fresh (λ_ _ _ _ _ q=>K _ (q _ rfl).1) (λ_ _ q b J=>⟨(q b J).1,λr=>by obtain⟨_,_,e,_⟩:=r;cases e⟩) n).out ks)|bad v=>exact .bad v|und=>exact .und|sref k v t h =>
  rw[AV.out];split
  .rename_i i I;have F:=L2b I;refine .sref _ v t λr' A=>?_;have m:rows[i]?=some r':=by simpa[L1o]using A
   have:=((M0M C).2.1 i k r' F m).1;simp[rvO,F];exact h r' this
  exact .bad v
 |ptr j off v t h=>exact .bad v|rpt j i off v t h=>exact .bad v|el L=>exact .el L|od=>exact .bad _|op=>exact .bad _|eot e off b o P O h=>exact(show False by simp[Nw]at n).elim|agg cs a p t _ d =>rw[AV.out,Q0B];refine .agg _ a (by simpa using p) (λy c=>?_) (z cs a _ _ λi y u c l=>d i y u c l (W0k.1 (by simpa[Nw]using n) y (yE c)));obtain⟨M,D,rfl⟩:=yY c;exact Y2t ks (t _ D)|tup cs a p _ d =>rw[AV.out,Q0B];exact .tup _ a (by simpa using p) (z cs a _ _ λi y u c l=>d i y u c l (W0k.1 (by simpa[Nw]using n) y (yE c)))|fn f cs a p _ d =>rw[AV.out,Q0B];exact .fn f _ a (by simpa using p) (z cs a _ _ λi y u c l=>d i y u c l (W0k.1 (by simpa[Nw]using n) y (yE c)))
theorem L2C{p x:AV}{n:Nat}{e:Bool}{v:Value}(h:s.ld p n e=some x)(a:Gv w g s p v):∃f,v=.pointer (some f):=by
 unfold St.ld at h;split at h
 .obtain⟨b,o,d,rfl,_⟩:=a.ept_inv;exact⟨_,rfl⟩
 .obtain⟨b,o,d,rfl,_⟩:=a.eot_inv;exact⟨_,rfl⟩
 .split at h
  .rename_i cs c;exact⟨_,a.ptr_inv c⟩
  cases h
 .split at h
  .rename_i r c;obtain⟨b,_,rfl⟩:=a.rpt_inv c;exact⟨_,rfl⟩
  cases h
 cases h
def X2r(tmps:Array Value):ResultVar->Sem Value
 |.tmp t=>pure (tmps.getD t undef)|.cell a t=>do loadVar t (← asAddr (tmps.getD a undef))
theorem U0D(I:Inv c g s a w){r:Rv}{R:ResultVar}(d:chkR P r R=true){x:AV}(h:s.rv1 r=some x):∃u,(X2r a.tmps R).run P w=.ok u w/\Gv w g s x u:=by cases r with|t i =>cases R<;>simp[chkR]at d;subst d;simp[St.rv1]at h;subst h;exact⟨_,rfl,I.tm i⟩|c i n p =>cases R<;>simp[chkR,beq_iff_eq,Bool.or_eq_true]at d;obtain⟨⟨⟨rfl,o⟩,m⟩,l⟩:=d;simp[St.rv1]at h;have f:=I.tm i;obtain⟨u,j,k⟩:=J2C (P:=P) I f o m (λe=>by rcases l with h|h;rw[e]at h;cases h;exact h) h;obtain⟨q,b⟩:=L2C h f;refine⟨u,?_,k⟩;rw[b]at j;simp[X2r,b];simpa[Instr.loadAt,Instr.sureAddr,asAddr]using j
theorem X1c{n:Func}(I:Inv c g s a w){A:List Rv}(x:A.length<=4)(b:L0C P A n.results.toList=true){l:List AV}(h:s.rvs A=some l) : ∃u,(results n a.tmps).run P w=.ok u w/\Gv w g s (O1c l) u:=by
 have K:∀L:List ResultVar,n.results.toList=L->n.results=L.toArray:=λL h=>by rw[← h]
 have t:∀L:List ResultVar,n.results.toList=L->results n a.tmps=(do let vs ← L.toArray.mapM (X2r a.tmps);pure (if h:vs.size=1 then vs[0]else .tuple vs)):=λL D=>by unfold results;rw[K L D];rfl
 generalize D:n.results.toList=L at b;rw[t L D];match A,L,x,b,h with
 |[],[],_,_,h =>simp[St.rvs]at h;subst h;exact⟨.tuple #[],by simp,.tup [] [] rfl (by intro i a v h;simp at h)⟩|[r1],[R1],_,b,h =>simp only[L0C,yD]at b;simp only[St.rvs]at h;cases h1:s.rv1 r1 with|none=>simp[h1]at h|some o =>simp[h1]at h;subst h;obtain⟨f,k,m⟩:=U0D (P:=P) I b.1 h1;exact⟨f,by simp[k],m⟩
 |[r1,r2],[R1,R2],_,b,h =>
  simp only[L0C,yD]at b;simp only[St.rvs]at h;cases h1:s.rv1 r1 with|none=>simp[h1]at h|some o =>
  cases h2:s.rv1 r2 with|none=>simp[h2]at h|some p =>simp[h1,h2]at h;subst h;obtain⟨f,k,m⟩:=U0D (P:=P) I b.1 h1;obtain⟨j,r,z⟩:=U0D (P:=P) I b.2.1 h2;refine⟨.tuple #[f,j],by simp[k,r],.tup [o,p] [f,j] rfl λi y v d e=>?_⟩;match i with|0=>simp at d e;subst d;subst e;exact m|1=>simp at d e;subst d;subst e;exact z|i+2=>simp at d
 |[r1,r2,r3],[R1,R2,R3],_,b,h =>
  simp only[L0C,yD]at b;simp only[St.rvs]at h;cases h1:s.rv1 r1 with|none=>simp[h1]at h|some o =>
  cases h2:s.rv1 r2 with|none=>simp[h2]at h|some p =>
  cases h3:s.rv1 r3 with|none=>simp[h3]at h|some B =>simp[h1,h2,h3]at h;subst h;obtain⟨f,k,m⟩:=U0D (P:=P) I b.1 h1;obtain⟨j,r,z⟩:=U0D (P:=P) I b.2.1 h2;obtain⟨q,C,E⟩:=U0D (P:=P) I b.2.2.1 h3;refine⟨.tuple #[f,j,q],by simp[k,r,C],.tup [o,p,B] [f,j,q] rfl λi y v d e=>?_⟩;match i with|0=>simp at d e;subst d;subst e;exact m|1=>simp at d e;subst d;subst e;exact z|2=>simp at d e;subst d;subst e;exact E|i+3=>simp at d
 |[r1,r2,r3,r4],[R1,R2,R3,R4],_,b,h =>
  simp only[L0C,yD]at b;simp only[St.rvs]at h;cases h1:s.rv1 r1 with|none=>simp[h1]at h|some o =>
  cases h2:s.rv1 r2 with|none=>simp[h2]at h|some p =>
  cases h3:s.rv1 r3 with|none=>simp[h3]at h|some B =>
  cases h4:s.rv1 r4 with|none=>simp[h4]at h|some G =>simp[h1,h2,h3,h4]at h;subst h;obtain⟨f,k,m⟩:=U0D (P:=P) I b.1 h1;obtain⟨j,r,z⟩:=U0D (P:=P) I b.2.1 h2;obtain⟨q,C,E⟩:=U0D (P:=P) I b.2.2.1 h3;obtain⟨F,H,J⟩:=U0D (P:=P) I b.2.2.2.1 h4;refine⟨.tuple #[f,j,q,F],by simp[k,r,C,H],.tup [o,p,B,G] [f,j,q,F] rfl λi y v d e=>?_⟩;match i with|0=>simp at d e;subst d;subst e;exact m|1=>simp at d e;subst d;subst e;exact z|2=>simp at d e;subst d;subst e;exact E|3=>simp at d e;subst d;subst e;exact J|i+4=>simp at d
 |[],_::_,_,b,_=>simp[L0C]at b|_::_,[],_,b,_=>simp[L0C]at b|[_],_::_::_,_,b,_=>simp[L0C]at b|_::_::_,[_],_,b,_=>simp[L0C]at b|[_,_],_::_::_::_,_,b,_=>simp[L0C]at b|_::_::_::_,[_,_],_,b,_=>simp[L0C]at b|[_,_,_],_::_::_::_::_,_,b,_=>simp[L0C]at b|_::_::_::_::_,[_,_,_],_,b,_=>simp[L0C]at b|[_,_,_,_],_::_::_::_::_::_,_,b,_=>simp[L0C]at b|_::_::_::_::_::_,_::_::_::_::_,hl,_,_=>simp at hl
def st0(args:List AV):St:={ e:=λi=>args.getD i .und,bx:=λ_=>none,rw:=λ_=>none,nx:=0,my:=λ_=>True }
def chkF(P:Program)(n:Nat)(l:L)(rs:List Rv)(fn:Func):Bool :=(match fn.body with|some code=>chkC P fn.ntmps l code|none=>false)&&L0C P rs fn.results.toList&&decide (rs.length<=4)&&decide (n<=fn.ntmps)&&decide (fn.ntmps<=900000)
theorem O2A{f:FuncId}{B:Func}{l:L}{rs:List Rv}{d:List AV}{C:AV}{rows:List Row}(hf:P.funcs[f]?=some B)(A:chkF P d.length l rs B=true)(hrd:rdtL d=d)(h:den P l (post rs C rows) (st0 d)):Snd P f d C rows:=by
 simp only[chkF,yD,yO]at A;obtain⟨⟨⟨⟨A,hr⟩,hr4⟩,hn⟩,hnb⟩:=A;cases m:B.body with
 |none=>rw[m]at A;cases A|some code =>
  rw[m]at A;simp only at A;intro w S N z hS hvl Z;let c:Cx:={ nt:=B.ntmps,X:=λ_=>False,Y:=λ_=>False,S0:=S,w0:=w,rv0:=λ_=>undef,bb0:=λ_=>0,ntb:=hnb,s0:=hS,sx:=λ_ _ _ h=>h };let g:Gh:={ S:=S,N:=λb=>w.heap.size<=b,bb:=λ_=>0,rv:=λ_=>undef };have I:Inv c g (st0 d) { tmps:=z.toArray++Array.replicate (B.ntmps-z.toArray.size) undef,defers:=[] } w:=by
   refine⟨rfl,by simp only[Array.size_append,List.size_toArray,Array.size_replicate,c];omega,⟨rfl,rfl,rfl,yV _,λ_ _ _=>rfl⟩,λi=>?_,λk cs h=>(by cases h),λk cs h=>(by cases h),λk r h=>(by cases h),λk r h=>(by cases h),λk Q cs cs' h=>(by cases h),λk Q cs r h=>(by cases h),λk Q r r' h=>(by cases h),λb o h=>hS b o h,λb h=>h,λb h1 h2=>absurd h2 (Nat.not_lt.2 h1),λ_ _=>⟨rfl,rfl⟩,λ_ _ h=>h,λ_ _ h=>.inl h,⟨OwnH.none λ_=>rfl,λi D h=>(by cases h),rfl,yV _,λ_ _=>rfl,λ_ h=>(show False from h).elim,λ_ h=>(show False from h).elim,λ_ _ _ h=>(show False from h).elim⟩,λb o h q=>q.elim (λq=>absurd (hS b o h) (Nat.not_lt.2 q)) λq=>(show False from q).elim,λ_ _ _ h=>h⟩;simp only[st0];rcases Nat.lt_or_ge i d.length with p|p
   .have M:i<z.length:=by omega
    have e1:d.getD i .und=d[i]:=by simp[List.getD_eq_getElem?_getD,p]
    have e2:(z.toArray++Array.replicate (B.ntmps-z.toArray.size) undef).getD i undef=z[i]:=by simp[Array.getD_eq_getD_getElem?,Array.getElem?_append_left,M]
    rw[e1,e2];have:=(Z i d[i] z[i] (yA p) (yA M)).rdt (N':=g.T) (Gh.T_rd λ_=>rfl);have e3:d[i].rdt=d[i]:=by have:=congrArg (λl:List AV=>l[i]?) hrd;simp only[U5,yF,yA p,Option.map_some,yI]at this;exact this
    rw[e3]at this;exact .data _ _ this
   have e1:d.getD i .und=.und:=by simp[List.getD_eq_getElem?_getD,List.getElem?_eq_none p]
   have e2:(z.toArray++Array.replicate (B.ntmps-z.toArray.size) undef).getD i undef=undef:=by rw[Array.getD_eq_getD_getElem?,Array.getElem?_append_right (by simp;omega),Array.getElem?_replicate];split<;>rfl
   rw[e1,e2];exact .und
  apply calls_of_wp hf m;refine W1y (c:=c) A (λe g' s' a' w' s hp=>?_) I h;have O:(∃v,(results B a'.tmps).run P w'=.ok v w'/\∃v',Ending.returned v=.returned v'/\Below w.heap.size w w'/\Ret w.heap.size w' C rows v'):=by
   obtain⟨_,l',ks,h1,h2,h3,h4,h5⟩:=hp;obtain⟨u,q1,q2⟩:=X1c (P:=P) s hr4 hr h1;have V:∀b,g'.N b->w.heap.size<=b:=λb m=>Classical.byContradiction λn=>s.nx b m (show b<w.heap.size by omega);refine⟨u,q1,u,rfl,⟨s.fr.os,s.fr.tape,s.fr.output,s.fr.size,λk t=>s.fr.block k t (λh=>h)⟩,?_⟩;obtain⟨r1,r2,r3⟩:=M0M h5;have E:∀(i:Nat) (r:Row),rows[i]?=some r->(∃k,ks[i]?=some (some k)/\s'.rw k=some r/\r.sh=false/\NwL r.es/\rvO g' ks i=g'.rv k)\/(ks[i]?=some none/\r.es=[]/\rvO g' ks i=.slice none 0 0):=λi r p=>by
    have n:i<ks.length:=by rw[r1];exact(yB p).1
    cases t:ks[i]with|none=>exact .inr ⟨by rw[yA n,t],r3 i r (by rw[yA n,t]) p,by simp only[rvO,yA n,t]⟩|some k =>obtain⟨z1,z2,z3⟩:=r2 i k r (by rw[yA n,t]) p;exact .inl ⟨k,by rw[yA n,t],z1,z2,z3,by simp only[rvO,yA n,t]⟩
   refine⟨{ S:=λb o=>g'.S b o/\w.heap.size<=b,N:=g'.N,bb:=g'.bb,rv:=λi=>rvO g' ks i },λb o F=>⟨F.2,s.sw b o F.1⟩,V,λ_=>rfl,(q2.out V h5 h3).wk (λi p r _=>by simp only[rvO,p]) h2,λi r p=>?_,λi j r r' p hj hne b m=>?_,λb o F=>s.uf b o F.1 (.inl F.2)⟩
   .rcases E i r p with⟨k,t,x,hsh,hnw,H⟩|⟨t,U,H⟩
    .simp only[H];obtain⟨xs,ty,p1,p2,W⟩:=s.rws k r x;refine⟨⟨xs,ty,p1,p2,λj y v R hv=>⟨(W j y v R hv).1,(W j y v R hv).2.1,((W j y v R hv).2.2).fresh (λ_ _ _ _ _ h=>V _ (h _ rfl).1) (λ_ _ h b m=>⟨(h b m).1,λq=>by obtain⟨_,_,e,_⟩:=q;cases e⟩) (O2d hnw y (yE R))⟩⟩,λb m=>⟨V b (s.rwn k r x b m).1.1,λo F=>?_⟩⟩;have:=((s.rwn k r x b m).2 o F.1).1;rw[hsh]at this;cases this
    simp only[H];refine⟨⟨[],0,by rw[U];exact World.ownsRow_nil w' 0 0 r.sz,by rw[U];simp,by rw[U];intro j a u h;simp[flat]at h⟩,λb m=>by simp[Value.ownBlock]at m⟩
   rcases E i r p with⟨k,t,x,_,_,H⟩|⟨t,U,H⟩
   .rcases E j r' hj with⟨Q,K,J,_,_,G⟩|⟨K,he',G⟩
    .simp only[H,G]at m ⊢;exact s.drr k Q r r' x J (λe=>hne (by subst e;exact W1e h4 t K)) b m
    simp only[G];simp[Value.ownBlock]
   simp only[H]at m;simp[Value.ownBlock]at m
  cases e with|nrm=>exact⟨s.defers,O⟩|ret=>exact⟨s.defers,O⟩|ext id=>exact hp.1.elim
def YQ(P:Program)(f:FuncId)(n:Nat)(l:L)(rs:List Rv):Bool:=match P.funcs[f]? with
 |some fn=>chkF P n l rs fn
 |none=>false
theorem M2A{f:FuncId}{l:L}{e:List Rv}{a:List AV}{b:AV}{rows:List Row}{n:Nat}(c:YQ P f n l e=true)(g:a.length=n)(d:rdtL a=a)(h:den P l (post e b rows) (st0 a)):Snd P f a b rows:=by
 unfold YQ at c;split at c
 .rename_i j i;subst g;exact O2A i c d h
 cases c
end
end
section
inductive It
 |l (c:L)
 |mk (id:Nat)
 |lp (I:Nat->St->Prop) (m:Nat)
 |jn (J:St->Prop)
def denK(P:Program)(R:Ex->St->Prop):List It->Ex->St->Prop
 |[],e,s=>R e s|.l c::k,e,s=>match e with
  |.nrm=>den P c (denK P R k) s
  |e=>denK P R k e s
 |.mk id::k,e,s=>match e with
  |.ext id'=>if id'=id then denK P R k .nrm s else denK P R k (.ext id') s
  |e=>denK P R k e s
 |.lp I m::k,e,s=>match e with
  |.nrm=>∃m',m'<m/\I m' s
  |e=>denK P R k e s
 |.jn J::k,e,s=>match e with
  |.nrm=>J s
  |e=>denK P R k e s
def W(P:Program)(R:Ex->St->Prop)(k:List It)(s:St):Prop:=denK P R k .nrm s
section
variable{P:Program}{R:Ex->St->Prop}{k:List It}{s:St}
theorem X20{K v:Ex->St->Prop}(h:∀e s,K e s->v e s):∀{l:L}{s:St},den P l K s->den P l v s:=by
 have u:∀(o:LOp) (K v:St->Prop) (s:St),(∀s,K s->v s)->wop P o K s->wop P o v s:=by
  intro o
  induction o with
  |g t want o M =>
   intro K v s h j
   simp only[wop]at j ⊢
   split at j
   .split at j
    .rename_i e;rw[yd e];exact M K v s h j
    rename_i e;rw[ye e];exact h _ j
   .exact h _ j
   exact j
  |pk d x y z =>
   intro K v s h j
   simp only[wop]at j ⊢
   cases hx:s.get x<;>rw[hx]at j<;>first|exact j|exact h _ j
  |eb d ne x y =>
   intro K v s h j
   simp only[wop]at j ⊢
   cases hx:s.get x<;>rw[hx]at j<;>cases hy:s.get y<;>rw[hy]at j<;>first|exact j|exact h _ j
  |es d ne ks x y =>
   intro K v s h j
   simp only[wop]at j ⊢
   cases hx:s.get x<;>rw[hx]at j<;>cases hy:s.get y<;>rw[hy]at j<;>first
     |exact j
     | (rename_i a b;cases hz:eqCells ks a b<;>simp only[hz]at j ⊢<;>first|exact j|exact h _ j)
  |st p x n =>
   intro K v s h j
   simp only[wop]at j ⊢
   cases hp:s.get p<;>rw[hp]at j<;>first
     |exact j
     | (rename_i k off;cases hk:s.bx k<;>simp only[hk]at j ⊢<;>first|exact j|exact⟨j.1,j.2.1,j.2.2.1,h _ j.2.2.2⟩)
     | (rename_i k i off
        cases hk:s.rw k<;>simp only[hk]at j ⊢<;>first
          |exact j
          | (rename_i r
             cases he:r.es[i]?<;>cases hd:s.dt (s.get x)<;>simp only[he,hd]at j ⊢<;>first|exact j|exact⟨j.1,j.2.1,j.2.2.1,j.2.2.2.1,h _ j.2.2.2.2⟩))
  |ms d sz by' z x =>
   intro K v s h j
   simp only[wop]at j ⊢
   cases hx:s.get x<;>rw[hx]at j<;>first|exact j|exact⟨j.1,j.2.1,j.2.2.1,h _ j.2.2.2⟩
  |mm d mx x y =>
   intro K v s h j
   simp only[wop]at j ⊢
   cases hx:s.get x<;>rw[hx]at j<;>cases hy:s.get y<;>rw[hy]at j<;>first|exact j|exact⟨j.1,h _ j.2⟩
  |ln d x =>
   intro K v s h j
   simp only[wop]at j ⊢
   split at j
   .exact λq=>h _ (j q)
   .split at j
    .exact λq=>h _ (j q)
    exact j
   .exact h _ j
   exact j
  |cl d f xs =>
   intro K v s h j
   simp only[wop]at j ⊢
   obtain⟨N,D,A,rows,C,hr,F⟩:=j
   exact⟨N,D,A,rows,C,hr,h _ F⟩
  |cq d f xs =>
   intro K v s h j
   simp only[wop]at j ⊢
   obtain⟨N,D,A,rows,C,F⟩:=j
   exact⟨N,D,A,rows,C,h _ F⟩
  |cc d f xs =>
   intro K v s h j
   simp only[wop]at j ⊢
   obtain⟨N,D,f,cap,as',e,hf,A,rows,C,F⟩:=j
   exact⟨N,D,f,cap,as',e,hf,A,rows,C,h _ F⟩
  |cm d f xs =>
   intro K v s h j
   simp only[wop]at j ⊢
   obtain⟨Z,S,bin,rin,N,D,C,F,hn,hg,Φ,O,R⟩:=j
   exact⟨Z,S,bin,rin,N,D,C,F,hn,hg,Φ,O,λn1 A E upd new V U T q3=>⟨(R n1 A E upd new V U T q3).1,(R n1 A E upd new V U T q3).2.1,(R n1 A E upd new V U T q3).2.2.1,h _ (R n1 A E upd new V U T q3).2.2.2⟩⟩
  |lq d x =>
   intro K v s h j
   simp only[wop]at j ⊢
   split at j
   .rename_i e;exact⟨j.1,h _ j.2⟩
   .split at j
    .exact⟨j.1,h _ j.2⟩
    exact j
   .exact h _ j
   exact j
  |cn d f xs =>
   intro K v s h j
   simp only[wop]at j ⊢
   obtain⟨N,D,C,hn,Ψ,F,O⟩:=j
   exact⟨N,D,C,hn,Ψ,F,λcs q=>h _ (O cs q)⟩
  |ia d x i n =>
   intro K v s h j
   simp only[wop]at j ⊢
   split at j
   .split at j
    .split at j
     .exact⟨j.1,h _ j.2⟩
     exact j
    exact j
   .split at j
    .split at j
     .exact⟨j.1,h _ j.2⟩
     exact j
    exact j
   exact j
  |old d x =>
   intro K v s h j
   simp only[wop]at j ⊢
   split at j
   .split at j
    .exact λn q=>h _ (j n q)
    exact j
   exact j
  |co d f xs =>
   intro K v s h j
   simp only[wop]at j ⊢
   obtain⟨N,D,A,rows,C,F,O⟩:=j
   exact⟨N,D,A,rows,C,F,h _ O⟩
  |cf d f m xs =>
   intro K v s h j
   simp only[wop]at j ⊢
   obtain⟨hm,N,Φ,S,D,C,F,O⟩:=j
   exact⟨hm,N,Φ,S,D,C,F,λk q=>h _ (O k q)⟩
  |b2s d x =>
   intro K v s h j
   simp only[wop]at j ⊢
   split at j
   .obtain⟨l,D,C⟩:=j;exact⟨l,D,h _ C⟩
   .exact h _ j
   exact j
  |cs t =>
   intro K v s h j
   simp only[wop]at j ⊢
   split at j
   .exact⟨λq=>h _ (j.1 q),λq=>h _ (j.2 q)⟩
   exact j
  |bs d sz ps own =>
   intro K v s h j
   simp only[wop]at j ⊢
   split at j
   .obtain⟨D,C,F,O,R⟩:=j
    refine⟨D,C,F,O,?_⟩
    split at R
    .rename_i e;rw[yd e];exact h _ R
    rename_i e;rw[ye e];exact h _ R
   exact j
  |_ =>
   intro K v s h j
   simp only[wop]at j ⊢
   repeat' split at j
   all_goals first
     |exact j
     |exact h _ j
     |exact⟨j.1,h _ j.2⟩
     |exact⟨j.1,j.2.1,h _ j.2.2⟩
     |exact⟨j.1,j.2.1,j.2.2.1,h _ j.2.2.2⟩
     |exact⟨j.1,j.2.1,j.2.2.1,j.2.2.2.1,h _ j.2.2.2.2⟩
 have w:∀(H:List LOp) (K v:St->Prop) (s:St),(∀s,K s->v s)->wops P H K s->wops P H v s:=by
  intro H
  induction H with|nil=>exact λK v s h j=>h _ j|cons l H M=>exact λK v s h j=>u l _ _ s (λs' q=>M K v s' h q) j
 have J:∀(H:List LOp) (acc:List AV) (K v:St->Prop) (s:St),(∀s,K s->v s)->Q0q P H acc K s->Q0q P H acc v s:=by
  intro H
  induction H with
  |nil=>exact λacc K v s h j=>h _ j|cons l H M =>
   intro acc K v s h j
   cases l with|al d z=>simp only[Q0q]at j ⊢;exact⟨j.1,M _ K v _ h j.2⟩|_=>simp only[Q0q]at j ⊢;exact⟨j.1,u _ _ _ s (λs' q=>M _ K v s' h q) j.2⟩
 have Q:∀(l:LOp) (K v:St->Prop) (s:St),(∀s,K s->v s)->zw P l K s->zw P l v s:=by
  intro l K v s h j
  cases l with
  |cm d f xs =>
   obtain⟨Z,bin,D,C,F,hn,Φ,hC,hk⟩:=j
   exact⟨Z,bin,D,C,F,hn,Φ,hC,λn1 A E us new V U T=>⟨(hk n1 A E us new V U T).1,h _ (hk n1 A E us new V U T).2⟩⟩
  |cl d f xs =>
   obtain⟨N,D,A,row,C,h8,hd,F,O,R⟩:=j
   exact⟨N,D,A,row,C,h8,hd,F,O,h _ R⟩
  |bs d sz ps own=>exact⟨j.1,u _ _ _ s h j.2⟩|ap d x y sz b=>exact⟨j.1,u _ _ _ s h j.2⟩|_=>first
    | (simp only[zw]at j ⊢;exact u _ _ _ s (λs' q=>⟨q.1,h s' q.2⟩) j)
    |exact u _ _ _ s h j
 have B:∀(c:Zc) (ow:List Nat) (H:List (Bool×LOp)) (K v:St->Prop) (s:St),(∀s,K s->v s)->ZK P c ow H K s->ZK P c ow H v s:=by
  intro c ow H
  induction H with
  |nil=>exact λK v s h j=>h _ j|cons it H M =>
   intro K v s h j
   obtain⟨f,l⟩:=it
   cases f with|true=>exact Q l _ _ s (λs' q=>M K v s' h q) j|false=>exact⟨j.1,j.2.1,u l _ _ _ (λs' q=>⟨q.1,M K v _ h q.2⟩) j.2.2⟩
 intro l
 induction l generalizing K v with
 |skip=>exact λj=>h _ _ j|ro ow als W tl=>exact λj=>B _ _ _ _ _ _ (λs' q=>⟨q.1,w _ _ _ _ (λs' q=>h _ _ q) q.2⟩) j|rz als W tl=>exact λj=>B _ _ _ _ _ _ (λs' q=>w _ _ _ _ (λs' q=>h _ _ q) q) j|reg H=>exact λj=>w H _ _ _ (λs' q=>h _ _ q) j|rq m H=>exact λj=>J _ _ _ _ _ (λs' q=>w _ _ _ _ (λs' q=>h _ _ q) q) j|seq x y Y X =>
  intro s j
  simp only[den]at j ⊢
  refine Y (λe s' q=>?_) j
  cases e with|nrm=>exact X h q|_=>exact h _ _ q
 |cond c x y Y X =>
  intro s j
  simp only[den]at j ⊢
  split at j
  .exact⟨λq=>Y h (j.1 q),λq=>X h (j.2 q)⟩
  exact j
 |blk id x M =>
  intro s j
  simp only[den]at j ⊢
  refine M (λe s' q=>?_) j
  cases e with|ext id'=>simp only at q ⊢;split<;>rename_i e<;>simp only[e,yb,yc]at q<;>exact h _ _ q|_=>exact h _ _ q
 |loop x M =>
  intro s j
  simp only[den]at j ⊢
  obtain⟨I,n,h0,hr⟩:=j
  refine⟨I,n,h0,λm s' hI=>M (λe s'' q=>?_) (hr m s' hI)⟩
  cases e with|nrm=>exact q|_=>exact h _ _ q
 |exit id=>exact λj=>h _ _ j|ret=>exact λj=>h _ _ j|scope x M=>exact λj=>M h j|gw x M=>exact λ⟨G,D,C,F,O⟩=>⟨G,D,C,F,M h O⟩
@[simp] theorem W_reg {a:List LOp}:W P R (.l (.reg a)::k) s=wops P a (W P R k) s:=_root_.id rfl
@[simp] theorem W_rq {m:Nat}{a:List LOp}:W P R (.l (.rq m a)::k) s=Q0q P (a.take m) [] (wops P (a.drop m) (W P R k)) (s.kills (alKeys (a.take m))):=_root_.id rfl
@[simp] theorem W_rz {als:List ZA}{a:List ZI}{b:List LOp}:W P R (.l (.rz als a b)::k) s=ZK P (zcOf (a.map Prod.snd)) [] (a.map Prod.snd) (λs'=>wops P b (W P R k) (alZ s' als)) (s.kills (als.map (·.2.1))):=_root_.id rfl
@[simp] theorem W_ro {ow:List Nat}{als:List ZA}{a:List ZI}{b:List LOp}:W P R (.l (.ro ow als a b)::k) s=ZK P (zcOf (a.map Prod.snd)) ow (a.map Prod.snd) (λs'=>(∀d∈ow,s'.e d=.ptr d 0)/\wops P b (W P R k) (alZ s' als)) (s.kills (als.map (·.2.1))):=_root_.id rfl
@[simp] theorem J2k {i d:Nat}{z:List AV}{r:List ZA}:alZ s ((i,d,z)::r)=alZ { s with e:=upd s.e d (.ptr d 0),bx:=λk=>if k=d then some z else s.bx k } r:=_root_.id rfl
@[simp] theorem W_seq {x y:L}:W P R (.l (.seq x y)::k) s=W P R (.l x::.l y::k) s:=by show den P x _ s=den P x _ s;congr 1
@[simp] theorem W2F {c:X}{x y:L}:W P R (.l (.cond c x y)::k) s=match s.get c with
 |.bool t=>(t=true->W P R (.l x::k) s)/\(t=false->W P R (.l y::k) s)|_=>False:=_root_.id rfl
@[simp] theorem W_blk {a:Nat}{x:L}:W P R (.l (.blk a x)::k) s=W P R (.l x::.mk a::k) s:=by show den P x _ s=den P x _ s;congr 1
@[simp] theorem Y2w {x:L}:W P R (.l (.scope x)::k) s=W P R (.l x::k) s:=_root_.id rfl
theorem W_gw{x:L}(G:GW)(c:G.ok=true)(b:nooT s G.te)(a:nooB s G.tb)(h:W P R (.l x::k) (s.gw G)):W P R (.l (.gw x)::k) s:=⟨G,c,b,a,h⟩
@[simp] theorem Q2F {a:Nat}:W P R (.l (.exit a)::k) s=denK P R k (.ext a) s:=_root_.id rfl
@[simp] theorem U2F:W P R (.l .ret::k) s=denK P R k .ret s:=_root_.id rfl
@[simp] theorem X1U {b a:Nat}:denK P R (.mk b::k) (.ext a) s=if a=b then W P R k s else denK P R k (.ext a) s:=_root_.id rfl
theorem J2p{x:L}(I:Nat->St->Prop)(n:Nat)(c:I n s)(h:∀m s',I m s'->W P R (.l x::.lp I m::k) s'):W P R (.l (.loop x)::k) s:=by refine⟨I,n,c,λm s' b=>?_⟩;refine X20 (λe a q=>?_) (h m s' b);cases e<;>exact q
theorem X2E{l:L}(h:W P R [.l l] s):den P l R s:=by refine X20 (λe a q=>?_) h;cases e<;>exact q
def V2B(P:Program)(d:Nat)(ls:List LOp)(acc:List AV)(K:St->Prop)(s':St):Prop:=Q0q P ls (s'.e d::acc) K s'
@[simp] theorem Z2i {d:Nat}{z:List AV}{a:List LOp}{acc:List AV}{K:St->Prop}:Q0q P (.al d z::a) acc K s=((∀v∈acc,v.dead d=v)/\Q0q P a (.ptr d 0::U7 d z++acc) K (alSt s d z)):=_root_.id rfl
@[simp] theorem J21 {l:LOp}{a:List LOp}{acc:List AV}{K:St->Prop}(h:isAl l=false):Q0q P (l::a) acc K s=(scOk s l/\wop P l (V2B P l.dst a acc K) s):=by cases l<;>first|rfl|simp[isAl]at h
def J2g(P:Program)(c:Zc)(ow:List Nat)(d:Nat)(r:List (Bool×LOp))(K:St->Prop)(s s':St):Prop:=kfz c (s.hide ow) (s'.e d)=true/\ZK P c ow r K (s.set d (s'.e d))
@[simp] theorem U1V {c:Zc}{ow:List Nat}{d:Nat}{r:List (Bool×LOp)}{K:St->Prop}{s':St}:J2g P c ow d r K s s'=(kfz c (s.hide ow) (s'.e d)=true/\ZK P c ow r K (s.set d (s'.e d))):=_root_.id rfl
@[simp] theorem Z2q {c:Zc}{ow:List Nat}{l:LOp}{r:List (Bool×LOp)}{K:St->Prop}:ZK P c ow ((false,l)::r) K s=(((∀t∈l.rds,kfz c s (s.e t)=true)\/L1K r=true)/\scOk ((s.hide ow).stripc c) l/\wop P l (J2g P c ow l.dst r K s) ((s.hide ow).stripc c)):=_root_.id rfl
@[simp] theorem Q2o {ow:List Nat}(i:Nat):(s.hide ow).e i=s.e i:=_root_.id rfl
attribute [simp] L1K W0D
@[simp] theorem Y2q {c:Zc}{ow:List Nat}{l:LOp}{r:List (Bool×LOp)}{K:St->Prop}:ZK P c ow ((true,l)::r) K s=zw P l (ZK P c ow r K) s:=_root_.id rfl
attribute [simp] zcOf V1K W0J AV.ks ksL rO rS clK clKs
attribute [simp] isCm Y0C
@[simp] theorem J2j (i:Nat):s.get (.t i)=s.e i:=rfl
@[simp] theorem get_c (a:AV):s.get (.c a)=a:=rfl
@[simp] theorem e_set (d i:Nat)(v:AV):(s.set d v).e i=if i=d then v else s.e i:=rfl
@[simp] theorem bx_set (d:Nat)(v:AV):(s.set d v).bx=s.bx:=rfl
@[simp] theorem rw_set (d:Nat)(v:AV):(s.set d v).rw=s.rw:=rfl
@[simp] theorem e_kill (d i:Nat):(s.kill d).e i=(s.e i).dead d:=rfl
@[simp] theorem bx_kill (d i:Nat):(s.kill d).bx i=if i=d then none else(s.bx i).map (U7 d):=rfl
@[simp] theorem rw_kill (d i:Nat):(s.kill d).rw i=if i=d then none else s.rw i:=rfl
@[simp] theorem e_st0 (l:List AV)(i:Nat):(st0 l).e i=l.getD i .und:=rfl
@[simp] theorem bx_st0 (l:List AV)(i:Nat):(st0 l).bx i=none:=rfl
@[simp] theorem rw_st0 (l:List AV)(i:Nat):(st0 l).rw i=none:=rfl
section wks
variable{p:Nat->Prop}
@[simp] theorem J1V (a:AV):AV.wk1 p a a↔True:=by cases a<;>simp[AV.wk1]
@[simp] theorem Z2x (t:Tag)(b:Nat)(a:List AV):AV.wk1 p .nl (.sl t b a)↔t.isOwn=false/\a=[]:=Iff.rfl
@[simp] theorem U2q (i:Nat):AV.wk1 p .nl (.sref i)↔p i:=Iff.rfl
theorem M1a{R:AV->AV->Prop}(h:∀a,R a a):∀l,wkLs R l l
 |[]=>trivial|a::l=>⟨h a,M1a h l⟩
@[simp] theorem L1V (a:AV):AV.wkA p a a↔True:=by cases a<;>simp[AV.wkA,J1V];rename_i cs;simpa using M1a (λa=>(J1V (p:=p) a).2 trivial) cs
@[simp] theorem wkA_agg (cs a:List AV):AV.wkA p (.agg cs) (.agg a)↔wkLs (AV.wk1 p) cs a:=Iff.rfl
@[simp] theorem wk_tup (cs a:List AV):AV.wk p (.tup cs) (.tup a)↔wkLs (AV.wkA p) cs a:=Iff.rfl
attribute [simp] wkLs
end wks
def argsW(s:St)(xs:List X)(as:List AV):Prop:=match s.args xs with|some l=>wkLs (AV.wkA λ_=>False) l as|none=>False
attribute [simp] argsW
section ev
variable(a b:Int)(x y:List UInt8)(k:IntKind)
end ev
theorem M1R{n:Int}(b:-9223372036854775808<=n)(a:n<=9223372036854775807):IntKind.i64.wrap n=n:=by unfold IntKind.wrap;simp[IntKind.bits,IntKind.signed];omega
@[simp] theorem W25 {i n:Nat}(h:i<n)(a:n<=9223372036854775807):IntKind.i64.wrap ((i:Int)+1)=((i+1:Nat):Int):=by rw[M1R (by omega) (by omega)];simp
end
attribute [simp] wop.eq_1 wop.eq_2 wop.eq_3 wop.eq_4 wop.eq_5 wop.eq_6 wop.eq_7 wop.eq_8 wop.eq_9 wop.eq_10 wop.eq_11 wop.eq_12 wop.eq_13 wop.eq_14 wop.eq_15 wop.eq_16 wop.eq_17 wop.eq_18 wop.eq_19 wop.eq_20 wop.eq_21 wop.eq_22 wop.eq_23 wop.eq_24 wop.eq_25 wop.eq_26 wop.eq_27 wop.eq_28 wop.eq_29 wop.eq_30 wop.eq_36 wop.eq_37
attribute [simp] LOp.dst scOk U1M alSt LOp.rds X.rd rdO AV.kf kfL bO
attribute [simp] AV.nwd nwdL AV.ren renL St.addrows O1c ix U0a
attribute [simp] ixO Q0W
attribute [simp] Tag.isOwn AV.noO noOL
mutual
theorem V2C:∀a:AV,Nw a->a.noO
 |.bool _,_ | .int _ _,_ | .str _,_ | .nl,_ | .el,_ | .sref _,_ | .ptr _ _,_ | .rpt _ _ _,_ | .und,_ | .bad,_=>by simp[AV.noO]
 |.ept _ _,h | .eot _ _,h=>by simp[Nw]at h
 |.sl t sz es,h=>by
  simp only[Nw]at h
  rcases h with⟨rfl,h⟩|⟨rfl,h⟩
  .exact⟨h,trivial⟩
  .exact⟨rfl,J19 es h⟩
 |.agg cs,h | .tup cs,h | .fn _ cs,h=>by simp only[AV.noO];simp only[Nw]at h;exact J19 cs h
theorem J19:∀l:List AV,NwL l->noOL l
 |[],_=>trivial
 |a::l,h=>⟨V2C a h.1,J19 l h.2⟩
end
theorem M2t{l:List AV}(h:NwL l):noOL l=True:=eq_true (J19 l h)
attribute [simp low] M2t
attribute [simp] St.rvs St.rv1 O1c AV.out outL Nw NwL Q0D St.ld U0u allOne AV.one AV.cells U7 AV.dead AV.rdt rdtL St.dt St.dtL Y0o putC nosr plain St.kills alKeys
end
section
inductive Ty
 |bool
 |int (k:IntKind)
 |str
 |sl (e:Ty)
 |st (fs:List Ty)
mutual
def Ty.size:Ty->Nat
 |.st fs=>Z1L fs
 |_=>1
def Z1L:List Ty->Nat
 |[]=>0
 |f::fs=>f.size+Z1L fs
end
def Ty.isSt:Ty->Bool
 |.st _=>true|_=>false
mutual
def Ty.ok:Ty->List AV->Prop
 |.bool,l=>∃b,l=[.bool b]
 |.int k,l=>∃n,l=[.int k n]/\(Lit.int k n).wf=true
 |.str,l=>∃s,l=[.str s]/\s.length<=maxLen
 |.sl e,l=>l=[.nl]\/∃es:List AV,l=[.sl .rd e.size es]/\es.length<=maxLen/\∀x∈es,x.cells.length=e.size/\(if e.isSt then ∃cs,x=.agg cs else x.one=true)/\Ty.ok e x.cells
 |.st fs,l=>okL fs l
def okL:List Ty->List AV->Prop
 |[],l=>l=[]
 |f::fs,l=>∃l1 l2,l=l1++l2/\Ty.ok f l1/\okL fs l2
end
mutual
def L0K(P:Program):Ty->TypeId->Bool
 |.bool,t=>(match P.underlying t with|some .bool=>true|_=>false)
 |.int k,t=>(match P.underlying t with|some (.int k')=>decide (k'=k)|_=>false)
 |.str,t=>(match P.underlying t with|some .string=>true|_=>false)
 |.sl e,t=>(match P.underlying t with|some (.slice u)=>L0K P e u&&P.cellsOf u==e.size&&e.size != 0|_=>false)
 |.st fs,t=>(match P.underlying t with|some (.struct gs)=>L1Q P fs gs.toList 0&&P.cellsOf t==Z1L fs|_=>false)
def L1Q(P:Program):List Ty->List Field->Nat->Bool
 |[],[],_=>true
 |f::fs,g::gs,o=>g.offset==o&&L0K P f g.type&&P.cellsOf g.type==f.size&&L1Q P fs gs (o+f.size)
 |_,_,_=>false
end
section
variable{H:Type}{enc:TypeId×Value->H}{P:Program}{w:World}{base:Nat}{spare:Nat->Bool}{held:Bool}
def AllS(w:World):Nat->Nat->Prop:=λb _=>b<w.heap.size
def Cells(w:World)(l:List AV)(cs:List Value):Prop :=l.length=cs.length/\∀(i:Nat) (a:AV) (v:Value),l[i]?=some a->cs[i]?=some v->a.one=true/\Rd w (AllS w) rdT a v
theorem J2f{a:AV}{v:Value}(d:a.one=true)(h:Rd w (AllS w) rdT a v):Cells w [a] [v]:=by refine⟨rfl,λi x u b c=>?_⟩;cases i with|zero=>simp at b c;subst b;subst c;exact⟨d,h⟩|succ i=>simp at b
theorem O2f{e f:List AV}{j h:List Value}(b:Cells w e j)(g:Cells w f h):Cells w (e++f) (j++h):=by
 refine⟨by simp[b.1,g.1],λi x u c d=>?_⟩;rcases Nat.lt_or_ge i e.length with a|a
 .rw[yK a]at c;rw[yK (by rw[← b.1];exact a)]at d;exact b.2 i x u c d
 rw[yS a]at c;rw[yS (by rw[← b.1];exact a),← b.1]at d;exact g.2 _ x u c d
theorem O2v{b o:Nat}{c:Option Nat}{v:Value}(h:w.cell? ⟨b,o,c⟩=some v):b<w.heap.size:=by
 unfold World.cell? at h;rcases Nat.lt_or_ge b w.heap.size with a|a
 .exact a
 rw[Array.getElem?_eq_none a]at h;cases h
theorem M2f{b o:Nat}{a:Option Nat}{v:Value}(h:w.cell? ⟨b,o,a⟩=some v):a=none:=by
 unfold World.cell? at h;split at h
 .split at h
  .cases h
  rename_i c;simpa using c
 cases h
mutual
theorem X1C:∀{τ:Ty} {l:List AV},τ.ok l->l.length=τ.size
 |.bool,l,h=>by obtain⟨b,rfl⟩:=(by simpa[Ty.ok]using h:∃b,l=[.bool b]);rfl
 |.int k,l,h=>by simp only[Ty.ok]at h;obtain⟨n,rfl,_⟩:=h;rfl
 |.str,l,h=>by simp only[Ty.ok]at h;obtain⟨n,rfl,_⟩:=h;rfl
 |.sl e,l,h=>by
  simp only[Ty.ok]at h
  rcases h with rfl|⟨es,rfl,_⟩<;>rfl
 |.st fs,l,h=>by simp only[Ty.ok]at h;simp only[Ty.size];exact Z1Y h
theorem Z1Y:∀{fs:List Ty} {l:List AV},okL fs l->l.length=Z1L fs
 |[],l,h=>by simp only[okL]at h;subst h;rfl
 |f::fs,l,h=>by
  simp only[okL]at h
  obtain⟨l1,l2,rfl,h1,h2⟩:=h
  simp only[yU,Z1L,X1C h1,Z1Y h2]
end
theorem Y2p{b:Nat}(c:0<b):∀(f:List AV),(∀e∈f,e.cells.length=b)->∀(j:Nat)(a:AV),(flat f)[j]?=some a->∃e,f[j / b]?=some e/\e.cells[j % b]?=some a
 |[],_,j,a,h=>by simp[flat]at h|e::f,hs,j,a,h=>by
  simp only[flat,ya]at h;have g:=hs e (by simp);rcases Nat.lt_or_ge j b with d|d
  .rw[yK (by rw[g];exact d)]at h;exact⟨e,by simp[Nat.div_eq_of_lt d],by rw[Nat.mod_eq_of_lt d];exact h⟩
  .rw[yS (by rw[g];exact d),g]at h;obtain⟨m,l,k⟩:=Y2p c f (λx i=>hs x (by simp[i])) (j-b) a h;refine⟨m,?_,?_⟩
   .have:j / b=(j-b) / b+1:=by rw[← Nat.add_div_right _ c];congr 1;omega
    rw[this];simpa using l
   .have:j % b=(j-b) % b:=by rw[← Nat.add_mod_right (j-b) b];congr 1;omega
    rw[this];exact k
mutual
theorem M0T:∀(τ:Ty) {t:TypeId} {fuel:Nat} {cs:List Value} {x:DataW H×List MemPlace},L0K P τ t=true->DataW.trod enc P w base spare held fuel t cs=some x ->
  ∃l,τ.ok l/\Cells w l cs
 |.bool,t,fuel,cs,x,hc,h=>by
  simp only[L0K]at hc
  split at hc
  .rename_i hu
   cases fuel with
   |zero=>simp[DataW.trod]at h
   |succ fuel =>
    unfold DataW.trod at h
    rw[hu]at h
    split at h<;>simp_all
    rename_i b0
    exact⟨[.bool b0],by simp only[Ty.ok];exact⟨_,rfl⟩,J2f rfl (.bool _)⟩
  .cases hc
 |.int k,t,fuel,cs,x,hc,h=>by
  simp only[L0K]at hc
  split at hc
  .rename_i k' hu
   cases fuel with
   |zero=>simp[DataW.trod]at h
   |succ fuel =>
    have hk:k'=k:=by simpa using hc
    subst hk
    unfold DataW.trod at h
    rw[hu]at h
    split at h<;>simp_all
    rename_i k1 n1 _
    obtain⟨⟨rfl,h2⟩,_⟩:=h
    exact⟨[.int _ n1],by simp only[Ty.ok];exact⟨n1,rfl,h2⟩,J2f rfl (.int _ _)⟩
  .cases hc
 |.str,t,fuel,cs,x,hc,h=>by
  simp only[L0K]at hc
  split at hc
  .rename_i hu
   cases fuel with
   |zero=>simp[DataW.trod]at h
   |succ fuel =>
    unfold DataW.trod at h
    rw[hu]at h
    split at h<;>simp_all
    rename_i s0
    refine⟨[.str s0.data.toList],?_,J2f rfl ?_⟩
    .simp only[Ty.ok]
     exact⟨_,rfl,by have h1:=h.1;unfold ByteArray.size at h1;rw[Array.length_toList];exact h1⟩
    .have:s0=⟨s0.data.toList.toArray⟩:=by simp
     have h2:=Rd.str (w:=w) (S:=AllS w) (T:=rdT) s0.data.toList
     rw[← this]at h2
     exact h2
  .cases hc
 |.sl e,t,fuel,cs,x,hc,h=>by
  simp only[L0K]at hc
  split at hc
  .rename_i u hu
   simp only[yD,beq_iff_eq,bne_iff_ne]at hc
   obtain⟨⟨hce,hcc⟩,hne⟩:=hc
   rcases Go.Deep.open_slice hu h with⟨rfl,_⟩|⟨a,len,cap,m,n,D,Pl,rfl,hb,hlc,hcm,hm,_,hel⟩
   .exact⟨[.nl],by simp[Ty.ok],J2f rfl .nl⟩
   .have hlm:len<=m:=by rw[hm];split<;>omega
    have hex:∀i,i<len->∃(l:List AV) (cs':List Value),e.ok l/\Cells w l cs'/\w.cells? base (a.add (i*e.size)) e.size=some cs':=λi hi=>by
     obtain⟨cs',h1,h2⟩:=hel i (by omega)
     rw[hcc]at h1
     obtain⟨l,q1,q2⟩:=M0T e hce h2
     exact⟨l,cs',q1,q2,h1⟩
    classical
    let L:Nat->List AV:=λi=>if hi:i<len then(hex i hi).choose else[]
    have hL:∀i,i<len->∃cs',e.ok (L i)/\Cells w (L i) cs'/\w.cells? base (a.add (i*e.size)) e.size=some cs':=λi hi=>by
     have:=(hex i hi).choose_spec
     simp only[L,dif_pos hi];exact this
    let mkV:List AV->AV:=λl=>if e.isSt then .agg l else l.getD 0 .bad
    have hmk:∀l cs',e.ok l->Cells w l cs'->(mkV l).cells=l/\(if e.isSt then ∃cs,mkV l=.agg cs else(mkV l).one=true):=λl cs' hl hcl=>by
     simp only[mkV]
     cases hst:e.isSt with
     |true=>simp[AV.cells]
     |false =>
      have hsz:=X1C hl
      have:e.size=1:=by cases e<;>simp[Ty.isSt]at hst<;>rfl
      rw[this]at hsz
      match l,hsz with
      |[y],_ =>
       have hlen:=hcl.1
       simp at hlen
       obtain⟨v0,hv0⟩:∃v0,cs'[0]?=some v0:=⟨cs'[0]'(by omega),yA (by omega)⟩
       have h1:=(hcl.2 0 y v0 rfl hv0).1
       simp
       exact⟨by cases y<;>first|rfl|simp[AV.one]at h1,h1⟩
    let es:List AV:=(List.range len).map λi=>mkV (L i)
    have hes:es.length=len:=by simp[es]
    have hget:∀i e',es[i]?=some e'->i<len/\e'=mkV (L i):=λi e' hi=>by
     simp only[es,yF]at hi
     obtain⟨j,hj,rfl⟩:=yC hi
     have hlt:i<len:=by have:=(yB hj).1;simpa using this
     rw[List.getElem?_range hlt]at hj
     cases hj
     exact⟨hlt,rfl⟩
    have hall:∀x∈es,x.cells.length=e.size/\(if e.isSt then ∃cs,x=.agg cs else x.one=true)/\e.ok x.cells:=λx hx=>by
     obtain⟨i,hi,rfl⟩:=List.getElem_of_mem hx
     obtain⟨hlt,he⟩:=hget i _ (yA hi)
     obtain⟨cs',q1,q2,q3⟩:=hL i hlt
     obtain⟨p1,p2⟩:=hmk _ _ q1 q2
     rw[he,p1]
     exact⟨X1C q1,p2,q1⟩
    refine⟨[.sl .rd e.size es],by simp only[Ty.ok];exact .inr ⟨es,rfl,by omega,hall⟩,J2f rfl ?_⟩
    rcases Nat.eq_zero_or_pos len with h0|hpos
    .have:es=[]:=List.eq_nil_of_length_eq_zero (by omega)
     rw[this,h0]
     exact .sl0 _ _ _ _ λ_ e=>by cases e
    .have hszp:0<e.size:=Nat.pos_of_ne_zero hne
     have hsp:a.spot=none:=by
      obtain⟨cs',q1,q2,q3⟩:=hL 0 hpos
      obtain⟨_,hcl,hat⟩:=World.cells?_some q3
      have:=hat 0 hszp
      simp only[Nat.zero_mul,Addr.add,yb]at this
      rw[yA (by omega)]at this
      obtain⟨b,o,sp⟩:=a
      exact M2f this
     obtain⟨b,o,sp⟩:=a
     simp only at hsp
     subst hsp
     have hadd:∀o k,(⟨b,o,none⟩:Addr).add k=⟨b,o+k,none⟩:=λo k=>by
      unfold Addr.add
      split
      .rename_i hk;subst hk;rfl
      .rfl
     have hcell:∀(j:Nat) (y:AV),(flat es)[j]?=some y->∃v,w.cell? ⟨b,o+j,none⟩=some v/\y.one=true/\Rd w (AllS w) rdT y v:=λj y hj=>by
      obtain⟨e',h1,h2⟩:=Y2p hszp es (λx hx=>(hall x hx).1) j y hj
      obtain⟨hlt,rfl⟩:=hget _ _ h1
      obtain⟨cs',q1,q2,q3⟩:=hL _ hlt
      obtain⟨p1,_⟩:=hmk _ _ q1 q2
      rw[p1]at h2
      obtain⟨_,hcl,hat⟩:=World.cells?_some q3
      have hmod:j % e.size<e.size:=Nat.mod_lt _ hszp
      have h3:=hat (j % e.size) hmod
      rw[hadd,hadd]at h3
      have hjj:o+j / e.size*e.size+j % e.size=o+j:=by
       have:=Nat.div_add_mod j e.size
       rw[Nat.mul_comm]at this;omega
      rw[hjj,yA (by omega)]at h3
      exact⟨_,h3,q2.2 _ _ _ h2 (yA (by omega))⟩
     rw[← hes]
     refine .sl .rd e.size es b o cap (λj=>(w.cell? ⟨b,o+j,none⟩).getD undef) (by omega) hcm (λx hx=>(hall x hx).1) (λj y hj=>?_) (λ_ e=>by cases e) (λj y hj=>?_)
     .obtain⟨v,h1,h2,h3⟩:=hcell j y hj
      rw[h1]
      exact⟨rfl,O2v h1,h2,rfl⟩
     .obtain⟨v,h1,h2,h3⟩:=hcell j y hj
      simp only[h1,Option.getD_some]
      exact h3
  .cases hc
 |.st fs,t,fuel,cs,x,hc,h=>by
  simp only[L0K]at hc
  split at hc
  .rename_i gs hu
   simp only[yD,beq_iff_eq]at hc
   obtain⟨xs,n,_,_,hlen,hxl,hf⟩:=DataW.trod_struct hu h
   have:=J1a fs (gs:=gs.toList) (o:=0) (n:=n) (cs:=cs) hc.1 (λi f hi=>by
    have h1:=hf i f (by simpa using hi)
    have hlt:i<xs.length:=by rw[hxl];have:=(yB hi).1;simpa using this
    rw[yA hlt]at h1
    exact⟨_,h1⟩) (by rw[hlen,hc.2];simp)
   simpa[Ty.ok]using this
  .cases hc
theorem J1a:∀(fs:List Ty) {gs:List Field} {o n:Nat} {cs:List Value},L1Q P fs gs o=true ->
  (∀(i:Nat) (f:Field),gs[i]?=some f->∃x,DataW.trod enc P w base spare held n f.type ((cs.drop f.offset).take (P.cellsOf f.type))=some x)->cs.length=o+Z1L fs ->
  ∃l,okL fs l/\Cells w l (cs.drop o)
 |[],gs,o,n,cs,hc,h,hl=>by
  simp only[Z1L]at hl
  refine⟨[],rfl,?_⟩
  rw[List.drop_eq_nil_of_le (by omega)]
  exact⟨rfl,by intro i a v h;simp at h⟩
 |f::fs,[],o,n,cs,hc,h,hl=>by simp[L1Q]at hc
 |f::fs,g::gs,o,n,cs,hc,h,hl=>by
  simp only[L1Q,yD,beq_iff_eq]at hc
  obtain⟨⟨⟨h1,h2⟩,h3⟩,h4⟩:=hc
  obtain⟨x,hx⟩:=h 0 g rfl
  rw[h1,h3]at hx
  obtain⟨l1,q1,q2⟩:=M0T f h2 hx
  simp only[Z1L]at hl
  obtain⟨l2,q3,q4⟩:=J1a fs (o:=o+f.size) h4 (λi f' hi=>h (i+1) f' (by simpa using hi)) (by omega)
  refine⟨l1++l2,by simp only[okL];exact⟨l1,l2,rfl,q1,q3⟩,?_⟩
  have:cs.drop o=(cs.drop o).take f.size++cs.drop (o+f.size):=by
   rw[← List.drop_drop,List.take_append_drop]
  rw[this]
  exact O2f q2 q4
end
end
end
section
def Ty.okV(τ:Ty)(a:AV):Prop:=match τ with
 |.st fs=>∃cs,a=.agg cs/\okL fs cs
 |τ=>τ.ok [a]
def okVs:List Ty->List AV->Prop
 |[],l=>l=[]|τ::τs,l=>∃a l',l=a::l'/\τ.okV a/\okVs τs l'
def XI(P:Program):List Ty->List TypeId->Bool
 |[],[]=>true|τ::τs,t::ts=>L0K P τ t&&P.readableRec t&&decide (t<P.types.size)&&XI P τs ts|_,_=>false
section
variable{H:Type}{enc:TypeId×Value->H}{P:Program}
theorem Y2B{w:World}{o:Ty}{t:TypeId}{v:Value}{d:DataW H}{p:List MemPlace}{z:Nat}{q:Nat->Bool}{x:Bool}{J:Nat}(f:L0K P o t=true)(r:Value.okWide P w .any J t v)(h:DataW.Trod enc P w z q x t v d p):∃a,o.okV a/\Rd w (AllS w) rdT a v:=by
 obtain⟨E,h⟩:=h;obtain⟨l,g,y⟩:=M0T o f h;have j:v.cells=#[v]->o.size=1->(∀a,l=[a]->o.okV a)->∃a,o.okV a/\Rd w (AllS w) rdT a v:=λB F G=>by have s:=X1C g;rw[F]at s;rw[B]at y;match l,s with|[a],_=>exact⟨a,G a rfl,(y.2 0 a v rfl rfl).2⟩
 cases o with
 |st L =>
  simp[L0K]at f;split at f
  .rename_i gs m;obtain⟨cs,rfl,_⟩:=WideShapes.okWide_struct m r;simp[Ty.ok]at g;refine⟨.agg l,⟨l,rfl,g⟩,?_⟩;have e:cs=cs.toList.toArray:=by simp
   have C:l.length=cs.toList.length:=y.1;have D:=Rd.agg (w:=w) (S:=AllS w) (T:=rdT) l cs.toList C (λa I=>by obtain⟨i,A,rfl⟩:=List.getElem_of_mem I;exact(y.2 i _ _ (yA A) (yA (show i<cs.toList.length by rw[← C];exact A))).1) (λi a v A r=>(y.2 i a v A r).2);rw[← e]at D;exact D
  cases f
 |bool =>
  simp[L0K]at f;split at f
  .rename_i m;obtain⟨b,rfl⟩:=WideShapes.okWide_bool m r;exact j rfl rfl (λa e=>by rw[e]at g;exact g)
  cases f
 |int k =>
  simp[L0K]at f;split at f
  .rename_i K m;obtain⟨b,rfl⟩:=WideShapes.okWide_int m r;exact j rfl rfl (λa e=>by rw[e]at g;exact g)
  cases f
 |str =>
  simp[L0K]at f;split at f
  .rename_i m;obtain⟨b,rfl⟩:=WideShapes.okWide_string m r;exact j rfl rfl (λa e=>by rw[e]at g;exact g)
  cases f
 |sl e =>
  simp[L0K]at f;split at f
  .rename_i u m;obtain⟨a,n,c,rfl⟩:=WideShapes.okWide_slice m r;exact j rfl rfl (λa e=>by rw[e]at g;exact g)
  cases f
theorem Q10{w:World}{l:Nat}{e:Nat->Bool}{k:Bool}{C:Nat}:∀{c:List Ty}{m:List TypeId}{b:List Value}{f:List (DataW H)}{p:List MemPlace},XI P c m=true -> (∀(j:Nat)(t:TypeId)(v:Value),m[j]?=some t->b[j]?=some v->Value.okWide P w .any C t v)->DataW.TrodAll enc P w l e k m b f p -> ∃g,okVs c g/\b.length=g.length/\∀(i:Nat)(a:AV)(v:Value),g[i]?=some a->b[i]?=some v->Rd w (AllS w) rdT a v
 |[],[],b,f,p,_,_,h=>by match b,f,h with|[],[],_=>exact⟨[],rfl,rfl,by intro i a v h;simp at h⟩|[],_::_,h=>cases h|_::_,_,h=>cases h
 |τ::c,t::m,b,f,p,hc,hok,h=>by
  simp[XI]at hc;match b,f,h with
  |v::b,d::f,⟨p1,q1,h1,h2,_⟩ =>obtain⟨a,B,z⟩:=Y2B hc.1.1.1 (hok 0 t v rfl rfl) h1;obtain⟨g,r,A,q⟩:=Q10 hc.2 (λj t v y s=>hok (j+1) t v (by simpa using y) (by simpa using s)) h2;refine⟨a::g,⟨a,g,rfl,B,r⟩,by simp[A],λi x u n o=>?_⟩;cases i with|zero=>simp at n o;subst n;subst o;exact z|succ i=>exact q i x u (by simpa using n) (by simpa using o)
  |[],_,h=>cases ‹List (DataW H)›<;>cases h|_::_,[],h=>cases h
 |[],_::_,_,_,_,hc,_,_=>by simp[XI]at hc|_::_,[],_,_,_,hc,_,_=>by simp[XI]at hc
theorem Y0L{w w':World}(j:laidOutB P=true)(k:Below w.heap.size w w'):∀{f:List Ty}{g:List TypeId}{a:List Value}{c:List (DataW H)}{p:List MemPlace},XI P f g=true -> (∀x∈p,x.block<w.heap.size)->DataW.TrodAll enc P w 0 (λ_=>true) true g a c p->DataW.TrodAll enc P w' 0 (λb=>decide (b<w.heap.size)) true g a c p
 |[],[],a,c,p,_,_,h=>by match a,c,h with|[],[],h=>exact h|[],_::_,h=>cases h|_::_,_,h=>cases h
 |τ::f,t::g,a,c,p,hc,hlt,h=>by simp[XI]at hc;match a,c,h with|v::a,d::c,⟨p1,q1,h1,h2,e⟩ =>subst e;exact⟨p1,q1,Below.trod j hc.1.1.2 hc.1.2 h1 k (λx i=>hlt x (List.mem_append.2 (.inl i))),Y0L j k hc.2 (λx i=>hlt x (List.mem_append.2 (.inr i))) h2,rfl⟩|[],_,h=>cases ‹List (DataW H)›<;>cases h|_::_,[],h=>cases h
 |[],_::_,_,_,_,hc,_,_=>by simp[XI]at hc|_::_,[],_,_,_,hc,_,_=>by simp[XI]at hc
theorem W2i{f:FuncId}{C:Func}{s:ChangeSpec}{a:List Ty}{tb:TypeId}(Z:laidOutB P=true)(l:XI P a C.params.toList=true)(I:C.resultTypes=#[tb])(G:P.underlying tb=some .bool)(i:s.vars=[])(r:∀c:List (DataW H),c.length=a.length->s.fn H c={ results:=[.lit (.bool true)],args:=c })(hS:∀E,okVs a E->Snd P f E (.bool true) [])(W:World)(D:Nat)(args:Array Value)(c gs:List (DataW H))(m:List MemPlace)(y:∀(j:Nat)(t:TypeId)(v:Value),C.params[j]?=some t->args[j]?=some v->Value.okWide P W .any D t v)(S:DataW.Whole enc P C.params.toList s.vars false W args.toList c gs m) : Calls P f args W λe T=>∃v,e=.returned v/\s.post enc P C false true false false W args v T:=by
 have A:=S;obtain⟨p,q,Q,O,rfl,hfz,Y⟩:=S;obtain⟨E,N,z,J⟩:=Q10 l (λj t v V F=>y j t v (by simpa using V) (by simpa using F)) Q;have k:=hS E N W (AllS W) rdT args.toList (λb o h=>h) z J;rw[show args.toList.toArray=args by simp]at k;refine k.mono λe T X=>?_;obtain⟨v,rfl,R,g,_,_,_,hg,_⟩:=X;have F:=hg.bool_inv;subst F;refine⟨_,rfl,?_⟩;have M:∀{a:List Ty} {n:List TypeId} {w:List Value} {c:List (DataW H)} {p:List MemPlace},XI P a n=true->DataW.TrodAll enc P W 0 (λ_=>true) true n w c p->c.length=a.length:=by
  intro a;induction a with
  |nil =>
   intro n w c p l h;cases n with
   |nil=>cases w<;>cases c<;>first|rfl|cases h
   |cons _ _=>simp[XI]at l
  |cons τ a ih =>intro n w c p l h;cases n with|nil=>simp[XI]at l|cons t n =>cases w with|nil=>cases c<;>cases h|cons v w =>cases c with|nil=>cases h|cons d c =>obtain⟨p1,q1,h1,h2,_⟩:=h;simp[XI]at l;simp[ih l.2 h2]
 have L:gs=[]:=by rw[i]at O;cases gs with|nil=>rfl|cons _ _=>exact O.elim
 subst L;have u:=r c (M l Q);have B:=O;rw[i]at B;have K:=B;subst K;refine⟨c,[],p++[],[],p,[],A,?_,?_,?_,R.frame _,λh=>(by cases h)⟩
 .rw[List.append_nil,u,I];refine⟨[],[],⟨1,?_⟩,rfl,rfl⟩;simp[DataW.trod,G,Value.cells]
 .rw[List.append_nil,u];exact Y0L Z R l (λx U=>A.lt x (by simpa using U)) Q
 rw[List.append_nil,u,i];rfl
def Q2f(P:Program)(fn:Func):Bool:=match fn.resultTypes.toList with
 |[t]=>(match P.underlying t with|some .bool=>true|_=>false)
 |_=>false
theorem U2f{P:Program}{a:Func}(h:Q2f P a=true):∃t,a.resultTypes=#[t]/\P.underlying t=some .bool:=by
 unfold Q2f at h;split at h
 .rename_i t e;split at h
  .rename_i b;refine⟨t,?_,b⟩;have:a.resultTypes=a.resultTypes.toList.toArray:=by simp
   rw[this,e]
  cases h
 cases h
theorem Z2b{f:FuncId}{i:Func}{s:ChangeSpec}{τs:List Ty}(m:laidOutB P=true)(n:XI P τs i.params.toList=true)(k:Q2f P i=true)(c:s.vars=[])(d:∀g:List (DataW H),g.length=τs.length->s.fn H g={ results:=[.lit (.bool true)],args:=g })(p:∀l,okVs τs l->Snd P f l (.bool true) [])(W:World)(b:Nat)(args:Array Value)(g gs:List (DataW H))(a:List MemPlace)(h:∀(j:Nat)(t:TypeId)(v:Value),i.params[j]?=some t->args[j]?=some v->Value.okWide P W .any b t v)(o:DataW.Whole enc P i.params.toList s.vars false W args.toList g gs a) : Calls P f args W λe u=>∃v,e=.returned v/\s.post enc P i false true false false W args v u:=by obtain⟨t,r,q⟩:=U2f k;exact W2i m n r q c d p W b args g gs a h o
end
end
section
def rkey(fx:List Bool)(i:Nat):Nat:=if fx.getD i true then 1000000000+i else 500000000+i
def cfb(n j:Nat):Option Nat:=if j<n then some (2000000000+j)else none
def cfr(fx:List Bool)(n i:Nat):Option Nat:=if i<n then some (rkey fx i)else none
def stC(n0:Nat)(args:List AV)(bin:List (List AV))(rin:List Row)(fx:List Bool):St :=
  { e:=λi=>(args.getD i .und).mp (cfb bin.length) (cfr fx rin.length)
    bx:=λk=>if 2000000000<=k then(bin[k-2000000000]?).map (mpL (cfb bin.length) (cfr fx rin.length))else none
    rw:=λk=>if 1000000000<=k then(if fx.getD (k-1000000000) true then rin[k-1000000000]? else none)
      else if 500000000<=k then(if fx.getD (k-500000000) true then none else rin[k-500000000]?)else none
    nx:=n0
    my:=λi=>n0<=i }
def cob(n k:Nat):Option Nat:=if 2000000000<=k then(if k-2000000000<n then some (k-2000000000)else none)else none
def cor(upd:List (Option (List AV)))(ks:List Nat)(n k:Nat):Option Nat :=if 1000000000<=k then(match upd[k-1000000000]? with|some (some _)=>some (k-1000000000)|_=>none)else(ix ks k).map λj=>n+j
def X1R(s:St)(fb fr:Nat->Option Nat):Nat->List (List AV)->Prop
 |_,[]=>True|k,b::bs=>(∃cs,s.bx k=some cs/\b=mpL fb fr cs)/\X1R s fb fr (k+1) bs
def updC(s:St)(fx:List Bool):Nat->List Row->List (Option (List AV))->Prop
 |i,r::rs,some es::us=>(fx.getD i true=true/\s.rw (1000000000+i)=some { r with es:=es }/\r.sh=false)/\updC s fx (i+1) rs us
 |i,_::rs,none::us=>updC s fx (i+1) rs us|_,[],[]=>True|_,_,_=>False
def J0t:List Nat->Prop
 |[]=>True|k::ks=>k<1000000000/\J0t ks
def U28(rs:List Rv)(bin:List (List AV))(rin:List Row)(fx:List Bool)(Φ:Nat->AV->List (List AV)->List (Option (List AV))->List Row->Prop)(e:Ex)(s:St):Prop :=
 (match e with | .ext _=>False|_=>True)/\∃(l:List AV) (bout:List (List AV)) (upd:List (Option (List AV))) (ks:List Nat) (new:List Row),s.rvs rs=some l /\
  X1R s (cob bin.length) (cor upd ks rin.length) 2000000000 bout/\updC s fx 0 rin upd/\ks.Nodup/\J0t ks/\W0Q s ks new/\bout.map List.length=bin.map List.length /\
  Φ s.nx ((O1c l).mp (cob bin.length) (cor upd ks rin.length)) bout upd new
section
variable{P:Program}{c:Cx}{g:Gh}{s:St}{a:Act}{w:World}
theorem Y1R{fb fr:Nat->Option Nat}:∀{bs:List (List AV)}{k:Nat},X1R s fb fr k bs->∀(i:Nat)(b:List AV),bs[i]?=some b->∃cs,s.bx (k+i)=some cs/\b=mpL fb fr cs
 |[],k,_,i,b,h=>by simp at h|b0::bs,k,h,i,b,hb=>by cases i with|zero=>simp at hb;subst hb;exact h.1|succ i =>obtain⟨cs,c,a⟩:=Y1R h.2 i b (by simpa using hb);exact⟨cs,by rw[show k+(i+1)=k+1+i by omega];exact c,a⟩
theorem Z1S{l:List Bool}:∀{rin:List Row}{upd:List (Option (List AV))}{k:Nat},updC s l k rin upd->upd.length=rin.length /\ ∀(i:Nat)(es:List AV),upd[i]?=some (some es)->∃r,rin[i]?=some r/\l.getD (k+i) true=true/\s.rw (1000000000+(k+i))=some { r with es:=es }/\r.sh=false
 |[],[],k,_=>⟨rfl,by intro i es h;simp at h⟩|r::rs,some es::us,k,h=>by obtain⟨j,g⟩:=Z1S h.2;refine⟨by simp[j],λi a b=>?_⟩;cases i with|zero=>simp at b;subst b;exact⟨r,rfl,h.1⟩|succ i =>obtain⟨r',f,e,d,c⟩:=g i a (by simpa using b);rw[show k+(i+1)=k+1+i by omega];exact⟨r',by simpa using f,e,d,c⟩
 |r::rs,none::us,k,h=>by obtain⟨j,g⟩:=Z1S (show updC s l (k+1) rs us from h);refine⟨by simp[j],λi a b=>?_⟩;cases i with|zero=>simp at b|succ i =>obtain⟨r',f,e,d,c⟩:=g i a (by simpa using b);rw[show k+(i+1)=k+1+i by omega];exact⟨r',by simpa using f,e,d,c⟩
 |[],_::_,_,h=>h.elim|_::_,[],_,h=>by simp[updC]at h
theorem L0t:∀{ks:List Nat}{k:Nat},J0t ks->k∈ks->k<1000000000
 |[],k,_,h=>by simp at h|k0::ks,k,h,a=>by
  rcases yX a with rfl|a
  .exact h.1
  .exact L0t h.2 a
theorem Q2E{n0:Nat}{f:FuncId}{fn:Func}{l:L}{rs:List Rv}{args:List AV}{bin:List (List AV)}{rin:List Row}{Φ:Nat->AV->List (List AV)->List (Option (List AV))->List Row->Prop}(fx:List Bool)(hf:P.funcs[f]?=some fn)(hc:chkF P args.length l rs fn=true)(hrl:rin.length<=1000)(h:(∀r∈rin,r.sh=false)->den P l (U28 rs bin rin fx Φ) (stC n0 args bin rin fx)):ConN P f n0 args bin rin Φ:=by
 simp only[chkF,yD,yO]at hc;obtain⟨⟨⟨⟨hc,hr⟩,hr4⟩,hn⟩,hnb⟩:=hc;cases hb:fn.body with
 |none=>rw[hb]at hc;cases hc|some code =>
  rw[hb]at hc;simp only at hc;intro w g vs H hN hvl hvs;have hT:∀gi:Gh,gi.S=g.S->gi.N=g.N->gi.ov=g.ov->TLe g.S g.T gi.T:=λgi _ h2 h3=>TLe.of (λb q=>by rw[h2];exact q) h3;have h:=h (λr a=>by obtain⟨i,hi,rfl⟩:=List.getElem_of_mem a;exact(H.rwn i rin[i] (by simp[hSt,yA hi])).1);let gi:Gh:={ S:=g.S,N:=g.N,bb:=λk=>g.bb (k-2000000000),rv:=λk=>if 1000000000<=k then g.rv (k-1000000000)else g.rv (k-500000000),ov:=g.ov };have C:∀b o,g.S b o->¬ OwnB g bin.length rin.length b:=by
   rintro b o hs (⟨i,hi,e⟩|⟨i,hi,e⟩)
   .exact(H.bxn i bin[i] (by simp[hSt,yA hi])).2 o (by rw[e];exact hs)
   exact((H.rwn i rin[i] (by simp[hSt,yA hi])).2 b e).2 o hs
  let c:Cx:={ nt:=fn.ntmps,X:=OwnB g bin.length rin.length,Y:=g.N,S0:=g.S,w0:=w,rv0:=gi.rv,bb0:=gi.bb,ntb:=hnb,n0:=n0,my:=λi=>n0<=i,ov0:=g.ov,s0:=H.sw,sx:=C };have hrw:∀k r,(stC n0 args bin rin fx).rw k=some r->∃i,i<rin.length/\rin[i]?=some r/\k=rkey fx i/\gi.rv k=g.rv i/\(hSt n0 bin (rin.map some)).rw i=some r:=by
   intro k r hk;simp only[stC]at hk;split at hk
   .rename_i h1;split at hk
    .rename_i h2;have hi:=(yB hk).1;refine⟨k-1000000000,hi,hk,by unfold rkey;rw[yd h2];omega,by simp only[gi,h1,yb],by simp[hSt,hk]⟩
    cases hk
   rename_i h1;split at hk
   .rename_i h3;split at hk
    .cases hk
    rename_i h2;have hi:=(yB hk).1;refine⟨k-500000000,hi,hk,by unfold rkey;rw[ye h2];omega,by simp only[gi,h1,yc],by simp[hSt,hk]⟩
   cases hk
  have hbx:∀k cs,(stC n0 args bin rin fx).bx k=some cs->∃i,i<bin.length/\k=2000000000+i/\gi.bb k=g.bb i/\∃c0,(hSt n0 bin (rin.map some)).bx i=some c0/\cs=mpL (cfb bin.length) (cfr fx rin.length) c0:=by
   intro k cs hk;simp only[stC]at hk;split at hk
   .rename_i h1;obtain⟨c0,h2,rfl⟩:=yC hk;exact⟨k-2000000000,(yB h2).1,by omega,rfl,c0,h2,rfl⟩
   cases hk
  have E:∀i j,i<rin.length->j<rin.length->rkey fx i=rkey fx j->i=j:=by intro i j hi K e;unfold rkey at e;split at e<;>split at e<;>omega
  have z:∀i k,cfr fx rin.length i=some k->∀r',(stC n0 args bin rin fx).rw k=some r'->∃r,(hSt n0 bin (rin.map some)).rw i=some r/\r'.sz=r.sz/\gi.rv k=g.rv i:=by
   intro i k hik r' a;obtain⟨j,h1,h2,h3,h4,h5⟩:=hrw k r' a;unfold cfr at hik;split at hik
   .rename_i hi;cases hik;have:=E i j hi h1 h3;subst this;exact⟨r',h5,rfl,h4⟩
   cases hik
  have A:∀i k,cfb bin.length i=some k->∀c',(stC n0 args bin rin fx).bx k=some c'->∃c,(hSt n0 bin (rin.map some)).bx i=some c/\gi.bb k=g.bb i:=by
   intro i k hik c' s;obtain⟨j,h1,h2,h3,c0,h4,_⟩:=hbx k c' s;unfold cfb at hik;split at hik
   .cases hik;have:i=j:=by omega
    subst this;exact⟨c0,h4,h3⟩
   cases hik
  have I:Inv c gi (stC n0 args bin rin fx) { tmps:=vs.toArray++Array.replicate (fn.ntmps-vs.toArray.size) undef,defers:=[] } w:=by
   refine⟨rfl,by simp only[Array.size_append,List.size_toArray,Array.size_replicate,c];omega,⟨rfl,rfl,rfl,yV _,λ_ _ _=>rfl⟩,λi=>?_,λk cs h=>?_,λk cs h=>?_,λk r h=>?_,λk r h b hb'=>?_, λk k' cs x h U hne=>?_,λk k' cs r h U=>?_,λk k' r r' h U hne b hb'=>?_,H.sw,hN,λ_ h _=>h,λ_ _=>⟨rfl,rfl⟩,λ_ _ h=>h,λ_ _ h=>.inl h,⟨⟨H.ow.lt,H.ow.own,H.ow.dis,λk cs h q=>?_,λk r h b hb' q=>?_,H.ow.uf⟩,λi D h hi b hb'=>absurd (H.ow.lt i D h) (Nat.not_lt.2 hi),rfl,yV _,λ_ _=>rfl,λ_ h=>(show False from h).elim,λ_ h=>(show False from h).elim,λ_ _ _ h=>(show False from h).elim⟩,λb o h q=>q.elim (λq=>absurd (H.sw b o h) (Nat.not_lt.2 q)) λq=>absurd q (C b o h),λ_ _ _ h=>h⟩
   .simp only[stC];rcases Nat.lt_or_ge i args.length with hi|hi
    .have M:i<vs.length:=by omega
     have e1:args.getD i .und=args[i]:=by simp[List.getD_eq_getElem?_getD,hi]
     have e2:(vs.toArray++Array.replicate (fn.ntmps-vs.toArray.size) undef).getD i undef=vs[i]:=by simp[Array.getD_eq_getD_getElem?,Array.getElem?_append_left,M]
     rw[e1,e2];exact(hvs i args[i] vs[i] (yA hi) (yA M)).mp (g:=g) (g':=gi) (s':=stC n0 args bin rin fx) (λ_ _ h=>h) (hT gi rfl rfl rfl) (λ_ _ _=>rfl) z A
    have e1:args.getD i .und=.und:=by simp[List.getD_eq_getElem?_getD,List.getElem?_eq_none hi]
    have e2:(vs.toArray++Array.replicate (fn.ntmps-vs.toArray.size) undef).getD i undef=undef:=by rw[Array.getD_eq_getD_getElem?,Array.getElem?_append_right (by simp;omega),Array.getElem?_replicate];split<;>rfl
    rw[e1,e2];exact .und
   .obtain⟨j,h1,h2,h3,c0,h4,rfl⟩:=hbx k cs h;rw[h3];exact(H.bxs j c0 h4).mp (g:=g) (g':=gi) (s':=stC n0 args bin rin fx) (λ_ _ h=>h) (hT gi rfl rfl rfl) (λ_ _ _=>rfl) z A rfl
   .obtain⟨j,h1,h2,h3,c0,h4,rfl⟩:=hbx k cs h;rw[h3];exact⟨⟨(H.bxn j c0 h4).1,λ_=>.inl ⟨j,h1,rfl⟩⟩,(H.bxn j c0 h4).2⟩
   .obtain⟨j,h1,h2,h3,h4,h5⟩:=hrw k r h;have e:gi.T=g.T:=Gh.T_eq rfl rfl;rw[h4,e];exact H.rws j r h5
   .obtain⟨j,h1,h2,h3,h4,h5⟩:=hrw k r h;rw[h4]at hb';obtain⟨q1,q2⟩:=(H.rwn j r h5).2 b hb';exact⟨⟨q1,λ_=>.inr ⟨j,h1,hb'⟩⟩,λo ho=>absurd ho (q2 o)⟩
   .obtain⟨j,h1,h2,h3,c0,h4,rfl⟩:=hbx k cs h;obtain⟨j',R,Q,m,y,d,rfl⟩:=hbx k' x U;rw[h3,m];exact H.dbb j j' c0 y h4 d (λe=>hne (by omega))
   .obtain⟨j,h1,h2,h3,c0,h4,rfl⟩:=hbx k cs h;obtain⟨j',R,Q,m,d,t⟩:=hrw k' r U;rw[h3,d];exact H.dbr j j' c0 r h4 t
   .obtain⟨j,h1,h2,h3,h4,h5⟩:=hrw k r h;obtain⟨j',R,Q,m,d,t⟩:=hrw k' r' U;rw[h4]at hb';rw[d];exact H.drr j j' r r' h5 t (λe=>hne (by rw[h3,m,e])) b hb'
   .obtain⟨j,h1,h2,h3,c0,h4,rfl⟩:=hbx k cs h;have q:gi.own (g.bb j):=by rw[← h3];exact q
    exact H.ow.bx j c0 h4 (by obtain⟨i,D,q1,q2⟩:=q;exact⟨i,D,q1,q2⟩)
   obtain⟨j,h1,h2,h3,h4,h5⟩:=hrw k r h;have hb':(g.rv j).ownBlock=some b:=by rw[← h4];exact hb'
   exact H.ow.rw j r h5 b hb' (by obtain⟨i,D,q1,q2⟩:=q;exact⟨i,D,q1,q2⟩)
  apply calls_of_wp hf hb;refine W1y (c:=c) hc (λe g' s' a' w' I' hp=>?_) I h;have fin:(∃v,(results fn a'.tmps).run P w'=.ok v w'/\∃v',Ending.returned v=.returned v'/\Kept (OwnB g bin.length rin.length) w w'/\∃n1 B bout upd new,n0<=n1/\Φ n1 B bout upd new /\ bout.map List.length=bin.map List.length/\upd.length=rin.length/\∃g':Gh,(∀b o,g'.S b o->(g.S b o\/w.heap.size<=b\/OwnB g bin.length rin.length b)/\(w.heap.size<=b\/OwnB g bin.length rin.length b->UnfB w' b))/\(∀b,g'.N b->g.N b) /\ (∀i,i<bin.length->g'.bb i=g.bb i)/\(∀i es,upd[i]?=some (some es)->g'.rv i=g.rv i)/\Heap w' g' (hSt n1 bout (Ua rin upd new)) /\ (∀(j:Nat) (r:Row),new[j]?=some r->∀b,(g'.rv (rin.length+j)).ownBlock=some b->w.heap.size<=b\/OwnB g bin.length rin.length b) /\ (∀i,i<n0->g'.ov i=g.ov i)/\(∀i D,n0<=i->g'.ov i=some D->∀b,D b->w.heap.size<=b\/OwnB g bin.length rin.length b) /\ Gv w' g' (hSt n1 bout (Ua rin upd new)) B v'):=by
   obtain⟨_,l',bout,upd,ks,new,p1,p2,W,p4,p5,V,p7,p8⟩:=hp;obtain⟨u,q1,q2⟩:=X1c (P:=P) I' hr4 hr p1;have p2:=Y1R p2;obtain⟨F,W⟩:=Z1S W;obtain⟨J,V⟩:=Q1m V;have hbl:bout.length=bin.length:=by simpa using congrArg List.length p7
   have hNg:∀b,g'.N b->g.N b:=λb hb'=>by
    rcases Nat.lt_or_ge b w.heap.size with hl|hl
    .exact I'.nx b hb' hl
    exact hN b hl
   let G:Gh:={ S:=g'.S,N:=g'.N,bb:=λi=>g'.bb (2000000000+i),rv:=λi=>if i<rin.length then g'.rv (1000000000+i)else g'.rv (ks.getD (i-rin.length) 0),ov:=g'.ov };have O:TLe g'.S g'.T G.T:=TLe.of (λ_ q=>q) rfl;have bkey:∀i cs,(hSt s'.nx bout (Ua rin upd new)).bx i=some cs->i<bin.length/\∃c0,s'.bx (2000000000+i)=some c0/\cs=mpL (cob bin.length) (cor upd ks rin.length) c0:=by intro i cs hi;have hi':=hi;obtain⟨c0,h1,h2⟩:=p2 i cs hi';exact⟨by rw[← hbl];exact(yB hi').1,c0,h1,h2⟩
   have rkey':∀i r,(hSt s'.nx bout (Ua rin upd new)).rw i=some r->∃k,s'.rw k=some r/\r.sh=false/\G.rv i=g'.rv k/\((i<rin.length/\k=1000000000+i)\/(rin.length<=i/\ks[i-rin.length]?=some k)):=by
    intro i r hi;rcases Nat.lt_or_ge i rin.length with hl|hl
    .have hu:i<upd.length:=by omega
     have e:=L0I (new:=new) (yA hl) (yA hu);simp only[hSt,e,Option.join]at hi;cases hui:upd[i]with|none=>simp[hui]at hi|some es =>simp only[hui,Option.map_some,bS,_root_.id,yI]at hi;obtain⟨r0,z1,z2,z3,z4⟩:=W i es (by rw[yA hu,hui]);rw[yA hl]at z1;cases z1;subst hi;exact⟨1000000000+i,by simpa using z3,z4,by simp[G,hl],.inl ⟨hl,rfl⟩⟩
    have e:=J0I (rin:=rin) (upd:=upd) (new:=new) (j:=i-rin.length) F;rw[show rin.length+(i-rin.length)=i by omega]at e;simp only[hSt,e,Option.join]at hi;cases hn':new[i-rin.length]? with
    |none=>simp[hn']at hi|some r0 =>
     simp only[hn',Option.map_some,bS,_root_.id,yI]at hi;subst hi;have hlt:i-rin.length<ks.length:=by rw[J];exact(yB hn').1
     obtain⟨z1,z2⟩:=V _ _ _ (yA hlt) hn';refine⟨ks[i-rin.length],z1,z2,?_,.inr ⟨hl,yA hlt⟩⟩;simp only[G,Nat.not_lt.2 hl,yc,List.getD_eq_getElem?_getD,yA hlt,Option.getD_some]
   have p:∀i i' k,((i<rin.length/\k=1000000000+i)\/(rin.length<=i/\ks[i-rin.length]?=some k))->((i'<rin.length/\k=1000000000+i')\/(rin.length<=i'/\ks[i'-rin.length]?=some k))->i=i':=by
    intro i i' k h1 h2;rcases h1 with⟨h1,e1⟩|⟨h1,e1⟩<;>rcases h2 with⟨h2,e2⟩|⟨h2,e2⟩
    .omega
    .have:=L0t p5 (yE e2);omega
    .have:=L0t p5 (yE e1);omega
    have:=(List.getElem?_inj (i:=i-rin.length) (j:=i'-rin.length) (yB e1).1 p4).1 (by rw[e1,e2]);omega
   have nR:∀k i,cor upd ks rin.length k=some i->∀r',(hSt s'.nx bout (Ua rin upd new)).rw i=some r'->∃r,s'.rw k=some r/\r'.sz=r.sz/\G.rv i=g'.rv k:=by
    intro k i hki r' a;obtain⟨k',z1,z2,z3,z4⟩:=rkey' i r' a;have:k'=k:=by
     unfold cor at hki;split at hki
     .rename_i hk;split at hki
      .rename_i es he;have hki:=Option.some.inj hki;have:=(yB he).1;rcases z4 with⟨z4,z5⟩|⟨z4,z5⟩<;>omega
      cases hki
     obtain⟨j,K,rfl⟩:=yC hki;have:=L2i K;rcases z4 with⟨z4,z5⟩|⟨z4,z5⟩
     .omega
     rw[show rin.length+j-rin.length=j by omega,this]at z5;cases z5;rfl
    subst this;exact⟨r',z1,rfl,z3⟩
   have nB:∀k i,cob bin.length k=some i->∀c',(hSt s'.nx bout (Ua rin upd new)).bx i=some c'->∃c,s'.bx k=some c/\G.bb i=g'.bb k:=by
    intro k i hki c' s;obtain⟨_,c0,z1,_⟩:=bkey i c' s;unfold cob at hki;split at hki
    .split at hki
     .have hki:=Option.some.inj hki;rename_i hk _;have e:2000000000+i=k:=by omega
      exact⟨c0,by rw[e]at z1;exact z1,by simp only[G,e]⟩
     cases hki
    cases hki
   have n:∀b,Wr c g' b->w.heap.size<=b\/OwnB g bin.length rin.length b:=by
    intro b hw;rcases Nat.lt_or_ge b w.heap.size with hl|hl
    .exact .inr (hw.2 hl)
    exact .inl hl
   refine⟨u,q1,u,rfl,⟨I'.fr.os,I'.fr.tape,I'.fr.output,I'.fr.size,λk hk hx=>I'.fr.block k hk hx⟩,s'.nx,_,bout,upd,new,I'.ow.n0,p8,p7,F,G,λb o ho=>⟨I'.sb b o ho,I'.uf b o ho⟩,hNg,λi hi=>?_,λi es hi=>?_,?_,λj r K b hb'=>?_,λi hi=>I'.ow.old i hi,λi D hi hv b hb'=>n b (I'.ow.my i D hv (by rw[I'.ow.mm];exact hi) b hb'),?_⟩
   .have:=(I'.fix (2000000000+i) (by omega)).2;show g'.bb (2000000000+i)=g.bb i;rw[this];show g.bb (2000000000+i-2000000000)=g.bb i;rw[Nat.add_sub_cancel_left]
   .obtain⟨r,z1,_⟩:=W i es hi;have hl:=(yB z1).1;have:=(I'.fix (1000000000+i) (by omega)).1;show(if i<rin.length then g'.rv (1000000000+i)else g'.rv (ks.getD (i-rin.length) 0))=g.rv i;rw[yd hl,this];show(if 1000000000<=1000000000+i then g.rv (1000000000+i-1000000000)else g.rv (1000000000+i-500000000))=g.rv i;rw[yd (Nat.le_add_right _ _),Nat.add_sub_cancel_left]
   .refine⟨λi cs hi=>?_,λi cs hi=>?_,λi r hi=>?_,λi r hi=>?_,λi i' cs x hi hi' hne=>?_,λi i' cs r hi hi'=>?_,λi i' r r' hi hi' hne b hb'=>?_,I'.sw,⟨I'.ow.lt,I'.ow.own,I'.ow.dis,λi cs hi q=>?_,λi r hi b hb' q=>?_,I'.ow.uf⟩⟩
    .obtain⟨_,c0,z1,rfl⟩:=bkey i cs hi;exact(I'.bxs _ c0 z1).mp (g:=g') (g':=G) (s':=hSt s'.nx bout (Ua rin upd new)) (λ_ _ h=>h) O (λ_ _ _=>rfl) nR nB rfl
    .obtain⟨_,c0,z1,rfl⟩:=bkey i cs hi;exact⟨(I'.bxn _ c0 z1).1.1,(I'.bxn _ c0 z1).2⟩
    .obtain⟨k,z1,z2,z3,_⟩:=rkey' i r hi;have e:G.T=g'.T:=Gh.T_eq rfl rfl;rw[z3,e];exact I'.rws k r z1
    .obtain⟨k,z1,z2,z3,_⟩:=rkey' i r hi;rw[z3];refine⟨z2,λb hb'=>⟨(I'.rwn k r z1 b hb').1.1,λo ho=>?_⟩⟩;have:=((I'.rwn k r z1 b hb').2 o ho).1;rw[z2]at this;cases this
    .obtain⟨_,c0,z1,_⟩:=bkey i cs hi;obtain⟨_,y,Z,_⟩:=bkey i' x hi';exact I'.dbb _ _ c0 y z1 Z (by omega)
    .obtain⟨_,c0,z1,_⟩:=bkey i cs hi;obtain⟨k,y1,y2,y3,_⟩:=rkey' i' r hi';rw[y3];exact I'.dbr _ _ c0 r z1 y1
    .obtain⟨k,z1,z2,z3,z4⟩:=rkey' i r hi;obtain⟨k',y1,y2,y3,y4⟩:=rkey' i' r' hi';rw[z3]at hb';rw[y3];exact I'.drr k k' r r' z1 y1 (λe=>hne (p i i' k z4 (by rw[e];exact y4))) b hb'
    .obtain⟨_,c0,z1,_⟩:=bkey i cs hi;exact I'.ow.bx _ c0 z1 q
    obtain⟨k,z1,z2,z3,_⟩:=rkey' i r hi;rw[z3]at hb';exact I'.ow.rw k r z1 b hb' q
   .have hlt:j<ks.length:=by rw[J];exact(yB K).1
    obtain⟨z1,z2⟩:=V j _ r (yA hlt) K;have e:G.rv (rin.length+j)=g'.rv ks[j]:=by simp only[G,show ¬ rin.length+j<rin.length by omega,yc,List.getD_eq_getElem?_getD,show rin.length+j-rin.length=j by omega,yA hlt,Option.getD_some]
    rw[e]at hb';exact n b (I'.rwn _ r z1 b hb').1
   exact q2.mp (g:=g') (g':=G) (s':=hSt s'.nx bout (Ua rin upd new)) (λ_ _ h=>h) O (λ_ _ _=>rfl) nR nB
  cases e with|nrm=>exact⟨I'.defers,fin⟩|ret=>exact⟨I'.defers,fin⟩|ext id=>exact hp.1.elim
theorem W2E{f:FuncId}{l:L}{i:List Rv}{a:List AV}{b:List (List AV)}{rin:List Row}{Φ:AV->List (List AV)->List (Option (List AV))->List Row->Prop}{n:Nat}(g:List Bool)(c:YQ P f n l i=true)(j:a.length=n)(e:rin.length<=1000)(h:∀d,(∀r∈rin,r.sh=false)->den P l (U28 i b rin g λ_=>Φ) (stC d a b rin g)):Con P f a b rin Φ:=by
 unfold YQ at c;split at c
 .rename_i m k;subst j;exact λd=>Q2E g k c e (h d)
 cases c
end
end
section
section
variable{P:Program}{R:Ex->St->Prop}{k:List It}{s:St}
theorem Con.wk{f:FuncId}{d c:List AV}{a:List (List AV)}{rin:List Row}{Φ:AV->List (List AV)->List (Option (List AV))->List Row->Prop}(h:Con P f c a rin Φ)(o:wkLs (AV.wkA λ_=>False) d c):Con P f d a rin Φ:=by
 intro l w g k H p r n;obtain⟨s,q⟩:=X1z o;refine h l w g k H p (by omega) λi b v j m=>?_;have e:i<d.length:=by have:=(yB j).1;omega
 exact(n i _ v (yA e) m).wkA (λ_ h=>h.elim) (q i _ b (yA e) j)
theorem do_cm{d f:Nat}{xs:List X}{K:St->Prop}{j:List AV}(e a:List Nat){g:List (List AV)}{rin:List Row}{Φ:AV->List (List AV)->List (Option (List AV))->List Row->Prop}(o:Con P f j g rin Φ)(t:U0a (e++a)=true)(q:UU s (ix e) (ix a) e g)(p:W0Q s a rin)(n:wkLs (AV.wkA λ_=>False) (xs.map λx=>((s.get x).mp (ix e) (ix a)).rdt) j)(h:∀n1 i c upd new,c.map List.length=g.map List.length->upd.length=rin.length->Φ i c upd new->new.length<=1000/\J06 a upd (1000*d+1000) new.length/\U0N (1000*d+1000) new.length e /\ K (afterM s n1 d e a i c upd new))(m:∀b∈g,noOL b:=by first | (simp;done) | (simp[*];done))(k:∀r∈rin,noOL r.es:=by first | (simp;done) | (simp[*];done))(l:∀x∈xs,(s.get x).noO:=by first | (simp;done) | (simp[*];done)):wop P (.cm d f xs) K s :=⟨e,a,g,rin,_,Lx t,q,p,⟨m,k,l⟩,by have:=GEs.rdt (xs.map λx=>(s.get x).mp (ix e) (ix a));rwa [List.map_map]at this,λ_=>Φ,o.wk n s.nx,λn1 i c upd new _=>h n1 i c upd new⟩
end
attribute [simp] UU W0Q J06 U0N afterM setRows Xf St.kill2 drops upf bxf frB fbB AV.mp mpL stC rkey cfb cfr cob cor X1R updC J0t
end
section
structure LS where
 te:List (Nat×AV)
 tg:List (Nat×Nat×Bool×AV)
 tb:List (Nat×List AV)
 tr:List (Nat×Row)
structure LS.has(σ:LS)(s:St):Prop where
 e:∀t v,lk σ.te t=some v->s.e t=v
 g:∀t g w v,(t,g,w,v)∈σ.tg->(s.e g=.bool w/\s.e t=v)\/(s.e g≠.bool w/\s.e t=.und)
 b:∀k cs,lk σ.tb k=some cs->s.bx k=some cs
 r:∀k r,lk σ.tr k=some r->s.rw k=some r/\s.bx k=none
 n:∀k,lk σ.tb k=none->s.bx k=none
def er{α:Type}(d:Nat):List (Nat×α)->List (Nat×α)
 |[]=>[]| (k,v)::l=>match Nat.beq k d with
   |true=>er d l
   |false=>(k,v)::er d l
def erg(d:Nat):List (Nat×Nat×Bool×AV)->List (Nat×Nat×Bool×AV)
 |[]=>[]| (k,g,w,v)::l=>match Nat.beq k d with
   |true=>erg d l
   |false=>match Nat.beq g d with
     |true=>erg d l
     |false=>(k,g,w,v)::erg d l
theorem L1d{a:Type}{d:Nat}:∀{l:List (Nat×a)}{i:Nat}{v:a},lk (er d l) i=some v->i≠d/\lk l i=some v
 |[],_,_,h=>by cases h| (k,u)::l,i,v,h=>by
  simp[er]at h;split at h
  .rename_i e;have e:=yR e;obtain⟨b,c⟩:=L1d h;refine⟨b,?_⟩;simp[lk];rw[show Nat.beq i k=false from Bool.eq_false_iff.2 λq=>b (by rw[yR q,e])];exact c
  .rename_i e;simp[lk]at h ⊢;split at h
   .rename_i q;refine⟨λf=>?_,?_⟩
    .have:=yR q;subst this;subst f;simp at e
    .exact h
   .exact L1d h
theorem Q1d{d t g:Nat}{w:Bool}{v:AV}:∀{l:List (Nat×Nat×Bool×AV)},(t,g,w,v)∈erg d l->t≠d/\g≠d/\(t,g,w,v)∈l
 |[],h=>by cases h| (k,g',w',v')::l,h=>by
  simp[erg]at h;split at h
  .obtain⟨c,b,a⟩:=Q1d h;exact⟨c,b,yH _ a⟩
  .rename_i f;split at h
   .obtain⟨c,b,a⟩:=Q1d h;exact⟨c,b,yH _ a⟩
   .rename_i e;rcases yX h with h|h
    .cases h;exact⟨λq=>by subst q;simp at f,λq=>by subst q;simp at e,yJ ..⟩
    .obtain⟨c,b,a⟩:=Q1d h;exact⟨c,b,yH _ a⟩
theorem Z2e{b:Type}{d:Nat}:∀{l:List (Nat×b)}{i:Nat},lk (er d l) i=none->i=d\/lk l i=none
 |[],_,_=>.inr rfl| (k,u)::l,i,h=>by
  simp[er]at h;split at h
  .rename_i e;have e:=yR e;subst e;rcases Z2e h with h|h
   .exact .inl h
   .by_cases a:i=k
    .exact .inl a
    .right;simp[lk];rw[show Nat.beq i k=false from Bool.eq_false_iff.2 λq=>a (yR q)];exact h
  .simp[lk]at h ⊢;split at h
   .cases h
   .rename_i c;exact Z2e h
theorem L2a{a:Type}(f:a->a):∀{l:List (Nat×a)}{i:Nat},lk (l.map λp=>(p.1,f p.2)) i=none->lk l i=none
 |[],_,_=>rfl| (k,u)::l,i,h=>by
  simp[List.map_cons,lk]at h ⊢;split at h
  .cases h
  .exact L2a f h
theorem J1Y{a:Type}{d i:Nat}{u:a}{l:List (Nat×a)}(h:lk ((d,u)::l) i=none):i≠d/\lk l i=none:=by
 simp[lk]at h;split at h
 .cases h
 rename_i e;exact⟨λq=>by subst q;simp at e,h⟩
theorem Z0v{a:Type}{d i:Nat}{u v:a}{l:List (Nat×a)}(h:lk ((d,u)::l) i=some v):(i=d/\u=v)\/lk l i=some v:=by
 simp[lk]at h;split at h
 .rename_i e;cases h;exact .inl ⟨yR e,rfl⟩
 exact .inr h
theorem J2a{a:Type}(f:a->a):∀{l:List (Nat×a)}{i:Nat}{v:a},lk (l.map λp=>(p.1,f p.2)) i=some v->∃u,lk l i=some u/\v=f u
 |[],_,_,h=>by cases h| (k,u)::l,i,v,h=>by
  simp[List.map_cons,lk]at h ⊢;split at h
  .cases h;exact⟨u,rfl,rfl⟩
  .exact J2a f h
def LS.set(σ:LS)(d:Nat)(v:AV):LS:={ σ with te:=(d,v)::er d σ.te,tg:=erg d σ.tg }
def LS.setc(σ:LS)(d g:Nat)(w:Bool)(v:AV):LS:={ σ with te:=er d σ.te,tg:=(d,g,w,v)::erg d σ.tg }
def LS.kill(σ:LS)(k:Nat):LS :={ te:=σ.te.map λp=>(p.1,p.2.dead k),tg:=σ.tg.map λp=>(p.1,p.2.1,p.2.2.1,p.2.2.2.dead k),tb:=(er k σ.tb).map λp=>(p.1,U7 k p.2),tr:=er k σ.tr }
def LS.box(σ:LS)(k:Nat)(cs:List AV):LS:={ σ with tb:=(k,cs)::er k σ.tb,tr:=er k σ.tr }
def LS.row(σ:LS)(k:Nat)(r:Row):LS:={ σ with tr:=(k,r)::er k σ.tr,tb:=er k σ.tb }
section
variable{σ:LS}{s:St}
theorem LS.has.set(H:σ.has s)(d:Nat)(v:AV):(σ.set d v).has (s.set d v):=by
 refine⟨λt u h=>?_,λt g w u h=>?_,λk cs h=>H.b k cs h,λk r h=>H.r k r h,H.n⟩
 .rcases Z0v h with⟨rfl,rfl⟩|h
  .simp
  obtain⟨c,a⟩:=L1d h;simp[c,H.e t u a]
 obtain⟨c,a,h3⟩:=Q1d h;simpa[c,a]using H.g t g w u h3
theorem LS.has.setc(H:σ.has s)(d g:Nat)(w:Bool)(v u:AV)(i:g≠d)(h:(s.e g=.bool w/\u=v)\/(s.e g≠.bool w/\u=.und)):(σ.setc d g w v).has (s.set d u):=by
 refine⟨λt x a=>?_,λt g' w' x a=>?_,λk cs h=>H.b k cs h,λk r h=>H.r k r h,H.n⟩
 .obtain⟨f,c⟩:=L1d a;simp[f,H.e t x c]
 rcases yX a with e|a
 .cases e;simpa[i]using h
 obtain⟨f,c,j⟩:=Q1d a;simpa[f,c]using H.g t g' w' x j
theorem Y2g{k:Nat}{w:Bool}{a:AV}:a.dead k=.bool w↔a=.bool w:=by cases a<;>simp[AV.dead]<;>first | (split<;>simp;done)|simp
theorem LS.has.kill(H:σ.has s)(k:Nat):(σ.kill k).has (s.kill k):=by
 refine⟨λt u h=>?_,λt g w u h=>?_,λj cs h=>?_,λj r h=>?_,λj h=>?_⟩
 .obtain⟨x,d,rfl⟩:=J2a (λa=>AV.dead k a) h;simp[H.e t x d]
 .obtain⟨⟨t',g',w',v'⟩,o,p⟩:=yY h;cases p;rcases H.g _ _ _ _ o with⟨d,c⟩|⟨d,c⟩
  .exact .inl ⟨by simp[d,AV.dead],by simp[c]⟩
  exact .inr ⟨by simpa[Y2g]using d,by simp[c,AV.dead]⟩
 .obtain⟨x,d,rfl⟩:=J2a (λa=>U7 k a) h;obtain⟨c,f⟩:=L1d d;simp[c,H.b j x f]
 .obtain⟨c,f⟩:=L1d h;obtain⟨m,i⟩:=H.r j r f;simp[c,m,i]
 rcases Z2e (L2a (λl=>U7 k l) h)with rfl|h
 .simp
 simp[H.n j h]
theorem LS.has.box(H:σ.has s)(k:Nat)(cs:List AV):(σ.box k cs).has { s with bx:=λj=>if j=k then some cs else s.bx j }:=by
 refine⟨H.e,H.g,λj c h=>?_,λj r h=>?_,λj h=>?_⟩
 .rcases Z0v h with⟨rfl,rfl⟩|h
  .simp
  obtain⟨d,a⟩:=L1d h;simp[d,H.b j c a]
 .obtain⟨d,a⟩:=L1d h;simp[d,H.r j r a]
 obtain⟨d,a⟩:=J1Y h;rcases Z2e a with a|a
 .exact absurd a d
 simp[d,H.n j a]
theorem LS.has.row(H:σ.has s)(k:Nat)(r:Row)(d:s.bx k=none):(σ.row k r).has { s with rw:=λj=>if j=k then some r else s.rw j }:=by
 refine⟨H.e,H.g,λj c h=>?_,λj r' h=>?_,λj h=>(Z2e h).elim (λq=>by rw[q];exact d) (H.n j)⟩
 .obtain⟨_,a⟩:=L1d h;exact H.b j c a
 rcases Z0v h with⟨rfl,rfl⟩|h
 .simp[d]
 obtain⟨h1,a⟩:=L1d h;simp[h1,H.r j r' a]
end
def sat(s:St)(A:List (Nat×Bool)):Prop:=∀p∈A,s.e p.1=.bool p.2
def fndg(t:Nat):List (Nat×Nat×Bool×AV)->Option (Nat×Bool×AV)
 |[]=>none| (k,g,w,v)::l=>match Nat.beq t k with
   |true=>some (g,w,v)
   |false=>fndg t l
theorem J0j{t g:Nat}{w:Bool}{v:AV}:∀{l:List (Nat×Nat×Bool×AV)},fndg t l=some (g,w,v)->(t,g,w,v)∈l
 |[],h=>by cases h| (k,g',w',v')::l,h=>by
  simp[fndg]at h;split at h
  .rename_i e;have:=yR e;subst this;cases h;exact yJ ..
  .exact yH _ (J0j h)
def clo(tg:List (Nat×Nat×Bool×AV)):Nat->Nat->Bool->List (Nat×Bool)
 |0,g,w=>[(g,w)]|n+1,g,w=>(g,w)::(match fndg g tg with|some (g',w',_)=>clo tg n g' w'|none=>[])
theorem V0x{b:LS}{s:St}(H:b.has s):∀{n g:Nat}{w:Bool},s.e g=.bool w->sat s (clo b.tg n g w)
 |0,g,w,h=>by intro p a;simp[clo]at a;subst a;exact h|n+1,g,w,h=>by
  intro p a;simp only[clo]at a;rcases yX a with rfl|a
  .exact h
  .split at a
   .rename_i g' w' v' e;rcases H.g _ _ _ _ (J0j e)with⟨d,_⟩|⟨_,c⟩
    .exact V0x H d p a
    .rw[h]at c;cases c
   .cases a
def eqb:Bool->Bool->Bool
 |true,true=>true|false,false=>true|_,_=>false
theorem J2D{a b:Bool}(h:eqb a b=true):a=b:=by cases a<;>cases b<;>simp[eqb]at h<;>rfl
def inA(g:Nat)(w:Bool):List (Nat×Bool)->Bool
 |[]=>false| (k,u)::l=>match Nat.beq g k with
   |true=>match eqb w u with
     |true=>true
     |false=>inA g w l
   |false=>inA g w l
theorem X2c{g:Nat}{w:Bool}:∀{A:List (Nat×Bool)},inA g w A=true->(g,w)∈A
 |[],h=>by cases h| (k,u)::l,h=>by
  simp[inA]at h;split at h
  .rename_i b;split at h
   .rename_i a;rw[yR b,J2D a];exact yJ ..
   .exact yH _ (X2c h)
  .exact yH _ (X2c h)
def rdv(A:List (Nat×Bool))(σ:LS)(t:Nat):Option AV:=match lk σ.te t with
 |some v=>some v
 |none=>match fndg t σ.tg with
  |some (g,w,v)=>match inA g w A with
   |true=>some v
   |false=>none
  |none=>none
def gt(A:List (Nat×Bool))(σ:LS):X->Option AV
 |.t i=>rdv A σ i|.c a=>some a
def gts(A:List (Nat×Bool))(σ:LS):List X->Option (List AV)
 |[]=>some []|x::xs=>match gt A σ x with
  |some v=>match gts A σ xs with
   |some l=>some (v::l)
   |none=>none
  |none=>none
section
variable{σ:LS}{s:St}{A:List (Nat×Bool)}
theorem Y0N(H:σ.has s)(a:sat s A){t:Nat}{v:AV}(h:rdv A σ t=some v):s.e t=v:=by
 unfold rdv at h;split at h
 .rename_i u e;cases h;exact H.e t _ e
 split at h
 .rename_i g w u e;split at h
  .rename_i e2;cases h;rcases H.g _ _ _ _ (J0j e)with⟨_,b⟩|⟨h1,_⟩
   .exact b
   exact absurd (a _ (X2c e2)) h1
  cases h
 cases h
theorem L7(H:σ.has s)(b:sat s A){x:X}{v:AV}(h:gt A σ x=some v):s.get x=v:=by cases x with|t i=>exact Y0N H b h|c a=>cases h;rfl
theorem X0E(H:σ.has s)(a:sat s A):∀{xs:List X}{l:List AV},gts A σ xs=some l->xs.map s.get=l
 |[],l,h=>by cases h;rfl|x::xs,l,h=>by
  simp[gts]at h;split at h
  .rename_i v e;split at h
   .rename_i c b;cases h;rw[List.map_cons,L7 H a e,X0E H a b]
   .cases h
  .cases h
theorem X27{A B:List (Nat×Bool)}(c:sat s A)(b:sat s B):sat s (A++B):=λp a=>(List.mem_append.1 a).elim (c p) (b p)
end
def pkV(t:Bool):AV->AV->Option AV
 |.bool x,.bool y=>some (.bool (bif t then x else y))|.int k x,.int k' y=>if k=k' then some (.int k (bif t then x else y))else none|.str x,.str y=>some (.str (bif t then x else y))|_,_=>none
theorem U2B{t:Bool}{a b v:AV}(h:pkV t a b=some v):(t=true->v=a)/\(t=false->v=b):=by
 unfold pkV at h;split at h
 .cases h;cases t<;>simp
 .split at h
  .rename_i e;subst e;cases h;cases t<;>simp
  cases h
 .cases h;cases t<;>simp
 cases h
def ldv(σ:LS)(p:AV)(n:Nat)(ag:Bool):Option AV:=match p with
 |.ept e off=>U0u e.cells off n ag
 |.eot e off=>U0u e.cells off n ag
 |.ptr k off=>match lk σ.tb k with
  |some cs=>U0u cs off n ag
  |none=>none
 |_=>none
def gtp(A:List (Nat×Bool))(σ:LS):List (Nat×Nat×X)->Option (List (Nat×Nat×AV))
 |[]=>some []| (o,n,x)::ps=>match gt A σ x with
   |some v=>match gtp A σ ps with
     |some l=>some ((o,n,v)::l)
     |none=>none
   |none=>none
theorem Y2o{a:LS}{s:St}{A:List (Nat×Bool)}(H:a.has s)(b:sat s A):∀{ps:List (Nat×Nat×X)}{l:List (Nat×Nat×AV)},gtp A a ps=some l->(ps.map λ(off,n,x)=>(off,n,s.get x))=l
 |[],l,h=>by cases h;rfl| (o,n,x)::ps,l,h=>by
  simp[gtp]at h;split at h
  .rename_i v e;split at h
   .rename_i d c;cases h;rw[List.map_cons,Y2o H b c];simp[L7 H b e]
   .cases h
  .cases h
def pv(A:List (Nat×Bool))(σ:LS):LOp->Option AV
 |.mv _ x=>gt A σ x|.pk _ (.t i) a b=>match rdv A σ i with
  |some (.bool t)=>match gt (clo σ.tg 9 i true++A) σ a with
   |some x=>match gt (clo σ.tg 9 i false++A) σ b with
    |some y=>pkV t x y
    |none=>none
   |none=>none
  |_=>none
 |.un _ x=>match gt A σ x with
  |some (.bool b)=>some (.bool (!b))
  |_=>none
 |.bi _ op x y=>match gt A σ x with
  |some a=>match gt A σ y with
   |some b=>evB op a b
   |none=>none
  |none=>none
 |.eb _ ne x y=>match gt A σ x with
  |some (.bool a)=>match gt A σ y with
   |some (.bool b)=>match ne with
    |true=>some (.bool (!(a==b)))
    |false=>some (.bool (a==b))
   |_=>none
  |_=>none
 |.es _ ne ks x y=>match gt A σ x with
  |some (.agg a)=>match gt A σ y with
   |some (.agg b)=>match eqCells ks a b with
    |some r=>match ne with
     |true=>some (.bool (!r))
     |false=>some (.bool r)
    |none=>none
   |_=>none
  |_=>none
 |.cv _ k x=>match gt A σ x with
  |some (.int _ n)=>some (.int k (k.wrap n))
  |_=>none
 |.fa _ x off=>match gt A σ x with
  |some (.ptr k o)=>match lk σ.tb k with
   |some _=>some (.ptr k (o+off))
   |none=>none
  |some (.ept e o)=>some (.ept e (o+off))
  |some (.eot e o)=>some (.eot e (o+off))
  |some (.rpt k i o)=>match lk σ.tr k with
   |some _=>some (.rpt k i (o+off))
   |none=>none
  |_=>none
 |.ld _ p n ag=>match gt A σ p with
  |some v=>ldv σ v n ag
  |none=>none
 |.bd _ z ps=>match gtp A σ ps with
  |some l=>match Y0o z l with
   |some cs=>match allOne cs with
    |true=>some (.agg cs)
    |false=>none
   |none=>none
  |none=>none
 |.ln _ x=>match gt A σ x with
  |some .nl=>some (.int .i64 0)
  |_=>none
 |.lq _ x=>match gt A σ x with
  |some .nl=>some (.int .i64 0)
  |_=>none
 |.ls _ x=>match gt A σ x with
  |some (.str l)=>some (.int .i64 l.length)
  |_=>none
 |.ex _ x i=>match gt A σ x with
  |some (.tup vs)=>vs[i]?
  |_=>none
 |.fd _ x off n ag=>match gt A σ x with
  |some (.agg cs)=>U0u cs off n ag
  |_=>none
 |.nc _ x=>match gt A σ x with
  |some (.ptr k o)=>match lk σ.tb k with
   |some _=>some (.ptr k o)
   |none=>none
  |some (.fn f cs)=>some (.fn f cs)
  |_=>none
 |.mm _ mx x y=>match gt A σ x with
  |some (.int k a)=>match gt A σ y with
   |some (.int k' b)=>if k=k' then match mx with
     |true=>some (.int k (max a b))
     |false=>some (.int k (min a b))
    else none
   |_=>none
  |_=>none
 |.mf _ f xs=>match gts A σ xs with
  |some l=>some (.fn f l)
  |none=>none
 |.be _=>some .el|.ae _ x y sz _=>match gt A σ x with
  |some .el=>match gt A σ y with
   |some .nl=>some (.sl .nw sz [])
   |_=>none
  |_=>none
 |.bs _ sz ps own=>match own with
  |true=>none
  |false=>match gts A σ ps with
   |some es=>if es.all nosr=true/\(es.all λe=>Nat.beq e.cells.length sz)=true/\es.length*sz<=1000000/\es.length<=1000000 then some (.sl .nw sz es)else none
   |none=>none
 |_=>none
theorem U1C{s:St}:∀{l:List AV},l.all nosr=true->s.dtL l=some l
 |[],_=>rfl|a::l,h=>by simp only[List.all_cons,yD]at h;rw[St.dtL,Q1C h.1,U1C h.2]
section
variable{P:Program}{σ:LS}{s:St}{A:List (Nat×Bool)}
theorem pv_ok(H:σ.has s)(hA:sat s A){l:LOp}{v:AV}(h:pv A σ l=some v){K:St->Prop}(hK:K (s.set l.dst v)):wop P l K s:=by
 cases l with
 |mv d x=>simp only[wop];rw[L7 H hA h];exact hK|pk d c a b =>
  cases c with
  |c _=>simp[pv]at h|t i =>
   simp only[pv]at h;split at h
   .rename_i t e;have e1:=Y0N H hA e;split at h
    .rename_i x ex;split at h
     .rename_i y ey;obtain⟨C,B⟩:=U2B h;simp only[wop,J2j,e1];cases t
      .have:=L7 H (X27 (V0x H e1) hA) ey;rw[ye (by simp),this,← B rfl];exact hK
      have:=L7 H (X27 (V0x H e1) hA) ex;rw[yd rfl,this,← C rfl];exact hK
     cases h
    cases h
   cases h
 |un d x =>
  simp only[pv]at h;split at h
  .rename_i b e;cases h;simp only[wop];rw[L7 H hA e];exact hK
  cases h
 |bi d op x y =>
  simp only[pv]at h;split at h
  .rename_i a e;split at h
   .rename_i b e2;simp only[wop];rw[L7 H hA e,L7 H hA e2,h];exact hK
   cases h
  cases h
 |eb d ne x y =>
  simp only[pv]at h;split at h
  .rename_i a e;split at h
   .rename_i b e2;simp only[wop];rw[L7 H hA e,L7 H hA e2];cases ne<;>(cases h;exact hK)
   cases h
  cases h
 |es d ne ks x y =>
  simp only[pv]at h;split at h
  .rename_i a e;split at h
   .rename_i b e2;split at h
    .rename_i r e3;simp only[wop];rw[L7 H hA e,L7 H hA e2];simp only[e3];cases ne<;>(cases h;exact hK)
    cases h
   cases h
  cases h
 |cv d k x =>
  simp only[pv]at h;split at h
  .rename_i w n e;cases h;simp only[wop];rw[L7 H hA e];exact hK
  cases h
 |fa d x off =>
  simp only[pv]at h;split at h
  .rename_i k o e;split at h
   .rename_i cs e2;cases h;simp only[wop];rw[L7 H hA e];exact⟨by simp[H.b _ _ e2],hK⟩
   cases h
  .rename_i D o e;cases h;simp only[wop];rw[L7 H hA e];exact hK
  .rename_i D o e;cases h;simp only[wop];rw[L7 H hA e];exact hK
  .rename_i k i o e;split at h
   .rename_i r e2;cases h;simp only[wop];rw[L7 H hA e];exact⟨by simp[(H.r _ _ e2).1],hK⟩
   cases h
  cases h
 |ld d p n g =>
  simp only[pv]at h;split at h
  .rename_i u e;simp only[wop];rw[L7 H hA e];have:s.ld u n g=some v:=by
    unfold ldv at h;split at h
    .exact h
    .exact h
    .split at h
     .rename_i cs e2;simp only[St.ld,H.b _ _ e2];exact h
     cases h
    cases h
   rw[this];exact hK
  cases h
 |bd d z ps =>
  simp only[pv]at h;split at h
  .rename_i l e;split at h
   .rename_i cs e2;split at h
    .rename_i e3;cases h;simp only[wop];rw[Y2o H hA e];simp only[e2];exact⟨e3,hK⟩
    cases h
   cases h
  cases h
 |ln d x =>
  simp only[pv]at h;split at h
  .rename_i e;cases h;simp only[wop];rw[L7 H hA e];exact hK
  cases h
 |lq d x =>
  simp only[pv]at h;split at h
  .rename_i e;cases h;simp only[wop];rw[L7 H hA e];exact hK
  cases h
 |be d =>cases h;exact hK|ae d x y j E =>
  simp only[pv]at h;split at h
  .rename_i ex;split at h
   .rename_i ey;cases h;simp only[wop];rw[L7 H hA ex];simp only;rw[L7 H hA ey];exact hK
   cases h
  cases h
 |ls d x =>
  simp only[pv]at h;split at h
  .rename_i l e;cases h;simp only[wop];rw[L7 H hA e];exact hK
  cases h
 |ex d x i =>
  simp only[pv]at h;split at h
  .rename_i F e;simp only[wop];rw[L7 H hA e];simp only[h];exact hK
  cases h
 |fd d x off n g =>
  simp only[pv]at h;split at h
  .rename_i cs e;simp only[wop];rw[L7 H hA e];simp only[h];exact hK
  cases h
 |nc d x =>
  simp only[pv]at h;split at h
  .rename_i k o e;split at h
   .rename_i cs e2;cases h;simp only[wop];rw[L7 H hA e];exact⟨by simp[H.b _ _ e2],hK⟩
   cases h
  .rename_i f cs e;cases h;simp only[wop];rw[L7 H hA e];exact hK
  cases h
 |mm d mx x y =>
  simp only[pv]at h;split at h
  .rename_i k a e;split at h
   .rename_i w b e2;split at h
    .rename_i e3;simp only[wop];rw[L7 H hA e,L7 H hA e2];cases mx<;>(cases h;exact⟨e3,hK⟩)
    cases h
   cases h
  cases h
 |mf d f xs =>
  simp only[pv]at h;split at h
  .rename_i l e;cases h;simp only[wop];rw[X0E H hA e];exact hK
  cases h
 |bs d j ps m =>
  simp only[pv]at h;split at h
  .cases h
  split at h
  .rename_i es ex;split at h
   .rename_i hc;cases h;have q:=X0E H hA ex;simp only[wop];rw[q,U1C hc.1];refine⟨hc.1,λe he=>yR (List.all_eq_true.1 hc.2.1 e he),hc.2.2.1,hc.2.2.2,?_⟩;rw[ye (by simp)];exact hK
   cases h
  cases h
 |_=>cases h
end
end
section
def idx{α:Type}(l:List α)(i:Int):Option α:=if 0<=i then l[i.toNat]? else none
def bhi(h:Option Int)(n:Nat):Option Nat:=match h with
 |none=>some n
 |some i=>if 0<=i/\i<=n then some i.toNat else none
def blo(h:Option Int)(n:Nat):Option Nat:=match h with
 |none=>some 0
 |some i=>if 0<=i/\i<=n then some i.toNat else none
def cutL{α:Type}(l:List α)(lo hi:Option Int):Option (List α):=match bhi hi l.length with
 |some h=>match blo lo h with
  |some a=>some ((l.take h).drop a)
  |none=>none
 |none=>none
def appL{α:Type}(bs:Nat)(l m:List α):Option (List α):=if(l.length+m.length)*bs<=140737488355328 then some (l++m)else none
def catS(a b:List UInt8):Option (List UInt8):=if a.length+b.length<=9223372036854775807 then some (a++b)else none
def mkL{α:Type}(bs:Nat)(n:Int)(z:α):Option (List α):=if 0<=n/\bs*n<=140737488355328/\n<=9223372036854775807 then some (List.replicate n.toNat z)else none
def quoI(k:IntKind)(a b:Int):Option Int:=if b=0 then none else some (k.wrap (a.tdiv b))
def remI(a b:Int):Option Int:=if b=0 then none else some (a.tmod b)
def shrI(k:IntKind)(a b:Int):Option Int:=if 0<=b then some (bShr k a b)else none
theorem Y0{a b:Type}(f:a->b){l:List a}{i:Int}{x:a}(h:idx l i=some x):idx (l.map f) i=some (f x):=by
 unfold idx at *;split at h
 .rename_i e;rw[yd e,yF,h];rfl
 cases h
theorem O0{a:Type}{l:List a}{i:Nat}{x:a}(h:l[i]?=some x):idx l (i:Int)=some x:=by unfold idx;rw[yd (by omega)];simpa using h
theorem V4{a:Type}{l:List a}{i:Int}{x:a}(h:idx l i=some x):l[i.toNat]?=some x:=by
 unfold idx at h;split at h
 .exact h
 cases h
theorem O2n{a:Type}{l:List a}{i:Int}{x:a}(h:idx l i=some x):0<=i/\i<l.length:=by
 unfold idx at h;split at h
 .have:=(yB h).1;omega
 cases h
theorem Ut{a d:Type}(f:a->d){l m:List a}{b c:Option Int}(h:cutL l b c=some m):cutL (l.map f) b c=some (m.map f):=by
 unfold cutL at *;rw[List.length_map];split at h
 .split at h
  .cases h;simp[List.map_take,List.map_drop]
  cases h
 cases h
theorem W0{a b:Type}(f:a->b){n:Nat}{l m r:List a}(h:appL n l m=some r):appL n (l.map f) (m.map f)=some (r.map f):=by
 unfold appL at *;split at h
 .rename_i e;cases h;rw[List.length_map,List.length_map,yd e,List.map_append]
 cases h
theorem O2a{a b:Type}(f:a->b){n:Nat}{i:Int}{z:a}{r:List a}(h:mkL n i z=some r):mkL n i (f z)=some (r.map f):=by
 unfold mkL at *;split at h
 .rename_i e;cases h;rw[yd e,List.map_replicate]
 cases h
theorem YS{a b:Type}(f:a->b)(l:List a)(i:Nat)(x:a):(l.map f).set i (f x)=(l.set i x).map f:=by rw[List.map_set]
def TT:Tag->Nat->Value->Prop:=λ_ _ _=>True
def AEs(l l':List AV):Prop:=l.length=l'.length/\∀(w:World) (S:Nat->Nat->Prop) (i:Nat) (a a':AV) (v:Value),l[i]?=some a->l'[i]?=some a'->Rd w S TT a v->Rd w S TT a' v
theorem AEs.refl(l:List AV):AEs l l:=⟨rfl,λw S i a d v h b c=>by rw[h]at b;cases b;exact c⟩
theorem AEs.nil:AEs [] []:=AEs.refl _
def AE(a a':AV):Prop:=∀(w:World) (S:Nat->Nat->Prop) (v:Value),Rd w S TT a v->Rd w S TT a' v
theorem AE.refl(a:AV):AE a a:=λ_ _ _ h=>h
theorem AEs.cons{a g:AV}{l d:List AV}(h:AE a g)(f:AEs l d):AEs (a::l) (g::d):=by refine⟨by simp[f.1],λw S i x j v c b e=>?_⟩;cases i with|zero=>simp at c b;subst c;subst b;exact h w S v e|succ i=>exact f.2 w S i x j v (by simpa using c) (by simpa using b) e
def mrg1:AV->AV->AV
 |.nl,.sl t sz es=>match es with
  |[]=>.sl t sz []
  |_=>.nl
 |.sl _ sz es,.sl t _ _=>.sl t sz es|a,_=>a
def V1d:List AV->List AV->List AV
 |a::l,b::m=>mrg1 a b::V1d l m|l,_=>l
def mrg2:AV->AV->AV
 |.agg cs,.agg ds=>.agg (V1d cs ds)|.ept (.agg cs) o,.ept (.agg ds) _=>.ept (.agg (V1d cs ds)) o|a,b=>mrg1 a b
def Z1N:List AV->List AV->List AV
 |a::l,b::m=>mrg2 a b::Z1N l m|l,_=>l
def mrg:AV->AV->AV
 |.fn f cs,.fn _ ds=>.fn f (Z1N cs ds)|a,b=>mrg2 a b
def mrgL:List AV->List AV->List AV
 |a::l,b::m=>mrg a b::mrgL l m|l,_=>l
section
variable{w:World}{S:Nat->Nat->Prop}
theorem Rd.mrg1{a b:AV}{v:Value}(h:Rd w S TT a v):Rd w S TT (mrg1 a b) v:=by
 unfold Eng.mrg1;split
 .split
  .cases h;exact .sl0 _ _ _ _ λ_ _=>trivial
  exact h
 .cases h with|sl0 _ _ a c _=>exact .sl0 _ _ _ _ λ_ _=>trivial|sl _ _ _ b o c l k i g e m f=>exact .sl _ _ _ b o c l k i g (λj a d=>⟨(e j a d).1,(e j a d).2.1,(e j a d).2.2.1,trivial⟩) (λ_ _=>trivial) f
 exact h
theorem L1X{a b:AV}(h:a.one=true):(mrg1 a b).one=true:=by
 unfold Eng.mrg1;split
 .split<;>rfl
 .rfl
 exact h
theorem M0w:∀{l m:List AV}{i:Nat}{x:AV},(V1d l m)[i]?=some x->∃a b,l[i]?=some a/\(x=a\/x=mrg1 a b)
 |[],m,i,x,h=>by simp[V1d]at h|a::l,[],i,x,h=>⟨x,x,h,.inl rfl⟩|a::l,b::m,0,x,h=>by simp[V1d]at h;exact⟨a,b,rfl,.inr h.symm⟩|a::l,b::m,i+1,x,h=>by obtain⟨f,e,d,c⟩:=M0w (l:=l) (m:=m) (i:=i) (by simpa[V1d]using h);exact⟨f,e,by simpa using d,c⟩
theorem Q1N:∀(l m:List AV),(V1d l m).length=l.length
 |[],_=>rfl|_::_,[]=>rfl|a::l,b::m=>by simp[V1d,Q1N l m]
theorem Rd.mrg2{a b:AV}{v:Value}(h:Rd w S TT a v):Rd w S TT (mrg2 a b) v:=by
 unfold Eng.mrg2;split
 .rename_i cs f;cases h with
  |agg _ p r t h =>
   refine .agg _ p (by rw[Q1N];exact r) (λx e=>?_) λi x v e m=>?_
   .obtain⟨i,s⟩:=List.getElem?_of_mem e;obtain⟨a,b,c,d⟩:=M0w s;have:=t a (yE c);rcases d with rfl|rfl
    .exact this
    exact L1X this
   obtain⟨a,b,c,d⟩:=M0w e;rcases d with rfl|rfl
   .exact h i _ v c m
   exact(h i a v c m).mrg1
 .rename_i cs o f o';cases h with
  |ept _ off b o u q h =>
   refine .ept _ _ b _ u (λj x e=>?_) λj x e=>?_
   .obtain⟨a,b,c,d⟩:=M0w (show(V1d cs f)[j]?=some x from e);obtain⟨l,k,g,n⟩:=q j a c;rcases d with rfl|rfl
    .exact⟨l,k,g,n⟩
    exact⟨l,k,L1X g,trivial⟩
   obtain⟨a,b,c,d⟩:=M0w (show(V1d cs f)[j]?=some x from e);rcases d with rfl|rfl
   .exact h j _ c
   exact(h j a c).mrg1
 exact h.mrg1
theorem Z1P:∀{l m:List AV}{i:Nat}{x:AV},(Z1N l m)[i]?=some x->∃a b,l[i]?=some a/\(x=a\/x=mrg2 a b)
 |[],m,i,x,h=>by simp[Z1N]at h|a::l,[],i,x,h=>⟨x,x,h,.inl rfl⟩|a::l,b::m,0,x,h=>by simp[Z1N]at h;exact⟨a,b,rfl,.inr h.symm⟩|a::l,b::m,i+1,x,h=>by obtain⟨f,e,d,c⟩:=Z1P (l:=l) (m:=m) (i:=i) (by simpa[Z1N]using h);exact⟨f,e,by simpa using d,c⟩
theorem U1N:∀(l m:List AV),(Z1N l m).length=l.length
 |[],_=>rfl|_::_,[]=>rfl|a::l,b::m=>by simp[Z1N,U1N l m]
theorem Rd.mrg{a b:AV}{v:Value}(h:Rd w S TT a v):Rd w S TT (mrg a b) v:=by
 unfold Eng.mrg;split
 .rename_i f cs g m;cases h with
  |fn _ _ e l h =>
   refine .fn f _ e (by rw[U1N];exact l) λi x v k d=>?_;obtain⟨a,b,c,j⟩:=Z1P k;rcases j with rfl|rfl
   .exact h i _ v c d
   exact(h i a v c d).mrg2
 exact h.mrg2
theorem J1Z:∀{l m:List AV},mrgL l m=m->l.length=m.length/\∀(i:Nat)(a b:AV),l[i]?=some a->m[i]?=some b->mrg a b=b
 |[],m,h=>by simp[mrgL]at h;subst h;exact⟨rfl,by intro i a b h;simp at h⟩|a::l,[],h=>by simp[mrgL]at h|a::l,b::m,h=>by simp[mrgL]at h;obtain⟨f,e⟩:=J1Z h.2;refine⟨by simp[f],λi x y d c=>?_⟩;cases i with|zero=>simp at d c;subst d;subst c;exact h.1|succ i=>exact e i x y (by simpa using d) (by simpa using c)
variable{N:Tag->Nat->Value->Prop}
mutual
theorem Rd.unrdt:∀(a:AV) {v:Value},Rd w S N a.rdt v->Rd w S TT a v
 |.bool b,v,h=>by cases h;exact .bool b
 |.int k n,v,h=>by cases h;exact .int k n
 |.str l,v,h=>by cases h;exact .str l
 |.nl,v,h=>by cases h;exact .nl
 |.agg cs,v,h=>by
  rw[AV.rdt]at h
  cases h with
  |agg _ vs hl h1 h =>
   refine .agg cs vs (by simpa[U5]using hl) (λx hx=>?_) λi x v hx hv=>unrdtL cs i x hx _ (h i x.rdt v (by rw[U5,yF,hx];rfl) hv)
   have:=h1 x.rdt (by rw[U5];exact List.mem_map_of_mem hx)
   cases x<;>simp[AV.rdt,AV.one]at this ⊢
 |.fn f cs,v,h=>by
  rw[AV.rdt]at h
  cases h with
  |fn _ _ vs hl h=>exact .fn f cs vs (by simpa[U5]using hl) λi x v hx hv=>unrdtL cs i x hx _ (h i x.rdt v (by rw[U5,yF,hx];rfl) hv)
 |.sl t sz es,v,h=>by
  rw[AV.rdt]at h
  generalize hz:rdtL es=zs at h
  cases h with
  |sl0 _ _ a c _ =>
   have:es=[]:=by
    rw[U5]at hz
    simpa using hz
   subst this
   exact .sl0 _ _ _ _ λ_ _=>trivial
  |sl _ _ _ b o c cv h1 h2 h3 h4 h5 h6 =>
   subst hz
   have hl:(rdtL es).length=es.length:=by rw[U5];simp
   rw[hl]
   refine .sl t sz es b o c cv (by rw[← hl];exact h1) h2 (λe he=>?_) (λj x hj=>?_) (λ_ _=>trivial) λj x hj=>?_
   .have:=h3 e.rdt (by rw[U5];exact List.mem_map_of_mem he)
    cases e<;>simp[AV.rdt,AV.cells,U5]at this ⊢<;>exact this
   .have q:(flat (rdtL es))[j]?=some x.rdt:=by rw[V1a,yF,hj];rfl
    obtain⟨z1,z2,z3,_⟩:=h4 j _ q
    exact⟨z1,z2,by cases x<;>simp[AV.rdt,AV.one]at z3 ⊢,trivial⟩
   .have q:(flat (rdtL es))[j]?=some x.rdt:=by rw[V1a,yF,hj];rfl
    exact unrdtF es j x hj _ (h6 j _ q)
 |.ept e o,v,h=>by
  rw[AV.rdt]at h
  cases h with
  |ept _ off b o cv hw h =>
   have hc:e.rdt.cells=e.cells.map AV.rdt:=by cases e<;>simp[AV.rdt,AV.cells,U5]
   refine .ept e _ b _ cv (λj x hx=>?_) λj x hx=>?_
   .obtain⟨z1,z2,z3,_⟩:=hw j x.rdt (by rw[hc,yF,hx];rfl)
    exact⟨z1,z2,by cases x<;>simp[AV.rdt,AV.one]at z3 ⊢,trivial⟩
   .exact unrdtC e j x hx _ (h j x.rdt (by rw[hc,yF,hx];rfl))
 |.tup _,v,h=>by rw[AV.rdt]at h;cases h
 |.sref k,v,h=>by have h:Rd w S N (.sref k) v:=h;cases h
 |.ptr k o,v,h=>by have h:Rd w S N (.ptr k o) v:=h;cases h
 |.eot e o,v,h=>by have h:Rd w S N (.eot e o) v:=h;cases h
 |.rpt k i o,v,h=>by have h:Rd w S N (.rpt k i o) v:=h;cases h
 |.und,v,h=>by have h:Rd w S N (.und) v:=h;cases h
 |.el,v,h=>by have h:Rd w S N (.el) v:=h;cases h
 |.od i ks n,v,h=>by have h:Rd w S N (.od i ks n) v:=h;cases h
 |.op i ks o,v,h=>by have h:Rd w S N (.op i ks o) v:=h;cases h
 |.bad,v,h=>by have h:Rd w S N (.bad) v:=h;cases h
termination_by a=>(SizeOf.sizeOf a,0)
theorem Rd.unrdtL:∀(l:List AV) (i:Nat) (a:AV),l[i]?=some a->∀v,Rd w S N a.rdt v->Rd w S TT a v
 |[],i,a,h,_,_=>by simp at h
 |x::l,0,a,h,v,hr=>by
  have e:x=a:=by simpa using h
  exact e ▸ Rd.unrdt x (e ▸ hr)
 |x::l,i+1,a,h,v,hr=>Rd.unrdtL l i a (by simpa using h) v hr
termination_by l=>(SizeOf.sizeOf l,0)
theorem Rd.unrdtF:∀(l:List AV) (i:Nat) (a:AV),(flat l)[i]?=some a->∀v,Rd w S N a.rdt v->Rd w S TT a v
 |[],i,a,h,_,_=>by simp[flat]at h
 |x::l,i,a,h,v,hr=>by
  have e:flat (x::l)=x.cells++flat l:=by simp[flat]
  rw[e,List.getElem?_append]at h
  split at h
  .exact Rd.unrdtC x i a h v hr
  .exact Rd.unrdtF l _ a h v hr
termination_by l=>(SizeOf.sizeOf l,0)
theorem Rd.unrdtC:∀(e:AV) (i:Nat) (a:AV),e.cells[i]?=some a->∀v,Rd w S N a.rdt v->Rd w S TT a v
 |.agg cs,i,a,h,v,hr=>Rd.unrdtL cs i a h v hr
 |.bool b,i,a,h,v,hr | .int _ _,i,a,h,v,hr | .str _,i,a,h,v,hr | .nl,i,a,h,v,hr | .el,i,a,h,v,hr | .od _ _ _,i,a,h,v,hr | .op _ _ _,i,a,h,v,hr | .sl _ _ _,i,a,h,v,hr | .ept _ _,i,a,h,v,hr
 |.tup _,i,a,h,v,hr | .sref _,i,a,h,v,hr | .ptr _ _,i,a,h,v,hr | .eot _ _,i,a,h,v,hr | .rpt _ _ _,i,a,h,v,hr | .fn _ _,i,a,h,v,hr | .und,i,a,h,v,hr | .bad,i,a,h,v,hr=>by
  cases i with
  |zero =>
   simp only[AV.cells,List.getElem?_cons_zero,yI]at h
   exact h ▸ Rd.unrdt _ (h ▸ hr)
  |succ i=>simp[AV.cells]at h
termination_by e=>(SizeOf.sizeOf e,1)
end
theorem Snd.aes{P:Program}{f:FuncId}{l e d:List AV}{b:AV}{rows:List Row}(h:Snd P f d b rows)(c:AEs e d)(j:mrgL l e=e):Snd P f (rdtL l) b rows:=by
 intro w S N q x r g;obtain⟨y,j⟩:=J1Z j;have t:(rdtL l).length=l.length:=by rw[U5];simp
 have u:=c.1;refine h w S TT q x (by omega) λi a v n s=>?_;have z:=(yB n).1;have m:i<l.length:=by omega
 have k:i<e.length:=by omega
 have p:=yA m;have o:=yA k;apply c.2 w S i e[i] a v o n;have:=Rd.unrdt (N:=N) l[i] (g i l[i].rdt v (by rw[U5,yF,p];rfl) s);rw[← j i _ _ p o];exact this.mrg
end
def LS.dc(σ:LS):AV->Option AV
 |.sref k=>match lk σ.tr k with
  |some r=>some (.sl .nw r.sz r.es)
  |none=>none
 |.bool b=>some (.bool b)|.int k n=>some (.int k n)|.str l=>some (.str l)|.nl=>some .nl|.sl t sz es=>some (.sl t sz es)|.ept e o=>some (.ept e o)|_=>none
def LS.dcL(σ:LS):List AV->Option (List AV)
 |[]=>some []|a::l=>match σ.dc a with
  |some x=>match σ.dcL l with
   |some y=>some (x::y)
   |none=>none
  |none=>none
def LS.d2(σ:LS):AV->Option AV
 |.agg cs=>match σ.dcL cs with
  |some l=>some (.agg l)
  |none=>none
 |a=>σ.dc a
def LS.d2L(σ:LS):List AV->Option (List AV)
 |[]=>some []|a::l=>match σ.d2 a with
  |some x=>match σ.d2L l with
   |some y=>some (x::y)
   |none=>none
  |none=>none
def LS.dt(σ:LS):AV->Option AV
 |.fn f cs=>match σ.d2L cs with
  |some l=>some (.fn f l)
  |none=>none
 |a=>σ.d2 a
def LS.dtL(σ:LS):List AV->Option (List AV)
 |[]=>some []|a::l=>match σ.dt a with
  |some x=>match σ.dtL l with
   |some y=>some (x::y)
   |none=>none
  |none=>none
section
variable{σ:LS}{s:St}
theorem M2k(H:σ.has s){a x:AV}(h:σ.dc a=some x):s.dt a=some x:=by
 unfold LS.dc at h;split at h
 .split at h
  .rename_i r e;cases h;simp[St.dt,(H.r _ _ e).1]
  cases h
 all_goals first | (cases h;rfl)|cases h
theorem L2o(H:σ.has s):∀{l m:List AV},σ.dcL l=some m->s.dtL l=some m
 |[],m,h=>by cases h;rfl|a::l,m,h=>by
  simp[LS.dcL]at h;split at h
  .rename_i x e;split at h
   .rename_i y b;cases h;rw[St.dtL,M2k H e,L2o H b]
   .cases h
  .cases h
theorem V2E(H:σ.has s){a x:AV}(h:σ.d2 a=some x):s.dt a=some x:=by
 unfold LS.d2 at h;split at h
 .split at h
  .rename_i l e;cases h;rw[St.dt,L2o H e];rfl
  cases h
 exact M2k H h
theorem J2o(H:σ.has s):∀{l m:List AV},σ.d2L l=some m->s.dtL l=some m
 |[],m,h=>by cases h;rfl|a::l,m,h=>by
  simp[LS.d2L]at h;split at h
  .rename_i x e;split at h
   .rename_i y b;cases h;rw[St.dtL,V2E H e,J2o H b]
   .cases h
  .cases h
theorem Y2E(H:σ.has s){a x:AV}(h:σ.dt a=some x):s.dt a=some x:=by
 unfold LS.dt at h;split at h
 .split at h
  .rename_i l e;cases h;rw[St.dt,J2o H e];rfl
  cases h
 exact V2E H h
theorem W2e(H:σ.has s):∀{l m:List AV},σ.dtL l=some m->s.dtL l=some m
 |[],m,h=>by cases h;rfl|a::l,m,h=>by
  simp[LS.dtL]at h;split at h
  .rename_i x e;split at h
   .rename_i y b;cases h;rw[St.dtL,Y2E H e,W2e H b]
   .cases h
  .cases h
end
end
section
inductive Act|a(v:AV)|l(es:List AV)|i(i:Int)|n(n:Nat)|s(l:List UInt8)|o(o:Option Int)|w(f:Nat)(as:List AV)(bin:List (List AV))(rin:List (Nat×List AV))
def allG:List (Bool×Bool)->Prop
 |[]=>True| (b,w)::r=>b=w/\allG r
structure Rw(q:Prop) where
 a:AV
 b:AV
 h:q->a=b
def M0Q(P:Program)(f sz:Nat)(es as:List AV)(ret:Bool)(es':List AV):Prop:=Con P f (.sref 0::as) [] [⟨sz,es,false⟩] λres bout upd new =>
 bout=[]/\(match ret with|true=>res=.sref 1/\upd=[none]/\new=[⟨sz,es',false⟩]|false=>res=.tup []/\upd=[some es']/\new=[])
def ownR(rin:List (Nat×List AV)):List Row:=rin.map λp=>⟨p.1,p.2,false⟩
def ConD(P:Program)(f:FuncId)(as:List AV)(bin:List (List AV))(rin:List (Nat×List AV))(res:AV)(bout:List (List AV))(upd:List (Option (List AV)))(new:List (Nat×List AV)):Prop :=Con P f as bin (ownR rin) λr b u n=>r=res/\b=bout/\u=upd/\n=ownR new
inductive Hint(P:Program)(q:Prop)
 |ln (es:List AV) (n:Nat) (h:q->es.length=n)
 |le (es:List AV) (n:Nat) (h:q->es.length=n) (h2:q->n<=9223372036854775807)
 |ix (es:List AV) (i:Int) (e:AV) (h:q->idx es i=some e)
 |el (es:List AV) (j:Nat) (e:AV) (h:q->es[j]?=some e)
 |sx (l:List UInt8) (i:Int) (b:UInt8) (h:q->idx l i=some b)
 |sto (es:List AV) (j:Nat) (e ne:AV) (es':List AV) (h:q->es[j]?=some e) (h2:q->es.set j ne=es')
 |ap (es news:List AV) (bs:Nat) (es':List AV) (h:q->appL bs es news=some es')
 |ms (bs:Nat) (n:Int) (z:AV) (es:List AV) (h:q->mkL bs n z=some es)
 |sc (es:List AV) (lo hi:Option Int) (es':List AV) (h:q->cutL es lo hi=some es')
 |ss (l:List UInt8) (lo hi:Option Int) (y:List UInt8) (h:q->cutL l lo hi=some y)
 |sa (x y z:List UInt8) (h:q->catS x y=some z)
 |quo (k:IntKind) (x y z:Int) (h:q->quoI k x y=some z)
 |rem (x y z:Int) (h:q->remI x y=some z)
 |shr (k:IntKind) (x y z:Int) (h:q->shrI k x y=some z)
 |b2s (es:List AV) (l:List UInt8) (h:q->es=l.map λb=>AV.int .u8 b.toNat)
 |s2b (l:List UInt8) (es:List AV) (h:q->l.length<=140737488355328) (h2:q->(l.map λb=>AV.int .u8 b.toNat)=es)
 |call (f:Nat) (as as':List AV) (res:AV) (rows:List Row) (hae:AEs as as') (h:q->Snd P f as' res rows)
 |clsr (f:Nat) (as as':List AV) (res:AV) (rows:List Row) (hae:AEs as as') (hf:isFn P f=true) (h:q->Snd P f as' res rows)
 |cw (f:Nat) (bks rks:List Nat) (bin:List (List AV)) (rin:List (Nat×List AV)) (as0 as:List AV) (res:AV) (bout:List (List AV)) (upd:List (Option (List AV))) (new:List (Nat×List AV))
  (hae:GEs as0 as) (hb:∀b∈bin,noOL b) (hr:∀r∈rin,noOL r.2) (ho:noOL as0) (h:q->ConD P f as bin rin res bout upd new)
 |cz (f:Nat) (bks:List Nat) (bin:List (List AV)) (as0 as:List AV) (res:AV) (bout:List (List AV)) (hb:∀b∈bin,noOL b) (ho:noOL as0) (hr:q->rdtL as0=as) (h:q->ConD P f as bin [] res bout [] [])
 |bn (f:Nat) (as0 as1 as cs:List AV) (ho:q->noOL as0) (hr:q->rdtL as1=as) (h:q->SndB P f as λc=>c=cs)
 |cr (f sz:Nat) (es vs as:List AV) (ret:Bool) (es':List AV) (hn:q->noOL es) (hv:q->noOL vs) (hr:q->rdtL vs=as) (h:q->M0Q P f sz es as ret es')
structure HE(P:Program) where
 k:Nat
 gs:List (Bool×Bool)
 h:Option (Hint P (allG gs))
 r:Option (Rw (allG gs))
def Hint.exp{P:Program}{q:Prop}:Hint P q->List Act
 |.ln es _ _=>[.l es]|.le es _ _ _=>[.l es]|.ix es i _ _=>[.l es,.i i]|.el es j _ _=>[.l es,.n j]|.sx l i _ _=>[.s l,.i i]|.sto es j _ ne _ _ _=>[.l es,.n j,.a ne]|.ap es news bs _ _=>[.l es,.l news,.n bs]|.ms bs n z _ _=>[.n bs,.i n,.a z]|.sc es lo hi _ _=>[.l es,.o lo,.o hi]|.ss l lo hi _ _=>[.s l,.o lo,.o hi]|.sa x y _ _=>[.s x,.s y]|.quo _ x y _ _=>[.i x,.i y]|.rem x y _ _=>[.i x,.i y]|.shr _ x y _ _=>[.i x,.i y]|.b2s es _ _=>[.l es]|.s2b l _ _ _=>[.s l]|.call f as _ _ _ _ _=>[.n f,.l as]|.clsr f as _ _ _ _ _ _=>[.n f,.l as]|.cw f _ _ bin rin as0 _ _ _ _ _ _ _ _ _ _=>[.w f as0 bin rin]|.cz f _ bin as0 _ _ _ _ _ _ _=>[.w f as0 bin []]|.bn f as0 as1 _ _ _ _ _=>[.n f,.l as0,.l as1]|.cr f sz es vs _ _ _ _ _ _ _=>[.n f,.n sz,.l es,.l vs]
def Rw.exp{p:Prop}(q:Option (Rw p)):List Act:=match q with|some q=>[.a q.a]|none=>[]
def hexp{P:Program}{p:Prop}(q:Option (Hint P p)):List Act:=match q with|some q=>q.exp|none=>[]
def kdec(a b:IntKind):Bool:=decide (a=b)
def gto(A:List (Nat×Bool))(σ:LS):Option X->Option (Option Int)
 |none=>some none|some x=>match gt A σ x with
  |some (.int _ i)=>some (some i)
  |_=>none
def pvh{P:Program}{q:Prop}(A:List (Nat×Bool))(σ:LS):Option (Hint P q)->LOp->Option (AV×List Act)
 |none,l=>match l with
  |.b2s _ x=>match gt A σ x with
   |some .nl=>some (.str [],[])
   |_=>none
  |l=>match pv A σ l with
   |some v=>some (v,[])
   |none=>none
 |some h,l=>match h with
  |.ln _ n _=>match l with
   |.ln _ x=>match gt A σ x with
    |some (.sl _ _ es)=>some (.int .i64 n,[.l es])
    |some (.sref k)=>match lk σ.tr k with
     |some r=>some (.int .i64 n,[.l r.es])
     |none=>none
    |_=>none
   |_=>none
  |.le _ n _ _=>match l with
   |.lq _ x=>match gt A σ x with
    |some (.sl _ _ es)=>some (.int .i64 n,[.l es])
    |some (.sref k)=>match lk σ.tr k with
     |some r=>some (.int .i64 n,[.l r.es])
     |none=>none
    |_=>none
   |_=>none
  |.ix _ _ e _=>match l with
   |.ia _ x i n=>match gt A σ i with
    |some (.int _ j)=>match gt A σ x with
     |some (.sl t sz es)=>match Nat.beq sz n with
      |true=>match t with
       |.own _=>some (.eot e 0,[.l es,.i j])
       |_=>some (.ept e 0,[.l es,.i j])
      |false=>none
     |some (.sref k)=>match lk σ.tr k with
      |some r=>match Nat.beq r.sz n with
       |true=>some (.rpt k j.toNat 0,[.l r.es,.i j])
       |false=>none
      |none=>none
     |_=>none
    |_=>none
   |_=>none
  |.el _ _ e _=>match l with
   |.ld _ p n ag=>match gt A σ p with
    |some (.rpt k j off)=>match lk σ.tr k with
     |some r=>match U0u e.cells off n ag with
      |some v=>some (v,[.l r.es,.n j])
      |none=>none
     |none=>none
    |_=>none
   |_=>none
  |.sx _ _ b _=>match l with
   |.ix _ x i=>match gt A σ x with
    |some (.str s)=>match gt A σ i with
     |some (.int _ j)=>some (.int .u8 b.toNat,[.s s,.i j])
     |_=>none
    |_=>none
   |_=>none
  |.sc _ _ _ es' _=>match l with
   |.sc _ x lo hi n=>match gto A σ lo with
    |some lo=>match gto A σ hi with
     |some hi=>match gt A σ x with
      |some (.sl t sz es)=>match Nat.beq sz n with
       |true=>match t with
        |.own _=>none
        |_=>some (.sl t sz es',[.l es,.o lo,.o hi])
       |false=>none
      |some .nl=>some (.nl,[.l [],.o lo,.o hi])
      |_=>none
     |none=>none
    |none=>none
   |_=>none
  |.ss _ _ _ y _=>match l with
   |.ss _ x lo hi=>match gto A σ lo with
    |some lo=>match gto A σ hi with
     |some hi=>match gt A σ x with
      |some (.str s)=>some (.str y,[.s s,.o lo,.o hi])
      |_=>none
     |none=>none
    |none=>none
   |_=>none
  |.sa _ _ z _=>match l with
   |.sa _ x y=>match gt A σ x with
    |some (.str a)=>match gt A σ y with
     |some (.str b)=>some (.str z,[.s a,.s b])
     |_=>none
    |_=>none
   |_=>none
  |.quo k _ _ z _=>match l with
   |.bi _ .quo x y=>match gt A σ x with
    |some (.int k1 a)=>match gt A σ y with
     |some (.int k2 b)=>match kdec k1 k&&kdec k2 k with
      |true=>some (.int k z,[.i a,.i b])
      |false=>none
     |_=>none
    |_=>none
   |_=>none
  |.rem _ _ z _=>match l with
   |.bi _ .rem x y=>match gt A σ x with
    |some (.int k1 a)=>match gt A σ y with
     |some (.int k2 b)=>match kdec k1 k2 with
      |true=>some (.int k1 z,[.i a,.i b])
      |false=>none
     |_=>none
    |_=>none
   |_=>none
  |.shr k _ _ z _=>match l with
   |.bi _ .shr x y=>match gt A σ x with
    |some (.int k1 a)=>match gt A σ y with
     |some (.int _ b)=>match kdec k1 k with
      |true=>some (.int k z,[.i a,.i b])
      |false=>none
     |_=>none
    |_=>none
   |_=>none
  |.b2s _ y _=>match l with
   |.b2s _ x=>match gt A σ x with
    |some v=>match σ.dc v with
     |some (.sl _ _ es)=>some (.str y,[.l es])
     |_=>none
    |none=>none
   |_=>none
  |.s2b _ es _ _=>match l with
   |.s2b _ x=>match gt A σ x with
    |some (.str s)=>some (.sl .nw 1 es,[.s s])
    |_=>none
   |_=>none
  |.call _ as _ res rows _ _=>match l with
   |.cq _ f' xs=>match gts A σ xs with
    |some vs=>match σ.dtL vs with
     |some ds=>some (res.nwd rows,[.n f',.l (mrgL ds as)])
     |none=>none
    |none=>none
   |_=>none
  |.clsr _ as _ res rows _ _ _=>match l with
   |.cc _ fx xs=>match gt A σ fx with
    |some fv=>match σ.dt fv with
     |some (.fn f' cap)=>match gts A σ xs with
      |some vs=>match σ.dtL vs with
       |some ds=>some (res.nwd rows,[.n f',.l (mrgL (ds++cap) as)])
       |none=>none
      |none=>none
     |_=>none
    |none=>none
   |_=>none
  |.ap _ _ _ es' _=>match l with
   |.ae _ x y sz by'=>match gt A σ x with
    |some .el=>match gt A σ y with
     |some (.sl _ sy news)=>match Nat.beq sy sz with
      |true=>some (.sl .nw sz es',[.l [],.l news,.n by'])
      |false=>none
     |_=>none
    |_=>none
   |_=>none
  |_=>none
section
variable{P:Program}{σ:LS}{s:St}{A:List (Nat×Bool)}
theorem Z1y(H:σ.has s)(a:sat s A){o:Option X}{q:Option Int}(h:gto A σ o=some q):(∀n,s.hi o n=bhi q n)/\∀n,s.lo o n=blo q n:=by
 cases o with
 |none=>cases h;exact⟨λ_=>rfl,λ_=>rfl⟩|some x =>
  simp[gto]at h;split at h
  .rename_i k i e;cases h;have:=L7 H a e;exact⟨λn=>by simp[St.hi,this,L22,bhi],λn=>by simp[St.lo,this,L22,blo]⟩
  cases h
theorem Y1l{a:List AV}{k:IntKind}{j:Int}{e:AV}(h:idx a j=some e):Q1p (.int k j) a.length=some j.toNat/\a[j.toNat]?=some e:=by have b:=O2n h;exact⟨by simp only[Q1p];rw[yd b],V4 h⟩
theorem V23{l:List UInt8}{k:IntKind}{j:Int}{b:UInt8}(h:idx l j=some b):Q1p (.int k j) l.length=some j.toNat/\l[j.toNat]?=some b:=by have a:=O2n h;exact⟨by simp only[Q1p];rw[yd a],V4 h⟩
theorem Q1a{f:Type}{l m:List f}{c d:Option Int}(h:cutL l c d=some m):∃b a,bhi d l.length=some b/\blo c b=some a/\(l.take b).drop a=m:=by
 unfold cutL at h;split at h
 .rename_i b e;split at h
  .rename_i a g;cases h;exact⟨b,a,e,g,rfl⟩
  cases h
 cases h
theorem V1J{xs:List X}{a b:List AV}(H:σ.has s)(c:sat s A)(h:gts A σ xs=some a)(d:σ.dtL a=some b):s.args xs=some (rdtL b):=by unfold St.args;rw[X0E H c h,W2e H d]
theorem Z1M{q:Prop}(B:q)(H:σ.has s)(g:sat s A){l:LOp}{h:Option (Hint P q)}{v:AV}{as:List Act}(e:pvh A σ h l=some (v,as))(c:as=hexp h){K:St->Prop}(w:K (s.set l.dst v)):wop P l K s:=by
 cases h with
 |none =>
  have gen:∀{l:LOp},(match pv A σ l with|some v=>some (v,[])|none=>none)=some (v,as)->K (s.set l.dst v)->wop P l K s:=by
   intro l e w;split at e
   .rename_i u I;cases e;exact pv_ok H g I w
   cases e
  cases l with
  |b2s d x =>
   simp only[pvh]at e;split at e
   .rename_i I;cases e;simp only[wop];rw[L7 H g I];exact w
   cases e
  |_=>exact gen e w
 |some h =>
  cases h with
  |ln U n h =>
   have h:=h B;cases l with
   |ln d x =>
    simp only[pvh]at e;split at e
    .rename_i t V J I;cases e;simp only[hexp,Hint.exp,yW,Act.l.injEq,and_true]at c;simp only[wop];rw[L7 H g I];subst c;subst h;exact λ_=>w
    .rename_i k I;split at e
     .rename_i r R;cases e;simp only[hexp,Hint.exp,yW,Act.l.injEq,and_true]at c;simp only[wop];rw[L7 H g I];simp only[(H.r _ _ R).1];subst c;subst h;exact λ_=>w
     cases e
    cases e
   |_=>cases e
  |le U n h E =>
   have h:=h B;have E:=E B;cases l with
   |lq d x =>
    simp only[pvh]at e;split at e
    .rename_i t V J I;cases e;simp only[hexp,Hint.exp,yW,Act.l.injEq,and_true]at c;simp only[wop];rw[L7 H g I];subst c;subst h;exact⟨E,w⟩
    .rename_i k I;split at e
     .rename_i r R;cases e;simp only[hexp,Hint.exp,yW,Act.l.injEq,and_true]at c;simp only[wop];rw[L7 H g I];simp only[(H.r _ _ R).1];subst c;subst h;exact⟨E,w⟩
     cases e
    cases e
   |_=>cases e
  |ix U i e0 h =>
   have h:=h B;cases l with
   |ia d x y n =>
    simp only[pvh]at e;split at e
    .rename_i k j C;split at e
     .rename_i t V J m;split at e
      .rename_i G;have G:=yR G;split at e
       .cases e;simp only[hexp,Hint.exp,yW,Act.l.injEq,Act.i.injEq,and_true]at c;obtain⟨rfl,rfl⟩:=c;obtain⟨D,F⟩:=Y1l (k:=k) h;simp only[wop];rw[L7 H g m,L7 H g C];simp only[D,F];exact⟨G,w⟩
       rename_i N;cases e;simp only[hexp,Hint.exp,yW,Act.l.injEq,Act.i.injEq,and_true]at c;obtain⟨rfl,rfl⟩:=c;obtain⟨D,F⟩:=Y1l (k:=k) h;simp only[wop];rw[L7 H g m,L7 H g C];simp only[D,F];refine⟨G,?_⟩;rw[ye]
       .exact w
       cases t<;>simp[Tag.isOwn]at N ⊢
      cases e
     .rename_i k' m;split at e
      .rename_i r R;split at e
       .rename_i G;have G:=yR G;cases e;simp only[hexp,Hint.exp,yW,Act.l.injEq,Act.i.injEq,and_true]at c;obtain⟨rfl,rfl⟩:=c;obtain⟨D,F⟩:=Y1l (k:=k) h;simp only[wop];rw[L7 H g m,L7 H g C];simp only[(H.r _ _ R).1,D];exact⟨G,w⟩
       cases e
      cases e
     cases e
    cases e
   |_=>cases e
  |el U j e0 h =>
   have h:=h B;cases l with
   |ld d p n ag =>
    simp only[pvh]at e;split at e
    .rename_i k j' off ep;split at e
     .rename_i r R;split at e
      .rename_i u eu;cases e;simp only[hexp,Hint.exp,yW,Act.l.injEq,Act.n.injEq,and_true]at c;obtain⟨rfl,rfl⟩:=c;simp only[wop];rw[L7 H g ep];simp only[St.ld,(H.r _ _ R).1,h,eu];exact w
      cases e
     cases e
    cases e
   |_=>cases e
  |sx l0 i b h =>
   have h:=h B;cases l with
   |ix d x y =>
    simp only[pvh]at e;split at e
    .rename_i s0 m;split at e
     .rename_i k j C;cases e;simp only[hexp,Hint.exp,yW,Act.s.injEq,Act.i.injEq,and_true]at c;obtain⟨rfl,rfl⟩:=c;obtain⟨D,F⟩:=V23 (k:=k) h;simp only[wop];rw[L7 H g m,L7 H g C];simp only[D,F];exact w
     cases e
    cases e
   |_=>cases e
  |sc U lo hi J h =>
   have h:=h B;cases l with
   |sc d x xlo xhi n =>
    simp only[pvh]at e;split at e
    .rename_i lo' S;split at e
     .rename_i X T;have h1:=(Z1y H g T).1;have E:=(Z1y H g S).2;split at e
      .rename_i t V Z m;split at e
       .rename_i G;have G:=yR G;split at e
        .cases e
        rename_i N;cases e;simp only[hexp,Hint.exp,yW,Act.l.injEq,Act.o.injEq,and_true]at c;obtain⟨rfl,rfl,rfl⟩:=c;obtain⟨b,a,D,F,q3⟩:=Q1a h;simp only[wop];rw[L7 H g m];simp only[h1,E,D,F,q3];exact⟨G,by cases t<;>simp[Tag.isOwn]at N ⊢,w⟩
       cases e
      .rename_i m;cases e;simp only[hexp,Hint.exp,yW,Act.l.injEq,Act.o.injEq,and_true]at c;obtain⟨rfl,rfl,rfl⟩:=c;obtain⟨b,a,D,F,q3⟩:=Q1a h;simp only[wop];rw[L7 H g m];simp only[h1,E];rw[show bhi X 0=some b from D];simp only[F];exact w
      cases e
     cases e
    cases e
   |_=>cases e
  |ss l0 lo hi y h =>
   have h:=h B;cases l with
   |ss d x xlo xhi =>
    simp only[pvh]at e;split at e
    .rename_i lo' S;split at e
     .rename_i X T;have h1:=(Z1y H g T).1;have E:=(Z1y H g S).2;split at e
      .rename_i s0 m;cases e;simp only[hexp,Hint.exp,yW,Act.s.injEq,Act.o.injEq,and_true]at c;obtain⟨rfl,rfl,rfl⟩:=c;obtain⟨b,a,D,F,q3⟩:=Q1a h;simp only[wop];rw[L7 H g m];simp only[h1,E,D,F,q3];exact w
      cases e
     cases e
    cases e
   |_=>cases e
  |ap Z news0 bs0 J h =>
   have h:=h B;cases l with
   |ae d x y V by' =>
    simp only[pvh]at e;split at e
    .rename_i m;split at e
     .rename_i t sy news C;split at e
      .rename_i hc;have c3:=yR hc;cases e;simp only[hexp,Hint.exp,yW,Act.l.injEq,Act.n.injEq,and_true]at c;obtain⟨rfl,rfl,rfl⟩:=c;unfold appL at h;split at h
       .rename_i O;cases h;simp only[wop];rw[L7 H g m];simp only;rw[L7 H g C];exact⟨.inr c3,by simpa using O,by simpa using w⟩
       cases h
      cases e
     cases e
    cases e
   |_=>cases e
  |sa x0 y0 z h =>
   have h:=h B;cases l with
   |sa d x y =>
    simp only[pvh]at e;split at e
    .rename_i a m;split at e
     .rename_i b C;cases e;simp only[hexp,Hint.exp,yW,Act.s.injEq,and_true]at c;obtain⟨rfl,rfl⟩:=c;unfold catS at h;split at h
      .rename_i O;cases h;simp only[wop];rw[L7 H g m,L7 H g C];exact⟨O,w⟩
      cases h
     cases e
    cases e
   |_=>cases e
  |quo k x0 y0 z h =>
   have h:=h B;cases l with
   |bi d W x y =>
    cases W with
    |quo =>
     simp only[pvh]at e;split at e
     .rename_i k1 a m;split at e
      .rename_i k2 b C;split at e
       .rename_i L;simp only[yD,kdec,yO]at L;obtain⟨rfl,rfl⟩:=L;cases e;simp only[hexp,Hint.exp,yW,Act.i.injEq,and_true]at c;obtain⟨rfl,rfl⟩:=c;unfold quoI at h;split at h
        .cases h
        rename_i Y;cases h;simp only[wop];rw[L7 H g m,L7 H g C];simp only[evB];rw[yd ⟨trivial,Y⟩];exact w
       cases e
      cases e
     cases e
    |_=>cases e
   |_=>cases e
  |rem x0 y0 z h =>
   have h:=h B;cases l with
   |bi d W x y =>
    cases W with
    |rem =>
     simp only[pvh]at e;split at e
     .rename_i k1 a m;split at e
      .rename_i k2 b C;split at e
       .rename_i L;simp only[kdec,yO]at L;subst L;cases e;simp only[hexp,Hint.exp,yW,Act.i.injEq,and_true]at c;obtain⟨rfl,rfl⟩:=c;unfold remI at h;split at h
        .cases h
        rename_i Y;cases h;simp only[wop];rw[L7 H g m,L7 H g C];simp only[evB];rw[yd ⟨trivial,Y⟩];exact w
       cases e
      cases e
     cases e
    |_=>cases e
   |_=>cases e
  |shr k x0 y0 z h =>
   have h:=h B;cases l with
   |bi d W x y =>
    cases W with
    |shr =>
     simp only[pvh]at e;split at e
     .rename_i k1 a m;split at e
      .rename_i k2 b C;split at e
       .rename_i L;simp only[kdec,yO]at L;subst L;cases e;simp only[hexp,Hint.exp,yW,Act.i.injEq,and_true]at c;obtain⟨rfl,rfl⟩:=c;unfold shrI at h;split at h
        .rename_i Y;cases h;simp only[wop];rw[L7 H g m,L7 H g C];simp only[evB];rw[yd Y];exact w
        cases h
       cases e
      cases e
     cases e
    |_=>cases e
   |_=>cases e
  |b2s U y h =>
   have h:=h B;cases l with
   |b2s d x =>
    simp only[pvh]at e;split at e
    .rename_i u m;split at e
     .rename_i t V Z ed;cases e;simp only[hexp,Hint.exp,yW,Act.l.injEq,and_true]at c;simp only[wop];rw[L7 H g m,M2k H ed];exact⟨y,by rw[c];exact h,w⟩
     cases e
    cases e
   |_=>cases e
  |s2b l0 U h E =>
   have h:=h B;have E:=E B;cases l with
   |s2b d x =>
    simp only[pvh]at e;split at e
    .rename_i s0 m;cases e;simp only[hexp,Hint.exp,yW,Act.s.injEq,and_true]at c;subst c;simp only[wop];rw[L7 H g m];simp only;rw[E];exact⟨h,w⟩
    cases e
   |_=>cases e
  |call f as0 as' M rows Q h =>
   have h:=h B;cases l with
   |cq d f' xs =>
    simp only[pvh]at e;split at e
    .rename_i vs ev;split at e
     .rename_i ds ed;cases e;simp only[hexp,Hint.exp,yW,Act.n.injEq,Act.l.injEq,and_true]at c;obtain⟨rfl,c⟩:=c;exact⟨_,V1J H g ev ed,M,rows,h.aes Q c,w⟩
     cases e
    cases e
   |_=>cases e
  |clsr f as0 as' M rows Q hf h =>
   have h:=h B;cases l with
   |cc d fx xs =>
    simp only[pvh]at e;split at e
    .rename_i fv efx;split at e
     .rename_i f' cap edf;split at e
      .rename_i vs ev;split at e
       .rename_i ds ed;cases e;simp only[hexp,Hint.exp,yW,Act.n.injEq,Act.l.injEq,and_true]at c;obtain⟨rfl,c⟩:=c;refine⟨rdtL (.fn f' cap::ds),?_,f',rdtL cap,rdtL ds,by simp[rdtL,AV.rdt],hf,M,rows,?_,w⟩
        .unfold St.args;rw[List.map_cons,L7 H g efx,X0E H g ev,St.dtL,Y2E H edf,W2e H ed]
        have:=h.aes Q c;rwa [U5,List.map_append,← U5,← U5]at this
       cases e
      cases e
     cases e
    cases e
   |_=>cases e
  |_=>cases l<;>cases e
end
end
section
def addRows(σ:LS)(k:Nat):List Row->LS
 |[]=>σ|r::rs=>addRows ((σ.kill k).row k r) (k+1) rs
mutual
def AV.odF:AV->Bool
 |.od _ _ _=>false
 |.op _ _ _=>false
 |.agg cs=>odFL cs
 |.tup cs=>odFL cs
 |.fn _ cs=>odFL cs
 |_=>true
def odFL:List AV->Bool
 |[]=>true
 |a::l=>match a.odF with|true=>odFL l|false=>false
end
mutual
theorem V2u:∀{a:AV},a.odF=true->a.kod=a
 |.agg cs,h=>by rw[AV.kod,Q0i (by simpa only[AV.odF]using h)]
 |.tup cs,h=>by rw[AV.kod,Q0i (by simpa only[AV.odF]using h)]
 |.fn f cs,h=>by rw[AV.kod,Q0i (by simpa only[AV.odF]using h)]
 |.od _ _ _,h | .op _ _ _,h=>by simp[AV.odF]at h
 |.bool _,_ | .int _ _,_ | .str _,_ | .nl,_ | .el,_ | .sl _ _ _,_ | .ept _ _,_ | .eot _ _,_ | .und,_ | .bad,_ | .sref _,_ | .ptr _ _,_ | .rpt _ _ _,_=>by simp[AV.kod]
theorem Q0i:∀{l:List AV},odFL l=true->kodL l=l
 |[],_=>rfl
 |a::l,h=>by
  simp only[odFL]at h
  split at h
  .rename_i e;rw[kodL,V2u e,Q0i h]
  .cases h
end
def gtsF(A:List (Nat×Bool))(σ:LS)(ys:List X):Option (List AV):=match gts A σ ys with
 |some vs=>match odFL vs with
  |true=>some vs
  |false=>none
 |none=>none
theorem Z1U{A:List (Nat×Bool)}{b:LS}{c:List X}{a:List AV}(h:gtsF A b c=some a):gts A b c=some a/\odFL a=true:=by
 unfold gtsF at h;split at h
 .rename_i e;split at h
  .rename_i d;cases h;exact⟨e,d⟩
  cases h
 cases h
def LS.kill2(σ:LS):List Nat->LS
 |[]=>σ|k::ks=>LS.kill2 (σ.kill k) ks
def blk(bks:List Nat):List (Nat×List AV)->List (Nat×List AV)
 |[]=>[]| (k,cs)::l=>(k,match inL k bks with|true=>List.replicate cs.length .bad|false=>cs)::blk bks l
def upr(rks:List Nat)(upd:List (Option (List AV))):List (Nat×Row)->List (Nat×Row)
 |[]=>[]| (k,r)::l=>(k,match upf rks upd k with|some es=>⟨r.sz,es,r.sh⟩|none=>r)::upr rks upd l
def LS.setB(σ:LS):List Nat->List (List AV)->LS
 |k::ks,b::bs=>(LS.setB σ ks bs).box k b|_,_=>σ
def LS.afterM(σ:LS)(d:Nat)(bks rks:List Nat)(res:AV)(bout:List (List AV))(upd:List (Option (List AV)))(new:List Row):LS :=
 LS.set (LS.setB (addRows { σ.kill2 (drops rks upd)with tb:=blk bks (σ.kill2 (drops rks upd)).tb,tr:=upr rks upd (σ.kill2 (drops rks upd)).tr } (1000*d+1000) new) bks (bout.map (mpL (fbB bks) (frB rks upd (1000*d+1000) new.length)))) d
  (res.mp (fbB bks) (frB rks upd (1000*d+1000) new.length))
def gbx(σ:LS):List Nat->Option (List (List AV))
 |[]=>some []|k::ks=>match lk σ.tb k with
  |some cs=>match gbx σ ks with
   |some l=>some (cs::l)
   |none=>none
  |none=>none
def grw(σ:LS):List Nat->Option (List (Nat×List AV))
 |[]=>some []|k::ks=>match lk σ.tr k with
  |some r=>match r.sh with
   |false=>match grw σ ks with
    |some l=>some ((r.sz,r.es)::l)
    |none=>none
   |true=>none
  |none=>none
def ncl:List Nat->List (Option (List AV))->Nat->Nat->Bool
 |k::ks,some _::us,b,n=>(Nat.blt k b||Nat.ble (b+n) k)&&ncl ks us b n|_::ks,none::us,b,n=>ncl ks us b n|_,_,_,_=>true
def nclB(b n:Nat):List Nat->Bool
 |[]=>true|k::ks=>(Nat.blt k b||Nat.ble (b+n) k)&&nclB b n ks
def cwx(A:List (Nat×Bool))(σ:LS)(d f':Nat)(xs:List X)(bks rks:List Nat)(res:AV)(bout:List (List AV))(upd:List (Option (List AV)))(new:List (Nat×List AV)):Option (LS×Act) :=
 match U0a (bks++rks)&&ncl rks upd (1000*d+1000) new.length&&nclB (1000*d+1000) new.length bks&&Nat.ble new.length 1000 with
 |true=>match gbx σ bks with
  |some bs=>match grw σ rks with
   |some rs=>match gtsF A σ xs with
    |some vs=>some (σ.afterM d bks rks res bout upd (ownR new),.w f' (mpL (ix bks) (ix rks) vs) (bs.map (mpL (ix bks) (ix rks))) rs)
    |none=>none
   |none=>none
  |none=>none
 |false=>none
section
variable{P:Program}{σ:LS}{s:St}{A:List (Nat×Bool)}
theorem LS.has.addRows:∀{rows:List Row}{a:LS}{s:St}{k:Nat},a.has s->(addRows a k rows).has (s.addrows k rows)
 |[],_,_,_,H=>H|r::rs,a,s,k,H=>LS.has.addRows (rows:=rs) ((H.kill k).row k r (by simp))
theorem LS.has.congr{s':St}(H:σ.has s)(c:s'.e=s.e)(a:s'.bx=s.bx)(d:s'.rw=s.rw):σ.has s' :=⟨λt v h=>by rw[c];exact H.e t v h,λt g w v h=>by rw[c];exact H.g t g w v h,λk cs h=>by rw[a];exact H.b k cs h,λk r h=>by rw[a,d];exact H.r k r h,λk h=>by rw[a];exact H.n k h⟩
theorem LS.has.kill2:∀{ks:List Nat}{a:LS}{s:St},a.has s->(a.kill2 ks).has (s.kill2 ks)
 |[],_,_,H=>H|k::ks,_,_,H=>LS.has.kill2 (ks:=ks) (H.kill k)
theorem M1T{k:Nat}:∀{ks:List Nat},inL k ks=true↔k∈ks
 |[]=>by simp[inL]|j::ks=>by
  simp[inL,List.mem_cons];split
  .rename_i e;simp[yR e]
  .rename_i e;rw[M1T (ks:=ks)];constructor
   .exact .inr
   .rintro(rfl|h)
    .simp at e
    .exact h
theorem X2p(a:List Nat):∀{l:List (Nat×List AV)}{k:Nat}{cs:List AV},lk (blk a l) k=some cs->∃c0,lk l k=some c0/\cs=if k∈a then List.replicate c0.length .bad else c0
 |[],_,_,h=>by cases h| (j,c)::l,k,cs,h=>by
  simp[blk,lk]at h ⊢;split at h
  .rename_i e;have e:=yR e;subst e;cases h;refine⟨c,rfl,?_⟩;cases hb:inL k a with|true=>simp[M1T.1 hb]|false=>rw[ye λq=>by rw[M1T.2 q]at hb;cases hb]
  .exact X2p a h
theorem M20(a:List Nat):∀{l:List (Nat×List AV)}{k:Nat},lk (blk a l) k=none->lk l k=none
 |[],_,_=>rfl| (j,c)::l,k,h=>by
  simp[blk,lk]at h ⊢;split at h
  .cases h
  .exact M20 a h
theorem W2l(a:List Nat)(upd:List (Option (List AV))):∀{l:List (Nat×Row)}{k:Nat}{r:Row},lk (upr a upd l) k=some r->∃b,lk l k=some b/\r=(match upf a upd k with|some es=>{ b with es:=es }|none=>b)
 |[],_,_,h=>by cases h| (j,c)::l,k,r,h=>by
  simp[upr,lk]at h ⊢;split at h
  .rename_i e;have e:=yR e;subst e;cases h;exact⟨c,rfl,rfl⟩
  .exact W2l a upd h
theorem LS.has.setRows(H:σ.has s)(a c:List Nat)(upd:List (Option (List AV))):({ σ with tb:=blk a σ.tb,tr:=upr c upd σ.tr }:LS).has { s with bx:=λj=>if j∈a then(s.bx j).map (λcs=>List.replicate cs.length .bad)else s.bx j,rw:=λj=>match upf c upd j with|some es=>(s.rw j).map (λr=>{ r with es:=es })|none=>s.rw j }:=by
 refine⟨H.e,H.g,λk cs h=>?_,λk r h=>?_,λk h=>?_⟩
 .obtain⟨c0,d,rfl⟩:=X2p a h;simp[H.b k c0 d,Option.map_some];split<;>rfl
 .obtain⟨f,d,rfl⟩:=W2l c upd h;obtain⟨l,i⟩:=H.r k f d;simp[l,i,Option.map_none,Option.map_some,ite_self,and_true];split<;>rfl
 have:=H.n k (M20 a h);simp[this]
theorem LS.has.setB:∀{ks:List Nat}{bs:List (List AV)}{a:LS}{s:St},a.has s->(a.setB ks bs).has (Xf s ks bs)
 |[],bs,a,s,H=>H.congr rfl (by funext j;simp[Xf,bxf]) rfl|k::ks,[],a,s,H=>H.congr rfl (by funext j;simp[Xf,bxf]) rfl|k::ks,b::bs,a,s,H=>by
  refine((LS.has.setB (ks:=ks) (bs:=bs) H).box k b).congr rfl ?_ rfl;funext j;simp[Xf,bxf];by_cases e:j=k
  .simp[e]
  .simp[e]
theorem L1x(H:σ.has s)(n1 d:Nat)(c a:List Nat)(e:AV)(b:List (List AV))(upd:List (Option (List AV)))(new:List Row):(σ.afterM d c a e b upd new).has (afterM s n1 d c a e b upd new):=by unfold LS.afterM Eng.afterM;refine LS.has.set (LS.has.setB (LS.has.addRows ?_)) d _;exact((H.kill2 (ks:=drops a upd)).setRows c a upd).congr rfl rfl rfl
theorem Y2d(H:σ.has s)(fb fr:Nat->Option Nat):∀{ks:List Nat}{bs:List (List AV)},gbx σ ks=some bs->UU s fb fr ks (bs.map (mpL fb fr))
 |[],bs,h=>by cases h;trivial|k::ks,bs,h=>by
  simp[gbx]at h;split at h
  .rename_i cs e;split at h
   .rename_i l a;cases h;exact⟨⟨cs,H.b k cs e,rfl⟩,Y2d H fb fr a⟩
   .cases h
  .cases h
theorem J2c(H:σ.has s):∀{ks:List Nat}{a:List (Nat×List AV)},grw σ ks=some a->W0Q s ks (ownR a)
 |[],a,h=>by cases h;trivial|k::ks,a,h=>by
  simp[grw]at h;split at h
  .rename_i r e;split at h
   .rename_i b;split at h
    .rename_i l c;cases h;refine⟨?_,rfl,J2c H c⟩;rw[(H.r k r e).1];simp[← b]
    .cases h
   .cases h
  .cases h
theorem Z2a:∀{ks:List Nat}{us:List (Option (List AV))}{b n:Nat},ncl ks us b n=true->J06 ks us b n
 |[],_,_,_,_=>by simp[J06]|_::_,[],_,_,_=>by simp[J06]|k::ks,some _::us,b,n,h=>by simp only[ncl,yD,Bool.or_eq_true]at h;refine⟨h.1.elim (λq=>.inl ?_) λq=>.inr (Nat.le_of_ble_eq_true q),Z2a h.2⟩;simpa[Nat.blt_eq]using q|_::ks,none::us,b,n,h=>Z2a (ks:=ks) (us:=us) h
theorem Y2a{b n:Nat}:∀{ks:List Nat},nclB b n ks=true->U0N b n ks
 |[],_=>λk c=>by cases c|k::ks,h=>by
  simp only[nclB,yD,Bool.or_eq_true]at h;intro j a;rcases yX a with rfl|a
  .refine h.1.elim (λq=>.inl ?_) λq=>.inr (Nat.le_of_ble_eq_true q);simpa[Nat.blt_eq]using q
  .exact Y2a h.2 j a
theorem X0N(l:List (Nat×List AV)):(ownR l).length=l.length:=by simp[ownR]
theorem U2E(H:σ.has s)(T:sat s A){d J f:Nat}{xs:List X}{i g:List Nat}{j:List (List AV)}{rin:List (Nat×List AV)}{k z:List AV}{m:AV}{c:List (List AV)}{upd:List (Option (List AV))}{new:List (Nat×List AV)}{l:LS}{a:Act}(e:cwx A σ d J xs i g m c upd new=some (l,a))(G:a=.w f k j rin)(n:GEs k z)(R:∀b∈j,noOL b)(O:∀r∈rin,noOL r.2)(E:noOL k)(h:ConD P f z j rin m c upd new){K:St->Prop}(S:∀s',l.has s'->K s'):wop P (.cm d J xs) K s:=by
 unfold cwx at e;split at e
 .rename_i I;simp only[yD]at I;obtain⟨⟨⟨c1,Z⟩,Y⟩,W⟩:=I;split at e
  .rename_i bs V;split at e
   .rename_i M U;split at e
    .rename_i vs v;cases e;simp[Act.w.injEq]at G;obtain⟨rfl,L,rfl,rfl⟩:=G;obtain⟨v,u⟩:=Z1U v;have F:=X0E H T v;simp only[wop];refine⟨i,g,_,ownR M,z,Lx c1,Y2d H _ _ V,J2c H U,⟨R,λr t=>?_,λx N=>?_⟩,?_,_,h s.nx,λn1 C y B D _ _ _ o=>?_⟩
     .obtain⟨p,Q,rfl⟩:=yY t;exact O p Q
     .rw[← L]at E;have q:=J0u E;rw[Q0i u,← F]at q;exact Zd.1 q _ (List.mem_map_of_mem N)
     .rw[← L,VN,← F,List.map_map]at n;exact n
     obtain⟨rfl,rfl,rfl,rfl⟩:=o;rw[X0N];exact⟨Nat.le_of_ble_eq_true W,Z2a Z,Y2a Y,S _ (L1x H n1 d i g _ _ _ _)⟩
    cases e
   cases e
  cases e
 cases e
end
end
section
def X0C:List Nat->Prop
 |[]=>True|n::ns=>n<=9223372036854775807/\X0C ns
def hkey:LOp->Nat
 |.st _ _ _=>1000000|l=>l.dst
def LS.fzr(σ:LS)(k:Nat)(r:Row):LS:={ σ with tr:=(k,{ r with sh:=true })::er k σ.tr }
def M2E(σ:LS)(x:AV)(d sz:Nat)(es':List AV)(sy:Nat)(news:List AV)(bs:Nat):Option (LS×List Act×List Nat):=match x with
 |.sref k=>match lk σ.tr k with
  |some r=>match Nat.beq r.sz sz&&Nat.ble k 999999999&&Nat.beq sy sz with
   |true=>some (((σ.kill k).row k ⟨r.sz,es',r.sh⟩).set d (.sref k),[.l r.es,.l news,.n bs],[])
   |false=>none
  |none=>none
 |.nl=>match Nat.beq sy sz with
  |true=>some (((σ.kill d).row d ⟨sz,es',false⟩).set d (.sref d),[.l [],.l news,.n bs],[])
  |false=>none
 |_=>none
def L2E(σ:LS)(x:AV)(d sz:Nat):Option (LS×List Act×List Nat):=match x with
 |.sref k=>match lk σ.tr k with
  |some _=>some (σ.set d (.sref k),[],[])
  |none=>none
 |.nl=>some (((σ.kill d).row d ⟨sz,[],false⟩).set d (.sref d),[],[])
 |_=>none
def efx{P:Program}{q:Prop}(A:List (Nat×Bool))(σ:LS)(h:Option (Hint P q))(l:LOp):Option (LS×List Act×List Nat):=match l with
  |.ln d x=>match gt A σ x with
    |some (.sl _ _ es)=>match h with
      |some (.ln _ n _)=>some (σ.set d (.int .i64 n),[.l es],[n])
      |_=>none
    |some (.sref k)=>match lk σ.tr k with
      |some r=>match h with
        |some (.ln _ n _)=>some (σ.set d (.int .i64 n),[.l r.es],[n])
        |some (.le _ n _ _)=>some (σ.set d (.int .i64 n),[.l r.es],[])
        |_=>none
      |none=>none
    |some .nl=>match h with
      |none=>some (σ.set d (.int .i64 0),[],[])
      |_=>none
    |_=>none
  |.st p x n=>match gt A σ p with
    |some (.ptr k off)=>match lk σ.tb k with
      |some cs=>match gt A σ x with
        |some v=>match h with
          |none=>if v.cells.length=n/\off+n<=cs.length/\allOne v.cells=true then some (σ.box k (putC cs off v.cells),[],[])else none
          |_=>none
        |none=>none
      |none=>none
    |some (.rpt k i off)=>match lk σ.tr k with
      |some r=>match gt A σ x with
        |some v=>match h with
          |some (.sto _ _ e _ es' _ _)=>if r.sh=false/\v.cells.length=n/\off+n<=e.cells.length/\nosr v=true
            then some (σ.row k ⟨r.sz,es',r.sh⟩,[.l r.es,.n i,.a (if n=e.cells.length then v else .agg (putC e.cells off v.cells))],[])else none
          |_=>none
        |none=>none
      |none=>none
    |_=>none
  |.cn d f' xs=>match gts A σ xs with
    |some vs=>match vs.all nosr with
      |true=>match σ.dtL vs with
        |some ds=>match h with
          |some (.bn _ _ _ _ cs _ _ _)=>some (((σ.kill d).box d (U7 d cs)).set d (.ptr d 0),[.n f',.l vs,.l ds],[])
          |_=>none
        |none=>none
      |false=>none
    |none=>none
  |.al d z=>match h with
    |none=>some (((σ.kill d).box d (U7 d z)).set d (.ptr d 0),[],[])
    |_=>none
  |.bx d x=>match gt A σ x with
    |some v=>match h with
      |none=>match allOne v.cells with
        |true=>some (((σ.kill d).box d (U7 d v.cells)).set d (.ptr d 0),[],[])
        |false=>none
      |_=>none
    |none=>none
  |.bs d sz ps own=>match gts A σ ps with
    |some es=>match h with
      |none=>if es.all nosr=true/\(es.all λe=>Nat.beq e.cells.length sz)=true/\es.length*sz<=1000000/\es.length<=1000000
        then match own with
          |true=>some (((σ.kill d).row d ⟨sz,es,false⟩).set d (.sref d),[],[])
          |false=>some (σ.set d (.sl .nw sz es),[],[])
        else none
      |_=>none
    |none=>none
  |.ms d sz by' z l=>match gt A σ l with
    |some (.int _ n)=>match h with
      |some (.ms _ _ _ es _)=>some (((σ.kill d).row d ⟨sz,es,false⟩).set d (.sref d),[.n by',.i n,.a (if sz=1 then z.getD 0 .bad else .agg z)],[])
      |_=>none
    |_=>none
  |.ap d x y sz by'=>match gt A σ y with
    |some vy=>match gt A σ x with
      |some vx=>match h with
        |some (.ap _ _ _ es' _)=>match σ.dc vy with
          |some (.sl _ sy news)=>M2E σ vx d sz es' sy news by'
          |_=>none
        |none=>match vy with
          |.nl=>L2E σ vx d sz
          |_=>none
        |_=>none
      |none=>none
    |none=>none
  |.sc d x lo hi n=>match gt A σ x with
    |some (.sref k)=>match lk σ.tr k with
      |some r=>match gto A σ lo with
        |some lo=>match gto A σ hi with
          |some hi=>match h with
            |some (.sc _ _ _ es' _)=>match Nat.beq r.sz n with
              |true=>some ((σ.fzr k r).set d (.sl .nw r.sz es'),[.l r.es,.o lo,.o hi],[])
              |false=>none
            |_=>none
          |none=>none
        |none=>none
      |none=>none
    |_=>match pvh A σ h (.sc d x lo hi n)with
      |some (v,as)=>some (σ.set d v,as,[])
      |none=>none
  |.cl d f' xs=>match gts A σ xs with
    |some vs=>match σ.dtL vs with
      |some ds=>match h with
        |some (.call _ as _ res rows _ _)=>match Nat.ble rows.length 1000 with
          |true=>some ((addRows σ (1000*d+1000) rows).set d (res.ren (1000*d+1000) rows.length),[.n f',.l (mrgL ds as)],[])
          |false=>none
        |_=>none
      |none=>none
    |none=>none
  |.cm d f' xs=>match h with
   |some (.cw _ bks rks _ _ _ _ res bout upd new _ _ _ _ _)=>match cwx A σ d f' xs bks rks res bout upd new with
     |some (σ1,a)=>some (σ1,[a],[])
     |none=>none
   |_=>match xs with
    |x::ys=>match gt A σ x with
      |some (.sref k)=>match lk σ.tr k with
        |some r=>match r.sh with
          |false=>match gtsF A σ ys with
            |some vs=>match h with
              |some (.cr _ _ _ _ _ ret es' _ _ _ _)=>some ((match ret with
                  |true=>(((σ.kill k).kill (1000*d+1000)).row (1000*d+1000) ⟨r.sz,es',false⟩).set d (.sref (1000*d+1000))
                  |false=>(σ.row k ⟨r.sz,es',false⟩).set d (.tup [])),[.n f',.n r.sz,.l r.es,.l (mpL (ix []) (ix [k]) vs)],[])
              |_=>none
            |none=>none
          |true=>none
        |none=>none
      |_=>none
    |[]=>none
  |.fb t=>match rdv A σ t with
    |some (.ptr k 0)=>match lk σ.tb k with
      |some cs=>match h with
        |none=>match nosr (.agg cs)with
          |true=>some ((σ.kill k).set t (.ept (.agg cs) 0),[],[])
          |false=>none
        |_=>none
      |none=>none
    |some (.ept _ _)=>match h with
      |none=>some (σ,[],[])
      |_=>none
    |_=>none
  |.fz t=>match rdv A σ t with
    |some (.sref k)=>match lk σ.tr k with
      |some r=>match h with
        |none=>some ((σ.fzr k r).set t (.sl .nw r.sz r.es),[],[])
        |_=>none
      |none=>none
    |some (.sl _ _ _)=>match h with
      |none=>some (σ,[],[])
      |_=>none
    |_=>none
  |l=>match pvh A σ h l with
    |some (v,as)=>some (σ.set l.dst v,as,[])
    |none=>none
section
variable{P:Program}{σ:LS}{s:St}{A:List (Nat×Bool)}
theorem LS.has.fzr(H:σ.has s){k:Nat}{r:Row}(a:lk σ.tr k=some r):(σ.fzr k r).has { s with rw:=λj=>if j=k then some { r with sh:=true } else s.rw j }:=by
 refine⟨H.e,H.g,H.b,λj r' h=>?_,H.n⟩;rcases Z0v h with⟨rfl,rfl⟩|h
 .exact⟨by simp,(H.r _ _ a).2⟩
 obtain⟨h1,h2⟩:=L1d h;simp[h1,H.r j r' h2]
theorem LS.has.self(H:σ.has s){d:Nat}{v:AV}(h:s.e d=v):(σ.set d v).has s:=by have q:=H.set d v;rwa [show s.set d v=s by rw[← h,Q1W]]at q
theorem J24(n1 d k:Nat)(r:Row):(afterM s n1 d [] [k] (.sref 1) [] [none] [r]).e=(St.set { (s.kill k).kill (1000*d+1000)with rw:=λj=>if j=1000*d+1000 then some r else((s.kill k).kill (1000*d+1000)).rw j } d (.sref (1000*d+1000))).e /\ (afterM s n1 d [] [k] (.sref 1) [] [none] [r]).bx=((s.kill k).kill (1000*d+1000)).bx/\(afterM s n1 d [] [k] (.sref 1) [] [none] [r]).rw=(λj=>if j=1000*d+1000 then some r else((s.kill k).kill (1000*d+1000)).rw j):=by
 refine⟨?_,?_,?_⟩
 .funext t;simp[St.set,upd,St.kill]
 .funext t;simp[St.set,St.kill]
 funext t;simp[St.set,St.kill]
theorem U2o{q:Prop}(D:q)(H:σ.has s)(u:sat s A){l:LOp}{h:Option (Hint P q)}{T:LS}{as:List Act}{ns:List Nat}(e:efx A σ h l=some (T,as,ns))(g:as=hexp h){K:St->Prop}(B:X0C ns->∀s',T.has s'->K s'):wop P l K s:=by
 have gen:∀{l:LOp},(match pvh A σ h l with|some (v,as)=>some (σ.set l.dst v,as,[])|none=>none)=some (T,as,ns)->wop P l K s:=by
  intro l e;split at e
  .rename_i v G e2;cases e;exact Z1M D H u e2 g (B trivial _ (H.set _ _))
  cases e
 cases l with
 |ln d x =>
  simp only[efx]at e;split at e
  .rename_i t sz es m;split at e
   .rename_i M n E;have E:=E D;cases e;simp only[hexp,Hint.exp,yW,Act.l.injEq,and_true]at g;subst g;simp only[wop];rw[L7 H u m];exact λq=>B ⟨by omega,trivial⟩ _ (by rw[E];exact H.set _ _)
   cases e
  .rename_i k m;split at e
   .rename_i r C;split at e
    .rename_i M n E;have E:=E D;cases e;simp only[hexp,Hint.exp,yW,Act.l.injEq,and_true]at g;subst g;simp only[wop];rw[L7 H u m];simp only[(H.r _ _ C).1];exact λq=>B ⟨by omega,trivial⟩ _ (by rw[E];exact H.set _ _)
    .rename_i M n E hn2;have E:=E D;cases e;simp only[hexp,Hint.exp,yW,Act.l.injEq,and_true]at g;subst g;simp only[wop];rw[L7 H u m];simp only[(H.r _ _ C).1];exact λq=>B trivial _ (by rw[E];exact H.set _ _)
    cases e
   cases e
  .rename_i m;split at e
   .cases e;simp only[wop];rw[L7 H u m];exact B trivial _ (H.set _ _)
   cases e
  cases e
 |st p x n =>
  simp only[efx]at e;split at e
  .rename_i k off ep;split at e
   .rename_i cs eb;split at e
    .rename_i v m;split at e
     .split at e
      .rename_i w;cases e;simp only[wop];rw[L7 H u ep];simp only[H.b _ _ eb];rw[L7 H u m];exact⟨w.1,w.2.1,w.2.2,B trivial _ (H.box _ _)⟩
      cases e
     cases e
    cases e
   cases e
  .rename_i k i off ep;split at e
   .rename_i r C;split at e
    .rename_i v m;split at e
     .rename_i M j e0 ne N h1 h2;have h1:=h1 D;have h2:=h2 D;split at e
      .rename_i w;cases e;simp only[hexp,Hint.exp,yW,Act.l.injEq,Act.n.injEq,Act.a.injEq,and_true]at g;obtain⟨rfl,rfl,g⟩:=g;simp only[wop];rw[L7 H u ep];simp only[(H.r _ _ C).1];rw[L7 H u m,h1,Q1C w.2.2.2];refine⟨w.1,w.2.1,w.2.2.1,w.2.2.2,?_⟩;rw[g,h2];exact B trivial _ (H.row _ _ (H.r _ _ C).2)
      cases e
     cases e
    cases e
   cases e
  cases e
 |cn d f' xs =>
  simp only[efx]at e;split at e
  .rename_i vs S;split at e
   .rename_i E;split at e
    .rename_i ds ed;split at e
     .rename_i X F as1 G cs U L f;have U:=U D;have f:=f D;have L:=L D;cases e;simp only[hexp,Hint.exp,yW,Act.n.injEq,Act.l.injEq,and_true]at g;obtain⟨rfl,rfl,rfl⟩:=g;have W:=X0E H u S;refine⟨_,(V1J H u S ed).trans (by rw[L]),by rw[W];exact E,λx hx=>Zd.1 U _ (by rw[← W];exact List.mem_map_of_mem hx),_,f,λc ec=>?_⟩;subst ec;exact B trivial _ (((H.kill d).box d _).set d _)
     cases e
    cases e
   cases e
  cases e
 |al d z =>
  simp only[efx]at e;split at e
  .cases e;exact B trivial _ (((H.kill d).box d _).set d _)
  cases e
 |bx d x =>
  simp only[efx]at e;split at e
  .rename_i v m;split at e
   .split at e
    .rename_i w;cases e;simp only[wop];rw[L7 H u m];exact⟨w,B trivial _ (((H.kill d).box d _).set d _)⟩
    cases e
   cases e
  cases e
 |bs d sz ps own =>
  simp only[efx]at e;split at e
  .rename_i es m;split at e
   .split at e
    .rename_i w;have q:=X0E H u m;simp only[wop];rw[q,U1C w.1];refine⟨w.1,λe g=>yR (List.all_eq_true.1 w.2.1 e g),w.2.2.1,w.2.2.2,?_⟩;split at e
     .cases e;rw[yd rfl];exact B trivial _ (((H.kill d).row d _ (by simp)).set d _)
     cases e;rw[ye (by simp)];exact B trivial _ (H.set d _)
    cases e
   cases e
  cases e
 |ms d sz by' z x =>
  simp only[efx]at e;split at e
  .rename_i k n m;split at e
   .rename_i b0 n0 z0 es f;have f:=f D;cases e;simp only[hexp,Hint.exp,yW,Act.n.injEq,Act.i.injEq,Act.a.injEq,and_true]at g;obtain⟨rfl,rfl,g⟩:=g;unfold mkL at f;split at f
    .rename_i w;cases f;simp only[wop];rw[L7 H u m];refine⟨w.1,w.2.1,w.2.2,?_⟩;rw[g];exact B trivial _ (((H.kill d).row d _ (by simp)).set d _)
    cases f
   cases e
  cases e
 |ap d x y sz by' =>
  simp only[efx]at e;split at e
  .rename_i vy ey;split at e
   .rename_i vx m;split at e
    .rename_i M news0 bs0 N f;have f:=f D;split at e
     .rename_i t sy news ed;have hd:=M2k H ed;simp only[wop];rw[L7 H u ey,hd];simp only;rw[L7 H u m];unfold M2E at e;split at e
      .rename_i k;split at e
       .rename_i r C;split at e
        .rename_i w;simp only[yD]at w;obtain⟨⟨c1,c2⟩,c3⟩:=w;have c1:=yR c1;have c2:=Nat.le_of_ble_eq_true c2;have c3:=yR c3;cases e;simp only[hexp,Hint.exp,yW,Act.l.injEq,Act.n.injEq,and_true]at g;obtain⟨rfl,rfl,rfl⟩:=g;unfold appL at f;split at f
         .rename_i V;cases f;simp only[(H.r _ _ C).1];exact⟨c1,by omega,.inr c3,V,B trivial _ (((H.kill k).row k _ (by simp)).set d _)⟩
         cases f
        cases e
       cases e
      .split at e
       .rename_i w;have c3:=yR w;cases e;simp only[hexp,Hint.exp,yW,Act.l.injEq,Act.n.injEq,and_true]at g;obtain⟨rfl,rfl,rfl⟩:=g;unfold appL at f;split at f
        .rename_i V;cases f;exact⟨.inr c3,by simpa using V,B trivial _ (((H.kill d).row d _ (by simp)).set d _)⟩
        cases f
       cases e
      cases e
     cases e
    .split at e
     .simp only[wop];rw[L7 H u ey];simp only[St.dt];rw[L7 H u m];unfold L2E at e;split at e
      .split at e
       .rename_i r C;cases e;simp only[(H.r _ _ C).1];exact B trivial _ (H.set d _)
       cases e
      .cases e;exact B trivial _ (((H.kill d).row d _ (by simp)).set d _)
      cases e
     cases e
    cases e
   cases e
  cases e
 |sc d x lo hi n =>
  simp only[efx]at e;split at e
  .rename_i k m;split at e
   .rename_i r C;split at e
    .rename_i lo' elo;split at e
     .rename_i hi' ehi;split at e
      .rename_i M lo0 hi0 N f;have f:=f D;split at e
       .rename_i hs;have hs:=yR hs;cases e;simp only[hexp,Hint.exp,yW,Act.l.injEq,Act.o.injEq,and_true]at g;obtain⟨rfl,rfl,rfl⟩:=g;obtain⟨b,a,q1,q2,q3⟩:=Q1a f;simp only[wop];rw[L7 H u m];simp only[(H.r _ _ C).1,(Z1y H u ehi).1,(Z1y H u elo).2,q1,q2,q3];exact⟨hs,B trivial _ ((H.fzr C).set d _)⟩
       cases e
      cases e
     cases e
    cases e
   cases e
  exact gen (l:=.sc d x lo hi n) (by simpa only[LOp.dst]using e)
 |cl d f' xs =>
  simp only[efx]at e;split at e
  .rename_i vs S;split at e
   .rename_i ds ed;split at e
    .rename_i X F G J rows O f;have f:=f D;split at e
     .rename_i L;cases e;simp only[hexp,Hint.exp,yW,Act.n.injEq,Act.l.injEq,and_true]at g;obtain⟨rfl,g⟩:=g;exact⟨_,V1J H u S ed,J,rows,f.aes O g,Nat.le_of_ble_eq_true L,B trivial _ (H.addRows.set d _)⟩
     cases e
    cases e
   cases e
  cases e
 |cm d f' xs =>
  have alt:∀{bks Y:List Nat} {R:List (List AV)} {rin:List (Nat×List AV)} {F G:List AV} {J:AV} {I:List (List AV)} {upd:List (Option (List AV))} {new:List (Nat×List AV)} {X:Nat} {O:GEs F G} {hb:∀b∈R,noOL b} {L:∀r∈rin,noOL r.2} {U:noOL F} {f:q->ConD P X G R rin J I upd new}, h=some (.cw X bks Y R rin F G J I upd new O hb L U f)->wop P (.cm d f' xs) K s:=by
   intro bks Y R rin F G J I upd new X O hb L U f eh;subst eh;simp only[efx]at e;split at e
   .rename_i σ2 a ec;cases e;simp only[hexp,Hint.exp,yW,and_true]at g;exact U2E H u ec g O hb L U (f D) λs' hs'=>B trivial s' hs'
   cases e
  cases xs with
  |nil =>
   simp only[efx]at e;split at e
   .exact alt rfl
   cases e
  |cons x ys =>
   simp only[efx]at e;split at e
   .exact alt rfl
   split at e
   .rename_i k m;split at e
    .rename_i r C;split at e
     .rename_i hsh;split at e
      .rename_i vs S;split at e
       .rename_i X sz0 M vs0 F ret N E hv L f _;have E:=E D;have hv:=hv D;have L:=L D;have f:=f D;cases e;simp only[hexp,Hint.exp,yW,Act.n.injEq,Act.l.injEq,and_true]at g;obtain⟨rfl,rfl,rfl,Z⟩:=g;obtain⟨S,hod⟩:=Z1U S;have W:=X0E H u S;have hx:=L7 H u m;refine do_cm [] [k] f rfl trivial ⟨by rw[(H.r _ _ C).1];simp only[← hsh],rfl,trivial⟩ ?_ ?_ (by simp) ?_ ?_
        .have e1:(ys.map λx=>((s.get x).mp (ix []) (ix [k])).rdt)=F:=by rw[← L,← Z,U5,VN,← W,List.map_map,List.map_map];rfl
         rw[List.map_cons,e1,hx];have e2:((AV.sref k).mp (ix []) (ix [k])).rdt=.sref 0:=by simp[AV.mp,ix,AV.rdt]
         rw[e2];exact⟨(L1V _).2 trivial,M1a (λa=>(L1V a).2 trivial) _⟩
        .intro n1 J I upd new hb hu Q;obtain⟨rfl,Q⟩:=Q;cases ret with
         |true =>obtain⟨rfl,rfl,rfl⟩:=Q;refine⟨by simp,by simp,by simp,B trivial _ ?_⟩;obtain⟨a1,a2,a3⟩:=J24 (s:=s) n1 d k ⟨r.sz,N,false⟩;exact((((H.kill k).kill (1000*d+1000)).row (1000*d+1000) ⟨r.sz,N,false⟩ (by simp)).set d _).congr a1 a2 a3|false =>
          obtain⟨rfl,rfl,rfl⟩:=Q;refine⟨by simp,by simp;omega,by simp,B trivial _ ?_⟩;refine((H.row k ⟨r.sz,N,false⟩ (H.r _ _ C).2).set d (.tup [])).congr ?_ ?_ ?_
          .funext t;simp[St.set,upd]
          .funext t;simp[St.set]
          funext t;simp only[afterM,setRows,Xf,St.addrows,drops,St.kill2,upf,St.set];by_cases ht:t=k
          .subst ht;simp[(H.r _ _ C).1,hsh]
          simp[ht]
        .intro r' hr';rw[List.mem_singleton.1 hr'];exact E
        intro y hy;rcases yX hy with rfl|hy
        .rw[hx];trivial
        have:noOL (mpL (ix []) (ix [k]) vs):=by rw[Z];exact hv
        rw[← W]at this;have q:=J0u this;rw[W,Q0i hod,← W]at q;exact Zd.1 q _ (List.mem_map_of_mem hy)
       cases e
      cases e
     cases e
    cases e
   cases e
 |fb t =>
  simp only[efx]at e;split at e
  .rename_i k m;split at e
   .rename_i cs eb;split at e
    .split at e
     .rename_i w;cases e;simp only[wop];rw[Y0N H u m];simp only[H.b _ _ eb];exact⟨w,B trivial _ ((H.kill k).set t _)⟩
     cases e
    cases e
   cases e
  .rename_i m;split at e
   .cases e;simp only[wop];rw[Y0N H u m];exact B trivial _ H
   cases e
  cases e
 |fz t =>
  simp only[efx]at e;split at e
  .rename_i k m;split at e
   .rename_i r C;split at e
    .cases e;simp only[wop];rw[Y0N H u m];simp only[(H.r _ _ C).1];exact B trivial _ ((H.fzr C).set t _)
    cases e
   cases e
  .rename_i m;split at e
   .cases e;simp only[wop];rw[Y0N H u m];exact B trivial _ H
   cases e
  cases e
 |_=>exact gen e
end
def fin{P:Program}{q:Prop}(σ:LS)(l:LOp)(h:Option (Hint P q))(r:Option (Rw q)):Option (LS×List Act×List Act×List Nat):=match efx [] σ h l with
 |some (σ1,as,ns)=>match r with
  |none=>some (σ1,as,[],ns)
  |some q=>match lk σ1.te l.dst with
   |some v=>some (σ1.set l.dst q.b,as,[.a v],ns)
   |none=>none
 |none=>none
def gvs(A:List (Nat×Bool))(σ:LS):List (Nat×Bool)->Option (List (Bool×Bool))
 |[]=>some []| (t,w)::r=>match rdv A σ t with
   |some (.bool b)=>match gvs A σ r with
     |some l=>some ((b,w)::l)
     |none=>none
   |_=>none
def pvg{P:Program}{q:Prop}(t:Nat)(w:Bool)(A:List (Nat×Bool))(σ:LS)(l:LOp)(h:Option (Hint P q))(r:Option (Rw q)):Option (LS×List (Bool×Bool)×List Act×List Act×List Nat):=match Nat.beq t l.dst with
 |true=>none
 |false=>match gvs A σ A with
  |some gs=>match pvh A σ h l with
   |some (v,as)=>match r with
    |none=>some (σ.setc l.dst t w v,gs,as,[],[])
    |some q=>some (σ.setc l.dst t w q.b,gs,as,[.a v],[])
   |none=>none
  |none=>none
def one{P:Program}{q:Prop}(σ:LS)(l:LOp)(h:Option (Hint P q))(r:Option (Rw q)):Option (LS×List (Bool×Bool)×List Act×List Act×List Nat):=match l with
 |.g t w l'=>match rdv [] σ t with
  |some (.bool _)=>pvg t w (clo σ.tg 9 t w) σ l' h r
  |some _=>none
  |none=>match fndg t σ.tg with
   |some (_,_,.bool _)=>pvg t w (clo σ.tg 9 t w) σ l' h r
   |_=>none
 |l=>match fin σ l h r with
  |some (σ1,as,rs,ns)=>some (σ1,[],as,rs,ns)
  |none=>none
section
variable{P:Program}{σ:LS}{s:St}{A:List (Nat×Bool)}
theorem Q06:sat s []:=λp a=>by cases a
theorem L2D{q:Prop}(c:q)(H:σ.has s){l:LOp}{h:Option (Hint P q)}{r:Option (Rw q)}{b:LS}{m d:List Act}{f:List Nat}(e:fin σ l h r=some (b,m,d,f))(i:m=hexp h)(g:d=Rw.exp r){K:St->Prop}(j:X0C f->∀s',b.has s'->K s'):wop P l K s:=by
 unfold fin at e;split at e
 .rename_i o w t k;split at e
  .cases e;exact U2o c H Q06 k i j
  rename_i q;split at e
  .rename_i v u;cases e;simp[Rw.exp,Act.a.injEq,and_true]at g;refine U2o c H Q06 k i λp s' n=>j p s' (n.self ?_);rw[n.e _ _ u,g,q.h c]
  cases e
 cases e
theorem L1Z(H:σ.has s)(a:sat s A):∀{B:List (Nat×Bool)}{gs:List (Bool×Bool)},sat s B->gvs A σ B=some gs->allG gs
 |[],gs,_,h=>by cases h;trivial| (t,w)::B,gs,hB,h=>by
  simp[gvs]at h;split at h
  .rename_i b e;split at h
   .rename_i l f;cases h;refine⟨?_,L1Z H a (λp d=>hB p (yH _ d)) f⟩;have c:=Y0N H a e;rw[hB (t,w) (yJ ..)]at c;exact(AV.bool.inj c).symm
   .cases h
  .cases h
theorem O2m{q:Prop}{t:Nat}{w:Bool}{l:LOp}{gs:List (Bool×Bool)}(A:allG gs->q){h:Option (Hint P q)}{r:Option (Rw q)}{j:LS}{D x:List Act}{y:List Nat}(H:σ.has s)(c:(∃b,s.e t=.bool b)\/s.e t=.und)(e:pvg t w (clo σ.tg 9 t w) σ l h r=some (j,gs,D,x,y))(B:D=hexp h)(z:x=Rw.exp r){K:St->Prop}(i:X0C y->∀s',j.has s'->K s'):wop P (.g t w l) K s:=by
 unfold pvg at e;split at e
 .cases e
 rename_i d;have d:t≠l.dst:=λq=>by subst q;simp at d
 split at e
 .rename_i o C;split at e
  .rename_i v p G;have k:s.e t=.bool w->o=gs->p=hexp h->∀K:St->Prop,K (s.set l.dst v)->wop P l K s:=λc n F K E =>Z1M (A (n ▸ L1Z H (V0x H c) (V0x H c) C)) H (V0x H c) G F E;have m:s.e t≠.bool w->(∀u,(σ.setc l.dst t w u).has (s.set l.dst .und)):=λc u=>H.setc _ _ _ _ _ d (.inr ⟨c,rfl⟩);split at e
   .cases e;rcases c with⟨b,c⟩|c
    .simp[wop,c];by_cases f:b=w
     .subst f;rw[yd rfl];exact k c rfl B _ (i trivial _ (H.setc _ _ _ _ _ d (.inl ⟨c,rfl⟩)))
     rw[ye f];exact i trivial _ (m (by rw[c];simpa using f) _)
    simp[wop,c];exact i trivial _ (m (by rw[c];simp) _)
   rename_i q;cases e;simp[Rw.exp,Act.a.injEq,and_true]at z;rcases c with⟨b,c⟩|c
   .simp[wop,c];by_cases f:b=w
    .subst f;rw[yd rfl];refine k c rfl B _ (i trivial _ (H.setc _ _ _ _ _ d (.inl ⟨c,?_⟩)));rw[z];exact q.h (A (L1Z H (V0x H c) (V0x H c) C))
    rw[ye f];exact i trivial _ (m (by rw[c];simpa using f) _)
   simp[wop,c];exact i trivial _ (m (by rw[c];simp) _)
  cases e
 cases e
theorem J1w{q:Prop}{gs:List (Bool×Bool)}(j:allG gs->q)(H:σ.has s){l:LOp}{h:Option (Hint P q)}{r:Option (Rw q)}{a:LS}{f c:List Act}{d:List Nat}(e:one σ l h r=some (a,gs,f,c,d))(k:f=hexp h)(i:c=Rw.exp r){K:St->Prop}(m:X0C d->∀s',a.has s'->K s'):wop P l K s:=by
 have gen:∀{l:LOp},(match fin σ l h r with|some (a,f,c,d)=>some (a,([]:List (Bool×Bool)),f,c,d)|none=>none)=some (a,gs,f,c,d)->wop P l K s:=by
  intro l e;split at e
  .rename_i σ2 as2 rs2 ns2 e2;cases e;exact L2D (j trivial) H e2 k i m
  cases e
 cases l with
 |g t w l' =>
  simp[one]at e;split at e
  .rename_i b eb;exact O2m j H (.inl ⟨b,Y0N H Q06 eb⟩) e k i m
  .cases e
  split at e
  .rename_i g' w' b' o;refine O2m j H ?_ e k i m;rcases H.g _ _ _ _ (J0j o)with⟨_,n⟩|⟨_,n⟩
   .exact .inl ⟨b',n⟩
   exact .inr n
  cases e
 |_=>exact gen e
end
abbrev HA:=List (Bool×Bool)×List Act×List Act
def HE.exp{P:Program}(e:HE P):HA:=(e.gs,hexp e.h,Rw.exp e.r)
def HE.ns{P:Program}(e:HE P):List Nat:=match e.h with
 |some (.ln _ n _)=>match e.gs with
  |[]=>[n]
  |_=>[]
 |_=>[]
def run{P:Program}:List LOp->List (HE P)->LS->Option (LS×List (HE P)×List HA×List Nat)
 |[],hs,σ=>some (σ,hs,[],[])|l::ls,hs,σ =>
  let no:=λ(_:Unit)=>match one (P:=P) (q:=True) σ l none none with
   |some (σ1,_,[],[],[])=>run ls hs σ1
   |_=>none
  match hs with
  |[]=>no ()|e::r=>match Nat.beq e.k (hkey l)with
   |true=>match one σ l e.h e.r with
    |some (σ1,gs,as,rs,ns)=>match run ls r σ1 with
     |some (σ2,r',ass,ns2)=>some (σ2,r',(gs,as,rs)::ass,ns++ns2)
     |none=>none
    |none=>none
   |false=>no ()
theorem LV:∀{a b:List Nat},X0C a->X0C b->X0C (a++b)
 |[],_,_,h=>h|_::_,_,h,h2=>⟨h.1,LV h.2 h2⟩
theorem W1w{P:Program}:∀{h:List LOp}{d b:List (HE P)}{f a:LS}{i:List HA}{g:List Nat}{s:St},f.has s->run h d f=some (a,b,i,g)->∀{c:List HA},i++c=d.map HE.exp -> ∀{K:St->Prop},(c=b.map HE.exp->X0C g->∀s',a.has s'->K s')->wops P h K s
 |[],d,b,f,a,i,g,s,H,e,c,he,K,hK=>by simp only[run]at e;cases e;exact hK he trivial s H|l::h,d,b,f,a,i,g,s,H,e,c,he,K,hK=>by
  have n:(match one (P:=P) (q:=True) f l none none with|some (a,_,[],[],[])=>run h d a|_=>none)=some (a,b,i,g)->wops P (l::h) K s:=by
   intro e;split at e
   .rename_i j gs k;exact J1w (λ_=>trivial) H k rfl rfl λ_ s' m=>W1w m e he hK
   .cases e
  cases d with
  |nil=>exact n e|cons q r =>
   simp[run]at e;split at e
   .split at e
    .rename_i j E c D w k;split at e
     .rename_i o r' C v B;cases e;simp[List.map_cons,List.cons_append,HE.exp,Prod.mk.injEq]at he;obtain⟨⟨A,z,y⟩,x⟩:=he;exact J1w (λq=>A ▸ q) H k z y λu s' m=>W1w m B x λp t=>hK p (LV u t)
     .cases e
    .cases e
   .exact n e
end
end Go.Proofs.YtehomnafaoplgaaGreat.Eng
