/-
  Lemmas, part 7.
-/
import Derived.Test.YtehomnafaoplgaaGreatZ6
namespace Go.Proofs.YtehomnafaoplgaaGreat.Eng
open Go Go.RowKit
section
mutual
def L29(k:Nat):AV->Bool
 |.sref j=>!Nat.beq j k
 |.ptr j _=>!Nat.beq j k
 |.rpt j _ _=>!Nat.beq j k
 |.agg cs=>X1x k cs
 |.tup cs=>X1x k cs
 |.fn _ cs=>X1x k cs
 |_=>true
def X1x(k:Nat):List AV->Bool
 |[]=>true
 |a::l=>L29 k a&&X1x k l
end
mutual
theorem O1Y{k:Nat}:∀{a:AV},L29 k a=true->a.dead k=a
 |.sref j,h | .ptr j _,h | .rpt j _ _,h=>by
  have:j≠k:=λe=>by subst e;simp[L29]at h
  simp[AV.dead,this]
 |.agg cs,h | .tup cs,h | .fn _ cs,h=>by rw[AV.dead,O1M (by simpa[L29]using h)]
 |.bool _,_ | .int _ _,_ | .str _,_ | .nl,_ | .el,_ | .sl _ _ _,_ | .ept _ _,_ | .eot _ _,_ | .od _ _ _,_ | .op _ _ _,_ | .und,_ | .bad,_=>by simp[AV.dead]
theorem O1M{k:Nat}:∀{l:List AV},X1x k l=true->U7 k l=l
 |[],_=>rfl
 |a::l,h=>by
  simp only[X1x,yD]at h
  rw[U7,O1Y h.1,O1M h.2]
end
def dxs(d:Nat):List AV->Bool
 |[]=>true|a::l=>L29 d a&&dxs d l
def nrw(σ:LS):X->Bool
 |.c a=>U1M a|.t i=>match lk σ.te i with
  |some v=>U1M v
  |none=>match fndg i σ.tg with
   |some (_,_,v)=>U1M v
   |none=>false
def scq(σ:LS):LOp->Bool
 |.sc _ x _ _ _=>nrw σ x|.g _ _ l=>match l with
  |.sc _ x _ _ _=>nrw σ x
  |_=>true
 |_=>true
def LS.kills(σ:LS):List Nat->LS
 |[]=>σ|k::ks=>(σ.kill k).kills ks
def pdv(σ:LS)(d:Nat):Option AV:=match lk σ.te d with
 |some v=>some v
 |none=>match fndg d σ.tg with
  |some (_,_,v)=>some v
  |none=>none
abbrev RR(P:Program):=Option (LS×List (HE P)×List HA×List Nat)
def qno{P:Program}(l:LOp)(hs:List (HE P))(acc:List AV)(σ:LS)(k:List (HE P)->List AV->LS->RR P):RR P:=match one (P:=P) (q:=True) σ l none none with
 |some (σ1,_,[],[],[])=>match pdv σ1 l.dst with
  |some v=>k hs (v::acc) σ1
  |none=>none
 |_=>none
def qyes{P:Program}(l:LOp)(e:HE P)(r:List (HE P))(acc:List AV)(σ:LS)(k:List (HE P)->List AV->LS->RR P):RR P:=match one σ l e.h e.r with
 |some (σ1,gs,as,rs,ns)=>match pdv σ1 l.dst with
  |some v=>match k r (v::acc) σ1 with
   |some (σ2,r',ass,ns2)=>some (σ2,r',(gs,as,rs)::ass,ns++ns2)
   |none=>none
  |none=>none
 |none=>none
def W2s{P:Program}(l:LOp)(hs:List (HE P))(acc:List AV)(σ:LS)(k:List (HE P)->List AV->LS->RR P):RR P:=match scq σ l with
 |false=>none
 |true=>match hs with
  |[]=>qno l [] acc σ k
  |e::r=>match Nat.beq e.k (hkey l)with
   |true=>qyes l e r acc σ k
   |false=>qno l (e::r) acc σ k
def runq{P:Program}:List LOp->List (HE P)->List AV->LS->RR P
 |[],hs,_,σ=>some (σ,hs,[],[])|l::ls,hs,acc,σ=>match l with
  |.al d z=>match dxs d acc with
   |true=>runq ls hs (.ptr d 0::U7 d z++acc) ((σ.box d (U7 d z)).set d (.ptr d 0))
   |false=>none
  |l=>W2s l hs acc σ (runq ls)
section
variable{P:Program}{R:Ex->St->Prop}{σ:LS}{s:St}
theorem Y1Y{x:X}(H:σ.has s)(h:nrw σ x=true):U1M (s.get x)=true:=by
 cases x with
 |c a=>exact h|t i =>
  simp[nrw]at h;split at h
  .rename_i v e;rw[J2j,H.e _ _ e];exact h
  split at h
  .rename_i g w v e;rcases H.g _ _ _ _ (J0j e)with⟨_,b⟩|⟨_,b⟩
   .rw[J2j,b];exact h
   simp_all
  cases h
theorem U2m{l:LOp}(H:σ.has s)(h:scq σ l=true):scOk s l:=by
 cases l with
 |sc d x a c n=>exact Y1Y H h|g t w b =>cases b with|sc d x a c n=>exact Y1Y H h|_=>trivial
 |_=>trivial
theorem LS.has.kills:∀{ks:List Nat}{a:LS}{s:St},a.has s->(a.kills ks).has (s.kills ks)
 |[],_,_,H=>H|k::ks,_,_,H=>LS.has.kills (ks:=ks) (H.kill k)
def seen:List AV->List AV->Prop
 |[],[]=>True|a::l,b::m=>(a=b\/a=.und)/\seen l m|_,_=>False
theorem X1L:∀l,seen l l
 |[]=>trivial|_::l=>⟨.inl rfl,X1L l⟩
theorem W1W:∀{a b c d:List AV},seen a b->seen c d->seen (a++c) (b++d)
 |[],[],_,_,_,h=>h|_::_,_::_,_,_,h,e=>⟨h.1,W1W h.2 e⟩|[],_::_,_,_,h,_|_::_,[],_,_,h,_=>h.elim
theorem V1L{d:Nat}:∀{l m:List AV},seen l m->dxs d m=true->∀v∈l,v.dead d=v
 |[],_,_,_,v,c=>by cases c|a::l,b::m,h,hd,v,c=>by
  simp[dxs]at hd;rcases yX c with rfl|c
  .rcases h.1 with rfl|e
   .exact O1Y hd.1
   .rw[e];rfl
  .exact V1L h.2 hd.2 v c
 |_::_,[],h,_,_,_=>h.elim
theorem O28{d:Nat}{v:AV}(H:σ.has s)(h:pdv σ d=some v):s.e d=v\/s.e d=.und:=by
 unfold pdv at h;split at h
 .rename_i u e;cases h;exact .inl (H.e _ _ e)
 split at h
 .rename_i g w u e;cases h;rcases H.g _ _ _ _ (J0j e)with⟨_,a⟩|⟨_,a⟩
  .exact .inl a
  exact .inr a
 cases h
theorem X1B:∀{f:List LOp}{g b:List (HE P)}{acc pa:List AV}{h a:LS}{j:List HA}{i:List Nat}{s:St},h.has s->seen acc pa->runq f g pa h=some (a,b,j,i) -> ∀{c:List HA},j++c=g.map HE.exp->∀{K:St->Prop},(c=b.map HE.exp->X0C i->∀s',a.has s'->K s')->Q0q P f acc K s
 |[],g,b,acc,pa,h,a,j,i,s,H,ha,e,c,he,K,hK=>by simp only[runq]at e;cases e;exact hK he trivial s H|l::f,g,b,acc,pa,h,a,j,i,s,H,ha,e,c,he,K,hK=>by
  have p:isAl l=false->W2s l g pa h (runq f)=some (a,b,j,i)->Q0q P (l::f) acc K s:=by
   intro o e;unfold W2s at e;split at e
   .cases e
   .rename_i n;rw[J21 o];refine⟨U2m H n,?_⟩;have w:qno l g pa h (runq f)=some (a,b,j,i)->wop P l (V2B P l.dst f acc K) s:=by
     intro e;unfold qno at e;split at e
     .rename_i m gs u;split at e
      .rename_i v t;refine J1w (by simp) H u rfl rfl λ_ s' k=>?_;exact X1B k (acc:=s'.e l.dst::acc) (pa:=v::pa) ⟨O28 k t,ha⟩ e he hK
      .cases e
     .cases e
    cases g with
    |nil=>exact w e|cons q r =>
     simp only at e;split at e
     .unfold qyes at e;split at e
      .rename_i m gs c M D u;split at e
       .rename_i v t;split at e
        .rename_i x r' L C J;cases e;simp[List.map_cons,List.cons_append,HE.exp,Prod.mk.injEq]at he;obtain⟨⟨N,I,G⟩,F⟩:=he;refine J1w (by grind) H u I G λB s' k=>?_;exact X1B k (acc:=s'.e l.dst::acc) (pa:=v::pa) ⟨O28 k t,ha⟩ J F λy A=>hK y (LV B A)
        .cases e
       .cases e
      .cases e
     .exact w e
  cases l with
  |al d z =>
   simp only[runq]at e;split at e
   .rename_i E;rw[Z2i];exact⟨V1L ha E,X1B ((H.box d (U7 d z)).set d (.ptr d 0)) (by grind[W1W,X1L,U7]) e he hK⟩
   .cases e
  |_=>exact p rfl e
end
def bL(σ:LS)(k:Nat):Bool:=match lk σ.tb k with
 |some _=>true
 |none=>false
def mskB(b:Nat->Bool):List (Nat×List AV)->List (Nat×List AV)
 |[]=>[]| (k,cs)::l=>(k,Y0C b cs)::mskB b l
def LS.strip(σ:LS):LS:={ te:=σ.te,tg:=σ.tg,tb:=mskB (bL σ) σ.tb,tr:=[] }
def mskT(σ:LS):List (Nat×List AV)->List (Nat×List AV)
 |[]=>[]| (k,cs)::l=>match(match lk σ.tb k with|some c0=>Nat.blt k 1000000000&&kfL (bL σ) c0|none=>false)with
   |true=>(k,cs)::mskT σ l
   |false=>mskT σ l
def rL(σ:LS)(k:Nat):Bool:=match lk σ.tr k with
 |some _=>true
 |none=>false
def rLk(ck:List Nat)(σ:LS)(k:Nat):Bool:=rL σ k&&!ck.contains k
def mskS(ck:List Nat)(σ:LS):List (Nat×List AV)->List (Nat×List AV)
 |[]=>[]| (k,cs)::l=>match(match lk σ.tb k with|some c0=>Nat.blt k 1000000000&&ksL (bL σ) (rLk ck σ) c0|none=>false)with
   |true=>(k,cs)::mskS ck σ l
   |false=>mskS ck σ l
def mskR(ck:List Nat):List (Nat×Row)->List (Nat×Row)
 |[]=>[]| (k,r)::l=>match ck.contains k with
   |true=>mskR ck l
   |false=>(k,r)::mskR ck l
def LS.stripc(σ:LS):Zc->LS
 |.t=>{ te:=σ.te,tg:=σ.tg,tb:=mskT σ σ.tb,tr:=[] }|.f=>σ.strip|.s ck=>{ te:=σ.te,tg:=σ.tg,tb:=mskS ck σ σ.tb,tr:=mskR ck σ.tr }
def hidB(ow:List Nat):List (Nat×List AV)->List (Nat×List AV)
 |[]=>[]| (k,cs)::l=>match ow.contains k with
   |true=>hidB ow l
   |false=>(k,cs)::hidB ow l
def LS.hide(σ:LS)(ow:List Nat):LS:=match ow with
 |[]=>σ
 |ow=>{ σ with tb:=hidB ow σ.tb }
def exB(ck:List Nat)(σ:LS):List (Nat×List AV)->Bool
 |[]=>true| (_,cs)::l=>(match ksL (bL σ) (λk=>!ck.contains k) cs with|true=>ksL (bL σ) (rLk ck σ) cs|false=>true)&&exB ck σ l
def exS(c:Zc)(σ:LS):Bool:=match c with
 |.s ck=>exB ck σ σ.tb
 |_=>true
def kfV(c:Zc)(σ:LS)(v:AV):Bool:=match c with
 |.s ck=>v.ks (bL σ) (rLk ck σ)
 |_=>v.kf (bL σ)
def kfT(c:Zc)(σ:LS)(t:Nat):Bool:=match pdv σ t with
 |some v=>kfV c σ v
 |none=>false
def kfTs(c:Zc)(σ:LS):List Nat->Bool
 |[]=>true|t::ts=>kfT c σ t&&kfTs c σ ts
def pvz{P:Program}{q:Prop}(c:Zc)(ow:List Nat)(sr:Bool)(σ:LS)(l:LOp)(h:Option (Hint P q))(r:Option (Rw q)):Option (LS×List (Bool×Bool)×List Act×List Act):=match(kfTs c σ l.rds||sr)&&scq σ l&&exS c (σ.hide ow)with
 |false=>none
 |true=>match l with
  |.g t w l'=>match(match rdv [] σ t with|some (.bool _)=>true|some _=>false|none=>(match fndg t σ.tg with|some (_,_,.bool _)=>true|_=>false))with
   |false=>none
   |true=>match Nat.beq t l'.dst with
    |true=>none
    |false=>match gvs (clo σ.tg 9 t w) σ (clo σ.tg 9 t w)with
     |some gs=>match pvh (clo σ.tg 9 t w) ((σ.hide ow).stripc c) h l' with
      |some (v,as)=>match r with
       |none=>match kfV c (σ.hide ow) v with
        |true=>some (σ.setc l'.dst t w v,gs,as,[])
        |false=>none
       |some _=>none
      |none=>none
     |none=>none
  |l=>match pvh [] ((σ.hide ow).stripc c) h l with
   |some (v,as)=>match kfV c (σ.hide ow) v with
    |true=>match r with
     |none=>some (σ.set l.dst v,[],as,[])
     |some q=>some (σ.set l.dst q.b,[],as,[.a v])
    |false=>none
   |none=>none
def zok(σ:LS):LOp->Bool
 |.bs d _ _ _=>match lk σ.tb d with
  |none=>true
  |some _=>false
 |.ap d x _ _ _=>match gt [] σ x with
  |some (.sref k)=>match lk σ.tr k with
   |some _=>true
   |none=>false
  |some .nl=>match lk σ.tb d with
   |none=>true
   |some _=>false
  |_=>false
 |.mv _ _=>true|.ex _ _ _=>true|.bd _ _ _=>true|.ln _ _=>true|.sc _ _ _ _ _=>true|_=>false
def nfr1(σ:LS):AV->Bool
 |.sref k=>match lk σ.tr k with
  |some _=>true
  |none=>false
 |.rpt k _ _=>match lk σ.tr k with
  |some _=>true
  |none=>false
 |.ptr k _=>match lk σ.tb k with
  |some _=>true
  |none=>Nat.ble 1000000000 k
 |.agg _=>false|.tup _=>false|.fn _ _=>false|_=>true
def nfr(σ:LS):AV->Bool
 |.agg cs=>cs.all (nfr1 σ)|.tup cs=>cs.all (λa=>match a with | .agg cs=>cs.all (nfr1 σ)|a=>nfr1 σ a)
 |a=>nfr1 σ a
def zcon{P:Program}(x:HA)(r:RR P):RR P:=match r with
 |some (σ2,r',ass,ns)=>some (σ2,r',x::ass,ns)
 |none=>none
def bigB:List Nat->Bool
 |[]=>true|k::ks=>Nat.ble 1000000000 k&&bigB ks
def zcm{P:Program}{q:Prop}(σ:LS)(d f':Nat)(xs:List X)(h:Option (Hint P q))(r:Option (Rw q)):Option (LS×List (Bool×Bool)×List Act×List Act×List Nat):=match h with
 |some (.cz _ bks _ _ _ res bout _ _ _ _)=>match r with
  |none=>match U0a bks&&bigB bks with
   |true=>match gbx σ bks with
    |some bs=>match gtsF [] σ xs with
     |some vs=>some (σ.afterM d bks [] res bout [] [],[],[.w f' (mpL (ix bks) (ix []) vs) (bs.map (mpL (ix bks) (ix []))) []],[],[])
     |none=>none
    |none=>none
   |false=>none
  |some _=>none
 |_=>none
def X2q{P:Program}{q:Prop}(σ:LS)(l:LOp)(h:Option (Hint P q))(r:Option (Rw q)):Option (LS×List (Bool×Bool)×List Act×List Act×List Nat):=match zok σ l with
 |true=>one σ l h r
 |false=>match isQE l with
  |false=>none
  |true=>match one σ l h r with
   |some (σ1,gs,as,rs,ns)=>match lk σ1.te l.dst with
    |some v=>match nfr σ v with
     |true=>some (σ1,gs,as,rs,ns)
     |false=>none
    |none=>none
   |none=>none
def inRg(n:Nat×Nat)(k:Nat):Bool:=Nat.ble n.1 k&&Nat.blt k (n.1+n.2)
theorem W1Z{n:Nat×Nat}{k j:Nat}(h:inRg n j=true)(a:∀i,i<n.2->k≠n.1+i):j≠k:=λe=>by
 simp only[inRg,yD]at h
 have c:=Nat.le_of_ble_eq_true h.1
 have b:j+1<=n.1+n.2:=Nat.le_of_ble_eq_true h.2
 exact a (j-n.1) (by omega) (by omega)
def noBx(σ:LS)(b:Nat):Nat->Bool
 |0=>true|n+1=>(match lk σ.tb (b+n)with|none=>true|some _=>false)&&noBx σ b n
theorem M29{a:LS}{b:Nat}:∀{n:Nat},noBx a b n=true->∀i,i<n->lk a.tb (b+i)=none
 |0,_,i,h=>by omega|n+1,h,i,hi=>by
  simp[noBx]at h;by_cases e:i=n
  .subst e;have c:=h.1;split at c
   .assumption
   .cases c
  .exact M29 h.2 i (by omega)
mutual
def AV.onl(key:Nat×Nat):AV->Bool
 |.sref k=>inRg key k
 |.rpt k _ _=>inRg key k
 |.ptr _ _=>false
 |.agg cs=>onlL key cs
 |.tup cs=>onlL key cs
 |.fn _ cs=>onlL key cs
 |_=>true
def onlL(key:Nat×Nat):List AV->Bool
 |[]=>true
 |a::l=>AV.onl key a&&onlL key l
end
mutual
theorem M1X{key:Nat×Nat}{k:Nat}(hk:∀i,i<key.2->k≠key.1+i):∀a:AV,a.onl key=true->a.dead k=a
 |.bool _,_ | .int _ _,_ | .str _,_ | .nl,_ | .el,_ | .sl _ _ _,_ | .ept _ _,_ | .eot _ _,_ | .od _ _ _,_ | .op _ _ _,_ | .und,_ | .bad,_=>by simp[AV.dead]
 |.sref j,h=>by rw[AV.dead,ye (W1Z (by simpa[AV.onl]using h) hk)]
 |.rpt j _ _,h=>by rw[AV.dead,ye (W1Z (by simpa[AV.onl]using h) hk)]
 |.ptr _ _,h=>by simp[AV.onl]at h
 |.agg cs,h=>by rw[AV.dead,V0N hk cs (by simpa[AV.onl]using h)]
 |.tup cs,h=>by rw[AV.dead,V0N hk cs (by simpa[AV.onl]using h)]
 |.fn f cs,h=>by rw[AV.dead,V0N hk cs (by simpa[AV.onl]using h)]
theorem V0N{key:Nat×Nat}{k:Nat}(hk:∀i,i<key.2->k≠key.1+i):∀l:List AV,onlL key l=true->U7 k l=l
 |[],_=>by simp[U7]
 |a::l,h=>by
  simp only[onlL,yD]at h
  rw[U7,M1X hk a h.1,V0N hk l h.2]
end
def zcl{P:Program}{q:Prop}(σ:LS)(d f':Nat)(xs:List X)(h:Option (Hint P q))(r:Option (Rw q)):Option (LS×List (Bool×Bool)×List Act×List Act×List Nat):=match h with
 |some (.call _ as _ res rows _ _)=>match r with
  |none=>match Nat.ble rows.length 8&&noBx σ (1000*d+1000) rows.length with
   |true=>match Nat.ble (1000*d+1000+rows.length) 1000000000 with
    |true=>match gts [] σ xs with
     |some vs=>match σ.dtL vs with
      |some ds=>match(res.ren (1000*d+1000) rows.length).onl (1000*d+1000,rows.length)with
       |true=>some ((addRows σ (1000*d+1000) rows).set d (res.ren (1000*d+1000) rows.length),[],[.n f',.l (mrgL ds as)],[],[])
       |false=>none
      |none=>none
     |none=>none
    |false=>none
   |false=>none
  |some _=>none
 |_=>none
def zone{P:Program}{q:Prop}(σ:LS)(l:LOp)(h:Option (Hint P q))(r:Option (Rw q)):Option (LS×List (Bool×Bool)×List Act×List Act×List Nat):=match l with
 |.cm d f xs=>zcm σ d f xs h r
 |.cl d f xs=>zcl σ d f xs h r
 |l=>X2q σ l h r
def Q2w{P:Program}(c:Zc)(ow:List Nat)(sr f:Bool)(l:LOp)(hs:List (HE P))(σ:LS)(k:List (HE P)->LS->RR P):RR P:=match f with
 |true=>match hs with
  |[]=>match zone (P:=P) (q:=True) σ l none none with
   |some (σ1,_,[],[],[])=>k [] σ1
   |_=>none
  |e::r=>match Nat.beq e.k (hkey l)with
   |true=>match zone σ l e.h e.r with
    |some (σ1,gs,as,rs,[])=>zcon (gs,as,rs) (k r σ1)
    |_=>none
   |false=>match zone (P:=P) (q:=True) σ l none none with
    |some (σ1,_,[],[],[])=>k (e::r) σ1
    |_=>none
 |false=>match hs with
  |[]=>match pvz (P:=P) (q:=True) c ow sr σ l none none with
   |some (σ1,_,[],[])=>k [] σ1
   |_=>none
  |e::r=>match Nat.beq e.k (hkey l)with
   |true=>match pvz c ow sr σ l e.h e.r with
    |some (σ1,gs,as,rs)=>zcon (gs,as,rs) (k r σ1)
    |none=>none
   |false=>match pvz (P:=P) (q:=True) c ow sr σ l none none with
    |some (σ1,_,[],[])=>k (e::r) σ1
    |_=>none
def runz{P:Program}(c:Zc)(ow:List Nat):List (Bool×LOp)->List (HE P)->LS->RR P
 |[],hs,σ=>some (σ,hs,[],[])| (f,l)::ls,hs,σ=>Q2w c ow (L1K ls) f l hs σ (runz c ow ls)
def ptrs(σ:LS):List Nat->Bool
 |[]=>true|d::r=>(match lk σ.te d with
  |some (.ptr k 0)=>Nat.beq k d
  |_=>false)&&ptrs σ r
theorem X28{c:LS}{s:St}(H:c.has s):∀{l:List Nat},ptrs c l=true->∀d∈l,s.e d=.ptr d 0
 |[],_,d,a=>by cases a|d0::r,h,d,a=>by
  simp[ptrs]at h;rcases yX a with rfl|a
  .have b:=h.1;split at b
   .rename_i k e;rw[H.e _ _ e,yR b]
   .cases b
  .exact X28 H h.2 d a
def LS.alZ(σ:LS):List ZA->LS
 |[]=>σ| (_,d,z)::r=>((σ.box d z).set d (.ptr d 0)).alZ r
section
variable{P:Program}{R:Ex->St->Prop}{σ:LS}{s:St}
theorem W1U(H:σ.has s):bO s=bL σ:=by
 funext k;unfold bO bL;split
 .rename_i cs e;rw[H.b _ _ e];rfl
 rename_i e;rw[H.n _ e];rfl
theorem L1M{b:Nat->Bool}:∀{l:List (Nat×List AV)}{k:Nat}{cs:List AV},lk (mskB b l) k=some cs->∃c0,lk l k=some c0/\cs=Y0C b c0
 |[],_,_,h=>by cases h| (j,c)::l,k,cs,h=>by
  simp[mskB]at h;rcases Z0v h with⟨rfl,rfl⟩|h'
  .exact⟨c,by simp[lk],rfl⟩
  .simp[lk]at h ⊢;split at h
   .cases h;exact⟨c,rfl,rfl⟩
   .exact L1M h
theorem J1M{b:Nat->Bool}:∀{l:List (Nat×List AV)}{k:Nat},lk (mskB b l) k=none->lk l k=none
 |[],_,_=>rfl| (j,c)::l,k,h=>by
  simp[mskB,lk]at h ⊢;split at h
  .cases h
  .exact J1M h
theorem LS.has.strip(H:σ.has s):σ.strip.has s.stripF:=by
 refine⟨H.e,H.g,λk cs h=>?_,λk r h=>by(cases h),λk h=>?_⟩
 .obtain⟨c0,a,rfl⟩:=L1M h;simp[St.stripF,H.b _ _ a,W1U H,Option.map_some]
 simp[St.stripF,H.n _ (J1M h),Option.map_none]
theorem X2a(a:LS):∀{l:List (Nat×List AV)}{k:Nat},lk (mskT a l) k=if(match lk a.tb k with|some c0=>Nat.blt k 1000000000&&kfL (bL a) c0|none=>false)=true then lk l k else none
 |[],k=>by simp[mskT,lk]| (j,c)::l,k=>by
  have b:=X2a a (l:=l) (k:=k);by_cases e:j=k
  .subst e;simp[mskT];split
   .simp_all[lk]
   grind
  grind[Nat.beq,absurd,yR,lk,mskT]
theorem Z1T(ck:List Nat)(a:LS):∀{l:List (Nat×List AV)}{k:Nat},lk (mskS ck a l) k=if(match lk a.tb k with|some c0=>Nat.blt k 1000000000&&ksL (bL a) (rLk ck a) c0|none=>false)=true then lk l k else none
 |[],k=>by simp[mskS,lk]| (j,c)::l,k=>by
  have b:=Z1T ck a (l:=l) (k:=k);by_cases e:j=k
  .subst e;simp[mskS];split
   .simp_all[lk]
   grind
  grind[Nat.beq,absurd,yR,lk,mskS]
theorem V2a{ck:List Nat}:∀{l:List (Nat×Row)}{k:Nat},lk (mskR ck l) k=match ck.contains k with|true=>none|false=>lk l k
 |[],k=>by cases h:ck.contains k<;>simp[mskR,lk]| (j,c)::l,k=>by have a:=V2a (ck:=ck) (l:=l) (k:=k);grind[mskR,lk,Nat.beq,absurd,yR]
theorem V2o{ck:List Nat}{a:LS}:∀{l:List (Nat×List AV)}{k:Nat}{cs:List AV},exB ck a l=true->lk l k=some cs->ksL (bL a) (λk=>!ck.contains k) cs=true->ksL (bL a) (rLk ck a) cs=true
 |[],k,cs,_,h,_=>by simp[lk]at h| (j,c)::l,k,cs,hx,h,hk=>by
  simp only[exB,yD]at hx;simp[lk]at h;split at h
  .cases h;have:=hx.1;rw[hk]at this;exact this
  .exact V2o hx.2 h hk
theorem rL_ok(H:σ.has s):∀k,rL σ k=true->rO s k=true:=λk h=>by
 unfold rL at h
 split at h
 .rename_i r e;unfold rO;rw[(H.r _ _ e).1];rfl
 .cases h
theorem W2m(H:σ.has s)(ck:List Nat):∀k,rLk ck σ k=true->rS ck s k=true:=λk h=>by
 unfold rLk at h;unfold rS
 simp only[yD]at h ⊢
 grind[rL_ok]
theorem LS.has.stripc(H:σ.has s)(c:Zc)(i:exS c σ=true):(σ.stripc c).has (s.stripc c):=by
 cases c with
 |f=>exact H.strip|s ck =>
  have i:=i;refine⟨H.e,H.g,λk cs h=>?_,λk r h=>?_,λk h=>?_⟩
  .rw[show(σ.stripc (.s ck)).tb=mskS ck σ σ.tb from rfl,Z1T]at h;cases hl:lk σ.tb k with
   |none=>rw[hl]at h;simp at h|some c0 =>
    rw[hl]at h;by_cases a:(Nat.blt k 1000000000&&ksL (bL σ) (rLk ck σ) c0)=true
    .simp only[a,yb,yI]at h;subst h;simp only[yD]at a;simp only[St.stripc,St.stripS];rw[yd (by simpa[Nat.blt_eq]using a.1),H.b _ _ hl];simp only;rw[yd (W0a (λk d=>by rw[W1U H];exact d) (W2m H ck) c0 a.2)]
    grind
  .rw[show(σ.stripc (.s ck)).tr=mskR ck σ.tr from rfl,V2a]at h;simp only[St.stripc,St.stripS];split at h
   .cases h
   rename_i a;obtain⟨u,p⟩:=H.r k r h;rw[a];grind
  rw[show(σ.stripc (.s ck)).tb=mskS ck σ σ.tb from rfl,Z1T]at h;simp only[St.stripc,St.stripS];cases hl:lk σ.tb k with
  |none=>rw[H.n _ hl];simp|some c0 =>
   rw[hl]at h;by_cases d:k<1000000000
   .rw[yd d,H.b _ _ hl];simp only;rw[ye];intro q;have o:ksL (bL σ) (λk=>!ck.contains k) c0=true:=W0a (λk d=>by rw[← W1U H];exact d) (by simp) c0 q;have m:=V2o i hl o;rw[yd (by simp only[yD];exact⟨by simpa[Nat.blt_eq]using d,m⟩)]at h;cases h
   rw[ye d]
 |t =>
  have l:∀k,lk (σ.stripc .t).tb k=match lk σ.tb k with|some c0=>(if(Nat.blt k 1000000000&&kfL (bL σ) c0)=true then some c0 else none)|none=>none:=by intro k;rw[show(σ.stripc .t).tb=mskT σ σ.tb from rfl,X2a];grind
  have j:∀k,(s.stripc .t).bx k=if k<1000000000 then(match s.bx k with|some cs=>if kfL (bO s) cs=true then some cs else none|none=>none)else none:=λk=>rfl
  refine⟨H.e,H.g,λk cs h=>?_,λk r h=>by(cases h),λk h=>?_⟩
  .rw[l]at h;rw[j];cases hl:lk σ.tb k with
   |none=>rw[hl]at h;cases h|some c0 =>
    rw[hl]at h;by_cases a:(Nat.blt k 1000000000&&kfL (bL σ) c0)=true
    .simp only[a,yb,yI]at h;subst h;simp only[yD]at a;rw[yd (by simpa[Nat.blt_eq]using a.1),H.b _ _ hl,W1U H];grind
    grind
  rw[l]at h;rw[j];cases hl:lk σ.tb k with
  |none=>rw[H.n _ hl];simp|some c0 =>
   rw[hl]at h;by_cases a:(Nat.blt k 1000000000&&kfL (bL σ) c0)=true
   .grind
   by_cases d:k<1000000000
   .rw[yd d,H.b _ _ hl,W1U H];simp_all
   rw[ye d]
theorem J1T{ow:List Nat}:∀{l:List (Nat×List AV)}{k:Nat},lk (hidB ow l) k=match ow.contains k with|true=>none|false=>lk l k
 |[],k=>by cases h:ow.contains k<;>simp[hidB,lk]| (j,c)::l,k=>by have a:=J1T (ow:=ow) (l:=l) (k:=k);grind[hidB,lk,Nat.beq,absurd,yR]
theorem LS.has.hide(H:σ.has s)(ow:List Nat):(σ.hide ow).has (s.hide ow):=by
 cases ow with
 |nil=>exact H|cons o ow =>
  refine⟨H.e,H.g,λk cs h=>?_,λk r h=>⟨(H.r k r h).1,L1O (H.r k r h).2⟩,λk h=>?_⟩
  .rw[show(σ.hide (o::ow)).tb=hidB (o::ow) σ.tb from rfl,J1T]at h;simp only[St.hide];split at h
   .cases h
   rename_i a;rw[a];exact H.b _ _ h
  rw[show(σ.hide (o::ow)).tb=hidB (o::ow) σ.tb from rfl,J1T]at h;simp only[St.hide];split at h
  .grind
  rename_i a;rw[a];exact H.n _ h
theorem M21{c:Zc}{A:List (Nat×Bool)}(h:sat s A):sat (s.stripc c) A:=by cases c<;>exact h
@[simp] theorem Y20 (c:Zc)(i:Nat):(s.stripc c).e i=s.e i:=by cases c<;>rfl
theorem V2b{c:Zc}(H:σ.has s){v:AV}(h:kfV c σ v=true):kfz c s v=true:=by cases c with|s ck=>exact Q1T (λk a=>by rw[W1U H];exact a) (W2m H ck) v h|_=>unfold kfz;rw[W1U H];exact h
theorem V2D{c:Zc}(H:σ.has s){t:Nat}(h:kfT c σ t=true):kfz c s (s.e t)=true:=by
 unfold kfT at h;split at h
 .rename_i v e;rcases O28 H e with q|q
  .rw[q];exact V2b H h
  rw[q];exact W2n rfl
 cases h
theorem U2b{c:Zc}(H:σ.has s):∀{b:List Nat},kfTs c σ b=true->∀t∈b,kfz c s (s.e t)=true
 |[],_,t,a=>by cases a|t::b,h,t',a=>by
  simp[kfTs]at h;rcases yX a with rfl|a
  .exact V2D H h.1
  .exact U2b H h.2 t' a
theorem Y27{l:LOp}{c:Zc}{ow:List Nat}(H:σ.has s)(h:scq σ l=true):scOk ((s.hide ow).stripc c) l:=by
 have:=U2m H h;have e:((s.hide ow).stripc c).e=s.e:=by cases c<;>rfl
 simp_all[scOk,St.get]
theorem Z28{c:Zc}{ow:List Nat}{B:Bool}{q:Prop}{gs:List (Bool×Bool)}(o:allG gs->q)(H:σ.has s){l:LOp}{h:Option (Hint P q)}{r:Option (Rw q)}{m:LS}{C rs:List Act}(e:pvz c ow B σ l h r=some (m,gs,C,rs))(z:C=hexp h)(hr:rs=Rw.exp r){K:St->Prop}{i:List (Bool×LOp)}(hsr:B=true->L1K i=true)(x:∀s',m.has s'->ZK P c ow i K s'):ZK P c ow ((false,l)::i) K s:=by
 unfold pvz at e;split at e
 .cases e
 rename_i p;simp only[yD]at p;rw[Z2q];refine⟨(Bool.or_eq_true _ _ ▸ p.1.1).imp (U2b H) hsr,Y27 H p.1.2,?_⟩;have A:=(H.hide ow).stripc c p.2;split at e
 .rename_i t w n;split at e
  .cases e
  rename_i d;have d:(∃b,s.e t=.bool b)\/s.e t=.und:=by
   split at d
   .rename_i b eb;exact .inl ⟨b,Y0N H Q06 eb⟩
   .cases d
   split at d
   .rename_i g' w' b' ef;rcases H.g _ _ _ _ (J0j ef)with⟨_,h2⟩|⟨_,h2⟩
    .grind
    exact .inr h2
   cases d
  split at e
  .cases e
  rename_i j;have j:t≠n.dst:=λq=>by simp_all
  split at e
  .rename_i gs' eg;split at e
   .rename_i v as' y;split at e
    .split at e
     .rename_i k;cases e;have no:s.e t≠.bool w->(kfz c (s.hide ow) .und=true/\ZK P c ow i K (s.set n.dst .und)):=λd=>⟨W2n rfl,x _ (H.setc _ _ _ _ _ j (by grind))⟩;have f:∀u,(kfz c (s.hide ow) u=true/\ZK P c ow i K (s.set n.dst u))->J2g P c ow n.dst i K s (((s.hide ow).stripc c).set n.dst u):=by simp
      rcases d with⟨b,d⟩|d
      .simp[wop,Y20,Q2o,d];by_cases hw:b=w
       .subst hw;rw[yd rfl];exact Z1M (o (L1Z H (V0x H d) (V0x H d) eg)) A (M21 (s:=s.hide ow) (V0x H d)) y z (f v ⟨V2b (H.hide ow) k,x _ (H.setc _ _ _ _ _ j (by grind))⟩)
       simp_all
      simp_all
     cases e
    cases e
   cases e
  cases e
 split at e
 .rename_i v as' y;split at e
  .rename_i k;have f:∀u,u=v->ZK P c ow i K (s.set l.dst u)->J2g P c ow l.dst i K s (((s.hide ow).stripc c).set l.dst v):=by intro u hu hz;rw[U1V];subst hu;simp[e_set];exact⟨V2b (H.hide ow) k,hz⟩
   split at e
   .cases e;exact Z1M (o trivial) A Q06 y z (f v rfl (x _ (H.set _ _)))
   rename_i q0;cases e;simp[Rw.exp,Act.a.injEq,and_true]at hr;exact Z1M (o trivial) A Q06 y z (f q0.b (by rw[hr,q0.h (o trivial)]) (x _ (H.set _ _)))
  cases e
 cases e
theorem W2w(H:σ.has s){l:LOp}(h:zok σ l=true){K:St->Prop}(a:wop P l K s):zw P l K s:=by
 cases l with
 |bs d c ps f =>
  simp[zok]at h;split at h
  .rename_i e;exact⟨H.n _ e,a⟩
  cases h
 |ap d x y c b =>
  simp[zok]at h;refine⟨?_,a⟩;split at h
  .rename_i k e;split at h
   .rename_i r g;rw[L7 H Q06 e];exact(H.r _ _ g).2
   cases h
  .rename_i e;split at h
   .rename_i j;rw[L7 H Q06 e];exact H.n _ j
   cases h
  cases h
 |mv d x=>exact a|ex d x i=>exact a|bd d z ps=>exact a|ln d x=>exact a|sc d x m o n=>exact a|_=>simp[zok]at h
theorem L1C(H:σ.has s){v:AV}(h:nfr1 σ v=true){k:Nat}(a:k<1000000000)(F:Free k s):v.dead k=v:=by
 cases v with
 |sref j =>
  simp[nfr1]at h;split at h
  .rename_i r e;rw[AV.dead,ye λq=>by subst q;have:=(H.r _ _ e).1;rw[F.rw]at this;cases this]
  cases h
 |rpt j i o =>
  simp[nfr1]at h;split at h
  .rename_i r e;rw[AV.dead,ye λq=>by subst q;have:=(H.r _ _ e).1;rw[F.rw]at this;cases this]
  cases h
 |ptr j o =>
  simp[nfr1]at h;split at h
  .rename_i r e;rw[AV.dead,ye λq=>by subst q;have:=H.b _ _ e;rw[F.bx]at this;cases this]
  have:=Nat.le_of_ble_eq_true h;rw[AV.dead,ye λq=>by omega]
 |agg _=>simp[nfr1]at h|tup _=>simp[nfr1]at h|fn _ _=>simp[nfr1]at h|_=>rfl
theorem Z0Q{k:Nat}:∀{l:List AV},(∀a∈l,a.dead k=a)->U7 k l=l
 |[],_=>rfl|a::l,h=>by rw[U7,h a (yJ ..),Z0Q λb c=>h b (yH _ c)]
theorem W2C(H:σ.has s){v:AV}(h:nfr σ v=true){k:Nat}(b:k<1000000000)(F:Free k s):v.dead k=v:=by cases v with|agg cs =>grind[nfr,List.all_eq_true,AV.dead,Z0Q,L1C]|tup cs =>simp[nfr,List.all_eq_true]at h;rw[AV.dead,Z0Q λa c=>?_];have:=h a c;grind[List.all_eq_true,AV.dead,Z0Q,L1C]|_=>exact L1C H (by simpa only[nfr]using h) b F
theorem L2g{q:Prop}{gs:List (Bool×Bool)}(o:allG gs->q)(H:σ.has s){l:LOp}{h:Option (Hint P q)}{r:Option (Rw q)}{a:LS}{d b:List Act}(e:X2q σ l h r=some (a,gs,d,b,[]))(p:d=hexp h)(n:b=Rw.exp r){K:St->Prop}(t:∀s',a.has s'->K s'):zw P l K s:=by
 unfold X2q at e;split at e
 .grind[W2w,J1w]
 split at e
 .cases e
 rename_i c;split at e
 .rename_i g u y i j x;split at e
  .rename_i v w;split at e
   .rename_i z;cases e;have m:=J1w o H x p n (K:=λs'=>(∀k,k<1000000000->Free k s->(s'.e l.dst).dead k=s'.e l.dst)/\K s') λ_ s' f=>⟨λk A F=>by rw[f.e _ _ w];grind[W2C],t s' f⟩;cases l<;>simp[isQE]at c<;>first|exact m | (simp[isQ1]at c)
   cases e
  cases e
 cases e
theorem X2g:∀{ks:List Nat},bigB ks=true->∀k∈ks,1000000000<=k
 |[],_,k,h=>by cases h|j::ks,h,k,a=>by
  simp only[bigB,yD]at h;rcases yX a with rfl|a
  .exact Nat.le_of_ble_eq_true h.1
  .exact X2g h.2 k a
theorem O2w{q:Prop}{gs:List (Bool×Bool)}(o:allG gs->q)(H:σ.has s){d z:Nat}{xs:List X}{h:Option (Hint P q)}{r:Option (Rw q)}{b:LS}{D F:List Act}(e:zcm σ d z xs h r=some (b,gs,D,F,[]))(u:D=hexp h){K:St->Prop}(S:∀s',b.has s'->K s'):zw P (.cm d z xs) K s:=by
 unfold zcm at e;split at e
 .rename_i f0 a k O Q G C I p f J;split at e
  .split at e
   .rename_i v;simp[]at v;obtain⟨N,M⟩:=v;split at e
    .rename_i bs T;split at e
     .rename_i E i;cases e;simp only[hexp,Hint.exp,yW,Act.w.injEq,and_true]at u;obtain⟨rfl,B,L⟩:=u;have A:=f (o trivial);rw[← B]at A;obtain⟨i,g⟩:=Z1U i;have t:=X0E H Q06 i;have y:=J (o trivial) s.nx;rw[← A]at y;refine⟨a,k,X2g M,Lx N,by rw[← L];grind[Y2d],⟨I,λx R=>?_⟩,_,by
       have:(xs.map λx=>((s.get x).mp (ix a) (ix [])).rdt)=rdtL (mpL (ix a) (ix []) E):=by rw[U5,VN,← t,List.map_map,List.map_map];rfl
       rw[this];exact y,λn1 m j l n _ _ c=>?_⟩
      .rw[← B]at p;have q:=J0u p;rw[Q0i g,← t]at q;grind[Zd,List.mem_map_of_mem]
      obtain⟨rfl,rfl,rfl,rfl⟩:=c;exact⟨rfl,by grind[L1x]⟩
     cases e
    cases e
   cases e
  cases e
 cases e
theorem M2w{q:Prop}{gs:List (Bool×Bool)}(t:allG gs->q)(H:σ.has s){d m:Nat}{xs:List X}{h:Option (Hint P q)}{r:Option (Rw q)}{a:LS}{o p:List Act}(e:zcl σ d m xs h r=some (a,gs,o,p,[]))(b:o=hexp h){K:St->Prop}(v:∀s',a.has s'->K s'):zw P (.cl d m xs) K s:=by
 unfold zcl at e;split at e
 .rename_i f0 y z c rows j k;split at e
  .split at e
   .rename_i g;split at e
    .rename_i f;split at e
     .rename_i A w;split at e
      .rename_i C x;split at e
       .rename_i B;cases e;have k:=k (t trivial);simp[hexp,Hint.exp,Act.n.injEq,Act.l.injEq,and_true]at b;obtain⟨rfl,b⟩:=b;simp only[yD]at g;exact⟨_,V1J H Q06 w x,c,rows,k.aes j b,Nat.le_of_ble_eq_true g.1,by grind[M1X],λi u=>H.n _ (M29 g.2 i u),Nat.le_of_ble_eq_true f,v _ (H.addRows.set d _)⟩
       cases e
      cases e
     cases e
    cases e
   cases e
  cases e
 cases e
theorem O1R{q:Prop}{gs:List (Bool×Bool)}(g:allG gs->q)(H:σ.has s){l:LOp}{h:Option (Hint P q)}{r:Option (Rw q)}{a:LS}{c b:List Act}(e:zone σ l h r=some (a,gs,c,b,[]))(i:c=hexp h)(k:b=Rw.exp r){K:St->Prop}(j:∀s',a.has s'->K s'):zw P l K s:=by cases l with|cm d f xs=>exact O2w g H e i j|cl d f xs =>grind[zone,M2w]|_=>exact by grind[L2g,zone]
theorem O1J{x:HA}{r:RR P}{a:LS}{r':List (HE P)}{d:List HA}{c:List Nat}(h:zcon x r=some (a,r',d,c)):∃b,r=some (a,r',b,c)/\d=x::b:=by unfold zcon at h;grind
theorem Y0u{c:Zc}{ow:List Nat}:∀{p:List (Bool×LOp)}{n j:List (HE P)}{k i:LS}{o:List HA}{m:List Nat}{s:St},k.has s->runz c ow p n k=some (i,j,o,m) -> ∀{a:List HA},o++a=n.map HE.exp->∀{K:St->Prop},(a=j.map HE.exp->X0C m->∀s',i.has s'->K s')->ZK P c ow p K s
 |[],n,j,k,i,o,m,s,H,e,a,he,K,hK=>by simp only[runz]at e;cases e;exact hK he trivial s H| (f,l)::p,n,j,k,i,o,m,s,H,e,a,he,K,hK=>by
  simp[runz]at e;unfold Q2w at e;cases f with
  |true =>
   simp only at e;rw[Y2q];split at e
   .split at e
    .rename_i b gs d;exact O1R (by simp) H d rfl rfl λs' g=>Y0u g e he hK
    .cases e
   .rename_i q r;split at e
    .split at e
     .rename_i b gs a y d;obtain⟨x,w,rfl⟩:=O1J e;simp[List.map_cons,List.cons_append,HE.exp,Prod.mk.injEq]at he;obtain⟨⟨z,v,u⟩,t⟩:=he;exact O1R (by grind) H d v u λs' g=>Y0u g w t hK
     .cases e
    .split at e
     .rename_i b gs d;exact O1R (by simp) H d rfl rfl λs' g=>Y0u g e he hK
     .cases e
  |false =>
   simp only at e;split at e
   .split at e
    .rename_i b gs d;exact Z28 (by simp) H d rfl rfl (λh=>h) λs' g=>Y0u g e he hK
    .cases e
   .rename_i q r;split at e
    .split at e
     .rename_i b gs a y d;obtain⟨x,w,rfl⟩:=O1J e;simp[List.map_cons,List.cons_append,HE.exp,Prod.mk.injEq]at he;obtain⟨⟨z,v,u⟩,t⟩:=he;exact Z28 (by grind) H d v u (λh=>h) λs' g=>Y0u g w t hK
     .cases e
    .split at e
     .rename_i b gs d;exact Z28 (by simp) H d rfl rfl (λh=>h) λs' g=>Y0u g e he hK
     .cases e
theorem LS.has.alZ:∀{als:List ZA}{a:LS}{s:St},a.has s->(a.alZ als).has (Eng.alZ s als)
 |[],_,_,H=>H| (i,d,z)::r,a,s,H=>by rw[J2k];exact LS.has.alZ (als:=r) ((H.box d z).set d (.ptr d 0))
end
def xit(id:Nat):List It->Option (List It)
 |[]=>none|.mk id'::k=>match Nat.beq id' id with
  |true=>some k
  |false=>xit id k
 |.l _::k=>xit id k|.lp _ _::k=>xit id k|.jn _::k=>xit id k
def stp{P:Program}(k:List It)(σ:LS)(hs:List (HE P)):Option (List It×LS×List HA×List Nat):=match hs with
 |[]=>some (k,σ,[],[])
 |_::_=>none
def thn(as:List HA)(ns:List Nat)(r:Option (List It×LS×List HA×List Nat)):Option (List It×LS×List HA×List Nat):=match r with
 |some (k,σ,as2,ns2)=>some (k,σ,as++as2,ns++ns2)
 |none=>none
def go{P:Program}:Nat->List It->LS->List (HE P)->Option (List It×LS×List HA×List Nat)
 |0,k,σ,hs=>stp k σ hs|n+1,k,σ,hs=>match k with
  |.mk _::k=>go n k σ hs
  |.l c::k'=>match c with
   |.skip=>go n k' σ hs
   |.seq x y=>go n (.l x::.l y::k') σ hs
   |.blk id x=>go n (.l x::.mk id::k') σ hs
   |.scope x=>go n (.l x::k') σ hs
   |.exit id=>match xit id k' with
    |some k2=>go n k2 σ hs
    |none=>none
   |.reg ls=>match run ls hs σ with
    |some (σ1,r,as,ns)=>thn as ns (go n k' σ1 r)
    |none=>none
   |.rq m ls=>match runq (ls.take m) hs [] (σ.kills (alKeys (ls.take m)))with
    |some (σ0,r0,as0,ns0)=>match run (ls.drop m) r0 σ0 with
     |some (σ1,r,as,ns)=>thn as0 ns0 (thn as ns (go n k' σ1 r))
     |none=>none
    |none=>none
   |.ro ow als items tl=>match runz (zcOf (items.map Prod.snd)) ow (items.map Prod.snd) hs (σ.kills (als.map (·.2.1)))with
    |some (σ0,r0,as0,ns0)=>match ptrs σ0 ow with
     |true=>match run tl r0 (σ0.alZ als)with
      |some (σ1,r,as,ns)=>thn as0 ns0 (thn as ns (go n k' σ1 r))
      |none=>none
     |false=>none
    |none=>none
   |.rz als items tl=>match runz (zcOf (items.map Prod.snd)) [] (items.map Prod.snd) hs (σ.kills (als.map (·.2.1)))with
    |some (σ0,r0,as0,ns0)=>match run tl r0 (σ0.alZ als)with
     |some (σ1,r,as,ns)=>thn as0 ns0 (thn as ns (go n k' σ1 r))
     |none=>none
    |none=>none
   |_=>stp k σ hs
  |_=>stp k σ hs
def Vh(P:Program)(R:Ex->St->Prop)(k:List It)(σ:LS):Prop:=∀s,σ.has s->W P R k s
section
variable{P:Program}{R:Ex->St->Prop}{k:List It}{σ:LS}
theorem M1J{b:Nat}{s:St}:∀{k a:List It},xit b k=some a->W P R a s->denK P R k (.ext b) s
 |[],_,h,_=>by cases h|.mk id'::k,a,h,hw=>by
  rw[X1U];simp[xit]at h;split at h
  .rename_i e;cases h;rw[yd (yR e).symm];exact hw
  .rename_i e;rw[ye (λq=>by subst q;simp at e)];exact M1J h hw
 |.l c::k,a,h,hw=>M1J (k:=k) h hw|.lp I m::k,a,h,hw=>M1J (k:=k) h hw|.jn J::k,a,h,hw=>M1J (k:=k) h hw
theorem O0h{g:List HA}{f:List Nat}{r:Option (List It×LS×List HA×List Nat)}{k:List It}{e:LS}{c:List HA}{a:List Nat}(h:thn g f r=some (k,e,c,a)) : ∃d b,r=some (k,e,d,b)/\c=g++d/\a=f++b:=by unfold thn at h;grind
theorem X1W{k:List It}{b:LS}{e:List (HE P)}{c:List It}{a:LS}{f:List HA}{d:List Nat}(h:stp k b e=some (c,a,f,d)):k=c/\b=a:=by unfold stp at h;grind
theorem U1l:∀{n:Nat}{k L:List It}{D a:LS}{M:List (HE P)}{Q:List HA}{v:List Nat},go n k D M=some (L,a,Q,v)->Q=M.map HE.exp->(X0C v->Vh P R L a)->Vh P R k D
 |0,k,L,D,a,M,Q,v,e,he,h=>by
  have z:v=[]:=by simp[go,stp]at e;split at e<;>cases e<;>rfl
  obtain⟨rfl,rfl⟩:=X1W e;exact h (by rw[z];trivial)
 |n+1,k,L,D,a,M,Q,v,e,he,h=>by
  have S:stp k D M=some (L,a,Q,v)->Vh P R k D:=by
   intro e;have z:v=[]:=by simp[stp]at e;split at e<;>cases e<;>rfl
   obtain⟨rfl,rfl⟩:=X1W e;exact h (by rw[z];trivial)
  cases k with
  |nil=>exact S e|cons i W =>
   cases i with
   |lp I m=>exact S e|jn J=>exact S e|mk X=>exact λs H=>U1l (n:=n) (k:=W) e he h s H|l c =>
    cases c with
    |skip=>exact λs H=>U1l (n:=n) (k:=W) e he h s H|seq x y=>exact λs H=>by rw[W_seq];exact U1l (n:=n) e he h s H|blk X x=>exact λs H=>by rw[W_blk];exact U1l (n:=n) e he h s H|scope x=>exact λs H=>by rw[Y2w];exact U1l (n:=n) e he h s H|exit X =>
     simp[go]at e;split at e
     .rename_i k2 e2;exact λs H=>by rw[Q2F];exact M1J e2 (U1l (n:=n) e he h s H)
     .cases e
    |reg Z =>
     simp[go]at e;split at e
     .rename_i o r B t A;obtain⟨C,u,q,rfl,rfl⟩:=O0h e;intro s H;rw[W_reg];exact W1w H A he λp T s' j=>U1l q p (by grind[LV]) s' j
     .cases e
    |rq m Z =>
     simp[go]at e;split at e
     .rename_i E U O K N;split at e
      .rename_i o r B t A;obtain⟨C,u,q,rfl,rfl⟩:=O0h e;obtain⟨g,f,F,rfl,rfl⟩:=O0h q;intro s H;rw[W_rq];exact X1B (acc:=[]) (pa:=[]) H.kills trivial N he λp T s' j=>W1w j A p λG V b d=>U1l F G (by grind[LV]) b d
      .cases e
     .cases e
    |ro ow als w Y =>
     simp[go]at e;split at e
     .rename_i E U O K N;split at e
      .rename_i hp;split at e
       .rename_i o r B t A;obtain⟨C,u,q,rfl,rfl⟩:=O0h e;obtain⟨g,f,F,rfl,rfl⟩:=O0h q;intro s H;rw[W_ro];exact Y0u H.kills N he λp T s' j=>⟨X28 j hp,W1w j.alZ A p λG V b d=>U1l F G (by grind[LV]) b d⟩
       .cases e
      .cases e
     .cases e
    |rz als w Y =>
     simp[go]at e;split at e
     .rename_i E U O K N;split at e
      .rename_i o r B t A;obtain⟨C,u,q,rfl,rfl⟩:=O0h e;obtain⟨g,f,F,rfl,rfl⟩:=O0h q;intro s H;rw[W_rz];exact Y0u H.kills N he λp T s' j=>W1w j.alZ A p λG V b d=>U1l F G (by grind[LV]) b d
      .cases e
     .cases e
    |_=>exact S e
def goK(n:Nat)(k:List It)(σ:LS)(hs:List (HE P)):List It:=match go n k σ hs with
 |some (k',_,_,_)=>k'
 |none=>[]
def goS(n:Nat)(k:List It)(σ:LS)(hs:List (HE P)):LS:=match go n k σ hs with
 |some (_,σ',_,_)=>σ'
 |none=>σ
def goE(n:Nat)(k:List It)(σ:LS)(hs:List (HE P)):Option (List HA×List Nat):=match go n k σ hs with
 |some (_,_,as,ns)=>some (as,ns)
 |none=>none
theorem Vh_go(n:Nat)(a:List (HE P))(e:goE n k σ a=some (a.map HE.exp,a.flatMap HE.ns))(h:X0C (a.flatMap HE.ns)->Vh P R (goK n k σ a) (goS n k σ a)):Vh P R k σ:=by
 unfold goE at e;split at e
 .rename_i f b g d c;cases e;refine U1l c rfl λq=>?_;have:=h q;grind[goK,goS]
 cases e
def cnB(k:List It)(σ:LS):Option Bool:=match k with
 |.l (.cond c _ _)::_=>match gt [] σ c with
  |some (.bool b)=>some b
  |_=>none
 |_=>none
def cnT:List It->List It
 |.l (.cond _ x _)::k=>.l x::k|_=>[]
def cnF:List It->List It
 |.l (.cond _ _ y)::k=>.l y::k|_=>[]
theorem X2w{b:Bool}(e:cnB k σ=some b)(d:b=true->Vh P R (cnT k) σ)(a:b=false->Vh P R (cnF k) σ):Vh P R k σ:=by
 unfold cnB at e;split at e
 .rename_i c x y g;split at e
  .rename_i h f;cases e;intro s H;rw[W2F,L7 H Q06 f];exact⟨λq=>d q s H,λq=>a q s H⟩
  cases e
 cases e
theorem J2F{b:Bool}(a:b=true)(e:cnB k σ=some b)(c:Vh P R (cnT k) σ):Vh P R k σ:=by grind[X2w]
theorem Z2G{b:Bool}(a:b=false)(e:cnB k σ=some b)(c:Vh P R (cnF k) σ):Vh P R k σ:=by grind[X2w]
def nrH:Hn->Bool
 |.r=>false|.l hs=>hs.all λh=>match h with | .r=>false | .l _=>false|_=>true
 |_=>true
def gwT(fb fr:Nat->Option Nat)(zr:Nat->Bool)(rr:Nat->Option Row)(te:List (Nat×AV)):List (Nat×Hn)->Option (List (Nat×AV))
 |[]=>some []| (i,h)::l=>match lk te i with
   |some v=>match nrH h with
     |true=>match gwT fb fr zr rr te l with
       |some r=>some ((i,cvt2 fb fr zr rr h v)::r)
       |none=>none
     |false=>none
   |none=>none
def gwB(fb fr:Nat->Option Nat)(zr:Nat->Bool)(rr:Nat->Option Row)(tb:List (Nat×List AV)):List (Nat×List Hn)->Option (List (Nat×List AV))
 |[]=>some []| (i,hs)::l=>match lk tb i with
   |some v=>match nrH (.l hs)with
     |true=>match gwB fb fr zr rr tb l with
       |some r=>some ((i,cvt1L fb fr zr rr hs v)::r)
       |none=>none
     |false=>none
   |none=>none
def gwR(gb:List (Nat×List Hn))(tr:List (Nat×Row)):List (Nat×Option Nat×Nat)->Option (List (Nat×Row))
 |[]=>some []| (k,o,sz)::l=>match lk gb k with
   |some _=>none
   |none=>match gwR gb tr l with
     |some rs=>match o with
       |none=>some ((k,⟨sz,[],false⟩)::rs)
       |some k0=>match lk tr k0 with
         |some r=>some ((k,r)::rs)
         |none=>none
     |none=>none
def shsR(ks:List Nat):List (Nat×Row)->List (Nat×Row)
 |[]=>[]| (k,r)::l=>match inL k ks with
   |true=>(k,⟨r.sz,r.es,true⟩)::shsR ks l
   |false=>(k,r)::shsR ks l
def LS.shs(σ:LS)(ks:List Nat):LS:={ σ with tr:=shsR ks σ.tr }
def LS.rr(σ:LS)(ks:List Nat)(k:Nat):Option Row:=match inL k ks with
 |true=>lk (shsR ks σ.tr) k
 |false=>none
theorem U1S{ks:List Nat}:∀{l:List (Nat×Row)}{k:Nat}{r:Row},lk (shsR ks l) k=some r->∃a,lk l k=some a/\r=(match inL k ks with|true=>{ a with sh:=true }|false=>a)
 |[],_,_,h=>by cases h| (j,q)::l,k,r,h=>by
  simp[shsR]at h;split at h
  .rename_i e;simp[lk]at h ⊢;split at h
   .simp_all
   .exact U1S h
  .rename_i e;simp[lk]at h ⊢;split at h
   .simp_all
   .exact U1S h
theorem LS.has.shs{s:St}(H:σ.has s)(ks:List Nat):(σ.shs ks).has (s.shs ks):=by refine⟨H.e,H.g,H.b,λk r h=>?_,H.n⟩;obtain⟨a,c,rfl⟩:=U1S h;refine⟨?_,(H.r k a c).2⟩;simp[St.shs,(H.r k a c).1];split<;>rename_i e<;>simp[e]
def fzOk(σ:LS):List Nat->Bool
 |[]=>true|k::ks=>match lk σ.tr k with
  |some _=>fzOk σ ks
  |none=>false
theorem X2d:∀{ks:List Nat},fzOk σ ks=true->∀{k:Nat},inL k ks=true->∃r,lk σ.tr k=some r
 |[],_,k,h=>by cases h|j::ks,h,k,hk=>by
  simp[fzOk]at h;split at h
  .rename_i r e;simp[inL]at hk;split at hk
   .rename_i a;rw[yR a];exact⟨r,e⟩
   .exact X2d h hk
  .cases h
theorem Y1L{ks:List Nat}:∀{l:List (Nat×Row)}{k:Nat}{r:Row},lk l k=some r->∃r',lk (shsR ks l) k=some r'
 |[],_,_,h=>by cases h| (j,q)::l,k,r,h=>by
  simp[lk]at h;simp[shsR];split at h
  .grind[lk]
  .rename_i b;obtain⟨r',a⟩:=Y1L (ks:=ks) h;split<;>exact(by grind[lk])
theorem rr_eq{s:St}(H:σ.has s){ks:List Nat}(d:fzOk σ ks=true):σ.rr ks=(s.shs ks).rr ks:=by
 funext k;unfold LS.rr St.rr;split
 .rename_i b;obtain⟨r,c⟩:=X2d d b;obtain⟨r',a⟩:=Y1L (ks:=ks) c;simp[b,a,((H.shs ks).r k r' a).1]
 grind
def LS.gw(σ:LS)(G:GW):Option LS:=match G.ok&&fzOk σ G.fz with
 |true=>match gwT G.fb G.fr G.zr (σ.rr G.fz) σ.te G.te with
  |some te=>match gwB G.fb G.fr G.zr (σ.rr G.fz) σ.tb G.tb with
   |some tb=>match gwR G.tb (σ.shs G.fz).tr G.tr with
    |some tr=>some ⟨te,[],tb,tr⟩
    |none=>none
   |none=>none
  |none=>none
 |false=>none
def gwTo(s:St)(σ:LS):Prop:=∃G:GW,G.ok=true/\nooT s G.te/\nooB s G.tb/\σ.has (s.gw G)
theorem U29{b:List Hn}(h:(b.all λh=>match h with | .r=>false | .l _=>false|_=>true)=true):∀l,nooL b l:=by induction b with|nil=>intro l;cases l<;>trivial|cons x b c =>intro l;simp only[List.all_cons,yD]at h;cases l with|nil=>cases x<;>trivial|cons a l=>cases x<;>first|exact c h.2 l | (simp at h)
theorem X2C{h:Hn}(b:nrH h=true)(a:AV):noo h a:=by
 cases h with
 |r=>cases b|l c=>cases a<;>first|trivial|exact U29 b _
 |_=>cases a<;>trivial
theorem O2c{fb fr:Nat->Option Nat}{a:Nat->Bool}{rr:Nat->Option Row}{te:List (Nat×AV)}{s:St}(c:∀t v,lk te t=some v->s.e t=v):∀{l:List (Nat×Hn)}{r:List (Nat×AV)},gwT fb fr a rr te l=some r -> nooT s l/\∀i v,lk r i=some v->∃h,lk l i=some h/\v=cvt2 fb fr a rr h (s.e i)
 |[],r,e=>by cases e;exact⟨trivial,by intro i v h;cases h⟩| (j,h)::l,r,e=>by
  simp[gwT]at e;split at e
  .rename_i u eu;split at e
   .rename_i hn;split at e
    .rename_i r' er;cases e;obtain⟨b,q2⟩:=O2c c er;refine⟨⟨X2C hn _,b⟩,λi v hi=>?_⟩;grind[lk,yR]
    .cases e
   .cases e
  .cases e
theorem M2c{fb fr:Nat->Option Nat}{a:Nat->Bool}{rr:Nat->Option Row}{tb:List (Nat×List AV)}{s:St}(b:∀k cs,lk tb k=some cs->s.bx k=some cs):∀{l:List (Nat×List Hn)}{r:List (Nat×List AV)},gwB fb fr a rr tb l=some r -> nooB s l/\∀i v,lk r i=some v->∃h,lk l i=some h/\(s.bx i).map (cvt1L fb fr a rr h)=some v
 |[],r,e=>by cases e;exact⟨trivial,by intro i v h;cases h⟩| (j,h)::l,r,e=>by
  simp[gwB]at e;split at e
  .rename_i u f;split at e
   .rename_i d;split at e
    .rename_i r' g;cases e;obtain⟨c,m⟩:=M2c b g;refine⟨⟨by rw[b _ _ f];exact U29 d _,c⟩,λi v n=>?_⟩;grind[lk,yR]
    .cases e
   .cases e
  .cases e
theorem M1Z{fb fr:Nat->Option Nat}{a:Nat->Bool}{rr:Nat->Option Row}{tb:List (Nat×List AV)}:∀{l:List (Nat×List Hn)}{r:List (Nat×List AV)},gwB fb fr a rr tb l=some r->∀{i:Nat}{h:List Hn},lk l i=some h->lk r i≠none
 |[],_,_,_,_,h=>by cases h| (j,hs)::l,r,e,i,h,hl=>by
  simp[gwB]at e;split at e
  .split at e
   .split at e
    .rename_i r' b;cases e;simp[lk]at hl ⊢;split at hl
     .simp
     .exact M1Z b hl
    .cases e
   .cases e
  .cases e
theorem Z2o{n:List (Nat×List Hn)}{f:List (Nat×Row)}{s:St}(g:∀k r,lk f k=some r->s.rw k=some r/\s.bx k=none):∀{l:List (Nat×Option Nat×Nat)}{r:List (Nat×Row)},gwR n f l=some r -> ∀i v,lk r i=some v->lk n i=none/\∃o b,lk l i=some (o,b)/\(match o with|some c=>s.rw c=some v|none=>v=⟨b,[],false⟩)
 |[],r,e=>by cases e;intro i v h;cases h| (j,o,b)::l,r,e=>by
  simp[gwR]at e;split at e
  .cases e
  .rename_i m;split at e
   .rename_i u p;have q:=Z2o g p;intro i v a;split at e
    .cases e;simp[lk]at a ⊢;split at a
     .rename_i d;have:=yR d;subst this;cases a;exact⟨m,none,b,by simp,rfl⟩
     .exact q i v a
    .rename_i c;split at e
     .rename_i w t;cases e;simp[lk]at a ⊢;split at a
      .rename_i d;have:=yR d;subst this;cases a;exact⟨m,some c,b,by simp,(g _ _ t).1⟩
      .exact q i v a
     .cases e
   .cases e
theorem O23{a:LS}{G:GW}{s:St}(H:σ.has s)(h:σ.gw G=some a):gwTo s a:=by
 unfold LS.gw at h;split at h
 .rename_i d;simp[]at d;rw[rr_eq H d.2]at h;split at h
  .rename_i te i;split at h
   .rename_i tb g;split at h
    .rename_i l j;cases h;have f:=H.shs G.fz;obtain⟨w,u⟩:=O2c f.e i;obtain⟨q,p⟩:=M2c f.b g;have c:=Z2o f.r j;refine⟨G,d.1,(O2c (te:=σ.te) (s:=s) H.e i).1,(M2c (tb:=σ.tb) (s:=s) H.b g).1,λt v m=>?_,by simp,λk cs o=>?_,λk r n=>?_,λk d=>?_⟩
     .grind[St.gw,St.gw0]
     .grind[St.gw,St.gw0]
     .grind[St.gw,St.gw0]
     grind[St.gw,St.gw0,absurd,M1Z]
    cases h
   cases h
  cases h
 cases h
def Vg(P:Program)(R:Ex->St->Prop)(k:List It)(σ:LS):Prop:=∀s,gwTo s σ->W P R k s
theorem Vh_nx{b:List It}{a:LS}(h:Vg P R b a)(G:GW)(c:k=b)(e:σ.gw G=some a):Vh P R k σ:=λs H=>c ▸ h s (O23 H e)
def isG:List It->Bool
 |.l (.gw _)::_=>true|_=>false
def gwX:List It->List It
 |.l (.gw x)::k=>.l x::k|_=>[]
theorem Vg_of{a:LS}(e:isG k=true)(h:Vh P R (gwX k) a):Vg P R k a:=by
 unfold isG at e;split at e
 .rename_i x g;rintro s ⟨G,f,d,c,b⟩;exact W_gw G f d c (h _ b)
 cases e
def sfx:Nat->List It->List It
 |_,[]=>[]|n,.l (.gw x)::k=>match n with
  |0=>.l (.gw x)::k
  |n+1=>sfx n k
 |n,_::k=>sfx n k
def rgl{α β γ:Type}(bd:α->Nat->β->(β->Option γ)->Option γ)(kk:β->Option γ):List α->Nat->β->Option γ
 |[],_,b=>kk b|x::xs,i,b=>bd x i b (rgl bd kk xs (i+1))
def whl{β γ:Type}(bd:β->(β->Option γ)->Option γ):Nat->β->Option γ
 |0,_=>none|n+1,b=>bd b (whl bd n)
def isLp:List It->Bool
 |.l (.loop (.gw _))::_=>true|_=>false
def lpX:List It->L
 |.l (.loop (.gw x))::_=>x|_=>.skip
def lpK:List It->List It
 |_::k=>k|[]=>[]
theorem O2h{α a c:Type}{bd:α->Nat->a->(a->Option c)->Option c}{kk:a->Option c}{l:List α}{i:Nat}{b:a}{x:α}(h:l[i]?=some x):rgl bd kk (l.drop i) i b=bd x i b (rgl bd kk (l.drop (i+1)) (i+1)):=by obtain⟨d,rfl⟩:=yB h;rw[List.drop_eq_getElem_cons d,rgl]
theorem M2F{α c e:Type}{bd:α->Nat->c->(c->Option e)->Option e}{kk:c->Option e}{l:List α}{n:c}{r:e}(a:Nat->c->LS)(G:GW)(j:isLp k=true)(z:σ.gw G=some (a 0 n))(H:rgl bd kk l 0 n=some r)(v:∀i x b I m,l[i]?=some x->i<l.length->bd x i b (rgl bd kk (l.drop (i+1)) (i+1))=some r -> (∀f,rgl bd kk (l.drop (i+1)) (i+1) f=some r->Vg P R (.lp I m::lpK k) (a (i+1) f))->Vh P R (.l (lpX k)::.lp I m::lpK k) (a i b))(y:∀b I m,kk b=some r->Vh P R (.l (lpX k)::.lp I m::lpK k) (a l.length b)):Vh P R k σ:=by
 unfold isLp at j;split at j
 .rename_i x D;intro s A;apply J2p (λm s=>∃i b,m=l.length-i/\i<=l.length/\rgl bd kk (l.drop i) i b=some r/\gwTo s (a i b)) l.length ⟨0,n,by simp,by simp,by simpa using H,O23 A z⟩;rintro m s' ⟨i,b,rfl,E,h,B,u,t,q,o⟩;apply W_gw B u t q;by_cases d:i<l.length
  .have p:l[i]?=some l[i]:=by simp
   exact  v i _ b _ _ p d ((O2h p).symm.trans h) (λf g C w=>⟨l.length-(i+1),by omega,i+1,f,rfl,d,g,w⟩) _ o
  have:i=l.length:=by omega
  subst this;rw[List.drop_length,rgl]at h;exact y b _ _ h _ o
 cases j
theorem O2F{c e:Type}{bd:c->(c->Option e)->Option e}{i:c}{n:Nat}{r:e}(a:c->LS)(G:GW)(g:isLp k=true)(z:σ.gw G=some (a i))(H:whl bd n i=some r)(t:∀n b I m,bd b (whl bd n)=some r->(∀d,whl bd n d=some r->Vg P R (.lp I m::lpK k) (a d))->Vh P R (.l (lpX k)::.lp I m::lpK k) (a b)):Vh P R k σ:=by
 unfold isLp at g;split at g
 .rename_i x y;intro s A;apply J2p (λm s=>∃b,whl bd m b=some r/\gwTo s (a b)) n (by grind[O23]);rintro m s' ⟨b,h,v,q,p,o,j⟩;apply W_gw v q p o;cases m with|zero=>simp[whl]at h|succ m=>exact t m b _ _ h (λd f w u=>⟨m,by omega,d,f,u⟩) _ j
 cases g
def rvL(σ:LS):List Rv->Option (List AV)
 |[]=>some []|r::rs=>match(match r with | .t i=>lk σ.te i | .c i n ag=>match lk σ.te i with|some p=>ldv σ p n ag|none=>none)with
  |some v=>match rvL σ rs with
   |some l=>some (v::l)
   |none=>none
  |none=>none
def nth{α:Type}:List α->Nat->Option α
 |[],_=>none|a::l,n=>match n with
  |0=>some a
  |n+1=>nth l n
def mr1(ks:List (Option Nat)):AV->AV->AV
 |.nl,.sref i=>match nth ks i with
  |some none=>.sref i
  |_=>.nl
 |.nl,.sl t sz es=>match es with
  |[]=>match t.isOwn with
   |true=>.nl
   |false=>.sl t sz []
  |_=>.nl
 |a,_=>a
def mr1L(ks:List (Option Nat)):List AV->List AV->List AV
 |a::l,b::m=>mr1 ks a b::mr1L ks l m|l,_=>l
def mrA(ks:List (Option Nat)):AV->AV->AV
 |.agg cs,.agg ds=>.agg (mr1L ks cs ds)|a,b=>mr1 ks a b
def mrAL(ks:List (Option Nat)):List AV->List AV->List AV
 |a::l,b::m=>mrA ks a b::mrAL ks l m|l,_=>l
def mrW(ks:List (Option Nat)):AV->AV->AV
 |.tup cs,.tup ds=>.tup (mrAL ks cs ds)|a,b=>mrA ks a b
structure NW where
 es:List AV
 h:NwL es
mutual
def nwC:AV->Option (List (List AV))
 |.sl t _ es=>match t with
  |.nw=>some [es]
  |.rd=>match es with
   |[]=>some []
   |_=>none
  |.own _=>none
 |.agg cs=>nwCL cs
 |.tup cs=>nwCL cs
 |.fn _ cs=>nwCL cs
 |.od _ _ _=>none
 |.op _ _ _=>none
 |.ept _ _=>none
 |.eot _ _=>none
 |_=>some []
def nwCL:List AV->Option (List (List AV))
 |[]=>some []
 |a::l=>match nwC a with
  |some x=>match nwCL l with
   |some y=>some (x++y)
   |none=>none
  |none=>none
end
def rwC(σ:LS):List (Option Nat)->List Row->Option (List Row×List (List AV))
 |[],[]=>some ([],[])|some k::ks,_::rs=>match lk σ.tr k with
  |some r=>match r.sh with
   |false=>match rwC σ ks rs with
    |some (a,b)=>some (⟨r.sz,r.es,false⟩::a,r.es::b)
    |none=>none
   |true=>none
  |none=>none
 |none::ks,r::rs=>match rwC σ ks rs with
  |some (a,b)=>some (⟨r.sz,[],r.sh⟩::a,b)
  |none=>none
 |_,_=>none
def retE(rs:List Rv)(ks:List (Option Nat))(σ:LS)(res:AV)(rows:List Row):Option (AV×List Row×List (List AV)):=match rvL σ rs with
 |some l=>match nwC (O1c l)with
  |some x=>match rwC σ ks rows with
   |some (a,b)=>match U0a (Q0W ks)with
    |true=>some (mrW ks ((O1c l).out ks) res,a,x++b)
    |false=>none
   |none=>none
  |none=>none
 |none=>none
theorem U27{s:St}(H:σ.has s):∀{a:List Rv}{l:List AV},rvL σ a=some l->s.rvs a=some l
 |[],l,h=>by cases h;rfl|r::a,l,h=>by
  simp[rvL]at h;split at h
  .rename_i v e;split at h
   .rename_i g d;cases h;have:s.rv1 r=some v:=by
     cases r with
     |t i=>simp only at e;simp[St.rv1,H.e _ _ e]|c i n j =>
      simp only at e;split at e
      .rename_i p f;simp[St.rv1,H.e _ _ f];unfold ldv at e;split at e
       .exact e
       .exact e
       .split at e
        .rename_i cs d;simp[H.b _ _ d];exact e
        .cases e
       .cases e
      .cases e
    simp only[St.rvs,this,U27 H d]
   .cases h
  .cases h
theorem Z2n{α:Type}:∀{l:List α}{i:Nat}{x:α},nth l i=some x->l[i]?=some x
 |[],_,_,h=>by cases h|a::l,0,x,h=>by grind[nth]|a::l,i+1,x,h=>by simpa using Z2n (l:=l) (i:=i) h
theorem Q2n{ks:List (Option Nat)}{a b:AV}(h:mr1 ks a b=b):AV.wk1 (λi=>ks[i]?=some none) a b:=by
 unfold mr1 at h;split at h
 .split at h
  .simp_all[Z2n]
  cases h
 .split at h
  .split at h
   .cases h
   simp_all
  cases h
 subst h;simp
theorem Q2a{ks:List (Option Nat)}:∀{l m:List AV},mr1L ks l m=m->wkLs (AV.wk1 λi=>ks[i]?=some none) l m
 |[],m,h=>by simp[mr1L]at h;subst h;trivial|a::l,[],h=>by simp[mr1L]at h|a::l,b::m,h=>by simp[mr1L]at h;exact⟨Q2n h.1,Q2a h.2⟩
theorem U2n{ks:List (Option Nat)}{a b:AV}(h:mrA ks a b=b):AV.wkA (λi=>ks[i]?=some none) a b:=by
 unfold mrA at h;split at h
 .simp_all[AV.agg.injEq,Q2a]
 rename_i c;have:=Q2n h;cases a<;>cases b<;>first|exact this|grind
theorem U2a{ks:List (Option Nat)}:∀{l m:List AV},mrAL ks l m=m->wkLs (AV.wkA λi=>ks[i]?=some none) l m
 |[],m,h=>by simp[mrAL]at h;subst h;trivial|a::l,[],h=>by simp[mrAL]at h|a::l,b::m,h=>by simp[mrAL]at h;exact⟨U2n h.1,U2a h.2⟩
theorem O2C{ks:List (Option Nat)}{a b:AV}(h:mrW ks a b=b):AV.wk (λi=>ks[i]?=some none) a b:=by
 unfold mrW at h;split at h
 .simp_all[AV.tup.injEq,U2a]
 rename_i c;have:=U2n h;cases a<;>cases b<;>first|exact this|grind
mutual
theorem J2m:∀{a:AV} {x:List (List AV)},nwC a=some x->(∀es∈x,NwL es)->Nw a
 |.sl t sz es,x,h,hx=>by
  simp only[nwC]at h
  split at h
  .cases h;exact .inr ⟨rfl,hx _ (yJ ..)⟩
  .split at h
   .exact .inl ⟨rfl,rfl⟩
   .cases h
  .cases h
 |.agg cs,x,h,hx | .tup cs,x,h,hx | .fn _ cs,x,h,hx=>by rw[Nw];exact Z29 (by simpa only[nwC]using h) hx
 |.ept _ _,x,h,_ | .eot _ _,x,h,_ | .od _ _ _,x,h,_ | .op _ _ _,x,h,_=>by simp[nwC]at h
 |.bool _,_,_,_ | .int _ _,_,_,_ | .str _,_,_,_ | .nl,_,_,_ | .el,_,_,_ | .sref _,_,_,_ | .ptr _ _,_,_,_ | .rpt _ _ _,_,_,_ | .und,_,_,_ | .bad,_,_,_=>by simp[Nw]
theorem Z29:∀{l:List AV} {x:List (List AV)},nwCL l=some x->(∀es∈x,NwL es)->NwL l
 |[],_,_,_=>trivial
 |a::l,x,h,hx=>by
  simp only[nwCL]at h
  split at h
  .rename_i y e
   split at h
   .rename_i z e2
    cases h
    exact⟨J2m e λes he=>hx es (List.mem_append.2 (.inl he)),Z29 e2 λes he=>hx es (List.mem_append.2 (.inr he))⟩
   .cases h
  .cases h
end
theorem V27{s:St}(H:σ.has s):∀{ks:List (Option Nat)}{rows:List Row}{b:List (List AV)},rwC σ ks rows=some (rows,b)->(∀es∈b,NwL es)->Q0D s ks rows
 |[],[],_,_,_=>trivial|some k::ks,r::rs,b,h,hb=>by
  simp[rwC]at h;split at h
  .rename_i g e;split at h
   .rename_i c;split at h
    .rename_i a l f;simp[Prod.mk.injEq]at h;obtain⟨⟨d,rfl⟩,rfl⟩:=h;have i:g=r:=by rw[← d];cases g;grind
     subst i;exact⟨(H.r _ _ e).1,c,by grind,V27 H f λes j=>hb es (yH _ j)⟩
    .cases h
   .cases h
  .cases h
 |none::ks,r::rs,b,h,hb=>by
  simp[rwC]at h;split at h
  .rename_i a l f;simp[Prod.mk.injEq]at h;obtain⟨⟨d,rfl⟩,rfl⟩:=h;exact⟨by rw[← d],V27 H f hb⟩
  .cases h
 |[],_::_,_,h,_=>by simp[rwC]at h|some _::_,[],_,h,_=>by simp[rwC]at h|none::_,[],_,h,_=>by simp[rwC]at h
def U2D:List It->Option Ex
 |[]=>some .nrm|.l .ret::_=>some .ret|_=>none
theorem Z0C{s:St}:∀{k:List It},denK P R k .ret s=R .ret s
 |[]=>rfl|.l _::k=>Z0C (k:=k)|.mk _::k=>Z0C (k:=k)|.lp _ _::k=>Z0C (k:=k)|.jn _::k=>Z0C (k:=k)
theorem L2F{f:List Rv}{c:AV}{rows:List Row}(ks:List (Option Nat))(g:List NW)(m:(U2D k).isSome=true)(e:retE f ks σ c rows=some (c,rows,g.map NW.es)):Vh P (post f c rows) k σ:=by
 intro s H;have d:∃l,s.rvs f=some l/\AV.wk (λi=>ks[i]?=some none) ((O1c l).out ks) c/\Nw (O1c l)/\(Q0W ks).Nodup/\Q0D s ks rows:=by
  unfold retE at e;split at e
  .rename_i l z;split at e
   .rename_i x y;split at e
    .rename_i a b A;split at e
     .rename_i w;simp only[yI,Prod.mk.injEq]at e;obtain⟨B,rfl,v⟩:=e;have n:∀es∈x++b,NwL es:=by rw[v];intro es j;obtain⟨q,_,rfl⟩:=yY j;exact q.h
      grind[U27,O2C,J2m,Lx,V27]
     cases e
    cases e
   cases e
  cases e
 obtain⟨l,u,t,r,p,o⟩:=d;unfold U2D at m;split at m
 .exact⟨trivial,l,ks,u,t,r,p,o⟩
 .rw[U2F,Z0C];exact⟨trivial,l,ks,u,t,r,p,o⟩
 cases m
def num0:Nat->List AV->List (Nat×AV)
 |_,[]=>[]|i,a::l=>(i,a)::num0 (i+1) l
theorem J1S:∀{l:List AV}{i t:Nat}{v:AV},lk (num0 i l) t=some v->i<=t/\l[t-i]?=some v
 |[],_,_,_,h=>by cases h|a::l,i,t,v,h=>by
  simp[num0]at h;rcases Z0v h with⟨rfl,rfl⟩|h
  .simp
  .obtain⟨h1,b⟩:=J1S h;refine⟨by omega,?_⟩;rw[show t-i=(t-(i+1))+1 by omega,List.getElem?_cons_succ];exact b
def LS.arg(args:List AV):LS:=⟨num0 0 args,[],[],[]⟩
theorem LS.has_arg(a:List AV):(LS.arg a).has (st0 a):=by refine⟨λt v h=>?_,λ_ _ _ _ h=>by(cases h),λ_ _ h=>by(cases h),λ_ _ h=>by(cases h),λ_ _=>rfl⟩;obtain⟨_,b⟩:=J1S h;simp_all
theorem snd_v{f:FuncId}{l:L}{d:List Rv}{a:List AV}{b:AV}{rows:List Row}{n:Nat}(g:YQ P f n l d=true)(e:a.length=n)(c:rdtL a=a)(h:Vh P (post d b rows) [.l l] (LS.arg a)):Snd P f a b rows:=M2A g e c (X2E (h _ (LS.has_arg a)))
theorem bT{α:Type}{c:Bool}{a b r:α}(h:c=true)(H:(bif c then a else b)=r):a=r:=by subst h;exact H
theorem bF{α:Type}{c:Bool}{a b r:α}(h:c=false)(H:(bif c then a else b)=r):b=r:=by subst h;exact H
theorem bB{α a:Type}{o:Option α}{f:α->Option a}{r:a}(H:o.bind f=some r):∃y,o=some y/\f y=some r:=Option.bind_eq_some_iff.1 H
end
end
section
section
variable{P:Program}{R:Ex->St->Prop}{k:List It}{σ:LS}
def HE.u(k:Nat)(h:Hint P (allG [])):HE P:=⟨k,[],some h,none⟩
def HE.c{f:Nat}{as:List AV}{res:AV}{rows:List Row}(k:Nat)(h:Snd P f as res rows):HE P:=.u k (.call f as as res rows (AEs.refl as) λ_=>h)
def HE.g(k:Nat)(gs:List (Bool×Bool))(h:Hint P (allG gs)):HE P:=⟨k,gs,some h,none⟩
def HE.w(k:Nat){a b:AV}(h:a=b):HE P:=⟨k,[],none,some ⟨a,b,λ_=>h⟩⟩
def ovH:List (Nat×Hn)->Nat->Hn
 |l,t=>match lk l t with
  |some h=>h
  |none=>.d
def ovB:List (Nat×List Hn)->Nat->List Hn
 |l,t=>match lk l t with
  |some h=>h
  |none=>[]
def ovR:List (Nat×Option Nat×Nat)->Nat->Option Nat×Nat
 |l,t=>match lk l t with
  |some h=>h
  |none=>(some t,0)
def gD(σ':LS)(te:List (Nat×Hn))(tb:List (Nat×List Hn))(tr:List (Nat×Option Nat×Nat))(fz:List Nat):GW where
 te:=σ'.te.map λp=>(p.1,ovH te p.1)
 tb:=σ'.tb.map λp=>(p.1,ovB tb p.1)
 tr:=σ'.tr.map λp=>(p.1,ovR tr p.1)
 fz:=fz
structure Wh(P:Program)(R:Ex->St->Prop)(k:List It)(σ:LS):Prop where
 h:Vh P R k σ
structure Wg(P:Program)(R:Ex->St->Prop)(k:List It)(σ:LS):Prop where
 h:Vg P R k σ
theorem Z25(n:Nat)(a:List (HE P))(e:goE n k σ a=some (a.map HE.exp,a.flatMap HE.ns))(h:X0C (a.flatMap HE.ns)->Wh P R (goK n k σ a) (goS n k σ a)):Wh P R k σ:=⟨Vh_go n a e λq=>(h q).h⟩
theorem M2p{b:Bool}(a:b=true)(e:cnB k σ=some b)(c:Wh P R (cnT k) σ):Wh P R k σ:=⟨J2F a e c.h⟩
theorem L2p{b:Bool}(a:b=false)(e:cnB k σ=some b)(c:Wh P R (cnF k) σ):Wh P R k σ:=⟨Z2G a e c.h⟩
theorem X2F{b:List It}{a:LS}(h:Wg P R b a)(te:List (Nat×Hn))(tb:List (Nat×List Hn))(c:List (Nat×Option Nat×Nat))(d:List Nat)(f:k=b)(e:σ.gw (gD a te tb c d)=some a):Wh P R k σ:=⟨Vh_nx h.h _ f e⟩
theorem V2F{a:Type}{b:Bool}{x y:Option a}{r:a}(H:(bif b then x else y)=some r)(e:cnB k σ=some b)(d:x=some r->Wh P R (cnT k) σ)(c:y=some r->Wh P R (cnF k) σ):Wh P R k σ :=⟨X2w e (λq=>(d (bT q H)).h) λq=>(c (bF q H)).h⟩
theorem X0{a:Type}{b:Bool}{x y:Option a}{r:a}(H:(bif b then x else y)=some r)(d:x=some r->Wh P R (cnT k) σ)(c:y=some r->Wh P R (cnF k) σ)(e:cnB k σ=some b:=by kernel_rfl):Wh P R k σ:=V2F H e d c
theorem Wh_o(h:X0C []->Wh P R (goK 99 k σ ([]:List (HE P))) (goS 99 k σ ([]:List (HE P))))(e:goE 99 k σ ([]:List (HE P))=some ([],[]):=by kernel_rfl):Wh P R k σ:=Z25 99 [] e h
theorem Xi{b c:Type}{r:c}(F:b->Option c)(n:Nat)(a:b->LS)(e:isG (sfx n k)=true)(d:∀v,F v=some r->Wh P R (gwX (sfx n k)) (a v))(h:(∀v,F v=some r->Wg P R (sfx n k) (a v))->Wh P R k σ):Wh P R k σ :=h λv H=>⟨Vg_of e (d v H).h⟩
theorem M01{α c d:Type}{bd:α->Nat->c->(c->Option d)->Option d}{kk:c->Option d}{l:List α}{f:c}{r:d}(a:Nat->c->LS)(te:List (Nat×Hn))(tb:List (Nat×List Hn))(j:List (Nat×Option Nat×Nat))(y:List Nat)(u:isLp k=true)(w:σ.gw (gD (a 0 f) te tb j y)=some (a 0 f))(H:rgl bd kk l 0 f=some r)(t:∀i x b I m (g:c->Option d),l[i]?=some x->i<l.length->bd x i b g=some r -> (∀e,g e=some r->Wg P R (.lp I m::lpK k) (a (i+1) e))->Wh P R (.l (lpX k)::.lp I m::lpK k) (a i b))(v:∀b I m,kk b=some r->Wh P R (.l (lpX k)::.lp I m::lpK k) (a l.length b)):Wh P R k σ :=⟨M2F a _ u w H (λi x b I m s p o n=>(t i x b I m _ s p o λe q=>⟨n e q⟩).h) λb I m q=>(v b I m q).h⟩
theorem Z1z{c d:Type}{bd:c->(c->Option d)->Option d}{f:c}{n:Nat}{r:d}(a:c->LS)(te:List (Nat×Hn))(tb:List (Nat×List Hn))(i:List (Nat×Option Nat×Nat))(u:List Nat)(s:isLp k=true)(t:σ.gw (gD (a f) te tb i u)=some (a f))(H:whl bd n f=some r)(p:∀b I m (g:c->Option d),bd b g=some r->(∀e,g e=some r->Wg P R (.lp I m::lpK k) (a e))->Wh P R (.l (lpX k)::.lp I m::lpK k) (a b)):Wh P R k σ :=⟨O2F a _ s t H λ_ b I m o j=>(p b I m _ o λe q=>⟨j e q⟩).h⟩
theorem J2n{b:List It}{a:LS}{s:St}(h:gwTo s a)(c:Vh P R (.l .ret::b) a):W P R (.l (.gw .ret)::b) s:=by obtain⟨G,g,f,e,d⟩:=h;exact W_gw G g f e (c _ d)
def fzS(σ:LS)(te:List (Nat×Hn))(tb:List (Nat×List Hn))(fz:List Nat):LS:=match σ.gw (gD σ te tb [] fz)with
 |some σ'=>σ'
 |none=>σ
def fzE(k:List It)(σ:LS)(te:List (Nat×Hn))(tb:List (Nat×List Hn))(fz:List Nat):Bool:=match k with
 |.l (.gw _)::_=>match σ.gw (gD σ te tb [] fz)with
  |some _=>true
  |none=>false
 |_=>false
theorem Z2w(te:List (Nat×Hn))(tb:List (Nat×List Hn))(a:List Nat)(e:fzE k σ te tb a=true)(h:Wh P R (gwX k) (fzS σ te tb a)):Wh P R k σ:=by
 unfold fzE at e;split at e
 .rename_i x j;split at e
  .rename_i c b;refine⟨λs H=>?_⟩;obtain⟨G,i,g,f,d⟩:=O23 H b;simp[fzS,b]at h;exact W_gw G i g f (h.h _ d)
  cases e
 cases e
def retG(k:List It)(rs:List Rv)(ks:List (Option Nat))(σ:LS)(G:GW)(res:AV)(rows:List Row):Option (AV×List Row×List (List AV)):=match k with
 |.l (.gw .ret)::_=>match σ.gw G with
  |some σ'=>retE rs ks σ' res rows
  |none=>none
 |_=>none
theorem Q1R{c:List Rv}{a:AV}{rows:List Row}(te:List (Nat×Hn))(tb:List (Nat×List Hn))(f:List (Nat×Option Nat×Nat))(h:List Nat)(ks:List (Option Nat))(b:List NW)(e:retG k c ks σ ⟨te,tb,f,h⟩ a rows=some (a,rows,b.map NW.es)):Wh P (post c a rows) k σ:=by
 unfold retG at e;split at e
 .rename_i g;split at e
  .rename_i d i;exact⟨λs H=>J2n (O23 H i) (L2F (k:=.l .ret::g) ks b rfl e)⟩
  cases e
 cases e
theorem snd_g{f:FuncId}{l:L}{d:List Rv}{a:List AV}{b:AV}{rows:List Row}{n:Nat}(g:YQ P f n l d=true)(e:a.length=n)(c:rdtL a=a)(h:Wh P (post d b rows) [.l l] (LS.arg a)):Snd P f a b rows:=snd_v g e c h.h
theorem lm{α:Type}(xs:List α)(e:α->AV):(xs.map e).length=xs.length:=List.length_map ..
theorem gm{α:Type}(e:α->AV){xs:List α}{j:Nat}{x:α}(h:xs[j]?=some x):(xs.map e)[j]?=some (e x):=by rw[yF,h];rfl
theorem ltT{i n:Nat}(h:i<n):decide ((i:Int)<(n:Int))=true:=by simpa using h
theorem ltF(n:Nat):decide ((n:Int)<(n:Int))=false:=by simp
theorem wi{i n:Nat}(k:IntKind)(b:k=.i64)(h:i<n)(a:n<=9223372036854775807):AV.int k (k.wrap ((i:Int)+1))=AV.int k ((i+1:Nat):Int):=by grind[W25]
def lenQ{α:Type}(xs:List α):Option Unit:=if xs.length<=9223372036854775807 then some ()else none
theorem J0V{α:Type}{xs:List α}{u:Unit}(h:lenQ xs=some u):xs.length<=9223372036854775807:=by grind[lenQ]
def b2sQ(xs:List Int):Option (List UInt8):=if xs.all (λn=>decide (0<=n)&&decide (n<256))=true then some (xs.map λn=>UInt8.ofNat n.toNat)else none
theorem W0b{e:Int->AV}{xs:List Int}{l:List UInt8}(h:b2sQ xs=some l)(d:∀n,e n=.int .u8 n:=by intros;rfl):xs.map e=l.map λb=>AV.int .u8 b.toNat:=by
 unfold b2sQ at h;split at h
 .rename_i a;cases h;rw[List.map_map];refine List.map_congr_left λn c=>?_;have:=List.all_eq_true.1 a n c;simp[]at this;rw[d];simp only[Function.comp];congr 1;rw[UInt8.toNat_ofNat'];omega
 cases h
def s2bQ(l:List UInt8):Option (List Int):=if l.length<=140737488355328 then some (l.map λb=>(b.toNat:Int))else none
theorem Y2O{l:List UInt8}{xs:List Int}(h:s2bQ l=some xs):l.length<=140737488355328:=by grind[s2bQ]
theorem Q2N{e:Int->AV}{xs:List Int}{l:List UInt8}(h:s2bQ l=some xs)(a:∀n,e n=.int .u8 n:=by intros;rfl):(l.map λb=>AV.int .u8 b.toNat)=xs.map e:=by grind[s2bQ,List.map_map,List.map_congr_left]
def strB(l:List UInt8):List Int:=l.map λb=>(b.toNat:Int)
theorem O2N{e:Int->AV}{xs zs:List Int}{l:List UInt8}(h:appL 1 xs (strB l)=some zs)(a:∀n,e n=.int .u8 n:=by intros;rfl):appL 1 (xs.map e) (l.map λb=>AV.int .u8 b.toNat)=some (zs.map e):=by
 have c:(l.map λb=>AV.int .u8 b.toNat)=(strB l).map e:=by unfold strB;rw[List.map_map];exact List.map_congr_left λb _=>(a _).symm
 rw[c];exact W0 e h
theorem U4{α:Type}{c:Bool}{a b:α}:(bif c then some a else some b)=some (bif c then a else b):=by cases c<;>rfl
theorem AEs.of{xs b:List AV}(h:rdtL xs=rdtL b):AEs xs b:=by
 have d:xs.length=b.length:=by have:=congrArg List.length h;grind[U5]
 refine⟨d,λw S i a f v j g c=>?_⟩;have e:a.rdt=f.rdt:=by have:=congrArg (λl:List AV=>l[i]?) h;grind[U5,yF]
 have:=c.rdt (N':=TT) (λ_ _=>trivial);rw[e]at this;grind[Rd.unrdt]
end
theorem sI{α:Type}{a b:α}(h:some a=some b):a=b:=Option.some.inj h
theorem wE{P:Program}{k:List It}{b:LS}{c:List Rv}{a:AV}{rows:List Row}(te:List (Nat×Hn))(e:retG k c [] b ⟨te,[],[],[]⟩ a rows=some (a,rows,([]:List NW).map NW.es):=by kernel_rfl):Wh P (post c a rows) k b:=Q1R te [] [] [] [] [] e
theorem wN{P:Program}{k:List It}{c:LS}{f:List Rv}{a:AV}{rows:List Row}(te:List (Nat×Hn))(tb:List (Nat×List Hn))(d:List (Nat×Option Nat×Nat))(g:List Nat)(ks:List (Option Nat))(b:List NW)(e:retG k f ks c ⟨te,tb,d,g⟩ a rows=some (a,rows,b.map NW.es):=by kernel_rfl):Wh P (post f a rows) k c:=Q1R te tb d g ks b e
theorem wR{P:Program}{R:Ex → St → Prop}{k:List It}{f:LS}{α c d:Type}{bd:α → Nat → c → (c → Option d) → Option d}{kk:c → Option d}{l:List α}{e:c}{r:d}(a:Nat → c → LS)(H:rgl bd kk l 0 e=some r)(j:∀i x b I m (g:c → Option d),l[i]?=some x → i<l.length → bd x i b g=some r → (∀h,g h=some r → Wg P R (.lp I m::lpK k) (a (i+1) h)) → Wh P R (.l (lpX k)::.lp I m::lpK k) (a i b))(o:∀b I m,kk b=some r → Wh P R (.l (lpX k)::.lp I m::lpK k) (a l.length b))(n:isLp k=true:=by kernel_rfl)(p:f.gw (gD (a 0 e) [] [] [] [])=some (a 0 e):=by kernel_rfl):Wh P R k f:=M01 a [] [] [] [] n p H j o
theorem wW{P:Program}{R:Ex → St → Prop}{k:List It}{f:LS}{c d:Type}{bd:c → (c → Option d) → Option d}{e:c}{n:Nat}{r:d}(a:c → LS)(H:whl bd n e=some r)(i:∀b I m (g:c → Option d),bd b g=some r → (∀h,g h=some r → Wg P R (.lp I m::lpK k) (a h)) → Wh P R (.l (lpX k)::.lp I m::lpK k) (a b))(j:isLp k=true:=by kernel_rfl)(o:f.gw (gD (a e) [] [] [] [])=some (a e):=by kernel_rfl):Wh P R k f:=Z1z a [] [] [] [] j o H i
theorem wT{P:Program}{R:Ex → St → Prop}{k:List It}{b:LS}{c:List It}{a:LS}(h:Wg P R c a)(d:k=c:=by kernel_rfl)(e:b.gw (gD a [] [] [] [])=some a:=by kernel_rfl):Wh P R k b:=X2F h [] [] [] [] d e
theorem wU{P:Program}{R:Ex → St → Prop}{k:List It}{b:LS}{d:List It}{a:LS}(h:Wg P R d a)(te:List (Nat×Hn))(tb:List (Nat×List Hn))(c:List (Nat×Option Nat×Nat))(f:List Nat)(g:k=d:=by kernel_rfl)(e:b.gw (gD a te tb c f)=some a:=by kernel_rfl):Wh P R k b:=X2F h te tb c f g e
theorem wG{P:Program}{R:Ex → St → Prop}{k:List It}{b:LS}(a:List (HE P))(h:X0C (a.flatMap HE.ns) → Wh P R (goK 99 k b a) (goS 99 k b a))(e:goE 99 k b a=some (a.map HE.exp,a.flatMap HE.ns):=by kernel_rfl):Wh P R k b:=Z25 99 a e h
theorem wH{P:Program}{R:Ex → St → Prop}{k:List It}{b:LS}(a:List (HE P))(h:Wh P R (goK 99 k b a) (goS 99 k b a))(e:goE 99 k b a=some (a.map HE.exp,a.flatMap HE.ns):=by kernel_rfl):Wh P R k b:=Z25 99 a e λ_=>h
theorem wP{P:Program}{R:Ex → St → Prop}{k:List It}{a:LS}(h:Wh P R (goK 99 k a ([]:List (HE P))) (goS 99 k a ([]:List (HE P))))(e:goE 99 k a ([]:List (HE P))=some ([],[]):=by kernel_rfl):Wh P R k a:=Z25 99 [] e λ_=>h
theorem wt{P:Program}{R:Ex → St → Prop}{k:List It}{a:LS}{b:Bool}(c:b=true)(d:Wh P R (cnT k) a)(e:cnB k a=some b:=by kernel_rfl):Wh P R k a:=M2p c e d
theorem wf{P:Program}{R:Ex → St → Prop}{k:List It}{a:LS}{b:Bool}(c:b=false)(d:Wh P R (cnF k) a)(e:cnB k a=some b:=by kernel_rfl):Wh P R k a:=L2p c e d
theorem wS{P:Program}{f:FuncId}{a:List AV}{b:AV}{rows:List Row}(l:L)(d:List Rv)(h:Wh P (post d b rows) [.l l] (LS.arg a))(e:YQ P f a.length l d=true:=by kernel_rfl)(c:rdtL a=a:=by simp):Snd P f a b rows:=snd_g e rfl c h
def sR(l:List LOp)(x:L):L:=.seq (.reg l) x
def gR:L:=.gw .ret
def mV(d x:Nat):LOp:=.mv d (.t x)
def lD(d x n:Nat)(b:Bool):LOp:=.ld d (.t x) n b
def lF(d x n:Nat):LOp:=.ld d (.t x) n false
def lT(d x n:Nat):LOp:=.ld d (.t x) n true
def gF(d:Nat)(o:LOp):LOp:=.g d false o
def gT(d:Nat)(o:LOp):LOp:=.g d true o
instance(n:Nat):OfNat X n:=⟨.t n⟩
abbrev iV(n:Int):AV:=.int .i64 n
abbrev rV(n:Nat)(l:List AV):AV:=.sl .rd n l
abbrev nV(n:Nat)(l:List AV):AV:=.sl .nw n l
def fA(d x n:Nat):LOp:=.fa d (.t x) n
def iA(d x y n:Nat):LOp:=.ia d (.t x) (.t y) n
def bI(d:Nat)(o:BinOp)(x y:Nat):LOp:=.bi d o (.t x) (.t y)
def kI(n:Int):X:=.c (.int .i64 n)
def tL(l:List Nat):List X:=l.map .t
def cQ(d f:Nat)(l:List Nat):LOp:=.cq d f (tL l)
def rE(d:Nat)(x:X):L:=.reg [.mv d x]
def eX(d x i:Nat):LOp:=.ex d (.t x) i
def cB(n:Bool):X:=.c (.bool n)
end
section
def updE(σ:LS):Nat->List (Nat×List AV)->List Bool->Option (List (Option (List AV)))
 |_,[],[]=>some []|i,(sz,_)::l,u::us=>match u with
  |false=>match updE σ (i+1) l us with
   |some r=>some (none::r)
   |none=>none
  |true=>match lk σ.tr (1000000000+i)with
   |some r=>match r.sh with
    |false=>match Nat.beq r.sz sz with
     |true=>match updE σ (i+1) l us with
      |some q=>some (some r.es::q)
      |none=>none
     |false=>none
    |true=>none
   |none=>none
 |_,_,_=>none
def boxE(σ:LS)(fb fr:Nat->Option Nat):Nat->List (List AV)->Option (List (List AV))
 |_,[]=>some []|k,b::bs=>match lk σ.tb k with
  |some cs=>match Nat.beq cs.length b.length with
   |true=>match boxE σ fb fr (k+1) bs with
    |some l=>some (mpL fb fr cs::l)
    |none=>none
   |false=>none
  |none=>none
def U1W:List Nat->Bool
 |[]=>true|k::ks=>Nat.blt k 1000000000&&U1W ks
def retC(rs:List Rv)(bin:List (List AV))(rin:List (Nat×List AV))(ud:List Bool)(ks:List Nat)(σ:LS):Option (AV×List (List AV)×List (Option (List AV))×List (Nat×List AV)):=match rvL σ rs with
 |some l=>match updE σ 0 rin ud with
  |some upd=>match boxE σ (cob bin.length) (cor upd ks rin.length) 2000000000 bin with
   |some bout=>match grw σ ks with
    |some new=>match U0a ks&&U1W ks with
     |true=>some ((O1c l).mp (cob bin.length) (cor upd ks rin.length),bout,upd,new)
     |false=>none
    |none=>none
   |none=>none
  |none=>none
 |none=>none
def L2A(k:List It)(rs:List Rv)(bin:List (List AV))(rin:List (Nat×List AV))(ud:List Bool)(ks:List Nat)(σ:LS)(G:GW):Option (AV×List (List AV)×List (Option (List AV))×List (Nat×List AV)):=match k with
 |.l (.gw .ret)::_=>match σ.gw G with
  |some σ'=>retC rs bin rin ud ks σ'
  |none=>none
 |_=>none
section
variable{P:Program}{R:Ex->St->Prop}{k:List It}{σ:LS}{s:St}
theorem J1R(H:σ.has s){f:List Bool}:∀{rin:List (Nat×List AV)}{us:List Bool}{i:Nat}{upd:List (Option (List AV))},(∀j,us.getD j true=f.getD (i+j) true)->updE σ i rin us=some upd->updC s f i (ownR rin) upd
 |[],[],i,upd,_,h=>by cases h;trivial| (sz,es)::l,u::us,i,upd,hf,h=>by
  have a:=λj=>by have:=hf (j+1);rw[show i+(j+1)=i+1+j by omega]at this;simpa using this
  simp[updE]at h;split at h
  .split at h
   .rename_i r e;cases h;show updC s f (i+1) (ownR l) r;exact J1R H a e
   .cases h
  .split at h
   .rename_i r g;split at h
    .rename_i d;split at h
     .rename_i c;split at h
      .rename_i q e;cases h;have b:=hf 0;simp only[List.getD_cons_zero,Nat.add_zero]at b;replace b:=b.symm;have c:=yR c;subst c;refine⟨⟨b,?_,rfl⟩,J1R H a e⟩;rw[(H.r _ _ g).1,← d]
      .cases h
     .cases h
    .cases h
   .cases h
 |[],_::_,_,_,_,h=>by simp[updE]at h|_::_,[],_,_,_,h=>by simp[updE]at h
theorem Z2g(H:σ.has s){fb fr:Nat->Option Nat}:∀{c:List (List AV)}{k:Nat}{a:List (List AV)},boxE σ fb fr k c=some a->X1R s fb fr k a/\a.map List.length=c.map List.length
 |[],k,a,h=>by cases h;exact⟨trivial,rfl⟩|b::bs,k,a,h=>by
  simp[boxE]at h;split at h
  .rename_i cs e;split at h
   .rename_i d;have d:=yR d;split at h
    .rename_i l i;cases h;obtain⟨g,f⟩:=Z2g H i;exact⟨⟨⟨cs,H.b k cs e,rfl⟩,g⟩,by simp[f,VN,d]⟩
    .cases h
   .cases h
  .cases h
theorem J1K:∀{ks:List Nat},U1W ks=true->J0t ks
 |[],_=>trivial|k::ks,h=>by simp[U1W]at h;exact⟨by simpa[Nat.blt_eq]using h.1,J1K h.2⟩
theorem M2r{m:List Rv}{i:List (List AV)}{rin:List (Nat×List AV)}{k:List Bool}{ks:List Nat}{f:AV}{a:List (List AV)}{upd:List (Option (List AV))}{new:List (Nat×List AV)}{e:Ex}(o:match e with | .ext _=>False|_=>True)(H:σ.has s)(h:retC m i rin k ks σ=some (f,a,upd,new)):U28 m i (ownR rin) k (λ_ r b u n=>r=f/\b=a/\u=upd/\n=ownR new) e s:=by
 unfold retC at h;split at h
 .rename_i l q;split at h
  .rename_i d x;split at h
   .rename_i c t;split at h
    .rename_i g p;split at h
     .rename_i j;simp[]at j;simp only[yI,Prod.mk.injEq]at h;obtain⟨rfl,rfl,rfl,rfl⟩:=h;obtain⟨w,v⟩:=Z2g H t;refine⟨o,l,c,d,ks,ownR g,U27 H q,?_,by grind[J1R],Lx j.1,J1K j.2,J2c H p,v,?_,rfl,rfl,rfl⟩
      .rw[X0N];exact w
      rw[X0N]
     cases h
    cases h
   cases h
  cases h
 cases h
theorem Jk{g:List Rv}{d:List (List AV)}{rin:List (Nat×List AV)}{f:List Bool}{c:AV}{a:List (List AV)}{upd:List (Option (List AV))}{new:List (Nat×List AV)}(te:List (Nat×Hn))(tb:List (Nat×List Hn))(i:List (Nat×Option Nat×Nat))(j ks:List Nat)(e:L2A k g d rin f ks σ ⟨te,tb,i,j⟩=some (c,a,upd,new)):Wh P (U28 g d (ownR rin) f (λ_ r b u n=>r=c/\b=a/\u=upd/\n=ownR new)) k σ:=by
 unfold L2A at e;split at e
 .rename_i o;split at e
  .rename_i h l;refine⟨λs H=>J2n (O23 H l) λs' m=>?_⟩;rw[U2F,Z0C];exact M2r trivial m e
  cases e
 cases e
def numR(u:List Bool):Nat->List (Nat×List AV)->List (Nat×Row)
 |_,[]=>[]|i,(sz,es)::l=>(rkey u i,⟨sz,es,false⟩)::numR u (i+1) l
theorem Y29{u:List Bool}:∀{l:List (Nat×List AV)}{i k:Nat}{r:Row},lk (numR u i l) k=some r->∃j,i<=j/\k=rkey u j/\(ownR l)[j-i]?=some r
 |[],_,_,_,h=>by cases h| (sz,es)::l,i,k,r,h=>by
  simp[numR]at h;rcases Z0v h with⟨rfl,rfl⟩|h
  .exact⟨i,yV _,rfl,by simp[ownR]⟩
  .obtain⟨j,h1,b,a⟩:=Y29 h;refine⟨j,by omega,b,?_⟩;rw[show j-i=(j-(i+1))+1 by omega];simpa[ownR]using a
def LS.argC(args:List AV)(bin:List (List AV))(rin:List (Nat×List AV))(ud:List Bool):LS :=
  ⟨num0 0 (mpL (cfb bin.length) (cfr ud rin.length) args),[],numB 2000000000 (bin.map (mpL (cfb bin.length) (cfr ud rin.length))),numR ud 0 rin⟩
where numB:Nat->List (List AV)->List (Nat×List AV)
  |_,[]=>[]
  |i,a::l=>(i,a)::numB (i+1) l
theorem X29:∀{l:List (List AV)}{i k:Nat}{v:List AV},lk (LS.argC.numB i l) k=some v->i<=k/\l[k-i]?=some v
 |[],_,_,_,h=>by cases h|a::l,i,t,v,h=>by
  simp[LS.argC.numB]at h;rcases Z0v h with⟨rfl,rfl⟩|h
  .simp
  .obtain⟨h1,b⟩:=X29 h;refine⟨by omega,?_⟩;rw[show t-i=(t-(i+1))+1 by omega,List.getElem?_cons_succ];exact b
theorem V1M:∀{l:List (List AV)}{i k:Nat},lk (LS.argC.numB i l) k=none->i<=k->l[k-i]?=none
 |[],_,_,_,_=>by simp|a::l,i,t,h,hi=>by simp[LS.argC.numB]at h;obtain⟨c,b⟩:=J1Y h;rw[show t-i=(t-(i+1))+1 by omega,List.getElem?_cons_succ];exact V1M b (by omega)
theorem LS.has_argC(i:Nat)(b:List AV)(e:List (List AV))(rin:List (Nat×List AV))(c:List Bool)(l:rin.length<=1000):(LS.argC b e rin c).has (stC i b e (ownR rin) c):=by
 have m:=X0N rin;refine⟨λt v h=>?_,λ_ _ _ _ h=>by(cases h),λk cs h=>?_,λk r h=>?_,λk h=>?_⟩
 .obtain⟨_,f⟩:=J1S h;rw[Nat.sub_zero,VN,yF]at f;obtain⟨a,o,rfl⟩:=yC f;simp_all
 .obtain⟨p,f⟩:=X29 h;rw[yF]at f;simp_all
 .obtain⟨j,_,rfl,g⟩:=Y29 h;rw[Nat.sub_zero]at g;have n:j<1000:=by have:=(yB g).1;omega
  cases hu:c.getD j true with
  |true =>
   have d:rkey c j=1000000000+j:=by simp_all
   rw[d];simp only[stC];rw[yd (by omega),show 1000000000+j-1000000000=j by omega,yd hu,ye (by omega)];exact⟨g,rfl⟩
  |false =>
   have d:rkey c j=500000000+j:=by simp_all
   rw[d];simp only[stC];rw[ye (by omega),yd (by omega),show 500000000+j-500000000=j by omega,ye (by rw[hu];simp),ye (by omega)];grind
 simp only[stC];split
 .rename_i d;have:=V1M h d;rw[yF]at this;grind
 rfl
theorem M0C{f:FuncId}{l:L}{i:List Rv}{a:List AV}{d:List (List AV)}{rin:List (Nat×List AV)}{e:AV}{c:List (List AV)}{upd:List (Option (List AV))}{new:List (Nat×List AV)}{n:Nat}(g:List Bool)(m:YQ P f n l i=true)(k:a.length=n)(j:Nat.ble rin.length 1000=true)(h:Wh P (U28 i d (ownR rin) g (λ_ r b u n=>r=e/\b=c/\u=upd/\n=ownR new)) [.l l] (LS.argC a d rin g)):ConD P f a d rin e c upd new :=W2E g m k (by rw[X0N];simp_all) λo _=>X2E (h.h _ (by grind[LS.has_argC,Nat.le_of_ble_eq_true]))
theorem MV{α:Type}(e:α->AV)(h:∀x,(e x).noO)(l:List α):noOL (l.map e):=Zd.2 λa b=>by
 obtain⟨x,_,rfl⟩:=yY b
 exact h x
@[simp] def selR:List Bool->List AV->List AV
 |b::bs,a::l=>(match b with|true=>a|false=>a.rdt)::selR bs l
 |_,l=>l
theorem GEs.of{xs f:List AV}(bs:List Bool)(h:selR bs xs=f):GEs xs f:=by
 subst h;induction xs generalizing bs with
 |nil=>cases bs<;>exact GEs.refl _|cons x xs g =>
  cases bs with
  |nil=>exact GEs.refl _|cons b bs =>
   obtain⟨k,j⟩:=g bs;refine⟨by simp[selR,k],λi a c d e=>?_⟩;cases i with
   |zero =>
    simp[selR]at d e;subst d;subst e;cases b
    .exact .rdt _
    exact .refl _
   |succ i=>exact j i a c (by simpa using d) (by simp_all)
end
end
section
structure LA where
 own:List Nat
 kd:List (Nat×Nat)
 mz:List (Nat×Nat)
 ln:List Nat
 rq:List (Nat×Nat)
 rz:List (Nat×List Nat×List Nat×List Nat×Nat)
 js:List Nat
def avS:Value->AV
 |.bool b=>.bool b|.int k n=>.int k n|.string s=>.str s.data.toList|.slice none 0 0=>.nl|_=>.bad
def avV:Value->AV
 |.agg vs=>.agg (vs.toList.map avS)|v=>avS v
def toX:Operand->X
 |.tmp i=>.t i|.const v=>.c (avV v)|.func f=>.c (.fn f [])|_=>.c .bad
def toO:Option Operand->Option X
 |none=>none|some p=>some (toX p)
def zcs(P:Program)(t:TypeId):List AV:=match(P.info? t).bind (·.zero)with
 |some v=>v.cells.toList.map avS
 |none=>[]
def isPt(P:Program)(t:TypeId):Bool:=match P.underlying t with
 |some (.pointer _)=>true
 |_=>false
def Z2F(P:Program):List TypeId->Bool
 |[]=>false|t::l=>isPt P t||Z2F P l
def szE(P:Program)(t:TypeId):Nat:=match O01 P t with
 |some e=>(tsz P e).getD 0
 |none=>0
def byE(P:Program)(t:TypeId):Nat:=match O01 P t with
 |some e=>(tby P e).getD 0
 |none=>0
def lopB(P:Program)(A:LA)(dr:Bool)(d:Nat)(b:Builtin)(ps:List Operand)(ts:List TypeId):LOp:=match b with
 |.len=>match Y0d P (ts.getD 0 0)with
  |true=>.ls d (toX (ps.getD 0 (.tmp 0)))
  |false=>match dr&&!inL d A.ln with
   |true=>.lq d (toX (ps.getD 0 (.tmp 0)))
   |false=>.ln d (toX (ps.getD 0 (.tmp 0)))
 |.append=>match lk A.kd d with
  |some _=>.ae d (toX (ps.getD 0 (.tmp 0))) (toX (ps.getD 1 (.tmp 0))) (szE P (ts.getD 0 0)) (byE P (ts.getD 0 0))
  |none=>match Y0d P (ts.getD 1 0)with
   |true=>.ab d (toX (ps.getD 0 (.tmp 0))) (toX (ps.getD 1 (.tmp 0)))
   |false=>.ap d (toX (ps.getD 0 (.tmp 0))) (toX (ps.getD 1 (.tmp 0))) (szE P (ts.getD 0 0)) (byE P (ts.getD 0 0))
 |.max=>.mm d true (toX (ps.getD 0 (.tmp 0))) (toX (ps.getD 1 (.tmp 0)))
 |.min=>.mm d false (toX (ps.getD 0 (.tmp 0))) (toX (ps.getD 1 (.tmp 0)))
 |_=>.be d
def lopV(P:Program)(A:LA)(d:Nat)(fx:Operand)(ps:List Operand)(ts:List TypeId):LOp:=match fx with
 |.func f=>match lk A.kd d with
  |some 0=>.cq d f (ps.map toX)
  |some 1=>.cl d f (ps.map toX)
  |some 2=>.cm d f (ps.map toX)
  |some _=>.cn d f (ps.map toX)
  |none=>match Z2F P ts with
   |true=>.cm d f (ps.map toX)
   |false=>.cq d f (ps.map toX)
 |x=>.cc d (toX x) (ps.map toX)
def lopO(P:Program)(A:LA)(dr:Bool)(d:Nat)(o:Op):LOp:=match o with
 |.move p=>match lk A.mz d with
  |some n=>.sc d (toX p) none none n
  |none=>.mv d (toX p)
 |.assign p=>.mv d (toX p)
 |.pick p q r=>.pk d (toX p) (toX q) (toX r)
 |.alloc t=>.al d (zcs P t)
 |.box _ p=>.bx d (toX p)
 |.build t qs=>.bd d (zcs P t) (qs.toList.map λq=>match Q0K P t q.1 with
  |some fd=>(fd.offset,(tsz P fd.type).getD 0,toX q.2)
  |none=>(0,0,toX q.2))
 |.buildSlice t _ qs=>match lk A.kd d with
  |some _=>.be d
  |none=>.bs d (szE P t) (qs.toList.map λq=>toX q.2) (inL d A.own)
 |.makeSlice t p _=>.ms d (szE P t) (byE P t) (match O01 P t with
  |some e=>zcs P e
  |none=>[]) (toX p)
 |.load t p=>.ld d (toX p) ((tsz P t).getD 0) ((tag? P t).getD false)
 |.store t p q=>.st (toX p) (toX q) ((tsz P t).getD 0)
 |.nilCheck p=>.nc d (toX p)
 |.binOp b t p q _=>match P.underlying t with
  |some .bool=>.eb d (match b with | .neq=>true|_=>false) (toX p) (toX q)
  |some (.struct _)=>.es d (match b with | .neq=>true|_=>false) ((eqK P 20 t).getD []) (toX p) (toX q)
  |some .string=>match b with
   |.add=>.sa d (toX p) (toX q)
   |b=>.bi d b (toX p) (toX q)
  |_=>.bi d b (toX p) (toX q)
 |.unOp _ _ p=>.un d (toX p)
 |.convert _ u p=>match Z23 P u with
  |some k=>.cv d k (toX p)
  |none=>match Y0d P u with
   |true=>.b2s d (toX p)
   |false=>.s2b d (toX p)
 |.fieldAddr t p f=>.fa d (toX p) (match Q0K P t f with
  |some fd=>fd.offset
  |none=>0)
 |.field t p f=>match Q0K P t f with
  |some fd=>.fd d (toX p) fd.offset ((tsz P fd.type).getD 0) ((tag? P fd.type).getD false)
  |none=>.be d
 |.indexAddr t p q=>.ia d (toX p) (toX q) (szE P t)
 |.index _ p q=>.ix d (toX p) (toX q)
 |.slice t p pl ph _=>match Y0d P t with
  |true=>.ss d (toX p) (toO pl) (toO ph)
  |false=>.sc d (toX p) (toO pl) (toO ph) (szE P t)
 |.extract p j=>.ex d (toX p) j
 |.makeFunc (.func f) _ ps=>.mf d f (ps.toList.map toX)
 |o=>match asB o with
  |some (b,ps,ts)=>lopB P A dr d b ps ts
  |none=>match asV o with
   |some (fx,ps,ts)=>lopV P A d fx ps ts
   |none=>.be d
def lop(P:Program)(A:LA)(dr:Bool)(ops:Array Oper)(o:Oper):LOp:=match Q0Z ops o with
 |some (t,w)=>.g t w (lopO P A dr (o.dst.getD 0) o.op)
 |none=>lopO P A dr (o.dst.getD 0) o.op
def capO:List Operand->List Nat->List Nat
 |[],l=>l|.tmp t::r,l=>match inL t l with
  |true=>capO r l
  |false=>capO r (l++[t])
 |_::r,l=>capO r l
def caps:List Oper->List Nat->List Nat
 |[],l=>l|o::r,l=>match o.op with
  |.makeFunc _ _ ps=>caps r (capO ps.toList l)
  |_=>caps r l
def lreg(P:Program)(A:LA)(id:Nat)(ops:Array Oper)(dr:Bool):L:=match dr with
 |false=>.reg ((caps ops.toList []).map LOp.fb++ops.toList.map (lop P A false ops))
 |true=>match lk A.rq id with
  |some m=>.rq m (ops.toList.map (lop P A true ops))
  |none=>match lk A.rz id with
   |some (ow,als,od,m) =>
    let ls:=ops.toList.map (lop P A true ops)
    let za:=als.map λi=>match ls.getD i (.be 0)with
     |.al d z=>(i,d,z)
     |_=>(i,0,[])
    let zi:=od.map λn=>(n / 2,Nat.beq (n % 2) 1,ls.getD (n / 2) (.be 0))
    match ow with
    |[]=>.rz za zi (ls.drop m)
    |ow=>.ro ow za zi (ls.drop m)
   |none=>.skip
def gwI(A:LA)(p:Nat)(x:L):L:=match inL p A.js with
 |true=>.gw x
 |false=>x
def lft(P:Program)(A:LA):Code->Nat->L
 |.skip,p=>gwI A p .skip|.region id ops dr,p=>gwI A p (lreg P A id ops dr)|.seq a b,p=>gwI A p (.seq (lft P A a (2*p)) (lft P A b (2*p+1)))|.cond c a b,p=>gwI A p (.cond (toX c) (lft P A a (2*p)) (lft P A b (2*p+1)))|.block id a,p=>gwI A p (.blk id (lft P A a (2*p)))|.loop a,p=>gwI A p (.loop (.gw (lft P A a (2*p))))|.scope a,p=>gwI A p (.scope (lft P A a (2*p)))|.exit id,p=>gwI A p (.exit id)|.ret,_=>.gw .ret|_,_=>.skip
def lf(P:Program)(f:FuncId)(own:List Nat)(kd mz:List (Nat×Nat))(ln:List Nat)(rq:List (Nat×Nat))(rz:List (Nat×List Nat×List Nat×List Nat×Nat))(js:List Nat):L:=match P.funcs[f]? with
 |some fn=>match fn.body with
  |some c=>lft P ⟨own,kd,mz,ln,rq,rz,js⟩ c 1
  |none=>.skip
 |none=>.skip
section
variable{P:Program}{R:Ex->St->Prop}{k:List It}{σ:LS}
def HE.l{α:Type}(k:Nat)(xs:List α)(e:α->AV):HE P:=.u k (.ln _ _ λ_=>lm xs e)
def HE.x{α:Type}(k:Nat)(e:α->AV){xs:List α}{i:Int}{x:α}(h:idx xs i=some x):HE P:=.u k (.ix _ _ _ λ_=>Y0 e h)
def HE.y{α:Type}(k:Nat)(e:α->AV){xs:List α}{i:Nat}{x:α}(h:xs[i]?=some x):HE P:=.u k (.ix _ _ _ λ_=>Y0 e (O0 h))
def HE.p{α:Type}(k:Nat)(e:α->AV){n:Nat}{xs ys zs:List α}(h:appL n xs ys=some zs):HE P:=.u k (.ap _ _ _ _ λ_=>W0 e h)
def HE.d(k:Nat)(gs:List (Bool×Bool)){f:Nat}{as:List AV}{res:AV}{rows:List Row}(h:allG gs->Snd P f as res rows):HE P:=.g k gs (.call f as as res rows (AEs.refl as) h)
def HE.f(k:Nat)(xs:List AV){f:Nat}{as:List AV}{res:AV}{rows:List Row}(h:Snd P f as res rows)(e:rdtL xs=rdtL as:=by simp):HE P:=.u k (.call f xs as res rows (AEs.of e) λ_=>h)
def HE.i(k:Nat){i n:Nat}(h:i<n)(hn:n<=9223372036854775807):HE P:=.w k (wi .i64 rfl h hn)
theorem wL{α c d:Type}{bd:α->Nat->c->(c->Option d)->Option d}{kk:c->Option d}{l:List α}{f:c}{r:d}(a:Nat->c->LS)(H:rgl bd kk l 0 f=some r)(t:∀i x b I m (e:c->Option d),l[i]?=some x->i<l.length->bd x i b e=some r->(∀n,e n=some r->Wg P R (.lp I m::lpK k) (a (i+1) n))->Wh P R (cnT (goK 99 (.l (lpX k)::.lp I m::lpK k) (a i b) ([]:List (HE P)))) (goS 99 (.l (lpX k)::.lp I m::lpK k) (a i b) ([]:List (HE P))))(v:∀b I m,kk b=some r->Wh P R (cnF (goK 99 (.l (lpX k)::.lp I m::lpK k) (a l.length b) ([]:List (HE P)))) (goS 99 (.l (lpX k)::.lp I m::lpK k) (a l.length b) ([]:List (HE P))))(u:isLp k=true:=by kernel_rfl)(w:σ.gw (gD (a 0 f) [] [] [] [])=some (a 0 f):=by kernel_rfl)(j:∀i b I m,goE 99 (.l (lpX k)::.lp I m::lpK k) (a i b) ([]:List (HE P))=some ([],[]):=by intros;kernel_rfl)(h:∀i b I m,cnB (goK 99 (.l (lpX k)::.lp I m::lpK k) (a i b) ([]:List (HE P))) (goS 99 (.l (lpX k)::.lp I m::lpK k) (a i b) ([]:List (HE P)))=some (decide ((i:Int)<(l.length:Int))):=by intros;kernel_rfl):Wh P R k σ :=wR a H (λi x b I m e s g p o=>Z25 99 [] (j i b I m) λ_=>M2p (ltT g) (h i b I m) (t i x b I m e s g p o)) (λb I m q=>Z25 99 [] (j _ b I m) λ_=>L2p (ltF l.length) (h _ b I m) (v b I m q)) u w
def dR(rs:List Rv):List (Nat×Hn):=rs.map fun
 |.t i=>(i,.d)
 |.c i _ _=>(i,.d)
theorem wD{b:List Rv}{a:AV}{rows:List Row}(e:retG k b [] σ ⟨dR b,[],[],[]⟩ a rows=some (a,rows,([]:List NW).map NW.es):=by kernel_rfl):Wh P (post b a rows) k σ:=Q1R (dR b) [] [] [] [] [] e
theorem wM{c:List Rv}{a:AV}{rows:List Row}(tb:List (Nat×List Hn))(b:List NW)(e:retG k c [] σ ⟨dR c,tb,[],[]⟩ a rows=some (a,rows,b.map NW.es):=by kernel_rfl):Wh P (post c a rows) k σ:=Q1R (dR c) tb [] [] [] b e
theorem wO{c:List Rv}{a:AV}{rows:List Row}(tb:List (Nat×List Hn))(d:List (Nat×Option Nat×Nat))(f:List Nat)(ks:List (Option Nat))(b:List NW)(e:retG k c ks σ ⟨dR c,tb,d,f⟩ a rows=some (a,rows,b.map NW.es):=by kernel_rfl):Wh P (post c a rows) k σ:=Q1R (dR c) tb d f ks b e
theorem wV{b:List Rv}{a:AV}{rows:List Row}(c:goE 99 k σ ([]:List (HE P))=some ([],[]):=by kernel_rfl)(e:retG (goK 99 k σ ([]:List (HE P))) b [] (goS 99 k σ ([]:List (HE P))) ⟨dR b,[],[],[]⟩ a rows=some (a,rows,([]:List NW).map NW.es):=by kernel_rfl):Wh P (post b a rows) k σ:=wP (wD e) c
theorem wQ{c:List Rv}{a:AV}{rows:List Row}(tb:List (Nat×List Hn))(b:List NW)(d:goE 99 k σ ([]:List (HE P))=some ([],[]):=by kernel_rfl)(e:retG (goK 99 k σ ([]:List (HE P))) c [] (goS 99 k σ ([]:List (HE P))) ⟨dR c,tb,[],[]⟩ a rows=some (a,rows,b.map NW.es):=by kernel_rfl):Wh P (post c a rows) k σ:=wP (wM tb b e) d
theorem wY{c:List Rv}{a:AV}{rows:List Row}(tb:List (Nat×List Hn))(d:List (Nat×Option Nat×Nat))(f:List Nat)(ks:List (Option Nat))(b:List NW)(g:goE 99 k σ ([]:List (HE P))=some ([],[]):=by kernel_rfl)(e:retG (goK 99 k σ ([]:List (HE P))) c ks (goS 99 k σ ([]:List (HE P))) ⟨dR c,tb,d,f⟩ a rows=some (a,rows,b.map NW.es):=by kernel_rfl):Wh P (post c a rows) k σ:=wP (wO tb d f ks b e) g
theorem bC{α a:Type}{p:Prop}{o:Option α}{f:α->Option a}{r:a}(H:o.bind f=some r)(h:∀x,o=some x->f x=some r->p):p:=by obtain⟨x,c,b⟩:=bB H;exact h x c b
theorem bC2{α b a:Type}{p:Prop}{o:Option α}{f:α->Option b}{g:α->b->Option a}{r:a}(H:(o.bind λx=>(f x).bind (g x))=some r)(h:∀x,o=some x->∀y,f x=some y->g x y=some r->p):p:=by obtain⟨x,e,y,d,c⟩:=bB2 H;exact h x e y d c
theorem bC3{α a c b:Type}{p:Prop}{o:Option α}{f:α->Option a}{g:α->a->Option c}{k:α->a->c->Option b}{r:b}(H:(o.bind λx=>(f x).bind λy=>(g x y).bind (k x y))=some r)(h:∀x,o=some x->∀y,f x=some y->∀z,g x y=some z->k x y z=some r->p):p:=by obtain⟨x,j,y,i,z,e,d⟩:=bB3 H;exact h x j y i z e d
theorem wa{f:FuncId}{a:List AV}{b:AV}{rows:List Row}(c:List Rv)(h:Wh P (post c b rows) [.l (lf P f [] [] [] [] [] [] [])] (LS.arg a))(e:YQ P f a.length (lf P f [] [] [] [] [] [] []) c=true:=by kernel_rfl)(d:rdtL a=a:=by simp):Snd P f a b rows:=wS _ c h e d
theorem wb{f:FuncId}{a:List AV}{b:AV}{rows:List Row}(c:List Nat)(d:List Rv)(h:Wh P (post d b rows) [.l (lf P f c [] [] [] [] [] [])] (LS.arg a))(g:YQ P f a.length (lf P f c [] [] [] [] [] []) d=true:=by kernel_rfl)(e:rdtL a=a:=by simp):Snd P f a b rows:=wS _ d h g e
theorem wc{f:FuncId}{a:List AV}{b:AV}{rows:List Row}(e:List (Nat×Nat))(c:List Rv)(h:Wh P (post c b rows) [.l (lf P f [] [] [] [] e [] [])] (LS.arg a))(g:YQ P f a.length (lf P f [] [] [] [] e [] []) c=true:=by kernel_rfl)(d:rdtL a=a:=by simp):Snd P f a b rows:=wS _ c h g d
theorem wd{f:FuncId}{a:List AV}{b:AV}{rows:List Row}(e:List (Nat×Nat))(c:List Rv)(h:Wh P (post c b rows) [.l (lf P f [] e [] [] [] [] [])] (LS.arg a))(g:YQ P f a.length (lf P f [] e [] [] [] [] []) c=true:=by kernel_rfl)(d:rdtL a=a:=by simp):Snd P f a b rows:=wS _ c h g d
end
def pB(k:Nat):Nat×AV:=(k,.ptr k 0)
end
end Go.Proofs.YtehomnafaoplgaaGreat.Eng
