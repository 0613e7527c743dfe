/-
  Lemmas, part 5.
-/
import Derived.Test.YtehomnafaoplgaaGreatZ4
namespace Go.Proofs.YtehomnafaoplgaaGreat.Eng
open Go Go.RowKit
section
mutual
def AV.kf(b:Nat->Bool):AV->Bool
 |.sref _=>false
 |.rpt _ _ _=>false
 |.ptr k _=>b k||decide (1000000000<=k)
 |.bad=>false
 |.agg cs=>kfL b cs
 |.tup cs=>kfL b cs
 |.fn _ cs=>kfL b cs
 |_=>true
def kfL(b:Nat->Bool):List AV->Bool
 |[]=>true
 |a::l=>AV.kf b a&&kfL b l
end
section
variable{b b':Nat->Bool}
mutual
theorem Q1e{k:Nat}(hk:k<1000000000)(hb:b k=false):∀a:AV,a.kf b=true->a.dead k=a
 |.bool _,_ | .int _ _,_ | .str _,_ | .nl,_ | .el,_ | .sl _ _ _,_ | .ept _ _,_ | .eot _ _,_ | .od _ _ _,_ | .op _ _ _,_ | .und,_=>by simp[AV.dead]
 |.sref _,h | .rpt _ _ _,h | .bad,h=>by simp[AV.kf]at h
 |.ptr j o,h=>by
  have h':b j=true\/1000000000<=j:=by simpa[AV.kf]using h
  rw[AV.dead,ye]
  rintro rfl
  rcases h' with h'|h'
  .rw[hb]at h';cases h'
  .omega
 |.agg cs,h=>by rw[AV.dead,L0N hk hb cs (by simpa[AV.kf]using h)]
 |.tup cs,h=>by rw[AV.dead,L0N hk hb cs (by simpa[AV.kf]using h)]
 |.fn f cs,h=>by rw[AV.dead,L0N hk hb cs (by simpa[AV.kf]using h)]
theorem L0N{k:Nat}(hk:k<1000000000)(hb:b k=false):∀l:List AV,kfL b l=true->U7 k l=l
 |[],_=>by simp[U7]
 |a::l,h=>by
  simp only[kfL,yD]at h
  rw[U7,Q1e hk hb a h.1,L0N hk hb l h.2]
end
mutual
theorem J1D(hb:∀k,b k=true->b' k=true):∀a:AV,a.kf b=true->a.kf b'=true
 |.bool _,_ | .int _ _,_ | .str _,_ | .nl,_ | .el,_ | .sl _ _ _,_ | .ept _ _,_ | .eot _ _,_ | .od _ _ _,_ | .op _ _ _,_ | .und,_=>by simp[AV.kf]
 |.sref _,h | .rpt _ _ _,h | .bad,h=>by simp[AV.kf]at h
 |.ptr j o,h=>by
  have h':b j=true\/1000000000<=j:=by simpa[AV.kf]using h
  simp only[AV.kf,Bool.or_eq_true,yO]
  exact h'.imp (hb j) id
 |.agg cs,h=>by simpa[AV.kf]using O0B hb cs (by simpa[AV.kf]using h)
 |.tup cs,h=>by simpa[AV.kf]using O0B hb cs (by simpa[AV.kf]using h)
 |.fn f cs,h=>by simpa[AV.kf]using O0B hb cs (by simpa[AV.kf]using h)
theorem O0B(hb:∀k,b k=true->b' k=true):∀l:List AV,kfL b l=true->kfL b' l=true
 |[],_=>by simp[kfL]
 |a::l,h=>by
  simp only[kfL,yD]at h ⊢
  exact⟨J1D hb a h.1,O0B hb l h.2⟩
end
end
mutual
def AV.ks(b r:Nat->Bool):AV->Bool
 |.sref k=>r k
 |.rpt k _ _=>r k
 |.ptr k _=>b k||decide (1000000000<=k)
 |.bad=>false
 |.agg cs=>ksL b r cs
 |.tup cs=>ksL b r cs
 |.fn _ cs=>ksL b r cs
 |_=>true
def ksL(b r:Nat->Bool):List AV->Bool
 |[]=>true
 |a::l=>AV.ks b r a&&ksL b r l
end
section
variable{b b' r r':Nat->Bool}
mutual
theorem M1D{k:Nat}(hk:k<1000000000)(hb:b k=false)(hr:r k=false):∀a:AV,a.ks b r=true->a.dead k=a
 |.bool _,_ | .int _ _,_ | .str _,_ | .nl,_ | .el,_ | .sl _ _ _,_ | .ept _ _,_ | .eot _ _,_ | .od _ _ _,_ | .op _ _ _,_ | .und,_=>by simp[AV.dead]
 |.sref j,h=>by
  rw[AV.dead,ye]
  rintro rfl
  simp only[AV.ks]at h;rw[hr]at h;cases h
 |.rpt j _ _,h=>by
  rw[AV.dead,ye]
  rintro rfl
  simp only[AV.ks]at h;rw[hr]at h;cases h
 |.bad,h=>by simp[AV.ks]at h
 |.ptr j o,h=>by
  have h':b j=true\/1000000000<=j:=by simpa[AV.ks]using h
  rw[AV.dead,ye]
  rintro rfl
  rcases h' with h'|h'
  .rw[hb]at h';cases h'
  .omega
 |.agg cs,h=>by rw[AV.dead,O0N hk hb hr cs (by simpa[AV.ks]using h)]
 |.tup cs,h=>by rw[AV.dead,O0N hk hb hr cs (by simpa[AV.ks]using h)]
 |.fn f cs,h=>by rw[AV.dead,O0N hk hb hr cs (by simpa[AV.ks]using h)]
theorem O0N{k:Nat}(hk:k<1000000000)(hb:b k=false)(hr:r k=false):∀l:List AV,ksL b r l=true->U7 k l=l
 |[],_=>by simp[U7]
 |a::l,h=>by
  simp only[ksL,yD]at h
  rw[U7,M1D hk hb hr a h.1,O0N hk hb hr l h.2]
end
mutual
theorem Q1T(hb:∀k,b k=true->b' k=true)(hr:∀k,r k=true->r' k=true):∀a:AV,a.ks b r=true->a.ks b' r'=true
 |.bool _,_ | .int _ _,_ | .str _,_ | .nl,_ | .el,_ | .sl _ _ _,_ | .ept _ _,_ | .eot _ _,_ | .od _ _ _,_ | .op _ _ _,_ | .und,_=>by simp[AV.ks]
 |.sref j,h=>hr j h
 |.rpt j _ _,h=>hr j h
 |.bad,h=>by simp[AV.ks]at h
 |.ptr j o,h=>by
  have h':b j=true\/1000000000<=j:=by simpa[AV.ks]using h
  simp only[AV.ks,Bool.or_eq_true,yO]
  exact h'.imp (hb j) id
 |.agg cs,h=>by simpa[AV.ks]using W0a hb hr cs (by simpa[AV.ks]using h)
 |.tup cs,h=>by simpa[AV.ks]using W0a hb hr cs (by simpa[AV.ks]using h)
 |.fn f cs,h=>by simpa[AV.ks]using W0a hb hr cs (by simpa[AV.ks]using h)
theorem W0a(hb:∀k,b k=true->b' k=true)(hr:∀k,r k=true->r' k=true):∀l:List AV,ksL b r l=true->ksL b' r' l=true
 |[],_=>by simp[ksL]
 |a::l,h=>by
  simp only[ksL,yD]at h ⊢
  exact⟨Q1T hb hr a h.1,W0a hb hr l h.2⟩
end
mutual
theorem X2D:∀a:AV,a.kf b=true->a.ks b r=true
 |.bool _,_ | .int _ _,_ | .str _,_ | .nl,_ | .el,_ | .sl _ _ _,_ | .ept _ _,_ | .eot _ _,_ | .od _ _ _,_ | .op _ _ _,_ | .und,_=>by simp[AV.ks]
 |.sref _,h | .rpt _ _ _,h | .bad,h=>by simp[AV.kf]at h
 |.ptr j o,h=>h
 |.agg cs,h=>by simpa[AV.ks]using Z1E cs (by simpa[AV.kf]using h)
 |.tup cs,h=>by simpa[AV.ks]using Z1E cs (by simpa[AV.kf]using h)
 |.fn f cs,h=>by simpa[AV.ks]using Z1E cs (by simpa[AV.kf]using h)
theorem Z1E:∀l:List AV,kfL b l=true->ksL b r l=true
 |[],_=>by simp[ksL]
 |a::l,h=>by
  simp only[ksL,kfL,yD]at h ⊢
  exact⟨X2D a h.1,Z1E l h.2⟩
end
end
inductive Zc|f|t|s(ck:List Nat)
def bO(s:St)(k:Nat):Bool:=(s.bx k).isSome
def rO(s:St)(k:Nat):Bool:=(s.rw k).isSome
def rS(ck:List Nat)(s:St)(k:Nat):Bool:=rO s k&&!ck.contains k
def kfz(c:Zc)(s:St)(v:AV):Bool:=match c with
 |.s ck=>v.ks (bO s) (rS ck s)
 |_=>v.kf (bO s)
theorem W2n{c:Zc}{s:St}{v:AV}(h:v.kf (bO s)=true):kfz c s v=true:=by cases c with|s ck=>exact X2D v h|_=>exact h
theorem X1Z{c:Zc}{s:St}{v:AV}{k:Nat}(a:k<1000000000)(b:s.bx k=none)(d:s.rw k=none)(h:kfz c s v=true):v.dead k=v:=by cases c with|s ck=>exact M1D a (by simp[bO,b]) (by simp[rS,rO,d]) v h|_=>exact Q1e a (by simp[bO,b]) v h
theorem M0N{c:Zc}{s s':St}{v:AV}(a:∀k,bO s k=true->bO s' k=true)(b:∀ck,c=.s ck->∀k,rS ck s k=true->rS ck s' k=true)(h:kfz c s v=true):kfz c s' v=true:=by cases c with|s ck=>exact Q1T a (b ck rfl) v h|_=>exact J1D a v h
theorem L1N{c:Zc}{s s':St}{v:AV}(b:s.bx=s'.bx)(a:s.rw=s'.rw):kfz c s v=kfz c s' v:=by
 have e:bO s=bO s':=by funext k;grind[bO]
 have d:∀ck,rS ck s=rS ck s':=by grind[rS,rO]
 simp_all[kfz]
def St.strip(s:St):St:={ e:=s.e,bx:=λk=>if k<1000000000 then(match s.bx k with|some cs=>if kfL (bO s) cs=true then some cs else none|none=>none)else none,rw:=λ_=>none,nx:=s.nx,my:=s.my,kn:=s.kn }
def Y0C(b:Nat->Bool):List AV->List AV
 |[]=>[]|a::l=>(match a.kf b with|true=>a|false=>.bad)::Y0C b l
def St.stripF(s:St):St:={ e:=s.e,bx:=λk=>(s.bx k).map (Y0C (bO s)),rw:=λ_=>none,nx:=s.nx,my:=s.my,kn:=s.kn }
def St.stripS(ck:List Nat)(s:St):St:={ e:=s.e,bx:=λk=>if k<1000000000 then(match s.bx k with|some cs=>if ksL (bO s) (rS ck s) cs=true then some cs else none|none=>none)else none,rw:=λk=>match ck.contains k with|true=>none|false=>s.rw k,nx:=s.nx,my:=s.my,kn:=s.kn }
def St.stripc(s:St):Zc->St
 |.t=>s.strip|.f=>s.stripF|.s ck=>s.stripS ck
def St.hide(s:St)(ow:List Nat):St:={ e:=s.e,bx:=λk=>match ow.contains k with|true=>none|false=>s.bx k,rw:=s.rw,nx:=s.nx,my:=s.my,kn:=s.kn }
theorem W0w{s:St}{ow:List Nat}{k:Nat}{cs:List AV}(h:(s.hide ow).bx k=some cs):s.bx k=some cs:=by grind[St.hide]
theorem L1T{s:St}{ow:List Nat}{k:Nat}(h:k∈ow):(s.hide ow).bx k=none:=by grind[St.hide,List.contains_iff_mem]
theorem L1O{s:St}{ow:List Nat}{k:Nat}(h:s.bx k=none):(s.hide ow).bx k=none:=by cases hx:(s.hide ow).bx k with|none=>rfl|some cs=>rw[W0w hx]at h;cases h
theorem J1H{s:St}{ow:List Nat}(k:Nat)(h:bO (s.hide ow) k=true):bO s k=true:=by unfold bO at h ⊢;cases hx:(s.hide ow).bx k with|none=>rw[hx]at h;cases h|some cs=>rw[W0w hx];rfl
theorem L1D{c:Zc}{s:St}{ow:List Nat}{v:AV}(h:kfz c (s.hide ow) v=true):kfz c s v=true:=M0N J1H (λ_ _ _ h=>h) h
def W0J:LOp->Bool
 |.cm _ _ _=>true|.mv _ _=>true|.ex _ _ _=>true|.cl _ _ _=>true|_=>false
def clKs(d:Nat):List Nat:=[1000*d+1000,1000*d+1001,1000*d+1002,1000*d+1003,1000*d+1004,1000*d+1005,1000*d+1006,1000*d+1007]
theorem U20{d i:Nat}(h:i<8):1000*d+1000+i∈clKs d:=by unfold clKs;match i,h with|0,_|1,_|2,_|3,_|4,_|5,_|6,_|7,_=>simp|n+8,h=>omega
def clK:List (Bool×LOp)->List Nat
 |[]=>[]| (_,.cl d _ _)::r=>clKs d++clK r|_::r=>clK r
theorem X2f:∀{l:List (Bool×LOp)}{f:Bool}{d b:Nat}{xs:List X},(f,LOp.cl d b xs)∈l->∀k∈clKs d,k∈clK l
 |[],_,_,_,_,h=>by cases h| (f0,l0)::r,f,d,b,xs,h=>by
  intro k a;rcases yX h with h|h
  .cases h;exact List.mem_append_left _ a
  .have:=X2f h k a;cases l0<;>first|exact List.mem_append_right _ this|exact this
def V1K:List (Bool×LOp)->Bool
 |[]=>true| (f,l)::r=>(!f||W0J l)&&V1K r
def isCm:LOp->Bool
 |.cm _ _ _=>true|_=>false
def W2c:List (Bool×LOp)->Bool
 |[]=>false| (_,l)::r=>isCm l||W2c r
def zcOf(l:List (Bool×LOp)):Zc:=match W2c l with
 |false=>.f
 |true=>match V1K l with
  |true=>.s (clK l)
  |false=>.t
theorem V2q:∀{l:List (Bool×LOp)},zcOf l=.f->∀x∈l,isCm x.2=false:=by
 intro l h;have a:W2c l=false:=by unfold zcOf at h;cases hx:W2c l with|false=>rfl|true=>rw[hx]at h;simp only at h;split at h<;>cases h
 clear h;induction l with|nil=>simp|cons y l b =>simp[W2c,Bool.or_eq_false_iff]at a;grind
theorem Y2h{l:List (Bool×LOp)}{ck:List Nat}(h:zcOf l=.s ck):ck=clK l:=by grind[zcOf]
theorem Z21:∀{l:List (Bool×LOp)}{ck:List Nat},zcOf l=.s ck->∀x∈l,x.1=true->W0J x.2=true:=by
 intro l ck h;have a:V1K l=true:=by grind[zcOf]
 clear h;induction l with|nil=>simp|cons y l b =>simp[V1K,Bool.or_eq_true]at a;grind
def BxLe(b:Nat->Bool)(cs cs':List AV):Prop:=cs'.length=cs.length/\∀(i:Nat) (a:AV),cs[i]?=some a->a.kf b=true->cs'[i]?=some a
theorem BxLe.refl(b:Nat->Bool)(cs:List AV):BxLe b cs cs:=⟨rfl,λ_ _ h _=>h⟩
theorem BxLe.trans{b e:Nat->Bool}(f:∀k,b k=true->e k=true){x y z:List AV}(h:BxLe b x y)(d:BxLe e y z):BxLe b x z :=⟨by rw[d.1,h.1],λi a g c=>d.2 i a (h.2 i a g c) (J1D f a c)⟩
def BxA:Zc->St->St->Prop
 |.t,s,s'=>∀k cs,k<1000000000->s.bx k=some cs->kfL (bO s) cs=true->s'.bx k=some cs|.f,s,s'=>∀k cs,s.bx k=some cs->∃cs',s'.bx k=some cs'/\BxLe (bO s) cs cs'|.s ck,s,s'=>(∀k cs,k<1000000000->s.bx k=some cs->ksL (bO s) (rS ck s) cs=true->s'.bx k=some cs)/\∀k r,ck.contains k=false->s.rw k=some r->s'.rw k=some r
theorem U2s{ck:List Nat}{s s':St}(h:∀k r,ck.contains k=false->s.rw k=some r->s'.rw k=some r):∀k,rS ck s k=true->rS ck s' k=true:=λk a=>by
 unfold rS rO at a ⊢
 simp only[yD,Bool.not_eq_true']at a ⊢
 cases hr:s.rw k with
 |none=>rw[hr]at a;grind
 |some r=>grind
theorem J2h{ck:List Nat}{s s':St}(e:s.rw=s'.rw):rS ck s=rS ck s':=by funext k;grind[rS,rO]
theorem BxA.all{c:Zc}{s s':St}(h:∀k cs,s.bx k=some cs->s'.bx k=some cs)(b:∀ck,c=.s ck->∀k r,ck.contains k=false->s.rw k=some r->s'.rw k=some r):BxA c s s':=by cases c with|t=>exact λk cs _ a _=>h k cs a|f=>exact λk cs a=>⟨cs,h k cs a,.refl _ _⟩|s ck=>exact⟨λk cs _ a _=>h k cs a,b ck rfl⟩
theorem BxA.trans{c:Zc}{s s' b:St}(i:∀k,bO s k=true->bO s' k=true)(h:BxA c s s')(g:BxA c s' b):BxA c s b:=by cases c with|t=>exact λk cs d a e=>g k cs d (h k cs d a e) (O0B i cs e)|f =>intro k cs a;obtain⟨q,o,n⟩:=h k cs a;obtain⟨p,m,l⟩:=g k q o;exact⟨p,m,n.trans i l⟩|s ck=>exact⟨λk cs d a e=>g.1 k cs d (h.1 k cs d a e) (W0a i (U2s h.2) cs e),λk r j a=>g.2 k r j (h.2 k r j a)⟩
theorem BxA.congr2{c:Zc}{s s' t:St}(e:t.bx=s'.bx)(i:t.rw=s'.rw)(h:BxA c s s'):BxA c s t:=by cases c with|t=>intro k cs b a d;rw[e];exact h k cs b a d|f=>intro k cs a;rw[e];exact h k cs a|s ck=>exact⟨λk cs b a d=>by rw[e];exact h.1 k cs b a d,λk r g a=>by rw[i];exact h.2 k r g a⟩
theorem BxA.congr{c:Zc}{s s' t:St}(e:t.bx=s.bx)(g:t.rw=s.rw)(h:BxA c s s'):BxA c t s':=by
 have i:bO t=bO s:=by funext k;simp[bO,e]
 cases c with|t=>intro k cs d a b;rw[e]at a;rw[i]at b;exact h k cs d a b|f=>intro k cs a;rw[e]at a;obtain⟨n,m,l⟩:=h k cs a;grind|s ck=>exact⟨λk cs d a b=>h.1 k cs d (by rw[← e];exact a) (by rw[← i,← J2h g];exact b),λk r j a=>h.2 k r j (by rw[← g];exact a)⟩
theorem BxA.hide{c:Zc}{s s':St}{ow:List Nat}(h:BxA c s s'):BxA c (s.hide ow) (s'.hide ow):=by
 have d:∀k cs,(s.hide ow).bx k=some cs->ow.contains k=false:=by grind[L1T,List.contains_iff_mem]
 have e:∀k,ow.contains k=false->(s'.hide ow).bx k=s'.bx k:=by grind[St.hide]
 cases c with|t=>exact λk cs j b g=>by rw[e k (d k cs b)];exact h k cs j (W0w b) (O0B J1H cs g)|f =>intro k cs b;obtain⟨o,m,l⟩:=h k cs (W0w b);exact⟨o,by rw[e k (d k cs b)];exact m,l.1,λi a n g=>l.2 i a n (J1D J1H a g)⟩|s ck=>exact⟨λk cs j b g=>by rw[e k (d k cs b)];exact h.1 k cs j (W0w b) (W0a J1H (λ_ h=>h) cs g),h.2⟩
theorem BxA.rS{ck:List Nat}{s s':St}(h:BxA (.s ck) s s'):∀k,rS ck s k=true->rS ck s' k=true:=U2s h.2
def St.ov(s:St)(p:Nat->Option AV):St:={ s with e:=λt=>(p t).getD (s.e t) }
def LOp.rdE:LOp->List Nat
 |.mv _ x | .ex _ x _=>x.rd|.bs _ _ ps _=>ps.flatMap X.rd|.ap _ x y _ _=>x.rd++y.rd|.cm _ _ xs=>xs.flatMap X.rd|.cl d _ xs=>clKs d++xs.flatMap X.rd|.bd _ _ ps=>(ps.map λp=>p.2.2).flatMap X.rd|.ln _ x=>x.rd|l=>l.rds
def isQE:LOp->Bool
 |.sc _ _ _ _ _=>false|.g _ _ _=>false|.mv _ _=>false|.ex _ _ _=>false|.bd _ _ _=>false|.bs _ _ _ _=>false|l=>isQ1 l
def isX:X->Bool
 |.t _=>true|.c a=>plain a||(match a with | .agg cs=>cs.all plain|_=>false)
def isE:LOp->Bool
 |.mv _ (.t _) | .ex _ (.t _) _ | .bs _ _ _ true | .ap _ _ _ _ _ | .cm _ _ _=>true|.bd _ z ps=>z.all plain&&ps.all λp=>isX p.2.2|.ln _ (.t _)=>true|.sc _ (.t _) none none _=>true|.cl _ _ _=>true|l=>isQE l
def zw(P:Program):LOp->(St->Prop)->St->Prop
 |.cm d f xs,K,s=>∃(bks:List Nat) (bin:List (List AV)),(∀k∈bks,1000000000<=k)/\bks.Nodup/\UU s (ix bks) (ix []) bks bin/\((∀b∈bin,noOL b)/\∀x∈xs,(s.get x).noO) /\ ∃Φ,ConN P f s.nx (xs.map λx=>((s.get x).mp (ix bks) (ix [])).rdt) bin [] Φ/\∀n1 res bout upd new,s.nx<=n1->bout.map List.length=bin.map List.length->Φ n1 res bout upd new->new=[]/\K (afterM s n1 d bks [] res bout [] [])|.bs d sz ps own,K,s=>s.bx d=none/\wop P (.bs d sz ps own) K s|.ap d x y sz b,K,s=>(match s.get x with | .sref k=>s.bx k=none|_=>s.bx d=none)/\wop P (.ap d x y sz b) K s
 |.mv d x,K,s=>wop P (.mv d x) K s|.ex d x i,K,s=>wop P (.ex d x i) K s|.bd d z ps,K,s=>wop P (.bd d z ps) K s|.ln d x,K,s=>wop P (.ln d x) K s|.sc d x lo hi n,K,s=>wop P (.sc d x lo hi n) K s|.cl d f xs,K,s=>∃as,s.args xs=some as/\∃res rows,Snd P f as res rows/\rows.length<=8/\(∀k,(∀i,i<rows.length->k≠1000*d+1000+i)->(res.ren (1000*d+1000) rows.length).dead k=res.ren (1000*d+1000) rows.length)/\(∀i,i<rows.length->s.bx (1000*d+1000+i)=none)/\1000*d+1000+rows.length<=1000000000/\K ((s.addrows (1000*d+1000) rows).set d (res.ren (1000*d+1000) rows.length))|l,K,s=>wop P l (λs'=>(∀k,k<1000000000->Free k s->(s'.e l.dst).dead k=s'.e l.dst)/\K s') s
def W0D:LOp->Bool
 |.mv _ _=>true|.ex _ _ _=>true|_=>false
def L1K:List (Bool×LOp)->Bool
 |[]=>true| (f,l)::r=>(!f||W0D l)&&L1K r
structure Keep(c:Zc)(l:LOp)(s s':St):Prop where
 e:∀t,t≠l.dst->kfz c s (s.e t)=true->s'.e t=s.e t
 bx:BxA c s s'
 b:∀k,bO s k=true->bO s' k=true
 sf:W0D l=true->∀t,t≠l.dst->s'.e t=s.e t
section
variable{P:Program}{s s':St}{p:Nat->Option AV}
theorem zw_cm{K:St->Prop}{d f:Nat}{xs:List X}(h:zw P (.cm d f xs) K s):wop P (.cm d f xs) K s:=by
 obtain⟨b,e,_,u,t,g,Φ,q,h⟩:=h;simp only[wop];refine⟨b,[],e,[],_,by simpa using u,t,trivial,⟨g.1,(λr o=>(by cases o)),g.2⟩,by simpa[List.map_map]using GEs.rdt (xs.map λx=>(s.get x).mp (ix b) (ix [])),Φ,by simpa[List.map_map,Function.comp_def]using q,λn1 c a upd new m l j i=>?_⟩;have n:upd=[]:=by simpa using j
 subst n;obtain⟨rfl,p⟩:=h n1 c a [] new m l i;exact⟨by simp,trivial,λk _=>by simp only[List.length_nil];omega,p⟩
theorem J2b{l:LOp}(h:isQE l=true):isQ l=true/\(∀s:St,scOk s l)/\l.rdE=l.rds:=by cases l<;>simp[isQE]at h<;>first|exact⟨h,λ_=>trivial,rfl⟩ | (simp[isQ1]at h)
theorem M2m{x:X}(h:∀t∈x.rd,p t=none):(s.ov p).get x=s.get x:=by cases x with|t i=>grind[St.get,St.ov,X.rd]|c a=>rfl
theorem M28{xs:List X}(h:∀t∈xs.flatMap X.rd,p t=none):xs.map (s.ov p).get=xs.map s.get:=by grind[List.map_congr_left,M2m]
mutual
theorem Q2B:∀a,(s.ov p).dt a=s.dt a
 |.bool _ | .int _ _ | .str _ | .nl | .el | .sl _ _ _ | .tup _ | .ptr _ _ | .ept _ _ | .eot _ _ | .rpt _ _ _ | .od _ _ _ | .op _ _ _ | .und | .bad=>by simp[St.dt]
 |.sref k=>by simp[St.dt,St.ov]
 |.agg cs=>by rw[St.dt,St.dt,X1M cs]
 |.fn f cs=>by rw[St.dt,St.dt,X1M cs]
theorem X1M:∀l,(s.ov p).dtL l=s.dtL l
 |[]=>by simp[St.dtL]
 |a::l=>by rw[St.dtL,St.dtL,Q2B a,X1M l]
end
theorem W01{d:Nat}{v:AV}(h:p d=none):(s.ov p).set d v=(s.set d v).ov p:=by refine Ls (λt=>?_) (λ_=>rfl) rfl;simp[St.set,upd,St.ov];grind
theorem J0K{k:Nat}(h:s.bx k=none):bO s k=false:=by simp[bO,h]
theorem J1c{c:Zc}{k:Nat}(d:∀ck,c=.s ck->k∈ck)(a:k<1000000000)(b:s.bx k=none)(h:∀t v,p t=some v->kfz c s v=true):(s.ov p).kill k=(s.kill k).ov p:=by refine Ls (λt=>?_) (λ_=>rfl) rfl;simp[St.kill,St.ov];cases hp:p t with|none=>rfl|some v =>have:=h t v hp;cases c with|s ck=>exact M1D a (J0K b) (by unfold rS;rw[List.contains_iff_mem.2 (d ck rfl)];simp) v this|_=>exact Q1e a (J0K b) v this
theorem M1y{fb fr:Nat->Option Nat}:∀{ks:List Nat}{bs:List (List AV)},UU (s.ov p) fb fr ks bs->UU s fb fr ks bs
 |[],[],h=>h|_::_,_::_,h=>⟨h.1,M1y h.2⟩|[],_::_,h=>h|_::_,[],h=>h
theorem O2k{k:Nat}{b:Nat->Bool}(c:k<1000000000)(e:b k=false)(cs:List AV):BxLe b cs (U7 k cs):=by refine⟨by rw[Yd,List.length_map],λi a f d=>?_⟩;rw[Yd,yF,f,Option.map_some,Q1e c e a d]
theorem X0v{c:Zc}{l:LOp}{k:Nat}{R:Nat->Option Row}{v:AV}(m:∀ck,c=.s ck->k∈ck/\∀j r,ck.contains j=false->s.rw j=some r->R j=some r)(h:k<1000000000)(d:s.bx k=none)(o:W0D l=false:=by rfl):Keep c l s (St.set { s.kill k with rw:=R } l.dst v):=by
 refine⟨λt n g=>?_,?_,λj i=>?_,by grind⟩
 .simp[St.set,upd,ye n,St.kill];cases c with|s ck=>exact M1D h (J0K d) (by unfold rS;rw[List.contains_iff_mem.2 (m ck rfl).1];simp) _ g|_=>exact Q1e h (J0K d) _ g
 .have b:∀j cs,s.bx j=some cs->(St.set { s.kill k with rw:=R } l.dst v).bx j=some (U7 k cs):=λj cs a=>by simp only[St.set,St.kill];rw[ye (λe=>by subst e;rw[d]at a;cases a),a];rfl
  cases c with|t=>exact λj cs _ a g=>by rw[b j cs a,L0N h (J0K d) cs g]|f=>exact λj cs a=>⟨_,b j cs a,O2k h (J0K d) cs⟩|s ck=>exact⟨λj cs _ a g=>by rw[b j cs a,O0N h (J0K d) (by unfold rS;rw[List.contains_iff_mem.2 (m ck rfl).1];simp) cs g],(m ck rfl).2⟩
 simp[bO,St.set,St.kill]at i ⊢;rw[ye (λe=>by subst e;rw[d]at i;cases i)];simpa using i
theorem L0i{k:Nat}{f:Nat->Option Row}(b:s.bx k=none):∀j,bO s j=true->bO ({ s.kill k with rw:=f }:St) j=true:=λj a=>by
 simp[bO,St.kill]at a ⊢
 rw[ye (λe=>by subst e;rw[b]at a;cases a)]
 simpa using a
theorem U1e{ck:List Nat}{k:Nat}{r:Row}(d:k∈ck):∀j,rS ck s j=true->rS ck ({ s.kill k with rw:=λj=>if j=k then some r else(s.kill k).rw j }:St) j=true:=U2s λj r' b c=>by
 have a:j≠k:=λe=>by rw[e,List.contains_iff_mem.2 d]at b;cases b
 simp[St.kill,a,c]
theorem L1w{c:Zc}:∀(rows:List Row)(k:Nat)(s:St),(∀ck,c=.s ck->∀i,i<rows.length->k+i∈ck)->k+rows.length<=1000000000->(∀i,i<rows.length->s.bx (k+i)=none)->(∀t v,p t=some v->kfz c s v=true)->(s.ov p).addrows k rows=(s.addrows k rows).ov p
 |[],_,_,_,_,_,_=>rfl|r::rs,k,s,hc,hl,hb,hp=>by
  simp[]at hc hl hb;have a:=hb 0 (by omega);have b:∀ck,c=.s ck->k∈ck:=λck e=>hc ck e 0 (by omega);rw[St.addrows,St.addrows,J1c b (by omega) a hp];refine L1w (c:=c) rs (k+1) ({ s.kill k with rw:=λj=>if j=k then some r else(s.kill k).rw j }:St) (λck e i f=>?_) (by omega) (λi f=>?_) (λt v d=>?_)
  .have:=hc ck e (i+1) (by omega);rwa [show k+(i+1)=k+1+i by omega]at this
  .have:=hb (i+1) (by omega);rw[show k+(i+1)=k+1+i by omega]at this;grind[St.kill]
  .exact M0N (L0i a) (by simp_all[U1e]) (hp t v d)
theorem J10{c:Zc}{l:LOp}{v:AV}(n:W0D l=false):∀(rows:List Row)(k:Nat)(s:St),(∀ck,c=.s ck->∀i,i<rows.length->k+i∈ck)->k+rows.length<=1000000000->(∀i,i<rows.length->s.bx (k+i)=none)->Keep c l s ((s.addrows k rows).set l.dst v)
 |[],_,s,_,_,_=>⟨by simp_all[St.addrows,St.set,upd],.all (λ_ _ h=>h) (λ_ _ _ _ _ h=>h),λ_ h=>h,by grind⟩|r::rs,k,s,hc,hl,hb=>by
  simp[]at hc hl hb;have a:=hb 0 (by omega);have q:∀ck,c=.s ck->k∈ck:=λck e=>hc ck e 0 (by omega);have m:Keep c l s (St.set { s.kill k with rw:=λj=>if j=k then some r else(s.kill k).rw j } l.dst v):=X0v (by grind[List.contains_iff_mem,St.kill]) (by omega) a n;have g:=J10 (c:=c) n (v:=v) rs (k+1) ({ s.kill k with rw:=λj=>if j=k then some r else(s.kill k).rw j }:St) (by grind) (by omega) (by grind[St.kill]);rw[St.addrows];have u:∀t,t≠l.dst->kfz c s (s.e t)=true->({ s.kill k with rw:=λj=>if j=k then some r else(s.kill k).rw j }:St).e t=s.e t:=λt d f=>by have:=m.e t d f;simp_all[St.set,upd]
  refine⟨λt d f=>?_,BxA.trans (L0i a) (BxA.congr2 (t:=({ s.kill k with rw:=λj=>if j=k then some r else(s.kill k).rw j }:St)) (s':=St.set ({ s.kill k with rw:=λj=>if j=k then some r else(s.kill k).rw j }:St) l.dst v) rfl rfl m.bx) g.bx,λj p=>g.b j (L0i a j p),by grind⟩;have o:=u t d f;rw[g.e t d (by rw[o];exact M0N (L0i a) (by simp_all[U1e]) f),o]
theorem UW{c:Zc}{l:LOp}{v:AV}:Keep c l s (s.set l.dst v):=⟨by simp_all[St.set,upd],.all (λ_ _ h=>h) (λ_ _ _ _ _ h=>h),λ_ h=>h,by simp_all[St.set,upd]⟩
theorem effQ{c:Zc}{K:St->Prop}{l:LOp}(f:isQE l=true)(n:p l.dst=none)(j:∀t,t∈l.rdE->p t=none)(d:∀t v,p t=some v->kfz c s v=true)(h:wop P l (λs'=>(∀k,k<1000000000->Free k (s.ov p)->(s'.e l.dst).dead k=s'.e l.dst)/\K s') (s.ov p)):wop P l (λs'=>(∀k,k<1000000000->Free k s->(s'.e l.dst).dead k=s'.e l.dst)/\(K (s'.ov p)/\Keep c l s s')) s:=by
 obtain⟨i,g,o⟩:=J2b f;obtain⟨v,⟨b,m⟩,y⟩:=J27 i (g _) h;refine y s ⟨by grind[St.ov],λ_ _ h=>h,λ_ _ h=>h⟩ _ ⟨λk a F=>?_,?_,UW⟩
 .have:=b k a ⟨λt=>?_,F.bx,F.rw,F.bd⟩
  .simp_all[St.set,upd]
  cases hx:p t with|none=>simp[St.ov,hx,Option.getD_none];exact F.e t|some u=>simp[St.ov,hx,Option.getD_some];exact X1Z a F.bx F.rw (d t u hx)
 grind[W01]
theorem eff{c:Zc}{K:St->Prop}{l:LOp}(hcm:isCm l=true->c≠.f)(hst:∀ck,c=.s ck->W0J l=true/\∀d f xs,l=.cl d f xs->∀k∈clKs d,k∈ck)(hl:isE l=true)(T:l.dst<1000000000)(hp:∀t v,p t=some v->t∉l.rdE/\t≠l.dst/\kfz c s v=true)(h:zw P l K (s.ov p)) : zw P l (λs'=>K (s'.ov p)/\Keep c l s s') s:=by
 have rd:∀t,t∈l.rdE->p t=none:=λt C=>by cases V:p t with|none=>rfl|some v=>exact absurd C (hp t v V).1
 have J:p l.dst=none:=by cases V:p l.dst with|none=>rfl|some v=>exact absurd rfl (hp _ v V).2.1
 have A:W0J l=false->∀{q:List Nat->Prop} ck,c=.s ck->q ck:=by grind
 have U:=λt v V=>(hp t v V).2.2;have M:∀{x:X},(∀t∈x.rd,t∈l.rdE)->(s.ov p).get x=s.get x:=λh=>M2m λt C=>rd t (h t C);cases l with
 |mv d x =>
  cases x with|c a=>grind[isE,isQE]|t x =>
  have g:p d=none:=J;have u:=T;simp only[zw,wop]at h ⊢;rw[M (x:=.t x) (λt h=>h),W01 g]at h;exact⟨h,UW (l:=.mv d (.t x))⟩
 |ex d x i =>
  cases x with|c a=>grind[isE,isQE]|t x =>
  have g:p d=none:=J;have u:=T;simp only[zw,wop]at h ⊢;rw[M (x:=.t x) (λt h=>h)]at h;split at h
  .rename_i vs w;split at h
   .rename_i v V;rw[W01 g]at h;exact⟨h,UW (l:=.ex d (.t x) i)⟩
   cases h
  cases h
 |bd d z ps =>
  have g:p d=none:=J;simp only[zw,wop]at h ⊢;have e:(ps.map λ(off,n,x)=>(off,n,(s.ov p).get x))=ps.map λ(off,n,x)=>(off,n,s.get x):=by apply List.map_congr_left;rintro⟨off,n,x⟩ w;have:=M (x:=x) λt C=>List.mem_flatMap.2 ⟨x,List.mem_map.2 ⟨_,w,rfl⟩,C⟩;simp only[this]
  rw[e]at h;split at h
  .rename_i cs E;rw[show Y0o z (ps.map λ(off,n,x)=>(off,n,s.get x))=some cs from E];rw[W01 g]at h;exact⟨h.1,h.2,UW (l:=.bd d z ps)⟩
  cases h
 |bs d Q ps own =>
  cases own with
  |false=>grind[isE,isQE]|true =>
   have g:p d=none:=J;have u:d<1000000000:=T;simp only[zw,wop,yb]at h ⊢;rw[M28 (xs:=ps) rd,X1M]at h;obtain⟨D,h⟩:=h;refine⟨D,?_⟩;split at h
   .rename_i es hes;obtain⟨O,L,I,F,H⟩:=h;refine⟨O,L,I,F,?_,X0v (l:=.bs d Q ps true) (A rfl) u D⟩;rw[J1c (s:=s) (A rfl) u D U]at H;rw[← W01 g];exact H
   cases h
 |ap d x y Q N =>
  have g:p d=none:=J;have u:d<1000000000:=T;simp only[zw]at h ⊢;have ex:=M (x:=x) (λt h=>by simp[LOp.rdE,h]);have ey:=M (x:=y) (λt h=>by simp[LOp.rdE,h]);rw[ex]at h;obtain⟨D,h⟩:=h;simp only[wop,ex,ey,Q2B]at h ⊢;refine⟨D,?_⟩;split at h
  .rename_i sy news hy;split at h
   .rename_i k w;rw[w]at D;split at h
    .rename_i r S;have R:s.rw k=some r:=S;simp only[R];obtain⟨O,L,I,F,H⟩:=h;refine⟨O,L,I,F,?_,X0v (l:=.ap d x y Q N) (A rfl) L D⟩;rw[J1c (s:=s) (A rfl) L D U]at H;rw[← W01 g];exact H
    cases h
   .rename_i w;rw[w]at D;obtain⟨I,F,H⟩:=h;refine⟨I,F,?_,X0v (l:=.ap d x y Q N) (A rfl) u D⟩;rw[J1c (s:=s) (A rfl) u D U]at H;rw[← W01 g];exact H
   cases h
  .rename_i hy;split at h
   .rename_i k w;split at h
    .rename_i r S;have R:s.rw k=some r:=S;simp only[R];rw[W01 g]at h;exact⟨h,UW (l:=.ap d x y Q N)⟩
    cases h
   .rename_i w;rw[w]at D;rw[J1c (s:=s) (A rfl) u D U]at h;refine⟨?_,X0v (l:=.ap d x y Q N) (A rfl) u D⟩;rw[← W01 g];exact h
   cases h
  cases h
 |cm d f xs =>
  have g:p d=none:=J;have u:d<1000000000:=T;simp only[zw]at h ⊢;obtain⟨m,bin,O,L,I,F,Φ,hC,h⟩:=h;have hno:∀x∈xs,(s.get x).noO:=λx w=>by rw[← M (x:=x) λt C=>List.mem_flatMap.2 ⟨x,w,C⟩];exact F.2 x w
  have eg:(xs.map λx=>(((s.ov p).get x).mp (ix m) (ix [])).rdt)=xs.map λx=>((s.get x).mp (ix m) (ix [])).rdt:=by apply List.map_congr_left;intro x w;rw[M (x:=x) λt C=>List.mem_flatMap.2 ⟨x,w,C⟩]
  rw[eg]at hC;refine⟨m,bin,O,L,M1y I,⟨F.1,hno⟩,Φ,hC,λn1 B o us new q0 q1 q2=>?_⟩;obtain⟨q3,q4⟩:=h n1 B o us new q0 q1 q2;have Z:∀k cs,k<1000000000->s.bx k=some cs->(afterM s n1 d m [] B o [] []).bx k=some cs:=λk cs G E=>by
   have hn:k∉m:=λhm=>by have:=O k hm;omega
   have D:bxf m (o.map (mpL (fbB m) (frB [] [] (1000*d+1000) ([]:List Row).length))) k=none:=by cases w:bxf m (o.map (mpL (fbB m) (frB [] [] (1000*d+1000) ([]:List Row).length))) k with|none=>rfl|some b =>obtain⟨i,W,_⟩:=V1m w;exact absurd (yE W) hn
   simp_all[afterM,St.set,Xf,St.addrows,setRows,drops,St.kill2]
  have hrw:∀k r,s.rw k=some r->(afterM s n1 d m [] B o [] []).rw k=some r:=by simp[afterM,St.set,Xf,St.addrows,setRows,drops,St.kill2,upf]
  refine⟨q3,?_,λt C _=>?_,?_,λk G=>?_,by simp[W0D]⟩
  .have:afterM (s.ov p) n1 d m [] B o [] []=(afterM s n1 d m [] B o [] []).ov p:=by refine Ls (λt=>?_) (λ_=>rfl) rfl;simp only[afterM,St.set,upd,Xf,St.addrows,setRows,drops,St.kill2,St.ov];grind
   rw[← this];exact q4
  .have Y:t≠d:=C;simp[afterM,St.set,upd,Xf,St.addrows,setRows,drops,St.kill2,Y]
  .cases c with|t=>exact λk cs G E _=>Z k cs G E|f=>exact absurd rfl (hcm rfl)|s ck=>exact⟨λk cs G E _=>Z k cs G E,λk r _ S=>hrw k r S⟩
  simp only[bO,afterM,St.set,Xf]at G ⊢;split
  .rfl
  simp only[St.addrows,setRows,drops,St.kill2];split
  .simpa using G
  exact G
 |cl d f xs =>have g:p d=none:=J;simp only[zw,St.args]at h ⊢;rw[M28 (xs:=xs) (λt C=>rd t (List.mem_append_right _ C)),X1M]at h;obtain⟨as,O,B,rows,L,hr8,T,I,F,H⟩:=h;have G:∀ck,c=.s ck->∀i,i<rows.length->1000*d+1000+i∈ck:=λck e i W=>(hst ck e).2 d f xs rfl _ (U20 (by omega));refine⟨as,O,B,rows,L,hr8,T,I,F,?_,J10 (l:=.cl d f xs) rfl rows (1000*d+1000) s G F I⟩;rw[L1w rows (1000*d+1000) s G F I U]at H;rw[← W01 g];exact H|sc d x lo W n =>
  cases x with|c a=>cases lo<;>cases W<;>simp[isE,isQE]at hl|t x =>
  cases lo with|some _=>cases W<;>simp[isE,isQE]at hl|none =>
  cases W with|some _=>grind[isE,isQE,isQ1]|none =>
  have g:p d=none:=J;simp only[zw,wop,St.hi,St.lo]at h ⊢;rw[M (x:=.t x) (λt h=>by simpa[LOp.rdE,LOp.rds,rdO]using h)]at h;split at h
  .rw[W01 g]at h;exact⟨h.1,h.2.1,h.2.2,UW (l:=.sc d (.t x) none none n)⟩
  .rename_i k w;rw[show(s.ov p).rw=s.rw from rfl]at h;split at h
   .rename_i r S;refine⟨h.1,?_,λt C _=>?_,.all (λ_ _ h=>h) (A rfl),λ_ h=>h,by simp[W0D]⟩
    .have:=h.2;rw[show({ s.ov p with rw:=λj=>if j=k then some { r with sh:=true } else s.rw j }:St)=({ s with rw:=λj=>if j=k then some { r with sh:=true } else s.rw j }:St).ov p from rfl,W01 g]at this;exact this
    have Y:t≠d:=C;simp_all[St.set,upd]
   cases h
  .rw[W01 g]at h;exact⟨h,UW (l:=.sc d (.t x) none none n)⟩
  cases h
 |ln d x =>
  cases x with|c a=>grind[isE,isQE,isQ1]|t x =>
  have g:p d=none:=J;simp only[zw,wop]at h ⊢;rw[M (x:=.t x) (λt h=>h)]at h;split at h
  .rename_i t Q es w;rw[W01 g]at h;exact λq=>⟨h q,UW (l:=.ln d (.t x))⟩
  .rename_i k w;rw[show(s.ov p).rw=s.rw from rfl]at h;split at h
   .rename_i r S;rw[W01 g]at h;exact λq=>⟨h q,UW (l:=.ln d (.t x))⟩
   cases h
  .rw[W01 g]at h;exact⟨h,UW (l:=.ln d (.t x))⟩
  cases h
 |_=>first
   |exact effQ hl J rd U h
   | (simp[isE,isQE,isQ1]at hl;done)
end
section
variable{P:Program}{s:St}{A B:Nat->Option (List AV)}
def St.wb(s:St)(B:Nat->Option (List AV)):St :={ e:=λt=>if(B t).isSome=true then .ptr t 0 else s.e t,bx:=λk=>match B k with|some cs=>some cs|none=>s.bx k,rw:=s.rw,nx:=s.nx,my:=s.my,kn:=s.kn }
theorem wb_e{t:Nat}(h:B t=none):(s.wb B).e t=s.e t:=by simp[St.wb,h]
theorem Q2l{x:X}(h:∀t∈x.rd,B t=none):(s.wb B).get x=s.get x:=by cases x with|t i=>exact wb_e (h i (by simp[X.rd]))|c a=>rfl
theorem O25{xs:List X}(h:∀t∈xs.flatMap X.rd,B t=none):xs.map (s.wb B).get=xs.map s.get:=by grind[List.map_congr_left,Q2l]
mutual
theorem Y2x:∀a,(s.wb B).dt a=s.dt a
 |.bool _ | .int _ _ | .str _ | .nl | .el | .sl _ _ _ | .tup _ | .ptr _ _ | .ept _ _ | .eot _ _ | .rpt _ _ _ | .od _ _ _ | .op _ _ _ | .und | .bad=>by simp[St.dt]
 |.sref k=>by simp[St.dt,St.wb]
 |.agg cs=>by rw[St.dt,St.dt,L1J cs]
 |.fn f cs=>by rw[St.dt,St.dt,L1J cs]
theorem L1J:∀l,(s.wb B).dtL l=s.dtL l
 |[]=>by simp[St.dtL]
 |a::l=>by rw[St.dtL,St.dtL,Y2x a,L1J l]
end
theorem Y0f{d:Nat}{v:AV}(h:B d=none):(s.wb B).set d v=(s.set d v).wb B:=by refine Ls (λt=>?_) (λ_=>rfl) rfl;simp[St.set,upd,St.wb];grind
theorem V1z{k:Nat}(h:B k=none)(a:∀j cs,B j=some cs->U7 k cs=cs):(s.wb B).kill k=(s.kill k).wb B:=by
 refine Ls (λt=>?_) (λt=>?_) rfl
 .simp[St.kill,St.wb];grind[AV.dead]
 simp[St.kill,St.wb];grind
theorem Free.set{k d:Nat}{v:AV}(F:Free k s)(a:v.dead k=v):Free k (s.set d v) where
 e:=λt=>by
  simp[St.set,upd]
  split
  .exact a
  .exact F.e t
 bx:=F.bx
 rw:=F.rw
 bd:=F.bd
theorem Free.row{k d:Nat}{r:Row}(F:Free k s)(a:d≠k):Free k { s with rw:=λj=>if j=d then some r else s.rw j } where
 e:=F.e
 bx:=F.bx
 rw:=by simp[Ne.symm a,F.rw]
 bd:=F.bd
theorem M1v:∀(rows:List Row)(k:Nat)(s:St),(∀i,i<rows.length->B (k+i)=none)->(∀j cs,B j=some cs->∀k,U7 k cs=cs)->(s.wb B).addrows k rows=(s.addrows k rows).wb B
 |[],_,_,_,_=>rfl|r::rs,k,s,hb,hz=>by simp[]at hb;rw[St.addrows,St.addrows,V1z (show B k=none from hb 0 (by omega)) λj cs a=>hz j cs a _];exact M1v rs (k+1) ({ s.kill k with rw:=λj=>if j=k then some r else(s.kill k).rw j }:St) (λi b=>by have:=hb (i+1) (by omega);rwa [show k+(i+1)=k+1+i by omega]at this) hz
theorem Y11{k:Nat}:∀(rows:List Row)(b:Nat)(s:St),Free k s->(∀i,i<rows.length->k≠b+i)->Free k (s.addrows b rows)
 |[],_,_,F,_=>F|r::rs,b,s,F,h=>by simp[]at h;rw[St.addrows];exact Y11 rs (b+1) _ ((F.kill (i:=b)).row (Ne.symm (h 0 (by omega)))) λi a=>by have:=h (i+1) (by omega);rwa [show b+(i+1)=b+1+i by omega]at this
mutual
theorem W2a{k:Nat}{fb fr:Nat->Option Nat}(hb:∀i j,fb i=some j->j≠k)(hr:∀i j,fr i=some j->j≠k):∀a:AV,(a.mp fb fr).dead k=a.mp fb fr
 |.bool _ | .int _ _ | .str _ | .nl | .el | .sl _ _ _ | .ept _ _ | .eot _ _ | .od _ _ _ | .op _ _ _ | .und | .bad=>by simp[AV.mp,AV.dead]
 |.sref i=>by
  rw[AV.mp];split
  .rename_i j h;rw[AV.dead,ye (hr i j h)]
  .rfl
 |.ptr i o=>by
  rw[AV.mp];split
  .rename_i j h;rw[AV.dead,ye (hb i j h)]
  .rfl
 |.rpt i q o=>by
  rw[AV.mp];split
  .rename_i j h;rw[AV.dead,ye (hr i j h)]
  .rfl
 |.agg cs=>by rw[AV.mp,AV.dead,Q0N hb hr cs]
 |.tup cs=>by rw[AV.mp,AV.dead,Q0N hb hr cs]
 |.fn f cs=>by rw[AV.mp,AV.dead,Q0N hb hr cs]
theorem Q0N{k:Nat}{fb fr:Nat->Option Nat}(hb:∀i j,fb i=some j->j≠k)(hr:∀i j,fr i=some j->j≠k):∀l:List AV,U7 k (mpL fb fr l)=mpL fb fr l
 |[]=>by simp[mpL,U7]
 |a::l=>by rw[mpL,U7,W2a hb hr a,Q0N hb hr l]
end
theorem L2e{k:Nat}{cs:List AV}(h:U7 k cs=cs){i:Nat}{v:AV}(a:cs[i]?=some v):v.dead k=v:=by have:=congrArg (·[i]?) h;grind[Yd,yF,yI]
theorem V0i(j:Nat):∀{z:List AV},z.all plain=true->U7 j z=z
 |[],_=>rfl|a::z,h=>by simp only[List.all_cons,yD]at h;rw[U7,V0i j h.2];cases a<;>simp[plain]at h<;>simp[AV.dead]
theorem V24{k:Nat}{v:AV}(h:v.dead k=v):U7 k v.cells=v.cells:=by cases v with|agg cs=>rw[AV.dead]at h;exact AV.agg.inj h|_=>simp[AV.cells,U7,h]
theorem U1m{k:Nat}:∀(ps:List (Nat×Nat×AV)){z cs:List AV},U7 k z=z->(∀q∈ps,q.2.2.dead k=q.2.2)->Y0o z ps=some cs->U7 k cs=cs
 |[],z,cs,hz,_,h=>by simp[Y0o]at h;rw[← h];exact hz| (off,n,v)::ps,z,cs,hz,hp,h=>by
  simp only[Y0o]at h;split at h
  .refine U1m ps ?_ (λq b=>hp q (yH _ b)) h;have a:=V24 (hp (off,n,v) (yJ ..));rw[Yd]at hz a ⊢;unfold putC;rw[List.map_append,List.map_append,List.map_take,List.map_drop,hz,a]
  .cases h
theorem effBQ{K:St->Prop}{l:LOp}(i:isQE l=true)(c:∀k,(B k).isSome=true->(A k).isSome=true)(d:∀k,(A k).isSome=true->k<1000000000/\Free k s/\k∉l.rdE/\k≠l.dst)(g:B l.dst=none)(n:∀t,t∈l.rdE->B t=none)(h:wop P l (λs'=>(∀k,k<1000000000->Free k s->(s'.e l.dst).dead k=s'.e l.dst)/\K s') s):wop P l (λs'=>∃a,s'=a.wb B/\K a/\∀k,(A k).isSome=true->Free k a) (s.wb B):=by
 obtain⟨m,j,p⟩:=J2b i;obtain⟨v,⟨o,f⟩,y⟩:=J27 m (j _) h;refine y (s.wb B) ⟨by grind[wb_e],λk cs b=>?_,λ_ _ h=>h⟩ _ ⟨_,Y0f g,f,λk b=>(d k b).2.1.set ?_⟩
 .have:B k=none:=by cases hb:B k with|none=>rfl|some c0 =>have:=(d k (c k (by rw[hb];rfl))).2.1.bx;rw[b]at this;cases this
  grind[St.wb]
 simp_all[St.set,upd]
theorem effB{K:St->Prop}{l:LOp}(M:isE l=true)(hd:l.dst<1000000000)(hBA:∀k,(B k).isSome=true->(A k).isSome=true)(u:∀k,(A k).isSome=true->k<1000000000/\Free k s/\k∉l.rdE/\k≠l.dst)(hz:∀k cs,B k=some cs->∀j,U7 j cs=cs)(h:zw P l K s):wop P l (λs'=>∃H,s'=H.wb B/\K H/\∀k,(A k).isSome=true->Free k H) (s.wb B):=by
 have nB:∀t,(∀k,(A k).isSome=true->k≠t)->B t=none:=λt E=>by cases O:B t with|none=>rfl|some cs=>exact absurd rfl (E t (hBA t (by rw[O];rfl)))
 have rd:∀t,t∈l.rdE->B t=none:=by grind
 have J:=nB _ λk m e=>(u k m).2.2.2 e;have R:∀{x:X},(∀t∈x.rd,t∈l.rdE)->(s.wb B).get x=s.get x:=λh=>Q2l λt E=>rd t (h t E);cases l with
 |mv d x =>cases x with|c a=>simp[isE,isQE]at M|t i =>have g:B d=none:=J;simp only[zw,wop]at h ⊢;rw[R (x:=.t i) (λt h=>h),Y0f g];exact⟨_,rfl,h,λk m=>(u k m).2.1.set ((u k m).2.1.e i)⟩
 |ex d x i =>
  cases x with
  |c a=>simp[isE,isQE]at M|t x =>
   have g:B d=none:=J;simp only[zw,wop]at h ⊢;rw[R (x:=.t x) (λt h=>h)];split at h
   .rename_i vs D;split at h
    .rename_i v hv;rw[Y0f g];refine⟨_,rfl,h,λk m=>(u k m).2.1.set ?_⟩;have q:=(u k m).2.1.e x;have C:s.e x=.tup vs:=D;rw[C,AV.dead]at q;exact L2e (AV.tup.inj q) hv
    cases h
   cases h
 |bd d z ps =>
  have g:B d=none:=J;simp only[isE,yD]at M;simp only[zw,wop]at h ⊢;have e:(ps.map λ(off,n,x)=>(off,n,(s.wb B).get x))=ps.map λ(off,n,x)=>(off,n,s.get x):=by apply List.map_congr_left;rintro⟨off,n,x⟩ D;have:=R (x:=x) λt E=>List.mem_flatMap.2 ⟨x,List.mem_map.2 ⟨_,D,rfl⟩,E⟩;simp only[this]
  rw[e];split at h
  .rename_i cs hcs;rw[show Y0o z (ps.map λ(off,n,x)=>(off,n,s.get x))=some cs from hcs];simp only;rw[Y0f g];refine⟨h.1,_,rfl,h.2,λk m=>(u k m).2.1.set ?_⟩;rw[AV.dead,U1m (k:=k) (ps.map λ(off,n,x)=>(off,n,s.get x)) (V0i k M.1) (λq hq=>?_) hcs];obtain⟨⟨off,n,x⟩,D,rfl⟩:=yY hq;have C:=List.all_eq_true.1 M.2 _ D;cases x with
   |t i=>exact(u k m).2.1.e i|c a =>
    simp only[isX,Bool.or_eq_true]at C;rcases C with C|C
    .have:=V0i k (z:=[a]) (by simpa using C);show a.dead k=a;simpa[U7]using this
    show a.dead k=a;cases a<;>simp at C;simp only[AV.dead];rw[V0i k (by simpa using C)]
  cases h
 |bs d sz ps own =>
  cases own with
  |false=>simp[isE,isQE]at M|true =>
   have g:B d=none:=J;simp only[zw,wop,yb]at h ⊢;rw[O25 (xs:=ps) rd,L1J];obtain⟨O,h⟩:=h;split at h
   .rename_i es hes;obtain⟨N,W,S,Q,V⟩:=h;refine⟨N,W,S,Q,?_⟩;rw[V1z g λj cs p=>hz j cs p d];refine⟨_,Y0f (s:={ s.kill d with rw:=λj=>if j=d then some ⟨sz,es,false⟩else(s.kill d).rw j }) g,V,λk m=>?_⟩;have hkd:d≠k:=λe=>(u k m).2.2.2 e.symm;exact(((u k m).2.1.kill (i:=d)).row hkd).set (by simp[AV.dead,hkd])
   cases h
 |ap d x y sz by' =>
  have g:B d=none:=J;simp only[zw]at h;have ex:=R (x:=x) (λt h=>by simp[LOp.rdE,h]);have ey:=R (x:=y) (λt h=>by simp[LOp.rdE,h]);obtain⟨O,h⟩:=h;simp only[wop,ex,ey,Y2x]at h ⊢;have Y:(s.wb B).rw=s.rw:=rfl;have T:∀(q:Nat) (r0 r1:Row) (K0:St->Prop),(∀k,(A k).isSome=true->k≠q)->K0 (St.set { s.kill q with rw:=λj=>if j=q then some r1 else(s.kill q).rw j } d (.sref q)) -> ∃H,St.set { (s.wb B).kill q with rw:=λj=>if j=q then some r1 else((s.wb B).kill q).rw j } d (.sref q)=H.wb B/\K0 H/\∀k,(A k).isSome=true->Free k H:=by intro q r0 r1 K0 hq hK0;rw[V1z (nB q hq) λj cs p=>hz j cs p q];refine⟨_,Y0f (s:={ s.kill q with rw:=λj=>if j=q then some r1 else(s.kill q).rw j }) g,hK0,λk m=>?_⟩;have hkq:q≠k:=λe=>hq k m e.symm;exact(((u k m).2.1.kill (i:=q)).row hkq).set (by simp[AV.dead,hkq])
  split at h
  .rename_i sy news hy;split at h
   .rename_i k D;split at h
    .rename_i r L;simp only[Y,L];obtain⟨N,W,S,Q,V⟩:=h;refine⟨N,W,S,Q,T k r _ K (λj p e=>?_) V⟩;subst e;rw[(u j p).2.1.rw]at L;cases L
    cases h
   .rename_i D;obtain⟨S,Q,V⟩:=h;exact⟨S,Q,T d ⟨0,[],false⟩ _ K (λj p=>(u j p).2.2.2) V⟩
   cases h
  .rename_i hy;split at h
   .rename_i k D;split at h
    .rename_i r L;simp only[Y,L];rw[Y0f g];refine⟨_,rfl,h,λj p=>(u j p).2.1.set ?_⟩;have hjk:k≠j:=λe=>by subst e;rw[(u k p).2.1.rw]at L;cases L
     simp[AV.dead,hjk]
    cases h
   .rename_i D;exact T d ⟨0,[],false⟩ _ K (λj p=>(u j p).2.2.2) h
   cases h
  cases h
 |cm d f xs =>
  have g:B d=none:=J;simp only[zw]at h;obtain⟨o,bin,N,W,S,Q,Φ,hC,h⟩:=h;have hBk:∀k∈o,B k=none:=λk m=>nB k λj p e=>by have:=N k m;have:=(u j p).1;omega
  have eg:(xs.map λx=>(((s.wb B).get x).mp (ix o) (ix [])).rdt)=xs.map λx=>((s.get x).mp (ix o) (ix [])).rdt:=by apply List.map_congr_left;intro x D;rw[R (x:=x) λt E=>List.mem_flatMap.2 ⟨x,D,E⟩]
  have atb:∀(ks:List Nat) (bs:List (List AV)) (fb fr:Nat->Option Nat),(∀k∈ks,B k=none)->UU s fb fr ks bs->UU (s.wb B) fb fr ks bs:=by intro ks;induction ks with|nil=>intro bs fb fr _ h;cases bs<;>exact h|cons k ks ih =>intro bs fb fr m h;cases bs with|nil=>exact h|cons b bs=>exact⟨by simpa[St.wb,m k (by simp)]using h.1,ih bs fb fr (λj p=>m j (by simp[p])) h.2⟩
  apply zw_cm;simp only[zw];refine⟨o,bin,N,W,atb _ _ _ _ hBk S,⟨Q.1,λx D=>by rw[R (x:=x) λt E=>List.mem_flatMap.2 ⟨x,D,E⟩];exact Q.2 x D⟩,Φ,by rw[eg];exact hC,λn1 I w us new q0 q1 q2=>?_⟩;obtain⟨q3,q4⟩:=h n1 I w us new q0 q1 q2;refine⟨q3,afterM s n1 d o [] I w [] [],?_,q4,λk m=>?_⟩
  .have hbf:∀k,(B k).isSome=true->k∉o/\bxf o (w.map (mpL (fbB o) (frB [] [] (1000*d+1000) ([]:List Row).length))) k=none:=λk m=>by
    have Z:k∉o:=λhm=>by have:=hBk k hm;rw[this]at m;cases m
    refine⟨Z,?_⟩;cases D:bxf o (w.map (mpL (fbB o) (frB [] [] (1000*d+1000) ([]:List Row).length))) k with|none=>rfl|some b =>obtain⟨i,G,_⟩:=V1m D;exact absurd (yE G) Z
   refine Ls (λt=>?_) (λk=>?_) rfl
   .simp only[afterM,St.set,upd,Xf,St.addrows,setRows,drops,St.kill2,St.wb];by_cases E:t=d
    .subst E;simp[g]
    simp[E]
   simp only[afterM,St.set,Xf,St.addrows,setRows,drops,St.kill2,St.wb];cases O:B k with|none=>rfl|some cs =>obtain⟨n1,n2⟩:=hbf k (by rw[O];rfl);rw[n2,ye n1]
  have Fk:=(u k m).2.1;have hlt:=(u k m).1;have hfb:∀i j,fbB o i=some j->j≠k:=λi j h=>by have:=N j (yE h);omega
  have hfr:∀i j,frB [] [] (1000*d+1000) ([]:List Row).length i=some j->j≠k:=by simp[frB]
  refine⟨λt=>?_,?_,?_,λj cs p=>?_⟩
  .simp only[afterM,St.set,upd,Xf,St.addrows,setRows,drops,St.kill2];split
   .exact W2a hfb hfr I
   exact Fk.e t
  .have Z:k∉o:=λhm=>by have:=N k hm;omega
   have O:bxf o (w.map (mpL (fbB o) (frB [] [] (1000*d+1000) ([]:List Row).length))) k=none:=by cases D:bxf o (w.map (mpL (fbB o) (frB [] [] (1000*d+1000) ([]:List Row).length))) k with|none=>rfl|some b =>obtain⟨i,G,_⟩:=V1m D;exact absurd (yE G) Z
   simp only[afterM,St.set,Xf,O,St.addrows,setRows,drops,St.kill2,ye Z];exact Fk.bx
  .simp only[afterM,St.set,Xf,St.addrows,setRows,drops,St.kill2,upf];exact Fk.rw
  simp only[afterM,St.set,Xf,St.addrows,setRows,drops,St.kill2]at p;split at p
  .rename_i b O;cases p;obtain⟨i,_,G⟩:=V1m O;rw[yF]at G;obtain⟨b0,_,rfl⟩:=yC G;exact Q0N hfb hfr b0
  split at p
  .obtain⟨c0,h0,rfl⟩:=yC p;rw[Yd,List.map_replicate];rfl
  exact Fk.bd j cs p
 |cl d f xs =>have g:B d=none:=J;simp only[zw,wop,St.args]at h ⊢;rw[O25 (xs:=xs) (λt E=>rd t (List.mem_append_right _ E)),L1J];obtain⟨as,N,I,rows,W,hr8,hd,S,Q,V⟩:=h;have U:∀k,(A k).isSome=true->∀i,i<rows.length->k≠1000*d+1000+i:=λk m i G e=>(u k m).2.2.1 (by rw[e];exact List.mem_append_left _ (U20 (by omega)));refine⟨as,N,I,rows,W,by omega,?_⟩;rw[M1v rows (1000*d+1000) s (λi G=>nB _ λk m=>U k m i G) hz];exact⟨_,Y0f g,V,λk m=>(Y11 rows (1000*d+1000) s (u k m).2.1 (U k m)).set (hd k (U k m))⟩|sc d x lo G n =>
  cases x with|c a=>cases lo<;>cases G<;>simp[isE,isQE]at M|t x =>
  cases lo with|some _=>cases G<;>simp[isE,isQE]at M|none =>
  cases G with|some _=>grind[isE,isQE,isQ1]|none =>
  have g:B d=none:=J;simp only[zw,wop,St.hi,St.lo]at h ⊢;rw[R (x:=.t x) (λt h=>by simpa[LOp.rdE,LOp.rds,rdO]using h),show(s.wb B).rw=s.rw from rfl];split at h
  .exact⟨h.1,h.2.1,_,Y0f g,h.2.2,λk m=>(u k m).2.1.set rfl⟩
  .rename_i k D;split at h
   .rename_i r L;refine⟨h.1,_,(by rw[show({ s.wb B with rw:=λj=>if j=k then some { r with sh:=true } else s.rw j }:St)=({ s with rw:=λj=>if j=k then some { r with sh:=true } else s.rw j }:St).wb B from rfl,Y0f g]),h.2,λj p=>?_⟩;have F:=(u j p).2.1;refine Free.set (s:={ s with rw:=λj=>if j=k then some { r with sh:=true } else s.rw j }) ⟨F.e,F.bx,?_,F.bd⟩ rfl;show(if j=k then some { r with sh:=true } else s.rw j)=none;have:j≠k:=λe=>by subst e;rw[F.rw]at L;cases L
    rw[ye this];exact F.rw
   cases h
  .exact⟨_,Y0f g,h,λk m=>(u k m).2.1.set rfl⟩
  cases h
 |ln d x =>
  cases x with|c a=>grind[isE,isQE,isQ1]|t x =>
  have g:B d=none:=J;simp only[zw,wop]at h ⊢;rw[R (x:=.t x) (λt h=>h),show(s.wb B).rw=s.rw from rfl];have fin:∀n:Int,K (s.set d (.int .i64 n))->∃H,(s.wb B).set d (.int .i64 n)=H.wb B/\K H/\∀k,(A k).isSome=true->Free k H:=λn m=>⟨_,Y0f g,m,λk m=>(u k m).2.1.set rfl⟩;grind
 |_=>first
   |exact effBQ M hBA u J rd h
   | (simp[isE,isQE,isQ1]at M;done)
end
abbrev ZA:=Nat×Nat×List AV
def alZ(s:St):List ZA->St
 |[]=>s| (_,d,z)::r=>alZ { s with e:=upd s.e d (.ptr d 0),bx:=λk=>if k=d then some z else s.bx k } r
def zl:List ZA->Nat->Option (Nat×List AV)
 |[],_=>none| (i,d,z)::r,k=>if d=k then some (i,z)else zl r k
theorem Y10:∀{als:List ZA}{k i:Nat}{z:List AV},zl als k=some (i,z)->(i,k,z)∈als
 |[],_,_,_,h=>by simp[zl]at h| (i',d,z')::r,k,i,z,h=>by
  simp[zl]at h;split at h
  .rename_i e;subst e;cases h;simp
  .exact yH _ (Y10 h)
theorem M1Y:∀{als:List ZA}{k i:Nat}{z:List AV},(als.map (·.2.1)).Nodup->(i,k,z)∈als->zl als k=some (i,z)
 |[],_,_,_,_,h=>by simp at h| (i',d,z')::r,k,i,z,hn,h=>by
  rw[List.map_cons,List.nodup_cons]at hn;simp[zl];rcases yX h with h|h
  .cases h;simp
  .have:d≠k:=λe=>by subst e;exact hn.1 (List.mem_map.2 ⟨_,h,rfl⟩)
   rw[ye this];exact M1Y hn.2 h
open Classical in
noncomputable def zB(als:List ZA)(L:Nat->Prop)(k:Nat):Option (List AV):=match zl als k with
 |some (i,z)=>if L i then some z else none
 |none=>none
theorem Q25(als:List ZA)(L:Nat->Prop):(als.map (·.2.1)).Nodup->(∀a∈als,L a.1)->∀s:St,s.wb (zB als L)=alZ s als:=by
 induction als with
 |nil =>intro _ _ s;exact Ls (by simp[St.wb,zB,zl,alZ]) (by simp[St.wb,zB,zl,alZ]) rfl|cons a r c =>
  obtain⟨i,d,z⟩:=a;intro b f s;rw[List.map_cons,List.nodup_cons]at b;simp[alZ];rw[← c b.2 (λa e=>f a (by simp[e]))];have j:zB r L d=none:=by unfold zB;cases h:zl r d with|none=>rfl|some q=>obtain⟨g,z'⟩:=q;exact absurd (List.mem_map.2 ⟨_,Y10 h,rfl⟩) b.1
  have m:zB ((i,d,z)::r) L d=some z:=by simp_all[zB,zl]
  have l:∀k,k≠d->zB ((i,d,z)::r) L k=zB r L k:=by simp_all[zB,zl,Ne.symm]
  refine Ls (λt=>?_) (λt=>?_) rfl
  .grind[St.wb,upd]
  simp[St.wb];grind
theorem O0V(j:Nat):∀{z:List AV},z.all plain=true->U7 j z=z
 |[],_=>rfl|a::z,h=>by simp only[List.all_cons,yD]at h;rw[U7,O0V j h.2];cases a<;>simp[plain]at h<;>simp[AV.dead]
theorem W1V{als:List ZA}{L:Nat->Prop}(h:∀a∈als,a.2.2.all plain=true){k:Nat}{cs:List AV}(b:zB als L k=some cs)(j:Nat):U7 j cs=cs:=by
 unfold zB at b;split at b
 .rename_i i z c;split at b
  .cases b;exact O0V j (h _ (Y10 c))
  cases b
 cases b
def ZK(P:Program)(c:Zc)(ow:List Nat):List (Bool×LOp)->(St->Prop)->St->Prop
 |[],K,s=>K s| (true,l)::r,K,s=>zw P l (ZK P c ow r K) s| (false,l)::r,K,s=>((∀t∈l.rds,kfz c s (s.e t)=true)\/L1K r=true)/\scOk ((s.hide ow).stripc c) l/\wop P l (λs'=>kfz c (s.hide ow) (s'.e l.dst)=true/\ZK P c ow r K (s.set l.dst (s'.e l.dst))) ((s.hide ow).stripc c)
abbrev ZI:=Nat×Bool×LOp
def rdz(it:ZI):List Nat:=if it.2.1 then it.2.2.rdE else it.2.2.rds
def zrd(rs:List Nat)(mask j:Nat):List ZI->Nat->Bool
 |[],_=>true|it::r,k=>(!rs.contains it.2.2.dst||(mask.testBit it.1&&decide (k<j)))&&zrd rs mask j r (k+1)
def zeff(mask j:Nat):List ZI->Nat->Bool
 |[],_=>true|it::r,k=>(!it.2.1||!decide (k<j)||mask.testBit it.1)&&zeff mask j r (k+1)
def Q2v(P:Program)(nt:Nat)(ops:Array Oper)(N:Nat)(items:List ZI)(mks:List Nat)(j:Nat)(it:ZI):Bool :=
 match ops[it.1]? with
 |some o=>decide (it.1<N)&&chk1 P nt ops it.2.2 o&&(if it.2.1 then isE it.2.2 else isQ it.2.2)&&zrd (rdz it) (mks.getD it.1 0) j items 0&&zeff (mks.getD it.1 0) j items 0
 |none=>false
def zall(P:Program)(nt:Nat)(ops:Array Oper)(N:Nat)(items:List ZI)(mks:List Nat):List ZI->Nat->Bool
 |[],_=>true|it::r,j=>Q2v P nt ops N items mks j it&&zall P nt ops N items mks r (j+1)
def t1op(als:List ZA)(ow:List Nat):LOp->Bool
 |.st (.t d) _ _=>(als.any λa=>a.2.1==d)||ow.contains d|.mv d _=>(als.all λa=>!(a.2.1==d))&&!ow.contains d|_=>false
def V1n:LOp->List Nat
 |.st p x _=>p.rd++x.rd|.mv _ x=>x.rd|_=>[]
def t1it(items:List ZI):LOp->Bool
 |.mv d _=>items.all λit=>!(rdz it).contains d&&!(it.2.2.dst==d)|_=>true
def isMvO:LOp->Bool
 |.mv _ _=>true|_=>false
theorem Z2j{l:LOp}(h:isMvO l=true):∃d x,l=.mv d x:=by cases l<;>simp[isMvO]at h;simp
def isStO:LOp->Bool
 |.st _ _ _=>true|_=>false
theorem J2i{l:LOp}(h:isStO l=true):∃p x n,l=.st p x n:=by cases l<;>simp[isStO]at h;simp
def W26(mask N i:Nat)(als:List ZA)(items:List ZI)(l:LOp):Bool :=isStO l&&als.all (λa=>mask.testBit a.1)&&items.all (λit=>mask.testBit it.1||(isMvO it.2.2&&!it.2.1&&!(V1n l).contains it.2.2.dst))&&(List.range i).all λj=>decide (j<N)||mask.testBit j
def O26(mask N i:Nat)(als:List ZA)(ow:List Nat)(items:List ZI)(l:LOp):Bool :=t1op als ow l&&t1it items l&&als.all (λa=>mask.testBit a.1)&&items.all (λit=>!(it.2.1||(V1n l).contains it.2.2.dst)||mask.testBit it.1)&&(List.range i).all λj=>decide (j<N)||mask.testBit j
def ztl(P:Program)(nt:Nat)(ops:Array Oper)(als:List ZA)(ow:List Nat)(items:List ZI)(mks:List Nat):List LOp->Nat->Bool
 |[],i=>i==ops.size|l::r,i=>(match ops[i]? with|some o=>chk1 P nt ops l o|none=>false)&&(L0Z (mks.getD i 0) i||O26 (mks.getD i 0) (als.length+items.length) i als ow items l||W26 (mks.getD i 0) (als.length+items.length) i als items l)&&ztl P nt ops als ow items mks r (i+1)
def Z2h:List Oper->Nat->Bool
 |[],_=>true|o::os,i=>(o.after.toList.all λe=>!Region.binds .any e||decide (e.on<i))&&Z2h os (i+1)
def chkA(P:Program)(nt:Nat)(ops:Array Oper)(N:Nat)(items:List ZI)(a:ZA):Bool :=(match ops[a.1]? with|some o=>chk1 P nt ops (.al a.2.1 a.2.2) o|none=>false)&&decide (a.1<N)&&a.2.2.all plain&&items.all λit=>!(it.1==a.1)&&!(it.2.2.dst==a.2.1)&&!(rdz it).contains a.2.1
def chkZ(P:Program)(nt:Nat)(ops:Array Oper)(ow:List Nat)(als:List ZA)(items:List ZI)(tl:List LOp):Bool :=
 U0a (items.map (·.1))&&U0a (items.map (·.2.2.dst))&&(List.range (als.length+items.length)).all (λi=>(items.map (·.1)).contains i||(als.map (·.1)).contains i)&&zall P nt ops (als.length+items.length) items (Z0d ops.toList []) items 0 &&
  ztl P nt ops als ow items (Z0d ops.toList []) tl (als.length+items.length)&&Z2h ops.toList 0&&U0a (als.map (·.1))&&U0a (als.map (·.2.1))&&als.all (chkA P nt ops (als.length+items.length) items)&&als.all (λa=>!ow.contains a.2.1)
theorem U2l{c:List Nat}{a j:Nat}:∀{r:List ZI}{k:Nat},zrd c a j r k=true->∀(i:Nat)(b:ZI),r[i]?=some b->b.2.2.dst∈c->a.testBit b.1=true/\k+i<j
 |[],_,_,i,b,h,_=>by simp at h|x::r,k,h,i,b,hi,hm=>by
  simp only[zrd,yD,Bool.or_eq_true,Bool.not_eq_true',yO]at h;cases i with
  |zero =>
   simp at hi;subst hi;rcases h.1 with h|h
   .rw[List.contains_iff_mem.2 hm]at h;cases h
   .exact h
  |succ i=>have:=U2l h.2 i b (by simpa using hi) hm;rwa [show k+(i+1)=k+1+i by omega]
theorem V25{a j:Nat}:∀{r:List ZI}{k:Nat},zeff a j r k=true->∀(i:Nat)(b:ZI),r[i]?=some b->b.2.1=true->k+i<j->a.testBit b.1=true
 |[],_,_,i,b,h,_,_=>by simp at h|x::r,k,h,i,b,hi,hm,hlt=>by
  simp only[zeff,yD,Bool.or_eq_true,Bool.not_eq_true',decide_eq_false_iff_not]at h;cases i with
  |zero =>
   simp at hi;subst hi;rcases h.1 with(h|h)|h
   .rw[hm]at h;cases h
   .exact absurd (by simpa using hlt) h
   .exact h
  |succ i=>exact V25 h.2 i b (by simpa using hi) hm (by omega)
theorem U25{P:Program}{e:Nat}{b:Array Oper}{N:Nat}{a:List ZI}{c:List Nat}:∀{r:List ZI}{k:Nat},zall P e b N a c r k=true->∀(i:Nat)(d:ZI),r[i]?=some d->Q2v P e b N a c (k+i) d=true
 |[],_,_,i,d,h=>by simp at h|x::r,k,h,i,d,hi=>by simp[zall]at h;cases i with|zero=>simp at hi;subst hi;exact h.1|succ i=>have:=U25 h.2 i d (by simpa using hi);rwa [show k+(i+1)=k+1+i by omega]
theorem V2l{P:Program}{e:Nat}{b:Array Oper}{als:List ZA}{ow:List Nat}{a:List ZI}{c:List Nat}:∀{r:List LOp}{k:Nat},ztl P e b als ow a c r k=true->k+r.length=b.size /\ ∀(i:Nat)(l:LOp),r[i]?=some l->(∃o,b[k+i]?=some o/\chk1 P e b l o=true)/\(L0Z (c.getD (k+i) 0) (k+i)||O26 (c.getD (k+i) 0) (als.length+a.length) (k+i) als ow a l||W26 (c.getD (k+i) 0) (als.length+a.length) (k+i) als a l)=true
 |[],k,h=>⟨by simpa[ztl]using h,by intro i l h;simp at h⟩|x::r,k,h=>by
  simp only[ztl,yD]at h;obtain⟨j,f⟩:=V2l h.2;refine⟨by simp;omega,λi l d=>?_⟩;cases i with
  |zero =>
   simp at d;subst d;refine⟨?_,h.1.2⟩;have:=h.1.1;split at this
   .rename_i o g;exact⟨o,g,this⟩
   .cases this
  |succ i=>have:=f i l (by simpa using d);rwa [show k+(i+1)=k+1+i by omega]
theorem Q1V:∀{a:List Oper}{k:Nat},Z2h a k=true->∀(i:Nat)(o:Oper),a[i]?=some o->∀e∈o.after,Region.binds .any e=true->e.on<k+i
 |[],_,_,i,o,h,_,_,_=>by simp at h|x::a,k,h,i,o,hi,e,he,hb=>by simp only[Z2h,yD,List.all_eq_true]at h;cases i with|zero =>simp at hi;subst hi;have:=h.1 e (by simpa using he);simpa[hb]using this|succ i=>have:=Q1V h.2 i o (by simpa using hi) e he hb;omega
structure OkZ(P:Program)(nt:Nat)(ops:Array Oper)(ow:List Nat)(als:List ZA)(items:List ZI)(tl:List LOp):Prop where
 surj:∀i,i<als.length+items.length->(∃(j:Nat) (it:ZI),items[j]?=some it/\it.1=i)\/∃a∈als,a.1=i
 inj:∀(j j':Nat) (it it':ZI),items[j]?=some it->items[j']?=some it'->it.1=it'.1->j=j'
 dst:∀(j j':Nat) (it it':ZI),items[j]?=some it->items[j']?=some it'->it.2.2.dst=it'.2.2.dst->j=j'
 item:∀(j:Nat) (it:ZI),items[j]?=some it->it.1<als.length+items.length/\∃o,ops[it.1]?=some o/\chk1 P nt ops it.2.2 o=true/\(if it.2.1 then isE it.2.2 else isQ it.2.2)=true /\
  ∀L,Clo ops L->(∀e∈o.after,Region.binds .any e=true->L e.on)->(∀(j':Nat) (it':ZI),items[j']?=some it'->it'.2.2.dst∈rdz it->L it'.1/\j'<j) /\
   (∀(j':Nat) (it':ZI),items[j']?=some it'->it'.2.1=true->j'<j->L it'.1)
 edge:∀(i:Nat) (o:Oper),ops[i]?=some o->∀e∈o.after,Region.binds .any e=true->e.on<i
 tlen:als.length+items.length+tl.length=ops.size
 tone:∀(i:Nat) (l:LOp),tl[i]?=some l->∃o,ops[als.length+items.length+i]?=some o/\chk1 P nt ops l o=true
 tl:∀(i:Nat) (l:LOp) (o:Oper) (L:Nat->Prop),tl[i]?=some l->ops[als.length+items.length+i]?=some o->Clo ops L->(∀e∈o.after,Region.binds .any e=true->L e.on)->(∀j,j<als.length+items.length+i->L j) \/
  (t1op als ow l=true/\t1it items l=true/\(∀a∈als,L a.1)/\(∀(j:Nat) (it:ZI),items[j]?=some it->it.2.1=true\/it.2.2.dst∈V1n l->L it.1)/\∀j,als.length+items.length<=j->j<als.length+items.length+i->L j) \/
  (isStO l=true/\(∀a∈als,L a.1)/\(∀(j:Nat) (it:ZI),items[j]?=some it->L it.1\/isMvO it.2.2=true/\it.2.1=false/\it.2.2.dst∉V1n l)/\∀j,als.length+items.length<=j->j<als.length+items.length+i->L j)
 ao:∀a∈als,a.2.1∉ow
 ad:(als.map (·.2.1)).Nodup
 ai:∀a∈als,∀a'∈als,a.1=a'.1->a=a'
 al:∀a∈als,a.1<als.length+items.length/\(∃o,ops[a.1]?=some o/\chk1 P nt ops (.al a.2.1 a.2.2) o=true)/\a.2.2.all plain=true/\∀it∈items,it.1≠a.1/\it.2.2.dst≠a.2.1/\a.2.1∉rdz it
theorem Q1M{α:Type}{f:ZI->α}{a:List ZI}(h:(a.map f).Nodup){j d:Nat}{g b:ZI}(i:a[j]?=some g)(c:a[d]?=some b)(e:f g=f b):j=d:=by have m:=(yB i).1;have l:=(yB c).1;have o:=(yB i).2;have n:=(yB c).2;have k:=List.pairwise_iff_getElem.1 h;grind
theorem U2v{P:Program}{Z:Nat}{d:Array Oper}{ow:List Nat}{als:List ZA}{s:List ZI}{W:List LOp}(h:chkZ P Z d ow als s W=true):OkZ P Z d ow als s W:=by
 simp only[chkZ,yD]at h;obtain⟨⟨⟨⟨⟨⟨⟨⟨⟨h1,h2⟩,h3⟩,h4⟩,h5⟩,h6⟩,h7⟩,h8⟩,h9⟩,N⟩:=h;have w:∀i,i<d.size->J20 d i ((Z0d d.toList []).getD i 0):=λi J=>J1C d.toList [] (by simp) (by simp) i (by simpa using J);have n:∀{i:Nat} {o:Oper},d[i]?=some o->i<d.size:=λh=>(Array.getElem?_eq_some_iff.1 h).1;obtain⟨t1,X⟩:=V2l h5;refine⟨λi J=>?_,λj v k t m c e=>Q1M (f:=λk=>k.1) (Lx h1) m c e,λj v k t m c e=>Q1M (f:=λk=>k.2.2.dst) (Lx h2) m c e, λj k m=>?_,λi o r e z K=>by have:=Q1V h6 i o (by simpa using r) e z K;omega,t1,λi l hl=>(X i l hl).1,λi l o L H r E z=>?_,λa u w=>(by have:=List.all_eq_true.1 N a u;rw[List.contains_iff_mem.2 w]at this;cases this),Lx h8,λa u a' M e=>?_,λa u=>?_⟩
 .have:=List.all_eq_true.1 h3 i (by simpa using J);rw[Bool.or_eq_true]at this;rcases this with this|this
  .obtain⟨k,y,e⟩:=yY (List.contains_iff_mem.1 this);obtain⟨j,m,rfl⟩:=List.getElem_of_mem y;exact .inl ⟨j,_,yA m,e⟩
  obtain⟨a,u,e⟩:=yY (List.contains_iff_mem.1 this);exact .inr ⟨a,u,e⟩
 .have A:=U25 h4 j k m;rw[Nat.zero_add]at A;unfold Q2v at A;split at A
  .rename_i o r;simp only[yD,yO]at A;obtain⟨⟨⟨⟨B,R⟩,Q⟩,O⟩,c5⟩:=A;refine⟨B,o,r,R,Q,λL E z=>⟨λv t c hr=>?_,λv t c hf hlt=>?_⟩⟩
   .obtain⟨b,q⟩:=U2l O v t c hr;exact⟨w k.1 (n r) L E (λo' g=>by rw[r]at g;cases g;exact z) _ b,by omega⟩
   exact w k.1 (n r) L E (λo' g=>by rw[r]at g;cases g;exact z) _ (V25 c5 v t c hf (by omega))
  cases A
 .have I:=n r;have p:=λj K=>w _ I L E (λo' g=>by rw[r]at g;cases g;exact z) j K;have b:=(X i l H).2;rw[Bool.or_eq_true,Bool.or_eq_true]at b;rcases b with(b|b)|b;rotate_right
  .simp only[W26,yD,List.all_eq_true]at b;obtain⟨⟨⟨V,U⟩,T⟩,S⟩:=b;refine .inr (.inr ⟨V,λa u=>p _ (U a u),λj k m=>?_,λj G x=>p _ ?_⟩)
   .have:=T k (yE m);simp only[Bool.or_eq_true,yD,Bool.not_eq_true']at this;rcases this with q|⟨⟨D,C⟩,Y⟩
    .exact .inl (p _ q)
    exact .inr ⟨D,C,λh=>by rw[List.contains_iff_mem.2 h]at Y;cases Y⟩
   have:=S j (by simpa using x);simp only[Bool.or_eq_true,yO]at this;exact this.resolve_left (by omega)
  .exact .inl λj m=>p j (M0Z b j m)
  simp only[O26,yD,List.all_eq_true]at b;obtain⟨⟨⟨⟨V,b0⟩,U⟩,T⟩,S⟩:=b;refine .inr (.inl ⟨V,b0,λa u=>p _ (U a u),λj k m F=>p _ ?_,λj G x=>p _ ?_⟩)
  .have:=T k (yE m);simp only[Bool.or_eq_true,Bool.not_eq_true',Bool.or_eq_false_iff]at this;rcases this with⟨D,C⟩|q
   .rcases F with h|h
    .rw[h]at D;cases D
    rw[List.contains_iff_mem.2 h]at C;cases C
   exact q
  have:=S j (by simpa using x);simp only[Bool.or_eq_true,yO]at this;exact this.resolve_left (by omega)
 .obtain⟨j,m,rfl⟩:=List.getElem_of_mem u;obtain⟨v,c,rfl⟩:=List.getElem_of_mem M;have hp:=List.pairwise_iff_getElem.1 (Lx h7);rcases Nat.lt_trichotomy j v with q|q|q
  .exact absurd (by rw[List.getElem_map,List.getElem_map];exact e) (hp j v (by simpa using m) (by simpa using c) q)
  .subst q;rfl
  exact absurd (by rw[List.getElem_map,List.getElem_map];exact e.symm) (hp v j (by simpa using c) (by simpa using m) q)
 have:=List.all_eq_true.1 h9 a u;simp only[chkA,yD,yO]at this;obtain⟨⟨⟨B,R⟩,Q⟩,O⟩:=this;refine⟨R,?_,Q,λk y=>?_⟩
 .split at B
  .rename_i o r;exact⟨o,r,B⟩
  cases B
 have:=List.all_eq_true.1 O k y;simp only[yD,Bool.not_eq_true',beq_eq_false_iff_ne]at this;refine⟨this.1.1,this.1.2,λw=>?_⟩;have h':=this.2;rw[List.contains_iff_mem.2 w]at h';cases h'
def Yz(P:Program)(cb:Zc)(l:LOp)(s:St)(v:AV):Prop:=∀s',(∀t,t∈l.rds->s'.e t=s.e t)->BxA cb s s'->∀K:St->Prop,K (s'.set l.dst v)->wop P l K s'
theorem J2w{P:Program}{ck:List Nat}{l:LOp}{s:St}{v:AV}(h:Yld P l (s.stripS ck) v):Yz P (.s ck) l s v:=by
 intro s' i d K g;refine h s' ⟨i,λk cs a=>?_,λk r b=>?_⟩ K g
 .simp only[St.stripS]at a;split at a
  .rename_i c;split at a
   .rename_i c0 j;split at a
    .rename_i e;cases a;exact d.1 k cs c j e
    cases a
   cases a
  cases a
 simp only[St.stripS]at b;split at b
 .cases b
 rename_i f;exact d.2 k r f b
theorem yz_of{P:Program}{l:LOp}{s:St}{v:AV}(h:Yld P l s.strip v):Yz P .t l s v:=by
 intro s' g f K e;refine h s' ⟨g,λk cs a=>?_,λk r c=>by cases c⟩ K e;simp only[St.strip]at a;split at a
 .rename_i b;split at a
  .rename_i c0 i;split at a
   .rename_i d;cases a;exact f k cs b i d
   cases a
  cases a
 cases a
theorem O1d{b:Nat->Bool}:∀{cs:List AV}{i:Nat}{a:AV},(Y0C b cs)[i]?=some a->a.kf b=true->cs[i]?=some a
 |[],i,a,h,_=>by simp[Y0C]at h|x::cs,0,a,h,hk=>by
  simp[Y0C]at h ⊢;split at h
  .exact h
  .subst h;simp[AV.kf]at hk
 |x::cs,i+1,a,h,hk=>by simp[Y0C,List.getElem?_cons_succ]at h ⊢;exact O1d h hk
theorem W1d{b:Nat->Bool}:∀cs:List AV,(Y0C b cs).length=cs.length
 |[]=>rfl|x::cs=>by simp[Y0C,W1d cs]
theorem Q2b{b:Nat->Bool}:∀{cs:List AV},kfL b cs=true->∀(i:Nat)(a:AV),cs[i]?=some a->a.kf b=true
 |[],_,i,a,h=>by simp at h|x::cs,h,0,a,ha=>by simp[kfL]at h;simp at ha;subst ha;exact h.1|x::cs,h,i+1,a,ha=>by simp[kfL]at h;exact Q2b h.2 i a (by simpa using ha)
theorem W28{b:Nat->Bool}{cs a:List AV}(e:BxLe b cs a){off n:Nat}{g:Bool}{v:AV}(h:U0u (Y0C b cs) off n g=some v)(c:v.kf b=true):U0u a off n g=some v:=by
 unfold U0u at h ⊢;rw[W1d]at h;rw[e.1];cases g with
 |false =>simp[]at h ⊢;exact e.2 _ _ (O1d h c) c|true =>
  simp only[yb]at h ⊢;split at h
  .rename_i l;rw[yd l];cases h;simp[AV.kf]at c;congr 2;apply List.ext_getElem?;intro i;have k:=Q2b c i;rw[List.getElem?_take,List.getElem?_take];by_cases d:i<n
   .rw[yd d,yd d,List.getElem?_drop,List.getElem?_drop];have j:off+i<(Y0C b cs).length:=by rw[W1d];omega
    have f:(Y0C b cs)[off+i]?=some (Y0C b cs)[off+i]:=by simp
    rw[f];have:=k (Y0C b cs)[off+i] (by rw[List.getElem?_take,yd d,List.getElem?_drop,f]);exact e.2 _ _ (O1d f this) this
   grind
  cases h
def St.nob(s:St):St:={ s with bx:=λ_=>none }
section
variable{s:St}
mutual
theorem O29:∀a,s.nob.dt a=s.dt a
 |.bool _ | .int _ _ | .str _ | .nl | .el | .sl _ _ _ | .tup _ | .ptr _ _ | .ept _ _ | .eot _ _ | .rpt _ _ _ | .od _ _ _ | .op _ _ _ | .und | .bad=>by simp[St.dt]
 |.sref k=>by simp[St.dt,St.nob]
 |.agg cs=>by rw[St.dt,St.dt,Y1d cs]
 |.fn f cs=>by rw[St.dt,St.dt,Y1d cs]
theorem Y1d:∀l,s.nob.dtL l=s.dtL l
 |[]=>by simp[St.dtL]
 |a::l=>by rw[St.dtL,St.dtL,O29 a,Y1d l]
end
theorem L0V(x:X):s.nob.get x=s.get x:=by cases x<;>rfl
theorem U1Y(xs:List X):xs.map s.nob.get=xs.map s.get:=by simp[List.map_congr_left,L0V]
theorem Q1Y(xs:List X):s.nob.args xs=s.args xs:=by simp[St.args,U1Y,Y1d]
end
theorem X1X{P:Program}{s:St}{Kv:AV->Prop}{l:LOp}(m:isQ1 l=true)(j:scOk s.stripF l)(h:wop P l (λs'=>(s'.e l.dst).kf (bO s)=true/\Kv (s'.e l.dst)) s.stripF):∃v,v.kf (bO s)=true/\Kv v/\Yz P .f l s v:=by
 have g:∀{l:LOp},isQ1 l=true->scOk s.stripF.nob l->wop P l (λs'=>(s'.e l.dst).kf (bO s)=true/\Kv (s'.e l.dst)) s.stripF.nob->∃v,v.kf (bO s)=true/\Kv v/\Yz P .f l s v:=by intro l m j h;obtain⟨v,⟨H,G⟩,y⟩:=L27 m j h;rw[W0I]at H G;exact⟨v,H,G,λs' q _ K w=>y s' ⟨q,λk cs N=>(by cases N),λk r M=>(by cases M)⟩ K w⟩
 have F:∀{s':St} {x:X},(∀t∈x.rd,s'.e t=s.e t)->s'.get x=s.stripF.get x:=fun{s' x} h=>by cases x with|t i=>exact h i (by simp[X.rd])|c a=>rfl
 cases l with
 |fa d x off =>
  cases hx:s.stripF.get x with
  |ptr k o =>simp[wop,hx]at h;obtain⟨O,q,u⟩:=h;rw[show(LOp.fa d x off).dst=d from rfl,W0I]at q u;refine⟨_,q,u,λs' B A K w=>?_⟩;have e:=F (s':=s') (x:=x) λt C=>B t (by simpa[LOp.rds]using C);simp[wop,e,hx];refine⟨?_,w⟩;cases hb:s.bx k with|none=>grind[St.stripF]|some cs=>obtain⟨D,z,_⟩:=A k cs hb;rw[z];rfl
  |_=>exact g m trivial (by simp[wop,L0V]at h ⊢;rw[hx]at h ⊢;exact h)
 |ld d p n Q =>
  cases hx:s.stripF.get p with
  |ptr k o =>
   simp[wop,hx,St.ld]at h;cases hb:s.bx k with
   |none=>grind[St.stripF]|some cs =>
    simp[St.stripF,hb,Option.map_some]at h;split at h
    .rename_i v L;obtain⟨q,u⟩:=h;rw[show(LOp.ld d p n Q).dst=d from rfl,W0I]at q u;refine⟨v,q,u,λs' B A K w=>?_⟩;have e:=F (s':=s') (x:=p) λt C=>B t (by simpa[LOp.rds]using C);obtain⟨D,z,J⟩:=A k cs hb;simp[wop,e,hx,St.ld,z];have:=W28 J L q;simp[this];exact w
    cases h
  |_=>exact g m trivial (by simp[wop,L0V]at h ⊢;rw[hx]at h ⊢;exact h)
 |bs d I ps E=>cases E with
  |true=>simp[isQ1]at m
  |false=>exact g m j (by simp[wop,U1Y,Y1d]at h ⊢;exact h)
 |nc d x =>
  cases hx:s.stripF.get x with
  |ptr k o =>simp[wop,hx]at h;obtain⟨O,q,u⟩:=h;rw[show(LOp.nc d x).dst=d from rfl,W0I]at q u;refine⟨_,q,u,λs' B A K w=>?_⟩;have e:=F (s':=s') (x:=x) λt C=>B t (by simpa[LOp.rds]using C);simp[wop,e,hx];refine⟨?_,w⟩;cases hb:s.bx k with|none=>grind[St.stripF]|some cs=>obtain⟨D,z,_⟩:=A k cs hb;rw[z];rfl
  |_=>exact g m trivial (by simp[wop,L0V]at h ⊢;rw[hx]at h ⊢;exact h)
 |b2s d x=>exact g m j (by simp[wop,L0V,O29]at h ⊢;exact h)|cq d f xs=>exact g m j (by simp[wop,Q1Y]at h ⊢;exact h)|cc d f xs=>exact g m j (by simp[wop,Q1Y]at h ⊢;exact h)|ae d x y I b=>exact g m j (by simp[wop,L0V,O29]at h ⊢;exact h)|_=>first|exact g m j h | (simp[isQ1]at m)
theorem Q2s{P:Program}{s:St}{Kv:AV->Prop}{l:LOp}(q:isQ l=true)(j:scOk s.stripF l)(h:wop P l (λs'=>(s'.e l.dst).kf (bO s)=true/\Kv (s'.e l.dst)) s.stripF):∃v,v.kf (bO s)=true/\Kv v/\Yz P .f l s v:=by
 cases l with
 |g t a o =>
  simp[isQ]at q;simp[wop]at h;have i:scOk s.stripF o:=by cases o<;>first|exact j|trivial
  have u:s.stripF.e t=s.e t:=rfl;have d:(s.e t=.und\/∃b,s.e t=.bool b/\b≠a)->((AV.und).kf (bO s)=true/\Kv .und)->∃v,v.kf (bO s)=true/\Kv v/\Yz P .f (.g t a o) s v:=by
   intro c r;refine⟨.und,r.1,r.2,λs' p _ w m=>?_⟩;have n:=p t (by simp[LOp.rds]);rcases c with c|⟨b,c,k⟩
   .simp[wop,n,c];exact m
   simp[wop,n,c,k];exact m
  split at h
  .rename_i b c;rw[u]at c;split at h
   .rename_i k;obtain⟨v,A,z,y⟩:=X1X (l:=o) q i h;refine⟨v,A,z,λs' p x w m=>?_⟩;have n:=p t (by simp[LOp.rds]);simp[wop,n,c,k];exact y s' (by grind[LOp.rds]) x w m
   rename_i k;exact d (by grind) (by rw[show(LOp.g t a o).dst=o.dst from rfl,W0I]at h;exact h)
  .rename_i c;rw[u]at c;exact d (.inl c) (by rw[show(LOp.g t a o).dst=o.dst from rfl,W0I]at h;exact h)
  cases h
 |_=>exact X1X q j h
section
variable{P:Program}{c:Cx}{cb:Zc}{ops:Array Oper}{ow:List Nat}{als:List ZA}{items:List ZI}{tl:List LOp}{K:St->Prop}{Q':Exit->Act->World->Prop}
structure Z(P:Program)(cb:Zc)(ow:List Nat)(items:List ZI)(K:St->Prop)(L:Nat->Prop)(q:Nat)(s sv:St):Prop where
 bx:sv.bx=s.bx
 rw:sv.rst=s.rst
 hi:∀(j:Nat) (it:ZI),items[j]?=some it->q<=j->¬ L it.1
 ef:∀(j:Nat) (it:ZI),items[j]?=some it->j<q->it.2.1=true->L it.1
 same:∀t,(∀(j:Nat) (it:ZI),items[j]?=some it->j<q->¬ L it.1->it.2.2.dst≠t)->sv.e t=s.e t
 pen:∀(j:Nat) (it:ZI),items[j]?=some it->j<q->¬ L it.1->kfz cb sv (sv.e it.2.2.dst)=true/\((∀t,t∈it.2.2.rds->kfz cb sv (sv.e t)=true)\/∀(j':Nat) (it':ZI),items[j']?=some it'->q<=j'->it'.2.1=true->W0D it'.2.2=true)/\Yz P cb it.2.2 (sv.hide ow) (sv.e it.2.2.dst)
 go:ZK P cb ow ((items.drop q).map Prod.snd) K sv
theorem Y1B:∀{l:List ZI}{n:Nat},L1K ((l.drop n).map Prod.snd)=true->∀(j:Nat)(a:ZI),l[j]?=some a->n<=j->a.2.1=true->W0D a.2.2=true
 |[],n,_,j,a,hj,_,_=>by simp at hj|x::l,0,h,j,a,hj,_,hf=>by simp[List.drop_zero,List.map_cons,L1K]at h;cases j with|zero =>simp at hj;subst hj;have:=h.1;rw[hf]at this;simpa using this|succ j=>exact Y1B (l:=l) (n:=0) (by simpa using h.2) j a (by simpa using hj) (Nat.zero_le _) hf
 |x::l,n+1,h,j,a,hj,hn,hf=>by cases j with|zero=>omega|succ j=>exact Y1B (l:=l) (n:=n) (by simpa using h) j a (by simpa using hj) (by omega) hf
theorem M06{a:ZI}(h:a.2.1=false):rdz a=a.2.2.rds:=by grind[rdz]
theorem OkZ.before(H:OkZ P c.nt ops ow als items tl){j b:Nat}{d a:ZI}(f:items[j]?=some d)(e:items[b]?=some a)(h:a.2.2.dst∈rdz d):b<j:=by obtain⟨_,o,_,_,_,g⟩:=H.item j d f;exact((g (λ_=>True) (λ_ _ _ _ _ _ _=>trivial) (by simp)).1 b a e h).2
theorem Z_adv(H:OkZ P c.nt ops ow als items tl){L:Nat->Prop}{q:Nat}{s sv:St}(z:Z P cb ow items K L q s sv){it:ZI}(hq:items[q]?=some it)(hf:it.2.1=false):∃sv',Z P cb ow items K L (q+1) s sv':=by
 obtain⟨i,f,l⟩:=it;simp only at hf;subst hf;have hlt:=(yB hq).1;have he:=(yB hq).2;have hg:=z.go;rw[List.drop_eq_getElem_cons hlt,he]at hg;simp only[List.map_cons,ZK]at hg;obtain⟨g1,g2,g3⟩:=hg;obtain⟨_,o,_,_,hQ,_⟩:=H.item q _ hq;simp[]at hQ;obtain⟨v,k1,k2,yq⟩:∃v,kfz cb sv v=true/\ZK P cb ow (List.map Prod.snd (items.drop (q+1))) K (sv.set l.dst v)/\Yz P cb l (sv.hide ow) v:=by cases cb with|t =>obtain⟨v,⟨k1,k2⟩,y⟩:=J27 hQ g2 g3;rw[W0I]at k1 k2;exact⟨v,L1D k1,k2,yz_of y⟩|s ck =>obtain⟨v,⟨k1,k2⟩,y⟩:=J27 hQ g2 g3;rw[W0I]at k1 k2;exact⟨v,L1D k1,k2,J2w y⟩|f =>obtain⟨v,k1,k2,y⟩:=Q2s (s:=sv.hide ow) (Kv:=λv=>ZK P .f ow (List.map Prod.snd (items.drop (q+1))) K (sv.set l.dst v)) hQ g2 g3;exact⟨v,L1D (c:=.f) k1,k2,y⟩
 have notrd:∀(j:Nat) (it:ZI),items[j]?=some it->j<q+1->it.2.1=false->l.dst∉it.2.2.rds:=λj it hj hjq hff hr=>by have:=H.before hj hq (by rw[M06 hff];exact hr);omega
 have eset:∀t,t≠l.dst->(sv.set l.dst v).e t=sv.e t:=by simp_all[St.set,upd]
 have pure:∀(j:Nat) (it:ZI),items[j]?=some it->j<q->¬ L it.1->it.2.1=false:=λj it hj hjq hn=>by cases hx:it.2.1 with|false=>rfl|true=>exact absurd (z.ef j it hj hjq hx) hn
 have ymono:∀(l':LOp) (v':AV),l.dst∉l'.rds->Yz P cb l' (sv.hide ow) v'->Yz P cb l' ((sv.set l.dst v).hide ow) v':=λl' v' hn hy s' h1 h2 K' hK'=>hy s' (λt ht=>by rw[h1 t ht];exact eset t (λe=>hn (by rw[← e];exact ht))) (BxA.congr (t:=sv.hide ow) (s:=(sv.set l.dst v).hide ow) rfl rfl h2) K' hK';refine⟨sv.set l.dst v,z.bx,z.rw,λj it hj hle=>z.hi j it hj (by omega),λj it hj hlt' hE=>?_,λt ht=>?_,λj it hj hlt' hn=>?_,k2⟩
 .rcases Nat.lt_or_ge j q with h|h
  .exact z.ef j it hj h hE
  have:j=q:=by omega
  subst this;rw[hq]at hj;cases hj;cases hE
 .have htd:t≠l.dst:=λe=>ht q _ hq (by omega) (z.hi q _ hq (by omega)) e.symm;rw[eset t htd];exact z.same t λj it hj hjq hn=>ht j it hj (by omega) hn
 rcases Nat.lt_or_ge j q with h|h
 .obtain⟨p1,p2,p3⟩:=z.pen j it hj h hn;have hd:it.2.2.dst≠l.dst:=λe=>by have:=H.dst j q it _ hj hq e;omega
  have hr:=notrd j it hj (by omega) (pure j it hj h hn);rw[eset _ hd];exact⟨p1,p2.imp (λp2 t ht=>by rw[eset t (λe=>hr (by rw[← e];exact ht))];exact p2 t ht) (λp2 j' it' h1 h2=>p2 j' it' h1 (by omega)),ymono _ _ hr p3⟩
 have:j=q:=by omega
 subst this;rw[hq]at hj;cases hj;have hr:=notrd j _ hq (by omega) rfl;rw[W0I];exact⟨k1,g1.imp (λg1 t ht=>by rw[eset t (λe=>hr (by rw[← e];exact ht))];exact g1 t ht) (by grind[Y1B]),ymono _ _ hr yq⟩
theorem O2p(H:OkZ P c.nt ops ow als items tl){L:Nat->Prop}{s:St}:∀(n q:Nat)(b:St),items.length-q<=n->Z P cb ow items K L q s b -> ∃(p:Nat)(a:St),Z P cb ow items K L p s a/\(items.length<=p\/∃d,items[p]?=some d/\d.2.1=true):=by
 intro n;induction n with
 |zero=>intro q b i z;exact⟨q,b,z,.inl (by omega)⟩|succ n g =>
  intro q b i z;rcases Nat.lt_or_ge q items.length with h|h
  .have e:=yA h;cases f:(items[q]).2.1 with|true=>exact⟨q,b,z,.inr ⟨_,e,f⟩⟩|false =>obtain⟨a,z'⟩:=Z_adv H z e f;exact g (q+1) a (by omega) z'
  grind
theorem W2p(H:OkZ P c.nt ops ow als items tl)(s:St):alZ s als=s.wb (zB als λ_=>True):=(Q25 als _ H.ad (by simp) s).symm
theorem L2w(H:OkZ P c.nt ops ow als items tl){a:ZA}(b:a∈als):zB als (λ_=>True) a.2.1=some a.2.2:=by unfold zB;rw[M1Y H.ad b];simp
theorem Y19{t:Nat}(h:∀a∈als,a.2.1≠t):zB als (λ_=>True) t=none:=by unfold zB;cases hz:zl als t with|none=>rfl|some q=>obtain⟨i,z⟩:=q;exact absurd rfl (h _ (Y10 hz))
structure ZB(P:Program)(cb:Zc)(ow:List Nat)(als:List ZA)(items:List ZI)(L:Nat->Prop)(sv u uv:St):Prop where
 bxs:(∀(j:Nat) (it:ZI),items[j]?=some it->¬ L it.1->isMvO it.2.2=true)\/((∀k cs,(sv.hide ow).bx k=some cs->u.bx k=some cs)/\sv.rw=u.rw)
 own:∀d∈ow,uv.e d=.ptr d 0
 ubx:uv.bx=u.bx
 rst:uv.rst=u.rst
 same:∀t,(∀(j:Nat) (it:ZI),items[j]?=some it->¬ L it.1->it.2.2.dst≠t)->uv.e t=u.e t
 pen:∀(j:Nat) (it:ZI),items[j]?=some it->¬ L it.1->it.2.1=false/\Yz P cb it.2.2 (sv.hide ow) (uv.e it.2.2.dst)/\∀t∈it.2.2.rds,uv.e t=sv.e t
 al:∀a∈als,uv.e a.2.1=.ptr a.2.1 0/\sv.bx a.2.1=none
theorem ZB.of(H:OkZ P c.nt ops ow als items tl){L:Nat->Prop}{p:Nat}{s l:St}{K:St->Prop}(z:Z P cb ow items K L p s l)(hp:items.length<=p)(F:∀a∈als,Free a.2.1 s)(r:∀d∈ow,l.e d=.ptr d 0):ZB P cb ow als items L l (alZ s als) (alZ l als):=by
 have n:∀{j:Nat} {b:ZI},items[j]?=some b->j<p:=λh=>by have:=(yB h).1;omega
 have notal:∀{j:Nat} {b:ZI},items[j]?=some b->∀a∈als,a.2.1≠b.2.2.dst/\a.2.1∉rdz b:=fun{j b} f a g=>by obtain⟨_,q1,q2⟩:=(H.al a g).2.2.2 b (by grind);grind
 rw[W2p H,W2p H];refine⟨.inr ⟨λk cs i=>?_,congrArg Prod.fst z.rw⟩,λd o=>(by rw[wb_e (Y19 λa g e=>H.ao a g (by rw[e];exact o))];exact r d o),?_,z.rw,λt q=>?_,λj b f m=>?_,λa g=>⟨by grind[St.wb,L2w],by rw[z.bx];exact(F a g).bx⟩⟩
 .replace i:=W0w i;rw[z.bx]at i;have:zB als (λ_=>True) k=none:=Y19 λa g e=>by rw[← e,(F a g).bx]at i;cases i
  grind[St.wb]
 .simp[St.wb,z.bx]
 .simp[St.wb];split
  .rfl
  exact z.same t λj b f _ m=>q j b f m
 obtain⟨p1,p2,p3⟩:=z.pen j b f (n f) m;have hf:b.2.1=false:=by cases hx:b.2.1 with|false=>rfl|true=>exact absurd (z.ef j b f (n f) hx) m
 grind[wb_e,Y19,M06]
theorem ZB.all{L:Nat->Prop}{c u b:St}(z:ZB P cb ow als items L c u b)(h:∀(j:Nat)(a:ZI),items[j]?=some a->L a.1):b=u :=Ls (λt=>z.same t λj a e d=>absurd (h j a e) d) (λt=>by rw[z.ubx]) z.rst
theorem yz_mv{d:Nat}{y:X}{S u:St}{v:AV}(f:Yz P cb (.mv d y) S v)(g:∀t∈y.rd,u.e t=S.e t):u.get y=v:=by have h:=f S (λ_ _=>rfl) (by simp[BxA.all]) (λs'=>s'=S.set d v) rfl;simp[wop]at h;have b:=congrArg (λs:St=>s.e d) h;simp[W0I]at b;rw[← b];cases y with|t i=>exact g i (by simp[X.rd])|c a=>rfl
theorem M2q{c x:X}{n:Nat}{b u:St}{K:St->Prop}(p:b.get c=u.get c)(o:b.get x=u.get x)(s:b.bx=u.bx)(m:b.rst=u.rst)(h:wop P (.st c x n) K b) : wop P (.st c x n) (λs'=>∃a:St,K a/\a.e=b.e/\s'.e=u.e/\a.bx=s'.bx/\a.rst=s'.rst) u:=by
 simp[St.rst,Prod.mk.injEq]at m;obtain⟨l,z,y,w⟩:=m;simp only[wop]at h ⊢;rw[p]at h;simp[o,s,l]at h;cases e:u.get c with
 |ptr k off =>rw[e]at h;simp only at h ⊢;cases eb:u.bx k with|none=>rw[eb]at h;cases h|some cs =>rw[eb]at h;obtain⟨j,g,f,d⟩:=h;exact⟨j,g,f,_,d,rfl,trivial,rfl,by grind[St.rst]⟩
 |rpt k i off =>rw[e]at h;simp only at h ⊢;cases er:u.rw k with|none=>rw[er]at h;cases h|some r =>rw[er]at h;simp only at h ⊢;cases ee:r.es[i]? with|none=>rw[ee]at h;cases h|some A =>rw[ee]at h;cases ed:b.dt (u.get x)with|none=>rw[ed]at h;cases h|some v =>rw[ed]at h;rw[X24 (λk r q=>by rw[← l];exact q) _ _ ed];obtain⟨j,g,f,d,t⟩:=h;exact⟨j,g,f,d,_,t,rfl,trivial,rfl,by grind[St.rst]⟩
 |_=>rw[e]at h;cases h
theorem tb_z(H:OkZ P c.nt ops ow als items tl)(hK:∀g' s' a' w',Inv c g' s' a' w'->K s'->Q' .normal a' w'):∀(fuel i:Nat)(listed:Array Bool)(g:Gh)(sv u uv:St)(a:Act)(w:World), listed.size=ops.size->Clo ops (Lst listed)->i<=tl.length->(∀j,Lst listed j->j<als.length+items.length+i)->(∀a∈als,Lst listed a.1)->(∀(j:Nat)(it:ZI),items[j]?=some it->it.2.1=true->Lst listed it.1)->(∀j,als.length+items.length<=j->j<als.length+items.length+i->Lst listed j) -> listed.toList.count false<=fuel->Inv c g u a w->((uv=u/\∀(j:Nat)(it:ZI),items[j]?=some it->Lst listed it.1)\/ZB P cb ow als items (Lst listed) sv u uv)->wops P (tl.drop i) K uv->wpAny P .any ops Q' fuel listed a w:=by
 have hlen:=H.tlen;intro fuel;induction fuel with
 |zero =>
  intro i listed g sv u uv a w hs hclo hi hm hA hE hT hc I B h;have hall:∀j,j<ops.size->Lst listed j:=λj hj=>Classical.byContradiction λhn=>by have:=Y0Q (listed:=listed) (i:=j) (by omega) hn;omega
  have hie:i=tl.length:=by
   rcases Nat.lt_or_ge i tl.length with q|q
   .have:=hm (als.length+items.length+i) (hall _ (by omega));omega
   omega
  have hr:Region.ready .any ops listed=[]:=by cases hr:Region.ready .any ops listed with|nil=>rfl|cons j _ =>obtain⟨h1,h2,_⟩:=XX hs (j:=j) (by rw[hr];simp);exact absurd (hall j h1) h2
  rw[List.drop_eq_nil_of_le (by omega)]at h;have he:uv=u:=by
   rcases B with B|B
   .exact B.1
   exact B.all λj it hj=>hall it.1 (by have:=(H.item j it hj).1;omega)
  rw[he]at h;exact⟨hr,hK _ _ _ _ I h⟩
 |succ fuel ih =>
  intro i listed g sv u uv a w hs hclo hi hm hA hE hT hc I B h;by_cases hall:∀j,j<ops.size->Lst listed j
  .have hie:i=tl.length:=by
    rcases Nat.lt_or_ge i tl.length with q|q
    .have:=hm (als.length+items.length+i) (hall _ (by omega));omega
    omega
   have hr:Region.ready .any ops listed=[]:=by cases hr:Region.ready .any ops listed with|nil=>rfl|cons j _ =>obtain⟨h1,h2,_⟩:=XX hs (j:=j) (by rw[hr];simp);exact absurd (hall j h1) h2
   rw[List.drop_eq_nil_of_le (by omega)]at h;have he:uv=u:=by
    rcases B with B|B
    .exact B.1
    exact B.all λj it hj=>hall it.1 (by have:=(H.item j it hj).1;omega)
   rw[he]at h;exact wpAny_done hr (hK _ _ _ _ I h) _
  have hex:∃j,j<ops.size/\¬ Lst listed j:=Classical.byContradiction λhn=>hall λj hj=>Classical.byContradiction λhl=>hn ⟨j,hj,hl⟩;obtain⟨j1,hj1,N⟩:=hex;have f:∀n j,j<=n->j<ops.size->¬ Lst listed j->∃j,j<ops.size/\¬ Lst listed j/\∀j',j'<j->Lst listed j':=by
   intro n;induction n with
   |zero=>intro j hj h1 h2;exact⟨j,h1,h2,λj' hj'=>by omega⟩|succ n ihn =>
    intro j hj h1 h2;by_cases hb:∃j',j'<j/\¬ Lst listed j'
    .obtain⟨j',q1,q2⟩:=hb;exact ihn j' (by omega) (by omega) q2
    exact⟨j,h1,h2,λj' hj'=>Classical.byContradiction λhn=>hb ⟨j',hj',hn⟩⟩
  obtain⟨j0,hj0,O,Q⟩:=f j1 j1 (yV _) hj1 N;have M:=Array.getElem?_eq_getElem (xs:=ops) (i:=j0) (by omega);have hr0:=W0N hs O M (λe he hb=>Q e.on (H.edge j0 _ M e he hb));refine⟨λh0=>(by rw[h0]at hr0;cases hr0),λk hk=>?_⟩;obtain⟨hk1,hk2,o,ho,he⟩:=XX hs hk;have eL:Lst (listed.setIfInBounds k true)=λj=>Lst listed j\/j=k:=funext λj=>propext (Z1D (by omega));have hclo':Clo ops (Lst (listed.setIfInBounds k true)):=by
   rw[eL];intro i' o' ho' D e' S W;rcases D with D|rfl
   .exact .inl (hclo i' o' ho' D e' S W)
   rw[ho]at ho';cases ho';exact .inl (he e' S W)
  have hA':∀a∈als,Lst (listed.setIfInBounds k true) a.1:=by rw[eL];exact λa ha=>.inl (hA a ha)
  have hE':∀(j:Nat) (it:ZI),items[j]?=some it->it.2.1=true->Lst (listed.setIfInBounds k true) it.1:=by rw[eL];exact λj it hj hx=>.inl (hE j it hj hx)
  rcases Nat.lt_or_ge k (als.length+items.length)with y|y
  ·-- a pending pure operation
   rcases H.surj k y with⟨j,it,hj,C⟩|⟨ad,had,hai⟩
   rotate_left
   .exact absurd (by rw[← hai];exact hA ad had) hk2
   have v:¬ Lst listed it.1:=by rw[C];exact hk2
   rcases B with B|B
   .exact absurd (B.2 j it hj) v
   obtain⟨hf,hy,J⟩:=B.pen j it hj v
   obtain⟨_,o',ho',hch,hkind,G⟩:=H.item j it hj
   rw[C]at ho'
   rw[ho]at ho';cases ho'
   obtain⟨hrd,_⟩:=G (Lst listed) hclo he
   have s:∀(j':Nat) (it':ZI),items[j']?=some it'->it'.1=k->j'=j/\it'=it:=λj' it' hj' e=>by
    have:=H.inj j' j it' it hj' hj (by rw[e,C])
    subst this;rw[hj]at hj';cases hj';exact⟨rfl,rfl⟩
   have E:∀t∈it.2.2.rds,u.e t=sv.e t:=λt ht=>by
    rw[← J t ht]
    refine(B.same t λj' it' hj' hn' e=>?_).symm
    subst e
    exact hn' (hrd j' it' hj' (by rw[M06 hf];exact ht)).1
   have hw:wop P it.2.2 (λs'=>s'=u.set it.2.2.dst (uv.e it.2.2.dst)) u:=by
    rcases B.bxs with hm0|⟨hb0,hr0⟩
    .obtain⟨d0,y0,e0⟩:=Z2j (hm0 j it hj v)
     rw[e0]at hy E ⊢
     simp only[wop]
     rw[yz_mv hy E]
     rfl
    .exact hy _ E (BxA.all hb0 λ_ _ k r _ hr=>by rw[← hr0];exact hr) _ rfl
   apply W0h ho
   refine Mx (λg' s' a' w' I' h'=>?_) hch I hw
   subst h'
   refine ih i _ g' sv (u.set it.2.2.dst (uv.e it.2.2.dst)) uv a' w' (by simpa using hs) hclo' hi ?_ hA' hE' ?_ (Uj (by omega) hk2 hc) I' (.inr ?_) h
   .rw[eL];intro j' hj'
    rcases hj' with hj'|rfl
    .exact hm j' hj'
    .omega
   .rw[eL];exact λj' q1 q2=>.inl (hT j' q1 q2)
   .rw[eL]
    refine⟨B.bxs.imp (λhm0 j' it' hj' hn'=>hm0 j' it' hj' λq=>hn' (.inl q)) (λq=>q),B.own,B.ubx,B.rst,λt ht=>?_,λj' it' hj' hn'=>B.pen j' it' hj' λq=>hn' (.inl q),B.al⟩
    by_cases htd:t=it.2.2.dst
    .subst htd;rw[W0I]
    .have:(u.set it.2.2.dst (uv.e it.2.2.dst)).e t=u.e t:=by simp[St.set,upd,htd]
     rw[this]
     refine B.same t λj' it' hj' hn e=>?_
     by_cases hx:it'.1=k
     .obtain⟨_,rfl⟩:=s j' it' hj' hx;exact htd e.symm
     .exact ht j' it' hj' (λh=>h.elim hn hx) e
  ·-- the tail
   have hkl:k-(als.length+items.length)<tl.length:=by omega
   have hki:k=als.length+items.length+i:=by
    rcases Nat.lt_trichotomy k (als.length+items.length+i)with q|q|q
    .exact absurd (hT k y q) hk2
    .exact q
    .have R:i<tl.length:=by omega
     have hti:Lst listed (als.length+items.length+i):=by
      rcases H.tl (k-(als.length+items.length)) _ o (Lst listed) (yA hkl) (by rw[show als.length+items.length+(k-(als.length+items.length))=k by omega];exact ho) hclo he with q2|q2
      .exact q2 _ (by omega)
      .rcases q2 with q2|q2
       .exact q2.2.2.2.2 _ (by omega) (by omega)
       .exact q2.2.2.2 _ (by omega) (by omega)
     have:=hm _ hti;omega
   subst hki
   have R:i<tl.length:=by omega
   have p:tl[i]?=some tl[i]:=by simp
   obtain⟨o',ho',hch⟩:=H.tone i _ p
   rw[ho]at ho';cases ho'
   rw[← List.getElem_cons_drop R]at h
   simp only[wops]at h
   have hm':∀j,Lst (listed.setIfInBounds (als.length+items.length+i) true) j->j<als.length+items.length+(i+1):=by
    rw[eL];intro j' hj'
    rcases hj' with hj'|rfl
    .have:=hm j' hj';omega
    .omega
   have m:∀j,als.length+items.length<=j->j<als.length+items.length+(i+1)->Lst (listed.setIfInBounds (als.length+items.length+i) true) j:=by
    rw[eL];intro j' q1 q2
    by_cases q:j'=als.length+items.length+i
    .exact .inr q
    .exact .inl (hT j' q1 (by omega))
   by_cases hd:uv=u/\∀(j:Nat) (it:ZI),items[j]?=some it->Lst listed it.1
   .rw[hd.1]at h
    apply W0h ho
    refine Mx (λg' s' a' w' I' h'=>?_) hch I h
    exact ih (i+1) _ g' s' s' s' a' w' (by simpa using hs) hclo' (by omega) hm' hA' hE' m (Uj (by omega) hk2 hc) I' (.inl ⟨rfl,by rw[eL];exact λj it hj=>.inl (hd.2 j it hj)⟩) h'
   have B:=B.resolve_left hd
   rcases H.tl i _ o (Lst listed) p ho hclo he with q|⟨q1,q0,q2,q3,q4⟩|⟨q1,q2,q3,q4⟩
   .have T:∀(j:Nat) (it:ZI),items[j]?=some it->Lst listed it.1:=λj it hj=>q it.1 (by have:=(H.item j it hj).1;omega)
    exact absurd ⟨B.all T,T⟩ hd
   ·-- a store into a new box
    generalize tl[i]=l at q1 q0 q3 h hch
    cases l with
    |st px x n =>
     cases px with
     |c a0=>simp[t1op]at q1
     |t d =>
      simp only[t1op,Bool.or_eq_true,List.any_eq_true,beq_iff_eq]at q1
      have hp:uv.e d=.ptr d 0/\(sv.hide ow).bx d=none:=by
       rcases q1 with⟨a0,Y,rfl⟩|q1
       .exact⟨(B.al a0 Y).1,L1O (B.al a0 Y).2⟩
       .have:=List.contains_iff_mem.1 q1
        exact⟨B.own d this,L1T this⟩
      obtain⟨L,hp2⟩:=hp
      have gp:u.e d=.ptr d 0:=by
       rw[← L]
       refine(B.same _ λj it hj hn e=>hn (q3 j it hj (.inr ?_))).symm
       rw[e];simp[V1n,X.rd]
      have gx:uv.get x=u.get x:=by
       cases x with
       |c b=>rfl
       |t tx =>
        refine B.same tx λj it hj hn e=>hn (q3 j it hj (.inr ?_))
        rw[e];simp[V1n,X.rd]
      simp only[wop]at h
      rw[show uv.get (.t d)=.ptr d 0 from L]at h
      simp only[B.ubx]at h
      cases hb:u.bx d with
      |none=>rw[hb]at h;cases h
      |some cs =>
       rw[hb]at h
       obtain⟨h1,h2,h3,h4⟩:=h
       rw[gx]at h1 h3 h4
       have hw:wop P (.st (.t d) x n) (λs'=>s'={ u with bx:=λj=>if j=d then some (putC cs 0 (u.get x).cells)else u.bx j }) u:=by
        simp only[wop]
        rw[show u.get (.t d)=.ptr d 0 from gp]
        simp only[hb]
        exact⟨h1,h2,h3,trivial⟩
       apply W0h ho
       refine Mx (λg' s' a' w' I' h'=>?_) hch I hw
       subst h'
       refine ih (i+1) _ g' sv _ _ a' w' (by simpa using hs) hclo' (by omega) hm' hA' hE' m (Uj (by omega) hk2 hc) I' (.inr ?_) h4
       rw[eL]
       refine⟨B.bxs.imp (λhm0 j it hj hn=>hm0 j it hj λq=>hn (.inl q)) (λV=>⟨λk0 c0 A=>?_,V.2⟩),B.own,rfl,B.rst,λt ht=>B.same t λj it hj hn=>ht j it hj λq=>q.elim hn λq=>(by have:=(H.item j it hj).1;omega),λj it hj hn=>B.pen j it hj λq=>hn (.inl q),B.al⟩
       have hne:k0≠d:=λe=>by rw[e,hp2]at A;cases A
       simp only[ye hne]
       exact V.1 k0 c0 A
    |mv d x =>
     simp only[t1op,yD,List.all_eq_true,Bool.not_eq_true',beq_eq_false_iff_ne]at q1
     simp only[t1it,List.all_eq_true,yD,Bool.not_eq_true',beq_eq_false_iff_ne]at q0
     have gx:uv.get x=u.get x:=by
      cases x with
      |c b=>rfl
      |t tx =>
       refine B.same tx λj it hj hn e=>hn (q3 j it hj (.inr ?_))
       rw[e];simp[V1n,X.rd]
     simp only[wop]at h
     have hw:wop P (.mv d x) (λs'=>s'=u.set d (uv.get x)) u:=by
      simp only[wop,gx]
     apply W0h ho
     refine Mx (λg' s' a' w' I' h'=>?_) hch I hw
     subst h'
     refine ih (i+1) _ g' sv _ _ a' w' (by simpa using hs) hclo' (by omega) hm' hA' hE' m (Uj (by omega) hk2 hc) I' (.inr ?_) h
     rw[eL]
     have es:∀(z:St) t,t≠d->(z.set d (uv.get x)).e t=z.e t:=λz t ht=>by simp[St.set,upd,ht]
     have ndr:∀(j:Nat) (it:ZI),items[j]?=some it->d∉rdz it/\it.2.2.dst≠d:=λj it hj=>by
      have:=q0 it (yE hj)
      exact⟨λhm=>by rw[List.contains_iff_mem.2 hm]at this;exact absurd this.1 (by simp),this.2⟩
     refine⟨B.bxs.imp (λhm0 j it hj hn=>hm0 j it hj λq=>hn (.inl q)) (λq=>q),λd0 U=>?_,B.ubx,B.rst,λt ht=>?_,λj it hj hn=>?_,λa ha=>?_⟩
     .rw[es _ _ (λe=>by rw[← e,List.contains_iff_mem.2 U]at q1;exact absurd q1.2 (by simp))];exact B.own d0 U
     .by_cases htd:t=d
      .subst htd;rw[W0I,W0I]
      .rw[es _ _ htd,es _ _ htd]
       exact B.same t λj it hj hn=>ht j it hj λq=>q.elim hn λq=>(by have:=(H.item j it hj).1;omega)
     .obtain⟨p1,p2,p3⟩:=B.pen j it hj λq=>hn (.inl q)
      rw[es _ _ (ndr j it hj).2]
      grind[M06]
     .rw[es _ _ (q1.1 a ha)];exact B.al a ha
    |_=>simp[t1op]at q1
   ·-- a store,and moves alone are ahead
    generalize tl[i]=l at q1 q3 h hch
    obtain⟨px,x,n,rfl⟩:=J2i q1
    have F:=λt ht=>B.same t λj it hj hn e=>by
     rcases q3 j it hj with q|q
     .exact hn q
     .exact q.2.2 (by rw[e];exact ht)
    have gp:uv.get px=u.get px:=by
     cases px with
     |c a=>rfl
     |t i0=>exact F i0 (by simp[V1n,X.rd])
    have gx:uv.get x=u.get x:=by
     cases x with
     |c a=>rfl
     |t i0=>exact F i0 (by simp[V1n,X.rd])
    have hw:=M2q gp gx B.ubx B.rst h
    apply W0h ho
    refine Mx (λg' s' a' w' I' h'=>?_) hch I hw
    obtain⟨uv',hK',Z,e2,e3,e4⟩:=h'
    refine ih (i+1) _ g' sv s' uv' a' w' (by simpa using hs) hclo' (by omega) hm' hA' hE' m (Uj (by omega) hk2 hc) I' (.inr ?_) hK'
    rw[eL]
    refine⟨.inl λj it hj hn=>?_,λd hd=>by rw[Z];exact B.own d hd,e3,e4,λt ht=>?_,λj it hj hn=>?_,λa ha=>by rw[Z];exact B.al a ha⟩
    .grind
    .rw[Z,e2]
     exact B.same t λj it hj hn=>ht j it hj λq=>q.elim hn λq=>(by have:=(H.item j it hj).1;omega)
    .rw[Z]
     exact B.pen j it hj λq=>hn (.inl q)
theorem any_z{K0:St->Prop}(hk0:∀s',K0 s'->(∀d∈ow,s'.e d=.ptr d 0)/\wops P tl K (alZ s' als))(hcb:∀it∈items,isCm it.2.2=true->cb≠.f)(hst:∀ck,cb=.s ck->∀it∈items,it.2.1=true->W0J it.2.2=true/\∀d f xs,it.2.2=.cl d f xs->∀k∈clKs d,k∈ck)(H:OkZ P c.nt ops ow als items tl)(hK:∀g' s' a' w',Inv c g' s' a' w'->K s'->Q' .normal a' w'):∀(fuel:Nat)(listed:Array Bool)(q:Nat)(sv:St)(g:Gh)(s:St)(a:Act)(w:World), listed.size=ops.size->Clo ops (Lst listed)->(∀j,Lst listed j->j<als.length+items.length)->listed.toList.count false<=fuel->(∀a∈als,Free a.2.1 s)->Z P cb ow items K0 (Lst listed) q s sv->Inv c g (s.wb (zB als (Lst listed))) a w->wpAny P .any ops Q' fuel listed a w:=by
 have hlen:=H.tlen;have nt9:=c.ntb;have adt:∀a∈als,a.2.1<c.nt:=λa ha=>by obtain⟨_,⟨o,_,hch⟩,_⟩:=H.al a ha;unfold chk1 at hch;simp only[yD]at hch;exact(Q0x hch.1.2).1
 have E:∀(L:Nat->Prop) (k:Nat),(zB als L k).isSome=true->∃a∈als,a.2.1=k/\L a.1:=λL k hk=>by
  unfold zB at hk;split at hk
  .rename_i i z hz;split at hk
   .rename_i hl;exact⟨_,Y10 hz,rfl,hl⟩
   cases hk
  cases hk
 have S:∀(L:Nat->Prop) (t:Nat),(∀a∈als,a.2.1≠t)->zB als L t=none:=λL t ht=>by cases hb:zB als L t with|none=>rfl|some cs =>obtain⟨a,ha,e,_⟩:=E L t (by rw[hb];rfl);exact absurd e (ht a ha)
 intro fuel;induction fuel with
 |zero =>
  intro listed q sv g s a w hs hclo hm hc F z I;have hall:∀j,j<ops.size->Lst listed j:=λj hj=>Classical.byContradiction λhn=>by have:=Y0Q (listed:=listed) (i:=j) (by omega) hn;omega
  obtain⟨p,sv',z',hp⟩:=O2p H _ q sv (yV _) z;have hp':items.length<=p:=by
   rcases hp with h|⟨it,h1,h2⟩
   .exact h
   have:=(H.item p it h1).1;exact absurd (hall it.1 (by omega)) (z'.hi p it h1 (yV _))
  have hg:=z'.go;rw[List.drop_eq_nil_of_le hp']at hg;rw[Q25 als _ H.ad (λa ha=>hall a.1 (by have:=(H.al a ha).1;omega))]at I;exact tb_z H hK 0 0 listed g sv' _ _ a w hs hclo (Nat.zero_le _) (by omega) (λa ha=>hall a.1 (by have:=(H.al a ha).1;omega)) (λj it hj _=>hall it.1 (by have:=(H.item j it hj).1;omega)) (by omega) hc I (.inr (ZB.of H z' hp' F (hk0 sv' (by simpa[ZK]using hg)).1)) (by simpa using(hk0 sv' (by simpa[ZK]using hg)).2)
 |succ fuel ih =>
  intro listed q sv g s a w hs hclo hm hc F z I;obtain⟨p,sv',z',hp⟩:=O2p H _ q sv (yV _) z;clear z;by_cases hall:(∀a∈als,Lst listed a.1)/\∀(j:Nat) (it:ZI),items[j]?=some it->it.2.1=true->Lst listed it.1
  .have hp':items.length<=p:=by
    rcases hp with h|⟨it,h1,h2⟩
    .exact h
    exact absurd (hall.2 p it h1 h2) (z'.hi p it h1 (yV _))
   have hg:=z'.go;rw[List.drop_eq_nil_of_le hp']at hg;rw[Q25 als _ H.ad hall.1]at I;exact tb_z H hK (fuel+1) 0 listed g sv' _ _ a w hs hclo (Nat.zero_le _) (by omega) hall.1 hall.2 (by omega) hc I (.inr (ZB.of H z' hp' F (hk0 sv' (by simpa[ZK]using hg)).1)) (by simpa using(hk0 sv' (by simpa[ZK]using hg)).2)
  have hex:∃j,j<als.length+items.length/\¬ Lst listed j:=Classical.byContradiction λhn=>hall ⟨λa ha=>Classical.byContradiction λq=>hn ⟨_,(H.al a ha).1,q⟩,λj it hj _=>Classical.byContradiction λq=>hn ⟨_,(H.item j it hj).1,q⟩⟩;obtain⟨j1,hj1,C⟩:=hex;have x:∀n j,j<=n->j<als.length+items.length->¬ Lst listed j->∃j,j<als.length+items.length/\¬ Lst listed j/\∀j',j'<j->Lst listed j':=by
   intro n;induction n with
   |zero=>intro j hj h1 h2;exact⟨j,h1,h2,λj' hj'=>by omega⟩|succ n ihn =>
    intro j hj h1 h2;by_cases hb:∃j',j'<j/\¬ Lst listed j'
    .obtain⟨j',q1,q2⟩:=hb;exact ihn j' (by omega) (by omega) q2
    exact⟨j,h1,h2,λj' hj'=>Classical.byContradiction λhn=>hb ⟨j',hj',hn⟩⟩
  obtain⟨j0,hj0,hj0u,hj0l⟩:=x j1 j1 (yV _) hj1 C;have Y:=Array.getElem?_eq_getElem (xs:=ops) (i:=j0) (by omega);have W:=W0N hs hj0u Y (λe he hb=>hj0l e.on (H.edge j0 _ Y e he hb));refine⟨λh0=>(by rw[h0]at W;cases W),λi hi=>?_⟩;obtain⟨hi1,hi2,o,ho,he⟩:=XX hs hi;have him:i<als.length+items.length:=by
   rcases Nat.lt_or_ge i (als.length+items.length)with h|h
   .exact h
   have hio:=(by omega);rcases H.tl (i-(als.length+items.length)) _ o (Lst listed) (yA (by omega)) (by rw[show als.length+items.length+(i-(als.length+items.length))=i by omega];exact ho) hclo he with q|⟨_,_,q2,q3,_⟩|⟨_,q2,q3,_⟩
   .exact absurd (q j1 (by omega)) C
   .exact absurd ⟨q2,λj it hj hx=>q3 j it hj (.inl hx)⟩ hall
   exact absurd ⟨q2,λj it hj hx=>(q3 j it hj).elim (λh=>h) λh=>by rw[hx]at h;cases h.2.1⟩ hall
  have eL:Lst (listed.setIfInBounds i true)=λj=>Lst listed j\/j=i:=funext λj=>propext (Z1D (by omega));have m:Clo ops (Lst (listed.setIfInBounds i true)):=by
   rw[eL];intro i' o' ho' Q e' he' hb';rcases Q with Q|rfl
   .exact .inl (hclo i' o' ho' Q e' he' hb')
   rw[ho]at ho';cases ho';exact .inl (he e' he' hb')
  have hm':∀j,Lst (listed.setIfInBounds i true) j->j<als.length+items.length:=by
   intro j hj;rw[eL]at hj;rcases hj with hj|rfl
   .exact hm j hj
   exact him
  rcases H.surj i him with⟨j,it,hj,hji⟩|⟨ad,had,hai⟩;rotate_left
  ·-- a new box
   obtain⟨_,⟨o',ho',hch⟩,X,hno⟩:=H.al ad had
   obtain⟨ai,d,zc⟩:=ad
   simp only at hai hch ho' X hno
   subst hai
   rw[ho]at ho';cases ho'
   have Fd:=F _ had
   have U:∀k,zB als (Lst (listed.setIfInBounds ai true)) k=if k=d then some zc else zB als (Lst listed) k:=λk=>by
    rw[eL]
    unfold zB
    by_cases hk:k=d
    .subst hk
     rw[M1Y H.ad had];simp
    .rw[ye hk]
     cases hz:zl als k with
     |none=>rfl
     |some q =>
      obtain⟨i',z'⟩:=q
      have hm':=Y10 hz
      have:i'≠ai:=λe=>by
       have:=H.ai _ hm' _ had e
       exact hk (by cases this;rfl)
      by_cases hl:Lst listed i'<;>simp[hl,this]
   have hBd:zB als (Lst listed) d=none:=by
    unfold zB
    rw[M1Y H.ad had]
    simp[hi2]
   have hw:wop P (.al d zc) (λs'=>s'=s.wb (zB als (Lst (listed.setIfInBounds ai true)))) (s.wb (zB als (Lst listed))):=by
    simp only[wop]
    rw[V1z hBd λj cs hj=>W1V (λa ha=>(H.al a ha).2.2.1) hj d]
    refine Ls (λt=>?_) (λt=>?_) (by simp only[St.rst,Prod.mk.injEq];exact⟨funext λt=>by
     simp only[St.set,St.wb,St.kill]
     by_cases ht:t=d
     .rw[yd ht,ht,Fd.rw]
     .simp[ht],rfl,rfl,rfl⟩)
    .simp only[St.set,upd,St.wb,U,St.kill]
     by_cases ht:t=d
     .simp[ht]
     .simp only[ye ht,Fd.e t]
    .simp only[St.set,St.wb,U,St.kill,O0V d X]
     by_cases ht:t=d
     .simp[ht]
     .simp only[ye ht]
      cases zB als (Lst listed) t with
      |some cs=>rfl
      |none =>
       simp only
       cases hb:s.bx t with
       |none=>rfl
       |some cs=>simp[Fd.bd t cs hb]
   apply W0h ho
   refine Mx (λg' s' a' w' I' h'=>?_) hch I hw
   subst h'
   refine ih _ p sv' g' s a' w' (by simpa using hs) m hm' (Uj (by omega) hi2 hc) F ?_ I'
   rw[eL]
   have T:∀(j':Nat) (it':ZI),items[j']?=some it'->it'.1≠ai:=λj' it' hj'=>(hno it' (yE hj')).1
   exact⟨z'.bx,z'.rw,λj' it' hj' hle hl=>hl.elim (z'.hi j' it' hj' hle) (T j' it' hj'),λj' it' hj' hlt hx=>.inl (z'.ef j' it' hj' hlt hx),λt ht=>z'.same t λj' it' hj' hlt hn=>ht j' it' hj' hlt (λh=>h.elim hn (T j' it' hj')),
    λj' it' hj' hlt hn=>z'.pen j' it' hj' hlt (λh=>hn (.inl h)),z'.go⟩
  obtain⟨_,o',ho',hch,hkind,V⟩:=H.item j it hj;rw[hji]at ho';rw[ho]at ho';cases ho';obtain⟨O,hE⟩:=V (Lst listed) hclo he;have hdn:it.2.2.dst<c.nt:=by
   have hch':=hch;unfold chk1 at hch';split at hch'
   .rename_i t want l' el;simp only[yD]at hch';rw[el];exact(Q0x hch'.1.1.2).1
   simp only[yD]at hch';exact(Q0x hch'.1.2).1
  have other:∀(j':Nat) (it':ZI),items[j']?=some it'->it'.1=i->j'=j/\it'=it:=λj' it' hj' e=>by have:=H.inj j' j it' it hj' hj (by rw[e,hji]);subst this;rw[hj]at hj';cases hj';exact⟨rfl,rfl⟩
  have jp:¬ p<j:=λhlt=>by
   rcases hp with h|⟨J,h1,h2⟩
   .have:=(yB hj).1;omega
   exact z'.hi p J h1 (yV _) (hE p J h1 h2 hlt)
  apply W0h ho;rcases Nat.lt_or_ge j p with hjp|hjp
  ·-- a pending pure operation
   have hnl:¬ Lst listed it.1:=by rw[hji];exact hi2
   have hf:it.2.1=false:=by
    cases hx:it.2.1 with
    |false=>rfl
    |true=>exact absurd (z'.ef j it hj hjp hx) hnl
   obtain⟨p1,p2,p3⟩:=z'.pen j it hj hjp hnl
   have hnd:∀a∈als,a.2.1≠it.2.2.dst/\a.2.1∉rdz it:=λa ha=>by
    obtain⟨_,q1,q2⟩:=(H.al a ha).2.2.2 it (yE hj)
    exact⟨λe=>q1 e.symm,q2⟩
   have hw:wop P it.2.2 (λs'=>s'=(s.set it.2.2.dst (sv'.e it.2.2.dst)).wb (zB als (Lst listed))) (s.wb (zB als (Lst listed))):=by
    refine p3 _ (λt ht=>(show _=sv'.e t from ?_)) (BxA.all (λk cs hk=>?_) λ_ _ k r _ hr=>by replace hr:sv'.rw k=some r:=hr;rw[show sv'.rw=s.rw from congrArg Prod.fst z'.rw]at hr;exact hr) _ (Y0f (S _ _ λa ha=>(hnd a ha).1))
    .rw[wb_e (S _ _ λa ha e=>(hnd a ha).2 (by rw[M06 hf,e];exact ht))]
     refine(z'.same t λj' it' hj' hlt' hn' e=>?_).symm
     subst e
     exact hn' (O j' it' hj' (by rw[M06 hf];exact ht)).1
    .replace hk:=W0w hk
     rw[z'.bx]at hk
     have hb:zB als (Lst listed) k=none:=by
      cases hb:zB als (Lst listed) k with
      |none=>rfl
      |some c0 =>
       obtain⟨a,ha,e,_⟩:=E _ k (by rw[hb];rfl)
       have:=(F a ha).bx
       rw[e,hk]at this;cases this
     simp only[St.wb,hb];exact hk
   have M:zB als (Lst (listed.setIfInBounds i true))=zB als (Lst listed):=by
    funext k
    rw[eL]
    unfold zB
    cases hz:zl als k with
    |none=>rfl
    |some q =>
     obtain⟨i',z0⟩:=q
     have:i'≠i:=λe=>by
      have:=((H.al _ (Y10 hz)).2.2.2 it (yE hj)).1
      exact this (by rw[hji,e])
     by_cases hl:Lst listed i'<;>simp[hl,this]
   refine Mx (λg' s' a' w' I' h'=>?_) hch I hw
   subst h'
   refine ih _ p sv' g' (s.set it.2.2.dst (sv'.e it.2.2.dst)) a' w' (by simpa using hs) m hm' (Uj (by omega) hi2 hc) (λa ha=>(F a ha).set (X1Z (by have:=adt a ha;omega) (by rw[z'.bx];exact(F a ha).bx) (by rw[show sv'.rw=s.rw from congrArg Prod.fst z'.rw];exact(F a ha).rw) p1)) ?_ (by rw[M];exact I')
   rw[eL]
   refine⟨z'.bx,z'.rw,λj' it' hj' hle hl=>?_,λj' it' hj' hlt hx=>.inl (z'.ef j' it' hj' hlt hx),λt ht=>?_,λj' it' hj' hlt hn=>z'.pen j' it' hj' hlt (λh=>hn (.inl h)),z'.go⟩
   .rcases hl with hl|hl
    .exact z'.hi j' it' hj' hle hl
    .have:=(other j' it' hj' hl).1;omega
   .by_cases N:t=it.2.2.dst
    .subst N;rw[W0I]
    .have:(s.set it.2.2.dst (sv'.e it.2.2.dst)).e t=s.e t:=by simp[St.set,upd,N]
     rw[this]
     refine z'.same t λj' it' hj' hlt hn e=>?_
     by_cases hx:it'.1=i
     .obtain⟨_,rfl⟩:=other j' it' hj' hx;exact N e.symm
     .exact ht j' it' hj' hlt (λh=>h.elim hn hx) e
  ·-- the next operation that changes the state
   have hjp':j=p:=by omega
   subst hjp'
   have hEf:it.2.1=true:=by
    rcases hp with h|⟨J,h1,h2⟩
    .have:=(yB hj).1;omega
    .rw[hj]at h1;cases h1;exact h2
   have hgo:=z'.go
   have hlt:=(yB hj).1
   rw[List.drop_eq_getElem_cons hlt,(yB hj).2]at hgo
   obtain⟨i0,f0,l0⟩:=it
   simp only at hEf hji hch hkind hdn O
   subst hEf
   simp only[List.map_cons,ZK]at hgo
   simp only[yb]at hkind
   classical
   let pd:Nat->Option AV:=λt=>if ∃(j':Nat) (it':ZI),items[j']?=some it'/\j'<j/\¬ Lst listed it'.1/\it'.2.2.dst=t then some (sv'.e t)else none
   have hpd:∀t v,pd t=some v->∃(j':Nat) (it':ZI),items[j']?=some it'/\j'<j/\¬ Lst listed it'.1/\it'.2.2.dst=t/\v=sv'.e t:=λt v h=>by
    simp only[pd]at h
    split at h
    .rename_i hx
     obtain⟨j',it',q1,q2,q3,q4⟩:=hx
     exact⟨j',it',q1,q2,q3,q4,(Option.some.inj h).symm⟩
    .cases h
   have R:sv'=s.ov pd:=by
    refine Ls (λt=>?_) (λt=>by rw[z'.bx];rfl) z'.rw
    simp only[St.ov,pd]
    split
    .rfl
    .rename_i hx
     exact z'.same t λj' it' hj' hlt' hn e=>hx ⟨j',it',hj',hlt',hn,e⟩
   have pdof:∀(j':Nat) (it':ZI),items[j']?=some it'->j'<j->¬ Lst listed it'.1->pd it'.2.2.dst=some (sv'.e it'.2.2.dst):=λj' it' h1 h2 h3=>yd ⟨j',it',h1,h2,h3,rfl⟩
   rw[R]at hgo
   have hgo':=eff (c:=cb) (l:=l0) (hcb _ (yE hj)) (λck e=>hst ck e _ (yE hj) rfl) hkind (by omega) (λt v hv=>by
    obtain⟨j',it',q1,q2,q3,q4,q5⟩:=hpd t v hv
    refine⟨λhr=>q3 (O j' it' q1 (by rw[q4];exact hr)).1,λe=>?_,by rw[q5,← q4,← L1N z'.bx (congrArg Prod.fst z'.rw)];exact(z'.pen j' it' q1 q2 q3).1⟩
    have:=H.dst j' j it' _ q1 hj (by rw[q4,e])
    omega) hgo
   have M:zB als (Lst (listed.setIfInBounds i true))=zB als (Lst listed):=by
    funext k
    rw[eL]
    unfold zB
    cases hz:zl als k with
    |none=>rfl
    |some q =>
     obtain⟨i',z0⟩:=q
     have:i'≠i:=λe=>by
      have:=((H.al _ (Y10 hz)).2.2.2 _ (yE hj)).1
      exact this (by rw[e];exact hji)
     by_cases hl:Lst listed i'<;>simp[hl,this]
   have hB:=effB (A:=λk=>if ∃a∈als,a.2.1=k then some []else none) (B:=zB als (Lst listed)) hkind (by omega) (λk hk=>by
     obtain⟨a,ha,e,_⟩:=E _ k hk
     rw[yd ⟨a,ha,e⟩];rfl) (λk hk=>by
     have hk':∃a∈als,a.2.1=k:=Classical.byContradiction λhn=>by rw[ye hn]at hk;cases hk
     obtain⟨a,ha,rfl⟩:=hk'
     obtain⟨_,q1,q2⟩:=(H.al a ha).2.2.2 _ (yE hj)
     exact⟨by have:=adt a ha;omega,F a ha,q2,λe=>q1 e.symm⟩) (λk cs hb j=>W1V (λa ha=>(H.al a ha).2.2.1) hb j) hgo'
   refine Mx (λg' s1' a' w' I' h'=>?_) hch I hB
   obtain⟨s',es',⟨h1',y⟩,hF⟩:=h'
   subst es'
   refine ih _ (j+1) (s'.ov pd) g' s' a' w' (by simpa using hs) m hm' (Uj (by omega) hi2 hc) (λa ha=>hF a.2.1 (by rw[yd ⟨a,ha,rfl⟩];rfl)) ?_ (by rw[M];exact I')
   rw[eL]
   have ebO:bO sv'=bO s:=funext λk=>by simp only[bO,z'.bx]
   have sveq:∀t,t≠l0.dst->kfz cb sv' (sv'.e t)=true->(s'.ov pd).e t=sv'.e t:=λt ht hf=>by
    cases hx:pd t with
    |some v =>
     obtain⟨_,_,_,_,_,_,q5⟩:=hpd t v hx
     simp only[St.ov,hx,Option.getD_some];exact q5
    |none =>
     simp only[St.ov,hx,Option.getD_none]
     have e1:sv'.e t=s.e t:=by rw[R];simp only[St.ov,hx,Option.getD_none]
     rw[e1,L1N z'.bx (congrArg Prod.fst z'.rw)]at hf
     rw[e1]
     exact y.e t ht hf
   have G:W0D l0=true->∀t,t≠l0.dst->(s'.ov pd).e t=sv'.e t:=λhs t ht=>by
    cases hx:pd t with
    |some v =>
     obtain⟨_,_,_,_,_,_,q5⟩:=hpd t v hx
     simp only[St.ov,hx,Option.getD_some];exact q5
    |none =>
     simp only[St.ov,hx,Option.getD_none]
     have e1:sv'.e t=s.e t:=by rw[R];simp only[St.ov,hx,Option.getD_none]
     rw[e1]
     exact y.sf hs t ht
   have u:∀(j':Nat) (it':ZI),items[j']?=some it'->j'<j->¬ Lst listed it'.1->it'.2.1=false:=λj' it' q1 q2 q3=>by
    cases hx:it'.2.1 with
    |false=>rfl
    |true=>exact absurd (z'.ef j' it' q1 q2 hx) q3
   refine⟨rfl,rfl,λj' it' hj' hle hl=>?_,λj' it' hj' hlt' hx=>?_,λt ht=>?_,λj' it' hj' hlt' hn=>?_,h1'⟩
   .rcases hl with hl|hl
    .exact z'.hi j' it' hj' (by omega) hl
    .have:=(other j' it' hj' hl).1;omega
   .rcases Nat.lt_or_ge j' j with h|h
    .exact .inl (z'.ef j' it' hj' h hx)
    .have:j'=j:=by omega
     subst this;rw[hj]at hj';cases hj';exact .inr hji
   .have:pd t=none:=by
     cases hx:pd t with
     |none=>rfl
     |some v =>
      obtain⟨j',it',q1,q2,q3,q4,_⟩:=hpd t v hx
      refine absurd q4 (ht j' it' q1 (by omega) (λh=>h.elim q3 λh=>?_))
      have:=(other j' it' q1 h).1;omega
    simp only[St.ov,this,Option.getD_none]
   .have D:j'<j:=by
     rcases Nat.lt_or_ge j' j with h|h
     .exact h
     .have:j'=j:=by omega
      subst this;rw[hj]at hj';cases hj';exact absurd (.inr hji) hn
    have hn':¬ Lst listed it'.1:=λh=>hn (.inl h)
    obtain⟨p1,p2,p3⟩:=z'.pen j' it' hj' D hn'
    have hd:it'.2.2.dst≠l0.dst:=λe=>by have:=H.dst j' j it' _ hj' hj e;omega
    have hr:l0.dst∉it'.2.2.rds:=λh=>by
     have:=H.before hj' hj (by rw[M06 (u j' it' hj' D hn')];exact h)
     omega
    rw[sveq _ hd p1]
    have bm:∀k,bO sv' k=true->bO (s'.ov pd) k=true:=λk hk=>y.b k (by rw[← ebO];exact hk)
    have ert:∀t∈it'.2.2.rds,(s'.ov pd).e t=sv'.e t:=λt ht=>by
     have hne:t≠l0.dst:=λe=>hr (by rw[← e];exact ht)
     rcases p2 with p2|p2
     .exact sveq t hne (p2 t ht)
     .exact G (p2 j _ hj (by omega) rfl) t hne
    have bA:BxA cb sv' (s'.ov pd):=BxA.congr z'.bx (congrArg Prod.fst z'.rw) (BxA.congr2 (s':=s') (t:=s'.ov pd) rfl rfl y.bx)
    have rm:∀ck,cb=.s ck->∀k,rS ck sv' k=true->rS ck (s'.ov pd) k=true:=λck e=>by subst e;exact bA.rS
    refine⟨M0N bm rm p1,p2.imp (λp2 t ht=>by rw[ert t ht];exact M0N bm rm (p2 t ht)) (λp2 j' it' h1 h2=>p2 j' it' h1 (by omega)),λs'' q1 q2 K' hK'=>?_⟩
    refine p3 s'' (λt ht=>by rw[q1 t ht];exact ert t ht) (BxA.trans (λk hk=>by
     unfold bO at hk ⊢
     cases hx:(sv'.hide ow).bx k with
     |none=>rw[hx]at hk;cases hk
     |some cs =>
      have hb:=bm k (by unfold bO;rw[W0w hx];rfl)
      have hc:ow.contains k=false:=by
       grind[L1T,List.contains_iff_mem]
      simp only[St.hide,hc];exact hb) bA.hide q2) K' hK'
theorem Y1X{x:Nat}{g:Gh}{s:St}{a:Act}{w:World}{v:St->Prop}(p:P.follows .mixedOrders=true)(A:chkZ P c.nt ops ow als items tl=true)(q:∀s',v s'->(∀d∈ow,s'.e d=.ptr d 0)/\wops P tl K (alZ s' als))(D:∀g' s' u w',Inv c g' s' u w'->K s'->Q' .normal u w')(I:Inv c g s a w)(h:ZK P (zcOf (items.map Prod.snd)) ow (items.map Prod.snd) v (s.kills (als.map (·.2.1)))):(Code.region x ops true).wp P Q' a w:=by
 have H:=U2v A;apply wp_region_any p;have b:Lst (Array.replicate ops.size false)=λ_=>False:=by funext j;apply propext;simp[Lst,Array.getD_eq_getD_getElem?,Array.getElem?_replicate,iff_false];split<;>simp
 have B:(s.kills (als.map (·.2.1))).wb (zB als λ_=>False)=s.kills (als.map (·.2.1)):=by
  refine Ls (λt=>?_) (λt=>?_) rfl
  .have:zB als (λ_=>False) t=none:=by unfold zB;split<;>simp
   exact wb_e this
  have:zB als (λ_=>False) t=none:=by unfold zB;split<;>simp
  simp[St.wb,this]
 have r:∀l∈items,isCm l.2.2=true->zcOf (items.map Prod.snd)≠.f:=λl m y e=>by have:=V2q e l.2 (List.mem_map.2 ⟨l,m,rfl⟩);rw[y]at this;cases this
 have n:∀ck,zcOf (items.map Prod.snd)=.s ck->∀l∈items,l.2.1=true->W0J l.2.2=true/\∀d f xs,l.2.2=.cl d f xs->∀k∈clKs d,k∈ck:=λck e l m z =>⟨Z21 e l.2 (List.mem_map.2 ⟨l,m,rfl⟩) z,λd f xs E=>by rw[Y2h e];exact X2f (f:=l.2.1) (List.mem_map.2 ⟨l,m,by rw[← E]⟩)⟩;refine any_z q r n H D ops.size _ 0 (s.kills (als.map (·.2.1))) g (s.kills (als.map (·.2.1))) a _ (by simp) ?_ ?_ ?_ (λa C=>W0Z (List.mem_map.2 ⟨a,C,rfl⟩)) ?_ (by rw[b,B];exact(I.kills _).drawn (w.drawn+1))
 .rw[b];intro i o _ m;exact m.elim
 .rw[b];simp
 .simp
 rw[b];exact⟨rfl,rfl,by simp,by omega,λ_ _=>rfl,by omega,by simpa using h⟩
end
end
section
inductive Hn|d|n(sz:Nat)|z(k:Nat)|t|r|f|g|l(hs:List Hn)
structure GW where
 te:List (Nat×Hn)
 tb:List (Nat×List Hn)
 tr:List (Nat×Option Nat×Nat)
 fz:List Nat
def lk{α:Type}:List (Nat×α)->Nat->Option α
 |[],_=>none| (k,v)::l,i=>match Nat.beq i k with
   |true=>some v
   |false=>lk l i
def nkey:List (Nat×Option Nat×Nat)->Nat->Option Nat
 |[],_=>none| (k,some k0,_)::l,i=>match Nat.beq i k0 with
   |true=>some k
   |false=>nkey l i
 | (_,none,_)::l,i=>nkey l i
def GW.fr(G:GW)(k:Nat):Option Nat:=nkey G.tr k
def GW.fb(G:GW)(k:Nat):Option Nat:=match lk G.tb k with|some _=>some k|none=>none
def inL(k:Nat):List Nat->Bool
 |[]=>false|j::l=>match Nat.beq k j with
  |true=>true
  |false=>inL k l
def cvt1(fb fr:Nat->Option Nat)(zr:Nat->Bool)(rr:Nat->Option Row)(h:Hn)(a:AV):AV:=match h,a with
 |.f,.sref k=>match rr k with
  |some r=>.sl .nw r.sz r.es
  |none=>.bad
 |.g,.sref k=>match rr k with
  |some r=>.sl .rd r.sz r.es
  |none=>.bad
 |.n sz,.nl=>.sl .nw sz []
 |.z k,.nl=>match zr k with
  |true=>.sref k
  |false=>.bad
 |.t,.sl .nw sz es=>.sl .rd sz es
 |.r,.sl .nw sz es=>.sl .rd sz (rdtL es)
 |.r,.sl .rd sz es=>.sl .rd sz (rdtL es)
 |_,a=>a.mp fb fr
def cvt1L(fb fr:Nat->Option Nat)(zr:Nat->Bool)(rr:Nat->Option Row):List Hn->List AV->List AV
 |h::hs,a::l=>cvt1 fb fr zr rr h a::cvt1L fb fr zr rr hs l|[],a::l=>a.mp fb fr::cvt1L fb fr zr rr [] l|_,[]=>[]
def cvt2(fb fr:Nat->Option Nat)(zr:Nat->Bool)(rr:Nat->Option Row)(h:Hn)(a:AV):AV:=match h,a with
 |.l hs,.agg cs=>.agg (cvt1L fb fr zr rr hs cs)
 |.l hs,.tup cs=>.tup (cvt1L fb fr zr rr hs cs)
 |h,a=>cvt1 fb fr zr rr h a
def GW.zr(G:GW)(k:Nat):Bool:=match lk G.tr k with|some (none,_)=>true|_=>false
def St.shs(s:St)(ks:List Nat):St:={ s with rw:=λk=>match inL k ks with|true=>(s.rw k).map λr=>{ r with sh:=true }|false=>s.rw k }
def St.rr(s:St)(ks:List Nat)(k:Nat):Option Row:=match inL k ks with|true=>s.rw k|false=>none
def St.gw0(s:St)(G:GW):St where
 e:=λi=>match lk G.te i with
  |some h=>cvt2 G.fb G.fr G.zr (s.rr G.fz) h (s.e i)
  |none=>.bad
 bx:=λk=>match lk G.tb k with
  |some hs=>(s.bx k).map (cvt1L G.fb G.fr G.zr (s.rr G.fz) hs)
  |none=>none
 rw:=λk=>match lk G.tr k with
  |some (some k0,_)=>s.rw k0
  |some (none,sz)=>some ⟨sz,[],false⟩
  |none=>none
 nx:=s.nx
 my:=s.my
 kn:=s.kn
def St.gw(s:St)(G:GW):St:=(s.shs G.fz).gw0 G
def Z26:List Nat->Bool
 |[]=>true|k::ks=>ks.all (λj=>!Nat.beq j k)&&Z26 ks
def trOk:List (Nat×Option Nat×Nat)->Bool
 |[]=>true| (k,o,_)::l=>(match o with
   |some k0=>Nat.ble 1000000000 k&&Nat.beq k k0||!Nat.ble 1000000000 k
   |none=>!Nat.ble 1000000000 k)&&trOk l
def olds:List (Nat×Option Nat×Nat)->List Nat
 |[]=>[]| (_,some k,_)::l=>k::olds l| (_,none,_)::l=>olds l
def GW.ok(G:GW):Bool:=Z26 (G.tr.map (·.1))&&Z26 (olds G.tr)&&trOk G.tr
def nooL:List Hn->List AV->Prop
 |.r::hs,a::l=>a.noO/\nooL hs l|_::hs,_::l=>nooL hs l|_,_=>True
def noo(h:Hn)(a:AV):Prop:=match h,a with
 |.r,a=>a.noO
 |.l hs,.agg cs=>nooL hs cs
 |.l hs,.tup cs=>nooL hs cs
 |_,_=>True
def nooT(s:St):List (Nat×Hn)->Prop
 |[]=>True| (i,h)::l=>noo h (s.e i)/\nooT s l
def nooB(s:St):List (Nat×List Hn)->Prop
 |[]=>True| (k,hs)::l=>(match s.bx k with|some cs=>nooL hs cs|none=>True)/\nooB s l
section
variable{c:Cx}{g:Gh}{s:St}{a:Act}{w:World}
theorem V1N{α:Type}:∀{l:List (Nat×α)}{i:Nat}{v:α},lk l i=some v->(i,v)∈l
 |[],_,_,h=>by cases h| (k,u)::l,i,v,h=>by
  simp[lk]at h;split at h
  .simp_all
  .exact yH _ (V1N h)
theorem M1C:∀{l:List (Nat×Option Nat×Nat)}{i k:Nat},nkey l i=some k->∃z,(k,some i,z)∈l
 |[],_,_,h=>by cases h| (j,some k0,z)::l,i,k,h=>by
  simp[nkey]at h;split at h
  .rename_i e;have:=yR e;cases h;subst this;exact⟨z,yJ ..⟩
  .obtain⟨z,h⟩:=M1C h;exact⟨z,yH _ h⟩
 | (j,none,z)::l,i,k,h=>by obtain⟨z,h⟩:=M1C (show nkey l i=some k from h);exact⟨z,yH _ h⟩
theorem W1z:∀{l:List Nat},Z26 l=true->l.Nodup
 |[],_=>.nil|k::ks,h=>by simp[Z26,List.all_eq_true]at h;refine List.nodup_cons.2 ⟨λa=>?_,W1z h.2⟩;have:=h.1 k a;rw[Nat.beq_refl]at this;cases this
theorem J2t{l:List (Nat×Option Nat×Nat)}(h:(l.map (·.1)).Nodup){k:Nat}{x y:Option Nat×Nat}(a:(k,x)∈l)(d:(k,y)∈l):x=y:=by
 induction l with
 |nil=>cases a|cons p l e =>
  rw[List.map_cons,List.nodup_cons]at h;rcases yX a with c|c<;>rcases yX d with b|b
  .rw[← c]at b;grind
  .grind
  .grind
  grind
theorem L19:∀{l:List (Nat×Option Nat×Nat)}{k a z:Nat},(k,some a,z)∈l->a∈olds l
 | (_,some _,_)::l,k,a,z,h=>by
  rcases yX h with e|e
  .cases e;exact yJ ..
  .exact yH _ (L19 e)
 | (_,none,_)::l,k,a,z,h=>by
  rcases yX h with e|e
  .cases e
  .exact(L19 e:a∈olds l)
theorem Y1T:∀{l:List (Nat×Option Nat×Nat)},(olds l).Nodup->∀{k d c z z':Nat},(k,some c,z)∈l->(d,some c,z')∈l->k=d
 |[],_,_,_,_,_,_,h1,_=>by cases h1| (_,none,_)::l,h,_,_,_,_,_,h1,h2=>by
  rcases yX h1 with b|b
  .cases b
  rcases yX h2 with a|a
  .cases a
  exact Y1T (l:=l) h b a
 | (_,some _,_)::l,h,_,_,_,_,_,h1,h2=>by
  rw[olds,List.nodup_cons]at h;rcases yX h1 with b|b<;>rcases yX h2 with a|a
  .cases b;cases a;rfl
  .cases b;exact absurd (L19 a) h.1
  .cases a;exact absurd (L19 b) h.1
  .exact Y1T h.2 b a
theorem Rd.toRd{t:Tag}{a:Nat}{es:List AV}{v:Value}(l:t.isOwn=false)(h:Rd w g.S g.T (.sl t a es) v):Rd w g.S g.T (.sl .rd a es) v:=by cases h with|sl0=>exact .sl0 _ _ _ _ λ_ e=>by cases e|sl t a es b o c j d i f k m h =>exact .sl .rd a es b o c j d i f (by grind[Gh.T_to_rd]) (by simp) h
theorem Rd.noRdt{x:AV}{v:Value}(h:Rd w g.S g.T x v):x.noO->Rd w g.S g.T x.rdt v:=by
 induction h with
 |bool b=>exact λ_=>.bool b|int k n=>exact λ_=>.int k n|str l=>exact λ_=>.str l|nl=>exact λ_=>.nl|sl0 t E p q _=>intro _;rw[AV.rdt,rdtL];exact .sl0 _ _ _ _ λ_ e=>by cases e|agg cs A C I h s =>
  intro m;have m:=Zd.1 m;rw[AV.rdt,U5];refine .agg _ A (by simpa using C) (λy d=>?_) (λi y v d B=>?_)
  .obtain⟨a,c,rfl⟩:=yY d;exact W0u (I a c)
  rw[yF]at d;obtain⟨a,c,rfl⟩:=yC d;exact s i a v c B (m _ (yE c))
 |fn f cs A C h s =>intro m;have m:=Zd.1 m;rw[AV.rdt,U5];refine .fn f _ A (by simpa using C) (λi y v d B=>?_);rw[yF]at d;obtain⟨a,c,rfl⟩:=yC d;exact s i a v c B (m _ (yE c))|ept e off b o D u h s =>
  intro m;have m:=Zd.1 (X1d (x:=e) m);rw[AV.rdt];have r:∀(j:Nat) (y:AV),e.rdt.cells[j]?=some y->∃a,e.cells[j]?=some a/\y=a.rdt:=by intro j y d;rw[W0x,yF]at d;obtain⟨a,c,rfl⟩:=yC d;exact⟨a,c,rfl⟩
  refine .ept _ off b o D (λj y d=>?_) (λj y d=>?_)
  .obtain⟨a,c,rfl⟩:=r j y d;exact⟨(u j a c).1,(u j a c).2.1,W0u (u j a c).2.2.1,(u j a c).2.2.2⟩
  obtain⟨a,c,rfl⟩:=r j y d;exact s j a c (m _ (yE c))
 |sl t E es b o K D N H G u M h s =>
  intro m;obtain⟨L,m⟩:=m;have m:=Zd.1 (O1C m);rw[AV.rdt];have z:(rdtL es).length=es.length:=by rw[U5];simp
  have r:∀(j:Nat) (y:AV),(flat (rdtL es))[j]?=some y->∃a,(flat es)[j]?=some a/\y=a.rdt:=by intro j y d;rw[V1a,yF]at d;obtain⟨a,c,rfl⟩:=yC d;exact⟨a,c,rfl⟩
  rw[← z];refine .sl .rd E _ b o K D (by omega) H (λe F=>?_) (λj y d=>?_) (by simp) (λj y d=>?_)
  .rw[U5]at F;obtain⟨J,c,rfl⟩:=yY F;rw[W0x,List.length_map];exact G J c
  .obtain⟨a,c,rfl⟩:=r j y d;grind[W0u,Gh.T_to_rd]
  grind
theorem Gv.nl_inv'{v:Value}(h:Gv w g s .nl v):v=.slice none 0 0:=by cases h with|data _ _ h=>cases h;rfl
def GW.gh(G:GW)(g:Gh):Gh:={ g with rv:=λk=>match lk G.tr k with
 |some (some k0,_)=>g.rv k0
 |some (none,_)=>.slice none 0 0
 |none=>g.rv k }
theorem GW.gh_T(G:GW)(g:Gh):(G.gh g).T=g.T:=Gh.T_eq rfl rfl
theorem U24{G:GW}{fb fr:Nat->Option Nat}{rr:Nat->Option Row}{h:Hn}{x:AV}:cvt1 fb fr G.zr rr h x=x.mp fb fr\/(x=.nl/\∃a,cvt1 fb fr G.zr rr h x=.sl .nw a [])\/(x=.nl/\∃k,G.zr k=true/\cvt1 fb fr G.zr rr h x=.sref k)\/cvt1 fb fr G.zr rr h x=.bad \/ (∃t a es,x=.sl t a es/\t.isOwn=false/\cvt1 fb fr G.zr rr h x=.sl .rd a es)\/(h=.r/\cvt1 fb fr G.zr rr h x=x.rdt)\/(∃k r,x=.sref k/\rr k=some r/\(cvt1 fb fr G.zr rr h x=.sl .nw r.sz r.es\/cvt1 fb fr G.zr rr h x=.sl .rd r.sz r.es)):=by
 unfold cvt1;split
 .grind
 .grind
 .simp
 .grind
 .exact .inr (.inr (.inr (.inr (.inl ⟨_,_,_,rfl,rfl,rfl⟩))))
 .exact .inr (.inr (.inr (.inr (.inr (.inl ⟨rfl,by rw[AV.rdt]⟩)))))
 .exact .inr (.inr (.inr (.inr (.inr (.inl ⟨rfl,by rw[AV.rdt]⟩)))))
 exact .inl rfl
theorem J1X{G:GW}{fb fr:Nat->Option Nat}{rr:Nat->Option Row}{h:Hn}{x:AV}(hx:x.one=true\/x=.bad):(cvt1 fb fr G.zr rr h x).one=true\/cvt1 fb fr G.zr rr h x=.bad:=by
 rcases U24 (G:=G) (fb:=fb) (fr:=fr) (rr:=rr) (h:=h) (x:=x)with e|⟨_,_,e⟩|⟨_,_,_,e⟩|e|⟨_,_,_,_,_,e⟩|⟨_,e⟩|⟨_,_,_,_,e|e⟩
 .rw[e];grind[J28]
 .rw[e];exact .inl rfl
 .rw[e];exact .inl rfl
 .exact .inr e
 .rw[e];exact .inl rfl
 .rw[e];grind[W0u,M27]
 .rw[e];exact .inl rfl
 rw[e];exact .inl rfl
theorem X0x{fb fr:Nat->Option Nat}{k:Nat->Bool}{rr:Nat->Option Row}:∀{b:List Hn}{cs:List AV}{i:Nat}{x:AV},(cvt1L fb fr k rr b cs)[i]?=some x->∃h y,cs[i]?=some y/\x=cvt1 fb fr k rr h y/\(h=.r->nooL b cs->y.noO)
 |h::b,a::l,0,x,e=>by simp[cvt1L]at e;exact⟨h,a,rfl,e.symm,λq n=>by subst q;exact n.1⟩|h::b,a::l,i+1,x,e=>by simp[cvt1L,List.getElem?_cons_succ]at e;obtain⟨c,y,j,g,f⟩:=X0x e;refine⟨c,y,by simpa using j,g,λq n=>f q ?_⟩;cases h<;>first|exact n.2|exact n
 |[],a::l,0,x,e=>by simp[cvt1L]at e;exact⟨.d,a,rfl,e.symm,by simp⟩|[],a::l,i+1,x,e=>by simp[cvt1L,List.getElem?_cons_succ]at e;obtain⟨c,y,j,g,f⟩:=X0x e;exact⟨c,y,by simpa using j,g,λq _=>f q (by cases l<;>trivial)⟩|[],[],i,x,e=>by simp[cvt1L]at e|_::_,[],i,x,e=>by simp[cvt1L]at e
theorem Y0x{fb fr:Nat->Option Nat}{a:Nat->Bool}{rr:Nat->Option Row}:∀{b:List Hn}{cs:List AV},(cvt1L fb fr a rr b cs).length=cs.length
 |_::_,_::_=>by simp[cvt1L,Y0x]|[],_::_=>by simp[cvt1L,Y0x]|[],[]=>rfl|_::_,[]=>rfl
theorem M2D(G:GW)(c:G.ok=true):∀a k,G.fr a=some k->∀r',(s.gw0 G).rw k=some r'->∃r,s.rw a=some r/\r'.sz=r.sz/\(G.gh g).rv k=g.rv a:=by
 simp[GW.ok]at c;intro a k h r' b;obtain⟨z,d⟩:=M1C h;have e:lk G.tr k=some (some a,z)\/lk G.tr k=none:=by cases e:lk G.tr k with|none=>exact .inr rfl|some y=>exact .inl (by rw[J2t (W1z c.1.1) (V1N e) d])
 rcases e with e|e
 .simp[St.gw0,e]at b;exact⟨r',b,rfl,by grind[GW.gh]⟩
 grind[St.gw0]
theorem W2u(G:GW):∀b k,G.fb b=some k->∀c',(s.gw0 G).bx k=some c'->∃c,s.bx b=some c/\(G.gh g).bb k=g.bb b:=by
 intro b k h c' a;unfold GW.fb at h;split at h
 .rename_i f e;cases h;simp only[St.gw0,e]at a;obtain⟨c0,d,_⟩:=yC a;exact⟨c0,d,rfl⟩
 cases h
theorem Gv.gmp(G:GW)(a:G.ok=true){x:AV}{v:Value}(h:Gv w g s x v):Gv w (G.gh g) (s.gw0 G) (x.mp G.fb G.fr) v :=h.mp (g:=g) (g':=G.gh g) (λ_ _ h=>h) (by rw[GW.gh_T];exact TLe.refl) (by simp) (M2D G a) (W2u G)
theorem Gv.same(G:GW){x:AV}{v:Value}(h:Rd w g.S g.T x v):Gv w (G.gh g) (s.gw0 G) x v:=.data x v (by rw[GW.gh_T];exact h)
def Frz(g:Gh)(s:St)(ks:List Nat):Prop:=∀k r,inL k ks=true->s.rw k=some r->∀b,(g.rv k).ownBlock=some b->∀o,o<r.es.length*r.sz->g.S b o
theorem Gv.frz{G:GW}(I:Inv c g s a w)(j:Frz g s G.fz){k:Nat}{r:Row}(h:s.rr G.fz k=some r){v:Value}(e:Gv w g s (.sref k) v):Rd w g.S g.T (.sl .nw r.sz r.es) v:=by
 unfold St.rr at h;split at h
 .rename_i i;rw[e.sref_inv h,Gh.T_of];have q:=I.rws k r h;exact V0a q (λb o d f=>j k r i h b d o f) .nw (λb d=>⟨(I.rwn k r h b d).1.1,I.ow.rw k r h b d⟩)
 cases h
theorem Gv.cvt1(I:Inv c g s a w)(G:GW)(f:Frz g s G.fz)(j:G.ok=true){h:Hn}{x:AV}{v:Value}(b:Gv w g s x v)(d:h=.r->x.noO):Gv w (G.gh g) (s.gw0 G) (cvt1 G.fb G.fr G.zr (s.rr G.fz) h x) v:=by
 have i:=b.gmp G j;unfold Eng.cvt1;split
 .split
  .rename_i r e;exact Gv.same G (b.frz I f e)
  exact .bad _
 .split
  .rename_i r e;exact Gv.same G ((b.frz I f e).toRd rfl)
  exact .bad _
 .rw[b.nl_inv'];exact .data _ _ (.sl0 _ _ _ _ λ_ e=>by cases e)
 .split
  .rename_i e;rw[b.nl_inv'];refine .sref _ _ rfl λr k=>?_;grind[GW.zr,GW.gh]
  exact .bad _
 .exact Gv.same G (b.sl_inv.toRd rfl)
 .have:=b.sl_inv.noRdt (d rfl);rw[AV.rdt]at this;grind[Gv.same]
 .have:=b.sl_inv.noRdt (d rfl);rw[AV.rdt]at this;grind[Gv.same]
 exact i
theorem Gv.cvt1L(I:Inv c g s a w)(G:GW)(l:Frz g s G.fz)(k:G.ok=true){d:List Hn}{cs:List AV}{b:List Value}(j:nooL d cs)(h:∀(i:Nat)(x:AV)(v:Value),cs[i]?=some x->b[i]?=some v->Gv w g s x v) : ∀(i:Nat)(x:AV)(v:Value),(cvt1L G.fb G.fr G.zr (s.rr G.fz) d cs)[i]?=some x->b[i]?=some v->Gv w (G.gh g) (s.gw0 G) x v:=by intro i x v e f;obtain⟨m,y,o,rfl,n⟩:=X0x e;grind[cvt1]
theorem Gv.cvt2(I:Inv c g s a w)(G:GW)(l:Frz g s G.fz)(k:G.ok=true){h:Hn}{x:AV}{v:Value}(e:Gv w g s x v)(j:noo h x):Gv w (G.gh g) (s.gw0 G) (cvt2 G.fb G.fr G.zr (s.rr G.fz) h x) v:=by
 unfold Eng.cvt2;split
 .rename_i p cs;have f:∃b:List Value,v=.agg b.toArray/\cs.length=b.length/\(∀a∈cs,a.one=true\/a=.bad)/\∀(i:Nat) (x:AV) (v:Value),cs[i]?=some x->b[i]?=some v->Gv w g s x v:=by
   cases e with
   |data _ _ h =>cases h with|agg _ b d m h=>exact⟨b,rfl,d,by grind,λi x v o e=>.data _ _ (h i x v o e)⟩
   |agg _ b d m h=>grind
  obtain⟨b,rfl,d,m,h⟩:=f;refine .agg _ b (by rw[Y0x];exact d) (λy n=>?_) (Gv.cvt1L I G l k j h);obtain⟨i,r⟩:=List.mem_iff_getElem?.1 n;obtain⟨u,t,z,rfl,_⟩:=X0x r;grind[J1X,yE]
 .rename_i p cs;cases e with|data _ _ h=>cases h|tup _ b d h=>exact .tup _ b (by rw[Y0x];exact d) (Gv.cvt1L I G l k j h)
 refine e.cvt1 I G l k λq=>?_;subst q;rename_i x _ _;cases x<;>exact j
theorem V29{G:GW}:∀{l:List (Nat×Hn)},nooT s l->∀{i:Nat}{h:Hn},lk l i=some h->noo h (s.e i)
 |[],_,_,_,e=>by cases e| (j,h0)::l,hn,i,h,e=>by
  simp[lk]at e;split at e
  .rename_i q;have:=yR q;cases e;subst this;exact hn.1
  .exact V29 (G:=G) hn.2 e
theorem Q29{G:GW}:∀{l:List (Nat×List Hn)},nooB s l->∀{k:Nat}{a:List Hn}{cs:List AV},lk l k=some a->s.bx k=some cs->nooL a cs
 |[],_,_,_,_,e,_=>by cases e| (j,h0)::l,hn,k,a,cs,e,hc=>by
  simp[lk]at e;split at e
  .rename_i q;have:=yR q;cases e;subst this;have b:=hn.1;rw[hc]at b;exact b
  .exact Q29 (G:=G) hn.2 e hc
theorem Inv.gw0(I:Inv c g s a w)(G:GW)(U:Frz g s G.fz)(O:G.ok=true)(M:nooT s G.te)(N:nooB s G.tb):Inv c (G.gh g) (s.gw0 G) a w:=by
 have D:=O;simp[GW.ok]at D;have d:∀k r',(s.gw0 G).rw k=some r'->(∃m z,(k,some m,z)∈G.tr/\s.rw m=some r'/\(G.gh g).rv k=g.rv m)\/(r'.es=[]/\(G.gh g).rv k=.slice none 0 0):=by
  intro k r' h;simp[St.gw0]at h;split at h
  .grind[V1N,GW.gh]
  .rename_i z e;cases h;exact .inr ⟨rfl,by grind[GW.gh]⟩
  cases h
 have f:∀k B,(s.gw0 G).bx k=some B->∃K cs,lk G.tb k=some K/\s.bx k=some cs/\B=cvt1L G.fb G.fr G.zr (s.rr G.fz) K cs:=by
  intro k B h;simp[St.gw0]at h;split at h
  .rename_i K e;obtain⟨c0,j,rfl⟩:=yC h;grind
  cases h
 refine⟨I.defers,I.nt,I.fr,λi=>?_,λk cs h=>?_,λk cs h=>?_,λk r h=>?_,λk r h b n=>?_,λk F cs B h H C=>?_,λk F cs r h H=>?_,λk F r r' h H C b n=>?_, I.sw,I.nn,I.nx,λk t=>⟨?_,(I.fix k t).2⟩,I.sm,I.sb,?_,I.uf,I.sd⟩
 .simp only[St.gw0];split
  .rename_i h e;exact(I.tm i).cvt2 I G U O (V29 (G:=G) M e)
  exact .bad _
 .obtain⟨K,c0,e,j,rfl⟩:=f k cs h;obtain⟨W,X,Q,h2,h3⟩:=I.bxs k c0 j;refine⟨W,X,Q,by rw[Y0x];exact h2,λi x v T hv=>?_⟩;have L:=T;obtain⟨H,y,A,rfl,_⟩:=X0x T;exact⟨by grind[J1X],(by grind),Gv.cvt1L I G U O (Q29 (G:=G) N e j) (by grind) i _ v L hv⟩
 .obtain⟨K,c0,e,j,_⟩:=f k cs h;exact I.bxn k c0 j
 .rw[GW.gh_T];rcases d k r h with⟨m,z,_,j,e⟩|⟨A,u⟩
  .rw[e];exact I.rws m r j
  rw[u];refine⟨[],default,⟨by simp[A],.inl ⟨rfl,by simp[A]⟩⟩,by simp[A],by simp⟩
 .rcases d k r h with⟨m,z,_,j,e⟩|⟨A,u⟩
  .rw[e]at n;exact I.rwn m r j b n
  rw[u]at n;cases n
 .obtain⟨_,c0,_,j,_⟩:=f k cs h;obtain⟨_,R,_,E,_⟩:=f F B H;exact I.dbb k F c0 R j E C
 .obtain⟨_,c0,_,j,_⟩:=f k cs h;rcases d F r H with⟨m,z,_,E,e⟩|⟨A,u⟩
  .rw[e];exact I.dbr k m c0 r j E
  rw[u];exact λq=>by cases q
 .rcases d k r h with⟨m,z,Z,j,e⟩|⟨A,u⟩
  .rw[e]at n;rcases d F r' H with⟨S,V,m1,Q,A⟩|⟨A,u⟩
   .rw[A];refine I.drr m S r r' j Q (λq=>C ?_) b n;grind[Y1T,W1z]
   rw[u];exact λq=>by cases q
  rw[u]at n;cases n
 .have J:∀{l:List (Nat×Option Nat×Nat)},trOk l=true->∀{k:Nat} {o:Option Nat} {z:Nat},(k,o,z)∈l->1000000000<=k->o=some k:=by
   intro l;induction l with
   |nil=>simp|cons p l ih =>
    obtain⟨S,Y,V⟩:=p;intro h k o z hm P;simp[trOk]at h;rcases yX hm with e|e
    .cases e;have n:=Nat.ble_eq_true_of_le P;cases Y with|none=>simp[n]at h|some m =>simp only[n,Bool.true_and,yL,Bool.or_false]at h;rw[yR h.1]
    grind
  show(match lk G.tr k with|some (some m,_)=>g.rv m|some (none,_)=>.slice none 0 0|none=>g.rv k)=c.rv0 k;split
  .rename_i m z e;have:=J D.2 (V1N e) t;cases this;exact(I.fix k t).1
  .rename_i z e;have:=J D.2 (V1N e) t;cases this
  exact(I.fix k t).1
 refine I.ow.turn (g':=G.gh g) (s':=s.gw0 G) rfl (λ_ h=>h) (yV _) (λ_ _=>rfl) (λk cs h=>?_) (λk r h b n=>?_)
 .obtain⟨_,c0,_,j,_⟩:=f k cs h;exact I.ow.bx k c0 j
 rcases d k r h with⟨m,z,Z,j,e⟩|⟨A,u⟩
 .rw[e]at n;exact I.ow.rw m r j b n
 rw[u]at n;cases n
theorem Inv.shs(I:Inv c g s a w):∀ks:List Nat,∃g',Inv c g' (s.shs ks) a w/\Frz g' (s.shs ks) ks
 |[]=>⟨g,I,by intro k r t;cases t⟩|k::ks=>by
  obtain⟨v,n,p⟩:=Inv.shs I ks;cases h:(s.shs ks).rw k with
  |none =>
   have e:s.shs (k::ks)=s.shs ks:=by
    have y:s.rw k=none:=by grind[St.shs,Option.map_eq_none_iff]
    simp only[St.shs];congr 1;funext j;simp only[inL];by_cases d:j=k
    .grind
    .rw[show Nat.beq j k=false from Bool.eq_false_iff.2 λq=>d (yR q)]
   rw[e];refine⟨v,n,λj r d f b m o i=>?_⟩;simp only[inL]at d;split at d
   .simp_all
   .exact p j r d f b m o i
  |some r =>
   have e:s.shs (k::ks)={ s.shs ks with rw:=λj=>if j=k then some { r with sh:=true } else(s.shs ks).rw j }:=by
    simp only[St.shs];congr 1;funext j;simp only[inL];by_cases d:j=k
    .subst d;simp only[St.shs]at h;simp only[Nat.beq_refl,yb];split at h
     .obtain⟨x,u,rfl⟩:=yC h;rw[u];rfl
     .rw[h];rfl
    .rw[show Nat.beq j k=false from Bool.eq_false_iff.2 λq=>d (yR q),ye d]
   rw[e];refine⟨_,n.share h,λj r' d f b m o i=>?_⟩;simp only at f;by_cases l:j=k
   .grind
   .rw[ye l]at f;simp only[inL]at d;split at d
    .simp_all
    .exact .inl (p j r' d f b m o i)
theorem X1Y{ks:List Nat}:∀{l:List (Nat×Hn)},nooT s l->nooT (s.shs ks) l
 |[],_=>trivial|_::_,h=>⟨h.1,X1Y h.2⟩
theorem V1Y{ks:List Nat}:∀{l:List (Nat×List Hn)},nooB s l->nooB (s.shs ks) l
 |[],_=>trivial|_::_,h=>⟨h.1,V1Y h.2⟩
theorem Inv.gw(I:Inv c g s a w)(G:GW)(e:G.ok=true)(b:nooT s G.te)(d:nooB s G.tb):∃g',Inv c g' (s.gw G) a w:=by obtain⟨g',h,f⟩:=I.shs G.fz;exact⟨_,h.gw0 G f e (X1Y b) (V1Y d)⟩
end
end
end Go.Proofs.YtehomnafaoplgaaGreat.Eng
