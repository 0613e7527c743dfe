/-
  Lemmas, part 5.
-/
import Derived.Test.YtpgaganbacipnaaGreatS4
namespace Go.Proofs.YtpgaganbacipnaaGreat.Eng
open Go Go.RowKit
section
mutual
def AV.kf(b:Nat->Bool):AV->Bool
 |.sref _=>false
 |.rpt _ _ _=>false
 |.ptr k _=>b k||decide (1000000000<=k)
 |.bad=>false
 |.agg cs=>kfL b cs
 |.tup cs=>kfL b cs
 |.fn _ cs=>kfL b cs
 |_=>true
def kfL(b:Nat->Bool):List AV->Bool
 |[]=>true
 |a::l=>AV.kf b a&&kfL b l
end
section
variable{b b':Nat->Bool}
mutual
theorem M0M{k:Nat}(hk:k<1000000000)(hb:b k=false):∀a:AV,a.kf b=true->a.dead k=a
 |.bool _,_ | .int _ _,_ | .str _,_ | .nl,_ | .el,_ | .sl _ _ _,_ | .ept _ _,_ | .eot _ _,_ | .od _ _ _,_ | .op _ _ _,_ | .und,_=>by simp[AV.dead]
 |.sref _,h | .rpt _ _ _,h | .bad,h=>by simp[AV.kf]at h
 |.ptr j o,h=>by
  have h':b j=true\/1000000000<=j:=by simpa[AV.kf]using h
  rw[AV.dead,ye]
  rintro rfl
  rcases h' with h'|h'
  .rw[hb]at h';cases h'
  .omega
 |.agg cs,h=>by rw[AV.dead,O0q hk hb cs (by simpa[AV.kf]using h)]
 |.tup cs,h=>by rw[AV.dead,O0q hk hb cs (by simpa[AV.kf]using h)]
 |.fn f cs,h=>by rw[AV.dead,O0q hk hb cs (by simpa[AV.kf]using h)]
theorem O0q{k:Nat}(hk:k<1000000000)(hb:b k=false):∀l:List AV,kfL b l=true->Z5 k l=l
 |[],_=>by simp[Z5]
 |a::l,h=>by
  simp only[kfL,yD]at h
  rw[Z5,M0M hk hb a h.1,O0q hk hb l h.2]
end
mutual
theorem M14(hb:∀k,b k=true->b' k=true):∀a:AV,a.kf b=true->a.kf b'=true
 |.bool _,_ | .int _ _,_ | .str _,_ | .nl,_ | .el,_ | .sl _ _ _,_ | .ept _ _,_ | .eot _ _,_ | .od _ _ _,_ | .op _ _ _,_ | .und,_=>by simp[AV.kf]
 |.sref _,h | .rpt _ _ _,h | .bad,h=>by simp[AV.kf]at h
 |.ptr j o,h=>by
  have h':b j=true\/1000000000<=j:=by simpa[AV.kf]using h
  simp only[AV.kf,Bool.or_eq_true,yO]
  exact h'.imp (hb j) id
 |.agg cs,h=>by simpa[AV.kf]using M0h hb cs (by simpa[AV.kf]using h)
 |.tup cs,h=>by simpa[AV.kf]using M0h hb cs (by simpa[AV.kf]using h)
 |.fn f cs,h=>by simpa[AV.kf]using M0h hb cs (by simpa[AV.kf]using h)
theorem M0h(hb:∀k,b k=true->b' k=true):∀l:List AV,kfL b l=true->kfL b' l=true
 |[],_=>by simp[kfL]
 |a::l,h=>by
  simp only[kfL,yD]at h ⊢
  exact⟨M14 hb a h.1,M0h hb l h.2⟩
end
end
mutual
def AV.ks(b r:Nat->Bool):AV->Bool
 |.sref k=>r k
 |.rpt k _ _=>r k
 |.ptr k _=>b k||decide (1000000000<=k)
 |.bad=>false
 |.agg cs=>ksL b r cs
 |.tup cs=>ksL b r cs
 |.fn _ cs=>ksL b r cs
 |_=>true
def ksL(b r:Nat->Bool):List AV->Bool
 |[]=>true
 |a::l=>AV.ks b r a&&ksL b r l
end
section
variable{b b' r r':Nat->Bool}
mutual
theorem W14{k:Nat}(hk:k<1000000000)(hb:b k=false)(hr:r k=false):∀a:AV,a.ks b r=true->a.dead k=a
 |.bool _,_ | .int _ _,_ | .str _,_ | .nl,_ | .el,_ | .sl _ _ _,_ | .ept _ _,_ | .eot _ _,_ | .od _ _ _,_ | .op _ _ _,_ | .und,_=>by simp[AV.dead]
 |.sref j,h=>by
  rw[AV.dead,ye]
  rintro rfl
  simp only[AV.ks]at h;rw[hr]at h;cases h
 |.rpt j _ _,h=>by
  rw[AV.dead,ye]
  rintro rfl
  simp only[AV.ks]at h;rw[hr]at h;cases h
 |.bad,h=>by simp[AV.ks]at h
 |.ptr j o,h=>by
  have h':b j=true\/1000000000<=j:=by simpa[AV.ks]using h
  rw[AV.dead,ye]
  rintro rfl
  rcases h' with h'|h'
  .rw[hb]at h';cases h'
  .omega
 |.agg cs,h=>by rw[AV.dead,Q0q hk hb hr cs (by simpa[AV.ks]using h)]
 |.tup cs,h=>by rw[AV.dead,Q0q hk hb hr cs (by simpa[AV.ks]using h)]
 |.fn f cs,h=>by rw[AV.dead,Q0q hk hb hr cs (by simpa[AV.ks]using h)]
theorem Q0q{k:Nat}(hk:k<1000000000)(hb:b k=false)(hr:r k=false):∀l:List AV,ksL b r l=true->Z5 k l=l
 |[],_=>by simp[Z5]
 |a::l,h=>by
  simp only[ksL,yD]at h
  rw[Z5,W14 hk hb hr a h.1,Q0q hk hb hr l h.2]
end
mutual
theorem L1h(hb:∀k,b k=true->b' k=true)(hr:∀k,r k=true->r' k=true):∀a:AV,a.ks b r=true->a.ks b' r'=true
 |.bool _,_ | .int _ _,_ | .str _,_ | .nl,_ | .el,_ | .sl _ _ _,_ | .ept _ _,_ | .eot _ _,_ | .od _ _ _,_ | .op _ _ _,_ | .und,_=>by simp[AV.ks]
 |.sref j,h=>hr j h
 |.rpt j _ _,h=>hr j h
 |.bad,h=>by simp[AV.ks]at h
 |.ptr j o,h=>by
  have h':b j=true\/1000000000<=j:=by simpa[AV.ks]using h
  simp only[AV.ks,Bool.or_eq_true,yO]
  exact h'.imp (hb j) id
 |.agg cs,h=>by simpa[AV.ks]using WW hb hr cs (by simpa[AV.ks]using h)
 |.tup cs,h=>by simpa[AV.ks]using WW hb hr cs (by simpa[AV.ks]using h)
 |.fn f cs,h=>by simpa[AV.ks]using WW hb hr cs (by simpa[AV.ks]using h)
theorem WW(hb:∀k,b k=true->b' k=true)(hr:∀k,r k=true->r' k=true):∀l:List AV,ksL b r l=true->ksL b' r' l=true
 |[],_=>by simp[ksL]
 |a::l,h=>by
  simp only[ksL,yD]at h ⊢
  exact⟨L1h hb hr a h.1,WW hb hr l h.2⟩
end
mutual
theorem V20:∀a:AV,a.kf b=true->a.ks b r=true
 |.bool _,_ | .int _ _,_ | .str _,_ | .nl,_ | .el,_ | .sl _ _ _,_ | .ept _ _,_ | .eot _ _,_ | .od _ _ _,_ | .op _ _ _,_ | .und,_=>by simp[AV.ks]
 |.sref _,h | .rpt _ _ _,h | .bad,h=>by simp[AV.kf]at h
 |.ptr j o,h=>h
 |.agg cs,h=>by simpa[AV.ks]using L14 cs (by simpa[AV.kf]using h)
 |.tup cs,h=>by simpa[AV.ks]using L14 cs (by simpa[AV.kf]using h)
 |.fn f cs,h=>by simpa[AV.ks]using L14 cs (by simpa[AV.kf]using h)
theorem L14:∀l:List AV,kfL b l=true->ksL b r l=true
 |[],_=>by simp[ksL]
 |a::l,h=>by
  simp only[ksL,kfL,yD]at h ⊢
  exact⟨V20 a h.1,L14 l h.2⟩
end
end
inductive Zc|f|t|s(ck:List Nat)
def bO(s:St)(k:Nat):Bool:=(s.bx k).isSome
def rO(s:St)(k:Nat):Bool:=(s.rw k).isSome
def rS(ck:List Nat)(s:St)(k:Nat):Bool:=rO s k&&!ck.contains k
def kfz(c:Zc)(s:St)(v:AV):Bool:=match c with
 |.s ck=>v.ks (bO s) (rS ck s)
 |_=>v.kf (bO s)
theorem J1J{c:Zc}{s:St}{v:AV}(h:v.kf (bO s)=true):kfz c s v=true:=by
 cases c with
 |s ck=>exact V20 v h
 |_=>exact h
theorem J1m{c:Zc}{s:St}{v:AV}{k:Nat}(hk:k<1000000000)(hb:s.bx k=none)(hr:s.rw k=none)(h:kfz c s v=true):v.dead k=v:=by
 cases c with
 |s ck=>exact W14 hk (by simp[bO,hb]) (by simp[rS,rO,hr]) v h
 |_=>exact M0M hk (by simp[bO,hb]) v h
theorem W0q{c:Zc}{s s':St}{v:AV}(hb:∀k,bO s k=true->bO s' k=true)(hr:∀ck,c=.s ck->∀k,rS ck s k=true->rS ck s' k=true)(h:kfz c s v=true):kfz c s' v=true:=by
 cases c with
 |s ck=>exact L1h hb (hr ck rfl) v h
 |_=>exact M14 hb v h
theorem J1c{c:Zc}{s s':St}{v:AV}(hb:s.bx=s'.bx)(hr:s.rw=s'.rw):kfz c s v=kfz c s' v:=by
 have e1:bO s=bO s':=by funext k;simp only[bO,hb]
 have e2:∀ck,rS ck s=rS ck s':=fun ck=>by funext k;simp only[rS,rO,hr]
 cases c with
 |s ck=>unfold kfz;simp only[e1,e2]
 |_=>unfold kfz;rw[e1]
def St.strip(s:St):St:={ e:=s.e,bx:=fun k=>if k<1000000000 then(match s.bx k with|some cs=>if kfL (bO s) cs=true then some cs else none|none=>none)else none,rw:=fun _=>none,nx:=s.nx,my:=s.my,kn:=s.kn }
def Q0i(b:Nat->Bool):List AV->List AV
 |[]=>[]
 |a::l=>(match a.kf b with|true=>a|false=>.bad)::Q0i b l
def St.stripF(s:St):St:={ e:=s.e,bx:=fun k=>(s.bx k).map (Q0i (bO s)),rw:=fun _=>none,nx:=s.nx,my:=s.my,kn:=s.kn }
def St.stripS(ck:List Nat)(s:St):St:={ e:=s.e,bx:=fun k=>if k<1000000000 then(match s.bx k with|some cs=>if ksL (bO s) (rS ck s) cs=true then some cs else none|none=>none)else none,rw:=fun k=>match ck.contains k with|true=>none|false=>s.rw k,nx:=s.nx,my:=s.my,kn:=s.kn }
def St.stripc(s:St):Zc->St
 |.t=>s.strip
 |.f=>s.stripF
 |.s ck=>s.stripS ck
def St.hide(s:St)(ow:List Nat):St:={ e:=s.e,bx:=fun k=>match ow.contains k with|true=>none|false=>s.bx k,rw:=s.rw,nx:=s.nx,my:=s.my,kn:=s.kn }
theorem Q0d{s:St}{ow:List Nat}{k:Nat}{cs:List AV}(h:(s.hide ow).bx k=some cs):s.bx k=some cs:=by
 simp only[St.hide]at h
 split at h
 .cases h
 .exact h
theorem X1i{s:St}{ow:List Nat}{k:Nat}(h:k∈ow):(s.hide ow).bx k=none:=by
 simp only[St.hide,List.contains_iff_mem.2 h]
theorem M1d{s:St}{ow:List Nat}{k:Nat}(h:s.bx k=none):(s.hide ow).bx k=none:=by
 cases hx:(s.hide ow).bx k with
 |none=>rfl
 |some cs=>rw[Q0d hx]at h;cases h
theorem Y18{s:St}{ow:List Nat}(k:Nat)(h:bO (s.hide ow) k=true):bO s k=true:=by
 unfold bO at h ⊢
 cases hx:(s.hide ow).bx k with
 |none=>rw[hx]at h;cases h
 |some cs=>rw[Q0d hx];rfl
theorem O14{c:Zc}{s:St}{ow:List Nat}{v:AV}(h:kfz c (s.hide ow) v=true):kfz c s v=true:=W0q Y18 (fun _ _ _ h=>h) h
def U0n:LOp->Bool
 |.cm _ _ _=>true
 |.mv _ _=>true
 |.ex _ _ _=>true
 |.cl _ _ _=>true
 |_=>false
def clKs(d:Nat):List Nat:=[1000*d+1000,1000*d+1001,1000*d+1002,1000*d+1003,1000*d+1004,1000*d+1005,1000*d+1006,1000*d+1007]
theorem Z1o{d i:Nat}(h:i<8):1000*d+1000+i∈clKs d:=by
 unfold clKs
 match i,h with
 |0,_|1,_|2,_|3,_|4,_|5,_|6,_|7,_=>simp
 |n+8,h=>omega
def clK:List (Bool×LOp)->List Nat
  |[]=>[]
  | (_,.cl d _ _)::r=>clKs d++clK r
  |_::r=>clK r
theorem V1C:∀{l:List (Bool×LOp)} {f:Bool} {d f':Nat} {xs:List X},(f,LOp.cl d f' xs)∈l->∀k∈clKs d,k∈clK l
  |[],_,_,_,_,h=>by cases h
  | (f0,l0)::r,f,d,f',xs,h=>by
    intro k hk
    rcases yX h with h|h
    · cases h;exact List.mem_append_left _ hk
    · have:=V1C h k hk
      cases l0<;>first|exact List.mem_append_right _ this|exact this
def Z1a:List (Bool×LOp)->Bool
  |[]=>true
  | (f,l)::r=>(!f||U0n l)&&Z1a r
def isCm:LOp->Bool
 |.cm _ _ _=>true
 |_=>false
def V1A:List (Bool×LOp)->Bool
  |[]=>false
  | (_,l)::r=>isCm l||V1A r
def zcOf(l:List (Bool×LOp)):Zc:=match V1A l with
 |false=>.f
 |true=>match Z1a l with
  |true=>.s (clK l)
  |false=>.t
theorem U1M:∀{l:List (Bool×LOp)},zcOf l=.f->∀x∈l,isCm x.2=false:=by
 intro l h
 have h0:V1A l=false:=by
  unfold zcOf at h
  cases hx:V1A l with
  |false=>rfl
  |true=>rw[hx]at h;simp only at h;split at h<;>cases h
 clear h
 induction l with
 |nil=>intro x hx;cases hx
 |cons y l ih =>
  simp only[V1A,Bool.or_eq_false_iff]at h0
  intro x hx
  rcases yX hx with rfl|hx
  .exact h0.1
  .exact ih h0.2 x hx
theorem Y1E{l:List (Bool×LOp)}{ck:List Nat}(h:zcOf l=.s ck):ck=clK l:=by
 unfold zcOf at h
 split at h
 .cases h
 .split at h
  .cases h;rfl
  .cases h
theorem L1o:∀{l:List (Bool×LOp)} {ck:List Nat},zcOf l=.s ck->∀x∈l,x.1=true->U0n x.2=true:=by
 intro l ck h
 have h0:Z1a l=true:=by
  unfold zcOf at h
  split at h
  .cases h
  .split at h
   .rename_i q;exact q
   .cases h
 clear h
 induction l with
 |nil=>intro x hx;cases hx
 |cons y l ih =>
  simp only[Z1a,yD,Bool.or_eq_true,Bool.not_eq_true']at h0
  intro x hx hf
  rcases yX hx with rfl|hx
  .exact h0.1.resolve_left (by rw[hf];simp)
  .exact ih h0.2 x hx hf
def BxLe(b:Nat->Bool)(cs cs':List AV):Prop:=cs'.length=cs.length/\∀(i:Nat) (a:AV),cs[i]?=some a->a.kf b=true->cs'[i]?=some a
theorem BxLe.refl(b:Nat->Bool)(cs:List AV):BxLe b cs cs:=⟨rfl,fun _ _ h _=>h⟩
theorem BxLe.trans{b b':Nat->Bool}(hb:∀k,b k=true->b' k=true){x y z:List AV}(h:BxLe b x y)(h2:BxLe b' y z):BxLe b x z :=
  ⟨by rw[h2.1,h.1],fun i a ha hk=>h2.2 i a (h.2 i a ha hk) (M14 hb a hk)⟩
def BxA:Zc->St->St->Prop
 |.t,s,s'=>∀k cs,k<1000000000->s.bx k=some cs->kfL (bO s) cs=true->s'.bx k=some cs
 |.f,s,s'=>∀k cs,s.bx k=some cs->∃cs',s'.bx k=some cs'/\BxLe (bO s) cs cs'
 |.s ck,s,s'=>(∀k cs,k<1000000000->s.bx k=some cs->ksL (bO s) (rS ck s) cs=true->s'.bx k=some cs)/\∀k r,ck.contains k=false->s.rw k=some r->s'.rw k=some r
theorem M1O{ck:List Nat}{s s':St}(h:∀k r,ck.contains k=false->s.rw k=some r->s'.rw k=some r):∀k,rS ck s k=true->rS ck s' k=true:=fun k hk=>by
 unfold rS rO at hk ⊢
 simp only[yD,Bool.not_eq_true']at hk ⊢
 cases hr:s.rw k with
 |none=>rw[hr]at hk;exact absurd hk.1 (by simp)
 |some r=>exact⟨by rw[h k r hk.2 hr];rfl,hk.2⟩
theorem Y1F{ck:List Nat}{s s':St}(e:s.rw=s'.rw):rS ck s=rS ck s':=by funext k;simp only[rS,rO,e]
theorem BxA.all{c:Zc}{s s':St}(h:∀k cs,s.bx k=some cs->s'.bx k=some cs)(hr:∀ck,c=.s ck->∀k r,ck.contains k=false->s.rw k=some r->s'.rw k=some r):BxA c s s':=by
 cases c with
 |t=>exact fun k cs _ hk _=>h k cs hk
 |f=>exact fun k cs hk=>⟨cs,h k cs hk,.refl _ _⟩
 |s ck=>exact⟨fun k cs _ hk _=>h k cs hk,hr ck rfl⟩
theorem BxA.trans{c:Zc}{s s' s'':St}(hb:∀k,bO s k=true->bO s' k=true)(h:BxA c s s')(h2:BxA c s' s''):BxA c s s'':=by
 cases c with
 |t=>exact fun k cs hk h0 hf=>h2 k cs hk (h k cs hk h0 hf) (M0h hb cs hf)
 |f =>
  intro k cs h0
  obtain⟨c1,q1,q2⟩:=h k cs h0
  obtain⟨c2,q3,q4⟩:=h2 k c1 q1
  exact⟨c2,q3,q2.trans hb q4⟩
 |s ck=>exact⟨fun k cs hk h0 hf=>h2.1 k cs hk (h.1 k cs hk h0 hf) (WW hb (M1O h.2) cs hf),fun k r hc h0=>h2.2 k r hc (h.2 k r hc h0)⟩
theorem BxA.congr2{c:Zc}{s s' t:St}(e:t.bx=s'.bx)(er:t.rw=s'.rw)(h:BxA c s s'):BxA c s t:=by
 cases c with
 |t=>intro k cs hk h0 hf;rw[e];exact h k cs hk h0 hf
 |f=>intro k cs h0;rw[e];exact h k cs h0
 |s ck=>exact⟨fun k cs hk h0 hf=>by rw[e];exact h.1 k cs hk h0 hf,fun k r hc h0=>by rw[er];exact h.2 k r hc h0⟩
theorem BxA.congr{c:Zc}{s s' t:St}(e:t.bx=s.bx)(er:t.rw=s.rw)(h:BxA c s s'):BxA c t s':=by
 have eb:bO t=bO s:=by funext k;simp only[bO,e]
 cases c with
 |t=>intro k cs hk h0 hf;rw[e]at h0;rw[eb]at hf;exact h k cs hk h0 hf
 |f=>intro k cs h0;rw[e]at h0;obtain⟨c1,q1,q2⟩:=h k cs h0;exact⟨c1,q1,by rw[eb];exact q2⟩
 |s ck=>exact⟨fun k cs hk h0 hf=>h.1 k cs hk (by rw[← e];exact h0) (by rw[← eb,← Y1F er];exact hf),fun k r hc h0=>h.2 k r hc (by rw[← er];exact h0)⟩
theorem BxA.hide{c:Zc}{s s':St}{ow:List Nat}(h:BxA c s s'):BxA c (s.hide ow) (s'.hide ow):=by
 have key:∀k cs,(s.hide ow).bx k=some cs->ow.contains k=false:=fun k cs hk=>by
  cases hc:ow.contains k with
  |false=>rfl
  |true=>rw[X1i (List.contains_iff_mem.1 hc)]at hk;cases hk
 have e:∀k,ow.contains k=false->(s'.hide ow).bx k=s'.bx k:=fun k hk=>by simp only[St.hide,hk]
 cases c with
 |t=>exact fun k cs hk h0 hf=>by rw[e k (key k cs h0)];exact h k cs hk (Q0d h0) (M0h Y18 cs hf)
 |f =>
  intro k cs h0
  obtain⟨c1,q1,q2⟩:=h k cs (Q0d h0)
  exact⟨c1,by rw[e k (key k cs h0)];exact q1,q2.1,fun i a ha hf=>q2.2 i a ha (M14 Y18 a hf)⟩
 |s ck=>exact⟨fun k cs hk h0 hf=>by rw[e k (key k cs h0)];exact h.1 k cs hk (Q0d h0) (WW Y18 (fun _ h=>h) cs hf),h.2⟩
theorem BxA.rS{ck:List Nat}{s s':St}(h:BxA (.s ck) s s'):∀k,rS ck s k=true->rS ck s' k=true:=M1O h.2
def St.ov(s:St)(p:Nat->Option AV):St:={ s with e:=fun t=>(p t).getD (s.e t) }
def LOp.rdE:LOp->List Nat
 |.mv _ x | .ex _ x _=>x.rd
 |.bs _ _ ps _=>ps.flatMap X.rd
 |.ap _ x y _ _=>x.rd++y.rd
 |.cm _ _ xs=>xs.flatMap X.rd
 |.cl d _ xs=>clKs d++xs.flatMap X.rd
 |.bd _ _ ps=>(ps.map fun p=>p.2.2).flatMap X.rd
 |.ln _ x=>x.rd
 |l=>l.rds
def isQE:LOp->Bool
 |.sc _ _ _ _ _=>false
 |.g _ _ _=>false
 |.mv _ _=>false
 |.ex _ _ _=>false
 |.bd _ _ _=>false
 |.bs _ _ _ _=>false
 |l=>isQ1 l
def isX:X->Bool
 |.t _=>true
 |.c a=>plain a||(match a with | .agg cs=>cs.all plain|_=>false)
def isE:LOp->Bool
 |.mv _ (.t _) | .ex _ (.t _) _ | .bs _ _ _ true | .ap _ _ _ _ _ | .cm _ _ _=>true
 |.bd _ z ps=>z.all plain&&ps.all fun p=>isX p.2.2
 |.ln _ (.t _)=>true
 |.sc _ (.t _) none none _=>true
 |.cl _ _ _=>true
 |l=>isQE l
def zw(P:Program):LOp->(St->Prop)->St->Prop
 |.cm d f xs,K,s=>∃(bks:List Nat) (bin:List (List AV)),(∀k∈bks,1000000000<=k)/\bks.Nodup/\MI s (ix bks) (ix []) bks bin/\((∀b∈bin,noOL b)/\∀x∈xs,(s.get x).noO) /\
   ∃Φ,ConN P f s.nx (xs.map fun x=>((s.get x).mp (ix bks) (ix [])).rdt) bin [] Φ/\∀n1 res bout upd new,s.nx<=n1->bout.map List.length=bin.map List.length->Φ n1 res bout upd new->new=[]/\K (afterM s n1 d bks [] res bout [] [])
 |.bs d sz ps own,K,s=>s.bx d=none/\wop P (.bs d sz ps own) K s
 |.ap d x y sz b,K,s=>(match s.get x with | .sref k=>s.bx k=none|_=>s.bx d=none)/\wop P (.ap d x y sz b) K s
 |.mv d x,K,s=>wop P (.mv d x) K s
 |.ex d x i,K,s=>wop P (.ex d x i) K s
 |.bd d z ps,K,s=>wop P (.bd d z ps) K s
 |.ln d x,K,s=>wop P (.ln d x) K s
 |.sc d x lo hi n,K,s=>wop P (.sc d x lo hi n) K s
 |.cl d f xs,K,s=>∃as,s.args xs=some as/\∃res rows,Snd P f as res rows/\rows.length<=8/\(∀k,(∀i,i<rows.length->k≠1000*d+1000+i)->(res.ren (1000*d+1000) rows.length).dead k=res.ren (1000*d+1000) rows.length)/\(∀i,i<rows.length->s.bx (1000*d+1000+i)=none)/\1000*d+1000+rows.length<=1000000000/\K ((s.addrows (1000*d+1000) rows).set d (res.ren (1000*d+1000) rows.length))
 |l,K,s=>wop P l (fun s'=>(∀k,k<1000000000->Free k s->(s'.e l.dst).dead k=s'.e l.dst)/\K s') s
def L0j:LOp->Bool
 |.mv _ _=>true
 |.ex _ _ _=>true
 |_=>false
def U1a:List (Bool×LOp)->Bool
  |[]=>true
  | (f,l)::r=>(!f||L0j l)&&U1a r
structure Keep(c:Zc)(l:LOp)(s s':St):Prop where
 e:∀t,t≠l.dst->kfz c s (s.e t)=true->s'.e t=s.e t
 bx:BxA c s s'
 b:∀k,bO s k=true->bO s' k=true
 sf:L0j l=true->∀t,t≠l.dst->s'.e t=s.e t
section
variable{P:Program}{s s':St}{p:Nat->Option AV}
theorem zw_cm{K:St->Prop}{d f:Nat}{xs:List X}(h:zw P (.cm d f xs) K s):wop P (.cm d f xs) K s:=by
 obtain⟨bks,bin,_,h2,h3,h4,Φ,hC,h⟩:=h
 simp only[wop]
 refine⟨bks,[],bin,[],_,by simpa using h2,h3,trivial,⟨h4.1,(fun r hr=>(by cases hr)),h4.2⟩,by simpa[List.map_map]using GEs.rdt (xs.map fun x=>(s.get x).mp (ix bks) (ix [])),Φ,by simpa[List.map_map,Function.comp_def]using hC,fun n1 res bout upd new q0 q1 q2 q3=>?_⟩
 have hu:upd=[]:=by simpa using q2
 subst hu
 obtain⟨rfl,hk⟩:=h n1 res bout [] new q0 q1 q3
 exact⟨by simp,trivial,fun k _=>by simp only[List.length_nil];omega,hk⟩
theorem Z1A{l:LOp}(h:isQE l=true):isQ l=true/\(∀s:St,scOk s l)/\l.rdE=l.rds:=by
 cases l<;>simp only[isQE,yG]at h<;>first|exact⟨h,fun _=>trivial,rfl⟩ | (simp[isQ1]at h)
theorem X1J{x:X}(h:∀t∈x.rd,p t=none):(s.ov p).get x=s.get x:=by
 cases x with
 |t i=>simp[St.get,St.ov,h i (by simp[X.rd])]
 |c a=>rfl
theorem W1w{xs:List X}(h:∀t∈xs.flatMap X.rd,p t=none):xs.map (s.ov p).get=xs.map s.get:=by
 apply List.map_congr_left
 intro x hx
 exact X1J fun t ht=>h t (List.mem_flatMap.2 ⟨x,hx,ht⟩)
mutual
theorem U1Y:∀a,(s.ov p).dt a=s.dt a
 |.bool _ | .int _ _ | .str _ | .nl | .el | .sl _ _ _ | .tup _ | .ptr _ _ | .ept _ _ | .eot _ _ | .rpt _ _ _ | .od _ _ _ | .op _ _ _ | .und | .bad=>by simp[St.dt]
 |.sref k=>by simp[St.dt,St.ov]
 |.agg cs=>by rw[St.dt,St.dt,Q1b cs]
 |.fn f cs=>by rw[St.dt,St.dt,Q1b cs]
theorem Q1b:∀l,(s.ov p).dtL l=s.dtL l
 |[]=>by simp[St.dtL]
 |a::l=>by rw[St.dtL,St.dtL,U1Y a,Q1b l]
end
theorem MO{d:Nat}{v:AV}(h:p d=none):(s.ov p).set d v=(s.set d v).ov p:=by
 refine Jm (fun t=>?_) (fun _=>rfl) rfl
 simp only[St.set,upd,St.ov]
 by_cases ht:t=d
 .subst ht;simp[h]
 .simp[ht]
theorem V0o{k:Nat}(h:s.bx k=none):bO s k=false:=by simp[bO,h]
theorem O0L{c:Zc}{k:Nat}(hc:∀ck,c=.s ck->k∈ck)(hk:k<1000000000)(hb:s.bx k=none)(h:∀t v,p t=some v->kfz c s v=true):(s.ov p).kill k=(s.kill k).ov p:=by
 refine Jm (fun t=>?_) (fun _=>rfl) rfl
 simp only[St.kill,St.ov]
 cases hp:p t with
 |none=>rfl
 |some v =>
  have:=h t v hp
  cases c with
  |s ck=>exact W14 hk (V0o hb) (by unfold rS;rw[List.contains_iff_mem.2 (hc ck rfl)];simp) v this
  |_=>exact M0M hk (V0o hb) v this
theorem M10{fb fr:Nat->Option Nat}:∀{ks:List Nat} {bs:List (List AV)},MI (s.ov p) fb fr ks bs->MI s fb fr ks bs
 |[],[],h=>h
 |_::_,_::_,h=>⟨h.1,M10 h.2⟩
 |[],_::_,h=>h
 |_::_,[],h=>h
theorem U1H{k:Nat}{b:Nat->Bool}(hk:k<1000000000)(hb:b k=false)(cs:List AV):BxLe b cs (Z5 k cs):=by
 refine⟨by rw[Za,List.length_map],fun i a ha hf=>?_⟩
 rw[Za,yF,ha,Option.map_some,M0M hk hb a hf]
theorem W0c{c:Zc}{l:LOp}{k:Nat}{R:Nat->Option Row}{v:AV}(hc:∀ck,c=.s ck->k∈ck/\∀j r,ck.contains j=false->s.rw j=some r->R j=some r)(hk:k<1000000000)(hb:s.bx k=none)(hs:L0j l=false:=by rfl):Keep c l s (St.set { s.kill k with rw:=R } l.dst v):=by
 refine⟨fun t ht hf=>?_,?_,fun j hj=>?_,fun h=>by rw[hs]at h;cases h⟩
 .simp only[St.set,upd,ye ht,St.kill]
  cases c with
  |s ck=>exact W14 hk (V0o hb) (by unfold rS;rw[List.contains_iff_mem.2 (hc ck rfl).1];simp) _ hf
  |_=>exact M0M hk (V0o hb) _ hf
 .have key:∀j cs,s.bx j=some cs->(St.set { s.kill k with rw:=R } l.dst v).bx j=some (Z5 k cs):=fun j cs hcs=>by
   simp only[St.set,St.kill]
   rw[ye (fun e=>by subst e;rw[hb]at hcs;cases hcs),hcs]
   rfl
  cases c with
  |t=>exact fun j cs _ hcs hf=>by rw[key j cs hcs,O0q hk (V0o hb) cs hf]
  |f=>exact fun j cs hcs=>⟨_,key j cs hcs,U1H hk (V0o hb) cs⟩
  |s ck=>exact⟨fun j cs _ hcs hf=>by rw[key j cs hcs,Q0q hk (V0o hb) (by unfold rS;rw[List.contains_iff_mem.2 (hc ck rfl).1];simp) cs hf],(hc ck rfl).2⟩
 .simp only[bO,St.set,St.kill]at hj ⊢
  rw[ye (fun e=>by subst e;rw[hb]at hj;cases hj)]
  simpa using hj
theorem O03{k:Nat}{f:Nat->Option Row}(hb:s.bx k=none):∀j,bO s j=true->bO ({ s.kill k with rw:=f }:St) j=true:=fun j hj=>by
 simp only[bO,St.kill]at hj ⊢
 rw[ye (fun e=>by subst e;rw[hb]at hj;cases hj)]
 simpa using hj
theorem O0M{ck:List Nat}{k:Nat}{r:Row}(hk:k∈ck):∀j,rS ck s j=true->rS ck ({ s.kill k with rw:=fun j=>if j=k then some r else(s.kill k).rw j }:St) j=true:=M1O fun j r' hj hr=>by
 have hne:j≠k:=fun e=>by rw[e,List.contains_iff_mem.2 hk]at hj;cases hj
 simp[St.kill,hne,hr]
theorem W0Z{c:Zc}:∀(rows:List Row) (k:Nat) (s:St),(∀ck,c=.s ck->∀i,i<rows.length->k+i∈ck)->k+rows.length<=1000000000->(∀i,i<rows.length->s.bx (k+i)=none)->(∀t v,p t=some v->kfz c s v=true)->(s.ov p).addrows k rows=(s.addrows k rows).ov p
 |[],_,_,_,_,_,_=>rfl
 |r::rs,k,s,hc,hl,hb,hp=>by
  simp only[yT]at hc hl hb
  have hb0:s.bx k=none:=hb 0 (by omega)
  have hc0:∀ck,c=.s ck->k∈ck:=fun ck e=>hc ck e 0 (by omega)
  rw[St.addrows,St.addrows,O0L hc0 (by omega) hb0 hp]
  refine W0Z (c:=c) rs (k+1) ({ s.kill k with rw:=fun j=>if j=k then some r else(s.kill k).rw j }:St) (fun ck e i hi=>?_) (by omega) (fun i hi=>?_) (fun t v hv=>?_)
  .have:=hc ck e (i+1) (by omega);rwa [show k+(i+1)=k+1+i by omega]at this
  .have:=hb (i+1) (by omega)
   rw[show k+(i+1)=k+1+i by omega]at this
   simp[St.kill,this]
  .exact W0q (O03 hb0) (fun ck e=>O0M (hc0 ck e)) (hp t v hv)
theorem V0A{c:Zc}{l:LOp}{v:AV}(hs:L0j l=false):∀(rows:List Row) (k:Nat) (s:St),(∀ck,c=.s ck->∀i,i<rows.length->k+i∈ck)->k+rows.length<=1000000000->(∀i,i<rows.length->s.bx (k+i)=none)->Keep c l s ((s.addrows k rows).set l.dst v)
 |[],_,s,_,_,_=>⟨fun t ht _=>by simp[St.addrows,St.set,upd,ht],.all (fun _ _ h=>h) (fun _ _ _ _ _ h=>h),fun _ h=>h,fun h=>by rw[hs]at h;cases h⟩
 |r::rs,k,s,hc,hl,hb=>by
  simp only[yT]at hc hl hb
  have hb0:s.bx k=none:=hb 0 (by omega)
  have hc0:∀ck,c=.s ck->k∈ck:=fun ck e=>hc ck e 0 (by omega)
  have k1:Keep c l s (St.set { s.kill k with rw:=fun j=>if j=k then some r else(s.kill k).rw j } l.dst v):=W0c (fun ck e=>⟨hc0 ck e,fun j r' hj hr=>by
   have hne:j≠k:=fun e'=>by rw[e',List.contains_iff_mem.2 (hc0 ck e)]at hj;cases hj
   simp[St.kill,hne,hr]⟩) (by omega) hb0 hs
  have k2:=V0A (c:=c) hs (v:=v) rs (k+1) ({ s.kill k with rw:=fun j=>if j=k then some r else(s.kill k).rw j }:St) (fun ck e i hi=>by
   have:=hc ck e (i+1) (by omega);rwa [show k+(i+1)=k+1+i by omega]at this) (by omega) (fun i hi=>by
   have:=hb (i+1) (by omega)
   rw[show k+(i+1)=k+1+i by omega]at this
   simp[St.kill,this])
  rw[St.addrows]
  have e1:∀t,t≠l.dst->kfz c s (s.e t)=true->({ s.kill k with rw:=fun j=>if j=k then some r else(s.kill k).rw j }:St).e t=s.e t:=fun t ht hf=>by
   have:=k1.e t ht hf
   simpa only[St.set,upd,ye ht]using this
  refine⟨fun t ht hf=>?_,BxA.trans (O03 hb0) (BxA.congr2 (t:=({ s.kill k with rw:=fun j=>if j=k then some r else(s.kill k).rw j }:St)) (s':=St.set ({ s.kill k with rw:=fun j=>if j=k then some r else(s.kill k).rw j }:St) l.dst v) rfl rfl k1.bx) k2.bx,fun j hj=>k2.b j (O03 hb0 j hj),fun h=>by rw[hs]at h;cases h⟩
  have h1:=e1 t ht hf
  rw[k2.e t ht (by rw[h1];exact W0q (O03 hb0) (fun ck e=>O0M (hc0 ck e)) hf),h1]
theorem JJ{c:Zc}{l:LOp}{v:AV}:Keep c l s (s.set l.dst v):=⟨fun t ht _=>by simp[St.set,upd,ht],.all (fun _ _ h=>h) (fun _ _ _ _ _ h=>h),fun _ h=>h,fun _ t ht=>by simp[St.set,upd,ht]⟩
theorem effQ{c:Zc}{K:St->Prop}{l:LOp}(hl:isQE l=true)(pd:p l.dst=none)(rd:∀t,t∈l.rdE->p t=none)(pk:∀t v,p t=some v->kfz c s v=true)
  (h:wop P l (fun s'=>(∀k,k<1000000000->Free k (s.ov p)->(s'.e l.dst).dead k=s'.e l.dst)/\K s') (s.ov p)):wop P l (fun s'=>(∀k,k<1000000000->Free k s->(s'.e l.dst).dead k=s'.e l.dst)/\(K (s'.ov p)/\Keep c l s s')) s:=by
 obtain⟨h1,h2,h3⟩:=Z1A hl
 obtain⟨v,⟨q1,q2⟩,y⟩:=O1v h1 (h2 _) h
 refine y s ⟨fun t ht=>by simp[St.ov,rd t (by rw[h3];exact ht)],fun _ _ h=>h,fun _ _ h=>h⟩ _ ⟨fun k hk F=>?_,?_,JJ⟩
 .have:=q1 k hk ⟨fun t=>?_,F.bx,F.rw,F.bd⟩
  .simpa[St.set,upd]using this
  .cases hx:p t with
   |none=>simp only[St.ov,hx,Option.getD_none];exact F.e t
   |some u=>simp only[St.ov,hx,Option.getD_some];exact J1m hk F.bx F.rw (pk t u hx)
 .rw[← MO pd];exact q2
theorem eff{c:Zc}{K:St->Prop}{l:LOp}(hcm:isCm l=true->c≠.f)(hst:∀ck,c=.s ck->U0n l=true/\∀d f xs,l=.cl d f xs->∀k∈clKs d,k∈ck)(hl:isE l=true)(hd:l.dst<1000000000)(hp:∀t v,p t=some v->t∉l.rdE/\t≠l.dst/\kfz c s v=true)(h:zw P l K (s.ov p)) :
    zw P l (fun s'=>K (s'.ov p)/\Keep c l s s') s:=by
  have rd:∀t,t∈l.rdE->p t=none:=fun t ht=>by
    cases hv:p t with
    |none=>rfl
    |some v=>exact absurd ht (hp t v hv).1
  have pd:p l.dst=none:=by
    cases hv:p l.dst with
    |none=>rfl
    |some v=>exact absurd rfl (hp _ v hv).2.1
  have hns:U0n l=false->∀{q:List Nat->Prop} ck,c=.s ck->q ck:=fun h q ck e=>by rw[(hst ck e).1]at h;cases h
  have pk:∀t v,p t=some v->kfz c s v=true:=fun t v hv=>(hp t v hv).2.2
  have gt:∀{x:X},(∀t∈x.rd,t∈l.rdE)->(s.ov p).get x=s.get x:=fun h=>X1J fun t ht=>rd t (h t ht)
  cases l with
  |mv d x =>
    cases x with
    |c a=>simp[isE,isQE]at hl
    |t x =>
    have pd':p d=none:=pd
    have hd':d<1000000000:=hd
    simp only[zw,wop]at h ⊢
    rw[gt (x:=.t x) (fun t h=>h),MO pd']at h
    exact⟨h,JJ (l:=.mv d (.t x))⟩
  |ex d x i =>
    cases x with
    |c a=>simp[isE,isQE]at hl
    |t x =>
    have pd':p d=none:=pd
    have hd':d<1000000000:=hd
    simp only[zw,wop]at h ⊢
    rw[gt (x:=.t x) (fun t h=>h)]at h
    split at h
    · rename_i vs hx
      split at h
      · rename_i v hv
        rw[MO pd']at h
        exact⟨h,JJ (l:=.ex d (.t x) i)⟩
      · cases h
    · cases h
  |bd d z ps =>
    have pd':p d=none:=pd
    simp only[zw,wop]at h ⊢
    have e:(ps.map fun(off,n,x)=>(off,n,(s.ov p).get x))=ps.map fun(off,n,x)=>(off,n,s.get x):=by
      apply List.map_congr_left
      rintro⟨off,n,x⟩ hx
      have:(s.ov p).get x=s.get x:=gt (x:=x) fun t ht=>List.mem_flatMap.2 ⟨x,List.mem_map.2 ⟨_,hx,rfl⟩,ht⟩
      simp only[this]
    rw[e]at h
    split at h
    · rename_i cs hcs
      rw[show Y08 z (ps.map fun(off,n,x)=>(off,n,s.get x))=some cs from hcs]
      rw[MO pd']at h
      exact⟨h.1,h.2,JJ (l:=.bd d z ps)⟩
    · cases h
  |bs d sz ps own =>
    cases own with
    |false=>simp[isE,isQE]at hl
    |true =>
      have pd':p d=none:=pd
      have hd':d<1000000000:=hd
      simp only[zw,wop,yb]at h ⊢
      rw[W1w (xs:=ps) rd,Q1b]at h
      obtain⟨hb,h⟩:=h
      refine⟨hb,?_⟩
      split at h
      · rename_i es hes
        obtain⟨h1,h2,h3,h4,h5⟩:=h
        refine⟨h1,h2,h3,h4,?_,W0c (l:=.bs d sz ps true) (hns rfl) hd' hb⟩
        rw[O0L (s:=s) (hns rfl) hd' hb pk]at h5
        rw[← MO pd'];exact h5
      · cases h
  |ap d x y sz by' =>
    have pd':p d=none:=pd
    have hd':d<1000000000:=hd
    simp only[zw]at h ⊢
    have ex:=gt (x:=x) (fun t h=>by simp[LOp.rdE,h])
    have ey:=gt (x:=y) (fun t h=>by simp[LOp.rdE,h])
    rw[ex]at h
    obtain⟨hb,h⟩:=h
    simp only[wop,ex,ey,U1Y]at h ⊢
    refine⟨hb,?_⟩
    split at h
    · rename_i sy news hy
      split at h
      · rename_i k hx
        rw[hx]at hb
        split at h
        · rename_i r hr
          have hr':s.rw k=some r:=hr
          simp only[hr']
          obtain⟨h1,h2,h3,h4,h5⟩:=h
          refine⟨h1,h2,h3,h4,?_,W0c (l:=.ap d x y sz by') (hns rfl) h2 hb⟩
          rw[O0L (s:=s) (hns rfl) h2 hb pk]at h5
          rw[← MO pd'];exact h5
        · cases h
      · rename_i hx
        rw[hx]at hb
        obtain⟨h3,h4,h5⟩:=h
        refine⟨h3,h4,?_,W0c (l:=.ap d x y sz by') (hns rfl) hd' hb⟩
        rw[O0L (s:=s) (hns rfl) hd' hb pk]at h5
        rw[← MO pd'];exact h5
      · cases h
    · rename_i hy
      split at h
      · rename_i k hx
        split at h
        · rename_i r hr
          have hr':s.rw k=some r:=hr
          simp only[hr']
          rw[MO pd']at h
          exact⟨h,JJ (l:=.ap d x y sz by')⟩
        · cases h
      · rename_i hx
        rw[hx]at hb
        rw[O0L (s:=s) (hns rfl) hd' hb pk]at h
        refine⟨?_,W0c (l:=.ap d x y sz by') (hns rfl) hd' hb⟩
        rw[← MO pd'];exact h
      · cases h
    · cases h
  |cm d f xs =>
    have pd':p d=none:=pd
    have hd':d<1000000000:=hd
    simp only[zw]at h ⊢
    obtain⟨bks,bin,h1,h2,h3,h4,Φ,hC,h⟩:=h
    have hno:∀x∈xs,(s.get x).noO:=fun x hx=>by rw[← gt (x:=x) fun t ht=>List.mem_flatMap.2 ⟨x,hx,ht⟩];exact h4.2 x hx
    have eg:(xs.map fun x=>(((s.ov p).get x).mp (ix bks) (ix [])).rdt)=xs.map fun x=>((s.get x).mp (ix bks) (ix [])).rdt:=by
      apply List.map_congr_left
      intro x hx
      rw[gt (x:=x) fun t ht=>List.mem_flatMap.2 ⟨x,hx,ht⟩]
    rw[eg]at hC
    refine⟨bks,bin,h1,h2,M10 h3,⟨h4.1,hno⟩,Φ,hC,fun n1 res bout us new q0 q1 q2=>?_⟩
    obtain⟨q3,q4⟩:=h n1 res bout us new q0 q1 q2
    have hbx:∀k cs,k<1000000000->s.bx k=some cs->(afterM s n1 d bks [] res bout [] []).bx k=some cs:=fun k cs hk hcs=>by
      have hn:k∉bks:=fun hm=>by have:=h1 k hm;omega
      have hb:bxf bks (bout.map (mpL (fbB bks) (frB [] [] (1000*d+1000) ([]:List Row).length))) k=none:=by
        cases hx:bxf bks (bout.map (mpL (fbB bks) (frB [] [] (1000*d+1000) ([]:List Row).length))) k with
        |none=>rfl
        |some b =>
          obtain⟨i,hi,_⟩:=M0R hx
          exact absurd (yE hi) hn
      simp only[afterM,St.set,Mb,hb]
      simp only[St.addrows,setRows,drops,St.kill2,ye hn]
      exact hcs
    have hrw:∀k r,s.rw k=some r->(afterM s n1 d bks [] res bout [] []).rw k=some r:=fun k r hr=>by
      simp[afterM,St.set,Mb,St.addrows,setRows,drops,St.kill2,upf,hr]
    refine⟨q3,?_,fun t ht _=>?_,?_,fun k hk=>?_,fun h=>by simp[L0j]at h⟩
    · have:afterM (s.ov p) n1 d bks [] res bout [] []=(afterM s n1 d bks [] res bout [] []).ov p:=by
        refine Jm (fun t=>?_) (fun _=>rfl) rfl
        simp only[afterM,St.set,upd,Mb,St.addrows,setRows,drops,St.kill2,St.ov]
        by_cases ht:t=d
        · subst ht
          have:p t=none:=pd
          simp[this]
        · simp[ht]
      rw[← this];exact q4
    · have ht':t≠d:=ht
      simp[afterM,St.set,upd,Mb,St.addrows,setRows,drops,St.kill2,ht']
    · cases c with
      |t=>exact fun k cs hk hcs _=>hbx k cs hk hcs
      |f=>exact absurd rfl (hcm rfl)
      |s ck=>exact⟨fun k cs hk hcs _=>hbx k cs hk hcs,fun k r _ hr=>hrw k r hr⟩
    · simp only[bO,afterM,St.set,Mb]at hk ⊢
      split
      · rfl
      · simp only[St.addrows,setRows,drops,St.kill2]
        split
        · simpa using hk
        · exact hk
  |cl d f xs =>
    have pd':p d=none:=pd
    simp only[zw,St.args]at h ⊢
    rw[W1w (xs:=xs) (fun t ht=>rd t (List.mem_append_right _ ht)),Q1b]at h
    obtain⟨as,h1,res,rows,h2,hr8,hd,h3,h4,h5⟩:=h
    have hk:∀ck,c=.s ck->∀i,i<rows.length->1000*d+1000+i∈ck:=fun ck e i hi=>(hst ck e).2 d f xs rfl _ (Z1o (by omega))
    refine⟨as,h1,res,rows,h2,hr8,hd,h3,h4,?_,V0A (l:=.cl d f xs) rfl rows (1000*d+1000) s hk h4 h3⟩
    rw[W0Z rows (1000*d+1000) s hk h4 h3 pk]at h5
    rw[← MO pd'];exact h5
  |sc d x lo hi n =>
    cases x with
    |c a=>cases lo<;>cases hi<;>simp[isE,isQE]at hl
    |t x =>
    cases lo with
    |some _=>cases hi<;>simp[isE,isQE]at hl
    |none =>
    cases hi with
    |some _=>simp[isE,isQE]at hl
    |none =>
    have pd':p d=none:=pd
    simp only[zw,wop,St.hi,St.lo]at h ⊢
    rw[gt (x:=.t x) (fun t h=>by simpa[LOp.rdE,LOp.rds,rdO]using h)]at h
    split at h
    · rw[MO pd']at h
      exact⟨h.1,h.2.1,h.2.2,JJ (l:=.sc d (.t x) none none n)⟩
    · rename_i k hx
      rw[show(s.ov p).rw=s.rw from rfl]at h
      split at h
      · rename_i r hr
        refine⟨h.1,?_,fun t ht _=>?_,.all (fun _ _ h=>h) (hns rfl),fun _ h=>h,fun h=>by simp[L0j]at h⟩
        · have:=h.2
          rw[show({ s.ov p with rw:=fun j=>if j=k then some { r with sh:=true } else s.rw j }:St)=({ s with rw:=fun j=>if j=k then some { r with sh:=true } else s.rw j }:St).ov p from rfl,MO pd']at this
          exact this
        · have ht':t≠d:=ht
          simp[St.set,upd,ht']
      · cases h
    · rw[MO pd']at h
      exact⟨h,JJ (l:=.sc d (.t x) none none n)⟩
    · cases h
  |ln d x =>
    cases x with
    |c a=>simp[isE,isQE,isQ1]at hl
    |t x =>
    have pd':p d=none:=pd
    simp only[zw,wop]at h ⊢
    rw[gt (x:=.t x) (fun t h=>h)]at h
    split at h
    · rename_i t sz es hx
      rw[MO pd']at h
      exact fun q=>⟨h q,JJ (l:=.ln d (.t x))⟩
    · rename_i k hx
      rw[show(s.ov p).rw=s.rw from rfl]at h
      split at h
      · rename_i r hr
        rw[MO pd']at h
        exact fun q=>⟨h q,JJ (l:=.ln d (.t x))⟩
      · cases h
    · rw[MO pd']at h
      exact⟨h,JJ (l:=.ln d (.t x))⟩
    · cases h
  |_=>first
    |exact effQ hl pd rd pk h
    | (simp[isE,isQE,isQ1]at hl;done)
end
section
variable{P:Program}{s:St}{A B:Nat->Option (List AV)}
def St.wb(s:St)(B:Nat->Option (List AV)):St :=
  { e:=fun t=>if(B t).isSome=true then .ptr t 0 else s.e t,bx:=fun k=>match B k with|some cs=>some cs|none=>s.bx k,rw:=s.rw,nx:=s.nx,my:=s.my,kn:=s.kn }
theorem wb_e{t:Nat}(h:B t=none):(s.wb B).e t=s.e t:=by simp[St.wb,h]
theorem Z1I{x:X}(h:∀t∈x.rd,B t=none):(s.wb B).get x=s.get x:=by
 cases x with
 |t i=>exact wb_e (h i (by simp[X.rd]))
 |c a=>rfl
theorem W1s{xs:List X}(h:∀t∈xs.flatMap X.rd,B t=none):xs.map (s.wb B).get=xs.map s.get:=by
 apply List.map_congr_left
 intro x hx
 exact Z1I fun t ht=>h t (List.mem_flatMap.2 ⟨x,hx,ht⟩)
mutual
theorem Y1U:∀a,(s.wb B).dt a=s.dt a
 |.bool _ | .int _ _ | .str _ | .nl | .el | .sl _ _ _ | .tup _ | .ptr _ _ | .ept _ _ | .eot _ _ | .rpt _ _ _ | .od _ _ _ | .op _ _ _ | .und | .bad=>by simp[St.dt]
 |.sref k=>by simp[St.dt,St.wb]
 |.agg cs=>by rw[St.dt,St.dt,M19 cs]
 |.fn f cs=>by rw[St.dt,St.dt,M19 cs]
theorem M19:∀l,(s.wb B).dtL l=s.dtL l
 |[]=>by simp[St.dtL]
 |a::l=>by rw[St.dtL,St.dtL,Y1U a,M19 l]
end
theorem X00{d:Nat}{v:AV}(h:B d=none):(s.wb B).set d v=(s.set d v).wb B:=by
 refine Jm (fun t=>?_) (fun _=>rfl) rfl
 simp only[St.set,upd,St.wb]
 by_cases ht:t=d
 .subst ht;simp[h]
 .simp[ht]
theorem Y11{k:Nat}(h:B k=none)(hz:∀j cs,B j=some cs->Z5 k cs=cs):(s.wb B).kill k=(s.kill k).wb B:=by
 refine Jm (fun t=>?_) (fun t=>?_) rfl
 .simp only[St.kill,St.wb]
  cases hb:B t with
  |none=>simp
  |some cs =>
   have:t≠k:=fun e=>by subst e;rw[h]at hb;cases hb
   simp[AV.dead,this]
 .simp only[St.kill,St.wb]
  cases hb:B t with
  |none=>simp
  |some cs =>
   have:t≠k:=fun e=>by subst e;rw[h]at hb;cases hb
   simp[this,hz t cs hb]
theorem Free.set{k d:Nat}{v:AV}(F:Free k s)(hv:v.dead k=v):Free k (s.set d v) where
 e:=fun t=>by
  simp only[St.set,upd]
  split
  .exact hv
  .exact F.e t
 bx:=F.bx
 rw:=F.rw
 bd:=F.bd
theorem Free.row{k d:Nat}{r:Row}(F:Free k s)(hd:d≠k):Free k { s with rw:=fun j=>if j=d then some r else s.rw j } where
 e:=F.e
 bx:=F.bx
 rw:=by simp[Ne.symm hd,F.rw]
 bd:=F.bd
theorem W0Y:∀(rows:List Row) (k:Nat) (s:St),(∀i,i<rows.length->B (k+i)=none)->(∀j cs,B j=some cs->∀k,Z5 k cs=cs)->(s.wb B).addrows k rows=(s.addrows k rows).wb B
 |[],_,_,_,_=>rfl
 |r::rs,k,s,hb,hz=>by
  simp only[yT]at hb
  rw[St.addrows,St.addrows,Y11 (show B k=none from hb 0 (by omega)) fun j cs hj=>hz j cs hj _]
  exact W0Y rs (k+1) ({ s.kill k with rw:=fun j=>if j=k then some r else(s.kill k).rw j }:St) (fun i hi=>by
   have:=hb (i+1) (by omega);rwa [show k+(i+1)=k+1+i by omega]at this) hz
theorem Q0A{k:Nat}:∀(rows:List Row) (b:Nat) (s:St),Free k s->(∀i,i<rows.length->k≠b+i)->Free k (s.addrows b rows)
 |[],_,_,F,_=>F
 |r::rs,b,s,F,h=>by
  simp only[yT]at h
  rw[St.addrows]
  exact Q0A rs (b+1) _ ((F.kill (i:=b)).row (Ne.symm (h 0 (by omega)))) fun i hi=>by
   have:=h (i+1) (by omega);rwa [show b+(i+1)=b+1+i by omega]at this
mutual
theorem Q1y{k:Nat}{fb fr:Nat->Option Nat}(hb:∀i j,fb i=some j->j≠k)(hr:∀i j,fr i=some j->j≠k):∀a:AV,(a.mp fb fr).dead k=a.mp fb fr
 |.bool _ | .int _ _ | .str _ | .nl | .el | .sl _ _ _ | .ept _ _ | .eot _ _ | .od _ _ _ | .op _ _ _ | .und | .bad=>by simp[AV.mp,AV.dead]
 |.sref i=>by
  rw[AV.mp];split
  .rename_i j h;rw[AV.dead,ye (hr i j h)]
  .rfl
 |.ptr i o=>by
  rw[AV.mp];split
  .rename_i j h;rw[AV.dead,ye (hb i j h)]
  .rfl
 |.rpt i q o=>by
  rw[AV.mp];split
  .rename_i j h;rw[AV.dead,ye (hr i j h)]
  .rfl
 |.agg cs=>by rw[AV.mp,AV.dead,V0q hb hr cs]
 |.tup cs=>by rw[AV.mp,AV.dead,V0q hb hr cs]
 |.fn f cs=>by rw[AV.mp,AV.dead,V0q hb hr cs]
theorem V0q{k:Nat}{fb fr:Nat->Option Nat}(hb:∀i j,fb i=some j->j≠k)(hr:∀i j,fr i=some j->j≠k):∀l:List AV,Z5 k (mpL fb fr l)=mpL fb fr l
 |[]=>by simp[mpL,Z5]
 |a::l=>by rw[mpL,Z5,Q1y hb hr a,V0q hb hr l]
end
theorem Y1C{k:Nat}{cs:List AV}(h:Z5 k cs=cs){i:Nat}{v:AV}(hv:cs[i]?=some v):v.dead k=v:=by
 have:=congrArg (·[i]?) h
 simp only[Za,yF,hv,Option.map_some,yI]at this
 exact this
theorem Y03(j:Nat):∀{z:List AV},z.all plain=true->Z5 j z=z
 |[],_=>rfl
 |a::z,h=>by
  simp only[List.all_cons,yD]at h
  rw[Z5,Y03 j h.2]
  cases a<;>simp[plain]at h<;>simp[AV.dead]
theorem M1r{k:Nat}{v:AV}(h:v.dead k=v):Z5 k v.cells=v.cells:=by
 cases v with
 |agg cs=>rw[AV.dead]at h;exact AV.agg.inj h
 |_=>simp only[AV.cells,Z5,h]
theorem L0R{k:Nat}:∀(ps:List (Nat×Nat×AV)) {z cs:List AV},Z5 k z=z->(∀q∈ps,q.2.2.dead k=q.2.2)->Y08 z ps=some cs->Z5 k cs=cs
  |[],z,cs,hz,_,h=>by simp only[Y08,yI]at h;rw[← h];exact hz
  | (off,n,v)::ps,z,cs,hz,hp,h=>by
    simp only[Y08]at h
    split at h
    · refine L0R ps ?_ (fun q hq=>hp q (yH _ hq)) h
      have hv:=M1r (hp (off,n,v) (yJ ..))
      rw[Za]at hz hv ⊢
      unfold putC
      rw[List.map_append,List.map_append,List.map_take,List.map_drop,hz,hv]
    · cases h
theorem effBQ{K:St->Prop}{l:LOp}(hl:isQE l=true)(hBA:∀k,(B k).isSome=true->(A k).isSome=true)(hA:∀k,(A k).isSome=true->k<1000000000/\Free k s/\k∉l.rdE/\k≠l.dst)(pd:B l.dst=none)(rd:∀t,t∈l.rdE->B t=none)
  (h:wop P l (fun s'=>(∀k,k<1000000000->Free k s->(s'.e l.dst).dead k=s'.e l.dst)/\K s') s):wop P l (fun s'=>∃s0,s'=s0.wb B/\K s0/\∀k,(A k).isSome=true->Free k s0) (s.wb B):=by
 obtain⟨h1,h2,h3⟩:=Z1A hl
 obtain⟨v,⟨q1,q2⟩,y⟩:=O1v h1 (h2 _) h
 refine y (s.wb B) ⟨fun t ht=>wb_e (rd t (by rw[h3];exact ht)),fun k cs hk=>?_,fun _ _ h=>h⟩ _ ⟨_,X00 pd,q2,fun k hk=>(hA k hk).2.1.set ?_⟩
 .have:B k=none:=by
   cases hb:B k with
   |none=>rfl
   |some c0 =>
    have:=(hA k (hBA k (by rw[hb];rfl))).2.1.bx
    rw[hk]at this;cases this
  simp only[St.wb,this];exact hk
 .have:=q1 k (hA k hk).1 (hA k hk).2.1
  simpa[St.set,upd]using this
theorem effB{K:St->Prop}{l:LOp}(hl:isE l=true)(hd:l.dst<1000000000)(hBA:∀k,(B k).isSome=true->(A k).isSome=true)(hA:∀k,(A k).isSome=true->k<1000000000/\Free k s/\k∉l.rdE/\k≠l.dst)
    (hz:∀k cs,B k=some cs->∀j,Z5 j cs=cs) (h:zw P l K s):wop P l (fun s'=>∃s0,s'=s0.wb B/\K s0/\∀k,(A k).isSome=true->Free k s0) (s.wb B):=by
  have nB:∀t,(∀k,(A k).isSome=true->k≠t)->B t=none:=fun t ht=>by
    cases hb:B t with
    |none=>rfl
    |some cs=>exact absurd rfl (ht t (hBA t (by rw[hb];rfl)))
  have rd:∀t,t∈l.rdE->B t=none:=fun t ht=>nB t fun k hk e=>(hA k hk).2.2.1 (by rw[e];exact ht)
  have pd:B l.dst=none:=nB _ fun k hk e=>(hA k hk).2.2.2 e
  have gt:∀{x:X},(∀t∈x.rd,t∈l.rdE)->(s.wb B).get x=s.get x:=fun h=>Z1I fun t ht=>rd t (h t ht)
  cases l with
  |mv d x =>
    cases x with
    |c a=>simp[isE,isQE]at hl
    |t i =>
      have pd':B d=none:=pd
      simp only[zw,wop]at h ⊢
      rw[gt (x:=.t i) (fun t h=>h),X00 pd']
      exact⟨_,rfl,h,fun k hk=>(hA k hk).2.1.set ((hA k hk).2.1.e i)⟩
  |ex d x i =>
    cases x with
    |c a=>simp[isE,isQE]at hl
    |t x =>
      have pd':B d=none:=pd
      simp only[zw,wop]at h ⊢
      rw[gt (x:=.t x) (fun t h=>h)]
      split at h
      · rename_i vs hx
        split at h
        · rename_i v hv
          rw[X00 pd']
          refine⟨_,rfl,h,fun k hk=>(hA k hk).2.1.set ?_⟩
          have q:=(hA k hk).2.1.e x
          have hx':s.e x=.tup vs:=hx
          rw[hx',AV.dead]at q
          exact Y1C (AV.tup.inj q) hv
        · cases h
      · cases h
  |bd d z ps =>
    have pd':B d=none:=pd
    simp only[isE,yD]at hl
    simp only[zw,wop]at h ⊢
    have e:(ps.map fun(off,n,x)=>(off,n,(s.wb B).get x))=ps.map fun(off,n,x)=>(off,n,s.get x):=by
      apply List.map_congr_left
      rintro⟨off,n,x⟩ hx
      have:(s.wb B).get x=s.get x:=gt (x:=x) fun t ht=>List.mem_flatMap.2 ⟨x,List.mem_map.2 ⟨_,hx,rfl⟩,ht⟩
      simp only[this]
    rw[e]
    split at h
    · rename_i cs hcs
      rw[show Y08 z (ps.map fun(off,n,x)=>(off,n,s.get x))=some cs from hcs]
      simp only
      rw[X00 pd']
      refine⟨h.1,_,rfl,h.2,fun k hk=>(hA k hk).2.1.set ?_⟩
      rw[AV.dead,L0R (k:=k) (ps.map fun(off,n,x)=>(off,n,s.get x)) (Y03 k hl.1) (fun q hq=>?_) hcs]
      obtain⟨⟨off,n,x⟩,hx,rfl⟩:=yY hq
      have hx':=List.all_eq_true.1 hl.2 _ hx
      cases x with
      |t i=>exact(hA k hk).2.1.e i
      |c a =>
        simp only[isX,Bool.or_eq_true]at hx'
        rcases hx' with hx'|hx'
        · have:=Y03 k (z:=[a]) (by simpa using hx')
          show a.dead k=a
          simpa[Z5]using this
        · show a.dead k=a
          cases a<;>simp at hx'
          simp only[AV.dead]
          rw[Y03 k (by simpa using hx')]
    · cases h
  |bs d sz ps own =>
    cases own with
    |false=>simp[isE,isQE]at hl
    |true =>
      have pd':B d=none:=pd
      simp only[zw,wop,yb]at h ⊢
      rw[W1s (xs:=ps) rd,M19]
      obtain⟨hb,h⟩:=h
      split at h
      · rename_i es hes
        obtain⟨h1,h2,h3,h4,h5⟩:=h
        refine⟨h1,h2,h3,h4,?_⟩
        rw[Y11 pd' fun j cs hj=>hz j cs hj d]
        refine⟨_,X00 (s:={ s.kill d with rw:=fun j=>if j=d then some ⟨sz,es,false⟩else(s.kill d).rw j }) pd',h5,fun k hk=>?_⟩
        have hkd:d≠k:=fun e=>(hA k hk).2.2.2 e.symm
        exact(((hA k hk).2.1.kill (i:=d)).row hkd).set (by simp[AV.dead,hkd])
      · cases h
  |ap d x y sz by' =>
    have pd':B d=none:=pd
    simp only[zw]at h
    have ex:=gt (x:=x) (fun t h=>by simp[LOp.rdE,h])
    have ey:=gt (x:=y) (fun t h=>by simp[LOp.rdE,h])
    obtain⟨hb,h⟩:=h
    simp only[wop,ex,ey,Y1U]at h ⊢
    have hrw:(s.wb B).rw=s.rw:=rfl
    have key:∀(q:Nat) (r0 r1:Row) (K0:St->Prop),(∀k,(A k).isSome=true->k≠q)->K0 (St.set { s.kill q with rw:=fun j=>if j=q then some r1 else(s.kill q).rw j } d (.sref q)) ->
        ∃s0,St.set { (s.wb B).kill q with rw:=fun j=>if j=q then some r1 else((s.wb B).kill q).rw j } d (.sref q)=s0.wb B/\K0 s0/\∀k,(A k).isSome=true->Free k s0:=by
      intro q r0 r1 K0 hq hK0
      rw[Y11 (nB q hq) fun j cs hj=>hz j cs hj q]
      refine⟨_,X00 (s:={ s.kill q with rw:=fun j=>if j=q then some r1 else(s.kill q).rw j }) pd',hK0,fun k hk=>?_⟩
      have hkq:q≠k:=fun e=>hq k hk e.symm
      exact(((hA k hk).2.1.kill (i:=q)).row hkq).set (by simp[AV.dead,hkq])
    split at h
    · rename_i sy news hy
      split at h
      · rename_i k hx
        split at h
        · rename_i r hr
          simp only[hrw,hr]
          obtain⟨h1,h2,h3,h4,h5⟩:=h
          refine⟨h1,h2,h3,h4,key k r _ K (fun j hj e=>?_) h5⟩
          subst e;rw[(hA j hj).2.1.rw]at hr;cases hr
        · cases h
      · rename_i hx
        obtain⟨h3,h4,h5⟩:=h
        exact⟨h3,h4,key d ⟨0,[],false⟩ _ K (fun j hj=>(hA j hj).2.2.2) h5⟩
      · cases h
    · rename_i hy
      split at h
      · rename_i k hx
        split at h
        · rename_i r hr
          simp only[hrw,hr]
          rw[X00 pd']
          refine⟨_,rfl,h,fun j hj=>(hA j hj).2.1.set ?_⟩
          have hjk:k≠j:=fun e=>by subst e;rw[(hA k hj).2.1.rw]at hr;cases hr
          simp[AV.dead,hjk]
        · cases h
      · rename_i hx
        exact key d ⟨0,[],false⟩ _ K (fun j hj=>(hA j hj).2.2.2) h
      · cases h
    · cases h
  |cm d f xs =>
    have pd':B d=none:=pd
    simp only[zw]at h
    obtain⟨bks,bin,h1,h2,h3,h4,Φ,hC,h⟩:=h
    have hBk:∀k∈bks,B k=none:=fun k hk=>nB k fun j hj e=>by have:=h1 k hk;have:=(hA j hj).1;omega
    have eg:(xs.map fun x=>(((s.wb B).get x).mp (ix bks) (ix [])).rdt)=xs.map fun x=>((s.get x).mp (ix bks) (ix [])).rdt:=by
      apply List.map_congr_left
      intro x hx
      rw[gt (x:=x) fun t ht=>List.mem_flatMap.2 ⟨x,hx,ht⟩]
    have atb:∀(ks:List Nat) (bs:List (List AV)) (fb fr:Nat->Option Nat),(∀k∈ks,B k=none)->MI s fb fr ks bs->MI (s.wb B) fb fr ks bs:=by
      intro ks
      induction ks with
      |nil=>intro bs fb fr _ h;cases bs<;>exact h
      |cons k ks ih =>
        intro bs fb fr hk h
        cases bs with
        |nil=>exact h
        |cons b bs=>exact⟨by simpa[St.wb,hk k (by simp)]using h.1,ih bs fb fr (fun j hj=>hk j (by simp[hj])) h.2⟩
    refine zw_cm ?_
    simp only[zw]
    refine⟨bks,bin,h1,h2,atb _ _ _ _ hBk h3,⟨h4.1,fun x hx=>by rw[gt (x:=x) fun t ht=>List.mem_flatMap.2 ⟨x,hx,ht⟩];exact h4.2 x hx⟩,Φ,by rw[eg];exact hC,fun n1 res bout us new q0 q1 q2=>?_⟩
    obtain⟨q3,q4⟩:=h n1 res bout us new q0 q1 q2
    refine⟨q3,afterM s n1 d bks [] res bout [] [],?_,q4,fun k hk=>?_⟩
    · have hbf:∀k,(B k).isSome=true->k∉bks/\bxf bks (bout.map (mpL (fbB bks) (frB [] [] (1000*d+1000) ([]:List Row).length))) k=none:=fun k hk=>by
        have hn:k∉bks:=fun hm=>by have:=hBk k hm;rw[this]at hk;cases hk
        refine⟨hn,?_⟩
        cases hx:bxf bks (bout.map (mpL (fbB bks) (frB [] [] (1000*d+1000) ([]:List Row).length))) k with
        |none=>rfl
        |some b =>
          obtain⟨i,hi,_⟩:=M0R hx
          exact absurd (yE hi) hn
      refine Jm (fun t=>?_) (fun k=>?_) rfl
      · simp only[afterM,St.set,upd,Mb,St.addrows,setRows,drops,St.kill2,St.wb]
        by_cases ht:t=d
        · subst ht;simp[pd']
        · simp[ht]
      · simp only[afterM,St.set,Mb,St.addrows,setRows,drops,St.kill2,St.wb]
        cases hb:B k with
        |none=>rfl
        |some cs =>
          obtain⟨n1,n2⟩:=hbf k (by rw[hb];rfl)
          rw[n2,ye n1]
    · have Fk:=(hA k hk).2.1
      have hlt:=(hA k hk).1
      have hfb:∀i j,fbB bks i=some j->j≠k:=fun i j h=>by have:=h1 j (yE h);omega
      have hfr:∀i j,frB [] [] (1000*d+1000) ([]:List Row).length i=some j->j≠k:=fun i j h=>by simp[frB]at h
      refine⟨fun t=>?_,?_,?_,fun j cs hj=>?_⟩
      · simp only[afterM,St.set,upd,Mb,St.addrows,setRows,drops,St.kill2]
        split
        · exact Q1y hfb hfr res
        · exact Fk.e t
      · have hn:k∉bks:=fun hm=>by have:=h1 k hm;omega
        have hb:bxf bks (bout.map (mpL (fbB bks) (frB [] [] (1000*d+1000) ([]:List Row).length))) k=none:=by
          cases hx:bxf bks (bout.map (mpL (fbB bks) (frB [] [] (1000*d+1000) ([]:List Row).length))) k with
          |none=>rfl
          |some b =>
            obtain⟨i,hi,_⟩:=M0R hx
            exact absurd (yE hi) hn
        simp only[afterM,St.set,Mb,hb,St.addrows,setRows,drops,St.kill2,ye hn]
        exact Fk.bx
      · simp only[afterM,St.set,Mb,St.addrows,setRows,drops,St.kill2,upf]
        exact Fk.rw
      · simp only[afterM,St.set,Mb,St.addrows,setRows,drops,St.kill2]at hj
        split at hj
        · rename_i b hb
          cases hj
          obtain⟨i,_,hi⟩:=M0R hb
          rw[yF]at hi
          obtain⟨b0,_,rfl⟩:=yC hi
          exact V0q hfb hfr b0
        · split at hj
          · obtain⟨c0,h0,rfl⟩:=yC hj
            rw[Za,List.map_replicate];rfl
          · exact Fk.bd j cs hj
  |cl d f xs =>
    have pd':B d=none:=pd
    simp only[zw,wop,St.args]at h ⊢
    rw[W1s (xs:=xs) (fun t ht=>rd t (List.mem_append_right _ ht)),M19]
    obtain⟨as,h1,res,rows,h2,hr8,hd,h3,h4,h5⟩:=h
    have hbk:∀k,(A k).isSome=true->∀i,i<rows.length->k≠1000*d+1000+i:=fun k hk i hi e=>(hA k hk).2.2.1 (by rw[e];exact List.mem_append_left _ (Z1o (by omega)))
    refine⟨as,h1,res,rows,h2,by omega,?_⟩
    rw[W0Y rows (1000*d+1000) s (fun i hi=>nB _ fun k hk=>hbk k hk i hi) hz]
    exact⟨_,X00 pd',h5,fun k hk=>(Q0A rows (1000*d+1000) s (hA k hk).2.1 (hbk k hk)).set (hd k (hbk k hk))⟩
  |sc d x lo hi n =>
    cases x with
    |c a=>cases lo<;>cases hi<;>simp[isE,isQE]at hl
    |t x =>
    cases lo with
    |some _=>cases hi<;>simp[isE,isQE]at hl
    |none =>
    cases hi with
    |some _=>simp[isE,isQE]at hl
    |none =>
    have pd':B d=none:=pd
    simp only[zw,wop,St.hi,St.lo]at h ⊢
    rw[gt (x:=.t x) (fun t h=>by simpa[LOp.rdE,LOp.rds,rdO]using h),show(s.wb B).rw=s.rw from rfl]
    split at h
    · exact⟨h.1,h.2.1,_,X00 pd',h.2.2,fun k hk=>(hA k hk).2.1.set rfl⟩
    · rename_i k hx
      split at h
      · rename_i r hr
        refine⟨h.1,_,(by rw[show({ s.wb B with rw:=fun j=>if j=k then some { r with sh:=true } else s.rw j }:St)=({ s with rw:=fun j=>if j=k then some { r with sh:=true } else s.rw j }:St).wb B from rfl,X00 pd']),h.2,fun j hj=>?_⟩
        have F:=(hA j hj).2.1
        refine Free.set (s:={ s with rw:=fun j=>if j=k then some { r with sh:=true } else s.rw j }) ⟨F.e,F.bx,?_,F.bd⟩ rfl
        show(if j=k then some { r with sh:=true } else s.rw j)=none
        have:j≠k:=fun e=>by subst e;rw[F.rw]at hr;cases hr
        rw[ye this];exact F.rw
      · cases h
    · exact⟨_,X00 pd',h,fun k hk=>(hA k hk).2.1.set rfl⟩
    · cases h
  |ln d x =>
    cases x with
    |c a=>simp[isE,isQE,isQ1]at hl
    |t x =>
    have pd':B d=none:=pd
    simp only[zw,wop]at h ⊢
    rw[gt (x:=.t x) (fun t h=>h),show(s.wb B).rw=s.rw from rfl]
    have fin:∀n:Int,K (s.set d (.int .i64 n))->∃s0,(s.wb B).set d (.int .i64 n)=s0.wb B/\K s0/\∀k,(A k).isSome=true->Free k s0:=fun n hk=>⟨_,X00 pd',hk,fun k hk=>(hA k hk).2.1.set rfl⟩
    split at h
    · exact fun q=>fin _ (h q)
    · split at h
      · exact fun q=>fin _ (h q)
      · cases h
    · exact fin _ h
    · cases h
  |_=>first
    |exact effBQ hl hBA hA pd rd h
    | (simp[isE,isQE,isQ1]at hl;done)
end
abbrev ZA:=Nat×Nat×List AV
def alZ(s:St):List ZA->St
  |[]=>s
  | (_,d,z)::r=>alZ { s with e:=upd s.e d (.ptr d 0),bx:=fun k=>if k=d then some z else s.bx k } r
def zl:List ZA->Nat->Option (Nat×List AV)
  |[],_=>none
  | (i,d,z)::r,k=>if d=k then some (i,z)else zl r k
theorem U0z:∀{als:List ZA} {k i:Nat} {z:List AV},zl als k=some (i,z)->(i,k,z)∈als
  |[],_,_,_,h=>by simp[zl]at h
  | (i',d,z')::r,k,i,z,h=>by
    simp only[zl]at h
    split at h
    · rename_i e;subst e;cases h;simp
    · exact yH _ (U0z h)
theorem Q1m:∀{als:List ZA} {k i:Nat} {z:List AV},(als.map (·.2.1)).Nodup->(i,k,z)∈als->zl als k=some (i,z)
  |[],_,_,_,_,h=>by simp at h
  | (i',d,z')::r,k,i,z,hn,h=>by
    rw[List.map_cons,List.nodup_cons]at hn
    simp only[zl]
    rcases yX h with h|h
    · cases h;simp
    · have:d≠k:=fun e=>by subst e;exact hn.1 (List.mem_map.2 ⟨_,h,rfl⟩)
      rw[ye this];exact Q1m hn.2 h
open Classical in
noncomputable def zB(als:List ZA)(L:Nat->Prop)(k:Nat):Option (List AV):=match zl als k with
 |some (i,z)=>if L i then some z else none
 |none=>none
theorem Q1s(als:List ZA)(L:Nat->Prop):(als.map (·.2.1)).Nodup->(∀a∈als,L a.1)->∀s:St,s.wb (zB als L)=alZ s als:=by
 induction als with
 |nil =>
  intro _ _ s
  exact Jm (fun t=>by simp[St.wb,zB,zl,alZ]) (fun t=>by simp[St.wb,zB,zl,alZ]) rfl
 |cons a r ih =>
  obtain⟨i,d,z⟩:=a
  intro hn hL s
  rw[List.map_cons,List.nodup_cons]at hn
  simp only[alZ]
  rw[← ih hn.2 (fun a ha=>hL a (by simp[ha]))]
  have hd:zB r L d=none:=by
   unfold zB
   cases h:zl r d with
   |none=>rfl
   |some q=>obtain⟨i',z'⟩:=q;exact absurd (List.mem_map.2 ⟨_,U0z h,rfl⟩) hn.1
  have h1:zB ((i,d,z)::r) L d=some z:=by simp[zB,zl,hL (i,d,z) (by simp)]
  have h2:∀k,k≠d->zB ((i,d,z)::r) L k=zB r L k:=fun k hk=>by simp only[zB,zl,ye (Ne.symm hk)]
  refine Jm (fun t=>?_) (fun t=>?_) rfl
  .simp only[St.wb,upd]
   by_cases ht:t=d
   .subst ht;rw[h1,hd];simp
   .rw[h2 t ht];simp[ht]
  .simp only[St.wb]
   by_cases ht:t=d
   .subst ht;rw[h1,hd];simp
   .rw[h2 t ht]
    cases zB r L t<;>simp[ht]
theorem W0v(j:Nat):∀{z:List AV},z.all plain=true->Z5 j z=z
 |[],_=>rfl
 |a::z,h=>by
  simp only[List.all_cons,yD]at h
  rw[Z5,W0v j h.2]
  cases a<;>simp[plain]at h<;>simp[AV.dead]
theorem Q1j{als:List ZA}{L:Nat->Prop}(h:∀a∈als,a.2.2.all plain=true){k:Nat}{cs:List AV}(hb:zB als L k=some cs)(j:Nat):Z5 j cs=cs:=by
 unfold zB at hb
 split at hb
 .rename_i i z hz
  split at hb
  .cases hb;exact W0v j (h _ (U0z hz))
  .cases hb
 .cases hb
def Vz(P:Program)(c:Zc)(ow:List Nat):List (Bool×LOp)->(St->Prop)->St->Prop
  |[],K,s=>K s
  | (true,l)::r,K,s=>zw P l (Vz P c ow r K) s
  | (false,l)::r,K,s=>((∀t∈l.rds,kfz c s (s.e t)=true)\/U1a r=true)/\scOk ((s.hide ow).stripc c) l/\wop P l (fun s'=>kfz c (s.hide ow) (s'.e l.dst)=true/\Vz P c ow r K (s.set l.dst (s'.e l.dst))) ((s.hide ow).stripc c)
abbrev ZI:=Nat×Bool×LOp
def rdz(it:ZI):List Nat:=if it.2.1 then it.2.2.rdE else it.2.2.rds
def zrd(rs:List Nat)(mask j:Nat):List ZI->Nat->Bool
 |[],_=>true
 |it::r,k=>(!rs.contains it.2.2.dst||(mask.testBit it.1&&decide (k<j)))&&zrd rs mask j r (k+1)
def zeff(mask j:Nat):List ZI->Nat->Bool
 |[],_=>true
 |it::r,k=>(!it.2.1||!decide (k<j)||mask.testBit it.1)&&zeff mask j r (k+1)
def X1S(P:Program)(nt:Nat)(ops:Array Oper)(N:Nat)(items:List ZI)(mks:List Nat)(j:Nat)(it:ZI):Bool :=
 match ops[it.1]? with
 |some o=>decide (it.1<N)&&chk1 P nt ops it.2.2 o&&(if it.2.1 then isE it.2.2 else isQ it.2.2)&&zrd (rdz it) (mks.getD it.1 0) j items 0&&zeff (mks.getD it.1 0) j items 0
 |none=>false
def zall(P:Program)(nt:Nat)(ops:Array Oper)(N:Nat)(items:List ZI)(mks:List Nat):List ZI->Nat->Bool
 |[],_=>true
 |it::r,j=>X1S P nt ops N items mks j it&&zall P nt ops N items mks r (j+1)
def t1op(als:List ZA)(ow:List Nat):LOp->Bool
 |.st (.t d) _ _=>(als.any fun a=>a.2.1==d)||ow.contains d
 |.mv d _=>(als.all fun a=>!(a.2.1==d))&&!ow.contains d
 |_=>false
def U0S:LOp->List Nat
 |.st p x _=>p.rd++x.rd
 |.mv _ x=>x.rd
 |_=>[]
def t1it(items:List ZI):LOp->Bool
 |.mv d _=>items.all fun it=>!(rdz it).contains d&&!(it.2.2.dst==d)
 |_=>true
def isMvO:LOp->Bool
 |.mv _ _=>true
 |_=>false
theorem Z1G{l:LOp}(h:isMvO l=true):∃d x,l=.mv d x:=by
 cases l<;>simp only[isMvO,yG]at h
 exact⟨_,_,rfl⟩
def isStO:LOp->Bool
 |.st _ _ _=>true
 |_=>false
theorem J1F{l:LOp}(h:isStO l=true):∃p x n,l=.st p x n:=by
 cases l<;>simp only[isStO,yG]at h
 exact⟨_,_,_,rfl⟩
def O1t(mask N i:Nat)(als:List ZA)(items:List ZI)(l:LOp):Bool :=
 isStO l&&als.all (fun a=>mask.testBit a.1)&&items.all (fun it=>mask.testBit it.1||(isMvO it.2.2&&!it.2.1&&!(U0S l).contains it.2.2.dst))&&(List.range i).all fun j=>decide (j<N)||mask.testBit j
def M1t(mask N i:Nat)(als:List ZA)(ow:List Nat)(items:List ZI)(l:LOp):Bool :=
 t1op als ow l&&t1it items l&&als.all (fun a=>mask.testBit a.1)&&items.all (fun it=>!(it.2.1||(U0S l).contains it.2.2.dst)||mask.testBit it.1)&&(List.range i).all fun j=>decide (j<N)||mask.testBit j
def ztl(P:Program)(nt:Nat)(ops:Array Oper)(als:List ZA)(ow:List Nat)(items:List ZI)(mks:List Nat):List LOp->Nat->Bool
 |[],i=>i==ops.size
 |l::r,i=>(match ops[i]? with|some o=>chk1 P nt ops l o|none=>false)&&(X0z (mks.getD i 0) i||M1t (mks.getD i 0) (als.length+items.length) i als ow items l||O1t (mks.getD i 0) (als.length+items.length) i als items l)&&ztl P nt ops als ow items mks r (i+1)
def Z1E:List Oper->Nat->Bool
 |[],_=>true
 |o::os,i=>(o.after.toList.all fun e=>!Region.binds .any e||decide (e.on<i))&&Z1E os (i+1)
def chkA(P:Program)(nt:Nat)(ops:Array Oper)(N:Nat)(items:List ZI)(a:ZA):Bool :=
 (match ops[a.1]? with|some o=>chk1 P nt ops (.al a.2.1 a.2.2) o|none=>false)&&decide (a.1<N)&&a.2.2.all plain&&items.all fun it=>!(it.1==a.1)&&!(it.2.2.dst==a.2.1)&&!(rdz it).contains a.2.1
def chkZ(P:Program)(nt:Nat)(ops:Array Oper)(ow:List Nat)(als:List ZA)(items:List ZI)(tl:List LOp):Bool :=
 UW (items.map (·.1))&&UW (items.map (·.2.2.dst))&&(List.range (als.length+items.length)).all (fun i=>(items.map (·.1)).contains i||(als.map (·.1)).contains i)&&zall P nt ops (als.length+items.length) items (JY ops.toList []) items 0 &&
  ztl P nt ops als ow items (JY ops.toList []) tl (als.length+items.length)&&Z1E ops.toList 0&&UW (als.map (·.1))&&UW (als.map (·.2.1))&&als.all (chkA P nt ops (als.length+items.length) items)&&als.all (fun a=>!ow.contains a.2.1)
theorem J1H{rs:List Nat}{mask j:Nat}:∀{r:List ZI} {k:Nat},zrd rs mask j r k=true->∀(i:Nat) (it:ZI),r[i]?=some it->it.2.2.dst∈rs->mask.testBit it.1=true/\k+i<j
 |[],_,_,i,it,h,_=>by simp at h
 |x::r,k,h,i,it,hi,hm=>by
  simp only[zrd,yD,Bool.or_eq_true,Bool.not_eq_true',yO]at h
  cases i with
  |zero =>
   simp at hi;subst hi
   rcases h.1 with h|h
   .rw[List.contains_iff_mem.2 hm]at h;cases h
   .exact h
  |succ i=>have:=J1H h.2 i it (by simpa using hi) hm;rwa [show k+(i+1)=k+1+i by omega]
theorem V1s{mask j:Nat}:∀{r:List ZI} {k:Nat},zeff mask j r k=true->∀(i:Nat) (it:ZI),r[i]?=some it->it.2.1=true->k+i<j->mask.testBit it.1=true
 |[],_,_,i,it,h,_,_=>by simp at h
 |x::r,k,h,i,it,hi,hm,hlt=>by
  simp only[zeff,yD,Bool.or_eq_true,Bool.not_eq_true',decide_eq_false_iff_not]at h
  cases i with
  |zero =>
   simp at hi;subst hi
   rcases h.1 with(h|h)|h
   .rw[hm]at h;cases h
   .exact absurd (by simpa using hlt) h
   .exact h
  |succ i=>exact V1s h.2 i it (by simpa using hi) hm (by omega)
theorem U1s{P:Program}{nt:Nat}{ops:Array Oper}{N:Nat}{items:List ZI}{mks:List Nat}:∀{r:List ZI} {k:Nat},zall P nt ops N items mks r k=true->∀(i:Nat) (it:ZI),r[i]?=some it->X1S P nt ops N items mks (k+i) it=true
 |[],_,_,i,it,h=>by simp at h
 |x::r,k,h,i,it,hi=>by
  simp only[zall,yD]at h
  cases i with
  |zero=>simp at hi;subst hi;exact h.1
  |succ i=>have:=U1s h.2 i it (by simpa using hi);rwa [show k+(i+1)=k+1+i by omega]
theorem L1H{P:Program}{nt:Nat}{ops:Array Oper}{als:List ZA}{ow:List Nat}{items:List ZI}{mks:List Nat}:∀{r:List LOp} {k:Nat},ztl P nt ops als ow items mks r k=true->k+r.length=ops.size /\
  ∀(i:Nat) (l:LOp),r[i]?=some l->(∃o,ops[k+i]?=some o/\chk1 P nt ops l o=true)/\(X0z (mks.getD (k+i) 0) (k+i)||M1t (mks.getD (k+i) 0) (als.length+items.length) (k+i) als ow items l||O1t (mks.getD (k+i) 0) (als.length+items.length) (k+i) als items l)=true
 |[],k,h=>⟨by simpa[ztl]using h,by intro i l h;simp at h⟩
 |x::r,k,h=>by
  simp only[ztl,yD]at h
  obtain⟨q1,q2⟩:=L1H h.2
  refine⟨by simp;omega,fun i l hi=>?_⟩
  cases i with
  |zero =>
   simp at hi;subst hi
   refine⟨?_,h.1.2⟩
   have:=h.1.1
   split at this
   .rename_i o ho;exact⟨o,ho,this⟩
   .cases this
  |succ i=>have:=q2 i l (by simpa using hi);rwa [show k+(i+1)=k+1+i by omega]
theorem U1j:∀{os:List Oper} {k:Nat},Z1E os k=true->∀(i:Nat) (o:Oper),os[i]?=some o->∀e∈o.after,Region.binds .any e=true->e.on<k+i
 |[],_,_,i,o,h,_,_,_=>by simp at h
 |x::os,k,h,i,o,hi,e,he,hb=>by
  simp only[Z1E,yD,List.all_eq_true]at h
  cases i with
  |zero =>
   simp at hi;subst hi
   have:=h.1 e (by simpa using he)
   simpa[hb]using this
  |succ i=>have:=U1j h.2 i o (by simpa using hi) e he hb;omega
structure OkZ(P:Program)(nt:Nat)(ops:Array Oper)(ow:List Nat)(als:List ZA)(items:List ZI)(tl:List LOp):Prop where
 surj:∀i,i<als.length+items.length->(∃(j:Nat) (it:ZI),items[j]?=some it/\it.1=i)\/∃a∈als,a.1=i
 inj:∀(j j':Nat) (it it':ZI),items[j]?=some it->items[j']?=some it'->it.1=it'.1->j=j'
 dst:∀(j j':Nat) (it it':ZI),items[j]?=some it->items[j']?=some it'->it.2.2.dst=it'.2.2.dst->j=j'
 item:∀(j:Nat) (it:ZI),items[j]?=some it->it.1<als.length+items.length/\∃o,ops[it.1]?=some o/\chk1 P nt ops it.2.2 o=true/\(if it.2.1 then isE it.2.2 else isQ it.2.2)=true /\
  ∀L,Clo ops L->(∀e∈o.after,Region.binds .any e=true->L e.on)->(∀(j':Nat) (it':ZI),items[j']?=some it'->it'.2.2.dst∈rdz it->L it'.1/\j'<j) /\
   (∀(j':Nat) (it':ZI),items[j']?=some it'->it'.2.1=true->j'<j->L it'.1)
 edge:∀(i:Nat) (o:Oper),ops[i]?=some o->∀e∈o.after,Region.binds .any e=true->e.on<i
 tlen:als.length+items.length+tl.length=ops.size
 tone:∀(i:Nat) (l:LOp),tl[i]?=some l->∃o,ops[als.length+items.length+i]?=some o/\chk1 P nt ops l o=true
 tl:∀(i:Nat) (l:LOp) (o:Oper) (L:Nat->Prop),tl[i]?=some l->ops[als.length+items.length+i]?=some o->Clo ops L->(∀e∈o.after,Region.binds .any e=true->L e.on)->(∀j,j<als.length+items.length+i->L j) \/
  (t1op als ow l=true/\t1it items l=true/\(∀a∈als,L a.1)/\(∀(j:Nat) (it:ZI),items[j]?=some it->it.2.1=true\/it.2.2.dst∈U0S l->L it.1)/\∀j,als.length+items.length<=j->j<als.length+items.length+i->L j) \/
  (isStO l=true/\(∀a∈als,L a.1)/\(∀(j:Nat) (it:ZI),items[j]?=some it->L it.1\/isMvO it.2.2=true/\it.2.1=false/\it.2.2.dst∉U0S l)/\∀j,als.length+items.length<=j->j<als.length+items.length+i->L j)
 ao:∀a∈als,a.2.1∉ow
 ad:(als.map (·.2.1)).Nodup
 ai:∀a∈als,∀a'∈als,a.1=a'.1->a=a'
 al:∀a∈als,a.1<als.length+items.length/\(∃o,ops[a.1]?=some o/\chk1 P nt ops (.al a.2.1 a.2.2) o=true)/\a.2.2.all plain=true/\∀it∈items,it.1≠a.1/\it.2.2.dst≠a.2.1/\a.2.1∉rdz it
theorem M1b{α:Type}{f:ZI->α}{items:List ZI}(h:(items.map f).Nodup){j j':Nat}{it it':ZI}(hj:items[j]?=some it)(hj':items[j']?=some it')(e:f it=f it'):j=j':=by
 have h1:=(yB hj).1
 have h2:=(yB hj').1
 have e1:=(yB hj).2
 have e2:=(yB hj').2
 have hp:=List.pairwise_iff_getElem.1 h
 rcases Nat.lt_trichotomy j j' with q|q|q
 .exact absurd (by rw[List.getElem_map,List.getElem_map,e1,e2,e]) (hp j j' (by simpa using h1) (by simpa using h2) q)
 .exact q
 .exact absurd (by rw[List.getElem_map,List.getElem_map,e1,e2,e]) (hp j' j (by simpa using h2) (by simpa using h1) q)
theorem Y1S{P:Program}{nt:Nat}{ops:Array Oper}{ow:List Nat}{als:List ZA}{items:List ZI}{tl:List LOp}(h:chkZ P nt ops ow als items tl=true):OkZ P nt ops ow als items tl:=by
 simp only[chkZ,yD]at h
 obtain⟨⟨⟨⟨⟨⟨⟨⟨⟨h1,h2⟩,h3⟩,h4⟩,h5⟩,h6⟩,h7⟩,h8⟩,h9⟩,h10⟩:=h
 have hm:∀i,i<ops.size->M1o ops i ((JY ops.toList []).getD i 0):=fun i hi=>Z14 ops.toList [] (by simp) (by simp) i (by simpa using hi)
 have lt_of:∀{i:Nat} {o:Oper},ops[i]?=some o->i<ops.size:=fun h=>(Array.getElem?_eq_some_iff.1 h).1
 obtain⟨t1,t2⟩:=L1H h5
 refine⟨fun i hi=>?_,fun j j' it it' hj hj' e=>M1b (f:=fun it=>it.1) (Uq h1) hj hj' e,fun j j' it it' hj hj' e=>M1b (f:=fun it=>it.2.2.dst) (Uq h2) hj hj' e,
  fun j it hj=>?_,fun i o ho e he hb=>by have:=U1j h6 i o (by simpa using ho) e he hb;omega,t1,fun i l hl=>(t2 i l hl).1,fun i l o L hil ho hL he=>?_,fun a ha hm=>(by have:=List.all_eq_true.1 h10 a ha;rw[List.contains_iff_mem.2 hm]at this;cases this),Uq h8,fun a ha a' ha' e=>?_,fun a ha=>?_⟩
 .have:=List.all_eq_true.1 h3 i (by simpa using hi)
  rw[Bool.or_eq_true]at this
  rcases this with this|this
  .obtain⟨it,hit,e⟩:=yY (List.contains_iff_mem.1 this)
   obtain⟨j,hj,rfl⟩:=List.getElem_of_mem hit
   exact .inl ⟨j,_,yA hj,e⟩
  .obtain⟨a,ha,e⟩:=yY (List.contains_iff_mem.1 this)
   exact .inr ⟨a,ha,e⟩
 .have hc:=U1s h4 j it hj
  rw[Nat.zero_add]at hc
  unfold X1S at hc
  split at hc
  .rename_i o ho
   simp only[yD,yO]at hc
   obtain⟨⟨⟨⟨c1,c2⟩,c3⟩,c4⟩,c5⟩:=hc
   refine⟨c1,o,ho,c2,c3,fun L hL he=>⟨fun j' it' hj' hr=>?_,fun j' it' hj' hf hlt=>?_⟩⟩
   .obtain⟨b,q⟩:=J1H c4 j' it' hj' hr
    exact⟨hm it.1 (lt_of ho) L hL (fun o' ho'=>by rw[ho]at ho';cases ho';exact he) _ b,by omega⟩
   .exact hm it.1 (lt_of ho) L hL (fun o' ho'=>by rw[ho]at ho';cases ho';exact he) _ (V1s c5 j' it' hj' hf (by omega))
  .cases hc
 .have hi':=lt_of ho
  have bit:∀j,((JY ops.toList []).getD (als.length+items.length+i) 0).testBit j=true->L j:=fun j hb=>hm _ hi' L hL (fun o' ho'=>by rw[ho]at ho';cases ho';exact he) j hb
  have b:=(t2 i l hil).2
  rw[Bool.or_eq_true,Bool.or_eq_true]at b
  rcases b with(b|b)|b
  rotate_right
  .simp only[O1t,yD,List.all_eq_true]at b
   obtain⟨⟨⟨b1,b2⟩,b3⟩,b4⟩:=b
   refine .inr (.inr ⟨b1,fun a ha=>bit _ (b2 a ha),fun j it hj=>?_,fun j hj1 hj2=>bit _ ?_⟩)
   .have:=b3 it (yE hj)
    simp only[Bool.or_eq_true,yD,Bool.not_eq_true']at this
    rcases this with q|⟨⟨q1,q2⟩,q3⟩
    .exact .inl (bit _ q)
    .exact .inr ⟨q1,q2,fun h=>by rw[List.contains_iff_mem.2 h]at q3;cases q3⟩
   .have:=b4 j (by simpa using hj2)
    simp only[Bool.or_eq_true,yO]at this
    exact this.resolve_left (by omega)
  .exact .inl fun j hj=>bit j (Y0z b j hj)
  .simp only[M1t,yD,List.all_eq_true]at b
   obtain⟨⟨⟨⟨b1,b0⟩,b2⟩,b3⟩,b4⟩:=b
   refine .inr (.inl ⟨b1,b0,fun a ha=>bit _ (b2 a ha),fun j it hj hor=>bit _ ?_,fun j hj1 hj2=>bit _ ?_⟩)
   .have:=b3 it (yE hj)
    simp only[Bool.or_eq_true,Bool.not_eq_true',Bool.or_eq_false_iff]at this
    rcases this with⟨q1,q2⟩|q
    .rcases hor with h|h
     .rw[h]at q1;cases q1
     .rw[List.contains_iff_mem.2 h]at q2;cases q2
    .exact q
   .have:=b4 j (by simpa using hj2)
    simp only[Bool.or_eq_true,yO]at this
    exact this.resolve_left (by omega)
 .obtain⟨j,hj,rfl⟩:=List.getElem_of_mem ha
  obtain⟨j',hj',rfl⟩:=List.getElem_of_mem ha'
  have hp:=List.pairwise_iff_getElem.1 (Uq h7)
  rcases Nat.lt_trichotomy j j' with q|q|q
  .exact absurd (by rw[List.getElem_map,List.getElem_map];exact e) (hp j j' (by simpa using hj) (by simpa using hj') q)
  .subst q;rfl
  .exact absurd (by rw[List.getElem_map,List.getElem_map];exact e.symm) (hp j' j (by simpa using hj') (by simpa using hj) q)
 .have:=List.all_eq_true.1 h9 a ha
  simp only[chkA,yD,yO]at this
  obtain⟨⟨⟨c1,c2⟩,c3⟩,c4⟩:=this
  refine⟨c2,?_,c3,fun it hit=>?_⟩
  .split at c1
   .rename_i o ho;exact⟨o,ho,c1⟩
   .cases c1
  .have:=List.all_eq_true.1 c4 it hit
   simp only[yD,Bool.not_eq_true',beq_eq_false_iff_ne]at this
   refine⟨this.1.1,this.1.2,fun hm=>?_⟩
   have h':=this.2
   rw[List.contains_iff_mem.2 hm]at h';cases h'
def Yz(P:Program)(cb:Zc)(l:LOp)(s:St)(v:AV):Prop:=∀s',(∀t,t∈l.rds->s'.e t=s.e t)->BxA cb s s'->∀K:St->Prop,K (s'.set l.dst v)->wop P l K s'
theorem M1T{P:Program}{ck:List Nat}{l:LOp}{s:St}{v:AV}(h:Yld P l (s.stripS ck) v):Yz P (.s ck) l s v:=by
 intro s' h1 h2 K hK
 refine h s' ⟨h1,fun k cs hk=>?_,fun k r hr=>?_⟩ K hK
 .simp only[St.stripS]at hk
  split at hk
  .rename_i hlt
   split at hk
   .rename_i c0 h0
    split at hk
    .rename_i hf;cases hk;exact h2.1 k cs hlt h0 hf
    .cases hk
   .cases hk
  .cases hk
 .simp only[St.stripS]at hr
  split at hr
  .cases hr
  .rename_i hc;exact h2.2 k r hc hr
theorem yz_of{P:Program}{l:LOp}{s:St}{v:AV}(h:Yld P l s.strip v):Yz P .t l s v:=by
 intro s' h1 h2 K hK
 refine h s' ⟨h1,fun k cs hk=>?_,fun k r hr=>by cases hr⟩ K hK
 simp only[St.strip]at hk
 split at hk
 .rename_i hlt
  split at hk
  .rename_i c0 h0
   split at hk
   .rename_i hf;cases hk;exact h2 k cs hlt h0 hf
   .cases hk
  .cases hk
 .cases hk
theorem V0M{b:Nat->Bool}:∀{cs:List AV} {i:Nat} {a:AV},(Q0i b cs)[i]?=some a->a.kf b=true->cs[i]?=some a
 |[],i,a,h,_=>by simp[Q0i]at h
 |x::cs,0,a,h,hk=>by
  simp only[Q0i,List.getElem?_cons_zero,yI]at h ⊢
  split at h
  .exact h
  .subst h;simp[AV.kf]at hk
 |x::cs,i+1,a,h,hk=>by
  simp only[Q0i,List.getElem?_cons_succ]at h ⊢
  exact V0M h hk
theorem X0M{b:Nat->Bool}:∀cs:List AV,(Q0i b cs).length=cs.length
 |[]=>rfl
 |x::cs=>by simp[Q0i,X0M cs]
theorem W1z{b:Nat->Bool}:∀{cs:List AV},kfL b cs=true->∀(i:Nat) (a:AV),cs[i]?=some a->a.kf b=true
 |[],_,i,a,h=>by simp at h
 |x::cs,h,0,a,ha=>by simp only[kfL,yD]at h;simp at ha;subst ha;exact h.1
 |x::cs,h,i+1,a,ha=>by simp only[kfL,yD]at h;exact W1z h.2 i a (by simpa using ha)
theorem U1w{b:Nat->Bool}{cs cs':List AV}(hb:BxLe b cs cs'){off n:Nat}{ag:Bool}{v:AV}(h:L0b (Q0i b cs) off n ag=some v)(hv:v.kf b=true):L0b cs' off n ag=some v:=by
 unfold L0b at h ⊢
 rw[X0M]at h
 rw[hb.1]
 cases ag with
 |false =>
  simp only[yG,yc]at h ⊢
  exact hb.2 _ _ (V0M h hv) hv
 |true =>
  simp only[yb]at h ⊢
  split at h
  .rename_i hc
   rw[yd hc]
   cases h
   simp only[AV.kf]at hv
   congr 2
   apply List.ext_getElem?
   intro i
   have hg:=W1z hv i
   rw[List.getElem?_take,List.getElem?_take]
   by_cases hi:i<n
   .rw[yd hi,yd hi,List.getElem?_drop,List.getElem?_drop]
    have hlt:off+i<(Q0i b cs).length:=by rw[X0M];omega
    have e1:(Q0i b cs)[off+i]?=some (Q0i b cs)[off+i]:=yA hlt
    rw[e1]
    have:=hg (Q0i b cs)[off+i] (by rw[List.getElem?_take,yd hi,List.getElem?_drop,e1])
    exact hb.2 _ _ (V0M e1 this) this
   .rw[ye hi,ye hi]
  .cases h
def St.nob(s:St):St:={ s with bx:=fun _=>none }
section
variable{s:St}
mutual
theorem U1x:∀a,s.nob.dt a=s.dt a
 |.bool _ | .int _ _ | .str _ | .nl | .el | .sl _ _ _ | .tup _ | .ptr _ _ | .ept _ _ | .eot _ _ | .rpt _ _ _ | .od _ _ _ | .op _ _ _ | .und | .bad=>by simp[St.dt]
 |.sref k=>by simp[St.dt,St.nob]
 |.agg cs=>by rw[St.dt,St.dt,L0L cs]
 |.fn f cs=>by rw[St.dt,St.dt,L0L cs]
theorem L0L:∀l,s.nob.dtL l=s.dtL l
 |[]=>by simp[St.dtL]
 |a::l=>by rw[St.dtL,St.dtL,U1x a,L0L l]
end
theorem M0v(x:X):s.nob.get x=s.get x:=by cases x<;>rfl
theorem Y1m(xs:List X):xs.map s.nob.get=xs.map s.get:=List.map_congr_left fun x _=>M0v x
theorem X1m(xs:List X):s.nob.args xs=s.args xs:=by unfold St.args;rw[Y1m,L0L]
end
theorem L1k{P:Program}{s:St}{Kv:AV->Prop}{l:LOp}(hq:isQ1 l=true)(hsc:scOk s.stripF l)(h:wop P l (fun s'=>(s'.e l.dst).kf (bO s)=true/\Kv (s'.e l.dst)) s.stripF):∃v,v.kf (bO s)=true/\Kv v/\Yz P .f l s v:=by
 have gen:∀{l:LOp},isQ1 l=true->scOk s.stripF.nob l->wop P l (fun s'=>(s'.e l.dst).kf (bO s)=true/\Kv (s'.e l.dst)) s.stripF.nob->∃v,v.kf (bO s)=true/\Kv v/\Yz P .f l s v:=by
  intro l hq hsc h
  obtain⟨v,⟨k1,k2⟩,y⟩:=W1v hq hsc h
  rw[J0m]at k1 k2
  exact⟨v,k1,k2,fun s' h1 _ K hK=>y s' ⟨h1,fun k cs hk=>(by cases hk),fun k r hr=>(by cases hr)⟩ K hK⟩
 have ge:∀{s':St} {x:X},(∀t∈x.rd,s'.e t=s.e t)->s'.get x=s.stripF.get x:=fun{s' x} h=>by
  cases x with
  |t i=>exact h i (by simp[X.rd])
  |c a=>rfl
 cases l with
 |fa d x off =>
  cases hx:s.stripF.get x with
  |ptr k o =>
   simp only[wop,hx]at h
   obtain⟨h0,h1,h2⟩:=h
   rw[show(LOp.fa d x off).dst=d from rfl,J0m]at h1 h2
   refine⟨_,h1,h2,fun s' q1 q2 K hK=>?_⟩
   have e:=ge (s':=s') (x:=x) fun t ht=>q1 t (by simpa[LOp.rds]using ht)
   simp only[wop,e,hx]
   refine⟨?_,hK⟩
   cases hb:s.bx k with
   |none=>simp[St.stripF,hb]at h0
   |some cs=>obtain⟨cs',q3,_⟩:=q2 k cs hb;rw[q3];rfl
  |_=>exact gen hq trivial (by
    simp only[wop,M0v]at h ⊢
    rw[hx]at h ⊢
    exact h)
 |ld d p n ag =>
  cases hx:s.stripF.get p with
  |ptr k o =>
   simp only[wop,hx,St.ld]at h
   cases hb:s.bx k with
   |none=>simp[St.stripF,hb]at h
   |some cs =>
    simp only[St.stripF,hb,Option.map_some]at h
    split at h
    .rename_i v hv
     obtain⟨h1,h2⟩:=h
     rw[show(LOp.ld d p n ag).dst=d from rfl,J0m]at h1 h2
     refine⟨v,h1,h2,fun s' q1 q2 K hK=>?_⟩
     have e:=ge (s':=s') (x:=p) fun t ht=>q1 t (by simpa[LOp.rds]using ht)
     obtain⟨cs',q3,q4⟩:=q2 k cs hb
     simp only[wop,e,hx,St.ld,q3]
     have:=U1w q4 hv h1
     simp only[this]
     exact hK
    .cases h
  |_=>exact gen hq trivial (by
    simp only[wop,M0v]at h ⊢
    rw[hx]at h ⊢
    exact h)
 |bs d sz ps own=>cases own with
  |true=>simp[isQ1]at hq
  |false=>exact gen hq hsc (by simp only[wop,Y1m,L0L]at h ⊢;exact h)
 |nc d x =>
  cases hx:s.stripF.get x with
  |ptr k o =>
   simp only[wop,hx]at h
   obtain⟨h0,h1,h2⟩:=h
   rw[show(LOp.nc d x).dst=d from rfl,J0m]at h1 h2
   refine⟨_,h1,h2,fun s' q1 q2 K hK=>?_⟩
   have e:=ge (s':=s') (x:=x) fun t ht=>q1 t (by simpa[LOp.rds]using ht)
   simp only[wop,e,hx]
   refine⟨?_,hK⟩
   cases hb:s.bx k with
   |none=>simp[St.stripF,hb]at h0
   |some cs=>obtain⟨cs',q3,_⟩:=q2 k cs hb;rw[q3];rfl
  |_=>exact gen hq trivial (by
    simp only[wop,M0v]at h ⊢
    rw[hx]at h ⊢
    exact h)
 |b2s d x=>exact gen hq hsc (by simp only[wop,M0v,U1x]at h ⊢;exact h)
 |cq d f xs=>exact gen hq hsc (by simp only[wop,X1m]at h ⊢;exact h)
 |cc d f xs=>exact gen hq hsc (by simp only[wop,X1m]at h ⊢;exact h)
 |ae d x y sz b=>exact gen hq hsc (by simp only[wop,M0v,U1x]at h ⊢;exact h)
 |_=>first|exact gen hq hsc h | (simp[isQ1]at hq)
theorem L1O{P:Program}{s:St}{Kv:AV->Prop}{l:LOp}(hq:isQ l=true)(hsc:scOk s.stripF l)(h:wop P l (fun s'=>(s'.e l.dst).kf (bO s)=true/\Kv (s'.e l.dst)) s.stripF):∃v,v.kf (bO s)=true/\Kv v/\Yz P .f l s v:=by
 cases l with
 |g t want o =>
  simp only[isQ]at hq
  simp only[wop]at h
  have hsc':scOk s.stripF o:=by cases o<;>first|exact hsc|trivial
  have e0:s.stripF.e t=s.e t:=rfl
  have skip:(s.e t=.und\/∃b,s.e t=.bool b/\b≠want)->((AV.und).kf (bO s)=true/\Kv .und)->∃v,v.kf (bO s)=true/\Kv v/\Yz P .f (.g t want o) s v:=by
   intro ht hk
   refine⟨.und,hk.1,hk.2,fun s' q1 _ K' hK=>?_⟩
   have e1:=q1 t (by simp[LOp.rds])
   rcases ht with ht|⟨b,ht,hb⟩
   .simp only[wop,e1,ht];exact hK
   .simp only[wop,e1,ht,hb,yc];exact hK
  split at h
  .rename_i b ht
   rw[e0]at ht
   split at h
   .rename_i hb
    obtain⟨v,k1,k2,y⟩:=L1k (l:=o) hq hsc' h
    refine⟨v,k1,k2,fun s' q1 q2 K' hK=>?_⟩
    have e1:=q1 t (by simp[LOp.rds])
    simp only[wop,e1,ht,hb,yb]
    exact y s' (fun t' ht'=>q1 t' (by simp[LOp.rds,ht'])) q2 K' hK
   .rename_i hb
    exact skip (.inr ⟨b,ht,hb⟩) (by rw[show(LOp.g t want o).dst=o.dst from rfl,J0m]at h;exact h)
  .rename_i ht
   rw[e0]at ht
   exact skip (.inl ht) (by rw[show(LOp.g t want o).dst=o.dst from rfl,J0m]at h;exact h)
  .cases h
 |_=>exact L1k hq hsc h
section
variable{P:Program}{c:Cx}{cb:Zc}{ops:Array Oper}{ow:List Nat}{als:List ZA}{items:List ZI}{tl:List LOp}{K:St->Prop}{Q':Exit->Act->World->Prop}
structure Z(P:Program)(cb:Zc)(ow:List Nat)(items:List ZI)(K:St->Prop)(L:Nat->Prop)(q:Nat)(s sv:St):Prop where
 bx:sv.bx=s.bx
 rw:sv.rst=s.rst
 hi:∀(j:Nat) (it:ZI),items[j]?=some it->q<=j->¬ L it.1
 ef:∀(j:Nat) (it:ZI),items[j]?=some it->j<q->it.2.1=true->L it.1
 same:∀t,(∀(j:Nat) (it:ZI),items[j]?=some it->j<q->¬ L it.1->it.2.2.dst≠t)->sv.e t=s.e t
 pen:∀(j:Nat) (it:ZI),items[j]?=some it->j<q->¬ L it.1->kfz cb sv (sv.e it.2.2.dst)=true/\((∀t,t∈it.2.2.rds->kfz cb sv (sv.e t)=true)\/∀(j':Nat) (it':ZI),items[j']?=some it'->q<=j'->it'.2.1=true->L0j it'.2.2=true)/\Yz P cb it.2.2 (sv.hide ow) (sv.e it.2.2.dst)
 go:Vz P cb ow ((items.drop q).map Prod.snd) K sv
theorem Q12:∀{l:List ZI} {n:Nat},U1a ((l.drop n).map Prod.snd)=true->∀(j:Nat) (it:ZI),l[j]?=some it->n<=j->it.2.1=true->L0j it.2.2=true
 |[],n,_,j,it,hj,_,_=>by simp at hj
 |x::l,0,h,j,it,hj,_,hf=>by
  simp only[List.drop_zero,List.map_cons,U1a,yD]at h
  cases j with
  |zero =>
   simp at hj;subst hj
   have:=h.1
   rw[hf]at this
   simpa using this
  |succ j=>exact Q12 (l:=l) (n:=0) (by simpa using h.2) j it (by simpa using hj) (Nat.zero_le _) hf
 |x::l,n+1,h,j,it,hj,hn,hf=>by
  cases j with
  |zero=>omega
  |succ j=>exact Q12 (l:=l) (n:=n) (by simpa using h) j it (by simpa using hj) (by omega) hf
theorem VT{it:ZI}(h:it.2.1=false):rdz it=it.2.2.rds:=by unfold rdz;rw[h];rfl
theorem OkZ.before(H:OkZ P c.nt ops ow als items tl){j j':Nat}{it it':ZI}(hj:items[j]?=some it)(hj':items[j']?=some it')(h:it'.2.2.dst∈rdz it):j'<j:=by
 obtain⟨_,o,_,_,_,h3⟩:=H.item j it hj
 exact((h3 (fun _=>True) (fun _ _ _ _ _ _ _=>trivial) (fun _ _ _=>trivial)).1 j' it' hj' h).2
theorem Z_adv(H:OkZ P c.nt ops ow als items tl){L:Nat->Prop}{q:Nat}{s sv:St}(z:Z P cb ow items K L q s sv){it:ZI}(hq:items[q]?=some it)(hf:it.2.1=false):∃sv',Z P cb ow items K L (q+1) s sv':=by
 obtain⟨i,f,l⟩:=it
 simp only at hf
 subst hf
 have hlt:=(yB hq).1
 have he:=(yB hq).2
 have hg:=z.go
 rw[List.drop_eq_getElem_cons hlt,he]at hg
 simp only[List.map_cons,Vz]at hg
 obtain⟨g1,g2,g3⟩:=hg
 obtain⟨_,o,_,_,hQ,_⟩:=H.item q _ hq
 simp only[yG,yc]at hQ
 obtain⟨v,k1,k2,yq⟩:∃v,kfz cb sv v=true/\Vz P cb ow (List.map Prod.snd (items.drop (q+1))) K (sv.set l.dst v)/\Yz P cb l (sv.hide ow) v:=by
  cases cb with
  |t =>
   obtain⟨v,⟨k1,k2⟩,y⟩:=O1v hQ g2 g3
   rw[J0m]at k1 k2
   exact⟨v,O14 k1,k2,yz_of y⟩
  |s ck =>
   obtain⟨v,⟨k1,k2⟩,y⟩:=O1v hQ g2 g3
   rw[J0m]at k1 k2
   exact⟨v,O14 k1,k2,M1T y⟩
  |f =>
   obtain⟨v,k1,k2,y⟩:=L1O (s:=sv.hide ow) (Kv:=fun v=>Vz P .f ow (List.map Prod.snd (items.drop (q+1))) K (sv.set l.dst v)) hQ g2 g3
   exact⟨v,O14 (c:=.f) k1,k2,y⟩
 have notrd:∀(j:Nat) (it:ZI),items[j]?=some it->j<q+1->it.2.1=false->l.dst∉it.2.2.rds:=fun j it hj hjq hff hr=>by
  have:=H.before hj hq (by rw[VT hff];exact hr)
  omega
 have eset:∀t,t≠l.dst->(sv.set l.dst v).e t=sv.e t:=fun t ht=>by simp[St.set,upd,ht]
 have pure:∀(j:Nat) (it:ZI),items[j]?=some it->j<q->¬ L it.1->it.2.1=false:=fun j it hj hjq hn=>by
  cases hx:it.2.1 with
  |false=>rfl
  |true=>exact absurd (z.ef j it hj hjq hx) hn
 have ymono:∀(l':LOp) (v':AV),l.dst∉l'.rds->Yz P cb l' (sv.hide ow) v'->Yz P cb l' ((sv.set l.dst v).hide ow) v':=fun l' v' hn hy s' h1 h2 K' hK'=>hy s' (fun t ht=>by rw[h1 t ht];exact eset t (fun e=>hn (by rw[← e];exact ht))) (BxA.congr (t:=sv.hide ow) (s:=(sv.set l.dst v).hide ow) rfl rfl h2) K' hK'
 refine⟨sv.set l.dst v,z.bx,z.rw,fun j it hj hle=>z.hi j it hj (by omega),fun j it hj hlt' hE=>?_,fun t ht=>?_,fun j it hj hlt' hn=>?_,k2⟩
 .rcases Nat.lt_or_ge j q with h|h
  .exact z.ef j it hj h hE
  .have:j=q:=by omega
   subst this;rw[hq]at hj;cases hj;cases hE
 .have htd:t≠l.dst:=fun e=>ht q _ hq (by omega) (z.hi q _ hq (by omega)) e.symm
  rw[eset t htd]
  exact z.same t fun j it hj hjq hn=>ht j it hj (by omega) hn
 .rcases Nat.lt_or_ge j q with h|h
  .obtain⟨p1,p2,p3⟩:=z.pen j it hj h hn
   have hd:it.2.2.dst≠l.dst:=fun e=>by have:=H.dst j q it _ hj hq e;omega
   have hr:=notrd j it hj (by omega) (pure j it hj h hn)
   rw[eset _ hd]
   exact⟨p1,p2.imp (fun p2 t ht=>by rw[eset t (fun e=>hr (by rw[← e];exact ht))];exact p2 t ht) (fun p2 j' it' h1 h2=>p2 j' it' h1 (by omega)),ymono _ _ hr p3⟩
  .have:j=q:=by omega
   subst this
   rw[hq]at hj;cases hj
   have hr:=notrd j _ hq (by omega) rfl
   rw[J0m]
   exact⟨k1,g1.imp (fun g1 t ht=>by rw[eset t (fun e=>hr (by rw[← e];exact ht))];exact g1 t ht) (fun g1 j' it' h1 h2=>Q12 g1 j' it' h1 h2),ymono _ _ hr yq⟩
theorem J1L(H:OkZ P c.nt ops ow als items tl){L:Nat->Prop}{s:St}:∀(n q:Nat) (sv:St),items.length-q<=n->Z P cb ow items K L q s sv ->
  ∃(p:Nat) (sv':St),Z P cb ow items K L p s sv'/\(items.length<=p\/∃it,items[p]?=some it/\it.2.1=true):=by
 intro n
 induction n with
 |zero=>intro q sv hn z;exact⟨q,sv,z,.inl (by omega)⟩
 |succ n ih =>
  intro q sv hn z
  rcases Nat.lt_or_ge q items.length with h|h
  .have hq:=yA h
   cases hf:(items[q]).2.1 with
   |true=>exact⟨q,sv,z,.inr ⟨_,hq,hf⟩⟩
   |false =>
    obtain⟨sv',z'⟩:=Z_adv H z hq hf
    exact ih (q+1) sv' (by omega) z'
  .exact⟨q,sv,z,.inl h⟩
theorem L1L(H:OkZ P c.nt ops ow als items tl)(s:St):alZ s als=s.wb (zB als fun _=>True):=(Q1s als _ H.ad (fun _ _=>trivial) s).symm
theorem O1T(H:OkZ P c.nt ops ow als items tl){a:ZA}(ha:a∈als):zB als (fun _=>True) a.2.1=some a.2.2:=by
 unfold zB;rw[Q1m H.ad ha];simp
theorem O0I{t:Nat}(h:∀a∈als,a.2.1≠t):zB als (fun _=>True) t=none:=by
 unfold zB
 cases hz:zl als t with
 |none=>rfl
 |some q=>obtain⟨i,z⟩:=q;exact absurd rfl (h _ (U0z hz))
structure ZB(P:Program)(cb:Zc)(ow:List Nat)(als:List ZA)(items:List ZI)(L:Nat->Prop)(sv u uv:St):Prop where
 bxs:(∀(j:Nat) (it:ZI),items[j]?=some it->¬ L it.1->isMvO it.2.2=true)\/((∀k cs,(sv.hide ow).bx k=some cs->u.bx k=some cs)/\sv.rw=u.rw)
 own:∀d∈ow,uv.e d=.ptr d 0
 ubx:uv.bx=u.bx
 rst:uv.rst=u.rst
 same:∀t,(∀(j:Nat) (it:ZI),items[j]?=some it->¬ L it.1->it.2.2.dst≠t)->uv.e t=u.e t
 pen:∀(j:Nat) (it:ZI),items[j]?=some it->¬ L it.1->it.2.1=false/\Yz P cb it.2.2 (sv.hide ow) (uv.e it.2.2.dst)/\∀t∈it.2.2.rds,uv.e t=sv.e t
 al:∀a∈als,uv.e a.2.1=.ptr a.2.1 0/\sv.bx a.2.1=none
theorem ZB.of(H:OkZ P c.nt ops ow als items tl){L:Nat->Prop}{p:Nat}{s sv:St}{K:St->Prop}(z:Z P cb ow items K L p s sv)(hp:items.length<=p)(F:∀a∈als,Free a.2.1 s)(ho:∀d∈ow,sv.e d=.ptr d 0):ZB P cb ow als items L sv (alZ s als) (alZ sv als):=by
 have lt:∀{j:Nat} {it:ZI},items[j]?=some it->j<p:=fun h=>by have:=(yB h).1;omega
 have notal:∀{j:Nat} {it:ZI},items[j]?=some it->∀a∈als,a.2.1≠it.2.2.dst/\a.2.1∉rdz it:=fun{j it} hj a ha=>by
  obtain⟨_,q1,q2⟩:=(H.al a ha).2.2.2 it (yE hj)
  exact⟨fun e=>q1 e.symm,q2⟩
 rw[L1L H,L1L H]
 refine⟨.inr ⟨fun k cs hk=>?_,congrArg Prod.fst z.rw⟩,fun d hd=>(by rw[wb_e (O0I fun a ha e=>H.ao a ha (by rw[e];exact hd))];exact ho d hd),?_,z.rw,fun t ht=>?_,fun j it hj hn=>?_,fun a ha=>⟨by simp[St.wb,O1T H ha],by rw[z.bx];exact(F a ha).bx⟩⟩
 .replace hk:=Q0d hk
  rw[z.bx]at hk
  have:zB als (fun _=>True) k=none:=O0I fun a ha e=>by rw[← e,(F a ha).bx]at hk;cases hk
  simp only[St.wb,this];exact hk
 .simp only[St.wb,z.bx]
 .simp only[St.wb]
  split
  .rfl
  .exact z.same t fun j it hj _ hn=>ht j it hj hn
 .obtain⟨p1,p2,p3⟩:=z.pen j it hj (lt hj) hn
  have hf:it.2.1=false:=by
   cases hx:it.2.1 with
   |false=>rfl
   |true=>exact absurd (z.ef j it hj (lt hj) hx) hn
  refine⟨hf,?_,fun t ht=>wb_e (O0I fun a ha e=>(notal hj a ha).2 (by rw[VT hf,e];exact ht))⟩
  rw[wb_e (O0I fun a ha=>(notal hj a ha).1)]
  exact p3
theorem ZB.all{L:Nat->Prop}{sv u uv:St}(z:ZB P cb ow als items L sv u uv)(h:∀(j:Nat) (it:ZI),items[j]?=some it->L it.1):uv=u :=
 Jm (fun t=>z.same t fun j it hj hn=>absurd (h j it hj) hn) (fun t=>by rw[z.ubx]) z.rst
theorem yz_mv{d:Nat}{y:X}{S u:St}{v:AV}(hy:Yz P cb (.mv d y) S v)(hu:∀t∈y.rd,u.e t=S.e t):u.get y=v:=by
 have h:=hy S (fun _ _=>rfl) (BxA.all (fun _ _ h=>h) (fun _ _ _ _ _ h=>h)) (fun s'=>s'=S.set d v) rfl
 simp only[wop]at h
 have h2:=congrArg (fun s:St=>s.e d) h
 simp only[J0m]at h2
 rw[← h2]
 cases y with
 |t i=>exact hu i (by simp[X.rd])
 |c a=>rfl
theorem L1M{px x:X}{n:Nat}{uv u:St}{K:St->Prop}(hp:uv.get px=u.get px)(hx:uv.get x=u.get x)(hb:uv.bx=u.bx)(hr:uv.rst=u.rst)(h:wop P (.st px x n) K uv) :
  wop P (.st px x n) (fun s'=>∃uv':St,K uv'/\uv'.e=uv.e/\s'.e=u.e/\uv'.bx=s'.bx/\uv'.rst=s'.rst) u:=by
 simp only[St.rst,Prod.mk.injEq]at hr
 obtain⟨r1,r2,r3,r4⟩:=hr
 simp only[wop]at h ⊢
 rw[hp]at h
 simp only[hx,hb,r1]at h
 cases e:u.get px with
 |ptr k off =>
  rw[e]at h
  simp only at h ⊢
  cases eb:u.bx k with
  |none=>rw[eb]at h;cases h
  |some cs =>
   rw[eb]at h
   obtain⟨h1,h2,h3,h4⟩:=h
   exact⟨h1,h2,h3,_,h4,rfl,trivial,rfl,by simp only[St.rst,r2,r3,r4]⟩
 |rpt k i off =>
  rw[e]at h
  simp only at h ⊢
  cases er:u.rw k with
  |none=>rw[er]at h;cases h
  |some r =>
   rw[er]at h
   simp only at h ⊢
   cases ee:r.es[i]? with
   |none=>rw[ee]at h;cases h
   |some e0 =>
    rw[ee]at h
    cases ed:uv.dt (u.get x)with
    |none=>rw[ed]at h;cases h
    |some v =>
     rw[ed]at h
     rw[O1r (fun k r hk=>by rw[← r1];exact hk) _ _ ed]
     obtain⟨h1,h2,h3,h4,h5⟩:=h
     exact⟨h1,h2,h3,h4,_,h5,rfl,trivial,rfl,by simp only[St.rst,r2,r3,r4]⟩
 |_=>rw[e]at h;cases h
theorem tb_z(H:OkZ P c.nt ops ow als items tl)(hK:∀g' s' a' w',Inv c g' s' a' w'->K s'->Q' .normal a' w'):∀(fuel i:Nat) (listed:Array Bool) (g:Gh) (sv u uv:St) (a:Act) (w:World),
  listed.size=ops.size->Clo ops (Lst listed)->i<=tl.length->(∀j,Lst listed j->j<als.length+items.length+i)->(∀a∈als,Lst listed a.1)->(∀(j:Nat) (it:ZI),items[j]?=some it->it.2.1=true->Lst listed it.1)->(∀j,als.length+items.length<=j->j<als.length+items.length+i->Lst listed j) ->
  listed.toList.count false<=fuel->Inv c g u a w->((uv=u/\∀(j:Nat) (it:ZI),items[j]?=some it->Lst listed it.1)\/ZB P cb ow als items (Lst listed) sv u uv)->wops P (tl.drop i) K uv->wpAny P .any ops Q' fuel listed a w:=by
 have hlen:=H.tlen
 intro fuel
 induction fuel with
 |zero =>
  intro i listed g sv u uv a w hs hclo hi hm hA hE hT hc I B h
  have hall:∀j,j<ops.size->Lst listed j:=fun j hj=>Classical.byContradiction fun hn=>by have:=W0r (listed:=listed) (i:=j) (by omega) hn;omega
  have hie:i=tl.length:=by
   rcases Nat.lt_or_ge i tl.length with q|q
   .have:=hm (als.length+items.length+i) (hall _ (by omega));omega
   .omega
  have hr:Region.ready .any ops listed=[]:=by
   cases hr:Region.ready .any ops listed with
   |nil=>rfl
   |cons j _ =>
    obtain⟨h1,h2,_⟩:=MK hs (j:=j) (by rw[hr];simp)
    exact absurd (hall j h1) h2
  rw[List.drop_eq_nil_of_le (by omega)]at h
  have he:uv=u:=by
   rcases B with B|B
   .exact B.1
   .exact B.all fun j it hj=>hall it.1 (by have:=(H.item j it hj).1;omega)
  rw[he]at h
  exact⟨hr,hK _ _ _ _ I h⟩
 |succ fuel ih =>
  intro i listed g sv u uv a w hs hclo hi hm hA hE hT hc I B h
  by_cases hall:∀j,j<ops.size->Lst listed j
  .have hie:i=tl.length:=by
    rcases Nat.lt_or_ge i tl.length with q|q
    .have:=hm (als.length+items.length+i) (hall _ (by omega));omega
    .omega
   have hr:Region.ready .any ops listed=[]:=by
    cases hr:Region.ready .any ops listed with
    |nil=>rfl
    |cons j _ =>
     obtain⟨h1,h2,_⟩:=MK hs (j:=j) (by rw[hr];simp)
     exact absurd (hall j h1) h2
   rw[List.drop_eq_nil_of_le (by omega)]at h
   have he:uv=u:=by
    rcases B with B|B
    .exact B.1
    .exact B.all fun j it hj=>hall it.1 (by have:=(H.item j it hj).1;omega)
   rw[he]at h
   exact wpAny_done hr (hK _ _ _ _ I h) _
  .have hex:∃j,j<ops.size/\¬ Lst listed j:=Classical.byContradiction fun hn=>hall fun j hj=>Classical.byContradiction fun hl=>hn ⟨j,hj,hl⟩
   obtain⟨j1,hj1,hj1u⟩:=hex
   have hleast:∀n j,j<=n->j<ops.size->¬ Lst listed j->∃j,j<ops.size/\¬ Lst listed j/\∀j',j'<j->Lst listed j':=by
    intro n
    induction n with
    |zero=>intro j hj h1 h2;exact⟨j,h1,h2,fun j' hj'=>by omega⟩
    |succ n ihn =>
     intro j hj h1 h2
     by_cases hb:∃j',j'<j/\¬ Lst listed j'
     .obtain⟨j',q1,q2⟩:=hb
      exact ihn j' (by omega) (by omega) q2
     .exact⟨j,h1,h2,fun j' hj'=>Classical.byContradiction fun hn=>hb ⟨j',hj',hn⟩⟩
   obtain⟨j0,hj0,hj0u,hj0l⟩:=hleast j1 j1 (yV _) hj1 hj1u
   have ho0:=Array.getElem?_eq_getElem (xs:=ops) (i:=j0) (by omega)
   have hr0:j0∈Region.ready .any ops listed:=U0q hs hj0u ho0 (fun e he hb=>hj0l e.on (H.edge j0 _ ho0 e he hb))
   refine⟨fun h0=>(by rw[h0]at hr0;cases hr0),fun k hk=>?_⟩
   obtain⟨hk1,hk2,o,ho,he⟩:=MK hs hk
   have eL:Lst (listed.setIfInBounds k true)=fun j=>Lst listed j\/j=k:=funext fun j=>propext (Y14 (by omega))
   have hclo':Clo ops (Lst (listed.setIfInBounds k true)):=by
    rw[eL]
    intro i' o' ho' hi' e' he' hb'
    rcases hi' with hi'|rfl
    .exact .inl (hclo i' o' ho' hi' e' he' hb')
    .rw[ho]at ho';cases ho';exact .inl (he e' he' hb')
   have hA':∀a∈als,Lst (listed.setIfInBounds k true) a.1:=by rw[eL];exact fun a ha=>.inl (hA a ha)
   have hE':∀(j:Nat) (it:ZI),items[j]?=some it->it.2.1=true->Lst (listed.setIfInBounds k true) it.1:=by rw[eL];exact fun j it hj hx=>.inl (hE j it hj hx)
   rcases Nat.lt_or_ge k (als.length+items.length)with hkN|hkN
   ·-- a pending pure operation
    rcases H.surj k hkN with⟨j,it,hj,hji⟩|⟨ad,had,hai⟩
    rotate_left
    .exact absurd (by rw[← hai];exact hA ad had) hk2
    have hnl:¬ Lst listed it.1:=by rw[hji];exact hk2
    rcases B with B|B
    .exact absurd (B.2 j it hj) hnl
    obtain⟨hf,hy,hrds⟩:=B.pen j it hj hnl
    obtain⟨_,o',ho',hch,hkind,hsem⟩:=H.item j it hj
    rw[hji]at ho'
    rw[ho]at ho';cases ho'
    obtain⟨hrd,_⟩:=hsem (Lst listed) hclo he
    have other:∀(j':Nat) (it':ZI),items[j']?=some it'->it'.1=k->j'=j/\it'=it:=fun j' it' hj' e=>by
     have:=H.inj j' j it' it hj' hj (by rw[e,hji])
     subst this;rw[hj]at hj';cases hj';exact⟨rfl,rfl⟩
    have hag:∀t∈it.2.2.rds,u.e t=sv.e t:=fun t ht=>by
     rw[← hrds t ht]
     refine(B.same t fun j' it' hj' hn' e=>?_).symm
     subst e
     exact hn' (hrd j' it' hj' (by rw[VT hf];exact ht)).1
    have hw:wop P it.2.2 (fun s'=>s'=u.set it.2.2.dst (uv.e it.2.2.dst)) u:=by
     rcases B.bxs with hm0|⟨hb0,hr0⟩
     .obtain⟨d0,y0,e0⟩:=Z1G (hm0 j it hj hnl)
      rw[e0]at hy hag ⊢
      simp only[wop]
      rw[yz_mv hy hag]
      rfl
     .exact hy _ hag (BxA.all hb0 fun _ _ k r _ hr=>by rw[← hr0];exact hr) _ rfl
    refine U02 ho ?_
    refine Vq (fun g' s' a' w' I' h'=>?_) hch I hw
    subst h'
    refine ih i _ g' sv (u.set it.2.2.dst (uv.e it.2.2.dst)) uv a' w' (by simpa using hs) hclo' hi ?_ hA' hE' ?_ (Ye (by omega) hk2 hc) I' (.inr ?_) h
    .rw[eL];intro j' hj'
     rcases hj' with hj'|rfl
     .exact hm j' hj'
     .omega
    .rw[eL];exact fun j' q1 q2=>.inl (hT j' q1 q2)
    .rw[eL]
     refine⟨B.bxs.imp (fun hm0 j' it' hj' hn'=>hm0 j' it' hj' fun q=>hn' (.inl q)) (fun q=>q),B.own,B.ubx,B.rst,fun t ht=>?_,fun j' it' hj' hn'=>B.pen j' it' hj' fun q=>hn' (.inl q),B.al⟩
     by_cases htd:t=it.2.2.dst
     .subst htd;rw[J0m]
     .have:(u.set it.2.2.dst (uv.e it.2.2.dst)).e t=u.e t:=by simp[St.set,upd,htd]
      rw[this]
      refine B.same t fun j' it' hj' hn e=>?_
      by_cases hx:it'.1=k
      .obtain⟨_,rfl⟩:=other j' it' hj' hx;exact htd e.symm
      .exact ht j' it' hj' (fun h=>h.elim hn hx) e
   ·-- the tail
    have hkl:k-(als.length+items.length)<tl.length:=by omega
    have hki:k=als.length+items.length+i:=by
     rcases Nat.lt_trichotomy k (als.length+items.length+i)with q|q|q
     .exact absurd (hT k hkN q) hk2
     .exact q
     .have hil:i<tl.length:=by omega
      have hti:Lst listed (als.length+items.length+i):=by
       rcases H.tl (k-(als.length+items.length)) _ o (Lst listed) (yA hkl) (by rw[show als.length+items.length+(k-(als.length+items.length))=k by omega];exact ho) hclo he with q2|q2
       .exact q2 _ (by omega)
       .rcases q2 with q2|q2
        .exact q2.2.2.2.2 _ (by omega) (by omega)
        .exact q2.2.2.2 _ (by omega) (by omega)
      have:=hm _ hti;omega
    subst hki
    have hil:i<tl.length:=by omega
    have hget:tl[i]?=some tl[i]:=yA hil
    obtain⟨o',ho',hch⟩:=H.tone i _ hget
    rw[ho]at ho';cases ho'
    rw[← List.getElem_cons_drop hil]at h
    simp only[wops]at h
    have hm':∀j,Lst (listed.setIfInBounds (als.length+items.length+i) true) j->j<als.length+items.length+(i+1):=by
     rw[eL];intro j' hj'
     rcases hj' with hj'|rfl
     .have:=hm j' hj';omega
     .omega
    have hT':∀j,als.length+items.length<=j->j<als.length+items.length+(i+1)->Lst (listed.setIfInBounds (als.length+items.length+i) true) j:=by
     rw[eL];intro j' q1 q2
     by_cases q:j'=als.length+items.length+i
     .exact .inr q
     .exact .inl (hT j' q1 (by omega))
    by_cases hd:uv=u/\∀(j:Nat) (it:ZI),items[j]?=some it->Lst listed it.1
    .rw[hd.1]at h
     refine U02 ho ?_
     refine Vq (fun g' s' a' w' I' h'=>?_) hch I h
     exact ih (i+1) _ g' s' s' s' a' w' (by simpa using hs) hclo' (by omega) hm' hA' hE' hT' (Ye (by omega) hk2 hc) I' (.inl ⟨rfl,by rw[eL];exact fun j it hj=>.inl (hd.2 j it hj)⟩) h'
    have B:=B.resolve_left hd
    rcases H.tl i _ o (Lst listed) hget ho hclo he with q|⟨q1,q0,q2,q3,q4⟩|⟨q1,q2,q3,q4⟩
    .have hd2:∀(j:Nat) (it:ZI),items[j]?=some it->Lst listed it.1:=fun j it hj=>q it.1 (by have:=(H.item j it hj).1;omega)
     exact absurd ⟨B.all hd2,hd2⟩ hd
    ·-- a store into a new box
     generalize tl[i]=l at q1 q0 q3 h hch
     cases l with
     |st px x n =>
      cases px with
      |c a0=>simp[t1op]at q1
      |t d =>
       simp only[t1op,Bool.or_eq_true,List.any_eq_true,beq_iff_eq]at q1
       have hp:uv.e d=.ptr d 0/\(sv.hide ow).bx d=none:=by
        rcases q1 with⟨a0,ha0,rfl⟩|q1
        .exact⟨(B.al a0 ha0).1,M1d (B.al a0 ha0).2⟩
        .have:=List.contains_iff_mem.1 q1
         exact⟨B.own d this,X1i this⟩
       obtain⟨hp1,hp2⟩:=hp
       have gp:u.e d=.ptr d 0:=by
        rw[← hp1]
        refine(B.same _ fun j it hj hn e=>hn (q3 j it hj (.inr ?_))).symm
        rw[e];simp[U0S,X.rd]
       have gx:uv.get x=u.get x:=by
        cases x with
        |c b=>rfl
        |t tx =>
         refine B.same tx fun j it hj hn e=>hn (q3 j it hj (.inr ?_))
         rw[e];simp[U0S,X.rd]
       simp only[wop]at h
       rw[show uv.get (.t d)=.ptr d 0 from hp1]at h
       simp only[B.ubx]at h
       cases hb:u.bx d with
       |none=>rw[hb]at h;cases h
       |some cs =>
        rw[hb]at h
        obtain⟨h1,h2,h3,h4⟩:=h
        rw[gx]at h1 h3 h4
        have hw:wop P (.st (.t d) x n) (fun s'=>s'={ u with bx:=fun j=>if j=d then some (putC cs 0 (u.get x).cells)else u.bx j }) u:=by
         simp only[wop]
         rw[show u.get (.t d)=.ptr d 0 from gp]
         simp only[hb]
         exact⟨h1,h2,h3,trivial⟩
        refine U02 ho ?_
        refine Vq (fun g' s' a' w' I' h'=>?_) hch I hw
        subst h'
        refine ih (i+1) _ g' sv _ _ a' w' (by simpa using hs) hclo' (by omega) hm' hA' hE' hT' (Ye (by omega) hk2 hc) I' (.inr ?_) h4
        rw[eL]
        refine⟨B.bxs.imp (fun hm0 j it hj hn=>hm0 j it hj fun q=>hn (.inl q)) (fun hbr=>⟨fun k0 c0 hk0=>?_,hbr.2⟩),B.own,rfl,B.rst,fun t ht=>B.same t fun j it hj hn=>ht j it hj fun q=>q.elim hn fun q=>(by have:=(H.item j it hj).1;omega),fun j it hj hn=>B.pen j it hj fun q=>hn (.inl q),B.al⟩
        have hne:k0≠d:=fun e=>by rw[e,hp2]at hk0;cases hk0
        simp only[ye hne]
        exact hbr.1 k0 c0 hk0
     |mv d x =>
      simp only[t1op,yD,List.all_eq_true,Bool.not_eq_true',beq_eq_false_iff_ne]at q1
      simp only[t1it,List.all_eq_true,yD,Bool.not_eq_true',beq_eq_false_iff_ne]at q0
      have gx:uv.get x=u.get x:=by
       cases x with
       |c b=>rfl
       |t tx =>
        refine B.same tx fun j it hj hn e=>hn (q3 j it hj (.inr ?_))
        rw[e];simp[U0S,X.rd]
      simp only[wop]at h
      have hw:wop P (.mv d x) (fun s'=>s'=u.set d (uv.get x)) u:=by
       simp only[wop,gx]
      refine U02 ho ?_
      refine Vq (fun g' s' a' w' I' h'=>?_) hch I hw
      subst h'
      refine ih (i+1) _ g' sv _ _ a' w' (by simpa using hs) hclo' (by omega) hm' hA' hE' hT' (Ye (by omega) hk2 hc) I' (.inr ?_) h
      rw[eL]
      have es:∀(z:St) t,t≠d->(z.set d (uv.get x)).e t=z.e t:=fun z t ht=>by simp[St.set,upd,ht]
      have ndr:∀(j:Nat) (it:ZI),items[j]?=some it->d∉rdz it/\it.2.2.dst≠d:=fun j it hj=>by
       have:=q0 it (yE hj)
       exact⟨fun hm=>by rw[List.contains_iff_mem.2 hm]at this;exact absurd this.1 (by simp),this.2⟩
      refine⟨B.bxs.imp (fun hm0 j it hj hn=>hm0 j it hj fun q=>hn (.inl q)) (fun q=>q),fun d0 hd0=>?_,B.ubx,B.rst,fun t ht=>?_,fun j it hj hn=>?_,fun a ha=>?_⟩
      .rw[es _ _ (fun e=>by rw[← e,List.contains_iff_mem.2 hd0]at q1;exact absurd q1.2 (by simp))];exact B.own d0 hd0
      .by_cases htd:t=d
       .subst htd;rw[J0m,J0m]
       .rw[es _ _ htd,es _ _ htd]
        exact B.same t fun j it hj hn=>ht j it hj fun q=>q.elim hn fun q=>(by have:=(H.item j it hj).1;omega)
      .obtain⟨p1,p2,p3⟩:=B.pen j it hj fun q=>hn (.inl q)
       rw[es _ _ (ndr j it hj).2]
       exact⟨p1,p2,fun t ht=>by rw[es _ _ (fun e=>(ndr j it hj).1 (by rw[VT p1,← e];exact ht))];exact p3 t ht⟩
      .rw[es _ _ (q1.1 a ha)];exact B.al a ha
     |_=>simp[t1op]at q1
    ·-- a store,and moves alone are ahead
     generalize tl[i]=l at q1 q3 h hch
     obtain⟨px,x,n,rfl⟩:=J1F q1
     have nrd:∀t,t∈U0S (.st px x n)->uv.e t=u.e t:=fun t ht=>B.same t fun j it hj hn e=>by
      rcases q3 j it hj with q|q
      .exact hn q
      .exact q.2.2 (by rw[e];exact ht)
     have gp:uv.get px=u.get px:=by
      cases px with
      |c a=>rfl
      |t i0=>exact nrd i0 (by simp[U0S,X.rd])
     have gx:uv.get x=u.get x:=by
      cases x with
      |c a=>rfl
      |t i0=>exact nrd i0 (by simp[U0S,X.rd])
     have hw:=L1M gp gx B.ubx B.rst h
     refine U02 ho ?_
     refine Vq (fun g' s' a' w' I' h'=>?_) hch I hw
     obtain⟨uv',hK',e1,e2,e3,e4⟩:=h'
     refine ih (i+1) _ g' sv s' uv' a' w' (by simpa using hs) hclo' (by omega) hm' hA' hE' hT' (Ye (by omega) hk2 hc) I' (.inr ?_) hK'
     rw[eL]
     refine⟨.inl fun j it hj hn=>?_,fun d hd=>by rw[e1];exact B.own d hd,e3,e4,fun t ht=>?_,fun j it hj hn=>?_,fun a ha=>by rw[e1];exact B.al a ha⟩
     .rcases q3 j it hj with q|q
      .exact absurd (.inl q) hn
      .exact q.1
     .rw[e1,e2]
      exact B.same t fun j it hj hn=>ht j it hj fun q=>q.elim hn fun q=>(by have:=(H.item j it hj).1;omega)
     .rw[e1]
      exact B.pen j it hj fun q=>hn (.inl q)
theorem any_z{K0:St->Prop}(hk0:∀s',K0 s'->(∀d∈ow,s'.e d=.ptr d 0)/\wops P tl K (alZ s' als))(hcb:∀it∈items,isCm it.2.2=true->cb≠.f)(hst:∀ck,cb=.s ck->∀it∈items,it.2.1=true->U0n it.2.2=true/\∀d f xs,it.2.2=.cl d f xs->∀k∈clKs d,k∈ck)(H:OkZ P c.nt ops ow als items tl)(hK:∀g' s' a' w',Inv c g' s' a' w'->K s'->Q' .normal a' w'):∀(fuel:Nat) (listed:Array Bool) (q:Nat) (sv:St) (g:Gh) (s:St) (a:Act) (w:World),
  listed.size=ops.size->Clo ops (Lst listed)->(∀j,Lst listed j->j<als.length+items.length)->listed.toList.count false<=fuel->(∀a∈als,Free a.2.1 s)->Z P cb ow items K0 (Lst listed) q s sv->Inv c g (s.wb (zB als (Lst listed))) a w->wpAny P .any ops Q' fuel listed a w:=by
 have hlen:=H.tlen
 have nt9:=c.ntb
 have adt:∀a∈als,a.2.1<c.nt:=fun a ha=>by
  obtain⟨_,⟨o,_,hch⟩,_⟩:=H.al a ha
  unfold chk1 at hch
  simp only[yD]at hch
  exact(X0e hch.1.2).1
 have zBs:∀(L:Nat->Prop) (k:Nat),(zB als L k).isSome=true->∃a∈als,a.2.1=k/\L a.1:=fun L k hk=>by
  unfold zB at hk
  split at hk
  .rename_i i z hz
   split at hk
   .rename_i hl;exact⟨_,U0z hz,rfl,hl⟩
   .cases hk
  .cases hk
 have zBn:∀(L:Nat->Prop) (t:Nat),(∀a∈als,a.2.1≠t)->zB als L t=none:=fun L t ht=>by
  cases hb:zB als L t with
  |none=>rfl
  |some cs =>
   obtain⟨a,ha,e,_⟩:=zBs L t (by rw[hb];rfl)
   exact absurd e (ht a ha)
 intro fuel
 induction fuel with
 |zero =>
  intro listed q sv g s a w hs hclo hm hc F z I
  have hall:∀j,j<ops.size->Lst listed j:=fun j hj=>Classical.byContradiction fun hn=>by have:=W0r (listed:=listed) (i:=j) (by omega) hn;omega
  obtain⟨p,sv',z',hp⟩:=J1L H _ q sv (yV _) z
  have hp':items.length<=p:=by
   rcases hp with h|⟨it,h1,h2⟩
   .exact h
   .have:=(H.item p it h1).1
    exact absurd (hall it.1 (by omega)) (z'.hi p it h1 (yV _))
  have hg:=z'.go
  rw[List.drop_eq_nil_of_le hp']at hg
  rw[Q1s als _ H.ad (fun a ha=>hall a.1 (by have:=(H.al a ha).1;omega))]at I
  exact tb_z H hK 0 0 listed g sv' _ _ a w hs hclo (Nat.zero_le _) (fun j hj=>by have:=hm j hj;omega) (fun a ha=>hall a.1 (by have:=(H.al a ha).1;omega)) (fun j it hj _=>hall it.1 (by have:=(H.item j it hj).1;omega)) (fun j q1 q2=>by omega) hc I (.inr (ZB.of H z' hp' F (hk0 sv' (by simpa[Vz]using hg)).1)) (by simpa using(hk0 sv' (by simpa[Vz]using hg)).2)
 |succ fuel ih =>
  intro listed q sv g s a w hs hclo hm hc F z I
  obtain⟨p,sv',z',hp⟩:=J1L H _ q sv (yV _) z
  clear z
  by_cases hall:(∀a∈als,Lst listed a.1)/\∀(j:Nat) (it:ZI),items[j]?=some it->it.2.1=true->Lst listed it.1
  .have hp':items.length<=p:=by
    rcases hp with h|⟨it,h1,h2⟩
    .exact h
    .exact absurd (hall.2 p it h1 h2) (z'.hi p it h1 (yV _))
   have hg:=z'.go
   rw[List.drop_eq_nil_of_le hp']at hg
   rw[Q1s als _ H.ad hall.1]at I
   exact tb_z H hK (fuel+1) 0 listed g sv' _ _ a w hs hclo (Nat.zero_le _) (fun j hj=>by have:=hm j hj;omega) hall.1 hall.2 (fun j q1 q2=>by omega) hc I (.inr (ZB.of H z' hp' F (hk0 sv' (by simpa[Vz]using hg)).1)) (by simpa using(hk0 sv' (by simpa[Vz]using hg)).2)
  .have hex:∃j,j<als.length+items.length/\¬ Lst listed j:=Classical.byContradiction fun hn=>hall ⟨fun a ha=>Classical.byContradiction fun q=>hn ⟨_,(H.al a ha).1,q⟩,fun j it hj _=>Classical.byContradiction fun q=>hn ⟨_,(H.item j it hj).1,q⟩⟩
   obtain⟨j1,hj1,hj1u⟩:=hex
   have hleast:∀n j,j<=n->j<als.length+items.length->¬ Lst listed j->∃j,j<als.length+items.length/\¬ Lst listed j/\∀j',j'<j->Lst listed j':=by
    intro n
    induction n with
    |zero=>intro j hj h1 h2;exact⟨j,h1,h2,fun j' hj'=>by omega⟩
    |succ n ihn =>
     intro j hj h1 h2
     by_cases hb:∃j',j'<j/\¬ Lst listed j'
     .obtain⟨j',q1,q2⟩:=hb
      exact ihn j' (by omega) (by omega) q2
     .exact⟨j,h1,h2,fun j' hj'=>Classical.byContradiction fun hn=>hb ⟨j',hj',hn⟩⟩
   obtain⟨j0,hj0,hj0u,hj0l⟩:=hleast j1 j1 (yV _) hj1 hj1u
   have ho0:=Array.getElem?_eq_getElem (xs:=ops) (i:=j0) (by omega)
   have hr0:j0∈Region.ready .any ops listed:=U0q hs hj0u ho0 (fun e he hb=>hj0l e.on (H.edge j0 _ ho0 e he hb))
   refine⟨fun h0=>(by rw[h0]at hr0;cases hr0),fun i hi=>?_⟩
   obtain⟨hi1,hi2,o,ho,he⟩:=MK hs hi
   have him:i<als.length+items.length:=by
    rcases Nat.lt_or_ge i (als.length+items.length)with h|h
    .exact h
    .have hio:=(Array.getElem?_eq_some_iff.1 ho).1
     rcases H.tl (i-(als.length+items.length)) _ o (Lst listed) (yA (by omega)) (by rw[show als.length+items.length+(i-(als.length+items.length))=i by omega];exact ho) hclo he with q|⟨_,_,q2,q3,_⟩|⟨_,q2,q3,_⟩
     .exact absurd (q j1 (by omega)) hj1u
     .exact absurd ⟨q2,fun j it hj hx=>q3 j it hj (.inl hx)⟩ hall
     .exact absurd ⟨q2,fun j it hj hx=>(q3 j it hj).elim (fun h=>h) fun h=>by rw[hx]at h;cases h.2.1⟩ hall
   have eL:Lst (listed.setIfInBounds i true)=fun j=>Lst listed j\/j=i:=funext fun j=>propext (Y14 (by omega))
   have hclo':Clo ops (Lst (listed.setIfInBounds i true)):=by
    rw[eL]
    intro i' o' ho' hi' e' he' hb'
    rcases hi' with hi'|rfl
    .exact .inl (hclo i' o' ho' hi' e' he' hb')
    .rw[ho]at ho';cases ho';exact .inl (he e' he' hb')
   have hm':∀j,Lst (listed.setIfInBounds i true) j->j<als.length+items.length:=by
    intro j hj
    rw[eL]at hj
    rcases hj with hj|rfl
    .exact hm j hj
    .exact him
   rcases H.surj i him with⟨j,it,hj,hji⟩|⟨ad,had,hai⟩
   rotate_left
   ·-- a new box
    obtain⟨_,⟨o',ho',hch⟩,hpl,hno⟩:=H.al ad had
    obtain⟨ai,d,zc⟩:=ad
    simp only at hai hch ho' hpl hno
    subst hai
    rw[ho]at ho';cases ho'
    have Fd:=F _ had
    have hzB:∀k,zB als (Lst (listed.setIfInBounds ai true)) k=if k=d then some zc else zB als (Lst listed) k:=fun k=>by
     rw[eL]
     unfold zB
     by_cases hk:k=d
     .subst hk
      rw[Q1m H.ad had];simp
     .rw[ye hk]
      cases hz:zl als k with
      |none=>rfl
      |some q =>
       obtain⟨i',z'⟩:=q
       have hm':=U0z hz
       have:i'≠ai:=fun e=>by
        have:=H.ai _ hm' _ had e
        exact hk (by cases this;rfl)
       by_cases hl:Lst listed i'<;>simp[hl,this]
    have hBd:zB als (Lst listed) d=none:=by
     unfold zB
     rw[Q1m H.ad had]
     simp[hi2]
    have hw:wop P (.al d zc) (fun s'=>s'=s.wb (zB als (Lst (listed.setIfInBounds ai true)))) (s.wb (zB als (Lst listed))):=by
     simp only[wop]
     rw[Y11 hBd fun j cs hj=>Q1j (fun a ha=>(H.al a ha).2.2.1) hj d]
     refine Jm (fun t=>?_) (fun t=>?_) (by simp only[St.rst,Prod.mk.injEq];exact⟨funext fun t=>by
      simp only[St.set,St.wb,St.kill]
      by_cases ht:t=d
      .rw[yd ht,ht,Fd.rw]
      .simp[ht],rfl,rfl,rfl⟩)
     .simp only[St.set,upd,St.wb,hzB,St.kill]
      by_cases ht:t=d
      .simp[ht]
      .simp only[ye ht,Fd.e t]
     .simp only[St.set,St.wb,hzB,St.kill,W0v d hpl]
      by_cases ht:t=d
      .simp[ht]
      .simp only[ye ht]
       cases zB als (Lst listed) t with
       |some cs=>rfl
       |none =>
        simp only
        cases hb:s.bx t with
        |none=>rfl
        |some cs=>simp[Fd.bd t cs hb]
    refine U02 ho ?_
    refine Vq (fun g' s' a' w' I' h'=>?_) hch I hw
    subst h'
    refine ih _ p sv' g' s a' w' (by simpa using hs) hclo' hm' (Ye (by omega) hi2 hc) F ?_ I'
    rw[eL]
    have nit:∀(j':Nat) (it':ZI),items[j']?=some it'->it'.1≠ai:=fun j' it' hj'=>(hno it' (yE hj')).1
    exact⟨z'.bx,z'.rw,fun j' it' hj' hle hl=>hl.elim (z'.hi j' it' hj' hle) (nit j' it' hj'),fun j' it' hj' hlt hx=>.inl (z'.ef j' it' hj' hlt hx),fun t ht=>z'.same t fun j' it' hj' hlt hn=>ht j' it' hj' hlt (fun h=>h.elim hn (nit j' it' hj')),
     fun j' it' hj' hlt hn=>z'.pen j' it' hj' hlt (fun h=>hn (.inl h)),z'.go⟩
   obtain⟨_,o',ho',hch,hkind,hsem⟩:=H.item j it hj
   rw[hji]at ho'
   rw[ho]at ho';cases ho'
   obtain⟨hrd,hE⟩:=hsem (Lst listed) hclo he
   have hdn:it.2.2.dst<c.nt:=by
    have hch':=hch
    unfold chk1 at hch'
    split at hch'
    .rename_i t want l' el
     simp only[yD]at hch'
     rw[el]
     exact(X0e hch'.1.1.2).1
    .simp only[yD]at hch'
     exact(X0e hch'.1.2).1
   have other:∀(j':Nat) (it':ZI),items[j']?=some it'->it'.1=i->j'=j/\it'=it:=fun j' it' hj' e=>by
    have:=H.inj j' j it' it hj' hj (by rw[e,hji])
    subst this;rw[hj]at hj';cases hj';exact⟨rfl,rfl⟩
   have jp:¬ p<j:=fun hlt=>by
    rcases hp with h|⟨itp,h1,h2⟩
    .have:=(yB hj).1;omega
    .exact z'.hi p itp h1 (yV _) (hE p itp h1 h2 hlt)
   refine U02 ho ?_
   rcases Nat.lt_or_ge j p with hjp|hjp
   ·-- a pending pure operation
    have hnl:¬ Lst listed it.1:=by rw[hji];exact hi2
    have hf:it.2.1=false:=by
     cases hx:it.2.1 with
     |false=>rfl
     |true=>exact absurd (z'.ef j it hj hjp hx) hnl
    obtain⟨p1,p2,p3⟩:=z'.pen j it hj hjp hnl
    have hnd:∀a∈als,a.2.1≠it.2.2.dst/\a.2.1∉rdz it:=fun a ha=>by
     obtain⟨_,q1,q2⟩:=(H.al a ha).2.2.2 it (yE hj)
     exact⟨fun e=>q1 e.symm,q2⟩
    have hw:wop P it.2.2 (fun s'=>s'=(s.set it.2.2.dst (sv'.e it.2.2.dst)).wb (zB als (Lst listed))) (s.wb (zB als (Lst listed))):=by
     refine p3 _ (fun t ht=>(show _=sv'.e t from ?_)) (BxA.all (fun k cs hk=>?_) fun _ _ k r _ hr=>by replace hr:sv'.rw k=some r:=hr;rw[show sv'.rw=s.rw from congrArg Prod.fst z'.rw]at hr;exact hr) _ (X00 (zBn _ _ fun a ha=>(hnd a ha).1))
     .rw[wb_e (zBn _ _ fun a ha e=>(hnd a ha).2 (by rw[VT hf,e];exact ht))]
      refine(z'.same t fun j' it' hj' hlt' hn' e=>?_).symm
      subst e
      exact hn' (hrd j' it' hj' (by rw[VT hf];exact ht)).1
     .replace hk:=Q0d hk
      rw[z'.bx]at hk
      have hb:zB als (Lst listed) k=none:=by
       cases hb:zB als (Lst listed) k with
       |none=>rfl
       |some c0 =>
        obtain⟨a,ha,e,_⟩:=zBs _ k (by rw[hb];rfl)
        have:=(F a ha).bx
        rw[e,hk]at this;cases this
      simp only[St.wb,hb];exact hk
    have hzL:zB als (Lst (listed.setIfInBounds i true))=zB als (Lst listed):=by
     funext k
     rw[eL]
     unfold zB
     cases hz:zl als k with
     |none=>rfl
     |some q =>
      obtain⟨i',z0⟩:=q
      have:i'≠i:=fun e=>by
       have:=((H.al _ (U0z hz)).2.2.2 it (yE hj)).1
       exact this (by rw[hji,e])
      by_cases hl:Lst listed i'<;>simp[hl,this]
    refine Vq (fun g' s' a' w' I' h'=>?_) hch I hw
    subst h'
    refine ih _ p sv' g' (s.set it.2.2.dst (sv'.e it.2.2.dst)) a' w' (by simpa using hs) hclo' hm' (Ye (by omega) hi2 hc) (fun a ha=>(F a ha).set (J1m (by have:=adt a ha;omega) (by rw[z'.bx];exact(F a ha).bx) (by rw[show sv'.rw=s.rw from congrArg Prod.fst z'.rw];exact(F a ha).rw) p1)) ?_ (by rw[hzL];exact I')
    rw[eL]
    refine⟨z'.bx,z'.rw,fun j' it' hj' hle hl=>?_,fun j' it' hj' hlt hx=>.inl (z'.ef j' it' hj' hlt hx),fun t ht=>?_,fun j' it' hj' hlt hn=>z'.pen j' it' hj' hlt (fun h=>hn (.inl h)),z'.go⟩
    .rcases hl with hl|hl
     .exact z'.hi j' it' hj' hle hl
     .have:=(other j' it' hj' hl).1;omega
    .by_cases htd:t=it.2.2.dst
     .subst htd;rw[J0m]
     .have:(s.set it.2.2.dst (sv'.e it.2.2.dst)).e t=s.e t:=by simp[St.set,upd,htd]
      rw[this]
      refine z'.same t fun j' it' hj' hlt hn e=>?_
      by_cases hx:it'.1=i
      .obtain⟨_,rfl⟩:=other j' it' hj' hx;exact htd e.symm
      .exact ht j' it' hj' hlt (fun h=>h.elim hn hx) e
   ·-- the next operation that changes the state
    have hjp':j=p:=by omega
    subst hjp'
    have hEf:it.2.1=true:=by
     rcases hp with h|⟨itp,h1,h2⟩
     .have:=(yB hj).1;omega
     .rw[hj]at h1;cases h1;exact h2
    have hgo:=z'.go
    have hlt:=(yB hj).1
    rw[List.drop_eq_getElem_cons hlt,(yB hj).2]at hgo
    obtain⟨i0,f0,l0⟩:=it
    simp only at hEf hji hch hkind hdn hrd
    subst hEf
    simp only[List.map_cons,Vz]at hgo
    simp only[yb]at hkind
    classical
    let pd:Nat->Option AV:=fun t=>if ∃(j':Nat) (it':ZI),items[j']?=some it'/\j'<j/\¬ Lst listed it'.1/\it'.2.2.dst=t then some (sv'.e t)else none
    have hpd:∀t v,pd t=some v->∃(j':Nat) (it':ZI),items[j']?=some it'/\j'<j/\¬ Lst listed it'.1/\it'.2.2.dst=t/\v=sv'.e t:=fun t v h=>by
     simp only[pd]at h
     split at h
     .rename_i hx
      obtain⟨j',it',q1,q2,q3,q4⟩:=hx
      exact⟨j',it',q1,q2,q3,q4,(Option.some.inj h).symm⟩
     .cases h
    have esv:sv'=s.ov pd:=by
     refine Jm (fun t=>?_) (fun t=>by rw[z'.bx];rfl) z'.rw
     simp only[St.ov,pd]
     split
     .rfl
     .rename_i hx
      exact z'.same t fun j' it' hj' hlt' hn e=>hx ⟨j',it',hj',hlt',hn,e⟩
    have pdof:∀(j':Nat) (it':ZI),items[j']?=some it'->j'<j->¬ Lst listed it'.1->pd it'.2.2.dst=some (sv'.e it'.2.2.dst):=fun j' it' h1 h2 h3=>yd ⟨j',it',h1,h2,h3,rfl⟩
    rw[esv]at hgo
    have hgo':=eff (c:=cb) (l:=l0) (hcb _ (yE hj)) (fun ck e=>hst ck e _ (yE hj) rfl) hkind (by omega) (fun t v hv=>by
     obtain⟨j',it',q1,q2,q3,q4,q5⟩:=hpd t v hv
     refine⟨fun hr=>q3 (hrd j' it' q1 (by rw[q4];exact hr)).1,fun e=>?_,by rw[q5,← q4,← J1c z'.bx (congrArg Prod.fst z'.rw)];exact(z'.pen j' it' q1 q2 q3).1⟩
     have:=H.dst j' j it' _ q1 hj (by rw[q4,e])
     omega) hgo
    have hzL:zB als (Lst (listed.setIfInBounds i true))=zB als (Lst listed):=by
     funext k
     rw[eL]
     unfold zB
     cases hz:zl als k with
     |none=>rfl
     |some q =>
      obtain⟨i',z0⟩:=q
      have:i'≠i:=fun e=>by
       have:=((H.al _ (U0z hz)).2.2.2 _ (yE hj)).1
       exact this (by rw[e];exact hji)
      by_cases hl:Lst listed i'<;>simp[hl,this]
    have hB:=effB (A:=fun k=>if ∃a∈als,a.2.1=k then some []else none) (B:=zB als (Lst listed)) hkind (by omega) (fun k hk=>by
      obtain⟨a,ha,e,_⟩:=zBs _ k hk
      rw[yd ⟨a,ha,e⟩];rfl) (fun k hk=>by
      have hk':∃a∈als,a.2.1=k:=Classical.byContradiction fun hn=>by rw[ye hn]at hk;cases hk
      obtain⟨a,ha,rfl⟩:=hk'
      obtain⟨_,q1,q2⟩:=(H.al a ha).2.2.2 _ (yE hj)
      exact⟨by have:=adt a ha;omega,F a ha,q2,fun e=>q1 e.symm⟩) (fun k cs hb j=>Q1j (fun a ha=>(H.al a ha).2.2.1) hb j) hgo'
    refine Vq (fun g' s1' a' w' I' h'=>?_) hch I hB
    obtain⟨s',es',⟨h1',h2'⟩,hF⟩:=h'
    subst es'
    refine ih _ (j+1) (s'.ov pd) g' s' a' w' (by simpa using hs) hclo' hm' (Ye (by omega) hi2 hc) (fun a ha=>hF a.2.1 (by rw[yd ⟨a,ha,rfl⟩];rfl)) ?_ (by rw[hzL];exact I')
    rw[eL]
    have ebO:bO sv'=bO s:=funext fun k=>by simp only[bO,z'.bx]
    have sveq:∀t,t≠l0.dst->kfz cb sv' (sv'.e t)=true->(s'.ov pd).e t=sv'.e t:=fun t ht hf=>by
     cases hx:pd t with
     |some v =>
      obtain⟨_,_,_,_,_,_,q5⟩:=hpd t v hx
      simp only[St.ov,hx,Option.getD_some];exact q5
     |none =>
      simp only[St.ov,hx,Option.getD_none]
      have e1:sv'.e t=s.e t:=by rw[esv];simp only[St.ov,hx,Option.getD_none]
      rw[e1,J1c z'.bx (congrArg Prod.fst z'.rw)]at hf
      rw[e1]
      exact h2'.e t ht hf
    have sveq2:L0j l0=true->∀t,t≠l0.dst->(s'.ov pd).e t=sv'.e t:=fun hs t ht=>by
     cases hx:pd t with
     |some v =>
      obtain⟨_,_,_,_,_,_,q5⟩:=hpd t v hx
      simp only[St.ov,hx,Option.getD_some];exact q5
     |none =>
      simp only[St.ov,hx,Option.getD_none]
      have e1:sv'.e t=s.e t:=by rw[esv];simp only[St.ov,hx,Option.getD_none]
      rw[e1]
      exact h2'.sf hs t ht
    have pureof:∀(j':Nat) (it':ZI),items[j']?=some it'->j'<j->¬ Lst listed it'.1->it'.2.1=false:=fun j' it' q1 q2 q3=>by
     cases hx:it'.2.1 with
     |false=>rfl
     |true=>exact absurd (z'.ef j' it' q1 q2 hx) q3
    refine⟨rfl,rfl,fun j' it' hj' hle hl=>?_,fun j' it' hj' hlt' hx=>?_,fun t ht=>?_,fun j' it' hj' hlt' hn=>?_,h1'⟩
    .rcases hl with hl|hl
     .exact z'.hi j' it' hj' (by omega) hl
     .have:=(other j' it' hj' hl).1;omega
    .rcases Nat.lt_or_ge j' j with h|h
     .exact .inl (z'.ef j' it' hj' h hx)
     .have:j'=j:=by omega
      subst this;rw[hj]at hj';cases hj';exact .inr hji
    .have:pd t=none:=by
      cases hx:pd t with
      |none=>rfl
      |some v =>
       obtain⟨j',it',q1,q2,q3,q4,_⟩:=hpd t v hx
       refine absurd q4 (ht j' it' q1 (by omega) (fun h=>h.elim q3 fun h=>?_))
       have:=(other j' it' q1 h).1;omega
     simp only[St.ov,this,Option.getD_none]
    .have hj'j:j'<j:=by
      rcases Nat.lt_or_ge j' j with h|h
      .exact h
      .have:j'=j:=by omega
       subst this;rw[hj]at hj';cases hj';exact absurd (.inr hji) hn
     have hn':¬ Lst listed it'.1:=fun h=>hn (.inl h)
     obtain⟨p1,p2,p3⟩:=z'.pen j' it' hj' hj'j hn'
     have hd:it'.2.2.dst≠l0.dst:=fun e=>by have:=H.dst j' j it' _ hj' hj e;omega
     have hr:l0.dst∉it'.2.2.rds:=fun h=>by
      have:=H.before hj' hj (by rw[VT (pureof j' it' hj' hj'j hn')];exact h)
      omega
     rw[sveq _ hd p1]
     have bm:∀k,bO sv' k=true->bO (s'.ov pd) k=true:=fun k hk=>h2'.b k (by rw[← ebO];exact hk)
     have ert:∀t∈it'.2.2.rds,(s'.ov pd).e t=sv'.e t:=fun t ht=>by
      have hne:t≠l0.dst:=fun e=>hr (by rw[← e];exact ht)
      rcases p2 with p2|p2
      .exact sveq t hne (p2 t ht)
      .exact sveq2 (p2 j _ hj (by omega) rfl) t hne
     have bA:BxA cb sv' (s'.ov pd):=BxA.congr z'.bx (congrArg Prod.fst z'.rw) (BxA.congr2 (s':=s') (t:=s'.ov pd) rfl rfl h2'.bx)
     have rm:∀ck,cb=.s ck->∀k,rS ck sv' k=true->rS ck (s'.ov pd) k=true:=fun ck e=>by subst e;exact bA.rS
     refine⟨W0q bm rm p1,p2.imp (fun p2 t ht=>by rw[ert t ht];exact W0q bm rm (p2 t ht)) (fun p2 j' it' h1 h2=>p2 j' it' h1 (by omega)),fun s'' q1 q2 K' hK'=>?_⟩
     refine p3 s'' (fun t ht=>by rw[q1 t ht];exact ert t ht) (BxA.trans (fun k hk=>by
      unfold bO at hk ⊢
      cases hx:(sv'.hide ow).bx k with
      |none=>rw[hx]at hk;cases hk
      |some cs =>
       have hb:=bm k (by unfold bO;rw[Q0d hx];rfl)
       have hc:ow.contains k=false:=by
        cases hc:ow.contains k with
        |false=>rfl
        |true=>rw[X1i (List.contains_iff_mem.1 hc)]at hx;cases hx
       simp only[St.hide,hc];exact hb) bA.hide q2) K' hK'
theorem M1k{id:Nat}{g:Gh}{s:St}{a:Act}{w:World}{K0:St->Prop}(hmo:P.follows .mixedOrders=true)(hc:chkZ P c.nt ops ow als items tl=true)(hk0:∀s',K0 s'->(∀d∈ow,s'.e d=.ptr d 0)/\wops P tl K (alZ s' als))(hK:∀g' s' a' w',Inv c g' s' a' w'->K s'->Q' .normal a' w')
    (I:Inv c g s a w) (h:Vz P (zcOf (items.map Prod.snd)) ow (items.map Prod.snd) K0 (s.kills (als.map (·.2.1)))):(Code.region id ops true).wp P Q' a w:=by
  have H:=Y1S hc
  refine wp_region_any hmo ?_
  have hnone:Lst (Array.replicate ops.size false)=fun _=>False:=by
    funext j
    apply propext
    simp only[Lst,Array.getD_eq_getD_getElem?,Array.getElem?_replicate,iff_false]
    split<;>simp
  have hb:(s.kills (als.map (·.2.1))).wb (zB als fun _=>False)=s.kills (als.map (·.2.1)):=by
    refine Jm (fun t=>?_) (fun t=>?_) rfl
    · have:zB als (fun _=>False) t=none:=by unfold zB;split<;>simp
      exact wb_e this
    · have:zB als (fun _=>False) t=none:=by unfold zB;split<;>simp
      simp only[St.wb,this]
  have hcb:∀it∈items,isCm it.2.2=true->zcOf (items.map Prod.snd)≠.f:=fun it hi hm e=>by
    have:=U1M e it.2 (List.mem_map.2 ⟨it,hi,rfl⟩)
    rw[hm]at this;cases this
  have hst:∀ck,zcOf (items.map Prod.snd)=.s ck->∀it∈items,it.2.1=true->U0n it.2.2=true/\∀d f xs,it.2.2=.cl d f xs->∀k∈clKs d,k∈ck:=fun ck e it hi hf =>
    ⟨L1o e it.2 (List.mem_map.2 ⟨it,hi,rfl⟩) hf,fun d f xs el=>by rw[Y1E e];exact V1C (f:=it.2.1) (List.mem_map.2 ⟨it,hi,by rw[← el]⟩)⟩
  refine any_z hk0 hcb hst H hK ops.size _ 0 (s.kills (als.map (·.2.1))) g (s.kills (als.map (·.2.1))) a _ (by simp) ?_ ?_ ?_ (fun a ha=>V0y (List.mem_map.2 ⟨a,ha,rfl⟩)) ?_ (by rw[hnone,hb];exact(I.kills _).drawn (w.drawn+1))
  · rw[hnone];intro i o _ hi;exact hi.elim
  · rw[hnone];intro j hj;exact hj.elim
  · simp[Array.toList_replicate]
  · rw[hnone]
    exact⟨rfl,rfl,fun _ _ _ _ h=>h,fun j it _ h=>by omega,fun _ _=>rfl,fun j it _ h=>by omega,by simpa using h⟩
end
end
section
inductive Hn|d|n(sz:Nat)|z(k:Nat)|t|r|f|g|l(hs:List Hn)
structure GW where
 te:List (Nat×Hn)
 tb:List (Nat×List Hn)
 tr:List (Nat×Option Nat×Nat)
 fz:List Nat
def lk{α:Type}:List (Nat×α)->Nat->Option α
  |[],_=>none
  | (k,v)::l,i=>match Nat.beq i k with
    |true=>some v
    |false=>lk l i
def nkey:List (Nat×Option Nat×Nat)->Nat->Option Nat
  |[],_=>none
  | (k,some k0,_)::l,i=>match Nat.beq i k0 with
    |true=>some k
    |false=>nkey l i
  | (_,none,_)::l,i=>nkey l i
def GW.fr(G:GW)(k:Nat):Option Nat:=nkey G.tr k
def GW.fb(G:GW)(k:Nat):Option Nat:=match lk G.tb k with|some _=>some k|none=>none
def inL(k:Nat):List Nat->Bool
 |[]=>false
 |j::l=>match Nat.beq k j with
  |true=>true
  |false=>inL k l
def cvt1(fb fr:Nat->Option Nat)(zr:Nat->Bool)(rr:Nat->Option Row)(h:Hn)(a:AV):AV:=match h,a with
 |.f,.sref k=>match rr k with
  |some r=>.sl .nw r.sz r.es
  |none=>.bad
 |.g,.sref k=>match rr k with
  |some r=>.sl .rd r.sz r.es
  |none=>.bad
 |.n sz,.nl=>.sl .nw sz []
 |.z k,.nl=>match zr k with
  |true=>.sref k
  |false=>.bad
 |.t,.sl .nw sz es=>.sl .rd sz es
 |.r,.sl .nw sz es=>.sl .rd sz (rdtL es)
 |.r,.sl .rd sz es=>.sl .rd sz (rdtL es)
 |_,a=>a.mp fb fr
def cvt1L(fb fr:Nat->Option Nat)(zr:Nat->Bool)(rr:Nat->Option Row):List Hn->List AV->List AV
 |h::hs,a::l=>cvt1 fb fr zr rr h a::cvt1L fb fr zr rr hs l
 |[],a::l=>a.mp fb fr::cvt1L fb fr zr rr [] l
 |_,[]=>[]
def cvt2(fb fr:Nat->Option Nat)(zr:Nat->Bool)(rr:Nat->Option Row)(h:Hn)(a:AV):AV:=match h,a with
 |.l hs,.agg cs=>.agg (cvt1L fb fr zr rr hs cs)
 |.l hs,.tup cs=>.tup (cvt1L fb fr zr rr hs cs)
 |h,a=>cvt1 fb fr zr rr h a
def GW.zr(G:GW)(k:Nat):Bool:=match lk G.tr k with|some (none,_)=>true|_=>false
def St.shs(s:St)(ks:List Nat):St:={ s with rw:=fun k=>match inL k ks with|true=>(s.rw k).map fun r=>{ r with sh:=true }|false=>s.rw k }
def St.rr(s:St)(ks:List Nat)(k:Nat):Option Row:=match inL k ks with|true=>s.rw k|false=>none
def St.gw0(s:St)(G:GW):St where
 e:=fun i=>match lk G.te i with
  |some h=>cvt2 G.fb G.fr G.zr (s.rr G.fz) h (s.e i)
  |none=>.bad
 bx:=fun k=>match lk G.tb k with
  |some hs=>(s.bx k).map (cvt1L G.fb G.fr G.zr (s.rr G.fz) hs)
  |none=>none
 rw:=fun k=>match lk G.tr k with
  |some (some k0,_)=>s.rw k0
  |some (none,sz)=>some ⟨sz,[],false⟩
  |none=>none
 nx:=s.nx
 my:=s.my
 kn:=s.kn
def St.gw(s:St)(G:GW):St:=(s.shs G.fz).gw0 G
def J1s:List Nat->Bool
 |[]=>true
 |k::ks=>ks.all (fun j=>!Nat.beq j k)&&J1s ks
def trOk:List (Nat×Option Nat×Nat)->Bool
  |[]=>true
  | (k,o,_)::l=>(match o with
    |some k0=>Nat.ble 1000000000 k&&Nat.beq k k0||!Nat.ble 1000000000 k
    |none=>!Nat.ble 1000000000 k)&&trOk l
def olds:List (Nat×Option Nat×Nat)->List Nat
  |[]=>[]
  | (_,some k,_)::l=>k::olds l
  | (_,none,_)::l=>olds l
def GW.ok(G:GW):Bool:=J1s (G.tr.map (·.1))&&J1s (olds G.tr)&&trOk G.tr
def nooL:List Hn->List AV->Prop
 |.r::hs,a::l=>a.noO/\nooL hs l
 |_::hs,_::l=>nooL hs l
 |_,_=>True
def noo(h:Hn)(a:AV):Prop:=match h,a with
 |.r,a=>a.noO
 |.l hs,.agg cs=>nooL hs cs
 |.l hs,.tup cs=>nooL hs cs
 |_,_=>True
def nooT(s:St):List (Nat×Hn)->Prop
  |[]=>True
  | (i,h)::l=>noo h (s.e i)/\nooT s l
def nooB(s:St):List (Nat×List Hn)->Prop
  |[]=>True
  | (k,hs)::l=>(match s.bx k with|some cs=>nooL hs cs|none=>True)/\nooB s l
section
variable{c:Cx}{g:Gh}{s:St}{a:Act}{w:World}
theorem U1c{α:Type}:∀{l:List (Nat×α)} {i:Nat} {v:α},lk l i=some v->(i,v)∈l
  |[],_,_,h=>by cases h
  | (k,u)::l,i,v,h=>by
    simp only[lk]at h
    split at h
    · rename_i e
      have:=yR e
      cases h;subst this;exact yJ ..
    · exact yH _ (U1c h)
theorem M13:∀{l:List (Nat×Option Nat×Nat)} {i k:Nat},nkey l i=some k->∃z,(k,some i,z)∈l
  |[],_,_,h=>by cases h
  | (j,some k0,z)::l,i,k,h=>by
    simp only[nkey]at h
    split at h
    · rename_i e
      have:=yR e
      cases h;subst this;exact⟨z,yJ ..⟩
    · obtain⟨z,h⟩:=M13 h;exact⟨z,yH _ h⟩
  | (j,none,z)::l,i,k,h=>by
    obtain⟨z,h⟩:=M13 (show nkey l i=some k from h);exact⟨z,yH _ h⟩
theorem U11:∀{l:List Nat},J1s l=true->l.Nodup
 |[],_=>.nil
 |k::ks,h=>by
  simp only[J1s,yD,List.all_eq_true,Bool.not_eq_true']at h
  refine List.nodup_cons.2 ⟨fun hk=>?_,U11 h.2⟩
  have:=h.1 k hk
  rw[Nat.beq_refl]at this;cases this
theorem X1Q{l:List (Nat×Option Nat×Nat)}(h:(l.map (·.1)).Nodup){k:Nat}{x y:Option Nat×Nat}(h1:(k,x)∈l)(h2:(k,y)∈l):x=y:=by
 induction l with
 |nil=>cases h1
 |cons p l ih =>
  rw[List.map_cons,List.nodup_cons]at h
  rcases yX h1 with e1|e1<;>rcases yX h2 with e2|e2
  .rw[← e1]at e2;exact(Prod.mk.inj e2).2.symm
  .exact absurd (List.mem_map.2 ⟨_,e2,by rw[← e1]⟩) h.1
  .exact absurd (List.mem_map.2 ⟨_,e1,by rw[← e2]⟩) h.1
  .exact ih h.2 e1 e2
theorem V0J:∀{l:List (Nat×Option Nat×Nat)} {k k0 z:Nat},(k,some k0,z)∈l->k0∈olds l
  | (_,some _,_)::l,k,k0,z,h=>by
    rcases yX h with e|e
    · cases e;exact yJ ..
    · exact yH _ (V0J e)
  | (_,none,_)::l,k,k0,z,h=>by
    rcases yX h with e|e
    · cases e
    · exact(V0J e:k0∈olds l)
theorem O1h:∀{l:List (Nat×Option Nat×Nat)},(olds l).Nodup->∀{k k' k0 z z':Nat},(k,some k0,z)∈l->(k',some k0,z')∈l->k=k'
  |[],_,_,_,_,_,_,h1,_=>by cases h1
  | (_,none,_)::l,h,_,_,_,_,_,h1,h2=>by
    rcases yX h1 with e1|e1
    · cases e1
    rcases yX h2 with e2|e2
    · cases e2
    exact O1h (l:=l) h e1 e2
  | (_,some _,_)::l,h,_,_,_,_,_,h1,h2=>by
    rw[olds,List.nodup_cons]at h
    rcases yX h1 with e1|e1<;>rcases yX h2 with e2|e2
    · cases e1;cases e2;rfl
    · cases e1;exact absurd (V0J e2) h.1
    · cases e2;exact absurd (V0J e1) h.1
    · exact O1h h.2 e1 e2
theorem Rd.toRd{t:Tag}{sz:Nat}{es:List AV}{v:Value}(ht:t.isOwn=false)(h:Rd w g.S g.T (.sl t sz es) v):Rd w g.S g.T (.sl .rd sz es) v:=by
 cases h with
 |sl0=>exact .sl0 _ _ _ _ fun _ e=>by cases e
 |sl t sz es b o c cv hcc hm hs hw ho h =>
  exact .sl .rd sz es b o c cv hcc hm hs (fun j a hj=>by obtain⟨h1,h2,h3,h4⟩:=hw j a hj;exact⟨h1,h2,h3,Gh.T_to_rd ht h4⟩) (fun _ e=>by cases e) h
theorem Rd.noRdt{x:AV}{v:Value}(h:Rd w g.S g.T x v):x.noO->Rd w g.S g.T x.rdt v:=by
 induction h with
 |bool b=>exact fun _=>.bool b
 |int k n=>exact fun _=>.int k n
 |str l=>exact fun _=>.str l
 |nl=>exact fun _=>.nl
 |sl0 t sz p q _=>intro _;rw[AV.rdt,rdtL];exact .sl0 _ _ _ _ fun _ e=>by cases e
 |agg cs vs hl h1 h ih =>
  intro hn
  have hn:=O9.1 hn
  rw[AV.rdt,X3]
  refine .agg _ vs (by simpa using hl) (fun y hy=>?_) (fun i y v hy hv=>?_)
  .obtain⟨y0,h0,rfl⟩:=yY hy;exact J0b (h1 y0 h0)
  .rw[yF]at hy
   obtain⟨y0,h0,rfl⟩:=yC hy
   exact ih i y0 v h0 hv (hn _ (yE h0))
 |fn f cs vs hl h ih =>
  intro hn
  have hn:=O9.1 hn
  rw[AV.rdt,X3]
  refine .fn f _ vs (by simpa using hl) (fun i y v hy hv=>?_)
  rw[yF]at hy
  obtain⟨y0,h0,rfl⟩:=yC hy
  exact ih i y0 v h0 hv (hn _ (yE h0))
 |ept e off b o cv hw h ih =>
  intro hn
  have hn:=O9.1 (J0L (x:=e) hn)
  rw[AV.rdt]
  have hget:∀(j:Nat) (y:AV),e.rdt.cells[j]?=some y->∃y0,e.cells[j]?=some y0/\y=y0.rdt:=by
   intro j y hy
   rw[V0e,yF]at hy
   obtain⟨y0,h0,rfl⟩:=yC hy
   exact⟨y0,h0,rfl⟩
  refine .ept _ off b o cv (fun j y hy=>?_) (fun j y hy=>?_)
  .obtain⟨y0,h0,rfl⟩:=hget j y hy
   exact⟨(hw j y0 h0).1,(hw j y0 h0).2.1,J0b (hw j y0 h0).2.2.1,(hw j y0 h0).2.2.2⟩
  .obtain⟨y0,h0,rfl⟩:=hget j y hy
   exact ih j y0 h0 (hn _ (yE h0))
 |sl t sz es b o cc cv hc hm hs hw ho h ih =>
  intro hn
  obtain⟨ht,hn⟩:=hn
  have hn:=O9.1 (O13 hn)
  rw[AV.rdt]
  have hlen:(rdtL es).length=es.length:=by rw[X3];simp
  have hget:∀(j:Nat) (y:AV),(flat (rdtL es))[j]?=some y->∃y0,(flat es)[j]?=some y0/\y=y0.rdt:=by
   intro j y hy
   rw[O0J,yF]at hy
   obtain⟨y0,h0,rfl⟩:=yC hy
   exact⟨y0,h0,rfl⟩
  rw[← hlen]
  refine .sl .rd sz _ b o cc cv (by omega) hm (fun e he=>?_) (fun j y hy=>?_) (fun _ h=>by cases h) (fun j y hy=>?_)
  .rw[X3]at he
   obtain⟨e0,h0,rfl⟩:=yY he
   rw[V0e,List.length_map];exact hs e0 h0
  .obtain⟨y0,h0,rfl⟩:=hget j y hy
   exact⟨(hw j y0 h0).1,(hw j y0 h0).2.1,J0b (hw j y0 h0).2.2.1,Gh.T_to_rd ht (hw j y0 h0).2.2.2⟩
  .obtain⟨y0,h0,rfl⟩:=hget j y hy
   exact ih j y0 h0 (hn _ (yE h0))
theorem Gv.nl_inv'{v:Value}(h:Gv w g s .nl v):v=.slice none 0 0:=by
 cases h with
 |data _ _ h=>cases h;rfl
def GW.gh(G:GW)(g:Gh):Gh:={ g with rv:=fun k=>match lk G.tr k with
 |some (some k0,_)=>g.rv k0
 |some (none,_)=>.slice none 0 0
 |none=>g.rv k }
theorem GW.gh_T(G:GW)(g:Gh):(G.gh g).T=g.T:=Gh.T_eq rfl rfl
theorem L1r{G:GW}{fb fr:Nat->Option Nat}{rr:Nat->Option Row}{h:Hn}{x:AV}:cvt1 fb fr G.zr rr h x=x.mp fb fr\/(x=.nl/\∃sz,cvt1 fb fr G.zr rr h x=.sl .nw sz [])\/(x=.nl/\∃k,G.zr k=true/\cvt1 fb fr G.zr rr h x=.sref k)\/cvt1 fb fr G.zr rr h x=.bad \/
  (∃t sz es,x=.sl t sz es/\t.isOwn=false/\cvt1 fb fr G.zr rr h x=.sl .rd sz es)\/(h=.r/\cvt1 fb fr G.zr rr h x=x.rdt)\/(∃k r,x=.sref k/\rr k=some r/\(cvt1 fb fr G.zr rr h x=.sl .nw r.sz r.es\/cvt1 fb fr G.zr rr h x=.sl .rd r.sz r.es)):=by
 unfold cvt1
 split
 .split
  .rename_i k _ r e;exact .inr (.inr (.inr (.inr (.inr (.inr ⟨k,r,rfl,e,.inl rfl⟩)))))
  .exact .inr (.inr (.inr (.inl rfl)))
 .split
  .rename_i k _ r e;exact .inr (.inr (.inr (.inr (.inr (.inr ⟨k,r,rfl,e,.inr rfl⟩)))))
  .exact .inr (.inr (.inr (.inl rfl)))
 .exact .inr (.inl ⟨rfl,_,rfl⟩)
 .split
  .rename_i e;exact .inr (.inr (.inl ⟨rfl,_,e,rfl⟩))
  .exact .inr (.inr (.inr (.inl rfl)))
 .exact .inr (.inr (.inr (.inr (.inl ⟨_,_,_,rfl,rfl,rfl⟩))))
 .exact .inr (.inr (.inr (.inr (.inr (.inl ⟨rfl,by rw[AV.rdt]⟩)))))
 .exact .inr (.inr (.inr (.inr (.inr (.inl ⟨rfl,by rw[AV.rdt]⟩)))))
 .exact .inl rfl
theorem O1l{G:GW}{fb fr:Nat->Option Nat}{rr:Nat->Option Row}{h:Hn}{x:AV}(hx:x.one=true\/x=.bad):(cvt1 fb fr G.zr rr h x).one=true\/cvt1 fb fr G.zr rr h x=.bad:=by
 rcases L1r (G:=G) (fb:=fb) (fr:=fr) (rr:=rr) (h:=h) (x:=x)with e|⟨_,_,e⟩|⟨_,_,_,e⟩|e|⟨_,_,_,_,_,e⟩|⟨_,e⟩|⟨_,_,_,_,e|e⟩
 .rw[e];exact M1w fb fr hx
 .rw[e];exact .inl rfl
 .rw[e];exact .inl rfl
 .exact .inr e
 .rw[e];exact .inl rfl
 .rw[e]
  rcases hx with hx|hx
  .exact .inl (J0b hx)
  .exact .inr (Q1v hx)
 .rw[e];exact .inl rfl
 .rw[e];exact .inl rfl
theorem J0d{fb fr:Nat->Option Nat}{zr:Nat->Bool}{rr:Nat->Option Row}:∀{hs:List Hn} {cs:List AV} {i:Nat} {x:AV},(cvt1L fb fr zr rr hs cs)[i]?=some x->∃h y,cs[i]?=some y/\x=cvt1 fb fr zr rr h y/\(h=.r->nooL hs cs->y.noO)
 |h::hs,a::l,0,x,e=>by
  simp only[cvt1L,List.getElem?_cons_zero,yI]at e
  exact⟨h,a,rfl,e.symm,fun q n=>by subst q;exact n.1⟩
 |h::hs,a::l,i+1,x,e=>by
  simp only[cvt1L,List.getElem?_cons_succ]at e
  obtain⟨h',y,e1,e2,e3⟩:=J0d e
  refine⟨h',y,by simpa using e1,e2,fun q n=>e3 q ?_⟩
  cases h<;>first|exact n.2|exact n
 |[],a::l,0,x,e=>by
  simp only[cvt1L,List.getElem?_cons_zero,yI]at e
  exact⟨.d,a,rfl,e.symm,fun q=>by cases q⟩
 |[],a::l,i+1,x,e=>by
  simp only[cvt1L,List.getElem?_cons_succ]at e
  obtain⟨h',y,e1,e2,e3⟩:=J0d e
  exact⟨h',y,by simpa using e1,e2,fun q _=>e3 q (by cases l<;>trivial)⟩
 |[],[],i,x,e=>by simp[cvt1L]at e
 |_::_,[],i,x,e=>by simp[cvt1L]at e
theorem L0d{fb fr:Nat->Option Nat}{zr:Nat->Bool}{rr:Nat->Option Row}:∀{hs:List Hn} {cs:List AV},(cvt1L fb fr zr rr hs cs).length=cs.length
 |_::_,_::_=>by simp[cvt1L,L0d]
 |[],_::_=>by simp[cvt1L,L0d]
 |[],[]=>rfl
 |_::_,[]=>rfl
theorem Y21(G:GW)(hk:G.ok=true):∀k0 k,G.fr k0=some k->∀r',(s.gw0 G).rw k=some r'->∃r,s.rw k0=some r/\r'.sz=r.sz/\(G.gh g).rv k=g.rv k0:=by
 simp only[GW.ok,yD]at hk
 intro k0 k h r' hr'
 obtain⟨z,hz⟩:=M13 h
 have e:lk G.tr k=some (some k0,z)\/lk G.tr k=none:=by
  cases e:lk G.tr k with
  |none=>exact .inr rfl
  |some y=>exact .inl (by rw[X1Q (U11 hk.1.1) (U1c e) hz])
 rcases e with e|e
 .simp only[St.gw0,e]at hr'
  exact⟨r',hr',rfl,by simp only[GW.gh,e]⟩
 .simp only[St.gw0,e]at hr';cases hr'
theorem Z1R(G:GW):∀k0 k,G.fb k0=some k->∀c',(s.gw0 G).bx k=some c'->∃c,s.bx k0=some c/\(G.gh g).bb k=g.bb k0:=by
 intro k0 k h c' hc'
 unfold GW.fb at h
 split at h
 .rename_i hs e
  cases h
  simp only[St.gw0,e]at hc'
  obtain⟨c0,h0,_⟩:=yC hc'
  exact⟨c0,h0,rfl⟩
 .cases h
theorem Gv.gmp(G:GW)(hk:G.ok=true){x:AV}{v:Value}(h:Gv w g s x v):Gv w (G.gh g) (s.gw0 G) (x.mp G.fb G.fr) v :=
 h.mp (g:=g) (g':=G.gh g) (fun _ _ h=>h) (by rw[GW.gh_T];exact TLe.refl) (fun _ _ _=>rfl) (Y21 G hk) (Z1R G)
theorem Gv.same(G:GW){x:AV}{v:Value}(h:Rd w g.S g.T x v):Gv w (G.gh g) (s.gw0 G) x v:=.data x v (by rw[GW.gh_T];exact h)
def Frz(g:Gh)(s:St)(ks:List Nat):Prop:=∀k r,inL k ks=true->s.rw k=some r->∀b,(g.rv k).ownBlock=some b->∀o,o<r.es.length*r.sz->g.S b o
theorem Gv.frz{G:GW}(I:Inv c g s a w)(hF:Frz g s G.fz){k:Nat}{r:Row}(h:s.rr G.fz k=some r){v:Value}(hv:Gv w g s (.sref k) v):Rd w g.S g.T (.sl .nw r.sz r.es) v:=by
 unfold St.rr at h
 split at h
 .rename_i hk
  rw[hv.sref_inv h,Gh.T_of]
  have q:=I.rws k r h
  exact YW q (fun b o hb ho=>hF k r hk h b hb o ho) .nw (fun b hb=>⟨(I.rwn k r h b hb).1.1,I.ow.rw k r h b hb⟩)
 .cases h
theorem Gv.cvt1(I:Inv c g s a w)(G:GW)(hF:Frz g s G.fz)(hk:G.ok=true){h:Hn}{x:AV}{v:Value}(hv:Gv w g s x v)(hn:h=.r->x.noO):Gv w (G.gh g) (s.gw0 G) (cvt1 G.fb G.fr G.zr (s.rr G.fz) h x) v:=by
 have hm:=hv.gmp G hk
 unfold Eng.cvt1
 split
 .split
  .rename_i r e;exact Gv.same G (hv.frz I hF e)
  .exact .bad _
 .split
  .rename_i r e;exact Gv.same G ((hv.frz I hF e).toRd rfl)
  .exact .bad _
 .rw[hv.nl_inv'];exact .data _ _ (.sl0 _ _ _ _ fun _ e=>by cases e)
 .split
  .rename_i e
   rw[hv.nl_inv']
   refine .sref _ _ rfl fun r hr=>?_
   unfold GW.zr at e
   split at e
   .rename_i z q;simp only[GW.gh,q]
   .cases e
  .exact .bad _
 .exact Gv.same G (hv.sl_inv.toRd rfl)
 .have:=hv.sl_inv.noRdt (hn rfl);rw[AV.rdt]at this;exact Gv.same G this
 .have:=hv.sl_inv.noRdt (hn rfl);rw[AV.rdt]at this;exact Gv.same G this
 .exact hm
theorem Gv.cvt1L(I:Inv c g s a w)(G:GW)(hF:Frz g s G.fz)(hk:G.ok=true){hs:List Hn}{cs:List AV}{vs:List Value}(hn:nooL hs cs)(h:∀(i:Nat) (x:AV) (v:Value),cs[i]?=some x->vs[i]?=some v->Gv w g s x v) :
  ∀(i:Nat) (x:AV) (v:Value),(cvt1L G.fb G.fr G.zr (s.rr G.fz) hs cs)[i]?=some x->vs[i]?=some v->Gv w (G.gh g) (s.gw0 G) x v:=by
 intro i x v hx hv
 obtain⟨h',y,e1,rfl,e3⟩:=J0d hx
 exact(h i y v e1 hv).cvt1 I G hF hk fun q=>e3 q hn
theorem Gv.cvt2(I:Inv c g s a w)(G:GW)(hF:Frz g s G.fz)(hk:G.ok=true){h:Hn}{x:AV}{v:Value}(hv:Gv w g s x v)(hn:noo h x):Gv w (G.gh g) (s.gw0 G) (cvt2 G.fb G.fr G.zr (s.rr G.fz) h x) v:=by
 unfold Eng.cvt2
 split
 .rename_i hs cs
  have key:∃vs:List Value,v=.agg vs.toArray/\cs.length=vs.length/\(∀a∈cs,a.one=true\/a=.bad)/\∀(i:Nat) (x:AV) (v:Value),cs[i]?=some x->vs[i]?=some v->Gv w g s x v:=by
   cases hv with
   |data _ _ h =>
    cases h with
    |agg _ vs hl h1 h=>exact⟨vs,rfl,hl,fun a ha=>.inl (h1 a ha),fun i x v hx hv=>.data _ _ (h i x v hx hv)⟩
   |agg _ vs hl h1 h=>exact⟨vs,rfl,hl,h1,h⟩
  obtain⟨vs,rfl,hl,h1,h⟩:=key
  refine .agg _ vs (by rw[L0d];exact hl) (fun y hy=>?_) (Gv.cvt1L I G hF hk hn h)
  obtain⟨i,hi⟩:=List.mem_iff_getElem?.1 hy
  obtain⟨h',y0,e1,rfl,_⟩:=J0d hi
  exact O1l (h1 y0 (yE e1))
 .rename_i hs cs
  cases hv with
  |data _ _ h=>cases h
  |tup _ vs hl h=>exact .tup _ vs (by rw[L0d];exact hl) (Gv.cvt1L I G hF hk hn h)
 .refine hv.cvt1 I G hF hk fun q=>?_
  subst q
  rename_i x _ _
  cases x<;>exact hn
theorem Y1x{G:GW}:∀{l:List (Nat×Hn)},nooT s l->∀{i:Nat} {h:Hn},lk l i=some h->noo h (s.e i)
  |[],_,_,_,e=>by cases e
  | (j,h0)::l,hn,i,h,e=>by
    simp only[lk]at e
    split at e
    · rename_i q
      have:=yR q
      cases e;subst this;exact hn.1
    · exact Y1x (G:=G) hn.2 e
theorem V1x{G:GW}:∀{l:List (Nat×List Hn)},nooB s l->∀{k:Nat} {hs:List Hn} {cs:List AV},lk l k=some hs->s.bx k=some cs->nooL hs cs
  |[],_,_,_,_,e,_=>by cases e
  | (j,h0)::l,hn,k,hs,cs,e,hc=>by
    simp only[lk]at e
    split at e
    · rename_i q
      have:=yR q
      cases e;subst this
      have h1:=hn.1
      rw[hc]at h1;exact h1
    · exact V1x (G:=G) hn.2 e hc
theorem Inv.gw0(I:Inv c g s a w)(G:GW)(hF:Frz g s G.fz)(hk:G.ok=true)(hnt:nooT s G.te)(hnb:nooB s G.tb):Inv c (G.gh g) (s.gw0 G) a w:=by
 have hk':=hk
 simp only[GW.ok,yD]at hk'
 have rowOf:∀k r',(s.gw0 G).rw k=some r'->(∃k0 z,(k,some k0,z)∈G.tr/\s.rw k0=some r'/\(G.gh g).rv k=g.rv k0)\/(r'.es=[]/\(G.gh g).rv k=.slice none 0 0):=by
  intro k r' h
  simp only[St.gw0]at h
  split at h
  .rename_i k0 z e;exact .inl ⟨k0,z,U1c e,h,by simp only[GW.gh,e]⟩
  .rename_i z e;cases h;exact .inr ⟨rfl,by simp only[GW.gh,e]⟩
  .cases h
 have boxOf:∀k cs',(s.gw0 G).bx k=some cs'->∃hs cs,lk G.tb k=some hs/\s.bx k=some cs/\cs'=cvt1L G.fb G.fr G.zr (s.rr G.fz) hs cs:=by
  intro k cs' h
  simp only[St.gw0]at h
  split at h
  .rename_i hs e
   obtain⟨c0,h0,rfl⟩:=yC h
   exact⟨hs,c0,e,h0,rfl⟩
  .cases h
 refine⟨I.defers,I.nt,I.fr,fun i=>?_,fun k cs h=>?_,fun k cs h=>?_,fun k r h=>?_,fun k r h b hb=>?_,fun k k' cs cs' h h' hne=>?_,fun k k' cs r h h'=>?_,fun k k' r r' h h' hne b hb=>?_,
  I.sw,I.nn,I.nx,fun k hk9=>⟨?_,(I.fix k hk9).2⟩,I.sm,I.sb,?_,I.uf,I.sd⟩
 .simp only[St.gw0]
  split
  .rename_i h e
   exact(I.tm i).cvt2 I G hF hk (Y1x (G:=G) hnt e)
  .exact .bad _
 .obtain⟨hs,c0,e,h0,rfl⟩:=boxOf k cs h
  obtain⟨vs,ty,h1,h2,h3⟩:=I.bxs k c0 h0
  refine⟨vs,ty,h1,by rw[L0d];exact h2,fun i x v hx hv=>?_⟩
  have hx':=hx
  obtain⟨h',y,e1,rfl,_⟩:=J0d hx
  exact⟨O1l (h3 i y v e1 hv).1,(h3 i y v e1 hv).2.1,Gv.cvt1L I G hF hk (V1x (G:=G) hnb e h0) (fun i x v hx hv=>(h3 i x v hx hv).2.2) i _ v hx' hv⟩
 .obtain⟨hs,c0,e,h0,_⟩:=boxOf k cs h
  exact I.bxn k c0 h0
 .rw[GW.gh_T]
  rcases rowOf k r h with⟨k0,z,_,h0,e⟩|⟨e1,e2⟩
  .rw[e];exact I.rws k0 r h0
  .rw[e2]
   refine⟨[],default,⟨by simp[e1],.inl ⟨rfl,by simp[e1]⟩⟩,by simp[e1],fun j x u hx hu=>by simp at hu⟩
 .rcases rowOf k r h with⟨k0,z,_,h0,e⟩|⟨e1,e2⟩
  .rw[e]at hb;exact I.rwn k0 r h0 b hb
  .rw[e2]at hb;cases hb
 .obtain⟨_,c0,_,h0,_⟩:=boxOf k cs h
  obtain⟨_,c0',_,h0',_⟩:=boxOf k' cs' h'
  exact I.dbb k k' c0 c0' h0 h0' hne
 .obtain⟨_,c0,_,h0,_⟩:=boxOf k cs h
  rcases rowOf k' r h' with⟨k0,z,_,h0',e⟩|⟨e1,e2⟩
  .rw[e];exact I.dbr k k0 c0 r h0 h0'
  .rw[e2];exact fun q=>by cases q
 .rcases rowOf k r h with⟨k0,z,m0,h0,e⟩|⟨e1,e2⟩
  .rw[e]at hb
   rcases rowOf k' r' h' with⟨k1,z1,m1,h1,e1⟩|⟨e1,e2⟩
   .rw[e1]
    refine I.drr k0 k1 r r' h0 h1 (fun q=>hne ?_) b hb
    subst q
    exact O1h (U11 hk'.1.2) m0 m1
   .rw[e2];exact fun q=>by cases q
  .rw[e2]at hb;cases hb
 .have key:∀{l:List (Nat×Option Nat×Nat)},trOk l=true->∀{k:Nat} {o:Option Nat} {z:Nat},(k,o,z)∈l->1000000000<=k->o=some k:=by
   intro l
   induction l with
   |nil=>intro _ _ _ _ h;cases h
   |cons p l ih =>
    obtain⟨k1,o1,z1⟩:=p
    intro h k o z hm hge
    simp only[trOk,yD]at h
    rcases yX hm with e|e
    .cases e
     have hb:Nat.ble 1000000000 k1=true:=Nat.ble_eq_true_of_le hge
     cases o1 with
     |none=>simp[hb]at h
     |some k0 =>
      simp only[hb,Bool.true_and,yL,Bool.or_false]at h
      rw[yR h.1]
    .exact ih h.2 e hge
  show(match lk G.tr k with|some (some k0,_)=>g.rv k0|some (none,_)=>.slice none 0 0|none=>g.rv k)=c.rv0 k
  split
  .rename_i k0 z e
   have:=key hk'.2 (U1c e) hk9
   cases this
   exact(I.fix k hk9).1
  .rename_i z e
   have:=key hk'.2 (U1c e) hk9
   cases this
  .exact(I.fix k hk9).1
 .refine I.ow.turn (g':=G.gh g) (s':=s.gw0 G) rfl (fun _ h=>h) (yV _) (fun _ _=>rfl) (fun k cs h=>?_) (fun k r h b hb=>?_)
  .obtain⟨_,c0,_,h0,_⟩:=boxOf k cs h
   exact I.ow.bx k c0 h0
  .rcases rowOf k r h with⟨k0,z,m0,h0,e⟩|⟨e1,e2⟩
   .rw[e]at hb;exact I.ow.rw k0 r h0 b hb
   .rw[e2]at hb;cases hb
theorem Inv.shs(I:Inv c g s a w):∀ks:List Nat,∃g',Inv c g' (s.shs ks) a w/\Frz g' (s.shs ks) ks
 |[]=>⟨g,I,by intro k r hk;cases hk⟩
 |k::ks=>by
  obtain⟨g1,I1,F1⟩:=Inv.shs I ks
  cases h:(s.shs ks).rw k with
  |none =>
   have e:s.shs (k::ks)=s.shs ks:=by
    have hn:s.rw k=none:=by
     simp only[St.shs]at h
     split at h
     .exact Option.map_eq_none_iff.1 h
     .exact h
    simp only[St.shs]
    congr 1
    funext j
    simp only[inL]
    by_cases hj:j=k
    .subst hj;simp[hn];split<;>rfl
    .rw[show Nat.beq j k=false from Bool.eq_false_iff.2 fun q=>hj (yR q)]
   rw[e]
   refine⟨g1,I1,fun j r hj hr b hb o ho=>?_⟩
   simp only[inL]at hj
   split at hj
   .rename_i q
    have:=yR q;subst this
    rw[h]at hr;cases hr
   .exact F1 j r hj hr b hb o ho
  |some r =>
   have e:s.shs (k::ks)={ s.shs ks with rw:=fun j=>if j=k then some { r with sh:=true } else(s.shs ks).rw j }:=by
    simp only[St.shs]
    congr 1
    funext j
    simp only[inL]
    by_cases hj:j=k
    .subst hj
     simp only[St.shs]at h
     simp only[Nat.beq_refl,yb]
     split at h
     .obtain⟨r0,h0,rfl⟩:=yC h;rw[h0];rfl
     .rw[h];rfl
    .rw[show Nat.beq j k=false from Bool.eq_false_iff.2 fun q=>hj (yR q),ye hj]
   rw[e]
   refine⟨_,I1.share h,fun j r' hj hr b hb o ho=>?_⟩
   simp only at hr
   by_cases hjk:j=k
   .subst hjk
    rw[yd rfl]at hr
    cases hr
    exact .inr ⟨hb,ho⟩
   .rw[ye hjk]at hr
    simp only[inL]at hj
    split at hj
    .rename_i q;exact absurd (yR q) hjk
    .exact .inl (F1 j r' hj hr b hb o ho)
theorem J1l{ks:List Nat}:∀{l:List (Nat×Hn)},nooT s l->nooT (s.shs ks) l
 |[],_=>trivial
 |_::_,h=>⟨h.1,J1l h.2⟩
theorem Z1m{ks:List Nat}:∀{l:List (Nat×List Hn)},nooB s l->nooB (s.shs ks) l
 |[],_=>trivial
 |_::_,h=>⟨h.1,Z1m h.2⟩
theorem Inv.gw(I:Inv c g s a w)(G:GW)(hk:G.ok=true)(hnt:nooT s G.te)(hnb:nooB s G.tb):∃g',Inv c g' (s.gw G) a w:=by
 obtain⟨g',I',hF⟩:=I.shs G.fz
 exact⟨_,I'.gw0 G hF hk (J1l hnt) (Z1m hnb)⟩
end
end
end Go.Proofs.YtpgaganbacipnaaGreat.Eng
