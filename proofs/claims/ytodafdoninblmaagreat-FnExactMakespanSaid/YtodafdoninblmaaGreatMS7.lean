/-
  Lemmas, part 7: the engine that steps through the code, the walks of functions, and the laws of what they compute.
-/
import Derived.Test.YtodafdoninblmaaGreatMS6
namespace Go.Proofs.YtodafdoninblmaaGreat.Eng
open Go Go.RowKit
section
section
variable{P:Program}{R:Ex->St->Prop}{k:List It}{σ:LS}
def HE.u(k:Nat)(h:Hint P (allG [])):HE P:=⟨k,[],some h,none⟩
def HE.c{f:Nat}{as:List AV}{res:AV}{rows:List Row}(k:Nat)(h:Snd P f as res rows):HE P:=.u k (.call f as as res rows (AEs.refl as) fun _=>h)
def HE.g(k:Nat)(gs:List (Bool×Bool))(h:Hint P (allG gs)):HE P:=⟨k,gs,some h,none⟩
def HE.w(k:Nat){a b:AV}(h:a=b):HE P:=⟨k,[],none,some ⟨a,b,fun _=>h⟩⟩
def ovH:List (Nat×Hn)->Nat->Hn
 |l,t=>match lk l t with
  |some h=>h
  |none=>.d
def ovB:List (Nat×List Hn)->Nat->List Hn
 |l,t=>match lk l t with
  |some h=>h
  |none=>[]
def ovR:List (Nat×Option Nat×Nat)->Nat->Option Nat×Nat
 |l,t=>match lk l t with
  |some h=>h
  |none=>(some t,0)
def gD(σ':LS)(te:List (Nat×Hn))(tb:List (Nat×List Hn))(tr:List (Nat×Option Nat×Nat))(fz:List Nat):GW where
 te:=σ'.te.map fun p=>(p.1,ovH te p.1)
 tb:=σ'.tb.map fun p=>(p.1,ovB tb p.1)
 tr:=σ'.tr.map fun p=>(p.1,ovR tr p.1)
 fz:=fz
structure Wh(P:Program)(R:Ex->St->Prop)(k:List It)(σ:LS):Prop where
 h:Vh P R k σ
structure Wg(P:Program)(R:Ex->St->Prop)(k:List It)(σ:LS):Prop where
 h:Vg P R k σ
theorem Zuu(n:Nat)(hs:List (HE P))(e:goE n k σ hs=some (hs.map HE.exp,hs.flatMap HE.ns))(h:Z2d (hs.flatMap HE.ns)->Wh P R (goK n k σ hs) (goS n k σ hs)):Wh P R k σ:=⟨Vh_go n hs e fun q=>(h q).h⟩
theorem Z4w{b:Bool}(hb:b=true)(e:cnB k σ=some b)(h1:Wh P R (cnT k) σ):Wh P R k σ:=⟨Zew hb e h1.h⟩
theorem Z6w{b:Bool}(hb:b=false)(e:cnB k σ=some b)(h1:Wh P R (cnF k) σ):Wh P R k σ:=⟨Zfw hb e h1.h⟩
theorem Zsn{k':List It}{σ':LS}(h:Wg P R k' σ')(te:List (Nat×Hn))(tb:List (Nat×List Hn))(tr:List (Nat×Option Nat×Nat))(fz:List Nat)(ek:k=k')(e:σ.gw (gD σ' te tb tr fz)=some σ'):Wh P R k σ:=⟨Vh_nx h.h _ ek e⟩
theorem Z5w{γ:Type}{b:Bool}{x y:Option γ}{r:γ}(H:(bif b then x else y)=some r)(e:cnB k σ=some b)(h1:x=some r->Wh P R (cnT k) σ)(h2:y=some r->Wh P R (cnF k) σ):Wh P R k σ :=
  ⟨Zwu e (fun q=>(h1 (bT q H)).h) fun q=>(h2 (bF q H)).h⟩
theorem Z3{γ:Type}{b:Bool}{x y:Option γ}{r:γ}(H:(bif b then x else y)=some r)(h1:x=some r->Wh P R (cnT k) σ)(h2:y=some r->Wh P R (cnF k) σ)(e:cnB k σ=some b:=by kernel_rfl):Wh P R k σ:=Z5w H e h1 h2
theorem Wh_o(h:Z2d []->Wh P R (goK 99 k σ ([]:List (HE P))) (goS 99 k σ ([]:List (HE P))))(e:goE 99 k σ ([]:List (HE P))=some ([],[]):=by kernel_rfl):Wh P R k σ:=Zuu 99 [] e h
theorem Zqc{ι γ:Type}{r:γ}(F:ι->Option γ)(n:Nat)(σJ:ι->LS)(h1:isG (sfx n k)=true)(h2:∀v,F v=some r->Wh P R (gwX (sfx n k)) (σJ v))(h:(∀v,F v=some r->Wg P R (sfx n k) (σJ v))->Wh P R k σ):Wh P R k σ :=
 h fun v H=>⟨Vg_of h1 (h2 v H).h⟩
theorem Zpc{α β γ:Type}{bd:α->Nat->β->(β->Option γ)->Option γ}{kk:β->Option γ}{l:List α}{b0:β}{r:γ}(σh:Nat->β->LS)(te:List (Nat×Hn))(tb:List (Nat×List Hn))(tr:List (Nat×Option Nat×Nat))(fz:List Nat)
    (hl:isLp k=true) (h0:σ.gw (gD (σh 0 b0) te tb tr fz)=some (σh 0 b0)) (H:rgl bd kk l 0 b0=some r)
    (hs:∀i x b I m (nx:β->Option γ),l[i]?=some x->i<l.length->bd x i b nx=some r ->
      (∀b',nx b'=some r->Wg P R (.lp I m::lpK k) (σh (i+1) b'))->Wh P R (.l (lpX k)::.lp I m::lpK k) (σh i b))
    (hd:∀b I m,kk b=some r->Wh P R (.l (lpX k)::.lp I m::lpK k) (σh l.length b)):Wh P R k σ :=
  ⟨Zcw σh _ hl h0 H (fun i x b I m q1 q2 q3 q4=>(hs i x b I m _ q1 q2 q3 fun b' q=>⟨q4 b' q⟩).h) fun b I m q=>(hd b I m q).h⟩
theorem Z1q{β γ:Type}{bd:β->(β->Option γ)->Option γ}{b0:β}{n:Nat}{r:γ}(σh:β->LS)(te:List (Nat×Hn))(tb:List (Nat×List Hn))(tr:List (Nat×Option Nat×Nat))(fz:List Nat)
    (hl:isLp k=true) (h0:σ.gw (gD (σh b0) te tb tr fz)=some (σh b0)) (H:whl bd n b0=some r)
    (hs:∀b I m (nx:β->Option γ),bd b nx=some r->(∀b',nx b'=some r->Wg P R (.lp I m::lpK k) (σh b'))->Wh P R (.l (lpX k)::.lp I m::lpK k) (σh b)):Wh P R k σ :=
  ⟨Zbw σh _ hl h0 H fun _ b I m q1 q2=>(hs b I m _ q1 fun b' q=>⟨q2 b' q⟩).h⟩
theorem Zkt{k':List It}{σ':LS}{s:St}(h:gwTo s σ')(hw:Vh P R (.l .ret::k') σ'):W P R (.l (.gw .ret)::k') s:=by
 obtain⟨G,h1,h2,h3,h4⟩:=h
 exact W_gw G h1 h2 h3 (hw _ h4)
def fzS(σ:LS)(te:List (Nat×Hn))(tb:List (Nat×List Hn))(fz:List Nat):LS:=match σ.gw (gD σ te tb [] fz)with
 |some σ'=>σ'
 |none=>σ
def fzE(k:List It)(σ:LS)(te:List (Nat×Hn))(tb:List (Nat×List Hn))(fz:List Nat):Bool:=match k with
 |.l (.gw _)::_=>match σ.gw (gD σ te tb [] fz)with
  |some _=>true
  |none=>false
 |_=>false
theorem Z7w(te:List (Nat×Hn))(tb:List (Nat×List Hn))(fz:List Nat)(e:fzE k σ te tb fz=true)(h:Wh P R (gwX k) (fzS σ te tb fz)):Wh P R k σ:=by
 unfold fzE at e
 split at e
 .rename_i x k'
  split at e
  .rename_i σ' e2
   refine⟨fun s H=>?_⟩
   obtain⟨G,h1,h2,h3,h4⟩:=Zoq H e2
   simp only[fzS,e2]at h
   exact W_gw G h1 h2 h3 (h.h _ h4)
  .cases e
 .cases e
def retG(k:List It)(rs:List Rv)(ks:List (Option Nat))(σ:LS)(G:GW)(res:AV)(rows:List Row):Option (AV×List Row×List (List AV)):=match k with
 |.l (.gw .ret)::_=>match σ.gw G with
  |some σ'=>retE rs ks σ' res rows
  |none=>none
 |_=>none
theorem ZAt{rs:List Rv}{res:AV}{rows:List Row}(te:List (Nat×Hn))(tb:List (Nat×List Hn))(tr:List (Nat×Option Nat×Nat))(fz:List Nat)(ks:List (Option Nat))(nws:List NW)
  (e:retG k rs ks σ ⟨te,tb,tr,fz⟩ res rows=some (res,rows,nws.map NW.es)):Wh P (post rs res rows) k σ:=by
 unfold retG at e
 split at e
 .rename_i k'
  split at e
  .rename_i σ' eg
   exact⟨fun s H=>Zkt (Zoq H eg) (Zdw (k:=.l .ret::k') ks nws rfl e)⟩
  .cases e
 .cases e
theorem snd_g{f:FuncId}{l:L}{rs:List Rv}{args:List AV}{res:AV}{rows:List Row}{n:Nat}(hc:ZPe P f n l rs=true)(hn:args.length=n)(hrd:rdtL args=args)
  (h:Wh P (post rs res rows) [.l l] (LS.arg args)):Snd P f args res rows:=snd_v hc hn hrd h.h
theorem lm{α:Type}(xs:List α)(e:α->AV):(xs.map e).length=xs.length:=List.length_map ..
theorem gm{α:Type}(e:α->AV){xs:List α}{j:Nat}{x:α}(h:xs[j]?=some x):(xs.map e)[j]?=some (e x):=by rw[yF,h];rfl
theorem ltT{i n:Nat}(h:i<n):decide ((i:Int)<(n:Int))=true:=by simpa using h
theorem ltF(n:Nat):decide ((n:Int)<(n:Int))=false:=by simp
theorem wi{i n:Nat}(k:IntKind)(hk:k=.i64)(h:i<n)(hn:n<=9223372036854775807):AV.int k (k.wrap ((i:Int)+1))=AV.int k ((i+1:Nat):Int):=by
 subst hk;rw[ZCq h hn]
def lenQ{α:Type}(xs:List α):Option Unit:=if xs.length<=9223372036854775807 then some ()else none
theorem Zmr{α:Type}{xs:List α}{u:Unit}(h:lenQ xs=some u):xs.length<=9223372036854775807:=by
 unfold lenQ at h
 split at h
 .assumption
 .cases h
theorem Zl{α:Type}{c:Bool}{a b:α}:(bif c then some a else some b)=some (bif c then a else b):=by cases c<;>rfl
theorem AEs.of{xs as':List AV}(h:rdtL xs=rdtL as'):AEs xs as':=by
 have hl:xs.length=as'.length:=by
  have:=congrArg List.length h
  simpa[Zs]using this
 refine⟨hl,fun w S i a a' v h1 h2 hr=>?_⟩
 have e:a.rdt=a'.rdt:=by
  have:=congrArg (fun l:List AV=>l[i]?) h
  simpa[Zs,yF,h1,h2]using this
 have:=hr.rdt (N':=TT) (fun _ _=>trivial)
 rw[e]at this
 exact Rd.unrdt _ this
end
theorem sI{α:Type}{a b:α}(h:some a=some b):a=b:=Option.some.inj h
theorem wE{P:Program}{k:List It}{σ:LS}{rs:List Rv}{res:AV}{rows:List Row}(te:List (Nat×Hn))(e:retG k rs [] σ ⟨te,[],[],[]⟩ res rows=some (res,rows,([]:List NW).map NW.es):=by kernel_rfl):Wh P (post rs res rows) k σ:=ZAt te [] [] [] [] [] e
theorem wN{P:Program}{k:List It}{σ:LS}{rs:List Rv}{res:AV}{rows:List Row}(te:List (Nat×Hn))(tb:List (Nat×List Hn))(tr:List (Nat×Option Nat×Nat))(fz:List Nat)(ks:List (Option Nat))(nws:List NW)(e:retG k rs ks σ ⟨te,tb,tr,fz⟩ res rows=some (res,rows,nws.map NW.es):=by kernel_rfl):Wh P (post rs res rows) k σ:=ZAt te tb tr fz ks nws e
theorem wR{P:Program}{R:Ex → St → Prop}{k:List It}{σ:LS}{α β γ:Type}{bd:α → Nat → β → (β → Option γ) → Option γ}{kk:β → Option γ}{l:List α}{b0:β}{r:γ}(σh:Nat → β → LS)(H:rgl bd kk l 0 b0=some r)
 (hs:∀i x b I m (nx:β → Option γ),l[i]?=some x → i<l.length → bd x i b nx=some r → (∀b',nx b'=some r → Wg P R (.lp I m::lpK k) (σh (i+1) b')) → Wh P R (.l (lpX k)::.lp I m::lpK k) (σh i b))
 (hd:∀b I m,kk b=some r → Wh P R (.l (lpX k)::.lp I m::lpK k) (σh l.length b)) (hl:isLp k=true:=by kernel_rfl) (h0:σ.gw (gD (σh 0 b0) [] [] [] [])=some (σh 0 b0):=by kernel_rfl):Wh P R k σ:=Zpc σh [] [] [] [] hl h0 H hs hd
theorem wW{P:Program}{R:Ex → St → Prop}{k:List It}{σ:LS}{β γ:Type}{bd:β → (β → Option γ) → Option γ}{b0:β}{n:Nat}{r:γ}(σh:β → LS)(H:whl bd n b0=some r)
 (hs:∀b I m (nx:β → Option γ),bd b nx=some r → (∀b',nx b'=some r → Wg P R (.lp I m::lpK k) (σh b')) → Wh P R (.l (lpX k)::.lp I m::lpK k) (σh b)) (hl:isLp k=true:=by kernel_rfl) (h0:σ.gw (gD (σh b0) [] [] [] [])=some (σh b0):=by kernel_rfl):Wh P R k σ:=Z1q σh [] [] [] [] hl h0 H hs
theorem wT{P:Program}{R:Ex → St → Prop}{k:List It}{σ:LS}{k':List It}{σ':LS}(h:Wg P R k' σ')(ek:k=k':=by kernel_rfl)(e:σ.gw (gD σ' [] [] [] [])=some σ':=by kernel_rfl):Wh P R k σ:=Zsn h [] [] [] [] ek e
theorem wG{P:Program}{R:Ex → St → Prop}{k:List It}{σ:LS}(hs:List (HE P))(h:Z2d (hs.flatMap HE.ns) → Wh P R (goK 99 k σ hs) (goS 99 k σ hs))(e:goE 99 k σ hs=some (hs.map HE.exp,hs.flatMap HE.ns):=by kernel_rfl):Wh P R k σ:=Zuu 99 hs e h
theorem wP{P:Program}{R:Ex → St → Prop}{k:List It}{σ:LS}(h:Wh P R (goK 99 k σ ([]:List (HE P))) (goS 99 k σ ([]:List (HE P))))(e:goE 99 k σ ([]:List (HE P))=some ([],[]):=by kernel_rfl):Wh P R k σ:=Zuu 99 [] e fun _=>h
theorem wt{P:Program}{R:Ex → St → Prop}{k:List It}{σ:LS}{b:Bool}(hb:b=true)(h1:Wh P R (cnT k) σ)(e:cnB k σ=some b:=by kernel_rfl):Wh P R k σ:=Z4w hb e h1
theorem wf{P:Program}{R:Ex → St → Prop}{k:List It}{σ:LS}{b:Bool}(hb:b=false)(h1:Wh P R (cnF k) σ)(e:cnB k σ=some b:=by kernel_rfl):Wh P R k σ:=Z6w hb e h1
theorem wS{P:Program}{f:FuncId}{args:List AV}{res:AV}{rows:List Row}(l:L)(rs:List Rv)(h:Wh P (post rs res rows) [.l l] (LS.arg args))(hc:ZPe P f args.length l rs=true:=by kernel_rfl)(hrd:rdtL args=args:=by simp):Snd P f args res rows:=snd_g hc rfl hrd h
def sR(l:List LOp)(x:L):L:=.seq (.reg l) x
def gR:L:=.gw .ret
def mV(d x:Nat):LOp:=.mv d (.t x)
def lD(d x n:Nat)(b:Bool):LOp:=.ld d (.t x) n b
def fA(d x n:Nat):LOp:=.fa d (.t x) n
def iA(d x y n:Nat):LOp:=.ia d (.t x) (.t y) n
def bI(d:Nat)(o:BinOp)(x y:Nat):LOp:=.bi d o (.t x) (.t y)
def kI(n:Int):X:=.c (.int .i64 n)
def tL(l:List Nat):List X:=l.map .t
def cQ(d f:Nat)(l:List Nat):LOp:=.cq d f (tL l)
def rE(d:Nat)(x:X):L:=.reg [.mv d x]
def eX(d x i:Nat):LOp:=.ex d (.t x) i
def cB(n:Bool):X:=.c (.bool n)
end
section
def updE(σ:LS):Nat->List (Nat×List AV)->List Bool->Option (List (Option (List AV)))
 |_,[],[]=>some []
 |i,(sz,_)::l,u::us=>match u with
  |false=>match updE σ (i+1) l us with
   |some r=>some (none::r)
   |none=>none
  |true=>match lk σ.tr (1000000000+i)with
   |some r=>match r.sh with
    |false=>match Nat.beq r.sz sz with
     |true=>match updE σ (i+1) l us with
      |some q=>some (some r.es::q)
      |none=>none
     |false=>none
    |true=>none
   |none=>none
 |_,_,_=>none
def boxE(σ:LS)(fb fr:Nat->Option Nat):Nat->List (List AV)->Option (List (List AV))
 |_,[]=>some []
 |k,b::bs=>match lk σ.tb k with
  |some cs=>match Nat.beq cs.length b.length with
   |true=>match boxE σ fb fr (k+1) bs with
    |some l=>some (mpL fb fr cs::l)
    |none=>none
   |false=>none
  |none=>none
def Zdp:List Nat->Bool
 |[]=>true
 |k::ks=>Nat.blt k 1000000000&&Zdp ks
def retC(rs:List Rv)(bin:List (List AV))(rin:List (Nat×List AV))(ud:List Bool)(ks:List Nat)(σ:LS):Option (AV×List (List AV)×List (Option (List AV))×List (Nat×List AV)):=match rvL σ rs with
 |some l=>match updE σ 0 rin ud with
  |some upd=>match boxE σ (cob bin.length) (cor upd ks rin.length) 2000000000 bin with
   |some bout=>match grw σ ks with
    |some new=>match Z5a ks&&Zdp ks with
     |true=>some ((ZVh l).mp (cob bin.length) (cor upd ks rin.length),bout,upd,new)
     |false=>none
    |none=>none
   |none=>none
  |none=>none
 |none=>none
def Zkv(k:List It)(rs:List Rv)(bin:List (List AV))(rin:List (Nat×List AV))(ud:List Bool)(ks:List Nat)(σ:LS)(G:GW):Option (AV×List (List AV)×List (Option (List AV))×List (Nat×List AV)):=match k with
 |.l (.gw .ret)::_=>match σ.gw G with
  |some σ'=>retC rs bin rin ud ks σ'
  |none=>none
 |_=>none
section
variable{P:Program}{R:Ex->St->Prop}{k:List It}{σ:LS}{s:St}
theorem ZAo(H:σ.has s){fx:List Bool}:∀{rin:List (Nat×List AV)} {us:List Bool} {i:Nat} {upd:List (Option (List AV))},(∀j,us.getD j true=fx.getD (i+j) true)->updE σ i rin us=some upd->updC s fx i (ownR rin) upd
  |[],[],i,upd,_,h=>by cases h;trivial
  | (sz,es)::l,u::us,i,upd,hf,h=>by
    have hf':∀j,us.getD j true=fx.getD (i+1+j) true:=fun j=>by
      have:=hf (j+1)
      rw[show i+(j+1)=i+1+j by omega]at this
      simpa using this
    simp only[updE]at h
    split at h
    · split at h
      · rename_i r e
        cases h
        show updC s fx (i+1) (ownR l) r
        exact ZAo H hf' e
      · cases h
    · split at h
      · rename_i r er
        split at h
        · rename_i hsh
          split at h
          · rename_i hz
            split at h
            · rename_i q e
              cases h
              have h0:=hf 0
              simp only[List.getD_cons_zero,Nat.add_zero]at h0
              replace h0:=h0.symm
              have hz:=yR hz
              subst hz
              refine⟨⟨h0,?_,rfl⟩,ZAo H hf' e⟩
              rw[(H.r _ _ er).1,← hsh]
            · cases h
          · cases h
        · cases h
      · cases h
  |[],_::_,_,_,_,h=>by simp[updE]at h
  |_::_,[],_,_,_,h=>by simp[updE]at h
theorem Z6s(H:σ.has s){fb fr:Nat->Option Nat}:∀{bin:List (List AV)} {k:Nat} {bout:List (List AV)},boxE σ fb fr k bin=some bout->Zwo s fb fr k bout/\bout.map List.length=bin.map List.length
 |[],k,bout,h=>by cases h;exact⟨trivial,rfl⟩
 |b::bs,k,bout,h=>by
  simp only[boxE]at h
  split at h
  .rename_i cs e
   split at h
   .rename_i hl
    have hl:=yR hl
    split at h
    .rename_i l e2
     cases h
     obtain⟨h1,h2⟩:=Z6s H e2
     exact⟨⟨⟨cs,H.b k cs e,rfl⟩,h1⟩,by simp[h2,ZR5,hl]⟩
    .cases h
   .cases h
  .cases h
theorem Zzn:∀{ks:List Nat},Zdp ks=true->ZTb ks
 |[],_=>trivial
 |k::ks,h=>by
  simp only[Zdp,yD]at h
  exact⟨by simpa[Nat.blt_eq]using h.1,Zzn h.2⟩
theorem ZVt{rs:List Rv}{bin:List (List AV)}{rin:List (Nat×List AV)}{ud:List Bool}{ks:List Nat}{res:AV}{bout:List (List AV)}{upd:List (Option (List AV))}{new:List (Nat×List AV)}{e:Ex}(hx:match e with | .ext _=>False|_=>True)
  (H:σ.has s) (h:retC rs bin rin ud ks σ=some (res,bout,upd,new)):ZZq rs bin (ownR rin) ud (fun _ r b u n=>r=res/\b=bout/\u=upd/\n=ownR new) e s:=by
 unfold retC at h
 split at h
 .rename_i l el
  split at h
  .rename_i upd' eu
   split at h
   .rename_i bout' eb
    split at h
    .rename_i new' en
     split at h
     .rename_i hk
      simp only[yD]at hk
      simp only[yI,Prod.mk.injEq]at h
      obtain⟨rfl,rfl,rfl,rfl⟩:=h
      obtain⟨b1,b2⟩:=Z6s H eb
      refine⟨hx,l,bout',upd',ks,ownR new',ZRq H el,?_,ZAo H (fun j=>by simp) eu,ZX3 hk.1,Zzn hk.2,ZFr H en,b2,?_,rfl,rfl,rfl⟩
      .rw[Zhe];exact b1
      .rw[Zhe]
     .cases h
    .cases h
   .cases h
  .cases h
 .cases h
theorem Zrc{rs:List Rv}{bin:List (List AV)}{rin:List (Nat×List AV)}{ud:List Bool}{res:AV}{bout:List (List AV)}{upd:List (Option (List AV))}{new:List (Nat×List AV)}(te:List (Nat×Hn))(tb:List (Nat×List Hn))(tr:List (Nat×Option Nat×Nat))(fz:List Nat)(ks:List Nat)
  (e:Zkv k rs bin rin ud ks σ ⟨te,tb,tr,fz⟩=some (res,bout,upd,new)):Wh P (ZZq rs bin (ownR rin) ud (fun _ r b u n=>r=res/\b=bout/\u=upd/\n=ownR new)) k σ:=by
 unfold Zkv at e
 split at e
 .rename_i k'
  split at e
  .rename_i σ' eg
   refine⟨fun s H=>Zkt (Zoq H eg) fun s' H'=>?_⟩
   rw[Z8w,ZZc]
   exact ZVt trivial H' e
  .cases e
 .cases e
def numR(u:List Bool):Nat->List (Nat×List AV)->List (Nat×Row)
 |_,[]=>[]
 |i,(sz,es)::l=>(rkey u i,⟨sz,es,false⟩)::numR u (i+1) l
theorem Z6r{u:List Bool}:∀{l:List (Nat×List AV)} {i k:Nat} {r:Row},lk (numR u i l) k=some r->∃j,i<=j/\k=rkey u j/\(ownR l)[j-i]?=some r
  |[],_,_,_,h=>by cases h
  | (sz,es)::l,i,k,r,h=>by
    simp only[numR]at h
    rcases Z1c h with⟨rfl,rfl⟩|h
    · exact⟨i,yV _,rfl,by simp[ownR]⟩
    · obtain⟨j,h1,h2,h3⟩:=Z6r h
      refine⟨j,by omega,h2,?_⟩
      rw[show j-i=(j-(i+1))+1 by omega]
      simpa[ownR]using h3
def LS.argC(args:List AV)(bin:List (List AV))(rin:List (Nat×List AV))(ud:List Bool):LS :=
  ⟨num0 0 (mpL (cfb bin.length) (cfr ud rin.length) args),[],numB 2000000000 (bin.map (mpL (cfb bin.length) (cfr ud rin.length))),numR ud 0 rin⟩
where numB:Nat->List (List AV)->List (Nat×List AV)
  |_,[]=>[]
  |i,a::l=>(i,a)::numB (i+1) l
theorem Z7r:∀{l:List (List AV)} {i k:Nat} {v:List AV},lk (LS.argC.numB i l) k=some v->i<=k/\l[k-i]?=some v
 |[],_,_,_,h=>by cases h
 |a::l,i,t,v,h=>by
  simp only[LS.argC.numB]at h
  rcases Z1c h with⟨rfl,rfl⟩|h
  .simp
  .obtain⟨h1,h2⟩:=Z7r h
   refine⟨by omega,?_⟩
   rw[show t-i=(t-(i+1))+1 by omega,List.getElem?_cons_succ];exact h2
theorem ZMn:∀{l:List (List AV)} {i k:Nat},lk (LS.argC.numB i l) k=none->i<=k->l[k-i]?=none
 |[],_,_,_,_=>by simp
 |a::l,i,t,h,hi=>by
  simp only[LS.argC.numB]at h
  obtain⟨h1,h2⟩:=ZEp h
  rw[show t-i=(t-(i+1))+1 by omega,List.getElem?_cons_succ]
  exact ZMn h2 (by omega)
theorem LS.has_argC(n0:Nat)(args:List AV)(bin:List (List AV))(rin:List (Nat×List AV))(ud:List Bool)(hrl:rin.length<=1000):(LS.argC args bin rin ud).has (stC n0 args bin (ownR rin) ud):=by
 have hl:(ownR rin).length=rin.length:=Zhe rin
 refine⟨fun t v h=>?_,fun _ _ _ _ h=>by(cases h),fun k cs h=>?_,fun k r h=>?_,fun k h=>?_⟩
 .obtain⟨_,h2⟩:=ZLo h
  rw[Nat.sub_zero,ZR5,yF]at h2
  obtain⟨a,ha,rfl⟩:=yC h2
  simp only[stC,hl,List.getD_eq_getElem?_getD,ha,Option.getD_some]
 .obtain⟨h1,h2⟩:=Z7r h
  rw[yF]at h2
  simp only[stC,hl,yd h1]
  exact h2
 .obtain⟨j,_,rfl,h3⟩:=Z6r h
  rw[Nat.sub_zero]at h3
  have hj:j<1000:=by have:=(yB h3).1;omega
  cases hu:ud.getD j true with
  |true =>
   have hk:rkey ud j=1000000000+j:=by unfold rkey;rw[yd hu]
   rw[hk]
   simp only[stC]
   rw[yd (by omega),show 1000000000+j-1000000000=j by omega,yd hu,ye (by omega)]
   exact⟨h3,rfl⟩
  |false =>
   have hk:rkey ud j=500000000+j:=by unfold rkey;rw[ye (by rw[hu];simp)]
   rw[hk]
   simp only[stC]
   rw[ye (by omega),yd (by omega),show 500000000+j-500000000=j by omega,ye (by rw[hu];simp),ye (by omega)]
   exact⟨h3,rfl⟩
 .simp only[stC]
  split
  .rename_i hk
   have:=ZMn h hk
   rw[yF]at this
   simpa[hl]using this
  .rfl
theorem Zuq{f:FuncId}{l:L}{rs:List Rv}{args:List AV}{bin:List (List AV)}{rin:List (Nat×List AV)}{res:AV}{bout:List (List AV)}{upd:List (Option (List AV))}{new:List (Nat×List AV)}{n:Nat}(ud:List Bool)
  (hc:ZPe P f n l rs=true) (hn:args.length=n) (hrl:Nat.ble rin.length 1000=true)
  (h:Wh P (ZZq rs bin (ownR rin) ud (fun _ r b u n=>r=res/\b=bout/\u=upd/\n=ownR new)) [.l l] (LS.argC args bin rin ud)):ConD P f args bin rin res bout upd new :=
 ZZv ud hc hn (by rw[Zhe];exact Nat.le_of_ble_eq_true hrl) fun n0 _=>ZUv (h.h _ (LS.has_argC n0 args bin rin ud (Nat.le_of_ble_eq_true hrl)))
theorem Zx7{α:Type}(e:α->AV)(h:∀x,(e x).noO)(l:List α):noOL (l.map e):=Zw1.2 fun a ha=>by
 obtain⟨x,_,rfl⟩:=yY ha
 exact h x
@[simp] def selR:List Bool->List AV->List AV
 |b::bs,a::l=>(match b with|true=>a|false=>a.rdt)::selR bs l
 |_,l=>l
theorem GEs.of{xs as:List AV}(bs:List Bool)(h:selR bs xs=as):GEs xs as:=by
 subst h
 induction xs generalizing bs with
 |nil=>cases bs<;>exact GEs.refl _
 |cons x xs ih =>
  cases bs with
  |nil=>exact GEs.refl _
  |cons b bs =>
   obtain⟨h1,h2⟩:=ih bs
   refine⟨by simp[selR,h1],fun i a c ha hc=>?_⟩
   cases i with
   |zero =>
    simp only[selR,List.getElem?_cons_zero,yI]at ha hc
    subst ha;subst hc
    cases b
    .exact .rdt _
    .exact .refl _
   |succ i=>exact h2 i a c (by simpa using ha) (by simpa[selR]using hc)
end
end
end Go.Proofs.YtodafdoninblmaaGreat.Eng
