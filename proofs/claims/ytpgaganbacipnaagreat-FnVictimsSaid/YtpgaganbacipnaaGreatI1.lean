/-
  Lemmas, part 1.
-/
import Derived.Test.YtpgaganbacipnaaGreatProg
import Derived.Deep.QuietTactic
import Derived.Deep.Draws
import Derived.WalkKit
import Derived.Below
import Derived.OwnWalk
import Derived.Deep.LoopGhost
import Derived.Deep.RegionLaw
import Derived.Lib.Walk
import Derived.Lib.SlKept
import Derived.Sort.WalkB12
import Derived.Lib.SliceRun
import Derived.Shelf.RegionOpenPlain
import Derived.Deep.MidRow
import Derived.Sort.Grow
import Derived.Shelf.Abstract
namespace Go.Proofs.YtpgaganbacipnaaGreat
open Go Go.RowKit
set_option maxHeartbeats 1000000 in
theorem W1g(x y:Nat)(cx cy:Int)(b ob r o n cap:Nat)(W:World)(hn:n ≤ 24)(hx:x<n)(hy:y<n)
  (hbox:W.cell? ⟨b,ob,none⟩=some (.slice (some ⟨r,o,none⟩) n cap)) (h1:W.cell? ⟨r,o+x,none⟩=some (.int .i64 cx)) (h2:W.cell? ⟨r,o+y,none⟩=some (.int .i64 cy)) :
  Calls Tryz.prog 207 #[.int .i64 x,.int .i64 y,.pointer (some ⟨b,ob,none⟩)] W fun e w'=>e=.returned (.int .i64 (if cx≠cy then IntKind.i64.wrap (cy-cx)else IntKind.i64.wrap ((x:Int)-y))) ∧ ∃q,w'=W.drewN q:=by
 go_enter Tryz.func207,Tryz.ntmps207
 have i1:(0:Int) ≤ (x:Int):=by omega
 have i2:(x:Int)<(n:Int):=by omega
 have i3:(0:Int) ≤ (y:Int):=by omega
 have i4:(y:Int)<(n:Int):=by omega
 by_cases hc:cx=cy
 ·subst hc
  have hb:(cx != cx)=false:=by simp
  go_wp2
  go_quiet (fail)
  go_wp2
  go_ret
  refine⟨?_,_,rfl⟩
  have e:IntKind.i64.wrap ((x:Int)-y)=(x:Int)-y:=by rw[IntKind.wrap_i64];omega
  simp[e]
 ·have hb:(cx != cy)=true:=by simpa using hc
  go_wp2
  go_quiet (fail)
  go_wp2
  go_quiet (fail)
  go_wp2
  go_ret
  exact⟨by simp,_,rfl⟩
end Go.Proofs.YtpgaganbacipnaaGreat
namespace Go.Proofs.YtpgaganbacipnaaGreat
open Go Go.RowKit Go.Lib Go.Sort
theorem X1N{l:List Value}(h:l.length=13):∃a0 a1 a2 a3 a4 a5 a6 a7 a8 a9 a10 a11 a12,l=[a0,a1,a2,a3,a4,a5,a6,a7,a8,a9,a10,a11,a12]:=by
 match l,h with
 |[a0,a1,a2,a3,a4,a5,a6,a7,a8,a9,a10,a11,a12],_=>exact⟨a0,a1,a2,a3,a4,a5,a6,a7,a8,a9,a10,a11,a12,rfl⟩
set_option maxHeartbeats 4000000 in
theorem L1C(blk off cap n:Nat)(el:Nat → List Value)(p:Nat → Bool)(g:Nat)(lb:Array Value)(w:World)(eg:∀args w,(callFunc g args).run Tryz.prog w=.ok (.enter g args) w)(hl:∀j,(el j).length=13)(hbig:n ≤ 9223372036854775807)(hb:blk<w.heap.size)
  (hc:∀j,j<n → ∀(i:Nat) v,(el j)[i]?=some v → w.cell? ⟨blk,off+j*13+i,none⟩=some v)
  (hp:∀W j,j<n → Below w.heap.size w W → Calls Tryz.prog g (#[.agg (el j).toArray]++lb) W fun e w'=>e=.returned (.bool (p j)) ∧ Below w.heap.size w w') :
  Calls Tryz.prog 113 #[.slice (some ⟨blk,off,none⟩) n cap,.func (.func g) #[] lb] w fun e w'=>(∃r:Int,e=.returned (.int .i64 r) ∧ ((r = -1 ∧ ∀j,j<n → p j=false) ∨ ∃k:Nat,k<n ∧ r=k ∧ p k=true ∧ ∀j,j<k → p j=false)) ∧ Below w.heap.size w w':=by
 have mixed:Tryz.prog.follows .mixedOrders=true:=by kernel_rfl
 have hrow:∀(W:World),Below w.heap.size w W → ∀j,j<n → ∀(i:Nat) v,(el j)[i]?=some v → W.cell? ⟨blk,off+j*13+i,none⟩=some v:=fun W hW j hj i v hi=>by
   rw[hW.cell (p:=⟨blk,off+j*13+i,none⟩) hb]
   exact hc j hj i v hi
 clear hc
 go_enter Tryz.func113,Tryz.ntmps113
 go_wp2
 go_loopg [5,8] n (fun gg _ s8 wr=>∃kk:Nat,kk ≤ n ∧ n-kk ≤ gg ∧ s8=.int .i64 kk ∧ Aside (Below w.heap.size w wr) ∧ Aside (∀j,j<kk → p j=false))
 case atStart=>exact⟨0,Nat.zero_le _,by omega,rfl,Below.refl _ w,fun j hj=>absurd hj (Nat.not_lt_zero _)⟩
 case round =>
  obtain⟨kk,hkk,hg,rfl,BW,A⟩:=hrel
  by_cases hlt:kk<n
  ·have hltz:(kk:Int)<(n:Int):=by omega
   have l2:=hrow wr BW.out kk hlt
   have hcall:=hp wr kk hlt BW.out
   clear hrow hp
   have hl2:=hl kk
   generalize el kk=y at l2 hcall hl2
   obtain⟨a0,a1,a2,a3,a4,a5,a6,a7,a8,a9,a10,a11,a12,rfl⟩:=X1N hl2
   have l10:=l2 0 _ rfl
   have l11:=l2 1 _ rfl
   have l12:=l2 2 _ rfl
   have l13:=l2 3 _ rfl
   have l14:=l2 4 _ rfl
   have l15:=l2 5 _ rfl
   have l16:=l2 6 _ rfl
   have l17:=l2 7 _ rfl
   have l18:=l2 8 _ rfl
   have l19:=l2 9 _ rfl
   have l20:=l2 10 _ rfl
   have l21:=l2 11 _ rfl
   have l22:=l2 12 _ rfl
   simp only[Nat.add_zero]at l10
   clear l2 hl hl2
   cases hq:p kk with
   |true =>
    rw[hq]at hcall
    go_wp2_with (go_at_fn g;refine hcall.mono ?_;rintro e w' ⟨rfl,hb'⟩)
    go_ret
    exact⟨⟨_,rfl,.inr ⟨kk,hlt,rfl,hq,A.out⟩⟩,hb'⟩
   |false =>
    rw[hq]at hcall
    go_wp2_with (go_at_fn g;refine hcall.mono ?_;rintro e w' ⟨rfl,hb'⟩)
    go_roundg (n-(kk+1))
    case measure=>omega
    case rel =>
     refine⟨kk+1,by omega,by omega,by go_num,hb',(show Aside _ from fun j hj=>?_)⟩
     by_cases e:j=kk
     ·subst e
      exact hq
     ·exact A.out j (by omega)
  ·have hltz:¬ (kk:Int)<(n:Int):=by omega
   have:kk=n:=by omega
   subst this
   go_wp2
   go_ret
   exact⟨⟨_,rfl,.inl ⟨rfl,A.out⟩⟩,BW.out⟩
structure BX(blk:Nat)(w W:World):Prop where
 os:W.os=w.os
 tape:W.tape=w.tape
 output:W.output=w.output
 size:w.heap.size ≤ W.heap.size
 block:∀k,k<w.heap.size → k≠blk → W.heap[k]?=w.heap[k]?
theorem BX.below{blk:Nat}{w W W2:World}(h:BX blk w W)(h2:Below W.heap.size W W2):BX blk w W2 :=
  ⟨h2.os.trans h.os,h2.tape.trans h.tape,h2.output.trans h.output,Nat.le_trans h.size h2.size,fun k hk hne=>(h2.block k (Nat.lt_of_lt_of_le hk h.size)).trans (h.block k hk hne)⟩
theorem BX.of{blk:Nat}{w W:World}(h:Below w.heap.size w W):BX blk w W:=⟨h.os,h.tape,h.output,h.size,fun k hk _=>h.block k hk⟩
def sel(p:Nat → Bool)(n:Nat):List Nat:=(List.range n).filter fun j=>!p j
theorem L1i{P:Program}(w:World)(t e ty:TypeId)(z:Value)(ht:P.underlying t=some (.slice e))(hv:∀w,(zeroValue e).run P w=.ok z w)(b o n c:Nat)(zs:List Value)(hzs:zs=(Builtin.zeroCells z.cells n).toList)(h1:∀v∈zs,v.oneCell'=true)(hn:0<n)
  (hc:∀j,j<zs.length → (w.cell? ⟨b,o+j,none⟩).isSome=true) (hf:∀j,j<zs.length → w.frozen? ⟨b,o+j,none⟩=false) :
  (Builtin.clear_ #[t] ty #[.slice (some ⟨b,o,none⟩) n c]).run P w=.ok (.tuple #[]) (w.setCells b o zs):=by
 have hst:=run_storeCells_cells (P:=P) b o zs 0 w (by simpa using hc) (by simpa using hf) h1
 simp only[Nat.add_zero]at hst
 obtain⟨m,rfl⟩:∃m,n=m+1:=⟨n-1,by omega⟩
 rw[hzs]at hst ⊢
 simp[Builtin.clear_,run_underlying ht,hv,hst]
def setL:Array Value → Nat → List Value → Array Value
 |cr,_,[]=>cr
 |cr,b,v::l=>setL (cr.setIfInBounds b v) (b+1) l
theorem O0K:∀(l:List Value) (cr:Array Value) (b:Nat),(setL cr b l).size=cr.size
 |[],_,_=>rfl
 |v::l,cr,b=>by rw[setL,O0K l];simp
theorem Y14:∀(l:List Value) (cr:Array Value) (b:Nat),b+l.length ≤ cr.size → ∀y,(setL cr b l)[y]?=if b ≤ y ∧ y<b+l.length then l[y-b]? else cr[y]?
 |[],cr,b,_,y=>by rw[setL,if_neg (by simp)]
 |v::l,cr,b,h,y=>by
  have h':b+1+l.length ≤ cr.size:=by simp at h;omega
  rw[setL,Y14 l _ (b+1) (by simpa using h') y]
  by_cases e:y=b
  ·subst e
   rw[if_neg (by omega),if_pos (by simp),Nat.sub_self]
   have:y<cr.size:=by rw[List.length_cons]at h;omega
   simp[this]
  ·by_cases h1:b+1 ≤ y ∧ y<b+1+l.length
   ·rw[if_pos h1,if_pos (by rw[List.length_cons];omega),show y-b=(y-(b+1))+1 by omega];simp
   ·rw[if_neg h1,if_neg (by rw[List.length_cons];omega),Array.getElem?_setIfInBounds_ne (Ne.symm e)]
theorem J1x{blk:Nat}{w:World}{ty:TypeId}:∀(l:List Value) (b:Nat) (W:World) (cr:Array Value),BX blk w W → W.heap[blk]?=some (.cells cr ty (0,0)) → BX blk w (W.setCells blk b l) ∧ (W.setCells blk b l).heap[blk]?=some (.cells (setL cr b l) ty (0,0))
 |[],_,_,_,h1,h2=>⟨h1,h2⟩
 |v::l,b,W,cr,h1,h2=>by
  rw[World.setCells,setL]
  refine J1x l (b+1) _ _ ⟨h1.os,h1.tape,h1.output,by simpa[World.setCell]using h1.size,fun k hk hne=>?_⟩ ?_
  ·rw[← h1.block k hk hne]
   simp only[World.setCell,Array.getElem?_modify,Ne.symm hne,if_false]
  ·simp only[World.setCell,Array.getElem?_modify,if_true,h2,Option.map_some,Option.isSome_none,Bool.false_eq_true,if_false]
theorem X14(p:Nat → Bool)(j:Nat):sel p (j+1)=sel p j++(if p j=true then[]else[j]):=by
 simp only[sel,List.range_succ,List.filter_append,List.filter_cons,List.filter_nil]
 cases p j<;>simp
theorem firstHit(p:Nat → Bool):∀n,(∀j,j<n → p j=false) ∨ ∃k,k<n ∧ p k=true ∧ ∀j,j<k → p j=false
 |0=>.inl fun j hj=>absurd hj (Nat.not_lt_zero _)
 |n+1=>by
  rcases firstHit p n with h|⟨k,h1,h2,h3⟩
  ·cases hq:p n with
   |true=>exact .inr ⟨n,Nat.lt_succ_self _,hq,h⟩
   |false=>exact .inl fun j hj=>(Nat.lt_succ_iff_lt_or_eq.1 hj).elim (h j) fun e=>e ▸ hq
  ·exact .inr ⟨k,by omega,h2,h3⟩
structure SelInv(p:Nat → Bool)(cur cr:Array Value)(j i:Nat):Prop where
 len:(sel p j).length=i
 lt:i<j
 low:∀(t s:Nat),(sel p j)[t]?=some s → ∀c,c<13 → cr[t*13+c]?=cur[s*13+c]?
 high:∀x,i*13 ≤ x → cr[x]?=cur[x]?
theorem SelInv.keep{p:Nat → Bool}{cur cr:Array Value}{j i:Nat}(S:SelInv p cur cr j i)(hq:p j=false)(l:List Value)(hl:l.length=13)(hsz:i*13+13 ≤ cr.size)(hcur:∀c,c<13 → cur[j*13+c]?=l[c]?):SelInv p cur (setL cr (i*13) l) (j+1) (i+1):=by
 have hg:=Y14 l cr (i*13) (by omega)
 have hij:=S.lt
 refine⟨by rw[X14,hq];simp[S.len],by omega,fun t s ht c hc=>?_,fun x hx=>?_⟩
 ·rw[X14,hq,if_neg (by simp)]at ht
  rw[hg]
  by_cases htl:t<i
  ·rw[List.getElem?_append_left (by rw[S.len];exact htl)]at ht
   rw[if_neg (by omega)]
   exact S.low t s ht c hc
  ·rw[List.getElem?_append_right (by rw[S.len];omega),S.len]at ht
   have:t=i:=by
    have:=(List.getElem?_eq_some_iff.1 ht).1
    simp at this;omega
   subst this
   simp at ht
   subst ht
   rw[if_pos (by omega),hcur c hc]
   congr 1;omega
 ·rw[hg,if_neg (by omega)]
  exact S.high x (by omega)
theorem SelInv.skip{p:Nat → Bool}{cur cr:Array Value}{j i:Nat}(S:SelInv p cur cr j i)(hq:p j=true):SelInv p cur cr (j+1) i:=by
 have hij:=S.lt
 have e1:sel p (j+1)=sel p j:=by rw[X14,hq];simp
 exact⟨by rw[e1];exact S.len,by omega,fun t s ht=>S.low t s (by rwa [e1]at ht),S.high⟩
set_option maxHeartbeats 40000000 in
theorem L1E(blk off cap n:Nat)(cur:Array Value)(ty:TypeId)(el:Nat → List Value)(p:Nat → Bool)(g:Nat)(lb:Array Value)(w:World)(eg:∀args w,(callFunc g args).run Tryz.prog w=.ok (.enter g args) w)(ho:off=0)(hl:∀j,(el j).length=13)(h1c:∀j,j<n → ∀v∈el j,v.oneCell'=true)
  (hm:cap ≤ 9223372036854775807) (hn:n ≤ cap) (hrow:w.heap[blk]?=some (.cells cur ty (0,0))) (hs:cur.size=cap*13) (hcur:∀j,j<n → ∀i,i<13 → cur[j*13+i]?=(el j)[i]?)
  (hp:∀W j,j<n → BX blk w W → Calls Tryz.prog g (#[.agg (el j).toArray]++lb) W fun e w'=>e=.returned (.bool (p j)) ∧ Below W.heap.size W w') :
  Calls Tryz.prog 48 #[.slice (some ⟨blk,off,none⟩) n cap,.func (.func g) #[] lb] w fun e w'=>e=.returned (.slice (some ⟨blk,off,none⟩) (sel p n).length cap) ∧ BX blk w w' ∧
   ∃cr:Array Value,w'.heap[blk]?=some (.cells cr ty (0,0)) ∧ cr.size=cap*13 ∧ ∀(i s:Nat),(sel p n)[i]?=some s → ∀c,c<13 → cr[i*13+c]?=cur[s*13+c]?:=by
 have mixed:Tryz.prog.follows .mixedOrders=true:=by kernel_rfl
 have e6:∀args w,(callFunc 113 args).run Tryz.prog w=.ok (.enter 113 args) w:=enters_of Tryz.func113 (by kernel_rfl) rfl
 have hb:blk<w.heap.size:=(Array.getElem?_eq_some_iff.1 hrow).1
 have hcell:∀(W:World) (cr:Array Value),W.heap[blk]?=some (.cells cr ty (0,0)) → ∀x,W.cell? ⟨blk,off+x,none⟩=cr[x]?:=fun W cr h x=>by
  subst ho
  simp only[World.cell?,h,Option.isSome_none,Bool.false_eq_true,if_false,Nat.zero_add]
 have hI:=L1C blk off cap n el p g lb w eg hl (by omega) hb (fun j hj i v hi=>by
   have hi2:i<13:=by have:=(List.getElem?_eq_some_iff.1 hi).1;rwa [hl]at this
   rw[Nat.add_assoc,hcell w cur hrow,hcur j hj i hi2];exact hi) (fun W j hj hW=>(hp W j hj (.of hW)).mono fun e w' h=>⟨h.1,hW.trans (h.2.mono hW.size)⟩)
 have HS:Aside (cur.size=cap*13):=hs
 have HR:Aside (w.heap[blk]?=some (.cells cur ty (0,0))):=hrow
 have HO:Aside (off=0):=ho
 have HC:Aside _:=hcell
 have HCU:Aside _:=hcur
 have HP:Aside _:=hp
 have HL:Aside _:=hl
 have H1:Aside _:=h1c
 clear hs hrow ho hcell hcur hp hl h1c
 rcases firstHit p n with hall|⟨k0,hk0,hk1,hk2⟩
 ·have hI2:=hI.mono (R':=fun e w'=>e=.returned (.int .i64 (-1)) ∧ Below w.heap.size w w') fun e w' h=>by
   obtain⟨⟨r,he,hr⟩,hb⟩:=h
   refine⟨?_,hb⟩
   rcases hr with⟨rfl,_⟩|⟨k,h1,_,h2,_⟩
   ·exact he
   ·rw[hall k h1]at h2;cases h2
  have HA:Aside _:=hall
  clear hall hI
  go_enter Tryz.func48,Tryz.ntmps48
  go_wp2_with (go_at_fn 113;refine hI2.mono ?_;rintro e w' ⟨rfl,hb0⟩)
  go_ret
  have e1:sel p n=List.range n:=List.filter_eq_self.2 fun j hj=>by simp[HA.out j (List.mem_range.1 hj)]
  rw[e1]
  refine⟨by simp,BX.of hb0,cur,by rw[hb0.block blk hb];exact HR.out,HS.out,fun i s hi c hc=>?_⟩
  obtain⟨hi1,hi2⟩:=List.getElem?_eq_some_iff.1 hi
  rw[← hi2,List.getElem_range]
 ·have hI2:=hI.mono (R':=fun e w'=>e=.returned (.int .i64 k0) ∧ Below w.heap.size w w') fun e w' h=>by
   obtain⟨⟨r,he,hr⟩,hb⟩:=h
   refine⟨?_,hb⟩
   rcases hr with⟨_,h1⟩|⟨k,h1,rfl,h2,h3⟩
   ·rw[h1 k0 hk0]at hk1;cases hk1
   ·have:k=k0:=by
     rcases Nat.lt_trichotomy k k0 with q|q|q
     ·rw[hk2 k q]at h2;cases h2
     ·exact q
     ·rw[h3 k0 q]at hk1;cases hk1
    rw[he,this]
  have HA:Aside _:=hk2
  have HK:Aside (p k0=true):=hk1
  have hne1:((k0:Int)==-1)=false:=beq_eq_false_iff_ne.2 (by omega)
  have hkw:IntKind.i64.wrap ((k0:Int)+1)=((k0+1:Nat):Int):=by rw[IntKind.wrap_i64];omega
  clear hk1 hk2 hI
  go_enter Tryz.func48,Tryz.ntmps48
  go_wp2_with (go_at_fn 113;refine hI2.mono ?_;rintro e w' ⟨rfl,hb0⟩)
  have hb1:w'.heap[blk]?=some (.cells cur ty (0,0)):=by rw[hb0.block blk hb];exact HR.out
  have BX0:Aside (BX blk w w'):=BX.of hb0
  have HB1:Aside _:=hb1
  clear hb1
  go_loopg [5,6,7] n (fun gg s5 s6 _ wr=>∃(i j:Nat) (cr:Array Value),s5=.int .i64 i ∧ s6=.int .i64 j ∧ j ≤ n ∧ n-j ≤ gg ∧ i<j ∧ Aside (BX blk w wr) ∧ Aside (wr.heap[blk]?=some (.cells cr ty (0,0)) ∧ cr.size=cap*13) ∧ Aside (SelInv p cur cr j i))
  case atStart =>
   refine⟨k0,k0+1,cur,rfl,by first|rfl|go_num,by omega,by omega,by omega,BX0,⟨HB1.out,HS.out⟩,(show Aside _ from ?_)⟩
   have e1:sel p (k0+1)=List.range k0:=by
    simp only[sel,List.range_succ,List.filter_append,List.filter_cons,HK.out,List.filter_nil,Bool.not_true,Bool.false_eq_true,if_false,List.append_nil]
    exact List.filter_eq_self.2 fun j hj=>by simp[HA.out j (List.mem_range.1 hj)]
   refine⟨by rw[e1];simp,by omega,fun t s ht c hc=>?_,fun x _=>rfl⟩
   rw[e1]at ht
   obtain⟨hi1,hi2⟩:=List.getElem?_eq_some_iff.1 ht
   rw[← hi2,List.getElem_range]
  case round =>
   obtain⟨i,j,cr,rfl,rfl,hjn,hgg,hij,BW,HW,SI⟩:=hrel
   by_cases hlt:j<n
   ·have hltz:(j:Int)<(n:Int):=by omega
    have hcr:∀c,c<13 → wr.cell? ⟨blk,off+(j*13+c),none⟩=(el j)[c]?:=fun c hc=>by
     rw[HC.out wr cr HW.out.1,SI.out.high _ (by omega),HCU.out j hlt c hc]
    have hcall:∀W2,Below wr.heap.size wr W2 → Calls Tryz.prog g (#[.agg (el j).toArray]++lb) W2 fun e w'=>e=.returned (.bool (p j)) ∧ Below W2.heap.size W2 w':=fun W2 h2=>HP.out W2 j hlt (BW.out.below h2)
    have hl2:=HL.out j
    have H1j:=H1.out j hlt
    generalize hy:el j=y at hcr hcall hl2 H1j
    have HY:Aside (el j=y):=hy
    clear hy
    obtain⟨a0,a1,a2,a3,a4,a5,a6,a7,a8,a9,a10,a11,a12,rfl⟩:=X1N hl2
    have l10:=hcr 0 (by omega)
    have l11:=hcr 1 (by omega)
    have l12:=hcr 2 (by omega)
    have l13:=hcr 3 (by omega)
    have l14:=hcr 4 (by omega)
    have l15:=hcr 5 (by omega)
    have l16:=hcr 6 (by omega)
    have l17:=hcr 7 (by omega)
    have l18:=hcr 8 (by omega)
    have l19:=hcr 9 (by omega)
    have l20:=hcr 10 (by omega)
    have l21:=hcr 11 (by omega)
    have l22:=hcr 12 (by omega)
    simp only[Nat.add_zero,← Nat.add_assoc]at l10 l11 l12 l13 l14 l15 l16 l17 l18 l19 l20 l21 l22
    have o0:∀w a m,(store a a0 m).run Tryz.prog w=stored Tryz.prog w a a0 m:=fun w a m=>run_store _ w a _ m (H1j a0 (by simp))
    have o1:∀w a m,(store a a1 m).run Tryz.prog w=stored Tryz.prog w a a1 m:=fun w a m=>run_store _ w a _ m (H1j a1 (by simp))
    have o2:∀w a m,(store a a2 m).run Tryz.prog w=stored Tryz.prog w a a2 m:=fun w a m=>run_store _ w a _ m (H1j a2 (by simp))
    have o3:∀w a m,(store a a3 m).run Tryz.prog w=stored Tryz.prog w a a3 m:=fun w a m=>run_store _ w a _ m (H1j a3 (by simp))
    have o4:∀w a m,(store a a4 m).run Tryz.prog w=stored Tryz.prog w a a4 m:=fun w a m=>run_store _ w a _ m (H1j a4 (by simp))
    have o5:∀w a m,(store a a5 m).run Tryz.prog w=stored Tryz.prog w a a5 m:=fun w a m=>run_store _ w a _ m (H1j a5 (by simp))
    have o6:∀w a m,(store a a6 m).run Tryz.prog w=stored Tryz.prog w a a6 m:=fun w a m=>run_store _ w a _ m (H1j a6 (by simp))
    have o7:∀w a m,(store a a7 m).run Tryz.prog w=stored Tryz.prog w a a7 m:=fun w a m=>run_store _ w a _ m (H1j a7 (by simp))
    have o8:∀w a m,(store a a8 m).run Tryz.prog w=stored Tryz.prog w a a8 m:=fun w a m=>run_store _ w a _ m (H1j a8 (by simp))
    have o9:∀w a m,(store a a9 m).run Tryz.prog w=stored Tryz.prog w a a9 m:=fun w a m=>run_store _ w a _ m (H1j a9 (by simp))
    have o10:∀w a m,(store a a10 m).run Tryz.prog w=stored Tryz.prog w a a10 m:=fun w a m=>run_store _ w a _ m (H1j a10 (by simp))
    have o11:∀w a m,(store a a11 m).run Tryz.prog w=stored Tryz.prog w a a11 m:=fun w a m=>run_store _ w a _ m (H1j a11 (by simp))
    have o12:∀w a m,(store a a12 m).run Tryz.prog w=stored Tryz.prog w a a12 m:=fun w a m=>run_store _ w a _ m (H1j a12 (by simp))
    clear hl2 H1j
    cases hq:p j with
    |false =>
     rw[hq]at hcall
     have hA:Below wr.heap.size wr (wr.alloc (.cells #[a0,a1,a2,a3,a4,a5,a6,a7,a8,a9,a10,a11,a12] 44)):=(Below.refl _ wr).alloc (Nat.le_refl _) _
     obtain⟨b0,b1,b2,b3,b4,b5,b6,b7,b8,b9,b10,b11,b12,hold⟩:∃b0 b1 b2 b3 b4 b5 b6 b7 b8 b9 b10 b11 b12:Value,∀c,c<13 → cr[i*13+c]?=[b0,b1,b2,b3,b4,b5,b6,b7,b8,b9,b10,b11,b12][c]?:=by
      have hin:∀c,c<13 → i*13+c<cr.size:=fun c hc=>by rw[HW.out.2];omega
      refine⟨cr[i*13+0]'(hin 0 (by omega)),cr[i*13+1]'(hin 1 (by omega)),cr[i*13+2]'(hin 2 (by omega)),cr[i*13+3]'(hin 3 (by omega)),cr[i*13+4]'(hin 4 (by omega)),cr[i*13+5]'(hin 5 (by omega)),cr[i*13+6]'(hin 6 (by omega)),cr[i*13+7]'(hin 7 (by omega)),cr[i*13+8]'(hin 8 (by omega)),cr[i*13+9]'(hin 9 (by omega)),cr[i*13+10]'(hin 10 (by omega)),cr[i*13+11]'(hin 11 (by omega)),cr[i*13+12]'(hin 12 (by omega)),fun c hc=>?_⟩
      match c with
      |0|1|2|3|4|5|6|7|8|9|10|11|12=>exact Array.getElem?_eq_getElem _
      |c+13=>omega
     have HOLD:Aside _:=hold
     clear hold
     go_wp2_with (go_at_fn g;refine(hcall _ hA).mono ?_;rintro e w' ⟨rfl,hb'⟩;have m0:w'.cell? ⟨wr.heap.size,0,none⟩=some a0:=(by rw[hb'.cell (p:=⟨wr.heap.size,0,none⟩) (by simp)];simp);have m1:w'.cell? ⟨wr.heap.size,1,none⟩=some a1:=(by rw[hb'.cell (p:=⟨wr.heap.size,1,none⟩) (by simp)];simp);have m2:w'.cell? ⟨wr.heap.size,2,none⟩=some a2:=(by rw[hb'.cell (p:=⟨wr.heap.size,2,none⟩) (by simp)];simp);have m3:w'.cell? ⟨wr.heap.size,3,none⟩=some a3:=(by rw[hb'.cell (p:=⟨wr.heap.size,3,none⟩) (by simp)];simp);have m4:w'.cell? ⟨wr.heap.size,4,none⟩=some a4:=(by rw[hb'.cell (p:=⟨wr.heap.size,4,none⟩) (by simp)];simp);have m5:w'.cell? ⟨wr.heap.size,5,none⟩=some a5:=(by rw[hb'.cell (p:=⟨wr.heap.size,5,none⟩) (by simp)];simp);have m6:w'.cell? ⟨wr.heap.size,6,none⟩=some a6:=(by rw[hb'.cell (p:=⟨wr.heap.size,6,none⟩) (by simp)];simp);have m7:w'.cell? ⟨wr.heap.size,7,none⟩=some a7:=(by rw[hb'.cell (p:=⟨wr.heap.size,7,none⟩) (by simp)];simp);have m8:w'.cell? ⟨wr.heap.size,8,none⟩=some a8:=(by rw[hb'.cell (p:=⟨wr.heap.size,8,none⟩) (by simp)];simp);have m9:w'.cell? ⟨wr.heap.size,9,none⟩=some a9:=(by rw[hb'.cell (p:=⟨wr.heap.size,9,none⟩) (by simp)];simp);have m10:w'.cell? ⟨wr.heap.size,10,none⟩=some a10:=(by rw[hb'.cell (p:=⟨wr.heap.size,10,none⟩) (by simp)];simp);have m11:w'.cell? ⟨wr.heap.size,11,none⟩=some a11:=(by rw[hb'.cell (p:=⟨wr.heap.size,11,none⟩) (by simp)];simp);have m12:w'.cell? ⟨wr.heap.size,12,none⟩=some a12:=(by rw[hb'.cell (p:=⟨wr.heap.size,12,none⟩) (by simp)];simp);have hrow1:w'.heap[blk]?=some (.cells cr ty (0,0)):=(by rw[hb'.block blk (by simp;have:=BW.out.size;omega),hA.block blk (by have:=BW.out.size;omega)];exact HW.out.1);have hfz:∀x,w'.frozen? ⟨blk,x,none⟩=false:=fun x=>frozen_of_row w' blk x cr ty hrow1;have hcl:=HC.out w' cr hrow1;have c0:w'.cell? ⟨blk,off+i*13+0,none⟩=some b0:=(by rw[Nat.add_assoc,hcl];exact HOLD.out 0 (by omega));have c1:w'.cell? ⟨blk,off+i*13+1,none⟩=some b1:=(by rw[Nat.add_assoc,hcl];exact HOLD.out 1 (by omega));have c2:w'.cell? ⟨blk,off+i*13+2,none⟩=some b2:=(by rw[Nat.add_assoc,hcl];exact HOLD.out 2 (by omega));have c3:w'.cell? ⟨blk,off+i*13+3,none⟩=some b3:=(by rw[Nat.add_assoc,hcl];exact HOLD.out 3 (by omega));have c4:w'.cell? ⟨blk,off+i*13+4,none⟩=some b4:=(by rw[Nat.add_assoc,hcl];exact HOLD.out 4 (by omega));have c5:w'.cell? ⟨blk,off+i*13+5,none⟩=some b5:=(by rw[Nat.add_assoc,hcl];exact HOLD.out 5 (by omega));have c6:w'.cell? ⟨blk,off+i*13+6,none⟩=some b6:=(by rw[Nat.add_assoc,hcl];exact HOLD.out 6 (by omega));have c7:w'.cell? ⟨blk,off+i*13+7,none⟩=some b7:=(by rw[Nat.add_assoc,hcl];exact HOLD.out 7 (by omega));have c8:w'.cell? ⟨blk,off+i*13+8,none⟩=some b8:=(by rw[Nat.add_assoc,hcl];exact HOLD.out 8 (by omega));have c9:w'.cell? ⟨blk,off+i*13+9,none⟩=some b9:=(by rw[Nat.add_assoc,hcl];exact HOLD.out 9 (by omega));have c10:w'.cell? ⟨blk,off+i*13+10,none⟩=some b10:=(by rw[Nat.add_assoc,hcl];exact HOLD.out 10 (by omega));have c11:w'.cell? ⟨blk,off+i*13+11,none⟩=some b11:=(by rw[Nat.add_assoc,hcl];exact HOLD.out 11 (by omega));have c12:w'.cell? ⟨blk,off+i*13+12,none⟩=some b12:=(by rw[Nat.add_assoc,hcl];exact HOLD.out 12 (by omega));have HR1:Aside _:=hrow1;have HB2:Aside _:=hb';clear hcl hrow1 hb';simp only[Nat.add_zero]at c0)
     go_roundg (n-(j+1))
     case measure=>omega
     case rel =>
      obtain⟨R1,R2⟩:=J1x [a0,a1,a2,a3,a4,a5,a6,a7,a8,a9,a10,a11,a12] (off+i*13) w' cr ((BW.out.below hA).below HB2.out) HR1.out
      have S2:=SI.out.keep hq [a0,a1,a2,a3,a4,a5,a6,a7,a8,a9,a10,a11,a12] rfl (by rw[HW.out.2];omega) fun c hc=>by rw[HCU.out j hlt c hc,HY.out]
      rw[show i*13=off+i*13 by rw[HO.out,Nat.zero_add]]at S2
      have hz:(setL cr (off+i*13) [a0,a1,a2,a3,a4,a5,a6,a7,a8,a9,a10,a11,a12]).size=cap*13:=by rw[O0K];exact HW.out.2
      have SS:Aside _:=S2
      generalize setL cr (off+i*13) [a0,a1,a2,a3,a4,a5,a6,a7,a8,a9,a10,a11,a12]=cr2 at R2 hz S2 SS
      simp only[World.setCells,Nat.add_assoc,Nat.reduceAdd]at R1 R2 ⊢
      exact⟨i+1,j+1,cr2,by first|rfl|go_num,by first|rfl|go_num,by omega,Nat.le_refl _,by omega,R1,⟨R2,hz⟩,SS⟩
    |true =>
     rw[hq]at hcall
     have hA:Below wr.heap.size wr (wr.alloc (.cells #[a0,a1,a2,a3,a4,a5,a6,a7,a8,a9,a10,a11,a12] 44)):=(Below.refl _ wr).alloc (Nat.le_refl _) _
     go_wp2_with (go_at_fn g;refine(hcall _ hA).mono ?_;rintro e w' ⟨rfl,hb'⟩)
     have hrow1:w'.heap[blk]?=some (.cells cr ty (0,0)):=by rw[hb'.block blk (by simp;have:=BW.out.size;omega),hA.block blk (by have:=BW.out.size;omega)];exact HW.out.1
     go_roundg (n-(j+1))
     case measure=>omega
     case rel =>
      exact⟨i,j+1,cr,rfl,by first|rfl|go_num,by omega,Nat.le_refl _,by omega,(BW.out.below hA).below hb',⟨hrow1,HW.out.2⟩,SI.out.skip hq⟩
   ·obtain rfl:j=n:=by omega
    have hltz:¬ (j:Int)<(j:Int):=by omega
    have hcne:¬ cap=i:=by omega
    have hcne2:¬ i=cap:=by omega
    have hic:i ≤ cap:=by omega
    have hin:i ≤ j:=by omega
    obtain⟨zs,hzs⟩:∃zs,zs=(Builtin.zeroCells (Value.agg #[.int .i64 0,.int .i64 0,.int .i64 0,.int .i64 0,.int .i64 0,.int .i64 0,.int .i64 0,.int .i64 0,.int .i64 0,.int .i64 0,.int .i64 0,.int .i64 0,.slice none 0 0]).cells (j-i)).toList:=⟨_,rfl⟩
    have hzl:zs.length=(j-i)*13:=by
     rw[hzs]
     have:(Value.agg #[.int .i64 0,.int .i64 0,.int .i64 0,.int .i64 0,.int .i64 0,.int .i64 0,.int .i64 0,.int .i64 0,.int .i64 0,.int .i64 0,.int .i64 0,.int .i64 0,.slice none 0 0]).cells.size=13:=rfl
     simp only[Builtin.zeroCells,Array.toList_map,List.length_map,Array.length_toList,Array.size_range,this]
    have hz0:∀v∈zs,v.oneCell'=true:=by
     intro v hv
     rw[hzs]at hv
     simp only[Builtin.zeroCells,Array.toList_map,List.mem_map]at hv
     obtain⟨q,_,rfl⟩:=hv
     have hc:(Value.agg #[.int .i64 0,.int .i64 0,.int .i64 0,.int .i64 0,.int .i64 0,.int .i64 0,.int .i64 0,.int .i64 0,.int .i64 0,.int .i64 0,.int .i64 0,.int .i64 0,.slice none 0 0]).cells=#[Value.int .i64 0,.int .i64 0,.int .i64 0,.int .i64 0,.int .i64 0,.int .i64 0,.int .i64 0,.int .i64 0,.int .i64 0,.int .i64 0,.int .i64 0,.int .i64 0,.slice none 0 0]:=rfl
     rw[hc]
     have hq:q % 13<13:=Nat.mod_lt _ (by omega)
     show Value.oneCell' (#[Value.int .i64 0,.int .i64 0,.int .i64 0,.int .i64 0,.int .i64 0,.int .i64 0,.int .i64 0,.int .i64 0,.int .i64 0,.int .i64 0,.int .i64 0,.int .i64 0,.slice none 0 0][q % 13]!)=true
     generalize q % 13=k at hq
     match k with
     |0|1|2|3|4|5|6|7|8|9|10|11|12=>rfl
     |k+13=>omega
    have hclr:∀ty2,(Builtin.clear_ #[31] ty2 #[.slice (some ⟨blk,off+i*13,none⟩) (j-i) (cap-i)]).run Tryz.prog wr=.ok (.tuple #[]) (wr.setCells blk (off+i*13) zs):=by
     intro ty2
     refine L1i wr 31 44 ty2 _ Tryz.underlying31 Tryz.zeroValue44 blk _ _ _ zs hzs hz0 (by omega) (fun q hq=>?_) fun q hq=>frozen_of_row wr blk _ cr ty HW.out.1
     rw[Nat.add_assoc,HC.out wr cr HW.out.1]
     rw[hzl]at hq
     have:i*13+q<cr.size:=by
      rw[HW.out.2]
      have h1:(j-i)*13=j*13-i*13:=Nat.sub_mul ..
      have h2:j*13 ≤ cap*13:=Nat.mul_le_mul_right 13 hn
      omega
     simp[this]
    have HZ:Aside (zs.length=(j-i)*13):=hzl
    clear hzs hzl hz0
    go_wp2
    go_ret
    obtain⟨R1,R2⟩:=J1x zs (off+i*13) wr cr BW.out HW.out.1
    have hsz:off+i*13+zs.length ≤ cr.size:=by
     rw[HZ.out,HW.out.2,HO.out]
     have h1:(j-i)*13=j*13-i*13:=Nat.sub_mul ..
     have h2:j*13 ≤ cap*13:=Nat.mul_le_mul_right 13 hn
     have h3:i*13 ≤ j*13:=Nat.mul_le_mul_right 13 hin
     omega
    have hg:=Y14 zs cr (off+i*13) hsz
    rw[HO.out,Nat.zero_add]at hg
    refine⟨by rw[SI.out.len];rfl,R1,_,R2,by rw[O0K];exact HW.out.2,fun t s ht c hc=>?_⟩
    have htl:t<i:=by have:=(List.getElem?_eq_some_iff.1 ht).1;rwa [SI.out.len]at this
    rw[HO.out,Nat.zero_add,hg,if_neg (by omega)]
    exact SI.out.low t s ht c hc
end Go.Proofs.YtpgaganbacipnaaGreat
namespace Go.Proofs.YtpgaganbacipnaaGreat
open Go Go.RowKit
theorem W1k(W:World)(a b:Obj):∃q os,(W.alloc a).alloc b=Go.Sort.grow (W.drewN q) os:=⟨0,#[a]++#[b],by rw[Go.Sort.alloc_eq_grow,Go.Sort.alloc_eq_grow,Go.Sort.grow_grow];rfl⟩
theorem O1D(W:World)(a b:Obj)(q:Nat)(os:Array Obj):∃q' os',Go.Sort.grow (((W.alloc a).alloc b).drewN q) os=Go.Sort.grow (W.drewN q') os' :=
  ⟨q,(#[a]++#[b])++os,by
    rw[Go.Sort.alloc_eq_grow,Go.Sort.alloc_eq_grow,Go.Sort.grow_grow]
    show Go.Sort.grow (Go.Sort.grow (W.drewN q) (#[a]++#[b])) os=_
    rw[Go.Sort.grow_grow]⟩
set_option maxHeartbeats 4000000 in
theorem O1h(a0 a1 a2 a3 a4 a5 a6 a7 a8 a9 a10 a11 b0 b1 b2 b3 b4 b5 b6 b7 b8 b9 b10 b11:Int)(av bv:Value)(W:World) :
  Calls Tryz.prog 53 #[.agg #[.int .i64 a0,.int .i64 a1,.int .i64 a2,.int .i64 a3,.int .i64 a4,.int .i64 a5,.int .i64 a6,.int .i64 a7,.int .i64 a8,.int .i64 a9,.int .i64 a10,.int .i64 a11,av],.agg #[.int .i64 b0,.int .i64 b1,.int .i64 b2,.int .i64 b3,.int .i64 b4,.int .i64 b5,.int .i64 b6,.int .i64 b7,.int .i64 b8,.int .i64 b9,.int .i64 b10,.int .i64 b11,bv]] W fun e w' =>
   e=.returned (.bool (if a1≠b1 then decide (a1<b1)else if a11≠b11 then decide (b11<a11)else decide (b0<a0))) ∧ ∃q os,w'=Go.Sort.grow (W.drewN q) os:=by
 go_enter Tryz.func53,Tryz.ntmps53
 by_cases hc:a1=b1
 ·subst hc
  have hb:(a1 != a1)=false:=by simp
  by_cases hd:a11=b11
  ·subst hd
   have hb2:(a11 != a11)=false:=by simp
   go_wp2
   go_ret
   exact⟨by simp,W1k _ _ _⟩
  ·have hb2:(a11 != b11)=true:=by simpa using hd
   go_wp2
   go_ret
   exact⟨by simp,W1k _ _ _⟩
 ·have hb:(a1 != b1)=true:=by simpa using hc
  go_wp2
  go_ret
  exact⟨by simp,W1k _ _ _⟩
set_option maxHeartbeats 4000000 in
theorem L11(a0 a1 a2 a3 a4 a5 a6 a7 a8 a9 a10 a11 b0 b1 b2 b3 b4 b5 b6 b7 b8 b9 b10 b11:Int)(av bv:Value)(W:World) :
  Calls Tryz.prog 52 #[.agg #[.int .i64 a0,.int .i64 a1,.int .i64 a2,.int .i64 a3,.int .i64 a4,.int .i64 a5,.int .i64 a6,.int .i64 a7,.int .i64 a8,.int .i64 a9,.int .i64 a10,.int .i64 a11,av],.agg #[.int .i64 b0,.int .i64 b1,.int .i64 b2,.int .i64 b3,.int .i64 b4,.int .i64 b5,.int .i64 b6,.int .i64 b7,.int .i64 b8,.int .i64 b9,.int .i64 b10,.int .i64 b11,bv]] W fun e w' =>
   e=.returned (.int .i64 (if(if a1≠b1 then decide (a1<b1)else if a11≠b11 then decide (b11<a11)else decide (b0<a0))=true then -1 else 1)) ∧ ∃q os,w'=Go.Sort.grow (W.drewN q) os:=by
 have e106:∀args w,(callFunc 53 args).run Tryz.prog w=.ok (.enter 53 args) w:=enters_of Tryz.func53 (by kernel_rfl) rfl
 have hw:=O1h a0 a1 a2 a3 a4 a5 a6 a7 a8 a9 a10 a11 b0 b1 b2 b3 b4 b5 b6 b7 b8 b9 b10 b11 av bv
 generalize hr:(if a1≠b1 then decide (a1<b1)else if a11≠b11 then decide (b11<a11)else decide (b0<a0))=r at hw ⊢
 go_enter Tryz.func52,Tryz.ntmps52
 cases r with
 |true =>
  go_wp2_with (go_at_fn 53;refine(hw _).mono ?_;rintro e w' ⟨rfl,q,os,rfl⟩)
  go_ret
  exact⟨by simp,O1D _ _ _ _ _⟩
 |false =>
  go_wp2_with (go_at_fn 53;refine(hw _).mono ?_;rintro e w' ⟨rfl,q,os,rfl⟩)
  go_ret
  exact⟨by simp,O1D _ _ _ _ _⟩
end Go.Proofs.YtpgaganbacipnaaGreat
