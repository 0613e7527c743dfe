/-
  Lemmas, part 1.
-/
import Derived.Test.YtehomnafaoplgaaGreatProg
import Derived.Deep.QuietTactic
import Derived.Deep.Draws
import Derived.WalkKit
import Derived.Below
import Derived.OwnWalk
import Derived.Sort.Grow
import Derived.Deep.LoopGhost
import Derived.Deep.RegionLaw
import Derived.Lib.Walk
import Derived.Sort.WalkB12
import Derived.Lib.SliceRun
import Derived.Shelf.RegionOpenPlain
import Derived.Deep.MidRow
namespace Go.Proofs.YtehomnafaoplgaaGreat
open Go Go.RowKit
set_option maxHeartbeats 1000000 in
theorem M1Q(x y:Nat)(cx cy:Int)(b ob r o n cap:Nat)(W:World)(hn:n ≤ 24)(hx:x<n)(hy:y<n)
  (hbox:W.cell? ⟨b,ob,none⟩=some (.slice (some ⟨r,o,none⟩) n cap)) (h1:W.cell? ⟨r,o+x,none⟩=some (.int .i64 cx)) (h2:W.cell? ⟨r,o+y,none⟩=some (.int .i64 cy)) :
  Calls Tryz.prog 256 #[.int .i64 x,.int .i64 y,.pointer (some ⟨b,ob,none⟩)] W fun e w'=>e=.returned (.int .i64 (if cx≠cy then IntKind.i64.wrap (cy-cx)else IntKind.i64.wrap ((x:Int)-y))) ∧ ∃q,w'=W.drewN q:=by
 go_enter Tryz.func256,Tryz.ntmps256
 have i1:(0:Int) ≤ (x:Int):=by omega
 have i2:(x:Int)<(n:Int):=by omega
 have i3:(0:Int) ≤ (y:Int):=by omega
 have i4:(y:Int)<(n:Int):=by omega
 by_cases hc:cx=cy
 ·subst hc
  have hb:(cx != cx)=false:=by simp
  go_wp2
  go_quiet (fail)
  go_wp2
  go_ret
  refine⟨?_,_,rfl⟩
  have e:IntKind.i64.wrap ((x:Int)-y)=(x:Int)-y:=by rw[IntKind.wrap_i64];omega
  simp[e]
 ·have hb:(cx != cy)=true:=by simpa using hc
  go_wp2
  go_quiet (fail)
  go_wp2
  go_quiet (fail)
  go_wp2
  go_ret
  exact⟨by simp,_,rfl⟩
theorem X2o(W:World)(a b:Obj):∃q os,(W.alloc a).alloc b=Go.Sort.grow (W.drewN q) os:=⟨0,#[a]++#[b],by rw[Go.Sort.alloc_eq_grow,Go.Sort.alloc_eq_grow,Go.Sort.grow_grow];rfl⟩
set_option maxHeartbeats 1000000 in
theorem O1S(a0 a1 a2 a3 a4 a5 a6 a7 a8 a9 a10 b0 b1 b2 b3 b4 b5 b6 b7 b8 b9 b10:Int)(W:World) :
  Calls Tryz.prog 283 #[.agg #[.int .i64 a0,.int .i64 a1,.int .i64 a2,.int .i64 a3,.int .i64 a4,.int .i64 a5,.int .i64 a6,.int .i64 a7,.int .i64 a8,.int .i64 a9,.int .i64 a10],.agg #[.int .i64 b0,.int .i64 b1,.int .i64 b2,.int .i64 b3,.int .i64 b4,.int .i64 b5,.int .i64 b6,.int .i64 b7,.int .i64 b8,.int .i64 b9,.int .i64 b10]] W fun e w' =>
   e=.returned (.int .i64 (if a1≠b1 then wrap64 (b1-a1)else wrap64 (a0-b0))) ∧ ∃q os,w'=Go.Sort.grow (W.drewN q) os:=by
 go_enter Tryz.func283,Tryz.ntmps283
 by_cases hc:a1=b1
 ·subst hc
  have hb:(a1 != a1)=false:=by simp
  go_wp2
  go_ret
  exact⟨by simp,X2o _ _ _⟩
 ·have hb:(a1 != b1)=true:=by simpa using hc
  go_wp2
  go_ret
  exact⟨by simp[],X2o _ _ _⟩
end Go.Proofs.YtehomnafaoplgaaGreat
namespace Go.Proofs.YtehomnafaoplgaaGreat
open Go Go.RowKit Go.Lib Go.Sort
theorem Q1S{P:Program}(w:World)(t e ty:TypeId)(z:Value)(ht:P.underlying t=some (.slice e))(hv:∀w,(zeroValue e).run P w=.ok z w)(b o n c:Nat)(zs:List Value)(hzs:zs=(Builtin.zeroCells z.cells n).toList)(h1:∀v∈zs,v.oneCell'=true)(hn:0<n)
  (hc:∀j,j<zs.length → (w.cell? ⟨b,o+j,none⟩).isSome=true) (hf:∀j,j<zs.length → w.frozen? ⟨b,o+j,none⟩=false) :
  (Builtin.clear_ #[t] ty #[.slice (some ⟨b,o,none⟩) n c]).run P w=.ok (.tuple #[]) (w.setCells b o zs):=by
 have hst:=run_storeCells_cells (P:=P) b o zs 0 w (by simpa using hc) (by simpa using hf) h1
 simp only[Nat.add_zero]at hst
 obtain⟨m,rfl⟩:∃m,n=m+1:=⟨n-1,by omega⟩
 rw[hzs]at hst ⊢
 simp[Builtin.clear_,run_underlying ht,hv,hst]
set_option maxHeartbeats 4000000 in
set_option maxRecDepth 1000000 in
theorem W2k(blk cap n i j:Nat)(W:World)(news zs:List Value)(i0:TypeInfo)(hi0:Tryz.prog.info? 68=some i0)(hz1:i0.size=11)(t39:Tryz.prog.underlying 29=some (.slice 68))(z:Value)(hv:∀w,(zeroValue 68).run Tryz.prog w=.ok z w)
  (hzs:zs=(Builtin.zeroCells z.cells (n-(i+(n-j)))).toList) (hzl:zs.length=(j-i)*11) (hz0:∀v∈zs,v.oneCell'=true) (_:cap ≤ 9223372036854775807) (hij:i<j) (hj:j ≤ n) (hn:n ≤ cap) (hl:news.length=(n-j)*11)
  (h1:∀v∈news,v.oneCell'=true) (hsrc:∀t u,news[t]?=some u → W.cell? ⟨blk,j*11+t,none⟩=some u) (hsp:∀t,t<n*11 → (W.cell? ⟨blk,t,none⟩).isSome=true ∧ W.frozen? ⟨blk,t,none⟩=false) :
  Calls Tryz.prog 176 #[.slice (some ⟨blk,0,none⟩) n cap,.int .i64 i,.int .i64 j] W fun e w'=>e=.returned (.slice (some ⟨blk,0,none⟩) (i+(n-j)) cap) ∧ w'=(W.drew.setCells blk (i*11) news).setCells blk ((i+(n-j))*11) zs:=by
 obtain⟨A,hA,hsrc2⟩:∃A:Addr,(if cap=j then some (⟨blk,0,none⟩:Addr)else some ⟨blk,j*11,none⟩)=some A ∧ Hid (∀t u,news[t]?=some u → W.drew.cell? (A.add t)=some u):=by
  by_cases h:cap=j
  ·refine⟨⟨blk,0,none⟩,by simp[h],fun t u hu=>?_⟩
   have h0:news.length=0:=by rw[hl,show n-j=0 by omega]
   rw[List.length_eq_zero_iff.1 h0]at hu
   simp at hu
  ·refine⟨⟨blk,j*11,none⟩,by simp[h],fun t u hu=>?_⟩
   rw[Addr.add_lit]
   exact hsrc t u hu
 have s1:Hid (news.length=(n-j)*11):=hl
 have s2:Hid (∀u∈news,u.oneCell'=true):=h1
 have s3:Hid (∀t,t<news.length → (W.drew.cell? ⟨blk,0+i*11+t,none⟩).isSome=true ∧ W.drew.frozen? ⟨blk,0+i*11+t,none⟩=false):=by
  intro t ht
  rw[Nat.zero_add]
  exact hsp (i*11+t) (by rw[hl]at ht;omega)
 obtain⟨W1,hW1⟩:∃W1,W1=W.drew.setCells blk (0+i*11) news:=⟨_,rfl⟩
 have hcl:∀ty,(Builtin.clear_ #[29] ty #[.slice (some ⟨blk,(i+(n-j))*11,none⟩) (n-(i+(n-j))) (cap-(i+(n-j)))]).run Tryz.prog W1=.ok (.tuple #[]) (W1.setCells blk ((i+(n-j))*11) zs):=by
  intro ty
  refine Q1S W1 29 68 ty z t39 hv blk _ _ _ zs hzs hz0 (by omega) (fun t ht=>?_) fun t ht=>?_
  ·rw[hW1]
   exact World.isSome_setCells _ _ _ _ _ (hsp ((i+(n-j))*11+t) (by rw[hzl]at ht;omega)).1
  ·rw[hW1,World.frozen?_setCells]
   exact(hsp ((i+(n-j))*11+t) (by rw[hzl]at ht;omega)).2
 have hW:Hid (W1=W.drew.setCells blk (0+i*11) news):=hW1
 have hW2:Aside (W1=W.drew.setCells blk (0+i*11) news):=hW1
 have mixed:Tryz.prog.follows .mixedOrders=true:=by kernel_rfl
 have hic:i ≤ cap:=by omega
 have hjc:j ≤ cap:=by omega
 clear hW1 hsrc hsp hl h1 hzs hz0
 go_enter Tryz.func176,Tryz.ntmps176
 go_wp2_with fail
 go_region_law_o (refine step_append_room rfl (.tmp 22) (.tmp 25) 29 rfl 68 i0 11 t39 hi0 hz1 blk 0 i cap (by simp[Act.eval,Act.put]) A (n-j) (cap-j) news (by simp[Act.eval,Act.put]) s1.out hsrc2.out s2.out (by omega) s3.out ?_;rw[← hW.out])
 go_wp2
 go_ret
 rw[hW2.out]
 simp only[Nat.zero_add]
 exact⟨rfl,trivial⟩
end Go.Proofs.YtehomnafaoplgaaGreat
