/-
  Lemmas, part 9: the engine that steps through the code, the walks of functions, and the laws of what they compute.
-/
import Derived.Test.YtpljbgcghpamjaaGreatRA8
namespace Go.Proofs.YtpljbgcghpamjaaGreat
open Go Go.RowKit Eng
theorem Zma (P:List Int) (s:Int) (hl:P.length <= 1048576):impl_isLeaf P s = some (kids P s).isEmpty:=by
 unfold impl_isLeaf
 have h:=ZFa (bd:=Ze2 P s) (fun (i:Nat) (_:Unit)=>(i:Int)) (n:=P.length)
  (B:=fun x _ _ k=>bif P[x]? == some s then some false else k ()) (kk:=fun _=>some true) (fun i st k hi=>by
   obtain ⟨e,he⟩:∃ e,P[i]? = some e:=⟨_,yA hi⟩
   have hlt:(i:Int) < (P.length:Int):=by omega
   simp only [Ze2,hlt,decide_true,cond_true,Za,he,bS,Zz (n:=i) (by omega)]
   rw [show (some e == some s) = (e == s) from rfl])
  (fun i st k hi=>by
   have hlt:¬ (i:Int) < (P.length:Int):=by omega
   simp only [Ze2,hlt,decide_false,cond_false]) 9223372036854775807 1 () (by omega)
 refine h.trans ?_
 rw [ZW1 (p:=fun (x:Nat)=>P[x]? == some s) (fun x _ i k=>rfl)]
 unfold kids
 generalize List.range' 1 (P.length - 1) = l
 induction l with
 | nil=>rfl
 | cons x l ih =>
  rw [List.any_cons,List.filter_cons]
  cases h:(P[x]? == some s) with
  | true=>simp
  | false=>simpa using ih
theorem Z68 {P:List Int} (T:TreeP P) {s:Nat} (hs:s < P.length):impl_depth P (s:Int) = some (dep P s:Int):=by
 unfold impl_depth
 refine ZU3 (fun _ r=>r = some (dep P s:Int)) (fun b=>b.1.toNat) (fun b=>∃ m:Nat,b.1 = (m:Int) /\ m < P.length /\ b.2 + (dep P m:Int) = (dep P s:Int) /\ 0 <= b.2) ?_ 9223372036854775807 _ ⟨s,rfl,hs,by simp,by simp⟩ (by have:=T.le; simp only; omega)
 rintro ⟨x,n⟩ k ⟨m,hm,h1,h2,h3⟩ hk
 simp only at hm h2 hk h3
 subst hm
 have hle:=T.le
 have hdl:=ZCo P s
 unfold Z37
 by_cases h0:0 < m
 .have hp:=T.par_lt (i:=m) (by omega) h1
  have hlt:(0:Int) < (m:Int):=by omega
  simp only [hlt,decide_true,cond_true,Za,hp.2,bS]
  have hd:=T.dep_succ (i:=m) (by omega) h1
  rw [ZM (by omega)]
  refine hk _ ⟨_,rfl,by omega,by simp only; omega,by simp only; omega⟩ (by simp only; omega)
 .have:m = 0:=by omega
  subst this
  rw [dep_zero] at h2
  simp only [Int.natCast_zero,Int.lt_irrefl,decide_false,cond_false]
  congr 1
  omega
theorem Zlg (t:Topo):∃ b,impl_TopoOk t = some b /\ (b = true ↔ TopoP t):=by
 unfold impl_TopoOk
 cases hw:impl_within (t.parents.length:Int) 1 24 with
 | false =>
  refine ⟨false,by simp,ZP1 fun h=>?_⟩
  have:=h.tree.pos; have:=h.tree.le
  simp [impl_within] at hw
  omega
 | true =>
 have hw':1 <= t.parents.length /\ t.parents.length <= 24:=by simp [impl_within] at hw; omega
 obtain ⟨p0,hp0⟩:∃ p0,t.parents[0]? = some p0:=⟨_,yA (by omega)⟩
 simp only [Bool.not_true,cond_false,Bool.false_or,show idx t.parents 0 = some p0 from by rw [← hp0]; exact Za (i:=0),bS]
 by_cases h4:p0 = 0
 rotate_left
 .refine ⟨false,by rw [show (p0 != 0) = true by simpa using h4]; rfl,ZP1 fun h=>h4 ?_⟩
  have:=h.tree.root
  rw [hp0] at this; exact Option.some.inj this
 subst h4
 by_cases h3:24 < t.nodes.length
 .exact ⟨false,by simp [show ((24:Int) < t.nodes.length) by omega],ZP1 fun h=>by have:=h.nodes; omega⟩
 have e3:decide ((24:Int) < (t.nodes.length:Int)) = false:=by simp; omega
 rw [e3]
 simp only [bne_self_eq_false,Bool.or_self,cond_false]
 have h:=ZFa (bd:=Zf2 t) (fun (i:Nat) (_:Unit)=>(i:Int)) (n:=t.parents.length)
  (B:=fun x _ _ k=>bif (match t.parents[x]? with | some e=>!(impl_within e 0 (w64 ((x:Int) - 1))) | none=>true) then some false else k ())
  (kk:=fun _=>rgl (ZK3 t) (ZI3 t) t.parents 0 (-1)) (fun i st k hi=>by
   obtain ⟨e,he⟩:∃ e,t.parents[i]? = some e:=⟨_,yA hi⟩
   have hlt:(i:Int) < (t.parents.length:Int):=by omega
   simp only [Zf2,hlt,decide_true,cond_true,Za,he,bS,Zz (n:=i) (by omega)])
  (fun i st k hi=>by
   have hlt:¬ (i:Int) < (t.parents.length:Int):=by omega
   simp only [Zf2,hlt,decide_false,cond_false]) 9223372036854775807 1 () (by omega)
 rw [show (1:Int) = ((1:Nat):Int) from rfl,h,ZW1 (p:=fun (x:Nat)=>match t.parents[x]? with | some e=>!(impl_within e 0 (w64 ((x:Int) - 1))) | none=>true) (fun x _ i k=>rfl)]
 cases hany:(List.range' 1 (t.parents.length - 1)).any (fun (x:Nat)=>match t.parents[x]? with | some e=>!(impl_within e 0 (w64 ((x:Int) - 1))) | none=>true) with
 | true =>
  refine ⟨false,rfl,ZP1 fun hT=>?_⟩
  obtain ⟨x,hx,hq⟩:=List.any_eq_true.1 hany
  obtain ⟨j,hj,rfl⟩:=List.mem_range'.1 hx
  obtain ⟨e,he⟩:∃ e,t.parents[1 + 1 * j]? = some e:=⟨_,yA (by omega)⟩
  have:=hT.tree.par _ (by omega) e he
  rw [he] at hq
  simp only at hq
  rw [ZM (by omega)] at hq
  simp [impl_within] at hq
  omega
 | false =>
  have T:TreeP t.parents:=⟨by omega,by omega,hp0,fun i hi p hp=>by
   have hlt:i < t.parents.length:=(yB hp).1
   have:=List.any_eq_false.1 hany i (List.mem_range'.2 ⟨i - 1,by omega,by omega⟩)
   rw [hp] at this
   simp only at this
   rw [ZM (by omega)] at this
   simp [impl_within] at this
   omega⟩
  rw [cond_false]
  refine ZG1 (fun i (v:Int)=>(v = -1 /\ ∀ l,l < i -> kids t.parents (l:Int) ≠ []) \/ (0 <= v /\ (∃ l,l < i /\ kids t.parents (l:Int) = []) /\ ∀ l,l < i -> kids t.parents (l:Int) = [] -> (dep t.parents l:Int) = v))
   (fun r=>∃ b,r = some b /\ (b = true ↔ TopoP t)) ?_ ?_ (.inl ⟨rfl,fun l hl=>by omega⟩)
  .intro i x v k hi hI hk
   have hil:i < t.parents.length:=(yB hi).1
   rw [ZK3,Zma _ _ (by omega),bS]
   cases hkd:kids t.parents (i:Int) with
   | cons a l =>
    simp only [List.isEmpty_cons,Bool.not_false,cond_true]
    refine hk v ?_
    rcases hI with ⟨q1,q2⟩ | ⟨q1,⟨l0,q2,q3⟩,q4⟩
    .refine .inl ⟨q1,fun l hl=>?_⟩
     by_cases e:l = i
     .subst e; rw [hkd]; simp
     .exact q2 l (by omega)
    .refine .inr ⟨q1,⟨l0,by omega,q3⟩,fun l hl hl2=>?_⟩
     by_cases e:l = i
     .subst e; rw [hkd] at hl2; cases hl2
     .exact q4 l (by omega) hl2
   | nil =>
    simp only [List.isEmpty_nil,Bool.not_true,cond_false,Z68 T hil,bS]
    have hnew:∀ v',(∀ l,l < i -> kids t.parents (l:Int) = [] -> (dep t.parents l:Int) = dep t.parents i) -> v' = (dep t.parents i:Int) -> (v' = -1 /\ ∀ l,l < i + 1 -> kids t.parents (l:Int) ≠ []) \/ (0 <= v' /\ (∃ l,l < i + 1 /\ kids t.parents (l:Int) = []) /\ ∀ l,l < i + 1 -> kids t.parents (l:Int) = [] -> (dep t.parents l:Int) = v'):=by
     intro v' hq e
     subst e
     refine .inr ⟨by omega,⟨i,by omega,hkd⟩,fun l hl hl2=>?_⟩
     by_cases e:l = i
     .subst e; rfl
     .exact hq l (by omega) hl2
    rcases hI with ⟨rfl,q2⟩ | ⟨q1,⟨l0,q2,q3⟩,q4⟩
    .simp only [show decide ((0:Int) <= -1) = false from rfl,Bool.false_and,cond_false]
     exact hk _ (hnew _ (fun l hl hl2=>absurd hl2 (q2 l hl)) rfl)
    .by_cases he:(dep t.parents i:Int) = v
     .rw [he]
      simp only [bne_self_eq_false,Bool.and_false,cond_false]
      exact hk _ (hnew _ (fun l hl hl2=>by rw [q4 l hl hl2,he]) he.symm)
     .have e1:((dep t.parents i:Int) != v) = true:=by simpa using he
      rw [e1,show decide (0 <= v) = true by simpa using q1]
      refine ⟨false,rfl,ZP1 fun hT=>he ?_⟩
      rw [← q4 l0 q2 q3]
      exact_mod_cast hT.even i l0 hil (by omega) hkd q3
  .intro v hI
   rw [ZI3]
   have hb:∀ x ∈ t.nodes,∀ i k,ZJ3 t x i () k = bif (!(decide (0 <= x.leaf) && decide (x.leaf < t.parents.length) && (kids t.parents x.leaf).isEmpty && spec_VecOk x.cap)) then some false else k ():=by
    intro x _ i k
    unfold ZJ3
    rw [ZM (by omega)]
    by_cases q1:x.leaf < 0
    .simp [impl_within,show ¬ 0 <= x.leaf by omega]
    .by_cases q2:(t.parents.length:Int) <= x.leaf
     .simp [impl_within,show ¬ x.leaf < t.parents.length by omega,show ¬ x.leaf <= (t.parents.length:Int) - 1 by omega]
     .have e:impl_within x.leaf 0 ((t.parents.length:Int) - 1) = true:=by simp [impl_within]; omega
      rw [e]
      simp only [Bool.not_true,cond_false,Bool.false_or,Zma t.parents x.leaf (by omega),bS,Zu1]
      rw [show decide (0 <= x.leaf) = true by simpa using q1,show decide (x.leaf < (t.parents.length:Int)) = true by simpa using q2]
      cases (kids t.parents x.leaf).isEmpty <;> cases spec_VecOk x.cap <;> rfl
   rw [ZW1 hb]
   cases hany2:t.nodes.any (fun x=>!(decide (0 <= x.leaf) && decide (x.leaf < t.parents.length) && (kids t.parents x.leaf).isEmpty && spec_VecOk x.cap)) with
   | true =>
    refine ⟨false,rfl,ZP1 fun hT=>?_⟩
    obtain ⟨x,hx,hq⟩:=List.any_eq_true.1 hany2
    obtain ⟨a1,a2,a3,a4⟩:=hT.node x hx
    simp [a1,a2,a3,a4] at hq
   | false =>
    refine ⟨true,rfl,⟨fun _=>⟨T,by omega,fun x hx=>?_,fun l1 l2 a1 a2 a3 a4=>?_⟩,fun _=>rfl⟩⟩
    .have:=List.any_eq_false.1 hany2 x hx
     simpa [and_assoc] using this
    .rcases hI with ⟨_,q2⟩ | ⟨q1,_,q4⟩
     .exact absurd a3 (q2 l1 a1)
     .have:=q4 l1 a1 a3
      have:=q4 l2 a2 a4
      omega
theorem Z67 (t:Topo):impl_TopoOk t = spec_TopoOk t:=by
 obtain ⟨a,h1,h2⟩:=Zlg t
 obtain ⟨b,h3,h4⟩:=ZC5 t
 rw [h1,h3]
 congr 1
 exact Bool.eq_iff_iff.2 (h2.trans h4.symm)
noncomputable def topoOk (t:Topo):Bool:=(spec_TopoOk t).getD false
theorem ZG2 (t:Topo):spec_TopoOk t = some (topoOk t):=by
 obtain ⟨b,h3,_⟩:=ZC5 t
 rw [topoOk,h3]; rfl
theorem Zy7 {t:Topo}:topoOk t = true ↔ TopoP t:=by
 obtain ⟨b,h3,h4⟩:=ZC5 t
 rw [topoOk,h3]; exact h4
theorem TopoP.last {t:Topo} (h:TopoP t):kids t.parents ((t.parents.length - 1:Nat):Int) = []:=by
 cases hk:kids t.parents ((t.parents.length - 1:Nat):Int) with
 | nil=>rfl
 | cons c l =>
  obtain ⟨q1,q2,q3,q4⟩:=h.tree.kid_par (s:=t.parents.length - 1) (c:=c) (by rw [hk]; exact List.mem_cons_self ..)
  omega
def lev (t:Topo) (s:Nat):Int:=(dep t.parents (t.parents.length - 1):Int) - dep t.parents s
theorem Zl3 {t:Topo} (h:TopoP t) {s:Nat} (hs:s < t.parents.length):spec_l02Level t (s:Int) = some (lev t s):=by
 obtain ⟨v,h1,h2⟩:=Zv8 h.tree hs
 rw [h1]
 have hp:=h.tree.pos
 obtain ⟨l,hl⟩:=h.tree.some_leaf _ s rfl hs
 rcases h2 with ⟨_,_,h2⟩ | ⟨_,l1,l2,a1,a2,hne⟩
 .have e1:=h2 l hl
  have e2:=h.even l (t.parents.length - 1) hl.lt (by omega) hl.leaf h.last
  unfold lev
  congr 1
  omega
 .exact absurd (h.even l1 l2 a1.lt a2.lt a1.leaf a2.leaf) hne
theorem ZN5 {t:Topo} (h:TopoP t) {s:Nat} (hs:s < t.parents.length):impl_level t (s:Int) = some (lev t s):=by
 have hp:=h.tree.pos
 have hle:=h.tree.le
 unfold impl_level impl_height
 rw [ZM (by omega),show ((t.parents.length:Int) - 1) = ((t.parents.length - 1:Nat):Int) by omega,Z68 h.tree (by omega),bS,bS,Z68 h.tree hs,bS]
 have:=ZCo t.parents (t.parents.length - 1)
 have:=ZCo t.parents s
 rw [ZM (by omega)]; rfl
theorem Zgj {t:Topo} (T:TreeP t.parents) {s:Nat} (hs:s < t.parents.length):spec_l02Up t (s:Int) = some ((ups t.parents s).map fun (i:Nat)=>(i:Int)):=by
 unfold spec_l02Up
 refine ZU3 (fun _ r=>r = some ((ups t.parents s).map fun (i:Nat)=>(i:Int))) (fun b=>b.1.toNat) (fun b=>∃ m:Nat,b.1 = (m:Int) /\ m < t.parents.length /\ b.2.length + m <= 1000 /\ ∃ l,b.2 = l ++ [(m:Int)] /\ (ups t.parents s).map (fun (i:Nat)=>(i:Int)) = l ++ (ups t.parents m).map fun (i:Nat)=>(i:Int)) ?_ 9223372036854775807 _ ⟨s,rfl,hs,by have:=T.le; simp; omega,[],by simp⟩ (by have:=T.le; simp only; omega)
 rintro ⟨x,n⟩ k ⟨m,hm,h1,h2,l,h3,h4⟩ hk
 simp only at hm h2 hk h3
 subst hm
 have hle:=T.le
 unfold ZK6
 by_cases h0:0 < m
 .have hp:=T.par_lt (i:=m) (by omega) h1
  have hlt:(0:Int) < (m:Int):=by omega
  simp only [hlt,decide_true,cond_true,Za,hp.2,bS]
  rw [Zt (by simp; omega),bS]
  refine hk _ ⟨_,rfl,by omega,by simp; omega,n,rfl,?_⟩ (by simp only; omega)
  rw [h4,h3,T.ups_succ (by omega) h1]
  simp
 .have:m = 0:=by omega
  subst this
  simp only [Int.natCast_zero,Int.lt_irrefl,decide_false,cond_false]
  rw [h4,h3,Z8j]; rfl
theorem ZHk (t:Topo) (s:Int):impl_above t s = spec_l02Up t s:=rfl
theorem ZF2 (l:List Int) (n:Int):spec_l02Has l n = some (l.contains n):=by
 unfold spec_l02Has
 rw [ZW1 (p:=fun x=>x == n) (fun x _ i k=>rfl)]
 unfold ZA5
 rw [show l.contains n = l.any (fun x=>x == n) from by rw [List.contains_eq_any_beq]; congr 1; funext x; exact Bool.beq_comm]
 cases l.any fun x=>x == n <;> rfl
theorem ZXe (l:List Int) (n:Int):∃ r:Int,slices_Index_int_int l n = some r /\ decide (0 <= r) = l.contains n:=by
 unfold slices_Index_int_int
 refine ZG1 (fun i (_:Unit)=>∀ j x,j < i -> l[j]? = some x -> x ≠ n) (fun r=>∃ m:Int,r = some m /\ decide (0 <= m) = l.contains n) ?_ ?_ (fun j x h=>by omega)
 .intro i x b k hi hI hk
  unfold ZE1
  by_cases h:n = x
  .subst h
   simp only [beq_self_eq_true,cond_true]
   refine ⟨i,rfl,?_⟩
   have:l.contains n = true:=List.contains_iff_mem.2 (yE hi)
   rw [this]; simp
  .rw [show (n == x) = false by simpa using h,cond_false]
   refine hk () fun j y hj hy=>?_
   by_cases e:j = i
   .subst e; rw [hi] at hy; cases hy; exact fun e=>h e.symm
   .exact hI j y (by omega) hy
 .intro b hI
  refine ⟨-1,rfl,?_⟩
  have:l.contains n = false:=by
   rw [Bool.eq_false_iff]
   intro h
   obtain ⟨j,hj⟩:=List.getElem?_of_mem (List.contains_iff_mem.1 h)
   exact hI j n (yB hj).1 hj rfl
  rw [this]; rfl
theorem Zd6 (l:List Int) (n:Int):slices_Contains_int_int l n = some (l.contains n):=by
 obtain ⟨r,h1,h2⟩:=ZXe l n
 unfold slices_Contains_int_int
 rw [h1,bS,h2]
noncomputable def ZI1 (t:Topo) (l:List Int):Bool:=l.all (fun n=>decide (0 <= n) && decide (n < t.nodes.length)) && topoOk t
theorem Z44 {t:Topo} {l:List Int}:ZI1 t l = true ↔ TopoP t /\ ∀ n ∈ l,0 <= n /\ n < t.nodes.length:=by
 simp [ZI1,Zy7,and_comm]
theorem ZK4 (t:Topo) (l:List Int):spec_l02Nodes t l = some (ZI1 t l):=by
 unfold spec_l02Nodes ZI1
 rw [ZW1 (r:=some false) (p:=fun (x:Int)=>!(decide (0 <= x) && decide (x < t.nodes.length))) (fun x _ i k=>by
  unfold Zr2
  by_cases h1:x < 0
  .simp [h1,show ¬ 0 <= x by omega]
  .by_cases h2:(t.nodes.length:Int) <= x
   .simp [h1,h2,show 0 <= x by omega,show ¬ x < t.nodes.length by omega]
   .simp [h1,h2,show 0 <= x by omega,show x < t.nodes.length by omega])]
 unfold Zq2
 rw [ZG2,← List.not_all_eq_any_not]
 cases l.all fun n=>decide (0 <= n) && decide (n < t.nodes.length) <;> rfl
theorem ZJ8 (t:Topo) (l:List Int) (hl:t.nodes.length <= 1048576):impl_areNodes t l = some (ZI1 t l):=by
 rw [← ZK4]
 unfold impl_areNodes spec_l02Nodes
 refine ZE7 (fun i x b k _=>?_) fun b=>?_
 .unfold Z74 Zr2
  rw [ZM (by omega)]
  by_cases h1:x < 0
  .simp [impl_within,h1,show ¬ 0 <= x by omega]
  .by_cases h2:(t.nodes.length:Int) <= x
   .simp [impl_within,h1,h2,show 0 <= x by omega,show ¬ x <= (t.nodes.length:Int) - 1 by omega]
   .simp [impl_within,h1,h2,show 0 <= x by omega,show x <= (t.nodes.length:Int) - 1 by omega]
 .unfold Z64 Zq2
  rw [Z67]
def hasUp (t:Topo) (n:Int) (s:Nat):Bool:=match idx t.nodes n with
 | some e=>((ups t.parents e.leaf.toNat).map fun (i:Nat)=>(i:Int)).contains (s:Int)
 | none=>false
theorem Z4d {t:Topo} {l:List Int} (h:ZI1 t l = true) {n:Int} (hn:n ∈ l):∃ (e:Node) (m:Nat),idx t.nodes n = some e /\ e.leaf = m /\ m < t.parents.length:=by
 obtain ⟨h1,h2⟩:=Z44.1 h
 obtain ⟨e,q1,q2⟩:=ZOk (l:=t.nodes) (i:=n) (h2 n hn).1 (h2 n hn).2
 obtain ⟨a1,a2,_,_⟩:=h1.node e (yE q2)
 exact ⟨e,e.leaf.toNat,q1,by omega,by omega⟩
theorem ZXm {t:Topo} {l:List Int} (h:ZI1 t l = true) {n:Int} (hn:n ∈ l) (s:Nat) {γ:Type} (f:Bool -> Option γ) :
  ((idx t.nodes n).bind fun e=>(spec_l02Up t e.leaf).bind fun y=>(spec_l02Has y (s:Int)).bind f) = f (hasUp t n s):=by
 obtain ⟨e,m,q1,q2,q3⟩:=Z4d h hn
 have T:=(Z44.1 h).1.tree
 unfold hasUp
 rw [q1,bS,q2,Zgj T q3,bS,ZF2,bS]
 simp [q2]
theorem Zun {t:Topo} {l:List Int} (h:ZI1 t l = true) {n:Int} (hn:n ∈ l):hasUp t n 0 = true:=by
 obtain ⟨e,m,q1,q2,q3⟩:=Z4d h hn
 have T:=(Z44.1 h).1.tree
 unfold hasUp
 rw [q1]
 simp only [List.contains_iff_mem,q2]
 exact List.mem_map.2 ⟨0,T.zero_up _ (by simpa using q3),rfl⟩
theorem ZZk (p:Int -> Bool):∀ (l:List Int) (v:Bool),l.foldl (fun v x=>v && p x) v = (v && l.all p)
 | [],v=>by simp
 | x :: l,v=>by rw [List.foldl_cons,ZZk p l,List.all_cons,Bool.and_assoc]
theorem ZQo {t:Topo} {l:List Int} (h:ZI1 t l = true) (s:Nat) (v5:Int) (k:Int -> Option Int) :
  rgl (Zc2 t s) (ZC1 t v5 s k) l 0 true = ZC1 t v5 s k (l.all fun n=>hasUp t n s) /\
  rgl (Zg2 t s) (ZM1 t v5 s k) l 0 true = ZM1 t v5 s k (l.all fun n=>hasUp t n s):=by
 constructor
 .rw [ZH5 (f:=fun v x=>v && hasUp t x s) (fun x hx i b k=>by
   unfold Zc2
   rw [ZXm h hx s (fun b10=>bif (!b10) then k false else k b)]
   cases hasUp t x s <;> simp),ZZk,Bool.true_and]
 .rw [ZH5 (f:=fun v x=>v && hasUp t x s) (fun x hx i b k=>by
   unfold Zg2
   cases b with
   | false=>simp only [cond_false,Bool.false_and]; rfl
   | true =>
    simp only [cond_true,Bool.true_and]
    rw [← ZXm h hx s k]
    congr 1; funext e; rw [ZHk]; congr 1; funext y; rw [Zd6,ZF2]),ZZk,Bool.true_and]
theorem Zlm {t:Topo} {l:List Int} (h:ZI1 t l = true) (hne:l ≠ []):∃ s:Nat,s < t.parents.length /\ spec_Lowest t l = some (s:Int) /\ impl_Lowest t l = some (s:Int):=by
 have hT:=(Z44.1 h).1
 have hnl:=hT.nodes
 have hpos:=hT.tree.pos
 have e1:((l.length:Int) == 0) = false:=by
  cases l with
  | nil=>exact absurd rfl hne
  | cons a l=>simp; omega
 -- both loops: one more switch
 have step:∀ (i:Nat) (b:Int) (k:Int -> Option Int),i < t.parents.length -> (b = -1 \/ ∃ s:Nat,b = s /\ s < t.parents.length) ->
   rgl (Zc2 t i) (ZC1 t b i k) l 0 true = k (bif (l.all fun n=>hasUp t n i) && (decide (b < 0) || decide (lev t i <= lev t b.toNat)) then (i:Int) else b) /\
   rgl (Zg2 t i) (ZM1 t b i k) l 0 true = k (bif (l.all fun n=>hasUp t n i) && (decide (b < 0) || decide (lev t i <= lev t b.toNat)) then (i:Int) else b):=by
  intro i b k hi hb
  obtain ⟨q1,q2⟩:=ZQo h i b k
  rw [q1,q2]
  unfold ZC1 ZM1
  cases hall:l.all fun n=>hasUp t n i with
  | false=>exact ⟨rfl,rfl⟩
  | true =>
   rcases hb with rfl | ⟨s,rfl,hs⟩
   .exact ⟨rfl,rfl⟩
   .have hn:decide ((s:Int) < 0) = false:=by simp
    simp only [hn,cond_true,cond_false,Bool.true_and,Bool.false_or,Zl3 hT hi,Zl3 hT hs,ZN5 hT hi,ZN5 hT hs,bS,Int.toNat_natCast]
    cases decide (lev t i <= lev t s) <;> exact ⟨rfl,rfl⟩
 have fin:∀ (bd:Int -> Nat -> Int -> (Int -> Option Int) -> Option Int) (kk:Int -> Option Int),kk = some -> (∀ (x:Int) (i:Nat) (b:Int) (k:Int -> Option Int),i < t.parents.length -> (b = -1 \/ ∃ s:Nat,b = s /\ s < t.parents.length) -> bd x i b k = k (bif (l.all fun n=>hasUp t n i) && (decide (b < 0) || decide (lev t i <= lev t b.toNat)) then (i:Int) else b)) ->
   ∃ s:Nat,s < t.parents.length /\ rgl bd kk t.parents 0 (-1) = some (s:Int):=by
  intro bd kk hkk hbd
  refine ZG1 (fun i (b:Int)=>(i = 0 /\ b = -1) \/ (0 < i /\ ∃ s:Nat,b = s /\ s < t.parents.length)) (fun r=>∃ s:Nat,s < t.parents.length /\ r = some (s:Int)) ?_ ?_ (.inl ⟨rfl,rfl⟩)
  .intro i x b k hi hI hk
   have hil:=(yB hi).1
   rw [hbd x i b k hil (by rcases hI with h | h; exact .inl h.2; exact .inr h.2)]
   refine hk _ (.inr ⟨by omega,?_⟩)
   rcases hI with ⟨rfl,rfl⟩ | ⟨_,s,rfl,hs⟩
   .rw [show (l.all fun n=>hasUp t n 0) = true from List.all_eq_true.2 fun n hn=>Zun h hn]
    exact ⟨0,rfl,hpos⟩
   .cases ((l.all fun n=>hasUp t n i) && (decide ((s:Int) < 0) || decide (lev t i <= lev t (s:Int).toNat))) with
    | true=>exact ⟨i,rfl,hil⟩
    | false=>exact ⟨s,rfl,hs⟩
  .intro b hI
   rcases hI with ⟨h0,_⟩ | ⟨_,s,rfl,hs⟩
   .omega
   .exact ⟨s,hs,by rw [hkk]⟩
 have eq:rgl (ZM3 t l) ZR5 t.parents 0 (-1) = rgl (ZD1 t l) Zp3 t.parents 0 (-1):=by
  refine Zvj (fun i (b c:Int)=>b = c /\ (b = -1 \/ ∃ s:Nat,b = s /\ s < t.parents.length)) rfl (fun i x y b c k k2 hx hy hr hk=>?_) (fun b c hr=>by rw [hr.1]; rfl) ⟨rfl,.inl rfl⟩
  obtain ⟨rfl,hb⟩:=hr
  have hil:=(yB hx).1
  unfold ZM3 ZD1
  rw [(step i b k hil hb).2,(step i b k2 hil hb).1]
  refine hk _ _ ⟨rfl,?_⟩
  cases ((l.all fun n=>hasUp t n i) && (decide (b < 0) || decide (lev t i <= lev t b.toNat))) with
  | true=>exact .inr ⟨i,rfl,hil⟩
  | false=>exact hb
 obtain ⟨s,h1,h2⟩:=fin (ZD1 t l) Zp3 rfl fun x i b k hi hb=>by unfold ZD1; exact (step i b k hi hb).1
 refine ⟨s,h1,?_,?_⟩
 .unfold spec_Lowest
  rw [ZK4,h,bS,e1]
  exact h2
 .unfold impl_Lowest
  rw [ZJ8 t l (by omega),h,bS,e1]
  exact eq.trans h2
structure ProfP (p:List Pt):Prop where
 pos:0 < p.length
 le:p.length <= 200
 zero:∀ x,p[0]? = some x -> x.t = 0
 ok:∀ x ∈ p,time x.t = true /\ spec_VecOk x.free = true
 asc:∀ (i:Nat) (x y:Pt),p[i]? = some x -> p[i + 1]? = some y -> x.t < y.t /\ x.free ≠ y.free
theorem Zc7 (p:List Pt):impl_ProfOk p = spec_ProfOk p:=by
 have e:(!impl_within (p.length:Int) 1 200) = (decide ((p.length:Int) < 1) || decide (200 < (p.length:Int))):=by
  unfold impl_within
  rw [Bool.eq_iff_iff]; simp
 unfold impl_ProfOk spec_ProfOk
 rw [e]
 rfl
theorem ZDn (a b:Vec):(a.a == b.a && (a.b == b.b && (a.c == b.c && true))) = decide (a = b):=by
 cases a; cases b
 simp only [Vec.mk.injEq,Bool.and_true]
 rw [Bool.eq_iff_iff]
 simp
theorem Z59 (p:List Pt):∃ b,spec_ProfOk p = some b /\ (b = true ↔ ProfP p):=by
 unfold spec_ProfOk
 by_cases h1:p.length < 1
 .exact ⟨false,by simp [show ((p.length:Int) < 1) by omega],ZP1 fun h=>by have:=h.pos; omega⟩
 by_cases h2:200 < p.length
 .exact ⟨false,by simp [show ((200:Int) < p.length) by omega],ZP1 fun h=>by have:=h.le; omega⟩
 obtain ⟨p0,hp0⟩:∃ p0,p[0]? = some p0:=⟨_,yA (by omega)⟩
 have e1:decide ((p.length:Int) < 1) = false:=by simp; omega
 have e2:decide ((200:Int) < (p.length:Int)) = false:=by simp; omega
 rw [e1,e2]
 simp only [Bool.or_self,cond_false,Bool.false_or,show idx p 0 = some p0 from by rw [← hp0]; exact Za (i:=0),bS]
 by_cases h4:p0.t = 0
 rotate_left
 .refine ⟨false,by rw [show (p0.t != 0) = true by simpa using h4]; rfl,ZP1 fun h=>h4 (h.zero _ hp0)⟩
 rw [h4]
 simp only [bne_self_eq_false,cond_false]
 refine ZG1 (fun i (_:Unit)=>(∀ j x,j < i -> p[j]? = some x -> time x.t = true /\ spec_VecOk x.free = true) /\ ∀ j x y,j + 1 < i -> p[j]? = some x -> p[j + 1]? = some y -> x.t < y.t /\ x.free ≠ y.free)
  (fun r=>∃ b,r = some b /\ (b = true ↔ ProfP p)) ?_ ?_ ⟨fun j x h=>by omega,fun j x y h=>by omega⟩
 .intro i x _ k hi hI hk
  have hil:=(yB hi).1
  unfold ZE5
  rw [ZA1]
  cases ht:time x.t with
  | false=>exact ⟨false,rfl,ZP1 fun h=>by have:=(h.ok x (yE hi)).1; rw [ht] at this; cases this⟩
  | true =>
  cases hv:spec_VecOk x.free with
  | false=>exact ⟨false,rfl,ZP1 fun h=>by have:=(h.ok x (yE hi)).2; rw [hv] at this; cases this⟩
  | true =>
  simp only [Bool.not_true,Bool.or_self,cond_false,Bool.false_or,ZDn]
  have new1:∀ j y,j < i + 1 -> p[j]? = some y -> time y.t = true /\ spec_VecOk y.free = true:=by
   intro j y hj hy
   by_cases e:j = i
   .subst e; rw [hi] at hy; cases hy; exact ⟨ht,hv⟩
   .exact hI.1 j y (by omega) hy
  by_cases h0:i = 0
  .subst h0
   simp only [Int.natCast_zero,Int.lt_irrefl,decide_false,cond_false,Bool.false_and]
   exact hk () ⟨new1,fun j x y h=>by omega⟩
  .have hgt:decide ((0:Int) < (i:Int)) = true:=by simp; omega
   obtain ⟨q,hq⟩:∃ q,p[i - 1]? = some q:=⟨_,yA (by omega)⟩
   rw [hgt,Zre (by omega) (by omega)]
   simp only [cond_true,Bool.true_and,Za,hq,bS]
   by_cases h5:x.t <= q.t
   .simp only [h5,decide_true,cond_true,Bool.true_or]
    refine ⟨false,rfl,ZP1 fun h=>?_⟩
    have:=(h.asc (i - 1) q x hq (by rw [show i - 1 + 1 = i by omega]; exact hi)).1
    omega
   .simp only [h5,decide_false,cond_false,Bool.false_or,bS]
    by_cases h6:q.free = x.free
    .simp only [h6,decide_true,cond_true]
     refine ⟨false,rfl,ZP1 fun h=>?_⟩
     exact (h.asc (i - 1) q x hq (by rw [show i - 1 + 1 = i by omega]; exact hi)).2 h6
    .simp only [h6,decide_false,cond_false]
     refine hk () ⟨new1,fun j a b hj ha hb=>?_⟩
     by_cases e:j + 1 = i
     .have:j = i - 1:=by omega
      subst this
      rw [hq] at ha; cases ha
      rw [show i - 1 + 1 = i by omega,hi] at hb; cases hb
      exact ⟨by omega,h6⟩
     .exact hI.2 j a b (by omega) ha hb
 .intro _ hI
  refine ⟨true,rfl,fun _=>⟨by omega,by omega,fun x hx=>by rw [hp0] at hx; cases hx; exact h4,fun x hx=>?_,fun i x y hx hy=>?_⟩,fun _=>rfl⟩
  .obtain ⟨j,hj⟩:=List.getElem?_of_mem hx
   exact hI.1 j x (yB hj).1 hj
  .exact hI.2 i x y (yB hy).1 hx hy
noncomputable def profOk (p:List Pt):Bool:=(spec_ProfOk p).getD false
theorem Zd1 (p:List Pt):spec_ProfOk p = some (profOk p):=by
 obtain ⟨b,h3,_⟩:=Z59 p
 rw [profOk,h3]; rfl
theorem Z1a {p:List Pt}:profOk p = true ↔ ProfP p:=by
 obtain ⟨b,h3,h4⟩:=Z59 p
 rw [profOk,h3]; exact h4
theorem ProfP.lt {p:List Pt} (h:ProfP p):∀ (j i:Nat) (x y:Pt),i < j -> p[i]? = some x -> p[j]? = some y -> x.t < y.t:=by
 intro j
 induction j with
 | zero=>intro i x y hij; omega
 | succ j ih =>
  intro i x y hij hx hy
  obtain ⟨z,hz⟩:∃ z,p[j]? = some z:=⟨_,yA (by have:=(yB hy).1; omega)⟩
  have h1:=(h.asc j z y hz hy).1
  by_cases e:i = j
  .subst e; rw [hz] at hx; cases hx; exact h1
  .have:=ih i x z (by omega) hx hz
   omega
theorem ProfP.asc_times {p:List Pt} (h:ProfP p):(p.map Pt.t).Pairwise (· < ·):=by
 rw [List.pairwise_iff_getElem]
 intro i j hi hj hij
 simp only [List.length_map] at hi hj
 simp only [List.getElem_map]
 exact h.lt j i _ _ hij (yA hi) (yA hj)
def atV (p:List Pt) (t:Int):Vec:=p.foldl (fun v x=>bif decide (x.t <= t) then x.free else v) ⟨0,0,0⟩
theorem ZV7 (p:List Pt) (t:Int):spec_l03At p t = some (atV p t):=by
 unfold spec_l03At
 rw [ZH5 (f:=fun v (x:Pt)=>bif decide (x.t <= t) then x.free else v) (fun x _ i b k=>by unfold ZJ6; cases decide (x.t <= t) <;> rfl)]
 rfl
theorem ZBl (p:List Pt) (t:Int):impl_Prof_free p t = some (atV p t):=ZV7 p t
theorem fold_ok {p:List Pt} (t:Int) (h:∀ x ∈ p,spec_VecOk x.free = true):∀ v,spec_VecOk v = true -> spec_VecOk (p.foldl (fun v x=>bif decide (x.t <= t) then x.free else v) v) = true:=by
 induction p with
 | nil=>intro v hv; exact hv
 | cons x l ih =>
  intro v hv
  rw [List.foldl_cons]
  refine ih (fun y hy=>h y (List.mem_cons_of_mem _ hy)) _ ?_
  cases decide (x.t <= t) with
  | true=>exact h x (List.mem_cons_self ..)
  | false=>exact hv
theorem ZUl {p:List Pt} (h:ProfP p) (t:Int):spec_VecOk (atV p t) = true:=fold_ok t (fun x hx=>(h.ok x hx).2) _ (by decide)
def minV (p:List Pt) (from_ to_:Int):Vec:=p.foldl (fun v x=>bif decide (from_ <= x.t) && decide (x.t < to_) then spec_VecMin v x.free else v) (atV p from_)
theorem ZUe (p:List Pt) (from_ to_:Int):spec_ProfMin p from_ to_ = some (if profOk p = true /\ time from_ = true /\ time to_ = true /\ from_ < to_ then (minV p from_ to_,true) else (⟨0,0,0⟩,false)):=by
 unfold spec_ProfMin
 rw [Zd1,bS]
 simp only [ZA1]
 cases profOk p <;> cases time from_ <;> cases time to_ <;> try simp
 by_cases h:to_ <= from_
 .simp [h,show ¬ from_ < to_ by omega]
 .simp only [h,decide_false,cond_false,show from_ < to_ by omega,if_true,ZV7,bS]
  rw [ZH5 (f:=fun v (x:Pt)=>bif decide (from_ <= x.t) && decide (x.t < to_) then spec_VecMin v x.free else v) (fun x _ i b k=>by unfold ZP4; cases (decide (from_ <= x.t) && decide (x.t < to_)) <;> rfl)]
  rfl
theorem ZJi:∀ {l m:List Int},l.Pairwise (· < ·) -> m.Pairwise (· < ·) -> (∀ x,x ∈ l ↔ x ∈ m) -> l = m
 | [],[],_,_,_=>rfl
 | [],b :: m,_,_,h=>by have:=(h b).2 (List.mem_cons_self ..); cases this
 | a :: l,[],_,_,h=>by have:=(h a).1 (List.mem_cons_self ..); cases this
 | a :: l,b :: m,h1,h2,h=>by
  rw [List.pairwise_cons] at h1 h2
  have e:a = b:=by
   rcases List.mem_cons.1 ((h a).1 (List.mem_cons_self ..)) with q | q
   .exact q
   .rcases List.mem_cons.1 ((h b).2 (List.mem_cons_self ..)) with q2 | q2
    .exact q2.symm
    .have:=h1.1 b q2; have:=h2.1 a q; omega
  subst e
  congr 1
  refine ZJi h1.2 h2.2 fun x=>⟨fun hx=>?_,fun hx=>?_⟩
  .rcases List.mem_cons.1 ((h x).1 (List.mem_cons_of_mem _ hx)) with q | q
   .have:=h1.1 x hx; omega
   .exact q
  .rcases List.mem_cons.1 ((h x).2 (List.mem_cons_of_mem _ hx)) with q | q
   .have:=h2.1 x hx; omega
   .exact q
def insT (t:Int) (l:List Int):List Int:=(l.filter fun x=>decide (x < t)) ++ t :: l.filter fun x=>decide (t < x)
theorem Zye {t x:Int} {l:List Int}:x ∈ insT t l ↔ x = t \/ x ∈ l:=by
 simp only [insT,List.mem_append,List.mem_filter,List.mem_cons,decide_eq_true_eq]
 constructor
 .rintro (⟨h,_⟩ | h | ⟨h,_⟩)
  .exact .inr h
  .exact .inl h
  .exact .inr h
 .rintro (h | h)
  .exact .inr (.inl h)
  .by_cases h1:x < t
   .exact .inl ⟨h,h1⟩
   .by_cases h2:t < x
    .exact .inr (.inr ⟨h,h2⟩)
    .exact .inr (.inl (by omega))
theorem ZL5 {t:Int} {l:List Int} (h:l.Pairwise (· < ·)):(insT t l).Pairwise (· < ·):=by
 unfold insT
 rw [List.pairwise_append,List.pairwise_cons]
 refine ⟨h.filter _,⟨fun x hx=>by simpa using (List.mem_filter.1 hx).2,h.filter _⟩,fun x hx y hy=>?_⟩
 have hx':x < t:=by simpa using (List.mem_filter.1 hx).2
 rcases List.mem_cons.1 hy with rfl | hy
 .exact hx'
 .have:t < y:=by simpa using (List.mem_filter.1 hy).2
  omega
theorem Zuk (t:Int) (l:List Int):(insT t l).length <= l.length + 1:=by
 have:∀ m:List Int,(m.filter fun x=>decide (x < t)).length + (m.filter fun x=>decide (t < x)).length <= m.length:=by
  intro m
  induction m with
  | nil=>simp
  | cons a m ih =>
   simp only [List.filter_cons,List.length_cons]
   by_cases h1:a < t
   .simp only [h1,decide_true,if_true,show ¬ t < a by omega,decide_false,Bool.false_eq_true,if_false,List.length_cons]; omega
   .by_cases h2:t < a
    .simp only [h1,h2,decide_true,if_true,decide_false,Bool.false_eq_true,if_false,List.length_cons]; omega
    .simp only [h1,h2,decide_false,Bool.false_eq_true,if_false]; omega
 have:=this l
 simp only [insT,List.length_append,List.length_cons]; omega
theorem ZTm {γ:Type} (t:Int) (k:List Int -> Option γ) (bd:Int -> Nat -> Bool × List Int -> ((Bool × List Int) -> Option γ) -> Option γ) (kk:Bool × List Int -> Option γ)
  (hb:∀ x i d acc kc,acc.length <= 1000 -> bd x i (d,acc) kc = bif (!d) && decide (t <= x) then (bif x != t then kc (true,acc ++ [t] ++ [x]) else kc (true,acc ++ [t])) else (bif x != t then kc (d,acc ++ [x]) else kc (d,acc)))
  (hk:∀ d acc,acc.length <= 1000 -> kk (d,acc) = bif !d then k (acc ++ [t]) else k acc):∀ (l:List Int) (i:Nat),l.Pairwise (· < ·) -> l.length <= 500 ->
  (∀ acc:List Int,acc.length <= 500 - l.length -> rgl bd kk l i (false,acc) = k (acc ++ insT t l)) /\ ∀ acc:List Int,acc.length <= 501 - l.length -> (∀ x ∈ l,t < x) -> rgl bd kk l i (true,acc) = k (acc ++ l)
 | [],i,_,_=>⟨fun acc h=>by rw [rgl,hk _ _ (by omega)]; simp [insT],fun acc h _=>by rw [rgl,hk _ _ (by omega)]; simp⟩
 | x :: l,i,hp,hl=>by
  rw [List.pairwise_cons] at hp
  simp only [List.length_cons] at hl
  obtain ⟨q1,q2⟩:=ZTm t k bd kk hb hk l (i + 1) hp.2 (by omega)
  refine ⟨fun acc ha=>?_,fun acc ha hx=>?_⟩
  .simp only [List.length_cons] at ha
   rw [rgl,hb _ _ _ _ _ (by omega)]
   by_cases h1:t <= x
   .have hall:∀ y ∈ l,t < y:=fun y hy=>by have:=hp.1 y hy; omega
    have f1:(l.filter fun y=>decide (y < t)) = []:=List.filter_eq_nil_iff.2 fun y hy=>by have:=hall y hy; simp; omega
    have f2:(l.filter fun y=>decide (t < y)) = l:=List.filter_eq_self.2 fun y hy=>by simpa using hall y hy
    simp only [Bool.not_false,Bool.true_and,h1,decide_true,cond_true]
    by_cases h2:x = t
    .subst h2
     simp only [bne_self_eq_false,cond_false]
     rw [q2 _ (by simp; omega) hall]
     simp [insT,f1,f2]
    .rw [show (x != t) = true by simpa using h2,cond_true,q2 _ (by simp; omega) hall]
     simp [insT,f1,f2,show ¬ x < t by omega,show t < x by omega]
   .simp only [Bool.not_false,Bool.true_and,h1,decide_false,cond_false]
    rw [show (x != t) = true by simp; omega,cond_true,q1 _ (by simp; omega)]
    simp [insT,show x < t by omega,show ¬ t < x by omega]
  .simp only [List.length_cons] at ha
   have hx1:=hx x (List.mem_cons_self ..)
   rw [rgl,hb _ _ _ _ _ (by omega)]
   simp only [Bool.not_true,Bool.false_and,cond_false]
   rw [show (x != t) = true by simp; omega,cond_true,q2 _ (by simp; omega) fun y hy=>hx y (List.mem_cons_of_mem _ hy)]
   simp
def ZT1 (p:List Pt) (from_ to_:Int):List Int:=insT to_ (insT from_ (p.map Pt.t))
theorem Zod {p:List Pt} (h:ProfP p) (from_ to_:Int):spec_l03Times p from_ to_ = some (ZT1 p from_ to_):=by
 have hle:=h.le
 unfold spec_l03Times
 rw [ZH1 (bd:=Z04) (bs:=8) (p:=fun _=>true) (f:=Pt.t) (fun x _ i b k=>rfl) (by simp; omega)]
 have one:∀ (t:Int) (i:Nat) (v:List Int) (k:List Int -> Option (List Int)),v.Pairwise (· < ·) -> v.length <= 300 -> Zo2 t i v k = k (insT t v):=by
  intro t i v k hv hl
  unfold Zo2
  have:=(ZTm t k (Zp2 t) (Zn2 t k) (fun x i d acc kc ha=>by
   unfold Zp2 Zy1
   cases ((!d) && decide (t <= x)) with
   | true =>
    simp only [cond_true]
    rw [Zt (by simp; omega),bS]
    cases (x != t) with
    | true=>simp only [cond_true]; rw [Zt (by simp; omega),bS]
    | false=>rfl
   | false =>
    simp only [cond_false]
    cases (x != t) with
    | true=>simp only [cond_true]; rw [Zt (by simp; omega),bS]
    | false=>rfl) (fun d acc ha=>by
   unfold Zn2
   cases d with
   | true=>rfl
   | false=>simp only [Bool.not_false,cond_true]; rw [Zt (by simp; omega),bS]) v 0 hv (by omega)).1 [] (by simp)
  simpa using this
 have hp:=h.asc_times
 have hl1:=Zuk from_ (p.map Pt.t)
 simp only [List.length_map] at hl1
 unfold ZZ3
 simp only [List.nil_append,show (p.filter fun _=>true) = p from List.filter_eq_self.2 fun _ _=>rfl]
 rw [rgl,one _ _ _ _ hp (by simp; omega),rgl,one _ _ _ _ (ZL5 hp) (by omega)]
 rfl
theorem ZOl {l:List Int} (h:l.Pairwise (· <= ·)):(ZX l).Pairwise (· < ·) /\ ∀ x,x ∈ ZX l ↔ x ∈ l:=by
 have hsz:l.toArray.size = l.length:=by simp
 have get:∀ j,j < l.length -> l.toArray[j]! = l[j]!:=by intro j hj; simp
 have mono:∀ i j,i <= j -> j < l.length -> l.toArray[i]! <= l.toArray[j]!:=by
  intro i j hij hj
  by_cases e:i = j
  .subst e; exact Int.le_refl _
  .have:=List.pairwise_iff_getElem.1 h i j (by omega) hj (by omega)
   simpa [show i < l.length by omega,hj] using this
 unfold ZX Lib.compact Lib.compactUpTo
 constructor
 .rw [List.pairwise_map]
  have hr:((List.range l.length).filter (Lib.keeps l.toArray)).Pairwise (· < ·):=List.Pairwise.filter _ List.pairwise_lt_range
  refine List.Pairwise.imp_of_mem (fun {a b} ha hb hab=>?_) hr
  have hb1:=List.mem_filter.1 hb
  have hbl:b < l.length:=List.mem_range.1 hb1.1
  have hk:b = 0 \/ l.toArray[b]! ≠ l.toArray[b - 1]!:=by simpa [Lib.keeps] using hb1.2
  rcases hk with rfl | hk
  .omega
  .have:=mono a (b - 1) (by omega) (by omega)
   have:=mono (b - 1) b (by omega) hbl
   omega
 .intro x
  simp only [List.mem_map,List.mem_filter,List.mem_range]
  constructor
  .rintro ⟨j,⟨hj,_⟩,rfl⟩
   rw [get j hj]
   simp [hj]
  .intro hx
   -- the first place of x
   have:∀ n,(∃ j,j < n /\ j < l.length /\ l.toArray[j]! = x) -> ∃ j,(j < l.length /\ Lib.keeps l.toArray j = true) /\ l.toArray[j]! = x:=by
    intro n
    induction n with
    | zero=>rintro ⟨j,hj,_⟩; omega
    | succ n ih =>
     rintro ⟨j,hj,hjl,he⟩
     cases hk:Lib.keeps l.toArray j with
     | true=>exact ⟨j,⟨hjl,hk⟩,he⟩
     | false =>
      have hk':¬ (j = 0 \/ l.toArray[j]! ≠ l.toArray[j - 1]!):=by simpa [Lib.keeps] using hk
      have h0:j ≠ 0:=fun e=>hk' (.inl e)
      have h1:l.toArray[j]! = l.toArray[j - 1]!:=Classical.byContradiction fun q=>hk' (.inr q)
      exact ih ⟨j - 1,by omega,by omega,by rw [← h1]; exact he⟩
   obtain ⟨j,hj⟩:=List.getElem?_of_mem hx
   obtain ⟨hjl,hje⟩:=yB hj
   exact this l.length ⟨j,hjl,hjl,by rw [get j hjl]; simp [hjl,hje]⟩
theorem Znn (l:List Int):(sortI l).Pairwise (· <= ·) /\ ∀ x,x ∈ sortI l ↔ x ∈ l:=by
 refine ⟨?_,fun x=>(List.mergeSort_perm l _).mem_iff⟩
 have:=List.pairwise_mergeSort (le:=fun (x y:Int)=>decide (x <= y)) (fun a b c h1 h2=>by simp at *; omega) (fun a b=>by simp; omega) l
 exact this.imp fun h=>by simpa using h
theorem ZPl {p:List Pt} (h:ProfP p) (from_ to_:Int):ZX (sortI ([from_,to_] ++ p.map Pt.t)) = ZT1 p from_ to_:=by
 obtain ⟨s1,s2⟩:=Znn ([from_,to_] ++ p.map Pt.t)
 obtain ⟨c1,c2⟩:=ZOl s1
 refine ZJi c1 (ZL5 (ZL5 h.asc_times)) fun x=>?_
 rw [c2,s2,ZT1,Zye,Zye]
 simp only [List.cons_append,List.nil_append,List.mem_cons]
 constructor
 .rintro (h | h | h)
  .exact .inr (.inl h)
  .exact .inl h
  .exact .inr (.inr h)
 .rintro (h | h | h)
  .exact .inr (.inl h)
  .exact .inl h
  .exact .inr (.inr h)
def pushP (out:List Pt) (t:Int) (w:Vec):List Pt:=match out.getLast? with
 | some e=>if e.free = w then out else out ++ [⟨t,w⟩]
 | none=>[⟨t,w⟩]
theorem ZSm {out:List Pt} (h:out.length <= 1000) (x:Int) (w:Vec) (k:List Pt -> Option (List Pt × Bool)):ZW out x k w = k (pushP out x w):=by
 unfold ZW pushP
 cases hl:out with
 | nil =>
  simp only [List.length_nil,List.getLast?_nil]
  rw [show (((0:Nat):Int) == 0) = true from rfl,cond_true,bS,Bool.true_or,cond_true,Zt (by simp),bS]; rfl
 | cons a l =>
  have hne:((out.length:Int) == 0) = false:=by rw [hl]; simp; omega
  obtain ⟨e,he⟩:∃ e,out[out.length - 1]? = some e:=⟨_,yA (by rw [hl]; simp)⟩
  have hlast:out.getLast? = some e:=by rw [List.getLast?_eq_getElem?]; exact he
  rw [← hl,hne,hlast,Zre (by rw [hl]; simp) (by omega),Za,he]
  simp only [cond_false,bS,Bool.false_or,ZDn]
  by_cases hw:e.free = w
  .simp [hw]
  .simp only [hw,decide_false,Bool.not_false,cond_true,if_false]
   rw [Zt (by simp; omega),bS]
structure Made (T:List Int) (i:Nat) (out:List Pt):Prop where
 len:out.length <= i
 mem:∀ x ∈ out,∃ j,j < i /\ T[j]? = some x.t
 ok:∀ x ∈ out,spec_VecOk x.free = true
 asc:∀ (j:Nat) (x y:Pt),out[j]? = some x -> out[j + 1]? = some y -> x.t < y.t /\ x.free ≠ y.free
 fst:0 < i -> ∃ x,out[0]? = some x /\ T[0]? = some x.t
theorem Made.nil (T:List Int):Made T 0 [] where
 len:=Nat.le_refl _
 mem:=fun x hx=>by cases hx
 ok:=fun x hx=>by cases hx
 asc:=fun j x y hx=>by simp at hx
 fst:=fun h=>by omega
theorem Made.push {T:List Int} (hT:T.Pairwise (· < ·)) {i:Nat} {out:List Pt} (M:Made T i out) {t:Int} (ht:T[i]? = some t) {w:Vec} (hw:spec_VecOk w = true):Made T (i + 1) (pushP out t w):=by
 have lt:∀ x ∈ out,x.t < t:=by
  intro x hx
  obtain ⟨j,hj,he⟩:=M.mem x hx
  obtain ⟨h1,e1⟩:=yB he
  obtain ⟨h2,e2⟩:=yB ht
  rw [← e1,← e2]
  exact List.pairwise_iff_getElem.1 hT j i h1 h2 hj
 unfold pushP
 cases hl:out.getLast? with
 | none =>
  have:out = []:=List.getLast?_eq_none_iff.1 hl
  subst this
  have hi:i = 0:=by
   cases i with
   | zero=>rfl
   | succ i=>obtain ⟨x,hx,_⟩:=M.fst (by omega); simp at hx
  subst hi
  exact ⟨by simp,fun x hx=>by simp at hx; subst hx; exact ⟨0,by omega,ht⟩,fun x hx=>by simp at hx; subst hx; exact hw,fun j x y hx hy=>by simp at hy,fun _=>⟨_,rfl,ht⟩⟩
 | some e =>
  simp only
  by_cases he:e.free = w
  .rw [if_pos he]
   exact ⟨by have:=M.len; omega,fun x hx=>by obtain ⟨j,hj,h⟩:=M.mem x hx; exact ⟨j,by omega,h⟩,M.ok,M.asc,fun _=>by
    cases i with
    | zero=>have:=M.len; have:out = []:=List.eq_nil_of_length_eq_zero (by omega); subst this; simp at hl
    | succ i=>exact M.fst (by omega)⟩
  .rw [if_neg he]
   refine ⟨by have:=M.len; simp; omega,fun x hx=>?_,fun x hx=>?_,fun j x y hx hy=>?_,fun _=>?_⟩
   .rcases List.mem_append.1 hx with hx | hx
    .obtain ⟨j,hj,h⟩:=M.mem x hx; exact ⟨j,by omega,h⟩
    .simp at hx; subst hx; exact ⟨i,by omega,ht⟩
   .rcases List.mem_append.1 hx with hx | hx
    .exact M.ok x hx
    .simp at hx; subst hx; exact hw
   .by_cases hj:j + 1 < out.length
    .rw [List.getElem?_append_left (by omega)] at hx
     rw [List.getElem?_append_left hj] at hy
     exact M.asc j x y hx hy
    .have hlt:=(yB hy).1
     simp only [List.length_append,List.length_cons,List.length_nil] at hlt
     have hje:j = out.length - 1:=by omega
     rw [List.getElem?_append_left (by omega)] at hx
     rw [List.getElem?_append_right (by omega),show j + 1 - out.length = 0 by omega] at hy
     simp at hy
     subst hy
     rw [List.getLast?_eq_getElem?,← hje,hx] at hl
     have hl:=Option.some.inj hl
     subst hl
     exact ⟨lt _ (yE hx),he⟩
   .have hne:out ≠ []:=fun e=>by rw [e] at hl; simp at hl
    cases i with
    | zero=>have:=M.len; exact absurd (List.eq_nil_of_length_eq_zero (by omega)) hne
    | succ i =>
     obtain ⟨x,hx,h⟩:=M.fst (by omega)
     exact ⟨x,by rw [List.getElem?_append_left (by have:=(yB hx).1; omega)]; exact hx,h⟩
theorem ZIn {p:List Pt} (h:ProfP p) {from_ to_:Int} (h1:time from_ = true) (h2:time to_ = true) :
  (ZT1 p from_ to_).Pairwise (· < ·) /\ (ZT1 p from_ to_).length <= 202 /\ (∀ t ∈ ZT1 p from_ to_,time t = true) /\ (ZT1 p from_ to_)[0]? = some 0 /\ from_ ∈ ZT1 p from_ to_:=by
 have hp:=ZL5 (t:=to_) (ZL5 (t:=from_) h.asc_times)
 have hm:∀ t,t ∈ ZT1 p from_ to_ ↔ t = to_ \/ t = from_ \/ t ∈ p.map Pt.t:=fun t=>by rw [ZT1,Zye,Zye]
 have hok:∀ t ∈ ZT1 p from_ to_,time t = true:=by
  intro t ht
  rcases (hm t).1 ht with rfl | rfl | ht
  .exact h2
  .exact h1
  .obtain ⟨x,hx,rfl⟩:=List.mem_map.1 ht
   exact (h.ok x hx).1
 have h0:(0:Int) ∈ ZT1 p from_ to_:=by
  obtain ⟨x,hx⟩:∃ x,p[0]? = some x:=⟨_,yA h.pos⟩
  exact (hm 0).2 (.inr (.inr (List.mem_map.2 ⟨x,yE hx,h.zero x hx⟩)))
 have hl1:=Zuk from_ (p.map Pt.t)
 have hl2:=Zuk to_ (insT from_ (p.map Pt.t))
 simp only [List.length_map] at hl1
 have:=h.le
 refine ⟨hp,by unfold ZT1; omega,hok,?_,(hm from_).2 (.inr (.inl rfl))⟩
 obtain ⟨j,hj⟩:=List.getElem?_of_mem h0
 obtain ⟨hjl,hje⟩:=yB hj
 by_cases e:j = 0
 .subst e; exact hj
 .have:=List.pairwise_iff_getElem.1 hp 0 j (by unfold ZT1 at hjl; omega) (by unfold ZT1 at hjl; exact hjl) (by omega)
  have h00:=hok (ZT1 p from_ to_)[0] (List.getElem_mem (by omega))
  have:=(Z76.1 h00).1
  unfold ZT1 at hje this
  omega
def takeB (p:List Pt) (from_ to_:Int) (v:Vec) (x:Int) (out:List Pt) (k:List Pt -> Option (List Pt × Bool)):Option (List Pt × Bool) :=
 bif decide (from_ <= x) && decide (x < to_) then (bif (spec_VecSub (atV p x) v).2 then k (pushP out x (spec_VecSub (atV p x) v).1) else some ([],false)) else k (pushP out x (atV p x))
theorem Zmn {p:List Pt} {from_ to_:Int} {v:Vec} {x:Int} {i:Nat} {out:List Pt} (h:out.length <= 1000) (k:List Pt -> Option (List Pt × Bool)):Z62 p from_ to_ v false x i out k = takeB p from_ to_ v x out k:=by
 unfold Z62 takeB
 rw [ZV7,bS]
 cases (decide (from_ <= x) && decide (x < to_)) with
 | false=>simp only [cond_false]; rw [ZSm h]
 | true =>
  simp only [cond_true,cond_false,Zt1]
  cases (spec_VecSub (atV p x) v).2 with
  | false=>rfl
  | true=>simp only [Bool.not_true,cond_false,cond_true]; rw [ZSm h]
theorem Zsn {p:List Pt} (hp:ProfP p) {from_ to_:Int} {v:Vec} {x:Int} {i:Nat} {out:List Pt} (h:out.length <= 1000) (k:List Pt -> Option (List Pt × Bool)):Zn p from_ to_ v x i out k = takeB p from_ to_ v x out k:=by
 unfold Zn takeB impl_ProfTake_1
 rw [ZBl,bS,Zvi (ZUl hp x)]
 cases (decide (from_ <= x) && decide (x < to_)) with
 | false=>simp only [cond_false]; exact ZSm h x _ k
 | true =>
  simp only [cond_true]
  cases (spec_VecSub (atV p x) v).2 with
  | false=>rfl
  | true=>simp only [Bool.not_true,cond_false,cond_true]; exact ZSm h x _ k
theorem ZGg {a b:Vec} (h:(spec_VecSub a b).2 = true):spec_VecOk (spec_VecSub a b).1 = true:=by
 unfold spec_VecSub at h ⊢
 cases hf:spec_VecFits b a with
 | false=>rw [hf] at h; simp at h
 | true =>
  simp only [Bool.not_true,cond_false]
  unfold spec_VecFits at hf
  simp only [yD,decide_eq_true_eq] at hf
  obtain ⟨⟨⟨⟨h1,h2⟩,h3⟩,h4⟩,h5⟩:=hf
  have h1:=Zs1.1 h1
  have h2:=Zs1.1 h2
  rw [Zs1,ZM (by omega),ZM (by omega),ZM (by omega)]
  simp only; omega
theorem ZVa (p:List Pt) (from_ to_:Int) (v:Vec):impl_ProfTake p from_ to_ v = spec_ProfTake p from_ to_ v /\ ∃ r,spec_ProfTake p from_ to_ v = some r /\ (r.2 = true -> ProfP r.1):=by
 unfold impl_ProfTake spec_ProfTake
 rw [Zc7,Zd1,ZUe,bS,bS]
 cases hpo:profOk p with
 | false=>simp
 | true =>
 have hp:=Z1a.1 hpo
 unfold impl_isSpan
 simp only [Z07]
 by_cases hs:time from_ = true /\ time to_ = true /\ from_ < to_
 rotate_left
 .have e:((time from_ && time to_) && decide (from_ < to_)) = false:=by
   rw [Bool.eq_false_iff]; intro q; simp only [yD,decide_eq_true_eq] at q; exact hs ⟨q.1.1,q.1.2,q.2⟩
  rw [e,if_neg (fun q=>hs q.2)]
  simp
 obtain ⟨h1,h2,h3⟩:=hs
 rw [if_pos ⟨trivial,h1,h2,h3⟩]
 obtain ⟨t1,t2,t3,t4,t5⟩:=ZIn hp h1 h2
 have T:=Zod hp from_ to_
 -- the reference,in common words
 have Zdj:spec_l03Change p from_ to_ v false = rgl (fun x _=>takeB p from_ to_ v x) ZV (ZT1 p from_ to_) 0 []:=by
  unfold spec_l03Change
  rw [T,bS]
  refine Zvj (fun i b c=>b = c /\ Made (ZT1 p from_ to_) i b) rfl (fun i x y b c k k2 hx hy hr hk=>?_) (fun b c hr=>by rw [hr.1]) ⟨rfl,Made.nil _⟩
  obtain ⟨rfl,M⟩:=hr
  rw [hx] at hy; cases hy
  have hil:=(yB hx).1
  rw [Zmn (by have:=M.len; omega)]
  unfold takeB
  cases (decide (from_ <= x) && decide (x < to_)) with
  | false=>exact hk _ _ ⟨rfl,M.push t1 hx (ZUl hp x)⟩
  | true =>
   simp only [cond_true]
   cases hv:(spec_VecSub (atV p x) v).2 with
   | false=>rfl
   | true=>exact hk _ _ ⟨rfl,M.push t1 hx (ZGg hv)⟩
 have ends:∀ b,Made (ZT1 p from_ to_) (ZT1 p from_ to_).length b -> (profOk b = true ↔ b.length <= 200):=by
  intro b M
  rw [Z1a]
  refine ⟨fun h=>h.le,fun hl=>?_⟩
  obtain ⟨x,hx,h0⟩:=M.fst (by have:=List.length_pos_of_mem t5; omega)
  rw [t4] at h0
  exact ⟨(yB hx).1,hl,fun y hy=>by rw [hx] at hy; cases hy; exact (Option.some.inj h0).symm,fun y hy=>⟨by
   obtain ⟨j,_,hj⟩:=M.mem y hy
   exact t3 _ (yE hj),M.ok y hy⟩,M.asc⟩
 have total:∃ r:List Pt × Bool,rgl (fun x _=>takeB p from_ to_ v x) ZV (ZT1 p from_ to_) 0 [] = some r /\ (r.2 = true -> ProfP r.1):=by
  refine ZG1 (fun i b=>Made (ZT1 p from_ to_) i b) (fun o=>∃ r:List Pt × Bool,o = some r /\ (r.2 = true -> ProfP r.1)) (fun i x b k hx M hk=>?_) (fun b M=>?_) (Made.nil _)
  .unfold takeB
   cases (decide (from_ <= x) && decide (x < to_)) with
   | false=>exact hk _ (M.push t1 hx (ZUl hp x))
   | true =>
    simp only [cond_true]
    cases hv:(spec_VecSub (atV p x) v).2 with
    | false=>exact ⟨_,rfl,fun h=>by cases h⟩
    | true=>exact hk _ (M.push t1 hx (ZGg hv))
  .unfold ZV
   rw [Zd1,bS]
   cases hb:profOk b with
   | false=>exact ⟨_,rfl,fun h=>by cases h⟩
   | true=>exact ⟨_,rfl,fun _=>Z1a.1 hb⟩
 have bind_id:∀ o:Option (List Pt × Bool),(o.bind fun y6=>some (y6.1,y6.2)) = o:=by intro o; cases o <;> rfl
 simp only [Bool.not_true,Bool.false_or,h1,h2,h3,Bool.and_self,decide_true,cond_false,bind_id,Zu1]
 rw [Zdj]
 refine ⟨?_,total⟩
 cases hv:spec_VecOk v with
 | false =>
  simp only [Bool.not_false,cond_true]
  symm
  refine ZG1 (fun i b=>Made (ZT1 p from_ to_) i b /\ ∀ j,j < i -> (ZT1 p from_ to_)[j]? ≠ some from_) (fun o=>o = some ([],false)) (fun i x b k hx hI hk=>?_) (fun b hI=>?_) ⟨Made.nil _,fun j h=>by omega⟩
  .obtain ⟨M,hI⟩:=hI
   have sub:∀ x,spec_VecSub (atV p x) v = (⟨0,0,0⟩,false):=fun x=>by unfold spec_VecSub spec_VecFits; rw [hv]; rfl
   unfold takeB
   rw [sub]
   by_cases hf:from_ <= x /\ x < to_
   .simp [hf.1,hf.2]
   .have e:(decide (from_ <= x) && decide (x < to_)) = false:=by simpa using fun q=>by omega
    rw [e]
    refine hk _ ⟨M.push t1 hx (ZUl hp x),fun j hj e=>?_⟩
    by_cases hji:j = i
    .subst hji; rw [hx] at e; cases e; omega
    .exact hI j (by omega) e
  .obtain ⟨j,hj⟩:=List.getElem?_of_mem t5
   exact absurd hj (hI.2 j (yB hj).1)
 | true =>
  simp only [Bool.not_true,cond_false]
  unfold Zw
  rw [ZH1 (bd:=ZE) (bs:=8) (p:=fun _=>true) (f:=Pt.t) (fun x _ i b k=>rfl) (by have:=hp.le; simp; omega)]
  unfold ZD
  rw [show (p.filter fun _=>true) = p from List.filter_eq_self.2 fun _ _=>rfl]
  have hs:sortQ ([from_,to_] ++ p.map Pt.t) = some (sortI ([from_,to_] ++ p.map Pt.t)):=by
   unfold sortQ
   rw [if_pos (by have:=hp.le; simp; omega)]
  rw [hs,bS,ZPl hp]
  refine Zvj (fun i b c=>b = c /\ Made (ZT1 p from_ to_) i b) rfl (fun i x y b c k k2 hx hy hr hk=>?_) (fun b c hr=>?_) ⟨rfl,Made.nil _⟩
  .obtain ⟨rfl,M⟩:=hr
   rw [hx] at hy; cases hy
   have hil:=(yB hx).1
   rw [Zsn hp (by have:=M.len; omega)]
   unfold takeB
   cases (decide (from_ <= x) && decide (x < to_)) with
   | false=>exact hk _ _ ⟨rfl,M.push t1 hx (ZUl hp x)⟩
   | true =>
    simp only [cond_true]
    cases hv:(spec_VecSub (atV p x) v).2 with
    | false=>rfl
    | true=>exact hk _ _ ⟨rfl,M.push t1 hx (ZGg hv)⟩
  .obtain ⟨rfl,M⟩:=hr
   unfold ZC ZV
   rw [Zd1,bS]
   by_cases hl:b.length <= 200
   .rw [(ends b M).2 hl]
    simp [show ¬ (200:Int) < b.length by omega]
   .rw [show profOk b = false from Bool.eq_false_iff.2 fun q=>hl ((ends b M).1 q)]
    simp [show (200:Int) < b.length by omega]
theorem ZG7 {j:Job}:spec_JobOk j = true ↔ (1 <= j.id /\ j.id <= 999) /\ (0 <= j.prio /\ j.prio <= 999) /\ (1 <= j.nodes /\ j.nodes <= 24) /\ spec_VecOk j.need = true /\ spec_VecOk j.lic = true /\ (1 <= j.wall /\ j.wall <= 1000000) /\ (0 <= j.level /\ j.level <= 24):=by
 unfold spec_JobOk
 by_cases h:(1 <= j.id /\ j.id <= 999) /\ (0 <= j.prio /\ j.prio <= 999) /\ (1 <= j.nodes /\ j.nodes <= 24)
 .rw [show ((((((decide (j.id < 1)) || (decide (999 < j.id))) || (decide (j.prio < 0))) || (decide (999 < j.prio))) || (decide (j.nodes < 1))) || (decide (24 < j.nodes))) = false by simp; omega]
  simp only [cond_false,yD,decide_eq_true_eq]
  constructor
  .intro q; exact ⟨h.1,h.2.1,h.2.2,q.1.1.1.1.1,q.1.1.1.1.2,⟨q.1.1.1.2,q.1.1.2⟩,q.1.2,q.2⟩
  .intro q; exact ⟨⟨⟨⟨⟨q.2.2.2.1,q.2.2.2.2.1⟩,q.2.2.2.2.2.1.1⟩,q.2.2.2.2.2.1.2⟩,q.2.2.2.2.2.2.1⟩,q.2.2.2.2.2.2.2⟩
 .rw [show ((((((decide (j.id < 1)) || (decide (999 < j.id))) || (decide (j.prio < 0))) || (decide (999 < j.prio))) || (decide (j.nodes < 1))) || (decide (24 < j.nodes))) = true by
   simp only [Bool.or_eq_true,decide_eq_true_eq]; omega]
  simp only [cond_true]
  exact ZP1 fun q=>h ⟨q.1,q.2.1,q.2.2.1⟩
theorem Zo5 (j:Job):impl_JobOk j = spec_JobOk j:=by
 rw [Bool.eq_iff_iff,ZG7]
 unfold impl_JobOk impl_within
 simp only [Zu1,yD,decide_eq_true_eq,and_assoc]
structure RoomP (r:Room):Prop where
 topo:TopoP r.topo
 up:r.up.length = r.topo.nodes.length
 profs:r.profs.length = r.topo.nodes.length
 prof:∀ p ∈ r.profs,ProfP p
 lics:ProfP r.lics
noncomputable def roomOk (r:Room):Bool:=topoOk r.topo && decide (r.up.length = r.topo.nodes.length) && decide (r.profs.length = r.topo.nodes.length) && profOk r.lics && r.profs.all profOk
theorem ZIi {r:Room}:roomOk r = true ↔ RoomP r:=by
 unfold roomOk
 simp only [yD,decide_eq_true_eq,List.all_eq_true,Zy7,Z1a]
 exact ⟨fun h=>⟨h.1.1.1.1,h.1.1.1.2,h.1.1.2,h.2,h.1.2⟩,fun h=>⟨⟨⟨⟨h.topo,h.up⟩,h.profs⟩,h.lics⟩,h.prof⟩⟩
theorem ZJj (a b:Nat):((a:Int) != (b:Int)) = !decide (a = b):=by
 by_cases h:a = b
 .simp [h]
 .rw [show ((a:Int) != (b:Int)) = true by simp; omega]; simp [h]
theorem ZQg (r:Room):spec_RoomOk r = some (roomOk r):=by
 unfold spec_RoomOk roomOk
 rw [ZG2,bS]
 simp only [ZJj,Zd1]
 rw [ZW1 (r:=some false) (p:=fun p=>!profOk p) (fun x _ i k=>by unfold ZD5; rw [Zd1,bS]),← List.not_all_eq_any_not]
 cases topoOk r.topo <;> cases decide (r.up.length = r.topo.nodes.length) <;> cases decide (r.profs.length = r.topo.nodes.length) <;> cases profOk r.lics <;> cases r.profs.all profOk <;> rfl
theorem ZAi (r:Room):impl_RoomOk r = some (roomOk r):=by
 unfold impl_RoomOk roomOk
 rw [Z67,ZG2,bS]
 simp only [ZJj]
 rw [ZW1 (r:=some false) (p:=fun p=>!profOk p) (fun x _ i k=>by unfold ZQ5; rw [Zc7,Zd1,bS]),← List.not_all_eq_any_not]
 unfold ZP5
 rw [Zc7,Zd1,bS]
 cases topoOk r.topo <;> cases decide (r.up.length = r.topo.nodes.length) <;> cases decide (r.profs.length = r.topo.nodes.length) <;> cases profOk r.lics <;> cases r.profs.all profOk <;> rfl
structure RoomS (r:Room):Prop where
 up:r.up.length <= 1048576
 par:r.topo.parents.length <= 1048576
 nodes:r.topo.nodes.length <= 1048576
 profs:r.profs.length <= 1048576
 prof:∀ p ∈ r.profs,p.length <= 1048576
 lics:r.lics.length <= 1048576
theorem RoomP.small {r:Room} (h:RoomP r):RoomS r :=
  ⟨by have:=h.up; have:=h.topo.nodes; omega,by have:=h.topo.tree.le; omega,by have:=h.topo.nodes; omega,by have:=h.profs; have:=h.topo.nodes; omega,fun p hp=>by have:=(h.prof p hp).le; omega,by have:=h.lics.le; omega⟩
theorem ZX8 {r:Room} (h:RoomS r):spec_l04Copy r = some r:=by
 unfold spec_l04Copy spec_l04Prof
 have:=h.up; have:=h.lics; have:=h.par; have:=h.nodes; have:=h.profs
 rw [Zt (by simp; omega),bS,Zt (by simp; omega),bS,bS,Zt (by simp; omega),bS,Zt (by simp; omega),bS]
 rw [ZH1 (bd:=ZN2) (bs:=24) (p:=fun _=>true) (f:=id) (fun x hx i b k=>by
  have:=h.prof x hx
  unfold ZN2 spec_l04Prof
  rw [Zt (by simp; omega),bS,bS]; simp) (by simp; omega)]
 unfold ZJ4
 simp [List.filter_eq_self.2]
theorem Zke {r:Room} (h:RoomS r):impl_copyRoom r = some r:=by
 unfold impl_copyRoom impl_copyTopo impl_copyInts impl_copyProf
 have:=h.up; have:=h.lics; have:=h.par; have:=h.nodes; have:=h.profs
 rw [Zt (by simp; omega),bS,bS,Zt (by simp; omega),bS,bS,Zt (by simp; omega),bS,Zt (by simp; omega),bS,bS]
 rw [ZH1 (bd:=Zw2) (bs:=24) (p:=fun _=>true) (f:=id) (fun x hx i b k=>by
  have:=h.prof x hx
  unfold Zw2 impl_copyProf
  rw [Zt (by simp; omega),bS,bS]; simp) (by simp; omega)]
 unfold Z54
 simp [List.filter_eq_self.2]
theorem ZAe {α:Type} {l:List α} {i:Nat} (h:i <= l.length):cutL l none (some (i:Int)) = some (l.take i):=by
 unfold cutL bhi blo
 simp [h]
theorem ZQi {l:List Int} {i:Nat} {x:Int} (hx:l[i]? = some x):(l.take (i + 1)).Nodup ↔ (l.take i).Nodup /\ x ∉ l.take i:=by
 obtain ⟨hi,rfl⟩:=yB hx
 rw [List.take_succ_eq_append_getElem hi,List.nodup_append]
 constructor
 .intro h; exact ⟨h.1,fun hm=>h.2.2 _ hm _ (List.mem_singleton.2 rfl) rfl⟩
 .intro h; exact ⟨h.1,by simp,fun a ha b hb e=>by rw [List.mem_singleton.1 hb] at e; subst e; exact h.2 ha⟩
theorem ZRi {γ:Type} {bd:Int -> Nat -> Unit -> (Unit -> Option γ) -> Option γ} {kk:Unit -> Option γ} {r:Option γ} {l:List Int}
  (hb:∀ i x k,i <= l.length -> bd x i () k = bif (l.take i).contains x then r else k ()):rgl bd kk l 0 () = bif decide l.Nodup then kk () else r:=by
 refine ZG1 (fun i (_:Unit)=>(l.take i).Nodup) (fun o=>o = bif decide l.Nodup then kk () else r) (fun i x b k hx hI hk=>?_) (fun b hI=>?_) (by simp)
 .have hil:=(yB hx).1
  rw [hb i x k (by omega)]
  cases hc:(l.take i).contains x with
  | true =>
   have hm:=List.contains_iff_mem.1 hc
   have:¬ l.Nodup:=fun q=>((ZQi hx).1 (q.sublist (List.take_sublist _ _))).2 hm
   simp [this]
  | false=>exact hk () ((ZQi hx).2 ⟨hI,fun hm=>by rw [List.contains_iff_mem.2 hm] at hc; cases hc⟩)
 .rw [List.take_of_length_le (Nat.le_refl _)] at hI
  simp [hI]
noncomputable def diffOk (r:Room) (j:Job) (nodes:List Int):Bool:=roomOk r && spec_JobOk j && decide ((nodes.length:Int) = j.nodes) && ZI1 r.topo nodes && decide nodes.Nodup
theorem ZV8 (r:Room) (j:Job) (nodes:List Int):spec_l04Diff r j nodes = some (diffOk r j nodes):=by
 unfold spec_l04Diff diffOk
 rw [ZQg,bS]
 have e:((nodes.length:Int) != j.nodes) = !decide ((nodes.length:Int) = j.nodes):=by
  by_cases h:(nodes.length:Int) = j.nodes <;> simp [h]
 simp only [e,ZK4]
 rw [ZRi (r:=some false) (fun i x k hi=>by unfold ZI4; rw [ZAe hi,bS,ZF2,bS])]
 cases roomOk r <;> cases spec_JobOk j <;> cases decide ((nodes.length:Int) = j.nodes) <;> cases ZI1 r.topo nodes <;> cases decide nodes.Nodup <;> rfl
theorem ZSa {t:Topo} (ht:t.nodes.length <= 1048576) (j:Job) (nodes:List Int):impl_areJobNodes t j nodes = some (decide ((nodes.length:Int) = j.nodes) && ZI1 t nodes && decide nodes.Nodup):=by
 unfold impl_areJobNodes
 rw [ZRi (r:=some false) (fun i x k hi=>by unfold ZD2; rw [ZAe hi,bS,Zd6,bS])]
 unfold ZC2
 rw [ZJ8 t nodes ht,bS]
 have e:((nodes.length:Int) == j.nodes) = decide ((nodes.length:Int) = j.nodes):=by
  by_cases h:(nodes.length:Int) = j.nodes <;> simp [h]
 rw [e]
 cases decide ((nodes.length:Int) = j.nodes) <;> cases ZI1 t nodes <;> cases decide nodes.Nodup <;> rfl
def Zt3:Room × Bool:=(⟨⟨[],[]⟩,[],[],[]⟩,false)
def ZW9 (r:Room) (need lic:Vec) (from_ to_:Int) (nodes:List Int):Option (Room × Bool) :=
 rgl (fun x _ v k=>(idx v x).bind fun e=>(spec_ProfTake e from_ to_ need).bind fun y=>bif !y.2 then some Zt3 else k (v.set x.toNat y.1))
  (fun v=>(spec_ProfTake r.lics from_ to_ lic).bind fun y=>bif !y.2 then some Zt3 else some (⟨r.topo,r.up,v,y.1⟩,true)) nodes 0 r.profs
theorem Zbj {r:Room} (hr:RoomP r) (need lic:Vec) (from_ to_:Int) {nodes:List Int} (hn:ZI1 r.topo nodes = true) :
  ∃ q,ZW9 r need lic from_ to_ nodes = some q /\ (q.2 = true -> RoomP q.1 /\ q.1.topo = r.topo /\ q.1.up = r.up):=by
 have hn:=(Z44.1 hn).2
 unfold ZW9
 refine ZG1 (fun i (v:List (List Pt))=>v.length = r.topo.nodes.length /\ ∀ p ∈ v,ProfP p) (fun o=>∃ q:Room × Bool,o = some q /\ (q.2 = true -> RoomP q.1 /\ q.1.topo = r.topo /\ q.1.up = r.up)) (fun i x v k hx hI hk=>?_) (fun v hI=>?_) ⟨hr.profs,hr.prof⟩
 .have hx':=hn x (yE hx)
  obtain ⟨e,q1,q2⟩:=ZOk (l:=v) (i:=x) hx'.1 (by rw [hI.1]; exact hx'.2)
  obtain ⟨y,h1,h2⟩:=(ZVa e from_ to_ need).2
  rw [q1,bS,h1,bS]
  cases hy:y.2 with
  | false=>exact ⟨Zt3,rfl,fun h=>by cases h⟩
  | true =>
   refine hk _ ⟨by simp [hI.1],fun p hp=>?_⟩
   rcases List.mem_or_eq_of_mem_set hp with hp | rfl
   .exact hI.2 p hp
   .exact h2 hy
 .obtain ⟨y,h1,h2⟩:=(ZVa r.lics from_ to_ lic).2
  rw [h1,bS]
  cases hy:y.2 with
  | false=>exact ⟨Zt3,rfl,fun h=>by cases h⟩
  | true=>exact ⟨_,rfl,fun _=>⟨⟨hr.topo,hr.up,hI.1,hI.2,h2 hy⟩,rfl,rfl⟩⟩
theorem ZQe (r:Room) (j:Job) (t:Int) (nodes:List Int):spec_Reserve r j t nodes = bif diffOk r j nodes && time t then ZW9 r j.need j.lic t (w64 (t + j.wall)) nodes else some Zt3:=by
 unfold spec_Reserve
 rw [ZV8,bS,ZA1]
 cases hd:diffOk r j nodes with
 | false=>rfl
 | true =>
  cases time t with
  | false=>rfl
  | true =>
   have hr:roomOk r = true:=by unfold diffOk at hd; simp only [yD] at hd; exact hd.1.1.1.1
   simp only [Bool.not_true,Bool.or_self,cond_false,Bool.and_self,cond_true]
   rw [ZX8 (ZIi.1 hr).small,bS]
   rfl
theorem Zzk (r:Room) (j:Job) (from_ to_:Int) (nodes:List Int):ZG r j from_ to_ nodes = bif diffOk r j nodes then ZW9 r j.need j.lic from_ to_ nodes else some Zt3:=by
 unfold ZG diffOk
 rw [ZAi,bS,Zo5]
 cases hr:roomOk r with
 | false=>rfl
 | true =>
  have hR:=ZIi.1 hr
  rw [ZSa hR.small.nodes]
  cases spec_JobOk j with
  | false=>rfl
  | true =>
   simp only [Bool.not_true,Bool.or_self,cond_false,Bool.true_and,bS]
   cases (decide ((nodes.length:Int) = j.nodes) && ZI1 r.topo nodes && decide nodes.Nodup) with
   | false=>rfl
   | true =>
    simp only [Bool.not_true,Bool.or_self,cond_false,cond_true]
    rw [Zke hR.small,bS]
    unfold ZW9 Zc1 Zb1
    simp only [fun p f t v=>(ZVa p f t v).1]
    rfl
def idsOk (l:List Job):Bool:=decide (l.map Job.id).Nodup
noncomputable def queueOk (l:List Job):Bool:=decide (l.length <= 60) && l.all spec_JobOk && idsOk l
theorem ZUm {l:List Job} {i:Nat} {x:Job} (hx:l[i]? = some x):((l.take (i + 1)).map Job.id).Nodup ↔ ((l.take i).map Job.id).Nodup /\ ∀ y ∈ l.take i,y.id ≠ x.id:=by
 obtain ⟨hi,rfl⟩:=yB hx
 rw [List.take_succ_eq_append_getElem hi,List.map_append,List.nodup_append]
 constructor
 .intro h; exact ⟨h.1,fun y hy e=>h.2.2 _ (List.mem_map_of_mem hy) _ (List.mem_singleton.2 rfl) e⟩
 .intro h; exact ⟨h.1,by simp,fun a ha b hb e=>by
   obtain ⟨y,hy,rfl⟩:=List.mem_map.1 ha
   rw [show b = l[i].id by simpa using hb] at e
   exact h.2 y hy e⟩
theorem ZLi {γ:Type} {bd:Job -> Nat -> Unit -> (Unit -> Option γ) -> Option γ} {kk:Unit -> Option γ} {r:Option γ} {l:List Job}
  (hb:∀ i x k,l[i]? = some x -> bd x i () k = bif (!spec_JobOk x) || (l.take i).any (fun y=>y.id == x.id) then r else k ()):rgl bd kk l 0 () = bif l.all spec_JobOk && idsOk l then kk () else r:=by
 refine ZG1 (fun i (_:Unit)=>(∀ y ∈ l.take i,spec_JobOk y = true) /\ ((l.take i).map Job.id).Nodup) (fun o=>o = bif l.all spec_JobOk && idsOk l then kk () else r) (fun i x b k hx hI hk=>?_) (fun b hI=>?_) (by simp)
 .have hil:=(yB hx).1
  rw [hb i x k hx]
  cases hj:spec_JobOk x with
  | false =>
   have:l.all spec_JobOk = false:=List.all_eq_false.2 ⟨x,yE hx,by rw [hj]; simp⟩
   rw [this]; rfl
  | true =>
   cases hc:(l.take i).any (fun y=>y.id == x.id) with
   | true =>
    obtain ⟨y,hy,he⟩:=List.any_eq_true.1 hc
    have:idsOk l = false:=by
     unfold idsOk
     rw [decide_eq_false_iff_not]
     intro q
     have q2:((l.take (i + 1)).map Job.id).Nodup:=q.sublist ((List.take_sublist _ _).map _)
     exact ((ZUm hx).1 q2).2 y hy (by simpa using he)
    rw [this,Bool.and_false]; rfl
   | false =>
    refine hk () ⟨fun y hy=>?_,(ZUm hx).2 ⟨hI.2,fun y hy e=>?_⟩⟩
    .obtain ⟨hi,rfl⟩:=yB hx
     rw [List.take_succ_eq_append_getElem hi] at hy
     rcases List.mem_append.1 hy with hy | hy
     .exact hI.1 y hy
     .rw [List.mem_singleton.1 hy]; exact hj
    .have:=List.any_eq_false.1 hc y hy
     simp [e] at this
 .rw [List.take_of_length_le (Nat.le_refl _)] at hI
  rw [List.all_eq_true.2 hI.1]
  unfold idsOk
  rw [decide_eq_true hI.2]; rfl
theorem ZSe (l:List Job):spec_QueueOk l = some (queueOk l):=by
 unfold spec_QueueOk queueOk
 by_cases h:60 < l.length
 .simp [show (60:Int) < l.length by omega,show ¬ l.length <= 60 by omega]
 .rw [show decide ((60:Int) < (l.length:Int)) = false by simp; omega,show decide (l.length <= 60) = true by simp; omega]
  simp only [cond_false,Bool.true_and]
  rw [ZLi (r:=some false) (fun i x k hx=>?_)]
  .unfold ZN4
   cases (l.all spec_JobOk && idsOk l) <;> rfl
  .have hil:=(yB hx).1
   unfold ZO4
   cases spec_JobOk x with
   | false=>rfl
   | true =>
    simp only [Bool.not_true,cond_false,Bool.false_or]
    have h:=ZFa (bd:=Z32 l i x k) (fun (i:Nat) (_:Unit)=>(i:Int)) (n:=i)
     (B:=fun m _ _ k=>bif (match l[m]? with | some e=>e.id == x.id | none=>false) then some false else k ()) (kk:=fun _=>k ()) (fun m st k hm=>by
      obtain ⟨e,he⟩:∃ e,l[m]? = some e:=⟨_,yA (by omega)⟩
      have hlt:(m:Int) < (i:Int):=by omega
      simp only [Z32,hlt,decide_true,cond_true,Za,he,bS,Zz (n:=m) (by omega)])
     (fun m st k hm=>by
      have hlt:¬ (m:Int) < (i:Int):=by omega
      simp only [Z32,hlt,decide_false,cond_false]) 9223372036854775807 0 () (by omega)
    refine h.trans ?_
    rw [ZW1 (r:=some false) (p:=fun (m:Nat)=>match l[m]? with | some e=>e.id == x.id | none=>false) (fun m _ i k=>rfl)]
    have e:(List.range' 0 (i - 0)).any (fun (m:Nat)=>match l[m]? with | some e=>e.id == x.id | none=>false) = (l.take i).any (fun y=>y.id == x.id):=by
     rw [Bool.eq_iff_iff,List.any_eq_true,List.any_eq_true]
     constructor
     .rintro ⟨m,hm,hq⟩
      obtain ⟨j,hj,rfl⟩:=List.mem_range'.1 hm
      have hlt:0 + 1 * j < l.length:=by omega
      rw [yA hlt] at hq
      exact ⟨_,List.mem_take_iff_getElem.2 ⟨0 + 1 * j,by omega,rfl⟩,hq⟩
     .rintro ⟨y,hy,hq⟩
      obtain ⟨m,hm,rfl⟩:=List.mem_take_iff_getElem.1 hy
      exact ⟨m,List.mem_range'.2 ⟨m,by omega,by omega⟩,by rw [yA (by omega)]; exact hq⟩
    rw [e]
theorem Zim (l:List Job) (c:Job):Z6 l c = some (l.any fun y=>y.id == c.id):=by
 unfold Z6 Ze
 have:∃ r:Int,rgl (Zb c) Zk l 0 () = some r /\ decide (0 <= r) = l.any fun y=>y.id == c.id:=by
  refine ZG1 (fun i (_:Unit)=>∀ y ∈ l.take i,(y.id == c.id) = false) (fun o=>∃ r:Int,o = some r /\ decide (0 <= r) = l.any fun y=>y.id == c.id) (fun i x b k hx hI hk=>?_) (fun b hI=>?_) (by simp)
  .unfold Zb impl_QueueOk_1
   cases h:(x.id == c.id) with
   | true=>exact ⟨i,rfl,by rw [List.any_eq_true.2 ⟨x,yE hx,h⟩]; simp⟩
   | false =>
    refine hk () fun y hy=>?_
    obtain ⟨hi,rfl⟩:=yB hx
    rw [List.take_succ_eq_append_getElem hi] at hy
    rcases List.mem_append.1 hy with hy | hy
    .exact hI y hy
    .rw [List.mem_singleton.1 hy]; exact h
  .rw [List.take_of_length_le (Nat.le_refl _)] at hI
   exact ⟨-1,rfl,by rw [List.any_eq_false.2 fun y hy=>by rw [hI y hy]; simp]; rfl⟩
 obtain ⟨r,h1,h2⟩:=this
 rw [h1,bS,h2]
theorem Zpg (l:List Job):impl_QueueOk l = some (queueOk l):=by
 unfold impl_QueueOk queueOk
 rw [ZLi (r:=some false) (fun i x k hx=>?_)]
 .unfold ZX4
  have e:decide ((l.length:Int) <= 60) = decide (l.length <= 60):=by rw [Bool.eq_iff_iff]; simp; omega
  rw [e]
  cases l.all spec_JobOk <;> cases idsOk l <;> cases decide (l.length <= 60) <;> rfl
 .have hil:=(yB hx).1
  unfold ZY4
  rw [Zo5,ZAe (by omega)]
  cases spec_JobOk x with
  | false=>rfl
  | true =>
   simp only [Bool.not_true,cond_false,bS,Zim,Bool.false_or]
theorem Zqg (v:Vec):impl_ProfNew v = spec_ProfNew v:=rfl
def ZV5 (t:Topo) (up:List Bool) (lic:Vec):Room:=⟨t,up,t.nodes.map fun x=>(spec_ProfNew x.cap).1,(spec_ProfNew lic).1⟩
theorem Z3j {v:Vec} (h:spec_VecOk v = true):ProfP (spec_ProfNew v).1:=by
 unfold spec_ProfNew
 rw [h]
 simp only [Bool.not_true,cond_false]
 exact ⟨by simp,by simp,fun x hx=>by simp at hx; rw [← hx],fun x hx=>by simp at hx; subst hx; exact ⟨rfl,h⟩,fun i x y hx hy=>by simp at hy⟩
theorem Z6d {t:Topo} (h:TopoP t) {up:List Bool} (hu:up.length = t.nodes.length) {lic:Vec} (hl:spec_VecOk lic = true):RoomP (ZV5 t up lic) :=
  ⟨h,hu,by simp [ZV5],fun p hp=>by
    obtain ⟨x,hx,rfl⟩:=List.mem_map.1 hp
    exact Z3j (h.node x hx).2.2.2,Z3j hl⟩
theorem ZDk {t:Topo} (h:TopoP t) {up:List Bool} (hu:up.length = t.nodes.length) (lic:Vec):impl_empty t up lic = some (ZV5 t up lic):=by
 have:=h.tree.le; have:=h.nodes
 unfold impl_empty impl_copyTopo impl_copyInts
 rw [Zt (by simp; omega),bS,bS,Zt (by simp; omega),bS,bS,Zt (by simp; omega),bS]
 rw [ZH1 (bd:=Z27) (bs:=24) (p:=fun _=>true) (f:=fun x=>(spec_ProfNew x.cap).1) (fun x hx i b k=>rfl) (by simp; omega)]
 unfold Z17 ZV5
 simp [List.filter_eq_self.2,Zqg]
theorem Zmd (s:State):spec_l06Empty s = some (bif topoOk s.topo && decide (s.up.length = s.topo.nodes.length) && spec_VecOk s.lic then (ZV5 s.topo s.up s.lic,true) else Zt3):=by
 unfold spec_l06Empty
 rw [ZG2,bS,ZJj]
 cases ht:topoOk s.topo with
 | false=>rfl
 | true =>
 cases hu:decide (s.up.length = s.topo.nodes.length) with
 | false=>rfl
 | true =>
 cases hl:spec_VecOk s.lic with
 | false=>rfl
 | true =>
  have h:=Zy7.1 ht
  have hu:=of_decide_eq_true hu
  have:=h.nodes
  simp only [Bool.not_true,Bool.or_self,cond_false,Bool.and_self,cond_true]
  rw [ZH1 (bd:=ZY3) (bs:=24) (p:=fun _=>true) (f:=fun x=>(spec_ProfNew x.cap).1) (fun x hx i b k=>rfl) (by simp; omega)]
  unfold ZX3
  rw [show (s.topo.nodes.filter fun _=>true) = s.topo.nodes from List.filter_eq_self.2 fun _ _=>rfl,List.nil_append]
  have hR:=Z6d h hu hl
  unfold ZV5 at hR
  rw [ZX8 hR.small,bS]
  rfl
def runOk (s:State) (x:Run):Bool:=time x.t && decide (x.t <= s.now) && decide (s.now < x.t + x.job.wall) && decide (x.t + x.job.wall <= 1000000000)
noncomputable def ZY9 (s:State) (x:Run) (v:Room):Option (Room × Bool):=bif diffOk v x.job x.nodes && runOk s x then ZW9 v x.job.need x.job.lic s.now (x.t + x.job.wall) x.nodes else some Zt3
theorem Zej {s:State} (hs:time s.now = true) (x:Run) (i:Nat) (v:Room) (k:Room -> Option (Room × Bool)):Zo3 s x i v k = (ZY9 s x v).bind fun y=>bif !y.2 then some Zt3 else k y.1:=by
 have hn:=Z76.1 hs
 unfold Zo3 ZY9
 rw [ZV8,bS,ZA1]
 cases hd:diffOk v x.job x.nodes with
 | false=>rfl
 | true =>
  have hj:spec_JobOk x.job = true:=by unfold diffOk at hd; simp only [yD] at hd; exact hd.1.1.1.2
  have hj':=ZG7.1 hj
  unfold runOk
  by_cases ht:time x.t = true /\ x.t <= s.now
  .have ht1:=Z76.1 ht.1
   rw [ht.1,ZM (n:=x.t + x.job.wall) (by omega),show decide (s.now < x.t) = false by simp; omega,show decide (x.t <= s.now) = true by simpa using ht.2]
   by_cases h3:s.now < x.t + x.job.wall
   .rw [show decide (x.t + x.job.wall <= s.now) = false by simp; omega,show decide (s.now < x.t + x.job.wall) = true by simpa using h3]
    by_cases h4:x.t + x.job.wall <= 1000000000
    .rw [show decide (1000000000 < x.t + x.job.wall) = false by simp; omega,show decide (x.t + x.job.wall <= 1000000000) = true by simpa using h4]
     simp only [Bool.not_true,Bool.or_self,cond_false,Bool.and_self,cond_true]
     rw [ZM (n:=x.t + x.job.wall - s.now) (by omega),ZQe]
     have e:diffOk v ⟨x.job.id,x.job.prio,x.job.nodes,x.job.need,x.job.lic,x.t + x.job.wall - s.now,x.job.level⟩ x.nodes = true:=by
      have hj2:spec_JobOk ⟨x.job.id,x.job.prio,x.job.nodes,x.job.need,x.job.lic,x.t + x.job.wall - s.now,x.job.level⟩ = true:=by
       rw [ZG7]; simp only; refine ⟨hj'.1,hj'.2.1,hj'.2.2.1,hj'.2.2.2.1,hj'.2.2.2.2.1,by omega,hj'.2.2.2.2.2.2⟩
      unfold diffOk at hd ⊢
      rw [hj] at hd
      rw [hj2]; exact hd
     rw [e,hs]
     simp only [Bool.and_self,cond_true]
     rw [show s.now + (x.t + x.job.wall - s.now) = x.t + x.job.wall by omega,ZM (by omega)]
     rfl
    .rw [show decide (1000000000 < x.t + x.job.wall) = true by simp; omega,show decide (x.t + x.job.wall <= 1000000000) = false by simpa using h4]
     simp [Zt3]
   .rw [show decide (x.t + x.job.wall <= s.now) = true by simp; omega,show decide (s.now < x.t + x.job.wall) = false by simpa using h3]
    simp [Zt3]
  .have:(time x.t && decide (x.t <= s.now)) = false:=by
    rw [Bool.eq_false_iff]; intro q; simp only [yD,decide_eq_true_eq] at q; exact ht q
   rw [this]
   have h2:(!(time x.t) || decide (s.now < x.t)) = true:=by
    cases hx:time x.t with
    | false=>rfl
    | true =>
     have:¬ x.t <= s.now:=fun q=>ht ⟨hx,q⟩
     simp; omega
   simp only [Bool.not_true,Bool.false_or,h2,Bool.true_or,cond_true,Bool.false_and,Bool.and_false,cond_false,bS]
   rfl
theorem Zyk {s:State} (hs:time s.now = true) (x:Run) (i:Nat) (v:Room) (k:Room -> Option (Room × Bool)):ZL3 s x i v k = (ZY9 s x v).bind fun y=>bif !y.2 then some Zt3 else k y.1:=by
 have hn:=Z76.1 hs
 unfold ZL3 ZY9
 rw [Zo5,Zzk]
 cases hj:spec_JobOk x.job with
 | false =>
  have hd:diffOk v x.job x.nodes = false:=by unfold diffOk; rw [hj]; simp
  rw [hd]; rfl
 | true =>
  have hj':=ZG7.1 hj
  by_cases h1:0 <= x.t /\ x.t <= s.now
  .rw [ZM (n:=x.t + x.job.wall) (by omega),ZM (n:=s.now + 1) (by omega)]
   have e1:impl_within x.t 0 s.now = true:=by simp [impl_within]; exact h1
   have e2:impl_within (x.t + x.job.wall) (s.now + 1) 1000000000 = (decide (s.now < x.t + x.job.wall) && decide (x.t + x.job.wall <= 1000000000)):=by
    unfold impl_within; congr 1
   have e3:time x.t = true:=by rw [Z76]; omega
   unfold runOk
   rw [e1,e2,e3,show decide (x.t <= s.now) = true by simpa using h1.2]
   simp only [Bool.not_true,Bool.false_or,Bool.and_self,Bool.true_and]
   cases (decide (s.now < x.t + x.job.wall) && decide (x.t + x.job.wall <= 1000000000)) <;> cases diffOk v x.job x.nodes <;> rfl
  .have e1:impl_within x.t 0 s.now = false:=by
    unfold impl_within; rw [Bool.eq_false_iff]; intro q; simp only [yD,decide_eq_true_eq] at q; exact h1 q
   have e2:runOk s x = false:=by
    unfold runOk; rw [Bool.eq_false_iff]; intro q; simp only [yD,decide_eq_true_eq,Z76] at q; exact h1 ⟨q.1.1.1.1,q.1.1.2⟩
   rw [e1,e2]
   simp [Zt3]
noncomputable def Z9b (s:State):Option (Room × Bool):=rgl (fun x _ v k=>(ZY9 s x v).bind fun y=>bif !y.2 then some Zt3 else k y.1) (fun v=>some (v,true)) s.runs 0 (ZV5 s.topo s.up s.lic)
noncomputable def ZU7 (s:State):Bool:=topoOk s.topo && decide (s.up.length = s.topo.nodes.length) && spec_VecOk s.lic && time s.now
theorem Zda (s:State):spec_RoomOf s = bif ZU7 s then Z9b s else some Zt3:=by
 unfold spec_RoomOf ZU7
 rw [Zmd,bS,ZA1]
 cases (topoOk s.topo && decide (s.up.length = s.topo.nodes.length) && spec_VecOk s.lic) with
 | false=>rfl
 | true =>
  cases hs:time s.now with
  | false=>rfl
  | true =>
   simp only [cond_true,Bool.not_true,Bool.or_self,cond_false,Bool.and_self]
   unfold Z9b
   exact ZE7 (fun i x b k _=>Zej hs x i b k) fun b=>rfl
theorem ZCi (s:State):impl_RoomOf s = spec_RoomOf s:=by
 rw [Zda]
 unfold impl_RoomOf ZU7
 rw [Z67,ZG2,bS,ZJj,Zu1,Z07]
 cases ht:topoOk s.topo with
 | false=>rfl
 | true =>
 cases hu:decide (s.up.length = s.topo.nodes.length) with
 | false=>rfl
 | true =>
 cases hl:spec_VecOk s.lic with
 | false=>rfl
 | true =>
 cases hs:time s.now with
 | false=>rfl
 | true =>
  simp only [Bool.not_true,Bool.or_self,cond_false,Bool.and_self,cond_true]
  rw [ZDk (Zy7.1 ht) (of_decide_eq_true hu),bS]
  unfold Z9b
  exact ZE7 (fun i x b k _=>Zyk hs x i b k) fun b=>rfl
structure RunsP (s:State):Prop where
 job:∀ x ∈ s.runs,spec_JobOk x.job = true /\ (x.nodes.length:Int) = x.job.nodes /\ ZI1 s.topo x.nodes = true /\ x.nodes.Nodup /\ runOk s x = true
theorem Zuj {s:State} (h:ZU7 s = true):∃ q,Z9b s = some q /\ (q.2 = true -> RoomP q.1 /\ q.1.topo = s.topo /\ q.1.up = s.up /\ RunsP s):=by
 unfold ZU7 at h
 simp only [yD,decide_eq_true_eq,Zy7] at h
 unfold Z9b
 refine ZG1 (fun i (v:Room)=>RoomP v /\ v.topo = s.topo /\ v.up = s.up /\ ∀ x ∈ s.runs.take i,spec_JobOk x.job = true /\ (x.nodes.length:Int) = x.job.nodes /\ ZI1 s.topo x.nodes = true /\ x.nodes.Nodup /\ runOk s x = true) (fun o=>∃ q:Room × Bool,o = some q /\ (q.2 = true -> RoomP q.1 /\ q.1.topo = s.topo /\ q.1.up = s.up /\ RunsP s)) (fun i x v k hx hI hk=>?_) (fun v hI=>?_) ⟨Z6d h.1.1.1 h.1.1.2 h.1.2,rfl,rfl,by simp⟩
 .obtain ⟨h1,h2,h3,h4⟩:=hI
  unfold ZY9
  cases hd:(diffOk v x.job x.nodes && runOk s x) with
  | false=>exact ⟨Zt3,rfl,fun h=>by cases h⟩
  | true =>
   simp only [yD] at hd
   have hd1:=hd.1
   unfold diffOk at hd1
   simp only [yD,decide_eq_true_eq] at hd1
   obtain ⟨q,q1,q2⟩:=Zbj h1 x.job.need x.job.lic s.now (x.t + x.job.wall) hd1.1.2
   simp only [cond_true]
   rw [q1,bS]
   cases hq:q.2 with
   | false=>exact ⟨Zt3,rfl,fun h=>by cases h⟩
   | true =>
    obtain ⟨a1,a2,a3⟩:=q2 hq
    refine hk q.1 ⟨a1,a2.trans h2,a3.trans h3,fun y hy=>?_⟩
    obtain ⟨hi,rfl⟩:=yB hx
    rw [List.take_succ_eq_append_getElem hi] at hy
    rcases List.mem_append.1 hy with hy | hy
    .exact h4 y hy
    .rw [List.mem_singleton.1 hy]
     exact ⟨hd1.1.1.1.2,hd1.1.1.2,by rw [← h2]; exact hd1.1.2,hd1.2,hd.2⟩
 .obtain ⟨h1,h2,h3,h4⟩:=hI
  rw [List.take_of_length_le (Nat.le_refl _)] at h4
  exact ⟨_,rfl,fun _=>⟨h1,h2,h3,⟨h4⟩⟩⟩
theorem Zud (s:State):∃ q,spec_RoomOf s = some q /\ (q.2 = true -> ZU7 s = true /\ RoomP q.1 /\ q.1.topo = s.topo /\ q.1.up = s.up /\ RunsP s):=by
 rw [Zda]
 cases h:ZU7 s with
 | false=>exact ⟨Zt3,rfl,fun h=>by cases h⟩
 | true =>
  obtain ⟨q,h1,h2⟩:=Zuj h
  exact ⟨q,h1,fun h=>⟨rfl,h2 h⟩⟩
def allJobs (s:State):List Job:=s.queue ++ s.runs.map Run.job
theorem Zz5 {s:State} (h:s.queue.length + s.runs.length <= 1048576):spec_l06Jobs s = some (allJobs s):=by
 unfold spec_l06Jobs
 rw [Zt (by simp; omega),bS,ZH1 (bd:=ZH4) (bs:=88) (p:=fun _=>true) (f:=Run.job) (fun x hx i b k=>rfl) (by simp; omega)]
 unfold ZG4 allJobs
 simp [List.filter_eq_self.2]
theorem ZI7 (s:State):impl_State_all s = spec_l06Jobs s:=rfl
def AscP (l:List Int):Prop:=∀ (i:Nat) (x y:Int),l[i]? = some x -> l[i + 1]? = some y -> x < y
open Classical in
noncomputable def ascB (l:List Int):Bool:=decide (AscP l)
theorem ZEe {l:List Int}:ascB l = true ↔ AscP l:=by unfold ascB; simp
theorem Z9a {l:List Int} (hl:l.length <= 1048576):impl_areAscending l = some (ascB l):=by
 unfold impl_areAscending
 have h:=ZFa (bd:=ZS l) (fun (i:Nat) (_:Unit)=>((i + 1:Nat):Int)) (n:=l.length - 1)
  (B:=fun x _ _ k=>bif (match l[x]?,l[x + 1]? with | some a,some b=>decide (b <= a) | _,_=>true) then some false else k ()) (kk:=fun _=>some true) (fun i st k hi=>by
   obtain ⟨a,ha⟩:∃ e,l[i]? = some e:=⟨_,yA (by omega)⟩
   obtain ⟨b,hb⟩:∃ e,l[i + 1]? = some e:=⟨_,yA (by omega)⟩
   have hlt:((i + 1:Nat):Int) < (l.length:Int):=by omega
   simp only [ZS,hlt,decide_true,cond_true,Zre (n:=i + 1) (by omega) (by omega),Nat.add_sub_cancel,Za,ha,hb,bS,Zz (n:=i + 1) (by omega)])
  (fun i st k hi=>by
   have hlt:¬ ((i + 1:Nat):Int) < (l.length:Int):=by omega
   simp only [ZS,hlt,decide_false,cond_false]) 9223372036854775807 0 () (by omega)
 refine h.trans ?_
 rw [ZW1 (r:=some false) (p:=fun (x:Nat)=>match l[x]?,l[x + 1]? with | some a,some b=>decide (b <= a) | _,_=>true) (fun x _ i k=>rfl)]
 cases hany:(List.range' 0 (l.length - 1 - 0)).any (fun (x:Nat)=>match l[x]?,l[x + 1]? with | some a,some b=>decide (b <= a) | _,_=>true) with
 | true =>
  obtain ⟨x,hx,hq⟩:=List.any_eq_true.1 hany
  obtain ⟨j,hj,rfl⟩:=List.mem_range'.1 hx
  obtain ⟨a,ha⟩:∃ e,l[0 + 1 * j]? = some e:=⟨_,yA (by omega)⟩
  obtain ⟨b,hb⟩:∃ e,l[0 + 1 * j + 1]? = some e:=⟨_,yA (by omega)⟩
  rw [ha,hb] at hq
  have:ascB l = false:=by
   rw [Bool.eq_false_iff]
   intro q
   have:=ZEe.1 q _ a b ha hb
   simp at hq; omega
  rw [this]; rfl
 | false =>
  have:ascB l = true:=ZEe.2 fun i x y hx hy=>by
   have hlt:=(yB hy).1
   have:=List.any_eq_false.1 hany i (List.mem_range'.2 ⟨i,by omega,by omega⟩)
   rw [hx,hy] at this
   simpa using this
  rw [this]; rfl
noncomputable def lowN (t:Topo) (l:List Int):Nat:=((spec_Lowest t l).getD 0).toNat
theorem Zdo {t:Topo} {l:List Int} (h:ZI1 t l = true) (hne:l ≠ []):lowN t l < t.parents.length /\ spec_Lowest t l = some (lowN t l:Int) /\ impl_Lowest t l = some (lowN t l:Int):=by
 obtain ⟨s,h1,h2,h3⟩:=Zlm h hne
 have:lowN t l = s:=by unfold lowN; rw [h2]; simp
 rw [this]; exact ⟨h1,h2,h3⟩
def isUp (s:State) (n:Int):Bool:=(idx s.up n).getD false
noncomputable def runFit (s:State) (x:Run):Bool:=x.nodes.all (isUp s) && ascB x.nodes && decide (lev s.topo (lowN s.topo x.nodes) <= x.job.level)
def endOk (s:State) (e:End):Bool:=(decide (1 <= e.id) && decide (e.id <= 999)) && (decide (0 <= e.t) && decide (e.t <= s.now)) && (decide (1 <= e.why) && decide (e.why <= 4))
noncomputable def stateOk (s:State):Bool:=((spec_RoomOf s).getD Zt3).2 && (decide (0 <= s.depth) && decide (s.depth <= 60)) && queueOk (allJobs s) && decide (s.ends.length <= 300) && s.runs.all (runFit s) && s.ends.all (endOk s)
theorem Zql {a b:Int}:decide (b < a) = !decide (a <= b):=by rw [Bool.eq_iff_iff]; simp
theorem Zel {s:State} (_:TopoP s.topo) (hu:s.up.length = s.topo.nodes.length) (hR:RunsP s) {x:Run} (hx:x ∈ s.runs) :
  x.nodes ≠ [] /\ ZI1 s.topo x.nodes = true /\ x.nodes.length <= 24 /\ ∀ n ∈ x.nodes,∃ b,idx s.up n = some b:=by
 obtain ⟨h1,h2,h3,_,_⟩:=hR.job x hx
 have hj:=(ZG7.1 h1).2.2.1
 refine ⟨fun e=>by rw [e] at h2; simp at h2; omega,h3,by omega,fun n hn=>?_⟩
 have:=(Z44.1 h3).2 n hn
 obtain ⟨b,q,_⟩:=ZOk (l:=s.up) (i:=n) this.1 (by rw [hu]; exact this.2)
 exact ⟨b,q⟩
theorem Zdj {s:State} (hT:TopoP s.topo) (hu:s.up.length = s.topo.nodes.length) (hR:RunsP s) {x:Run} (hx:x ∈ s.runs) (k:Unit -> Option Bool) (i:Nat):ZQ2 s x i () k = bif !runFit s x then some false else k ():=by
 obtain ⟨h1,h2,h3,h4⟩:=Zel hT hu hR hx
 obtain ⟨l1,l2,l3⟩:=Zdo h2 h1
 unfold ZQ2
 have hk:ZZ s x k () = bif decide (lev s.topo (lowN s.topo x.nodes) <= x.job.level) then k () else some false:=by
  unfold ZZ
  rw [l2,bS,Zl3 hT l1,bS,Zql]
  cases decide (lev s.topo (lowN s.topo x.nodes) <= x.job.level) <;> rfl
 have:rgl (ZR2 s x) (ZZ s x k) x.nodes 0 () = bif x.nodes.all (isUp s) && ascB x.nodes then ZZ s x k () else some false:=by
  refine ZG1 (fun i (_:Unit)=>(∀ j n,j < i -> x.nodes[j]? = some n -> isUp s n = true) /\ ∀ j a b,j + 1 < i -> x.nodes[j]? = some a -> x.nodes[j + 1]? = some b -> a < b) (fun o=>o = bif x.nodes.all (isUp s) && ascB x.nodes then ZZ s x k () else some false) (fun i n b kc hi hI hkc=>?_) (fun b hI=>?_) ⟨fun j n h=>by omega,fun j a b h=>by omega⟩
  .have hil:=(yB hi).1
   obtain ⟨u,hu'⟩:=h4 n (yE hi)
   have hup:isUp s n = u:=by unfold isUp; rw [hu']; rfl
   unfold ZR2
   rw [hu',bS]
   cases u with
   | false =>
    have:x.nodes.all (isUp s) = false:=List.all_eq_false.2 ⟨n,yE hi,by rw [hup]; simp⟩
    rw [this]; rfl
   | true =>
    have new:∀ j m,j < i + 1 -> x.nodes[j]? = some m -> isUp s m = true:=by
     intro j m hj hm
     by_cases e:j = i
     .subst e; rw [hi] at hm; cases hm; exact hup
     .exact hI.1 j m (by omega) hm
    by_cases h0:i = 0
    .subst h0
     exact hkc () ⟨new,fun j a b hj=>by omega⟩
    .have hgt:decide ((0:Int) < (i:Int)) = true:=by simp; omega
     obtain ⟨q,hq⟩:∃ q,x.nodes[i - 1]? = some q:=⟨_,yA (by omega)⟩
     rw [hgt,Zre (by omega) (by omega)]
     simp only [Bool.not_true,cond_false,cond_true,Bool.false_or,Bool.true_and,Za,hq,bS]
     by_cases h5:n <= q
     .have:ascB x.nodes = false:=by
       rw [Bool.eq_false_iff]
       intro w
       have:=ZEe.1 w (i - 1) q n hq (by rw [show i - 1 + 1 = i by omega]; exact hi)
       omega
      rw [this,Bool.and_false]; simp [h5]
     .simp only [h5,decide_false,cond_false]
      refine hkc () ⟨new,fun j a b hj ha hb=>?_⟩
      by_cases e:j + 1 = i
      .have:j = i - 1:=by omega
       subst this
       rw [hq] at ha; cases ha
       rw [show i - 1 + 1 = i by omega,hi] at hb; cases hb
       omega
      .exact hI.2 j a b (by omega) ha hb
  .have e1:x.nodes.all (isUp s) = true:=List.all_eq_true.2 fun n hn=>by
    obtain ⟨j,hj⟩:=List.getElem?_of_mem hn
    exact hI.1 j n (yB hj).1 hj
   have e2:ascB x.nodes = true:=ZEe.2 fun j a b ha hb=>hI.2 j a b (yB hb).1 ha hb
   rw [e1,e2]; rfl
 rw [this,hk]
 unfold runFit
 cases x.nodes.all (isUp s) <;> cases ascB x.nodes <;> cases decide (lev s.topo (lowN s.topo x.nodes) <= x.job.level) <;> rfl
theorem impl_run {s:State} (hT:TopoP s.topo) (hu:s.up.length = s.topo.nodes.length) (hR:RunsP s) {x:Run} (hx:x ∈ s.runs) (k:Unit -> Option Bool) (i:Nat):Z23 s x i () k = bif !runFit s x then some false else k ():=by
 obtain ⟨h1,h2,h3,h4⟩:=Zel hT hu hR hx
 obtain ⟨l1,l2,l3⟩:=Zdo h2 h1
 unfold Z23
 rw [ZW1 (r:=some false) (p:=fun n=>!isUp s n) (fun n hn i k=>by
  obtain ⟨u,hu'⟩:=h4 n hn
  unfold ZW4 isUp
  rw [hu',bS]; rfl),← List.not_all_eq_any_not]
 unfold ZV4
 rw [Z9a (by omega),bS]
 unfold runFit
 cases x.nodes.all (isUp s) with
 | false=>rfl
 | true =>
 cases ascB x.nodes with
 | false=>rfl
 | true =>
  simp only [Bool.not_true,cond_false,l3,bS,ZN5 hT l1,Bool.false_or,Bool.true_and,Zql]
theorem Z2j {s:State} (hs:s.queue.length + s.runs.length <= 1048576):spec_StateOk s = some (stateOk s) /\ impl_StateOk s = some (stateOk s):=by
 obtain ⟨q,h1,h2⟩:=Zud s
 unfold spec_StateOk impl_StateOk stateOk
 rw [ZCi,h1,bS,bS,ZI7,Zz5 hs,Option.getD_some]
 have e1:(decide (s.depth < 0) || decide (60 < s.depth)) = !(decide (0 <= s.depth) && decide (s.depth <= 60)):=by rw [Bool.eq_iff_iff]; simp
 have e2:impl_within s.depth 0 60 = (decide (0 <= s.depth) && decide (s.depth <= 60)):=rfl
 have e3:decide ((300:Int) < (s.ends.length:Int)) = !decide (s.ends.length <= 300):=by rw [Bool.eq_iff_iff]; simp; omega
 rw [Bool.or_assoc,e1,e2,e3]
 cases hq:q.2 with
 | false=>exact ⟨rfl,rfl⟩
 | true =>
 obtain ⟨a1,a2,a3,a4,a5⟩:=h2 hq
 have hT:TopoP s.topo:=by rw [← a3]; exact a2.topo
 have hu:s.up.length = s.topo.nodes.length:=by rw [← a3,← a4]; exact a2.up
 cases (decide (0 <= s.depth) && decide (s.depth <= 60)) with
 | false=>exact ⟨rfl,rfl⟩
 | true =>
 simp only [Bool.not_true,Bool.or_self,cond_false,bS,ZSe,Zpg,Bool.false_or,Bool.true_and]
 cases queueOk (allJobs s) with
 | false=>exact ⟨rfl,rfl⟩
 | true =>
 cases decide (s.ends.length <= 300) with
 | false=>exact ⟨rfl,rfl⟩
 | true =>
 simp only [Bool.not_true,Bool.or_self,cond_false,Bool.true_and]
 rw [ZW1 (r:=some false) (p:=fun x=>!runFit s x) (fun x hx i k=>Zdj hT hu a5 hx k i),ZW1 (r:=some false) (p:=fun x=>!runFit s x) (fun x hx i k=>impl_run hT hu a5 hx k i),← List.not_all_eq_any_not]
 unfold ZM4 ZU4
 have f1:∀ e:End,((((((decide (e.id < 1)) || (decide (999 < e.id))) || (decide (e.t < 0))) || (decide (s.now < e.t))) || (decide (e.why < 1))) || (decide (4 < e.why))) = !endOk s e:=by
  intro e; unfold endOk; rw [Bool.eq_iff_iff]; simp; omega
 have f2:∀ e:End,(((!(impl_within e.id 1 999)) || (!(impl_within e.t 0 s.now))) || (!(impl_within e.why 1 4))) = !endOk s e:=by
  intro e; unfold endOk impl_within
  cases (decide (1 <= e.id) && decide (e.id <= 999)) <;> cases (decide (0 <= e.t) && decide (e.t <= s.now)) <;> cases (decide (1 <= e.why) && decide (e.why <= 4)) <;> rfl
 rw [ZW1 (bd:=ZP2 s) (r:=some false) (p:=fun e=>!endOk s e) (fun e he i k=>by unfold ZP2; rw [f1]),ZW1 (bd:=Z13 s) (r:=some false) (p:=fun e=>!endOk s e) (fun e he i k=>by unfold Z13; rw [f2]),← List.not_all_eq_any_not]
 unfold ZL4 ZT4
 cases s.runs.all (runFit s) <;> cases s.ends.all (endOk s) <;> exact ⟨rfl,rfl⟩
theorem ZIe (s:Str):impl_WordOk s = spec_WordOk s:=rfl
theorem ZHe {s:Str} (h:s.length < 9223372036854775807):∃ b,spec_WordOk s = some b /\ (b = true -> s.length <= 8):=by
 unfold spec_WordOk
 refine ZU3 (fun _ o=>∃ b,o = some b /\ (b = true -> s.length <= 8)) (fun v=>s.length - v.toNat) (fun v=>∃ i:Nat,v = (i:Int) /\ i <= s.length) ?_ 9223372036854775807 0 ⟨0,rfl,Nat.zero_le _⟩ (by omega)
 rintro _ k ⟨i,rfl,hi⟩ hk
 unfold ZB5
 by_cases hlt:i < s.length
 .have hlt':(i:Int) < (s.length:Int):=by omega
  obtain ⟨c,hc⟩:∃ c,s[i]? = some c:=⟨_,yA hlt⟩
  simp only [hlt',decide_true,cond_true,Za,hc,bS,Zz (n:=i) (by omega)]
  cases (decide ((c.toNat:Int) < 97) || decide (122 < (c.toNat:Int))) with
  | true=>exact ⟨_,rfl,fun h=>by cases h⟩
  | false=>exact hk _ ⟨i + 1,rfl,hlt⟩ (by omega)
 .have:i = s.length:=by omega
  subst this
  simp only [Int.lt_irrefl,decide_false,cond_false]
  refine ⟨_,rfl,fun h=>?_⟩
  simp only [yD,decide_eq_true_eq] at h
  omega
def wordB (s:Str):Bool:=(spec_WordOk s).getD false
theorem ZV9 {s:Str} (h:s.length < 9223372036854775807):spec_WordOk s = some (wordB s):=by
 obtain ⟨b,h1,_⟩:=ZHe h
 unfold wordB
 rw [h1]; rfl
theorem Z4l {s:Str} (h:s.length < 9223372036854775807) (hw:wordB s = true):s.length <= 8:=by
 obtain ⟨b,h1,h2⟩:=ZHe h
 unfold wordB at hw
 rw [h1] at hw
 exact h2 hw
theorem ZRm (a b:Int):decide (a < b) = !decide (b <= a):=by
 by_cases h:a < b
 .have:¬ b <= a:=by omega
  simp [h,this]
 .have:b <= a:=by omega
  simp [h,this]
theorem ZFe {α:Type} {l:List α} {n:Int} {bs bi:α -> Nat -> Unit -> (Unit -> Option Bool) -> Option Bool} {ks ki:Unit -> Option Bool} {G:α -> Prop} (bad:α -> Nat -> Bool)
  (hs:∀ i x k,l[i]? = some x -> bs x i () k = bif bad x i then some false else k ())
  (hi:∀ i x k,l[i]? = some x -> (∀ y ∈ l.take i,G y) -> bi x i () k = bif bad x i then some false else k ())
  (hG:∀ i x,l[i]? = some x -> bad x i = false -> G x) (hks:ks () = some true) (hki:ki () = some (decide ((l.length:Int) <= n))) :
  ∃ b,(bif decide (n < (l.length:Int)) then some false else rgl bs ks l 0 ()) = some b /\ rgl bi ki l 0 () = some b /\ (b = true -> (l.length:Int) <= n /\ ∀ x ∈ l,G x):=by
 have key:∀ (m i:Nat),l.length - i = m -> i <= l.length -> (∀ y ∈ l.take i,G y) ->
   (rgl bs ks (l.drop i) i () = some true /\ rgl bi ki (l.drop i) i () = ki () /\ ∀ x ∈ l,G x) \/ (rgl bs ks (l.drop i) i () = some false /\ rgl bi ki (l.drop i) i () = some false):=by
  intro m
  induction m with
  | zero =>
   intro i hn hle hp
   have:i = l.length:=by omega
   subst this
   rw [List.drop_length]
   rw [List.take_length] at hp
   exact .inl ⟨hks,rfl,hp⟩
  | succ m ih =>
   intro i hn hle hp
   have h1:i < l.length:=by omega
   have hx:=yA h1
   rw [List.drop_eq_getElem_cons h1,rgl,rgl,hs i _ _ hx,hi i _ _ hx hp]
   cases hb:bad l[i] i with
   | true=>exact .inr ⟨rfl,rfl⟩
   | false =>
    refine ih (i + 1) (by omega) h1 fun y hy=>?_
    rw [List.take_add_one,hx] at hy
    rcases List.mem_append.1 hy with hy | hy
    .exact hp y hy
    .simp at hy
     subst hy
     exact hG i _ hx hb
 have:=key l.length 0 (by simp) (Nat.zero_le _) (by simp)
 rw [List.drop_zero,hki] at this
 by_cases hl:n < (l.length:Int)
 .have hn:¬ (l.length:Int) <= n:=by omega
  rw [show decide (n < (l.length:Int)) = true by simpa using hl,cond_true]
  rw [show decide ((l.length:Int) <= n) = false by simpa using hn] at this
  rcases this with ⟨_,h2,_⟩ | ⟨_,h2⟩ <;> exact ⟨false,rfl,h2,fun h=>by cases h⟩
 .have hn:(l.length:Int) <= n:=by omega
  rw [show decide (n < (l.length:Int)) = false by simpa using hl,cond_false]
  rw [show decide ((l.length:Int) <= n) = true by simpa using hn] at this
  rcases this with ⟨h1,h2,h3⟩ | ⟨h1,h2⟩
  .exact ⟨true,h1,h2,fun _=>⟨hn,h3⟩⟩
  .exact ⟨false,h1,h2,fun h=>by cases h⟩
def prevL {α:Type} [Inhabited α] (l:List α) (i:Nat):α:=if 0 < i then (l[i - 1]?).getD default else default
theorem Z2a {α:Type} [Inhabited α] {l:List α} {i:Nat} (hi:i < l.length) (hl:l.length <= 1048576):(bif decide (0 < (i:Int)) then idx l (w64 ((i:Int) - 1)) else some default) = some (prevL l i):=by
 unfold prevL
 by_cases h:0 < i
 .have e:w64 ((i:Int) - 1) = ((i - 1:Nat):Int):=by rw [ZM (by omega)]; omega
  rw [show decide (0 < (i:Int)) = true by simpa using h,cond_true,e,Za,if_pos h,yA (by omega)]
  rfl
 .rw [show decide (0 < (i:Int)) = false by simpa using h,cond_false,if_neg h]
theorem prev_mem {α:Type} [Inhabited α] {l:List α} {i:Nat} (hi:i < l.length) (h:0 < i):prevL l i ∈ l.take i:=by
 unfold prevL
 rw [if_pos h,yA (by omega)]
 exact List.mem_iff_getElem?.2 ⟨i - 1,by rw [List.getElem?_take_of_lt (by omega),yA (by omega)]; rfl⟩
noncomputable def Zfn (l:List Account) (x:Account) (i:Nat):Bool :=
 ((((!(wordB x.name)) || ((decide (0 < (i:Int))) && (!(Op.bytesLess (prevL l i).name x.name)))) || (decide (x.share < 1))) || (decide (1000 < x.share))) || (!(spec_l11Used x.used))
theorem Z8c {l:List Account} (hl:l.length <= 1048576) (hn:∀ x ∈ l,x.name.length < 9223372036854775807) :
  ∃ b,spec_AccountsOk l = some b /\ impl_AccountsOk l = some b /\ (b = true -> (l.length:Int) <= 12 /\ ∀ x ∈ l,x.name.length <= 8):=by
 unfold spec_AccountsOk impl_AccountsOk
 refine ZFe (G:=fun x=>x.name.length <= 8) (Zfn l) (fun i x k hx=>?_) (fun i x k hx _=>?_) (fun i x hx hb=>?_) ?_ ?_
 rotate_right 2
 .rfl
 .rfl
 .have hi:=(yB hx).1
  unfold Zb3 Zfn
  rw [ZV9 (hn x (yE hx)),bS,Z2a hi hl]
  cases wordB x.name <;> rfl
 .have hi:=(yB hx).1
  unfold Zg3 Zfn spec_l11Used impl_within
  rw [ZIe,ZV9 (hn x (yE hx)),bS,Z2a hi hl,ZRm x.share 1,ZRm 1000 x.share]
  generalize wordB x.name = w,decide ((1:Int) <= x.share) = p,decide (x.share <= 1000) = q,(decide (0 <= x.used) && decide (x.used <= 1000000000)) = u
  cases w <;> cases p <;> cases q <;> cases u <;> simp
 .unfold Zfn at hb
  have hw:wordB x.name = true:=by
   cases h:wordB x.name with
   | true=>rfl
   | false=>rw [h] at hb; simp at hb
  exact Z4l (hn x (yE hx)) hw
theorem ZZl {l:List Account} (hl:l.length <= 1048576) (hn:∀ x ∈ l,x.name.length < 9223372036854775807) (s:Str):∃ n,spec_AccountAt l s = some n /\ impl_AccountAt l s = some n:=by
 obtain ⟨b,h1,h2,_⟩:=Z8c hl hn
 have e:impl_AccountAt l s = spec_AccountAt l s:=by
  unfold impl_AccountAt spec_AccountAt
  rw [h1,h2]
  rfl
 rw [e]
 obtain ⟨n,hn⟩:∃ n,spec_AccountAt l s = some n:=by
  unfold spec_AccountAt
  rw [h1,bS]
  cases b with
  | false=>exact ⟨_,rfl⟩
  | true =>
   refine ZG1 (l0:=l) (b:=()) (fun _ (_:Unit)=>True) (fun o=>∃ y,o = some y) (fun i x b k _ _ hk=>?_) (fun _ _=>⟨_,rfl⟩) trivial
   unfold Zr3
   cases (x.name == s) with
   | true=>exact ⟨_,rfl⟩
   | false=>exact hk () trivial
 exact ⟨n,hn,hn⟩
def DepP (x:Dep):Prop:=(1 <= x.id /\ x.id <= 999) /\ (1 <= x.for_ /\ x.for_ <= 999) /\ x.id ≠ x.for_
def depB (x:Dep):Bool:=decide (1 <= x.id) && decide (x.id <= 999) && (decide (1 <= x.for_) && decide (x.for_ <= 999)) && (x.id != x.for_)
theorem Z9n {x:Dep}:depB x = true ↔ DepP x:=by simp [depB,DepP,and_assoc]
def Zgm (a b:Dep):Bool:=(decide (a.id < b.id)) || ((a.id == b.id) && (decide (a.for_ < b.for_)))
def Z8n (l:List Dep) (x:Dep) (i:Nat):Bool:=!depB x || (decide (0 < (i:Int)) && !Zgm (prevL l i) x)
theorem ZFk (x:Dep):impl_depOk x = depB x:=rfl
theorem ZHi {a b:Dep} (ha:DepP a) (hb:DepP b):decide (0 <= impl_compareDeps a b) = !Zgm a b:=by
 obtain ⟨a1,a2,_⟩:=ha
 obtain ⟨b1,b2,_⟩:=hb
 unfold impl_compareDeps Zgm
 rw [ZM (by omega),ZM (by omega)]
 by_cases h:a.id = b.id
 .simp only [h,bne_self_eq_false,cond_false,Int.lt_irrefl,decide_false,Bool.false_or,beq_self_eq_true,Bool.true_and]
  by_cases h2:a.for_ < b.for_
  .have:¬ 0 <= a.for_ - b.for_:=by omega
   simp [h2]
  .have:0 <= a.for_ - b.for_:=by omega
   simp [h2]; omega
 .rw [show (a.id != b.id) = true by simpa using h,show (a.id == b.id) = false by simpa using h]
  simp only [cond_true,Bool.false_and,Bool.or_false]
  by_cases h2:a.id < b.id
  .have:¬ 0 <= a.id - b.id:=by omega
   simp [h2]
  .have:0 <= a.id - b.id:=by omega
   simp [h2]; omega
theorem ZYl {l:List Dep} (hl:l.length <= 1048576):∃ b,spec_DepsOk l = some b /\ impl_DepsOk l = some b /\ (b = true -> (l.length:Int) <= 100 /\ ∀ x ∈ l,DepP x):=by
 unfold spec_DepsOk impl_DepsOk
 refine ZFe (G:=DepP) (Z8n l) (fun i x k hx=>?_) (fun i x k hx hp=>?_) (fun i x hx hb=>?_) ?_ ?_
 rotate_right 2
 .rfl
 .rfl
 .have hi:=(yB hx).1
  have e:(((!(spec_l12Id x.id)) || (!(spec_l12Id x.for_))) || (x.id == x.for_)) = !depB x:=by
   unfold spec_l12Id depB bne
   generalize (decide (1 <= x.id) && decide (x.id <= 999)) = p,(decide (1 <= x.for_) && decide (x.for_ <= 999)) = q,(x.id == x.for_) = r
   cases p <;> cases q <;> cases r <;> rfl
  unfold ZF5 Z8n
  rw [e,Z2a hi hl]
  cases depB x <;> rfl
 .have hi:=(yB hx).1
  unfold ZT5 Z8n
  rw [ZFk,Z2a hi hl]
  cases hd:depB x with
  | false=>rfl
  | true =>
   rw [Bool.not_true,cond_false,bS,Bool.false_or,Bool.false_or]
   by_cases h:0 < i
   .rw [ZHi (hp _ (prev_mem hi h)) (Z9n.1 hd)]
   .rw [show decide (0 < (i:Int)) = false by simpa using h]; rfl
 .unfold Z8n at hb
  have hw:depB x = true:=by
   cases h:depB x with
   | true=>rfl
   | false=>rw [h] at hb; simp at hb
  exact Z9n.1 hw
inductive Rch (l:List Dep) (a:Int):Int -> Prop
 | one {x:Dep}:x ∈ l -> x.id = a -> Rch l a x.for_
 | more {x:Dep} {b:Int}:Rch l a b -> x ∈ l -> x.id = b -> Rch l a x.for_
theorem Rch.trans {l:List Dep} {a b c:Int} (h1:Rch l a b) (h2:Rch l b c):Rch l a c:=by
 induction h2 with
 | one hx e=>exact .more h1 hx e
 | more _ hx e ih=>exact .more ih hx e
theorem Rch.head {l:List Dep} {a c:Int} (h:Rch l a c):∃ x,x ∈ l /\ x.id = a /\ (x.for_ = c \/ Rch l x.for_ c):=by
 induction h with
 | one hx e=>exact ⟨_,hx,e,.inl rfl⟩
 | more _ hx e ih =>
  obtain ⟨y,hy,ey,h⟩:=ih
  refine ⟨y,hy,ey,.inr ?_⟩
  rcases h with h | h
  .exact .one hx (e.trans h.symm)
  .exact .more h hx e
def insB (id:Int) (out:List Int) (x:Dep):Bool:=((x.id == id) || out.contains x.id) && !(out.contains x.for_)
theorem Zon {id:Int} {x:Dep} {i:Nat} {a:Bool} {out:List Int} {k:Bool × List Int -> Option (List Int)} (hl:out.length <= 1048576) :
  Zm2 id x i (a,out) k = bif insB id out x then k (true,out ++ [x.for_]) else k (a,out):=by
 unfold Zm2 insB
 simp only [ZF2]
 have e:appL 8 out [x.for_] = some (out ++ [x.for_]):=Zt (by simp; omega)
 cases (x.id == id) <;> cases out.contains x.id <;> cases out.contains x.for_ <;> simp [e]
theorem Z9o {l:List Int} {x:Int} (h:l.Nodup) (hx:x ∉ l):(l ++ [x]).Nodup:=by
 rw [List.nodup_append]
 exact ⟨h,by simp,fun a ha b hb e=>by simp at hb; subst hb; subst e; exact hx ha⟩
structure RI (l:List Dep) (id:Int) (out:List Int):Prop where
 nd:out.Nodup
 sub:∀ n ∈ out,n ∈ l.map Dep.for_
 rch:∀ n ∈ out,Rch l id n
theorem RI.len {l:List Dep} {id:Int} {out:List Int} (h:RI l id out):out.length <= l.length:=by
 have:=h.nd.length_le_of_subset h.sub
 simpa using this
theorem Reach_eq {l:List Dep} (hl:l.length <= 1048576) (id:Int):∃ r,spec_l12Reach l id = some r /\ ∀ n,n ∈ r ↔ Rch l id n:=by
  unfold spec_l12Reach
  refine ZU3 (fun _ o=>∃ r,o = some r /\ ∀ n,n ∈ r ↔ Rch l id n) (fun v=>(l.length - v.2.length) * 2 + (bif v.1 then 1 else 0)) (fun v=>RI l id v.2 /\ (v.1 = false -> ∀ x ∈ l,insB id v.2 x = false)) ?_ 9223372036854775807 (true,[])
    ⟨⟨List.nodup_nil,by simp,by simp⟩,fun h=>by cases h⟩ (by simp; omega)
  rintro ⟨a,out⟩ k ⟨hI,hc⟩ hk
  unfold ZW3
  cases a with
  | false =>
    refine ⟨out,rfl,fun n=>⟨hI.rch n,fun h=>?_⟩⟩
    have hc':=hc rfl
    simp only at hc'
    have cl:∀ x ∈ l,(x.id = id \/ x.id ∈ out) -> x.for_ ∈ out:=fun x hx h=>by
      have:=hc' x hx
      unfold insB at this
      have e:((x.id == id) || out.contains x.id) = true:=by
        simp only [Bool.or_eq_true,beq_iff_eq,List.contains_iff_mem]; exact h
      rw [e,Bool.true_and,Bool.not_eq_false'] at this
      exact List.contains_iff_mem.1 this
    induction h with
    | one hx e=>exact cl _ hx (.inl e)
    | more _ hx e ih=>exact cl _ hx (.inr (e ▸ ih))
  | true =>
    simp only [cond_true]
    refine ZG1 (l0:=l) (b:=(false,out)) (fun i (v:Bool × List Int)=>RI l id v.2 /\ out.length <= v.2.length /\ (v.1 = true -> out.length < v.2.length) /\ (v.1 = false -> v.2 = out /\ ∀ x ∈ l.take i,insB id out x = false))
      (fun o=>∃ r,o = some r /\ ∀ n,n ∈ r ↔ Rch l id n) (fun i x v k2 hx hv hk2=>?_) (fun v hv=>?_) ⟨hI,Nat.le_refl _,(fun h=>by cases h),fun _=>⟨rfl,by simp⟩⟩
    · obtain ⟨a2,o2⟩:=v
      obtain ⟨v1,v2,v3,v4⟩:=hv
      simp only at v1 v2 v3 v4
      have hlen:=v1.len
      rw [Zon (by omega)]
      have hxl:=yE hx
      cases hb:insB id o2 x with
      | true =>
        rw [cond_true]
        unfold insB at hb
        simp only [yD,Bool.or_eq_true,beq_iff_eq,List.contains_iff_mem,Bool.not_eq_true',Bool.eq_false_iff,ne_eq] at hb
        refine hk2 _ ⟨⟨Z9o v1.nd hb.2,fun n hn=>?_,fun n hn=>?_⟩,(by simp; omega),(fun _=>by simp; omega),fun h=>by cases h⟩
        · rcases List.mem_append.1 hn with hn | hn
          · exact v1.sub n hn
          · simp at hn; subst hn; exact List.mem_map_of_mem hxl
        · rcases List.mem_append.1 hn with hn | hn
          · exact v1.rch n hn
          · simp at hn; subst hn
            rcases hb.1 with h | h
            · exact .one hxl h
            · exact .more (v1.rch _ h) hxl rfl
      | false =>
        rw [cond_false]
        refine hk2 _ ⟨v1,v2,v3,fun h=>⟨(v4 h).1,fun y hy=>?_⟩⟩
        rw [List.take_add_one,hx] at hy
        rcases List.mem_append.1 hy with hy | hy
        · exact (v4 h).2 y hy
        · simp at hy; subst hy
          rw [← (v4 h).1]; exact hb
    · obtain ⟨a2,o2⟩:=v
      obtain ⟨v1,v2,v3,v4⟩:=hv
      simp only at v1 v2 v3 v4
      have hlen:=v1.len
      refine hk _ ⟨v1,fun h=>?_⟩ ?_
      · obtain ⟨e,q⟩:=v4 h
        simp only at e ⊢
        rw [e]
        rwa [List.take_length] at q
      · cases a2 with
        | true=>have:=v3 rfl; simp only [cond_true]; omega
        | false=>simp only [cond_true,cond_false]; omega
def Ring (l:List Dep):Prop:=∃ d ∈ l,Rch l d.id d.id
noncomputable def ringB (l:List Dep):Bool:=by
 classical exact decide (Ring l)
theorem Zoj {l:List Dep} (hl:l.length <= 1048576) (b:Bool) (h:spec_DepsOk l = some b):spec_Round l = some (b && ringB l):=by
 unfold spec_Round
 rw [h,bS]
 cases b with
 | false=>rfl
 | true =>
  rw [Bool.not_true,cond_false,Bool.true_and]
  classical
  rw [ZW1 (r:=some true) (p:=fun d=>decide (Rch l d.id d.id)) (fun x _ i k=>by
   obtain ⟨r,hr,hm⟩:=Reach_eq hl x.id
   unfold ZR6
   rw [hr,bS,ZF2,bS]
   congr 1
   rw [Bool.eq_iff_iff,List.contains_iff_mem,hm,decide_eq_true_eq])]
  unfold ZQ6 ringB
  by_cases hR:Ring l
  .rw [show l.any (fun d=>decide (Rch l d.id d.id)) = true by simpa [Ring] using hR]
   simp [hR]
  .rw [show l.any (fun d=>decide (Rch l d.id d.id)) = false by
    rw [Bool.eq_false_iff]; intro h; exact hR (by simpa [Ring] using h)]
   simp [hR]
def keepB (v:List Dep) (x:Dep):Bool:=v.any fun y=>y.id == x.for_
theorem ZRn (v:List Dep) (x:Dep):Z8 v x = some (keepB v x):=by
 have key:∀ (l:List Dep) (i:Nat),∃ r:Int,rgl (Zd x) Zl l i () = some r /\ decide (0 <= r) = keepB l x:=by
  intro l
  induction l with
  | nil=>intro i; exact ⟨-1,rfl,rfl⟩
  | cons y l ih =>
   intro i
   rw [rgl]
   unfold Zd impl_Round_1
   unfold keepB
   rw [List.any_cons]
   cases (y.id == x.for_) with
   | true=>exact ⟨i,rfl,by simp⟩
   | false =>
    obtain ⟨r,h1,h2⟩:=ih (i + 1)
    exact ⟨r,h1,by rw [h2]; rfl⟩
 obtain ⟨r,h1,h2⟩:=key v 0
 unfold Z8 Zg
 rw [h1,bS,h2]
def Zhn (l:List Dep) (x:Dep):Prop:=x ∈ l /\ Rch l x.for_ x.id
theorem Zam {l v:List Dep} {x:Dep} (hx:Zhn l x) (hv:∀ y,Zhn l y -> y ∈ v):keepB v x = true:=by
 obtain ⟨y,hy,ey,h⟩:=hx.2.head
 have hyr:Zhn l y:=by
  refine ⟨hy,?_⟩
  rw [ey]
  rcases h with h | h
  .rw [h]; exact .one hx.1 rfl
  .exact .more h hx.1 rfl
 exact List.any_eq_true.2 ⟨y,hv y hyr,by simpa using ey⟩
theorem ZKl {α:Type} {p q:α -> Bool}:∀ {l:List α} {y:α},(∀ x ∈ l,p x = true -> q x = true) -> y ∈ l -> q y = true -> p y = false -> (l.filter p).length < (l.filter q).length
 | x :: l,y,h,hy,hq,hp=>by
  have hle:∀ {l:List α},(∀ x ∈ l,p x = true -> q x = true) -> (l.filter p).length <= (l.filter q).length:=by
   intro l
   induction l with
   | nil=>intro _; exact Nat.le_refl _
   | cons z l ih =>
    intro h
    have h1:=ih fun x hx=>h x (List.mem_cons_of_mem _ hx)
    have h2:=h z (List.mem_cons_self ..)
    cases hpz:p z with
    | true=>simp [hpz,h2 hpz]; exact h1
    | false=>cases hqz:q z <;> simp [hpz,hqz] <;> omega
  have h1:=hle fun x hx=>h x (List.mem_cons_of_mem _ hx)
  rcases List.mem_cons.1 hy with e | hy
  .subst e
   simp [hp,hq]; omega
  .have h2:=ZKl (fun x hx=>h x (List.mem_cons_of_mem _ hx)) hy hq hp
   have h3:=h x (List.mem_cons_self ..)
   cases hpz:p x with
   | true=>simp [hpz,h3 hpz]; exact h2
   | false=>cases hqz:q x <;> simp [hpz,hqz] <;> omega
theorem Zjo {l v:List Dep} (hs:∀ x ∈ v,x ∈ l) (hk:∀ x ∈ v,keepB v x = true):∀ {x:Dep},x ∈ v -> Ring l:=by
 classical
 have key:∀ (m:Nat) (x:Dep),(l.filter fun d=>decide (Rch l x.id d.id)).length = m -> x ∈ v -> Ring l:=by
  intro m
  induction m using Nat.strongRecOn with
  | ind m ih =>
   intro x hm hx
   obtain ⟨y,hy,ey⟩:=List.any_eq_true.1 (hk x hx)
   have ey:y.id = x.for_:=by simpa using ey
   have hxy:Rch l x.id y.id:=by rw [ey]; exact .one (hs x hx) rfl
   by_cases hr:Rch l y.id y.id
   .exact ⟨y,hs y hy,hr⟩
   .refine ih _ ?_ y rfl hy
    rw [← hm]
    exact ZKl (fun d _ h=>decide_eq_true (hxy.trans (of_decide_eq_true h))) (hs y hy) (decide_eq_true hxy) (decide_eq_false hr)
 exact fun {x} hx=>key _ x rfl hx
theorem ZNk {l:List Dep} (hl:l.length <= 1048576) (b:Bool) (h:impl_DepsOk l = some b):impl_Round l = some (b && ringB l):=by
 unfold impl_Round
 rw [h,bS]
 cases b with
 | false=>rfl
 | true =>
  rw [Bool.not_true,cond_false,Bool.true_and,Zt (by simp; omega),bS,List.nil_append]
  refine ZU3 (fun _ o=>o = some (ringB l)) (fun v=>v.length) (fun v=>(∀ x ∈ v,x ∈ l) /\ (∀ x,Zhn l x -> x ∈ v) /\ v.length <= l.length) ?_ 9223372036854775807 l ⟨fun _ h=>h,fun _ h=>h.1,Nat.le_refl _⟩ (by omega)
  rintro v k ⟨hs,hr,hn⟩ hk
  unfold Za7
  rw [ZH1 (bs:=16) (bd:=Zt4 v) (p:=keepB v) (f:=fun x=>x) (fun x _ i b k=>by
   unfold Zt4
   rw [ZRn,bS]) (by simp; omega),List.nil_append,List.map_id']
  unfold Z97
  have hle:(v.filter (keepB v)).length <= v.length:=List.length_filter_le ..
  by_cases he:(v.filter (keepB v)).length = v.length
  .rw [show (((v.filter (keepB v)).length:Int) == (v.length:Int)) = true by rw [he]; simp,cond_true]
   have hkeep:∀ x ∈ v,keepB v x = true:=List.filter_eq_self.1 ((List.filter_sublist).eq_of_length he)
   congr 1
   unfold ringB
   by_cases hR:Ring l
   .have:0 < v.length:=by
     obtain ⟨d,hd,hdd⟩:=hR
     obtain ⟨y,hy,ey,h⟩:=hdd.head
     have hyv:y ∈ v:=hr y ⟨hy,by
      rw [ey]
      rcases h with h | h
      .rw [h]; exact hdd
      .exact h⟩
     exact List.length_pos_of_mem hyv
    rw [show decide (0 < (v.length:Int)) = true by rw [decide_eq_true_eq]; omega]
    simp [hR]
   .have:¬ 0 < v.length:=fun h=>by
     obtain ⟨x,hx⟩:=List.exists_mem_of_length_pos h
     exact hR (Zjo hs hkeep hx)
    rw [show decide (0 < (v.length:Int)) = false by rw [decide_eq_false_iff_not]; omega]
    simp [hR]
  .rw [show (((v.filter (keepB v)).length:Int) == (v.length:Int)) = false by simpa using (by omega:((v.filter (keepB v)).length:Int) ≠ (v.length:Int)),cond_false]
   exact hk _ ⟨fun x hx=>hs x (List.mem_filter.1 hx).1,fun x hx=>List.mem_filter.2 ⟨hr x hx,Zam hx hr⟩,by omega⟩ (by omega)
theorem Round_eq {l:List Dep} (hl:l.length <= 1048576):∃ b,spec_Round l = some b /\ impl_Round l = some b:=by
 obtain ⟨b,h1,h2,_⟩:=ZYl hl
 exact ⟨_,Zoj hl b h1,ZNk hl b h2⟩
noncomputable def Zym (l:List Quota) (x:Quota) (i:Nat):Bool :=
 (((((!(wordB x.name)) || ((decide (0 < (i:Int))) && (!(Op.bytesLess (prevL l i).name x.name)))) || (decide (x.jobs < 0))) || (decide (60 < x.jobs))) || (!(spec_l01Res x.nodes))) || (!(spec_VecOk x.res))
theorem ZHg {l:List Quota} (hl:l.length <= 1048576) (hn:∀ x ∈ l,x.name.length < 9223372036854775807) :
  ∃ b,spec_QuotasOk l = some b /\ impl_QuotasOk l = some b /\ (b = true -> (l.length:Int) <= 12 /\ ∀ x ∈ l,x.name.length <= 8):=by
 unfold spec_QuotasOk impl_QuotasOk
 refine ZFe (G:=fun x=>x.name.length <= 8) (Zym l) (fun i x k hx=>?_) (fun i x k hx _=>?_) (fun i x hx hb=>?_) ?_ ?_
 rotate_right 2
 .rfl
 .rfl
 .have hi:=(yB hx).1
  unfold Z34 Zym
  rw [ZV9 (hn x (yE hx)),bS,Z2a hi hl]
  cases wordB x.name <;> rfl
 .have hi:=(yB hx).1
  unfold Z94 Zym spec_l01Res impl_within
  rw [ZIe,ZV9 (hn x (yE hx)),bS,Z2a hi hl,ZRm x.jobs 0,ZRm 60 x.jobs,Zu1]
  generalize wordB x.name = w,decide ((0:Int) <= x.jobs) = p,decide (x.jobs <= 60) = q,(decide (0 <= x.nodes) && decide (x.nodes <= 1000000)) = u,spec_VecOk x.res = z
  cases w <;> cases p <;> cases q <;> cases u <;> cases z <;> simp
 .unfold Zym at hb
  have hw:wordB x.name = true:=by
   cases h:wordB x.name with
   | true=>rfl
   | false=>rw [h] at hb; simp at hb
  exact Z4l (hn x (yE hx)) hw
def heldB (l:List Hold) (x:Hold):Bool:=l.any fun y=>y.job.id == x.job.id
noncomputable def ZQk (l:List Hold) (x:Hold) (i:Nat):Bool:=((!(wordB x.name)) || (!(spec_JobOk x.job))) || heldB (l.take i) x
theorem Zoo {l:List Hold} {x:Hold} {i:Nat} (hi:i < l.length) (hl:l.length <= 1048576) (k:Unit -> Option Bool) :
  whl (ZT2 l i x k) 9223372036854775807 0 = bif heldB (l.take i) x then some false else k ():=by
 refine ZU3 (fun _ o=>o = bif heldB (l.take i) x then some false else k ()) (fun v=>i - v.toNat) (fun v=>∃ j:Nat,v = (j:Int) /\ j <= i /\ ∀ m y,m < j -> l[m]? = some y -> (y.job.id == x.job.id) = false) ?_ 9223372036854775807 0 ⟨0,rfl,Nat.zero_le _,fun m y h=>by omega⟩ (by omega)
 rintro _ k2 ⟨j,rfl,hj,hI⟩ hk
 unfold ZT2
 by_cases hlt:j < i
 .have hlt':(j:Int) < (i:Int):=by omega
  obtain ⟨y,hy⟩:∃ y,l[j]? = some y:=⟨_,yA (by omega)⟩
  simp only [hlt',decide_true,cond_true,Za,hy,bS,Zz (n:=j) (by omega)]
  cases hb:(y.job.id == x.job.id) with
  | true =>
   have:heldB (l.take i) x = true:=List.any_eq_true.2 ⟨y,List.mem_iff_getElem?.2 ⟨j,by rw [List.getElem?_take_of_lt hlt,hy]⟩,hb⟩
   rw [this]; rfl
  | false =>
   refine hk _ ⟨j + 1,rfl,hlt,fun m z hm hz=>?_⟩ (by omega)
   by_cases e:m = j
   .subst e; rw [hy] at hz; cases hz; exact hb
   .exact hI m z (by omega) hz
 .have:j = i:=by omega
  subst this
  have:heldB (l.take j) x = false:=by
   unfold heldB
   rw [Bool.eq_false_iff]
   intro h
   obtain ⟨y,hy,e⟩:=List.any_eq_true.1 h
   obtain ⟨m,hm⟩:=List.mem_iff_getElem?.1 hy
   have hmj:m < j:=by
    have:=(yB hm).1
    simp at this; omega
   rw [List.getElem?_take_of_lt hmj] at hm
   rw [hI m y hmj hm] at e
   cases e
  simp only [Int.lt_irrefl,decide_false,cond_false,this]
theorem Zpo (v:List Hold) (x:Hold):Z4 v x = some (heldB v x):=by
 have key:∀ (l:List Hold) (i:Nat),∃ r:Int,rgl (Z9 x) Zi l i () = some r /\ decide (0 <= r) = heldB l x:=by
  intro l
  induction l with
  | nil=>intro i; exact ⟨-1,rfl,rfl⟩
  | cons y l ih =>
   intro i
   rw [rgl]
   unfold Z9 impl_HoldsOk_1
   unfold heldB
   rw [List.any_cons]
   cases (y.job.id == x.job.id) with
   | true=>exact ⟨i,rfl,by simp⟩
   | false =>
    obtain ⟨r,h1,h2⟩:=ih (i + 1)
    exact ⟨r,h1,by rw [h2]; rfl⟩
 obtain ⟨r,h1,h2⟩:=key v 0
 unfold Z4 Zc
 rw [h1,bS,h2]
theorem Z4j {l:List Hold} (hl:l.length <= 1048576) (hn:∀ x ∈ l,x.name.length < 9223372036854775807) :
  ∃ b,spec_HoldsOk l = some b /\ impl_HoldsOk l = some b /\ (b = true -> (l.length:Int) <= 60 /\ ∀ x ∈ l,spec_JobOk x.job = true):=by
 unfold spec_HoldsOk impl_HoldsOk
 refine ZFe (l:=l) (n:=60) (bs:=ZS2 l) (ks:=ZQ4) (bi:=Z43 l) (ki:=Z05 l) (G:=fun x=>spec_JobOk x.job = true) (ZQk l) (fun i x k hx=>?_) (fun i x k hx _=>?_) (fun i x hx hb=>?_) ?_ ?_
 rotate_right 2
 .rfl
 .rfl
 .have hi:=(yB hx).1
  unfold ZS2 ZQk
  rw [ZV9 (hn x (yE hx)),bS,Zoo hi hl]
  cases wordB x.name <;> cases spec_JobOk x.job <;> rfl
 .have hi:=(yB hx).1
  unfold Z43 ZQk
  rw [ZIe,ZV9 (hn x (yE hx)),bS,Zo5,ZAe (by omega)]
  cases wordB x.name <;> cases spec_JobOk x.job <;> first | rfl | (simp only [Bool.not_true,Bool.or_self,cond_false,bS,Zpo,Bool.false_or])
 .unfold ZQk at hb
  cases h:spec_JobOk x.job with
  | true=>rfl
  | false=>rw [h] at hb; simp at hb
def mulV (v:Vec) (n:Int):Vec:=⟨v.a * n,v.b * n,v.c * n⟩
def timesM (v:Vec) (n:Int):Vec × Bool:=if spec_VecOk v = true /\ 0 <= n /\ spec_VecOk (mulV v n) = true then (mulV v n,true) else (⟨0,0,0⟩,false)
theorem ZFj {a i n:Int} (ha:0 <= a) (h:i <= n):a * i <= a * n:=Int.mul_le_mul_of_nonneg_left h ha
theorem Z5b (v:Vec) (n:Int) (hn:n <= 1048576):spec_Times v n = some (timesM v n):=by
 unfold spec_Times
 by_cases h:spec_VecOk v = true /\ 0 <= n
 .obtain ⟨hv,h0⟩:=h
  have hb:=Zs1.1 hv
  rw [hv,show decide (n < 0) = false by simp; omega,Bool.not_true,Bool.or_self,cond_false]
  by_cases hz:v = ⟨0,0,0⟩
  .subst hz
   simp [timesM,mulV,h0,spec_VecOk,spec_l01Res]
  .rw [show (v.a == 0 && (v.b == 0 && (v.c == 0 && true))) = false by
    rw [Bool.eq_false_iff]; intro q; simp at q; exact hz (by obtain ⟨a,b,c⟩:=v; simp at q; simp [q]),cond_false]
   refine ZU3 (fun _ o=>o = some (timesM v n)) (fun s=>(n - s.2).toNat) (fun s=>∃ i:Nat,s.2 = (i:Int) /\ (i:Int) <= n /\ s.1 = mulV v i /\ spec_VecOk (mulV v i) = true) ?_ 9223372036854775807 (⟨0,0,0⟩,0) ⟨0,rfl,h0,by simp [mulV],by simp [mulV,spec_VecOk,spec_l01Res]⟩ (by simp only; omega)
   rintro ⟨u,_⟩ k ⟨i,rfl,hi,hu,hok⟩ hk
   simp only at hu hi hk
   subst hu
   unfold ZP6
   simp only
   have hob:=Zs1.1 hok
   simp only [mulV] at hob
   by_cases hlt:(i:Int) < n
   .rw [show decide ((i:Int) < n) = true by simpa using hlt,cond_true]
    have e1:∀ a:Int,a * (i:Int) + a = a * ((i + 1:Nat):Int):=fun a=>by rw [Int.natCast_add,Int.mul_add]; simp
    have ea:spec_VecAdd (mulV v i) v = bif spec_VecOk (mulV v ((i + 1:Nat):Int)) then (mulV v ((i + 1:Nat):Int),true) else (⟨0,0,0⟩,false):=by
     unfold spec_VecAdd
     rw [hok,hv]
     simp only [mulV]
     rw [ZM (by omega),ZM (by omega),ZM (by omega),e1,e1,e1]
     simp only [Bool.not_true,Bool.or_self,cond_false]
     cases spec_VecOk (Vec.mk (v.a * ((i + 1:Nat):Int)) (v.b * ((i + 1:Nat):Int)) (v.c * ((i + 1:Nat):Int))) <;> rfl
    rw [ea]
    cases hq:spec_VecOk (mulV v ((i + 1:Nat):Int)) with
    | true =>
     simp only [cond_true,Bool.not_true,cond_false]
     rw [Zz (by omega)]
     exact hk _ ⟨i + 1,rfl,by omega,rfl,hq⟩ (by simp only; omega)
    | false =>
     simp only [cond_false,Bool.not_false,cond_true]
     have:¬ spec_VecOk (mulV v n) = true:=by
      intro q
      have q:=Zs1.1 q
      simp only [mulV] at q
      have l1:=ZFj (i:=((i + 1:Nat):Int)) (n:=n) hb.1.1 (by omega)
      have l2:=ZFj (i:=((i + 1:Nat):Int)) (n:=n) hb.2.1.1 (by omega)
      have l3:=ZFj (i:=((i + 1:Nat):Int)) (n:=n) hb.2.2.1 (by omega)
      have p1:=Int.mul_nonneg hb.1.1 (show (0:Int) <= ((i + 1:Nat):Int) by omega)
      have p2:=Int.mul_nonneg hb.2.1.1 (show (0:Int) <= ((i + 1:Nat):Int) by omega)
      have p3:=Int.mul_nonneg hb.2.2.1 (show (0:Int) <= ((i + 1:Nat):Int) by omega)
      have:spec_VecOk (mulV v ((i + 1:Nat):Int)) = true:=Zs1.2 (by simp only [mulV]; omega)
      rw [hq] at this; cases this
     unfold timesM
     rw [if_neg fun q=>this q.2.2]
   .have:(i:Int) = n:=by omega
    rw [show decide ((i:Int) < n) = false by simpa using hlt,cond_false]
    rw [this] at hok ⊢
    unfold timesM
    rw [if_pos ⟨hv,h0,hok⟩]
 .rw [show (!(spec_VecOk v) || decide (n < 0)) = true by
   by_cases hv:spec_VecOk v = true
   .have:n < 0:=by
     by_cases h0:0 <= n
     .exact absurd ⟨hv,h0⟩ h
     .omega
    simp [this]
   .simp [hv],cond_true]
  unfold timesM
  rw [if_neg fun q=>h ⟨q.1,q.2.1⟩]
theorem quo_lt {x n:Int} (hx:0 < x):decide (1000000 / x < n) = decide (1000000 < x * n):=by
 rw [decide_eq_decide]
 rw [Int.ediv_lt_iff_lt_mul hx,Int.mul_comm]
theorem quo_some {x:Int} (hx:0 < x) (h:x <= 1000000):quoI .i64 1000000 x = some (1000000 / x):=by
 unfold quoI
 have b1:(1000000:Int) / x <= 1000000:=Int.ediv_le_self _ (by omega)
 have b0:(0:Int) <= 1000000 / x:=Int.ediv_nonneg (by omega) (by omega)
 rw [if_neg (by omega),Int.tdiv_eq_ediv_of_nonneg (by omega),Z6j (by omega) (by omega)]
theorem ZLk (v:Vec) (n:Int) (hn:n <= 1048576):impl_Times v n = some (timesM v n):=by
 unfold impl_Times
 rw [Zu1]
 by_cases h:spec_VecOk v = true /\ 0 <= n
 .obtain ⟨hv,h0⟩:=h
  have hb:=Zs1.1 hv
  rw [hv,show decide (n < 0) = false by simp; omega,Bool.not_true,Bool.or_self,cond_false]
  rw [ZW1 (r:=some (⟨0,0,0⟩,false)) (p:=fun x=>decide (1000000 < x * n)) (fun x hx i k=>by
   have hx':0 <= x /\ x <= 1000000:=by simp at hx; rcases hx with rfl | rfl | rfl <;> omega
   unfold Z87
   by_cases h1:0 < x
   .rw [show decide (0 < x) = true by simpa using h1,cond_true,quo_some h1 hx'.2,bS,quo_lt h1]
    cases decide (1000000 < x * n) <;> rfl
   .have:x = 0:=by omega
    subst this
    simp)]
  have p1:=Int.mul_nonneg hb.1.1 h0
  have p2:=Int.mul_nonneg hb.2.1.1 h0
  have p3:=Int.mul_nonneg hb.2.2.1 h0
  have l1:v.a * n <= 1000000 * 1048576:=Int.mul_le_mul hb.1.2 hn h0 (by omega)
  have l2:v.b * n <= 1000000 * 1048576:=Int.mul_le_mul hb.2.1.2 hn h0 (by omega)
  have l3:v.c * n <= 1000000 * 1048576:=Int.mul_le_mul hb.2.2.2 hn h0 (by omega)
  unfold Z77 timesM
  by_cases hq:spec_VecOk (mulV v n) = true
  .have q:=Zs1.1 hq
   simp only [mulV] at q
   rw [if_pos ⟨hv,h0,hq⟩,ZM (by omega),ZM (by omega),ZM (by omega)]
   have n1:¬ 1000000 < v.a * n:=by omega
   have n2:¬ 1000000 < v.b * n:=by omega
   have n3:¬ 1000000 < v.c * n:=by omega
   simp [n1,n2,n3,mulV]
  .rw [if_neg fun q=>hq q.2.2]
   have:[v.a,v.b,v.c].any (fun x=>decide (1000000 < x * n)) = true:=by
    rw [← Bool.not_eq_false]
    intro q
    simp at q
    exact hq (Zs1.2 (by simp only [mulV]; omega))
   rw [this]; rfl
 .rw [show (!(spec_VecOk v) || decide (n < 0)) = true by
   by_cases hv:spec_VecOk v = true
   .have:n < 0:=by
     by_cases h0:0 <= n
     .exact absurd ⟨hv,h0⟩ h
     .omega
    simp [this]
   .simp [hv],cond_true]
  unfold timesM
  rw [if_neg fun q=>h ⟨q.1,q.2.1⟩]
theorem ZPo (a b:Vec):impl_VecAdd a b = spec_VecAdd a b:=by
 unfold impl_VecAdd impl_valid spec_VecAdd
 simp only [Zu1]
 cases spec_VecOk a <;> cases spec_VecOk b <;> first | rfl | (cases spec_VecOk (Vec.mk (w64 (a.a + b.a)) (w64 (a.b + b.b)) (w64 (a.c + b.c))) <;> rfl)
theorem ZXl {l:List Hold} (hl:l.length <= 1048576) (hn:∀ x ∈ l,x.name.length < 9223372036854775807) (s:Str):∃ r,spec_HeldBy l s = some r /\ impl_HeldBy l s = some r:=by
 obtain ⟨b,h1,h2,h3⟩:=Z4j hl hn
 cases b with
 | false =>
  exact ⟨(0,0,⟨0,0,0⟩,false),by unfold spec_HeldBy; rw [h1]; rfl,by unfold impl_HeldBy; rw [h2]; rfl⟩
 | true =>
  obtain ⟨h4,h5⟩:=h3 rfl
  have hn':∀ x ∈ l,x.job.nodes <= 1048576:=fun x hx=>by
   have:=(ZG7.1 (h5 x hx)).2.2.1; omega
  have e:impl_HeldBy l s = spec_HeldBy l s:=by
   unfold impl_HeldBy spec_HeldBy
   rw [h1,h2]
   simp only [bS,Bool.not_true,cond_false]
   refine ZE7 (fun i x v k hx=>?_) fun _=>rfl
   unfold ZS5 Zq3
   have hx':=hn' x (yE hx)
   rw [Z5b _ _ hx',ZLk _ _ hx']
   simp only [ZPo]
  rw [e]
  obtain ⟨r,hr⟩:∃ r,spec_HeldBy l s = some r:=by
   unfold spec_HeldBy
   rw [h1,bS,Bool.not_true,cond_false]
   refine ZG1 (l0:=l) (fun _ (_:Vec × Int × Int)=>True) (fun o=>∃ y,o = some y) (fun i x v k hx _ hk=>?_) (fun _ _=>⟨_,rfl⟩) trivial
   unfold Zq3
   rw [Z5b _ _ (hn' x (yE hx)),bS]
   cases (x.name != s) with
   | true=>exact hk _ trivial
   | false =>
    rw [cond_false]
    cases ((!(timesM x.job.need x.job.nodes).2) || (!(spec_VecAdd v.1 (timesM x.job.need x.job.nodes).1).2)) with
    | true=>exact ⟨_,rfl⟩
    | false=>exact hk _ trivial
  exact ⟨r,hr,hr⟩
theorem ZOo {q:List Quota} {l:List Hold} (hq:q.length <= 1048576) (hqn:∀ x ∈ q,x.name.length < 9223372036854775807) (hl:l.length <= 1048576) (hn:∀ x ∈ l,x.name.length < 9223372036854775807):∃ b,spec_Within q l = some b /\ impl_Within q l = some b:=by
 obtain ⟨b1,p1,p2,_⟩:=ZHg hq hqn
 obtain ⟨b2,r1,r2,_⟩:=Z4j hl hn
 have e:impl_Within q l = spec_Within q l:=by
  unfold impl_Within spec_Within
  rw [p1,p2,r1,r2]
  have:rgl (ZH3 l) ZO5 q 0 () = rgl (ZB1 l) Zm3 q 0 ():=by
   refine ZE7 (fun i x v k hx=>?_) fun _=>rfl
   unfold ZH3 ZB1
   obtain ⟨y,y1,y2⟩:=ZXl hl hn x.name
   rw [y1,y2]
   rfl
  rw [this]
 rw [e]
 obtain ⟨r,hr⟩:∃ r,spec_Within q l = some r:=by
  unfold spec_Within
  rw [p1,r1,bS]
  have:∃ r,rgl (ZB1 l) Zm3 q 0 () = some r:=by
   refine ZG1 (l0:=q) (b:=()) (fun _ (_:Unit)=>True) (fun o=>∃ y,o = some y) (fun i x v k hx _ hk=>?_) (fun _ _=>⟨_,rfl⟩) trivial
   unfold ZB1
   obtain ⟨y,y1,_⟩:=ZXl hl hn x.name
   rw [y1,bS]
   cases ((((!y.2.2.2) || (decide (x.jobs < y.1))) || (decide (x.nodes < y.2.1))) || (!(spec_VecFits y.2.2.1 x.res))) with
   | true=>exact ⟨_,rfl⟩
   | false=>exact hk () trivial
  cases b1 <;> cases b2 <;> first | exact ⟨_,rfl⟩ | exact this
 exact ⟨r,hr,hr⟩
end Go.Proofs.YtpljbgcghpamjaaGreat
