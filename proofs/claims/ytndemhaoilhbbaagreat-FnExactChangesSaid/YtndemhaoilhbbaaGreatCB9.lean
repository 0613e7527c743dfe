/-
  Lemmas, part 9: the engine that steps through the code, the walks of functions, and the laws of what they compute.
-/
import Derived.Test.YtndemhaoilhbbaaGreatCB8
namespace Go.Proofs.YtndemhaoilhbbaaGreat
open Go Go.RowKit Eng
def AscP (l : List Int) : Prop := ∀ (i : Nat) (x y : Int), l[i]? = some x -> l[i + 1]? = some y -> x < y
open Classical in
noncomputable def ascB (l : List Int) : Bool := decide (AscP l)
theorem ZLc {l : List Int} : ascB l = true ↔ AscP l := by unfold ascB; simp
theorem Z99 {l : List Int} (hl : l.length <= 1048576) : impl_areAscending l = some (ascB l) := by
 unfold impl_areAscending
 have h := Z48 (bd := ZU l) (fun (i : Nat) (_ : Unit) => ((i + 1 : Nat) : Int)) (n := l.length - 1)
  (B := fun x _ _ k => bif (match l[x]?, l[x + 1]? with | some a, some b => decide (b <= a) | _, _ => true) then some false else k ()) (kk := fun _ => some true) (fun i st k hi => by
   obtain ⟨a, ha⟩ : ∃ e, l[i]? = some e := ⟨_, yA (by omega)⟩
   obtain ⟨b, hb⟩ : ∃ e, l[i + 1]? = some e := ⟨_, yA (by omega)⟩
   have hlt : ((i + 1 : Nat) : Int) < (l.length : Int) := by omega
   simp only [ZU, hlt, decide_true, cond_true, ZAc (n := i + 1) (by omega) (by omega), Nat.add_sub_cancel, Zf, ha, hb, bS, Zz1 (n := i + 1) (by omega)])
  (fun i st k hi => by
   have hlt : ¬ ((i + 1 : Nat) : Int) < (l.length : Int) := by omega
   simp only [ZU, hlt, decide_false, cond_false]) 9223372036854775807 0 () (by omega)
 refine h.trans ?_
 rw [Zg2 (r := some false) (p := fun (x : Nat) => match l[x]?, l[x + 1]? with | some a, some b => decide (b <= a) | _, _ => true) (fun x _ i k => rfl)]
 cases hany : (List.range' 0 (l.length - 1 - 0)).any (fun (x : Nat) => match l[x]?, l[x + 1]? with | some a, some b => decide (b <= a) | _, _ => true) with
 | true =>
  obtain ⟨x, hx, hq⟩ := List.any_eq_true.1 hany
  obtain ⟨j, hj, rfl⟩ := List.mem_range'.1 hx
  obtain ⟨a, ha⟩ : ∃ e, l[0 + 1 * j]? = some e := ⟨_, yA (by omega)⟩
  obtain ⟨b, hb⟩ : ∃ e, l[0 + 1 * j + 1]? = some e := ⟨_, yA (by omega)⟩
  rw [ha, hb] at hq
  have : ascB l = false := by
   rw [Bool.eq_false_iff]
   intro q
   have := ZLc.1 q _ a b ha hb
   simp at hq; omega
  rw [this]; rfl
 | false =>
  have : ascB l = true := ZLc.2 fun i x y hx hy => by
   have hlt := (yB hy).1
   have := List.any_eq_false.1 hany i (List.mem_range'.2 ⟨i, by omega, by omega⟩)
   rw [hx, hy] at this
   simpa using this
  rw [this]; rfl
noncomputable def lowN (t : Topo) (l : List Int) : Nat := ((spec_Lowest t l).getD 0).toNat
theorem ZHk {t : Topo} {l : List Int} (h : ZM1 t l = true) (hne : l ≠ []) : lowN t l < t.parents.length /\ spec_Lowest t l = some (lowN t l : Int) /\ impl_Lowest t l = some (lowN t l : Int) := by
 obtain ⟨s, h1, h2, h3⟩ := Z7j h hne
 have : lowN t l = s := by unfold lowN; rw [h2]; simp
 rw [this]; exact ⟨h1, h2, h3⟩
def isUp (s : State) (n : Int) : Bool := (idx s.up n).getD false
noncomputable def runFit (s : State) (x : Run) : Bool := x.nodes.all (isUp s) && ascB x.nodes && decide (lev s.topo (lowN s.topo x.nodes) <= x.job.level)
def endOk (s : State) (e : End) : Bool := (decide (1 <= e.id) && decide (e.id <= 999)) && (decide (0 <= e.t) && decide (e.t <= s.now)) && (decide (1 <= e.why) && decide (e.why <= 4))
noncomputable def ZG9 (s : State) : Bool := ((spec_RoomOf s).getD Zd3).2 && (decide (0 <= s.depth) && decide (s.depth <= 60)) && queueOk (allJobs s) && decide (s.ends.length <= 300) && s.runs.all (runFit s) && s.ends.all (endOk s)
theorem Zgi {a b : Int} : decide (b < a) = !decide (a <= b) := by rw [Bool.eq_iff_iff]; simp
theorem ZVh {s : State} (_ : TopoP s.topo) (hu : s.up.length = s.topo.nodes.length) (hR : RunsP s) {x : Run} (hx : x ∈ s.runs) :
  x.nodes ≠ [] /\ ZM1 s.topo x.nodes = true /\ x.nodes.length <= 24 /\ ∀ n ∈ x.nodes, ∃ b, idx s.up n = some b := by
 obtain ⟨h1, h2, h3, _, _⟩ := hR.job x hx
 have hj := (Zs8.1 h1).2.2.1
 refine ⟨fun e => by rw [e] at h2; simp at h2; omega, h3, by omega, fun n hn => ?_⟩
 have := (ZQ3.1 h3).2 n hn
 obtain ⟨b, q, _⟩ := Zwh (l := s.up) (i := n) this.1 (by rw [hu]; exact this.2)
 exact ⟨b, q⟩
theorem Zag {s : State} (hT : TopoP s.topo) (hu : s.up.length = s.topo.nodes.length) (hR : RunsP s) {x : Run} (hx : x ∈ s.runs) (k : Unit -> Option Bool) (i : Nat) : ZL2 s x i () k = bif !runFit s x then some false else k () := by
 obtain ⟨h1, h2, h3, h4⟩ := ZVh hT hu hR hx
 obtain ⟨l1, l2, l3⟩ := ZHk h2 h1
 unfold ZL2
 have hk : ZY s x k () = bif decide (lev s.topo (lowN s.topo x.nodes) <= x.job.level) then k () else some false := by
  unfold ZY
  rw [l2, bS, Z73 hT l1, bS, Zgi]
  cases decide (lev s.topo (lowN s.topo x.nodes) <= x.job.level) <;> rfl
 have : rgl (ZM2 s x) (ZY s x k) x.nodes 0 () = bif x.nodes.all (isUp s) && ascB x.nodes then ZY s x k () else some false := by
  refine Zx2 (fun i (_ : Unit) => (∀ j n, j < i -> x.nodes[j]? = some n -> isUp s n = true) /\ ∀ j a b, j + 1 < i -> x.nodes[j]? = some a -> x.nodes[j + 1]? = some b -> a < b) (fun o => o = bif x.nodes.all (isUp s) && ascB x.nodes then ZY s x k () else some false) (fun i n b kc hi hI hkc => ?_) (fun b hI => ?_) ⟨fun j n h => by omega, fun j a b h => by omega⟩
  .have hil := (yB hi).1
   obtain ⟨u, hu'⟩ := h4 n (yE hi)
   have hup : isUp s n = u := by unfold isUp; rw [hu']; rfl
   unfold ZM2
   rw [hu', bS]
   cases u with
   | false =>
    have : x.nodes.all (isUp s) = false := List.all_eq_false.2 ⟨n, yE hi, by rw [hup]; simp⟩
    rw [this]; rfl
   | true =>
    have new : ∀ j m, j < i + 1 -> x.nodes[j]? = some m -> isUp s m = true := by
     intro j m hj hm
     by_cases e : j = i
     .subst e; rw [hi] at hm; cases hm; exact hup
     .exact hI.1 j m (by omega) hm
    by_cases h0 : i = 0
    .subst h0
     exact hkc () ⟨new, fun j a b hj => by omega⟩
    .have hgt : decide ((0 : Int) < (i : Int)) = true := by simp; omega
     obtain ⟨q, hq⟩ : ∃ q, x.nodes[i - 1]? = some q := ⟨_, yA (by omega)⟩
     rw [hgt, ZAc (by omega) (by omega)]
     simp only [Bool.not_true, cond_false, cond_true, Bool.false_or, Bool.true_and, Zf, hq, bS]
     by_cases h5 : n <= q
     .have : ascB x.nodes = false := by
       rw [Bool.eq_false_iff]
       intro w
       have := ZLc.1 w (i - 1) q n hq (by rw [show i - 1 + 1 = i by omega]; exact hi)
       omega
      rw [this, Bool.and_false]; simp [h5]
     .simp only [h5, decide_false, cond_false]
      refine hkc () ⟨new, fun j a b hj ha hb => ?_⟩
      by_cases e : j + 1 = i
      .have : j = i - 1 := by omega
       subst this
       rw [hq] at ha; cases ha
       rw [show i - 1 + 1 = i by omega, hi] at hb; cases hb
       omega
      .exact hI.2 j a b (by omega) ha hb
  .have e1 : x.nodes.all (isUp s) = true := List.all_eq_true.2 fun n hn => by
    obtain ⟨j, hj⟩ := List.getElem?_of_mem hn
    exact hI.1 j n (yB hj).1 hj
   have e2 : ascB x.nodes = true := ZLc.2 fun j a b ha hb => hI.2 j a b (yB hb).1 ha hb
   rw [e1, e2]; rfl
 rw [this, hk]
 unfold runFit
 cases x.nodes.all (isUp s) <;> cases ascB x.nodes <;> cases decide (lev s.topo (lowN s.topo x.nodes) <= x.job.level) <;> rfl
theorem impl_run {s : State} (hT : TopoP s.topo) (hu : s.up.length = s.topo.nodes.length) (hR : RunsP s) {x : Run} (hx : x ∈ s.runs) (k : Unit -> Option Bool) (i : Nat) : ZS2 s x i () k = bif !runFit s x then some false else k () := by
 obtain ⟨h1, h2, h3, h4⟩ := ZVh hT hu hR hx
 obtain ⟨l1, l2, l3⟩ := ZHk h2 h1
 unfold ZS2
 rw [Zg2 (r := some false) (p := fun n => !isUp s n) (fun n hn i k => by
  obtain ⟨u, hu'⟩ := h4 n hn
  unfold Zz4 isUp
  rw [hu', bS]; rfl), ← List.not_all_eq_any_not]
 unfold Zy4
 rw [Z99 (by omega), bS]
 unfold runFit
 cases x.nodes.all (isUp s) with
 | false => rfl
 | true =>
 cases ascB x.nodes with
 | false => rfl
 | true =>
  simp only [Bool.not_true, cond_false, l3, bS, Zr5 hT l1, Bool.false_or, Bool.true_and, Zgi]
theorem Z69 {s : State} (hs : s.queue.length + s.runs.length <= 1048576) : spec_StateOk s = some (ZG9 s) /\ impl_StateOk s = some (ZG9 s) := by
 obtain ⟨q, h1, h2⟩ := ZN7 s
 unfold spec_StateOk impl_StateOk ZG9
 rw [ZGf, h1, bS, bS, ZP1, ZN hs, Option.getD_some]
 have e1 : (decide (s.depth < 0) || decide (60 < s.depth)) = !(decide (0 <= s.depth) && decide (s.depth <= 60)) := by rw [Bool.eq_iff_iff]; simp
 have e2 : impl_within s.depth 0 60 = (decide (0 <= s.depth) && decide (s.depth <= 60)) := rfl
 have e3 : decide ((300 : Int) < (s.ends.length : Int)) = !decide (s.ends.length <= 300) := by rw [Bool.eq_iff_iff]; simp; omega
 rw [Bool.or_assoc, e1, e2, e3]
 cases hq : q.2 with
 | false => exact ⟨rfl, rfl⟩
 | true =>
 obtain ⟨a1, a2, a3, a4, a5⟩ := h2 hq
 have hT : TopoP s.topo := by rw [← a3]; exact a2.topo
 have hu : s.up.length = s.topo.nodes.length := by rw [← a3, ← a4]; exact a2.up
 cases (decide (0 <= s.depth) && decide (s.depth <= 60)) with
 | false => exact ⟨rfl, rfl⟩
 | true =>
 simp only [Bool.not_true, Bool.or_self, cond_false, bS, ZTc, Z6e, Bool.false_or, Bool.true_and]
 cases queueOk (allJobs s) with
 | false => exact ⟨rfl, rfl⟩
 | true =>
 cases decide (s.ends.length <= 300) with
 | false => exact ⟨rfl, rfl⟩
 | true =>
 simp only [Bool.not_true, Bool.or_self, cond_false, Bool.true_and]
 rw [Zg2 (r := some false) (p := fun x => !runFit s x) (fun x hx i k => Zag hT hu a5 hx k i), Zg2 (r := some false) (p := fun x => !runFit s x) (fun x hx i k => impl_run hT hu a5 hx k i), ← List.not_all_eq_any_not]
 unfold Zm4 Zx4
 have f1 : ∀ e : End, ((((((decide (e.id < 1)) || (decide (999 < e.id))) || (decide (e.t < 0))) || (decide (s.now < e.t))) || (decide (e.why < 1))) || (decide (4 < e.why))) = !endOk s e := by
  intro e; unfold endOk; rw [Bool.eq_iff_iff]; simp; omega
 have f2 : ∀ e : End, (((!(impl_within e.id 1 999)) || (!(impl_within e.t 0 s.now))) || (!(impl_within e.why 1 4))) = !endOk s e := by
  intro e; unfold endOk impl_within
  cases (decide (1 <= e.id) && decide (e.id <= 999)) <;> cases (decide (0 <= e.t) && decide (e.t <= s.now)) <;> cases (decide (1 <= e.why) && decide (e.why <= 4)) <;> rfl
 rw [Zg2 (bd := ZK2 s) (r := some false) (p := fun e => !endOk s e) (fun e he i k => by unfold ZK2; rw [f1]), Zg2 (bd := ZR2 s) (r := some false) (p := fun e => !endOk s e) (fun e he i k => by unfold ZR2; rw [f2]), ← List.not_all_eq_any_not]
 unfold Zl4 Zw4
 cases s.runs.all (runFit s) <;> cases s.ends.all (endOk s) <;> exact ⟨rfl, rfl⟩
structure StateP (s : State) : Prop where
 topo : TopoP s.topo
 up : s.up.length = s.topo.nodes.length
 lic : spec_VecOk s.lic = true
 now : time s.now = true
 room : ∃ r, spec_RoomOf s = some (r, true) /\ RoomP r /\ r.topo = s.topo /\ r.up = s.up
 runs : RunsP s
 depth : 0 <= s.depth /\ s.depth <= 60
 queue : queueOk (allJobs s) = true
 ends : s.ends.length <= 300
 fit : ∀ x ∈ s.runs, runFit s x = true
 fin : ∀ e ∈ s.ends, endOk s e = true
theorem ZOh {s : State} (h : ZG9 s = true) : StateP s := by
 obtain ⟨q, h1, h2⟩ := ZN7 s
 unfold ZG9 at h
 rw [h1, Option.getD_some] at h
 simp only [yD, decide_eq_true_eq, List.all_eq_true] at h
 obtain ⟨⟨⟨⟨⟨a1, a2⟩, a3⟩, a4⟩, a5⟩, a6⟩ := h
 obtain ⟨b1, b2, b3, b4, b5⟩ := h2 a1
 unfold ZK5 at b1
 simp only [yD, decide_eq_true_eq, ZC1] at b1
 exact ⟨b1.1.1.1, b1.1.1.2, b1.1.2, b1.2, ⟨q.1, by rw [h1, ← a1], b2, b3, b4⟩, b5, a2, a3, a4, a5, a6⟩
def Zi7 : L :=
.seq (rE 4 (cB false))
 (.seq (sR [mV 6 0,.ln 7 (.t 6),mV 8 1,.ln 9 (.t 8),bI 10 .neq 7 9]
 (.cond (.t 10) (.seq (rE 4 (cB false))
 gR)
 .skip))
 (.seq (sR [mV 11 0,.ln 12 (.t 11),.mv 13 (kI 0)]
 (.blk 0 (.loop (.gw (sR [bI 14 .lss 13 12]
 (.seq (.cond (.t 14) .skip
 (.exit 0))
 (.seq (.blk 1 (sR [mV 15 13,mV 5 15]
 (.seq (.rq 9 [mV 16 0,mV 17 5,iA 18 16 17 1,lD 19 18 1 false,mV 20 1,mV 21 5,iA 22 20 21 1,lD 23 22 1 false,bI 24 .neq 19 23])
 (.cond (.t 24) (.seq (rE 4 (cB false))
 gR)
 .skip))))
 (.reg [.bi 25 .add (.t 13) (kI 1),mV 13 25]))))))))
 (.seq (rE 4 (cB true))
 gR)))
def ZK1 (s2 : List Int) (x5 : Int) (i5 : Nat) (_ : Unit) (k5 : Unit -> Option Bool) : Option Bool :=
 (idx s2 (i5 : Int)).bind fun e6 => bif (x5 != e6) then (some false) else (k5 ())
def Z33 (_ : Unit) : Option Bool :=
 some true
def slices_Equal_int_int (s1 : List Int) (s2 : List Int) : Option Bool :=
 bif ((s1.length : Int) != (s2.length : Int)) then (some false) else (rgl (ZK1 s2) Z33 s1 0 ())
theorem Zb7 {s1 : List Int} {s2 : List Int} {r : Bool} (H : slices_Equal_int_int s1 s2 = some r) : Snd Tryz.prog ZG3 [.sl .rd 1 (s1.map eI), .sl .rd 1 (s2.map eI)] (.bool r) [] := by
 refine wS Zi7 [.t 4] ?_
 unfold slices_Equal_int_int at H
 refine wG [.u 7 (.ln _ _ fun _ => lm s1 eI), .u 9 (.ln _ _ fun _ => lm s2 eI)] fun q3 => ?_
 refine Wh_iH H (fun H => ?_) fun H => ?_
 .refine wP ?_
  replace H := sI H; subst H
  exact wE [(4, .d)]
 .refine wG [.u 12 (.ln _ _ fun _ => lm s1 eI)] fun q4 => ?_
  refine wR (fun (i5 : Nat) (v5 : Unit) => ⟨[(0, .sl .rd 1 (s1.map eI)), (1, .sl .rd 1 (s2.map eI)), (12, .int .i64 (s1.length : Int)), (13, .int .i64 (i5 : Int))], [], [], []⟩) H (fun i5 x5 v5 I m k5 hxv5 hiv5 H N27 => ?_) (fun v5 I m H => ?_)
  .unfold ZK1 at H
   refine wP ?_
   refine wt (ltT hiv5) ?_
   obtain ⟨e6, h6, H⟩ := bB H
   refine wG [.u 18 (.ix _ _ _ fun _ => Z0 eI (Z3 hxv5)), .u 22 (.ix _ _ _ fun _ => Z0 eI h6)] fun _ => ?_
   refine Wh_iH H (fun H => ?_) fun H => ?_
   .refine wP ?_
    replace H := sI H; subst H
    exact wE [(4, .d)]
   .refine wG [.w 25 (wi .i64 rfl hiv5 q3.1)] fun _ => ?_
    exact wT (N27 () H)
  .unfold Z33 at H
   refine wP ?_
   refine wf (ltF s1.length) ?_
   refine wP ?_
   replace H := sI H; subst H
   exact wE [(4, .d)]
def Z03 : L :=
.seq (rE 4 (cB false))
 (.seq (sR [mV 6 0,.ln 7 (.t 6),mV 8 1,.ln 9 (.t 8),bI 10 .neq 7 9]
 (.cond (.t 10) (.seq (rE 4 (cB false))
 gR)
 .skip))
 (.seq (sR [mV 11 0,.ln 12 (.t 11),.mv 13 (kI 0)]
 (.blk 0 (.loop (.gw (sR [bI 14 .lss 13 12]
 (.seq (.cond (.t 14) .skip
 (.exit 0))
 (.seq (.blk 1 (sR [mV 15 13,mV 5 15]
 (.seq (.rq 9 [mV 16 0,mV 17 5,iA 18 16 17 4,lD 19 18 4 true,mV 20 1,mV 21 5,iA 22 20 21 4,lD 23 22 4 true,.es 24 true [0, 0, 0, 0] (.t 19) (.t 23)])
 (.cond (.t 24) (.seq (rE 4 (cB false))
 gR)
 .skip))))
 (.reg [.bi 25 .add (.t 13) (kI 1),mV 13 25]))))))))
 (.seq (rE 4 (cB true))
 gR)))
def ZH (s2 : List Node) (x5 : Node) (i5 : Nat) (_ : Unit) (k5 : Unit -> Option Bool) : Option Bool :=
 (idx s2 (i5 : Int)).bind fun e6 => bif (!(x5.leaf == e6.leaf && (x5.cap.a == e6.cap.a && (x5.cap.b == e6.cap.b && (x5.cap.c == e6.cap.c && true))))) then (some false) else (k5 ())
def Zb1 (_ : Unit) : Option Bool :=
 some true
def slices_Equal_impl_Node_impl_Node (s1 : List Node) (s2 : List Node) : Option Bool :=
 bif ((s1.length : Int) != (s2.length : Int)) then (some false) else (rgl (ZH s2) Zb1 s1 0 ())
theorem ZY2 {s1 : List Node} {s2 : List Node} {r : Bool} (H : slices_Equal_impl_Node_impl_Node s1 s2 = some r) : Snd Tryz.prog Zr1 [.sl .rd 4 (s1.map eNode), .sl .rd 4 (s2.map eNode)] (.bool r) [] := by
 refine wS Z03 [.t 4] ?_
 unfold slices_Equal_impl_Node_impl_Node at H
 refine wG [.u 7 (.ln _ _ fun _ => lm s1 eNode), .u 9 (.ln _ _ fun _ => lm s2 eNode)] fun q3 => ?_
 refine Wh_iH H (fun H => ?_) fun H => ?_
 .refine wP ?_
  replace H := sI H; subst H
  exact wE [(4, .d)]
 .refine wG [.u 12 (.ln _ _ fun _ => lm s1 eNode)] fun q4 => ?_
  refine wR (fun (i5 : Nat) (v5 : Unit) => ⟨[(0, .sl .rd 4 (s1.map eNode)), (1, .sl .rd 4 (s2.map eNode)), (12, .int .i64 (s1.length : Int)), (13, .int .i64 (i5 : Int))], [], [], []⟩) H (fun i5 x5 v5 I m k5 hxv5 hiv5 H N27 => ?_) (fun v5 I m H => ?_)
  .unfold ZH at H
   refine wP ?_
   refine wt (ltT hiv5) ?_
   obtain ⟨e6, h6, H⟩ := bB H
   refine wG [.u 18 (.ix _ _ _ fun _ => Z0 eNode (Z3 hxv5)), .u 22 (.ix _ _ _ fun _ => Z0 eNode h6)] fun _ => ?_
   refine Wh_iH H (fun H => ?_) fun H => ?_
   .refine wP ?_
    replace H := sI H; subst H
    exact wE [(4, .d)]
   .refine wG [.w 25 (wi .i64 rfl hiv5 q3.1)] fun _ => ?_
    exact wT (N27 () H)
  .unfold Zb1 at H
   refine wP ?_
   refine wf (ltF s1.length) ?_
   refine wP ?_
   replace H := sI H; subst H
   exact wE [(4, .d)]
def Zfc : L :=
sR [.bx 2 (.t 0),.bx 3 (.t 1),.mv 4 (cB false)]
 (sR [fA 5 2 0,lD 6 5 1 false,fA 7 3 0,lD 8 7 1 false,cQ 9 ZG3 [6, 8],mV 10 9,.g 10 true (fA 11 2 1),.g 10 true (lD 12 11 1 false),.g 10 true (fA 13 3 1),.g 10 true (lD 14 13 1 false),.g 10 true (cQ 15 Zr1 [12, 14]),.pk 16 (.t 10) (.t 15) (cB false),mV 4 16]
 gR)
def impl_sameTopo (a1 : Topo) (b2 : Topo) : Option Bool :=
 (slices_Equal_int_int a1.parents b2.parents).bind fun b3 => (bif b3 then (slices_Equal_impl_Node_impl_Node a1.nodes b2.nodes) else some default).bind fun b4 => some (b3 && b4)
theorem Zoc {a1 : Topo} {b2 : Topo} {r : Bool} (H : impl_sameTopo a1 b2 = some r) : Snd Tryz.prog ZS8 [Zz .rd a1, Zz .rd b2] (.bool r) [] := by
 refine wS Zfc [.t 4] ?_
 unfold impl_sameTopo at H
 obtain ⟨b3, h3, H⟩ := bB H
 obtain ⟨b4, h4, H⟩ := bB H
 refine wG [.c 9 (Zb7 h3), .g 15 [(_, true)] (.call _ _ _ _ _ (AEs.refl _) (fun q => ZY2 (bT q.1 h4)))] fun _ => ?_
 replace H := sI H; subst H
 exact wE [(4, .d)]
def Zgc : L :=
sR [.mv 4 (.c (.str []))]
 (.seq (sR [mV 7 1,.ln 8 (.t 7),.mv 9 (kI 0)]
 (.blk 0 (.loop (.gw (sR [bI 10 .lss 9 8]
 (.seq (.cond (.t 10) .skip
 (.exit 0))
 (.seq (.blk 1 (sR [iA 11 7 9 1,lD 12 11 1 false,mV 6 12]
 (.reg [mV 13 0,.sa 14 (.t 13) (.c (.str [32])),mV 15 6,cQ 16 ZH2 [15],.sa 17 (.t 14) (.t 16),mV 0 17])))
 (.reg [.bi 18 .add (.t 9) (kI 1),mV 9 18]))))))))
 (sR [mV 19 0,mV 4 19]
 gR))
def ZS3 (x4 : Int) (_ : Nat) (v4 : Str) (k4 : Str -> Option Str) : Option Str :=
 (catS v4 ([32] : Str)).bind fun w5 => (impl_NumText x4).bind fun w6 => (catS w5 w6).bind fun w7 => k4 w7
def Z37 (v4 : Str) : Option Str :=
 some v4
def impl_numTexts (word1 : Str) (l2 : List Int) : Option Str :=
 rgl ZS3 Z37 l2 0 word1
theorem Zs1 {word1 : Str} {l2 : List Int} {r : Str} (H : impl_numTexts word1 l2 = some r) : Snd Tryz.prog Zm1 [.str word1, .sl .rd 1 (l2.map eI)] (.str r) [] := by
 refine wS Zgc [.t 4] ?_
 unfold impl_numTexts at H
 refine wG [.u 8 (.ln _ _ fun _ => lm l2 eI)] fun q3 => ?_
 refine wR (fun (i4 : Nat) (v4 : Str) => ⟨[(0, .str v4), (7, .sl .rd 1 (l2.map eI)), (8, .int .i64 (l2.length : Int)), (9, .int .i64 (i4 : Int))], [], [], []⟩) H (fun i4 x4 v4 I m k4 hxv4 hiv4 H N14 => ?_) (fun v4 I m H => ?_)
 .unfold ZS3 at H
  refine wP ?_
  refine wt (ltT hiv4) ?_
  obtain ⟨w5, h5, H⟩ := bB H
  obtain ⟨w6, h6, H⟩ := bB H
  obtain ⟨w7, h7, H⟩ := bB H
  refine wG [.u 11 (.ix _ _ _ fun _ => Z0 eI (Z3 hxv4)), .u 14 (.sa _ _ _ fun _ => h5), .c 16 (Zq3 h6), .u 17 (.sa _ _ _ fun _ => h7), .w 18 (wi .i64 rfl hiv4 q3.1)] fun _ => ?_
  exact wT (N14 _ H)
 .unfold Z37 at H
  refine wP ?_
  refine wf (ltF l2.length) ?_
  refine wP ?_
  replace H := sI H; subst H
  exact wE [(4, .d)]
def ZId : L :=
sR [.bx 2 (.t 0),.bx 3 (.t 1),.mv 4 (.c (.nl))]
 (sR [.bs 19 1 [] true,mV 5 19]
 (.seq (.seq (.rq 17 [lD 20 2 11 true,cQ 21 ZF6 [20],.un 22 (.t 21),mV 23 22,.g 23 false (lD 24 3 11 true),.g 23 false (cQ 25 ZF6 [24]),.g 23 false (.un 26 (.t 25)),.pk 27 (.t 23) (cB true) (.t 26),mV 28 27,.g 28 false (fA 29 2 0),.g 28 false (lD 30 29 2 true),.g 28 false (cQ 31 Zx5 [30]),.g 28 false (fA 32 3 0),.g 28 false (lD 33 32 2 true),.g 28 false (cQ 34 Zx5 [33]),.g 28 false (bI 35 .neq 31 34),.pk 36 (.t 28) (cB true) (.t 35)])
 (.cond (.t 36) (sR [mV 37 5,mV 4 37]
 gR)
 .skip))
 (.seq (sR [fA 38 2 7,lD 39 38 1 false,fA 40 3 7,lD 41 40 1 false,bI 42 .neq 39 41]
 (.cond (.t 42) (.reg [mV 43 5,fA 44 3 7,lD 45 44 1 false,cQ 46 Zl [45],.sa 47 (.c (.str [110, 111, 119, 32])) (.t 46),.bs 48 1 [(.t 47)] false,.ap 49 (.t 43) (.t 48) 1 16,mV 5 49])
 .skip))
 (.gw (.seq (sR [fA 50 2 3,lD 51 50 3 true,fA 52 3 3,lD 53 52 3 true,.es 54 true [0, 0, 0] (.t 51) (.t 53)]
 (.cond (.t 54) (.reg [mV 55 5,fA 56 3 3,lD 57 56 3 true,cQ 58 ZD6 [57],.sa 59 (.c (.str [108, 105, 99, 32])) (.t 58),.bs 60 1 [(.t 59)] false,.ap 61 (.t 55) (.t 60) 1 16,mV 5 61])
 .skip))
 (.gw (.seq (sR [fA 62 3 2,lD 63 62 1 false,.ln 64 (.t 63),.mv 65 (kI 0)]
 (.blk 0 (.loop (.gw (sR [bI 66 .lss 65 64]
 (.seq (.cond (.t 66) .skip
 (.exit 0))
 (.seq (.blk 1 (sR [mV 67 65,mV 6 67]
 (.seq (sR [fA 68 3 2,lD 69 68 1 false,mV 70 6,iA 71 69 70 1,lD 72 71 1 false,mV 73 72,.g 73 true (fA 74 2 2),.g 73 true (lD 75 74 1 false),.g 73 true (mV 76 6),.g 73 true (iA 77 75 76 1),.g 73 true (lD 78 77 1 false),.g 73 true (.un 79 (.t 78)),.pk 80 (.t 73) (.t 79) (cB false)]
 (.cond (.t 80) (.reg [mV 81 5,mV 82 6,cQ 83 Zl [82],.sa 84 (.c (.str [117, 112, 32])) (.t 83),.bs 85 1 [(.t 84)] false,.ap 86 (.t 81) (.t 85) 1 16,mV 5 86])
 .skip))
 (.gw (sR [fA 87 3 2,lD 88 87 1 false,mV 89 6,iA 90 88 89 1,lD 91 90 1 false,.un 92 (.t 91),mV 93 92,.g 93 true (fA 94 2 2),.g 93 true (lD 95 94 1 false),.g 93 true (mV 96 6),.g 93 true (iA 97 95 96 1),.g 93 true (lD 98 97 1 false),.pk 99 (.t 93) (.t 98) (cB false)]
 (.cond (.t 99) (.reg [mV 100 5,mV 101 6,cQ 102 Zl [101],.sa 103 (.c (.str [100, 111, 119, 110, 32])) (.t 102),.bs 104 1 [(.t 103)] false,.ap 105 (.t 100) (.t 104) 1 16,mV 5 105])
 .skip))))))
 (.reg [.bi 106 .add (.t 65) (kI 1),mV 65 106]))))))))
 (.seq (sR [lD 107 3 11 true,cQ 108 Z62 [107],.ln 109 (.t 108),.mv 110 (kI 0)]
 (.blk 2 (.loop (.gw (sR [bI 111 .lss 110 109]
 (.seq (.cond (.t 111) .skip
 (.exit 2))
 (.seq (.blk 3 (sR [iA 112 108 110 11,lD 113 112 11 true,.al 8 [.int .i64 0, .int .i64 0, .int .i64 0, .int .i64 0, .int .i64 0, .int .i64 0, .int .i64 0, .int .i64 0, .int .i64 0, .int .i64 0, .int .i64 0],.st (.t 8) (.t 113) 11]
 (.seq (.rz [(8, 9, [.int .i64 0, .int .i64 0, .int .i64 0, .int .i64 0, .int .i64 0, .int .i64 0, .int .i64 0, .int .i64 0, .int .i64 0, .int .i64 0, .int .i64 0])] [(0, false, lD 115 2 11 true),
 (1, false, cQ 116 Z62 [115]),
 (2, false, fA 117 8 0),
 (3, false, lD 118 117 1 false),
 (4, false, cQ 119 Z84 [116, 118]),
 (5, false, mV 114 119),
 (6, false, eX 120 114 0),
 (7, false, eX 121 114 1)]
 [.st (.t 9) (.t 120) 11,mV 10 121])
 (sR [mV 122 10,.un 123 (.t 122)]
 (.cond (.t 123) (.reg [mV 124 5,fA 125 8 0,lD 126 125 1 false,cQ 127 Zl [126],.sa 128 (.c (.str [105, 110, 32])) (.t 127),.bs 129 1 [(.t 128)] false,.ap 130 (.t 124) (.t 129) 1 16,mV 5 130])
 .skip)))))
 (.reg [.bi 131 .add (.t 110) (kI 1),mV 110 131]))))))))
 (.seq (sR [lD 132 2 11 true,cQ 133 Z62 [132],.ln 134 (.t 133),.mv 135 (kI 0)]
 (.blk 4 (.loop (.gw (sR [bI 136 .lss 135 134]
 (.seq (.cond (.t 136) .skip
 (.exit 4))
 (.seq (.blk 5 (sR [iA 137 133 135 11,lD 138 137 11 true,.al 12 [.int .i64 0, .int .i64 0, .int .i64 0, .int .i64 0, .int .i64 0, .int .i64 0, .int .i64 0, .int .i64 0, .int .i64 0, .int .i64 0, .int .i64 0],.st (.t 12) (.t 138) 11]
 (.seq (.rz [(8, 13, [.int .i64 0, .int .i64 0, .int .i64 0, .int .i64 0, .int .i64 0, .int .i64 0, .int .i64 0, .int .i64 0, .int .i64 0, .int .i64 0, .int .i64 0])] [(0, false, lD 140 3 11 true),
 (1, false, cQ 141 Z62 [140]),
 (2, false, fA 142 12 0),
 (3, false, lD 143 142 1 false),
 (4, false, cQ 144 Z84 [141, 143]),
 (5, false, mV 139 144),
 (6, false, eX 145 139 0),
 (7, false, eX 146 139 1)]
 [.st (.t 13) (.t 145) 11,mV 14 146])
 (sR [mV 147 14,.un 148 (.t 147)]
 (.cond (.t 148) (.reg [mV 149 5,fA 150 12 0,lD 151 150 1 false,cQ 152 Zl [151],.sa 153 (.c (.str [111, 117, 116, 32])) (.t 152),.bs 154 1 [(.t 153)] false,.ap 155 (.t 149) (.t 154) 1 16,mV 5 155])
 .skip)))))
 (.reg [.bi 156 .add (.t 135) (kI 1),mV 135 156]))))))))
 (.seq (sR [fA 157 3 9,lD 158 157 1 false,.ln 159 (.t 158),.mv 160 (kI 0)]
 (.blk 6 (.loop (.gw (sR [bI 161 .lss 160 159]
 (.seq (.cond (.t 161) .skip
 (.exit 6))
 (.seq (.blk 7 (sR [iA 162 158 160 13,lD 163 162 13 true,.al 16 [.int .i64 0, .int .i64 0, .int .i64 0, .int .i64 0, .int .i64 0, .int .i64 0, .int .i64 0, .int .i64 0, .int .i64 0, .int .i64 0, .int .i64 0, .int .i64 0, .nl],.st (.t 16) (.t 163) 13]
 (sR [fA 165 2 8,lD 166 165 1 false,fA 167 16 0,fA 168 167 0,lD 169 168 1 false,cQ 170 Z84 [166, 169],mV 164 170,eX 171 164 0,eX 172 164 1,.al 17 [.int .i64 0, .int .i64 0, .int .i64 0, .int .i64 0, .int .i64 0, .int .i64 0, .int .i64 0, .int .i64 0, .int .i64 0, .int .i64 0, .int .i64 0],.st (.t 17) (.t 171) 11,mV 18 172]
 (sR [mV 173 18]
 (.cond (.t 173) (.reg [mV 174 5,fA 175 16 0,fA 176 175 0,lD 177 176 1 false,cQ 178 Zl [177],.sa 179 (.c (.str [115, 116, 97, 114, 116, 115, 32])) (.t 178),.bs 180 1 [(.t 179)] false,.ap 181 (.t 174) (.t 180) 1 16,mV 5 181])
 .skip)))))
 (.reg [.bi 182 .add (.t 160) (kI 1),mV 160 182]))))))))
 (sR [mV 183 5,mV 4 183]
 gR)))))))))))
def Z12 (a1 : State) (i16 : Nat) (x16 : Bool) (k16 : (List Str) -> Option (List Str)) (v21 : (List Str)) : Option (List Str) :=
 (bif (!x16) then (idx a1.up (i16 : Int)) else some default).bind fun e22 => bif ((!x16) && e22) then ((spec_NumText (i16 : Int)).bind fun w23 => (catS ([100, 111, 119, 110, 32] : Str) w23).bind fun w24 => (appL 16 v21 [w24]).bind fun xs25 => k16 xs25) else (k16 v21)
def ZO3 (a1 : State) (x43 : Run) (_ : Nat) (v43 : (List Str)) (k43 : (List Str) -> Option (List Str)) : Option (List Str) :=
 (spec_l05Find a1.queue x43.job.id).bind fun y44 => bif y44.2 then ((spec_NumText x43.job.id).bind fun w45 => (catS ([115, 116, 97, 114, 116, 115, 32] : Str) w45).bind fun w46 => (appL 16 v43 [w46]).bind fun xs47 => k43 xs47) else (k43 v43)
def ZN6 (v43 : (List Str)) : Option (List Str) :=
 some v43
def Zt4 (b2 : State) (x36 : Job) (_ : Nat) (v36 : (List Str)) (k36 : (List Str) -> Option (List Str)) : Option (List Str) :=
 (spec_l06Jobs b2).bind fun y37 => (spec_l05Find y37 x36.id).bind fun y38 => bif (!y38.2) then ((spec_NumText x36.id).bind fun w39 => (catS ([111, 117, 116, 32] : Str) w39).bind fun w40 => (appL 16 v36 [w40]).bind fun xs41 => k36 xs41) else (k36 v36)
def Zq4 (a1 : State) (b2 : State) (v36 : (List Str)) : Option (List Str) :=
 rgl (ZO3 a1) ZN6 b2.runs 0 v36
def Zu4 (a1 : State) (x28 : Job) (_ : Nat) (v28 : (List Str)) (k28 : (List Str) -> Option (List Str)) : Option (List Str) :=
 (spec_l06Jobs a1).bind fun y29 => (spec_l05Find y29 x28.id).bind fun y30 => bif (!y30.2) then ((spec_NumText x28.id).bind fun w31 => (catS ([105, 110, 32] : Str) w31).bind fun w32 => (appL 16 v28 [w32]).bind fun xs33 => k28 xs33) else (k28 v28)
def Zr4 (a1 : State) (b2 : State) (v28 : (List Str)) : Option (List Str) :=
 (spec_l06Jobs a1).bind fun y34 => rgl (Zt4 b2) (Zq4 a1 b2) y34 0 v28
def Zv4 (a1 : State) (x16 : Bool) (i16 : Nat) (v16 : (List Str)) (k16 : (List Str) -> Option (List Str)) : Option (List Str) :=
 (bif x16 then (idx a1.up (i16 : Int)) else some default).bind fun e17 => bif (x16 && (!e17)) then ((spec_NumText (i16 : Int)).bind fun w18 => (catS ([117, 112, 32] : Str) w18).bind fun w19 => (appL 16 v16 [w19]).bind fun xs20 => (Z12 a1 i16 x16 k16) xs20) else ((Z12 a1 i16 x16 k16) v16)
def Zs4 (a1 : State) (b2 : State) (v16 : (List Str)) : Option (List Str) :=
 (spec_l06Jobs b2).bind fun y26 => rgl (Zu4 a1) (Zr4 a1 b2) y26 0 v16
def Zd1 (a1 : State) (b2 : State) (v14 : (List Str)) : Option (List Str) :=
 rgl (Zv4 a1) (Zs4 a1 b2) b2.up 0 v14
def Zc1 (a1 : State) (b2 : State) (v10 : (List Str)) : Option (List Str) :=
 bif (!(a1.lic.a == b2.lic.a && (a1.lic.b == b2.lic.b && (a1.lic.c == b2.lic.c && true)))) then ((spec_VecText b2.lic).bind fun w11 => (catS ([108, 105, 99, 32] : Str) w11).bind fun w12 => (appL 16 v10 [w12]).bind fun xs13 => (Zd1 a1 b2) xs13) else ((Zd1 a1 b2) v10)
def spec_Changes (a1 : State) (b2 : State) : Option (List Str) :=
 (spec_StateOk a1).bind fun b3 => (bif (!b3) then some default else (spec_StateOk b2)).bind fun b4 => (bif ((!b3) || (!b4)) then some default else (spec_TopoText a1.topo)).bind fun w5 => (bif ((!b3) || (!b4)) then some default else (spec_TopoText b2.topo)).bind fun w6 => bif (((!b3) || (!b4)) || (w5 != w6)) then (some []) else (bif (a1.now != b2.now) then ((spec_NumText b2.now).bind fun w7 => (catS ([110, 111, 119, 32] : Str) w7).bind fun w8 => (appL 16 ([] : List Str) [w8]).bind fun xs9 => (Zc1 a1 b2) xs9) else ((Zc1 a1 b2) []))
theorem ZXc {a1 : State} {b2 : State} {r : (List Str)} (H : spec_Changes a1 b2 = some r) : Snd Tryz.prog Zv9 [Z5 .rd a1, Z5 .rd b2] (.sl .nw 1 (r.map eS)) [] := by
 refine wS ZId [.t 4] ?_
 unfold spec_Changes at H
 obtain ⟨b3, h3, H⟩ := bB H
 obtain ⟨b4, h4, H⟩ := bB H
 obtain ⟨w5, h5, H⟩ := bB H
 obtain ⟨w6, h6, H⟩ := bB H
 refine wG [.c 21 (Ze8 h3), .g 25 [(_, false)] (.call _ _ _ _ _ (AEs.refl _) (fun q => Ze8 (bF q.1 h4))), .g 31 [(_, false)] (.call _ _ _ _ _ (AEs.refl _) (fun q => ZM7 (bF q.1 h5))), .g 34 [(_, false)] (.call _ _ _ _ _ (AEs.refl _) (fun q => ZM7 (bF q.1 h6)))] fun _ => ?_
 refine Wh_iH H (fun H => ?_) fun H => ?_
 .refine wP ?_
  replace H := sI H; subst H
  exact wN [(4, .f)] [] [] [19] [] [⟨_, nw_S ([] : List Str)⟩]
 .refine wP ?_
  refine Zy6 (r := r) (Zc1 a1 b2) 0 (fun v10 : (List Str) => ⟨[(2, .ptr 2 0), (3, .ptr 3 0), (5, .sref 19)], [], [(2, (Z5 .rd a1).cells), (3, (Z5 .rd b2).cells)], [(19, ⟨1, v10.map eS, false⟩)]⟩) (by kernel_rfl) (fun v10 H => ?_) (fun J118 => ?_)
  .unfold Zc1 at H
   refine wP ?_
   refine Zy6 (r := r) (Zd1 a1 b2) 0 (fun v14 : (List Str) => ⟨[(2, .ptr 2 0), (3, .ptr 3 0), (5, .sref 19)], [], [(2, (Z5 .rd a1).cells), (3, (Z5 .rd b2).cells)], [(19, ⟨1, v14.map eS, false⟩)]⟩) (by kernel_rfl) (fun v14 H => ?_) (fun J117 => ?_)
   .unfold Zd1 at H
    refine wG [.u 64 (.ln _ _ fun _ => lm b2.up eBo)] fun q15 => ?_
    refine wR (fun (i16 : Nat) (v16 : (List Str)) => ⟨[(2, .ptr 2 0), (3, .ptr 3 0), (5, .sref 19), (64, .int .i64 (b2.up.length : Int)), (65, .int .i64 (i16 : Int))], [], [(2, (Z5 .rd a1).cells), (3, (Z5 .rd b2).cells)], [(19, ⟨1, v16.map eS, false⟩)]⟩) H (fun i16 x16 v16 I m k16 hxv16 hiv16 H N42 => ?_) (fun v16 I m H => ?_)
    .unfold Zv4 at H
     refine wP ?_
     refine wt (ltT hiv16) ?_
     obtain ⟨e17, h17, H⟩ := bB H
     refine wG [.u 71 (.ix _ _ _ fun _ => Z0 eBo (Z3 hxv16)), .g 77 [(_, true)] (.ix _ _ _ fun q => Z0 eBo (bT q.1 h17))] fun _ => ?_
     refine Zy6 (r := r) (Z12 a1 i16 x16 k16) 0 (fun v21 : (List Str) => ⟨[(2, .ptr 2 0), (3, .ptr 3 0), (5, .sref 19), (6, .int .i64 (i16 : Int)), (64, .int .i64 (b2.up.length : Int)), (65, .int .i64 (i16 : Int))], [], [(2, (Z5 .rd a1).cells), (3, (Z5 .rd b2).cells)], [(19, ⟨1, v21.map eS, false⟩)]⟩) (by kernel_rfl) (fun v21 H => ?_) (fun J34 => ?_)
     .unfold Z12 at H
      obtain ⟨e22, h22, H⟩ := bB H
      refine wG [.u 90 (.ix _ _ _ fun _ => Z0 eBo (Z3 hxv16)), .g 97 [(_, true)] (.ix _ _ _ fun q => Z0 eBo (bT q.1 h22))] fun _ => ?_
      refine Wh_iH H (fun H => ?_) fun H => ?_
      .obtain ⟨w23, h23, H⟩ := bB H
       obtain ⟨w24, h24, H⟩ := bB H
       obtain ⟨xs25, h25, H⟩ := bB H
       refine wG [.c 102 (Zw h23), .u 103 (.sa _ _ _ fun _ => h24), .u 105 (.ap _ _ _ _ fun _ => Zc eS h25), .w 106 (wi .i64 rfl hiv16 q15.1)] fun _ => ?_
       exact wT (N42 _ H)
      .refine wG [.w 106 (wi .i64 rfl hiv16 q15.1)] fun _ => ?_
       exact wT (N42 _ H)
     .refine Wh_iH H (fun H => ?_) fun H => ?_
      .obtain ⟨w18, h18, H⟩ := bB H
       obtain ⟨w19, h19, H⟩ := bB H
       obtain ⟨xs20, h20, H⟩ := bB H
       refine wG [.c 83 (Zw h18), .u 84 (.sa _ _ _ fun _ => h19), .u 86 (.ap _ _ _ _ fun _ => Zc eS h20)] fun _ => ?_
       exact wT (J34 _ H)
      .refine wP ?_
       exact wT (J34 _ H)
    .unfold Zs4 at H
     refine wP ?_
     refine wf (ltF b2.up.length) ?_
     obtain ⟨y26, h26, H⟩ := bB H
     refine wG [.c 108 (Zc2 h26), .u 109 (.ln _ _ fun _ => lm y26 eJob)] fun q27 => ?_
     refine wR (fun (i28 : Nat) (v28 : (List Str)) => ⟨[(2, .ptr 2 0), (3, .ptr 3 0), (5, .sref 19), (108, .sl .nw 11 (y26.map eJob)), (109, .int .i64 (y26.length : Int)), (110, .int .i64 (i28 : Int))], [], [(2, (Z5 .rd a1).cells), (3, (Z5 .rd b2).cells)], [(19, ⟨1, v28.map eS, false⟩)]⟩) H (fun i28 x28 v28 I m k28 hxv28 hiv28 H N64 => ?_) (fun v28 I m H => ?_)
     .unfold Zu4 at H
      refine wP ?_
      refine wt (ltT hiv28) ?_
      obtain ⟨y29, h29, H⟩ := bB H
      obtain ⟨y30, h30, H⟩ := bB H
      refine wG [.u 112 (.ix _ _ _ fun _ => Z0 eJob (Z3 hxv28)), .c 116 (Zc2 h29), .c 119 (Ze5 h30)] fun _ => ?_
      refine Wh_iH H (fun H => ?_) fun H => ?_
      .obtain ⟨w31, h31, H⟩ := bB H
       obtain ⟨w32, h32, H⟩ := bB H
       obtain ⟨xs33, h33, H⟩ := bB H
       refine wG [.c 127 (Zw h31), .u 128 (.sa _ _ _ fun _ => h32), .u 130 (.ap _ _ _ _ fun _ => Zc eS h33), .w 131 (wi .i64 rfl hiv28 q27.1)] fun _ => ?_
       exact wT (N64 _ H)
      .refine wG [.w 131 (wi .i64 rfl hiv28 q27.1)] fun _ => ?_
       exact wT (N64 _ H)
     .unfold Zr4 at H
      refine wP ?_
      refine wf (ltF y26.length) ?_
      obtain ⟨y34, h34, H⟩ := bB H
      refine wG [.c 133 (Zc2 h34), .u 134 (.ln _ _ fun _ => lm y34 eJob)] fun q35 => ?_
      refine wR (fun (i36 : Nat) (v36 : (List Str)) => ⟨[(2, .ptr 2 0), (3, .ptr 3 0), (5, .sref 19), (133, .sl .nw 11 (y34.map eJob)), (134, .int .i64 (y34.length : Int)), (135, .int .i64 (i36 : Int))], [], [(2, (Z5 .rd a1).cells), (3, (Z5 .rd b2).cells)], [(19, ⟨1, v36.map eS, false⟩)]⟩) H (fun i36 x36 v36 I m k36 hxv36 hiv36 H N86 => ?_) (fun v36 I m H => ?_)
      .unfold Zt4 at H
       refine wP ?_
       refine wt (ltT hiv36) ?_
       obtain ⟨y37, h37, H⟩ := bB H
       obtain ⟨y38, h38, H⟩ := bB H
       refine wG [.u 137 (.ix _ _ _ fun _ => Z0 eJob (Z3 hxv36)), .c 141 (Zc2 h37), .c 144 (Ze5 h38)] fun _ => ?_
       refine Wh_iH H (fun H => ?_) fun H => ?_
       .obtain ⟨w39, h39, H⟩ := bB H
        obtain ⟨w40, h40, H⟩ := bB H
        obtain ⟨xs41, h41, H⟩ := bB H
        refine wG [.c 152 (Zw h39), .u 153 (.sa _ _ _ fun _ => h40), .u 155 (.ap _ _ _ _ fun _ => Zc eS h41), .w 156 (wi .i64 rfl hiv36 q35.1)] fun _ => ?_
        exact wT (N86 _ H)
       .refine wG [.w 156 (wi .i64 rfl hiv36 q35.1)] fun _ => ?_
        exact wT (N86 _ H)
      .unfold Zq4 at H
       refine wP ?_
       refine wf (ltF y34.length) ?_
       refine wG [.u 159 (.ln _ _ fun _ => lm b2.runs (eRunT .rd))] fun q42 => ?_
       refine wR (fun (i43 : Nat) (v43 : (List Str)) => ⟨[(2, .ptr 2 0), (5, .sref 19), (158, .sl .rd 13 (b2.runs.map (eRunT .rd))), (159, .int .i64 (b2.runs.length : Int)), (160, .int .i64 (i43 : Int))], [], [(2, (Z5 .rd a1).cells)], [(19, ⟨1, v43.map eS, false⟩)]⟩) H (fun i43 x43 v43 I m k43 hxv43 hiv43 H N108 => ?_) (fun v43 I m H => ?_)
       .unfold ZO3 at H
        refine wP ?_
        refine wt (ltT hiv43) ?_
        obtain ⟨y44, h44, H⟩ := bB H
        refine wG [.u 162 (.ix _ _ _ fun _ => Z0 (eRunT .rd) (Z3 hxv43)), .c 170 (Ze5 h44)] fun _ => ?_
        refine Wh_iH H (fun H => ?_) fun H => ?_
        .obtain ⟨w45, h45, H⟩ := bB H
         obtain ⟨w46, h46, H⟩ := bB H
         obtain ⟨xs47, h47, H⟩ := bB H
         refine wG [.c 178 (Zw h45), .u 179 (.sa _ _ _ fun _ => h46), .u 181 (.ap _ _ _ _ fun _ => Zc eS h47), .w 182 (wi .i64 rfl hiv43 q42.1)] fun _ => ?_
         exact wT (N108 _ H)
        .refine wG [.w 182 (wi .i64 rfl hiv43 q42.1)] fun _ => ?_
         exact wT (N108 _ H)
       .unfold ZN6 at H
        refine wP ?_
        refine wf (ltF b2.runs.length) ?_
        refine wP ?_
        replace H := sI H; subst H
        exact wN [(4, .f)] [] [] [19] [] [⟨_, nw_S v43⟩]
   .refine Wh_iH H (fun H => ?_) fun H => ?_
    .obtain ⟨w11, h11, H⟩ := bB H
     obtain ⟨w12, h12, H⟩ := bB H
     obtain ⟨xs13, h13, H⟩ := bB H
     refine wG [.c 58 (Zd8 h11), .u 59 (.sa _ _ _ fun _ => h12), .u 61 (.ap _ _ _ _ fun _ => Zc eS h13)] fun _ => ?_
     exact wT (J117 _ H)
    .refine wP ?_
     exact wT (J117 _ H)
  .refine Wh_iH H (fun H => ?_) fun H => ?_
   .obtain ⟨w7, h7, H⟩ := bB H
    obtain ⟨w8, h8, H⟩ := bB H
    obtain ⟨xs9, h9, H⟩ := bB H
    refine wG [.c 46 (Zw h7), .u 47 (.sa _ _ _ fun _ => h8), .u 49 (.ap _ _ _ _ fun _ => Zc eS h9)] fun _ => ?_
    exact wT (J118 _ H)
   .refine wP ?_
    exact wT (J118 _ H)
def Z8b : L :=
sR [.bx 2 (.t 0),.mv 3 (cB false)]
 (sR [fA 4 2 0,lD 5 4 1 false,fA 6 1 0,fA 7 6 0,lD 8 7 1 false,bI 9 .eql 5 8,mV 3 9]
 gR)
def ZU2 (j1 : Job) (x2 : Run) : Option Bool :=
 some (j1.id == x2.job.id)
theorem ZS9 {j1 : Job} {x2 : Run} {r : Bool} (H : ZU2 j1 x2 = some r) : Snd Tryz.prog Zv1 [eJob j1, .ept (eRunT .rd x2) 0] (.bool r) [] := by
 refine wS Z8b [.t 3] ?_
 unfold ZU2 at H
 refine wP ?_
 replace H := sI H; subst H
 exact wE [(3, .d)]
def impl_Changes_1 (j1 : Job) (x2 : Run) : Bool :=
 (j1.id == x2.job.id)
theorem Zxc (j1 : Job) (x2 : Run) : ZU2 j1 x2 = some (impl_Changes_1 j1 x2) := by
 unfold ZU2 impl_Changes_1
 first | rfl | simp only [Zg]
theorem Zeb (j1 : Job) (x2 : Run) : Snd Tryz.prog Zv1 [eJob j1, .ept (eRunT .rd x2) 0] (.bool (impl_Changes_1 j1 x2)) [] := ZS9 (Zxc j1 x2)
def Zh1 : L :=
.seq (rE 4 (kI 0))
 (.seq (sR [mV 6 0,.ln 7 (.t 6),.mv 8 (kI 0)]
 (.blk 0 (.loop (.gw (sR [bI 9 .lss 8 7]
 (.seq (.cond (.t 9) .skip
 (.exit 0))
 (.seq (.blk 1 (sR [mV 10 8,mV 5 10]
 (sR [mV 11 1,mV 12 0,mV 13 5,iA 14 12 13 11,lD 15 14 11 true,.cc 16 (.t 11) [(.t 15)]]
 (.cond (.t 16) (sR [mV 17 5,mV 4 17]
 gR)
 .skip))))
 (.reg [.bi 18 .add (.t 8) (kI 1),mV 8 18]))))))))
 (.seq (rE 4 (kI (-1)))
 gR))
def Zr (c2 : Run) (x4 : Job) (i4 : Nat) (_ : Unit) (k4 : Unit -> Option Int) : Option Int :=
 bif (impl_Changes_1 x4 c2) then (some (i4 : Int)) else (k4 ())
def Zq (_ : Unit) : Option Int :=
 some (-1)
def Z9 (s1 : List Job) (c2 : Run) : Option Int :=
 rgl (Zr c2) Zq s1 0 ()
theorem Zf1 {s1 : List Job} {c2 : Run} {r : Int} (H : Z9 s1 c2 = some r) : Snd Tryz.prog Z7 [.sl .rd 11 (s1.map eJob), .fn Zv1 [.ept (eRunT .rd c2) 0]] (.int .i64 r) [] := by
 refine wS Zh1 [.t 4] ?_
 unfold Z9 at H
 refine wG [.u 7 (.ln _ _ fun _ => lm s1 eJob)] fun q3 => ?_
 refine wR (fun (i4 : Nat) (v4 : Unit) => ⟨[(0, .sl .rd 11 (s1.map eJob)), (1, .fn Zv1 [.ept (eRunT .rd c2) 0]), (7, .int .i64 (s1.length : Int)), (8, .int .i64 (i4 : Int))], [], [], []⟩) H (fun i4 x4 v4 I m k4 hxv4 hiv4 H N20 => ?_) (fun v4 I m H => ?_)
 .unfold Zr at H
  refine wP ?_
  refine wt (ltT hiv4) ?_
  refine wG [.u 14 (.ix _ _ _ fun _ => Z0 eJob (Z3 hxv4)), .u 16 (.clsr _ _ _ _ _ (AEs.refl _) (by kernel_rfl) (fun _ => Zeb x4 c2))] fun _ => ?_
  refine Wh_iH H (fun H => ?_) fun H => ?_
  .refine wP ?_
   replace H := sI H; subst H
   exact wE [(4, .d)]
  .refine wG [.w 18 (wi .i64 rfl hiv4 q3.1)] fun _ => ?_
   exact wT (N20 () H)
 .unfold Zq at H
  refine wP ?_
  refine wf (ltF s1.length) ?_
  refine wP ?_
  replace H := sI H; subst H
  exact wE [(4, .d)]
def Z41 : L :=
.seq (rE 4 (cB false))
 (sR [mV 5 0,mV 6 1,cQ 7 Z7 [5, 6],.bi 8 .geq (.t 7) (kI 0),mV 4 8]
 gR)
def Z2 (s1 : List Job) (c2 : Run) : Option Bool :=
 (Z9 s1 c2).bind fun n3 => some (decide (0 <= n3))
theorem Z01 {s1 : List Job} {c2 : Run} {r : Bool} (H : Z2 s1 c2 = some r) : Snd Tryz.prog Zh [.sl .rd 11 (s1.map eJob), .fn Zv1 [.ept (eRunT .rd c2) 0]] (.bool r) [] := by
 refine wS Z41 [.t 4] ?_
 unfold Z2 at H
 obtain ⟨n3, h3, H⟩ := bB H
 refine wG [.c 7 (Zf1 h3)] fun _ => ?_
 replace H := sI H; subst H
 exact wE [(4, .d)]
def ZYd : L :=
sR [.bx 2 (.t 0),.bx 3 (.t 1),.mv 4 (.c (.nl))]
 (.seq (sR [lD 14 2 11 true,cQ 15 ZJ6 [14],.un 16 (.t 15),mV 17 16,.g 17 false (lD 18 3 11 true),.g 17 false (cQ 19 ZJ6 [18]),.g 17 false (.un 20 (.t 19)),.pk 21 (.t 17) (cB true) (.t 20),mV 22 21,.g 22 false (fA 23 2 0),.g 22 false (lD 24 23 2 true),.g 22 false (fA 25 3 0),.g 22 false (lD 26 25 2 true),.g 22 false (cQ 27 ZS8 [24, 26]),.g 22 false (.un 28 (.t 27)),.pk 29 (.t 22) (cB true) (.t 28)]
 (.cond (.t 29) (sR [.mv 4 (.c (.nl))]
 gR)
 .skip))
 (sR [.bs 30 1 [] true,mV 5 30]
 (.seq (sR [fA 31 2 7,lD 32 31 1 false,fA 33 3 7,lD 34 33 1 false,bI 35 .neq 32 34]
 (.cond (.t 35) (.reg [mV 36 5,fA 37 3 7,lD 38 37 1 false,.bs 39 1 [(.t 38)] false,.cq 40 Zm1 [(.c (.str [110, 111, 119])), (.t 39)],.bs 41 1 [(.t 40)] false,.ap 42 (.t 36) (.t 41) 1 16,mV 5 42])
 .skip))
 (.gw (.seq (sR [fA 43 2 3,lD 44 43 3 true,fA 45 3 3,lD 46 45 3 true,.es 47 true [0, 0, 0] (.t 44) (.t 46)]
 (.cond (.t 47) (.reg [mV 48 5,fA 49 3 3,lD 50 49 3 true,cQ 51 ZA9 [50],.bs 52 1 [(.c (.str [108, 105, 99])), (.t 51)] false,cQ 53 ZJb [52],.bs 54 1 [(.t 53)] false,.ap 55 (.t 48) (.t 54) 1 16,mV 5 55])
 .skip))
 (.gw (.seq (sR [fA 56 3 2,lD 57 56 1 false,.ln 58 (.t 57),.mv 59 (kI 0)]
 (.blk 0 (.loop (.gw (sR [bI 60 .lss 59 58]
 (.seq (.cond (.t 60) .skip
 (.exit 0))
 (.seq (.blk 1 (sR [mV 61 59,iA 62 57 59 1,lD 63 62 1 false,mV 6 61,mV 7 63]
 (.blk 2 (sR [mV 65 7,mV 66 65,.g 66 true (fA 67 2 2),.g 66 true (lD 68 67 1 false),.g 66 true (mV 69 6),.g 66 true (iA 70 68 69 1),.g 66 true (lD 71 70 1 false),.g 66 true (.un 72 (.t 71)),.pk 73 (.t 66) (.t 72) (cB false),mV 64 73]
 (.cond (.t 64) (.reg [mV 74 5,mV 75 6,.bs 76 1 [(.t 75)] false,.cq 77 Zm1 [(.c (.str [117, 112])), (.t 76)],.bs 78 1 [(.t 77)] false,.ap 79 (.t 74) (.t 78) 1 16,mV 5 79])
 (sR [mV 81 7,.un 82 (.t 81),mV 83 82,.g 83 true (fA 84 2 2),.g 83 true (lD 85 84 1 false),.g 83 true (mV 86 6),.g 83 true (iA 87 85 86 1),.g 83 true (lD 88 87 1 false),.pk 89 (.t 83) (.t 88) (cB false),mV 80 89]
 (.cond (.t 80) (.reg [mV 90 5,mV 91 6,.bs 92 1 [(.t 91)] false,.cq 93 Zm1 [(.c (.str [100, 111, 119, 110])), (.t 92)],.bs 94 1 [(.t 93)] false,.ap 95 (.t 90) (.t 94) 1 16,mV 5 95])
 .skip)))))))
 (.reg [.bi 96 .add (.t 59) (kI 1),mV 59 96]))))))))
 (.seq (sR [lD 97 3 11 true,cQ 98 Zt1 [97],.ln 99 (.t 98),.mv 100 (kI 0)]
 (.blk 3 (.loop (.gw (sR [bI 101 .lss 100 99]
 (.seq (.cond (.t 101) .skip
 (.exit 3))
 (.seq (.blk 4 (sR [iA 102 98 100 11,lD 103 102 11 true,.al 9 [.int .i64 0, .int .i64 0, .int .i64 0, .int .i64 0, .int .i64 0, .int .i64 0, .int .i64 0, .int .i64 0, .int .i64 0, .int .i64 0, .int .i64 0],.st (.t 9) (.t 103) 11]
 (.seq (.rq 6 [lD 104 2 11 true,cQ 105 Zt1 [104],fA 106 9 0,lD 107 106 1 false,cQ 108 ZT8 [105, 107],.bi 109 .lss (.t 108) (kI 0)])
 (.cond (.t 109) (.reg [mV 110 5,fA 111 9 0,lD 112 111 1 false,.bs 113 1 [(.t 112)] false,.cq 114 Zm1 [(.c (.str [105, 110])), (.t 113)],.bs 115 1 [(.t 114)] false,.ap 116 (.t 110) (.t 115) 1 16,mV 5 116])
 .skip))))
 (.reg [.bi 117 .add (.t 100) (kI 1),mV 100 117]))))))))
 (.seq (sR [lD 118 2 11 true,cQ 119 Zt1 [118],.ln 120 (.t 119),.mv 121 (kI 0)]
 (.blk 5 (.loop (.gw (sR [bI 122 .lss 121 120]
 (.seq (.cond (.t 122) .skip
 (.exit 5))
 (.seq (.blk 6 (sR [iA 123 119 121 11,lD 124 123 11 true,.al 11 [.int .i64 0, .int .i64 0, .int .i64 0, .int .i64 0, .int .i64 0, .int .i64 0, .int .i64 0, .int .i64 0, .int .i64 0, .int .i64 0, .int .i64 0],.st (.t 11) (.t 124) 11]
 (.seq (.rq 6 [lD 125 3 11 true,cQ 126 Zt1 [125],fA 127 11 0,lD 128 127 1 false,cQ 129 ZT8 [126, 128],.bi 130 .lss (.t 129) (kI 0)])
 (.cond (.t 130) (.reg [mV 131 5,fA 132 11 0,lD 133 132 1 false,.bs 134 1 [(.t 133)] false,.cq 135 Zm1 [(.c (.str [111, 117, 116])), (.t 134)],.bs 136 1 [(.t 135)] false,.ap 137 (.t 131) (.t 136) 1 16,mV 5 137])
 .skip))))
 (.reg [.bi 138 .add (.t 121) (kI 1),mV 121 138]))))))))
 (.seq (sR [fA 139 3 9,lD 140 139 1 false,.ln 141 (.t 140),.mv 142 (kI 0)]
 (.blk 7 (.loop (.gw (sR [bI 143 .lss 142 141]
 (.seq (.cond (.t 143) .skip
 (.exit 7))
 (.seq (.blk 8 (sR [iA 144 140 142 13,lD 145 144 13 true,.al 13 [.int .i64 0, .int .i64 0, .int .i64 0, .int .i64 0, .int .i64 0, .int .i64 0, .int .i64 0, .int .i64 0, .int .i64 0, .int .i64 0, .int .i64 0, .int .i64 0, .nl],.st (.t 13) (.t 145) 13]
 (sR [.fb 13,fA 146 2 8,lD 147 146 1 false,.mf 148 Zv1 [(.t 13)],cQ 149 Zh [147, 148]]
 (.cond (.t 149) (.reg [mV 150 5,fA 151 13 0,fA 152 151 0,lD 153 152 1 false,.bs 154 1 [(.t 153)] false,.cq 155 Zm1 [(.c (.str [115, 116, 97, 114, 116, 115])), (.t 154)],.bs 156 1 [(.t 155)] false,.ap 157 (.t 150) (.t 156) 1 16,mV 5 157])
 .skip))))
 (.reg [.bi 158 .add (.t 142) (kI 1),mV 142 158]))))))))
 (sR [mV 159 5,mV 4 159]
 gR)))))))))))
def ZW3 (a1 : State) (x36 : Run) (_ : Nat) (v36 : (List Str)) (k36 : (List Str) -> Option (List Str)) : Option (List Str) :=
 (Z2 a1.queue x36).bind fun b37 => bif b37 then ((impl_numTexts ([115, 116, 97, 114, 116, 115] : Str) [x36.job.id]).bind fun w38 => (appL 16 v36 [w38]).bind fun xs39 => k36 xs39) else (k36 v36)
def Z47 (v36 : (List Str)) : Option (List Str) :=
 some v36
def ZG4 (b2 : State) (x30 : Job) (_ : Nat) (v30 : (List Str)) (k30 : (List Str) -> Option (List Str)) : Option (List Str) :=
 (impl_State_all b2).bind fun y31 => (impl_jobAt y31 x30.id).bind fun n32 => bif (decide (n32 < 0)) then ((impl_numTexts ([111, 117, 116] : Str) [x30.id]).bind fun w33 => (appL 16 v30 [w33]).bind fun xs34 => k30 xs34) else (k30 v30)
def ZD4 (a1 : State) (b2 : State) (v30 : (List Str)) : Option (List Str) :=
 rgl (ZW3 a1) Z47 b2.runs 0 v30
def ZH4 (a1 : State) (x23 : Job) (_ : Nat) (v23 : (List Str)) (k23 : (List Str) -> Option (List Str)) : Option (List Str) :=
 (impl_State_all a1).bind fun y24 => (impl_jobAt y24 x23.id).bind fun n25 => bif (decide (n25 < 0)) then ((impl_numTexts ([105, 110] : Str) [x23.id]).bind fun w26 => (appL 16 v23 [w26]).bind fun xs27 => k23 xs27) else (k23 v23)
def ZE4 (a1 : State) (b2 : State) (v23 : (List Str)) : Option (List Str) :=
 (impl_State_all a1).bind fun y28 => rgl (ZG4 b2) (ZD4 a1 b2) y28 0 v23
def ZI4 (a1 : State) (x14 : Bool) (i14 : Nat) (v14 : (List Str)) (k14 : (List Str) -> Option (List Str)) : Option (List Str) :=
 (bif x14 then (idx a1.up (i14 : Int)) else some default).bind fun e15 => bif (x14 && (!e15)) then ((impl_numTexts ([117, 112] : Str) [(i14 : Int)]).bind fun w16 => (appL 16 v14 [w16]).bind fun xs17 => k14 xs17) else ((bif (!x14) then (idx a1.up (i14 : Int)) else some default).bind fun e18 => bif ((!x14) && e18) then ((impl_numTexts ([100, 111, 119, 110] : Str) [(i14 : Int)]).bind fun w19 => (appL 16 v14 [w19]).bind fun xs20 => k14 xs20) else (k14 v14))
def ZF4 (a1 : State) (b2 : State) (v14 : (List Str)) : Option (List Str) :=
 (impl_State_all b2).bind fun y21 => rgl (ZH4 a1) (ZE4 a1 b2) y21 0 v14
def Zj1 (a1 : State) (b2 : State) (v12 : (List Str)) : Option (List Str) :=
 rgl (ZI4 a1) (ZF4 a1 b2) b2.up 0 v12
def Zi1 (a1 : State) (b2 : State) (v8 : (List Str)) : Option (List Str) :=
 bif (!(a1.lic.a == b2.lic.a && (a1.lic.b == b2.lic.b && (a1.lic.c == b2.lic.c && true)))) then ((impl_VecText b2.lic).bind fun w9 => (impl_words [([108, 105, 99] : Str), w9]).bind fun w10 => (appL 16 v8 [w10]).bind fun xs11 => (Zj1 a1 b2) xs11) else ((Zj1 a1 b2) v8)
def impl_Changes (a1 : State) (b2 : State) : Option (List Str) :=
 (impl_StateOk a1).bind fun b3 => (bif (!b3) then some default else (impl_StateOk b2)).bind fun b4 => (bif ((!b3) || (!b4)) then some default else (impl_sameTopo a1.topo b2.topo)).bind fun b5 => bif (((!b3) || (!b4)) || (!b5)) then (some []) else (bif (a1.now != b2.now) then ((impl_numTexts ([110, 111, 119] : Str) [b2.now]).bind fun w6 => (appL 16 ([] : List Str) [w6]).bind fun xs7 => (Zi1 a1 b2) xs7) else ((Zi1 a1 b2) []))
theorem ZA8 {a1 : State} {b2 : State} {r : (List Str)} (H : impl_Changes a1 b2 = some r) : Snd Tryz.prog ZK6 [Z5 .rd a1, Z5 .rd b2] (.sref 0) [⟨1, r.map eS, false⟩] := by
 refine wS ZYd [.t 4] ?_
 unfold impl_Changes at H
 obtain ⟨b3, h3, H⟩ := bB H
 obtain ⟨b4, h4, H⟩ := bB H
 obtain ⟨b5, h5, H⟩ := bB H
 refine wG [.c 15 (Zu8 h3), .g 19 [(_, false)] (.call _ _ _ _ _ (AEs.refl _) (fun q => Zu8 (bF q.1 h4))), .g 27 [(_, false)] (.call _ _ _ _ _ (AEs.refl _) (fun q => Zoc (bF q.1 h5)))] fun _ => ?_
 refine Wh_iH H (fun H => ?_) fun H => ?_
 .refine wP ?_
  replace H := sI H; subst H
  exact wN [(4, .d)] [] [] [] [none] []
 .refine wP ?_
  refine Zy6 (r := r) (Zi1 a1 b2) 0 (fun v8 : (List Str) => ⟨[(2, .ptr 2 0), (3, .ptr 3 0), (5, .sref 30)], [], [(2, (Z5 .rd a1).cells), (3, (Z5 .rd b2).cells)], [(30, ⟨1, v8.map eS, false⟩)]⟩) (by kernel_rfl) (fun v8 H => ?_) (fun J111 => ?_)
  .unfold Zi1 at H
   refine wP ?_
   refine Zy6 (r := r) (Zj1 a1 b2) 0 (fun v12 : (List Str) => ⟨[(2, .ptr 2 0), (3, .ptr 3 0), (5, .sref 30)], [], [(2, (Z5 .rd a1).cells), (3, (Z5 .rd b2).cells)], [(30, ⟨1, v12.map eS, false⟩)]⟩) (by kernel_rfl) (fun v12 H => ?_) (fun J110 => ?_)
   .unfold Zj1 at H
    refine wG [.u 58 (.ln _ _ fun _ => lm b2.up eBo)] fun q13 => ?_
    refine wR (fun (i14 : Nat) (v14 : (List Str)) => ⟨[(2, .ptr 2 0), (3, .ptr 3 0), (5, .sref 30), (57, .sl .rd 1 (b2.up.map eBo)), (58, .int .i64 (b2.up.length : Int)), (59, .int .i64 (i14 : Int))], [], [(2, (Z5 .rd a1).cells), (3, (Z5 .rd b2).cells)], [(30, ⟨1, v14.map eS, false⟩)]⟩) H (fun i14 x14 v14 I m k14 hxv14 hiv14 H N41 => ?_) (fun v14 I m H => ?_)
    .unfold ZI4 at H
     refine wP ?_
     refine wt (ltT hiv14) ?_
     obtain ⟨e15, h15, H⟩ := bB H
     refine wG [.u 62 (.ix _ _ _ fun _ => Z0 eBo (Z3 hxv14)), .g 70 [(_, true)] (.ix _ _ _ fun q => Z0 eBo (bT q.1 h15))] fun _ => ?_
     refine Wh_iH H (fun H => ?_) fun H => ?_
     .obtain ⟨w16, h16, H⟩ := bB H
      obtain ⟨xs17, h17, H⟩ := bB H
      refine wG [.c 77 (Zs1 h16), .u 79 (.ap _ _ _ _ fun _ => Zc eS h17), .w 96 (wi .i64 rfl hiv14 q13.1)] fun _ => ?_
      exact wT (N41 _ H)
     .obtain ⟨e18, h18, H⟩ := bB H
      refine wG [.g 87 [(_, true)] (.ix _ _ _ fun q => Z0 eBo (bT q.1 h18))] fun _ => ?_
      refine Wh_iH H (fun H => ?_) fun H => ?_
      .obtain ⟨w19, h19, H⟩ := bB H
       obtain ⟨xs20, h20, H⟩ := bB H
       refine wG [.c 93 (Zs1 h19), .u 95 (.ap _ _ _ _ fun _ => Zc eS h20), .w 96 (wi .i64 rfl hiv14 q13.1)] fun _ => ?_
       exact wT (N41 _ H)
      .refine wG [.w 96 (wi .i64 rfl hiv14 q13.1)] fun _ => ?_
       exact wT (N41 _ H)
    .unfold ZF4 at H
     refine wP ?_
     refine wf (ltF b2.up.length) ?_
     obtain ⟨y21, h21, H⟩ := bB H
     refine wG [.c 98 (ZO1 h21), .u 99 (.ln _ _ fun _ => lm y21 eJob)] fun q22 => ?_
     refine wR (fun (i23 : Nat) (v23 : (List Str)) => ⟨[(2, .ptr 2 0), (3, .ptr 3 0), (5, .sref 30), (98, .sl .nw 11 (y21.map eJob)), (99, .int .i64 (y21.length : Int)), (100, .int .i64 (i23 : Int))], [], [(2, (Z5 .rd a1).cells), (3, (Z5 .rd b2).cells)], [(30, ⟨1, v23.map eS, false⟩)]⟩) H (fun i23 x23 v23 I m k23 hxv23 hiv23 H N61 => ?_) (fun v23 I m H => ?_)
     .unfold ZH4 at H
      refine wP ?_
      refine wt (ltT hiv23) ?_
      obtain ⟨y24, h24, H⟩ := bB H
      obtain ⟨n25, h25, H⟩ := bB H
      refine wG [.u 102 (.ix _ _ _ fun _ => Z0 eJob (Z3 hxv23)), .c 105 (ZO1 h24), .c 108 (Zga h25)] fun _ => ?_
      refine Wh_iH H (fun H => ?_) fun H => ?_
      .obtain ⟨w26, h26, H⟩ := bB H
       obtain ⟨xs27, h27, H⟩ := bB H
       refine wG [.c 114 (Zs1 h26), .u 116 (.ap _ _ _ _ fun _ => Zc eS h27), .w 117 (wi .i64 rfl hiv23 q22.1)] fun _ => ?_
       exact wT (N61 _ H)
      .refine wG [.w 117 (wi .i64 rfl hiv23 q22.1)] fun _ => ?_
       exact wT (N61 _ H)
     .unfold ZE4 at H
      refine wP ?_
      refine wf (ltF y21.length) ?_
      obtain ⟨y28, h28, H⟩ := bB H
      refine wG [.c 119 (ZO1 h28), .u 120 (.ln _ _ fun _ => lm y28 eJob)] fun q29 => ?_
      refine wR (fun (i30 : Nat) (v30 : (List Str)) => ⟨[(2, .ptr 2 0), (3, .ptr 3 0), (5, .sref 30), (119, .sl .nw 11 (y28.map eJob)), (120, .int .i64 (y28.length : Int)), (121, .int .i64 (i30 : Int))], [], [(2, (Z5 .rd a1).cells), (3, (Z5 .rd b2).cells)], [(30, ⟨1, v30.map eS, false⟩)]⟩) H (fun i30 x30 v30 I m k30 hxv30 hiv30 H N81 => ?_) (fun v30 I m H => ?_)
      .unfold ZG4 at H
       refine wP ?_
       refine wt (ltT hiv30) ?_
       obtain ⟨y31, h31, H⟩ := bB H
       obtain ⟨n32, h32, H⟩ := bB H
       refine wG [.u 123 (.ix _ _ _ fun _ => Z0 eJob (Z3 hxv30)), .c 126 (ZO1 h31), .c 129 (Zga h32)] fun _ => ?_
       refine Wh_iH H (fun H => ?_) fun H => ?_
       .obtain ⟨w33, h33, H⟩ := bB H
        obtain ⟨xs34, h34, H⟩ := bB H
        refine wG [.c 135 (Zs1 h33), .u 137 (.ap _ _ _ _ fun _ => Zc eS h34), .w 138 (wi .i64 rfl hiv30 q29.1)] fun _ => ?_
        exact wT (N81 _ H)
       .refine wG [.w 138 (wi .i64 rfl hiv30 q29.1)] fun _ => ?_
        exact wT (N81 _ H)
      .unfold ZD4 at H
       refine wP ?_
       refine wf (ltF y28.length) ?_
       refine wG [.u 141 (.ln _ _ fun _ => lm b2.runs (eRunT .rd))] fun q35 => ?_
       refine wR (fun (i36 : Nat) (v36 : (List Str)) => ⟨[(2, .ptr 2 0), (5, .sref 30), (140, .sl .rd 13 (b2.runs.map (eRunT .rd))), (141, .int .i64 (b2.runs.length : Int)), (142, .int .i64 (i36 : Int))], [], [(2, (Z5 .rd a1).cells)], [(30, ⟨1, v36.map eS, false⟩)]⟩) H (fun i36 x36 v36 I m k36 hxv36 hiv36 H N101 => ?_) (fun v36 I m H => ?_)
       .unfold ZW3 at H
        refine wP ?_
        refine wt (ltT hiv36) ?_
        obtain ⟨b37, h37, H⟩ := bB H
        refine wG [.u 144 (.ix _ _ _ fun _ => Z0 (eRunT .rd) (Z3 hxv36)), .c 149 (Z01 h37)] fun _ => ?_
        refine Wh_iH H (fun H => ?_) fun H => ?_
        .obtain ⟨w38, h38, H⟩ := bB H
         obtain ⟨xs39, h39, H⟩ := bB H
         refine wG [.c 155 (Zs1 h38), .u 157 (.ap _ _ _ _ fun _ => Zc eS h39), .w 158 (wi .i64 rfl hiv36 q35.1)] fun _ => ?_
         exact wT (N101 _ H)
        .refine wG [.w 158 (wi .i64 rfl hiv36 q35.1)] fun _ => ?_
         exact wT (N101 _ H)
       .unfold Z47 at H
        refine wP ?_
        refine wf (ltF b2.runs.length) ?_
        refine wP ?_
        replace H := sI H; subst H
        exact wN [(4, .d)] [] [(30, some 30, 0)] [] [some 30] [⟨_, nw_S v36⟩]
   .refine Wh_iH H (fun H => ?_) fun H => ?_
    .obtain ⟨w9, h9, H⟩ := bB H
     obtain ⟨w10, h10, H⟩ := bB H
     obtain ⟨xs11, h11, H⟩ := bB H
     refine wG [.c 51 (Z1e h9), .c 53 (Zjh h10), .u 55 (.ap _ _ _ _ fun _ => Zc eS h11)] fun _ => ?_
     exact wT (J110 _ H)
    .refine wP ?_
     exact wT (J110 _ H)
  .refine Wh_iH H (fun H => ?_) fun H => ?_
   .obtain ⟨w6, h6, H⟩ := bB H
    obtain ⟨xs7, h7, H⟩ := bB H
    refine wG [.c 40 (Zs1 h6), .u 42 (.ap _ _ _ _ fun _ => Zc eS h7)] fun _ => ?_
    exact wT (J111 _ H)
   .refine wP ?_
    exact wT (J111 _ H)
def intsT (l : List Int) : Str := l.flatMap fun n => 32 :: Zo n
theorem Zpc {w : Str} {l : List Int} (hw : w.length <= 1048576) (h : l.length <= 1048576) : impl_numTexts w l = some (w ++ intsT l) := by
 unfold impl_numTexts
 rw [Zqg 11 (f := fun n => 32 :: Zo n) (fun x _ => by have := ZD x; simp; omega) (fun x hx i s k hs => by
  have := ZD x
  unfold ZS3
  rw [ZC (by simp; omega), bS, Zz8, bS, ZC (by simp; omega), bS]
  simp) (by omega)]
 rfl
theorem StateP.jobs {s : State} (h : StateP s) : s.queue.length + s.runs.length <= 60 /\ (∀ j ∈ s.queue, spec_JobOk j = true) := by
 have := h.queue
 unfold queueOk allJobs at this
 simp only [yD, decide_eq_true_eq, List.all_eq_true, List.length_append, List.length_map] at this
 exact ⟨this.1.1, fun j hj => this.1.2 j (List.mem_append.2 (.inl hj))⟩
theorem ZA1 {α β γ : Type} {bs : Nat} {bd : α -> Nat -> List β -> (List β -> Option γ) -> Option γ} {kk : List β -> Option γ} {f : α -> Nat -> Option β} : ∀ {l : List α} {i : Nat} {acc : List β},
  (∀ x j acc k, (x, j) ∈ l.zipIdx i -> (acc.length + 1) * bs <= 140737488355328 -> bd x j acc k = match f x j with | some w => k (acc ++ [w]) | none => k acc) -> (acc.length + l.length) * bs <= 140737488355328 ->
  rgl bd kk l i acc = kk (acc ++ (l.zipIdx i).filterMap fun q => f q.1 q.2)
 | [], _, _, _, _ => by simp [rgl]
 | x :: l, i, acc, h, hb => by
  have hm : (acc.length + 1) * bs <= 140737488355328 := Nat.le_trans (Nat.mul_le_mul_right _ (by simp)) hb
  rw [rgl, h x i acc _ (by simp [List.zipIdx_cons]) hm, List.zipIdx_cons, List.filterMap_cons]
  simp only
  have hr : ∀ y j acc k, (y, j) ∈ l.zipIdx (i + 1) -> (acc.length + 1) * bs <= 140737488355328 -> bd y j acc k = match f y j with | some w => k (acc ++ [w]) | none => k acc := fun y j acc k hy => h y j acc k (by rw [List.zipIdx_cons]; exact List.mem_cons_of_mem _ hy)
  cases hf : f x i with
  | none => exact ZA1 hr (Nat.le_trans (Nat.mul_le_mul_right _ (by simp)) hb)
  | some w =>
   simp only
   rw [ZA1 hr (Nat.le_trans (Nat.mul_le_mul_right _ (by simp; omega)) hb)]
   simp
theorem Z7k {α β : Type} (f : α -> Nat -> Option β) (l : List α) : ((l.zipIdx 0).filterMap fun q => f q.1 q.2).length <= l.length := by
 have := List.length_filterMap_le (fun q : α × Nat => f q.1 q.2) (l.zipIdx 0)
 simpa using this
theorem ZXh {α : Type} (p : α -> Bool) (l : List α) : ∃ r : Int, rgl (fun x (i : Nat) (_ : Unit) (k : Unit -> Option Int) => bif p x then some (i : Int) else k ()) (fun _ => some (-1)) l 0 () = some r /\ decide (0 <= r) = l.any p /\ decide (r < 0) = !l.any p := by
 refine Zx2 (fun i (_ : Unit) => ∀ y ∈ l.take i, p y = false) (fun o => ∃ r : Int, o = some r /\ decide (0 <= r) = l.any p /\ decide (r < 0) = !l.any p) (fun i x b k hx hI hk => ?_) (fun b hI => ?_) (by simp)
 .cases h : p x with
  | true => exact ⟨i, rfl, by rw [List.any_eq_true.2 ⟨x, yE hx, h⟩]; simp, by rw [List.any_eq_true.2 ⟨x, yE hx, h⟩]; simp⟩
  | false =>
   refine hk () fun y hy => ?_
   obtain ⟨hi, rfl⟩ := yB hx
   rw [List.take_succ_eq_append_getElem hi] at hy
   rcases List.mem_append.1 hy with hy | hy
   .exact hI y hy
   .rw [List.mem_singleton.1 hy]; exact h
 .rw [List.take_of_length_le (Nat.le_refl _)] at hI
  exact ⟨-1, rfl, by rw [List.any_eq_false.2 fun y hy => by rw [hI y hy]; simp]; rfl, by rw [List.any_eq_false.2 fun y hy => by rw [hI y hy]; simp]; rfl⟩
theorem ZYh {α : Type} [DecidableEq α] {bd : α -> Nat -> Unit -> (Unit -> Option Bool) -> Option Bool} {kk : Unit -> Option Bool} (s t : List α) (h : ∀ x i k, bd x i () k = (idx t (i : Int)).bind fun e => bif decide (x = e) then k () else some false) (hk : kk () = some true) :
  (bif ((s.length : Int) != (t.length : Int)) then some false else rgl bd kk s 0 ()) = some (decide (s = t)) := by
 by_cases hl : s.length = t.length
 .rw [hl, bne_self_eq_false, cond_false]
  refine Zx2 (fun i (_ : Unit) => s.take i = t.take i) (fun o => o = some (decide (s = t))) (fun i x b k hx hI hkk => ?_) (fun b hI => ?_) (by simp)
  .obtain ⟨hi, rfl⟩ := yB hx
   have hi' : i < t.length := by omega
   rw [h, Zf, yA hi', bS]
   by_cases e : s[i] = t[i]
   .rw [decide_eq_true e, cond_true]
    exact hkk () (by rw [List.take_succ_eq_append_getElem hi, List.take_succ_eq_append_getElem hi', hI, e])
   .rw [decide_eq_false e, cond_false, decide_eq_false]
    intro q; subst q; exact e rfl
  .rw [List.take_of_length_le (Nat.le_refl _), List.take_of_length_le (by omega)] at hI
   rw [hk, decide_eq_true hI]
 .have : ((s.length : Int) != (t.length : Int)) = true := by simp; omega
  rw [this, cond_true, decide_eq_false]
  intro q; subst q; exact hl rfl
theorem ZWi (s t : List Int) : slices_Equal_int_int s t = some (decide (s = t)) := ZYh s t (fun x i k => by
 unfold ZK1
 cases idx t (i : Int) with
 | none => rfl
 | some e =>
  simp only [bS]
  by_cases h : x = e
  .subst h; simp
  .have : (x != e) = true := by simpa using h
   rw [this]; simp [h]) rfl
theorem ZUh (s t : List Node) : slices_Equal_impl_Node_impl_Node s t = some (decide (s = t)) := ZYh s t (fun x i k => by
 unfold ZH
 cases idx t (i : Int) with
 | none => rfl
 | some e =>
  simp only [bS]
  by_cases h : x = e
  .subst h; simp
  .have : (x.leaf == e.leaf && (x.cap.a == e.cap.a && (x.cap.b == e.cap.b && (x.cap.c == e.cap.c && true)))) = false := by
    rw [Bool.eq_false_iff]
    intro q
    simp at q
    obtain ⟨q1, q2, q3, q4⟩ := q
    apply h
    obtain ⟨xl, ⟨xa, xb, xc⟩⟩ := x
    obtain ⟨el, ⟨ea, eb, ec⟩⟩ := e
    simp at q1 q2 q3 q4
    subst q1; subst q2; subst q3; subst q4; rfl
   rw [this]; simp [h]) rfl
theorem ZVi (s t : Topo) : impl_sameTopo s t = some (decide (s = t)) := by
 unfold impl_sameTopo
 rw [ZWi, bS]
 by_cases h : s.parents = t.parents
 .rw [decide_eq_true h, cond_true, ZUh, bS]
  congr 1
  rw [Bool.true_and]
  rw [Bool.eq_iff_iff, decide_eq_true_eq, decide_eq_true_eq]
  exact ⟨fun q => by cases s; cases t; simp_all, fun q => by rw [q]⟩
 .rw [decide_eq_false h, cond_false]
  have : ¬ s = t := fun q => h (by rw [q])
  rw [decide_eq_false this]; rfl
def hasJob (l : List Job) (id : Int) : Bool := l.any fun y => y.id == id
theorem ZL9 (l : List Job) (id : Int) : ∃ y, spec_l05Find l id = some y /\ y.2 = hasJob l id := by
 unfold spec_l05Find hasJob
 refine Zx2 (fun i (_ : Unit) => ∀ y ∈ l.take i, (y.id == id) = false) (fun o => ∃ y : Job × Bool, o = some y /\ y.2 = l.any fun y => y.id == id) (fun i x b k hx hI hk => ?_) (fun b hI => ?_) (by simp)
 .unfold Zh4
  cases h : (x.id == id) with
  | true => exact ⟨(x, true), rfl, by rw [List.any_eq_true.2 ⟨x, yE hx, h⟩]⟩
  | false =>
   refine hk () fun y hy => ?_
   obtain ⟨hi, rfl⟩ := yB hx
   rw [List.take_succ_eq_append_getElem hi] at hy
   rcases List.mem_append.1 hy with hy | hy
   .exact hI y hy
   .rw [List.mem_singleton.1 hy]; exact h
 .rw [List.take_of_length_le (Nat.le_refl _)] at hI
  exact ⟨_, rfl, by rw [List.any_eq_false.2 fun y hy => by rw [hI y hy]; simp]⟩
theorem Zoi (l : List Job) (id : Int) : ∃ r, impl_jobAt l id = some r /\ decide (0 <= r) = hasJob l id /\ decide (r < 0) = !hasJob l id := by
 obtain ⟨r, h1, h2, h3⟩ := ZXh (fun y : Job => y.id == id) l
 refine ⟨r, ?_, h2, h3⟩
 unfold impl_jobAt
 rw [show Zb l id = some r from h1]
 rfl
theorem Z5j (l : List Job) (x : Run) : Z2 l x = some (hasJob l x.job.id) := by
 obtain ⟨r, h1, h2, _⟩ := ZXh (fun y : Job => y.id == x.job.id) l
 unfold Z2
 rw [show Z9 l x = some r from h1, bS, h2]
 rfl
theorem numTexts1 {w : Str} (hw : w.length <= 100) (n : Int) : impl_numTexts w [n] = some (w ++ 32 :: Zo n) := by
 rw [Zpc (by omega) (by simp)]
 simp [intsT]
theorem cat1 {w : Str} (hw : w.length <= 100) (n : Int) : catS w (Zo n) = some (w ++ Zo n) := by
 have := ZD n
 exact ZC (by omega)
def chUp (a : State) (x : Bool) (i : Nat) : Option Str := bif x && !((a.up[i]?).getD false) then some ([117, 112, 32] ++ Zo i) else bif !x && (a.up[i]?).getD false then some ([100, 111, 119, 110, 32] ++ Zo i) else none
def chJob (w : Str) (l : List Job) (j : Job) (_ : Nat) : Option Str := bif !hasJob l j.id then some (w ++ Zo j.id) else none
def chRun (l : List Job) (x : Run) (_ : Nat) : Option Str := bif hasJob l x.job.id then some ([115, 116, 97, 114, 116, 115, 32] ++ Zo x.job.id) else none
def gath {α : Type} (f : α -> Nat -> Option Str) (l : List α) : List Str := (l.zipIdx 0).filterMap fun q => f q.1 q.2
def Z1g (a b : State) (v : List Str) : List Str := v ++ gath (chUp a) b.up ++ gath (chJob [105, 110, 32] (allJobs a)) (allJobs b) ++ gath (chJob [111, 117, 116, 32] (allJobs b)) (allJobs a) ++ gath (chRun a.queue) b.runs
def chLic (a b : State) : List Str := bif !(a.lic.a == b.lic.a && (a.lic.b == b.lic.b && (a.lic.c == b.lic.c && true))) then [[108, 105, 99, 32] ++ ZV1 b.lic] else []
theorem Zo7 {α : Type} (f : α -> Nat -> Option Str) (l : List α) : (gath f l).length <= l.length := Z7k f l
section
variable {a b : State} (ha : a.queue.length + a.runs.length <= 60) (hb : b.queue.length + b.runs.length <= 60) (hu : b.up.length <= 24) (hua : a.up.length = b.up.length)
include ha hb hu hua
omit ha hb hu hua in
theorem Zjl (s : State) : (allJobs s).length = s.queue.length + s.runs.length := by simp [allJobs]
theorem Zal {v : List Str} (hv : v.length <= 10) : Zd1 a b v = some (Z1g a b v) /\ Zj1 a b v = some (Z1g a b v) := by
 have la := Zjl a
 have lb := Zjl b
 have hup : ∀ {x : Bool} {j : Nat}, (x, j) ∈ b.up.zipIdx 0 -> idx a.up (j : Int) = some ((a.up[j]?).getD false) := fun {x j} h => by
  have := List.mem_zipIdx_iff_getElem?.1 h
  have hj : j < a.up.length := by rw [hua]; exact (yB this).1
  rw [Zf, yA hj]; rfl
 have w : ∀ {n : Nat} {l : List Str} {x : Str}, (l.length + 1) * 16 <= 140737488355328 -> appL 16 l [x] = some (l ++ [x]) := fun h => Zm (by simpa using h)
 have e1 := Zo7 (chUp a) b.up
 have e2 := Zo7 (chJob [105, 110, 32] (allJobs a)) (allJobs b)
 have e3 := Zo7 (chJob [111, 117, 116, 32] (allJobs b)) (allJobs a)
 constructor
 .unfold Zd1
  rw [ZA1 (bs := 16) (f := chUp a) (fun x j acc k hm hl => by
   unfold Zv4 Z12 chUp
   rw [hup hm]
   cases x <;> cases (a.up[j]?).getD false <;> simp [ZO, cat1, w (n := 0) hl]) (by omega)]
  unfold Zs4
  rw [ZN (by omega), bS, ZA1 (bs := 16) (f := chJob [105, 110, 32] (allJobs a)) (fun x j acc k hm hl => by
   obtain ⟨y, y1, y2⟩ := ZL9 (allJobs a) x.id
   unfold Zu4 chJob
   rw [ZN (by omega), bS, y1, bS, y2]
   cases hasJob (allJobs a) x.id <;> simp [ZO, cat1, w (n := 0) hl]) (by simp only [List.length_append, gath] at *; omega)]
  unfold Zr4
  rw [ZN (by omega), bS, ZA1 (bs := 16) (f := chJob [111, 117, 116, 32] (allJobs b)) (fun x j acc k hm hl => by
   obtain ⟨y, y1, y2⟩ := ZL9 (allJobs b) x.id
   unfold Zt4 chJob
   rw [ZN (by omega), bS, y1, bS, y2]
   cases hasJob (allJobs b) x.id <;> simp [ZO, cat1, w (n := 0) hl]) (by simp only [List.length_append, gath] at *; omega)]
  unfold Zq4
  rw [ZA1 (bs := 16) (f := chRun a.queue) (fun x j acc k hm hl => by
   obtain ⟨y, y1, y2⟩ := ZL9 a.queue x.job.id
   unfold ZO3 chRun
   rw [y1, bS, y2]
   cases hasJob a.queue x.job.id <;> simp [ZO, cat1, w (n := 0) hl]) (by simp only [List.length_append, gath] at *; omega)]
  rfl
 .unfold Zj1
  rw [ZA1 (bs := 16) (f := chUp a) (fun x j acc k hm hl => by
   unfold ZI4 chUp
   rw [hup hm]
   cases x <;> cases (a.up[j]?).getD false <;> simp [numTexts1, w (n := 0) hl]) (by omega)]
  unfold ZF4
  rw [ZP1, ZN (by omega), bS, ZA1 (bs := 16) (f := chJob [105, 110, 32] (allJobs a)) (fun x j acc k hm hl => by
   obtain ⟨y, y1, _, y2⟩ := Zoi (allJobs a) x.id
   unfold ZH4 chJob
   rw [ZP1, ZN (by omega), bS, y1, bS, y2]
   cases hasJob (allJobs a) x.id <;> simp [numTexts1, w (n := 0) hl]) (by simp only [List.length_append, gath] at *; omega)]
  unfold ZE4
  rw [ZP1, ZN (by omega), bS, ZA1 (bs := 16) (f := chJob [111, 117, 116, 32] (allJobs b)) (fun x j acc k hm hl => by
   obtain ⟨y, y1, _, y2⟩ := Zoi (allJobs b) x.id
   unfold ZG4 chJob
   rw [ZP1, ZN (by omega), bS, y1, bS, y2]
   cases hasJob (allJobs b) x.id <;> simp [numTexts1, w (n := 0) hl]) (by simp only [List.length_append, gath] at *; omega)]
  unfold ZD4
  rw [ZA1 (bs := 16) (f := chRun a.queue) (fun x j acc k hm hl => by
   unfold ZW3 chRun
   rw [Z5j, bS]
   cases hasJob a.queue x.job.id <;> simp [numTexts1, w (n := 0) hl]) (by simp only [List.length_append, gath] at *; omega)]
  rfl
theorem ch_lic {v : List Str} (hv : v.length <= 9) : Zc1 a b v = some (Z1g a b (v ++ chLic a b)) /\ Zi1 a b v = some (Z1g a b (v ++ chLic a b)) := by
 have hw := ZE9 b.lic
 have ec : catS [108, 105, 99, 32] (ZV1 b.lic) = some ([108, 105, 99, 32] ++ ZV1 b.lic) := ZC (by simp; omega)
 have ew : impl_words [[108, 105, 99], ZV1 b.lic] = some ([108, 105, 99, 32] ++ ZV1 b.lic) := by
  rw [Zkh _ (by simp [joinW]; omega)]
  simp [joinW]
 unfold Zc1 Zi1 chLic
 cases (a.lic.a == b.lic.a && (a.lic.b == b.lic.b && (a.lic.c == b.lic.c && true))) with
 | true =>
  rw [Bool.not_true, cond_false, cond_false, cond_false, List.append_nil]
  exact Zal ha hb hu hua (by omega)
 | false =>
  rw [Bool.not_false, cond_true, cond_true, cond_true, Zg5, Z2e, bS, bS, ec, ew, bS, bS, Zm (by simp; omega), bS]
  exact Zal ha hb hu hua (by simp; omega)
end
theorem Z0g {a b : State} (ha : a.queue.length + a.runs.length <= 60) (hb : b.queue.length + b.runs.length <= 60) (hu : b.up.length <= 24) {v : List Str} (hv : v.length <= 10) : (Z1g a b v).length <= 1000 := by
 have e1 := Zo7 (chUp a) b.up
 have e2 := Zo7 (chJob [105, 110, 32] (allJobs a)) (allJobs b)
 have e3 := Zo7 (chJob [111, 117, 116, 32] (allJobs b)) (allJobs a)
 have e4 := Zo7 (chRun a.queue) b.runs
 have la : (allJobs a).length = a.queue.length + a.runs.length := by simp [allJobs]
 have lb : (allJobs b).length = b.queue.length + b.runs.length := by simp [allJobs]
 unfold Z1g
 simp only [List.length_append]
 omega
theorem Zbk {a b : State} (ha : a.queue.length + a.runs.length <= 1048576) (hb : b.queue.length + b.runs.length <= 1048576) : ∃ l, spec_Changes a b = some l /\ impl_Changes a b = some l /\ l.length <= 1048576 := by
 unfold spec_Changes impl_Changes
 rw [(Z69 ha).1, (Z69 ha).2, (Z69 hb).1, (Z69 hb).2]
 cases hoa : ZG9 a with
 | false => exact ⟨[], rfl, rfl, by simp⟩
 | true => cases hob : ZG9 b with
  | false => exact ⟨[], rfl, rfl, by simp⟩
  | true =>
   have A := ZOh hoa
   have B := ZOh hob
   simp only [bS, Bool.not_true, cond_false, Bool.false_or, ZWb, ZVi]
   by_cases h : a.topo = b.topo
   .have l1 := A.jobs.1
    have l2 := B.jobs.1
    have l3 : b.up.length <= 24 := by have := B.topo.nodes; have := B.up; omega
    have l4 : a.up.length = b.up.length := by rw [A.up, B.up, h]
    have hn := ZD b.now
    rw [h, bne_self_eq_false, decide_eq_true rfl, cond_false, Bool.not_true, cond_false]
    cases a.now != b.now with
    | false =>
     rw [cond_false, cond_false]
     obtain ⟨q1, q2⟩ := ch_lic l1 l2 l3 l4 (v := []) (by simp)
     exact ⟨_, q1, q2, by have := Z0g l1 l2 l3 (v := [] ++ chLic a b) (by unfold chLic; cases (!(a.lic.a == b.lic.a && (a.lic.b == b.lic.b && (a.lic.c == b.lic.c && true)))) <;> simp); omega⟩
    | true =>
     rw [cond_true, cond_true, ZO, numTexts1 (by simp), bS, bS, cat1 (by simp), bS, Zm (by simp), Zm (by simp), bS, bS]
     obtain ⟨q1, q2⟩ := ch_lic l1 l2 l3 l4 (v := [[110, 111, 119, 32] ++ Zo b.now]) (by simp)
     exact ⟨_, q1, q2, by have := Z0g l1 l2 l3 (v := [[110, 111, 119, 32] ++ Zo b.now] ++ chLic a b) (by unfold chLic; cases (!(a.lic.a == b.lic.a && (a.lic.b == b.lic.b && (a.lic.c == b.lic.c && true)))) <;> simp); omega⟩
   .have e : (Z87 a.topo != Z87 b.topo) = true := by
     rw [bne_iff_ne]
     exact fun q => h (ZNh (ZC1.2 A.topo) (ZC1.2 B.topo) q)
    rw [e, decide_eq_false h, cond_true, Bool.not_false, cond_true]
    exact ⟨[], rfl, rfl, by simp⟩
end Go.Proofs.YtndemhaoilhbbaaGreat
namespace Go.Proofs.YtndemhaoilhbbaaGreat
open Go Go.RowKit Eng
def ZZg : L :=
sR [.bx 1 (.t 0),.al 2 [.int .i64 0, .int .i64 0, .int .i64 0]]
 (sR [.al 3 [.int .i64 0, .int .i64 0, .int .i64 0]]
 (sR [fA 4 1 0,lD 5 4 1 false,fA 6 3 0,.st (.t 6) (.t 5) 1]
 (sR [fA 7 1 1,lD 8 7 1 false,fA 9 3 1,.st (.t 9) (.t 8) 1]
 (sR [fA 10 1 2,lD 11 10 1 false,fA 12 3 2,.st (.t 12) (.t 11) 1]
 (sR [lD 13 3 3 true,.st (.t 2) (.t 13) 3]
 gR)))))
def ZT5 (a1 : Vec) : Option Vec :=
 some a1
theorem Z6d {a1 : Vec} {r : Vec} (H : ZT5 a1 = some r) : Snd Tryz.prog Z53 [eVec a1] (eVec r) [] := by
 refine wS ZZg [.c 2 3 true] ?_
 unfold ZT5 at H
 refine wP ?_
 replace H := sI H; subst H
 exact wN [(2, .d)] [(2, [])] [] [] [] []
def laws_toVec (a1 : Vec) : Vec :=
 a1
theorem Zhi (a1 : Vec) : ZT5 a1 = some (laws_toVec a1) := by
 unfold ZT5 laws_toVec
 first | rfl | simp only [Zg]
theorem ZX4 (a1 : Vec) : Snd Tryz.prog Z53 [eVec a1] (eVec (laws_toVec a1)) [] := Z6d (Zhi a1)
def Z4h : L :=
sR [.bx 2 (.t 0),.bx 3 (.t 1),.mv 4 (cB false)]
 (.seq (sR [fA 5 2 0,lD 6 5 1 false,fA 7 3 0,lD 8 7 1 false,bI 9 .neq 6 8]
 (.cond (.t 9) (.seq (rE 4 (cB false))
 gR)
 .skip))
 (.seq (sR [fA 10 2 1,lD 11 10 1 false,fA 12 3 1,lD 13 12 1 false,bI 14 .neq 11 13]
 (.cond (.t 14) (.seq (rE 4 (cB false))
 gR)
 .skip))
 (.seq (sR [fA 15 2 2,lD 16 15 1 false,fA 17 3 2,lD 18 17 1 false,bI 19 .neq 16 18]
 (.cond (.t 19) (.seq (rE 4 (cB false))
 gR)
 .skip))
 (.seq (rE 4 (cB true))
 gR))))
def ZX5 (a1 : Vec) (b2 : Vec) : Option Bool :=
 bif (a1.a != b2.a) then (some false) else (bif (a1.b != b2.b) then (some false) else (bif (a1.c != b2.c) then (some false) else (some true)))
theorem Zid {a1 : Vec} {b2 : Vec} {r : Bool} (H : ZX5 a1 b2 = some r) : Snd Tryz.prog Z63 [eVec a1, eVec b2] (.bool r) [] := by
 refine wS Z4h [.t 4] ?_
 unfold ZX5 at H
 refine wP ?_
 refine Wh_iH H (fun H => ?_) fun H => ?_
 .refine wP ?_
  replace H := sI H; subst H
  exact wE [(4, .d)]
 .refine wP ?_
  refine Wh_iH H (fun H => ?_) fun H => ?_
  .refine wP ?_
   replace H := sI H; subst H
   exact wE [(4, .d)]
  .refine wP ?_
   refine Wh_iH H (fun H => ?_) fun H => ?_
   .refine wP ?_
    replace H := sI H; subst H
    exact wE [(4, .d)]
   .refine wP ?_
    replace H := sI H; subst H
    exact wE [(4, .d)]
def laws_eqVec (a1 : Vec) (b2 : Vec) : Bool :=
 bif (a1.a != b2.a) then (false) else (bif (a1.b != b2.b) then (false) else (bif (a1.c != b2.c) then (false) else (true)))
theorem Zli (a1 : Vec) (b2 : Vec) : ZX5 a1 b2 = some (laws_eqVec a1 b2) := by
 unfold ZX5 laws_eqVec
 first | rfl | simp only [Zg]
theorem Z35 (a1 : Vec) (b2 : Vec) : Snd Tryz.prog Z63 [eVec a1, eVec b2] (.bool (laws_eqVec a1 b2)) [] := Zid (Zli a1 b2)
def Z4b : L :=
.seq (rE 4 (cB false))
 (.seq (sR [mV 6 0,.ln 7 (.t 6),mV 8 1,.ln 9 (.t 8),bI 10 .neq 7 9]
 (.cond (.t 10) (.seq (rE 4 (cB false))
 gR)
 .skip))
 (.seq (.seq (rE 5 (kI 0))
 (.blk 0 (.loop (.gw (.seq (sR [mV 11 5,mV 12 0,.ln 13 (.t 12),bI 14 .lss 11 13]
 (.cond (.t 14) .skip
 (.exit 0)))
 (.seq (.blk 1 (.seq (.rq 9 [mV 17 0,mV 18 5,iA 19 17 18 1,lD 20 19 1 false,mV 21 1,mV 22 5,iA 23 21 22 1,lD 24 23 1 false,bI 25 .neq 20 24])
 (.cond (.t 25) (.seq (rE 4 (cB false))
 gR)
 .skip)))
 (.reg [mV 15 5,.bi 16 .add (.t 15) (kI 1),mV 5 16])))))))
 (.seq (rE 4 (cB true))
 gR)))
def Za2 (a1 : List Str) (b2 : List Str) (v4 : Int) (k4 : Int -> Option Bool) : Option Bool :=
 bif (decide (v4 < (a1.length : Int))) then ((idx a1 v4).bind fun e6 => (idx b2 v4).bind fun e7 => bif (e6 != e7) then (some false) else (k4 (w64 (v4 + 1)))) else (some true)
def laws_eqStringS (a1 : List Str) (b2 : List Str) : Option Bool :=
 bif ((a1.length : Int) != (b2.length : Int)) then (some false) else (whl (Za2 a1 b2) 9223372036854775807 0)
theorem ZR3 {a1 : List Str} {b2 : List Str} {r : Bool} (H : laws_eqStringS a1 b2 = some r) : Snd Tryz.prog ZW2 [.sl .rd 1 (a1.map eS), .sl .rd 1 (b2.map eS)] (.bool r) [] := by
 refine wS Z4b [.t 4] ?_
 unfold laws_eqStringS at H
 refine wG [.u 7 (.ln _ _ fun _ => lm a1 eS), .u 9 (.ln _ _ fun _ => lm b2 eS)] fun q3 => ?_
 refine Wh_iH H (fun H => ?_) fun H => ?_
 .refine wP ?_
  replace H := sI H; subst H
  exact wE [(4, .d)]
 .refine wP ?_
  refine wW (fun (v4 : Int) => ⟨[(0, .sl .rd 1 (a1.map eS)), (1, .sl .rd 1 (b2.map eS)), (5, .int .i64 v4)], [], [], []⟩) H (fun v4 I m k4 H N25 => ?_)
  unfold Za2 at H
  refine wG [.u 13 (.ln _ _ fun _ => lm a1 eS)] fun q5 => ?_
  refine Wh_iH H (fun H => ?_) fun H => ?_
  .obtain ⟨e6, h6, H⟩ := bB H
   obtain ⟨e7, h7, H⟩ := bB H
   refine wG [.u 19 (.ix _ _ _ fun _ => Z0 eS h6), .u 23 (.ix _ _ _ fun _ => Z0 eS h7)] fun _ => ?_
   refine Wh_iH H (fun H => ?_) fun H => ?_
   .refine wP ?_
    replace H := sI H; subst H
    exact wE [(4, .d)]
   .refine wP ?_
    exact wT (N25 _ H)
  .refine wP ?_
   replace H := sI H; subst H
   exact wE [(4, .d)]
def Zaf : L :=
sR [.mv 2 (.c (.nl))]
 (sR [mV 5 0,.ln 6 (.t 5),.ms 7 1 8 [.int .i64 0] (.t 6),mV 3 7]
 (.seq (.seq (rE 4 (kI 0))
 (.blk 0 (.loop (.gw (.seq (sR [mV 8 4,mV 9 0,.ln 10 (.t 9),bI 11 .lss 8 10]
 (.cond (.t 11) .skip
 (.exit 0)))
 (.seq (.blk 1 (.reg [mV 14 3,mV 15 4,mV 16 0,mV 17 4,iA 18 16 17 1,lD 19 18 1 false,iA 20 14 15 1,.st (.t 20) (.t 19) 1]))
 (.reg [mV 12 4,.bi 13 .add (.t 12) (kI 1),mV 4 13])))))))
 (sR [mV 21 3,mV 2 21]
 gR)))
def Zg3 (a1 : List Int) (v4 : Int × (List Int)) (k4 : (Int × (List Int)) -> Option (List Int)) : Option (List Int) :=
 bif (decide (v4.1 < (a1.length : Int))) then ((idx a1 v4.1).bind fun e6 => (idx v4.2 v4.1).bind fun _ => k4 ((w64 (v4.1 + 1)), (v4.2.set v4.1.toNat e6))) else (some v4.2)
def laws_toIntS (a1 : List Int) : Option (List Int) :=
 (mkL 8 (a1.length : Int) 0).bind fun xs2 => whl (Zg3 a1) 9223372036854775807 (0, xs2)
theorem Zi9 {a1 : List Int} {r : (List Int)} (H : laws_toIntS a1 = some r) : Snd Tryz.prog Zz7 [.sl .rd 1 (a1.map eI)] (.sl .nw 1 (r.map eI)) [] := by
 refine wS Zaf [.t 2] ?_
 unfold laws_toIntS at H
 obtain ⟨xs2, h2, H⟩ := bB H
 refine wG [.u 6 (.ln _ _ fun _ => lm a1 eI), .u 7 (.ms _ _ _ _ fun _ => ZWa eI h2)] fun q3 => ?_
 refine wW (fun (v4 : Int × (List Int)) => ⟨[(0, .sl .rd 1 (a1.map eI)), (3, .sref 7), (4, .int .i64 v4.1)], [], [], [(7, ⟨1, v4.2.map eI, false⟩)]⟩) H (fun v4 I m k4 H N13 => ?_)
 unfold Zg3 at H
 refine wG [.u 10 (.ln _ _ fun _ => lm a1 eI)] fun q5 => ?_
 refine Wh_iH H (fun H => ?_) fun H => ?_
 .obtain ⟨e6, h6, H⟩ := bB H
  obtain ⟨e7, h7, H⟩ := bB H
  refine wG [.u 18 (.ix _ _ _ fun _ => Z0 eI h6), .u 20 (.ix _ _ _ fun _ => Z0 eI h7), .u 1000000 (.sto _ _ _ (eI e6) _ (fun _ => gm eI (ZA2 h7)) (fun _ => Zm8 ..))] fun _ => ?_
  exact wT (N13 _ H)
 .refine wP ?_
  replace H := sI H; subst H
  exact wN [(2, .f)] [] [] [7] [] [⟨_, nw_I v4.2⟩]
def Z8f : L :=
sR [.bx 1 (.t 0),.al 2 [.int .i64 0, .int .i64 0, .int .i64 0, .int .i64 0]]
 (sR [.al 3 [.int .i64 0, .int .i64 0, .int .i64 0, .int .i64 0]]
 (sR [fA 4 1 0,lD 5 4 1 false,fA 6 3 0,.st (.t 6) (.t 5) 1]
 (sR [fA 7 1 1,lD 8 7 3 true,cQ 9 Z53 [8],fA 10 3 1,.st (.t 10) (.t 9) 3]
 (sR [lD 11 3 4 true,.st (.t 2) (.t 11) 4]
 gR))))
def ZY4 (a1 : Node) : Option Node :=
 some (Node.mk a1.leaf (laws_toVec a1.cap))
theorem ZYb {a1 : Node} {r : Node} (H : ZY4 a1 = some r) : Snd Tryz.prog Zy7 [eNode a1] (eNode r) [] := by
 refine wS Z8f [.c 2 4 true] ?_
 unfold ZY4 at H
 refine wG [.c 9 (ZX4 a1.cap)] fun _ => ?_
 replace H := sI H; subst H
 exact wN [(2, .d)] [(2, [])] [] [] [] []
def laws_toNode (a1 : Node) : Node :=
 (Node.mk a1.leaf (laws_toVec a1.cap))
theorem ZKg (a1 : Node) : ZY4 a1 = some (laws_toNode a1) := by
 unfold ZY4 laws_toNode
 first | rfl | simp only [Zg]
theorem ZFe (a1 : Node) : Snd Tryz.prog Zy7 [eNode a1] (eNode (laws_toNode a1)) [] := ZYb (ZKg a1)
def ZKd : L :=
sR [.mv 2 (.c (.nl))]
 (sR [mV 5 0,.ln 6 (.t 5),.ms 7 4 32 [.int .i64 0, .int .i64 0, .int .i64 0, .int .i64 0] (.t 6),mV 3 7]
 (.seq (.seq (rE 4 (kI 0))
 (.blk 0 (.loop (.gw (.seq (sR [mV 8 4,mV 9 0,.ln 10 (.t 9),bI 11 .lss 8 10]
 (.cond (.t 11) .skip
 (.exit 0)))
 (.seq (.blk 1 (.reg [mV 14 3,mV 15 4,mV 16 0,mV 17 4,iA 18 16 17 4,lD 19 18 4 true,cQ 20 Zy7 [19],iA 21 14 15 4,.st (.t 21) (.t 20) 4]))
 (.reg [mV 12 4,.bi 13 .add (.t 12) (kI 1),mV 4 13])))))))
 (sR [mV 22 3,mV 2 22]
 gR)))
def ZN2 (a1 : List Node) (v4 : Int × (List Node)) (k4 : (Int × (List Node)) -> Option (List Node)) : Option (List Node) :=
 bif (decide (v4.1 < (a1.length : Int))) then ((idx a1 v4.1).bind fun e6 => (idx v4.2 v4.1).bind fun _ => k4 ((w64 (v4.1 + 1)), (v4.2.set v4.1.toNat (Node.mk ((laws_toNode e6).leaf) ((laws_toNode e6).cap))))) else (some v4.2)
def laws_toNodeS (a1 : List Node) : Option (List Node) :=
 (mkL 32 (a1.length : Int) (Node.mk 0 (Vec.mk 0 0 0))).bind fun xs2 => whl (ZN2 a1) 9223372036854775807 (0, xs2)
theorem Z9d {a1 : List Node} {r : (List Node)} (H : laws_toNodeS a1 = some r) : Snd Tryz.prog Zw9 [.sl .rd 4 (a1.map eNode)] (.sl .nw 4 (r.map eNode)) [] := by
 refine wS ZKd [.t 2] ?_
 unfold laws_toNodeS at H
 obtain ⟨xs2, h2, H⟩ := bB H
 refine wG [.u 6 (.ln _ _ fun _ => lm a1 eNode), .u 7 (.ms _ _ _ _ fun _ => ZWa eNode h2)] fun q3 => ?_
 refine wW (fun (v4 : Int × (List Node)) => ⟨[(0, .sl .rd 4 (a1.map eNode)), (3, .sref 7), (4, .int .i64 v4.1)], [], [], [(7, ⟨4, v4.2.map eNode, false⟩)]⟩) H (fun v4 I m k4 H N13 => ?_)
 unfold ZN2 at H
 refine wG [.u 10 (.ln _ _ fun _ => lm a1 eNode)] fun q5 => ?_
 refine Wh_iH H (fun H => ?_) fun H => ?_
 .obtain ⟨e6, h6, H⟩ := bB H
  obtain ⟨e7, h7, H⟩ := bB H
  refine wG [.u 18 (.ix _ _ _ fun _ => Z0 eNode h6), .c 20 (ZFe e6), .u 21 (.ix _ _ _ fun _ => Z0 eNode h7), .u 1000000 (.sto _ _ _ (eNode (Node.mk ((laws_toNode e6).leaf) ((laws_toNode e6).cap))) _ (fun _ => gm eNode (ZA2 h7)) (fun _ => Zm8 ..))] fun _ => ?_
  exact wT (N13 _ H)
 .refine wP ?_
  replace H := sI H; subst H
  exact wN [(2, .f)] [] [] [7] [] [⟨_, Z21 v4.2⟩]
def Z6f : L :=
sR [.bx 1 (.t 0),.al 2 [.nl, .nl]]
 (sR [.al 3 [.nl, .nl]]
 (sR [fA 4 1 0,lD 5 4 1 false,cQ 6 Zz7 [5],fA 7 3 0,.st (.t 7) (.t 6) 1]
 (sR [fA 8 1 1,lD 9 8 1 false,cQ 10 Zw9 [9],fA 11 3 1,.st (.t 11) (.t 10) 1]
 (sR [lD 12 3 2 true,.st (.t 2) (.t 12) 2]
 gR))))
def laws_toTopo (a1 : Topo) : Option Topo :=
 (laws_toIntS a1.parents).bind fun y2 => (laws_toNodeS a1.nodes).bind fun y3 => some (Topo.mk y2 y3)
theorem ZBe {a1 : Topo} {r : Topo} (H : laws_toTopo a1 = some r) : Snd Tryz.prog Zwa [Zz .rd a1] (Zz .nw r) [] := by
 refine wS Z6f [.c 2 2 true] ?_
 unfold laws_toTopo at H
 obtain ⟨y2, h2, H⟩ := bB H
 obtain ⟨y3, h3, H⟩ := bB H
 refine wG [.c 6 (Zi9 h2), .c 10 (Z9d h3)] fun _ => ?_
 replace H := sI H; subst H
 exact wN [(2, .d)] [(2, [])] [] [] [] [⟨_, nw_I y2⟩, ⟨_, Z21 y3⟩]
def Zff : L :=
.seq (rE 4 (kI 0))
 (sR [mV 5 1,mV 6 0,.ln 7 (.t 6),bI 8 .sub 5 7,mV 1 8]
 (.seq (sR [mV 9 1,.bi 10 .lss (.t 9) (kI 0)]
 (.cond (.t 10) (.seq (rE 4 (kI (-1)))
 gR)
 .skip))
 (sR [mV 11 1,mV 4 11]
 gR)))
def Z15 (a1 : List Int) (left2 : Int) : Option Int :=
 bif (decide ((w64 (left2 - (a1.length : Int))) < 0)) then (some (-1)) else (some (w64 (left2 - (a1.length : Int))))
theorem Z1c {a1 : List Int} {left2 : Int} {r : Int} (H : Z15 a1 left2 = some r) : Snd Tryz.prog Z95 [.sl .rd 1 (a1.map eI), .int .i64 left2] (.int .i64 r) [] := by
 refine wS Zff [.t 4] ?_
 unfold Z15 at H
 refine wG [.u 7 (.ln _ _ fun _ => lm a1 eI)] fun q3 => ?_
 refine Wh_iH H (fun H => ?_) fun H => ?_
 .refine wP ?_
  replace H := sI H; subst H
  exact wE [(4, .d)]
 .refine wP ?_
  replace H := sI H; subst H
  exact wE [(4, .d)]
def laws_szIntS (a1 : List Int) (left2 : Int) : Int :=
 bif (decide ((w64 (left2 - (a1.length : Int))) < 0)) then ((-1)) else ((w64 (left2 - (a1.length : Int))))
theorem ZPg (a1 : List Int) (left2 : Int) : Z15 a1 left2 = some (laws_szIntS a1 left2) := by
 unfold Z15 laws_szIntS
 first | rfl | simp only [Zg]
theorem Zl9 (a1 : List Int) (left2 : Int) : Snd Tryz.prog Z95 [.sl .rd 1 (a1.map eI), .int .i64 left2] (.int .i64 (laws_szIntS a1 left2)) [] := Z1c (ZPg a1 left2)
def ZNd : L :=
.seq (rE 4 (kI 0))
 (sR [mV 5 1,mV 6 0,.ln 7 (.t 6),bI 8 .sub 5 7,mV 1 8]
 (.seq (sR [mV 9 1,.bi 10 .lss (.t 9) (kI 0)]
 (.cond (.t 10) (.seq (rE 4 (kI (-1)))
 gR)
 .skip))
 (sR [mV 11 1,mV 4 11]
 gR)))
def Z34 (a1 : List Node) (left2 : Int) : Option Int :=
 bif (decide ((w64 (left2 - (a1.length : Int))) < 0)) then (some (-1)) else (some (w64 (left2 - (a1.length : Int))))
theorem ZYa {a1 : List Node} {left2 : Int} {r : Int} (H : Z34 a1 left2 = some r) : Snd Tryz.prog ZH6 [.sl .rd 4 (a1.map eNode), .int .i64 left2] (.int .i64 r) [] := by
 refine wS ZNd [.t 4] ?_
 unfold Z34 at H
 refine wG [.u 7 (.ln _ _ fun _ => lm a1 eNode)] fun q3 => ?_
 refine Wh_iH H (fun H => ?_) fun H => ?_
 .refine wP ?_
  replace H := sI H; subst H
  exact wE [(4, .d)]
 .refine wP ?_
  replace H := sI H; subst H
  exact wE [(4, .d)]
def laws_szNodeS (a1 : List Node) (left2 : Int) : Int :=
 bif (decide ((w64 (left2 - (a1.length : Int))) < 0)) then ((-1)) else ((w64 (left2 - (a1.length : Int))))
theorem ZMe (a1 : List Node) (left2 : Int) : Z34 a1 left2 = some (laws_szNodeS a1 left2) := by
 unfold Z34 laws_szNodeS
 first | rfl | simp only [Zg]
theorem Zgd (a1 : List Node) (left2 : Int) : Snd Tryz.prog ZH6 [.sl .rd 4 (a1.map eNode), .int .i64 left2] (.int .i64 (laws_szNodeS a1 left2)) [] := ZYa (ZMe a1 left2)
def Zcf : L :=
sR [.bx 2 (.t 0),.mv 4 (kI 0)]
 (sR [fA 5 2 0,lD 6 5 1 false,mV 7 1,cQ 8 Z95 [6, 7],mV 1 8]
 (.seq (sR [mV 9 1,.bi 10 .lss (.t 9) (kI 0)]
 (.cond (.t 10) (.seq (rE 4 (kI (-1)))
 gR)
 .skip))
 (sR [fA 11 2 1,lD 12 11 1 false,mV 13 1,cQ 14 ZH6 [12, 13],mV 1 14]
 (.seq (sR [mV 15 1,.bi 16 .lss (.t 15) (kI 0)]
 (.cond (.t 16) (.seq (rE 4 (kI (-1)))
 gR)
 .skip))
 (sR [mV 17 1,mV 4 17]
 gR)))))
def ZZ4 (a1 : Topo) (left2 : Int) : Option Int :=
 bif (decide ((laws_szIntS a1.parents left2) < 0)) then (some (-1)) else (bif (decide ((laws_szNodeS a1.nodes (laws_szIntS a1.parents left2)) < 0)) then (some (-1)) else (some (laws_szNodeS a1.nodes (laws_szIntS a1.parents left2))))
theorem ZZb {a1 : Topo} {left2 : Int} {r : Int} (H : ZZ4 a1 left2 = some r) : Snd Tryz.prog ZA7 [Zz .rd a1, .int .i64 left2] (.int .i64 r) [] := by
 refine wS Zcf [.t 4] ?_
 unfold ZZ4 at H
 refine wG [.c 8 (Zl9 a1.parents left2)] fun _ => ?_
 refine Wh_iH H (fun H => ?_) fun H => ?_
 .refine wP ?_
  replace H := sI H; subst H
  exact wE [(4, .d)]
 .refine wG [.u 14 (.call _ _ _ _ _ (AEs.refl _) (fun _ => Zgd a1.nodes (laws_szIntS a1.parents left2)))] fun _ => ?_
  refine Wh_iH H (fun H => ?_) fun H => ?_
  .refine wP ?_
   replace H := sI H; subst H
   exact wE [(4, .d)]
  .refine wP ?_
   replace H := sI H; subst H
   exact wE [(4, .d)]
def laws_szTopo (a1 : Topo) (left2 : Int) : Int :=
 bif (decide ((laws_szIntS a1.parents left2) < 0)) then ((-1)) else (bif (decide ((laws_szNodeS a1.nodes (laws_szIntS a1.parents left2)) < 0)) then ((-1)) else ((laws_szNodeS a1.nodes (laws_szIntS a1.parents left2))))
theorem ZMg (a1 : Topo) (left2 : Int) : ZZ4 a1 left2 = some (laws_szTopo a1 left2) := by
 unfold ZZ4 laws_szTopo
 first | rfl | simp only [Zg]
theorem ZKe (a1 : Topo) (left2 : Int) : Snd Tryz.prog ZA7 [Zz .rd a1, .int .i64 left2] (.int .i64 (laws_szTopo a1 left2)) [] := ZZb (ZMg a1 left2)
def Zlf : L :=
.seq (rE 4 (cB false))
 (.seq (sR [mV 6 0,.ln 7 (.t 6),mV 8 1,.ln 9 (.t 8),bI 10 .neq 7 9]
 (.cond (.t 10) (.seq (rE 4 (cB false))
 gR)
 .skip))
 (.seq (.seq (rE 5 (kI 0))
 (.blk 0 (.loop (.gw (.seq (sR [mV 11 5,mV 12 0,.ln 13 (.t 12),bI 14 .lss 11 13]
 (.cond (.t 14) .skip
 (.exit 0)))
 (.seq (.blk 1 (.seq (.rq 9 [mV 17 0,mV 18 5,iA 19 17 18 1,lD 20 19 1 false,mV 21 1,mV 22 5,iA 23 21 22 1,lD 24 23 1 false,bI 25 .neq 20 24])
 (.cond (.t 25) (.seq (rE 4 (cB false))
 gR)
 .skip)))
 (.reg [mV 15 5,.bi 16 .add (.t 15) (kI 1),mV 5 16])))))))
 (.seq (rE 4 (cB true))
 gR)))
def Zk3 (a1 : List Int) (b2 : List Int) (v4 : Int) (k4 : Int -> Option Bool) : Option Bool :=
 bif (decide (v4 < (a1.length : Int))) then ((idx a1 v4).bind fun e6 => (idx b2 v4).bind fun e7 => bif (e6 != e7) then (some false) else (k4 (w64 (v4 + 1)))) else (some true)
def laws_eqIntS (a1 : List Int) (b2 : List Int) : Option Bool :=
 bif ((a1.length : Int) != (b2.length : Int)) then (some false) else (whl (Zk3 a1 b2) 9223372036854775807 0)
theorem Zm9 {a1 : List Int} {b2 : List Int} {r : Bool} (H : laws_eqIntS a1 b2 = some r) : Snd Tryz.prog ZE7 [.sl .rd 1 (a1.map eI), .sl .rd 1 (b2.map eI)] (.bool r) [] := by
 refine wS Zlf [.t 4] ?_
 unfold laws_eqIntS at H
 refine wG [.u 7 (.ln _ _ fun _ => lm a1 eI), .u 9 (.ln _ _ fun _ => lm b2 eI)] fun q3 => ?_
 refine Wh_iH H (fun H => ?_) fun H => ?_
 .refine wP ?_
  replace H := sI H; subst H
  exact wE [(4, .d)]
 .refine wP ?_
  refine wW (fun (v4 : Int) => ⟨[(0, .sl .rd 1 (a1.map eI)), (1, .sl .rd 1 (b2.map eI)), (5, .int .i64 v4)], [], [], []⟩) H (fun v4 I m k4 H N25 => ?_)
  unfold Zk3 at H
  refine wG [.u 13 (.ln _ _ fun _ => lm a1 eI)] fun q5 => ?_
  refine Wh_iH H (fun H => ?_) fun H => ?_
  .obtain ⟨e6, h6, H⟩ := bB H
   obtain ⟨e7, h7, H⟩ := bB H
   refine wG [.u 19 (.ix _ _ _ fun _ => Z0 eI h6), .u 23 (.ix _ _ _ fun _ => Z0 eI h7)] fun _ => ?_
   refine Wh_iH H (fun H => ?_) fun H => ?_
   .refine wP ?_
    replace H := sI H; subst H
    exact wE [(4, .d)]
   .refine wP ?_
    exact wT (N25 _ H)
  .refine wP ?_
   replace H := sI H; subst H
   exact wE [(4, .d)]
def Zjf : L :=
sR [.bx 2 (.t 0),.bx 3 (.t 1),.mv 4 (cB false)]
 (.seq (sR [fA 5 2 0,lD 6 5 1 false,fA 7 3 0,lD 8 7 1 false,bI 9 .neq 6 8]
 (.cond (.t 9) (.seq (rE 4 (cB false))
 gR)
 .skip))
 (.seq (sR [fA 10 2 1,lD 11 10 3 true,fA 12 3 1,lD 13 12 3 true,cQ 14 Z63 [11, 13],.un 15 (.t 14)]
 (.cond (.t 15) (.seq (rE 4 (cB false))
 gR)
 .skip))
 (.seq (rE 4 (cB true))
 gR)))
def Z45 (a1 : Node) (b2 : Node) : Option Bool :=
 bif (a1.leaf != b2.leaf) then (some false) else (bif (!(laws_eqVec a1.cap b2.cap)) then (some false) else (some true))
theorem Z6c {a1 : Node} {b2 : Node} {r : Bool} (H : Z45 a1 b2 = some r) : Snd Tryz.prog ZD7 [eNode a1, eNode b2] (.bool r) [] := by
 refine wS Zjf [.t 4] ?_
 unfold Z45 at H
 refine wP ?_
 refine Wh_iH H (fun H => ?_) fun H => ?_
 .refine wP ?_
  replace H := sI H; subst H
  exact wE [(4, .d)]
 .refine wG [.c 14 (Z35 a1.cap b2.cap)] fun _ => ?_
  refine Wh_iH H (fun H => ?_) fun H => ?_
  .refine wP ?_
   replace H := sI H; subst H
   exact wE [(4, .d)]
  .refine wP ?_
   replace H := sI H; subst H
   exact wE [(4, .d)]
def laws_eqNode (a1 : Node) (b2 : Node) : Bool :=
 bif (a1.leaf != b2.leaf) then (false) else (bif (!(laws_eqVec a1.cap b2.cap)) then (false) else (true))
theorem ZSg (a1 : Node) (b2 : Node) : Z45 a1 b2 = some (laws_eqNode a1 b2) := by
 unfold Z45 laws_eqNode
 first | rfl | simp only [Zg]
theorem ZSe (a1 : Node) (b2 : Node) : Snd Tryz.prog ZD7 [eNode a1, eNode b2] (.bool (laws_eqNode a1 b2)) [] := Z6c (ZSg a1 b2)
def ZQd : L :=
.seq (rE 4 (cB false))
 (.seq (sR [mV 6 0,.ln 7 (.t 6),mV 8 1,.ln 9 (.t 8),bI 10 .neq 7 9]
 (.cond (.t 10) (.seq (rE 4 (cB false))
 gR)
 .skip))
 (.seq (.seq (rE 5 (kI 0))
 (.blk 0 (.loop (.gw (.seq (sR [mV 11 5,mV 12 0,.ln 13 (.t 12),bI 14 .lss 11 13]
 (.cond (.t 14) .skip
 (.exit 0)))
 (.seq (.blk 1 (.seq (.rq 10 [mV 17 0,mV 18 5,iA 19 17 18 4,lD 20 19 4 true,mV 21 1,mV 22 5,iA 23 21 22 4,lD 24 23 4 true,cQ 25 ZD7 [20, 24],.un 26 (.t 25)])
 (.cond (.t 26) (.seq (rE 4 (cB false))
 gR)
 .skip)))
 (.reg [mV 15 5,.bi 16 .add (.t 15) (kI 1),mV 5 16])))))))
 (.seq (rE 4 (cB true))
 gR)))
def ZP2 (a1 : List Node) (b2 : List Node) (v4 : Int) (k4 : Int -> Option Bool) : Option Bool :=
 bif (decide (v4 < (a1.length : Int))) then ((idx a1 v4).bind fun e6 => (idx b2 v4).bind fun e7 => bif (!(laws_eqNode e6 e7)) then (some false) else (k4 (w64 (v4 + 1)))) else (some true)
def laws_eqNodeS (a1 : List Node) (b2 : List Node) : Option Bool :=
 bif ((a1.length : Int) != (b2.length : Int)) then (some false) else (whl (ZP2 a1 b2) 9223372036854775807 0)
theorem Zld {a1 : List Node} {b2 : List Node} {r : Bool} (H : laws_eqNodeS a1 b2 = some r) : Snd Tryz.prog Zy9 [.sl .rd 4 (a1.map eNode), .sl .rd 4 (b2.map eNode)] (.bool r) [] := by
 refine wS ZQd [.t 4] ?_
 unfold laws_eqNodeS at H
 refine wG [.u 7 (.ln _ _ fun _ => lm a1 eNode), .u 9 (.ln _ _ fun _ => lm b2 eNode)] fun q3 => ?_
 refine Wh_iH H (fun H => ?_) fun H => ?_
 .refine wP ?_
  replace H := sI H; subst H
  exact wE [(4, .d)]
 .refine wP ?_
  refine wW (fun (v4 : Int) => ⟨[(0, .sl .rd 4 (a1.map eNode)), (1, .sl .rd 4 (b2.map eNode)), (5, .int .i64 v4)], [], [], []⟩) H (fun v4 I m k4 H N25 => ?_)
  unfold ZP2 at H
  refine wG [.u 13 (.ln _ _ fun _ => lm a1 eNode)] fun q5 => ?_
  refine Wh_iH H (fun H => ?_) fun H => ?_
  .obtain ⟨e6, h6, H⟩ := bB H
   obtain ⟨e7, h7, H⟩ := bB H
   refine wG [.u 19 (.ix _ _ _ fun _ => Z0 eNode h6), .u 23 (.ix _ _ _ fun _ => Z0 eNode h7), .c 25 (ZSe e6 e7)] fun _ => ?_
   refine Wh_iH H (fun H => ?_) fun H => ?_
   .refine wP ?_
    replace H := sI H; subst H
    exact wE [(4, .d)]
   .refine wP ?_
    exact wT (N25 _ H)
  .refine wP ?_
   replace H := sI H; subst H
   exact wE [(4, .d)]
def Zhf : L :=
sR [.bx 2 (.t 0),.bx 3 (.t 1),.mv 4 (cB false)]
 (.seq (sR [fA 5 2 0,lD 6 5 1 false,fA 7 3 0,lD 8 7 1 false,cQ 9 ZE7 [6, 8],.un 10 (.t 9)]
 (.cond (.t 10) (.seq (rE 4 (cB false))
 gR)
 .skip))
 (.seq (sR [fA 11 2 1,lD 12 11 1 false,fA 13 3 1,lD 14 13 1 false,cQ 15 Zy9 [12, 14],.un 16 (.t 15)]
 (.cond (.t 16) (.seq (rE 4 (cB false))
 gR)
 .skip))
 (.seq (rE 4 (cB true))
 gR)))
def laws_eqTopo (a1 : Topo) (b2 : Topo) : Option Bool :=
 (laws_eqIntS a1.parents b2.parents).bind fun b3 => bif (!b3) then (some false) else ((laws_eqNodeS a1.nodes b2.nodes).bind fun b4 => bif (!b4) then (some false) else (some true))
theorem ZQe {a1 : Topo} {b2 : Topo} {r : Bool} (H : laws_eqTopo a1 b2 = some r) : Snd Tryz.prog ZBa [Zz .rd a1, Zz .rd b2] (.bool r) [] := by
 refine wS Zhf [.t 4] ?_
 unfold laws_eqTopo at H
 obtain ⟨b3, h3, H⟩ := bB H
 refine wG [.c 9 (Zm9 h3)] fun _ => ?_
 refine Wh_iH H (fun H => ?_) fun H => ?_
 .refine wP ?_
  replace H := sI H; subst H
  exact wE [(4, .d)]
 .obtain ⟨b4, h4, H⟩ := bB H
  refine wG [.c 15 (Zld h4)] fun _ => ?_
  refine Wh_iH H (fun H => ?_) fun H => ?_
  .refine wP ?_
   replace H := sI H; subst H
   exact wE [(4, .d)]
  .refine wP ?_
   replace H := sI H; subst H
   exact wE [(4, .d)]
def Z1h : L :=
sR [.bx 1 (.t 0),.al 2 [.int .i64 0, .int .i64 0, .int .i64 0, .int .i64 0, .int .i64 0, .int .i64 0, .int .i64 0, .int .i64 0, .int .i64 0, .int .i64 0, .int .i64 0]]
 (sR [.al 3 [.int .i64 0, .int .i64 0, .int .i64 0, .int .i64 0, .int .i64 0, .int .i64 0, .int .i64 0, .int .i64 0, .int .i64 0, .int .i64 0, .int .i64 0]]
 (sR [fA 4 1 0,lD 5 4 1 false,fA 6 3 0,.st (.t 6) (.t 5) 1]
 (sR [fA 7 1 1,lD 8 7 1 false,fA 9 3 1,.st (.t 9) (.t 8) 1]
 (sR [fA 10 1 2,lD 11 10 1 false,fA 12 3 2,.st (.t 12) (.t 11) 1]
 (sR [fA 13 1 3,lD 14 13 3 true,cQ 15 Z53 [14],fA 16 3 3,.st (.t 16) (.t 15) 3]
 (sR [fA 17 1 6,lD 18 17 3 true,cQ 19 Z53 [18],fA 20 3 6,.st (.t 20) (.t 19) 3]
 (sR [fA 21 1 9,lD 22 21 1 false,fA 23 3 9,.st (.t 23) (.t 22) 1]
 (sR [fA 24 1 10,lD 25 24 1 false,fA 26 3 10,.st (.t 26) (.t 25) 1]
 (sR [lD 27 3 11 true,.st (.t 2) (.t 27) 11]
 gR)))))))))
def ZU5 (a1 : Job) : Option Job :=
 some (Job.mk a1.id a1.prio a1.nodes (laws_toVec a1.need) (laws_toVec a1.lic) a1.wall a1.level)
theorem Zbd {a1 : Job} {r : Job} (H : ZU5 a1 = some r) : Snd Tryz.prog Ze6 [eJob a1] (eJob r) [] := by
 refine wS Z1h [.c 2 11 true] ?_
 unfold ZU5 at H
 refine wG [.c 15 (ZX4 a1.need), .c 19 (ZX4 a1.lic)] fun _ => ?_
 replace H := sI H; subst H
 exact wN [(2, .d)] [(2, [])] [] [] [] []
def laws_toJob (a1 : Job) : Job :=
 (Job.mk a1.id a1.prio a1.nodes (laws_toVec a1.need) (laws_toVec a1.lic) a1.wall a1.level)
theorem Zii (a1 : Job) : ZU5 a1 = some (laws_toJob a1) := by
 unfold ZU5 laws_toJob
 first | rfl | simp only [Zg]
theorem Z9a (a1 : Job) : Snd Tryz.prog Ze6 [eJob a1] (eJob (laws_toJob a1)) [] := Zbd (Zii a1)
def ZLd : L :=
sR [.mv 2 (.c (.nl))]
 (sR [mV 5 0,.ln 6 (.t 5),.ms 7 1 1 [.bool false] (.t 6),mV 3 7]
 (.seq (.seq (rE 4 (kI 0))
 (.blk 0 (.loop (.gw (.seq (sR [mV 8 4,mV 9 0,.ln 10 (.t 9),bI 11 .lss 8 10]
 (.cond (.t 11) .skip
 (.exit 0)))
 (.seq (.blk 1 (.reg [mV 14 3,mV 15 4,mV 16 0,mV 17 4,iA 18 16 17 1,lD 19 18 1 false,iA 20 14 15 1,.st (.t 20) (.t 19) 1]))
 (.reg [mV 12 4,.bi 13 .add (.t 12) (kI 1),mV 4 13])))))))
 (sR [mV 21 3,mV 2 21]
 gR)))
def ZO2 (a1 : List Bool) (v4 : Int × (List Bool)) (k4 : (Int × (List Bool)) -> Option (List Bool)) : Option (List Bool) :=
 bif (decide (v4.1 < (a1.length : Int))) then ((idx a1 v4.1).bind fun e6 => (idx v4.2 v4.1).bind fun _ => k4 ((w64 (v4.1 + 1)), (v4.2.set v4.1.toNat e6))) else (some v4.2)
def laws_toBoolS (a1 : List Bool) : Option (List Bool) :=
 (mkL 1 (a1.length : Int) false).bind fun xs2 => whl (ZO2 a1) 9223372036854775807 (0, xs2)
theorem Zdd {a1 : List Bool} {r : (List Bool)} (H : laws_toBoolS a1 = some r) : Snd Tryz.prog Zx9 [.sl .rd 1 (a1.map eBo)] (.sl .nw 1 (r.map eBo)) [] := by
 refine wS ZLd [.t 2] ?_
 unfold laws_toBoolS at H
 obtain ⟨xs2, h2, H⟩ := bB H
 refine wG [.u 6 (.ln _ _ fun _ => lm a1 eBo), .u 7 (.ms _ _ _ _ fun _ => ZWa eBo h2)] fun q3 => ?_
 refine wW (fun (v4 : Int × (List Bool)) => ⟨[(0, .sl .rd 1 (a1.map eBo)), (3, .sref 7), (4, .int .i64 v4.1)], [], [], [(7, ⟨1, v4.2.map eBo, false⟩)]⟩) H (fun v4 I m k4 H N13 => ?_)
 unfold ZO2 at H
 refine wG [.u 10 (.ln _ _ fun _ => lm a1 eBo)] fun q5 => ?_
 refine Wh_iH H (fun H => ?_) fun H => ?_
 .obtain ⟨e6, h6, H⟩ := bB H
  obtain ⟨e7, h7, H⟩ := bB H
  refine wG [.u 18 (.ix _ _ _ fun _ => Z0 eBo h6), .u 20 (.ix _ _ _ fun _ => Z0 eBo h7), .u 1000000 (.sto _ _ _ (eBo e6) _ (fun _ => gm eBo (ZA2 h7)) (fun _ => Zm8 ..))] fun _ => ?_
  exact wT (N13 _ H)
 .refine wP ?_
  replace H := sI H; subst H
  exact wN [(2, .f)] [] [] [7] [] [⟨_, nw_Bo v4.2⟩]
def ZOd : L :=
.seq (rE 4 (kI 0))
 (sR [mV 5 1,mV 6 0,.ln 7 (.t 6),bI 8 .sub 5 7,mV 1 8]
 (.seq (sR [mV 9 1,.bi 10 .lss (.t 9) (kI 0)]
 (.cond (.t 10) (.seq (rE 4 (kI (-1)))
 gR)
 .skip))
 (sR [mV 11 1,mV 4 11]
 gR)))
def Z44 (a1 : List Bool) (left2 : Int) : Option Int :=
 bif (decide ((w64 (left2 - (a1.length : Int))) < 0)) then (some (-1)) else (some (w64 (left2 - (a1.length : Int))))
theorem ZZa {a1 : List Bool} {left2 : Int} {r : Int} (H : Z44 a1 left2 = some r) : Snd Tryz.prog ZI6 [.sl .rd 1 (a1.map eBo), .int .i64 left2] (.int .i64 r) [] := by
 refine wS ZOd [.t 4] ?_
 unfold Z44 at H
 refine wG [.u 7 (.ln _ _ fun _ => lm a1 eBo)] fun q3 => ?_
 refine Wh_iH H (fun H => ?_) fun H => ?_
 .refine wP ?_
  replace H := sI H; subst H
  exact wE [(4, .d)]
 .refine wP ?_
  replace H := sI H; subst H
  exact wE [(4, .d)]
def laws_szBoolS (a1 : List Bool) (left2 : Int) : Int :=
 bif (decide ((w64 (left2 - (a1.length : Int))) < 0)) then ((-1)) else ((w64 (left2 - (a1.length : Int))))
theorem ZPe (a1 : List Bool) (left2 : Int) : Z44 a1 left2 = some (laws_szBoolS a1 left2) := by
 unfold Z44 laws_szBoolS
 first | rfl | simp only [Zg]
theorem Zhd (a1 : List Bool) (left2 : Int) : Snd Tryz.prog ZI6 [.sl .rd 1 (a1.map eBo), .int .i64 left2] (.int .i64 (laws_szBoolS a1 left2)) [] := ZZa (ZPe a1 left2)
def ZRd : L :=
.seq (rE 4 (cB false))
 (.seq (sR [mV 6 0,.ln 7 (.t 6),mV 8 1,.ln 9 (.t 8),bI 10 .neq 7 9]
 (.cond (.t 10) (.seq (rE 4 (cB false))
 gR)
 .skip))
 (.seq (.seq (rE 5 (kI 0))
 (.blk 0 (.loop (.gw (.seq (sR [mV 11 5,mV 12 0,.ln 13 (.t 12),bI 14 .lss 11 13]
 (.cond (.t 14) .skip
 (.exit 0)))
 (.seq (.blk 1 (.seq (.rq 9 [mV 17 0,mV 18 5,iA 19 17 18 1,lD 20 19 1 false,mV 21 1,mV 22 5,iA 23 21 22 1,lD 24 23 1 false,.eb 25 true (.t 20) (.t 24)])
 (.cond (.t 25) (.seq (rE 4 (cB false))
 gR)
 .skip)))
 (.reg [mV 15 5,.bi 16 .add (.t 15) (kI 1),mV 5 16])))))))
 (.seq (rE 4 (cB true))
 gR)))
def ZQ2 (a1 : List Bool) (b2 : List Bool) (v4 : Int) (k4 : Int -> Option Bool) : Option Bool :=
 bif (decide (v4 < (a1.length : Int))) then ((idx a1 v4).bind fun e6 => (idx b2 v4).bind fun e7 => bif (!(e6 == e7)) then (some false) else (k4 (w64 (v4 + 1)))) else (some true)
def laws_eqBoolS (a1 : List Bool) (b2 : List Bool) : Option Bool :=
 bif ((a1.length : Int) != (b2.length : Int)) then (some false) else (whl (ZQ2 a1 b2) 9223372036854775807 0)
theorem Zpd {a1 : List Bool} {b2 : List Bool} {r : Bool} (H : laws_eqBoolS a1 b2 = some r) : Snd Tryz.prog Zz9 [.sl .rd 1 (a1.map eBo), .sl .rd 1 (b2.map eBo)] (.bool r) [] := by
 refine wS ZRd [.t 4] ?_
 unfold laws_eqBoolS at H
 refine wG [.u 7 (.ln _ _ fun _ => lm a1 eBo), .u 9 (.ln _ _ fun _ => lm b2 eBo)] fun q3 => ?_
 refine Wh_iH H (fun H => ?_) fun H => ?_
 .refine wP ?_
  replace H := sI H; subst H
  exact wE [(4, .d)]
 .refine wP ?_
  refine wW (fun (v4 : Int) => ⟨[(0, .sl .rd 1 (a1.map eBo)), (1, .sl .rd 1 (b2.map eBo)), (5, .int .i64 v4)], [], [], []⟩) H (fun v4 I m k4 H N25 => ?_)
  unfold ZQ2 at H
  refine wG [.u 13 (.ln _ _ fun _ => lm a1 eBo)] fun q5 => ?_
  refine Wh_iH H (fun H => ?_) fun H => ?_
  .obtain ⟨e6, h6, H⟩ := bB H
   obtain ⟨e7, h7, H⟩ := bB H
   refine wG [.u 19 (.ix _ _ _ fun _ => Z0 eBo h6), .u 23 (.ix _ _ _ fun _ => Z0 eBo h7)] fun _ => ?_
   refine Wh_iH H (fun H => ?_) fun H => ?_
   .refine wP ?_
    replace H := sI H; subst H
    exact wE [(4, .d)]
   .refine wP ?_
    exact wT (N25 _ H)
  .refine wP ?_
   replace H := sI H; subst H
   exact wE [(4, .d)]
def Z9f : L :=
sR [.mv 2 (.c (.nl))]
 (sR [mV 5 0,.ln 6 (.t 5),.ms 7 11 88 [.int .i64 0, .int .i64 0, .int .i64 0, .int .i64 0, .int .i64 0, .int .i64 0, .int .i64 0, .int .i64 0, .int .i64 0, .int .i64 0, .int .i64 0] (.t 6),mV 3 7]
 (.seq (.seq (rE 4 (kI 0))
 (.blk 0 (.loop (.gw (.seq (sR [mV 8 4,mV 9 0,.ln 10 (.t 9),bI 11 .lss 8 10]
 (.cond (.t 11) .skip
 (.exit 0)))
 (.seq (.blk 1 (.reg [mV 14 3,mV 15 4,mV 16 0,mV 17 4,iA 18 16 17 11,lD 19 18 11 true,cQ 20 Ze6 [19],iA 21 14 15 11,.st (.t 21) (.t 20) 11]))
 (.reg [mV 12 4,.bi 13 .add (.t 12) (kI 1),mV 4 13])))))))
 (sR [mV 22 3,mV 2 22]
 gR)))
def Zf3 (a1 : List Job) (v4 : Int × (List Job)) (k4 : (Int × (List Job)) -> Option (List Job)) : Option (List Job) :=
 bif (decide (v4.1 < (a1.length : Int))) then ((idx a1 v4.1).bind fun e6 => (idx v4.2 v4.1).bind fun _ => k4 ((w64 (v4.1 + 1)), (v4.2.set v4.1.toNat (Job.mk ((laws_toJob e6).id) ((laws_toJob e6).prio) ((laws_toJob e6).nodes) ((laws_toJob e6).need) ((laws_toJob e6).lic) ((laws_toJob e6).wall) ((laws_toJob e6).level))))) else (some v4.2)
def laws_toJobS (a1 : List Job) : Option (List Job) :=
 (mkL 88 (a1.length : Int) (Job.mk 0 0 0 (Vec.mk 0 0 0) (Vec.mk 0 0 0) 0 0)).bind fun xs2 => whl (Zf3 a1) 9223372036854775807 (0, xs2)
theorem ZGe {a1 : List Job} {r : (List Job)} (H : laws_toJobS a1 = some r) : Snd Tryz.prog Zya [.sl .rd 11 (a1.map eJob)] (.sl .nw 11 (r.map eJob)) [] := by
 refine wS Z9f [.t 2] ?_
 unfold laws_toJobS at H
 obtain ⟨xs2, h2, H⟩ := bB H
 refine wG [.u 6 (.ln _ _ fun _ => lm a1 eJob), .u 7 (.ms _ _ _ _ fun _ => ZWa eJob h2)] fun q3 => ?_
 refine wW (fun (v4 : Int × (List Job)) => ⟨[(0, .sl .rd 11 (a1.map eJob)), (3, .sref 7), (4, .int .i64 v4.1)], [], [], [(7, ⟨11, v4.2.map eJob, false⟩)]⟩) H (fun v4 I m k4 H N13 => ?_)
 unfold Zf3 at H
 refine wG [.u 10 (.ln _ _ fun _ => lm a1 eJob)] fun q5 => ?_
 refine Wh_iH H (fun H => ?_) fun H => ?_
 .obtain ⟨e6, h6, H⟩ := bB H
  obtain ⟨e7, h7, H⟩ := bB H
  refine wG [.u 18 (.ix _ _ _ fun _ => Z0 eJob h6), .c 20 (Z9a e6), .u 21 (.ix _ _ _ fun _ => Z0 eJob h7), .u 1000000 (.sto _ _ _ (eJob (Job.mk ((laws_toJob e6).id) ((laws_toJob e6).prio) ((laws_toJob e6).nodes) ((laws_toJob e6).need) ((laws_toJob e6).lic) ((laws_toJob e6).wall) ((laws_toJob e6).level))) _ (fun _ => gm eJob (ZA2 h7)) (fun _ => Zm8 ..))] fun _ => ?_
  exact wT (N13 _ H)
 .refine wP ?_
  replace H := sI H; subst H
  exact wN [(2, .f)] [] [] [7] [] [⟨_, Zvj v4.2⟩]
def Zef : L :=
.seq (rE 4 (kI 0))
 (sR [mV 5 1,mV 6 0,.ln 7 (.t 6),bI 8 .sub 5 7,mV 1 8]
 (.seq (sR [mV 9 1,.bi 10 .lss (.t 9) (kI 0)]
 (.cond (.t 10) (.seq (rE 4 (kI (-1)))
 gR)
 .skip))
 (sR [mV 11 1,mV 4 11]
 gR)))
def Z05 (a1 : List Job) (left2 : Int) : Option Int :=
 bif (decide ((w64 (left2 - (a1.length : Int))) < 0)) then (some (-1)) else (some (w64 (left2 - (a1.length : Int))))
theorem Z0c {a1 : List Job} {left2 : Int} {r : Int} (H : Z05 a1 left2 = some r) : Snd Tryz.prog ZB7 [.sl .rd 11 (a1.map eJob), .int .i64 left2] (.int .i64 r) [] := by
 refine wS Zef [.t 4] ?_
 unfold Z05 at H
 refine wG [.u 7 (.ln _ _ fun _ => lm a1 eJob)] fun q3 => ?_
 refine Wh_iH H (fun H => ?_) fun H => ?_
 .refine wP ?_
  replace H := sI H; subst H
  exact wE [(4, .d)]
 .refine wP ?_
  replace H := sI H; subst H
  exact wE [(4, .d)]
def laws_szJobS (a1 : List Job) (left2 : Int) : Int :=
 bif (decide ((w64 (left2 - (a1.length : Int))) < 0)) then ((-1)) else ((w64 (left2 - (a1.length : Int))))
theorem ZOg (a1 : List Job) (left2 : Int) : Z05 a1 left2 = some (laws_szJobS a1 left2) := by
 unfold Z05 laws_szJobS
 first | rfl | simp only [Zg]
theorem ZNe (a1 : List Job) (left2 : Int) : Snd Tryz.prog ZB7 [.sl .rd 11 (a1.map eJob), .int .i64 left2] (.int .i64 (laws_szJobS a1 left2)) [] := Z0c (ZOg a1 left2)
def Z6h : L :=
sR [.bx 2 (.t 0),.bx 3 (.t 1),.mv 4 (cB false)]
 (.seq (sR [fA 5 2 0,lD 6 5 1 false,fA 7 3 0,lD 8 7 1 false,bI 9 .neq 6 8]
 (.cond (.t 9) (.seq (rE 4 (cB false))
 gR)
 .skip))
 (.seq (sR [fA 10 2 1,lD 11 10 1 false,fA 12 3 1,lD 13 12 1 false,bI 14 .neq 11 13]
 (.cond (.t 14) (.seq (rE 4 (cB false))
 gR)
 .skip))
 (.seq (sR [fA 15 2 2,lD 16 15 1 false,fA 17 3 2,lD 18 17 1 false,bI 19 .neq 16 18]
 (.cond (.t 19) (.seq (rE 4 (cB false))
 gR)
 .skip))
 (.seq (sR [fA 20 2 3,lD 21 20 3 true,fA 22 3 3,lD 23 22 3 true,cQ 24 Z63 [21, 23],.un 25 (.t 24)]
 (.cond (.t 25) (.seq (rE 4 (cB false))
 gR)
 .skip))
 (.seq (sR [fA 26 2 6,lD 27 26 3 true,fA 28 3 6,lD 29 28 3 true,cQ 30 Z63 [27, 29],.un 31 (.t 30)]
 (.cond (.t 31) (.seq (rE 4 (cB false))
 gR)
 .skip))
 (.seq (sR [fA 32 2 9,lD 33 32 1 false,fA 34 3 9,lD 35 34 1 false,bI 36 .neq 33 35]
 (.cond (.t 36) (.seq (rE 4 (cB false))
 gR)
 .skip))
 (.seq (sR [fA 37 2 10,lD 38 37 1 false,fA 39 3 10,lD 40 39 1 false,bI 41 .neq 38 40]
 (.cond (.t 41) (.seq (rE 4 (cB false))
 gR)
 .skip))
 (.seq (rE 4 (cB true))
 gR))))))))
def ZY5 (a1 : Job) (b2 : Job) : Option Bool :=
 bif (a1.id != b2.id) then (some false) else (bif (a1.prio != b2.prio) then (some false) else (bif (a1.nodes != b2.nodes) then (some false) else (bif (!(laws_eqVec a1.need b2.need)) then (some false) else (bif (!(laws_eqVec a1.lic b2.lic)) then (some false) else (bif (a1.wall != b2.wall) then (some false) else (bif (a1.level != b2.level) then (some false) else (some true)))))))
theorem Zmd {a1 : Job} {b2 : Job} {r : Bool} (H : ZY5 a1 b2 = some r) : Snd Tryz.prog Zf6 [eJob a1, eJob b2] (.bool r) [] := by
 refine wS Z6h [.t 4] ?_
 unfold ZY5 at H
 refine wP ?_
 refine Wh_iH H (fun H => ?_) fun H => ?_
 .refine wP ?_
  replace H := sI H; subst H
  exact wE [(4, .d)]
 .refine wP ?_
  refine Wh_iH H (fun H => ?_) fun H => ?_
  .refine wP ?_
   replace H := sI H; subst H
   exact wE [(4, .d)]
  .refine wP ?_
   refine Wh_iH H (fun H => ?_) fun H => ?_
   .refine wP ?_
    replace H := sI H; subst H
    exact wE [(4, .d)]
   .refine wG [.c 24 (Z35 a1.need b2.need)] fun _ => ?_
    refine Wh_iH H (fun H => ?_) fun H => ?_
    .refine wP ?_
     replace H := sI H; subst H
     exact wE [(4, .d)]
    .refine wG [.c 30 (Z35 a1.lic b2.lic)] fun _ => ?_
     refine Wh_iH H (fun H => ?_) fun H => ?_
     .refine wP ?_
      replace H := sI H; subst H
      exact wE [(4, .d)]
     .refine wP ?_
      refine Wh_iH H (fun H => ?_) fun H => ?_
      .refine wP ?_
       replace H := sI H; subst H
       exact wE [(4, .d)]
      .refine wP ?_
       refine Wh_iH H (fun H => ?_) fun H => ?_
       .refine wP ?_
        replace H := sI H; subst H
        exact wE [(4, .d)]
       .refine wP ?_
        replace H := sI H; subst H
        exact wE [(4, .d)]
def laws_eqJob (a1 : Job) (b2 : Job) : Bool :=
 bif (a1.id != b2.id) then (false) else (bif (a1.prio != b2.prio) then (false) else (bif (a1.nodes != b2.nodes) then (false) else (bif (!(laws_eqVec a1.need b2.need)) then (false) else (bif (!(laws_eqVec a1.lic b2.lic)) then (false) else (bif (a1.wall != b2.wall) then (false) else (bif (a1.level != b2.level) then (false) else (true)))))))
theorem Zmi (a1 : Job) (b2 : Job) : ZY5 a1 b2 = some (laws_eqJob a1 b2) := by
 unfold ZY5 laws_eqJob
 first | rfl | simp only [Zg]
theorem Zaa (a1 : Job) (b2 : Job) : Snd Tryz.prog Zf6 [eJob a1, eJob b2] (.bool (laws_eqJob a1 b2)) [] := Zmd (Zmi a1 b2)
def Zkf : L :=
.seq (rE 4 (cB false))
 (.seq (sR [mV 6 0,.ln 7 (.t 6),mV 8 1,.ln 9 (.t 8),bI 10 .neq 7 9]
 (.cond (.t 10) (.seq (rE 4 (cB false))
 gR)
 .skip))
 (.seq (.seq (rE 5 (kI 0))
 (.blk 0 (.loop (.gw (.seq (sR [mV 11 5,mV 12 0,.ln 13 (.t 12),bI 14 .lss 11 13]
 (.cond (.t 14) .skip
 (.exit 0)))
 (.seq (.blk 1 (.seq (.rq 10 [mV 17 0,mV 18 5,iA 19 17 18 11,lD 20 19 11 true,mV 21 1,mV 22 5,iA 23 21 22 11,lD 24 23 11 true,cQ 25 Zf6 [20, 24],.un 26 (.t 25)])
 (.cond (.t 26) (.seq (rE 4 (cB false))
 gR)
 .skip)))
 (.reg [mV 15 5,.bi 16 .add (.t 15) (kI 1),mV 5 16])))))))
 (.seq (rE 4 (cB true))
 gR)))
def Zj3 (a1 : List Job) (b2 : List Job) (v4 : Int) (k4 : Int -> Option Bool) : Option Bool :=
 bif (decide (v4 < (a1.length : Int))) then ((idx a1 v4).bind fun e6 => (idx b2 v4).bind fun e7 => bif (!(laws_eqJob e6 e7)) then (some false) else (k4 (w64 (v4 + 1)))) else (some true)
def laws_eqJobS (a1 : List Job) (b2 : List Job) : Option Bool :=
 bif ((a1.length : Int) != (b2.length : Int)) then (some false) else (whl (Zj3 a1 b2) 9223372036854775807 0)
theorem ZTe {a1 : List Job} {b2 : List Job} {r : Bool} (H : laws_eqJobS a1 b2 = some r) : Snd Tryz.prog ZDa [.sl .rd 11 (a1.map eJob), .sl .rd 11 (b2.map eJob)] (.bool r) [] := by
 refine wS Zkf [.t 4] ?_
 unfold laws_eqJobS at H
 refine wG [.u 7 (.ln _ _ fun _ => lm a1 eJob), .u 9 (.ln _ _ fun _ => lm b2 eJob)] fun q3 => ?_
 refine Wh_iH H (fun H => ?_) fun H => ?_
 .refine wP ?_
  replace H := sI H; subst H
  exact wE [(4, .d)]
 .refine wP ?_
  refine wW (fun (v4 : Int) => ⟨[(0, .sl .rd 11 (a1.map eJob)), (1, .sl .rd 11 (b2.map eJob)), (5, .int .i64 v4)], [], [], []⟩) H (fun v4 I m k4 H N25 => ?_)
  unfold Zj3 at H
  refine wG [.u 13 (.ln _ _ fun _ => lm a1 eJob)] fun q5 => ?_
  refine Wh_iH H (fun H => ?_) fun H => ?_
  .obtain ⟨e6, h6, H⟩ := bB H
   obtain ⟨e7, h7, H⟩ := bB H
   refine wG [.u 19 (.ix _ _ _ fun _ => Z0 eJob h6), .u 23 (.ix _ _ _ fun _ => Z0 eJob h7), .c 25 (Zaa e6 e7)] fun _ => ?_
   refine Wh_iH H (fun H => ?_) fun H => ?_
   .refine wP ?_
    replace H := sI H; subst H
    exact wE [(4, .d)]
   .refine wP ?_
    exact wT (N25 _ H)
  .refine wP ?_
   replace H := sI H; subst H
   exact wE [(4, .d)]
def Z0h : L :=
sR [.bx 1 (.t 0),.al 2 [.int .i64 0, .int .i64 0, .int .i64 0, .int .i64 0, .int .i64 0, .int .i64 0, .int .i64 0, .int .i64 0, .int .i64 0, .int .i64 0, .int .i64 0, .int .i64 0, .nl]]
 (sR [.al 3 [.int .i64 0, .int .i64 0, .int .i64 0, .int .i64 0, .int .i64 0, .int .i64 0, .int .i64 0, .int .i64 0, .int .i64 0, .int .i64 0, .int .i64 0, .int .i64 0, .nl]]
 (sR [fA 4 1 0,lD 5 4 11 true,cQ 6 Ze6 [5],fA 7 3 0,.st (.t 7) (.t 6) 11]
 (sR [fA 8 1 11,lD 9 8 1 false,fA 10 3 11,.st (.t 10) (.t 9) 1]
 (sR [fA 11 1 12,lD 12 11 1 false,cQ 13 Zz7 [12],fA 14 3 12,.st (.t 14) (.t 13) 1]
 (sR [lD 15 3 13 true,.st (.t 2) (.t 15) 13]
 gR)))))
def laws_toRun (a1 : Run) : Option Run :=
 (laws_toIntS a1.nodes).bind fun y2 => some (Run.mk (Job.mk ((laws_toJob a1.job).id) ((laws_toJob a1.job).prio) ((laws_toJob a1.job).nodes) ((laws_toJob a1.job).need) ((laws_toJob a1.job).lic) ((laws_toJob a1.job).wall) ((laws_toJob a1.job).level)) a1.t y2)
theorem ZIg {a1 : Run} {r : Run} (H : laws_toRun a1 = some r) : Snd Tryz.prog ZHb [eRunT .rd a1] (eRunT .nw r) [] := by
 refine wS Z0h [.c 2 13 true] ?_
 unfold laws_toRun at H
 obtain ⟨y2, h2, H⟩ := bB H
 refine wG [.c 6 (Z9a a1.job), .c 13 (Zi9 h2)] fun _ => ?_
 replace H := sI H; subst H
 exact wN [(2, .d)] [(2, [])] [] [] [] [⟨_, nw_I y2⟩]
def Z7f : L :=
sR [.mv 2 (.c (.nl))]
 (sR [mV 5 0,.ln 6 (.t 5),.ms 7 13 120 [.int .i64 0, .int .i64 0, .int .i64 0, .int .i64 0, .int .i64 0, .int .i64 0, .int .i64 0, .int .i64 0, .int .i64 0, .int .i64 0, .int .i64 0, .int .i64 0, .sl .nw 1 []] (.t 6),mV 3 7]
 (.seq (.seq (rE 4 (kI 0))
 (.blk 0 (.loop (.gw (.seq (sR [mV 8 4,mV 9 0,.ln 10 (.t 9),bI 11 .lss 8 10]
 (.cond (.t 11) .skip
 (.exit 0)))
 (.seq (.blk 1 (.reg [mV 14 3,mV 15 4,mV 16 0,mV 17 4,iA 18 16 17 13,lD 19 18 13 true,cQ 20 ZHb [19],iA 21 14 15 13,.st (.t 21) (.t 20) 13]))
 (.reg [mV 12 4,.bi 13 .add (.t 12) (kI 1),mV 4 13])))))))
 (sR [mV 22 3,mV 2 22]
 gR)))
def Ze3 (a1 : List Run) (v4 : Int × (List Run)) (k4 : (Int × (List Run)) -> Option (List Run)) : Option (List Run) :=
 bif (decide (v4.1 < (a1.length : Int))) then ((idx a1 v4.1).bind fun e6 => (laws_toRun e6).bind fun y7 => (idx v4.2 v4.1).bind fun _ => k4 ((w64 (v4.1 + 1)), (v4.2.set v4.1.toNat y7))) else (some v4.2)
def laws_toRunS (a1 : List Run) : Option (List Run) :=
 (mkL 120 (a1.length : Int) (Run.mk (Job.mk 0 0 0 (Vec.mk 0 0 0) (Vec.mk 0 0 0) 0 0) 0 [])).bind fun xs2 => whl (Ze3 a1) 9223372036854775807 (0, xs2)
theorem ZDe {a1 : List Run} {r : (List Run)} (H : laws_toRunS a1 = some r) : Snd Tryz.prog Zxa [.sl .rd 13 (a1.map (eRunT .rd))] (.sl .nw 13 (r.map (eRunT .nw))) [] := by
 refine wS Z7f [.t 2] ?_
 unfold laws_toRunS at H
 obtain ⟨xs2, h2, H⟩ := bB H
 refine wG [.u 6 (.ln _ _ fun _ => lm a1 (eRunT .rd)), .u 7 (.ms _ _ _ _ fun _ => ZWa (eRunT .nw) h2)] fun q3 => ?_
 refine wW (fun (v4 : Int × (List Run)) => ⟨[(0, .sl .rd 13 (a1.map (eRunT .rd))), (3, .sref 7), (4, .int .i64 v4.1)], [], [], [(7, ⟨13, v4.2.map (eRunT .nw), false⟩)]⟩) H (fun v4 I m k4 H N13 => ?_)
 unfold Ze3 at H
 refine wG [.u 10 (.ln _ _ fun _ => lm a1 (eRunT .rd))] fun q5 => ?_
 refine Wh_iH H (fun H => ?_) fun H => ?_
 .obtain ⟨e6, h6, H⟩ := bB H
  obtain ⟨y7, h7, H⟩ := bB H
  obtain ⟨e8, h8, H⟩ := bB H
  refine wG [.u 18 (.ix _ _ _ fun _ => Z0 (eRunT .rd) h6), .c 20 (ZIg h7), .u 21 (.ix _ _ _ fun _ => Z0 (eRunT .nw) h8), .u 1000000 (.sto _ _ _ (eRunT .nw y7) _ (fun _ => gm (eRunT .nw) (ZA2 h8)) (fun _ => Zm8 ..))] fun _ => ?_
  exact wT (N13 _ H)
 .refine wP ?_
  replace H := sI H; subst H
  exact wN [(2, .f)] [] [] [7] [] [⟨_, Zxk v4.2⟩]
def Z2h : L :=
sR [.bx 1 (.t 0),.al 2 [.int .i64 0, .int .i64 0, .int .i64 0]]
 (sR [.al 3 [.int .i64 0, .int .i64 0, .int .i64 0]]
 (sR [fA 4 1 0,lD 5 4 1 false,fA 6 3 0,.st (.t 6) (.t 5) 1]
 (sR [fA 7 1 1,lD 8 7 1 false,fA 9 3 1,.st (.t 9) (.t 8) 1]
 (sR [fA 10 1 2,lD 11 10 1 false,fA 12 3 2,.st (.t 12) (.t 11) 1]
 (sR [lD 13 3 3 true,.st (.t 2) (.t 13) 3]
 gR)))))
def ZV5 (a1 : End) : Option End :=
 some a1
theorem Zcd {a1 : End} {r : End} (H : ZV5 a1 = some r) : Snd Tryz.prog ZO8 [eEnd a1] (eEnd r) [] := by
 refine wS Z2h [.c 2 3 true] ?_
 unfold ZV5 at H
 refine wP ?_
 replace H := sI H; subst H
 exact wN [(2, .d)] [(2, [])] [] [] [] []
def laws_toEnd (a1 : End) : End :=
 a1
theorem Zji (a1 : End) : ZV5 a1 = some (laws_toEnd a1) := by
 unfold ZV5 laws_toEnd
 first | rfl | simp only [Zg]
theorem ZLg (a1 : End) : Snd Tryz.prog ZO8 [eEnd a1] (eEnd (laws_toEnd a1)) [] := Zcd (Zji a1)
def Zbf : L :=
sR [.mv 2 (.c (.nl))]
 (sR [mV 5 0,.ln 6 (.t 5),.ms 7 3 24 [.int .i64 0, .int .i64 0, .int .i64 0] (.t 6),mV 3 7]
 (.seq (.seq (rE 4 (kI 0))
 (.blk 0 (.loop (.gw (.seq (sR [mV 8 4,mV 9 0,.ln 10 (.t 9),bI 11 .lss 8 10]
 (.cond (.t 11) .skip
 (.exit 0)))
 (.seq (.blk 1 (.reg [mV 14 3,mV 15 4,mV 16 0,mV 17 4,iA 18 16 17 3,lD 19 18 3 true,cQ 20 ZO8 [19],iA 21 14 15 3,.st (.t 21) (.t 20) 3]))
 (.reg [mV 12 4,.bi 13 .add (.t 12) (kI 1),mV 4 13])))))))
 (sR [mV 22 3,mV 2 22]
 gR)))
def Zh3 (a1 : List End) (v4 : Int × (List End)) (k4 : (Int × (List End)) -> Option (List End)) : Option (List End) :=
 bif (decide (v4.1 < (a1.length : Int))) then ((idx a1 v4.1).bind fun e6 => (idx v4.2 v4.1).bind fun _ => k4 ((w64 (v4.1 + 1)), (v4.2.set v4.1.toNat (laws_toEnd e6)))) else (some v4.2)
def laws_toEndS (a1 : List End) : Option (List End) :=
 (mkL 24 (a1.length : Int) (End.mk 0 0 0)).bind fun xs2 => whl (Zh3 a1) 9223372036854775807 (0, xs2)
theorem ZIe {a1 : List End} {r : (List End)} (H : laws_toEndS a1 = some r) : Snd Tryz.prog Zza [.sl .rd 3 (a1.map eEnd)] (.sl .nw 3 (r.map eEnd)) [] := by
 refine wS Zbf [.t 2] ?_
 unfold laws_toEndS at H
 obtain ⟨xs2, h2, H⟩ := bB H
 refine wG [.u 6 (.ln _ _ fun _ => lm a1 eEnd), .u 7 (.ms _ _ _ _ fun _ => ZWa eEnd h2)] fun q3 => ?_
 refine wW (fun (v4 : Int × (List End)) => ⟨[(0, .sl .rd 3 (a1.map eEnd)), (3, .sref 7), (4, .int .i64 v4.1)], [], [], [(7, ⟨3, v4.2.map eEnd, false⟩)]⟩) H (fun v4 I m k4 H N13 => ?_)
 unfold Zh3 at H
 refine wG [.u 10 (.ln _ _ fun _ => lm a1 eEnd)] fun q5 => ?_
 refine Wh_iH H (fun H => ?_) fun H => ?_
 .obtain ⟨e6, h6, H⟩ := bB H
  obtain ⟨e7, h7, H⟩ := bB H
  refine wG [.u 18 (.ix _ _ _ fun _ => Z0 eEnd h6), .c 20 (ZLg e6), .u 21 (.ix _ _ _ fun _ => Z0 eEnd h7), .u 1000000 (.sto _ _ _ (eEnd (laws_toEnd e6)) _ (fun _ => gm eEnd (ZA2 h7)) (fun _ => Zm8 ..))] fun _ => ?_
  exact wT (N13 _ H)
 .refine wP ?_
  replace H := sI H; subst H
  exact wN [(2, .f)] [] [] [7] [] [⟨_, nw_End v4.2⟩]
def ZJd : L :=
sR [.bx 1 (.t 0),.al 2 [.nl, .nl, .nl, .int .i64 0, .int .i64 0, .int .i64 0, .int .i64 0, .int .i64 0, .nl, .nl, .nl]]
 (sR [.al 3 [.nl, .nl, .nl, .int .i64 0, .int .i64 0, .int .i64 0, .int .i64 0, .int .i64 0, .nl, .nl, .nl]]
 (sR [fA 4 1 0,lD 5 4 2 true,cQ 6 Zwa [5],fA 7 3 0,.st (.t 7) (.t 6) 2]
 (sR [fA 8 1 2,lD 9 8 1 false,cQ 10 Zx9 [9],fA 11 3 2,.st (.t 11) (.t 10) 1]
 (sR [fA 12 1 3,lD 13 12 3 true,cQ 14 Z53 [13],fA 15 3 3,.st (.t 15) (.t 14) 3]
 (sR [fA 16 1 6,lD 17 16 1 false,fA 18 3 6,.st (.t 18) (.t 17) 1]
 (sR [fA 19 1 7,lD 20 19 1 false,fA 21 3 7,.st (.t 21) (.t 20) 1]
 (sR [fA 22 1 8,lD 23 22 1 false,cQ 24 Zya [23],fA 25 3 8,.st (.t 25) (.t 24) 1]
 (sR [fA 26 1 9,lD 27 26 1 false,cQ 28 Zxa [27],fA 29 3 9,.st (.t 29) (.t 28) 1]
 (sR [fA 30 1 10,lD 31 30 1 false,cQ 32 Zza [31],fA 33 3 10,.st (.t 33) (.t 32) 1]
 (sR [lD 34 3 11 true,.st (.t 2) (.t 34) 11]
 gR))))))))))
def laws_toState (a1 : State) : Option State :=
 (laws_toTopo a1.topo).bind fun y2 => (laws_toBoolS a1.up).bind fun y3 => (laws_toJobS a1.queue).bind fun y4 => (laws_toRunS a1.runs).bind fun y5 => (laws_toEndS a1.ends).bind fun y6 => some (State.mk y2 y3 (laws_toVec a1.lic) a1.depth a1.now y4 y5 y6)
theorem Z7d {a1 : State} {r : State} (H : laws_toState a1 = some r) : Snd Tryz.prog ZM [Z5 .rd a1] (Z5 .nw r) [] := by
 refine wS ZJd [.c 2 11 true] ?_
 unfold laws_toState at H
 obtain ⟨y2, h2, H⟩ := bB H
 obtain ⟨y3, h3, H⟩ := bB H
 obtain ⟨y4, h4, H⟩ := bB H
 obtain ⟨y5, h5, H⟩ := bB H
 obtain ⟨y6, h6, H⟩ := bB H
 refine wG [.c 6 (ZBe h2), .c 10 (Zdd h3), .c 14 (ZX4 a1.lic), .c 24 (ZGe h4), .c 28 (ZDe h5), .c 32 (ZIe h6)] fun _ => ?_
 replace H := sI H; subst H
 exact wN [(2, .d)] [(2, [])] [] [] [] [⟨_, nw_I y2.parents⟩, ⟨_, Z21 y2.nodes⟩, ⟨_, nw_Bo y3⟩, ⟨_, Zvj y4⟩, ⟨_, Zxk y5⟩, ⟨_, nw_End y6⟩]
def Z3h : L :=
sR [.bx 2 (.t 0),.mv 4 (kI 0)]
 (sR [fA 5 2 12,lD 6 5 1 false,mV 7 1,cQ 8 Z95 [6, 7],mV 1 8]
 (.seq (sR [mV 9 1,.bi 10 .lss (.t 9) (kI 0)]
 (.cond (.t 10) (.seq (rE 4 (kI (-1)))
 gR)
 .skip))
 (sR [mV 11 1,mV 4 11]
 gR)))
def ZW5 (a1 : Run) (left2 : Int) : Option Int :=
 bif (decide ((laws_szIntS a1.nodes left2) < 0)) then (some (-1)) else (some (laws_szIntS a1.nodes left2))
theorem Zfd {a1 : Run} {left2 : Int} {r : Int} (H : ZW5 a1 left2 = some r) : Snd Tryz.prog ZP8 [eRunT .rd a1, .int .i64 left2] (.int .i64 r) [] := by
 refine wS Z3h [.t 4] ?_
 unfold ZW5 at H
 refine wG [.c 8 (Zl9 a1.nodes left2)] fun _ => ?_
 refine Wh_iH H (fun H => ?_) fun H => ?_
 .refine wP ?_
  replace H := sI H; subst H
  exact wE [(4, .d)]
 .refine wP ?_
  replace H := sI H; subst H
  exact wE [(4, .d)]
def laws_szRun (a1 : Run) (left2 : Int) : Int :=
 bif (decide ((laws_szIntS a1.nodes left2) < 0)) then ((-1)) else ((laws_szIntS a1.nodes left2))
theorem Zki (a1 : Run) (left2 : Int) : ZW5 a1 left2 = some (laws_szRun a1 left2) := by
 unfold ZW5 laws_szRun
 first | rfl | simp only [Zg]
theorem ZNg (a1 : Run) (left2 : Int) : Snd Tryz.prog ZP8 [eRunT .rd a1, .int .i64 left2] (.int .i64 (laws_szRun a1 left2)) [] := Zfd (Zki a1 left2)
def Zdf : L :=
.seq (rE 4 (kI 0))
 (sR [mV 6 1,mV 7 0,.ln 8 (.t 7),bI 9 .sub 6 8,mV 1 9]
 (.seq (sR [mV 10 1,.bi 11 .lss (.t 10) (kI 0)]
 (.cond (.t 11) (.seq (rE 4 (kI (-1)))
 gR)
 .skip))
 (.seq (.seq (rE 5 (kI 0))
 (.blk 0 (.loop (.gw (.seq (sR [mV 12 5,mV 13 0,.ln 14 (.t 13),bI 15 .lss 12 14]
 (.cond (.t 15) .skip
 (.exit 0)))
 (.seq (.blk 1 (sR [mV 18 0,mV 19 5,iA 20 18 19 13,lD 21 20 13 true,mV 22 1,cQ 23 ZP8 [21, 22],mV 1 23]
 (sR [mV 24 1,.bi 25 .lss (.t 24) (kI 0)]
 (.cond (.t 25) (.seq (rE 4 (kI (-1)))
 gR)
 .skip))))
 (.reg [mV 16 5,.bi 17 .add (.t 16) (kI 1),mV 5 17])))))))
 (sR [mV 26 1,mV 4 26]
 gR))))
def Zl5 (a1 : List Run) (v4 : Int × Int) (k4 : (Int × Int) -> Option Int) : Option Int :=
 bif (decide (v4.2 < (a1.length : Int))) then ((idx a1 v4.2).bind fun e6 => bif (decide ((laws_szRun e6 v4.1) < 0)) then (some (-1)) else (k4 ((laws_szRun e6 v4.1), (w64 (v4.2 + 1))))) else (some v4.1)
def laws_szRunS (a1 : List Run) (left2 : Int) : Option Int :=
 bif (decide ((w64 (left2 - (a1.length : Int))) < 0)) then (some (-1)) else (whl (Zl5 a1) 9223372036854775807 ((w64 (left2 - (a1.length : Int))), 0))
theorem ZLe {a1 : List Run} {left2 : Int} {r : Int} (H : laws_szRunS a1 left2 = some r) : Snd Tryz.prog ZAa [.sl .rd 13 (a1.map (eRunT .rd)), .int .i64 left2] (.int .i64 r) [] := by
 refine wS Zdf [.t 4] ?_
 unfold laws_szRunS at H
 refine wG [.u 8 (.ln _ _ fun _ => lm a1 (eRunT .rd))] fun q3 => ?_
 refine Wh_iH H (fun H => ?_) fun H => ?_
 .refine wP ?_
  replace H := sI H; subst H
  exact wE [(4, .d)]
 .refine wP ?_
  refine wW (fun (v4 : Int × Int) => ⟨[(0, .sl .rd 13 (a1.map (eRunT .rd))), (1, .int .i64 v4.1), (5, .int .i64 v4.2)], [], [], []⟩) H (fun v4 I m k4 H N28 => ?_)
  unfold Zl5 at H
  refine wG [.u 14 (.ln _ _ fun _ => lm a1 (eRunT .rd))] fun q5 => ?_
  refine Wh_iH H (fun H => ?_) fun H => ?_
  .obtain ⟨e6, h6, H⟩ := bB H
   refine wG [.u 20 (.ix _ _ _ fun _ => Z0 (eRunT .rd) h6), .c 23 (ZNg e6 v4.1)] fun _ => ?_
   refine Wh_iH H (fun H => ?_) fun H => ?_
   .refine wP ?_
    replace H := sI H; subst H
    exact wE [(4, .d)]
   .refine wP ?_
    exact wT (N28 _ H)
  .refine wP ?_
   replace H := sI H; subst H
   exact wE [(4, .d)]
def Zgf : L :=
.seq (rE 4 (kI 0))
 (sR [mV 5 1,mV 6 0,.ln 7 (.t 6),bI 8 .sub 5 7,mV 1 8]
 (.seq (sR [mV 9 1,.bi 10 .lss (.t 9) (kI 0)]
 (.cond (.t 10) (.seq (rE 4 (kI (-1)))
 gR)
 .skip))
 (sR [mV 11 1,mV 4 11]
 gR)))
def Z25 (a1 : List End) (left2 : Int) : Option Int :=
 bif (decide ((w64 (left2 - (a1.length : Int))) < 0)) then (some (-1)) else (some (w64 (left2 - (a1.length : Int))))
theorem Z2c {a1 : List End} {left2 : Int} {r : Int} (H : Z25 a1 left2 = some r) : Snd Tryz.prog ZC7 [.sl .rd 3 (a1.map eEnd), .int .i64 left2] (.int .i64 r) [] := by
 refine wS Zgf [.t 4] ?_
 unfold Z25 at H
 refine wG [.u 7 (.ln _ _ fun _ => lm a1 eEnd)] fun q3 => ?_
 refine Wh_iH H (fun H => ?_) fun H => ?_
 .refine wP ?_
  replace H := sI H; subst H
  exact wE [(4, .d)]
 .refine wP ?_
  replace H := sI H; subst H
  exact wE [(4, .d)]
def laws_szEndS (a1 : List End) (left2 : Int) : Int :=
 bif (decide ((w64 (left2 - (a1.length : Int))) < 0)) then ((-1)) else ((w64 (left2 - (a1.length : Int))))
theorem ZQg (a1 : List End) (left2 : Int) : Z25 a1 left2 = some (laws_szEndS a1 left2) := by
 unfold Z25 laws_szEndS
 first | rfl | simp only [Zg]
theorem ZOe (a1 : List End) (left2 : Int) : Snd Tryz.prog ZC7 [.sl .rd 3 (a1.map eEnd), .int .i64 left2] (.int .i64 (laws_szEndS a1 left2)) [] := Z2c (ZQg a1 left2)
def ZMd : L :=
sR [.bx 2 (.t 0),.mv 4 (kI 0)]
 (sR [fA 5 2 0,lD 6 5 2 true,mV 7 1,cQ 8 ZA7 [6, 7],mV 1 8]
 (.seq (sR [mV 9 1,.bi 10 .lss (.t 9) (kI 0)]
 (.cond (.t 10) (.seq (rE 4 (kI (-1)))
 gR)
 .skip))
 (sR [fA 11 2 2,lD 12 11 1 false,mV 13 1,cQ 14 ZI6 [12, 13],mV 1 14]
 (.seq (sR [mV 15 1,.bi 16 .lss (.t 15) (kI 0)]
 (.cond (.t 16) (.seq (rE 4 (kI (-1)))
 gR)
 .skip))
 (sR [fA 17 2 8,lD 18 17 1 false,mV 19 1,cQ 20 ZB7 [18, 19],mV 1 20]
 (.seq (sR [mV 21 1,.bi 22 .lss (.t 21) (kI 0)]
 (.cond (.t 22) (.seq (rE 4 (kI (-1)))
 gR)
 .skip))
 (sR [fA 23 2 9,lD 24 23 1 false,mV 25 1,cQ 26 ZAa [24, 25],mV 1 26]
 (.seq (sR [mV 27 1,.bi 28 .lss (.t 27) (kI 0)]
 (.cond (.t 28) (.seq (rE 4 (kI (-1)))
 gR)
 .skip))
 (sR [fA 29 2 10,lD 30 29 1 false,mV 31 1,cQ 32 ZC7 [30, 31],mV 1 32]
 (.seq (sR [mV 33 1,.bi 34 .lss (.t 33) (kI 0)]
 (.cond (.t 34) (.seq (rE 4 (kI (-1)))
 gR)
 .skip))
 (sR [mV 35 1,mV 4 35]
 gR)))))))))))
def laws_szState (a1 : State) (left2 : Int) : Option Int :=
 bif (decide ((laws_szTopo a1.topo left2) < 0)) then (some (-1)) else (bif (decide ((laws_szBoolS a1.up (laws_szTopo a1.topo left2)) < 0)) then (some (-1)) else (bif (decide ((laws_szJobS a1.queue (laws_szBoolS a1.up (laws_szTopo a1.topo left2))) < 0)) then (some (-1)) else ((laws_szRunS a1.runs (laws_szJobS a1.queue (laws_szBoolS a1.up (laws_szTopo a1.topo left2)))).bind fun n3 => bif (decide (n3 < 0)) then (some (-1)) else (bif (decide ((laws_szEndS a1.ends n3) < 0)) then (some (-1)) else (some (laws_szEndS a1.ends n3))))))
theorem Zq8 {a1 : State} {left2 : Int} {r : Int} (H : laws_szState a1 left2 = some r) : Snd Tryz.prog ZG6 [Z5 .rd a1, .int .i64 left2] (.int .i64 r) [] := by
 refine wS ZMd [.t 4] ?_
 unfold laws_szState at H
 refine wG [.c 8 (ZKe a1.topo left2)] fun _ => ?_
 refine Wh_iH H (fun H => ?_) fun H => ?_
 .refine wP ?_
  replace H := sI H; subst H
  exact wE [(4, .d)]
 .refine wG [.u 14 (.call _ _ _ _ _ (AEs.refl _) (fun _ => Zhd a1.up (laws_szTopo a1.topo left2)))] fun _ => ?_
  refine Wh_iH H (fun H => ?_) fun H => ?_
  .refine wP ?_
   replace H := sI H; subst H
   exact wE [(4, .d)]
  .refine wG [.u 20 (.call _ _ _ _ _ (AEs.refl _) (fun _ => ZNe a1.queue (laws_szBoolS a1.up (laws_szTopo a1.topo left2))))] fun _ => ?_
   refine Wh_iH H (fun H => ?_) fun H => ?_
   .refine wP ?_
    replace H := sI H; subst H
    exact wE [(4, .d)]
   .obtain ⟨n3, h3, H⟩ := bB H
    refine wG [.c 26 (ZLe h3)] fun _ => ?_
    refine Wh_iH H (fun H => ?_) fun H => ?_
    .refine wP ?_
     replace H := sI H; subst H
     exact wE [(4, .d)]
    .refine wG [.c 32 (ZOe a1.ends n3)] fun _ => ?_
     refine Wh_iH H (fun H => ?_) fun H => ?_
     .refine wP ?_
      replace H := sI H; subst H
      exact wE [(4, .d)]
     .refine wP ?_
      replace H := sI H; subst H
      exact wE [(4, .d)]
def Z5h : L :=
sR [.bx 2 (.t 0),.bx 3 (.t 1),.mv 4 (cB false)]
 (.seq (sR [fA 5 2 0,lD 6 5 11 true,fA 7 3 0,lD 8 7 11 true,cQ 9 Zf6 [6, 8],.un 10 (.t 9)]
 (.cond (.t 10) (.seq (rE 4 (cB false))
 gR)
 .skip))
 (.seq (sR [fA 11 2 11,lD 12 11 1 false,fA 13 3 11,lD 14 13 1 false,bI 15 .neq 12 14]
 (.cond (.t 15) (.seq (rE 4 (cB false))
 gR)
 .skip))
 (.seq (sR [fA 16 2 12,lD 17 16 1 false,fA 18 3 12,lD 19 18 1 false,cQ 20 ZE7 [17, 19],.un 21 (.t 20)]
 (.cond (.t 21) (.seq (rE 4 (cB false))
 gR)
 .skip))
 (.seq (rE 4 (cB true))
 gR))))
def laws_eqRun (a1 : Run) (b2 : Run) : Option Bool :=
 bif (!(laws_eqJob a1.job b2.job)) then (some false) else (bif (a1.t != b2.t) then (some false) else ((laws_eqIntS a1.nodes b2.nodes).bind fun b3 => bif (!b3) then (some false) else (some true)))
theorem ZRg {a1 : Run} {b2 : Run} {r : Bool} (H : laws_eqRun a1 b2 = some r) : Snd Tryz.prog ZIb [eRunT .rd a1, eRunT .rd b2] (.bool r) [] := by
 refine wS Z5h [.t 4] ?_
 unfold laws_eqRun at H
 refine wG [.c 9 (Zaa a1.job b2.job)] fun _ => ?_
 refine Wh_iH H (fun H => ?_) fun H => ?_
 .refine wP ?_
  replace H := sI H; subst H
  exact wE [(4, .d)]
 .refine wP ?_
  refine Wh_iH H (fun H => ?_) fun H => ?_
  .refine wP ?_
   replace H := sI H; subst H
   exact wE [(4, .d)]
  .obtain ⟨b3, h3, H⟩ := bB H
   refine wG [.c 20 (Zm9 h3)] fun _ => ?_
   refine Wh_iH H (fun H => ?_) fun H => ?_
   .refine wP ?_
    replace H := sI H; subst H
    exact wE [(4, .d)]
   .refine wP ?_
    replace H := sI H; subst H
    exact wE [(4, .d)]
def Zif : L :=
.seq (rE 4 (cB false))
 (.seq (sR [mV 6 0,.ln 7 (.t 6),mV 8 1,.ln 9 (.t 8),bI 10 .neq 7 9]
 (.cond (.t 10) (.seq (rE 4 (cB false))
 gR)
 .skip))
 (.seq (.seq (rE 5 (kI 0))
 (.blk 0 (.loop (.gw (.seq (sR [mV 11 5,mV 12 0,.ln 13 (.t 12),bI 14 .lss 11 13]
 (.cond (.t 14) .skip
 (.exit 0)))
 (.seq (.blk 1 (.seq (.rq 10 [mV 17 0,mV 18 5,iA 19 17 18 13,lD 20 19 13 true,mV 21 1,mV 22 5,iA 23 21 22 13,lD 24 23 13 true,cQ 25 ZIb [20, 24],.un 26 (.t 25)])
 (.cond (.t 26) (.seq (rE 4 (cB false))
 gR)
 .skip)))
 (.reg [mV 15 5,.bi 16 .add (.t 15) (kI 1),mV 5 16])))))))
 (.seq (rE 4 (cB true))
 gR)))
def Zi3 (a1 : List Run) (b2 : List Run) (v4 : Int) (k4 : Int -> Option Bool) : Option Bool :=
 bif (decide (v4 < (a1.length : Int))) then ((idx a1 v4).bind fun e6 => (idx b2 v4).bind fun e7 => (laws_eqRun e6 e7).bind fun b8 => bif (!b8) then (some false) else (k4 (w64 (v4 + 1)))) else (some true)
def laws_eqRunS (a1 : List Run) (b2 : List Run) : Option Bool :=
 bif ((a1.length : Int) != (b2.length : Int)) then (some false) else (whl (Zi3 a1 b2) 9223372036854775807 0)
theorem ZRe {a1 : List Run} {b2 : List Run} {r : Bool} (H : laws_eqRunS a1 b2 = some r) : Snd Tryz.prog ZCa [.sl .rd 13 (a1.map (eRunT .rd)), .sl .rd 13 (b2.map (eRunT .rd))] (.bool r) [] := by
 refine wS Zif [.t 4] ?_
 unfold laws_eqRunS at H
 refine wG [.u 7 (.ln _ _ fun _ => lm a1 (eRunT .rd)), .u 9 (.ln _ _ fun _ => lm b2 (eRunT .rd))] fun q3 => ?_
 refine Wh_iH H (fun H => ?_) fun H => ?_
 .refine wP ?_
  replace H := sI H; subst H
  exact wE [(4, .d)]
 .refine wP ?_
  refine wW (fun (v4 : Int) => ⟨[(0, .sl .rd 13 (a1.map (eRunT .rd))), (1, .sl .rd 13 (b2.map (eRunT .rd))), (5, .int .i64 v4)], [], [], []⟩) H (fun v4 I m k4 H N25 => ?_)
  unfold Zi3 at H
  refine wG [.u 13 (.ln _ _ fun _ => lm a1 (eRunT .rd))] fun q5 => ?_
  refine Wh_iH H (fun H => ?_) fun H => ?_
  .obtain ⟨e6, h6, H⟩ := bB H
   obtain ⟨e7, h7, H⟩ := bB H
   obtain ⟨b8, h8, H⟩ := bB H
   refine wG [.u 19 (.ix _ _ _ fun _ => Z0 (eRunT .rd) h6), .u 23 (.ix _ _ _ fun _ => Z0 (eRunT .rd) h7), .c 25 (ZRg h8)] fun _ => ?_
   refine Wh_iH H (fun H => ?_) fun H => ?_
   .refine wP ?_
    replace H := sI H; subst H
    exact wE [(4, .d)]
   .refine wP ?_
    exact wT (N25 _ H)
  .refine wP ?_
   replace H := sI H; subst H
   exact wE [(4, .d)]
def Z7h : L :=
sR [.bx 2 (.t 0),.bx 3 (.t 1),.mv 4 (cB false)]
 (.seq (sR [fA 5 2 0,lD 6 5 1 false,fA 7 3 0,lD 8 7 1 false,bI 9 .neq 6 8]
 (.cond (.t 9) (.seq (rE 4 (cB false))
 gR)
 .skip))
 (.seq (sR [fA 10 2 1,lD 11 10 1 false,fA 12 3 1,lD 13 12 1 false,bI 14 .neq 11 13]
 (.cond (.t 14) (.seq (rE 4 (cB false))
 gR)
 .skip))
 (.seq (sR [fA 15 2 2,lD 16 15 1 false,fA 17 3 2,lD 18 17 1 false,bI 19 .neq 16 18]
 (.cond (.t 19) (.seq (rE 4 (cB false))
 gR)
 .skip))
 (.seq (rE 4 (cB true))
 gR))))
def ZZ5 (a1 : End) (b2 : End) : Option Bool :=
 bif (a1.id != b2.id) then (some false) else (bif (a1.t != b2.t) then (some false) else (bif (a1.why != b2.why) then (some false) else (some true)))
theorem Zod {a1 : End} {b2 : End} {r : Bool} (H : ZZ5 a1 b2 = some r) : Snd Tryz.prog ZQ8 [eEnd a1, eEnd b2] (.bool r) [] := by
 refine wS Z7h [.t 4] ?_
 unfold ZZ5 at H
 refine wP ?_
 refine Wh_iH H (fun H => ?_) fun H => ?_
 .refine wP ?_
  replace H := sI H; subst H
  exact wE [(4, .d)]
 .refine wP ?_
  refine Wh_iH H (fun H => ?_) fun H => ?_
  .refine wP ?_
   replace H := sI H; subst H
   exact wE [(4, .d)]
  .refine wP ?_
   refine Wh_iH H (fun H => ?_) fun H => ?_
   .refine wP ?_
    replace H := sI H; subst H
    exact wE [(4, .d)]
   .refine wP ?_
    replace H := sI H; subst H
    exact wE [(4, .d)]
def laws_eqEnd (a1 : End) (b2 : End) : Bool :=
 bif (a1.id != b2.id) then (false) else (bif (a1.t != b2.t) then (false) else (bif (a1.why != b2.why) then (false) else (true)))
theorem Zni (a1 : End) (b2 : End) : ZZ5 a1 b2 = some (laws_eqEnd a1 b2) := by
 unfold ZZ5 laws_eqEnd
 first | rfl | simp only [Zg]
theorem ZTg (a1 : End) (b2 : End) : Snd Tryz.prog ZQ8 [eEnd a1, eEnd b2] (.bool (laws_eqEnd a1 b2)) [] := Zod (Zni a1 b2)
def Zmf : L :=
.seq (rE 4 (cB false))
 (.seq (sR [mV 6 0,.ln 7 (.t 6),mV 8 1,.ln 9 (.t 8),bI 10 .neq 7 9]
 (.cond (.t 10) (.seq (rE 4 (cB false))
 gR)
 .skip))
 (.seq (.seq (rE 5 (kI 0))
 (.blk 0 (.loop (.gw (.seq (sR [mV 11 5,mV 12 0,.ln 13 (.t 12),bI 14 .lss 11 13]
 (.cond (.t 14) .skip
 (.exit 0)))
 (.seq (.blk 1 (.seq (.rq 10 [mV 17 0,mV 18 5,iA 19 17 18 3,lD 20 19 3 true,mV 21 1,mV 22 5,iA 23 21 22 3,lD 24 23 3 true,cQ 25 ZQ8 [20, 24],.un 26 (.t 25)])
 (.cond (.t 26) (.seq (rE 4 (cB false))
 gR)
 .skip)))
 (.reg [mV 15 5,.bi 16 .add (.t 15) (kI 1),mV 5 16])))))))
 (.seq (rE 4 (cB true))
 gR)))
def Zl3 (a1 : List End) (b2 : List End) (v4 : Int) (k4 : Int -> Option Bool) : Option Bool :=
 bif (decide (v4 < (a1.length : Int))) then ((idx a1 v4).bind fun e6 => (idx b2 v4).bind fun e7 => bif (!(laws_eqEnd e6 e7)) then (some false) else (k4 (w64 (v4 + 1)))) else (some true)
def laws_eqEndS (a1 : List End) (b2 : List End) : Option Bool :=
 bif ((a1.length : Int) != (b2.length : Int)) then (some false) else (whl (Zl3 a1 b2) 9223372036854775807 0)
theorem ZUe {a1 : List End} {b2 : List End} {r : Bool} (H : laws_eqEndS a1 b2 = some r) : Snd Tryz.prog ZEa [.sl .rd 3 (a1.map eEnd), .sl .rd 3 (b2.map eEnd)] (.bool r) [] := by
 refine wS Zmf [.t 4] ?_
 unfold laws_eqEndS at H
 refine wG [.u 7 (.ln _ _ fun _ => lm a1 eEnd), .u 9 (.ln _ _ fun _ => lm b2 eEnd)] fun q3 => ?_
 refine Wh_iH H (fun H => ?_) fun H => ?_
 .refine wP ?_
  replace H := sI H; subst H
  exact wE [(4, .d)]
 .refine wP ?_
  refine wW (fun (v4 : Int) => ⟨[(0, .sl .rd 3 (a1.map eEnd)), (1, .sl .rd 3 (b2.map eEnd)), (5, .int .i64 v4)], [], [], []⟩) H (fun v4 I m k4 H N25 => ?_)
  unfold Zl3 at H
  refine wG [.u 13 (.ln _ _ fun _ => lm a1 eEnd)] fun q5 => ?_
  refine Wh_iH H (fun H => ?_) fun H => ?_
  .obtain ⟨e6, h6, H⟩ := bB H
   obtain ⟨e7, h7, H⟩ := bB H
   refine wG [.u 19 (.ix _ _ _ fun _ => Z0 eEnd h6), .u 23 (.ix _ _ _ fun _ => Z0 eEnd h7), .c 25 (ZTg e6 e7)] fun _ => ?_
   refine Wh_iH H (fun H => ?_) fun H => ?_
   .refine wP ?_
    replace H := sI H; subst H
    exact wE [(4, .d)]
   .refine wP ?_
    exact wT (N25 _ H)
  .refine wP ?_
   replace H := sI H; subst H
   exact wE [(4, .d)]
def ZPd : L :=
sR [.bx 2 (.t 0),.bx 3 (.t 1),.mv 4 (cB false)]
 (.seq (sR [fA 5 2 0,lD 6 5 2 true,fA 7 3 0,lD 8 7 2 true,cQ 9 ZBa [6, 8],.un 10 (.t 9)]
 (.cond (.t 10) (.seq (rE 4 (cB false))
 gR)
 .skip))
 (.seq (sR [fA 11 2 2,lD 12 11 1 false,fA 13 3 2,lD 14 13 1 false,cQ 15 Zz9 [12, 14],.un 16 (.t 15)]
 (.cond (.t 16) (.seq (rE 4 (cB false))
 gR)
 .skip))
 (.seq (sR [fA 17 2 3,lD 18 17 3 true,fA 19 3 3,lD 20 19 3 true,cQ 21 Z63 [18, 20],.un 22 (.t 21)]
 (.cond (.t 22) (.seq (rE 4 (cB false))
 gR)
 .skip))
 (.seq (sR [fA 23 2 6,lD 24 23 1 false,fA 25 3 6,lD 26 25 1 false,bI 27 .neq 24 26]
 (.cond (.t 27) (.seq (rE 4 (cB false))
 gR)
 .skip))
 (.seq (sR [fA 28 2 7,lD 29 28 1 false,fA 30 3 7,lD 31 30 1 false,bI 32 .neq 29 31]
 (.cond (.t 32) (.seq (rE 4 (cB false))
 gR)
 .skip))
 (.seq (sR [fA 33 2 8,lD 34 33 1 false,fA 35 3 8,lD 36 35 1 false,cQ 37 ZDa [34, 36],.un 38 (.t 37)]
 (.cond (.t 38) (.seq (rE 4 (cB false))
 gR)
 .skip))
 (.seq (sR [fA 39 2 9,lD 40 39 1 false,fA 41 3 9,lD 42 41 1 false,cQ 43 ZCa [40, 42],.un 44 (.t 43)]
 (.cond (.t 44) (.seq (rE 4 (cB false))
 gR)
 .skip))
 (.seq (sR [fA 45 2 10,lD 46 45 1 false,fA 47 3 10,lD 48 47 1 false,cQ 49 ZEa [46, 48],.un 50 (.t 49)]
 (.cond (.t 50) (.seq (rE 4 (cB false))
 gR)
 .skip))
 (.seq (rE 4 (cB true))
 gR)))))))))
def laws_eqState (a1 : State) (b2 : State) : Option Bool :=
 (laws_eqTopo a1.topo b2.topo).bind fun b3 => bif (!b3) then (some false) else ((laws_eqBoolS a1.up b2.up).bind fun b4 => bif (!b4) then (some false) else (bif (!(laws_eqVec a1.lic b2.lic)) then (some false) else (bif (a1.depth != b2.depth) then (some false) else (bif (a1.now != b2.now) then (some false) else ((laws_eqJobS a1.queue b2.queue).bind fun b5 => bif (!b5) then (some false) else ((laws_eqRunS a1.runs b2.runs).bind fun b6 => bif (!b6) then (some false) else ((laws_eqEndS a1.ends b2.ends).bind fun b7 => bif (!b7) then (some false) else (some true))))))))
theorem Zjd {a1 : State} {b2 : State} {r : Bool} (H : laws_eqState a1 b2 = some r) : Snd Tryz.prog Za4 [Z5 .rd a1, Z5 .rd b2] (.bool r) [] := by
 refine wS ZPd [.t 4] ?_
 unfold laws_eqState at H
 obtain ⟨b3, h3, H⟩ := bB H
 refine wG [.c 9 (ZQe h3)] fun _ => ?_
 refine Wh_iH H (fun H => ?_) fun H => ?_
 .refine wP ?_
  replace H := sI H; subst H
  exact wE [(4, .d)]
 .obtain ⟨b4, h4, H⟩ := bB H
  refine wG [.c 15 (Zpd h4)] fun _ => ?_
  refine Wh_iH H (fun H => ?_) fun H => ?_
  .refine wP ?_
   replace H := sI H; subst H
   exact wE [(4, .d)]
  .refine wG [.c 21 (Z35 a1.lic b2.lic)] fun _ => ?_
   refine Wh_iH H (fun H => ?_) fun H => ?_
   .refine wP ?_
    replace H := sI H; subst H
    exact wE [(4, .d)]
   .refine wP ?_
    refine Wh_iH H (fun H => ?_) fun H => ?_
    .refine wP ?_
     replace H := sI H; subst H
     exact wE [(4, .d)]
    .refine wP ?_
     refine Wh_iH H (fun H => ?_) fun H => ?_
     .refine wP ?_
      replace H := sI H; subst H
      exact wE [(4, .d)]
     .obtain ⟨b5, h5, H⟩ := bB H
      refine wG [.c 37 (ZTe h5)] fun _ => ?_
      refine Wh_iH H (fun H => ?_) fun H => ?_
      .refine wP ?_
       replace H := sI H; subst H
       exact wE [(4, .d)]
      .obtain ⟨b6, h6, H⟩ := bB H
       refine wG [.c 43 (ZRe h6)] fun _ => ?_
       refine Wh_iH H (fun H => ?_) fun H => ?_
       .refine wP ?_
        replace H := sI H; subst H
        exact wE [(4, .d)]
       .obtain ⟨b7, h7, H⟩ := bB H
        refine wG [.c 49 (ZUe h7)] fun _ => ?_
        refine Wh_iH H (fun H => ?_) fun H => ?_
        .refine wP ?_
         replace H := sI H; subst H
         exact wE [(4, .d)]
        .refine wP ?_
         replace H := sI H; subst H
         exact wE [(4, .d)]
end Go.Proofs.YtndemhaoilhbbaaGreat
namespace Go.Proofs.YtndemhaoilhbbaaGreat.Eng
open Go Go.RowKit
def CE (a b : AV) : Prop := AE a b /\ (a.one = true -> b.one = true)
def CEs (l m : List AV) : Prop := l.length = m.length /\ ∀ (i : Nat) (a b : AV), l[i]? = some a -> m[i]? = some b -> CE a b
theorem CE.refl (a : AV) : CE a a := ⟨AE.refl a, id⟩
theorem CEs.refl (l : List AV) : CEs l l := ⟨rfl, fun i a b h h' => by rw [h] at h'; cases h'; exact .refl a⟩
theorem CEs.one {a b : AV} (h : CE a b) : CEs [a] [b] := ⟨rfl, fun i x y hx hy => by
 cases i with
 | zero => simp at hx hy; subst hx; subst hy; exact h
 | succ i => simp at hx⟩
theorem CEs.append {l1 l2 m1 m2 : List AV} (h1 : CEs l1 m1) (h2 : CEs l2 m2) : CEs (l1 ++ l2) (m1 ++ m2) := by
 refine ⟨by rw [List.length_append, List.length_append, h1.1, h2.1], fun i a b ha hb => ?_⟩
 by_cases hi : i < l1.length
 .rw [List.getElem?_append_left hi] at ha
  rw [List.getElem?_append_left (by rw [← h1.1]; exact hi)] at hb
  exact h1.2 i a b ha hb
 .rw [List.getElem?_append_right (by omega)] at ha
  rw [List.getElem?_append_right (by rw [← h1.1]; omega), ← h1.1] at hb
  exact h2.2 _ a b ha hb
theorem CEs.flat {α : Type} {E : α -> AV} : ∀ {es : List AV} {ys : List α}, es.length = ys.length -> (∀ (i : Nat) (x : AV) (y : α), es[i]? = some x -> ys[i]? = some y -> CEs x.cells (E y).cells) -> CEs (Eng.flat es) (Eng.flat (ys.map E))
 | [], [], _, _ => CEs.refl []
 | x :: es, y :: ys, hl, h => by
  have h0 := h 0 x y rfl rfl
  have h1 := CEs.flat (es := es) (ys := ys) (by simpa using hl) fun i x y hx hy => h (i + 1) x y (by simpa using hx) (by simpa using hy)
  simpa [Eng.flat] using h0.append h1
 | [], _ :: _, hl, _ => by simp at hl
 | _ :: _, [], hl, _ => by simp at hl
theorem AE.agg {cs ds : List AV} (h : CEs cs ds) : AE (.agg cs) (.agg ds) := by
 intro w S v hr
 cases hr with
 | agg _ vs hl h1 h2 =>
  refine .agg ds vs (by rw [← h.1, hl]) (fun b hb => ?_) fun i b u hb hu => ?_
  .obtain ⟨i, hi⟩ := List.getElem?_of_mem hb
   have hlt : i < cs.length := by rw [h.1]; exact (yB hi).1
   exact (h.2 i cs[i] b (yA hlt) hi).2 (h1 _ (List.getElem_mem hlt))
  .have hlt : i < cs.length := by rw [h.1]; exact (yB hb).1
   exact (h.2 i cs[i] b (yA hlt) hb).1 w S u (h2 i _ u (yA hlt) hu)
theorem AE.nl {sz : Nat} : AE .nl (.sl .rd sz []) := by
 intro w S v hr
 cases hr
 exact .sl0 _ _ _ _ fun _ _ => trivial
theorem AE.sl {g : Tag} {sz : Nat} {es ds : List AV} (hl : es.length = ds.length) (hs : ∀ e ∈ ds, e.cells.length = sz) (h : CEs (Eng.flat es) (Eng.flat ds)) : AE (.sl g sz es) (.sl g sz ds) := by
 intro w S v hr
 cases hr with
 | sl0 _ _ a c ho =>
  cases ds with
  | nil => exact .sl0 _ _ _ _ ho
  | cons _ _ => simp at hl
 | sl _ _ _ b o c cv hc hm _ hw ho h2 =>
  rw [hl]
  have hx : ∀ (j : Nat) (d : AV), (Eng.flat ds)[j]? = some d -> ∃ e, (Eng.flat es)[j]? = some e /\ CE e d := fun j d hj => by
   have hlt : j < (Eng.flat es).length := by rw [h.1]; exact (yB hj).1
   exact ⟨_, yA hlt, h.2 j _ d (yA hlt) hj⟩
  refine .sl g sz ds b o c cv (by rw [← hl]; exact hc) hm hs (fun j d hj => ?_) ho fun j d hj => ?_
  .obtain ⟨e, he, hce⟩ := hx j d hj
   obtain ⟨q1, q2, q3, _⟩ := hw j e he
   exact ⟨q1, q2, hce.2 q3, trivial⟩
  .obtain ⟨e, he, hce⟩ := hx j d hj
   exact hce.1 w S _ (h2 j e he)
theorem Snd.wkS {P : Program} {f : FuncId} {xs1 xs2 : List AV} {res : AV} {rows : List Row} (h : Snd P f xs2 res rows) (hae : AEs xs1 xs2) : Snd P f xs1 res rows := by
 intro w S N vs hS hl hr
 have hal := hae.1
 refine h w S TT vs hS (by omega) fun i b v hb hv => ?_
 have hi : i < xs1.length := by have := (yB hb).1; omega
 exact hae.2 w S i _ b v (yA hi) hb ((hr i _ v (yA hi) hv).mono (fun _ _ h => h) ⟨fun _ _ _ _ _ _ _ _ => trivial, fun _ _ _ _ => trivial⟩ fun _ _ _ => rfl)
def EncOf {α : Type} (τ : Ty) (e : α -> List AV) (W : α -> Prop) : Prop := ∀ l, τ.ok l -> ∃ y, CEs l (e y) /\ W y
def Zu {α : Type} (τs : List Ty) (e : α -> List AV) (W : α -> Prop) : Prop := ∀ l, okL τs l -> ∃ y, CEs l (e y) /\ W y
def FitL {α : Type} (W : α -> Prop) (l : List α) : Prop := l.length <= maxLen /\ ∀ x ∈ l, W x
def FitT {α : Type} (_ : α) : Prop := True
section
variable {α β : Type}
theorem EncOf.int (k : IntKind) : EncOf (.int k) (fun n : Int => [.int k n]) FitT := by
 intro l h
 obtain ⟨n, rfl, _⟩ := h
 exact ⟨n, .refl _, trivial⟩
theorem EncOf.bool : EncOf .bool (fun n : Bool => [.bool n]) FitT := by
 intro l h
 obtain ⟨n, rfl⟩ := h
 exact ⟨n, .refl _, trivial⟩
theorem Zu.nil : Zu [] (fun _ : Unit => []) FitT := by
 intro l h
 simp only [okL] at h
 subst h
 exact ⟨(), .refl _, trivial⟩
theorem Zu.cons {f : Ty} {fs : List Ty} {e1 : α -> List AV} {e2 : β -> List AV} {W1 : α -> Prop} {W2 : β -> Prop} (h1 : EncOf f e1 W1) (h2 : Zu fs e2 W2) : Zu (f :: fs) (fun p : α × β => e1 p.1 ++ e2 p.2) (fun p => W1 p.1 /\ W2 p.2) := by
 intro l h
 simp only [okL] at h
 obtain ⟨l1, l2, rfl, q1, q2⟩ := h
 obtain ⟨y1, c1, w1⟩ := h1 l1 q1
 obtain ⟨y2, c2, w2⟩ := h2 l2 q2
 exact ⟨(y1, y2), c1.append c2, w1, w2⟩
theorem Zu.st {fs : List Ty} {e : α -> List AV} {W : α -> Prop} (h : Zu fs e W) (g : α -> β) {e' : β -> List AV} {W' : β -> Prop} (he : ∀ x, e x = e' (g x)) (hW : ∀ x, W x -> W' (g x)) : EncOf (.st fs) e' W' := by
 intro l hl
 simp only [Ty.ok] at hl
 obtain ⟨y, c, w⟩ := h l hl
 exact ⟨g y, he y ▸ c, hW y w⟩
theorem exL {R : AV -> α -> Prop} : ∀ {es : List AV}, (∀ x ∈ es, ∃ y, R x y) -> ∃ ys : List α, es.length = ys.length /\ ∀ (i : Nat) (x : AV) (y : α), es[i]? = some x -> ys[i]? = some y -> R x y
 | [], _ => ⟨[], rfl, fun i x y h => by simp at h⟩
 | x :: es, h => by
  obtain ⟨y, hy⟩ := h x (List.mem_cons_self ..)
  obtain ⟨ys, hl, hys⟩ := exL (es := es) fun z hz => h z (List.mem_cons_of_mem _ hz)
  refine ⟨y :: ys, by simp [hl], fun i a b ha hb => ?_⟩
  cases i with
  | zero => simp at ha hb; subst ha; subst hb; exact hy
  | succ i => exact hys i a b (by simpa using ha) (by simpa using hb)
theorem EncOf.sl {τ : Ty} {e : α -> List AV} {W : α -> Prop} (h : EncOf τ e W) (E : α -> AV) (hE : ∀ y, (E y).cells = e y) {n : Nat} (hn : τ.size = n) : EncOf (.sl τ) (fun l : List α => [.sl .rd n (l.map E)]) (FitL W) := by
 intro l hl
 simp only [Ty.ok] at hl
 rcases hl with rfl | ⟨es, rfl, hm, h2⟩
 .exact ⟨[], .one ⟨AE.nl, fun _ => rfl⟩, Nat.zero_le _, fun x hx => by simp at hx⟩
 .obtain ⟨ys, hys, hR⟩ := exL (α := α) (R := fun x y => CEs x.cells (E y).cells /\ W y /\ x.cells.length = τ.size) (es := es) fun x hx => by
   obtain ⟨a1, _, a3⟩ := h2 x hx
   obtain ⟨y, c, w⟩ := h _ a3
   exact ⟨y, (hE y).symm ▸ c, w, a1⟩
  have get : ∀ y ∈ ys, ∃ (i : Nat) (x : AV), es[i]? = some x /\ ys[i]? = some y := fun y hy => by
   obtain ⟨i, hi⟩ := List.getElem?_of_mem hy
   exact ⟨i, _, yA (by rw [hys]; exact (yB hi).1), hi⟩
  refine ⟨ys, .one ⟨?_, fun _ => rfl⟩, by rw [← hys]; exact hm, fun y hy => ?_⟩
  .rw [hn]
   refine AE.sl (by simpa using hys) (fun d hd => ?_) (CEs.flat hys fun i x y hx hy => (hR i x y hx hy).1)
   obtain ⟨y, hy, rfl⟩ := List.mem_map.1 hd
   obtain ⟨i, x, hx, hy'⟩ := get y hy
   have := hR i x y hx hy'
   rw [← this.1.1, this.2.2, hn]
  .obtain ⟨i, x, hx, hy'⟩ := get y hy
   exact (hR i x y hx hy').2.1
theorem EncOf.okV_st {fs : List Ty} {e : α -> List AV} {W : α -> Prop} (h : EncOf (.st fs) e W) {a : AV} (ha : (Ty.st fs).okV a) : ∃ y, AE a (.agg (e y)) /\ W y := by
 obtain ⟨cs, rfl, hc⟩ := ha
 obtain ⟨y, c, w⟩ := h cs (by simpa only [Ty.ok] using hc)
 exact ⟨y, .agg c, w⟩
end
end Go.Proofs.YtndemhaoilhbbaaGreat.Eng
namespace Go.Proofs.YtndemhaoilhbbaaGreat
open Go Go.RowKit Eng
def tyVec : Ty := .st [.int .i64, .int .i64, .int .i64]
def Zyi (x : Vec) : Prop := FitT x.a /\ FitT x.b /\ FitT x.c /\ True
theorem ofVec : EncOf tyVec (fun x : Vec => (eVec x).cells) Zyi := Zu.st (Zu.cons (EncOf.int .i64) (Zu.cons (EncOf.int .i64) (Zu.cons (EncOf.int .i64) Zu.nil))) (fun p => ⟨p.1, p.2.1, p.2.2.1⟩) (fun _ => by rfl) (fun _ h => by exact h)
def tyNode : Ty := .st [.int .i64, tyVec]
def Z0l (x : Node) : Prop := FitT x.leaf /\ Zyi x.cap /\ True
theorem ofNode : EncOf tyNode (fun x : Node => (eNode x).cells) Z0l := Zu.st (Zu.cons (EncOf.int .i64) (Zu.cons ofVec Zu.nil)) (fun p => ⟨p.1, p.2.1⟩) (fun _ => by rfl) (fun _ h => by exact h)
def tyTopo : Ty := .st [.sl (.int .i64), .sl tyNode]
def ZYk (x : Topo) : Prop := (FitL FitT) x.parents /\ (FitL Z0l) x.nodes /\ True
theorem ofTopo : EncOf tyTopo (fun x : Topo => (Zz .rd x).cells) ZYk := Zu.st (Zu.cons (EncOf.sl (EncOf.int .i64) eI (fun _ => rfl) rfl) (Zu.cons (EncOf.sl ofNode eNode (fun _ => rfl) rfl) Zu.nil)) (fun p => ⟨p.1, p.2.1⟩) (fun _ => by rfl) (fun _ h => by exact h)
def tyJob : Ty := .st [.int .i64, .int .i64, .int .i64, tyVec, tyVec, .int .i64, .int .i64]
def Z1l (x : Job) : Prop := FitT x.id /\ FitT x.prio /\ FitT x.nodes /\ Zyi x.need /\ Zyi x.lic /\ FitT x.wall /\ FitT x.level /\ True
theorem ofJob : EncOf tyJob (fun x : Job => (eJob x).cells) Z1l := Zu.st (Zu.cons (EncOf.int .i64) (Zu.cons (EncOf.int .i64) (Zu.cons (EncOf.int .i64) (Zu.cons ofVec (Zu.cons ofVec (Zu.cons (EncOf.int .i64) (Zu.cons (EncOf.int .i64) Zu.nil))))))) (fun p => ⟨p.1, p.2.1, p.2.2.1, p.2.2.2.1, p.2.2.2.2.1, p.2.2.2.2.2.1, p.2.2.2.2.2.2.1⟩) (fun _ => by rfl) (fun _ h => by exact h)
def tyRun : Ty := .st [tyJob, .int .i64, .sl (.int .i64)]
def ZZk (x : Run) : Prop := Z1l x.job /\ FitT x.t /\ (FitL FitT) x.nodes /\ True
theorem ofRun : EncOf tyRun (fun x : Run => (eRunT .rd x).cells) ZZk := Zu.st (Zu.cons ofJob (Zu.cons (EncOf.int .i64) (Zu.cons (EncOf.sl (EncOf.int .i64) eI (fun _ => rfl) rfl) Zu.nil))) (fun p => ⟨p.1, p.2.1, p.2.2.1⟩) (fun _ => by rfl) (fun _ h => by exact h)
def tyEnd : Ty := .st [.int .i64, .int .i64, .int .i64]
def fitEnd (x : End) : Prop := FitT x.id /\ FitT x.t /\ FitT x.why /\ True
theorem ofEnd : EncOf tyEnd (fun x : End => (eEnd x).cells) fitEnd := Zu.st (Zu.cons (EncOf.int .i64) (Zu.cons (EncOf.int .i64) (Zu.cons (EncOf.int .i64) Zu.nil))) (fun p => ⟨p.1, p.2.1, p.2.2.1⟩) (fun _ => by rfl) (fun _ h => by exact h)
def ZKa : Ty := .st [tyTopo, .sl .bool, tyVec, .int .i64, .int .i64, .sl tyJob, .sl tyRun, .sl tyEnd]
def Zja (x : State) : Prop := ZYk x.topo /\ (FitL FitT) x.up /\ Zyi x.lic /\ FitT x.depth /\ FitT x.now /\ (FitL Z1l) x.queue /\ (FitL ZZk) x.runs /\ (FitL fitEnd) x.ends /\ True
theorem ofState : EncOf ZKa (fun x : State => (Z5 .rd x).cells) Zja := Zu.st (Zu.cons ofTopo (Zu.cons (EncOf.sl EncOf.bool eBo (fun _ => rfl) rfl) (Zu.cons ofVec (Zu.cons (EncOf.int .i64) (Zu.cons (EncOf.int .i64) (Zu.cons (EncOf.sl ofJob eJob (fun _ => rfl) rfl) (Zu.cons (EncOf.sl ofRun (eRunT .rd) (fun _ => rfl) rfl) (Zu.cons (EncOf.sl ofEnd eEnd (fun _ => rfl) rfl) Zu.nil)))))))) (fun p => ⟨p.1, p.2.1, p.2.2.1, p.2.2.2.1, p.2.2.2.2.1, p.2.2.2.2.2.1, p.2.2.2.2.2.2.1, p.2.2.2.2.2.2.2.1⟩) (fun _ => by rfl) (fun _ h => by exact h)
section
variable {α : Type}
theorem set_take {a ys : List α} {i : Nat} {x : α} (hx : a[i]? = some x) (hl : ys.length = a.length) (h : ys.take i = a.take i) : (ys.set i x).take (i + 1) = a.take (i + 1) := by
 have hi := (yB hx).1
 apply List.ext_getElem?
 intro j
 by_cases hj : j < i + 1
 .rw [List.getElem?_take_of_lt hj, List.getElem?_take_of_lt hj, List.getElem?_set]
  by_cases e : i = j
  .subst e; rw [if_pos rfl, if_pos (by omega), hx]
  .rw [if_neg e]
   have := congrArg (fun l : List α => l[j]?) h
   rwa [List.getElem?_take_of_lt (by omega), List.getElem?_take_of_lt (by omega)] at this
 .rw [List.getElem?_eq_none (by simp; omega), List.getElem?_eq_none (by simp; omega)]
theorem Z59 {bd : Int × List α -> (Int × List α -> Option (List α)) -> Option (List α)} {a : List α} (hm : a.length < 9223372036854775807)
  (h1 : ∀ (i : Nat) ys k x, a[i]? = some x -> ys.length = a.length -> bd ((i : Int), ys) k = k (((i + 1 : Nat) : Int), ys.set i x)) (h2 : ∀ ys k, bd ((a.length : Int), ys) k = some ys) {ys : List α} (hy : ys.length = a.length) : whl bd 9223372036854775807 (0, ys) = some a := by
 refine ZD9 (fun _ o => o = some a) (fun b => a.length - b.1.toNat) (fun b => ∃ i : Nat, b.1 = (i : Int) /\ i <= a.length /\ b.2.length = a.length /\ b.2.take i = a.take i) ?_ 9223372036854775807 (0, ys) ⟨0, rfl, Nat.zero_le _, hy, rfl⟩ (by simp only; omega)
 rintro ⟨n, zs⟩ k ⟨i, hi, hle, hz, ht⟩ hk
 simp only at hi hz ht hk
 subst hi
 by_cases h : i < a.length
 .rw [h1 i zs k a[i] (yA h) hz]
  exact hk _ ⟨i + 1, rfl, h, by simp [hz], set_take (yA h) hz ht⟩ (by simp only; omega)
 .have : i = a.length := by omega
  subst this
  rw [h2]
  rw [List.take_length, ← hz, List.take_length] at ht
  rw [ht]
theorem ZVa {bs : Nat} {n : Nat} {z : α} (h : bs * n <= 140737488355328) (h' : n <= 9223372036854775807) : mkL bs (n : Int) z = some (List.replicate n z) := by
 unfold mkL
 have e : (bs : Int) * (n : Int) = ((bs * n : Nat) : Int) := by rw [Int.natCast_mul]
 rw [if_pos ⟨by omega, by omega, by omega⟩]
 simp
theorem Zfe {bd : Int -> (Int -> Option Bool) -> Option Bool} {n : Nat} (hm : n < 9223372036854775807) (h1 : ∀ (i : Nat) k, i < n -> bd (i : Int) k = k ((i + 1 : Nat) : Int)) (h2 : ∀ k, bd (n : Int) k = some true) : whl bd 9223372036854775807 0 = some true := by
 refine ZD9 (fun _ o => o = some true) (fun b => n - b.toNat) (fun b => ∃ i : Nat, b = (i : Int) /\ i <= n) ?_ 9223372036854775807 0 ⟨0, rfl, Nat.zero_le _⟩ (by omega)
 rintro _ k ⟨i, rfl, hle⟩ hk
 by_cases h : i < n
 .rw [h1 i k h]
  exact hk _ ⟨i + 1, rfl, h⟩ (by omega)
 .have : i = n := by omega
  subst this
  exact h2 k
theorem Zb6 {n : Nat} : ¬ ((n : Int) < (n : Int)) := by omega
end
theorem Zj9 {l : List Int} (h : l.length <= 1048576) : laws_toIntS l = some l := by
 unfold laws_toIntS
 rw [ZVa (by omega) (by omega), bS]
 refine Z59 (by omega) (fun i ys k x hx hl => ?_) (fun ys k => ?_) (by simp)
 .have hi := (yB hx).1
  have hlt : (i : Int) < (l.length : Int) := by omega
  obtain ⟨y, hy⟩ : ∃ y, ys[i]? = some y := ⟨_, yA (by omega)⟩
  simp only [Zg3, hlt, decide_true, cond_true, Zf, hx, hy, bS, Zz1 (n := i) (by omega), Int.toNat_natCast]
 .simp only [Zg3, Zb6, decide_false, cond_false]
theorem Zad {l : List Node} (h : l.length <= 1048576) : laws_toNodeS l = some l := by
 unfold laws_toNodeS
 rw [ZVa (by omega) (by omega), bS]
 refine Z59 (by omega) (fun i ys k x hx hl => ?_) (fun ys k => ?_) (by simp)
 .have hi := (yB hx).1
  have hlt : (i : Int) < (l.length : Int) := by omega
  obtain ⟨y, hy⟩ : ∃ y, ys[i]? = some y := ⟨_, yA (by omega)⟩
  simp only [ZN2, hlt, decide_true, cond_true, Zf, hx, hy, bS, Zz1 (n := i) (by omega), Int.toNat_natCast]
  rfl
 .simp only [ZN2, Zb6, decide_false, cond_false]
theorem Zed {l : List Bool} (h : l.length <= 1048576) : laws_toBoolS l = some l := by
 unfold laws_toBoolS
 rw [ZVa (by omega) (by omega), bS]
 refine Z59 (by omega) (fun i ys k x hx hl => ?_) (fun ys k => ?_) (by simp)
 .have hi := (yB hx).1
  have hlt : (i : Int) < (l.length : Int) := by omega
  obtain ⟨y, hy⟩ : ∃ y, ys[i]? = some y := ⟨_, yA (by omega)⟩
  simp only [ZO2, hlt, decide_true, cond_true, Zf, hx, hy, bS, Zz1 (n := i) (by omega), Int.toNat_natCast]
 .simp only [ZO2, Zb6, decide_false, cond_false]
theorem ZHe {l : List Job} (h : l.length <= 1048576) : laws_toJobS l = some l := by
 unfold laws_toJobS
 rw [ZVa (by omega) (by omega), bS]
 refine Z59 (by omega) (fun i ys k x hx hl => ?_) (fun ys k => ?_) (by simp)
 .have hi := (yB hx).1
  have hlt : (i : Int) < (l.length : Int) := by omega
  obtain ⟨y, hy⟩ : ∃ y, ys[i]? = some y := ⟨_, yA (by omega)⟩
  simp only [Zf3, hlt, decide_true, cond_true, Zf, hx, hy, bS, Zz1 (n := i) (by omega), Int.toNat_natCast]
  rfl
 .simp only [Zf3, Zb6, decide_false, cond_false]
theorem ZJe {l : List End} (h : l.length <= 1048576) : laws_toEndS l = some l := by
 unfold laws_toEndS
 rw [ZVa (by omega) (by omega), bS]
 refine Z59 (by omega) (fun i ys k x hx hl => ?_) (fun ys k => ?_) (by simp)
 .have hi := (yB hx).1
  have hlt : (i : Int) < (l.length : Int) := by omega
  obtain ⟨y, hy⟩ : ∃ y, ys[i]? = some y := ⟨_, yA (by omega)⟩
  simp only [Zh3, hlt, decide_true, cond_true, Zf, hx, hy, bS, Zz1 (n := i) (by omega), Int.toNat_natCast]
  rfl
 .simp only [Zh3, Zb6, decide_false, cond_false]
theorem ZCe {t : Topo} (h1 : t.parents.length <= 1048576) (h2 : t.nodes.length <= 1048576) : laws_toTopo t = some t := by
 unfold laws_toTopo
 rw [Zj9 h1, bS, Zad h2, bS]
theorem ZJg {x : Run} (h : x.nodes.length <= 1048576) : laws_toRun x = some x := by
 unfold laws_toRun
 rw [Zj9 h, bS]
 rfl
theorem ZEe {l : List Run} (h : l.length <= 1048576) (hn : ∀ x ∈ l, x.nodes.length <= 1048576) : laws_toRunS l = some l := by
 unfold laws_toRunS
 rw [ZVa (by omega) (by omega), bS]
 refine Z59 (by omega) (fun i ys k x hx hl => ?_) (fun ys k => ?_) (by simp)
 .have hi := (yB hx).1
  have hlt : (i : Int) < (l.length : Int) := by omega
  obtain ⟨y, hy⟩ : ∃ y, ys[i]? = some y := ⟨_, yA (by omega)⟩
  simp only [Ze3, hlt, decide_true, cond_true, Zf, hx, hy, bS, Zz1 (n := i) (by omega), Int.toNat_natCast, ZJg (hn x (yE hx))]
 .simp only [Ze3, Zb6, decide_false, cond_false]
structure SizedS (s : State) : Prop where
 parents : s.topo.parents.length <= 1048576
 nodes : s.topo.nodes.length <= 1048576
 up : s.up.length <= 1048576
 jobs : s.queue.length + s.runs.length <= 1048576
 run : ∀ x ∈ s.runs, x.nodes.length <= 1048576
 ends : s.ends.length <= 1048576
theorem Z8d {s : State} (h : SizedS s) : laws_toState s = some s := by
 have := h.jobs
 unfold laws_toState
 rw [ZCe h.parents h.nodes, bS, Zed h.up, bS, ZHe (by omega), bS, ZEe (by omega) h.run, bS, ZJe h.ends, bS]
 rfl
theorem ZV2 {α : Type} [BEq α] [LawfulBEq α] (a : α) : (a != a) = false := by simp
theorem Zm5 (v : Vec) : laws_eqVec v v = true := by simp [laws_eqVec]
theorem Z5c (v : Node) : laws_eqNode v v = true := by simp [laws_eqNode, Zm5]
theorem Zr8 (v : Job) : laws_eqJob v v = true := by simp [laws_eqJob, Zm5]
theorem Znd (v : End) : laws_eqEnd v v = true := by simp [laws_eqEnd]
theorem ZU7 {l : List Int} (h : l.length <= 1048576) : laws_eqIntS l l = some true := by
 unfold laws_eqIntS
 rw [ZV2, cond_false]
 refine Zfe (n := l.length) (by omega) (fun i k hi => ?_) (fun k => ?_)
 .have hlt : (i : Int) < (l.length : Int) := by omega
  obtain ⟨x, hx⟩ : ∃ x, l[i]? = some x := ⟨_, yA hi⟩
  simp only [Zk3, hlt, decide_true, cond_true, Zf, hx, bS, Zz1 (n := i) (by omega), ZV2, cond_false]
 .simp only [Zk3, Zb6, decide_false, cond_false]
theorem Z1b {l : List Node} (h : l.length <= 1048576) : laws_eqNodeS l l = some true := by
 unfold laws_eqNodeS
 rw [ZV2, cond_false]
 refine Zfe (n := l.length) (by omega) (fun i k hi => ?_) (fun k => ?_)
 .have hlt : (i : Int) < (l.length : Int) := by omega
  obtain ⟨x, hx⟩ : ∃ x, l[i]? = some x := ⟨_, yA hi⟩
  simp only [ZP2, hlt, decide_true, cond_true, Zf, hx, bS, Zz1 (n := i) (by omega), Z5c, Bool.not_true, cond_false]
 .simp only [ZP2, Zb6, decide_false, cond_false]
theorem Z2b {l : List Bool} (h : l.length <= 1048576) : laws_eqBoolS l l = some true := by
 unfold laws_eqBoolS
 rw [ZV2, cond_false]
 refine Zfe (n := l.length) (by omega) (fun i k hi => ?_) (fun k => ?_)
 .have hlt : (i : Int) < (l.length : Int) := by omega
  obtain ⟨x, hx⟩ : ∃ x, l[i]? = some x := ⟨_, yA hi⟩
  simp only [ZQ2, hlt, decide_true, cond_true, Zf, hx, bS, Zz1 (n := i) (by omega), beq_self_eq_true, Bool.not_true, cond_false]
 .simp only [ZQ2, Zb6, decide_false, cond_false]
theorem Z7c {l : List Job} (h : l.length <= 1048576) : laws_eqJobS l l = some true := by
 unfold laws_eqJobS
 rw [ZV2, cond_false]
 refine Zfe (n := l.length) (by omega) (fun i k hi => ?_) (fun k => ?_)
 .have hlt : (i : Int) < (l.length : Int) := by omega
  obtain ⟨x, hx⟩ : ∃ x, l[i]? = some x := ⟨_, yA hi⟩
  simp only [Zj3, hlt, decide_true, cond_true, Zf, hx, bS, Zz1 (n := i) (by omega), Zr8, Bool.not_true, cond_false]
 .simp only [Zj3, Zb6, decide_false, cond_false]
theorem Z8c {l : List End} (h : l.length <= 1048576) : laws_eqEndS l l = some true := by
 unfold laws_eqEndS
 rw [ZV2, cond_false]
 refine Zfe (n := l.length) (by omega) (fun i k hi => ?_) (fun k => ?_)
 .have hlt : (i : Int) < (l.length : Int) := by omega
  obtain ⟨x, hx⟩ : ∃ x, l[i]? = some x := ⟨_, yA hi⟩
  simp only [Zl3, hlt, decide_true, cond_true, Zf, hx, bS, Zz1 (n := i) (by omega), Znd, Bool.not_true, cond_false]
 .simp only [Zl3, Zb6, decide_false, cond_false]
theorem ZZ2 {l : List Str} (h : l.length <= 1048576) : laws_eqStringS l l = some true := by
 unfold laws_eqStringS
 rw [ZV2, cond_false]
 refine Zfe (n := l.length) (by omega) (fun i k hi => ?_) (fun k => ?_)
 .have hlt : (i : Int) < (l.length : Int) := by omega
  obtain ⟨x, hx⟩ : ∃ x, l[i]? = some x := ⟨_, yA hi⟩
  simp only [Za2, hlt, decide_true, cond_true, Zf, hx, bS, Zz1 (n := i) (by omega), ZV2, cond_false]
 .simp only [Za2, Zb6, decide_false, cond_false]
theorem Z3c {t : Topo} (h1 : t.parents.length <= 1048576) (h2 : t.nodes.length <= 1048576) : laws_eqTopo t t = some true := by
 unfold laws_eqTopo
 rw [ZU7 h1, bS, Z1b h2]
 rfl
theorem Zkd {x : Run} (h : x.nodes.length <= 1048576) : laws_eqRun x x = some true := by
 unfold laws_eqRun
 rw [Zr8, ZU7 h, ZV2]
 rfl
theorem Z4c {l : List Run} (h : l.length <= 1048576) (hn : ∀ x ∈ l, x.nodes.length <= 1048576) : laws_eqRunS l l = some true := by
 unfold laws_eqRunS
 rw [ZV2, cond_false]
 refine Zfe (n := l.length) (by omega) (fun i k hi => ?_) (fun k => ?_)
 .have hlt : (i : Int) < (l.length : Int) := by omega
  obtain ⟨x, hx⟩ : ∃ x, l[i]? = some x := ⟨_, yA hi⟩
  simp only [Zi3, hlt, decide_true, cond_true, Zf, hx, bS, Zz1 (n := i) (by omega), Zkd (hn x (yE hx)), Bool.not_true, cond_false]
 .simp only [Zi3, Zb6, decide_false, cond_false]
theorem Z0b {s : State} (h : SizedS s) : laws_eqState s s = some true := by
 have := h.jobs
 unfold laws_eqState
 rw [Z3c h.parents h.nodes, Z2b h.up, Zm5, ZV2, ZV2, Z7c (by omega), Z4c (by omega) h.run, Z8c h.ends]
 rfl
theorem sz_eq {n : Int} {c : Nat} (h0 : 0 <= n) (h : n <= 1048576) (hc : c <= maxLen) : (bif decide (w64 (n - (c : Int)) < 0) then (-1 : Int) else w64 (n - (c : Int))) = szr n c := by
 have hm : maxLen = 9223372036854775807 := rfl
 rw [Z72 (by omega)]
 unfold szr
 by_cases q : n < c
 .rw [if_pos q, show decide (n - (c : Int) < 0) = true by rw [decide_eq_true_eq]; omega]; rfl
 .rw [if_neg q, show decide (n - (c : Int) < 0) = false by rw [decide_eq_false_iff_not]; omega]; rfl
theorem ZF9 {n : Int} {c : Nat} : (szr n c < 0) \/ (0 <= szr n c /\ (c : Int) <= n /\ szr n c = n - c) := by
 unfold szr; split
 .exact .inl (by omega)
 .exact .inr (by omega)
theorem szRun_eq {x : Run} {n : Int} (h0 : 0 <= n) (h : n <= 1048576) (hc : x.nodes.length <= maxLen) : laws_szRun x n = szr n x.nodes.length := by
 unfold laws_szRun laws_szIntS
 rw [sz_eq h0 h hc]
 rcases ZF9 (n := n) (c := x.nodes.length) with q | q
 .have : szr n x.nodes.length = -1 := by unfold szr at q ⊢; split <;> omega
  rw [this]; rfl
 .have : decide (szr n x.nodes.length < 0) = false := by simp; omega
  rw [this]; rfl
theorem Zjk {l : List Run} {n : Int} (h0 : 0 <= n) (h : n <= 1048576) (hc : FitL ZZk l) : ∃ r, laws_szRunS l n = some r /\ r <= n /\ (0 <= r -> (l.length : Int) + r <= n /\ ∀ x ∈ l, x.nodes.length <= 1048576) := by
 have hm : maxLen = 9223372036854775807 := rfl
 obtain ⟨c1, c2⟩ := hc
 unfold laws_szRunS
 rw [Z72 (by omega)]
 by_cases q : n - (l.length : Int) < 0
 .exact ⟨-1, by simp [q], by omega, fun h => by omega⟩
 .simp only [q, decide_false, cond_false]
  refine ZD9 (fun _ o => ∃ r, o = some r /\ r <= n /\ (0 <= r -> (l.length : Int) + r <= n /\ ∀ x ∈ l, x.nodes.length <= 1048576)) (fun b => l.length - b.2.toNat) (fun b => ∃ i : Nat, b.2 = (i : Int) /\ i <= l.length /\ 0 <= b.1 /\ (l.length : Int) + b.1 <= n /\ ∀ j x, j < i -> l[j]? = some x -> x.nodes.length <= 1048576) ?_ 9223372036854775807 (n - (l.length : Int), 0) ⟨0, rfl, Nat.zero_le _, by simp only; omega, by simp only; omega, fun j x hj => by omega⟩ (by simp only; omega)
  rintro ⟨m, _⟩ k ⟨i, rfl, hi, hm0, hmn, hall⟩ hk
  simp only at hm0 hmn hk
  unfold Zl5
  by_cases hlt : i < l.length
  .have hlt' : (i : Int) < (l.length : Int) := by omega
   have hx : l[i]? = some l[i] := yA hlt
   simp only [hlt', decide_true, cond_true, Zf, hx, bS, Zz1 (n := i) (by omega)]
   rw [szRun_eq hm0 (by omega) (c2 _ (List.getElem_mem hlt)).2.2.1.1]
   rcases ZF9 (n := m) (c := l[i].nodes.length) with q | q
   .simp only [q, decide_true, cond_true]
    exact ⟨-1, rfl, by omega, fun h => by omega⟩
   .have : ¬ szr m l[i].nodes.length < 0 := by omega
    simp only [this, decide_false, cond_false]
    refine hk _ ⟨i + 1, rfl, hlt, q.1, by simp only; omega, fun j x hj hx' => ?_⟩ (by simp only; omega)
    by_cases e : j = i
    .subst e; rw [hx] at hx'; cases hx'; omega
    .exact hall j x (by omega) hx'
  .have : i = l.length := by omega
   subst this
   simp only [Zb6, decide_false, cond_false]
   exact ⟨m, rfl, by omega, fun _ => ⟨hmn, fun x hx => by
    obtain ⟨j, hj⟩ := List.getElem?_of_mem hx
    exact hall j x (yB hj).1 hj⟩⟩
theorem Zk9 {s : State} (hf : Zja s) {n : Int} (hn0 : 0 <= n) (hn : n <= 1048576) : ∃ r, laws_szState s n = some r /\ (r < 0 \/ (SizedS s /\ r <= n)) := by
 obtain ⟨⟨p1, p2, _⟩, p3, _, _, _, p4, p5, p6, _⟩ := hf
 have no : ∀ {c : Prop} [Decidable c], c -> (decide c) = true := fun h => by simp [h]
 have nn : ∀ {c : Prop} [Decidable c], ¬ c -> (decide c) = false := fun h => by simp [h]
 have bad : ∃ r, (some (-1) : Option Int) = some r /\ (r < 0 \/ (SizedS s /\ r <= n)) := ⟨-1, rfl, .inl (by omega)⟩
 unfold laws_szState
 have e1 : laws_szIntS s.topo.parents n = szr n s.topo.parents.length := sz_eq hn0 hn p1.1
 have et : laws_szTopo s.topo n < 0 \/ (s.topo.parents.length <= 1048576 /\ s.topo.nodes.length <= 1048576 /\ 0 <= laws_szTopo s.topo n /\ laws_szTopo s.topo n <= n) := by
  unfold laws_szTopo
  rw [e1]
  rcases ZF9 (n := n) (c := s.topo.parents.length) with q | q
  .rw [no q, cond_true]; exact .inl (by omega)
  .rw [nn (by omega), cond_false]
   have e2 : laws_szNodeS s.topo.nodes (szr n s.topo.parents.length) = szr (szr n s.topo.parents.length) s.topo.nodes.length := sz_eq q.1 (by omega) p2.1
   rw [e2]
   rcases ZF9 (n := szr n s.topo.parents.length) (c := s.topo.nodes.length) with q' | q'
   .rw [no q', cond_true]; exact .inl (by omega)
   .rw [nn (by omega), cond_false]
    exact .inr (by omega)
 generalize laws_szTopo s.topo n = m0 at et ⊢
 rcases et with q | q
 .rw [no q, cond_true]; exact bad
 rw [nn (by omega), cond_false]
 have e3 : laws_szBoolS s.up m0 = szr m0 s.up.length := sz_eq (by omega) (by omega) p3.1
 rw [e3]
 rcases ZF9 (n := m0) (c := s.up.length) with r | r
 .rw [no r, cond_true]; exact bad
 rw [nn (by omega), cond_false]
 generalize szr m0 s.up.length = m1 at r ⊢
 have e4 : laws_szJobS s.queue m1 = szr m1 s.queue.length := sz_eq (by omega) (by omega) p4.1
 rw [e4]
 rcases ZF9 (n := m1) (c := s.queue.length) with t | t
 .rw [no t, cond_true]; exact bad
 rw [nn (by omega), cond_false]
 generalize szr m1 s.queue.length = m2 at t ⊢
 obtain ⟨m3, e5, u1, u2⟩ := Zjk (n := m2) (by omega) (by omega) p5
 rw [e5, bS]
 by_cases u : m3 < 0
 .rw [no u, cond_true]; exact bad
 rw [nn u, cond_false]
 have u' := u2 (by omega)
 have e6 : laws_szEndS s.ends m3 = szr m3 s.ends.length := sz_eq (by omega) (by omega) p6.1
 rw [e6]
 rcases ZF9 (n := m3) (c := s.ends.length) with v | v
 .rw [no v, cond_true]; exact bad
 rw [nn (by omega), cond_false]
 exact ⟨_, rfl, .inr ⟨⟨q.1, q.2.1, by omega, by omega, u'.2, by omega⟩, by omega⟩⟩
end Go.Proofs.YtndemhaoilhbbaaGreat
namespace Go.Proofs.YtndemhaoilhbbaaGreat.Eng
open Go Go.RowKit
section
variable {P : Program} {s : St} {K : St -> Prop}
@[simp] theorem wop_oln {d : Nat} {x : X} : wop P (.oln d x) K s = match s.get x with
  | .od _ _ n => K (s.set d (.int .i64 n))
  | _ => False := _root_.id rfl
@[simp] theorem wop_oia {d n : Nat} {x i : X} : wop P (.oia d x i n) K s = match s.get x with
  | .od m ks l => match isIdx (s.get i) l with
   | some _ => ks.length = n /\ K (s.set d (.op m ks 0))
   | none => False
  | _ => False := _root_.id rfl
@[simp] theorem wop_ofa {d off : Nat} {x : X} : wop P (.ofa d x off) K s = match s.get x with
  | .op m ks o => K (s.set d (.op m ks (o + off)))
  | _ => False := _root_.id rfl
@[simp] theorem wop_old {d : Nat} {p : X} : wop P (.old d p) K s = match s.get p with
  | .op m ks off => match ks[off]? with
   | some (.l ks') => ∀ n, n <= 1048576 -> K (s.set d (.od m ks' n))
   | _ => False
  | _ => False := _root_.id rfl
@[simp] theorem wop_ost {p x : X} : wop P (.ost p x) K s = match s.get p with
  | .op m ks off => match ks[off]? with
   | some k => s.my m /\ s.kn m /\ kindOk k (s.get x) = true /\ K s
   | none => False
  | _ => False := _root_.id rfl
section
variable {m : Nat} {rks : List Nat}
@[simp] theorem losing_e {i : Nat} : (s.losing m rks).e i = (s.e i).lose m := _root_.id rfl
@[simp] theorem losing_bx {k : Nat} : (s.losing m rks).bx k = (s.bx k).map fun cs => cs.map (AV.lose1 m) := _root_.id rfl
@[simp] theorem losing_rw {k : Nat} : (s.losing m rks).rw k = if k ∈ rks then s.rw k else none := _root_.id rfl
@[simp] theorem losing_nx : (s.losing m rks).nx = s.nx := _root_.id rfl
@[simp] theorem losing_my : (s.losing m rks).my = s.my := _root_.id rfl
@[simp] theorem losing_kn : (s.losing m rks).kn = s.kn := _root_.id rfl
end
theorem do_cf {d f m : Nat} {xs : List X} {az : List AV} {Φ : Int -> Prop} (rks : List Nat) (hv : Hav P f az Φ) (ha : hvLs m (xs.map s.get) az) (hm : s.my m) (hr : ∀ k ∈ rks, ∀ r, s.rw k = some r -> freeL m r.es = true)
  (h : ∀ k, Φ k -> K (St.set (s.losing m rks) d (.int .i64 k))) : wop P (.cf d f m xs) K s := ⟨hm, az, Φ, rks, hv, ha, hr, h⟩
theorem do_co (n : Nat) {d f : Nat} {xs : List X} {az : List AV} {res : AV} {rows : List Row} (hs : Snd P f az res rows) (ha : argsW s xs az) (hp : (res.nwd rows).pl) (hn : s.nx = n) (h : K (St.set { s with nx := n + 1 } d ((res.nwd rows).ownt n))) : wop P (.co d f xs) K s := by
 subst hn
 obtain ⟨l, e, hs⟩ := ZHh ha hs
 exact ⟨l, e, res, rows, hs, hp, h⟩
attribute [simp] AV.lose AV.lose1 AV.free freeL AV.ownt owntL AV.pl plL hv1 hvA hvL hvLs AV.fitX fitC kindOk
@[simp] theorem freeL_map {α : Type} (m : Nat) (e : α -> AV) (l : List α) : freeL m (l.map e) = true ↔ ∀ x ∈ l, (e x).free m = true := by rw [Zs3]; simp
@[simp] theorem fitE_nil (m : Nat) (ks : List DK) : fitE m ks [] = True := by simp [fitE]
@[simp] theorem fitE_cons (m : Nat) (ks : List DK) (e : AV) (l : List AV) : fitE m ks (e :: l) = (AV.fitX m ks e /\ fitE m ks l) := by simp [fitE]
@[simp] theorem fitE_map {α : Type} (m : Nat) (ks : List DK) (e : α -> AV) : ∀ l : List α, fitE m ks (l.map e) ↔ ∀ x ∈ l, AV.fitX m ks (e x)
 | [] => by simp
 | a :: l => by simp [fitE_map m ks e l]
@[simp] theorem plL_map {α : Type} (e : α -> AV) : ∀ l : List α, plL (l.map e) ↔ ∀ x ∈ l, (e x).pl
 | [] => by simp
 | a :: l => by simp [plL_map e l]
theorem Z2i {α : Type} (i : Nat) (e e' : α -> AV) (h : ∀ x, (e x).ownt i = e' x) (l : List α) : owntL i (l.map e) = l.map e' := by rw [ZV6, List.map_map]; exact List.map_congr_left fun x _ => h x
def postH (rs : List Rv) (Φ : Int -> Prop) (e : Ex) (s : St) : Prop := (match e with | .ext _ => False | _ => True) /\ ∃ k, s.rvs rs = some [.int .i64 k] /\ Φ k
theorem hav_of {f : FuncId} {fn : Func} {l : L} {rs : List Rv} {args : List AV} {Φ : Int -> Prop} (hf : P.funcs[f]? = some fn) (hc : chkF P args.length l rs fn = true) (h : den P l (postH rs Φ) (stH args)) : Hav P f args Φ := by
  simp only [chkF, yD, decide_eq_true_eq] at hc
  obtain ⟨⟨⟨⟨hc, hr⟩, hr4⟩, hn⟩, hnb⟩ := hc
  cases hb : fn.body with
  | none => rw [hb] at hc; cases hc
  | some code =>
    rw [hb] at hc
    simp only at hc
    intro w D vs hD hvl hvs
    let c : Cx := { nt := fn.ntmps, X := D, Y := fun _ => True, S0 := fun _ _ => False, w0 := w, rv0 := fun _ => undef, bb0 := fun _ => 0, ntb := hnb, D := D, s0 := fun _ _ h => h.elim, sx := fun _ _ h => h.elim }
    have ov0 : ∀ i E, (ghD D).ov i = some E -> i = 0 /\ E = D := by
      intro i E h
      simp only [ghD] at h
      split at h
      · rename_i hi; cases h; exact ⟨hi, rfl⟩
      · cases h
    have I : Inv c (ghD D) (stH args) { tmps := vs.toArray ++ Array.replicate (fn.ntmps - vs.toArray.size) undef, defers := [] } w := by
      refine ⟨rfl, by simp only [Array.size_append, List.size_toArray, Array.size_replicate, c]; omega, ⟨rfl, rfl, rfl, Nat.le_refl _, fun _ _ _ => rfl⟩, fun i => ?_, fun k cs h => (by cases h), fun k cs h => (by cases h), fun k r h => (by cases h), fun k r h => (by cases h), fun k k' cs cs' h => (by cases h), fun k k' cs r h => (by cases h), fun k k' r r' h => (by cases h), fun b o h => (show False from h).elim, fun b h => trivial, fun b _ _ => trivial, fun _ _ => ⟨rfl, rfl⟩, fun _ _ h => h, fun _ _ h => .inl h,
        ⟨⟨fun i E h => ?_, fun i E h b hb => ?_, fun i j E E' h1 h2 hne => ?_, fun k cs h => (by cases h), fun k r h => (by cases h), fun i E h b hb => ?_⟩, fun i E h _ b hb => ?_, rfl, Nat.zero_le _, fun i h => absurd h (Nat.not_lt_zero i), fun b hb => ⟨0, D, rfl, hb⟩, fun i hi => ⟨?_, fun E h b hb => ?_⟩, fun b o v _ hv => ⟨v, hv, .refl v⟩⟩, fun b o h => (show False from h).elim, fun b o h => (show False from h).elim⟩
      · simp only [stH]
        rcases Nat.lt_or_ge i args.length with hi | hi
        · have hiv : i < vs.length := by omega
          have e1 : args.getD i .und = args[i] := by simp [List.getD_eq_getElem?_getD, hi]
          have e2 : (vs.toArray ++ Array.replicate (fn.ntmps - vs.toArray.size) undef).getD i undef = vs[i] := by
            simp [Array.getD_eq_getD_getElem?, Array.getElem?_append_left, hiv]
          rw [e1, e2]
          exact Gv.turn (s := stH []) (s' := stH args) (ZMh rfl rfl (fun _ _ _ => rfl) kd_id) (hvs i args[i] vs[i] (yA hi) (yA hiv))
        · have e1 : args.getD i .und = .und := by simp [List.getD_eq_getElem?_getD, List.getElem?_eq_none hi]
          have e2 : (vs.toArray ++ Array.replicate (fn.ntmps - vs.toArray.size) undef).getD i undef = undef := by
            rw [Array.getD_eq_getD_getElem?, Array.getElem?_append_right (by simp; omega), Array.getElem?_replicate]
            split <;> rfl
          rw [e1, e2]
          exact .und
      · obtain ⟨rfl, _⟩ := ov0 i E h; exact Nat.one_pos
      · obtain ⟨_, rfl⟩ := ov0 i E h; exact ⟨(hD b hb).1, trivial⟩
      · obtain ⟨rfl, _⟩ := ov0 i E h1; obtain ⟨rfl, _⟩ := ov0 j E' h2; exact absurd rfl hne
      · obtain ⟨_, rfl⟩ := ov0 i E h; exact (hD b hb).2
      · obtain ⟨_, rfl⟩ := ov0 i E h; exact ⟨trivial, fun _ => hb⟩
      · have hi' : i = 0 := hi
        subst hi'; exact Nat.one_pos
      · obtain ⟨_, rfl⟩ := ov0 i E h; exact hb
    refine calls_of_wp hf hb ?_
    refine Zhb (c := c) hc (fun e g' s' a' w' I' hp => ?_) I h
    have fin : (∃ v, (results fn a'.tmps).run P w' = .ok v w' /\ ∃ k, Ending.returned v = .returned (.int .i64 k) /\ Φ k /\ Kept D w w' /\ (∀ b, D b -> UnfB w' b) /\
        ∀ b o v, D b -> w.cell? ⟨b, o, none⟩ = some v -> ∃ v', w'.cell? ⟨b, o, none⟩ = some v' /\ KRel v v') := by
      obtain ⟨_, k, h1, h2⟩ := hp
      obtain ⟨u, q1, q2⟩ := ZI9 (P := P) I' hr4 hr h1
      have hu : u = .int .i64 k := (show Gv w' g' s' (.int .i64 k) u from q2).int_inv
      refine ⟨u, q1, k, by rw [hu], h2, ⟨I'.fr.os, I'.fr.tape, I'.fr.output, I'.fr.size, fun k hk hx => I'.fr.block k hk hx⟩, fun b hb => ?_, fun b o v hb hv => I'.ow.dk b o v hb hv⟩
      obtain ⟨i, E, e1, e2⟩ := I'.ow.dd b hb
      exact I'.ow.uf i E e1 b e2
    cases e with
    | nrm => exact ⟨I'.defers, fin⟩
    | ret => exact ⟨I'.defers, fin⟩
    | ext id => exact hp.1.elim
theorem ZCb {f : FuncId} {l : L} {rs : List Rv} {args : List AV} {Φ : Int -> Prop} {n : Nat} (hc : chkFn P f n l rs = true) (hn : args.length = n) (h : den P l (postH rs Φ) (stH args)) : Hav P f args Φ := by
 unfold chkFn at hc
 split at hc
 .rename_i fn hf
  subst hn
  exact hav_of hf hc h
 .cases hc
attribute [simp] stH
@[simp] theorem set_my {d : Nat} {v : AV} : (s.set d v).my = s.my := _root_.id rfl
@[simp] theorem set_nx {d : Nat} {v : AV} : (s.set d v).nx = s.nx := _root_.id rfl
@[simp] theorem kill_nx {k : Nat} : (s.kill k).nx = s.nx := _root_.id rfl
@[simp] theorem st0_nx {args : List AV} : (st0 args).nx = 0 := _root_.id rfl
@[simp] theorem st0_my {args : List AV} : (st0 args).my = fun _ => True := _root_.id rfl
@[simp] theorem ownt_int {i : Nat} {k : IntKind} {n : Int} : (AV.int k n).ownt i = .int k n := _root_.id rfl
@[simp] theorem ownt_bool {i : Nat} {b : Bool} : (AV.bool b).ownt i = .bool b := _root_.id rfl
@[simp] theorem ownt_str {i : Nat} {b : List UInt8} : (AV.str b).ownt i = .str b := _root_.id rfl
@[simp] theorem ownt_nl {i : Nat} : AV.nl.ownt i = .nl := _root_.id rfl
@[simp] theorem ZP3 {α : Type} {i : Nat} {e : α -> AV} (h : ∀ x, (e x).ownt i = e x) (l : List α) : owntL i (l.map e) = l.map e := Z2i i e e h l
@[simp] theorem kill_my {k : Nat} : (s.kill k).my = s.my := _root_.id rfl
@[simp] theorem kill_kn {k : Nat} : (s.kill k).kn = s.kn := _root_.id rfl
@[simp] theorem set_kn {d : Nat} {v : AV} : (s.set d v).kn = s.kn := _root_.id rfl
end
end Go.Proofs.YtndemhaoilhbbaaGreat.Eng
namespace Go.Proofs.YtndemhaoilhbbaaGreat
open Go Go.RowKit Eng
theorem ZFg {n : Int} (h0 : 0 <= n) (h1 : n < 10) : IntKind.u8.wrap (48 + n) = ((UInt8.ofNat (48 + n.toNat)).toNat : Int) := by
 unfold IntKind.wrap
 simp [IntKind.bits, IntKind.signed]
 omega
def m_dgt (n : Nat) : UInt8 := UInt8.ofNat (48 + n % 10)
theorem m_u8_dgt {n : Int} (h0 : 0 <= n) : IntKind.u8.wrap (IntKind.i64.wrap (48 + n.tmod 10)) = ((m_dgt n.toNat).toNat : Int) := by
 have e : n.tmod 10 = n % 10 := Int.tmod_eq_emod_of_nonneg h0
 rw [e, ZX2 (by omega) (by omega), ZFg (by omega) (by omega)]
 have : (n % 10).toNat = n.toNat % 10 := by omega
 rw [this]; rfl
theorem m_quo10 {n : Int} (h0 : 0 <= n) (h1 : n <= 9223372036854775807) : IntKind.i64.wrap (n.tdiv 10) = n / 10 := by
 have e : n.tdiv 10 = n / 10 := Int.tdiv_eq_ediv_of_nonneg h0
 rw [e, ZX2 (by omega) (by omega)]
def digs (fuel : Nat) (k : Int) (out : Str) : Str := match fuel with
 | 0 => out
 | fuel + 1 => if 0 < k then digs fuel (k / 10) (UInt8.ofNat (48 + (k % 10).toNat) :: out) else out
def markT (k : Int) : Str := if k <= 0 then [109, 48] else 109 :: digs 20 k []
def ZY6 : L :=
 .seq (
 .reg [.mv 2 (.c (.str []))]) (
 .seq (
 .seq (
 .reg [.mv 4 (.t 0),.bi 5 .leq (.t 4) (.c (.int .i64 0))]) (
 .cond (.t 5) (
  .seq (
  .reg [.mv 2 (.c (.str [109, 48]))]) (
  .ret)) (
  .skip))) (
 .seq (
 .reg [.mv 3 (.c (.str []))]) (
 .seq (
 .blk 0 (
  .loop (
   .seq (
   .seq (
   .reg [.mv 6 (.t 0),.bi 7 .gtr (.t 6) (.c (.int .i64 0))]) (
   .cond (.t 7) (
    .skip) (
    .exit 0))) (
   .blk 1 (
    .seq (
    .reg [.mv 8 (.t 0),.bi 9 .rem (.t 8) (.c (.int .i64 10)),.bi 10 .add (.c (.int .i64 48)) (.t 9),.cv 11 .u8 (.t 10),.bs 12 1 [(.t 11)] true,.b2s 13 (.t 12),.mv 14 (.t 3),.sa 15 (.t 13) (.t 14),.mv 3 (.t 15)]) (
    .reg [.mv 16 (.t 0),.bi 17 .quo (.t 16) (.c (.int .i64 10)),.mv 0 (.t 17)])))))) (
 .seq (
 .reg [.mv 18 (.t 3),.sa 19 (.c (.str [109])) (.t 18),.mv 2 (.t 19)]) (
 .ret)))))
def ZP6 : List Rv := [.t 2]
theorem Zjb : chkFn Tryz.prog ZA3 1 ZY6 ZP6 = true := by kernel_rfl
theorem Z4d (k : Int) (h0 : 0 <= k) (h1 : k <= 4611686018427387904) : Snd Tryz.prog ZA3 [.int .i64 k] (.str (markT k)) [] := by
 refine Zhj Zjb rfl rfl (den_W ?_)
 unfold ZY6 ZP6
 by_cases h : k <= 0
 .simp [h, markT]
 .simp [h]
  have hd : ∀ (f : Nat) (k : Int) (o : Str), k <= 0 -> digs f k o = o := by
   intro f k o hk
   cases f with
   | zero => rfl
   | succ f => rw [digs, if_neg (by omega)]
  refine ZI8 (fun m s => ∃ (f : Nat) (j : Int) (o : Str), m = j.toNat /\ 0 <= j /\ j <= 4611686018427387904 /\ j < 10 ^ f /\ o.length + f <= 20 /\ digs 20 k [] = digs f j o /\ s.e 0 = .int .i64 j /\ s.e 3 = .str o) k.toNat ?_ ?_
  .exact ⟨20, k, [], rfl, h0, h1, by omega, by simp, rfl, by simp, by simp⟩
  .rintro m s ⟨f, j, o, rfl, j0, j1, jf, hl, he, e0, e3⟩
   simp [e0, e3]
   refine ⟨fun hj => ?_, fun hj => ?_⟩
   .cases f with
    | zero => simp at jf; omega
    | succ f =>
     refine ⟨[m_dgt j.toNat], by rw [m_u8_dgt j0]; simp, ?_⟩
     simp
     refine ⟨by omega, j.toNat / 10, by omega, f, j / 10, by omega, by omega, by omega, by rw [Int.pow_succ] at jf; omega, m_dgt j.toNat :: o, by simp; omega, ?_, m_quo10 j0 (by omega), rfl⟩
     rw [he, digs, if_pos hj]
     congr 1
     unfold m_dgt
     have : (j % 10).toNat = j.toNat % 10 := by omega
     rw [this]
   .have e : digs f j o = o := hd f j o (by omega)
    rw [e] at he
    simp [markT, h, he]
    omega
def kB (k b : Int) : Int -> Prop := fun j => k <= j /\ j <= k + b
def Z17 : L :=
 .seq (
 .reg [.mv 4 (.c (.int .i64 0))]) (
 .seq (
 .seq (
 .reg [.mv 5 (.c (.int .i64 0))]) (
 .blk 0 (
  .loop (
   .seq (
   .seq (
   .reg [.mv 6 (.t 5),.mv 7 (.t 0),.oln 8 (.t 7),.bi 9 .lss (.t 6) (.t 8)]) (
   .cond (.t 9) (
    .skip) (
    .exit 0))) (
   .seq (
   .blk 1 (
    .seq (
    .reg [.mv 12 (.t 0),.mv 13 (.t 5),.mv 14 (.t 1),.oia 15 (.t 12) (.t 13) 1,.ost (.t 15) (.t 14)]) (
    .reg [.mv 16 (.t 1),.bi 17 .add (.t 16) (.c (.int .i64 1)),.mv 1 (.t 17)]))) (
   .reg [.mv 10 (.t 5),.bi 11 .add (.t 10) (.c (.int .i64 1)),.mv 5 (.t 11)])))))) (
 .seq (
 .reg [.mv 18 (.t 1),.mv 4 (.t 18)]) (
 .ret)))
def ZS6 : List Rv := [.t 4]
theorem Zmb : chkFn Tryz.prog ZC3 2 Z17 ZS6 = true := by kernel_rfl
set_option maxRecDepth 10000 in
theorem ZAb (n : Nat) (hn : n <= 1048576) (k : Int) (h0 : 0 <= k) (h1 : k <= 2251799813685248) :
  Hav Tryz.prog ZC3 [.od 0 [.i .i64] n, .int .i64 k] (kB k (1 * n)) := by
 refine ZCb Zmb rfl (den_W ?_)
 unfold Z17 ZS6
 simp
 refine ZI8 (fun m s => ∃ (i : Nat) (j : Int), m = n - i /\ i <= n /\ k <= j /\ j <= k + 1 * i /\ s.e 0 = .od 0 [.i .i64] n /\ s.e 1 = .int .i64 j /\ s.e 5 = .int .i64 (i : Nat) /\ s.my 0 /\ s.kn 0) n ?_ ?_
 .exact ⟨0, k, by simp⟩
 .rintro m s ⟨i, j, rfl, hi, hj0, hj1, e0, e1, e5, hm, hk⟩
  by_cases h : i < n
  .have hw : ∀ q : Int, 0 <= q -> q <= 4611686018427387904 -> IntKind.i64.wrap q = q := fun q h0 h1 => ZX2 (by omega) (by omega)
   simp [e0, e1, e5, h, hm, hk, hw (j + 1) (by omega) (by omega)]
   exact ⟨n - (i + 1), by omega, i + 1, rfl, by omega, j + 1, by omega, by simp; omega, rfl, by rw [hw _ (by omega) (by omega)]; simp⟩
  .have : i = n := by omega
   subst this
   simp [e0, e1, e5, kB, postH]
   omega
def Z26 : L :=
 .seq (
 .reg [.mv 4 (.c (.int .i64 0))]) (
 .seq (
 .seq (
 .reg [.mv 5 (.c (.int .i64 0))]) (
 .blk 0 (
  .loop (
   .seq (
   .seq (
   .reg [.mv 6 (.t 5),.mv 7 (.t 0),.oln 8 (.t 7),.bi 9 .lss (.t 6) (.t 8)]) (
   .cond (.t 9) (
    .skip) (
    .exit 0))) (
   .seq (
   .blk 1 (
    .seq (
    .reg [.mv 12 (.t 0),.mv 13 (.t 5),.mv 14 (.t 1),.oia 15 (.t 12) (.t 13) 4,.ofa 16 (.t 15) 0,.ost (.t 16) (.t 14)]) (
    .seq (
    .reg [.mv 17 (.t 1),.bi 18 .add (.t 17) (.c (.int .i64 1)),.mv 1 (.t 18)]) (
    .seq (
    .reg [.mv 19 (.t 0),.mv 20 (.t 5),.mv 21 (.t 1),.oia 22 (.t 19) (.t 20) 4,.ofa 23 (.t 22) 1,.ofa 24 (.t 23) 0,.ost (.t 24) (.t 21)]) (
    .seq (
    .reg [.mv 25 (.t 1),.bi 26 .add (.t 25) (.c (.int .i64 1)),.mv 1 (.t 26)]) (
    .seq (
    .reg [.mv 27 (.t 0),.mv 28 (.t 5),.mv 29 (.t 1),.oia 30 (.t 27) (.t 28) 4,.ofa 31 (.t 30) 1,.ofa 32 (.t 31) 1,.ost (.t 32) (.t 29)]) (
    .seq (
    .reg [.mv 33 (.t 1),.bi 34 .add (.t 33) (.c (.int .i64 1)),.mv 1 (.t 34)]) (
    .seq (
    .reg [.mv 35 (.t 0),.mv 36 (.t 5),.mv 37 (.t 1),.oia 38 (.t 35) (.t 36) 4,.ofa 39 (.t 38) 1,.ofa 40 (.t 39) 2,.ost (.t 40) (.t 37)]) (
    .reg [.mv 41 (.t 1),.bi 42 .add (.t 41) (.c (.int .i64 1)),.mv 1 (.t 42)]))))))))) (
   .reg [.mv 10 (.t 5),.bi 11 .add (.t 10) (.c (.int .i64 1)),.mv 5 (.t 11)])))))) (
 .seq (
 .reg [.mv 43 (.t 1),.mv 4 (.t 43)]) (
 .ret)))
def ZP5 : List Rv := [.t 4]
theorem Zpa : chkFn Tryz.prog ZL4 2 Z26 ZP5 = true := by kernel_rfl
set_option maxRecDepth 10000 in
theorem ZDg (n : Nat) (hn : n <= 1048576) (k : Int) (h0 : 0 <= k) (h1 : k <= 2251799813685248) :
  Hav Tryz.prog ZL4 [.od 0 [.i .i64, .i .i64, .i .i64, .i .i64] n, .int .i64 k] (kB k (4 * n)) := by
 refine ZCb Zpa rfl (den_W ?_)
 unfold Z26 ZP5
 simp
 refine ZI8 (fun m s => ∃ (i : Nat) (j : Int), m = n - i /\ i <= n /\ k <= j /\ j <= k + 4 * i /\ s.e 0 = .od 0 [.i .i64, .i .i64, .i .i64, .i .i64] n /\ s.e 1 = .int .i64 j /\ s.e 5 = .int .i64 (i : Nat) /\ s.my 0 /\ s.kn 0) n ?_ ?_
 .exact ⟨0, k, by simp⟩
 .rintro m s ⟨i, j, rfl, hi, hj0, hj1, e0, e1, e5, hm, hk⟩
  by_cases h : i < n
  .have hw : ∀ q : Int, 0 <= q -> q <= 4611686018427387904 -> IntKind.i64.wrap q = q := fun q h0 h1 => ZX2 (by omega) (by omega)
   simp [e0, e1, e5, h, hm, hk, hw (j + 1) (by omega) (by omega), hw (j + 1 + 1) (by omega) (by omega), hw (j + 1 + 1 + 1) (by omega) (by omega), hw (j + 1 + 1 + 1 + 1) (by omega) (by omega)]
   exact ⟨n - (i + 1), by omega, i + 1, rfl, by omega, j + 1 + 1 + 1 + 1, by omega, by simp; omega, rfl, by rw [hw _ (by omega) (by omega)]; simp⟩
  .have : i = n := by omega
   subst this
   simp [e0, e1, e5, kB, postH]
   omega
def Z36 : L :=
 .seq (
 .reg [.mv 4 (.c (.int .i64 0))]) (
 .seq (
 .seq (
 .reg [.mv 5 (.c (.int .i64 0))]) (
 .blk 0 (
  .loop (
   .seq (
   .seq (
   .reg [.mv 6 (.t 5),.mv 7 (.t 0),.oln 8 (.t 7),.bi 9 .lss (.t 6) (.t 8)]) (
   .cond (.t 9) (
    .skip) (
    .exit 0))) (
   .seq (
   .blk 1 (
    .seq (
    .reg [.mv 12 (.t 0),.mv 13 (.t 5),.mv 14 (.t 1),.bi 15 .rem (.t 14) (.c (.int .i64 3)),.bi 16 .eql (.t 15) (.c (.int .i64 0)),.oia 17 (.t 12) (.t 13) 1,.ost (.t 17) (.t 16)]) (
    .reg [.mv 18 (.t 1),.bi 19 .add (.t 18) (.c (.int .i64 1)),.mv 1 (.t 19)]))) (
   .reg [.mv 10 (.t 5),.bi 11 .add (.t 10) (.c (.int .i64 1)),.mv 5 (.t 11)])))))) (
 .seq (
 .reg [.mv 20 (.t 1),.mv 4 (.t 20)]) (
 .ret)))
def ZQ5 : List Rv := [.t 4]
theorem Zqa : chkFn Tryz.prog ZM4 2 Z36 ZQ5 = true := by kernel_rfl
set_option maxRecDepth 10000 in
theorem ZEg (n : Nat) (hn : n <= 1048576) (k : Int) (h0 : 0 <= k) (h1 : k <= 2251799813685248) :
  Hav Tryz.prog ZM4 [.od 0 [.b] n, .int .i64 k] (kB k (1 * n)) := by
 refine ZCb Zqa rfl (den_W ?_)
 unfold Z36 ZQ5
 simp
 refine ZI8 (fun m s => ∃ (i : Nat) (j : Int), m = n - i /\ i <= n /\ k <= j /\ j <= k + 1 * i /\ s.e 0 = .od 0 [.b] n /\ s.e 1 = .int .i64 j /\ s.e 5 = .int .i64 (i : Nat) /\ s.my 0 /\ s.kn 0) n ?_ ?_
 .exact ⟨0, k, by simp⟩
 .rintro m s ⟨i, j, rfl, hi, hj0, hj1, e0, e1, e5, hm, hk⟩
  by_cases h : i < n
  .have hw : ∀ q : Int, 0 <= q -> q <= 4611686018427387904 -> IntKind.i64.wrap q = q := fun q h0 h1 => ZX2 (by omega) (by omega)
   simp [e0, e1, e5, h, hm, hk, hw (j + 1) (by omega) (by omega)]
   exact ⟨n - (i + 1), by omega, i + 1, rfl, by omega, j + 1, by omega, by simp; omega, rfl, by rw [hw _ (by omega) (by omega)]; simp⟩
  .have : i = n := by omega
   subst this
   simp [e0, e1, e5, kB, postH]
   omega
def Z07 : L :=
 .seq (
 .reg [.mv 4 (.c (.int .i64 0))]) (
 .seq (
 .seq (
 .reg [.mv 5 (.c (.int .i64 0))]) (
 .blk 0 (
  .loop (
   .seq (
   .seq (
   .reg [.mv 6 (.t 5),.mv 7 (.t 0),.oln 8 (.t 7),.bi 9 .lss (.t 6) (.t 8)]) (
   .cond (.t 9) (
    .skip) (
    .exit 0))) (
   .seq (
   .blk 1 (
    .seq (
    .reg [.mv 12 (.t 0),.mv 13 (.t 5),.mv 14 (.t 1),.oia 15 (.t 12) (.t 13) 11,.ofa 16 (.t 15) 0,.ost (.t 16) (.t 14)]) (
    .seq (
    .reg [.mv 17 (.t 1),.bi 18 .add (.t 17) (.c (.int .i64 1)),.mv 1 (.t 18)]) (
    .seq (
    .reg [.mv 19 (.t 0),.mv 20 (.t 5),.mv 21 (.t 1),.oia 22 (.t 19) (.t 20) 11,.ofa 23 (.t 22) 1,.ost (.t 23) (.t 21)]) (
    .seq (
    .reg [.mv 24 (.t 1),.bi 25 .add (.t 24) (.c (.int .i64 1)),.mv 1 (.t 25)]) (
    .seq (
    .reg [.mv 26 (.t 0),.mv 27 (.t 5),.mv 28 (.t 1),.oia 29 (.t 26) (.t 27) 11,.ofa 30 (.t 29) 2,.ost (.t 30) (.t 28)]) (
    .seq (
    .reg [.mv 31 (.t 1),.bi 32 .add (.t 31) (.c (.int .i64 1)),.mv 1 (.t 32)]) (
    .seq (
    .reg [.mv 33 (.t 0),.mv 34 (.t 5),.mv 35 (.t 1),.oia 36 (.t 33) (.t 34) 11,.ofa 37 (.t 36) 3,.ofa 38 (.t 37) 0,.ost (.t 38) (.t 35)]) (
    .seq (
    .reg [.mv 39 (.t 1),.bi 40 .add (.t 39) (.c (.int .i64 1)),.mv 1 (.t 40)]) (
    .seq (
    .reg [.mv 41 (.t 0),.mv 42 (.t 5),.mv 43 (.t 1),.oia 44 (.t 41) (.t 42) 11,.ofa 45 (.t 44) 3,.ofa 46 (.t 45) 1,.ost (.t 46) (.t 43)]) (
    .seq (
    .reg [.mv 47 (.t 1),.bi 48 .add (.t 47) (.c (.int .i64 1)),.mv 1 (.t 48)]) (
    .seq (
    .reg [.mv 49 (.t 0),.mv 50 (.t 5),.mv 51 (.t 1),.oia 52 (.t 49) (.t 50) 11,.ofa 53 (.t 52) 3,.ofa 54 (.t 53) 2,.ost (.t 54) (.t 51)]) (
    .seq (
    .reg [.mv 55 (.t 1),.bi 56 .add (.t 55) (.c (.int .i64 1)),.mv 1 (.t 56)]) (
    .seq (
    .reg [.mv 57 (.t 0),.mv 58 (.t 5),.mv 59 (.t 1),.oia 60 (.t 57) (.t 58) 11,.ofa 61 (.t 60) 6,.ofa 62 (.t 61) 0,.ost (.t 62) (.t 59)]) (
    .seq (
    .reg [.mv 63 (.t 1),.bi 64 .add (.t 63) (.c (.int .i64 1)),.mv 1 (.t 64)]) (
    .seq (
    .reg [.mv 65 (.t 0),.mv 66 (.t 5),.mv 67 (.t 1),.oia 68 (.t 65) (.t 66) 11,.ofa 69 (.t 68) 6,.ofa 70 (.t 69) 1,.ost (.t 70) (.t 67)]) (
    .seq (
    .reg [.mv 71 (.t 1),.bi 72 .add (.t 71) (.c (.int .i64 1)),.mv 1 (.t 72)]) (
    .seq (
    .reg [.mv 73 (.t 0),.mv 74 (.t 5),.mv 75 (.t 1),.oia 76 (.t 73) (.t 74) 11,.ofa 77 (.t 76) 6,.ofa 78 (.t 77) 2,.ost (.t 78) (.t 75)]) (
    .seq (
    .reg [.mv 79 (.t 1),.bi 80 .add (.t 79) (.c (.int .i64 1)),.mv 1 (.t 80)]) (
    .seq (
    .reg [.mv 81 (.t 0),.mv 82 (.t 5),.mv 83 (.t 1),.oia 84 (.t 81) (.t 82) 11,.ofa 85 (.t 84) 9,.ost (.t 85) (.t 83)]) (
    .seq (
    .reg [.mv 86 (.t 1),.bi 87 .add (.t 86) (.c (.int .i64 1)),.mv 1 (.t 87)]) (
    .seq (
    .reg [.mv 88 (.t 0),.mv 89 (.t 5),.mv 90 (.t 1),.oia 91 (.t 88) (.t 89) 11,.ofa 92 (.t 91) 10,.ost (.t 92) (.t 90)]) (
    .reg [.mv 93 (.t 1),.bi 94 .add (.t 93) (.c (.int .i64 1)),.mv 1 (.t 94)]))))))))))))))))))))))) (
   .reg [.mv 10 (.t 5),.bi 11 .add (.t 10) (.c (.int .i64 1)),.mv 5 (.t 11)])))))) (
 .seq (
 .reg [.mv 95 (.t 1),.mv 4 (.t 95)]) (
 .ret)))
def ZR6 : List Rv := [.t 4]
theorem Zlb : chkFn Tryz.prog ZB5 2 Z07 ZR6 = true := by kernel_rfl
set_option maxRecDepth 10000 in
theorem Zai (n : Nat) (hn : n <= 1048576) (k : Int) (h0 : 0 <= k) (h1 : k <= 2251799813685248) :
  Hav Tryz.prog ZB5 [.od 0 [.i .i64, .i .i64, .i .i64, .i .i64, .i .i64, .i .i64, .i .i64, .i .i64, .i .i64, .i .i64, .i .i64] n, .int .i64 k] (kB k (11 * n)) := by
 refine ZCb Zlb rfl (den_W ?_)
 unfold Z07 ZR6
 simp
 refine ZI8 (fun m s => ∃ (i : Nat) (j : Int), m = n - i /\ i <= n /\ k <= j /\ j <= k + 11 * i /\ s.e 0 = .od 0 [.i .i64, .i .i64, .i .i64, .i .i64, .i .i64, .i .i64, .i .i64, .i .i64, .i .i64, .i .i64, .i .i64] n /\ s.e 1 = .int .i64 j /\ s.e 5 = .int .i64 (i : Nat) /\ s.my 0 /\ s.kn 0) n ?_ ?_
 .exact ⟨0, k, by simp⟩
 .rintro m s ⟨i, j, rfl, hi, hj0, hj1, e0, e1, e5, hm, hk⟩
  by_cases h : i < n
  .have hw : ∀ q : Int, 0 <= q -> q <= 4611686018427387904 -> IntKind.i64.wrap q = q := fun q h0 h1 => ZX2 (by omega) (by omega)
   simp [e0, e1, e5, h, hm, hk, hw (j + 1) (by omega) (by omega), hw (j + 1 + 1) (by omega) (by omega), hw (j + 1 + 1 + 1) (by omega) (by omega), hw (j + 1 + 1 + 1 + 1) (by omega) (by omega), hw (j + 1 + 1 + 1 + 1 + 1) (by omega) (by omega), hw (j + 1 + 1 + 1 + 1 + 1 + 1) (by omega) (by omega), hw (j + 1 + 1 + 1 + 1 + 1 + 1 + 1) (by omega) (by omega), hw (j + 1 + 1 + 1 + 1 + 1 + 1 + 1 + 1) (by omega) (by omega), hw (j + 1 + 1 + 1 + 1 + 1 + 1 + 1 + 1 + 1) (by omega) (by omega), hw (j + 1 + 1 + 1 + 1 + 1 + 1 + 1 + 1 + 1 + 1) (by omega) (by omega), hw (j + 1 + 1 + 1 + 1 + 1 + 1 + 1 + 1 + 1 + 1 + 1) (by omega) (by omega)]
   exact ⟨n - (i + 1), by omega, i + 1, rfl, by omega, j + 1 + 1 + 1 + 1 + 1 + 1 + 1 + 1 + 1 + 1 + 1, by omega, by simp; omega, rfl, by rw [hw _ (by omega) (by omega)]; simp⟩
  .have : i = n := by omega
   subst this
   simp [e0, e1, e5, kB, postH]
   omega
def Z27 : L :=
 .seq (
 .reg [.mv 4 (.c (.int .i64 0))]) (
 .seq (
 .seq (
 .reg [.mv 5 (.c (.int .i64 0))]) (
 .blk 0 (
  .loop (
   .seq (
   .seq (
   .reg [.mv 6 (.t 5),.mv 7 (.t 0),.oln 8 (.t 7),.bi 9 .lss (.t 6) (.t 8)]) (
   .cond (.t 9) (
    .skip) (
    .exit 0))) (
   .seq (
   .blk 1 (
    .seq (
    .reg [.mv 12 (.t 0),.mv 13 (.t 5),.mv 14 (.t 1),.oia 15 (.t 12) (.t 13) 3,.ofa 16 (.t 15) 0,.ost (.t 16) (.t 14)]) (
    .seq (
    .reg [.mv 17 (.t 1),.bi 18 .add (.t 17) (.c (.int .i64 1)),.mv 1 (.t 18)]) (
    .seq (
    .reg [.mv 19 (.t 0),.mv 20 (.t 5),.mv 21 (.t 1),.oia 22 (.t 19) (.t 20) 3,.ofa 23 (.t 22) 1,.ost (.t 23) (.t 21)]) (
    .seq (
    .reg [.mv 24 (.t 1),.bi 25 .add (.t 24) (.c (.int .i64 1)),.mv 1 (.t 25)]) (
    .seq (
    .reg [.mv 26 (.t 0),.mv 27 (.t 5),.mv 28 (.t 1),.oia 29 (.t 26) (.t 27) 3,.ofa 30 (.t 29) 2,.ost (.t 30) (.t 28)]) (
    .reg [.mv 31 (.t 1),.bi 32 .add (.t 31) (.c (.int .i64 1)),.mv 1 (.t 32)]))))))) (
   .reg [.mv 10 (.t 5),.bi 11 .add (.t 10) (.c (.int .i64 1)),.mv 5 (.t 11)])))))) (
 .seq (
 .reg [.mv 33 (.t 1),.mv 4 (.t 33)]) (
 .ret)))
def ZT6 : List Rv := [.t 4]
theorem Znb : chkFn Tryz.prog ZC5 2 Z27 ZT6 = true := by kernel_rfl
set_option maxRecDepth 10000 in
theorem Zbi (n : Nat) (hn : n <= 1048576) (k : Int) (h0 : 0 <= k) (h1 : k <= 2251799813685248) :
  Hav Tryz.prog ZC5 [.od 0 [.i .i64, .i .i64, .i .i64] n, .int .i64 k] (kB k (3 * n)) := by
 refine ZCb Znb rfl (den_W ?_)
 unfold Z27 ZT6
 simp
 refine ZI8 (fun m s => ∃ (i : Nat) (j : Int), m = n - i /\ i <= n /\ k <= j /\ j <= k + 3 * i /\ s.e 0 = .od 0 [.i .i64, .i .i64, .i .i64] n /\ s.e 1 = .int .i64 j /\ s.e 5 = .int .i64 (i : Nat) /\ s.my 0 /\ s.kn 0) n ?_ ?_
 .exact ⟨0, k, by simp⟩
 .rintro m s ⟨i, j, rfl, hi, hj0, hj1, e0, e1, e5, hm, hk⟩
  by_cases h : i < n
  .have hw : ∀ q : Int, 0 <= q -> q <= 4611686018427387904 -> IntKind.i64.wrap q = q := fun q h0 h1 => ZX2 (by omega) (by omega)
   simp [e0, e1, e5, h, hm, hk, hw (j + 1) (by omega) (by omega), hw (j + 1 + 1) (by omega) (by omega), hw (j + 1 + 1 + 1) (by omega) (by omega)]
   exact ⟨n - (i + 1), by omega, i + 1, rfl, by omega, j + 1 + 1 + 1, by omega, by simp; omega, rfl, by rw [hw _ (by omega) (by omega)]; simp⟩
  .have : i = n := by omega
   subst this
   simp [e0, e1, e5, kB, postH]
   omega
def ZZ6 : L :=
 .seq (
 .reg [.mv 4 (.c (.int .i64 0))]) (
 .seq (
 .seq (
 .reg [.mv 5 (.c (.int .i64 0))]) (
 .blk 0 (
  .loop (
   .seq (
   .seq (
   .reg [.mv 6 (.t 5),.mv 7 (.t 0),.oln 8 (.t 7),.bi 9 .lss (.t 6) (.t 8)]) (
   .cond (.t 9) (
    .skip) (
    .exit 0))) (
   .seq (
   .blk 1 (
    .seq (
    .reg [.mv 12 (.t 0),.mv 13 (.t 5),.mv 14 (.t 1),.oia 15 (.t 12) (.t 13) 13,.ofa 16 (.t 15) 0,.ofa 17 (.t 16) 0,.ost (.t 17) (.t 14)]) (
    .seq (
    .reg [.mv 18 (.t 1),.bi 19 .add (.t 18) (.c (.int .i64 1)),.mv 1 (.t 19)]) (
    .seq (
    .reg [.mv 20 (.t 0),.mv 21 (.t 5),.mv 22 (.t 1),.oia 23 (.t 20) (.t 21) 13,.ofa 24 (.t 23) 0,.ofa 25 (.t 24) 1,.ost (.t 25) (.t 22)]) (
    .seq (
    .reg [.mv 26 (.t 1),.bi 27 .add (.t 26) (.c (.int .i64 1)),.mv 1 (.t 27)]) (
    .seq (
    .reg [.mv 28 (.t 0),.mv 29 (.t 5),.mv 30 (.t 1),.oia 31 (.t 28) (.t 29) 13,.ofa 32 (.t 31) 0,.ofa 33 (.t 32) 2,.ost (.t 33) (.t 30)]) (
    .seq (
    .reg [.mv 34 (.t 1),.bi 35 .add (.t 34) (.c (.int .i64 1)),.mv 1 (.t 35)]) (
    .seq (
    .reg [.mv 36 (.t 0),.mv 37 (.t 5),.mv 38 (.t 1),.oia 39 (.t 36) (.t 37) 13,.ofa 40 (.t 39) 0,.ofa 41 (.t 40) 3,.ofa 42 (.t 41) 0,.ost (.t 42) (.t 38)]) (
    .seq (
    .reg [.mv 43 (.t 1),.bi 44 .add (.t 43) (.c (.int .i64 1)),.mv 1 (.t 44)]) (
    .seq (
    .reg [.mv 45 (.t 0),.mv 46 (.t 5),.mv 47 (.t 1),.oia 48 (.t 45) (.t 46) 13,.ofa 49 (.t 48) 0,.ofa 50 (.t 49) 3,.ofa 51 (.t 50) 1,.ost (.t 51) (.t 47)]) (
    .seq (
    .reg [.mv 52 (.t 1),.bi 53 .add (.t 52) (.c (.int .i64 1)),.mv 1 (.t 53)]) (
    .seq (
    .reg [.mv 54 (.t 0),.mv 55 (.t 5),.mv 56 (.t 1),.oia 57 (.t 54) (.t 55) 13,.ofa 58 (.t 57) 0,.ofa 59 (.t 58) 3,.ofa 60 (.t 59) 2,.ost (.t 60) (.t 56)]) (
    .seq (
    .reg [.mv 61 (.t 1),.bi 62 .add (.t 61) (.c (.int .i64 1)),.mv 1 (.t 62)]) (
    .seq (
    .reg [.mv 63 (.t 0),.mv 64 (.t 5),.mv 65 (.t 1),.oia 66 (.t 63) (.t 64) 13,.ofa 67 (.t 66) 0,.ofa 68 (.t 67) 6,.ofa 69 (.t 68) 0,.ost (.t 69) (.t 65)]) (
    .seq (
    .reg [.mv 70 (.t 1),.bi 71 .add (.t 70) (.c (.int .i64 1)),.mv 1 (.t 71)]) (
    .seq (
    .reg [.mv 72 (.t 0),.mv 73 (.t 5),.mv 74 (.t 1),.oia 75 (.t 72) (.t 73) 13,.ofa 76 (.t 75) 0,.ofa 77 (.t 76) 6,.ofa 78 (.t 77) 1,.ost (.t 78) (.t 74)]) (
    .seq (
    .reg [.mv 79 (.t 1),.bi 80 .add (.t 79) (.c (.int .i64 1)),.mv 1 (.t 80)]) (
    .seq (
    .reg [.mv 81 (.t 0),.mv 82 (.t 5),.mv 83 (.t 1),.oia 84 (.t 81) (.t 82) 13,.ofa 85 (.t 84) 0,.ofa 86 (.t 85) 6,.ofa 87 (.t 86) 2,.ost (.t 87) (.t 83)]) (
    .seq (
    .reg [.mv 88 (.t 1),.bi 89 .add (.t 88) (.c (.int .i64 1)),.mv 1 (.t 89)]) (
    .seq (
    .reg [.mv 90 (.t 0),.mv 91 (.t 5),.mv 92 (.t 1),.oia 93 (.t 90) (.t 91) 13,.ofa 94 (.t 93) 0,.ofa 95 (.t 94) 9,.ost (.t 95) (.t 92)]) (
    .seq (
    .reg [.mv 96 (.t 1),.bi 97 .add (.t 96) (.c (.int .i64 1)),.mv 1 (.t 97)]) (
    .seq (
    .reg [.mv 98 (.t 0),.mv 99 (.t 5),.mv 100 (.t 1),.oia 101 (.t 98) (.t 99) 13,.ofa 102 (.t 101) 0,.ofa 103 (.t 102) 10,.ost (.t 103) (.t 100)]) (
    .seq (
    .reg [.mv 104 (.t 1),.bi 105 .add (.t 104) (.c (.int .i64 1)),.mv 1 (.t 105)]) (
    .seq (
    .reg [.mv 106 (.t 0),.mv 107 (.t 5),.mv 108 (.t 1),.oia 109 (.t 106) (.t 107) 13,.ofa 110 (.t 109) 11,.ost (.t 110) (.t 108)]) (
    .seq (
    .reg [.mv 111 (.t 1),.bi 112 .add (.t 111) (.c (.int .i64 1)),.mv 1 (.t 112)]) (
    .reg [.mv 113 (.t 0),.mv 114 (.t 5),.oia 115 (.t 113) (.t 114) 13,.ofa 116 (.t 115) 12,.old 117 (.t 116),.mv 118 (.t 1),.cf 119 ZC3 0 [(.t 117), (.t 118)],.mv 1 (.t 119)])))))))))))))))))))))))))) (
   .reg [.mv 10 (.t 5),.bi 11 .add (.t 10) (.c (.int .i64 1)),.mv 5 (.t 11)])))))) (
 .seq (
 .reg [.mv 120 (.t 1),.mv 4 (.t 120)]) (
 .ret)))
def ZQ6 : List Rv := [.t 4]
theorem Zkb : chkFn Tryz.prog ZA5 2 ZZ6 ZQ6 = true := by kernel_rfl
set_option maxRecDepth 10000 in
theorem Z9i (n : Nat) (hn : n <= 1048576) (k : Int) (h0 : 0 <= k) (h1 : k <= 1125899906842624) :
  Hav Tryz.prog ZA5 [.od 0 [.i .i64, .i .i64, .i .i64, .i .i64, .i .i64, .i .i64, .i .i64, .i .i64, .i .i64, .i .i64, .i .i64, .i .i64, .l [.i .i64]] n, .int .i64 k] (kB k (1048588 * n)) := by
 refine ZCb Zkb rfl (den_W ?_)
 unfold ZZ6 ZQ6
 simp
 refine ZI8 (fun m s => ∃ (i : Nat) (j : Int), m = n - i /\ i <= n /\ k <= j /\ j <= k + 1048588 * i /\ s.e 0 = .od 0 [.i .i64, .i .i64, .i .i64, .i .i64, .i .i64, .i .i64, .i .i64, .i .i64, .i .i64, .i .i64, .i .i64, .i .i64, .l [.i .i64]] n /\ s.e 1 = .int .i64 j /\ s.e 5 = .int .i64 (i : Nat) /\ s.my 0 /\ s.kn 0) n ?_ ?_
 .exact ⟨0, k, by simp⟩
 .rintro m s ⟨i, j, rfl, hi, hj0, hj1, e0, e1, e5, hm, hk⟩
  by_cases h : i < n
  .have hw : ∀ q : Int, 0 <= q -> q <= 4611686018427387904 -> IntKind.i64.wrap q = q := fun q h0 h1 => ZX2 (by omega) (by omega)
   simp [e0, e1, e5, h, hm, hk, hw (j + 1) (by omega) (by omega), hw (j + 1 + 1) (by omega) (by omega), hw (j + 1 + 1 + 1) (by omega) (by omega), hw (j + 1 + 1 + 1 + 1) (by omega) (by omega), hw (j + 1 + 1 + 1 + 1 + 1) (by omega) (by omega), hw (j + 1 + 1 + 1 + 1 + 1 + 1) (by omega) (by omega), hw (j + 1 + 1 + 1 + 1 + 1 + 1 + 1) (by omega) (by omega), hw (j + 1 + 1 + 1 + 1 + 1 + 1 + 1 + 1) (by omega) (by omega), hw (j + 1 + 1 + 1 + 1 + 1 + 1 + 1 + 1 + 1) (by omega) (by omega), hw (j + 1 + 1 + 1 + 1 + 1 + 1 + 1 + 1 + 1 + 1) (by omega) (by omega), hw (j + 1 + 1 + 1 + 1 + 1 + 1 + 1 + 1 + 1 + 1 + 1) (by omega) (by omega), hw (j + 1 + 1 + 1 + 1 + 1 + 1 + 1 + 1 + 1 + 1 + 1 + 1) (by omega) (by omega)]
   intro n2 hn2
   refine do_cf [] (ZAb n2 hn2 (j + 1 + 1 + 1 + 1 + 1 + 1 + 1 + 1 + 1 + 1 + 1 + 1) (by omega) (by omega)) (by simp) (by simp [hm]) (by simp) ?_
   rintro q ⟨hq0, hq1⟩
   simp [e0, e5, hm, hk]
   exact ⟨n - (i + 1), by omega, i + 1, rfl, by omega, q, by omega, by simp; omega, rfl, by rw [hw _ (by omega) (by omega)]; simp⟩
  .have : i = n := by omega
   subst this
   simp [e0, e1, e5, kB, postH]
   omega
def ZX6 : L :=
 .seq (
 .reg [.bx 2 (.t 0),.mv 4 (.c (.int .i64 0))]) (
 .seq (
 .reg [.fa 5 (.t 2) 0,.ld 6 (.t 5) 1 false,.mv 7 (.t 1),.cf 8 ZC3 0 [(.t 6), (.t 7)],.mv 1 (.t 8)]) (
 .seq (
 .reg [.fa 9 (.t 2) 1,.ld 10 (.t 9) 1 false,.mv 11 (.t 1),.cf 12 ZL4 0 [(.t 10), (.t 11)],.mv 1 (.t 12)]) (
 .seq (
 .reg [.mv 13 (.t 1),.mv 4 (.t 13)]) (
 .ret))))
def ZO6 : List Rv := [.t 4]
theorem Zib : chkFn Tryz.prog Zz5 2 ZX6 ZO6 = true := by kernel_rfl
set_option maxRecDepth 10000 in
theorem Z8i (n1 n2 : Nat) (hn1 : n1 <= 1048576) (hn2 : n2 <= 1048576) (k : Int) (h0 : 0 <= k) (h1 : k <= 562949953421312) :
  Hav Tryz.prog Zz5 [.agg [.od 0 [.i .i64] n1, .od 0 [.i .i64, .i .i64, .i .i64, .i .i64] n2], .int .i64 k] (kB k 5242880) := by
 refine ZCb Zib rfl (den_W ?_)
 unfold ZX6 ZO6
 simp
 refine do_cf [] (ZAb n1 hn1 k (by omega) (by omega)) (by simp) (by simp) (by simp) ?_
 rintro q0 ⟨hq0, hr0⟩
 simp
 refine do_cf [] (ZDg n2 hn2 q0 (by omega) (by omega)) (by simp) (by simp) (by simp) ?_
 rintro q1 ⟨hq1, hr1⟩
 simp [kB, postH]
 omega
def Z16 : L :=
 .seq (
 .reg [.bx 2 (.t 0),.mv 4 (.c (.int .i64 0))]) (
 .seq (
 .reg [.fa 5 (.t 2) 0,.ld 6 (.t 5) 2 true,.mv 7 (.t 1),.cf 8 Zz5 0 [(.t 6), (.t 7)],.mv 1 (.t 8)]) (
 .seq (
 .reg [.fa 9 (.t 2) 2,.ld 10 (.t 9) 1 false,.mv 11 (.t 1),.cf 12 ZM4 0 [(.t 10), (.t 11)],.mv 1 (.t 12)]) (
 .seq (
 .reg [.fa 13 (.t 2) 8,.ld 14 (.t 13) 1 false,.mv 15 (.t 1),.cf 16 ZB5 0 [(.t 14), (.t 15)],.mv 1 (.t 16)]) (
 .seq (
 .reg [.fa 17 (.t 2) 9,.ld 18 (.t 17) 1 false,.mv 19 (.t 1),.cf 20 ZA5 0 [(.t 18), (.t 19)],.mv 1 (.t 20)]) (
 .seq (
 .reg [.fa 21 (.t 2) 10,.ld 22 (.t 21) 1 false,.mv 23 (.t 1),.cf 24 ZC5 0 [(.t 22), (.t 23)],.mv 1 (.t 24)]) (
 .seq (
 .reg [.mv 25 (.t 1),.mv 4 (.t 25)]) (
 .ret)))))))
def ZO5 : List Rv := [.t 4]
theorem Zoa : chkFn Tryz.prog Z22 2 Z16 ZO5 = true := by kernel_rfl
set_option maxRecDepth 10000 in
theorem ZCg (n1 n2 n3 n4 n5 n6 : Nat) (a b c d e : Int) (hn1 : n1 <= 1048576) (hn2 : n2 <= 1048576) (hn3 : n3 <= 1048576) (hn4 : n4 <= 1048576) (hn5 : n5 <= 1048576) (hn6 : n6 <= 1048576) (k : Int) (h0 : 0 <= k) (h1 : k <= 562949953421312) :
  Hav Tryz.prog Z22 [.agg [.od 0 [.i .i64] n1, .od 0 [.i .i64, .i .i64, .i .i64, .i .i64] n2, .od 0 [.b] n3, .int .i64 a, .int .i64 b, .int .i64 c, .int .i64 d, .int .i64 e, .od 0 [.i .i64, .i .i64, .i .i64, .i .i64, .i .i64, .i .i64, .i .i64, .i .i64, .i .i64, .i .i64, .i .i64] n4, .od 0 [.i .i64, .i .i64, .i .i64, .i .i64, .i .i64, .i .i64, .i .i64, .i .i64, .i .i64, .i .i64, .i .i64, .i .i64, .l [.i .i64]] n5, .od 0 [.i .i64, .i .i64, .i .i64] n6], .int .i64 k] (kB k 1099545182208) := by
 refine ZCb Zoa rfl (den_W ?_)
 unfold Z16 ZO5
 simp
 refine do_cf [] (Z8i n1 n2 hn1 hn2 k (by omega) (by omega)) (by simp) (by simp) (by simp) ?_
 rintro q0 ⟨hq0, hr0⟩
 simp
 refine do_cf [] (ZEg n3 hn3 q0 (by omega) (by omega)) (by simp) (by simp) (by simp) ?_
 rintro q1 ⟨hq1, hr1⟩
 simp
 refine do_cf [] (Zai n4 hn4 q1 (by omega) (by omega)) (by simp) (by simp) (by simp) ?_
 rintro q2 ⟨hq2, hr2⟩
 simp
 refine do_cf [] (Z9i n5 hn5 q2 (by omega) (by omega)) (by simp) (by simp) (by simp) ?_
 rintro q3 ⟨hq3, hr3⟩
 simp
 refine do_cf [] (Zbi n6 hn6 q3 (by omega) (by omega)) (by simp) (by simp) (by simp) ?_
 rintro q4 ⟨hq4, hr4⟩
 simp [kB, postH]
 omega
@[simp] theorem ownt_IS (i : Nat) (l : List Int) : owntL i (l.map eI) = l.map eI := ZP3 (fun _ => rfl) l
@[simp] theorem ownt_SS (i : Nat) (l : List Str) : owntL i (l.map eS) = l.map eS := ZP3 (fun _ => rfl) l
@[simp] theorem ownt_BS (i : Nat) (l : List Int) : owntL i (l.map eB) = l.map eB := ZP3 (fun _ => rfl) l
@[simp] theorem ownt_BoS (i : Nat) (l : List Bool) : owntL i (l.map eBo) = l.map eBo := ZP3 (fun _ => rfl) l
@[simp] theorem ownt_NodeS (i : Nat) (l : List Node) : owntL i (l.map eNode) = l.map eNode := ZP3 (fun x => by simp) l
@[simp] theorem ownt_JobS (i : Nat) (l : List Job) : owntL i (l.map eJob) = l.map eJob := ZP3 (fun x => by simp) l
@[simp] theorem ownt_EndS (i : Nat) (l : List End) : owntL i (l.map eEnd) = l.map eEnd := ZP3 (fun x => by simp) l
@[simp] theorem ownt_RunT (i : Nat) (g : Tag) (l : List Run) : owntL i (l.map (eRunT g)) = l.map (eRunT (.own i)) := by
 refine Z2i i _ _ (fun x => ?_) l
 simp
def Z92 (k : Int) (n : Nat) : List Str := (List.range n).map fun i => markT (k + (i : Nat))
def ZP4 : L :=
 .seq (
 .reg [.mv 4 (.c (.int .i64 0))]) (
 .seq (
 .seq (
 .reg [.mv 5 (.c (.int .i64 0))]) (
 .blk 0 (
  .loop (
   .seq (
   .seq (
   .reg [.mv 6 (.t 5),.mv 7 (.t 0),.ln 8 (.t 7),.bi 9 .lss (.t 6) (.t 8)]) (
   .cond (.t 9) (
    .skip) (
    .exit 0))) (
   .seq (
   .blk 1 (
    .seq (
    .reg [.mv 12 (.t 0),.mv 13 (.t 5),.mv 14 (.t 1),.cq 15 ZA3 [(.t 14)],.ia 16 (.t 12) (.t 13) 1,.st (.t 16) (.t 15) 1]) (
    .reg [.mv 17 (.t 1),.bi 18 .add (.t 17) (.c (.int .i64 1)),.mv 1 (.t 18)]))) (
   .reg [.mv 10 (.t 5),.bi 11 .add (.t 10) (.c (.int .i64 1)),.mv 5 (.t 11)])))))) (
 .seq (
 .reg [.mv 19 (.t 1),.mv 4 (.t 19)]) (
 .ret)))
def ZN4 : List Rv := [.t 4]
theorem Zb9 : chkFn Tryz.prog ZB3 2 ZP4 ZN4 = true := by kernel_rfl
set_option maxRecDepth 10000 in
theorem ZAe (l : List Str) (k : Int) (h0 : 0 <= k) (h1 : k + l.length <= 4611686018427387904) :
  Con Tryz.prog ZB3 [.sref 0, .int .i64 k] [] [⟨1, l.map eS, false⟩] (ret1 (.int .i64 (k + l.length)) ((Z92 k l.length).map eS)) := by
 refine con_by [true] Zb9 rfl (by simp) fun _ _ => den_W ?_
 unfold ZP4 ZN4
 simp
 refine ZI8 (fun m s => ∃ i es, m = l.length - i /\ i <= l.length /\ s.e 0 = .sref 1000000000 /\ s.e 1 = .int .i64 (k + i) /\ s.e 5 = .int .i64 (i : Nat) /\
   s.rw 1000000000 = some ⟨1, es, false⟩ /\ es = ((Z92 k l.length).map eS).take i ++ (l.map eS).drop i) l.length ?_ ?_
 .exact ⟨0, l.map eS, by simp⟩
 .rintro m s ⟨i, es, rfl, hi, h0', h1', h5, hr, he⟩
  by_cases h : i < l.length
  .obtain ⟨f1, f2, f3, f4⟩ := ZGk _ _ (by simp [Z92]) i (by simpa using h) he
   simp at f1
   have w0 : IntKind.i64.wrap (k + (i : Int) + 1) = k + (i : Int) + 1 := by rw [ZX2 (by omega) (by omega)]
   simp [h0', h1', h5, hr, h, f1]
   intro _
   refine do_cq (Z4d (k + (i : Nat)) (by omega) (by omega)) (by simp [St.args]) ?_
   simp [h0', h1', h5, hr, h, f1, f2, w0]
   refine ⟨l.length - (i + 1), by omega, i + 1, by simp, by omega, by simp; omega, by simp; rw [ZX2 (by omega) (by omega)], ?_⟩
   simpa [Z92, w0] using f4
  .have : i = l.length := by omega
   subst this
   have hes : es = (Z92 k l.length).map eS := by rw [he, List.take_of_length_le (by simp [Z92]), List.drop_of_length_le (by simp), List.append_nil]
   have hel : es.length = l.length := by rw [hes]; simp [Z92]
   simp [h0', h1', h5, hr, hel]
   intro _
   refine Ztk [] [some es] [] [] ?_
   simp [hr, hes, ret1]
def ZQ4 : L :=
 .seq (
 .reg [.mv 4 (.c (.int .i64 0))]) (
 .seq (
 .seq (
 .reg [.mv 5 (.c (.int .i64 0))]) (
 .blk 0 (
  .loop (
   .seq (
   .seq (
   .reg [.mv 6 (.t 5),.mv 7 (.t 0),.ln 8 (.t 7),.bi 9 .lss (.t 6) (.t 8)]) (
   .cond (.t 9) (
    .skip) (
    .exit 0))) (
   .seq (
   .blk 1 (
    .seq (
    .seq (
    .rq 7 [.mv 12 (.t 0),.mv 13 (.t 5),.ia 14 (.t 12) (.t 13) 1,.ld 15 (.t 14) 1 false,.mv 16 (.t 1),.cq 17 ZA3 [(.t 16)],.bi 18 .neq (.t 15) (.t 17)]) (
    .cond (.t 18) (
     .seq (
     .reg [.mv 4 (.c (.int .i64 (-1)))]) (
     .ret)) (
     .skip))) (
    .reg [.mv 19 (.t 1),.bi 20 .add (.t 19) (.c (.int .i64 1)),.mv 1 (.t 20)]))) (
   .reg [.mv 10 (.t 5),.bi 11 .add (.t 10) (.c (.int .i64 1)),.mv 5 (.t 11)])))))) (
 .seq (
 .reg [.mv 21 (.t 1),.mv 4 (.t 21)]) (
 .ret)))
def ZO4 : List Rv := [.t 4]
theorem Zc9 : chkFn Tryz.prog Zb2 2 ZQ4 ZO4 = true := by kernel_rfl
set_option maxRecDepth 10000 in
theorem Zq9 (n : Nat) (k : Int) (h0 : 0 <= k) (h1 : k + n <= 4611686018427387904) :
  Snd Tryz.prog Zb2 [.sl .rd 1 ((Z92 k n).map eS), .int .i64 k] (.int .i64 (k + n)) [] := by
 refine Zhj Zc9 rfl (by simp) (den_W ?_)
 unfold ZQ4 ZO4
 have hlen : (Z92 k n).length = n := by simp [Z92]
 have hget : ∀ i (h : i < (Z92 k n).length), (Z92 k n)[i] = markT (k + (i : Nat)) := by intro i h; simp [Z92]
 generalize Z92 k n = l at hlen hget
 simp
 refine ZI8 (fun m s => ∃ i, m = n - i /\ i <= n /\ s.e 0 = .sl .rd 1 (l.map eS) /\ s.e 1 = .int .i64 (k + i) /\ s.e 5 = .int .i64 (i : Nat)) n ?_ ?_
 .exact ⟨0, by simp⟩
 .rintro m s ⟨i, rfl, hi, h0', h1', h5⟩
  by_cases h : i < n
  .have hi' : i < l.length := by omega
   have w0 : IntKind.i64.wrap (k + (i : Int) + 1) = k + (i : Int) + 1 := by rw [ZX2 (by omega) (by omega)]
   simp [h0', h1', h5, h, hlen, hget]
   intro _
   refine do_cq (Z4d (k + (i : Nat)) (by omega) (by omega)) (by simp [St.args]) ?_
   simp [h0', h1', h5, w0]
   exact ⟨n - (i + 1), by omega, i + 1, rfl, by omega, by omega, by rw [ZX2 (by omega) (by omega)]; omega⟩
  .have : i = n := by omega
   subst this
   simp [h0', h1', h5, hlen]
@[simp] theorem beq_10 : Nat.beq 1 0 = false := rfl
@[simp] theorem beq_01 : Nat.beq 0 1 = false := rfl
theorem Zc4 {s : State} (hS : SizedS s) : Snd Tryz.prog ZM [Z5 .rd s] (Z5 .nw s) [] := Z7d (Z8d hS)
theorem Zzi {s : State} (hS : SizedS s) : Snd Tryz.prog Za4 [Z5 .rd s, Z5 .rd s] (.bool true) [] := Zjd (Z0b hS)
def ZNk (s : State) : AV := .agg [.od 0 [.i .i64] s.topo.parents.length, .od 0 [.i .i64, .i .i64, .i .i64, .i .i64] s.topo.nodes.length, .od 0 [.b] s.up.length, .int .i64 s.lic.a, .int .i64 s.lic.b, .int .i64 s.lic.c, .int .i64 s.depth, .int .i64 s.now,
 .od 0 [.i .i64, .i .i64, .i .i64, .i .i64, .i .i64, .i .i64, .i .i64, .i .i64, .i .i64, .i .i64, .i .i64] s.queue.length, .od 0 [.i .i64, .i .i64, .i .i64, .i .i64, .i .i64, .i .i64, .i .i64, .i .i64, .i .i64, .i .i64, .i .i64, .i .i64, .l [.i .i64]] s.runs.length, .od 0 [.i .i64, .i .i64, .i .i64] s.ends.length]
theorem Z5d {s : State} (hS : SizedS s) (k : Int) (h0 : 0 <= k) (h1 : k <= 562949953421312) : Hav Tryz.prog Z22 [ZNk s, .int .i64 k] (kB k 1099545182208) :=
 have := hS.jobs
 ZCg s.topo.parents.length s.topo.nodes.length s.up.length s.queue.length s.runs.length s.ends.length s.lic.a s.lic.b s.lic.c s.depth s.now hS.parents hS.nodes hS.up (by omega) (by omega) hS.ends k h0 h1
theorem ZRk {s : State} (hS : SizedS s) (i : Nat) (k : Int) : hvLs i [Z5 (.own i) s, .int .i64 k] [ZNk s, .int .i64 k] := by
  have := hS.jobs
  simp [ZNk]
  exact ⟨⟨_, _, _, ⟨rfl, rfl, rfl⟩, by simp, .inr hS.parents⟩, ⟨_, _, _, ⟨rfl, rfl, rfl⟩, by simp, .inr hS.nodes⟩, ⟨_, _, _, ⟨rfl, rfl, rfl⟩, by simp, .inr hS.up⟩, ⟨_, _, _, ⟨rfl, rfl, rfl⟩, by simp, .inr (by omega)⟩,
    ⟨_, _, _, ⟨rfl, rfl, rfl⟩, by simp, .inr ⟨by omega, fun x hx => .inr (hS.run x hx)⟩⟩, ⟨_, _, _, ⟨rfl, rfl, rfl⟩, by simp, .inr hS.ends⟩⟩
theorem ZNi {a : AV} (h : ZKa.okV a) : ∃ s, AE a (Z5 .rd s) /\ Zja s := EncOf.okV_st ofState h
def ZE3 : L :=
 .seq (
 .reg [.bx 2 (.t 0),.bx 3 (.t 1),.mv 4 (.c (.bool false))]) (
 .seq (
 .reg [.mv 5 (.c (.int .i64 1048576))]) (
 .seq (
 .reg [.ld 14 (.t 2) 11 true,.mv 15 (.t 5),.cq 16 ZG6 [(.t 14), (.t 15)],.mv 5 (.t 16)]) (
 .seq (
 .seq (
 .reg [.mv 17 (.t 5),.bi 18 .lss (.t 17) (.c (.int .i64 0))]) (
 .cond (.t 18) (
  .seq (
  .reg [.mv 4 (.c (.bool true))]) (
  .ret)) (
  .skip))) (
 .seq (
 .reg [.ld 19 (.t 3) 11 true,.mv 20 (.t 5),.cq 21 ZG6 [(.t 19), (.t 20)],.mv 5 (.t 21)]) (
 .seq (
 .seq (
 .reg [.mv 22 (.t 5),.bi 23 .lss (.t 22) (.c (.int .i64 0))]) (
 .cond (.t 23) (
  .seq (
  .reg [.mv 4 (.c (.bool true))]) (
  .ret)) (
  .skip))) (
 .seq (
 .rq 6 [.ld 24 (.t 2) 11 true,.cq 25 ZM [(.t 24)],.ld 26 (.t 3) 11 true,.cq 27 ZM [(.t 26)],.cq 28 Zv9 [(.t 25), (.t 27)],.mv 6 (.t 28)]) (
 .seq (
 .reg [.ld 29 (.t 2) 11 true,.co 30 ZM [(.t 29)],.al 7 [.nl, .nl, .nl, .int .i64 0, .int .i64 0, .int .i64 0, .int .i64 0, .int .i64 0, .nl, .nl, .nl],.st (.t 7) (.t 30) 11]) (
 .seq (
 .reg [.ld 31 (.t 3) 11 true,.co 32 ZM [(.t 31)],.al 8 [.nl, .nl, .nl, .int .i64 0, .int .i64 0, .int .i64 0, .int .i64 0, .int .i64 0, .nl, .nl, .nl],.st (.t 8) (.t 32) 11]) (
 .seq (
 .reg [.ld 33 (.t 7) 11 true,.ld 34 (.t 8) 11 true,.cl 35 ZK6 [(.t 33), (.t 34)],.mv 9 (.t 35)]) (
 .seq (
 .seq (
 .reg [.mv 36 (.t 9),.mv 37 (.t 6),.cq 38 ZW2 [(.t 36), (.t 37)],.un 39 (.t 38)]) (
 .cond (.t 39) (
  .seq (
  .reg [.mv 4 (.c (.bool false))]) (
  .ret)) (
  .skip))) (
 .seq (
 .seq (
 .rq 5 [.ld 40 (.t 7) 11 true,.ld 41 (.t 2) 11 true,.cq 42 ZM [(.t 41)],.cq 43 Za4 [(.t 40), (.t 42)],.un 44 (.t 43)]) (
 .cond (.t 44) (
  .seq (
  .reg [.mv 4 (.c (.bool false))]) (
  .ret)) (
  .skip))) (
 .seq (
 .seq (
 .rq 5 [.ld 45 (.t 8) 11 true,.ld 46 (.t 3) 11 true,.cq 47 ZM [(.t 46)],.cq 48 Za4 [(.t 45), (.t 47)],.un 49 (.t 48)]) (
 .cond (.t 49) (
  .seq (
  .reg [.mv 4 (.c (.bool false))]) (
  .ret)) (
  .skip))) (
 .seq (
 .reg [.mv 10 (.c (.int .i64 1))]) (
 .seq (
 .reg [.ld 50 (.t 7) 11 true,.mv 51 (.t 10),.cf 52 Z22 0 [(.t 50), (.t 51)],.mv 10 (.t 52)]) (
 .seq (
 .reg [.ld 53 (.t 8) 11 true,.mv 54 (.t 10),.cf 55 Z22 1 [(.t 53), (.t 54)],.mv 10 (.t 55)]) (
 .seq (
 .seq (
 .reg [.mv 56 (.t 10),.bi 57 .lss (.t 56) (.c (.int .i64 0)),.mv 58 (.t 57),.g 58 false (.mv 59 (.t 9)),.g 58 false (.mv 60 (.t 6)),.g 58 false (.cq 61 ZW2 [(.t 59), (.t 60)]),.g 58 false (.un 62 (.t 61)),.pk 63 (.t 58) (.c (.bool true)) (.t 62)]) (
 .cond (.t 63) (
  .seq (
  .reg [.mv 4 (.c (.bool false))]) (
  .ret)) (
  .skip))) (
 .seq (
 .reg [.mv 11 (.c (.int .i64 1))]) (
 .seq (
 .reg [.mv 64 (.t 9),.mv 65 (.t 11),.cm 66 ZB3 [(.t 64), (.t 65)],.mv 11 (.t 66)]) (
 .seq (
 .reg [.mv 12 (.c (.int .i64 1))]) (
 .seq (
 .reg [.mv 67 (.t 9),.mv 68 (.t 12),.cq 69 Zb2 [(.t 67), (.t 68)],.mv 12 (.t 69)]) (
 .seq (
 .seq (
 .reg [.mv 70 (.t 12),.bi 71 .lss (.t 70) (.c (.int .i64 0))]) (
 .cond (.t 71) (
  .seq (
  .reg [.mv 4 (.c (.bool false))]) (
  .ret)) (
  .skip))) (
 .seq (
 .seq (
 .reg [.mv 72 (.t 12),.mv 73 (.t 11),.bi 74 .neq (.t 72) (.t 73)]) (
 .cond (.t 74) (
  .seq (
  .reg [.mv 4 (.c (.bool false))]) (
  .ret)) (
  .skip))) (
 .seq (
 .rq 6 [.ld 75 (.t 2) 11 true,.cq 76 ZM [(.t 75)],.ld 77 (.t 3) 11 true,.cq 78 ZM [(.t 77)],.cq 79 ZK6 [(.t 76), (.t 78)],.mv 13 (.t 79)]) (
 .seq (
 .seq (
 .reg [.mv 80 (.t 13),.mv 81 (.t 6),.cq 82 ZW2 [(.t 80), (.t 81)],.un 83 (.t 82)]) (
 .cond (.t 83) (
  .seq (
  .reg [.mv 4 (.c (.bool false))]) (
  .ret)) (
  .skip))) (
 .seq (
 .reg [.mv 12 (.c (.int .i64 1))]) (
 .seq (
 .reg [.mv 84 (.t 9),.mv 85 (.t 12),.cq 86 Zb2 [(.t 84), (.t 85)],.mv 12 (.t 86)]) (
 .seq (
 .seq (
 .reg [.mv 87 (.t 12),.bi 88 .lss (.t 87) (.c (.int .i64 0))]) (
 .cond (.t 88) (
  .seq (
  .reg [.mv 4 (.c (.bool false))]) (
  .ret)) (
  .skip))) (
 .seq (
 .seq (
 .reg [.mv 89 (.t 12),.mv 90 (.t 11),.bi 91 .neq (.t 89) (.t 90)]) (
 .cond (.t 91) (
  .seq (
  .reg [.mv 4 (.c (.bool false))]) (
  .ret)) (
  .skip))) (
 .seq (
 .reg [.mv 4 (.c (.bool true))]) (
 .ret))))))))))))))))))))))))))))))
def ZD3 : List Rv := [.t 4]
theorem Z38 : chkFn Tryz.prog Zy1 2 ZE3 ZD3 = true := by kernel_rfl
set_option maxRecDepth 10000 in
set_option maxHeartbeats 1000000 in
theorem Zyc {s t : State} (hf : Zja s) (ht : Zja t) : Snd Tryz.prog Zy1 [Z5 .rd s, Z5 .rd t] (.bool true) [] := by
 obtain ⟨r, h1, h2⟩ := Zk9 hf (n := 1048576) (by omega) (by omega)
 refine Zhj Z38 rfl (by simp) (den_W ?_)
 unfold ZE3 ZD3
 simp
 refine do_cq (Zq8 h1) (by simp [St.args]) ?_
 simp
 intro hr
 obtain ⟨hS, hrn⟩ := h2.resolve_left (by omega)
 obtain ⟨r2, h3, h4⟩ := Zk9 ht (n := r) hr hrn
 refine do_cq (Zq8 h3) (by simp [St.args]) ?_
 simp
 intro hr2
 obtain ⟨hS2, _⟩ := h4.resolve_left (by omega)
 obtain ⟨ns, q2, q1, q4⟩ := Zbk hS.jobs hS2.jobs
 refine do_cq (Zc4 hS) (by simp [St.args]) ?_
 simp
 refine do_cq (Zc4 hS2) (by simp [St.args]) ?_
 simp
 refine do_cq (ZXc q2) (by simp [St.args]) ?_
 simp
 refine do_co 0 (Zc4 hS) (by simp [St.args]) (by simp) (by simp) ?_
 simp
 refine do_co 1 (Zc4 hS2) (by simp [St.args]) (by simp) (by simp) ?_
 simp
 refine do_cl (ZA8 q1) (by simp [St.args]) (by simp) ?_
 simp
 refine do_cq (ZR3 (ZZ2 (l := ns) q4)) (by simp [St.args]) ?_
 simp
 refine do_cq (Zc4 hS) (by simp [St.args]) ?_
 simp
 refine do_cq (Zzi hS) (by simp [St.args]) ?_
 simp
 refine do_cq (Zc4 hS2) (by simp [St.args]) ?_
 simp
 refine do_cq (Zzi hS2) (by simp [St.args]) ?_
 simp
 refine do_cf [36000] (Z5d hS 1 (by omega) (by omega)) (by simpa using ZRk hS 0 1) (by simp) (by simp) ?_
 rintro k ⟨hk0, hk1⟩
 simp
 refine do_cf [36000] (Z5d hS2 k (by omega) (by omega)) (by simpa using ZRk hS2 1 k) (by simp) (by simp) ?_
 rintro k2 ⟨hk2, hk3⟩
 have hkn : ¬ k2 < 0 := by omega
 simp [hkn]
 refine do_cq (ZR3 (ZZ2 (l := ns) q4)) (by simp [St.args]) ?_
 simp
 refine do_cm [] [36000] (ZAe ns 1 (by omega) (by omega)) rfl (by simp) (by simp) (by simp) ?_
 rintro _ _ _ _ _ _ _ ⟨rfl, rfl, rfl, rfl⟩
 have hkk : ¬ (1 + (ns.length : Int) < 0) := by omega
 simp
 refine do_cq (Zq9 ns.length 1 (by omega) (by omega)) (by simp [St.args]) ?_
 simp [hkk]
 refine do_cq (Zc4 hS) (by simp [St.args]) ?_
 simp
 refine do_cq (Zc4 hS2) (by simp [St.args]) ?_
 simp
 refine do_cq (ZA8 q1) (by simp [St.args]) ?_
 simp
 refine do_cq (ZR3 (ZZ2 (l := ns) q4)) (by simp [St.args]) ?_
 simp
 refine do_cq (Zq9 ns.length 1 (by omega) (by omega)) (by simp [St.args]) ?_
 simp [hkk]
theorem Zrb (xs : List AV) (h : okVs [ZKa, ZKa] xs) : Snd Tryz.prog Zy1 xs (.bool true) [] := by
 obtain ⟨a, _, rfl, ha, b, _, rfl, hb, rfl⟩ := h
 obtain ⟨s, ha, hf⟩ := ZNi ha
 obtain ⟨t, hb, ht⟩ := ZNi hb
 exact (Zyc hf ht).wkS (.cons ha (.cons hb .nil))
end Go.Proofs.YtndemhaoilhbbaaGreat
