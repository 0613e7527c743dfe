/-
  Lemmas, part 7: the engine that steps through the code, the walks of functions, and the laws of what they compute.
-/
import Derived.Test.YtjphbnaepdcikaaH6
import Derived.Test.YtjphbnaepdcikaaRows
namespace Go.Proofs.Ytjphbnaepdcikaa
open Go Go.RowKit Eng
def Z27 : Nat := 3
def Z2K : Nat := 5
def Z4L : Nat := 6
def Z4K : Nat := 7
def Z0v : Nat := 8
def Z1A : Nat := 9
def Zh : Nat := 10
def Z1d : Nat := 11
def Z40 : Nat := 12
def Z1C : Nat := 13
def Z63 : Nat := 14
def Z1z : Nat := 22
def Z1x : Nat := 23
def Z1v : Nat := 24
def Z1a : Nat := 25
def Z2D : Nat := 26
def Z1B : Nat := 27
def Z0B : Nat := 28
def Z26 : Nat := 29
def Z1O : Nat := 30
def Z1c : Nat := 31
def Z1Y : Nat := 32
def Z1w : Nat := 33
def Z0u : Nat := 34
def Z0S : Nat := 35
def Z0k : Nat := 36
def Z2L : Nat := 37
def Z04 : Nat := 40
def Z1b : Nat := 56
def Z0 : Nat := 57
def Za : Nat := 58
def Z0j : Nat := 59
def Z2B : Nat := 60
def Z25 : Nat := 69
def Z3d : Nat := 70
def Zd : Nat := 71
def Z1y : Nat := 72
def Z0T : Nat := 73
def Z2J : Nat := 77
def Z2C : Nat := 78
def Z2A : Nat := 79
theorem Try.own : ownKnob Try.prog.godebug = none := by kernel_rfl
theorem Try.laidOut : laidOutB Try.prog = true := by kernel_rfl
namespace Eng
theorem Z3g {α : Type} (e : α -> AV) (h : ∀ x, (e x).rdt = e x) (l : List α) : rdtL (l.map e) = l.map e := by
 rw [Z7, List.map_map]
 exact List.map_congr_left fun x _ => h x
theorem Z91 {α : Type} (e : α -> AV) (h : ∀ x, Nw (e x)) (l : List α) : NwL (l.map e) := by
 rw [Z2z]
 intro a ha
 obtain ⟨x, _, rfl⟩ := List.mem_map.1 ha
 exact h x
structure Tok (I : Nat -> St -> Prop) : Type where mk ::
def rng (n : Nat) (I : Nat -> St -> Prop) (_ : Tok I) (m : Nat) (s : St) : Prop := ∃ i, m = n - i /\ i <= n /\ I i s
theorem W_rng {P : Program} {R : Ex -> St -> Prop} {k : List It} {s : St} {x : L} (n : Nat) (I : Nat -> St -> Prop) (h0 : I 0 s)
  (h : ∀ i s', i <= n -> I i s' -> W P R (.l x :: .lp (rng n I ⟨⟩) (n - i) :: k) s') : W P R (.l (.loop x) :: k) s :=
 Zbp (rng n I ⟨⟩) n ⟨0, by simp [h0]⟩ fun _ s' ⟨i, e, hi, hI⟩ => by rw [e]; exact h i s' hi hI
structure TokJ (J : St -> Prop) : Type where mk ::
def beh (J : St -> Prop) (_ : TokJ J) (s : St) : Prop := J s
theorem beh_of {J : St -> Prop} {t : TokJ J} {s : St} (h : J s) : beh J t s := h
theorem W_rngJ {P : Program} {R : Ex -> St -> Prop} {k : List It} {s : St} {x : L} {id : Nat} (n : Nat) (I : Nat -> St -> Prop) (J : St -> Prop) (h0 : I 0 s)
  (h : ∀ i s', i <= n -> I i s' -> W P R (.l x :: .lp (rng n I ⟨⟩) (n - i) :: .mk id :: .jn (beh J ⟨⟩) :: k) s') (hk : ∀ s', J s' -> W P R k s') : W P R (.l (.loop x) :: .mk id :: k) s := by
 have h1 : W P R (.l (.loop x) :: .mk id :: .jn (beh J ⟨⟩) :: k) s := W_rng n I h0 h
 refine Z7E (K := denK P R (.mk id :: .jn (beh J ⟨⟩) :: k)) (K' := denK P R (.mk id :: k)) (fun e s' q => ?_) h1
 have jn : ∀ e s', denK P R (.jn (beh J ⟨⟩) :: k) e s' -> denK P R k e s' := fun e s' q => by
  cases e with
  | nrm => exact hk s' q
  | ext i => exact q
  | ret => exact q
 cases e with
 | nrm => exact jn .nrm s' q
 | ext i =>
  rw [Z5Y] at q ⊢
  split
  .rename_i e; rw [if_pos e] at q; exact jn .nrm s' q
  .rename_i e; rw [if_neg e] at q; exact jn (.ext i) s' q
 | ret => exact jn .ret s' q
theorem rng_next {n i : Nat} {I : Nat -> St -> Prop} {t : Tok I} {s : St} (h : i < n) (hI : I (i + 1) s) : ∃ m', m' < n - i /\ rng n I t m' s := ⟨n - (i + 1), by omega, i + 1, rfl, h, hI⟩
attribute [simp] wop.eq_38 wop.eq_40 St.hi St.lo
theorem list_of {α : Type} (e : α -> AV) {es : List AV} (h : ∀ x ∈ es, ∃ y, x = e y) : ∃ l : List α, es = l.map e := by
 induction es with
 | nil => exact ⟨[], rfl⟩
 | cons a es ih =>
  obtain ⟨y, hy⟩ := h a (by simp)
  obtain ⟨l, hl⟩ := ih fun x hx => h x (by simp [hx])
  exact ⟨y :: l, by simp [hy, hl]⟩
end Eng
end Go.Proofs.Ytjphbnaepdcikaa
namespace Go.Proofs.Ytjphbnaepdcikaa
open Go Go.RowKit Eng
def w64 (n : Int) : Int := IntKind.i64.wrap n
@[simp] def eI (n : Int) : AV := .int .i64 n
@[simp] theorem rdt_IS (l : List Int) : rdtL (l.map eI) = l.map eI := Z3g _ (fun _ => rfl) l
@[simp] theorem nw_IS (l : List Int) : NwL (l.map eI) := Z91 _ (fun _ => by simp) l
@[simp] def eB (n : Int) : AV := .int .u8 n
@[simp] theorem rdt_BS (l : List Int) : rdtL (l.map eB) = l.map eB := Z3g _ (fun _ => rfl) l
@[simp] def eBo (b : Bool) : AV := .bool b
@[simp] theorem rdt_BoS (l : List Bool) : rdtL (l.map eBo) = l.map eBo := Z3g _ (fun _ => rfl) l
theorem nw_I (l : List Int) : NwL (l.map eI) := nw_IS l
@[simp] theorem noO_B (l : List Int) : noOL (l.map eB) := Z9u _ (fun _ => by simp) l
structure Vec where
 a : Int
 b : Int
 c : Int
 deriving DecidableEq, Inhabited
@[simp] def eVec (x : Vec) : AV := .agg [.int .i64 x.a, .int .i64 x.b, .int .i64 x.c]
@[simp] theorem rdt_VecS (l : List Vec) : rdtL (l.map eVec) = l.map eVec := Z3g _ (fun _ => rfl) l
structure Pt where
 t : Int
 free : Vec
 deriving DecidableEq, Inhabited
@[simp] def ePt (x : Pt) : AV := .agg [.int .i64 x.t, .int .i64 x.free.a, .int .i64 x.free.b, .int .i64 x.free.c]
@[simp] theorem rdt_PtS (l : List Pt) : rdtL (l.map ePt) = l.map ePt := Z3g _ (fun _ => rfl) l
@[simp] theorem nw_PtS (l : List Pt) : NwL (l.map ePt) := Z91 _ (fun _ => by simp) l
theorem nw_Pt (l : List Pt) : NwL (l.map ePt) := nw_PtS l
@[simp] def eProfT (g : Tag) (x : List Pt) : AV := .agg [.sl g 4 (x.map ePt)]
structure Hole where
 a : Int
 b : Int
 deriving DecidableEq, Inhabited
@[simp] def eHole (x : Hole) : AV := .agg [.int .i64 x.a, .int .i64 x.b]
@[simp] theorem noO_HoleS (l : List Hole) : noOL (l.map eHole) := Z9u _ (fun _ => by simp) l
@[simp] theorem rdt_HoleS (l : List Hole) : rdtL (l.map eHole) = l.map eHole := Z3g _ (fun _ => rfl) l
@[simp] theorem nw_HoleS (l : List Hole) : NwL (l.map eHole) := Z91 _ (fun _ => by simp) l
theorem Z4e (l : List Hole) : NwL (l.map eHole) := nw_HoleS l
structure l01Cur where
 b : List Int
 i : Int
 h : Int
 deriving DecidableEq, Inhabited
@[simp] def Z2 (g : Tag) (x : l01Cur) : AV := .agg [.sl g 1 (x.b.map eB), .int .i64 x.i, .int .i64 x.h]
section
variable {α β γ σ : Type}
theorem Z1P {n : Int} (h : -9223372036854775808 <= n /\ n <= 9223372036854775807) : w64 n = n := Z8A h.1 h.2
theorem Z2h {n : Nat} (h0 : 0 < n) (h : n <= 9223372036854775807) : w64 ((n : Int) - 1) = ((n - 1 : Nat) : Int) := by rw [Z1P (by omega)]; omega
theorem Z0t {l : List α} {i : Nat} : idx l (i : Int) = l[i]? := by simp [idx]
theorem Z7w {l : List α} {i : Int} (h0 : 0 <= i) (h : i < l.length) : ∃ x, idx l i = some x /\ l[i.toNat]? = some x := by
 have : i.toNat < l.length := by omega
 exact ⟨l[i.toNat], by simp [idx, h0, this], by simp [this]⟩
theorem Zy {bs : Nat} {l m : List α} (h : (l.length + m.length) * bs <= 140737488355328) : appL bs l m = some (l ++ m) := by simp [appL, h]
theorem Z2t {p : Prop} (h : ¬ p) : (false = true ↔ p) := by simp [h]
theorem Z0M {bd : α -> Nat -> β -> (β -> Option γ) -> Option γ} {kk : β -> Option γ} (I : Nat -> β -> Prop) (Q : Option γ -> Prop) {l0 : List α}
  (h : ∀ i x b (k : β -> Option γ), l0[i]? = some x -> I i b -> (∀ b', I (i + 1) b' -> Q (k b')) -> Q (bd x i b k)) (hk : ∀ b, I l0.length b -> Q (kk b)) {b : β} (h0 : I 0 b) : Q (rgl bd kk l0 0 b) := by
 have key : ∀ (n i : Nat) (b : β), l0.length - i = n -> i <= l0.length -> I i b -> Q (rgl bd kk (l0.drop i) i b) := by
  intro n
  induction n with
  | zero =>
   intro i b hn hi hr
   have : i = l0.length := by omega
   subst this
   rw [List.drop_length]
   exact hk b hr
  | succ n ih =>
   intro i b hn hi hr
   have h1 : i < l0.length := by omega
   rw [List.drop_eq_getElem_cons h1, rgl]
   exact h i _ b _ (yA h1) hr fun b' hr' => ih (i + 1) b' (by omega) (by omega) hr'
 have := key l0.length 0 b (by simp) (Nat.zero_le _) h0
 simpa using this
theorem Z7U {bd : α -> Nat -> β -> (β -> Option γ) -> Option γ} {kk : β -> Option γ} {f : β -> α -> β} : ∀ {l : List α} {i : Nat} {b : β}, (∀ x ∈ l, ∀ i b k, bd x i b k = k (f b x)) -> rgl bd kk l i b = kk (l.foldl f b)
 | [], _, _, _ => rfl
 | x :: l, i, b, h => by
  rw [rgl, h x (List.mem_cons_self ..), List.foldl_cons]
  exact Z7U fun y hy => h y (List.mem_cons_of_mem _ hy)
theorem Z8B {bd : β -> (β -> Option γ) -> Option γ} (Q : β -> Option γ -> Prop) (m : β -> Nat) (I : β -> Prop) (h : ∀ b (k : β -> Option γ), I b -> (∀ b', I b' -> m b' < m b -> Q b' (k b')) -> Q b (bd b k)) : ∀ (fuel : Nat) (b : β), I b -> m b < fuel -> Q b (whl bd fuel b)
 | 0, _, _, h => by omega
 | fuel + 1, b, hI, hm => by
  rw [whl]
  exact h b _ hI fun b' hI' hlt => Z8B Q m I h fuel b' hI' (by omega)
end
end Go.Proofs.Ytjphbnaepdcikaa
namespace Go.Proofs.Ytjphbnaepdcikaa
open Go Go.RowKit Eng
def Z6d : L :=
.seq (rE 2 (cB false))
 (sR [mV 3 0,.bi 4 .geq (.t 3) (kI 0),mV 5 4,.g 5 true (mV 6 0),.g 5 true (.bi 7 .leq (.t 6) (kI 1000000)),.pk 8 (.t 5) (.t 7) (cB false),mV 2 8]
 gR)
def Z1l (n1 : Int) : Option Bool :=
 some ((decide (0 <= n1)) && (decide (n1 <= 1000000)))
theorem Z4Q {n1 : Int} {r : Bool} (H : Z1l n1 = some r) : Snd Try.prog Z0S [.int .i64 n1] (.bool r) [] := by
 refine wS Z6d [.t 2] ?_
 unfold Z1l at H
 refine wP ?_
 replace H := sI H; subst H
 exact wE [(2, .d)]
def Zv (n1 : Int) : Bool :=
 ((decide (0 <= n1)) && (decide (n1 <= 1000000)))
theorem Z6R (n1 : Int) : Z1l n1 = some (Zv n1) := by
 unfold Z1l Zv
 first | rfl | simp only [Z0a]
theorem Z1Z (n1 : Int) : Snd Try.prog Z0S [.int .i64 n1] (.bool (Zv n1)) [] := Z4Q (Z6R n1)
def Z5K : L :=
.seq (rE 2 (cB false))
 (sR [mV 3 0,.bi 4 .geq (.t 3) (kI 0),mV 5 4,.g 5 true (mV 6 0),.g 5 true (.bi 7 .leq (.t 6) (kI 1000000000)),.pk 8 (.t 5) (.t 7) (cB false),mV 2 8]
 gR)
def Z11 (n1 : Int) : Option Bool :=
 some ((decide (0 <= n1)) && (decide (n1 <= 1000000000)))
theorem Z46 {n1 : Int} {r : Bool} (H : Z11 n1 = some r) : Snd Try.prog Z0u [.int .i64 n1] (.bool r) [] := by
 refine wS Z5K [.t 2] ?_
 unfold Z11 at H
 refine wP ?_
 replace H := sI H; subst H
 exact wE [(2, .d)]
def Zf (n1 : Int) : Bool :=
 ((decide (0 <= n1)) && (decide (n1 <= 1000000000)))
theorem Z64 (n1 : Int) : Z11 n1 = some (Zf n1) := by
 unfold Z11 Zf
 first | rfl | simp only [Z0a]
theorem Z1F (n1 : Int) : Snd Try.prog Z0u [.int .i64 n1] (.bool (Zf n1)) [] := Z46 (Z64 n1)
def Z7m : L :=
sR [.bx 1 (.t 0),.mv 2 (cB false)]
 (sR [fA 3 1 0,lD 4 3 1 false,cQ 5 Z0S [4],mV 6 5,.g 6 true (fA 7 1 1),.g 6 true (lD 8 7 1 false),.g 6 true (cQ 9 Z0S [8]),.pk 10 (.t 6) (.t 9) (cB false),mV 11 10,.g 11 true (fA 12 1 2),.g 11 true (lD 13 12 1 false),.g 11 true (cQ 14 Z0S [13]),.pk 15 (.t 11) (.t 14) (cB false),mV 2 15]
 gR)
def Z1Q (v1 : Vec) : Option Bool :=
 some (((Zv v1.a) && (Zv v1.b)) && (Zv v1.c))
theorem Z5w {v1 : Vec} {r : Bool} (H : Z1Q v1 = some r) : Snd Try.prog Zh [eVec v1] (.bool r) [] := by
 refine wS Z7m [.t 2] ?_
 unfold Z1Q at H
 refine wG [.c 5 (Z1Z v1.a), .g 9 [((Zv v1.a), true)] (.call _ _ _ _ _ (AEs.refl _) (fun _ => Z1Z v1.b)), .g 14 [(((Zv v1.a) && (Zv v1.b)), true)] (.call _ _ _ _ _ (AEs.refl _) (fun _ => Z1Z v1.c))] fun _ => ?_
 replace H := sI H; subst H
 exact wE [(2, .d)]
def Z4 (v1 : Vec) : Bool :=
 (((Zv v1.a) && (Zv v1.b)) && (Zv v1.c))
theorem Z7P (v1 : Vec) : Z1Q v1 = some (Z4 v1) := by
 unfold Z1Q Z4
 first | rfl | simp only [Z0a]
theorem Zi (v1 : Vec) : Snd Try.prog Zh [eVec v1] (.bool (Z4 v1)) [] := Z5w (Z7P v1)
def Z5L : L :=
sR [.bx 2 (.t 0),.bx 3 (.t 1),.mv 4 (cB false)]
 (sR [lD 5 2 3 true,cQ 6 Zh [5],mV 7 6,.g 7 true (lD 8 3 3 true),.g 7 true (cQ 9 Zh [8]),.pk 10 (.t 7) (.t 9) (cB false),mV 11 10,.g 11 true (fA 12 2 0),.g 11 true (lD 13 12 1 false),.g 11 true (fA 14 3 0),.g 11 true (lD 15 14 1 false),.g 11 true (bI 16 .leq 13 15),.pk 17 (.t 11) (.t 16) (cB false),mV 18 17,.g 18 true (fA 19 2 1),.g 18 true (lD 20 19 1 false),.g 18 true (fA 21 3 1),.g 18 true (lD 22 21 1 false),.g 18 true (bI 23 .leq 20 22),.pk 24 (.t 18) (.t 23) (cB false),mV 25 24,.g 25 true (fA 26 2 2),.g 25 true (lD 27 26 1 false),.g 25 true (fA 28 3 2),.g 25 true (lD 29 28 1 false),.g 25 true (bI 30 .leq 27 29),.pk 31 (.t 25) (.t 30) (cB false),mV 4 31]
 gR)
def Z12 (a1 : Vec) (b2 : Vec) : Option Bool :=
 some (((((Z4 a1) && (Z4 b2)) && (decide (a1.a <= b2.a))) && (decide (a1.b <= b2.b))) && (decide (a1.c <= b2.c)))
theorem Z47 {a1 : Vec} {b2 : Vec} {r : Bool} (H : Z12 a1 b2 = some r) : Snd Try.prog Z1c [eVec a1, eVec b2] (.bool r) [] := by
 refine wS Z5L [.t 4] ?_
 unfold Z12 at H
 refine wG [.c 6 (Zi a1), .g 9 [((Z4 a1), true)] (.call _ _ _ _ _ (AEs.refl _) (fun _ => Zi b2))] fun _ => ?_
 replace H := sI H; subst H
 exact wE [(4, .d)]
def Z0b (a1 : Vec) (b2 : Vec) : Bool :=
 (((((Z4 a1) && (Z4 b2)) && (decide (a1.a <= b2.a))) && (decide (a1.b <= b2.b))) && (decide (a1.c <= b2.c)))
theorem Z67 (a1 : Vec) (b2 : Vec) : Z12 a1 b2 = some (Z0b a1 b2) := by
 unfold Z12 Z0b
 first | rfl | simp only [Z0a]
theorem Z2N (a1 : Vec) (b2 : Vec) : Snd Try.prog Z1c [eVec a1, eVec b2] (.bool (Z0b a1 b2)) [] := Z47 (Z67 a1 b2)
def Z6h : L :=
sR [.bx 2 (.t 0),.bx 3 (.t 1),.al 4 [.int .i64 0, .int .i64 0, .int .i64 0],.mv 5 (cB false)]
 (.seq (sR [lD 7 2 3 true,cQ 8 Zh [7],.un 9 (.t 8),mV 10 9,.g 10 false (lD 11 3 3 true),.g 10 false (cQ 12 Zh [11]),.g 10 false (.un 13 (.t 12)),.pk 14 (.t 10) (cB true) (.t 13)]
 (.cond (.t 14) (sR [.bd 15 [.int .i64 0, .int .i64 0, .int .i64 0] [],.st (.t 4) (.t 15) 3,.mv 5 (cB false)]
 gR)
 .skip))
 (sR [fA 16 2 0,lD 17 16 1 false,fA 18 3 0,lD 19 18 1 false,bI 20 .add 17 19,fA 21 2 1,lD 22 21 1 false,fA 23 3 1,lD 24 23 1 false,bI 25 .add 22 24,fA 26 2 2,lD 27 26 1 false,fA 28 3 2,lD 29 28 1 false,bI 30 .add 27 29,.bd 31 [.int .i64 0, .int .i64 0, .int .i64 0] [(0, 1, (.t 20)), (1, 1, (.t 25)), (2, 1, (.t 30))],.al 6 [.int .i64 0, .int .i64 0, .int .i64 0],.st (.t 6) (.t 31) 3]
 (.seq (sR [lD 32 6 3 true,cQ 33 Zh [32],.un 34 (.t 33)]
 (.cond (.t 34) (sR [.bd 35 [.int .i64 0, .int .i64 0, .int .i64 0] [],.st (.t 4) (.t 35) 3,.mv 5 (cB false)]
 gR)
 .skip))
 (sR [lD 36 6 3 true,.st (.t 4) (.t 36) 3,.mv 5 (cB true)]
 gR))))
def Z1p (a1 : Vec) (b2 : Vec) : Option (Vec × Bool) :=
 bif ((!(Z4 a1)) || (!(Z4 b2))) then (some ((Vec.mk 0 0 0), false)) else (bif (!(Z4 (Vec.mk (w64 (a1.a + b2.a)) (w64 (a1.b + b2.b)) (w64 (a1.c + b2.c))))) then (some ((Vec.mk 0 0 0), false)) else (some ((Vec.mk (w64 (a1.a + b2.a)) (w64 (a1.b + b2.b)) (w64 (a1.c + b2.c))), true)))
theorem Z4U {a1 : Vec} {b2 : Vec} {r : Vec × Bool} (H : Z1p a1 b2 = some r) : Snd Try.prog Z2C [eVec a1, eVec b2] (.tup [eVec r.1, .bool r.2]) [] := by
 refine wS Z6h [.c 4 3 true, .t 5] ?_
 unfold Z1p at H
 refine wG [.c 8 (Zi a1), .g 12 [((!(Z4 a1)), false)] (.call _ _ _ _ _ (AEs.refl _) (fun _ => Zi b2))] fun _ => ?_
 refine Wh_iH H (fun H => ?_) fun H => ?_
 .refine wP ?_
  replace H := sI H; subst H
  exact wN [(4, .d), (5, .d)] [(4, [])] [] [] [] []
 .refine wG [.u 33 (.call _ _ _ _ _ (AEs.refl _) (fun _ => Zi (Vec.mk (w64 (a1.a + b2.a)) (w64 (a1.b + b2.b)) (w64 (a1.c + b2.c)))))] fun _ => ?_
  refine Wh_iH H (fun H => ?_) fun H => ?_
  .refine wP ?_
   replace H := sI H; subst H
   exact wN [(4, .d), (5, .d)] [(4, [])] [] [] [] []
  .refine wP ?_
   replace H := sI H; subst H
   exact wN [(4, .d), (5, .d)] [(4, [])] [] [] [] []
def Z0W (a1 : Vec) (b2 : Vec) : Vec × Bool :=
 bif ((!(Z4 a1)) || (!(Z4 b2))) then (((Vec.mk 0 0 0), false)) else (bif (!(Z4 (Vec.mk (w64 (a1.a + b2.a)) (w64 (a1.b + b2.b)) (w64 (a1.c + b2.c))))) then (((Vec.mk 0 0 0), false)) else (((Vec.mk (w64 (a1.a + b2.a)) (w64 (a1.b + b2.b)) (w64 (a1.c + b2.c))), true)))
theorem Z6V (a1 : Vec) (b2 : Vec) : Z1p a1 b2 = some (Z0W a1 b2) := by
 unfold Z1p Z0W
 first | rfl | simp only [Z0a]
theorem Z68 (a1 : Vec) (b2 : Vec) : Snd Try.prog Z2C [eVec a1, eVec b2] (.tup [eVec ((Z0W a1 b2).1), .bool ((Z0W a1 b2).2)]) [] := Z4U (Z6V a1 b2)
def Z6f : L :=
sR [.bx 2 (.t 0),.bx 3 (.t 1),.al 4 [.int .i64 0, .int .i64 0, .int .i64 0],.mv 5 (cB false)]
 (.seq (sR [lD 6 3 3 true,lD 7 2 3 true,cQ 8 Z1c [6, 7],.un 9 (.t 8)]
 (.cond (.t 9) (sR [.bd 10 [.int .i64 0, .int .i64 0, .int .i64 0] [],.st (.t 4) (.t 10) 3,.mv 5 (cB false)]
 gR)
 .skip))
 (sR [fA 11 2 0,lD 12 11 1 false,fA 13 3 0,lD 14 13 1 false,bI 15 .sub 12 14,fA 16 2 1,lD 17 16 1 false,fA 18 3 1,lD 19 18 1 false,bI 20 .sub 17 19,fA 21 2 2,lD 22 21 1 false,fA 23 3 2,lD 24 23 1 false,bI 25 .sub 22 24,.bd 26 [.int .i64 0, .int .i64 0, .int .i64 0] [(0, 1, (.t 15)), (1, 1, (.t 20)), (2, 1, (.t 25))],.st (.t 4) (.t 26) 3,.mv 5 (cB true)]
 gR))
def Z1n (a1 : Vec) (b2 : Vec) : Option (Vec × Bool) :=
 bif (!(Z0b b2 a1)) then (some ((Vec.mk 0 0 0), false)) else (some ((Vec.mk (w64 (a1.a - b2.a)) (w64 (a1.b - b2.b)) (w64 (a1.c - b2.c))), true))
theorem Z4S {a1 : Vec} {b2 : Vec} {r : Vec × Bool} (H : Z1n a1 b2 = some r) : Snd Try.prog Z2A [eVec a1, eVec b2] (.tup [eVec r.1, .bool r.2]) [] := by
 refine wS Z6f [.c 4 3 true, .t 5] ?_
 unfold Z1n at H
 refine wG [.c 8 (Z2N b2 a1)] fun _ => ?_
 refine Wh_iH H (fun H => ?_) fun H => ?_
 .refine wP ?_
  replace H := sI H; subst H
  exact wN [(4, .d), (5, .d)] [(4, [])] [] [] [] []
 .refine wP ?_
  replace H := sI H; subst H
  exact wN [(4, .d), (5, .d)] [(4, [])] [] [] [] []
def Z0V (a1 : Vec) (b2 : Vec) : Vec × Bool :=
 bif (!(Z0b b2 a1)) then (((Vec.mk 0 0 0), false)) else (((Vec.mk (w64 (a1.a - b2.a)) (w64 (a1.b - b2.b)) (w64 (a1.c - b2.c))), true))
theorem Z6T (a1 : Vec) (b2 : Vec) : Z1n a1 b2 = some (Z0V a1 b2) := by
 unfold Z1n Z0V
 first | rfl | simp only [Z0a]
theorem Z65 (a1 : Vec) (b2 : Vec) : Snd Try.prog Z2A [eVec a1, eVec b2] (.tup [eVec ((Z0V a1 b2).1), .bool ((Z0V a1 b2).2)]) [] := Z4S (Z6T a1 b2)
def Z6e : L :=
.seq (rE 4 (kI 0))
 (.seq (sR [mV 5 0,mV 6 1,bI 7 .lss 5 6]
 (.cond (.t 7) (sR [mV 8 0,mV 4 8]
 gR)
 .skip))
 (sR [mV 9 1,mV 4 9]
 gR))
def Z1m (a1 : Int) (b2 : Int) : Option Int :=
 bif (decide (a1 < b2)) then (some a1) else (some b2)
theorem Z4R {a1 : Int} {b2 : Int} {r : Int} (H : Z1m a1 b2 = some r) : Snd Try.prog Z0T [.int .i64 a1, .int .i64 b2] (.int .i64 r) [] := by
 refine wS Z6e [.t 4] ?_
 unfold Z1m at H
 refine wP ?_
 refine Wh_iH H (fun H => ?_) fun H => ?_
 .refine wP ?_
  replace H := sI H; subst H
  exact wE [(4, .d)]
 .refine wP ?_
  replace H := sI H; subst H
  exact wE [(4, .d)]
def Z00 (a1 : Int) (b2 : Int) : Int :=
 bif (decide (a1 < b2)) then (a1) else (b2)
theorem Z6S (a1 : Int) (b2 : Int) : Z1m a1 b2 = some (Z00 a1 b2) := by
 unfold Z1m Z00
 first | rfl | simp only [Z0a]
theorem Z20 (a1 : Int) (b2 : Int) : Snd Try.prog Z0T [.int .i64 a1, .int .i64 b2] (.int .i64 (Z00 a1 b2)) [] := Z4R (Z6S a1 b2)
def Z6g : L :=
sR [.bx 2 (.t 0),.bx 3 (.t 1),.al 4 [.int .i64 0, .int .i64 0, .int .i64 0]]
 (.seq (sR [lD 5 2 3 true,cQ 6 Zh [5],.un 7 (.t 6),mV 8 7,.g 8 false (lD 9 3 3 true),.g 8 false (cQ 10 Zh [9]),.g 8 false (.un 11 (.t 10)),.pk 12 (.t 8) (cB true) (.t 11)]
 (.cond (.t 12) (sR [.bd 13 [.int .i64 0, .int .i64 0, .int .i64 0] [],.st (.t 4) (.t 13) 3]
 gR)
 .skip))
 (.seq (.rq 16 [fA 14 2 0,lD 15 14 1 false,fA 16 3 0,lD 17 16 1 false,cQ 18 Z0T [15, 17],fA 19 2 1,lD 20 19 1 false,fA 21 3 1,lD 22 21 1 false,cQ 23 Z0T [20, 22],fA 24 2 2,lD 25 24 1 false,fA 26 3 2,lD 27 26 1 false,cQ 28 Z0T [25, 27],.bd 29 [.int .i64 0, .int .i64 0, .int .i64 0] [(0, 1, (.t 18)), (1, 1, (.t 23)), (2, 1, (.t 28))],.st (.t 4) (.t 29) 3])
 gR))
def Z1o (a1 : Vec) (b2 : Vec) : Option Vec :=
 bif ((!(Z4 a1)) || (!(Z4 b2))) then (some (Vec.mk 0 0 0)) else (some (Vec.mk (Z00 a1.a b2.a) (Z00 a1.b b2.b) (Z00 a1.c b2.c)))
theorem Z4T {a1 : Vec} {b2 : Vec} {r : Vec} (H : Z1o a1 b2 = some r) : Snd Try.prog Z2B [eVec a1, eVec b2] (eVec r) [] := by
 refine wS Z6g [.c 4 3 true] ?_
 unfold Z1o at H
 refine wG [.c 6 (Zi a1), .g 10 [((!(Z4 a1)), false)] (.call _ _ _ _ _ (AEs.refl _) (fun _ => Zi b2))] fun _ => ?_
 refine Wh_iH H (fun H => ?_) fun H => ?_
 .refine wP ?_
  replace H := sI H; subst H
  exact wN [(4, .d)] [(4, [])] [] [] [] []
 .refine wG [.c 18 (Z20 a1.a b2.a), .c 23 (Z20 a1.b b2.b), .c 28 (Z20 a1.c b2.c)] fun _ => ?_
  replace H := sI H; subst H
  exact wN [(4, .d)] [(4, [])] [] [] [] []
def Z2k (a1 : Vec) (b2 : Vec) : Vec :=
 bif ((!(Z4 a1)) || (!(Z4 b2))) then ((Vec.mk 0 0 0)) else ((Vec.mk (Z00 a1.a b2.a) (Z00 a1.b b2.b) (Z00 a1.c b2.c)))
theorem Z6U (a1 : Vec) (b2 : Vec) : Z1o a1 b2 = some (Z2k a1 b2) := by
 unfold Z1o Z2k
 first | rfl | simp only [Z0a]
theorem Z66 (a1 : Vec) (b2 : Vec) : Snd Try.prog Z2B [eVec a1, eVec b2] (eVec (Z2k a1 b2)) [] := Z4T (Z6U a1 b2)
def Z6j : L :=
.seq (rE 6 (cB false))
 (sR [mV 7 0,mV 8 1,bI 9 .geq 7 8,mV 10 9,.g 10 true (mV 11 0),.g 10 true (mV 12 2),.g 10 true (bI 13 .leq 11 12),.pk 14 (.t 10) (.t 13) (cB false),mV 6 14]
 gR)
def Z1r (x1 : Int) (lo2 : Int) (hi3 : Int) : Option Bool :=
 some ((decide (lo2 <= x1)) && (decide (x1 <= hi3)))
theorem Z5b {x1 : Int} {lo2 : Int} {hi3 : Int} {r : Bool} (H : Z1r x1 lo2 hi3 = some r) : Snd Try.prog Z04 [.int .i64 x1, .int .i64 lo2, .int .i64 hi3] (.bool r) [] := by
 refine wS Z6j [.t 6] ?_
 unfold Z1r at H
 refine wP ?_
 replace H := sI H; subst H
 exact wE [(6, .d)]
def Z8 (x1 : Int) (lo2 : Int) (hi3 : Int) : Bool :=
 ((decide (lo2 <= x1)) && (decide (x1 <= hi3)))
theorem Z7r (x1 : Int) (lo2 : Int) (hi3 : Int) : Z1r x1 lo2 hi3 = some (Z8 x1 lo2 hi3) := by
 unfold Z1r Z8
 first | rfl | simp only [Z0a]
theorem Z0s (x1 : Int) (lo2 : Int) (hi3 : Int) : Snd Try.prog Z04 [.int .i64 x1, .int .i64 lo2, .int .i64 hi3] (.bool (Z8 x1 lo2 hi3)) [] := Z5b (Z7r x1 lo2 hi3)
def Z6k : L :=
.seq (rE 2 (cB false))
 (sR [mV 3 0,.cq 4 Z04 [(.t 3), (kI 0), (kI 1000000000)],mV 2 4]
 gR)
def Z1s (t1 : Int) : Option Bool :=
 some (Z8 t1 0 1000000000)
theorem Z5c {t1 : Int} {r : Bool} (H : Z1s t1 = some r) : Snd Try.prog Z0k [.int .i64 t1] (.bool r) [] := by
 refine wS Z6k [.t 2] ?_
 unfold Z1s at H
 refine wG [.c 4 (Z0s t1 0 1000000000)] fun _ => ?_
 replace H := sI H; subst H
 exact wE [(2, .d)]
def Zk (t1 : Int) : Bool :=
 (Z8 t1 0 1000000000)
theorem Z7s (t1 : Int) : Z1s t1 = some (Zk t1) := by
 unfold Z1s Zk
 first | rfl | simp only [Z0a]
theorem Z16 (t1 : Int) : Snd Try.prog Z0k [.int .i64 t1] (.bool (Zk t1)) [] := Z5c (Z7s t1)
def Z7o : L :=
sR [.bx 1 (.t 0),.mv 2 (cB false)]
 (sR [fA 3 1 0,lD 4 3 1 false,.cq 5 Z04 [(.t 4), (kI 0), (kI 1000000)],mV 6 5,.g 6 true (fA 7 1 1),.g 6 true (lD 8 7 1 false),.g 6 true (.cq 9 Z04 [(.t 8), (kI 0), (kI 1000000)]),.pk 10 (.t 6) (.t 9) (cB false),mV 11 10,.g 11 true (fA 12 1 2),.g 11 true (lD 13 12 1 false),.g 11 true (.cq 14 Z04 [(.t 13), (kI 0), (kI 1000000)]),.pk 15 (.t 11) (.t 14) (cB false),mV 2 15]
 gR)
def Z1U (v1 : Vec) : Option Bool :=
 some (((Z8 v1.a 0 1000000) && (Z8 v1.b 0 1000000)) && (Z8 v1.c 0 1000000))
theorem Z5R {v1 : Vec} {r : Bool} (H : Z1U v1 = some r) : Snd Try.prog Z0B [eVec v1] (.bool r) [] := by
 refine wS Z7o [.t 2] ?_
 unfold Z1U at H
 refine wG [.c 5 (Z0s v1.a 0 1000000), .g 9 [((Z8 v1.a 0 1000000), true)] (.call _ _ _ _ _ (AEs.refl _) (fun _ => Z0s v1.b 0 1000000)), .g 14 [(((Z8 v1.a 0 1000000) && (Z8 v1.b 0 1000000)), true)] (.call _ _ _ _ _ (AEs.refl _) (fun _ => Z0s v1.c 0 1000000))] fun _ => ?_
 replace H := sI H; subst H
 exact wE [(2, .d)]
def ZK (v1 : Vec) : Bool :=
 (((Z8 v1.a 0 1000000) && (Z8 v1.b 0 1000000)) && (Z8 v1.c 0 1000000))
theorem Z8h (v1 : Vec) : Z1U v1 = some (ZK v1) := by
 unfold Z1U ZK
 first | rfl | simp only [Z0a]
theorem Z1u (v1 : Vec) : Snd Try.prog Z0B [eVec v1] (.bool (ZK v1)) [] := Z5R (Z8h v1)
def Z5P : L :=
sR [.bx 2 (.t 0),.bx 3 (.t 1),.mv 4 (cB false)]
 (sR [lD 5 2 3 true,cQ 6 Z0B [5],mV 7 6,.g 7 true (lD 8 3 3 true),.g 7 true (cQ 9 Z0B [8]),.pk 10 (.t 7) (.t 9) (cB false),mV 11 10,.g 11 true (fA 12 2 0),.g 11 true (lD 13 12 1 false),.g 11 true (fA 14 3 0),.g 11 true (lD 15 14 1 false),.g 11 true (bI 16 .leq 13 15),.pk 17 (.t 11) (.t 16) (cB false),mV 18 17,.g 18 true (fA 19 2 1),.g 18 true (lD 20 19 1 false),.g 18 true (fA 21 3 1),.g 18 true (lD 22 21 1 false),.g 18 true (bI 23 .leq 20 22),.pk 24 (.t 18) (.t 23) (cB false),mV 25 24,.g 25 true (fA 26 2 2),.g 25 true (lD 27 26 1 false),.g 25 true (fA 28 3 2),.g 25 true (lD 29 28 1 false),.g 25 true (bI 30 .leq 27 29),.pk 31 (.t 25) (.t 30) (cB false),mV 4 31]
 gR)
def Z17 (a1 : Vec) (b2 : Vec) : Option Bool :=
 some (((((ZK a1) && (ZK b2)) && (decide (a1.a <= b2.a))) && (decide (a1.b <= b2.b))) && (decide (a1.c <= b2.c)))
theorem Z4o {a1 : Vec} {b2 : Vec} {r : Bool} (H : Z17 a1 b2 = some r) : Snd Try.prog Z1d [eVec a1, eVec b2] (.bool r) [] := by
 refine wS Z5P [.t 4] ?_
 unfold Z17 at H
 refine wG [.c 6 (Z1u a1), .g 9 [((ZK a1), true)] (.call _ _ _ _ _ (AEs.refl _) (fun _ => Z1u b2))] fun _ => ?_
 replace H := sI H; subst H
 exact wE [(4, .d)]
def Z5 (a1 : Vec) (b2 : Vec) : Bool :=
 (((((ZK a1) && (ZK b2)) && (decide (a1.a <= b2.a))) && (decide (a1.b <= b2.b))) && (decide (a1.c <= b2.c)))
theorem Z6p (a1 : Vec) (b2 : Vec) : Z17 a1 b2 = some (Z5 a1 b2) := by
 unfold Z17 Z5
 first | rfl | simp only [Z0a]
theorem Z30 (a1 : Vec) (b2 : Vec) : Snd Try.prog Z1d [eVec a1, eVec b2] (.bool (Z5 a1 b2)) [] := Z4o (Z6p a1 b2)
def Z6i : L :=
sR [.bx 1 (.t 0),.mv 2 (cB false)]
 (.seq (sR [fA 5 1 0,lD 6 5 1 false,.ln 7 (.t 6),.bi 8 .lss (.t 7) (kI 1),mV 9 8,.g 9 false (fA 10 1 0),.g 9 false (lD 11 10 1 false),.g 9 false (.ln 12 (.t 11)),.g 9 false (.bi 13 .gtr (.t 12) (kI 200)),.pk 14 (.t 9) (cB true) (.t 13),mV 15 14,.g 15 false (fA 16 1 0),.g 15 false (lD 17 16 1 false),.g 15 false (.ia 18 (.t 17) (kI 0) 4),.g 15 false (fA 19 18 0),.g 15 false (lD 20 19 1 false),.g 15 false (.bi 21 .neq (.t 20) (kI 0)),.pk 22 (.t 15) (cB true) (.t 21)]
 (.cond (.t 22) (.seq (rE 2 (cB false))
 gR)
 .skip))
 (.seq (sR [fA 23 1 0,lD 24 23 1 false,.ln 25 (.t 24),.mv 26 (kI 0)]
 (.blk 0 (.loop (.gw (sR [bI 27 .lss 26 25]
 (.seq (.cond (.t 27) .skip
 (.exit 0))
 (.seq (.blk 1 (sR [mV 28 26,iA 29 24 26 4,lD 30 29 4 true,.al 4 [.int .i64 0, .int .i64 0, .int .i64 0, .int .i64 0],mV 3 28,.st (.t 4) (.t 30) 4]
 (.seq (.rq 38 [fA 31 4 0,lD 32 31 1 false,cQ 33 Z0u [32],.un 34 (.t 33),mV 35 34,.g 35 false (fA 36 4 1),.g 35 false (lD 37 36 3 true),.g 35 false (cQ 38 Zh [37]),.g 35 false (.un 39 (.t 38)),.pk 40 (.t 35) (cB true) (.t 39),mV 41 40,.g 41 false (mV 42 3),.g 41 false (.bi 43 .gtr (.t 42) (kI 0)),.g 41 false (mV 44 43),.g 44 true (fA 45 1 0),.g 44 true (lD 46 45 1 false),.g 44 true (mV 47 3),.g 44 true (.bi 48 .sub (.t 47) (kI 1)),.g 44 true (iA 49 46 48 4),.g 44 true (fA 50 49 0),.g 44 true (lD 51 50 1 false),.g 44 true (fA 52 4 0),.g 44 true (lD 53 52 1 false),.g 44 true (bI 54 .geq 51 53),.g 44 true (mV 55 54),.g 55 false (fA 56 1 0),.g 55 false (lD 57 56 1 false),.g 55 false (mV 58 3),.g 55 false (.bi 59 .sub (.t 58) (kI 1)),.g 55 false (iA 60 57 59 4),.g 55 false (fA 61 60 1),.g 55 false (lD 62 61 3 true),.g 55 false (fA 63 4 1),.g 55 false (lD 64 63 3 true),.g 55 false (.es 65 false [0, 0, 0] (.t 62) (.t 64)),.g 44 true (.pk 66 (.t 55) (cB true) (.t 65)),.g 41 false (.pk 67 (.t 44) (.t 66) (cB false)),.pk 68 (.t 41) (cB true) (.t 67)])
 (.cond (.t 68) (.seq (rE 2 (cB false))
 gR)
 .skip))))
 (.reg [.bi 69 .add (.t 26) (kI 1),mV 26 69]))))))))
 (.seq (rE 2 (cB true))
 gR)))
def Z0L (p1 : List Pt) (x5 : Pt) (i5 : Nat) (_ : Unit) (k5 : Unit -> Option Bool) : Option Bool :=
 (bif ((!(Zf x5.t)) || (!(Z4 x5.free))) then some default else (bif (decide (0 < (i5 : Int))) then (idx p1 (w64 ((i5 : Int) - 1))) else some default)).bind fun e6 => (bif ((!(Zf x5.t)) || (!(Z4 x5.free))) then some default else (bif (decide (0 < (i5 : Int))) then (bif (decide (x5.t <= e6.t)) then some default else (idx p1 (w64 ((i5 : Int) - 1)))) else some default)).bind fun e7 => bif (((!(Zf x5.t)) || (!(Z4 x5.free))) || ((decide (0 < (i5 : Int))) && ((decide (x5.t <= e6.t)) || (e7.free.a == x5.free.a && (e7.free.b == x5.free.b && (e7.free.c == x5.free.c && true)))))) then (some false) else (k5 ())
def Z2O (_ : Unit) : Option Bool :=
 some true
def Zw (p1 : List Pt) : Option Bool :=
 (bif ((decide ((p1.length : Int) < 1)) || (decide (200 < (p1.length : Int)))) then some default else (idx p1 0)).bind fun e2 => bif (((decide ((p1.length : Int) < 1)) || (decide (200 < (p1.length : Int)))) || (e2.t != 0)) then (some false) else (rgl (Z0L p1) Z2O p1 0 ())
theorem Z21 {p1 : List Pt} {r : Bool} (H : Zw p1 = some r) : Snd Try.prog Z1A [.agg [.sl .rd 4 (p1.map ePt)]] (.bool r) [] := by
 refine wS Z6i [.t 2] ?_
 unfold Zw at H
 obtain ⟨e2, h2, H⟩ := bB H
 refine wG [.u 7 (.ln _ _ fun _ => lm p1 ePt), .g 12 [((decide ((p1.length : Int) < 1)), false)] (.ln _ _ fun _ => lm p1 ePt), .g 18 [(_, false)] (.ix _ _ _ fun q => Ze ePt (bF q.1 h2))] fun q3 => ?_
 refine Wh_iH H (fun H => ?_) fun H => ?_
 .refine wP ?_
  replace H := sI H; subst H
  exact wE [(2, .d)]
 .refine wG [.u 25 (.ln _ _ fun _ => lm p1 ePt)] fun q4 => ?_
  refine wR (fun (i5 : Nat) (v5 : Unit) => ⟨[(1, .ptr 1 0), (24, .sl .rd 4 (p1.map ePt)), (25, .int .i64 (p1.length : Int)), (26, .int .i64 (i5 : Int))], [], [(1, [.sl .rd 4 (p1.map ePt)])], []⟩) H (fun i5 x5 v5 I m k5 hxv5 hiv5 H N27 => ?_) (fun v5 I m H => ?_)
  .unfold Z0L at H
   refine wP ?_
   refine wt (ltT hiv5) ?_
   obtain ⟨e6, h6, H⟩ := bB H
   obtain ⟨e7, h7, H⟩ := bB H
   refine wG [.u 29 (.ix _ _ _ fun _ => Ze ePt (Z0e hxv5)), .c 33 (Z1F x5.t), .g 38 [((!(Zf x5.t)), false)] (.call _ _ _ _ _ (AEs.refl _) (fun _ => Zi x5.free)), .g 49 [(_, true), (_, false)] (.ix _ _ _ fun q => Ze ePt (bT q.1 (bF q.2.1 h6))), .g 60 [(_, false), (_, true), (_, false)] (.ix _ _ _ fun q => Ze ePt (bF q.1 (bT q.2.1 (bF q.2.2.1 h7))))] fun _ => ?_
   refine Wh_iH H (fun H => ?_) fun H => ?_
   .refine wP ?_
    replace H := sI H; subst H
    exact wE [(2, .d)]
   .refine wG [.w 69 (wi .i64 rfl hiv5 q3.1)] fun _ => ?_
    exact wT (N27 () H)
  .unfold Z2O at H
   refine wP ?_
   refine wf (ltF p1.length) ?_
   refine wP ?_
   replace H := sI H; subst H
   exact wE [(2, .d)]
def Z5M : L :=
sR [.bx 1 (.t 0),.al 2 [.nl],.mv 3 (cB false)]
 (.seq (sR [lD 4 1 3 true,cQ 5 Zh [4],.un 6 (.t 5)]
 (.cond (.t 6) (sR [.bd 7 [.nl] [],.st (.t 2) (.t 7) 1,.mv 3 (cB false)]
 gR)
 .skip))
 (sR [lD 8 1 3 true,.bd 9 [.int .i64 0, .int .i64 0, .int .i64 0, .int .i64 0] [(1, 3, (.t 8))],.bs 10 4 [(.t 9)] true,.bd 11 [.nl] [(0, 1, (.t 10))],.st (.t 2) (.t 11) 1,.mv 3 (cB true)]
 gR))
def Z13 (v1 : Vec) : Option ((List Pt) × Bool) :=
 bif (!(Z4 v1)) then (some ([], false)) else (some ([(Pt.mk 0 v1)], true))
theorem Z48 {v1 : Vec} {r : (List Pt) × Bool} (H : Z13 v1 = some r) : Snd Try.prog Z25 [eVec v1] (.tup [.agg [.sref 0], .bool r.2]) [⟨4, r.1.map ePt, false⟩] := by
 refine wS Z5M [.c 2 1 true, .t 3] ?_
 unfold Z13 at H
 refine wG [.c 5 (Zi v1)] fun _ => ?_
 refine Wh_iH H (fun H => ?_) fun H => ?_
 .refine wP ?_
  replace H := sI H; subst H
  exact wN [(2, .d), (3, .d)] [(2, [])] [] [] [none] []
 .refine wP ?_
  replace H := sI H; subst H
  exact wN [(2, .d), (3, .d)] [(2, [])] [(10, some 10, 0)] [] [some 10] [⟨_, nw_Pt [(Pt.mk 0 v1)]⟩]
def Z0c (v1 : Vec) : (List Pt) × Bool :=
 bif (!(Z4 v1)) then (([], false)) else (([(Pt.mk 0 v1)], true))
theorem Z69 (v1 : Vec) : Z13 v1 = some (Z0c v1) := by
 unfold Z13 Z0c
 first | rfl | simp only [Z0a]
theorem Z5x (v1 : Vec) : Snd Try.prog Z25 [eVec v1] (.tup [.agg [.sref 0], .bool ((Z0c v1).2)]) [⟨4, ((Z0c v1).1).map ePt, false⟩] := Z48 (Z69 v1)
def Z7l : L :=
sR [.bx 2 (.t 0),.al 4 [.int .i64 0, .int .i64 0, .int .i64 0]]
 (sR [.bd 8 [.int .i64 0, .int .i64 0, .int .i64 0] [],.al 5 [.int .i64 0, .int .i64 0, .int .i64 0],.st (.t 5) (.t 8) 3]
 (.seq (sR [fA 9 2 0,lD 10 9 1 false,.ln 11 (.t 10),.mv 12 (kI 0)]
 (.blk 0 (.loop (.gw (sR [bI 13 .lss 12 11]
 (.seq (.cond (.t 13) .skip
 (.exit 0))
 (.seq (.blk 1 (sR [iA 14 10 12 4,lD 15 14 4 true,.al 7 [.int .i64 0, .int .i64 0, .int .i64 0, .int .i64 0],.st (.t 7) (.t 15) 4]
 (sR [fA 16 7 0,lD 17 16 1 false,mV 18 1,bI 19 .leq 17 18]
 (.cond (.t 19) (.reg [fA 20 7 1,lD 21 20 3 true,.st (.t 5) (.t 21) 3])
 .skip))))
 (.reg [.bi 22 .add (.t 12) (kI 1),mV 12 22]))))))))
 (sR [lD 23 5 3 true,.st (.t 4) (.t 23) 3]
 gR)))
def Z10 (t2 : Int) (x4 : Pt) (_ : Nat) (v4 : Vec) (k4 : Vec -> Option Vec) : Option Vec :=
 bif (decide (x4.t <= t2)) then (k4 x4.free) else (k4 v4)
def Z3n (v4 : Vec) : Option Vec :=
 some v4
def Z0h (p1 : List Pt) (t2 : Int) : Option Vec :=
 rgl (Z10 t2) Z3n p1 0 (Vec.mk 0 0 0)
theorem Z2j {p1 : List Pt} {t2 : Int} {r : Vec} (H : Z0h p1 t2 = some r) : Snd Try.prog Z1Y [.agg [.sl .rd 4 (p1.map ePt)], .int .i64 t2] (eVec r) [] := by
 refine wS Z7l [.c 4 3 true] ?_
 unfold Z0h at H
 refine wG [.u 11 (.ln _ _ fun _ => lm p1 ePt)] fun q3 => ?_
 refine wR (fun (i4 : Nat) (v4 : Vec) => ⟨[(1, .int .i64 t2), (4, .ptr 4 0), (5, .ptr 5 0), (10, .sl .rd 4 (p1.map ePt)), (11, .int .i64 (p1.length : Int)), (12, .int .i64 (i4 : Int))], [], [(4, (eVec (Vec.mk 0 0 0)).cells), (5, (eVec v4).cells)], []⟩) H (fun i4 x4 v4 I m k4 hxv4 hiv4 H N19 => ?_) (fun v4 I m H => ?_)
 .unfold Z10 at H
  refine wP ?_
  refine wt (ltT hiv4) ?_
  refine wG [.u 14 (.ix _ _ _ fun _ => Ze ePt (Z0e hxv4))] fun _ => ?_
  refine Wh_iH H (fun H => ?_) fun H => ?_
  .refine wG [.w 22 (wi .i64 rfl hiv4 q3.1)] fun _ => ?_
   exact wT (N19 _ H)
  .refine wG [.w 22 (wi .i64 rfl hiv4 q3.1)] fun _ => ?_
   exact wT (N19 _ H)
 .unfold Z3n at H
  refine wP ?_
  refine wf (ltF p1.length) ?_
  refine wP ?_
  replace H := sI H; subst H
  exact wN [(4, .d)] [(4, [])] [] [] [] []
def Z5N : L :=
sR [.bx 3 (.t 0),.al 6 [.int .i64 0, .int .i64 0, .int .i64 0],.mv 7 (cB false)]
 (.seq (sR [lD 11 3 1 true,cQ 12 Z1A [11],.un 13 (.t 12),mV 14 13,.g 14 false (mV 15 1),.g 14 false (cQ 16 Z0u [15]),.g 14 false (.un 17 (.t 16)),.pk 18 (.t 14) (cB true) (.t 17),mV 19 18,.g 19 false (mV 20 2),.g 19 false (cQ 21 Z0u [20]),.g 19 false (.un 22 (.t 21)),.pk 23 (.t 19) (cB true) (.t 22),mV 24 23,.g 24 false (mV 25 1),.g 24 false (mV 26 2),.g 24 false (bI 27 .geq 25 26),.pk 28 (.t 24) (cB true) (.t 27)]
 (.cond (.t 28) (sR [.bd 29 [.int .i64 0, .int .i64 0, .int .i64 0] [],.st (.t 6) (.t 29) 3,.mv 7 (cB false)]
 gR)
 .skip))
 (sR [lD 30 3 1 true,mV 31 1,cQ 32 Z1Y [30, 31],.al 8 [.int .i64 0, .int .i64 0, .int .i64 0],.st (.t 8) (.t 32) 3]
 (.seq (sR [fA 33 3 0,lD 34 33 1 false,.ln 35 (.t 34),.mv 36 (kI 0)]
 (.blk 0 (.loop (.gw (sR [bI 37 .lss 36 35]
 (.seq (.cond (.t 37) .skip
 (.exit 0))
 (.seq (.blk 1 (sR [iA 38 34 36 4,lD 39 38 4 true,.al 10 [.int .i64 0, .int .i64 0, .int .i64 0, .int .i64 0],.st (.t 10) (.t 39) 4]
 (sR [fA 40 10 0,lD 41 40 1 false,mV 42 1,bI 43 .geq 41 42,mV 44 43,.g 44 true (fA 45 10 0),.g 44 true (lD 46 45 1 false),.g 44 true (mV 47 2),.g 44 true (bI 48 .lss 46 47),.pk 49 (.t 44) (.t 48) (cB false)]
 (.cond (.t 49) (.reg [lD 50 8 3 true,fA 51 10 1,lD 52 51 3 true,cQ 53 Z2B [50, 52],.st (.t 8) (.t 53) 3])
 .skip))))
 (.reg [.bi 54 .add (.t 36) (kI 1),mV 36 54]))))))))
 (sR [lD 55 8 3 true,.st (.t 6) (.t 55) 3,.mv 7 (cB true)]
 gR))))
def Z0w (from2 : Int) (to3 : Int) (x7 : Pt) (_ : Nat) (v7 : Vec) (k7 : Vec -> Option (Vec × Bool)) : Option (Vec × Bool) :=
 bif ((decide (from2 <= x7.t)) && (decide (x7.t < to3))) then (k7 (Z2k v7 x7.free)) else (k7 v7)
def Z2G (v7 : Vec) : Option (Vec × Bool) :=
 some (v7, true)
def ZY (p1 : List Pt) (from2 : Int) (to3 : Int) : Option (Vec × Bool) :=
 (Zw p1).bind fun b4 => bif ((((!b4) || (!(Zf from2))) || (!(Zf to3))) || (decide (to3 <= from2))) then (some ((Vec.mk 0 0 0), false)) else ((Z0h p1 from2).bind fun y5 => rgl (Z0w from2 to3) Z2G p1 0 y5)
theorem Z2P {p1 : List Pt} {from2 : Int} {to3 : Int} {r : Vec × Bool} (H : ZY p1 from2 to3 = some r) : Snd Try.prog Z26 [.agg [.sl .rd 4 (p1.map ePt)], .int .i64 from2, .int .i64 to3] (.tup [eVec r.1, .bool r.2]) [] := by
 refine wS Z5N [.c 6 3 true, .t 7] ?_
 unfold ZY at H
 obtain ⟨b4, h4, H⟩ := bB H
 refine wG [.c 12 (Z21 h4), .g 16 [((!b4), false)] (.call _ _ _ _ _ (AEs.refl _) (fun _ => Z1F from2)), .g 21 [(((!b4) || (!(Zf from2))), false)] (.call _ _ _ _ _ (AEs.refl _) (fun _ => Z1F to3))] fun _ => ?_
 refine Wh_iH H (fun H => ?_) fun H => ?_
 .refine wP ?_
  replace H := sI H; subst H
  exact wN [(6, .d), (7, .d)] [(6, [])] [] [] [] []
 .obtain ⟨y5, h5, H⟩ := bB H
  refine wG [.c 32 (Z2j h5), .u 35 (.ln _ _ fun _ => lm p1 ePt)] fun q6 => ?_
  refine wR (fun (i7 : Nat) (v7 : Vec) => ⟨[(1, .int .i64 from2), (2, .int .i64 to3), (6, .ptr 6 0), (8, .ptr 8 0), (34, .sl .rd 4 (p1.map ePt)), (35, .int .i64 (p1.length : Int)), (36, .int .i64 (i7 : Int))], [], [(6, (eVec (Vec.mk 0 0 0)).cells), (8, (eVec v7).cells)], []⟩) H (fun i7 x7 v7 I m k7 hxv7 hiv7 H N26 => ?_) (fun v7 I m H => ?_)
  .unfold Z0w at H
   refine wP ?_
   refine wt (ltT hiv7) ?_
   refine wG [.u 38 (.ix _ _ _ fun _ => Ze ePt (Z0e hxv7))] fun _ => ?_
   refine Wh_iH H (fun H => ?_) fun H => ?_
   .refine wG [.c 53 (Z66 v7 x7.free), .w 54 (wi .i64 rfl hiv7 q6.1)] fun _ => ?_
    exact wT (N26 _ H)
   .refine wG [.w 54 (wi .i64 rfl hiv7 q6.1)] fun _ => ?_
    exact wT (N26 _ H)
  .unfold Z2G at H
   refine wP ?_
   refine wf (ltF p1.length) ?_
   refine wP ?_
   replace H := sI H; subst H
   exact wN [(6, .d), (7, .d)] [(6, [])] [] [] [] []
def Z55 : L :=
sR [.bx 3 (.t 0),.mv 6 (.c (.nl))]
 (sR [.bs 16 1 [] true,mV 7 16]
 (.seq (sR [fA 17 3 0,lD 18 17 1 false,.ln 19 (.t 18),.mv 20 (kI 0)]
 (.blk 0 (.loop (.gw (sR [bI 21 .lss 20 19]
 (.seq (.cond (.t 21) .skip
 (.exit 0))
 (.seq (.blk 1 (sR [iA 22 18 20 4,lD 23 22 4 true,.al 9 [.int .i64 0, .int .i64 0, .int .i64 0, .int .i64 0],.st (.t 9) (.t 23) 4]
 (.reg [mV 24 7,fA 25 9 0,lD 26 25 1 false,.bs 27 1 [(.t 26)] false,.ap 28 (.t 24) (.t 27) 1 8,mV 7 28])))
 (.reg [.bi 29 .add (.t 20) (kI 1),mV 20 29]))))))))
 (.seq (sR [mV 30 1,mV 31 2,.bs 32 1 [(.t 30), (.t 31)] false,.ln 33 (.t 32),.mv 34 (kI 0)]
 (.blk 2 (.loop (.gw (sR [bI 35 .lss 34 33]
 (.seq (.cond (.t 35) .skip
 (.exit 2))
 (.seq (.blk 3 (sR [iA 36 32 34 1,lD 37 36 1 false,mV 11 37]
 (sR [.bs 38 1 [] true,mV 12 38]
 (.seq (rE 13 (cB false))
 (.seq (sR [mV 39 7,.ln 40 (.t 39),.mv 41 (kI 0)]
 (.blk 4 (.loop (.gw (sR [bI 42 .lss 41 40]
 (.seq (.cond (.t 42) .skip
 (.exit 4))
 (.seq (.blk 5 (sR [iA 43 39 41 1,lD 44 43 1 false,mV 15 44]
 (.seq (sR [mV 45 13,.un 46 (.t 45),mV 47 46,.g 47 true (mV 48 11),.g 47 true (mV 49 15),.g 47 true (bI 50 .leq 48 49),.pk 51 (.t 47) (.t 50) (cB false)]
 (.cond (.t 51) (sR [mV 52 12,mV 53 11,.bs 54 1 [(.t 53)] false,.ap 55 (.t 52) (.t 54) 1 8,mV 12 55]
 (rE 13 (cB true)))
 .skip))
 (.gw (sR [mV 56 15,mV 57 11,bI 58 .neq 56 57]
 (.cond (.t 58) (.reg [mV 59 12,mV 60 15,.bs 61 1 [(.t 60)] false,.ap 62 (.t 59) (.t 61) 1 8,mV 12 62])
 .skip))))))
 (.reg [.bi 63 .add (.t 41) (kI 1),mV 41 63]))))))))
 (.seq (sR [mV 64 13,.un 65 (.t 64)]
 (.cond (.t 65) (.reg [mV 66 12,mV 67 11,.bs 68 1 [(.t 67)] false,.ap 69 (.t 66) (.t 68) 1 8,mV 12 69])
 .skip))
 (.reg [mV 70 12,mV 7 70])))))))
 (.reg [.bi 71 .add (.t 34) (kI 1),mV 34 71]))))))))
 (sR [mV 72 7,mV 6 72]
 gR))))
def Zg (x8 : Int) (x10 : Int) (k10 : (Bool × (List Int)) -> Option (List Int)) (v12 : Bool × (List Int)) : Option (List Int) :=
 bif (x10 != x8) then ((appL 8 v12.2 [x10]).bind fun xs13 => k10 (v12.1, xs13)) else (k10 (v12.1, v12.2))
def Z0g (x8 : Int) (x10 : Int) (_ : Nat) (v10 : Bool × (List Int)) (k10 : (Bool × (List Int)) -> Option (List Int)) : Option (List Int) :=
 bif ((!v10.1) && (decide (x8 <= x10))) then ((appL 8 v10.2 [x8]).bind fun xs11 => (Zg x8 x10 k10) (true, xs11)) else ((Zg x8 x10 k10) (v10.1, v10.2))
def Z0f (x8 : Int) (k8 : (List Int) -> Option (List Int)) (v10 : Bool × (List Int)) : Option (List Int) :=
 bif (!v10.1) then ((appL 8 v10.2 [x8]).bind fun xs14 => k8 xs14) else (k8 v10.2)
def ZR (x8 : Int) (_ : Nat) (v8 : (List Int)) (k8 : (List Int) -> Option (List Int)) : Option (List Int) :=
 rgl (Z0g x8) (Z0f x8 k8) v8 0 (false, [])
def Z29 (v8 : (List Int)) : Option (List Int) :=
 some v8
def ZS (x5 : Pt) (_ : Nat) (v5 : (List Int)) (k5 : (List Int) -> Option (List Int)) : Option (List Int) :=
 (appL 8 v5 [x5.t]).bind fun xs6 => k5 xs6
def ZD (from2 : Int) (to3 : Int) (v5 : (List Int)) : Option (List Int) :=
 rgl ZR Z29 [from2, to3] 0 v5
def ZN (p1 : List Pt) (from2 : Int) (to3 : Int) : Option (List Int) :=
 rgl ZS (ZD from2 to3) p1 0 []
theorem Z2E {p1 : List Pt} {from2 : Int} {to3 : Int} {r : (List Int)} (H : ZN p1 from2 to3 = some r) : Snd Try.prog Z1O [.agg [.sl .rd 4 (p1.map ePt)], .int .i64 from2, .int .i64 to3] (.sl .nw 1 (r.map eI)) [] := by
 refine wS Z55 [.t 6] ?_
 unfold ZN at H
 refine wG [.u 19 (.ln _ _ fun _ => lm p1 ePt)] fun q4 => ?_
 refine wR (fun (i5 : Nat) (v5 : (List Int)) => ⟨[(1, .int .i64 from2), (2, .int .i64 to3), (7, .sref 16), (18, .sl .rd 4 (p1.map ePt)), (19, .int .i64 (p1.length : Int)), (20, .int .i64 (i5 : Int))], [], [], [(16, ⟨1, v5.map eI, false⟩)]⟩) H (fun i5 x5 v5 I m k5 hxv5 hiv5 H N15 => ?_) (fun v5 I m H => ?_)
 .unfold ZS at H
  refine wP ?_
  refine wt (ltT hiv5) ?_
  obtain ⟨xs6, h6, H⟩ := bB H
  refine wG [.u 22 (.ix _ _ _ fun _ => Ze ePt (Z0e hxv5)), .u 28 (.ap _ _ _ _ fun _ => Z0Q eI h6), .w 29 (wi .i64 rfl hiv5 q4.1)] fun _ => ?_
  exact wT (N15 _ H)
 .unfold ZD at H
  refine wP ?_
  refine wf (ltF p1.length) ?_
  refine wG [.u 33 (.ln _ _ fun _ => lm ([from2, to3] : List Int) eI)] fun q7 => ?_
  refine wR (fun (i8 : Nat) (v8 : (List Int)) => ⟨[(7, .sref 16), (32, .sl .nw 1 (([from2, to3]).map eI)), (33, .int .i64 (([from2, to3] : List Int).length : Int)), (34, .int .i64 (i8 : Int))], [], [], [(16, ⟨1, v8.map eI, false⟩)]⟩) H (fun i8 x8 v8 I m k8 hxv8 hiv8 H N70 => ?_) (fun v8 I m H => ?_)
  .unfold ZR at H
   refine wP ?_
   refine wt (ltT hiv8) ?_
   refine wG [.u 36 (.ix _ _ _ fun _ => Ze eI (Z0e hxv8)), .u 40 (.ln _ _ fun _ => lm v8 eI)] fun q9 => ?_
   refine wR (fun (i10 : Nat) (v10 : Bool × (List Int)) => ⟨[(11, .int .i64 x8), (12, .sref 38), (13, .bool v10.1), (32, .sl .nw 1 (([from2, to3]).map eI)), (33, .int .i64 (([from2, to3] : List Int).length : Int)), (34, .int .i64 (i8 : Int)), (39, .sref 16), (40, .int .i64 (v8.length : Int)), (41, .int .i64 (i10 : Int))], [], [], [(38, ⟨1, v10.2.map eI, false⟩), (16, ⟨1, v8.map eI, false⟩)]⟩) H (fun i10 x10 v10 I m k10 hxv10 hiv10 H N51 => ?_) (fun v10 I m H => ?_)
   .unfold Z0g at H
    refine wP ?_
    refine wt (ltT hiv10) ?_
    refine wG [.u 43 (.ix _ _ _ fun _ => Ze eI (Z0e hxv10)), .u 44 (.el _ _ _ fun _ => gm eI (Z24 (Z0e hxv10)))] fun _ => ?_
    refine Z0l (r := r) (Zg x8 x10 k10) 0 (fun v12 : Bool × (List Int) => ⟨[(11, .int .i64 x8), (12, .sref 38), (13, .bool v12.1), (15, .int .i64 x10), (32, .sl .nw 1 (([from2, to3]).map eI)), (33, .int .i64 (([from2, to3] : List Int).length : Int)), (34, .int .i64 (i8 : Int)), (39, .sref 16), (40, .int .i64 (v8.length : Int)), (41, .int .i64 (i10 : Int))], [], [], [(38, ⟨1, v12.2.map eI, false⟩), (16, ⟨1, v8.map eI, false⟩)]⟩) (by kernel_rfl) (fun v12 H => ?_) (fun J43 => ?_)
    .unfold Zg at H
     refine wP ?_
     refine Wh_iH H (fun H => ?_) fun H => ?_
     .obtain ⟨xs13, h13, H⟩ := bB H
      refine wG [.u 62 (.ap _ _ _ _ fun _ => Z0Q eI h13), .w 63 (wi .i64 rfl hiv10 q9.1)] fun _ => ?_
      exact wT (N51 _ H)
     .refine wG [.w 63 (wi .i64 rfl hiv10 q9.1)] fun _ => ?_
      exact wT (N51 _ H)
    .refine Wh_iH H (fun H => ?_) fun H => ?_
     .obtain ⟨xs11, h11, H⟩ := bB H
      refine wG [.u 55 (.ap _ _ _ _ fun _ => Z0Q eI h11)] fun _ => ?_
      exact wT (J43 _ H)
     .refine wP ?_
      exact wT (J43 _ H)
   .unfold Z0f at H
    refine wP ?_
    refine wf (ltF v8.length) ?_
    refine wP ?_
    refine Wh_iH H (fun H => ?_) fun H => ?_
    .obtain ⟨xs14, h14, H⟩ := bB H
     refine wG [.u 69 (.ap _ _ _ _ fun _ => Z0Q eI h14), .w 71 (wi .i64 rfl hiv8 q7.1)] fun _ => ?_
     exact Wh_to (N70 _ H) [] [] [(16, (some 38, 0))] [] (by kernel_rfl) (by kernel_rfl)
    .refine wG [.w 71 (wi .i64 rfl hiv8 q7.1)] fun _ => ?_
     exact Wh_to (N70 _ H) [] [] [(16, (some 38, 0))] [] (by kernel_rfl) (by kernel_rfl)
  .unfold Z29 at H
   refine wP ?_
   refine wf (ltF [from2, to3].length) ?_
   refine wP ?_
   replace H := sI H; subst H
   exact wN [(6, .f)] [] [] [16] [] [⟨_, nw_I v8⟩]
def Z4j : L :=
sR [.bx 5 (.t 0),.bx 8 (.t 3),.al 10 [.nl],.mv 11 (cB false)]
 (sR [.bd 18 [.nl] [],.al 12 [.nl],.st (.t 12) (.t 18) 1]
 (.seq (sR [lD 19 5 1 true,mV 20 1,mV 21 2,cQ 22 Z1O [19, 20, 21],.ln 23 (.t 22),.mv 24 (kI 0)]
 (.blk 0 (.loop (.gw (sR [bI 25 .lss 24 23]
 (.seq (.cond (.t 25) .skip
 (.exit 0))
 (.seq (.blk 1 (sR [iA 26 22 24 1,lD 27 26 1 false,mV 14 27]
 (sR [lD 28 5 1 true,mV 29 14,cQ 30 Z1Y [28, 29],.al 15 [.int .i64 0, .int .i64 0, .int .i64 0],.st (.t 15) (.t 30) 3]
 (.seq (sR [mV 31 14,mV 32 1,bI 33 .geq 31 32,mV 34 33,.g 34 true (mV 35 14),.g 34 true (mV 36 2),.g 34 true (bI 37 .lss 35 36),.pk 38 (.t 34) (.t 37) (cB false)]
 (.cond (.t 38) (.seq (rE 16 (cB false))
 (.seq (sR [mV 39 4]
 (.cond (.t 39) (.reg [lD 41 15 3 true,lD 42 8 3 true,cQ 43 Z2C [41, 42],mV 40 43,eX 44 40 0,eX 45 40 1,.st (.t 15) (.t 44) 3,mV 16 45])
 (.reg [lD 47 15 3 true,lD 48 8 3 true,cQ 49 Z2A [47, 48],mV 46 49,eX 50 46 0,eX 51 46 1,.st (.t 15) (.t 50) 3,mV 16 51])))
 (.gw (sR [mV 52 16,.un 53 (.t 52)]
 (.cond (.t 53) (sR [.bd 54 [.nl] [],.st (.t 10) (.t 54) 1,.mv 11 (cB false)]
 gR)
 .skip)))))
 .skip))
 (.gw (sR [fA 55 12 0,lD 56 55 1 false,.ln 57 (.t 56),mV 17 57]
 (.seq (.rq 13 [mV 58 17,.bi 59 .eql (.t 58) (kI 0),mV 60 59,.g 60 false (fA 61 12 0),.g 60 false (lD 62 61 1 false),.g 60 false (mV 63 17),.g 60 false (.bi 64 .sub (.t 63) (kI 1)),.g 60 false (iA 65 62 64 4),.g 60 false (fA 66 65 1),.g 60 false (lD 67 66 3 true),.g 60 false (lD 68 15 3 true),.g 60 false (.es 69 true [0, 0, 0] (.t 67) (.t 68)),.pk 70 (.t 60) (cB true) (.t 69)])
 (.cond (.t 70) (.reg [fA 71 12 0,lD 72 71 1 false,mV 73 14,lD 74 15 3 true,.bd 75 [.int .i64 0, .int .i64 0, .int .i64 0, .int .i64 0] [(0, 1, (.t 73)), (1, 3, (.t 74))],.bs 76 4 [(.t 75)] false,.ap 77 (.t 72) (.t 76) 4 32,fA 78 12 0,.st (.t 78) (.t 77) 1])
 .skip))))))))
 (.reg [.bi 79 .add (.t 24) (kI 1),mV 24 79]))))))))
 (.seq (sR [lD 80 12 1 true,cQ 81 Z1A [80],.un 82 (.t 81)]
 (.cond (.t 82) (sR [.bd 83 [.nl] [],.st (.t 10) (.t 83) 1,.mv 11 (cB false)]
 gR)
 .skip))
 (sR [lD 84 12 1 true,.st (.t 10) (.t 84) 1,.mv 11 (cB true)]
 gR))))
def Zr (v8 : (List Pt)) (x8 : Int) (k8 : (List Pt) -> Option ((List Pt) × Bool)) (v11 : Vec) : Option ((List Pt) × Bool) :=
 (bif ((v8.length : Int) == 0) then some default else (idx v8 (w64 ((v8.length : Int) - 1)))).bind fun e12 => bif (((v8.length : Int) == 0) || (!(e12.free.a == v11.a && (e12.free.b == v11.b && (e12.free.c == v11.c && true))))) then ((appL 32 v8 [(Pt.mk x8 v11)]).bind fun xs14 => k8 xs14) else (k8 v8)
def Zs (v8 : (List Pt)) (x8 : Int) (k8 : (List Pt) -> Option ((List Pt) × Bool)) (v10 : Vec × Bool) : Option ((List Pt) × Bool) :=
 bif (!v10.2) then (some ([], false)) else ((Zr v8 x8 k8) v10.1)
def Z0G (p1 : List Pt) (from2 : Int) (to3 : Int) (v4 : Vec) (add5 : Bool) (x8 : Int) (_ : Nat) (v8 : (List Pt)) (k8 : (List Pt) -> Option ((List Pt) × Bool)) : Option ((List Pt) × Bool) :=
 (Z0h p1 x8).bind fun y9 => bif ((decide (from2 <= x8)) && (decide (x8 < to3))) then (bif add5 then ((Zs v8 x8 k8) (((Z0W y9 v4).1), (Z0W y9 v4).2)) else ((Zs v8 x8 k8) (((Z0V y9 v4).1), (Z0V y9 v4).2))) else ((Zr v8 x8 k8) y9)
def Z0F (v8 : (List Pt)) : Option ((List Pt) × Bool) :=
 (Zw v8).bind fun b15 => bif (!b15) then (some ([], false)) else (some (v8, true))
def Z0o (p1 : List Pt) (from2 : Int) (to3 : Int) (v4 : Vec) (add5 : Bool) : Option ((List Pt) × Bool) :=
 (ZN p1 from2 to3).bind fun y6 => rgl (Z0G p1 from2 to3 v4 add5) Z0F y6 0 []
theorem Z45 {p1 : List Pt} {from2 : Int} {to3 : Int} {v4 : Vec} {add5 : Bool} {r : (List Pt) × Bool} (H : Z0o p1 from2 to3 v4 add5 = some r) : Snd Try.prog Z2J [.agg [.sl .rd 4 (p1.map ePt)], .int .i64 from2, .int .i64 to3, eVec v4, .bool add5] (.tup [.agg [.sref 0], .bool r.2]) [⟨4, r.1.map ePt, false⟩] := by
 refine wS Z4j [.c 10 1 true, .t 11] ?_
 unfold Z0o at H
 obtain ⟨y6, h6, H⟩ := bB H
 refine wG [.c 22 (Z2E h6), .u 23 (.ln _ _ fun _ => lm y6 eI)] fun q7 => ?_
 refine Wh_rgl (fun (i8 : Nat) (v8 : (List Pt)) => ⟨[(1, .int .i64 from2), (2, .int .i64 to3), (4, .bool add5), (5, .ptr 5 0), (8, .ptr 8 0), (10, .ptr 10 0), (12, .ptr 12 0), (22, .sl .nw 1 (y6.map eI)), (23, .int .i64 (y6.length : Int)), (24, .int .i64 (i8 : Int))], [], [(5, [.sl .rd 4 (p1.map ePt)]), (8, (eVec v4).cells), (10, [.nl]), (12, [.sref 147000])], [(147000, ⟨4, v8.map ePt, false⟩)]⟩) [] [(12, [.z 147000])] [(147000, (none, 4))] [] (by kernel_rfl) (by kernel_rfl) H (fun i8 x8 v8 I m k8 hxv8 hiv8 H N43 => ?_) (fun v8 I m H => ?_)
 .unfold Z0G at H
  refine wP ?_
  refine wt (ltT hiv8) ?_
  obtain ⟨y9, h9, H⟩ := bB H
  refine wG [.u 26 (.ix _ _ _ fun _ => Ze eI (Z0e hxv8)), .c 30 (Z2j h9)] fun _ => ?_
  refine Z0l (r := r) (Zr v8 x8 k8) 0 (fun v11 : Vec => ⟨[(1, .int .i64 from2), (2, .int .i64 to3), (4, .bool add5), (5, .ptr 5 0), (8, .ptr 8 0), (10, .ptr 10 0), (12, .ptr 12 0), (14, .int .i64 x8), (15, .ptr 15 0), (22, .sl .nw 1 (y6.map eI)), (23, .int .i64 (y6.length : Int)), (24, .int .i64 (i8 : Int))], [], [(5, [.sl .rd 4 (p1.map ePt)]), (8, (eVec v4).cells), (10, [.nl]), (12, [.sref 147000]), (15, (eVec v11).cells)], [(147000, ⟨4, v8.map ePt, false⟩)]⟩) (by kernel_rfl) (fun v11 H => ?_) (fun J34 => ?_)
  .unfold Zr at H
   obtain ⟨e12, h12, H⟩ := bB H
   refine wG [.u 57 (.ln _ _ fun _ => lm v8 ePt), .g 65 [(_, false)] (.ix _ _ _ fun q => Ze ePt (bF q.1 h12)), .g 67 [(_, false)] (.el _ _ _ fun q => gm ePt (Z24 (bF q.1 h12)))] fun q13 => ?_
   refine Wh_iH H (fun H => ?_) fun H => ?_
   .obtain ⟨xs14, h14, H⟩ := bB H
    refine wG [.u 77 (.ap _ _ _ _ fun _ => Z0Q ePt h14), .w 79 (wi .i64 rfl hiv8 q7.1)] fun _ => ?_
    exact wT (N43 _ H)
   .refine wG [.w 79 (wi .i64 rfl hiv8 q7.1)] fun _ => ?_
    exact wT (N43 _ H)
  .refine Wh_iH H (fun H => ?_) fun H => ?_
   .refine wP ?_
    refine Z0l (r := r) (Zs v8 x8 k8) 0 (fun v10 : Vec × Bool => ⟨[(1, .int .i64 from2), (2, .int .i64 to3), (4, .bool add5), (5, .ptr 5 0), (8, .ptr 8 0), (10, .ptr 10 0), (12, .ptr 12 0), (14, .int .i64 x8), (15, .ptr 15 0), (16, .bool v10.2), (22, .sl .nw 1 (y6.map eI)), (23, .int .i64 (y6.length : Int)), (24, .int .i64 (i8 : Int))], [], [(5, [.sl .rd 4 (p1.map ePt)]), (8, (eVec v4).cells), (10, [.nl]), (12, [.sref 147000]), (15, (eVec v10.1).cells)], [(147000, ⟨4, v8.map ePt, false⟩)]⟩) (by kernel_rfl) (fun v10 H => ?_) (fun J22 => ?_)
    .unfold Zs at H
     refine wP ?_
     refine Wh_iH H (fun H => ?_) fun H => ?_
     .refine wP ?_
      replace H := sI H; subst H
      exact wN [(10, .d), (11, .d)] [(10, [])] [] [] [none] []
     .refine wP ?_
      exact wT (J34 _ H)
    .refine Wh_iH H (fun H => ?_) fun H => ?_
     .refine wG [.c 43 (Z68 y9 v4)] fun _ => ?_
      exact wT (J22 _ H)
     .refine wG [.c 49 (Z65 y9 v4)] fun _ => ?_
      exact wT (J22 _ H)
   .refine wP ?_
    exact wT (J34 _ H)
 .unfold Z0F at H
  refine wP ?_
  refine wf (ltF y6.length) ?_
  obtain ⟨b15, h15, H⟩ := bB H
  refine wG [.c 81 (Z21 h15)] fun _ => ?_
  refine Wh_iH H (fun H => ?_) fun H => ?_
  .refine wP ?_
   replace H := sI H; subst H
   exact wN [(10, .d), (11, .d)] [(10, [])] [] [] [none] []
  .refine wP ?_
   replace H := sI H; subst H
   exact wN [(10, .d), (11, .d)] [(10, [])] [(147000, some 147000, 0)] [] [some 147000] [⟨_, nw_Pt v8⟩]
def Z5a : L :=
sR [.bx 4 (.t 0),.bx 7 (.t 3),.al 8 [.nl],.mv 9 (cB false)]
 (sR [lD 13 4 1 true,mV 14 1,mV 15 2,cQ 16 Z26 [13, 14, 15],mV 12 16,eX 17 12 0,eX 18 12 1,.al 10 [.int .i64 0, .int .i64 0, .int .i64 0],.st (.t 10) (.t 17) 3,mV 11 18]
 (.seq (sR [mV 19 11,.un 20 (.t 19)]
 (.cond (.t 20) (sR [.bd 21 [.nl] [],.st (.t 8) (.t 21) 1,.mv 9 (cB false)]
 gR)
 .skip))
 (sR [lD 22 4 1 true,mV 23 1,mV 24 2,lD 25 7 3 true,.cl 26 Z2J [(.t 22), (.t 23), (.t 24), (.t 25), (cB false)],eX 27 26 0,eX 28 26 1,.st (.t 8) (.t 27) 1,mV 9 28]
 gR)))
def Z0J (p1 : List Pt) (from2 : Int) (to3 : Int) (v4 : Vec) : Option ((List Pt) × Bool) :=
 (ZY p1 from2 to3).bind fun y5 => bif (!y5.2) then (some ([], false)) else ((Z0o p1 from2 to3 v4 false).bind fun y6 => some (y6.1, y6.2))
theorem Z4V {p1 : List Pt} {from2 : Int} {to3 : Int} {v4 : Vec} {r : (List Pt) × Bool} (H : Z0J p1 from2 to3 v4 = some r) : Snd Try.prog Z3d [.agg [.sl .rd 4 (p1.map ePt)], .int .i64 from2, .int .i64 to3, eVec v4] (.tup [.agg [.sref 0], .bool r.2]) [⟨4, r.1.map ePt, false⟩] := by
 refine wS Z5a [.c 8 1 true, .t 9] ?_
 unfold Z0J at H
 obtain ⟨y5, h5, H⟩ := bB H
 refine wG [.c 16 (Z2P h5)] fun _ => ?_
 refine Wh_iH H (fun H => ?_) fun H => ?_
 .refine wP ?_
  replace H := sI H; subst H
  exact wN [(8, .d), (9, .d)] [(8, [])] [] [] [none] []
 .obtain ⟨y6, h6, H⟩ := bB H
  refine wG [.c 26 (Z45 h6)] fun _ => ?_
  replace H := sI H; subst H
  exact wN [(8, .d), (9, .d)] [(8, [])] [(27000, some 27000, 0)] [] [some 27000] [⟨_, nw_Pt y6.1⟩]
def Z6m : L :=
sR [.bx 1 (.t 0),.mv 2 (cB false)]
 (.seq (sR [fA 5 1 0,lD 6 5 1 false,.ln 7 (.t 6),.cq 8 Z04 [(.t 7), (kI 1), (kI 200)],.un 9 (.t 8),mV 10 9,.g 10 false (fA 11 1 0),.g 10 false (lD 12 11 1 false),.g 10 false (.ia 13 (.t 12) (kI 0) 4),.g 10 false (fA 14 13 0),.g 10 false (lD 15 14 1 false),.g 10 false (.bi 16 .neq (.t 15) (kI 0)),.pk 17 (.t 10) (cB true) (.t 16)]
 (.cond (.t 17) (.seq (rE 2 (cB false))
 gR)
 .skip))
 (.seq (sR [fA 18 1 0,lD 19 18 1 false,.ln 20 (.t 19),.mv 21 (kI 0)]
 (.blk 0 (.loop (.gw (sR [bI 22 .lss 21 20]
 (.seq (.cond (.t 22) .skip
 (.exit 0))
 (.seq (.blk 1 (sR [mV 23 21,iA 24 19 21 4,lD 25 24 4 true,.al 4 [.int .i64 0, .int .i64 0, .int .i64 0, .int .i64 0],mV 3 23,.st (.t 4) (.t 25) 4]
 (.seq (.rq 38 [fA 26 4 0,lD 27 26 1 false,cQ 28 Z0k [27],.un 29 (.t 28),mV 30 29,.g 30 false (fA 31 4 1),.g 30 false (lD 32 31 3 true),.g 30 false (cQ 33 Z0B [32]),.g 30 false (.un 34 (.t 33)),.pk 35 (.t 30) (cB true) (.t 34),mV 36 35,.g 36 false (mV 37 3),.g 36 false (.bi 38 .gtr (.t 37) (kI 0)),.g 36 false (mV 39 38),.g 39 true (fA 40 1 0),.g 39 true (lD 41 40 1 false),.g 39 true (mV 42 3),.g 39 true (.bi 43 .sub (.t 42) (kI 1)),.g 39 true (iA 44 41 43 4),.g 39 true (fA 45 44 0),.g 39 true (lD 46 45 1 false),.g 39 true (fA 47 4 0),.g 39 true (lD 48 47 1 false),.g 39 true (bI 49 .geq 46 48),.g 39 true (mV 50 49),.g 50 false (fA 51 1 0),.g 50 false (lD 52 51 1 false),.g 50 false (mV 53 3),.g 50 false (.bi 54 .sub (.t 53) (kI 1)),.g 50 false (iA 55 52 54 4),.g 50 false (fA 56 55 1),.g 50 false (lD 57 56 3 true),.g 50 false (fA 58 4 1),.g 50 false (lD 59 58 3 true),.g 50 false (.es 60 false [0, 0, 0] (.t 57) (.t 59)),.g 39 true (.pk 61 (.t 50) (cB true) (.t 60)),.g 36 false (.pk 62 (.t 39) (.t 61) (cB false)),.pk 63 (.t 36) (cB true) (.t 62)])
 (.cond (.t 63) (.seq (rE 2 (cB false))
 gR)
 .skip))))
 (.reg [.bi 64 .add (.t 21) (kI 1),mV 21 64]))))))))
 (.seq (rE 2 (cB true))
 gR)))
def Z32 (p1 : List Pt) (x5 : Pt) (i5 : Nat) (_ : Unit) (k5 : Unit -> Option Bool) : Option Bool :=
 (bif ((!(Zk x5.t)) || (!(ZK x5.free))) then some default else (bif (decide (0 < (i5 : Int))) then (idx p1 (w64 ((i5 : Int) - 1))) else some default)).bind fun e6 => (bif ((!(Zk x5.t)) || (!(ZK x5.free))) then some default else (bif (decide (0 < (i5 : Int))) then (bif (decide (x5.t <= e6.t)) then some default else (idx p1 (w64 ((i5 : Int) - 1)))) else some default)).bind fun e7 => bif (((!(Zk x5.t)) || (!(ZK x5.free))) || ((decide (0 < (i5 : Int))) && ((decide (x5.t <= e6.t)) || (e7.free.a == x5.free.a && (e7.free.b == x5.free.b && (e7.free.c == x5.free.c && true)))))) then (some false) else (k5 ())
def Z31 (_ : Unit) : Option Bool :=
 some true
def Z0X (p1 : List Pt) : Option Bool :=
 (bif (!(Z8 (p1.length : Int) 1 200)) then some default else (idx p1 0)).bind fun e2 => bif ((!(Z8 (p1.length : Int) 1 200)) || (e2.t != 0)) then (some false) else (rgl (Z32 p1) Z31 p1 0 ())
theorem Z3s {p1 : List Pt} {r : Bool} (H : Z0X p1 = some r) : Snd Try.prog Z2D [.agg [.sl .rd 4 (p1.map ePt)]] (.bool r) [] := by
 refine wS Z6m [.t 2] ?_
 unfold Z0X at H
 obtain ⟨e2, h2, H⟩ := bB H
 refine wG [.u 7 (.ln _ _ fun _ => lm p1 ePt), .u 8 (.call _ _ _ _ _ (AEs.refl _) (fun _ => Z0s (p1.length : Int) 1 200)), .g 13 [(_, false)] (.ix _ _ _ fun q => Ze ePt (bF q.1 h2))] fun q3 => ?_
 refine Wh_iH H (fun H => ?_) fun H => ?_
 .refine wP ?_
  replace H := sI H; subst H
  exact wE [(2, .d)]
 .refine wG [.u 20 (.ln _ _ fun _ => lm p1 ePt)] fun q4 => ?_
  refine wR (fun (i5 : Nat) (v5 : Unit) => ⟨[(1, .ptr 1 0), (19, .sl .rd 4 (p1.map ePt)), (20, .int .i64 (p1.length : Int)), (21, .int .i64 (i5 : Int))], [], [(1, [.sl .rd 4 (p1.map ePt)])], []⟩) H (fun i5 x5 v5 I m k5 hxv5 hiv5 H N27 => ?_) (fun v5 I m H => ?_)
  .unfold Z32 at H
   refine wP ?_
   refine wt (ltT hiv5) ?_
   obtain ⟨e6, h6, H⟩ := bB H
   obtain ⟨e7, h7, H⟩ := bB H
   refine wG [.u 24 (.ix _ _ _ fun _ => Ze ePt (Z0e hxv5)), .c 28 (Z16 x5.t), .g 33 [((!(Zk x5.t)), false)] (.call _ _ _ _ _ (AEs.refl _) (fun _ => Z1u x5.free)), .g 44 [(_, true), (_, false)] (.ix _ _ _ fun q => Ze ePt (bT q.1 (bF q.2.1 h6))), .g 55 [(_, false), (_, true), (_, false)] (.ix _ _ _ fun q => Ze ePt (bF q.1 (bT q.2.1 (bF q.2.2.1 h7))))] fun _ => ?_
   refine Wh_iH H (fun H => ?_) fun H => ?_
   .refine wP ?_
    replace H := sI H; subst H
    exact wE [(2, .d)]
   .refine wG [.w 64 (wi .i64 rfl hiv5 q3.1)] fun _ => ?_
    exact wT (N27 () H)
  .unfold Z31 at H
   refine wP ?_
   refine wf (ltF p1.length) ?_
   refine wP ?_
   replace H := sI H; subst H
   exact wE [(2, .d)]
def Z4m : L :=
sR [.bx 2 (.t 0),.al 4 [.int .i64 0, .int .i64 0, .int .i64 0]]
 (sR [.bd 8 [.int .i64 0, .int .i64 0, .int .i64 0] [],.al 5 [.int .i64 0, .int .i64 0, .int .i64 0],.st (.t 5) (.t 8) 3]
 (.seq (sR [fA 9 2 0,lD 10 9 1 false,.ln 11 (.t 10),.mv 12 (kI 0)]
 (.blk 0 (.loop (.gw (sR [bI 13 .lss 12 11]
 (.seq (.cond (.t 13) .skip
 (.exit 0))
 (.seq (.blk 1 (sR [iA 14 10 12 4,lD 15 14 4 true,.al 7 [.int .i64 0, .int .i64 0, .int .i64 0, .int .i64 0],.st (.t 7) (.t 15) 4]
 (sR [fA 16 7 0,lD 17 16 1 false,mV 18 1,bI 19 .leq 17 18]
 (.cond (.t 19) (.reg [fA 20 7 1,lD 21 20 3 true,.st (.t 5) (.t 21) 3])
 .skip))))
 (.reg [.bi 22 .add (.t 12) (kI 1),mV 12 22]))))))))
 (sR [lD 23 5 3 true,.st (.t 4) (.t 23) 3]
 gR)))
def Z1W (t2 : Int) (x4 : Pt) (_ : Nat) (v4 : Vec) (k4 : Vec -> Option Vec) : Option Vec :=
 bif (decide (x4.t <= t2)) then (k4 x4.free) else (k4 v4)
def Z1V (v4 : Vec) : Option Vec :=
 some v4
def Z18 (p1 : List Pt) (t2 : Int) : Option Vec :=
 rgl (Z1W t2) Z1V p1 0 (Vec.mk 0 0 0)
theorem Z4p {p1 : List Pt} {t2 : Int} {r : Vec} (H : Z18 p1 t2 = some r) : Snd Try.prog Z2L [.agg [.sl .rd 4 (p1.map ePt)], .int .i64 t2] (eVec r) [] := by
 refine wS Z4m [.c 4 3 true] ?_
 unfold Z18 at H
 refine wG [.u 11 (.ln _ _ fun _ => lm p1 ePt)] fun q3 => ?_
 refine wR (fun (i4 : Nat) (v4 : Vec) => ⟨[(1, .int .i64 t2), (4, .ptr 4 0), (5, .ptr 5 0), (10, .sl .rd 4 (p1.map ePt)), (11, .int .i64 (p1.length : Int)), (12, .int .i64 (i4 : Int))], [], [(4, (eVec (Vec.mk 0 0 0)).cells), (5, (eVec v4).cells)], []⟩) H (fun i4 x4 v4 I m k4 hxv4 hiv4 H N19 => ?_) (fun v4 I m H => ?_)
 .unfold Z1W at H
  refine wP ?_
  refine wt (ltT hiv4) ?_
  refine wG [.u 14 (.ix _ _ _ fun _ => Ze ePt (Z0e hxv4))] fun _ => ?_
  refine Wh_iH H (fun H => ?_) fun H => ?_
  .refine wG [.w 22 (wi .i64 rfl hiv4 q3.1)] fun _ => ?_
   exact wT (N19 _ H)
  .refine wG [.w 22 (wi .i64 rfl hiv4 q3.1)] fun _ => ?_
   exact wT (N19 _ H)
 .unfold Z1V at H
  refine wP ?_
  refine wf (ltF p1.length) ?_
  refine wP ?_
  replace H := sI H; subst H
  exact wN [(4, .d)] [(4, [])] [] [] [] []
def Z6n : L :=
sR [.bx 2 (.t 0),.al 4 [.int .i64 0, .int .i64 0, .int .i64 0]]
 (.seq (sR [lD 5 2 1 true,cQ 6 Z2D [5],.un 7 (.t 6),mV 8 7,.g 8 false (mV 9 1),.g 8 false (cQ 10 Z0k [9]),.g 8 false (.un 11 (.t 10)),.pk 12 (.t 8) (cB true) (.t 11)]
 (.cond (.t 12) (sR [.bd 13 [.int .i64 0, .int .i64 0, .int .i64 0] [],.st (.t 4) (.t 13) 3]
 gR)
 .skip))
 (sR [lD 14 2 1 true,mV 15 1,cQ 16 Z2L [14, 15],.st (.t 4) (.t 16) 3]
 gR))
def Z1M (p1 : List Pt) (t2 : Int) : Option Vec :=
 (Z0X p1).bind fun b3 => bif ((!b3) || (!(Zk t2))) then (some (Vec.mk 0 0 0)) else ((Z18 p1 t2).bind fun y4 => some y4)
theorem Z6q {p1 : List Pt} {t2 : Int} {r : Vec} (H : Z1M p1 t2 = some r) : Snd Try.prog Z40 [.agg [.sl .rd 4 (p1.map ePt)], .int .i64 t2] (eVec r) [] := by
 refine wS Z6n [.c 4 3 true] ?_
 unfold Z1M at H
 obtain ⟨b3, h3, H⟩ := bB H
 refine wG [.c 6 (Z3s h3), .g 10 [((!b3), false)] (.call _ _ _ _ _ (AEs.refl _) (fun _ => Z16 t2))] fun _ => ?_
 refine Wh_iH H (fun H => ?_) fun H => ?_
 .refine wP ?_
  replace H := sI H; subst H
  exact wN [(4, .d)] [(4, [])] [] [] [] []
 .obtain ⟨y4, h4, H⟩ := bB H
  refine wG [.c 16 (Z4p h4)] fun _ => ?_
  replace H := sI H; subst H
  exact wN [(4, .d)] [(4, [])] [] [] [] []
def Z6l : L :=
.seq (rE 4 (cB false))
 (sR [mV 5 0,cQ 6 Z0k [5],mV 7 6,.g 7 true (mV 8 1),.g 7 true (cQ 9 Z0k [8]),.pk 10 (.t 7) (.t 9) (cB false),mV 11 10,.g 11 true (mV 12 0),.g 11 true (mV 13 1),.g 11 true (bI 14 .lss 12 13),.pk 15 (.t 11) (.t 14) (cB false),mV 4 15]
 gR)
def Z1t (from1 : Int) (to2 : Int) : Option Bool :=
 some (((Zk from1) && (Zk to2)) && (decide (from1 < to2)))
theorem Z5d {from1 : Int} {to2 : Int} {r : Bool} (H : Z1t from1 to2 = some r) : Snd Try.prog Z1B [.int .i64 from1, .int .i64 to2] (.bool r) [] := by
 refine wS Z6l [.t 4] ?_
 unfold Z1t at H
 refine wG [.c 6 (Z16 from1), .g 9 [((Zk from1), true)] (.call _ _ _ _ _ (AEs.refl _) (fun _ => Z16 to2))] fun _ => ?_
 replace H := sI H; subst H
 exact wE [(4, .d)]
def Z02 (from1 : Int) (to2 : Int) : Bool :=
 (((Zk from1) && (Zk to2)) && (decide (from1 < to2)))
theorem Z7t (from1 : Int) (to2 : Int) : Z1t from1 to2 = some (Z02 from1 to2) := by
 unfold Z1t Z02
 first | rfl | simp only [Z0a]
theorem Z3r (from1 : Int) (to2 : Int) : Snd Try.prog Z1B [.int .i64 from1, .int .i64 to2] (.bool (Z02 from1 to2)) [] := Z5d (Z7t from1 to2)
def Z54 : L :=
sR [.bx 3 (.t 1),.mv 4 (.c (.nl))]
 (sR [mV 6 0,.ln 7 (.t 6),mV 5 7]
 (.seq (.seq (.rq 13 [mV 8 5,.bi 9 .gtr (.t 8) (kI 0),mV 10 9,.g 10 true (mV 11 0),.g 10 true (mV 12 5),.g 10 true (.bi 13 .sub (.t 12) (kI 1)),.g 10 true (iA 14 11 13 2),.g 10 true (fA 15 14 1),.g 10 true (lD 16 15 1 false),.g 10 true (fA 17 3 0),.g 10 true (lD 18 17 1 false),.g 10 true (bI 19 .eql 16 18),.pk 20 (.t 10) (.t 19) (cB false)])
 (.cond (.t 20) (.seq (.gw (.rz [] [(1, false, mV 22 0),
 (2, false, mV 23 5),
 (3, false, .bi 24 .sub (.t 23) (kI 1)),
 (4, false, .sc 25 (.t 22) none (some (.t 24)) 2),
 (6, false, mV 27 0),
 (7, false, mV 28 5),
 (8, false, .bi 29 .sub (.t 28) (kI 1)),
 (9, false, iA 30 27 29 2),
 (10, false, fA 31 30 0),
 (11, false, lD 32 31 1 false),
 (12, false, fA 33 3 1),
 (13, false, lD 34 33 1 false),
 (14, false, .bd 35 [.int .i64 0, .int .i64 0] [(0, 1, (.t 32)), (1, 1, (.t 34))]),
 (15, false, .bs 36 2 [(.t 35)] false),
 (0, true, .bs 21 2 [] true),
 (5, true, .ap 26 (.t 21) (.t 25) 2 16)]
 [.ap 37 (.t 26) (.t 36) 2 16,mV 4 37]))
 gR)
 .skip))
 (sR [mV 38 0,lD 39 3 2 true,.bs 40 2 [(.t 39)] false,.ap 41 (.t 38) (.t 40) 2 16,mV 4 41]
 gR)))
def Z4Y : List Rv := [.t 4]
theorem Z5f : chkFn Try.prog Z1w 2 Z54 Z4Y = true := by kernel_rfl
def Z0D (l1 : List Hole) (h2 : Hole) : Option (List Hole) :=
 (bif (decide (0 < (l1.length : Int))) then (idx l1 (w64 ((l1.length : Int) - 1))) else some default).bind fun e3 => bif ((decide (0 < (l1.length : Int))) && (e3.b == h2.a)) then ((cutL l1 none (some (w64 ((l1.length : Int) - 1)))).bind fun xs5 => (idx l1 (w64 ((l1.length : Int) - 1))).bind fun e6 => (appL 16 ([] : List Hole) xs5).bind fun xs7 => (appL 16 xs7 [(Hole.mk e6.a h2.b)]).bind fun xs8 => some xs8) else ((appL 16 l1 [h2]).bind fun xs9 => some xs9)
set_option maxRecDepth 20000 in
theorem Z4N {l1 : List Hole} {h2 : Hole} {r : (List Hole)} (H : Z0D l1 h2 = some r) : ConD Try.prog Z1w [.sref 0, eHole h2] [] [(2, l1.map eHole)] (.sref 1) [] [none] [(2, r.map eHole)] := by
 refine con_g [false] Z5f rfl (by kernel_rfl) ?_
 unfold Z0D at H
 obtain ⟨e3, h3, H⟩ := bB H
 refine wG [.u 7 (.ln _ _ fun _ => lm l1 eHole), .g 14 [(_, true)] (.ix _ _ _ fun q => Ze eHole (bT q.1 h3)), .g 16 [(_, true)] (.el _ _ _ fun q => gm eHole (Z24 (bT q.1 h3)))] fun q4 => ?_
 refine Wh_iH H (fun H => ?_) fun H => ?_
 .refine wP ?_
  refine Wh_fz [(0, .f), (6, .f)] [] [500000000] (by kernel_rfl) ?_
  obtain ⟨xs5, h5, H⟩ := bB H
  obtain ⟨e6, h6, H⟩ := bB H
  obtain ⟨xs7, h7, H⟩ := bB H
  obtain ⟨xs8, h8, H⟩ := bB H
  refine wG [.u 25 (.sc _ _ _ _ fun _ => cutL_map eHole h5), .u 30 (.ix _ _ _ fun _ => Ze eHole h6), .u 26 (.ap _ _ _ _ fun _ => Z0Q eHole h7), .u 37 (.ap _ _ _ _ fun _ => Z0Q eHole h8)] fun _ => ?_
  replace H := sI H; subst H
  exact Z03 [(4, .d)] [] [(21, some 21, 0)] [] [21] (by kernel_rfl)
 .obtain ⟨xs9, h9, H⟩ := bB H
  refine wG [.u 41 (.ap _ _ _ _ fun _ => Z0Q eHole h9)] fun _ => ?_
  replace H := sI H; subst H
  exact Z03 [(4, .d)] [] [(500000000, some 500000000, 0)] [] [500000000] (by kernel_rfl)
def Z7n : L :=
sR [.bx 4 (.t 0),.bx 5 (.t 1),.mv 8 (.c (.nl))]
 (sR [.bs 15 2 [] true,mV 9 15]
 (sR [lD 17 4 1 true,mV 18 2,mV 19 3,cQ 20 Z26 [17, 18, 19],mV 16 20,eX 21 16 0,eX 22 16 1,.al 10 [.int .i64 0, .int .i64 0, .int .i64 0],.st (.t 10) (.t 21) 3,mV 11 22]
 (.seq (sR [mV 23 11,.un 24 (.t 23),mV 25 24,.g 25 false (lD 26 5 3 true),.g 25 false (cQ 27 Zh [26]),.g 25 false (.un 28 (.t 27)),.pk 29 (.t 25) (cB true) (.t 28)]
 (.cond (.t 29) (sR [mV 30 9,mV 8 30]
 gR)
 .skip))
 (sR [lD 31 4 1 true,mV 32 2,mV 33 3,cQ 34 Z1O [31, 32, 33],mV 12 34]
 (.seq (sR [mV 35 12,.ln 36 (.t 35),.mv 37 (kI 0)]
 (.blk 0 (.loop (.gw (sR [bI 38 .lss 37 36]
 (.seq (.cond (.t 38) .skip
 (.exit 0))
 (.seq (.blk 1 (sR [mV 39 37,iA 40 35 37 1,lD 41 40 1 false,mV 13 39,mV 14 41]
 (.seq (.rq 15 [mV 42 14,mV 43 2,bI 44 .geq 42 43,mV 45 44,.g 45 true (mV 46 14),.g 45 true (mV 47 3),.g 45 true (bI 48 .lss 46 47),.pk 49 (.t 45) (.t 48) (cB false),mV 50 49,.g 50 true (lD 51 5 3 true),.g 50 true (lD 52 4 1 true),.g 50 true (mV 53 14),.g 50 true (cQ 54 Z1Y [52, 53]),.g 50 true (cQ 55 Z1c [51, 54]),.pk 56 (.t 50) (.t 55) (cB false)])
 (.cond (.t 56) (.reg [mV 57 9,mV 58 14,mV 59 12,mV 60 13,.bi 61 .add (.t 60) (kI 1),iA 62 59 61 1,lD 63 62 1 false,.bd 64 [.int .i64 0, .int .i64 0] [(0, 1, (.t 58)), (1, 1, (.t 63))],.cm 65 Z1w [(.t 57), (.t 64)],mV 9 65])
 .skip))))
 (.reg [.bi 66 .add (.t 37) (kI 1),mV 37 66]))))))))
 (sR [mV 67 9,mV 8 67]
 gR))))))
def Z08 (p1 : List Pt) (v2 : Vec) (from3 : Int) (to4 : Int) (y6 : (List Int)) (x8 : Int) (i8 : Nat) (v8 : (List Hole)) (k8 : (List Hole) -> Option (List Hole)) : Option (List Hole) :=
 (bif ((decide (from3 <= x8)) && (decide (x8 < to4))) then (Z0h p1 x8) else some default).bind fun y9 => bif (((decide (from3 <= x8)) && (decide (x8 < to4))) && (Z0b v2 y9)) then ((idx y6 ((i8 + 1 : Nat) : Int)).bind fun e10 => (Z0D v8 (Hole.mk x8 e10)).bind fun y11 => k8 y11) else (k8 v8)
def Z0p (v8 : (List Hole)) : Option (List Hole) :=
 some v8
def Z2a (p1 : List Pt) (v2 : Vec) (from3 : Int) (to4 : Int) : Option (List Hole) :=
 (ZY p1 from3 to4).bind fun y5 => bif ((!y5.2) || (!(Z4 v2))) then (some []) else ((ZN p1 from3 to4).bind fun y6 => rgl (Z08 p1 v2 from3 to4 y6) Z0p y6 0 [])
theorem Z6W {p1 : List Pt} {v2 : Vec} {from3 : Int} {to4 : Int} {r : (List Hole)} (H : Z2a p1 v2 from3 to4 = some r) : Snd Try.prog Z4K [.agg [.sl .rd 4 (p1.map ePt)], eVec v2, .int .i64 from3, .int .i64 to4] (.sl .nw 2 (r.map eHole)) [] := by
 refine wS Z7n [.t 8] ?_
 unfold Z2a at H
 obtain ⟨y5, h5, H⟩ := bB H
 refine wG [.c 20 (Z2P h5), .g 27 [((!y5.2), false)] (.call _ _ _ _ _ (AEs.refl _) (fun _ => Zi v2))] fun _ => ?_
 refine Wh_iH H (fun H => ?_) fun H => ?_
 .refine wP ?_
  replace H := sI H; subst H
  exact wN [(8, .f)] [] [] [15] [] [⟨_, Z4e ([] : List Hole)⟩]
 .obtain ⟨y6, h6, H⟩ := bB H
  refine wG [.c 34 (Z2E h6), .u 36 (.ln _ _ fun _ => lm y6 eI)] fun q7 => ?_
  refine wR (fun (i8 : Nat) (v8 : (List Hole)) => ⟨[(2, .int .i64 from3), (3, .int .i64 to4), (4, .ptr 4 0), (5, .ptr 5 0), (9, .sref 15), (12, .sl .nw 1 (y6.map eI)), (35, .sl .nw 1 (y6.map eI)), (36, .int .i64 (y6.length : Int)), (37, .int .i64 (i8 : Int))], [], [(4, [.sl .rd 4 (p1.map ePt)]), (5, (eVec v2).cells)], [(15, ⟨2, v8.map eHole, false⟩)]⟩) H (fun i8 x8 v8 I m k8 hxv8 hiv8 H N28 => ?_) (fun v8 I m H => ?_)
  .unfold Z08 at H
   refine wP ?_
   refine wt (ltT hiv8) ?_
   obtain ⟨y9, h9, H⟩ := bB H
   refine wG [.u 40 (.ix _ _ _ fun _ => Ze eI (Z0e hxv8)), .g 54 [(_, true)] (.call _ _ _ _ _ (AEs.refl _) (fun q => Z2j (bT q.1 h9))), .g 55 [(((decide (from3 <= x8)) && (decide (x8 < to4))), true)] (.call _ _ _ _ _ (AEs.refl _) (fun _ => Z2N v2 y9))] fun _ => ?_
   refine Wh_iH H (fun H => ?_) fun H => ?_
   .obtain ⟨e10, h10, H⟩ := bB H
    obtain ⟨y11, h11, H⟩ := bB H
    refine wG [.w 61 (wi .i64 rfl hiv8 q7.1), .u 62 (.ix _ _ _ fun _ => Ze eI h10), .u 65 (.cw Z1w [] [15] [] [(2, v8.map eHole)] [.sref 0, eHole (Hole.mk x8 e10)] _ _ _ _ _ (GEs.of [true, false] (by simp)) (by simp) (by simp) (by simp) (fun _ => Z4N h11)), .w 66 (wi .i64 rfl hiv8 q7.1)] fun _ => ?_
    exact Wh_to (N28 _ H) [] [] [(15, (some 66000, 0))] [] (by kernel_rfl) (by kernel_rfl)
   .refine wG [.w 66 (wi .i64 rfl hiv8 q7.1)] fun _ => ?_
    exact wT (N28 _ H)
  .unfold Z0p at H
   refine wP ?_
   refine wf (ltF y6.length) ?_
   refine wP ?_
   replace H := sI H; subst H
   exact wN [(8, .f)] [] [] [15] [] [⟨_, Z4e v8⟩]
def Z7p : L :=
sR [.bx 4 (.t 0),.bx 5 (.t 1),.mv 8 (.c (.nl))]
 (.seq (sR [lD 15 4 1 true,cQ 16 Z2D [15],.un 17 (.t 16),mV 18 17,.g 18 false (mV 19 2),.g 18 false (mV 20 3),.g 18 false (cQ 21 Z1B [19, 20]),.g 18 false (.un 22 (.t 21)),.pk 23 (.t 18) (cB true) (.t 22),mV 24 23,.g 24 false (lD 25 5 3 true),.g 24 false (cQ 26 Z0B [25]),.g 24 false (.un 27 (.t 26)),.pk 28 (.t 24) (cB true) (.t 27)]
 (.cond (.t 28) (sR [.mv 8 (.c (.nl))]
 gR)
 .skip))
 (sR [.bs 29 2 [] true,mV 9 29]
 (.seq (sR [fA 30 4 0,lD 31 30 1 false,.ln 32 (.t 31),.mv 33 (kI 0)]
 (.blk 0 (.loop (.gw (sR [bI 34 .lss 33 32]
 (.seq (.cond (.t 34) .skip
 (.exit 0))
 (.seq (.blk 1 (sR [mV 35 33,iA 36 31 33 4,lD 37 36 4 true,.al 11 [.int .i64 0, .int .i64 0, .int .i64 0, .int .i64 0],mV 10 35,.st (.t 11) (.t 37) 4]
 (sR [mV 38 3,mV 12 38]
 (.seq (sR [mV 39 10,.bi 40 .add (.t 39) (kI 1),fA 41 4 0,lD 42 41 1 false,.ln 43 (.t 42),bI 44 .lss 40 43]
 (.cond (.t 44) (.reg [mV 45 3,fA 46 4 0,lD 47 46 1 false,mV 48 10,.bi 49 .add (.t 48) (kI 1),iA 50 47 49 4,fA 51 50 0,lD 52 51 1 false,.mm 53 false (.t 45) (.t 52),mV 12 53])
 .skip))
 (.gw (sR [mV 54 2,fA 55 11 0,lD 56 55 1 false,.mm 57 true (.t 54) (.t 56),mV 13 57]
 (.seq (sR [mV 58 13,mV 59 12,bI 60 .geq 58 59,mV 61 60,.g 61 false (lD 62 5 3 true),.g 61 false (fA 63 11 1),.g 61 false (lD 64 63 3 true),.g 61 false (cQ 65 Z1d [62, 64]),.g 61 false (.un 66 (.t 65)),.pk 67 (.t 61) (cB true) (.t 66)]
 (.cond (.t 67) (.exit 1)
 .skip))
 (sR [mV 68 9,.ln 69 (.t 68),mV 14 69]
 (sR [mV 70 14,.bi 71 .gtr (.t 70) (kI 0),mV 72 71,.g 72 true (mV 73 9),.g 72 true (mV 74 14),.g 72 true (.bi 75 .sub (.t 74) (kI 1)),.g 72 true (iA 76 73 75 2),.g 72 true (fA 77 76 1),.g 72 true (lD 78 77 1 false),.g 72 true (mV 79 13),.g 72 true (bI 80 .eql 78 79),.pk 81 (.t 72) (.t 80) (cB false)]
 (.cond (.t 81) (.reg [mV 82 9,mV 83 14,.bi 84 .sub (.t 83) (kI 1),mV 85 12,iA 86 82 84 2,fA 87 86 1,.st (.t 87) (.t 85) 1])
 (.reg [mV 88 9,mV 89 13,mV 90 12,.bd 91 [.int .i64 0, .int .i64 0] [(0, 1, (.t 89)), (1, 1, (.t 90))],.bs 92 2 [(.t 91)] false,.ap 93 (.t 88) (.t 92) 2 16,mV 9 93])))))))))))
 (.reg [.bi 94 .add (.t 33) (kI 1),mV 33 94]))))))))
 (sR [mV 95 9,mV 8 95]
 gR))))
def ZQ (v2 : Vec) (from3 : Int) (v7 : (List Hole)) (x7 : Pt) (k7 : (List Hole) -> Option (List Hole)) (v10 : Int) : Option (List Hole) :=
 bif ((decide (v10 <= (max from3 x7.t))) || (!(Z5 v2 x7.free))) then (k7 v7) else ((bif (decide (0 < (v7.length : Int))) then (idx v7 (w64 ((v7.length : Int) - 1))) else some default).bind fun e11 => bif ((decide (0 < (v7.length : Int))) && (e11.b == (max from3 x7.t))) then ((idx v7 (w64 ((v7.length : Int) - 1))).bind fun e13 => k7 (v7.set (w64 ((v7.length : Int) - 1)).toNat (Hole.mk e13.a v10))) else ((appL 16 v7 [(Hole.mk (max from3 x7.t) v10)]).bind fun xs14 => k7 xs14))
def Zz (p1 : List Pt) (v2 : Vec) (from3 : Int) (to4 : Int) (x7 : Pt) (i7 : Nat) (v7 : (List Hole)) (k7 : (List Hole) -> Option (List Hole)) : Option (List Hole) :=
 bif (decide (((i7 + 1 : Nat) : Int) < (p1.length : Int))) then ((idx p1 ((i7 + 1 : Nat) : Int)).bind fun e9 => (ZQ v2 from3 v7 x7 k7) (min to4 e9.t)) else ((ZQ v2 from3 v7 x7 k7) to4)
def Z09 (v7 : (List Hole)) : Option (List Hole) :=
 some v7
def Z2d (p1 : List Pt) (v2 : Vec) (from3 : Int) (to4 : Int) : Option (List Hole) :=
 (Z0X p1).bind fun b5 => bif (((!b5) || (!(Z02 from3 to4))) || (!(ZK v2))) then (some []) else (rgl (Zz p1 v2 from3 to4) Z09 p1 0 [])
theorem Z7u {p1 : List Pt} {v2 : Vec} {from3 : Int} {to4 : Int} {r : (List Hole)} (H : Z2d p1 v2 from3 to4 = some r) : Snd Try.prog Z4L [.agg [.sl .rd 4 (p1.map ePt)], eVec v2, .int .i64 from3, .int .i64 to4] (.sl .nw 2 (r.map eHole)) [] := by
 refine wS Z7p [.t 8] ?_
 unfold Z2d at H
 obtain ⟨b5, h5, H⟩ := bB H
 refine wG [.c 16 (Z3s h5), .g 21 [((!b5), false)] (.call _ _ _ _ _ (AEs.refl _) (fun _ => Z3r from3 to4)), .g 26 [(((!b5) || (!(Z02 from3 to4))), false)] (.call _ _ _ _ _ (AEs.refl _) (fun _ => Z1u v2))] fun _ => ?_
 refine Wh_iH H (fun H => ?_) fun H => ?_
 .refine wP ?_
  replace H := sI H; subst H
  exact wN [(8, .n 2)] [] [] [] [] [⟨_, Z4e ([] : List Hole)⟩]
 .refine wG [.u 32 (.ln _ _ fun _ => lm p1 ePt)] fun q6 => ?_
  refine wR (fun (i7 : Nat) (v7 : (List Hole)) => ⟨[(2, .int .i64 from3), (3, .int .i64 to4), (4, .ptr 4 0), (5, .ptr 5 0), (9, .sref 29), (31, .sl .rd 4 (p1.map ePt)), (32, .int .i64 (p1.length : Int)), (33, .int .i64 (i7 : Int))], [], [(4, [.sl .rd 4 (p1.map ePt)]), (5, (eVec v2).cells)], [(29, ⟨2, v7.map eHole, false⟩)]⟩) H (fun i7 x7 v7 I m k7 hxv7 hiv7 H N44 => ?_) (fun v7 I m H => ?_)
  .unfold Zz at H
   refine wP ?_
   refine wt (ltT hiv7) ?_
   refine wG [.u 36 (.ix _ _ _ fun _ => Ze ePt (Z0e hxv7)), .w 40 (wi .i64 rfl hiv7 q6.1), .u 43 (.ln _ _ fun _ => lm p1 ePt)] fun q8 => ?_
   refine Z0l (r := r) (ZQ v2 from3 v7 x7 k7) 0 (fun v10 : Int => ⟨[(2, .int .i64 from3), (3, .int .i64 to4), (4, .ptr 4 0), (5, .ptr 5 0), (9, .sref 29), (11, .ptr 11 0), (12, .int .i64 v10), (31, .sl .rd 4 (p1.map ePt)), (32, .int .i64 (p1.length : Int)), (33, .int .i64 (i7 : Int))], [], [(4, [.sl .rd 4 (p1.map ePt)]), (5, (eVec v2).cells), (11, (ePt x7).cells)], [(29, ⟨2, v7.map eHole, false⟩)]⟩) (by kernel_rfl) (fun v10 H => ?_) (fun J35 => ?_)
   .unfold ZQ at H
    refine wG [.g 65 [((decide (v10 <= (max from3 x7.t))), false)] (.call _ _ _ _ _ (AEs.refl _) (fun _ => Z30 v2 x7.free))] fun _ => ?_
    refine Wh_iH H (fun H => ?_) fun H => ?_
    .refine wG [.w 94 (wi .i64 rfl hiv7 q6.1)] fun _ => ?_
     exact wT (N44 _ H)
    .obtain ⟨e11, h11, H⟩ := bB H
     refine wG [.u 69 (.ln _ _ fun _ => lm v7 eHole), .g 76 [(_, true)] (.ix _ _ _ fun q => Ze eHole (bT q.1 h11)), .g 78 [(_, true)] (.el _ _ _ fun q => gm eHole (Z24 (bT q.1 h11)))] fun q12 => ?_
     refine Wh_iH H (fun H => ?_) fun H => ?_
     .obtain ⟨e13, h13, H⟩ := bB H
      refine wG [.u 86 (.ix _ _ _ fun _ => Ze eHole h13), .u 1000000 (.sto _ _ _ (eHole (Hole.mk e13.a v10)) _ (fun _ => gm eHole (Z24 h13)) (fun _ => Z8H ..)), .w 94 (wi .i64 rfl hiv7 q6.1)] fun _ => ?_
      exact wT (N44 _ H)
     .obtain ⟨xs14, h14, H⟩ := bB H
      refine wG [.u 93 (.ap _ _ _ _ fun _ => Z0Q eHole h14), .w 94 (wi .i64 rfl hiv7 q6.1)] fun _ => ?_
      exact wT (N44 _ H)
   .refine Wh_iH H (fun H => ?_) fun H => ?_
    .obtain ⟨e9, h9, H⟩ := bB H
     refine wG [.w 49 (wi .i64 rfl hiv7 q6.1), .u 50 (.ix _ _ _ fun _ => Ze ePt h9)] fun _ => ?_
     exact wT (J35 _ H)
    .refine wP ?_
     exact wT (J35 _ H)
  .unfold Z09 at H
   refine wP ?_
   refine wf (ltF p1.length) ?_
   refine wP ?_
   replace H := sI H; subst H
   exact wN [(8, .f)] [] [] [29] [] [⟨_, Z4e v7⟩]
def Z5Q : L :=
.seq (rE 2 (cB false))
 (.seq (sR [mV 5 0,.ln 6 (.t 5),.mv 7 (kI 0)]
 (.blk 0 (.loop (.gw (sR [bI 8 .lss 7 6]
 (.seq (.cond (.t 8) .skip
 (.exit 0))
 (.seq (.blk 1 (sR [mV 9 7,iA 10 5 7 2,lD 11 10 2 true,.al 4 [.int .i64 0, .int .i64 0],mV 3 9,.st (.t 4) (.t 11) 2]
 (.seq (.rq 21 [fA 12 4 0,lD 13 12 1 false,fA 14 4 1,lD 15 14 1 false,cQ 16 Z1B [13, 15],.un 17 (.t 16),mV 18 17,.g 18 false (mV 19 3),.g 18 false (.bi 20 .gtr (.t 19) (kI 0)),.g 18 false (mV 21 20),.g 21 true (fA 22 4 0),.g 21 true (lD 23 22 1 false),.g 21 true (mV 24 0),.g 21 true (mV 25 3),.g 21 true (.bi 26 .sub (.t 25) (kI 1)),.g 21 true (iA 27 24 26 2),.g 21 true (fA 28 27 1),.g 21 true (lD 29 28 1 false),.g 21 true (bI 30 .leq 23 29),.g 18 false (.pk 31 (.t 21) (.t 30) (cB false)),.pk 32 (.t 18) (cB true) (.t 31)])
 (.cond (.t 32) (.seq (rE 2 (cB false))
 gR)
 .skip))))
 (.reg [.bi 33 .add (.t 7) (kI 1),mV 7 33]))))))))
 (.seq (rE 2 (cB true))
 gR))
def Z1i (l1 : List Hole) (x3 : Hole) (i3 : Nat) (_ : Unit) (k3 : Unit -> Option Bool) : Option Bool :=
 (bif (!(Z02 x3.a x3.b)) then some default else (bif (decide (0 < (i3 : Int))) then (idx l1 (w64 ((i3 : Int) - 1))) else some default)).bind fun e4 => bif ((!(Z02 x3.a x3.b)) || ((decide (0 < (i3 : Int))) && (decide (x3.a <= e4.b)))) then (some false) else (k3 ())
def Z2H (_ : Unit) : Option Bool :=
 some true
def ZC (l1 : List Hole) : Option Bool :=
 rgl (Z1i l1) Z2H l1 0 ()
theorem Z0O {l1 : List Hole} {r : Bool} (H : ZC l1 = some r) : Snd Try.prog Z0v [.sl .rd 2 (l1.map eHole)] (.bool r) [] := by
 refine wS Z5Q [.t 2] ?_
 unfold ZC at H
 refine wG [.u 6 (.ln _ _ fun _ => lm l1 eHole)] fun q2 => ?_
 refine wR (fun (i3 : Nat) (v3 : Unit) => ⟨[(0, .sl .rd 2 (l1.map eHole)), (5, .sl .rd 2 (l1.map eHole)), (6, .int .i64 (l1.length : Int)), (7, .int .i64 (i3 : Int))], [], [], []⟩) H (fun i3 x3 v3 I m k3 hxv3 hiv3 H N20 => ?_) (fun v3 I m H => ?_)
 .unfold Z1i at H
  refine wP ?_
  refine wt (ltT hiv3) ?_
  obtain ⟨e4, h4, H⟩ := bB H
  refine wG [.u 10 (.ix _ _ _ fun _ => Ze eHole (Z0e hxv3)), .c 16 (Z3r x3.a x3.b), .g 27 [(_, true), (_, false)] (.ix _ _ _ fun q => Ze eHole (bT q.1 (bF q.2.1 h4)))] fun _ => ?_
  refine Wh_iH H (fun H => ?_) fun H => ?_
  .refine wP ?_
   replace H := sI H; subst H
   exact wE [(2, .d)]
  .refine wG [.w 33 (wi .i64 rfl hiv3 q2.1)] fun _ => ?_
   exact wT (N20 () H)
 .unfold Z2H at H
  refine wP ?_
  refine wf (ltF l1.length) ?_
  refine wP ?_
  replace H := sI H; subst H
  exact wE [(2, .d)]
def Z8e : L :=
sR [.mv 4 (.c (.nl))]
 (.seq (sR [mV 11 0,cQ 12 Z0v [11],.un 13 (.t 12),mV 14 13,.g 14 false (mV 15 1),.g 14 false (cQ 16 Z0v [15]),.g 14 false (.un 17 (.t 16)),.pk 18 (.t 14) (cB true) (.t 17)]
 (.cond (.t 18) (sR [.mv 4 (.c (.nl))]
 gR)
 .skip))
 (sR [.bs 19 2 [] true,mV 5 19]
 (.seq (sR [mV 20 0,.ln 21 (.t 20),.mv 22 (kI 0)]
 (.blk 0 (.loop (.gw (sR [bI 23 .lss 22 21]
 (.seq (.cond (.t 23) .skip
 (.exit 0))
 (.seq (.blk 1 (sR [iA 24 20 22 2,lD 25 24 2 true,.al 7 [.int .i64 0, .int .i64 0],.st (.t 7) (.t 25) 2]
 (sR [mV 26 1,.ln 27 (.t 26),.mv 28 (kI 0)]
 (.blk 2 (.loop (.gw (sR [bI 29 .lss 28 27]
 (.seq (.cond (.t 29) .skip
 (.exit 2))
 (.seq (.blk 3 (sR [iA 30 26 28 2,lD 31 30 2 true,.al 9 [.int .i64 0, .int .i64 0],.st (.t 9) (.t 31) 2]
 (sR [fA 32 7 0,lD 33 32 1 false,fA 34 9 0,lD 35 34 1 false,.mm 36 true (.t 33) (.t 35),fA 37 7 1,lD 38 37 1 false,fA 39 9 1,lD 40 39 1 false,.mm 41 false (.t 38) (.t 40),.bd 42 [.int .i64 0, .int .i64 0] [(0, 1, (.t 36)), (1, 1, (.t 41))],.al 10 [.int .i64 0, .int .i64 0],.st (.t 10) (.t 42) 2]
 (sR [fA 43 10 0,lD 44 43 1 false,fA 45 10 1,lD 46 45 1 false,bI 47 .lss 44 46]
 (.cond (.t 47) (.reg [mV 48 5,lD 49 10 2 true,.bs 50 2 [(.t 49)] false,.ap 51 (.t 48) (.t 50) 2 16,mV 5 51])
 .skip)))))
 (.reg [.bi 52 .add (.t 28) (kI 1),mV 28 52]))))))))))
 (.reg [.bi 53 .add (.t 22) (kI 1),mV 22 53]))))))))
 (sR [mV 54 5,mV 4 54]
 gR))))
def Z2s (x6 : Hole) (x8 : Hole) (_ : Nat) (v8 : (List Hole)) (k8 : (List Hole) -> Option (List Hole)) : Option (List Hole) :=
 bif (decide ((max x6.a x8.a) < (min x6.b x8.b))) then ((appL 16 v8 [(Hole.mk (max x6.a x8.a) (min x6.b x8.b))]).bind fun xs9 => k8 xs9) else (k8 v8)
def Z2q (k6 : (List Hole) -> Option (List Hole)) (v8 : (List Hole)) : Option (List Hole) :=
 k6 v8
def Z2r (b2 : List Hole) (x6 : Hole) (_ : Nat) (v6 : (List Hole)) (k6 : (List Hole) -> Option (List Hole)) : Option (List Hole) :=
 rgl (Z2s x6) (Z2q k6) b2 0 v6
def Z3R (v6 : (List Hole)) : Option (List Hole) :=
 some v6
def Z33 (a1 : List Hole) (b2 : List Hole) : Option (List Hole) :=
 (ZC a1).bind fun b3 => (bif (!b3) then some default else (ZC b2)).bind fun b4 => bif ((!b3) || (!b4)) then (some []) else (rgl (Z2r b2) Z3R a1 0 [])
theorem Z8i {a1 : List Hole} {b2 : List Hole} {r : (List Hole)} (H : Z33 a1 b2 = some r) : Snd Try.prog Z63 [.sl .rd 2 (a1.map eHole), .sl .rd 2 (b2.map eHole)] (.sl .nw 2 (r.map eHole)) [] := by
 refine wS Z8e [.t 4] ?_
 unfold Z33 at H
 obtain ⟨b3, h3, H⟩ := bB H
 obtain ⟨b4, h4, H⟩ := bB H
 refine wG [.c 12 (Z0O h3), .g 16 [(_, false)] (.call _ _ _ _ _ (AEs.refl _) (fun q => Z0O (bF q.1 h4)))] fun _ => ?_
 refine Wh_iH H (fun H => ?_) fun H => ?_
 .refine wP ?_
  replace H := sI H; subst H
  exact wN [(4, .n 2)] [] [] [] [] [⟨_, Z4e ([] : List Hole)⟩]
 .refine wG [.u 21 (.ln _ _ fun _ => lm a1 eHole)] fun q5 => ?_
  refine wR (fun (i6 : Nat) (v6 : (List Hole)) => ⟨[(1, .sl .rd 2 (b2.map eHole)), (5, .sref 19), (20, .sl .rd 2 (a1.map eHole)), (21, .int .i64 (a1.length : Int)), (22, .int .i64 (i6 : Int))], [], [], [(19, ⟨2, v6.map eHole, false⟩)]⟩) H (fun i6 x6 v6 I m k6 hxv6 hiv6 H N43 => ?_) (fun v6 I m H => ?_)
  .unfold Z2r at H
   refine wP ?_
   refine wt (ltT hiv6) ?_
   refine wG [.u 24 (.ix _ _ _ fun _ => Ze eHole (Z0e hxv6)), .u 27 (.ln _ _ fun _ => lm b2 eHole)] fun q7 => ?_
   refine wR (fun (i8 : Nat) (v8 : (List Hole)) => ⟨[(1, .sl .rd 2 (b2.map eHole)), (5, .sref 19), (7, .ptr 7 0), (20, .sl .rd 2 (a1.map eHole)), (21, .int .i64 (a1.length : Int)), (22, .int .i64 (i6 : Int)), (26, .sl .rd 2 (b2.map eHole)), (27, .int .i64 (b2.length : Int)), (28, .int .i64 (i8 : Int))], [], [(7, (eHole x6).cells)], [(19, ⟨2, v8.map eHole, false⟩)]⟩) H (fun i8 x8 v8 I m k8 hxv8 hiv8 H N34 => ?_) (fun v8 I m H => ?_)
   .unfold Z2s at H
    refine wP ?_
    refine wt (ltT hiv8) ?_
    refine wG [.u 30 (.ix _ _ _ fun _ => Ze eHole (Z0e hxv8))] fun _ => ?_
    refine Wh_iH H (fun H => ?_) fun H => ?_
    .obtain ⟨xs9, h9, H⟩ := bB H
     refine wG [.u 51 (.ap _ _ _ _ fun _ => Z0Q eHole h9), .w 52 (wi .i64 rfl hiv8 q7.1)] fun _ => ?_
     exact wT (N34 _ H)
    .refine wG [.w 52 (wi .i64 rfl hiv8 q7.1)] fun _ => ?_
     exact wT (N34 _ H)
   .unfold Z2q at H
    refine wP ?_
    refine wf (ltF b2.length) ?_
    refine wG [.w 53 (wi .i64 rfl hiv6 q5.1)] fun _ => ?_
    exact wT (N43 _ H)
  .unfold Z3R at H
   refine wP ?_
   refine wf (ltF a1.length) ?_
   refine wP ?_
   replace H := sI H; subst H
   exact wN [(4, .f)] [] [] [19] [] [⟨_, Z4e v6⟩]
def Z6o : L :=
.seq (rE 2 (kI 0))
 (.seq (sR [mV 6 0,cQ 7 Z0v [6],.un 8 (.t 7)]
 (.cond (.t 8) (.seq (rE 2 (kI 0))
 gR)
 .skip))
 (.seq (rE 3 (kI 0))
 (.seq (sR [mV 9 0,.ln 10 (.t 9),.mv 11 (kI 0)]
 (.blk 0 (.loop (.gw (sR [bI 12 .lss 11 10]
 (.seq (.cond (.t 12) .skip
 (.exit 0))
 (.seq (.blk 1 (sR [iA 13 9 11 2,lD 14 13 2 true,.al 5 [.int .i64 0, .int .i64 0],.st (.t 5) (.t 14) 2]
 (.reg [mV 15 3,fA 16 5 1,lD 17 16 1 false,bI 18 .add 15 17,fA 19 5 0,lD 20 19 1 false,bI 21 .sub 18 20,mV 3 21])))
 (.reg [.bi 22 .add (.t 11) (kI 1),mV 11 22]))))))))
 (sR [mV 23 3,mV 2 23]
 gR))))
def Z1N (x4 : Hole) (_ : Nat) (v4 : Int) (k4 : Int -> Option Int) : Option Int :=
 k4 (w64 ((w64 (v4 + x4.b)) - x4.a))
def Z34 (v4 : Int) : Option Int :=
 some v4
def Z0y (l1 : List Hole) : Option Int :=
 (ZC l1).bind fun b2 => bif (!b2) then (some 0) else (rgl Z1N Z34 l1 0 0)
theorem Z23 {l1 : List Hole} {r : Int} (H : Z0y l1 = some r) : Snd Try.prog Z1C [.sl .rd 2 (l1.map eHole)] (.int .i64 r) [] := by
 refine wS Z6o [.t 2] ?_
 unfold Z0y at H
 obtain ⟨b2, h2, H⟩ := bB H
 refine wG [.c 7 (Z0O h2)] fun _ => ?_
 refine Wh_iH H (fun H => ?_) fun H => ?_
 .refine wP ?_
  replace H := sI H; subst H
  exact wE [(2, .d)]
 .refine wG [.u 10 (.ln _ _ fun _ => lm l1 eHole)] fun q3 => ?_
  refine wR (fun (i4 : Nat) (v4 : Int) => ⟨[(3, .int .i64 v4), (9, .sl .rd 2 (l1.map eHole)), (10, .int .i64 (l1.length : Int)), (11, .int .i64 (i4 : Int))], [], [], []⟩) H (fun i4 x4 v4 I m k4 hxv4 hiv4 H N22 => ?_) (fun v4 I m H => ?_)
  .unfold Z1N at H
   refine wP ?_
   refine wt (ltT hiv4) ?_
   refine wG [.u 13 (.ix _ _ _ fun _ => Ze eHole (Z0e hxv4)), .w 22 (wi .i64 rfl hiv4 q3.1)] fun _ => ?_
   exact wT (N22 _ H)
  .unfold Z34 at H
   refine wP ?_
   refine wf (ltF l1.length) ?_
   refine wP ?_
   replace H := sI H; subst H
   exact wE [(2, .d)]
def Z2X (h b : Int) : Int := bAnd .i64 (w64 (w64 (w64 (h * 151) + w64 b) + 7)) 1073741823
def newH (bs : List Int) : Int := (bs.take 4000).foldl Z2X (w64 (958001 + bs.length))
def Z5G (bs : List Int) : Option l01Cur := if bs.length <= 1048576 then some ⟨bs, 0, newH bs⟩ else none
def Z3q : L :=
 .seq (
 .reg [.mv 2 (.c (.bad))]) (
 .seq (
 .reg [.mv 5 (.t 0),.ln 6 (.t 5),.bi 7 .add (.c (.int .i64 958001)) (.t 6),.mv 3 (.t 7)]) (
 .seq (
 .seq (
 .reg [.mv 4 (.c (.int .i64 0))]) (
 .blk 0 (
  .loop (
   .seq (
   .seq (
   .reg [.mv 8 (.t 4),.mv 9 (.t 0),.ln 10 (.t 9),.bi 11 .lss (.t 8) (.t 10),.mv 12 (.t 11),.g 12 true (.mv 13 (.t 4)),.g 12 true (.bi 14 .lss (.t 13) (.c (.int .i64 4000))),.pk 15 (.t 12) (.t 14) (.c (.bool false))]) (
   .cond (.t 15) (
    .skip) (
    .exit 0))) (
   .seq (
   .blk 1 (
    .reg [.mv 18 (.t 3),.bi 19 .mul (.t 18) (.c (.int .i64 151)),.mv 20 (.t 0),.mv 21 (.t 4),.ia 22 (.t 20) (.t 21) 1,.ld 23 (.t 22) 1 false,.cv 24 .i64 (.t 23),.bi 25 .add (.t 19) (.t 24),.bi 26 .add (.t 25) (.c (.int .i64 7)),.bi 27 .and (.t 26) (.c (.int .i64 1073741823)),.mv 3 (.t 27)])) (
   .reg [.mv 16 (.t 4),.bi 17 .add (.t 16) (.c (.int .i64 1)),.mv 4 (.t 17)])))))) (
 .seq (
 .reg [.mv 28 (.t 0),.mv 29 (.t 3),.bd 30 [.nl, .int .i64 0, .int .i64 0] [(0, 1, (.t 28)), (2, 1, (.t 29))],.bx 31 (.t 30),.mv 2 (.t 31)]) (
 .ret))))
def Z6b : List Rv := [.t 2]
theorem Z6r : chkFn Try.prog Z1z 1 Z3q Z6b = true := by kernel_rfl
set_option maxRecDepth 20000 in
theorem Za5 {bs : List Int} {c : l01Cur} (H : Z5G bs = some c) : SndB Try.prog Z1z [.sl .rd 1 (bs.map eB)] (fun cs => cs = (Z2 .rd c).cells) := by
 unfold Z5G at H
 split at H
 rotate_left
 .cases H
 rename_i hl
 cases H
 refine sndb_by Z6r rfl (by simp) (den_W ?_)
 unfold Z3q
 simp
 intro _
 refine W_rngJ bs.length (fun i s => i <= 4000 /\ s.e 0 = .sl .rd 1 (bs.map eB) /\ s.e 3 = .int .i64 ((bs.take i).foldl Z2X (w64 (958001 + bs.length))) /\ s.e 4 = .int .i64 (i : Nat)) (fun s => s.e 0 = .sl .rd 1 (bs.map eB) /\ s.e 3 = .int .i64 (newH bs)) ?_ ?_ ?_
 .simp [w64]
 .rintro i s hi ⟨h4000, e0, e3, e4⟩
  by_cases hlt : i < bs.length
  .by_cases h4 : (i : Int) < 4000
   .simp [e0, e3, e4, hlt, h4]
    intro _
    refine rng_next hlt ⟨by omega, ?_⟩
    have et : (bs.take (i + 1)).foldl Z2X (w64 (958001 + bs.length)) = Z2X ((bs.take i).foldl Z2X (w64 (958001 + bs.length))) bs[i] := by
     rw [List.take_succ_eq_append_getElem hlt, List.foldl_append]; rfl
    rw [et]
    generalize (bs.take i).foldl Z2X (w64 (958001 + bs.length)) = h
    simp [e0, Z7L hlt (by omega : bs.length <= 9223372036854775807)]
    rfl
   .simp [e0, e3, e4, hlt, h4]
    intro _
    refine beh_of ?_
    have h40 : i = 4000 := by omega
    have e : newH bs = (bs.take i).foldl Z2X (w64 (958001 + bs.length)) := by unfold newH; rw [h40]
    simp [e0, e3, e]
  .simp [e0, e3, e4, hlt]
   intro _
   refine beh_of ?_
   have e : newH bs = (bs.take i).foldl Z2X (w64 (958001 + bs.length)) := by
    unfold newH; rw [List.take_of_length_le (by omega), List.take_of_length_le (by omega)]
   simp [e0, e3, e]
 rintro s ⟨e0, e3⟩
 simp [e0, e3]
set_option maxRecDepth 20000
def Z4k : L :=
.seq (rE 2 (kI 0))
 (sR [mV 4 0,mV 5 0,.nc 6 (.t 5),fA 7 6 2,lD 8 7 1 false,.bi 9 .mul (.t 8) (kI 6364136223846793005),.bi 10 .add (.t 9) (kI 1442695040888963407),.nc 11 (.t 4),fA 12 11 2,.st (.t 12) (.t 10) 1]
 (.seq (.rq 13 [mV 13 0,.nc 14 (.t 13),fA 15 14 2,lD 16 15 1 false,.bi 17 .shr (.t 16) (.c (.int .u64 33)),mV 18 0,.nc 19 (.t 18),fA 20 19 2,lD 21 20 1 false,.bi 22 .shr (.t 21) (.c (.int .u64 45)),bI 23 .xor 17 22,.bi 24 .and (.t 23) (kI 255),mV 3 24])
 (.seq (.seq (.rq 10 [mV 25 0,.nc 26 (.t 25),fA 27 26 1,lD 28 27 1 false,mV 29 0,.nc 30 (.t 29),fA 31 30 0,lD 32 31 1 false,.lq 33 (.t 32),bI 34 .lss 28 33])
 (.cond (.t 34) (.seq (.rq 14 [mV 35 3,mV 36 0,.nc 37 (.t 36),fA 38 37 0,lD 39 38 1 false,mV 40 0,.nc 41 (.t 40),fA 42 41 1,lD 43 42 1 false,iA 44 39 43 1,lD 45 44 1 false,.cv 46 .i64 (.t 45),bI 47 .add 35 46,.bi 48 .and (.t 47) (kI 255),mV 3 48])
 (.reg [mV 49 0,mV 50 0,.nc 51 (.t 50),fA 52 51 1,lD 53 52 1 false,.bi 54 .add (.t 53) (kI 1),.nc 55 (.t 49),fA 56 55 1,.st (.t 56) (.t 54) 1]))
 .skip))
 (.gw (sR [mV 57 3,mV 2 57]
 gR)))))
def Z4c : List Rv := [.t 2]
theorem Z4w : chkFn Try.prog Zd 1 Z4k Z4c = true := by kernel_rfl
def Zt (c1 : l01Cur) (v6 : Int × Int) : Option (Int × l01Cur) :=
 some (v6.2, (l01Cur.mk c1.b v6.1 (w64 ((w64 (c1.h * 6364136223846793005)) + 1442695040888963407))))
def Zn (c1 : l01Cur) : Option (Int × l01Cur) :=
 (shrI .i64 (w64 ((w64 (c1.h * 6364136223846793005)) + 1442695040888963407)) 33).bind fun n2 => (shrI .i64 (w64 ((w64 (c1.h * 6364136223846793005)) + 1442695040888963407)) 45).bind fun n3 => (lenQ c1.b).bind fun _ => bif (decide (c1.i < (c1.b.length : Int))) then ((idx c1.b c1.i).bind fun e5 => (Zt c1) ((w64 (c1.i + 1)), (bAnd .i64 (w64 ((bAnd .i64 (bXor .i64 n2 n3) 255) + (IntKind.wrap .i64 e5))) 255))) else ((Zt c1) (c1.i, (bAnd .i64 (bXor .i64 n2 n3) 255)))
set_option maxRecDepth 20000 in
theorem ZU {c1 : l01Cur} {r : Int × l01Cur} (H : Zn c1 = some r) : ConD Try.prog Zd [.ptr 0 0] [(Z2 .rd c1).cells] [] (.int .i64 r.1) [(Z2 .rd r.2).cells] [] [] := by
 refine con_g [] Z4w rfl (by kernel_rfl) ?_
 unfold Zn at H
 obtain ⟨n2, h2, H⟩ := bB H
 obtain ⟨n3, h3, H⟩ := bB H
 obtain ⟨u4, h4, H⟩ := bB H
 refine wG [.u 17 (.shr _ _ _ _ fun _ => h2), .u 22 (.shr _ _ _ _ fun _ => h3), .u 33 (.le _ _ (fun _ => lm c1.b eB) (fun _ => lenQ_le h4))] fun _ => ?_
 refine Z0l (r := r) (Zt c1) 0 (fun v6 : Int × Int => ⟨[(3, .int .i64 v6.2)], [], [(2000000000, (Z2 .rd (l01Cur.mk c1.b v6.1 (w64 ((w64 (c1.h * 6364136223846793005)) + 1442695040888963407)))).cells)], []⟩) (by kernel_rfl) (fun v6 H => ?_) (fun J12 => ?_)
 .unfold Zt at H
  refine wP ?_
  replace H := sI H; subst H
  exact Z03 [(2, .d)] [(2000000000, [])] [] [] [] (by kernel_rfl)
 .refine Wh_iH H (fun H => ?_) fun H => ?_
  .obtain ⟨e5, h5, H⟩ := bB H
   refine wG [.u 44 (.ix _ _ _ fun _ => Ze eB h5)] fun _ => ?_
   exact wT (J12 _ H)
  .refine wP ?_
   exact wT (J12 _ H)
def Z3Q : L :=
.seq (rE 4 (kI 0))
 (.seq (sR [mV 9 1,.bi 10 .leq (.t 9) (kI 0)]
 (.cond (.t 10) (.seq (rE 4 (kI 0))
 gR)
 .skip))
 (.seq (sR [mV 11 1,.bi 12 .leq (.t 11) (kI 256)]
 (.cond (.t 12) (sR [mV 13 0,.cm 14 Zd [(.t 13)],mV 15 1,bI 16 .rem 14 15,mV 4 16]
 gR)
 .skip))
 (sR [mV 17 0,.cm 18 Zd [(.t 17)],mV 5 18]
 (sR [mV 19 0,.cm 20 Zd [(.t 19)],mV 6 20]
 (sR [mV 21 0,.cm 22 Zd [(.t 21)],mV 7 22]
 (sR [mV 23 0,.cm 24 Zd [(.t 23)],mV 8 24]
 (sR [mV 25 5,.bi 26 .mul (.t 25) (kI 16777216),mV 27 6,.bi 28 .mul (.t 27) (kI 65536),bI 29 .add 26 28,mV 30 7,.bi 31 .mul (.t 30) (kI 256),bI 32 .add 29 31,mV 33 8,bI 34 .add 32 33,mV 35 1,bI 36 .rem 34 35,mV 4 36]
 gR)))))))
def Z3F : List Rv := [.t 4]
theorem Z3W : chkFn Try.prog Z0 2 Z3Q Z3F = true := by kernel_rfl
def Z3 (c1 : l01Cur) (n2 : Int) : Option (Int × l01Cur) :=
 bif (decide (n2 <= 0)) then (some (0, c1)) else (bif (decide (n2 <= 256)) then ((Zn c1).bind fun y3 => (remI y3.1 n2).bind fun n4 => some (n4, y3.2)) else ((Zn c1).bind fun y5 => (Zn y5.2).bind fun y6 => (Zn y6.2).bind fun y7 => (Zn y7.2).bind fun y8 => (remI (w64 ((w64 ((w64 ((w64 (y5.1 * 16777216)) + (w64 (y6.1 * 65536)))) + (w64 (y7.1 * 256)))) + y8.1)) n2).bind fun n9 => some (n9, y8.2)))
set_option maxRecDepth 20000 in
theorem Z1 {c1 : l01Cur} {n2 : Int} {r : Int × l01Cur} (H : Z3 c1 n2 = some r) : ConD Try.prog Z0 [.ptr 0 0, .int .i64 n2] [(Z2 .rd c1).cells] [] (.int .i64 r.1) [(Z2 .rd r.2).cells] [] [] := by
 refine con_g [] Z3W rfl (by kernel_rfl) ?_
 unfold Z3 at H
 refine wP ?_
 refine Wh_iH H (fun H => ?_) fun H => ?_
 .refine wP ?_
  replace H := sI H; subst H
  exact Z03 [(4, .d)] [(2000000000, [])] [] [] [] (by kernel_rfl)
 .refine wP ?_
  refine Wh_iH H (fun H => ?_) fun H => ?_
  .obtain ⟨y3, h3, H⟩ := bB H
   obtain ⟨n4, h4, H⟩ := bB H
   refine wG [.u 14 (.cw Zd [2000000000] [] [(Z2 .rd c1).cells] [] [.ptr 0 0] _ _ _ _ _ (GEs.of [true] (by simp)) (by simp) (by simp) (by simp) (fun _ => ZU h3)), .u 16 (.rem _ _ _ fun _ => h4)] fun _ => ?_
   replace H := sI H; subst H
   exact Z03 [(4, .d)] [(2000000000, [])] [] [] [] (by kernel_rfl)
  .obtain ⟨y5, h5, H⟩ := bB H
   obtain ⟨y6, h6, H⟩ := bB H
   obtain ⟨y7, h7, H⟩ := bB H
   obtain ⟨y8, h8, H⟩ := bB H
   obtain ⟨n9, h9, H⟩ := bB H
   refine wG [.u 18 (.cw Zd [2000000000] [] [(Z2 .rd c1).cells] [] [.ptr 0 0] _ _ _ _ _ (GEs.of [true] (by simp)) (by simp) (by simp) (by simp) (fun _ => ZU h5)), .u 20 (.cw Zd [2000000000] [] [(Z2 .rd y5.2).cells] [] [.ptr 0 0] _ _ _ _ _ (GEs.of [true] (by simp)) (by simp) (by simp) (by simp) (fun _ => ZU h6)), .u 22 (.cw Zd [2000000000] [] [(Z2 .rd y6.2).cells] [] [.ptr 0 0] _ _ _ _ _ (GEs.of [true] (by simp)) (by simp) (by simp) (by simp) (fun _ => ZU h7)), .u 24 (.cw Zd [2000000000] [] [(Z2 .rd y7.2).cells] [] [.ptr 0 0] _ _ _ _ _ (GEs.of [true] (by simp)) (by simp) (by simp) (by simp) (fun _ => ZU h8)), .u 36 (.rem _ _ _ fun _ => h9)] fun _ => ?_
   replace H := sI H; subst H
   exact Z03 [(4, .d)] [(2000000000, [])] [] [] [] (by kernel_rfl)
def Z4i : L :=
sR [.al 2 [.nl]]
 (sR [.bd 10 [.int .i64 0, .int .i64 0, .int .i64 0] [(0, 1, (kI 8)), (1, 1, (kI 16)), (2, 1, (kI 2))],.cl 11 Z25 [(.t 10)],mV 9 11,eX 12 9 0,eX 13 9 1,.al 3 [.nl],.st (.t 3) (.t 12) 1,mV 4 13]
 (.seq (sR [mV 14 0,.cm 15 Z0 [(.t 14), (kI 6)],mV 5 15]
 (.blk 0 (.loop (.gw (.seq (sR [mV 16 5,.bi 17 .gtr (.t 16) (kI 0)]
 (.cond (.t 17) .skip
 (.exit 0)))
 (.seq (.blk 1 (sR [mV 20 0,.cm 21 Z0 [(.t 20), (kI 60)],mV 6 21]
 (.seq (.rz [(18, 7, [.nl])] [(0, false, lD 23 3 1 true),
 (1, false, mV 24 6),
 (2, false, mV 25 6),
 (3, false, .bi 26 .add (.t 25) (kI 1)),
 (4, false, mV 27 0),
 (7, false, mV 30 0),
 (9, false, mV 32 0),
 (11, false, mV 34 0),
 (5, true, .cm 28 Z0 [(.t 27), (kI 40)]),
 (6, false, bI 29 .add 26 28),
 (8, true, .cm 31 Z0 [(.t 30), (kI 4)]),
 (10, true, .cm 33 Z0 [(.t 32), (kI 6)]),
 (12, true, .cm 35 Z0 [(.t 34), (kI 2)]),
 (13, false, .bd 36 [.int .i64 0, .int .i64 0, .int .i64 0] [(0, 1, (.t 31)), (1, 1, (.t 33)), (2, 1, (.t 35))]),
 (14, true, .cl 37 Z3d [(.t 23), (.t 24), (.t 29), (.t 36)]),
 (15, true, mV 22 37),
 (17, false, eX 39 22 1),
 (16, true, eX 38 22 0)]
 [.st (.t 7) (.t 38) 1,mV 8 39])
 (sR [mV 40 8]
 (.cond (.t 40) (.reg [lD 41 7 1 true,.st (.t 3) (.t 41) 1])
 .skip)))))
 (.reg [mV 18 5,.bi 19 .sub (.t 18) (kI 1),mV 5 19])))))))
 (sR [lD 42 3 1 true,.st (.t 2) (.t 42) 1]
 gR)))
def Z4b : List Rv := [.c 2 1 true]
theorem Z4v : chkFn Try.prog Z1b 1 Z4i Z4b = true := by kernel_rfl
def Z0E (v3 : l01Cur × Int × (List Pt)) (k3 : (l01Cur × Int × (List Pt)) -> Option ((List Pt) × l01Cur)) : Option ((List Pt) × l01Cur) :=
 bif (decide (0 < v3.2.1)) then ((Z3 v3.1 60).bind fun y4 => (Z3 y4.2 40).bind fun y5 => (Z3 y5.2 4).bind fun y6 => (Z3 y6.2 6).bind fun y7 => (Z3 y7.2 2).bind fun y8 => (Z0J v3.2.2 y4.1 (w64 ((w64 (y4.1 + 1)) + y5.1)) (Vec.mk y6.1 y7.1 y8.1)).bind fun y9 => bif y9.2 then (k3 (y8.2, (w64 (v3.2.1 - 1)), y9.1)) else (k3 (y8.2, (w64 (v3.2.1 - 1)), v3.2.2))) else (some (v3.2.2, v3.1))
def Z0n (c1 : l01Cur) : Option ((List Pt) × l01Cur) :=
 (Z3 c1 6).bind fun y2 => whl Z0E 9223372036854775807 (y2.2, y2.1, (Z0c (Vec.mk 8 16 2)).1)
set_option maxRecDepth 20000 in
theorem Z44 {c1 : l01Cur} {r : (List Pt) × l01Cur} (H : Z0n c1 = some r) : ConD Try.prog Z1b [.ptr 0 0] [(Z2 .rd c1).cells] [] (.agg [.sref 0]) [(Z2 .rd r.2).cells] [] [(4, r.1.map ePt)] := by
 refine con_g [] Z4v rfl (by kernel_rfl) ?_
 unfold Z0n at H
 obtain ⟨y2, h2, H⟩ := bB H
 refine wG [.u 11 (.call _ _ _ _ _ (AEs.refl _) (fun _ => Z5x (Vec.mk 8 16 2))), .u 15 (.cw Z0 [2000000000] [] [(Z2 .rd c1).cells] [] [.ptr 0 0, .int .i64 6] _ _ _ _ _ (GEs.of [true, false] (by simp)) (by simp) (by simp) (by simp) (fun _ => Z1 h2))] fun _ => ?_
 refine wW (fun (v3 : l01Cur × Int × (List Pt)) => ⟨[(0, .ptr 2000000000 0), (2, .ptr 2 0), (3, .ptr 3 0), (5, .int .i64 v3.2.1)], [], [(2000000000, (Z2 .rd v3.1).cells), (2, [.nl]), (3, [.sref 12000])], [(12000, ⟨4, v3.2.2.map ePt, false⟩)]⟩) H (fun v3 I m k3 H N21 => ?_)
 unfold Z0E at H
 refine wP ?_
 refine Wh_iH H (fun H => ?_) fun H => ?_
 .obtain ⟨y4, h4, H⟩ := bB H
  obtain ⟨y5, h5, H⟩ := bB H
  obtain ⟨y6, h6, H⟩ := bB H
  obtain ⟨y7, h7, H⟩ := bB H
  obtain ⟨y8, h8, H⟩ := bB H
  obtain ⟨y9, h9, H⟩ := bB H
  refine wG [.u 21 (.cw Z0 [2000000000] [] [(Z2 .rd v3.1).cells] [] [.ptr 0 0, .int .i64 60] _ _ _ _ _ (GEs.of [true, false] (by simp)) (by simp) (by simp) (by simp) (fun _ => Z1 h4)), .u 28 (.cz Z0 [2000000000] [(Z2 .rd y4.2).cells] [.ptr 0 0, .int .i64 40] _ _ _ (by simp) (by simp) (fun _ => by simp) (fun _ => Z1 h5)), .u 31 (.cz Z0 [2000000000] [(Z2 .rd y5.2).cells] [.ptr 0 0, .int .i64 4] _ _ _ (by simp) (by simp) (fun _ => by simp) (fun _ => Z1 h6)), .u 33 (.cz Z0 [2000000000] [(Z2 .rd y6.2).cells] [.ptr 0 0, .int .i64 6] _ _ _ (by simp) (by simp) (fun _ => by simp) (fun _ => Z1 h7)), .u 35 (.cz Z0 [2000000000] [(Z2 .rd y7.2).cells] [.ptr 0 0, .int .i64 2] _ _ _ (by simp) (by simp) (fun _ => by simp) (fun _ => Z1 h8)), .c 37 (Z4V h9)] fun _ => ?_
  refine Wh_iH H (fun H => ?_) fun H => ?_
  .refine wP ?_
   exact Wh_to (N21 _ H) [] [] [(12000, (some 38000, 0))] [] (by kernel_rfl) (by kernel_rfl)
  .refine wP ?_
   exact wT (N21 _ H)
 .refine wP ?_
  replace H := sI H; subst H
  exact Z03 [(2, .d)] [(2, []), (2000000000, [])] [(12000, some 12000, 0)] [] [12000] (by kernel_rfl)
def Z58 : L :=
.seq (rE 2 (kI 0))
 (sR [mV 4 0,.cm 5 Z0 [(.t 4), (kI 9)],mV 3 5]
 (.seq (sR [mV 6 3,.bi 7 .lss (.t 6) (kI 4)]
 (.cond (.t 7) (sR [mV 8 0,.cm 9 Z0 [(.t 8), (kI 24)],.bi 10 .sub (.t 9) (kI 2),mV 2 10]
 gR)
 .skip))
 (.seq (sR [mV 11 3,.bi 12 .eql (.t 11) (kI 4)]
 (.cond (.t 12) (sR [mV 13 0,.cm 14 Z0 [(.t 13), (kI 3)],.bi 15 .add (kI 999999) (.t 14),mV 2 15]
 gR)
 .skip))
 (.seq (sR [mV 16 3,.bi 17 .eql (.t 16) (kI 5)]
 (.cond (.t 17) (sR [mV 18 0,.cm 19 Z0 [(.t 18), (kI 3)],.bi 20 .add (kI 999999999) (.t 19),mV 2 20]
 gR)
 .skip))
 (.seq (sR [mV 21 3,.bi 22 .eql (.t 21) (kI 6)]
 (.cond (.t 22) (sR [mV 23 0,.cm 24 Z0 [(.t 23), (kI 2)],.bi 25 .sub (kI 9223372036854775807) (.t 24),mV 2 25]
 gR)
 .skip))
 (.seq (sR [mV 26 3,.bi 27 .eql (.t 26) (kI 7)]
 (.cond (.t 27) (sR [mV 28 0,.cm 29 Z0 [(.t 28), (kI 2)],.bi 30 .sub (kI (-9223372036854775807)) (.t 29),mV 2 30]
 gR)
 .skip))
 (sR [mV 31 0,.cm 32 Z0 [(.t 31), (kI 2000000)],mV 2 32]
 gR)))))))
def Z51 : List Rv := [.t 2]
theorem Z5i : chkFn Try.prog Za 1 Z58 Z51 = true := by kernel_rfl
def Zm (c1 : l01Cur) : Option (Int × l01Cur) :=
 (Z3 c1 9).bind fun y2 => bif (decide (y2.1 < 4)) then ((Z3 y2.2 24).bind fun y3 => some ((w64 (y3.1 - 2)), y3.2)) else (bif (y2.1 == 4) then ((Z3 y2.2 3).bind fun y4 => some ((w64 (999999 + y4.1)), y4.2)) else (bif (y2.1 == 5) then ((Z3 y2.2 3).bind fun y5 => some ((w64 (999999999 + y5.1)), y5.2)) else (bif (y2.1 == 6) then ((Z3 y2.2 2).bind fun y6 => some ((w64 (9223372036854775807 - y6.1)), y6.2)) else (bif (y2.1 == 7) then ((Z3 y2.2 2).bind fun y7 => some ((w64 ((-9223372036854775807) - y7.1)), y7.2)) else ((Z3 y2.2 2000000).bind fun y8 => some (y8.1, y8.2))))))
set_option maxRecDepth 20000 in
theorem ZM {c1 : l01Cur} {r : Int × l01Cur} (H : Zm c1 = some r) : ConD Try.prog Za [.ptr 0 0] [(Z2 .rd c1).cells] [] (.int .i64 r.1) [(Z2 .rd r.2).cells] [] [] := by
 refine con_g [] Z5i rfl (by kernel_rfl) ?_
 unfold Zm at H
 obtain ⟨y2, h2, H⟩ := bB H
 refine wG [.u 5 (.cw Z0 [2000000000] [] [(Z2 .rd c1).cells] [] [.ptr 0 0, .int .i64 9] _ _ _ _ _ (GEs.of [true, false] (by simp)) (by simp) (by simp) (by simp) (fun _ => Z1 h2))] fun _ => ?_
 refine Wh_iH H (fun H => ?_) fun H => ?_
 .obtain ⟨y3, h3, H⟩ := bB H
  refine wG [.u 9 (.cw Z0 [2000000000] [] [(Z2 .rd y2.2).cells] [] [.ptr 0 0, .int .i64 24] _ _ _ _ _ (GEs.of [true, false] (by simp)) (by simp) (by simp) (by simp) (fun _ => Z1 h3))] fun _ => ?_
  replace H := sI H; subst H
  exact Z03 [(2, .d)] [(2000000000, [])] [] [] [] (by kernel_rfl)
 .refine wP ?_
  refine Wh_iH H (fun H => ?_) fun H => ?_
  .obtain ⟨y4, h4, H⟩ := bB H
   refine wG [.u 14 (.cw Z0 [2000000000] [] [(Z2 .rd y2.2).cells] [] [.ptr 0 0, .int .i64 3] _ _ _ _ _ (GEs.of [true, false] (by simp)) (by simp) (by simp) (by simp) (fun _ => Z1 h4))] fun _ => ?_
   replace H := sI H; subst H
   exact Z03 [(2, .d)] [(2000000000, [])] [] [] [] (by kernel_rfl)
  .refine wP ?_
   refine Wh_iH H (fun H => ?_) fun H => ?_
   .obtain ⟨y5, h5, H⟩ := bB H
    refine wG [.u 19 (.cw Z0 [2000000000] [] [(Z2 .rd y2.2).cells] [] [.ptr 0 0, .int .i64 3] _ _ _ _ _ (GEs.of [true, false] (by simp)) (by simp) (by simp) (by simp) (fun _ => Z1 h5))] fun _ => ?_
    replace H := sI H; subst H
    exact Z03 [(2, .d)] [(2000000000, [])] [] [] [] (by kernel_rfl)
   .refine wP ?_
    refine Wh_iH H (fun H => ?_) fun H => ?_
    .obtain ⟨y6, h6, H⟩ := bB H
     refine wG [.u 24 (.cw Z0 [2000000000] [] [(Z2 .rd y2.2).cells] [] [.ptr 0 0, .int .i64 2] _ _ _ _ _ (GEs.of [true, false] (by simp)) (by simp) (by simp) (by simp) (fun _ => Z1 h6))] fun _ => ?_
     replace H := sI H; subst H
     exact Z03 [(2, .d)] [(2000000000, [])] [] [] [] (by kernel_rfl)
    .refine wP ?_
     refine Wh_iH H (fun H => ?_) fun H => ?_
     .obtain ⟨y7, h7, H⟩ := bB H
      refine wG [.u 29 (.cw Z0 [2000000000] [] [(Z2 .rd y2.2).cells] [] [.ptr 0 0, .int .i64 2] _ _ _ _ _ (GEs.of [true, false] (by simp)) (by simp) (by simp) (by simp) (fun _ => Z1 h7))] fun _ => ?_
      replace H := sI H; subst H
      exact Z03 [(2, .d)] [(2000000000, [])] [] [] [] (by kernel_rfl)
     .obtain ⟨y8, h8, H⟩ := bB H
      refine wG [.u 32 (.cw Z0 [2000000000] [] [(Z2 .rd y2.2).cells] [] [.ptr 0 0, .int .i64 2000000] _ _ _ _ _ (GEs.of [true, false] (by simp)) (by simp) (by simp) (by simp) (fun _ => Z1 h8))] fun _ => ?_
      replace H := sI H; subst H
      exact Z03 [(2, .d)] [(2000000000, [])] [] [] [] (by kernel_rfl)
def Z57 : L :=
sR [.al 2 [.int .i64 0, .int .i64 0, .int .i64 0]]
 (sR [mV 4 0,.cm 5 Z0 [(.t 4), (kI 9)],mV 6 0,.cm 7 Z0 [(.t 6), (kI 17)],mV 8 0,.cm 9 Z0 [(.t 8), (kI 3)],.bd 10 [.int .i64 0, .int .i64 0, .int .i64 0] [(0, 1, (.t 5)), (1, 1, (.t 7)), (2, 1, (.t 9))],.al 3 [.int .i64 0, .int .i64 0, .int .i64 0],.st (.t 3) (.t 10) 3]
 (.seq (sR [mV 11 0,.cm 12 Z0 [(.t 11), (kI 14)],.bi 13 .eql (.t 12) (kI 0)]
 (.cond (.t 13) (.reg [mV 14 0,.cm 15 Z0 [(.t 14), (kI 2)],.bi 16 .sub (kI 1000000) (.t 15),fA 17 3 1,.st (.t 17) (.t 16) 1])
 .skip))
 (.gw (sR [lD 18 3 3 true,.st (.t 2) (.t 18) 3]
 gR))))
def Z50 : List Rv := [.c 2 3 true]
theorem Z5h : chkFn Try.prog Z1y 1 Z57 Z50 = true := by kernel_rfl
def Z05 (y2 : Int × l01Cur) (y4 : Int × l01Cur) (v7 : l01Cur × Int) : Option (Vec × l01Cur) :=
 some ((Vec.mk y2.1 v7.2 y4.1), v7.1)
def Z0I (c1 : l01Cur) : Option (Vec × l01Cur) :=
 (Z3 c1 9).bind fun y2 => (Z3 y2.2 17).bind fun y3 => (Z3 y3.2 3).bind fun y4 => (Z3 y4.2 14).bind fun y5 => bif (y5.1 == 0) then ((Z3 y5.2 2).bind fun y6 => (Z05 y2 y4) (y6.2, (w64 (1000000 - y6.1)))) else ((Z05 y2 y4) (y5.2, y3.1))
set_option maxRecDepth 20000 in
theorem Z4P {c1 : l01Cur} {r : Vec × l01Cur} (H : Z0I c1 = some r) : ConD Try.prog Z1y [.ptr 0 0] [(Z2 .rd c1).cells] [] (eVec r.1) [(Z2 .rd r.2).cells] [] [] := by
 refine con_g [] Z5h rfl (by kernel_rfl) ?_
 unfold Z0I at H
 obtain ⟨y2, h2, H⟩ := bB H
 obtain ⟨y3, h3, H⟩ := bB H
 obtain ⟨y4, h4, H⟩ := bB H
 obtain ⟨y5, h5, H⟩ := bB H
 refine wG [.u 5 (.cw Z0 [2000000000] [] [(Z2 .rd c1).cells] [] [.ptr 0 0, .int .i64 9] _ _ _ _ _ (GEs.of [true, false] (by simp)) (by simp) (by simp) (by simp) (fun _ => Z1 h2)), .u 7 (.cw Z0 [2000000000] [] [(Z2 .rd y2.2).cells] [] [.ptr 0 0, .int .i64 17] _ _ _ _ _ (GEs.of [true, false] (by simp)) (by simp) (by simp) (by simp) (fun _ => Z1 h3)), .u 9 (.cw Z0 [2000000000] [] [(Z2 .rd y3.2).cells] [] [.ptr 0 0, .int .i64 3] _ _ _ _ _ (GEs.of [true, false] (by simp)) (by simp) (by simp) (by simp) (fun _ => Z1 h4)), .u 12 (.cw Z0 [2000000000] [] [(Z2 .rd y4.2).cells] [] [.ptr 0 0, .int .i64 14] _ _ _ _ _ (GEs.of [true, false] (by simp)) (by simp) (by simp) (by simp) (fun _ => Z1 h5))] fun _ => ?_
 refine Z0l (r := r) (Z05 y2 y4) 0 (fun v7 : l01Cur × Int => ⟨[(2, .ptr 2 0), (3, .ptr 3 0)], [], [(2000000000, (Z2 .rd v7.1).cells), (2, (eVec (Vec.mk 0 0 0)).cells), (3, (eVec (Vec.mk y2.1 v7.2 y4.1)).cells)], []⟩) (by kernel_rfl) (fun v7 H => ?_) (fun J9 => ?_)
 .unfold Z05 at H
  refine wP ?_
  replace H := sI H; subst H
  exact Z03 [(2, .d)] [(2, []), (2000000000, [])] [] [] [] (by kernel_rfl)
 .refine Wh_iH H (fun H => ?_) fun H => ?_
  .obtain ⟨y6, h6, H⟩ := bB H
   refine wG [.u 15 (.cw Z0 [2000000000] [] [(Z2 .rd y5.2).cells] [] [.ptr 0 0, .int .i64 2] _ _ _ _ _ (GEs.of [true, false] (by simp)) (by simp) (by simp) (by simp) (fun _ => Z1 h6))] fun _ => ?_
   exact wT (J9 _ H)
  .refine wP ?_
   exact wT (J9 _ H)
def Z59 : L :=
sR [.al 2 [.int .i64 0, .int .i64 0, .int .i64 0]]
 (sR [mV 5 0,.cm 6 Z1y [(.t 5)],.al 3 [.int .i64 0, .int .i64 0, .int .i64 0],.st (.t 3) (.t 6) 3]
 (sR [mV 7 0,.cm 8 Z0 [(.t 7), (kI 12)],mV 4 8]
 (.seq (sR [mV 9 4,.bi 10 .eql (.t 9) (kI 0)]
 (.cond (.t 10) (.reg [mV 11 0,.cm 12 Za [(.t 11)],fA 13 3 0,.st (.t 13) (.t 12) 1])
 .skip))
 (.gw (.seq (sR [mV 14 4,.bi 15 .eql (.t 14) (kI 1)]
 (.cond (.t 15) (.reg [mV 16 0,.cm 17 Za [(.t 16)],fA 18 3 1,.st (.t 18) (.t 17) 1])
 .skip))
 (.gw (.seq (sR [mV 19 4,.bi 20 .eql (.t 19) (kI 2)]
 (.cond (.t 20) (.reg [mV 21 0,.cm 22 Za [(.t 21)],fA 23 3 2,.st (.t 23) (.t 22) 1])
 .skip))
 (.gw (sR [lD 24 3 3 true,.st (.t 2) (.t 24) 3]
 gR)))))))))
def Z52 : List Rv := [.c 2 3 true]
theorem Z5j : chkFn Try.prog Z0j 1 Z59 Z52 = true := by kernel_rfl
def ZV (v5 : l01Cur × Int) (v7 : l01Cur × Int) (v9 : l01Cur × Int) : Option (Vec × l01Cur) :=
 some ((Vec.mk v5.2 v7.2 v9.2), v9.1)
def ZJ (y2 : Vec × l01Cur) (y3 : Int × l01Cur) (v5 : l01Cur × Int) (v7 : l01Cur × Int) : Option (Vec × l01Cur) :=
 bif (y3.1 == 2) then ((Zm v7.1).bind fun y8 => (ZV v5 v7) (y8.2, y8.1)) else ((ZV v5 v7) (v7.1, y2.1.c))
def ZH (y2 : Vec × l01Cur) (y3 : Int × l01Cur) (v5 : l01Cur × Int) : Option (Vec × l01Cur) :=
 bif (y3.1 == 1) then ((Zm v5.1).bind fun y6 => (ZJ y2 y3 v5) (y6.2, y6.1)) else ((ZJ y2 y3 v5) (v5.1, y2.1.b))
def Z0i (c1 : l01Cur) : Option (Vec × l01Cur) :=
 (Z0I c1).bind fun y2 => (Z3 y2.2 12).bind fun y3 => bif (y3.1 == 0) then ((Zm y3.2).bind fun y4 => (ZH y2 y3) (y4.2, y4.1)) else ((ZH y2 y3) (y3.2, y2.1.a))
set_option maxRecDepth 20000 in
theorem Z2F {c1 : l01Cur} {r : Vec × l01Cur} (H : Z0i c1 = some r) : ConD Try.prog Z0j [.ptr 0 0] [(Z2 .rd c1).cells] [] (eVec r.1) [(Z2 .rd r.2).cells] [] [] := by
 refine con_g [] Z5j rfl (by kernel_rfl) ?_
 unfold Z0i at H
 obtain ⟨y2, h2, H⟩ := bB H
 obtain ⟨y3, h3, H⟩ := bB H
 refine wG [.u 6 (.cw Z1y [2000000000] [] [(Z2 .rd c1).cells] [] [.ptr 0 0] _ _ _ _ _ (GEs.of [true] (by simp)) (by simp) (by simp) (by simp) (fun _ => Z4P h2)), .u 8 (.cw Z0 [2000000000] [] [(Z2 .rd y2.2).cells] [] [.ptr 0 0, .int .i64 12] _ _ _ _ _ (GEs.of [true, false] (by simp)) (by simp) (by simp) (by simp) (fun _ => Z1 h3))] fun _ => ?_
 refine Z0l (r := r) (ZH y2 y3) 0 (fun v5 : l01Cur × Int => ⟨[(0, .ptr 2000000000 0), (2, .ptr 2 0), (3, .ptr 3 0), (4, .int .i64 y3.1)], [], [(2000000000, (Z2 .rd v5.1).cells), (2, (eVec (Vec.mk 0 0 0)).cells), (3, (eVec (Vec.mk v5.2 y2.1.b y2.1.c)).cells)], []⟩) (by kernel_rfl) (fun v5 H => ?_) (fun J22 => ?_)
 .unfold ZH at H
  refine wP ?_
  refine Z0l (r := r) (ZJ y2 y3 v5) 0 (fun v7 : l01Cur × Int => ⟨[(0, .ptr 2000000000 0), (2, .ptr 2 0), (3, .ptr 3 0), (4, .int .i64 y3.1)], [], [(2000000000, (Z2 .rd v7.1).cells), (2, (eVec (Vec.mk 0 0 0)).cells), (3, (eVec (Vec.mk v5.2 v7.2 y2.1.c)).cells)], []⟩) (by kernel_rfl) (fun v7 H => ?_) (fun J21 => ?_)
  .unfold ZJ at H
   refine wP ?_
   refine Z0l (r := r) (ZV v5 v7) 0 (fun v9 : l01Cur × Int => ⟨[(2, .ptr 2 0), (3, .ptr 3 0)], [], [(2000000000, (Z2 .rd v9.1).cells), (2, (eVec (Vec.mk 0 0 0)).cells), (3, (eVec (Vec.mk v5.2 v7.2 v9.2)).cells)], []⟩) (by kernel_rfl) (fun v9 H => ?_) (fun J20 => ?_)
   .unfold ZV at H
    refine wP ?_
    replace H := sI H; subst H
    exact Z03 [(2, .d)] [(2, []), (2000000000, [])] [] [] [] (by kernel_rfl)
   .refine Wh_iH H (fun H => ?_) fun H => ?_
    .obtain ⟨y8, h8, H⟩ := bB H
     refine wG [.u 22 (.cw Za [2000000000] [] [(Z2 .rd v7.1).cells] [] [.ptr 0 0] _ _ _ _ _ (GEs.of [true] (by simp)) (by simp) (by simp) (by simp) (fun _ => ZM h8))] fun _ => ?_
     exact wT (J20 _ H)
    .refine wP ?_
     exact wT (J20 _ H)
  .refine Wh_iH H (fun H => ?_) fun H => ?_
   .obtain ⟨y6, h6, H⟩ := bB H
    refine wG [.u 17 (.cw Za [2000000000] [] [(Z2 .rd v5.1).cells] [] [.ptr 0 0] _ _ _ _ _ (GEs.of [true] (by simp)) (by simp) (by simp) (by simp) (fun _ => ZM h6))] fun _ => ?_
    exact wT (J21 _ H)
   .refine wP ?_
    exact wT (J21 _ H)
 .refine Wh_iH H (fun H => ?_) fun H => ?_
  .obtain ⟨y4, h4, H⟩ := bB H
   refine wG [.u 12 (.cw Za [2000000000] [] [(Z2 .rd y3.2).cells] [] [.ptr 0 0] _ _ _ _ _ (GEs.of [true] (by simp)) (by simp) (by simp) (by simp) (fun _ => ZM h4))] fun _ => ?_
   exact wT (J22 _ H)
  .refine wP ?_
   exact wT (J22 _ H)
def Z56 : L :=
sR [.al 2 [.nl]]
 (sR [mV 6 0,.cm 7 Z1b [(.t 6)],.al 3 [.nl],.st (.t 3) (.t 7) 1]
 (sR [mV 8 0,.cm 9 Z0 [(.t 8), (kI 12)],mV 4 9]
 (sR [fA 10 3 0,lD 11 10 1 false,.ln 12 (.t 11),mV 5 12]
 (.seq (sR [mV 13 4,.bi 14 .eql (.t 13) (kI 0)]
 (.cond (.t 14) (.rz [] [(0, false, fA 15 3 0),
 (1, false, lD 16 15 1 false),
 (2, false, mV 17 0),
 (3, false, mV 18 5),
 (5, false, mV 20 0),
 (4, true, .cm 19 Z0 [(.t 17), (.t 18)]),
 (6, true, .cm 21 Za [(.t 20)])]
 [iA 22 16 19 4,fA 23 22 0,.st (.t 23) (.t 21) 1])
 .skip))
 (.gw (.seq (sR [mV 24 4,.bi 25 .eql (.t 24) (kI 1)]
 (.cond (.t 25) (.rz [] [(0, false, fA 26 3 0),
 (1, false, lD 27 26 1 false),
 (2, false, mV 28 0),
 (3, false, mV 29 5),
 (5, false, mV 31 0),
 (4, true, .cm 30 Z0 [(.t 28), (.t 29)]),
 (6, true, .cm 32 Z0j [(.t 31)])]
 [iA 33 27 30 4,fA 34 33 1,.st (.t 34) (.t 32) 3])
 .skip))
 (.gw (.seq (sR [mV 35 4,.bi 36 .eql (.t 35) (kI 2)]
 (.cond (.t 36) (.rq 9 [fA 37 3 0,lD 38 37 1 false,fA 39 3 0,lD 40 39 1 false,mV 41 5,.bi 42 .sub (.t 41) (kI 1),iA 43 40 42 4,lD 44 43 4 true,.bs 45 4 [(.t 44)] false,.ap 46 (.t 38) (.t 45) 4 32,fA 47 3 0,.st (.t 47) (.t 46) 1])
 .skip))
 (.gw (.seq (sR [mV 48 4,.bi 49 .eql (.t 48) (kI 3)]
 (.cond (.t 49) (.reg [fA 50 3 0,.st (.t 50) (.c (.nl)) 1])
 .skip))
 (.gw (sR [lD 51 3 1 true,.st (.t 2) (.t 51) 1]
 gR))))))))))))
def Z4Z : List Rv := [.c 2 1 true]
theorem Z5g : chkFn Try.prog Z1x 1 Z56 Z4Z = true := by kernel_rfl
def ZT (v12 : l01Cur × (List Pt)) (v16 : (List Pt)) : Option ((List Pt) × l01Cur) :=
 some (v16, v12.1)
def ZG (y3 : Int × l01Cur) (v12 : l01Cur × (List Pt)) (v15 : (List Pt)) : Option ((List Pt) × l01Cur) :=
 bif (y3.1 == 3) then ((ZT v12) []) else ((ZT v12) v15)
def ZF (y2 : (List Pt) × l01Cur) (y3 : Int × l01Cur) (v12 : l01Cur × (List Pt)) : Option ((List Pt) × l01Cur) :=
 bif (y3.1 == 2) then ((idx v12.2 (w64 ((y2.1.length : Int) - 1))).bind fun e13 => (appL 32 v12.2 [e13]).bind fun xs14 => (ZG y3 v12) xs14) else ((ZG y3 v12) v12.2)
def ZE (y2 : (List Pt) × l01Cur) (y3 : Int × l01Cur) (v8 : l01Cur × (List Pt)) : Option ((List Pt) × l01Cur) :=
 bif (y3.1 == 1) then ((Z3 v8.1 (y2.1.length : Int)).bind fun y9 => (Z0i y9.2).bind fun y10 => (idx v8.2 y9.1).bind fun e11 => (ZF y2 y3) (y10.2, (v8.2.set y9.1.toNat (Pt.mk e11.t y10.1)))) else ((ZF y2 y3) (v8.1, v8.2))
def Z0H (c1 : l01Cur) : Option ((List Pt) × l01Cur) :=
 (Z0n c1).bind fun y2 => (Z3 y2.2 12).bind fun y3 => bif (y3.1 == 0) then ((Z3 y3.2 (y2.1.length : Int)).bind fun y5 => (Zm y5.2).bind fun y6 => (idx y2.1 y5.1).bind fun e7 => (ZE y2 y3) (y6.2, (y2.1.set y5.1.toNat (Pt.mk y6.1 e7.free)))) else ((ZE y2 y3) (y3.2, y2.1))
set_option maxRecDepth 20000 in
theorem Z4O {c1 : l01Cur} {r : (List Pt) × l01Cur} (H : Z0H c1 = some r) : ConD Try.prog Z1x [.ptr 0 0] [(Z2 .rd c1).cells] [] (.agg [.sref 0]) [(Z2 .rd r.2).cells] [] [(4, r.1.map ePt)] := by
 refine con_g [] Z5g rfl (by kernel_rfl) ?_
 unfold Z0H at H
 obtain ⟨y2, h2, H⟩ := bB H
 obtain ⟨y3, h3, H⟩ := bB H
 refine wG [.u 7 (.cw Z1b [2000000000] [] [(Z2 .rd c1).cells] [] [.ptr 0 0] _ _ _ _ _ (GEs.of [true] (by simp)) (by simp) (by simp) (by simp) (fun _ => Z44 h2)), .u 9 (.cw Z0 [2000000000] [] [(Z2 .rd y2.2).cells] [] [.ptr 0 0, .int .i64 12] _ _ _ _ _ (GEs.of [true, false] (by simp)) (by simp) (by simp) (by simp) (fun _ => Z1 h3)), .u 12 (.ln _ _ fun _ => lm y2.1 ePt)] fun q4 => ?_
 refine Z0l (r := r) (ZE y2 y3) 0 (fun v8 : l01Cur × (List Pt) => ⟨[(0, .ptr 2000000000 0), (2, .ptr 2 0), (3, .ptr 3 0), (4, .int .i64 y3.1), (5, .int .i64 (y2.1.length : Int))], [], [(2000000000, (Z2 .rd v8.1).cells), (2, [.nl]), (3, [.sref 8000])], [(8000, ⟨4, v8.2.map ePt, false⟩)]⟩) (by kernel_rfl) (fun v8 H => ?_) (fun J29 => ?_)
 .unfold ZE at H
  refine wP ?_
  refine Z0l (r := r) (ZF y2 y3) 0 (fun v12 : l01Cur × (List Pt) => ⟨[(2, .ptr 2 0), (3, .ptr 3 0), (4, .int .i64 y3.1), (5, .int .i64 (y2.1.length : Int))], [], [(2000000000, (Z2 .rd v12.1).cells), (2, [.nl]), (3, [.sref 8000])], [(8000, ⟨4, v12.2.map ePt, false⟩)]⟩) (by kernel_rfl) (fun v12 H => ?_) (fun J28 => ?_)
  .unfold ZF at H
   refine wP ?_
   refine Z0l (r := r) (ZG y3 v12) 0 (fun v15 : (List Pt) => ⟨[(2, .ptr 2 0), (3, .ptr 3 0), (4, .int .i64 y3.1)], [], [(2000000000, (Z2 .rd v12.1).cells), (2, [.nl]), (3, [.sref 8000])], [(8000, ⟨4, v15.map ePt, false⟩)]⟩) (by kernel_rfl) (fun v15 H => ?_) (fun J27 => ?_)
   .unfold ZG at H
    refine wP ?_
    refine Z0l (r := r) (ZT v12) 0 (fun v16 : (List Pt) => ⟨[(2, .ptr 2 0), (3, .ptr 3 0)], [], [(2000000000, (Z2 .rd v12.1).cells), (2, [.nl]), (3, [.sref 530000])], [(530000, ⟨4, v16.map ePt, false⟩)]⟩) (by kernel_rfl) (fun v16 H => ?_) (fun J26 => ?_)
    .unfold ZT at H
     refine wP ?_
     replace H := sI H; subst H
     exact Z03 [(2, .d)] [(2, []), (2000000000, [])] [(530000, some 530000, 0)] [] [530000] (by kernel_rfl)
    .refine Wh_iH H (fun H => ?_) fun H => ?_
     .refine wP ?_
      exact Wh_to (J26 _ H) [] [(3, [.z 530000])] [(530000, (none, 4))] [] (by kernel_rfl) (by kernel_rfl)
     .refine wP ?_
      exact Wh_to (J26 _ H) [] [] [(530000, (some 8000, 0))] [] (by kernel_rfl) (by kernel_rfl)
   .refine Wh_iH H (fun H => ?_) fun H => ?_
    .obtain ⟨e13, h13, H⟩ := bB H
     obtain ⟨xs14, h14, H⟩ := bB H
     refine wG [.u 43 (.ix _ _ _ fun _ => Ze ePt h13), .u 44 (.el _ _ _ fun _ => gm ePt (Z24 h13)), .u 46 (.ap _ _ _ _ fun _ => Z0Q ePt h14)] fun _ => ?_
     exact wT (J27 _ H)
    .refine wP ?_
     exact wT (J27 _ H)
  .refine Wh_iH H (fun H => ?_) fun H => ?_
   .obtain ⟨y9, h9, H⟩ := bB H
    obtain ⟨y10, h10, H⟩ := bB H
    obtain ⟨e11, h11, H⟩ := bB H
    refine wG [.u 30 (.cz Z0 [2000000000] [(Z2 .rd v8.1).cells] [.ptr 0 0, .int .i64 (y2.1.length : Int)] _ _ _ (by simp) (by simp) (fun _ => by simp) (fun _ => Z1 h9)), .u 32 (.cz Z0j [2000000000] [(Z2 .rd y9.2).cells] [.ptr 0 0] _ _ _ (by simp) (by simp) (fun _ => by simp) (fun _ => Z2F h10)), .u 33 (.ix _ _ _ fun _ => Ze ePt h11), .u 1000000 (.sto _ _ _ (ePt (Pt.mk e11.t y10.1)) _ (fun _ => gm ePt (Z24 h11)) (fun _ => Z8H ..))] fun _ => ?_
    exact wT (J28 _ H)
   .refine wP ?_
    exact wT (J28 _ H)
 .refine Wh_iH H (fun H => ?_) fun H => ?_
  .obtain ⟨y5, h5, H⟩ := bB H
   obtain ⟨y6, h6, H⟩ := bB H
   obtain ⟨e7, h7, H⟩ := bB H
   refine wG [.u 19 (.cz Z0 [2000000000] [(Z2 .rd y3.2).cells] [.ptr 0 0, .int .i64 (y2.1.length : Int)] _ _ _ (by simp) (by simp) (fun _ => by simp) (fun _ => Z1 h5)), .u 21 (.cz Za [2000000000] [(Z2 .rd y5.2).cells] [.ptr 0 0] _ _ _ (by simp) (by simp) (fun _ => by simp) (fun _ => ZM h6)), .u 22 (.ix _ _ _ fun _ => Ze ePt h7), .u 1000000 (.sto _ _ _ (ePt (Pt.mk y6.1 e7.free)) _ (fun _ => gm ePt (Z24 h7)) (fun _ => Z8H ..))] fun _ => ?_
   exact wT (J29 _ H)
  .refine wP ?_
   exact wT (J29 _ H)
def Z53 : L :=
sR [.al 2 [.int .i64 0, .int .i64 0, .int .i64 0]]
 (.seq (sR [mV 3 0,.cm 4 Z0 [(.t 3), (kI 9)],.bi 5 .eql (.t 4) (kI 0)]
 (.cond (.t 5) (sR [mV 6 0,.cm 7 Z0j [(.t 6)],.st (.t 2) (.t 7) 3]
 gR)
 .skip))
 (sR [mV 8 0,.cm 9 Z0 [(.t 8), (kI 7)],mV 10 0,.cm 11 Z0 [(.t 10), (kI 9)],.bd 12 [.int .i64 0, .int .i64 0, .int .i64 0] [(0, 1, (.t 9)), (1, 1, (.t 11))],.st (.t 2) (.t 12) 3]
 gR))
def Z4X : List Rv := [.c 2 3 true]
theorem Z5e : chkFn Try.prog Z1v 1 Z53 Z4X = true := by kernel_rfl
def Z0C (c1 : l01Cur) : Option (Vec × l01Cur) :=
 (Z3 c1 9).bind fun y2 => bif (y2.1 == 0) then ((Z0i y2.2).bind fun y3 => some (y3.1, y3.2)) else ((Z3 y2.2 7).bind fun y4 => (Z3 y4.2 9).bind fun y5 => some ((Vec.mk y4.1 y5.1 0), y5.2))
set_option maxRecDepth 20000 in
theorem Z4M {c1 : l01Cur} {r : Vec × l01Cur} (H : Z0C c1 = some r) : ConD Try.prog Z1v [.ptr 0 0] [(Z2 .rd c1).cells] [] (eVec r.1) [(Z2 .rd r.2).cells] [] [] := by
 refine con_g [] Z5e rfl (by kernel_rfl) ?_
 unfold Z0C at H
 obtain ⟨y2, h2, H⟩ := bB H
 refine wG [.u 4 (.cw Z0 [2000000000] [] [(Z2 .rd c1).cells] [] [.ptr 0 0, .int .i64 9] _ _ _ _ _ (GEs.of [true, false] (by simp)) (by simp) (by simp) (by simp) (fun _ => Z1 h2))] fun _ => ?_
 refine Wh_iH H (fun H => ?_) fun H => ?_
 .obtain ⟨y3, h3, H⟩ := bB H
  refine wG [.u 7 (.cw Z0j [2000000000] [] [(Z2 .rd y2.2).cells] [] [.ptr 0 0] _ _ _ _ _ (GEs.of [true] (by simp)) (by simp) (by simp) (by simp) (fun _ => Z2F h3))] fun _ => ?_
  replace H := sI H; subst H
  exact Z03 [(2, .d)] [(2, []), (2000000000, [])] [] [] [] (by kernel_rfl)
 .obtain ⟨y4, h4, H⟩ := bB H
  obtain ⟨y5, h5, H⟩ := bB H
  refine wG [.u 9 (.cw Z0 [2000000000] [] [(Z2 .rd y2.2).cells] [] [.ptr 0 0, .int .i64 7] _ _ _ _ _ (GEs.of [true, false] (by simp)) (by simp) (by simp) (by simp) (fun _ => Z1 h4)), .u 11 (.cw Z0 [2000000000] [] [(Z2 .rd y4.2).cells] [] [.ptr 0 0, .int .i64 9] _ _ _ _ _ (GEs.of [true, false] (by simp)) (by simp) (by simp) (by simp) (fun _ => Z1 h5))] fun _ => ?_
  replace H := sI H; subst H
  exact Z03 [(2, .d)] [(2, []), (2000000000, [])] [] [] [] (by kernel_rfl)
def Z4h : L :=
sR [.mv 2 (kI 0),.mv 3 (kI 0)]
 (sR [mV 7 0,.cm 8 Z0 [(.t 7), (kI 80)],mV 4 8]
 (sR [mV 9 4,.bi 10 .add (.t 9) (kI 1),mV 11 0,.cm 12 Z0 [(.t 11), (kI 50)],bI 13 .add 10 12,mV 5 13]
 (sR [mV 14 0,.cm 15 Z0 [(.t 14), (kI 12)],mV 6 15]
 (.seq (sR [mV 16 6,.bi 17 .eql (.t 16) (kI 0)]
 (.cond (.t 17) (.reg [mV 18 0,.cm 19 Za [(.t 18)],mV 4 19])
 .skip))
 (.gw (.seq (sR [mV 20 6,.bi 21 .eql (.t 20) (kI 1)]
 (.cond (.t 21) (.reg [mV 22 0,.cm 23 Za [(.t 22)],mV 5 23])
 .skip))
 (.gw (.seq (sR [mV 24 6,.bi 25 .eql (.t 24) (kI 2)]
 (.cond (.t 25) (rE 5 (kI 1000000000))
 .skip))
 (.gw (sR [mV 26 4,mV 27 5,mV 2 26,mV 3 27]
 gR))))))))))
def Z4a : List Rv := [.t 2, .t 3]
theorem Z4u : chkFn Try.prog Z1a 1 Z4h Z4a = true := by kernel_rfl
def ZO (v6 : l01Cur × Int) (v8 : l01Cur × Int) (v9 : Int) : Option (Int × Int × l01Cur) :=
 some (v6.2, v9, v8.1)
def Zq (y4 : Int × l01Cur) (v6 : l01Cur × Int) (v8 : l01Cur × Int) : Option (Int × Int × l01Cur) :=
 bif (y4.1 == 2) then ((ZO v6 v8) 1000000000) else ((ZO v6 v8) v8.2)
def Zp (y2 : Int × l01Cur) (y3 : Int × l01Cur) (y4 : Int × l01Cur) (v6 : l01Cur × Int) : Option (Int × Int × l01Cur) :=
 bif (y4.1 == 1) then ((Zm v6.1).bind fun y7 => (Zq y4 v6) (y7.2, y7.1)) else ((Zq y4 v6) (v6.1, (w64 ((w64 (y2.1 + 1)) + y3.1))))
def Z0m (c1 : l01Cur) : Option (Int × Int × l01Cur) :=
 (Z3 c1 80).bind fun y2 => (Z3 y2.2 50).bind fun y3 => (Z3 y3.2 12).bind fun y4 => bif (y4.1 == 0) then ((Zm y4.2).bind fun y5 => (Zp y2 y3 y4) (y5.2, y5.1)) else ((Zp y2 y3 y4) (y4.2, y2.1))
set_option maxRecDepth 20000 in
theorem Z43 {c1 : l01Cur} {r : Int × Int × l01Cur} (H : Z0m c1 = some r) : ConD Try.prog Z1a [.ptr 0 0] [(Z2 .rd c1).cells] [] (.tup [.int .i64 r.1, .int .i64 r.2.1]) [(Z2 .rd r.2.2).cells] [] [] := by
 refine con_g [] Z4u rfl (by kernel_rfl) ?_
 unfold Z0m at H
 obtain ⟨y2, h2, H⟩ := bB H
 obtain ⟨y3, h3, H⟩ := bB H
 obtain ⟨y4, h4, H⟩ := bB H
 refine wG [.u 8 (.cw Z0 [2000000000] [] [(Z2 .rd c1).cells] [] [.ptr 0 0, .int .i64 80] _ _ _ _ _ (GEs.of [true, false] (by simp)) (by simp) (by simp) (by simp) (fun _ => Z1 h2)), .u 12 (.cw Z0 [2000000000] [] [(Z2 .rd y2.2).cells] [] [.ptr 0 0, .int .i64 50] _ _ _ _ _ (GEs.of [true, false] (by simp)) (by simp) (by simp) (by simp) (fun _ => Z1 h3)), .u 15 (.cw Z0 [2000000000] [] [(Z2 .rd y3.2).cells] [] [.ptr 0 0, .int .i64 12] _ _ _ _ _ (GEs.of [true, false] (by simp)) (by simp) (by simp) (by simp) (fun _ => Z1 h4))] fun _ => ?_
 refine Z0l (r := r) (Zp y2 y3 y4) 0 (fun v6 : l01Cur × Int => ⟨[(0, .ptr 2000000000 0), (4, .int .i64 v6.2), (5, .int .i64 (w64 ((w64 (y2.1 + 1)) + y3.1))), (6, .int .i64 y4.1)], [], [(2000000000, (Z2 .rd v6.1).cells)], []⟩) (by kernel_rfl) (fun v6 H => ?_) (fun J23 => ?_)
 .unfold Zp at H
  refine wP ?_
  refine Z0l (r := r) (Zq y4 v6) 0 (fun v8 : l01Cur × Int => ⟨[(4, .int .i64 v6.2), (5, .int .i64 v8.2), (6, .int .i64 y4.1)], [], [(2000000000, (Z2 .rd v8.1).cells)], []⟩) (by kernel_rfl) (fun v8 H => ?_) (fun J22 => ?_)
  .unfold Zq at H
   refine wP ?_
   refine Z0l (r := r) (ZO v6 v8) 0 (fun v9 : Int => ⟨[(4, .int .i64 v6.2), (5, .int .i64 v9)], [], [(2000000000, (Z2 .rd v8.1).cells)], []⟩) (by kernel_rfl) (fun v9 H => ?_) (fun J21 => ?_)
   .unfold ZO at H
    refine wP ?_
    replace H := sI H; subst H
    exact Z03 [(2, .d), (3, .d)] [(2000000000, [])] [] [] [] (by kernel_rfl)
   .refine Wh_iH H (fun H => ?_) fun H => ?_
    .refine wP ?_
     exact wT (J21 _ H)
    .refine wP ?_
     exact wT (J21 _ H)
  .refine Wh_iH H (fun H => ?_) fun H => ?_
   .obtain ⟨y7, h7, H⟩ := bB H
    refine wG [.u 23 (.cw Za [2000000000] [] [(Z2 .rd v6.1).cells] [] [.ptr 0 0] _ _ _ _ _ (GEs.of [true] (by simp)) (by simp) (by simp) (by simp) (fun _ => ZM h7))] fun _ => ?_
    exact wT (J22 _ H)
   .refine wP ?_
    exact wT (J22 _ H)
 .refine Wh_iH H (fun H => ?_) fun H => ?_
  .obtain ⟨y5, h5, H⟩ := bB H
   refine wG [.u 19 (.cw Za [2000000000] [] [(Z2 .rd y4.2).cells] [] [.ptr 0 0] _ _ _ _ _ (GEs.of [true] (by simp)) (by simp) (by simp) (by simp) (fun _ => ZM h5))] fun _ => ?_
   exact wT (J23 _ H)
  .refine wP ?_
   exact wT (J23 _ H)
def Z4l : L :=
sR [.al 2 [.nl],.al 3 [.int .i64 0, .int .i64 0, .int .i64 0],.mv 4 (kI 0),.mv 5 (kI 0)]
 (sR [mV 11 0,.cn 12 Z1z [(.t 11)],mV 6 12]
 (sR [mV 13 6,.cm 14 Z1x [(.t 13)],.al 7 [.nl],.st (.t 7) (.t 14) 1]
 (sR [mV 15 6,.cm 16 Z1v [(.t 15)],.al 8 [.int .i64 0, .int .i64 0, .int .i64 0],.st (.t 8) (.t 16) 3]
 (sR [mV 18 6,.cm 19 Z1a [(.t 18)],mV 17 19,eX 20 17 0,eX 21 17 1,mV 9 20,mV 10 21]
 (.seq (.ro [2, 3] [] [(1, false, lD 23 8 3 true),
 (2, false, mV 24 9),
 (3, false, mV 25 10),
 (0, true, lD 22 7 1 true)]
 [.st (.t 2) (.t 22) 1,.st (.t 3) (.t 23) 3,mV 4 24,mV 5 25])
 gR)))))
def Z0q (code1 : List Int) : Option ((List Pt) × Vec × Int × Int) :=
 (Z5G code1).bind fun c2 => (Z0H c2).bind fun y3 => (Z0C y3.2).bind fun y4 => (Z0m y4.2).bind fun y5 => some (y3.1, y4.1, y5.1, y5.2.1)
theorem Z49 {code1 : List Int} {r : (List Pt) × Vec × Int × Int} (H : Z0q code1 = some r) : Snd Try.prog Z2K [.sl .rd 1 (code1.map eB)] (.tup [eProfT .nw r.1, eVec r.2.1, .int .i64 r.2.2.1, .int .i64 r.2.2.2]) [] := by
 refine wS Z4l [.c 2 1 true, .c 3 3 true, .t 4, .t 5] ?_
 unfold Z0q at H
 obtain ⟨c2, h2, H⟩ := bB H
 obtain ⟨y3, h3, H⟩ := bB H
 obtain ⟨y4, h4, H⟩ := bB H
 obtain ⟨y5, h5, H⟩ := bB H
 refine wG [.u 12 (.bn Z1z [.sl .rd 1 (code1.map eB)] [.sl .rd 1 (code1.map eB)] _ ((Z2 .rd c2).cells) (fun _ => by simp) (fun _ => by simp) (fun _ => Za5 h2)), .u 14 (.cw Z1x [12] [] [(Z2 .rd c2).cells] [] [.ptr 0 0] _ _ _ _ _ (GEs.of [true] (by simp)) (by simp) (by simp) (by simp) (fun _ => Z4O h3)), .u 16 (.cw Z1v [12] [] [(Z2 .rd y3.2).cells] [] [.ptr 0 0] _ _ _ _ _ (GEs.of [true] (by simp)) (by simp) (by simp) (by simp) (fun _ => Z4M h4)), .u 19 (.cw Z1a [12] [] [(Z2 .rd y4.2).cells] [] [.ptr 0 0] _ _ _ _ _ (GEs.of [true] (by simp)) (by simp) (by simp) (by simp) (fun _ => Z43 h5))] fun _ => ?_
 replace H := sI H; subst H
 exact wN [(2, .d), (3, .d), (4, .d), (5, .d)] [(2, [.f]), (3, [])] [] [15000] [] [⟨_, nw_Pt y3.1⟩]
end Go.Proofs.Ytjphbnaepdcikaa
namespace Go.Proofs.Ytjphbnaepdcikaa
open Go Go.RowKit Eng
structure CurP (c : l01Cur) : Prop where
 i0 : 0 <= c.i
 i1 : c.i <= c.b.length
 len : c.b.length <= 1048576
theorem Z3Y (a : Int) : 0 <= bAnd .i64 a 255 /\ bAnd .i64 a 255 <= 255 := by
 have h : (BitVec.ofInt 64 a &&& BitVec.ofInt 64 255).toNat <= 255 := by
  rw [BitVec.toNat_and]
  exact Nat.le_trans Nat.and_le_right (by decide)
 show 0 <= IntKind.i64.wrap _ /\ IntKind.i64.wrap _ <= 255
 have e : ((BitVec.ofInt IntKind.i64.bits a &&& BitVec.ofInt IntKind.i64.bits 255).toNat : Int) = ((BitVec.ofInt 64 a &&& BitVec.ofInt 64 255).toNat : Int) := rfl
 rw [e, Z8A (by omega) (by omega)]
 omega
theorem ZaS {α : Type} {l : List α} (h : l.length <= 9223372036854775807) : lenQ l = some () := by simp [lenQ, h]
theorem Za4 {bs : List Int} (h : bs.length <= 1048576) : ∃ c, Z5G bs = some c /\ CurP c := ⟨⟨bs, 0, newH bs⟩, by simp [Z5G, h], by simp, by simp, h⟩
theorem Z1K {c : l01Cur} (h : CurP c) : ∃ r, Zn c = some r /\ 0 <= r.1 /\ r.1 <= 255 /\ CurP r.2 := by
 unfold Zn
 simp only [shrI, ZaS (show c.b.length <= 9223372036854775807 by have := h.len; omega)]
 have h0 := h.i0; have h1 := h.i1; have h2 := h.len
 by_cases hlt : c.i < c.b.length
 .obtain ⟨x, hx, _⟩ := Z7w h0 hlt
  refine ⟨_, by simp [hx, hlt, Zt]; rfl, ?_⟩
  simp
  refine ⟨(Z3Y _).1, (Z3Y _).2, ?_, ?_, h2⟩ <;> simp <;> rw [Z1P (by omega)] <;> omega
 .refine ⟨_, by simp [hlt, Zt]; rfl, ?_⟩
  simp
  exact ⟨(Z3Y _).1, (Z3Y _).2, h0, h1, h2⟩
theorem Z6 {c : l01Cur} {n : Int} (h : CurP c) (hn : n <= 1000000000) : ∃ r, Z3 c n = some r /\ 0 <= r.1 /\ r.1 <= max 0 (n - 1) /\ CurP r.2 := by
 unfold Z3
 by_cases h0 : n <= 0
 .exact ⟨(0, c), by simp [h0], by simp, by simp; omega, h⟩
 have hne : ¬ n = 0 := by omega
 by_cases h256 : n <= 256
 .obtain ⟨r, e, r0, r1, hc⟩ := Z1K h
  have q0 := Int.tmod_nonneg n r0
  have q1 := Int.tmod_lt_of_pos r.1 (show 0 < n by omega)
  exact ⟨(r.1.tmod n, r.2), by simp [h0, h256, e, remI, hne], q0, by simp only; omega, hc⟩
 .obtain ⟨a, ea, a0, a1, ha⟩ := Z1K h
  obtain ⟨b, eb, b0, b1, hb⟩ := Z1K ha
  obtain ⟨d, ed, d0, d1, hd⟩ := Z1K hb
  obtain ⟨e, ee, e0, e1, he⟩ := Z1K hd
  have es : w64 ((w64 ((w64 ((w64 (a.1 * 16777216)) + (w64 (b.1 * 65536)))) + (w64 (d.1 * 256)))) + e.1) = a.1 * 16777216 + b.1 * 65536 + d.1 * 256 + e.1 := by
   rw [Z1P (n := a.1 * 16777216) (by omega), Z1P (n := b.1 * 65536) (by omega), Z1P (n := d.1 * 256) (by omega), Z1P (n := a.1 * 16777216 + b.1 * 65536) (by omega), Z1P (n := a.1 * 16777216 + b.1 * 65536 + d.1 * 256) (by omega), Z1P (by omega)]
  have q0 := Int.tmod_nonneg n (show 0 <= a.1 * 16777216 + b.1 * 65536 + d.1 * 256 + e.1 by omega)
  have q1 := Int.tmod_lt_of_pos (a.1 * 16777216 + b.1 * 65536 + d.1 * 256 + e.1) (show 0 < n by omega)
  exact ⟨((a.1 * 16777216 + b.1 * 65536 + d.1 * 256 + e.1).tmod n, e.2), by simp [h0, h256, ea, eb, ed, ee, es, remI, hne], q0, by simp only; omega, he⟩
theorem Z1E {c : l01Cur} (h : CurP c) : ∃ r, Zm c = some r /\ CurP r.2 := by
 unfold Zm
 obtain ⟨y2, e2, _, _, h2⟩ := Z6 h (n := 9) (by omega)
 obtain ⟨y3, e3, _, _, h3⟩ := Z6 h2 (n := 24) (by omega)
 obtain ⟨y4, e4, _, _, h4⟩ := Z6 h2 (n := 3) (by omega)
 obtain ⟨y5, e5, _, _, h5⟩ := Z6 h2 (n := 2) (by omega)
 obtain ⟨y6, e6, _, _, h6⟩ := Z6 h2 (n := 2000000) (by omega)
 simp only [e2, e3, e4, e5, e6, bS]
 cases decide (y2.1 < 4) <;> cases y2.1 == 4 <;> cases y2.1 == 5 <;> cases y2.1 == 6 <;> cases y2.1 == 7 <;> exact ⟨_, rfl, by assumption⟩
theorem Za3 {c : l01Cur} (h : CurP c) : ∃ r, Z0I c = some r /\ CurP r.2 := by
 unfold Z0I
 obtain ⟨y2, e2, _, _, h2⟩ := Z6 h (n := 9) (by omega)
 obtain ⟨y3, e3, _, _, h3⟩ := Z6 h2 (n := 17) (by omega)
 obtain ⟨y4, e4, _, _, h4⟩ := Z6 h3 (n := 3) (by omega)
 obtain ⟨y5, e5, _, _, h5⟩ := Z6 h4 (n := 14) (by omega)
 obtain ⟨y6, e6, _, _, h6⟩ := Z6 h5 (n := 2) (by omega)
 simp only [e2, e3, e4, e5, e6, bS, Z05]
 cases y5.1 == 0 <;> exact ⟨_, rfl, by assumption⟩
theorem Z6C {c : l01Cur} (h : CurP c) : ∃ r, Z0i c = some r /\ CurP r.2 := by
 unfold Z0i
 obtain ⟨y2, e2, h2⟩ := Za3 h
 obtain ⟨y3, e3, _, _, h3⟩ := Z6 h2 (n := 12) (by omega)
 obtain ⟨y4, e4, h4⟩ := Z1E h3
 have j21 : ∀ v5 v7 : l01Cur × Int, CurP v7.1 -> ∃ r, ZJ y2 y3 v5 v7 = some r /\ CurP r.2 := fun v5 v7 hv => by
  obtain ⟨y8, e8, h8⟩ := Z1E hv
  simp only [ZJ, ZV, e8, bS]
  cases y3.1 == 2 <;> exact ⟨_, rfl, by assumption⟩
 have j22 : ∀ v5 : l01Cur × Int, CurP v5.1 -> ∃ r, ZH y2 y3 v5 = some r /\ CurP r.2 := fun v5 hv => by
  obtain ⟨y6, e6, h6⟩ := Z1E hv
  simp only [ZH, e6, bS]
  cases y3.1 == 1
  .exact j21 _ _ hv
  .exact j21 _ _ h6
 simp only [e2, e3, e4, bS]
 cases y3.1 == 0
 .exact j22 _ h3
 .exact j22 _ h4
theorem Za1 {c : l01Cur} (h : CurP c) : ∃ r, Z0C c = some r /\ CurP r.2 := by
 unfold Z0C
 obtain ⟨y2, e2, _, _, h2⟩ := Z6 h (n := 9) (by omega)
 obtain ⟨y3, e3, h3⟩ := Z6C h2
 obtain ⟨y4, e4, _, _, h4⟩ := Z6 h2 (n := 7) (by omega)
 obtain ⟨y5, e5, _, _, h5⟩ := Z6 h4 (n := 9) (by omega)
 simp only [e2, e3, e4, e5, bS]
 cases y2.1 == 0 <;> exact ⟨_, rfl, by assumption⟩
theorem Z8Q {c : l01Cur} (h : CurP c) : ∃ r, Z0m c = some r /\ CurP r.2.2 := by
 unfold Z0m
 obtain ⟨y2, e2, _, _, h2⟩ := Z6 h (n := 80) (by omega)
 obtain ⟨y3, e3, _, _, h3⟩ := Z6 h2 (n := 50) (by omega)
 obtain ⟨y4, e4, _, _, h4⟩ := Z6 h3 (n := 12) (by omega)
 obtain ⟨y5, e5, h5⟩ := Z1E h4
 have j22 : ∀ v6 v8 : l01Cur × Int, CurP v8.1 -> ∃ r, Zq y4 v6 v8 = some r /\ CurP r.2.2 := fun v6 v8 hv => by
  simp only [Zq, ZO]
  cases y4.1 == 2 <;> exact ⟨_, rfl, hv⟩
 have j23 : ∀ v6 : l01Cur × Int, CurP v6.1 -> ∃ r, Zp y2 y3 y4 v6 = some r /\ CurP r.2.2 := fun v6 hv => by
  obtain ⟨y7, e7, h7⟩ := Z1E hv
  simp only [Zp, e7, bS]
  cases y4.1 == 1
  .exact j22 _ _ hv
  .exact j22 _ _ h7
 simp only [e2, e3, e4, e5, bS]
 cases y4.1 == 0
 .exact j23 _ h4
 .exact j23 _ h5
theorem Z9C {α : Type} {l : List α} (h0 : 0 < l.length) (h : l.length <= 1048576) : ∃ x, idx l (w64 ((l.length : Int) - 1)) = some x := by
 rw [Z2h h0 (by omega), Z0t, yA (by omega)]
 exact ⟨_, rfl⟩
theorem Z6w (p : List Pt) : ∃ b, Zw p = some b /\ (b = true -> 1 <= p.length /\ p.length <= 200) := by
 unfold Zw
 by_cases h1 : p.length < 1
 .exact ⟨false, by simp [show ((p.length : Int) < 1) by omega], by simp⟩
 by_cases h2 : 200 < p.length
 .exact ⟨false, by simp [show ((200 : Int) < p.length) by omega], by simp⟩
 have e1 : decide ((p.length : Int) < 1) = false := by simp; omega
 have e2 : decide ((200 : Int) < (p.length : Int)) = false := by simp; omega
 obtain ⟨p0, hp0⟩ : ∃ p0, p[0]? = some p0 := ⟨_, yA (by omega)⟩
 rw [e1, e2]
 simp only [Bool.or_self, cond_false, Bool.false_or, show idx p 0 = some p0 from by rw [← hp0]; exact Z0t (i := 0), bS]
 cases p0.t != 0 with
 | true => exact ⟨false, rfl, by simp⟩
 | false =>
 simp only [cond_false]
 refine Z0M (fun _ (_ : Unit) => True) (fun r => ∃ b, r = some b /\ (b = true -> 1 <= p.length /\ p.length <= 200)) (fun i x _ k hi _ hk => ?_) (fun _ _ => ⟨true, rfl, fun _ => by omega⟩) trivial
 have hil := (yB hi).1
 unfold Z0L
 cases (!(Zf x.t)) || (!(Z4 x.free)) with
 | true => exact ⟨false, rfl, by simp⟩
 | false =>
 simp only [cond_false, Bool.false_or]
 by_cases h0 : 0 < i
 .have e0 : decide ((0 : Int) < (i : Int)) = true := by simp; omega
  obtain ⟨y, hy⟩ : ∃ y, idx p (w64 ((i : Int) - 1)) = some y := by
   rw [Z2h h0 (by omega), Z0t, yA (by omega)]; exact ⟨_, rfl⟩
  simp only [e0, cond_true, hy, bS, Bool.true_and]
  cases decide (x.t <= y.t) with
  | true => exact ⟨false, rfl, by simp⟩
  | false =>
   simp only [cond_false, bS, Bool.false_or]
   cases (y.free.a == x.free.a && (y.free.b == x.free.b && (y.free.c == x.free.c && true))) with
   | true => exact ⟨false, rfl, by simp⟩
   | false => exact hk () trivial
 .have e0 : decide ((0 : Int) < (i : Int)) = false := by simp; omega
  simp only [e0, cond_false, bS, Bool.false_and]
  exact hk () trivial
theorem Z5F (p : List Pt) (t : Int) : ∃ v, Z0h p t = some v := by
 unfold Z0h
 refine Z0M (fun _ (_ : Vec) => True) (fun r => ∃ v, r = some v) (fun i x b k hi _ hk => ?_) (fun b _ => ⟨b, rfl⟩) trivial
 unfold Z10
 cases decide (x.t <= t) <;> exact hk _ trivial
theorem Z8J (p : List Pt) (a b : Int) : ∃ r, ZY p a b = some r := by
 unfold ZY
 obtain ⟨q, e, _⟩ := Z6w p
 obtain ⟨v, ev⟩ := Z5F p a
 simp only [e, ev, bS]
 cases ((((!q) || (!(Zf a))) || (!(Zf b))) || (decide (b <= a))) with
 | true => exact ⟨_, rfl⟩
 | false =>
  simp only [cond_false]
  refine Z0M (fun _ (_ : Vec) => True) (fun r => ∃ v, r = some v) (fun i x b' k hi _ hk => ?_) (fun b _ => ⟨_, rfl⟩) trivial
  unfold Z0w
  cases (decide (a <= x.t) && decide (x.t < b)) <;> exact hk _ trivial
theorem Z8c {p : List Pt} (h : p.length <= 200) (a b : Int) : ∃ l, ZN p a b = some l /\ l.length <= 1000 := by
 unfold ZN
 refine Z0M (fun i (v : List Int) => v.length = i) (fun (r : Option (List Int)) => ∃ l, r = some l /\ l.length <= 1000) (fun i x v k hi hv hk => ?_) (fun v hv => ?_) rfl
 .have hil := (yB hi).1
  unfold ZS
  rw [Zy (by simp; omega), bS]
  exact hk _ (by simp [hv])
 .unfold ZD
  refine Z0M (fun i (v : List Int) => v.length + 1 <= 201 * 2 ^ i) (fun (r : Option (List Int)) => ∃ l, r = some l /\ l.length <= 1000) (fun i x w k hi hw hk => ?_) (fun w hw => ⟨w, rfl, by simp at hw; omega⟩) (by simp; omega)
  have hil : i < 2 := (yB hi).1
  have h2 : 201 * 2 ^ i <= 402 := by
   have : i = 0 \/ i = 1 := by omega
   rcases this with rfl | rfl <;> simp
  unfold ZR
  refine Z0M (fun j (v : Bool × List Int) => v.2.length <= 2 * j) (fun (r : Option (List Int)) => ∃ l, r = some l /\ l.length <= 1000) (fun j y v k' hj hv hk' => ?_) (fun v hv => ?_) (by simp)
  .have hjl := (yB hj).1
   have j43 : ∀ u : Bool × List Int, u.2.length <= 2 * j + 1 -> ∃ l, Zg x y k' u = some l /\ l.length <= 1000 := fun u hu => by
    unfold Zg
    cases y != x with
    | true => simp only [cond_true]; rw [Zy (by simp; omega), bS]; exact hk' _ (by simp; omega)
    | false => exact hk' _ (by simp; omega)
   unfold Z0g
   cases ((!v.1) && decide (x <= y)) with
   | true => simp only [cond_true]; rw [Zy (by simp; omega), bS]; exact j43 _ (by simp; omega)
   | false => exact j43 _ (by simp; omega)
  .unfold Z0f
   have e2 : 201 * 2 ^ (i + 1) = 2 * (201 * 2 ^ i) := by rw [Nat.pow_succ]; omega
   cases !v.1 with
   | true => simp only [cond_true]; rw [Zy (by simp; omega), bS]; exact hk _ (by rw [e2]; simp; omega)
   | false => exact hk _ (by rw [e2]; omega)
theorem Z7e {p : List Pt} (h : p.length <= 200) (a b : Int) (v : Vec) (ad : Bool) : ∃ r, Z0o p a b v ad = some r /\ (r.2 = true -> 1 <= r.1.length /\ r.1.length <= 200) := by
 unfold Z0o
 obtain ⟨T, eT, hT⟩ := Z8c h a b
 rw [eT, bS]
 refine Z0M (fun i (q : List Pt) => q.length <= i) (fun (r : Option (List Pt × Bool)) => ∃ q, r = some q /\ (q.2 = true -> 1 <= q.1.length /\ q.1.length <= 200)) (fun i x q k hi hq hk => ?_) (fun q hq => ?_) (by simp)
 .have hil := (yB hi).1
  have j34 : ∀ w : Vec, ∃ r, Zr q x k w = some r /\ (r.2 = true -> 1 <= r.1.length /\ r.1.length <= 200) := fun w => by
   unfold Zr
   by_cases h0 : q.length = 0
   .have e0 : ((q.length : Int) == 0) = true := by simp [h0]
    simp only [e0, cond_true, bS, Bool.true_or]
    rw [Zy (by simp; omega), bS]
    exact hk _ (by simp; omega)
   .have e0 : ((q.length : Int) == 0) = false := beq_eq_false_iff_ne.2 (by omega)
    obtain ⟨y, hy⟩ := Z9C (l := q) (by omega) (by have : q.length <= i := hq; omega)
    simp only [e0, cond_false, hy, bS, Bool.false_or]
    cases !(y.free.a == w.a && (y.free.b == w.b && (y.free.c == w.c && true))) with
    | true => simp only [cond_true]; rw [Zy (by simp; omega), bS]; exact hk _ (by simp; omega)
    | false => exact hk _ (Nat.le_succ_of_le hq)
  have j22 : ∀ w : Vec × Bool, ∃ r, Zs q x k w = some r /\ (r.2 = true -> 1 <= r.1.length /\ r.1.length <= 200) := fun w => by
   unfold Zs
   cases !w.2 with
   | true => exact ⟨_, rfl, by simp⟩
   | false => exact j34 _
  unfold Z0G
  obtain ⟨y, ey⟩ := Z5F p x
  rw [ey, bS]
  cases (decide (a <= x) && decide (x < b)) with
  | false => exact j34 _
  | true => cases ad <;> exact j22 _
 .unfold Z0F
  obtain ⟨c, ec, hc⟩ := Z6w q
  rw [ec, bS]
  cases c with
  | true => exact ⟨_, rfl, fun _ => hc rfl⟩
  | false => exact ⟨_, rfl, by simp⟩
theorem Z7Y {p : List Pt} (h : p.length <= 200) (a b : Int) (v : Vec) : ∃ r, Z0J p a b v = some r /\ (r.2 = true -> 1 <= r.1.length /\ r.1.length <= 200) := by
 unfold Z0J
 obtain ⟨y, ey⟩ := Z8J p a b
 obtain ⟨z, ez, hz⟩ := Z7e h a b v false
 simp only [ey, ez, bS]
 cases !y.2 with
 | true => exact ⟨_, rfl, by simp⟩
 | false => exact ⟨_, rfl, hz⟩
theorem Z8R {c : l01Cur} (h : CurP c) : ∃ r, Z0n c = some r /\ CurP r.2 /\ 1 <= r.1.length /\ r.1.length <= 200 := by
 unfold Z0n
 obtain ⟨y2, e2, n0, n1, h2⟩ := Z6 h (n := 6) (by omega)
 rw [e2, bS]
 refine Z8B (fun (_ : l01Cur × Int × List Pt) (r : Option (List Pt × l01Cur)) => ∃ q, r = some q /\ CurP q.2 /\ 1 <= q.1.length /\ q.1.length <= 200) (fun b => b.2.1.toNat) (fun b => CurP b.1 /\ 0 <= b.2.1 /\ b.2.1 <= 5 /\ 1 <= b.2.2.length /\ b.2.2.length <= 200)
  (fun b k hI hk => ?_) _ _ ⟨h2, n0, by simp only; omega, show 1 <= (Z0c (Vec.mk 8 16 2)).1.length by decide, show (Z0c (Vec.mk 8 16 2)).1.length <= 200 by decide⟩ (by simp only; omega)
 obtain ⟨hc, b0, b5, l1, l2⟩ := hI
 unfold Z0E
 by_cases hb : 0 < b.2.1
 .obtain ⟨y4, e4, _, _, h4⟩ := Z6 hc (n := 60) (by omega)
  obtain ⟨y5, e5, _, _, h5⟩ := Z6 h4 (n := 40) (by omega)
  obtain ⟨y6, e6, _, _, h6⟩ := Z6 h5 (n := 4) (by omega)
  obtain ⟨y7, e7, _, _, h7⟩ := Z6 h6 (n := 6) (by omega)
  obtain ⟨y8, e8, _, _, h8⟩ := Z6 h7 (n := 2) (by omega)
  obtain ⟨y9, e9, h9⟩ := Z7Y l2 y4.1 (w64 ((w64 (y4.1 + 1)) + y5.1)) (Vec.mk y6.1 y7.1 y8.1)
  have ew : w64 (b.2.1 - 1) = b.2.1 - 1 := Z1P (by omega)
  simp only [hb, decide_true, cond_true, e4, e5, e6, e7, e8, e9, bS, ew]
  cases hy : y9.2 with
  | true => exact hk _ ⟨h8, by simp only; omega, by simp only; omega, h9 hy⟩ (by simp only; omega)
  | false => exact hk _ ⟨h8, by simp only; omega, by simp only; omega, l1, l2⟩ (by simp only; omega)
 .simp only [hb, decide_false, cond_false]
  exact ⟨_, rfl, hc, l1, l2⟩
theorem Za2 {c : l01Cur} (h : CurP c) : ∃ r, Z0H c = some r /\ CurP r.2 /\ r.1.length <= 201 := by
 unfold Z0H
 obtain ⟨y2, e2, h2, l1, l2⟩ := Z8R h
 obtain ⟨y3, e3, _, _, h3⟩ := Z6 h2 (n := 12) (by omega)
 have j27 : ∀ (v12 : l01Cur × List Pt) (v15 : List Pt), CurP v12.1 -> v15.length <= 201 -> ∃ r, ZG y3 v12 v15 = some r /\ CurP r.2 /\ r.1.length <= 201 := fun v12 v15 hc hl => by
  simp only [ZG, ZT]
  cases y3.1 == 3
  .exact ⟨_, rfl, hc, hl⟩
  .exact ⟨_, rfl, hc, by simp⟩
 have j28 : ∀ v12 : l01Cur × List Pt, CurP v12.1 -> v12.2.length = y2.1.length -> ∃ r, ZF y2 y3 v12 = some r /\ CurP r.2 /\ r.1.length <= 201 := fun v12 hc hl => by
  unfold ZF
  cases y3.1 == 2 with
  | false => exact j27 _ _ hc (by omega)
  | true =>
   obtain ⟨x, hx⟩ := Z9C (l := v12.2) (by omega) (by omega)
   rw [hl] at hx
   simp only [cond_true, hx, bS]
   rw [Zy (by simp; omega), bS]
   exact j27 _ _ hc (by simp; omega)
 have j29 : ∀ v8 : l01Cur × List Pt, CurP v8.1 -> v8.2.length = y2.1.length -> ∃ r, ZE y2 y3 v8 = some r /\ CurP r.2 /\ r.1.length <= 201 := fun v8 hc hl => by
  unfold ZE
  cases y3.1 == 1 with
  | false => exact j28 _ hc hl
  | true =>
   obtain ⟨y9, e9, q0, q1, h9⟩ := Z6 hc (n := (y2.1.length : Int)) (by omega)
   obtain ⟨y10, e10, h10⟩ := Z6C h9
   obtain ⟨x, hx, _⟩ := Z7w (l := v8.2) q0 (by omega)
   simp only [cond_true, e9, e10, hx, bS]
   exact j28 _ h10 (by simp [hl])
 simp only [e2, e3, bS]
 cases y3.1 == 0 with
 | false => exact j29 _ h3 rfl
 | true =>
  obtain ⟨y5, e5, q0, q1, h5⟩ := Z6 h3 (n := (y2.1.length : Int)) (by omega)
  obtain ⟨y6, e6, h6⟩ := Z1E h5
  obtain ⟨x, hx, _⟩ := Z7w (l := y2.1) q0 (by omega)
  simp only [cond_true, e5, e6, hx, bS]
  exact j29 _ h6 (by simp)
theorem Z7D {bs : List Int} (h : bs.length <= 1048576) : ∃ r, Z0q bs = some r /\ r.1.length <= 201 := by
 unfold Z0q
 obtain ⟨c, ec, hc⟩ := Za4 h
 obtain ⟨y3, e3, h3, hl⟩ := Za2 hc
 obtain ⟨y4, e4, h4⟩ := Za1 h3
 obtain ⟨y5, e5, h5⟩ := Z8Q h4
 simp only [ec, e3, e4, e5, bS]
 exact ⟨_, rfl, hl⟩
def addH (l : List Hole) (h : Hole) : List Hole := match l[l.length - 1]? with
 | some q => if q.b = h.a then l.set (l.length - 1) ⟨q.a, h.b⟩ else l ++ [h]
 | none => l ++ [h]
def endOf (b : Int) : List Pt -> Int
 | [] => b
 | y :: _ => min b y.t
def ZZ (v : Vec) (a b : Int) : List Pt -> List Hole -> List Hole
 | [], out => out
 | x :: r, out => ZZ v a b r (if max a x.t < endOf b r /\ Z5 v x.free = true then addH out ⟨max a x.t, endOf b r⟩ else out)
theorem Z7H (l : List Hole) (h : Hole) : (addH l h).length <= l.length + 1 := by
 unfold addH; split
 .split <;> simp
 .simp
theorem j35_eq {v : Vec} {a : Int} {out : List Hole} (hl : out.length <= 1000) {x : Pt} {e : Int} {k : List Hole -> Option (List Hole)} :
  ZQ v a out x k e = k (if max a x.t < e /\ Z5 v x.free = true then addH out ⟨max a x.t, e⟩ else out) := by
 unfold ZQ
 by_cases h1 : max a x.t < e /\ Z5 v x.free = true
 rotate_left
 .rw [if_neg h1]
  have : (decide (e <= max a x.t) || !(Z5 v x.free)) = true := by
   cases hf : Z5 v x.free with
   | false => simp
   | true =>
    have : ¬ max a x.t < e := fun q => h1 ⟨q, hf⟩
    simp; omega
  rw [this]; rfl
 have e0 : (decide (e <= max a x.t) || !(Z5 v x.free)) = false := by rw [h1.2]; simp; omega
 rw [if_pos h1, e0, cond_false]
 unfold addH
 by_cases h0 : 0 < out.length
 .have ed : decide ((0 : Int) < (out.length : Int)) = true := by simp; omega
  have ei : idx out (w64 ((out.length : Int) - 1)) = some out[out.length - 1] := by
   rw [Z2h h0 (by omega), Z0t, yA (by omega)]
  have en : (w64 ((out.length : Int) - 1)).toNat = out.length - 1 := by rw [Z2h h0 (by omega)]; simp
  rw [ed, cond_true, ei, bS, Bool.true_and, yA (by omega : out.length - 1 < out.length)]
  simp only [en, bS]
  by_cases hq : out[out.length - 1].b = max a x.t
  .rw [if_pos hq, show (out[out.length - 1].b == max a x.t) = true by simp [hq]]; rfl
  .rw [if_neg hq, show (out[out.length - 1].b == max a x.t) = false by simp [hq], cond_false, Zy (by simp; omega)]; rfl
 .have hn : out = [] := List.eq_nil_of_length_eq_zero (by omega)
  subst hn
  simp [appL]
theorem Z7v {v : Vec} {a b : Int} {p : List Pt} (hp : p.length <= 900) : rgl (Zz p v a b) Z09 p 0 [] = some (ZZ v a b p []) := by
 have key : ∀ (n i : Nat) (out : List Hole), p.length - i = n -> i <= p.length -> out.length <= i -> rgl (Zz p v a b) Z09 (p.drop i) i out = some (ZZ v a b (p.drop i) out) := by
  intro n
  induction n with
  | zero =>
   intro i out hn hi hl
   have : i = p.length := by omega
   subst this
   rw [List.drop_length]; rfl
  | succ n ih =>
   intro i out hn hi hl
   have h1 : i < p.length := by omega
   rw [List.drop_eq_getElem_cons h1, rgl, ZZ]
   have he : (if h : i + 1 < p.length then min b p[i + 1].t else b) = endOf b (p.drop (i + 1)) := by
    split
    .rename_i h; rw [List.drop_eq_getElem_cons h]; rfl
    .rename_i h; rw [List.drop_eq_nil_of_le (by omega)]; rfl
   have hk : Zz p v a b p[i] i out (rgl (Zz p v a b) Z09 (p.drop (i + 1)) (i + 1)) =
     ZQ v a out p[i] (rgl (Zz p v a b) Z09 (p.drop (i + 1)) (i + 1)) (endOf b (p.drop (i + 1))) := by
    unfold Zz
    rw [← he]
    by_cases h : i + 1 < p.length
    .have : decide (((i + 1 : Nat) : Int) < (p.length : Int)) = true := by simp; omega
     rw [this, cond_true, Z0t, yA h, bS, dif_pos h]
    .have : decide (((i + 1 : Nat) : Int) < (p.length : Int)) = false := by simp; omega
     rw [this, cond_false, dif_neg h]
   rw [hk, j35_eq (by omega)]
   refine ih (i + 1) _ (by omega) (by omega) ?_
   split
   .have := Z7H out ⟨max a p[i].t, endOf b (p.drop (i + 1))⟩; omega
   .omega
 simpa using key p.length 0 [] (by simp) (by omega) (by simp)
def Z0U (l : List Pt) (t : Int) : Vec := l.foldl (fun v x => if x.t <= t then x.free else v) ⟨0, 0, 0⟩
def insGo (t : Int) : List Int -> Bool -> List Int
 | [], d => if d = true then [] else [t]
 | x :: l, d => (if d = false /\ t <= x then [t] else []) ++ (if x ≠ t then [x] else []) ++ insGo t l (d || decide (t <= x))
def ins (t : Int) (l : List Int) : List Int := insGo t l false
def Z06 (l : List Pt) (a b : Int) : List Int := ins b (ins a (l.map Pt.t))
theorem Z8f (t : Int) (d : Bool) : insGo t [] d = if d = true then [] else [t] := rfl
theorem Z2c (t x : Int) (l : List Int) (d : Bool) : insGo t (x :: l) d = (if d = false /\ t <= x then [t] else []) ++ (if x ≠ t then [x] else []) ++ insGo t l (d || decide (t <= x)) := rfl
theorem Z4n (t : Int) : ∀ l : List Int, insGo t l true = l.filter (fun x => decide (x ≠ t))
 | [] => rfl
 | x :: l => by
  rw [Z2c, Bool.true_or, Z4n t l]
  by_cases h : x = t <;> simp [h]
theorem Z8g (t : Int) : ∀ (l : List Int) (d : Bool), (insGo t l d).length <= l.length + 1
 | [], d => by rw [Z8f]; split <;> simp
 | x :: l, d => by
  by_cases h : d = false /\ t <= x
  .have := List.length_filter_le (fun x => decide (x ≠ t)) l
   rw [Z2c, if_pos h, show (d || decide (t <= x)) = true by simp [h.2], Z4n]
   split <;> simp only [List.length_append, List.length_cons, List.length_nil] <;> omega
  .have := Z8g t l (d || decide (t <= x))
   rw [Z2c, if_neg h]
   split <;> simp only [List.length_append, List.length_cons, List.length_nil] <;> omega
theorem Z8U (t : Int) (l : List Int) : (ins t l).length <= l.length + 1 := Z8g t l false
def ptUp (x y : Pt) : Prop := x.t < y.t
theorem Z6L {α β : Type} (f : β -> α -> β) (z : β) : ∀ (l : List α), (∀ x ∈ l, ∀ v, f v x = v) -> l.foldl f z = z
 | [], _ => rfl
 | x :: l, h => by rw [List.foldl_cons, h x (by simp), Z6L f z l fun y hy => h y (by simp [hy])]
theorem Z2T {l pre r : List Pt} {x : Pt} {t : Int} (hl : l = pre ++ x :: r) (hx : x.t <= t) (hr : ∀ y ∈ r, t < y.t) : Z0U l t = x.free := by
 subst hl
 unfold Z0U
 rw [List.foldl_append, List.foldl_cons, if_pos hx]
 refine Z6L _ _ _ fun y hy v => if_neg ?_
 have := hr y hy; omega
abbrev up (x y : Int) : Prop := x < y
theorem Z9B {t : Int} {l : List Int} (h : l.Pairwise up) : ins t l = l.filter (fun x => decide (x < t)) ++ t :: l.filter (fun x => decide (t < x)) := by
 unfold ins
 induction l with
 | nil => rfl
 | cons x l ih =>
  rw [List.pairwise_cons] at h
  rw [Z2c]
  by_cases hx : t <= x
  .have e1 : ∀ y ∈ l, t < y := fun y hy => by have := h.1 y hy; unfold up at this; omega
   have f1 : l.filter (fun x => decide (x < t)) = [] := List.filter_eq_nil_iff.2 fun y hy => by have := e1 y hy; simp; omega
   have f2 : l.filter (fun x => decide (t < x)) = l := List.filter_eq_self.2 fun y hy => by simpa using e1 y hy
   have f3 : l.filter (fun x => decide (x ≠ t)) = l := List.filter_eq_self.2 fun y hy => by have := e1 y hy; simp; omega
   rw [show (false || decide (t <= x)) = true by simp [hx], Z4n, if_pos ⟨rfl, hx⟩, List.filter_cons, List.filter_cons, f1, f2, f3]
   by_cases e : x = t
   .simp [e]
   .have : t < x := by omega
    have : ¬ x < t := by omega
    simp [*]
  .have hx' : x < t := by omega
   have hx2 : ¬ t < x := by omega
   have hx3 : x ≠ t := by omega
   rw [if_neg (fun q => hx q.2), if_pos hx3, show (false || decide (t <= x)) = false by simp [hx], ih h.2, List.filter_cons, List.filter_cons]
   simp [hx', hx2]
theorem ZaO {t x : Int} {l : List Int} (h : l.Pairwise up) : x ∈ ins t l ↔ x = t \/ x ∈ l := by
 rw [Z9B h]
 simp only [List.mem_append, List.mem_filter, decide_eq_true_eq, List.mem_cons]
 constructor
 .rintro (h | h | h)
  .exact .inr h.1
  .exact .inl h
  .exact .inr h.1
 .rintro (h | h)
  .exact .inr (.inl h)
  .rcases Int.lt_trichotomy x t with q | q | q
   .exact .inl ⟨h, q⟩
   .exact .inr (.inl q)
   .exact .inr (.inr ⟨h, q⟩)
theorem Z9A {t : Int} {l : List Int} (h : l.Pairwise up) : (ins t l).Pairwise up := by
 rw [Z9B h, List.pairwise_append]
 refine ⟨h.filter _, List.pairwise_cons.2 ⟨fun y hy => ?_, h.filter _⟩, fun x hx y hy => ?_⟩
 .simpa using (List.mem_filter.1 hy).2
 .have h1 : x < t := by simpa using (List.mem_filter.1 hx).2
  rcases List.mem_cons.1 hy with rfl | hy
  .exact h1
  .have : t < y := by simpa using (List.mem_filter.1 hy).2
   show x < y
   omega
theorem Z9Q {l : List Pt} (h : l.Pairwise ptUp) : (l.map Pt.t).Pairwise up := by
 rw [List.pairwise_map]; exact h
theorem Z7X {l : List Pt} {a b : Int} (h : l.Pairwise ptUp) (hab : a < b) : Z06 l a b =
  (l.map Pt.t).filter (fun x => decide (x < a)) ++ a :: ((l.map Pt.t).filter (fun x => decide (a < x) && decide (x < b)) ++ b :: (l.map Pt.t).filter (fun x => decide (b < x))) := by
 have hs := Z9Q h
 unfold Z06
 generalize l.map Pt.t = L at hs ⊢
 rw [Z9B (Z9A hs), Z9B hs]
 simp only [List.filter_append, List.filter_cons, List.filter_filter]
 have e1 : decide (a < b) = true := by simpa using hab
 have e2 : decide (b < a) = false := by simp; omega
 rw [e1, e2]
 have g1 : L.filter (fun x => decide (x < b) && decide (x < a)) = L.filter (fun x => decide (x < a)) := List.filter_congr fun x _ => by
  by_cases q : x < a
  .have : x < b := by omega
   simp [*]
  .simp [q]
 have g2 : L.filter (fun x => decide (b < x) && decide (x < a)) = [] := List.filter_eq_nil_iff.2 fun x _ => by simp; omega
 have g3 : L.filter (fun x => decide (b < x) && decide (a < x)) = L.filter (fun x => decide (b < x)) := List.filter_congr fun x _ => by
  by_cases q : b < x
  .have : a < x := by omega
   simp [*]
  .simp [q]
 have g4 : L.filter (fun x => decide (x < b) && decide (a < x)) = L.filter (fun x => decide (a < x) && decide (x < b)) := List.filter_congr fun x _ => Bool.and_comm _ _
 rw [g1, g2, g3, g4]
 simp
theorem Z7W {l : List Pt} {a b : Int} (h : l.Pairwise ptUp) : (Z06 l a b).Pairwise up := Z9A (Z9A (Z9Q h))
theorem Z7b {l : List Pt} {a b x : Int} (h : l.Pairwise ptUp) : x ∈ Z06 l a b ↔ x = b \/ x = a \/ x ∈ l.map Pt.t := by
 unfold Z06
 rw [ZaO (Z9A (Z9Q h)), ZaO (Z9Q h)]
theorem Z74 (l : List Pt) (a b : Int) : (Z06 l a b).length <= l.length + 2 := by
 have := Z8U b (ins a (l.map Pt.t)); have := Z8U a (l.map Pt.t)
 unfold Z06
 simp at *; omega
def Z07 (v : Vec) (l : List Pt) (a b : Int) : List Int -> List Hole -> List Hole
 | t :: t' :: r, out => Z07 v l a b (t' :: r) (if a <= t /\ t < b /\ Z5 v (Z0U l t) = true then addH out ⟨t, t'⟩ else out)
 | _, out => out
theorem Z2u {v : Vec} {a b : Int} : ∀ {l : List Pt} (out : List Hole), (∀ x ∈ l, b <= x.t) -> ZZ v a b l out = out
 | [], out, _ => rfl
 | x :: r, out, h => by
  have hx := h x (by simp)
  have he : endOf b r <= b := by cases r <;> simp only [endOf] <;> omega
  rw [ZZ, if_neg (fun q => by omega), Z2u out fun y hy => h y (by simp [hy])]
theorem Z4G {v : Vec} {l : List Pt} {a b : Int} (t : Int) (r : List Int) (out : List Hole) : ∀ (L : List Int), (∀ x ∈ L, x < a) -> Z07 v l a b (L ++ t :: r) out = Z07 v l a b (t :: r) out
 | [], _ => rfl
 | [x], h => by
  have := h x (by simp)
  show Z07 v l a b (x :: t :: r) out = _
  rw [Z07, if_neg (fun q => by omega)]
 | x :: y :: L, h => by
  have := h x (by simp)
  show Z07 v l a b (x :: y :: (L ++ t :: r)) out = _
  rw [Z07, if_neg (fun q => by omega)]
  exact Z4G t r out (y :: L) fun z hz => h z (by simp [hz])
theorem Z0P {v : Vec} {l : List Pt} {a b : Int} (out : List Hole) : ∀ (L : List Int), (∀ x ∈ L, b <= x) -> Z07 v l a b L out = out
 | [], _ => rfl
 | [x], h => rfl
 | x :: y :: L, h => by
  have := h x (by simp)
  rw [Z07, if_neg (fun q => by omega)]
  exact Z0P out (y :: L) fun z hz => h z (by simp [hz])
theorem Z9E {v : Vec} {l : List Pt} {a b : Int} (R : List Int) (hR : ∀ x ∈ R, b < x) : ∀ (s : List Pt) (pre : List Pt) (y : Pt) (out : List Hole), l = pre ++ y :: s -> (y :: s).Pairwise ptUp -> a < y.t -> y.t < b ->
  Z07 v l a b (y.t :: ((s.map Pt.t).filter (fun x => decide (x < b)) ++ b :: R)) out = ZZ v a b (y :: s) out
 | [], pre, y, out, hl, hs, h1, h2 => by
  have hp : Z0U l y.t = y.free := Z2T hl (Int.le_refl _) (fun z hz => by simp at hz)
  show Z07 v l a b (y.t :: b :: R) out = _
  rw [Z07, hp, Z0P _ _ (by intro x hx; rcases List.mem_cons.1 hx with rfl | hx; exact Int.le_refl _; exact Int.le_of_lt (hR x hx))]
  have hm : max a y.t = y.t := by omega
  have h3 : a <= y.t := by omega
  simp only [ZZ, endOf, hm, h2, h3, true_and]
 | z :: s, pre, y, out, hl, hs, h1, h2 => by
  rw [List.pairwise_cons] at hs
  have hyz : y.t < z.t := hs.1 z (by simp)
  have hp : Z0U l y.t = y.free := Z2T hl (Int.le_refl _) (fun w hw => hs.1 w hw)
  have hm : max a y.t = y.t := by omega
  have h3 : a <= y.t := by omega
  by_cases hz : z.t < b
  .have hz' : min b z.t = z.t := by omega
   rw [List.map_cons, List.filter_cons, if_pos (by simpa using hz), List.cons_append, Z07, hp, Z9E R hR s (pre ++ [y]) z _ (by rw [hl]; simp) hs.2 (by omega) hz]
   show _ = ZZ v a b (z :: s) (if max a y.t < min b z.t /\ Z5 v y.free = true then addH out ⟨max a y.t, min b z.t⟩ else out)
   simp only [hm, hz', hyz, h2, h3, true_and]
  .have hz' : min b z.t = b := by omega
   have hf : ((z :: s).map Pt.t).filter (fun x => decide (x < b)) = [] := List.filter_eq_nil_iff.2 fun w hw => by
    obtain ⟨u, hu, rfl⟩ := List.mem_map.1 hw
    rcases List.mem_cons.1 hu with rfl | hu
    .simpa using hz
    .have : z.t < u.t := (List.pairwise_cons.1 hs.2).1 u hu
     simp; omega
   rw [hf, List.nil_append, Z07, hp, Z0P _ _ (by intro x hx; rcases List.mem_cons.1 hx with rfl | hx; exact Int.le_refl _; exact Int.le_of_lt (hR x hx))]
   show _ = ZZ v a b (z :: s) (if max a y.t < min b z.t /\ Z5 v y.free = true then addH out ⟨max a y.t, min b z.t⟩ else out)
   rw [Z2u _ fun w hw => by
    rcases List.mem_cons.1 hw with rfl | hw
    .omega
    .have : z.t < w.t := (List.pairwise_cons.1 hs.2).1 w hw
     omega]
   simp only [hm, hz', h2, h3, true_and]
theorem Z6F {v : Vec} {l : List Pt} {a b : Int} (hab : a < b) (R : List Int) (hR : ∀ x ∈ R, b < x) : ∀ (s : List Pt) (pre : List Pt) (y : Pt) (out : List Hole), l = pre ++ y :: s -> (y :: s).Pairwise ptUp -> y.t <= a ->
  Z07 v l a b (a :: ((s.map Pt.t).filter (fun x => decide (a < x) && decide (x < b)) ++ b :: R)) out = ZZ v a b (y :: s) out
 | [], pre, y, out, hl, hs, h1 => by
  have hp : Z0U l a = y.free := Z2T hl h1 (fun z hz => by simp at hz)
  show Z07 v l a b (a :: b :: R) out = _
  rw [Z07, hp, Z0P _ _ (by intro x hx; rcases List.mem_cons.1 hx with rfl | hx; exact Int.le_refl _; exact Int.le_of_lt (hR x hx))]
  have hm : max a y.t = a := by omega
  simp only [ZZ, endOf, hm, hab, Int.le_refl, true_and]
 | z :: s, pre, y, out, hl, hs, h1 => by
  rw [List.pairwise_cons] at hs
  have hm : max a y.t = a := by omega
  have hgt : ∀ w ∈ s, z.t < w.t := (List.pairwise_cons.1 hs.2).1
  show _ = ZZ v a b (z :: s) (if max a y.t < min b z.t /\ Z5 v y.free = true then addH out ⟨max a y.t, min b z.t⟩ else out)
  by_cases hz : z.t <= a
  .rw [List.map_cons, List.filter_cons, if_neg (by simp; omega), Z6F hab R hR s (pre ++ [y]) z out (by rw [hl]; simp) hs.2 hz]
   rw [if_neg (fun q => by omega)]
  .have hp : Z0U l a = y.free := Z2T hl h1 (fun w hw => by
    rcases List.mem_cons.1 hw with rfl | hw
    .omega
    .have := hgt w hw; omega)
   have hf : ((z :: s).map Pt.t).filter (fun x => decide (a < x) && decide (x < b)) = ((z :: s).map Pt.t).filter (fun x => decide (x < b)) := List.filter_congr fun w hw => by
    obtain ⟨u, hu, rfl⟩ := List.mem_map.1 hw
    have : a < u.t := by
     rcases List.mem_cons.1 hu with rfl | hu
     .omega
     .have := hgt u hu; omega
    simp [this]
   rw [hf]
   by_cases hzb : z.t < b
   .have hz' : min b z.t = z.t := by omega
    rw [List.map_cons, List.filter_cons, if_pos (by simpa using hzb), List.cons_append, Z07, hp, Z9E R hR s (pre ++ [y]) z _ (by rw [hl]; simp) hs.2 (by omega) hzb]
    have h4 : a < z.t := by omega
    simp only [hm, hz', hab, h4, Int.le_refl, true_and]
   .have hz' : min b z.t = b := by omega
    have hf2 : ((z :: s).map Pt.t).filter (fun x => decide (x < b)) = [] := List.filter_eq_nil_iff.2 fun w hw => by
     obtain ⟨u, hu, rfl⟩ := List.mem_map.1 hw
     rcases List.mem_cons.1 hu with rfl | hu
     .simpa using hzb
     .have := hgt u hu
      simp; omega
    rw [hf2, List.nil_append, Z07, hp, Z0P _ _ (by intro x hx; rcases List.mem_cons.1 hx with rfl | hx; exact Int.le_refl _; exact Int.le_of_lt (hR x hx))]
    rw [Z2u _ fun w hw => by
     rcases List.mem_cons.1 hw with rfl | hw
     .omega
     .have := hgt w hw
      omega]
    simp only [hm, hz', hab, Int.le_refl, true_and]
theorem Z9y (p : List Pt) (t : Int) : Z0h p t = some (Z0U p t) := by
 unfold Z0h
 rw [Z7U (f := fun v (x : Pt) => if x.t <= t then x.free else v) (fun x _ i b k => by
  unfold Z10
  by_cases h : x.t <= t <;> simp [h])]
 rfl
theorem free_eq (p : List Pt) (t : Int) : Z18 p t = some (Z0U p t) := Z9y p t
theorem ZaU {out : List Hole} (hl : out.length <= 1000) (h : Hole) : Z0D out h = some (addH out h) := by
 unfold Z0D addH
 by_cases h0 : 0 < out.length
 .have ed : decide ((0 : Int) < (out.length : Int)) = true := by simp; omega
  have ew : w64 ((out.length : Int) - 1) = ((out.length - 1 : Nat) : Int) := Z2h h0 (by omega)
  rw [ed, cond_true, ew, Z0t, yA (by omega : out.length - 1 < out.length), bS, Bool.true_and]
  simp only [bS]
  by_cases hq : out[out.length - 1].b = h.a
  .have ec : cutL out none (some ((out.length - 1 : Nat) : Int)) = some (out.take (out.length - 1)) := by
    simp [cutL, blo, bhi]
   rw [if_pos hq, show (out[out.length - 1].b == h.a) = true by simp [hq], cond_true, ec, bS]
   rw [Zy (by simp; omega), bS, List.nil_append, Zy (by simp; omega), bS]
   congr 1
   rw [List.set_eq_take_append_cons_drop, if_pos (by omega), List.drop_eq_nil_of_le (by omega)]
  .rw [if_neg hq, show (out[out.length - 1].b == h.a) = false by simp [hq], cond_false, Zy (by simp; omega)]; rfl
 .have hn : out = [] := List.eq_nil_of_length_eq_zero (by omega)
  subst hn
  simp [appL]
theorem Zb1 {γ : Type} {x : Int} {k : List Int -> Option γ} {bd : Int -> Nat -> Bool × List Int -> ((Bool × List Int) -> Option γ) -> Option γ} {kk : Bool × List Int -> Option γ}
  (hbd : ∀ y i d acc k', acc.length <= 5000 -> bd y i (d, acc) k' = k' (d || decide (x <= y), acc ++ (if d = false /\ x <= y then [x] else []) ++ if y ≠ x then [y] else [])) (hkk : ∀ d acc, acc.length <= 5000 -> kk (d, acc) = k (acc ++ if d = true then [] else [x])) :
  ∀ (l : List Int) (i : Nat) (d : Bool) (acc : List Int), acc.length + 2 * l.length <= 4000 -> rgl bd kk l i (d, acc) = k (acc ++ insGo x l d)
 | [], i, d, acc, h => by rw [rgl, hkk d acc (by simp at h; omega), Z8f]
 | y :: l, i, d, acc, h => by
  rw [rgl, hbd y i d acc _ (by simp at h; omega), Zb1 hbd hkk l (i + 1) _ _ ?_, Z2c]
  .simp only [List.append_assoc]
  .simp only [List.length_append, List.length_cons] at h ⊢
   split <;> split <;> simp <;> omega
theorem Z8P {p : List Pt} (h : p.length <= 200) (a b : Int) : ZN p a b = some (Z06 p a b) := by
 have inner : ∀ (x : Int) (i : Nat) (v : List Int) (k : List Int -> Option (List Int)), v.length <= 1000 -> ZR x i v k = k (ins x v) := fun x i v k hv => by
  unfold ZR ins
  rw [Zb1 (x := x) (k := k) (fun y i d acc k' ha => ?_) (fun d acc ha => ?_) v 0 false [] (by simp; omega), List.nil_append]
  .have j43 : ∀ (u : Bool) (w : List Int), w.length <= 5001 -> Zg x y k' (u, w) = k' (u, w ++ if y ≠ x then [y] else []) := fun u w hw => by
    unfold Zg
    by_cases e : y = x
    .simp [e]
    .rw [show (y != x) = true by simp [e], cond_true, Zy (by simp; omega), if_pos e]; rfl
   unfold Z0g
   cases d with
   | true => simp only [Bool.not_true, Bool.false_and, cond_false]; rw [j43 _ _ (by omega)]; simp
   | false =>
    by_cases e : x <= y
    .simp only [e, decide_true, Bool.not_false, Bool.true_and, cond_true]
     rw [Zy (by simp; omega), bS, j43 _ _ (by simp; omega)]; simp
    .simp only [e, decide_false, Bool.not_false, Bool.true_and, cond_false]
     rw [j43 _ _ (by omega)]; simp
  .unfold Z0f
   cases d with
   | true => simp
   | false => simp only [Bool.not_false, cond_true]; rw [Zy (by simp; omega), bS]; simp
 unfold ZN
 have first : ∀ (l : List Pt) (i : Nat) (acc : List Int), acc.length + l.length <= 500 -> rgl ZS (ZD a b) l i acc = ZD a b (acc ++ l.map Pt.t) := by
  intro l
  induction l with
  | nil => intro i acc _; rw [rgl]; simp
  | cons x l ih =>
   intro i acc hl
   simp only [List.length_cons] at hl
   rw [rgl, ZS, Zy (by simp; omega), bS, ih _ _ (by simp; omega)]
   simp
 rw [first p 0 [] (by simp; omega), List.nil_append]
 unfold ZD Z06
 rw [rgl, inner _ _ _ _ (by simp; omega), rgl, inner _ _ _ _ (by have := Z8U a (p.map Pt.t); simp at this; omega), rgl]
 rfl
def time (t : Int) : Bool := decide (0 <= t) && decide (t <= 1000000000)
theorem Z1G (t : Int) : Zf t = time t := rfl
structure ProfP (p : List Pt) : Prop where
 pos : 0 < p.length
 le : p.length <= 200
 zero : ∀ x, p[0]? = some x -> x.t = 0
 ok : ∀ x ∈ p, time x.t = true /\ Z4 x.free = true
 asc : ∀ (i : Nat) (x y : Pt), p[i]? = some x -> p[i + 1]? = some y -> x.t < y.t /\ x.free ≠ y.free
theorem Z3t (p : List Pt) : Z0X p = Zw p := by
 have e : (!Z8 (p.length : Int) 1 200) = (decide ((p.length : Int) < 1) || decide (200 < (p.length : Int))) := by
  unfold Z8
  rw [Bool.eq_iff_iff]; simp
 unfold Z0X Zw
 rw [e]
 rfl
theorem vec_beq (a b : Vec) : (a.a == b.a && (a.b == b.b && (a.c == b.c && true))) = decide (a = b) := by
 cases a; cases b
 simp only [Vec.mk.injEq, Bool.and_true]
 rw [Bool.eq_iff_iff]
 simp
theorem Z0K (p : List Pt) : ∃ b, Zw p = some b /\ (b = true ↔ ProfP p) := by
 unfold Zw
 by_cases h1 : p.length < 1
 .exact ⟨false, by simp [show ((p.length : Int) < 1) by omega], Z2t fun h => by have := h.pos; omega⟩
 by_cases h2 : 200 < p.length
 .exact ⟨false, by simp [show ((200 : Int) < p.length) by omega], Z2t fun h => by have := h.le; omega⟩
 obtain ⟨p0, hp0⟩ : ∃ p0, p[0]? = some p0 := ⟨_, yA (by omega)⟩
 have e1 : decide ((p.length : Int) < 1) = false := by simp; omega
 have e2 : decide ((200 : Int) < (p.length : Int)) = false := by simp; omega
 rw [e1, e2]
 simp only [Bool.or_self, cond_false, Bool.false_or, show idx p 0 = some p0 from by rw [← hp0]; exact Z0t (i := 0), bS]
 by_cases h4 : p0.t = 0
 rotate_left
 .refine ⟨false, by rw [show (p0.t != 0) = true by simpa using h4]; rfl, Z2t fun h => h4 (h.zero _ hp0)⟩
 rw [h4]
 simp only [bne_self_eq_false, cond_false]
 refine Z0M (fun i (_ : Unit) => (∀ j x, j < i -> p[j]? = some x -> time x.t = true /\ Z4 x.free = true) /\ ∀ j x y, j + 1 < i -> p[j]? = some x -> p[j + 1]? = some y -> x.t < y.t /\ x.free ≠ y.free)
  (fun r => ∃ b, r = some b /\ (b = true ↔ ProfP p)) ?_ ?_ ⟨fun j x h => by omega, fun j x y h => by omega⟩
 .intro i x _ k hi hI hk
  have hil := (yB hi).1
  unfold Z0L
  rw [Z1G]
  cases ht : time x.t with
  | false => exact ⟨false, rfl, Z2t fun h => by have := (h.ok x (yE hi)).1; rw [ht] at this; cases this⟩
  | true =>
  cases hv : Z4 x.free with
  | false => exact ⟨false, rfl, Z2t fun h => by have := (h.ok x (yE hi)).2; rw [hv] at this; cases this⟩
  | true =>
  simp only [Bool.not_true, Bool.or_self, cond_false, Bool.false_or, vec_beq]
  have new1 : ∀ j y, j < i + 1 -> p[j]? = some y -> time y.t = true /\ Z4 y.free = true := by
   intro j y hj hy
   by_cases e : j = i
   .subst e; rw [hi] at hy; cases hy; exact ⟨ht, hv⟩
   .exact hI.1 j y (by omega) hy
  by_cases h0 : i = 0
  .subst h0
   simp only [Int.natCast_zero, Int.lt_irrefl, decide_false, cond_false, Bool.false_and]
   exact hk () ⟨new1, fun j x y h => by omega⟩
  .have hgt : decide ((0 : Int) < (i : Int)) = true := by simp; omega
   obtain ⟨q, hq⟩ : ∃ q, p[i - 1]? = some q := ⟨_, yA (by omega)⟩
   rw [hgt, Z2h (by omega) (by omega)]
   simp only [cond_true, Bool.true_and, Z0t, hq, bS]
   by_cases h5 : x.t <= q.t
   .simp only [h5, decide_true, cond_true, Bool.true_or]
    refine ⟨false, rfl, Z2t fun h => ?_⟩
    have := (h.asc (i - 1) q x hq (by rw [show i - 1 + 1 = i by omega]; exact hi)).1
    omega
   .simp only [h5, decide_false, cond_false, Bool.false_or, bS]
    by_cases h6 : q.free = x.free
    .simp only [h6, decide_true, cond_true]
     refine ⟨false, rfl, Z2t fun h => ?_⟩
     exact (h.asc (i - 1) q x hq (by rw [show i - 1 + 1 = i by omega]; exact hi)).2 h6
    .simp only [h6, decide_false, cond_false]
     refine hk () ⟨new1, fun j a b hj ha hb => ?_⟩
     by_cases e : j + 1 = i
     .have : j = i - 1 := by omega
      subst this
      rw [hq] at ha; cases ha
      rw [show i - 1 + 1 = i by omega, hi] at hb; cases hb
      exact ⟨by omega, h6⟩
     .exact hI.2 j a b (by omega) ha hb
 .intro _ hI
  refine ⟨true, rfl, fun _ => ⟨by omega, by omega, fun x hx => by rw [hp0] at hx; cases hx; exact h4, fun x hx => ?_, fun i x y hx hy => ?_⟩, fun _ => rfl⟩
  .obtain ⟨j, hj⟩ := List.getElem?_of_mem hx
   exact hI.1 j x (yB hj).1 hj
  .exact hI.2 i x y (yB hy).1 hx hy
theorem ProfP.lt {p : List Pt} (h : ProfP p) : ∀ (j i : Nat) (x y : Pt), i < j -> p[i]? = some x -> p[j]? = some y -> x.t < y.t := by
 intro j
 induction j with
 | zero => intro i x y hij; omega
 | succ j ih =>
  intro i x y hij hx hy
  obtain ⟨z, hz⟩ : ∃ z, p[j]? = some z := ⟨_, yA (by have := (yB hy).1; omega)⟩
  have h1 := (h.asc j z y hz hy).1
  by_cases e : i = j
  .subst e; rw [hz] at hx; cases hx; exact h1
  .have := ih i x z (by omega) hx hz
   omega
theorem Z9V (v : Vec) : ZK v = Z4 v := rfl
theorem Z7N (a b : Vec) : Z0b a b = Z5 a b := rfl
theorem Z9W {T : List Int} {b : Int} {i : Nat} (hs : T.Pairwise up) (hb : b ∈ T) (hi : i < T.length) (h : T[i] < b) : i + 1 < T.length := by
 obtain ⟨j, hj, rfl⟩ := List.getElem_of_mem hb
 rcases Nat.lt_trichotomy i j with q | q | q
 .omega
 .subst q; omega
 .have : T[j] < T[i] := List.pairwise_iff_getElem.1 hs j i hj hi q
  omega
theorem Z6G (v : Vec) (l : List Pt) (a b t t' : Int) (r : List Int) (out : List Hole) : Z07 v l a b (t :: t' :: r) out = Z07 v l a b (t' :: r) (if a <= t /\ t < b /\ Z5 v (Z0U l t) = true then addH out ⟨t, t'⟩ else out) := by rw [Z07]
theorem Z6X {v : Vec} {p : List Pt} {a b : Int} {T : List Int} (hT : T.length <= 900) (hs : T.Pairwise up) (hb : b ∈ T) : rgl (Z08 p v a b T) Z0p T 0 [] = some (Z07 v p a b T []) := by
 have key : ∀ (n i : Nat) (out : List Hole), T.length - i = n -> i <= T.length -> out.length <= i -> rgl (Z08 p v a b T) Z0p (T.drop i) i out = some (Z07 v p a b (T.drop i) out) := by
  intro n
  induction n with
  | zero =>
   intro i out hn hi hl
   have : i = T.length := by omega
   subst this
   rw [List.drop_length]; rfl
  | succ n ih =>
   intro i out hn hi hl
   have h1 : i < T.length := by omega
   rw [List.drop_eq_getElem_cons h1, rgl]
   have ih' := fun out => ih (i + 1) out (by omega) (by omega)
   generalize rgl (Z08 p v a b T) Z0p (T.drop (i + 1)) (i + 1) = k at ih' ⊢
   unfold Z08
   by_cases hin : a <= T[i] /\ T[i] < b
   .have h2 := Z9W hs hb h1 hin.2
    have e : (decide (a <= T[i]) && decide (T[i] < b)) = true := by simp [hin]
    rw [e, cond_true, Z9y, bS, Bool.true_and, List.drop_eq_getElem_cons h2, Z6G, Z7N]
    by_cases hf : Z5 v (Z0U p T[i]) = true
    .rw [hf, cond_true, Z0t, yA h2, bS, ZaU (by omega), bS, if_pos ⟨hin.1, hin.2, rfl⟩, ← List.drop_eq_getElem_cons h2]
     exact ih' _ (by have := Z7H out ⟨T[i], T[i + 1]⟩; omega)
    .rw [show Z5 v (Z0U p T[i]) = false by simpa using hf, cond_false, if_neg (fun q => by simp at q), ← List.drop_eq_getElem_cons h2]
     exact ih' _ (by omega)
   .have e : (decide (a <= T[i]) && decide (T[i] < b)) = false := by
     rw [Bool.eq_false_iff]; intro q; simp at q; exact hin q
    rw [e]
    simp only [cond_false, bS, Bool.false_and]
    rw [ih' _ (by omega)]
    by_cases h2 : i + 1 < T.length
    .rw [List.drop_eq_getElem_cons h2, Z6G, if_neg (fun q => hin ⟨q.1, q.2.1⟩)]
    .rw [List.drop_eq_nil_of_le (by omega)]; rfl
 simpa using key T.length 0 [] (by simp) (by omega) (by simp)
theorem ProfP.ups {p : List Pt} (h : ProfP p) : p.Pairwise ptUp := by
 refine List.pairwise_iff_getElem.2 fun i j hi hj hij => ?_
 exact h.lt j i _ _ hij (yA hi) (yA hj)
theorem Za8 {v : Vec} {l : List Pt} {a b : Int} (hp : ProfP l) (ha : 0 <= a) (hab : a < b) : Z07 v l a b (Z06 l a b) [] = ZZ v a b l [] := by
 have hup := hp.ups
 obtain ⟨x, r, rfl⟩ : ∃ x r, l = x :: r := by
  cases l with
  | nil => exact absurd hp.pos (by simp)
  | cons x r => exact ⟨x, r, rfl⟩
 have h0 : x.t = 0 := hp.zero x (by simp)
 have ha0 : x.t <= a := by omega
 rw [Z7X hup hab, Z4G _ _ _ _ fun y hy => by simpa using (List.mem_filter.1 hy).2]
 have e : ((x :: r).map Pt.t).filter (fun x => decide (a < x) && decide (x < b)) = (r.map Pt.t).filter (fun x => decide (a < x) && decide (x < b)) := by
  rw [List.map_cons, List.filter_cons, if_neg (by simp; omega)]
 rw [e]
 exact Z6F hab _ (fun y hy => by simpa using (List.mem_filter.1 hy).2) r [] x [] rfl hup ha0
def AskH (p : List Pt) (v : Vec) (a b : Int) : Prop := ProfP p /\ time a = true /\ time b = true /\ a < b /\ Z4 v = true
theorem Z7Z {p : List Pt} {q : Bool} (hq : Zw p = some q) (a b : Int) : ∃ r, ZY p a b = some r /\ r.2 = (q && time a && time b && decide (a < b)) := by
 unfold ZY
 rw [hq, bS, Z1G, Z1G]
 have e : (((!q) || (!(time a))) || (!(time b)) || decide (b <= a)) = !(q && time a && time b && decide (a < b)) := by
  have : decide (b <= a) = !decide (a < b) := by by_cases h : a < b <;> simp [h] <;> omega
  rw [this]; cases q <;> cases time a <;> cases time b <;> cases decide (a < b) <;> rfl
 rw [e]
 cases hf : (q && time a && time b && decide (a < b)) with
 | false => exact ⟨_, rfl, rfl⟩
 | true =>
  obtain ⟨w, ew⟩ := Z5F p a
  simp only [Bool.not_true, cond_false, ew, bS]
  refine Z0M (fun _ (_ : Vec) => True) (fun (r : Option (Vec × Bool)) => ∃ v, r = some v /\ v.2 = true) (fun i x b' k hi _ hk => ?_) (fun b _ => ⟨_, rfl, rfl⟩) trivial
  unfold Z0w
  cases (decide (a <= x.t) && decide (x.t < b)) <;> exact hk _ trivial
theorem Za9 {p : List Pt} (hp : p.length <= 900) (v : Vec) (a b : Int) : ∃ l, Z2d p v a b = some l /\ Z2a p v a b = some l /\ (AskH p v a b -> l = ZZ v a b p []) /\ (¬ AskH p v a b -> l = []) := by
 obtain ⟨q, eq, hq⟩ := Z0K p
 obtain ⟨r, er, hr⟩ := Z7Z eq a b
 have hi : Z02 a b = (time a && time b && decide (a < b)) := rfl
 unfold Z2d Z2a
 rw [Z3t, eq, er, bS, bS, hr, hi, Z9V]
 by_cases hA : AskH p v a b
 .obtain ⟨h1, h2, h3, h4, h5⟩ := hA
  have eT := Z8P h1.le a b
  have hs := Za8 (v := v) h1 (by simp [time] at h2; exact h2.1) h4
  have hT : (Z06 p a b).length <= 900 := by have := Z74 p a b; have := h1.le; omega
  have hb : b ∈ Z06 p a b := (Z7b h1.ups).2 (.inl rfl)
  refine ⟨ZZ v a b p [], ?_, ?_, fun _ => rfl, fun h => absurd ⟨h1, h2, h3, h4, h5⟩ h⟩
  .simp only [hq.2 h1, h2, h3, h5, h4, decide_true, Bool.and_self, Bool.not_true, Bool.or_self, cond_false]
   exact Z7v hp
  .simp only [hq.2 h1, h2, h3, h5, h4, decide_true, Bool.and_self, Bool.not_true, Bool.or_self, cond_false, eT, bS]
   rw [Z6X hT (Z7W h1.ups) hb, hs]
 .have e : (q && time a && time b && decide (a < b)) = true -> Z4 v = true -> False := fun h h5 => by
   simp only [yD, decide_eq_true_eq] at h
   exact hA ⟨hq.1 h.1.1.1, h.1.1.2, h.1.2, h.2, h5⟩
  refine ⟨[], ?_, ?_, fun h => absurd h hA, fun _ => rfl⟩
  .have : ((!q || !(time a && time b && decide (a < b))) || !Z4 v) = true := by
    cases hv : Z4 v with
    | false => simp
    | true =>
     have : (q && time a && time b && decide (a < b)) = false := Bool.eq_false_iff.2 fun h => e h hv
     rw [Bool.and_assoc, Bool.and_assoc] at this
     rw [← Bool.not_and, Bool.and_assoc, this]; rfl
   rw [this]; rfl
  .have : ((!(q && time a && time b && decide (a < b))) || !Z4 v) = true := by
    cases hv : Z4 v with
    | false => simp
    | true => rw [Bool.eq_false_iff.2 fun h => e h hv]; rfl
   rw [this]; rfl
def HPat (l : List Hole) (i : Nat) : Prop := ∀ x, l[i]? = some x -> (time x.a = true /\ time x.b = true /\ x.a < x.b) /\ (0 < i -> ∀ y, l[i - 1]? = some y -> y.b < x.a)
theorem Z8W {l : List Hole} (hl : l.length <= 1048576) : ∃ c, ZC l = some c /\ (c = true ↔ ∀ i, HPat l i) := by
 unfold ZC
 refine Z0M (fun i (_ : Unit) => ∀ j, j < i -> HPat l j) (fun (r : Option Bool) => ∃ c, r = some c /\ (c = true ↔ ∀ i, HPat l i)) (fun i x _ k hi hI hk => ?_) (fun _ hI => ?_) (fun j hj => by omega)
 .have hil := (yB hi).1
  unfold Z1i
  have hs : Z02 x.a x.b = (time x.a && time x.b && decide (x.a < x.b)) := rfl
  rw [hs]
  cases hf : (time x.a && time x.b && decide (x.a < x.b)) with
  | false => exact ⟨false, rfl, Z2t fun h => by have := (h i x hi).1; rw [this.1, this.2.1] at hf; simp at hf; omega⟩
  | true =>
   simp only [yD, decide_eq_true_eq] at hf
   simp only [Bool.not_true, cond_false, Bool.false_or]
   by_cases h0 : 0 < i
   .have e0 : decide ((0 : Int) < (i : Int)) = true := by simp; omega
    have ey : idx l (w64 ((i : Int) - 1)) = some l[i - 1] := by rw [Z2h h0 (by omega), Z0t, yA (by omega)]
    rw [e0, cond_true, ey, bS, Bool.true_and]
    by_cases hq : x.a <= l[i - 1].b
    .rw [show decide (x.a <= l[i - 1].b) = true by simp [hq]]
     exact ⟨false, rfl, Z2t fun h => by have := (h i x hi).2 h0 _ (yA (by omega)); omega⟩
    .rw [show decide (x.a <= l[i - 1].b) = false by simp [hq]]
     refine hk () fun j hj => ?_
     by_cases e : j = i
     .subst e
      intro x' hx'
      rw [hi] at hx'; cases hx'
      refine ⟨⟨hf.1.1, hf.1.2, hf.2⟩, fun _ y hy => ?_⟩
      rw [yA (by omega)] at hy; cases hy; omega
     .exact hI j (by omega)
   .have e0 : decide ((0 : Int) < (i : Int)) = false := by simp; omega
    rw [e0]
    simp only [cond_false, bS, Bool.false_and]
    refine hk () fun j hj => ?_
    by_cases e : j = i
    .subst e
     intro x' hx'
     rw [hi] at hx'; cases hx'
     exact ⟨⟨hf.1.1, hf.1.2, hf.2⟩, fun h => absurd h h0⟩
    .exact hI j (by omega)
 .refine ⟨true, rfl, fun _ i => ?_, fun _ => rfl⟩
  by_cases h : i < l.length
  .exact hI i h
  .intro x hx; rw [List.getElem?_eq_none (by omega)] at hx; cases hx
def far (p q : Hole) : Prop := p.b < q.a
def sumL (l : List Hole) : Int := (l.map fun h => h.b - h.a).sum
def inH (l : List Hole) (t : Int) : Prop := ∃ h ∈ l, h.a <= t /\ t < h.b
theorem Zbo (l : List Hole) (q h : Hole) : addH (l ++ [q]) h = if q.b = h.a then l ++ [⟨q.a, h.b⟩] else l ++ [q] ++ [h] := by
 unfold addH
 rw [show (l ++ [q]).length - 1 = l.length by simp, List.getElem?_append_right (Nat.le_refl _), Nat.sub_self]
 simp only [List.getElem?_cons_zero]
 split
 .rw [List.set_append_right _ _ (Nat.le_refl _), Nat.sub_self, List.set_cons_zero]
 .rfl
theorem Z9X {α : Type} (l : List α) : l = [] \/ ∃ k x, l = k ++ [x] := by
 rcases List.eq_nil_or_concat l with h | ⟨k, x, h⟩
 .exact .inl h
 .exact .inr ⟨k, x, by simpa using h⟩
theorem addH_law {a b : Int} {out : List Hole} {h : Hole} (h1 : out.Pairwise far) (h2 : ∀ p ∈ out, a <= p.a /\ p.a < p.b /\ p.b <= h.a) (h3 : a <= h.a) (h4 : h.a < h.b) (h5 : h.b <= b) :
  (addH out h).Pairwise far /\ (∀ p ∈ addH out h, a <= p.a /\ p.a < p.b /\ p.b <= h.b) /\ ∀ t, inH (addH out h) t ↔ inH out t \/ h.a <= t /\ t < h.b := by
 rcases Z9X out with rfl | ⟨k, q, rfl⟩
 .refine ⟨by simp [addH], fun p hp => ?_, fun t => by simp [addH, inH]⟩
  have : p = h := by simpa [addH] using hp
  subst this; exact ⟨h3, h4, Int.le_refl _⟩
 .have hq := h2 q (by simp)
  rw [List.pairwise_append] at h1
  obtain ⟨k1, -, k3⟩ := h1
  have kq : ∀ p ∈ k, p.b < q.a := fun p hp => k3 p hp q (by simp)
  rw [Zbo]
  by_cases e : q.b = h.a
  .rw [if_pos e]
   refine ⟨List.pairwise_append.2 ⟨k1, by simp, fun p hp r hr => ?_⟩, fun p hp => ?_, fun t => ?_⟩
   .have : r = ⟨q.a, h.b⟩ := by simpa using hr
    subst this; exact kq p hp
   .rcases List.mem_append.1 hp with hp | hp
    .have := h2 p (by simp [hp]); omega
    .have : p = ⟨q.a, h.b⟩ := by simpa using hp
     subst this; exact ⟨hq.1, by show q.a < h.b; omega, Int.le_refl _⟩
   .unfold inH
    simp only [List.mem_append, List.mem_singleton, or_and_right, exists_or, exists_eq_left]
    rw [or_assoc]
    refine or_congr Iff.rfl ?_
    show (q.a <= t /\ t < h.b) ↔ _
    omega
  .rw [if_neg e]
   refine ⟨List.pairwise_append.2 ⟨List.pairwise_append.2 ⟨k1, by simp, k3⟩, by simp, fun p hp r hr => ?_⟩, fun p hp => ?_, fun t => ?_⟩
   .have : r = h := by simpa using hr
    subst this
    rcases List.mem_append.1 hp with hp | hp
    .have := kq p hp; show p.b < r.a; omega
    .have : p = q := by simpa using hp
     subst this; show p.b < r.a; omega
   .rcases List.mem_append.1 hp with hp | hp
    .have := h2 p hp; omega
    .have : p = h := by simpa using hp
     subst this; exact ⟨h3, h4, Int.le_refl _⟩
   .unfold inH
    simp only [List.mem_append, List.mem_singleton, or_and_right, exists_or, exists_eq_left]
theorem endOf_le {b : Int} (r : List Pt) : endOf b r <= b := by cases r <;> simp only [endOf] <;> omega
theorem Z8p {b : Int} {r : List Pt} (h : r.Pairwise ptUp) : ∀ y ∈ r, endOf b r <= y.t := by
 cases r with
 | nil => simp
 | cons z r =>
  intro y hy
  rcases List.mem_cons.1 hy with rfl | hy
  .simp only [endOf]; omega
  .have : z.t < y.t := (List.pairwise_cons.1 h).1 y hy
   simp only [endOf]; omega
theorem Z4q {v : Vec} {l : List Pt} {a b : Int} (hab : a < b) : ∀ (s pre : List Pt) (out : List Hole), l = pre ++ s -> s.Pairwise ptUp -> out.Pairwise far ->
  (∀ p ∈ out, a <= p.a /\ p.a < p.b /\ p.b <= b /\ ∀ y ∈ s, p.b <= max a y.t) -> (∀ t, a <= t -> t < endOf b s -> (inH out t ↔ Z5 v (Z0U l t) = true)) ->
  (ZZ v a b s out).Pairwise far /\ (∀ p ∈ ZZ v a b s out, a <= p.a /\ p.a < p.b /\ p.b <= b) /\ ∀ t, a <= t -> t < b -> (inH (ZZ v a b s out) t ↔ Z5 v (Z0U l t) = true)
 | [], pre, out, _, _, h1, h2, h3 => ⟨h1, fun p hp => ⟨(h2 p hp).1, (h2 p hp).2.1, (h2 p hp).2.2.1⟩, fun t ht hb => h3 t ht hb⟩
 | x :: r, pre, out, hl, hs, h1, h2, h3 => by
  have hs' := List.pairwise_cons.1 hs
  rw [ZZ]
  have hx : ∀ p ∈ out, p.b <= max a x.t := fun p hp => (h2 p hp).2.2.2 x (by simp)
  have hat : ∀ t, x.t <= t -> t < endOf b r -> Z0U l t = x.free := fun t ht he => Z2T hl ht fun y hy => by have := Z8p (b := b) hs'.2 y hy; omega
  have hb := endOf_le (b := b) r
  by_cases hc : max a x.t < endOf b r /\ Z5 v x.free = true
  .rw [if_pos hc]
   obtain ⟨g1, g2, g3⟩ := addH_law (a := a) (b := b) (out := out) (h := ⟨max a x.t, endOf b r⟩) h1 (fun p hp => ⟨(h2 p hp).1, (h2 p hp).2.1, hx p hp⟩) (by show a <= max a x.t; omega) hc.1 hb
   refine Z4q hab r (pre ++ [x]) _ (by rw [hl]; simp) hs'.2 g1 (fun p hp => ?_) fun t ht he => ?_
   .obtain ⟨q1, q2, q3⟩ := g2 p hp
    have q3 : p.b <= endOf b r := q3
    exact ⟨q1, q2, by omega, fun y hy => by have := Z8p (b := b) hs'.2 y hy; omega⟩
   .rw [g3]
    show (inH out t \/ max a x.t <= t /\ t < endOf b r) ↔ _
    by_cases hxt : x.t <= t
    .rw [hat t hxt he, hc.2]
     have : max a x.t <= t /\ t < endOf b r := by omega
     simp [this]
    .have := h3 t ht (by simp only [endOf]; omega)
     rw [← this]
     have : ¬ (max a x.t <= t /\ t < endOf b r) := by omega
     simp [this]
  .rw [if_neg hc]
   refine Z4q hab r (pre ++ [x]) _ (by rw [hl]; simp) hs'.2 h1 (fun p hp => ⟨(h2 p hp).1, (h2 p hp).2.1, (h2 p hp).2.2.1, fun y hy => (h2 p hp).2.2.2 y (by simp [hy])⟩) fun t ht he => ?_
   by_cases hxt : x.t <= t
   .rw [hat t hxt he]
    have hm : max a x.t < endOf b r := by omega
    have hn : ¬ Z5 v x.free = true := fun q => hc ⟨hm, q⟩
    refine ⟨fun ⟨p, hp, q1, q2⟩ => ?_, fun q => absurd q hn⟩
    have := hx p hp; omega
   .exact h3 t ht (by simp only [endOf]; omega)
theorem Z6H (v : Vec) (a b : Int) : ∀ (s : List Pt) (out : List Hole), (ZZ v a b s out).length <= out.length + s.length
 | [], out => by simp [ZZ]
 | x :: r, out => by
  rw [ZZ]
  have := Z6H v a b r (if max a x.t < endOf b r /\ Z5 v x.free = true then addH out ⟨max a x.t, endOf b r⟩ else out)
  have h2 : (if max a x.t < endOf b r /\ Z5 v x.free = true then addH out ⟨max a x.t, endOf b r⟩ else out).length <= out.length + 1 := by
   split
   .exact Z7H _ _
   .omega
  simp only [List.length_cons]; omega
structure Right (a b : Int) (l : List Hole) : Prop where
 far : l.Pairwise far
 ok : ∀ p ∈ l, a <= p.a /\ p.a < p.b /\ p.b <= b
 len : l.length <= 1000
theorem Right.pat {a b : Int} {l : List Hole} (h : Right a b l) (ha : 0 <= a) (hb : b <= 1000000000) : ∀ i, HPat l i := by
 intro i x hx
 have hm := h.ok x (yE hx)
 refine ⟨⟨?_, ?_, hm.2.1⟩, fun h0 y hy => ?_⟩
 .simp [time]; omega
 .simp [time]; omega
 .obtain ⟨hi, rfl⟩ := yB hx
  obtain ⟨hj, rfl⟩ := yB hy
  exact List.pairwise_iff_getElem.1 h.far (i - 1) i hj hi (by omega)
theorem Right.holesOk {a b : Int} {l : List Hole} (h : Right a b l) (ha : 0 <= a) (hb : b <= 1000000000) : ZC l = some true := by
 obtain ⟨c, hc, hi⟩ := Z8W (l := l) (by have := h.len; omega)
 rw [hc, hi.2 (h.pat ha hb)]
theorem Z5v : ∀ {l : List Hole}, (∀ p ∈ l, p.a < p.b) -> 0 <= sumL l
 | [], _ => by simp [sumL]
 | x :: l, h => by
  have := Z5v (l := l) fun p hp => h p (by simp [hp])
  have := h x (by simp)
  rw [show sumL (x :: l) = (x.b - x.a) + sumL l by simp [sumL]]; omega
theorem Z8F : ∀ {l : List Hole} {lo hi : Int}, l.Pairwise Go.Proofs.Ytjphbnaepdcikaa.far -> (∀ p ∈ l, lo <= p.a /\ p.a < p.b /\ p.b <= hi) -> lo <= hi -> sumL l <= hi - lo
 | [], lo, hi, _, _, h => by simp [sumL]; omega
 | x :: l, lo, hi, hs, hg, h => by
  rw [List.pairwise_cons] at hs
  obtain ⟨g1, g2, g3⟩ := hg x (by simp)
  have := Z8F (l := l) (lo := x.b) (hi := hi) hs.2 (fun p hp => by
   have := hs.1 p hp; have := hg p (by simp [hp]); unfold Go.Proofs.Ytjphbnaepdcikaa.far at *; omega) g3
  rw [show sumL (x :: l) = (x.b - x.a) + sumL l by simp [sumL]]; omega
theorem Zak {l : List Hole} {i : Nat} {x : Hole} (hx : l[i]? = some x) : sumL (l.take (i + 1)) = sumL (l.take i) + (x.b - x.a) := by
 obtain ⟨hi, rfl⟩ := yB hx
 rw [List.take_succ_eq_append_getElem hi]; unfold sumL; rw [List.map_append, List.sum_append]; rw [List.map_singleton, List.sum_singleton]
theorem Z6B {a b : Int} {l : List Hole} (h : Right a b l) (ha : 0 <= a) (hab : a <= b) (hb : b <= 1000000000) : Z0y l = some (sumL l) := by
 unfold Z0y
 rw [h.holesOk ha hb, bS, Bool.not_true, cond_false]
 refine Z0M (fun i (v : Int) => v = sumL (l.take i)) (fun (r : Option Int) => r = some (sumL l)) (fun i x v k hi hI hk => ?_) (fun v hI => ?_) (by simp [sumL])
 .unfold Z1N
  refine hk _ ?_
  have hm := h.ok x (yE hi)
  have h0 := Z5v (l := l.take i) fun p hp => (h.ok p (List.mem_of_mem_take hp)).2.1
  have h1 := Z8F (l := l.take i) (lo := a) (hi := b) (h.far.sublist (List.take_sublist _ _)) (fun p hp => h.ok p (List.mem_of_mem_take hp)) hab
  rw [Zak hi, hI, Z1P (n := sumL (l.take i) + x.b) (by omega), Z1P (by omega)]; omega
 .rw [hI, List.take_length]; rfl
theorem ZaP {a b : Int} {l : List Hole} (h : Right a b l) (ha : 0 <= a) (hb : b <= 1000000000) : Z33 l l = some l := by
 unfold Z33
 have hlen := h.len
 have hk := h.holesOk ha hb
 rw [hk, bS, Bool.not_true, cond_false, bS]
 simp only [Bool.not_true, Bool.or_self, cond_false]
 refine Z0M (fun i (o : List Hole) => o = l.take i) (fun (r : Option (List Hole)) => r = some l) (fun i x o k hi hI hk => ?_) (fun v hI => ?_) (by simp)
 .unfold Z2r
  obtain ⟨hil, rfl⟩ := yB hi
  have hx := h.ok _ (List.getElem_mem hil)
  refine Z0M (fun j (o : List Hole) => o = if i < j then l.take (i + 1) else l.take i) (fun (r : Option (List Hole)) => r = some l) (fun j y o' k' hj hI' hk' => ?_) (fun v hI' => ?_) (by simpa using hI)
  .obtain ⟨hjl, rfl⟩ := yB hj
   have hy := h.ok _ (List.getElem_mem hjl)
   unfold Z2s
   rcases Nat.lt_trichotomy i j with q | q | q
   .have : l[i].b < l[j].a := List.pairwise_iff_getElem.1 h.far i j hil hjl q
    rw [show decide (max l[i].a l[j].a < min l[i].b l[j].b) = false by simp; omega]
    exact hk' _ (by rw [hI', if_pos q, if_pos (by omega)])
   .subst q
    have e1 : max l[i].a l[i].a = l[i].a := by omega
    have e2 : min l[i].b l[i].b = l[i].b := by omega
    rw [e1, e2, show decide (l[i].a < l[i].b) = true by simp; omega, cond_true, hI', if_neg (by omega), Zy (by simp; omega), bS]
    exact hk' _ (by rw [if_pos (by omega), List.take_succ_eq_append_getElem hil])
   .have : l[j].b < l[i].a := List.pairwise_iff_getElem.1 h.far j i hjl hil q
    rw [show decide (max l[i].a l[j].a < min l[i].b l[j].b) = false by simp; omega]
    exact hk' _ (by rw [hI', if_neg (by omega), if_neg (by omega)])
  .unfold Z2q
   refine hk _ ?_
   rw [hI', if_pos hil]
 .rw [hI, List.take_length]; rfl
set_option maxRecDepth 20000
def Z5O : L :=
.seq (rE 2 (cB false))
 (.seq (sR [mV 12 0,.ln 13 (.t 12),.bi 14 .gtr (.t 13) (kI 1048576)]
 (.cond (.t 14) (.seq (rE 2 (cB true))
 gR)
 .skip))
 (sR [mV 16 0,cQ 17 Z2K [16],mV 15 17,eX 18 15 0,eX 19 15 1,eX 20 15 2,eX 21 15 3,.al 3 [.nl],.al 4 [.int .i64 0, .int .i64 0, .int .i64 0],.st (.t 3) (.t 18) 1,.st (.t 4) (.t 19) 3,mV 5 20,mV 6 21]
 (sR [lD 22 3 1 true,lD 23 4 3 true,mV 24 5,mV 25 6,cQ 26 Z4L [22, 23, 24, 25],mV 7 26]
 (.seq (sR [mV 27 7,.ln 28 (.t 27),lD 29 3 1 true,lD 30 4 3 true,mV 31 5,mV 32 6,cQ 33 Z4K [29, 30, 31, 32],.ln 34 (.t 33),bI 35 .neq 28 34,mV 36 35,.g 36 false (mV 37 7),.g 36 false (cQ 38 Z0v [37]),.g 36 false (.un 39 (.t 38)),.pk 40 (.t 36) (cB true) (.t 39)]
 (.cond (.t 40) (.seq (rE 2 (cB false))
 gR)
 .skip))
 (.seq (sR [lD 41 3 1 true,cQ 42 Z1A [41],.un 43 (.t 42),mV 44 43,.g 44 false (mV 45 5),.g 44 false (.bi 46 .lss (.t 45) (kI 0)),.pk 47 (.t 44) (cB true) (.t 46),mV 48 47,.g 48 false (mV 49 6),.g 48 false (.bi 50 .gtr (.t 49) (kI 1000000000)),.pk 51 (.t 48) (cB true) (.t 50),mV 52 51,.g 52 false (mV 53 5),.g 52 false (mV 54 6),.g 52 false (bI 55 .geq 53 54),.pk 56 (.t 52) (cB true) (.t 55),mV 57 56,.g 57 false (lD 58 4 3 true),.g 57 false (cQ 59 Zh [58]),.g 57 false (.un 60 (.t 59)),.pk 61 (.t 57) (cB true) (.t 60)]
 (.cond (.t 61) (sR [mV 62 7,.ln 63 (.t 62),.bi 64 .eql (.t 63) (kI 0),mV 2 64]
 gR)
 .skip))
 (.seq (sR [mV 65 5,mV 8 65]
 (.blk 0 (.loop (.gw (.seq (sR [mV 66 8,mV 67 6,bI 68 .lss 66 67,mV 69 68,.g 69 true (mV 70 8),.g 69 true (mV 71 5),.g 69 true (.bi 72 .add (.t 71) (kI 60)),.g 69 true (bI 73 .lss 70 72),.pk 74 (.t 69) (.t 73) (cB false)]
 (.cond (.t 74) .skip
 (.exit 0)))
 (.seq (.blk 1 (.seq (rE 9 (cB false))
 (.seq (sR [mV 77 7,.ln 78 (.t 77),.mv 79 (kI 0)]
 (.blk 2 (.loop (.gw (sR [bI 80 .lss 79 78]
 (.seq (.cond (.t 80) .skip
 (.exit 2))
 (.seq (.blk 3 (sR [iA 81 77 79 2,lD 82 81 2 true,.al 11 [.int .i64 0, .int .i64 0],.st (.t 11) (.t 82) 2]
 (sR [fA 83 11 0,lD 84 83 1 false,mV 85 8,bI 86 .leq 84 85,mV 87 86,.g 87 true (mV 88 8),.g 87 true (fA 89 11 1),.g 87 true (lD 90 89 1 false),.g 87 true (bI 91 .lss 88 90),.pk 92 (.t 87) (.t 91) (cB false)]
 (.cond (.t 92) (rE 9 (cB true))
 .skip))))
 (.reg [.bi 93 .add (.t 79) (kI 1),mV 79 93]))))))))
 (.seq (.rq 7 [mV 94 9,lD 95 4 3 true,lD 96 3 1 true,mV 97 8,cQ 98 Z40 [96, 97],cQ 99 Z1d [95, 98],.eb 100 true (.t 94) (.t 99)])
 (.cond (.t 100) (.seq (rE 2 (cB false))
 gR)
 .skip)))))
 (.reg [mV 75 8,.bi 76 .add (.t 75) (kI 1),mV 8 76])))))))
 (sR [mV 101 7,cQ 102 Z1C [101],mV 103 6,mV 104 5,bI 105 .sub 103 104,bI 106 .leq 102 105,mV 107 106,.g 107 true (mV 108 7),.g 107 true (mV 109 7),.g 107 true (cQ 110 Z63 [108, 109]),.g 107 true (cQ 111 Z1C [110]),.g 107 true (mV 112 7),.g 107 true (cQ 113 Z1C [112]),.g 107 true (bI 114 .eql 111 113),.pk 115 (.t 107) (.t 114) (cB false),mV 2 115]
 gR)))))))
def Z1h (v10 : Int) (x12 : Hole) (_ : Nat) (v12 : Bool) (k12 : Bool -> Option Bool) : Option Bool :=
 bif ((decide (x12.a <= v10)) && (decide (v10 < x12.b))) then (k12 true) else (k12 v12)
def Z1g (y3 : (List Pt) × Vec × Int × Int) (v10 : Int) (k10 : Int -> Option Bool) (v12 : Bool) : Option Bool :=
 (Z1M y3.1 v10).bind fun y13 => bif (!(v12 == (Z5 y3.2.1 y13))) then (some false) else (k10 (w64 (v10 + 1)))
def Z0x (y3 : (List Pt) × Vec × Int × Int) (y4 : (List Hole)) (v10 : Int) (k10 : Int -> Option Bool) : Option Bool :=
 bif ((decide (v10 < y3.2.2.2)) && (decide (v10 < (w64 (y3.2.2.1 + 60))))) then (rgl (Z1h v10) (Z1g y3 v10 k10) y4 0 false) else ((Z0y y4).bind fun n14 => (bif (decide (n14 <= (w64 (y3.2.2.2 - y3.2.2.1)))) then (Z33 y4 y4) else some default).bind fun y15 => (bif (decide (n14 <= (w64 (y3.2.2.2 - y3.2.2.1)))) then (Z0y y15) else some default).bind fun n16 => (bif (decide (n14 <= (w64 (y3.2.2.2 - y3.2.2.1)))) then (Z0y y4) else some default).bind fun n17 => some ((decide (n14 <= (w64 (y3.2.2.2 - y3.2.2.1)))) && (n16 == n17)))
def Z1S (code1 : List Int) : Option Bool :=
 bif (decide (1048576 < (code1.length : Int))) then (some true) else ((Z0q code1).bind fun y3 => (Z2d y3.1 y3.2.1 y3.2.2.1 y3.2.2.2).bind fun y4 => (Z2a y3.1 y3.2.1 y3.2.2.1 y3.2.2.2).bind fun y5 => (bif ((y4.length : Int) != (y5.length : Int)) then some default else (ZC y4)).bind fun b6 => bif (((y4.length : Int) != (y5.length : Int)) || (!b6)) then (some false) else ((Zw y3.1).bind fun b8 => bif (((((!b8) || (decide (y3.2.2.1 < 0))) || (decide (1000000000 < y3.2.2.2))) || (decide (y3.2.2.2 <= y3.2.2.1))) || (!(Z4 y3.2.1))) then (some ((y4.length : Int) == 0)) else (whl (Z0x y3 y4) 9223372036854775807 y3.2.2.1)))
theorem Z5E {code1 : List Int} {r : Bool} (H : Z1S code1 = some r) : Snd Try.prog Z27 [.sl .rd 1 (code1.map eB)] (.bool r) [] := by
 refine wS Z5O [.t 2] ?_
 unfold Z1S at H
 refine wG [.u 13 (.ln _ _ fun _ => lm code1 eB)] fun q2 => ?_
 refine Wh_iH H (fun H => ?_) fun H => ?_
 .refine wP ?_
  replace H := sI H; subst H
  exact wE [(2, .d)]
 .obtain ⟨y3, h3, H⟩ := bB H
  obtain ⟨y4, h4, H⟩ := bB H
  obtain ⟨y5, h5, H⟩ := bB H
  obtain ⟨b6, h6, H⟩ := bB H
  refine wG [.c 17 (Z49 h3), .c 26 (Z7u h4), .u 28 (.ln _ _ fun _ => lm y4 eHole), .c 33 (Z6W h5), .u 34 (.ln _ _ fun _ => lm y5 eHole), .g 38 [(_, false)] (.call _ _ _ _ _ (AEs.refl _) (fun q => Z0O (bF q.1 h6)))] fun q7 => ?_
  refine Wh_iH H (fun H => ?_) fun H => ?_
  .refine wP ?_
   replace H := sI H; subst H
   exact wE [(2, .d)]
  .obtain ⟨b8, h8, H⟩ := bB H
   refine wG [.c 42 (Z21 h8), .g 59 [(((((!b8) || (decide (y3.2.2.1 < 0))) || (decide (1000000000 < y3.2.2.2))) || (decide (y3.2.2.2 <= y3.2.2.1))), false)] (.call _ _ _ _ _ (AEs.refl _) (fun _ => Zi y3.2.1))] fun _ => ?_
   refine Wh_iH H (fun H => ?_) fun H => ?_
   .refine wG [.u 63 (.ln _ _ fun _ => lm y4 eHole)] fun q9 => ?_
    replace H := sI H; subst H
    exact wE [(2, .d)]
   .refine wP ?_
    refine wW (fun (v10 : Int) => ⟨[(3, .ptr 3 0), (4, .ptr 4 0), (5, .int .i64 y3.2.2.1), (6, .int .i64 y3.2.2.2), (7, .sl .nw 2 (y4.map eHole)), (8, .int .i64 v10)], [], [(3, [.sl .nw 4 (y3.1.map ePt)]), (4, (eVec y3.2.1).cells)], []⟩) H (fun v10 I m k10 H N64 => ?_)
    unfold Z0x at H
    refine wP ?_
    refine Wh_iH H (fun H => ?_) fun H => ?_
    .refine wG [.u 78 (.ln _ _ fun _ => lm y4 eHole)] fun q11 => ?_
     refine wR (fun (i12 : Nat) (v12 : Bool) => ⟨[(3, .ptr 3 0), (4, .ptr 4 0), (5, .int .i64 y3.2.2.1), (6, .int .i64 y3.2.2.2), (7, .sl .nw 2 (y4.map eHole)), (8, .int .i64 v10), (9, .bool v12), (77, .sl .nw 2 (y4.map eHole)), (78, .int .i64 (y4.length : Int)), (79, .int .i64 (i12 : Int))], [], [(3, [.sl .nw 4 (y3.1.map ePt)]), (4, (eVec y3.2.1).cells)], []⟩) H (fun i12 x12 v12 I m k12 hxv12 hiv12 H N48 => ?_) (fun v12 I m H => ?_)
     .unfold Z1h at H
      refine wP ?_
      refine wt (ltT hiv12) ?_
      refine wG [.u 81 (.ix _ _ _ fun _ => Ze eHole (Z0e hxv12))] fun _ => ?_
      refine Wh_iH H (fun H => ?_) fun H => ?_
      .refine wG [.w 93 (wi .i64 rfl hiv12 q7.1)] fun _ => ?_
       exact wT (N48 _ H)
      .refine wG [.w 93 (wi .i64 rfl hiv12 q7.1)] fun _ => ?_
       exact wT (N48 _ H)
     .unfold Z1g at H
      refine wP ?_
      refine wf (ltF y4.length) ?_
      obtain ⟨y13, h13, H⟩ := bB H
      refine wG [.c 98 (Z6q h13), .c 99 (Z30 y3.2.1 y13)] fun _ => ?_
      refine Wh_iH H (fun H => ?_) fun H => ?_
      .refine wP ?_
       replace H := sI H; subst H
       exact wE [(2, .d)]
      .refine wP ?_
       exact wT (N64 _ H)
    .obtain ⟨n14, h14, H⟩ := bB H
     obtain ⟨y15, h15, H⟩ := bB H
     obtain ⟨n16, h16, H⟩ := bB H
     obtain ⟨n17, h17, H⟩ := bB H
     refine wG [.c 102 (Z23 h14), .g 110 [(_, true)] (.call _ _ _ _ _ (AEs.refl _) (fun q => Z8i (bT q.1 h15))), .g 111 [(_, true)] (.call _ _ _ _ _ (AEs.refl _) (fun q => Z23 (bT q.1 h16))), .g 113 [(_, true)] (.call _ _ _ _ _ (AEs.refl _) (fun q => Z23 (bT q.1 h17)))] fun _ => ?_
     replace H := sI H; subst H
     exact wE [(2, .d)]
end Go.Proofs.Ytjphbnaepdcikaa
namespace Go.Proofs.Ytjphbnaepdcikaa
open Go Go.RowKit Eng
theorem Z8K {p : List Pt} (hp : ProfP p) {t : Int} (ht : time t = true) : Z1M p t = some (Z0U p t) := by
 obtain ⟨q, eq, hq⟩ := Z0K p
 unfold Z1M
 have hi : Zk t = time t := rfl
 rw [Z3t, eq, hq.2 hp, bS, hi, ht, free_eq]
 rfl
theorem Z4H {p : List Pt} {v : Vec} {a b : Int} (h : AskH p v a b) : Right a b (ZZ v a b p []) /\ ∀ t, a <= t -> t < b -> (inH (ZZ v a b p []) t ↔ Z5 v (Z0U p t) = true) := by
 obtain ⟨h1, h2, h3, h4, h5⟩ := h
 have ha : 0 <= a := by simp [time] at h2; exact h2.1
 obtain ⟨g1, g2, g3⟩ := Z4q (v := v) (l := p) h4 p [] [] rfl h1.ups (by simp) (by simp) fun t ht he => by
  obtain ⟨x, r, rfl⟩ : ∃ x r, p = x :: r := by
   cases p with
   | nil => exact absurd h1.pos (by simp)
   | cons x r => exact ⟨x, r, rfl⟩
  have : x.t = 0 := h1.zero x (by simp)
  simp only [endOf] at he; omega
 refine ⟨⟨g1, g2, ?_⟩, g3⟩
 have := Z6H v a b p []
 have := h1.le
 simp at *; omega
theorem Z8n {p : List Pt} {v : Vec} {a b : Int} (h : AskH p v a b) {l : List Hole} (hl : l = ZZ v a b p []) : whl (Z0x (p, v, a, b) l) 9223372036854775807 a = some true := by
 obtain ⟨hR, hC⟩ := Z4H h
 rw [← hl] at hR hC
 obtain ⟨h1, h2, h3, h4, h5⟩ := h
 simp [time] at h2 h3
 refine Z8B (fun _ (r : Option Bool) => r = some true) (fun t : Int => (b - t).toNat) (fun t => a <= t /\ t <= b) (fun t k hI hk => ?_) _ _ ⟨Int.le_refl _, by omega⟩ (by omega)
 unfold Z0x
 dsimp only
 rw [Z1P (n := a + 60) (by omega)]
 by_cases hc : t < b /\ t < a + 60
 .rw [show (decide (t < b) && decide (t < a + 60)) = true by simp [hc], cond_true]
  refine Z0M (fun i (c : Bool) => c = true ↔ ∃ j < i, ∃ x, l[j]? = some x /\ x.a <= t /\ t < x.b) (fun (r : Option Bool) => r = some true) (fun i x c k' hi hI' hk' => ?_) (fun c hI' => ?_) (by simp)
  .unfold Z1h
   by_cases hx : x.a <= t /\ t < x.b
   .rw [show (decide (x.a <= t) && decide (t < x.b)) = true by simp [hx], cond_true]
    exact hk' _ ⟨fun _ => ⟨i, by omega, x, hi, hx⟩, fun _ => rfl⟩
   .rw [show (decide (x.a <= t) && decide (t < x.b)) = false by rw [Bool.eq_false_iff]; intro q; simp at q; exact hx q, cond_false]
    refine hk' _ (hI'.trans ⟨fun ⟨j, hj, q⟩ => ⟨j, by omega, q⟩, fun ⟨j, hj, y, hy, q⟩ => ⟨j, ?_, y, hy, q⟩⟩)
    by_cases e : j = i
    .subst e; rw [hi] at hy; cases hy; exact absurd q hx
    .omega
  .unfold Z1g
   dsimp only
   rw [Z8K h1 (by simp [time]; omega), bS]
   have : c = Z5 v (Z0U p t) := by
    rw [Bool.eq_iff_iff, hI', ← hC t hI.1 hc.1]
    constructor
    .rintro ⟨j, hj, x, hx, q⟩; exact ⟨x, yE hx, q⟩
    .rintro ⟨x, hx, q⟩
     obtain ⟨j, hj⟩ := List.getElem?_of_mem hx
     exact ⟨j, (yB hj).1, x, hj, q⟩
   rw [this, beq_self_eq_true, Bool.not_true, cond_false, Z1P (by omega)]
   exact hk _ ⟨by omega, by omega⟩ (by omega)
 .rw [show (decide (t < b) && decide (t < a + 60)) = false by rw [Bool.eq_false_iff]; intro q; simp at q; exact hc q, cond_false]
  rw [Z6B hR (by omega) (by omega) (by omega), bS, Z1P (n := b - a) (by omega)]
  have := Z8F hR.far hR.ok (by omega)
  rw [show decide (sumL l <= b - a) = true by simp; omega]
  simp only [cond_true]
  rw [ZaP hR (by omega) (by omega), bS, Z6B hR (by omega) (by omega) (by omega), bS, bS]
  simp
theorem Z8m (code : List Int) : Z1S code = some true := by
 unfold Z1S
 by_cases hl : 1048576 < code.length
 .rw [show decide ((1048576 : Int) < (code.length : Int)) = true by simp; omega]; rfl
 rw [show decide ((1048576 : Int) < (code.length : Int)) = false by simp; omega, cond_false]
 obtain ⟨⟨p, v, a, b⟩, e3, hp⟩ := Z7D (bs := code) (by omega)
 have hp : p.length <= 201 := hp
 rw [e3, bS]
 dsimp only
 obtain ⟨l, i1, i2, g1, g2⟩ := Za9 (p := p) (by omega) v a b
 rw [i1, i2, bS, bS, bne_self_eq_false, cond_false]
 by_cases hA : AskH p v a b
 .have e := g1 hA
  obtain ⟨hR, -⟩ := Z4H hA
  rw [← e] at hR
  have hA' := hA
  obtain ⟨h1, h2, h3, h4, h5⟩ := hA'
  simp [time] at h2 h3
  obtain ⟨q, eq, hq⟩ := Z0K p
  rw [hR.holesOk (by omega) (by omega), bS, eq, hq.2 h1, bS, h5]
  rw [show decide (a < 0) = false by simp; omega, show decide (1000000000 < b) = false by simp; omega, show decide (b <= a) = false by simp; omega]
  simp only [Bool.not_true, Bool.or_self, cond_false]
  exact Z8n hA e
 .have e := g2 hA
  subst e
  obtain ⟨q, eq, hq⟩ := Z0K p
  rw [show ZC [] = some true from rfl, bS, eq, bS]
  have : ((((!q || decide (a < 0)) || decide (1000000000 < b)) || decide (b <= a)) || !(Z4 v)) = true := by
   refine Bool.not_eq_false _ |>.mp fun hf => ?_
   simp only [Bool.or_eq_false_iff, Bool.not_eq_false', decide_eq_false_iff_not] at hf
   exact hA ⟨hq.1 hf.1.1.1.1, by simp [time]; omega, by simp [time]; omega, by omega, hf.2⟩
  rw [this]
  rfl
theorem bytes_of {a : AV} (h : (Ty.sl (.int .u8)).okV a) : ∃ l : List Int, AV.wkA (fun _ => False) a (.sl .rd 1 (l.map eB)) := by
 simp only [Ty.okV, Ty.ok] at h
 rcases h with h | ⟨es, h, _, h2⟩
 .exact ⟨[], by rw [(List.cons.inj h).1]; simp⟩
 .obtain ⟨l, rfl⟩ := list_of eB fun x hx => by
   obtain ⟨_, h3, n, h4, _⟩ := h2 x hx
   simp only [Ty.isSt, Bool.false_eq_true, if_false] at h3
   rw [Z8v h3] at h4
   exact ⟨n, (List.cons.inj h4).1⟩
  exact ⟨l, by rw [(List.cons.inj h).1]; simp [Ty.size]⟩
theorem Zad (xs : List AV) (h : okVs [.sl (.int .u8)] xs) : Snd Try.prog Z27 xs (.bool true) [] := by
 obtain ⟨a, _, rfl, ha, rfl⟩ := h
 obtain ⟨l, ha⟩ := bytes_of ha
 exact (Z5E (Z8m l)).wk ⟨ha, trivial⟩
end Go.Proofs.Ytjphbnaepdcikaa
