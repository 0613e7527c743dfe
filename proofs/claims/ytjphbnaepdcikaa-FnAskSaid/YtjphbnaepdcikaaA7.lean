/-
  Lemmas, part 7: the engine that steps through the code, the walks of functions, and the laws of what they compute.
-/
import Derived.Test.YtjphbnaepdcikaaA6
import Derived.Test.YtjphbnaepdcikaaRows
namespace Go.Proofs.Ytjphbnaepdcikaa
open Go Go.RowKit Eng
def Z0y : Nat := 4
def Z0w : Nat := 10
def Z07 : Nat := 15
def ZP : Nat := 16
def Z0J : Nat := 17
def Z05 : Nat := 18
def Z1e : Nat := 19
def Z1g : Nat := 20
def Z0a : Nat := 21
def Z1c : Nat := 22
def Z0A : Nat := 28
def Z0H : Nat := 34
def Z01 : Nat := 35
def Z0l : Nat := 36
def Z1a : Nat := 38
def Z0F : Nat := 39
def Za : Nat := 40
def Z02 : Nat := 41
def Z0b : Nat := 42
def Z23 : Nat := 43
def Z24 : Nat := 44
def Z1f : Nat := 45
def Z0I : Nat := 46
def Z0K : Nat := 47
def Z3 : Nat := 48
def Z04 : Nat := 49
def Z03 : Nat := 50
def Z0k : Nat := 51
def Z2V : Nat := 52
def Z0B : Nat := 53
def Z0z : Nat := 54
def Z0x : Nat := 55
def Z0 : Nat := 57
def Zf : Nat := 58
def Z1d : Nat := 59
def Z0r : Nat := 61
def Z0g : Nat := 62
def ZM : Nat := 63
def Z19 : Nat := 64
def Z8 : Nat := 65
def ZR : Nat := 66
def Z9 : Nat := 67
def Z00 : Nat := 68
def Zw : Nat := 71
def Z1b : Nat := 72
def Z0j : Nat := 74
def Z0G : Nat := 75
def Zd : Nat := 76
theorem Try.own : ownKnob Try.prog.godebug = none := by kernel_rfl
theorem Try.laidOut : laidOutB Try.prog = true := by kernel_rfl
abbrev Str := List UInt8
namespace Eng
theorem Z28 {α : Type} (e : α -> AV) (h : ∀ x, (e x).rdt = e x) (l : List α) : rdtL (l.map e) = l.map e := by
 rw [Zc, List.map_map]
 exact List.map_congr_left fun x _ => h x
@[simp] theorem rdtL_take (n : Nat) (l : List AV) : rdtL (l.take n) = (rdtL l).take n := by rw [Zc, Zc, List.map_take]
@[simp] theorem rdtL_drop (n : Nat) (l : List AV) : rdtL (l.drop n) = (rdtL l).drop n := by rw [Zc, Zc, List.map_drop]
@[simp] theorem rdtL_app (l k : List AV) : rdtL (l ++ k) = rdtL l ++ rdtL k := by rw [Zc, Zc, Zc, List.map_append]
theorem Z3P {α : Type} (e : α -> AV) (h : ∀ x, Nw (e x)) (l : List α) : NwL (l.map e) := by
 rw [Z0f]
 intro a ha
 obtain ⟨x, _, rfl⟩ := List.mem_map.1 ha
 exact h x
@[simp] theorem isIdx_0 (k : IntKind) (n : Nat) : isIdx (.int k 0) n = if 0 < n then some 0 else none := Z4 k 0 n
@[simp] theorem isIdx_1 (k : IntKind) (n : Nat) : isIdx (.int k 1) n = if 1 < n then some 1 else none := Z4 k 1 n
@[simp] theorem isIdx_2 (k : IntKind) (n : Nat) : isIdx (.int k 2) n = if 2 < n then some 2 else none := Z4 k 2 n
@[simp] theorem isBnd_2 (k : IntKind) (n : Nat) : isBnd (.int k 2) n = if 2 <= n then some 2 else none := Z5 k 2 n
@[simp] theorem isIdx_3 (k : IntKind) (n : Nat) : isIdx (.int k 3) n = if 3 < n then some 3 else none := Z4 k 3 n
@[simp] theorem isBnd_3 (k : IntKind) (n : Nat) : isBnd (.int k 3) n = if 3 <= n then some 3 else none := Z5 k 3 n
@[simp] theorem isIdx_4 (k : IntKind) (n : Nat) : isIdx (.int k 4) n = if 4 < n then some 4 else none := Z4 k 4 n
@[simp] theorem isBnd_4 (k : IntKind) (n : Nat) : isBnd (.int k 4) n = if 4 <= n then some 4 else none := Z5 k 4 n
@[simp] theorem isIdx_5 (k : IntKind) (n : Nat) : isIdx (.int k 5) n = if 5 < n then some 5 else none := Z4 k 5 n
@[simp] theorem isBnd_5 (k : IntKind) (n : Nat) : isBnd (.int k 5) n = if 5 <= n then some 5 else none := Z5 k 5 n
@[simp] theorem isIdx_6 (k : IntKind) (n : Nat) : isIdx (.int k 6) n = if 6 < n then some 6 else none := Z4 k 6 n
@[simp] theorem isBnd_6 (k : IntKind) (n : Nat) : isBnd (.int k 6) n = if 6 <= n then some 6 else none := Z5 k 6 n
@[simp] theorem isIdx_7 (k : IntKind) (n : Nat) : isIdx (.int k 7) n = if 7 < n then some 7 else none := Z4 k 7 n
@[simp] theorem isBnd_7 (k : IntKind) (n : Nat) : isBnd (.int k 7) n = if 7 <= n then some 7 else none := Z5 k 7 n
@[simp] theorem isIdx_8 (k : IntKind) (n : Nat) : isIdx (.int k 8) n = if 8 < n then some 8 else none := Z4 k 8 n
@[simp] theorem isBnd_8 (k : IntKind) (n : Nat) : isBnd (.int k 8) n = if 8 <= n then some 8 else none := Z5 k 8 n
@[simp] theorem isIdx_9 (k : IntKind) (n : Nat) : isIdx (.int k 9) n = if 9 < n then some 9 else none := Z4 k 9 n
@[simp] theorem isBnd_9 (k : IntKind) (n : Nat) : isBnd (.int k 9) n = if 9 <= n then some 9 else none := Z5 k 9 n
@[simp] theorem isIdx_10 (k : IntKind) (n : Nat) : isIdx (.int k 10) n = if 10 < n then some 10 else none := Z4 k 10 n
@[simp] theorem isBnd_10 (k : IntKind) (n : Nat) : isBnd (.int k 10) n = if 10 <= n then some 10 else none := Z5 k 10 n
@[simp] theorem isIdx_11 (k : IntKind) (n : Nat) : isIdx (.int k 11) n = if 11 < n then some 11 else none := Z4 k 11 n
@[simp] theorem isBnd_11 (k : IntKind) (n : Nat) : isBnd (.int k 11) n = if 11 <= n then some 11 else none := Z5 k 11 n
@[simp] theorem isIdx_12 (k : IntKind) (n : Nat) : isIdx (.int k 12) n = if 12 < n then some 12 else none := Z4 k 12 n
@[simp] theorem isBnd_12 (k : IntKind) (n : Nat) : isBnd (.int k 12) n = if 12 <= n then some 12 else none := Z5 k 12 n
@[simp] theorem isIdx_13 (k : IntKind) (n : Nat) : isIdx (.int k 13) n = if 13 < n then some 13 else none := Z4 k 13 n
@[simp] theorem isBnd_13 (k : IntKind) (n : Nat) : isBnd (.int k 13) n = if 13 <= n then some 13 else none := Z5 k 13 n
@[simp] theorem isIdx_14 (k : IntKind) (n : Nat) : isIdx (.int k 14) n = if 14 < n then some 14 else none := Z4 k 14 n
@[simp] theorem isBnd_14 (k : IntKind) (n : Nat) : isBnd (.int k 14) n = if 14 <= n then some 14 else none := Z5 k 14 n
@[simp] theorem isIdx_15 (k : IntKind) (n : Nat) : isIdx (.int k 15) n = if 15 < n then some 15 else none := Z4 k 15 n
@[simp] theorem isBnd_15 (k : IntKind) (n : Nat) : isBnd (.int k 15) n = if 15 <= n then some 15 else none := Z5 k 15 n
@[simp] theorem isIdx_16 (k : IntKind) (n : Nat) : isIdx (.int k 16) n = if 16 < n then some 16 else none := Z4 k 16 n
@[simp] theorem isBnd_16 (k : IntKind) (n : Nat) : isBnd (.int k 16) n = if 16 <= n then some 16 else none := Z5 k 16 n
@[simp] theorem isIdx_17 (k : IntKind) (n : Nat) : isIdx (.int k 17) n = if 17 < n then some 17 else none := Z4 k 17 n
@[simp] theorem isBnd_17 (k : IntKind) (n : Nat) : isBnd (.int k 17) n = if 17 <= n then some 17 else none := Z5 k 17 n
@[simp] theorem isIdx_18 (k : IntKind) (n : Nat) : isIdx (.int k 18) n = if 18 < n then some 18 else none := Z4 k 18 n
@[simp] theorem isBnd_18 (k : IntKind) (n : Nat) : isBnd (.int k 18) n = if 18 <= n then some 18 else none := Z5 k 18 n
@[simp] theorem isIdx_19 (k : IntKind) (n : Nat) : isIdx (.int k 19) n = if 19 < n then some 19 else none := Z4 k 19 n
@[simp] theorem isBnd_19 (k : IntKind) (n : Nat) : isBnd (.int k 19) n = if 19 <= n then some 19 else none := Z5 k 19 n
@[simp] theorem isBnd_0 (k : IntKind) (n : Nat) : isBnd (.int k 0) n = some 0 := by have := Z5 k 0 n; simpa using this
@[simp] theorem isBnd_1 (k : IntKind) (n : Nat) : isBnd (.int k 1) n = if 1 <= n then some 1 else none := Z5 k 1 n
@[simp] theorem isIdx_succ (k : IntKind) (i n : Nat) : isIdx (.int k ((i : Int) + 1)) n = if i + 1 < n then some (i + 1) else none := Z4 k (i + 1) n
@[simp] theorem isBnd_succ (k : IntKind) (i n : Nat) : isBnd (.int k ((i : Int) + 1)) n = if i + 1 <= n then some (i + 1) else none := Z5 k (i + 1) n
structure Tok (I : Nat -> St -> Prop) : Type where mk ::
def rng (n : Nat) (I : Nat -> St -> Prop) (_ : Tok I) (m : Nat) (s : St) : Prop := ∃ i, m = n - i /\ i <= n /\ I i s
theorem W_rng {P : Program} {R : Ex -> St -> Prop} {k : List It} {s : St} {x : L} (n : Nat) (I : Nat -> St -> Prop) (h0 : I 0 s)
  (h : ∀ i s', i <= n -> I i s' -> W P R (.l x :: .lp (rng n I ⟨⟩) (n - i) :: k) s') : W P R (.l (.loop x) :: k) s :=
 Z50 (rng n I ⟨⟩) n ⟨0, by simp [h0]⟩ fun _ s' ⟨i, e, hi, hI⟩ => by rw [e]; exact h i s' hi hI
structure TokJ (J : St -> Prop) : Type where mk ::
def beh (J : St -> Prop) (_ : TokJ J) (s : St) : Prop := J s
theorem beh_of {J : St -> Prop} {t : TokJ J} {s : St} (h : J s) : beh J t s := h
theorem W_rngJ {P : Program} {R : Ex -> St -> Prop} {k : List It} {s : St} {x : L} {id : Nat} (n : Nat) (I : Nat -> St -> Prop) (J : St -> Prop) (h0 : I 0 s)
  (h : ∀ i s', i <= n -> I i s' -> W P R (.l x :: .lp (rng n I ⟨⟩) (n - i) :: .mk id :: .jn (beh J ⟨⟩) :: k) s') (hk : ∀ s', J s' -> W P R k s') : W P R (.l (.loop x) :: .mk id :: k) s := by
 have h1 : W P R (.l (.loop x) :: .mk id :: .jn (beh J ⟨⟩) :: k) s := W_rng n I h0 h
 refine Z5Y (K := denK P R (.mk id :: .jn (beh J ⟨⟩) :: k)) (K' := denK P R (.mk id :: k)) (fun e s' q => ?_) h1
 have jn : ∀ e s', denK P R (.jn (beh J ⟨⟩) :: k) e s' -> denK P R k e s' := fun e s' q => by
  cases e with
  | nrm => exact hk s' q
  | ext i => exact q
  | ret => exact q
 cases e with
 | nrm => exact jn .nrm s' q
 | ext i =>
  rw [Z6W] at q ⊢
  split
  .rename_i e; rw [if_pos e] at q; exact jn .nrm s' q
  .rename_i e; rw [if_neg e] at q; exact jn (.ext i) s' q
 | ret => exact jn .ret s' q
theorem Zu {n i : Nat} {I : Nat -> St -> Prop} {t : Tok I} {s : St} (h : i < n) (hI : I (i + 1) s) : ∃ m', m' < n - i /\ rng n I t m' s := ⟨n - (i + 1), by omega, i + 1, rfl, h, hI⟩
attribute [simp] wop.eq_38 wop.eq_40 St.hi St.lo
theorem list_of {α : Type} (e : α -> AV) {es : List AV} (h : ∀ x ∈ es, ∃ y, x = e y) : ∃ l : List α, es = l.map e := by
 induction es with
 | nil => exact ⟨[], rfl⟩
 | cons a es ih =>
  obtain ⟨y, hy⟩ := h a (by simp)
  obtain ⟨l, hl⟩ := ih fun x hx => h x (by simp [hx])
  exact ⟨y :: l, by simp [hy, hl]⟩
end Eng
end Go.Proofs.Ytjphbnaepdcikaa
namespace Go.Proofs.Ytjphbnaepdcikaa
open Go Go.RowKit Eng
structure Vec where
 a : Int
 b : Int
 c : Int
 deriving DecidableEq
@[simp] def eVec (x : Vec) : AV := .agg [.int .i64 x.a, .int .i64 x.b, .int .i64 x.c]
@[simp] theorem rdt_VecS (l : List Vec) : rdtL (l.map eVec) = l.map eVec := Z28 _ (fun _ => rfl) l
@[simp] theorem nw_VecS (l : List Vec) : NwL (l.map eVec) := Z3P _ (fun _ => by simp) l
structure Job where
 id : Int
 prio : Int
 nodes : Int
 need : Vec
 lic : Vec
 wall : Int
 level : Int
 deriving DecidableEq
@[simp] def eJob (x : Job) : AV := .agg [.int .i64 x.id, .int .i64 x.prio, .int .i64 x.nodes, .int .i64 x.need.a, .int .i64 x.need.b, .int .i64 x.need.c, .int .i64 x.lic.a, .int .i64 x.lic.b, .int .i64 x.lic.c, .int .i64 x.wall, .int .i64 x.level]
@[simp] theorem rdt_JobS (l : List Job) : rdtL (l.map eJob) = l.map eJob := Z28 _ (fun _ => rfl) l
@[simp] theorem nw_JobS (l : List Job) : NwL (l.map eJob) := Z3P _ (fun _ => by simp) l
def time (n : Int) : Bool := decide (0 <= n) && decide (n <= 1000000000)
def res (n : Int) : Bool := decide (0 <= n) && decide (n <= 1000000)
def Z1O : L :=
 .seq (
 .reg [.mv 2 (.c (.bool false))]) (
 .seq (
 .reg [.mv 3 (.t 0),.bi 4 .geq (.t 3) (.c (.int .i64 0)),.mv 5 (.t 4),.g 5 true (.mv 6 (.t 0)),.g 5 true (.bi 7 .leq (.t 6) (.c (.int .i64 1000000000))),.pk 8 (.t 5) (.t 7) (.c (.bool false)),.mv 2 (.t 8)]) (
 .ret))
def Z1y : List Rv := [.t 2]
theorem Z4N : chkFn Try.prog Z0H 1 Z1O Z1y = true := by kernel_rfl
theorem Z0s (n : Int) : Snd Try.prog Z0H [.int .i64 n] (.bool (time n)) [] := by
 refine Zo Z4N rfl rfl (den_W ?_)
 unfold Z1O Z1y time
 by_cases h : 0 <= n <;> simp [h]
def Z2A : L :=
 .seq (
 .reg [.mv 2 (.c (.bool false))]) (
 .seq (
 .reg [.mv 3 (.t 0),.bi 4 .geq (.t 3) (.c (.int .i64 0)),.mv 5 (.t 4),.g 5 true (.mv 6 (.t 0)),.g 5 true (.bi 7 .leq (.t 6) (.c (.int .i64 1000000))),.pk 8 (.t 5) (.t 7) (.c (.bool false)),.mv 2 (.t 8)]) (
 .ret))
def Z2l : List Rv := [.t 2]
theorem Z5b : chkFn Try.prog Z01 1 Z2A Z2l = true := by kernel_rfl
theorem Z2M (n : Int) : Snd Try.prog Z01 [.int .i64 n] (.bool (res n)) [] := by
 refine Zo Z5b rfl rfl (den_W ?_)
 unfold Z2A Z2l res
 by_cases h : 0 <= n <;> simp [h]
def Z2G : L :=
 .seq (
 .reg [.mv 6 (.c (.bool false))]) (
 .seq (
 .reg [.mv 7 (.t 0),.mv 8 (.t 1),.bi 9 .geq (.t 7) (.t 8),.mv 10 (.t 9),.g 10 true (.mv 11 (.t 0)),.g 10 true (.mv 12 (.t 2)),.g 10 true (.bi 13 .leq (.t 11) (.t 12)),.pk 14 (.t 10) (.t 13) (.c (.bool false)),.mv 6 (.t 14)]) (
 .ret))
def Z2q : List Rv := [.t 6]
theorem Z5h : chkFn Try.prog Za 3 Z2G Z2q = true := by kernel_rfl
theorem ZK (n a b : Int) : Snd Try.prog Za [.int .i64 n, .int .i64 a, .int .i64 b] (.bool (decide (a <= n) && decide (n <= b))) [] := by
 refine Zo Z5h rfl rfl (den_W ?_)
 unfold Z2G Z2q
 by_cases h : a <= n <;> simp [h]
def Z2H : L :=
 .seq (
 .reg [.mv 2 (.c (.bool false))]) (
 .seq (
 .reg [.mv 3 (.t 0),.cq 4 Za [(.t 3), (.c (.int .i64 0)), (.c (.int .i64 1000000000))],.mv 2 (.t 4)]) (
 .ret))
def Z2r : List Rv := [.t 2]
theorem Z5i : chkFn Try.prog Z0l 1 Z2H Z2r = true := by kernel_rfl
theorem Z6p (n : Int) : Snd Try.prog Z0l [.int .i64 n] (.bool (time n)) [] := by
 refine Zo Z5i rfl rfl (den_W ?_)
 unfold Z2H Z2r
 simp
 refine do_cq (ZK n 0 1000000000) (by simp [St.args]) ?_
 simp [time]
def dgt (n : Nat) : UInt8 := UInt8.ofNat (48 + n % 10)
def dg (n : Nat) : Str := if n < 10 then [dgt n] else dg (n / 10) ++ [dgt n]
termination_by n
decreasing_by omega
def Zv (n : Int) : Str := if time n = true then dg n.toNat else []
theorem dg_lt {n : Nat} (h : n < 10) : dg n = [dgt n] := by rw [dg, if_pos h]
theorem dg_ge {n : Nat} (h : 10 <= n) : dg n = dg (n / 10) ++ [dgt n] := by rw [dg, if_neg (by omega)]
theorem dg_len : ∀ (k n : Nat), n < 10 ^ k -> (dg n).length <= k + 1
 | 0, n, h => by rw [dg_lt (by simp at h; omega)]; simp
 | k + 1, n, h => by
  by_cases h10 : n < 10
  .rw [dg_lt h10]; simp
  .rw [dg_ge (by omega)]
   have := dg_len k (n / 10) (by rw [Nat.pow_succ] at h; omega)
   simp; omega
theorem Z2Q (n : Int) : (Zv n).length <= 10 := by
 unfold Zv
 split
 .rename_i h
  simp [time] at h
  by_cases e : n.toNat < 10 ^ 9
  .have := dg_len 9 n.toNat e; omega
  .have e : n.toNat = 1000000000 := by omega
   rw [e]; decide +kernel
 .simp
theorem Z4j {n : Int} (h0 : 0 <= n) (h1 : n < 10) : IntKind.u8.wrap (48 + n) = ((UInt8.ofNat (48 + n.toNat)).toNat : Int) := by
 unfold IntKind.wrap
 simp [IntKind.bits, IntKind.signed]
 omega
theorem u8_dgt {n : Int} (h0 : 0 <= n) : IntKind.u8.wrap (IntKind.i64.wrap (48 + n.tmod 10)) = ((dgt n.toNat).toNat : Int) := by
 have e : n.tmod 10 = n % 10 := Int.tmod_eq_emod_of_nonneg h0
 rw [e, Zi (by omega) (by omega), Z4j (by omega) (by omega)]
 have : (n % 10).toNat = n.toNat % 10 := by omega
 rw [this]; rfl
theorem Z7P {n : Int} (h0 : 0 <= n) (h1 : n < 10) : IntKind.u8.wrap (IntKind.i64.wrap (48 + n)) = ((dgt n.toNat).toNat : Int) := by
 rw [Zi (by omega) (by omega), Z4j h0 h1]
 unfold dgt
 rw [Nat.mod_eq_of_lt (by omega)]
theorem quo10 {n : Int} (h0 : 0 <= n) (h1 : n <= 9223372036854775807) : IntKind.i64.wrap (n.tdiv 10) = n / 10 := by
 have e : n.tdiv 10 = n / 10 := Int.tdiv_eq_ediv_of_nonneg h0
 rw [e, Zi (by omega) (by omega)]
def Z1U : L :=
 .seq (
 .reg [.mv 2 (.c (.str []))]) (
 .seq (
 .seq (
 .reg [.mv 4 (.t 0),.cq 5 Z0l [(.t 4)],.un 6 (.t 5)]) (
 .cond (.t 6) (
  .seq (
  .reg [.mv 2 (.c (.str []))]) (
  .ret)) (
  .skip))) (
 .seq (
 .reg [.mv 3 (.c (.str []))]) (
 .seq (
 .blk 0 (
  .loop (
   .seq (
   .seq (
   .reg [.mv 7 (.t 0),.bi 8 .gtr (.t 7) (.c (.int .i64 9))]) (
   .cond (.t 8) (
    .skip) (
    .exit 0))) (
   .blk 1 (
    .seq (
    .reg [.mv 9 (.t 0),.bi 10 .rem (.t 9) (.c (.int .i64 10)),.bi 11 .add (.c (.int .i64 48)) (.t 10),.cv 12 .u8 (.t 11),.bs 13 1 [(.t 12)] true,.b2s 14 (.t 13),.mv 15 (.t 3),.sa 16 (.t 14) (.t 15),.mv 3 (.t 16)]) (
    .reg [.mv 17 (.t 0),.bi 18 .quo (.t 17) (.c (.int .i64 10)),.mv 0 (.t 18)])))))) (
 .seq (
 .reg [.mv 19 (.t 0),.bi 20 .add (.c (.int .i64 48)) (.t 19),.cv 21 .u8 (.t 20),.bs 22 1 [(.t 21)] true,.b2s 23 (.t 22),.mv 24 (.t 3),.sa 25 (.t 23) (.t 24),.mv 2 (.t 25)]) (
 .ret)))))
def Z1E : List Rv := [.t 2]
theorem Z4T : chkFn Try.prog Z0b 1 Z1U Z1E = true := by kernel_rfl
theorem Z1W (n : Int) : Snd Try.prog Z0b [.int .i64 n] (.str (Zv n)) [] := by
 refine Zo Z4T rfl rfl (den_W ?_)
 unfold Z1U Z1E
 simp
 refine do_cq (Z6p n) (by simp [St.args]) ?_
 cases ht : time n
 .simp [Zv, ht]
 .simp
  have ht' : 0 <= n /\ n <= 1000000000 := by simpa [time] using ht
  refine Z50 (fun m s => ∃ (k : Int) (o : Str), m = k.toNat /\ 0 <= k /\ k <= 1000000000 /\ dg n.toNat = dg k.toNat ++ o /\ s.e 0 = .int .i64 k /\ s.e 3 = .str o) n.toNat ?_ ?_
  .exact ⟨n, [], by simp [ht']⟩
  .rintro m s ⟨k, o, rfl, h0, h1, hd, e0, e3⟩
   have hlen : (dg n.toNat).length <= 10 := by have := Z2Q n; simpa [Zv, ht] using this
   have hol : o.length <= 10 := by rw [hd] at hlen; simp at hlen; omega
   simp [e0, e3]
   refine ⟨fun h9 => ?_, fun h9 => ?_⟩
   .refine ⟨[dgt k.toNat], by rw [u8_dgt h0]; simp, ?_⟩
    simp
    refine ⟨by omega, k.toNat / 10, by omega, k / 10, by omega, by omega, by omega, ?_, quo10 h0 (by omega)⟩
    rw [hd, dg_ge (by omega), show (k / 10).toNat = k.toNat / 10 by omega]
    simp
   .refine ⟨[dgt k.toNat], by rw [Z7P h0 (by omega)]; simp, ?_⟩
    simp
    refine ⟨by omega, ?_⟩
    simp [Zv, ht, hd, dg_lt (show k.toNat < 10 by omega)]
structure Term where
 field : Str
 op : Str
 n : Int
 deriving DecidableEq
@[simp] def eTerm (x : Term) : AV := .agg [.str x.field, .str x.op, .int .i64 x.n]
@[simp] theorem rdt_TermS (l : List Term) : rdtL (l.map eTerm) = l.map eTerm := Z28 _ (fun _ => rfl) l
@[simp] theorem nw_TermS (l : List Term) : NwL (l.map eTerm) := Z3P _ (fun _ => by simp) l
def idxOf {α : Type} (l : List α) (p : α -> Bool) : Int := match l.findIdx? p with | some i => (i : Nat) | none => -1
theorem Z5q {α : Type} {l : List α} {p : α -> Bool} {i : Nat} (h : i < l.length) (hp : p l[i] = true) (hn : ∀ k, k < i -> ∀ h, p (l[k]'h) = false) : idxOf l p = (i : Nat) := by
 have : l.findIdx? p = some i := by
  rw [List.findIdx?_eq_some_iff_getElem]
  exact ⟨h, hp, fun j hj => by simp [hn j hj (by omega)]⟩
 rw [idxOf, this]
theorem Z5r {α : Type} {l : List α} {p : α -> Bool} (hn : ∀ k, k < l.length -> ∀ h, p (l[k]'h) = false) : idxOf l p = -1 := by
 have : l.findIdx? p = none := by
  rw [List.findIdx?_eq_none_iff]
  intro x hx
  obtain ⟨i, hi, rfl⟩ := List.getElem_of_mem hx
  exact hn i hi hi
 rw [idxOf, this]
theorem Z6s {α : Type} (l : List α) (p : α -> Bool) : decide (0 <= idxOf l p) = l.any p := by
 unfold idxOf
 cases h : l.findIdx? p with
 | none =>
  rw [List.findIdx?_eq_none_iff] at h
  have : l.any p = false := by rw [List.any_eq_false]; intro x hx; simp [h x hx]
  simp [this]
 | some i =>
  rw [List.findIdx?_eq_some_iff_getElem] at h
  obtain ⟨hi, hp, _⟩ := h
  have : l.any p = true := by rw [List.any_eq_true]; exact ⟨_, List.getElem_mem hi, hp⟩
  simp [this]
structure Cap (cap : List AV) : Prop where
 dt : ∀ s : St, s.dtL cap = some cap
 rd : rdtL cap = cap
theorem Cap.nil : Cap [] := ⟨fun _ => rfl, rfl⟩
def Zr : L :=
 .seq (
 .reg [.mv 4 (.c (.int .i64 0))]) (
 .seq (
 .seq (
 .reg [.mv 6 (.t 0),.ln 7 (.t 6),.mv 8 (.c (.int .i64 0))]) (
 .blk 0 (
  .loop (
   .seq (
   .reg [.bi 9 .lss (.t 8) (.t 7)]) (
   .seq (
   .cond (.t 9) (
    .skip) (
    .exit 0)) (
   .seq (
   .blk 1 (
    .seq (
    .reg [.mv 10 (.t 8),.mv 5 (.t 10)]) (
    .seq (
    .reg [.mv 11 (.t 1),.mv 12 (.t 0),.mv 13 (.t 5),.ia 14 (.t 12) (.t 13) 11,.ld 15 (.t 14) 11 true,.cc 16 (.t 11) [(.t 15)]]) (
    .cond (.t 16) (
     .seq (
     .reg [.mv 17 (.t 5),.mv 4 (.t 17)]) (
     .ret)) (
     .skip))))) (
   .reg [.bi 18 .add (.t 8) (.c (.int .i64 1)),.mv 8 (.t 18)]))))))) (
 .seq (
 .reg [.mv 4 (.c (.int .i64 (-1)))]) (
 .ret)))
def Zq : List Rv := [.t 4]
theorem ZN : chkFn Try.prog Zd 2 Zr Zq = true := by kernel_rfl
theorem Z5Q (l : List Job) (f : Nat) (cap : List AV) (p : Job -> Bool) (hf : isFn Try.prog f = true) (hc : Cap cap) (hp : ∀ x, Snd Try.prog f (eJob x :: cap) (.bool (p x)) []) :
  Snd Try.prog Zd [.sl .rd 11 (l.map eJob), .fn f cap] (.int .i64 (idxOf l p)) [] := by
 refine Zo ZN rfl (by simp [hc.rd]) (den_W ?_)
 unfold Zr Zq
 simp
 intro hl
 refine W_rng l.length (fun i s => (∀ k, k < i -> ∀ h, p (l[k]'h) = false) /\ s.e 0 = .sl .rd 11 (l.map eJob) /\ s.e 1 = .fn f cap /\ s.e 7 = .int .i64 l.length /\ s.e 8 = .int .i64 (i : Nat)) ?_ ?_
 .simp
 .rintro i s hi ⟨hu, h0, h1, h7, h8⟩
  by_cases h : i < l.length
  .simp [h0, h1, h7, h8, h]
   refine do_cc (cap := cap) (show Snd Try.prog f ([eJob l[i]] ++ cap) _ _ from hp l[i]) (by simp [St.args, St.dtL, hc.dt, hc.rd]) hf ?_
   cases hb : p l[i]
   .simp [h8]
    refine Zu h ?_
    simp [h0, h1, h7, Zb h hl]
    intro k hk hk'
    by_cases e : k = i
    .subst e; exact hb
    .exact hu k (by omega) hk'
   .simp [Z5q h hb hu]
  .have : i = l.length := by omega
   subst this
   simp [h0, h1, h7, h8, Z5r hu]
def Zl : L :=
 .seq (
 .reg [.mv 4 (.c (.bool false))]) (
 .seq (
 .reg [.mv 5 (.t 0),.mv 6 (.t 1),.cq 7 Zd [(.t 5), (.t 6)],.bi 8 .geq (.t 7) (.c (.int .i64 0)),.mv 4 (.t 8)]) (
 .ret))
def Zk : List Rv := [.t 4]
theorem ZJ : chkFn Try.prog Z8 2 Zl Zk = true := by kernel_rfl
theorem Z46 (l : List Job) (f : Nat) (cap : List AV) (p : Job -> Bool) (hf : isFn Try.prog f = true) (hc : Cap cap) (hp : ∀ x, Snd Try.prog f (eJob x :: cap) (.bool (p x)) []) :
  Snd Try.prog Z8 [.sl .rd 11 (l.map eJob), .fn f cap] (.bool (l.any p)) [] := by
 refine Zo ZJ rfl (by simp [hc.rd]) (den_W ?_)
 unfold Zl Zk
 simp
 refine do_cq (Z5Q l f cap p hf hc hp) (by simp [St.args, hc.dt, hc.rd]) ?_
 simp [Z6s]
def Zn : L :=
 .seq (
 .reg [.mv 4 (.c (.int .i64 0))]) (
 .seq (
 .seq (
 .reg [.mv 6 (.t 0),.ln 7 (.t 6),.mv 8 (.c (.int .i64 0))]) (
 .blk 0 (
  .loop (
   .seq (
   .reg [.bi 9 .lss (.t 8) (.t 7)]) (
   .seq (
   .cond (.t 9) (
    .skip) (
    .exit 0)) (
   .seq (
   .blk 1 (
    .seq (
    .reg [.mv 10 (.t 8),.mv 5 (.t 10)]) (
    .seq (
    .reg [.mv 11 (.t 1),.mv 12 (.t 0),.mv 13 (.t 5),.ia 14 (.t 12) (.t 13) 3,.ld 15 (.t 14) 3 true,.cc 16 (.t 11) [(.t 15)]]) (
    .cond (.t 16) (
     .seq (
     .reg [.mv 17 (.t 5),.mv 4 (.t 17)]) (
     .ret)) (
     .skip))))) (
   .reg [.bi 18 .add (.t 8) (.c (.int .i64 1)),.mv 8 (.t 18)]))))))) (
 .seq (
 .reg [.mv 4 (.c (.int .i64 (-1)))]) (
 .ret)))
def Zm : List Rv := [.t 4]
theorem ZL : chkFn Try.prog Z9 2 Zn Zm = true := by kernel_rfl
theorem Z55 (l : List Term) (f : Nat) (cap : List AV) (p : Term -> Bool) (hf : isFn Try.prog f = true) (hc : Cap cap) (hp : ∀ x, Snd Try.prog f (eTerm x :: cap) (.bool (p x)) []) :
  Snd Try.prog Z9 [.sl .rd 3 (l.map eTerm), .fn f cap] (.int .i64 (idxOf l p)) [] := by
 refine Zo ZL rfl (by simp [hc.rd]) (den_W ?_)
 unfold Zn Zm
 simp
 intro hl
 refine W_rng l.length (fun i s => (∀ k, k < i -> ∀ h, p (l[k]'h) = false) /\ s.e 0 = .sl .rd 3 (l.map eTerm) /\ s.e 1 = .fn f cap /\ s.e 7 = .int .i64 l.length /\ s.e 8 = .int .i64 (i : Nat)) ?_ ?_
 .simp
 .rintro i s hi ⟨hu, h0, h1, h7, h8⟩
  by_cases h : i < l.length
  .simp [h0, h1, h7, h8, h]
   refine do_cc (cap := cap) (show Snd Try.prog f ([eTerm l[i]] ++ cap) _ _ from hp l[i]) (by simp [St.args, St.dtL, hc.dt, hc.rd]) hf ?_
   cases hb : p l[i]
   .simp [h8]
    refine Zu h ?_
    simp [h0, h1, h7, Zb h hl]
    intro k hk hk'
    by_cases e : k = i
    .subst e; exact hb
    .exact hu k (by omega) hk'
   .simp [Z5q h hb hu]
  .have : i = l.length := by omega
   subst this
   simp [h0, h1, h7, h8, Z5r hu]
def Zh : L :=
 .seq (
 .reg [.mv 4 (.c (.bool false))]) (
 .seq (
 .reg [.mv 5 (.t 0),.mv 6 (.t 1),.cq 7 Z9 [(.t 5), (.t 6)],.bi 8 .geq (.t 7) (.c (.int .i64 0)),.mv 4 (.t 8)]) (
 .ret))
def Zg : List Rv := [.t 4]
theorem ZE : chkFn Try.prog Z3 2 Zh Zg = true := by kernel_rfl
theorem Z0W (l : List Term) (f : Nat) (cap : List AV) (p : Term -> Bool) (hf : isFn Try.prog f = true) (hc : Cap cap) (hp : ∀ x, Snd Try.prog f (eTerm x :: cap) (.bool (p x)) []) :
  Snd Try.prog Z3 [.sl .rd 3 (l.map eTerm), .fn f cap] (.bool (l.any p)) [] := by
 refine Zo ZE rfl (by simp [hc.rd]) (den_W ?_)
 unfold Zh Zg
 simp
 refine do_cq (Z55 l f cap p hf hc hp) (by simp [St.args, hc.dt, hc.rd]) ?_
 simp [Z6s]
def vecOk (v : Vec) : Bool := res v.a && res v.b && res v.c
def Z3f : L :=
 .seq (
 .reg [.bx 1 (.t 0),.mv 2 (.c (.bool false))]) (
 .seq (
 .reg [.fa 3 (.t 1) 0,.ld 4 (.t 3) 1 false,.cq 5 Z01 [(.t 4)],.mv 6 (.t 5),.g 6 true (.fa 7 (.t 1) 1),.g 6 true (.ld 8 (.t 7) 1 false),.g 6 true (.cq 9 Z01 [(.t 8)]),.pk 10 (.t 6) (.t 9) (.c (.bool false)),.mv 11 (.t 10),.g 11 true (.fa 12 (.t 1) 2),.g 11 true (.ld 13 (.t 12) 1 false),.g 11 true (.cq 14 Z01 [(.t 13)]),.pk 15 (.t 11) (.t 14) (.c (.bool false)),.mv 2 (.t 15)]) (
 .ret))
def Z30 : List Rv := [.t 2]
theorem Z5Z : chkFn Try.prog Z0w 1 Z3f Z30 = true := by kernel_rfl
theorem Z2X (v : Vec) : Snd Try.prog Z0w [eVec v] (.bool (vecOk v)) [] := by
 refine Zo Z5Z rfl rfl (den_W ?_)
 unfold Z3f Z30 vecOk
 simp
 refine do_cq (Z2M v.a) (by simp [St.args]) ?_
 cases res v.a <;> simp
 refine do_cq (Z2M v.b) (by simp [St.args]) ?_
 cases res v.b <;> simp
 refine do_cq (Z2M v.c) (by simp [St.args]) ?_
 cases res v.c <;> simp
def Z3k : L :=
 .seq (
 .reg [.bx 1 (.t 0),.mv 2 (.c (.bool false))]) (
 .seq (
 .reg [.fa 3 (.t 1) 0,.ld 4 (.t 3) 1 false,.cq 5 Za [(.t 4), (.c (.int .i64 0)), (.c (.int .i64 1000000))],.mv 6 (.t 5),.g 6 true (.fa 7 (.t 1) 1),.g 6 true (.ld 8 (.t 7) 1 false),.g 6 true (.cq 9 Za [(.t 8), (.c (.int .i64 0)), (.c (.int .i64 1000000))]),.pk 10 (.t 6) (.t 9) (.c (.bool false)),.mv 11 (.t 10),.g 11 true (.fa 12 (.t 1) 2),.g 11 true (.ld 13 (.t 12) 1 false),.g 11 true (.cq 14 Za [(.t 13), (.c (.int .i64 0)), (.c (.int .i64 1000000))]),.pk 15 (.t 11) (.t 14) (.c (.bool false)),.mv 2 (.t 15)]) (
 .ret))
def Z35 : List Rv := [.t 2]
theorem Z64 : chkFn Try.prog Z0A 1 Z3k Z35 = true := by kernel_rfl
theorem Z3o (v : Vec) : Snd Try.prog Z0A [eVec v] (.bool (vecOk v)) [] := by
 refine Zo Z64 rfl rfl (den_W ?_)
 unfold Z3k Z35 vecOk
 simp
 refine do_cq (ZK v.a 0 1000000) (by simp [St.args]) ?_
 rw [show (decide (0 <= v.a) && decide (v.a <= 1000000)) = res v.a from rfl]
 cases res v.a <;> simp
 refine do_cq (ZK v.b 0 1000000) (by simp [St.args]) ?_
 rw [show (decide (0 <= v.b) && decide (v.b <= 1000000)) = res v.b from rfl]
 cases res v.b <;> simp
 refine do_cq (ZK v.c 0 1000000) (by simp [St.args]) ?_
 rw [show (decide (0 <= v.c) && decide (v.c <= 1000000)) = res v.c from rfl]
 cases res v.c <;> simp
def inR (n a b : Int) : Bool := decide (a <= n) && decide (n <= b)
def jobOk (j : Job) : Bool := inR j.id 1 999 && inR j.prio 0 999 && inR j.nodes 1 24 && vecOk j.need && vecOk j.lic && inR j.wall 1 1000000 && inR j.level 0 24
def Z3m : L :=
 .seq (
 .reg [.bx 1 (.t 0),.mv 2 (.c (.bool false))]) (
 .seq (
 .reg [.fa 3 (.t 1) 0,.ld 4 (.t 3) 1 false,.cq 5 Za [(.t 4), (.c (.int .i64 1)), (.c (.int .i64 999))],.mv 6 (.t 5),.g 6 true (.fa 7 (.t 1) 1),.g 6 true (.ld 8 (.t 7) 1 false),.g 6 true (.cq 9 Za [(.t 8), (.c (.int .i64 0)), (.c (.int .i64 999))]),.pk 10 (.t 6) (.t 9) (.c (.bool false)),.mv 11 (.t 10),.g 11 true (.fa 12 (.t 1) 2),.g 11 true (.ld 13 (.t 12) 1 false),.g 11 true (.cq 14 Za [(.t 13), (.c (.int .i64 1)), (.c (.int .i64 24))]),.pk 15 (.t 11) (.t 14) (.c (.bool false)),.mv 16 (.t 15),.g 16 true (.fa 17 (.t 1) 3),.g 16 true (.ld 18 (.t 17) 3 true),.g 16 true (.cq 19 Z0A [(.t 18)]),.pk 20 (.t 16) (.t 19) (.c (.bool false)),.mv 21 (.t 20),.g 21 true (.fa 22 (.t 1) 6),.g 21 true (.ld 23 (.t 22) 3 true),.g 21 true (.cq 24 Z0A [(.t 23)]),.pk 25 (.t 21) (.t 24) (.c (.bool false)),.mv 26 (.t 25),.g 26 true (.fa 27 (.t 1) 9),.g 26 true (.ld 28 (.t 27) 1 false),.g 26 true (.cq 29 Za [(.t 28), (.c (.int .i64 1)), (.c (.int .i64 1000000))]),.pk 30 (.t 26) (.t 29) (.c (.bool false)),.mv 31 (.t 30),.g 31 true (.fa 32 (.t 1) 10),.g 31 true (.ld 33 (.t 32) 1 false),.g 31 true (.cq 34 Za [(.t 33), (.c (.int .i64 0)), (.c (.int .i64 24))]),.pk 35 (.t 31) (.t 34) (.c (.bool false)),.mv 2 (.t 35)]) (
 .ret))
def Z37 : List Rv := [.t 2]
theorem Z66 : chkFn Try.prog Z0B 1 Z3m Z37 = true := by kernel_rfl
theorem Z3p (j : Job) : Snd Try.prog Z0B [eJob j] (.bool (jobOk j)) [] := by
 refine Zo Z66 rfl rfl (den_W ?_)
 unfold Z3m Z37 jobOk
 simp
 refine do_cq (ZK j.id 1 999) (by simp [St.args]) ?_
 rw [show (decide (1 <= j.id) && decide (j.id <= 999)) = inR j.id 1 999 from rfl]
 cases inR j.id 1 999 <;> simp
 refine do_cq (ZK j.prio 0 999) (by simp [St.args]) ?_
 rw [show (decide (0 <= j.prio) && decide (j.prio <= 999)) = inR j.prio 0 999 from rfl]
 cases inR j.prio 0 999 <;> simp
 refine do_cq (ZK j.nodes 1 24) (by simp [St.args]) ?_
 rw [show (decide (1 <= j.nodes) && decide (j.nodes <= 24)) = inR j.nodes 1 24 from rfl]
 cases inR j.nodes 1 24 <;> simp
 refine do_cq (Z3o j.need) (by simp [St.args]) ?_
 cases vecOk j.need <;> simp
 refine do_cq (Z3o j.lic) (by simp [St.args]) ?_
 cases vecOk j.lic <;> simp
 refine do_cq (ZK j.wall 1 1000000) (by simp [St.args]) ?_
 rw [show (decide (1 <= j.wall) && decide (j.wall <= 1000000)) = inR j.wall 1 1000000 from rfl]
 cases inR j.wall 1 1000000 <;> simp
 refine do_cq (ZK j.level 0 24) (by simp [St.args]) ?_
 rw [show (decide (0 <= j.level) && decide (j.level <= 24)) = inR j.level 0 24 from rfl]
 cases inR j.level 0 24 <;> simp
def Z3g : L :=
 .seq (
 .reg [.bx 1 (.t 0),.mv 2 (.c (.bool false))]) (
 .seq (
 .seq (
 .reg [.fa 3 (.t 1) 0,.ld 4 (.t 3) 1 false,.bi 5 .lss (.t 4) (.c (.int .i64 1)),.mv 6 (.t 5),.g 6 false (.fa 7 (.t 1) 0),.g 6 false (.ld 8 (.t 7) 1 false),.g 6 false (.bi 9 .gtr (.t 8) (.c (.int .i64 999))),.pk 10 (.t 6) (.c (.bool true)) (.t 9),.mv 11 (.t 10),.g 11 false (.fa 12 (.t 1) 1),.g 11 false (.ld 13 (.t 12) 1 false),.g 11 false (.bi 14 .lss (.t 13) (.c (.int .i64 0))),.pk 15 (.t 11) (.c (.bool true)) (.t 14),.mv 16 (.t 15),.g 16 false (.fa 17 (.t 1) 1),.g 16 false (.ld 18 (.t 17) 1 false),.g 16 false (.bi 19 .gtr (.t 18) (.c (.int .i64 999))),.pk 20 (.t 16) (.c (.bool true)) (.t 19),.mv 21 (.t 20),.g 21 false (.fa 22 (.t 1) 2),.g 21 false (.ld 23 (.t 22) 1 false),.g 21 false (.bi 24 .lss (.t 23) (.c (.int .i64 1))),.pk 25 (.t 21) (.c (.bool true)) (.t 24),.mv 26 (.t 25),.g 26 false (.fa 27 (.t 1) 2),.g 26 false (.ld 28 (.t 27) 1 false),.g 26 false (.bi 29 .gtr (.t 28) (.c (.int .i64 24))),.pk 30 (.t 26) (.c (.bool true)) (.t 29)]) (
 .cond (.t 30) (
  .seq (
  .reg [.mv 2 (.c (.bool false))]) (
  .ret)) (
  .skip))) (
 .seq (
 .reg [.fa 31 (.t 1) 3,.ld 32 (.t 31) 3 true,.cq 33 Z0w [(.t 32)],.mv 34 (.t 33),.g 34 true (.fa 35 (.t 1) 6),.g 34 true (.ld 36 (.t 35) 3 true),.g 34 true (.cq 37 Z0w [(.t 36)]),.pk 38 (.t 34) (.t 37) (.c (.bool false)),.mv 39 (.t 38),.g 39 true (.fa 40 (.t 1) 9),.g 39 true (.ld 41 (.t 40) 1 false),.g 39 true (.bi 42 .geq (.t 41) (.c (.int .i64 1))),.pk 43 (.t 39) (.t 42) (.c (.bool false)),.mv 44 (.t 43),.g 44 true (.fa 45 (.t 1) 9),.g 44 true (.ld 46 (.t 45) 1 false),.g 44 true (.bi 47 .leq (.t 46) (.c (.int .i64 1000000))),.pk 48 (.t 44) (.t 47) (.c (.bool false)),.mv 49 (.t 48),.g 49 true (.fa 50 (.t 1) 10),.g 49 true (.ld 51 (.t 50) 1 false),.g 49 true (.bi 52 .geq (.t 51) (.c (.int .i64 0))),.pk 53 (.t 49) (.t 52) (.c (.bool false)),.mv 54 (.t 53),.g 54 true (.fa 55 (.t 1) 10),.g 54 true (.ld 56 (.t 55) 1 false),.g 54 true (.bi 57 .leq (.t 56) (.c (.int .i64 24))),.pk 58 (.t 54) (.t 57) (.c (.bool false)),.mv 2 (.t 58)]) (
 .ret)))
def Z31 : List Rv := [.t 2]
theorem Z60 : chkFn Try.prog Z0x 1 Z3g Z31 = true := by kernel_rfl
set_option maxRecDepth 10000 in
theorem Z2Y (j : Job) : Snd Try.prog Z0x [eJob j] (.bool (jobOk j)) [] := by
 refine Zo Z60 rfl rfl (den_W ?_)
 unfold Z3g Z31 jobOk
 by_cases h1 : 1 <= j.id
 rotate_left
 .simp [inR, h1, Int.not_le.1 h1]
 by_cases h2 : j.id <= 999
 rotate_left
 .simp [inR, h1, h2, Int.not_le.1 h2, Int.not_lt.2 h1]
 by_cases h3 : 0 <= j.prio
 rotate_left
 .simp [inR, h1, h2, h3, Int.not_le.1 h3, Int.not_lt.2 h1, Int.not_lt.2 h2]
 by_cases h4 : j.prio <= 999
 rotate_left
 .simp [inR, h1, h2, h3, h4, Int.not_le.1 h4, Int.not_lt.2 h1, Int.not_lt.2 h2, Int.not_lt.2 h3]
 by_cases h5 : 1 <= j.nodes
 rotate_left
 .simp [inR, h1, h2, h3, h4, h5, Int.not_le.1 h5, Int.not_lt.2 h1, Int.not_lt.2 h2, Int.not_lt.2 h3, Int.not_lt.2 h4]
 by_cases h6 : j.nodes <= 24
 rotate_left
 .simp [inR, h1, h2, h3, h4, h5, h6, Int.not_le.1 h6, Int.not_lt.2 h1, Int.not_lt.2 h2, Int.not_lt.2 h3, Int.not_lt.2 h4, Int.not_lt.2 h5]
 simp [inR, h1, h2, h3, h4, h5, h6, Int.not_lt.2 h1, Int.not_lt.2 h2, Int.not_lt.2 h3, Int.not_lt.2 h4, Int.not_lt.2 h5, Int.not_lt.2 h6]
 refine do_cq (Z2X j.need) (by simp [St.args]) ?_
 cases vecOk j.need <;> simp
 refine do_cq (Z2X j.lic) (by simp [St.args]) ?_
 cases vecOk j.lic <;> simp
 by_cases h7 : 1 <= j.wall
 rotate_left
 .simp [h7]
 by_cases h8 : j.wall <= 1000000
 rotate_left
 .simp [h7, h8]
 by_cases h9 : 0 <= j.level
 rotate_left
 .simp [h7, h8, h9]
 simp [h7, h8, h9]
structure Hole where
 a : Int
 b : Int
 deriving DecidableEq
@[simp] def eHole (x : Hole) : AV := .agg [.int .i64 x.a, .int .i64 x.b]
@[simp] theorem rdt_HoleS (l : List Hole) : rdtL (l.map eHole) = l.map eHole := Z28 _ (fun _ => rfl) l
@[simp] theorem nw_HoleS (l : List Hole) : NwL (l.map eHole) := Z3P _ (fun _ => by simp) l
def upto (n : Nat) (p : Nat -> Bool) : Bool := (List.range n).all p
theorem Z5z {n : Nat} {p : Nat -> Bool} : upto n p = true ↔ ∀ i, i < n -> p i = true := by simp [upto]
theorem Z7z {n : Nat} {p : Nat -> Bool} {i : Nat} (hi : i < n) (h : p i = false) : upto n p = false := by
 cases hu : upto n p with
 | false => rfl
 | true => have := Z5z.1 hu i hi; rw [h] at this; cases this
theorem Z6d {n : Nat} {p : Nat -> Bool} (h : upto n p = true) (hp : p n = true) : upto (n + 1) p = true := by
 rw [Z5z] at *
 intro i hi
 by_cases e : i = n
 .subst e; exact hp
 .exact h i (by omega)
theorem Z3w {α : Type} {l : List α} {p : α -> Bool} {k : Nat} (h : k < l.length) (ha : (l.take k).any p = false) (hp : p l[k] = false) : (l.take (k + 1)).any p = false := by
 rw [List.take_succ_eq_append_getElem h, List.any_append, ha]; simp [hp]
theorem Z6I {α : Type} {l : List α} {p : α -> Bool} {k i : Nat} (h : k < l.length) (hk : k < i) (hp : p l[k] = true) : (l.take i).any p = true := by
 rw [List.any_eq_true]
 refine ⟨l[k], ?_, hp⟩
 rw [List.mem_take_iff_getElem]
 exact ⟨k, by omega, rfl⟩
theorem Cap.one {e : AV} {o : Nat} (h : e.rdt = e) : Cap [.ept e o] := ⟨fun s => by simp [St.dtL, St.dt], by simp [rdtL, AV.rdt, h]⟩
def Z0P (l : List Job) (i : Nat) : Bool := match l[i]? with | none => true | some j => jobOk j && !(l.take i).any (fun k => decide (k.id = j.id))
def ZS (l : List Job) : Bool := decide (l.length <= 60) && upto l.length (Z0P l)
theorem Z1G {l : List Job} {i : Nat} (h : i < l.length) : Z0P l i = (jobOk l[i] && !(l.take i).any (fun k => decide (k.id = l[i].id))) := by
 unfold Z0P; rw [yA h]
theorem Z10 {l : List Job} {i : Nat} (h : i < l.length) (hg : Z0P l i = false) : ZS l = false := by
 unfold ZS; rw [Z7z h hg]; simp
def Z1Q : L :=
 .seq (
 .reg [.mv 2 (.c (.bool false))]) (
 .seq (
 .seq (
 .reg [.mv 6 (.t 0),.ln 7 (.t 6),.bi 8 .gtr (.t 7) (.c (.int .i64 60))]) (
 .cond (.t 8) (
  .seq (
  .reg [.mv 2 (.c (.bool false))]) (
  .ret)) (
  .skip))) (
 .seq (
 .seq (
 .reg [.mv 9 (.t 0),.ln 10 (.t 9),.mv 11 (.c (.int .i64 0))]) (
 .blk 0 (
  .loop (
   .seq (
   .reg [.bi 12 .lss (.t 11) (.t 10)]) (
   .seq (
   .cond (.t 12) (
    .skip) (
    .exit 0)) (
   .seq (
   .blk 1 (
    .seq (
    .reg [.mv 13 (.t 11),.ia 14 (.t 9) (.t 11) 11,.ld 15 (.t 14) 11 true,.al 4 [.int .i64 0, .int .i64 0, .int .i64 0, .int .i64 0, .int .i64 0, .int .i64 0, .int .i64 0, .int .i64 0, .int .i64 0, .int .i64 0, .int .i64 0],.mv 3 (.t 13),.st (.t 4) (.t 15) 11]) (
    .seq (
    .seq (
    .reg [.ld 16 (.t 4) 11 true,.cq 17 Z0x [(.t 16)],.un 18 (.t 17)]) (
    .cond (.t 18) (
     .seq (
     .reg [.mv 2 (.c (.bool false))]) (
     .ret)) (
     .skip))) (
    .seq (
    .reg [.mv 5 (.c (.int .i64 0))]) (
    .blk 2 (
     .loop (
      .seq (
      .seq (
      .reg [.mv 19 (.t 5),.mv 20 (.t 3),.bi 21 .lss (.t 19) (.t 20)]) (
      .cond (.t 21) (
       .skip) (
       .exit 2))) (
      .seq (
      .blk 3 (
       .seq (
       .rq 8 [.mv 24 (.t 0),.mv 25 (.t 5),.ia 26 (.t 24) (.t 25) 11,.fa 27 (.t 26) 0,.ld 28 (.t 27) 1 false,.fa 29 (.t 4) 0,.ld 30 (.t 29) 1 false,.bi 31 .eql (.t 28) (.t 30)]) (
       .cond (.t 31) (
        .seq (
        .reg [.mv 2 (.c (.bool false))]) (
        .ret)) (
        .skip)))) (
      .reg [.mv 22 (.t 5),.bi 23 .add (.t 22) (.c (.int .i64 1)),.mv 5 (.t 23)]))))))))) (
   .reg [.bi 32 .add (.t 11) (.c (.int .i64 1)),.mv 11 (.t 32)]))))))) (
 .seq (
 .reg [.mv 2 (.c (.bool true))]) (
 .ret))))
def Z1A : List Rv := [.t 2]
theorem Z4P : chkFn Try.prog Z0a 1 Z1Q Z1A = true := by kernel_rfl
theorem Z1t (l : List Job) : Snd Try.prog Z0a [.sl .rd 11 (l.map eJob)] (.bool (ZS l)) [] := by
 refine Zo Z4P rfl (by simp) (den_W ?_)
 unfold Z1Q Z1A
 simp
 intro hl
 by_cases h60 : l.length <= 60
 rotate_left
 .have e : (60 : Int) < l.length := by omega
  have e' : ¬ (l.length : Int) <= 60 := by omega
  simp [e, e', ZS, h60]
 have e : ¬ (60 : Int) < l.length := by omega
 have e' : (l.length : Int) <= 60 := by omega
 simp [e, e']
 intro _
 refine W_rng l.length (fun i s => upto i (Z0P l) = true /\ s.e 0 = .sl .rd 11 (l.map eJob) /\ s.e 9 = .sl .rd 11 (l.map eJob) /\ s.e 10 = .int .i64 l.length /\ s.e 11 = .int .i64 (i : Nat)) ?_ ?_
 .simp [upto]
 .rintro i s hi ⟨hu, h0, h9, h10, h11⟩
  by_cases h : i < l.length
  .simp [h9, h10, h11, h]
   have hg := Z1G h
   refine do_cq (Z2Y l[i]) (by simp [St.args]) ?_
   cases hj : jobOk l[i]
   .simp [Z10 h (by simp [hg, hj])]
   simp
   refine W_rng i (fun k s => (l.take k).any (fun x => decide (x.id = l[i].id)) = false /\ s.e 0 = .sl .rd 11 (l.map eJob) /\ s.e 9 = .sl .rd 11 (l.map eJob) /\ s.e 10 = .int .i64 l.length /\ s.e 11 = .int .i64 (i : Nat) /\ s.e 3 = .int .i64 (i : Nat) /\
    s.e 4 = .ptr 4 0 /\ s.bx 4 = some (eJob l[i]).cells /\ s.e 5 = .int .i64 (k : Nat)) ?_ ?_
   .simp [h0, h9, h10, h11]
   .rintro k s hk ⟨ha, h0, h9, h10, h11, h3, h4, hb, h5⟩
    by_cases hki : k < i
    .have hkl : k < l.length := by omega
     simp [h0, h11, h3, h4, hb, h5, hki, hkl]
     refine ⟨fun hid => ?_, fun hid => ?_⟩
     .have := Z6I (p := fun x => decide (x.id = l[i].id)) hkl hki (by simp [hid])
      exact Z10 h (by rw [hg, hj, this]; rfl)
     .refine Zu hki ?_
      simp [h0, h9, h10, h11, h3, h4, hb, Zb hki (by omega : i <= 9223372036854775807)]
      simpa using Z3w (p := fun x => decide (x.id = l[i].id)) hkl ha (by simp [hid])
    .have : k = i := by omega
     subst this
     simp [h0, h11, h3, h4, hb, h5]
     refine Zu h ?_
     simp [h0, h9, h10, Zb h hl]
     exact Z6d hu (by rw [hg, hj, ha]; rfl)
  .have : i = l.length := by omega
   subst this
   simp [h9, h10, h11, ZS, h60, hu]
def Z0T : L :=
 .seq (
 .reg [.bx 2 (.t 0),.mv 3 (.c (.bool false))]) (
 .seq (
 .reg [.fa 4 (.t 2) 0,.ld 5 (.t 4) 1 false,.fa 6 (.t 1) 0,.ld 7 (.t 6) 1 false,.bi 8 .eql (.t 5) (.t 7),.mv 3 (.t 8)]) (
 .ret))
def Z0N : List Rv := [.t 3]
theorem Z3K : chkFn Try.prog ZR 2 Z0T Z0N = true := by kernel_rfl
theorem Z6K (x j : Job) : Snd Try.prog ZR [eJob x, .ept (eJob j) 0] (.bool (decide (x.id = j.id))) [] := by
 refine Zo Z3K rfl (by simp) (den_W ?_)
 unfold Z0T Z0N
 simp
def Z1T : L :=
 .seq (
 .reg [.mv 2 (.c (.bool false))]) (
 .seq (
 .seq (
 .reg [.mv 5 (.t 0),.ln 6 (.t 5),.mv 7 (.c (.int .i64 0))]) (
 .blk 0 (
  .loop (
   .seq (
   .reg [.bi 8 .lss (.t 7) (.t 6)]) (
   .seq (
   .cond (.t 8) (
    .skip) (
    .exit 0)) (
   .seq (
   .blk 1 (
    .seq (
    .reg [.mv 9 (.t 7),.ia 10 (.t 5) (.t 7) 11,.ld 11 (.t 10) 11 true,.al 4 [.int .i64 0, .int .i64 0, .int .i64 0, .int .i64 0, .int .i64 0, .int .i64 0, .int .i64 0, .int .i64 0, .int .i64 0, .int .i64 0, .int .i64 0],.mv 3 (.t 9),.st (.t 4) (.t 11) 11]) (
    .seq (
    .reg [.fb 4,.ld 12 (.t 4) 11 true,.cq 13 Z0B [(.t 12)],.un 14 (.t 13),.mv 15 (.t 14),.g 15 false (.mv 16 (.t 0)),.g 15 false (.mv 17 (.t 3)),.g 15 false (.sc 18 (.t 16) none (some (.t 17)) 11),.g 15 false (.mf 19 ZR [(.t 4)]),.g 15 false (.cq 20 Z8 [(.t 18), (.t 19)]),.pk 21 (.t 15) (.c (.bool true)) (.t 20)]) (
    .cond (.t 21) (
     .seq (
     .reg [.mv 2 (.c (.bool false))]) (
     .ret)) (
     .skip))))) (
   .reg [.bi 22 .add (.t 7) (.c (.int .i64 1)),.mv 7 (.t 22)]))))))) (
 .seq (
 .reg [.mv 23 (.t 0),.ln 24 (.t 23),.bi 25 .leq (.t 24) (.c (.int .i64 60)),.mv 2 (.t 25)]) (
 .ret)))
def Z1D : List Rv := [.t 2]
theorem Z4S : chkFn Try.prog Z0K 1 Z1T Z1D = true := by kernel_rfl
theorem Z4D (l : List Job) : Snd Try.prog Z0K [.sl .rd 11 (l.map eJob)] (.bool (ZS l)) [] := by
 refine Zo Z4S rfl (by simp) (den_W ?_)
 unfold Z1T Z1D
 simp
 intro hl
 refine W_rng l.length (fun i s => upto i (Z0P l) = true /\ s.e 0 = .sl .rd 11 (l.map eJob) /\ s.e 5 = .sl .rd 11 (l.map eJob) /\ s.e 6 = .int .i64 l.length /\ s.e 7 = .int .i64 (i : Nat)) ?_ ?_
 .simp [upto]
 .rintro i s hi ⟨hu, h0, h5, h6, h7⟩
  by_cases h : i < l.length
  .simp [h0, h5, h6, h7, h]
   have hg := Z1G h
   refine do_cq (Z3p l[i]) (by simp [St.args]) ?_
   cases hj : jobOk l[i]
   .simp [Z10 h (by simp [hg, hj])]
   simp [h0, hi, St.hi, St.lo]
   refine do_cq (Z46 (l.take i) ZR [.ept (eJob l[i]) 0] (fun x => decide (x.id = l[i].id)) (by kernel_rfl) (Cap.one rfl) (fun x => Z6K x l[i])) (by simp [St.args]) ?_
   cases ha : (l.take i).any (fun x => decide (x.id = l[i].id))
   .simp [h7]
    refine Zu h ?_
    simp [h0, h5, h6, Zb h hl]
    exact Z6d hu (by rw [hg, hj, ha]; rfl)
   .simp [Z10 h (by rw [hg, hj, ha]; rfl)]
  .have : i = l.length := by omega
   subst this
   simp [h0, h5, h6, h7, ZS, hu]
   intro _
   omega
def fieldV (j : Job) (s : Str) : Int × Bool :=
 if s = [105, 100] then (j.id, true) else if s = [112, 114, 105, 111] then (j.prio, true) else if s = [110, 111, 100, 101, 115] then (j.nodes, true) else if s = [119, 97, 108, 108] then (j.wall, true)
 else if s = [108, 101, 118, 101, 108] then (j.level, true) else if s = [97] then (j.need.a, true) else if s = [98] then (j.need.b, true) else if s = [99] then (j.need.c, true) else (0, false)
def Z1n : L :=
 .seq (
 .reg [.bx 2 (.t 0),.mv 4 (.c (.int .i64 0)),.mv 5 (.c (.bool false))]) (
 .seq (
 .seq (
 .reg [.mv 6 (.t 1)]) (
 .blk 0 (
  .seq (
  .reg [.bi 8 .eql (.t 6) (.c (.str [105, 100])),.mv 7 (.t 8)]) (
  .cond (.t 7) (
   .seq (
   .reg [.fa 9 (.t 2) 0,.ld 10 (.t 9) 1 false,.mv 4 (.t 10),.mv 5 (.c (.bool true))]) (
   .ret)) (
   .seq (
   .reg [.bi 12 .eql (.t 6) (.c (.str [112, 114, 105, 111])),.mv 11 (.t 12)]) (
   .cond (.t 11) (
    .seq (
    .reg [.fa 13 (.t 2) 1,.ld 14 (.t 13) 1 false,.mv 4 (.t 14),.mv 5 (.c (.bool true))]) (
    .ret)) (
    .seq (
    .reg [.bi 16 .eql (.t 6) (.c (.str [110, 111, 100, 101, 115])),.mv 15 (.t 16)]) (
    .cond (.t 15) (
     .seq (
     .reg [.fa 17 (.t 2) 2,.ld 18 (.t 17) 1 false,.mv 4 (.t 18),.mv 5 (.c (.bool true))]) (
     .ret)) (
     .seq (
     .reg [.bi 20 .eql (.t 6) (.c (.str [119, 97, 108, 108])),.mv 19 (.t 20)]) (
     .cond (.t 19) (
      .seq (
      .reg [.fa 21 (.t 2) 9,.ld 22 (.t 21) 1 false,.mv 4 (.t 22),.mv 5 (.c (.bool true))]) (
      .ret)) (
      .seq (
      .reg [.bi 24 .eql (.t 6) (.c (.str [108, 101, 118, 101, 108])),.mv 23 (.t 24)]) (
      .cond (.t 23) (
       .seq (
       .reg [.fa 25 (.t 2) 10,.ld 26 (.t 25) 1 false,.mv 4 (.t 26),.mv 5 (.c (.bool true))]) (
       .ret)) (
       .seq (
       .reg [.bi 28 .eql (.t 6) (.c (.str [97])),.mv 27 (.t 28)]) (
       .cond (.t 27) (
        .seq (
        .reg [.fa 29 (.t 2) 3,.fa 30 (.t 29) 0,.ld 31 (.t 30) 1 false,.mv 4 (.t 31),.mv 5 (.c (.bool true))]) (
        .ret)) (
        .seq (
        .reg [.bi 33 .eql (.t 6) (.c (.str [98])),.mv 32 (.t 33)]) (
        .cond (.t 32) (
         .seq (
         .reg [.fa 34 (.t 2) 3,.fa 35 (.t 34) 1,.ld 36 (.t 35) 1 false,.mv 4 (.t 36),.mv 5 (.c (.bool true))]) (
         .ret)) (
         .seq (
         .reg [.bi 38 .eql (.t 6) (.c (.str [99])),.mv 37 (.t 38)]) (
         .cond (.t 37) (
          .seq (
          .reg [.fa 39 (.t 2) 3,.fa 40 (.t 39) 2,.ld 41 (.t 40) 1 false,.mv 4 (.t 41),.mv 5 (.c (.bool true))]) (
          .ret)) (
          .skip))))))))))))))))))) (
 .seq (
 .reg [.mv 4 (.c (.int .i64 0)),.mv 5 (.c (.bool false))]) (
 .ret)))
def Z1i : List Rv := [.t 4, .t 5]
theorem Z47 : chkFn Try.prog Z00 2 Z1n Z1i = true := by kernel_rfl
set_option maxRecDepth 10000 in
theorem Z1h (j : Job) (s : Str) : Snd Try.prog Z00 [eJob j, .str s] (.tup [.int .i64 (fieldV j s).1, .bool (fieldV j s).2]) [] := by
 refine Zo Z47 rfl (by simp) (den_W ?_)
 unfold Z1n Z1i fieldV
 by_cases h0 : s = [105, 100]
 .subst h0; simp
 by_cases h1 : s = [112, 114, 105, 111]
 .subst h1; simp
 by_cases h2 : s = [110, 111, 100, 101, 115]
 .subst h2; simp
 by_cases h3 : s = [119, 97, 108, 108]
 .subst h3; simp
 by_cases h4 : s = [108, 101, 118, 101, 108]
 .subst h4; simp
 by_cases h5 : s = [97]
 .subst h5; simp
 by_cases h6 : s = [98]
 .subst h6; simp
 by_cases h7 : s = [99]
 .subst h7; simp
 simp [h0, h1, h2, h3, h4, h5, h6, h7]
def Z3j : L :=
 .seq (
 .reg [.bx 2 (.t 0),.mv 4 (.c (.int .i64 0)),.mv 5 (.c (.bool false))]) (
 .seq (
 .seq (
 .reg [.mv 6 (.t 1)]) (
 .blk 0 (
  .seq (
  .reg [.bi 8 .eql (.t 6) (.c (.str [105, 100])),.mv 7 (.t 8)]) (
  .cond (.t 7) (
   .seq (
   .reg [.fa 9 (.t 2) 0,.ld 10 (.t 9) 1 false,.mv 4 (.t 10),.mv 5 (.c (.bool true))]) (
   .ret)) (
   .seq (
   .reg [.bi 12 .eql (.t 6) (.c (.str [112, 114, 105, 111])),.mv 11 (.t 12)]) (
   .cond (.t 11) (
    .seq (
    .reg [.fa 13 (.t 2) 1,.ld 14 (.t 13) 1 false,.mv 4 (.t 14),.mv 5 (.c (.bool true))]) (
    .ret)) (
    .seq (
    .reg [.bi 16 .eql (.t 6) (.c (.str [110, 111, 100, 101, 115])),.mv 15 (.t 16)]) (
    .cond (.t 15) (
     .seq (
     .reg [.fa 17 (.t 2) 2,.ld 18 (.t 17) 1 false,.mv 4 (.t 18),.mv 5 (.c (.bool true))]) (
     .ret)) (
     .seq (
     .reg [.bi 20 .eql (.t 6) (.c (.str [119, 97, 108, 108])),.mv 19 (.t 20)]) (
     .cond (.t 19) (
      .seq (
      .reg [.fa 21 (.t 2) 9,.ld 22 (.t 21) 1 false,.mv 4 (.t 22),.mv 5 (.c (.bool true))]) (
      .ret)) (
      .seq (
      .reg [.bi 24 .eql (.t 6) (.c (.str [108, 101, 118, 101, 108])),.mv 23 (.t 24)]) (
      .cond (.t 23) (
       .seq (
       .reg [.fa 25 (.t 2) 10,.ld 26 (.t 25) 1 false,.mv 4 (.t 26),.mv 5 (.c (.bool true))]) (
       .ret)) (
       .seq (
       .reg [.bi 28 .eql (.t 6) (.c (.str [97])),.mv 27 (.t 28)]) (
       .cond (.t 27) (
        .seq (
        .reg [.fa 29 (.t 2) 3,.fa 30 (.t 29) 0,.ld 31 (.t 30) 1 false,.mv 4 (.t 31),.mv 5 (.c (.bool true))]) (
        .ret)) (
        .seq (
        .reg [.bi 33 .eql (.t 6) (.c (.str [98])),.mv 32 (.t 33)]) (
        .cond (.t 32) (
         .seq (
         .reg [.fa 34 (.t 2) 3,.fa 35 (.t 34) 1,.ld 36 (.t 35) 1 false,.mv 4 (.t 36),.mv 5 (.c (.bool true))]) (
         .ret)) (
         .seq (
         .reg [.bi 38 .eql (.t 6) (.c (.str [99])),.mv 37 (.t 38)]) (
         .cond (.t 37) (
          .seq (
          .reg [.fa 39 (.t 2) 3,.fa 40 (.t 39) 2,.ld 41 (.t 40) 1 false,.mv 4 (.t 41),.mv 5 (.c (.bool true))]) (
          .ret)) (
          .skip))))))))))))))))))) (
 .seq (
 .reg [.mv 4 (.c (.int .i64 0)),.mv 5 (.c (.bool false))]) (
 .ret)))
def Z34 : List Rv := [.t 4, .t 5]
theorem Z63 : chkFn Try.prog Z0z 2 Z3j Z34 = true := by kernel_rfl
set_option maxRecDepth 10000 in
theorem Z3n (j : Job) (s : Str) : Snd Try.prog Z0z [eJob j, .str s] (.tup [.int .i64 (fieldV j s).1, .bool (fieldV j s).2]) [] := by
 refine Zo Z63 rfl (by simp) (den_W ?_)
 unfold Z3j Z34 fieldV
 by_cases h0 : s = [105, 100]
 .subst h0; simp
 by_cases h1 : s = [112, 114, 105, 111]
 .subst h1; simp
 by_cases h2 : s = [110, 111, 100, 101, 115]
 .subst h2; simp
 by_cases h3 : s = [119, 97, 108, 108]
 .subst h3; simp
 by_cases h4 : s = [108, 101, 118, 101, 108]
 .subst h4; simp
 by_cases h5 : s = [97]
 .subst h5; simp
 by_cases h6 : s = [98]
 .subst h6; simp
 by_cases h7 : s = [99]
 .subst h7; simp
 simp [h0, h1, h2, h3, h4, h5, h6, h7]
def isOp (s : Str) : Bool := decide (s = [61]) || decide (s = [60]) || decide (s = [62]) || decide (s = [33])
def Z40 : L :=
 .seq (
 .reg [.mv 2 (.c (.bool false))]) (
 .seq (
 .reg [.mv 3 (.t 0),.bi 4 .eql (.t 3) (.c (.str [61])),.mv 5 (.t 4),.g 5 false (.mv 6 (.t 0)),.g 5 false (.bi 7 .eql (.t 6) (.c (.str [60]))),.pk 8 (.t 5) (.c (.bool true)) (.t 7),.mv 9 (.t 8),.g 9 false (.mv 10 (.t 0)),.g 9 false (.bi 11 .eql (.t 10) (.c (.str [62]))),.pk 12 (.t 9) (.c (.bool true)) (.t 11),.mv 13 (.t 12),.g 13 false (.mv 14 (.t 0)),.g 13 false (.bi 15 .eql (.t 14) (.c (.str [33]))),.pk 16 (.t 13) (.c (.bool true)) (.t 15),.mv 2 (.t 16)]) (
 .ret))
def Z3W : List Rv := [.t 2]
theorem Z6B : chkFn Try.prog Z1f 1 Z40 Z3W = true := by kernel_rfl
theorem Z8i (s : Str) : Snd Try.prog Z1f [.str s] (.bool (isOp s)) [] := by
 refine Zo Z6B rfl (by simp) (den_W ?_)
 unfold Z40 Z3W
 unfold isOp
 by_cases h1 : s = [61]
 .simp [h1]
 by_cases h2 : s = [60]
 .simp [h2]
 by_cases h3 : s = [62]
 .simp [h3]
 simp [h1, h2, h3]
def job0 : Job := ⟨0, 0, 0, ⟨0, 0, 0⟩, ⟨0, 0, 0⟩, 0, 0⟩
def termOk (t : Term) : Bool := (fieldV job0 t.field).2 && isOp t.op && time t.n
def Z2I : L :=
 .seq (
 .reg [.bx 1 (.t 0),.mv 2 (.c (.bool false))]) (
 .seq (
 .reg [.bd 6 [.int .i64 0, .int .i64 0, .int .i64 0, .int .i64 0, .int .i64 0, .int .i64 0, .int .i64 0, .int .i64 0, .int .i64 0, .int .i64 0, .int .i64 0] [],.fa 7 (.t 1) 0,.ld 8 (.t 7) 1 false,.cq 9 Z0z [(.t 6), (.t 8)],.mv 5 (.t 9),.ex 10 (.t 5) 0,.ex 11 (.t 5) 1,.mv 3 (.t 10),.mv 4 (.t 11)]) (
 .seq (
 .reg [.mv 12 (.t 4),.mv 13 (.t 12),.g 13 true (.fa 14 (.t 1) 1),.g 13 true (.ld 15 (.t 14) 1 false),.g 13 true (.cq 16 Z1f [(.t 15)]),.pk 17 (.t 13) (.t 16) (.c (.bool false)),.mv 18 (.t 17),.g 18 true (.fa 19 (.t 1) 2),.g 18 true (.ld 20 (.t 19) 1 false),.g 18 true (.cq 21 Z0l [(.t 20)]),.pk 22 (.t 18) (.t 21) (.c (.bool false)),.mv 2 (.t 22)]) (
 .ret)))
def Z2s : List Rv := [.t 2]
theorem Z5j : chkFn Try.prog Z02 1 Z2I Z2s = true := by kernel_rfl
theorem Z0D (t : Term) : Snd Try.prog Z02 [eTerm t] (.bool (termOk t)) [] := by
 refine Zo Z5j rfl (by simp) (den_W ?_)
 unfold Z2I Z2s
 unfold termOk
 simp
 refine do_cq (Z3n job0 t.field) (by simp [St.args, job0]) ?_
 simp
 cases (fieldV job0 t.field).2 <;> simp
 refine do_cq (Z8i t.op) (by simp [St.args]) ?_
 cases isOp t.op <;> simp
 refine do_cq (Z6p t.n) (by simp [St.args]) ?_
 cases time t.n <;> simp
def Z2E : L :=
 .seq (
 .reg [.bx 1 (.t 0),.mv 2 (.c (.bool false))]) (
 .seq (
 .reg [.bd 6 [.int .i64 0, .int .i64 0, .int .i64 0, .int .i64 0, .int .i64 0, .int .i64 0, .int .i64 0, .int .i64 0, .int .i64 0, .int .i64 0, .int .i64 0] [],.fa 7 (.t 1) 0,.ld 8 (.t 7) 1 false,.cq 9 Z00 [(.t 6), (.t 8)],.mv 5 (.t 9),.ex 10 (.t 5) 0,.ex 11 (.t 5) 1,.mv 3 (.t 10),.mv 4 (.t 11)]) (
 .seq (
 .reg [.mv 12 (.t 4),.mv 13 (.t 12),.g 13 true (.fa 14 (.t 1) 1),.g 13 true (.ld 15 (.t 14) 1 false),.g 13 true (.bi 16 .eql (.t 15) (.c (.str [61]))),.g 13 true (.mv 17 (.t 16)),.g 17 false (.fa 18 (.t 1) 1),.g 17 false (.ld 19 (.t 18) 1 false),.g 17 false (.bi 20 .eql (.t 19) (.c (.str [60]))),.g 13 true (.pk 21 (.t 17) (.c (.bool true)) (.t 20)),.g 13 true (.mv 22 (.t 21)),.g 22 false (.fa 23 (.t 1) 1),.g 22 false (.ld 24 (.t 23) 1 false),.g 22 false (.bi 25 .eql (.t 24) (.c (.str [62]))),.g 13 true (.pk 26 (.t 22) (.c (.bool true)) (.t 25)),.g 13 true (.mv 27 (.t 26)),.g 27 false (.fa 28 (.t 1) 1),.g 27 false (.ld 29 (.t 28) 1 false),.g 27 false (.bi 30 .eql (.t 29) (.c (.str [33]))),.g 13 true (.pk 31 (.t 27) (.c (.bool true)) (.t 30)),.pk 32 (.t 13) (.t 31) (.c (.bool false)),.mv 33 (.t 32),.g 33 true (.fa 34 (.t 1) 2),.g 33 true (.ld 35 (.t 34) 1 false),.g 33 true (.cq 36 Z0H [(.t 35)]),.pk 37 (.t 33) (.t 36) (.c (.bool false)),.mv 2 (.t 37)]) (
 .ret)))
def Z2o : List Rv := [.t 2]
theorem Z5f : chkFn Try.prog Z0k 1 Z2E Z2o = true := by kernel_rfl
theorem Z2e (t : Term) : Snd Try.prog Z0k [eTerm t] (.bool (termOk t)) [] := by
 refine Zo Z5f rfl (by simp) (den_W ?_)
 unfold Z2E Z2o
 unfold termOk
 simp
 refine do_cq (Z1h job0 t.field) (by simp [St.args, job0]) ?_
 simp
 cases (fieldV job0 t.field).2
 .simp
 unfold isOp
 by_cases h1 : t.op = [61]
 .simp [h1]
  refine do_cq (Z0s t.n) (by simp [St.args]) ?_
  simp
 by_cases h2 : t.op = [60]
 .simp [h2]
  refine do_cq (Z0s t.n) (by simp [St.args]) ?_
  simp
 by_cases h3 : t.op = [62]
 .simp [h3]
  refine do_cq (Z0s t.n) (by simp [St.args]) ?_
  simp
 by_cases h4 : t.op = [33]
 .simp [h4]
  refine do_cq (Z0s t.n) (by simp [St.args]) ?_
  simp
 simp [h1, h2, h3, h4]
def goes (t : Term) (j : Job) : Bool :=
 if termOk t = true /\ jobOk j = true then
  (if t.op = [61] then decide ((fieldV j t.field).1 = t.n) else if t.op = [60] then decide ((fieldV j t.field).1 < t.n) else if t.op = [62] then decide (t.n < (fieldV j t.field).1) else !decide ((fieldV j t.field).1 = t.n))
 else false
def Z3Z : L :=
 .seq (
 .reg [.bx 2 (.t 0),.bx 3 (.t 1),.mv 4 (.c (.bool false))]) (
 .seq (
 .seq (
 .reg [.ld 7 (.t 2) 3 true,.cq 8 Z0k [(.t 7)],.un 9 (.t 8),.mv 10 (.t 9),.g 10 false (.ld 11 (.t 3) 11 true),.g 10 false (.cq 12 Z0x [(.t 11)]),.g 10 false (.un 13 (.t 12)),.pk 14 (.t 10) (.c (.bool true)) (.t 13)]) (
 .cond (.t 14) (
  .seq (
  .reg [.mv 4 (.c (.bool false))]) (
  .ret)) (
  .skip))) (
 .seq (
 .reg [.ld 16 (.t 3) 11 true,.fa 17 (.t 2) 0,.ld 18 (.t 17) 1 false,.cq 19 Z00 [(.t 16), (.t 18)],.mv 15 (.t 19),.ex 20 (.t 15) 0,.ex 21 (.t 15) 1,.mv 5 (.t 20),.mv 6 (.t 21)]) (
 .seq (
 .seq (
 .reg [.fa 22 (.t 2) 1,.ld 23 (.t 22) 1 false]) (
 .blk 0 (
  .seq (
  .reg [.bi 25 .eql (.t 23) (.c (.str [61])),.mv 24 (.t 25)]) (
  .cond (.t 24) (
   .seq (
   .reg [.mv 26 (.t 5),.fa 27 (.t 2) 2,.ld 28 (.t 27) 1 false,.bi 29 .eql (.t 26) (.t 28),.mv 4 (.t 29)]) (
   .ret)) (
   .seq (
   .reg [.bi 31 .eql (.t 23) (.c (.str [60])),.mv 30 (.t 31)]) (
   .cond (.t 30) (
    .seq (
    .reg [.mv 32 (.t 5),.fa 33 (.t 2) 2,.ld 34 (.t 33) 1 false,.bi 35 .lss (.t 32) (.t 34),.mv 4 (.t 35)]) (
    .ret)) (
    .seq (
    .reg [.bi 37 .eql (.t 23) (.c (.str [62])),.mv 36 (.t 37)]) (
    .cond (.t 36) (
     .seq (
     .reg [.mv 38 (.t 5),.fa 39 (.t 2) 2,.ld 40 (.t 39) 1 false,.bi 41 .gtr (.t 38) (.t 40),.mv 4 (.t 41)]) (
     .ret)) (
     .skip))))))))) (
 .seq (
 .reg [.mv 42 (.t 5),.fa 43 (.t 2) 2,.ld 44 (.t 43) 1 false,.bi 45 .neq (.t 42) (.t 44),.mv 4 (.t 45)]) (
 .ret)))))
def Z3V : List Rv := [.t 4]
theorem Z6A : chkFn Try.prog Z2V 2 Z3Z Z3V = true := by kernel_rfl
set_option maxRecDepth 10000 in
theorem Z6f (t : Term) (j : Job) : Snd Try.prog Z2V [eTerm t, eJob j] (.bool (goes t j)) [] := by
 refine Zo Z6A rfl (by simp) (den_W ?_)
 unfold Z3Z Z3V
 unfold goes
 simp
 refine do_cq (Z2e t) (by simp [St.args]) ?_
 cases termOk t
 .simp
 simp
 refine do_cq (Z2Y j) (by simp [St.args]) ?_
 cases jobOk j
 .simp
 simp
 refine do_cq (Z1h j t.field) (by simp [St.args]) ?_
 simp
 by_cases h1 : t.op = [61]
 .simp [h1]
 by_cases h2 : t.op = [60]
 .simp [h2]
 by_cases h3 : t.op = [62]
 .simp [h3]
 simp [h1, h2, h3]
def Z41 : L :=
 .seq (
 .reg [.bx 2 (.t 0),.bx 3 (.t 1),.mv 4 (.c (.bool false))]) (
 .seq (
 .seq (
 .reg [.ld 7 (.t 2) 3 true,.cq 8 Z02 [(.t 7)],.un 9 (.t 8),.mv 10 (.t 9),.g 10 false (.ld 11 (.t 3) 11 true),.g 10 false (.cq 12 Z0B [(.t 11)]),.g 10 false (.un 13 (.t 12)),.pk 14 (.t 10) (.c (.bool true)) (.t 13)]) (
 .cond (.t 14) (
  .seq (
  .reg [.mv 4 (.c (.bool false))]) (
  .ret)) (
  .skip))) (
 .seq (
 .reg [.ld 16 (.t 3) 11 true,.fa 17 (.t 2) 0,.ld 18 (.t 17) 1 false,.cq 19 Z0z [(.t 16), (.t 18)],.mv 15 (.t 19),.ex 20 (.t 15) 0,.ex 21 (.t 15) 1,.mv 5 (.t 20),.mv 6 (.t 21)]) (
 .seq (
 .seq (
 .reg [.fa 22 (.t 2) 1,.ld 23 (.t 22) 1 false]) (
 .blk 0 (
  .seq (
  .reg [.bi 25 .eql (.t 23) (.c (.str [61])),.mv 24 (.t 25)]) (
  .cond (.t 24) (
   .seq (
   .reg [.mv 26 (.t 5),.fa 27 (.t 2) 2,.ld 28 (.t 27) 1 false,.bi 29 .eql (.t 26) (.t 28),.mv 4 (.t 29)]) (
   .ret)) (
   .seq (
   .reg [.bi 31 .eql (.t 23) (.c (.str [60])),.mv 30 (.t 31)]) (
   .cond (.t 30) (
    .seq (
    .reg [.mv 32 (.t 5),.fa 33 (.t 2) 2,.ld 34 (.t 33) 1 false,.bi 35 .lss (.t 32) (.t 34),.mv 4 (.t 35)]) (
    .ret)) (
    .seq (
    .reg [.bi 37 .eql (.t 23) (.c (.str [62])),.mv 36 (.t 37)]) (
    .cond (.t 36) (
     .seq (
     .reg [.mv 38 (.t 5),.fa 39 (.t 2) 2,.ld 40 (.t 39) 1 false,.bi 41 .gtr (.t 38) (.t 40),.mv 4 (.t 41)]) (
     .ret)) (
     .skip))))))))) (
 .seq (
 .reg [.mv 42 (.t 5),.fa 43 (.t 2) 2,.ld 44 (.t 43) 1 false,.bi 45 .neq (.t 42) (.t 44),.mv 4 (.t 45)]) (
 .ret)))))
def Z3X : List Rv := [.t 4]
theorem Z6C : chkFn Try.prog Z1g 2 Z41 Z3X = true := by kernel_rfl
set_option maxRecDepth 10000 in
theorem Z42 (t : Term) (j : Job) : Snd Try.prog Z1g [eTerm t, eJob j] (.bool (goes t j)) [] := by
 refine Zo Z6C rfl (by simp) (den_W ?_)
 unfold Z41 Z3X
 unfold goes
 simp
 refine do_cq (Z0D t) (by simp [St.args]) ?_
 cases termOk t
 .simp
 simp
 refine do_cq (Z3p j) (by simp [St.args]) ?_
 cases jobOk j
 .simp
 simp
 refine do_cq (Z3n j t.field) (by simp [St.args]) ?_
 simp
 by_cases h1 : t.op = [61]
 .simp [h1]
 by_cases h2 : t.op = [60]
 .simp [h2]
 by_cases h3 : t.op = [62]
 .simp [h3]
 simp [h1, h2, h3]
@[simp] theorem NwL_app (l m : List AV) : NwL (l ++ m) ↔ NwL l /\ NwL m := by
 rw [Z0f, Z0f, Z0f]
 constructor
 .intro h; exact ⟨fun a ha => h a (by simp [ha]), fun a ha => h a (by simp [ha])⟩
 .rintro ⟨h1, h2⟩ a ha
  rcases List.mem_append.1 ha with h | h
  .exact h1 a h
  .exact h2 a h
theorem pow10 {i : Nat} (h : i <= 9) : (10 : Int) ^ i <= 1000000000 := by
 have := Nat.pow_le_pow_right (n := 10) (by omega) h
 have e : ((10 ^ i : Nat) : Int) = (10 : Int) ^ i := by simp
 omega
@[simp] theorem isIdx_0 (k : IntKind) (n : Nat) : isIdx (.int k 0) n = if 0 < n then some 0 else none := Z4 k 0 n
@[simp] theorem isIdx_1 (k : IntKind) (n : Nat) : isIdx (.int k 1) n = if 1 < n then some 1 else none := Z4 k 1 n
@[simp] theorem isIdx_lit (k : IntKind) (m n : Nat) : isIdx (.int k (OfNat.ofNat m)) n = if m < n then some m else none := Z4 k m n
@[simp] theorem isBnd_0 (k : IntKind) (n : Nat) : isBnd (.int k 0) n = some 0 := by rw [show isBnd (.int k 0) n = _ from Z5 k 0 n]; simp
@[simp] theorem isBnd_1 (k : IntKind) (n : Nat) : isBnd (.int k 1) n = if 1 <= n then some 1 else none := Z5 k 1 n
@[simp] theorem isBnd_lit (k : IntKind) (m n : Nat) : isBnd (.int k (OfNat.ofNat m)) n = if m <= n then some m else none := Z5 k m n
@[simp] def eS (s : Str) : AV := .str s
@[simp] theorem rdt_SS (l : List Str) : rdtL (l.map eS) = l.map eS := Z28 _ (fun _ => rfl) l
@[simp] theorem nw_SS (l : List Str) : NwL (l.map eS) := Z3P _ (fun _ => by simp) l
def joinW : List Str -> Str
 | [] => []
 | [w] => w
 | w :: v :: ws => w ++ 32 :: joinW (v :: ws)
theorem Z5o : ∀ (l : List Str) (w : Str), joinW (l ++ [w]) = if l = [] then w else joinW l ++ 32 :: w
 | [], w => rfl
 | [a], w => by simp [joinW]
 | a :: b :: l, w => by
  have := Z5o (b :: l) w
  simp only [List.cons_append, reduceCtorEq, if_false] at this
  simp [joinW, this]
theorem Z7G (l : List Str) : ∀ (k : Nat), (joinW (l.take k)).length <= (joinW l).length := by
 intro k
 induction l generalizing k with
 | nil => simp
 | cons a l ih =>
  cases k with
  | zero => simp [joinW]
  | succ k =>
   cases l with
   | nil => simp
   | cons b l =>
    have := ih k
    cases k with
    | zero => simp [joinW]
    | succ k =>
     simp only [List.take_succ_cons, joinW, List.length_append, List.length_cons] at this ⊢
     omega
def Z3i : L :=
 .seq (
 .reg [.mv 2 (.c (.str []))]) (
 .seq (
 .reg [.mv 3 (.c (.str []))]) (
 .seq (
 .seq (
 .reg [.mv 6 (.t 0),.ln 7 (.t 6),.mv 8 (.c (.int .i64 0))]) (
 .blk 0 (
  .loop (
   .seq (
   .reg [.bi 9 .lss (.t 8) (.t 7)]) (
   .seq (
   .cond (.t 9) (
    .skip) (
    .exit 0)) (
   .seq (
   .blk 1 (
    .seq (
    .reg [.mv 10 (.t 8),.ia 11 (.t 6) (.t 8) 1,.ld 12 (.t 11) 1 false,.mv 4 (.t 10),.mv 5 (.t 12)]) (
    .seq (
    .seq (
    .reg [.mv 13 (.t 4),.bi 14 .gtr (.t 13) (.c (.int .i64 0))]) (
    .cond (.t 14) (
     .reg [.mv 15 (.t 3),.sa 16 (.t 15) (.c (.str [32])),.mv 3 (.t 16)]) (
     .skip))) (
    .reg [.mv 17 (.t 3),.mv 18 (.t 5),.sa 19 (.t 17) (.t 18),.mv 3 (.t 19)])))) (
   .reg [.bi 20 .add (.t 8) (.c (.int .i64 1)),.mv 8 (.t 20)]))))))) (
 .seq (
 .reg [.mv 21 (.t 3),.mv 2 (.t 21)]) (
 .ret))))
def Z33 : List Rv := [.t 2]
theorem Z62 : chkFn Try.prog Z23 1 Z3i Z33 = true := by kernel_rfl
theorem Z5R (l : List Str) (hl : (joinW l).length <= 4611686018427387904) : Snd Try.prog Z23 [.sl .rd 1 (l.map eS)] (.str (joinW l)) [] := by
 refine Zo Z62 rfl (by simp) (den_W ?_)
 unfold Z3i Z33
 simp
 intro hlen
 refine Z50 (fun m s => ∃ i, m = l.length - i /\ i <= l.length /\ s.e 6 = .sl .rd 1 (l.map eS) /\ s.e 7 = .int .i64 l.length /\ s.e 8 = .int .i64 (i : Nat) /\ s.e 3 = .str (joinW (l.take i))) l.length ?_ ?_
 .exact ⟨0, by simp [joinW]⟩
 .rintro m s ⟨i, rfl, hi, h6, h7, h8, h3⟩
  by_cases h : i < l.length
  .have hs : joinW (l.take (i + 1)) = if l.take i = [] then l[i] else joinW (l.take i) ++ 32 :: l[i] := by rw [List.take_succ_eq_append_getElem h]; exact Z5o _ _
   have hb := Z7G l (i + 1)
   have he : l.take i = [] ↔ i = 0 := by
    rw [List.take_eq_nil_iff]
    constructor
    .rintro (h' | h')
     .exact h'
     .subst h'; simp at h
    .exact .inl
   rw [hs] at hb
   by_cases h0 : i = 0
   .have hn := he.2 h0
    have hp : ¬ 0 < i := by omega
    rw [if_pos hn] at hb hs
    simp [h6, h7, h8, h3, h, hp, hn, joinW]
    exact ⟨by omega, l.length - (i + 1), by omega, i + 1, rfl, by omega, Zb h hlen, hs.symm⟩
   .rw [if_neg (fun e => h0 (he.1 e))] at hb hs
    simp at hb
    have hp : 0 < i := by omega
    simp [h6, h7, h8, h3, h, hp]
    exact ⟨by omega, by omega, l.length - (i + 1), by omega, i + 1, rfl, by omega, Zb h hlen, hs.symm⟩
  .have : i = l.length := by omega
   subst this
   simp [h6, h7, h8, h3]
def ZF (t : Term) : Str := t.field ++ (t.op ++ Zv t.n)
def ZG (l : List Term) : Str := if l.length <= 8 /\ l.all termOk = true then joinW (l.map ZF) else []
theorem Z7H {j : Job} {s : Str} (h : (fieldV j s).2 = true) : s.length <= 5 := by
  unfold fieldV at h
  repeat' split at h
  all_goals first
    | (rename_i e; rw [e]; decide)
    | simp at h
theorem isOp_len {s : Str} (h : isOp s = true) : s.length = 1 := by
 simp [isOp] at h
 rcases h with ((rfl | rfl) | rfl) | rfl <;> rfl
theorem Z4o {t : Term} (h : termOk t = true) : (ZF t).length <= 16 := by
 simp [termOk] at h
 have h1 := Z7H h.1.1
 have h2 := isOp_len h.1.2
 have h3 := Z2Q t.n
 simp [ZF]; omega
theorem Z6o : ∀ (l : List Str) (b : Nat), (∀ w ∈ l, w.length <= b) -> (joinW l).length <= l.length * (b + 1)
 | [], b, _ => by simp [joinW]
 | [w], b, h => by have := h w (by simp); simp [joinW]; omega
 | w :: v :: ws, b, h => by
  have h1 := h w (by simp)
  have h2 := Z6o (v :: ws) b fun x hx => h x (by simp at hx ⊢; exact .inr hx)
  simp only [joinW, List.length_append, List.length_cons, Nat.add_mul] at h2 ⊢
  omega
theorem Z69 {l : List Term} {i : Nat} (h : i < l.length) {p : Term -> Bool} (ha : (l.take i).all p = true) (hp : p l[i] = true) : (l.take (i + 1)).all p = true := by
 rw [List.take_succ_eq_append_getElem h, List.all_append, ha]; simp [hp]
theorem all_bad {l : List Term} {i : Nat} (h : i < l.length) {p : Term -> Bool} (hp : p l[i] = false) : l.all p = false := by
 rw [List.all_eq_false]; exact ⟨l[i], List.getElem_mem h, by simp [hp]⟩
theorem Z8v {l : List Term} {T : List Str} (hT : T = l.map ZF) {i : Nat} (h : i <= 8) (ha : (l.take i).all termOk = true) : (joinW (T.take i)).length <= 136 := by
 subst hT
 have := Z6o ((l.map ZF).take i) 16 (fun w hw => by
  rw [← List.map_take] at hw
  obtain ⟨t, ht, rfl⟩ := List.mem_map.1 hw
  exact Z4o (List.all_eq_true.1 ha t ht))
 rw [List.length_take, List.length_map] at this
 have h2 : (min i l.length) * 17 <= 8 * 17 := Nat.mul_le_mul_right _ (by omega)
 omega
def Z1V : L :=
 .seq (
 .reg [.mv 2 (.c (.str []))]) (
 .seq (
 .seq (
 .reg [.mv 6 (.t 0),.ln 7 (.t 6),.cq 8 Za [(.t 7), (.c (.int .i64 1)), (.c (.int .i64 8))],.un 9 (.t 8)]) (
 .cond (.t 9) (
  .seq (
  .reg [.mv 2 (.c (.str []))]) (
  .ret)) (
  .skip))) (
 .seq (
 .reg [.bs 10 1 [] true,.mv 3 (.t 10)]) (
 .seq (
 .seq (
 .reg [.mv 11 (.t 0),.ln 12 (.t 11),.mv 13 (.c (.int .i64 0))]) (
 .blk 0 (
  .loop (
   .seq (
   .reg [.bi 14 .lss (.t 13) (.t 12)]) (
   .seq (
   .cond (.t 14) (
    .skip) (
    .exit 0)) (
   .seq (
   .blk 1 (
    .seq (
    .reg [.ia 15 (.t 11) (.t 13) 3,.ld 16 (.t 15) 3 true,.al 5 [.str [], .str [], .int .i64 0],.st (.t 5) (.t 16) 3]) (
    .seq (
    .seq (
    .reg [.ld 17 (.t 5) 3 true,.cq 18 Z02 [(.t 17)],.un 19 (.t 18)]) (
    .cond (.t 19) (
     .seq (
     .reg [.mv 2 (.c (.str []))]) (
     .ret)) (
     .skip))) (
    .rq 11 [.mv 20 (.t 3),.fa 21 (.t 5) 0,.ld 22 (.t 21) 1 false,.fa 23 (.t 5) 1,.ld 24 (.t 23) 1 false,.sa 25 (.t 22) (.t 24),.fa 26 (.t 5) 2,.ld 27 (.t 26) 1 false,.cq 28 Z0b [(.t 27)],.sa 29 (.t 25) (.t 28),.bs 30 1 [(.t 29)] false,.ap 31 (.t 20) (.t 30) 1 16,.mv 3 (.t 31)])))) (
   .reg [.bi 32 .add (.t 13) (.c (.int .i64 1)),.mv 13 (.t 32)]))))))) (
 .seq (
 .reg [.mv 33 (.t 3),.cq 34 Z23 [(.t 33)],.mv 2 (.t 34)]) (
 .ret)))))
def Z1F : List Rv := [.t 2]
theorem Z4U : chkFn Try.prog ZP 1 Z1V Z1F = true := by kernel_rfl
set_option maxRecDepth 10000 in
theorem Z0q (l : List Term) : Snd Try.prog ZP [.sl .rd 3 (l.map eTerm)] (.str (ZG l)) [] := by
 refine Zo Z4U rfl (by simp) (den_W ?_)
 unfold Z1V Z1F
 simp
 intro hlen
 refine do_cq (ZK l.length 1 8) (by simp [St.args]) ?_
 by_cases h1 : 1 <= l.length
 rotate_left
 .have : l = [] := List.eq_nil_of_length_eq_zero (by omega)
  subst this
  simp [ZG, joinW]
 by_cases h8 : l.length <= 8
 rotate_left
 .have e : ¬ (l.length : Int) <= 8 := by omega
  simp [e, ZG, h8]
 have e1 : (1 : Int) <= l.length := by omega
 have e : (l.length : Int) <= 8 := by omega
 simp [e, e1]
 intro _
 obtain ⟨T, hT⟩ : ∃ T, T = l.map ZF := ⟨_, rfl⟩
 have hTl : T.length = l.length := by rw [hT]; simp
 have hTi : ∀ i (h : i < T.length), T[i] = ZF (l[i]'(by omega)) := by subst hT; intro i h; simp
 refine Z50 (fun m s => ∃ i, m = l.length - i /\ i <= l.length /\ (l.take i).all termOk = true /\ s.e 11 = .sl .rd 3 (l.map eTerm) /\ s.e 12 = .int .i64 l.length /\ s.e 13 = .int .i64 (i : Nat) /\ s.e 3 = .sref 10 /\ s.rw 10 = some ⟨1, (T.map eS).take i, false⟩) l.length ?_ ?_
 .exact ⟨0, by simp⟩
 .rintro m s ⟨i, rfl, hi, ha, h11, h12, h13, h3, hr⟩
  by_cases h : i < l.length
  .simp [h11, h12, h13, h3, h]
   refine do_cq (Z0D l[i]) (by simp [St.args]) ?_
   cases ht : termOk l[i]
   .simp [ZG, all_bad h ht]
   have htl := Z4o ht
   simp [ZF] at htl
   simp [h3]
   repeat (refine ⟨by first | omega | (simp; omega), ?_⟩)
   refine do_cq (Z1W l[i].n) (by simp [St.args]) ?_
   simp [h11, h12, h13, hr]
   refine ⟨by omega, by omega, l.length - (i + 1), by omega, i + 1, rfl, by omega, List.all_eq_true.1 (Z69 h ha ht), Zb h hlen, ?_⟩
   rw [List.take_succ_eq_append_getElem (by simp; omega)]; simp [hTi, ZF]
  .have : i = l.length := by omega
   subst this
   have hl := Z8v hT (i := l.length) (by omega) ha
   rw [List.take_of_length_le (by omega)] at ha hl
   rw [List.take_of_length_le (by simp; omega)] at hr
   simp [h11, h12, h13, h3]
   refine do_cq (Z5R T (by omega)) (by simp [St.args, hr]) ?_
   simp [ZG, h8, ha, ← hT]
def selP (q : List Term) (j : Job) : Bool := !q.any (fun t => !goes t j)
def sel (l : List Job) (q : List Term) : List Job := if ZS l = true /\ q.any (fun t => !termOk t) = false then l.filter (selP q) else []
theorem ZQ {α : Type} {p : α -> Bool} {l : List α} {i : Nat} (h : i < l.length) : (l.take (i + 1)).filter p = (l.take i).filter p ++ if p l[i] then [l[i]] else [] := by
 rw [List.take_succ_eq_append_getElem h, List.filter_append]
 congr 1
 cases hp : p l[i] <;> simp [hp]
theorem any_bad {α : Type} {l : List α} {p : α -> Bool} {i : Nat} (h : i < l.length) (hp : p l[i] = true) : l.any p = true := by
 rw [List.any_eq_true]; exact ⟨l[i], List.getElem_mem h, hp⟩
theorem Z68 {α : Type} {p : α -> Bool} {l : List α} {i : Nat} (h : i < l.length) : (l.take (i + 1)).any p = ((l.take i).any p || p l[i]) := by
 rw [List.take_succ_eq_append_getElem h, List.any_append]; simp
def Z2F : L :=
 .seq (
 .reg [.mv 4 (.c (.nl))]) (
 .seq (
 .reg [.bs 13 11 [] true,.mv 5 (.t 13)]) (
 .seq (
 .seq (
 .reg [.mv 14 (.t 0),.cq 15 Z0a [(.t 14)],.un 16 (.t 15)]) (
 .cond (.t 16) (
  .seq (
  .reg [.mv 17 (.t 5),.mv 4 (.t 17)]) (
  .ret)) (
  .skip))) (
 .seq (
 .seq (
 .reg [.mv 18 (.t 1),.ln 19 (.t 18),.mv 20 (.c (.int .i64 0))]) (
 .blk 0 (
  .loop (
   .seq (
   .reg [.bi 21 .lss (.t 20) (.t 19)]) (
   .seq (
   .cond (.t 21) (
    .skip) (
    .exit 0)) (
   .seq (
   .blk 1 (
    .seq (
    .reg [.ia 22 (.t 18) (.t 20) 3,.ld 23 (.t 22) 3 true,.al 7 [.str [], .str [], .int .i64 0],.st (.t 7) (.t 23) 3]) (
    .seq (
    .reg [.ld 24 (.t 7) 3 true,.cq 25 Z0k [(.t 24)],.un 26 (.t 25)]) (
    .cond (.t 26) (
     .seq (
     .reg [.mv 27 (.t 5),.mv 4 (.t 27)]) (
     .ret)) (
     .skip))))) (
   .reg [.bi 28 .add (.t 20) (.c (.int .i64 1)),.mv 20 (.t 28)]))))))) (
 .seq (
 .seq (
 .reg [.mv 29 (.t 0),.ln 30 (.t 29),.mv 31 (.c (.int .i64 0))]) (
 .blk 2 (
  .loop (
   .seq (
   .reg [.bi 32 .lss (.t 31) (.t 30)]) (
   .seq (
   .cond (.t 32) (
    .skip) (
    .exit 2)) (
   .seq (
   .blk 3 (
    .seq (
    .reg [.ia 33 (.t 29) (.t 31) 11,.ld 34 (.t 33) 11 true,.al 9 [.int .i64 0, .int .i64 0, .int .i64 0, .int .i64 0, .int .i64 0, .int .i64 0, .int .i64 0, .int .i64 0, .int .i64 0, .int .i64 0, .int .i64 0],.st (.t 9) (.t 34) 11]) (
    .seq (
    .reg [.mv 10 (.c (.bool true))]) (
    .seq (
    .seq (
    .reg [.mv 35 (.t 1),.ln 36 (.t 35),.mv 37 (.c (.int .i64 0))]) (
    .blk 4 (
     .loop (
      .seq (
      .reg [.bi 38 .lss (.t 37) (.t 36)]) (
      .seq (
      .cond (.t 38) (
       .skip) (
       .exit 4)) (
      .seq (
      .blk 5 (
       .seq (
       .reg [.ia 39 (.t 35) (.t 37) 3,.ld 40 (.t 39) 3 true,.al 12 [.str [], .str [], .int .i64 0],.st (.t 12) (.t 40) 3]) (
       .seq (
       .reg [.ld 41 (.t 12) 3 true,.ld 42 (.t 9) 11 true,.cq 43 Z2V [(.t 41), (.t 42)],.un 44 (.t 43)]) (
       .cond (.t 44) (
        .reg [.mv 10 (.c (.bool false))]) (
        .skip))))) (
      .reg [.bi 45 .add (.t 37) (.c (.int .i64 1)),.mv 37 (.t 45)]))))))) (
    .seq (
    .reg [.mv 46 (.t 10)]) (
    .cond (.t 46) (
     .reg [.mv 47 (.t 5),.ld 48 (.t 9) 11 true,.bs 49 11 [(.t 48)] false,.ap 50 (.t 47) (.t 49) 11 88,.mv 5 (.t 50)]) (
     .skip))))))) (
   .reg [.bi 51 .add (.t 31) (.c (.int .i64 1)),.mv 31 (.t 51)]))))))) (
 .seq (
 .reg [.mv 52 (.t 5),.mv 4 (.t 52)]) (
 .ret))))))
def Z2p : List Rv := [.t 4]
theorem Z5g : chkFn Try.prog Z1e 2 Z2F Z2p = true := by kernel_rfl
theorem Z51 (l : List Job) (q : List Term) (hl : l.length <= 1048576) : Snd Try.prog Z1e [.sl .rd 11 (l.map eJob), .sl .rd 3 (q.map eTerm)] (.sref 0) [⟨11, (sel l q).map eJob, false⟩] := by
 refine Zo Z5g rfl (by simp) (den_W ?_)
 unfold Z2F Z2p
 simp
 refine do_cq (Z1t l) (by simp [St.args]) ?_
 cases hq : ZS l
 .simp
  exact Z2a [13] (by simp [sel, hq])
 simp
 intro hql
 refine W_rng q.length (fun i s => (q.take i).any (fun t => !termOk t) = false /\ s.e 0 = .sl .rd 11 (l.map eJob) /\ s.e 1 = .sl .rd 3 (q.map eTerm) /\ s.e 5 = .sref 13 /\ s.rw 13 = some ⟨11, [], false⟩ /\ s.e 18 = .sl .rd 3 (q.map eTerm) /\ s.e 19 = .int .i64 q.length /\ s.e 20 = .int .i64 (i : Nat)) ?_ ?_
 .simp
 rintro i s hi ⟨ha, h0, h1, h5, hr, h18, h19, h20⟩
 by_cases h : i < q.length
 .simp [h0, h18, h19, h20, h]
  refine do_cq (Z2e q[i]) (by simp [St.args]) ?_
  cases ht : termOk q[i]
  .simp [h5]
   have := any_bad (p := fun t => !termOk t) h (by simp [ht])
   exact Z2a [13] (by simp [sel, this, hr])
  .simp [h20]
   refine Zu h ⟨by rw [Z68 h, ha, ht]; rfl, ?_⟩
   simp [h0, h1, h5, hr, h18, h19, Zb h hql]
 have : i = q.length := by omega
 subst this
 rw [List.take_of_length_le (Nat.le_refl _)] at ha
 simp [h0, h18, h19, h20]
 intro _
 refine W_rng l.length (fun i s => s.e 1 = .sl .rd 3 (q.map eTerm) /\ s.e 5 = .sref 13 /\ s.rw 13 = some ⟨11, ((l.take i).filter (selP q)).map eJob, false⟩ /\ s.e 29 = .sl .rd 11 (l.map eJob) /\ s.e 30 = .int .i64 l.length /\ s.e 31 = .int .i64 (i : Nat)) ?_ ?_
 .simp [h1, h5, hr]
 clear h0 h1 h5 hr h18 h19 h20 h hi s
 rintro i s hi ⟨h1, h5, hr, h29, h30, h31⟩
 by_cases h : i < l.length
 .simp [h1, h5, h29, h30, h31, h]
  intro _
  refine W_rng q.length (fun k s => s.e 1 = .sl .rd 3 (q.map eTerm) /\ s.e 5 = .sref 13 /\ s.rw 13 = some ⟨11, ((l.take i).filter (selP q)).map eJob, false⟩ /\ s.e 29 = .sl .rd 11 (l.map eJob) /\ s.e 30 = .int .i64 l.length /\ s.e 31 = .int .i64 (i : Nat) /\
   s.e 9 = .ptr 9 0 /\ s.bx 9 = some (eJob l[i]).cells /\ s.e 10 = .bool (!(q.take k).any (fun t => !goes t l[i])) /\ s.e 35 = .sl .rd 3 (q.map eTerm) /\ s.e 36 = .int .i64 q.length /\ s.e 37 = .int .i64 (k : Nat)) ?_ ?_
  .simp [h1, h5, hr, h29, h30, h31]
  clear h1 h5 hr h29 h30 h31 s
  rintro k s hk ⟨h1, h5, hr, h29, h30, h31, h9, hb, h10, h35, h36, h37⟩
  by_cases h' : k < q.length
  .simp [h5, hr, h31, h9, hb, h10, h35, h36, h37, h']
   refine do_cq (Z6f q[k] l[i]) (by simp [St.args]) ?_
   cases hg : goes q[k] l[i]
   .simp [h37]
    refine Zu h' ?_
    simp [Z68 h', hg, h1, h5, hr, h29, h30, h31, h9, hb, h35, h36, Zb h' hql]
   .simp [h37]
    refine Zu h' ?_
    simp [Z68 h', hg, h1, h5, hr, h29, h30, h31, h9, hb, h10, h35, h36, Zb h' hql]
  .have : k = q.length := by omega
   subst this
   rw [List.take_of_length_le (Nat.le_refl _), show (!q.any (fun t => !goes t l[i])) = selP q l[i] from rfl] at h10
   simp [h5, hr, h31, h9, hb, h10, h35, h36, h37]
   refine ⟨fun hp => ?_, fun hp => ?_⟩
   .refine ⟨?_, Zu h ?_⟩
    .have := List.length_filter_le (selP q) (l.take i)
     simp at this; omega
    .simp [h1, h29, h30, Zb h (by omega : l.length <= 9223372036854775807), ZQ h, hp]
   .refine Zu h ?_
    simp [h1, h5, hr, h29, h30, Zb h (by omega : l.length <= 9223372036854775807), ZQ h, hp]
 .have : i = l.length := by omega
  subst this
  rw [List.take_of_length_le (Nat.le_refl _)] at hr
  simp [h5, h29, h30, h31]
  exact Z2a [13] (by simp [sel, hq, ha, hr])
def Z1r : L :=
 .seq (
 .reg [.bx 1 (.t 0),.mv 2 (.c (.bool false))]) (
 .seq (
 .reg [.ld 3 (.t 1) 3 true,.cq 4 Z02 [(.t 3)],.un 5 (.t 4),.mv 2 (.t 5)]) (
 .ret))
def Z1m : List Rv := [.t 2]
theorem Z4b : chkFn Try.prog Z04 1 Z1r Z1m = true := by kernel_rfl
theorem Z6Z (t : Term) : Snd Try.prog Z04 [eTerm t] (.bool (!termOk t)) [] := by
 refine Zo Z4b rfl (by simp) (den_W ?_)
 unfold Z1r Z1m
 simp
 refine do_cq (Z0D t) (by simp [St.args]) ?_
 simp
def Z1q : L :=
 .seq (
 .reg [.bx 2 (.t 0),.mv 3 (.c (.bool false))]) (
 .seq (
 .reg [.ld 4 (.t 2) 3 true,.ld 5 (.t 1) 11 true,.cq 6 Z1g [(.t 4), (.t 5)],.un 7 (.t 6),.mv 3 (.t 7)]) (
 .ret))
def Z1l : List Rv := [.t 3]
theorem Z4a : chkFn Try.prog Z03 2 Z1q Z1l = true := by kernel_rfl
theorem Z6Y (t : Term) (j : Job) : Snd Try.prog Z03 [eTerm t, .ept (eJob j) 0] (.bool (!goes t j)) [] := by
 refine Zo Z4a rfl (by simp) (den_W ?_)
 unfold Z1q Z1l
 simp
 refine do_cq (Z42 t j) (by simp [St.args]) ?_
 simp
def Z2J : L :=
 .seq (
 .reg [.mv 4 (.c (.nl))]) (
 .seq (
 .seq (
 .reg [.mv 8 (.t 0),.cq 9 Z0K [(.t 8)],.un 10 (.t 9),.mv 11 (.t 10),.g 11 false (.mv 12 (.t 1)),.g 11 false (.cq 13 Z3 [(.t 12), (.c (.fn Z04 []))]),.pk 14 (.t 11) (.c (.bool true)) (.t 13)]) (
 .cond (.t 14) (
  .seq (
  .reg [.mv 4 (.c (.nl))]) (
  .ret)) (
  .skip))) (
 .seq (
 .reg [.bs 15 11 [] true,.mv 5 (.t 15)]) (
 .seq (
 .seq (
 .reg [.mv 16 (.t 0),.ln 17 (.t 16),.mv 18 (.c (.int .i64 0))]) (
 .blk 0 (
  .loop (
   .seq (
   .reg [.bi 19 .lss (.t 18) (.t 17)]) (
   .seq (
   .cond (.t 19) (
    .skip) (
    .exit 0)) (
   .seq (
   .blk 1 (
    .seq (
    .reg [.ia 20 (.t 16) (.t 18) 11,.ld 21 (.t 20) 11 true,.al 7 [.int .i64 0, .int .i64 0, .int .i64 0, .int .i64 0, .int .i64 0, .int .i64 0, .int .i64 0, .int .i64 0, .int .i64 0, .int .i64 0, .int .i64 0],.st (.t 7) (.t 21) 11]) (
    .seq (
    .reg [.fb 7,.mv 22 (.t 1),.mf 23 Z03 [(.t 7)],.cq 24 Z3 [(.t 22), (.t 23)],.un 25 (.t 24)]) (
    .cond (.t 25) (
     .reg [.mv 26 (.t 5),.ld 27 (.t 7) 11 true,.bs 28 11 [(.t 27)] false,.ap 29 (.t 26) (.t 28) 11 88,.mv 5 (.t 29)]) (
     .skip))))) (
   .reg [.bi 30 .add (.t 18) (.c (.int .i64 1)),.mv 18 (.t 30)]))))))) (
 .seq (
 .reg [.mv 31 (.t 5),.mv 4 (.t 31)]) (
 .ret)))))
def Z2t : List Rv := [.t 4]
theorem Z5k : chkFn Try.prog Z05 2 Z2J Z2t = true := by kernel_rfl
theorem Z0E (l : List Job) (q : List Term) (hl : l.length <= 1048576) : Snd Try.prog Z05 [.sl .rd 11 (l.map eJob), .sl .rd 3 (q.map eTerm)] (.sref 0) [⟨11, (sel l q).map eJob, false⟩] := by
 refine Zo Z5k rfl (by simp) (den_W ?_)
 unfold Z2J Z2t
 simp
 refine do_cq (Z4D l) (by simp [St.args]) ?_
 cases hq : ZS l
 .simp
  exact Z1H [none] (by simp [sel, hq])
 simp
 refine do_cq (Z0W q Z04 [] (fun t => !termOk t) (by kernel_rfl) Cap.nil Z6Z) (by simp [St.args]) ?_
 cases ha : q.any (fun t => !termOk t)
 rotate_left
 .simp
  exact Z1H [none] (by simp [sel, ha])
 simp
 intro _
 refine W_rng l.length (fun i s => s.e 1 = .sl .rd 3 (q.map eTerm) /\ s.e 5 = .sref 15 /\ s.rw 15 = some ⟨11, ((l.take i).filter (selP q)).map eJob, false⟩ /\ s.e 16 = .sl .rd 11 (l.map eJob) /\ s.e 17 = .int .i64 l.length /\ s.e 18 = .int .i64 (i : Nat)) ?_ ?_
 .simp
 rintro i s hi ⟨h1, h5, hr, h16, h17, h18⟩
 by_cases h : i < l.length
 .simp [h1, h5, h16, h17, h18, h]
  refine do_cq (Z0W q Z03 [.ept (eJob l[i]) 0] (fun t => !goes t l[i]) (by kernel_rfl) (Cap.one rfl) (fun t => Z6Y t l[i])) (by simp [St.args]) ?_
  have hp : selP q l[i] = !q.any (fun t => !goes t l[i]) := rfl
  cases hx : q.any (fun t => !goes t l[i]) <;> rw [hx] at hp
  .simp [h5, hr, h18]
   refine ⟨?_, Zu h ?_⟩
   .have := List.length_filter_le (selP q) (l.take i)
    simp at this; omega
   .simp [h1, h16, h17, Zb h (by omega : l.length <= 9223372036854775807), ZQ h, hp]
  .simp [h5, hr, h18]
   refine Zu h ?_
   simp [h1, h5, hr, h16, h17, Zb h (by omega : l.length <= 9223372036854775807), ZQ h, hp]
 .have : i = l.length := by omega
  subst this
  rw [List.take_of_length_le (Nat.le_refl _)] at hr
  simp [h5, h16, h17, h18]
  exact Z2a [15] (by simp [sel, hq, ha, hr])
@[simp high] theorem W_ite {P : Program} {R : Ex -> St -> Prop} {k : List It} {s : St} {c : X} {x y : L} : W P R (.l (.cond c x y) :: k) s = match s.get c with
  | .bool t => if t = true then W P R (.l x :: k) s else W P R (.l y :: k) s
  | _ => False := by
 rw [W_cond]
 cases s.get c with
 | bool t => cases t <;> simp
 | _ => rfl
def ms (I : Nat -> St -> Prop) (_ : Tok I) (m : Nat) (s : St) : Prop := I m s
theorem W_ms {P : Program} {R : Ex -> St -> Prop} {k : List It} {s : St} {x : L} (I : Nat -> St -> Prop) (n : Nat) (h0 : I n s)
  (h : ∀ m s', I m s' -> W P R (.l x :: .lp (ms I ⟨⟩) m :: k) s') : W P R (.l (.loop x) :: k) s := Z50 (ms I ⟨⟩) n h0 h
theorem Z5K {I : Nat -> St -> Prop} {t : Tok I} {m : Nat} {s : St} (m' : Nat) (h : m' < m) (hI : I m' s) : ∃ m', m' < m /\ ms I t m' s := ⟨m', h, hI⟩
theorem Z8o {P : Program} {s : St} {d f : Nat} {xs : List X} {K : St -> Prop} {aa : List AV} (bks : List Nat) {bin : List (List AV)} {Φ : AV -> List (List AV) -> List (Option (List AV)) -> List Row -> Prop}
  (hC : Con P f aa bin [] Φ) (h1 : ∀ k ∈ bks, 1000000000 <= k) (h2 : Z0o bks = true) (h3 : ZY s (ix bks) (ix []) bks bin) (ha : wkLs (AV.wkA fun _ => False) (xs.map fun x => ((s.get x).mp (ix bks) (ix [])).rdt) aa)
  (h : ∀ n1 res bout us new, bout.map List.length = bin.map List.length -> Φ res bout us new -> new = [] /\ K (ZV s n1 d bks [] res bout [] []))
  (hb : ∀ b ∈ bin, noOL b := by first | (simp; done) | (simp [*]; done)) (ho : ∀ x ∈ xs, (s.get x).noO := by first | (simp; done) | (simp [*]; done)) : zw P (.cm d f xs) K s :=
 do_zm bks h1 h2 h3 (hC.wk ha) h hb ho
@[simp] def eB (n : Int) : AV := .int .u8 n
@[simp] theorem rdt_BS (l : List Int) : rdtL (l.map eB) = l.map eB := Z28 _ (fun _ => rfl) l
@[simp] theorem nw_BS (l : List Int) : NwL (l.map eB) := Z3P _ (fun _ => by simp) l
def isCur (bs : List Int) (b : List AV) : Prop := ∃ (i : Nat) (h : Int), i <= bs.length /\ b = [.sl .rd 1 (bs.map eB), .int .i64 i, .int .i64 h]
def drawn (bs : List Int) (lo hi : Int) : AV -> List (List AV) -> List (Option (List AV)) -> List Row -> Prop := fun res bout us new => ∃ x b, lo <= x /\ x <= hi /\ res = .int .i64 x /\ bout = [b] /\ isCur bs b /\ us = [] /\ new = []
theorem Z7v (a : Int) : 0 <= bAnd .i64 a 255 /\ bAnd .i64 a 255 <= 255 := by
 have h : (BitVec.ofInt 64 a &&& BitVec.ofInt 64 255).toNat <= 255 := by
  rw [BitVec.toNat_and]
  exact Nat.le_trans Nat.and_le_right (by decide)
 show 0 <= IntKind.i64.wrap _ /\ IntKind.i64.wrap _ <= 255
 have e : ((BitVec.ofInt IntKind.i64.bits a &&& BitVec.ofInt IntKind.i64.bits 255).toNat : Int) = ((BitVec.ofInt 64 a &&& BitVec.ofInt 64 255).toNat : Int) := rfl
 rw [e, Zi (by omega) (by omega)]
 omega
def Z1P : L :=
 .seq (
 .reg [.mv 2 (.c (.int .i64 0))]) (
 .seq (
 .reg [.mv 4 (.t 0),.mv 5 (.t 0),.nc 6 (.t 5),.fa 7 (.t 6) 2,.ld 8 (.t 7) 1 false,.bi 9 .mul (.t 8) (.c (.int .i64 6364136223846793005)),.bi 10 .add (.t 9) (.c (.int .i64 1442695040888963407)),.nc 11 (.t 4),.fa 12 (.t 11) 2,.st (.t 12) (.t 10) 1]) (
 .seq (
 .rq 13 [.mv 13 (.t 0),.nc 14 (.t 13),.fa 15 (.t 14) 2,.ld 16 (.t 15) 1 false,.bi 17 .shr (.t 16) (.c (.int .u64 33)),.mv 18 (.t 0),.nc 19 (.t 18),.fa 20 (.t 19) 2,.ld 21 (.t 20) 1 false,.bi 22 .shr (.t 21) (.c (.int .u64 45)),.bi 23 .xor (.t 17) (.t 22),.bi 24 .and (.t 23) (.c (.int .i64 255)),.mv 3 (.t 24)]) (
 .seq (
 .seq (
 .rq 10 [.mv 25 (.t 0),.nc 26 (.t 25),.fa 27 (.t 26) 1,.ld 28 (.t 27) 1 false,.mv 29 (.t 0),.nc 30 (.t 29),.fa 31 (.t 30) 0,.ld 32 (.t 31) 1 false,.lq 33 (.t 32),.bi 34 .lss (.t 28) (.t 33)]) (
 .cond (.t 34) (
  .seq (
  .rq 14 [.mv 35 (.t 3),.mv 36 (.t 0),.nc 37 (.t 36),.fa 38 (.t 37) 0,.ld 39 (.t 38) 1 false,.mv 40 (.t 0),.nc 41 (.t 40),.fa 42 (.t 41) 1,.ld 43 (.t 42) 1 false,.ia 44 (.t 39) (.t 43) 1,.ld 45 (.t 44) 1 false,.cv 46 .i64 (.t 45),.bi 47 .add (.t 35) (.t 46),.bi 48 .and (.t 47) (.c (.int .i64 255)),.mv 3 (.t 48)]) (
  .reg [.mv 49 (.t 0),.mv 50 (.t 0),.nc 51 (.t 50),.fa 52 (.t 51) 1,.ld 53 (.t 52) 1 false,.bi 54 .add (.t 53) (.c (.int .i64 1)),.nc 55 (.t 49),.fa 56 (.t 55) 1,.st (.t 56) (.t 54) 1])) (
  .skip))) (
 .seq (
 .reg [.mv 57 (.t 3),.mv 2 (.t 57)]) (
 .ret)))))
def Z1z : List Rv := [.t 2]
theorem Z4O : chkFn Try.prog Zw 1 Z1P Z1z = true := by kernel_rfl
set_option maxRecDepth 10000 in
theorem Z0Q (bs : List Int) (b : List AV) (hb : isCur bs b) (hl : bs.length <= 1048576) : Con Try.prog Zw [.ptr 0 0] [b] [] (drawn bs 0 255) := by
 obtain ⟨i, h, hi, rfl⟩ := hb
 refine Z0X [] Z4O rfl (by simp) fun _ _ => den_W ?_
 unfold Z1P Z1z
 simp
 refine ⟨by omega, ?_⟩
 generalize IntKind.i64.wrap (IntKind.i64.wrap (h * 6364136223846793005) + 1442695040888963407) = h'
 generalize hx : bAnd .i64 (bXor .i64 (bShr .i64 h' 33) (bShr .i64 h' 45)) 255 = x
 have hx' := Z7v (bXor .i64 (bShr .i64 h' 33) (bShr .i64 h' 45))
 rw [hx] at hx'
 by_cases hlt : i < bs.length
 .have hws := Zb hlt (by omega : bs.length <= 9223372036854775807)
  simp [hlt, hws]
  generalize hy : bAnd .i64 (IntKind.i64.wrap (x + IntKind.i64.wrap bs[i])) 255 = y
  have hy' := Z7v (IntKind.i64.wrap (x + IntKind.i64.wrap bs[i]))
  rw [hy] at hy'
  refine Z2 [[.sl .rd 1 (bs.map eB), .int .i64 ((i + 1 : Nat) : Int), .int .i64 h']] [] [] [] ?_
  simp
  exact ⟨y, _, hy'.1, hy'.2, rfl, rfl, ⟨i + 1, h', hlt, by simp⟩, rfl, rfl⟩
 .simp [hlt]
  refine Z2 [[.sl .rd 1 (bs.map eB), .int .i64 ((i : Nat) : Int), .int .i64 h']] [] [] [] ?_
  simp
  exact ⟨x, _, hx'.1, hx'.2, rfl, rfl, ⟨i, h', hi, by simp⟩, rfl, rfl⟩
def Z1p : L :=
 .seq (
 .reg [.mv 4 (.c (.int .i64 0))]) (
 .seq (
 .seq (
 .reg [.mv 9 (.t 1),.bi 10 .leq (.t 9) (.c (.int .i64 0))]) (
 .cond (.t 10) (
  .seq (
  .reg [.mv 4 (.c (.int .i64 0))]) (
  .ret)) (
  .skip))) (
 .seq (
 .seq (
 .reg [.mv 11 (.t 1),.bi 12 .leq (.t 11) (.c (.int .i64 256))]) (
 .cond (.t 12) (
  .seq (
  .reg [.mv 13 (.t 0),.cm 14 Zw [(.t 13)],.mv 15 (.t 1),.bi 16 .rem (.t 14) (.t 15),.mv 4 (.t 16)]) (
  .ret)) (
  .skip))) (
 .seq (
 .reg [.mv 17 (.t 0),.cm 18 Zw [(.t 17)],.mv 5 (.t 18)]) (
 .seq (
 .reg [.mv 19 (.t 0),.cm 20 Zw [(.t 19)],.mv 6 (.t 20)]) (
 .seq (
 .reg [.mv 21 (.t 0),.cm 22 Zw [(.t 21)],.mv 7 (.t 22)]) (
 .seq (
 .reg [.mv 23 (.t 0),.cm 24 Zw [(.t 23)],.mv 8 (.t 24)]) (
 .seq (
 .reg [.mv 25 (.t 5),.bi 26 .mul (.t 25) (.c (.int .i64 16777216)),.mv 27 (.t 6),.bi 28 .mul (.t 27) (.c (.int .i64 65536)),.bi 29 .add (.t 26) (.t 28),.mv 30 (.t 7),.bi 31 .mul (.t 30) (.c (.int .i64 256)),.bi 32 .add (.t 29) (.t 31),.mv 33 (.t 8),.bi 34 .add (.t 32) (.t 33),.mv 35 (.t 1),.bi 36 .rem (.t 34) (.t 35),.mv 4 (.t 36)]) (
 .ret))))))))
def Z1k : List Rv := [.t 4]
theorem Z49 : chkFn Try.prog Z0 2 Z1p Z1k = true := by kernel_rfl
set_option maxRecDepth 10000 in
theorem Z1 (bs : List Int) (b : List AV) (n : Int) (hb : isCur bs b) (hl : bs.length <= 1048576) (hn : n <= 1000000000) : Con Try.prog Z0 [.ptr 0 0, .int .i64 n] [b] [] (drawn bs 0 (max 0 (n - 1))) := by
 obtain ⟨i, h, hi, rfl⟩ := hb
 refine Z0X [] Z49 rfl (by simp) fun _ _ => den_W ?_
 unfold Z1p Z1k
 by_cases h0 : n <= 0
 .simp [h0]
  refine Z2 [[.sl .rd 1 (bs.map eB), .int .i64 (i : Nat), .int .i64 h]] [] [] [] ?_
  simp
  exact ⟨0, _, by omega, by omega, rfl, rfl, ⟨i, h, hi, rfl⟩, rfl, rfl⟩
 have hne : ¬ n = 0 := by omega
 by_cases h256 : n <= 256
 .simp [h0, h256]
  refine do_cm [2000000000] [] (Z0Q bs _ ⟨i, h, hi, rfl⟩ hl) rfl (by simp) (by simp) (by simp) ?_
  rintro _ _ _ _ _ _ _ ⟨x, _, x0, x1, rfl, rfl, ⟨i', h', hi', rfl⟩, rfl, rfl⟩
  have r0 := Int.tmod_nonneg n x0
  have r1 := Int.tmod_lt_of_pos x (show 0 < n by omega)
  simp [hne]
  refine Z2 [[.sl .rd 1 (bs.map eB), .int .i64 (i' : Nat), .int .i64 h']] [] [] [] ?_
  simp
  exact ⟨x.tmod n, _, r0, by omega, rfl, rfl, ⟨i', h', hi', rfl⟩, rfl, rfl⟩
 .simp [h0, h256]
  refine do_cm [2000000000] [] (Z0Q bs _ ⟨i, h, hi, rfl⟩ hl) rfl (by simp) (by simp) (by simp) ?_
  rintro _ _ _ _ _ _ _ ⟨x, _, x0, x1, rfl, rfl, ⟨i1, h1, hi1, rfl⟩, rfl, rfl⟩
  simp
  refine do_cm [2000000000] [] (Z0Q bs _ ⟨i1, h1, hi1, rfl⟩ hl) rfl (by simp) (by simp) (by simp) ?_
  rintro _ _ _ _ _ _ _ ⟨y, _, y0, y1, rfl, rfl, ⟨i2, h2, hi2, rfl⟩, rfl, rfl⟩
  simp
  refine do_cm [2000000000] [] (Z0Q bs _ ⟨i2, h2, hi2, rfl⟩ hl) rfl (by simp) (by simp) (by simp) ?_
  rintro _ _ _ _ _ _ _ ⟨z, _, z0, z1, rfl, rfl, ⟨i3, h3, hi3, rfl⟩, rfl, rfl⟩
  simp
  refine do_cm [2000000000] [] (Z0Q bs _ ⟨i3, h3, hi3, rfl⟩ hl) rfl (by simp) (by simp) (by simp) ?_
  rintro _ _ _ _ _ _ _ ⟨u, _, u0, u1, rfl, rfl, ⟨i4, h4, hi4, rfl⟩, rfl, rfl⟩
  have e1 : IntKind.i64.wrap (x * 16777216) = x * 16777216 := Zi (by omega) (by omega)
  have e2 : IntKind.i64.wrap (y * 65536) = y * 65536 := Zi (by omega) (by omega)
  have e3 : IntKind.i64.wrap (z * 256) = z * 256 := Zi (by omega) (by omega)
  have e4 : IntKind.i64.wrap (x * 16777216 + y * 65536) = x * 16777216 + y * 65536 := Zi (by omega) (by omega)
  have e5 : IntKind.i64.wrap (x * 16777216 + y * 65536 + z * 256) = x * 16777216 + y * 65536 + z * 256 := Zi (by omega) (by omega)
  have e6 : IntKind.i64.wrap (x * 16777216 + y * 65536 + z * 256 + u) = x * 16777216 + y * 65536 + z * 256 + u := Zi (by omega) (by omega)
  have r0 := Int.tmod_nonneg n (show 0 <= x * 16777216 + y * 65536 + z * 256 + u by omega)
  have r1 := Int.tmod_lt_of_pos (x * 16777216 + y * 65536 + z * 256 + u) (show 0 < n by omega)
  simp [hne, e1, e2, e3, e4, e5, e6]
  refine Z2 [[.sl .rd 1 (bs.map eB), .int .i64 (i4 : Nat), .int .i64 h4]] [] [] [] ?_
  simp
  exact ⟨(x * 16777216 + y * 65536 + z * 256 + u).tmod n, _, r0, by omega, rfl, rfl, ⟨i4, h4, hi4, rfl⟩, rfl, rfl⟩
def Z2B : L :=
 .seq (
 .reg [.mv 2 (.c (.int .i64 0))]) (
 .seq (
 .reg [.mv 4 (.t 0),.cm 5 Z0 [(.t 4), (.c (.int .i64 9))],.mv 3 (.t 5)]) (
 .seq (
 .seq (
 .reg [.mv 6 (.t 3),.bi 7 .lss (.t 6) (.c (.int .i64 4))]) (
 .cond (.t 7) (
  .seq (
  .reg [.mv 8 (.t 0),.cm 9 Z0 [(.t 8), (.c (.int .i64 24))],.bi 10 .sub (.t 9) (.c (.int .i64 2)),.mv 2 (.t 10)]) (
  .ret)) (
  .skip))) (
 .seq (
 .seq (
 .reg [.mv 11 (.t 3),.bi 12 .eql (.t 11) (.c (.int .i64 4))]) (
 .cond (.t 12) (
  .seq (
  .reg [.mv 13 (.t 0),.cm 14 Z0 [(.t 13), (.c (.int .i64 3))],.bi 15 .add (.c (.int .i64 999999)) (.t 14),.mv 2 (.t 15)]) (
  .ret)) (
  .skip))) (
 .seq (
 .seq (
 .reg [.mv 16 (.t 3),.bi 17 .eql (.t 16) (.c (.int .i64 5))]) (
 .cond (.t 17) (
  .seq (
  .reg [.mv 18 (.t 0),.cm 19 Z0 [(.t 18), (.c (.int .i64 3))],.bi 20 .add (.c (.int .i64 999999999)) (.t 19),.mv 2 (.t 20)]) (
  .ret)) (
  .skip))) (
 .seq (
 .seq (
 .reg [.mv 21 (.t 3),.bi 22 .eql (.t 21) (.c (.int .i64 6))]) (
 .cond (.t 22) (
  .seq (
  .reg [.mv 23 (.t 0),.cm 24 Z0 [(.t 23), (.c (.int .i64 2))],.bi 25 .sub (.c (.int .i64 9223372036854775807)) (.t 24),.mv 2 (.t 25)]) (
  .ret)) (
  .skip))) (
 .seq (
 .seq (
 .reg [.mv 26 (.t 3),.bi 27 .eql (.t 26) (.c (.int .i64 7))]) (
 .cond (.t 27) (
  .seq (
  .reg [.mv 28 (.t 0),.cm 29 Z0 [(.t 28), (.c (.int .i64 2))],.bi 30 .sub (.c (.int .i64 (-9223372036854775807))) (.t 29),.mv 2 (.t 30)]) (
  .ret)) (
  .skip))) (
 .seq (
 .reg [.mv 31 (.t 0),.cm 32 Z0 [(.t 31), (.c (.int .i64 2000000))],.mv 2 (.t 32)]) (
 .ret))))))))
def Z2m : List Rv := [.t 2]
theorem Z5c : chkFn Try.prog Zf 1 Z2B Z2m = true := by kernel_rfl
set_option maxRecDepth 10000 in
theorem ZX (bs : List Int) (b : List AV) (hb : isCur bs b) (hl : bs.length <= 1048576) : Con Try.prog Zf [.ptr 0 0] [b] [] (drawn bs (-9223372036854775808) 9223372036854775807) := by
 obtain ⟨i, h, hi, rfl⟩ := hb
 refine Z0X [] Z5c rfl (by simp) fun _ _ => den_W ?_
 unfold Z2B Z2m
 simp
 refine do_cm [2000000000] [] (Z1 bs _ 9 ⟨i, h, hi, rfl⟩ hl (by omega)) rfl (by simp) (by simp) (by simp) ?_
 rintro _ _ _ _ _ _ _ ⟨k, _, k0, k1, rfl, rfl, ⟨i1, h1, hi1, rfl⟩, rfl, rfl⟩
 by_cases c4 : k < 4
 .simp [c4]
  refine do_cm [2000000000] [] (Z1 bs _ 24 ⟨i1, h1, hi1, rfl⟩ hl (by omega)) rfl (by simp) (by simp) (by simp) ?_
  rintro _ _ _ _ _ _ _ ⟨x, _, x0, x1, rfl, rfl, ⟨i2, h2, hi2, rfl⟩, rfl, rfl⟩
  have e : IntKind.i64.wrap (x - 2) = x - 2 := Zi (by omega) (by omega)
  simp [e]
  refine Z2 [[.sl .rd 1 (bs.map eB), .int .i64 (i2 : Nat), .int .i64 h2]] [] [] [] ?_
  simp
  exact ⟨_, _, by omega, by omega, rfl, rfl, ⟨i2, h2, hi2, rfl⟩, rfl, rfl⟩
 by_cases c14 : k = 4
 .simp [c14]
  refine do_cm [2000000000] [] (Z1 bs _ 3 ⟨i1, h1, hi1, rfl⟩ hl (by omega)) rfl (by simp) (by simp) (by simp) ?_
  rintro _ _ _ _ _ _ _ ⟨x, _, x0, x1, rfl, rfl, ⟨i2, h2, hi2, rfl⟩, rfl, rfl⟩
  have e : IntKind.i64.wrap (999999 + x) = 999999 + x := Zi (by omega) (by omega)
  simp [e]
  refine Z2 [[.sl .rd 1 (bs.map eB), .int .i64 (i2 : Nat), .int .i64 h2]] [] [] [] ?_
  simp
  exact ⟨_, _, by omega, by omega, rfl, rfl, ⟨i2, h2, hi2, rfl⟩, rfl, rfl⟩
 by_cases c15 : k = 5
 .simp [c15]
  refine do_cm [2000000000] [] (Z1 bs _ 3 ⟨i1, h1, hi1, rfl⟩ hl (by omega)) rfl (by simp) (by simp) (by simp) ?_
  rintro _ _ _ _ _ _ _ ⟨x, _, x0, x1, rfl, rfl, ⟨i2, h2, hi2, rfl⟩, rfl, rfl⟩
  have e : IntKind.i64.wrap (999999999 + x) = 999999999 + x := Zi (by omega) (by omega)
  simp [e]
  refine Z2 [[.sl .rd 1 (bs.map eB), .int .i64 (i2 : Nat), .int .i64 h2]] [] [] [] ?_
  simp
  exact ⟨_, _, by omega, by omega, rfl, rfl, ⟨i2, h2, hi2, rfl⟩, rfl, rfl⟩
 by_cases c16 : k = 6
 .simp [c16]
  refine do_cm [2000000000] [] (Z1 bs _ 2 ⟨i1, h1, hi1, rfl⟩ hl (by omega)) rfl (by simp) (by simp) (by simp) ?_
  rintro _ _ _ _ _ _ _ ⟨x, _, x0, x1, rfl, rfl, ⟨i2, h2, hi2, rfl⟩, rfl, rfl⟩
  have e : IntKind.i64.wrap (9223372036854775807 - x) = 9223372036854775807 - x := Zi (by omega) (by omega)
  simp [e]
  refine Z2 [[.sl .rd 1 (bs.map eB), .int .i64 (i2 : Nat), .int .i64 h2]] [] [] [] ?_
  simp
  exact ⟨_, _, by omega, by omega, rfl, rfl, ⟨i2, h2, hi2, rfl⟩, rfl, rfl⟩
 by_cases c17 : k = 7
 .simp [c17]
  refine do_cm [2000000000] [] (Z1 bs _ 2 ⟨i1, h1, hi1, rfl⟩ hl (by omega)) rfl (by simp) (by simp) (by simp) ?_
  rintro _ _ _ _ _ _ _ ⟨x, _, x0, x1, rfl, rfl, ⟨i2, h2, hi2, rfl⟩, rfl, rfl⟩
  have e : IntKind.i64.wrap (-9223372036854775807 - x) = -9223372036854775807 - x := Zi (by omega) (by omega)
  simp [e]
  refine Z2 [[.sl .rd 1 (bs.map eB), .int .i64 (i2 : Nat), .int .i64 h2]] [] [] [] ?_
  simp
  exact ⟨_, _, by omega, by omega, rfl, rfl, ⟨i2, h2, hi2, rfl⟩, rfl, rfl⟩
 .simp [c4, c14, c15, c16, c17]
  refine do_cm [2000000000] [] (Z1 bs _ 2000000 ⟨i1, h1, hi1, rfl⟩ hl (by omega)) rfl (by simp) (by simp) (by simp) ?_
  rintro _ _ _ _ _ _ _ ⟨x, _, x0, x1, rfl, rfl, ⟨i2, h2, hi2, rfl⟩, rfl, rfl⟩
  simp
  refine Z2 [[.sl .rd 1 (bs.map eB), .int .i64 (i2 : Nat), .int .i64 h2]] [] [] [] ?_
  simp
  exact ⟨_, _, by omega, by omega, rfl, rfl, ⟨i2, h2, hi2, rfl⟩, rfl, rfl⟩
def Z2C : L :=
 .seq (
 .reg [.mv 2 (.c (.bad))]) (
 .seq (
 .reg [.mv 5 (.t 0),.ln 6 (.t 5),.bi 7 .add (.c (.int .i64 958001)) (.t 6),.mv 3 (.t 7)]) (
 .seq (
 .seq (
 .reg [.mv 4 (.c (.int .i64 0))]) (
 .blk 0 (
  .loop (
   .seq (
   .seq (
   .reg [.mv 8 (.t 4),.mv 9 (.t 0),.ln 10 (.t 9),.bi 11 .lss (.t 8) (.t 10),.mv 12 (.t 11),.g 12 true (.mv 13 (.t 4)),.g 12 true (.bi 14 .lss (.t 13) (.c (.int .i64 4000))),.pk 15 (.t 12) (.t 14) (.c (.bool false))]) (
   .cond (.t 15) (
    .skip) (
    .exit 0))) (
   .seq (
   .blk 1 (
    .reg [.mv 18 (.t 3),.bi 19 .mul (.t 18) (.c (.int .i64 151)),.mv 20 (.t 0),.mv 21 (.t 4),.ia 22 (.t 20) (.t 21) 1,.ld 23 (.t 22) 1 false,.cv 24 .i64 (.t 23),.bi 25 .add (.t 19) (.t 24),.bi 26 .add (.t 25) (.c (.int .i64 7)),.bi 27 .and (.t 26) (.c (.int .i64 1073741823)),.mv 3 (.t 27)])) (
   .reg [.mv 16 (.t 4),.bi 17 .add (.t 16) (.c (.int .i64 1)),.mv 4 (.t 17)])))))) (
 .seq (
 .reg [.mv 28 (.t 0),.mv 29 (.t 3),.bd 30 [.nl, .int .i64 0, .int .i64 0] [(0, 1, (.t 28)), (2, 1, (.t 29))],.bx 31 (.t 30),.mv 2 (.t 31)]) (
 .ret))))
def Z53 : List Rv := [.t 2]
theorem Z5d : chkFn Try.prog Z1c 1 Z2C Z53 = true := by kernel_rfl
set_option maxRecDepth 10000 in
theorem Z8c (bs : List Int) (hl : bs.length <= 1048576) : SndB Try.prog Z1c [.sl .rd 1 (bs.map eB)] (isCur bs) := by
 refine sndb_by Z5d rfl (by simp) (den_W ?_)
 unfold Z2C
 simp
 intro _
 refine W_rngJ bs.length (fun i s => ∃ h, s.e 0 = .sl .rd 1 (bs.map eB) /\ s.e 3 = .int .i64 h /\ s.e 4 = .int .i64 (i : Nat)) (fun s => ∃ h, s.e 0 = .sl .rd 1 (bs.map eB) /\ s.e 3 = .int .i64 h) ?_ ?_ ?_
 .exact ⟨_, by simp; rfl⟩
 .rintro i s hi ⟨h, e0, e3, e4⟩
  by_cases hlt : i < bs.length
  .by_cases h4 : (i : Int) < 4000
   .simp [e0, e3, e4, hlt, h4]
    intro _
    refine Zu hlt ⟨bAnd .i64 (IntKind.i64.wrap (IntKind.i64.wrap (IntKind.i64.wrap (h * 151) + IntKind.i64.wrap bs[i]) + 7)) 1073741823, ?_⟩
    simp [e0, Zb hlt (by omega : bs.length <= 9223372036854775807)]
   .simp [e0, e4, hlt, h4]
    intro _
    refine beh_of ⟨h, ?_⟩
    simp [e0, e3]
  .simp [e0, e4, hlt]
   intro _
   refine beh_of ⟨h, ?_⟩
   simp [e0, e3]
 rintro s ⟨h, e0, e3⟩
 simp [e0, e3]
 exact ⟨0, h, by omega, by simp⟩
def Z7p (bs : List Int) : AV -> List (List AV) -> List (Option (List AV)) -> List Row -> Prop := fun res bout us new => ∃ (v : Vec) (b : List AV), res = eVec v /\ bout = [b] /\ isCur bs b /\ us = [] /\ new = []
def Z7q (bs : List Int) : AV -> List (List AV) -> List (Option (List AV)) -> List Row -> Prop := fun res bout us new => ∃ (j : Job) (b : List AV), res = eJob j /\ bout = [b] /\ isCur bs b /\ us = [] /\ new = []
def Z6w (bs : List Int) : AV -> List (List AV) -> List (Option (List AV)) -> List Row -> Prop := fun res bout us new => ∃ (t : Term) (b : List AV), res = eTerm t /\ bout = [b] /\ isCur bs b /\ us = [] /\ new = []
theorem cutW {P : Program} {o : LOp} {K : St -> Prop} {s : St} (I : St -> Prop) (h0 : I s) (h : ∀ s, I s -> wop P o K s) : wop P o K s := h s h0
def Z2z : L :=
 .seq (
 .reg [.al 2 [.int .i64 0, .int .i64 0, .int .i64 0]]) (
 .seq (
 .reg [.mv 4 (.t 0),.cm 5 Z0 [(.t 4), (.c (.int .i64 9))],.mv 6 (.t 0),.cm 7 Z0 [(.t 6), (.c (.int .i64 17))],.mv 8 (.t 0),.cm 9 Z0 [(.t 8), (.c (.int .i64 3))],.bd 10 [.int .i64 0, .int .i64 0, .int .i64 0] [(0, 1, (.t 5)), (1, 1, (.t 7)), (2, 1, (.t 9))],.al 3 [.int .i64 0, .int .i64 0, .int .i64 0],.st (.t 3) (.t 10) 3]) (
 .seq (
 .seq (
 .reg [.mv 11 (.t 0),.cm 12 Z0 [(.t 11), (.c (.int .i64 14))],.bi 13 .eql (.t 12) (.c (.int .i64 0))]) (
 .cond (.t 13) (
  .reg [.mv 14 (.t 0),.cm 15 Z0 [(.t 14), (.c (.int .i64 2))],.bi 16 .sub (.c (.int .i64 1000000)) (.t 15),.fa 17 (.t 3) 1,.st (.t 17) (.t 16) 1]) (
  .skip))) (
 .seq (
 .reg [.ld 18 (.t 3) 3 true,.st (.t 2) (.t 18) 3]) (
 .ret))))
def Z2k : List Rv := [.c 2 3 true]
theorem Z5a : chkFn Try.prog Z1b 1 Z2z Z2k = true := by kernel_rfl
set_option maxRecDepth 20000 in
set_option maxHeartbeats 4000000 in
theorem Z8b (bs : List Int) (b : List AV) (hb : isCur bs b) (hl : bs.length <= 1048576) : Con Try.prog Z1b [.ptr 0 0] [b] [] (Z7p bs) := by
 obtain ⟨i0, h0, hi0, rfl⟩ := hb
 refine Z0X [] Z5a rfl (by simp) fun _ _ => den_W ?_
 unfold Z2z Z2k
 simp
 refine do_cm [2000000000] [] (Z1 bs _ 9 ⟨i0, h0, hi0, rfl⟩ hl (by omega)) rfl (by simp) (by simp) (by simp) ?_
 rintro _ _ _ _ _ _ _ ⟨x, _, x0, x1, rfl, rfl, ⟨i1, h1, hi1, rfl⟩, rfl, rfl⟩
 simp
 refine do_cm [2000000000] [] (Z1 bs _ 17 ⟨i1, h1, hi1, rfl⟩ hl (by omega)) rfl (by simp) (by simp) (by simp) ?_
 rintro _ _ _ _ _ _ _ ⟨y, _, y0, y1, rfl, rfl, ⟨i2, h2, hi2, rfl⟩, rfl, rfl⟩
 simp
 refine do_cm [2000000000] [] (Z1 bs _ 3 ⟨i2, h2, hi2, rfl⟩ hl (by omega)) rfl (by simp) (by simp) (by simp) ?_
 rintro _ _ _ _ _ _ _ ⟨z, _, z0, z1, rfl, rfl, ⟨i3, h3, hi3, rfl⟩, rfl, rfl⟩
 simp
 refine do_cm [2000000000] [] (Z1 bs _ 14 ⟨i3, h3, hi3, rfl⟩ hl (by omega)) rfl (by simp) (by simp) (by simp) ?_
 rintro _ _ _ _ _ _ _ ⟨u, _, u0, u1, rfl, rfl, ⟨i4, h4, hi4, rfl⟩, rfl, rfl⟩
 by_cases hu : u = 0
 .simp [hu]
  refine do_cm [2000000000] [] (Z1 bs _ 2 ⟨i4, h4, hi4, rfl⟩ hl (by omega)) rfl (by simp) (by simp) (by simp) ?_
  rintro _ _ _ _ _ _ _ ⟨q, _, q0, q1, rfl, rfl, ⟨i5, h5, hi5, rfl⟩, rfl, rfl⟩
  simp
  refine Z2 [[.sl .rd 1 (bs.map eB), .int .i64 (i5 : Nat), .int .i64 h5]] [] [] [] ?_
  simp
  exact ⟨⟨x, IntKind.i64.wrap (1000000 - q), z⟩, _, rfl, rfl, ⟨i5, h5, hi5, rfl⟩, rfl, rfl⟩
 .simp [hu]
  refine Z2 [[.sl .rd 1 (bs.map eB), .int .i64 (i4 : Nat), .int .i64 h4]] [] [] [] ?_
  simp
  exact ⟨⟨x, y, z⟩, _, rfl, rfl, ⟨i4, h4, hi4, rfl⟩, rfl, rfl⟩
def Z2D : L :=
 .seq (
 .reg [.al 2 [.int .i64 0, .int .i64 0, .int .i64 0]]) (
 .seq (
 .reg [.mv 5 (.t 0),.cm 6 Z1b [(.t 5)],.al 3 [.int .i64 0, .int .i64 0, .int .i64 0],.st (.t 3) (.t 6) 3]) (
 .seq (
 .reg [.mv 7 (.t 0),.cm 8 Z0 [(.t 7), (.c (.int .i64 12))],.mv 4 (.t 8)]) (
 .seq (
 .seq (
 .reg [.mv 9 (.t 4),.bi 10 .eql (.t 9) (.c (.int .i64 0))]) (
 .cond (.t 10) (
  .reg [.mv 11 (.t 0),.cm 12 Zf [(.t 11)],.fa 13 (.t 3) 0,.st (.t 13) (.t 12) 1]) (
  .skip))) (
 .seq (
 .seq (
 .reg [.mv 14 (.t 4),.bi 15 .eql (.t 14) (.c (.int .i64 1))]) (
 .cond (.t 15) (
  .reg [.mv 16 (.t 0),.cm 17 Zf [(.t 16)],.fa 18 (.t 3) 1,.st (.t 18) (.t 17) 1]) (
  .skip))) (
 .seq (
 .seq (
 .reg [.mv 19 (.t 4),.bi 20 .eql (.t 19) (.c (.int .i64 2))]) (
 .cond (.t 20) (
  .reg [.mv 21 (.t 0),.cm 22 Zf [(.t 21)],.fa 23 (.t 3) 2,.st (.t 23) (.t 22) 1]) (
  .skip))) (
 .seq (
 .reg [.ld 24 (.t 3) 3 true,.st (.t 2) (.t 24) 3]) (
 .ret)))))))
def Z2n : List Rv := [.c 2 3 true]
theorem Z5e : chkFn Try.prog Z1d 1 Z2D Z2n = true := by kernel_rfl
set_option maxRecDepth 20000 in
set_option maxHeartbeats 4000000 in
theorem Z8d (bs : List Int) (b : List AV) (hb : isCur bs b) (hl : bs.length <= 1048576) : Con Try.prog Z1d [.ptr 0 0] [b] [] (Z7p bs) := by
 obtain ⟨i0, h0, hi0, rfl⟩ := hb
 refine Z0X [] Z5e rfl (by simp) fun _ _ => den_W ?_
 unfold Z2D Z2n
 simp
 refine do_cm [2000000000] [] (Z8b bs _ ⟨i0, h0, hi0, rfl⟩ hl) rfl (by simp) (by simp) (by simp) ?_
 rintro _ _ _ _ _ _ _ ⟨v, _, rfl, rfl, ⟨i1, h1, hi1, rfl⟩, rfl, rfl⟩
 simp
 refine do_cm [2000000000] [] (Z1 bs _ 12 ⟨i1, h1, hi1, rfl⟩ hl (by omega)) rfl (by simp) (by simp) (by simp) ?_
 rintro _ _ _ _ _ _ _ ⟨k, _, k0, k1, rfl, rfl, ⟨i2, h2, hi2, rfl⟩, rfl, rfl⟩
 by_cases k0 : k = 0
 .simp [k0]
  refine do_cm [2000000000] [] (ZX bs _ ⟨i2, h2, hi2, rfl⟩ hl) rfl (by simp) (by simp) (by simp) ?_
  rintro _ _ _ _ _ _ _ ⟨q, _, q0, q1, rfl, rfl, ⟨i3, h3, hi3, rfl⟩, rfl, rfl⟩
  simp
  refine Z2 [[.sl .rd 1 (bs.map eB), .int .i64 (i3 : Nat), .int .i64 h3]] [] [] [] ?_
  simp
  exact ⟨⟨q, v.b, v.c⟩, _, rfl, rfl, ⟨i3, h3, hi3, rfl⟩, rfl, rfl⟩
 by_cases k1 : k = 1
 .simp [k1]
  refine do_cm [2000000000] [] (ZX bs _ ⟨i2, h2, hi2, rfl⟩ hl) rfl (by simp) (by simp) (by simp) ?_
  rintro _ _ _ _ _ _ _ ⟨q, _, q0, q1, rfl, rfl, ⟨i3, h3, hi3, rfl⟩, rfl, rfl⟩
  simp
  refine Z2 [[.sl .rd 1 (bs.map eB), .int .i64 (i3 : Nat), .int .i64 h3]] [] [] [] ?_
  simp
  exact ⟨⟨v.a, q, v.c⟩, _, rfl, rfl, ⟨i3, h3, hi3, rfl⟩, rfl, rfl⟩
 by_cases k2 : k = 2
 .simp [k2]
  refine do_cm [2000000000] [] (ZX bs _ ⟨i2, h2, hi2, rfl⟩ hl) rfl (by simp) (by simp) (by simp) ?_
  rintro _ _ _ _ _ _ _ ⟨q, _, q0, q1, rfl, rfl, ⟨i3, h3, hi3, rfl⟩, rfl, rfl⟩
  simp
  refine Z2 [[.sl .rd 1 (bs.map eB), .int .i64 (i3 : Nat), .int .i64 h3]] [] [] [] ?_
  simp
  exact ⟨⟨v.a, v.b, q⟩, _, rfl, rfl, ⟨i3, h3, hi3, rfl⟩, rfl, rfl⟩
 simp [k0, k1, k2]
 refine Z2 [[.sl .rd 1 (bs.map eB), .int .i64 (i2 : Nat), .int .i64 h2]] [] [] [] ?_
 simp
 exact ⟨v, _, rfl, rfl, ⟨i2, h2, hi2, rfl⟩, rfl, rfl⟩
def Z2y : L :=
 .seq (
 .reg [.al 2 [.int .i64 0, .int .i64 0, .int .i64 0, .int .i64 0, .int .i64 0, .int .i64 0, .int .i64 0, .int .i64 0, .int .i64 0, .int .i64 0, .int .i64 0]]) (
 .seq (
 .reg [.mv 4 (.t 0),.cm 5 Z0 [(.t 4), (.c (.int .i64 30))],.bi 6 .add (.c (.int .i64 1)) (.t 5),.mv 7 (.t 0),.cm 8 Z0 [(.t 7), (.c (.int .i64 5))],.mv 9 (.t 0),.cm 10 Z0 [(.t 9), (.c (.int .i64 3))],.bi 11 .add (.c (.int .i64 1)) (.t 10),.mv 12 (.t 0),.cm 13 Z0 [(.t 12), (.c (.int .i64 5))],.bi 14 .add (.c (.int .i64 1)) (.t 13),.mv 15 (.t 0),.cm 16 Z0 [(.t 15), (.c (.int .i64 9))],.mv 17 (.t 0),.cm 18 Z0 [(.t 17), (.c (.int .i64 4))],.bi 19 .quo (.t 18) (.c (.int .i64 3)),.bd 20 [.int .i64 0, .int .i64 0, .int .i64 0] [(0, 1, (.t 14)), (1, 1, (.t 16)), (2, 1, (.t 19))],.mv 21 (.t 0),.cm 22 Z0 [(.t 21), (.c (.int .i64 20))],.bi 23 .add (.c (.int .i64 1)) (.t 22),.mv 24 (.t 0),.cm 25 Z0 [(.t 24), (.c (.int .i64 3))],.bd 26 [.int .i64 0, .int .i64 0, .int .i64 0, .int .i64 0, .int .i64 0, .int .i64 0, .int .i64 0, .int .i64 0, .int .i64 0, .int .i64 0, .int .i64 0] [(0, 1, (.t 6)), (1, 1, (.t 8)), (2, 1, (.t 11)), (3, 3, (.t 20)), (9, 1, (.t 23)), (10, 1, (.t 25))],.al 3 [.int .i64 0, .int .i64 0, .int .i64 0, .int .i64 0, .int .i64 0, .int .i64 0, .int .i64 0, .int .i64 0, .int .i64 0, .int .i64 0, .int .i64 0],.st (.t 3) (.t 26) 11]) (
 .seq (
 .seq (
 .reg [.mv 27 (.t 0),.cm 28 Z0 [(.t 27), (.c (.int .i64 3))],.bi 29 .eql (.t 28) (.c (.int .i64 0))]) (
 .cond (.t 29) (
  .reg [.mv 30 (.t 0),.cm 31 Z0 [(.t 30), (.c (.int .i64 3))],.mv 32 (.t 0),.cm 33 Z0 [(.t 32), (.c (.int .i64 2))],.bd 34 [.int .i64 0, .int .i64 0, .int .i64 0] [(0, 1, (.t 31)), (1, 1, (.t 33))],.fa 35 (.t 3) 6,.st (.t 35) (.t 34) 3]) (
  .skip))) (
 .seq (
 .reg [.ld 36 (.t 3) 11 true,.st (.t 2) (.t 36) 11]) (
 .ret))))
def Z2j : List Rv := [.c 2 11 true]
theorem Z59 : chkFn Try.prog Z0j 1 Z2y Z2j = true := by kernel_rfl
set_option maxRecDepth 20000 in
set_option maxHeartbeats 4000000 in
theorem Z6m (bs : List Int) (b : List AV) (hb : isCur bs b) (hl : bs.length <= 1048576) : Con Try.prog Z0j [.ptr 0 0] [b] [] (Z7q bs) := by
 obtain ⟨i0, h0, hi0, rfl⟩ := hb
 refine Z0X [] Z59 rfl (by simp) fun _ _ => den_W ?_
 unfold Z2y Z2j
 simp
 refine cutW (fun s => s.e 0 = .ptr 2000000000 0 /\ s.e 2 = .ptr 2 0 /\ s.e 4 = .ptr 2000000000 0 /\ s.bx 2 = some [.int .i64 0, .int .i64 0, .int .i64 0, .int .i64 0, .int .i64 0, .int .i64 0, .int .i64 0, .int .i64 0, .int .i64 0, .int .i64 0, .int .i64 0] /\ s.bx 2000000000 = some [.sl .rd 1 (bs.map eB), .int .i64 (i0 : Nat), .int .i64 h0]) ?_ ?_
 .simp [*]
 rintro s ⟨f0, f1, f2, f3, f4⟩
 refine do_cm [2000000000] [] (Z1 bs _ 30 ⟨i0, h0, hi0, rfl⟩ hl (by omega)) rfl (by simp [*]) (by simp) (by simp [*]) ?_
 rintro _ _ _ _ _ _ _ ⟨x, _, x0, x1, rfl, rfl, ⟨i1, h1, hi1, rfl⟩, rfl, rfl⟩
 simp [*]
 refine cutW (fun s => s.e 0 = .ptr 2000000000 0 /\ s.e 2 = .ptr 2 0 /\ s.e 7 = .ptr 2000000000 0 /\ s.bx 2 = some [.int .i64 0, .int .i64 0, .int .i64 0, .int .i64 0, .int .i64 0, .int .i64 0, .int .i64 0, .int .i64 0, .int .i64 0, .int .i64 0, .int .i64 0] /\ s.bx 2000000000 = some [.sl .rd 1 (bs.map eB), .int .i64 (i1 : Nat), .int .i64 h1] /\ s.e 6 = .int .i64 (IntKind.i64.wrap (1 + x))) ?_ ?_
 .simp [*]
 rintro s ⟨f0, f1, f2, f3, f4, f5⟩
 refine do_cm [2000000000] [] (Z1 bs _ 5 ⟨i1, h1, hi1, rfl⟩ hl (by omega)) rfl (by simp [*]) (by simp) (by simp [*]) ?_
 rintro _ _ _ _ _ _ _ ⟨y, _, y0, y1, rfl, rfl, ⟨i2, h2, hi2, rfl⟩, rfl, rfl⟩
 simp [*]
 refine cutW (fun s => s.e 0 = .ptr 2000000000 0 /\ s.e 2 = .ptr 2 0 /\ s.e 9 = .ptr 2000000000 0 /\ s.bx 2 = some [.int .i64 0, .int .i64 0, .int .i64 0, .int .i64 0, .int .i64 0, .int .i64 0, .int .i64 0, .int .i64 0, .int .i64 0, .int .i64 0, .int .i64 0] /\ s.bx 2000000000 = some [.sl .rd 1 (bs.map eB), .int .i64 (i2 : Nat), .int .i64 h2] /\ s.e 6 = .int .i64 (IntKind.i64.wrap (1 + x)) /\ s.e 8 = .int .i64 y) ?_ ?_
 .simp [*]
 rintro s ⟨f0, f1, f2, f3, f4, f5, f6⟩
 refine do_cm [2000000000] [] (Z1 bs _ 3 ⟨i2, h2, hi2, rfl⟩ hl (by omega)) rfl (by simp [*]) (by simp) (by simp [*]) ?_
 rintro _ _ _ _ _ _ _ ⟨z, _, z0, z1, rfl, rfl, ⟨i3, h3, hi3, rfl⟩, rfl, rfl⟩
 simp [*]
 refine cutW (fun s => s.e 0 = .ptr 2000000000 0 /\ s.e 2 = .ptr 2 0 /\ s.e 12 = .ptr 2000000000 0 /\ s.bx 2 = some [.int .i64 0, .int .i64 0, .int .i64 0, .int .i64 0, .int .i64 0, .int .i64 0, .int .i64 0, .int .i64 0, .int .i64 0, .int .i64 0, .int .i64 0] /\ s.bx 2000000000 = some [.sl .rd 1 (bs.map eB), .int .i64 (i3 : Nat), .int .i64 h3] /\ s.e 6 = .int .i64 (IntKind.i64.wrap (1 + x)) /\ s.e 8 = .int .i64 y /\ s.e 11 = .int .i64 (IntKind.i64.wrap (1 + z))) ?_ ?_
 .simp [*]
 rintro s ⟨f0, f1, f2, f3, f4, f5, f6, f7⟩
 refine do_cm [2000000000] [] (Z1 bs _ 5 ⟨i3, h3, hi3, rfl⟩ hl (by omega)) rfl (by simp [*]) (by simp) (by simp [*]) ?_
 rintro _ _ _ _ _ _ _ ⟨u, _, u0, u1, rfl, rfl, ⟨i4, h4, hi4, rfl⟩, rfl, rfl⟩
 simp [*]
 refine cutW (fun s => s.e 0 = .ptr 2000000000 0 /\ s.e 2 = .ptr 2 0 /\ s.e 15 = .ptr 2000000000 0 /\ s.bx 2 = some [.int .i64 0, .int .i64 0, .int .i64 0, .int .i64 0, .int .i64 0, .int .i64 0, .int .i64 0, .int .i64 0, .int .i64 0, .int .i64 0, .int .i64 0] /\ s.bx 2000000000 = some [.sl .rd 1 (bs.map eB), .int .i64 (i4 : Nat), .int .i64 h4] /\ s.e 6 = .int .i64 (IntKind.i64.wrap (1 + x)) /\ s.e 8 = .int .i64 y /\ s.e 11 = .int .i64 (IntKind.i64.wrap (1 + z)) /\ s.e 14 = .int .i64 (IntKind.i64.wrap (1 + u))) ?_ ?_
 .simp [*]
 rintro s ⟨f0, f1, f2, f3, f4, f5, f6, f7, f8⟩
 refine do_cm [2000000000] [] (Z1 bs _ 9 ⟨i4, h4, hi4, rfl⟩ hl (by omega)) rfl (by simp [*]) (by simp) (by simp [*]) ?_
 rintro _ _ _ _ _ _ _ ⟨v, _, v0, v1, rfl, rfl, ⟨i5, h5, hi5, rfl⟩, rfl, rfl⟩
 simp [*]
 refine cutW (fun s => s.e 0 = .ptr 2000000000 0 /\ s.e 2 = .ptr 2 0 /\ s.e 17 = .ptr 2000000000 0 /\ s.bx 2 = some [.int .i64 0, .int .i64 0, .int .i64 0, .int .i64 0, .int .i64 0, .int .i64 0, .int .i64 0, .int .i64 0, .int .i64 0, .int .i64 0, .int .i64 0] /\ s.bx 2000000000 = some [.sl .rd 1 (bs.map eB), .int .i64 (i5 : Nat), .int .i64 h5] /\ s.e 6 = .int .i64 (IntKind.i64.wrap (1 + x)) /\ s.e 8 = .int .i64 y /\ s.e 11 = .int .i64 (IntKind.i64.wrap (1 + z)) /\ s.e 14 = .int .i64 (IntKind.i64.wrap (1 + u)) /\ s.e 16 = .int .i64 v) ?_ ?_
 .simp [*]
 rintro s ⟨f0, f1, f2, f3, f4, f5, f6, f7, f8, f9⟩
 refine do_cm [2000000000] [] (Z1 bs _ 4 ⟨i5, h5, hi5, rfl⟩ hl (by omega)) rfl (by simp [*]) (by simp) (by simp [*]) ?_
 rintro _ _ _ _ _ _ _ ⟨w, _, w0, w1, rfl, rfl, ⟨i6, h6, hi6, rfl⟩, rfl, rfl⟩
 simp [*]
 refine cutW (fun s => s.e 0 = .ptr 2000000000 0 /\ s.e 2 = .ptr 2 0 /\ s.e 21 = .ptr 2000000000 0 /\ s.bx 2 = some [.int .i64 0, .int .i64 0, .int .i64 0, .int .i64 0, .int .i64 0, .int .i64 0, .int .i64 0, .int .i64 0, .int .i64 0, .int .i64 0, .int .i64 0] /\ s.bx 2000000000 = some [.sl .rd 1 (bs.map eB), .int .i64 (i6 : Nat), .int .i64 h6] /\ s.e 6 = .int .i64 (IntKind.i64.wrap (1 + x)) /\ s.e 8 = .int .i64 y /\ s.e 11 = .int .i64 (IntKind.i64.wrap (1 + z)) /\ s.e 20 = .agg [.int .i64 (IntKind.i64.wrap (1 + u)), .int .i64 v, .int .i64 (IntKind.i64.wrap (w.tdiv 3))]) ?_ ?_
 .simp [*]
 rintro s ⟨f0, f1, f2, f3, f4, f5, f6, f7, f8⟩
 refine do_cm [2000000000] [] (Z1 bs _ 20 ⟨i6, h6, hi6, rfl⟩ hl (by omega)) rfl (by simp [*]) (by simp) (by simp [*]) ?_
 rintro _ _ _ _ _ _ _ ⟨wl, _, wl0, wl1, rfl, rfl, ⟨i7, h7, hi7, rfl⟩, rfl, rfl⟩
 simp [*]
 refine cutW (fun s => s.e 0 = .ptr 2000000000 0 /\ s.e 2 = .ptr 2 0 /\ s.e 24 = .ptr 2000000000 0 /\ s.bx 2 = some [.int .i64 0, .int .i64 0, .int .i64 0, .int .i64 0, .int .i64 0, .int .i64 0, .int .i64 0, .int .i64 0, .int .i64 0, .int .i64 0, .int .i64 0] /\ s.bx 2000000000 = some [.sl .rd 1 (bs.map eB), .int .i64 (i7 : Nat), .int .i64 h7] /\ s.e 6 = .int .i64 (IntKind.i64.wrap (1 + x)) /\ s.e 8 = .int .i64 y /\ s.e 11 = .int .i64 (IntKind.i64.wrap (1 + z)) /\ s.e 20 = .agg [.int .i64 (IntKind.i64.wrap (1 + u)), .int .i64 v, .int .i64 (IntKind.i64.wrap (w.tdiv 3))] /\ s.e 23 = .int .i64 (IntKind.i64.wrap (1 + wl))) ?_ ?_
 .simp [*]
 rintro s ⟨f0, f1, f2, f3, f4, f5, f6, f7, f8, f9⟩
 refine do_cm [2000000000] [] (Z1 bs _ 3 ⟨i7, h7, hi7, rfl⟩ hl (by omega)) rfl (by simp [*]) (by simp) (by simp [*]) ?_
 rintro _ _ _ _ _ _ _ ⟨lv, _, lv0, lv1, rfl, rfl, ⟨i8, h8, hi8, rfl⟩, rfl, rfl⟩
 simp [*]
 refine do_cm [2000000000] [] (Z1 bs _ 3 ⟨i8, h8, hi8, rfl⟩ hl (by omega)) rfl (by simp [*]) (by simp) (by simp [*]) ?_
 rintro _ _ _ _ _ _ _ ⟨k, _, k0, k1, rfl, rfl, ⟨i9, h9, hi9, rfl⟩, rfl, rfl⟩
 by_cases hk : k = 0
 .simp [*]
  refine do_cm [2000000000] [] (Z1 bs _ 3 ⟨i9, h9, hi9, rfl⟩ hl (by omega)) rfl (by simp [*]) (by simp) (by simp [*]) ?_
  rintro _ _ _ _ _ _ _ ⟨q, _, q0, q1, rfl, rfl, ⟨i10, h10, hi10, rfl⟩, rfl, rfl⟩
  simp [*]
  refine do_cm [2000000000] [] (Z1 bs _ 2 ⟨i10, h10, hi10, rfl⟩ hl (by omega)) rfl (by simp [*]) (by simp) (by simp [*]) ?_
  rintro _ _ _ _ _ _ _ ⟨r, _, r0, r1, rfl, rfl, ⟨i11, h11, hi11, rfl⟩, rfl, rfl⟩
  simp [*]
  refine Z2 [[.sl .rd 1 (bs.map eB), .int .i64 (i11 : Nat), .int .i64 h11]] [] [] [] ?_
  simp [*]
  exact ⟨⟨_, _, _, ⟨_, _, _⟩, ⟨_, _, _⟩, _, _⟩, _, rfl, rfl, ⟨i11, h11, hi11, rfl⟩, rfl, rfl⟩
 .simp [*]
  refine Z2 [[.sl .rd 1 (bs.map eB), .int .i64 (i9 : Nat), .int .i64 h9]] [] [] [] ?_
  simp [*]
  exact ⟨⟨_, _, _, ⟨_, _, _⟩, ⟨_, _, _⟩, _, _⟩, _, rfl, rfl, ⟨i9, h9, hi9, rfl⟩, rfl, rfl⟩
def Z0S : L :=
 .seq (
 .reg [.al 2 [.int .i64 0, .int .i64 0, .int .i64 0, .int .i64 0, .int .i64 0, .int .i64 0, .int .i64 0, .int .i64 0, .int .i64 0, .int .i64 0, .int .i64 0]]) (
 .seq (
 .reg [.mv 5 (.t 0),.cm 6 Z0j [(.t 5)],.al 3 [.int .i64 0, .int .i64 0, .int .i64 0, .int .i64 0, .int .i64 0, .int .i64 0, .int .i64 0, .int .i64 0, .int .i64 0, .int .i64 0, .int .i64 0],.st (.t 3) (.t 6) 11]) (
 .seq (
 .reg [.mv 7 (.t 0),.cm 8 Z0 [(.t 7), (.c (.int .i64 16))],.mv 4 (.t 8)]) (
 .seq (
 .seq (
 .reg [.mv 9 (.t 4),.bi 10 .eql (.t 9) (.c (.int .i64 0))]) (
 .cond (.t 10) (
  .reg [.mv 11 (.t 0),.cm 12 Zf [(.t 11)],.fa 13 (.t 3) 0,.st (.t 13) (.t 12) 1]) (
  .skip))) (
 .seq (
 .seq (
 .reg [.mv 14 (.t 4),.bi 15 .eql (.t 14) (.c (.int .i64 1))]) (
 .cond (.t 15) (
  .reg [.mv 16 (.t 0),.cm 17 Zf [(.t 16)],.fa 18 (.t 3) 2,.st (.t 18) (.t 17) 1]) (
  .skip))) (
 .seq (
 .seq (
 .reg [.mv 19 (.t 4),.bi 20 .eql (.t 19) (.c (.int .i64 2))]) (
 .cond (.t 20) (
  .reg [.mv 21 (.t 0),.cm 22 Z1d [(.t 21)],.fa 23 (.t 3) 3,.st (.t 23) (.t 22) 3]) (
  .skip))) (
 .seq (
 .seq (
 .reg [.mv 24 (.t 4),.bi 25 .eql (.t 24) (.c (.int .i64 3))]) (
 .cond (.t 25) (
  .reg [.mv 26 (.t 0),.cm 27 Zf [(.t 26)],.fa 28 (.t 3) 9,.st (.t 28) (.t 27) 1]) (
  .skip))) (
 .seq (
 .seq (
 .reg [.mv 29 (.t 4),.bi 30 .eql (.t 29) (.c (.int .i64 4))]) (
 .cond (.t 30) (
  .reg [.mv 31 (.t 0),.cm 32 Zf [(.t 31)],.fa 33 (.t 3) 10,.st (.t 33) (.t 32) 1]) (
  .skip))) (
 .seq (
 .seq (
 .reg [.mv 34 (.t 4),.bi 35 .eql (.t 34) (.c (.int .i64 5))]) (
 .cond (.t 35) (
  .reg [.mv 36 (.t 0),.cm 37 Zf [(.t 36)],.fa 38 (.t 3) 1,.st (.t 38) (.t 37) 1]) (
  .skip))) (
 .seq (
 .reg [.ld 39 (.t 3) 11 true,.st (.t 2) (.t 39) 11]) (
 .ret))))))))))
def Z0M : List Rv := [.c 2 11 true]
theorem Z3J : chkFn Try.prog Z0g 1 Z0S Z0M = true := by kernel_rfl
set_option maxRecDepth 20000 in
set_option maxHeartbeats 4000000 in
theorem Z6n (bs : List Int) (b : List AV) (hb : isCur bs b) (hl : bs.length <= 1048576) : Con Try.prog Z0g [.ptr 0 0] [b] [] (Z7q bs) := by
 obtain ⟨i0, h0, hi0, rfl⟩ := hb
 refine Z0X [] Z3J rfl (by simp) fun _ _ => den_W ?_
 unfold Z0S Z0M
 simp
 refine do_cm [2000000000] [] (Z6m bs _ ⟨i0, h0, hi0, rfl⟩ hl) rfl (by simp) (by simp) (by simp) ?_
 rintro _ _ _ _ _ _ _ ⟨j, _, rfl, rfl, ⟨i1, h1, hi1, rfl⟩, rfl, rfl⟩
 simp
 refine do_cm [2000000000] [] (Z1 bs _ 16 ⟨i1, h1, hi1, rfl⟩ hl (by omega)) rfl (by simp) (by simp) (by simp) ?_
 rintro _ _ _ _ _ _ _ ⟨k, _, k0, k1, rfl, rfl, ⟨i2, h2, hi2, rfl⟩, rfl, rfl⟩
 by_cases k0 : k = 0
 .simp [k0]
  refine do_cm [2000000000] [] (ZX bs _ ⟨i2, h2, hi2, rfl⟩ hl) rfl (by simp) (by simp) (by simp) ?_
  rintro _ _ _ _ _ _ _ ⟨q, _, q0, q1, rfl, rfl, ⟨i3, h3, hi3, rfl⟩, rfl, rfl⟩
  simp
  refine Z2 [[.sl .rd 1 (bs.map eB), .int .i64 (i3 : Nat), .int .i64 h3]] [] [] [] ?_
  simp
  exact ⟨{ j with id := q }, _, rfl, rfl, ⟨i3, h3, hi3, rfl⟩, rfl, rfl⟩
 by_cases k1 : k = 1
 .simp [k1]
  refine do_cm [2000000000] [] (ZX bs _ ⟨i2, h2, hi2, rfl⟩ hl) rfl (by simp) (by simp) (by simp) ?_
  rintro _ _ _ _ _ _ _ ⟨q, _, q0, q1, rfl, rfl, ⟨i3, h3, hi3, rfl⟩, rfl, rfl⟩
  simp
  refine Z2 [[.sl .rd 1 (bs.map eB), .int .i64 (i3 : Nat), .int .i64 h3]] [] [] [] ?_
  simp
  exact ⟨{ j with nodes := q }, _, rfl, rfl, ⟨i3, h3, hi3, rfl⟩, rfl, rfl⟩
 by_cases k2 : k = 2
 .simp [k2]
  refine do_cm [2000000000] [] (Z8d bs _ ⟨i2, h2, hi2, rfl⟩ hl) rfl (by simp) (by simp) (by simp) ?_
  rintro _ _ _ _ _ _ _ ⟨q, _, rfl, rfl, ⟨i3, h3, hi3, rfl⟩, rfl, rfl⟩
  simp
  refine Z2 [[.sl .rd 1 (bs.map eB), .int .i64 (i3 : Nat), .int .i64 h3]] [] [] [] ?_
  simp
  exact ⟨{ j with need := q }, _, rfl, rfl, ⟨i3, h3, hi3, rfl⟩, rfl, rfl⟩
 by_cases k3 : k = 3
 .simp [k3]
  refine do_cm [2000000000] [] (ZX bs _ ⟨i2, h2, hi2, rfl⟩ hl) rfl (by simp) (by simp) (by simp) ?_
  rintro _ _ _ _ _ _ _ ⟨q, _, q0, q1, rfl, rfl, ⟨i3, h3, hi3, rfl⟩, rfl, rfl⟩
  simp
  refine Z2 [[.sl .rd 1 (bs.map eB), .int .i64 (i3 : Nat), .int .i64 h3]] [] [] [] ?_
  simp
  exact ⟨{ j with wall := q }, _, rfl, rfl, ⟨i3, h3, hi3, rfl⟩, rfl, rfl⟩
 by_cases k4 : k = 4
 .simp [k4]
  refine do_cm [2000000000] [] (ZX bs _ ⟨i2, h2, hi2, rfl⟩ hl) rfl (by simp) (by simp) (by simp) ?_
  rintro _ _ _ _ _ _ _ ⟨q, _, q0, q1, rfl, rfl, ⟨i3, h3, hi3, rfl⟩, rfl, rfl⟩
  simp
  refine Z2 [[.sl .rd 1 (bs.map eB), .int .i64 (i3 : Nat), .int .i64 h3]] [] [] [] ?_
  simp
  exact ⟨{ j with level := q }, _, rfl, rfl, ⟨i3, h3, hi3, rfl⟩, rfl, rfl⟩
 by_cases k5 : k = 5
 .simp [k5]
  refine do_cm [2000000000] [] (ZX bs _ ⟨i2, h2, hi2, rfl⟩ hl) rfl (by simp) (by simp) (by simp) ?_
  rintro _ _ _ _ _ _ _ ⟨q, _, q0, q1, rfl, rfl, ⟨i3, h3, hi3, rfl⟩, rfl, rfl⟩
  simp
  refine Z2 [[.sl .rd 1 (bs.map eB), .int .i64 (i3 : Nat), .int .i64 h3]] [] [] [] ?_
  simp
  exact ⟨{ j with prio := q }, _, rfl, rfl, ⟨i3, h3, hi3, rfl⟩, rfl, rfl⟩
 simp [k0, k1, k2, k3, k4, k5]
 refine Z2 [[.sl .rd 1 (bs.map eB), .int .i64 (i2 : Nat), .int .i64 h2]] [] [] [] ?_
 simp
 exact ⟨j, _, rfl, rfl, ⟨i2, h2, hi2, rfl⟩, rfl, rfl⟩
def Z6x (bs : List Int) (n : Nat) : AV -> List (List AV) -> List (Option (List AV)) -> List Row -> Prop := fun res bout us new => ∃ (l : List Job) (b : List AV), l.length <= n /\ isCur bs b /\ res = .sref 0 /\ bout = [b] /\ us = [] /\ new = [⟨11, l.map eJob, false⟩]
def findJ (l : List Job) (i : Int) : Job × Bool := match l.find? (fun j => decide (j.id = i)) with
 | some j => (j, true)
 | none => (⟨0, 0, 0, ⟨0, 0, 0⟩, ⟨0, 0, 0⟩, 0, 0⟩, false)
theorem findJ_at {l : List Job} {n : Int} {i : Nat} (h : i < l.length) (hn : (l.take i).any (fun j => decide (j.id = n)) = false) (hi : l[i].id = n) : findJ l n = (l[i], true) := by
 unfold findJ
 have e : l.find? (fun j => decide (j.id = n)) = some l[i] := by
  rw [List.find?_eq_some_iff_getElem]
  refine ⟨by simp [hi], i, h, rfl, fun j hj => ?_⟩
  have := (List.any_eq_false.1 hn) l[j] (by rw [List.mem_take_iff_getElem]; exact ⟨j, by omega, rfl⟩)
  simpa using this
 rw [e]
theorem findJ_no {l : List Job} {n : Int} (hn : l.any (fun j => decide (j.id = n)) = false) : findJ l n = (⟨0, 0, 0, ⟨0, 0, 0⟩, ⟨0, 0, 0⟩, 0, 0⟩, false) := by
 unfold findJ
 have e : l.find? (fun j => decide (j.id = n)) = none := by
  rw [List.find?_eq_none]
  intro x hx
  simpa using (List.any_eq_false.1 hn) x hx
 rw [e]
def Z1N : L :=
 .seq (
 .reg [.al 4 [.int .i64 0, .int .i64 0, .int .i64 0, .int .i64 0, .int .i64 0, .int .i64 0, .int .i64 0, .int .i64 0, .int .i64 0, .int .i64 0, .int .i64 0],.mv 5 (.c (.bool false))]) (
 .seq (
 .seq (
 .reg [.mv 8 (.t 0),.ln 9 (.t 8),.mv 10 (.c (.int .i64 0))]) (
 .blk 0 (
  .loop (
   .seq (
   .reg [.bi 11 .lss (.t 10) (.t 9)]) (
   .seq (
   .cond (.t 11) (
    .skip) (
    .exit 0)) (
   .seq (
   .blk 1 (
    .seq (
    .reg [.ia 12 (.t 8) (.t 10) 11,.ld 13 (.t 12) 11 true,.al 7 [.int .i64 0, .int .i64 0, .int .i64 0, .int .i64 0, .int .i64 0, .int .i64 0, .int .i64 0, .int .i64 0, .int .i64 0, .int .i64 0, .int .i64 0],.st (.t 7) (.t 13) 11]) (
    .seq (
    .reg [.fa 14 (.t 7) 0,.ld 15 (.t 14) 1 false,.mv 16 (.t 1),.bi 17 .eql (.t 15) (.t 16)]) (
    .cond (.t 17) (
     .seq (
     .reg [.ld 18 (.t 7) 11 true,.st (.t 4) (.t 18) 11,.mv 5 (.c (.bool true))]) (
     .ret)) (
     .skip))))) (
   .reg [.bi 19 .add (.t 10) (.c (.int .i64 1)),.mv 10 (.t 19)]))))))) (
 .seq (
 .reg [.bd 20 [.int .i64 0, .int .i64 0, .int .i64 0, .int .i64 0, .int .i64 0, .int .i64 0, .int .i64 0, .int .i64 0, .int .i64 0, .int .i64 0, .int .i64 0] [],.st (.t 4) (.t 20) 11,.mv 5 (.c (.bool false))]) (
 .ret)))
def Z1x : List Rv := [.c 4 11 true, .t 5]
theorem Z4M : chkFn Try.prog Z0G 2 Z1N Z1x = true := by kernel_rfl
set_option maxRecDepth 20000 in
theorem Z7E (l : List Job) (n : Int) (_ : l.length <= 1048576) : Snd Try.prog Z0G [.sl .rd 11 (l.map eJob), .int .i64 n] (.tup [eJob (findJ l n).1, .bool (findJ l n).2]) [] := by
 refine Zo Z4M rfl (by simp) (den_W ?_)
 unfold Z1N Z1x
 simp
 intro _
 refine W_rng l.length (fun i s => (l.take i).any (fun j => decide (j.id = n)) = false /\ s.e 1 = .int .i64 n /\ s.e 4 = .ptr 4 0 /\ s.bx 4 = some [.int .i64 0, .int .i64 0, .int .i64 0, .int .i64 0, .int .i64 0, .int .i64 0, .int .i64 0, .int .i64 0, .int .i64 0, .int .i64 0, .int .i64 0] /\
  s.e 8 = .sl .rd 11 (l.map eJob) /\ s.e 9 = .int .i64 l.length /\ s.e 10 = .int .i64 (i : Nat)) ?_ ?_
 .simp
 rintro i s hi ⟨ha, h1, h4, hb, h8, h9, h10⟩
 by_cases h : i < l.length
 .simp [h1, h4, hb, h8, h9, h10, h]
  by_cases hn : l[i].id = n
  .simp [hn, findJ_at h ha hn]
  .simp [hn]
   refine Zu h ⟨?_, ?_⟩
   .simpa using Z3w (p := fun j : Job => decide (j.id = n)) h ha (by simp [hn])
   .simp [h1, h4, hb, h8, h9, Zb h (by omega : l.length <= 9223372036854775807)]
 .have : i = l.length := by omega
  subst this
  rw [List.take_of_length_le (Nat.le_refl _)] at ha
  simp [h4, hb, h9, h10, findJ_no ha]
def Z1o : L :=
 .seq (
 .reg [.mv 4 (.c (.nl))]) (
 .seq (
 .reg [.bs 10 11 [] true,.mv 5 (.t 10)]) (
 .seq (
 .seq (
 .reg [.mv 11 (.t 0),.mv 12 (.t 1),.bi 13 .add (.t 12) (.c (.int .i64 1)),.cm 14 Z0 [(.t 11), (.t 13)],.mv 6 (.t 14)]) (
 .blk 0 (
  .loop (
   .seq (
   .seq (
   .reg [.mv 15 (.t 6),.bi 16 .gtr (.t 15) (.c (.int .i64 0))]) (
   .cond (.t 16) (
    .skip) (
    .exit 0))) (
   .seq (
   .blk 1 (
    .seq (
    .reg [.mv 19 (.t 0),.cm 20 Z0j [(.t 19)],.al 7 [.int .i64 0, .int .i64 0, .int .i64 0, .int .i64 0, .int .i64 0, .int .i64 0, .int .i64 0, .int .i64 0, .int .i64 0, .int .i64 0, .int .i64 0],.st (.t 7) (.t 20) 11]) (
    .seq (
    .reg [.mv 22 (.t 5),.fa 23 (.t 7) 0,.ld 24 (.t 23) 1 false,.cq 25 Z0G [(.t 22), (.t 24)],.mv 21 (.t 25),.ex 26 (.t 21) 0,.ex 27 (.t 21) 1,.al 8 [.int .i64 0, .int .i64 0, .int .i64 0, .int .i64 0, .int .i64 0, .int .i64 0, .int .i64 0, .int .i64 0, .int .i64 0, .int .i64 0, .int .i64 0],.st (.t 8) (.t 26) 11,.mv 9 (.t 27)]) (
    .seq (
    .reg [.mv 28 (.t 9),.un 29 (.t 28)]) (
    .cond (.t 29) (
     .reg [.mv 30 (.t 5),.ld 31 (.t 7) 11 true,.bs 32 11 [(.t 31)] false,.ap 33 (.t 30) (.t 32) 11 88,.mv 5 (.t 33)]) (
     .skip)))))) (
   .reg [.mv 17 (.t 6),.bi 18 .sub (.t 17) (.c (.int .i64 1)),.mv 6 (.t 18)])))))) (
 .seq (
 .reg [.mv 34 (.t 5),.mv 4 (.t 34)]) (
 .ret))))
def Z1j : List Rv := [.t 4]
theorem Z48 : chkFn Try.prog Z0r 2 Z1o Z1j = true := by kernel_rfl
set_option maxRecDepth 20000 in
set_option maxHeartbeats 1000000 in
theorem Z6T (bs : List Int) (b : List AV) (hb : isCur bs b) (hl : bs.length <= 1048576) : Con Try.prog Z0r [.ptr 0 0, .int .i64 7] [b] [] (Z6x bs 7) := by
 obtain ⟨i, h, hi, rfl⟩ := hb
 refine Z0X [] Z48 rfl (by simp) fun _ _ => den_W ?_
 unfold Z1o Z1j
 simp
 refine do_cm [2000000000] [] (Z1 bs _ 8 ⟨i, h, hi, rfl⟩ hl (by omega)) rfl (by simp) (by simp) (by simp; rfl) ?_
 rintro _ _ _ _ _ _ _ ⟨x, _, x0, x1, rfl, rfl, ⟨i1, h1, hi1, rfl⟩, rfl, rfl⟩
 obtain ⟨n, rfl⟩ := Int.eq_ofNat_of_zero_le x0
 simp
 refine W_ms (fun m s => ∃ (l : List Job) (i : Nat) (h : Int), i <= bs.length /\ l.length + m <= 7 /\ s.e 0 = .ptr 2000000000 0 /\ s.bx 2000000000 = some [.sl .rd 1 (bs.map eB), .int .i64 (i : Nat), .int .i64 h] /\
  s.e 5 = .sref 10 /\ s.rw 10 = some ⟨11, l.map eJob, false⟩ /\ s.e 6 = .int .i64 (m : Nat)) n ?_ ?_
 .exact ⟨[], i1, h1, hi1, by simp; omega, by simp⟩
 rintro y0 s ⟨l, j, g, hj, hlx, e0, eb, e5, er, e6⟩
 by_cases hx0 : 0 < y0
 .simp [e0, e6, hx0]
  refine do_cm [2000000000] [] (Z6m bs _ ⟨j, g, hj, rfl⟩ hl) rfl (by simp [eb]) (by simp) (by simp) ?_
  rintro _ _ _ _ _ _ _ ⟨y, _, rfl, rfl, ⟨j1, g1, hj1, rfl⟩, rfl, rfl⟩
  simp [e5]
  refine do_cq (Z7E l y.id (by omega)) (by simp [St.args, er]) ?_
  cases hf : (findJ l y.id).2
  .simp [e5, er, e6]
   refine ⟨by omega, Z5K (y0 - 1) (by omega) ⟨l ++ [y], j1, g1, hj1, by simp; omega, ?_⟩⟩
   simp [e0]
   rw [Zi (by omega) (by omega)]; omega
  .simp [e6]
   refine Z5K (y0 - 1) (by omega) ⟨l, j1, g1, hj1, by omega, ?_⟩
   simp [e0, e5, er]
   rw [Zi (by omega) (by omega)]; omega
 .simp [e5, e6, hx0]
  refine Z2 [[.sl .rd 1 (bs.map eB), .int .i64 (j : Nat), .int .i64 g]] [] [10] [⟨11, l.map eJob, false⟩] ?_
  simp [eb, er]
  exact ⟨l, _, by omega, ⟨j, g, hj, rfl⟩, rfl, rfl, rfl, rfl⟩
def Z2x : L :=
 .seq (
 .reg [.mv 2 (.c (.nl))]) (
 .seq (
 .reg [.mv 5 (.t 0),.cm 6 Z0r [(.t 5), (.c (.int .i64 7))],.mv 3 (.t 6)]) (
 .seq (
 .reg [.mv 7 (.t 0),.cm 8 Z0 [(.t 7), (.c (.int .i64 12))],.mv 4 (.t 8)]) (
 .seq (
 .seq (
 .reg [.mv 9 (.t 4),.bi 10 .eql (.t 9) (.c (.int .i64 0))]) (
 .cond (.t 10) (
  .reg [.mv 11 (.t 3),.mv 12 (.t 0),.cm 13 Z0g [(.t 12)],.bs 14 11 [(.t 13)] false,.ap 15 (.t 11) (.t 14) 11 88,.mv 3 (.t 15)]) (
  .skip))) (
 .seq (
 .seq (
 .reg [.mv 16 (.t 4),.bi 17 .eql (.t 16) (.c (.int .i64 1)),.mv 18 (.t 17),.g 18 true (.mv 19 (.t 3)),.g 18 true (.ln 20 (.t 19)),.g 18 true (.bi 21 .gtr (.t 20) (.c (.int .i64 0))),.pk 22 (.t 18) (.t 21) (.c (.bool false))]) (
 .cond (.t 22) (
  .reg [.mv 23 (.t 3),.mv 24 (.t 3),.ia 25 (.t 24) (.c (.int .i64 0)) 11,.ld 26 (.t 25) 11 true,.bs 27 11 [(.t 26)] false,.ap 28 (.t 23) (.t 27) 11 88,.mv 3 (.t 28)]) (
  .skip))) (
 .seq (
 .reg [.mv 29 (.t 3),.mv 2 (.t 29)]) (
 .ret))))))
def Z2i : List Rv := [.t 2]
theorem Z58 : chkFn Try.prog Z1a 1 Z2x Z2i = true := by kernel_rfl
set_option maxRecDepth 20000 in
set_option maxHeartbeats 1000000 in
theorem Z8a (bs : List Int) (b : List AV) (hb : isCur bs b) (hl : bs.length <= 1048576) : Con Try.prog Z1a [.ptr 0 0] [b] [] (Z6x bs 8) := by
 obtain ⟨i, h, hi, rfl⟩ := hb
 refine Z0X [] Z58 rfl (by simp) fun _ _ => den_W ?_
 unfold Z2x Z2i
 simp
 refine do_cm [2000000000] [] (Z6T bs _ ⟨i, h, hi, rfl⟩ hl) rfl (by simp) (by simp) (by simp) ?_
 rintro _ _ _ _ _ _ _ ⟨l, _, hl7, ⟨i1, h1, hi1, rfl⟩, rfl, rfl, rfl, rfl⟩
 simp
 refine do_cm [2000000000] [] (Z1 bs _ 12 ⟨i1, h1, hi1, rfl⟩ hl (by omega)) rfl (by simp) (by simp) (by simp) ?_
 rintro _ _ _ _ _ _ _ ⟨k, _, k0, k1, rfl, rfl, ⟨i2, h2, hi2, rfl⟩, rfl, rfl⟩
 by_cases hk : k = 0
 .simp [hk]
  refine do_cm [2000000000] [] (Z6n bs _ ⟨i2, h2, hi2, rfl⟩ hl) rfl (by simp) (by simp) (by simp) ?_
  rintro _ _ _ _ _ _ _ ⟨y, _, rfl, rfl, ⟨i3, h3, hi3, rfl⟩, rfl, rfl⟩
  simp
  refine ⟨by omega, ?_⟩
  refine Z2 [[.sl .rd 1 (bs.map eB), .int .i64 (i3 : Nat), .int .i64 h3]] [] [7000] [⟨11, (l ++ [y]).map eJob, false⟩] ?_
  simp
  exact ⟨l ++ [y], _, by simp; omega, ⟨i3, h3, hi3, rfl⟩, rfl, rfl, rfl, by simp⟩
 by_cases hk1 : k = 1
 .by_cases h0 : 0 < l.length
  .simp [hk1, h0]
   intro _
   refine ⟨by omega, ?_⟩
   refine Z2 [[.sl .rd 1 (bs.map eB), .int .i64 (i2 : Nat), .int .i64 h2]] [] [7000] [⟨11, (l ++ [l[0]]).map eJob, false⟩] ?_
   simp
   exact ⟨l ++ [l[0]], _, by simp; omega, ⟨i2, h2, hi2, rfl⟩, rfl, rfl, rfl, by simp⟩
  .simp [hk1, h0]
   intro _
   refine Z2 [[.sl .rd 1 (bs.map eB), .int .i64 (i2 : Nat), .int .i64 h2]] [] [7000] [⟨11, l.map eJob, false⟩] ?_
   simp
   exact ⟨l, _, by omega, ⟨i2, h2, hi2, rfl⟩, rfl, rfl, rfl, rfl⟩
 .simp [hk, hk1]
  refine Z2 [[.sl .rd 1 (bs.map eB), .int .i64 (i2 : Nat), .int .i64 h2]] [] [7000] [⟨11, l.map eJob, false⟩] ?_
  simp
  exact ⟨l, _, by omega, ⟨i2, h2, hi2, rfl⟩, rfl, rfl, rfl, rfl⟩
def Z5u : List Str := [[105, 100], [112, 114, 105, 111], [110, 111, 100, 101, 115], [119, 97, 108, 108], [108, 101, 118, 101, 108], [97], [98], [99]]
def opL : List Str := [[61], [60], [62], [33]]
theorem cutZ {P : Program} {o : LOp} {K : St -> Prop} {s : St} (I : St -> Prop) (h0 : I s) (h : ∀ s, I s -> zw P o K s) : zw P o K s := h s h0
def Z2v : L :=
 .seq (
 .reg [.al 2 [.str [], .str [], .int .i64 0]]) (
 .seq (
 .rz [] [(0, false, .bs 3 1 [(.c (.str [105, 100])), (.c (.str [112, 114, 105, 111])), (.c (.str [110, 111, 100, 101, 115])), (.c (.str [119, 97, 108, 108])), (.c (.str [108, 101, 118, 101, 108])), (.c (.str [97])), (.c (.str [98])), (.c (.str [99]))] false),
  (1, false, .mv 4 (.t 0)),
  (5, false, .bs 8 1 [(.c (.str [61])), (.c (.str [60])), (.c (.str [62])), (.c (.str [33]))] false),
  (6, false, .mv 9 (.t 0)),
  (10, false, .mv 13 (.t 0)),
  (2, true, .cm 5 Z0 [(.t 4), (.c (.int .i64 8))]),
  (3, false, .ia 6 (.t 3) (.t 5) 1),
  (4, false, .ld 7 (.t 6) 1 false),
  (7, true, .cm 10 Z0 [(.t 9), (.c (.int .i64 4))]),
  (8, false, .ia 11 (.t 8) (.t 10) 1),
  (9, false, .ld 12 (.t 11) 1 false),
  (11, true, .cm 14 Z0 [(.t 13), (.c (.int .i64 12))])]
  [.bd 15 [.str [], .str [], .int .i64 0] [(0, 1, (.t 7)), (1, 1, (.t 12)), (2, 1, (.t 14))],.st (.t 2) (.t 15) 3]) (
 .ret))
def Z2g : List Rv := [.c 2 3 true]
theorem Z56 : chkFn Try.prog ZM 1 Z2v Z2g = true := by kernel_rfl
set_option maxRecDepth 20000 in
set_option maxHeartbeats 1000000 in
theorem Z4y (bs : List Int) (b : List AV) (hb : isCur bs b) (hl : bs.length <= 1048576) : Con Try.prog ZM [.ptr 0 0] [b] [] (Z6w bs) := by
 obtain ⟨i, h, hi, rfl⟩ := hb
 refine Z0X [] Z56 rfl (by simp) fun _ _ => den_W ?_
 unfold Z2v Z2g
 simp
 refine cutZ (fun s => s.e 0 = .ptr 2000000000 0 /\ s.e 4 = .ptr 2000000000 0 /\ s.e 9 = .ptr 2000000000 0 /\ s.e 13 = .ptr 2000000000 0 /\ s.e 2 = .ptr 2 0 /\ s.bx 2 = some [.str [], .str [], .int .i64 0] /\ s.bx 2000000000 = some [.sl .rd 1 (bs.map eB), .int .i64 (i : Nat), .int .i64 h] /\
  s.e 3 = .sl .nw 1 (Z5u.map AV.str) /\ s.e 8 = .sl .nw 1 (opL.map AV.str)) ?_ ?_
 .simp [Z5u, opL]
 rintro s ⟨f0, f1, f2, f3, f4, f5, f6, f7, f8⟩
 refine Z8o [2000000000] (Z1 bs _ 8 ⟨i, h, hi, rfl⟩ hl (by omega)) (by simp) rfl (by simp [f6]) (by simp [f1]) ?_
 rintro _ _ _ _ _ _ ⟨x, _, x0, x1, rfl, rfl, ⟨i1, h1, hi1, rfl⟩, rfl, rfl⟩
 have hx : x < (Z5u.length : Nat) := by simp [Z5u]; omega
 obtain ⟨x, rfl⟩ := Int.eq_ofNat_of_zero_le x0
 have hx' : x < Z5u.length := by omega
 simp [f7, hx']
 refine Z8o [2000000000] (Z1 bs _ 4 ⟨i1, h1, hi1, rfl⟩ hl (by omega)) (by simp) rfl (by simp [*]) (by simp [*]) ?_
 rintro _ _ _ _ _ _ ⟨y, _, y0, y1, rfl, rfl, ⟨i2, h2, hi2, rfl⟩, rfl, rfl⟩
 obtain ⟨y, rfl⟩ := Int.eq_ofNat_of_zero_le y0
 have hy : y < opL.length := by simp [opL]; omega
 simp [f8, hy]
 refine Z8o [2000000000] (Z1 bs _ 12 ⟨i2, h2, hi2, rfl⟩ hl (by omega)) (by simp) rfl (by simp [*]) (by simp [*]) ?_
 rintro _ _ _ _ _ _ ⟨z, _, z0, z1, rfl, rfl, ⟨i3, h3, hi3, rfl⟩, rfl, rfl⟩
 simp [f4, f5]
 refine Z2 [[.sl .rd 1 (bs.map eB), .int .i64 (i3 : Nat), .int .i64 h3]] [] [] [] ?_
 simp [f4]
 exact ⟨⟨Z5u[x], opL[y], z⟩, _, rfl, rfl, ⟨i3, h3, hi3, rfl⟩, rfl, rfl⟩
def Z2w : L :=
 .seq (
 .reg [.al 2 [.str [], .str [], .int .i64 0]]) (
 .seq (
 .reg [.mv 5 (.t 0),.cm 6 ZM [(.t 5)],.al 3 [.str [], .str [], .int .i64 0],.st (.t 3) (.t 6) 3]) (
 .seq (
 .reg [.mv 7 (.t 0),.cm 8 Z0 [(.t 7), (.c (.int .i64 10))],.mv 4 (.t 8)]) (
 .seq (
 .seq (
 .reg [.mv 9 (.t 4),.bi 10 .eql (.t 9) (.c (.int .i64 0))]) (
 .cond (.t 10) (
  .reg [.bs 11 1 [(.c (.str [])), (.c (.str [120])), (.c (.str [105, 100, 115]))] false,.mv 12 (.t 0),.cm 13 Z0 [(.t 12), (.c (.int .i64 3))],.ia 14 (.t 11) (.t 13) 1,.ld 15 (.t 14) 1 false,.fa 16 (.t 3) 0,.st (.t 16) (.t 15) 1]) (
  .skip))) (
 .seq (
 .seq (
 .reg [.mv 17 (.t 4),.bi 18 .eql (.t 17) (.c (.int .i64 1))]) (
 .cond (.t 18) (
  .reg [.bs 19 1 [(.c (.str [])), (.c (.str [60, 61])), (.c (.str [63]))] false,.mv 20 (.t 0),.cm 21 Z0 [(.t 20), (.c (.int .i64 3))],.ia 22 (.t 19) (.t 21) 1,.ld 23 (.t 22) 1 false,.fa 24 (.t 3) 1,.st (.t 24) (.t 23) 1]) (
  .skip))) (
 .seq (
 .seq (
 .reg [.mv 25 (.t 4),.bi 26 .eql (.t 25) (.c (.int .i64 2))]) (
 .cond (.t 26) (
  .reg [.mv 27 (.t 0),.cm 28 Zf [(.t 27)],.fa 29 (.t 3) 2,.st (.t 29) (.t 28) 1]) (
  .skip))) (
 .seq (
 .reg [.ld 30 (.t 3) 3 true,.st (.t 2) (.t 30) 3]) (
 .ret)))))))
def Z2h : List Rv := [.c 2 3 true]
theorem Z57 : chkFn Try.prog Z19 1 Z2w Z2h = true := by kernel_rfl
set_option maxRecDepth 20000 in
set_option maxHeartbeats 1000000 in
theorem Z89 (bs : List Int) (b : List AV) (hb : isCur bs b) (hl : bs.length <= 1048576) : Con Try.prog Z19 [.ptr 0 0] [b] [] (Z6w bs) := by
 obtain ⟨i0, h0, hi0, rfl⟩ := hb
 refine Z0X [] Z57 rfl (by simp) fun _ _ => den_W ?_
 unfold Z2w Z2h
 simp
 refine do_cm [2000000000] [] (Z4y bs _ ⟨i0, h0, hi0, rfl⟩ hl) rfl (by simp) (by simp) (by simp) ?_
 rintro _ _ _ _ _ _ _ ⟨v, _, rfl, rfl, ⟨i1, h1, hi1, rfl⟩, rfl, rfl⟩
 simp
 refine do_cm [2000000000] [] (Z1 bs _ 10 ⟨i1, h1, hi1, rfl⟩ hl (by omega)) rfl (by simp) (by simp) (by simp) ?_
 rintro _ _ _ _ _ _ _ ⟨k, _, k0, k1, rfl, rfl, ⟨i2, h2, hi2, rfl⟩, rfl, rfl⟩
 by_cases k0 : k = 0
 .simp [k0]
  refine do_cm [2000000000] [] (Z1 bs _ 3 ⟨i2, h2, hi2, rfl⟩ hl (by omega)) rfl (by simp) (by simp) (by simp) ?_
  rintro _ _ _ _ _ _ _ ⟨q, _, q0, q1, rfl, rfl, ⟨i3, h3, hi3, rfl⟩, rfl, rfl⟩
  have hq : q = 0 \/ q = 1 \/ q = 2 := by omega
  rcases hq with rfl | rfl | rfl
  .simp
   refine Z2 [[.sl .rd 1 (bs.map eB), .int .i64 (i3 : Nat), .int .i64 h3]] [] [] [] ?_
   simp
   exact ⟨⟨[], v.op, v.n⟩, _, rfl, rfl, ⟨i3, h3, hi3, rfl⟩, rfl, rfl⟩
  .simp
   refine Z2 [[.sl .rd 1 (bs.map eB), .int .i64 (i3 : Nat), .int .i64 h3]] [] [] [] ?_
   simp
   exact ⟨⟨[120], v.op, v.n⟩, _, rfl, rfl, ⟨i3, h3, hi3, rfl⟩, rfl, rfl⟩
  .simp
   refine Z2 [[.sl .rd 1 (bs.map eB), .int .i64 (i3 : Nat), .int .i64 h3]] [] [] [] ?_
   simp
   exact ⟨⟨[105, 100, 115], v.op, v.n⟩, _, rfl, rfl, ⟨i3, h3, hi3, rfl⟩, rfl, rfl⟩
 by_cases k1 : k = 1
 .simp [k1]
  refine do_cm [2000000000] [] (Z1 bs _ 3 ⟨i2, h2, hi2, rfl⟩ hl (by omega)) rfl (by simp) (by simp) (by simp) ?_
  rintro _ _ _ _ _ _ _ ⟨q, _, q0, q1, rfl, rfl, ⟨i3, h3, hi3, rfl⟩, rfl, rfl⟩
  have hq : q = 0 \/ q = 1 \/ q = 2 := by omega
  rcases hq with rfl | rfl | rfl
  .simp
   refine Z2 [[.sl .rd 1 (bs.map eB), .int .i64 (i3 : Nat), .int .i64 h3]] [] [] [] ?_
   simp
   exact ⟨⟨v.field, [], v.n⟩, _, rfl, rfl, ⟨i3, h3, hi3, rfl⟩, rfl, rfl⟩
  .simp
   refine Z2 [[.sl .rd 1 (bs.map eB), .int .i64 (i3 : Nat), .int .i64 h3]] [] [] [] ?_
   simp
   exact ⟨⟨v.field, [60, 61], v.n⟩, _, rfl, rfl, ⟨i3, h3, hi3, rfl⟩, rfl, rfl⟩
  .simp
   refine Z2 [[.sl .rd 1 (bs.map eB), .int .i64 (i3 : Nat), .int .i64 h3]] [] [] [] ?_
   simp
   exact ⟨⟨v.field, [63], v.n⟩, _, rfl, rfl, ⟨i3, h3, hi3, rfl⟩, rfl, rfl⟩
 by_cases k2 : k = 2
 .simp [k2]
  refine do_cm [2000000000] [] (ZX bs _ ⟨i2, h2, hi2, rfl⟩ hl) rfl (by simp) (by simp) (by simp) ?_
  rintro _ _ _ _ _ _ _ ⟨q, _, q0, q1, rfl, rfl, ⟨i3, h3, hi3, rfl⟩, rfl, rfl⟩
  simp
  refine Z2 [[.sl .rd 1 (bs.map eB), .int .i64 (i3 : Nat), .int .i64 h3]] [] [] [] ?_
  simp
  exact ⟨⟨v.field, v.op, q⟩, _, rfl, rfl, ⟨i3, h3, hi3, rfl⟩, rfl, rfl⟩
 simp [k0, k1, k2]
 refine Z2 [[.sl .rd 1 (bs.map eB), .int .i64 (i2 : Nat), .int .i64 h2]] [] [] [] ?_
 simp
 exact ⟨v, _, rfl, rfl, ⟨i2, h2, hi2, rfl⟩, rfl, rfl⟩
def Z3H (bs : List Int) : AV -> List (List AV) -> List (Option (List AV)) -> List Row -> Prop := fun res bout us new => ∃ (l : List Term) (b : List AV), l.length <= 12 /\ isCur bs b /\ res = .sref 0 /\ bout = [b] /\ us = [] /\ new = [⟨3, l.map eTerm, false⟩]
def Z1M : L :=
 .seq (
 .reg [.mv 2 (.c (.nl))]) (
 .seq (
 .reg [.bs 5 3 [] true,.mv 3 (.t 5)]) (
 .seq (
 .seq (
 .reg [.mv 6 (.t 0),.cm 7 Z0 [(.t 6), (.c (.int .i64 4))],.mv 4 (.t 7)]) (
 .blk 0 (
  .loop (
   .seq (
   .seq (
   .reg [.mv 8 (.t 4),.bi 9 .gtr (.t 8) (.c (.int .i64 0))]) (
   .cond (.t 9) (
    .skip) (
    .exit 0))) (
   .seq (
   .blk 1 (
    .reg [.mv 12 (.t 3),.mv 13 (.t 0),.cm 14 ZM [(.t 13)],.bs 15 3 [(.t 14)] false,.ap 16 (.t 12) (.t 15) 3 40,.mv 3 (.t 16)])) (
   .reg [.mv 10 (.t 4),.bi 11 .sub (.t 10) (.c (.int .i64 1)),.mv 4 (.t 11)])))))) (
 .seq (
 .seq (
 .reg [.mv 17 (.t 0),.cm 18 Z0 [(.t 17), (.c (.int .i64 6))],.bi 19 .eql (.t 18) (.c (.int .i64 0))]) (
 .cond (.t 19) (
  .reg [.mv 20 (.t 3),.mv 21 (.t 0),.cm 22 Z19 [(.t 21)],.bs 23 3 [(.t 22)] false,.ap 24 (.t 20) (.t 23) 3 40,.mv 3 (.t 24)]) (
  .skip))) (
 .seq (
 .seq (
 .reg [.mv 25 (.t 0),.cm 26 Z0 [(.t 25), (.c (.int .i64 30))],.bi 27 .eql (.t 26) (.c (.int .i64 0))]) (
 .cond (.t 27) (
  .blk 2 (
   .loop (
    .seq (
    .seq (
    .reg [.mv 28 (.t 3),.ln 29 (.t 28),.mv 30 (.t 0),.cm 31 Z0 [(.t 30), (.c (.int .i64 2))],.bi 32 .add (.c (.int .i64 8)) (.t 31),.bi 33 .lss (.t 29) (.t 32)]) (
    .cond (.t 33) (
     .skip) (
     .exit 2))) (
    .blk 3 (
     .reg [.mv 34 (.t 3),.mv 35 (.t 0),.cm 36 ZM [(.t 35)],.bs 37 3 [(.t 36)] false,.ap 38 (.t 34) (.t 37) 3 40,.mv 3 (.t 38)]))))) (
  .skip))) (
 .seq (
 .reg [.mv 39 (.t 3),.mv 2 (.t 39)]) (
 .ret))))))
def Z1w : List Rv := [.t 2]
theorem Z4L : chkFn Try.prog Z0F 1 Z1M Z1w = true := by kernel_rfl
set_option maxRecDepth 20000 in
set_option maxHeartbeats 1000000 in
theorem Z7D (bs : List Int) (b : List AV) (hb : isCur bs b) (hl : bs.length <= 1048576) : Con Try.prog Z0F [.ptr 0 0] [b] [] (Z3H bs) := by
 obtain ⟨i, h, hi, rfl⟩ := hb
 refine Z0X [] Z4L rfl (by simp) fun _ _ => den_W ?_
 unfold Z1M Z1w
 simp
 refine do_cm [2000000000] [] (Z1 bs _ 4 ⟨i, h, hi, rfl⟩ hl (by omega)) rfl (by simp) (by simp) (by simp) ?_
 rintro _ _ _ _ _ _ _ ⟨x, _, x0, x1, rfl, rfl, ⟨i1, h1, hi1, rfl⟩, rfl, rfl⟩
 obtain ⟨n, rfl⟩ := Int.eq_ofNat_of_zero_le x0
 simp
 refine W_ms (fun m s => ∃ (l : List Term) (i : Nat) (h : Int), i <= bs.length /\ l.length + m <= 3 /\ s.e 0 = .ptr 2000000000 0 /\ s.bx 2000000000 = some [.sl .rd 1 (bs.map eB), .int .i64 (i : Nat), .int .i64 h] /\
  s.e 3 = .sref 5 /\ s.rw 5 = some ⟨3, l.map eTerm, false⟩ /\ s.e 4 = .int .i64 (m : Nat)) n ?_ ?_
 .exact ⟨[], i1, h1, hi1, by simp; omega, by simp⟩
 rintro y0 s ⟨l, j, g, hj, hlx, e0, eb, e3, er, e4⟩
 by_cases hx0 : 0 < y0
 .simp [e0, e3, e4, hx0]
  refine do_cm [2000000000] [] (Z4y bs _ ⟨j, g, hj, rfl⟩ hl) rfl (by simp [eb]) (by simp) (by simp) ?_
  rintro _ _ _ _ _ _ _ ⟨y, _, rfl, rfl, ⟨j1, g1, hj1, rfl⟩, rfl, rfl⟩
  simp [er, e4]
  refine ⟨by omega, Z5K (y0 - 1) (by omega) ⟨l ++ [y], j1, g1, hj1, by simp; omega, ?_⟩⟩
  simp [e0]
  rw [Zi (by omega) (by omega)]; omega
 simp [e0, e4, hx0]
 refine do_cm [2000000000] [] (Z1 bs _ 6 ⟨j, g, hj, rfl⟩ hl (by omega)) rfl (by simp [eb]) (by simp) (by simp) ?_
 rintro _ _ _ _ _ _ _ ⟨x, _, x0, x1, rfl, rfl, ⟨j1, g1, hj1, rfl⟩, rfl, rfl⟩
 have rest : ∀ (s : St) (l : List Term) (j : Nat) (g : Int), l.length <= 4 -> j <= bs.length -> s.e 0 = .ptr 2000000000 0 -> s.e 25 = .ptr 2000000000 0 -> s.bx 2000000000 = some [.sl .rd 1 (bs.map eB), .int .i64 (j : Nat), .int .i64 g] -> s.e 3 = .sref 5 -> s.rw 5 = some ⟨3, l.map eTerm, false⟩ ->
   wop Try.prog (LOp.cm 26 Z0 [X.t 25, X.c (AV.int IntKind.i64 30)]) (wops Try.prog [LOp.bi 27 BinOp.eql (X.t 26) (X.c (AV.int IntKind.i64 0))]
    (W Try.prog (postC [Rv.t 2] [[.sl .rd 1 (bs.map eB), .int .i64 (i : Nat), .int .i64 h]] [] [] fun _ => Z3H bs)
     [It.l (L.cond (X.t 27) (L.blk 2 (((L.reg [LOp.mv 28 (X.t 3), LOp.ln 29 (X.t 28), LOp.mv 30 (X.t 0), LOp.cm 31 Z0 [X.t 30, X.c (AV.int IntKind.i64 2)], LOp.bi 32 BinOp.add (X.c (AV.int IntKind.i64 8)) (X.t 31), LOp.bi 33 BinOp.lss (X.t 29) (X.t 32)]).seq (L.cond (X.t 33) L.skip (L.exit 2))).seq
      (L.blk 3 (L.reg [LOp.mv 34 (X.t 3), LOp.mv 35 (X.t 0), LOp.cm 36 ZM [X.t 35], LOp.bs 37 3 [X.t 36] false, LOp.ap 38 (X.t 34) (X.t 37) 3 40, LOp.mv 3 (X.t 38)]))).loop) L.skip),
      It.l ((L.reg [LOp.mv 39 (X.t 3), LOp.mv 2 (X.t 39)]).seq L.ret)])) s := by
  intro s l j g hl4 hj e0 e25 eb e3 er
  have fin : ∀ (s : St) (l : List Term) (j : Nat) (g : Int), l.length <= 12 -> j <= bs.length -> s.bx 2000000000 = some [.sl .rd 1 (bs.map eB), .int .i64 (j : Nat), .int .i64 g] -> s.rw 5 = some ⟨3, l.map eTerm, false⟩ -> s.e 2 = .sref 5 ->
    postC [Rv.t 2] [[.sl .rd 1 (bs.map eB), .int .i64 (i : Nat), .int .i64 h]] [] [] (fun _ => Z3H bs) .ret s := by
   intro s l j g hl hj eb er e2
   refine Z2 [[.sl .rd 1 (bs.map eB), .int .i64 (j : Nat), .int .i64 g]] [] [5] [⟨3, l.map eTerm, false⟩] ?_
   simp [eb, er, e2]
   exact ⟨l, _, hl, ⟨j, g, hj, rfl⟩, rfl, rfl, rfl, rfl⟩
  refine do_cm [2000000000] [] (Z1 bs _ 30 ⟨j, g, hj, rfl⟩ hl (by omega)) rfl (by simp [eb]) (by simp) (by simp [e25]) ?_
  rintro _ _ _ _ _ _ _ ⟨x, _, x0, x1, rfl, rfl, ⟨j1, g1, hj1, rfl⟩, rfl, rfl⟩
  by_cases hx : x = 0
  rotate_left
  .simp [e3, hx]
   exact fin _ l j1 g1 (by omega) hj1 (by simp) (by simp [er]) (by simp)
  simp [hx]
  refine W_ms (fun m s => ∃ (l : List Term) (i : Nat) (h : Int), i <= bs.length /\ 12 <= l.length + m /\ l.length <= 12 /\ s.e 0 = .ptr 2000000000 0 /\ s.bx 2000000000 = some [.sl .rd 1 (bs.map eB), .int .i64 (i : Nat), .int .i64 h] /\
   s.e 3 = .sref 5 /\ s.rw 5 = some ⟨3, l.map eTerm, false⟩) 12 ?_ ?_
  .exact ⟨l, j1, g1, hj1, by omega, by omega, by simp [e0, e3, er]⟩
  clear e0 e25 eb e3 er s
  rintro y0 s ⟨l, j, g, hj, hlx, hl12, e0, eb, e3, er⟩
  simp [e0, e3, er]
  intro hlen
  refine do_cm [2000000000] [] (Z1 bs _ 2 ⟨j, g, hj, rfl⟩ hl (by omega)) rfl (by simp [eb]) (by simp) (by simp) ?_
  rintro _ _ _ _ _ _ _ ⟨x, _, x0, x1, rfl, rfl, ⟨j1, g1, hj1, rfl⟩, rfl, rfl⟩
  have ew : IntKind.i64.wrap (8 + x) = 8 + x := Zi (by omega) (by omega)
  by_cases hlt : (l.length : Int) < 8 + x
  .simp [e0, e3, ew, hlt]
   refine do_cm [2000000000] [] (Z4y bs _ ⟨j1, g1, hj1, rfl⟩ hl) rfl (by simp) (by simp) (by simp) ?_
   rintro _ _ _ _ _ _ _ ⟨y, _, rfl, rfl, ⟨j2, g2, hj2, rfl⟩, rfl, rfl⟩
   simp [er]
   refine ⟨by omega, Z5K (y0 - 1) (by omega) ⟨l ++ [y], j2, g2, hj2, by simp; omega, by simp; omega, ?_⟩⟩
   simp [e0]
  .simp [e3, ew, hlt]
   exact fin _ l j1 g1 (by omega) hj1 (by simp) (by simp [er]) (by simp)
 by_cases hx : x = 0
 .simp [e0, e3, hx]
  refine do_cm [2000000000] [] (Z89 bs _ ⟨j1, g1, hj1, rfl⟩ hl) rfl (by simp) (by simp) (by simp) ?_
  rintro _ _ _ _ _ _ _ ⟨y, _, rfl, rfl, ⟨j2, g2, hj2, rfl⟩, rfl, rfl⟩
  simp [e0, er]
  refine ⟨by omega, rest _ (l ++ [y]) j2 g2 (by simp; omega) hj2 (by simp [e0]) (by simp) (by simp) (by simp) (by simp)⟩
 .simp [e0, hx]
  exact rest _ l j1 g1 (by omega) hj1 (by simp [e0]) (by simp) (by simp) (by simp [e3]) (by simp [er])
def drawnSel : AV -> List (List AV) -> List (Option (List AV)) -> List Row -> Prop := fun res bout us new => ∃ (l : List Job) (q : List Term), l.length <= 8 /\ q.length <= 12 /\ res = .tup [.sref 0, .sref 1] /\ bout = [] /\ us = [] /\ new = [⟨11, l.map eJob, false⟩, ⟨3, q.map eTerm, false⟩]
def Z0u : L :=
 .seq (
 .reg [.mv 2 (.c (.nl)),.mv 3 (.c (.nl))]) (
 .seq (
 .reg [.mv 6 (.t 0),.cn 7 Z1c [(.t 6)],.mv 4 (.t 7)]) (
 .seq (
 .reg [.mv 8 (.t 4),.cm 9 Z1a [(.t 8)],.mv 5 (.t 9)]) (
 .seq (
 .reg [.mv 10 (.t 5),.mv 11 (.t 4),.cm 12 Z0F [(.t 11)],.mv 2 (.t 10),.mv 3 (.t 12)]) (
 .ret))))
def Z0t : List Rv := [.t 2, .t 3]
theorem Z3t : chkFn Try.prog Z07 1 Z0u Z0t = true := by kernel_rfl
set_option maxRecDepth 10000 in
theorem Z6a (bs : List Int) (hl : bs.length <= 1048576) : Con Try.prog Z07 [.sl .rd 1 (bs.map eB)] [] [] drawnSel := by
 refine Z0X [] Z3t rfl (by simp) fun _ _ => den_W ?_
 unfold Z0u Z0t
 simp
 refine do_cn (Z8c bs hl) (by simp [St.args]) (by simp) ?_
 rintro _ ⟨i, h, hi, rfl⟩
 simp
 refine do_cm [7] [] (Z8a bs _ ⟨i, h, hi, rfl⟩ hl) rfl (by simp) (by simp) (by simp) ?_
 rintro _ _ _ _ _ _ _ ⟨a, _, ha, ⟨i1, h1, hi1, rfl⟩, rfl, rfl, rfl, rfl⟩
 simp
 refine do_cm [7] [] (Z7D bs _ ⟨i1, h1, hi1, rfl⟩ hl) rfl (by simp) (by simp) (by simp) ?_
 rintro _ _ _ _ _ _ _ ⟨b, _, hb, ⟨i2, h2, hi2, rfl⟩, rfl, rfl, rfl, rfl⟩
 simp
 refine Z2 [] [] [10000, 13000] [⟨11, a.map eJob, false⟩, ⟨3, b.map eTerm, false⟩] ?_
 simp
 exact ⟨a, b, ha, hb, rfl, rfl, rfl, rfl⟩
def parts (b : UInt8) : Str -> List Str
 | [] => [[]]
 | c :: s => if c = b then [] :: parts b s else match parts b s with
  | p :: ps => (c :: p) :: ps
  | [] => [[c]]
theorem Z3B {b : UInt8} : ∀ {p : Str}, (∀ c ∈ p, c ≠ b) -> parts b p = [p]
 | [], _ => rfl
 | c :: p, h => by
  rw [parts, if_neg (h c (by simp)), Z3B fun x hx => h x (by simp [hx])]
theorem Z4q {b : UInt8} (q : Str) : ∀ {p : Str}, (∀ c ∈ p, c ≠ b) -> parts b (p ++ b :: q) = p :: parts b q
 | [], _ => by simp [parts]
 | c :: p, h => by
  rw [List.cons_append, parts, if_neg (h c (by simp)), Z4q q fun x hx => h x (by simp [hx])]
theorem Z7Y (b : UInt8) (s : Str) : (parts b s).length <= s.length + 1 := by
 induction s with
 | nil => simp [parts]
 | cons c s ih =>
  rw [parts]
  split
  .simp; omega
  .split
   .rename_i p ps h; rw [h] at ih; simp at ih ⊢; omega
   .simp
theorem u8_eq {a b : UInt8} : ((a.toNat : Int) = (b.toNat : Int)) ↔ a = b := by
 constructor
 .intro h; exact UInt8.toNat_inj.1 (by omega)
 .intro h; rw [h]
theorem cut_at {b : UInt8} {s : Str} {o : List Str} {f i : Nat} (hp : parts b s = o ++ parts b (s.drop f)) (hf : f <= i) (hi : i < s.length) (hn : ∀ c ∈ (s.take i).drop f, c ≠ b) (hb : s[i] = b) :
  parts b s = (o ++ [(s.take i).drop f]) ++ parts b (s.drop (i + 1)) := by
 have e : s.drop f = (s.take i).drop f ++ b :: s.drop (i + 1) := by
  conv => lhs; rw [← List.take_append_drop i s]
  rw [List.drop_append_of_le_length (by simp; omega), List.drop_eq_getElem_cons hi, hb]
 rw [hp, e, Z4q _ hn]
 simp
theorem go_on {b : UInt8} {s : Str} {f i : Nat} (hf : f <= i) (hi : i < s.length) (hn : ∀ c ∈ (s.take i).drop f, c ≠ b) (hb : s[i] ≠ b) : ∀ c ∈ (s.take (i + 1)).drop f, c ≠ b := by
 intro c hc
 rw [List.take_succ_eq_append_getElem hi, List.drop_append_of_le_length (by simp; omega)] at hc
 rcases List.mem_append.1 hc with h | h
 .exact hn c h
 .simp at h; subst h; exact hb
def Z3l : L :=
 .seq (
 .reg [.mv 4 (.c (.nl))]) (
 .seq (
 .reg [.bs 8 1 [] true,.mv 5 (.t 8)]) (
 .seq (
 .reg [.mv 6 (.c (.int .i64 0))]) (
 .seq (
 .seq (
 .reg [.mv 7 (.c (.int .i64 0))]) (
 .blk 0 (
  .loop (
   .seq (
   .seq (
   .reg [.mv 9 (.t 7),.mv 10 (.t 0),.ls 11 (.t 10),.bi 12 .lss (.t 9) (.t 11)]) (
   .cond (.t 12) (
    .skip) (
    .exit 0))) (
   .seq (
   .blk 1 (
    .seq (
    .reg [.mv 15 (.t 0),.mv 16 (.t 7),.ix 17 (.t 15) (.t 16),.mv 18 (.t 1),.bi 19 .eql (.t 17) (.t 18)]) (
    .cond (.t 19) (
     .seq (
     .reg [.mv 20 (.t 5),.mv 21 (.t 0),.mv 22 (.t 6),.mv 23 (.t 7),.ss 24 (.t 21) (some (.t 22)) (some (.t 23)),.bs 25 1 [(.t 24)] false,.ap 26 (.t 20) (.t 25) 1 16,.mv 5 (.t 26)]) (
     .reg [.mv 27 (.t 7),.bi 28 .add (.t 27) (.c (.int .i64 1)),.mv 6 (.t 28)])) (
     .skip)))) (
   .reg [.mv 13 (.t 7),.bi 14 .add (.t 13) (.c (.int .i64 1)),.mv 7 (.t 14)])))))) (
 .seq (
 .reg [.mv 29 (.t 5),.mv 30 (.t 0),.mv 31 (.t 6),.ss 32 (.t 30) (some (.t 31)) none,.bs 33 1 [(.t 32)] false,.ap 34 (.t 29) (.t 33) 1 16,.mv 4 (.t 34)]) (
 .ret)))))
def Z36 : List Rv := [.t 4]
theorem Z65 : chkFn Try.prog Z24 2 Z3l Z36 = true := by kernel_rfl
theorem Z5S (s : Str) (b : UInt8) (hs : s.length <= 1073741824) : Snd Try.prog Z24 [.str s, .int .u8 b.toNat] (.sref 0) [⟨1, (parts b s).map eS, false⟩] := by
 refine Zo Z65 rfl (by simp) (den_W ?_)
 unfold Z3l Z36
 simp
 refine Z50 (fun m t => ∃ (i f : Nat) (o : List Str), m = s.length - i /\ i <= s.length /\ f <= i /\ o.length <= i /\ parts b s = o ++ parts b (s.drop f) /\ (∀ c ∈ (s.take i).drop f, c ≠ b) /\ t.e 0 = .str s /\ t.e 1 = .int .u8 b.toNat /\ t.e 5 = .sref 8 /\
  t.e 6 = .int .i64 (f : Nat) /\ t.e 7 = .int .i64 (i : Nat) /\ t.rw 8 = some ⟨1, o.map eS, false⟩) s.length ?_ ?_
 .exact ⟨0, 0, [], by simp⟩
 .rintro m t ⟨i, f, o, rfl, hi, hf, ho, hp, hn, h0, h1, h5, h6, h7, hr⟩
  by_cases h : i < s.length
  .simp [h0, h1, h5, h6, h7, hr, h, u8_eq]
   by_cases hb : s[i] = b
   .simp [hb, hf, hi]
    refine ⟨by omega, s.length - (i + 1), by omega, i + 1, rfl, by omega, i + 1, by omega, o ++ [(s.take i).drop f], by simp; omega, cut_at hp hf h hn hb, ?_, ?_⟩
    .simp
    .rw [Zi (by omega) (by omega)]; simp
   .simp [hb]
    exact ⟨s.length - (i + 1), by omega, i + 1, rfl, by omega, f, by omega, o, by omega, hp, go_on hf h hn hb, by simp, by rw [Zi (by omega) (by omega)]; omega, rfl⟩
  .have : i = s.length := by omega
   subst this
   rw [List.take_of_length_le (Nat.le_refl _)] at hn
   rw [Z3B hn] at hp
   simp [h0, h5, h6, h7, hr, hf]
   refine ⟨by omega, ?_⟩
   refine Z2a [8] ?_
   simp [hp]
def spell (s : Str) : Int := s.foldl (fun n c => n * 10 + ((c.toNat : Int) - 48)) 0
def isDig (c : UInt8) : Bool := decide (48 <= c.toNat) && decide (c.toNat <= 57)
def Z0n (s : Str) : Int × Bool := if 1 <= s.length /\ s.length <= 10 /\ s.all isDig = true /\ Zv (spell s) = s then (spell s, true) else (0, false)
theorem Z3z {s : Str} {i : Nat} (h : i < s.length) : spell (s.take (i + 1)) = spell (s.take i) * 10 + ((s[i].toNat : Int) - 48) := by
 unfold spell
 rw [List.take_succ_eq_append_getElem h, List.foldl_append]
 rfl
theorem all_succ {s : Str} {i : Nat} (h : i < s.length) (p : UInt8 -> Bool) : (s.take (i + 1)).all p = ((s.take i).all p && p s[i]) := by
 rw [List.take_succ_eq_append_getElem h, List.all_append]; simp
theorem all_no {s : Str} {i : Nat} (h : i < s.length) {p : UInt8 -> Bool} (hp : p s[i] = false) : s.all p = false := by
 rw [List.all_eq_false]
 exact ⟨s[i], List.getElem_mem h, by simp [hp]⟩
theorem Z7N {c : UInt8} (h0 : 48 <= c.toNat) : IntKind.i64.wrap (IntKind.u8.wrap ((c.toNat : Int) - 48)) = (c.toNat : Int) - 48 := by
 have hc := c.toNat_lt
 have e : IntKind.u8.wrap ((c.toNat : Int) - 48) = (c.toNat : Int) - 48 := by
  unfold IntKind.wrap
  simp [IntKind.bits, IntKind.signed]
  omega
 rw [e, Zi (by omega) (by omega)]
def Z1R : L :=
 .seq (
 .reg [.mv 2 (.c (.int .i64 0)),.mv 3 (.c (.bool false))]) (
 .seq (
 .seq (
 .reg [.mv 6 (.t 0),.ls 7 (.t 6),.cq 8 Za [(.t 7), (.c (.int .i64 1)), (.c (.int .i64 10))],.un 9 (.t 8)]) (
 .cond (.t 9) (
  .seq (
  .reg [.mv 2 (.c (.int .i64 0)),.mv 3 (.c (.bool false))]) (
  .ret)) (
  .skip))) (
 .seq (
 .reg [.mv 4 (.c (.int .i64 0))]) (
 .seq (
 .seq (
 .reg [.mv 5 (.c (.int .i64 0))]) (
 .blk 0 (
  .loop (
   .seq (
   .seq (
   .reg [.mv 10 (.t 5),.mv 11 (.t 0),.ls 12 (.t 11),.bi 13 .lss (.t 10) (.t 12)]) (
   .cond (.t 13) (
    .skip) (
    .exit 0))) (
   .seq (
   .blk 1 (
    .seq (
    .seq (
    .reg [.mv 16 (.t 0),.mv 17 (.t 5),.ix 18 (.t 16) (.t 17),.bi 19 .lss (.t 18) (.c (.int .u8 48)),.mv 20 (.t 19),.g 20 false (.mv 21 (.t 0)),.g 20 false (.mv 22 (.t 5)),.g 20 false (.ix 23 (.t 21) (.t 22)),.g 20 false (.bi 24 .gtr (.t 23) (.c (.int .u8 57))),.pk 25 (.t 20) (.c (.bool true)) (.t 24)]) (
    .cond (.t 25) (
     .seq (
     .reg [.mv 2 (.c (.int .i64 0)),.mv 3 (.c (.bool false))]) (
     .ret)) (
     .skip))) (
    .reg [.mv 26 (.t 4),.bi 27 .mul (.c (.int .i64 10)) (.t 26),.mv 28 (.t 0),.mv 29 (.t 5),.ix 30 (.t 28) (.t 29),.bi 31 .sub (.t 30) (.c (.int .u8 48)),.cv 32 .i64 (.t 31),.bi 33 .add (.t 27) (.t 32),.mv 4 (.t 33)]))) (
   .reg [.mv 14 (.t 5),.bi 15 .add (.t 14) (.c (.int .i64 1)),.mv 5 (.t 15)])))))) (
 .seq (
 .seq (
 .reg [.mv 34 (.t 4),.cq 35 Z0b [(.t 34)],.mv 36 (.t 0),.bi 37 .neq (.t 35) (.t 36)]) (
 .cond (.t 37) (
  .seq (
  .reg [.mv 2 (.c (.int .i64 0)),.mv 3 (.c (.bool false))]) (
  .ret)) (
  .skip))) (
 .seq (
 .reg [.mv 38 (.t 4),.mv 2 (.t 38),.mv 3 (.c (.bool true))]) (
 .ret))))))
def Z1B : List Rv := [.t 2, .t 3]
theorem Z4Q : chkFn Try.prog Z0I 1 Z1R Z1B = true := by kernel_rfl
set_option maxRecDepth 10000 in
theorem Z4B (s : Str) : Snd Try.prog Z0I [.str s] (.tup [.int .i64 (Z0n s).1, .bool (Z0n s).2]) [] := by
 refine Zo Z4Q rfl (by simp) (den_W ?_)
 unfold Z1R Z1B
 simp
 refine do_cq (ZK s.length 1 10) (by simp [St.args]) ?_
 by_cases h1 : 1 <= s.length
 rotate_left
 .have e1 : ¬ ((1 : Int) <= s.length) := by omega
  simp [Z0n, h1, e1]
 by_cases h2 : s.length <= 10
 rotate_left
 .have e2 : ¬ ((s.length : Int) <= 10) := by omega
  simp [Z0n, h2, e2]
 have e1 : (1 : Int) <= s.length := by omega
 have e2 : (s.length : Int) <= 10 := by omega
 simp [e1, e2]
 refine Z50 (fun m t => ∃ i, m = s.length - i /\ i <= s.length /\ (s.take i).all isDig = true /\ 0 <= spell (s.take i) /\ spell (s.take i) < 10 ^ i /\ t.e 0 = .str s /\ t.e 4 = .int .i64 (spell (s.take i)) /\ t.e 5 = .int .i64 (i : Nat)) s.length ?_ ?_
 .exact ⟨0, by simp [spell]⟩
 .rintro m t ⟨i, rfl, hi, ha, s0, s1, e0, e4, e5⟩
  by_cases h : i < s.length
  .have hc := s[i].toNat_lt
   by_cases d1 : 48 <= s[i].toNat
   rotate_left
   .have hd : s.all isDig = false := all_no h (by simp [isDig, d1])
    have c1 : (s[i].toNat : Int) < 48 := by omega
    simp [e0, e5, h, c1, Z0n, hd]
   by_cases d2 : s[i].toNat <= 57
   rotate_left
   .have hd : s.all isDig = false := all_no h (by simp [isDig, d2])
    have c1 : ¬ (s[i].toNat : Int) < 48 := by omega
    have c2 : (57 : Int) < s[i].toNat := by omega
    simp [e0, e5, h, c1, c2, Z0n, hd]
   have c1 : ¬ (s[i].toNat : Int) < 48 := by omega
   have c2 : ¬ (57 : Int) < s[i].toNat := by omega
   have hp := pow10 (i := i) (by omega)
   have hm : IntKind.i64.wrap (spell (s.take i) * 10) = spell (s.take i) * 10 := Zi (by omega) (by omega)
   have hm' : IntKind.i64.wrap (10 * spell (s.take i)) = spell (s.take i) * 10 := by rw [Zi (by omega) (by omega)]; omega
   simp [e0, e4, e5, h, c1, c2, hm', Z7N d1]
   refine ⟨s.length - (i + 1), by omega, i + 1, rfl, by omega, ?_, ?_, ?_, ?_, by rw [Zi (by omega) (by omega)]; omega⟩
   .exact List.all_eq_true.1 (by rw [all_succ h isDig, ha]; simp [isDig, d1, d2])
   .rw [Z3z h]; omega
   .rw [Z3z h, Int.pow_succ]; omega
   .rw [Z3z h, Zi (by omega) (by omega)]
  .have : i = s.length := by omega
   subst this
   rw [List.take_of_length_le (Nat.le_refl _)] at ha s0 s1 e4
   simp [e0, e4, e5]
   refine do_cq (Z1W (spell s)) (by simp [St.args]) ?_
   simp
   by_cases hn : Zv (spell s) = s
   .simp [hn, e0, e4, Z0n, ha, h1, h2]
   .simp [hn, e0, Z0n]
theorem Z7B (l : Str) (c : UInt8) : spell (l ++ [c]) = spell l * 10 + ((c.toNat : Int) - 48) := by
 unfold spell; rw [List.foldl_append]; rfl
theorem dgt_val (n : Nat) : (dgt n).toNat = 48 + n % 10 := by
 unfold dgt
 rw [UInt8.toNat_ofNat']
 omega
theorem Z7r : ∀ n : Nat, spell (dg n) = n /\ (dg n).all isDig = true /\ 1 <= (dg n).length := by
 intro n
 induction n using Nat.strongRecOn with
 | _ n ih =>
  have hd := dgt_val n
  have hi : isDig (dgt n) = true := by simp [isDig, hd]; omega
  by_cases h : n < 10
  .rw [dg_lt h]
   refine ⟨?_, by simp [hi], by simp⟩
   simp [spell, hd]; omega
  .obtain ⟨h1, h2, h3⟩ := ih (n / 10) (by omega)
   rw [dg_ge (by omega)]
   refine ⟨?_, by simp only [List.all_append, h2]; simp [hi], by simp⟩
   rw [Z7B, h1, hd]; omega
theorem Z4s (n : Int) : (Zv n).all isDig = true := by
 unfold Zv; split
 .exact (Z7r _).2.1
 .rfl
theorem Z4m {n : Int} (h : time n = true) : Z0n (Zv n) = (n, true) := by
 have hl := Z2Q n
 have e : Zv n = dg n.toNat := by unfold Zv; rw [if_pos h]
 obtain ⟨h1, h2, h3⟩ := Z7r n.toNat
 have hn : 0 <= n := by simp [time] at h; exact h.1
 have hs : spell (Zv n) = n := by rw [e, h1]; omega
 unfold Z0n
 rw [if_pos ⟨by rw [e]; exact h3, hl, Z4s n, by rw [hs]⟩, hs]
def isLow (c : UInt8) : Bool := decide (97 <= c.toNat) && decide (c.toNat <= 122)
def Z2U (w : Str) (i : Nat) : Term := ⟨w.take i, (w.take (i + 1)).drop i, (Z0n (w.drop (i + 1))).1⟩
def Z0Z (w : Str) : Term := match w.findIdx? (fun c => !isLow c) with | some i => Z2U w i | none => ⟨[], [], 0⟩
def implTerm (w : Str) : Option Term := match w.findIdx? (fun c => isOp [c]) with | some i => some (Z2U w i) | none => none
theorem Z4I {w : Str} {p : UInt8 -> Bool} {i : Nat} (h : i < w.length) (hp : p w[i] = true) (hn : ∀ k, k < i -> ∀ h, p (w[k]'h) = false) : w.findIdx? p = some i := by
 rw [List.findIdx?_eq_some_iff_getElem]
 exact ⟨h, hp, fun j hj => by simp [hn j hj (by omega)]⟩
theorem Z8m {w : Str} {p : UInt8 -> Bool} (hn : ∀ k, k < w.length -> ∀ h, p (w[k]'h) = false) : w.findIdx? p = none := by
 rw [List.findIdx?_eq_none_iff]
 intro x hx
 obtain ⟨i, hi, rfl⟩ := List.getElem_of_mem hx
 exact hn i hi hi
def implAll : List Str -> Option (List Term)
 | [] => some []
 | w :: ws => match implTerm w, implAll ws with | some t, some ts => some (t :: ts) | _, _ => none
theorem Z2T : ∀ (a b : List Str), implAll (a ++ b) = match implAll a, implAll b with | some x, some y => some (x ++ y) | _, _ => none
 | [], b => by simp [implAll]; cases implAll b <;> rfl
 | w :: a, b => by
  rw [List.cons_append, implAll, Z2T a b, implAll]
  cases implTerm w <;> cases implAll a <;> cases implAll b <;> rfl
theorem Z6r {l : List Str} {i : Nat} (h : i < l.length) {o : List Term} {t : Term} (ho : implAll (l.take i) = some o) (ht : implTerm l[i] = some t) : implAll (l.take (i + 1)) = some (o ++ [t]) := by
 rw [List.take_succ_eq_append_getElem h, Z2T, ho]; simp [implAll, ht]
theorem Z6V {l : List Str} {i : Nat} (h : i < l.length) (ht : implTerm l[i] = none) : implAll l = none := by
 have e : l = l.take i ++ (l[i] :: l.drop (i + 1)) := by rw [← List.drop_eq_getElem_cons h, List.take_append_drop]
 rw [e, Z2T]
 simp only [implAll, ht]
 cases implAll (l.take i) <;> rfl
theorem Z87 {f : Str} (h : (fieldV job0 f).2 = true) : f.all isLow = true := by
  unfold fieldV at h
  repeat' split at h
  all_goals first
    | (rename_i e; rw [e]; decide)
    | simp at h
theorem op_byte {o : Str} (h : isOp o = true) : ∃ c, o = [c] /\ isLow c = false /\ isOp [c] = true /\ c ≠ 32 := by
 have h' := h
 simp [isOp] at h
 rcases h with ((rfl | rfl) | rfl) | rfl <;> exact ⟨_, rfl, by decide, by decide, by decide⟩
theorem low_noop {c : UInt8} (h : isLow c = true) : isOp [c] = false := by
 simp [isLow] at h
 simp only [isOp, Bool.or_eq_false_iff, decide_eq_false_iff_not, List.cons.injEq, and_true]
 refine ⟨⟨⟨?_, ?_⟩, ?_⟩, ?_⟩ <;> (rintro rfl; revert h; decide)
theorem cut_ok {f : Str} {c : UInt8} {n : Int} (ht : time n = true) : Z2U (f ++ ([c] ++ Zv n)) f.length = ⟨f, [c], n⟩ := by
 unfold Z2U
 have e1 : (f ++ ([c] ++ Zv n)).take f.length = f := by simp
 have e2 : ((f ++ ([c] ++ Zv n)).take (f.length + 1)).drop f.length = [c] := by
  rw [show f.length + 1 = f.length + 1 from rfl, List.take_length_add_append]; simp
 have e3 : (f ++ ([c] ++ Zv n)).drop (f.length + 1) = Zv n := by
  rw [List.drop_length_add_append]; simp
 rw [e1, e2, e3, Z4m ht]
theorem Z4F {f : Str} {c : UInt8} {r : Str} (h : f.length < (f ++ ([c] ++ r)).length) : (f ++ ([c] ++ r))[f.length] = c := by
 rw [List.getElem_append_right (by omega)]; simp
theorem Z4n {t : Term} (h : termOk t = true) : Z0Z (ZF t) = t /\ implTerm (ZF t) = some t /\ ∀ c ∈ ZF t, c ≠ 32 := by
 simp [termOk] at h
 obtain ⟨⟨h1, h2⟩, h3⟩ := h
 obtain ⟨f, o, n⟩ := t
 simp only at h1 h2 h3
 obtain ⟨c, rfl, c1, c2, c3⟩ := op_byte h2
 have hf := Z87 h1
 have hlow : ∀ k (hk : k < f.length), isLow f[k] = true := fun k hk => List.all_eq_true.1 hf _ (List.getElem_mem hk)
 have hlt : f.length < (f ++ ([c] ++ Zv n)).length := by simp
 have hpre : ∀ k, k < f.length -> ∀ h, (f ++ ([c] ++ Zv n))[k]'h = f[k]! := fun k hk h' => by rw [List.getElem_append_left hk]; simp [hk]
 refine ⟨?_, ?_, ?_⟩
 .unfold Z0Z ZF
  rw [Z4I hlt (by rw [Z4F hlt, c1]; rfl) (fun k hk h' => by rw [List.getElem_append_left hk, hlow k hk]; rfl)]
  exact cut_ok h3
 .unfold implTerm ZF
  rw [Z4I hlt (by rw [Z4F hlt, c2]) (fun k hk h' => by rw [List.getElem_append_left hk]; exact low_noop (hlow k hk))]
  exact congrArg some (cut_ok h3)
 .intro x hx
  unfold ZF at hx
  simp only [List.mem_append, List.mem_singleton] at hx
  rcases hx with hx | hx | hx
  .have := List.all_eq_true.1 hf x hx
   rintro rfl; revert this; decide
  .rw [hx]; exact c3
  .have := List.all_eq_true.1 (Z4s n) x hx
   rintro rfl; revert this; decide
theorem Z4p : ∀ {l : List Str}, l ≠ [] -> (∀ w ∈ l, ∀ c ∈ w, c ≠ 32) -> parts 32 (joinW l) = l
 | [], h, _ => absurd rfl h
 | [w], _, h => by rw [joinW]; exact Z3B (h w (by simp))
 | w :: v :: ws, _, h => by
  rw [joinW, Z4q _ (h w (by simp)), Z4p (by simp) fun x hx => h x (by simp at hx ⊢; exact .inr hx)]
theorem Z4Y {o : List Term} {s : Str} (h : ZG o = s) (hs : s ≠ []) : parts 32 s = o.map ZF /\ o.all termOk = true := by
 unfold ZG at h
 split at h
 .rename_i hc
  subst h
  refine ⟨Z4p (fun e => hs (by rw [e]; rfl)) fun w hw => ?_, hc.2⟩
  obtain ⟨t, ht, rfl⟩ := List.mem_map.1 hw
  exact (Z4n (List.all_eq_true.1 hc.2 t ht)).2.2
 .exact absurd h.symm hs
theorem Z6e {o : List Term} (h : o.all termOk = true) : (o.map ZF).map Z0Z = o := by
 rw [List.map_map]
 conv => rhs; rw [← List.map_id o]
 exact List.map_congr_left fun t ht => (Z4n (List.all_eq_true.1 h t ht)).1
theorem Z6q : ∀ {o : List Term}, o.all termOk = true -> implAll (o.map ZF) = some o
 | [], _ => rfl
 | t :: o, h => by
  simp only [List.all_cons, yD] at h
  simp only [List.map_cons, implAll, (Z4n h.1).2.1, Z6q h.2]
def Z1s (s : Str) : List Term × Bool := if s ≠ [] /\ ZG ((parts 32 s).map Z0Z) = s then ((parts 32 s).map Z0Z, true) else ([], false)
def Z25 (s : Str) : List Term × Bool := match implAll (parts 32 s) with
 | some o => if ZG o = s then (o, true) else ([], false)
 | none => ([], false)
theorem Z7A (s : Str) : Z25 s = Z1s s := by
 unfold Z25 Z1s
 by_cases hs : s = []
 .subst hs; rfl
 by_cases h : ZG ((parts 32 s).map Z0Z) = s
 .obtain ⟨h1, h2⟩ := Z4Y h hs
  have h3 := Z6q h2
  rw [← h1] at h3
  rw [if_pos ⟨hs, h⟩, h3]
  simp only [h, if_true]
 .rw [if_neg (fun q => h q.2)]
  split
  .rename_i o ho
   split
   .rename_i ha
    obtain ⟨h1, h2⟩ := Z4Y ha hs
    exact absurd (by rw [h1, Z6e h2, ha]) h
   .rfl
  .rfl
theorem Z39 {b : UInt8} : ∀ {s p : Str}, p ∈ parts b s -> p.length <= s.length
 | [], p, h => by simp [parts] at h; subst h; simp
 | c :: s, p, h => by
  rw [parts] at h
  split at h
  .rcases List.mem_cons.1 h with rfl | h
   .simp
   .have := Z39 h; simp; omega
  .split at h
   .rename_i q qs e
    rcases List.mem_cons.1 h with rfl | h
    .have := Z39 (s := s) (p := q) (b := b) (by rw [e]; simp); simp; omega
    .have := Z39 (s := s) (p := p) (b := b) (by rw [e]; simp [h]); simp; omega
   .simp at h; subst h; simp
def Z1S : L :=
 .seq (
 .reg [.mv 2 (.c (.nl)),.mv 3 (.c (.bool false))]) (
 .seq (
 .reg [.bs 9 3 [] true,.mv 4 (.t 9)]) (
 .seq (
 .seq (
 .reg [.mv 10 (.t 0),.cq 11 Z24 [(.t 10), (.c (.int .u8 32))],.ln 12 (.t 11),.mv 13 (.c (.int .i64 0))]) (
 .blk 0 (
  .loop (
   .seq (
   .reg [.bi 14 .lss (.t 13) (.t 12)]) (
   .seq (
   .cond (.t 14) (
    .skip) (
    .exit 0)) (
   .seq (
   .blk 1 (
    .seq (
    .reg [.ia 15 (.t 11) (.t 13) 1,.ld 16 (.t 15) 1 false,.mv 6 (.t 16)]) (
    .seq (
    .reg [.mv 7 (.c (.int .i64 0))]) (
    .seq (
    .blk 2 (
     .loop (
      .seq (
      .seq (
      .reg [.mv 17 (.t 7),.mv 18 (.t 6),.ls 19 (.t 18),.bi 20 .lss (.t 17) (.t 19),.mv 21 (.t 20),.g 21 true (.mv 22 (.t 6)),.g 21 true (.mv 23 (.t 7)),.g 21 true (.mv 24 (.t 7)),.g 21 true (.bi 25 .add (.t 24) (.c (.int .i64 1))),.g 21 true (.ss 26 (.t 22) (some (.t 23)) (some (.t 25))),.g 21 true (.cq 27 Z1f [(.t 26)]),.g 21 true (.un 28 (.t 27)),.pk 29 (.t 21) (.t 28) (.c (.bool false))]) (
      .cond (.t 29) (
       .skip) (
       .exit 2))) (
      .blk 3 (
       .reg [.mv 30 (.t 7),.bi 31 .add (.t 30) (.c (.int .i64 1)),.mv 7 (.t 31)]))))) (
    .seq (
    .seq (
    .reg [.mv 32 (.t 7),.mv 33 (.t 6),.ls 34 (.t 33),.bi 35 .eql (.t 32) (.t 34)]) (
    .cond (.t 35) (
     .seq (
     .reg [.mv 2 (.c (.nl)),.mv 3 (.c (.bool false))]) (
     .ret)) (
     .skip))) (
    .seq (
    .rq 10 [.mv 36 (.t 6),.mv 37 (.t 7),.ss 38 (.t 36) none (some (.t 37)),.mv 39 (.t 6),.mv 40 (.t 7),.mv 41 (.t 7),.bi 42 .add (.t 41) (.c (.int .i64 1)),.ss 43 (.t 39) (some (.t 40)) (some (.t 42)),.bd 44 [.str [], .str [], .int .i64 0] [(0, 1, (.t 38)), (1, 1, (.t 43))],.al 8 [.str [], .str [], .int .i64 0],.st (.t 8) (.t 44) 3]) (
    .seq (
    .reg [.mv 46 (.t 6),.mv 47 (.t 7),.bi 48 .add (.t 47) (.c (.int .i64 1)),.ss 49 (.t 46) (some (.t 48)) none,.cq 50 Z0I [(.t 49)],.mv 45 (.t 50),.ex 51 (.t 45) 0,.ex 52 (.t 45) 1,.fa 53 (.t 8) 2,.st (.t 53) (.t 51) 1]) (
    .reg [.mv 54 (.t 4),.ld 55 (.t 8) 3 true,.bs 56 3 [(.t 55)] false,.ap 57 (.t 54) (.t 56) 3 40,.mv 4 (.t 57)])))))))) (
   .reg [.bi 58 .add (.t 13) (.c (.int .i64 1)),.mv 13 (.t 58)]))))))) (
 .seq (
 .seq (
 .reg [.mv 59 (.t 4),.cq 60 ZP [(.t 59)],.mv 61 (.t 0),.bi 62 .neq (.t 60) (.t 61)]) (
 .cond (.t 62) (
  .seq (
  .reg [.mv 2 (.c (.nl)),.mv 3 (.c (.bool false))]) (
  .ret)) (
  .skip))) (
 .seq (
 .reg [.mv 63 (.t 4),.mv 2 (.t 63),.mv 3 (.c (.bool true))]) (
 .ret)))))
def Z1C : List Rv := [.t 2, .t 3]
theorem Z4R : chkFn Try.prog Z0J 1 Z1S Z1C = true := by kernel_rfl
set_option maxRecDepth 10000 in
theorem Z4C (s : Str) (hs : s.length <= 1048576) : Snd Try.prog Z0J [.str s] (.tup [.sref 0, .bool (Z1s s).2]) [⟨3, (Z1s s).1.map eTerm, false⟩] := by
 refine Zo Z4R rfl (by simp) (den_W ?_)
 unfold Z1S Z1C
 rw [← Z7A]
 simp
 refine do_cq (Z5S s 32 (by omega)) (by simp [St.args]) ?_
 simp
 intro hpl
 have hps := Z7Y 32 s
 have hpm : ∀ p ∈ parts 32 s, p.length <= s.length := fun p hp => Z39 hp
 generalize hP : parts 32 s = ps at hps hpm
 refine W_rng ps.length (fun i t => ∃ o, implAll (ps.take i) = some o /\ o.length <= i /\ t.e 0 = .str s /\ t.e 4 = .sref 9 /\ t.rw 9 = some ⟨3, o.map eTerm, false⟩ /\ t.e 11 = .sl .nw 1 (ps.map eS) /\ t.e 12 = .int .i64 ps.length /\ t.e 13 = .int .i64 (i : Nat)) ?_ ?_
 .exact ⟨[], by simp [implAll]⟩
 rintro i t hi ⟨o, hoo, hol, h0, h4, hr, h11, h12, h13⟩
 by_cases h : i < ps.length
 .simp [h11, h12, h13, h]
  have hwl : ps[i].length <= 1048576 := by have := hpm _ (List.getElem_mem h); omega
  have hbad : implTerm ps[i] = none -> Z25 s = ([], false) := fun hb => by unfold Z25; rw [hP, Z6V h hb]
  generalize hw : ps[i] = w at hwl hbad
  refine W_rng w.length (fun k t => (∀ j, j < k -> ∀ h, isOp [w[j]'h] = false) /\ t.e 0 = .str s /\ t.e 4 = .sref 9 /\ t.rw 9 = some ⟨3, o.map eTerm, false⟩ /\ t.e 11 = .sl .nw 1 (ps.map eS) /\ t.e 12 = .int .i64 ps.length /\ t.e 13 = .int .i64 (i : Nat) /\ t.e 6 = .str w /\ t.e 7 = .int .i64 (k : Nat)) ?_ ?_
  .simp [h0, h4, hr, h11, h12, h13]
  clear h0 h4 hr h11 h12 h13 t
  rintro k t hk ⟨hn, h0, h4, hr, h11, h12, h13, h6, h7⟩
  by_cases h' : k < w.length
  .have hws := Zb h' (by omega : w.length <= 9223372036854775807)
   have hle : k + 1 <= w.length := h'
   simp [h6, h7, h', hws, hle]
   have e1 : (w.take (k + 1)).drop k = [w[k]] := by
    rw [List.take_succ_eq_append_getElem h', List.drop_append_of_le_length (by simp; omega)]; simp
   refine do_cq (Z8i [w[k]]) (by simp [St.args, e1]) ?_
   cases hop : isOp [w[k]]
   .simp [h7]
    refine Zu h' ?_
    simp [h0, h4, hr, h11, h12, h13, h6, hws]
    intro j hj hj'
    by_cases e : j = k
    .subst e; exact hop
    .exact hn j (by omega) hj'
   .have hne : ¬ (k : Int) = w.length := by omega
    have hx : implTerm w = some (Z2U w k) := by unfold implTerm; rw [Z4I h' hop hn]
    simp [h6, h7, hne, hk, hws, hle]
    refine do_cq (Z4B (w.drop (k + 1))) (by simp [St.args]) ?_
    simp [h4, hr, h13]
    refine ⟨by omega, Zu h ⟨o ++ [Z2U w k], Z6r h hoo (by rw [hw]; exact hx), by simp; omega, ?_⟩⟩
    simp [h0, h11, h12, Zb h (by omega : ps.length <= 9223372036854775807), Z2U]
  .have : k = w.length := by omega
   subst this
   simp [h6, h7]
   have := hbad (by unfold implTerm; rw [Z8m hn])
   exact Z1H [none] (by simp [this])
 .have : i = ps.length := by omega
  subst this
  rw [List.take_of_length_le (Nat.le_refl _)] at hoo
  simp [h4, h12, h13]
  refine do_cq (Z0q o) (by simp [St.args, hr]) ?_
  simp [h0]
  by_cases ha : ZG o = s
  .simp [ha, h4]
   exact Z2a [9] (by simp [Z25, hP, hoo, ha, hr])
  .simp [ha]
   exact Z1H [none] (by simp [Z25, hP, hoo, ha])
theorem ask_back (q : List Term) (h : ZG q ≠ []) : Z1s (ZG q) = (q, true) := by
 obtain ⟨h1, h2⟩ := Z4Y (o := q) rfl h
 have e : (parts 32 (ZG q)).map Z0Z = q := by rw [h1]; exact Z6e h2
 unfold Z1s
 rw [e, if_pos ⟨h, rfl⟩]
theorem ask_none : Z1s [] = ([], false) := by unfold Z1s; rw [if_neg (by simp)]
def termA : Term := ⟨[112, 114, 105, 111], [61], 1⟩
def termB : Term := ⟨[112, 114, 105, 111], [33], 1⟩
theorem Z7V {l : List Job} (h : ZS l = true) {j : Job} (hj : j ∈ l) : jobOk j = true := by
 unfold ZS at h
 simp only [yD] at h
 obtain ⟨i, hi, rfl⟩ := List.getElem_of_mem hj
 have := Z5z.1 h.2 i hi
 rw [Z1G hi, yD] at this
 exact this.1
theorem Z6P (l : List Job) (q : List Term) : (sel l q).length <= l.length := by
 unfold sel; split
 .exact List.length_filter_le _ _
 .simp
theorem sel_sum (l : List Job) : (ZS l = false /\ (sel l [termA]).length = 0 /\ (sel l [termB]).length = 0) \/ (ZS l = true /\ (sel l [termA]).length + (sel l [termB]).length = l.length) := by
 cases h : ZS l
 .left; simp [sel, h]
 .right
  refine ⟨rfl, ?_⟩
  have ha : termOk termA = true := by decide
  have hb : termOk termB = true := by decide
  unfold sel
  rw [if_pos ⟨h, by simp [ha]⟩, if_pos ⟨h, by simp [hb]⟩]
  have e : ∀ j ∈ l, selP [termB] j = !selP [termA] j := by
   intro j hj
   have hj := Z7V h hj
   have e1 : goes termA j = decide (j.prio = 1) := by unfold goes; rw [if_pos ⟨ha, hj⟩]; simp [termA, fieldV]
   have e2 : goes termB j = !decide (j.prio = 1) := by unfold goes; rw [if_pos ⟨hb, hj⟩]; simp [termB, fieldV]
   simp [selP, e1, e2]
  rw [List.filter_congr e]
  have h2 := List.length_eq_countP_add_countP (selP [termA]) (l := l)
  rw [List.countP_eq_length_filter, List.countP_eq_length_filter] at h2
  simp only [Bool.not_eq_true, Bool.decide_eq_false] at h2
  exact h2.symm
theorem sel_goes {l : List Job} {q : List Term} {j : Job} {t : Term} (h : j ∈ sel l q) (ht : t ∈ q) : goes t j = true := by
 unfold sel at h
 split at h
 .have := (List.mem_filter.1 h).2
  unfold selP at this
  simp only [Bool.not_eq_true', List.any_eq_false] at this
  simpa using this t ht
 .simp at h
theorem bytes_of {a : AV} (h : (Ty.sl (.int .u8)).okV a) : ∃ l : List Int, AV.wkA (fun _ => False) a (.sl .rd 1 (l.map eB)) := by
 simp only [Ty.okV, Ty.ok] at h
 rcases h with h | ⟨es, h, _, h2⟩
 .exact ⟨[], by rw [(List.cons.inj h).1]; simp⟩
 .obtain ⟨l, rfl⟩ := list_of eB fun x hx => by
   obtain ⟨_, h3, n, h4, _⟩ := h2 x hx
   simp only [Ty.isSt, Bool.false_eq_true, if_false] at h3
   rw [Z6F h3] at h4
   exact ⟨n, (List.cons.inj h4).1⟩
  exact ⟨l, by rw [(List.cons.inj h).1]; simp [Ty.size]⟩
theorem ask_len2 (q : List Term) : (ZG q).length <= 136 := by
 unfold ZG
 split
 .rename_i h
  have := Z8v (l := q) rfl h.1 (by rw [List.take_of_length_le (Nat.le_refl _)]; exact h.2)
  rwa [List.take_of_length_le (by simp)] at this
 .simp
theorem share {I G : St -> Prop} {p : Prop} (h1 : (∀ s, I s -> G s) -> p) (h2 : ∀ s, I s -> G s) : p := h1 h2
def Z3h : L :=
 .seq (
 .reg [.mv 2 (.c (.bool false))]) (
 .seq (
 .seq (
 .reg [.mv 15 (.t 0),.ln 16 (.t 15),.bi 17 .gtr (.t 16) (.c (.int .i64 1048576))]) (
 .cond (.t 17) (
  .seq (
  .reg [.mv 2 (.c (.bool true))]) (
  .ret)) (
  .skip))) (
 .seq (
 .reg [.mv 19 (.t 0),.cm 20 Z07 [(.t 19)],.mv 18 (.t 20),.ex 21 (.t 18) 0,.ex 22 (.t 18) 1,.mv 3 (.t 21),.mv 4 (.t 22)]) (
 .seq (
 .reg [.mv 23 (.t 4),.cq 24 ZP [(.t 23)],.mv 5 (.t 24)]) (
 .seq (
 .reg [.mv 26 (.t 5),.cq 27 Z0J [(.t 26)],.mv 25 (.t 27),.ex 28 (.t 25) 0,.ex 29 (.t 25) 1,.mv 6 (.t 28),.mv 7 (.t 29)]) (
 .seq (
 .seq (
 .reg [.mv 30 (.t 7),.mv 31 (.t 5),.bi 32 .neq (.t 31) (.c (.str [])),.eb 33 true (.t 30) (.t 32),.mv 34 (.t 33),.g 34 false (.mv 35 (.t 7)),.g 34 false (.mv 36 (.t 35)),.g 36 true (.mv 37 (.t 6)),.g 36 true (.cq 38 ZP [(.t 37)]),.g 36 true (.mv 39 (.t 5)),.g 36 true (.bi 40 .neq (.t 38) (.t 39)),.g 34 false (.pk 41 (.t 36) (.t 40) (.c (.bool false))),.pk 42 (.t 34) (.c (.bool true)) (.t 41)]) (
 .cond (.t 42) (
  .seq (
  .reg [.mv 2 (.c (.bool false))]) (
  .ret)) (
  .skip))) (
 .seq (
 .reg [.mv 43 (.t 3),.mv 44 (.t 4),.cq 45 Z05 [(.t 43), (.t 44)],.mv 8 (.t 45)]) (
 .seq (
 .seq (
 .reg [.mv 46 (.t 8),.ln 47 (.t 46),.mv 48 (.t 3),.mv 49 (.t 4),.cq 50 Z1e [(.t 48), (.t 49)],.ln 51 (.t 50),.bi 52 .neq (.t 47) (.t 51)]) (
 .cond (.t 52) (
  .seq (
  .reg [.mv 2 (.c (.bool false))]) (
  .ret)) (
  .skip))) (
 .seq (
 .seq (
 .reg [.mv 53 (.t 8),.ln 54 (.t 53),.mv 55 (.c (.int .i64 0))]) (
 .blk 0 (
  .loop (
   .seq (
   .reg [.bi 56 .lss (.t 55) (.t 54)]) (
   .seq (
   .cond (.t 56) (
    .skip) (
    .exit 0)) (
   .seq (
   .blk 1 (
    .seq (
    .reg [.ia 57 (.t 53) (.t 55) 11,.ld 58 (.t 57) 11 true,.al 10 [.int .i64 0, .int .i64 0, .int .i64 0, .int .i64 0, .int .i64 0, .int .i64 0, .int .i64 0, .int .i64 0, .int .i64 0, .int .i64 0, .int .i64 0],.st (.t 10) (.t 58) 11]) (
    .seq (
    .reg [.mv 59 (.t 4),.ln 60 (.t 59),.mv 61 (.c (.int .i64 0))]) (
    .blk 2 (
     .loop (
      .seq (
      .reg [.bi 62 .lss (.t 61) (.t 60)]) (
      .seq (
      .cond (.t 62) (
       .skip) (
       .exit 2)) (
      .seq (
      .blk 3 (
       .seq (
       .reg [.ia 63 (.t 59) (.t 61) 3,.ld 64 (.t 63) 3 true,.al 12 [.str [], .str [], .int .i64 0],.st (.t 12) (.t 64) 3]) (
       .seq (
       .reg [.ld 65 (.t 12) 3 true,.ld 66 (.t 10) 11 true,.cq 67 Z1g [(.t 65), (.t 66)],.un 68 (.t 67)]) (
       .cond (.t 68) (
        .seq (
        .reg [.mv 2 (.c (.bool false))]) (
        .ret)) (
        .skip))))) (
      .reg [.bi 69 .add (.t 61) (.c (.int .i64 1)),.mv 61 (.t 69)]))))))))) (
   .reg [.bi 70 .add (.t 55) (.c (.int .i64 1)),.mv 55 (.t 70)]))))))) (
 .seq (
 .reg [.mv 71 (.t 3),.bd 72 [.str [], .str [], .int .i64 0] [(0, 1, (.c (.str [112, 114, 105, 111]))), (1, 1, (.c (.str [61]))), (2, 1, (.c (.int .i64 1)))],.bs 73 3 [(.t 72)] false,.cq 74 Z05 [(.t 71), (.t 73)],.mv 13 (.t 74)]) (
 .seq (
 .reg [.mv 75 (.t 3),.bd 76 [.str [], .str [], .int .i64 0] [(0, 1, (.c (.str [112, 114, 105, 111]))), (1, 1, (.c (.str [33]))), (2, 1, (.c (.int .i64 1)))],.bs 77 3 [(.t 76)] false,.cq 78 Z05 [(.t 75), (.t 77)],.mv 14 (.t 78)]) (
 .seq (
 .reg [.mv 79 (.t 3),.cq 80 Z0a [(.t 79)],.un 81 (.t 80),.mv 82 (.t 81),.g 82 true (.mv 83 (.t 13)),.g 82 true (.ln 84 (.t 83)),.g 82 true (.mv 85 (.t 14)),.g 82 true (.ln 86 (.t 85)),.g 82 true (.bi 87 .add (.t 84) (.t 86)),.g 82 true (.bi 88 .eql (.t 87) (.c (.int .i64 0))),.pk 89 (.t 82) (.t 88) (.c (.bool false)),.mv 90 (.t 89),.g 90 false (.mv 91 (.t 13)),.g 90 false (.ln 92 (.t 91)),.g 90 false (.mv 93 (.t 14)),.g 90 false (.ln 94 (.t 93)),.g 90 false (.bi 95 .add (.t 92) (.t 94)),.g 90 false (.mv 96 (.t 3)),.g 90 false (.ln 97 (.t 96)),.g 90 false (.bi 98 .eql (.t 95) (.t 97)),.pk 99 (.t 90) (.c (.bool true)) (.t 98),.mv 2 (.t 99)]) (
 .ret))))))))))))
def Z32 : List Rv := [.t 2]
theorem Z61 : chkFn Try.prog Z0y 1 Z3h Z32 = true := by kernel_rfl
set_option maxRecDepth 10000 in
set_option maxHeartbeats 1000000 in
theorem FnAsk_c (bs : List Int) : Snd Try.prog Z0y [.sl .rd 1 (bs.map eB)] (.bool true) [] := by
 refine Zo Z61 rfl (by simp) (den_W ?_)
 unfold Z3h Z32
 by_cases hl : (1048576 : Int) < bs.length
 .simp [hl]
 simp [hl]
 intro _
 refine do_cm [] [] (Z6a bs (by omega)) rfl (by simp) (by simp) (by simp) ?_
 rintro _ _ _ _ _ _ _ ⟨l, q, hl8, hq, rfl, rfl, rfl, rfl⟩
 simp
 have hal := ask_len2 q
 refine do_cq (Z0q q) (by simp [St.args]) ?_
 simp
 apply share (I := fun s => s.e 3 = .sref 21000 /\ s.rw 21000 = some ⟨11, l.map eJob, false⟩ /\ s.e 4 = .sref 21001 /\ s.rw 21001 = some ⟨3, q.map eTerm, false⟩ /\ s.e 43 = .sref 21000 /\ s.e 44 = .sref 21001)
 .intro rest
  refine do_cq (Z4C (ZG q) (by omega)) (by simp [St.args]) ?_
  by_cases hs : ZG q = []
  .simp [hs, ask_none]
   exact cutW _ (by simp) rest
  .simp [hs, ask_back q hs]
   refine do_cq (Z0q q) (by simp [St.args]) ?_
   simp
   exact cutW _ (by simp) rest
 rintro s ⟨e3, er, e4, eq, e43, e44⟩
 have hsl := Z6P l q
 refine do_cq (Z0E l q (by omega)) (by simp [St.args, e43, er, e44, eq]) ?_
 simp [e3, e4]
 intro hsm
 refine do_cq (Z51 l q (by omega)) (by simp [St.args, er, eq]) ?_
 simp
 intro _
 refine W_rng (sel l q).length (fun i s => s.e 3 = .sref 21000 /\ s.rw 21000 = some ⟨11, l.map eJob, false⟩ /\ s.e 4 = .sref 21001 /\ s.rw 21001 = some ⟨3, q.map eTerm, false⟩ /\ s.e 53 = .sl .nw 11 ((sel l q).map eJob) /\ s.e 54 = .int .i64 (sel l q).length /\ s.e 55 = .int .i64 (i : Nat)) ?_ ?_
 .simp [e3, er, e4, eq]
 clear e3 er e4 eq e43 e44 s
 rintro i s hi ⟨e3, er, e4, eq, e53, e54, e55⟩
 by_cases h : i < (sel l q).length
 .simp [e4, eq, e53, e54, e55, h]
  intro _
  refine W_rng q.length (fun k s => s.e 3 = .sref 21000 /\ s.rw 21000 = some ⟨11, l.map eJob, false⟩ /\ s.e 4 = .sref 21001 /\ s.rw 21001 = some ⟨3, q.map eTerm, false⟩ /\ s.e 53 = .sl .nw 11 ((sel l q).map eJob) /\ s.e 54 = .int .i64 (sel l q).length /\ s.e 55 = .int .i64 (i : Nat) /\
   s.e 10 = .ptr 10 0 /\ s.bx 10 = some (eJob (sel l q)[i]).cells /\ s.e 59 = .sref 21001 /\ s.e 60 = .int .i64 q.length /\ s.e 61 = .int .i64 (k : Nat)) ?_ ?_
  .simp [e3, er, e4, eq, e53, e54, e55]
  clear e3 er e4 eq e53 e54 e55 s
  rintro k s hk ⟨e3, er, e4, eq, e53, e54, e55, e10, eb, e59, e60, e61⟩
  by_cases h' : k < q.length
  .simp [eq, e10, eb, e59, e60, e61, h']
   refine do_cq (Z42 q[k] (sel l q)[i]) (by simp [St.args]) ?_
   simp [sel_goes (List.getElem_mem h) (List.getElem_mem h'), e61]
   refine Zu h' ?_
   simp [e3, er, e4, eq, e53, e54, e55, e10, eb, e59, e60, Zb h' (by omega : q.length <= 9223372036854775807)]
  .have : k = q.length := by omega
   subst this
   simp [e55, e60, e61]
   refine Zu h ?_
   simp [e3, er, e4, eq, e53, e54, Zb h (by omega : (sel l q).length <= 9223372036854775807)]
 have : i = (sel l q).length := by omega
 subst this
 simp [e3, e54, e55]
 refine do_cq (Z0E l [termA] (by omega)) (by simp [St.args, er, termA]) ?_
 simp [e3]
 refine do_cq (Z0E l [termB] (by omega)) (by simp [St.args, er, termB]) ?_
 simp [e3]
 refine do_cq (Z1t l) (by simp [St.args, er]) ?_
 have hA := Z6P l [termA]
 have hB := Z6P l [termB]
 rcases sel_sum l with ⟨h1, h2, h3⟩ | ⟨h1, h2⟩
 .have w0 : IntKind.i64.wrap 0 = 0 := by decide
  simp [h1, h2, h3, w0]
 .have ew : IntKind.i64.wrap (((sel l [termA]).length : Int) + ((sel l [termB]).length : Int)) = l.length := by
   rw [Zi (by omega) (by omega)]; omega
  simp [h1, e3, er, ew]
theorem FnAsk_ok (xs : List AV) (h : okVs [.sl (.int .u8)] xs) : Snd Try.prog Z0y xs (.bool true) [] := by
 obtain ⟨a, _, rfl, ha, rfl⟩ := h
 obtain ⟨l, ha⟩ := bytes_of ha
 exact (FnAsk_c l).wk ⟨ha, trivial⟩
end Go.Proofs.Ytjphbnaepdcikaa
