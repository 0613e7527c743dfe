/-
  Lemmas, part 8: the engine that steps through the code, the walks of functions, and the laws of what they compute.
-/
import Derived.Test.YtndemhaoilhbbaaDA7
import Derived.Test.YtndemhaoilhbbaaChecked
namespace Go.Proofs.Ytndemhaoilhbbaa
open Go Go.RowKit Eng
def kB (k b : Int) : Int -> Prop := fun j => k <= j /\ j <= k + b
def Z43 : L :=
 .seq (
 .reg [.mv 4 (.c (.int .i64 0))]) (
 .seq (
 .seq (
 .reg [.mv 5 (.c (.int .i64 0))]) (
 .blk 0 (
  .loop (
   .seq (
   .seq (
   .reg [.mv 6 (.t 5),.mv 7 (.t 0),.oln 8 (.t 7),.bi 9 .lss (.t 6) (.t 8)]) (
   .cond (.t 9) (
    .skip) (
    .exit 0))) (
   .seq (
   .blk 1 (
    .seq (
    .reg [.mv 12 (.t 0),.mv 13 (.t 5),.mv 14 (.t 1),.oia 15 (.t 12) (.t 13) 1,.ost (.t 15) (.t 14)]) (
    .reg [.mv 16 (.t 1),.bi 17 .add (.t 16) (.c (.int .i64 1)),.mv 1 (.t 17)]))) (
   .reg [.mv 10 (.t 5),.bi 11 .add (.t 10) (.c (.int .i64 1)),.mv 5 (.t 11)])))))) (
 .seq (
 .reg [.mv 18 (.t 1),.mv 4 (.t 18)]) (
 .ret)))
def ZR2 : List Rv := [.t 4]
theorem Z76 : chkFn Try.prog Zh 2 Z43 ZR2 = true := by kernel_rfl
set_option maxRecDepth 10000 in
theorem Zk6 (n : Nat) (hn : n <= 1048576) (k : Int) (h0 : 0 <= k) (h1 : k <= 2251799813685248) :
  Hav Try.prog Zh [.od 0 [.i .i64] n, .int .i64 k] (kB k (1 * n)) := by
 refine Z93 Z76 rfl (den_W ?_)
 unfold Z43 ZR2
 simp
 refine Z62 (fun m s => ∃ (i : Nat) (j : Int), m = n - i /\ i <= n /\ k <= j /\ j <= k + 1 * i /\ s.e 0 = .od 0 [.i .i64] n /\ s.e 1 = .int .i64 j /\ s.e 5 = .int .i64 (i : Nat) /\ s.my 0 /\ s.kn 0) n ?_ ?_
 .exact ⟨0, k, by simp⟩
 .rintro m s ⟨i, j, rfl, hi, hj0, hj1, e0, e1, e5, hm, hk⟩
  by_cases h : i < n
  .have hw : ∀ q : Int, 0 <= q -> q <= 4611686018427387904 -> IntKind.i64.wrap q = q := fun q h0 h1 => Zw (by omega) (by omega)
   simp [e0, e1, e5, h, hm, hk, hw (j + 1) (by omega) (by omega)]
   exact ⟨n - (i + 1), by omega, i + 1, rfl, by omega, j + 1, by omega, by simp; omega, rfl, by rw [hw _ (by omega) (by omega)]; simp⟩
  .have : i = n := by omega
   subst this
   simp [e0, e1, e5, kB, postH]
   omega
def Zu2 : L :=
 .seq (
 .reg [.mv 4 (.c (.int .i64 0))]) (
 .seq (
 .seq (
 .reg [.mv 5 (.c (.int .i64 0))]) (
 .blk 0 (
  .loop (
   .seq (
   .seq (
   .reg [.mv 6 (.t 5),.mv 7 (.t 0),.oln 8 (.t 7),.bi 9 .lss (.t 6) (.t 8)]) (
   .cond (.t 9) (
    .skip) (
    .exit 0))) (
   .seq (
   .blk 1 (
    .seq (
    .reg [.mv 12 (.t 0),.mv 13 (.t 5),.mv 14 (.t 1),.oia 15 (.t 12) (.t 13) 4,.ofa 16 (.t 15) 0,.ost (.t 16) (.t 14)]) (
    .seq (
    .reg [.mv 17 (.t 1),.bi 18 .add (.t 17) (.c (.int .i64 1)),.mv 1 (.t 18)]) (
    .seq (
    .reg [.mv 19 (.t 0),.mv 20 (.t 5),.mv 21 (.t 1),.oia 22 (.t 19) (.t 20) 4,.ofa 23 (.t 22) 1,.ofa 24 (.t 23) 0,.ost (.t 24) (.t 21)]) (
    .seq (
    .reg [.mv 25 (.t 1),.bi 26 .add (.t 25) (.c (.int .i64 1)),.mv 1 (.t 26)]) (
    .seq (
    .reg [.mv 27 (.t 0),.mv 28 (.t 5),.mv 29 (.t 1),.oia 30 (.t 27) (.t 28) 4,.ofa 31 (.t 30) 1,.ofa 32 (.t 31) 1,.ost (.t 32) (.t 29)]) (
    .seq (
    .reg [.mv 33 (.t 1),.bi 34 .add (.t 33) (.c (.int .i64 1)),.mv 1 (.t 34)]) (
    .seq (
    .reg [.mv 35 (.t 0),.mv 36 (.t 5),.mv 37 (.t 1),.oia 38 (.t 35) (.t 36) 4,.ofa 39 (.t 38) 1,.ofa 40 (.t 39) 2,.ost (.t 40) (.t 37)]) (
    .reg [.mv 41 (.t 1),.bi 42 .add (.t 41) (.c (.int .i64 1)),.mv 1 (.t 42)]))))))))) (
   .reg [.mv 10 (.t 5),.bi 11 .add (.t 10) (.c (.int .i64 1)),.mv 5 (.t 11)])))))) (
 .seq (
 .reg [.mv 43 (.t 1),.mv 4 (.t 43)]) (
 .ret)))
def Zf2 : List Rv := [.t 4]
theorem Zh5 : chkFn Try.prog ZM1 2 Zu2 Zf2 = true := by kernel_rfl
set_option maxRecDepth 10000 in
theorem ZS9 (n : Nat) (hn : n <= 1048576) (k : Int) (h0 : 0 <= k) (h1 : k <= 2251799813685248) :
  Hav Try.prog ZM1 [.od 0 [.i .i64, .i .i64, .i .i64, .i .i64] n, .int .i64 k] (kB k (4 * n)) := by
 refine Z93 Zh5 rfl (den_W ?_)
 unfold Zu2 Zf2
 simp
 refine Z62 (fun m s => ∃ (i : Nat) (j : Int), m = n - i /\ i <= n /\ k <= j /\ j <= k + 4 * i /\ s.e 0 = .od 0 [.i .i64, .i .i64, .i .i64, .i .i64] n /\ s.e 1 = .int .i64 j /\ s.e 5 = .int .i64 (i : Nat) /\ s.my 0 /\ s.kn 0) n ?_ ?_
 .exact ⟨0, k, by simp⟩
 .rintro m s ⟨i, j, rfl, hi, hj0, hj1, e0, e1, e5, hm, hk⟩
  by_cases h : i < n
  .have hw : ∀ q : Int, 0 <= q -> q <= 4611686018427387904 -> IntKind.i64.wrap q = q := fun q h0 h1 => Zw (by omega) (by omega)
   simp [e0, e1, e5, h, hm, hk, hw (j + 1) (by omega) (by omega), hw (j + 1 + 1) (by omega) (by omega), hw (j + 1 + 1 + 1) (by omega) (by omega), hw (j + 1 + 1 + 1 + 1) (by omega) (by omega)]
   exact ⟨n - (i + 1), by omega, i + 1, rfl, by omega, j + 1 + 1 + 1 + 1, by omega, by simp; omega, rfl, by rw [hw _ (by omega) (by omega)]; simp⟩
  .have : i = n := by omega
   subst this
   simp [e0, e1, e5, kB, postH]
   omega
def Zv2 : L :=
 .seq (
 .reg [.mv 4 (.c (.int .i64 0))]) (
 .seq (
 .seq (
 .reg [.mv 5 (.c (.int .i64 0))]) (
 .blk 0 (
  .loop (
   .seq (
   .seq (
   .reg [.mv 6 (.t 5),.mv 7 (.t 0),.oln 8 (.t 7),.bi 9 .lss (.t 6) (.t 8)]) (
   .cond (.t 9) (
    .skip) (
    .exit 0))) (
   .seq (
   .blk 1 (
    .seq (
    .reg [.mv 12 (.t 0),.mv 13 (.t 5),.mv 14 (.t 1),.bi 15 .rem (.t 14) (.c (.int .i64 3)),.bi 16 .eql (.t 15) (.c (.int .i64 0)),.oia 17 (.t 12) (.t 13) 1,.ost (.t 17) (.t 16)]) (
    .reg [.mv 18 (.t 1),.bi 19 .add (.t 18) (.c (.int .i64 1)),.mv 1 (.t 19)]))) (
   .reg [.mv 10 (.t 5),.bi 11 .add (.t 10) (.c (.int .i64 1)),.mv 5 (.t 11)])))))) (
 .seq (
 .reg [.mv 20 (.t 1),.mv 4 (.t 20)]) (
 .ret)))
def Zg2 : List Rv := [.t 4]
theorem Zi5 : chkFn Try.prog ZN1 2 Zv2 Zg2 = true := by kernel_rfl
set_option maxRecDepth 10000 in
theorem ZT9 (n : Nat) (hn : n <= 1048576) (k : Int) (h0 : 0 <= k) (h1 : k <= 2251799813685248) :
  Hav Try.prog ZN1 [.od 0 [.b] n, .int .i64 k] (kB k (1 * n)) := by
 refine Z93 Zi5 rfl (den_W ?_)
 unfold Zv2 Zg2
 simp
 refine Z62 (fun m s => ∃ (i : Nat) (j : Int), m = n - i /\ i <= n /\ k <= j /\ j <= k + 1 * i /\ s.e 0 = .od 0 [.b] n /\ s.e 1 = .int .i64 j /\ s.e 5 = .int .i64 (i : Nat) /\ s.my 0 /\ s.kn 0) n ?_ ?_
 .exact ⟨0, k, by simp⟩
 .rintro m s ⟨i, j, rfl, hi, hj0, hj1, e0, e1, e5, hm, hk⟩
  by_cases h : i < n
  .have hw : ∀ q : Int, 0 <= q -> q <= 4611686018427387904 -> IntKind.i64.wrap q = q := fun q h0 h1 => Zw (by omega) (by omega)
   simp [e0, e1, e5, h, hm, hk, hw (j + 1) (by omega) (by omega)]
   exact ⟨n - (i + 1), by omega, i + 1, rfl, by omega, j + 1, by omega, by simp; omega, rfl, by rw [hw _ (by omega) (by omega)]; simp⟩
  .have : i = n := by omega
   subst this
   simp [e0, e1, e5, kB, postH]
   omega
def Z23 : L :=
 .seq (
 .reg [.mv 4 (.c (.int .i64 0))]) (
 .seq (
 .seq (
 .reg [.mv 5 (.c (.int .i64 0))]) (
 .blk 0 (
  .loop (
   .seq (
   .seq (
   .reg [.mv 6 (.t 5),.mv 7 (.t 0),.oln 8 (.t 7),.bi 9 .lss (.t 6) (.t 8)]) (
   .cond (.t 9) (
    .skip) (
    .exit 0))) (
   .seq (
   .blk 1 (
    .seq (
    .reg [.mv 12 (.t 0),.mv 13 (.t 5),.mv 14 (.t 1),.oia 15 (.t 12) (.t 13) 11,.ofa 16 (.t 15) 0,.ost (.t 16) (.t 14)]) (
    .seq (
    .reg [.mv 17 (.t 1),.bi 18 .add (.t 17) (.c (.int .i64 1)),.mv 1 (.t 18)]) (
    .seq (
    .reg [.mv 19 (.t 0),.mv 20 (.t 5),.mv 21 (.t 1),.oia 22 (.t 19) (.t 20) 11,.ofa 23 (.t 22) 1,.ost (.t 23) (.t 21)]) (
    .seq (
    .reg [.mv 24 (.t 1),.bi 25 .add (.t 24) (.c (.int .i64 1)),.mv 1 (.t 25)]) (
    .seq (
    .reg [.mv 26 (.t 0),.mv 27 (.t 5),.mv 28 (.t 1),.oia 29 (.t 26) (.t 27) 11,.ofa 30 (.t 29) 2,.ost (.t 30) (.t 28)]) (
    .seq (
    .reg [.mv 31 (.t 1),.bi 32 .add (.t 31) (.c (.int .i64 1)),.mv 1 (.t 32)]) (
    .seq (
    .reg [.mv 33 (.t 0),.mv 34 (.t 5),.mv 35 (.t 1),.oia 36 (.t 33) (.t 34) 11,.ofa 37 (.t 36) 3,.ofa 38 (.t 37) 0,.ost (.t 38) (.t 35)]) (
    .seq (
    .reg [.mv 39 (.t 1),.bi 40 .add (.t 39) (.c (.int .i64 1)),.mv 1 (.t 40)]) (
    .seq (
    .reg [.mv 41 (.t 0),.mv 42 (.t 5),.mv 43 (.t 1),.oia 44 (.t 41) (.t 42) 11,.ofa 45 (.t 44) 3,.ofa 46 (.t 45) 1,.ost (.t 46) (.t 43)]) (
    .seq (
    .reg [.mv 47 (.t 1),.bi 48 .add (.t 47) (.c (.int .i64 1)),.mv 1 (.t 48)]) (
    .seq (
    .reg [.mv 49 (.t 0),.mv 50 (.t 5),.mv 51 (.t 1),.oia 52 (.t 49) (.t 50) 11,.ofa 53 (.t 52) 3,.ofa 54 (.t 53) 2,.ost (.t 54) (.t 51)]) (
    .seq (
    .reg [.mv 55 (.t 1),.bi 56 .add (.t 55) (.c (.int .i64 1)),.mv 1 (.t 56)]) (
    .seq (
    .reg [.mv 57 (.t 0),.mv 58 (.t 5),.mv 59 (.t 1),.oia 60 (.t 57) (.t 58) 11,.ofa 61 (.t 60) 6,.ofa 62 (.t 61) 0,.ost (.t 62) (.t 59)]) (
    .seq (
    .reg [.mv 63 (.t 1),.bi 64 .add (.t 63) (.c (.int .i64 1)),.mv 1 (.t 64)]) (
    .seq (
    .reg [.mv 65 (.t 0),.mv 66 (.t 5),.mv 67 (.t 1),.oia 68 (.t 65) (.t 66) 11,.ofa 69 (.t 68) 6,.ofa 70 (.t 69) 1,.ost (.t 70) (.t 67)]) (
    .seq (
    .reg [.mv 71 (.t 1),.bi 72 .add (.t 71) (.c (.int .i64 1)),.mv 1 (.t 72)]) (
    .seq (
    .reg [.mv 73 (.t 0),.mv 74 (.t 5),.mv 75 (.t 1),.oia 76 (.t 73) (.t 74) 11,.ofa 77 (.t 76) 6,.ofa 78 (.t 77) 2,.ost (.t 78) (.t 75)]) (
    .seq (
    .reg [.mv 79 (.t 1),.bi 80 .add (.t 79) (.c (.int .i64 1)),.mv 1 (.t 80)]) (
    .seq (
    .reg [.mv 81 (.t 0),.mv 82 (.t 5),.mv 83 (.t 1),.oia 84 (.t 81) (.t 82) 11,.ofa 85 (.t 84) 9,.ost (.t 85) (.t 83)]) (
    .seq (
    .reg [.mv 86 (.t 1),.bi 87 .add (.t 86) (.c (.int .i64 1)),.mv 1 (.t 87)]) (
    .seq (
    .reg [.mv 88 (.t 0),.mv 89 (.t 5),.mv 90 (.t 1),.oia 91 (.t 88) (.t 89) 11,.ofa 92 (.t 91) 10,.ost (.t 92) (.t 90)]) (
    .reg [.mv 93 (.t 1),.bi 94 .add (.t 93) (.c (.int .i64 1)),.mv 1 (.t 94)]))))))))))))))))))))))) (
   .reg [.mv 10 (.t 5),.bi 11 .add (.t 10) (.c (.int .i64 1)),.mv 5 (.t 11)])))))) (
 .seq (
 .reg [.mv 95 (.t 1),.mv 4 (.t 95)]) (
 .ret)))
def ZP2 : List Rv := [.t 4]
theorem Z56 : chkFn Try.prog Z92 2 Z23 ZP2 = true := by kernel_rfl
set_option maxRecDepth 10000 in
theorem ZRa (n : Nat) (hn : n <= 1048576) (k : Int) (h0 : 0 <= k) (h1 : k <= 2251799813685248) :
  Hav Try.prog Z92 [.od 0 [.i .i64, .i .i64, .i .i64, .i .i64, .i .i64, .i .i64, .i .i64, .i .i64, .i .i64, .i .i64, .i .i64] n, .int .i64 k] (kB k (11 * n)) := by
 refine Z93 Z56 rfl (den_W ?_)
 unfold Z23 ZP2
 simp
 refine Z62 (fun m s => ∃ (i : Nat) (j : Int), m = n - i /\ i <= n /\ k <= j /\ j <= k + 11 * i /\ s.e 0 = .od 0 [.i .i64, .i .i64, .i .i64, .i .i64, .i .i64, .i .i64, .i .i64, .i .i64, .i .i64, .i .i64, .i .i64] n /\ s.e 1 = .int .i64 j /\ s.e 5 = .int .i64 (i : Nat) /\ s.my 0 /\ s.kn 0) n ?_ ?_
 .exact ⟨0, k, by simp⟩
 .rintro m s ⟨i, j, rfl, hi, hj0, hj1, e0, e1, e5, hm, hk⟩
  by_cases h : i < n
  .have hw : ∀ q : Int, 0 <= q -> q <= 4611686018427387904 -> IntKind.i64.wrap q = q := fun q h0 h1 => Zw (by omega) (by omega)
   simp [e0, e1, e5, h, hm, hk, hw (j + 1) (by omega) (by omega), hw (j + 1 + 1) (by omega) (by omega), hw (j + 1 + 1 + 1) (by omega) (by omega), hw (j + 1 + 1 + 1 + 1) (by omega) (by omega), hw (j + 1 + 1 + 1 + 1 + 1) (by omega) (by omega), hw (j + 1 + 1 + 1 + 1 + 1 + 1) (by omega) (by omega), hw (j + 1 + 1 + 1 + 1 + 1 + 1 + 1) (by omega) (by omega), hw (j + 1 + 1 + 1 + 1 + 1 + 1 + 1 + 1) (by omega) (by omega), hw (j + 1 + 1 + 1 + 1 + 1 + 1 + 1 + 1 + 1) (by omega) (by omega), hw (j + 1 + 1 + 1 + 1 + 1 + 1 + 1 + 1 + 1 + 1) (by omega) (by omega), hw (j + 1 + 1 + 1 + 1 + 1 + 1 + 1 + 1 + 1 + 1 + 1) (by omega) (by omega)]
   exact ⟨n - (i + 1), by omega, i + 1, rfl, by omega, j + 1 + 1 + 1 + 1 + 1 + 1 + 1 + 1 + 1 + 1 + 1, by omega, by simp; omega, rfl, by rw [hw _ (by omega) (by omega)]; simp⟩
  .have : i = n := by omega
   subst this
   simp [e0, e1, e5, kB, postH]
   omega
def Z53 : L :=
 .seq (
 .reg [.mv 4 (.c (.int .i64 0))]) (
 .seq (
 .seq (
 .reg [.mv 5 (.c (.int .i64 0))]) (
 .blk 0 (
  .loop (
   .seq (
   .seq (
   .reg [.mv 6 (.t 5),.mv 7 (.t 0),.oln 8 (.t 7),.bi 9 .lss (.t 6) (.t 8)]) (
   .cond (.t 9) (
    .skip) (
    .exit 0))) (
   .seq (
   .blk 1 (
    .seq (
    .reg [.mv 12 (.t 0),.mv 13 (.t 5),.mv 14 (.t 1),.oia 15 (.t 12) (.t 13) 3,.ofa 16 (.t 15) 0,.ost (.t 16) (.t 14)]) (
    .seq (
    .reg [.mv 17 (.t 1),.bi 18 .add (.t 17) (.c (.int .i64 1)),.mv 1 (.t 18)]) (
    .seq (
    .reg [.mv 19 (.t 0),.mv 20 (.t 5),.mv 21 (.t 1),.oia 22 (.t 19) (.t 20) 3,.ofa 23 (.t 22) 1,.ost (.t 23) (.t 21)]) (
    .seq (
    .reg [.mv 24 (.t 1),.bi 25 .add (.t 24) (.c (.int .i64 1)),.mv 1 (.t 25)]) (
    .seq (
    .reg [.mv 26 (.t 0),.mv 27 (.t 5),.mv 28 (.t 1),.oia 29 (.t 26) (.t 27) 3,.ofa 30 (.t 29) 2,.ost (.t 30) (.t 28)]) (
    .reg [.mv 31 (.t 1),.bi 32 .add (.t 31) (.c (.int .i64 1)),.mv 1 (.t 32)]))))))) (
   .reg [.mv 10 (.t 5),.bi 11 .add (.t 10) (.c (.int .i64 1)),.mv 5 (.t 11)])))))) (
 .seq (
 .reg [.mv 33 (.t 1),.mv 4 (.t 33)]) (
 .ret)))
def ZS2 : List Rv := [.t 4]
theorem Z86 : chkFn Try.prog Za2 2 Z53 ZS2 = true := by kernel_rfl
set_option maxRecDepth 10000 in
theorem ZSa (n : Nat) (hn : n <= 1048576) (k : Int) (h0 : 0 <= k) (h1 : k <= 2251799813685248) :
  Hav Try.prog Za2 [.od 0 [.i .i64, .i .i64, .i .i64] n, .int .i64 k] (kB k (3 * n)) := by
 refine Z93 Z86 rfl (den_W ?_)
 unfold Z53 ZS2
 simp
 refine Z62 (fun m s => ∃ (i : Nat) (j : Int), m = n - i /\ i <= n /\ k <= j /\ j <= k + 3 * i /\ s.e 0 = .od 0 [.i .i64, .i .i64, .i .i64] n /\ s.e 1 = .int .i64 j /\ s.e 5 = .int .i64 (i : Nat) /\ s.my 0 /\ s.kn 0) n ?_ ?_
 .exact ⟨0, k, by simp⟩
 .rintro m s ⟨i, j, rfl, hi, hj0, hj1, e0, e1, e5, hm, hk⟩
  by_cases h : i < n
  .have hw : ∀ q : Int, 0 <= q -> q <= 4611686018427387904 -> IntKind.i64.wrap q = q := fun q h0 h1 => Zw (by omega) (by omega)
   simp [e0, e1, e5, h, hm, hk, hw (j + 1) (by omega) (by omega), hw (j + 1 + 1) (by omega) (by omega), hw (j + 1 + 1 + 1) (by omega) (by omega)]
   exact ⟨n - (i + 1), by omega, i + 1, rfl, by omega, j + 1 + 1 + 1, by omega, by simp; omega, rfl, by rw [hw _ (by omega) (by omega)]; simp⟩
  .have : i = n := by omega
   subst this
   simp [e0, e1, e5, kB, postH]
   omega
def Z73 : L :=
 .seq (
 .reg [.mv 4 (.c (.int .i64 0))]) (
 .seq (
 .seq (
 .reg [.mv 5 (.c (.int .i64 0))]) (
 .blk 0 (
  .loop (
   .seq (
   .seq (
   .reg [.mv 6 (.t 5),.mv 7 (.t 0),.oln 8 (.t 7),.bi 9 .lss (.t 6) (.t 8)]) (
   .cond (.t 9) (
    .skip) (
    .exit 0))) (
   .seq (
   .blk 1 (
    .seq (
    .reg [.mv 12 (.t 0),.mv 13 (.t 5),.mv 14 (.t 1),.oia 15 (.t 12) (.t 13) 2,.ofa 16 (.t 15) 0,.ost (.t 16) (.t 14)]) (
    .seq (
    .reg [.mv 17 (.t 1),.bi 18 .add (.t 17) (.c (.int .i64 1)),.mv 1 (.t 18)]) (
    .seq (
    .reg [.mv 19 (.t 0),.mv 20 (.t 5),.mv 21 (.t 1),.oia 22 (.t 19) (.t 20) 2,.ofa 23 (.t 22) 1,.ost (.t 23) (.t 21)]) (
    .reg [.mv 24 (.t 1),.bi 25 .add (.t 24) (.c (.int .i64 1)),.mv 1 (.t 25)]))))) (
   .reg [.mv 10 (.t 5),.bi 11 .add (.t 10) (.c (.int .i64 1)),.mv 5 (.t 11)])))))) (
 .seq (
 .reg [.mv 26 (.t 1),.mv 4 (.t 26)]) (
 .ret)))
def ZU2 : List Rv := [.t 4]
theorem Za6 : chkFn Try.prog Zb2 2 Z73 ZU2 = true := by kernel_rfl
set_option maxRecDepth 10000 in
theorem ZUa (n : Nat) (hn : n <= 1048576) (k : Int) (h0 : 0 <= k) (h1 : k <= 2251799813685248) :
  Hav Try.prog Zb2 [.od 0 [.i .i64, .i .i64] n, .int .i64 k] (kB k (2 * n)) := by
 refine Z93 Za6 rfl (den_W ?_)
 unfold Z73 ZU2
 simp
 refine Z62 (fun m s => ∃ (i : Nat) (j : Int), m = n - i /\ i <= n /\ k <= j /\ j <= k + 2 * i /\ s.e 0 = .od 0 [.i .i64, .i .i64] n /\ s.e 1 = .int .i64 j /\ s.e 5 = .int .i64 (i : Nat) /\ s.my 0 /\ s.kn 0) n ?_ ?_
 .exact ⟨0, k, by simp⟩
 .rintro m s ⟨i, j, rfl, hi, hj0, hj1, e0, e1, e5, hm, hk⟩
  by_cases h : i < n
  .have hw : ∀ q : Int, 0 <= q -> q <= 4611686018427387904 -> IntKind.i64.wrap q = q := fun q h0 h1 => Zw (by omega) (by omega)
   simp [e0, e1, e5, h, hm, hk, hw (j + 1) (by omega) (by omega), hw (j + 1 + 1) (by omega) (by omega)]
   exact ⟨n - (i + 1), by omega, i + 1, rfl, by omega, j + 1 + 1, by omega, by simp; omega, rfl, by rw [hw _ (by omega) (by omega)]; simp⟩
  .have : i = n := by omega
   subst this
   simp [e0, e1, e5, kB, postH]
   omega
def ZE1 : L :=
 .seq (
 .reg [.mv 4 (.c (.int .i64 0))]) (
 .seq (
 .seq (
 .reg [.mv 5 (.c (.int .i64 0))]) (
 .blk 0 (
  .loop (
   .seq (
   .seq (
   .reg [.mv 6 (.t 5),.mv 7 (.t 0),.oln 8 (.t 7),.bi 9 .lss (.t 6) (.t 8)]) (
   .cond (.t 9) (
    .skip) (
    .exit 0))) (
   .seq (
   .blk 1 (
    .seq (
    .reg [.mv 12 (.t 0),.mv 13 (.t 5),.mv 14 (.t 1),.cq 15 ZD [(.t 14)],.oia 16 (.t 12) (.t 13) 3,.ofa 17 (.t 16) 0,.ost (.t 17) (.t 15)]) (
    .seq (
    .reg [.mv 18 (.t 1),.bi 19 .add (.t 18) (.c (.int .i64 1)),.mv 1 (.t 19)]) (
    .seq (
    .reg [.mv 20 (.t 0),.mv 21 (.t 5),.mv 22 (.t 1),.oia 23 (.t 20) (.t 21) 3,.ofa 24 (.t 23) 1,.ost (.t 24) (.t 22)]) (
    .seq (
    .reg [.mv 25 (.t 1),.bi 26 .add (.t 25) (.c (.int .i64 1)),.mv 1 (.t 26)]) (
    .seq (
    .reg [.mv 27 (.t 0),.mv 28 (.t 5),.mv 29 (.t 1),.oia 30 (.t 27) (.t 28) 3,.ofa 31 (.t 30) 2,.ost (.t 31) (.t 29)]) (
    .reg [.mv 32 (.t 1),.bi 33 .add (.t 32) (.c (.int .i64 1)),.mv 1 (.t 33)]))))))) (
   .reg [.mv 10 (.t 5),.bi 11 .add (.t 10) (.c (.int .i64 1)),.mv 5 (.t 11)])))))) (
 .seq (
 .reg [.mv 34 (.t 1),.mv 4 (.t 34)]) (
 .ret)))
def ZB1 : List Rv := [.t 4]
theorem ZU3 : chkFn Try.prog ZZ 2 ZE1 ZB1 = true := by kernel_rfl
set_option maxRecDepth 10000 in
theorem Zr6 (n : Nat) (hn : n <= 1048576) (k : Int) (h0 : 0 <= k) (h1 : k <= 2251799813685248) :
  Hav Try.prog ZZ [.od 0 [.s, .i .i64, .i .i64] n, .int .i64 k] (kB k (3 * n)) := by
 refine Z93 ZU3 rfl (den_W ?_)
 unfold ZE1 ZB1
 simp
 refine Z62 (fun m s => ∃ (i : Nat) (j : Int), m = n - i /\ i <= n /\ k <= j /\ j <= k + 3 * i /\ s.e 0 = .od 0 [.s, .i .i64, .i .i64] n /\ s.e 1 = .int .i64 j /\ s.e 5 = .int .i64 (i : Nat) /\ s.my 0 /\ s.kn 0) n ?_ ?_
 .exact ⟨0, k, by simp⟩
 .rintro m s ⟨i, j, rfl, hi, hj0, hj1, e0, e1, e5, hm, hk⟩
  by_cases h : i < n
  .have hw : ∀ q : Int, 0 <= q -> q <= 4611686018427387904 -> IntKind.i64.wrap q = q := fun q h0 h1 => Zw (by omega) (by omega)
   simp [e0, e1, e5, h]
   refine do_cq (ZE4 j (by omega) (by omega)) (by simp [St.args]) ?_
   simp [e0, e1, e5, h, hm, hk, hw (j + 1) (by omega) (by omega), hw (j + 1 + 1) (by omega) (by omega), hw (j + 1 + 1 + 1) (by omega) (by omega)]
   exact ⟨n - (i + 1), by omega, i + 1, rfl, by omega, j + 1 + 1 + 1, by omega, by simp; omega, rfl, by rw [hw _ (by omega) (by omega)]; simp⟩
  .have : i = n := by omega
   subst this
   simp [e0, e1, e5, kB, postH]
   omega
def Z32 : L :=
 .seq (
 .reg [.mv 4 (.c (.int .i64 0))]) (
 .seq (
 .seq (
 .reg [.mv 5 (.c (.int .i64 0))]) (
 .blk 0 (
  .loop (
   .seq (
   .seq (
   .reg [.mv 6 (.t 5),.mv 7 (.t 0),.oln 8 (.t 7),.bi 9 .lss (.t 6) (.t 8)]) (
   .cond (.t 9) (
    .skip) (
    .exit 0))) (
   .seq (
   .blk 1 (
    .seq (
    .reg [.mv 12 (.t 0),.mv 13 (.t 5),.mv 14 (.t 1),.cq 15 ZD [(.t 14)],.oia 16 (.t 12) (.t 13) 6,.ofa 17 (.t 16) 0,.ost (.t 17) (.t 15)]) (
    .seq (
    .reg [.mv 18 (.t 1),.bi 19 .add (.t 18) (.c (.int .i64 1)),.mv 1 (.t 19)]) (
    .seq (
    .reg [.mv 20 (.t 0),.mv 21 (.t 5),.mv 22 (.t 1),.oia 23 (.t 20) (.t 21) 6,.ofa 24 (.t 23) 1,.ost (.t 24) (.t 22)]) (
    .seq (
    .reg [.mv 25 (.t 1),.bi 26 .add (.t 25) (.c (.int .i64 1)),.mv 1 (.t 26)]) (
    .seq (
    .reg [.mv 27 (.t 0),.mv 28 (.t 5),.mv 29 (.t 1),.oia 30 (.t 27) (.t 28) 6,.ofa 31 (.t 30) 2,.ost (.t 31) (.t 29)]) (
    .seq (
    .reg [.mv 32 (.t 1),.bi 33 .add (.t 32) (.c (.int .i64 1)),.mv 1 (.t 33)]) (
    .seq (
    .reg [.mv 34 (.t 0),.mv 35 (.t 5),.mv 36 (.t 1),.oia 37 (.t 34) (.t 35) 6,.ofa 38 (.t 37) 3,.ofa 39 (.t 38) 0,.ost (.t 39) (.t 36)]) (
    .seq (
    .reg [.mv 40 (.t 1),.bi 41 .add (.t 40) (.c (.int .i64 1)),.mv 1 (.t 41)]) (
    .seq (
    .reg [.mv 42 (.t 0),.mv 43 (.t 5),.mv 44 (.t 1),.oia 45 (.t 42) (.t 43) 6,.ofa 46 (.t 45) 3,.ofa 47 (.t 46) 1,.ost (.t 47) (.t 44)]) (
    .seq (
    .reg [.mv 48 (.t 1),.bi 49 .add (.t 48) (.c (.int .i64 1)),.mv 1 (.t 49)]) (
    .seq (
    .reg [.mv 50 (.t 0),.mv 51 (.t 5),.mv 52 (.t 1),.oia 53 (.t 50) (.t 51) 6,.ofa 54 (.t 53) 3,.ofa 55 (.t 54) 2,.ost (.t 55) (.t 52)]) (
    .reg [.mv 56 (.t 1),.bi 57 .add (.t 56) (.c (.int .i64 1)),.mv 1 (.t 57)]))))))))))))) (
   .reg [.mv 10 (.t 5),.bi 11 .add (.t 10) (.c (.int .i64 1)),.mv 5 (.t 11)])))))) (
 .seq (
 .reg [.mv 58 (.t 1),.mv 4 (.t 58)]) (
 .ret)))
def ZZ1 : List Rv := [.t 4]
theorem ZL4 : chkFn Try.prog Zp1 2 Z32 ZZ1 = true := by kernel_rfl
set_option maxRecDepth 10000 in
theorem Zg8 (n : Nat) (hn : n <= 1048576) (k : Int) (h0 : 0 <= k) (h1 : k <= 2251799813685248) :
  Hav Try.prog Zp1 [.od 0 [.s, .i .i64, .i .i64, .i .i64, .i .i64, .i .i64] n, .int .i64 k] (kB k (6 * n)) := by
 refine Z93 ZL4 rfl (den_W ?_)
 unfold Z32 ZZ1
 simp
 refine Z62 (fun m s => ∃ (i : Nat) (j : Int), m = n - i /\ i <= n /\ k <= j /\ j <= k + 6 * i /\ s.e 0 = .od 0 [.s, .i .i64, .i .i64, .i .i64, .i .i64, .i .i64] n /\ s.e 1 = .int .i64 j /\ s.e 5 = .int .i64 (i : Nat) /\ s.my 0 /\ s.kn 0) n ?_ ?_
 .exact ⟨0, k, by simp⟩
 .rintro m s ⟨i, j, rfl, hi, hj0, hj1, e0, e1, e5, hm, hk⟩
  by_cases h : i < n
  .have hw : ∀ q : Int, 0 <= q -> q <= 4611686018427387904 -> IntKind.i64.wrap q = q := fun q h0 h1 => Zw (by omega) (by omega)
   simp [e0, e1, e5, h]
   refine do_cq (ZE4 j (by omega) (by omega)) (by simp [St.args]) ?_
   simp [e0, e1, e5, h, hm, hk, hw (j + 1) (by omega) (by omega), hw (j + 1 + 1) (by omega) (by omega), hw (j + 1 + 1 + 1) (by omega) (by omega), hw (j + 1 + 1 + 1 + 1) (by omega) (by omega), hw (j + 1 + 1 + 1 + 1 + 1) (by omega) (by omega), hw (j + 1 + 1 + 1 + 1 + 1 + 1) (by omega) (by omega)]
   exact ⟨n - (i + 1), by omega, i + 1, rfl, by omega, j + 1 + 1 + 1 + 1 + 1 + 1, by omega, by simp; omega, rfl, by rw [hw _ (by omega) (by omega)]; simp⟩
  .have : i = n := by omega
   subst this
   simp [e0, e1, e5, kB, postH]
   omega
def Z42 : L :=
 .seq (
 .reg [.mv 4 (.c (.int .i64 0))]) (
 .seq (
 .seq (
 .reg [.mv 5 (.c (.int .i64 0))]) (
 .blk 0 (
  .loop (
   .seq (
   .seq (
   .reg [.mv 6 (.t 5),.mv 7 (.t 0),.oln 8 (.t 7),.bi 9 .lss (.t 6) (.t 8)]) (
   .cond (.t 9) (
    .skip) (
    .exit 0))) (
   .seq (
   .blk 1 (
    .seq (
    .reg [.mv 12 (.t 0),.mv 13 (.t 5),.mv 14 (.t 1),.oia 15 (.t 12) (.t 13) 2,.ofa 16 (.t 15) 0,.ost (.t 16) (.t 14)]) (
    .seq (
    .reg [.mv 17 (.t 1),.bi 18 .add (.t 17) (.c (.int .i64 1)),.mv 1 (.t 18)]) (
    .seq (
    .reg [.mv 19 (.t 0),.mv 20 (.t 5),.mv 21 (.t 1),.cq 22 ZD [(.t 21)],.oia 23 (.t 19) (.t 20) 2,.ofa 24 (.t 23) 1,.ost (.t 24) (.t 22)]) (
    .reg [.mv 25 (.t 1),.bi 26 .add (.t 25) (.c (.int .i64 1)),.mv 1 (.t 26)]))))) (
   .reg [.mv 10 (.t 5),.bi 11 .add (.t 10) (.c (.int .i64 1)),.mv 5 (.t 11)])))))) (
 .seq (
 .reg [.mv 27 (.t 1),.mv 4 (.t 27)]) (
 .ret)))
def Z02 : List Rv := [.t 4]
theorem ZM4 : chkFn Try.prog Zq1 2 Z42 Z02 = true := by kernel_rfl
set_option maxRecDepth 10000 in
theorem Zh8 (n : Nat) (hn : n <= 1048576) (k : Int) (h0 : 0 <= k) (h1 : k <= 2251799813685248) :
  Hav Try.prog Zq1 [.od 0 [.i .i64, .s] n, .int .i64 k] (kB k (2 * n)) := by
 refine Z93 ZM4 rfl (den_W ?_)
 unfold Z42 Z02
 simp
 refine Z62 (fun m s => ∃ (i : Nat) (j : Int), m = n - i /\ i <= n /\ k <= j /\ j <= k + 2 * i /\ s.e 0 = .od 0 [.i .i64, .s] n /\ s.e 1 = .int .i64 j /\ s.e 5 = .int .i64 (i : Nat) /\ s.my 0 /\ s.kn 0) n ?_ ?_
 .exact ⟨0, k, by simp⟩
 .rintro m s ⟨i, j, rfl, hi, hj0, hj1, e0, e1, e5, hm, hk⟩
  by_cases h : i < n
  .have hw : ∀ q : Int, 0 <= q -> q <= 4611686018427387904 -> IntKind.i64.wrap q = q := fun q h0 h1 => Zw (by omega) (by omega)
   simp [e0, e1, e5, h, hm, hk, hw (j + 1) (by omega) (by omega)]
   refine do_cq (ZE4 (j + 1) (by omega) (by omega)) (by simp [St.args]) ?_
   simp [e0, e5, h, hm, hk, hw (j + 1 + 1) (by omega) (by omega)]
   exact ⟨n - (i + 1), by omega, i + 1, rfl, by omega, j + 1 + 1, by omega, by simp; omega, rfl, by rw [hw _ (by omega) (by omega)]; simp⟩
  .have : i = n := by omega
   subst this
   simp [e0, e1, e5, kB, postH]
   omega
def Z13 : L :=
 .seq (
 .reg [.mv 4 (.c (.int .i64 0))]) (
 .seq (
 .seq (
 .reg [.mv 5 (.c (.int .i64 0))]) (
 .blk 0 (
  .loop (
   .seq (
   .seq (
   .reg [.mv 6 (.t 5),.mv 7 (.t 0),.oln 8 (.t 7),.bi 9 .lss (.t 6) (.t 8)]) (
   .cond (.t 9) (
    .skip) (
    .exit 0))) (
   .seq (
   .blk 1 (
    .seq (
    .reg [.mv 12 (.t 0),.mv 13 (.t 5),.mv 14 (.t 1),.oia 15 (.t 12) (.t 13) 13,.ofa 16 (.t 15) 0,.ofa 17 (.t 16) 0,.ost (.t 17) (.t 14)]) (
    .seq (
    .reg [.mv 18 (.t 1),.bi 19 .add (.t 18) (.c (.int .i64 1)),.mv 1 (.t 19)]) (
    .seq (
    .reg [.mv 20 (.t 0),.mv 21 (.t 5),.mv 22 (.t 1),.oia 23 (.t 20) (.t 21) 13,.ofa 24 (.t 23) 0,.ofa 25 (.t 24) 1,.ost (.t 25) (.t 22)]) (
    .seq (
    .reg [.mv 26 (.t 1),.bi 27 .add (.t 26) (.c (.int .i64 1)),.mv 1 (.t 27)]) (
    .seq (
    .reg [.mv 28 (.t 0),.mv 29 (.t 5),.mv 30 (.t 1),.oia 31 (.t 28) (.t 29) 13,.ofa 32 (.t 31) 0,.ofa 33 (.t 32) 2,.ost (.t 33) (.t 30)]) (
    .seq (
    .reg [.mv 34 (.t 1),.bi 35 .add (.t 34) (.c (.int .i64 1)),.mv 1 (.t 35)]) (
    .seq (
    .reg [.mv 36 (.t 0),.mv 37 (.t 5),.mv 38 (.t 1),.oia 39 (.t 36) (.t 37) 13,.ofa 40 (.t 39) 0,.ofa 41 (.t 40) 3,.ofa 42 (.t 41) 0,.ost (.t 42) (.t 38)]) (
    .seq (
    .reg [.mv 43 (.t 1),.bi 44 .add (.t 43) (.c (.int .i64 1)),.mv 1 (.t 44)]) (
    .seq (
    .reg [.mv 45 (.t 0),.mv 46 (.t 5),.mv 47 (.t 1),.oia 48 (.t 45) (.t 46) 13,.ofa 49 (.t 48) 0,.ofa 50 (.t 49) 3,.ofa 51 (.t 50) 1,.ost (.t 51) (.t 47)]) (
    .seq (
    .reg [.mv 52 (.t 1),.bi 53 .add (.t 52) (.c (.int .i64 1)),.mv 1 (.t 53)]) (
    .seq (
    .reg [.mv 54 (.t 0),.mv 55 (.t 5),.mv 56 (.t 1),.oia 57 (.t 54) (.t 55) 13,.ofa 58 (.t 57) 0,.ofa 59 (.t 58) 3,.ofa 60 (.t 59) 2,.ost (.t 60) (.t 56)]) (
    .seq (
    .reg [.mv 61 (.t 1),.bi 62 .add (.t 61) (.c (.int .i64 1)),.mv 1 (.t 62)]) (
    .seq (
    .reg [.mv 63 (.t 0),.mv 64 (.t 5),.mv 65 (.t 1),.oia 66 (.t 63) (.t 64) 13,.ofa 67 (.t 66) 0,.ofa 68 (.t 67) 6,.ofa 69 (.t 68) 0,.ost (.t 69) (.t 65)]) (
    .seq (
    .reg [.mv 70 (.t 1),.bi 71 .add (.t 70) (.c (.int .i64 1)),.mv 1 (.t 71)]) (
    .seq (
    .reg [.mv 72 (.t 0),.mv 73 (.t 5),.mv 74 (.t 1),.oia 75 (.t 72) (.t 73) 13,.ofa 76 (.t 75) 0,.ofa 77 (.t 76) 6,.ofa 78 (.t 77) 1,.ost (.t 78) (.t 74)]) (
    .seq (
    .reg [.mv 79 (.t 1),.bi 80 .add (.t 79) (.c (.int .i64 1)),.mv 1 (.t 80)]) (
    .seq (
    .reg [.mv 81 (.t 0),.mv 82 (.t 5),.mv 83 (.t 1),.oia 84 (.t 81) (.t 82) 13,.ofa 85 (.t 84) 0,.ofa 86 (.t 85) 6,.ofa 87 (.t 86) 2,.ost (.t 87) (.t 83)]) (
    .seq (
    .reg [.mv 88 (.t 1),.bi 89 .add (.t 88) (.c (.int .i64 1)),.mv 1 (.t 89)]) (
    .seq (
    .reg [.mv 90 (.t 0),.mv 91 (.t 5),.mv 92 (.t 1),.oia 93 (.t 90) (.t 91) 13,.ofa 94 (.t 93) 0,.ofa 95 (.t 94) 9,.ost (.t 95) (.t 92)]) (
    .seq (
    .reg [.mv 96 (.t 1),.bi 97 .add (.t 96) (.c (.int .i64 1)),.mv 1 (.t 97)]) (
    .seq (
    .reg [.mv 98 (.t 0),.mv 99 (.t 5),.mv 100 (.t 1),.oia 101 (.t 98) (.t 99) 13,.ofa 102 (.t 101) 0,.ofa 103 (.t 102) 10,.ost (.t 103) (.t 100)]) (
    .seq (
    .reg [.mv 104 (.t 1),.bi 105 .add (.t 104) (.c (.int .i64 1)),.mv 1 (.t 105)]) (
    .seq (
    .reg [.mv 106 (.t 0),.mv 107 (.t 5),.mv 108 (.t 1),.oia 109 (.t 106) (.t 107) 13,.ofa 110 (.t 109) 11,.ost (.t 110) (.t 108)]) (
    .seq (
    .reg [.mv 111 (.t 1),.bi 112 .add (.t 111) (.c (.int .i64 1)),.mv 1 (.t 112)]) (
    .reg [.mv 113 (.t 0),.mv 114 (.t 5),.oia 115 (.t 113) (.t 114) 13,.ofa 116 (.t 115) 12,.old 117 (.t 116),.mv 118 (.t 1),.cf 119 Zh 0 [(.t 117), (.t 118)],.mv 1 (.t 119)])))))))))))))))))))))))))) (
   .reg [.mv 10 (.t 5),.bi 11 .add (.t 10) (.c (.int .i64 1)),.mv 5 (.t 11)])))))) (
 .seq (
 .reg [.mv 120 (.t 1),.mv 4 (.t 120)]) (
 .ret)))
def ZO2 : List Rv := [.t 4]
theorem Z46 : chkFn Try.prog Z82 2 Z13 ZO2 = true := by kernel_rfl
set_option maxRecDepth 10000 in
theorem ZQa (n : Nat) (hn : n <= 1048576) (k : Int) (h0 : 0 <= k) (h1 : k <= 1125899906842624) :
  Hav Try.prog Z82 [.od 0 [.i .i64, .i .i64, .i .i64, .i .i64, .i .i64, .i .i64, .i .i64, .i .i64, .i .i64, .i .i64, .i .i64, .i .i64, .l [.i .i64]] n, .int .i64 k] (kB k (1048588 * n)) := by
 refine Z93 Z46 rfl (den_W ?_)
 unfold Z13 ZO2
 simp
 refine Z62 (fun m s => ∃ (i : Nat) (j : Int), m = n - i /\ i <= n /\ k <= j /\ j <= k + 1048588 * i /\ s.e 0 = .od 0 [.i .i64, .i .i64, .i .i64, .i .i64, .i .i64, .i .i64, .i .i64, .i .i64, .i .i64, .i .i64, .i .i64, .i .i64, .l [.i .i64]] n /\ s.e 1 = .int .i64 j /\ s.e 5 = .int .i64 (i : Nat) /\ s.my 0 /\ s.kn 0) n ?_ ?_
 .exact ⟨0, k, by simp⟩
 .rintro m s ⟨i, j, rfl, hi, hj0, hj1, e0, e1, e5, hm, hk⟩
  by_cases h : i < n
  .have hw : ∀ q : Int, 0 <= q -> q <= 4611686018427387904 -> IntKind.i64.wrap q = q := fun q h0 h1 => Zw (by omega) (by omega)
   simp [e0, e1, e5, h, hm, hk, hw (j + 1) (by omega) (by omega), hw (j + 1 + 1) (by omega) (by omega), hw (j + 1 + 1 + 1) (by omega) (by omega), hw (j + 1 + 1 + 1 + 1) (by omega) (by omega), hw (j + 1 + 1 + 1 + 1 + 1) (by omega) (by omega), hw (j + 1 + 1 + 1 + 1 + 1 + 1) (by omega) (by omega), hw (j + 1 + 1 + 1 + 1 + 1 + 1 + 1) (by omega) (by omega), hw (j + 1 + 1 + 1 + 1 + 1 + 1 + 1 + 1) (by omega) (by omega), hw (j + 1 + 1 + 1 + 1 + 1 + 1 + 1 + 1 + 1) (by omega) (by omega), hw (j + 1 + 1 + 1 + 1 + 1 + 1 + 1 + 1 + 1 + 1) (by omega) (by omega), hw (j + 1 + 1 + 1 + 1 + 1 + 1 + 1 + 1 + 1 + 1 + 1) (by omega) (by omega), hw (j + 1 + 1 + 1 + 1 + 1 + 1 + 1 + 1 + 1 + 1 + 1 + 1) (by omega) (by omega)]
   intro n2 hn2
   refine do_cf [] (Zk6 n2 hn2 (j + 1 + 1 + 1 + 1 + 1 + 1 + 1 + 1 + 1 + 1 + 1 + 1) (by omega) (by omega)) (by simp) (by simp [hm]) (by simp) ?_
   rintro q ⟨hq0, hq1⟩
   simp [e0, e5, hm, hk]
   exact ⟨n - (i + 1), by omega, i + 1, rfl, by omega, q, by omega, by simp; omega, rfl, by rw [hw _ (by omega) (by omega)]; simp⟩
  .have : i = n := by omega
   subst this
   simp [e0, e1, e5, kB, postH]
   omega
def ZZ2 : L :=
 .seq (
 .reg [.bx 2 (.t 0),.mv 4 (.c (.int .i64 0))]) (
 .seq (
 .reg [.fa 5 (.t 2) 0,.ld 6 (.t 5) 1 false,.mv 7 (.t 1),.cf 8 Zh 0 [(.t 6), (.t 7)],.mv 1 (.t 8)]) (
 .seq (
 .reg [.fa 9 (.t 2) 1,.ld 10 (.t 9) 1 false,.mv 11 (.t 1),.cf 12 ZM1 0 [(.t 10), (.t 11)],.mv 1 (.t 12)]) (
 .seq (
 .reg [.mv 13 (.t 1),.mv 4 (.t 13)]) (
 .ret))))
def ZM2 : List Rv := [.t 4]
theorem Z26 : chkFn Try.prog Z72 2 ZZ2 ZM2 = true := by kernel_rfl
set_option maxRecDepth 10000 in
theorem ZPa (n1 n2 : Nat) (hn1 : n1 <= 1048576) (hn2 : n2 <= 1048576) (k : Int) (h0 : 0 <= k) (h1 : k <= 562949953421312) :
  Hav Try.prog Z72 [.agg [.od 0 [.i .i64] n1, .od 0 [.i .i64, .i .i64, .i .i64, .i .i64] n2], .int .i64 k] (kB k 5242880) := by
 refine Z93 Z26 rfl (den_W ?_)
 unfold ZZ2 ZM2
 simp
 refine do_cf [] (Zk6 n1 hn1 k (by omega) (by omega)) (by simp) (by simp) (by simp) ?_
 rintro q0 ⟨hq0, hr0⟩
 simp
 refine do_cf [] (ZS9 n2 hn2 q0 (by omega) (by omega)) (by simp) (by simp) (by simp) ?_
 rintro q1 ⟨hq1, hr1⟩
 simp [kB, postH]
 omega
def Zt2 : L :=
 .seq (
 .reg [.bx 2 (.t 0),.mv 4 (.c (.int .i64 0))]) (
 .seq (
 .reg [.fa 5 (.t 2) 0,.ld 6 (.t 5) 2 true,.mv 7 (.t 1),.cf 8 Z72 0 [(.t 6), (.t 7)],.mv 1 (.t 8)]) (
 .seq (
 .reg [.fa 9 (.t 2) 2,.ld 10 (.t 9) 1 false,.mv 11 (.t 1),.cf 12 ZN1 0 [(.t 10), (.t 11)],.mv 1 (.t 12)]) (
 .seq (
 .reg [.fa 13 (.t 2) 8,.ld 14 (.t 13) 1 false,.mv 15 (.t 1),.cf 16 Z92 0 [(.t 14), (.t 15)],.mv 1 (.t 16)]) (
 .seq (
 .reg [.fa 17 (.t 2) 9,.ld 18 (.t 17) 1 false,.mv 19 (.t 1),.cf 20 Z82 0 [(.t 18), (.t 19)],.mv 1 (.t 20)]) (
 .seq (
 .reg [.fa 21 (.t 2) 10,.ld 22 (.t 21) 1 false,.mv 23 (.t 1),.cf 24 Za2 0 [(.t 22), (.t 23)],.mv 1 (.t 24)]) (
 .seq (
 .reg [.mv 25 (.t 1),.mv 4 (.t 25)]) (
 .ret)))))))
def Ze2 : List Rv := [.t 4]
theorem Zg5 : chkFn Try.prog ZL1 2 Zt2 Ze2 = true := by kernel_rfl
set_option maxRecDepth 10000 in
theorem ZR9 (n1 n2 n3 n4 n5 n6 : Nat) (a b c d e : Int) (hn1 : n1 <= 1048576) (hn2 : n2 <= 1048576) (hn3 : n3 <= 1048576) (hn4 : n4 <= 1048576) (hn5 : n5 <= 1048576) (hn6 : n6 <= 1048576) (k : Int) (h0 : 0 <= k) (h1 : k <= 562949953421312) :
  Hav Try.prog ZL1 [.agg [.od 0 [.i .i64] n1, .od 0 [.i .i64, .i .i64, .i .i64, .i .i64] n2, .od 0 [.b] n3, .int .i64 a, .int .i64 b, .int .i64 c, .int .i64 d, .int .i64 e, .od 0 [.i .i64, .i .i64, .i .i64, .i .i64, .i .i64, .i .i64, .i .i64, .i .i64, .i .i64, .i .i64, .i .i64] n4, .od 0 [.i .i64, .i .i64, .i .i64, .i .i64, .i .i64, .i .i64, .i .i64, .i .i64, .i .i64, .i .i64, .i .i64, .i .i64, .l [.i .i64]] n5, .od 0 [.i .i64, .i .i64, .i .i64] n6], .int .i64 k] (kB k 1099545182208) := by
 refine Z93 Zg5 rfl (den_W ?_)
 unfold Zt2 Ze2
 simp
 refine do_cf [] (ZPa n1 n2 hn1 hn2 k (by omega) (by omega)) (by simp) (by simp) (by simp) ?_
 rintro q0 ⟨hq0, hr0⟩
 simp
 refine do_cf [] (ZT9 n3 hn3 q0 (by omega) (by omega)) (by simp) (by simp) (by simp) ?_
 rintro q1 ⟨hq1, hr1⟩
 simp
 refine do_cf [] (ZRa n4 hn4 q1 (by omega) (by omega)) (by simp) (by simp) (by simp) ?_
 rintro q2 ⟨hq2, hr2⟩
 simp
 refine do_cf [] (ZQa n5 hn5 q2 (by omega) (by omega)) (by simp) (by simp) (by simp) ?_
 rintro q3 ⟨hq3, hr3⟩
 simp
 refine do_cf [] (ZSa n6 hn6 q3 (by omega) (by omega)) (by simp) (by simp) (by simp) ?_
 rintro q4 ⟨hq4, hr4⟩
 simp [kB, postH]
 omega
def Z63 : L :=
 .seq (
 .reg [.bx 2 (.t 0),.mv 4 (.c (.int .i64 0))]) (
 .seq (
 .reg [.fa 5 (.t 2) 0,.ld 6 (.t 5) 11 true,.mv 7 (.t 1),.cf 8 ZL1 0 [(.t 6), (.t 7)],.mv 1 (.t 8)]) (
 .seq (
 .reg [.fa 9 (.t 2) 11,.ld 10 (.t 9) 1 false,.mv 11 (.t 1),.cf 12 ZZ 0 [(.t 10), (.t 11)],.mv 1 (.t 12)]) (
 .seq (
 .reg [.fa 13 (.t 2) 12,.ld 14 (.t 13) 1 false,.mv 15 (.t 1),.cf 16 Zp1 0 [(.t 14), (.t 15)],.mv 1 (.t 16)]) (
 .seq (
 .reg [.fa 17 (.t 2) 13,.ld 18 (.t 17) 1 false,.mv 19 (.t 1),.cf 20 Zb2 0 [(.t 18), (.t 19)],.mv 1 (.t 20)]) (
 .seq (
 .reg [.fa 21 (.t 2) 14,.ld 22 (.t 21) 1 false,.mv 23 (.t 1),.cf 24 Zq1 0 [(.t 22), (.t 23)],.mv 1 (.t 24)]) (
 .seq (
 .reg [.mv 25 (.t 1),.mv 4 (.t 25)]) (
 .ret)))))))
def ZT2 : List Rv := [.t 4]
theorem Z96 : chkFn Try.prog Zk1 2 Z63 ZT2 = true := by kernel_rfl
set_option maxRecDepth 10000 in
theorem ZTa (n1 n2 n3 n4 n5 n6 n7 n8 n9 n10 : Nat) (a b c d e : Int) (hn1 : n1 <= 1048576) (hn2 : n2 <= 1048576) (hn3 : n3 <= 1048576) (hn4 : n4 <= 1048576) (hn5 : n5 <= 1048576) (hn6 : n6 <= 1048576) (hn7 : n7 <= 1048576) (hn8 : n8 <= 1048576) (hn9 : n9 <= 1048576) (hn10 : n10 <= 1048576) (k : Int) (h0 : 0 <= k) (h1 : k <= 562949953421312) :
  Hav Try.prog Zk1 [.agg [.od 0 [.i .i64] n1, .od 0 [.i .i64, .i .i64, .i .i64, .i .i64] n2, .od 0 [.b] n3, .int .i64 a, .int .i64 b, .int .i64 c, .int .i64 d, .int .i64 e, .od 0 [.i .i64, .i .i64, .i .i64, .i .i64, .i .i64, .i .i64, .i .i64, .i .i64, .i .i64, .i .i64, .i .i64] n4, .od 0 [.i .i64, .i .i64, .i .i64, .i .i64, .i .i64, .i .i64, .i .i64, .i .i64, .i .i64, .i .i64, .i .i64, .i .i64, .l [.i .i64]] n5, .od 0 [.i .i64, .i .i64, .i .i64] n6, .od 0 [.s, .i .i64, .i .i64] n7, .od 0 [.s, .i .i64, .i .i64, .i .i64, .i .i64, .i .i64] n8, .od 0 [.i .i64, .i .i64] n9, .od 0 [.i .i64, .s] n10], .int .i64 k] (kB k 1099558813696) := by
 refine Z93 Z96 rfl (den_W ?_)
 unfold Z63 ZT2
 simp
 refine do_cf [] (ZR9 n1 n2 n3 n4 n5 n6 a b c d e hn1 hn2 hn3 hn4 hn5 hn6 k (by omega) (by omega)) (by simp) (by simp) (by simp) ?_
 rintro q0 ⟨hq0, hr0⟩
 simp
 refine do_cf [] (Zr6 n7 hn7 q0 (by omega) (by omega)) (by simp) (by simp) (by simp) ?_
 rintro q1 ⟨hq1, hr1⟩
 simp
 refine do_cf [] (Zg8 n8 hn8 q1 (by omega) (by omega)) (by simp) (by simp) (by simp) ?_
 rintro q2 ⟨hq2, hr2⟩
 simp
 refine do_cf [] (ZUa n9 hn9 q2 (by omega) (by omega)) (by simp) (by simp) (by simp) ?_
 rintro q3 ⟨hq3, hr3⟩
 simp
 refine do_cf [] (Zh8 n10 hn10 q3 (by omega) (by omega)) (by simp) (by simp) (by simp) ?_
 rintro q4 ⟨hq4, hr4⟩
 simp [kB, postH]
 omega
@[simp] theorem ownt_IS (i : Nat) (l : List Int) : owntL i (l.map eI) = l.map eI := Zm (fun _ => rfl) l
@[simp] theorem ownt_SS (i : Nat) (l : List Str) : owntL i (l.map eS) = l.map eS := Zm (fun _ => rfl) l
@[simp] theorem ownt_BS (i : Nat) (l : List Int) : owntL i (l.map eB) = l.map eB := Zm (fun _ => rfl) l
@[simp] theorem ownt_BoS (i : Nat) (l : List Bool) : owntL i (l.map eBo) = l.map eBo := Zm (fun _ => rfl) l
@[simp] theorem ownt_NodeS (i : Nat) (l : List Node) : owntL i (l.map eNode) = l.map eNode := Zm (fun x => by simp) l
@[simp] theorem ownt_JobS (i : Nat) (l : List Job) : owntL i (l.map eJob) = l.map eJob := Zm (fun x => by simp) l
@[simp] theorem ownt_EndS (i : Nat) (l : List End) : owntL i (l.map eEnd) = l.map eEnd := Zm (fun x => by simp) l
@[simp] theorem ownt_AccountS (i : Nat) (l : List Account) : owntL i (l.map Z1) = l.map Z1 := Zm (fun x => by simp) l
@[simp] theorem ownt_QuotaS (i : Nat) (l : List Quota) : owntL i (l.map Z8) = l.map Z8 := Zm (fun x => by simp) l
@[simp] theorem ownt_DepS (i : Nat) (l : List Dep) : owntL i (l.map eDep) = l.map eDep := Zm (fun x => by simp) l
@[simp] theorem ownt_OwnerS (i : Nat) (l : List Owner) : owntL i (l.map Z9) = l.map Z9 := Zm (fun x => by simp) l
@[simp] theorem ownt_RunT (i : Nat) (g : Tag) (l : List Run) : owntL i (l.map (eRunT g)) = l.map (eRunT (.own i)) := by
 refine ZLa i _ _ (fun x => ?_) l
 simp
def Zx (k : Int) (n : Nat) : List Int := (List.range n).map fun i => k + (i : Nat)
def Z33 : L :=
 .seq (
 .reg [.mv 4 (.c (.int .i64 0))]) (
 .seq (
 .seq (
 .reg [.mv 5 (.c (.int .i64 0))]) (
 .blk 0 (
  .loop (
   .seq (
   .seq (
   .reg [.mv 6 (.t 5),.mv 7 (.t 0),.ln 8 (.t 7),.bi 9 .lss (.t 6) (.t 8)]) (
   .cond (.t 9) (
    .skip) (
    .exit 0))) (
   .seq (
   .blk 1 (
    .seq (
    .reg [.mv 12 (.t 0),.mv 13 (.t 5),.mv 14 (.t 1),.ia 15 (.t 12) (.t 13) 1,.st (.t 15) (.t 14) 1]) (
    .reg [.mv 16 (.t 1),.bi 17 .add (.t 16) (.c (.int .i64 1)),.mv 1 (.t 17)]))) (
   .reg [.mv 10 (.t 5),.bi 11 .add (.t 10) (.c (.int .i64 1)),.mv 5 (.t 11)])))))) (
 .seq (
 .reg [.mv 18 (.t 1),.mv 4 (.t 18)]) (
 .ret)))
def ZQ2 : List Rv := [.t 4]
theorem Z66 : chkFn Try.prog Zh 2 Z33 ZQ2 = true := by kernel_rfl
set_option maxRecDepth 10000 in
theorem Zub (l : List Int) (k : Int) (h0 : 0 <= k) (h1 : k + l.length <= 4611686018427387904) :
  Con Try.prog Zh [.sref 0, .int .i64 k] [] [⟨1, l.map eI, false⟩] (ret1 (.int .i64 (k + l.length)) ((Zx k l.length).map eI)) := by
 refine con_by [true] Z66 rfl (by simp) fun _ _ => den_W ?_
 unfold Z33 ZQ2
 simp
 refine Z62 (fun m s => ∃ i es, m = l.length - i /\ i <= l.length /\ s.e 0 = .sref 1000000000 /\ s.e 1 = .int .i64 (k + i) /\ s.e 5 = .int .i64 (i : Nat) /\
   s.rw 1000000000 = some ⟨1, es, false⟩ /\ es = ((Zx k l.length).map eI).take i ++ (l.map eI).drop i) l.length ?_ ?_
 .exact ⟨0, l.map eI, by simp⟩
 .rintro m s ⟨i, es, rfl, hi, h0', h1', h5, hr, he⟩
  by_cases h : i < l.length
  .obtain ⟨f1, f2, f3, f4⟩ := Z8d _ _ (by simp [Zx]) i (by simpa using h) he
   simp at f1
   have w0 : IntKind.i64.wrap (k + (i : Int) + 1) = k + (i : Int) + 1 := by rw [Zw (by omega) (by omega)]
   simp [h0', h1', h5, hr, h, f1, f2]
   intro _
   refine ⟨l.length - (i + 1), by omega, i + 1, by simp, by omega, by simp [w0]; omega, by simp; rw [Zw (by omega) (by omega)], ?_⟩
   simpa [Zx, w0] using f4
  .have : i = l.length := by omega
   subst this
   have hes : es = (Zx k l.length).map eI := by rw [he, List.take_of_length_le (by simp [Zx]), List.drop_of_length_le (by simp), List.append_nil]
   have hel : es.length = l.length := by rw [hes]; simp [Zx]
   simp [h0', h1', h5, hr, hel]
   intro _
   refine ZRc [] [some es] [] [] ?_
   simp [hr, hes, ret1]
def Z83 : L :=
 .seq (
 .reg [.mv 4 (.c (.int .i64 0))]) (
 .seq (
 .seq (
 .reg [.mv 5 (.c (.int .i64 0))]) (
 .blk 0 (
  .loop (
   .seq (
   .seq (
   .reg [.mv 6 (.t 5),.mv 7 (.t 0),.ln 8 (.t 7),.bi 9 .lss (.t 6) (.t 8)]) (
   .cond (.t 9) (
    .skip) (
    .exit 0))) (
   .seq (
   .blk 1 (
    .seq (
    .seq (
    .reg [.mv 12 (.t 0),.mv 13 (.t 5),.ia 14 (.t 12) (.t 13) 1,.ld 15 (.t 14) 1 false,.mv 16 (.t 1),.bi 17 .neq (.t 15) (.t 16)]) (
    .cond (.t 17) (
     .seq (
     .reg [.mv 4 (.c (.int .i64 (-1)))]) (
     .ret)) (
     .skip))) (
    .reg [.mv 18 (.t 1),.bi 19 .add (.t 18) (.c (.int .i64 1)),.mv 1 (.t 19)]))) (
   .reg [.mv 10 (.t 5),.bi 11 .add (.t 10) (.c (.int .i64 1)),.mv 5 (.t 11)])))))) (
 .seq (
 .reg [.mv 20 (.t 1),.mv 4 (.t 20)]) (
 .ret)))
def ZV2 : List Rv := [.t 4]
theorem Zb6 : chkFn Try.prog Zl1 2 Z83 ZV2 = true := by kernel_rfl
set_option maxRecDepth 10000 in
theorem ZZ7 (n : Nat) (k : Int) (h0 : 0 <= k) (h1 : k + n <= 4611686018427387904) :
  Snd Try.prog Zl1 [.sl .rd 1 ((Zx k n).map eI), .int .i64 k] (.int .i64 (k + n)) [] := by
 refine ZHb Zb6 rfl (by simp) (den_W ?_)
 unfold Z83 ZV2
 have hlen : (Zx k n).length = n := by simp [Zx]
 have hget : ∀ i (h : i < (Zx k n).length), (Zx k n)[i] = k + (i : Nat) := by intro i h; simp [Zx]
 generalize Zx k n = l at hlen hget
 simp
 refine Z62 (fun m s => ∃ i, m = n - i /\ i <= n /\ s.e 0 = .sl .rd 1 (l.map eI) /\ s.e 1 = .int .i64 (k + i) /\ s.e 5 = .int .i64 (i : Nat)) n ?_ ?_
 .exact ⟨0, by simp⟩
 .rintro m s ⟨i, rfl, hi, h0', h1', h5⟩
  by_cases h : i < n
  .have hi' : i < l.length := by omega
   have w0 : IntKind.i64.wrap (k + (i : Int) + 1) = k + (i : Int) + 1 := by rw [Zw (by omega) (by omega)]
   simp [h0', h1', h5, h, hlen, hget, w0]
   intro _
   exact ⟨n - (i + 1), by omega, i + 1, rfl, by omega, by omega, by rw [Zw (by omega) (by omega)]; omega⟩
  .have : i = n := by omega
   subst this
   simp [h0', h1', h5, hlen]
@[simp] theorem beq_10 : Nat.beq 1 0 = false := rfl
@[simp] theorem beq_01 : Nat.beq 0 1 = false := rfl
theorem ZZ6 {d : Desk} (hS : SizedD d) : Snd Try.prog ZK [Zm1 .rd d] (Zm1 .nw d) [] := Zt8 (Zu8 hS)
theorem eqDesk_c {d : Desk} (hS : SizedD d) : Snd Try.prog ZA3 [Zm1 .rd d, Zm1 .rd d] (.bool true) [] := ZQ8 (ZO6 hS)
def kDesk (d : Desk) : AV := .agg [.od 0 [.i .i64] d.state.topo.parents.length, .od 0 [.i .i64, .i .i64, .i .i64, .i .i64] d.state.topo.nodes.length, .od 0 [.b] d.state.up.length, .int .i64 d.state.lic.a, .int .i64 d.state.lic.b, .int .i64 d.state.lic.c, .int .i64 d.state.depth, .int .i64 d.state.now,
 .od 0 [.i .i64, .i .i64, .i .i64, .i .i64, .i .i64, .i .i64, .i .i64, .i .i64, .i .i64, .i .i64, .i .i64] d.state.queue.length, .od 0 [.i .i64, .i .i64, .i .i64, .i .i64, .i .i64, .i .i64, .i .i64, .i .i64, .i .i64, .i .i64, .i .i64, .i .i64, .l [.i .i64]] d.state.runs.length, .od 0 [.i .i64, .i .i64, .i .i64] d.state.ends.length,
 .od 0 [.s, .i .i64, .i .i64] d.accounts.length, .od 0 [.s, .i .i64, .i .i64, .i .i64, .i .i64, .i .i64] d.quotas.length, .od 0 [.i .i64, .i .i64] d.deps.length, .od 0 [.i .i64, .s] d.owners.length]
theorem Zoc {d : Desk} (hS : SizedD d) (k : Int) (h0 : 0 <= k) (h1 : k <= 562949953421312) : Hav Try.prog Zk1 [kDesk d, .int .i64 k] (kB k 1099558813696) :=
 have := hS.state.jobs
 ZTa d.state.topo.parents.length d.state.topo.nodes.length d.state.up.length d.state.queue.length d.state.runs.length d.state.ends.length d.accounts.length d.quotas.length d.deps.length d.owners.length d.state.lic.a d.state.lic.b d.state.lic.c d.state.depth d.state.now
  hS.state.parents hS.state.nodes hS.state.up (by omega) (by omega) hS.state.ends hS.accounts hS.quotas hS.deps hS.owners k h0 h1
theorem hvDesk {d : Desk} (hS : SizedD d) (i : Nat) (k : Int) : hvLs i [Zm1 (.own i) d, .int .i64 k] [kDesk d, .int .i64 k] := by
  have := hS.state.jobs
  simp [kDesk]
  exact ⟨⟨_, _, _, ⟨rfl, rfl, rfl⟩, by simp, .inr hS.state.parents⟩, ⟨_, _, _, ⟨rfl, rfl, rfl⟩, by simp, .inr hS.state.nodes⟩, ⟨_, _, _, ⟨rfl, rfl, rfl⟩, by simp, .inr hS.state.up⟩, ⟨_, _, _, ⟨rfl, rfl, rfl⟩, by simp, .inr (by omega)⟩,
    ⟨_, _, _, ⟨rfl, rfl, rfl⟩, by simp, .inr ⟨by omega, fun x hx => .inr (hS.state.run x hx)⟩⟩, ⟨_, _, _, ⟨rfl, rfl, rfl⟩, by simp, .inr hS.state.ends⟩, ⟨_, _, _, ⟨rfl, rfl, rfl⟩, by simp, .inr hS.accounts⟩, ⟨_, _, _, ⟨rfl, rfl, rfl⟩, by simp, .inr hS.quotas⟩,
    ⟨_, _, _, ⟨rfl, rfl, rfl⟩, by simp, .inr hS.deps⟩, ⟨_, _, _, ⟨rfl, rfl, rfl⟩, by simp, .inr hS.owners⟩⟩
theorem Desk_of3 {a : AV} (h : ZFb.okV a) : ∃ s, AE a (Zm1 .rd s) /\ Zta s := EncOf.okV_st ofDesk h
def ZF1 : L :=
 .seq (
 .reg [.bx 1 (.t 0),.mv 2 (.c (.bool false))]) (
 .seq (
 .reg [.mv 3 (.c (.int .i64 1048576))]) (
 .seq (
 .reg [.ld 11 (.t 1) 15 true,.mv 12 (.t 3),.cq 13 Zt5 [(.t 11), (.t 12)],.mv 3 (.t 13)]) (
 .seq (
 .seq (
 .reg [.mv 14 (.t 3),.bi 15 .lss (.t 14) (.c (.int .i64 0))]) (
 .cond (.t 15) (
  .seq (
  .reg [.mv 2 (.c (.bool true))]) (
  .ret)) (
  .skip))) (
 .seq (
 .reg [.ld 16 (.t 1) 15 true,.cq 17 ZK [(.t 16)],.cq 18 Zm5 [(.t 17)],.mv 4 (.t 18)]) (
 .seq (
 .reg [.ld 19 (.t 1) 15 true,.co 20 ZK [(.t 19)],.al 5 [.nl, .nl, .nl, .int .i64 0, .int .i64 0, .int .i64 0, .int .i64 0, .int .i64 0, .nl, .nl, .nl, .nl, .nl, .nl, .nl],.st (.t 5) (.t 20) 15]) (
 .seq (
 .reg [.ld 21 (.t 5) 15 true,.cl 22 ZB3 [(.t 21)],.mv 6 (.t 22)]) (
 .seq (
 .seq (
 .reg [.mv 23 (.t 6),.mv 24 (.t 4),.cq 25 ZL [(.t 23), (.t 24)],.un 26 (.t 25)]) (
 .cond (.t 26) (
  .seq (
  .reg [.mv 2 (.c (.bool false))]) (
  .ret)) (
  .skip))) (
 .seq (
 .seq (
 .rq 5 [.ld 27 (.t 5) 15 true,.ld 28 (.t 1) 15 true,.cq 29 ZK [(.t 28)],.cq 30 ZA3 [(.t 27), (.t 29)],.un 31 (.t 30)]) (
 .cond (.t 31) (
  .seq (
  .reg [.mv 2 (.c (.bool false))]) (
  .ret)) (
  .skip))) (
 .seq (
 .reg [.mv 7 (.c (.int .i64 1))]) (
 .seq (
 .reg [.ld 32 (.t 5) 15 true,.mv 33 (.t 7),.cf 34 Zk1 0 [(.t 32), (.t 33)],.mv 7 (.t 34)]) (
 .seq (
 .seq (
 .reg [.mv 35 (.t 7),.bi 36 .lss (.t 35) (.c (.int .i64 0)),.mv 37 (.t 36),.g 37 false (.mv 38 (.t 6)),.g 37 false (.mv 39 (.t 4)),.g 37 false (.cq 40 ZL [(.t 38), (.t 39)]),.g 37 false (.un 41 (.t 40)),.pk 42 (.t 37) (.c (.bool true)) (.t 41)]) (
 .cond (.t 42) (
  .seq (
  .reg [.mv 2 (.c (.bool false))]) (
  .ret)) (
  .skip))) (
 .seq (
 .reg [.mv 8 (.c (.int .i64 1))]) (
 .seq (
 .reg [.mv 43 (.t 6),.mv 44 (.t 8),.cm 45 Zh [(.t 43), (.t 44)],.mv 8 (.t 45)]) (
 .seq (
 .reg [.mv 9 (.c (.int .i64 1))]) (
 .seq (
 .reg [.mv 46 (.t 6),.mv 47 (.t 9),.cq 48 Zl1 [(.t 46), (.t 47)],.mv 9 (.t 48)]) (
 .seq (
 .seq (
 .reg [.mv 49 (.t 9),.bi 50 .lss (.t 49) (.c (.int .i64 0))]) (
 .cond (.t 50) (
  .seq (
  .reg [.mv 2 (.c (.bool false))]) (
  .ret)) (
  .skip))) (
 .seq (
 .seq (
 .reg [.mv 51 (.t 9),.mv 52 (.t 8),.bi 53 .neq (.t 51) (.t 52)]) (
 .cond (.t 53) (
  .seq (
  .reg [.mv 2 (.c (.bool false))]) (
  .ret)) (
  .skip))) (
 .seq (
 .reg [.ld 54 (.t 1) 15 true,.cq 55 ZK [(.t 54)],.cq 56 ZB3 [(.t 55)],.mv 10 (.t 56)]) (
 .seq (
 .seq (
 .reg [.mv 57 (.t 10),.mv 58 (.t 4),.cq 59 ZL [(.t 57), (.t 58)],.un 60 (.t 59)]) (
 .cond (.t 60) (
  .seq (
  .reg [.mv 2 (.c (.bool false))]) (
  .ret)) (
  .skip))) (
 .seq (
 .reg [.mv 9 (.c (.int .i64 1))]) (
 .seq (
 .reg [.mv 61 (.t 6),.mv 62 (.t 9),.cq 63 Zl1 [(.t 61), (.t 62)],.mv 9 (.t 63)]) (
 .seq (
 .seq (
 .reg [.mv 64 (.t 9),.bi 65 .lss (.t 64) (.c (.int .i64 0))]) (
 .cond (.t 65) (
  .seq (
  .reg [.mv 2 (.c (.bool false))]) (
  .ret)) (
  .skip))) (
 .seq (
 .seq (
 .reg [.mv 66 (.t 9),.mv 67 (.t 8),.bi 68 .neq (.t 66) (.t 67)]) (
 .cond (.t 68) (
  .seq (
  .reg [.mv 2 (.c (.bool false))]) (
  .ret)) (
  .skip))) (
 .seq (
 .reg [.mv 2 (.c (.bool true))]) (
 .ret)))))))))))))))))))))))))
def ZC1 : List Rv := [.t 2]
theorem ZV3 : chkFn Try.prog Zj 1 ZF1 ZC1 = true := by kernel_rfl
set_option maxRecDepth 10000 in
theorem Zb8 {d : Desk} (hf : Zta d) : Snd Try.prog Zj [Zm1 .rd d] (.bool true) [] := by
 obtain ⟨r, h1, h2⟩ := ZG8 hf
 refine ZHb ZV3 rfl (by simp) (den_W ?_)
 unfold ZF1 ZC1
 simp
 refine do_cq (ZF8 h1) (by simp [St.args]) ?_
 simp
 intro hr
 have hS : SizedD d := h2.resolve_left (by omega)
 obtain ⟨ns, q2, q1, q4⟩ := ZFd hS.state.ends
 refine do_cq (ZZ6 hS) (by simp [St.args]) ?_
 simp
 refine do_cq (Zd8 q2) (by simp [St.args]) ?_
 simp
 refine do_co 0 (ZZ6 hS) (by simp [St.args]) (by simp) (by simp) ?_
 simp
 refine do_cl (Zo4 q1) (by simp [St.args]) (by simp) ?_
 simp
 refine do_cq (ZO (Zv (l := ns) q4)) (by simp [St.args]) ?_
 simp
 refine do_cq (ZZ6 hS) (by simp [St.args]) ?_
 simp
 refine do_cq (eqDesk_c hS) (by simp [St.args]) ?_
 simp
 refine do_cf [23000] (Zoc hS 1 (by omega) (by omega)) (by simpa using hvDesk hS 0 1) (by simp) (by simp) ?_
 rintro k ⟨hk0, hk1⟩
 have hkn : ¬ k < 0 := by omega
 simp [hkn]
 refine do_cq (ZO (Zv (l := ns) q4)) (by simp [St.args]) ?_
 simp
 refine do_cm [] [23000] (Zub ns 1 (by omega) (by omega)) rfl (by simp) (by simp) (by simp) ?_
 rintro _ _ _ _ _ _ _ ⟨rfl, rfl, rfl, rfl⟩
 have hk2 : ¬ (1 + (ns.length : Int) < 0) := by omega
 simp
 refine do_cq (ZZ7 ns.length 1 (by omega) (by omega)) (by simp [St.args]) ?_
 simp [hk2]
 refine do_cq (ZZ6 hS) (by simp [St.args]) ?_
 simp
 refine do_cq (Zo4 q1) (by simp [St.args]) ?_
 simp
 refine do_cq (ZO (Zv (l := ns) q4)) (by simp [St.args]) ?_
 simp
 refine do_cq (ZZ7 ns.length 1 (by omega) (by omega)) (by simp [St.args]) ?_
 simp [hk2]
theorem ZX6 (xs : List AV) (h : okVs [ZFb] xs) : Snd Try.prog Zj xs (.bool true) [] := by
 obtain ⟨a, _, rfl, ha, rfl⟩ := h
 obtain ⟨s, ha, hf⟩ := Desk_of3 ha
 exact (Zb8 hf).wkS (.cons ha .nil)
def ZP3 : List Nat := [104, 97, 114, 110, 101, 115, 115, 32, 102, 53, 54, 57, 49, 54, 101, 102, 55, 50, 49, 56, 97, 50, 55, 57, 98, 57, 57, 48, 51, 56, 51, 101, 57, 101, 53, 101, 48, 97, 101, 50, 50, 57, 51, 49, 54, 54, 48, 55, 57, 99, 56, 51, 102, 99, 98, 48, 56, 97, 53, 98, 100, 53, 49, 99, 53, 98, 101, 50, 100, 52, 97, 50, 32, 99, 117, 116, 32, 97, 116, 32, 108, 111, 111, 112, 46, 101, 120, 97, 109, 112, 108, 101, 47, 103, 48, 48, 52, 53, 52, 47, 108, 97, 119, 115, 46, 70, 110, 72, 111, 108, 101, 115, 32, 108, 111, 111, 112, 46, 101, 120, 97, 109, 112, 108, 101, 47, 103, 48, 48, 52, 53, 52, 47, 108, 97, 119, 115, 46, 70, 110, 65, 115, 107, 32, 108, 111, 111, 112, 46, 101, 120, 97, 109, 112, 108, 101, 47, 103, 48, 48, 52, 53, 52, 47, 108, 97, 119, 115, 46, 70, 110, 69, 120, 97, 99, 116, 68, 111, 110, 101, 79, 102, 32, 108, 111, 111, 112, 46, 101, 120, 97, 109, 112, 108, 101, 47, 103, 48, 48, 52, 53, 52, 47, 108, 97, 119, 115, 46, 70, 110, 69, 120, 97, 99, 116, 72, 111, 108, 100, 115, 79, 102]
theorem head_a (p : Program) (h : p.initOrder.toList = ZP3.map Char.ofNat) (h1 : p.laysLater = false) (h2 : p.bearsReflect = false) (h3 : p.doorRows = []) : p.mayEnter = true := by
 unfold Program.mayEnter Program.doorFits
 rw [h, h1, h2, h3]
 kernel_rfl
theorem head_b (p : Program) (h : p.initOrder.toList = ZP3.map Char.ofNat) : p.liftsFinal = false := by
 unfold Program.liftsFinal Program.headLifts
 rw [h]
 kernel_rfl
theorem head_c (p : Program) (h : p.initOrder.toList = ZP3.map Char.ofNat) : p.make = some .cut := by
 unfold Program.make Program.headLifts
 rw [h]
 kernel_rfl
theorem Try.head0 : Try.prog.initOrder = String.ofList (ZP3.map Char.ofNat) := by kernel_rfl
theorem Try.headL : Try.prog.initOrder.toList = ZP3.map Char.ofNat := by rw [Try.head0, String.toList_ofList]
theorem Try.head1 : Try.prog.mayEnter = true := head_a _ Try.headL (by kernel_rfl) (by kernel_rfl) (by kernel_rfl)
theorem Try.head2 : Try.prog.liftsFinal = false := head_b _ Try.headL
theorem Try.head3 : Try.prog.make = some .cut := head_c _ Try.headL
theorem Try.mapsRowed : mapsRowed Try.prog = true := by kernel_rfl
end Go.Proofs.Ytndemhaoilhbbaa
