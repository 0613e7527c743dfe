/-
  Lemmas, part 8: the engine that steps through the code, the walks of functions, and the laws of what they compute.
-/
import Derived.Test.YtndemhaoilhbbaaHA7
namespace Go.Proofs.Ytndemhaoilhbbaa
open Go Go.RowKit Eng
def kB (k b : Int) : Int -> Prop := fun j => k <= j /\ j <= k + b
def Za3 : L :=
 .seq (
 .reg [.mv 4 (.c (.int .i64 0))]) (
 .seq (
 .seq (
 .reg [.mv 5 (.c (.int .i64 0))]) (
 .blk 0 (
  .loop (
   .seq (
   .seq (
   .reg [.mv 6 (.t 5),.mv 7 (.t 0),.oln 8 (.t 7),.bi 9 .lss (.t 6) (.t 8)]) (
   .cond (.t 9) (
    .skip) (
    .exit 0))) (
   .seq (
   .blk 1 (
    .seq (
    .reg [.mv 12 (.t 0),.mv 13 (.t 5),.mv 14 (.t 1),.oia 15 (.t 12) (.t 13) 1,.ost (.t 15) (.t 14)]) (
    .reg [.mv 16 (.t 1),.bi 17 .add (.t 16) (.c (.int .i64 1)),.mv 1 (.t 17)]))) (
   .reg [.mv 10 (.t 5),.bi 11 .add (.t 10) (.c (.int .i64 1)),.mv 5 (.t 11)])))))) (
 .seq (
 .reg [.mv 18 (.t 1),.mv 4 (.t 18)]) (
 .ret)))
def ZZ2 : List Rv := [.t 4]
theorem Zj6 : chkFn Try.prog Zf1 2 Za3 ZZ2 = true := by kernel_rfl
set_option maxRecDepth 10000 in
theorem Zw6 (n : Nat) (hn : n <= 1048576) (k : Int) (h0 : 0 <= k) (h1 : k <= 2251799813685248) :
  Hav Try.prog Zf1 [.od 0 [.i .i64] n, .int .i64 k] (kB k (1 * n)) := by
 refine Ze3 Zj6 rfl (den_W ?_)
 unfold Za3 ZZ2
 simp
 refine Za2 (fun m s => ∃ (i : Nat) (j : Int), m = n - i /\ i <= n /\ k <= j /\ j <= k + 1 * i /\ s.e 0 = .od 0 [.i .i64] n /\ s.e 1 = .int .i64 j /\ s.e 5 = .int .i64 (i : Nat) /\ s.my 0 /\ s.kn 0) n ?_ ?_
 .exact ⟨0, k, by simp⟩
 .rintro m s ⟨i, j, rfl, hi, hj0, hj1, e0, e1, e5, hm, hk⟩
  by_cases h : i < n
  .have hw : ∀ q : Int, 0 <= q -> q <= 4611686018427387904 -> IntKind.i64.wrap q = q := fun q h0 h1 => Z4 (by omega) (by omega)
   simp [e0, e1, e5, h, hm, hk, hw (j + 1) (by omega) (by omega)]
   exact ⟨n - (i + 1), by omega, i + 1, rfl, by omega, j + 1, by omega, by simp; omega, rfl, by rw [hw _ (by omega) (by omega)]; simp⟩
  .have : i = n := by omega
   subst this
   simp [e0, e1, e5, kB, postH]
   omega
def Zy2 : L :=
 .seq (
 .reg [.mv 4 (.c (.int .i64 0))]) (
 .seq (
 .seq (
 .reg [.mv 5 (.c (.int .i64 0))]) (
 .blk 0 (
  .loop (
   .seq (
   .seq (
   .reg [.mv 6 (.t 5),.mv 7 (.t 0),.oln 8 (.t 7),.bi 9 .lss (.t 6) (.t 8)]) (
   .cond (.t 9) (
    .skip) (
    .exit 0))) (
   .seq (
   .blk 1 (
    .seq (
    .reg [.mv 12 (.t 0),.mv 13 (.t 5),.mv 14 (.t 1),.oia 15 (.t 12) (.t 13) 4,.ofa 16 (.t 15) 0,.ost (.t 16) (.t 14)]) (
    .seq (
    .reg [.mv 17 (.t 1),.bi 18 .add (.t 17) (.c (.int .i64 1)),.mv 1 (.t 18)]) (
    .seq (
    .reg [.mv 19 (.t 0),.mv 20 (.t 5),.mv 21 (.t 1),.oia 22 (.t 19) (.t 20) 4,.ofa 23 (.t 22) 1,.ofa 24 (.t 23) 0,.ost (.t 24) (.t 21)]) (
    .seq (
    .reg [.mv 25 (.t 1),.bi 26 .add (.t 25) (.c (.int .i64 1)),.mv 1 (.t 26)]) (
    .seq (
    .reg [.mv 27 (.t 0),.mv 28 (.t 5),.mv 29 (.t 1),.oia 30 (.t 27) (.t 28) 4,.ofa 31 (.t 30) 1,.ofa 32 (.t 31) 1,.ost (.t 32) (.t 29)]) (
    .seq (
    .reg [.mv 33 (.t 1),.bi 34 .add (.t 33) (.c (.int .i64 1)),.mv 1 (.t 34)]) (
    .seq (
    .reg [.mv 35 (.t 0),.mv 36 (.t 5),.mv 37 (.t 1),.oia 38 (.t 35) (.t 36) 4,.ofa 39 (.t 38) 1,.ofa 40 (.t 39) 2,.ost (.t 40) (.t 37)]) (
    .reg [.mv 41 (.t 1),.bi 42 .add (.t 41) (.c (.int .i64 1)),.mv 1 (.t 42)]))))))))) (
   .reg [.mv 10 (.t 5),.bi 11 .add (.t 10) (.c (.int .i64 1)),.mv 5 (.t 11)])))))) (
 .seq (
 .reg [.mv 43 (.t 1),.mv 4 (.t 43)]) (
 .ret)))
def Zh2 : List Rv := [.t 4]
theorem Zq5 : chkFn Try.prog ZM1 2 Zy2 Zh2 = true := by kernel_rfl
set_option maxRecDepth 10000 in
theorem Zda (n : Nat) (hn : n <= 1048576) (k : Int) (h0 : 0 <= k) (h1 : k <= 2251799813685248) :
  Hav Try.prog ZM1 [.od 0 [.i .i64, .i .i64, .i .i64, .i .i64] n, .int .i64 k] (kB k (4 * n)) := by
 refine Ze3 Zq5 rfl (den_W ?_)
 unfold Zy2 Zh2
 simp
 refine Za2 (fun m s => ∃ (i : Nat) (j : Int), m = n - i /\ i <= n /\ k <= j /\ j <= k + 4 * i /\ s.e 0 = .od 0 [.i .i64, .i .i64, .i .i64, .i .i64] n /\ s.e 1 = .int .i64 j /\ s.e 5 = .int .i64 (i : Nat) /\ s.my 0 /\ s.kn 0) n ?_ ?_
 .exact ⟨0, k, by simp⟩
 .rintro m s ⟨i, j, rfl, hi, hj0, hj1, e0, e1, e5, hm, hk⟩
  by_cases h : i < n
  .have hw : ∀ q : Int, 0 <= q -> q <= 4611686018427387904 -> IntKind.i64.wrap q = q := fun q h0 h1 => Z4 (by omega) (by omega)
   simp [e0, e1, e5, h, hm, hk, hw (j + 1) (by omega) (by omega), hw (j + 1 + 1) (by omega) (by omega), hw (j + 1 + 1 + 1) (by omega) (by omega), hw (j + 1 + 1 + 1 + 1) (by omega) (by omega)]
   exact ⟨n - (i + 1), by omega, i + 1, rfl, by omega, j + 1 + 1 + 1 + 1, by omega, by simp; omega, rfl, by rw [hw _ (by omega) (by omega)]; simp⟩
  .have : i = n := by omega
   subst this
   simp [e0, e1, e5, kB, postH]
   omega
def ZA2 : L :=
 .seq (
 .reg [.mv 4 (.c (.int .i64 0))]) (
 .seq (
 .seq (
 .reg [.mv 5 (.c (.int .i64 0))]) (
 .blk 0 (
  .loop (
   .seq (
   .seq (
   .reg [.mv 6 (.t 5),.mv 7 (.t 0),.oln 8 (.t 7),.bi 9 .lss (.t 6) (.t 8)]) (
   .cond (.t 9) (
    .skip) (
    .exit 0))) (
   .seq (
   .blk 1 (
    .seq (
    .reg [.mv 12 (.t 0),.mv 13 (.t 5),.mv 14 (.t 1),.bi 15 .rem (.t 14) (.c (.int .i64 3)),.bi 16 .eql (.t 15) (.c (.int .i64 0)),.oia 17 (.t 12) (.t 13) 1,.ost (.t 17) (.t 16)]) (
    .reg [.mv 18 (.t 1),.bi 19 .add (.t 18) (.c (.int .i64 1)),.mv 1 (.t 19)]))) (
   .reg [.mv 10 (.t 5),.bi 11 .add (.t 10) (.c (.int .i64 1)),.mv 5 (.t 11)])))))) (
 .seq (
 .reg [.mv 20 (.t 1),.mv 4 (.t 20)]) (
 .ret)))
def Zj2 : List Rv := [.t 4]
theorem Zs5 : chkFn Try.prog ZO1 2 ZA2 Zj2 = true := by kernel_rfl
set_option maxRecDepth 10000 in
theorem Zea (n : Nat) (hn : n <= 1048576) (k : Int) (h0 : 0 <= k) (h1 : k <= 2251799813685248) :
  Hav Try.prog ZO1 [.od 0 [.b] n, .int .i64 k] (kB k (1 * n)) := by
 refine Ze3 Zs5 rfl (den_W ?_)
 unfold ZA2 Zj2
 simp
 refine Za2 (fun m s => ∃ (i : Nat) (j : Int), m = n - i /\ i <= n /\ k <= j /\ j <= k + 1 * i /\ s.e 0 = .od 0 [.b] n /\ s.e 1 = .int .i64 j /\ s.e 5 = .int .i64 (i : Nat) /\ s.my 0 /\ s.kn 0) n ?_ ?_
 .exact ⟨0, k, by simp⟩
 .rintro m s ⟨i, j, rfl, hi, hj0, hj1, e0, e1, e5, hm, hk⟩
  by_cases h : i < n
  .have hw : ∀ q : Int, 0 <= q -> q <= 4611686018427387904 -> IntKind.i64.wrap q = q := fun q h0 h1 => Z4 (by omega) (by omega)
   simp [e0, e1, e5, h, hm, hk, hw (j + 1) (by omega) (by omega)]
   exact ⟨n - (i + 1), by omega, i + 1, rfl, by omega, j + 1, by omega, by simp; omega, rfl, by rw [hw _ (by omega) (by omega)]; simp⟩
  .have : i = n := by omega
   subst this
   simp [e0, e1, e5, kB, postH]
   omega
def Z93 : L :=
 .seq (
 .reg [.mv 4 (.c (.int .i64 0))]) (
 .seq (
 .seq (
 .reg [.mv 5 (.c (.int .i64 0))]) (
 .blk 0 (
  .loop (
   .seq (
   .seq (
   .reg [.mv 6 (.t 5),.mv 7 (.t 0),.oln 8 (.t 7),.bi 9 .lss (.t 6) (.t 8)]) (
   .cond (.t 9) (
    .skip) (
    .exit 0))) (
   .seq (
   .blk 1 (
    .seq (
    .reg [.mv 12 (.t 0),.mv 13 (.t 5),.mv 14 (.t 1),.oia 15 (.t 12) (.t 13) 11,.ofa 16 (.t 15) 0,.ost (.t 16) (.t 14)]) (
    .seq (
    .reg [.mv 17 (.t 1),.bi 18 .add (.t 17) (.c (.int .i64 1)),.mv 1 (.t 18)]) (
    .seq (
    .reg [.mv 19 (.t 0),.mv 20 (.t 5),.mv 21 (.t 1),.oia 22 (.t 19) (.t 20) 11,.ofa 23 (.t 22) 1,.ost (.t 23) (.t 21)]) (
    .seq (
    .reg [.mv 24 (.t 1),.bi 25 .add (.t 24) (.c (.int .i64 1)),.mv 1 (.t 25)]) (
    .seq (
    .reg [.mv 26 (.t 0),.mv 27 (.t 5),.mv 28 (.t 1),.oia 29 (.t 26) (.t 27) 11,.ofa 30 (.t 29) 2,.ost (.t 30) (.t 28)]) (
    .seq (
    .reg [.mv 31 (.t 1),.bi 32 .add (.t 31) (.c (.int .i64 1)),.mv 1 (.t 32)]) (
    .seq (
    .reg [.mv 33 (.t 0),.mv 34 (.t 5),.mv 35 (.t 1),.oia 36 (.t 33) (.t 34) 11,.ofa 37 (.t 36) 3,.ofa 38 (.t 37) 0,.ost (.t 38) (.t 35)]) (
    .seq (
    .reg [.mv 39 (.t 1),.bi 40 .add (.t 39) (.c (.int .i64 1)),.mv 1 (.t 40)]) (
    .seq (
    .reg [.mv 41 (.t 0),.mv 42 (.t 5),.mv 43 (.t 1),.oia 44 (.t 41) (.t 42) 11,.ofa 45 (.t 44) 3,.ofa 46 (.t 45) 1,.ost (.t 46) (.t 43)]) (
    .seq (
    .reg [.mv 47 (.t 1),.bi 48 .add (.t 47) (.c (.int .i64 1)),.mv 1 (.t 48)]) (
    .seq (
    .reg [.mv 49 (.t 0),.mv 50 (.t 5),.mv 51 (.t 1),.oia 52 (.t 49) (.t 50) 11,.ofa 53 (.t 52) 3,.ofa 54 (.t 53) 2,.ost (.t 54) (.t 51)]) (
    .seq (
    .reg [.mv 55 (.t 1),.bi 56 .add (.t 55) (.c (.int .i64 1)),.mv 1 (.t 56)]) (
    .seq (
    .reg [.mv 57 (.t 0),.mv 58 (.t 5),.mv 59 (.t 1),.oia 60 (.t 57) (.t 58) 11,.ofa 61 (.t 60) 6,.ofa 62 (.t 61) 0,.ost (.t 62) (.t 59)]) (
    .seq (
    .reg [.mv 63 (.t 1),.bi 64 .add (.t 63) (.c (.int .i64 1)),.mv 1 (.t 64)]) (
    .seq (
    .reg [.mv 65 (.t 0),.mv 66 (.t 5),.mv 67 (.t 1),.oia 68 (.t 65) (.t 66) 11,.ofa 69 (.t 68) 6,.ofa 70 (.t 69) 1,.ost (.t 70) (.t 67)]) (
    .seq (
    .reg [.mv 71 (.t 1),.bi 72 .add (.t 71) (.c (.int .i64 1)),.mv 1 (.t 72)]) (
    .seq (
    .reg [.mv 73 (.t 0),.mv 74 (.t 5),.mv 75 (.t 1),.oia 76 (.t 73) (.t 74) 11,.ofa 77 (.t 76) 6,.ofa 78 (.t 77) 2,.ost (.t 78) (.t 75)]) (
    .seq (
    .reg [.mv 79 (.t 1),.bi 80 .add (.t 79) (.c (.int .i64 1)),.mv 1 (.t 80)]) (
    .seq (
    .reg [.mv 81 (.t 0),.mv 82 (.t 5),.mv 83 (.t 1),.oia 84 (.t 81) (.t 82) 11,.ofa 85 (.t 84) 9,.ost (.t 85) (.t 83)]) (
    .seq (
    .reg [.mv 86 (.t 1),.bi 87 .add (.t 86) (.c (.int .i64 1)),.mv 1 (.t 87)]) (
    .seq (
    .reg [.mv 88 (.t 0),.mv 89 (.t 5),.mv 90 (.t 1),.oia 91 (.t 88) (.t 89) 11,.ofa 92 (.t 91) 10,.ost (.t 92) (.t 90)]) (
    .reg [.mv 93 (.t 1),.bi 94 .add (.t 93) (.c (.int .i64 1)),.mv 1 (.t 94)]))))))))))))))))))))))) (
   .reg [.mv 10 (.t 5),.bi 11 .add (.t 10) (.c (.int .i64 1)),.mv 5 (.t 11)])))))) (
 .seq (
 .reg [.mv 95 (.t 1),.mv 4 (.t 95)]) (
 .ret)))
def ZY2 : List Rv := [.t 4]
theorem Zi6 : chkFn Try.prog Zd2 2 Z93 ZY2 = true := by kernel_rfl
set_option maxRecDepth 10000 in
theorem Zdb (n : Nat) (hn : n <= 1048576) (k : Int) (h0 : 0 <= k) (h1 : k <= 2251799813685248) :
  Hav Try.prog Zd2 [.od 0 [.i .i64, .i .i64, .i .i64, .i .i64, .i .i64, .i .i64, .i .i64, .i .i64, .i .i64, .i .i64, .i .i64] n, .int .i64 k] (kB k (11 * n)) := by
 refine Ze3 Zi6 rfl (den_W ?_)
 unfold Z93 ZY2
 simp
 refine Za2 (fun m s => ∃ (i : Nat) (j : Int), m = n - i /\ i <= n /\ k <= j /\ j <= k + 11 * i /\ s.e 0 = .od 0 [.i .i64, .i .i64, .i .i64, .i .i64, .i .i64, .i .i64, .i .i64, .i .i64, .i .i64, .i .i64, .i .i64] n /\ s.e 1 = .int .i64 j /\ s.e 5 = .int .i64 (i : Nat) /\ s.my 0 /\ s.kn 0) n ?_ ?_
 .exact ⟨0, k, by simp⟩
 .rintro m s ⟨i, j, rfl, hi, hj0, hj1, e0, e1, e5, hm, hk⟩
  by_cases h : i < n
  .have hw : ∀ q : Int, 0 <= q -> q <= 4611686018427387904 -> IntKind.i64.wrap q = q := fun q h0 h1 => Z4 (by omega) (by omega)
   simp [e0, e1, e5, h, hm, hk, hw (j + 1) (by omega) (by omega), hw (j + 1 + 1) (by omega) (by omega), hw (j + 1 + 1 + 1) (by omega) (by omega), hw (j + 1 + 1 + 1 + 1) (by omega) (by omega), hw (j + 1 + 1 + 1 + 1 + 1) (by omega) (by omega), hw (j + 1 + 1 + 1 + 1 + 1 + 1) (by omega) (by omega), hw (j + 1 + 1 + 1 + 1 + 1 + 1 + 1) (by omega) (by omega), hw (j + 1 + 1 + 1 + 1 + 1 + 1 + 1 + 1) (by omega) (by omega), hw (j + 1 + 1 + 1 + 1 + 1 + 1 + 1 + 1 + 1) (by omega) (by omega), hw (j + 1 + 1 + 1 + 1 + 1 + 1 + 1 + 1 + 1 + 1) (by omega) (by omega), hw (j + 1 + 1 + 1 + 1 + 1 + 1 + 1 + 1 + 1 + 1 + 1) (by omega) (by omega)]
   exact ⟨n - (i + 1), by omega, i + 1, rfl, by omega, j + 1 + 1 + 1 + 1 + 1 + 1 + 1 + 1 + 1 + 1 + 1, by omega, by simp; omega, rfl, by rw [hw _ (by omega) (by omega)]; simp⟩
  .have : i = n := by omega
   subst this
   simp [e0, e1, e5, kB, postH]
   omega
def Zb3 : L :=
 .seq (
 .reg [.mv 4 (.c (.int .i64 0))]) (
 .seq (
 .seq (
 .reg [.mv 5 (.c (.int .i64 0))]) (
 .blk 0 (
  .loop (
   .seq (
   .seq (
   .reg [.mv 6 (.t 5),.mv 7 (.t 0),.oln 8 (.t 7),.bi 9 .lss (.t 6) (.t 8)]) (
   .cond (.t 9) (
    .skip) (
    .exit 0))) (
   .seq (
   .blk 1 (
    .seq (
    .reg [.mv 12 (.t 0),.mv 13 (.t 5),.mv 14 (.t 1),.oia 15 (.t 12) (.t 13) 3,.ofa 16 (.t 15) 0,.ost (.t 16) (.t 14)]) (
    .seq (
    .reg [.mv 17 (.t 1),.bi 18 .add (.t 17) (.c (.int .i64 1)),.mv 1 (.t 18)]) (
    .seq (
    .reg [.mv 19 (.t 0),.mv 20 (.t 5),.mv 21 (.t 1),.oia 22 (.t 19) (.t 20) 3,.ofa 23 (.t 22) 1,.ost (.t 23) (.t 21)]) (
    .seq (
    .reg [.mv 24 (.t 1),.bi 25 .add (.t 24) (.c (.int .i64 1)),.mv 1 (.t 25)]) (
    .seq (
    .reg [.mv 26 (.t 0),.mv 27 (.t 5),.mv 28 (.t 1),.oia 29 (.t 26) (.t 27) 3,.ofa 30 (.t 29) 2,.ost (.t 30) (.t 28)]) (
    .reg [.mv 31 (.t 1),.bi 32 .add (.t 31) (.c (.int .i64 1)),.mv 1 (.t 32)]))))))) (
   .reg [.mv 10 (.t 5),.bi 11 .add (.t 10) (.c (.int .i64 1)),.mv 5 (.t 11)])))))) (
 .seq (
 .reg [.mv 33 (.t 1),.mv 4 (.t 33)]) (
 .ret)))
def Z03 : List Rv := [.t 4]
theorem Zk6 : chkFn Try.prog Ze2 2 Zb3 Z03 = true := by kernel_rfl
set_option maxRecDepth 10000 in
theorem Zfb (n : Nat) (hn : n <= 1048576) (k : Int) (h0 : 0 <= k) (h1 : k <= 2251799813685248) :
  Hav Try.prog Ze2 [.od 0 [.i .i64, .i .i64, .i .i64] n, .int .i64 k] (kB k (3 * n)) := by
 refine Ze3 Zk6 rfl (den_W ?_)
 unfold Zb3 Z03
 simp
 refine Za2 (fun m s => ∃ (i : Nat) (j : Int), m = n - i /\ i <= n /\ k <= j /\ j <= k + 3 * i /\ s.e 0 = .od 0 [.i .i64, .i .i64, .i .i64] n /\ s.e 1 = .int .i64 j /\ s.e 5 = .int .i64 (i : Nat) /\ s.my 0 /\ s.kn 0) n ?_ ?_
 .exact ⟨0, k, by simp⟩
 .rintro m s ⟨i, j, rfl, hi, hj0, hj1, e0, e1, e5, hm, hk⟩
  by_cases h : i < n
  .have hw : ∀ q : Int, 0 <= q -> q <= 4611686018427387904 -> IntKind.i64.wrap q = q := fun q h0 h1 => Z4 (by omega) (by omega)
   simp [e0, e1, e5, h, hm, hk, hw (j + 1) (by omega) (by omega), hw (j + 1 + 1) (by omega) (by omega), hw (j + 1 + 1 + 1) (by omega) (by omega)]
   exact ⟨n - (i + 1), by omega, i + 1, rfl, by omega, j + 1 + 1 + 1, by omega, by simp; omega, rfl, by rw [hw _ (by omega) (by omega)]; simp⟩
  .have : i = n := by omega
   subst this
   simp [e0, e1, e5, kB, postH]
   omega
def Zd3 : L :=
 .seq (
 .reg [.mv 4 (.c (.int .i64 0))]) (
 .seq (
 .seq (
 .reg [.mv 5 (.c (.int .i64 0))]) (
 .blk 0 (
  .loop (
   .seq (
   .seq (
   .reg [.mv 6 (.t 5),.mv 7 (.t 0),.oln 8 (.t 7),.bi 9 .lss (.t 6) (.t 8)]) (
   .cond (.t 9) (
    .skip) (
    .exit 0))) (
   .seq (
   .blk 1 (
    .seq (
    .reg [.mv 12 (.t 0),.mv 13 (.t 5),.mv 14 (.t 1),.oia 15 (.t 12) (.t 13) 2,.ofa 16 (.t 15) 0,.ost (.t 16) (.t 14)]) (
    .seq (
    .reg [.mv 17 (.t 1),.bi 18 .add (.t 17) (.c (.int .i64 1)),.mv 1 (.t 18)]) (
    .seq (
    .reg [.mv 19 (.t 0),.mv 20 (.t 5),.mv 21 (.t 1),.oia 22 (.t 19) (.t 20) 2,.ofa 23 (.t 22) 1,.ost (.t 23) (.t 21)]) (
    .reg [.mv 24 (.t 1),.bi 25 .add (.t 24) (.c (.int .i64 1)),.mv 1 (.t 25)]))))) (
   .reg [.mv 10 (.t 5),.bi 11 .add (.t 10) (.c (.int .i64 1)),.mv 5 (.t 11)])))))) (
 .seq (
 .reg [.mv 26 (.t 1),.mv 4 (.t 26)]) (
 .ret)))
def Z23 : List Rv := [.t 4]
theorem Zm6 : chkFn Try.prog Zf2 2 Zd3 Z23 = true := by kernel_rfl
set_option maxRecDepth 10000 in
theorem Zhb (n : Nat) (hn : n <= 1048576) (k : Int) (h0 : 0 <= k) (h1 : k <= 2251799813685248) :
  Hav Try.prog Zf2 [.od 0 [.i .i64, .i .i64] n, .int .i64 k] (kB k (2 * n)) := by
 refine Ze3 Zm6 rfl (den_W ?_)
 unfold Zd3 Z23
 simp
 refine Za2 (fun m s => ∃ (i : Nat) (j : Int), m = n - i /\ i <= n /\ k <= j /\ j <= k + 2 * i /\ s.e 0 = .od 0 [.i .i64, .i .i64] n /\ s.e 1 = .int .i64 j /\ s.e 5 = .int .i64 (i : Nat) /\ s.my 0 /\ s.kn 0) n ?_ ?_
 .exact ⟨0, k, by simp⟩
 .rintro m s ⟨i, j, rfl, hi, hj0, hj1, e0, e1, e5, hm, hk⟩
  by_cases h : i < n
  .have hw : ∀ q : Int, 0 <= q -> q <= 4611686018427387904 -> IntKind.i64.wrap q = q := fun q h0 h1 => Z4 (by omega) (by omega)
   simp [e0, e1, e5, h, hm, hk, hw (j + 1) (by omega) (by omega), hw (j + 1 + 1) (by omega) (by omega)]
   exact ⟨n - (i + 1), by omega, i + 1, rfl, by omega, j + 1 + 1, by omega, by simp; omega, rfl, by rw [hw _ (by omega) (by omega)]; simp⟩
  .have : i = n := by omega
   subst this
   simp [e0, e1, e5, kB, postH]
   omega
def ZB1 : L :=
 .seq (
 .reg [.mv 4 (.c (.int .i64 0))]) (
 .seq (
 .seq (
 .reg [.mv 5 (.c (.int .i64 0))]) (
 .blk 0 (
  .loop (
   .seq (
   .seq (
   .reg [.mv 6 (.t 5),.mv 7 (.t 0),.oln 8 (.t 7),.bi 9 .lss (.t 6) (.t 8)]) (
   .cond (.t 9) (
    .skip) (
    .exit 0))) (
   .seq (
   .blk 1 (
    .seq (
    .reg [.mv 12 (.t 0),.mv 13 (.t 5),.mv 14 (.t 1),.cq 15 Zi [(.t 14)],.oia 16 (.t 12) (.t 13) 3,.ofa 17 (.t 16) 0,.ost (.t 17) (.t 15)]) (
    .seq (
    .reg [.mv 18 (.t 1),.bi 19 .add (.t 18) (.c (.int .i64 1)),.mv 1 (.t 19)]) (
    .seq (
    .reg [.mv 20 (.t 0),.mv 21 (.t 5),.mv 22 (.t 1),.oia 23 (.t 20) (.t 21) 3,.ofa 24 (.t 23) 1,.ost (.t 24) (.t 22)]) (
    .seq (
    .reg [.mv 25 (.t 1),.bi 26 .add (.t 25) (.c (.int .i64 1)),.mv 1 (.t 26)]) (
    .seq (
    .reg [.mv 27 (.t 0),.mv 28 (.t 5),.mv 29 (.t 1),.oia 30 (.t 27) (.t 28) 3,.ofa 31 (.t 30) 2,.ost (.t 31) (.t 29)]) (
    .reg [.mv 32 (.t 1),.bi 33 .add (.t 32) (.c (.int .i64 1)),.mv 1 (.t 33)]))))))) (
   .reg [.mv 10 (.t 5),.bi 11 .add (.t 10) (.c (.int .i64 1)),.mv 5 (.t 11)])))))) (
 .seq (
 .reg [.mv 34 (.t 1),.mv 4 (.t 34)]) (
 .ret)))
def Zz1 : List Rv := [.t 4]
theorem Z34 : chkFn Try.prog ZV 2 ZB1 Zz1 = true := by kernel_rfl
set_option maxRecDepth 10000 in
theorem ZF6 (n : Nat) (hn : n <= 1048576) (k : Int) (h0 : 0 <= k) (h1 : k <= 2251799813685248) :
  Hav Try.prog ZV [.od 0 [.s, .i .i64, .i .i64] n, .int .i64 k] (kB k (3 * n)) := by
 refine Ze3 Z34 rfl (den_W ?_)
 unfold ZB1 Zz1
 simp
 refine Za2 (fun m s => ∃ (i : Nat) (j : Int), m = n - i /\ i <= n /\ k <= j /\ j <= k + 3 * i /\ s.e 0 = .od 0 [.s, .i .i64, .i .i64] n /\ s.e 1 = .int .i64 j /\ s.e 5 = .int .i64 (i : Nat) /\ s.my 0 /\ s.kn 0) n ?_ ?_
 .exact ⟨0, k, by simp⟩
 .rintro m s ⟨i, j, rfl, hi, hj0, hj1, e0, e1, e5, hm, hk⟩
  by_cases h : i < n
  .have hw : ∀ q : Int, 0 <= q -> q <= 4611686018427387904 -> IntKind.i64.wrap q = q := fun q h0 h1 => Z4 (by omega) (by omega)
   simp [e0, e1, e5, h]
   refine do_cq (Z22 j (by omega) (by omega)) (by simp [St.args]) ?_
   simp [e0, e1, e5, h, hm, hk, hw (j + 1) (by omega) (by omega), hw (j + 1 + 1) (by omega) (by omega), hw (j + 1 + 1 + 1) (by omega) (by omega)]
   exact ⟨n - (i + 1), by omega, i + 1, rfl, by omega, j + 1 + 1 + 1, by omega, by simp; omega, rfl, by rw [hw _ (by omega) (by omega)]; simp⟩
  .have : i = n := by omega
   subst this
   simp [e0, e1, e5, kB, postH]
   omega
def Z72 : L :=
 .seq (
 .reg [.mv 4 (.c (.int .i64 0))]) (
 .seq (
 .seq (
 .reg [.mv 5 (.c (.int .i64 0))]) (
 .blk 0 (
  .loop (
   .seq (
   .seq (
   .reg [.mv 6 (.t 5),.mv 7 (.t 0),.oln 8 (.t 7),.bi 9 .lss (.t 6) (.t 8)]) (
   .cond (.t 9) (
    .skip) (
    .exit 0))) (
   .seq (
   .blk 1 (
    .seq (
    .reg [.mv 12 (.t 0),.mv 13 (.t 5),.mv 14 (.t 1),.cq 15 Zi [(.t 14)],.oia 16 (.t 12) (.t 13) 6,.ofa 17 (.t 16) 0,.ost (.t 17) (.t 15)]) (
    .seq (
    .reg [.mv 18 (.t 1),.bi 19 .add (.t 18) (.c (.int .i64 1)),.mv 1 (.t 19)]) (
    .seq (
    .reg [.mv 20 (.t 0),.mv 21 (.t 5),.mv 22 (.t 1),.oia 23 (.t 20) (.t 21) 6,.ofa 24 (.t 23) 1,.ost (.t 24) (.t 22)]) (
    .seq (
    .reg [.mv 25 (.t 1),.bi 26 .add (.t 25) (.c (.int .i64 1)),.mv 1 (.t 26)]) (
    .seq (
    .reg [.mv 27 (.t 0),.mv 28 (.t 5),.mv 29 (.t 1),.oia 30 (.t 27) (.t 28) 6,.ofa 31 (.t 30) 2,.ost (.t 31) (.t 29)]) (
    .seq (
    .reg [.mv 32 (.t 1),.bi 33 .add (.t 32) (.c (.int .i64 1)),.mv 1 (.t 33)]) (
    .seq (
    .reg [.mv 34 (.t 0),.mv 35 (.t 5),.mv 36 (.t 1),.oia 37 (.t 34) (.t 35) 6,.ofa 38 (.t 37) 3,.ofa 39 (.t 38) 0,.ost (.t 39) (.t 36)]) (
    .seq (
    .reg [.mv 40 (.t 1),.bi 41 .add (.t 40) (.c (.int .i64 1)),.mv 1 (.t 41)]) (
    .seq (
    .reg [.mv 42 (.t 0),.mv 43 (.t 5),.mv 44 (.t 1),.oia 45 (.t 42) (.t 43) 6,.ofa 46 (.t 45) 3,.ofa 47 (.t 46) 1,.ost (.t 47) (.t 44)]) (
    .seq (
    .reg [.mv 48 (.t 1),.bi 49 .add (.t 48) (.c (.int .i64 1)),.mv 1 (.t 49)]) (
    .seq (
    .reg [.mv 50 (.t 0),.mv 51 (.t 5),.mv 52 (.t 1),.oia 53 (.t 50) (.t 51) 6,.ofa 54 (.t 53) 3,.ofa 55 (.t 54) 2,.ost (.t 55) (.t 52)]) (
    .reg [.mv 56 (.t 1),.bi 57 .add (.t 56) (.c (.int .i64 1)),.mv 1 (.t 57)]))))))))))))) (
   .reg [.mv 10 (.t 5),.bi 11 .add (.t 10) (.c (.int .i64 1)),.mv 5 (.t 11)])))))) (
 .seq (
 .reg [.mv 58 (.t 1),.mv 4 (.t 58)]) (
 .ret)))
def Z02 : List Rv := [.t 4]
theorem ZV4 : chkFn Try.prog Zm1 2 Z72 Z02 = true := by kernel_rfl
set_option maxRecDepth 10000 in
theorem ZC8 (n : Nat) (hn : n <= 1048576) (k : Int) (h0 : 0 <= k) (h1 : k <= 2251799813685248) :
  Hav Try.prog Zm1 [.od 0 [.s, .i .i64, .i .i64, .i .i64, .i .i64, .i .i64] n, .int .i64 k] (kB k (6 * n)) := by
 refine Ze3 ZV4 rfl (den_W ?_)
 unfold Z72 Z02
 simp
 refine Za2 (fun m s => ∃ (i : Nat) (j : Int), m = n - i /\ i <= n /\ k <= j /\ j <= k + 6 * i /\ s.e 0 = .od 0 [.s, .i .i64, .i .i64, .i .i64, .i .i64, .i .i64] n /\ s.e 1 = .int .i64 j /\ s.e 5 = .int .i64 (i : Nat) /\ s.my 0 /\ s.kn 0) n ?_ ?_
 .exact ⟨0, k, by simp⟩
 .rintro m s ⟨i, j, rfl, hi, hj0, hj1, e0, e1, e5, hm, hk⟩
  by_cases h : i < n
  .have hw : ∀ q : Int, 0 <= q -> q <= 4611686018427387904 -> IntKind.i64.wrap q = q := fun q h0 h1 => Z4 (by omega) (by omega)
   simp [e0, e1, e5, h]
   refine do_cq (Z22 j (by omega) (by omega)) (by simp [St.args]) ?_
   simp [e0, e1, e5, h, hm, hk, hw (j + 1) (by omega) (by omega), hw (j + 1 + 1) (by omega) (by omega), hw (j + 1 + 1 + 1) (by omega) (by omega), hw (j + 1 + 1 + 1 + 1) (by omega) (by omega), hw (j + 1 + 1 + 1 + 1 + 1) (by omega) (by omega), hw (j + 1 + 1 + 1 + 1 + 1 + 1) (by omega) (by omega)]
   exact ⟨n - (i + 1), by omega, i + 1, rfl, by omega, j + 1 + 1 + 1 + 1 + 1 + 1, by omega, by simp; omega, rfl, by rw [hw _ (by omega) (by omega)]; simp⟩
  .have : i = n := by omega
   subst this
   simp [e0, e1, e5, kB, postH]
   omega
def Z82 : L :=
 .seq (
 .reg [.mv 4 (.c (.int .i64 0))]) (
 .seq (
 .seq (
 .reg [.mv 5 (.c (.int .i64 0))]) (
 .blk 0 (
  .loop (
   .seq (
   .seq (
   .reg [.mv 6 (.t 5),.mv 7 (.t 0),.oln 8 (.t 7),.bi 9 .lss (.t 6) (.t 8)]) (
   .cond (.t 9) (
    .skip) (
    .exit 0))) (
   .seq (
   .blk 1 (
    .seq (
    .reg [.mv 12 (.t 0),.mv 13 (.t 5),.mv 14 (.t 1),.oia 15 (.t 12) (.t 13) 2,.ofa 16 (.t 15) 0,.ost (.t 16) (.t 14)]) (
    .seq (
    .reg [.mv 17 (.t 1),.bi 18 .add (.t 17) (.c (.int .i64 1)),.mv 1 (.t 18)]) (
    .seq (
    .reg [.mv 19 (.t 0),.mv 20 (.t 5),.mv 21 (.t 1),.cq 22 Zi [(.t 21)],.oia 23 (.t 19) (.t 20) 2,.ofa 24 (.t 23) 1,.ost (.t 24) (.t 22)]) (
    .reg [.mv 25 (.t 1),.bi 26 .add (.t 25) (.c (.int .i64 1)),.mv 1 (.t 26)]))))) (
   .reg [.mv 10 (.t 5),.bi 11 .add (.t 10) (.c (.int .i64 1)),.mv 5 (.t 11)])))))) (
 .seq (
 .reg [.mv 27 (.t 1),.mv 4 (.t 27)]) (
 .ret)))
def Z12 : List Rv := [.t 4]
theorem ZW4 : chkFn Try.prog Zn1 2 Z82 Z12 = true := by kernel_rfl
set_option maxRecDepth 10000 in
theorem ZD8 (n : Nat) (hn : n <= 1048576) (k : Int) (h0 : 0 <= k) (h1 : k <= 2251799813685248) :
  Hav Try.prog Zn1 [.od 0 [.i .i64, .s] n, .int .i64 k] (kB k (2 * n)) := by
 refine Ze3 ZW4 rfl (den_W ?_)
 unfold Z82 Z12
 simp
 refine Za2 (fun m s => ∃ (i : Nat) (j : Int), m = n - i /\ i <= n /\ k <= j /\ j <= k + 2 * i /\ s.e 0 = .od 0 [.i .i64, .s] n /\ s.e 1 = .int .i64 j /\ s.e 5 = .int .i64 (i : Nat) /\ s.my 0 /\ s.kn 0) n ?_ ?_
 .exact ⟨0, k, by simp⟩
 .rintro m s ⟨i, j, rfl, hi, hj0, hj1, e0, e1, e5, hm, hk⟩
  by_cases h : i < n
  .have hw : ∀ q : Int, 0 <= q -> q <= 4611686018427387904 -> IntKind.i64.wrap q = q := fun q h0 h1 => Z4 (by omega) (by omega)
   simp [e0, e1, e5, h, hm, hk, hw (j + 1) (by omega) (by omega)]
   refine do_cq (Z22 (j + 1) (by omega) (by omega)) (by simp [St.args]) ?_
   simp [e0, e5, h, hm, hk, hw (j + 1 + 1) (by omega) (by omega)]
   exact ⟨n - (i + 1), by omega, i + 1, rfl, by omega, j + 1 + 1, by omega, by simp; omega, rfl, by rw [hw _ (by omega) (by omega)]; simp⟩
  .have : i = n := by omega
   subst this
   simp [e0, e1, e5, kB, postH]
   omega
def Z83 : L :=
 .seq (
 .reg [.mv 4 (.c (.int .i64 0))]) (
 .seq (
 .seq (
 .reg [.mv 5 (.c (.int .i64 0))]) (
 .blk 0 (
  .loop (
   .seq (
   .seq (
   .reg [.mv 6 (.t 5),.mv 7 (.t 0),.oln 8 (.t 7),.bi 9 .lss (.t 6) (.t 8)]) (
   .cond (.t 9) (
    .skip) (
    .exit 0))) (
   .seq (
   .blk 1 (
    .seq (
    .reg [.mv 12 (.t 0),.mv 13 (.t 5),.mv 14 (.t 1),.oia 15 (.t 12) (.t 13) 13,.ofa 16 (.t 15) 0,.ofa 17 (.t 16) 0,.ost (.t 17) (.t 14)]) (
    .seq (
    .reg [.mv 18 (.t 1),.bi 19 .add (.t 18) (.c (.int .i64 1)),.mv 1 (.t 19)]) (
    .seq (
    .reg [.mv 20 (.t 0),.mv 21 (.t 5),.mv 22 (.t 1),.oia 23 (.t 20) (.t 21) 13,.ofa 24 (.t 23) 0,.ofa 25 (.t 24) 1,.ost (.t 25) (.t 22)]) (
    .seq (
    .reg [.mv 26 (.t 1),.bi 27 .add (.t 26) (.c (.int .i64 1)),.mv 1 (.t 27)]) (
    .seq (
    .reg [.mv 28 (.t 0),.mv 29 (.t 5),.mv 30 (.t 1),.oia 31 (.t 28) (.t 29) 13,.ofa 32 (.t 31) 0,.ofa 33 (.t 32) 2,.ost (.t 33) (.t 30)]) (
    .seq (
    .reg [.mv 34 (.t 1),.bi 35 .add (.t 34) (.c (.int .i64 1)),.mv 1 (.t 35)]) (
    .seq (
    .reg [.mv 36 (.t 0),.mv 37 (.t 5),.mv 38 (.t 1),.oia 39 (.t 36) (.t 37) 13,.ofa 40 (.t 39) 0,.ofa 41 (.t 40) 3,.ofa 42 (.t 41) 0,.ost (.t 42) (.t 38)]) (
    .seq (
    .reg [.mv 43 (.t 1),.bi 44 .add (.t 43) (.c (.int .i64 1)),.mv 1 (.t 44)]) (
    .seq (
    .reg [.mv 45 (.t 0),.mv 46 (.t 5),.mv 47 (.t 1),.oia 48 (.t 45) (.t 46) 13,.ofa 49 (.t 48) 0,.ofa 50 (.t 49) 3,.ofa 51 (.t 50) 1,.ost (.t 51) (.t 47)]) (
    .seq (
    .reg [.mv 52 (.t 1),.bi 53 .add (.t 52) (.c (.int .i64 1)),.mv 1 (.t 53)]) (
    .seq (
    .reg [.mv 54 (.t 0),.mv 55 (.t 5),.mv 56 (.t 1),.oia 57 (.t 54) (.t 55) 13,.ofa 58 (.t 57) 0,.ofa 59 (.t 58) 3,.ofa 60 (.t 59) 2,.ost (.t 60) (.t 56)]) (
    .seq (
    .reg [.mv 61 (.t 1),.bi 62 .add (.t 61) (.c (.int .i64 1)),.mv 1 (.t 62)]) (
    .seq (
    .reg [.mv 63 (.t 0),.mv 64 (.t 5),.mv 65 (.t 1),.oia 66 (.t 63) (.t 64) 13,.ofa 67 (.t 66) 0,.ofa 68 (.t 67) 6,.ofa 69 (.t 68) 0,.ost (.t 69) (.t 65)]) (
    .seq (
    .reg [.mv 70 (.t 1),.bi 71 .add (.t 70) (.c (.int .i64 1)),.mv 1 (.t 71)]) (
    .seq (
    .reg [.mv 72 (.t 0),.mv 73 (.t 5),.mv 74 (.t 1),.oia 75 (.t 72) (.t 73) 13,.ofa 76 (.t 75) 0,.ofa 77 (.t 76) 6,.ofa 78 (.t 77) 1,.ost (.t 78) (.t 74)]) (
    .seq (
    .reg [.mv 79 (.t 1),.bi 80 .add (.t 79) (.c (.int .i64 1)),.mv 1 (.t 80)]) (
    .seq (
    .reg [.mv 81 (.t 0),.mv 82 (.t 5),.mv 83 (.t 1),.oia 84 (.t 81) (.t 82) 13,.ofa 85 (.t 84) 0,.ofa 86 (.t 85) 6,.ofa 87 (.t 86) 2,.ost (.t 87) (.t 83)]) (
    .seq (
    .reg [.mv 88 (.t 1),.bi 89 .add (.t 88) (.c (.int .i64 1)),.mv 1 (.t 89)]) (
    .seq (
    .reg [.mv 90 (.t 0),.mv 91 (.t 5),.mv 92 (.t 1),.oia 93 (.t 90) (.t 91) 13,.ofa 94 (.t 93) 0,.ofa 95 (.t 94) 9,.ost (.t 95) (.t 92)]) (
    .seq (
    .reg [.mv 96 (.t 1),.bi 97 .add (.t 96) (.c (.int .i64 1)),.mv 1 (.t 97)]) (
    .seq (
    .reg [.mv 98 (.t 0),.mv 99 (.t 5),.mv 100 (.t 1),.oia 101 (.t 98) (.t 99) 13,.ofa 102 (.t 101) 0,.ofa 103 (.t 102) 10,.ost (.t 103) (.t 100)]) (
    .seq (
    .reg [.mv 104 (.t 1),.bi 105 .add (.t 104) (.c (.int .i64 1)),.mv 1 (.t 105)]) (
    .seq (
    .reg [.mv 106 (.t 0),.mv 107 (.t 5),.mv 108 (.t 1),.oia 109 (.t 106) (.t 107) 13,.ofa 110 (.t 109) 11,.ost (.t 110) (.t 108)]) (
    .seq (
    .reg [.mv 111 (.t 1),.bi 112 .add (.t 111) (.c (.int .i64 1)),.mv 1 (.t 112)]) (
    .reg [.mv 113 (.t 0),.mv 114 (.t 5),.oia 115 (.t 113) (.t 114) 13,.ofa 116 (.t 115) 12,.old 117 (.t 116),.mv 118 (.t 1),.cf 119 Zf1 0 [(.t 117), (.t 118)],.mv 1 (.t 119)])))))))))))))))))))))))))) (
   .reg [.mv 10 (.t 5),.bi 11 .add (.t 10) (.c (.int .i64 1)),.mv 5 (.t 11)])))))) (
 .seq (
 .reg [.mv 120 (.t 1),.mv 4 (.t 120)]) (
 .ret)))
def ZX2 : List Rv := [.t 4]
theorem Zh6 : chkFn Try.prog Zc2 2 Z83 ZX2 = true := by kernel_rfl
set_option maxRecDepth 10000 in
theorem Zcb (n : Nat) (hn : n <= 1048576) (k : Int) (h0 : 0 <= k) (h1 : k <= 1125899906842624) :
  Hav Try.prog Zc2 [.od 0 [.i .i64, .i .i64, .i .i64, .i .i64, .i .i64, .i .i64, .i .i64, .i .i64, .i .i64, .i .i64, .i .i64, .i .i64, .l [.i .i64]] n, .int .i64 k] (kB k (1048588 * n)) := by
 refine Ze3 Zh6 rfl (den_W ?_)
 unfold Z83 ZX2
 simp
 refine Za2 (fun m s => ∃ (i : Nat) (j : Int), m = n - i /\ i <= n /\ k <= j /\ j <= k + 1048588 * i /\ s.e 0 = .od 0 [.i .i64, .i .i64, .i .i64, .i .i64, .i .i64, .i .i64, .i .i64, .i .i64, .i .i64, .i .i64, .i .i64, .i .i64, .l [.i .i64]] n /\ s.e 1 = .int .i64 j /\ s.e 5 = .int .i64 (i : Nat) /\ s.my 0 /\ s.kn 0) n ?_ ?_
 .exact ⟨0, k, by simp⟩
 .rintro m s ⟨i, j, rfl, hi, hj0, hj1, e0, e1, e5, hm, hk⟩
  by_cases h : i < n
  .have hw : ∀ q : Int, 0 <= q -> q <= 4611686018427387904 -> IntKind.i64.wrap q = q := fun q h0 h1 => Z4 (by omega) (by omega)
   simp [e0, e1, e5, h, hm, hk, hw (j + 1) (by omega) (by omega), hw (j + 1 + 1) (by omega) (by omega), hw (j + 1 + 1 + 1) (by omega) (by omega), hw (j + 1 + 1 + 1 + 1) (by omega) (by omega), hw (j + 1 + 1 + 1 + 1 + 1) (by omega) (by omega), hw (j + 1 + 1 + 1 + 1 + 1 + 1) (by omega) (by omega), hw (j + 1 + 1 + 1 + 1 + 1 + 1 + 1) (by omega) (by omega), hw (j + 1 + 1 + 1 + 1 + 1 + 1 + 1 + 1) (by omega) (by omega), hw (j + 1 + 1 + 1 + 1 + 1 + 1 + 1 + 1 + 1) (by omega) (by omega), hw (j + 1 + 1 + 1 + 1 + 1 + 1 + 1 + 1 + 1 + 1) (by omega) (by omega), hw (j + 1 + 1 + 1 + 1 + 1 + 1 + 1 + 1 + 1 + 1 + 1) (by omega) (by omega), hw (j + 1 + 1 + 1 + 1 + 1 + 1 + 1 + 1 + 1 + 1 + 1 + 1) (by omega) (by omega)]
   intro n2 hn2
   refine do_cf [] (Zw6 n2 hn2 (j + 1 + 1 + 1 + 1 + 1 + 1 + 1 + 1 + 1 + 1 + 1 + 1) (by omega) (by omega)) (by simp) (by simp [hm]) (by simp) ?_
   rintro q ⟨hq0, hq1⟩
   simp [e0, e5, hm, hk]
   exact ⟨n - (i + 1), by omega, i + 1, rfl, by omega, q, by omega, by simp; omega, rfl, by rw [hw _ (by omega) (by omega)]; simp⟩
  .have : i = n := by omega
   subst this
   simp [e0, e1, e5, kB, postH]
   omega
def Z63 : L :=
 .seq (
 .reg [.bx 2 (.t 0),.mv 4 (.c (.int .i64 0))]) (
 .seq (
 .reg [.fa 5 (.t 2) 0,.ld 6 (.t 5) 1 false,.mv 7 (.t 1),.cf 8 Zf1 0 [(.t 6), (.t 7)],.mv 1 (.t 8)]) (
 .seq (
 .reg [.fa 9 (.t 2) 1,.ld 10 (.t 9) 1 false,.mv 11 (.t 1),.cf 12 ZM1 0 [(.t 10), (.t 11)],.mv 1 (.t 12)]) (
 .seq (
 .reg [.mv 13 (.t 1),.mv 4 (.t 13)]) (
 .ret))))
def ZV2 : List Rv := [.t 4]
theorem Zf6 : chkFn Try.prog Zb2 2 Z63 ZV2 = true := by kernel_rfl
set_option maxRecDepth 10000 in
theorem Zbb (n1 n2 : Nat) (hn1 : n1 <= 1048576) (hn2 : n2 <= 1048576) (k : Int) (h0 : 0 <= k) (h1 : k <= 562949953421312) :
  Hav Try.prog Zb2 [.agg [.od 0 [.i .i64] n1, .od 0 [.i .i64, .i .i64, .i .i64, .i .i64] n2], .int .i64 k] (kB k 5242880) := by
 refine Ze3 Zf6 rfl (den_W ?_)
 unfold Z63 ZV2
 simp
 refine do_cf [] (Zw6 n1 hn1 k (by omega) (by omega)) (by simp) (by simp) (by simp) ?_
 rintro q0 ⟨hq0, hr0⟩
 simp
 refine do_cf [] (Zda n2 hn2 q0 (by omega) (by omega)) (by simp) (by simp) (by simp) ?_
 rintro q1 ⟨hq1, hr1⟩
 simp [kB, postH]
 omega
def Zx2 : L :=
 .seq (
 .reg [.bx 2 (.t 0),.mv 4 (.c (.int .i64 0))]) (
 .seq (
 .reg [.fa 5 (.t 2) 0,.ld 6 (.t 5) 2 true,.mv 7 (.t 1),.cf 8 Zb2 0 [(.t 6), (.t 7)],.mv 1 (.t 8)]) (
 .seq (
 .reg [.fa 9 (.t 2) 2,.ld 10 (.t 9) 1 false,.mv 11 (.t 1),.cf 12 ZO1 0 [(.t 10), (.t 11)],.mv 1 (.t 12)]) (
 .seq (
 .reg [.fa 13 (.t 2) 8,.ld 14 (.t 13) 1 false,.mv 15 (.t 1),.cf 16 Zd2 0 [(.t 14), (.t 15)],.mv 1 (.t 16)]) (
 .seq (
 .reg [.fa 17 (.t 2) 9,.ld 18 (.t 17) 1 false,.mv 19 (.t 1),.cf 20 Zc2 0 [(.t 18), (.t 19)],.mv 1 (.t 20)]) (
 .seq (
 .reg [.fa 21 (.t 2) 10,.ld 22 (.t 21) 1 false,.mv 23 (.t 1),.cf 24 Ze2 0 [(.t 22), (.t 23)],.mv 1 (.t 24)]) (
 .seq (
 .reg [.mv 25 (.t 1),.mv 4 (.t 25)]) (
 .ret)))))))
def Zg2 : List Rv := [.t 4]
theorem Zp5 : chkFn Try.prog ZL1 2 Zx2 Zg2 = true := by kernel_rfl
set_option maxRecDepth 10000 in
theorem Zca (n1 n2 n3 n4 n5 n6 : Nat) (a b c d e : Int) (hn1 : n1 <= 1048576) (hn2 : n2 <= 1048576) (hn3 : n3 <= 1048576) (hn4 : n4 <= 1048576) (hn5 : n5 <= 1048576) (hn6 : n6 <= 1048576) (k : Int) (h0 : 0 <= k) (h1 : k <= 562949953421312) :
  Hav Try.prog ZL1 [.agg [.od 0 [.i .i64] n1, .od 0 [.i .i64, .i .i64, .i .i64, .i .i64] n2, .od 0 [.b] n3, .int .i64 a, .int .i64 b, .int .i64 c, .int .i64 d, .int .i64 e, .od 0 [.i .i64, .i .i64, .i .i64, .i .i64, .i .i64, .i .i64, .i .i64, .i .i64, .i .i64, .i .i64, .i .i64] n4, .od 0 [.i .i64, .i .i64, .i .i64, .i .i64, .i .i64, .i .i64, .i .i64, .i .i64, .i .i64, .i .i64, .i .i64, .i .i64, .l [.i .i64]] n5, .od 0 [.i .i64, .i .i64, .i .i64] n6], .int .i64 k] (kB k 1099545182208) := by
 refine Ze3 Zp5 rfl (den_W ?_)
 unfold Zx2 Zg2
 simp
 refine do_cf [] (Zbb n1 n2 hn1 hn2 k (by omega) (by omega)) (by simp) (by simp) (by simp) ?_
 rintro q0 ⟨hq0, hr0⟩
 simp
 refine do_cf [] (Zea n3 hn3 q0 (by omega) (by omega)) (by simp) (by simp) (by simp) ?_
 rintro q1 ⟨hq1, hr1⟩
 simp
 refine do_cf [] (Zdb n4 hn4 q1 (by omega) (by omega)) (by simp) (by simp) (by simp) ?_
 rintro q2 ⟨hq2, hr2⟩
 simp
 refine do_cf [] (Zcb n5 hn5 q2 (by omega) (by omega)) (by simp) (by simp) (by simp) ?_
 rintro q3 ⟨hq3, hr3⟩
 simp
 refine do_cf [] (Zfb n6 hn6 q3 (by omega) (by omega)) (by simp) (by simp) (by simp) ?_
 rintro q4 ⟨hq4, hr4⟩
 simp [kB, postH]
 omega
def Zc3 : L :=
 .seq (
 .reg [.bx 2 (.t 0),.mv 4 (.c (.int .i64 0))]) (
 .seq (
 .reg [.fa 5 (.t 2) 0,.ld 6 (.t 5) 11 true,.mv 7 (.t 1),.cf 8 ZL1 0 [(.t 6), (.t 7)],.mv 1 (.t 8)]) (
 .seq (
 .reg [.fa 9 (.t 2) 11,.ld 10 (.t 9) 1 false,.mv 11 (.t 1),.cf 12 ZV 0 [(.t 10), (.t 11)],.mv 1 (.t 12)]) (
 .seq (
 .reg [.fa 13 (.t 2) 12,.ld 14 (.t 13) 1 false,.mv 15 (.t 1),.cf 16 Zm1 0 [(.t 14), (.t 15)],.mv 1 (.t 16)]) (
 .seq (
 .reg [.fa 17 (.t 2) 13,.ld 18 (.t 17) 1 false,.mv 19 (.t 1),.cf 20 Zf2 0 [(.t 18), (.t 19)],.mv 1 (.t 20)]) (
 .seq (
 .reg [.fa 21 (.t 2) 14,.ld 22 (.t 21) 1 false,.mv 23 (.t 1),.cf 24 Zn1 0 [(.t 22), (.t 23)],.mv 1 (.t 24)]) (
 .seq (
 .reg [.mv 25 (.t 1),.mv 4 (.t 25)]) (
 .ret)))))))
def Z13 : List Rv := [.t 4]
theorem Zl6 : chkFn Try.prog Zg1 2 Zc3 Z13 = true := by kernel_rfl
set_option maxRecDepth 10000 in
theorem Zgb (n1 n2 n3 n4 n5 n6 n7 n8 n9 n10 : Nat) (a b c d e : Int) (hn1 : n1 <= 1048576) (hn2 : n2 <= 1048576) (hn3 : n3 <= 1048576) (hn4 : n4 <= 1048576) (hn5 : n5 <= 1048576) (hn6 : n6 <= 1048576) (hn7 : n7 <= 1048576) (hn8 : n8 <= 1048576) (hn9 : n9 <= 1048576) (hn10 : n10 <= 1048576) (k : Int) (h0 : 0 <= k) (h1 : k <= 562949953421312) :
  Hav Try.prog Zg1 [.agg [.od 0 [.i .i64] n1, .od 0 [.i .i64, .i .i64, .i .i64, .i .i64] n2, .od 0 [.b] n3, .int .i64 a, .int .i64 b, .int .i64 c, .int .i64 d, .int .i64 e, .od 0 [.i .i64, .i .i64, .i .i64, .i .i64, .i .i64, .i .i64, .i .i64, .i .i64, .i .i64, .i .i64, .i .i64] n4, .od 0 [.i .i64, .i .i64, .i .i64, .i .i64, .i .i64, .i .i64, .i .i64, .i .i64, .i .i64, .i .i64, .i .i64, .i .i64, .l [.i .i64]] n5, .od 0 [.i .i64, .i .i64, .i .i64] n6, .od 0 [.s, .i .i64, .i .i64] n7, .od 0 [.s, .i .i64, .i .i64, .i .i64, .i .i64, .i .i64] n8, .od 0 [.i .i64, .i .i64] n9, .od 0 [.i .i64, .s] n10], .int .i64 k] (kB k 1099558813696) := by
 refine Ze3 Zl6 rfl (den_W ?_)
 unfold Zc3 Z13
 simp
 refine do_cf [] (Zca n1 n2 n3 n4 n5 n6 a b c d e hn1 hn2 hn3 hn4 hn5 hn6 k (by omega) (by omega)) (by simp) (by simp) (by simp) ?_
 rintro q0 ⟨hq0, hr0⟩
 simp
 refine do_cf [] (ZF6 n7 hn7 q0 (by omega) (by omega)) (by simp) (by simp) (by simp) ?_
 rintro q1 ⟨hq1, hr1⟩
 simp
 refine do_cf [] (ZC8 n8 hn8 q1 (by omega) (by omega)) (by simp) (by simp) (by simp) ?_
 rintro q2 ⟨hq2, hr2⟩
 simp
 refine do_cf [] (Zhb n9 hn9 q2 (by omega) (by omega)) (by simp) (by simp) (by simp) ?_
 rintro q3 ⟨hq3, hr3⟩
 simp
 refine do_cf [] (ZD8 n10 hn10 q3 (by omega) (by omega)) (by simp) (by simp) (by simp) ?_
 rintro q4 ⟨hq4, hr4⟩
 simp [kB, postH]
 omega
@[simp] theorem ownt_IS (i : Nat) (l : List Int) : owntL i (l.map eI) = l.map eI := Zj (fun _ => rfl) l
@[simp] theorem ownt_SS (i : Nat) (l : List Str) : owntL i (l.map eS) = l.map eS := Zj (fun _ => rfl) l
@[simp] theorem ownt_BS (i : Nat) (l : List Int) : owntL i (l.map eB) = l.map eB := Zj (fun _ => rfl) l
@[simp] theorem ownt_BoS (i : Nat) (l : List Bool) : owntL i (l.map eBo) = l.map eBo := Zj (fun _ => rfl) l
@[simp] theorem ownt_NodeS (i : Nat) (l : List Node) : owntL i (l.map eNode) = l.map eNode := Zj (fun x => by simp) l
@[simp] theorem ownt_JobS (i : Nat) (l : List Job) : owntL i (l.map eJob) = l.map eJob := Zj (fun x => by simp) l
@[simp] theorem ownt_EndS (i : Nat) (l : List End) : owntL i (l.map eEnd) = l.map eEnd := Zj (fun x => by simp) l
@[simp] theorem ownt_HoldS (i : Nat) (l : List Hold) : owntL i (l.map eHold) = l.map eHold := Zj (fun x => by simp) l
@[simp] theorem ownt_AccountS (i : Nat) (l : List Account) : owntL i (l.map Z1) = l.map Z1 := Zj (fun x => by simp) l
@[simp] theorem ownt_QuotaS (i : Nat) (l : List Quota) : owntL i (l.map Za) = l.map Za := Zj (fun x => by simp) l
@[simp] theorem ownt_DepS (i : Nat) (l : List Dep) : owntL i (l.map eDep) = l.map eDep := Zj (fun x => by simp) l
@[simp] theorem ownt_OwnerS (i : Nat) (l : List Owner) : owntL i (l.map Z5) = l.map Z5 := Zj (fun x => by simp) l
@[simp] theorem ownt_RunT (i : Nat) (g : Tag) (l : List Run) : owntL i (l.map (eRunT g)) = l.map (eRunT (.own i)) := by
 refine Z6b i _ _ (fun x => ?_) l
 simp
def Zl (k : Int) (n : Nat) : List Hold := (List.range n).map fun i => ⟨markT (k + 12 * (i : Nat) + 0), ⟨k + 12 * (i : Nat) + 1, k + 12 * (i : Nat) + 2, k + 12 * (i : Nat) + 3, ⟨k + 12 * (i : Nat) + 4, k + 12 * (i : Nat) + 5, k + 12 * (i : Nat) + 6⟩, ⟨k + 12 * (i : Nat) + 7, k + 12 * (i : Nat) + 8, k + 12 * (i : Nat) + 9⟩, k + 12 * (i : Nat) + 10, k + 12 * (i : Nat) + 11⟩⟩
def Zz2 : L :=
 .seq (
 .reg [.mv 4 (.c (.int .i64 0))]) (
 .seq (
 .seq (
 .reg [.mv 5 (.c (.int .i64 0))]) (
 .blk 0 (
  .loop (
   .seq (
   .seq (
   .reg [.mv 6 (.t 5),.mv 7 (.t 0),.ln 8 (.t 7),.bi 9 .lss (.t 6) (.t 8)]) (
   .cond (.t 9) (
    .skip) (
    .exit 0))) (
   .seq (
   .blk 1 (
    .seq (
    .reg [.mv 12 (.t 0),.mv 13 (.t 5),.mv 14 (.t 1),.cq 15 Zi [(.t 14)],.ia 16 (.t 12) (.t 13) 12,.fa 17 (.t 16) 0,.st (.t 17) (.t 15) 1]) (
    .seq (
    .reg [.mv 18 (.t 1),.bi 19 .add (.t 18) (.c (.int .i64 1)),.mv 1 (.t 19)]) (
    .seq (
    .reg [.mv 20 (.t 0),.mv 21 (.t 5),.mv 22 (.t 1),.ia 23 (.t 20) (.t 21) 12,.fa 24 (.t 23) 1,.fa 25 (.t 24) 0,.st (.t 25) (.t 22) 1]) (
    .seq (
    .reg [.mv 26 (.t 1),.bi 27 .add (.t 26) (.c (.int .i64 1)),.mv 1 (.t 27)]) (
    .seq (
    .reg [.mv 28 (.t 0),.mv 29 (.t 5),.mv 30 (.t 1),.ia 31 (.t 28) (.t 29) 12,.fa 32 (.t 31) 1,.fa 33 (.t 32) 1,.st (.t 33) (.t 30) 1]) (
    .seq (
    .reg [.mv 34 (.t 1),.bi 35 .add (.t 34) (.c (.int .i64 1)),.mv 1 (.t 35)]) (
    .seq (
    .reg [.mv 36 (.t 0),.mv 37 (.t 5),.mv 38 (.t 1),.ia 39 (.t 36) (.t 37) 12,.fa 40 (.t 39) 1,.fa 41 (.t 40) 2,.st (.t 41) (.t 38) 1]) (
    .seq (
    .reg [.mv 42 (.t 1),.bi 43 .add (.t 42) (.c (.int .i64 1)),.mv 1 (.t 43)]) (
    .seq (
    .reg [.mv 44 (.t 0),.mv 45 (.t 5),.mv 46 (.t 1),.ia 47 (.t 44) (.t 45) 12,.fa 48 (.t 47) 1,.fa 49 (.t 48) 3,.fa 50 (.t 49) 0,.st (.t 50) (.t 46) 1]) (
    .seq (
    .reg [.mv 51 (.t 1),.bi 52 .add (.t 51) (.c (.int .i64 1)),.mv 1 (.t 52)]) (
    .seq (
    .reg [.mv 53 (.t 0),.mv 54 (.t 5),.mv 55 (.t 1),.ia 56 (.t 53) (.t 54) 12,.fa 57 (.t 56) 1,.fa 58 (.t 57) 3,.fa 59 (.t 58) 1,.st (.t 59) (.t 55) 1]) (
    .seq (
    .reg [.mv 60 (.t 1),.bi 61 .add (.t 60) (.c (.int .i64 1)),.mv 1 (.t 61)]) (
    .seq (
    .reg [.mv 62 (.t 0),.mv 63 (.t 5),.mv 64 (.t 1),.ia 65 (.t 62) (.t 63) 12,.fa 66 (.t 65) 1,.fa 67 (.t 66) 3,.fa 68 (.t 67) 2,.st (.t 68) (.t 64) 1]) (
    .seq (
    .reg [.mv 69 (.t 1),.bi 70 .add (.t 69) (.c (.int .i64 1)),.mv 1 (.t 70)]) (
    .seq (
    .reg [.mv 71 (.t 0),.mv 72 (.t 5),.mv 73 (.t 1),.ia 74 (.t 71) (.t 72) 12,.fa 75 (.t 74) 1,.fa 76 (.t 75) 6,.fa 77 (.t 76) 0,.st (.t 77) (.t 73) 1]) (
    .seq (
    .reg [.mv 78 (.t 1),.bi 79 .add (.t 78) (.c (.int .i64 1)),.mv 1 (.t 79)]) (
    .seq (
    .reg [.mv 80 (.t 0),.mv 81 (.t 5),.mv 82 (.t 1),.ia 83 (.t 80) (.t 81) 12,.fa 84 (.t 83) 1,.fa 85 (.t 84) 6,.fa 86 (.t 85) 1,.st (.t 86) (.t 82) 1]) (
    .seq (
    .reg [.mv 87 (.t 1),.bi 88 .add (.t 87) (.c (.int .i64 1)),.mv 1 (.t 88)]) (
    .seq (
    .reg [.mv 89 (.t 0),.mv 90 (.t 5),.mv 91 (.t 1),.ia 92 (.t 89) (.t 90) 12,.fa 93 (.t 92) 1,.fa 94 (.t 93) 6,.fa 95 (.t 94) 2,.st (.t 95) (.t 91) 1]) (
    .seq (
    .reg [.mv 96 (.t 1),.bi 97 .add (.t 96) (.c (.int .i64 1)),.mv 1 (.t 97)]) (
    .seq (
    .reg [.mv 98 (.t 0),.mv 99 (.t 5),.mv 100 (.t 1),.ia 101 (.t 98) (.t 99) 12,.fa 102 (.t 101) 1,.fa 103 (.t 102) 9,.st (.t 103) (.t 100) 1]) (
    .seq (
    .reg [.mv 104 (.t 1),.bi 105 .add (.t 104) (.c (.int .i64 1)),.mv 1 (.t 105)]) (
    .seq (
    .reg [.mv 106 (.t 0),.mv 107 (.t 5),.mv 108 (.t 1),.ia 109 (.t 106) (.t 107) 12,.fa 110 (.t 109) 1,.fa 111 (.t 110) 10,.st (.t 111) (.t 108) 1]) (
    .reg [.mv 112 (.t 1),.bi 113 .add (.t 112) (.c (.int .i64 1)),.mv 1 (.t 113)]))))))))))))))))))))))))) (
   .reg [.mv 10 (.t 5),.bi 11 .add (.t 10) (.c (.int .i64 1)),.mv 5 (.t 11)])))))) (
 .seq (
 .reg [.mv 114 (.t 1),.mv 4 (.t 114)]) (
 .ret)))
def Zi2 : List Rv := [.t 4]
theorem Zr5 : chkFn Try.prog ZN1 2 Zz2 Zi2 = true := by kernel_rfl
set_option maxHeartbeats 2000000 in
set_option maxRecDepth 10000 in
theorem Zeb (l : List Hold) (k : Int) (h0 : 0 <= k) (h1 : k + 12 * l.length <= 4611686018427387904) :
  Con Try.prog ZN1 [.sref 0, .int .i64 k] [] [⟨12, l.map eHold, false⟩] (ret1 (.int .i64 (k + 12 * l.length)) ((Zl k l.length).map eHold)) := by
 refine con_by [true] Zr5 rfl (by simp) fun _ _ => den_W ?_
 unfold Zz2 Zi2
 simp
 refine Za2 (fun m s => ∃ i es, m = l.length - i /\ i <= l.length /\ s.e 0 = .sref 1000000000 /\ s.e 1 = .int .i64 (k + 12 * i) /\ s.e 5 = .int .i64 (i : Nat) /\
   s.rw 1000000000 = some ⟨12, es, false⟩ /\ es = ((Zl k l.length).map eHold).take i ++ (l.map eHold).drop i) l.length ?_ ?_
 .exact ⟨0, l.map eHold, by simp⟩
 .rintro m s ⟨i, es, rfl, hi, h0', h1', h5, hr, he⟩
  by_cases h : i < l.length
  .obtain ⟨f1, f2, f3, f4⟩ := Ztd _ _ (by simp [Zl]) i (by simpa using h) he
   simp at f1
   have w0 : IntKind.i64.wrap (k + 12 * (i : Int) + 1) = k + 12 * (i : Int) + 1 := by rw [Z4 (by omega) (by omega)]
   have w1 : IntKind.i64.wrap (k + 12 * (i : Int) + 1 + 1) = k + 12 * (i : Int) + 2 := by rw [Z4 (by omega) (by omega)]; omega
   have w2 : IntKind.i64.wrap (k + 12 * (i : Int) + 2 + 1) = k + 12 * (i : Int) + 3 := by rw [Z4 (by omega) (by omega)]; omega
   have w3 : IntKind.i64.wrap (k + 12 * (i : Int) + 3 + 1) = k + 12 * (i : Int) + 4 := by rw [Z4 (by omega) (by omega)]; omega
   have w4 : IntKind.i64.wrap (k + 12 * (i : Int) + 4 + 1) = k + 12 * (i : Int) + 5 := by rw [Z4 (by omega) (by omega)]; omega
   have w5 : IntKind.i64.wrap (k + 12 * (i : Int) + 5 + 1) = k + 12 * (i : Int) + 6 := by rw [Z4 (by omega) (by omega)]; omega
   have w6 : IntKind.i64.wrap (k + 12 * (i : Int) + 6 + 1) = k + 12 * (i : Int) + 7 := by rw [Z4 (by omega) (by omega)]; omega
   have w7 : IntKind.i64.wrap (k + 12 * (i : Int) + 7 + 1) = k + 12 * (i : Int) + 8 := by rw [Z4 (by omega) (by omega)]; omega
   have w8 : IntKind.i64.wrap (k + 12 * (i : Int) + 8 + 1) = k + 12 * (i : Int) + 9 := by rw [Z4 (by omega) (by omega)]; omega
   have w9 : IntKind.i64.wrap (k + 12 * (i : Int) + 9 + 1) = k + 12 * (i : Int) + 10 := by rw [Z4 (by omega) (by omega)]; omega
   have w10 : IntKind.i64.wrap (k + 12 * (i : Int) + 10 + 1) = k + 12 * (i : Int) + 11 := by rw [Z4 (by omega) (by omega)]; omega
   have w11 : IntKind.i64.wrap (k + 12 * (i : Int) + 11 + 1) = k + 12 * (i : Int) + 12 := by rw [Z4 (by omega) (by omega)]; omega
   simp [h0', h1', h5, hr, h, f1]
   intro _
   refine do_cq (Z22 (k + 12 * (i : Nat)) (by omega) (by omega)) (by simp [St.args]) ?_
   simp [h0', h1', h5, hr, h, f1, f2, w0, w1, w2, w3, w4, w5, w6, w7, w8, w9, w10, w11]
   refine ⟨l.length - (i + 1), by omega, i + 1, by simp, by omega, by simp; omega, by simp; rw [Z4 (by omega) (by omega)], ?_⟩
   simpa [Zl, w0, w1, w2, w3, w4, w5, w6, w7, w8, w9, w10, w11] using f4
  .have : i = l.length := by omega
   subst this
   have hes : es = (Zl k l.length).map eHold := by rw [he, List.take_of_length_le (by simp [Zl]), List.drop_of_length_le (by simp), List.append_nil]
   have hel : es.length = l.length := by rw [hes]; simp [Zl]
   simp [h0', h1', h5, hr, hel]
   intro _
   refine Zcd [] [some es] [] [] ?_
   simp [hr, hes, ret1]
def ZB2 : L :=
 .seq (
 .reg [.mv 4 (.c (.int .i64 0))]) (
 .seq (
 .seq (
 .reg [.mv 5 (.c (.int .i64 0))]) (
 .blk 0 (
  .loop (
   .seq (
   .seq (
   .reg [.mv 6 (.t 5),.mv 7 (.t 0),.ln 8 (.t 7),.bi 9 .lss (.t 6) (.t 8)]) (
   .cond (.t 9) (
    .skip) (
    .exit 0))) (
   .seq (
   .blk 1 (
    .seq (
    .seq (
    .rq 8 [.mv 12 (.t 0),.mv 13 (.t 5),.ia 14 (.t 12) (.t 13) 12,.fa 15 (.t 14) 0,.ld 16 (.t 15) 1 false,.mv 17 (.t 1),.cq 18 Zi [(.t 17)],.bi 19 .neq (.t 16) (.t 18)]) (
    .cond (.t 19) (
     .seq (
     .reg [.mv 4 (.c (.int .i64 (-1)))]) (
     .ret)) (
     .skip))) (
    .seq (
    .reg [.mv 20 (.t 1),.bi 21 .add (.t 20) (.c (.int .i64 1)),.mv 1 (.t 21)]) (
    .seq (
    .seq (
    .reg [.mv 22 (.t 0),.mv 23 (.t 5),.ia 24 (.t 22) (.t 23) 12,.fa 25 (.t 24) 1,.fa 26 (.t 25) 0,.ld 27 (.t 26) 1 false,.mv 28 (.t 1),.bi 29 .neq (.t 27) (.t 28)]) (
    .cond (.t 29) (
     .seq (
     .reg [.mv 4 (.c (.int .i64 (-1)))]) (
     .ret)) (
     .skip))) (
    .seq (
    .reg [.mv 30 (.t 1),.bi 31 .add (.t 30) (.c (.int .i64 1)),.mv 1 (.t 31)]) (
    .seq (
    .seq (
    .reg [.mv 32 (.t 0),.mv 33 (.t 5),.ia 34 (.t 32) (.t 33) 12,.fa 35 (.t 34) 1,.fa 36 (.t 35) 1,.ld 37 (.t 36) 1 false,.mv 38 (.t 1),.bi 39 .neq (.t 37) (.t 38)]) (
    .cond (.t 39) (
     .seq (
     .reg [.mv 4 (.c (.int .i64 (-1)))]) (
     .ret)) (
     .skip))) (
    .seq (
    .reg [.mv 40 (.t 1),.bi 41 .add (.t 40) (.c (.int .i64 1)),.mv 1 (.t 41)]) (
    .seq (
    .seq (
    .reg [.mv 42 (.t 0),.mv 43 (.t 5),.ia 44 (.t 42) (.t 43) 12,.fa 45 (.t 44) 1,.fa 46 (.t 45) 2,.ld 47 (.t 46) 1 false,.mv 48 (.t 1),.bi 49 .neq (.t 47) (.t 48)]) (
    .cond (.t 49) (
     .seq (
     .reg [.mv 4 (.c (.int .i64 (-1)))]) (
     .ret)) (
     .skip))) (
    .seq (
    .reg [.mv 50 (.t 1),.bi 51 .add (.t 50) (.c (.int .i64 1)),.mv 1 (.t 51)]) (
    .seq (
    .seq (
    .reg [.mv 52 (.t 0),.mv 53 (.t 5),.ia 54 (.t 52) (.t 53) 12,.fa 55 (.t 54) 1,.fa 56 (.t 55) 3,.fa 57 (.t 56) 0,.ld 58 (.t 57) 1 false,.mv 59 (.t 1),.bi 60 .neq (.t 58) (.t 59)]) (
    .cond (.t 60) (
     .seq (
     .reg [.mv 4 (.c (.int .i64 (-1)))]) (
     .ret)) (
     .skip))) (
    .seq (
    .reg [.mv 61 (.t 1),.bi 62 .add (.t 61) (.c (.int .i64 1)),.mv 1 (.t 62)]) (
    .seq (
    .seq (
    .reg [.mv 63 (.t 0),.mv 64 (.t 5),.ia 65 (.t 63) (.t 64) 12,.fa 66 (.t 65) 1,.fa 67 (.t 66) 3,.fa 68 (.t 67) 1,.ld 69 (.t 68) 1 false,.mv 70 (.t 1),.bi 71 .neq (.t 69) (.t 70)]) (
    .cond (.t 71) (
     .seq (
     .reg [.mv 4 (.c (.int .i64 (-1)))]) (
     .ret)) (
     .skip))) (
    .seq (
    .reg [.mv 72 (.t 1),.bi 73 .add (.t 72) (.c (.int .i64 1)),.mv 1 (.t 73)]) (
    .seq (
    .seq (
    .reg [.mv 74 (.t 0),.mv 75 (.t 5),.ia 76 (.t 74) (.t 75) 12,.fa 77 (.t 76) 1,.fa 78 (.t 77) 3,.fa 79 (.t 78) 2,.ld 80 (.t 79) 1 false,.mv 81 (.t 1),.bi 82 .neq (.t 80) (.t 81)]) (
    .cond (.t 82) (
     .seq (
     .reg [.mv 4 (.c (.int .i64 (-1)))]) (
     .ret)) (
     .skip))) (
    .seq (
    .reg [.mv 83 (.t 1),.bi 84 .add (.t 83) (.c (.int .i64 1)),.mv 1 (.t 84)]) (
    .seq (
    .seq (
    .reg [.mv 85 (.t 0),.mv 86 (.t 5),.ia 87 (.t 85) (.t 86) 12,.fa 88 (.t 87) 1,.fa 89 (.t 88) 6,.fa 90 (.t 89) 0,.ld 91 (.t 90) 1 false,.mv 92 (.t 1),.bi 93 .neq (.t 91) (.t 92)]) (
    .cond (.t 93) (
     .seq (
     .reg [.mv 4 (.c (.int .i64 (-1)))]) (
     .ret)) (
     .skip))) (
    .seq (
    .reg [.mv 94 (.t 1),.bi 95 .add (.t 94) (.c (.int .i64 1)),.mv 1 (.t 95)]) (
    .seq (
    .seq (
    .reg [.mv 96 (.t 0),.mv 97 (.t 5),.ia 98 (.t 96) (.t 97) 12,.fa 99 (.t 98) 1,.fa 100 (.t 99) 6,.fa 101 (.t 100) 1,.ld 102 (.t 101) 1 false,.mv 103 (.t 1),.bi 104 .neq (.t 102) (.t 103)]) (
    .cond (.t 104) (
     .seq (
     .reg [.mv 4 (.c (.int .i64 (-1)))]) (
     .ret)) (
     .skip))) (
    .seq (
    .reg [.mv 105 (.t 1),.bi 106 .add (.t 105) (.c (.int .i64 1)),.mv 1 (.t 106)]) (
    .seq (
    .seq (
    .reg [.mv 107 (.t 0),.mv 108 (.t 5),.ia 109 (.t 107) (.t 108) 12,.fa 110 (.t 109) 1,.fa 111 (.t 110) 6,.fa 112 (.t 111) 2,.ld 113 (.t 112) 1 false,.mv 114 (.t 1),.bi 115 .neq (.t 113) (.t 114)]) (
    .cond (.t 115) (
     .seq (
     .reg [.mv 4 (.c (.int .i64 (-1)))]) (
     .ret)) (
     .skip))) (
    .seq (
    .reg [.mv 116 (.t 1),.bi 117 .add (.t 116) (.c (.int .i64 1)),.mv 1 (.t 117)]) (
    .seq (
    .seq (
    .reg [.mv 118 (.t 0),.mv 119 (.t 5),.ia 120 (.t 118) (.t 119) 12,.fa 121 (.t 120) 1,.fa 122 (.t 121) 9,.ld 123 (.t 122) 1 false,.mv 124 (.t 1),.bi 125 .neq (.t 123) (.t 124)]) (
    .cond (.t 125) (
     .seq (
     .reg [.mv 4 (.c (.int .i64 (-1)))]) (
     .ret)) (
     .skip))) (
    .seq (
    .reg [.mv 126 (.t 1),.bi 127 .add (.t 126) (.c (.int .i64 1)),.mv 1 (.t 127)]) (
    .seq (
    .seq (
    .reg [.mv 128 (.t 0),.mv 129 (.t 5),.ia 130 (.t 128) (.t 129) 12,.fa 131 (.t 130) 1,.fa 132 (.t 131) 10,.ld 133 (.t 132) 1 false,.mv 134 (.t 1),.bi 135 .neq (.t 133) (.t 134)]) (
    .cond (.t 135) (
     .seq (
     .reg [.mv 4 (.c (.int .i64 (-1)))]) (
     .ret)) (
     .skip))) (
    .reg [.mv 136 (.t 1),.bi 137 .add (.t 136) (.c (.int .i64 1)),.mv 1 (.t 137)]))))))))))))))))))))))))) (
   .reg [.mv 10 (.t 5),.bi 11 .add (.t 10) (.c (.int .i64 1)),.mv 5 (.t 11)])))))) (
 .seq (
 .reg [.mv 138 (.t 1),.mv 4 (.t 138)]) (
 .ret)))
def Zk2 : List Rv := [.t 4]
theorem Zt5 : chkFn Try.prog ZT 2 ZB2 Zk2 = true := by kernel_rfl
set_option maxHeartbeats 2000000 in
set_option maxRecDepth 10000 in
theorem Zy6 (n : Nat) (k : Int) (h0 : 0 <= k) (h1 : k + 12 * n <= 4611686018427387904) :
  Snd Try.prog ZT [.sl .rd 12 ((Zl k n).map eHold), .int .i64 k] (.int .i64 (k + 12 * n)) [] := by
 refine Z3c Zt5 rfl (by simp) (den_W ?_)
 unfold ZB2 Zk2
 have hlen : (Zl k n).length = n := by simp [Zl]
 have hget : ∀ i (h : i < (Zl k n).length), (Zl k n)[i] = ⟨markT (k + 12 * (i : Nat) + 0), ⟨k + 12 * (i : Nat) + 1, k + 12 * (i : Nat) + 2, k + 12 * (i : Nat) + 3, ⟨k + 12 * (i : Nat) + 4, k + 12 * (i : Nat) + 5, k + 12 * (i : Nat) + 6⟩, ⟨k + 12 * (i : Nat) + 7, k + 12 * (i : Nat) + 8, k + 12 * (i : Nat) + 9⟩, k + 12 * (i : Nat) + 10, k + 12 * (i : Nat) + 11⟩⟩ := by intro i h; simp [Zl]
 generalize Zl k n = l at hlen hget
 simp
 refine Za2 (fun m s => ∃ i, m = n - i /\ i <= n /\ s.e 0 = .sl .rd 12 (l.map eHold) /\ s.e 1 = .int .i64 (k + 12 * i) /\ s.e 5 = .int .i64 (i : Nat)) n ?_ ?_
 .exact ⟨0, by simp⟩
 .rintro m s ⟨i, rfl, hi, h0', h1', h5⟩
  by_cases h : i < n
  .have hi' : i < l.length := by omega
   have w0 : IntKind.i64.wrap (k + 12 * (i : Int) + 1) = k + 12 * (i : Int) + 1 := by rw [Z4 (by omega) (by omega)]
   have w1 : IntKind.i64.wrap (k + 12 * (i : Int) + 1 + 1) = k + 12 * (i : Int) + 2 := by rw [Z4 (by omega) (by omega)]; omega
   have w2 : IntKind.i64.wrap (k + 12 * (i : Int) + 2 + 1) = k + 12 * (i : Int) + 3 := by rw [Z4 (by omega) (by omega)]; omega
   have w3 : IntKind.i64.wrap (k + 12 * (i : Int) + 3 + 1) = k + 12 * (i : Int) + 4 := by rw [Z4 (by omega) (by omega)]; omega
   have w4 : IntKind.i64.wrap (k + 12 * (i : Int) + 4 + 1) = k + 12 * (i : Int) + 5 := by rw [Z4 (by omega) (by omega)]; omega
   have w5 : IntKind.i64.wrap (k + 12 * (i : Int) + 5 + 1) = k + 12 * (i : Int) + 6 := by rw [Z4 (by omega) (by omega)]; omega
   have w6 : IntKind.i64.wrap (k + 12 * (i : Int) + 6 + 1) = k + 12 * (i : Int) + 7 := by rw [Z4 (by omega) (by omega)]; omega
   have w7 : IntKind.i64.wrap (k + 12 * (i : Int) + 7 + 1) = k + 12 * (i : Int) + 8 := by rw [Z4 (by omega) (by omega)]; omega
   have w8 : IntKind.i64.wrap (k + 12 * (i : Int) + 8 + 1) = k + 12 * (i : Int) + 9 := by rw [Z4 (by omega) (by omega)]; omega
   have w9 : IntKind.i64.wrap (k + 12 * (i : Int) + 9 + 1) = k + 12 * (i : Int) + 10 := by rw [Z4 (by omega) (by omega)]; omega
   have w10 : IntKind.i64.wrap (k + 12 * (i : Int) + 10 + 1) = k + 12 * (i : Int) + 11 := by rw [Z4 (by omega) (by omega)]; omega
   have w11 : IntKind.i64.wrap (k + 12 * (i : Int) + 11 + 1) = k + 12 * (i : Int) + 12 := by rw [Z4 (by omega) (by omega)]; omega
   simp [h0', h1', h5, h, hlen, hget]
   intro _
   refine do_cq (Z22 (k + 12 * (i : Nat)) (by omega) (by omega)) (by simp [St.args]) ?_
   simp [h0', h1', h5, h, hlen, hget, w0, w1, w2, w3, w4, w5, w6, w7, w8, w9, w10, w11]
   exact ⟨n - (i + 1), by omega, i + 1, rfl, by omega, by omega, by rw [Z4 (by omega) (by omega)]; omega⟩
  .have : i = n := by omega
   subst this
   simp [h0', h1', h5, hlen]
@[simp] theorem beq_10 : Nat.beq 1 0 = false := rfl
@[simp] theorem beq_01 : Nat.beq 0 1 = false := rfl
theorem Zg7 {d : Desk} (hS : SizedD d) : Snd Try.prog ZJ [ZX .rd d] (ZX .nw d) [] := ZP8 (ZQ8 hS)
theorem eqDesk_c {d : Desk} (hS : SizedD d) : Snd Try.prog ZF3 [ZX .rd d, ZX .rd d] (.bool true) [] := Zd9 (Z47 hS)
def kDesk (d : Desk) : AV := .agg [.od 0 [.i .i64] d.state.topo.parents.length, .od 0 [.i .i64, .i .i64, .i .i64, .i .i64] d.state.topo.nodes.length, .od 0 [.b] d.state.up.length, .int .i64 d.state.lic.a, .int .i64 d.state.lic.b, .int .i64 d.state.lic.c, .int .i64 d.state.depth, .int .i64 d.state.now,
 .od 0 [.i .i64, .i .i64, .i .i64, .i .i64, .i .i64, .i .i64, .i .i64, .i .i64, .i .i64, .i .i64, .i .i64] d.state.queue.length, .od 0 [.i .i64, .i .i64, .i .i64, .i .i64, .i .i64, .i .i64, .i .i64, .i .i64, .i .i64, .i .i64, .i .i64, .i .i64, .l [.i .i64]] d.state.runs.length, .od 0 [.i .i64, .i .i64, .i .i64] d.state.ends.length,
 .od 0 [.s, .i .i64, .i .i64] d.accounts.length, .od 0 [.s, .i .i64, .i .i64, .i .i64, .i .i64, .i .i64] d.quotas.length, .od 0 [.i .i64, .i .i64] d.deps.length, .od 0 [.i .i64, .s] d.owners.length]
theorem ZKc {d : Desk} (hS : SizedD d) (k : Int) (h0 : 0 <= k) (h1 : k <= 562949953421312) : Hav Try.prog Zg1 [kDesk d, .int .i64 k] (kB k 1099558813696) :=
 have := hS.state.jobs
 Zgb d.state.topo.parents.length d.state.topo.nodes.length d.state.up.length d.state.queue.length d.state.runs.length d.state.ends.length d.accounts.length d.quotas.length d.deps.length d.owners.length d.state.lic.a d.state.lic.b d.state.lic.c d.state.depth d.state.now
  hS.state.parents hS.state.nodes hS.state.up (by omega) (by omega) hS.state.ends hS.accounts hS.quotas hS.deps hS.owners k h0 h1
theorem hvDesk {d : Desk} (hS : SizedD d) (i : Nat) (k : Int) : hvLs i [ZX (.own i) d, .int .i64 k] [kDesk d, .int .i64 k] := by
  have := hS.state.jobs
  simp [kDesk]
  exact ⟨⟨_, _, _, ⟨rfl, rfl, rfl⟩, by simp, .inr hS.state.parents⟩, ⟨_, _, _, ⟨rfl, rfl, rfl⟩, by simp, .inr hS.state.nodes⟩, ⟨_, _, _, ⟨rfl, rfl, rfl⟩, by simp, .inr hS.state.up⟩, ⟨_, _, _, ⟨rfl, rfl, rfl⟩, by simp, .inr (by omega)⟩,
    ⟨_, _, _, ⟨rfl, rfl, rfl⟩, by simp, .inr ⟨by omega, fun x hx => .inr (hS.state.run x hx)⟩⟩, ⟨_, _, _, ⟨rfl, rfl, rfl⟩, by simp, .inr hS.state.ends⟩, ⟨_, _, _, ⟨rfl, rfl, rfl⟩, by simp, .inr hS.accounts⟩, ⟨_, _, _, ⟨rfl, rfl, rfl⟩, by simp, .inr hS.quotas⟩,
    ⟨_, _, _, ⟨rfl, rfl, rfl⟩, by simp, .inr hS.deps⟩, ⟨_, _, _, ⟨rfl, rfl, rfl⟩, by simp, .inr hS.owners⟩⟩
theorem Desk_of3 {a : AV} (h : Z1c.okV a) : ∃ s, AE a (ZX .rd s) /\ ZOa s := EncOf.okV_st ofDesk h
def Zi1 : L :=
 .seq (
 .reg [.bx 1 (.t 0),.mv 2 (.c (.bool false))]) (
 .seq (
 .reg [.mv 3 (.c (.int .i64 1048576))]) (
 .seq (
 .reg [.ld 11 (.t 1) 15 true,.mv 12 (.t 3),.cq 13 ZC5 [(.t 11), (.t 12)],.mv 3 (.t 13)]) (
 .seq (
 .seq (
 .reg [.mv 14 (.t 3),.bi 15 .lss (.t 14) (.c (.int .i64 0))]) (
 .cond (.t 15) (
  .seq (
  .reg [.mv 2 (.c (.bool true))]) (
  .ret)) (
  .skip))) (
 .seq (
 .reg [.ld 16 (.t 1) 15 true,.cq 17 ZJ [(.t 16)],.cq 18 ZB4 [(.t 17)],.mv 4 (.t 18)]) (
 .seq (
 .reg [.ld 19 (.t 1) 15 true,.co 20 ZJ [(.t 19)],.al 5 [.nl, .nl, .nl, .int .i64 0, .int .i64 0, .int .i64 0, .int .i64 0, .int .i64 0, .nl, .nl, .nl, .nl, .nl, .nl, .nl],.st (.t 5) (.t 20) 15]) (
 .seq (
 .reg [.ld 21 (.t 5) 15 true,.cl 22 ZT2 [(.t 21)],.mv 6 (.t 22)]) (
 .seq (
 .seq (
 .reg [.mv 23 (.t 6),.mv 24 (.t 4),.cq 25 Zy1 [(.t 23), (.t 24)],.un 26 (.t 25)]) (
 .cond (.t 26) (
  .seq (
  .reg [.mv 2 (.c (.bool false))]) (
  .ret)) (
  .skip))) (
 .seq (
 .seq (
 .rq 5 [.ld 27 (.t 5) 15 true,.ld 28 (.t 1) 15 true,.cq 29 ZJ [(.t 28)],.cq 30 ZF3 [(.t 27), (.t 29)],.un 31 (.t 30)]) (
 .cond (.t 31) (
  .seq (
  .reg [.mv 2 (.c (.bool false))]) (
  .ret)) (
  .skip))) (
 .seq (
 .reg [.mv 7 (.c (.int .i64 1))]) (
 .seq (
 .reg [.ld 32 (.t 5) 15 true,.mv 33 (.t 7),.cf 34 Zg1 0 [(.t 32), (.t 33)],.mv 7 (.t 34)]) (
 .seq (
 .seq (
 .reg [.mv 35 (.t 7),.bi 36 .lss (.t 35) (.c (.int .i64 0)),.mv 37 (.t 36),.g 37 false (.mv 38 (.t 6)),.g 37 false (.mv 39 (.t 4)),.g 37 false (.cq 40 Zy1 [(.t 38), (.t 39)]),.g 37 false (.un 41 (.t 40)),.pk 42 (.t 37) (.c (.bool true)) (.t 41)]) (
 .cond (.t 42) (
  .seq (
  .reg [.mv 2 (.c (.bool false))]) (
  .ret)) (
  .skip))) (
 .seq (
 .reg [.mv 8 (.c (.int .i64 1))]) (
 .seq (
 .reg [.mv 43 (.t 6),.mv 44 (.t 8),.cm 45 ZN1 [(.t 43), (.t 44)],.mv 8 (.t 45)]) (
 .seq (
 .reg [.mv 9 (.c (.int .i64 1))]) (
 .seq (
 .reg [.mv 46 (.t 6),.mv 47 (.t 9),.cq 48 ZT [(.t 46), (.t 47)],.mv 9 (.t 48)]) (
 .seq (
 .seq (
 .reg [.mv 49 (.t 9),.bi 50 .lss (.t 49) (.c (.int .i64 0))]) (
 .cond (.t 50) (
  .seq (
  .reg [.mv 2 (.c (.bool false))]) (
  .ret)) (
  .skip))) (
 .seq (
 .seq (
 .reg [.mv 51 (.t 9),.mv 52 (.t 8),.bi 53 .neq (.t 51) (.t 52)]) (
 .cond (.t 53) (
  .seq (
  .reg [.mv 2 (.c (.bool false))]) (
  .ret)) (
  .skip))) (
 .seq (
 .reg [.ld 54 (.t 1) 15 true,.cq 55 ZJ [(.t 54)],.cq 56 ZT2 [(.t 55)],.mv 10 (.t 56)]) (
 .seq (
 .seq (
 .reg [.mv 57 (.t 10),.mv 58 (.t 4),.cq 59 Zy1 [(.t 57), (.t 58)],.un 60 (.t 59)]) (
 .cond (.t 60) (
  .seq (
  .reg [.mv 2 (.c (.bool false))]) (
  .ret)) (
  .skip))) (
 .seq (
 .reg [.mv 9 (.c (.int .i64 1))]) (
 .seq (
 .reg [.mv 61 (.t 6),.mv 62 (.t 9),.cq 63 ZT [(.t 61), (.t 62)],.mv 9 (.t 63)]) (
 .seq (
 .seq (
 .reg [.mv 64 (.t 9),.bi 65 .lss (.t 64) (.c (.int .i64 0))]) (
 .cond (.t 65) (
  .seq (
  .reg [.mv 2 (.c (.bool false))]) (
  .ret)) (
  .skip))) (
 .seq (
 .seq (
 .reg [.mv 66 (.t 9),.mv 67 (.t 8),.bi 68 .neq (.t 66) (.t 67)]) (
 .cond (.t 68) (
  .seq (
  .reg [.mv 2 (.c (.bool false))]) (
  .ret)) (
  .skip))) (
 .seq (
 .reg [.mv 2 (.c (.bool true))]) (
 .ret)))))))))))))))))))))))))
def Zh1 : List Rv := [.t 2]
theorem ZQ3 : chkFn Try.prog Zm 1 Zi1 Zh1 = true := by kernel_rfl
set_option maxRecDepth 10000 in
theorem Ze7 {d : Desk} (hf : ZOa d) : Snd Try.prog Zm [ZX .rd d] (.bool true) [] := by
 obtain ⟨r, h1, h2⟩ := Z29 hf
 refine Z3c ZQ3 rfl (by simp) (den_W ?_)
 unfold Zi1 Zh1
 simp
 refine do_cq (Z19 h1) (by simp [St.args]) ?_
 simp
 intro hr
 have hS : SizedD d := h2.resolve_left (by omega)
 obtain ⟨ns, q2, q1, q4⟩ := ZSc hS.state.jobs
 refine do_cq (Zg7 hS) (by simp [St.args]) ?_
 simp
 refine do_cq (Zs7 q2) (by simp [St.args]) ?_
 simp
 refine do_co 0 (Zg7 hS) (by simp [St.args]) (by simp) (by simp) ?_
 simp
 refine do_cl (ZW3 q1) (by simp [St.args]) (by simp) ?_
 simp
 refine do_cq (Z52 (Zk1 (l := ns) q4)) (by simp [St.args]) ?_
 simp
 refine do_cq (Zg7 hS) (by simp [St.args]) ?_
 simp
 refine do_cq (eqDesk_c hS) (by simp [St.args]) ?_
 simp
 refine do_cf [23000] (ZKc hS 1 (by omega) (by omega)) (by simpa using hvDesk hS 0 1) (by simp) (by simp) ?_
 rintro k ⟨hk0, hk1⟩
 have hkn : ¬ k < 0 := by omega
 simp [hkn]
 refine do_cq (Z52 (Zk1 (l := ns) q4)) (by simp [St.args]) ?_
 simp
 refine do_cm [] [23000] (Zeb ns 1 (by omega) (by omega)) rfl (by simp) (by simp) (by simp) ?_
 rintro _ _ _ _ _ _ _ ⟨rfl, rfl, rfl, rfl⟩
 have hk2 : ¬ (1 + 12 * (ns.length : Int) < 0) := by omega
 simp
 refine do_cq (Zy6 ns.length 1 (by omega) (by omega)) (by simp [St.args]) ?_
 simp [hk2]
 refine do_cq (Zg7 hS) (by simp [St.args]) ?_
 simp
 refine do_cq (ZW3 q1) (by simp [St.args]) ?_
 simp
 refine do_cq (Z52 (Zk1 (l := ns) q4)) (by simp [St.args]) ?_
 simp
 refine do_cq (Zy6 ns.length 1 (by omega) (by omega)) (by simp [St.args]) ?_
 simp [hk2]
theorem Zq6 (xs : List AV) (h : okVs [Z1c] xs) : Snd Try.prog Zm xs (.bool true) [] := by
 obtain ⟨a, _, rfl, ha, rfl⟩ := h
 obtain ⟨s, ha, hf⟩ := Desk_of3 ha
 exact (Ze7 hf).wkS (.cons ha .nil)
end Go.Proofs.Ytndemhaoilhbbaa
