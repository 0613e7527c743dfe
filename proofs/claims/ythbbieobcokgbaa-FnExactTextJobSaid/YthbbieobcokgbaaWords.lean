/-
  Words with blanks between them.
-/
import Derived.Test.YthbbieobcokgbaaBase
namespace Go.Proofs.Ythbbieobcokgbaa
open Go Go.RowKit Eng
@[simp] theorem NwL_app (l m : List AV) : NwL (l ++ m) ↔ NwL l ∧ NwL m := by
  rw [NwL_iff, NwL_iff, NwL_iff]
  constructor
  · intro h; exact ⟨fun a ha => h a (by simp [ha]), fun a ha => h a (by simp [ha])⟩
  · rintro ⟨h1, h2⟩ a ha
    rcases List.mem_append.1 ha with h | h
    · exact h1 a h
    · exact h2 a h
theorem pow10 {i : Nat} (h : i ≤ 9) : (10 : Int) ^ i ≤ 1000000000 := by
  have := Nat.pow_le_pow_right (n := 10) (by omega) h
  have e : ((10 ^ i : Nat) : Int) = (10 : Int) ^ i := by simp
  omega
@[simp] theorem isIdx_0 (k : IntKind) (n : Nat) : isIdx (.int k 0) n = if 0 < n then some 0 else none := isIdx_nat k 0 n
@[simp] theorem isIdx_1 (k : IntKind) (n : Nat) : isIdx (.int k 1) n = if 1 < n then some 1 else none := isIdx_nat k 1 n
@[simp] theorem isIdx_lit (k : IntKind) (m n : Nat) : isIdx (.int k (OfNat.ofNat m)) n = if m < n then some m else none := isIdx_nat k m n
@[simp] theorem isBnd_0 (k : IntKind) (n : Nat) : isBnd (.int k 0) n = some 0 := by rw [show isBnd (.int k 0) n = _ from isBnd_nat k 0 n]; simp
@[simp] theorem isBnd_1 (k : IntKind) (n : Nat) : isBnd (.int k 1) n = if 1 ≤ n then some 1 else none := isBnd_nat k 1 n
@[simp] theorem isBnd_lit (k : IntKind) (m n : Nat) : isBnd (.int k (OfNat.ofNat m)) n = if m ≤ n then some m else none := isBnd_nat k m n
@[simp] def eS (s : Str) : AV := .str s
@[simp] theorem rdt_SS (l : List Str) : rdtL (l.map eS) = l.map eS := rdtL_enc _ (fun _ => rfl) l
@[simp] theorem nw_SS (l : List Str) : NwL (l.map eS) := NwL_enc _ (fun _ => by simp) l
def joinW : List Str → Str
  | [] => []
  | [w] => w
  | w :: v :: ws => w ++ 32 :: joinW (v :: ws)
theorem joinW_snoc : ∀ (l : List Str) (w : Str), joinW (l ++ [w]) = if l = [] then w else joinW l ++ 32 :: w
  | [], w => rfl
  | [a], w => by simp [joinW]
  | a :: b :: l, w => by
    have := joinW_snoc (b :: l) w
    simp only [List.cons_append, reduceCtorEq, if_false] at this
    simp [joinW, this]
theorem joinW_take (l : List Str) : ∀ (k : Nat), (joinW (l.take k)).length ≤ (joinW l).length := by
  intro k
  induction l generalizing k with
  | nil => simp
  | cons a l ih =>
    cases k with
    | zero => simp [joinW]
    | succ k =>
      cases l with
      | nil => simp
      | cons b l =>
        have := ih k
        cases k with
        | zero => simp [joinW]
        | succ k =>
          simp only [List.take_succ_cons, joinW, List.length_append, List.length_cons] at this ⊢
          omega
def ir_impl_words : L :=
  .seq (
  .reg [.mv 2 (.c (.str []))]) (
  .seq (
  .reg [.mv 3 (.c (.str []))]) (
  .seq (
  .seq (
  .reg [.mv 6 (.t 0),
    .ln 7 (.t 6),
    .mv 8 (.c (.int .i64 0))]) (
  .blk 0 (
    .loop (
      .seq (
      .reg [.bi 9 .lss (.t 8) (.t 7)]) (
      .seq (
      .cond (.t 9) (
        .skip) (
        .exit 0)) (
      .seq (
      .blk 1 (
        .seq (
        .reg [.mv 10 (.t 8),
          .ia 11 (.t 6) (.t 8) 1,
          .ld 12 (.t 11) 1 false,
          .mv 4 (.t 10),
          .mv 5 (.t 12)]) (
        .seq (
        .seq (
        .reg [.mv 13 (.t 4),
          .bi 14 .gtr (.t 13) (.c (.int .i64 0))]) (
        .cond (.t 14) (
          .reg [.mv 15 (.t 3),
            .sa 16 (.t 15) (.c (.str [32])),
            .mv 3 (.t 16)]) (
          .skip))) (
        .reg [.mv 17 (.t 3),
          .mv 18 (.t 5),
          .sa 19 (.t 17) (.t 18),
          .mv 3 (.t 19)])))) (
      .reg [.bi 20 .add (.t 8) (.c (.int .i64 1)),
        .mv 8 (.t 20)]))))))) (
  .seq (
  .reg [.mv 21 (.t 3),
    .mv 2 (.t 21)]) (
  .ret))))
def rs_impl_words : List Rv := [.t 2]
theorem ck_impl_words : chkFn Try.prog F.impl_words 1 ir_impl_words rs_impl_words = true := by kernel_rfl
theorem impl_words_ok (l : List Str) (hl : (joinW l).length ≤ 4611686018427387904) : Snd Try.prog F.impl_words [.sl .rd 1 (l.map eS)] (.str (joinW l)) [] := by
  refine snd_by ck_impl_words rfl (by simp) (den_W ?_)
  unfold ir_impl_words rs_impl_words
  simp
  intro hlen
  refine W_loop (fun m s => ∃ i, m = l.length - i ∧ i ≤ l.length ∧ s.e 6 = .sl .rd 1 (l.map eS) ∧ s.e 7 = .int .i64 l.length ∧ s.e 8 = .int .i64 (i : Nat) ∧ s.e 3 = .str (joinW (l.take i))) l.length ?_ ?_
  · exact ⟨0, by simp [joinW]⟩
  · rintro m s ⟨i, rfl, hi, h6, h7, h8, h3⟩
    by_cases h : i < l.length
    · have hs : joinW (l.take (i + 1)) = if l.take i = [] then l[i] else joinW (l.take i) ++ 32 :: l[i] := by rw [List.take_succ_eq_append_getElem h]; exact joinW_snoc _ _
      have hb := joinW_take l (i + 1)
      have he : l.take i = [] ↔ i = 0 := by
        rw [List.take_eq_nil_iff]
        constructor
        · rintro (h' | h')
          · exact h'
          · subst h'; simp at h
        · exact .inl
      rw [hs] at hb
      by_cases h0 : i = 0
      · have hn := he.2 h0
        have hp : ¬ 0 < i := by omega
        rw [if_pos hn] at hb hs
        simp [h6, h7, h8, h3, h, hp, hn, joinW]
        exact ⟨by omega, l.length - (i + 1), by omega, i + 1, rfl, by omega, wrap_succ h hlen, hs.symm⟩
      · rw [if_neg (fun e => h0 (he.1 e))] at hb hs
        simp at hb
        have hp : 0 < i := by omega
        simp [h6, h7, h8, h3, h, hp]
        exact ⟨by omega, by omega, l.length - (i + 1), by omega, i + 1, rfl, by omega, wrap_succ h hlen, hs.symm⟩
    · have : i = l.length := by omega
      subst this
      simp [h6, h7, h8, h3]
end Go.Proofs.Ythbbieobcokgbaa
