/-
  The law's letters: m and the digits of a number.
-/
import Derived.Test.YthbbieobcokgbaaNums
namespace Go.Proofs.Ythbbieobcokgbaa
open Go Go.RowKit Eng
def digs (fuel : Nat) (k : Int) (out : Str) : Str := match fuel with
  | 0 => out
  | fuel + 1 => if 0 < k then digs fuel (k / 10) (UInt8.ofNat (48 + (k % 10).toNat) :: out) else out
def markT (k : Int) : Str := if k ≤ 0 then [109, 48] else 109 :: digs 20 k []
def ir_laws_markText : L :=
  .seq (
  .reg [.mv 2 (.c (.str []))]) (
  .seq (
  .seq (
  .reg [.mv 4 (.t 0),
    .bi 5 .leq (.t 4) (.c (.int .i64 0))]) (
  .cond (.t 5) (
    .seq (
    .reg [.mv 2 (.c (.str [109, 48]))]) (
    .ret)) (
    .skip))) (
  .seq (
  .reg [.mv 3 (.c (.str []))]) (
  .seq (
  .blk 0 (
    .loop (
      .seq (
      .seq (
      .reg [.mv 6 (.t 0),
        .bi 7 .gtr (.t 6) (.c (.int .i64 0))]) (
      .cond (.t 7) (
        .skip) (
        .exit 0))) (
      .blk 1 (
        .seq (
        .reg [.mv 8 (.t 0),
          .bi 9 .rem (.t 8) (.c (.int .i64 10)),
          .bi 10 .add (.c (.int .i64 48)) (.t 9),
          .cv 11 .u8 (.t 10),
          .bs 12 1 [(.t 11)] true,
          .b2s 13 (.t 12),
          .mv 14 (.t 3),
          .sa 15 (.t 13) (.t 14),
          .mv 3 (.t 15)]) (
        .reg [.mv 16 (.t 0),
          .bi 17 .quo (.t 16) (.c (.int .i64 10)),
          .mv 0 (.t 17)])))))) (
  .seq (
  .reg [.mv 18 (.t 3),
    .sa 19 (.c (.str [109])) (.t 18),
    .mv 2 (.t 19)]) (
  .ret)))))
def rs_laws_markText : List Rv := [.t 2]
theorem ck_laws_markText : chkFn Try.prog F.laws_markText 1 ir_laws_markText rs_laws_markText = true := by kernel_rfl
theorem markText_ok (k : Int) (h0 : 0 ≤ k) (h1 : k ≤ 4611686018427387904) : Snd Try.prog F.laws_markText [.int .i64 k] (.str (markT k)) [] := by
  refine snd_by ck_laws_markText rfl rfl (den_W ?_)
  unfold ir_laws_markText rs_laws_markText
  by_cases h : k ≤ 0
  · simp [h, markT]
  · simp [h]
    have hd : ∀ (f : Nat) (k : Int) (o : Str), k ≤ 0 → digs f k o = o := by
      intro f k o hk
      cases f with
      | zero => rfl
      | succ f => rw [digs, if_neg (by omega)]
    refine W_loop (fun m s => ∃ (f : Nat) (j : Int) (o : Str), m = j.toNat ∧ 0 ≤ j ∧ j ≤ 4611686018427387904 ∧ j < 10 ^ f ∧ o.length + f ≤ 20 ∧ digs 20 k [] = digs f j o ∧ s.e 0 = .int .i64 j ∧ s.e 3 = .str o) k.toNat ?_ ?_
    · exact ⟨20, k, [], rfl, h0, h1, by omega, by simp, rfl, by simp, by simp⟩
    · rintro m s ⟨f, j, o, rfl, j0, j1, jf, hl, he, e0, e3⟩
      simp [e0, e3]
      refine ⟨fun hj => ?_, fun hj => ?_⟩
      · cases f with
        | zero => simp at jf; omega
        | succ f =>
          refine ⟨[dgt j.toNat], by rw [u8_dgt j0]; simp, ?_⟩
          simp
          refine ⟨by omega, j.toNat / 10, by omega, f, j / 10, by omega, by omega, by omega, by rw [Int.pow_succ] at jf; omega, dgt j.toNat :: o, by simp; omega, ?_, quo10 j0 (by omega), rfl⟩
          rw [he, digs, if_pos hj]
          congr 1
          unfold dgt
          have : (j % 10).toNat = j.toNat % 10 := by omega
          rw [this]
      · have e : digs f j o = o := hd f j o (by omega)
        rw [e] at he
        simp [markT, h, he]
        omega
end Go.Proofs.Ythbbieobcokgbaa
