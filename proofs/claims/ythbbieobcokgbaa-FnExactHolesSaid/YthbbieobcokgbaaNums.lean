/-
  Numbers and times: within, isTime, l01Time, l01Res, NumText.
-/
import Derived.Test.YthbbieobcokgbaaBase
namespace Go.Proofs.Ythbbieobcokgbaa
open Go Go.RowKit Eng

def time (n : Int) : Bool := decide (0 ≤ n) && decide (n ≤ 1000000000)
def res (n : Int) : Bool := decide (0 ≤ n) && decide (n ≤ 1000000)
def ir_spec_l01Time : L :=
  .seq (
  .reg [.mv 2 (.c (.bool false))]) (
  .seq (
  .reg [.mv 3 (.t 0),
    .bi 4 .geq (.t 3) (.c (.int .i64 0)),
    .mv 5 (.t 4),
    .g 5 true (.mv 6 (.t 0)),
    .g 5 true (.bi 7 .leq (.t 6) (.c (.int .i64 1000000000))),
    .pk 8 (.t 5) (.t 7) (.c (.bool false)),
    .mv 2 (.t 8)]) (
  .ret))
def rs_spec_l01Time : List Rv := [.t 2]
theorem ck_spec_l01Time : chkFn Try.prog F.spec_l01Time 1 ir_spec_l01Time rs_spec_l01Time = true := by kernel_rfl
theorem spec_time_ok (n : Int) : Snd Try.prog F.spec_l01Time [.int .i64 n] (.bool (time n)) [] := by
  refine snd_by ck_spec_l01Time rfl rfl (den_W ?_)
  unfold ir_spec_l01Time rs_spec_l01Time time
  by_cases h : 0 ≤ n <;> simp [h]
def ir_spec_l01Res : L :=
  .seq (
  .reg [.mv 2 (.c (.bool false))]) (
  .seq (
  .reg [.mv 3 (.t 0),
    .bi 4 .geq (.t 3) (.c (.int .i64 0)),
    .mv 5 (.t 4),
    .g 5 true (.mv 6 (.t 0)),
    .g 5 true (.bi 7 .leq (.t 6) (.c (.int .i64 1000000))),
    .pk 8 (.t 5) (.t 7) (.c (.bool false)),
    .mv 2 (.t 8)]) (
  .ret))
def rs_spec_l01Res : List Rv := [.t 2]
theorem ck_spec_l01Res : chkFn Try.prog F.spec_l01Res 1 ir_spec_l01Res rs_spec_l01Res = true := by kernel_rfl
theorem spec_res_ok (n : Int) : Snd Try.prog F.spec_l01Res [.int .i64 n] (.bool (res n)) [] := by
  refine snd_by ck_spec_l01Res rfl rfl (den_W ?_)
  unfold ir_spec_l01Res rs_spec_l01Res res
  by_cases h : 0 ≤ n <;> simp [h]
def ir_impl_within : L :=
  .seq (
  .reg [.mv 6 (.c (.bool false))]) (
  .seq (
  .reg [.mv 7 (.t 0),
    .mv 8 (.t 1),
    .bi 9 .geq (.t 7) (.t 8),
    .mv 10 (.t 9),
    .g 10 true (.mv 11 (.t 0)),
    .g 10 true (.mv 12 (.t 2)),
    .g 10 true (.bi 13 .leq (.t 11) (.t 12)),
    .pk 14 (.t 10) (.t 13) (.c (.bool false)),
    .mv 6 (.t 14)]) (
  .ret))
def rs_impl_within : List Rv := [.t 6]
theorem ck_impl_within : chkFn Try.prog F.impl_within 3 ir_impl_within rs_impl_within = true := by kernel_rfl
theorem within_ok (n a b : Int) : Snd Try.prog F.impl_within [.int .i64 n, .int .i64 a, .int .i64 b] (.bool (decide (a ≤ n) && decide (n ≤ b))) [] := by
  refine snd_by ck_impl_within rfl rfl (den_W ?_)
  unfold ir_impl_within rs_impl_within
  by_cases h : a ≤ n <;> simp [h]
def ir_impl_isTime : L :=
  .seq (
  .reg [.mv 2 (.c (.bool false))]) (
  .seq (
  .reg [.mv 3 (.t 0),
    .cq 4 F.impl_within [(.t 3), (.c (.int .i64 0)), (.c (.int .i64 1000000000))],
    .mv 2 (.t 4)]) (
  .ret))
def rs_impl_isTime : List Rv := [.t 2]
theorem ck_impl_isTime : chkFn Try.prog F.impl_isTime 1 ir_impl_isTime rs_impl_isTime = true := by kernel_rfl
theorem isTime_ok (n : Int) : Snd Try.prog F.impl_isTime [.int .i64 n] (.bool (time n)) [] := by
  refine snd_by ck_impl_isTime rfl rfl (den_W ?_)
  unfold ir_impl_isTime rs_impl_isTime
  simp
  refine do_cq (within_ok n 0 1000000000) (by simp [St.args]) ?_
  simp [time]
def ir_impl_isSpan : L :=
  .seq (
  .reg [.mv 4 (.c (.bool false))]) (
  .seq (
  .reg [.mv 5 (.t 0),
    .cq 6 F.impl_isTime [(.t 5)],
    .mv 7 (.t 6),
    .g 7 true (.mv 8 (.t 1)),
    .g 7 true (.cq 9 F.impl_isTime [(.t 8)]),
    .pk 10 (.t 7) (.t 9) (.c (.bool false)),
    .mv 11 (.t 10),
    .g 11 true (.mv 12 (.t 0)),
    .g 11 true (.mv 13 (.t 1)),
    .g 11 true (.bi 14 .lss (.t 12) (.t 13)),
    .pk 15 (.t 11) (.t 14) (.c (.bool false)),
    .mv 4 (.t 15)]) (
  .ret))
def rs_impl_isSpan : List Rv := [.t 4]
theorem ck_impl_isSpan : chkFn Try.prog F.impl_isSpan 2 ir_impl_isSpan rs_impl_isSpan = true := by kernel_rfl
theorem isSpan_ok (a b : Int) : Snd Try.prog F.impl_isSpan [.int .i64 a, .int .i64 b] (.bool (time a && time b && decide (a < b))) [] := by
  refine snd_by ck_impl_isSpan rfl rfl (den_W ?_)
  unfold ir_impl_isSpan rs_impl_isSpan
  simp
  refine do_cq (isTime_ok a) (by simp [St.args]) ?_
  cases ha : time a
  · simp
  · simp
    refine do_cq (isTime_ok b) (by simp [St.args]) ?_
    cases hb : time b <;> simp

def dgt (n : Nat) : UInt8 := UInt8.ofNat (48 + n % 10)
def dg (n : Nat) : Str := if n < 10 then [dgt n] else dg (n / 10) ++ [dgt n]
termination_by n
decreasing_by omega
def numText (n : Int) : Str := if time n = true then dg n.toNat else []
theorem dg_lt {n : Nat} (h : n < 10) : dg n = [dgt n] := by rw [dg, if_pos h]
theorem dg_ge {n : Nat} (h : 10 ≤ n) : dg n = dg (n / 10) ++ [dgt n] := by rw [dg, if_neg (by omega)]
theorem dg_len : ∀ (k n : Nat), n < 10 ^ k → (dg n).length ≤ k + 1
  | 0, n, h => by rw [dg_lt (by simp at h; omega)]; simp
  | k + 1, n, h => by
    by_cases h10 : n < 10
    · rw [dg_lt h10]; simp
    · rw [dg_ge (by omega)]
      have := dg_len k (n / 10) (by rw [Nat.pow_succ] at h; omega)
      simp; omega
theorem numText_len (n : Int) : (numText n).length ≤ 10 := by
  unfold numText
  split
  · rename_i h
    simp [time] at h
    by_cases e : n.toNat < 10 ^ 9
    · have := dg_len 9 n.toNat e; omega
    · have e : n.toNat = 1000000000 := by omega
      rw [e]; decide +kernel
  · simp
theorem wrap8_digit {n : Int} (h0 : 0 ≤ n) (h1 : n < 10) : IntKind.u8.wrap (48 + n) = ((UInt8.ofNat (48 + n.toNat)).toNat : Int) := by
  unfold IntKind.wrap
  simp [IntKind.bits, IntKind.signed]
  omega
theorem u8_dgt {n : Int} (h0 : 0 ≤ n) : IntKind.u8.wrap (IntKind.i64.wrap (48 + n.tmod 10)) = ((dgt n.toNat).toNat : Int) := by
  have e : n.tmod 10 = n % 10 := Int.tmod_eq_emod_of_nonneg h0
  rw [e, wrap_id (by omega) (by omega), wrap8_digit (by omega) (by omega)]
  have : (n % 10).toNat = n.toNat % 10 := by omega
  rw [this]; rfl
theorem u8_dgt_lt {n : Int} (h0 : 0 ≤ n) (h1 : n < 10) : IntKind.u8.wrap (IntKind.i64.wrap (48 + n)) = ((dgt n.toNat).toNat : Int) := by
  rw [wrap_id (by omega) (by omega), wrap8_digit h0 h1]
  unfold dgt
  rw [Nat.mod_eq_of_lt (by omega)]
theorem quo10 {n : Int} (h0 : 0 ≤ n) (h1 : n ≤ 9223372036854775807) : IntKind.i64.wrap (n.tdiv 10) = n / 10 := by
  have e : n.tdiv 10 = n / 10 := Int.tdiv_eq_ediv_of_nonneg h0
  rw [e, wrap_id (by omega) (by omega)]

def ir_spec_NumText : L :=
  .seq (
  .reg [.mv 2 (.c (.str []))]) (
  .seq (
  .seq (
  .reg [.mv 3 (.t 0),
    .cq 4 F.spec_l01Time [(.t 3)],
    .un 5 (.t 4)]) (
  .cond (.t 5) (
    .seq (
    .reg [.mv 2 (.c (.str []))]) (
    .ret)) (
    .skip))) (
  .seq (
  .seq (
  .reg [.mv 6 (.t 0),
    .bi 7 .lss (.t 6) (.c (.int .i64 10))]) (
  .cond (.t 7) (
    .seq (
    .reg [.mv 8 (.t 0),
      .bi 9 .add (.c (.int .i64 48)) (.t 8),
      .cv 10 .u8 (.t 9),
      .bs 11 1 [(.t 10)] true,
      .b2s 12 (.t 11),
      .mv 2 (.t 12)]) (
    .ret)) (
    .skip))) (
  .seq (
  .rq 11 [.mv 13 (.t 0),
    .bi 14 .quo (.t 13) (.c (.int .i64 10)),
    .cq 15 F.spec_NumText [(.t 14)],
    .mv 16 (.t 0),
    .bi 17 .rem (.t 16) (.c (.int .i64 10)),
    .bi 18 .add (.c (.int .i64 48)) (.t 17),
    .cv 19 .u8 (.t 18),
    .bs 20 1 [(.t 19)] false,
    .b2s 21 (.t 20),
    .sa 22 (.t 15) (.t 21),
    .mv 2 (.t 22)]) (
  .ret))))
def rs_spec_NumText : List Rv := [.t 2]
theorem ck_spec_NumText : chkFn Try.prog F.spec_NumText 1 ir_spec_NumText rs_spec_NumText = true := by kernel_rfl
theorem spec_NumText_ok (n : Int) : Snd Try.prog F.spec_NumText [.int .i64 n] (.str (numText n)) [] := by
  induction hm : n.toNat using Nat.strongRecOn generalizing n with
  | _ m ih =>
    refine snd_by ck_spec_NumText rfl rfl (den_W ?_)
    unfold ir_spec_NumText rs_spec_NumText
    simp
    refine do_cq (spec_time_ok n) (by simp [St.args]) ?_
    cases ht : time n
    · simp [numText, ht]
    · simp
      have ht' : 0 ≤ n ∧ n ≤ 1000000000 := by simpa [time] using ht
      refine ⟨fun h10 => by rw [u8_dgt_lt ht'.1 h10]; simp [numText, ht, dg_lt (show n.toNat < 10 by omega)], fun h10 => ?_⟩
      rw [quo10 ht'.1 (by omega)]
      refine do_cq (ih (n / 10).toNat (by omega) (n / 10) rfl) (by simp [St.args]) ?_
      simp
      refine ⟨[dgt n.toNat], by rw [u8_dgt ht'.1]; simp, ?_⟩
      have hl := numText_len (n / 10)
      have e : time (n / 10) = true := by simp [time]; omega
      have e2 : (n / 10).toNat = n.toNat / 10 := by omega
      simp
      refine ⟨by omega, ?_⟩
      simp [numText, ht, e, e2, dg_ge (show 10 ≤ n.toNat by omega)]

def ir_impl_NumText : L :=
  .seq (
  .reg [.mv 2 (.c (.str []))]) (
  .seq (
  .seq (
  .reg [.mv 4 (.t 0),
    .cq 5 F.impl_isTime [(.t 4)],
    .un 6 (.t 5)]) (
  .cond (.t 6) (
    .seq (
    .reg [.mv 2 (.c (.str []))]) (
    .ret)) (
    .skip))) (
  .seq (
  .reg [.mv 3 (.c (.str []))]) (
  .seq (
  .blk 0 (
    .loop (
      .seq (
      .seq (
      .reg [.mv 7 (.t 0),
        .bi 8 .gtr (.t 7) (.c (.int .i64 9))]) (
      .cond (.t 8) (
        .skip) (
        .exit 0))) (
      .blk 1 (
        .seq (
        .reg [.mv 9 (.t 0),
          .bi 10 .rem (.t 9) (.c (.int .i64 10)),
          .bi 11 .add (.c (.int .i64 48)) (.t 10),
          .cv 12 .u8 (.t 11),
          .bs 13 1 [(.t 12)] true,
          .b2s 14 (.t 13),
          .mv 15 (.t 3),
          .sa 16 (.t 14) (.t 15),
          .mv 3 (.t 16)]) (
        .reg [.mv 17 (.t 0),
          .bi 18 .quo (.t 17) (.c (.int .i64 10)),
          .mv 0 (.t 18)])))))) (
  .seq (
  .reg [.mv 19 (.t 0),
    .bi 20 .add (.c (.int .i64 48)) (.t 19),
    .cv 21 .u8 (.t 20),
    .bs 22 1 [(.t 21)] true,
    .b2s 23 (.t 22),
    .mv 24 (.t 3),
    .sa 25 (.t 23) (.t 24),
    .mv 2 (.t 25)]) (
  .ret)))))
def rs_impl_NumText : List Rv := [.t 2]
theorem ck_impl_NumText : chkFn Try.prog F.impl_NumText 1 ir_impl_NumText rs_impl_NumText = true := by kernel_rfl
theorem impl_NumText_ok (n : Int) : Snd Try.prog F.impl_NumText [.int .i64 n] (.str (numText n)) [] := by
  refine snd_by ck_impl_NumText rfl rfl (den_W ?_)
  unfold ir_impl_NumText rs_impl_NumText
  simp
  refine do_cq (isTime_ok n) (by simp [St.args]) ?_
  cases ht : time n
  · simp [numText, ht]
  · simp
    have ht' : 0 ≤ n ∧ n ≤ 1000000000 := by simpa [time] using ht
    refine W_loop (fun m s => ∃ (k : Int) (o : Str), m = k.toNat ∧ 0 ≤ k ∧ k ≤ 1000000000 ∧ dg n.toNat = dg k.toNat ++ o ∧ s.e 0 = .int .i64 k ∧ s.e 3 = .str o) n.toNat ?_ ?_
    · exact ⟨n, [], by simp [ht']⟩
    · rintro m s ⟨k, o, rfl, h0, h1, hd, e0, e3⟩
      have hlen : (dg n.toNat).length ≤ 10 := by have := numText_len n; simpa [numText, ht] using this
      have hol : o.length ≤ 10 := by rw [hd] at hlen; simp at hlen; omega
      simp [e0, e3]
      refine ⟨fun h9 => ?_, fun h9 => ?_⟩
      · refine ⟨[dgt k.toNat], by rw [u8_dgt h0]; simp, ?_⟩
        simp
        refine ⟨by omega, k.toNat / 10, by omega, k / 10, by omega, by omega, by omega, ?_, quo10 h0 (by omega)⟩
        rw [hd, dg_ge (by omega), show (k / 10).toNat = k.toNat / 10 by omega]
        simp
      · refine ⟨[dgt k.toNat], by rw [u8_dgt_lt h0 (by omega)]; simp, ?_⟩
        simp
        refine ⟨by omega, ?_⟩
        simp [numText, ht, hd, dg_lt (show k.toNat < 10 by omega)]
end Go.Proofs.Ythbbieobcokgbaa
