/-
  The cursor of the draws: what it yields is a number within bounds.
-/
import Derived.Test.YthbbieobcokgbaaHoles1
import Derived.Test.YthbbieobcokgbaaIte
namespace Go.Proofs.Ythbbieobcokgbaa
open Go Go.RowKit Eng
@[simp] def eB (n : Int) : AV := .int .u8 n
@[simp] theorem rdt_BS (l : List Int) : rdtL (l.map eB) = l.map eB := rdtL_enc _ (fun _ => rfl) l
@[simp] theorem nw_BS (l : List Int) : NwL (l.map eB) := NwL_enc _ (fun _ => by simp) l
/-- A cursor over bytes. -/
def isCur (bs : List Int) (b : List AV) : Prop := ∃ (i : Nat) (h : Int), i ≤ bs.length ∧ b = [.sl .rd 1 (bs.map eB), .int .i64 i, .int .i64 h]
/-- A number within bounds is drawn. -/
def drawn (bs : List Int) (lo hi : Int) : AV → List (List AV) → List (Option (List AV)) → List Row → Prop := fun res bout us new => ∃ x b, lo ≤ x ∧ x ≤ hi ∧ res = .int .i64 x ∧ bout = [b] ∧ isCur bs b ∧ us = [] ∧ new = []
theorem isCur_len {bs : List Int} {b : List AV} (h : isCur bs b) : b.length = 3 := by obtain ⟨i, x, _, rfl⟩ := h; rfl
theorem bAnd_255 (a : Int) : 0 ≤ bAnd .i64 a 255 ∧ bAnd .i64 a 255 ≤ 255 := by
  have h : (BitVec.ofInt 64 a &&& BitVec.ofInt 64 255).toNat ≤ 255 := by
    rw [BitVec.toNat_and]
    exact Nat.le_trans Nat.and_le_right (by decide)
  show 0 ≤ IntKind.i64.wrap _ ∧ IntKind.i64.wrap _ ≤ 255
  have e : ((BitVec.ofInt IntKind.i64.bits a &&& BitVec.ofInt IntKind.i64.bits 255).toNat : Int) = ((BitVec.ofInt 64 a &&& BitVec.ofInt 64 255).toNat : Int) := rfl
  rw [e, wrap_id (by omega) (by omega)]
  omega
def ir_spec_l01Byte : L :=
  .seq (
  .reg [.mv 2 (.c (.int .i64 0))]) (
  .seq (
  .reg [.mv 4 (.t 0),
    .mv 5 (.t 0),
    .nc 6 (.t 5),
    .fa 7 (.t 6) 2,
    .ld 8 (.t 7) 1 false,
    .bi 9 .mul (.t 8) (.c (.int .i64 6364136223846793005)),
    .bi 10 .add (.t 9) (.c (.int .i64 1442695040888963407)),
    .nc 11 (.t 4),
    .fa 12 (.t 11) 2,
    .st (.t 12) (.t 10) 1]) (
  .seq (
  .rq 13 [.mv 13 (.t 0),
    .nc 14 (.t 13),
    .fa 15 (.t 14) 2,
    .ld 16 (.t 15) 1 false,
    .bi 17 .shr (.t 16) (.c (.int .u64 33)),
    .mv 18 (.t 0),
    .nc 19 (.t 18),
    .fa 20 (.t 19) 2,
    .ld 21 (.t 20) 1 false,
    .bi 22 .shr (.t 21) (.c (.int .u64 45)),
    .bi 23 .xor (.t 17) (.t 22),
    .bi 24 .and (.t 23) (.c (.int .i64 255)),
    .mv 3 (.t 24)]) (
  .seq (
  .seq (
  .rq 10 [.mv 25 (.t 0),
    .nc 26 (.t 25),
    .fa 27 (.t 26) 1,
    .ld 28 (.t 27) 1 false,
    .mv 29 (.t 0),
    .nc 30 (.t 29),
    .fa 31 (.t 30) 0,
    .ld 32 (.t 31) 1 false,
    .lq 33 (.t 32),
    .bi 34 .lss (.t 28) (.t 33)]) (
  .cond (.t 34) (
    .seq (
    .rq 14 [.mv 35 (.t 3),
      .mv 36 (.t 0),
      .nc 37 (.t 36),
      .fa 38 (.t 37) 0,
      .ld 39 (.t 38) 1 false,
      .mv 40 (.t 0),
      .nc 41 (.t 40),
      .fa 42 (.t 41) 1,
      .ld 43 (.t 42) 1 false,
      .ia 44 (.t 39) (.t 43) 1,
      .ld 45 (.t 44) 1 false,
      .cv 46 .i64 (.t 45),
      .bi 47 .add (.t 35) (.t 46),
      .bi 48 .and (.t 47) (.c (.int .i64 255)),
      .mv 3 (.t 48)]) (
    .reg [.mv 49 (.t 0),
      .mv 50 (.t 0),
      .nc 51 (.t 50),
      .fa 52 (.t 51) 1,
      .ld 53 (.t 52) 1 false,
      .bi 54 .add (.t 53) (.c (.int .i64 1)),
      .nc 55 (.t 49),
      .fa 56 (.t 55) 1,
      .st (.t 56) (.t 54) 1])) (
    .skip))) (
  .seq (
  .reg [.mv 57 (.t 3),
    .mv 2 (.t 57)]) (
  .ret)))))
def rs_spec_l01Byte : List Rv := [.t 2]
theorem ck_spec_l01Byte : chkFn Try.prog F.spec_l01Byte 1 ir_spec_l01Byte rs_spec_l01Byte = true := by kernel_rfl
set_option maxRecDepth 10000 in
theorem l01Byte_ok (bs : List Int) (b : List AV) (hb : isCur bs b) (hl : bs.length ≤ 1048576) : Con Try.prog F.spec_l01Byte [.ptr 0 0] [b] [] (drawn bs 0 255) := by
  obtain ⟨i, h, hi, rfl⟩ := hb
  refine con_by [] ck_spec_l01Byte rfl (by simp) fun _ => den_W ?_
  unfold ir_spec_l01Byte rs_spec_l01Byte
  simp
  refine ⟨by omega, ?_⟩
  generalize IntKind.i64.wrap (IntKind.i64.wrap (h * 6364136223846793005) + 1442695040888963407) = h'
  generalize hx : bAnd .i64 (bXor .i64 (bShr .i64 h' 33) (bShr .i64 h' 45)) 255 = x
  have hx' := bAnd_255 (bXor .i64 (bShr .i64 h' 33) (bShr .i64 h' 45))
  rw [hx] at hx'
  by_cases hlt : i < bs.length
  · have hws := wrap_succ hlt (by omega : bs.length ≤ 9223372036854775807)
    simp [hlt, hws]
    generalize hy : bAnd .i64 (IntKind.i64.wrap (x + IntKind.i64.wrap bs[i])) 255 = y
    have hy' := bAnd_255 (IntKind.i64.wrap (x + IntKind.i64.wrap bs[i]))
    rw [hy] at hy'
    refine postC_ret [[.sl .rd 1 (bs.map eB), .int .i64 ((i + 1 : Nat) : Int), .int .i64 h']] [] [] [] ?_
    simp
    exact ⟨y, _, hy'.1, hy'.2, rfl, rfl, ⟨i + 1, h', hlt, by simp⟩, rfl, rfl⟩
  · simp [hlt]
    refine postC_ret [[.sl .rd 1 (bs.map eB), .int .i64 ((i : Nat) : Int), .int .i64 h']] [] [] [] ?_
    simp
    exact ⟨x, _, hx'.1, hx'.2, rfl, rfl, ⟨i, h', hi, by simp⟩, rfl, rfl⟩
theorem drawn_mono {bs : List Int} {lo hi lo' hi' : Int} (h1 : lo' ≤ lo) (h2 : hi ≤ hi') {res : AV} {bout : List (List AV)} {us : List (Option (List AV))} {new : List Row} (h : drawn bs lo hi res bout us new) : drawn bs lo' hi' res bout us new := by
  obtain ⟨x, b, q1, q2, q⟩ := h
  exact ⟨x, b, by omega, by omega, q⟩
theorem Con.mono {f : FuncId} {args : List AV} {bin : List (List AV)} {rin : List Row} {Φ Φ' : AV → List (List AV) → List (Option (List AV)) → List Row → Prop} (h : Con Try.prog f args bin rin Φ) (hΦ : ∀ a b c d, Φ a b c d → Φ' a b c d) : Con Try.prog f args bin rin Φ' := by
  intro w g vs q1 q2 q3 q4
  refine (h w g vs q1 q2 q3 q4).mono fun e w' hq => ?_
  obtain ⟨v, e1, e2, res, bout, upd, new, hp, rest⟩ := hq
  exact ⟨v, e1, e2, res, bout, upd, new, hΦ _ _ _ _ hp, rest⟩
def ir_spec_l01Below : L :=
  .seq (
  .reg [.mv 4 (.c (.int .i64 0))]) (
  .seq (
  .seq (
  .reg [.mv 9 (.t 1),
    .bi 10 .leq (.t 9) (.c (.int .i64 0))]) (
  .cond (.t 10) (
    .seq (
    .reg [.mv 4 (.c (.int .i64 0))]) (
    .ret)) (
    .skip))) (
  .seq (
  .seq (
  .reg [.mv 11 (.t 1),
    .bi 12 .leq (.t 11) (.c (.int .i64 256))]) (
  .cond (.t 12) (
    .seq (
    .reg [.mv 13 (.t 0),
      .cm 14 F.spec_l01Byte [(.t 13)],
      .mv 15 (.t 1),
      .bi 16 .rem (.t 14) (.t 15),
      .mv 4 (.t 16)]) (
    .ret)) (
    .skip))) (
  .seq (
  .reg [.mv 17 (.t 0),
    .cm 18 F.spec_l01Byte [(.t 17)],
    .mv 5 (.t 18)]) (
  .seq (
  .reg [.mv 19 (.t 0),
    .cm 20 F.spec_l01Byte [(.t 19)],
    .mv 6 (.t 20)]) (
  .seq (
  .reg [.mv 21 (.t 0),
    .cm 22 F.spec_l01Byte [(.t 21)],
    .mv 7 (.t 22)]) (
  .seq (
  .reg [.mv 23 (.t 0),
    .cm 24 F.spec_l01Byte [(.t 23)],
    .mv 8 (.t 24)]) (
  .seq (
  .reg [.mv 25 (.t 5),
    .bi 26 .mul (.t 25) (.c (.int .i64 16777216)),
    .mv 27 (.t 6),
    .bi 28 .mul (.t 27) (.c (.int .i64 65536)),
    .bi 29 .add (.t 26) (.t 28),
    .mv 30 (.t 7),
    .bi 31 .mul (.t 30) (.c (.int .i64 256)),
    .bi 32 .add (.t 29) (.t 31),
    .mv 33 (.t 8),
    .bi 34 .add (.t 32) (.t 33),
    .mv 35 (.t 1),
    .bi 36 .rem (.t 34) (.t 35),
    .mv 4 (.t 36)]) (
  .ret))))))))
def rs_spec_l01Below : List Rv := [.t 4]
theorem ck_spec_l01Below : chkFn Try.prog F.spec_l01Below 2 ir_spec_l01Below rs_spec_l01Below = true := by kernel_rfl
set_option maxRecDepth 10000 in
theorem l01Below_ok (bs : List Int) (b : List AV) (n : Int) (hb : isCur bs b) (hl : bs.length ≤ 1048576) (hn : n ≤ 1000000000) : Con Try.prog F.spec_l01Below [.ptr 0 0, .int .i64 n] [b] [] (drawn bs 0 (max 0 (n - 1))) := by
  obtain ⟨i, h, hi, rfl⟩ := hb
  refine con_by [] ck_spec_l01Below rfl (by simp) fun _ => den_W ?_
  unfold ir_spec_l01Below rs_spec_l01Below
  by_cases h0 : n ≤ 0
  · simp [h0]
    refine postC_ret [[.sl .rd 1 (bs.map eB), .int .i64 (i : Nat), .int .i64 h]] [] [] [] ?_
    simp
    exact ⟨0, _, by omega, by omega, rfl, rfl, ⟨i, h, hi, rfl⟩, rfl, rfl⟩
  have hne : ¬ n = 0 := by omega
  by_cases h256 : n ≤ 256
  · simp [h0, h256]
    refine do_cm [2000000000] [] (l01Byte_ok bs _ ⟨i, h, hi, rfl⟩ hl) rfl (by simp) (by simp) (by simp) ?_
    rintro _ _ _ _ _ _ ⟨x, _, x0, x1, rfl, rfl, ⟨i', h', hi', rfl⟩, rfl, rfl⟩
    have r0 := Int.tmod_nonneg n x0
    have r1 := Int.tmod_lt_of_pos x (show 0 < n by omega)
    simp [hne]
    refine postC_ret [[.sl .rd 1 (bs.map eB), .int .i64 (i' : Nat), .int .i64 h']] [] [] [] ?_
    simp
    exact ⟨x.tmod n, _, r0, by omega, rfl, rfl, ⟨i', h', hi', rfl⟩, rfl, rfl⟩
  · simp [h0, h256]
    refine do_cm [2000000000] [] (l01Byte_ok bs _ ⟨i, h, hi, rfl⟩ hl) rfl (by simp) (by simp) (by simp) ?_
    rintro _ _ _ _ _ _ ⟨x, _, x0, x1, rfl, rfl, ⟨i1, h1, hi1, rfl⟩, rfl, rfl⟩
    simp
    refine do_cm [2000000000] [] (l01Byte_ok bs _ ⟨i1, h1, hi1, rfl⟩ hl) rfl (by simp) (by simp) (by simp) ?_
    rintro _ _ _ _ _ _ ⟨y, _, y0, y1, rfl, rfl, ⟨i2, h2, hi2, rfl⟩, rfl, rfl⟩
    simp
    refine do_cm [2000000000] [] (l01Byte_ok bs _ ⟨i2, h2, hi2, rfl⟩ hl) rfl (by simp) (by simp) (by simp) ?_
    rintro _ _ _ _ _ _ ⟨z, _, z0, z1, rfl, rfl, ⟨i3, h3, hi3, rfl⟩, rfl, rfl⟩
    simp
    refine do_cm [2000000000] [] (l01Byte_ok bs _ ⟨i3, h3, hi3, rfl⟩ hl) rfl (by simp) (by simp) (by simp) ?_
    rintro _ _ _ _ _ _ ⟨u, _, u0, u1, rfl, rfl, ⟨i4, h4, hi4, rfl⟩, rfl, rfl⟩
    have e1 : IntKind.i64.wrap (x * 16777216) = x * 16777216 := wrap_id (by omega) (by omega)
    have e2 : IntKind.i64.wrap (y * 65536) = y * 65536 := wrap_id (by omega) (by omega)
    have e3 : IntKind.i64.wrap (z * 256) = z * 256 := wrap_id (by omega) (by omega)
    have e4 : IntKind.i64.wrap (x * 16777216 + y * 65536) = x * 16777216 + y * 65536 := wrap_id (by omega) (by omega)
    have e5 : IntKind.i64.wrap (x * 16777216 + y * 65536 + z * 256) = x * 16777216 + y * 65536 + z * 256 := wrap_id (by omega) (by omega)
    have e6 : IntKind.i64.wrap (x * 16777216 + y * 65536 + z * 256 + u) = x * 16777216 + y * 65536 + z * 256 + u := wrap_id (by omega) (by omega)
    have r0 := Int.tmod_nonneg n (show 0 ≤ x * 16777216 + y * 65536 + z * 256 + u by omega)
    have r1 := Int.tmod_lt_of_pos (x * 16777216 + y * 65536 + z * 256 + u) (show 0 < n by omega)
    simp [hne, e1, e2, e3, e4, e5, e6]
    refine postC_ret [[.sl .rd 1 (bs.map eB), .int .i64 (i4 : Nat), .int .i64 h4]] [] [] [] ?_
    simp
    exact ⟨(x * 16777216 + y * 65536 + z * 256 + u).tmod n, _, r0, by omega, rfl, rfl, ⟨i4, h4, hi4, rfl⟩, rfl, rfl⟩
def ir_spec_l01Raw : L :=
  .seq (
  .reg [.mv 2 (.c (.int .i64 0))]) (
  .seq (
  .reg [.mv 4 (.t 0),
    .cm 5 F.spec_l01Below [(.t 4), (.c (.int .i64 9))],
    .mv 3 (.t 5)]) (
  .seq (
  .seq (
  .reg [.mv 6 (.t 3),
    .bi 7 .lss (.t 6) (.c (.int .i64 4))]) (
  .cond (.t 7) (
    .seq (
    .reg [.mv 8 (.t 0),
      .cm 9 F.spec_l01Below [(.t 8), (.c (.int .i64 24))],
      .bi 10 .sub (.t 9) (.c (.int .i64 2)),
      .mv 2 (.t 10)]) (
    .ret)) (
    .skip))) (
  .seq (
  .seq (
  .reg [.mv 11 (.t 3),
    .bi 12 .eql (.t 11) (.c (.int .i64 4))]) (
  .cond (.t 12) (
    .seq (
    .reg [.mv 13 (.t 0),
      .cm 14 F.spec_l01Below [(.t 13), (.c (.int .i64 3))],
      .bi 15 .add (.c (.int .i64 999999)) (.t 14),
      .mv 2 (.t 15)]) (
    .ret)) (
    .skip))) (
  .seq (
  .seq (
  .reg [.mv 16 (.t 3),
    .bi 17 .eql (.t 16) (.c (.int .i64 5))]) (
  .cond (.t 17) (
    .seq (
    .reg [.mv 18 (.t 0),
      .cm 19 F.spec_l01Below [(.t 18), (.c (.int .i64 3))],
      .bi 20 .add (.c (.int .i64 999999999)) (.t 19),
      .mv 2 (.t 20)]) (
    .ret)) (
    .skip))) (
  .seq (
  .seq (
  .reg [.mv 21 (.t 3),
    .bi 22 .eql (.t 21) (.c (.int .i64 6))]) (
  .cond (.t 22) (
    .seq (
    .reg [.mv 23 (.t 0),
      .cm 24 F.spec_l01Below [(.t 23), (.c (.int .i64 2))],
      .bi 25 .sub (.c (.int .i64 9223372036854775807)) (.t 24),
      .mv 2 (.t 25)]) (
    .ret)) (
    .skip))) (
  .seq (
  .seq (
  .reg [.mv 26 (.t 3),
    .bi 27 .eql (.t 26) (.c (.int .i64 7))]) (
  .cond (.t 27) (
    .seq (
    .reg [.mv 28 (.t 0),
      .cm 29 F.spec_l01Below [(.t 28), (.c (.int .i64 2))],
      .bi 30 .sub (.c (.int .i64 (-9223372036854775807))) (.t 29),
      .mv 2 (.t 30)]) (
    .ret)) (
    .skip))) (
  .seq (
  .reg [.mv 31 (.t 0),
    .cm 32 F.spec_l01Below [(.t 31), (.c (.int .i64 2000000))],
    .mv 2 (.t 32)]) (
  .ret))))))))
def rs_spec_l01Raw : List Rv := [.t 2]
theorem ck_spec_l01Raw : chkFn Try.prog F.spec_l01Raw 1 ir_spec_l01Raw rs_spec_l01Raw = true := by kernel_rfl
set_option maxRecDepth 10000 in
theorem l01Raw_ok (bs : List Int) (b : List AV) (hb : isCur bs b) (hl : bs.length ≤ 1048576) : Con Try.prog F.spec_l01Raw [.ptr 0 0] [b] [] (drawn bs (-9223372036854775808) 9223372036854775807) := by
  obtain ⟨i, h, hi, rfl⟩ := hb
  refine con_by [] ck_spec_l01Raw rfl (by simp) fun _ => den_W ?_
  unfold ir_spec_l01Raw rs_spec_l01Raw
  simp
  refine do_cm [2000000000] [] (l01Below_ok bs _ 9 ⟨i, h, hi, rfl⟩ hl (by omega)) rfl (by simp) (by simp) (by simp) ?_
  rintro _ _ _ _ _ _ ⟨k, _, k0, k1, rfl, rfl, ⟨i1, h1, hi1, rfl⟩, rfl, rfl⟩
  by_cases c4 : k < 4
  · simp [c4]
    refine do_cm [2000000000] [] (l01Below_ok bs _ 24 ⟨i1, h1, hi1, rfl⟩ hl (by omega)) rfl (by simp) (by simp) (by simp) ?_
    rintro _ _ _ _ _ _ ⟨x, _, x0, x1, rfl, rfl, ⟨i2, h2, hi2, rfl⟩, rfl, rfl⟩
    have e : IntKind.i64.wrap (x - 2) = x - 2 := wrap_id (by omega) (by omega)
    simp [e]
    refine postC_ret [[.sl .rd 1 (bs.map eB), .int .i64 (i2 : Nat), .int .i64 h2]] [] [] [] ?_
    simp
    exact ⟨_, _, by omega, by omega, rfl, rfl, ⟨i2, h2, hi2, rfl⟩, rfl, rfl⟩
  by_cases c14 : k = 4
  · simp [c14]
    refine do_cm [2000000000] [] (l01Below_ok bs _ 3 ⟨i1, h1, hi1, rfl⟩ hl (by omega)) rfl (by simp) (by simp) (by simp) ?_
    rintro _ _ _ _ _ _ ⟨x, _, x0, x1, rfl, rfl, ⟨i2, h2, hi2, rfl⟩, rfl, rfl⟩
    have e : IntKind.i64.wrap (999999 + x) = 999999 + x := wrap_id (by omega) (by omega)
    simp [e]
    refine postC_ret [[.sl .rd 1 (bs.map eB), .int .i64 (i2 : Nat), .int .i64 h2]] [] [] [] ?_
    simp
    exact ⟨_, _, by omega, by omega, rfl, rfl, ⟨i2, h2, hi2, rfl⟩, rfl, rfl⟩
  by_cases c15 : k = 5
  · simp [c15]
    refine do_cm [2000000000] [] (l01Below_ok bs _ 3 ⟨i1, h1, hi1, rfl⟩ hl (by omega)) rfl (by simp) (by simp) (by simp) ?_
    rintro _ _ _ _ _ _ ⟨x, _, x0, x1, rfl, rfl, ⟨i2, h2, hi2, rfl⟩, rfl, rfl⟩
    have e : IntKind.i64.wrap (999999999 + x) = 999999999 + x := wrap_id (by omega) (by omega)
    simp [e]
    refine postC_ret [[.sl .rd 1 (bs.map eB), .int .i64 (i2 : Nat), .int .i64 h2]] [] [] [] ?_
    simp
    exact ⟨_, _, by omega, by omega, rfl, rfl, ⟨i2, h2, hi2, rfl⟩, rfl, rfl⟩
  by_cases c16 : k = 6
  · simp [c16]
    refine do_cm [2000000000] [] (l01Below_ok bs _ 2 ⟨i1, h1, hi1, rfl⟩ hl (by omega)) rfl (by simp) (by simp) (by simp) ?_
    rintro _ _ _ _ _ _ ⟨x, _, x0, x1, rfl, rfl, ⟨i2, h2, hi2, rfl⟩, rfl, rfl⟩
    have e : IntKind.i64.wrap (9223372036854775807 - x) = 9223372036854775807 - x := wrap_id (by omega) (by omega)
    simp [e]
    refine postC_ret [[.sl .rd 1 (bs.map eB), .int .i64 (i2 : Nat), .int .i64 h2]] [] [] [] ?_
    simp
    exact ⟨_, _, by omega, by omega, rfl, rfl, ⟨i2, h2, hi2, rfl⟩, rfl, rfl⟩
  by_cases c17 : k = 7
  · simp [c17]
    refine do_cm [2000000000] [] (l01Below_ok bs _ 2 ⟨i1, h1, hi1, rfl⟩ hl (by omega)) rfl (by simp) (by simp) (by simp) ?_
    rintro _ _ _ _ _ _ ⟨x, _, x0, x1, rfl, rfl, ⟨i2, h2, hi2, rfl⟩, rfl, rfl⟩
    have e : IntKind.i64.wrap (-9223372036854775807 - x) = -9223372036854775807 - x := wrap_id (by omega) (by omega)
    simp [e]
    refine postC_ret [[.sl .rd 1 (bs.map eB), .int .i64 (i2 : Nat), .int .i64 h2]] [] [] [] ?_
    simp
    exact ⟨_, _, by omega, by omega, rfl, rfl, ⟨i2, h2, hi2, rfl⟩, rfl, rfl⟩
  · simp [c4, c14, c15, c16, c17]
    refine do_cm [2000000000] [] (l01Below_ok bs _ 2000000 ⟨i1, h1, hi1, rfl⟩ hl (by omega)) rfl (by simp) (by simp) (by simp) ?_
    rintro _ _ _ _ _ _ ⟨x, _, x0, x1, rfl, rfl, ⟨i2, h2, hi2, rfl⟩, rfl, rfl⟩
    simp
    refine postC_ret [[.sl .rd 1 (bs.map eB), .int .i64 (i2 : Nat), .int .i64 h2]] [] [] [] ?_
    simp
    exact ⟨_, _, by omega, by omega, rfl, rfl, ⟨i2, h2, hi2, rfl⟩, rfl, rfl⟩
def ir_spec_l01New : L :=
  .seq (
  .reg [.mv 2 (.c (.bad))]) (
  .seq (
  .reg [.mv 5 (.t 0),
    .ln 6 (.t 5),
    .bi 7 .add (.c (.int .i64 958001)) (.t 6),
    .mv 3 (.t 7)]) (
  .seq (
  .seq (
  .reg [.mv 4 (.c (.int .i64 0))]) (
  .blk 0 (
    .loop (
      .seq (
      .seq (
      .reg [.mv 8 (.t 4),
        .mv 9 (.t 0),
        .ln 10 (.t 9),
        .bi 11 .lss (.t 8) (.t 10),
        .mv 12 (.t 11),
        .g 12 true (.mv 13 (.t 4)),
        .g 12 true (.bi 14 .lss (.t 13) (.c (.int .i64 4000))),
        .pk 15 (.t 12) (.t 14) (.c (.bool false))]) (
      .cond (.t 15) (
        .skip) (
        .exit 0))) (
      .seq (
      .blk 1 (
        .reg [.mv 18 (.t 3),
          .bi 19 .mul (.t 18) (.c (.int .i64 151)),
          .mv 20 (.t 0),
          .mv 21 (.t 4),
          .ia 22 (.t 20) (.t 21) 1,
          .ld 23 (.t 22) 1 false,
          .cv 24 .i64 (.t 23),
          .bi 25 .add (.t 19) (.t 24),
          .bi 26 .add (.t 25) (.c (.int .i64 7)),
          .bi 27 .and (.t 26) (.c (.int .i64 1073741823)),
          .mv 3 (.t 27)])) (
      .reg [.mv 16 (.t 4),
        .bi 17 .add (.t 16) (.c (.int .i64 1)),
        .mv 4 (.t 17)])))))) (
  .seq (
  .reg [.mv 28 (.t 0),
    .mv 29 (.t 3),
    .bd 30 [.nl, .int .i64 0, .int .i64 0] [(0, 1, (.t 28)), (2, 1, (.t 29))],
    .bx 31 (.t 30),
    .mv 2 (.t 31)]) (
  .ret))))
def rs_spec_l01New : List Rv := [.t 2]
theorem ck_spec_l01New : chkFn Try.prog F.spec_l01New 1 ir_spec_l01New rs_spec_l01New = true := by kernel_rfl
set_option maxRecDepth 10000 in
theorem l01New_ok (bs : List Int) (hl : bs.length ≤ 1048576) : SndB Try.prog F.spec_l01New [.sl .rd 1 (bs.map eB)] (isCur bs) := by
  refine sndb_by ck_spec_l01New rfl (by simp) (den_W ?_)
  unfold ir_spec_l01New
  simp
  intro _
  refine W_rngJ bs.length (fun i s => ∃ h, s.e 0 = .sl .rd 1 (bs.map eB) ∧ s.e 3 = .int .i64 h ∧ s.e 4 = .int .i64 (i : Nat)) (fun s => ∃ h, s.e 0 = .sl .rd 1 (bs.map eB) ∧ s.e 3 = .int .i64 h) ?_ ?_ ?_
  · exact ⟨_, by simp; rfl⟩
  · rintro i s hi ⟨h, e0, e3, e4⟩
    by_cases hlt : i < bs.length
    · by_cases h4 : (i : Int) < 4000
      · simp [e0, e3, e4, hlt, h4]
        intro _
        refine rng_next hlt ⟨bAnd .i64 (IntKind.i64.wrap (IntKind.i64.wrap (IntKind.i64.wrap (h * 151) + IntKind.i64.wrap bs[i]) + 7)) 1073741823, ?_⟩
        simp [e0, wrap_succ hlt (by omega : bs.length ≤ 9223372036854775807)]
      · simp [e0, e4, hlt, h4]
        intro _
        refine beh_of ⟨h, ?_⟩
        simp [e0, e3]
    · simp [e0, e4, hlt]
      intro _
      refine beh_of ⟨h, ?_⟩
      simp [e0, e3]
  rintro s ⟨h, e0, e3⟩
  simp [e0, e3]
  exact ⟨0, h, by omega, by simp⟩
end Go.Proofs.Ythbbieobcokgbaa
