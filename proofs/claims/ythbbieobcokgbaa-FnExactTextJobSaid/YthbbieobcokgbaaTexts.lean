/-
  Parts of a text; TextNum.
-/
import Derived.Test.YthbbieobcokgbaaNums
import Derived.Test.YthbbieobcokgbaaWords
namespace Go.Proofs.Ythbbieobcokgbaa
open Go Go.RowKit Eng
def parts (b : UInt8) : Str → List Str
  | [] => [[]]
  | c :: s => if c = b then [] :: parts b s else match parts b s with
    | p :: ps => (c :: p) :: ps
    | [] => [[c]]
theorem parts_ne (b : UInt8) (s : Str) : parts b s ≠ [] := by
  cases s with
  | nil => simp [parts]
  | cons c s =>
    rw [parts]
    split
    · simp
    · split <;> simp
theorem parts_none {b : UInt8} : ∀ {p : Str}, (∀ c ∈ p, c ≠ b) → parts b p = [p]
  | [], _ => rfl
  | c :: p, h => by
    rw [parts, if_neg (h c (by simp)), parts_none fun x hx => h x (by simp [hx])]
theorem parts_cut {b : UInt8} (q : Str) : ∀ {p : Str}, (∀ c ∈ p, c ≠ b) → parts b (p ++ b :: q) = p :: parts b q
  | [], _ => by simp [parts]
  | c :: p, h => by
    rw [List.cons_append, parts, if_neg (h c (by simp)), parts_cut q fun x hx => h x (by simp [hx])]
theorem parts_len (b : UInt8) (s : Str) : (parts b s).length ≤ s.length + 1 := by
  induction s with
  | nil => simp [parts]
  | cons c s ih =>
    rw [parts]
    split
    · simp; omega
    · split
      · rename_i p ps h; rw [h] at ih; simp at ih ⊢; omega
      · simp
theorem u8_eq {a b : UInt8} : ((a.toNat : Int) = (b.toNat : Int)) ↔ a = b := by
  constructor
  · intro h; exact UInt8.toNat_inj.1 (by omega)
  · intro h; rw [h]
/-- Byte i is b: the part ends there. -/
theorem cut_at {b : UInt8} {s : Str} {o : List Str} {f i : Nat} (hp : parts b s = o ++ parts b (s.drop f)) (hf : f ≤ i) (hi : i < s.length) (hn : ∀ c ∈ (s.take i).drop f, c ≠ b) (hb : s[i] = b) :
    parts b s = (o ++ [(s.take i).drop f]) ++ parts b (s.drop (i + 1)) := by
  have e : s.drop f = (s.take i).drop f ++ b :: s.drop (i + 1) := by
    conv => lhs; rw [← List.take_append_drop i s]
    rw [List.drop_append_of_le_length (by simp; omega), List.drop_eq_getElem_cons hi, hb]
  rw [hp, e, parts_cut _ hn]
  simp
theorem go_on {b : UInt8} {s : Str} {f i : Nat} (hf : f ≤ i) (hi : i < s.length) (hn : ∀ c ∈ (s.take i).drop f, c ≠ b) (hb : s[i] ≠ b) : ∀ c ∈ (s.take (i + 1)).drop f, c ≠ b := by
  intro c hc
  rw [List.take_succ_eq_append_getElem hi, List.drop_append_of_le_length (by simp; omega)] at hc
  rcases List.mem_append.1 hc with h | h
  · exact hn c h
  · simp at h; subst h; exact hb
def ir_spec_Parts : L :=
  .seq (
  .reg [.mv 4 (.c (.nl))]) (
  .seq (
  .reg [.bs 8 1 [] true,
    .mv 5 (.t 8)]) (
  .seq (
  .reg [.mv 6 (.c (.int .i64 0))]) (
  .seq (
  .seq (
  .reg [.mv 7 (.c (.int .i64 0))]) (
  .blk 0 (
    .loop (
      .seq (
      .seq (
      .reg [.mv 9 (.t 7),
        .mv 10 (.t 0),
        .ls 11 (.t 10),
        .bi 12 .lss (.t 9) (.t 11)]) (
      .cond (.t 12) (
        .skip) (
        .exit 0))) (
      .seq (
      .blk 1 (
        .seq (
        .reg [.mv 15 (.t 0),
          .mv 16 (.t 7),
          .ix 17 (.t 15) (.t 16),
          .mv 18 (.t 1),
          .bi 19 .eql (.t 17) (.t 18)]) (
        .cond (.t 19) (
          .seq (
          .reg [.mv 20 (.t 5),
            .mv 21 (.t 0),
            .mv 22 (.t 6),
            .mv 23 (.t 7),
            .ss 24 (.t 21) (some (.t 22)) (some (.t 23)),
            .bs 25 1 [(.t 24)] false,
            .ap 26 (.t 20) (.t 25) 1 16,
            .mv 5 (.t 26)]) (
          .reg [.mv 27 (.t 7),
            .bi 28 .add (.t 27) (.c (.int .i64 1)),
            .mv 6 (.t 28)])) (
          .skip)))) (
      .reg [.mv 13 (.t 7),
        .bi 14 .add (.t 13) (.c (.int .i64 1)),
        .mv 7 (.t 14)])))))) (
  .seq (
  .reg [.mv 29 (.t 5),
    .mv 30 (.t 0),
    .mv 31 (.t 6),
    .ss 32 (.t 30) (some (.t 31)) none,
    .bs 33 1 [(.t 32)] false,
    .ap 34 (.t 29) (.t 33) 1 16,
    .mv 4 (.t 34)]) (
  .ret)))))
def rs_spec_Parts : List Rv := [.t 4]
theorem ck_spec_Parts : chkFn Try.prog F.spec_Parts 2 ir_spec_Parts rs_spec_Parts = true := by kernel_rfl
theorem spec_Parts_ok (s : Str) (b : UInt8) (hs : s.length ≤ 1073741824) : Snd Try.prog F.spec_Parts [.str s, .int .u8 b.toNat] (.sref 0) [⟨1, (parts b s).map eS, false⟩] := by
  refine snd_by ck_spec_Parts rfl (by simp) (den_W ?_)
  unfold ir_spec_Parts rs_spec_Parts
  simp
  refine W_loop (fun m t => ∃ (i f : Nat) (o : List Str), m = s.length - i ∧ i ≤ s.length ∧ f ≤ i ∧ o.length ≤ i ∧ parts b s = o ++ parts b (s.drop f) ∧ (∀ c ∈ (s.take i).drop f, c ≠ b) ∧ t.e 0 = .str s ∧ t.e 1 = .int .u8 b.toNat ∧ t.e 5 = .sref 8 ∧
    t.e 6 = .int .i64 (f : Nat) ∧ t.e 7 = .int .i64 (i : Nat) ∧ t.rw 8 = some ⟨1, o.map eS, false⟩) s.length ?_ ?_
  · exact ⟨0, 0, [], by simp⟩
  · rintro m t ⟨i, f, o, rfl, hi, hf, ho, hp, hn, h0, h1, h5, h6, h7, hr⟩
    by_cases h : i < s.length
    · simp [h0, h1, h5, h6, h7, hr, h, u8_eq]
      by_cases hb : s[i] = b
      · simp [hb, hf, hi]
        refine ⟨by omega, s.length - (i + 1), by omega, i + 1, rfl, by omega, i + 1, by omega, o ++ [(s.take i).drop f], by simp; omega, cut_at hp hf h hn hb, ?_, ?_⟩
        · simp
        · rw [wrap_id (by omega) (by omega)]; simp
      · simp [hb]
        exact ⟨s.length - (i + 1), by omega, i + 1, rfl, by omega, f, by omega, o, by omega, hp, go_on hf h hn hb, by simp, by rw [wrap_id (by omega) (by omega)]; omega, rfl⟩
    · have : i = s.length := by omega
      subst this
      rw [List.take_of_length_le (Nat.le_refl _)] at hn
      rw [parts_none hn] at hp
      simp [h0, h5, h6, h7, hr, hf]
      refine ⟨by omega, ?_⟩
      refine post_ret [8] ?_
      simp [hp]
def ir_impl_Parts : L :=
  .seq (
  .reg [.mv 4 (.c (.nl))]) (
  .seq (
  .reg [.bs 8 1 [] true,
    .mv 5 (.t 8)]) (
  .seq (
  .reg [.mv 6 (.c (.int .i64 0))]) (
  .seq (
  .seq (
  .reg [.mv 7 (.c (.int .i64 0))]) (
  .blk 0 (
    .loop (
      .seq (
      .seq (
      .reg [.mv 9 (.t 7),
        .mv 10 (.t 0),
        .ls 11 (.t 10),
        .bi 12 .lss (.t 9) (.t 11)]) (
      .cond (.t 12) (
        .skip) (
        .exit 0))) (
      .seq (
      .blk 1 (
        .seq (
        .reg [.mv 15 (.t 0),
          .mv 16 (.t 7),
          .ix 17 (.t 15) (.t 16),
          .mv 18 (.t 1),
          .bi 19 .eql (.t 17) (.t 18)]) (
        .cond (.t 19) (
          .seq (
          .reg [.mv 20 (.t 5),
            .mv 21 (.t 0),
            .mv 22 (.t 6),
            .mv 23 (.t 7),
            .ss 24 (.t 21) (some (.t 22)) (some (.t 23)),
            .bs 25 1 [(.t 24)] false,
            .ap 26 (.t 20) (.t 25) 1 16,
            .mv 5 (.t 26)]) (
          .reg [.mv 27 (.t 7),
            .bi 28 .add (.t 27) (.c (.int .i64 1)),
            .mv 6 (.t 28)])) (
          .skip)))) (
      .reg [.mv 13 (.t 7),
        .bi 14 .add (.t 13) (.c (.int .i64 1)),
        .mv 7 (.t 14)])))))) (
  .seq (
  .reg [.mv 29 (.t 5),
    .mv 30 (.t 0),
    .mv 31 (.t 6),
    .ss 32 (.t 30) (some (.t 31)) none,
    .bs 33 1 [(.t 32)] false,
    .ap 34 (.t 29) (.t 33) 1 16,
    .mv 4 (.t 34)]) (
  .ret)))))
def rs_impl_Parts : List Rv := [.t 4]
theorem ck_impl_Parts : chkFn Try.prog F.impl_Parts 2 ir_impl_Parts rs_impl_Parts = true := by kernel_rfl
theorem impl_Parts_ok (s : Str) (b : UInt8) (hs : s.length ≤ 1073741824) : Snd Try.prog F.impl_Parts [.str s, .int .u8 b.toNat] (.sref 0) [⟨1, (parts b s).map eS, false⟩] := by
  refine snd_by ck_impl_Parts rfl (by simp) (den_W ?_)
  unfold ir_impl_Parts rs_impl_Parts
  simp
  refine W_loop (fun m t => ∃ (i f : Nat) (o : List Str), m = s.length - i ∧ i ≤ s.length ∧ f ≤ i ∧ o.length ≤ i ∧ parts b s = o ++ parts b (s.drop f) ∧ (∀ c ∈ (s.take i).drop f, c ≠ b) ∧ t.e 0 = .str s ∧ t.e 1 = .int .u8 b.toNat ∧ t.e 5 = .sref 8 ∧
    t.e 6 = .int .i64 (f : Nat) ∧ t.e 7 = .int .i64 (i : Nat) ∧ t.rw 8 = some ⟨1, o.map eS, false⟩) s.length ?_ ?_
  · exact ⟨0, 0, [], by simp⟩
  · rintro m t ⟨i, f, o, rfl, hi, hf, ho, hp, hn, h0, h1, h5, h6, h7, hr⟩
    by_cases h : i < s.length
    · simp [h0, h1, h5, h6, h7, hr, h, u8_eq]
      by_cases hb : s[i] = b
      · simp [hb, hf, hi]
        refine ⟨by omega, s.length - (i + 1), by omega, i + 1, rfl, by omega, i + 1, by omega, o ++ [(s.take i).drop f], by simp; omega, cut_at hp hf h hn hb, ?_, ?_⟩
        · simp
        · rw [wrap_id (by omega) (by omega)]; simp
      · simp [hb]
        exact ⟨s.length - (i + 1), by omega, i + 1, rfl, by omega, f, by omega, o, by omega, hp, go_on hf h hn hb, by simp, by rw [wrap_id (by omega) (by omega)]; omega, rfl⟩
    · have : i = s.length := by omega
      subst this
      rw [List.take_of_length_le (Nat.le_refl _)] at hn
      rw [parts_none hn] at hp
      simp [h0, h5, h6, h7, hr, hf]
      refine ⟨by omega, ?_⟩
      refine post_ret [8] ?_
      simp [hp]

/-- The number that the digits of a text spell. -/
def spell (s : Str) : Int := s.foldl (fun n c => n * 10 + ((c.toNat : Int) - 48)) 0
def isDig (c : UInt8) : Bool := decide (48 ≤ c.toNat) && decide (c.toNat ≤ 57)
def textNum (s : Str) : Int × Bool := if 1 ≤ s.length ∧ s.length ≤ 10 ∧ s.all isDig = true ∧ numText (spell s) = s then (spell s, true) else (0, false)
theorem spell_succ {s : Str} {i : Nat} (h : i < s.length) : spell (s.take (i + 1)) = spell (s.take i) * 10 + ((s[i].toNat : Int) - 48) := by
  unfold spell
  rw [List.take_succ_eq_append_getElem h, List.foldl_append]
  rfl
theorem all_succ {s : Str} {i : Nat} (h : i < s.length) (p : UInt8 → Bool) : (s.take (i + 1)).all p = ((s.take i).all p && p s[i]) := by
  rw [List.take_succ_eq_append_getElem h, List.all_append]; simp
theorem all_no {s : Str} {i : Nat} (h : i < s.length) {p : UInt8 → Bool} (hp : p s[i] = false) : s.all p = false := by
  rw [List.all_eq_false]
  exact ⟨s[i], List.getElem_mem h, by simp [hp]⟩
theorem wrap8_dig {c : UInt8} (h0 : 48 ≤ c.toNat) : IntKind.i64.wrap (IntKind.u8.wrap ((c.toNat : Int) - 48)) = (c.toNat : Int) - 48 := by
  have hc := c.toNat_lt
  have e : IntKind.u8.wrap ((c.toNat : Int) - 48) = (c.toNat : Int) - 48 := by
    unfold IntKind.wrap
    simp [IntKind.bits, IntKind.signed]
    omega
  rw [e, wrap_id (by omega) (by omega)]
def ir_spec_TextNum : L :=
  .seq (
  .reg [.mv 2 (.c (.int .i64 0)),
    .mv 3 (.c (.bool false))]) (
  .seq (
  .seq (
  .reg [.mv 6 (.t 0),
    .ls 7 (.t 6),
    .bi 8 .lss (.t 7) (.c (.int .i64 1)),
    .mv 9 (.t 8),
    .g 9 false (.mv 10 (.t 0)),
    .g 9 false (.ls 11 (.t 10)),
    .g 9 false (.bi 12 .gtr (.t 11) (.c (.int .i64 10))),
    .pk 13 (.t 9) (.c (.bool true)) (.t 12)]) (
  .cond (.t 13) (
    .seq (
    .reg [.mv 2 (.c (.int .i64 0)),
      .mv 3 (.c (.bool false))]) (
    .ret)) (
    .skip))) (
  .seq (
  .reg [.mv 4 (.c (.int .i64 0))]) (
  .seq (
  .seq (
  .reg [.mv 5 (.c (.int .i64 0))]) (
  .blk 0 (
    .loop (
      .seq (
      .seq (
      .reg [.mv 14 (.t 5),
        .mv 15 (.t 0),
        .ls 16 (.t 15),
        .bi 17 .lss (.t 14) (.t 16)]) (
      .cond (.t 17) (
        .skip) (
        .exit 0))) (
      .seq (
      .blk 1 (
        .seq (
        .seq (
        .reg [.mv 20 (.t 0),
          .mv 21 (.t 5),
          .ix 22 (.t 20) (.t 21),
          .bi 23 .lss (.t 22) (.c (.int .u8 48)),
          .mv 24 (.t 23),
          .g 24 false (.mv 25 (.t 0)),
          .g 24 false (.mv 26 (.t 5)),
          .g 24 false (.ix 27 (.t 25) (.t 26)),
          .g 24 false (.bi 28 .gtr (.t 27) (.c (.int .u8 57))),
          .pk 29 (.t 24) (.c (.bool true)) (.t 28)]) (
        .cond (.t 29) (
          .seq (
          .reg [.mv 2 (.c (.int .i64 0)),
            .mv 3 (.c (.bool false))]) (
          .ret)) (
          .skip))) (
        .reg [.mv 30 (.t 4),
          .bi 31 .mul (.t 30) (.c (.int .i64 10)),
          .mv 32 (.t 0),
          .mv 33 (.t 5),
          .ix 34 (.t 32) (.t 33),
          .bi 35 .sub (.t 34) (.c (.int .u8 48)),
          .cv 36 .i64 (.t 35),
          .bi 37 .add (.t 31) (.t 36),
          .mv 4 (.t 37)]))) (
      .reg [.mv 18 (.t 5),
        .bi 19 .add (.t 18) (.c (.int .i64 1)),
        .mv 5 (.t 19)])))))) (
  .seq (
  .seq (
  .reg [.mv 38 (.t 4),
    .cq 39 F.spec_NumText [(.t 38)],
    .mv 40 (.t 0),
    .bi 41 .neq (.t 39) (.t 40)]) (
  .cond (.t 41) (
    .seq (
    .reg [.mv 2 (.c (.int .i64 0)),
      .mv 3 (.c (.bool false))]) (
    .ret)) (
    .skip))) (
  .seq (
  .reg [.mv 42 (.t 4),
    .mv 2 (.t 42),
    .mv 3 (.c (.bool true))]) (
  .ret))))))
def rs_spec_TextNum : List Rv := [.t 2, .t 3]
theorem ck_spec_TextNum : chkFn Try.prog F.spec_TextNum 1 ir_spec_TextNum rs_spec_TextNum = true := by kernel_rfl
set_option maxRecDepth 10000 in
theorem spec_TextNum_ok (s : Str) : Snd Try.prog F.spec_TextNum [.str s] (.tup [.int .i64 (textNum s).1, .bool (textNum s).2]) [] := by
  refine snd_by ck_spec_TextNum rfl (by simp) (den_W ?_)
  unfold ir_spec_TextNum rs_spec_TextNum
  by_cases h1 : 1 ≤ s.length
  rotate_left
  · have : s = [] := List.eq_nil_of_length_eq_zero (by omega)
    subst this
    simp [textNum]
  by_cases h2 : s.length ≤ 10
  rotate_left
  · have e1 : ¬ ((s.length : Int) < 1) := by omega
    have e2 : (10 : Int) < s.length := by omega
    simp [textNum, h2, e1, e2]
  have e1 : ¬ ((s.length : Int) < 1) := by omega
  have e2 : ¬ ((10 : Int) < s.length) := by omega
  simp [e1, e2]
  refine W_loop (fun m t => ∃ i, m = s.length - i ∧ i ≤ s.length ∧ (s.take i).all isDig = true ∧ 0 ≤ spell (s.take i) ∧ spell (s.take i) < 10 ^ i ∧ t.e 0 = .str s ∧ t.e 4 = .int .i64 (spell (s.take i)) ∧ t.e 5 = .int .i64 (i : Nat)) s.length ?_ ?_
  · exact ⟨0, by simp [spell]⟩
  · rintro m t ⟨i, rfl, hi, ha, s0, s1, e0, e4, e5⟩
    by_cases h : i < s.length
    · have hc := s[i].toNat_lt
      by_cases d1 : 48 ≤ s[i].toNat
      rotate_left
      · have hd : s.all isDig = false := all_no h (by simp [isDig, d1])
        have c1 : (s[i].toNat : Int) < 48 := by omega
        simp [e0, e4, e5, h, c1, textNum, hd]
      by_cases d2 : s[i].toNat ≤ 57
      rotate_left
      · have hd : s.all isDig = false := all_no h (by simp [isDig, d2])
        have c1 : ¬ (s[i].toNat : Int) < 48 := by omega
        have c2 : (57 : Int) < s[i].toNat := by omega
        simp [e0, e4, e5, h, c1, c2, textNum, hd]
      have c1 : ¬ (s[i].toNat : Int) < 48 := by omega
      have c2 : ¬ (57 : Int) < s[i].toNat := by omega
      have hp := pow10 (i := i) (by omega)
      have hm : IntKind.i64.wrap (spell (s.take i) * 10) = spell (s.take i) * 10 := wrap_id (by omega) (by omega)
      have hm' : IntKind.i64.wrap (10 * spell (s.take i)) = spell (s.take i) * 10 := by rw [wrap_id (by omega) (by omega)]; omega
      simp [e0, e4, e5, h, c1, c2, hm, wrap8_dig d1]
      refine ⟨s.length - (i + 1), by omega, i + 1, rfl, by omega, ?_, ?_, ?_, ?_, by rw [wrap_id (by omega) (by omega)]; omega⟩
      · exact List.all_eq_true.1 (by rw [all_succ h isDig, ha]; simp [isDig, d1, d2])
      · rw [spell_succ h]; omega
      · rw [spell_succ h, Int.pow_succ]; omega
      · rw [spell_succ h, wrap_id (by omega) (by omega)]
    · have : i = s.length := by omega
      subst this
      rw [List.take_of_length_le (Nat.le_refl _)] at ha s0 s1 e4
      simp [e0, e4, e5]
      refine do_cq (spec_NumText_ok (spell s)) (by simp [St.args]) ?_
      simp
      by_cases hn : numText (spell s) = s
      · simp [hn, e0, e4, textNum, ha, h1, h2]
      · simp [hn, e0, textNum]
def ir_impl_TextNum : L :=
  .seq (
  .reg [.mv 2 (.c (.int .i64 0)),
    .mv 3 (.c (.bool false))]) (
  .seq (
  .seq (
  .reg [.mv 6 (.t 0),
    .ls 7 (.t 6),
    .cq 8 F.impl_within [(.t 7), (.c (.int .i64 1)), (.c (.int .i64 10))],
    .un 9 (.t 8)]) (
  .cond (.t 9) (
    .seq (
    .reg [.mv 2 (.c (.int .i64 0)),
      .mv 3 (.c (.bool false))]) (
    .ret)) (
    .skip))) (
  .seq (
  .reg [.mv 4 (.c (.int .i64 0))]) (
  .seq (
  .seq (
  .reg [.mv 5 (.c (.int .i64 0))]) (
  .blk 0 (
    .loop (
      .seq (
      .seq (
      .reg [.mv 10 (.t 5),
        .mv 11 (.t 0),
        .ls 12 (.t 11),
        .bi 13 .lss (.t 10) (.t 12)]) (
      .cond (.t 13) (
        .skip) (
        .exit 0))) (
      .seq (
      .blk 1 (
        .seq (
        .seq (
        .reg [.mv 16 (.t 0),
          .mv 17 (.t 5),
          .ix 18 (.t 16) (.t 17),
          .bi 19 .lss (.t 18) (.c (.int .u8 48)),
          .mv 20 (.t 19),
          .g 20 false (.mv 21 (.t 0)),
          .g 20 false (.mv 22 (.t 5)),
          .g 20 false (.ix 23 (.t 21) (.t 22)),
          .g 20 false (.bi 24 .gtr (.t 23) (.c (.int .u8 57))),
          .pk 25 (.t 20) (.c (.bool true)) (.t 24)]) (
        .cond (.t 25) (
          .seq (
          .reg [.mv 2 (.c (.int .i64 0)),
            .mv 3 (.c (.bool false))]) (
          .ret)) (
          .skip))) (
        .reg [.mv 26 (.t 4),
          .bi 27 .mul (.c (.int .i64 10)) (.t 26),
          .mv 28 (.t 0),
          .mv 29 (.t 5),
          .ix 30 (.t 28) (.t 29),
          .bi 31 .sub (.t 30) (.c (.int .u8 48)),
          .cv 32 .i64 (.t 31),
          .bi 33 .add (.t 27) (.t 32),
          .mv 4 (.t 33)]))) (
      .reg [.mv 14 (.t 5),
        .bi 15 .add (.t 14) (.c (.int .i64 1)),
        .mv 5 (.t 15)])))))) (
  .seq (
  .seq (
  .reg [.mv 34 (.t 4),
    .cq 35 F.impl_NumText [(.t 34)],
    .mv 36 (.t 0),
    .bi 37 .neq (.t 35) (.t 36)]) (
  .cond (.t 37) (
    .seq (
    .reg [.mv 2 (.c (.int .i64 0)),
      .mv 3 (.c (.bool false))]) (
    .ret)) (
    .skip))) (
  .seq (
  .reg [.mv 38 (.t 4),
    .mv 2 (.t 38),
    .mv 3 (.c (.bool true))]) (
  .ret))))))
def rs_impl_TextNum : List Rv := [.t 2, .t 3]
theorem ck_impl_TextNum : chkFn Try.prog F.impl_TextNum 1 ir_impl_TextNum rs_impl_TextNum = true := by kernel_rfl
set_option maxRecDepth 10000 in
theorem impl_TextNum_ok (s : Str) : Snd Try.prog F.impl_TextNum [.str s] (.tup [.int .i64 (textNum s).1, .bool (textNum s).2]) [] := by
  refine snd_by ck_impl_TextNum rfl (by simp) (den_W ?_)
  unfold ir_impl_TextNum rs_impl_TextNum
  simp
  refine do_cq (within_ok s.length 1 10) (by simp [St.args]) ?_
  by_cases h1 : 1 ≤ s.length
  rotate_left
  · have e1 : ¬ ((1 : Int) ≤ s.length) := by omega
    simp [textNum, h1, e1]
  by_cases h2 : s.length ≤ 10
  rotate_left
  · have e2 : ¬ ((s.length : Int) ≤ 10) := by omega
    simp [textNum, h2, e2]
  have e1 : (1 : Int) ≤ s.length := by omega
  have e2 : (s.length : Int) ≤ 10 := by omega
  simp [e1, e2]
  refine W_loop (fun m t => ∃ i, m = s.length - i ∧ i ≤ s.length ∧ (s.take i).all isDig = true ∧ 0 ≤ spell (s.take i) ∧ spell (s.take i) < 10 ^ i ∧ t.e 0 = .str s ∧ t.e 4 = .int .i64 (spell (s.take i)) ∧ t.e 5 = .int .i64 (i : Nat)) s.length ?_ ?_
  · exact ⟨0, by simp [spell]⟩
  · rintro m t ⟨i, rfl, hi, ha, s0, s1, e0, e4, e5⟩
    by_cases h : i < s.length
    · have hc := s[i].toNat_lt
      by_cases d1 : 48 ≤ s[i].toNat
      rotate_left
      · have hd : s.all isDig = false := all_no h (by simp [isDig, d1])
        have c1 : (s[i].toNat : Int) < 48 := by omega
        simp [e0, e4, e5, h, c1, textNum, hd]
      by_cases d2 : s[i].toNat ≤ 57
      rotate_left
      · have hd : s.all isDig = false := all_no h (by simp [isDig, d2])
        have c1 : ¬ (s[i].toNat : Int) < 48 := by omega
        have c2 : (57 : Int) < s[i].toNat := by omega
        simp [e0, e4, e5, h, c1, c2, textNum, hd]
      have c1 : ¬ (s[i].toNat : Int) < 48 := by omega
      have c2 : ¬ (57 : Int) < s[i].toNat := by omega
      have hp := pow10 (i := i) (by omega)
      have hm : IntKind.i64.wrap (spell (s.take i) * 10) = spell (s.take i) * 10 := wrap_id (by omega) (by omega)
      have hm' : IntKind.i64.wrap (10 * spell (s.take i)) = spell (s.take i) * 10 := by rw [wrap_id (by omega) (by omega)]; omega
      simp [e0, e4, e5, h, c1, c2, hm', wrap8_dig d1]
      refine ⟨s.length - (i + 1), by omega, i + 1, rfl, by omega, ?_, ?_, ?_, ?_, by rw [wrap_id (by omega) (by omega)]; omega⟩
      · exact List.all_eq_true.1 (by rw [all_succ h isDig, ha]; simp [isDig, d1, d2])
      · rw [spell_succ h]; omega
      · rw [spell_succ h, Int.pow_succ]; omega
      · rw [spell_succ h, wrap_id (by omega) (by omega)]
    · have : i = s.length := by omega
      subst this
      rw [List.take_of_length_le (Nat.le_refl _)] at ha s0 s1 e4
      simp [e0, e4, e5]
      refine do_cq (impl_NumText_ok (spell s)) (by simp [St.args]) ?_
      simp
      by_cases hn : numText (spell s) = s
      · simp [hn, e0, e4, textNum, ha, h1, h2]
      · simp [hn, e0, textNum]
end Go.Proofs.Ythbbieobcokgbaa
