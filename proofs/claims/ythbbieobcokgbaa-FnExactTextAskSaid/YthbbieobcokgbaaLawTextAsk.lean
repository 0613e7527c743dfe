/-
  The law of TextAsk.
-/
import Derived.Test.YthbbieobcokgbaaTextAsk
namespace Go.Proofs.Ythbbieobcokgbaa
open Go Go.RowKit Eng
theorem textAsk_len (s : Str) : (textAsk s).1.length ≤ s.length + 1 := by
  unfold textAsk; split
  · simpa using parts_len 32 s
  · simp
def ir_laws_FnExactTextAsk : L :=
  .seq (
  .reg [.mv 2 (.c (.bool false))]) (
  .seq (
  .seq (
  .reg [.mv 11 (.t 0),
    .ls 12 (.t 11),
    .bi 13 .gtr (.t 12) (.c (.int .i64 1048576))]) (
  .cond (.t 13) (
    .seq (
    .reg [.mv 2 (.c (.bool true))]) (
    .ret)) (
    .skip))) (
  .seq (
  .reg [.mv 15 (.t 0),
    .cq 16 F.spec_TextAsk [(.t 15)],
    .mv 14 (.t 16),
    .ex 17 (.t 14) 0,
    .ex 18 (.t 14) 1,
    .mv 3 (.t 17),
    .mv 4 (.t 18)]) (
  .seq (
  .reg [.mv 20 (.t 0),
    .cl 21 F.impl_TextAsk [(.t 20)],
    .mv 19 (.t 21),
    .ex 22 (.t 19) 0,
    .ex 23 (.t 19) 1,
    .mv 5 (.t 22),
    .mv 6 (.t 23)]) (
  .seq (
  .seq (
  .reg [.mv 24 (.t 5),
    .mv 25 (.t 3),
    .cq 26 F.laws_eqTermS [(.t 24), (.t 25)],
    .un 27 (.t 26),
    .mv 28 (.t 27),
    .g 28 false (.mv 29 (.t 6)),
    .g 28 false (.mv 30 (.t 4)),
    .g 28 false (.eb 31 true (.t 29) (.t 30)),
    .pk 32 (.t 28) (.c (.bool true)) (.t 31)]) (
  .cond (.t 32) (
    .seq (
    .reg [.mv 2 (.c (.bool false))]) (
    .ret)) (
    .skip))) (
  .seq (
  .reg [.mv 7 (.c (.int .i64 1))]) (
  .seq (
  .reg [.mv 33 (.t 5),
    .mv 34 (.t 7),
    .cm 35 F.laws_markTermS [(.t 33), (.t 34)],
    .mv 7 (.t 35)]) (
  .seq (
  .reg [.mv 8 (.c (.int .i64 1))]) (
  .seq (
  .reg [.mv 36 (.t 5),
    .mv 37 (.t 8),
    .cq 38 F.laws_heldTermS [(.t 36), (.t 37)],
    .mv 8 (.t 38)]) (
  .seq (
  .seq (
  .reg [.mv 39 (.t 8),
    .bi 40 .lss (.t 39) (.c (.int .i64 0))]) (
  .cond (.t 40) (
    .seq (
    .reg [.mv 2 (.c (.bool false))]) (
    .ret)) (
    .skip))) (
  .seq (
  .seq (
  .reg [.mv 41 (.t 8),
    .mv 42 (.t 7),
    .bi 43 .neq (.t 41) (.t 42)]) (
  .cond (.t 43) (
    .seq (
    .reg [.mv 2 (.c (.bool false))]) (
    .ret)) (
    .skip))) (
  .seq (
  .reg [.mv 45 (.t 0),
    .cq 46 F.impl_TextAsk [(.t 45)],
    .mv 44 (.t 46),
    .ex 47 (.t 44) 0,
    .ex 48 (.t 44) 1,
    .mv 9 (.t 47),
    .mv 10 (.t 48)]) (
  .seq (
  .seq (
  .reg [.mv 49 (.t 9),
    .mv 50 (.t 3),
    .cq 51 F.laws_eqTermS [(.t 49), (.t 50)],
    .un 52 (.t 51),
    .mv 53 (.t 52),
    .g 53 false (.mv 54 (.t 10)),
    .g 53 false (.mv 55 (.t 4)),
    .g 53 false (.eb 56 true (.t 54) (.t 55)),
    .pk 57 (.t 53) (.c (.bool true)) (.t 56)]) (
  .cond (.t 57) (
    .seq (
    .reg [.mv 2 (.c (.bool false))]) (
    .ret)) (
    .skip))) (
  .seq (
  .reg [.mv 8 (.c (.int .i64 1))]) (
  .seq (
  .reg [.mv 58 (.t 5),
    .mv 59 (.t 8),
    .cq 60 F.laws_heldTermS [(.t 58), (.t 59)],
    .mv 8 (.t 60)]) (
  .seq (
  .seq (
  .reg [.mv 61 (.t 8),
    .bi 62 .lss (.t 61) (.c (.int .i64 0))]) (
  .cond (.t 62) (
    .seq (
    .reg [.mv 2 (.c (.bool false))]) (
    .ret)) (
    .skip))) (
  .seq (
  .seq (
  .reg [.mv 63 (.t 8),
    .mv 64 (.t 7),
    .bi 65 .neq (.t 63) (.t 64)]) (
  .cond (.t 65) (
    .seq (
    .reg [.mv 2 (.c (.bool false))]) (
    .ret)) (
    .skip))) (
  .seq (
  .reg [.mv 2 (.c (.bool true))]) (
  .ret))))))))))))))))))
def rs_laws_FnExactTextAsk : List Rv := [.t 2]
theorem ck_laws_FnExactTextAsk : chkFn Try.prog F.laws_FnExactTextAsk 1 ir_laws_FnExactTextAsk rs_laws_FnExactTextAsk = true := by kernel_rfl
set_option maxRecDepth 10000 in
theorem FnExactTextAsk_c (s : Str) : Snd Try.prog F.laws_FnExactTextAsk [.str s] (.bool true) [] := by
  refine snd_by ck_laws_FnExactTextAsk rfl (by simp) (den_W ?_)
  unfold ir_laws_FnExactTextAsk rs_laws_FnExactTextAsk
  simp
  intro hs
  have hs : s.length ≤ 1048576 := by omega
  have hl := textAsk_len s
  refine do_cq (spec_TextAsk_ok s hs) (by simp [St.args]) ?_
  simp
  refine do_cl (impl_TextAsk_ok s hs) (by simp [St.args]) (by simp) ?_
  simp
  refine do_cq (eqTermS_ok ((textAsk s).1) ((textAsk s).1)) (by simp [St.args]) ?_
  simp
  refine do_cm [] [22000] (markTermS_ok ((textAsk s).1) (1) (by omega) (by omega)) rfl (by simp) (by simp) (by simp) ?_
  rintro _ _ _ _ _ _ ⟨rfl, rfl, rfl, rfl⟩
  have hk1 : ¬ (1 + 3 * (((textAsk s).1).length : Int) < 0) := by omega
  simp
  refine do_cq (heldTermS_ok ((textAsk s).1).length 1 (by omega) (by omega)) (by simp [St.args]) ?_
  simp [hk1]
  refine do_cq (impl_TextAsk_ok s hs) (by simp [St.args]) ?_
  simp
  refine do_cq (eqTermS_ok ((textAsk s).1) ((textAsk s).1)) (by simp [St.args]) ?_
  simp
  refine do_cq (heldTermS_ok ((textAsk s).1).length 1 (by omega) (by omega)) (by simp [St.args]) ?_
  simp [hk1]
theorem FnExactTextAsk_ok (xs : List AV) (h : okVs [.str] xs) : Snd Try.prog F.laws_FnExactTextAsk xs (.bool true) [] := by
  obtain ⟨b, _, rfl, ⟨s, hb, _⟩, rfl⟩ := h
  obtain rfl := (List.cons.inj hb).1
  exact FnExactTextAsk_c s
end Go.Proofs.Ythbbieobcokgbaa
