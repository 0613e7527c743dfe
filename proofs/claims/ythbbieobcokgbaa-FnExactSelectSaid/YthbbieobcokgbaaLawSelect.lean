/-
  The law of Select.
-/
import Derived.Test.YthbbieobcokgbaaSelect
namespace Go.Proofs.Ythbbieobcokgbaa
open Go Go.RowKit Eng
theorem sel_len (l : List Job) (q : List Term) : (sel l q).length ≤ l.length := by
  unfold sel; split
  · exact List.length_filter_le _ _
  · simp
def ir_laws_FnExactSelect : L :=
  .seq (
  .reg [.mv 4 (.c (.bool false))]) (
  .seq (
  .reg [.mv 5 (.c (.int .i64 1048576))]) (
  .seq (
  .reg [.mv 14 (.t 0),
    .mv 15 (.t 5),
    .cq 16 F.laws_szJobS [(.t 14), (.t 15)],
    .mv 5 (.t 16)]) (
  .seq (
  .seq (
  .reg [.mv 17 (.t 5),
    .bi 18 .lss (.t 17) (.c (.int .i64 0))]) (
  .cond (.t 18) (
    .seq (
    .reg [.mv 4 (.c (.bool true))]) (
    .ret)) (
    .skip))) (
  .seq (
  .reg [.mv 19 (.t 1),
    .mv 20 (.t 5),
    .cq 21 F.laws_szTermS [(.t 19), (.t 20)],
    .mv 5 (.t 21)]) (
  .seq (
  .seq (
  .reg [.mv 22 (.t 5),
    .bi 23 .lss (.t 22) (.c (.int .i64 0))]) (
  .cond (.t 23) (
    .seq (
    .reg [.mv 4 (.c (.bool true))]) (
    .ret)) (
    .skip))) (
  .seq (
  .reg [.mv 24 (.t 0),
    .cq 25 F.laws_toJobS [(.t 24)],
    .mv 26 (.t 1),
    .cq 27 F.laws_toTermS [(.t 26)],
    .cq 28 F.spec_Select [(.t 25), (.t 27)],
    .mv 6 (.t 28)]) (
  .seq (
  .reg [.mv 29 (.t 0),
    .cl 30 F.laws_toJobS [(.t 29)],
    .mv 7 (.t 30)]) (
  .seq (
  .reg [.mv 31 (.t 1),
    .cl 32 F.laws_toTermS [(.t 31)],
    .mv 8 (.t 32)]) (
  .seq (
  .reg [.mv 33 (.t 7),
    .mv 34 (.t 8),
    .cl 35 F.impl_Select [(.t 33), (.t 34)],
    .mv 9 (.t 35)]) (
  .seq (
  .seq (
  .reg [.mv 36 (.t 9),
    .mv 37 (.t 6),
    .cq 38 F.laws_eqJobS [(.t 36), (.t 37)],
    .un 39 (.t 38)]) (
  .cond (.t 39) (
    .seq (
    .reg [.mv 4 (.c (.bool false))]) (
    .ret)) (
    .skip))) (
  .seq (
  .seq (
  .reg [.mv 40 (.t 7),
    .mv 41 (.t 0),
    .cq 42 F.laws_toJobS [(.t 41)],
    .cq 43 F.laws_eqJobS [(.t 40), (.t 42)],
    .un 44 (.t 43)]) (
  .cond (.t 44) (
    .seq (
    .reg [.mv 4 (.c (.bool false))]) (
    .ret)) (
    .skip))) (
  .seq (
  .seq (
  .reg [.mv 45 (.t 8),
    .mv 46 (.t 1),
    .cq 47 F.laws_toTermS [(.t 46)],
    .cq 48 F.laws_eqTermS [(.t 45), (.t 47)],
    .un 49 (.t 48)]) (
  .cond (.t 49) (
    .seq (
    .reg [.mv 4 (.c (.bool false))]) (
    .ret)) (
    .skip))) (
  .seq (
  .reg [.mv 10 (.c (.int .i64 1))]) (
  .seq (
  .reg [.mv 50 (.t 7),
    .mv 51 (.t 10),
    .cm 52 F.laws_markJobS [(.t 50), (.t 51)],
    .mv 10 (.t 52)]) (
  .seq (
  .reg [.mv 53 (.t 8),
    .mv 54 (.t 10),
    .cm 55 F.laws_markTermS [(.t 53), (.t 54)],
    .mv 10 (.t 55)]) (
  .seq (
  .seq (
  .reg [.mv 56 (.t 10),
    .bi 57 .lss (.t 56) (.c (.int .i64 0)),
    .mv 58 (.t 57),
    .g 58 false (.mv 59 (.t 9)),
    .g 58 false (.mv 60 (.t 6)),
    .g 58 false (.cq 61 F.laws_eqJobS [(.t 59), (.t 60)]),
    .g 58 false (.un 62 (.t 61)),
    .pk 63 (.t 58) (.c (.bool true)) (.t 62)]) (
  .cond (.t 63) (
    .seq (
    .reg [.mv 4 (.c (.bool false))]) (
    .ret)) (
    .skip))) (
  .seq (
  .reg [.mv 11 (.c (.int .i64 1))]) (
  .seq (
  .reg [.mv 64 (.t 9),
    .mv 65 (.t 11),
    .cm 66 F.laws_markJobS [(.t 64), (.t 65)],
    .mv 11 (.t 66)]) (
  .seq (
  .reg [.mv 12 (.c (.int .i64 1))]) (
  .seq (
  .reg [.mv 67 (.t 9),
    .mv 68 (.t 12),
    .cq 69 F.laws_heldJobS [(.t 67), (.t 68)],
    .mv 12 (.t 69)]) (
  .seq (
  .seq (
  .reg [.mv 70 (.t 12),
    .bi 71 .lss (.t 70) (.c (.int .i64 0))]) (
  .cond (.t 71) (
    .seq (
    .reg [.mv 4 (.c (.bool false))]) (
    .ret)) (
    .skip))) (
  .seq (
  .seq (
  .reg [.mv 72 (.t 12),
    .mv 73 (.t 11),
    .bi 74 .neq (.t 72) (.t 73)]) (
  .cond (.t 74) (
    .seq (
    .reg [.mv 4 (.c (.bool false))]) (
    .ret)) (
    .skip))) (
  .seq (
  .reg [.mv 75 (.t 0),
    .cq 76 F.laws_toJobS [(.t 75)],
    .mv 77 (.t 1),
    .cq 78 F.laws_toTermS [(.t 77)],
    .cq 79 F.impl_Select [(.t 76), (.t 78)],
    .mv 13 (.t 79)]) (
  .seq (
  .seq (
  .reg [.mv 80 (.t 13),
    .mv 81 (.t 6),
    .cq 82 F.laws_eqJobS [(.t 80), (.t 81)],
    .un 83 (.t 82)]) (
  .cond (.t 83) (
    .seq (
    .reg [.mv 4 (.c (.bool false))]) (
    .ret)) (
    .skip))) (
  .seq (
  .reg [.mv 12 (.c (.int .i64 1))]) (
  .seq (
  .reg [.mv 84 (.t 9),
    .mv 85 (.t 12),
    .cq 86 F.laws_heldJobS [(.t 84), (.t 85)],
    .mv 12 (.t 86)]) (
  .seq (
  .seq (
  .reg [.mv 87 (.t 12),
    .bi 88 .lss (.t 87) (.c (.int .i64 0))]) (
  .cond (.t 88) (
    .seq (
    .reg [.mv 4 (.c (.bool false))]) (
    .ret)) (
    .skip))) (
  .seq (
  .seq (
  .reg [.mv 89 (.t 12),
    .mv 90 (.t 11),
    .bi 91 .neq (.t 89) (.t 90)]) (
  .cond (.t 91) (
    .seq (
    .reg [.mv 4 (.c (.bool false))]) (
    .ret)) (
    .skip))) (
  .seq (
  .reg [.mv 4 (.c (.bool true))]) (
  .ret))))))))))))))))))))))))))))))
def rs_laws_FnExactSelect : List Rv := [.t 4]
theorem ck_laws_FnExactSelect : chkFn Try.prog F.laws_FnExactSelect 2 ir_laws_FnExactSelect rs_laws_FnExactSelect = true := by kernel_rfl
set_option maxRecDepth 10000 in
theorem FnExactSelect_c (l : List Job) (q : List Term) (hq : ∀ t ∈ q, t.field.length ≤ maxLen ∧ t.op.length ≤ maxLen) : Snd Try.prog F.laws_FnExactSelect [.sl .rd 11 (l.map eJob), .sl .rd 3 (q.map eTerm)] (.bool true) [] := by
  refine snd_by ck_laws_FnExactSelect rfl (by simp) (den_W ?_)
  unfold ir_laws_FnExactSelect rs_laws_FnExactSelect
  simp
  refine do_cq (szJobS_ok l 1048576 (by omega) (by omega)) (by simp [St.args]) ?_
  simp
  intro hs
  obtain ⟨hl, hs1⟩ := szr_nn hs
  have hl : l.length ≤ 1048576 := by omega
  refine do_cq (szTermS_ok q (szr 1048576 l.length) (by omega) hs hq) (by simp [St.args]) ?_
  simp
  intro hs2
  obtain ⟨hc, _⟩ := szr_nn hs2
  have hql : q.length ≤ 1048576 := by unfold costTerms at hc; omega
  have hsl := sel_len l q
  refine do_cq (toJobS_ok l hl) (by simp [St.args]) ?_
  simp
  refine do_cq (toTermS_ok q hql) (by simp [St.args]) ?_
  simp
  refine do_cq (spec_Select_ok l q hl) (by simp [St.args]) ?_
  simp
  refine do_cl (toJobS_ok l hl) (by simp [St.args]) (by simp) ?_
  simp
  refine do_cl (toTermS_ok q hql) (by simp [St.args]) (by simp) ?_
  simp
  refine do_cl (impl_Select_ok l q hl) (by simp [St.args]) (by simp) ?_
  simp
  refine do_cq (eqJobS_ok (sel l q) (sel l q)) (by simp [St.args]) ?_
  simp
  refine do_cq (toJobS_ok l hl) (by simp [St.args]) ?_
  simp
  refine do_cq (eqJobS_ok l l) (by simp [St.args]) ?_
  simp
  refine do_cq (toTermS_ok q hql) (by simp [St.args]) ?_
  simp
  refine do_cq (eqTermS_ok q q) (by simp [St.args]) ?_
  simp
  refine do_cm [] [31000] (markJobS_ok l 1 (by omega) (by omega)) rfl (by simp) (by simp) (by simp) ?_
  rintro _ _ _ _ _ _ ⟨rfl, rfl, rfl, rfl⟩
  simp
  refine do_cm [] [33000] (markTermS_ok q (1 + 11 * l.length) (by omega) (by omega)) rfl (by simp) (by simp) (by simp) ?_
  rintro _ _ _ _ _ _ ⟨rfl, rfl, rfl, rfl⟩
  have hk : ¬ (1 + 11 * (l.length : Int) + 3 * q.length < 0) := by omega
  simp [hk]
  refine do_cq (eqJobS_ok (sel l q) (sel l q)) (by simp [St.args]) ?_
  simp
  refine do_cm [] [36000] (markJobS_ok (sel l q) 1 (by omega) (by omega)) rfl (by simp) (by simp) (by simp) ?_
  rintro _ _ _ _ _ _ ⟨rfl, rfl, rfl, rfl⟩
  have hk2 : ¬ (1 + 11 * ((sel l q).length : Int) < 0) := by omega
  simp
  refine do_cq (heldJobS_ok (sel l q).length 1 (by omega) (by omega)) (by simp [St.args]) ?_
  simp [hk2]
  refine do_cq (toJobS_ok l hl) (by simp [St.args]) ?_
  simp
  refine do_cq (toTermS_ok q hql) (by simp [St.args]) ?_
  simp
  refine do_cq (impl_Select_ok l q hl) (by simp [St.args]) ?_
  simp
  refine do_cq (eqJobS_ok (sel l q) (sel l q)) (by simp [St.args]) ?_
  simp
  refine do_cq (heldJobS_ok (sel l q).length 1 (by omega) (by omega)) (by simp [St.args]) ?_
  simp [hk2]
theorem FnExactSelect_ok (xs : List AV) (h : okVs [.sl tyJob, .sl tyTerm] xs) : Snd Try.prog F.laws_FnExactSelect xs (.bool true) [] := by
  obtain ⟨a, _, rfl, ha, b, _, rfl, hb, rfl⟩ := h
  obtain ⟨l, ha⟩ := JobS_of ha
  obtain ⟨q, hb, hq⟩ := Terms_of hb
  exact (FnExactSelect_c l q hq).wk ⟨ha, hb, trivial⟩
end Go.Proofs.Ythbbieobcokgbaa
