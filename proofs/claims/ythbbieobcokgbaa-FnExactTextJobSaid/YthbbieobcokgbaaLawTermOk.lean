/-
  The law FnExactTermOk returns true at every input. Conditions: none.
-/
import Derived.Test.YthbbieobcokgbaaFields
import Derived.Test.YthbbieobcokgbaaLaw0
namespace Go.Proofs.Ythbbieobcokgbaa
open Go Go.RowKit Eng
def costTerm (t : Term) : Nat := t.field.length + t.op.length
def ir_laws_szTerm : L :=
  .seq (
  .reg [.bx 2 (.t 0),
    .mv 4 (.c (.int .i64 0))]) (
  .seq (
  .reg [.mv 5 (.t 1),
    .fa 6 (.t 2) 0,
    .ld 7 (.t 6) 1 false,
    .ls 8 (.t 7),
    .bi 9 .sub (.t 5) (.t 8),
    .mv 1 (.t 9)]) (
  .seq (
  .seq (
  .reg [.mv 10 (.t 1),
    .bi 11 .lss (.t 10) (.c (.int .i64 0))]) (
  .cond (.t 11) (
    .seq (
    .reg [.mv 4 (.c (.int .i64 (-1)))]) (
    .ret)) (
    .skip))) (
  .seq (
  .reg [.mv 12 (.t 1),
    .fa 13 (.t 2) 1,
    .ld 14 (.t 13) 1 false,
    .ls 15 (.t 14),
    .bi 16 .sub (.t 12) (.t 15),
    .mv 1 (.t 16)]) (
  .seq (
  .seq (
  .reg [.mv 17 (.t 1),
    .bi 18 .lss (.t 17) (.c (.int .i64 0))]) (
  .cond (.t 18) (
    .seq (
    .reg [.mv 4 (.c (.int .i64 (-1)))]) (
    .ret)) (
    .skip))) (
  .seq (
  .reg [.mv 19 (.t 1),
    .mv 4 (.t 19)]) (
  .ret))))))
def rs_laws_szTerm : List Rv := [.t 4]
theorem ck_laws_szTerm : chkFn Try.prog F.laws_szTerm 2 ir_laws_szTerm rs_laws_szTerm = true := by kernel_rfl
theorem szTerm_ok (t : Term) (n : Int) (hn : n ≤ 1048576) (h0 : 0 ≤ n) (hf : t.field.length ≤ maxLen) (ho : t.op.length ≤ maxLen) : Snd Try.prog F.laws_szTerm [eTerm t, .int .i64 n] (.int .i64 (szr n (costTerm t))) [] := by
  refine snd_by ck_laws_szTerm rfl (by simp) (den_W ?_)
  unfold ir_laws_szTerm rs_laws_szTerm
  have hf' : (t.field.length : Int) ≤ 9223372036854775807 := by simp only [maxLen] at hf; omega
  have ho' : (t.op.length : Int) ≤ 9223372036854775807 := by simp only [maxLen] at ho; omega
  simp
  rw [wrap_id (by omega) (by omega)]
  refine ⟨fun h => by unfold szr costTerm; rw [if_pos (by omega)], fun h => ?_⟩
  rw [wrap_id (by omega) (by omega)]
  refine ⟨fun h => by unfold szr costTerm; rw [if_pos (by omega)], fun h => ?_⟩
  unfold szr costTerm
  rw [if_neg (by omega)]
  omega
def ir_laws_FnExactTermOk : L :=
  .seq (
  .reg [.bx 1 (.t 0),
    .mv 2 (.c (.bool false))]) (
  .seq (
  .reg [.mv 3 (.c (.int .i64 1048576))]) (
  .seq (
  .reg [.ld 6 (.t 1) 3 true,
    .mv 7 (.t 3),
    .cq 8 F.laws_szTerm [(.t 6), (.t 7)],
    .mv 3 (.t 8)]) (
  .seq (
  .seq (
  .reg [.mv 9 (.t 3),
    .bi 10 .lss (.t 9) (.c (.int .i64 0))]) (
  .cond (.t 10) (
    .seq (
    .reg [.mv 2 (.c (.bool true))]) (
    .ret)) (
    .skip))) (
  .seq (
  .reg [.ld 11 (.t 1) 3 true,
    .cq 12 F.laws_toTerm [(.t 11)],
    .cq 13 F.spec_TermOk [(.t 12)],
    .mv 4 (.t 13)]) (
  .seq (
  .reg [.ld 14 (.t 1) 3 true,
    .cq 15 F.laws_toTerm [(.t 14)],
    .cq 16 F.impl_TermOk [(.t 15)],
    .mv 5 (.t 16)]) (
  .seq (
  .seq (
  .reg [.mv 17 (.t 5),
    .mv 18 (.t 4),
    .eb 19 true (.t 17) (.t 18)]) (
  .cond (.t 19) (
    .seq (
    .reg [.mv 2 (.c (.bool false))]) (
    .ret)) (
    .skip))) (
  .seq (
  .reg [.mv 2 (.c (.bool true))]) (
  .ret))))))))
def rs_laws_FnExactTermOk : List Rv := [.t 2]
theorem ck_laws_FnExactTermOk : chkFn Try.prog F.laws_FnExactTermOk 1 ir_laws_FnExactTermOk rs_laws_FnExactTermOk = true := by kernel_rfl
theorem FnExactTermOk_c (t : Term) (hf : t.field.length ≤ maxLen) (ho : t.op.length ≤ maxLen) : Snd Try.prog F.laws_FnExactTermOk [eTerm t] (.bool true) [] := by
  refine snd_by ck_laws_FnExactTermOk rfl (by simp) (den_W ?_)
  unfold ir_laws_FnExactTermOk rs_laws_FnExactTermOk
  simp
  refine do_cq (szTerm_ok t 1048576 (by omega) (by omega) hf ho) (by simp [St.args]) ?_
  simp
  intro _
  refine do_cq (toTerm_ok t) (by simp [St.args]) ?_
  simp
  refine do_cq (spec_TermOk_ok t) (by simp [St.args]) ?_
  simp
  refine do_cq (toTerm_ok t) (by simp [St.args]) ?_
  simp
  refine do_cq (impl_TermOk_ok t) (by simp [St.args]) ?_
  simp
theorem FnExactTermOk_ok (xs : List AV) (h : okVs [tyTerm] xs) : Snd Try.prog F.laws_FnExactTermOk xs (.bool true) [] := by
  obtain ⟨a, _, rfl, ha, rfl⟩ := h
  obtain ⟨cs, rfl, h⟩ := ha
  simp only [Ty.ok, okL] at h
  obtain ⟨_, _, rfl, ⟨f, rfl, hf⟩, _, _, rfl, ⟨o, rfl, ho⟩, _, _, rfl, ⟨n, rfl, _⟩, rfl⟩ := h
  exact FnExactTermOk_c ⟨f, o, n⟩ hf ho
end Go.Proofs.Ythbbieobcokgbaa
