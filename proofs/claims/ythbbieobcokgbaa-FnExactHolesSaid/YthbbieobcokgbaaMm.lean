/-
  The greater and the lesser of two numbers.
-/
import Derived.Test.YthbbieobcokgbaaBase
namespace Go.Proofs.Ythbbieobcokgbaa
open Go Go.RowKit Eng
@[simp] theorem wrap_1 : IntKind.i64.wrap 1 = 1 := rfl
@[simp] theorem wrap_2 : IntKind.i64.wrap 2 = 2 := rfl
def ir_spec_l23Max : L :=
  .seq (
  .reg [.mv 4 (.c (.int .i64 0))]) (
  .seq (
  .seq (
  .reg [.mv 5 (.t 0),
    .mv 6 (.t 1),
    .bi 7 .gtr (.t 5) (.t 6)]) (
  .cond (.t 7) (
    .seq (
    .reg [.mv 8 (.t 0),
      .mv 4 (.t 8)]) (
    .ret)) (
    .skip))) (
  .seq (
  .reg [.mv 9 (.t 1),
    .mv 4 (.t 9)]) (
  .ret)))
def rs_spec_l23Max : List Rv := [.t 4]
theorem ck_spec_l23Max : chkFn Try.prog F.spec_l23Max 2 ir_spec_l23Max rs_spec_l23Max = true := by kernel_rfl
theorem spec_l23Max_ok (a b : Int) : Snd Try.prog F.spec_l23Max [.int .i64 a, .int .i64 b] (.int .i64 (max a b)) [] := by
  refine snd_by ck_spec_l23Max rfl (by simp) (den_W ?_)
  unfold ir_spec_l23Max rs_spec_l23Max
  by_cases h : b < a
  · simp [h]; omega
  · simp [h]; omega
def ir_spec_l01Min : L :=
  .seq (
  .reg [.mv 4 (.c (.int .i64 0))]) (
  .seq (
  .seq (
  .reg [.mv 5 (.t 0),
    .mv 6 (.t 1),
    .bi 7 .lss (.t 5) (.t 6)]) (
  .cond (.t 7) (
    .seq (
    .reg [.mv 8 (.t 0),
      .mv 4 (.t 8)]) (
    .ret)) (
    .skip))) (
  .seq (
  .reg [.mv 9 (.t 1),
    .mv 4 (.t 9)]) (
  .ret)))
def rs_spec_l01Min : List Rv := [.t 4]
theorem ck_spec_l01Min : chkFn Try.prog F.spec_l01Min 2 ir_spec_l01Min rs_spec_l01Min = true := by kernel_rfl
theorem spec_l01Min_ok (a b : Int) : Snd Try.prog F.spec_l01Min [.int .i64 a, .int .i64 b] (.int .i64 (min a b)) [] := by
  refine snd_by ck_spec_l01Min rfl (by simp) (den_W ?_)
  unfold ir_spec_l01Min rs_spec_l01Min
  by_cases h : a < b
  · simp [h]; omega
  · simp [h]; omega
end Go.Proofs.Ythbbieobcokgbaa
