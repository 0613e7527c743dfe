/-
  The law FnExactHolesOk returns true at every input. Conditions: none.
-/
import Derived.Test.YthbbieobcokgbaaHoles1
namespace Go.Proofs.Ythbbieobcokgbaa
open Go Go.RowKit Eng
def ir_laws_FnExactHolesOk : L :=
  .seq (
  .reg [.mv 2 (.c (.bool false))]) (
  .seq (
  .reg [.mv 3 (.c (.int .i64 1048576))]) (
  .seq (
  .reg [.mv 7 (.t 0),
    .mv 8 (.t 3),
    .cq 9 F.laws_szHoleS [(.t 7), (.t 8)],
    .mv 3 (.t 9)]) (
  .seq (
  .seq (
  .reg [.mv 10 (.t 3),
    .bi 11 .lss (.t 10) (.c (.int .i64 0))]) (
  .cond (.t 11) (
    .seq (
    .reg [.mv 2 (.c (.bool true))]) (
    .ret)) (
    .skip))) (
  .seq (
  .reg [.mv 12 (.t 0),
    .cq 13 F.laws_toHoleS [(.t 12)],
    .cq 14 F.spec_HolesOk [(.t 13)],
    .mv 4 (.t 14)]) (
  .seq (
  .reg [.mv 15 (.t 0),
    .cq 16 F.laws_toHoleS [(.t 15)],
    .mv 5 (.t 16)]) (
  .seq (
  .reg [.mv 17 (.t 5),
    .cq 18 F.impl_HolesOk [(.t 17)],
    .mv 6 (.t 18)]) (
  .seq (
  .seq (
  .reg [.mv 19 (.t 6),
    .mv 20 (.t 4),
    .eb 21 true (.t 19) (.t 20)]) (
  .cond (.t 21) (
    .seq (
    .reg [.mv 2 (.c (.bool false))]) (
    .ret)) (
    .skip))) (
  .seq (
  .seq (
  .reg [.mv 22 (.t 5),
    .mv 23 (.t 0),
    .cq 24 F.laws_toHoleS [(.t 23)],
    .cq 25 F.laws_eqHoleS [(.t 22), (.t 24)],
    .un 26 (.t 25)]) (
  .cond (.t 26) (
    .seq (
    .reg [.mv 2 (.c (.bool false))]) (
    .ret)) (
    .skip))) (
  .seq (
  .reg [.mv 2 (.c (.bool true))]) (
  .ret))))))))))
def rs_laws_FnExactHolesOk : List Rv := [.t 2]
theorem ck_laws_FnExactHolesOk : chkFn Try.prog F.laws_FnExactHolesOk 1 ir_laws_FnExactHolesOk rs_laws_FnExactHolesOk = true := by kernel_rfl
theorem FnExactHolesOk_ok (xs : List AV) (h : okVs [.sl tyHole] xs) : Snd Try.prog F.laws_FnExactHolesOk xs (.bool true) [] := by
  obtain ⟨a, _, rfl, ha, rfl⟩ := h
  obtain ⟨l, ha⟩ := holes_of ha
  refine snd_by ck_laws_FnExactHolesOk rfl (by rcases ha with rfl | ⟨rfl, _⟩ <;> simp) (den_W ?_)
  unfold ir_laws_FnExactHolesOk rs_laws_FnExactHolesOk
  simp
  refine do_cq (szHoleS_ok l 1048576 a ha (by omega) (by omega)) (by rcases ha with rfl | ⟨rfl, _⟩ <;> simp [St.args]) ?_
  by_cases hs : 1048576 < (l.length : Int)
  · simp [hs]
  · simp [hs]
    intro _
    refine do_cq (toHoleS_ok l a ha (by omega)) (by rcases ha with rfl | ⟨rfl, _⟩ <;> simp [St.args]) ?_
    simp
    refine do_cq (spec_HolesOk_ok l) (by simp [St.args]) ?_
    simp
    refine do_cq (toHoleS_ok l a ha (by omega)) (by rcases ha with rfl | ⟨rfl, _⟩ <;> simp [St.args]) ?_
    simp
    refine do_cq (impl_HolesOk_ok l) (by simp [St.args]) ?_
    simp
    refine do_cq (toHoleS_ok l a ha (by omega)) (by rcases ha with rfl | ⟨rfl, _⟩ <;> simp [St.args]) ?_
    simp
    refine do_cq (eqHoleS_ok l l) (by simp [St.args]) ?_
    simp
end Go.Proofs.Ythbbieobcokgbaa
