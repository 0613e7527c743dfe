/-
  The law FnExactHoles.
-/
import Derived.Test.YthbbieobcokgbaaHoles2
import Derived.Test.YthbbieobcokgbaaTyProf
namespace Go.Proofs.Ythbbieobcokgbaa
open Go Go.RowKit Eng
def ir_laws_FnExactHoles : L :=
  .seq (
  .reg [.bx 4 (.t 0),
    .bx 5 (.t 1),
    .mv 8 (.c (.bool false))]) (
  .seq (
  .reg [.mv 9 (.c (.int .i64 1048576))]) (
  .seq (
  .reg [.ld 17 (.t 4) 1 true,
    .mv 18 (.t 9),
    .cq 19 F.laws_szProf [(.t 17), (.t 18)],
    .mv 9 (.t 19)]) (
  .seq (
  .seq (
  .reg [.mv 20 (.t 9),
    .bi 21 .lss (.t 20) (.c (.int .i64 0))]) (
  .cond (.t 21) (
    .seq (
    .reg [.mv 8 (.c (.bool true))]) (
    .ret)) (
    .skip))) (
  .seq (
  .rq 8 [.ld 22 (.t 4) 1 true,
    .cq 23 F.laws_toProf [(.t 22)],
    .ld 24 (.t 5) 3 true,
    .cq 25 F.laws_toVec [(.t 24)],
    .mv 26 (.t 2),
    .mv 27 (.t 3),
    .cq 28 F.spec_Holes [(.t 23), (.t 25), (.t 26), (.t 27)],
    .mv 10 (.t 28)]) (
  .seq (
  .reg [.ld 29 (.t 4) 1 true,
    .cl 30 F.laws_toProf [(.t 29)],
    .al 11 [.nl],
    .st (.t 11) (.t 30) 1]) (
  .seq (
  .rq 5 [.ld 31 (.t 11) 1 true,
    .ld 32 (.t 5) 3 true,
    .cq 33 F.laws_toVec [(.t 32)],
    .mv 34 (.t 2),
    .mv 35 (.t 3),
    .cl 36 F.impl_Holes [(.t 31), (.t 33), (.t 34), (.t 35)],
    .mv 12 (.t 36)]) (
  .seq (
  .seq (
  .reg [.mv 37 (.t 12),
    .mv 38 (.t 10),
    .cq 39 F.laws_eqHoleS [(.t 37), (.t 38)],
    .un 40 (.t 39)]) (
  .cond (.t 40) (
    .seq (
    .reg [.mv 8 (.c (.bool false))]) (
    .ret)) (
    .skip))) (
  .seq (
  .seq (
  .rq 5 [.ld 41 (.t 11) 1 true,
    .ld 42 (.t 4) 1 true,
    .cq 43 F.laws_toProf [(.t 42)],
    .cq 44 F.laws_eqProf [(.t 41), (.t 43)],
    .un 45 (.t 44)]) (
  .cond (.t 45) (
    .seq (
    .reg [.mv 8 (.c (.bool false))]) (
    .ret)) (
    .skip))) (
  .seq (
  .reg [.mv 13 (.c (.int .i64 1))]) (
  .seq (
  .reg [.ld 46 (.t 11) 1 true,
    .mv 47 (.t 13),
    .cm 48 F.laws_markProf [(.t 46), (.t 47)],
    .mv 13 (.t 48)]) (
  .seq (
  .seq (
  .reg [.mv 49 (.t 13),
    .bi 50 .lss (.t 49) (.c (.int .i64 0)),
    .mv 51 (.t 50),
    .g 51 false (.mv 52 (.t 12)),
    .g 51 false (.mv 53 (.t 10)),
    .g 51 false (.cq 54 F.laws_eqHoleS [(.t 52), (.t 53)]),
    .g 51 false (.un 55 (.t 54)),
    .pk 56 (.t 51) (.c (.bool true)) (.t 55)]) (
  .cond (.t 56) (
    .seq (
    .reg [.mv 8 (.c (.bool false))]) (
    .ret)) (
    .skip))) (
  .seq (
  .reg [.mv 14 (.c (.int .i64 1))]) (
  .seq (
  .reg [.mv 57 (.t 12),
    .mv 58 (.t 14),
    .cm 59 F.laws_markHoleS [(.t 57), (.t 58)],
    .mv 14 (.t 59)]) (
  .seq (
  .reg [.mv 15 (.c (.int .i64 1))]) (
  .seq (
  .reg [.mv 60 (.t 12),
    .mv 61 (.t 15),
    .cq 62 F.laws_heldHoleS [(.t 60), (.t 61)],
    .mv 15 (.t 62)]) (
  .seq (
  .seq (
  .reg [.mv 63 (.t 15),
    .bi 64 .lss (.t 63) (.c (.int .i64 0))]) (
  .cond (.t 64) (
    .seq (
    .reg [.mv 8 (.c (.bool false))]) (
    .ret)) (
    .skip))) (
  .seq (
  .seq (
  .reg [.mv 65 (.t 15),
    .mv 66 (.t 14),
    .bi 67 .neq (.t 65) (.t 66)]) (
  .cond (.t 67) (
    .seq (
    .reg [.mv 8 (.c (.bool false))]) (
    .ret)) (
    .skip))) (
  .seq (
  .rq 8 [.ld 68 (.t 4) 1 true,
    .cq 69 F.laws_toProf [(.t 68)],
    .ld 70 (.t 5) 3 true,
    .cq 71 F.laws_toVec [(.t 70)],
    .mv 72 (.t 2),
    .mv 73 (.t 3),
    .cq 74 F.impl_Holes [(.t 69), (.t 71), (.t 72), (.t 73)],
    .mv 16 (.t 74)]) (
  .seq (
  .seq (
  .reg [.mv 75 (.t 16),
    .mv 76 (.t 10),
    .cq 77 F.laws_eqHoleS [(.t 75), (.t 76)],
    .un 78 (.t 77)]) (
  .cond (.t 78) (
    .seq (
    .reg [.mv 8 (.c (.bool false))]) (
    .ret)) (
    .skip))) (
  .seq (
  .reg [.mv 15 (.c (.int .i64 1))]) (
  .seq (
  .reg [.mv 79 (.t 12),
    .mv 80 (.t 15),
    .cq 81 F.laws_heldHoleS [(.t 79), (.t 80)],
    .mv 15 (.t 81)]) (
  .seq (
  .seq (
  .reg [.mv 82 (.t 15),
    .bi 83 .lss (.t 82) (.c (.int .i64 0))]) (
  .cond (.t 83) (
    .seq (
    .reg [.mv 8 (.c (.bool false))]) (
    .ret)) (
    .skip))) (
  .seq (
  .seq (
  .reg [.mv 84 (.t 15),
    .mv 85 (.t 14),
    .bi 86 .neq (.t 84) (.t 85)]) (
  .cond (.t 86) (
    .seq (
    .reg [.mv 8 (.c (.bool false))]) (
    .ret)) (
    .skip))) (
  .seq (
  .reg [.mv 8 (.c (.bool true))]) (
  .ret)))))))))))))))))))))))))
def rs_laws_FnExactHoles : List Rv := [.t 8]
theorem ck_laws_FnExactHoles : chkFn Try.prog F.laws_FnExactHoles 4 ir_laws_FnExactHoles rs_laws_FnExactHoles = true := by kernel_rfl
set_option maxRecDepth 10000 in
theorem FnExactHoles_c (p : List Pt) (v : Vec) (a : Int) (b : Int) : Snd Try.prog F.laws_FnExactHoles [ePr p, eVec v, .int .i64 a, .int .i64 b] (.bool true) [] := by
  refine snd_by ck_laws_FnExactHoles rfl (by simp) (den_W ?_)
  unfold ir_laws_FnExactHoles rs_laws_FnExactHoles
  simp
  refine do_cq (szProf_ok p 1048576 (by omega) (by omega)) (by simp [St.args]) ?_
  simp
  intro hs0
  obtain ⟨hz0, hy0⟩ := szr_nn hs0
  have hp : p.length ≤ 1048576 := by omega
  refine do_cq (toProf_ok p hp) (by simp [St.args]) ?_
  simp
  refine do_cq (toVec_ok v) (by simp [St.args]) ?_
  simp
  have hm := holesOf_len p v a b
  refine do_cq (spec_Holes_ok p v a b hp) (by simp [St.args]) ?_
  simp
  refine do_cl (toProf_ok p hp) (by simp [St.args]) (by simp) ?_
  simp
  refine do_cq (toVec_ok v) (by simp [St.args]) ?_
  simp
  refine do_cl (impl_Holes_ok p v a b hp) (by simp [St.args]) (by simp) ?_
  simp
  refine do_cq (eqHoleS_ok (holesOf p v a b) (holesOf p v a b)) (by simp [St.args]) ?_
  simp
  refine do_cq (toProf_ok p hp) (by simp [St.args]) ?_
  simp
  refine do_cq (eqProf_ok (p) (p)) (by simp [St.args]) ?_
  simp
  refine do_cm [] [31000] (markProf_ok (p) (1) (by omega) (by omega)) rfl (by simp) (by simp) (by simp) ?_
  rintro _ _ _ _ _ _ ⟨rfl, rfl, rfl, rfl⟩
  have hk1 : ¬ (1 + 4 * ((p).length : Int) < 0) := by omega
  simp [hk1]
  refine do_cq (eqHoleS_ok (holesOf p v a b) (holesOf p v a b)) (by simp [St.args]) ?_
  simp
  refine do_cm [] [37000] (markHoleS_ok (holesOf p v a b) (1) (by omega) (by omega)) rfl (by simp) (by simp) (by simp) ?_
  rintro _ _ _ _ _ _ ⟨rfl, rfl, rfl, rfl⟩
  have hk2 : ¬ (1 + 2 * ((holesOf p v a b).length : Int) < 0) := by omega
  simp
  refine do_cq (heldHoleS_ok (holesOf p v a b).length 1 (by omega) (by omega)) (by simp [St.args]) ?_
  simp [hk2]
  refine do_cq (toProf_ok p hp) (by simp [St.args]) ?_
  simp
  refine do_cq (toVec_ok v) (by simp [St.args]) ?_
  simp
  refine do_cq (impl_Holes_ok p v a b hp) (by simp [St.args]) ?_
  simp
  refine do_cq (eqHoleS_ok (holesOf p v a b) (holesOf p v a b)) (by simp [St.args]) ?_
  simp
  refine do_cq (heldHoleS_ok (holesOf p v a b).length 1 (by omega) (by omega)) (by simp [St.args]) ?_
  simp [hk2]
theorem FnExactHoles_ok (xs : List AV) (h : okVs [tyProf, tyVec, .int .i64, .int .i64] xs) : Snd Try.prog F.laws_FnExactHoles xs (.bool true) [] := by
  obtain ⟨p, _, rfl, hp, v, _, rfl, hv, a, _, rfl, ha, b, _, rfl, hb, rfl⟩ := h
  obtain ⟨p, hp⟩ := Prof_of hp
  obtain ⟨v, rfl⟩ := Vec_of hv
  obtain ⟨a, ha, _⟩ := ha
  obtain ⟨b, hb, _⟩ := hb
  obtain rfl := (List.cons.inj ha).1
  obtain rfl := (List.cons.inj hb).1
  exact (FnExactHoles_c p v a b).wk ⟨hp, by simp [AV.wkA, wkLs, AV.wk1], rfl, rfl, trivial⟩
end Go.Proofs.Ythbbieobcokgbaa
