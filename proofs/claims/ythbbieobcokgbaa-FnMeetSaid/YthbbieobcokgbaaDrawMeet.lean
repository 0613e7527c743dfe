/-
  The draw of two lists of free intervals.
-/
import Derived.Test.YthbbieobcokgbaaCur
namespace Go.Proofs.Ythbbieobcokgbaa
open Go Go.RowKit Eng
/-- Free intervals are drawn. -/
def drawnHoles (bs : List Int) : AV → List (List AV) → List (Option (List AV)) → List Row → Prop := fun res bout us new => ∃ (l : List Hole) (b : List AV), l.length ≤ 4 ∧ isCur bs b ∧ res = .sref 0 ∧ bout = [b] ∧ us = [] ∧ new = [⟨2, l.map eHole, false⟩]
def ir_spec_l23Holes : L :=
  .seq (
  .reg [.mv 2 (.c (.nl))]) (
  .seq (
  .reg [.bs 7 2 [] true,
    .mv 3 (.t 7)]) (
  .seq (
  .reg [.mv 4 (.c (.int .i64 0))]) (
  .seq (
  .seq (
  .reg [.mv 8 (.t 0),
    .cm 9 F.spec_l01Below [(.t 8), (.c (.int .i64 5))],
    .mv 5 (.t 9)]) (
  .blk 0 (
    .loop (
      .seq (
      .seq (
      .reg [.mv 10 (.t 5),
        .bi 11 .gtr (.t 10) (.c (.int .i64 0))]) (
      .cond (.t 11) (
        .skip) (
        .exit 0))) (
      .seq (
      .blk 1 (
        .seq (
        .reg [.mv 14 (.t 4),
          .bi 15 .add (.t 14) (.c (.int .i64 1)),
          .mv 16 (.t 0),
          .cm 17 F.spec_l01Below [(.t 16), (.c (.int .i64 8))],
          .bi 18 .add (.t 15) (.t 17),
          .bd 19 [.int .i64 0, .int .i64 0] [(0, 1, (.t 18))],
          .al 6 [.int .i64 0, .int .i64 0],
          .st (.t 6) (.t 19) 2]) (
        .seq (
        .rz [(0, false, .fa 20 (.t 6) 0),
          (1, false, .ld 21 (.t 20) 1 false),
          (2, false, .bi 22 .add (.t 21) (.c (.int .i64 1))),
          (3, false, .mv 23 (.t 0)),
          (4, true, .cm 24 F.spec_l01Below [(.t 23), (.c (.int .i64 8))])]
          [.bi 25 .add (.t 22) (.t 24),
          .fa 26 (.t 6) 1,
          .st (.t 26) (.t 25) 1]) (
        .seq (
        .reg [.mv 27 (.t 3),
          .ld 28 (.t 6) 2 true,
          .bs 29 2 [(.t 28)] false,
          .ap 30 (.t 27) (.t 29) 2 16,
          .mv 3 (.t 30)]) (
        .reg [.fa 31 (.t 6) 1,
          .ld 32 (.t 31) 1 false,
          .mv 4 (.t 32)]))))) (
      .reg [.mv 12 (.t 5),
        .bi 13 .sub (.t 12) (.c (.int .i64 1)),
        .mv 5 (.t 13)])))))) (
  .seq (
  .seq (
  .reg [.mv 33 (.t 3),
    .ln 34 (.t 33),
    .bi 35 .gtr (.t 34) (.c (.int .i64 0)),
    .mv 36 (.t 35),
    .g 36 true (.mv 37 (.t 0)),
    .g 36 true (.cm 38 F.spec_l01Below [(.t 37), (.c (.int .i64 8))]),
    .g 36 true (.bi 39 .eql (.t 38) (.c (.int .i64 0))),
    .pk 40 (.t 36) (.t 39) (.c (.bool false))]) (
  .cond (.t 40) (
    .reg [.mv 41 (.t 3),
      .mv 42 (.t 0),
      .cm 43 F.spec_l01Raw [(.t 42)],
      .ia 44 (.t 41) (.c (.int .i64 0)) 2,
      .fa 45 (.t 44) 1,
      .st (.t 45) (.t 43) 1]) (
    .skip))) (
  .seq (
  .reg [.mv 46 (.t 3),
    .mv 2 (.t 46)]) (
  .ret))))))
def rs_spec_l23Holes : List Rv := [.t 2]
theorem ck_spec_l23Holes : chkFn Try.prog F.spec_l23Holes 1 ir_spec_l23Holes rs_spec_l23Holes = true := by kernel_rfl
set_option maxRecDepth 10000 in
theorem l23Holes_ok (bs : List Int) (b : List AV) (hb : isCur bs b) (hl : bs.length ≤ 1048576) : Con Try.prog F.spec_l23Holes [.ptr 0 0] [b] [] (drawnHoles bs) := by
  obtain ⟨i, h, hi, rfl⟩ := hb
  refine con_by [] ck_spec_l23Holes rfl (by simp) fun _ => den_W ?_
  unfold ir_spec_l23Holes rs_spec_l23Holes
  simp
  refine do_cm [2000000000] [] (l01Below_ok bs _ 5 ⟨i, h, hi, rfl⟩ hl (by omega)) rfl (by simp) (by simp) (by simp) ?_
  rintro _ _ _ _ _ _ ⟨x, _, x0, x1, rfl, rfl, ⟨i1, h1, hi1, rfl⟩, rfl, rfl⟩
  obtain ⟨n, rfl⟩ := Int.eq_ofNat_of_zero_le x0
  simp
  refine W_ms (fun m s => ∃ (l : List Hole) (i : Nat) (h p : Int), i ≤ bs.length ∧ l.length + m ≤ 4 ∧ s.e 0 = .ptr 2000000000 0 ∧ s.bx 2000000000 = some [.sl .rd 1 (bs.map eB), .int .i64 (i : Nat), .int .i64 h] ∧
    s.e 3 = .sref 7 ∧ s.rw 7 = some ⟨2, l.map eHole, false⟩ ∧ s.e 4 = .int .i64 p ∧ s.e 5 = .int .i64 (m : Nat)) n ?_ ?_
  · exact ⟨[], i1, h1, 0, hi1, by simp; omega, by simp⟩
  rintro y0 s ⟨l, j, g, p, hj, hlx, e0, eb, e3, er, e4, e5⟩
  by_cases hx0 : 0 < y0
  · simp [e0, e4, e5, hx0]
    refine do_cm [2000000000] [] (l01Below_ok bs _ 8 ⟨j, g, hj, rfl⟩ hl (by omega)) rfl (by simp [eb]) (by simp) (by simp) ?_
    rintro _ _ _ _ _ _ ⟨y, _, _, _, rfl, rfl, ⟨j1, g1, hj1, rfl⟩, rfl, rfl⟩
    simp [e0]
    refine do_zmw [2000000000] (l01Below_ok bs _ 8 ⟨j1, g1, hj1, rfl⟩ hl (by omega)) (by simp) rfl (by simp) (by simp) ?_
    rintro _ _ _ _ _ ⟨z, _, z0, z1, rfl, rfl, ⟨i2, h2, hi2, rfl⟩, rfl, rfl⟩
    simp [e3, er, e5]
    refine ⟨by omega, ms_next (y0 - 1) (by omega) ⟨l ++ [⟨IntKind.i64.wrap (IntKind.i64.wrap (p + 1) + y), IntKind.i64.wrap (IntKind.i64.wrap (IntKind.i64.wrap (IntKind.i64.wrap (p + 1) + y) + 1) + z)⟩], i2, h2, IntKind.i64.wrap (IntKind.i64.wrap (IntKind.i64.wrap (IntKind.i64.wrap (p + 1) + y) + 1) + z), hi2, by simp; omega, ?_⟩⟩
    simp [e0]
    rw [wrap_id (by omega) (by omega)]; omega
  · simp [e3, er, e5, hx0]
    intro _
    have fin : ∀ (s : St) (l : List Hole) (j : Nat) (g : Int), l.length ≤ 4 → j ≤ bs.length → s.bx 2000000000 = some [.sl .rd 1 (bs.map eB), .int .i64 (j : Nat), .int .i64 g] → s.rw 7 = some ⟨2, l.map eHole, false⟩ → s.e 2 = .sref 7 →
        postC [Rv.t 2] [[.sl .rd 1 (bs.map eB), .int .i64 (i : Nat), .int .i64 h]] [] [] (drawnHoles bs) .ret s := by
      intro s l j g hl hj eb er e2
      refine postC_ret [[.sl .rd 1 (bs.map eB), .int .i64 (j : Nat), .int .i64 g]] [] [7] [⟨2, l.map eHole, false⟩] ?_
      simp [eb, er, e2]
      exact ⟨l, _, hl, ⟨j, g, hj, rfl⟩, rfl, rfl, rfl, rfl⟩
    by_cases h0 : 0 < l.length
    · simp [h0]
      refine do_cm [2000000000] [] (l01Below_ok bs _ 8 ⟨j, g, hj, rfl⟩ hl (by omega)) rfl (by simp [eb]) (by simp) (by simp [e0]) ?_
      rintro _ _ _ _ _ _ ⟨y, _, _, _, rfl, rfl, ⟨j1, g1, hj1, rfl⟩, rfl, rfl⟩
      by_cases hy : y = 0
      · simp [e0, e3, hy]
        refine do_cm [2000000000] [] (l01Raw_ok bs _ ⟨j1, g1, hj1, rfl⟩ hl) rfl (by simp) (by simp) (by simp) ?_
        rintro _ _ _ _ _ _ ⟨z, _, _, _, rfl, rfl, ⟨j2, g2, hj2, rfl⟩, rfl, rfl⟩
        simp [e3, er, h0]
        refine fin _ (l.set 0 ⟨l[0].a, z⟩) j2 g2 (by simp; omega) hj2 (by simp) ?_ (by simp)
        simp [List.map_set]
      · simp [e0, e3, hy]
        exact fin _ l j1 g1 (by omega) hj1 (by simp) (by simp [er]) (by simp)
    · simp [h0, e3]
      exact fin _ l j g (by omega) hj (by simp [eb]) (by simp [er]) (by simp)
def drawn2 : AV → List (List AV) → List (Option (List AV)) → List Row → Prop := fun res bout us new => ∃ a b : List Hole, a.length ≤ 4 ∧ b.length ≤ 4 ∧ res = .tup [.sref 0, .sref 1] ∧ bout = [] ∧ us = [] ∧ new = [⟨2, a.map eHole, false⟩, ⟨2, b.map eHole, false⟩]
def ir_spec_DrawMeet : L :=
  .seq (
  .reg [.mv 2 (.c (.nl)),
    .mv 3 (.c (.nl))]) (
  .seq (
  .reg [.mv 7 (.t 0),
    .cn 8 F.spec_l01New [(.t 7)],
    .mv 4 (.t 8)]) (
  .seq (
  .reg [.mv 9 (.t 4),
    .cm 10 F.spec_l23Holes [(.t 9)],
    .mv 5 (.t 10)]) (
  .seq (
  .reg [.mv 11 (.t 4),
    .cm 12 F.spec_l23Holes [(.t 11)],
    .mv 6 (.t 12)]) (
  .seq (
  .reg [.mv 13 (.t 5),
    .mv 14 (.t 6),
    .mv 2 (.t 13),
    .mv 3 (.t 14)]) (
  .ret)))))
def rs_spec_DrawMeet : List Rv := [.t 2, .t 3]
theorem ck_spec_DrawMeet : chkFn Try.prog F.spec_DrawMeet 1 ir_spec_DrawMeet rs_spec_DrawMeet = true := by kernel_rfl
set_option maxRecDepth 10000 in
theorem DrawMeet_ok (bs : List Int) (hl : bs.length ≤ 1048576) : Con Try.prog F.spec_DrawMeet [.sl .rd 1 (bs.map eB)] [] [] drawn2 := by
  refine con_by [] ck_spec_DrawMeet rfl (by simp) fun _ => den_W ?_
  unfold ir_spec_DrawMeet rs_spec_DrawMeet
  simp
  refine do_cn (l01New_ok bs hl) (by simp [St.args]) (by simp) ?_
  rintro _ ⟨i, h, hi, rfl⟩
  simp
  refine do_cm [8] [] (l23Holes_ok bs _ ⟨i, h, hi, rfl⟩ hl) rfl (by simp) (by simp) (by simp) ?_
  rintro _ _ _ _ _ _ ⟨a, _, ha, ⟨i1, h1, hi1, rfl⟩, rfl, rfl, rfl, rfl⟩
  simp
  refine do_cm [8] [] (l23Holes_ok bs _ ⟨i1, h1, hi1, rfl⟩ hl) rfl (by simp) (by simp) (by simp) ?_
  rintro _ _ _ _ _ _ ⟨b, _, hb, ⟨i2, h2, hi2, rfl⟩, rfl, rfl, rfl, rfl⟩
  simp
  refine postC_ret [] [] [11000, 13000] [⟨2, a.map eHole, false⟩, ⟨2, b.map eHole, false⟩] ?_
  simp
  exact ⟨a, b, ha, hb, rfl, rfl, rfl, rfl⟩
end Go.Proofs.Ythbbieobcokgbaa
