/-
  The law's helpers for holes.
-/
import Derived.Test.YthbbieobcokgbaaBase
namespace Go.Proofs.Ythbbieobcokgbaa
open Go Go.RowKit Eng
def ir_laws_toHole : L :=
  .seq (
  .reg [.bx 1 (.t 0),
    .al 2 [.int .i64 0, .int .i64 0]]) (
  .seq (
  .reg [.al 3 [.int .i64 0, .int .i64 0]]) (
  .seq (
  .reg [.fa 4 (.t 1) 0,
    .ld 5 (.t 4) 1 false,
    .fa 6 (.t 3) 0,
    .st (.t 6) (.t 5) 1]) (
  .seq (
  .reg [.fa 7 (.t 1) 1,
    .ld 8 (.t 7) 1 false,
    .fa 9 (.t 3) 1,
    .st (.t 9) (.t 8) 1]) (
  .seq (
  .reg [.ld 10 (.t 3) 2 true,
    .st (.t 2) (.t 10) 2]) (
  .ret)))))
def rs_laws_toHole : List Rv := [.c 2 2 true]
theorem ck_laws_toHole : chkFn Try.prog F.laws_toHole 1 ir_laws_toHole rs_laws_toHole = true := by kernel_rfl
theorem toHole_ok (h : Hole) : Snd Try.prog F.laws_toHole [eHole h] (eHole h) [] := by
  refine snd_by ck_laws_toHole rfl rfl (den_W ?_)
  unfold ir_laws_toHole rs_laws_toHole
  simp [eHole]
def ir_laws_eqHole : L :=
  .seq (
  .reg [.bx 2 (.t 0),
    .bx 3 (.t 1),
    .mv 4 (.c (.bool false))]) (
  .seq (
  .seq (
  .reg [.fa 5 (.t 2) 0,
    .ld 6 (.t 5) 1 false,
    .fa 7 (.t 3) 0,
    .ld 8 (.t 7) 1 false,
    .bi 9 .neq (.t 6) (.t 8)]) (
  .cond (.t 9) (
    .seq (
    .reg [.mv 4 (.c (.bool false))]) (
    .ret)) (
    .skip))) (
  .seq (
  .seq (
  .reg [.fa 10 (.t 2) 1,
    .ld 11 (.t 10) 1 false,
    .fa 12 (.t 3) 1,
    .ld 13 (.t 12) 1 false,
    .bi 14 .neq (.t 11) (.t 13)]) (
  .cond (.t 14) (
    .seq (
    .reg [.mv 4 (.c (.bool false))]) (
    .ret)) (
    .skip))) (
  .seq (
  .reg [.mv 4 (.c (.bool true))]) (
  .ret))))
def rs_laws_eqHole : List Rv := [.t 4]
theorem ck_laws_eqHole : chkFn Try.prog F.laws_eqHole 2 ir_laws_eqHole rs_laws_eqHole = true := by kernel_rfl
theorem eqHole_ok (h g : Hole) : Snd Try.prog F.laws_eqHole [eHole h, eHole g] (.bool (decide (h = g))) [] := by
  refine snd_by ck_laws_eqHole rfl rfl (den_W ?_)
  unfold ir_laws_eqHole rs_laws_eqHole
  obtain ⟨a, b⟩ := h
  obtain ⟨c, d⟩ := g
  simp [eHole]
  grind
def ir_laws_toHoleS : L :=
  .seq (
  .reg [.mv 2 (.c (.nl))]) (
  .seq (
  .reg [.mv 5 (.t 0),
    .ln 6 (.t 5),
    .ms 7 2 16 [.int .i64 0, .int .i64 0] (.t 6),
    .mv 3 (.t 7)]) (
  .seq (
  .seq (
  .reg [.mv 4 (.c (.int .i64 0))]) (
  .blk 0 (
    .loop (
      .seq (
      .seq (
      .reg [.mv 8 (.t 4),
        .mv 9 (.t 0),
        .ln 10 (.t 9),
        .bi 11 .lss (.t 8) (.t 10)]) (
      .cond (.t 11) (
        .skip) (
        .exit 0))) (
      .seq (
      .blk 1 (
        .reg [.mv 14 (.t 3),
          .mv 15 (.t 4),
          .mv 16 (.t 0),
          .mv 17 (.t 4),
          .ia 18 (.t 16) (.t 17) 2,
          .ld 19 (.t 18) 2 true,
          .cq 20 F.laws_toHole [(.t 19)],
          .ia 21 (.t 14) (.t 15) 2,
          .st (.t 21) (.t 20) 2])) (
      .reg [.mv 12 (.t 4),
        .bi 13 .add (.t 12) (.c (.int .i64 1)),
        .mv 4 (.t 13)])))))) (
  .seq (
  .reg [.mv 22 (.t 3),
    .mv 2 (.t 22)]) (
  .ret))))
def rs_laws_toHoleS : List Rv := [.t 2]
theorem ck_laws_toHoleS : chkFn Try.prog F.laws_toHoleS 1 ir_laws_toHoleS rs_laws_toHoleS = true := by kernel_rfl
theorem toHoleS_ok (l : List Hole) (a : AV) (ha : a = .sl .rd 2 (l.map eHole) ∨ (a = .nl ∧ l = [])) (hl : l.length ≤ 1048576) : Snd Try.prog F.laws_toHoleS [a] (.sref 0) [⟨2, l.map eHole, false⟩] := by
  refine snd_by ck_laws_toHoleS rfl (by rcases ha with rfl | ⟨rfl, _⟩ <;> simp) (den_W ?_)
  unfold ir_laws_toHoleS rs_laws_toHoleS
  rcases ha with rfl | ⟨rfl, rfl⟩
  · simp
    intro hlen
    refine ⟨by omega, by omega, W_loop (fun m s => ∃ i es, m = l.length - i ∧ i ≤ l.length ∧ s.e 0 = .sl .rd 2 (l.map eHole) ∧ s.e 3 = .sref 7 ∧ s.e 4 = .int .i64 (i : Nat) ∧
      s.rw 7 = some ⟨2, es, false⟩ ∧ es = (l.map eHole).take i ++ List.replicate (l.length - i) (.agg [.int .i64 0, .int .i64 0])) l.length ?_ ?_⟩
    · exact ⟨0, List.replicate l.length (.agg [.int .i64 0, .int .i64 0]), by simp⟩
    · rintro m s ⟨i, es, rfl, hi, h0, h3, h4, hr, he⟩
      by_cases h : i < l.length
      · obtain ⟨f1, f2, f3⟩ := fill_facts _ _ _ _ h he
        simp [h0, h3, h4, hr, h, eHole]
        intro _
        refine do_cq (toHole_ok l[i]) (by simp [St.args, eHole]) ?_
        simp [h0, h3, h4, hr, h, f1, f2, eHole]
        refine ⟨l.length - (i + 1), by omega, i + 1, by simp [wrap_succ h hlen], by omega, by simp [wrap_succ h hlen], by simpa [eHole] using f3⟩
      · have : i = l.length := by omega
        subst this
        simp [h0, h3, h4, hr]
        intro _
        refine post_ret [7] ?_
        simp [hr, he, List.take_of_length_le]
  · simp
    refine W_loop (fun m s => s.e 0 = .nl ∧ s.e 3 = .sref 7 ∧ s.e 4 = .int .i64 0 ∧ s.rw 7 = some ⟨2, [], false⟩) 0 ?_ ?_
    · simp
    · rintro m s ⟨h0, h3, h4, hr⟩
      simp [h0, h3, h4, hr]
      refine post_ret [7] ?_
      simp [hr]
def ir_laws_eqHoleS : L :=
  .seq (
  .reg [.mv 4 (.c (.bool false))]) (
  .seq (
  .seq (
  .reg [.mv 6 (.t 0),
    .ln 7 (.t 6),
    .mv 8 (.t 1),
    .ln 9 (.t 8),
    .bi 10 .neq (.t 7) (.t 9)]) (
  .cond (.t 10) (
    .seq (
    .reg [.mv 4 (.c (.bool false))]) (
    .ret)) (
    .skip))) (
  .seq (
  .seq (
  .reg [.mv 5 (.c (.int .i64 0))]) (
  .blk 0 (
    .loop (
      .seq (
      .seq (
      .reg [.mv 11 (.t 5),
        .mv 12 (.t 0),
        .ln 13 (.t 12),
        .bi 14 .lss (.t 11) (.t 13)]) (
      .cond (.t 14) (
        .skip) (
        .exit 0))) (
      .seq (
      .blk 1 (
        .seq (
        .rq 10 [.mv 17 (.t 0),
          .mv 18 (.t 5),
          .ia 19 (.t 17) (.t 18) 2,
          .ld 20 (.t 19) 2 true,
          .mv 21 (.t 1),
          .mv 22 (.t 5),
          .ia 23 (.t 21) (.t 22) 2,
          .ld 24 (.t 23) 2 true,
          .cq 25 F.laws_eqHole [(.t 20), (.t 24)],
          .un 26 (.t 25)]) (
        .cond (.t 26) (
          .seq (
          .reg [.mv 4 (.c (.bool false))]) (
          .ret)) (
          .skip)))) (
      .reg [.mv 15 (.t 5),
        .bi 16 .add (.t 15) (.c (.int .i64 1)),
        .mv 5 (.t 16)])))))) (
  .seq (
  .reg [.mv 4 (.c (.bool true))]) (
  .ret))))
def rs_laws_eqHoleS : List Rv := [.t 4]
theorem ck_laws_eqHoleS : chkFn Try.prog F.laws_eqHoleS 2 ir_laws_eqHoleS rs_laws_eqHoleS = true := by kernel_rfl
theorem eqHoleS_ok (l k : List Hole) : Snd Try.prog F.laws_eqHoleS [.sl .rd 2 (l.map eHole), .sl .rd 2 (k.map eHole)] (.bool (decide (l = k))) [] := by
  refine snd_by ck_laws_eqHoleS rfl (by simp) (den_W ?_)
  unfold ir_laws_eqHoleS rs_laws_eqHoleS
  simp
  intro hl hk
  refine ⟨fun hne => fun e => hne (by rw [e]), fun hlen => ?_⟩
  refine W_loop (fun m s => ∃ i, m = l.length - i ∧ i ≤ l.length ∧ l.take i = k.take i ∧ s.e 0 = .sl .rd 2 (l.map eHole) ∧ s.e 1 = .sl .rd 2 (k.map eHole) ∧ s.e 5 = .int .i64 (i : Nat)) l.length ?_ ?_
  · exact ⟨0, by simp⟩
  · rintro m s ⟨i, rfl, hi, hu, h0, h1, h5⟩
    by_cases h : i < l.length
    · have hk' : i < k.length := by omega
      simp [h0, h1, h5, h, hk', eHole]
      intro _
      refine do_cq (eqHole_ok l[i] k[i]) (by simp [St.args, eHole]) ?_
      by_cases he : l[i] = k[i]
      · simp [he, h0, h1, h5]
        exact ⟨l.length - (i + 1), by omega, i + 1, by simp, by omega, by rw [List.take_succ_eq_append_getElem h, List.take_succ_eq_append_getElem hk', hu, he], by simp [wrap_succ h hl]⟩
      · simp [he]
        exact fun e => he (by subst e; rfl)
    · have : i = l.length := by omega
      subst this
      simp [h0, h1, h5]
      intro _
      rw [List.take_of_length_le (Nat.le_refl _), List.take_of_length_le (by omega)] at hu
      exact hu
def ir_laws_szHoleS : L :=
  .seq (
  .reg [.mv 4 (.c (.int .i64 0))]) (
  .seq (
  .reg [.mv 5 (.t 1),
    .mv 6 (.t 0),
    .ln 7 (.t 6),
    .bi 8 .sub (.t 5) (.t 7),
    .mv 1 (.t 8)]) (
  .seq (
  .seq (
  .reg [.mv 9 (.t 1),
    .bi 10 .lss (.t 9) (.c (.int .i64 0))]) (
  .cond (.t 10) (
    .seq (
    .reg [.mv 4 (.c (.int .i64 (-1)))]) (
    .ret)) (
    .skip))) (
  .seq (
  .reg [.mv 11 (.t 1),
    .mv 4 (.t 11)]) (
  .ret))))
def rs_laws_szHoleS : List Rv := [.t 4]
theorem ck_laws_szHoleS : chkFn Try.prog F.laws_szHoleS 2 ir_laws_szHoleS rs_laws_szHoleS = true := by kernel_rfl
theorem szHoleS_ok (l : List Hole) (n : Int) (a : AV) (ha : a = .sl .rd 2 (l.map eHole) ∨ (a = .nl ∧ l = [])) (hn : n ≤ 1048576) (h0 : 0 ≤ n) :
    Snd Try.prog F.laws_szHoleS [a, .int .i64 n] (.int .i64 (if n < l.length then -1 else n - l.length)) [] := by
  refine snd_by ck_laws_szHoleS rfl (by rcases ha with rfl | ⟨rfl, _⟩ <;> simp) (den_W ?_)
  unfold ir_laws_szHoleS rs_laws_szHoleS
  rcases ha with rfl | ⟨rfl, rfl⟩
  · simp
    intro hl
    rw [wrap_id (by omega) (by omega)]
    grind
  · simp
    rw [wrap_id (by omega) (by omega)]
    grind
end Go.Proofs.Ythbbieobcokgbaa
