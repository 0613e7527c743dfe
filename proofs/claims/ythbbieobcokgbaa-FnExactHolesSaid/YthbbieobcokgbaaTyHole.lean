/-
  The law's helpers, printed by a program of mine (tygen.py).
-/
import Derived.Test.YthbbieobcokgbaaBase
namespace Go.Proofs.Ythbbieobcokgbaa
open Go Go.RowKit Eng
structure Hole where
  a : Int
  b : Int
  deriving DecidableEq
@[simp] def eHole (x : Hole) : AV := .agg [.int .i64 x.a, .int .i64 x.b]
@[simp] theorem rdt_HoleS (l : List Hole) : rdtL (l.map eHole) = l.map eHole := rdtL_enc _ (fun _ => rfl) l
@[simp] theorem nw_HoleS (l : List Hole) : NwL (l.map eHole) := NwL_enc _ (fun _ => by simp) l
def tyHole : Ty := .st [.int .i64, .int .i64]
theorem Hole_of {x : AV} (h : tyHole.okV x) : ∃ y, x = eHole y := by
  obtain ⟨cs, rfl, h⟩ := h
  simp only [Ty.ok, okL] at h
  obtain ⟨_, _, rfl, ⟨x_a, rfl, _⟩, ⟨_, _, rfl, ⟨x_b, rfl, _⟩, rfl⟩⟩ := h
  exact ⟨⟨x_a, x_b⟩, rfl⟩
theorem HoleS_of {a : AV} (h : (Ty.sl tyHole).okV a) : ∃ l : List Hole, AV.wkA (fun _ => False) a (.sl .rd 2 (l.map eHole)) := by
  simp only [Ty.okV, Ty.ok] at h
  rcases h with h | ⟨es, h, _, h2⟩
  · exact ⟨[], by rw [(List.cons.inj h).1]; simp⟩
  · obtain ⟨l, rfl⟩ := list_of eHole fun x hx => by
      obtain ⟨_, h3, h4⟩ := h2 x hx
      simp only [tyHole, Ty.isSt, if_true] at h3
      obtain ⟨cs, rfl⟩ := h3
      exact Hole_of ⟨cs, rfl, by simpa [AV.cells, tyHole, Ty.ok] using h4⟩
    exact ⟨l, by rw [(List.cons.inj h).1]; simp [tyHole, Ty.size, sizeL]⟩
def ir_laws_toHole : L :=
  .seq (
  .reg [.bx 1 (.t 0),
    .al 2 [.int .i64 0, .int .i64 0]]) (
  .seq (
  .reg [.al 3 [.int .i64 0, .int .i64 0]]) (
  .seq (
  .reg [.fa 4 (.t 1) 0,
    .ld 5 (.t 4) 1 false,
    .fa 6 (.t 3) 0,
    .st (.t 6) (.t 5) 1]) (
  .seq (
  .reg [.fa 7 (.t 1) 1,
    .ld 8 (.t 7) 1 false,
    .fa 9 (.t 3) 1,
    .st (.t 9) (.t 8) 1]) (
  .seq (
  .reg [.ld 10 (.t 3) 2 true,
    .st (.t 2) (.t 10) 2]) (
  .ret)))))
def rs_laws_toHole : List Rv := [.c 2 2 true]
theorem ck_laws_toHole : chkFn Try.prog F.laws_toHole 1 ir_laws_toHole rs_laws_toHole = true := by kernel_rfl
theorem toHole_ok (x : Hole) : Snd Try.prog F.laws_toHole [eHole x] (eHole x) [] := by
  refine snd_by ck_laws_toHole rfl rfl (den_W ?_)
  unfold ir_laws_toHole rs_laws_toHole
  simp
def ir_laws_eqHole : L :=
  .seq (
  .reg [.bx 2 (.t 0),
    .bx 3 (.t 1),
    .mv 4 (.c (.bool false))]) (
  .seq (
  .seq (
  .reg [.fa 5 (.t 2) 0,
    .ld 6 (.t 5) 1 false,
    .fa 7 (.t 3) 0,
    .ld 8 (.t 7) 1 false,
    .bi 9 .neq (.t 6) (.t 8)]) (
  .cond (.t 9) (
    .seq (
    .reg [.mv 4 (.c (.bool false))]) (
    .ret)) (
    .skip))) (
  .seq (
  .seq (
  .reg [.fa 10 (.t 2) 1,
    .ld 11 (.t 10) 1 false,
    .fa 12 (.t 3) 1,
    .ld 13 (.t 12) 1 false,
    .bi 14 .neq (.t 11) (.t 13)]) (
  .cond (.t 14) (
    .seq (
    .reg [.mv 4 (.c (.bool false))]) (
    .ret)) (
    .skip))) (
  .seq (
  .reg [.mv 4 (.c (.bool true))]) (
  .ret))))
def rs_laws_eqHole : List Rv := [.t 4]
theorem ck_laws_eqHole : chkFn Try.prog F.laws_eqHole 2 ir_laws_eqHole rs_laws_eqHole = true := by kernel_rfl
theorem eqHole_ok (x y : Hole) : Snd Try.prog F.laws_eqHole [eHole x, eHole y] (.bool (decide (x = y))) [] := by
  refine snd_by ck_laws_eqHole rfl rfl (den_W ?_)
  unfold ir_laws_eqHole rs_laws_eqHole
  simp
  by_cases h0 : x.a = y.a
  rotate_left
  · simp [h0]
    exact fun e => h0 (by rw [e])
  simp [h0]
  by_cases h1 : x.b = y.b
  rotate_left
  · simp [h1]
    exact fun e => h1 (by rw [e])
  simp [h1]
  cases x; cases y; simp_all
def ir_laws_toHoleS : L :=
  .seq (
  .reg [.mv 2 (.c (.nl))]) (
  .seq (
  .reg [.mv 5 (.t 0),
    .ln 6 (.t 5),
    .ms 7 2 16 [.int .i64 0, .int .i64 0] (.t 6),
    .mv 3 (.t 7)]) (
  .seq (
  .seq (
  .reg [.mv 4 (.c (.int .i64 0))]) (
  .blk 0 (
    .loop (
      .seq (
      .seq (
      .reg [.mv 8 (.t 4),
        .mv 9 (.t 0),
        .ln 10 (.t 9),
        .bi 11 .lss (.t 8) (.t 10)]) (
      .cond (.t 11) (
        .skip) (
        .exit 0))) (
      .seq (
      .blk 1 (
        .reg [.mv 14 (.t 3),
          .mv 15 (.t 4),
          .mv 16 (.t 0),
          .mv 17 (.t 4),
          .ia 18 (.t 16) (.t 17) 2,
          .ld 19 (.t 18) 2 true,
          .cq 20 F.laws_toHole [(.t 19)],
          .ia 21 (.t 14) (.t 15) 2,
          .st (.t 21) (.t 20) 2])) (
      .reg [.mv 12 (.t 4),
        .bi 13 .add (.t 12) (.c (.int .i64 1)),
        .mv 4 (.t 13)])))))) (
  .seq (
  .reg [.mv 22 (.t 3),
    .mv 2 (.t 22)]) (
  .ret))))
def rs_laws_toHoleS : List Rv := [.t 2]
theorem ck_laws_toHoleS : chkFn Try.prog F.laws_toHoleS 1 ir_laws_toHoleS rs_laws_toHoleS = true := by kernel_rfl
theorem toHoleS_ok (l : List Hole) (hl : l.length ≤ 1048576) : Snd Try.prog F.laws_toHoleS [.sl .rd 2 (l.map eHole)] (.sref 0) [⟨2, l.map eHole, false⟩] := by
  refine snd_by ck_laws_toHoleS rfl (by simp) (den_W ?_)
  unfold ir_laws_toHoleS rs_laws_toHoleS
  simp
  intro hlen
  refine ⟨by omega, by omega, W_loop (fun m s => ∃ i es, m = l.length - i ∧ i ≤ l.length ∧ s.e 0 = .sl .rd 2 (l.map eHole) ∧ s.e 3 = .sref 7 ∧ s.e 4 = .int .i64 (i : Nat) ∧
    s.rw 7 = some ⟨2, es, false⟩ ∧ es = (l.map eHole).take i ++ List.replicate (l.length - i) (.agg [.int .i64 0, .int .i64 0])) l.length ?_ ?_⟩
  · exact ⟨0, List.replicate l.length (.agg [.int .i64 0, .int .i64 0]), by simp⟩
  · rintro m s ⟨i, es, rfl, hi, h0, h3, h4, hr, he⟩
    by_cases h : i < l.length
    · obtain ⟨f1, f2, f3⟩ := fill_facts _ _ _ _ h he
      simp [h0, h3, h4, h]
      intro _
      refine do_cq (toHole_ok l[i]) (by simp [St.args]) ?_
      simp [h0, h3, h4, hr, h, f1, f2]
      refine ⟨l.length - (i + 1), by omega, i + 1, by simp, by omega, by simp [wrap_succ h hlen], by simpa using f3⟩
    · have : i = l.length := by omega
      subst this
      simp [h0, h3, h4]
      intro _
      refine post_ret [7] ?_
      simp [hr, he, List.take_of_length_le]
def ir_laws_eqHoleS : L :=
  .seq (
  .reg [.mv 4 (.c (.bool false))]) (
  .seq (
  .seq (
  .reg [.mv 6 (.t 0),
    .ln 7 (.t 6),
    .mv 8 (.t 1),
    .ln 9 (.t 8),
    .bi 10 .neq (.t 7) (.t 9)]) (
  .cond (.t 10) (
    .seq (
    .reg [.mv 4 (.c (.bool false))]) (
    .ret)) (
    .skip))) (
  .seq (
  .seq (
  .reg [.mv 5 (.c (.int .i64 0))]) (
  .blk 0 (
    .loop (
      .seq (
      .seq (
      .reg [.mv 11 (.t 5),
        .mv 12 (.t 0),
        .ln 13 (.t 12),
        .bi 14 .lss (.t 11) (.t 13)]) (
      .cond (.t 14) (
        .skip) (
        .exit 0))) (
      .seq (
      .blk 1 (
        .seq (
        .rq 10 [.mv 17 (.t 0),
          .mv 18 (.t 5),
          .ia 19 (.t 17) (.t 18) 2,
          .ld 20 (.t 19) 2 true,
          .mv 21 (.t 1),
          .mv 22 (.t 5),
          .ia 23 (.t 21) (.t 22) 2,
          .ld 24 (.t 23) 2 true,
          .cq 25 F.laws_eqHole [(.t 20), (.t 24)],
          .un 26 (.t 25)]) (
        .cond (.t 26) (
          .seq (
          .reg [.mv 4 (.c (.bool false))]) (
          .ret)) (
          .skip)))) (
      .reg [.mv 15 (.t 5),
        .bi 16 .add (.t 15) (.c (.int .i64 1)),
        .mv 5 (.t 16)])))))) (
  .seq (
  .reg [.mv 4 (.c (.bool true))]) (
  .ret))))
def rs_laws_eqHoleS : List Rv := [.t 4]
theorem ck_laws_eqHoleS : chkFn Try.prog F.laws_eqHoleS 2 ir_laws_eqHoleS rs_laws_eqHoleS = true := by kernel_rfl
theorem eqHoleS_ok (l k : List Hole) : Snd Try.prog F.laws_eqHoleS [.sl .rd 2 (l.map eHole), .sl .rd 2 (k.map eHole)] (.bool (decide (l = k))) [] := by
  refine snd_by ck_laws_eqHoleS rfl (by simp) (den_W ?_)
  unfold ir_laws_eqHoleS rs_laws_eqHoleS
  simp
  intro hl hk
  refine ⟨fun hne => fun e => hne (by rw [e]), fun hlen => ?_⟩
  refine W_loop (fun m s => ∃ i, m = l.length - i ∧ i ≤ l.length ∧ l.take i = k.take i ∧ s.e 0 = .sl .rd 2 (l.map eHole) ∧ s.e 1 = .sl .rd 2 (k.map eHole) ∧ s.e 5 = .int .i64 (i : Nat)) l.length ?_ ?_
  · exact ⟨0, by simp⟩
  · rintro m s ⟨i, rfl, hi, hu, h0, h1, h5⟩
    by_cases h : i < l.length
    · have hk' : i < k.length := by omega
      simp [h0, h1, h5, h, hk']
      intro _
      refine do_cq (eqHole_ok l[i] k[i]) (by simp [St.args]) ?_
      by_cases he : l[i] = k[i]
      · simp [he, h0, h1, h5]
        exact ⟨l.length - (i + 1), by omega, i + 1, by simp, by omega, by rw [List.take_succ_eq_append_getElem h, List.take_succ_eq_append_getElem hk', hu, he], by simp [wrap_succ h hl]⟩
      · simp [he]
        exact fun e => he (by subst e; rfl)
    · have : i = l.length := by omega
      subst this
      simp [h0, h5]
      intro _
      rw [List.take_of_length_le (Nat.le_refl _), List.take_of_length_le (by omega)] at hu
      exact hu
def ir_laws_szHoleS : L :=
  .seq (
  .reg [.mv 4 (.c (.int .i64 0))]) (
  .seq (
  .reg [.mv 5 (.t 1),
    .mv 6 (.t 0),
    .ln 7 (.t 6),
    .bi 8 .sub (.t 5) (.t 7),
    .mv 1 (.t 8)]) (
  .seq (
  .seq (
  .reg [.mv 9 (.t 1),
    .bi 10 .lss (.t 9) (.c (.int .i64 0))]) (
  .cond (.t 10) (
    .seq (
    .reg [.mv 4 (.c (.int .i64 (-1)))]) (
    .ret)) (
    .skip))) (
  .seq (
  .reg [.mv 11 (.t 1),
    .mv 4 (.t 11)]) (
  .ret))))
def rs_laws_szHoleS : List Rv := [.t 4]
theorem ck_laws_szHoleS : chkFn Try.prog F.laws_szHoleS 2 ir_laws_szHoleS rs_laws_szHoleS = true := by kernel_rfl
theorem szHoleS_ok (l : List Hole) (n : Int) (hn : n ≤ 1048576) (h0 : 0 ≤ n) : Snd Try.prog F.laws_szHoleS [.sl .rd 2 (l.map eHole), .int .i64 n] (.int .i64 (szr n l.length)) [] := by
  refine snd_by ck_laws_szHoleS rfl (by simp) (den_W ?_)
  unfold ir_laws_szHoleS rs_laws_szHoleS
  simp
  intro hl
  rw [wrap_id (by omega) (by omega)]
  unfold szr
  grind
def markHoles (k : Int) (n : Nat) : List Hole := (List.range n).map fun i => ⟨k + 2 * (i : Nat) + 0, k + 2 * (i : Nat) + 1⟩
def ir_laws_markHoleS : L :=
  .seq (
  .reg [.mv 4 (.c (.int .i64 0))]) (
  .seq (
  .seq (
  .reg [.mv 5 (.c (.int .i64 0))]) (
  .blk 0 (
    .loop (
      .seq (
      .seq (
      .reg [.mv 6 (.t 5),
        .mv 7 (.t 0),
        .ln 8 (.t 7),
        .bi 9 .lss (.t 6) (.t 8)]) (
      .cond (.t 9) (
        .skip) (
        .exit 0))) (
      .seq (
      .blk 1 (
        .seq (
        .reg [.mv 12 (.t 0),
          .mv 13 (.t 5),
          .mv 14 (.t 1),
          .ia 15 (.t 12) (.t 13) 2,
          .fa 16 (.t 15) 0,
          .st (.t 16) (.t 14) 1]) (
        .seq (
        .reg [.mv 17 (.t 1),
          .bi 18 .add (.t 17) (.c (.int .i64 1)),
          .mv 1 (.t 18)]) (
        .seq (
        .reg [.mv 19 (.t 0),
          .mv 20 (.t 5),
          .mv 21 (.t 1),
          .ia 22 (.t 19) (.t 20) 2,
          .fa 23 (.t 22) 1,
          .st (.t 23) (.t 21) 1]) (
        .reg [.mv 24 (.t 1),
          .bi 25 .add (.t 24) (.c (.int .i64 1)),
          .mv 1 (.t 25)]))))) (
      .reg [.mv 10 (.t 5),
        .bi 11 .add (.t 10) (.c (.int .i64 1)),
        .mv 5 (.t 11)])))))) (
  .seq (
  .reg [.mv 26 (.t 1),
    .mv 4 (.t 26)]) (
  .ret)))
def rs_laws_markHoleS : List Rv := [.t 4]
theorem ck_laws_markHoleS : chkFn Try.prog F.laws_markHoleS 2 ir_laws_markHoleS rs_laws_markHoleS = true := by kernel_rfl
theorem markHoleS_ok (l : List Hole) (k : Int) (h0 : 0 ≤ k) (h1 : k + 2 * l.length ≤ 4611686018427387904) :
    Con Try.prog F.laws_markHoleS [.sref 0, .int .i64 k] [] [⟨2, l.map eHole, false⟩] (ret1 (.int .i64 (k + 2 * l.length)) ((markHoles k l.length).map eHole)) := by
  refine con_by [true] ck_laws_markHoleS rfl (by simp) fun _ => den_W ?_
  unfold ir_laws_markHoleS rs_laws_markHoleS
  simp
  refine W_loop (fun m s => ∃ i es, m = l.length - i ∧ i ≤ l.length ∧ s.e 0 = .sref 1000000000 ∧ s.e 1 = .int .i64 (k + 2 * i) ∧ s.e 5 = .int .i64 (i : Nat) ∧
      s.rw 1000000000 = some ⟨2, es, false⟩ ∧ es = ((markHoles k l.length).map eHole).take i ++ (l.map eHole).drop i) l.length ?_ ?_
  · exact ⟨0, l.map eHole, by simp⟩
  · rintro m s ⟨i, es, rfl, hi, h0', h1', h5, hr, he⟩
    by_cases h : i < l.length
    · obtain ⟨f1, f2, f3, f4⟩ := mix_facts _ _ (by simp [markHoles]) i (by simpa using h) he
      simp at f1
      have w0 : IntKind.i64.wrap (k + 2 * (i : Int) + 1) = k + 2 * (i : Int) + 1 := by rw [wrap_id (by omega) (by omega)]
      have w1 : IntKind.i64.wrap (k + 2 * (i : Int) + 1 + 1) = k + 2 * (i : Int) + 2 := by rw [wrap_id (by omega) (by omega)]; omega
      simp [h0', h1', h5, hr, h, f1, f2]
      intro _
      refine ⟨l.length - (i + 1), by omega, i + 1, by simp, by omega, by simp [w0, w1]; omega, by simp; rw [wrap_id (by omega) (by omega)], ?_⟩
      simpa [markHoles, w0, w1] using f4
    · have : i = l.length := by omega
      subst this
      have hes : es = (markHoles k l.length).map eHole := by rw [he, List.take_of_length_le (by simp [markHoles]), List.drop_of_length_le (by simp), List.append_nil]
      have hel : es.length = l.length := by rw [hes]; simp [markHoles]
      simp [h0', h1', h5, hr, hel]
      intro _
      refine postC_ret [] [some es] [] [] ?_
      simp [hr, hes, ret1]
def ir_laws_heldHoleS : L :=
  .seq (
  .reg [.mv 4 (.c (.int .i64 0))]) (
  .seq (
  .seq (
  .reg [.mv 5 (.c (.int .i64 0))]) (
  .blk 0 (
    .loop (
      .seq (
      .seq (
      .reg [.mv 6 (.t 5),
        .mv 7 (.t 0),
        .ln 8 (.t 7),
        .bi 9 .lss (.t 6) (.t 8)]) (
      .cond (.t 9) (
        .skip) (
        .exit 0))) (
      .seq (
      .blk 1 (
        .seq (
        .seq (
        .reg [.mv 12 (.t 0),
          .mv 13 (.t 5),
          .ia 14 (.t 12) (.t 13) 2,
          .fa 15 (.t 14) 0,
          .ld 16 (.t 15) 1 false,
          .mv 17 (.t 1),
          .bi 18 .neq (.t 16) (.t 17)]) (
        .cond (.t 18) (
          .seq (
          .reg [.mv 4 (.c (.int .i64 (-1)))]) (
          .ret)) (
          .skip))) (
        .seq (
        .reg [.mv 19 (.t 1),
          .bi 20 .add (.t 19) (.c (.int .i64 1)),
          .mv 1 (.t 20)]) (
        .seq (
        .seq (
        .reg [.mv 21 (.t 0),
          .mv 22 (.t 5),
          .ia 23 (.t 21) (.t 22) 2,
          .fa 24 (.t 23) 1,
          .ld 25 (.t 24) 1 false,
          .mv 26 (.t 1),
          .bi 27 .neq (.t 25) (.t 26)]) (
        .cond (.t 27) (
          .seq (
          .reg [.mv 4 (.c (.int .i64 (-1)))]) (
          .ret)) (
          .skip))) (
        .reg [.mv 28 (.t 1),
          .bi 29 .add (.t 28) (.c (.int .i64 1)),
          .mv 1 (.t 29)]))))) (
      .reg [.mv 10 (.t 5),
        .bi 11 .add (.t 10) (.c (.int .i64 1)),
        .mv 5 (.t 11)])))))) (
  .seq (
  .reg [.mv 30 (.t 1),
    .mv 4 (.t 30)]) (
  .ret)))
def rs_laws_heldHoleS : List Rv := [.t 4]
theorem ck_laws_heldHoleS : chkFn Try.prog F.laws_heldHoleS 2 ir_laws_heldHoleS rs_laws_heldHoleS = true := by kernel_rfl
theorem heldHoleS_ok (n : Nat) (k : Int) (h0 : 0 ≤ k) (h1 : k + 2 * n ≤ 4611686018427387904) :
    Snd Try.prog F.laws_heldHoleS [.sl .rd 2 ((markHoles k n).map eHole), .int .i64 k] (.int .i64 (k + 2 * n)) [] := by
  refine snd_by ck_laws_heldHoleS rfl (by simp) (den_W ?_)
  unfold ir_laws_heldHoleS rs_laws_heldHoleS
  have hlen : (markHoles k n).length = n := by simp [markHoles]
  have hget : ∀ i (h : i < (markHoles k n).length), (markHoles k n)[i] = ⟨k + 2 * (i : Nat) + 0, k + 2 * (i : Nat) + 1⟩ := by intro i h; simp [markHoles]
  generalize markHoles k n = l at hlen hget
  simp
  refine W_loop (fun m s => ∃ i, m = n - i ∧ i ≤ n ∧ s.e 0 = .sl .rd 2 (l.map eHole) ∧ s.e 1 = .int .i64 (k + 2 * i) ∧ s.e 5 = .int .i64 (i : Nat)) n ?_ ?_
  · exact ⟨0, by simp⟩
  · rintro m s ⟨i, rfl, hi, h0', h1', h5⟩
    by_cases h : i < n
    · have hi' : i < l.length := by omega
      have w0 : IntKind.i64.wrap (k + 2 * (i : Int) + 1) = k + 2 * (i : Int) + 1 := by rw [wrap_id (by omega) (by omega)]
      have w1 : IntKind.i64.wrap (k + 2 * (i : Int) + 1 + 1) = k + 2 * (i : Int) + 2 := by rw [wrap_id (by omega) (by omega)]; omega
      simp [h0', h1', h5, h, hlen, hget, w0, w1]
      intro _
      exact ⟨n - (i + 1), by omega, i + 1, rfl, by omega, by omega, by rw [wrap_id (by omega) (by omega)]; omega⟩
    · have : i = n := by omega
      subst this
      simp [h0', h1', h5, hlen]
end Go.Proofs.Ythbbieobcokgbaa
