/-
  The law's helpers, printed by a program of mine (tygen.py).
-/
import Derived.Test.YthbbieobcokgbaaTyVec
namespace Go.Proofs.Ythbbieobcokgbaa
open Go Go.RowKit Eng
structure Pt where
  t : Int
  free : Vec
  deriving DecidableEq
@[simp] def ePt (x : Pt) : AV := .agg [.int .i64 x.t, .int .i64 x.free.a, .int .i64 x.free.b, .int .i64 x.free.c]
@[simp] theorem rdt_PtS (l : List Pt) : rdtL (l.map ePt) = l.map ePt := rdtL_enc _ (fun _ => rfl) l
@[simp] theorem nw_PtS (l : List Pt) : NwL (l.map ePt) := NwL_enc _ (fun _ => by simp) l
def tyPt : Ty := .st [.int .i64, tyVec]
theorem Pt_of {x : AV} (h : tyPt.okV x) : ∃ y, x = ePt y := by
  obtain ⟨cs, rfl, h⟩ := h
  simp only [tyVec, Ty.ok, okL] at h
  obtain ⟨_, _, rfl, ⟨x_t, rfl, _⟩, ⟨_, _, rfl, ⟨_, _, rfl, ⟨x_free_a, rfl, _⟩, ⟨_, _, rfl, ⟨x_free_b, rfl, _⟩, ⟨_, _, rfl, ⟨x_free_c, rfl, _⟩, rfl⟩⟩⟩, rfl⟩⟩ := h
  exact ⟨⟨x_t, ⟨x_free_a, x_free_b, x_free_c⟩⟩, rfl⟩
theorem PtS_of {a : AV} (h : (Ty.sl tyPt).okV a) : ∃ l : List Pt, AV.wkA (fun _ => False) a (.sl .rd 4 (l.map ePt)) := by
  simp only [Ty.okV, Ty.ok] at h
  rcases h with h | ⟨es, h, _, h2⟩
  · exact ⟨[], by rw [(List.cons.inj h).1]; simp⟩
  · obtain ⟨l, rfl⟩ := list_of ePt fun x hx => by
      obtain ⟨_, h3, h4⟩ := h2 x hx
      simp only [tyPt, Ty.isSt, if_true] at h3
      obtain ⟨cs, rfl⟩ := h3
      exact Pt_of ⟨cs, rfl, by simpa [AV.cells, tyPt, Ty.ok] using h4⟩
    exact ⟨l, by rw [(List.cons.inj h).1]; simp [tyPt, Ty.size, sizeL, tyVec]⟩
def ir_laws_toPt : L :=
  .seq (
  .reg [.bx 1 (.t 0),
    .al 2 [.int .i64 0, .int .i64 0, .int .i64 0, .int .i64 0]]) (
  .seq (
  .reg [.al 3 [.int .i64 0, .int .i64 0, .int .i64 0, .int .i64 0]]) (
  .seq (
  .reg [.fa 4 (.t 1) 0,
    .ld 5 (.t 4) 1 false,
    .fa 6 (.t 3) 0,
    .st (.t 6) (.t 5) 1]) (
  .seq (
  .reg [.fa 7 (.t 1) 1,
    .ld 8 (.t 7) 3 true,
    .cq 9 F.laws_toVec [(.t 8)],
    .fa 10 (.t 3) 1,
    .st (.t 10) (.t 9) 3]) (
  .seq (
  .reg [.ld 11 (.t 3) 4 true,
    .st (.t 2) (.t 11) 4]) (
  .ret)))))
def rs_laws_toPt : List Rv := [.c 2 4 true]
theorem ck_laws_toPt : chkFn Try.prog F.laws_toPt 1 ir_laws_toPt rs_laws_toPt = true := by kernel_rfl
theorem toPt_ok (x : Pt) : Snd Try.prog F.laws_toPt [ePt x] (ePt x) [] := by
  refine snd_by ck_laws_toPt rfl rfl (den_W ?_)
  unfold ir_laws_toPt rs_laws_toPt
  simp
  refine do_cq (toVec_ok x.free) (by simp [St.args]) ?_
  simp
def ir_laws_eqPt : L :=
  .seq (
  .reg [.bx 2 (.t 0),
    .bx 3 (.t 1),
    .mv 4 (.c (.bool false))]) (
  .seq (
  .seq (
  .reg [.fa 5 (.t 2) 0,
    .ld 6 (.t 5) 1 false,
    .fa 7 (.t 3) 0,
    .ld 8 (.t 7) 1 false,
    .bi 9 .neq (.t 6) (.t 8)]) (
  .cond (.t 9) (
    .seq (
    .reg [.mv 4 (.c (.bool false))]) (
    .ret)) (
    .skip))) (
  .seq (
  .seq (
  .reg [.fa 10 (.t 2) 1,
    .ld 11 (.t 10) 3 true,
    .fa 12 (.t 3) 1,
    .ld 13 (.t 12) 3 true,
    .cq 14 F.laws_eqVec [(.t 11), (.t 13)],
    .un 15 (.t 14)]) (
  .cond (.t 15) (
    .seq (
    .reg [.mv 4 (.c (.bool false))]) (
    .ret)) (
    .skip))) (
  .seq (
  .reg [.mv 4 (.c (.bool true))]) (
  .ret))))
def rs_laws_eqPt : List Rv := [.t 4]
theorem ck_laws_eqPt : chkFn Try.prog F.laws_eqPt 2 ir_laws_eqPt rs_laws_eqPt = true := by kernel_rfl
theorem eqPt_ok (x y : Pt) : Snd Try.prog F.laws_eqPt [ePt x, ePt y] (.bool (decide (x = y))) [] := by
  refine snd_by ck_laws_eqPt rfl rfl (den_W ?_)
  unfold ir_laws_eqPt rs_laws_eqPt
  simp
  by_cases h0 : x.t = y.t
  rotate_left
  · simp [h0]
    exact fun e => h0 (by rw [e])
  simp [h0]
  refine do_cq (eqVec_ok x.free y.free) (by simp [St.args]) ?_
  by_cases h1 : x.free = y.free
  rotate_left
  · simp [h1]
    exact fun e => h1 (by rw [e])
  simp [h1]
  cases x; cases y; simp_all
def ir_laws_toPtS : L :=
  .seq (
  .reg [.mv 2 (.c (.nl))]) (
  .seq (
  .reg [.mv 5 (.t 0),
    .ln 6 (.t 5),
    .ms 7 4 32 [.int .i64 0, .int .i64 0, .int .i64 0, .int .i64 0] (.t 6),
    .mv 3 (.t 7)]) (
  .seq (
  .seq (
  .reg [.mv 4 (.c (.int .i64 0))]) (
  .blk 0 (
    .loop (
      .seq (
      .seq (
      .reg [.mv 8 (.t 4),
        .mv 9 (.t 0),
        .ln 10 (.t 9),
        .bi 11 .lss (.t 8) (.t 10)]) (
      .cond (.t 11) (
        .skip) (
        .exit 0))) (
      .seq (
      .blk 1 (
        .reg [.mv 14 (.t 3),
          .mv 15 (.t 4),
          .mv 16 (.t 0),
          .mv 17 (.t 4),
          .ia 18 (.t 16) (.t 17) 4,
          .ld 19 (.t 18) 4 true,
          .cq 20 F.laws_toPt [(.t 19)],
          .ia 21 (.t 14) (.t 15) 4,
          .st (.t 21) (.t 20) 4])) (
      .reg [.mv 12 (.t 4),
        .bi 13 .add (.t 12) (.c (.int .i64 1)),
        .mv 4 (.t 13)])))))) (
  .seq (
  .reg [.mv 22 (.t 3),
    .mv 2 (.t 22)]) (
  .ret))))
def rs_laws_toPtS : List Rv := [.t 2]
theorem ck_laws_toPtS : chkFn Try.prog F.laws_toPtS 1 ir_laws_toPtS rs_laws_toPtS = true := by kernel_rfl
set_option maxRecDepth 10000 in
theorem toPtS_ok (l : List Pt) (hl : l.length ≤ 1048576) : Snd Try.prog F.laws_toPtS [.sl .rd 4 (l.map ePt)] (.sref 0) [⟨4, l.map ePt, false⟩] := by
  refine snd_by ck_laws_toPtS rfl (by simp) (den_W ?_)
  unfold ir_laws_toPtS rs_laws_toPtS
  simp
  intro hlen
  refine ⟨by omega, by omega, W_loop (fun m s => ∃ i es, m = l.length - i ∧ i ≤ l.length ∧ s.e 0 = .sl .rd 4 (l.map ePt) ∧ s.e 3 = .sref 7 ∧ s.e 4 = .int .i64 (i : Nat) ∧
    s.rw 7 = some ⟨4, es, false⟩ ∧ es = (l.map ePt).take i ++ List.replicate (l.length - i) (.agg [.int .i64 0, .int .i64 0, .int .i64 0, .int .i64 0])) l.length ?_ ?_⟩
  · exact ⟨0, List.replicate l.length (.agg [.int .i64 0, .int .i64 0, .int .i64 0, .int .i64 0]), by simp⟩
  · rintro m s ⟨i, es, rfl, hi, h0, h3, h4, hr, he⟩
    by_cases h : i < l.length
    · obtain ⟨f1, f2, f3⟩ := fill_facts _ _ _ _ h he
      simp [h0, h3, h4, h]
      intro _
      refine do_cq (toPt_ok l[i]) (by simp [St.args]) ?_
      simp [h0, h3, h4, hr, h, f1, f2]
      refine ⟨l.length - (i + 1), by omega, i + 1, by simp, by omega, by simp [wrap_succ h hlen], by simpa using f3⟩
    · have : i = l.length := by omega
      subst this
      simp [h0, h3, h4]
      intro _
      refine post_ret [7] ?_
      simp [hr, he, List.take_of_length_le]
def ir_laws_eqPtS : L :=
  .seq (
  .reg [.mv 4 (.c (.bool false))]) (
  .seq (
  .seq (
  .reg [.mv 6 (.t 0),
    .ln 7 (.t 6),
    .mv 8 (.t 1),
    .ln 9 (.t 8),
    .bi 10 .neq (.t 7) (.t 9)]) (
  .cond (.t 10) (
    .seq (
    .reg [.mv 4 (.c (.bool false))]) (
    .ret)) (
    .skip))) (
  .seq (
  .seq (
  .reg [.mv 5 (.c (.int .i64 0))]) (
  .blk 0 (
    .loop (
      .seq (
      .seq (
      .reg [.mv 11 (.t 5),
        .mv 12 (.t 0),
        .ln 13 (.t 12),
        .bi 14 .lss (.t 11) (.t 13)]) (
      .cond (.t 14) (
        .skip) (
        .exit 0))) (
      .seq (
      .blk 1 (
        .seq (
        .rq 10 [.mv 17 (.t 0),
          .mv 18 (.t 5),
          .ia 19 (.t 17) (.t 18) 4,
          .ld 20 (.t 19) 4 true,
          .mv 21 (.t 1),
          .mv 22 (.t 5),
          .ia 23 (.t 21) (.t 22) 4,
          .ld 24 (.t 23) 4 true,
          .cq 25 F.laws_eqPt [(.t 20), (.t 24)],
          .un 26 (.t 25)]) (
        .cond (.t 26) (
          .seq (
          .reg [.mv 4 (.c (.bool false))]) (
          .ret)) (
          .skip)))) (
      .reg [.mv 15 (.t 5),
        .bi 16 .add (.t 15) (.c (.int .i64 1)),
        .mv 5 (.t 16)])))))) (
  .seq (
  .reg [.mv 4 (.c (.bool true))]) (
  .ret))))
def rs_laws_eqPtS : List Rv := [.t 4]
theorem ck_laws_eqPtS : chkFn Try.prog F.laws_eqPtS 2 ir_laws_eqPtS rs_laws_eqPtS = true := by kernel_rfl
theorem eqPtS_ok (l k : List Pt) : Snd Try.prog F.laws_eqPtS [.sl .rd 4 (l.map ePt), .sl .rd 4 (k.map ePt)] (.bool (decide (l = k))) [] := by
  refine snd_by ck_laws_eqPtS rfl (by simp) (den_W ?_)
  unfold ir_laws_eqPtS rs_laws_eqPtS
  simp
  intro hl hk
  refine ⟨fun hne => fun e => hne (by rw [e]), fun hlen => ?_⟩
  refine W_loop (fun m s => ∃ i, m = l.length - i ∧ i ≤ l.length ∧ l.take i = k.take i ∧ s.e 0 = .sl .rd 4 (l.map ePt) ∧ s.e 1 = .sl .rd 4 (k.map ePt) ∧ s.e 5 = .int .i64 (i : Nat)) l.length ?_ ?_
  · exact ⟨0, by simp⟩
  · rintro m s ⟨i, rfl, hi, hu, h0, h1, h5⟩
    by_cases h : i < l.length
    · have hk' : i < k.length := by omega
      simp [h0, h1, h5, h, hk']
      intro _
      refine do_cq (eqPt_ok l[i] k[i]) (by simp [St.args]) ?_
      by_cases he : l[i] = k[i]
      · simp [he, h0, h1, h5]
        exact ⟨l.length - (i + 1), by omega, i + 1, by simp, by omega, by rw [List.take_succ_eq_append_getElem h, List.take_succ_eq_append_getElem hk', hu, he], by simp [wrap_succ h hl]⟩
      · simp [he]
        exact fun e => he (by subst e; rfl)
    · have : i = l.length := by omega
      subst this
      simp [h0, h5]
      intro _
      rw [List.take_of_length_le (Nat.le_refl _), List.take_of_length_le (by omega)] at hu
      exact hu
def ir_laws_szPtS : L :=
  .seq (
  .reg [.mv 4 (.c (.int .i64 0))]) (
  .seq (
  .reg [.mv 5 (.t 1),
    .mv 6 (.t 0),
    .ln 7 (.t 6),
    .bi 8 .sub (.t 5) (.t 7),
    .mv 1 (.t 8)]) (
  .seq (
  .seq (
  .reg [.mv 9 (.t 1),
    .bi 10 .lss (.t 9) (.c (.int .i64 0))]) (
  .cond (.t 10) (
    .seq (
    .reg [.mv 4 (.c (.int .i64 (-1)))]) (
    .ret)) (
    .skip))) (
  .seq (
  .reg [.mv 11 (.t 1),
    .mv 4 (.t 11)]) (
  .ret))))
def rs_laws_szPtS : List Rv := [.t 4]
theorem ck_laws_szPtS : chkFn Try.prog F.laws_szPtS 2 ir_laws_szPtS rs_laws_szPtS = true := by kernel_rfl
theorem szPtS_ok (l : List Pt) (n : Int) (hn : n ≤ 1048576) (h0 : 0 ≤ n) : Snd Try.prog F.laws_szPtS [.sl .rd 4 (l.map ePt), .int .i64 n] (.int .i64 (szr n l.length)) [] := by
  refine snd_by ck_laws_szPtS rfl (by simp) (den_W ?_)
  unfold ir_laws_szPtS rs_laws_szPtS
  simp
  intro hl
  rw [wrap_id (by omega) (by omega)]
  unfold szr
  grind
def markPts (k : Int) (n : Nat) : List Pt := (List.range n).map fun i => ⟨k + 4 * (i : Nat) + 0, ⟨k + 4 * (i : Nat) + 1, k + 4 * (i : Nat) + 2, k + 4 * (i : Nat) + 3⟩⟩
def ir_laws_markPtS : L :=
  .seq (
  .reg [.mv 4 (.c (.int .i64 0))]) (
  .seq (
  .seq (
  .reg [.mv 5 (.c (.int .i64 0))]) (
  .blk 0 (
    .loop (
      .seq (
      .seq (
      .reg [.mv 6 (.t 5),
        .mv 7 (.t 0),
        .ln 8 (.t 7),
        .bi 9 .lss (.t 6) (.t 8)]) (
      .cond (.t 9) (
        .skip) (
        .exit 0))) (
      .seq (
      .blk 1 (
        .seq (
        .reg [.mv 12 (.t 0),
          .mv 13 (.t 5),
          .mv 14 (.t 1),
          .ia 15 (.t 12) (.t 13) 4,
          .fa 16 (.t 15) 0,
          .st (.t 16) (.t 14) 1]) (
        .seq (
        .reg [.mv 17 (.t 1),
          .bi 18 .add (.t 17) (.c (.int .i64 1)),
          .mv 1 (.t 18)]) (
        .seq (
        .reg [.mv 19 (.t 0),
          .mv 20 (.t 5),
          .mv 21 (.t 1),
          .ia 22 (.t 19) (.t 20) 4,
          .fa 23 (.t 22) 1,
          .fa 24 (.t 23) 0,
          .st (.t 24) (.t 21) 1]) (
        .seq (
        .reg [.mv 25 (.t 1),
          .bi 26 .add (.t 25) (.c (.int .i64 1)),
          .mv 1 (.t 26)]) (
        .seq (
        .reg [.mv 27 (.t 0),
          .mv 28 (.t 5),
          .mv 29 (.t 1),
          .ia 30 (.t 27) (.t 28) 4,
          .fa 31 (.t 30) 1,
          .fa 32 (.t 31) 1,
          .st (.t 32) (.t 29) 1]) (
        .seq (
        .reg [.mv 33 (.t 1),
          .bi 34 .add (.t 33) (.c (.int .i64 1)),
          .mv 1 (.t 34)]) (
        .seq (
        .reg [.mv 35 (.t 0),
          .mv 36 (.t 5),
          .mv 37 (.t 1),
          .ia 38 (.t 35) (.t 36) 4,
          .fa 39 (.t 38) 1,
          .fa 40 (.t 39) 2,
          .st (.t 40) (.t 37) 1]) (
        .reg [.mv 41 (.t 1),
          .bi 42 .add (.t 41) (.c (.int .i64 1)),
          .mv 1 (.t 42)]))))))))) (
      .reg [.mv 10 (.t 5),
        .bi 11 .add (.t 10) (.c (.int .i64 1)),
        .mv 5 (.t 11)])))))) (
  .seq (
  .reg [.mv 43 (.t 1),
    .mv 4 (.t 43)]) (
  .ret)))
def rs_laws_markPtS : List Rv := [.t 4]
theorem ck_laws_markPtS : chkFn Try.prog F.laws_markPtS 2 ir_laws_markPtS rs_laws_markPtS = true := by kernel_rfl
set_option maxRecDepth 10000 in
theorem markPtS_ok (l : List Pt) (k : Int) (h0 : 0 ≤ k) (h1 : k + 4 * l.length ≤ 4611686018427387904) :
    Con Try.prog F.laws_markPtS [.sref 0, .int .i64 k] [] [⟨4, l.map ePt, false⟩] (ret1 (.int .i64 (k + 4 * l.length)) ((markPts k l.length).map ePt)) := by
  refine con_by [true] ck_laws_markPtS rfl (by simp) fun _ => den_W ?_
  unfold ir_laws_markPtS rs_laws_markPtS
  simp
  refine W_loop (fun m s => ∃ i es, m = l.length - i ∧ i ≤ l.length ∧ s.e 0 = .sref 1000000000 ∧ s.e 1 = .int .i64 (k + 4 * i) ∧ s.e 5 = .int .i64 (i : Nat) ∧
      s.rw 1000000000 = some ⟨4, es, false⟩ ∧ es = ((markPts k l.length).map ePt).take i ++ (l.map ePt).drop i) l.length ?_ ?_
  · exact ⟨0, l.map ePt, by simp⟩
  · rintro m s ⟨i, es, rfl, hi, h0', h1', h5, hr, he⟩
    by_cases h : i < l.length
    · obtain ⟨f1, f2, f3, f4⟩ := mix_facts _ _ (by simp [markPts]) i (by simpa using h) he
      simp at f1
      have w0 : IntKind.i64.wrap (k + 4 * (i : Int) + 1) = k + 4 * (i : Int) + 1 := by rw [wrap_id (by omega) (by omega)]
      have w1 : IntKind.i64.wrap (k + 4 * (i : Int) + 1 + 1) = k + 4 * (i : Int) + 2 := by rw [wrap_id (by omega) (by omega)]; omega
      have w2 : IntKind.i64.wrap (k + 4 * (i : Int) + 2 + 1) = k + 4 * (i : Int) + 3 := by rw [wrap_id (by omega) (by omega)]; omega
      have w3 : IntKind.i64.wrap (k + 4 * (i : Int) + 3 + 1) = k + 4 * (i : Int) + 4 := by rw [wrap_id (by omega) (by omega)]; omega
      simp [h0', h1', h5, hr, h, f1, f2]
      intro _
      refine ⟨l.length - (i + 1), by omega, i + 1, by simp, by omega, by simp [w0, w1, w2, w3]; omega, by simp; rw [wrap_id (by omega) (by omega)], ?_⟩
      simpa [markPts, w0, w1, w2, w3] using f4
    · have : i = l.length := by omega
      subst this
      have hes : es = (markPts k l.length).map ePt := by rw [he, List.take_of_length_le (by simp [markPts]), List.drop_of_length_le (by simp), List.append_nil]
      have hel : es.length = l.length := by rw [hes]; simp [markPts]
      simp [h0', h1', h5, hr, hel]
      intro _
      refine postC_ret [] [some es] [] [] ?_
      simp [hr, hes, ret1]
end Go.Proofs.Ythbbieobcokgbaa
