/-
  The law's helpers, printed by a program of mine (tygen.py).
-/
import Derived.Test.YthbbieobcokgbaaMarkT
namespace Go.Proofs.Ythbbieobcokgbaa
open Go Go.RowKit Eng
structure Term where
  field : Str
  op : Str
  n : Int
  deriving DecidableEq
@[simp] def eTerm (x : Term) : AV := .agg [.str x.field, .str x.op, .int .i64 x.n]
@[simp] theorem rdt_TermS (l : List Term) : rdtL (l.map eTerm) = l.map eTerm := rdtL_enc _ (fun _ => rfl) l
@[simp] theorem nw_TermS (l : List Term) : NwL (l.map eTerm) := NwL_enc _ (fun _ => by simp) l
def tyTerm : Ty := .st [.str, .str, .int .i64]
theorem Term_of {x : AV} (h : tyTerm.okV x) : ∃ y, x = eTerm y := by
  obtain ⟨cs, rfl, h⟩ := h
  simp only [Ty.ok, okL] at h
  obtain ⟨_, _, rfl, ⟨x_field, rfl, _⟩, ⟨_, _, rfl, ⟨x_op, rfl, _⟩, ⟨_, _, rfl, ⟨x_n, rfl, _⟩, rfl⟩⟩⟩ := h
  exact ⟨⟨x_field, x_op, x_n⟩, rfl⟩
theorem TermS_of {a : AV} (h : (Ty.sl tyTerm).okV a) : ∃ l : List Term, AV.wkA (fun _ => False) a (.sl .rd 3 (l.map eTerm)) := by
  simp only [Ty.okV, Ty.ok] at h
  rcases h with h | ⟨es, h, _, h2⟩
  · exact ⟨[], by rw [(List.cons.inj h).1]; simp⟩
  · obtain ⟨l, rfl⟩ := list_of eTerm fun x hx => by
      obtain ⟨_, h3, h4⟩ := h2 x hx
      simp only [tyTerm, Ty.isSt, if_true] at h3
      obtain ⟨cs, rfl⟩ := h3
      exact Term_of ⟨cs, rfl, by simpa [AV.cells, tyTerm, Ty.ok] using h4⟩
    exact ⟨l, by rw [(List.cons.inj h).1]; simp [tyTerm, Ty.size, sizeL]⟩
def ir_laws_toTerm : L :=
  .seq (
  .reg [.bx 1 (.t 0),
    .al 2 [.str [], .str [], .int .i64 0]]) (
  .seq (
  .reg [.al 3 [.str [], .str [], .int .i64 0]]) (
  .seq (
  .reg [.fa 4 (.t 1) 0,
    .ld 5 (.t 4) 1 false,
    .fa 6 (.t 3) 0,
    .st (.t 6) (.t 5) 1]) (
  .seq (
  .reg [.fa 7 (.t 1) 1,
    .ld 8 (.t 7) 1 false,
    .fa 9 (.t 3) 1,
    .st (.t 9) (.t 8) 1]) (
  .seq (
  .reg [.fa 10 (.t 1) 2,
    .ld 11 (.t 10) 1 false,
    .fa 12 (.t 3) 2,
    .st (.t 12) (.t 11) 1]) (
  .seq (
  .reg [.ld 13 (.t 3) 3 true,
    .st (.t 2) (.t 13) 3]) (
  .ret))))))
def rs_laws_toTerm : List Rv := [.c 2 3 true]
theorem ck_laws_toTerm : chkFn Try.prog F.laws_toTerm 1 ir_laws_toTerm rs_laws_toTerm = true := by kernel_rfl
theorem toTerm_ok (x : Term) : Snd Try.prog F.laws_toTerm [eTerm x] (eTerm x) [] := by
  refine snd_by ck_laws_toTerm rfl rfl (den_W ?_)
  unfold ir_laws_toTerm rs_laws_toTerm
  simp
def ir_laws_eqTerm : L :=
  .seq (
  .reg [.bx 2 (.t 0),
    .bx 3 (.t 1),
    .mv 4 (.c (.bool false))]) (
  .seq (
  .seq (
  .reg [.fa 5 (.t 2) 0,
    .ld 6 (.t 5) 1 false,
    .fa 7 (.t 3) 0,
    .ld 8 (.t 7) 1 false,
    .bi 9 .neq (.t 6) (.t 8)]) (
  .cond (.t 9) (
    .seq (
    .reg [.mv 4 (.c (.bool false))]) (
    .ret)) (
    .skip))) (
  .seq (
  .seq (
  .reg [.fa 10 (.t 2) 1,
    .ld 11 (.t 10) 1 false,
    .fa 12 (.t 3) 1,
    .ld 13 (.t 12) 1 false,
    .bi 14 .neq (.t 11) (.t 13)]) (
  .cond (.t 14) (
    .seq (
    .reg [.mv 4 (.c (.bool false))]) (
    .ret)) (
    .skip))) (
  .seq (
  .seq (
  .reg [.fa 15 (.t 2) 2,
    .ld 16 (.t 15) 1 false,
    .fa 17 (.t 3) 2,
    .ld 18 (.t 17) 1 false,
    .bi 19 .neq (.t 16) (.t 18)]) (
  .cond (.t 19) (
    .seq (
    .reg [.mv 4 (.c (.bool false))]) (
    .ret)) (
    .skip))) (
  .seq (
  .reg [.mv 4 (.c (.bool true))]) (
  .ret)))))
def rs_laws_eqTerm : List Rv := [.t 4]
theorem ck_laws_eqTerm : chkFn Try.prog F.laws_eqTerm 2 ir_laws_eqTerm rs_laws_eqTerm = true := by kernel_rfl
theorem eqTerm_ok (x y : Term) : Snd Try.prog F.laws_eqTerm [eTerm x, eTerm y] (.bool (decide (x = y))) [] := by
  refine snd_by ck_laws_eqTerm rfl rfl (den_W ?_)
  unfold ir_laws_eqTerm rs_laws_eqTerm
  simp
  by_cases h0 : x.field = y.field
  rotate_left
  · simp [h0]
    exact fun e => h0 (by rw [e])
  simp [h0]
  by_cases h1 : x.op = y.op
  rotate_left
  · simp [h1]
    exact fun e => h1 (by rw [e])
  simp [h1]
  by_cases h2 : x.n = y.n
  rotate_left
  · simp [h2]
    exact fun e => h2 (by rw [e])
  simp [h2]
  cases x; cases y; simp_all
def ir_laws_toTermS : L :=
  .seq (
  .reg [.mv 2 (.c (.nl))]) (
  .seq (
  .reg [.mv 5 (.t 0),
    .ln 6 (.t 5),
    .ms 7 3 40 [.str [], .str [], .int .i64 0] (.t 6),
    .mv 3 (.t 7)]) (
  .seq (
  .seq (
  .reg [.mv 4 (.c (.int .i64 0))]) (
  .blk 0 (
    .loop (
      .seq (
      .seq (
      .reg [.mv 8 (.t 4),
        .mv 9 (.t 0),
        .ln 10 (.t 9),
        .bi 11 .lss (.t 8) (.t 10)]) (
      .cond (.t 11) (
        .skip) (
        .exit 0))) (
      .seq (
      .blk 1 (
        .reg [.mv 14 (.t 3),
          .mv 15 (.t 4),
          .mv 16 (.t 0),
          .mv 17 (.t 4),
          .ia 18 (.t 16) (.t 17) 3,
          .ld 19 (.t 18) 3 true,
          .cq 20 F.laws_toTerm [(.t 19)],
          .ia 21 (.t 14) (.t 15) 3,
          .st (.t 21) (.t 20) 3])) (
      .reg [.mv 12 (.t 4),
        .bi 13 .add (.t 12) (.c (.int .i64 1)),
        .mv 4 (.t 13)])))))) (
  .seq (
  .reg [.mv 22 (.t 3),
    .mv 2 (.t 22)]) (
  .ret))))
def rs_laws_toTermS : List Rv := [.t 2]
theorem ck_laws_toTermS : chkFn Try.prog F.laws_toTermS 1 ir_laws_toTermS rs_laws_toTermS = true := by kernel_rfl
set_option maxRecDepth 10000 in
theorem toTermS_ok (l : List Term) (hl : l.length ≤ 1048576) : Snd Try.prog F.laws_toTermS [.sl .rd 3 (l.map eTerm)] (.sref 0) [⟨3, l.map eTerm, false⟩] := by
  refine snd_by ck_laws_toTermS rfl (by simp) (den_W ?_)
  unfold ir_laws_toTermS rs_laws_toTermS
  simp
  intro hlen
  refine ⟨by omega, by omega, W_loop (fun m s => ∃ i es, m = l.length - i ∧ i ≤ l.length ∧ s.e 0 = .sl .rd 3 (l.map eTerm) ∧ s.e 3 = .sref 7 ∧ s.e 4 = .int .i64 (i : Nat) ∧
    s.rw 7 = some ⟨3, es, false⟩ ∧ es = (l.map eTerm).take i ++ List.replicate (l.length - i) (.agg [.str [], .str [], .int .i64 0])) l.length ?_ ?_⟩
  · exact ⟨0, List.replicate l.length (.agg [.str [], .str [], .int .i64 0]), by simp⟩
  · rintro m s ⟨i, es, rfl, hi, h0, h3, h4, hr, he⟩
    by_cases h : i < l.length
    · obtain ⟨f1, f2, f3⟩ := fill_facts _ _ _ _ h he
      simp [h0, h3, h4, h]
      intro _
      refine do_cq (toTerm_ok l[i]) (by simp [St.args]) ?_
      simp [h0, h3, h4, hr, h, f1, f2]
      refine ⟨l.length - (i + 1), by omega, i + 1, by simp, by omega, by simp [wrap_succ h hlen], by simpa using f3⟩
    · have : i = l.length := by omega
      subst this
      simp [h0, h3, h4]
      intro _
      refine post_ret [7] ?_
      simp [hr, he, List.take_of_length_le]
def ir_laws_eqTermS : L :=
  .seq (
  .reg [.mv 4 (.c (.bool false))]) (
  .seq (
  .seq (
  .reg [.mv 6 (.t 0),
    .ln 7 (.t 6),
    .mv 8 (.t 1),
    .ln 9 (.t 8),
    .bi 10 .neq (.t 7) (.t 9)]) (
  .cond (.t 10) (
    .seq (
    .reg [.mv 4 (.c (.bool false))]) (
    .ret)) (
    .skip))) (
  .seq (
  .seq (
  .reg [.mv 5 (.c (.int .i64 0))]) (
  .blk 0 (
    .loop (
      .seq (
      .seq (
      .reg [.mv 11 (.t 5),
        .mv 12 (.t 0),
        .ln 13 (.t 12),
        .bi 14 .lss (.t 11) (.t 13)]) (
      .cond (.t 14) (
        .skip) (
        .exit 0))) (
      .seq (
      .blk 1 (
        .seq (
        .rq 10 [.mv 17 (.t 0),
          .mv 18 (.t 5),
          .ia 19 (.t 17) (.t 18) 3,
          .ld 20 (.t 19) 3 true,
          .mv 21 (.t 1),
          .mv 22 (.t 5),
          .ia 23 (.t 21) (.t 22) 3,
          .ld 24 (.t 23) 3 true,
          .cq 25 F.laws_eqTerm [(.t 20), (.t 24)],
          .un 26 (.t 25)]) (
        .cond (.t 26) (
          .seq (
          .reg [.mv 4 (.c (.bool false))]) (
          .ret)) (
          .skip)))) (
      .reg [.mv 15 (.t 5),
        .bi 16 .add (.t 15) (.c (.int .i64 1)),
        .mv 5 (.t 16)])))))) (
  .seq (
  .reg [.mv 4 (.c (.bool true))]) (
  .ret))))
def rs_laws_eqTermS : List Rv := [.t 4]
theorem ck_laws_eqTermS : chkFn Try.prog F.laws_eqTermS 2 ir_laws_eqTermS rs_laws_eqTermS = true := by kernel_rfl
theorem eqTermS_ok (l k : List Term) : Snd Try.prog F.laws_eqTermS [.sl .rd 3 (l.map eTerm), .sl .rd 3 (k.map eTerm)] (.bool (decide (l = k))) [] := by
  refine snd_by ck_laws_eqTermS rfl (by simp) (den_W ?_)
  unfold ir_laws_eqTermS rs_laws_eqTermS
  simp
  intro hl hk
  refine ⟨fun hne => fun e => hne (by rw [e]), fun hlen => ?_⟩
  refine W_loop (fun m s => ∃ i, m = l.length - i ∧ i ≤ l.length ∧ l.take i = k.take i ∧ s.e 0 = .sl .rd 3 (l.map eTerm) ∧ s.e 1 = .sl .rd 3 (k.map eTerm) ∧ s.e 5 = .int .i64 (i : Nat)) l.length ?_ ?_
  · exact ⟨0, by simp⟩
  · rintro m s ⟨i, rfl, hi, hu, h0, h1, h5⟩
    by_cases h : i < l.length
    · have hk' : i < k.length := by omega
      simp [h0, h1, h5, h, hk']
      intro _
      refine do_cq (eqTerm_ok l[i] k[i]) (by simp [St.args]) ?_
      by_cases he : l[i] = k[i]
      · simp [he, h0, h1, h5]
        exact ⟨l.length - (i + 1), by omega, i + 1, by simp, by omega, by rw [List.take_succ_eq_append_getElem h, List.take_succ_eq_append_getElem hk', hu, he], by simp [wrap_succ h hl]⟩
      · simp [he]
        exact fun e => he (by subst e; rfl)
    · have : i = l.length := by omega
      subst this
      simp [h0, h5]
      intro _
      rw [List.take_of_length_le (Nat.le_refl _), List.take_of_length_le (by omega)] at hu
      exact hu
def markTerms (k : Int) (n : Nat) : List Term := (List.range n).map fun i => ⟨markT (k + 3 * (i : Nat) + 0), markT (k + 3 * (i : Nat) + 1), k + 3 * (i : Nat) + 2⟩
def ir_laws_markTermS : L :=
  .seq (
  .reg [.mv 4 (.c (.int .i64 0))]) (
  .seq (
  .seq (
  .reg [.mv 5 (.c (.int .i64 0))]) (
  .blk 0 (
    .loop (
      .seq (
      .seq (
      .reg [.mv 6 (.t 5),
        .mv 7 (.t 0),
        .ln 8 (.t 7),
        .bi 9 .lss (.t 6) (.t 8)]) (
      .cond (.t 9) (
        .skip) (
        .exit 0))) (
      .seq (
      .blk 1 (
        .seq (
        .reg [.mv 12 (.t 0),
          .mv 13 (.t 5),
          .mv 14 (.t 1),
          .cq 15 F.laws_markText [(.t 14)],
          .ia 16 (.t 12) (.t 13) 3,
          .fa 17 (.t 16) 0,
          .st (.t 17) (.t 15) 1]) (
        .seq (
        .reg [.mv 18 (.t 1),
          .bi 19 .add (.t 18) (.c (.int .i64 1)),
          .mv 1 (.t 19)]) (
        .seq (
        .reg [.mv 20 (.t 0),
          .mv 21 (.t 5),
          .mv 22 (.t 1),
          .cq 23 F.laws_markText [(.t 22)],
          .ia 24 (.t 20) (.t 21) 3,
          .fa 25 (.t 24) 1,
          .st (.t 25) (.t 23) 1]) (
        .seq (
        .reg [.mv 26 (.t 1),
          .bi 27 .add (.t 26) (.c (.int .i64 1)),
          .mv 1 (.t 27)]) (
        .seq (
        .reg [.mv 28 (.t 0),
          .mv 29 (.t 5),
          .mv 30 (.t 1),
          .ia 31 (.t 28) (.t 29) 3,
          .fa 32 (.t 31) 2,
          .st (.t 32) (.t 30) 1]) (
        .reg [.mv 33 (.t 1),
          .bi 34 .add (.t 33) (.c (.int .i64 1)),
          .mv 1 (.t 34)]))))))) (
      .reg [.mv 10 (.t 5),
        .bi 11 .add (.t 10) (.c (.int .i64 1)),
        .mv 5 (.t 11)])))))) (
  .seq (
  .reg [.mv 35 (.t 1),
    .mv 4 (.t 35)]) (
  .ret)))
def rs_laws_markTermS : List Rv := [.t 4]
theorem ck_laws_markTermS : chkFn Try.prog F.laws_markTermS 2 ir_laws_markTermS rs_laws_markTermS = true := by kernel_rfl
set_option maxRecDepth 10000 in
theorem markTermS_ok (l : List Term) (k : Int) (h0 : 0 ≤ k) (h1 : k + 3 * l.length ≤ 4611686018427387904) :
    Con Try.prog F.laws_markTermS [.sref 0, .int .i64 k] [] [⟨3, l.map eTerm, false⟩] (ret1 (.int .i64 (k + 3 * l.length)) ((markTerms k l.length).map eTerm)) := by
  refine con_by [true] ck_laws_markTermS rfl (by simp) fun _ => den_W ?_
  unfold ir_laws_markTermS rs_laws_markTermS
  simp
  refine W_loop (fun m s => ∃ i es, m = l.length - i ∧ i ≤ l.length ∧ s.e 0 = .sref 1000000000 ∧ s.e 1 = .int .i64 (k + 3 * i) ∧ s.e 5 = .int .i64 (i : Nat) ∧
      s.rw 1000000000 = some ⟨3, es, false⟩ ∧ es = ((markTerms k l.length).map eTerm).take i ++ (l.map eTerm).drop i) l.length ?_ ?_
  · exact ⟨0, l.map eTerm, by simp⟩
  · rintro m s ⟨i, es, rfl, hi, h0', h1', h5, hr, he⟩
    by_cases h : i < l.length
    · obtain ⟨f1, f2, f3, f4⟩ := mix_facts _ _ (by simp [markTerms]) i (by simpa using h) he
      simp at f1
      have w0 : IntKind.i64.wrap (k + 3 * (i : Int) + 1) = k + 3 * (i : Int) + 1 := by rw [wrap_id (by omega) (by omega)]
      have w1 : IntKind.i64.wrap (k + 3 * (i : Int) + 1 + 1) = k + 3 * (i : Int) + 2 := by rw [wrap_id (by omega) (by omega)]; omega
      have w2 : IntKind.i64.wrap (k + 3 * (i : Int) + 2 + 1) = k + 3 * (i : Int) + 3 := by rw [wrap_id (by omega) (by omega)]; omega
      simp [h0', h1', h5, hr, h, f1]
      intro _
      refine do_cq (markText_ok (k + 3 * (i : Nat)) (by omega) (by omega)) (by simp [St.args]) ?_
      simp [h0', h1', h5, hr, h, f1, f2, w0]
      refine do_cq (markText_ok (k + 3 * (i : Nat) + 1) (by omega) (by omega)) (by simp [St.args]) ?_
      simp [h0', h5, h, f1, w1, w2]
      refine ⟨l.length - (i + 1), by omega, i + 1, by simp, by omega, by simp; omega, by simp; rw [wrap_id (by omega) (by omega)], ?_⟩
      simpa [markTerms, w0, w1, w2] using f4
    · have : i = l.length := by omega
      subst this
      have hes : es = (markTerms k l.length).map eTerm := by rw [he, List.take_of_length_le (by simp [markTerms]), List.drop_of_length_le (by simp), List.append_nil]
      have hel : es.length = l.length := by rw [hes]; simp [markTerms]
      simp [h0', h1', h5, hr, hel]
      intro _
      refine postC_ret [] [some es] [] [] ?_
      simp [hr, hes, ret1]
def ir_laws_heldTermS : L :=
  .seq (
  .reg [.mv 4 (.c (.int .i64 0))]) (
  .seq (
  .seq (
  .reg [.mv 5 (.c (.int .i64 0))]) (
  .blk 0 (
    .loop (
      .seq (
      .seq (
      .reg [.mv 6 (.t 5),
        .mv 7 (.t 0),
        .ln 8 (.t 7),
        .bi 9 .lss (.t 6) (.t 8)]) (
      .cond (.t 9) (
        .skip) (
        .exit 0))) (
      .seq (
      .blk 1 (
        .seq (
        .seq (
        .rq 8 [.mv 12 (.t 0),
          .mv 13 (.t 5),
          .ia 14 (.t 12) (.t 13) 3,
          .fa 15 (.t 14) 0,
          .ld 16 (.t 15) 1 false,
          .mv 17 (.t 1),
          .cq 18 F.laws_markText [(.t 17)],
          .bi 19 .neq (.t 16) (.t 18)]) (
        .cond (.t 19) (
          .seq (
          .reg [.mv 4 (.c (.int .i64 (-1)))]) (
          .ret)) (
          .skip))) (
        .seq (
        .reg [.mv 20 (.t 1),
          .bi 21 .add (.t 20) (.c (.int .i64 1)),
          .mv 1 (.t 21)]) (
        .seq (
        .seq (
        .rq 8 [.mv 22 (.t 0),
          .mv 23 (.t 5),
          .ia 24 (.t 22) (.t 23) 3,
          .fa 25 (.t 24) 1,
          .ld 26 (.t 25) 1 false,
          .mv 27 (.t 1),
          .cq 28 F.laws_markText [(.t 27)],
          .bi 29 .neq (.t 26) (.t 28)]) (
        .cond (.t 29) (
          .seq (
          .reg [.mv 4 (.c (.int .i64 (-1)))]) (
          .ret)) (
          .skip))) (
        .seq (
        .reg [.mv 30 (.t 1),
          .bi 31 .add (.t 30) (.c (.int .i64 1)),
          .mv 1 (.t 31)]) (
        .seq (
        .seq (
        .reg [.mv 32 (.t 0),
          .mv 33 (.t 5),
          .ia 34 (.t 32) (.t 33) 3,
          .fa 35 (.t 34) 2,
          .ld 36 (.t 35) 1 false,
          .mv 37 (.t 1),
          .bi 38 .neq (.t 36) (.t 37)]) (
        .cond (.t 38) (
          .seq (
          .reg [.mv 4 (.c (.int .i64 (-1)))]) (
          .ret)) (
          .skip))) (
        .reg [.mv 39 (.t 1),
          .bi 40 .add (.t 39) (.c (.int .i64 1)),
          .mv 1 (.t 40)]))))))) (
      .reg [.mv 10 (.t 5),
        .bi 11 .add (.t 10) (.c (.int .i64 1)),
        .mv 5 (.t 11)])))))) (
  .seq (
  .reg [.mv 41 (.t 1),
    .mv 4 (.t 41)]) (
  .ret)))
def rs_laws_heldTermS : List Rv := [.t 4]
theorem ck_laws_heldTermS : chkFn Try.prog F.laws_heldTermS 2 ir_laws_heldTermS rs_laws_heldTermS = true := by kernel_rfl
set_option maxRecDepth 10000 in
theorem heldTermS_ok (n : Nat) (k : Int) (h0 : 0 ≤ k) (h1 : k + 3 * n ≤ 4611686018427387904) :
    Snd Try.prog F.laws_heldTermS [.sl .rd 3 ((markTerms k n).map eTerm), .int .i64 k] (.int .i64 (k + 3 * n)) [] := by
  refine snd_by ck_laws_heldTermS rfl (by simp) (den_W ?_)
  unfold ir_laws_heldTermS rs_laws_heldTermS
  have hlen : (markTerms k n).length = n := by simp [markTerms]
  have hget : ∀ i (h : i < (markTerms k n).length), (markTerms k n)[i] = ⟨markT (k + 3 * (i : Nat) + 0), markT (k + 3 * (i : Nat) + 1), k + 3 * (i : Nat) + 2⟩ := by intro i h; simp [markTerms]
  generalize markTerms k n = l at hlen hget
  simp
  refine W_loop (fun m s => ∃ i, m = n - i ∧ i ≤ n ∧ s.e 0 = .sl .rd 3 (l.map eTerm) ∧ s.e 1 = .int .i64 (k + 3 * i) ∧ s.e 5 = .int .i64 (i : Nat)) n ?_ ?_
  · exact ⟨0, by simp⟩
  · rintro m s ⟨i, rfl, hi, h0', h1', h5⟩
    by_cases h : i < n
    · have hi' : i < l.length := by omega
      have w0 : IntKind.i64.wrap (k + 3 * (i : Int) + 1) = k + 3 * (i : Int) + 1 := by rw [wrap_id (by omega) (by omega)]
      have w1 : IntKind.i64.wrap (k + 3 * (i : Int) + 1 + 1) = k + 3 * (i : Int) + 2 := by rw [wrap_id (by omega) (by omega)]; omega
      have w2 : IntKind.i64.wrap (k + 3 * (i : Int) + 2 + 1) = k + 3 * (i : Int) + 3 := by rw [wrap_id (by omega) (by omega)]; omega
      simp [h0', h1', h5, h, hlen, hget]
      intro _
      refine do_cq (markText_ok (k + 3 * (i : Nat)) (by omega) (by omega)) (by simp [St.args]) ?_
      simp [h0', h1', h5, h, hlen, hget, w0]
      refine do_cq (markText_ok (k + 3 * (i : Nat) + 1) (by omega) (by omega)) (by simp [St.args]) ?_
      simp [h0', h5, h, hlen, hget, w1, w2]
      exact ⟨n - (i + 1), by omega, i + 1, rfl, by omega, by omega, by rw [wrap_id (by omega) (by omega)]; omega⟩
    · have : i = n := by omega
      subst this
      simp [h0', h1', h5, hlen]
end Go.Proofs.Ythbbieobcokgbaa
