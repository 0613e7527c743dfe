/-
  AskText and its law.
-/
import Derived.Test.YthbbieobcokgbaaLawTermOk
import Derived.Test.YthbbieobcokgbaaWords
namespace Go.Proofs.Ythbbieobcokgbaa
open Go Go.RowKit Eng
def termTxt (t : Term) : Str := t.field ++ (t.op ++ numText t.n)
def askText (l : List Term) : Str := if l.length ≤ 8 ∧ l.all termOk = true then joinW (l.map termTxt) else []
theorem fieldV_len {j : Job} {s : Str} (h : (fieldV j s).2 = true) : s.length ≤ 5 := by
  unfold fieldV at h
  repeat' split at h
  all_goals first
    | (rename_i e; rw [e]; decide)
    | simp at h
theorem isOp_len {s : Str} (h : isOp s = true) : s.length = 1 := by
  simp [isOp] at h
  rcases h with ((rfl | rfl) | rfl) | rfl <;> rfl
theorem termTxt_len {t : Term} (h : termOk t = true) : (termTxt t).length ≤ 16 := by
  simp [termOk] at h
  have h1 := fieldV_len h.1.1
  have h2 := isOp_len h.1.2
  have h3 := numText_len t.n
  simp [termTxt]; omega
theorem joinW_len : ∀ (l : List Str) (b : Nat), (∀ w ∈ l, w.length ≤ b) → (joinW l).length ≤ l.length * (b + 1)
  | [], b, _ => by simp [joinW]
  | [w], b, h => by have := h w (by simp); simp [joinW]; omega
  | w :: v :: ws, b, h => by
    have h1 := h w (by simp)
    have h2 := joinW_len (v :: ws) b fun x hx => h x (by simp at hx ⊢; exact .inr hx)
    simp only [joinW, List.length_append, List.length_cons, Nat.add_mul] at h2 ⊢
    omega
theorem join_take {T : List Str} {i : Nat} (h : i < T.length) : joinW (T.take (i + 1)) = if T.take i = [] then T[i] else joinW (T.take i) ++ 32 :: T[i] := by
  rw [List.take_succ_eq_append_getElem h, joinW_snoc]
theorem all_take_succ {l : List Term} {i : Nat} (h : i < l.length) {p : Term → Bool} (ha : (l.take i).all p = true) (hp : p l[i] = true) : (l.take (i + 1)).all p = true := by
  rw [List.take_succ_eq_append_getElem h, List.all_append, ha]; simp [hp]
theorem all_bad {l : List Term} {i : Nat} (h : i < l.length) {p : Term → Bool} (hp : p l[i] = false) : l.all p = false := by
  rw [List.all_eq_false]; exact ⟨l[i], List.getElem_mem h, by simp [hp]⟩
theorem ask_len {l : List Term} {T : List Str} (hT : T = l.map termTxt) {i : Nat} (h : i ≤ 8) (ha : (l.take i).all termOk = true) : (joinW (T.take i)).length ≤ 136 := by
  subst hT
  have := joinW_len ((l.map termTxt).take i) 16 (fun w hw => by
    rw [← List.map_take] at hw
    obtain ⟨t, ht, rfl⟩ := List.mem_map.1 hw
    exact termTxt_len (List.all_eq_true.1 ha t ht))
  rw [List.length_take, List.length_map] at this
  have h2 : (min i l.length) * 17 ≤ 8 * 17 := Nat.mul_le_mul_right _ (by omega)
  omega
def ir_spec_AskText : L :=
  .seq (
  .reg [.mv 2 (.c (.str []))]) (
  .seq (
  .reg [.mv 3 (.c (.str []))]) (
  .seq (
  .seq (
  .reg [.mv 6 (.t 0),
    .ln 7 (.t 6),
    .bi 8 .gtr (.t 7) (.c (.int .i64 8))]) (
  .cond (.t 8) (
    .seq (
    .reg [.mv 9 (.t 3),
      .mv 2 (.t 9)]) (
    .ret)) (
    .skip))) (
  .seq (
  .seq (
  .reg [.mv 10 (.t 0),
    .ln 11 (.t 10),
    .mv 12 (.c (.int .i64 0))]) (
  .blk 0 (
    .loop (
      .seq (
      .reg [.bi 13 .lss (.t 12) (.t 11)]) (
      .seq (
      .cond (.t 13) (
        .skip) (
        .exit 0)) (
      .seq (
      .blk 1 (
        .seq (
        .reg [.mv 14 (.t 12),
          .ia 15 (.t 10) (.t 12) 3,
          .ld 16 (.t 15) 3 true,
          .al 5 [.str [], .str [], .int .i64 0],
          .mv 4 (.t 14),
          .st (.t 5) (.t 16) 3]) (
        .seq (
        .seq (
        .reg [.ld 17 (.t 5) 3 true,
          .cq 18 F.spec_TermOk [(.t 17)],
          .un 19 (.t 18)]) (
        .cond (.t 19) (
          .seq (
          .reg [.mv 2 (.c (.str []))]) (
          .ret)) (
          .skip))) (
        .seq (
        .seq (
        .reg [.mv 20 (.t 4),
          .bi 21 .gtr (.t 20) (.c (.int .i64 0))]) (
        .cond (.t 21) (
          .reg [.mv 22 (.t 3),
            .sa 23 (.t 22) (.c (.str [32])),
            .mv 3 (.t 23)]) (
          .skip))) (
        .rq 11 [.mv 24 (.t 3),
          .fa 25 (.t 5) 0,
          .ld 26 (.t 25) 1 false,
          .sa 27 (.t 24) (.t 26),
          .fa 28 (.t 5) 1,
          .ld 29 (.t 28) 1 false,
          .sa 30 (.t 27) (.t 29),
          .fa 31 (.t 5) 2,
          .ld 32 (.t 31) 1 false,
          .cq 33 F.spec_NumText [(.t 32)],
          .sa 34 (.t 30) (.t 33),
          .mv 3 (.t 34)]))))) (
      .reg [.bi 35 .add (.t 12) (.c (.int .i64 1)),
        .mv 12 (.t 35)]))))))) (
  .seq (
  .reg [.mv 36 (.t 3),
    .mv 2 (.t 36)]) (
  .ret)))))
def rs_spec_AskText : List Rv := [.t 2]
theorem ck_spec_AskText : chkFn Try.prog F.spec_AskText 1 ir_spec_AskText rs_spec_AskText = true := by kernel_rfl
set_option maxRecDepth 10000 in
theorem spec_AskText_ok (l : List Term) : Snd Try.prog F.spec_AskText [.sl .rd 3 (l.map eTerm)] (.str (askText l)) [] := by
  refine snd_by ck_spec_AskText rfl (by simp) (den_W ?_)
  unfold ir_spec_AskText rs_spec_AskText
  simp
  intro hlen
  by_cases h8 : l.length ≤ 8
  rotate_left
  · have e : (8 : Int) < l.length := by omega
    have e' : ¬ (l.length : Int) ≤ 8 := by omega
    simp [e, e', askText, h8]
  have e : ¬ (8 : Int) < l.length := by omega
  have e' : (l.length : Int) ≤ 8 := by omega
  simp [e, e']
  intro _
  obtain ⟨T, hT⟩ : ∃ T, T = l.map termTxt := ⟨_, rfl⟩
  have hTl : T.length = l.length := by rw [hT]; simp
  have hTi : ∀ i (h : i < T.length), T[i] = termTxt (l[i]'(by omega)) := by subst hT; intro i h; simp
  refine W_loop (fun m s => ∃ i, m = l.length - i ∧ i ≤ l.length ∧ (l.take i).all termOk = true ∧ s.e 10 = .sl .rd 3 (l.map eTerm) ∧ s.e 11 = .int .i64 l.length ∧ s.e 12 = .int .i64 (i : Nat) ∧ s.e 3 = .str (joinW (T.take i))) l.length ?_ ?_
  · exact ⟨0, by simp [joinW]⟩
  · rintro m s ⟨i, rfl, hi, ha, h10, h11, h12, h3⟩
    by_cases h : i < l.length
    · simp [h10, h11, h12, h3, h]
      refine do_cq (spec_TermOk_ok l[i]) (by simp [St.args]) ?_
      cases ht : termOk l[i]
      · simp [askText, all_bad h ht]
      have hl := ask_len hT (i := i) (by omega) ha
      have htl := termTxt_len ht
      simp [termTxt] at htl
      have hs := join_take (T := T) (i := i) (by omega)
      rw [hTi] at hs
      have he : T.take i = [] ↔ i = 0 := by
        rw [List.take_eq_nil_iff]
        constructor
        · rintro (h' | h')
          · exact h'
          · subst h'; simp at hTl; omega
        · exact .inl
      by_cases h0 : i = 0
      · have hn := he.2 h0
        have hp : ¬ 0 < i := by omega
        rw [if_pos hn] at hs
        simp [h3, hp, hn, joinW]
        repeat (refine ⟨by first | omega | (simp; omega), ?_⟩)
        refine do_cq (spec_NumText_ok l[i].n) (by simp [St.args]) ?_
        simp [h10, h11, h12]
        refine ⟨by omega, l.length - (i + 1), by omega, i + 1, rfl, by omega, List.all_eq_true.1 (all_take_succ h ha ht), wrap_succ h hlen, ?_⟩
        rw [hs]; simp [termTxt]
      · have hp : 0 < i := by omega
        rw [if_neg (fun q => h0 (he.1 q))] at hs
        simp [h3, hp]
        repeat (refine ⟨by first | omega | (simp; omega), ?_⟩)
        refine do_cq (spec_NumText_ok l[i].n) (by simp [St.args]) ?_
        simp [h10, h11, h12]
        refine ⟨by omega, l.length - (i + 1), by omega, i + 1, rfl, by omega, List.all_eq_true.1 (all_take_succ h ha ht), wrap_succ h hlen, ?_⟩
        rw [hs]; simp [termTxt]
    · have : i = l.length := by omega
      subst this
      rw [List.take_of_length_le (by omega)] at ha h3
      simp [h10, h11, h12, h3, askText, h8, ha, ← hT]
def ir_impl_AskText : L :=
  .seq (
  .reg [.mv 2 (.c (.str []))]) (
  .seq (
  .seq (
  .reg [.mv 6 (.t 0),
    .ln 7 (.t 6),
    .cq 8 F.impl_within [(.t 7), (.c (.int .i64 1)), (.c (.int .i64 8))],
    .un 9 (.t 8)]) (
  .cond (.t 9) (
    .seq (
    .reg [.mv 2 (.c (.str []))]) (
    .ret)) (
    .skip))) (
  .seq (
  .reg [.bs 10 1 [] true,
    .mv 3 (.t 10)]) (
  .seq (
  .seq (
  .reg [.mv 11 (.t 0),
    .ln 12 (.t 11),
    .mv 13 (.c (.int .i64 0))]) (
  .blk 0 (
    .loop (
      .seq (
      .reg [.bi 14 .lss (.t 13) (.t 12)]) (
      .seq (
      .cond (.t 14) (
        .skip) (
        .exit 0)) (
      .seq (
      .blk 1 (
        .seq (
        .reg [.ia 15 (.t 11) (.t 13) 3,
          .ld 16 (.t 15) 3 true,
          .al 5 [.str [], .str [], .int .i64 0],
          .st (.t 5) (.t 16) 3]) (
        .seq (
        .seq (
        .reg [.ld 17 (.t 5) 3 true,
          .cq 18 F.impl_TermOk [(.t 17)],
          .un 19 (.t 18)]) (
        .cond (.t 19) (
          .seq (
          .reg [.mv 2 (.c (.str []))]) (
          .ret)) (
          .skip))) (
        .rq 11 [.mv 20 (.t 3),
          .fa 21 (.t 5) 0,
          .ld 22 (.t 21) 1 false,
          .fa 23 (.t 5) 1,
          .ld 24 (.t 23) 1 false,
          .sa 25 (.t 22) (.t 24),
          .fa 26 (.t 5) 2,
          .ld 27 (.t 26) 1 false,
          .cq 28 F.impl_NumText [(.t 27)],
          .sa 29 (.t 25) (.t 28),
          .bs 30 1 [(.t 29)] false,
          .ap 31 (.t 20) (.t 30) 1 16,
          .mv 3 (.t 31)])))) (
      .reg [.bi 32 .add (.t 13) (.c (.int .i64 1)),
        .mv 13 (.t 32)]))))))) (
  .seq (
  .reg [.mv 33 (.t 3),
    .cq 34 F.impl_words [(.t 33)],
    .mv 2 (.t 34)]) (
  .ret)))))
def rs_impl_AskText : List Rv := [.t 2]
theorem ck_impl_AskText : chkFn Try.prog F.impl_AskText 1 ir_impl_AskText rs_impl_AskText = true := by kernel_rfl
set_option maxRecDepth 10000 in
theorem impl_AskText_ok (l : List Term) : Snd Try.prog F.impl_AskText [.sl .rd 3 (l.map eTerm)] (.str (askText l)) [] := by
  refine snd_by ck_impl_AskText rfl (by simp) (den_W ?_)
  unfold ir_impl_AskText rs_impl_AskText
  simp
  intro hlen
  refine do_cq (within_ok l.length 1 8) (by simp [St.args]) ?_
  by_cases h1 : 1 ≤ l.length
  rotate_left
  · have : l = [] := List.eq_nil_of_length_eq_zero (by omega)
    subst this
    simp [askText, joinW]
  by_cases h8 : l.length ≤ 8
  rotate_left
  · have e : ¬ (l.length : Int) ≤ 8 := by omega
    simp [e, askText, h8]
  have e1 : (1 : Int) ≤ l.length := by omega
  have e : (l.length : Int) ≤ 8 := by omega
  simp [e, e1]
  intro _
  obtain ⟨T, hT⟩ : ∃ T, T = l.map termTxt := ⟨_, rfl⟩
  have hTl : T.length = l.length := by rw [hT]; simp
  have hTi : ∀ i (h : i < T.length), T[i] = termTxt (l[i]'(by omega)) := by subst hT; intro i h; simp
  refine W_loop (fun m s => ∃ i, m = l.length - i ∧ i ≤ l.length ∧ (l.take i).all termOk = true ∧ s.e 11 = .sl .rd 3 (l.map eTerm) ∧ s.e 12 = .int .i64 l.length ∧ s.e 13 = .int .i64 (i : Nat) ∧ s.e 3 = .sref 10 ∧ s.rw 10 = some ⟨1, (T.map eS).take i, false⟩) l.length ?_ ?_
  · exact ⟨0, by simp⟩
  · rintro m s ⟨i, rfl, hi, ha, h11, h12, h13, h3, hr⟩
    by_cases h : i < l.length
    · simp [h11, h12, h13, h3, h]
      refine do_cq (impl_TermOk_ok l[i]) (by simp [St.args]) ?_
      cases ht : termOk l[i]
      · simp [askText, all_bad h ht]
      have htl := termTxt_len ht
      simp [termTxt] at htl
      simp [h3]
      repeat (refine ⟨by first | omega | (simp; omega), ?_⟩)
      refine do_cq (impl_NumText_ok l[i].n) (by simp [St.args]) ?_
      simp [h11, h12, h13, hr]
      refine ⟨by omega, by omega, l.length - (i + 1), by omega, i + 1, rfl, by omega, List.all_eq_true.1 (all_take_succ h ha ht), wrap_succ h hlen, ?_⟩
      rw [List.take_succ_eq_append_getElem (by simp; omega)]; simp [hTi, termTxt]
    · have : i = l.length := by omega
      subst this
      have hl := ask_len hT (i := l.length) (by omega) ha
      rw [List.take_of_length_le (by omega)] at ha hl
      rw [List.take_of_length_le (by simp; omega)] at hr
      simp [h11, h12, h13, h3]
      refine do_cq (impl_words_ok T (by omega)) (by simp [St.args, hr]) ?_
      simp [askText, h8, ha, ← hT]
theorem sum_take (C : List Nat) (i : Nat) : (C.take i).sum ≤ C.sum := by
  conv => rhs; rw [← List.take_append_drop i C]
  rw [List.sum_append]; omega
def costTerms (l : List Term) : Nat := l.length + (l.map costTerm).sum
def ir_laws_szTermS : L :=
  .seq (
  .reg [.mv 4 (.c (.int .i64 0))]) (
  .seq (
  .reg [.mv 6 (.t 1),
    .mv 7 (.t 0),
    .ln 8 (.t 7),
    .bi 9 .sub (.t 6) (.t 8),
    .mv 1 (.t 9)]) (
  .seq (
  .seq (
  .reg [.mv 10 (.t 1),
    .bi 11 .lss (.t 10) (.c (.int .i64 0))]) (
  .cond (.t 11) (
    .seq (
    .reg [.mv 4 (.c (.int .i64 (-1)))]) (
    .ret)) (
    .skip))) (
  .seq (
  .seq (
  .reg [.mv 5 (.c (.int .i64 0))]) (
  .blk 0 (
    .loop (
      .seq (
      .seq (
      .reg [.mv 12 (.t 5),
        .mv 13 (.t 0),
        .ln 14 (.t 13),
        .bi 15 .lss (.t 12) (.t 14)]) (
      .cond (.t 15) (
        .skip) (
        .exit 0))) (
      .seq (
      .blk 1 (
        .seq (
        .reg [.mv 18 (.t 0),
          .mv 19 (.t 5),
          .ia 20 (.t 18) (.t 19) 3,
          .ld 21 (.t 20) 3 true,
          .mv 22 (.t 1),
          .cq 23 F.laws_szTerm [(.t 21), (.t 22)],
          .mv 1 (.t 23)]) (
        .seq (
        .reg [.mv 24 (.t 1),
          .bi 25 .lss (.t 24) (.c (.int .i64 0))]) (
        .cond (.t 25) (
          .seq (
          .reg [.mv 4 (.c (.int .i64 (-1)))]) (
          .ret)) (
          .skip))))) (
      .reg [.mv 16 (.t 5),
        .bi 17 .add (.t 16) (.c (.int .i64 1)),
        .mv 5 (.t 17)])))))) (
  .seq (
  .reg [.mv 26 (.t 1),
    .mv 4 (.t 26)]) (
  .ret)))))
def rs_laws_szTermS : List Rv := [.t 4]
theorem ck_laws_szTermS : chkFn Try.prog F.laws_szTermS 2 ir_laws_szTermS rs_laws_szTermS = true := by kernel_rfl
theorem szTermS_ok (l : List Term) (n : Int) (hn : n ≤ 1048576) (h0 : 0 ≤ n) (hl : ∀ t ∈ l, t.field.length ≤ maxLen ∧ t.op.length ≤ maxLen) : Snd Try.prog F.laws_szTermS [.sl .rd 3 (l.map eTerm), .int .i64 n] (.int .i64 (szr n (costTerms l))) [] := by
  refine snd_by ck_laws_szTermS rfl (by simp) (den_W ?_)
  unfold ir_laws_szTermS rs_laws_szTermS
  simp
  intro hlen
  rw [wrap_id (by omega) (by omega)]
  refine ⟨fun h => by unfold szr costTerms; rw [if_pos (by omega)], fun h => ?_⟩
  obtain ⟨C, hC⟩ : ∃ C, C = l.map costTerm := ⟨_, rfl⟩
  have hCl : C.length = l.length := by rw [hC]; simp
  have hCi : ∀ i (h : i < C.length), C[i] = costTerm (l[i]'(by omega)) := by subst hC; intro i h; simp
  have hcs : costTerms l = l.length + C.sum := by rw [hC]; rfl
  refine W_loop (fun m s => ∃ (i : Nat) (c : Nat), m = l.length - i ∧ i ≤ l.length ∧ c = l.length + (C.take i).sum ∧ (c : Int) ≤ n ∧ s.e 0 = .sl .rd 3 (l.map eTerm) ∧ s.e 1 = .int .i64 (n - c) ∧ s.e 5 = .int .i64 (i : Nat)) l.length ?_ ?_
  · exact ⟨0, l.length, by simp; omega⟩
  · rintro m s ⟨i, c, rfl, hi, hc, hcn, e0, e1, e5⟩
    by_cases hh : i < l.length
    · have hti := hl l[i] (List.getElem_mem hh)
      have hsum : (C.take (i + 1)).sum = (C.take i).sum + costTerm l[i] := by rw [List.take_succ_eq_append_getElem (by omega)]; simp [hCi]
      have hle := sum_take C (i + 1)
      simp [e0, e1, e5, hh]
      intro _
      refine do_cq (szTerm_ok l[i] (n - c) (by omega) (by omega) hti.1 hti.2) (by simp [St.args]) ?_
      simp
      refine ⟨fun hz => ?_, fun hz => ?_⟩
      · unfold szr at hz ⊢
        split at hz
        · rw [if_pos (by omega)]
        · omega
      · obtain ⟨z1, z2⟩ := szr_nn hz
        simp [e5]
        exact ⟨l.length - (i + 1), by omega, i + 1, rfl, by omega, by omega, e0, by rw [z2]; omega, wrap_succ hh hlen⟩
    · have : i = l.length := by omega
      subst this
      rw [List.take_of_length_le (by omega)] at hc
      simp [e0, e1, e5]
      unfold szr
      rw [if_neg (by omega)]
      omega
def ir_laws_FnExactAskText : L :=
  .seq (
  .reg [.mv 2 (.c (.bool false))]) (
  .seq (
  .reg [.mv 3 (.c (.int .i64 1048576))]) (
  .seq (
  .reg [.mv 7 (.t 0),
    .mv 8 (.t 3),
    .cq 9 F.laws_szTermS [(.t 7), (.t 8)],
    .mv 3 (.t 9)]) (
  .seq (
  .seq (
  .reg [.mv 10 (.t 3),
    .bi 11 .lss (.t 10) (.c (.int .i64 0))]) (
  .cond (.t 11) (
    .seq (
    .reg [.mv 2 (.c (.bool true))]) (
    .ret)) (
    .skip))) (
  .seq (
  .reg [.mv 12 (.t 0),
    .cq 13 F.laws_toTermS [(.t 12)],
    .cq 14 F.spec_AskText [(.t 13)],
    .mv 4 (.t 14)]) (
  .seq (
  .reg [.mv 15 (.t 0),
    .cq 16 F.laws_toTermS [(.t 15)],
    .mv 5 (.t 16)]) (
  .seq (
  .reg [.mv 17 (.t 5),
    .cq 18 F.impl_AskText [(.t 17)],
    .mv 6 (.t 18)]) (
  .seq (
  .seq (
  .reg [.mv 19 (.t 6),
    .mv 20 (.t 4),
    .bi 21 .neq (.t 19) (.t 20)]) (
  .cond (.t 21) (
    .seq (
    .reg [.mv 2 (.c (.bool false))]) (
    .ret)) (
    .skip))) (
  .seq (
  .seq (
  .reg [.mv 22 (.t 5),
    .mv 23 (.t 0),
    .cq 24 F.laws_toTermS [(.t 23)],
    .cq 25 F.laws_eqTermS [(.t 22), (.t 24)],
    .un 26 (.t 25)]) (
  .cond (.t 26) (
    .seq (
    .reg [.mv 2 (.c (.bool false))]) (
    .ret)) (
    .skip))) (
  .seq (
  .reg [.mv 2 (.c (.bool true))]) (
  .ret))))))))))
def rs_laws_FnExactAskText : List Rv := [.t 2]
theorem ck_laws_FnExactAskText : chkFn Try.prog F.laws_FnExactAskText 1 ir_laws_FnExactAskText rs_laws_FnExactAskText = true := by kernel_rfl
theorem FnExactAskText_c (l : List Term) (hl : ∀ t ∈ l, t.field.length ≤ maxLen ∧ t.op.length ≤ maxLen) : Snd Try.prog F.laws_FnExactAskText [.sl .rd 3 (l.map eTerm)] (.bool true) [] := by
  refine snd_by ck_laws_FnExactAskText rfl (by simp) (den_W ?_)
  unfold ir_laws_FnExactAskText rs_laws_FnExactAskText
  simp
  refine do_cq (szTermS_ok l 1048576 (by omega) (by omega) hl) (by simp [St.args]) ?_
  simp
  intro hs
  obtain ⟨hx, _⟩ := szr_nn hs
  have hl : l.length ≤ 1048576 := by unfold costTerms at hx; omega
  refine do_cq (toTermS_ok l hl) (by simp [St.args]) ?_
  simp
  refine do_cq (spec_AskText_ok l) (by simp [St.args]) ?_
  simp
  refine do_cq (toTermS_ok l hl) (by simp [St.args]) ?_
  simp
  refine do_cq (impl_AskText_ok l) (by simp [St.args]) ?_
  simp
  refine do_cq (toTermS_ok l hl) (by simp [St.args]) ?_
  simp
  refine do_cq (eqTermS_ok l l) (by simp [St.args]) ?_
  simp
theorem Terms_of {a : AV} (h : (Ty.sl tyTerm).okV a) : ∃ l : List Term, AV.wkA (fun _ => False) a (.sl .rd 3 (l.map eTerm)) ∧ ∀ t ∈ l, t.field.length ≤ maxLen ∧ t.op.length ≤ maxLen := by
  simp only [Ty.okV, Ty.ok] at h
  rcases h with h | ⟨es, h, _, h2⟩
  · exact ⟨[], by rw [(List.cons.inj h).1]; simp⟩
  · have : ∀ es : List AV, (∀ x ∈ es, x.cells.length = tyTerm.size ∧ (if tyTerm.isSt then ∃ cs, x = .agg cs else x.one = true) ∧ tyTerm.ok x.cells) → ∃ l : List Term, es = l.map eTerm ∧ ∀ t ∈ l, t.field.length ≤ maxLen ∧ t.op.length ≤ maxLen := by
      intro es
      induction es with
      | nil => exact fun _ => ⟨[], rfl, by simp⟩
      | cons x es ih =>
        intro h
        obtain ⟨l, rfl, hl⟩ := ih fun y hy => h y (by simp [hy])
        obtain ⟨_, h3, h4⟩ := h x (by simp)
        simp only [tyTerm, Ty.isSt, if_true] at h3
        obtain ⟨cs, rfl⟩ := h3
        simp only [tyTerm, Ty.ok, okL, AV.cells] at h4
        obtain ⟨_, _, rfl, ⟨f, rfl, hf⟩, _, _, rfl, ⟨o, rfl, ho⟩, _, _, rfl, ⟨n, rfl, _⟩, rfl⟩ := h4
        refine ⟨⟨f, o, n⟩ :: l, rfl, fun t ht => ?_⟩
        rcases List.mem_cons.1 ht with rfl | ht
        · exact ⟨hf, ho⟩
        · exact hl t ht
    obtain ⟨l, rfl, hl⟩ := this es h2
    exact ⟨l, by rw [(List.cons.inj h).1]; simp [tyTerm, Ty.size, sizeL], hl⟩
theorem FnExactAskText_ok (xs : List AV) (h : okVs [.sl tyTerm] xs) : Snd Try.prog F.laws_FnExactAskText xs (.bool true) [] := by
  obtain ⟨a, _, rfl, ha, rfl⟩ := h
  obtain ⟨l, ha, hl⟩ := Terms_of ha
  exact (FnExactAskText_c l hl).wk ⟨ha, trivial⟩
end Go.Proofs.Ythbbieobcokgbaa
