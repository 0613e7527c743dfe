/-
  TextAsk, of the specification and of the program, and its law.
-/
import Derived.Test.YthbbieobcokgbaaAsk
import Derived.Test.YthbbieobcokgbaaTexts
import Derived.Test.YthbbieobcokgbaaSeqs
namespace Go.Proofs.Ythbbieobcokgbaa
open Go Go.RowKit Eng
theorem spell_snoc (l : Str) (c : UInt8) : spell (l ++ [c]) = spell l * 10 + ((c.toNat : Int) - 48) := by
  unfold spell; rw [List.foldl_append]; rfl
theorem dgt_val (n : Nat) : (dgt n).toNat = 48 + n % 10 := by
  unfold dgt
  rw [UInt8.toNat_ofNat']
  omega
theorem dg_facts : ∀ n : Nat, spell (dg n) = n ∧ (dg n).all isDig = true ∧ 1 ≤ (dg n).length := by
  intro n
  induction n using Nat.strongRecOn with
  | _ n ih =>
    have hd := dgt_val n
    have hi : isDig (dgt n) = true := by simp [isDig, hd]; omega
    by_cases h : n < 10
    · rw [dg_lt h]
      refine ⟨?_, by simp [hi], by simp⟩
      simp [spell, hd]; omega
    · obtain ⟨h1, h2, h3⟩ := ih (n / 10) (by omega)
      rw [dg_ge (by omega)]
      refine ⟨?_, by simp only [List.all_append, h2]; simp [hi], by simp⟩
      rw [spell_snoc, h1, hd]; omega
theorem numText_all (n : Int) : (numText n).all isDig = true := by
  unfold numText; split
  · exact (dg_facts _).2.1
  · rfl
theorem textNum_numText {n : Int} (h : time n = true) : textNum (numText n) = (n, true) := by
  have hl := numText_len n
  have e : numText n = dg n.toNat := by unfold numText; rw [if_pos h]
  obtain ⟨h1, h2, h3⟩ := dg_facts n.toNat
  have hn : 0 ≤ n := by simp [time] at h; exact h.1
  have hs : spell (numText n) = n := by rw [e, h1]; omega
  unfold textNum
  rw [if_pos ⟨by rw [e]; exact h3, hl, numText_all n, by rw [hs]⟩, hs]
def isLow (c : UInt8) : Bool := decide (97 ≤ c.toNat) && decide (c.toNat ≤ 122)
def cutTerm (w : Str) (i : Nat) : Term := ⟨w.take i, (w.take (i + 1)).drop i, (textNum (w.drop (i + 1))).1⟩
def specTerm (w : Str) : Term := match w.findIdx? (fun c => !isLow c) with | some i => cutTerm w i | none => ⟨[], [], 0⟩
def implTerm (w : Str) : Option Term := match w.findIdx? (fun c => isOp [c]) with | some i => some (cutTerm w i) | none => none
theorem find_some {w : Str} {p : UInt8 → Bool} {i : Nat} (h : i < w.length) (hp : p w[i] = true) (hn : ∀ k, k < i → ∀ h, p (w[k]'h) = false) : w.findIdx? p = some i := by
  rw [List.findIdx?_eq_some_iff_getElem]
  exact ⟨h, hp, fun j hj => by simp [hn j hj (by omega)]⟩
theorem find_none {w : Str} {p : UInt8 → Bool} (hn : ∀ k, k < w.length → ∀ h, p (w[k]'h) = false) : w.findIdx? p = none := by
  rw [List.findIdx?_eq_none_iff]
  intro x hx
  obtain ⟨i, hi, rfl⟩ := List.getElem_of_mem hx
  exact hn i hi hi
def implAll : List Str → Option (List Term)
  | [] => some []
  | w :: ws => match implTerm w, implAll ws with | some t, some ts => some (t :: ts) | _, _ => none
theorem implAll_app : ∀ (a b : List Str), implAll (a ++ b) = match implAll a, implAll b with | some x, some y => some (x ++ y) | _, _ => none
  | [], b => by simp [implAll]; cases implAll b <;> rfl
  | w :: a, b => by
    rw [List.cons_append, implAll, implAll_app a b, implAll]
    cases implTerm w <;> cases implAll a <;> cases implAll b <;> rfl
theorem implAll_succ {l : List Str} {i : Nat} (h : i < l.length) {o : List Term} {t : Term} (ho : implAll (l.take i) = some o) (ht : implTerm l[i] = some t) : implAll (l.take (i + 1)) = some (o ++ [t]) := by
  rw [List.take_succ_eq_append_getElem h, implAll_app, ho]; simp [implAll, ht]
theorem implAll_bad {l : List Str} {i : Nat} (h : i < l.length) (ht : implTerm l[i] = none) : implAll l = none := by
  have e : l = l.take i ++ (l[i] :: l.drop (i + 1)) := by rw [← List.drop_eq_getElem_cons h, List.take_append_drop]
  rw [e, implAll_app]
  simp only [implAll, ht]
  cases implAll (l.take i) <;> rfl
/-- The text of a term is read back. -/
theorem low_field {f : Str} (h : (fieldV job0 f).2 = true) : f.all isLow = true := by
  unfold fieldV at h
  repeat' split at h
  all_goals first
    | (rename_i e; rw [e]; decide)
    | simp at h
theorem op_byte {o : Str} (h : isOp o = true) : ∃ c, o = [c] ∧ isLow c = false ∧ isOp [c] = true ∧ c ≠ 32 := by
  have h' := h
  simp [isOp] at h
  rcases h with ((rfl | rfl) | rfl) | rfl <;> exact ⟨_, rfl, by decide, by decide, by decide⟩
theorem low_noop {c : UInt8} (h : isLow c = true) : isOp [c] = false := by
  simp [isLow] at h
  simp only [isOp, Bool.or_eq_false_iff, decide_eq_false_iff_not, List.cons.injEq, and_true]
  refine ⟨⟨⟨?_, ?_⟩, ?_⟩, ?_⟩ <;> (rintro rfl; revert h; decide)
theorem cut_ok {f : Str} {c : UInt8} {n : Int} (ht : time n = true) : cutTerm (f ++ ([c] ++ numText n)) f.length = ⟨f, [c], n⟩ := by
  unfold cutTerm
  have e1 : (f ++ ([c] ++ numText n)).take f.length = f := by simp
  have e2 : ((f ++ ([c] ++ numText n)).take (f.length + 1)).drop f.length = [c] := by
    rw [show f.length + 1 = f.length + 1 from rfl, List.take_length_add_append]; simp
  have e3 : (f ++ ([c] ++ numText n)).drop (f.length + 1) = numText n := by
    rw [List.drop_length_add_append]; simp
  rw [e1, e2, e3, textNum_numText ht]
theorem getElem_mid {f : Str} {c : UInt8} {r : Str} (h : f.length < (f ++ ([c] ++ r)).length) : (f ++ ([c] ++ r))[f.length] = c := by
  rw [List.getElem_append_right (by omega)]; simp
theorem term_back {t : Term} (h : termOk t = true) : specTerm (termTxt t) = t ∧ implTerm (termTxt t) = some t ∧ ∀ c ∈ termTxt t, c ≠ 32 := by
  simp [termOk] at h
  obtain ⟨⟨h1, h2⟩, h3⟩ := h
  obtain ⟨f, o, n⟩ := t
  simp only at h1 h2 h3
  obtain ⟨c, rfl, c1, c2, c3⟩ := op_byte h2
  have hf := low_field h1
  have hlow : ∀ k (hk : k < f.length), isLow f[k] = true := fun k hk => List.all_eq_true.1 hf _ (List.getElem_mem hk)
  have hlt : f.length < (f ++ ([c] ++ numText n)).length := by simp
  have hpre : ∀ k, k < f.length → ∀ h, (f ++ ([c] ++ numText n))[k]'h = f[k]! := fun k hk h' => by rw [List.getElem_append_left hk]; simp [hk]
  refine ⟨?_, ?_, ?_⟩
  · unfold specTerm termTxt
    rw [find_some hlt (by rw [getElem_mid hlt, c1]; rfl) (fun k hk h' => by rw [List.getElem_append_left hk, hlow k hk]; rfl)]
    exact cut_ok h3
  · unfold implTerm termTxt
    rw [find_some hlt (by rw [getElem_mid hlt, c2]) (fun k hk h' => by rw [List.getElem_append_left hk]; exact low_noop (hlow k hk))]
    exact congrArg some (cut_ok h3)
  · intro x hx
    unfold termTxt at hx
    simp only [List.mem_append, List.mem_singleton] at hx
    rcases hx with hx | hx | hx
    · have := List.all_eq_true.1 hf x hx
      rintro rfl; revert this; decide
    · rw [hx]; exact c3
    · have := List.all_eq_true.1 (numText_all n) x hx
      rintro rfl; revert this; decide
theorem parts_joinW : ∀ {l : List Str}, l ≠ [] → (∀ w ∈ l, ∀ c ∈ w, c ≠ 32) → parts 32 (joinW l) = l
  | [], h, _ => absurd rfl h
  | [w], _, h => by rw [joinW]; exact parts_none (h w (by simp))
  | w :: v :: ws, _, h => by
    rw [joinW, parts_cut _ (h w (by simp)), parts_joinW (by simp) fun x hx => h x (by simp at hx ⊢; exact .inr hx)]
theorem ask_parts {o : List Term} {s : Str} (h : askText o = s) (hs : s ≠ []) : parts 32 s = o.map termTxt ∧ o.all termOk = true := by
  unfold askText at h
  split at h
  · rename_i hc
    subst h
    refine ⟨parts_joinW (fun e => hs (by rw [e]; rfl)) fun w hw => ?_, hc.2⟩
    obtain ⟨t, ht, rfl⟩ := List.mem_map.1 hw
    exact (term_back (List.all_eq_true.1 hc.2 t ht)).2.2
  · exact absurd h.symm hs
theorem spec_back {o : List Term} (h : o.all termOk = true) : (o.map termTxt).map specTerm = o := by
  rw [List.map_map]
  conv => rhs; rw [← List.map_id o]
  exact List.map_congr_left fun t ht => (term_back (List.all_eq_true.1 h t ht)).1
theorem impl_back : ∀ {o : List Term}, o.all termOk = true → implAll (o.map termTxt) = some o
  | [], _ => rfl
  | t :: o, h => by
    simp only [List.all_cons, Bool.and_eq_true] at h
    simp only [List.map_cons, implAll, (term_back h.1).2.1, impl_back h.2]
def textAsk (s : Str) : List Term × Bool := if s ≠ [] ∧ askText ((parts 32 s).map specTerm) = s then ((parts 32 s).map specTerm, true) else ([], false)
def textAskI (s : Str) : List Term × Bool := match implAll (parts 32 s) with
  | some o => if askText o = s then (o, true) else ([], false)
  | none => ([], false)
theorem textAsk_eq (s : Str) : textAskI s = textAsk s := by
  unfold textAskI textAsk
  by_cases hs : s = []
  · subst hs; rfl
  by_cases h : askText ((parts 32 s).map specTerm) = s
  · obtain ⟨h1, h2⟩ := ask_parts h hs
    have h3 := impl_back h2
    rw [← h1] at h3
    rw [if_pos ⟨hs, h⟩, h3]
    simp only [h, if_true]
  · rw [if_neg (fun q => h q.2)]
    split
    · rename_i o ho
      split
      · rename_i ha
        obtain ⟨h1, h2⟩ := ask_parts ha hs
        exact absurd (by rw [h1, spec_back h2, ha]) h
      · rfl
    · rfl
theorem parts_mem {b : UInt8} : ∀ {s p : Str}, p ∈ parts b s → p.length ≤ s.length
  | [], p, h => by simp [parts] at h; subst h; simp
  | c :: s, p, h => by
    rw [parts] at h
    split at h
    · rcases List.mem_cons.1 h with rfl | h
      · simp
      · have := parts_mem h; simp; omega
    · split at h
      · rename_i q qs e
        rcases List.mem_cons.1 h with rfl | h
        · have := parts_mem (s := s) (p := q) (b := b) (by rw [e]; simp); simp; omega
        · have := parts_mem (s := s) (p := p) (b := b) (by rw [e]; simp [h]); simp; omega
      · simp at h; subst h; simp
theorem isLow_lo {c : UInt8} : ((c.toNat : Int) < 97) → isLow c = false := fun h => by simp [isLow]; omega
def ir_spec_l18Term : L :=
  .seq (
  .reg [.al 2 [.str [], .str [], .int .i64 0]]) (
  .seq (
  .seq (
  .reg [.mv 3 (.c (.int .i64 0))]) (
  .blk 0 (
    .loop (
      .seq (
      .seq (
      .reg [.mv 6 (.t 3),
        .mv 7 (.t 0),
        .ls 8 (.t 7),
        .bi 9 .lss (.t 6) (.t 8)]) (
      .cond (.t 9) (
        .skip) (
        .exit 0))) (
      .seq (
      .blk 1 (
        .seq (
        .reg [.mv 12 (.t 0),
          .mv 13 (.t 3),
          .ix 14 (.t 12) (.t 13),
          .bi 15 .lss (.t 14) (.c (.int .u8 97)),
          .mv 16 (.t 15),
          .g 16 false (.mv 17 (.t 0)),
          .g 16 false (.mv 18 (.t 3)),
          .g 16 false (.ix 19 (.t 17) (.t 18)),
          .g 16 false (.bi 20 .gtr (.t 19) (.c (.int .u8 122))),
          .pk 21 (.t 16) (.c (.bool true)) (.t 20)]) (
        .cond (.t 21) (
          .seq (
          .reg [.mv 23 (.t 0),
            .mv 24 (.t 3),
            .bi 25 .add (.t 24) (.c (.int .i64 1)),
            .ss 26 (.t 23) (some (.t 25)) none,
            .cq 27 F.spec_TextNum [(.t 26)],
            .mv 22 (.t 27),
            .ex 28 (.t 22) 0,
            .ex 29 (.t 22) 1,
            .mv 4 (.t 28),
            .mv 5 (.t 29)]) (
          .seq (
          .rq 10 [.mv 30 (.t 0),
            .mv 31 (.t 3),
            .ss 32 (.t 30) none (some (.t 31)),
            .mv 33 (.t 0),
            .mv 34 (.t 3),
            .mv 35 (.t 3),
            .bi 36 .add (.t 35) (.c (.int .i64 1)),
            .ss 37 (.t 33) (some (.t 34)) (some (.t 36)),
            .mv 38 (.t 4),
            .bd 39 [.str [], .str [], .int .i64 0] [(0, 1, (.t 32)), (1, 1, (.t 37)), (2, 1, (.t 38))],
            .st (.t 2) (.t 39) 3]) (
          .ret))) (
          .skip)))) (
      .reg [.mv 10 (.t 3),
        .bi 11 .add (.t 10) (.c (.int .i64 1)),
        .mv 3 (.t 11)])))))) (
  .seq (
  .reg [.bd 40 [.str [], .str [], .int .i64 0] [],
    .st (.t 2) (.t 40) 3]) (
  .ret)))
def rs_spec_l18Term : List Rv := [.c 2 3 true]
theorem ck_spec_l18Term : chkFn Try.prog F.spec_l18Term 1 ir_spec_l18Term rs_spec_l18Term = true := by kernel_rfl
set_option maxRecDepth 10000 in
theorem spec_l18Term_ok (w : Str) (hw : w.length ≤ 1048576) : Snd Try.prog F.spec_l18Term [.str w] (eTerm (specTerm w)) [] := by
  refine snd_by ck_spec_l18Term rfl (by simp) (den_W ?_)
  unfold ir_spec_l18Term rs_spec_l18Term
  simp
  refine W_rng w.length (fun i s => (∀ k, k < i → ∀ h, (!isLow (w[k]'h)) = false) ∧ s.e 0 = .str w ∧ s.e 2 = .ptr 2 0 ∧ s.bx 2 = some [.str [], .str [], .int .i64 0] ∧ s.e 3 = .int .i64 (i : Nat)) ?_ ?_
  · simp
  rintro i s hi ⟨hn, h0, h2, hb, h3⟩
  by_cases h : i < w.length
  · have hout : isLow w[i] = false → specTerm w = cutTerm w i := fun hl => by unfold specTerm; rw [find_some h (by rw [hl]; rfl) hn]
    have hws := wrap_succ h (by omega : w.length ≤ 9223372036854775807)
    have hle : i + 1 ≤ w.length := h
    by_cases h97 : (w[i].toNat : Int) < 97
    · simp [h0, h2, hb, h3, h, h97, hws, hle]
      refine do_cq (spec_TextNum_ok (w.drop (i + 1))) (by simp [St.args]) ?_
      simp [h0, h2, hb, h3, hws, hle, hi, hout (by simp [isLow]; omega), cutTerm]
    · by_cases h122 : (122 : Int) < w[i].toNat
      · simp [h0, h2, hb, h3, h, h97, h122, hws, hle]
        refine do_cq (spec_TextNum_ok (w.drop (i + 1))) (by simp [St.args]) ?_
        simp [h0, h2, hb, h3, hws, hle, hi, hout (by simp [isLow]; omega), cutTerm]
      · simp [h0, h2, hb, h3, h, h97, h122]
        refine rng_next h ?_
        have hl : isLow w[i] = true := by simp [isLow]; omega
        simp [h0, h2, hb, hws]
        intro k hk hk'
        by_cases e : k = i
        · subst e; exact hl
        · have := hn k (by omega) hk'; simpa using this
  · have : i = w.length := by omega
    subst this
    simp [h0, h2, hb, h3, specTerm, find_none (p := fun c => !isLow c) hn]
def ir_spec_TextAsk : L :=
  .seq (
  .reg [.mv 2 (.c (.nl)),
    .mv 3 (.c (.bool false))]) (
  .seq (
  .reg [.bs 7 3 [] true,
    .mv 4 (.t 7)]) (
  .seq (
  .seq (
  .reg [.mv 8 (.t 0),
    .cq 9 F.spec_Parts [(.t 8), (.c (.int .u8 32))],
    .ln 10 (.t 9),
    .mv 11 (.c (.int .i64 0))]) (
  .blk 0 (
    .loop (
      .seq (
      .reg [.bi 12 .lss (.t 11) (.t 10)]) (
      .seq (
      .cond (.t 12) (
        .skip) (
        .exit 0)) (
      .seq (
      .blk 1 (
        .seq (
        .reg [.ia 13 (.t 9) (.t 11) 1,
          .ld 14 (.t 13) 1 false,
          .mv 6 (.t 14)]) (
        .reg [.mv 15 (.t 4),
          .mv 16 (.t 6),
          .cq 17 F.spec_l18Term [(.t 16)],
          .bs 18 3 [(.t 17)] false,
          .ap 19 (.t 15) (.t 18) 3 40,
          .mv 4 (.t 19)]))) (
      .reg [.bi 20 .add (.t 11) (.c (.int .i64 1)),
        .mv 11 (.t 20)]))))))) (
  .seq (
  .seq (
  .reg [.mv 21 (.t 0),
    .bi 22 .eql (.t 21) (.c (.str [])),
    .mv 23 (.t 22),
    .g 23 false (.mv 24 (.t 4)),
    .g 23 false (.cq 25 F.spec_AskText [(.t 24)]),
    .g 23 false (.mv 26 (.t 0)),
    .g 23 false (.bi 27 .neq (.t 25) (.t 26)),
    .pk 28 (.t 23) (.c (.bool true)) (.t 27)]) (
  .cond (.t 28) (
    .seq (
    .reg [.mv 2 (.c (.nl)),
      .mv 3 (.c (.bool false))]) (
    .ret)) (
    .skip))) (
  .seq (
  .reg [.mv 29 (.t 4),
    .mv 2 (.t 29),
    .mv 3 (.c (.bool true))]) (
  .ret)))))
def rs_spec_TextAsk : List Rv := [.t 2, .t 3]
theorem ck_spec_TextAsk : chkFn Try.prog F.spec_TextAsk 1 ir_spec_TextAsk rs_spec_TextAsk = true := by kernel_rfl
theorem spec_TextAsk_ok (s : Str) (hs : s.length ≤ 1048576) : Snd Try.prog F.spec_TextAsk [.str s] (.tup [.sref 0, .bool (textAsk s).2]) [⟨3, (textAsk s).1.map eTerm, false⟩] := by
  refine snd_by ck_spec_TextAsk rfl (by simp) (den_W ?_)
  unfold ir_spec_TextAsk rs_spec_TextAsk
  simp
  refine do_cq (spec_Parts_ok s 32 (by omega)) (by simp [St.args]) ?_
  simp
  intro hpl
  have hps := parts_len 32 s
  have hpm : ∀ p ∈ parts 32 s, p.length ≤ s.length := fun p hp => parts_mem hp
  generalize hP : parts 32 s = ps at hps hpm
  obtain ⟨os, hos⟩ : ∃ os, os = ps.map specTerm := ⟨_, rfl⟩
  have hol : os.length = ps.length := by rw [hos]; simp
  have hoi : ∀ i (h : i < os.length), os[i] = specTerm (ps[i]'(by omega)) := by subst hos; intro i h; simp
  have hta : textAsk s = if s ≠ [] ∧ askText os = s then (os, true) else ([], false) := by unfold textAsk; rw [hP, hos]
  refine W_rng ps.length (fun i t => t.e 0 = .str s ∧ t.e 4 = .sref 7 ∧ t.rw 7 = some ⟨3, (os.take i).map eTerm, false⟩ ∧ t.e 9 = .sl .nw 1 (ps.map eS) ∧ t.e 10 = .int .i64 ps.length ∧ t.e 11 = .int .i64 (i : Nat)) ?_ ?_
  · simp
  rintro i t hi ⟨h0, h4, hr, h9, h10, h11⟩
  by_cases h : i < ps.length
  · simp [h0, h4, h9, h10, h11, h]
    refine do_cq (spec_l18Term_ok ps[i] (by have := hpm _ (List.getElem_mem h); omega)) (by simp [St.args]) ?_
    simp [hr, h11]
    refine ⟨by omega, rng_next h ?_⟩
    simp [h0, h9, h10, wrap_succ h (by omega : ps.length ≤ 9223372036854775807)]
    rw [List.take_succ_eq_append_getElem (by simp; omega)]; simp [hoi]
  · have : i = ps.length := by omega
    subst this
    rw [List.take_of_length_le (by omega)] at hr
    simp [h0, h9, h10, h11]
    by_cases he : s = []
    · simp [he]
      exact post_retO [none] (by simp [textAsk])
    simp [he]
    refine do_cq (spec_AskText_ok os) (by simp [St.args, h4, hr]) ?_
    simp [h0]
    by_cases ha : askText os = s
    · simp [ha, h4]
      exact post_ret [7] (by simp [hta, he, ha, hr])
    · simp [ha]
      exact post_retO [none] (by simp [hta, ha])
def ir_impl_TextAsk : L :=
  .seq (
  .reg [.mv 2 (.c (.nl)),
    .mv 3 (.c (.bool false))]) (
  .seq (
  .reg [.bs 9 3 [] true,
    .mv 4 (.t 9)]) (
  .seq (
  .seq (
  .reg [.mv 10 (.t 0),
    .cq 11 F.impl_Parts [(.t 10), (.c (.int .u8 32))],
    .ln 12 (.t 11),
    .mv 13 (.c (.int .i64 0))]) (
  .blk 0 (
    .loop (
      .seq (
      .reg [.bi 14 .lss (.t 13) (.t 12)]) (
      .seq (
      .cond (.t 14) (
        .skip) (
        .exit 0)) (
      .seq (
      .blk 1 (
        .seq (
        .reg [.ia 15 (.t 11) (.t 13) 1,
          .ld 16 (.t 15) 1 false,
          .mv 6 (.t 16)]) (
        .seq (
        .reg [.mv 7 (.c (.int .i64 0))]) (
        .seq (
        .blk 2 (
          .loop (
            .seq (
            .seq (
            .reg [.mv 17 (.t 7),
              .mv 18 (.t 6),
              .ls 19 (.t 18),
              .bi 20 .lss (.t 17) (.t 19),
              .mv 21 (.t 20),
              .g 21 true (.mv 22 (.t 6)),
              .g 21 true (.mv 23 (.t 7)),
              .g 21 true (.mv 24 (.t 7)),
              .g 21 true (.bi 25 .add (.t 24) (.c (.int .i64 1))),
              .g 21 true (.ss 26 (.t 22) (some (.t 23)) (some (.t 25))),
              .g 21 true (.cq 27 F.impl_isOp [(.t 26)]),
              .g 21 true (.un 28 (.t 27)),
              .pk 29 (.t 21) (.t 28) (.c (.bool false))]) (
            .cond (.t 29) (
              .skip) (
              .exit 2))) (
            .blk 3 (
              .reg [.mv 30 (.t 7),
                .bi 31 .add (.t 30) (.c (.int .i64 1)),
                .mv 7 (.t 31)]))))) (
        .seq (
        .seq (
        .reg [.mv 32 (.t 7),
          .mv 33 (.t 6),
          .ls 34 (.t 33),
          .bi 35 .eql (.t 32) (.t 34)]) (
        .cond (.t 35) (
          .seq (
          .reg [.mv 2 (.c (.nl)),
            .mv 3 (.c (.bool false))]) (
          .ret)) (
          .skip))) (
        .seq (
        .rq 10 [.mv 36 (.t 6),
          .mv 37 (.t 7),
          .ss 38 (.t 36) none (some (.t 37)),
          .mv 39 (.t 6),
          .mv 40 (.t 7),
          .mv 41 (.t 7),
          .bi 42 .add (.t 41) (.c (.int .i64 1)),
          .ss 43 (.t 39) (some (.t 40)) (some (.t 42)),
          .bd 44 [.str [], .str [], .int .i64 0] [(0, 1, (.t 38)), (1, 1, (.t 43))],
          .al 8 [.str [], .str [], .int .i64 0],
          .st (.t 8) (.t 44) 3]) (
        .seq (
        .reg [.mv 46 (.t 6),
          .mv 47 (.t 7),
          .bi 48 .add (.t 47) (.c (.int .i64 1)),
          .ss 49 (.t 46) (some (.t 48)) none,
          .cq 50 F.impl_TextNum [(.t 49)],
          .mv 45 (.t 50),
          .ex 51 (.t 45) 0,
          .ex 52 (.t 45) 1,
          .fa 53 (.t 8) 2,
          .st (.t 53) (.t 51) 1]) (
        .reg [.mv 54 (.t 4),
          .ld 55 (.t 8) 3 true,
          .bs 56 3 [(.t 55)] false,
          .ap 57 (.t 54) (.t 56) 3 40,
          .mv 4 (.t 57)])))))))) (
      .reg [.bi 58 .add (.t 13) (.c (.int .i64 1)),
        .mv 13 (.t 58)]))))))) (
  .seq (
  .seq (
  .reg [.mv 59 (.t 4),
    .cq 60 F.impl_AskText [(.t 59)],
    .mv 61 (.t 0),
    .bi 62 .neq (.t 60) (.t 61)]) (
  .cond (.t 62) (
    .seq (
    .reg [.mv 2 (.c (.nl)),
      .mv 3 (.c (.bool false))]) (
    .ret)) (
    .skip))) (
  .seq (
  .reg [.mv 63 (.t 4),
    .mv 2 (.t 63),
    .mv 3 (.c (.bool true))]) (
  .ret)))))
def rs_impl_TextAsk : List Rv := [.t 2, .t 3]
theorem ck_impl_TextAsk : chkFn Try.prog F.impl_TextAsk 1 ir_impl_TextAsk rs_impl_TextAsk = true := by kernel_rfl
set_option maxRecDepth 10000 in
theorem impl_TextAsk_ok (s : Str) (hs : s.length ≤ 1048576) : Snd Try.prog F.impl_TextAsk [.str s] (.tup [.sref 0, .bool (textAsk s).2]) [⟨3, (textAsk s).1.map eTerm, false⟩] := by
  refine snd_by ck_impl_TextAsk rfl (by simp) (den_W ?_)
  unfold ir_impl_TextAsk rs_impl_TextAsk
  rw [← textAsk_eq]
  simp
  refine do_cq (impl_Parts_ok s 32 (by omega)) (by simp [St.args]) ?_
  simp
  intro hpl
  have hps := parts_len 32 s
  have hpm : ∀ p ∈ parts 32 s, p.length ≤ s.length := fun p hp => parts_mem hp
  generalize hP : parts 32 s = ps at hps hpm
  refine W_rng ps.length (fun i t => ∃ o, implAll (ps.take i) = some o ∧ o.length ≤ i ∧ t.e 0 = .str s ∧ t.e 4 = .sref 9 ∧ t.rw 9 = some ⟨3, o.map eTerm, false⟩ ∧ t.e 11 = .sl .nw 1 (ps.map eS) ∧ t.e 12 = .int .i64 ps.length ∧ t.e 13 = .int .i64 (i : Nat)) ?_ ?_
  · exact ⟨[], by simp [implAll]⟩
  rintro i t hi ⟨o, hoo, hol, h0, h4, hr, h11, h12, h13⟩
  by_cases h : i < ps.length
  · simp [h4, h11, h12, h13, h]
    have hwl : ps[i].length ≤ 1048576 := by have := hpm _ (List.getElem_mem h); omega
    have hbad : implTerm ps[i] = none → textAskI s = ([], false) := fun hb => by unfold textAskI; rw [hP, implAll_bad h hb]
    generalize hw : ps[i] = w at hwl hbad
    refine W_rng w.length (fun k t => (∀ j, j < k → ∀ h, isOp [w[j]'h] = false) ∧ t.e 0 = .str s ∧ t.e 4 = .sref 9 ∧ t.rw 9 = some ⟨3, o.map eTerm, false⟩ ∧ t.e 11 = .sl .nw 1 (ps.map eS) ∧ t.e 12 = .int .i64 ps.length ∧ t.e 13 = .int .i64 (i : Nat) ∧ t.e 6 = .str w ∧ t.e 7 = .int .i64 (k : Nat)) ?_ ?_
    · simp [h0, h4, hr, h11, h12, h13]
    clear h0 h4 hr h11 h12 h13 t
    rintro k t hk ⟨hn, h0, h4, hr, h11, h12, h13, h6, h7⟩
    by_cases h' : k < w.length
    · have hws := wrap_succ h' (by omega : w.length ≤ 9223372036854775807)
      have hle : k + 1 ≤ w.length := h'
      simp [h6, h7, h', hws, hle]
      have e1 : (w.take (k + 1)).drop k = [w[k]] := by
        rw [List.take_succ_eq_append_getElem h', List.drop_append_of_le_length (by simp; omega)]; simp
      refine do_cq (isOp_ok [w[k]]) (by simp [St.args, e1]) ?_
      cases hop : isOp [w[k]]
      · simp [h7]
        refine rng_next h' ?_
        simp [h0, h4, hr, h11, h12, h13, h6, hws]
        intro j hj hj'
        by_cases e : j = k
        · subst e; exact hop
        · exact hn j (by omega) hj'
      · have hne : ¬ (k : Int) = w.length := by omega
        have hx : implTerm w = some (cutTerm w k) := by unfold implTerm; rw [find_some h' hop hn]
        simp [h6, h7, hne, hk, hws, hle]
        refine do_cq (impl_TextNum_ok (w.drop (k + 1))) (by simp [St.args]) ?_
        simp [h4, hr, h13]
        refine ⟨by omega, rng_next h ⟨o ++ [cutTerm w k], implAll_succ h hoo (by rw [hw]; exact hx), by simp; omega, ?_⟩⟩
        simp [h0, h11, h12, wrap_succ h (by omega : ps.length ≤ 9223372036854775807), cutTerm]
    · have : k = w.length := by omega
      subst this
      simp [h6, h7]
      have := hbad (by unfold implTerm; rw [find_none hn])
      exact post_retO [none] (by simp [this])
  · have : i = ps.length := by omega
    subst this
    rw [List.take_of_length_le (Nat.le_refl _)] at hoo
    simp [h4, h11, h12, h13]
    refine do_cq (impl_AskText_ok o) (by simp [St.args, hr]) ?_
    simp [h0]
    by_cases ha : askText o = s
    · simp [ha, h4]
      exact post_ret [9] (by simp [textAskI, hP, hoo, ha, hr])
    · simp [ha]
      exact post_retO [none] (by simp [textAskI, hP, hoo, ha])
end Go.Proofs.Ythbbieobcokgbaa
