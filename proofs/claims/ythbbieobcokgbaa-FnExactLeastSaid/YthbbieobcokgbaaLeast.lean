/-
  Least, of the specification and of the program, and its law.
-/
import Derived.Test.YthbbieobcokgbaaQueue
import Derived.Test.YthbbieobcokgbaaFields
namespace Go.Proofs.Ythbbieobcokgbaa
open Go Go.RowKit Eng
theorem foldl_take_succ {α β : Type} (f : β → α → β) (b : β) {l : List α} {i : Nat} (h : i < l.length) : (l.take (i + 1)).foldl f b = f ((l.take i).foldl f b) l[i] := by
  rw [List.take_succ_eq_append_getElem h, List.foldl_append]; rfl
def less (name : Str) (b j : Job) : Job := if (fieldV j name).1 < (fieldV b name).1 then j else b
def least (l : List Job) (name : Str) : Job × Bool := match l with
  | [] => (job0, false)
  | x :: l => if queueOk (x :: l) = true ∧ (fieldV job0 name).2 = true then ((x :: l).foldl (less name) x, true) else (job0, false)
theorem least_eq {l : List Job} (h : 0 < l.length) (name : Str) : least l name = if queueOk l = true ∧ (fieldV job0 name).2 = true then (l.foldl (less name) l[0], true) else (job0, false) := by
  cases l with
  | nil => simp at h
  | cons x l => rfl
theorem least_bad {l : List Job} {name : Str} (h : queueOk l = false ∨ (fieldV job0 name).2 = false ∨ l = []) : least l name = (job0, false) := by
  cases l with
  | nil => rfl
  | cons x l =>
    rw [least_eq (by simp), if_neg]
    rintro ⟨h1, h2⟩
    rcases h with h | h | h
    · rw [h] at h1; cases h1
    · rw [h] at h2; cases h2
    · cases h
def ir_spec_Least : L :=
  .seq (
  .reg [.al 4 [.int .i64 0, .int .i64 0, .int .i64 0, .int .i64 0, .int .i64 0, .int .i64 0, .int .i64 0, .int .i64 0, .int .i64 0, .int .i64 0, .int .i64 0],
    .mv 5 (.c (.bool false))]) (
  .seq (
  .reg [.bd 16 [.int .i64 0, .int .i64 0, .int .i64 0, .int .i64 0, .int .i64 0, .int .i64 0, .int .i64 0, .int .i64 0, .int .i64 0, .int .i64 0, .int .i64 0] [],
    .mv 17 (.t 1),
    .cq 18 F.spec_l18Field [(.t 16), (.t 17)],
    .mv 15 (.t 18),
    .ex 19 (.t 15) 0,
    .ex 20 (.t 15) 1,
    .mv 6 (.t 19),
    .mv 7 (.t 20)]) (
  .seq (
  .seq (
  .reg [.mv 21 (.t 0),
    .cq 22 F.spec_QueueOk [(.t 21)],
    .un 23 (.t 22),
    .mv 24 (.t 23),
    .g 24 false (.mv 25 (.t 0)),
    .g 24 false (.ln 26 (.t 25)),
    .g 24 false (.bi 27 .eql (.t 26) (.c (.int .i64 0))),
    .pk 28 (.t 24) (.c (.bool true)) (.t 27),
    .mv 29 (.t 28),
    .g 29 false (.mv 30 (.t 7)),
    .g 29 false (.un 31 (.t 30)),
    .pk 32 (.t 29) (.c (.bool true)) (.t 31)]) (
  .cond (.t 32) (
    .seq (
    .reg [.bd 33 [.int .i64 0, .int .i64 0, .int .i64 0, .int .i64 0, .int .i64 0, .int .i64 0, .int .i64 0, .int .i64 0, .int .i64 0, .int .i64 0, .int .i64 0] [],
      .st (.t 4) (.t 33) 11,
      .mv 5 (.c (.bool false))]) (
    .ret)) (
    .skip))) (
  .seq (
  .reg [.mv 34 (.t 0),
    .ia 35 (.t 34) (.c (.int .i64 0)) 11,
    .ld 36 (.t 35) 11 true,
    .al 8 [.int .i64 0, .int .i64 0, .int .i64 0, .int .i64 0, .int .i64 0, .int .i64 0, .int .i64 0, .int .i64 0, .int .i64 0, .int .i64 0, .int .i64 0],
    .st (.t 8) (.t 36) 11]) (
  .seq (
  .seq (
  .reg [.mv 37 (.t 0),
    .ln 38 (.t 37),
    .mv 39 (.c (.int .i64 0))]) (
  .blk 0 (
    .loop (
      .seq (
      .reg [.bi 40 .lss (.t 39) (.t 38)]) (
      .seq (
      .cond (.t 40) (
        .skip) (
        .exit 0)) (
      .seq (
      .blk 1 (
        .seq (
        .reg [.ia 41 (.t 37) (.t 39) 11,
          .ld 42 (.t 41) 11 true,
          .al 10 [.int .i64 0, .int .i64 0, .int .i64 0, .int .i64 0, .int .i64 0, .int .i64 0, .int .i64 0, .int .i64 0, .int .i64 0, .int .i64 0, .int .i64 0],
          .st (.t 10) (.t 42) 11]) (
        .seq (
        .reg [.ld 44 (.t 10) 11 true,
          .mv 45 (.t 1),
          .cq 46 F.spec_l18Field [(.t 44), (.t 45)],
          .mv 43 (.t 46),
          .ex 47 (.t 43) 0,
          .ex 48 (.t 43) 1,
          .mv 11 (.t 47),
          .mv 12 (.t 48)]) (
        .seq (
        .reg [.ld 50 (.t 8) 11 true,
          .mv 51 (.t 1),
          .cq 52 F.spec_l18Field [(.t 50), (.t 51)],
          .mv 49 (.t 52),
          .ex 53 (.t 49) 0,
          .ex 54 (.t 49) 1,
          .mv 13 (.t 53),
          .mv 14 (.t 54)]) (
        .seq (
        .reg [.mv 55 (.t 11),
          .mv 56 (.t 13),
          .bi 57 .lss (.t 55) (.t 56)]) (
        .cond (.t 57) (
          .reg [.ld 58 (.t 10) 11 true,
            .st (.t 8) (.t 58) 11]) (
          .skip))))))) (
      .reg [.bi 59 .add (.t 39) (.c (.int .i64 1)),
        .mv 39 (.t 59)]))))))) (
  .seq (
  .reg [.ld 60 (.t 8) 11 true,
    .st (.t 4) (.t 60) 11,
    .mv 5 (.c (.bool true))]) (
  .ret))))))
def rs_spec_Least : List Rv := [.c 4 11 true, .t 5]
theorem ck_spec_Least : chkFn Try.prog F.spec_Least 2 ir_spec_Least rs_spec_Least = true := by kernel_rfl
set_option maxRecDepth 10000 in
theorem spec_Least_ok (l : List Job) (name : Str) : Snd Try.prog F.spec_Least [.sl .rd 11 (l.map eJob), .str name] (.tup [eJob (least l name).1, .bool (least l name).2]) [] := by
  refine snd_by ck_spec_Least rfl (by simp) (den_W ?_)
  unfold ir_spec_Least rs_spec_Least
  simp
  refine do_cq (spec_l18Field_ok job0 name) (by simp [St.args, job0]) ?_
  simp
  refine do_cq (spec_QueueOk_ok l) (by simp [St.args]) ?_
  cases hq : queueOk l
  · simp [least_bad (.inl hq), job0]
  simp
  intro hl
  by_cases h0 : 0 < l.length
  rotate_left
  · have : l = [] := List.eq_nil_of_length_eq_zero (by omega)
    simp [least_bad (name := name) (.inr (.inr this)), job0]
    simp [this]
  have hne : ¬ l = [] := fun e => by subst e; simp at h0
  simp [hne]
  cases hk : (fieldV job0 name).2
  · simp [least_bad (.inr (.inl hk)), job0]
  simp [h0]
  intro _
  refine W_rng l.length (fun i s => s.e 1 = .str name ∧ s.e 4 = .ptr 4 0 ∧ s.bx 4 = some (eJob job0).cells ∧ s.e 8 = .ptr 8 0 ∧ s.bx 8 = some (eJob ((l.take i).foldl (less name) l[0])).cells ∧ s.e 37 = .sl .rd 11 (l.map eJob) ∧ s.e 38 = .int .i64 l.length ∧ s.e 39 = .int .i64 (i : Nat)) ?_ ?_
  · simp [job0]
  · rintro i s hi ⟨h1, h4, hb4, h8, hb8, h37, h38, h39⟩
    by_cases h : i < l.length
    · simp [h1, h4, hb4, h8, hb8, h37, h38, h39, h]
      generalize hb : (l.take i).foldl (less name) l[0] = b at *
      refine do_cq (spec_l18Field_ok l[i] name) (by simp [St.args]) ?_
      simp [h1, h8, hb8]
      refine do_cq (spec_l18Field_ok b name) (by simp [St.args]) ?_
      simp [h8, hb8, h39]
      refine ⟨fun hlt => ?_, fun hlt => ?_⟩
      · refine rng_next h ?_
        simp [h1, h4, hb4, h8, h37, h38, wrap_succ h hl, foldl_take_succ _ _ h, hb, less, hlt]
      · refine rng_next h ?_
        have hlt' : ¬ (fieldV l[i] name).1 < (fieldV b name).1 := by omega
        simp [h1, h4, hb4, h8, hb8, h37, h38, wrap_succ h hl, foldl_take_succ _ _ h, hb, less, hlt']
    · have : i = l.length := by omega
      subst this
      simp [h4, hb4, h8, hb8, h37, h38, h39, least_eq h0, hq, hk]
def ir_impl_Least : L :=
  .seq (
  .reg [.al 4 [.int .i64 0, .int .i64 0, .int .i64 0, .int .i64 0, .int .i64 0, .int .i64 0, .int .i64 0, .int .i64 0, .int .i64 0, .int .i64 0, .int .i64 0],
    .mv 5 (.c (.bool false))]) (
  .seq (
  .seq (
  .reg [.bd 16 [.int .i64 0, .int .i64 0, .int .i64 0, .int .i64 0, .int .i64 0, .int .i64 0, .int .i64 0, .int .i64 0, .int .i64 0, .int .i64 0, .int .i64 0] [],
    .mv 17 (.t 1),
    .cq 18 F.impl_field [(.t 16), (.t 17)],
    .mv 15 (.t 18),
    .ex 19 (.t 15) 0,
    .ex 20 (.t 15) 1,
    .mv 6 (.t 19),
    .mv 7 (.t 20)]) (
  .seq (
  .reg [.mv 21 (.t 7),
    .un 22 (.t 21),
    .mv 23 (.t 22),
    .g 23 false (.mv 24 (.t 0)),
    .g 23 false (.cq 25 F.impl_QueueOk [(.t 24)]),
    .g 23 false (.un 26 (.t 25)),
    .pk 27 (.t 23) (.c (.bool true)) (.t 26),
    .mv 28 (.t 27),
    .g 28 false (.mv 29 (.t 0)),
    .g 28 false (.ln 30 (.t 29)),
    .g 28 false (.bi 31 .eql (.t 30) (.c (.int .i64 0))),
    .pk 32 (.t 28) (.c (.bool true)) (.t 31)]) (
  .cond (.t 32) (
    .seq (
    .reg [.bd 33 [.int .i64 0, .int .i64 0, .int .i64 0, .int .i64 0, .int .i64 0, .int .i64 0, .int .i64 0, .int .i64 0, .int .i64 0, .int .i64 0, .int .i64 0] [],
      .st (.t 4) (.t 33) 11,
      .mv 5 (.c (.bool false))]) (
    .ret)) (
    .skip)))) (
  .seq (
  .reg [.mv 34 (.t 0),
    .ia 35 (.t 34) (.c (.int .i64 0)) 11,
    .ld 36 (.t 35) 11 true,
    .al 8 [.int .i64 0, .int .i64 0, .int .i64 0, .int .i64 0, .int .i64 0, .int .i64 0, .int .i64 0, .int .i64 0, .int .i64 0, .int .i64 0, .int .i64 0],
    .st (.t 8) (.t 36) 11]) (
  .seq (
  .seq (
  .reg [.mv 37 (.t 0),
    .ln 38 (.t 37),
    .mv 39 (.c (.int .i64 0))]) (
  .blk 0 (
    .loop (
      .seq (
      .reg [.bi 40 .lss (.t 39) (.t 38)]) (
      .seq (
      .cond (.t 40) (
        .skip) (
        .exit 0)) (
      .seq (
      .blk 1 (
        .seq (
        .reg [.ia 41 (.t 37) (.t 39) 11,
          .ld 42 (.t 41) 11 true,
          .al 10 [.int .i64 0, .int .i64 0, .int .i64 0, .int .i64 0, .int .i64 0, .int .i64 0, .int .i64 0, .int .i64 0, .int .i64 0, .int .i64 0, .int .i64 0],
          .st (.t 10) (.t 42) 11]) (
        .seq (
        .reg [.ld 44 (.t 10) 11 true,
          .mv 45 (.t 1),
          .cq 46 F.impl_field [(.t 44), (.t 45)],
          .mv 43 (.t 46),
          .ex 47 (.t 43) 0,
          .ex 48 (.t 43) 1,
          .mv 11 (.t 47),
          .mv 12 (.t 48)]) (
        .seq (
        .reg [.ld 50 (.t 8) 11 true,
          .mv 51 (.t 1),
          .cq 52 F.impl_field [(.t 50), (.t 51)],
          .mv 49 (.t 52),
          .ex 53 (.t 49) 0,
          .ex 54 (.t 49) 1,
          .mv 13 (.t 53),
          .mv 14 (.t 54)]) (
        .seq (
        .reg [.mv 55 (.t 11),
          .mv 56 (.t 13),
          .bi 57 .lss (.t 55) (.t 56)]) (
        .cond (.t 57) (
          .reg [.ld 58 (.t 10) 11 true,
            .st (.t 8) (.t 58) 11]) (
          .skip))))))) (
      .reg [.bi 59 .add (.t 39) (.c (.int .i64 1)),
        .mv 39 (.t 59)]))))))) (
  .seq (
  .reg [.ld 60 (.t 8) 11 true,
    .st (.t 4) (.t 60) 11,
    .mv 5 (.c (.bool true))]) (
  .ret)))))
def rs_impl_Least : List Rv := [.c 4 11 true, .t 5]
theorem ck_impl_Least : chkFn Try.prog F.impl_Least 2 ir_impl_Least rs_impl_Least = true := by kernel_rfl
set_option maxRecDepth 10000 in
theorem impl_Least_ok (l : List Job) (name : Str) : Snd Try.prog F.impl_Least [.sl .rd 11 (l.map eJob), .str name] (.tup [eJob (least l name).1, .bool (least l name).2]) [] := by
  refine snd_by ck_impl_Least rfl (by simp) (den_W ?_)
  unfold ir_impl_Least rs_impl_Least
  simp
  refine do_cq (impl_field_ok job0 name) (by simp [St.args, job0]) ?_
  simp
  cases hk : (fieldV job0 name).2
  · simp [least_bad (.inr (.inl hk)), job0]
  simp
  refine do_cq (impl_QueueOk_ok l) (by simp [St.args]) ?_
  cases hq : queueOk l
  · simp [least_bad (.inl hq), job0]
  simp
  intro hl
  by_cases h0 : 0 < l.length
  rotate_left
  · have : l = [] := List.eq_nil_of_length_eq_zero (by omega)
    simp [least_bad (name := name) (.inr (.inr this)), job0]
    simp [this]
  have hne : ¬ l = [] := fun e => by subst e; simp at h0
  simp [hne]
  simp [h0]
  intro _
  refine W_rng l.length (fun i s => s.e 1 = .str name ∧ s.e 4 = .ptr 4 0 ∧ s.bx 4 = some (eJob job0).cells ∧ s.e 8 = .ptr 8 0 ∧ s.bx 8 = some (eJob ((l.take i).foldl (less name) l[0])).cells ∧ s.e 37 = .sl .rd 11 (l.map eJob) ∧ s.e 38 = .int .i64 l.length ∧ s.e 39 = .int .i64 (i : Nat)) ?_ ?_
  · simp [job0]
  · rintro i s hi ⟨h1, h4, hb4, h8, hb8, h37, h38, h39⟩
    by_cases h : i < l.length
    · simp [h1, h4, hb4, h8, hb8, h37, h38, h39, h]
      generalize hb : (l.take i).foldl (less name) l[0] = b at *
      refine do_cq (impl_field_ok l[i] name) (by simp [St.args]) ?_
      simp [h1, h8, hb8]
      refine do_cq (impl_field_ok b name) (by simp [St.args]) ?_
      simp [h8, hb8, h39]
      refine ⟨fun hlt => ?_, fun hlt => ?_⟩
      · refine rng_next h ?_
        simp [h1, h4, hb4, h8, h37, h38, wrap_succ h hl, foldl_take_succ _ _ h, hb, less, hlt]
      · refine rng_next h ?_
        have hlt' : ¬ (fieldV l[i] name).1 < (fieldV b name).1 := by omega
        simp [h1, h4, hb4, h8, hb8, h37, h38, wrap_succ h hl, foldl_take_succ _ _ h, hb, less, hlt']
    · have : i = l.length := by omega
      subst this
      simp [h4, hb4, h8, hb8, h37, h38, h39, least_eq h0, hq, hk]
def ir_laws_FnExactLeast : L :=
  .seq (
  .reg [.mv 4 (.c (.bool false))]) (
  .seq (
  .seq (
  .reg [.mv 11 (.t 1),
    .ls 12 (.t 11),
    .bi 13 .gtr (.t 12) (.c (.int .i64 1048576))]) (
  .cond (.t 13) (
    .seq (
    .reg [.mv 4 (.c (.bool true))]) (
    .ret)) (
    .skip))) (
  .seq (
  .reg [.mv 5 (.c (.int .i64 1048576))]) (
  .seq (
  .reg [.mv 14 (.t 0),
    .mv 15 (.t 5),
    .cq 16 F.laws_szJobS [(.t 14), (.t 15)],
    .mv 5 (.t 16)]) (
  .seq (
  .seq (
  .reg [.mv 17 (.t 5),
    .bi 18 .lss (.t 17) (.c (.int .i64 0))]) (
  .cond (.t 18) (
    .seq (
    .reg [.mv 4 (.c (.bool true))]) (
    .ret)) (
    .skip))) (
  .seq (
  .reg [.mv 20 (.t 0),
    .cq 21 F.laws_toJobS [(.t 20)],
    .mv 22 (.t 1),
    .cq 23 F.spec_Least [(.t 21), (.t 22)],
    .mv 19 (.t 23),
    .ex 24 (.t 19) 0,
    .ex 25 (.t 19) 1,
    .al 6 [.int .i64 0, .int .i64 0, .int .i64 0, .int .i64 0, .int .i64 0, .int .i64 0, .int .i64 0, .int .i64 0, .int .i64 0, .int .i64 0, .int .i64 0],
    .st (.t 6) (.t 24) 11,
    .mv 7 (.t 25)]) (
  .seq (
  .reg [.mv 26 (.t 0),
    .cq 27 F.laws_toJobS [(.t 26)],
    .mv 8 (.t 27)]) (
  .seq (
  .reg [.mv 29 (.t 8),
    .mv 30 (.t 1),
    .cq 31 F.impl_Least [(.t 29), (.t 30)],
    .mv 28 (.t 31),
    .ex 32 (.t 28) 0,
    .ex 33 (.t 28) 1,
    .al 9 [.int .i64 0, .int .i64 0, .int .i64 0, .int .i64 0, .int .i64 0, .int .i64 0, .int .i64 0, .int .i64 0, .int .i64 0, .int .i64 0, .int .i64 0],
    .st (.t 9) (.t 32) 11,
    .mv 10 (.t 33)]) (
  .seq (
  .seq (
  .reg [.ld 34 (.t 9) 11 true,
    .ld 35 (.t 6) 11 true,
    .cq 36 F.laws_eqJob [(.t 34), (.t 35)],
    .un 37 (.t 36),
    .mv 38 (.t 37),
    .g 38 false (.mv 39 (.t 10)),
    .g 38 false (.mv 40 (.t 7)),
    .g 38 false (.eb 41 true (.t 39) (.t 40)),
    .pk 42 (.t 38) (.c (.bool true)) (.t 41)]) (
  .cond (.t 42) (
    .seq (
    .reg [.mv 4 (.c (.bool false))]) (
    .ret)) (
    .skip))) (
  .seq (
  .seq (
  .reg [.mv 43 (.t 8),
    .mv 44 (.t 0),
    .cq 45 F.laws_toJobS [(.t 44)],
    .cq 46 F.laws_eqJobS [(.t 43), (.t 45)],
    .un 47 (.t 46)]) (
  .cond (.t 47) (
    .seq (
    .reg [.mv 4 (.c (.bool false))]) (
    .ret)) (
    .skip))) (
  .seq (
  .reg [.mv 4 (.c (.bool true))]) (
  .ret)))))))))))
def rs_laws_FnExactLeast : List Rv := [.t 4]
theorem ck_laws_FnExactLeast : chkFn Try.prog F.laws_FnExactLeast 2 ir_laws_FnExactLeast rs_laws_FnExactLeast = true := by kernel_rfl
theorem FnExactLeast_c (l : List Job) (name : Str) : Snd Try.prog F.laws_FnExactLeast [.sl .rd 11 (l.map eJob), .str name] (.bool true) [] := by
  refine snd_by ck_laws_FnExactLeast rfl (by simp) (den_W ?_)
  unfold ir_laws_FnExactLeast rs_laws_FnExactLeast
  simp
  refine fun _ => ?_
  refine do_cq (szJobS_ok l 1048576 (by omega) (by omega)) (by simp [St.args]) ?_
  simp
  intro hs
  obtain ⟨hl, _⟩ := szr_nn hs
  have hl : l.length ≤ 1048576 := by omega
  refine do_cq (toJobS_ok l hl) (by simp [St.args]) ?_
  simp
  refine do_cq (spec_Least_ok l name) (by simp [St.args]) ?_
  simp
  refine do_cq (toJobS_ok l hl) (by simp [St.args]) ?_
  simp
  refine do_cq (impl_Least_ok l name) (by simp [St.args]) ?_
  simp
  refine do_cq (eqJob_ok (least l name).1 (least l name).1) (by simp [St.args]) ?_
  simp
  refine do_cq (toJobS_ok l hl) (by simp [St.args]) ?_
  simp
  refine do_cq (eqJobS_ok l l) (by simp [St.args]) ?_
  simp
theorem FnExactLeast_ok (xs : List AV) (h : okVs [.sl tyJob, .str] xs) : Snd Try.prog F.laws_FnExactLeast xs (.bool true) [] := by
  obtain ⟨a, _, rfl, ha, b, _, rfl, ⟨s, hb, _⟩, rfl⟩ := h
  obtain ⟨l, ha⟩ := JobS_of ha
  obtain rfl := (List.cons.inj hb).1
  exact (FnExactLeast_c l s).wk ⟨ha, by simp, trivial⟩
end Go.Proofs.Ythbbieobcokgbaa
