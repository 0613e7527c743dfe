/-
  QueueOk, of the specification and of the program.
-/
import Derived.Test.YthbbieobcokgbaaSeqs
import Derived.Test.YthbbieobcokgbaaVecs
import Derived.Test.YthbbieobcokgbaaHoles1
namespace Go.Proofs.Ythbbieobcokgbaa
open Go Go.RowKit Eng
theorem any_take_succ {α : Type} {l : List α} {p : α → Bool} {k : Nat} (h : k < l.length) (ha : (l.take k).any p = false) (hp : p l[k] = false) : (l.take (k + 1)).any p = false := by
  rw [List.take_succ_eq_append_getElem h, List.any_append, ha]; simp [hp]
theorem any_take_bad {α : Type} {l : List α} {p : α → Bool} {k i : Nat} (h : k < l.length) (hk : k < i) (hp : p l[k] = true) : (l.take i).any p = true := by
  rw [List.any_eq_true]
  refine ⟨l[k], ?_, hp⟩
  rw [List.mem_take_iff_getElem]
  exact ⟨k, by omega, rfl⟩
theorem Cap.one {e : AV} {o : Nat} (h : e.rdt = e) : Cap [.ept e o] := ⟨fun s => by simp [St.dtL, St.dt], by simp [rdtL, AV.rdt, h]⟩
def queueGood (l : List Job) (i : Nat) : Bool := match l[i]? with | none => true | some j => jobOk j && !(l.take i).any (fun k => decide (k.id = j.id))
def queueOk (l : List Job) : Bool := decide (l.length ≤ 60) && upto l.length (queueGood l)
theorem queueGood_eq {l : List Job} {i : Nat} (h : i < l.length) : queueGood l i = (jobOk l[i] && !(l.take i).any (fun k => decide (k.id = l[i].id))) := by
  unfold queueGood; rw [List.getElem?_eq_getElem h]
theorem queueOk_bad {l : List Job} {i : Nat} (h : i < l.length) (hg : queueGood l i = false) : queueOk l = false := by
  unfold queueOk; rw [upto_false h hg]; simp
theorem queueOk_nil : queueOk [] = true := by decide
def ir_spec_QueueOk : L :=
  .seq (
  .reg [.mv 2 (.c (.bool false))]) (
  .seq (
  .seq (
  .reg [.mv 6 (.t 0),
    .ln 7 (.t 6),
    .bi 8 .gtr (.t 7) (.c (.int .i64 60))]) (
  .cond (.t 8) (
    .seq (
    .reg [.mv 2 (.c (.bool false))]) (
    .ret)) (
    .skip))) (
  .seq (
  .seq (
  .reg [.mv 9 (.t 0),
    .ln 10 (.t 9),
    .mv 11 (.c (.int .i64 0))]) (
  .blk 0 (
    .loop (
      .seq (
      .reg [.bi 12 .lss (.t 11) (.t 10)]) (
      .seq (
      .cond (.t 12) (
        .skip) (
        .exit 0)) (
      .seq (
      .blk 1 (
        .seq (
        .reg [.mv 13 (.t 11),
          .ia 14 (.t 9) (.t 11) 11,
          .ld 15 (.t 14) 11 true,
          .al 4 [.int .i64 0, .int .i64 0, .int .i64 0, .int .i64 0, .int .i64 0, .int .i64 0, .int .i64 0, .int .i64 0, .int .i64 0, .int .i64 0, .int .i64 0],
          .mv 3 (.t 13),
          .st (.t 4) (.t 15) 11]) (
        .seq (
        .seq (
        .reg [.ld 16 (.t 4) 11 true,
          .cq 17 F.spec_JobOk [(.t 16)],
          .un 18 (.t 17)]) (
        .cond (.t 18) (
          .seq (
          .reg [.mv 2 (.c (.bool false))]) (
          .ret)) (
          .skip))) (
        .seq (
        .reg [.mv 5 (.c (.int .i64 0))]) (
        .blk 2 (
          .loop (
            .seq (
            .seq (
            .reg [.mv 19 (.t 5),
              .mv 20 (.t 3),
              .bi 21 .lss (.t 19) (.t 20)]) (
            .cond (.t 21) (
              .skip) (
              .exit 2))) (
            .seq (
            .blk 3 (
              .seq (
              .rq 8 [.mv 24 (.t 0),
                .mv 25 (.t 5),
                .ia 26 (.t 24) (.t 25) 11,
                .fa 27 (.t 26) 0,
                .ld 28 (.t 27) 1 false,
                .fa 29 (.t 4) 0,
                .ld 30 (.t 29) 1 false,
                .bi 31 .eql (.t 28) (.t 30)]) (
              .cond (.t 31) (
                .seq (
                .reg [.mv 2 (.c (.bool false))]) (
                .ret)) (
                .skip)))) (
            .reg [.mv 22 (.t 5),
              .bi 23 .add (.t 22) (.c (.int .i64 1)),
              .mv 5 (.t 23)]))))))))) (
      .reg [.bi 32 .add (.t 11) (.c (.int .i64 1)),
        .mv 11 (.t 32)]))))))) (
  .seq (
  .reg [.mv 2 (.c (.bool true))]) (
  .ret))))
def rs_spec_QueueOk : List Rv := [.t 2]
theorem ck_spec_QueueOk : chkFn Try.prog F.spec_QueueOk 1 ir_spec_QueueOk rs_spec_QueueOk = true := by kernel_rfl
theorem spec_QueueOk_ok (l : List Job) : Snd Try.prog F.spec_QueueOk [.sl .rd 11 (l.map eJob)] (.bool (queueOk l)) [] := by
  refine snd_by ck_spec_QueueOk rfl (by simp) (den_W ?_)
  unfold ir_spec_QueueOk rs_spec_QueueOk
  simp
  intro hl
  by_cases h60 : l.length ≤ 60
  rotate_left
  · have e : (60 : Int) < l.length := by omega
    have e' : ¬ (l.length : Int) ≤ 60 := by omega
    simp [e, e', queueOk, h60]
  have e : ¬ (60 : Int) < l.length := by omega
  have e' : (l.length : Int) ≤ 60 := by omega
  simp [e, e']
  intro _
  refine W_rng l.length (fun i s => upto i (queueGood l) = true ∧ s.e 0 = .sl .rd 11 (l.map eJob) ∧ s.e 9 = .sl .rd 11 (l.map eJob) ∧ s.e 10 = .int .i64 l.length ∧ s.e 11 = .int .i64 (i : Nat)) ?_ ?_
  · simp [upto]
  · rintro i s hi ⟨hu, h0, h9, h10, h11⟩
    by_cases h : i < l.length
    · simp [h9, h10, h11, h]
      have hg := queueGood_eq h
      refine do_cq (spec_JobOk_ok l[i]) (by simp [St.args]) ?_
      cases hj : jobOk l[i]
      · simp [queueOk_bad h (by simp [hg, hj])]
      simp
      refine W_rng i (fun k s => (l.take k).any (fun x => decide (x.id = l[i].id)) = false ∧ s.e 0 = .sl .rd 11 (l.map eJob) ∧ s.e 9 = .sl .rd 11 (l.map eJob) ∧ s.e 10 = .int .i64 l.length ∧ s.e 11 = .int .i64 (i : Nat) ∧ s.e 3 = .int .i64 (i : Nat) ∧
        s.e 4 = .ptr 4 0 ∧ s.bx 4 = some (eJob l[i]).cells ∧ s.e 5 = .int .i64 (k : Nat)) ?_ ?_
      · simp [h0, h9, h10, h11]
      · rintro k s hk ⟨ha, h0, h9, h10, h11, h3, h4, hb, h5⟩
        by_cases hki : k < i
        · have hkl : k < l.length := by omega
          simp [h0, h11, h3, h4, hb, h5, hki, hkl]
          refine ⟨fun hid => ?_, fun hid => ?_⟩
          · have := any_take_bad (p := fun x => decide (x.id = l[i].id)) hkl hki (by simp [hid])
            exact queueOk_bad h (by rw [hg, hj, this]; rfl)
          · refine rng_next hki ?_
            simp [h0, h9, h10, h11, h3, h4, hb, wrap_succ hki (by omega : i ≤ 9223372036854775807)]
            simpa using any_take_succ (p := fun x => decide (x.id = l[i].id)) hkl ha (by simp [hid])
        · have : k = i := by omega
          subst this
          simp [h0, h11, h3, h4, hb, h5]
          refine rng_next h ?_
          simp [h0, h9, h10, wrap_succ h hl]
          exact upto_succ hu (by rw [hg, hj, ha]; rfl)
    · have : i = l.length := by omega
      subst this
      simp [h9, h10, h11, queueOk, h60, hu]
def ir_impl_QueueOk_1 : L :=
  .seq (
  .reg [.bx 2 (.t 0),
    .mv 3 (.c (.bool false))]) (
  .seq (
  .reg [.fa 4 (.t 2) 0,
    .ld 5 (.t 4) 1 false,
    .fa 6 (.t 1) 0,
    .ld 7 (.t 6) 1 false,
    .bi 8 .eql (.t 5) (.t 7),
    .mv 3 (.t 8)]) (
  .ret))
def rs_impl_QueueOk_1 : List Rv := [.t 3]
theorem ck_impl_QueueOk_1 : chkFn Try.prog F.impl_QueueOk_1 2 ir_impl_QueueOk_1 rs_impl_QueueOk_1 = true := by kernel_rfl
theorem QueueOk_1_ok (x j : Job) : Snd Try.prog F.impl_QueueOk_1 [eJob x, .ept (eJob j) 0] (.bool (decide (x.id = j.id))) [] := by
  refine snd_by ck_impl_QueueOk_1 rfl (by simp) (den_W ?_)
  unfold ir_impl_QueueOk_1 rs_impl_QueueOk_1
  simp
def ir_impl_QueueOk : L :=
  .seq (
  .reg [.mv 2 (.c (.bool false))]) (
  .seq (
  .seq (
  .reg [.mv 5 (.t 0),
    .ln 6 (.t 5),
    .mv 7 (.c (.int .i64 0))]) (
  .blk 0 (
    .loop (
      .seq (
      .reg [.bi 8 .lss (.t 7) (.t 6)]) (
      .seq (
      .cond (.t 8) (
        .skip) (
        .exit 0)) (
      .seq (
      .blk 1 (
        .seq (
        .reg [.mv 9 (.t 7),
          .ia 10 (.t 5) (.t 7) 11,
          .ld 11 (.t 10) 11 true,
          .al 4 [.int .i64 0, .int .i64 0, .int .i64 0, .int .i64 0, .int .i64 0, .int .i64 0, .int .i64 0, .int .i64 0, .int .i64 0, .int .i64 0, .int .i64 0],
          .mv 3 (.t 9),
          .st (.t 4) (.t 11) 11]) (
        .seq (
        .reg [.fb 4,
          .ld 12 (.t 4) 11 true,
          .cq 13 F.impl_JobOk [(.t 12)],
          .un 14 (.t 13),
          .mv 15 (.t 14),
          .g 15 false (.mv 16 (.t 0)),
          .g 15 false (.mv 17 (.t 3)),
          .g 15 false (.sc 18 (.t 16) none (some (.t 17)) 11),
          .g 15 false (.mf 19 F.impl_QueueOk_1 [(.t 4)]),
          .g 15 false (.cq 20 F.slices_ContainsFunc_impl_Job_impl_Job [(.t 18), (.t 19)]),
          .pk 21 (.t 15) (.c (.bool true)) (.t 20)]) (
        .cond (.t 21) (
          .seq (
          .reg [.mv 2 (.c (.bool false))]) (
          .ret)) (
          .skip))))) (
      .reg [.bi 22 .add (.t 7) (.c (.int .i64 1)),
        .mv 7 (.t 22)]))))))) (
  .seq (
  .reg [.mv 23 (.t 0),
    .ln 24 (.t 23),
    .bi 25 .leq (.t 24) (.c (.int .i64 60)),
    .mv 2 (.t 25)]) (
  .ret)))
def rs_impl_QueueOk : List Rv := [.t 2]
theorem ck_impl_QueueOk : chkFn Try.prog F.impl_QueueOk 1 ir_impl_QueueOk rs_impl_QueueOk = true := by kernel_rfl
theorem impl_QueueOk_ok (l : List Job) : Snd Try.prog F.impl_QueueOk [.sl .rd 11 (l.map eJob)] (.bool (queueOk l)) [] := by
  refine snd_by ck_impl_QueueOk rfl (by simp) (den_W ?_)
  unfold ir_impl_QueueOk rs_impl_QueueOk
  simp
  intro hl
  refine W_rng l.length (fun i s => upto i (queueGood l) = true ∧ s.e 0 = .sl .rd 11 (l.map eJob) ∧ s.e 5 = .sl .rd 11 (l.map eJob) ∧ s.e 6 = .int .i64 l.length ∧ s.e 7 = .int .i64 (i : Nat)) ?_ ?_
  · simp [upto]
  · rintro i s hi ⟨hu, h0, h5, h6, h7⟩
    by_cases h : i < l.length
    · simp [h0, h5, h6, h7, h]
      have hg := queueGood_eq h
      refine do_cq (impl_JobOk_ok l[i]) (by simp [St.args]) ?_
      cases hj : jobOk l[i]
      · simp [queueOk_bad h (by simp [hg, hj])]
      simp [h0, hi, St.hi, St.lo]
      refine do_cq (containsFunc_Job (l.take i) F.impl_QueueOk_1 [.ept (eJob l[i]) 0] (fun x => decide (x.id = l[i].id)) (by kernel_rfl) (Cap.one rfl) (fun x => QueueOk_1_ok x l[i])) (by simp [St.args]) ?_
      cases ha : (l.take i).any (fun x => decide (x.id = l[i].id))
      · simp [h7]
        refine rng_next h ?_
        simp [h0, h5, h6, wrap_succ h hl]
        exact upto_succ hu (by rw [hg, hj, ha]; rfl)
      · simp [queueOk_bad h (by rw [hg, hj, ha]; rfl)]
    · have : i = l.length := by omega
      subst this
      simp [h0, h5, h6, h7, queueOk, hu]
      intro _
      omega
end Go.Proofs.Ythbbieobcokgbaa
