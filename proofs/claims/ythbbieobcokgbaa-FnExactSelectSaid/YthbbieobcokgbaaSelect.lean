/-
  Select, of the specification and of the program, and its law.
-/
import Derived.Test.YthbbieobcokgbaaQueue
import Derived.Test.YthbbieobcokgbaaGoes
import Derived.Test.YthbbieobcokgbaaAsk
namespace Go.Proofs.Ythbbieobcokgbaa
open Go Go.RowKit Eng
def selP (q : List Term) (j : Job) : Bool := !q.any (fun t => !goes t j)
def sel (l : List Job) (q : List Term) : List Job := if queueOk l = true ∧ q.any (fun t => !termOk t) = false then l.filter (selP q) else []
theorem filter_take_succ {α : Type} {p : α → Bool} {l : List α} {i : Nat} (h : i < l.length) : (l.take (i + 1)).filter p = (l.take i).filter p ++ if p l[i] then [l[i]] else [] := by
  rw [List.take_succ_eq_append_getElem h, List.filter_append]
  congr 1
  cases hp : p l[i] <;> simp [hp]
theorem any_bad {α : Type} {l : List α} {p : α → Bool} {i : Nat} (h : i < l.length) (hp : p l[i] = true) : l.any p = true := by
  rw [List.any_eq_true]; exact ⟨l[i], List.getElem_mem h, hp⟩
theorem any_take {α : Type} {p : α → Bool} {l : List α} {i : Nat} (h : i < l.length) : (l.take (i + 1)).any p = ((l.take i).any p || p l[i]) := by
  rw [List.take_succ_eq_append_getElem h, List.any_append]; simp
def ir_spec_Select : L :=
  .seq (
  .reg [.mv 4 (.c (.nl))]) (
  .seq (
  .reg [.bs 13 11 [] true,
    .mv 5 (.t 13)]) (
  .seq (
  .seq (
  .reg [.mv 14 (.t 0),
    .cq 15 F.spec_QueueOk [(.t 14)],
    .un 16 (.t 15)]) (
  .cond (.t 16) (
    .seq (
    .reg [.mv 17 (.t 5),
      .mv 4 (.t 17)]) (
    .ret)) (
    .skip))) (
  .seq (
  .seq (
  .reg [.mv 18 (.t 1),
    .ln 19 (.t 18),
    .mv 20 (.c (.int .i64 0))]) (
  .blk 0 (
    .loop (
      .seq (
      .reg [.bi 21 .lss (.t 20) (.t 19)]) (
      .seq (
      .cond (.t 21) (
        .skip) (
        .exit 0)) (
      .seq (
      .blk 1 (
        .seq (
        .reg [.ia 22 (.t 18) (.t 20) 3,
          .ld 23 (.t 22) 3 true,
          .al 7 [.str [], .str [], .int .i64 0],
          .st (.t 7) (.t 23) 3]) (
        .seq (
        .reg [.ld 24 (.t 7) 3 true,
          .cq 25 F.spec_TermOk [(.t 24)],
          .un 26 (.t 25)]) (
        .cond (.t 26) (
          .seq (
          .reg [.mv 27 (.t 5),
            .mv 4 (.t 27)]) (
          .ret)) (
          .skip))))) (
      .reg [.bi 28 .add (.t 20) (.c (.int .i64 1)),
        .mv 20 (.t 28)]))))))) (
  .seq (
  .seq (
  .reg [.mv 29 (.t 0),
    .ln 30 (.t 29),
    .mv 31 (.c (.int .i64 0))]) (
  .blk 2 (
    .loop (
      .seq (
      .reg [.bi 32 .lss (.t 31) (.t 30)]) (
      .seq (
      .cond (.t 32) (
        .skip) (
        .exit 2)) (
      .seq (
      .blk 3 (
        .seq (
        .reg [.ia 33 (.t 29) (.t 31) 11,
          .ld 34 (.t 33) 11 true,
          .al 9 [.int .i64 0, .int .i64 0, .int .i64 0, .int .i64 0, .int .i64 0, .int .i64 0, .int .i64 0, .int .i64 0, .int .i64 0, .int .i64 0, .int .i64 0],
          .st (.t 9) (.t 34) 11]) (
        .seq (
        .reg [.mv 10 (.c (.bool true))]) (
        .seq (
        .seq (
        .reg [.mv 35 (.t 1),
          .ln 36 (.t 35),
          .mv 37 (.c (.int .i64 0))]) (
        .blk 4 (
          .loop (
            .seq (
            .reg [.bi 38 .lss (.t 37) (.t 36)]) (
            .seq (
            .cond (.t 38) (
              .skip) (
              .exit 4)) (
            .seq (
            .blk 5 (
              .seq (
              .reg [.ia 39 (.t 35) (.t 37) 3,
                .ld 40 (.t 39) 3 true,
                .al 12 [.str [], .str [], .int .i64 0],
                .st (.t 12) (.t 40) 3]) (
              .seq (
              .reg [.ld 41 (.t 12) 3 true,
                .ld 42 (.t 9) 11 true,
                .cq 43 F.spec_Goes [(.t 41), (.t 42)],
                .un 44 (.t 43)]) (
              .cond (.t 44) (
                .reg [.mv 10 (.c (.bool false))]) (
                .skip))))) (
            .reg [.bi 45 .add (.t 37) (.c (.int .i64 1)),
              .mv 37 (.t 45)]))))))) (
        .seq (
        .reg [.mv 46 (.t 10)]) (
        .cond (.t 46) (
          .reg [.mv 47 (.t 5),
            .ld 48 (.t 9) 11 true,
            .bs 49 11 [(.t 48)] false,
            .ap 50 (.t 47) (.t 49) 11 88,
            .mv 5 (.t 50)]) (
          .skip))))))) (
      .reg [.bi 51 .add (.t 31) (.c (.int .i64 1)),
        .mv 31 (.t 51)]))))))) (
  .seq (
  .reg [.mv 52 (.t 5),
    .mv 4 (.t 52)]) (
  .ret))))))
def rs_spec_Select : List Rv := [.t 4]
theorem ck_spec_Select : chkFn Try.prog F.spec_Select 2 ir_spec_Select rs_spec_Select = true := by kernel_rfl
theorem spec_Select_ok (l : List Job) (q : List Term) (hl : l.length ≤ 1048576) : Snd Try.prog F.spec_Select [.sl .rd 11 (l.map eJob), .sl .rd 3 (q.map eTerm)] (.sref 0) [⟨11, (sel l q).map eJob, false⟩] := by
  refine snd_by ck_spec_Select rfl (by simp) (den_W ?_)
  unfold ir_spec_Select rs_spec_Select
  simp
  refine do_cq (spec_QueueOk_ok l) (by simp [St.args]) ?_
  cases hq : queueOk l
  · simp
    exact post_ret [13] (by simp [sel, hq])
  simp
  intro hql
  refine W_rng q.length (fun i s => (q.take i).any (fun t => !termOk t) = false ∧ s.e 0 = .sl .rd 11 (l.map eJob) ∧ s.e 1 = .sl .rd 3 (q.map eTerm) ∧ s.e 5 = .sref 13 ∧ s.rw 13 = some ⟨11, [], false⟩ ∧ s.e 18 = .sl .rd 3 (q.map eTerm) ∧ s.e 19 = .int .i64 q.length ∧ s.e 20 = .int .i64 (i : Nat)) ?_ ?_
  · simp
  rintro i s hi ⟨ha, h0, h1, h5, hr, h18, h19, h20⟩
  by_cases h : i < q.length
  · simp [h0, h18, h19, h20, h]
    refine do_cq (spec_TermOk_ok q[i]) (by simp [St.args]) ?_
    cases ht : termOk q[i]
    · simp [h5]
      have := any_bad (p := fun t => !termOk t) h (by simp [ht])
      exact post_ret [13] (by simp [sel, this, hr])
    · simp [h20]
      refine rng_next h ⟨by rw [any_take h, ha, ht]; rfl, ?_⟩
      simp [h0, h1, h5, hr, h18, h19, wrap_succ h hql]
  have : i = q.length := by omega
  subst this
  rw [List.take_of_length_le (Nat.le_refl _)] at ha
  simp [h0, h18, h19, h20]
  intro _
  refine W_rng l.length (fun i s => s.e 1 = .sl .rd 3 (q.map eTerm) ∧ s.e 5 = .sref 13 ∧ s.rw 13 = some ⟨11, ((l.take i).filter (selP q)).map eJob, false⟩ ∧ s.e 29 = .sl .rd 11 (l.map eJob) ∧ s.e 30 = .int .i64 l.length ∧ s.e 31 = .int .i64 (i : Nat)) ?_ ?_
  · simp [h1, h5, hr]
  clear h0 h1 h5 hr h18 h19 h20 h hi s
  rintro i s hi ⟨h1, h5, hr, h29, h30, h31⟩
  by_cases h : i < l.length
  · simp [h1, h5, h29, h30, h31, h]
    intro _
    refine W_rng q.length (fun k s => s.e 1 = .sl .rd 3 (q.map eTerm) ∧ s.e 5 = .sref 13 ∧ s.rw 13 = some ⟨11, ((l.take i).filter (selP q)).map eJob, false⟩ ∧ s.e 29 = .sl .rd 11 (l.map eJob) ∧ s.e 30 = .int .i64 l.length ∧ s.e 31 = .int .i64 (i : Nat) ∧
      s.e 9 = .ptr 9 0 ∧ s.bx 9 = some (eJob l[i]).cells ∧ s.e 10 = .bool (!(q.take k).any (fun t => !goes t l[i])) ∧ s.e 35 = .sl .rd 3 (q.map eTerm) ∧ s.e 36 = .int .i64 q.length ∧ s.e 37 = .int .i64 (k : Nat)) ?_ ?_
    · simp [h1, h5, hr, h29, h30, h31]
    clear h1 h5 hr h29 h30 h31 s
    rintro k s hk ⟨h1, h5, hr, h29, h30, h31, h9, hb, h10, h35, h36, h37⟩
    by_cases h' : k < q.length
    · simp [h5, hr, h31, h9, hb, h10, h35, h36, h37, h']
      refine do_cq (spec_Goes_ok q[k] l[i]) (by simp [St.args]) ?_
      cases hg : goes q[k] l[i]
      · simp [h37]
        refine rng_next h' ?_
        simp [any_take h', hg, h1, h5, hr, h29, h30, h31, h9, hb, h35, h36, wrap_succ h' hql]
      · simp [h37]
        refine rng_next h' ?_
        simp [any_take h', hg, h1, h5, hr, h29, h30, h31, h9, hb, h10, h35, h36, wrap_succ h' hql]
    · have : k = q.length := by omega
      subst this
      rw [List.take_of_length_le (Nat.le_refl _), show (!q.any (fun t => !goes t l[i])) = selP q l[i] from rfl] at h10
      simp [h5, hr, h31, h9, hb, h10, h35, h36, h37]
      refine ⟨fun hp => ?_, fun hp => ?_⟩
      · refine ⟨?_, rng_next h ?_⟩
        · have := List.length_filter_le (selP q) (l.take i)
          simp at this; omega
        · simp [h1, h29, h30, wrap_succ h (by omega : l.length ≤ 9223372036854775807), filter_take_succ h, hp]
      · refine rng_next h ?_
        simp [h1, h5, hr, h29, h30, wrap_succ h (by omega : l.length ≤ 9223372036854775807), filter_take_succ h, hp]
  · have : i = l.length := by omega
    subst this
    rw [List.take_of_length_le (Nat.le_refl _)] at hr
    simp [h5, h29, h30, h31]
    exact post_ret [13] (by simp [sel, hq, ha, hr])
def ir_impl_Select_1 : L :=
  .seq (
  .reg [.bx 1 (.t 0),
    .mv 2 (.c (.bool false))]) (
  .seq (
  .reg [.ld 3 (.t 1) 3 true,
    .cq 4 F.impl_TermOk [(.t 3)],
    .un 5 (.t 4),
    .mv 2 (.t 5)]) (
  .ret))
def rs_impl_Select_1 : List Rv := [.t 2]
theorem ck_impl_Select_1 : chkFn Try.prog F.impl_Select_1 1 ir_impl_Select_1 rs_impl_Select_1 = true := by kernel_rfl
theorem Select_1_ok (t : Term) : Snd Try.prog F.impl_Select_1 [eTerm t] (.bool (!termOk t)) [] := by
  refine snd_by ck_impl_Select_1 rfl (by simp) (den_W ?_)
  unfold ir_impl_Select_1 rs_impl_Select_1
  simp
  refine do_cq (impl_TermOk_ok t) (by simp [St.args]) ?_
  simp
def ir_impl_Select_2 : L :=
  .seq (
  .reg [.bx 2 (.t 0),
    .mv 3 (.c (.bool false))]) (
  .seq (
  .reg [.ld 4 (.t 2) 3 true,
    .ld 5 (.t 1) 11 true,
    .cq 6 F.impl_Goes [(.t 4), (.t 5)],
    .un 7 (.t 6),
    .mv 3 (.t 7)]) (
  .ret))
def rs_impl_Select_2 : List Rv := [.t 3]
theorem ck_impl_Select_2 : chkFn Try.prog F.impl_Select_2 2 ir_impl_Select_2 rs_impl_Select_2 = true := by kernel_rfl
theorem Select_2_ok (t : Term) (j : Job) : Snd Try.prog F.impl_Select_2 [eTerm t, .ept (eJob j) 0] (.bool (!goes t j)) [] := by
  refine snd_by ck_impl_Select_2 rfl (by simp) (den_W ?_)
  unfold ir_impl_Select_2 rs_impl_Select_2
  simp
  refine do_cq (impl_Goes_ok t j) (by simp [St.args]) ?_
  simp
def ir_impl_Select : L :=
  .seq (
  .reg [.mv 4 (.c (.nl))]) (
  .seq (
  .seq (
  .reg [.mv 8 (.t 0),
    .cq 9 F.impl_QueueOk [(.t 8)],
    .un 10 (.t 9),
    .mv 11 (.t 10),
    .g 11 false (.mv 12 (.t 1)),
    .g 11 false (.cq 13 F.slices_ContainsFunc_impl_Term_impl_Term [(.t 12), (.c (.fn F.impl_Select_1 []))]),
    .pk 14 (.t 11) (.c (.bool true)) (.t 13)]) (
  .cond (.t 14) (
    .seq (
    .reg [.mv 4 (.c (.nl))]) (
    .ret)) (
    .skip))) (
  .seq (
  .reg [.bs 15 11 [] true,
    .mv 5 (.t 15)]) (
  .seq (
  .seq (
  .reg [.mv 16 (.t 0),
    .ln 17 (.t 16),
    .mv 18 (.c (.int .i64 0))]) (
  .blk 0 (
    .loop (
      .seq (
      .reg [.bi 19 .lss (.t 18) (.t 17)]) (
      .seq (
      .cond (.t 19) (
        .skip) (
        .exit 0)) (
      .seq (
      .blk 1 (
        .seq (
        .reg [.ia 20 (.t 16) (.t 18) 11,
          .ld 21 (.t 20) 11 true,
          .al 7 [.int .i64 0, .int .i64 0, .int .i64 0, .int .i64 0, .int .i64 0, .int .i64 0, .int .i64 0, .int .i64 0, .int .i64 0, .int .i64 0, .int .i64 0],
          .st (.t 7) (.t 21) 11]) (
        .seq (
        .reg [.fb 7,
          .mv 22 (.t 1),
          .mf 23 F.impl_Select_2 [(.t 7)],
          .cq 24 F.slices_ContainsFunc_impl_Term_impl_Term [(.t 22), (.t 23)],
          .un 25 (.t 24)]) (
        .cond (.t 25) (
          .reg [.mv 26 (.t 5),
            .ld 27 (.t 7) 11 true,
            .bs 28 11 [(.t 27)] false,
            .ap 29 (.t 26) (.t 28) 11 88,
            .mv 5 (.t 29)]) (
          .skip))))) (
      .reg [.bi 30 .add (.t 18) (.c (.int .i64 1)),
        .mv 18 (.t 30)]))))))) (
  .seq (
  .reg [.mv 31 (.t 5),
    .mv 4 (.t 31)]) (
  .ret)))))
def rs_impl_Select : List Rv := [.t 4]
theorem ck_impl_Select : chkFn Try.prog F.impl_Select 2 ir_impl_Select rs_impl_Select = true := by kernel_rfl
theorem impl_Select_ok (l : List Job) (q : List Term) (hl : l.length ≤ 1048576) : Snd Try.prog F.impl_Select [.sl .rd 11 (l.map eJob), .sl .rd 3 (q.map eTerm)] (.sref 0) [⟨11, (sel l q).map eJob, false⟩] := by
  refine snd_by ck_impl_Select rfl (by simp) (den_W ?_)
  unfold ir_impl_Select rs_impl_Select
  simp
  refine do_cq (impl_QueueOk_ok l) (by simp [St.args]) ?_
  cases hq : queueOk l
  · simp
    exact post_retO [none] (by simp [sel, hq])
  simp
  refine do_cq (containsFunc_Term q F.impl_Select_1 [] (fun t => !termOk t) (by kernel_rfl) Cap.nil Select_1_ok) (by simp [St.args]) ?_
  cases ha : q.any (fun t => !termOk t)
  rotate_left
  · simp
    exact post_retO [none] (by simp [sel, ha])
  simp
  intro _
  refine W_rng l.length (fun i s => s.e 1 = .sl .rd 3 (q.map eTerm) ∧ s.e 5 = .sref 15 ∧ s.rw 15 = some ⟨11, ((l.take i).filter (selP q)).map eJob, false⟩ ∧ s.e 16 = .sl .rd 11 (l.map eJob) ∧ s.e 17 = .int .i64 l.length ∧ s.e 18 = .int .i64 (i : Nat)) ?_ ?_
  · simp
  rintro i s hi ⟨h1, h5, hr, h16, h17, h18⟩
  by_cases h : i < l.length
  · simp [h1, h5, h16, h17, h18, h]
    refine do_cq (containsFunc_Term q F.impl_Select_2 [.ept (eJob l[i]) 0] (fun t => !goes t l[i]) (by kernel_rfl) (Cap.one rfl) (fun t => Select_2_ok t l[i])) (by simp [St.args]) ?_
    have hp : selP q l[i] = !q.any (fun t => !goes t l[i]) := rfl
    cases hx : q.any (fun t => !goes t l[i]) <;> rw [hx] at hp
    · simp [h5, hr, h18]
      refine ⟨?_, rng_next h ?_⟩
      · have := List.length_filter_le (selP q) (l.take i)
        simp at this; omega
      · simp [h1, h16, h17, wrap_succ h (by omega : l.length ≤ 9223372036854775807), filter_take_succ h, hp]
    · simp [h5, hr, h18]
      refine rng_next h ?_
      simp [h1, h5, hr, h16, h17, wrap_succ h (by omega : l.length ≤ 9223372036854775807), filter_take_succ h, hp]
  · have : i = l.length := by omega
    subst this
    rw [List.take_of_length_le (Nat.le_refl _)] at hr
    simp [h5, h16, h17, h18]
    exact post_ret [15] (by simp [sel, hq, ha, hr])
end Go.Proofs.Ythbbieobcokgbaa
