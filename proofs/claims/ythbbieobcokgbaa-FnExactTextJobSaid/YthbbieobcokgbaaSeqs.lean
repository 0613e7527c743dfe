/-
  The library's IndexFunc and ContainsFunc, for whatever predicate.
-/
import Derived.Test.YthbbieobcokgbaaTyJob
import Derived.Test.YthbbieobcokgbaaTyTerm
import Derived.Test.YthbbieobcokgbaaLaw0
namespace Go.Proofs.Ythbbieobcokgbaa
open Go Go.RowKit Eng
def idxOf {α : Type} (l : List α) (p : α → Bool) : Int := match l.findIdx? p with | some i => (i : Nat) | none => -1
theorem idxOf_some {α : Type} {l : List α} {p : α → Bool} {i : Nat} (h : i < l.length) (hp : p l[i] = true) (hn : ∀ k, k < i → ∀ h, p (l[k]'h) = false) : idxOf l p = (i : Nat) := by
  have : l.findIdx? p = some i := by
    rw [List.findIdx?_eq_some_iff_getElem]
    exact ⟨h, hp, fun j hj => by simp [hn j hj (by omega)]⟩
  rw [idxOf, this]
theorem idxOf_none {α : Type} {l : List α} {p : α → Bool} (hn : ∀ k, k < l.length → ∀ h, p (l[k]'h) = false) : idxOf l p = -1 := by
  have : l.findIdx? p = none := by
    rw [List.findIdx?_eq_none_iff]
    intro x hx
    obtain ⟨i, hi, rfl⟩ := List.getElem_of_mem hx
    exact hn i hi hi
  rw [idxOf, this]
theorem idxOf_any {α : Type} (l : List α) (p : α → Bool) : decide (0 ≤ idxOf l p) = l.any p := by
  unfold idxOf
  cases h : l.findIdx? p with
  | none =>
    rw [List.findIdx?_eq_none_iff] at h
    have : l.any p = false := by rw [List.any_eq_false]; intro x hx; simp [h x hx]
    simp [this]
  | some i =>
    rw [List.findIdx?_eq_some_iff_getElem] at h
    obtain ⟨hi, hp, _⟩ := h
    have : l.any p = true := by rw [List.any_eq_true]; exact ⟨_, List.getElem_mem hi, hp⟩
    simp [this]
/-- What is captured is data. -/
structure Cap (cap : List AV) : Prop where
  dt : ∀ s : St, s.dtL cap = some cap
  rd : rdtL cap = cap
theorem Cap.nil : Cap [] := ⟨fun _ => rfl, rfl⟩
def ir_slices_IndexFunc_impl_Job_impl_Job : L :=
  .seq (
  .reg [.mv 4 (.c (.int .i64 0))]) (
  .seq (
  .seq (
  .reg [.mv 6 (.t 0),
    .ln 7 (.t 6),
    .mv 8 (.c (.int .i64 0))]) (
  .blk 0 (
    .loop (
      .seq (
      .reg [.bi 9 .lss (.t 8) (.t 7)]) (
      .seq (
      .cond (.t 9) (
        .skip) (
        .exit 0)) (
      .seq (
      .blk 1 (
        .seq (
        .reg [.mv 10 (.t 8),
          .mv 5 (.t 10)]) (
        .seq (
        .reg [.mv 11 (.t 1),
          .mv 12 (.t 0),
          .mv 13 (.t 5),
          .ia 14 (.t 12) (.t 13) 11,
          .ld 15 (.t 14) 11 true,
          .cc 16 (.t 11) [(.t 15)]]) (
        .cond (.t 16) (
          .seq (
          .reg [.mv 17 (.t 5),
            .mv 4 (.t 17)]) (
          .ret)) (
          .skip))))) (
      .reg [.bi 18 .add (.t 8) (.c (.int .i64 1)),
        .mv 8 (.t 18)]))))))) (
  .seq (
  .reg [.mv 4 (.c (.int .i64 (-1)))]) (
  .ret)))
def rs_slices_IndexFunc_impl_Job_impl_Job : List Rv := [.t 4]
theorem ck_slices_IndexFunc_impl_Job_impl_Job : chkFn Try.prog F.slices_IndexFunc_impl_Job_impl_Job 2 ir_slices_IndexFunc_impl_Job_impl_Job rs_slices_IndexFunc_impl_Job_impl_Job = true := by kernel_rfl
theorem indexFunc_Job (l : List Job) (f : Nat) (cap : List AV) (p : Job → Bool) (hf : isFn Try.prog f = true) (hc : Cap cap) (hp : ∀ x, Snd Try.prog f (eJob x :: cap) (.bool (p x)) []) :
    Snd Try.prog F.slices_IndexFunc_impl_Job_impl_Job [.sl .rd 11 (l.map eJob), .fn f cap] (.int .i64 (idxOf l p)) [] := by
  refine snd_by ck_slices_IndexFunc_impl_Job_impl_Job rfl (by simp [hc.rd]) (den_W ?_)
  unfold ir_slices_IndexFunc_impl_Job_impl_Job rs_slices_IndexFunc_impl_Job_impl_Job
  simp
  intro hl
  refine W_rng l.length (fun i s => (∀ k, k < i → ∀ h, p (l[k]'h) = false) ∧ s.e 0 = .sl .rd 11 (l.map eJob) ∧ s.e 1 = .fn f cap ∧ s.e 7 = .int .i64 l.length ∧ s.e 8 = .int .i64 (i : Nat)) ?_ ?_
  · simp
  · rintro i s hi ⟨hu, h0, h1, h7, h8⟩
    by_cases h : i < l.length
    · simp [h0, h1, h7, h8, h]
      refine do_cc (cap := cap) (show Snd Try.prog f ([eJob l[i]] ++ cap) _ _ from hp l[i]) (by simp [St.args, St.dtL, hc.dt, hc.rd]) hf ?_
      cases hb : p l[i]
      · simp [h8]
        refine rng_next h ?_
        simp [h0, h1, h7, wrap_succ h hl]
        intro k hk hk'
        by_cases e : k = i
        · subst e; exact hb
        · exact hu k (by omega) hk'
      · simp [idxOf_some h hb hu]
    · have : i = l.length := by omega
      subst this
      simp [h0, h1, h7, h8, idxOf_none hu]
def ir_slices_ContainsFunc_impl_Job_impl_Job : L :=
  .seq (
  .reg [.mv 4 (.c (.bool false))]) (
  .seq (
  .reg [.mv 5 (.t 0),
    .mv 6 (.t 1),
    .cq 7 F.slices_IndexFunc_impl_Job_impl_Job [(.t 5), (.t 6)],
    .bi 8 .geq (.t 7) (.c (.int .i64 0)),
    .mv 4 (.t 8)]) (
  .ret))
def rs_slices_ContainsFunc_impl_Job_impl_Job : List Rv := [.t 4]
theorem ck_slices_ContainsFunc_impl_Job_impl_Job : chkFn Try.prog F.slices_ContainsFunc_impl_Job_impl_Job 2 ir_slices_ContainsFunc_impl_Job_impl_Job rs_slices_ContainsFunc_impl_Job_impl_Job = true := by kernel_rfl
theorem containsFunc_Job (l : List Job) (f : Nat) (cap : List AV) (p : Job → Bool) (hf : isFn Try.prog f = true) (hc : Cap cap) (hp : ∀ x, Snd Try.prog f (eJob x :: cap) (.bool (p x)) []) :
    Snd Try.prog F.slices_ContainsFunc_impl_Job_impl_Job [.sl .rd 11 (l.map eJob), .fn f cap] (.bool (l.any p)) [] := by
  refine snd_by ck_slices_ContainsFunc_impl_Job_impl_Job rfl (by simp [hc.rd]) (den_W ?_)
  unfold ir_slices_ContainsFunc_impl_Job_impl_Job rs_slices_ContainsFunc_impl_Job_impl_Job
  simp
  refine do_cq (indexFunc_Job l f cap p hf hc hp) (by simp [St.args, hc.dt, hc.rd]) ?_
  simp [idxOf_any]
def ir_slices_IndexFunc_impl_Term_impl_Term : L :=
  .seq (
  .reg [.mv 4 (.c (.int .i64 0))]) (
  .seq (
  .seq (
  .reg [.mv 6 (.t 0),
    .ln 7 (.t 6),
    .mv 8 (.c (.int .i64 0))]) (
  .blk 0 (
    .loop (
      .seq (
      .reg [.bi 9 .lss (.t 8) (.t 7)]) (
      .seq (
      .cond (.t 9) (
        .skip) (
        .exit 0)) (
      .seq (
      .blk 1 (
        .seq (
        .reg [.mv 10 (.t 8),
          .mv 5 (.t 10)]) (
        .seq (
        .reg [.mv 11 (.t 1),
          .mv 12 (.t 0),
          .mv 13 (.t 5),
          .ia 14 (.t 12) (.t 13) 3,
          .ld 15 (.t 14) 3 true,
          .cc 16 (.t 11) [(.t 15)]]) (
        .cond (.t 16) (
          .seq (
          .reg [.mv 17 (.t 5),
            .mv 4 (.t 17)]) (
          .ret)) (
          .skip))))) (
      .reg [.bi 18 .add (.t 8) (.c (.int .i64 1)),
        .mv 8 (.t 18)]))))))) (
  .seq (
  .reg [.mv 4 (.c (.int .i64 (-1)))]) (
  .ret)))
def rs_slices_IndexFunc_impl_Term_impl_Term : List Rv := [.t 4]
theorem ck_slices_IndexFunc_impl_Term_impl_Term : chkFn Try.prog F.slices_IndexFunc_impl_Term_impl_Term 2 ir_slices_IndexFunc_impl_Term_impl_Term rs_slices_IndexFunc_impl_Term_impl_Term = true := by kernel_rfl
theorem indexFunc_Term (l : List Term) (f : Nat) (cap : List AV) (p : Term → Bool) (hf : isFn Try.prog f = true) (hc : Cap cap) (hp : ∀ x, Snd Try.prog f (eTerm x :: cap) (.bool (p x)) []) :
    Snd Try.prog F.slices_IndexFunc_impl_Term_impl_Term [.sl .rd 3 (l.map eTerm), .fn f cap] (.int .i64 (idxOf l p)) [] := by
  refine snd_by ck_slices_IndexFunc_impl_Term_impl_Term rfl (by simp [hc.rd]) (den_W ?_)
  unfold ir_slices_IndexFunc_impl_Term_impl_Term rs_slices_IndexFunc_impl_Term_impl_Term
  simp
  intro hl
  refine W_rng l.length (fun i s => (∀ k, k < i → ∀ h, p (l[k]'h) = false) ∧ s.e 0 = .sl .rd 3 (l.map eTerm) ∧ s.e 1 = .fn f cap ∧ s.e 7 = .int .i64 l.length ∧ s.e 8 = .int .i64 (i : Nat)) ?_ ?_
  · simp
  · rintro i s hi ⟨hu, h0, h1, h7, h8⟩
    by_cases h : i < l.length
    · simp [h0, h1, h7, h8, h]
      refine do_cc (cap := cap) (show Snd Try.prog f ([eTerm l[i]] ++ cap) _ _ from hp l[i]) (by simp [St.args, St.dtL, hc.dt, hc.rd]) hf ?_
      cases hb : p l[i]
      · simp [h8]
        refine rng_next h ?_
        simp [h0, h1, h7, wrap_succ h hl]
        intro k hk hk'
        by_cases e : k = i
        · subst e; exact hb
        · exact hu k (by omega) hk'
      · simp [idxOf_some h hb hu]
    · have : i = l.length := by omega
      subst this
      simp [h0, h1, h7, h8, idxOf_none hu]
def ir_slices_ContainsFunc_impl_Term_impl_Term : L :=
  .seq (
  .reg [.mv 4 (.c (.bool false))]) (
  .seq (
  .reg [.mv 5 (.t 0),
    .mv 6 (.t 1),
    .cq 7 F.slices_IndexFunc_impl_Term_impl_Term [(.t 5), (.t 6)],
    .bi 8 .geq (.t 7) (.c (.int .i64 0)),
    .mv 4 (.t 8)]) (
  .ret))
def rs_slices_ContainsFunc_impl_Term_impl_Term : List Rv := [.t 4]
theorem ck_slices_ContainsFunc_impl_Term_impl_Term : chkFn Try.prog F.slices_ContainsFunc_impl_Term_impl_Term 2 ir_slices_ContainsFunc_impl_Term_impl_Term rs_slices_ContainsFunc_impl_Term_impl_Term = true := by kernel_rfl
theorem containsFunc_Term (l : List Term) (f : Nat) (cap : List AV) (p : Term → Bool) (hf : isFn Try.prog f = true) (hc : Cap cap) (hp : ∀ x, Snd Try.prog f (eTerm x :: cap) (.bool (p x)) []) :
    Snd Try.prog F.slices_ContainsFunc_impl_Term_impl_Term [.sl .rd 3 (l.map eTerm), .fn f cap] (.bool (l.any p)) [] := by
  refine snd_by ck_slices_ContainsFunc_impl_Term_impl_Term rfl (by simp [hc.rd]) (den_W ?_)
  unfold ir_slices_ContainsFunc_impl_Term_impl_Term rs_slices_ContainsFunc_impl_Term_impl_Term
  simp
  refine do_cq (indexFunc_Term l f cap p hf hc hp) (by simp [St.args, hc.dt, hc.rd]) ?_
  simp [idxOf_any]
end Go.Proofs.Ythbbieobcokgbaa
