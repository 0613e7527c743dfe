/-
  Slices of ints, runs; Weaker and its law.
-/
import Derived.Test.YthbbieobcokgbaaTyJob
import Derived.Test.YthbbieobcokgbaaLaw0
namespace Go.Proofs.Ythbbieobcokgbaa
open Go Go.RowKit Eng
@[simp] def eI (n : Int) : AV := .int .i64 n
@[simp] theorem rdt_IS (l : List Int) : rdtL (l.map eI) = l.map eI := rdtL_enc _ (fun _ => rfl) l
@[simp] theorem nw_IS (l : List Int) : NwL (l.map eI) := NwL_enc _ (fun _ => by simp) l
theorem IS_of {a : AV} (h : (Ty.sl (.int .i64)).okV a) : ∃ l : List Int, AV.wk1 (fun _ => False) a (.sl .rd 1 (l.map eI)) := by
  simp only [Ty.okV, Ty.ok] at h
  rcases h with h | ⟨es, h, _, h2⟩
  · exact ⟨[], by rw [(List.cons.inj h).1]; simp⟩
  · obtain ⟨l, rfl⟩ := list_of eI fun x hx => by
      obtain ⟨_, h3, n, h4, _⟩ := h2 x hx
      cases x <;> simp [AV.cells, Ty.isSt, AV.one] at h3 h4
      exact ⟨n, by simp [h4]⟩
    exact ⟨l, by rw [(List.cons.inj h).1]; simp [Ty.size]⟩
def ir_laws_toIntS : L :=
  .seq (
  .reg [.mv 2 (.c (.nl))]) (
  .seq (
  .reg [.mv 5 (.t 0),
    .ln 6 (.t 5),
    .ms 7 1 8 [.int .i64 0] (.t 6),
    .mv 3 (.t 7)]) (
  .seq (
  .seq (
  .reg [.mv 4 (.c (.int .i64 0))]) (
  .blk 0 (
    .loop (
      .seq (
      .seq (
      .reg [.mv 8 (.t 4),
        .mv 9 (.t 0),
        .ln 10 (.t 9),
        .bi 11 .lss (.t 8) (.t 10)]) (
      .cond (.t 11) (
        .skip) (
        .exit 0))) (
      .seq (
      .blk 1 (
        .reg [.mv 14 (.t 3),
          .mv 15 (.t 4),
          .mv 16 (.t 0),
          .mv 17 (.t 4),
          .ia 18 (.t 16) (.t 17) 1,
          .ld 19 (.t 18) 1 false,
          .ia 20 (.t 14) (.t 15) 1,
          .st (.t 20) (.t 19) 1])) (
      .reg [.mv 12 (.t 4),
        .bi 13 .add (.t 12) (.c (.int .i64 1)),
        .mv 4 (.t 13)])))))) (
  .seq (
  .reg [.mv 21 (.t 3),
    .mv 2 (.t 21)]) (
  .ret))))
def rs_laws_toIntS : List Rv := [.t 2]
theorem ck_laws_toIntS : chkFn Try.prog F.laws_toIntS 1 ir_laws_toIntS rs_laws_toIntS = true := by kernel_rfl
theorem toIntS_ok (l : List Int) (hl : l.length ≤ 1048576) : Snd Try.prog F.laws_toIntS [.sl .rd 1 (l.map eI)] (.sref 0) [⟨1, l.map eI, false⟩] := by
  refine snd_by ck_laws_toIntS rfl (by simp) (den_W ?_)
  unfold ir_laws_toIntS rs_laws_toIntS
  simp
  intro hlen
  refine ⟨by omega, by omega, W_loop (fun m s => ∃ i es, m = l.length - i ∧ i ≤ l.length ∧ s.e 0 = .sl .rd 1 (l.map eI) ∧ s.e 3 = .sref 7 ∧ s.e 4 = .int .i64 (i : Nat) ∧
    s.rw 7 = some ⟨1, es, false⟩ ∧ es = (l.map eI).take i ++ List.replicate (l.length - i) (.int .i64 0)) l.length ?_ ?_⟩
  · exact ⟨0, List.replicate l.length (.int .i64 0), by simp⟩
  · rintro m s ⟨i, es, rfl, hi, h0, h3, h4, hr, he⟩
    by_cases h : i < l.length
    · obtain ⟨f1, f2, f3⟩ := fill_facts _ _ _ _ h he
      simp [h0, h3, h4, hr, h, f1, f2]
      intro _
      refine ⟨l.length - (i + 1), by omega, i + 1, by simp, by omega, by simp [wrap_succ h hlen], by simpa using f3⟩
    · have : i = l.length := by omega
      subst this
      simp [h0, h3, h4]
      intro _
      refine post_ret [7] ?_
      simp [hr, he, List.take_of_length_le]
def ir_laws_eqIntS : L :=
  .seq (
  .reg [.mv 4 (.c (.bool false))]) (
  .seq (
  .seq (
  .reg [.mv 6 (.t 0),
    .ln 7 (.t 6),
    .mv 8 (.t 1),
    .ln 9 (.t 8),
    .bi 10 .neq (.t 7) (.t 9)]) (
  .cond (.t 10) (
    .seq (
    .reg [.mv 4 (.c (.bool false))]) (
    .ret)) (
    .skip))) (
  .seq (
  .seq (
  .reg [.mv 5 (.c (.int .i64 0))]) (
  .blk 0 (
    .loop (
      .seq (
      .seq (
      .reg [.mv 11 (.t 5),
        .mv 12 (.t 0),
        .ln 13 (.t 12),
        .bi 14 .lss (.t 11) (.t 13)]) (
      .cond (.t 14) (
        .skip) (
        .exit 0))) (
      .seq (
      .blk 1 (
        .seq (
        .rq 9 [.mv 17 (.t 0),
          .mv 18 (.t 5),
          .ia 19 (.t 17) (.t 18) 1,
          .ld 20 (.t 19) 1 false,
          .mv 21 (.t 1),
          .mv 22 (.t 5),
          .ia 23 (.t 21) (.t 22) 1,
          .ld 24 (.t 23) 1 false,
          .bi 25 .neq (.t 20) (.t 24)]) (
        .cond (.t 25) (
          .seq (
          .reg [.mv 4 (.c (.bool false))]) (
          .ret)) (
          .skip)))) (
      .reg [.mv 15 (.t 5),
        .bi 16 .add (.t 15) (.c (.int .i64 1)),
        .mv 5 (.t 16)])))))) (
  .seq (
  .reg [.mv 4 (.c (.bool true))]) (
  .ret))))
def rs_laws_eqIntS : List Rv := [.t 4]
theorem ck_laws_eqIntS : chkFn Try.prog F.laws_eqIntS 2 ir_laws_eqIntS rs_laws_eqIntS = true := by kernel_rfl
theorem eqIntS_ok (l k : List Int) : Snd Try.prog F.laws_eqIntS [.sl .rd 1 (l.map eI), .sl .rd 1 (k.map eI)] (.bool (decide (l = k))) [] := by
  refine snd_by ck_laws_eqIntS rfl (by simp) (den_W ?_)
  unfold ir_laws_eqIntS rs_laws_eqIntS
  simp
  intro hl hk
  refine ⟨fun hne => fun e => hne (by rw [e]), fun hlen => ?_⟩
  refine W_loop (fun m s => ∃ i, m = l.length - i ∧ i ≤ l.length ∧ l.take i = k.take i ∧ s.e 0 = .sl .rd 1 (l.map eI) ∧ s.e 1 = .sl .rd 1 (k.map eI) ∧ s.e 5 = .int .i64 (i : Nat)) l.length ?_ ?_
  · exact ⟨0, by simp⟩
  · rintro m s ⟨i, rfl, hi, hu, h0, h1, h5⟩
    by_cases h : i < l.length
    · have hk' : i < k.length := by omega
      simp [h0, h1, h5, h, hk']
      intro _
      by_cases he : l[i] = k[i]
      · simp [he]
        exact ⟨l.length - (i + 1), by omega, i + 1, by simp, by omega, by rw [List.take_succ_eq_append_getElem h, List.take_succ_eq_append_getElem hk', hu, he], by simp [wrap_succ h hl]⟩
      · simp [he]
        exact fun e => he (by subst e; rfl)
    · have : i = l.length := by omega
      subst this
      simp [h0, h5]
      intro _
      rw [List.take_of_length_le (Nat.le_refl _), List.take_of_length_le (by omega)] at hu
      exact hu
def ir_laws_szIntS : L :=
  .seq (
  .reg [.mv 4 (.c (.int .i64 0))]) (
  .seq (
  .reg [.mv 5 (.t 1),
    .mv 6 (.t 0),
    .ln 7 (.t 6),
    .bi 8 .sub (.t 5) (.t 7),
    .mv 1 (.t 8)]) (
  .seq (
  .seq (
  .reg [.mv 9 (.t 1),
    .bi 10 .lss (.t 9) (.c (.int .i64 0))]) (
  .cond (.t 10) (
    .seq (
    .reg [.mv 4 (.c (.int .i64 (-1)))]) (
    .ret)) (
    .skip))) (
  .seq (
  .reg [.mv 11 (.t 1),
    .mv 4 (.t 11)]) (
  .ret))))
def rs_laws_szIntS : List Rv := [.t 4]
theorem ck_laws_szIntS : chkFn Try.prog F.laws_szIntS 2 ir_laws_szIntS rs_laws_szIntS = true := by kernel_rfl
theorem szIntS_ok (l : List Int) (n : Int) (hn : n ≤ 1048576) (h0 : 0 ≤ n) : Snd Try.prog F.laws_szIntS [.sl .rd 1 (l.map eI), .int .i64 n] (.int .i64 (szr n l.length)) [] := by
  refine snd_by ck_laws_szIntS rfl (by simp) (den_W ?_)
  unfold ir_laws_szIntS rs_laws_szIntS
  simp
  intro hl
  rw [wrap_id (by omega) (by omega)]
  unfold szr
  grind

structure Run where
  job : Job
  t : Int
  nodes : List Int
  deriving DecidableEq
@[simp] def eRunT (g : Tag) (r : Run) : AV := .agg [.int .i64 r.job.id, .int .i64 r.job.prio, .int .i64 r.job.nodes, .int .i64 r.job.need.a, .int .i64 r.job.need.b, .int .i64 r.job.need.c, .int .i64 r.job.lic.a, .int .i64 r.job.lic.b, .int .i64 r.job.lic.c,
  .int .i64 r.job.wall, .int .i64 r.job.level, .int .i64 r.t, .sl g 1 (r.nodes.map eI)]
@[simp] abbrev eRun := eRunT .rd
def tyRun : Ty := .st [tyJob, .int .i64, .sl (.int .i64)]
theorem Run_of {x : AV} (h : tyRun.okV x) : ∃ y : Run, AV.wkA (fun _ => False) x (eRun y) := by
  obtain ⟨cs, rfl, h⟩ := h
  simp only [Ty.ok, okL] at h
  obtain ⟨_, _, rfl, hj, _, _, rfl, ⟨t, rfl, _⟩, l1, _, rfl, hn, rfl⟩ := h
  obtain ⟨j, ej⟩ := Job_of (x := .agg _) ⟨_, rfl, hj⟩
  simp only [eJob, AV.agg.injEq] at ej
  subst ej
  rcases hn with rfl | ⟨es, rfl, h1, h2⟩
  · exact ⟨⟨j, t, []⟩, by simp⟩
  · obtain ⟨l, hl⟩ := IS_of (a := .sl .rd 1 es) (by simp only [Ty.okV, Ty.ok]; exact .inr ⟨es, rfl, h1, h2⟩)
    exact ⟨⟨j, t, l⟩, by simpa [Ty.size] using hl⟩
def ir_laws_szRun : L :=
  .seq (
  .reg [.bx 2 (.t 0),
    .mv 4 (.c (.int .i64 0))]) (
  .seq (
  .reg [.fa 5 (.t 2) 12,
    .ld 6 (.t 5) 1 false,
    .mv 7 (.t 1),
    .cq 8 F.laws_szIntS [(.t 6), (.t 7)],
    .mv 1 (.t 8)]) (
  .seq (
  .seq (
  .reg [.mv 9 (.t 1),
    .bi 10 .lss (.t 9) (.c (.int .i64 0))]) (
  .cond (.t 10) (
    .seq (
    .reg [.mv 4 (.c (.int .i64 (-1)))]) (
    .ret)) (
    .skip))) (
  .seq (
  .reg [.mv 11 (.t 1),
    .mv 4 (.t 11)]) (
  .ret))))
def rs_laws_szRun : List Rv := [.t 4]
theorem ck_laws_szRun : chkFn Try.prog F.laws_szRun 2 ir_laws_szRun rs_laws_szRun = true := by kernel_rfl
theorem szRun_ok (r : Run) (n : Int) (hn : n ≤ 1048576) (h0 : 0 ≤ n) : Snd Try.prog F.laws_szRun [eRun r, .int .i64 n] (.int .i64 (szr n r.nodes.length)) [] := by
  refine snd_by ck_laws_szRun rfl (by simp) (den_W ?_)
  unfold ir_laws_szRun rs_laws_szRun
  simp
  refine do_cq (szIntS_ok r.nodes n hn h0) (by simp [St.args]) ?_
  simp
  intro h
  unfold szr at h ⊢
  split at h
  · rename_i h'; simp [h']
  · rename_i h'; simp [h']; omega
def ir_laws_toRun : L :=
  .seq (
  .reg [.bx 1 (.t 0),
    .al 2 [.int .i64 0, .int .i64 0, .int .i64 0, .int .i64 0, .int .i64 0, .int .i64 0, .int .i64 0, .int .i64 0, .int .i64 0, .int .i64 0, .int .i64 0, .int .i64 0, .nl]]) (
  .seq (
  .reg [.al 3 [.int .i64 0, .int .i64 0, .int .i64 0, .int .i64 0, .int .i64 0, .int .i64 0, .int .i64 0, .int .i64 0, .int .i64 0, .int .i64 0, .int .i64 0, .int .i64 0, .nl]]) (
  .seq (
  .reg [.fa 4 (.t 1) 0,
    .ld 5 (.t 4) 11 true,
    .cq 6 F.laws_toJob [(.t 5)],
    .fa 7 (.t 3) 0,
    .st (.t 7) (.t 6) 11]) (
  .seq (
  .reg [.fa 8 (.t 1) 11,
    .ld 9 (.t 8) 1 false,
    .fa 10 (.t 3) 11,
    .st (.t 10) (.t 9) 1]) (
  .seq (
  .reg [.fa 11 (.t 1) 12,
    .ld 12 (.t 11) 1 false,
    .cq 13 F.laws_toIntS [(.t 12)],
    .fa 14 (.t 3) 12,
    .st (.t 14) (.t 13) 1]) (
  .seq (
  .reg [.ld 15 (.t 3) 13 true,
    .st (.t 2) (.t 15) 13]) (
  .ret))))))
def rs_laws_toRun : List Rv := [.c 2 13 true]
theorem ck_laws_toRun : chkFn Try.prog F.laws_toRun 1 ir_laws_toRun rs_laws_toRun = true := by kernel_rfl
theorem toRun_ok (r : Run) (hl : r.nodes.length ≤ 1048576) : Snd Try.prog F.laws_toRun [eRun r] (eRunT .nw r) [] := by
  refine snd_by ck_laws_toRun rfl (by simp) (den_W ?_)
  unfold ir_laws_toRun rs_laws_toRun
  simp
  refine do_cq (toJob_ok r.job) (by simp [St.args]) ?_
  simp
  refine do_cq (toIntS_ok r.nodes hl) (by simp [St.args]) ?_
  simp
def ir_laws_eqRun : L :=
  .seq (
  .reg [.bx 2 (.t 0),
    .bx 3 (.t 1),
    .mv 4 (.c (.bool false))]) (
  .seq (
  .seq (
  .reg [.fa 5 (.t 2) 0,
    .ld 6 (.t 5) 11 true,
    .fa 7 (.t 3) 0,
    .ld 8 (.t 7) 11 true,
    .cq 9 F.laws_eqJob [(.t 6), (.t 8)],
    .un 10 (.t 9)]) (
  .cond (.t 10) (
    .seq (
    .reg [.mv 4 (.c (.bool false))]) (
    .ret)) (
    .skip))) (
  .seq (
  .seq (
  .reg [.fa 11 (.t 2) 11,
    .ld 12 (.t 11) 1 false,
    .fa 13 (.t 3) 11,
    .ld 14 (.t 13) 1 false,
    .bi 15 .neq (.t 12) (.t 14)]) (
  .cond (.t 15) (
    .seq (
    .reg [.mv 4 (.c (.bool false))]) (
    .ret)) (
    .skip))) (
  .seq (
  .seq (
  .reg [.fa 16 (.t 2) 12,
    .ld 17 (.t 16) 1 false,
    .fa 18 (.t 3) 12,
    .ld 19 (.t 18) 1 false,
    .cq 20 F.laws_eqIntS [(.t 17), (.t 19)],
    .un 21 (.t 20)]) (
  .cond (.t 21) (
    .seq (
    .reg [.mv 4 (.c (.bool false))]) (
    .ret)) (
    .skip))) (
  .seq (
  .reg [.mv 4 (.c (.bool true))]) (
  .ret)))))
def rs_laws_eqRun : List Rv := [.t 4]
theorem ck_laws_eqRun : chkFn Try.prog F.laws_eqRun 2 ir_laws_eqRun rs_laws_eqRun = true := by kernel_rfl
theorem eqRun_ok (x y : Run) : Snd Try.prog F.laws_eqRun [eRun x, eRun y] (.bool (decide (x = y))) [] := by
  refine snd_by ck_laws_eqRun rfl (by simp) (den_W ?_)
  unfold ir_laws_eqRun rs_laws_eqRun
  simp
  refine do_cq (eqJob_ok x.job y.job) (by simp [St.args]) ?_
  by_cases h0 : x.job = y.job
  rotate_left
  · simp [h0]
    exact fun e => h0 (by rw [e])
  simp [h0]
  by_cases h1 : x.t = y.t
  rotate_left
  · simp [h1]
    exact fun e => h1 (by rw [e])
  simp [h1]
  refine do_cq (eqIntS_ok x.nodes y.nodes) (by simp [St.args]) ?_
  by_cases h2 : x.nodes = y.nodes
  rotate_left
  · simp [h2]
    exact fun e => h2 (by rw [e])
  simp [h2]
  cases x; cases y; simp_all
def weaker (x y : Run) : Bool := if x.job.prio ≠ y.job.prio then decide (x.job.prio < y.job.prio) else decide (y.t < x.t) || (decide (x.t = y.t) && decide (y.job.id < x.job.id))
def ir_spec_Weaker : L :=
  .seq (
  .reg [.bx 2 (.t 0),
    .bx 3 (.t 1),
    .mv 4 (.c (.bool false))]) (
  .seq (
  .seq (
  .reg [.fa 5 (.t 2) 0,
    .fa 6 (.t 5) 1,
    .ld 7 (.t 6) 1 false,
    .fa 8 (.t 3) 0,
    .fa 9 (.t 8) 1,
    .ld 10 (.t 9) 1 false,
    .bi 11 .neq (.t 7) (.t 10)]) (
  .cond (.t 11) (
    .seq (
    .reg [.fa 12 (.t 2) 0,
      .fa 13 (.t 12) 1,
      .ld 14 (.t 13) 1 false,
      .fa 15 (.t 3) 0,
      .fa 16 (.t 15) 1,
      .ld 17 (.t 16) 1 false,
      .bi 18 .lss (.t 14) (.t 17),
      .mv 4 (.t 18)]) (
    .ret)) (
    .skip))) (
  .seq (
  .reg [.fa 19 (.t 2) 11,
    .ld 20 (.t 19) 1 false,
    .fa 21 (.t 3) 11,
    .ld 22 (.t 21) 1 false,
    .bi 23 .gtr (.t 20) (.t 22),
    .mv 24 (.t 23),
    .g 24 false (.fa 25 (.t 2) 11),
    .g 24 false (.ld 26 (.t 25) 1 false),
    .g 24 false (.fa 27 (.t 3) 11),
    .g 24 false (.ld 28 (.t 27) 1 false),
    .g 24 false (.bi 29 .eql (.t 26) (.t 28)),
    .g 24 false (.mv 30 (.t 29)),
    .g 30 true (.fa 31 (.t 2) 0),
    .g 30 true (.fa 32 (.t 31) 0),
    .g 30 true (.ld 33 (.t 32) 1 false),
    .g 30 true (.fa 34 (.t 3) 0),
    .g 30 true (.fa 35 (.t 34) 0),
    .g 30 true (.ld 36 (.t 35) 1 false),
    .g 30 true (.bi 37 .gtr (.t 33) (.t 36)),
    .g 24 false (.pk 38 (.t 30) (.t 37) (.c (.bool false))),
    .pk 39 (.t 24) (.c (.bool true)) (.t 38),
    .mv 4 (.t 39)]) (
  .ret)))
def rs_spec_Weaker : List Rv := [.t 4]
theorem ck_spec_Weaker : chkFn Try.prog F.spec_Weaker 2 ir_spec_Weaker rs_spec_Weaker = true := by kernel_rfl
set_option maxRecDepth 10000 in
theorem spec_Weaker_ok (x y : Run) : Snd Try.prog F.spec_Weaker [eRun x, eRun y] (.bool (weaker x y)) [] := by
  refine snd_by ck_spec_Weaker rfl (by simp) (den_W ?_)
  unfold ir_spec_Weaker rs_spec_Weaker
  unfold weaker
  by_cases h : x.job.prio = y.job.prio
  · by_cases h1 : y.t < x.t
    · simp [h, h1]
    · by_cases h2 : x.t = y.t <;> simp [h, h1, h2]
  · simp [h]
def ir_impl_Weaker : L :=
  .seq (
  .reg [.bx 2 (.t 0),
    .bx 3 (.t 1),
    .mv 4 (.c (.bool false))]) (
  .seq (
  .blk 0 (
    .seq (
    .reg [.fa 6 (.t 2) 0,
      .fa 7 (.t 6) 1,
      .ld 8 (.t 7) 1 false,
      .fa 9 (.t 3) 0,
      .fa 10 (.t 9) 1,
      .ld 11 (.t 10) 1 false,
      .bi 12 .neq (.t 8) (.t 11),
      .mv 5 (.t 12)]) (
    .cond (.t 5) (
      .seq (
      .reg [.fa 13 (.t 2) 0,
        .fa 14 (.t 13) 1,
        .ld 15 (.t 14) 1 false,
        .fa 16 (.t 3) 0,
        .fa 17 (.t 16) 1,
        .ld 18 (.t 17) 1 false,
        .bi 19 .lss (.t 15) (.t 18),
        .mv 4 (.t 19)]) (
      .ret)) (
      .seq (
      .reg [.fa 21 (.t 2) 11,
        .ld 22 (.t 21) 1 false,
        .fa 23 (.t 3) 11,
        .ld 24 (.t 23) 1 false,
        .bi 25 .neq (.t 22) (.t 24),
        .mv 20 (.t 25)]) (
      .cond (.t 20) (
        .seq (
        .reg [.fa 26 (.t 2) 11,
          .ld 27 (.t 26) 1 false,
          .fa 28 (.t 3) 11,
          .ld 29 (.t 28) 1 false,
          .bi 30 .gtr (.t 27) (.t 29),
          .mv 4 (.t 30)]) (
        .ret)) (
        .skip)))))) (
  .seq (
  .reg [.fa 31 (.t 2) 0,
    .fa 32 (.t 31) 0,
    .ld 33 (.t 32) 1 false,
    .fa 34 (.t 3) 0,
    .fa 35 (.t 34) 0,
    .ld 36 (.t 35) 1 false,
    .bi 37 .gtr (.t 33) (.t 36),
    .mv 4 (.t 37)]) (
  .ret)))
def rs_impl_Weaker : List Rv := [.t 4]
theorem ck_impl_Weaker : chkFn Try.prog F.impl_Weaker 2 ir_impl_Weaker rs_impl_Weaker = true := by kernel_rfl
set_option maxRecDepth 10000 in
theorem impl_Weaker_ok (x y : Run) : Snd Try.prog F.impl_Weaker [eRun x, eRun y] (.bool (weaker x y)) [] := by
  refine snd_by ck_impl_Weaker rfl (by simp) (den_W ?_)
  unfold ir_impl_Weaker rs_impl_Weaker
  unfold weaker
  by_cases h : x.job.prio = y.job.prio
  · by_cases h2 : x.t = y.t <;> simp [h, h2]
  · simp [h]
def ir_laws_FnExactWeaker : L :=
  .seq (
  .reg [.bx 2 (.t 0),
    .bx 3 (.t 1),
    .mv 4 (.c (.bool false))]) (
  .seq (
  .reg [.mv 5 (.c (.int .i64 1048576))]) (
  .seq (
  .reg [.ld 10 (.t 2) 13 true,
    .mv 11 (.t 5),
    .cq 12 F.laws_szRun [(.t 10), (.t 11)],
    .mv 5 (.t 12)]) (
  .seq (
  .seq (
  .reg [.mv 13 (.t 5),
    .bi 14 .lss (.t 13) (.c (.int .i64 0))]) (
  .cond (.t 14) (
    .seq (
    .reg [.mv 4 (.c (.bool true))]) (
    .ret)) (
    .skip))) (
  .seq (
  .reg [.ld 15 (.t 3) 13 true,
    .mv 16 (.t 5),
    .cq 17 F.laws_szRun [(.t 15), (.t 16)],
    .mv 5 (.t 17)]) (
  .seq (
  .seq (
  .reg [.mv 18 (.t 5),
    .bi 19 .lss (.t 18) (.c (.int .i64 0))]) (
  .cond (.t 19) (
    .seq (
    .reg [.mv 4 (.c (.bool true))]) (
    .ret)) (
    .skip))) (
  .seq (
  .rq 6 [.ld 20 (.t 2) 13 true,
    .cq 21 F.laws_toRun [(.t 20)],
    .ld 22 (.t 3) 13 true,
    .cq 23 F.laws_toRun [(.t 22)],
    .cq 24 F.spec_Weaker [(.t 21), (.t 23)],
    .mv 6 (.t 24)]) (
  .seq (
  .reg [.ld 25 (.t 2) 13 true,
    .cq 26 F.laws_toRun [(.t 25)],
    .al 7 [.int .i64 0, .int .i64 0, .int .i64 0, .int .i64 0, .int .i64 0, .int .i64 0, .int .i64 0, .int .i64 0, .int .i64 0, .int .i64 0, .int .i64 0, .int .i64 0, .nl],
    .st (.t 7) (.t 26) 13]) (
  .seq (
  .reg [.ld 27 (.t 3) 13 true,
    .cq 28 F.laws_toRun [(.t 27)],
    .al 8 [.int .i64 0, .int .i64 0, .int .i64 0, .int .i64 0, .int .i64 0, .int .i64 0, .int .i64 0, .int .i64 0, .int .i64 0, .int .i64 0, .int .i64 0, .int .i64 0, .nl],
    .st (.t 8) (.t 28) 13]) (
  .seq (
  .reg [.ld 29 (.t 7) 13 true,
    .ld 30 (.t 8) 13 true,
    .cq 31 F.impl_Weaker [(.t 29), (.t 30)],
    .mv 9 (.t 31)]) (
  .seq (
  .seq (
  .reg [.mv 32 (.t 9),
    .mv 33 (.t 6),
    .eb 34 true (.t 32) (.t 33)]) (
  .cond (.t 34) (
    .seq (
    .reg [.mv 4 (.c (.bool false))]) (
    .ret)) (
    .skip))) (
  .seq (
  .seq (
  .rq 5 [.ld 35 (.t 7) 13 true,
    .ld 36 (.t 2) 13 true,
    .cq 37 F.laws_toRun [(.t 36)],
    .cq 38 F.laws_eqRun [(.t 35), (.t 37)],
    .un 39 (.t 38)]) (
  .cond (.t 39) (
    .seq (
    .reg [.mv 4 (.c (.bool false))]) (
    .ret)) (
    .skip))) (
  .seq (
  .seq (
  .rq 5 [.ld 40 (.t 8) 13 true,
    .ld 41 (.t 3) 13 true,
    .cq 42 F.laws_toRun [(.t 41)],
    .cq 43 F.laws_eqRun [(.t 40), (.t 42)],
    .un 44 (.t 43)]) (
  .cond (.t 44) (
    .seq (
    .reg [.mv 4 (.c (.bool false))]) (
    .ret)) (
    .skip))) (
  .seq (
  .reg [.mv 4 (.c (.bool true))]) (
  .ret))))))))))))))
def rs_laws_FnExactWeaker : List Rv := [.t 4]
theorem ck_laws_FnExactWeaker : chkFn Try.prog F.laws_FnExactWeaker 2 ir_laws_FnExactWeaker rs_laws_FnExactWeaker = true := by kernel_rfl
set_option maxRecDepth 10000 in
theorem FnExactWeaker_c (x y : Run) : Snd Try.prog F.laws_FnExactWeaker [eRun x, eRun y] (.bool true) [] := by
  refine snd_by ck_laws_FnExactWeaker rfl (by simp) (den_W ?_)
  unfold ir_laws_FnExactWeaker rs_laws_FnExactWeaker
  simp
  refine do_cq (szRun_ok x 1048576 (by omega) (by omega)) (by simp [St.args]) ?_
  simp
  intro hs
  obtain ⟨hx, ex⟩ := szr_nn hs
  refine do_cq (szRun_ok y (szr 1048576 x.nodes.length) (by omega) (by omega)) (by simp [St.args]) ?_
  simp
  intro hs
  obtain ⟨hy, ey⟩ := szr_nn hs
  refine do_cq (toRun_ok x (by omega)) (by simp [St.args]) ?_
  simp
  refine do_cq (toRun_ok y (by omega)) (by simp [St.args]) ?_
  simp
  refine do_cq (spec_Weaker_ok x y) (by simp [St.args]) ?_
  simp
  refine do_cq (toRun_ok x (by omega)) (by simp [St.args]) ?_
  simp
  refine do_cq (toRun_ok y (by omega)) (by simp [St.args]) ?_
  simp
  refine do_cq (impl_Weaker_ok x y) (by simp [St.args]) ?_
  simp
  refine do_cq (toRun_ok x (by omega)) (by simp [St.args]) ?_
  simp
  refine do_cq (eqRun_ok x x) (by simp [St.args]) ?_
  simp
  refine do_cq (toRun_ok y (by omega)) (by simp [St.args]) ?_
  simp
  refine do_cq (eqRun_ok y y) (by simp [St.args]) ?_
  simp
theorem FnExactWeaker_ok (xs : List AV) (h : okVs [tyRun, tyRun] xs) : Snd Try.prog F.laws_FnExactWeaker xs (.bool true) [] := by
  obtain ⟨a, _, rfl, ha, b, _, rfl, hb, rfl⟩ := h
  obtain ⟨x, hx⟩ := Run_of ha
  obtain ⟨y, hy⟩ := Run_of hb
  exact (FnExactWeaker_c x y).wk ⟨hx, hy, trivial⟩
end Go.Proofs.Ythbbieobcokgbaa
