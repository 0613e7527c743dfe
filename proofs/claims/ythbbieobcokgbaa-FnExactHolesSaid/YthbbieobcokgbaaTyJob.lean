/-
  The law's helpers, printed by a program of mine (tygen.py).
-/
import Derived.Test.YthbbieobcokgbaaTyVec
namespace Go.Proofs.Ythbbieobcokgbaa
open Go Go.RowKit Eng
structure Job where
  id : Int
  prio : Int
  nodes : Int
  need : Vec
  lic : Vec
  wall : Int
  level : Int
  deriving DecidableEq
@[simp] def eJob (x : Job) : AV := .agg [.int .i64 x.id, .int .i64 x.prio, .int .i64 x.nodes, .int .i64 x.need.a, .int .i64 x.need.b, .int .i64 x.need.c, .int .i64 x.lic.a, .int .i64 x.lic.b, .int .i64 x.lic.c, .int .i64 x.wall, .int .i64 x.level]
@[simp] theorem rdt_JobS (l : List Job) : rdtL (l.map eJob) = l.map eJob := rdtL_enc _ (fun _ => rfl) l
@[simp] theorem nw_JobS (l : List Job) : NwL (l.map eJob) := NwL_enc _ (fun _ => by simp) l
def tyJob : Ty := .st [.int .i64, .int .i64, .int .i64, tyVec, tyVec, .int .i64, .int .i64]
theorem Job_of {x : AV} (h : tyJob.okV x) : ∃ y, x = eJob y := by
  obtain ⟨cs, rfl, h⟩ := h
  simp only [tyVec, Ty.ok, okL] at h
  obtain ⟨_, _, rfl, ⟨x_id, rfl, _⟩, ⟨_, _, rfl, ⟨x_prio, rfl, _⟩, ⟨_, _, rfl, ⟨x_nodes, rfl, _⟩, ⟨_, _, rfl, ⟨_, _, rfl, ⟨x_need_a, rfl, _⟩, ⟨_, _, rfl, ⟨x_need_b, rfl, _⟩, ⟨_, _, rfl, ⟨x_need_c, rfl, _⟩, rfl⟩⟩⟩, ⟨_, _, rfl, ⟨_, _, rfl, ⟨x_lic_a, rfl, _⟩, ⟨_, _, rfl, ⟨x_lic_b, rfl, _⟩, ⟨_, _, rfl, ⟨x_lic_c, rfl, _⟩, rfl⟩⟩⟩, ⟨_, _, rfl, ⟨x_wall, rfl, _⟩, ⟨_, _, rfl, ⟨x_level, rfl, _⟩, rfl⟩⟩⟩⟩⟩⟩⟩ := h
  exact ⟨⟨x_id, x_prio, x_nodes, ⟨x_need_a, x_need_b, x_need_c⟩, ⟨x_lic_a, x_lic_b, x_lic_c⟩, x_wall, x_level⟩, rfl⟩
theorem JobS_of {a : AV} (h : (Ty.sl tyJob).okV a) : ∃ l : List Job, AV.wkA (fun _ => False) a (.sl .rd 11 (l.map eJob)) := by
  simp only [Ty.okV, Ty.ok] at h
  rcases h with h | ⟨es, h, _, h2⟩
  · exact ⟨[], by rw [(List.cons.inj h).1]; simp⟩
  · obtain ⟨l, rfl⟩ := list_of eJob fun x hx => by
      obtain ⟨_, h3, h4⟩ := h2 x hx
      simp only [tyJob, Ty.isSt, if_true] at h3
      obtain ⟨cs, rfl⟩ := h3
      exact Job_of ⟨cs, rfl, by simpa [AV.cells, tyJob, Ty.ok] using h4⟩
    exact ⟨l, by rw [(List.cons.inj h).1]; simp [tyJob, Ty.size, sizeL, tyVec]⟩
def ir_laws_toJob : L :=
  .seq (
  .reg [.bx 1 (.t 0),
    .al 2 [.int .i64 0, .int .i64 0, .int .i64 0, .int .i64 0, .int .i64 0, .int .i64 0, .int .i64 0, .int .i64 0, .int .i64 0, .int .i64 0, .int .i64 0]]) (
  .seq (
  .reg [.al 3 [.int .i64 0, .int .i64 0, .int .i64 0, .int .i64 0, .int .i64 0, .int .i64 0, .int .i64 0, .int .i64 0, .int .i64 0, .int .i64 0, .int .i64 0]]) (
  .seq (
  .reg [.fa 4 (.t 1) 0,
    .ld 5 (.t 4) 1 false,
    .fa 6 (.t 3) 0,
    .st (.t 6) (.t 5) 1]) (
  .seq (
  .reg [.fa 7 (.t 1) 1,
    .ld 8 (.t 7) 1 false,
    .fa 9 (.t 3) 1,
    .st (.t 9) (.t 8) 1]) (
  .seq (
  .reg [.fa 10 (.t 1) 2,
    .ld 11 (.t 10) 1 false,
    .fa 12 (.t 3) 2,
    .st (.t 12) (.t 11) 1]) (
  .seq (
  .reg [.fa 13 (.t 1) 3,
    .ld 14 (.t 13) 3 true,
    .cq 15 F.laws_toVec [(.t 14)],
    .fa 16 (.t 3) 3,
    .st (.t 16) (.t 15) 3]) (
  .seq (
  .reg [.fa 17 (.t 1) 6,
    .ld 18 (.t 17) 3 true,
    .cq 19 F.laws_toVec [(.t 18)],
    .fa 20 (.t 3) 6,
    .st (.t 20) (.t 19) 3]) (
  .seq (
  .reg [.fa 21 (.t 1) 9,
    .ld 22 (.t 21) 1 false,
    .fa 23 (.t 3) 9,
    .st (.t 23) (.t 22) 1]) (
  .seq (
  .reg [.fa 24 (.t 1) 10,
    .ld 25 (.t 24) 1 false,
    .fa 26 (.t 3) 10,
    .st (.t 26) (.t 25) 1]) (
  .seq (
  .reg [.ld 27 (.t 3) 11 true,
    .st (.t 2) (.t 27) 11]) (
  .ret))))))))))
def rs_laws_toJob : List Rv := [.c 2 11 true]
theorem ck_laws_toJob : chkFn Try.prog F.laws_toJob 1 ir_laws_toJob rs_laws_toJob = true := by kernel_rfl
theorem toJob_ok (x : Job) : Snd Try.prog F.laws_toJob [eJob x] (eJob x) [] := by
  refine snd_by ck_laws_toJob rfl rfl (den_W ?_)
  unfold ir_laws_toJob rs_laws_toJob
  simp
  refine do_cq (toVec_ok x.need) (by simp [St.args]) ?_
  simp
  refine do_cq (toVec_ok x.lic) (by simp [St.args]) ?_
  simp
def ir_laws_eqJob : L :=
  .seq (
  .reg [.bx 2 (.t 0),
    .bx 3 (.t 1),
    .mv 4 (.c (.bool false))]) (
  .seq (
  .seq (
  .reg [.fa 5 (.t 2) 0,
    .ld 6 (.t 5) 1 false,
    .fa 7 (.t 3) 0,
    .ld 8 (.t 7) 1 false,
    .bi 9 .neq (.t 6) (.t 8)]) (
  .cond (.t 9) (
    .seq (
    .reg [.mv 4 (.c (.bool false))]) (
    .ret)) (
    .skip))) (
  .seq (
  .seq (
  .reg [.fa 10 (.t 2) 1,
    .ld 11 (.t 10) 1 false,
    .fa 12 (.t 3) 1,
    .ld 13 (.t 12) 1 false,
    .bi 14 .neq (.t 11) (.t 13)]) (
  .cond (.t 14) (
    .seq (
    .reg [.mv 4 (.c (.bool false))]) (
    .ret)) (
    .skip))) (
  .seq (
  .seq (
  .reg [.fa 15 (.t 2) 2,
    .ld 16 (.t 15) 1 false,
    .fa 17 (.t 3) 2,
    .ld 18 (.t 17) 1 false,
    .bi 19 .neq (.t 16) (.t 18)]) (
  .cond (.t 19) (
    .seq (
    .reg [.mv 4 (.c (.bool false))]) (
    .ret)) (
    .skip))) (
  .seq (
  .seq (
  .reg [.fa 20 (.t 2) 3,
    .ld 21 (.t 20) 3 true,
    .fa 22 (.t 3) 3,
    .ld 23 (.t 22) 3 true,
    .cq 24 F.laws_eqVec [(.t 21), (.t 23)],
    .un 25 (.t 24)]) (
  .cond (.t 25) (
    .seq (
    .reg [.mv 4 (.c (.bool false))]) (
    .ret)) (
    .skip))) (
  .seq (
  .seq (
  .reg [.fa 26 (.t 2) 6,
    .ld 27 (.t 26) 3 true,
    .fa 28 (.t 3) 6,
    .ld 29 (.t 28) 3 true,
    .cq 30 F.laws_eqVec [(.t 27), (.t 29)],
    .un 31 (.t 30)]) (
  .cond (.t 31) (
    .seq (
    .reg [.mv 4 (.c (.bool false))]) (
    .ret)) (
    .skip))) (
  .seq (
  .seq (
  .reg [.fa 32 (.t 2) 9,
    .ld 33 (.t 32) 1 false,
    .fa 34 (.t 3) 9,
    .ld 35 (.t 34) 1 false,
    .bi 36 .neq (.t 33) (.t 35)]) (
  .cond (.t 36) (
    .seq (
    .reg [.mv 4 (.c (.bool false))]) (
    .ret)) (
    .skip))) (
  .seq (
  .seq (
  .reg [.fa 37 (.t 2) 10,
    .ld 38 (.t 37) 1 false,
    .fa 39 (.t 3) 10,
    .ld 40 (.t 39) 1 false,
    .bi 41 .neq (.t 38) (.t 40)]) (
  .cond (.t 41) (
    .seq (
    .reg [.mv 4 (.c (.bool false))]) (
    .ret)) (
    .skip))) (
  .seq (
  .reg [.mv 4 (.c (.bool true))]) (
  .ret)))))))))
def rs_laws_eqJob : List Rv := [.t 4]
theorem ck_laws_eqJob : chkFn Try.prog F.laws_eqJob 2 ir_laws_eqJob rs_laws_eqJob = true := by kernel_rfl
theorem eqJob_ok (x y : Job) : Snd Try.prog F.laws_eqJob [eJob x, eJob y] (.bool (decide (x = y))) [] := by
  refine snd_by ck_laws_eqJob rfl rfl (den_W ?_)
  unfold ir_laws_eqJob rs_laws_eqJob
  simp
  by_cases h0 : x.id = y.id
  rotate_left
  · simp [h0]
    exact fun e => h0 (by rw [e])
  simp [h0]
  by_cases h1 : x.prio = y.prio
  rotate_left
  · simp [h1]
    exact fun e => h1 (by rw [e])
  simp [h1]
  by_cases h2 : x.nodes = y.nodes
  rotate_left
  · simp [h2]
    exact fun e => h2 (by rw [e])
  simp [h2]
  refine do_cq (eqVec_ok x.need y.need) (by simp [St.args]) ?_
  by_cases h3 : x.need = y.need
  rotate_left
  · simp [h3]
    exact fun e => h3 (by rw [e])
  simp [h3]
  refine do_cq (eqVec_ok x.lic y.lic) (by simp [St.args]) ?_
  by_cases h4 : x.lic = y.lic
  rotate_left
  · simp [h4]
    exact fun e => h4 (by rw [e])
  simp [h4]
  by_cases h5 : x.wall = y.wall
  rotate_left
  · simp [h5]
    exact fun e => h5 (by rw [e])
  simp [h5]
  by_cases h6 : x.level = y.level
  rotate_left
  · simp [h6]
    exact fun e => h6 (by rw [e])
  simp [h6]
  cases x; cases y; simp_all
def ir_laws_toJobS : L :=
  .seq (
  .reg [.mv 2 (.c (.nl))]) (
  .seq (
  .reg [.mv 5 (.t 0),
    .ln 6 (.t 5),
    .ms 7 11 88 [.int .i64 0, .int .i64 0, .int .i64 0, .int .i64 0, .int .i64 0, .int .i64 0, .int .i64 0, .int .i64 0, .int .i64 0, .int .i64 0, .int .i64 0] (.t 6),
    .mv 3 (.t 7)]) (
  .seq (
  .seq (
  .reg [.mv 4 (.c (.int .i64 0))]) (
  .blk 0 (
    .loop (
      .seq (
      .seq (
      .reg [.mv 8 (.t 4),
        .mv 9 (.t 0),
        .ln 10 (.t 9),
        .bi 11 .lss (.t 8) (.t 10)]) (
      .cond (.t 11) (
        .skip) (
        .exit 0))) (
      .seq (
      .blk 1 (
        .reg [.mv 14 (.t 3),
          .mv 15 (.t 4),
          .mv 16 (.t 0),
          .mv 17 (.t 4),
          .ia 18 (.t 16) (.t 17) 11,
          .ld 19 (.t 18) 11 true,
          .cq 20 F.laws_toJob [(.t 19)],
          .ia 21 (.t 14) (.t 15) 11,
          .st (.t 21) (.t 20) 11])) (
      .reg [.mv 12 (.t 4),
        .bi 13 .add (.t 12) (.c (.int .i64 1)),
        .mv 4 (.t 13)])))))) (
  .seq (
  .reg [.mv 22 (.t 3),
    .mv 2 (.t 22)]) (
  .ret))))
def rs_laws_toJobS : List Rv := [.t 2]
theorem ck_laws_toJobS : chkFn Try.prog F.laws_toJobS 1 ir_laws_toJobS rs_laws_toJobS = true := by kernel_rfl
set_option maxRecDepth 10000 in
theorem toJobS_ok (l : List Job) (hl : l.length ≤ 1048576) : Snd Try.prog F.laws_toJobS [.sl .rd 11 (l.map eJob)] (.sref 0) [⟨11, l.map eJob, false⟩] := by
  refine snd_by ck_laws_toJobS rfl (by simp) (den_W ?_)
  unfold ir_laws_toJobS rs_laws_toJobS
  simp
  intro hlen
  refine ⟨by omega, by omega, W_loop (fun m s => ∃ i es, m = l.length - i ∧ i ≤ l.length ∧ s.e 0 = .sl .rd 11 (l.map eJob) ∧ s.e 3 = .sref 7 ∧ s.e 4 = .int .i64 (i : Nat) ∧
    s.rw 7 = some ⟨11, es, false⟩ ∧ es = (l.map eJob).take i ++ List.replicate (l.length - i) (.agg [.int .i64 0, .int .i64 0, .int .i64 0, .int .i64 0, .int .i64 0, .int .i64 0, .int .i64 0, .int .i64 0, .int .i64 0, .int .i64 0, .int .i64 0])) l.length ?_ ?_⟩
  · exact ⟨0, List.replicate l.length (.agg [.int .i64 0, .int .i64 0, .int .i64 0, .int .i64 0, .int .i64 0, .int .i64 0, .int .i64 0, .int .i64 0, .int .i64 0, .int .i64 0, .int .i64 0]), by simp⟩
  · rintro m s ⟨i, es, rfl, hi, h0, h3, h4, hr, he⟩
    by_cases h : i < l.length
    · obtain ⟨f1, f2, f3⟩ := fill_facts _ _ _ _ h he
      simp [h0, h3, h4, h]
      intro _
      refine do_cq (toJob_ok l[i]) (by simp [St.args]) ?_
      simp [h0, h3, h4, hr, h, f1, f2]
      refine ⟨l.length - (i + 1), by omega, i + 1, by simp, by omega, by simp [wrap_succ h hlen], by simpa using f3⟩
    · have : i = l.length := by omega
      subst this
      simp [h0, h3, h4]
      intro _
      refine post_ret [7] ?_
      simp [hr, he, List.take_of_length_le]
def ir_laws_eqJobS : L :=
  .seq (
  .reg [.mv 4 (.c (.bool false))]) (
  .seq (
  .seq (
  .reg [.mv 6 (.t 0),
    .ln 7 (.t 6),
    .mv 8 (.t 1),
    .ln 9 (.t 8),
    .bi 10 .neq (.t 7) (.t 9)]) (
  .cond (.t 10) (
    .seq (
    .reg [.mv 4 (.c (.bool false))]) (
    .ret)) (
    .skip))) (
  .seq (
  .seq (
  .reg [.mv 5 (.c (.int .i64 0))]) (
  .blk 0 (
    .loop (
      .seq (
      .seq (
      .reg [.mv 11 (.t 5),
        .mv 12 (.t 0),
        .ln 13 (.t 12),
        .bi 14 .lss (.t 11) (.t 13)]) (
      .cond (.t 14) (
        .skip) (
        .exit 0))) (
      .seq (
      .blk 1 (
        .seq (
        .rq 10 [.mv 17 (.t 0),
          .mv 18 (.t 5),
          .ia 19 (.t 17) (.t 18) 11,
          .ld 20 (.t 19) 11 true,
          .mv 21 (.t 1),
          .mv 22 (.t 5),
          .ia 23 (.t 21) (.t 22) 11,
          .ld 24 (.t 23) 11 true,
          .cq 25 F.laws_eqJob [(.t 20), (.t 24)],
          .un 26 (.t 25)]) (
        .cond (.t 26) (
          .seq (
          .reg [.mv 4 (.c (.bool false))]) (
          .ret)) (
          .skip)))) (
      .reg [.mv 15 (.t 5),
        .bi 16 .add (.t 15) (.c (.int .i64 1)),
        .mv 5 (.t 16)])))))) (
  .seq (
  .reg [.mv 4 (.c (.bool true))]) (
  .ret))))
def rs_laws_eqJobS : List Rv := [.t 4]
theorem ck_laws_eqJobS : chkFn Try.prog F.laws_eqJobS 2 ir_laws_eqJobS rs_laws_eqJobS = true := by kernel_rfl
theorem eqJobS_ok (l k : List Job) : Snd Try.prog F.laws_eqJobS [.sl .rd 11 (l.map eJob), .sl .rd 11 (k.map eJob)] (.bool (decide (l = k))) [] := by
  refine snd_by ck_laws_eqJobS rfl (by simp) (den_W ?_)
  unfold ir_laws_eqJobS rs_laws_eqJobS
  simp
  intro hl hk
  refine ⟨fun hne => fun e => hne (by rw [e]), fun hlen => ?_⟩
  refine W_loop (fun m s => ∃ i, m = l.length - i ∧ i ≤ l.length ∧ l.take i = k.take i ∧ s.e 0 = .sl .rd 11 (l.map eJob) ∧ s.e 1 = .sl .rd 11 (k.map eJob) ∧ s.e 5 = .int .i64 (i : Nat)) l.length ?_ ?_
  · exact ⟨0, by simp⟩
  · rintro m s ⟨i, rfl, hi, hu, h0, h1, h5⟩
    by_cases h : i < l.length
    · have hk' : i < k.length := by omega
      simp [h0, h1, h5, h, hk']
      intro _
      refine do_cq (eqJob_ok l[i] k[i]) (by simp [St.args]) ?_
      by_cases he : l[i] = k[i]
      · simp [he, h0, h1, h5]
        exact ⟨l.length - (i + 1), by omega, i + 1, by simp, by omega, by rw [List.take_succ_eq_append_getElem h, List.take_succ_eq_append_getElem hk', hu, he], by simp [wrap_succ h hl]⟩
      · simp [he]
        exact fun e => he (by subst e; rfl)
    · have : i = l.length := by omega
      subst this
      simp [h0, h5]
      intro _
      rw [List.take_of_length_le (Nat.le_refl _), List.take_of_length_le (by omega)] at hu
      exact hu
def ir_laws_szJobS : L :=
  .seq (
  .reg [.mv 4 (.c (.int .i64 0))]) (
  .seq (
  .reg [.mv 5 (.t 1),
    .mv 6 (.t 0),
    .ln 7 (.t 6),
    .bi 8 .sub (.t 5) (.t 7),
    .mv 1 (.t 8)]) (
  .seq (
  .seq (
  .reg [.mv 9 (.t 1),
    .bi 10 .lss (.t 9) (.c (.int .i64 0))]) (
  .cond (.t 10) (
    .seq (
    .reg [.mv 4 (.c (.int .i64 (-1)))]) (
    .ret)) (
    .skip))) (
  .seq (
  .reg [.mv 11 (.t 1),
    .mv 4 (.t 11)]) (
  .ret))))
def rs_laws_szJobS : List Rv := [.t 4]
theorem ck_laws_szJobS : chkFn Try.prog F.laws_szJobS 2 ir_laws_szJobS rs_laws_szJobS = true := by kernel_rfl
theorem szJobS_ok (l : List Job) (n : Int) (hn : n ≤ 1048576) (h0 : 0 ≤ n) : Snd Try.prog F.laws_szJobS [.sl .rd 11 (l.map eJob), .int .i64 n] (.int .i64 (szr n l.length)) [] := by
  refine snd_by ck_laws_szJobS rfl (by simp) (den_W ?_)
  unfold ir_laws_szJobS rs_laws_szJobS
  simp
  intro hl
  rw [wrap_id (by omega) (by omega)]
  unfold szr
  grind
def markJobs (k : Int) (n : Nat) : List Job := (List.range n).map fun i => ⟨k + 11 * (i : Nat) + 0, k + 11 * (i : Nat) + 1, k + 11 * (i : Nat) + 2, ⟨k + 11 * (i : Nat) + 3, k + 11 * (i : Nat) + 4, k + 11 * (i : Nat) + 5⟩, ⟨k + 11 * (i : Nat) + 6, k + 11 * (i : Nat) + 7, k + 11 * (i : Nat) + 8⟩, k + 11 * (i : Nat) + 9, k + 11 * (i : Nat) + 10⟩
def ir_laws_markJobS : L :=
  .seq (
  .reg [.mv 4 (.c (.int .i64 0))]) (
  .seq (
  .seq (
  .reg [.mv 5 (.c (.int .i64 0))]) (
  .blk 0 (
    .loop (
      .seq (
      .seq (
      .reg [.mv 6 (.t 5),
        .mv 7 (.t 0),
        .ln 8 (.t 7),
        .bi 9 .lss (.t 6) (.t 8)]) (
      .cond (.t 9) (
        .skip) (
        .exit 0))) (
      .seq (
      .blk 1 (
        .seq (
        .reg [.mv 12 (.t 0),
          .mv 13 (.t 5),
          .mv 14 (.t 1),
          .ia 15 (.t 12) (.t 13) 11,
          .fa 16 (.t 15) 0,
          .st (.t 16) (.t 14) 1]) (
        .seq (
        .reg [.mv 17 (.t 1),
          .bi 18 .add (.t 17) (.c (.int .i64 1)),
          .mv 1 (.t 18)]) (
        .seq (
        .reg [.mv 19 (.t 0),
          .mv 20 (.t 5),
          .mv 21 (.t 1),
          .ia 22 (.t 19) (.t 20) 11,
          .fa 23 (.t 22) 1,
          .st (.t 23) (.t 21) 1]) (
        .seq (
        .reg [.mv 24 (.t 1),
          .bi 25 .add (.t 24) (.c (.int .i64 1)),
          .mv 1 (.t 25)]) (
        .seq (
        .reg [.mv 26 (.t 0),
          .mv 27 (.t 5),
          .mv 28 (.t 1),
          .ia 29 (.t 26) (.t 27) 11,
          .fa 30 (.t 29) 2,
          .st (.t 30) (.t 28) 1]) (
        .seq (
        .reg [.mv 31 (.t 1),
          .bi 32 .add (.t 31) (.c (.int .i64 1)),
          .mv 1 (.t 32)]) (
        .seq (
        .reg [.mv 33 (.t 0),
          .mv 34 (.t 5),
          .mv 35 (.t 1),
          .ia 36 (.t 33) (.t 34) 11,
          .fa 37 (.t 36) 3,
          .fa 38 (.t 37) 0,
          .st (.t 38) (.t 35) 1]) (
        .seq (
        .reg [.mv 39 (.t 1),
          .bi 40 .add (.t 39) (.c (.int .i64 1)),
          .mv 1 (.t 40)]) (
        .seq (
        .reg [.mv 41 (.t 0),
          .mv 42 (.t 5),
          .mv 43 (.t 1),
          .ia 44 (.t 41) (.t 42) 11,
          .fa 45 (.t 44) 3,
          .fa 46 (.t 45) 1,
          .st (.t 46) (.t 43) 1]) (
        .seq (
        .reg [.mv 47 (.t 1),
          .bi 48 .add (.t 47) (.c (.int .i64 1)),
          .mv 1 (.t 48)]) (
        .seq (
        .reg [.mv 49 (.t 0),
          .mv 50 (.t 5),
          .mv 51 (.t 1),
          .ia 52 (.t 49) (.t 50) 11,
          .fa 53 (.t 52) 3,
          .fa 54 (.t 53) 2,
          .st (.t 54) (.t 51) 1]) (
        .seq (
        .reg [.mv 55 (.t 1),
          .bi 56 .add (.t 55) (.c (.int .i64 1)),
          .mv 1 (.t 56)]) (
        .seq (
        .reg [.mv 57 (.t 0),
          .mv 58 (.t 5),
          .mv 59 (.t 1),
          .ia 60 (.t 57) (.t 58) 11,
          .fa 61 (.t 60) 6,
          .fa 62 (.t 61) 0,
          .st (.t 62) (.t 59) 1]) (
        .seq (
        .reg [.mv 63 (.t 1),
          .bi 64 .add (.t 63) (.c (.int .i64 1)),
          .mv 1 (.t 64)]) (
        .seq (
        .reg [.mv 65 (.t 0),
          .mv 66 (.t 5),
          .mv 67 (.t 1),
          .ia 68 (.t 65) (.t 66) 11,
          .fa 69 (.t 68) 6,
          .fa 70 (.t 69) 1,
          .st (.t 70) (.t 67) 1]) (
        .seq (
        .reg [.mv 71 (.t 1),
          .bi 72 .add (.t 71) (.c (.int .i64 1)),
          .mv 1 (.t 72)]) (
        .seq (
        .reg [.mv 73 (.t 0),
          .mv 74 (.t 5),
          .mv 75 (.t 1),
          .ia 76 (.t 73) (.t 74) 11,
          .fa 77 (.t 76) 6,
          .fa 78 (.t 77) 2,
          .st (.t 78) (.t 75) 1]) (
        .seq (
        .reg [.mv 79 (.t 1),
          .bi 80 .add (.t 79) (.c (.int .i64 1)),
          .mv 1 (.t 80)]) (
        .seq (
        .reg [.mv 81 (.t 0),
          .mv 82 (.t 5),
          .mv 83 (.t 1),
          .ia 84 (.t 81) (.t 82) 11,
          .fa 85 (.t 84) 9,
          .st (.t 85) (.t 83) 1]) (
        .seq (
        .reg [.mv 86 (.t 1),
          .bi 87 .add (.t 86) (.c (.int .i64 1)),
          .mv 1 (.t 87)]) (
        .seq (
        .reg [.mv 88 (.t 0),
          .mv 89 (.t 5),
          .mv 90 (.t 1),
          .ia 91 (.t 88) (.t 89) 11,
          .fa 92 (.t 91) 10,
          .st (.t 92) (.t 90) 1]) (
        .reg [.mv 93 (.t 1),
          .bi 94 .add (.t 93) (.c (.int .i64 1)),
          .mv 1 (.t 94)]))))))))))))))))))))))) (
      .reg [.mv 10 (.t 5),
        .bi 11 .add (.t 10) (.c (.int .i64 1)),
        .mv 5 (.t 11)])))))) (
  .seq (
  .reg [.mv 95 (.t 1),
    .mv 4 (.t 95)]) (
  .ret)))
def rs_laws_markJobS : List Rv := [.t 4]
theorem ck_laws_markJobS : chkFn Try.prog F.laws_markJobS 2 ir_laws_markJobS rs_laws_markJobS = true := by kernel_rfl
set_option maxRecDepth 10000 in
theorem markJobS_ok (l : List Job) (k : Int) (h0 : 0 ≤ k) (h1 : k + 11 * l.length ≤ 4611686018427387904) :
    Con Try.prog F.laws_markJobS [.sref 0, .int .i64 k] [] [⟨11, l.map eJob, false⟩] (ret1 (.int .i64 (k + 11 * l.length)) ((markJobs k l.length).map eJob)) := by
  refine con_by [true] ck_laws_markJobS rfl (by simp) fun _ => den_W ?_
  unfold ir_laws_markJobS rs_laws_markJobS
  simp
  refine W_loop (fun m s => ∃ i es, m = l.length - i ∧ i ≤ l.length ∧ s.e 0 = .sref 1000000000 ∧ s.e 1 = .int .i64 (k + 11 * i) ∧ s.e 5 = .int .i64 (i : Nat) ∧
      s.rw 1000000000 = some ⟨11, es, false⟩ ∧ es = ((markJobs k l.length).map eJob).take i ++ (l.map eJob).drop i) l.length ?_ ?_
  · exact ⟨0, l.map eJob, by simp⟩
  · rintro m s ⟨i, es, rfl, hi, h0', h1', h5, hr, he⟩
    by_cases h : i < l.length
    · obtain ⟨f1, f2, f3, f4⟩ := mix_facts _ _ (by simp [markJobs]) i (by simpa using h) he
      simp at f1
      have w0 : IntKind.i64.wrap (k + 11 * (i : Int) + 1) = k + 11 * (i : Int) + 1 := by rw [wrap_id (by omega) (by omega)]
      have w1 : IntKind.i64.wrap (k + 11 * (i : Int) + 1 + 1) = k + 11 * (i : Int) + 2 := by rw [wrap_id (by omega) (by omega)]; omega
      have w2 : IntKind.i64.wrap (k + 11 * (i : Int) + 2 + 1) = k + 11 * (i : Int) + 3 := by rw [wrap_id (by omega) (by omega)]; omega
      have w3 : IntKind.i64.wrap (k + 11 * (i : Int) + 3 + 1) = k + 11 * (i : Int) + 4 := by rw [wrap_id (by omega) (by omega)]; omega
      have w4 : IntKind.i64.wrap (k + 11 * (i : Int) + 4 + 1) = k + 11 * (i : Int) + 5 := by rw [wrap_id (by omega) (by omega)]; omega
      have w5 : IntKind.i64.wrap (k + 11 * (i : Int) + 5 + 1) = k + 11 * (i : Int) + 6 := by rw [wrap_id (by omega) (by omega)]; omega
      have w6 : IntKind.i64.wrap (k + 11 * (i : Int) + 6 + 1) = k + 11 * (i : Int) + 7 := by rw [wrap_id (by omega) (by omega)]; omega
      have w7 : IntKind.i64.wrap (k + 11 * (i : Int) + 7 + 1) = k + 11 * (i : Int) + 8 := by rw [wrap_id (by omega) (by omega)]; omega
      have w8 : IntKind.i64.wrap (k + 11 * (i : Int) + 8 + 1) = k + 11 * (i : Int) + 9 := by rw [wrap_id (by omega) (by omega)]; omega
      have w9 : IntKind.i64.wrap (k + 11 * (i : Int) + 9 + 1) = k + 11 * (i : Int) + 10 := by rw [wrap_id (by omega) (by omega)]; omega
      have w10 : IntKind.i64.wrap (k + 11 * (i : Int) + 10 + 1) = k + 11 * (i : Int) + 11 := by rw [wrap_id (by omega) (by omega)]; omega
      simp [h0', h1', h5, hr, h, f1, f2]
      intro _
      refine ⟨l.length - (i + 1), by omega, i + 1, by simp, by omega, by simp [w0, w1, w2, w3, w4, w5, w6, w7, w8, w9, w10]; omega, by simp; rw [wrap_id (by omega) (by omega)], ?_⟩
      simpa [markJobs, w0, w1, w2, w3, w4, w5, w6, w7, w8, w9, w10] using f4
    · have : i = l.length := by omega
      subst this
      have hes : es = (markJobs k l.length).map eJob := by rw [he, List.take_of_length_le (by simp [markJobs]), List.drop_of_length_le (by simp), List.append_nil]
      have hel : es.length = l.length := by rw [hes]; simp [markJobs]
      simp [h0', h1', h5, hr, hel]
      intro _
      refine postC_ret [] [some es] [] [] ?_
      simp [hr, hes, ret1]
def ir_laws_heldJobS : L :=
  .seq (
  .reg [.mv 4 (.c (.int .i64 0))]) (
  .seq (
  .seq (
  .reg [.mv 5 (.c (.int .i64 0))]) (
  .blk 0 (
    .loop (
      .seq (
      .seq (
      .reg [.mv 6 (.t 5),
        .mv 7 (.t 0),
        .ln 8 (.t 7),
        .bi 9 .lss (.t 6) (.t 8)]) (
      .cond (.t 9) (
        .skip) (
        .exit 0))) (
      .seq (
      .blk 1 (
        .seq (
        .seq (
        .reg [.mv 12 (.t 0),
          .mv 13 (.t 5),
          .ia 14 (.t 12) (.t 13) 11,
          .fa 15 (.t 14) 0,
          .ld 16 (.t 15) 1 false,
          .mv 17 (.t 1),
          .bi 18 .neq (.t 16) (.t 17)]) (
        .cond (.t 18) (
          .seq (
          .reg [.mv 4 (.c (.int .i64 (-1)))]) (
          .ret)) (
          .skip))) (
        .seq (
        .reg [.mv 19 (.t 1),
          .bi 20 .add (.t 19) (.c (.int .i64 1)),
          .mv 1 (.t 20)]) (
        .seq (
        .seq (
        .reg [.mv 21 (.t 0),
          .mv 22 (.t 5),
          .ia 23 (.t 21) (.t 22) 11,
          .fa 24 (.t 23) 1,
          .ld 25 (.t 24) 1 false,
          .mv 26 (.t 1),
          .bi 27 .neq (.t 25) (.t 26)]) (
        .cond (.t 27) (
          .seq (
          .reg [.mv 4 (.c (.int .i64 (-1)))]) (
          .ret)) (
          .skip))) (
        .seq (
        .reg [.mv 28 (.t 1),
          .bi 29 .add (.t 28) (.c (.int .i64 1)),
          .mv 1 (.t 29)]) (
        .seq (
        .seq (
        .reg [.mv 30 (.t 0),
          .mv 31 (.t 5),
          .ia 32 (.t 30) (.t 31) 11,
          .fa 33 (.t 32) 2,
          .ld 34 (.t 33) 1 false,
          .mv 35 (.t 1),
          .bi 36 .neq (.t 34) (.t 35)]) (
        .cond (.t 36) (
          .seq (
          .reg [.mv 4 (.c (.int .i64 (-1)))]) (
          .ret)) (
          .skip))) (
        .seq (
        .reg [.mv 37 (.t 1),
          .bi 38 .add (.t 37) (.c (.int .i64 1)),
          .mv 1 (.t 38)]) (
        .seq (
        .seq (
        .reg [.mv 39 (.t 0),
          .mv 40 (.t 5),
          .ia 41 (.t 39) (.t 40) 11,
          .fa 42 (.t 41) 3,
          .fa 43 (.t 42) 0,
          .ld 44 (.t 43) 1 false,
          .mv 45 (.t 1),
          .bi 46 .neq (.t 44) (.t 45)]) (
        .cond (.t 46) (
          .seq (
          .reg [.mv 4 (.c (.int .i64 (-1)))]) (
          .ret)) (
          .skip))) (
        .seq (
        .reg [.mv 47 (.t 1),
          .bi 48 .add (.t 47) (.c (.int .i64 1)),
          .mv 1 (.t 48)]) (
        .seq (
        .seq (
        .reg [.mv 49 (.t 0),
          .mv 50 (.t 5),
          .ia 51 (.t 49) (.t 50) 11,
          .fa 52 (.t 51) 3,
          .fa 53 (.t 52) 1,
          .ld 54 (.t 53) 1 false,
          .mv 55 (.t 1),
          .bi 56 .neq (.t 54) (.t 55)]) (
        .cond (.t 56) (
          .seq (
          .reg [.mv 4 (.c (.int .i64 (-1)))]) (
          .ret)) (
          .skip))) (
        .seq (
        .reg [.mv 57 (.t 1),
          .bi 58 .add (.t 57) (.c (.int .i64 1)),
          .mv 1 (.t 58)]) (
        .seq (
        .seq (
        .reg [.mv 59 (.t 0),
          .mv 60 (.t 5),
          .ia 61 (.t 59) (.t 60) 11,
          .fa 62 (.t 61) 3,
          .fa 63 (.t 62) 2,
          .ld 64 (.t 63) 1 false,
          .mv 65 (.t 1),
          .bi 66 .neq (.t 64) (.t 65)]) (
        .cond (.t 66) (
          .seq (
          .reg [.mv 4 (.c (.int .i64 (-1)))]) (
          .ret)) (
          .skip))) (
        .seq (
        .reg [.mv 67 (.t 1),
          .bi 68 .add (.t 67) (.c (.int .i64 1)),
          .mv 1 (.t 68)]) (
        .seq (
        .seq (
        .reg [.mv 69 (.t 0),
          .mv 70 (.t 5),
          .ia 71 (.t 69) (.t 70) 11,
          .fa 72 (.t 71) 6,
          .fa 73 (.t 72) 0,
          .ld 74 (.t 73) 1 false,
          .mv 75 (.t 1),
          .bi 76 .neq (.t 74) (.t 75)]) (
        .cond (.t 76) (
          .seq (
          .reg [.mv 4 (.c (.int .i64 (-1)))]) (
          .ret)) (
          .skip))) (
        .seq (
        .reg [.mv 77 (.t 1),
          .bi 78 .add (.t 77) (.c (.int .i64 1)),
          .mv 1 (.t 78)]) (
        .seq (
        .seq (
        .reg [.mv 79 (.t 0),
          .mv 80 (.t 5),
          .ia 81 (.t 79) (.t 80) 11,
          .fa 82 (.t 81) 6,
          .fa 83 (.t 82) 1,
          .ld 84 (.t 83) 1 false,
          .mv 85 (.t 1),
          .bi 86 .neq (.t 84) (.t 85)]) (
        .cond (.t 86) (
          .seq (
          .reg [.mv 4 (.c (.int .i64 (-1)))]) (
          .ret)) (
          .skip))) (
        .seq (
        .reg [.mv 87 (.t 1),
          .bi 88 .add (.t 87) (.c (.int .i64 1)),
          .mv 1 (.t 88)]) (
        .seq (
        .seq (
        .reg [.mv 89 (.t 0),
          .mv 90 (.t 5),
          .ia 91 (.t 89) (.t 90) 11,
          .fa 92 (.t 91) 6,
          .fa 93 (.t 92) 2,
          .ld 94 (.t 93) 1 false,
          .mv 95 (.t 1),
          .bi 96 .neq (.t 94) (.t 95)]) (
        .cond (.t 96) (
          .seq (
          .reg [.mv 4 (.c (.int .i64 (-1)))]) (
          .ret)) (
          .skip))) (
        .seq (
        .reg [.mv 97 (.t 1),
          .bi 98 .add (.t 97) (.c (.int .i64 1)),
          .mv 1 (.t 98)]) (
        .seq (
        .seq (
        .reg [.mv 99 (.t 0),
          .mv 100 (.t 5),
          .ia 101 (.t 99) (.t 100) 11,
          .fa 102 (.t 101) 9,
          .ld 103 (.t 102) 1 false,
          .mv 104 (.t 1),
          .bi 105 .neq (.t 103) (.t 104)]) (
        .cond (.t 105) (
          .seq (
          .reg [.mv 4 (.c (.int .i64 (-1)))]) (
          .ret)) (
          .skip))) (
        .seq (
        .reg [.mv 106 (.t 1),
          .bi 107 .add (.t 106) (.c (.int .i64 1)),
          .mv 1 (.t 107)]) (
        .seq (
        .seq (
        .reg [.mv 108 (.t 0),
          .mv 109 (.t 5),
          .ia 110 (.t 108) (.t 109) 11,
          .fa 111 (.t 110) 10,
          .ld 112 (.t 111) 1 false,
          .mv 113 (.t 1),
          .bi 114 .neq (.t 112) (.t 113)]) (
        .cond (.t 114) (
          .seq (
          .reg [.mv 4 (.c (.int .i64 (-1)))]) (
          .ret)) (
          .skip))) (
        .reg [.mv 115 (.t 1),
          .bi 116 .add (.t 115) (.c (.int .i64 1)),
          .mv 1 (.t 116)]))))))))))))))))))))))) (
      .reg [.mv 10 (.t 5),
        .bi 11 .add (.t 10) (.c (.int .i64 1)),
        .mv 5 (.t 11)])))))) (
  .seq (
  .reg [.mv 117 (.t 1),
    .mv 4 (.t 117)]) (
  .ret)))
def rs_laws_heldJobS : List Rv := [.t 4]
theorem ck_laws_heldJobS : chkFn Try.prog F.laws_heldJobS 2 ir_laws_heldJobS rs_laws_heldJobS = true := by kernel_rfl
set_option maxRecDepth 10000 in
theorem heldJobS_ok (n : Nat) (k : Int) (h0 : 0 ≤ k) (h1 : k + 11 * n ≤ 4611686018427387904) :
    Snd Try.prog F.laws_heldJobS [.sl .rd 11 ((markJobs k n).map eJob), .int .i64 k] (.int .i64 (k + 11 * n)) [] := by
  refine snd_by ck_laws_heldJobS rfl (by simp) (den_W ?_)
  unfold ir_laws_heldJobS rs_laws_heldJobS
  have hlen : (markJobs k n).length = n := by simp [markJobs]
  have hget : ∀ i (h : i < (markJobs k n).length), (markJobs k n)[i] = ⟨k + 11 * (i : Nat) + 0, k + 11 * (i : Nat) + 1, k + 11 * (i : Nat) + 2, ⟨k + 11 * (i : Nat) + 3, k + 11 * (i : Nat) + 4, k + 11 * (i : Nat) + 5⟩, ⟨k + 11 * (i : Nat) + 6, k + 11 * (i : Nat) + 7, k + 11 * (i : Nat) + 8⟩, k + 11 * (i : Nat) + 9, k + 11 * (i : Nat) + 10⟩ := by intro i h; simp [markJobs]
  generalize markJobs k n = l at hlen hget
  simp
  refine W_loop (fun m s => ∃ i, m = n - i ∧ i ≤ n ∧ s.e 0 = .sl .rd 11 (l.map eJob) ∧ s.e 1 = .int .i64 (k + 11 * i) ∧ s.e 5 = .int .i64 (i : Nat)) n ?_ ?_
  · exact ⟨0, by simp⟩
  · rintro m s ⟨i, rfl, hi, h0', h1', h5⟩
    by_cases h : i < n
    · have hi' : i < l.length := by omega
      have w0 : IntKind.i64.wrap (k + 11 * (i : Int) + 1) = k + 11 * (i : Int) + 1 := by rw [wrap_id (by omega) (by omega)]
      have w1 : IntKind.i64.wrap (k + 11 * (i : Int) + 1 + 1) = k + 11 * (i : Int) + 2 := by rw [wrap_id (by omega) (by omega)]; omega
      have w2 : IntKind.i64.wrap (k + 11 * (i : Int) + 2 + 1) = k + 11 * (i : Int) + 3 := by rw [wrap_id (by omega) (by omega)]; omega
      have w3 : IntKind.i64.wrap (k + 11 * (i : Int) + 3 + 1) = k + 11 * (i : Int) + 4 := by rw [wrap_id (by omega) (by omega)]; omega
      have w4 : IntKind.i64.wrap (k + 11 * (i : Int) + 4 + 1) = k + 11 * (i : Int) + 5 := by rw [wrap_id (by omega) (by omega)]; omega
      have w5 : IntKind.i64.wrap (k + 11 * (i : Int) + 5 + 1) = k + 11 * (i : Int) + 6 := by rw [wrap_id (by omega) (by omega)]; omega
      have w6 : IntKind.i64.wrap (k + 11 * (i : Int) + 6 + 1) = k + 11 * (i : Int) + 7 := by rw [wrap_id (by omega) (by omega)]; omega
      have w7 : IntKind.i64.wrap (k + 11 * (i : Int) + 7 + 1) = k + 11 * (i : Int) + 8 := by rw [wrap_id (by omega) (by omega)]; omega
      have w8 : IntKind.i64.wrap (k + 11 * (i : Int) + 8 + 1) = k + 11 * (i : Int) + 9 := by rw [wrap_id (by omega) (by omega)]; omega
      have w9 : IntKind.i64.wrap (k + 11 * (i : Int) + 9 + 1) = k + 11 * (i : Int) + 10 := by rw [wrap_id (by omega) (by omega)]; omega
      have w10 : IntKind.i64.wrap (k + 11 * (i : Int) + 10 + 1) = k + 11 * (i : Int) + 11 := by rw [wrap_id (by omega) (by omega)]; omega
      simp [h0', h1', h5, h, hlen, hget, w0, w1, w2, w3, w4, w5, w6, w7, w8, w9, w10]
      intro _
      exact ⟨n - (i + 1), by omega, i + 1, rfl, by omega, by omega, by rw [wrap_id (by omega) (by omega)]; omega⟩
    · have : i = n := by omega
      subst this
      simp [h0', h1', h5, hlen]
end Go.Proofs.Ythbbieobcokgbaa
