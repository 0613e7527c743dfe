/-
  What is free at a time, and in a span; the times at which something changes.
-/
import Derived.Test.YthbbieobcokgbaaProf
import Derived.Test.YthbbieobcokgbaaRuns
import Derived.Test.YthbbieobcokgbaaIte
import Derived.Test.YthbbieobcokgbaaMm
namespace Go.Proofs.Ythbbieobcokgbaa
open Go Go.RowKit Eng
def vecFits (a b : Vec) : Bool := vecOk a && vecOk b && decide (a.a ≤ b.a) && decide (a.b ≤ b.b) && decide (a.c ≤ b.c)
def ir_spec_VecFits : L :=
  .seq (
  .reg [.bx 2 (.t 0),
    .bx 3 (.t 1),
    .mv 4 (.c (.bool false))]) (
  .seq (
  .reg [.ld 5 (.t 2) 3 true,
    .cq 6 F.spec_VecOk [(.t 5)],
    .mv 7 (.t 6),
    .g 7 true (.ld 8 (.t 3) 3 true),
    .g 7 true (.cq 9 F.spec_VecOk [(.t 8)]),
    .pk 10 (.t 7) (.t 9) (.c (.bool false)),
    .mv 11 (.t 10),
    .g 11 true (.fa 12 (.t 2) 0),
    .g 11 true (.ld 13 (.t 12) 1 false),
    .g 11 true (.fa 14 (.t 3) 0),
    .g 11 true (.ld 15 (.t 14) 1 false),
    .g 11 true (.bi 16 .leq (.t 13) (.t 15)),
    .pk 17 (.t 11) (.t 16) (.c (.bool false)),
    .mv 18 (.t 17),
    .g 18 true (.fa 19 (.t 2) 1),
    .g 18 true (.ld 20 (.t 19) 1 false),
    .g 18 true (.fa 21 (.t 3) 1),
    .g 18 true (.ld 22 (.t 21) 1 false),
    .g 18 true (.bi 23 .leq (.t 20) (.t 22)),
    .pk 24 (.t 18) (.t 23) (.c (.bool false)),
    .mv 25 (.t 24),
    .g 25 true (.fa 26 (.t 2) 2),
    .g 25 true (.ld 27 (.t 26) 1 false),
    .g 25 true (.fa 28 (.t 3) 2),
    .g 25 true (.ld 29 (.t 28) 1 false),
    .g 25 true (.bi 30 .leq (.t 27) (.t 29)),
    .pk 31 (.t 25) (.t 30) (.c (.bool false)),
    .mv 4 (.t 31)]) (
  .ret))
def rs_spec_VecFits : List Rv := [.t 4]
theorem ck_spec_VecFits : chkFn Try.prog F.spec_VecFits 2 ir_spec_VecFits rs_spec_VecFits = true := by kernel_rfl
theorem spec_VecFits_ok (a b : Vec) : Snd Try.prog F.spec_VecFits [eVec a, eVec b] (.bool (vecFits a b)) [] := by
  refine snd_by ck_spec_VecFits rfl (by simp) (den_W ?_)
  unfold ir_spec_VecFits rs_spec_VecFits
  unfold vecFits
  simp
  refine do_cq (spec_VecOk_ok a) (by simp [St.args]) ?_
  cases vecOk a <;> simp
  refine do_cq (spec_VecOk_ok b) (by simp [St.args]) ?_
  cases vecOk b <;> simp
  by_cases h1 : a.a ≤ b.a <;> simp [h1]
  by_cases h2 : a.b ≤ b.b <;> simp [h2]
def ir_impl_VecFits : L :=
  .seq (
  .reg [.bx 2 (.t 0),
    .bx 3 (.t 1),
    .mv 4 (.c (.bool false))]) (
  .seq (
  .reg [.ld 5 (.t 2) 3 true,
    .cq 6 F.impl_VecOk [(.t 5)],
    .mv 7 (.t 6),
    .g 7 true (.ld 8 (.t 3) 3 true),
    .g 7 true (.cq 9 F.impl_VecOk [(.t 8)]),
    .pk 10 (.t 7) (.t 9) (.c (.bool false)),
    .mv 11 (.t 10),
    .g 11 true (.fa 12 (.t 2) 0),
    .g 11 true (.ld 13 (.t 12) 1 false),
    .g 11 true (.fa 14 (.t 3) 0),
    .g 11 true (.ld 15 (.t 14) 1 false),
    .g 11 true (.bi 16 .leq (.t 13) (.t 15)),
    .pk 17 (.t 11) (.t 16) (.c (.bool false)),
    .mv 18 (.t 17),
    .g 18 true (.fa 19 (.t 2) 1),
    .g 18 true (.ld 20 (.t 19) 1 false),
    .g 18 true (.fa 21 (.t 3) 1),
    .g 18 true (.ld 22 (.t 21) 1 false),
    .g 18 true (.bi 23 .leq (.t 20) (.t 22)),
    .pk 24 (.t 18) (.t 23) (.c (.bool false)),
    .mv 25 (.t 24),
    .g 25 true (.fa 26 (.t 2) 2),
    .g 25 true (.ld 27 (.t 26) 1 false),
    .g 25 true (.fa 28 (.t 3) 2),
    .g 25 true (.ld 29 (.t 28) 1 false),
    .g 25 true (.bi 30 .leq (.t 27) (.t 29)),
    .pk 31 (.t 25) (.t 30) (.c (.bool false)),
    .mv 4 (.t 31)]) (
  .ret))
def rs_impl_VecFits : List Rv := [.t 4]
theorem ck_impl_VecFits : chkFn Try.prog F.impl_VecFits 2 ir_impl_VecFits rs_impl_VecFits = true := by kernel_rfl
theorem impl_VecFits_ok (a b : Vec) : Snd Try.prog F.impl_VecFits [eVec a, eVec b] (.bool (vecFits a b)) [] := by
  refine snd_by ck_impl_VecFits rfl (by simp) (den_W ?_)
  unfold ir_impl_VecFits rs_impl_VecFits
  unfold vecFits
  simp
  refine do_cq (impl_VecOk_ok a) (by simp [St.args]) ?_
  cases vecOk a <;> simp
  refine do_cq (impl_VecOk_ok b) (by simp [St.args]) ?_
  cases vecOk b <;> simp
  by_cases h1 : a.a ≤ b.a <;> simp [h1]
  by_cases h2 : a.b ≤ b.b <;> simp [h2]
def vecMin (a b : Vec) : Vec := if vecOk a = true ∧ vecOk b = true then ⟨min a.a b.a, min a.b b.b, min a.c b.c⟩ else zeroV
def ir_spec_VecMin : L :=
  .seq (
  .reg [.bx 2 (.t 0),
    .bx 3 (.t 1),
    .al 4 [.int .i64 0, .int .i64 0, .int .i64 0]]) (
  .seq (
  .seq (
  .reg [.ld 5 (.t 2) 3 true,
    .cq 6 F.spec_VecOk [(.t 5)],
    .un 7 (.t 6),
    .mv 8 (.t 7),
    .g 8 false (.ld 9 (.t 3) 3 true),
    .g 8 false (.cq 10 F.spec_VecOk [(.t 9)]),
    .g 8 false (.un 11 (.t 10)),
    .pk 12 (.t 8) (.c (.bool true)) (.t 11)]) (
  .cond (.t 12) (
    .seq (
    .reg [.bd 13 [.int .i64 0, .int .i64 0, .int .i64 0] [],
      .st (.t 4) (.t 13) 3]) (
    .ret)) (
    .skip))) (
  .seq (
  .rq 16 [.fa 14 (.t 2) 0,
    .ld 15 (.t 14) 1 false,
    .fa 16 (.t 3) 0,
    .ld 17 (.t 16) 1 false,
    .cq 18 F.spec_l01Min [(.t 15), (.t 17)],
    .fa 19 (.t 2) 1,
    .ld 20 (.t 19) 1 false,
    .fa 21 (.t 3) 1,
    .ld 22 (.t 21) 1 false,
    .cq 23 F.spec_l01Min [(.t 20), (.t 22)],
    .fa 24 (.t 2) 2,
    .ld 25 (.t 24) 1 false,
    .fa 26 (.t 3) 2,
    .ld 27 (.t 26) 1 false,
    .cq 28 F.spec_l01Min [(.t 25), (.t 27)],
    .bd 29 [.int .i64 0, .int .i64 0, .int .i64 0] [(0, 1, (.t 18)), (1, 1, (.t 23)), (2, 1, (.t 28))],
    .st (.t 4) (.t 29) 3]) (
  .ret)))
def rs_spec_VecMin : List Rv := [.c 4 3 true]
theorem ck_spec_VecMin : chkFn Try.prog F.spec_VecMin 2 ir_spec_VecMin rs_spec_VecMin = true := by kernel_rfl
theorem spec_VecMin_ok (a b : Vec) : Snd Try.prog F.spec_VecMin [eVec a, eVec b] (eVec (vecMin a b)) [] := by
  refine snd_by ck_spec_VecMin rfl (by simp) (den_W ?_)
  unfold ir_spec_VecMin rs_spec_VecMin
  unfold vecMin
  simp
  refine do_cq (spec_VecOk_ok a) (by simp [St.args]) ?_
  cases vecOk a <;> simp [zeroV]
  refine do_cq (spec_VecOk_ok b) (by simp [St.args]) ?_
  cases vecOk b <;> simp
  refine do_cq (spec_l01Min_ok a.a b.a) (by simp [St.args]) ?_
  simp
  refine do_cq (spec_l01Min_ok a.b b.b) (by simp [St.args]) ?_
  simp
  refine do_cq (spec_l01Min_ok a.c b.c) (by simp [St.args]) ?_
  simp
/-- What is free at a time: the last point that is not later. -/
def profAt (l : List Pt) (t : Int) : Vec := l.foldl (fun v x => if x.t ≤ t then x.free else v) zeroV
theorem foldl_take {α β : Type} (f : β → α → β) (z : β) {l : List α} {i : Nat} (h : i < l.length) : (l.take (i + 1)).foldl f z = f ((l.take i).foldl f z) l[i] := by
  rw [List.take_succ_eq_append_getElem h, List.foldl_append]; rfl
theorem ite_cells (c : Prop) [Decidable c] (x y : Vec) : (if c then eVec x else eVec y) = eVec (if c then x else y) := by split <;> rfl
def ir_spec_l03At : L :=
  .seq (
  .reg [.bx 2 (.t 0),
    .al 4 [.int .i64 0, .int .i64 0, .int .i64 0]]) (
  .seq (
  .reg [.bd 8 [.int .i64 0, .int .i64 0, .int .i64 0] [],
    .al 5 [.int .i64 0, .int .i64 0, .int .i64 0],
    .st (.t 5) (.t 8) 3]) (
  .seq (
  .seq (
  .reg [.fa 9 (.t 2) 0,
    .ld 10 (.t 9) 1 false,
    .ln 11 (.t 10),
    .mv 12 (.c (.int .i64 0))]) (
  .blk 0 (
    .loop (
      .seq (
      .reg [.bi 13 .lss (.t 12) (.t 11)]) (
      .seq (
      .cond (.t 13) (
        .skip) (
        .exit 0)) (
      .seq (
      .blk 1 (
        .seq (
        .reg [.ia 14 (.t 10) (.t 12) 4,
          .ld 15 (.t 14) 4 true,
          .al 7 [.int .i64 0, .int .i64 0, .int .i64 0, .int .i64 0],
          .st (.t 7) (.t 15) 4]) (
        .seq (
        .reg [.fa 16 (.t 7) 0,
          .ld 17 (.t 16) 1 false,
          .mv 18 (.t 1),
          .bi 19 .leq (.t 17) (.t 18)]) (
        .cond (.t 19) (
          .reg [.fa 20 (.t 7) 1,
            .ld 21 (.t 20) 3 true,
            .st (.t 5) (.t 21) 3]) (
          .skip))))) (
      .reg [.bi 22 .add (.t 12) (.c (.int .i64 1)),
        .mv 12 (.t 22)]))))))) (
  .seq (
  .reg [.ld 23 (.t 5) 3 true,
    .st (.t 4) (.t 23) 3]) (
  .ret))))
def rs_spec_l03At : List Rv := [.c 4 3 true]
theorem ck_spec_l03At : chkFn Try.prog F.spec_l03At 2 ir_spec_l03At rs_spec_l03At = true := by kernel_rfl
theorem l03At_ok (l : List Pt) (t : Int) : Snd Try.prog F.spec_l03At [ePr l, .int .i64 t] (eVec (profAt l t)) [] := by
  refine snd_by ck_spec_l03At rfl (by simp) (den_W ?_)
  unfold ir_spec_l03At rs_spec_l03At
  simp
  intro hlen
  refine W_rngJ l.length (fun i s => s.e 1 = .int .i64 t ∧ s.e 4 = .ptr 4 0 ∧ s.bx 4 = some (eVec zeroV).cells ∧ s.e 5 = .ptr 5 0 ∧ s.bx 5 = some (eVec (profAt (l.take i) t)).cells ∧ s.e 10 = .sl .rd 4 (l.map ePt) ∧ s.e 11 = .int .i64 l.length ∧ s.e 12 = .int .i64 (i : Nat))
    (fun s => s.e 4 = .ptr 4 0 ∧ s.bx 4 = some (eVec zeroV).cells ∧ s.e 5 = .ptr 5 0 ∧ s.bx 5 = some (eVec (profAt l t)).cells) ?_ ?_ ?_
  · simp [profAt, zeroV]
  · rintro i s hi ⟨e1, e4, b4, e5, b5, e10, e11, e12⟩
    by_cases h : i < l.length
    · have hf : profAt (l.take (i + 1)) t = if l[i].t ≤ t then l[i].free else profAt (l.take i) t := foldl_take _ _ h
      by_cases hc : l[i].t ≤ t
      · simp [e1, e5, b5, e10, e11, e12, h, hc]
        refine rng_next h ?_
        simp [e1, e4, b4, e5, e10, e11, hf, hc, wrap_succ h hlen]
      · simp [e1, e10, e11, e12, h, hc]
        refine rng_next h ?_
        simp [e1, e4, b4, e5, b5, e10, e11, hf, hc, wrap_succ h hlen]
    · have : i = l.length := by omega
      subst this
      simp at b5
      simp [e11, e12]
      refine beh_of ?_
      simp [e4, b4, e5, b5]
  rintro s ⟨e4, b4, e5, b5⟩
  simp [e4, b4, e5, b5, zeroV]
/-- The least that is free in a span, from what is free at its begin. -/
def profMin (l : List Pt) (a b : Int) : Vec := l.foldl (fun v x => if a ≤ x.t ∧ x.t < b then vecMin v x.free else v) (profAt l a)
def span (a b : Int) : Bool := time a && time b && decide (a < b)
def ir_spec_ProfMin : L :=
  .seq (
  .reg [.bx 3 (.t 0),
    .al 6 [.int .i64 0, .int .i64 0, .int .i64 0],
    .mv 7 (.c (.bool false))]) (
  .seq (
  .seq (
  .reg [.ld 11 (.t 3) 1 true,
    .cq 12 F.spec_ProfOk [(.t 11)],
    .un 13 (.t 12),
    .mv 14 (.t 13),
    .g 14 false (.mv 15 (.t 1)),
    .g 14 false (.cq 16 F.spec_l01Time [(.t 15)]),
    .g 14 false (.un 17 (.t 16)),
    .pk 18 (.t 14) (.c (.bool true)) (.t 17),
    .mv 19 (.t 18),
    .g 19 false (.mv 20 (.t 2)),
    .g 19 false (.cq 21 F.spec_l01Time [(.t 20)]),
    .g 19 false (.un 22 (.t 21)),
    .pk 23 (.t 19) (.c (.bool true)) (.t 22),
    .mv 24 (.t 23),
    .g 24 false (.mv 25 (.t 1)),
    .g 24 false (.mv 26 (.t 2)),
    .g 24 false (.bi 27 .geq (.t 25) (.t 26)),
    .pk 28 (.t 24) (.c (.bool true)) (.t 27)]) (
  .cond (.t 28) (
    .seq (
    .reg [.bd 29 [.int .i64 0, .int .i64 0, .int .i64 0] [],
      .st (.t 6) (.t 29) 3,
      .mv 7 (.c (.bool false))]) (
    .ret)) (
    .skip))) (
  .seq (
  .reg [.ld 30 (.t 3) 1 true,
    .mv 31 (.t 1),
    .cq 32 F.spec_l03At [(.t 30), (.t 31)],
    .al 8 [.int .i64 0, .int .i64 0, .int .i64 0],
    .st (.t 8) (.t 32) 3]) (
  .seq (
  .seq (
  .reg [.fa 33 (.t 3) 0,
    .ld 34 (.t 33) 1 false,
    .ln 35 (.t 34),
    .mv 36 (.c (.int .i64 0))]) (
  .blk 0 (
    .loop (
      .seq (
      .reg [.bi 37 .lss (.t 36) (.t 35)]) (
      .seq (
      .cond (.t 37) (
        .skip) (
        .exit 0)) (
      .seq (
      .blk 1 (
        .seq (
        .reg [.ia 38 (.t 34) (.t 36) 4,
          .ld 39 (.t 38) 4 true,
          .al 10 [.int .i64 0, .int .i64 0, .int .i64 0, .int .i64 0],
          .st (.t 10) (.t 39) 4]) (
        .seq (
        .reg [.fa 40 (.t 10) 0,
          .ld 41 (.t 40) 1 false,
          .mv 42 (.t 1),
          .bi 43 .geq (.t 41) (.t 42),
          .mv 44 (.t 43),
          .g 44 true (.fa 45 (.t 10) 0),
          .g 44 true (.ld 46 (.t 45) 1 false),
          .g 44 true (.mv 47 (.t 2)),
          .g 44 true (.bi 48 .lss (.t 46) (.t 47)),
          .pk 49 (.t 44) (.t 48) (.c (.bool false))]) (
        .cond (.t 49) (
          .reg [.ld 50 (.t 8) 3 true,
            .fa 51 (.t 10) 1,
            .ld 52 (.t 51) 3 true,
            .cq 53 F.spec_VecMin [(.t 50), (.t 52)],
            .st (.t 8) (.t 53) 3]) (
          .skip))))) (
      .reg [.bi 54 .add (.t 36) (.c (.int .i64 1)),
        .mv 36 (.t 54)]))))))) (
  .seq (
  .reg [.ld 55 (.t 8) 3 true,
    .st (.t 6) (.t 55) 3,
    .mv 7 (.c (.bool true))]) (
  .ret)))))
def rs_spec_ProfMin : List Rv := [.c 6 3 true, .t 7]
theorem ck_spec_ProfMin : chkFn Try.prog F.spec_ProfMin 3 ir_spec_ProfMin rs_spec_ProfMin = true := by kernel_rfl
set_option maxRecDepth 10000 in
theorem spec_ProfMin_ok (l : List Pt) (a b : Int) : Snd Try.prog F.spec_ProfMin [ePr l, .int .i64 a, .int .i64 b]
    (.tup [eVec (if profOk l = true ∧ span a b = true then profMin l a b else zeroV), .bool (profOk l && span a b)]) [] := by
  refine snd_by ck_spec_ProfMin rfl (by simp) (den_W ?_)
  unfold ir_spec_ProfMin rs_spec_ProfMin
  unfold span
  simp
  refine do_cq (spec_ProfOk_ok l) (by simp [St.args]) ?_
  cases hp : profOk l
  · simp [zeroV]
  simp
  refine do_cq (spec_time_ok a) (by simp [St.args]) ?_
  cases ha : time a
  · simp [zeroV]
  simp
  refine do_cq (spec_time_ok b) (by simp [St.args]) ?_
  cases hb : time b
  · simp [zeroV]
  simp
  by_cases hab : b ≤ a
  · have : ¬ a < b := by omega
    simp [hab, this, zeroV]
  have hab' : a < b := by omega
  simp [hab, hab']
  refine do_cq (l03At_ok l a) (by simp [St.args]) ?_
  simp
  intro hlen
  let G : Nat → Vec := fun i => (l.take i).foldl (fun v x => if a ≤ x.t ∧ x.t < b then vecMin v x.free else v) (profAt l a)
  refine W_rngJ l.length (fun i s => s.e 1 = .int .i64 a ∧ s.e 2 = .int .i64 b ∧ s.e 6 = .ptr 6 0 ∧ s.bx 6 = some (eVec zeroV).cells ∧ s.e 8 = .ptr 8 0 ∧ s.bx 8 = some (eVec (G i)).cells ∧ s.e 34 = .sl .rd 4 (l.map ePt) ∧ s.e 35 = .int .i64 l.length ∧ s.e 36 = .int .i64 (i : Nat))
    (fun s => s.e 6 = .ptr 6 0 ∧ s.bx 6 = some (eVec zeroV).cells ∧ s.e 8 = .ptr 8 0 ∧ s.bx 8 = some (eVec (profMin l a b)).cells) ?_ ?_ ?_
  · simp [G, zeroV]
  · rintro i s hi ⟨e1, e2, e4, b4, e5, b5, e10, e11, e12⟩
    by_cases h : i < l.length
    · have hf : G (i + 1) = if a ≤ l[i].t ∧ l[i].t < b then vecMin (G i) l[i].free else G i := foldl_take _ _ h
      by_cases hc : a ≤ l[i].t
      · by_cases hd : l[i].t < b
        · simp [e1, e2, e5, b5, e10, e11, e12, h, hc, hd]
          refine do_cq (spec_VecMin_ok (G i) l[i].free) (by simp [St.args]) ?_
          simp [e5, b5, e12]
          refine rng_next h ?_
          simp [e1, e2, e4, b4, e5, e10, e11, hf, hc, hd, wrap_succ h hlen]
        · simp [e1, e2, e10, e11, e12, h, hc, hd]
          refine rng_next h ?_
          simp [e1, e2, e4, b4, e5, b5, e10, e11, hf, hd, wrap_succ h hlen]
      · simp [e1, e10, e11, e12, h, hc]
        refine rng_next h ?_
        simp [e1, e2, e4, b4, e5, b5, e10, e11, hf, hc, wrap_succ h hlen]
    · have : i = l.length := by omega
      subst this
      have hG : G l.length = profMin l a b := by simp [G, profMin]
      rw [hG] at b5
      simp [e11, e12]
      refine beh_of ?_
      simp [e4, b4, e5, b5]
  rintro s ⟨e4, b4, e5, b5⟩
  simp [e4, b4, e5, b5, zeroV]
/-- A time is put into rising times, once. -/
def insGo (t : Int) : List Int → Bool → List Int
  | [], d => if d = true then [] else [t]
  | x :: l, d => (if d = false ∧ t ≤ x then [t] else []) ++ (if x ≠ t then [x] else []) ++ insGo t l (d || decide (t ≤ x))
def ins (t : Int) (l : List Int) : List Int := insGo t l false
def profTimes (l : List Pt) (a b : Int) : List Int := ins b (ins a (l.map Pt.t))
theorem insGo_nil (t : Int) (d : Bool) : insGo t [] d = if d = true then [] else [t] := rfl
theorem insGo_cons (t x : Int) (l : List Int) (d : Bool) : insGo t (x :: l) d = (if d = false ∧ t ≤ x then [t] else []) ++ (if x ≠ t then [x] else []) ++ insGo t l (d || decide (t ≤ x)) := rfl
theorem insGo_true (t : Int) : ∀ l : List Int, insGo t l true = l.filter (fun x => decide (x ≠ t))
  | [] => rfl
  | x :: l => by
    rw [insGo_cons, Bool.true_or, insGo_true t l]
    by_cases h : x = t <;> simp [h]
theorem insGo_len (t : Int) : ∀ (l : List Int) (d : Bool), (insGo t l d).length ≤ l.length + 1
  | [], d => by rw [insGo_nil]; split <;> simp
  | x :: l, d => by
    by_cases h : d = false ∧ t ≤ x
    · have := List.length_filter_le (fun x => decide (x ≠ t)) l
      rw [insGo_cons, if_pos h, show (d || decide (t ≤ x)) = true by simp [h.2], insGo_true]
      split <;> simp only [List.length_append, List.length_cons, List.length_nil] <;> omega
    · have := insGo_len t l (d || decide (t ≤ x))
      rw [insGo_cons, if_neg h]
      split <;> simp only [List.length_append, List.length_cons, List.length_nil] <;> omega
theorem ins_len (t : Int) (l : List Int) : (ins t l).length ≤ l.length + 1 := insGo_len t l false
theorem eI_app (l : List Int) (x : Int) : l.map eI ++ [.int .i64 x] = (l ++ [x]).map eI := by simp
theorem drop_cons {α : Type} {l : List α} {i : Nat} (h : i < l.length) : l.drop i = l[i] :: l.drop (i + 1) := List.drop_eq_getElem_cons h
def ir_spec_l03Times : L :=
  .seq (
  .reg [.bx 3 (.t 0),
    .mv 6 (.c (.nl))]) (
  .seq (
  .reg [.bs 16 1 [] true,
    .mv 7 (.t 16)]) (
  .seq (
  .seq (
  .reg [.fa 17 (.t 3) 0,
    .ld 18 (.t 17) 1 false,
    .ln 19 (.t 18),
    .mv 20 (.c (.int .i64 0))]) (
  .blk 0 (
    .loop (
      .seq (
      .reg [.bi 21 .lss (.t 20) (.t 19)]) (
      .seq (
      .cond (.t 21) (
        .skip) (
        .exit 0)) (
      .seq (
      .blk 1 (
        .seq (
        .reg [.ia 22 (.t 18) (.t 20) 4,
          .ld 23 (.t 22) 4 true,
          .al 9 [.int .i64 0, .int .i64 0, .int .i64 0, .int .i64 0],
          .st (.t 9) (.t 23) 4]) (
        .reg [.mv 24 (.t 7),
          .fa 25 (.t 9) 0,
          .ld 26 (.t 25) 1 false,
          .bs 27 1 [(.t 26)] false,
          .ap 28 (.t 24) (.t 27) 1 8,
          .mv 7 (.t 28)]))) (
      .reg [.bi 29 .add (.t 20) (.c (.int .i64 1)),
        .mv 20 (.t 29)]))))))) (
  .seq (
  .seq (
  .reg [.mv 30 (.t 1),
    .mv 31 (.t 2),
    .bs 32 1 [(.t 30), (.t 31)] false,
    .ln 33 (.t 32),
    .mv 34 (.c (.int .i64 0))]) (
  .blk 2 (
    .loop (
      .seq (
      .reg [.bi 35 .lss (.t 34) (.t 33)]) (
      .seq (
      .cond (.t 35) (
        .skip) (
        .exit 2)) (
      .seq (
      .blk 3 (
        .seq (
        .reg [.fz 7,
          .ia 36 (.t 32) (.t 34) 1,
          .ld 37 (.t 36) 1 false,
          .mv 11 (.t 37)]) (
        .seq (
        .reg [.bs 38 1 [] true,
          .mv 12 (.t 38)]) (
        .seq (
        .reg [.mv 13 (.c (.bool false))]) (
        .seq (
        .seq (
        .reg [.mv 39 (.t 7),
          .ln 40 (.t 39),
          .mv 41 (.c (.int .i64 0))]) (
        .blk 4 (
          .loop (
            .seq (
            .reg [.bi 42 .lss (.t 41) (.t 40)]) (
            .seq (
            .cond (.t 42) (
              .skip) (
              .exit 4)) (
            .seq (
            .blk 5 (
              .seq (
              .reg [.ia 43 (.t 39) (.t 41) 1,
                .ld 44 (.t 43) 1 false,
                .mv 15 (.t 44)]) (
              .seq (
              .seq (
              .reg [.mv 45 (.t 13),
                .un 46 (.t 45),
                .mv 47 (.t 46),
                .g 47 true (.mv 48 (.t 11)),
                .g 47 true (.mv 49 (.t 15)),
                .g 47 true (.bi 50 .leq (.t 48) (.t 49)),
                .pk 51 (.t 47) (.t 50) (.c (.bool false))]) (
              .cond (.t 51) (
                .seq (
                .reg [.mv 52 (.t 12),
                  .mv 53 (.t 11),
                  .bs 54 1 [(.t 53)] false,
                  .ap 55 (.t 52) (.t 54) 1 8,
                  .mv 12 (.t 55)]) (
                .reg [.mv 13 (.c (.bool true))])) (
                .skip))) (
              .seq (
              .reg [.mv 56 (.t 15),
                .mv 57 (.t 11),
                .bi 58 .neq (.t 56) (.t 57)]) (
              .cond (.t 58) (
                .reg [.mv 59 (.t 12),
                  .mv 60 (.t 15),
                  .bs 61 1 [(.t 60)] false,
                  .ap 62 (.t 59) (.t 61) 1 8,
                  .mv 12 (.t 62)]) (
                .skip)))))) (
            .reg [.bi 63 .add (.t 41) (.c (.int .i64 1)),
              .mv 41 (.t 63)]))))))) (
        .seq (
        .seq (
        .reg [.mv 64 (.t 13),
          .un 65 (.t 64)]) (
        .cond (.t 65) (
          .reg [.mv 66 (.t 12),
            .mv 67 (.t 11),
            .bs 68 1 [(.t 67)] false,
            .ap 69 (.t 66) (.t 68) 1 8,
            .mv 12 (.t 69)]) (
          .skip))) (
        .reg [.mv 70 (.t 12),
          .mv 7 (.t 70)]))))))) (
      .reg [.bi 71 .add (.t 34) (.c (.int .i64 1)),
        .mv 34 (.t 71)]))))))) (
  .seq (
  .reg [.mv 72 (.t 7),
    .mv 6 (.t 72)]) (
  .ret)))))
def rs_spec_l03Times : List Rv := [.t 6]
theorem ck_spec_l03Times : chkFn Try.prog F.spec_l03Times 3 ir_spec_l03Times rs_spec_l03Times = true := by kernel_rfl
set_option maxRecDepth 10000 in
theorem l03Times_ok (l : List Pt) (a b : Int) (hl : l.length ≤ 1048576) : Snd Try.prog F.spec_l03Times [ePr l, .int .i64 a, .int .i64 b] (.sref 0) [⟨1, (profTimes l a b).map eI, false⟩] := by
  refine snd_by ck_spec_l03Times rfl (by simp) (den_W ?_)
  unfold ir_spec_l03Times rs_spec_l03Times
  simp
  intro hlen
  refine W_rngJ l.length (fun i s => s.e 1 = .int .i64 a ∧ s.e 2 = .int .i64 b ∧ s.e 7 = .sref 16 ∧ s.rw 16 = some ⟨1, ((l.take i).map Pt.t).map eI, false⟩ ∧ s.e 18 = .sl .rd 4 (l.map ePt) ∧ s.e 19 = .int .i64 l.length ∧ s.e 20 = .int .i64 (i : Nat))
    (fun s => s.e 1 = .int .i64 a ∧ s.e 2 = .int .i64 b ∧ s.e 7 = .sref 16 ∧ s.rw 16 = some ⟨1, (l.map Pt.t).map eI, false⟩) ?_ ?_ ?_
  · simp
  · rintro i s hi ⟨e1, e2, e7, r7, e18, e19, e20⟩
    by_cases h : i < l.length
    · simp [e7, r7, e18, e19, e20, h]
      refine ⟨by omega, rng_next h ?_⟩
      simp [e1, e2, e18, e19, wrap_succ h hlen]
      rw [List.take_succ_eq_append_getElem (by simpa using h)]; simp
    · have : i = l.length := by omega
      subst this
      simp at r7
      simp [e19, e20]
      refine beh_of ?_
      simp [e1, e2, e7, r7]
  rintro s ⟨e1, e2, e7, r7⟩
  simp [e1, e2]
  obtain ⟨n, hn⟩ : ∃ n : Nat, n = 2 := ⟨2, rfl⟩
  refine W_rngJ n (fun i s => ∃ k g, (k = 16 ∨ k = 38) ∧ s.e 7 = .sref k ∧ s.rw k = some ⟨1, g.map eI, false⟩ ∧ g.length ≤ l.length + i ∧ g = (if i = 0 then l.map Pt.t else if i = 1 then ins a (l.map Pt.t) else profTimes l a b) ∧
      s.e 32 = .sl .nw 1 [.int .i64 a, .int .i64 b] ∧ s.e 33 = .int .i64 2 ∧ s.e 34 = .int .i64 (i : Nat))
    (fun s => ∃ k, (k = 16 ∨ k = 38) ∧ s.e 7 = .sref k ∧ s.rw k = some ⟨1, (profTimes l a b).map eI, false⟩) ?_ ?_ ?_
  · exact ⟨16, l.map Pt.t, by simp [e7, r7]⟩
  · clear e1 e2 e7 r7 s
    rintro i s hi ⟨k, g, hk, e7, r7, hgl, hg, e32, e33, e34⟩
    by_cases h : i < n
    · have h01 : i = 0 ∨ i = 1 := by omega
      rcases h01 with rfl | rfl
      · simp at hg
        have hgl' : g.length ≤ 1048577 := by omega
        simp [e7, r7, e32, e33, e34]
        intro hgl2
        refine W_rngJ g.length (fun j s => ∃ acc d, acc ++ insGo a (g.drop j) d = ins a g ∧ s.e 11 = .int .i64 a ∧ s.e 12 = .sref 38 ∧ s.rw 38 = some ⟨1, acc.map eI, false⟩ ∧ s.e 13 = .bool d ∧ s.e 39 = .sl .nw 1 (g.map eI) ∧ s.e 40 = .int .i64 g.length ∧ s.e 41 = .int .i64 (j : Nat) ∧
            s.e 32 = .sl .nw 1 [.int .i64 a, .int .i64 b] ∧ s.e 33 = .int .i64 2 ∧ s.e 34 = .int .i64 (0 : Nat))
          (fun s => ∃ acc d, (if d = true then acc else acc ++ [a]) = ins a g ∧ s.e 11 = .int .i64 a ∧ s.e 12 = .sref 38 ∧ s.rw 38 = some ⟨1, acc.map eI, false⟩ ∧ s.e 13 = .bool d ∧ s.e 32 = .sl .nw 1 [.int .i64 a, .int .i64 b] ∧ s.e 33 = .int .i64 2 ∧ s.e 34 = .int .i64 (0 : Nat)) ?_ ?_ ?_
        · exact ⟨[], false, by simp [ins, e32, e33, e34]⟩
        · clear e7 r7 e32 e33 e34 s
          rintro j s hj ⟨acc, d, hacc, e11, e12, r12, e13, e39, e40, e41, e32, e33, e34⟩
          have hal : acc.length ≤ 1048578 := by
            have q := congrArg List.length hacc
            have q2 := ins_len a g
            rw [List.length_append] at q; omega
          by_cases hj' : j < g.length
          · rw [drop_cons hj', insGo_cons] at hacc
            have hws := wrap_succ hj' (by omega : g.length ≤ 9223372036854775807)
            by_cases hc : d = false ∧ a ≤ g[j]
            · obtain ⟨rfl, hc⟩ := hc
              by_cases hx : g[j] = a
              · simp [e11, e12, r12, e13, e39, e40, e41, hj', hx]
                refine ⟨by omega, rng_next hj' ⟨acc ++ [a], true, by simpa [hx] using hacc, ?_⟩⟩
                simp [e11, e39, e40, hws, e32, e33, e34]
              · simp [e11, e12, r12, e13, e39, e40, e41, hj', hx, hc]
                refine ⟨by omega, by omega, rng_next hj' ⟨acc ++ [a, g[j]], true, by simpa [hx, hc] using hacc, ?_⟩⟩
                simp [e11, e39, e40, hws, e32, e33, e34]
            · have hc' : (!d && decide (a ≤ g[j])) = false := by
                cases d <;> simp_all
              have hd' : (d || decide (a ≤ g[j])) = d := by cases d <;> simp_all
              rw [if_neg hc, hd', List.nil_append] at hacc
              cases d with
              | true =>
                by_cases hx : g[j] = a
                · simp [e11, e13, e39, e40, e41, hj', hx]
                  refine rng_next hj' ⟨acc, true, by simpa [hx] using hacc, ?_⟩
                  simp [e11, e12, r12, e13, e39, e40, hws, e32, e33, e34]
                · simp [e11, e12, r12, e13, e39, e40, e41, hj', hx]
                  refine ⟨by omega, rng_next hj' ⟨acc ++ [g[j]], true, by simpa [hx] using hacc, ?_⟩⟩
                  simp [e11, e13, e39, e40, hws, e32, e33, e34]
              | false =>
                have hx : ¬ g[j] = a := by intro e; simp [e] at hc
                have hc2 : ¬ a ≤ g[j] := by simpa using hc
                simp [e11, e12, r12, e13, e39, e40, e41, hj', hx, hc2]
                refine ⟨by omega, rng_next hj' ⟨acc ++ [g[j]], false, by simpa [hx] using hacc, ?_⟩⟩
                simp [e11, e13, e39, e40, hws, e32, e33, e34]
          · have : j = g.length := by omega
            subst this
            simp only [List.drop_length, insGo_nil] at hacc
            simp [e40, e41]
            refine beh_of ⟨acc, d, by rw [← hacc]; cases d <;> simp, ?_⟩
            simp [e11, e12, r12, e13, e32, e33, e34]
        clear e7 r7 e32 e33 e34 s
        rintro s ⟨acc, d, hacc, e11, e12, r12, e13, e32, e33, e34⟩
        have hal : acc.length ≤ 1048578 := by
          have q := congrArg List.length hacc
          have q2 := ins_len a g
          cases d <;> simp at q <;> omega
        have hil : (ins a g).length ≤ l.length + (0 + 1) := by have := ins_len a g; omega
        cases d with
        | true =>
          simp at hacc
          simp [e12, e13, e34]
          refine rng_next h ⟨38, ins a g, by simp, ?_⟩
          rw [hg] at hil
          simp [r12, hacc, hil, e32, e33, hg]
        | false =>
          simp at hacc
          simp [e11, e12, r12, e13, e34]
          refine ⟨by omega, rng_next h ⟨38, ins a g, by simp, ?_⟩⟩
          rw [hg] at hil
          have hacc' : acc.map eI ++ [.int .i64 a] = (ins a g).map eI := by rw [eI_app, hacc]
          simp [hacc', hil, e32, e33, hg]
      · simp at hg
        have hgl' : g.length ≤ 1048577 := by omega
        simp [e7, r7, e32, e33, e34]
        intro hgl2
        refine W_rngJ g.length (fun j s => ∃ acc d, acc ++ insGo b (g.drop j) d = ins b g ∧ s.e 11 = .int .i64 b ∧ s.e 12 = .sref 38 ∧ s.rw 38 = some ⟨1, acc.map eI, false⟩ ∧ s.e 13 = .bool d ∧ s.e 39 = .sl .nw 1 (g.map eI) ∧ s.e 40 = .int .i64 g.length ∧ s.e 41 = .int .i64 (j : Nat) ∧
            s.e 32 = .sl .nw 1 [.int .i64 a, .int .i64 b] ∧ s.e 33 = .int .i64 2 ∧ s.e 34 = .int .i64 (1 : Nat))
          (fun s => ∃ acc d, (if d = true then acc else acc ++ [b]) = ins b g ∧ s.e 11 = .int .i64 b ∧ s.e 12 = .sref 38 ∧ s.rw 38 = some ⟨1, acc.map eI, false⟩ ∧ s.e 13 = .bool d ∧ s.e 32 = .sl .nw 1 [.int .i64 a, .int .i64 b] ∧ s.e 33 = .int .i64 2 ∧ s.e 34 = .int .i64 (1 : Nat)) ?_ ?_ ?_
        · exact ⟨[], false, by simp [ins, e32, e33, e34]⟩
        · clear e7 r7 e32 e33 e34 s
          rintro j s hj ⟨acc, d, hacc, e11, e12, r12, e13, e39, e40, e41, e32, e33, e34⟩
          have hal : acc.length ≤ 1048578 := by
            have q := congrArg List.length hacc
            have q2 := ins_len b g
            rw [List.length_append] at q; omega
          by_cases hj' : j < g.length
          · rw [drop_cons hj', insGo_cons] at hacc
            have hws := wrap_succ hj' (by omega : g.length ≤ 9223372036854775807)
            by_cases hc : d = false ∧ b ≤ g[j]
            · obtain ⟨rfl, hc⟩ := hc
              by_cases hx : g[j] = b
              · simp [e11, e12, r12, e13, e39, e40, e41, hj', hx]
                refine ⟨by omega, rng_next hj' ⟨acc ++ [b], true, by simpa [hx] using hacc, ?_⟩⟩
                simp [e11, e39, e40, hws, e32, e33, e34]
              · simp [e11, e12, r12, e13, e39, e40, e41, hj', hx, hc]
                refine ⟨by omega, by omega, rng_next hj' ⟨acc ++ [b, g[j]], true, by simpa [hx, hc] using hacc, ?_⟩⟩
                simp [e11, e39, e40, hws, e32, e33, e34]
            · have hc' : (!d && decide (b ≤ g[j])) = false := by
                cases d <;> simp_all
              have hd' : (d || decide (b ≤ g[j])) = d := by cases d <;> simp_all
              rw [if_neg hc, hd', List.nil_append] at hacc
              cases d with
              | true =>
                by_cases hx : g[j] = b
                · simp [e11, e13, e39, e40, e41, hj', hx]
                  refine rng_next hj' ⟨acc, true, by simpa [hx] using hacc, ?_⟩
                  simp [e11, e12, r12, e13, e39, e40, hws, e32, e33, e34]
                · simp [e11, e12, r12, e13, e39, e40, e41, hj', hx]
                  refine ⟨by omega, rng_next hj' ⟨acc ++ [g[j]], true, by simpa [hx] using hacc, ?_⟩⟩
                  simp [e11, e13, e39, e40, hws, e32, e33, e34]
              | false =>
                have hx : ¬ g[j] = b := by intro e; simp [e] at hc
                have hc2 : ¬ b ≤ g[j] := by simpa using hc
                simp [e11, e12, r12, e13, e39, e40, e41, hj', hx, hc2]
                refine ⟨by omega, rng_next hj' ⟨acc ++ [g[j]], false, by simpa [hx] using hacc, ?_⟩⟩
                simp [e11, e13, e39, e40, hws, e32, e33, e34]
          · have : j = g.length := by omega
            subst this
            simp only [List.drop_length, insGo_nil] at hacc
            simp [e40, e41]
            refine beh_of ⟨acc, d, by rw [← hacc]; cases d <;> simp, ?_⟩
            simp [e11, e12, r12, e13, e32, e33, e34]
        clear e7 r7 e32 e33 e34 s
        rintro s ⟨acc, d, hacc, e11, e12, r12, e13, e32, e33, e34⟩
        have hal : acc.length ≤ 1048578 := by
          have q := congrArg List.length hacc
          have q2 := ins_len b g
          cases d <;> simp at q <;> omega
        have hil : (ins b g).length ≤ l.length + (1 + 1) := by have := ins_len b g; omega
        cases d with
        | true =>
          simp at hacc
          simp [e12, e13, e34]
          refine rng_next h ⟨38, ins b g, by simp, ?_⟩
          rw [hg] at hil
          simp [r12, hacc, hil, e32, e33, hg, profTimes]
        | false =>
          simp at hacc
          simp [e11, e12, r12, e13, e34]
          refine ⟨by omega, rng_next h ⟨38, ins b g, by simp, ?_⟩⟩
          rw [hg] at hil
          have hacc' : acc.map eI ++ [.int .i64 b] = (ins b g).map eI := by rw [eI_app, hacc]
          simp [hacc', hil, e32, e33, hg, profTimes]
    · have : i = n := by omega
      subst this
      rw [hn] at hg
      simp at hg
      subst hg
      simp [e33, e34, hn]
      refine beh_of ⟨k, hk, ?_⟩
      simp [e7, r7]
  rintro s ⟨k, hk, e7, r7⟩
  simp [e7]
  exact post_ret [k] (by simp [r7])
end Go.Proofs.Ythbbieobcokgbaa
