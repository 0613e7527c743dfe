/-
  Meet, of the specification and of the program, and its law.
-/
import Derived.Test.YthbbieobcokgbaaHoles1
import Derived.Test.YthbbieobcokgbaaLaw0
import Derived.Test.YthbbieobcokgbaaMm
namespace Go.Proofs.Ythbbieobcokgbaa
open Go Go.RowKit Eng
/-- Pieces that touch are put together. -/
def addH (l : List Hole) (h : Hole) : List Hole := if hl : 0 < l.length then (if (l[l.length - 1]).b = h.a then l.take (l.length - 1) ++ [⟨(l[l.length - 1]).a, h.b⟩] else l ++ [h]) else l ++ [h]
def ir_spec_l23Add : L :=
  .seq (
  .reg [.bx 3 (.t 1),
    .mv 4 (.c (.nl))]) (
  .seq (
  .reg [.fb 3,
    .mv 6 (.t 0),
    .ln 7 (.t 6),
    .mv 5 (.t 7)]) (
  .seq (
  .seq (
  .rq 13 [.mv 8 (.t 5),
    .bi 9 .gtr (.t 8) (.c (.int .i64 0)),
    .mv 10 (.t 9),
    .g 10 true (.mv 11 (.t 0)),
    .g 10 true (.mv 12 (.t 5)),
    .g 10 true (.bi 13 .sub (.t 12) (.c (.int .i64 1))),
    .g 10 true (.ia 14 (.t 11) (.t 13) 2),
    .g 10 true (.fa 15 (.t 14) 1),
    .g 10 true (.ld 16 (.t 15) 1 false),
    .g 10 true (.fa 17 (.t 3) 0),
    .g 10 true (.ld 18 (.t 17) 1 false),
    .g 10 true (.bi 19 .eql (.t 16) (.t 18)),
    .pk 20 (.t 10) (.t 19) (.c (.bool false))]) (
  .cond (.t 20) (
    .seq (
    .rz [(1, false, .mv 22 (.t 0)),
      (2, false, .mv 23 (.t 5)),
      (3, false, .bi 24 .sub (.t 23) (.c (.int .i64 1))),
      (4, false, .sc 25 (.t 22) none (some (.t 24)) 2),
      (6, false, .mv 27 (.t 0)),
      (7, false, .mv 28 (.t 5)),
      (8, false, .bi 29 .sub (.t 28) (.c (.int .i64 1))),
      (9, false, .ia 30 (.t 27) (.t 29) 2),
      (10, false, .fa 31 (.t 30) 0),
      (11, false, .ld 32 (.t 31) 1 false),
      (12, false, .fa 33 (.t 3) 1),
      (13, false, .ld 34 (.t 33) 1 false),
      (14, false, .bd 35 [.int .i64 0, .int .i64 0] [(0, 1, (.t 32)), (1, 1, (.t 34))]),
      (15, false, .bs 36 2 [(.t 35)] false),
      (0, true, .bs 21 2 [] true),
      (5, true, .ap 26 (.t 21) (.t 25) 2 16)]
      [.ap 37 (.t 26) (.t 36) 2 16,
      .mv 4 (.t 37)]) (
    .ret)) (
    .skip))) (
  .seq (
  .reg [.mv 38 (.t 0),
    .ld 39 (.t 3) 2 true,
    .bs 40 2 [(.t 39)] false,
    .ap 41 (.t 38) (.t 40) 2 16,
    .mv 4 (.t 41)]) (
  .ret))))
def rs_spec_l23Add : List Rv := [.t 4]
theorem ck_spec_l23Add : chkFn Try.prog F.spec_l23Add 2 ir_spec_l23Add rs_spec_l23Add = true := by kernel_rfl
def ir_spec_l23AddM : L :=
  .seq (
  .reg [.bx 3 (.t 1),
    .mv 4 (.c (.nl))]) (
  .seq (
  .reg [.fb 3,
    .fz 0,
    .mv 6 (.t 0),
    .ln 7 (.t 6),
    .mv 5 (.t 7)]) (
  .seq (
  .seq (
  .rq 13 [.mv 8 (.t 5),
    .bi 9 .gtr (.t 8) (.c (.int .i64 0)),
    .mv 10 (.t 9),
    .g 10 true (.mv 11 (.t 0)),
    .g 10 true (.mv 12 (.t 5)),
    .g 10 true (.bi 13 .sub (.t 12) (.c (.int .i64 1))),
    .g 10 true (.ia 14 (.t 11) (.t 13) 2),
    .g 10 true (.fa 15 (.t 14) 1),
    .g 10 true (.ld 16 (.t 15) 1 false),
    .g 10 true (.fa 17 (.t 3) 0),
    .g 10 true (.ld 18 (.t 17) 1 false),
    .g 10 true (.bi 19 .eql (.t 16) (.t 18)),
    .pk 20 (.t 10) (.t 19) (.c (.bool false))]) (
  .cond (.t 20) (
    .seq (
    .rz [(1, false, .mv 22 (.t 0)),
      (2, false, .mv 23 (.t 5)),
      (3, false, .bi 24 .sub (.t 23) (.c (.int .i64 1))),
      (4, false, .sc 25 (.t 22) none (some (.t 24)) 2),
      (6, false, .mv 27 (.t 0)),
      (7, false, .mv 28 (.t 5)),
      (8, false, .bi 29 .sub (.t 28) (.c (.int .i64 1))),
      (9, false, .ia 30 (.t 27) (.t 29) 2),
      (10, false, .fa 31 (.t 30) 0),
      (11, false, .ld 32 (.t 31) 1 false),
      (12, false, .fa 33 (.t 3) 1),
      (13, false, .ld 34 (.t 33) 1 false),
      (14, false, .bd 35 [.int .i64 0, .int .i64 0] [(0, 1, (.t 32)), (1, 1, (.t 34))]),
      (15, false, .bs 36 2 [(.t 35)] false),
      (0, true, .bs 21 2 [] true),
      (5, true, .ap 26 (.t 21) (.t 25) 2 16)]
      [.ap 37 (.t 26) (.t 36) 2 16,
      .mv 4 (.t 37)]) (
    .ret)) (
    .skip))) (
  .seq (
  .reg [.mv 38 (.t 0),
    .ld 39 (.t 3) 2 true,
    .bs 40 2 [(.t 39)] false,
    .ap 41 (.t 38) (.t 40) 2 16,
    .mv 4 (.t 41)]) (
  .ret))))
def rs_spec_l23AddM : List Rv := [.t 4]
theorem ck_spec_l23AddM : chkFn Try.prog F.spec_l23Add 2 ir_spec_l23AddM rs_spec_l23AddM = true := by kernel_rfl
set_option maxRecDepth 10000 in
theorem l23Add_ok (l : List Hole) (h : Hole) (hl : l.length ≤ 4398046511104) : Con Try.prog F.spec_l23Add [.sref 0, eHole h] [] [⟨2, l.map eHole, false⟩]
    (fun res bout us new => res = .sref 1 ∧ bout = [] ∧ us = [none] ∧ new = [⟨2, (addH l h).map eHole, false⟩]) := by
  by_cases h0 : 0 < l.length
  · have hi : l.length - 1 < l.length := by omega
    have hw : IntKind.i64.wrap ((l.length : Int) - 1) = ((l.length - 1 : Nat) : Int) := by rw [wrap_id (by omega) (by omega)]; omega
    have hle : l.length - 1 ≤ l.length := by omega
    by_cases ht : (l[l.length - 1]).b = h.a
    · refine con_by [false] ck_spec_l23AddM rfl (by simp) fun _ => den_W ?_
      unfold ir_spec_l23AddM rs_spec_l23AddM
      simp
      intro _
      simp [h0, hw, hi, ht, hle]
      refine ⟨by omega, by omega, postC_ret [] [none] [21] [⟨2, (addH l h).map eHole, false⟩] ?_⟩
      simp [addH, h0, ht]
    · refine con_by [false] ck_spec_l23Add rfl (by simp) fun _ => den_W ?_
      unfold ir_spec_l23Add rs_spec_l23Add
      simp
      intro _
      simp [h0, hw, hi, ht]
      refine ⟨by omega, postC_ret [] [none] [500000000] [⟨2, (addH l h).map eHole, false⟩] ?_⟩
      simp [addH, h0, ht]
  · refine con_by [false] ck_spec_l23Add rfl (by simp) fun _ => den_W ?_
    unfold ir_spec_l23Add rs_spec_l23Add
    simp
    intro _
    simp [h0]
    refine ⟨by omega, postC_ret [] [none] [500000000] [⟨2, (addH l h).map eHole, false⟩] ?_⟩
    simp [addH, h0]
def piece (x y : Hole) : Hole := ⟨max x.a y.a, min x.b y.b⟩
def meet1 (x : Hole) (b : List Hole) : List Hole := b.flatMap fun y => if (piece x y).a < (piece x y).b then [piece x y] else []
def meetF (a b : List Hole) : List Hole := a.flatMap fun x => meet1 x b
def meet (a b : List Hole) : List Hole := if holesOk a = true ∧ holesOk b = true then meetF a b else []
theorem flatMap_take {α β : Type} (f : α → List β) {l : List α} {i : Nat} (h : i < l.length) : (l.take (i + 1)).flatMap f = (l.take i).flatMap f ++ f l[i] := by
  rw [List.take_succ_eq_append_getElem h, List.flatMap_append]; simp
/-- In order: the later piece begins behind the end of the earlier one. -/
theorem holes_mono {l : List Hole} (h : holesOk l = true) : ∀ {i j : Nat} (hi : i < j) (hj : j < l.length), (l[i]'(by omega)).b < l[j].a ∧ l[j].a < l[j].b := by
  have hg : ∀ i, i < l.length → holeGood l i = true := upto_iff.1 h
  intro i j hi hj
  induction j with
  | zero => omega
  | succ j ih =>
    have h1 := hg (j + 1) hj
    rw [holeGood_eq hj] at h1
    simp [show j < l.length by omega] at h1
    refine ⟨?_, by omega⟩
    by_cases e : i = j
    · subst e; omega
    · have := ih (by omega) (by omega); omega
theorem holes_span {l : List Hole} (h : holesOk l = true) {j : Nat} (hj : j < l.length) : l[j].a < l[j].b := by
  have h1 := upto_iff.1 h j hj
  rw [holeGood_eq hj] at h1
  simp at h1; omega
theorem addH_far {l : List Hole} {h : Hole} (hf : ∀ p ∈ l, p.b < h.a) : addH l h = l ++ [h] := by
  unfold addH
  split
  · rename_i h0
    have := hf _ (List.getElem_mem (show l.length - 1 < l.length by omega))
    rw [if_neg (by omega)]
  · rfl
theorem meet1_len (x : Hole) : ∀ b : List Hole, (meet1 x b).length ≤ b.length
  | [] => by simp [meet1]
  | y :: b => by
    have := meet1_len x b
    rw [show meet1 x (y :: b) = (if (piece x y).a < (piece x y).b then [piece x y] else []) ++ meet1 x b from rfl]
    split <;> simp <;> omega
theorem meetF_len (b : List Hole) : ∀ a : List Hole, (meetF a b).length ≤ a.length * b.length
  | [] => by simp [meetF]
  | x :: a => by
    have h1 := meetF_len b a
    have h2 := meet1_len x b
    rw [show meetF (x :: a) b = meet1 x b ++ meetF a b from rfl]
    simp [Nat.add_mul]; omega
theorem meet1_take {x : Hole} {b : List Hole} {j : Nat} (h : j < b.length) : meet1 x (b.take (j + 1)) = meet1 x (b.take j) ++ if (piece x b[j]).a < (piece x b[j]).b then [piece x b[j]] else [] := flatMap_take _ h
theorem meetF_take {a b : List Hole} {i : Nat} (h : i < a.length) : meetF (a.take (i + 1)) b = meetF (a.take i) b ++ meet1 a[i] b := flatMap_take _ h
theorem mem_meet1 {x p : Hole} {b : List Hole} (h : p ∈ meet1 x b) : ∃ y ∈ b, p = piece x y ∧ p.a < p.b := by
  unfold meet1 at h
  obtain ⟨y, hy, hp⟩ := List.mem_flatMap.1 h
  split at hp
  · rename_i q; simp at hp; subst hp; exact ⟨y, hy, rfl, q⟩
  · simp at hp
theorem meet_far {a b : List Hole} (ha : holesOk a = true) (hb : holesOk b = true) {i j : Nat} (hi : i < a.length) (hj : j < b.length) :
    ∀ p ∈ meetF (a.take i) b ++ meet1 a[i] (b.take j), p.b < (piece a[i] b[j]).a := by
  intro p hp
  rcases List.mem_append.1 hp with hp | hp
  · obtain ⟨x, hx, hp⟩ := List.mem_flatMap.1 hp
    obtain ⟨y, hy, rfl, _⟩ := mem_meet1 hp
    obtain ⟨k, hk, rfl⟩ := List.mem_take_iff_getElem.1 hx
    have := (holes_mono ha (i := k) (j := i) (by omega) hi).1
    simp only [piece]; omega
  · obtain ⟨y, hy, rfl, _⟩ := mem_meet1 hp
    obtain ⟨k, hk, rfl⟩ := List.mem_take_iff_getElem.1 hy
    have := (holes_mono hb (i := k) (j := j) (by omega) hj).1
    simp only [piece]; omega
theorem prod_le {x y a b : Nat} (hx : x ≤ a) (hy : y ≤ b) : x * y ≤ a * b := Nat.mul_le_mul hx hy
def ir_spec_Meet : L :=
  .seq (
  .reg [.mv 4 (.c (.nl))]) (
  .seq (
  .reg [.bs 11 2 [] true,
    .mv 5 (.t 11)]) (
  .seq (
  .seq (
  .reg [.mv 12 (.t 0),
    .cq 13 F.spec_HolesOk [(.t 12)],
    .un 14 (.t 13),
    .mv 15 (.t 14),
    .g 15 false (.mv 16 (.t 1)),
    .g 15 false (.cq 17 F.spec_HolesOk [(.t 16)]),
    .g 15 false (.un 18 (.t 17)),
    .pk 19 (.t 15) (.c (.bool true)) (.t 18)]) (
  .cond (.t 19) (
    .seq (
    .reg [.mv 20 (.t 5),
      .mv 4 (.t 20)]) (
    .ret)) (
    .skip))) (
  .seq (
  .seq (
  .reg [.mv 21 (.t 0),
    .ln 22 (.t 21),
    .mv 23 (.c (.int .i64 0))]) (
  .blk 0 (
    .loop (
      .seq (
      .reg [.bi 24 .lss (.t 23) (.t 22)]) (
      .seq (
      .cond (.t 24) (
        .skip) (
        .exit 0)) (
      .seq (
      .blk 1 (
        .seq (
        .reg [.ia 25 (.t 21) (.t 23) 2,
          .ld 26 (.t 25) 2 true,
          .al 7 [.int .i64 0, .int .i64 0],
          .st (.t 7) (.t 26) 2]) (
        .seq (
        .reg [.mv 27 (.t 1),
          .ln 28 (.t 27),
          .mv 29 (.c (.int .i64 0))]) (
        .blk 2 (
          .loop (
            .seq (
            .reg [.bi 30 .lss (.t 29) (.t 28)]) (
            .seq (
            .cond (.t 30) (
              .skip) (
              .exit 2)) (
            .seq (
            .blk 3 (
              .seq (
              .reg [.ia 31 (.t 27) (.t 29) 2,
                .ld 32 (.t 31) 2 true,
                .al 9 [.int .i64 0, .int .i64 0],
                .st (.t 9) (.t 32) 2]) (
              .seq (
              .rq 12 [.fa 33 (.t 7) 0,
                .ld 34 (.t 33) 1 false,
                .fa 35 (.t 9) 0,
                .ld 36 (.t 35) 1 false,
                .cq 37 F.spec_l23Max [(.t 34), (.t 36)],
                .fa 38 (.t 7) 1,
                .ld 39 (.t 38) 1 false,
                .fa 40 (.t 9) 1,
                .ld 41 (.t 40) 1 false,
                .cq 42 F.spec_l01Min [(.t 39), (.t 41)],
                .bd 43 [.int .i64 0, .int .i64 0] [(0, 1, (.t 37)), (1, 1, (.t 42))],
                .al 10 [.int .i64 0, .int .i64 0],
                .st (.t 10) (.t 43) 2]) (
              .seq (
              .reg [.fa 44 (.t 10) 0,
                .ld 45 (.t 44) 1 false,
                .fa 46 (.t 10) 1,
                .ld 47 (.t 46) 1 false,
                .bi 48 .lss (.t 45) (.t 47)]) (
              .cond (.t 48) (
                .reg [.mv 49 (.t 5),
                  .ld 50 (.t 10) 2 true,
                  .cm 51 F.spec_l23Add [(.t 49), (.t 50)],
                  .mv 5 (.t 51)]) (
                .skip)))))) (
            .reg [.bi 52 .add (.t 29) (.c (.int .i64 1)),
              .mv 29 (.t 52)]))))))))) (
      .reg [.bi 53 .add (.t 23) (.c (.int .i64 1)),
        .mv 23 (.t 53)]))))))) (
  .seq (
  .reg [.mv 54 (.t 5),
    .mv 4 (.t 54)]) (
  .ret)))))
def rs_spec_Meet : List Rv := [.t 4]
theorem ck_spec_Meet : chkFn Try.prog F.spec_Meet 2 ir_spec_Meet rs_spec_Meet = true := by kernel_rfl
set_option maxRecDepth 10000 in
theorem spec_Meet_ok (a b : List Hole) (hal : a.length ≤ 1048576) (hbl : b.length ≤ 1048576) : Snd Try.prog F.spec_Meet [.sl .rd 2 (a.map eHole), .sl .rd 2 (b.map eHole)] (.sref 0) [⟨2, (meet a b).map eHole, false⟩] := by
  refine snd_by ck_spec_Meet rfl (by simp) (den_W ?_)
  unfold ir_spec_Meet rs_spec_Meet
  simp
  refine do_cq (spec_HolesOk_ok a) (by simp [St.args]) ?_
  cases ha : holesOk a
  · simp
    exact post_ret [11] (by simp [meet, ha])
  simp
  refine do_cq (spec_HolesOk_ok b) (by simp [St.args]) ?_
  cases hb : holesOk b
  · simp
    exact post_ret [11] (by simp [meet, hb])
  simp
  intro _
  refine W_rngJ a.length (fun i s => ∃ k, (k = 11 ∨ k = 52000) ∧ s.e 1 = .sl .rd 2 (b.map eHole) ∧ s.e 5 = .sref k ∧ s.rw k = some ⟨2, (meetF (a.take i) b).map eHole, false⟩ ∧ s.e 21 = .sl .rd 2 (a.map eHole) ∧ s.e 22 = .int .i64 a.length ∧ s.e 23 = .int .i64 (i : Nat))
    (fun s => ∃ k, (k = 11 ∨ k = 52000) ∧ s.e 5 = .sref k ∧ s.rw k = some ⟨2, (meetF a b).map eHole, false⟩) ?_ ?_ ?_
  · exact ⟨11, by simp [meetF]⟩
  · rintro i s hi ⟨k, hk, h1, h5, hr, e1, e2, e3⟩
    by_cases h : i < a.length
    · simp [h1, e1, e2, e3, h]
      intro _
      refine W_rngJ b.length (fun j s => ∃ k, (k = 11 ∨ k = 52000) ∧ s.e 1 = .sl .rd 2 (b.map eHole) ∧ s.e 5 = .sref k ∧ s.rw k = some ⟨2, (meetF (a.take i) b ++ meet1 a[i] (b.take j)).map eHole, false⟩ ∧ s.e 21 = .sl .rd 2 (a.map eHole) ∧ s.e 22 = .int .i64 a.length ∧ s.e 23 = .int .i64 (i : Nat) ∧
        s.e 7 = .ptr 7 0 ∧ s.bx 7 = some (eHole a[i]).cells ∧ s.e 27 = .sl .rd 2 (b.map eHole) ∧ s.e 28 = .int .i64 b.length ∧ s.e 29 = .int .i64 (j : Nat))
        (fun s => ∃ k, (k = 11 ∨ k = 52000) ∧ s.e 1 = .sl .rd 2 (b.map eHole) ∧ s.e 5 = .sref k ∧ s.rw k = some ⟨2, (meetF (a.take (i + 1)) b).map eHole, false⟩ ∧ s.e 21 = .sl .rd 2 (a.map eHole) ∧ s.e 22 = .int .i64 a.length ∧ s.e 23 = .int .i64 (i : Nat)) ?_ ?_ ?_
      · refine ⟨k, hk, ?_⟩
        rcases hk with rfl | rfl <;> simp [h1, h5, hr, e1, e2, e3, meet1]
      · clear h1 h5 hr e1 e2 e3 hk k s
        rintro j s hj ⟨k, hk, h1, h5, hr, e1, e2, e3, h7, hb7, e4, e5, e6⟩
        by_cases h' : j < b.length
        · have hfar := meet_far ha hb h h'
          have hlen : (meetF (a.take i) b ++ meet1 a[i] (b.take j)).length ≤ 1099512676352 := by
            have q1 := meetF_len b (a.take i)
            have q2 := meet1_len a[i] (b.take j)
            have q3 := prod_le (x := (a.take i).length) (y := b.length) (a := 1048576) (b := 1048576) (by simp; omega) hbl
            simp at q2 q3 q1 ⊢; omega
          have hm := meet1_take (x := a[i]) h'
          generalize hg : meetF (a.take i) b ++ meet1 a[i] (b.take j) = g at hr hfar hlen
          have hg' : meetF (a.take i) b ++ meet1 a[i] (b.take (j + 1)) = g ++ if (piece a[i] b[j]).a < (piece a[i] b[j]).b then [piece a[i] b[j]] else [] := by rw [hm, ← List.append_assoc, hg]
          clear hg hm
          have hws := wrap_succ h' (by omega : b.length ≤ 9223372036854775807)
          rcases hk with rfl | rfl
          · simp [h7, hb7, e4, e5, e6, h']
            refine do_cq (spec_l23Max_ok a[i].a b[j].a) (by simp [St.args]) ?_
            simp [h7, hb7]
            refine do_cq (spec_l01Min_ok a[i].b b[j].b) (by simp [St.args]) ?_
            simp [h5, e6]
            by_cases hlt : (piece a[i] b[j]).a < (piece a[i] b[j]).b
            · have hlt' := hlt
              simp only [piece] at hlt'
              simp [hlt', Int.not_le.2 hlt']
              have hC := l23Add_ok g (piece a[i] b[j]) (by omega)
              refine do_cm [] [11] hC rfl ?_ ?_ ?_ ?_
              · simp
              · simp [hr]
              · simp [piece]
              rintro _ _ _ _ _ _ ⟨rfl, rfl, rfl, rfl⟩
              simp [e6]
              refine rng_next h' ⟨52000, by simp, ?_⟩
              simp [h1, e1, e2, e3, h7, hb7, e4, e5, hws, hg', hlt, addH_far hfar]
            · have hlt' := hlt
              simp only [piece] at hlt'
              simp [hlt', Int.not_lt.1 hlt']
              refine rng_next h' ⟨11, by simp, ?_⟩
              simp [h1, h5, hr, e1, e2, e3, h7, hb7, e4, e5, hws, hg', hlt]
          · simp [h7, hb7, e4, e5, e6, h']
            refine do_cq (spec_l23Max_ok a[i].a b[j].a) (by simp [St.args]) ?_
            simp [h7, hb7]
            refine do_cq (spec_l01Min_ok a[i].b b[j].b) (by simp [St.args]) ?_
            simp [h5, e6]
            by_cases hlt : (piece a[i] b[j]).a < (piece a[i] b[j]).b
            · have hlt' := hlt
              simp only [piece] at hlt'
              simp [hlt', Int.not_le.2 hlt']
              have hC := l23Add_ok g (piece a[i] b[j]) (by omega)
              refine do_cm [] [52000] hC rfl ?_ ?_ ?_ ?_
              · simp
              · simp [hr]
              · simp [piece]
              rintro _ _ _ _ _ _ ⟨rfl, rfl, rfl, rfl⟩
              simp [e6]
              refine rng_next h' ⟨52000, by simp, ?_⟩
              simp [h1, e1, e2, e3, h7, hb7, e4, e5, hws, hg', hlt, addH_far hfar]
            · have hlt' := hlt
              simp only [piece] at hlt'
              simp [hlt', Int.not_lt.1 hlt']
              refine rng_next h' ⟨52000, by simp, ?_⟩
              simp [h1, h5, hr, e1, e2, e3, h7, hb7, e4, e5, hws, hg', hlt]
        · have : j = b.length := by omega
          subst this
          rw [List.take_of_length_le (Nat.le_refl _), ← meetF_take h] at hr
          simp [e4, e5, e6]
          refine beh_of ⟨k, hk, ?_⟩
          simp [h1, h5, hr, e1, e2, e3]
      clear h1 h5 hr e1 e2 e3 hk k s
      rintro s ⟨k, hk, h1, h5, hr, e1, e2, e3⟩
      simp [e3]
      refine rng_next h ⟨k, hk, ?_⟩
      rcases hk with rfl | rfl <;> simp [h1, h5, hr, e1, e2, wrap_succ h (by omega : a.length ≤ 9223372036854775807)]
    · have : i = a.length := by omega
      subst this
      rw [List.take_of_length_le (Nat.le_refl _)] at hr
      simp [e1, e2, e3]
      refine beh_of ⟨k, hk, ?_⟩
      simp [h5, hr]
  rintro s ⟨k, hk, h5, hr⟩
  simp [h5]
  exact post_ret [k] (by simp [hr, meet, ha, hb])
def ir_impl_Meet : L :=
  .seq (
  .reg [.mv 4 (.c (.nl))]) (
  .seq (
  .seq (
  .reg [.mv 11 (.t 0),
    .cq 12 F.impl_HolesOk [(.t 11)],
    .un 13 (.t 12),
    .mv 14 (.t 13),
    .g 14 false (.mv 15 (.t 1)),
    .g 14 false (.cq 16 F.impl_HolesOk [(.t 15)]),
    .g 14 false (.un 17 (.t 16)),
    .pk 18 (.t 14) (.c (.bool true)) (.t 17)]) (
  .cond (.t 18) (
    .seq (
    .reg [.mv 4 (.c (.nl))]) (
    .ret)) (
    .skip))) (
  .seq (
  .reg [.bs 19 2 [] true,
    .mv 5 (.t 19)]) (
  .seq (
  .seq (
  .reg [.mv 20 (.t 0),
    .ln 21 (.t 20),
    .mv 22 (.c (.int .i64 0))]) (
  .blk 0 (
    .loop (
      .seq (
      .reg [.bi 23 .lss (.t 22) (.t 21)]) (
      .seq (
      .cond (.t 23) (
        .skip) (
        .exit 0)) (
      .seq (
      .blk 1 (
        .seq (
        .reg [.ia 24 (.t 20) (.t 22) 2,
          .ld 25 (.t 24) 2 true,
          .al 7 [.int .i64 0, .int .i64 0],
          .st (.t 7) (.t 25) 2]) (
        .seq (
        .reg [.mv 26 (.t 1),
          .ln 27 (.t 26),
          .mv 28 (.c (.int .i64 0))]) (
        .blk 2 (
          .loop (
            .seq (
            .reg [.bi 29 .lss (.t 28) (.t 27)]) (
            .seq (
            .cond (.t 29) (
              .skip) (
              .exit 2)) (
            .seq (
            .blk 3 (
              .seq (
              .reg [.ia 30 (.t 26) (.t 28) 2,
                .ld 31 (.t 30) 2 true,
                .al 9 [.int .i64 0, .int .i64 0],
                .st (.t 9) (.t 31) 2]) (
              .seq (
              .reg [.fa 32 (.t 7) 0,
                .ld 33 (.t 32) 1 false,
                .fa 34 (.t 9) 0,
                .ld 35 (.t 34) 1 false,
                .mm 36 true (.t 33) (.t 35),
                .fa 37 (.t 7) 1,
                .ld 38 (.t 37) 1 false,
                .fa 39 (.t 9) 1,
                .ld 40 (.t 39) 1 false,
                .mm 41 false (.t 38) (.t 40),
                .bd 42 [.int .i64 0, .int .i64 0] [(0, 1, (.t 36)), (1, 1, (.t 41))],
                .al 10 [.int .i64 0, .int .i64 0],
                .st (.t 10) (.t 42) 2]) (
              .seq (
              .reg [.fa 43 (.t 10) 0,
                .ld 44 (.t 43) 1 false,
                .fa 45 (.t 10) 1,
                .ld 46 (.t 45) 1 false,
                .bi 47 .lss (.t 44) (.t 46)]) (
              .cond (.t 47) (
                .reg [.mv 48 (.t 5),
                  .ld 49 (.t 10) 2 true,
                  .bs 50 2 [(.t 49)] false,
                  .ap 51 (.t 48) (.t 50) 2 16,
                  .mv 5 (.t 51)]) (
                .skip)))))) (
            .reg [.bi 52 .add (.t 28) (.c (.int .i64 1)),
              .mv 28 (.t 52)]))))))))) (
      .reg [.bi 53 .add (.t 22) (.c (.int .i64 1)),
        .mv 22 (.t 53)]))))))) (
  .seq (
  .reg [.mv 54 (.t 5),
    .mv 4 (.t 54)]) (
  .ret)))))
def rs_impl_Meet : List Rv := [.t 4]
theorem ck_impl_Meet : chkFn Try.prog F.impl_Meet 2 ir_impl_Meet rs_impl_Meet = true := by kernel_rfl
set_option maxRecDepth 10000 in
theorem impl_Meet_ok (a b : List Hole) (hal : a.length ≤ 1048576) (hbl : b.length ≤ 1048576) : Snd Try.prog F.impl_Meet [.sl .rd 2 (a.map eHole), .sl .rd 2 (b.map eHole)] (.sref 0) [⟨2, (meet a b).map eHole, false⟩] := by
  refine snd_by ck_impl_Meet rfl (by simp) (den_W ?_)
  unfold ir_impl_Meet rs_impl_Meet
  simp
  refine do_cq (impl_HolesOk_ok a) (by simp [St.args]) ?_
  cases ha : holesOk a
  · simp
    exact post_retO [none] (by simp [meet, ha])
  simp
  refine do_cq (impl_HolesOk_ok b) (by simp [St.args]) ?_
  cases hb : holesOk b
  · simp
    exact post_retO [none] (by simp [meet, hb])
  simp
  intro _
  refine W_rngJ a.length (fun i s => ∃ k, k = 19 ∧ s.e 1 = .sl .rd 2 (b.map eHole) ∧ s.e 5 = .sref k ∧ s.rw k = some ⟨2, (meetF (a.take i) b).map eHole, false⟩ ∧ s.e 20 = .sl .rd 2 (a.map eHole) ∧ s.e 21 = .int .i64 a.length ∧ s.e 22 = .int .i64 (i : Nat))
    (fun s => ∃ k, k = 19 ∧ s.e 5 = .sref k ∧ s.rw k = some ⟨2, (meetF a b).map eHole, false⟩) ?_ ?_ ?_
  · exact ⟨19, by simp [meetF]⟩
  · rintro i s hi ⟨k, hk, h1, h5, hr, e1, e2, e3⟩
    by_cases h : i < a.length
    · simp [h1, e1, e2, e3, h]
      intro _
      refine W_rngJ b.length (fun j s => ∃ k, k = 19 ∧ s.e 1 = .sl .rd 2 (b.map eHole) ∧ s.e 5 = .sref k ∧ s.rw k = some ⟨2, (meetF (a.take i) b ++ meet1 a[i] (b.take j)).map eHole, false⟩ ∧ s.e 20 = .sl .rd 2 (a.map eHole) ∧ s.e 21 = .int .i64 a.length ∧ s.e 22 = .int .i64 (i : Nat) ∧
        s.e 7 = .ptr 7 0 ∧ s.bx 7 = some (eHole a[i]).cells ∧ s.e 26 = .sl .rd 2 (b.map eHole) ∧ s.e 27 = .int .i64 b.length ∧ s.e 28 = .int .i64 (j : Nat))
        (fun s => ∃ k, k = 19 ∧ s.e 1 = .sl .rd 2 (b.map eHole) ∧ s.e 5 = .sref k ∧ s.rw k = some ⟨2, (meetF (a.take (i + 1)) b).map eHole, false⟩ ∧ s.e 20 = .sl .rd 2 (a.map eHole) ∧ s.e 21 = .int .i64 a.length ∧ s.e 22 = .int .i64 (i : Nat)) ?_ ?_ ?_
      · refine ⟨k, hk, ?_⟩
        subst hk ; simp [h1, h5, hr, e1, e2, e3, meet1]
      · clear h1 h5 hr e1 e2 e3 hk k s
        rintro j s hj ⟨k, hk, h1, h5, hr, e1, e2, e3, h7, hb7, e4, e5, e6⟩
        by_cases h' : j < b.length
        · have hfar := meet_far ha hb h h'
          have hlen : (meetF (a.take i) b ++ meet1 a[i] (b.take j)).length ≤ 1099512676352 := by
            have q1 := meetF_len b (a.take i)
            have q2 := meet1_len a[i] (b.take j)
            have q3 := prod_le (x := (a.take i).length) (y := b.length) (a := 1048576) (b := 1048576) (by simp; omega) hbl
            simp at q2 q3 q1 ⊢; omega
          have hm := meet1_take (x := a[i]) h'
          generalize hg : meetF (a.take i) b ++ meet1 a[i] (b.take j) = g at hr hfar hlen
          have hg' : meetF (a.take i) b ++ meet1 a[i] (b.take (j + 1)) = g ++ if (piece a[i] b[j]).a < (piece a[i] b[j]).b then [piece a[i] b[j]] else [] := by rw [hm, ← List.append_assoc, hg]
          clear hg hm
          have hws := wrap_succ h' (by omega : b.length ≤ 9223372036854775807)
          subst hk
          simp [h5, hr, h7, hb7, e4, e5, e6, h']
          by_cases hlt : (piece a[i] b[j]).a < (piece a[i] b[j]).b
          · have hlt' := hlt
            simp only [piece] at hlt'
            simp [hlt', Int.not_le.2 hlt']
            refine ⟨by omega, rng_next h' ⟨19, rfl, ?_⟩⟩
            simp [h1, e1, e2, e3, h7, hb7, e4, e5, hws, hg', hlt]
            simp [piece]
          · have hlt' := hlt
            simp only [piece] at hlt'
            simp [hlt', Int.not_lt.1 hlt']
            refine rng_next h' ⟨19, rfl, ?_⟩
            simp [h1, h5, hr, e1, e2, e3, h7, hb7, e4, e5, hws, hg', hlt]
        · have : j = b.length := by omega
          subst this
          rw [List.take_of_length_le (Nat.le_refl _), ← meetF_take h] at hr
          simp [e4, e5, e6]
          refine beh_of ⟨k, hk, ?_⟩
          simp [h1, h5, hr, e1, e2, e3]
      clear h1 h5 hr e1 e2 e3 hk k s
      rintro s ⟨k, hk, h1, h5, hr, e1, e2, e3⟩
      simp [e3]
      refine rng_next h ⟨k, hk, ?_⟩
      subst hk ; simp [h1, h5, hr, e1, e2, wrap_succ h (by omega : a.length ≤ 9223372036854775807)]
    · have : i = a.length := by omega
      subst this
      rw [List.take_of_length_le (Nat.le_refl _)] at hr
      simp [e1, e2, e3]
      refine beh_of ⟨k, hk, ?_⟩
      simp [h5, hr]
  rintro s ⟨k, hk, h5, hr⟩
  simp [h5]
  exact post_ret [k] (by simp [hr, meet, ha, hb])
theorem meet_len {a b : List Hole} (ha : a.length ≤ 1048576) (hb : b.length ≤ 1048576) : (meet a b).length ≤ 1099511627776 := by
  unfold meet; split
  · have := meetF_len b a
    have := prod_le ha hb
    omega
  · simp
def ir_laws_FnExactMeet : L :=
  .seq (
  .reg [.mv 4 (.c (.bool false))]) (
  .seq (
  .reg [.mv 5 (.c (.int .i64 1048576))]) (
  .seq (
  .reg [.mv 14 (.t 0),
    .mv 15 (.t 5),
    .cq 16 F.laws_szHoleS [(.t 14), (.t 15)],
    .mv 5 (.t 16)]) (
  .seq (
  .seq (
  .reg [.mv 17 (.t 5),
    .bi 18 .lss (.t 17) (.c (.int .i64 0))]) (
  .cond (.t 18) (
    .seq (
    .reg [.mv 4 (.c (.bool true))]) (
    .ret)) (
    .skip))) (
  .seq (
  .reg [.mv 19 (.t 1),
    .mv 20 (.t 5),
    .cq 21 F.laws_szHoleS [(.t 19), (.t 20)],
    .mv 5 (.t 21)]) (
  .seq (
  .seq (
  .reg [.mv 22 (.t 5),
    .bi 23 .lss (.t 22) (.c (.int .i64 0))]) (
  .cond (.t 23) (
    .seq (
    .reg [.mv 4 (.c (.bool true))]) (
    .ret)) (
    .skip))) (
  .seq (
  .reg [.mv 24 (.t 0),
    .cq 25 F.laws_toHoleS [(.t 24)],
    .mv 26 (.t 1),
    .cq 27 F.laws_toHoleS [(.t 26)],
    .cq 28 F.spec_Meet [(.t 25), (.t 27)],
    .mv 6 (.t 28)]) (
  .seq (
  .reg [.mv 29 (.t 0),
    .cl 30 F.laws_toHoleS [(.t 29)],
    .mv 7 (.t 30)]) (
  .seq (
  .reg [.mv 31 (.t 1),
    .cl 32 F.laws_toHoleS [(.t 31)],
    .mv 8 (.t 32)]) (
  .seq (
  .reg [.mv 33 (.t 7),
    .mv 34 (.t 8),
    .cl 35 F.impl_Meet [(.t 33), (.t 34)],
    .mv 9 (.t 35)]) (
  .seq (
  .seq (
  .reg [.mv 36 (.t 9),
    .mv 37 (.t 6),
    .cq 38 F.laws_eqHoleS [(.t 36), (.t 37)],
    .un 39 (.t 38)]) (
  .cond (.t 39) (
    .seq (
    .reg [.mv 4 (.c (.bool false))]) (
    .ret)) (
    .skip))) (
  .seq (
  .seq (
  .reg [.mv 40 (.t 7),
    .mv 41 (.t 0),
    .cq 42 F.laws_toHoleS [(.t 41)],
    .cq 43 F.laws_eqHoleS [(.t 40), (.t 42)],
    .un 44 (.t 43)]) (
  .cond (.t 44) (
    .seq (
    .reg [.mv 4 (.c (.bool false))]) (
    .ret)) (
    .skip))) (
  .seq (
  .seq (
  .reg [.mv 45 (.t 8),
    .mv 46 (.t 1),
    .cq 47 F.laws_toHoleS [(.t 46)],
    .cq 48 F.laws_eqHoleS [(.t 45), (.t 47)],
    .un 49 (.t 48)]) (
  .cond (.t 49) (
    .seq (
    .reg [.mv 4 (.c (.bool false))]) (
    .ret)) (
    .skip))) (
  .seq (
  .reg [.mv 10 (.c (.int .i64 1))]) (
  .seq (
  .reg [.mv 50 (.t 7),
    .mv 51 (.t 10),
    .cm 52 F.laws_markHoleS [(.t 50), (.t 51)],
    .mv 10 (.t 52)]) (
  .seq (
  .reg [.mv 53 (.t 8),
    .mv 54 (.t 10),
    .cm 55 F.laws_markHoleS [(.t 53), (.t 54)],
    .mv 10 (.t 55)]) (
  .seq (
  .seq (
  .reg [.mv 56 (.t 10),
    .bi 57 .lss (.t 56) (.c (.int .i64 0)),
    .mv 58 (.t 57),
    .g 58 false (.mv 59 (.t 9)),
    .g 58 false (.mv 60 (.t 6)),
    .g 58 false (.cq 61 F.laws_eqHoleS [(.t 59), (.t 60)]),
    .g 58 false (.un 62 (.t 61)),
    .pk 63 (.t 58) (.c (.bool true)) (.t 62)]) (
  .cond (.t 63) (
    .seq (
    .reg [.mv 4 (.c (.bool false))]) (
    .ret)) (
    .skip))) (
  .seq (
  .reg [.mv 11 (.c (.int .i64 1))]) (
  .seq (
  .reg [.mv 64 (.t 9),
    .mv 65 (.t 11),
    .cm 66 F.laws_markHoleS [(.t 64), (.t 65)],
    .mv 11 (.t 66)]) (
  .seq (
  .reg [.mv 12 (.c (.int .i64 1))]) (
  .seq (
  .reg [.mv 67 (.t 9),
    .mv 68 (.t 12),
    .cq 69 F.laws_heldHoleS [(.t 67), (.t 68)],
    .mv 12 (.t 69)]) (
  .seq (
  .seq (
  .reg [.mv 70 (.t 12),
    .bi 71 .lss (.t 70) (.c (.int .i64 0))]) (
  .cond (.t 71) (
    .seq (
    .reg [.mv 4 (.c (.bool false))]) (
    .ret)) (
    .skip))) (
  .seq (
  .seq (
  .reg [.mv 72 (.t 12),
    .mv 73 (.t 11),
    .bi 74 .neq (.t 72) (.t 73)]) (
  .cond (.t 74) (
    .seq (
    .reg [.mv 4 (.c (.bool false))]) (
    .ret)) (
    .skip))) (
  .seq (
  .reg [.mv 75 (.t 0),
    .cq 76 F.laws_toHoleS [(.t 75)],
    .mv 77 (.t 1),
    .cq 78 F.laws_toHoleS [(.t 77)],
    .cq 79 F.impl_Meet [(.t 76), (.t 78)],
    .mv 13 (.t 79)]) (
  .seq (
  .seq (
  .reg [.mv 80 (.t 13),
    .mv 81 (.t 6),
    .cq 82 F.laws_eqHoleS [(.t 80), (.t 81)],
    .un 83 (.t 82)]) (
  .cond (.t 83) (
    .seq (
    .reg [.mv 4 (.c (.bool false))]) (
    .ret)) (
    .skip))) (
  .seq (
  .reg [.mv 12 (.c (.int .i64 1))]) (
  .seq (
  .reg [.mv 84 (.t 9),
    .mv 85 (.t 12),
    .cq 86 F.laws_heldHoleS [(.t 84), (.t 85)],
    .mv 12 (.t 86)]) (
  .seq (
  .seq (
  .reg [.mv 87 (.t 12),
    .bi 88 .lss (.t 87) (.c (.int .i64 0))]) (
  .cond (.t 88) (
    .seq (
    .reg [.mv 4 (.c (.bool false))]) (
    .ret)) (
    .skip))) (
  .seq (
  .seq (
  .reg [.mv 89 (.t 12),
    .mv 90 (.t 11),
    .bi 91 .neq (.t 89) (.t 90)]) (
  .cond (.t 91) (
    .seq (
    .reg [.mv 4 (.c (.bool false))]) (
    .ret)) (
    .skip))) (
  .seq (
  .reg [.mv 4 (.c (.bool true))]) (
  .ret))))))))))))))))))))))))))))))
def rs_laws_FnExactMeet : List Rv := [.t 4]
theorem ck_laws_FnExactMeet : chkFn Try.prog F.laws_FnExactMeet 2 ir_laws_FnExactMeet rs_laws_FnExactMeet = true := by kernel_rfl
set_option maxRecDepth 10000 in
theorem FnExactMeet_c (a : List Hole) (b : List Hole) : Snd Try.prog F.laws_FnExactMeet [.sl .rd 2 (a.map eHole), .sl .rd 2 (b.map eHole)] (.bool true) [] := by
  refine snd_by ck_laws_FnExactMeet rfl (by simp) (den_W ?_)
  unfold ir_laws_FnExactMeet rs_laws_FnExactMeet
  simp
  refine do_cq (szHoleS_ok a 1048576 (by omega) (by omega)) (by simp [St.args]) ?_
  simp
  intro hs0
  obtain ⟨hz0, hy0⟩ := szr_nn hs0
  have ha : a.length ≤ 1048576 := by omega
  refine do_cq (szHoleS_ok b (szr 1048576 (a.length)) (by omega) hs0) (by simp [St.args]) ?_
  simp
  intro hs1
  obtain ⟨hz1, hy1⟩ := szr_nn hs1
  have hb : b.length ≤ 1048576 := by omega
  refine do_cq (toHoleS_ok a ha) (by simp [St.args]) ?_
  simp
  refine do_cq (toHoleS_ok b hb) (by simp [St.args]) ?_
  simp
  have hm := meet_len ha hb
  refine do_cq (spec_Meet_ok a b ha hb) (by simp [St.args]) ?_
  simp
  refine do_cl (toHoleS_ok a ha) (by simp [St.args]) (by simp) ?_
  simp
  refine do_cl (toHoleS_ok b hb) (by simp [St.args]) (by simp) ?_
  simp
  refine do_cl (impl_Meet_ok a b ha hb) (by simp [St.args]) (by simp) ?_
  simp
  refine do_cq (eqHoleS_ok (meet a b) (meet a b)) (by simp [St.args]) ?_
  simp
  refine do_cq (toHoleS_ok a ha) (by simp [St.args]) ?_
  simp
  refine do_cq (eqHoleS_ok (a) (a)) (by simp [St.args]) ?_
  simp
  refine do_cq (toHoleS_ok b hb) (by simp [St.args]) ?_
  simp
  refine do_cq (eqHoleS_ok (b) (b)) (by simp [St.args]) ?_
  simp
  refine do_cm [] [31000] (markHoleS_ok (a) (1) (by omega) (by omega)) rfl (by simp) (by simp) (by simp) ?_
  rintro _ _ _ _ _ _ ⟨rfl, rfl, rfl, rfl⟩
  have hk1 : ¬ (1 + 2 * ((a).length : Int) < 0) := by omega
  simp
  refine do_cm [] [33000] (markHoleS_ok (b) (1 + 2 * ((a).length : Int)) (by omega) (by omega)) rfl (by simp) (by simp) (by simp) ?_
  rintro _ _ _ _ _ _ ⟨rfl, rfl, rfl, rfl⟩
  have hk2 : ¬ (1 + 2 * ((a).length : Int) + 2 * ((b).length : Int) < 0) := by omega
  simp [hk2]
  refine do_cq (eqHoleS_ok (meet a b) (meet a b)) (by simp [St.args]) ?_
  simp
  refine do_cm [] [36000] (markHoleS_ok (meet a b) (1) (by omega) (by omega)) rfl (by simp) (by simp) (by simp) ?_
  rintro _ _ _ _ _ _ ⟨rfl, rfl, rfl, rfl⟩
  have hk3 : ¬ (1 + 2 * ((meet a b).length : Int) < 0) := by omega
  simp
  refine do_cq (heldHoleS_ok (meet a b).length 1 (by omega) (by omega)) (by simp [St.args]) ?_
  simp [hk3]
  refine do_cq (toHoleS_ok a ha) (by simp [St.args]) ?_
  simp
  refine do_cq (toHoleS_ok b hb) (by simp [St.args]) ?_
  simp
  refine do_cq (impl_Meet_ok a b ha hb) (by simp [St.args]) ?_
  simp
  refine do_cq (eqHoleS_ok (meet a b) (meet a b)) (by simp [St.args]) ?_
  simp
  refine do_cq (heldHoleS_ok (meet a b).length 1 (by omega) (by omega)) (by simp [St.args]) ?_
  simp [hk3]
theorem FnExactMeet_ok (xs : List AV) (h : okVs [.sl tyHole, .sl tyHole] xs) : Snd Try.prog F.laws_FnExactMeet xs (.bool true) [] := by
  obtain ⟨a, _, rfl, ha, b, _, rfl, hb, rfl⟩ := h
  obtain ⟨l, ha⟩ := HoleS_of ha
  obtain ⟨k, hb⟩ := HoleS_of hb
  exact (FnExactMeet_c l k).wk ⟨ha, hb, trivial⟩
end Go.Proofs.Ythbbieobcokgbaa
