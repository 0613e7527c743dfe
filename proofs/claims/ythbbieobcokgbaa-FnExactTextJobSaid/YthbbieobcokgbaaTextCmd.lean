/-
  TextCmd of the specification; TextJob, of the specification and of the program, and its law.
-/
import Derived.Test.YthbbieobcokgbaaTextVec
namespace Go.Proofs.Ythbbieobcokgbaa
open Go Go.RowKit Eng
theorem list7 {α : Type} : ∀ {l : List α}, l.length = 7 → ∃ a b c d e f g, l = [a, b, c, d, e, f, g]
  | [a, b, c, d, e, f, g], _ => ⟨a, b, c, d, e, f, g, rfl⟩
theorem list8 {α : Type} : ∀ {l : List α}, l.length = 8 → ∃ a b c d e f g h, l = [a, b, c, d, e, f, g, h]
  | [a, b, c, d, e, f, g, h], _ => ⟨a, b, c, d, e, f, g, h, rfl⟩
theorem list2 {α : Type} : ∀ {l : List α}, l.length = 2 → ∃ a b, l = [a, b]
  | [a, b], _ => ⟨a, b, rfl⟩
def kindTo (x : Str) : Nat → Int
  | 0 => 0
  | i + 1 => if 0 < i ∧ words8.getD i [] = x then (i : Nat) else kindTo x i
def vecAt (ps : List Str) (i : Nat) : Vec := (textVec (ps.getD i [])).1
def jobOf (ps : List Str) : Job := ⟨numAt ps 0, numAt ps 1, numAt ps 2, vecAt ps 3, vecAt ps 4, numAt ps 5, numAt ps 6⟩
def cmdOf (ps : List Str) : Cmd :=
  if kindTo (ps.getD 0 []) 8 = 1 ∧ ps.length = 8 then ⟨1, jobOf (ps.drop 1), 0, vec0⟩
  else if kindTo (ps.getD 0 []) 8 = 6 ∧ ps.length = 2 then ⟨6, job0, 0, vecAt ps 1⟩
  else if ps.length = 2 then ⟨kindTo (ps.getD 0 []) 8, job0, numAt ps 1, vec0⟩
  else ⟨kindTo (ps.getD 0 []) 8, job0, 0, vec0⟩
def cmd0 : Cmd := ⟨0, job0, 0, vec0⟩
def textCmd (s : Str) : Cmd × Bool := if s ≠ [] ∧ cmdText (cmdOf (parts 32 s)) = s then (cmdOf (parts 32 s), true) else (cmd0, false)
def ir_spec_TextCmd : L :=
  .seq (
  .reg [.al 2 [.int .i64 0, .int .i64 0, .int .i64 0, .int .i64 0, .int .i64 0, .int .i64 0, .int .i64 0, .int .i64 0, .int .i64 0, .int .i64 0, .int .i64 0, .int .i64 0, .int .i64 0, .int .i64 0, .int .i64 0, .int .i64 0],
    .mv 3 (.c (.bool false))]) (
  .seq (
  .reg [.mv 8 (.t 0),
    .cq 9 F.spec_Parts [(.t 8), (.c (.int .u8 32))],
    .mv 4 (.t 9)]) (
  .seq (
  .reg [.bd 10 [.int .i64 0, .int .i64 0, .int .i64 0, .int .i64 0, .int .i64 0, .int .i64 0, .int .i64 0, .int .i64 0, .int .i64 0, .int .i64 0, .int .i64 0, .int .i64 0, .int .i64 0, .int .i64 0, .int .i64 0, .int .i64 0] [],
    .al 5 [.int .i64 0, .int .i64 0, .int .i64 0, .int .i64 0, .int .i64 0, .int .i64 0, .int .i64 0, .int .i64 0, .int .i64 0, .int .i64 0, .int .i64 0, .int .i64 0, .int .i64 0, .int .i64 0, .int .i64 0, .int .i64 0],
    .st (.t 5) (.t 10) 16]) (
  .seq (
  .seq (
  .reg [.cq 11 F.spec_l08Words [],
    .ln 12 (.t 11),
    .mv 13 (.c (.int .i64 0))]) (
  .blk 0 (
    .loop (
      .seq (
      .reg [.bi 14 .lss (.t 13) (.t 12)]) (
      .seq (
      .cond (.t 14) (
        .skip) (
        .exit 0)) (
      .seq (
      .blk 1 (
        .seq (
        .reg [.mv 15 (.t 13),
          .ia 16 (.t 11) (.t 13) 1,
          .ld 17 (.t 16) 1 false,
          .mv 6 (.t 15),
          .mv 7 (.t 17)]) (
        .seq (
        .reg [.mv 18 (.t 6),
          .bi 19 .gtr (.t 18) (.c (.int .i64 0)),
          .mv 20 (.t 19),
          .g 20 true (.mv 21 (.t 7)),
          .g 20 true (.mv 22 (.t 4)),
          .g 20 true (.ia 23 (.t 22) (.c (.int .i64 0)) 1),
          .g 20 true (.ld 24 (.t 23) 1 false),
          .g 20 true (.bi 25 .eql (.t 21) (.t 24)),
          .pk 26 (.t 20) (.t 25) (.c (.bool false))]) (
        .cond (.t 26) (
          .reg [.mv 27 (.t 6),
            .fa 28 (.t 5) 0,
            .st (.t 28) (.t 27) 1]) (
          .skip))))) (
      .reg [.bi 29 .add (.t 13) (.c (.int .i64 1)),
        .mv 13 (.t 29)]))))))) (
  .seq (
  .seq (
  .reg [.fa 30 (.t 5) 0,
    .ld 31 (.t 30) 1 false,
    .bi 32 .eql (.t 31) (.c (.int .i64 1)),
    .mv 33 (.t 32),
    .g 33 true (.mv 34 (.t 4)),
    .g 33 true (.ln 35 (.t 34)),
    .g 33 true (.bi 36 .eql (.t 35) (.c (.int .i64 8))),
    .pk 37 (.t 33) (.t 36) (.c (.bool false))]) (
  .cond (.t 37) (
    .seq (
    .reg [.mv 39 (.t 4),
      .ia 40 (.t 39) (.c (.int .i64 1)) 1,
      .ld 41 (.t 40) 1 false,
      .cq 42 F.spec_TextNum [(.t 41)],
      .mv 38 (.t 42),
      .ex 43 (.t 38) 0,
      .ex 44 (.t 38) 1,
      .fa 45 (.t 5) 1,
      .fa 46 (.t 45) 0,
      .st (.t 46) (.t 43) 1]) (
    .seq (
    .reg [.mv 48 (.t 4),
      .ia 49 (.t 48) (.c (.int .i64 2)) 1,
      .ld 50 (.t 49) 1 false,
      .cq 51 F.spec_TextNum [(.t 50)],
      .mv 47 (.t 51),
      .ex 52 (.t 47) 0,
      .ex 53 (.t 47) 1,
      .fa 54 (.t 5) 1,
      .fa 55 (.t 54) 1,
      .st (.t 55) (.t 52) 1]) (
    .seq (
    .reg [.mv 57 (.t 4),
      .ia 58 (.t 57) (.c (.int .i64 3)) 1,
      .ld 59 (.t 58) 1 false,
      .cq 60 F.spec_TextNum [(.t 59)],
      .mv 56 (.t 60),
      .ex 61 (.t 56) 0,
      .ex 62 (.t 56) 1,
      .fa 63 (.t 5) 1,
      .fa 64 (.t 63) 2,
      .st (.t 64) (.t 61) 1]) (
    .seq (
    .reg [.mv 66 (.t 4),
      .ia 67 (.t 66) (.c (.int .i64 4)) 1,
      .ld 68 (.t 67) 1 false,
      .cq 69 F.spec_TextVec [(.t 68)],
      .mv 65 (.t 69),
      .ex 70 (.t 65) 0,
      .ex 71 (.t 65) 1,
      .fa 72 (.t 5) 1,
      .fa 73 (.t 72) 3,
      .st (.t 73) (.t 70) 3]) (
    .seq (
    .reg [.mv 75 (.t 4),
      .ia 76 (.t 75) (.c (.int .i64 5)) 1,
      .ld 77 (.t 76) 1 false,
      .cq 78 F.spec_TextVec [(.t 77)],
      .mv 74 (.t 78),
      .ex 79 (.t 74) 0,
      .ex 80 (.t 74) 1,
      .fa 81 (.t 5) 1,
      .fa 82 (.t 81) 6,
      .st (.t 82) (.t 79) 3]) (
    .seq (
    .reg [.mv 84 (.t 4),
      .ia 85 (.t 84) (.c (.int .i64 6)) 1,
      .ld 86 (.t 85) 1 false,
      .cq 87 F.spec_TextNum [(.t 86)],
      .mv 83 (.t 87),
      .ex 88 (.t 83) 0,
      .ex 89 (.t 83) 1,
      .fa 90 (.t 5) 1,
      .fa 91 (.t 90) 9,
      .st (.t 91) (.t 88) 1]) (
    .reg [.mv 93 (.t 4),
      .ia 94 (.t 93) (.c (.int .i64 7)) 1,
      .ld 95 (.t 94) 1 false,
      .cq 96 F.spec_TextNum [(.t 95)],
      .mv 92 (.t 96),
      .ex 97 (.t 92) 0,
      .ex 98 (.t 92) 1,
      .fa 99 (.t 5) 1,
      .fa 100 (.t 99) 10,
      .st (.t 100) (.t 97) 1]))))))) (
    .seq (
    .reg [.fa 101 (.t 5) 0,
      .ld 102 (.t 101) 1 false,
      .bi 103 .eql (.t 102) (.c (.int .i64 6)),
      .mv 104 (.t 103),
      .g 104 true (.mv 105 (.t 4)),
      .g 104 true (.ln 106 (.t 105)),
      .g 104 true (.bi 107 .eql (.t 106) (.c (.int .i64 2))),
      .pk 108 (.t 104) (.t 107) (.c (.bool false))]) (
    .cond (.t 108) (
      .reg [.mv 110 (.t 4),
        .ia 111 (.t 110) (.c (.int .i64 1)) 1,
        .ld 112 (.t 111) 1 false,
        .cq 113 F.spec_TextVec [(.t 112)],
        .mv 109 (.t 113),
        .ex 114 (.t 109) 0,
        .ex 115 (.t 109) 1,
        .fa 116 (.t 5) 13,
        .st (.t 116) (.t 114) 3]) (
      .seq (
      .reg [.mv 117 (.t 4),
        .ln 118 (.t 117),
        .bi 119 .eql (.t 118) (.c (.int .i64 2))]) (
      .cond (.t 119) (
        .reg [.mv 121 (.t 4),
          .ia 122 (.t 121) (.c (.int .i64 1)) 1,
          .ld 123 (.t 122) 1 false,
          .cq 124 F.spec_TextNum [(.t 123)],
          .mv 120 (.t 124),
          .ex 125 (.t 120) 0,
          .ex 126 (.t 120) 1,
          .fa 127 (.t 5) 12,
          .st (.t 127) (.t 125) 1]) (
        .skip))))))) (
  .seq (
  .seq (
  .reg [.mv 128 (.t 0),
    .bi 129 .eql (.t 128) (.c (.str [])),
    .mv 130 (.t 129),
    .g 130 false (.ld 131 (.t 5) 16 true),
    .g 130 false (.cq 132 F.spec_CmdText [(.t 131)]),
    .g 130 false (.mv 133 (.t 0)),
    .g 130 false (.bi 134 .neq (.t 132) (.t 133)),
    .pk 135 (.t 130) (.c (.bool true)) (.t 134)]) (
  .cond (.t 135) (
    .seq (
    .reg [.bd 136 [.int .i64 0, .int .i64 0, .int .i64 0, .int .i64 0, .int .i64 0, .int .i64 0, .int .i64 0, .int .i64 0, .int .i64 0, .int .i64 0, .int .i64 0, .int .i64 0, .int .i64 0, .int .i64 0, .int .i64 0, .int .i64 0] [],
      .st (.t 2) (.t 136) 16,
      .mv 3 (.c (.bool false))]) (
    .ret)) (
    .skip))) (
  .seq (
  .reg [.ld 137 (.t 5) 16 true,
    .st (.t 2) (.t 137) 16,
    .mv 3 (.c (.bool true))]) (
  .ret)))))))
def rs_spec_TextCmd : List Rv := [.c 2 16 true, .t 3]
theorem ck_spec_TextCmd : chkFn Try.prog F.spec_TextCmd 1 ir_spec_TextCmd rs_spec_TextCmd = true := by kernel_rfl
set_option maxRecDepth 20000 in
theorem spec_TextCmd_ok (s : Str) (hs : s.length ≤ 1073741824) : Snd Try.prog F.spec_TextCmd [.str s] (.tup [eCmd (textCmd s).1, .bool (textCmd s).2]) [] := by
  refine snd_by ck_spec_TextCmd rfl (by simp) (den_W ?_)
  unfold ir_spec_TextCmd rs_spec_TextCmd
  simp
  refine do_cq (spec_Parts_ok s 32 hs) (by simp [St.args]) ?_
  simp
  have htc : textCmd s = if s ≠ [] ∧ cmdText (cmdOf (parts 32 s)) = s then (cmdOf (parts 32 s), true) else (cmd0, false) := rfl
  have hpm : ∀ p ∈ parts 32 s, p.length ≤ 1073741824 := fun p hp => by have := parts_mem hp; omega
  have hne := parts_ne 32 s
  have hpl := parts_len 32 s
  generalize parts 32 s = ps at htc hpm hne hpl
  have h0l : 0 < ps.length := List.length_pos_iff.2 hne
  have hps0 : ps.getD 0 [] = ps[0] := by simp [h0l]
  refine do_cq (spec_words_ok) (by simp [St.args]) ?_
  simp
  intro _
  have hw8 : words8.length = 8 := rfl
  refine W_rngJ 8 (fun i t => t.e 0 = .str s ∧ t.e 2 = .ptr 2 0 ∧ t.bx 2 = some (eCmd cmd0).cells ∧ t.e 4 = .sl .nw 1 (ps.map eS) ∧ t.e 5 = .ptr 5 0 ∧ t.bx 5 = some (eCmd ⟨kindTo ps[0] i, job0, 0, vec0⟩).cells ∧
    t.e 11 = .sl .nw 1 (words8.map eS) ∧ t.e 12 = .int .i64 8 ∧ t.e 13 = .int .i64 (i : Nat))
    (fun t => t.e 0 = .str s ∧ t.e 2 = .ptr 2 0 ∧ t.bx 2 = some (eCmd cmd0).cells ∧ t.e 4 = .sl .nw 1 (ps.map eS) ∧ t.e 5 = .ptr 5 0 ∧ t.bx 5 = some (eCmd ⟨kindTo ps[0] 8, job0, 0, vec0⟩).cells) ?_ ?_ ?_
  · simp [kindTo, cmd0, job0, vec0, hw8]
  · rintro i t hi ⟨h0, h2, hb2, h4, h5, hb5, h11, h12, h13⟩
    by_cases h : i < 8
    · have hws := wrap_succ h (by omega)
      have h' : (i : Int) < 8 := by omega
      have hgd : words8[i]?.getD [] = words8[i]'(by omega) := by simp [hw8, h]
      simp [h0, h2, hb2, h4, h5, hb5, h11, h12, h13, h', h, hw8]
      by_cases hi0 : 0 < i
      · simp [hi0, h0l, h4, h5, hb5, h13]
        refine ⟨fun he => ?_, fun he => ?_⟩
        · refine rng_next h ?_
          simp [h0, h2, hb2, h4, h5, h11, h12, hws, kindTo, hi0, hgd, he]
        · refine rng_next h ?_
          simp [h0, h2, hb2, h4, h5, hb5, h11, h12, hws, kindTo, hi0, hgd, he]
      · simp [hi0, h13]
        refine rng_next h ?_
        simp [h0, h2, hb2, h4, h5, hb5, h11, h12, hws, kindTo, hi0]
    · have : i = 8 := by omega
      subst this
      simp [h0, h2, hb2, h4, h5, hb5, h12, h13]
  rintro t ⟨h0, h2, hb2, h4, h5, hb5⟩
  rw [W_seq]
  refine W_join (fun t => t.e 0 = .str s ∧ t.e 2 = .ptr 2 0 ∧ t.bx 2 = some (eCmd cmd0).cells ∧ t.e 5 = .ptr 5 0 ∧ t.bx 5 = some (eCmd (cmdOf ps)).cells) ?_ ?_
  · generalize hk : kindTo ps[0] 8 = k at hb5
    have hco : cmdOf ps = if k = 1 ∧ ps.length = 8 then ⟨1, jobOf (ps.drop 1), 0, vec0⟩ else if k = 6 ∧ ps.length = 2 then ⟨6, job0, 0, vecAt ps 1⟩ else if ps.length = 2 then ⟨k, job0, numAt ps 1, vec0⟩ else ⟨k, job0, 0, vec0⟩ := by
      unfold cmdOf; rw [hps0, hk]
    by_cases hk1 : k = 1
    · subst hk1
      by_cases hl8 : ps.length = 8
      · obtain ⟨a, b, c, d, e, f, g, m, rfl⟩ := list8 hl8
        simp at hco
        simp [h0, h2, hb2, h4, h5, hb5]
        refine do_cq (spec_TextNum_ok b) (by simp [St.args]) ?_
        simp [h4, h5, hb5]
        refine do_cq (spec_TextNum_ok c) (by simp [St.args]) ?_
        simp [h4, h5]
        refine do_cq (spec_TextNum_ok d) (by simp [St.args]) ?_
        simp [h4, h5]
        refine do_cq (spec_TextVec_ok e (hpm e (by simp))) (by simp [St.args]) ?_
        simp [h4, h5]
        refine do_cq (spec_TextVec_ok f (hpm f (by simp))) (by simp [St.args]) ?_
        simp [h4, h5]
        refine do_cq (spec_TextNum_ok g) (by simp [St.args]) ?_
        simp [h4, h5]
        refine do_cq (spec_TextNum_ok m) (by simp [St.args]) ?_
        simp [h0, h2, hb2, h5]
        simp [hco, jobOf, numAt, vecAt]
      · have hl8' : ¬ (ps.length : Int) = 8 := by omega
        by_cases hl2 : ps.length = 2
        · obtain ⟨a, b, rfl⟩ := list2 hl2
          simp at hco
          simp [h0, h2, hb2, h4, h5, hb5]
          refine do_cq (spec_TextNum_ok b) (by simp [St.args]) ?_
          simp [h0, h2, hb2, h5, hb5]
          simp [hco, numAt]
        · have hl2' : ¬ (ps.length : Int) = 2 := by omega
          simp [hl8, hl2] at hco
          simp [h0, h2, hb2, h4, h5, hb5, hl8', hl2', hco]
    · by_cases hl2 : ps.length = 2
      · obtain ⟨a, b, rfl⟩ := list2 hl2
        by_cases hk6 : k = 6
        · subst hk6
          simp at hco
          simp [h0, h2, hb2, h4, h5, hb5]
          refine do_cq (spec_TextVec_ok b (hpm b (by simp))) (by simp [St.args]) ?_
          simp [h0, h2, hb2, h5, hb5]
          simp [hco, vecAt]
        · simp [hk1, hk6] at hco
          simp [h0, h2, hb2, h4, h5, hb5, hk1, hk6]
          refine do_cq (spec_TextNum_ok b) (by simp [St.args]) ?_
          simp [h0, h2, hb2, h5, hb5]
          simp [hco, numAt]
      · have hl2' : ¬ (ps.length : Int) = 2 := by omega
        simp [hk1, hl2] at hco
        by_cases hk6 : k = 6
        · simp [h0, h2, hb2, h4, h5, hb5, hk6, hl2', hco]
        · simp [h0, h2, hb2, h4, h5, hb5, hk1, hk6, hl2', hco]
  clear h0 h2 hb2 h4 h5 hb5 t
  rintro t ⟨h0, h2, hb2, h5, hb5⟩
  by_cases hse : s = []
  · subst hse
    have e : textCmd [] = (cmd0, false) := by rw [htc]; simp
    simp [h0, h2, hb2, h5, hb5, e, cmd0, job0, vec0]
  simp [h0, h5, hb5, hse]
  refine do_cq (spec_CmdText_ok (cmdOf ps)) (by simp [St.args]) ?_
  simp [h0]
  by_cases he : cmdText (cmdOf ps) = s
  · simp [h2, hb2, h5, hb5, htc, hse, he]
  · simp [h2, hb2, h5, hb5, htc, hse, he, cmd0, job0, vec0]
def textJob (s : Str) : Job × Bool := if (parts 32 s).length = 7 ∧ jobText (jobOf (parts 32 s)) = s then (jobOf (parts 32 s), true) else (job0, false)
theorem parts_submit (s : Str) : parts 32 (wSubmit ++ 32 :: s) = wSubmit :: parts 32 s := parts_cut s (by decide)
theorem textCmd_submit (s : Str) : textCmd (wSubmit ++ 32 :: s) = if (textJob s).2 = true then (⟨1, (textJob s).1, 0, vec0⟩, true) else (cmd0, false) := by
  have hk : kindTo ((wSubmit :: parts 32 s).getD 0 []) 8 = 1 := by show kindTo wSubmit 8 = 1; decide
  have hne := parts_ne 32 s
  unfold textCmd
  rw [parts_submit]
  have h0 : s = [] → (parts 32 s).length = 1 := by rintro rfl; rfl
  generalize hp : parts 32 s = ps at *
  have hbad : ∀ n, cmdText ⟨1, job0, n, vec0⟩ = [] := fun n => by simp [cmdText, cmdOk]; intro h; exact absurd h (by decide)
  unfold textJob
  rw [hp]
  by_cases hJ : ps.length = 7 ∧ jobText (jobOf ps) = s
  · obtain ⟨h7, hs⟩ := hJ
    have hc : cmdOf (wSubmit :: ps) = ⟨1, jobOf ps, 0, vec0⟩ := by unfold cmdOf; rw [if_pos ⟨hk, by simp [h7]⟩]; rfl
    have hj : jobOk (jobOf ps) = true := by
      cases hj : jobOk (jobOf ps)
      · have : s = [] := by rw [← hs]; unfold jobText; rw [hj]; rfl
        have := h0 this; omega
      · rfl
    have ht : cmdText (cmdOf (wSubmit :: ps)) = wSubmit ++ 32 :: s := by
      rw [hc, show vec0 = ⟨0, 0, 0⟩ from rfl, cmd_submit, if_pos hj, ← hs]
      unfold jobText; rw [if_pos hj]
    have hJ : (if ps.length = 7 ∧ jobText (jobOf ps) = s then (jobOf ps, true) else (job0, false)) = (jobOf ps, true) := if_pos ⟨h7, hs⟩
    rw [if_pos ⟨by simp, ht⟩, hJ, hc]; rfl
  · have hn : ¬ cmdText (cmdOf (wSubmit :: ps)) = wSubmit ++ 32 :: s := by
      intro q
      by_cases h7 : ps.length = 7
      · have hc : cmdOf (wSubmit :: ps) = ⟨1, jobOf ps, 0, vec0⟩ := by unfold cmdOf; rw [if_pos ⟨hk, by simp [h7]⟩]; rfl
        rw [hc, show vec0 = ⟨0, 0, 0⟩ from rfl, cmd_submit] at q
        split at q
        · rename_i hj
          exact hJ ⟨h7, by unfold jobText; rw [if_pos hj]; simpa using q⟩
        · simp [wSubmit] at q
      · have hc : ∃ n, cmdOf (wSubmit :: ps) = ⟨1, job0, n, vec0⟩ := by
          unfold cmdOf
          rw [hk, if_neg (fun q => h7 (by simpa using q.2)), if_neg (fun q => by simp at q)]
          split
          · exact ⟨_, rfl⟩
          · exact ⟨_, rfl⟩
        obtain ⟨n, hc⟩ := hc
        rw [hc, hbad n] at q
        simp [wSubmit] at q
    rw [if_neg (fun q => hn q.2), if_neg hJ]; rfl
def ir_spec_TextJob : L :=
  .seq (
  .reg [.al 2 [.int .i64 0, .int .i64 0, .int .i64 0, .int .i64 0, .int .i64 0, .int .i64 0, .int .i64 0, .int .i64 0, .int .i64 0, .int .i64 0, .int .i64 0],
    .mv 3 (.c (.bool false))]) (
  .seq (
  .reg [.mv 7 (.t 0),
    .sa 8 (.c (.str [115, 117, 98, 109, 105, 116, 32])) (.t 7),
    .cq 9 F.spec_TextCmd [(.t 8)],
    .mv 6 (.t 9),
    .ex 10 (.t 6) 0,
    .ex 11 (.t 6) 1,
    .al 4 [.int .i64 0, .int .i64 0, .int .i64 0, .int .i64 0, .int .i64 0, .int .i64 0, .int .i64 0, .int .i64 0, .int .i64 0, .int .i64 0, .int .i64 0, .int .i64 0, .int .i64 0, .int .i64 0, .int .i64 0, .int .i64 0],
    .st (.t 4) (.t 10) 16,
    .mv 5 (.t 11)]) (
  .seq (
  .seq (
  .reg [.mv 12 (.t 5),
    .un 13 (.t 12)]) (
  .cond (.t 13) (
    .seq (
    .reg [.bd 14 [.int .i64 0, .int .i64 0, .int .i64 0, .int .i64 0, .int .i64 0, .int .i64 0, .int .i64 0, .int .i64 0, .int .i64 0, .int .i64 0, .int .i64 0] [],
      .st (.t 2) (.t 14) 11,
      .mv 3 (.c (.bool false))]) (
    .ret)) (
    .skip))) (
  .seq (
  .reg [.fa 15 (.t 4) 1,
    .ld 16 (.t 15) 11 true,
    .st (.t 2) (.t 16) 11,
    .mv 3 (.c (.bool true))]) (
  .ret))))
def rs_spec_TextJob : List Rv := [.c 2 11 true, .t 3]
theorem ck_spec_TextJob : chkFn Try.prog F.spec_TextJob 1 ir_spec_TextJob rs_spec_TextJob = true := by kernel_rfl
set_option maxRecDepth 20000 in
theorem spec_TextJob_ok (s : Str) (hs : s.length ≤ 1048576) : Snd Try.prog F.spec_TextJob [.str s] (.tup [eJob (textJob s).1, .bool (textJob s).2]) [] := by
  refine snd_by ck_spec_TextJob rfl (by simp) (den_W ?_)
  unfold ir_spec_TextJob rs_spec_TextJob
  have h := spec_TextCmd_ok (wSubmit ++ 32 :: s) (by simp [wSubmit]; omega)
  have hj : (textJob s).2 = false → (textJob s).1 = job0 := by
    unfold textJob; split <;> simp
  rw [textCmd_submit] at h
  simp
  refine ⟨by omega, ?_⟩
  refine do_cq h (by simp [St.args, wSubmit]) ?_
  cases ht : (textJob s).2
  · simp [hj ht, job0]
  · simp
def ir_impl_textJob : L :=
  .seq (
  .reg [.al 2 [.int .i64 0, .int .i64 0, .int .i64 0, .int .i64 0, .int .i64 0, .int .i64 0, .int .i64 0, .int .i64 0, .int .i64 0, .int .i64 0, .int .i64 0]]) (
  .seq (
  .reg [.bd 4 [.int .i64 0, .int .i64 0, .int .i64 0, .int .i64 0, .int .i64 0, .int .i64 0, .int .i64 0, .int .i64 0, .int .i64 0, .int .i64 0, .int .i64 0] [],
    .al 3 [.int .i64 0, .int .i64 0, .int .i64 0, .int .i64 0, .int .i64 0, .int .i64 0, .int .i64 0, .int .i64 0, .int .i64 0, .int .i64 0, .int .i64 0],
    .st (.t 3) (.t 4) 11]) (
  .seq (
  .reg [.mv 6 (.t 0),
    .ia 7 (.t 6) (.c (.int .i64 0)) 1,
    .ld 8 (.t 7) 1 false,
    .cq 9 F.impl_TextNum [(.t 8)],
    .mv 5 (.t 9),
    .ex 10 (.t 5) 0,
    .ex 11 (.t 5) 1,
    .fa 12 (.t 3) 0,
    .st (.t 12) (.t 10) 1]) (
  .seq (
  .reg [.mv 14 (.t 0),
    .ia 15 (.t 14) (.c (.int .i64 1)) 1,
    .ld 16 (.t 15) 1 false,
    .cq 17 F.impl_TextNum [(.t 16)],
    .mv 13 (.t 17),
    .ex 18 (.t 13) 0,
    .ex 19 (.t 13) 1,
    .fa 20 (.t 3) 1,
    .st (.t 20) (.t 18) 1]) (
  .seq (
  .reg [.mv 22 (.t 0),
    .ia 23 (.t 22) (.c (.int .i64 2)) 1,
    .ld 24 (.t 23) 1 false,
    .cq 25 F.impl_TextNum [(.t 24)],
    .mv 21 (.t 25),
    .ex 26 (.t 21) 0,
    .ex 27 (.t 21) 1,
    .fa 28 (.t 3) 2,
    .st (.t 28) (.t 26) 1]) (
  .seq (
  .reg [.mv 30 (.t 0),
    .ia 31 (.t 30) (.c (.int .i64 3)) 1,
    .ld 32 (.t 31) 1 false,
    .cq 33 F.impl_TextVec [(.t 32)],
    .mv 29 (.t 33),
    .ex 34 (.t 29) 0,
    .ex 35 (.t 29) 1,
    .fa 36 (.t 3) 3,
    .st (.t 36) (.t 34) 3]) (
  .seq (
  .reg [.mv 38 (.t 0),
    .ia 39 (.t 38) (.c (.int .i64 4)) 1,
    .ld 40 (.t 39) 1 false,
    .cq 41 F.impl_TextVec [(.t 40)],
    .mv 37 (.t 41),
    .ex 42 (.t 37) 0,
    .ex 43 (.t 37) 1,
    .fa 44 (.t 3) 6,
    .st (.t 44) (.t 42) 3]) (
  .seq (
  .reg [.mv 46 (.t 0),
    .ia 47 (.t 46) (.c (.int .i64 5)) 1,
    .ld 48 (.t 47) 1 false,
    .cq 49 F.impl_TextNum [(.t 48)],
    .mv 45 (.t 49),
    .ex 50 (.t 45) 0,
    .ex 51 (.t 45) 1,
    .fa 52 (.t 3) 9,
    .st (.t 52) (.t 50) 1]) (
  .seq (
  .reg [.mv 54 (.t 0),
    .ia 55 (.t 54) (.c (.int .i64 6)) 1,
    .ld 56 (.t 55) 1 false,
    .cq 57 F.impl_TextNum [(.t 56)],
    .mv 53 (.t 57),
    .ex 58 (.t 53) 0,
    .ex 59 (.t 53) 1,
    .fa 60 (.t 3) 10,
    .st (.t 60) (.t 58) 1]) (
  .seq (
  .reg [.ld 61 (.t 3) 11 true,
    .st (.t 2) (.t 61) 11]) (
  .ret))))))))))
def rs_impl_textJob : List Rv := [.c 2 11 true]
theorem ck_impl_textJob : chkFn Try.prog F.impl_textJob 1 ir_impl_textJob rs_impl_textJob = true := by kernel_rfl
set_option maxRecDepth 20000 in
theorem impl_textJob_ok (ps : List Str) (h : 7 ≤ ps.length) (hl : ∀ p ∈ ps, p.length ≤ 1073741824) : Snd Try.prog F.impl_textJob [.sl .rd 1 (ps.map eS)] (eJob (jobOf ps)) [] := by
  refine snd_by ck_impl_textJob rfl (by simp) (den_W ?_)
  unfold ir_impl_textJob rs_impl_textJob
  have e : ∀ i (h : i < ps.length), ps.getD i [] = ps[i] := fun i h => by simp [h]
  have b : ∀ i (h : i < ps.length), (ps[i]).length ≤ 1073741824 := fun i h => hl _ (List.getElem_mem h)
  have h0 : 0 < ps.length := by omega
  have h1 : 1 < ps.length := by omega
  have h2 : 2 < ps.length := by omega
  have h3 : 3 < ps.length := by omega
  have h4 : 4 < ps.length := by omega
  have h5 : 5 < ps.length := by omega
  have h6 : 6 < ps.length := by omega
  simp [h0]
  refine do_cq (impl_TextNum_ok ps[0]) (by simp [St.args]) ?_
  simp [h1]
  refine do_cq (impl_TextNum_ok ps[1]) (by simp [St.args]) ?_
  simp [h2]
  refine do_cq (impl_TextNum_ok ps[2]) (by simp [St.args]) ?_
  simp [h3]
  refine do_cq (impl_TextVec_ok ps[3] (b 3 h3)) (by simp [St.args]) ?_
  simp [h4]
  refine do_cq (impl_TextVec_ok ps[4] (b 4 h4)) (by simp [St.args]) ?_
  simp [h5]
  refine do_cq (impl_TextNum_ok ps[5]) (by simp [St.args]) ?_
  simp [h6]
  refine do_cq (impl_TextNum_ok ps[6]) (by simp [St.args]) ?_
  simp [jobOf, numAt, vecAt, h0, h1, h2, h3, h4, h5, h6]
def ir_impl_TextJob : L :=
  .seq (
  .reg [.al 2 [.int .i64 0, .int .i64 0, .int .i64 0, .int .i64 0, .int .i64 0, .int .i64 0, .int .i64 0, .int .i64 0, .int .i64 0, .int .i64 0, .int .i64 0],
    .mv 3 (.c (.bool false))]) (
  .seq (
  .reg [.mv 6 (.t 0),
    .cq 7 F.impl_Parts [(.t 6), (.c (.int .u8 32))],
    .mv 4 (.t 7)]) (
  .seq (
  .seq (
  .reg [.mv 8 (.t 4),
    .ln 9 (.t 8),
    .bi 10 .neq (.t 9) (.c (.int .i64 7))]) (
  .cond (.t 10) (
    .seq (
    .reg [.bd 11 [.int .i64 0, .int .i64 0, .int .i64 0, .int .i64 0, .int .i64 0, .int .i64 0, .int .i64 0, .int .i64 0, .int .i64 0, .int .i64 0, .int .i64 0] [],
      .st (.t 2) (.t 11) 11,
      .mv 3 (.c (.bool false))]) (
    .ret)) (
    .skip))) (
  .seq (
  .reg [.mv 12 (.t 4),
    .cq 13 F.impl_textJob [(.t 12)],
    .al 5 [.int .i64 0, .int .i64 0, .int .i64 0, .int .i64 0, .int .i64 0, .int .i64 0, .int .i64 0, .int .i64 0, .int .i64 0, .int .i64 0, .int .i64 0],
    .st (.t 5) (.t 13) 11]) (
  .seq (
  .seq (
  .reg [.ld 14 (.t 5) 11 true,
    .cq 15 F.impl_JobText [(.t 14)],
    .mv 16 (.t 0),
    .bi 17 .neq (.t 15) (.t 16)]) (
  .cond (.t 17) (
    .seq (
    .reg [.bd 18 [.int .i64 0, .int .i64 0, .int .i64 0, .int .i64 0, .int .i64 0, .int .i64 0, .int .i64 0, .int .i64 0, .int .i64 0, .int .i64 0, .int .i64 0] [],
      .st (.t 2) (.t 18) 11,
      .mv 3 (.c (.bool false))]) (
    .ret)) (
    .skip))) (
  .seq (
  .reg [.ld 19 (.t 5) 11 true,
    .st (.t 2) (.t 19) 11,
    .mv 3 (.c (.bool true))]) (
  .ret))))))
def rs_impl_TextJob : List Rv := [.c 2 11 true, .t 3]
theorem ck_impl_TextJob : chkFn Try.prog F.impl_TextJob 1 ir_impl_TextJob rs_impl_TextJob = true := by kernel_rfl
theorem impl_TextJob_ok (s : Str) (hs : s.length ≤ 1048576) : Snd Try.prog F.impl_TextJob [.str s] (.tup [eJob (textJob s).1, .bool (textJob s).2]) [] := by
  refine snd_by ck_impl_TextJob rfl (by simp) (den_W ?_)
  unfold ir_impl_TextJob rs_impl_TextJob
  simp
  refine do_cq (impl_Parts_ok s 32 (by omega)) (by simp [St.args]) ?_
  simp
  intro _
  have hpm : ∀ p ∈ parts 32 s, p.length ≤ 1073741824 := fun p hp => by have := parts_mem hp; omega
  have hj : textJob s = if (parts 32 s).length = 7 ∧ jobText (jobOf (parts 32 s)) = s then (jobOf (parts 32 s), true) else (job0, false) := rfl
  generalize parts 32 s = ps at *
  by_cases h7 : ps.length = 7
  rotate_left
  · have h7' : ¬ (ps.length : Int) = 7 := by omega
    simp [h7', hj, h7, job0]
  simp [h7]
  refine do_cq (impl_textJob_ok ps (by omega) hpm) (by simp [St.args]) ?_
  simp
  refine do_cq (impl_JobText_ok (jobOf ps)) (by simp [St.args]) ?_
  by_cases he : jobText (jobOf ps) = s
  · simp [hj, h7, he]
  · simp [hj, h7, he, job0]
def ir_laws_FnExactTextJob : L :=
  .seq (
  .reg [.mv 2 (.c (.bool false))]) (
  .seq (
  .seq (
  .reg [.mv 7 (.t 0),
    .ls 8 (.t 7),
    .bi 9 .gtr (.t 8) (.c (.int .i64 1048576))]) (
  .cond (.t 9) (
    .seq (
    .reg [.mv 2 (.c (.bool true))]) (
    .ret)) (
    .skip))) (
  .seq (
  .reg [.mv 11 (.t 0),
    .cq 12 F.spec_TextJob [(.t 11)],
    .mv 10 (.t 12),
    .ex 13 (.t 10) 0,
    .ex 14 (.t 10) 1,
    .al 3 [.int .i64 0, .int .i64 0, .int .i64 0, .int .i64 0, .int .i64 0, .int .i64 0, .int .i64 0, .int .i64 0, .int .i64 0, .int .i64 0, .int .i64 0],
    .st (.t 3) (.t 13) 11,
    .mv 4 (.t 14)]) (
  .seq (
  .reg [.mv 16 (.t 0),
    .cq 17 F.impl_TextJob [(.t 16)],
    .mv 15 (.t 17),
    .ex 18 (.t 15) 0,
    .ex 19 (.t 15) 1,
    .al 5 [.int .i64 0, .int .i64 0, .int .i64 0, .int .i64 0, .int .i64 0, .int .i64 0, .int .i64 0, .int .i64 0, .int .i64 0, .int .i64 0, .int .i64 0],
    .st (.t 5) (.t 18) 11,
    .mv 6 (.t 19)]) (
  .seq (
  .seq (
  .reg [.ld 20 (.t 5) 11 true,
    .ld 21 (.t 3) 11 true,
    .cq 22 F.laws_eqJob [(.t 20), (.t 21)],
    .un 23 (.t 22),
    .mv 24 (.t 23),
    .g 24 false (.mv 25 (.t 6)),
    .g 24 false (.mv 26 (.t 4)),
    .g 24 false (.eb 27 true (.t 25) (.t 26)),
    .pk 28 (.t 24) (.c (.bool true)) (.t 27)]) (
  .cond (.t 28) (
    .seq (
    .reg [.mv 2 (.c (.bool false))]) (
    .ret)) (
    .skip))) (
  .seq (
  .reg [.mv 2 (.c (.bool true))]) (
  .ret))))))
def rs_laws_FnExactTextJob : List Rv := [.t 2]
theorem ck_laws_FnExactTextJob : chkFn Try.prog F.laws_FnExactTextJob 1 ir_laws_FnExactTextJob rs_laws_FnExactTextJob = true := by kernel_rfl
set_option maxRecDepth 10000 in
theorem FnExactTextJob_c (s : Str) : Snd Try.prog F.laws_FnExactTextJob [.str s] (.bool true) [] := by
  refine snd_by ck_laws_FnExactTextJob rfl (by simp) (den_W ?_)
  unfold ir_laws_FnExactTextJob rs_laws_FnExactTextJob
  simp
  intro hs
  have hs : s.length ≤ 1048576 := by omega
  refine do_cq (spec_TextJob_ok s hs) (by simp [St.args]) ?_
  simp
  refine do_cq (impl_TextJob_ok s hs) (by simp [St.args]) ?_
  simp
  refine do_cq (eqJob_ok ((textJob s).1) ((textJob s).1)) (by simp [St.args]) ?_
  simp
theorem FnExactTextJob_ok (xs : List AV) (h : okVs [.str] xs) : Snd Try.prog F.laws_FnExactTextJob xs (.bool true) [] := by
  obtain ⟨b, _, rfl, ⟨s, hb, _⟩, rfl⟩ := h
  obtain rfl := (List.cons.inj hb).1
  exact FnExactTextJob_c s
end Go.Proofs.Ythbbieobcokgbaa
