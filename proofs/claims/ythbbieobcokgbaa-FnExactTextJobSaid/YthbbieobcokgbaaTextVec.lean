/-
  TextVec, of the specification and of the program.
-/
import Derived.Test.YthbbieobcokgbaaTextAsk
import Derived.Test.YthbbieobcokgbaaCmds
namespace Go.Proofs.Ythbbieobcokgbaa
open Go Go.RowKit Eng
theorem list3 {α : Type} : ∀ {l : List α}, l.length = 3 → ∃ a b c, l = [a, b, c]
  | [a, b, c], _ => ⟨a, b, c, rfl⟩
def numAt (ps : List Str) (i : Nat) : Int := (textNum (ps.getD i [])).1
def vec0 : Vec := ⟨0, 0, 0⟩
def vecOf (ps : List Str) : Vec := ⟨numAt ps 0, numAt ps 1, numAt ps 2⟩
def textVec (s : Str) : Vec × Bool := if vecText (vecOf (parts 47 s)) = s then (vecOf (parts 47 s), true) else (vec0, false)
def textVecI (s : Str) : Vec × Bool := match parts 47 s with
  | [a, b, c] => if (textNum a).2 = true ∧ (textNum b).2 = true ∧ (textNum c).2 = true ∧ vecOk ⟨(textNum a).1, (textNum b).1, (textNum c).1⟩ = true then (⟨(textNum a).1, (textNum b).1, (textNum c).1⟩, true) else (vec0, false)
  | _ => (vec0, false)
theorem textNum_nil : textNum [] = (0, false) := rfl
theorem textNum_ok {w : Str} {n : Int} (h : textNum w = (n, true)) : numText n = w ∧ time n = true := by
  unfold textNum at h
  split at h
  · rename_i hc
    simp only [Prod.mk.injEq, and_true] at h
    subst h
    refine ⟨hc.2.2.2, ?_⟩
    cases ht : time (spell w)
    · have := hc.2.2.2
      unfold numText at this
      rw [if_neg (by rw [ht]; simp)] at this
      have h1 := hc.1
      rw [← this] at h1
      simp at h1
    · rfl
  · cases h
theorem parts_joinB {b : UInt8} {x y z : Str} (hx : ∀ c ∈ x, c ≠ b) (hy : ∀ c ∈ y, c ≠ b) (hz : ∀ c ∈ z, c ≠ b) : parts b (x ++ b :: (y ++ b :: z)) = [x, y, z] := by
  rw [parts_cut _ hx, parts_cut _ hy, parts_none hz]
theorem parts_back {b : UInt8} : ∀ {s : Str} {x y z : Str}, parts b s = [x, y, z] → s = x ++ b :: (y ++ b :: z) := by
  have one : ∀ {s x : Str}, parts b s = [x] → s = x := by
    intro s
    induction s with
    | nil => intro x h; simp [parts] at h; first | exact h | exact h.symm
    | cons c s ih =>
      intro x h
      rw [parts] at h
      split at h
      · have := parts_ne b s; simp at h; exact absurd h.2 this
      · split at h
        · rename_i p ps e
          simp at h
          obtain ⟨rfl, rfl⟩ := h
          rw [ih e]
        · rename_i e; exact absurd e (parts_ne b s)
  have more : ∀ {s x : Str} {l : List Str}, l ≠ [] → parts b s = x :: l → ∃ q, s = x ++ b :: q ∧ parts b q = l := by
    intro s
    induction s with
    | nil => intro x l hl h; simp [parts] at h; first | exact absurd h.2 hl | exact absurd h.2.symm hl | exact absurd h.2 (Ne.symm hl)
    | cons c s ih =>
      intro x l hl h
      rw [parts] at h
      split at h
      · rename_i hc
        simp at h
        exact ⟨s, by rw [hc, h.1]; rfl, h.2⟩
      · split at h
        · rename_i p ps e
          simp at h
          obtain ⟨rfl, rfl⟩ := h
          obtain ⟨q, h1, h2⟩ := ih hl e
          exact ⟨q, by rw [h1]; rfl, h2⟩
        · rename_i e; exact absurd e (parts_ne b s)
  intro s x y z h
  obtain ⟨q, h1, h2⟩ := more (by simp) h
  obtain ⟨r, h3, h4⟩ := more (by simp) h2
  rw [h1, h3, one h4]
theorem numText_no {b : UInt8} (hb : isDig b = false) (n : Int) : ∀ c ∈ numText n, c ≠ b := by
  intro c hc
  have := List.all_eq_true.1 (numText_all n) c hc
  rintro rfl
  rw [hb] at this; cases this
theorem vecText_eq {v : Vec} (h : vecOk v = true) : vecText v = numText v.a ++ 47 :: (numText v.b ++ 47 :: numText v.c) := by
  unfold vecText; rw [if_pos h]
theorem vecText_no {v : Vec} (h : vecOk v = false) : vecText v = [] := by
  unfold vecText; rw [if_neg (by rw [h]; simp)]
theorem vecOk_time {v : Vec} (h : vecOk v = true) : time v.a = true ∧ time v.b = true ∧ time v.c = true := by
  simp [vecOk, res] at h
  simp [time]; omega
theorem textVec_back {v : Vec} (h : vecOk v = true) : vecOf (parts 47 (vecText v)) = v ∧ parts 47 (vecText v) = [numText v.a, numText v.b, numText v.c] := by
  have e : parts 47 (vecText v) = [numText v.a, numText v.b, numText v.c] := by
    rw [vecText_eq h, parts_joinB (numText_no (by decide) _) (numText_no (by decide) _) (numText_no (by decide) _)]
  obtain ⟨h1, h2, h3⟩ := vecOk_time h
  rw [e]
  refine ⟨?_, rfl⟩
  simp [vecOf, numAt, textNum_numText h1, textNum_numText h2, textNum_numText h3]
theorem textVec_eq (s : Str) : textVecI s = textVec s := by
  unfold textVecI textVec
  by_cases h : vecText (vecOf (parts 47 s)) = s
  · rw [if_pos h]
    generalize hv : vecOf (parts 47 s) = v at h
    cases ho : vecOk v
    · rw [vecText_no ho] at h
      subst h
      have : vecOk (vecOf (parts 47 [])) = true := by decide
      rw [hv, ho] at this; cases this
    · obtain ⟨_, h2⟩ := textVec_back ho
      obtain ⟨t1, t2, t3⟩ := vecOk_time ho
      rw [h] at h2
      rw [h2]
      simp [textNum_numText t1, textNum_numText t2, textNum_numText t3, ho]
  · rw [if_neg h]
    split
    · rename_i a b c e
      rw [if_neg]
      rintro ⟨h1, h2, h3, h4⟩
      apply h
      obtain ⟨n1, _⟩ := textNum_ok (w := a) (n := (textNum a).1) (by rw [← h1])
      obtain ⟨n2, _⟩ := textNum_ok (w := b) (n := (textNum b).1) (by rw [← h2])
      obtain ⟨n3, _⟩ := textNum_ok (w := c) (n := (textNum c).1) (by rw [← h3])
      rw [e]
      have : vecOf [a, b, c] = ⟨(textNum a).1, (textNum b).1, (textNum c).1⟩ := rfl
      rw [this, vecText_eq h4]
      simp only [n1, n2, n3]
      exact (parts_back e).symm
    · rfl
def ir_spec_TextVec : L :=
  .seq (
  .reg [.al 2 [.int .i64 0, .int .i64 0, .int .i64 0],
    .mv 3 (.c (.bool false))]) (
  .seq (
  .reg [.bs 8 1 [(.c (.int .i64 0)), (.c (.int .i64 0)), (.c (.int .i64 0))] true,
    .mv 4 (.t 8)]) (
  .seq (
  .seq (
  .reg [.mv 9 (.t 0),
    .cq 10 F.spec_Parts [(.t 9), (.c (.int .u8 47))],
    .ln 11 (.t 10),
    .mv 12 (.c (.int .i64 0))]) (
  .blk 0 (
    .loop (
      .seq (
      .reg [.bi 13 .lss (.t 12) (.t 11)]) (
      .seq (
      .cond (.t 13) (
        .skip) (
        .exit 0)) (
      .seq (
      .blk 1 (
        .seq (
        .reg [.mv 14 (.t 12),
          .ia 15 (.t 10) (.t 12) 1,
          .ld 16 (.t 15) 1 false,
          .mv 5 (.t 14),
          .mv 6 (.t 16)]) (
        .seq (
        .reg [.mv 17 (.t 5),
          .bi 18 .lss (.t 17) (.c (.int .i64 3))]) (
        .cond (.t 18) (
          .reg [.mv 20 (.t 4),
            .mv 21 (.t 5),
            .mv 22 (.t 6),
            .cq 23 F.spec_TextNum [(.t 22)],
            .mv 19 (.t 23),
            .ex 24 (.t 19) 0,
            .ex 25 (.t 19) 1,
            .ia 26 (.t 20) (.t 21) 1,
            .st (.t 26) (.t 24) 1]) (
          .skip))))) (
      .reg [.bi 27 .add (.t 12) (.c (.int .i64 1)),
        .mv 12 (.t 27)]))))))) (
  .seq (
  .rq 11 [.mv 28 (.t 4),
    .ia 29 (.t 28) (.c (.int .i64 0)) 1,
    .ld 30 (.t 29) 1 false,
    .mv 31 (.t 4),
    .ia 32 (.t 31) (.c (.int .i64 1)) 1,
    .ld 33 (.t 32) 1 false,
    .mv 34 (.t 4),
    .ia 35 (.t 34) (.c (.int .i64 2)) 1,
    .ld 36 (.t 35) 1 false,
    .bd 37 [.int .i64 0, .int .i64 0, .int .i64 0] [(0, 1, (.t 30)), (1, 1, (.t 33)), (2, 1, (.t 36))],
    .al 7 [.int .i64 0, .int .i64 0, .int .i64 0],
    .st (.t 7) (.t 37) 3]) (
  .seq (
  .seq (
  .reg [.ld 38 (.t 7) 3 true,
    .cq 39 F.spec_VecText [(.t 38)],
    .mv 40 (.t 0),
    .bi 41 .neq (.t 39) (.t 40)]) (
  .cond (.t 41) (
    .seq (
    .reg [.bd 42 [.int .i64 0, .int .i64 0, .int .i64 0] [],
      .st (.t 2) (.t 42) 3,
      .mv 3 (.c (.bool false))]) (
    .ret)) (
    .skip))) (
  .seq (
  .reg [.ld 43 (.t 7) 3 true,
    .st (.t 2) (.t 43) 3,
    .mv 3 (.c (.bool true))]) (
  .ret))))))
def rs_spec_TextVec : List Rv := [.c 2 3 true, .t 3]
theorem ck_spec_TextVec : chkFn Try.prog F.spec_TextVec 1 ir_spec_TextVec rs_spec_TextVec = true := by kernel_rfl
set_option maxRecDepth 10000 in
theorem spec_TextVec_ok (s : Str) (hs : s.length ≤ 1073741824) : Snd Try.prog F.spec_TextVec [.str s] (.tup [eVec (textVec s).1, .bool (textVec s).2]) [] := by
  refine snd_by ck_spec_TextVec rfl (by simp) (den_W ?_)
  unfold ir_spec_TextVec rs_spec_TextVec
  simp
  refine do_cq (spec_Parts_ok s 47 hs) (by simp [St.args]) ?_
  simp
  intro hpl
  have htv : textVec s = if vecText (vecOf (parts 47 s)) = s then (vecOf (parts 47 s), true) else (vec0, false) := rfl
  generalize parts 47 s = ps at hpl htv
  have hnum : ∀ i (h : i < ps.length), numAt ps i = (textNum ps[i]).1 := fun i h => by simp [numAt, h]
  have hno : ∀ i, ps.length ≤ i → numAt ps i = 0 := fun i h => by simp [numAt, h, textNum_nil]
  refine W_rng ps.length (fun i t => ∃ a b c, a = (if 0 < i then numAt ps 0 else 0) ∧ b = (if 1 < i then numAt ps 1 else 0) ∧ c = (if 2 < i then numAt ps 2 else 0) ∧ t.e 0 = .str s ∧ t.e 2 = .ptr 2 0 ∧ t.bx 2 = some [.int .i64 0, .int .i64 0, .int .i64 0] ∧
    t.e 4 = .sref 8 ∧ t.rw 8 = some ⟨1, [.int .i64 a, .int .i64 b, .int .i64 c], false⟩ ∧ t.e 10 = .sl .nw 1 (ps.map eS) ∧ t.e 11 = .int .i64 ps.length ∧ t.e 12 = .int .i64 (i : Nat)) ?_ ?_
  · exact ⟨0, 0, 0, by simp⟩
  rintro i t hi ⟨a, b, c, ha, hb, hc, h0, h2, hbx, h4, hr, h10, h11, h12⟩
  by_cases h : i < ps.length
  · have hws := wrap_succ h hpl
    by_cases h3 : i < 3
    · have h3' : (i : Int) < 3 := by omega
      simp [h4, hr, h10, h11, h12, h, h3']
      refine do_cq (spec_TextNum_ok ps[i]) (by simp [St.args]) ?_
      have hcase : i = 0 ∨ i = 1 ∨ i = 2 := by omega
      rcases hcase with rfl | rfl | rfl
      · simp [hr, h12]
        refine rng_next h ⟨(textNum ps[0]).1, b, c, by simp [hnum 0 h], by simpa using hb, by simpa using hc, ?_⟩
        simp [h0, h2, hbx, h4, h10, h11]
        simpa using hws
      · simp [hr, h12]
        refine rng_next h ⟨a, (textNum ps[1]).1, c, by simpa using ha, by simp [hnum 1 h], by simpa using hc, ?_⟩
        simp [h0, h2, hbx, h4, h10, h11]
        simpa using hws
      · simp [hr, h12]
        refine rng_next h ⟨a, b, (textNum ps[2]).1, by simpa using ha, by simpa using hb, by simp [hnum 2 h], ?_⟩
        simp [h0, h2, hbx, h4, h10, h11]
        simpa using hws
    · have h3' : ¬ (i : Int) < 3 := by omega
      simp [h4, hr, h10, h11, h12, h, h3']
      refine rng_next h ⟨a, b, c, by rw [ha, if_pos (by omega), if_pos (by omega)], by rw [hb, if_pos (by omega), if_pos (by omega)], by rw [hc, if_pos (by omega), if_pos (by omega)], ?_⟩
      simp [h0, h2, hbx, h4, hr, h10, h11, hws]
  · have : i = ps.length := by omega
    subst this
    have ea : a = numAt ps 0 := by rw [ha]; split; rfl; rw [hno _ (by omega)]
    have eb : b = numAt ps 1 := by rw [hb]; split; rfl; rw [hno _ (by omega)]
    have ec : c = numAt ps 2 := by rw [hc]; split; rfl; rw [hno _ (by omega)]
    simp [h4, hr, h10, h11, h12]
    have hv : vecOf ps = ⟨a, b, c⟩ := by rw [ea, eb, ec]; rfl
    refine do_cq (spec_VecText_ok ⟨a, b, c⟩) (by simp [St.args]) ?_
    simp [h0, h2, hbx]
    by_cases he : vecText ⟨a, b, c⟩ = s
    · simp [he, htv, hv]
    · simp [he, htv, hv, vec0]
def ir_impl_TextVec : L :=
  .seq (
  .reg [.al 2 [.int .i64 0, .int .i64 0, .int .i64 0],
    .mv 3 (.c (.bool false))]) (
  .seq (
  .reg [.mv 12 (.t 0),
    .cq 13 F.impl_Parts [(.t 12), (.c (.int .u8 47))],
    .mv 4 (.t 13)]) (
  .seq (
  .seq (
  .reg [.mv 14 (.t 4),
    .ln 15 (.t 14),
    .bi 16 .neq (.t 15) (.c (.int .i64 3))]) (
  .cond (.t 16) (
    .seq (
    .reg [.bd 17 [.int .i64 0, .int .i64 0, .int .i64 0] [],
      .st (.t 2) (.t 17) 3,
      .mv 3 (.c (.bool false))]) (
    .ret)) (
    .skip))) (
  .seq (
  .reg [.mv 19 (.t 4),
    .ia 20 (.t 19) (.c (.int .i64 0)) 1,
    .ld 21 (.t 20) 1 false,
    .cq 22 F.impl_TextNum [(.t 21)],
    .mv 18 (.t 22),
    .ex 23 (.t 18) 0,
    .ex 24 (.t 18) 1,
    .mv 5 (.t 23),
    .mv 6 (.t 24)]) (
  .seq (
  .reg [.mv 26 (.t 4),
    .ia 27 (.t 26) (.c (.int .i64 1)) 1,
    .ld 28 (.t 27) 1 false,
    .cq 29 F.impl_TextNum [(.t 28)],
    .mv 25 (.t 29),
    .ex 30 (.t 25) 0,
    .ex 31 (.t 25) 1,
    .mv 7 (.t 30),
    .mv 8 (.t 31)]) (
  .seq (
  .reg [.mv 33 (.t 4),
    .ia 34 (.t 33) (.c (.int .i64 2)) 1,
    .ld 35 (.t 34) 1 false,
    .cq 36 F.impl_TextNum [(.t 35)],
    .mv 32 (.t 36),
    .ex 37 (.t 32) 0,
    .ex 38 (.t 32) 1,
    .mv 9 (.t 37),
    .mv 10 (.t 38)]) (
  .seq (
  .reg [.mv 39 (.t 5),
    .mv 40 (.t 7),
    .mv 41 (.t 9),
    .bd 42 [.int .i64 0, .int .i64 0, .int .i64 0] [(0, 1, (.t 39)), (1, 1, (.t 40)), (2, 1, (.t 41))],
    .al 11 [.int .i64 0, .int .i64 0, .int .i64 0],
    .st (.t 11) (.t 42) 3]) (
  .seq (
  .seq (
  .reg [.mv 43 (.t 6),
    .un 44 (.t 43),
    .mv 45 (.t 44),
    .g 45 false (.mv 46 (.t 8)),
    .g 45 false (.un 47 (.t 46)),
    .pk 48 (.t 45) (.c (.bool true)) (.t 47),
    .mv 49 (.t 48),
    .g 49 false (.mv 50 (.t 10)),
    .g 49 false (.un 51 (.t 50)),
    .pk 52 (.t 49) (.c (.bool true)) (.t 51),
    .mv 53 (.t 52),
    .g 53 false (.ld 54 (.t 11) 3 true),
    .g 53 false (.cq 55 F.impl_VecOk [(.t 54)]),
    .g 53 false (.un 56 (.t 55)),
    .pk 57 (.t 53) (.c (.bool true)) (.t 56)]) (
  .cond (.t 57) (
    .seq (
    .reg [.bd 58 [.int .i64 0, .int .i64 0, .int .i64 0] [],
      .st (.t 2) (.t 58) 3,
      .mv 3 (.c (.bool false))]) (
    .ret)) (
    .skip))) (
  .seq (
  .reg [.ld 59 (.t 11) 3 true,
    .st (.t 2) (.t 59) 3,
    .mv 3 (.c (.bool true))]) (
  .ret)))))))))
def rs_impl_TextVec : List Rv := [.c 2 3 true, .t 3]
theorem ck_impl_TextVec : chkFn Try.prog F.impl_TextVec 1 ir_impl_TextVec rs_impl_TextVec = true := by kernel_rfl
set_option maxRecDepth 10000 in
theorem impl_TextVec_ok (s : Str) (hs : s.length ≤ 1073741824) : Snd Try.prog F.impl_TextVec [.str s] (.tup [eVec (textVec s).1, .bool (textVec s).2]) [] := by
  refine snd_by ck_impl_TextVec rfl (by simp) (den_W ?_)
  unfold ir_impl_TextVec rs_impl_TextVec
  rw [← textVec_eq]
  simp
  refine do_cq (impl_Parts_ok s 47 hs) (by simp [St.args]) ?_
  simp
  intro hpl
  by_cases h3 : (parts 47 s).length = 3
  rotate_left
  · have h3' : ¬ ((parts 47 s).length : Int) = 3 := by omega
    have e : textVecI s = (vec0, false) := by
      unfold textVecI
      split
      · rename_i e; rw [e] at h3; simp at h3
      · rfl
    simp [h3', e, vec0]
  obtain ⟨a, b, c, e⟩ := list3 h3
  have hv : textVecI s = if (textNum a).2 = true ∧ (textNum b).2 = true ∧ (textNum c).2 = true ∧ vecOk ⟨(textNum a).1, (textNum b).1, (textNum c).1⟩ = true then (⟨(textNum a).1, (textNum b).1, (textNum c).1⟩, true) else (vec0, false) := by
    unfold textVecI; rw [e]
  simp [e]
  refine do_cq (impl_TextNum_ok a) (by simp [St.args]) ?_
  simp
  refine do_cq (impl_TextNum_ok b) (by simp [St.args]) ?_
  simp
  refine do_cq (impl_TextNum_ok c) (by simp [St.args]) ?_
  simp
  cases h1 : (textNum a).2
  · simp [hv, h1, vec0]
  cases h2 : (textNum b).2
  · simp [hv, h2, vec0]
  cases h4 : (textNum c).2
  · simp [hv, h4, vec0]
  simp
  refine do_cq (impl_VecOk_ok ⟨(textNum a).1, (textNum b).1, (textNum c).1⟩) (by simp [St.args]) ?_
  cases h5 : vecOk ⟨(textNum a).1, (textNum b).1, (textNum c).1⟩
  · simp [hv, h5, vec0]
  · simp [hv, h1, h2, h4, h5]
end Go.Proofs.Ythbbieobcokgbaa
