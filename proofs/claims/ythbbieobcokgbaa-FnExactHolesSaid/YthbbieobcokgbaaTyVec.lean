/-
  The law's helpers, printed by a program of mine (tygen.py).
-/
import Derived.Test.YthbbieobcokgbaaBase
namespace Go.Proofs.Ythbbieobcokgbaa
open Go Go.RowKit Eng
structure Vec where
  a : Int
  b : Int
  c : Int
  deriving DecidableEq
@[simp] def eVec (x : Vec) : AV := .agg [.int .i64 x.a, .int .i64 x.b, .int .i64 x.c]
@[simp] theorem rdt_VecS (l : List Vec) : rdtL (l.map eVec) = l.map eVec := rdtL_enc _ (fun _ => rfl) l
@[simp] theorem nw_VecS (l : List Vec) : NwL (l.map eVec) := NwL_enc _ (fun _ => by simp) l
def tyVec : Ty := .st [.int .i64, .int .i64, .int .i64]
theorem Vec_of {x : AV} (h : tyVec.okV x) : ∃ y, x = eVec y := by
  obtain ⟨cs, rfl, h⟩ := h
  simp only [Ty.ok, okL] at h
  obtain ⟨_, _, rfl, ⟨x_a, rfl, _⟩, ⟨_, _, rfl, ⟨x_b, rfl, _⟩, ⟨_, _, rfl, ⟨x_c, rfl, _⟩, rfl⟩⟩⟩ := h
  exact ⟨⟨x_a, x_b, x_c⟩, rfl⟩
theorem VecS_of {a : AV} (h : (Ty.sl tyVec).okV a) : ∃ l : List Vec, AV.wkA (fun _ => False) a (.sl .rd 3 (l.map eVec)) := by
  simp only [Ty.okV, Ty.ok] at h
  rcases h with h | ⟨es, h, _, h2⟩
  · exact ⟨[], by rw [(List.cons.inj h).1]; simp⟩
  · obtain ⟨l, rfl⟩ := list_of eVec fun x hx => by
      obtain ⟨_, h3, h4⟩ := h2 x hx
      simp only [tyVec, Ty.isSt, if_true] at h3
      obtain ⟨cs, rfl⟩ := h3
      exact Vec_of ⟨cs, rfl, by simpa [AV.cells, tyVec, Ty.ok] using h4⟩
    exact ⟨l, by rw [(List.cons.inj h).1]; simp [tyVec, Ty.size, sizeL]⟩
def ir_laws_toVec : L :=
  .seq (
  .reg [.bx 1 (.t 0),
    .al 2 [.int .i64 0, .int .i64 0, .int .i64 0]]) (
  .seq (
  .reg [.al 3 [.int .i64 0, .int .i64 0, .int .i64 0]]) (
  .seq (
  .reg [.fa 4 (.t 1) 0,
    .ld 5 (.t 4) 1 false,
    .fa 6 (.t 3) 0,
    .st (.t 6) (.t 5) 1]) (
  .seq (
  .reg [.fa 7 (.t 1) 1,
    .ld 8 (.t 7) 1 false,
    .fa 9 (.t 3) 1,
    .st (.t 9) (.t 8) 1]) (
  .seq (
  .reg [.fa 10 (.t 1) 2,
    .ld 11 (.t 10) 1 false,
    .fa 12 (.t 3) 2,
    .st (.t 12) (.t 11) 1]) (
  .seq (
  .reg [.ld 13 (.t 3) 3 true,
    .st (.t 2) (.t 13) 3]) (
  .ret))))))
def rs_laws_toVec : List Rv := [.c 2 3 true]
theorem ck_laws_toVec : chkFn Try.prog F.laws_toVec 1 ir_laws_toVec rs_laws_toVec = true := by kernel_rfl
theorem toVec_ok (x : Vec) : Snd Try.prog F.laws_toVec [eVec x] (eVec x) [] := by
  refine snd_by ck_laws_toVec rfl rfl (den_W ?_)
  unfold ir_laws_toVec rs_laws_toVec
  simp
def ir_laws_eqVec : L :=
  .seq (
  .reg [.bx 2 (.t 0),
    .bx 3 (.t 1),
    .mv 4 (.c (.bool false))]) (
  .seq (
  .seq (
  .reg [.fa 5 (.t 2) 0,
    .ld 6 (.t 5) 1 false,
    .fa 7 (.t 3) 0,
    .ld 8 (.t 7) 1 false,
    .bi 9 .neq (.t 6) (.t 8)]) (
  .cond (.t 9) (
    .seq (
    .reg [.mv 4 (.c (.bool false))]) (
    .ret)) (
    .skip))) (
  .seq (
  .seq (
  .reg [.fa 10 (.t 2) 1,
    .ld 11 (.t 10) 1 false,
    .fa 12 (.t 3) 1,
    .ld 13 (.t 12) 1 false,
    .bi 14 .neq (.t 11) (.t 13)]) (
  .cond (.t 14) (
    .seq (
    .reg [.mv 4 (.c (.bool false))]) (
    .ret)) (
    .skip))) (
  .seq (
  .seq (
  .reg [.fa 15 (.t 2) 2,
    .ld 16 (.t 15) 1 false,
    .fa 17 (.t 3) 2,
    .ld 18 (.t 17) 1 false,
    .bi 19 .neq (.t 16) (.t 18)]) (
  .cond (.t 19) (
    .seq (
    .reg [.mv 4 (.c (.bool false))]) (
    .ret)) (
    .skip))) (
  .seq (
  .reg [.mv 4 (.c (.bool true))]) (
  .ret)))))
def rs_laws_eqVec : List Rv := [.t 4]
theorem ck_laws_eqVec : chkFn Try.prog F.laws_eqVec 2 ir_laws_eqVec rs_laws_eqVec = true := by kernel_rfl
theorem eqVec_ok (x y : Vec) : Snd Try.prog F.laws_eqVec [eVec x, eVec y] (.bool (decide (x = y))) [] := by
  refine snd_by ck_laws_eqVec rfl rfl (den_W ?_)
  unfold ir_laws_eqVec rs_laws_eqVec
  simp
  by_cases h0 : x.a = y.a
  rotate_left
  · simp [h0]
    exact fun e => h0 (by rw [e])
  simp [h0]
  by_cases h1 : x.b = y.b
  rotate_left
  · simp [h1]
    exact fun e => h1 (by rw [e])
  simp [h1]
  by_cases h2 : x.c = y.c
  rotate_left
  · simp [h2]
    exact fun e => h2 (by rw [e])
  simp [h2]
  cases x; cases y; simp_all
end Go.Proofs.Ythbbieobcokgbaa
