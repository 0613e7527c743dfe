/-
  The law's helpers at profiles.
-/
import Derived.Test.YthbbieobcokgbaaProf
import Derived.Test.YthbbieobcokgbaaLaw0
namespace Go.Proofs.Ythbbieobcokgbaa
open Go Go.RowKit Eng
def tyProf : Ty := .st [.sl tyPt]
theorem Prof_of {x : AV} (h : tyProf.okV x) : ∃ l : List Pt, AV.wkA (fun _ => False) x (ePr l) := by
  obtain ⟨cs, rfl, h⟩ := h
  simp only [okL] at h
  obtain ⟨l1, l2, rfl, h, rfl⟩ := h
  have h' : (Ty.sl tyPt).okV (.nl) ∨ True := .inr trivial
  rcases (by simpa only [Ty.ok] using h : l1 = [.nl] ∨ _) with rfl | ⟨es, rfl, q⟩
  · exact ⟨[], by simp [AV.wkA, wkLs, AV.wk1]⟩
  · obtain ⟨l, hl⟩ := PtS_of (a := .sl .rd tyPt.size es) (.inr ⟨es, rfl, q⟩)
    exact ⟨l, ⟨hl, trivial⟩⟩
def ir_laws_szProf : L :=
  .seq (
  .reg [.bx 2 (.t 0),
    .mv 4 (.c (.int .i64 0))]) (
  .seq (
  .reg [.fa 5 (.t 2) 0,
    .ld 6 (.t 5) 1 false,
    .mv 7 (.t 1),
    .cq 8 F.laws_szPtS [(.t 6), (.t 7)],
    .mv 1 (.t 8)]) (
  .seq (
  .seq (
  .reg [.mv 9 (.t 1),
    .bi 10 .lss (.t 9) (.c (.int .i64 0))]) (
  .cond (.t 10) (
    .seq (
    .reg [.mv 4 (.c (.int .i64 (-1)))]) (
    .ret)) (
    .skip))) (
  .seq (
  .reg [.mv 11 (.t 1),
    .mv 4 (.t 11)]) (
  .ret))))
def rs_laws_szProf : List Rv := [.t 4]
theorem ck_laws_szProf : chkFn Try.prog F.laws_szProf 2 ir_laws_szProf rs_laws_szProf = true := by kernel_rfl
theorem szProf_ok (l : List Pt) (n : Int) (hn : n ≤ 1048576) (h0 : 0 ≤ n) : Snd Try.prog F.laws_szProf [ePr l, .int .i64 n] (.int .i64 (szr n l.length)) [] := by
  refine snd_by ck_laws_szProf rfl (by simp) (den_W ?_)
  unfold ir_laws_szProf rs_laws_szProf
  simp
  refine do_cq (szPtS_ok l n hn h0) (by simp [St.args]) ?_
  simp
  unfold szr
  by_cases h : n < l.length
  · simp [h]
  · have : ¬ n - (l.length : Int) < 0 := by omega
    simp [h, this]
def ir_laws_toProf : L :=
  .seq (
  .reg [.bx 1 (.t 0),
    .al 2 [.nl]]) (
  .seq (
  .reg [.al 3 [.nl]]) (
  .seq (
  .reg [.fa 4 (.t 1) 0,
    .ld 5 (.t 4) 1 false,
    .cl 6 F.laws_toPtS [(.t 5)],
    .fa 7 (.t 3) 0,
    .st (.t 7) (.t 6) 1]) (
  .seq (
  .reg [.ld 8 (.t 3) 1 true,
    .st (.t 2) (.t 8) 1]) (
  .ret))))
def rs_laws_toProf : List Rv := [.c 2 1 true]
theorem ck_laws_toProf : chkFn Try.prog F.laws_toProf 1 ir_laws_toProf rs_laws_toProf = true := by kernel_rfl
theorem toProf_ok (l : List Pt) (hl : l.length ≤ 1048576) : Snd Try.prog F.laws_toProf [ePr l] (.agg [.sref 0]) [⟨4, l.map ePt, false⟩] := by
  refine snd_by ck_laws_toProf rfl (by simp) (den_W ?_)
  unfold ir_laws_toProf rs_laws_toProf
  simp
  refine do_cl (toPtS_ok l hl) (by simp [St.args]) (by simp) ?_
  simp
  exact post_ret [7000] (by simp)
def ir_laws_eqProf : L :=
  .seq (
  .reg [.bx 2 (.t 0),
    .bx 3 (.t 1),
    .mv 4 (.c (.bool false))]) (
  .seq (
  .seq (
  .reg [.fa 5 (.t 2) 0,
    .ld 6 (.t 5) 1 false,
    .fa 7 (.t 3) 0,
    .ld 8 (.t 7) 1 false,
    .cq 9 F.laws_eqPtS [(.t 6), (.t 8)],
    .un 10 (.t 9)]) (
  .cond (.t 10) (
    .seq (
    .reg [.mv 4 (.c (.bool false))]) (
    .ret)) (
    .skip))) (
  .seq (
  .reg [.mv 4 (.c (.bool true))]) (
  .ret)))
def rs_laws_eqProf : List Rv := [.t 4]
theorem ck_laws_eqProf : chkFn Try.prog F.laws_eqProf 2 ir_laws_eqProf rs_laws_eqProf = true := by kernel_rfl
theorem eqProf_ok (l k : List Pt) : Snd Try.prog F.laws_eqProf [ePr l, ePr k] (.bool (decide (l = k))) [] := by
  refine snd_by ck_laws_eqProf rfl (by simp) (den_W ?_)
  unfold ir_laws_eqProf rs_laws_eqProf
  simp
  refine do_cq (eqPtS_ok l k) (by simp [St.args]) ?_
  by_cases h : l = k <;> simp [h]
def ir_laws_markProf : L :=
  .seq (
  .reg [.bx 2 (.t 0),
    .mv 4 (.c (.int .i64 0))]) (
  .seq (
  .reg [.fa 5 (.t 2) 0,
    .ld 6 (.t 5) 1 false,
    .mv 7 (.t 1),
    .cm 8 F.laws_markPtS [(.t 6), (.t 7)],
    .mv 1 (.t 8)]) (
  .seq (
  .reg [.mv 9 (.t 1),
    .mv 4 (.t 9)]) (
  .ret)))
def rs_laws_markProf : List Rv := [.t 4]
theorem ck_laws_markProf : chkFn Try.prog F.laws_markProf 2 ir_laws_markProf rs_laws_markProf = true := by kernel_rfl
theorem markProf_ok (l : List Pt) (k : Int) (h0 : 0 ≤ k) (h1 : k + 4 * l.length ≤ 4611686018427387904) :
    Con Try.prog F.laws_markProf [.agg [.sref 0], .int .i64 k] [] [⟨4, l.map ePt, false⟩] (ret1 (.int .i64 (k + 4 * l.length)) ((markPts k l.length).map ePt)) := by
  refine con_by [true] ck_laws_markProf rfl (by simp) fun _ => den_W ?_
  unfold ir_laws_markProf rs_laws_markProf
  simp
  refine do_cm [] [1000000000] (markPtS_ok l k h0 h1) rfl (by simp) (by simp) (by simp) ?_
  rintro _ _ _ _ _ _ ⟨rfl, rfl, rfl, rfl⟩
  simp
  refine postC_ret [] [some ((markPts k l.length).map ePt)] [] [] ?_
  simp [ret1]
end Go.Proofs.Ythbbieobcokgbaa
