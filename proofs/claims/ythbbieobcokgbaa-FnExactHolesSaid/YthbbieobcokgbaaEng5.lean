/-
  The engine, part 5: soundness of the plain operations, one by one.
-/
import Derived.Test.YthbbieobcokgbaaEng4
namespace Go.Proofs.Ythbbieobcokgbaa.Eng
open Go Go.RowKit

def tsz (P : Program) (t : TypeId) : Option Nat := (P.info? t).map (·.size)
def tby (P : Program) (t : TypeId) : Option Nat := (P.info? t).map (·.bytes)
def isAgD : TypeDesc → Bool | .struct _ | .array _ _ => true | _ => false
def tag? (P : Program) (t : TypeId) : Option Bool := (P.underlying t).map isAgD

section
variable {P : Program} {c : Cx} {g : Gh} {s : St} {a : Act} {w : World}
theorem run_sizeOf' {t : TypeId} {n : Nat} (h : tsz P t = some n) : (sizeOf t).run P w = .ok n w := by
  unfold tsz at h
  obtain ⟨i, hi, rfl⟩ := Option.map_eq_some_iff.1 h
  simp [sizeOf, typeInfo, hi]
theorem run_isAgg' {t : TypeId} {b : Bool} (h : tag? P t = some b) : (isAgg t).run P w = .ok b w := by
  unfold tag? at h
  obtain ⟨d, hd, rfl⟩ := Option.map_eq_some_iff.1 h
  simp only [isAgg, Sem.run_bind, run_underlying hd, Result.andThen_ok]
  cases d <;> rfl

theorem add_none (b o n : Nat) : (⟨b, o, none⟩ : Addr).add n = ⟨b, o + n, none⟩ := by
  unfold Addr.add; split <;> simp_all

section ops
variable {o : Oper} {d : Nat} {K : St → Prop} {K' : Act → World → Prop} {Q' : Exit → Act → World → Prop}

theorem sok_mvk (I : Inv c g s a w) (hK : ∀ g' s' a' w', Inv c g' s' a' w' → K s' → K' a' w') (hd : o.dst = some d) (hlt : d < c.nt)
    {x : X} {p : Operand} (ho : o.op = .assign p) (hx : chkK x p = true) (h : wop P (.mv d x) K s) : o.wp P a w K' Q' := by
  have e : s.get x = .bad := by
    unfold chkK at hx
    split at hx
    · rfl
    · cases hx
  simp only [wop, e] at h
  refine sok (g' := g) (s' := s) (w' := w) (v := a.eval p) hK hd hlt ?_ I (.bad _) h
  simp [execOp, ho]
theorem sok_mv (I : Inv c g s a w) (hK : ∀ g' s' a' w', Inv c g' s' a' w' → K s' → K' a' w') (hd : o.dst = some d) (hlt : d < c.nt)
    {x : X} {p : Operand} (ho : o.op = .move p ∨ o.op = .assign p) (hx : chkX x p = true) (h : wop P (.mv d x) K s) : o.wp P a w K' Q' := by
  refine sok (g' := g) (s' := s) (w' := w) (v := a.eval p) hK hd hlt ?_ I (I.get hx) h
  rcases ho with ho | ho <;> simp [execOp, ho]

theorem sok_pk (I : Inv c g s a w) (hK : ∀ g' s' a' w', Inv c g' s' a' w' → K s' → K' a' w') (hd : o.dst = some d) (hlt : d < c.nt)
    {x y z : X} {p q r : Operand} (ho : o.op = .pick p q r) (hx : chkX x p = true) (hy : chkX y q = true) (hz : chkX z r = true) (h : wop P (.pk d x y z) K s) : o.wp P a w K' Q' := by
  simp only [wop] at h
  have gx := I.get hx
  split at h
  · rename_i t e
    rw [e] at gx
    have ev := gx.bool_inv
    refine sok (g' := g) (s' := s) (w' := w) (v := if t then a.eval q else a.eval r) hK hd hlt ?_ I ?_ h
    · simp [execOp, ho, ev, asBool]
    · cases t
      · exact I.get hz
      · exact I.get hy
  · exact h.elim

theorem sok_un (I : Inv c g s a w) (hK : ∀ g' s' a' w', Inv c g' s' a' w' → K s' → K' a' w') (hd : o.dst = some d) (hlt : d < c.nt)
    {x : X} {p : Operand} {t : TypeId} (ho : o.op = .unOp .not t p) (hx : chkX x p = true) (h : wop P (.un d x) K s) : o.wp P a w K' Q' := by
  simp only [wop] at h
  have gx := I.get hx
  split at h
  · rename_i b e
    rw [e] at gx
    refine sok (g' := g) (s' := s) (w' := w) (v := .bool !b) hK hd hlt ?_ I (.data _ _ (.bool _)) h
    simp [execOp, ho, gx.bool_inv, Op.unary]
  · exact h.elim

theorem sok_bi (I : Inv c g s a w) (hK : ∀ g' s' a' w', Inv c g' s' a' w' → K s' → K' a' w') (hd : o.dst = some d) (hlt : d < c.nt)
    {op : BinOp} {x y : X} {p q : Operand} {t u : TypeId} (ho : o.op = .binOp op t p q u) (hx : chkX x p = true) (hy : chkX y q = true) (h : wop P (.bi d op x y) K s) : o.wp P a w K' Q' := by
  simp only [wop] at h
  split at h
  · rename_i v e
    obtain ⟨z, hr, hg⟩ := run_evB (P := P) (w := w) e (I.get hx) (I.get hy) t p q
    refine sok (g' := g) (s' := s) (w' := w) (v := z) hK hd hlt ?_ I hg h
    simp only [execOp, ho, Sem.run_bind] at hr ⊢
    simp [hr]
  · exact h.elim

theorem run_equalIn_bool (n : Nat) {t : TypeId} (ht : P.underlying t = some .bool) (a b : Bool) : (Op.equalIn (n + 1) t (.bool a) (.bool b)).run P w = .ok (a == b) w := by
  simp [Op.equalIn, run_underlying ht]
theorem run_equal_bool {t : TypeId} (ht : P.underlying t = some .bool) (a b : Bool) : (Op.equal t (.bool a) (.bool b)).run P w = .ok (a == b) w := run_equalIn_bool 9999 ht a b

theorem sok_eb (I : Inv c g s a w) (hK : ∀ g' s' a' w', Inv c g' s' a' w' → K s' → K' a' w') (hd : o.dst = some d) (hlt : d < c.nt)
    {ne : Bool} {x y : X} {p q : Operand} {t u : TypeId} (ho : o.op = .binOp (if ne then .neq else .eql) t p q u) (ht : P.underlying t = some .bool)
    (hx : chkX x p = true) (hy : chkX y q = true) (h : wop P (.eb d ne x y) K s) : o.wp P a w K' Q' := by
  simp only [wop] at h
  have gx := I.get hx
  have gy := I.get hy
  split at h
  · rename_i x' y' e1 e2
    rw [e1] at gx; rw [e2] at gy
    refine sok (g' := g) (s' := s) (w' := w) (v := .bool (if ne then !(x' == y') else x' == y')) hK hd hlt ?_ I (.data _ _ (.bool _)) h
    cases ne <;> simp [execOp, ho, gx.bool_inv, gy.bool_inv, eqGuard, binOp, run_equal_bool ht]
  · exact h.elim

theorem sok_sa (I : Inv c g s a w) (hK : ∀ g' s' a' w', Inv c g' s' a' w' → K s' → K' a' w') (hd : o.dst = some d) (hlt : d < c.nt)
    {x y : X} {p q : Operand} {t u : TypeId} (ho : o.op = .binOp .add t p q u)
    (hx : chkX x p = true) (hy : chkX y q = true) (h : wop P (.sa d x y) K s) : o.wp P a w K' Q' := by
  simp only [wop] at h
  have gx := I.get hx
  have gy := I.get hy
  split at h
  · rename_i x' y' e1 e2
    rw [e1] at gx; rw [e2] at gy
    refine sok (g' := g) (s' := s) (w' := w) (v := .string ⟨(x' ++ y').toArray⟩) hK hd hlt ?_ I (.data _ _ (.str _)) h.2
    have := run_string_add_sum (P := P) w ⟨x'.toArray⟩ ⟨y'.toArray⟩ (by simpa [ByteArray.size] using h.1)
    simp [execOp, ho, gx.str_inv, gy.str_inv, eqGuard, binOp, this, ByteArray.mk_append_mk]
  · exact h.elim

theorem sok_cv (I : Inv c g s a w) (hK : ∀ g' s' a' w', Inv c g' s' a' w' → K s' → K' a' w') (hd : o.dst = some d) (hlt : d < c.nt)
    {k : IntKind} {x : X} {p : Operand} {t u : TypeId} (ho : o.op = .convert t u p) (ht : (P.underlying t).isSome = true) (hu : P.underlying u = some (.int k))
    (hx : chkX x p = true) (h : wop P (.cv d k x) K s) : o.wp P a w K' Q' := by
  simp only [wop] at h
  have gx := I.get hx
  obtain ⟨td, ht⟩ := Option.isSome_iff_exists.1 ht
  split at h
  · rename_i k' n e
    rw [e] at gx
    refine sok (g' := g) (s' := s) (w' := w) (v := .int k (k.wrap n)) hK hd hlt ?_ I (.data _ _ (.int _ _)) h
    simp [execOp, ho, gx.int_inv, convert, run_underlying ht, run_underlying hu, Conv.intToInt]
  · exact h.elim

theorem sok_fa (I : Inv c g s a w) (hK : ∀ g' s' a' w', Inv c g' s' a' w' → K s' → K' a' w') (hd : o.dst = some d) (hlt : d < c.nt)
    {x : X} {p : Operand} {t : TypeId} {f : Nat} {fs : Array Field} {fd : Field} {n : Nat} (ho : o.op = .fieldAddr t p f) (ht : P.underlying t = some (.struct fs)) (hf : fs[f]? = some fd)
    (hs : tsz P fd.type = some n) (hn : n ≠ 0)
    (hx : chkX x p = true) (h : wop P (.fa d x fd.offset) K s) : o.wp P a w K' Q' := by
  simp only [wop] at h
  have gx := I.get hx
  have run : ∀ b o', a.eval p = .pointer (some ⟨b, o', none⟩) → (execOp a.eval o).run P w = .ok (.value (.pointer (some ⟨b, o' + fd.offset, none⟩))) w := by
    intro b o' e
    simp [execOp, ho, e, Instr.fieldAt, run_underlying ht, hf, Instr.sureAddr, fieldPlace, run_sizeOf' hs, hn, add_none]
  split at h
  · rename_i k off e
    rw [e] at gx
    obtain ⟨h1, h⟩ := h
    obtain ⟨cs, hk⟩ := Option.isSome_iff_exists.1 h1
    exact sok (g' := g) (s' := s) (w' := w) hK hd hlt (run _ _ (gx.ptr_inv hk)) I (.ptr _ _ _ rfl fun cs' h' => rfl) h
  · rename_i e' off e
    rw [e] at gx
    obtain ⟨b, o', cv, hv, h1, h2⟩ := gx.ept_inv
    refine sok (g' := g) (s' := s) (w' := w) hK hd hlt (run _ _ hv) I ?_ h
    rw [Nat.add_assoc]
    exact .ept _ _ b o' cv h1 h2
  · rename_i k i off e
    rw [e] at gx
    obtain ⟨h1, h⟩ := h
    obtain ⟨r, hk⟩ := Option.isSome_iff_exists.1 h1
    obtain ⟨b, hb, hv⟩ := gx.rpt_inv hk
    refine sok (g' := g) (s' := s) (w' := w) hK hd hlt (run _ _ hv) I (.rpt _ _ _ _ rfl fun r' h' => ⟨b, hb, ?_⟩) h
    rw [hk] at h'; cases h'; rw [Nat.add_assoc]
  · exact h.elim

theorem isIdx_some {i : AV} {n j : Nat} (h : isIdx i n = some j) : ∃ k q, i = .int k q ∧ 0 ≤ q ∧ q < n ∧ j = q.toNat := by
  unfold isIdx at h
  split at h
  · rename_i k q
    split at h
    · rename_i hq; cases h; exact ⟨k, q, rfl, hq.1, hq.2, rfl⟩
    · cases h
  · cases h

theorem flat_get {es : List AV} {sz : Nat} (hs : ∀ e ∈ es, e.cells.length = sz) {i : Nat} {e : AV} (he : es[i]? = some e) {j : Nat} {a : AV} (ha : e.cells[j]? = some a) : (flat es)[i * sz + j]? = some a := by
  induction es generalizing i with
  | nil => simp at he
  | cons x l ih =>
    have hx : x.cells.length = sz := hs x (by simp)
    cases i with
    | zero =>
      simp at he; subst he
      have hj : j < x.cells.length := (List.getElem?_eq_some_iff.1 ha).1
      simp only [flat, List.flatMap_cons, Nat.zero_mul, Nat.zero_add]
      rw [List.getElem?_append_left hj]; exact ha
    | succ i =>
      simp at he
      have := ih (fun e h => hs e (by simp [h])) he
      simp only [flat, List.flatMap_cons] at this ⊢
      rw [List.getElem?_append_right (by rw [hx, Nat.succ_mul]; omega), hx]
      rw [show (i + 1) * sz + j - sz = i * sz + j by rw [Nat.succ_mul]; omega]
      exact this

theorem sok_ia (I : Inv c g s a w) (hK : ∀ g' s' a' w', Inv c g' s' a' w' → K s' → K' a' w') (hd : o.dst = some d) (hlt : d < c.nt)
    {x i : X} {p q : Operand} {t el : TypeId} {n : Nat} (ho : o.op = .indexAddr t p q) (ht : P.underlying t = some (.slice el)) (hs : tsz P el = some n)
    (hx : chkX x p = true) (hi : chkX i q = true) (h : wop P (.ia d x i n) K s) : o.wp P a w K' Q' := by
  simp only [wop] at h
  have gx := I.get hx
  have gi := I.get hi
  have run : ∀ (b o' len cap : Nat) (k : IntKind) (z : Int), a.eval p = .slice (some ⟨b, o', none⟩) len cap → a.eval q = .int k z → 0 ≤ z → z < len →
      (execOp a.eval o).run P w = .ok (.value (.pointer (some ⟨b, o' + z.toNat * n, none⟩))) w := by
    intro b o' len cap k z e1 e2 h0 h1
    simp [execOp, ho, e1, e2, Instr.indexAt, run_underlying ht, asIntOf, run_sizeOf' hs, h0, h1, add_none]
  split at h
  · rename_i t' sz es e
    rw [e] at gx
    split at h
    · rename_i j hj
      obtain ⟨k, z, e2, h0, h1, rfl⟩ := isIdx_some hj
      rw [e2] at gi
      split at h
      · rename_i el' hel
        obtain ⟨rfl, h⟩ := h
        have hr := gx.sl_inv
        generalize a.eval p = vp at *
        cases hr with
        | sl0 => simp at hel
        | sl _ _ _ b o' cap cv hc hm hsz hw hn hrd =>
          refine sok (g' := g) (s' := s) (w' := w) hK hd hlt (run b o' _ cap k z rfl gi.int_inv h0 h1) I ?_ h
          refine .ept el' 0 b (o' + z.toNat * sz) (fun j => cv (z.toNat * sz + j)) (fun j a ha => ?_) (fun j a ha => hrd _ a (flat_get hsz hel ha))
          have := hw _ a (flat_get hsz hel ha)
          rw [Nat.add_assoc]; exact this
      · exact h.elim
    · exact h.elim
  · rename_i k' e
    rw [e] at gx
    split at h
    · rename_i r hr
      split at h
      · rename_i j hj
        obtain ⟨k, z, e2, h0, h1, rfl⟩ := isIdx_some hj
        rw [e2] at gi
        obtain ⟨rfl, h⟩ := h
        have hv := gx.sref_inv hr
        obtain ⟨xs, ty, ho', _⟩ := I.rws k' r hr
        rcases ho'.2 with ⟨_, hz⟩ | ⟨b, cap, cur, hv', _⟩
        · omega
        · rw [hv'] at hv
          have hob : (g.rv k').ownBlock = some b := by rw [hv']; rfl
          refine sok (g' := g) (s' := s) (w' := w) hK hd hlt (run b 0 _ cap k z hv gi.int_inv h0 h1) I (.rpt _ _ _ _ rfl fun r' h' => ⟨b, hob, ?_⟩) h
          rw [hr] at h'; cases h'; simp
      · exact h.elim
    · exact h.elim
  · exact h.elim
end ops
end
end Go.Proofs.Ythbbieobcokgbaa.Eng
