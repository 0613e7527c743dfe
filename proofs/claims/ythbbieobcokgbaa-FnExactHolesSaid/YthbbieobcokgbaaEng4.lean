/-
  The engine, part 4: each operation of the model does what the small language says. Plain operations.
-/
import Derived.Test.YthbbieobcokgbaaEng3
namespace Go.Proofs.Ythbbieobcokgbaa.Eng
open Go Go.RowKit

mutual
def vm : AV → Value → Bool
  | .bool b, .bool b' => b == b'
  | .int k n, .int k' n' => decide (k = k') && decide (n = n')
  | .str l, .string s => l == s.data.toList
  | .nl, .slice none 0 0 => true
  | .agg cs, .agg vs => allOne cs && vmL cs vs.toList
  | .fn f [], .func (.func g) fi ca => f == g && fi.isEmpty && ca.isEmpty
  | _, _ => false
def vmL : List AV → List Value → Bool
  | [], [] => true
  | a :: l, v :: m => vm a v && vmL l m
  | _, _ => false
end

theorem vm_nl {v : Value} (h : vm .nl v = true) : v = .slice none 0 0 := by
  cases v with
  | slice a l c =>
    cases a with
    | none => cases l with
      | zero => cases c with
        | zero => rfl
        | succ c => simp [vm] at h
      | succ l => simp [vm] at h
    | some a => simp [vm] at h
  | _ => simp [vm] at h
theorem vm_fn {f : Nat} {cs : List AV} {v : Value} (h : vm (.fn f cs) v = true) : cs = [] ∧ v = .func (.func f) #[] #[] := by
  cases cs with
  | nil =>
    cases v with
    | func fn fi ca =>
      cases fn with
      | func g => simp [vm] at h; obtain ⟨⟨rfl, rfl⟩, rfl⟩ := h; exact ⟨rfl, rfl⟩
      | _ => simp [vm] at h
    | _ => simp [vm] at h
  | cons x l => cases v <;> simp [vm] at h
section
variable {w : World} {S : Nat → Nat → Prop} {N : Nat → Prop}
mutual
theorem vm_ok : ∀ {a : AV} {v : Value}, vm a v = true → Rd w S N a v
  | .bool b, v, h => by cases v <;> simp [vm] at h; subst h; exact .bool b
  | .int k n, v, h => by cases v <;> simp [vm] at h; obtain ⟨rfl, rfl⟩ := h; exact .int k n
  | .str l, v, h => by
    cases v <;> simp [vm] at h
    rename_i s; subst h
    have : s = ⟨s.data.toList.toArray⟩ := by simp
    rw [this]; simpa using Rd.str (w := w) (S := S) (N := N) s.data.toList
  | .nl, v, h => by rw [vm_nl h]; exact .nl
  | .agg cs, v, h => by
    cases v <;> simp [vm] at h
    rename_i vs
    obtain ⟨h1, h2⟩ := h
    have := vmL_ok h2
    have e : vs = vs.toList.toArray := by simp
    rw [e]
    exact .agg cs vs.toList this.1 (by simpa [allOne] using h1) this.2
  | .fn f cs, v, h => by
    obtain ⟨rfl, rfl⟩ := vm_fn h
    exact .fn f [] [] rfl (by intro i a v h; simp at h)
  | .tup cs, v, h => by simp [vm] at h
  | .sl _ _ _, v, h => by simp [vm] at h
  | .sref _, v, h => by simp [vm] at h
  | .ptr _ _, v, h => by simp [vm] at h
  | .ept _ _, v, h => by simp [vm] at h
  | .rpt _ _ _, v, h => by simp [vm] at h
  | .und, v, h => by simp [vm] at h
  | .bad, v, h => by simp [vm] at h
theorem vmL_ok : ∀ {cs : List AV} {vs : List Value}, vmL cs vs = true → cs.length = vs.length ∧ ∀ (i : Nat) (a : AV) (v : Value), cs[i]? = some a → vs[i]? = some v → Rd w S N a v
  | [], [], _ => ⟨rfl, by intro i a v h; simp at h⟩
  | a :: l, v :: m, h => by
    simp only [vmL, Bool.and_eq_true] at h
    have h1 := vm_ok h.1
    have h2 := vmL_ok h.2
    refine ⟨by simp [h2.1], fun i a' v' ha hv => ?_⟩
    cases i with
    | zero => simp at ha hv; subst ha; subst hv; exact h1
    | succ i => simp at ha hv; exact h2.2 i a' v' ha hv
  | [], _ :: _, h => by simp [vmL] at h
  | _ :: _, [], h => by simp [vmL] at h
end
end

def chkX : X → Operand → Bool
  | .t i, .tmp j => i == j
  | .c a, .const v => vm a v
  | .c (.fn f []), .func g => f == g
  | _, _ => false
/-- A constant of which nothing is known. -/
def chkK : X → Operand → Bool
  | .c .bad, .const _ => true
  | _, _ => false

section
variable {P : Program} {c : Cx} {g : Gh} {s : St} {a : Act} {w : World}

theorem Inv.get (I : Inv c g s a w) {x : X} {p : Operand} (h : chkX x p = true) : Gv w g s (s.get x) (a.eval p) := by
  cases x with
  | t i =>
    cases p <;> simp [chkX] at h
    subst h
    exact I.tm i
  | c v =>
    cases p with
    | const u => exact .data _ _ (vm_ok h)
    | func f =>
      cases v with
      | fn f' cs =>
        cases cs with
        | nil =>
          simp only [chkX, beq_iff_eq] at h; subst h
          exact .data _ _ (.fn f' [] [] rfl (by intro i a v h; simp at h))
        | cons _ _ => simp [chkX] at h
      | _ => simp [chkX] at h
    | tmp _ => simp [chkX] at h
    | global _ => simp [chkX] at h

theorem Gv.bool_inv {b : Bool} {v : Value} (h : Gv w g s (.bool b) v) : v = .bool b := by cases h with | data _ _ h => cases h; rfl
theorem Gv.int_inv {k : IntKind} {n : Int} {v : Value} (h : Gv w g s (.int k n) v) : v = .int k n := by cases h with | data _ _ h => cases h; rfl
theorem Gv.str_inv {l : List UInt8} {v : Value} (h : Gv w g s (.str l) v) : v = .string ⟨l.toArray⟩ := by cases h with | data _ _ h => cases h; rfl
theorem Gv.nl_inv {v : Value} (h : Gv w g s .nl v) : v = .slice none 0 0 := by cases h with | data _ _ h => cases h; rfl
theorem Gv.und_inv {v : Value} (h : Gv w g s .und v) : v = undef := by cases h with | data _ _ h => cases h | und => rfl
theorem Gv.agg_inv {cs : List AV} {v : Value} (h : Gv w g s (.agg cs) v) : ∃ vs : List Value, v = .agg vs.toArray ∧ cs.length = vs.length ∧ (∀ a ∈ cs, a.one = true ∨ a = .bad) ∧
    ∀ (i : Nat) (a : AV) (v : Value), cs[i]? = some a → vs[i]? = some v → Gv w g s a v := by
  cases h with
  | data _ _ h => cases h with | agg _ vs hl h1 h => exact ⟨vs, rfl, hl, fun a ha => .inl (h1 a ha), fun i a v ha hv => .data _ _ (h i a v ha hv)⟩
  | agg _ vs hl h1 h => exact ⟨vs, rfl, hl, h1, h⟩
theorem Gv.tup_inv {cs : List AV} {v : Value} (h : Gv w g s (.tup cs) v) : ∃ vs : List Value, v = .tuple vs.toArray ∧ cs.length = vs.length ∧
    ∀ (i : Nat) (a : AV) (v : Value), cs[i]? = some a → vs[i]? = some v → Gv w g s a v := by
  cases h with
  | data _ _ h => cases h
  | tup _ vs hl h => exact ⟨vs, rfl, hl, h⟩
theorem Gv.fn_inv {f : Nat} {cs : List AV} {v : Value} (h : Gv w g s (.fn f cs) v) : ∃ vs : List Value, v = .func (.func f) #[] vs.toArray ∧ cs.length = vs.length ∧
    ∀ (i : Nat) (a : AV) (v : Value), cs[i]? = some a → vs[i]? = some v → Gv w g s a v := by
  cases h with
  | data _ _ h => cases h with | fn _ _ vs hl h => exact ⟨vs, rfl, hl, fun i a v ha hv => .data _ _ (h i a v ha hv)⟩
  | fn _ _ vs hl h => exact ⟨vs, rfl, hl, h⟩
theorem Gv.sl_inv {t : Tag} {sz : Nat} {es : List AV} {v : Value} (h : Gv w g s (.sl t sz es) v) : Rd w g.S g.N (.sl t sz es) v := by cases h with | data _ _ h => exact h
theorem Gv.sref_inv {k : Nat} {v : Value} {r : Row} (h : Gv w g s (.sref k) v) (hr : s.rw k = some r) : v = g.rv k := by
  cases h with
  | data _ _ h => cases h
  | sref _ _ _ h => exact h r hr
theorem Gv.ptr_inv {k off : Nat} {v : Value} {cs : List AV} (h : Gv w g s (.ptr k off) v) (hr : s.bx k = some cs) : v = .pointer (some ⟨g.bb k, off, none⟩) := by
  cases h with
  | data _ _ h => cases h
  | ptr _ _ _ _ h => exact h cs hr
theorem Gv.rpt_inv {k i off : Nat} {v : Value} {r : Row} (h : Gv w g s (.rpt k i off) v) (hr : s.rw k = some r) : ∃ b, (g.rv k).ownBlock = some b ∧ v = .pointer (some ⟨b, i * r.sz + off, none⟩) := by
  cases h with
  | data _ _ h => cases h
  | rpt _ _ _ _ _ h => exact h r hr
theorem Gv.ept_inv {e : AV} {off : Nat} {v : Value} (h : Gv w g s (.ept e off) v) : ∃ (b o : Nat) (cv : Nat → Value), v = .pointer (some ⟨b, o + off, none⟩) ∧
    (∀ (j : Nat) (a : AV), e.cells[j]? = some a → w.cell? ⟨b, o + j, none⟩ = some (cv j) ∧ g.S b (o + j) ∧ a.one = true) ∧
    ∀ (j : Nat) (a : AV), e.cells[j]? = some a → Rd w g.S g.N a (cv j) := by
  cases h with
  | data _ _ h => cases h with | ept _ _ b o cv hw h => exact ⟨b, o, cv, rfl, hw, h⟩
  | ept _ _ b o cv hw h => exact ⟨b, o, cv, rfl, hw, h⟩

/-- An operation that yields a value. -/
theorem sok {o : Oper} {d : Nat} {K : St → Prop} {K' : Act → World → Prop} {Q' : Exit → Act → World → Prop} {g' : Gh} {s' : St} {w' : World} {x : AV} {v : Value}
    (hK : ∀ g' s' a' w', Inv c g' s' a' w' → K s' → K' a' w') (hd : o.dst = some d) (hlt : d < c.nt)
    (hr : (execOp a.eval o).run P w = .ok (.value v) w') (I : Inv c g' s' a w') (hv : Gv w' g' s' x v) (h : K (s'.set d x)) : o.wp P a w K' Q' := by
  unfold Oper.wp
  rw [hr, Oper.upon_value, hd]
  exact hK _ _ _ _ (I.put hlt hv) h

theorem run_intArith_add (k : IntKind) (a b : Int) : (Op.intArith .add k a b).run P w = .ok (.int k (k.wrap (a + b))) w := rfl

theorem run_bits {op : BinOp} {k : IntKind} {a b : Int} {r : Int} (t : TypeId) (p q : Operand) (h : op = .and ∧ r = bAnd k a b ∨ op = .xor ∧ r = bXor k a b) :
    ((do eqGuard op t p q (.int k a) (.int k b); binOp op t (.int k a) (.int k b) : Sem Value)).run P w = .ok (.int k r) w := by
  rcases h with ⟨rfl, rfl⟩ | ⟨rfl, rfl⟩ <;> simp [eqGuard, binOp, Op.intBits, bAnd, bXor]
theorem run_shr {k k' : IntKind} {a b : Int} (hb : 0 ≤ b) (t : TypeId) (p q : Operand) :
    ((do eqGuard .shr t p q (.int k a) (.int k' b); binOp .shr t (.int k a) (.int k' b) : Sem Value)).run P w = .ok (.int k (bShr k a b)) w := by
  simp [eqGuard, binOp, Op.shift, bShr, Int.not_lt.2 hb]
theorem run_evB {op : BinOp} {x y v : AV} {vx vy : Value} (h : evB op x y = some v) (hx : Gv w g s x vx) (hy : Gv w g s y vy) (t : TypeId) (p q : Operand) :
    ∃ u, ((do eqGuard op t p q vx vy; binOp op t vx vy : Sem Value)).run P w = .ok u w ∧ Gv w g s v u := by
  have int_case : ∀ {k k' : IntKind} {a b : Int}, x = .int k a → y = .int k' b → vx = .int k a ∧ vy = .int k' b := by
    intro k k' a b e1 e2; subst e1; subst e2; exact ⟨hx.int_inv, hy.int_inv⟩
  have str_case : ∀ {a b : List UInt8}, x = .str a → y = .str b → vx = .string ⟨a.toArray⟩ ∧ vy = .string ⟨b.toArray⟩ := by
    intro a b e1 e2; subst e1; subst e2; exact ⟨hx.str_inv, hy.str_inv⟩
  unfold evB at h
  split at h
  all_goals first
    | (split at h
       · rename_i hk
         obtain ⟨rfl, rfl⟩ := int_case rfl rfl
         first
           | (cases h; exact ⟨_, run_shr hk t p q, .data _ _ (.int _ _)⟩)
           | (subst hk; cases h
              first
                | exact ⟨_, run_bits t p q (.inl ⟨rfl, rfl⟩), .data _ _ (.int _ _)⟩
                | exact ⟨_, run_bits t p q (.inr ⟨rfl, rfl⟩), .data _ _ (.int _ _)⟩)
       · cases h; done)
    | (split at h
       · rename_i hk
         obtain ⟨rfl, rfl⟩ := int_case rfl rfl
         first
           | (obtain ⟨rfl, h0⟩ := hk; cases h
              refine ⟨_, ?_, .data _ _ (.int _ _)⟩
              simp [eqGuard, binOp, Op.intDiv, h0])
           | (subst hk; cases h
              first
                | (refine ⟨_, ?_, .data _ _ (.int _ _)⟩
                   simp [eqGuard, binOp, Op.intArith]; done)
                | (refine ⟨_, ?_, .data _ _ (.bool _)⟩
                   simp [eqGuard, binOp, Op.intCmp]; done))
       · cases h)
    | (obtain ⟨rfl, rfl⟩ := str_case rfl rfl; cases h
       refine ⟨_, ?_, .data _ _ (.bool _)⟩
       simp [eqGuard, binOp, Op.stringOp, ByteArray.toList_eq, bne]; done)
    | cases h
end
end Go.Proofs.Ythbbieobcokgbaa.Eng
