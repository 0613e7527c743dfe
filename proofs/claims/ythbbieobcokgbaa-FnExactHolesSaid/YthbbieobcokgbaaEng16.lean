/-
  The engine, part 16: the check that ties an operation of the small language to one of the model's, and its soundness; lists of operations in their order.
-/
import Derived.Test.YthbbieobcokgbaaEngN
namespace Go.Proofs.Ythbbieobcokgbaa.Eng
open Go Go.RowKit

def chkXs : List X → List Operand → Bool
  | [], [] => true
  | x :: xs, p :: ps => chkX x p && chkXs xs ps
  | _, _ => false
theorem chkXs_ok : ∀ {xs : List X} {ps : List Operand}, chkXs xs ps = true → xs.length = ps.length ∧ ∀ (i : Nat) (x : X) (p : Operand), xs[i]? = some x → ps[i]? = some p → chkX x p = true
  | [], [], _ => ⟨rfl, by intro i x p h; simp at h⟩
  | x :: xs, p :: ps, h => by
    simp only [chkXs, Bool.and_eq_true] at h
    obtain ⟨h1, h2⟩ := chkXs_ok h.2
    refine ⟨by simp [h1], fun i y q hy hq => ?_⟩
    cases i with
    | zero => simp at hy hq; subst hy; subst hq; exact h.1
    | succ i => simp at hy hq; exact h2 i y q hy hq
  | [], _ :: _, h => by simp [chkXs] at h
  | _ :: _, [], h => by simp [chkXs] at h

def opEq : BinOp → BinOp → Bool
  | .add, .add | .sub, .sub | .mul, .mul | .quo, .quo | .rem, .rem | .eql, .eql | .neq, .neq | .lss, .lss | .leq, .leq | .gtr, .gtr | .geq, .geq | .and, .and | .xor, .xor | .shr, .shr => true
  | _, _ => false
theorem opEq_ok {a b : BinOp} (h : opEq a b = true) : a = b := by cases a <;> cases b <;> first | rfl | simp [opEq] at h

def isSlTy (P : Program) (t : TypeId) : Option TypeId := match P.underlying t with | some (.slice e) => some e | _ => none
def isStrTy (P : Program) (t : TypeId) : Bool := match P.underlying t with | some .string => true | _ => false
def isBoolTy (P : Program) (t : TypeId) : Bool := match P.underlying t with | some .bool => true | _ => false
def intTy (P : Program) (t : TypeId) : Option IntKind := match P.underlying t with | some (.int k) => some k | _ => none
def fieldOf (P : Program) (t : TypeId) (f : Nat) : Option Field := match P.underlying t with | some (.struct fs) => fs[f]? | _ => none
def zeroOk (P : Program) (t : TypeId) (z : List AV) : Bool := match (P.info? t).bind (·.zero) with | some zv => vmL z zv.cells.toList && allOne z | none => false
theorem isSlTy_ok {P : Program} {t e : TypeId} (h : isSlTy P t = some e) : P.underlying t = some (.slice e) := by
  unfold isSlTy at h; split at h <;> simp_all
theorem isStrTy_ok {P : Program} {t : TypeId} (h : isStrTy P t = true) : P.underlying t = some .string := by
  unfold isStrTy at h; split at h <;> simp_all
theorem isBoolTy_ok {P : Program} {t : TypeId} (h : isBoolTy P t = true) : P.underlying t = some .bool := by
  unfold isBoolTy at h; split at h <;> simp_all
theorem intTy_ok {P : Program} {t : TypeId} {k : IntKind} (h : intTy P t = some k) : P.underlying t = some (.int k) := by
  unfold intTy at h; split at h <;> simp_all
theorem fieldOf_ok {P : Program} {t : TypeId} {f : Nat} {fd : Field} (h : fieldOf P t f = some fd) : ∃ fs, P.underlying t = some (.struct fs) ∧ fs[f]? = some fd := by
  unfold fieldOf at h; split at h
  · rename_i fs e; exact ⟨fs, e, h⟩
  · cases h
theorem zeroOk_ok {P : Program} {t : TypeId} {z : List AV} (h : zeroOk P t z = true) : ∃ zv, ((P.info? t).bind (·.zero)) = some zv ∧ vmL z zv.cells.toList = true ∧ allOne z = true := by
  unfold zeroOk at h; split at h
  · rename_i zv e; simp only [Bool.and_eq_true] at h; exact ⟨zv, e, h.1, h.2⟩
  · cases h

/-- The parts of a struct that is built. -/
def chkPs (fs : Array Field) (P : Program) : List (Nat × Nat × X) → List (Nat × Operand) → Bool
  | [], [] => true
  | (off, n, x) :: ps, (j, p) :: qs => (match fs[j]? with | some fd => fd.offset == off && tsz P fd.type == some n | none => false) && chkX x p && chkPs fs P ps qs
  | _, _ => false
theorem chkPs_ok {fs : Array Field} {P : Program} : ∀ {ps : List (Nat × Nat × X)} {qs : List (Nat × Operand)}, chkPs fs P ps qs = true → ps.length = qs.length ∧
    ∀ (i off n : Nat) (x : X) (j : Nat) (p : Operand), ps[i]? = some (off, n, x) → qs[i]? = some (j, p) → (∃ fd, fs[j]? = some fd ∧ fd.offset = off ∧ tsz P fd.type = some n) ∧ chkX x p = true
  | [], [], _ => ⟨rfl, by intro i off n x j p h; simp at h⟩
  | (off, n, x) :: ps, (j, p) :: qs, h => by
    simp only [chkPs, Bool.and_eq_true] at h
    obtain ⟨⟨h1, h2⟩, h3⟩ := h
    obtain ⟨q1, q2⟩ := chkPs_ok h3
    refine ⟨by simp [q1], fun i off' n' x' j' p' hy hq => ?_⟩
    cases i with
    | zero =>
      simp at hy hq
      obtain ⟨rfl, rfl, rfl⟩ := hy
      obtain ⟨rfl, rfl⟩ := hq
      split at h1
      · rename_i fd hfd
        simp only [Bool.and_eq_true, beq_iff_eq] at h1
        exact ⟨⟨fd, hfd, h1.1, h1.2⟩, h2⟩
      · cases h1
    | succ i => simp at hy hq; exact q2 i _ _ _ _ _ hy hq
  | [], _ :: _, h => by simp [chkPs] at h
  | _ :: _, [], h => by simp [chkPs] at h

def idxFrom : Nat → List (Nat × Operand) → Bool
  | _, [] => true
  | k, (i, _) :: l => i == k && idxFrom (k + 1) l
theorem idxFrom_ok : ∀ {l : List (Nat × Operand)} {k : Nat}, idxFrom k l = true → l = ((l.map (·.2)).zipIdx k).map fun (q, i) => (i, q)
  | [], k, _ => rfl
  | (i, q) :: l, k, h => by
    simp only [idxFrom, Bool.and_eq_true, beq_iff_eq] at h
    have := idxFrom_ok h.2
    simp only [List.map_cons, List.zipIdx_cons, h.1]
    rw [← this]

def asB : Op → Option (Builtin × List Operand × List TypeId)
  | .call c => match c.callee with | .builtin b => some (b, c.args.toList, c.argTypes.toList) | _ => none
  | _ => none
theorem asB_ok {op : Op} {b : Builtin} {ps : List Operand} {ts : List TypeId} (h : asB op = some (b, ps, ts)) : op = .call { callee := .builtin b, args := ps.toArray, argTypes := ts.toArray } := by
  cases op <;> simp only [asB, reduceCtorEq] at h
  rename_i c
  obtain ⟨ce, ar, at'⟩ := c
  cases ce <;> simp only [reduceCtorEq, Option.some.injEq, Prod.mk.injEq] at h
  obtain ⟨rfl, rfl, rfl⟩ := h
  simp
def asV : Op → Option (Operand × List Operand × List TypeId)
  | .call c => match c.callee with | .value f => some (f, c.args.toList, c.argTypes.toList) | _ => none
  | _ => none
theorem asV_ok {op : Op} {b : Operand} {ps : List Operand} {ts : List TypeId} (h : asV op = some (b, ps, ts)) : op = .call { callee := .value b, args := ps.toArray, argTypes := ts.toArray } := by
  cases op <;> simp only [asV, reduceCtorEq] at h
  rename_i c
  obtain ⟨ce, ar, at'⟩ := c
  cases ce <;> simp only [reduceCtorEq, Option.some.injEq, Prod.mk.injEq] at h
  obtain ⟨rfl, rfl, rfl⟩ := h
  simp

/-- The check. -/
def chkOp (P : Program) : LOp → Op → Bool
  | .mv _ x, .move p => chkX x p
  | .mv _ x, .assign p => chkX x p || chkK x p
  | .pk _ c a b, .pick p q r => chkX c p && chkX a q && chkX b r
  | .un _ x, .unOp .not _ p => chkX x p
  | .bi _ op x y, .binOp op' _ p q _ => opEq op op' && chkX x p && chkX y q
  | .eb _ ne x y, .binOp op t p q _ => opEq op (if ne then .neq else .eql) && isBoolTy P t && chkX x p && chkX y q
  | .es _ ne ks x y, .binOp op t p q _ => opEq op (if ne then .neq else .eql) && eqK P 20 t == some ks && tag? P t == some true && P.eqGuardType P.depth t == false && chkX x p && chkX y q
  | .sa _ x y, .binOp .add _ p q _ => chkX x p && chkX y q
  | .cv _ k x, .convert t u p => (P.underlying t).isSome && decide (intTy P u = some k) && chkX x p
  | .fa _ x off, .fieldAddr t p f => (match fieldOf P t f with | some fd => fd.offset == off && (match tsz P fd.type with | some n => n != 0 | none => false) | none => false) && chkX x p
  | .ia _ x i n, .indexAddr t p q => (match isSlTy P t with | some e => tsz P e == some n | none => false) && chkX x p && chkX i q
  | .ix _ x i, .index t p q => isStrTy P t && chkX x p && chkX i q
  | .ld _ x n ag, .load t p => tsz P t == some n && tag? P t == some ag && (ag || n == 1) && chkX x p
  | .st x y n, .store t p q => tsz P t == some n && chkX x p && chkX y q
  | .al _ z, .alloc t => zeroOk P t z
  | .bx _ x, .box _ p => chkX x p
  | .bd _ z ps, .build t qs => (match P.underlying t with | some (.struct fs) => chkPs fs P ps qs.toList && fs.all (fun fd => (tsz P fd.type).isSome) | _ => false) && zeroOk P t z
  | .bs _ sz ps _, .buildSlice t n qs => (match isSlTy P t with | some e => tsz P e == some sz && ((P.info? e).bind (·.zero)).isSome | none => false) && n == qs.size && idxFrom 0 qs.toList && chkXs ps (qs.toList.map (·.2))
  | .ms _ sz by' z x, .makeSlice t p q => (match isSlTy P t with | some e => tsz P e == some sz && tby P e == some by' && zeroOk P e z | none => false) && z.length == sz && sz != 0 && chkX x p && chkX x q && (match p, q with | .tmp i, .tmp j => i == j | _, _ => false)
  | .ln _ x, op => (match asB op with | some (.len, [p], [t]) => (isSlTy P t).isSome && chkX x p | _ => false)
  | .lq _ x, op => (match asB op with | some (.len, [p], [t]) => (isSlTy P t).isSome && chkX x p | _ => false)
  | .ls _ x, op => (match asB op with | some (.len, [p], [t]) => isStrTy P t && chkX x p | _ => false)
  | .ap _ x y sz by', op => (match asB op with
    | some (.append, [p, q], [t, t']) => t == t' && (match isSlTy P t with | some e => (match P.info? e with | some i => (match i.zero with | some z => z.cells.size == i.size | none => false) && i.size == sz && i.bytes == by' | none => false) | none => false) && by' != 0 && chkX x p && chkX y q
    | _ => false)
  | .sc _ x lo hi n, .slice t p pl ph none => (match isSlTy P t with | some e => tsz P e == some n | none => false) && chkX x p && chkO lo pl && chkO hi ph
  | .ss _ x lo hi, .slice t p pl ph none => isStrTy P t && chkX x p && chkO lo pl && chkO hi ph
  | .ex _ x i, .extract p j => i == j && chkX x p
  | .fd _ x off n ag, .field t p f => (match fieldOf P t f with | some fd => fd.offset == off && tsz P fd.type == some n && tag? P fd.type == some ag | none => false) && chkX x p
  | .nc _ x, .nilCheck p => chkX x p
  | .mm _ true x y, op => (match asB op with | some (.max, [p, q], _) => chkX x p && chkX y q | _ => false)
  | .mm _ false x y, op => (match asB op with | some (.min, [p, q], _) => chkX x p && chkX y q | _ => false)
  | .b2s _ x, .convert t u p => (match isSlTy P t with | some e => decide (intTy P e = some .u8) | none => false) && isStrTy P u && chkX x p
  | .s2b _ x, .convert t u p => isStrTy P t && (match isSlTy P u with | some e => decide (intTy P e = some .u8) | none => false) && chkX x p
  | .mf _ f xs, .makeFunc (.func f') ⟨[]⟩ ps => f == f' && chkXs xs ps.toList
  | .cl _ f xs, op => (match asV op with | some (.func f', ps, _) => f == f' && isFn P f && chkXs xs ps | _ => false)
  | .cq _ f xs, op => (match asV op with | some (.func f', ps, _) => f == f' && isFn P f && chkXs xs ps | _ => false)
  | .cc _ fx xs, op => (match asV op with | some (fp, ps, _) => chkX fx fp && chkXs xs ps | _ => false)
  | .cn _ f xs, op => (match asV op with | some (.func f', ps, _) => f == f' && isFn P f && chkXs xs ps | _ => false)
  | .cm _ f xs, op => (match asV op with | some (.func f', ps, _) => f == f' && isFn P f && chkXs xs ps | _ => false)
  | _, _ => false

def hasDst : LOp → Bool | .st _ _ _ => false | _ => true

section
variable {P : Program} {c : Cx} {g : Gh} {s : St} {a : Act} {w : World}
variable {o : Oper} {K : St → Prop} {K' : Act → World → Prop} {Q' : Exit → Act → World → Prop}

theorem op_sound (I : Inv c g s a w) (hK : ∀ g' s' a' w', Inv c g' s' a' w' → K s' → K' a' w') {l : LOp} (hc : chkOp P l o.op = true)
    (hd : o.dst = if hasDst l then some l.dst else none) (hlt : l.dst < c.nt) (h : wop P l K s) : o.wp P a w K' Q' := by
  cases l with
  | mv d x =>
    simp only [hasDst, if_true, LOp.dst] at hd hlt
    generalize ho : o.op = op at hc
    cases op <;> simp only [chkOp, Bool.false_eq_true, Bool.or_eq_true] at hc
    · exact sok_mv I hK hd hlt (.inl ho) hc h
    · rcases hc with hc | hc
      · exact sok_mv I hK hd hlt (.inr ho) hc h
      · exact sok_mvk I hK hd hlt ho hc h
  | pk d x y z =>
    simp only [hasDst, if_true, LOp.dst] at hd hlt
    generalize ho : o.op = op at hc
    cases op <;> simp only [chkOp, Bool.false_eq_true, Bool.and_eq_true] at hc
    exact sok_pk I hK hd hlt ho hc.1.1 hc.1.2 hc.2 h
  | un d x =>
    simp only [hasDst, if_true, LOp.dst] at hd hlt
    generalize ho : o.op = op at hc
    cases op <;> try (simp only [chkOp, Bool.false_eq_true] at hc; done)
    rename_i u t p
    cases u <;> simp only [chkOp, Bool.false_eq_true] at hc
    exact sok_un I hK hd hlt ho hc h
  | bi d op x y =>
    simp only [hasDst, if_true, LOp.dst] at hd hlt
    generalize ho : o.op = oo at hc
    cases oo <;> simp only [chkOp, Bool.false_eq_true, Bool.and_eq_true] at hc
    rw [← opEq_ok hc.1.1] at ho
    exact sok_bi I hK hd hlt ho hc.1.2 hc.2 h
  | eb d ne x y =>
    simp only [hasDst, if_true, LOp.dst] at hd hlt
    generalize ho : o.op = oo at hc
    cases oo <;> simp only [chkOp, Bool.false_eq_true, Bool.and_eq_true] at hc
    rw [opEq_ok hc.1.1.1] at ho
    exact sok_eb I hK hd hlt ho (isBoolTy_ok hc.1.1.2) hc.1.2 hc.2 h
  | es d ne ks x y =>
    simp only [hasDst, if_true, LOp.dst] at hd hlt
    generalize ho : o.op = oo at hc
    cases oo <;> simp only [chkOp, Bool.false_eq_true, Bool.and_eq_true, beq_iff_eq] at hc
    rw [opEq_ok hc.1.1.1.1.1] at ho
    exact sok_es I hK hd hlt ho hc.1.1.1.1.2 hc.1.1.1.2 hc.1.1.2 hc.1.2 hc.2 h
  | sa d x y =>
    simp only [hasDst, if_true, LOp.dst] at hd hlt
    generalize ho : o.op = oo at hc
    cases oo <;> try (simp only [chkOp, Bool.false_eq_true] at hc; done)
    rename_i b t p q u
    cases b <;> simp only [chkOp, Bool.false_eq_true, Bool.and_eq_true] at hc
    exact sok_sa I hK hd hlt ho hc.1 hc.2 h
  | cv d k x =>
    simp only [hasDst, if_true, LOp.dst] at hd hlt
    generalize ho : o.op = oo at hc
    cases oo <;> simp only [chkOp, Bool.false_eq_true, Bool.and_eq_true, decide_eq_true_eq] at hc
    exact sok_cv I hK hd hlt ho hc.1.1 (intTy_ok hc.1.2) hc.2 h
  | fa d x off =>
    simp only [hasDst, if_true, LOp.dst] at hd hlt
    generalize ho : o.op = oo at hc
    cases oo <;> simp only [chkOp, Bool.false_eq_true, Bool.and_eq_true] at hc
    obtain ⟨hc, hx⟩ := hc
    split at hc
    · rename_i fd hf
      simp only [Bool.and_eq_true, beq_iff_eq] at hc
      obtain ⟨rfl, hc⟩ := hc
      split at hc
      · rename_i n hn
        obtain ⟨fs, h1, h2⟩ := fieldOf_ok hf
        exact sok_fa I hK hd hlt ho h1 h2 hn (by simpa using hc) hx h
      · cases hc
    · cases hc
  | ia d x i n =>
    simp only [hasDst, if_true, LOp.dst] at hd hlt
    generalize ho : o.op = oo at hc
    cases oo <;> simp only [chkOp, Bool.false_eq_true, Bool.and_eq_true] at hc
    obtain ⟨⟨hc, hx⟩, hi⟩ := hc
    split at hc
    · rename_i e he
      exact sok_ia I hK hd hlt ho (isSlTy_ok he) (by simpa using hc) hx hi h
    · cases hc
  | ix d x i =>
    simp only [hasDst, if_true, LOp.dst] at hd hlt
    generalize ho : o.op = oo at hc
    cases oo <;> simp only [chkOp, Bool.false_eq_true, Bool.and_eq_true] at hc
    exact sok_ix I hK hd hlt ho (isStrTy_ok hc.1.1) hc.1.2 hc.2 h
  | ld d x n ag =>
    simp only [hasDst, if_true, LOp.dst] at hd hlt
    generalize ho : o.op = oo at hc
    cases oo <;> simp only [chkOp, Bool.false_eq_true, Bool.and_eq_true, beq_iff_eq, Bool.or_eq_true] at hc
    exact sok_ld I hK hd hlt ho hc.1.1.1 hc.1.1.2 (fun hag => by rcases hc.1.2 with h | h; rw [hag] at h; cases h; exact h) hc.2 h
  | st x y n =>
    simp only [hasDst, Bool.false_eq_true, if_false] at hd
    generalize ho : o.op = oo at hc
    cases oo <;> simp only [chkOp, Bool.false_eq_true, Bool.and_eq_true, beq_iff_eq] at hc
    exact sok_st I hK hd ho hc.1.1 hc.1.2 hc.2 h
  | al d z =>
    simp only [hasDst, if_true, LOp.dst] at hd hlt
    generalize ho : o.op = oo at hc
    cases oo <;> simp only [chkOp, Bool.false_eq_true] at hc
    obtain ⟨zv, h1, h2, h3⟩ := zeroOk_ok hc
    exact sok_al I hK hd hlt ho h1 h2 h3 h
  | bx d x =>
    simp only [hasDst, if_true, LOp.dst] at hd hlt
    generalize ho : o.op = oo at hc
    cases oo <;> simp only [chkOp, Bool.false_eq_true] at hc
    exact sok_bx I hK hd hlt ho hc h
  | bd d z ps =>
    simp only [hasDst, if_true, LOp.dst] at hd hlt
    generalize ho : o.op = oo at hc
    cases oo <;> simp only [chkOp, Bool.false_eq_true, Bool.and_eq_true] at hc
    rename_i t qs
    obtain ⟨hc, hz⟩ := hc
    split at hc
    · rename_i fs hfs
      simp only [Bool.and_eq_true] at hc
      obtain ⟨hps, hall⟩ := hc
      obtain ⟨zv, h1, h2, h3⟩ := zeroOk_ok hz
      obtain ⟨q1, q2⟩ := chkPs_ok hps
      refine sok_bd (qs := qs.toList) I hK hd hlt (by simpa using ho) hfs h1 h2 h3 q1 q2 (fun fd hfd => ?_) h
      rw [Array.all_eq_true'] at hall
      exact hall fd hfd
    · cases hc
  | bs d sz ps own =>
    simp only [hasDst, if_true, LOp.dst] at hd hlt
    generalize ho : o.op = oo at hc
    cases oo <;> simp only [chkOp, Bool.false_eq_true, Bool.and_eq_true, beq_iff_eq] at hc
    rename_i t n qs
    obtain ⟨⟨⟨hc, hn⟩, hidx⟩, hxs⟩ := hc
    split at hc
    · rename_i e he
      simp only [Bool.and_eq_true, beq_iff_eq] at hc
      obtain ⟨zv, hz⟩ := Option.isSome_iff_exists.1 hc.2
      have hq := idxFrom_ok hidx
      refine sok_bs (qs := qs.toList.map (·.2)) I hK hd hlt ?_ (isSlTy_ok he) hc.1 hz (chkXs_ok hxs) h
      rw [ho, hn]
      congr 1
      · simp
      · rw [← hq]
    · cases hc
  | ms d sz by' z x =>
    simp only [hasDst, if_true, LOp.dst] at hd hlt
    generalize ho : o.op = oo at hc
    cases oo <;> simp only [chkOp, Bool.false_eq_true, Bool.and_eq_true, beq_iff_eq] at hc
    rename_i t p q
    obtain ⟨⟨⟨⟨⟨hc, hzl⟩, hsz⟩, hx⟩, _⟩, hpq⟩ := hc
    have hpq' : p = q := by
      split at hpq
      · simp only [beq_iff_eq] at hpq; subst hpq; rfl
      · cases hpq
    subst hpq'
    split at hc
    · rename_i e he
      simp only [Bool.and_eq_true, beq_iff_eq] at hc
      obtain ⟨⟨h1, h2⟩, h3⟩ := hc
      obtain ⟨zv, z1, z2, z3⟩ := zeroOk_ok h3
      unfold tsz at h1
      unfold tby at h2
      obtain ⟨i, hi, e1⟩ := Option.map_eq_some_iff.1 h1
      rw [hi] at h2 z1
      simp only [Option.map_some, Option.some.injEq] at h2
      simp only [Option.bind_some] at z1
      exact sok_ms I hK hd hlt ho (isSlTy_ok he) hi z1 e1 h2 z2 z3 hzl (Nat.pos_of_ne_zero (by simpa using hsz)) hx h
    · cases hc
  | ln d x =>
    simp only [hasDst, if_true, LOp.dst] at hd hlt
    simp only [chkOp] at hc
    split at hc
    · rename_i p t e
      simp only [Bool.and_eq_true] at hc
      obtain ⟨el, hel⟩ := Option.isSome_iff_exists.1 hc.1
      exact sok_ln I hK hd hlt (asB_ok e) (isSlTy_ok hel) hc.2 h
    · cases hc
  | lq d x =>
    simp only [hasDst, if_true, LOp.dst] at hd hlt
    simp only [chkOp] at hc
    split at hc
    · rename_i p t e
      simp only [Bool.and_eq_true] at hc
      obtain ⟨el, hel⟩ := Option.isSome_iff_exists.1 hc.1
      exact sok_lq I hK hd hlt (asB_ok e) (isSlTy_ok hel) hc.2 h
    · cases hc
  | ls d x =>
    simp only [hasDst, if_true, LOp.dst] at hd hlt
    simp only [chkOp] at hc
    split at hc
    · rename_i p t e
      simp only [Bool.and_eq_true] at hc
      exact sok_ls I hK hd hlt (asB_ok e) (isStrTy_ok hc.1) hc.2 h
    · cases hc
  | ap d x y sz by' =>
    simp only [hasDst, if_true, LOp.dst] at hd hlt
    simp only [chkOp] at hc
    split at hc
    · rename_i p q t t' e
      simp only [Bool.and_eq_true, beq_iff_eq, bne_iff_ne] at hc
      obtain ⟨⟨⟨⟨rfl, hc⟩, hb0⟩, hx⟩, hy⟩ := hc
      split at hc
      · rename_i el hel
        split at hc
        · rename_i i hi
          simp only [Bool.and_eq_true, beq_iff_eq] at hc
          obtain ⟨⟨hc, h1⟩, h2⟩ := hc
          split at hc
          · rename_i z hz
            exact sok_ap I hK hd hlt (asB_ok e) (isSlTy_ok hel) hi hz h1 h2 (Nat.pos_of_ne_zero hb0) (by simpa using hc) hx hy h
          · cases hc
        · cases hc
      · cases hc
    · cases hc
  | sc d x lo hi n =>
    simp only [hasDst, if_true, LOp.dst] at hd hlt
    generalize ho : o.op = oo at hc
    cases oo <;> try (simp only [chkOp, Bool.false_eq_true] at hc; done)
    rename_i t p pl ph pm
    cases pm <;> simp only [chkOp, Bool.false_eq_true, Bool.and_eq_true] at hc
    obtain ⟨⟨⟨hc, hx⟩, hl⟩, hh⟩ := hc
    split at hc
    · rename_i e he
      exact sok_sc I hK hd hlt ho (isSlTy_ok he) (by simpa using hc) hx hl hh h
    · cases hc
  | ss d x lo hi =>
    simp only [hasDst, if_true, LOp.dst] at hd hlt
    generalize ho : o.op = oo at hc
    cases oo <;> try (simp only [chkOp, Bool.false_eq_true] at hc; done)
    rename_i t p pl ph pm
    cases pm <;> simp only [chkOp, Bool.false_eq_true, Bool.and_eq_true] at hc
    obtain ⟨⟨⟨hc, hx⟩, hl⟩, hh⟩ := hc
    exact sok_ss I hK hd hlt ho (isStrTy_ok hc) hx hl hh h
  | ex d x i =>
    simp only [hasDst, if_true, LOp.dst] at hd hlt
    generalize ho : o.op = oo at hc
    cases oo <;> simp only [chkOp, Bool.false_eq_true, Bool.and_eq_true, beq_iff_eq] at hc
    rw [← hc.1] at ho
    exact sok_ex I hK hd hlt ho hc.2 h
  | fd d x off n ag =>
    simp only [hasDst, if_true, LOp.dst] at hd hlt
    generalize ho : o.op = oo at hc
    cases oo <;> simp only [chkOp, Bool.false_eq_true, Bool.and_eq_true] at hc
    obtain ⟨hc, hx⟩ := hc
    split at hc
    · rename_i fd hf
      simp only [Bool.and_eq_true, beq_iff_eq] at hc
      obtain ⟨⟨rfl, h1⟩, h2⟩ := hc
      obtain ⟨fs, q1, q2⟩ := fieldOf_ok hf
      exact sok_fd I hK hd hlt ho q1 q2 h1 h2 hx h
    · cases hc
  | nc d x =>
    simp only [hasDst, if_true, LOp.dst] at hd hlt
    generalize ho : o.op = oo at hc
    cases oo <;> simp only [chkOp, Bool.false_eq_true] at hc
    exact sok_nc I hK hd hlt ho hc h
  | mm d mx x y =>
    simp only [hasDst, if_true, LOp.dst] at hd hlt
    cases mx <;> simp only [chkOp] at hc <;> split at hc
    · rename_i p q ts e
      simp only [Bool.and_eq_true] at hc
      exact sok_mm (mx := false) I hK hd hlt (asB_ok e) hc.1 hc.2 h
    · cases hc
    · rename_i p q ts e
      simp only [Bool.and_eq_true] at hc
      exact sok_mm (mx := true) I hK hd hlt (asB_ok e) hc.1 hc.2 h
    · cases hc
  | b2s d x =>
    simp only [hasDst, if_true, LOp.dst] at hd hlt
    generalize ho : o.op = oo at hc
    cases oo <;> simp only [chkOp, Bool.false_eq_true, Bool.and_eq_true] at hc
    obtain ⟨⟨hc, hu⟩, hx⟩ := hc
    split at hc
    · rename_i e he
      exact sok_b2s I hK hd hlt ho (isSlTy_ok he) (intTy_ok (by simpa using hc)) (isStrTy_ok hu) hx h
    · cases hc
  | s2b d x =>
    simp only [hasDst, if_true, LOp.dst] at hd hlt
    generalize ho : o.op = oo at hc
    cases oo <;> simp only [chkOp, Bool.false_eq_true, Bool.and_eq_true] at hc
    obtain ⟨⟨hu, hc⟩, hx⟩ := hc
    split at hc
    · rename_i e he
      exact sok_s2b I hK hd hlt ho (isStrTy_ok hu) (isSlTy_ok he) (intTy_ok (by simpa using hc)) hx h
    · cases hc
  | mf d f xs =>
    simp only [hasDst, if_true, LOp.dst] at hd hlt
    generalize ho : o.op = oo at hc
    unfold chkOp at hc
    split at hc <;> simp_all
    rename_i ps
    exact sok_mf (ps := ps.toList) I hK hd hlt (by simpa using ho) (chkXs_ok hc.2) h
  | cl d f xs =>
    simp only [hasDst, if_true, LOp.dst] at hd hlt
    simp only [chkOp] at hc
    split at hc
    · rename_i f' ps ts e
      simp only [Bool.and_eq_true, beq_iff_eq] at hc
      obtain ⟨⟨rfl, hf⟩, hx⟩ := hc
      exact sok_cl I hK hd hlt (asV_ok e) hf (chkXs_ok hx) h
    · cases hc
  | cq d f xs =>
    simp only [hasDst, if_true, LOp.dst] at hd hlt
    simp only [chkOp] at hc
    split at hc
    · rename_i f' ps ts e
      simp only [Bool.and_eq_true, beq_iff_eq] at hc
      obtain ⟨⟨rfl, hf⟩, hx⟩ := hc
      exact sok_cq I hK hd hlt (asV_ok e) hf (chkXs_ok hx) h
    · cases hc
  | cc d fx xs =>
    simp only [hasDst, if_true, LOp.dst] at hd hlt
    simp only [chkOp] at hc
    split at hc
    · rename_i fp ps ts e
      simp only [Bool.and_eq_true] at hc
      exact sok_cc I hK hd hlt (asV_ok e) hc.1 (chkXs_ok hc.2) h
    · cases hc
  | cm d f xs =>
    simp only [hasDst, if_true, LOp.dst] at hd hlt
    simp only [chkOp] at hc
    split at hc
    · rename_i f' ps ts e
      simp only [Bool.and_eq_true, beq_iff_eq] at hc
      obtain ⟨⟨rfl, hf⟩, hx⟩ := hc
      exact sok_cm I hK hd hlt (asV_ok e) hf (chkXs_ok hx) h
    · cases hc
  | cn d f xs =>
    simp only [hasDst, if_true, LOp.dst] at hd hlt
    simp only [chkOp] at hc
    split at hc
    · rename_i f' ps ts e
      simp only [Bool.and_eq_true, beq_iff_eq] at hc
      obtain ⟨⟨rfl, hf⟩, hx⟩ := hc
      exact sok_cn I hK hd hlt (asV_ok e) hf (chkXs_ok hx) h
    · cases hc
  | g t want l => simp [chkOp] at hc
  | cs t => simp [chkOp] at hc
  | fz t => simp [chkOp] at hc
  | fb t => simp [chkOp] at hc
end
end Go.Proofs.Ythbbieobcokgbaa.Eng
