/-
  The engine, part 7: soundness of what makes and writes memory.
-/
import Derived.Test.YthbbieobcokgbaaEng6
import Derived.OwnWalk
namespace Go.Proofs.Ythbbieobcokgbaa.Eng
open Go Go.RowKit

section
variable {P : Program} {c : Cx} {g : Gh} {s : St} {a : Act} {w : World}

theorem Rd.one_cell {S : Nat → Nat → Prop} {N : Nat → Prop} {x : AV} {v : Value} (h : Rd w S N x v) (h1 : x.one = true) : v.oneCell' = true := by
  cases h <;> first | rfl | simp [AV.one] at h1
theorem Gv.one_cell {x : AV} {v : Value} (h : Gv w g s x v) (h1 : x.one = true) : v.oneCell' = true := by
  cases h with
  | data _ _ h => exact h.one_cell h1
  | sref _ _ q _ => exact q
  | ptr _ _ _ q _ => exact q
  | rpt _ _ _ _ q _ => exact q
  | bad => simp [AV.one] at h1
  | und => simp [AV.one] at h1
  | agg => simp [AV.one] at h1
  | tup => simp [AV.one] at h1
  | ept => rfl
  | fn => rfl

theorem cells_of_one {v : Value} (h : v.oneCell' = true) : v.cells = #[v] := by cases v <;> first | rfl | simp [Value.oneCell'] at h

/-- A value's cells. -/
theorem Gv.cells {x : AV} {v : Value} (h : Gv w g s x v) (h1 : allOne x.cells = true) : ∃ vs : List Value, v.cells = vs.toArray ∧ x.cells.length = vs.length ∧
    ∀ (i : Nat) (y : AV) (u : Value), x.cells[i]? = some y → vs[i]? = some u → y.one = true ∧ u.oneCell' = true ∧ Gv w g s y u := by
  cases hx : x with
  | agg cs =>
    subst hx
    obtain ⟨vs, rfl, hl, _, hg⟩ := h.agg_inv
    refine ⟨vs, rfl, hl, fun i y u hy hu => ?_⟩
    have hone : y.one = true := by
      simp only [allOne, AV.cells, List.all_eq_true] at h1
      exact h1 y (List.mem_of_getElem? hy)
    exact ⟨hone, (hg i y u hy hu).one_cell hone, hg i y u hy hu⟩
  | _ =>
    rw [← hx]
    have hxc : x.cells = [x] := by rw [hx]; rfl
    have hone : x.one = true := by rw [hxc] at h1; simpa [allOne] using h1
    refine ⟨[v], by rw [cells_of_one (h.one_cell hone)], by rw [hxc]; rfl, fun i y u hy hu => ?_⟩
    rw [hxc] at hy
    cases i with
    | zero => simp at hy hu; subst hy; subst hu; exact ⟨hone, h.one_cell hone, h⟩
    | succ i => simp at hy

/-- Lists that stand for one another, place by place. -/
def Al (w : World) (g : Gh) (s : St) (cs : List AV) (vs : List Value) : Prop :=
  cs.length = vs.length ∧ ∀ (i : Nat) (y : AV) (u : Value), cs[i]? = some y → vs[i]? = some u → (y.one = true ∨ y = .bad) ∧ u.oneCell' = true ∧ Gv w g s y u

theorem putC_get {cs vs : List AV} {off i : Nat} (h : off + vs.length ≤ cs.length) :
    (putC cs off vs)[i]? = if off ≤ i ∧ i < off + vs.length then vs[i - off]? else cs[i]? := by
  unfold putC
  by_cases h1 : i < off
  · rw [if_neg (by omega), List.append_assoc, List.getElem?_append_left (by simp; omega), List.getElem?_take, if_pos h1]
  · by_cases h2 : i < off + vs.length
    · rw [if_pos ⟨by omega, h2⟩, List.append_assoc, List.getElem?_append_right (by simp; omega), List.getElem?_append_left (by simp; omega)]
      congr 1; simp; omega
    · rw [if_neg (by omega), List.getElem?_append_right (by simp; omega), List.getElem?_drop]
      congr 1; simp; omega
theorem putC_len {cs vs : List AV} {off : Nat} (h : off + vs.length ≤ cs.length) : (putC cs off vs).length = cs.length := by
  unfold putC; simp; omega

def putV (cs : List Value) (off : Nat) (vs : List Value) : List Value := cs.take off ++ vs ++ cs.drop (off + vs.length)
theorem putV_get {cs vs : List Value} {off i : Nat} (h : off + vs.length ≤ cs.length) :
    (putV cs off vs)[i]? = if off ≤ i ∧ i < off + vs.length then vs[i - off]? else cs[i]? := by
  unfold putV
  by_cases h1 : i < off
  · rw [if_neg (by omega), List.append_assoc, List.getElem?_append_left (by simp; omega), List.getElem?_take, if_pos h1]
  · by_cases h2 : i < off + vs.length
    · rw [if_pos ⟨by omega, h2⟩, List.append_assoc, List.getElem?_append_right (by simp; omega), List.getElem?_append_left (by simp; omega)]
      congr 1; simp; omega
    · rw [if_neg (by omega), List.getElem?_append_right (by simp; omega), List.getElem?_drop]
      congr 1; simp; omega
theorem putV_len {cs vs : List Value} {off : Nat} (h : off + vs.length ≤ cs.length) : (putV cs off vs).length = cs.length := by
  unfold putV; simp; omega

theorem Al.put {cs xs : List AV} {vs us : List Value} {off : Nat} (h : Al w g s cs vs) (h2 : Al w g s xs us) (hle : off + xs.length ≤ cs.length) : Al w g s (putC cs off xs) (putV vs off us) := by
  have e1 := h.1
  have e2 := h2.1
  refine ⟨by rw [putC_len hle, putV_len (by omega)]; exact e1, fun i y u hy hu => ?_⟩
  rw [putC_get hle] at hy
  rw [putV_get (by omega), ← e2] at hu
  split at hy
  · rename_i hc
    rw [if_pos hc] at hu
    exact h2.2 _ _ _ hy hu
  · rename_i hc
    rw [if_neg hc] at hu
    exact h.2 _ _ _ hy hu

theorem foldl_set (off : Nat) : ∀ (vs : List Value) (k : Nat) (cs : Array Value), off + k + vs.length ≤ cs.size →
    ((vs.zipIdx k).foldl (fun cs (x : Value × Nat) => cs.setIfInBounds (off + x.2) x.1) cs) = (putV cs.toList (off + k) vs).toArray
  | [], k, cs, h => by simp [putV]
  | v :: vs, k, cs, h => by
    simp only [List.zipIdx_cons, List.foldl_cons]
    simp only [List.length_cons] at h
    rw [foldl_set off vs (k + 1) _ (by simp; omega)]
    congr 1
    apply List.ext_getElem?
    intro i
    rw [putV_get (by simp; omega), putV_get (by simp; omega)]
    simp only [Array.toList_setIfInBounds, List.getElem?_set, List.length_cons, Array.length_toList]
    by_cases h1 : i = off + k
    · subst h1
      rw [if_neg (by omega), if_pos rfl, if_pos (by omega), if_pos ⟨by omega, by omega⟩]; simp
    · by_cases h2 : off + (k + 1) ≤ i ∧ i < off + (k + 1) + vs.length
      · rw [if_pos h2, if_pos ⟨by omega, by omega⟩]
        rw [show i - (off + k) = (i - (off + (k + 1))) + 1 by omega]; rfl
      · rw [if_neg h2, if_neg (by omega), if_neg (by omega)]

theorem fill_ok {place : Nat → Option (Nat × Nat)} : ∀ (ps : List (Nat × Nat × AV)) (qs : List (Nat × Value)) (z z' : List AV) (cs : List Value),
    ps.length = qs.length → (∀ (i off n : Nat) (x : AV) (j : Nat) (v : Value), ps[i]? = some (off, n, x) → qs[i]? = some (j, v) → place j = some (off, n) ∧ Gv w g s x v) →
    Al w g s z cs → buildC z ps = some z' → ∃ cs', Instr.fill place cs.toArray qs = some cs'.toArray ∧ Al w g s z' cs'
  | [], [], z, z', cs, _, _, hal, hb => by simp only [buildC, Option.some.injEq] at hb; subst hb; exact ⟨cs, rfl, hal⟩
  | (off, n, x) :: ps, (j, v) :: qs, z, z', cs, hl, hp, hal, hb => by
    simp only [buildC] at hb
    split at hb
    · rename_i hc
      obtain ⟨h1, h2, h3⟩ := hc
      obtain ⟨hpl, hg⟩ := hp 0 off n x j v rfl rfl
      obtain ⟨vs, hv, hvl, hva⟩ := hg.cells h3
      have hal' : Al w g s x.cells vs := ⟨hvl, fun i y u hy hu => ⟨.inl (hva i y u hy hu).1, (hva i y u hy hu).2⟩⟩
      have hle : off + x.cells.length ≤ z.length := by omega
      obtain ⟨cs', hf, hr⟩ := fill_ok ps qs (putC z off x.cells) z' (putV cs off vs) (by simpa using hl) (fun i => hp (i + 1)) (hal.put hal' hle) hb
      refine ⟨cs', ?_, hr⟩
      have hzl := hal.1
      have := foldl_set off vs 0 cs.toArray (by simp; omega)
      simp only [Nat.add_zero] at this
      simp only [Instr.fill, hpl, hv]
      rw [if_neg (by simp; omega)]
      rw [← hf]
      congr 1
      simpa using this
    · cases hb
  | [], _ :: _, _, _, _, hl, _, _, _ => by simp at hl
  | _ :: _, [], _, _, _, hl, _, _, _ => by simp at hl

section ops
variable {o : Oper} {d : Nat} {K : St → Prop} {K' : Act → World → Prop} {Q' : Exit → Act → World → Prop}

theorem al_zero {z : List AV} {vs : List Value} (h : vmL z vs = true) (h1 : allOne z = true) : Al w g s z vs := by
  obtain ⟨hl, hr⟩ := vmL_ok (w := w) (S := g.S) (N := g.N) h
  refine ⟨hl, fun i y u hy hu => ?_⟩
  have hone : y.one = true := by simp only [allOne, List.all_eq_true] at h1; exact h1 y (List.mem_of_getElem? hy)
  exact ⟨.inl hone, (hr i y u hy hu).one_cell hone, .data _ _ (hr i y u hy hu)⟩

theorem run_zero {t : TypeId} {zv : Value} (h : ((P.info? t).bind (·.zero)) = some zv) : (zeroValue t).run P w = .ok zv w := by
  obtain ⟨i, hi, hz⟩ := Option.bind_eq_some_iff.1 h
  simp [zeroValue, typeInfo, hi, hz]

theorem sok_bd (I : Inv c g s a w) (hK : ∀ g' s' a' w', Inv c g' s' a' w' → K s' → K' a' w') (hd : o.dst = some d) (hlt : d < c.nt)
    {z : List AV} {ps : List (Nat × Nat × X)} {qs : List (Nat × Operand)} {t : TypeId} {fs : Array Field} {zv : Value} (ho : o.op = .build t qs.toArray) (ht : P.underlying t = some (.struct fs))
    (hz : ((P.info? t).bind (·.zero)) = some zv) (hzm : vmL z zv.cells.toList = true) (hz1 : allOne z = true)
    (hl : ps.length = qs.length) (hp : ∀ (i off n : Nat) (x : X) (j : Nat) (p : Operand), ps[i]? = some (off, n, x) → qs[i]? = some (j, p) → (∃ fd, fs[j]? = some fd ∧ fd.offset = off ∧ tsz P fd.type = some n) ∧ chkX x p = true)
    (hsz : ∀ fd ∈ fs, (tsz P fd.type).isSome = true)
    (h : wop P (.bd d z ps) K s) : o.wp P a w K' Q' := by
  simp only [wop] at h
  split at h
  · rename_i cs hb
    obtain ⟨h1, h⟩ := h
    have hplaces : ∀ (l : List Field), (∀ fd ∈ l, (tsz P fd.type).isSome = true) → (l.mapM (fun f => do pure (f.offset, ← sizeOf f.type)) : Sem (List (Nat × Nat))).run P w =
        .ok (l.map fun f => (f.offset, (tsz P f.type).getD 0)) w := by
      intro l
      induction l with
      | nil => intro _; simp
      | cons f l ih =>
        intro hl
        obtain ⟨n, hn⟩ := Option.isSome_iff_exists.1 (hl f (by simp))
        simp only [List.mapM_cons, Sem.run_bind, run_sizeOf' hn, Result.andThen_ok, Sem.run_pure, ih (fun x hx => hl x (by simp [hx])), List.map_cons, hn, Option.getD_some]
    obtain ⟨cs', hf, hal⟩ := fill_ok (w := w) (g := g) (s := s) (place := fun i => (fs.map fun f => (f.offset, (tsz P f.type).getD 0))[i]?)
      (ps.map fun (off, n, x) => (off, n, s.get x)) (qs.map fun (j, p) => (j, a.eval p)) z cs zv.cells.toList (by simp [hl])
      (fun i off n x j v hi hj => by
        rw [List.getElem?_map] at hi hj
        obtain ⟨⟨off', n', x'⟩, hi', e⟩ := Option.map_eq_some_iff.1 hi
        obtain ⟨⟨j', p'⟩, hj', e'⟩ := Option.map_eq_some_iff.1 hj
        simp only [Prod.mk.injEq] at e e'
        obtain ⟨rfl, rfl, rfl⟩ := e
        obtain ⟨rfl, rfl⟩ := e'
        obtain ⟨⟨fd, h1, h2, h3⟩, h4⟩ := hp i _ _ _ _ _ hi' hj'
        exact ⟨by simp [h1, h2, h3], I.get h4⟩)
      (al_zero hzm hz1) hb
    refine sok (g' := g) (s' := s) (w' := w) (v := .agg cs'.toArray) hK hd hlt ?_ I (.agg _ _ hal.1 (fun y hy => .inl (by simp only [allOne, List.all_eq_true] at h1; exact h1 y hy)) (fun i y u hy hu => (hal.2 i y u hy hu).2.2)) h
    have hm : (fs.mapM (fun f => do pure (f.offset, ← sizeOf f.type)) : Sem (Array (Nat × Nat))).run P w = .ok (fs.map fun f => (f.offset, (tsz P f.type).getD 0)) w := by
      have := hplaces fs.toList (fun fd hfd => hsz fd (by simpa using hfd))
      rw [Array.mapM_eq_mapM_toList]
      simp only [Sem.run_map, this, Result.andThen_ok]
      rw [← List.map_toArray, Array.toArray_toList]
    rw [Array.toArray_toList] at hf
    simp only [execOp, ho, Sem.run_bind, Instr.build, run_zero hz, Result.andThen_ok, run_underlying ht, hm]
    have e1 : (Array.map (fun (x : Nat × Operand) => (x.1, a.eval x.2)) qs.toArray).toList = qs.map fun (j, p) => (j, a.eval p) := by simp
    rw [e1, hf]
    simp
  · exact h.elim
end ops
end
end Go.Proofs.Ythbbieobcokgbaa.Eng
