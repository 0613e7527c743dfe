/-
  The engine, part 26: from code to a contract with boxes and rows handed over.
-/
import Derived.Test.YthbbieobcokgbaaEng23
namespace Go.Proofs.Ythbbieobcokgbaa.Eng
open Go Go.RowKit

/-- The key under which a callee knows row i: one that keeps its header, or one that need not. -/
def rkey (fx : List Bool) (i : Nat) : Nat := if fx.getD i true then 1000000000 + i else 500000000 + i
def cfb (n j : Nat) : Option Nat := if j < n then some (2000000000 + j) else none
def cfr (fx : List Bool) (n i : Nat) : Option Nat := if i < n then some (rkey fx i) else none
/-- The state in which a function begins that is handed boxes and rows. -/
def stC (args : List AV) (bin : List (List AV)) (rin : List Row) (fx : List Bool) : St :=
  { e := fun i => (args.getD i .und).mp (cfb bin.length) (cfr fx rin.length)
    bx := fun k => if 2000000000 ≤ k then (bin[k - 2000000000]?).map (mpL (cfb bin.length) (cfr fx rin.length)) else none
    rw := fun k => if 1000000000 ≤ k then (if fx.getD (k - 1000000000) true then rin[k - 1000000000]? else none)
      else if 500000000 ≤ k then (if fx.getD (k - 500000000) true then none else rin[k - 500000000]?) else none }

def cob (n k : Nat) : Option Nat := if 2000000000 ≤ k then (if k - 2000000000 < n then some (k - 2000000000) else none) else none
def cor (upd : List (Option (List AV))) (ks : List Nat) (n k : Nat) : Option Nat :=
  if 1000000000 ≤ k then (match upd[k - 1000000000]? with | some (some _) => some (k - 1000000000) | _ => none) else (ix ks k).map fun j => n + j

def boxesC (s : St) (fb fr : Nat → Option Nat) : Nat → List (List AV) → Prop
  | _, [] => True
  | k, b :: bs => (∃ cs, s.bx k = some cs ∧ b = mpL fb fr cs) ∧ boxesC s fb fr (k + 1) bs
def updC (s : St) (fx : List Bool) : Nat → List Row → List (Option (List AV)) → Prop
  | i, r :: rs, some es :: us => (fx.getD i true = true ∧ s.rw (1000000000 + i) = some { r with es := es } ∧ r.sh = false) ∧ updC s fx (i + 1) rs us
  | i, _ :: rs, none :: us => updC s fx (i + 1) rs us
  | _, [], [] => True
  | _, _, _ => False
def smallKeys : List Nat → Prop
  | [] => True
  | k :: ks => k < 1000000000 ∧ smallKeys ks

/-- What must hold at the end. -/
def postC (rs : List Rv) (bin : List (List AV)) (rin : List Row) (fx : List Bool) (Φ : AV → List (List AV) → List (Option (List AV)) → List Row → Prop) (e : Ex) (s : St) : Prop :=
  (match e with | .ext _ => False | _ => True) ∧ ∃ (l : List AV) (bout : List (List AV)) (upd : List (Option (List AV))) (ks : List Nat) (new : List Row), s.rvs rs = some l ∧
    boxesC s (cob bin.length) (cor upd ks rin.length) 2000000000 bout ∧ updC s fx 0 rin upd ∧ ks.Nodup ∧ smallKeys ks ∧ atRows s ks new ∧ bout.map List.length = bin.map List.length ∧
    Φ ((resOf l).mp (cob bin.length) (cor upd ks rin.length)) bout upd new

section
variable {P : Program} {c : Cx} {g : Gh} {s : St} {a : Act} {w : World}

theorem boxesC_ok {fb fr : Nat → Option Nat} : ∀ {bs : List (List AV)} {k : Nat}, boxesC s fb fr k bs → ∀ (i : Nat) (b : List AV), bs[i]? = some b → ∃ cs, s.bx (k + i) = some cs ∧ b = mpL fb fr cs
  | [], k, _, i, b, h => by simp at h
  | b0 :: bs, k, h, i, b, hb => by
    cases i with
    | zero => simp at hb; subst hb; exact h.1
    | succ i =>
      obtain ⟨cs, h1, h2⟩ := boxesC_ok h.2 i b (by simpa using hb)
      exact ⟨cs, by rw [show k + (i + 1) = k + 1 + i by omega]; exact h1, h2⟩
theorem updC_ok {fx : List Bool} : ∀ {rin : List Row} {upd : List (Option (List AV))} {k : Nat}, updC s fx k rin upd → upd.length = rin.length ∧
    ∀ (i : Nat) (es : List AV), upd[i]? = some (some es) → ∃ r, rin[i]? = some r ∧ fx.getD (k + i) true = true ∧ s.rw (1000000000 + (k + i)) = some { r with es := es } ∧ r.sh = false
  | [], [], k, _ => ⟨rfl, by intro i es h; simp at h⟩
  | r :: rs, some es :: us, k, h => by
    obtain ⟨h1, h2⟩ := updC_ok h.2
    refine ⟨by simp [h1], fun i es' hi => ?_⟩
    cases i with
    | zero => simp at hi; subst hi; exact ⟨r, rfl, h.1⟩
    | succ i =>
      obtain ⟨r', q1, q2, q3, q4⟩ := h2 i es' (by simpa using hi)
      rw [show k + (i + 1) = k + 1 + i by omega]
      exact ⟨r', by simpa using q1, q2, q3, q4⟩
  | r :: rs, none :: us, k, h => by
    obtain ⟨h1, h2⟩ := updC_ok (show updC s fx (k + 1) rs us from h)
    refine ⟨by simp [h1], fun i es' hi => ?_⟩
    cases i with
    | zero => simp at hi
    | succ i =>
      obtain ⟨r', q1, q2, q3, q4⟩ := h2 i es' (by simpa using hi)
      rw [show k + (i + 1) = k + 1 + i by omega]
      exact ⟨r', by simpa using q1, q2, q3, q4⟩
  | [], _ :: _, _, h => h.elim
  | _ :: _, [], _, h => by simp [updC] at h
theorem smallKeys_ok : ∀ {ks : List Nat} {k : Nat}, smallKeys ks → k ∈ ks → k < 1000000000
  | [], k, _, h => by simp at h
  | k0 :: ks, k, h, hk => by
    rcases List.mem_cons.1 hk with rfl | hk
    · exact h.1
    · exact smallKeys_ok h.2 hk

/-- FROM CODE TO A CONTRACT. -/
theorem con_of {f : FuncId} {fn : Func} {l : L} {rs : List Rv} {args : List AV} {bin : List (List AV)} {rin : List Row} {Φ : AV → List (List AV) → List (Option (List AV)) → List Row → Prop} (fx : List Bool)
    (hf : P.funcs[f]? = some fn) (hc : chkF P args.length l rs fn = true) (hrl : rin.length ≤ 1000)
    (h : (∀ r ∈ rin, r.sh = false) → den P l (postC rs bin rin fx Φ) (stC args bin rin fx)) : Con P f args bin rin Φ := by
  simp only [chkF, Bool.and_eq_true, decide_eq_true_eq] at hc
  obtain ⟨⟨⟨⟨hc, hr⟩, hr4⟩, hn⟩, hnb⟩ := hc
  cases hb : fn.body with
  | none => rw [hb] at hc; cases hc
  | some code =>
    rw [hb] at hc
    simp only at hc
    intro w g vs H hN hvl hvs
    have h := h (fun r hr' => by
      obtain ⟨i, hi, rfl⟩ := List.getElem_of_mem hr'
      exact (H.rwn i rin[i] (by simp [hSt, List.getElem?_map, List.getElem?_eq_getElem hi])).1)
    let gi : Gh := { S := g.S, N := g.N, bb := fun k => g.bb (k - 2000000000), rv := fun k => if 1000000000 ≤ k then g.rv (k - 1000000000) else g.rv (k - 500000000) }
    let c : Cx := { nt := fn.ntmps, X := OwnB g bin.length rin.length, Y := g.N, S0 := g.S, w0 := w, rv0 := gi.rv, bb0 := gi.bb, ntb := hnb }
    have hrw : ∀ k r, (stC args bin rin fx).rw k = some r → ∃ i, i < rin.length ∧ rin[i]? = some r ∧ k = rkey fx i ∧ gi.rv k = g.rv i ∧ (hSt bin (rin.map some)).rw i = some r := by
      intro k r hk
      simp only [stC] at hk
      split at hk
      · rename_i h1
        split at hk
        · rename_i h2
          have hi := (List.getElem?_eq_some_iff.1 hk).1
          refine ⟨k - 1000000000, hi, hk, by unfold rkey; rw [if_pos h2]; omega, by simp only [gi, h1, if_true], by simp [hSt, List.getElem?_map, hk]⟩
        · cases hk
      · rename_i h1
        split at hk
        · rename_i h3
          split at hk
          · cases hk
          · rename_i h2
            have hi := (List.getElem?_eq_some_iff.1 hk).1
            refine ⟨k - 500000000, hi, hk, by unfold rkey; rw [if_neg h2]; omega, by simp only [gi, h1, if_false], by simp [hSt, List.getElem?_map, hk]⟩
        · cases hk
    have hbx : ∀ k cs, (stC args bin rin fx).bx k = some cs → ∃ i, i < bin.length ∧ k = 2000000000 + i ∧ gi.bb k = g.bb i ∧ ∃ c0, (hSt bin (rin.map some)).bx i = some c0 ∧ cs = mpL (cfb bin.length) (cfr fx rin.length) c0 := by
      intro k cs hk
      simp only [stC] at hk
      split at hk
      · rename_i h1
        obtain ⟨c0, h2, rfl⟩ := Option.map_eq_some_iff.1 hk
        exact ⟨k - 2000000000, (List.getElem?_eq_some_iff.1 h2).1, by omega, rfl, c0, h2, rfl⟩
      · cases hk
    have kinj : ∀ i j, i < rin.length → j < rin.length → rkey fx i = rkey fx j → i = j := by
      intro i j hi hj e
      unfold rkey at e
      split at e <;> split at e <;> omega
    have toR : ∀ i k, cfr fx rin.length i = some k → ∀ r', (stC args bin rin fx).rw k = some r' → ∃ r, (hSt bin (rin.map some)).rw i = some r ∧ r'.sz = r.sz ∧ gi.rv k = g.rv i := by
      intro i k hik r' hr'
      obtain ⟨j, h1, h2, h3, h4, h5⟩ := hrw k r' hr'
      unfold cfr at hik
      split at hik
      · rename_i hi
        cases hik
        have := kinj i j hi h1 h3
        subst this
        exact ⟨r', h5, rfl, h4⟩
      · cases hik
    have toB : ∀ i k, cfb bin.length i = some k → ∀ c', (stC args bin rin fx).bx k = some c' → ∃ c, (hSt bin (rin.map some)).bx i = some c ∧ gi.bb k = g.bb i := by
      intro i k hik c' hc'
      obtain ⟨j, h1, h2, h3, c0, h4, _⟩ := hbx k c' hc'
      unfold cfb at hik
      split at hik
      · cases hik
        have : i = j := by omega
        subst this
        exact ⟨c0, h4, h3⟩
      · cases hik
    have I : Inv c gi (stC args bin rin fx) { tmps := vs.toArray ++ Array.replicate (fn.ntmps - vs.toArray.size) undef, defers := [] } w := by
      refine ⟨rfl, by simp only [Array.size_append, List.size_toArray, Array.size_replicate, c]; omega, ⟨rfl, rfl, rfl, Nat.le_refl _, fun _ _ _ => rfl⟩, fun i => ?_, fun k cs h => ?_, fun k cs h => ?_, fun k r h => ?_, fun k r h b hb' => ?_,
        fun k k' cs cs' h h' hne => ?_, fun k k' cs r h h' => ?_, fun k k' r r' h h' hne b hb' => ?_, H.sw, hN, fun _ h _ => h, fun _ _ => ⟨rfl, rfl⟩, fun _ _ h => h, fun _ _ h => .inl h⟩
      · simp only [stC]
        rcases Nat.lt_or_ge i args.length with hi | hi
        · have hiv : i < vs.length := by omega
          have e1 : args.getD i .und = args[i] := by simp [List.getD_eq_getElem?_getD, hi]
          have e2 : (vs.toArray ++ Array.replicate (fn.ntmps - vs.toArray.size) undef).getD i undef = vs[i] := by
            simp [Array.getD_eq_getD_getElem?, Array.getElem?_append_left, hiv]
          rw [e1, e2]
          exact (hvs i args[i] vs[i] (List.getElem?_eq_getElem hi) (List.getElem?_eq_getElem hiv)).mp (g := g) (g' := gi) (s' := stC args bin rin fx) (fun _ _ h => h) (fun _ h => h) (fun _ _ _ => rfl) toR toB
        · have e1 : args.getD i .und = .und := by simp [List.getD_eq_getElem?_getD, List.getElem?_eq_none hi]
          have e2 : (vs.toArray ++ Array.replicate (fn.ntmps - vs.toArray.size) undef).getD i undef = undef := by
            rw [Array.getD_eq_getD_getElem?, Array.getElem?_append_right (by simp; omega), Array.getElem?_replicate]
            split <;> rfl
          rw [e1, e2]
          exact .und
      · obtain ⟨j, h1, h2, h3, c0, h4, rfl⟩ := hbx k cs h
        rw [h3]
        exact (H.bxs j c0 h4).mp (g := g) (g' := gi) (s' := stC args bin rin fx) (fun _ _ h => h) (fun _ h => h) (fun _ _ _ => rfl) toR toB rfl
      · obtain ⟨j, h1, h2, h3, c0, h4, rfl⟩ := hbx k cs h
        rw [h3]
        exact ⟨⟨(H.bxn j c0 h4).1, fun _ => .inl ⟨j, h1, rfl⟩⟩, (H.bxn j c0 h4).2⟩
      · obtain ⟨j, h1, h2, h3, h4, h5⟩ := hrw k r h
        rw [h4]; exact H.rws j r h5
      · obtain ⟨j, h1, h2, h3, h4, h5⟩ := hrw k r h
        rw [h4] at hb'
        obtain ⟨q1, q2⟩ := (H.rwn j r h5).2 b hb'
        exact ⟨⟨q1, fun _ => .inr ⟨j, h1, hb'⟩⟩, fun o ho => absurd ho (q2 o)⟩
      · obtain ⟨j, h1, h2, h3, c0, h4, rfl⟩ := hbx k cs h
        obtain ⟨j', h1', h2', h3', c0', h4', rfl⟩ := hbx k' cs' h'
        rw [h3, h3']
        exact H.dbb j j' c0 c0' h4 h4' (fun e => hne (by omega))
      · obtain ⟨j, h1, h2, h3, c0, h4, rfl⟩ := hbx k cs h
        obtain ⟨j', h1', h2', h3', h4', h5'⟩ := hrw k' r h'
        rw [h3, h4']
        exact H.dbr j j' c0 r h4 h5'
      · obtain ⟨j, h1, h2, h3, h4, h5⟩ := hrw k r h
        obtain ⟨j', h1', h2', h3', h4', h5'⟩ := hrw k' r' h'
        rw [h4] at hb'; rw [h4']
        exact H.drr j j' r r' h5 h5' (fun e => hne (by rw [h3, h3', e])) b hb'
    refine calls_of_wp hf hb ?_
    refine code_sound (c := c) hc (fun e g' s' a' w' I' hp => ?_) I h
    have fin : (∃ v, (results fn a'.tmps).run P w' = .ok v w' ∧ ∃ v', Ending.returned v = .returned v' ∧ Kept (OwnB g bin.length rin.length) w w' ∧ ∃ res bout upd new, Φ res bout upd new ∧
        bout.map List.length = bin.map List.length ∧ upd.length = rin.length ∧ ∃ g' : Gh, (∀ b o, g'.S b o → g.S b o ∨ w.heap.size ≤ b ∨ OwnB g bin.length rin.length b) ∧ (∀ b, g'.N b → g.N b) ∧
        (∀ i, i < bin.length → g'.bb i = g.bb i) ∧ (∀ i es, upd[i]? = some (some es) → g'.rv i = g.rv i) ∧ Heap w' g' (hSt bout (outRows rin upd new)) ∧
        (∀ (j : Nat) (r : Row), new[j]? = some r → ∀ b, (g'.rv (rin.length + j)).ownBlock = some b → w.heap.size ≤ b ∨ OwnB g bin.length rin.length b) ∧
        Gv w' g' (hSt bout (outRows rin upd new)) res v') := by
      obtain ⟨_, l', bout, upd, ks, new, p1, p2, p3, p4, p5, p6, p7, p8⟩ := hp
      obtain ⟨u, q1, q2⟩ := run_results (P := P) I' hr4 hr p1
      have p2 := boxesC_ok p2
      obtain ⟨hul, p3⟩ := updC_ok p3
      obtain ⟨hkl, p6⟩ := atRows_ok p6
      have hbl : bout.length = bin.length := by simpa using congrArg List.length p7
      have hNg : ∀ b, g'.N b → g.N b := fun b hb' => by
        rcases Nat.lt_or_ge b w.heap.size with hl | hl
        · exact I'.nx b hb' hl
        · exact hN b hl
      let G : Gh := { S := g'.S, N := g'.N, bb := fun i => g'.bb (2000000000 + i), rv := fun i => if i < rin.length then g'.rv (1000000000 + i) else g'.rv (ks.getD (i - rin.length) 0) }
      have bkey : ∀ i cs, (hSt bout (outRows rin upd new)).bx i = some cs → i < bin.length ∧ ∃ c0, s'.bx (2000000000 + i) = some c0 ∧ cs = mpL (cob bin.length) (cor upd ks rin.length) c0 := by
        intro i cs hi
        have hi' : bout[i]? = some cs := hi
        obtain ⟨c0, h1, h2⟩ := p2 i cs hi'
        exact ⟨by rw [← hbl]; exact (List.getElem?_eq_some_iff.1 hi').1, c0, h1, h2⟩
      have rkey' : ∀ i r, (hSt bout (outRows rin upd new)).rw i = some r → ∃ k, s'.rw k = some r ∧ r.sh = false ∧ G.rv i = g'.rv k ∧ ((i < rin.length ∧ k = 1000000000 + i) ∨ (rin.length ≤ i ∧ ks[i - rin.length]? = some k)) := by
        intro i r hi
        rcases Nat.lt_or_ge i rin.length with hl | hl
        · have hu : i < upd.length := by omega
          have e := outRows_old (new := new) (List.getElem?_eq_getElem hl) (List.getElem?_eq_getElem hu)
          simp only [hSt, e, Option.join] at hi
          cases hui : upd[i] with
          | none => simp [hui] at hi
          | some es =>
            simp only [hui, Option.map_some, Option.bind_some, _root_.id, Option.some.injEq] at hi
            obtain ⟨r0, z1, z2, z3, z4⟩ := p3 i es (by rw [List.getElem?_eq_getElem hu, hui])
            rw [List.getElem?_eq_getElem hl] at z1
            cases z1
            subst hi
            exact ⟨1000000000 + i, by simpa using z3, z4, by simp [G, hl], .inl ⟨hl, rfl⟩⟩
        · have e := outRows_new (rin := rin) (upd := upd) (new := new) (j := i - rin.length) hul
          rw [show rin.length + (i - rin.length) = i by omega] at e
          simp only [hSt, e, Option.join] at hi
          cases hn' : new[i - rin.length]? with
          | none => simp [hn'] at hi
          | some r0 =>
            simp only [hn', Option.map_some, Option.bind_some, _root_.id, Option.some.injEq] at hi
            subst hi
            have hlt : i - rin.length < ks.length := by rw [hkl]; exact (List.getElem?_eq_some_iff.1 hn').1
            obtain ⟨z1, z2⟩ := p6 _ _ _ (List.getElem?_eq_getElem hlt) hn'
            refine ⟨ks[i - rin.length], z1, z2, ?_, .inr ⟨hl, List.getElem?_eq_getElem hlt⟩⟩
            simp only [G, Nat.not_lt.2 hl, if_false, List.getD_eq_getElem?_getD, List.getElem?_eq_getElem hlt, Option.getD_some]
      have kinj' : ∀ i i' k, ((i < rin.length ∧ k = 1000000000 + i) ∨ (rin.length ≤ i ∧ ks[i - rin.length]? = some k)) → ((i' < rin.length ∧ k = 1000000000 + i') ∨ (rin.length ≤ i' ∧ ks[i' - rin.length]? = some k)) → i = i' := by
        intro i i' k h1 h2
        rcases h1 with ⟨h1, e1⟩ | ⟨h1, e1⟩ <;> rcases h2 with ⟨h2, e2⟩ | ⟨h2, e2⟩
        · omega
        · have := smallKeys_ok p5 (List.mem_of_getElem? e2); omega
        · have := smallKeys_ok p5 (List.mem_of_getElem? e1); omega
        · have := (List.getElem?_inj (i := i - rin.length) (j := i' - rin.length) (List.getElem?_eq_some_iff.1 e1).1 p4).1 (by rw [e1, e2]); omega
      have nR : ∀ k i, cor upd ks rin.length k = some i → ∀ r', (hSt bout (outRows rin upd new)).rw i = some r' → ∃ r, s'.rw k = some r ∧ r'.sz = r.sz ∧ G.rv i = g'.rv k := by
        intro k i hki r' hr'
        obtain ⟨k', z1, z2, z3, z4⟩ := rkey' i r' hr'
        have : k' = k := by
          unfold cor at hki
          split at hki
          · rename_i hk
            split at hki
            · rename_i es he
              have hki := Option.some.inj hki
              have := (List.getElem?_eq_some_iff.1 he).1
              rcases z4 with ⟨z4, z5⟩ | ⟨z4, z5⟩ <;> omega
            · cases hki
          · obtain ⟨j, hj, rfl⟩ := Option.map_eq_some_iff.1 hki
            have := ix_ok hj
            rcases z4 with ⟨z4, z5⟩ | ⟨z4, z5⟩
            · omega
            · rw [show rin.length + j - rin.length = j by omega, this] at z5
              cases z5; rfl
        subst this
        exact ⟨r', z1, rfl, z3⟩
      have nB : ∀ k i, cob bin.length k = some i → ∀ c', (hSt bout (outRows rin upd new)).bx i = some c' → ∃ c, s'.bx k = some c ∧ G.bb i = g'.bb k := by
        intro k i hki c' hc'
        obtain ⟨_, c0, z1, _⟩ := bkey i c' hc'
        unfold cob at hki
        split at hki
        · split at hki
          · have hki := Option.some.inj hki
            rename_i hk _
            have e : 2000000000 + i = k := by omega
            exact ⟨c0, by rw [e] at z1; exact z1, by simp only [G, e]⟩
          · cases hki
        · cases hki
      have blkW : ∀ b, Wr c g' b → w.heap.size ≤ b ∨ OwnB g bin.length rin.length b := by
        intro b hw
        rcases Nat.lt_or_ge b w.heap.size with hl | hl
        · exact .inr (hw.2 hl)
        · exact .inl hl
      refine ⟨u, q1, u, rfl, ⟨I'.fr.os, I'.fr.tape, I'.fr.output, I'.fr.size, fun k hk hx => I'.fr.block k hk hx⟩, _, bout, upd, new, p8, p7, hul, G, fun b o ho => I'.sb b o ho, hNg, fun i hi => ?_, fun i es hi => ?_, ?_, fun j r hj b hb' => ?_, ?_⟩
      · have := (I'.fix (2000000000 + i) (by omega)).2
        show g'.bb (2000000000 + i) = g.bb i
        rw [this]
        show g.bb (2000000000 + i - 2000000000) = g.bb i
        rw [Nat.add_sub_cancel_left]
      · obtain ⟨r, z1, _⟩ := p3 i es hi
        have hl := (List.getElem?_eq_some_iff.1 z1).1
        have := (I'.fix (1000000000 + i) (by omega)).1
        show (if i < rin.length then g'.rv (1000000000 + i) else g'.rv (ks.getD (i - rin.length) 0)) = g.rv i
        rw [if_pos hl, this]
        show (if 1000000000 ≤ 1000000000 + i then g.rv (1000000000 + i - 1000000000) else g.rv (1000000000 + i - 500000000)) = g.rv i
        rw [if_pos (Nat.le_add_right _ _), Nat.add_sub_cancel_left]
      · refine ⟨fun i cs hi => ?_, fun i cs hi => ?_, fun i r hi => ?_, fun i r hi => ?_, fun i i' cs cs' hi hi' hne => ?_, fun i i' cs r hi hi' => ?_, fun i i' r r' hi hi' hne b hb' => ?_, I'.sw⟩
        · obtain ⟨_, c0, z1, rfl⟩ := bkey i cs hi
          exact (I'.bxs _ c0 z1).mp (g := g') (g' := G) (s' := hSt bout (outRows rin upd new)) (fun _ _ h => h) (fun _ h => h) (fun _ _ _ => rfl) nR nB rfl
        · obtain ⟨_, c0, z1, rfl⟩ := bkey i cs hi
          exact ⟨(I'.bxn _ c0 z1).1.1, (I'.bxn _ c0 z1).2⟩
        · obtain ⟨k, z1, z2, z3, _⟩ := rkey' i r hi
          rw [z3]; exact I'.rws k r z1
        · obtain ⟨k, z1, z2, z3, _⟩ := rkey' i r hi
          rw [z3]
          refine ⟨z2, fun b hb' => ⟨(I'.rwn k r z1 b hb').1.1, fun o ho => ?_⟩⟩
          have := ((I'.rwn k r z1 b hb').2 o ho).1
          rw [z2] at this; cases this
        · obtain ⟨_, c0, z1, _⟩ := bkey i cs hi
          obtain ⟨_, c0', z1', _⟩ := bkey i' cs' hi'
          exact I'.dbb _ _ c0 c0' z1 z1' (by omega)
        · obtain ⟨_, c0, z1, _⟩ := bkey i cs hi
          obtain ⟨k, y1, y2, y3, _⟩ := rkey' i' r hi'
          rw [y3]; exact I'.dbr _ _ c0 r z1 y1
        · obtain ⟨k, z1, z2, z3, z4⟩ := rkey' i r hi
          obtain ⟨k', y1, y2, y3, y4⟩ := rkey' i' r' hi'
          rw [z3] at hb'; rw [y3]
          exact I'.drr k k' r r' z1 y1 (fun e => hne (kinj' i i' k z4 (by rw [e]; exact y4))) b hb'
      · have hlt : j < ks.length := by rw [hkl]; exact (List.getElem?_eq_some_iff.1 hj).1
        obtain ⟨z1, z2⟩ := p6 j _ r (List.getElem?_eq_getElem hlt) hj
        have e : G.rv (rin.length + j) = g'.rv ks[j] := by
          simp only [G, show ¬ rin.length + j < rin.length by omega, if_false, List.getD_eq_getElem?_getD, show rin.length + j - rin.length = j by omega, List.getElem?_eq_getElem hlt, Option.getD_some]
        rw [e] at hb'
        exact blkW b (I'.rwn _ r z1 b hb').1
      · exact q2.mp (g := g') (g' := G) (s' := hSt bout (outRows rin upd new)) (fun _ _ h => h) (fun _ h => h) (fun _ _ _ => rfl) nR nB
    cases e with
    | nrm => exact ⟨I'.defers, fin⟩
    | ret => exact ⟨I'.defers, fin⟩
    | ext id => exact hp.1.elim
theorem con_by {f : FuncId} {l : L} {rs : List Rv} {args : List AV} {bin : List (List AV)} {rin : List Row} {Φ : AV → List (List AV) → List (Option (List AV)) → List Row → Prop} {n : Nat} (fx : List Bool)
    (hc : chkFn P f n l rs = true) (hn : args.length = n) (hrl : rin.length ≤ 1000)
    (h : (∀ r ∈ rin, r.sh = false) → den P l (postC rs bin rin fx Φ) (stC args bin rin fx)) : Con P f args bin rin Φ := by
  unfold chkFn at hc
  split at hc
  · rename_i fn hf
    subst hn
    exact con_of fx hf hc hrl h
  · cases hc
end
end Go.Proofs.Ythbbieobcokgbaa.Eng
