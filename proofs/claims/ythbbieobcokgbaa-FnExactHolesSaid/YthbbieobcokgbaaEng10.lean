/-
  The engine, part 10: soundness of append, of new rows, of slices.
-/
import Derived.Test.YthbbieobcokgbaaEng9
import Derived.Laws.IdiomStrings
namespace Go.Proofs.Ythbbieobcokgbaa.Eng
open Go Go.RowKit

section
variable {P : Program} {c : Cx} {g : Gh} {s : St} {a : Act} {w : World}

theorem run_room (t ty e ty0 : TypeId) (i : TypeInfo) (ht : P.underlying t = some (.slice e)) (hi : P.info? e = some i)
    (b sLen sCap : Nat) (cur : Array Value) (hg : w.heap[b]? = some (.cells cur ty0 (0, 0)))
    (ad : Addr) (m cp : Nat) (news : List Value) (hl : news.length = m * i.size) (hnews : ∀ j u, news[j]? = some u → w.cell? (ad.add j) = some u) (h1 : ∀ u ∈ news, u.oneCell' = true)
    (hroom : sLen + m ≤ sCap) (hfit : sLen * i.size + news.length ≤ cur.size) :
    (Builtin.append_ #[t, t] ty #[.slice (some ⟨b, 0, none⟩) sLen sCap, .slice (some ad) m cp]).run P w =
      .ok (.slice (some ⟨b, 0, none⟩) (sLen + m) sCap) (w.setRow b (cur.toList.take (sLen * i.size) ++ news ++ cur.toList.drop (sLen * i.size + news.length)).toArray) := by
  have hf := run_firstCells_some (P := P) (w := w) i.size m ad m cp news hl hnews
  have hst := run_storeCells_at P b (sLen * i.size) ty0 news 0 cur w hg (by simpa using hfit) h1
  simp only [Nat.add_zero] at hst
  simp [Builtin.append_, run_underlying ht, sizeOf, typeInfo, hi, Builtin.lenOf, hroom, hf, Addr.add_lit, hst]

/-- append, whatever the row's block bears for a type. -/
theorem run_app (t ty e ty0 : TypeId) (i : TypeInfo) (z : Value) (ht : P.underlying t = some (.slice e)) (hi : P.info? e = some i) (hz : i.zero = some z)
    (hzs : z.cells.size = i.size)
    (v : Value) (n : Nat) (xs : List Value) (hown : w.ownsRow 0 ty0 i.size v n xs)
    (src : Value) (m cp : Nat) (pa : Option Addr) (hsrc : src = .slice pa m cp) (news : List Value) (hl : news.length = m * i.size)
    (hnews : 0 < news.length → ∃ ad, pa = some ad ∧ ∀ j u, news[j]? = some u → w.cell? (ad.add j) = some u) (hpa : 0 < m → pa.isSome = true) (h1 : ∀ u ∈ news, u.oneCell' = true)
    (h63 : n + m ≤ maxLen) (hbytes : (n + m) * i.bytes ≤ 140737488355328) :
    ∃ v' w' ty1, (Builtin.append_ #[t, t] ty #[v, src]).run P w = .ok v' w' ∧ w'.ownsRow 0 ty1 i.size v' (n + m) (xs ++ news) ∧ w.grownBy w' v.ownBlock ∧
      (v'.ownBlock = v.ownBlock ∨ (v'.ownBlock = some w.heap.size ∧ w.grownBy w' none)) := by
  subst hsrc
  by_cases hm0 : m = 0
  · subst hm0
    have hn0 : news = [] := List.eq_nil_of_length_eq_zero (by simpa using hl)
    subst hn0
    refine ⟨v, w, ty0, ?_, by simpa using hown, World.grownBy.refl w _, .inl rfl⟩
    have hfc : (Builtin.firstCells i.size 0 (.slice pa 0 cp)).run P w = .ok #[] w := by
      cases pa <;> simp [Builtin.firstCells, loadCells, loadCellsFrom]
    rcases hown.2 with ⟨rfl, rfl⟩ | ⟨b, cap, cur, rfl, _, hb, hnc, _, _, _⟩
    · simp [Builtin.append_, run_underlying ht, sizeOf, typeInfo, hi, Builtin.lenOf, hfc]
    · simp [Builtin.append_, run_underlying ht, sizeOf, typeInfo, hi, Builtin.lenOf, hfc, hnc, storeCells]
  · obtain ⟨ad, rfl⟩ := Option.isSome_iff_exists.1 (hpa (by omega))
    have hnews' : ∀ j u, news[j]? = some u → w.cell? (ad.add j) = some u := by
      intro j u hj
      obtain ⟨ad', e1, e2⟩ := hnews (by have := (List.getElem?_eq_some_iff.1 hj).1; omega)
      cases e1; exact e2 j u hj
    have hlen : (xs ++ news).length = (n + m) * i.size := by rw [List.length_append, hown.1, hl, Nat.add_mul]
    have grown : ∀ (old : Nat), old < n + m → ∀ (row : Option Nat),
        (w.drew.alloc (.cells (xs.toArray ++ news.toArray ++ Builtin.zeroCells z.cells (grownCap w (n + m) old e - (n + m))) e)).ownsRow 0 e i.size
          (.slice (some ⟨w.heap.size, 0, none⟩) (n + m) (grownCap w (n + m) old e)) (n + m) (xs ++ news) ∧
        w.grownBy (w.drew.alloc (.cells (xs.toArray ++ news.toArray ++ Builtin.zeroCells z.cells (grownCap w (n + m) old e - (n + m))) e)) row := by
      intro old ho row
      have hge := grownCap_ge w (n + m) old e
      have hcm : grownCap w (n + m) old e ≤ maxLen := grownCap_le_maxLen w (n + m) old e h63
      refine ⟨⟨hlen, .inr ⟨w.heap.size, _, _, rfl, Nat.zero_le _, heap_alloc_new w.drew _, hge, hcm, ?_, ?_⟩⟩, ⟨rfl, rfl, rfl, by simp, fun k hk _ => heap_alloc_old w.drew _ hk⟩⟩
      · simp only [Array.size_append, List.size_toArray, size_zeroCells, hzs, hown.1, hl, ← Nat.add_mul]
        congr 1
        omega
      · simp only [Array.toList_append, List.append_assoc]
        rw [← List.append_assoc, ← hlen]
        exact List.take_left
    have h63n : n + m ≤ 9223372036854775807 := by simp only [maxLen] at h63; omega
    rcases hown.2 with ⟨rfl, rfl⟩ | ⟨b, cap, cur, rfl, hbg, hg, hnc, hcm, hcs, htake⟩
    · have hx : xs = [] := List.eq_nil_of_length_eq_zero (by simpa using hown.1)
      subst hx
      have hr := run_append_nil (P := P) w t ty e i z ht hi hz ad m cp news hl hnews' (by omega) (by omega) (by have hb := hbytes; simp only [Nat.zero_add] at hb; omega)
      have hgr := grown 0 (by omega) (Value.ownBlock (.slice none 0 0))
      have hgr2 := grown 0 (by omega) none
      simp only [Nat.zero_add, List.nil_append, Array.empty_append] at hgr hgr2 ⊢
      exact ⟨_, _, e, hr, hgr.1, hgr.2, .inr ⟨rfl, hgr2.2⟩⟩
    · by_cases hroom : n + m ≤ cap
      · have hfit : n * i.size + news.length ≤ cur.size := by rw [hl, hcs, ← Nat.add_mul]; exact Nat.mul_le_mul_right _ hroom
        have hr := run_room (P := P) (w := w) t ty e ty0 i ht hi b n cap cur hg ad m cp news hl hnews' h1 hroom hfit
        refine ⟨_, _, ty0, hr, ⟨hlen, .inr ⟨b, cap, _, rfl, hbg, setRow_heap w b cur _ ty0 _ hg, hroom, hcm, ?_, ?_⟩⟩, ⟨rfl, rfl, rfl, by simp, fun k _ hk => setRow_other w b k _ (fun e => hk (by simp [Value.ownBlock, e]))⟩, .inl rfl⟩
        · simp only [List.size_toArray, List.length_append, List.length_take, List.length_drop, Array.length_toList]
          omega
        · rw [htake, ← hlen]
          exact List.take_left
      · have holds : ∀ j u, xs[j]? = some u → w.cell? ((⟨b, 0, none⟩ : Addr).add j) = some u := hown.cells (g := b) rfl
        have hr := run_append_grow (P := P) w t ty e i z ht hi hz ⟨b, 0, none⟩ n cap xs hown.1 holds ad m cp news hl hnews' (by omega) (by omega) (growslice_fits (by omega) hbytes)
        have hgr := grown cap (by omega) (Value.ownBlock (.slice (some ⟨b, 0, none⟩) n cap))
        exact ⟨_, _, e, hr, hgr.1, hgr.2, .inr ⟨rfl, (grown cap (by omega) none).2⟩⟩

/-- A data slice's cells, for append. -/
theorem Rd.src {S : Nat → Nat → Prop} {N : Nat → Prop} {t : Tag} {sz : Nat} {es : List AV} {v : Value} (h : Rd w S N (.sl t sz es) v) :
    ∃ pa cp, v = .slice pa es.length cp ∧ (0 < es.length → pa.isSome = true) ∧ ∃ news : List Value, (es ≠ [] → news.length = es.length * sz) ∧ (es = [] → news = []) ∧ (flat es).length = news.length ∧ (∀ u ∈ news, u.oneCell' = true) ∧
      (∀ e ∈ es, e.cells.length = sz) ∧
      (0 < news.length → ∃ ad, pa = some ad ∧ ∀ j u, news[j]? = some u → w.cell? (ad.add j) = some u) ∧
      ∀ (j : Nat) (x : AV) (u : Value), (flat es)[j]? = some x → news[j]? = some u → x.one = true ∧ u.oneCell' = true ∧ Rd w S N x u := by
  cases h with
  | sl0 _ _ p q => exact ⟨p, q, rfl, by simp, [], by simp, by simp, by simp [flat], by simp, by simp, by simp, by intro j x u h; simp [flat] at h⟩
  | sl _ _ _ b o cc cv hc hm hs hw hn hrd =>
    have hlen := flat_row hs
    have hget : ∀ j u, ((List.range (flat es).length).map cv)[j]? = some u → ∃ x, (flat es)[j]? = some x ∧ u = cv j := by
      intro j u hj
      rw [List.getElem?_map] at hj
      obtain ⟨j', hj', rfl⟩ := Option.map_eq_some_iff.1 hj
      have hlt : j < (flat es).length := by have := (List.getElem?_eq_some_iff.1 hj').1; simpa using this
      rw [List.getElem?_range hlt] at hj'
      cases hj'
      exact ⟨_, List.getElem?_eq_getElem hlt, rfl⟩
    refine ⟨_, _, rfl, fun _ => rfl, (List.range (flat es).length).map cv, fun _ => by simp [hlen], fun h => by simp [h, flat], by simp, fun u hu => ?_, hs, fun _ => ⟨_, rfl, fun j u hj => ?_⟩, fun j x u hx hu => ?_⟩
    · obtain ⟨j, hj, rfl⟩ := List.getElem_of_mem hu
      obtain ⟨x, hx, e⟩ := hget j _ (List.getElem?_eq_getElem hj)
      rw [e]
      exact (hrd j x hx).one_cell (hw j x hx).2.2
    · obtain ⟨x, hx, rfl⟩ := hget j u hj
      rw [add_none]; exact (hw j x hx).1
    · obtain ⟨x', hx', rfl⟩ := hget j u hu
      rw [hx] at hx'; cases hx'
      exact ⟨(hw j x hx).2.2, (hrd j x hx).one_cell (hw j x hx).2.2, hrd j x hx⟩

/-- The same of a row. -/
theorem row_src {S : Nat → Nat → Prop} {N : Nat → Prop} {r : Row} {v : Value} (h : RowOk w S N r v) :
    ∃ pa cp, v = .slice pa r.es.length cp ∧ (0 < r.es.length → pa.isSome = true) ∧ ∃ news : List Value, news.length = r.es.length * r.sz ∧ (flat r.es).length = news.length ∧ (∀ u ∈ news, u.oneCell' = true) ∧
      (∀ e ∈ r.es, e.cells.length = r.sz) ∧
      (0 < news.length → ∃ ad, pa = some ad ∧ ∀ j u, news[j]? = some u → w.cell? (ad.add j) = some u) ∧
      ∀ (j : Nat) (x : AV) (u : Value), (flat r.es)[j]? = some x → news[j]? = some u → x.one = true ∧ u.oneCell' = true ∧ Rd w S N x u := by
  obtain ⟨xs, ty, ho, hs, hc⟩ := h
  have hlen := flat_row hs
  have hx : (flat r.es).length = xs.length := by rw [hlen, ho.1]
  have hone : ∀ u ∈ xs, u.oneCell' = true := by
    intro u hu
    obtain ⟨j, hj, rfl⟩ := List.getElem_of_mem hu
    exact (hc j _ _ (List.getElem?_eq_getElem (by omega)) (List.getElem?_eq_getElem hj)).2.1
  have hcells := fun b (hb : v.ownBlock = some b) => ho.cells (g := b) hb
  rcases ho.2 with ⟨rfl, hn⟩ | ⟨b, cap, cur, rfl, _⟩
  · have h1 := ho.1
    refine ⟨none, 0, by rw [hn], by omega, xs, h1, hx, hone, hs, fun h => ?_, hc⟩
    rw [h1, hn] at h; simp at h
  · exact ⟨_, _, rfl, fun _ => rfl, xs, ho.1, hx, hone, hs, fun _ => ⟨_, rfl, hcells b rfl⟩, hc⟩

end
end Go.Proofs.Ythbbieobcokgbaa.Eng
