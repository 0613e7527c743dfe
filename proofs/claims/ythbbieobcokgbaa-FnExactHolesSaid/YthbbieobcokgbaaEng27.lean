/-
  The engine, part 27: rules by which 'simp' walks calls that are handed boxes and rows.
-/
import Derived.Test.YthbbieobcokgbaaEng25
import Derived.Test.YthbbieobcokgbaaEng26
namespace Go.Proofs.Ythbbieobcokgbaa.Eng
open Go Go.RowKit

section
variable {P : Program} {R : Ex → St → Prop} {k : List It} {s : St}

theorem Con.wk {f : FuncId} {as as' : List AV} {bin : List (List AV)} {rin : List Row} {Φ : AV → List (List AV) → List (Option (List AV)) → List Row → Prop} (h : Con P f as' bin rin Φ) (hk : wkLs (AV.wkA fun _ => False) as as') : Con P f as bin rin Φ := by
  intro w g vs H hN hl hr
  obtain ⟨e1, e2⟩ := wkLs_ok hk
  refine h w g vs H hN (by omega) fun i b v hb hv => ?_
  have hi : i < as.length := by have := (List.getElem?_eq_some_iff.1 hb).1; omega
  exact (hr i _ v (List.getElem?_eq_getElem hi) hv).wkA (fun _ h => h.elim) (e2 i _ b (List.getElem?_eq_getElem hi) hb)

theorem do_cm {d f : Nat} {xs : List X} {K : St → Prop} {as : List AV} (bks rks : List Nat) {bin : List (List AV)} {rin : List Row} {Φ : AV → List (List AV) → List (Option (List AV)) → List Row → Prop}
    (hC : Con P f as bin rin Φ) (h1 : nodupB (bks ++ rks) = true) (h2 : atBoxes s (ix bks) (ix rks) bks bin) (h3 : atRows s rks rin)
    (ha : wkLs (AV.wkA fun _ => False) (xs.map fun x => ((s.get x).mp (ix bks) (ix rks)).rdt) as)
    (h : ∀ res bout upd new, bout.map List.length = bin.map List.length → upd.length = rin.length → Φ res bout upd new → new.length ≤ 1000 ∧ noclash rks upd (1000 * d + 1000) new.length ∧ noclashB (1000 * d + 1000) new.length bks ∧
      K (afterM s d bks rks res bout upd new)) : wop P (.cm d f xs) K s :=
  ⟨bks, rks, bin, rin, nodupB_ok h1, h2, h3, Φ, hC.wk ha, h⟩

theorem postC_ret {rs : List Rv} {bin : List (List AV)} {rin : List Row} {fx : List Bool} {Φ : AV → List (List AV) → List (Option (List AV)) → List Row → Prop} (bout : List (List AV)) (upd : List (Option (List AV))) (ks : List Nat) (new : List Row)
    (h : ∃ l, s.rvs rs = some l ∧ boxesC s (cob bin.length) (cor upd ks rin.length) 2000000000 bout ∧ updC s fx 0 rin upd ∧ nodupB ks = true ∧ smallKeys ks ∧ atRows s ks new ∧ bout.map List.length = bin.map List.length ∧
      Φ ((resOf l).mp (cob bin.length) (cor upd ks rin.length)) bout upd new) : postC rs bin rin fx Φ .ret s := by
  obtain ⟨l, h1, h2, h3, h4, h5⟩ := h
  exact ⟨trivial, l, bout, upd, ks, new, h1, h2, h3, nodupB_ok h4, h5⟩
end
attribute [simp] atBoxes atRows noclash noclashB afterM setRows setBoxes St.kill2 drops upf bxf frB fbB AV.mp mpL stC rkey cfb cfr cob cor boxesC updC smallKeys
end Go.Proofs.Ythbbieobcokgbaa.Eng
