/-
  Lemmas, part 7: the engine that steps through the code, the walks of functions, and the laws of what they compute.
-/
import Derived.Test.YtodafdoninblmaaGreatCN6
import Derived.Deep.Slices
import Derived.ProofKit
namespace Go.Proofs.YtodafdoninblmaaGreat.Eng
open Go Go.RowKit
inductive Ty
 | bool
 | int (k:IntKind)
 | str
 | sl (e:Ty)
 | st (fs:List Ty)
mutual
def Ty.size:Ty -> Nat
 | .st fs=>sizeL fs
 | _=>1
def sizeL:List Ty -> Nat
 | []=>0
 | f :: fs=>f.size + sizeL fs
end
def Ty.isSt:Ty -> Bool
 | .st _=>true
 | _=>false
mutual
def Ty.ok:Ty -> List AV -> Prop
 | .bool,l=>∃ b,l = [.bool b]
 | .int k,l=>∃ n,l = [.int k n] /\ (Lit.int k n).wf = true
 | .str,l=>∃ s,l = [.str s] /\ s.length <= maxLen
 | .sl e,l=>l = [.nl] \/ ∃ es:List AV,l = [.sl .rd e.size es] /\ es.length <= maxLen /\ ∀ x ∈ es,x.cells.length = e.size /\ (if e.isSt then ∃ cs,x = .agg cs else x.one = true) /\ Ty.ok e x.cells
 | .st fs,l=>okL fs l
def okL:List Ty -> List AV -> Prop
 | [],l=>l = []
 | f :: fs,l=>∃ l1 l2,l = l1 ++ l2 /\ Ty.ok f l1 /\ okL fs l2
end
mutual
def chkTy (P:Program):Ty -> TypeId -> Bool
 | .bool,t=>(match P.underlying t with | some .bool=>true | _=>false)
 | .int k,t=>(match P.underlying t with | some (.int k')=>decide (k' = k) | _=>false)
 | .str,t=>(match P.underlying t with | some .string=>true | _=>false)
 | .sl e,t=>(match P.underlying t with | some (.slice u)=>chkTy P e u && P.cellsOf u == e.size && e.size != 0 | _=>false)
 | .st fs,t=>(match P.underlying t with | some (.struct gs)=>ZPh P fs gs.toList 0 && P.cellsOf t == sizeL fs | _=>false)
def ZPh (P:Program):List Ty -> List Field -> Nat -> Bool
 | [],[],_=>true
 | f :: fs,g :: gs,o=>g.offset == o && chkTy P f g.type && P.cellsOf g.type == f.size && ZPh P fs gs (o + f.size)
 | _,_,_=>false
end
section
variable {H:Type} {enc:TypeId × Value -> H} {P:Program} {w:World} {base:Nat} {spare:Nat -> Bool} {held:Bool}
def AllS (w:World):Nat -> Nat -> Prop:=fun b _=>b < w.heap.size
def Cells (w:World) (l:List AV) (cs:List Value):Prop :=
 l.length = cs.length /\ ∀ (i:Nat) (a:AV) (v:Value),l[i]? = some a -> cs[i]? = some v -> a.one = true /\ Rd w (AllS w) rdT a v
theorem brOne {a:AV} {v:Value} (h1:a.one = true) (h:Rd w (AllS w) rdT a v):Cells w [a] [v]:=by
 refine ⟨rfl,fun i x u hx hu=>?_⟩
 cases i with
 | zero=>simp at hx hu; subst hx; subst hu; exact ⟨h1,h⟩
 | succ i=>simp at hx
theorem Znk {l1 l2:List AV} {c1 c2:List Value} (h1:Cells w l1 c1) (h2:Cells w l2 c2):Cells w (l1 ++ l2) (c1 ++ c2):=by
 refine ⟨by simp [h1.1,h2.1],fun i x u hx hu=>?_⟩
 rcases Nat.lt_or_ge i l1.length with hi | hi
 .rw [List.getElem?_append_left hi] at hx
  rw [List.getElem?_append_left (by rw [← h1.1]; exact hi)] at hu
  exact h1.2 i x u hx hu
 .rw [List.getElem?_append_right hi] at hx
  rw [List.getElem?_append_right (by rw [← h1.1]; exact hi),← h1.1] at hu
  exact h2.2 _ x u hx hu
theorem cell_lt {b o:Nat} {sp:Option Nat} {v:Value} (h:w.cell? ⟨b,o,sp⟩ = some v):b < w.heap.size:=by
 unfold World.cell? at h
 rcases Nat.lt_or_ge b w.heap.size with hl | hl
 .exact hl
 .rw [Array.getElem?_eq_none hl] at h; cases h
theorem Zok {b o:Nat} {sp:Option Nat} {v:Value} (h:w.cell? ⟨b,o,sp⟩ = some v):sp = none:=by
 unfold World.cell? at h
 split at h
 .split at h
  .cases h
  .rename_i hs; simpa using hs
 .cases h
mutual
theorem ZTf:∀ {τ:Ty} {l:List AV},τ.ok l -> l.length = τ.size
 | .bool,l,h=>by obtain ⟨b,rfl⟩:=(by simpa [Ty.ok] using h:∃ b,l = [.bool b]); rfl
 | .int k,l,h=>by simp only [Ty.ok] at h; obtain ⟨n,rfl,_⟩:=h; rfl
 | .str,l,h=>by simp only [Ty.ok] at h; obtain ⟨n,rfl,_⟩:=h; rfl
 | .sl e,l,h=>by
  simp only [Ty.ok] at h
  rcases h with rfl | ⟨es,rfl,_⟩ <;> rfl
 | .st fs,l,h=>by simp only [Ty.ok] at h; simp only [Ty.size]; exact Zwi h
theorem Zwi:∀ {fs:List Ty} {l:List AV},okL fs l -> l.length = sizeL fs
 | [],l,h=>by simp only [okL] at h; subst h; rfl
 | f :: fs,l,h=>by
  simp only [okL] at h
  obtain ⟨l1,l2,rfl,h1,h2⟩:=h
  simp only [List.length_append,sizeL,ZTf h1,Zwi h2]
end
theorem brFlat {sz:Nat} (hsz:0 < sz):∀ (es:List AV),(∀ e ∈ es,e.cells.length = sz) -> ∀ (j:Nat) (a:AV),(flat es)[j]? = some a -> ∃ e,es[j / sz]? = some e /\ e.cells[j % sz]? = some a
 | [],_,j,a,h=>by simp [flat] at h
 | e :: es,hs,j,a,h=>by
  simp only [flat,List.flatMap_cons] at h
  have he:=hs e (by simp)
  rcases Nat.lt_or_ge j sz with hj | hj
  .rw [List.getElem?_append_left (by rw [he]; exact hj)] at h
   exact ⟨e,by simp [Nat.div_eq_of_lt hj],by rw [Nat.mod_eq_of_lt hj]; exact h⟩
  .rw [List.getElem?_append_right (by rw [he]; exact hj),he] at h
   obtain ⟨e',h1,h2⟩:=brFlat hsz es (fun x hx=>hs x (by simp [hx])) (j - sz) a h
   refine ⟨e',?_,?_⟩
   .have:j / sz = (j - sz) / sz + 1:=by
     rw [← Nat.add_div_right _ hsz]; congr 1; omega
    rw [this]; simpa using h1
   .have:j % sz = (j - sz) % sz:=by
     rw [← Nat.add_mod_right (j - sz) sz]; congr 1; omega
    rw [this]; exact h2
mutual
theorem Z3a:∀ (τ:Ty) {t:TypeId} {fuel:Nat} {cs:List Value} {x:DataW H × List MemPlace},chkTy P τ t = true -> DataW.trod enc P w base spare held fuel t cs = some x ->
  ∃ l,τ.ok l /\ Cells w l cs
 | .bool,t,fuel,cs,x,hc,h=>by
  simp only [chkTy] at hc
  split at hc
  .rename_i hu
   cases fuel with
   | zero=>simp [DataW.trod] at h
   | succ fuel =>
    unfold DataW.trod at h
    rw [hu] at h
    split at h <;> simp_all
    rename_i b0
    exact ⟨[.bool b0],by simp only [Ty.ok]; exact ⟨_,rfl⟩,brOne rfl (.bool _)⟩
  .cases hc
 | .int k,t,fuel,cs,x,hc,h=>by
  simp only [chkTy] at hc
  split at hc
  .rename_i k' hu
   cases fuel with
   | zero=>simp [DataW.trod] at h
   | succ fuel =>
    have hk:k' = k:=by simpa using hc
    subst hk
    unfold DataW.trod at h
    rw [hu] at h
    split at h <;> simp_all
    rename_i k1 n1 _
    obtain ⟨⟨rfl,h2⟩,_⟩:=h
    exact ⟨[.int _ n1],by simp only [Ty.ok]; exact ⟨n1,rfl,h2⟩,brOne rfl (.int _ _)⟩
  .cases hc
 | .str,t,fuel,cs,x,hc,h=>by
  simp only [chkTy] at hc
  split at hc
  .rename_i hu
   cases fuel with
   | zero=>simp [DataW.trod] at h
   | succ fuel =>
    unfold DataW.trod at h
    rw [hu] at h
    split at h <;> simp_all
    rename_i s0
    refine ⟨[.str s0.data.toList],?_,brOne rfl ?_⟩
    .simp only [Ty.ok]
     exact ⟨_,rfl,by have h1:=h.1; unfold ByteArray.size at h1; rw [Array.length_toList]; exact h1⟩
    .have:s0 = ⟨s0.data.toList.toArray⟩:=by simp
     have h2:=Rd.str (w:=w) (S:=AllS w) (T:=rdT) s0.data.toList
     rw [← this] at h2
     exact h2
  .cases hc
 | .sl e,t,fuel,cs,x,hc,h=>by
  simp only [chkTy] at hc
  split at hc
  .rename_i u hu
   simp only [yD,beq_iff_eq,bne_iff_ne] at hc
   obtain ⟨⟨hce,hcc⟩,hne⟩:=hc
   rcases Go.Deep.open_slice hu h with ⟨rfl,_⟩ | ⟨a,len,cap,m,n,D,Pl,rfl,hb,hlc,hcm,hm,_,hel⟩
   .exact ⟨[.nl],by simp [Ty.ok],brOne rfl .nl⟩
   .have hlm:len <= m:=by rw [hm]; split <;> omega
    have hex:∀ i,i < len -> ∃ (l:List AV) (cs':List Value),e.ok l /\ Cells w l cs' /\ w.cells? base (a.add (i * e.size)) e.size = some cs':=fun i hi=>by
     obtain ⟨cs',h1,h2⟩:=hel i (by omega)
     rw [hcc] at h1
     obtain ⟨l,q1,q2⟩:=Z3a e hce h2
     exact ⟨l,cs',q1,q2,h1⟩
    classical
    let L:Nat -> List AV:=fun i=>if hi:i < len then (hex i hi).choose else []
    have hL:∀ i,i < len -> ∃ cs',e.ok (L i) /\ Cells w (L i) cs' /\ w.cells? base (a.add (i * e.size)) e.size = some cs':=fun i hi=>by
     have:=(hex i hi).choose_spec
     simp only [L,dif_pos hi]; exact this
    let mkV:List AV -> AV:=fun l=>if e.isSt then .agg l else l.getD 0 .bad
    have hmk:∀ l cs',e.ok l -> Cells w l cs' -> (mkV l).cells = l /\ (if e.isSt then ∃ cs,mkV l = .agg cs else (mkV l).one = true):=fun l cs' hl hcl=>by
     simp only [mkV]
     cases hst:e.isSt with
     | true=>simp [AV.cells]
     | false =>
      have hsz:=ZTf hl
      have:e.size = 1:=by cases e <;> simp [Ty.isSt] at hst <;> rfl
      rw [this] at hsz
      match l,hsz with
      | [y],_ =>
       have hlen:=hcl.1
       simp at hlen
       obtain ⟨v0,hv0⟩:∃ v0,cs'[0]? = some v0:=⟨cs'[0]'(by omega),yA (by omega)⟩
       have h1:=(hcl.2 0 y v0 rfl hv0).1
       simp
       exact ⟨by cases y <;> first | rfl | simp [AV.one] at h1,h1⟩
    let es:List AV:=(List.range len).map fun i=>mkV (L i)
    have hes:es.length = len:=by simp [es]
    have hget:∀ i e',es[i]? = some e' -> i < len /\ e' = mkV (L i):=fun i e' hi=>by
     simp only [es,List.getElem?_map] at hi
     obtain ⟨j,hj,rfl⟩:=yC hi
     have hlt:i < len:=by have:=(yB hj).1; simpa using this
     rw [List.getElem?_range hlt] at hj
     cases hj
     exact ⟨hlt,rfl⟩
    have hall:∀ x ∈ es,x.cells.length = e.size /\ (if e.isSt then ∃ cs,x = .agg cs else x.one = true) /\ e.ok x.cells:=fun x hx=>by
     obtain ⟨i,hi,rfl⟩:=List.getElem_of_mem hx
     obtain ⟨hlt,he⟩:=hget i _ (yA hi)
     obtain ⟨cs',q1,q2,q3⟩:=hL i hlt
     obtain ⟨p1,p2⟩:=hmk _ _ q1 q2
     rw [he,p1]
     exact ⟨ZTf q1,p2,q1⟩
    refine ⟨[.sl .rd e.size es],by simp only [Ty.ok]; exact .inr ⟨es,rfl,by omega,hall⟩,brOne rfl ?_⟩
    rcases Nat.eq_zero_or_pos len with h0 | hpos
    .have:es = []:=List.eq_nil_of_length_eq_zero (by omega)
     rw [this,h0]
     exact .sl0 _ _ _ _ fun _ e=>by cases e
    .have hszp:0 < e.size:=Nat.pos_of_ne_zero hne
     have hsp:a.spot = none:=by
      obtain ⟨cs',q1,q2,q3⟩:=hL 0 hpos
      obtain ⟨_,hcl,hat⟩:=World.cells?_some q3
      have:=hat 0 hszp
      simp only [Nat.zero_mul,Addr.add,if_true] at this
      rw [yA (by omega)] at this
      obtain ⟨b,o,sp⟩:=a
      exact Zok this
     obtain ⟨b,o,sp⟩:=a
     simp only at hsp
     subst hsp
     have hadd:∀ o k,(⟨b,o,none⟩:Addr).add k = ⟨b,o + k,none⟩:=fun o k=>by
      unfold Addr.add
      split
      .rename_i hk; subst hk; rfl
      .rfl
     have hcell:∀ (j:Nat) (y:AV),(flat es)[j]? = some y -> ∃ v,w.cell? ⟨b,o + j,none⟩ = some v /\ y.one = true /\ Rd w (AllS w) rdT y v:=fun j y hj=>by
      obtain ⟨e',h1,h2⟩:=brFlat hszp es (fun x hx=>(hall x hx).1) j y hj
      obtain ⟨hlt,rfl⟩:=hget _ _ h1
      obtain ⟨cs',q1,q2,q3⟩:=hL _ hlt
      obtain ⟨p1,_⟩:=hmk _ _ q1 q2
      rw [p1] at h2
      obtain ⟨_,hcl,hat⟩:=World.cells?_some q3
      have hmod:j % e.size < e.size:=Nat.mod_lt _ hszp
      have h3:=hat (j % e.size) hmod
      rw [hadd,hadd] at h3
      have hjj:o + j / e.size * e.size + j % e.size = o + j:=by
       have:=Nat.div_add_mod j e.size
       rw [Nat.mul_comm] at this; omega
      rw [hjj,yA (by omega)] at h3
      exact ⟨_,h3,q2.2 _ _ _ h2 (yA (by omega))⟩
     rw [← hes]
     refine .sl .rd e.size es b o cap (fun j=>(w.cell? ⟨b,o + j,none⟩).getD undef) (by omega) hcm (fun x hx=>(hall x hx).1) (fun j y hj=>?_) (fun _ e=>by cases e) (fun j y hj=>?_)
     .obtain ⟨v,h1,h2,h3⟩:=hcell j y hj
      rw [h1]
      exact ⟨rfl,cell_lt h1,h2,rfl⟩
     .obtain ⟨v,h1,h2,h3⟩:=hcell j y hj
      simp only [h1,Option.getD_some]
      exact h3
  .cases hc
 | .st fs,t,fuel,cs,x,hc,h=>by
  simp only [chkTy] at hc
  split at hc
  .rename_i gs hu
   simp only [yD,beq_iff_eq] at hc
   obtain ⟨xs,n,_,_,hlen,hxl,hf⟩:=DataW.trod_struct hu h
   have:=Z4c fs (gs:=gs.toList) (o:=0) (n:=n) (cs:=cs) hc.1 (fun i f hi=>by
    have h1:=hf i f (by simpa using hi)
    have hlt:i < xs.length:=by rw [hxl]; have:=(yB hi).1; simpa using this
    rw [yA hlt] at h1
    exact ⟨_,h1⟩) (by rw [hlen,hc.2]; simp)
   simpa [Ty.ok] using this
  .cases hc
theorem Z4c:∀ (fs:List Ty) {gs:List Field} {o n:Nat} {cs:List Value},ZPh P fs gs o = true ->
  (∀ (i:Nat) (f:Field),gs[i]? = some f -> ∃ x,DataW.trod enc P w base spare held n f.type ((cs.drop f.offset).take (P.cellsOf f.type)) = some x) -> cs.length = o + sizeL fs ->
  ∃ l,okL fs l /\ Cells w l (cs.drop o)
 | [],gs,o,n,cs,hc,h,hl=>by
  simp only [sizeL] at hl
  refine ⟨[],rfl,?_⟩
  rw [List.drop_eq_nil_of_le (by omega)]
  exact ⟨rfl,by intro i a v h; simp at h⟩
 | f :: fs,[],o,n,cs,hc,h,hl=>by simp [ZPh] at hc
 | f :: fs,g :: gs,o,n,cs,hc,h,hl=>by
  simp only [ZPh,yD,beq_iff_eq] at hc
  obtain ⟨⟨⟨h1,h2⟩,h3⟩,h4⟩:=hc
  obtain ⟨x,hx⟩:=h 0 g rfl
  rw [h1,h3] at hx
  obtain ⟨l1,q1,q2⟩:=Z3a f h2 hx
  simp only [sizeL] at hl
  obtain ⟨l2,q3,q4⟩:=Z4c fs (o:=o + f.size) h4 (fun i f' hi=>h (i + 1) f' (by simpa using hi)) (by omega)
  refine ⟨l1 ++ l2,by simp only [okL]; exact ⟨l1,l2,rfl,q1,q3⟩,?_⟩
  have:cs.drop o = (cs.drop o).take f.size ++ cs.drop (o + f.size):=by
   rw [← List.drop_drop,List.take_append_drop]
  rw [this]
  exact Znk q2 q4
end
end
end Go.Proofs.YtodafdoninblmaaGreat.Eng
namespace Go.Proofs.YtodafdoninblmaaGreat.Eng
open Go Go.RowKit
def Ty.okV (τ:Ty) (a:AV):Prop:=match τ with
 | .st fs=>∃ cs,a = .agg cs /\ okL fs cs
 | τ=>τ.ok [a]
def okVs:List Ty -> List AV -> Prop
 | [],l=>l = []
 | τ :: τs,l=>∃ a l',l = a :: l' /\ τ.okV a /\ okVs τs l'
def Zx2 (P:Program):List Ty -> List TypeId -> Bool
 | [],[]=>true
 | τ :: τs,t :: ts=>chkTy P τ t && P.readableRec t && decide (t < P.types.size) && Zx2 P τs ts
 | _,_=>false
section
variable {H:Type} {enc:TypeId × Value -> H} {P:Program}
theorem rd_okV {w:World} {τ:Ty} {t:TypeId} {v:Value} {d:DataW H} {p:List MemPlace} {base:Nat} {spare:Nat -> Bool} {held:Bool} {b0:Nat} (hc:chkTy P τ t = true)
  (hv:Value.okWide P w .any b0 t v) (h:DataW.Trod enc P w base spare held t v d p):∃ a,τ.okV a /\ Rd w (AllS w) rdT a v:=by
 obtain ⟨fuel,h⟩:=h
 obtain ⟨l,h1,h2⟩:=Z3a τ hc h
 have one:v.cells = #[v] -> τ.size = 1 -> (∀ a,l = [a] -> τ.okV a) -> ∃ a,τ.okV a /\ Rd w (AllS w) rdT a v:=fun hvc hs hk=>by
  have hsz:=ZTf h1
  rw [hs] at hsz
  rw [hvc] at h2
  match l,hsz with
  | [a],_=>exact ⟨a,hk a rfl,(h2.2 0 a v rfl rfl).2⟩
 cases τ with
 | st fs =>
  simp only [chkTy] at hc
  split at hc
  .rename_i gs hu
   obtain ⟨cs,rfl,_⟩:=WideShapes.okWide_struct hu hv
   simp only [Ty.ok] at h1
   refine ⟨.agg l,⟨l,rfl,h1⟩,?_⟩
   have e:cs = cs.toList.toArray:=by simp
   have hl:l.length = cs.toList.length:=h2.1
   have h3:=Rd.agg (w:=w) (S:=AllS w) (T:=rdT) l cs.toList hl (fun a ha=>by
    obtain ⟨i,hi,rfl⟩:=List.getElem_of_mem ha
    exact (h2.2 i _ _ (yA hi) (yA (show i < cs.toList.length by rw [← hl]; exact hi))).1) (fun i a v hi hv=>(h2.2 i a v hi hv).2)
   rw [← e] at h3
   exact h3
  .cases hc
 | bool =>
  simp only [chkTy] at hc
  split at hc
  .rename_i hu
   obtain ⟨b,rfl⟩:=WideShapes.okWide_bool hu hv
   exact one rfl rfl (fun a e=>by rw [e] at h1; exact h1)
  .cases hc
 | int k =>
  simp only [chkTy] at hc
  split at hc
  .rename_i k' hu
   obtain ⟨b,rfl⟩:=WideShapes.okWide_int hu hv
   exact one rfl rfl (fun a e=>by rw [e] at h1; exact h1)
  .cases hc
 | str =>
  simp only [chkTy] at hc
  split at hc
  .rename_i hu
   obtain ⟨b,rfl⟩:=WideShapes.okWide_string hu hv
   exact one rfl rfl (fun a e=>by rw [e] at h1; exact h1)
  .cases hc
 | sl e =>
  simp only [chkTy] at hc
  split at hc
  .rename_i u hu
   obtain ⟨a,n,c,rfl⟩:=WideShapes.okWide_slice hu hv
   exact one rfl rfl (fun a e=>by rw [e] at h1; exact h1)
  .cases hc
theorem ZIa {w:World} {base:Nat} {spare:Nat -> Bool} {held:Bool} {b0:Nat}:∀ {τs:List Ty} {ts:List TypeId} {vs:List Value} {ds:List (DataW H)} {p:List MemPlace},Zx2 P τs ts = true ->
  (∀ (j:Nat) (t:TypeId) (v:Value),ts[j]? = some t -> vs[j]? = some v -> Value.okWide P w .any b0 t v) -> DataW.TrodAll enc P w base spare held ts vs ds p ->
  ∃ as,okVs τs as /\ vs.length = as.length /\ ∀ (i:Nat) (a:AV) (v:Value),as[i]? = some a -> vs[i]? = some v -> Rd w (AllS w) rdT a v
 | [],[],vs,ds,p,_,_,h=>by
  match vs,ds,h with
  | [],[],_=>exact ⟨[],rfl,rfl,by intro i a v h; simp at h⟩
  | [],_ :: _,h=>exact h.elim
  | _ :: _,_,h=>exact h.elim
 | τ :: τs,t :: ts,vs,ds,p,hc,hok,h=>by
  simp only [Zx2,yD] at hc
  match vs,ds,h with
  | v :: vs,d :: ds,⟨p1,q1,h1,h2,_⟩ =>
   obtain ⟨a,ha,hr⟩:=rd_okV hc.1.1.1 (hok 0 t v rfl rfl) h1
   obtain ⟨as,has,hl,hrs⟩:=ZIa hc.2 (fun j t v ht hv=>hok (j + 1) t v (by simpa using ht) (by simpa using hv)) h2
   refine ⟨a :: as,⟨a,as,rfl,ha,has⟩,by simp [hl],fun i x u hx hu=>?_⟩
   cases i with
   | zero=>simp at hx hu; subst hx; subst hu; exact hr
   | succ i=>exact hrs i x u (by simpa using hx) (by simpa using hu)
  | [],_,h=>cases ‹List (DataW H)› <;> exact h.elim
  | _ :: _,[],h=>exact h.elim
 | [],_ :: _,_,_,_,hc,_,_=>by simp [Zx2] at hc
 | _ :: _,[],_,_,_,hc,_,_=>by simp [Zx2] at hc
theorem Z89 {w w':World} (hl:laidOutB P = true) (hb:Below w.heap.size w w'):∀ {τs:List Ty} {ts:List TypeId} {vs:List Value} {ds:List (DataW H)} {p:List MemPlace},Zx2 P τs ts = true ->
  (∀ x ∈ p,x.block < w.heap.size) -> DataW.TrodAll enc P w 0 (fun _=>true) true ts vs ds p -> DataW.TrodAll enc P w' 0 (fun b=>decide (b < w.heap.size)) true ts vs ds p
 | [],[],vs,ds,p,_,_,h=>by
  match vs,ds,h with
  | [],[],h=>exact h
  | [],_ :: _,h=>exact h.elim
  | _ :: _,_,h=>exact h.elim
 | τ :: τs,t :: ts,vs,ds,p,hc,hlt,h=>by
  simp only [Zx2,yD,decide_eq_true_eq] at hc
  match vs,ds,h with
  | v :: vs,d :: ds,⟨p1,q1,h1,h2,e⟩ =>
   subst e
   exact ⟨p1,q1,Below.trod hl hc.1.1.2 hc.1.2 h1 hb (fun x hx=>hlt x (List.mem_append.2 (.inl hx))),Z89 hl hb hc.2 (fun x hx=>hlt x (List.mem_append.2 (.inr hx))) h2,rfl⟩
  | [],_,h=>cases ‹List (DataW H)› <;> exact h.elim
  | _ :: _,[],h=>exact h.elim
 | [],_ :: _,_,_,_,hc,_,_=>by simp [Zx2] at hc
 | _ :: _,[],_,_,_,hc,_,_=>by simp [Zx2] at hc
theorem law_goal {f:FuncId} {fn:Func} {s:ChangeSpec} {τs:List Ty} {tb:TypeId} (hl:laidOutB P = true) (hc:Zx2 P τs fn.params.toList = true) (hrt:fn.resultTypes = #[tb])
  (htb:P.underlying tb = some .bool) (hvars:s.vars = []) (hspec:∀ ds:List (DataW H),ds.length = τs.length -> s.fn H ds = { results:=[.lit (.bool true)],args:=ds })
  (hS:∀ as,okVs τs as -> Snd P f as (.bool true) [])
  (W:World) (base:Nat) (args:Array Value) (ds gs:List (DataW H)) (before:List MemPlace)
  (hval:∀ (j:Nat) (t:TypeId) (v:Value),fn.params[j]? = some t -> args[j]? = some v -> Value.okWide P W .any base t v)
  (hW:DataW.Whole enc P fn.params.toList s.vars false W args.toList ds gs before) :
  Calls P f args W fun e W'=>∃ v,e = .returned v /\ s.post enc P fn false true false false W args v W':=by
 have hW':=hW
 obtain ⟨p,q,hA,hV,rfl,hfz,hnd⟩:=hW
 obtain ⟨as,has,hlen,hrd⟩:=ZIa hc (fun j t v ht hv=>hval j t v (by simpa using ht) (by simpa using hv)) hA
 have hcall:=hS as has W (AllS W) rdT args.toList (fun b o h=>h) hlen hrd
 rw [show args.toList.toArray = args by simp] at hcall
 refine hcall.mono fun e W' hq=>?_
 obtain ⟨v,rfl,hb,g,_,_,_,hg,_⟩:=hq
 have hv:=hg.bool_inv
 subst hv
 refine ⟨_,rfl,?_⟩
 have hdl:∀ {τs:List Ty} {ts:List TypeId} {vs:List Value} {ds:List (DataW H)} {p:List MemPlace},Zx2 P τs ts = true -> DataW.TrodAll enc P W 0 (fun _=>true) true ts vs ds p -> ds.length = τs.length:=by
  intro τs
  induction τs with
  | nil =>
   intro ts vs ds p hc h
   cases ts with
   | nil=>cases vs <;> cases ds <;> first | rfl | exact h.elim
   | cons _ _=>simp [Zx2] at hc
  | cons τ τs ih =>
   intro ts vs ds p hc h
   cases ts with
   | nil=>simp [Zx2] at hc
   | cons t ts =>
    cases vs with
    | nil=>cases ds <;> exact h.elim
    | cons v vs =>
     cases ds with
     | nil=>exact h.elim
     | cons d ds =>
      obtain ⟨p1,q1,h1,h2,_⟩:=h
      simp only [Zx2,yD] at hc
      simp [ih hc.2 h2]
 have hgs:gs = []:=by
  rw [hvars] at hV
  cases gs with
  | nil=>rfl
  | cons _ _=>exact hV.elim
 subst hgs
 have hsp:=hspec ds (hdl hc hA)
 have hV':=hV
 rw [hvars] at hV'
 have hpv:q = []:=hV'
 subst hpv
 refine ⟨ds,[],p ++ [],[],p,[],hW',?_,?_,?_,hb.frame _,fun h=>(by cases h)⟩
 .rw [List.append_nil,hsp,hrt]
  refine ⟨[],[],⟨1,?_⟩,rfl,rfl⟩
  simp [DataW.trod,htb,Value.cells]
 .rw [List.append_nil,hsp]
  exact Z89 hl hb hc (fun x hx=>hW'.lt x (by simpa using hx)) hA
 .rw [List.append_nil,hsp,hvars]
  rfl
def Zlk (P:Program) (fn:Func):Bool:=match fn.resultTypes.toList with
 | [t]=>(match P.underlying t with | some .bool=>true | _=>false)
 | _=>false
theorem Zkk {P:Program} {fn:Func} (h:Zlk P fn = true):∃ t,fn.resultTypes = #[t] /\ P.underlying t = some .bool:=by
 unfold Zlk at h
 split at h
 .rename_i t e
  split at h
  .rename_i e2
   refine ⟨t,?_,e2⟩
   have:fn.resultTypes = fn.resultTypes.toList.toArray:=by simp
   rw [this,e]
  .cases h
 .cases h
theorem ZTj {f:FuncId} {fn:Func} {s:ChangeSpec} {τs:List Ty} (hl:laidOutB P = true) (hc:Zx2 P τs fn.params.toList = true) (hrt:Zlk P fn = true)
  (hvars:s.vars = []) (hspec:∀ ds:List (DataW H),ds.length = τs.length -> s.fn H ds = { results:=[.lit (.bool true)],args:=ds })
  (hS:∀ as,okVs τs as -> Snd P f as (.bool true) [])
  (W:World) (base:Nat) (args:Array Value) (ds gs:List (DataW H)) (before:List MemPlace)
  (hval:∀ (j:Nat) (t:TypeId) (v:Value),fn.params[j]? = some t -> args[j]? = some v -> Value.okWide P W .any base t v)
  (hW:DataW.Whole enc P fn.params.toList s.vars false W args.toList ds gs before) :
  Calls P f args W fun e W'=>∃ v,e = .returned v /\ s.post enc P fn false true false false W args v W':=by
 obtain ⟨t,h1,h2⟩:=Zkk hrt
 exact law_goal hl hc h1 h2 hvars hspec hS W base args ds gs before hval hW
end
end Go.Proofs.YtodafdoninblmaaGreat.Eng
namespace Go.Proofs.YtodafdoninblmaaGreat.Eng
open Go Go.RowKit
def rkey (fx:List Bool) (i:Nat):Nat:=if fx.getD i true then 1000000000 + i else 500000000 + i
def cfb (n j:Nat):Option Nat:=if j < n then some (2000000000 + j) else none
def cfr (fx:List Bool) (n i:Nat):Option Nat:=if i < n then some (rkey fx i) else none
def stC (n0:Nat) (args:List AV) (bin:List (List AV)) (rin:List Row) (fx:List Bool):St :=
  { e:=fun i=>(args.getD i .und).mp (cfb bin.length) (cfr fx rin.length)
    bx:=fun k=>if 2000000000 <= k then (bin[k - 2000000000]?).map (mpL (cfb bin.length) (cfr fx rin.length)) else none
    rw:=fun k=>if 1000000000 <= k then (if fx.getD (k - 1000000000) true then rin[k - 1000000000]? else none)
      else if 500000000 <= k then (if fx.getD (k - 500000000) true then none else rin[k - 500000000]?) else none
    nx:=n0
    my:=fun i=>n0 <= i }
def cob (n k:Nat):Option Nat:=if 2000000000 <= k then (if k - 2000000000 < n then some (k - 2000000000) else none) else none
def cor (upd:List (Option (List AV))) (ks:List Nat) (n k:Nat):Option Nat :=
 if 1000000000 <= k then (match upd[k - 1000000000]? with | some (some _)=>some (k - 1000000000) | _=>none) else (ix ks k).map fun j=>n + j
def boxesC (s:St) (fb fr:Nat -> Option Nat):Nat -> List (List AV) -> Prop
 | _,[]=>True
 | k,b :: bs=>(∃ cs,s.bx k = some cs /\ b = mpL fb fr cs) /\ boxesC s fb fr (k + 1) bs
def updC (s:St) (fx:List Bool):Nat -> List Row -> List (Option (List AV)) -> Prop
 | i,r :: rs,some es :: us=>(fx.getD i true = true /\ s.rw (1000000000 + i) = some { r with es:=es } /\ r.sh = false) /\ updC s fx (i + 1) rs us
 | i,_ :: rs,none :: us=>updC s fx (i + 1) rs us
 | _,[],[]=>True
 | _,_,_=>False
def Z8h:List Nat -> Prop
 | []=>True
 | k :: ks=>k < 1000000000 /\ Z8h ks
section
variable {P:Program} {c:Cx} {g:Gh} {s:St} {a:Act} {w:World}
end
end Go.Proofs.YtodafdoninblmaaGreat.Eng
namespace Go.Proofs.YtodafdoninblmaaGreat.Eng
open Go Go.RowKit
section
variable {P:Program} {R:Ex -> St -> Prop} {k:List It} {s:St}
theorem Con.wk {f:FuncId} {as as':List AV} {bin:List (List AV)} {rin:List Row} {Φ:AV -> List (List AV) -> List (Option (List AV)) -> List Row -> Prop} (h:Con P f as' bin rin Φ) (hk:wkLs (AV.wkA fun _=>False) as as'):Con P f as bin rin Φ:=by
 intro n0 w g vs H hN hl hr
 obtain ⟨e1,e2⟩:=Zsf hk
 refine h n0 w g vs H hN (by omega) fun i b v hb hv=>?_
 have hi:i < as.length:=by have:=(yB hb).1; omega
 exact (hr i _ v (yA hi) hv).wkA (fun _ h=>h.elim) (e2 i _ b (yA hi) hb)
theorem do_cm {d f:Nat} {xs:List X} {K:St -> Prop} {as:List AV} (bks rks:List Nat) {bin:List (List AV)} {rin:List Row} {Φ:AV -> List (List AV) -> List (Option (List AV)) -> List Row -> Prop}
    (hC:Con P f as bin rin Φ) (h1:Zw7 (bks ++ rks) = true) (h2:Z94 s (ix bks) (ix rks) bks bin) (h3:Zyd s rks rin)
    (ha:wkLs (AV.wkA fun _=>False) (xs.map fun x=>((s.get x).mp (ix bks) (ix rks)).rdt) as)
    (h:∀ n1 res bout upd new,bout.map List.length = bin.map List.length -> upd.length = rin.length -> Φ res bout upd new -> new.length <= 1000 /\ Zx7 rks upd (1000 * d + 1000) new.length /\ ZVb (1000 * d + 1000) new.length bks /\
      K (Z72 s n1 d bks rks res bout upd new))
    (hb:∀ b ∈ bin,noOL b:=by first | (simp; done) | (simp [*]; done)) (hr:∀ r ∈ rin,noOL r.es:=by first | (simp; done) | (simp [*]; done)) (ho:∀ x ∈ xs,(s.get x).noO:=by first | (simp; done) | (simp [*]; done)):wop P (.cm d f xs) K s :=
  ⟨bks,rks,bin,rin,ZL3 h1,h2,h3,⟨hb,hr,ho⟩,fun _=>Φ,hC.wk ha s.nx,fun n1 res bout upd new _=>h n1 res bout upd new⟩
end
attribute [simp] Z94 Zyd Zx7 ZVb Z72 ZW Zx1 St.kill2 drops upf bxf frB fbB AV.mp mpL stC rkey cfb cfr cob cor boxesC updC Z8h
end Go.Proofs.YtodafdoninblmaaGreat.Eng
namespace Go.Proofs.YtodafdoninblmaaGreat.Eng
open Go Go.RowKit
structure LS where
 te:List (Nat × AV)
 tg:List (Nat × Nat × Bool × AV)
 tb:List (Nat × List AV)
 tr:List (Nat × Row)
structure LS.has (σ:LS) (s:St):Prop where
 e:∀ t v,lk σ.te t = some v -> s.e t = v
 g:∀ t g w v,(t,g,w,v) ∈ σ.tg -> (s.e g = .bool w /\ s.e t = v) \/ (s.e g ≠ .bool w /\ s.e t = .und)
 b:∀ k cs,lk σ.tb k = some cs -> s.bx k = some cs
 r:∀ k r,lk σ.tr k = some r -> s.rw k = some r /\ s.bx k = none
 n:∀ k,lk σ.tb k = none -> s.bx k = none
def er {α:Type} (d:Nat):List (Nat × α) -> List (Nat × α)
  | []=>[]
  | (k,v) :: l=>match Nat.beq k d with
    | true=>er d l
    | false=>(k,v) :: er d l
def erg (d:Nat):List (Nat × Nat × Bool × AV) -> List (Nat × Nat × Bool × AV)
  | []=>[]
  | (k,g,w,v) :: l=>match Nat.beq k d with
    | true=>erg d l
    | false=>match Nat.beq g d with
      | true=>erg d l
      | false=>(k,g,w,v) :: erg d l
theorem lk_er {α:Type} {d:Nat}:∀ {l:List (Nat × α)} {i:Nat} {v:α},lk (er d l) i = some v -> i ≠ d /\ lk l i = some v
  | [],_,_,h=>by cases h
  | (k,u) :: l,i,v,h=>by
    simp only [er] at h
    split at h
    · rename_i e
      have e:=Nat.eq_of_beq_eq_true e
      obtain ⟨h1,h2⟩:=lk_er h
      refine ⟨h1,?_⟩
      simp only [lk]
      rw [show Nat.beq i k = false from Bool.eq_false_iff.2 fun q=>h1 (by rw [Nat.eq_of_beq_eq_true q,e])]
      exact h2
    · rename_i e
      simp only [lk] at h ⊢
      split at h
      · rename_i q
        refine ⟨fun e2=>?_,?_⟩
        · have:=Nat.eq_of_beq_eq_true q; subst this; subst e2; simp at e
        · exact h
      · exact lk_er h
theorem Znc {d t g:Nat} {w:Bool} {v:AV}:∀ {l:List (Nat × Nat × Bool × AV)},(t,g,w,v) ∈ erg d l -> t ≠ d /\ g ≠ d /\ (t,g,w,v) ∈ l
  | [],h=>by cases h
  | (k,g',w',v') :: l,h=>by
    simp only [erg] at h
    split at h
    · obtain ⟨h1,h2,h3⟩:=Znc h; exact ⟨h1,h2,List.mem_cons_of_mem _ h3⟩
    · rename_i e1
      split at h
      · obtain ⟨h1,h2,h3⟩:=Znc h; exact ⟨h1,h2,List.mem_cons_of_mem _ h3⟩
      · rename_i e2
        rcases List.mem_cons.1 h with h | h
        · cases h
          exact ⟨fun q=>by subst q; simp at e1,fun q=>by subst q; simp at e2,List.mem_cons_self ..⟩
        · obtain ⟨h1,h2,h3⟩:=Znc h; exact ⟨h1,h2,List.mem_cons_of_mem _ h3⟩
theorem er_lk {α:Type} {d:Nat}:∀ {l:List (Nat × α)} {i:Nat},lk (er d l) i = none -> i = d \/ lk l i = none
  | [],_,_=>.inr rfl
  | (k,u) :: l,i,h=>by
    simp only [er] at h
    split at h
    · rename_i e
      have e:=Nat.eq_of_beq_eq_true e
      subst e
      rcases er_lk h with h | h
      · exact .inl h
      · by_cases hi:i = k
        · exact .inl hi
        · right
          simp only [lk]
          rw [show Nat.beq i k = false from Bool.eq_false_iff.2 fun q=>hi (Nat.eq_of_beq_eq_true q)]
          exact h
    · simp only [lk] at h ⊢
      split at h
      · cases h
      · rename_i e2; exact er_lk h
theorem ZQj {α:Type} (f:α -> α):∀ {l:List (Nat × α)} {i:Nat},lk (l.map fun p=>(p.1,f p.2)) i = none -> lk l i = none
  | [],_,_=>rfl
  | (k,u) :: l,i,h=>by
    simp only [List.map_cons,lk] at h ⊢
    split at h
    · cases h
    · exact ZQj f h
theorem lk_consN {α:Type} {d i:Nat} {u:α} {l:List (Nat × α)} (h:lk ((d,u) :: l) i = none):i ≠ d /\ lk l i = none:=by
 simp only [lk] at h
 split at h
 .cases h
 .rename_i e; exact ⟨fun q=>by subst q; simp at e,h⟩
theorem Zha {α:Type} {d i:Nat} {u v:α} {l:List (Nat × α)} (h:lk ((d,u) :: l) i = some v):(i = d /\ u = v) \/ lk l i = some v:=by
 simp only [lk] at h
 split at h
 .rename_i e; cases h; exact .inl ⟨Nat.eq_of_beq_eq_true e,rfl⟩
 .exact .inr h
theorem ZRj {α:Type} (f:α -> α):∀ {l:List (Nat × α)} {i:Nat} {v:α},lk (l.map fun p=>(p.1,f p.2)) i = some v -> ∃ u,lk l i = some u /\ v = f u
  | [],_,_,h=>by cases h
  | (k,u) :: l,i,v,h=>by
    simp only [List.map_cons,lk] at h ⊢
    split at h
    · cases h; exact ⟨u,rfl,rfl⟩
    · exact ZRj f h
def LS.set (σ:LS) (d:Nat) (v:AV):LS:={ σ with te:=(d,v) :: er d σ.te,tg:=erg d σ.tg }
def LS.setc (σ:LS) (d g:Nat) (w:Bool) (v:AV):LS:={ σ with te:=er d σ.te,tg:=(d,g,w,v) :: erg d σ.tg }
def LS.kill (σ:LS) (k:Nat):LS :=
  { te:=σ.te.map fun p=>(p.1,p.2.dead k),tg:=σ.tg.map fun p=>(p.1,p.2.1,p.2.2.1,p.2.2.2.dead k),tb:=(er k σ.tb).map fun p=>(p.1,deadL k p.2),tr:=er k σ.tr }
def LS.box (σ:LS) (k:Nat) (cs:List AV):LS:={ σ with tb:=(k,cs) :: er k σ.tb,tr:=er k σ.tr }
def LS.row (σ:LS) (k:Nat) (r:Row):LS:={ σ with tr:=(k,r) :: er k σ.tr,tb:=er k σ.tb }
section
variable {σ:LS} {s:St}
theorem LS.has.set (H:σ.has s) (d:Nat) (v:AV):(σ.set d v).has (s.set d v):=by
 refine ⟨fun t u h=>?_,fun t g w u h=>?_,fun k cs h=>H.b k cs h,fun k r h=>H.r k r h,H.n⟩
 .rcases Zha h with ⟨rfl,rfl⟩ | h
  .simp
  .obtain ⟨h1,h2⟩:=lk_er h
   simp [h1,H.e t u h2]
 .obtain ⟨h1,h2,h3⟩:=Znc h
  simpa [h1,h2] using H.g t g w u h3
theorem LS.has.setc (H:σ.has s) (d g:Nat) (w:Bool) (v u:AV) (hd:g ≠ d) (h:(s.e g = .bool w /\ u = v) \/ (s.e g ≠ .bool w /\ u = .und)):(σ.setc d g w v).has (s.set d u):=by
 refine ⟨fun t x hx=>?_,fun t g' w' x hx=>?_,fun k cs h=>H.b k cs h,fun k r h=>H.r k r h,H.n⟩
 .obtain ⟨h1,h2⟩:=lk_er hx
  simp [h1,H.e t x h2]
 .rcases List.mem_cons.1 hx with e | hx
  .cases e; simpa [hd] using h
  .obtain ⟨h1,h2,h3⟩:=Znc hx
   simpa [h1,h2] using H.g t g' w' x h3
theorem Zqk {k:Nat} {w:Bool} {a:AV}:a.dead k = .bool w ↔ a = .bool w:=by
 cases a <;> simp only [AV.dead] <;> first | (split <;> simp; done) | simp
theorem LS.has.kill (H:σ.has s) (k:Nat):(σ.kill k).has (s.kill k):=by
 refine ⟨fun t u h=>?_,fun t g w u h=>?_,fun j cs h=>?_,fun j r h=>?_,fun j h=>?_⟩
 .obtain ⟨x,h1,rfl⟩:=ZRj (fun a=>AV.dead k a) h
  simp [H.e t x h1]
 .obtain ⟨⟨t',g',w',v'⟩,hm,he⟩:=List.mem_map.1 h
  cases he
  rcases H.g _ _ _ _ hm with ⟨h1,h2⟩ | ⟨h1,h2⟩
  .exact .inl ⟨by simp [h1,AV.dead],by simp [h2]⟩
  .exact .inr ⟨by simpa [Zqk] using h1,by simp [h2,AV.dead]⟩
 .obtain ⟨x,h1,rfl⟩:=ZRj (fun a=>deadL k a) h
  obtain ⟨h2,h3⟩:=lk_er h1
  simp [h2,H.b j x h3]
 .obtain ⟨h2,h3⟩:=lk_er h
  obtain ⟨q1,q2⟩:=H.r j r h3
  simp [h2,q1,q2]
 .rcases er_lk (ZQj (fun l=>deadL k l) h) with rfl | h
  .simp
  .simp [H.n j h]
theorem LS.has.box (H:σ.has s) (k:Nat) (cs:List AV):(σ.box k cs).has { s with bx:=fun j=>if j = k then some cs else s.bx j }:=by
 refine ⟨H.e,H.g,fun j c h=>?_,fun j r h=>?_,fun j h=>?_⟩
 .rcases Zha h with ⟨rfl,rfl⟩ | h
  .simp
  .obtain ⟨h1,h2⟩:=lk_er h
   simp [h1,H.b j c h2]
 .obtain ⟨h1,h2⟩:=lk_er h
  simp [h1,H.r j r h2]
 .obtain ⟨h1,h2⟩:=lk_consN h
  rcases er_lk h2 with h2 | h2
  .exact absurd h2 h1
  .simp [h1,H.n j h2]
theorem LS.has.row (H:σ.has s) (k:Nat) (r:Row) (hb:s.bx k = none):(σ.row k r).has { s with rw:=fun j=>if j = k then some r else s.rw j }:=by
 refine ⟨H.e,H.g,fun j c h=>?_,fun j r' h=>?_,fun j h=>(er_lk h).elim (fun q=>by rw [q]; exact hb) (H.n j)⟩
 .obtain ⟨_,h2⟩:=lk_er h
  exact H.b j c h2
 .rcases Zha h with ⟨rfl,rfl⟩ | h
  .simp [hb]
  .obtain ⟨h1,h2⟩:=lk_er h
   simp [h1,H.r j r' h2]
end
def sat (s:St) (A:List (Nat × Bool)):Prop:=∀ p ∈ A,s.e p.1 = .bool p.2
def fndg (t:Nat):List (Nat × Nat × Bool × AV) -> Option (Nat × Bool × AV)
  | []=>none
  | (k,g,w,v) :: l=>match Nat.beq t k with
    | true=>some (g,w,v)
    | false=>fndg t l
theorem ZA6 {t g:Nat} {w:Bool} {v:AV}:∀ {l:List (Nat × Nat × Bool × AV)},fndg t l = some (g,w,v) -> (t,g,w,v) ∈ l
  | [],h=>by cases h
  | (k,g',w',v') :: l,h=>by
    simp only [fndg] at h
    split at h
    · rename_i e; have:=Nat.eq_of_beq_eq_true e; subst this; cases h; exact List.mem_cons_self ..
    · exact List.mem_cons_of_mem _ (ZA6 h)
def clo (tg:List (Nat × Nat × Bool × AV)):Nat -> Nat -> Bool -> List (Nat × Bool)
 | 0,g,w=>[(g,w)]
 | n + 1,g,w=>(g,w) :: (match fndg g tg with | some (g',w',_)=>clo tg n g' w' | none=>[])
theorem ZM7 {σ:LS} {s:St} (H:σ.has s):∀ {n g:Nat} {w:Bool},s.e g = .bool w -> sat s (clo σ.tg n g w)
 | 0,g,w,h=>by intro p hp; simp [clo] at hp; subst hp; exact h
 | n + 1,g,w,h=>by
  intro p hp
  simp only [clo] at hp
  rcases List.mem_cons.1 hp with rfl | hp
  .exact h
  .split at hp
   .rename_i g' w' v' e
    rcases H.g _ _ _ _ (ZA6 e) with ⟨h1,_⟩ | ⟨_,h2⟩
    .exact ZM7 H h1 p hp
    .rw [h] at h2; cases h2
   .cases hp
def eqb:Bool -> Bool -> Bool
 | true,true=>true
 | false,false=>true
 | _,_=>false
theorem eqb_ok {a b:Bool} (h:eqb a b = true):a = b:=by cases a <;> cases b <;> simp [eqb] at h <;> rfl
def inA (g:Nat) (w:Bool):List (Nat × Bool) -> Bool
  | []=>false
  | (k,u) :: l=>match Nat.beq g k with
    | true=>match eqb w u with
      | true=>true
      | false=>inA g w l
    | false=>inA g w l
theorem ZZj {g:Nat} {w:Bool}:∀ {A:List (Nat × Bool)},inA g w A = true -> (g,w) ∈ A
  | [],h=>by cases h
  | (k,u) :: l,h=>by
    simp only [inA] at h
    split at h
    · rename_i e1
      split at h
      · rename_i e2
        rw [Nat.eq_of_beq_eq_true e1,eqb_ok e2]; exact List.mem_cons_self ..
      · exact List.mem_cons_of_mem _ (ZZj h)
    · exact List.mem_cons_of_mem _ (ZZj h)
def rdv (A:List (Nat × Bool)) (σ:LS) (t:Nat):Option AV:=match lk σ.te t with
 | some v=>some v
 | none=>match fndg t σ.tg with
  | some (g,w,v)=>match inA g w A with
   | true=>some v
   | false=>none
  | none=>none
def gt (A:List (Nat × Bool)) (σ:LS):X -> Option AV
 | .t i=>rdv A σ i
 | .c a=>some a
def gts (A:List (Nat × Bool)) (σ:LS):List X -> Option (List AV)
 | []=>some []
 | x :: xs=>match gt A σ x with
  | some v=>match gts A σ xs with
   | some l=>some (v :: l)
   | none=>none
  | none=>none
section
variable {σ:LS} {s:St} {A:List (Nat × Bool)}
theorem Zn9 (H:σ.has s) (hA:sat s A) {t:Nat} {v:AV} (h:rdv A σ t = some v):s.e t = v:=by
 unfold rdv at h
 split at h
 .rename_i u e; cases h; exact H.e t _ e
 .split at h
  .rename_i g w u e
   split at h
   .rename_i e2
    cases h
    rcases H.g _ _ _ _ (ZA6 e) with ⟨_,h2⟩ | ⟨h1,_⟩
    .exact h2
    .exact absurd (hA _ (ZZj e2)) h1
   .cases h
  .cases h
theorem gt_ok (H:σ.has s) (hA:sat s A) {x:X} {v:AV} (h:gt A σ x = some v):s.get x = v:=by
 cases x with
 | t i=>exact Zn9 H hA h
 | c a=>cases h; rfl
theorem Zod (H:σ.has s) (hA:sat s A):∀ {xs:List X} {l:List AV},gts A σ xs = some l -> xs.map s.get = l
 | [],l,h=>by cases h; rfl
 | x :: xs,l,h=>by
  simp only [gts] at h
  split at h
  .rename_i v e
   split at h
   .rename_i l' e2
    cases h
    rw [List.map_cons,gt_ok H hA e,Zod H hA e2]
   .cases h
  .cases h
theorem Zvj {A B:List (Nat × Bool)} (hA:sat s A) (hB:sat s B):sat s (A ++ B):=fun p hp=>(List.mem_append.1 hp).elim (hA p) (hB p)
end
def pkV (t:Bool):AV -> AV -> Option AV
 | .bool x,.bool y=>some (.bool (bif t then x else y))
 | .int k x,.int k' y=>if k = k' then some (.int k (bif t then x else y)) else none
 | .str x,.str y=>some (.str (bif t then x else y))
 | _,_=>none
theorem pkV_ok {t:Bool} {a b v:AV} (h:pkV t a b = some v):(t = true -> v = a) /\ (t = false -> v = b):=by
 unfold pkV at h
 split at h
 .cases h; cases t <;> simp
 .split at h
  .rename_i e; subst e; cases h; cases t <;> simp
  .cases h
 .cases h; cases t <;> simp
 .cases h
def ldv (σ:LS) (p:AV) (n:Nat) (ag:Bool):Option AV:=match p with
 | .ept e off=>pickC e.cells off n ag
 | .eot e off=>pickC e.cells off n ag
 | .ptr k off=>match lk σ.tb k with
  | some cs=>pickC cs off n ag
  | none=>none
 | _=>none
def gtp (A:List (Nat × Bool)) (σ:LS):List (Nat × Nat × X) -> Option (List (Nat × Nat × AV))
  | []=>some []
  | (o,n,x) :: ps=>match gt A σ x with
    | some v=>match gtp A σ ps with
      | some l=>some ((o,n,v) :: l)
      | none=>none
    | none=>none
theorem gtp_ok {σ:LS} {s:St} {A:List (Nat × Bool)} (H:σ.has s) (hA:sat s A):∀ {ps:List (Nat × Nat × X)} {l:List (Nat × Nat × AV)},gtp A σ ps = some l -> (ps.map fun (off,n,x)=>(off,n,s.get x)) = l
  | [],l,h=>by cases h; rfl
  | (o,n,x) :: ps,l,h=>by
    simp only [gtp] at h
    split at h
    · rename_i v e
      split at h
      · rename_i l' e2
        cases h
        rw [List.map_cons,gtp_ok H hA e2]
        simp only [gt_ok H hA e]
      · cases h
    · cases h
def pv (A:List (Nat × Bool)) (σ:LS):LOp -> Option AV
 | .mv _ x=>gt A σ x
 | .pk _ (.t i) a b=>match rdv A σ i with
  | some (.bool t)=>match gt (clo σ.tg 9 i true ++ A) σ a with
   | some x=>match gt (clo σ.tg 9 i false ++ A) σ b with
    | some y=>pkV t x y
    | none=>none
   | none=>none
  | _=>none
 | .un _ x=>match gt A σ x with
  | some (.bool b)=>some (.bool (!b))
  | _=>none
 | .bi _ op x y=>match gt A σ x with
  | some a=>match gt A σ y with
   | some b=>evB op a b
   | none=>none
  | none=>none
 | .eb _ ne x y=>match gt A σ x with
  | some (.bool a)=>match gt A σ y with
   | some (.bool b)=>match ne with
    | true=>some (.bool (!(a == b)))
    | false=>some (.bool (a == b))
   | _=>none
  | _=>none
 | .es _ ne ks x y=>match gt A σ x with
  | some (.agg a)=>match gt A σ y with
   | some (.agg b)=>match eqCells ks a b with
    | some r=>match ne with
     | true=>some (.bool (!r))
     | false=>some (.bool r)
    | none=>none
   | _=>none
  | _=>none
 | .cv _ k x=>match gt A σ x with
  | some (.int _ n)=>some (.int k (k.wrap n))
  | _=>none
 | .fa _ x off=>match gt A σ x with
  | some (.ptr k o)=>match lk σ.tb k with
   | some _=>some (.ptr k (o + off))
   | none=>none
  | some (.ept e o)=>some (.ept e (o + off))
  | some (.eot e o)=>some (.eot e (o + off))
  | some (.rpt k i o)=>match lk σ.tr k with
   | some _=>some (.rpt k i (o + off))
   | none=>none
  | _=>none
 | .ld _ p n ag=>match gt A σ p with
  | some v=>ldv σ v n ag
  | none=>none
 | .bd _ z ps=>match gtp A σ ps with
  | some l=>match Ze7 z l with
   | some cs=>match allOne cs with
    | true=>some (.agg cs)
    | false=>none
   | none=>none
  | none=>none
 | .ln _ x=>match gt A σ x with
  | some .nl=>some (.int .i64 0)
  | _=>none
 | .lq _ x=>match gt A σ x with
  | some .nl=>some (.int .i64 0)
  | _=>none
 | .ls _ x=>match gt A σ x with
  | some (.str l)=>some (.int .i64 l.length)
  | _=>none
 | .ex _ x i=>match gt A σ x with
  | some (.tup vs)=>vs[i]?
  | _=>none
 | .fd _ x off n ag=>match gt A σ x with
  | some (.agg cs)=>pickC cs off n ag
  | _=>none
 | .nc _ x=>match gt A σ x with
  | some (.ptr k o)=>match lk σ.tb k with
   | some _=>some (.ptr k o)
   | none=>none
  | some (.fn f cs)=>some (.fn f cs)
  | _=>none
 | .mm _ mx x y=>match gt A σ x with
  | some (.int k a)=>match gt A σ y with
   | some (.int k' b)=>if k = k' then match mx with
     | true=>some (.int k (max a b))
     | false=>some (.int k (min a b))
    else none
   | _=>none
  | _=>none
 | .mf _ f xs=>match gts A σ xs with
  | some l=>some (.fn f l)
  | none=>none
 | .be _=>some .el
 | .ae _ x y sz _=>match gt A σ x with
  | some .el=>match gt A σ y with
   | some .nl=>some (.sl .nw sz [])
   | _=>none
  | _=>none
 | .bs _ sz ps own=>match own with
  | true=>none
  | false=>match gts A σ ps with
   | some es=>if es.all nosr = true /\ (es.all fun e=>Nat.beq e.cells.length sz) = true /\ es.length * sz <= 1000000 /\ es.length <= 1000000 then some (.sl .nw sz es) else none
   | none=>none
 | _=>none
theorem ZUf {s:St}:∀ {l:List AV},l.all nosr = true -> s.dtL l = some l
 | [],_=>rfl
 | a :: l,h=>by
  simp only [List.all_cons,yD] at h
  rw [St.dtL,ZVf h.1,ZUf h.2]
section
variable {P:Program} {σ:LS} {s:St} {A:List (Nat × Bool)}
theorem pv_ok (H:σ.has s) (hA:sat s A) {l:LOp} {v:AV} (h:pv A σ l = some v) {K:St -> Prop} (hK:K (s.set l.dst v)):wop P l K s:=by
 cases l with
 | mv d x=>simp only [wop]; rw [gt_ok H hA h]; exact hK
 | pk d c a b =>
  cases c with
  | c _=>simp [pv] at h
  | t i =>
   simp only [pv] at h
   split at h
   .rename_i t e
    have e1:=Zn9 H hA e
    split at h
    .rename_i x ex
     split at h
     .rename_i y ey
      obtain ⟨h1,h2⟩:=pkV_ok h
      simp only [wop,get_t,e1]
      cases t
      .have:=gt_ok H (Zvj (ZM7 H e1) hA) ey
       rw [if_neg (by simp),this,← h2 rfl]; exact hK
      .have:=gt_ok H (Zvj (ZM7 H e1) hA) ex
       rw [if_pos rfl,this,← h1 rfl]; exact hK
     .cases h
    .cases h
   .cases h
 | un d x =>
  simp only [pv] at h
  split at h
  .rename_i b e; cases h; simp only [wop]; rw [gt_ok H hA e]; exact hK
  .cases h
 | bi d op x y =>
  simp only [pv] at h
  split at h
  .rename_i a e
   split at h
   .rename_i b e2
    simp only [wop]; rw [gt_ok H hA e,gt_ok H hA e2,h]; exact hK
   .cases h
  .cases h
 | eb d ne x y =>
  simp only [pv] at h
  split at h
  .rename_i a e
   split at h
   .rename_i b e2
    simp only [wop]; rw [gt_ok H hA e,gt_ok H hA e2]
    cases ne <;> (cases h; exact hK)
   .cases h
  .cases h
 | es d ne ks x y =>
  simp only [pv] at h
  split at h
  .rename_i a e
   split at h
   .rename_i b e2
    split at h
    .rename_i r e3
     simp only [wop]; rw [gt_ok H hA e,gt_ok H hA e2]
     simp only [e3]
     cases ne <;> (cases h; exact hK)
    .cases h
   .cases h
  .cases h
 | cv d k x =>
  simp only [pv] at h
  split at h
  .rename_i k' n e; cases h; simp only [wop]; rw [gt_ok H hA e]; exact hK
  .cases h
 | fa d x off =>
  simp only [pv] at h
  split at h
  .rename_i k o e
   split at h
   .rename_i cs e2
    cases h; simp only [wop]; rw [gt_ok H hA e]; exact ⟨by simp [H.b _ _ e2],hK⟩
   .cases h
  .rename_i e' o e; cases h; simp only [wop]; rw [gt_ok H hA e]; exact hK
  .rename_i e' o e; cases h; simp only [wop]; rw [gt_ok H hA e]; exact hK
  .rename_i k i o e
   split at h
   .rename_i r e2
    cases h; simp only [wop]; rw [gt_ok H hA e]; exact ⟨by simp [(H.r _ _ e2).1],hK⟩
   .cases h
  .cases h
 | ld d p n ag =>
  simp only [pv] at h
  split at h
  .rename_i u e
   simp only [wop]; rw [gt_ok H hA e]
   have:s.ld u n ag = some v:=by
    unfold ldv at h
    split at h
    .exact h
    .exact h
    .split at h
     .rename_i cs e2; simp only [St.ld,H.b _ _ e2]; exact h
     .cases h
    .cases h
   rw [this]; exact hK
  .cases h
 | bd d z ps =>
  simp only [pv] at h
  split at h
  .rename_i l e
   split at h
   .rename_i cs e2
    split at h
    .rename_i e3
     cases h
     simp only [wop]; rw [gtp_ok H hA e]; simp only [e2]; exact ⟨e3,hK⟩
    .cases h
   .cases h
  .cases h
 | ln d x =>
  simp only [pv] at h
  split at h
  .rename_i e; cases h; simp only [wop]; rw [gt_ok H hA e]; exact hK
  .cases h
 | lq d x =>
  simp only [pv] at h
  split at h
  .rename_i e; cases h; simp only [wop]; rw [gt_ok H hA e]; exact hK
  .cases h
 | be d =>
  cases h
  exact hK
 | ae d x y sz by' =>
  simp only [pv] at h
  split at h
  .rename_i ex
   split at h
   .rename_i ey
    cases h; simp only [wop]; rw [gt_ok H hA ex]; simp only; rw [gt_ok H hA ey]; exact hK
   .cases h
  .cases h
 | ls d x =>
  simp only [pv] at h
  split at h
  .rename_i l e; cases h; simp only [wop]; rw [gt_ok H hA e]; exact hK
  .cases h
 | ex d x i =>
  simp only [pv] at h
  split at h
  .rename_i vs e; simp only [wop]; rw [gt_ok H hA e]; simp only [h]; exact hK
  .cases h
 | fd d x off n ag =>
  simp only [pv] at h
  split at h
  .rename_i cs e; simp only [wop]; rw [gt_ok H hA e]; simp only [h]; exact hK
  .cases h
 | nc d x =>
  simp only [pv] at h
  split at h
  .rename_i k o e
   split at h
   .rename_i cs e2; cases h; simp only [wop]; rw [gt_ok H hA e]; exact ⟨by simp [H.b _ _ e2],hK⟩
   .cases h
  .rename_i f cs e; cases h; simp only [wop]; rw [gt_ok H hA e]; exact hK
  .cases h
 | mm d mx x y =>
  simp only [pv] at h
  split at h
  .rename_i k a e
   split at h
   .rename_i k' b e2
    split at h
    .rename_i e3
     simp only [wop]; rw [gt_ok H hA e,gt_ok H hA e2]
     cases mx <;> (cases h; exact ⟨e3,hK⟩)
    .cases h
   .cases h
  .cases h
 | mf d f xs =>
  simp only [pv] at h
  split at h
  .rename_i l e; cases h; simp only [wop]; rw [Zod H hA e]; exact hK
  .cases h
 | bs d sz ps own =>
  simp only [pv] at h
  split at h
  .cases h
  .split at h
   .rename_i es ex
    split at h
    .rename_i hc
     cases h
     have q:=Zod H hA ex
     simp only [wop]; rw [q,ZUf hc.1]
     refine ⟨hc.1,fun e he=>Nat.eq_of_beq_eq_true (List.all_eq_true.1 hc.2.1 e he),hc.2.2.1,hc.2.2.2,?_⟩
     rw [if_neg (by simp)]
     exact hK
    .cases h
   .cases h
 | _=>cases h
end
end Go.Proofs.YtodafdoninblmaaGreat.Eng
namespace Go.Proofs.YtodafdoninblmaaGreat.Eng
open Go Go.RowKit
def idx {α:Type} (l:List α) (i:Int):Option α:=if 0 <= i then l[i.toNat]? else none
def bhi (h:Option Int) (n:Nat):Option Nat:=match h with
 | none=>some n
 | some i=>if 0 <= i /\ i <= n then some i.toNat else none
def blo (h:Option Int) (n:Nat):Option Nat:=match h with
 | none=>some 0
 | some i=>if 0 <= i /\ i <= n then some i.toNat else none
def cutL {α:Type} (l:List α) (lo hi:Option Int):Option (List α):=match bhi hi l.length with
 | some h=>match blo lo h with
  | some a=>some ((l.take h).drop a)
  | none=>none
 | none=>none
def appL {α:Type} (bs:Nat) (l m:List α):Option (List α):=if (l.length + m.length) * bs <= 140737488355328 then some (l ++ m) else none
def catS (a b:List UInt8):Option (List UInt8):=if a.length + b.length <= 9223372036854775807 then some (a ++ b) else none
def mkL {α:Type} (bs:Nat) (n:Int) (z:α):Option (List α):=if 0 <= n /\ bs * n <= 140737488355328 /\ n <= 9223372036854775807 then some (List.replicate n.toNat z) else none
def quoI (k:IntKind) (a b:Int):Option Int:=if b = 0 then none else some (k.wrap (a.tdiv b))
def remI (a b:Int):Option Int:=if b = 0 then none else some (a.tmod b)
def shrI (k:IntKind) (a b:Int):Option Int:=if 0 <= b then some (bShr k a b) else none
theorem Z0 {α β:Type} (f:α -> β) {l:List α} {i:Int} {x:α} (h:idx l i = some x):idx (l.map f) i = some (f x):=by
 unfold idx at *
 split at h
 .rename_i e; rw [if_pos e,List.getElem?_map,h]; rfl
 .cases h
theorem Z2 {α:Type} {l:List α} {i:Nat} {x:α} (h:l[i]? = some x):idx l (i:Int) = some x:=by
 unfold idx; rw [if_pos (by omega)]; simpa using h
theorem Z71 {α:Type} {l:List α} {i:Int} {x:α} (h:idx l i = some x):l[i.toNat]? = some x:=by
 unfold idx at h
 split at h
 .exact h
 .cases h
theorem idx_lt {α:Type} {l:List α} {i:Int} {x:α} (h:idx l i = some x):0 <= i /\ i < l.length:=by
 unfold idx at h
 split at h
 .have:=(yB h).1; omega
 .cases h
theorem ZYg {α β:Type} (f:α -> β) {l m:List α} {lo hi:Option Int} (h:cutL l lo hi = some m):cutL (l.map f) lo hi = some (m.map f):=by
 unfold cutL at *
 rw [List.length_map]
 split at h
 .split at h
  .cases h; simp [List.map_take,List.map_drop]
  .cases h
 .cases h
theorem Z9 {α β:Type} (f:α -> β) {n:Nat} {l m r:List α} (h:appL n l m = some r):appL n (l.map f) (m.map f) = some (r.map f):=by
 unfold appL at *
 split at h
 .rename_i e; cases h; rw [List.length_map,List.length_map,if_pos e,List.map_append]
 .cases h
theorem ZX8 {α β:Type} (f:α -> β) {n:Nat} {i:Int} {z:α} {r:List α} (h:mkL n i z = some r):mkL n i (f z) = some (r.map f):=by
 unfold mkL at *
 split at h
 .rename_i e; cases h; rw [if_pos e,List.map_replicate]
 .cases h
theorem Zq6 {α β:Type} (f:α -> β) (l:List α) (i:Nat) (x:α):(l.map f).set i (f x) = (l.set i x).map f:=by
 rw [List.map_set]
def TT:Tag -> Nat -> Value -> Prop:=fun _ _ _=>True
def AEs (l l':List AV):Prop:=l.length = l'.length /\ ∀ (w:World) (S:Nat -> Nat -> Prop) (i:Nat) (a a':AV) (v:Value),l[i]? = some a -> l'[i]? = some a' -> Rd w S TT a v -> Rd w S TT a' v
theorem AEs.refl (l:List AV):AEs l l:=⟨rfl,fun w S i a a' v h h' hr=>by rw [h] at h'; cases h'; exact hr⟩
theorem AEs.nil:AEs [] []:=AEs.refl _
def AE (a a':AV):Prop:=∀ (w:World) (S:Nat -> Nat -> Prop) (v:Value),Rd w S TT a v -> Rd w S TT a' v
theorem AE.refl (a:AV):AE a a:=fun _ _ _ h=>h
theorem AEs.cons {a a':AV} {l l':List AV} (h:AE a a') (hl:AEs l l'):AEs (a :: l) (a' :: l'):=by
 refine ⟨by simp [hl.1],fun w S i x x' v h1 h2 hr=>?_⟩
 cases i with
 | zero=>simp at h1 h2; subst h1; subst h2; exact h w S v hr
 | succ i=>exact hl.2 w S i x x' v (by simpa using h1) (by simpa using h2) hr
def mrg1:AV -> AV -> AV
 | .nl,.sl t sz es=>match es with
  | []=>.sl t sz []
  | _=>.nl
 | .sl _ sz es,.sl t _ _=>.sl t sz es
 | a,_=>a
def mrg1L:List AV -> List AV -> List AV
 | a :: l,b :: m=>mrg1 a b :: mrg1L l m
 | l,_=>l
def mrg2:AV -> AV -> AV
 | .agg cs,.agg ds=>.agg (mrg1L cs ds)
 | .ept (.agg cs) o,.ept (.agg ds) _=>.ept (.agg (mrg1L cs ds)) o
 | a,b=>mrg1 a b
def mrg2L:List AV -> List AV -> List AV
 | a :: l,b :: m=>mrg2 a b :: mrg2L l m
 | l,_=>l
def mrg:AV -> AV -> AV
 | .fn f cs,.fn _ ds=>.fn f (mrg2L cs ds)
 | a,b=>mrg2 a b
def mrgL:List AV -> List AV -> List AV
 | a :: l,b :: m=>mrg a b :: mrgL l m
 | l,_=>l
section
variable {w:World} {S:Nat -> Nat -> Prop}
theorem Rd.mrg1 {a b:AV} {v:Value} (h:Rd w S TT a v):Rd w S TT (mrg1 a b) v:=by
 unfold Eng.mrg1
 split
 .split
  .cases h; exact .sl0 _ _ _ _ fun _ _=>trivial
  .exact h
 .cases h with
  | sl0 _ _ a c _=>exact .sl0 _ _ _ _ fun _ _=>trivial
  | sl _ _ _ b o c cv h1 h2 h3 h4 h5 h6=>exact .sl _ _ _ b o c cv h1 h2 h3 (fun j a hj=>⟨(h4 j a hj).1,(h4 j a hj).2.1,(h4 j a hj).2.2.1,trivial⟩) (fun _ _=>trivial) h6
 .exact h
theorem Zui {a b:AV} (h:a.one = true):(mrg1 a b).one = true:=by
 unfold Eng.mrg1
 split
 .split <;> rfl
 .rfl
 .exact h
theorem ZJ7:∀ {l m:List AV} {i:Nat} {x:AV},(mrg1L l m)[i]? = some x -> ∃ a b,l[i]? = some a /\ (x = a \/ x = mrg1 a b)
 | [],m,i,x,h=>by simp [mrg1L] at h
 | a :: l,[],i,x,h=>⟨x,x,h,.inl rfl⟩
 | a :: l,b :: m,0,x,h=>by simp [mrg1L] at h; exact ⟨a,b,rfl,.inr h.symm⟩
 | a :: l,b :: m,i + 1,x,h=>by
  obtain ⟨a',b',h1,h2⟩:=ZJ7 (l:=l) (m:=m) (i:=i) (by simpa [mrg1L] using h)
  exact ⟨a',b',by simpa using h1,h2⟩
theorem Zoh:∀ (l m:List AV),(mrg1L l m).length = l.length
 | [],_=>rfl
 | _ :: _,[]=>rfl
 | a :: l,b :: m=>by simp [mrg1L,Zoh l m]
theorem Rd.mrg2 {a b:AV} {v:Value} (h:Rd w S TT a v):Rd w S TT (mrg2 a b) v:=by
 unfold Eng.mrg2
 split
 .rename_i cs ds
  cases h with
  | agg _ vs hl h1 h =>
   refine .agg _ vs (by rw [Zoh]; exact hl) (fun x hx=>?_) fun i x v hx hv=>?_
   .obtain ⟨i,hi⟩:=List.getElem?_of_mem hx
    obtain ⟨a,b,q1,q2⟩:=ZJ7 hi
    have:=h1 a (yE q1)
    rcases q2 with rfl | rfl
    .exact this
    .exact Zui this
   .obtain ⟨a,b,q1,q2⟩:=ZJ7 hx
    rcases q2 with rfl | rfl
    .exact h i _ v q1 hv
    .exact (h i a v q1 hv).mrg1
 .rename_i cs o ds o'
  cases h with
  | ept _ off b o cv hw h =>
   refine .ept _ _ b _ cv (fun j x hx=>?_) fun j x hx=>?_
   .obtain ⟨a,b,q1,q2⟩:=ZJ7 (show (mrg1L cs ds)[j]? = some x from hx)
    obtain ⟨z1,z2,z3,z4⟩:=hw j a q1
    rcases q2 with rfl | rfl
    .exact ⟨z1,z2,z3,z4⟩
    .exact ⟨z1,z2,Zui z3,trivial⟩
   .obtain ⟨a,b,q1,q2⟩:=ZJ7 (show (mrg1L cs ds)[j]? = some x from hx)
    rcases q2 with rfl | rfl
    .exact h j _ q1
    .exact (h j a q1).mrg1
 .exact h.mrg1
theorem ZBh:∀ {l m:List AV} {i:Nat} {x:AV},(mrg2L l m)[i]? = some x -> ∃ a b,l[i]? = some a /\ (x = a \/ x = mrg2 a b)
 | [],m,i,x,h=>by simp [mrg2L] at h
 | a :: l,[],i,x,h=>⟨x,x,h,.inl rfl⟩
 | a :: l,b :: m,0,x,h=>by simp [mrg2L] at h; exact ⟨a,b,rfl,.inr h.symm⟩
 | a :: l,b :: m,i + 1,x,h=>by
  obtain ⟨a',b',h1,h2⟩:=ZBh (l:=l) (m:=m) (i:=i) (by simpa [mrg2L] using h)
  exact ⟨a',b',by simpa using h1,h2⟩
theorem Znh:∀ (l m:List AV),(mrg2L l m).length = l.length
 | [],_=>rfl
 | _ :: _,[]=>rfl
 | a :: l,b :: m=>by simp [mrg2L,Znh l m]
theorem Rd.mrg {a b:AV} {v:Value} (h:Rd w S TT a v):Rd w S TT (mrg a b) v:=by
 unfold Eng.mrg
 split
 .rename_i f cs g ds
  cases h with
  | fn _ _ vs hl h =>
   refine .fn f _ vs (by rw [Znh]; exact hl) fun i x v hx hv=>?_
   obtain ⟨a,b,q1,q2⟩:=ZBh hx
   rcases q2 with rfl | rfl
   .exact h i _ v q1 hv
   .exact (h i a v q1 hv).mrg2
 .exact h.mrg2
theorem ZMi:∀ {l m:List AV},mrgL l m = m -> l.length = m.length /\ ∀ (i:Nat) (a b:AV),l[i]? = some a -> m[i]? = some b -> mrg a b = b
 | [],m,h=>by
  simp only [mrgL] at h; subst h
  exact ⟨rfl,by intro i a b h; simp at h⟩
 | a :: l,[],h=>by simp [mrgL] at h
 | a :: l,b :: m,h=>by
  simp only [mrgL,List.cons.injEq] at h
  obtain ⟨q1,q2⟩:=ZMi h.2
  refine ⟨by simp [q1],fun i x y hx hy=>?_⟩
  cases i with
  | zero=>simp at hx hy; subst hx; subst hy; exact h.1
  | succ i=>exact q2 i x y (by simpa using hx) (by simpa using hy)
variable {N:Tag -> Nat -> Value -> Prop}
mutual
theorem Rd.unrdt:∀ (a:AV) {v:Value},Rd w S N a.rdt v -> Rd w S TT a v
 | .bool b,v,h=>by cases h; exact .bool b
 | .int k n,v,h=>by cases h; exact .int k n
 | .str l,v,h=>by cases h; exact .str l
 | .nl,v,h=>by cases h; exact .nl
 | .agg cs,v,h=>by
  rw [AV.rdt] at h
  cases h with
  | agg _ vs hl h1 h =>
   refine .agg cs vs (by simpa [Za] using hl) (fun x hx=>?_) fun i x v hx hv=>unrdtL cs i x hx _ (h i x.rdt v (by rw [Za,List.getElem?_map,hx]; rfl) hv)
   have:=h1 x.rdt (by rw [Za]; exact List.mem_map_of_mem hx)
   cases x <;> simp [AV.rdt,AV.one] at this ⊢
 | .fn f cs,v,h=>by
  rw [AV.rdt] at h
  cases h with
  | fn _ _ vs hl h=>exact .fn f cs vs (by simpa [Za] using hl) fun i x v hx hv=>unrdtL cs i x hx _ (h i x.rdt v (by rw [Za,List.getElem?_map,hx]; rfl) hv)
 | .sl t sz es,v,h=>by
  rw [AV.rdt] at h
  generalize hz:rdtL es = zs at h
  cases h with
  | sl0 _ _ a c _ =>
   have:es = []:=by
    rw [Za] at hz
    simpa using hz
   subst this
   exact .sl0 _ _ _ _ fun _ _=>trivial
  | sl _ _ _ b o c cv h1 h2 h3 h4 h5 h6 =>
   subst hz
   have hl:(rdtL es).length = es.length:=by rw [Za]; simp
   rw [hl]
   refine .sl t sz es b o c cv (by rw [← hl]; exact h1) h2 (fun e he=>?_) (fun j x hj=>?_) (fun _ _=>trivial) fun j x hj=>?_
   .have:=h3 e.rdt (by rw [Za]; exact List.mem_map_of_mem he)
    cases e <;> simp [AV.rdt,AV.cells,Za] at this ⊢ <;> exact this
   .have q:(flat (rdtL es))[j]? = some x.rdt:=by rw [Z0c,List.getElem?_map,hj]; rfl
    obtain ⟨z1,z2,z3,_⟩:=h4 j _ q
    exact ⟨z1,z2,by cases x <;> simp [AV.rdt,AV.one] at z3 ⊢,trivial⟩
   .have q:(flat (rdtL es))[j]? = some x.rdt:=by rw [Z0c,List.getElem?_map,hj]; rfl
    exact unrdtF es j x hj _ (h6 j _ q)
 | .ept e o,v,h=>by
  rw [AV.rdt] at h
  cases h with
  | ept _ off b o cv hw h =>
   have hc:e.rdt.cells = e.cells.map AV.rdt:=by cases e <;> simp [AV.rdt,AV.cells,Za]
   refine .ept e _ b _ cv (fun j x hx=>?_) fun j x hx=>?_
   .obtain ⟨z1,z2,z3,_⟩:=hw j x.rdt (by rw [hc,List.getElem?_map,hx]; rfl)
    exact ⟨z1,z2,by cases x <;> simp [AV.rdt,AV.one] at z3 ⊢,trivial⟩
   .exact unrdtC e j x hx _ (h j x.rdt (by rw [hc,List.getElem?_map,hx]; rfl))
 | .tup _,v,h=>by rw [AV.rdt] at h; cases h
 | .sref k,v,h=>by have h:Rd w S N (.sref k) v:=h; cases h
 | .ptr k o,v,h=>by have h:Rd w S N (.ptr k o) v:=h; cases h
 | .eot e o,v,h=>by have h:Rd w S N (.eot e o) v:=h; cases h
 | .rpt k i o,v,h=>by have h:Rd w S N (.rpt k i o) v:=h; cases h
 | .und,v,h=>by have h:Rd w S N (.und) v:=h; cases h
 | .el,v,h=>by have h:Rd w S N (.el) v:=h; cases h
 | .od i ks n,v,h=>by have h:Rd w S N (.od i ks n) v:=h; cases h
 | .op i ks o,v,h=>by have h:Rd w S N (.op i ks o) v:=h; cases h
 | .bad,v,h=>by have h:Rd w S N (.bad) v:=h; cases h
termination_by a=>(SizeOf.sizeOf a,0)
theorem Rd.unrdtL:∀ (l:List AV) (i:Nat) (a:AV),l[i]? = some a -> ∀ v,Rd w S N a.rdt v -> Rd w S TT a v
 | [],i,a,h,_,_=>by simp at h
 | x :: l,0,a,h,v,hr=>by
  have e:x = a:=by simpa using h
  exact e ▸ Rd.unrdt x (e ▸ hr)
 | x :: l,i + 1,a,h,v,hr=>Rd.unrdtL l i a (by simpa using h) v hr
termination_by l=>(SizeOf.sizeOf l,0)
theorem Rd.unrdtF:∀ (l:List AV) (i:Nat) (a:AV),(flat l)[i]? = some a -> ∀ v,Rd w S N a.rdt v -> Rd w S TT a v
 | [],i,a,h,_,_=>by simp [flat] at h
 | x :: l,i,a,h,v,hr=>by
  have e:flat (x :: l) = x.cells ++ flat l:=by simp [flat]
  rw [e,List.getElem?_append] at h
  split at h
  .exact Rd.unrdtC x i a h v hr
  .exact Rd.unrdtF l _ a h v hr
termination_by l=>(SizeOf.sizeOf l,0)
theorem Rd.unrdtC:∀ (e:AV) (i:Nat) (a:AV),e.cells[i]? = some a -> ∀ v,Rd w S N a.rdt v -> Rd w S TT a v
 | .agg cs,i,a,h,v,hr=>Rd.unrdtL cs i a h v hr
 | .bool b,i,a,h,v,hr | .int _ _,i,a,h,v,hr | .str _,i,a,h,v,hr | .nl,i,a,h,v,hr | .el,i,a,h,v,hr | .od _ _ _,i,a,h,v,hr | .op _ _ _,i,a,h,v,hr | .sl _ _ _,i,a,h,v,hr | .ept _ _,i,a,h,v,hr
 | .tup _,i,a,h,v,hr | .sref _,i,a,h,v,hr | .ptr _ _,i,a,h,v,hr | .eot _ _,i,a,h,v,hr | .rpt _ _ _,i,a,h,v,hr | .fn _ _,i,a,h,v,hr | .und,i,a,h,v,hr | .bad,i,a,h,v,hr=>by
  cases i with
  | zero =>
   simp only [AV.cells,List.getElem?_cons_zero,Option.some.injEq] at h
   exact h ▸ Rd.unrdt _ (h ▸ hr)
  | succ i=>simp [AV.cells] at h
termination_by e=>(SizeOf.sizeOf e,1)
end
theorem Snd.aes {P:Program} {f:FuncId} {l as as':List AV} {res:AV} {rows:List Row} (h:Snd P f as' res rows) (hae:AEs as as') (hm:mrgL l as = as):Snd P f (rdtL l) res rows:=by
 intro w S N vs hS hvl hvs
 obtain ⟨hl,hm⟩:=ZMi hm
 have hrl:(rdtL l).length = l.length:=by rw [Za]; simp
 have hal:=hae.1
 refine h w S TT vs hS (by omega) fun i a v ha hv=>?_
 have hi:i < as'.length:=(yB ha).1
 have hi1:i < l.length:=by omega
 have hi2:i < as.length:=by omega
 have h1:l[i]? = some l[i]:=yA hi1
 have h2:as[i]? = some as[i]:=yA hi2
 refine hae.2 w S i as[i] a v h2 ha ?_
 have:=Rd.unrdt (N:=N) l[i] (hvs i l[i].rdt v (by rw [Za,List.getElem?_map,h1]; rfl) hv)
 rw [← hm i _ _ h1 h2]
 exact this.mrg
end
def LS.dc (σ:LS):AV -> Option AV
 | .sref k=>match lk σ.tr k with
  | some r=>some (.sl .nw r.sz r.es)
  | none=>none
 | .bool b=>some (.bool b)
 | .int k n=>some (.int k n)
 | .str l=>some (.str l)
 | .nl=>some .nl
 | .sl t sz es=>some (.sl t sz es)
 | .ept e o=>some (.ept e o)
 | _=>none
def LS.dcL (σ:LS):List AV -> Option (List AV)
 | []=>some []
 | a :: l=>match σ.dc a with
  | some x=>match σ.dcL l with
   | some y=>some (x :: y)
   | none=>none
  | none=>none
def LS.d2 (σ:LS):AV -> Option AV
 | .agg cs=>match σ.dcL cs with
  | some l=>some (.agg l)
  | none=>none
 | a=>σ.dc a
def LS.d2L (σ:LS):List AV -> Option (List AV)
 | []=>some []
 | a :: l=>match σ.d2 a with
  | some x=>match σ.d2L l with
   | some y=>some (x :: y)
   | none=>none
  | none=>none
def LS.dt (σ:LS):AV -> Option AV
 | .fn f cs=>match σ.d2L cs with
  | some l=>some (.fn f l)
  | none=>none
 | a=>σ.d2 a
def LS.dtL (σ:LS):List AV -> Option (List AV)
 | []=>some []
 | a :: l=>match σ.dt a with
  | some x=>match σ.dtL l with
   | some y=>some (x :: y)
   | none=>none
  | none=>none
section
variable {σ:LS} {s:St}
theorem dc_ok (H:σ.has s) {a x:AV} (h:σ.dc a = some x):s.dt a = some x:=by
 unfold LS.dc at h
 split at h
 .split at h
  .rename_i r e; cases h; simp [St.dt,(H.r _ _ e).1]
  .cases h
 all_goals first | (cases h; rfl) | cases h
theorem dcL_ok (H:σ.has s):∀ {l m:List AV},σ.dcL l = some m -> s.dtL l = some m
 | [],m,h=>by cases h; rfl
 | a :: l,m,h=>by
  simp only [LS.dcL] at h
  split at h
  .rename_i x e
   split at h
   .rename_i y e2; cases h; rw [St.dtL,dc_ok H e,dcL_ok H e2]
   .cases h
  .cases h
theorem d2_ok (H:σ.has s) {a x:AV} (h:σ.d2 a = some x):s.dt a = some x:=by
 unfold LS.d2 at h
 split at h
 .split at h
  .rename_i l e; cases h; rw [St.dt,dcL_ok H e]; rfl
  .cases h
 .exact dc_ok H h
theorem d2L_ok (H:σ.has s):∀ {l m:List AV},σ.d2L l = some m -> s.dtL l = some m
 | [],m,h=>by cases h; rfl
 | a :: l,m,h=>by
  simp only [LS.d2L] at h
  split at h
  .rename_i x e
   split at h
   .rename_i y e2; cases h; rw [St.dtL,d2_ok H e,d2L_ok H e2]
   .cases h
  .cases h
theorem dt_ok (H:σ.has s) {a x:AV} (h:σ.dt a = some x):s.dt a = some x:=by
 unfold LS.dt at h
 split at h
 .split at h
  .rename_i l e; cases h; rw [St.dt,d2L_ok H e]; rfl
  .cases h
 .exact d2_ok H h
theorem Zek (H:σ.has s):∀ {l m:List AV},σ.dtL l = some m -> s.dtL l = some m
 | [],m,h=>by cases h; rfl
 | a :: l,m,h=>by
  simp only [LS.dtL] at h
  split at h
  .rename_i x e
   split at h
   .rename_i y e2; cases h; rw [St.dtL,dt_ok H e,Zek H e2]
   .cases h
  .cases h
end
end Go.Proofs.YtodafdoninblmaaGreat.Eng
namespace Go.Proofs.YtodafdoninblmaaGreat.Eng
open Go Go.RowKit
inductive Act | a (v:AV) | l (es:List AV) | i (i:Int) | n (n:Nat) | s (l:List UInt8) | o (o:Option Int)
def allG:List (Bool × Bool) -> Prop
  | []=>True
  | (b,w) :: r=>b = w /\ allG r
structure Rw (q:Prop) where
 a:AV
 b:AV
 h:q -> a = b
def Zpf (P:Program) (f sz:Nat) (es as:List AV) (ret:Bool) (es':List AV):Prop:=Con P f (.sref 0 :: as) [] [⟨sz,es,false⟩] fun res bout upd new =>
 bout = [] /\ (match ret with | true=>res = .sref 1 /\ upd = [none] /\ new = [⟨sz,es',false⟩] | false=>res = .tup [] /\ upd = [some es'] /\ new = [])
inductive Hint (P:Program) (q:Prop)
 | ln (es:List AV) (n:Nat) (h:q -> es.length = n)
 | le (es:List AV) (n:Nat) (h:q -> es.length = n) (h2:q -> n <= 9223372036854775807)
 | ix (es:List AV) (i:Int) (e:AV) (h:q -> idx es i = some e)
 | el (es:List AV) (j:Nat) (e:AV) (h:q -> es[j]? = some e)
 | sx (l:List UInt8) (i:Int) (b:UInt8) (h:q -> idx l i = some b)
 | sto (es:List AV) (j:Nat) (e ne:AV) (es':List AV) (h:q -> es[j]? = some e) (h2:q -> es.set j ne = es')
 | ap (es news:List AV) (bs:Nat) (es':List AV) (h:q -> appL bs es news = some es')
 | ms (bs:Nat) (n:Int) (z:AV) (es:List AV) (h:q -> mkL bs n z = some es)
 | sc (es:List AV) (lo hi:Option Int) (es':List AV) (h:q -> cutL es lo hi = some es')
 | ss (l:List UInt8) (lo hi:Option Int) (y:List UInt8) (h:q -> cutL l lo hi = some y)
 | sa (x y z:List UInt8) (h:q -> catS x y = some z)
 | quo (k:IntKind) (x y z:Int) (h:q -> quoI k x y = some z)
 | rem (x y z:Int) (h:q -> remI x y = some z)
 | shr (k:IntKind) (x y z:Int) (h:q -> shrI k x y = some z)
 | b2s (es:List AV) (l:List UInt8) (h:q -> es = l.map fun b=>AV.int .u8 b.toNat)
 | s2b (l:List UInt8) (es:List AV) (h:q -> l.length <= 140737488355328) (h2:q -> (l.map fun b=>AV.int .u8 b.toNat) = es)
 | call (f:Nat) (as as':List AV) (res:AV) (rows:List Row) (hae:AEs as as') (h:q -> Snd P f as' res rows)
 | clsr (f:Nat) (as as':List AV) (res:AV) (rows:List Row) (hae:AEs as as') (hf:isFn P f = true) (h:q -> Snd P f as' res rows)
 | cr (f sz:Nat) (es vs as:List AV) (ret:Bool) (es':List AV) (hn:q -> noOL es) (hv:q -> noOL vs) (hr:q -> rdtL vs = as) (h:q -> Zpf P f sz es as ret es')
structure HE (P:Program) where
 k:Nat
 gs:List (Bool × Bool)
 h:Option (Hint P (allG gs))
 r:Option (Rw (allG gs))
def Hint.exp {P:Program} {q:Prop}:Hint P q -> List Act
 | .ln es _ _=>[.l es]
 | .le es _ _ _=>[.l es]
 | .ix es i _ _=>[.l es,.i i]
 | .el es j _ _=>[.l es,.n j]
 | .sx l i _ _=>[.s l,.i i]
 | .sto es j _ ne _ _ _=>[.l es,.n j,.a ne]
 | .ap es news bs _ _=>[.l es,.l news,.n bs]
 | .ms bs n z _ _=>[.n bs,.i n,.a z]
 | .sc es lo hi _ _=>[.l es,.o lo,.o hi]
 | .ss l lo hi _ _=>[.s l,.o lo,.o hi]
 | .sa x y _ _=>[.s x,.s y]
 | .quo _ x y _ _=>[.i x,.i y]
 | .rem x y _ _=>[.i x,.i y]
 | .shr _ x y _ _=>[.i x,.i y]
 | .b2s es _ _=>[.l es]
 | .s2b l _ _ _=>[.s l]
 | .call f as _ _ _ _ _=>[.n f,.l as]
 | .clsr f as _ _ _ _ _ _=>[.n f,.l as]
 | .cr f sz es vs _ _ _ _ _ _ _=>[.n f,.n sz,.l es,.l vs]
def Rw.exp {p:Prop} (q:Option (Rw p)):List Act:=match q with | some q=>[.a q.a] | none=>[]
def hexp {P:Program} {p:Prop} (q:Option (Hint P p)):List Act:=match q with | some q=>q.exp | none=>[]
def kdec (a b:IntKind):Bool:=decide (a = b)
def gto (A:List (Nat × Bool)) (σ:LS):Option X -> Option (Option Int)
 | none=>some none
 | some x=>match gt A σ x with
  | some (.int _ i)=>some (some i)
  | _=>none
def pvh {P:Program} {q:Prop} (A:List (Nat × Bool)) (σ:LS):Option (Hint P q) -> LOp -> Option (AV × List Act)
 | none,l=>match l with
  | .b2s _ x=>match gt A σ x with
   | some .nl=>some (.str [],[])
   | _=>none
  | l=>match pv A σ l with
   | some v=>some (v,[])
   | none=>none
 | some h,l=>match h with
  | .ln _ n _=>match l with
   | .ln _ x=>match gt A σ x with
    | some (.sl _ _ es)=>some (.int .i64 n,[.l es])
    | some (.sref k)=>match lk σ.tr k with
     | some r=>some (.int .i64 n,[.l r.es])
     | none=>none
    | _=>none
   | _=>none
  | .le _ n _ _=>match l with
   | .lq _ x=>match gt A σ x with
    | some (.sl _ _ es)=>some (.int .i64 n,[.l es])
    | _=>none
   | _=>none
  | .ix _ _ e _=>match l with
   | .ia _ x i n=>match gt A σ i with
    | some (.int _ j)=>match gt A σ x with
     | some (.sl t sz es)=>match Nat.beq sz n with
      | true=>match t with
       | .own _=>some (.eot e 0,[.l es,.i j])
       | _=>some (.ept e 0,[.l es,.i j])
      | false=>none
     | some (.sref k)=>match lk σ.tr k with
      | some r=>match Nat.beq r.sz n with
       | true=>some (.rpt k j.toNat 0,[.l r.es,.i j])
       | false=>none
      | none=>none
     | _=>none
    | _=>none
   | _=>none
  | .el _ _ e _=>match l with
   | .ld _ p n ag=>match gt A σ p with
    | some (.rpt k j off)=>match lk σ.tr k with
     | some r=>match pickC e.cells off n ag with
      | some v=>some (v,[.l r.es,.n j])
      | none=>none
     | none=>none
    | _=>none
   | _=>none
  | .sx _ _ b _=>match l with
   | .ix _ x i=>match gt A σ x with
    | some (.str s)=>match gt A σ i with
     | some (.int _ j)=>some (.int .u8 b.toNat,[.s s,.i j])
     | _=>none
    | _=>none
   | _=>none
  | .sc _ _ _ es' _=>match l with
   | .sc _ x lo hi n=>match gto A σ lo with
    | some lo=>match gto A σ hi with
     | some hi=>match gt A σ x with
      | some (.sl t sz es)=>match Nat.beq sz n with
       | true=>match t with
        | .own _=>none
        | _=>some (.sl t sz es',[.l es,.o lo,.o hi])
       | false=>none
      | some .nl=>some (.nl,[.l [],.o lo,.o hi])
      | _=>none
     | none=>none
    | none=>none
   | _=>none
  | .ss _ _ _ y _=>match l with
   | .ss _ x lo hi=>match gto A σ lo with
    | some lo=>match gto A σ hi with
     | some hi=>match gt A σ x with
      | some (.str s)=>some (.str y,[.s s,.o lo,.o hi])
      | _=>none
     | none=>none
    | none=>none
   | _=>none
  | .sa _ _ z _=>match l with
   | .sa _ x y=>match gt A σ x with
    | some (.str a)=>match gt A σ y with
     | some (.str b)=>some (.str z,[.s a,.s b])
     | _=>none
    | _=>none
   | _=>none
  | .quo k _ _ z _=>match l with
   | .bi _ .quo x y=>match gt A σ x with
    | some (.int k1 a)=>match gt A σ y with
     | some (.int k2 b)=>match kdec k1 k && kdec k2 k with
      | true=>some (.int k z,[.i a,.i b])
      | false=>none
     | _=>none
    | _=>none
   | _=>none
  | .rem _ _ z _=>match l with
   | .bi _ .rem x y=>match gt A σ x with
    | some (.int k1 a)=>match gt A σ y with
     | some (.int k2 b)=>match kdec k1 k2 with
      | true=>some (.int k1 z,[.i a,.i b])
      | false=>none
     | _=>none
    | _=>none
   | _=>none
  | .shr k _ _ z _=>match l with
   | .bi _ .shr x y=>match gt A σ x with
    | some (.int k1 a)=>match gt A σ y with
     | some (.int _ b)=>match kdec k1 k with
      | true=>some (.int k z,[.i a,.i b])
      | false=>none
     | _=>none
    | _=>none
   | _=>none
  | .b2s _ y _=>match l with
   | .b2s _ x=>match gt A σ x with
    | some v=>match σ.dc v with
     | some (.sl _ _ es)=>some (.str y,[.l es])
     | _=>none
    | none=>none
   | _=>none
  | .s2b _ es _ _=>match l with
   | .s2b _ x=>match gt A σ x with
    | some (.str s)=>some (.sl .nw 1 es,[.s s])
    | _=>none
   | _=>none
  | .call _ as _ res rows _ _=>match l with
   | .cq _ f' xs=>match gts A σ xs with
    | some vs=>match σ.dtL vs with
     | some ds=>some (res.nwd rows,[.n f',.l (mrgL ds as)])
     | none=>none
    | none=>none
   | _=>none
  | .clsr _ as _ res rows _ _ _=>match l with
   | .cc _ fx xs=>match gt A σ fx with
    | some fv=>match σ.dt fv with
     | some (.fn f' cap)=>match gts A σ xs with
      | some vs=>match σ.dtL vs with
       | some ds=>some (res.nwd rows,[.n f',.l (mrgL (ds ++ cap) as)])
       | none=>none
      | none=>none
     | _=>none
    | none=>none
   | _=>none
  | .ap _ _ _ es' _=>match l with
   | .ae _ x y sz by'=>match gt A σ x with
    | some .el=>match gt A σ y with
     | some (.sl _ sy news)=>match Nat.beq sy sz with
      | true=>some (.sl .nw sz es',[.l [],.l news,.n by'])
      | false=>none
     | _=>none
    | _=>none
   | _=>none
  | _=>none
section
variable {P:Program} {σ:LS} {s:St} {A:List (Nat × Bool)}
theorem Zkf (H:σ.has s) (hA:sat s A) {o:Option X} {q:Option Int} (h:gto A σ o = some q):(∀ n,s.hi o n = bhi q n) /\ ∀ n,s.lo o n = blo q n:=by
 cases o with
 | none=>cases h; exact ⟨fun _=>rfl,fun _=>rfl⟩
 | some x =>
  simp only [gto] at h
  split at h
  .rename_i k i e
   cases h
   have:=gt_ok H hA e
   exact ⟨fun n=>by simp only [St.hi,this,isBnd,bhi],fun n=>by simp only [St.lo,this,isBnd,blo]⟩
  .cases h
theorem Zld {es:List AV} {k:IntKind} {j:Int} {e:AV} (h:idx es j = some e):isIdx (.int k j) es.length = some j.toNat /\ es[j.toNat]? = some e:=by
 have h1:=idx_lt h
 exact ⟨by simp only [isIdx]; rw [if_pos h1],Z71 h⟩
theorem Zaj {l:List UInt8} {k:IntKind} {j:Int} {b:UInt8} (h:idx l j = some b):isIdx (.int k j) l.length = some j.toNat /\ l[j.toNat]? = some b:=by
 have h1:=idx_lt h
 exact ⟨by simp only [isIdx]; rw [if_pos h1],Z71 h⟩
theorem Z1c {α:Type} {l m:List α} {lo hi:Option Int} (h:cutL l lo hi = some m):∃ b a,bhi hi l.length = some b /\ blo lo b = some a /\ (l.take b).drop a = m:=by
 unfold cutL at h
 split at h
 .rename_i b e
  split at h
  .rename_i a e2; cases h; exact ⟨b,a,e,e2,rfl⟩
  .cases h
 .cases h
theorem Zrk {xs:List X} {vs ds:List AV} (H:σ.has s) (hA:sat s A) (h:gts A σ xs = some vs) (h2:σ.dtL vs = some ds):s.args xs = some (rdtL ds):=by
 unfold St.args
 rw [Zod H hA h,Zek H h2]
theorem Zgh {q:Prop} (hq:q) (H:σ.has s) (hA:sat s A) {l:LOp} {h:Option (Hint P q)} {v:AV} {as:List Act} (e:pvh A σ h l = some (v,as)) (he:as = hexp h) {K:St -> Prop} (hK:K (s.set l.dst v)):wop P l K s:=by
 cases h with
 | none =>
  have gen:∀ {l:LOp},(match pv A σ l with | some v=>some (v,[]) | none=>none) = some (v,as) -> K (s.set l.dst v) -> wop P l K s:=by
   intro l e hK
   split at e
   .rename_i u e2; cases e; exact pv_ok H hA e2 hK
   .cases e
  cases l with
  | b2s d x =>
   simp only [pvh] at e
   split at e
   .rename_i e2; cases e; simp only [wop]; rw [gt_ok H hA e2]; exact hK
   .cases e
  | _=>exact gen e hK
 | some h =>
  cases h with
  | ln es n h =>
   have h:=h hq
   cases l with
   | ln d x =>
    simp only [pvh] at e
    split at e
    .rename_i t sz es' e2
     cases e
     simp only [hexp,Hint.exp,List.cons.injEq,Act.l.injEq,and_true] at he
     simp only [wop]; rw [gt_ok H hA e2]; subst he; subst h; exact fun _=>hK
    .rename_i k e2
     split at e
     .rename_i r er
      cases e
      simp only [hexp,Hint.exp,List.cons.injEq,Act.l.injEq,and_true] at he
      simp only [wop]; rw [gt_ok H hA e2]; simp only [(H.r _ _ er).1]; subst he; subst h; exact fun _=>hK
     .cases e
    .cases e
   | _=>cases e
  | le es n h h2 =>
   have h:=h hq
   have h2:=h2 hq
   cases l with
   | lq d x =>
    simp only [pvh] at e
    split at e
    .rename_i t sz es' e2
     cases e
     simp only [hexp,Hint.exp,List.cons.injEq,Act.l.injEq,and_true] at he
     simp only [wop]; rw [gt_ok H hA e2]; subst he; subst h; exact ⟨h2,hK⟩
    .cases e
   | _=>cases e
  | ix es i e0 h =>
   have h:=h hq
   cases l with
   | ia d x y n =>
    simp only [pvh] at e
    split at e
    .rename_i k j ey
     split at e
     .rename_i t sz es' ex
      split at e
      .rename_i hs
       have hs:=Nat.eq_of_beq_eq_true hs
       split at e
       .cases e
        simp only [hexp,Hint.exp,List.cons.injEq,Act.l.injEq,Act.i.injEq,and_true] at he
        obtain ⟨rfl,rfl⟩:=he
        obtain ⟨q1,q2⟩:=Zld (k:=k) h
        simp only [wop]; rw [gt_ok H hA ex,gt_ok H hA ey]; simp only [q1,q2]; exact ⟨hs,hK⟩
       .rename_i hno
        cases e
        simp only [hexp,Hint.exp,List.cons.injEq,Act.l.injEq,Act.i.injEq,and_true] at he
        obtain ⟨rfl,rfl⟩:=he
        obtain ⟨q1,q2⟩:=Zld (k:=k) h
        simp only [wop]; rw [gt_ok H hA ex,gt_ok H hA ey]; simp only [q1,q2]
        refine ⟨hs,?_⟩
        rw [if_neg]
        .exact hK
        .cases t <;> simp [Tag.isOwn] at hno ⊢
      .cases e
     .rename_i k' ex
      split at e
      .rename_i r er
       split at e
       .rename_i hs
        have hs:=Nat.eq_of_beq_eq_true hs
        cases e
        simp only [hexp,Hint.exp,List.cons.injEq,Act.l.injEq,Act.i.injEq,and_true] at he
        obtain ⟨rfl,rfl⟩:=he
        obtain ⟨q1,q2⟩:=Zld (k:=k) h
        simp only [wop]; rw [gt_ok H hA ex,gt_ok H hA ey]; simp only [(H.r _ _ er).1,q1]; exact ⟨hs,hK⟩
       .cases e
      .cases e
     .cases e
    .cases e
   | _=>cases e
  | el es j e0 h =>
   have h:=h hq
   cases l with
   | ld d p n ag =>
    simp only [pvh] at e
    split at e
    .rename_i k j' off ep
     split at e
     .rename_i r er
      split at e
      .rename_i u eu
       cases e
       simp only [hexp,Hint.exp,List.cons.injEq,Act.l.injEq,Act.n.injEq,and_true] at he
       obtain ⟨rfl,rfl⟩:=he
       simp only [wop]; rw [gt_ok H hA ep]; simp only [St.ld,(H.r _ _ er).1,h,eu]; exact hK
      .cases e
     .cases e
    .cases e
   | _=>cases e
  | sx l0 i b h =>
   have h:=h hq
   cases l with
   | ix d x y =>
    simp only [pvh] at e
    split at e
    .rename_i s0 ex
     split at e
     .rename_i k j ey
      cases e
      simp only [hexp,Hint.exp,List.cons.injEq,Act.s.injEq,Act.i.injEq,and_true] at he
      obtain ⟨rfl,rfl⟩:=he
      obtain ⟨q1,q2⟩:=Zaj (k:=k) h
      simp only [wop]; rw [gt_ok H hA ex,gt_ok H hA ey]; simp only [q1,q2]; exact hK
     .cases e
    .cases e
   | _=>cases e
  | sc es lo hi es' h =>
   have h:=h hq
   cases l with
   | sc d x xlo xhi n =>
    simp only [pvh] at e
    split at e
    .rename_i lo' elo
     split at e
     .rename_i hi' ehi
      have h1:=(Zkf H hA ehi).1
      have h2:=(Zkf H hA elo).2
      split at e
      .rename_i t sz es0 ex
       split at e
       .rename_i hs
        have hs:=Nat.eq_of_beq_eq_true hs
        split at e
        .cases e
        .rename_i hno
         cases e
         simp only [hexp,Hint.exp,List.cons.injEq,Act.l.injEq,Act.o.injEq,and_true] at he
         obtain ⟨rfl,rfl,rfl⟩:=he
         obtain ⟨b,a,q1,q2,q3⟩:=Z1c h
         simp only [wop]; rw [gt_ok H hA ex]; simp only [h1,h2,q1,q2,q3]
         exact ⟨hs,by cases t <;> simp [Tag.isOwn] at hno ⊢,hK⟩
       .cases e
      .rename_i ex
       cases e
       simp only [hexp,Hint.exp,List.cons.injEq,Act.l.injEq,Act.o.injEq,and_true] at he
       obtain ⟨rfl,rfl,rfl⟩:=he
       obtain ⟨b,a,q1,q2,q3⟩:=Z1c h
       simp only [wop]; rw [gt_ok H hA ex]; simp only [h1,h2]
       rw [show bhi hi' 0 = some b from q1]; simp only [q2]; exact hK
      .cases e
     .cases e
    .cases e
   | _=>cases e
  | ss l0 lo hi y h =>
   have h:=h hq
   cases l with
   | ss d x xlo xhi =>
    simp only [pvh] at e
    split at e
    .rename_i lo' elo
     split at e
     .rename_i hi' ehi
      have h1:=(Zkf H hA ehi).1
      have h2:=(Zkf H hA elo).2
      split at e
      .rename_i s0 ex
       cases e
       simp only [hexp,Hint.exp,List.cons.injEq,Act.s.injEq,Act.o.injEq,and_true] at he
       obtain ⟨rfl,rfl,rfl⟩:=he
       obtain ⟨b,a,q1,q2,q3⟩:=Z1c h
       simp only [wop]; rw [gt_ok H hA ex]; simp only [h1,h2,q1,q2,q3]; exact hK
      .cases e
     .cases e
    .cases e
   | _=>cases e
  | ap es0 news0 bs0 es' h =>
   have h:=h hq
   cases l with
   | ae d x y sz by' =>
    simp only [pvh] at e
    split at e
    .rename_i ex
     split at e
     .rename_i t sy news ey
      split at e
      .rename_i hc
       have c3:=Nat.eq_of_beq_eq_true hc
       cases e
       simp only [hexp,Hint.exp,List.cons.injEq,Act.l.injEq,Act.n.injEq,and_true] at he
       obtain ⟨rfl,rfl,rfl⟩:=he
       unfold appL at h
       split at h
       .rename_i hle
        cases h
        simp only [wop]; rw [gt_ok H hA ex]; simp only; rw [gt_ok H hA ey]
        exact ⟨.inr c3,by simpa using hle,by simpa using hK⟩
       .cases h
      .cases e
     .cases e
    .cases e
   | _=>cases e
  | sa x0 y0 z h =>
   have h:=h hq
   cases l with
   | sa d x y =>
    simp only [pvh] at e
    split at e
    .rename_i a ex
     split at e
     .rename_i b ey
      cases e
      simp only [hexp,Hint.exp,List.cons.injEq,Act.s.injEq,and_true] at he
      obtain ⟨rfl,rfl⟩:=he
      unfold catS at h
      split at h
      .rename_i hle
       cases h
       simp only [wop]; rw [gt_ok H hA ex,gt_ok H hA ey]; exact ⟨hle,hK⟩
      .cases h
     .cases e
    .cases e
   | _=>cases e
  | quo k x0 y0 z h =>
   have h:=h hq
   cases l with
   | bi d op x y =>
    cases op with
    | quo =>
     simp only [pvh] at e
     split at e
     .rename_i k1 a ex
      split at e
      .rename_i k2 b ey
       split at e
       .rename_i hk
        simp only [yD,kdec,decide_eq_true_eq] at hk
        obtain ⟨rfl,rfl⟩:=hk
        cases e
        simp only [hexp,Hint.exp,List.cons.injEq,Act.i.injEq,and_true] at he
        obtain ⟨rfl,rfl⟩:=he
        unfold quoI at h
        split at h
        .cases h
        .rename_i hb
         cases h
         simp only [wop]; rw [gt_ok H hA ex,gt_ok H hA ey]; simp only [evB]; rw [if_pos ⟨trivial,hb⟩]; exact hK
       .cases e
      .cases e
     .cases e
    | _=>cases e
   | _=>cases e
  | rem x0 y0 z h =>
   have h:=h hq
   cases l with
   | bi d op x y =>
    cases op with
    | rem =>
     simp only [pvh] at e
     split at e
     .rename_i k1 a ex
      split at e
      .rename_i k2 b ey
       split at e
       .rename_i hk
        simp only [kdec,decide_eq_true_eq] at hk
        subst hk
        cases e
        simp only [hexp,Hint.exp,List.cons.injEq,Act.i.injEq,and_true] at he
        obtain ⟨rfl,rfl⟩:=he
        unfold remI at h
        split at h
        .cases h
        .rename_i hb
         cases h
         simp only [wop]; rw [gt_ok H hA ex,gt_ok H hA ey]; simp only [evB]; rw [if_pos ⟨trivial,hb⟩]; exact hK
       .cases e
      .cases e
     .cases e
    | _=>cases e
   | _=>cases e
  | shr k x0 y0 z h =>
   have h:=h hq
   cases l with
   | bi d op x y =>
    cases op with
    | shr =>
     simp only [pvh] at e
     split at e
     .rename_i k1 a ex
      split at e
      .rename_i k2 b ey
       split at e
       .rename_i hk
        simp only [kdec,decide_eq_true_eq] at hk
        subst hk
        cases e
        simp only [hexp,Hint.exp,List.cons.injEq,Act.i.injEq,and_true] at he
        obtain ⟨rfl,rfl⟩:=he
        unfold shrI at h
        split at h
        .rename_i hb
         cases h
         simp only [wop]; rw [gt_ok H hA ex,gt_ok H hA ey]; simp only [evB]; rw [if_pos hb]; exact hK
        .cases h
       .cases e
      .cases e
     .cases e
    | _=>cases e
   | _=>cases e
  | b2s es y h =>
   have h:=h hq
   cases l with
   | b2s d x =>
    simp only [pvh] at e
    split at e
    .rename_i u ex
     split at e
     .rename_i t sz es0 ed
      cases e
      simp only [hexp,Hint.exp,List.cons.injEq,Act.l.injEq,and_true] at he
      simp only [wop]; rw [gt_ok H hA ex,dc_ok H ed]; exact ⟨y,by rw [he]; exact h,hK⟩
     .cases e
    .cases e
   | _=>cases e
  | s2b l0 es h h2 =>
   have h:=h hq
   have h2:=h2 hq
   cases l with
   | s2b d x =>
    simp only [pvh] at e
    split at e
    .rename_i s0 ex
     cases e
     simp only [hexp,Hint.exp,List.cons.injEq,Act.s.injEq,and_true] at he
     subst he
     simp only [wop]; rw [gt_ok H hA ex]; simp only; rw [h2]; exact ⟨h,hK⟩
    .cases e
   | _=>cases e
  | call f as0 as' res rows hae h =>
   have h:=h hq
   cases l with
   | cq d f' xs =>
    simp only [pvh] at e
    split at e
    .rename_i vs ev
     split at e
     .rename_i ds ed
      cases e
      simp only [hexp,Hint.exp,List.cons.injEq,Act.n.injEq,Act.l.injEq,and_true] at he
      obtain ⟨rfl,he⟩:=he
      exact ⟨_,Zrk H hA ev ed,res,rows,h.aes hae he,hK⟩
     .cases e
    .cases e
   | _=>cases e
  | clsr f as0 as' res rows hae hf h =>
   have h:=h hq
   cases l with
   | cc d fx xs =>
    simp only [pvh] at e
    split at e
    .rename_i fv efx
     split at e
     .rename_i f' cap edf
      split at e
      .rename_i vs ev
       split at e
       .rename_i ds ed
        cases e
        simp only [hexp,Hint.exp,List.cons.injEq,Act.n.injEq,Act.l.injEq,and_true] at he
        obtain ⟨rfl,he⟩:=he
        refine ⟨rdtL (.fn f' cap :: ds),?_,f',rdtL cap,rdtL ds,by simp [rdtL,AV.rdt],hf,res,rows,?_,hK⟩
        .unfold St.args
         rw [List.map_cons,gt_ok H hA efx,Zod H hA ev,St.dtL,dt_ok H edf,Zek H ed]
        .have:=h.aes hae he
         rwa [Za,List.map_append,← Za,← Za] at this
       .cases e
      .cases e
     .cases e
    .cases e
   | _=>cases e
  | _=>cases l <;> cases e
end
end Go.Proofs.YtodafdoninblmaaGreat.Eng
namespace Go.Proofs.YtodafdoninblmaaGreat.Eng
open Go Go.RowKit
def lensP:List Nat -> Prop
 | []=>True
 | n :: ns=>n <= 9223372036854775807 /\ lensP ns
def hkey:LOp -> Nat
 | .st _ _ _=>1000000
 | l=>l.dst
def LS.fzr (σ:LS) (k:Nat) (r:Row):LS:={ σ with tr:=(k,{ r with sh:=true }) :: er k σ.tr }
def apRow (σ:LS) (x:AV) (d sz:Nat) (es':List AV) (sy:Nat) (news:List AV) (bs:Nat):Option (LS × List Act × List Nat):=match x with
 | .sref k=>match lk σ.tr k with
  | some r=>match Nat.beq r.sz sz && Nat.ble k 999999999 && Nat.beq sy sz with
   | true=>some (((σ.kill k).row k ⟨r.sz,es',r.sh⟩).set d (.sref k),[.l r.es,.l news,.n bs],[])
   | false=>none
  | none=>none
 | .nl=>match Nat.beq sy sz with
  | true=>some (((σ.kill d).row d ⟨sz,es',false⟩).set d (.sref d),[.l [],.l news,.n bs],[])
  | false=>none
 | _=>none
def apNil (σ:LS) (x:AV) (d sz:Nat):Option (LS × List Act × List Nat):=match x with
 | .sref k=>match lk σ.tr k with
  | some _=>some (σ.set d (.sref k),[],[])
  | none=>none
 | .nl=>some (((σ.kill d).row d ⟨sz,[],false⟩).set d (.sref d),[],[])
 | _=>none
def addRows (σ:LS) (k:Nat):List Row -> LS
 | []=>σ
 | r :: rs=>addRows ((σ.kill k).row k r) (k + 1) rs
mutual
def AV.odF:AV -> Bool
 | .od _ _ _=>false
 | .op _ _ _=>false
 | .agg cs=>odFL cs
 | .tup cs=>odFL cs
 | .fn _ cs=>odFL cs
 | _=>true
def odFL:List AV -> Bool
 | []=>true
 | a :: l=>match a.odF with | true=>odFL l | false=>false
end
mutual
theorem kod_odF:∀ {a:AV},a.odF = true -> a.kod = a
 | .agg cs,h=>by rw [AV.kod,Zr9 (by simpa only [AV.odF] using h)]
 | .tup cs,h=>by rw [AV.kod,Zr9 (by simpa only [AV.odF] using h)]
 | .fn f cs,h=>by rw [AV.kod,Zr9 (by simpa only [AV.odF] using h)]
 | .od _ _ _,h | .op _ _ _,h=>by simp [AV.odF] at h
 | .bool _,_ | .int _ _,_ | .str _,_ | .nl,_ | .el,_ | .sl _ _ _,_ | .ept _ _,_ | .eot _ _,_ | .und,_ | .bad,_ | .sref _,_ | .ptr _ _,_ | .rpt _ _ _,_=>by simp [AV.kod]
theorem Zr9:∀ {l:List AV},odFL l = true -> kodL l = l
 | [],_=>rfl
 | a :: l,h=>by
  simp only [odFL] at h
  split at h
  .rename_i e; rw [kodL,kod_odF e,Zr9 h]
  .cases h
end
def gtsF (A:List (Nat × Bool)) (σ:LS) (ys:List X):Option (List AV):=match gts A σ ys with
 | some vs=>match odFL vs with
  | true=>some vs
  | false=>none
 | none=>none
theorem gtsF_ok {A:List (Nat × Bool)} {σ:LS} {ys:List X} {vs:List AV} (h:gtsF A σ ys = some vs):gts A σ ys = some vs /\ odFL vs = true:=by
 unfold gtsF at h
 split at h
 .rename_i e
  split at h
  .rename_i e2; cases h; exact ⟨e,e2⟩
  .cases h
 .cases h
def efx {P:Program} {q:Prop} (A:List (Nat × Bool)) (σ:LS) (h:Option (Hint P q)) (l:LOp):Option (LS × List Act × List Nat):=match l with
 | .ln d x=>match gt A σ x with
  | some (.sl _ _ es)=>match h with
   | some (.ln _ n _)=>some (σ.set d (.int .i64 n),[.l es],[n])
   | _=>none
  | some (.sref k)=>match lk σ.tr k with
   | some r=>match h with
    | some (.ln _ n _)=>some (σ.set d (.int .i64 n),[.l r.es],[n])
    | some (.le _ n _ _)=>some (σ.set d (.int .i64 n),[.l r.es],[])
    | _=>none
   | none=>none
  | some .nl=>match h with
   | none=>some (σ.set d (.int .i64 0),[],[])
   | _=>none
  | _=>none
 | .st p x n=>match gt A σ p with
  | some (.ptr k off)=>match lk σ.tb k with
   | some cs=>match gt A σ x with
    | some v=>match h with
     | none=>if v.cells.length = n /\ off + n <= cs.length /\ allOne v.cells = true then some (σ.box k (putC cs off v.cells),[],[]) else none
     | _=>none
    | none=>none
   | none=>none
  | some (.rpt k i off)=>match lk σ.tr k with
   | some r=>match gt A σ x with
    | some v=>match h with
     | some (.sto _ _ e _ es' _ _)=>if r.sh = false /\ v.cells.length = n /\ off + n <= e.cells.length /\ nosr v = true
      then some (σ.row k ⟨r.sz,es',r.sh⟩,[.l r.es,.n i,.a (if n = e.cells.length then v else .agg (putC e.cells off v.cells))],[]) else none
     | _=>none
    | none=>none
   | none=>none
  | _=>none
 | .al d z=>match h with
  | none=>some (((σ.kill d).box d (deadL d z)).set d (.ptr d 0),[],[])
  | _=>none
 | .bx d x=>match gt A σ x with
  | some v=>match h with
   | none=>match allOne v.cells with
    | true=>some (((σ.kill d).box d (deadL d v.cells)).set d (.ptr d 0),[],[])
    | false=>none
   | _=>none
  | none=>none
 | .bs d sz ps own=>match gts A σ ps with
  | some es=>match h with
   | none=>if es.all nosr = true /\ (es.all fun e=>Nat.beq e.cells.length sz) = true /\ es.length * sz <= 1000000 /\ es.length <= 1000000
    then match own with
     | true=>some (((σ.kill d).row d ⟨sz,es,false⟩).set d (.sref d),[],[])
     | false=>some (σ.set d (.sl .nw sz es),[],[])
    else none
   | _=>none
  | none=>none
 | .ms d sz by' z l=>match gt A σ l with
  | some (.int _ n)=>match h with
   | some (.ms _ _ _ es _)=>some (((σ.kill d).row d ⟨sz,es,false⟩).set d (.sref d),[.n by',.i n,.a (if sz = 1 then z.getD 0 .bad else .agg z)],[])
   | _=>none
  | _=>none
 | .ap d x y sz by'=>match gt A σ y with
  | some vy=>match gt A σ x with
   | some vx=>match h with
    | some (.ap _ _ _ es' _)=>match σ.dc vy with
     | some (.sl _ sy news)=>apRow σ vx d sz es' sy news by'
     | _=>none
    | none=>match vy with
     | .nl=>apNil σ vx d sz
     | _=>none
    | _=>none
   | none=>none
  | none=>none
 | .sc d x lo hi n=>match gt A σ x with
  | some (.sref k)=>match lk σ.tr k with
   | some r=>match gto A σ lo with
    | some lo=>match gto A σ hi with
     | some hi=>match h with
      | some (.sc _ _ _ es' _)=>match Nat.beq r.sz n with
       | true=>some ((σ.fzr k r).set d (.sl .nw r.sz es'),[.l r.es,.o lo,.o hi],[])
       | false=>none
      | _=>none
     | none=>none
    | none=>none
   | none=>none
  | _=>match pvh A σ h (.sc d x lo hi n) with
   | some (v,as)=>some (σ.set d v,as,[])
   | none=>none
 | .cl d f' xs=>match gts A σ xs with
  | some vs=>match σ.dtL vs with
   | some ds=>match h with
    | some (.call _ as _ res rows _ _)=>match Nat.ble rows.length 1000 with
     | true=>some ((addRows σ (1000 * d + 1000) rows).set d (res.ren (1000 * d + 1000) rows.length),[.n f',.l (mrgL ds as)],[])
     | false=>none
    | _=>none
   | none=>none
  | none=>none
 | .cm d f' xs=>match xs with
  | x :: ys=>match gt A σ x with
   | some (.sref k)=>match lk σ.tr k with
    | some r=>match r.sh with
     | false=>match gtsF A σ ys with
      | some vs=>match h with
       | some (.cr _ _ _ _ _ ret es' _ _ _ _)=>some ((match ret with
         | true=>(((σ.kill k).kill (1000 * d + 1000)).row (1000 * d + 1000) ⟨r.sz,es',false⟩).set d (.sref (1000 * d + 1000))
         | false=>(σ.row k ⟨r.sz,es',false⟩).set d (.tup [])),[.n f',.n r.sz,.l r.es,.l (mpL (ix []) (ix [k]) vs)],[])
       | _=>none
      | none=>none
     | true=>none
    | none=>none
   | _=>none
  | []=>none
 | .fb t=>match rdv A σ t with
  | some (.ptr k 0)=>match lk σ.tb k with
   | some cs=>match h with
    | none=>match nosr (.agg cs) with
     | true=>some ((σ.kill k).set t (.ept (.agg cs) 0),[],[])
     | false=>none
    | _=>none
   | none=>none
  | some (.ept _ _)=>match h with
   | none=>some (σ,[],[])
   | _=>none
  | _=>none
 | .fz t=>match rdv A σ t with
  | some (.sref k)=>match lk σ.tr k with
   | some r=>match h with
    | none=>some ((σ.fzr k r).set t (.sl .nw r.sz r.es),[],[])
    | _=>none
   | none=>none
  | some (.sl _ _ _)=>match h with
   | none=>some (σ,[],[])
   | _=>none
  | _=>none
 | l=>match pvh A σ h l with
  | some (v,as)=>some (σ.set l.dst v,as,[])
  | none=>none
section
variable {P:Program} {σ:LS} {s:St} {A:List (Nat × Bool)}
theorem LS.has.fzr (H:σ.has s) {k:Nat} {r:Row} (hr:lk σ.tr k = some r):(σ.fzr k r).has { s with rw:=fun j=>if j = k then some { r with sh:=true } else s.rw j }:=by
 refine ⟨H.e,H.g,H.b,fun j r' h=>?_,H.n⟩
 rcases Zha h with ⟨rfl,rfl⟩ | h
 .exact ⟨by simp,(H.r _ _ hr).2⟩
 .obtain ⟨h1,h2⟩:=lk_er h
  simp [h1,H.r j r' h2]
theorem LS.has.addRows:∀ {rows:List Row} {σ:LS} {s:St} {k:Nat},σ.has s -> (addRows σ k rows).has (s.addrows k rows)
 | [],_,_,_,H=>H
 | r :: rs,σ,s,k,H=>LS.has.addRows (rows:=rs) ((H.kill k).row k r (by simp))
theorem LS.has.self (H:σ.has s) {d:Nat} {v:AV} (h:s.e d = v):(σ.set d v).has s:=by
 have q:=H.set d v
 rwa [show s.set d v = s by rw [← h,Zii]] at q
theorem LS.has.congr {s':St} (H:σ.has s) (h1:s'.e = s.e) (h2:s'.bx = s.bx) (h3:s'.rw = s.rw):σ.has s' :=
  ⟨fun t v h=>by rw [h1]; exact H.e t v h,fun t g w v h=>by rw [h1]; exact H.g t g w v h,fun k cs h=>by rw [h2]; exact H.b k cs h,fun k r h=>by rw [h2,h3]; exact H.r k r h,fun k h=>by rw [h2]; exact H.n k h⟩
theorem Zgj (n1 d k:Nat) (r:Row):(Z72 s n1 d [] [k] (.sref 1) [] [none] [r]).e = (St.set { (s.kill k).kill (1000 * d + 1000) with rw:=fun j=>if j = 1000 * d + 1000 then some r else ((s.kill k).kill (1000 * d + 1000)).rw j } d (.sref (1000 * d + 1000))).e /\
  (Z72 s n1 d [] [k] (.sref 1) [] [none] [r]).bx = ((s.kill k).kill (1000 * d + 1000)).bx /\ (Z72 s n1 d [] [k] (.sref 1) [] [none] [r]).rw = (fun j=>if j = 1000 * d + 1000 then some r else ((s.kill k).kill (1000 * d + 1000)).rw j):=by
 refine ⟨?_,?_,?_⟩
 .funext t; simp [St.set,upd,St.kill]
 .funext t; simp [St.set,St.kill]
 .funext t; simp [St.set,St.kill]
theorem efx_ok {q:Prop} (hq:q) (H:σ.has s) (hA:sat s A) {l:LOp} {h:Option (Hint P q)} {σ1:LS} {as:List Act} {ns:List Nat} (e:efx A σ h l = some (σ1,as,ns)) (he:as = hexp h) {K:St -> Prop}
  (hK:lensP ns -> ∀ s',σ1.has s' -> K s'):wop P l K s:=by
 have gen:∀ {l:LOp},(match pvh A σ h l with | some (v,as)=>some (σ.set l.dst v,as,[]) | none=>none) = some (σ1,as,ns) -> wop P l K s:=by
  intro l e
  split at e
  .rename_i v as' e2
   cases e
   exact Zgh hq H hA e2 he (hK trivial _ (H.set _ _))
  .cases e
 cases l with
 | ln d x =>
  simp only [efx] at e
  split at e
  .rename_i t sz es ex
   split at e
   .rename_i es0 n hn
    have hn:=hn hq
    cases e
    simp only [hexp,Hint.exp,List.cons.injEq,Act.l.injEq,and_true] at he
    subst he
    simp only [wop]; rw [gt_ok H hA ex]
    exact fun q=>hK ⟨by omega,trivial⟩ _ (by rw [hn]; exact H.set _ _)
   .cases e
  .rename_i k ex
   split at e
   .rename_i r er
    split at e
    .rename_i es0 n hn
     have hn:=hn hq
     cases e
     simp only [hexp,Hint.exp,List.cons.injEq,Act.l.injEq,and_true] at he
     subst he
     simp only [wop]; rw [gt_ok H hA ex]; simp only [(H.r _ _ er).1]
     exact fun q=>hK ⟨by omega,trivial⟩ _ (by rw [hn]; exact H.set _ _)
    .rename_i es0 n hn hn2
     have hn:=hn hq
     cases e
     simp only [hexp,Hint.exp,List.cons.injEq,Act.l.injEq,and_true] at he
     subst he
     simp only [wop]; rw [gt_ok H hA ex]; simp only [(H.r _ _ er).1]
     exact fun q=>hK trivial _ (by rw [hn]; exact H.set _ _)
    .cases e
   .cases e
  .rename_i ex
   split at e
   .cases e
    simp only [wop]; rw [gt_ok H hA ex]; exact hK trivial _ (H.set _ _)
   .cases e
  .cases e
 | st p x n =>
  simp only [efx] at e
  split at e
  .rename_i k off ep
   split at e
   .rename_i cs eb
    split at e
    .rename_i v ex
     split at e
     .split at e
      .rename_i hc
       cases e
       simp only [wop]; rw [gt_ok H hA ep]; simp only [H.b _ _ eb]; rw [gt_ok H hA ex]
       exact ⟨hc.1,hc.2.1,hc.2.2,hK trivial _ (H.box _ _)⟩
      .cases e
     .cases e
    .cases e
   .cases e
  .rename_i k i off ep
   split at e
   .rename_i r er
    split at e
    .rename_i v ex
     split at e
     .rename_i es0 j e0 ne es' h1 h2
      have h1:=h1 hq
      have h2:=h2 hq
      split at e
      .rename_i hc
       cases e
       simp only [hexp,Hint.exp,List.cons.injEq,Act.l.injEq,Act.n.injEq,Act.a.injEq,and_true] at he
       obtain ⟨rfl,rfl,he⟩:=he
       simp only [wop]; rw [gt_ok H hA ep]; simp only [(H.r _ _ er).1]; rw [gt_ok H hA ex,h1,ZVf hc.2.2.2]
       refine ⟨hc.1,hc.2.1,hc.2.2.1,hc.2.2.2,?_⟩
       rw [he,h2]
       exact hK trivial _ (H.row _ _ (H.r _ _ er).2)
      .cases e
     .cases e
    .cases e
   .cases e
  .cases e
 | al d z =>
  simp only [efx] at e
  split at e
  .cases e
   exact hK trivial _ (((H.kill d).box d _).set d _)
  .cases e
 | bx d x =>
  simp only [efx] at e
  split at e
  .rename_i v ex
   split at e
   .split at e
    .rename_i hc
     cases e
     simp only [wop]; rw [gt_ok H hA ex]
     exact ⟨hc,hK trivial _ (((H.kill d).box d _).set d _)⟩
    .cases e
   .cases e
  .cases e
 | bs d sz ps own =>
  simp only [efx] at e
  split at e
  .rename_i es ex
   split at e
   .split at e
    .rename_i hc
     have q:=Zod H hA ex
     simp only [wop]; rw [q,ZUf hc.1]
     refine ⟨hc.1,fun e he=>Nat.eq_of_beq_eq_true (List.all_eq_true.1 hc.2.1 e he),hc.2.2.1,hc.2.2.2,?_⟩
     split at e
     .cases e
      rw [if_pos rfl]
      exact hK trivial _ (((H.kill d).row d _ (by simp)).set d _)
     .cases e
      rw [if_neg (by simp)]
      exact hK trivial _ (H.set d _)
    .cases e
   .cases e
  .cases e
 | ms d sz by' z x =>
  simp only [efx] at e
  split at e
  .rename_i k n ex
   split at e
   .rename_i b0 n0 z0 es h0
    have h0:=h0 hq
    cases e
    simp only [hexp,Hint.exp,List.cons.injEq,Act.n.injEq,Act.i.injEq,Act.a.injEq,and_true] at he
    obtain ⟨rfl,rfl,he⟩:=he
    unfold mkL at h0
    split at h0
    .rename_i hc
     cases h0
     simp only [wop]; rw [gt_ok H hA ex]
     refine ⟨hc.1,hc.2.1,hc.2.2,?_⟩
     rw [he]
     exact hK trivial _ (((H.kill d).row d _ (by simp)).set d _)
    .cases h0
   .cases e
  .cases e
 | ap d x y sz by' =>
  simp only [efx] at e
  split at e
  .rename_i vy ey
   split at e
   .rename_i vx ex
    split at e
    .rename_i es0 news0 bs0 es' h0
     have h0:=h0 hq
     split at e
     .rename_i t sy news ed
      have hd:=dc_ok H ed
      simp only [wop]; rw [gt_ok H hA ey,hd]; simp only
      rw [gt_ok H hA ex]
      unfold apRow at e
      split at e
      .rename_i k
       split at e
       .rename_i r er
        split at e
        .rename_i hc
         simp only [yD] at hc
         obtain ⟨⟨c1,c2⟩,c3⟩:=hc
         have c1:=Nat.eq_of_beq_eq_true c1
         have c2:=Nat.le_of_ble_eq_true c2
         have c3:=Nat.eq_of_beq_eq_true c3
         cases e
         simp only [hexp,Hint.exp,List.cons.injEq,Act.l.injEq,Act.n.injEq,and_true] at he
         obtain ⟨rfl,rfl,rfl⟩:=he
         unfold appL at h0
         split at h0
         .rename_i hle
          cases h0
          simp only [(H.r _ _ er).1]
          exact ⟨c1,by omega,.inr c3,hle,hK trivial _ (((H.kill k).row k _ (by simp)).set d _)⟩
         .cases h0
        .cases e
       .cases e
      .split at e
       .rename_i hc
        have c3:=Nat.eq_of_beq_eq_true hc
        cases e
        simp only [hexp,Hint.exp,List.cons.injEq,Act.l.injEq,Act.n.injEq,and_true] at he
        obtain ⟨rfl,rfl,rfl⟩:=he
        unfold appL at h0
        split at h0
        .rename_i hle
         cases h0
         exact ⟨.inr c3,by simpa using hle,hK trivial _ (((H.kill d).row d _ (by simp)).set d _)⟩
        .cases h0
       .cases e
      .cases e
     .cases e
    .split at e
     .simp only [wop]; rw [gt_ok H hA ey]; simp only [St.dt]; rw [gt_ok H hA ex]
      unfold apNil at e
      split at e
      .split at e
       .rename_i r er
        cases e
        simp only [(H.r _ _ er).1]
        exact hK trivial _ (H.set d _)
       .cases e
      .cases e
       exact hK trivial _ (((H.kill d).row d _ (by simp)).set d _)
      .cases e
     .cases e
    .cases e
   .cases e
  .cases e
 | sc d x lo hi n =>
  simp only [efx] at e
  split at e
  .rename_i k ex
   split at e
   .rename_i r er
    split at e
    .rename_i lo' elo
     split at e
     .rename_i hi' ehi
      split at e
      .rename_i es0 lo0 hi0 es' h0
       have h0:=h0 hq
       split at e
       .rename_i hs
        have hs:=Nat.eq_of_beq_eq_true hs
        cases e
        simp only [hexp,Hint.exp,List.cons.injEq,Act.l.injEq,Act.o.injEq,and_true] at he
        obtain ⟨rfl,rfl,rfl⟩:=he
        obtain ⟨b,a,q1,q2,q3⟩:=Z1c h0
        simp only [wop]; rw [gt_ok H hA ex]; simp only [(H.r _ _ er).1,(Zkf H hA ehi).1,(Zkf H hA elo).2,q1,q2,q3]
        exact ⟨hs,hK trivial _ ((H.fzr er).set d _)⟩
       .cases e
      .cases e
     .cases e
    .cases e
   .cases e
  .exact gen (l:=.sc d x lo hi n) (by simpa only [LOp.dst] using e)
 | cl d f' xs =>
  simp only [efx] at e
  split at e
  .rename_i vs ev
   split at e
   .rename_i ds ed
    split at e
    .rename_i f0 as0 as' res rows hae h0
     have h0:=h0 hq
     split at e
     .rename_i hr
      cases e
      simp only [hexp,Hint.exp,List.cons.injEq,Act.n.injEq,Act.l.injEq,and_true] at he
      obtain ⟨rfl,he⟩:=he
      exact ⟨_,Zrk H hA ev ed,res,rows,h0.aes hae he,Nat.le_of_ble_eq_true hr,hK trivial _ (H.addRows.set d _)⟩
     .cases e
    .cases e
   .cases e
  .cases e
 | cm d f' xs =>
  cases xs with
  | nil=>simp [efx] at e
  | cons x ys =>
   simp only [efx] at e
   split at e
   .rename_i k ex
    split at e
    .rename_i r er
     split at e
     .rename_i hsh
      split at e
      .rename_i vs ev
       split at e
       .rename_i f0 sz0 es0 vs0 as0 ret es' hn hv hr h0
        have hn:=hn hq
        have hv:=hv hq
        have hr:=hr hq
        have h0:=h0 hq
        cases e
        simp only [hexp,Hint.exp,List.cons.injEq,Act.n.injEq,Act.l.injEq,and_true] at he
        obtain ⟨rfl,rfl,rfl,hvs⟩:=he
        obtain ⟨ev,hod⟩:=gtsF_ok ev
        have hg:=Zod H hA ev
        have hx:=gt_ok H hA ex
        refine do_cm [] [k] h0 rfl trivial ⟨by rw [(H.r _ _ er).1]; simp only [← hsh],rfl,trivial⟩ ?_ ?_ (by simp) ?_ ?_
        .have e1:(ys.map fun x=>((s.get x).mp (ix []) (ix [k])).rdt) = as0:=by
          rw [← hr,← hvs,Za,ZR5,← hg,List.map_map,List.map_map]; rfl
         rw [List.map_cons,e1,hx]
         have e2:((AV.sref k).mp (ix []) (ix [k])).rdt = .sref 0:=by simp [AV.mp,ix,AV.rdt]
         rw [e2]
         exact ⟨(ZPb _).2 trivial,Z69 (fun a=>(ZPb a).2 trivial) _⟩
        .intro n1 res bout upd new hb hu hΦ
         obtain ⟨rfl,hΦ⟩:=hΦ
         cases ret with
         | true =>
          obtain ⟨rfl,rfl,rfl⟩:=hΦ
          refine ⟨by simp,by simp,by simp,hK trivial _ ?_⟩
          obtain ⟨a1,a2,a3⟩:=Zgj (s:=s) n1 d k ⟨r.sz,es',false⟩
          exact ((((H.kill k).kill (1000 * d + 1000)).row (1000 * d + 1000) ⟨r.sz,es',false⟩ (by simp)).set d _).congr a1 a2 a3
         | false =>
          obtain ⟨rfl,rfl,rfl⟩:=hΦ
          refine ⟨by simp,by simp; omega,by simp,hK trivial _ ?_⟩
          refine ((H.row k ⟨r.sz,es',false⟩ (H.r _ _ er).2).set d (.tup [])).congr ?_ ?_ ?_
          .funext t; simp [St.set,upd]
          .funext t; simp [St.set]
          .funext t; simp only [Z72,ZW,Zx1,St.addrows,drops,St.kill2,upf,St.set]
           by_cases ht:t = k
           .subst ht; simp [(H.r _ _ er).1,hsh]
           .simp [ht]
        .intro r' hr'
         rw [List.mem_singleton.1 hr']; exact hn
        .intro y hy
         rcases List.mem_cons.1 hy with rfl | hy
         .rw [hx]; trivial
         .have:noOL (mpL (ix []) (ix [k]) vs):=by rw [hvs]; exact hv
          rw [← hg] at this
          have q:=Zfa this
          rw [hg,Zr9 hod,← hg] at q
          exact Z51.1 q _ (List.mem_map_of_mem hy)
       .cases e
      .cases e
     .cases e
    .cases e
   .cases e
 | fb t =>
  simp only [efx] at e
  split at e
  .rename_i k ex
   split at e
   .rename_i cs eb
    split at e
    .split at e
     .rename_i hc
      cases e
      simp only [wop]; rw [Zn9 H hA ex]; simp only [H.b _ _ eb]
      exact ⟨hc,hK trivial _ ((H.kill k).set t _)⟩
     .cases e
    .cases e
   .cases e
  .rename_i ex
   split at e
   .cases e
    simp only [wop]; rw [Zn9 H hA ex]
    exact hK trivial _ H
   .cases e
  .cases e
 | fz t =>
  simp only [efx] at e
  split at e
  .rename_i k ex
   split at e
   .rename_i r er
    split at e
    .cases e
     simp only [wop]; rw [Zn9 H hA ex]; simp only [(H.r _ _ er).1]
     exact hK trivial _ ((H.fzr er).set t _)
    .cases e
   .cases e
  .rename_i ex
   split at e
   .cases e
    simp only [wop]; rw [Zn9 H hA ex]
    exact hK trivial _ H
   .cases e
  .cases e
 | _=>exact gen e
end
def fin {P:Program} {q:Prop} (σ:LS) (l:LOp) (h:Option (Hint P q)) (r:Option (Rw q)):Option (LS × List Act × List Act × List Nat):=match efx [] σ h l with
 | some (σ1,as,ns)=>match r with
  | none=>some (σ1,as,[],ns)
  | some q=>match lk σ1.te l.dst with
   | some v=>some (σ1.set l.dst q.b,as,[.a v],ns)
   | none=>none
 | none=>none
def gvs (A:List (Nat × Bool)) (σ:LS):List (Nat × Bool) -> Option (List (Bool × Bool))
  | []=>some []
  | (t,w) :: r=>match rdv A σ t with
    | some (.bool b)=>match gvs A σ r with
      | some l=>some ((b,w) :: l)
      | none=>none
    | _=>none
def pvg {P:Program} {q:Prop} (t:Nat) (w:Bool) (A:List (Nat × Bool)) (σ:LS) (l:LOp) (h:Option (Hint P q)) (r:Option (Rw q)):Option (LS × List (Bool × Bool) × List Act × List Act × List Nat):=match Nat.beq t l.dst with
 | true=>none
 | false=>match gvs A σ A with
  | some gs=>match pvh A σ h l with
   | some (v,as)=>match r with
    | none=>some (σ.setc l.dst t w v,gs,as,[],[])
    | some q=>some (σ.setc l.dst t w q.b,gs,as,[.a v],[])
   | none=>none
  | none=>none
def one {P:Program} {q:Prop} (σ:LS) (l:LOp) (h:Option (Hint P q)) (r:Option (Rw q)):Option (LS × List (Bool × Bool) × List Act × List Act × List Nat):=match l with
 | .g t w l'=>match rdv [] σ t with
  | some (.bool _)=>pvg t w (clo σ.tg 9 t w) σ l' h r
  | some _=>none
  | none=>match fndg t σ.tg with
   | some (_,_,.bool _)=>pvg t w (clo σ.tg 9 t w) σ l' h r
   | _=>none
 | l=>match fin σ l h r with
  | some (σ1,as,rs,ns)=>some (σ1,[],as,rs,ns)
  | none=>none
section
variable {P:Program} {σ:LS} {s:St} {A:List (Nat × Bool)}
theorem Zr6:sat s []:=fun p hp=>by cases hp
theorem fin_ok {q:Prop} (hq:q) (H:σ.has s) {l:LOp} {h:Option (Hint P q)} {r:Option (Rw q)} {σ1:LS} {as rs:List Act} {ns:List Nat} (e:fin σ l h r = some (σ1,as,rs,ns)) (he:as = hexp h) (hr:rs = Rw.exp r)
  {K:St -> Prop} (hK:lensP ns -> ∀ s',σ1.has s' -> K s'):wop P l K s:=by
 unfold fin at e
 split at e
 .rename_i σ2 as' ns' e2
  split at e
  .cases e
   exact efx_ok hq H Zr6 e2 he hK
  .rename_i q
   split at e
   .rename_i v ev
    cases e
    simp only [Rw.exp,List.cons.injEq,Act.a.injEq,and_true] at hr
    refine efx_ok hq H Zr6 e2 he fun q2 s' H'=>hK q2 s' (H'.self ?_)
    rw [H'.e _ _ ev,hr,q.h hq]
   .cases e
 .cases e
theorem ZLi (H:σ.has s) (hA:sat s A):∀ {B:List (Nat × Bool)} {gs:List (Bool × Bool)},sat s B -> gvs A σ B = some gs -> allG gs
  | [],gs,_,h=>by cases h; trivial
  | (t,w) :: B,gs,hB,h=>by
    simp only [gvs] at h
    split at h
    · rename_i b e
      split at h
      · rename_i l e2
        cases h
        refine ⟨?_,ZLi H hA (fun p hp=>hB p (List.mem_cons_of_mem _ hp)) e2⟩
        have h1:=Zn9 H hA e
        rw [hB (t,w) (List.mem_cons_self ..)] at h1
        exact (AV.bool.inj h1).symm
      · cases h
    · cases h
theorem pvg_ok {q:Prop} {t:Nat} {w:Bool} {l:LOp} {gs:List (Bool × Bool)} (hq:allG gs -> q) {h:Option (Hint P q)} {r:Option (Rw q)} {σ1:LS} {as rs:List Act} {ns:List Nat} (H:σ.has s) (hb:(∃ b,s.e t = .bool b) \/ s.e t = .und)
  (e:pvg t w (clo σ.tg 9 t w) σ l h r = some (σ1,gs,as,rs,ns)) (he:as = hexp h) (hr:rs = Rw.exp r)
  {K:St -> Prop} (hK:lensP ns -> ∀ s',σ1.has s' -> K s'):wop P (.g t w l) K s:=by
 unfold pvg at e
 split at e
 .cases e
 .rename_i hne
  have hne:t ≠ l.dst:=fun q=>by subst q; simp at hne
  split at e
  .rename_i gs' eg
   split at e
   .rename_i v as' e2
    have yes:s.e t = .bool w -> gs' = gs -> as' = hexp h -> ∀ K:St -> Prop,K (s.set l.dst v) -> wop P l K s:=fun hb hgs ha K hk =>
     Zgh (hq (hgs ▸ ZLi H (ZM7 H hb) (ZM7 H hb) eg)) H (ZM7 H hb) e2 ha hk
    have no:s.e t ≠ .bool w -> (∀ u,(σ.setc l.dst t w u).has (s.set l.dst .und)):=fun hb u=>H.setc _ _ _ _ _ hne (.inr ⟨hb,rfl⟩)
    split at e
    .cases e
     rcases hb with ⟨b,hb⟩ | hb
     .simp only [wop,hb]
      by_cases hw:b = w
      .subst hw
       rw [if_pos rfl]
       exact yes hb rfl he _ (hK trivial _ (H.setc _ _ _ _ _ hne (.inl ⟨hb,rfl⟩)))
      .rw [if_neg hw]
       exact hK trivial _ (no (by rw [hb]; simpa using hw) _)
     .simp only [wop,hb]
      exact hK trivial _ (no (by rw [hb]; simp) _)
    .rename_i q
     cases e
     simp only [Rw.exp,List.cons.injEq,Act.a.injEq,and_true] at hr
     rcases hb with ⟨b,hb⟩ | hb
     .simp only [wop,hb]
      by_cases hw:b = w
      .subst hw
       rw [if_pos rfl]
       refine yes hb rfl he _ (hK trivial _ (H.setc _ _ _ _ _ hne (.inl ⟨hb,?_⟩)))
       rw [hr]; exact q.h (hq (ZLi H (ZM7 H hb) (ZM7 H hb) eg))
      .rw [if_neg hw]
       exact hK trivial _ (no (by rw [hb]; simpa using hw) _)
     .simp only [wop,hb]
      exact hK trivial _ (no (by rw [hb]; simp) _)
   .cases e
  .cases e
theorem Zbf {q:Prop} {gs:List (Bool × Bool)} (hq:allG gs -> q) (H:σ.has s) {l:LOp} {h:Option (Hint P q)} {r:Option (Rw q)} {σ1:LS} {as rs:List Act} {ns:List Nat} (e:one σ l h r = some (σ1,gs,as,rs,ns)) (he:as = hexp h) (hr:rs = Rw.exp r)
  {K:St -> Prop} (hK:lensP ns -> ∀ s',σ1.has s' -> K s'):wop P l K s:=by
 have gen:∀ {l:LOp},(match fin σ l h r with | some (σ1,as,rs,ns)=>some (σ1,([]:List (Bool × Bool)),as,rs,ns) | none=>none) = some (σ1,gs,as,rs,ns) -> wop P l K s:=by
  intro l e
  split at e
  .rename_i σ2 as2 rs2 ns2 e2
   cases e
   exact fin_ok (hq trivial) H e2 he hr hK
  .cases e
 cases l with
 | g t w l' =>
  simp only [one] at e
  split at e
  .rename_i b eb
   exact pvg_ok hq H (.inl ⟨b,Zn9 H Zr6 eb⟩) e he hr hK
  .cases e
  .split at e
   .rename_i g' w' b' ef
    refine pvg_ok hq H ?_ e he hr hK
    rcases H.g _ _ _ _ (ZA6 ef) with ⟨_,h2⟩ | ⟨_,h2⟩
    .exact .inl ⟨b',h2⟩
    .exact .inr h2
   .cases e
 | _=>exact gen e
end
abbrev HA:=List (Bool × Bool) × List Act × List Act
def HE.exp {P:Program} (e:HE P):HA:=(e.gs,hexp e.h,Rw.exp e.r)
def HE.ns {P:Program} (e:HE P):List Nat:=match e.h with
 | some (.ln _ n _)=>match e.gs with
  | []=>[n]
  | _=>[]
 | _=>[]
def run {P:Program}:List LOp -> List (HE P) -> LS -> Option (LS × List (HE P) × List HA × List Nat)
 | [],hs,σ=>some (σ,hs,[],[])
 | l :: ls,hs,σ =>
  let no:=fun (_:Unit)=>match one (P:=P) (q:=True) σ l none none with
   | some (σ1,_,[],[],[])=>run ls hs σ1
   | _=>none
  match hs with
  | []=>no ()
  | e :: r=>match Nat.beq e.k (hkey l) with
   | true=>match one σ l e.h e.r with
    | some (σ1,gs,as,rs,ns)=>match run ls r σ1 with
     | some (σ2,r',ass,ns2)=>some (σ2,r',(gs,as,rs) :: ass,ns ++ ns2)
     | none=>none
    | none=>none
   | false=>no ()
theorem Zm5:∀ {a b:List Nat},lensP a -> lensP b -> lensP (a ++ b)
 | [],_,_,h=>h
 | _ :: _,_,h,h2=>⟨h.1,Zm5 h.2 h2⟩
theorem Zdh {P:Program}:∀ {ls:List LOp} {hs hs':List (HE P)} {σ σ1:LS} {as:List HA} {ns:List Nat} {s:St},σ.has s -> run ls hs σ = some (σ1,hs',as,ns) -> ∀ {as2:List HA},as ++ as2 = hs.map HE.exp ->
  ∀ {K:St -> Prop},(as2 = hs'.map HE.exp -> lensP ns -> ∀ s',σ1.has s' -> K s') -> wops P ls K s
 | [],hs,hs',σ,σ1,as,ns,s,H,e,as2,he,K,hK=>by
  simp only [run] at e
  cases e; exact hK he trivial s H
 | l :: ls,hs,hs',σ,σ1,as,ns,s,H,e,as2,he,K,hK=>by
  have no:(match one (P:=P) (q:=True) σ l none none with | some (σ1,_,[],[],[])=>run ls hs σ1 | _=>none) = some (σ1,hs',as,ns) -> wops P (l :: ls) K s:=by
   intro e
   split at e
   .rename_i σ2 gs e2
    exact Zbf (fun _=>trivial) H e2 rfl rfl fun _ s' H'=>Zdh H' e he hK
   .cases e
  cases hs with
  | nil=>exact no e
  | cons q r =>
   simp only [run] at e
   split at e
   .split at e
    .rename_i σ2 os as2 rs ns2 e2
     split at e
     .rename_i σ3 r' ass ns3 e3
      cases e
      simp only [List.map_cons,List.cons_append,List.cons.injEq,HE.exp,Prod.mk.injEq] at he
      obtain ⟨⟨h1,h2,h3⟩,h4⟩:=he
      exact Zbf (fun q=>h1 ▸ q) H e2 h2 h3 fun q2 s' H'=>Zdh H' e3 h4 fun q4 q3=>hK q4 (Zm5 q2 q3)
     .cases e
    .cases e
   .exact no e
end Go.Proofs.YtodafdoninblmaaGreat.Eng
namespace Go.Proofs.YtodafdoninblmaaGreat.Eng
open Go Go.RowKit
mutual
def ndead (k:Nat):AV -> Bool
 | .sref j=>!Nat.beq j k
 | .ptr j _=>!Nat.beq j k
 | .rpt j _ _=>!Nat.beq j k
 | .agg cs=>Zef k cs
 | .tup cs=>Zef k cs
 | .fn _ cs=>Zef k cs
 | _=>true
def Zef (k:Nat):List AV -> Bool
 | []=>true
 | a :: l=>ndead k a && Zef k l
end
mutual
theorem ZBi {k:Nat}:∀ {a:AV},ndead k a = true -> a.dead k = a
 | .sref j,h | .ptr j _,h | .rpt j _ _,h=>by
  have:j ≠ k:=fun e=>by subst e; simp [ndead] at h
  simp [AV.dead,this]
 | .agg cs,h | .tup cs,h | .fn _ cs,h=>by rw [AV.dead,Zkh (by simpa [ndead] using h)]
 | .bool _,_ | .int _ _,_ | .str _,_ | .nl,_ | .el,_ | .sl _ _ _,_ | .ept _ _,_ | .eot _ _,_ | .od _ _ _,_ | .op _ _ _,_ | .und,_ | .bad,_=>by simp [AV.dead]
theorem Zkh {k:Nat}:∀ {l:List AV},Zef k l = true -> deadL k l = l
 | [],_=>rfl
 | a :: l,h=>by
  simp only [Zef,yD] at h
  rw [deadL,ZBi h.1,Zkh h.2]
end
def dxs (d:Nat):List AV -> Bool
 | []=>true
 | a :: l=>ndead d a && dxs d l
def nrw (σ:LS):X -> Bool
 | .c a=>norow a
 | .t i=>match lk σ.te i with
  | some v=>norow v
  | none=>match fndg i σ.tg with
   | some (_,_,v)=>norow v
   | none=>false
def scq (σ:LS):LOp -> Bool
 | .sc _ x _ _ _=>nrw σ x
 | .g _ _ l=>match l with
  | .sc _ x _ _ _=>nrw σ x
  | _=>true
 | _=>true
def LS.kills (σ:LS):List Nat -> LS
 | []=>σ
 | k :: ks=>(σ.kill k).kills ks
def pdv (σ:LS) (d:Nat):Option AV:=match lk σ.te d with
 | some v=>some v
 | none=>match fndg d σ.tg with
  | some (_,_,v)=>some v
  | none=>none
abbrev RR (P:Program):=Option (LS × List (HE P) × List HA × List Nat)
def qno {P:Program} (l:LOp) (hs:List (HE P)) (acc:List AV) (σ:LS) (k:List (HE P) -> List AV -> LS -> RR P):RR P:=match one (P:=P) (q:=True) σ l none none with
 | some (σ1,_,[],[],[])=>match pdv σ1 l.dst with
  | some v=>k hs (v :: acc) σ1
  | none=>none
 | _=>none
def qyes {P:Program} (l:LOp) (e:HE P) (r:List (HE P)) (acc:List AV) (σ:LS) (k:List (HE P) -> List AV -> LS -> RR P):RR P:=match one σ l e.h e.r with
 | some (σ1,gs,as,rs,ns)=>match pdv σ1 l.dst with
  | some v=>match k r (v :: acc) σ1 with
   | some (σ2,r',ass,ns2)=>some (σ2,r',(gs,as,rs) :: ass,ns ++ ns2)
   | none=>none
  | none=>none
 | none=>none
def qstep {P:Program} (l:LOp) (hs:List (HE P)) (acc:List AV) (σ:LS) (k:List (HE P) -> List AV -> LS -> RR P):RR P:=match scq σ l with
 | false=>none
 | true=>match hs with
  | []=>qno l [] acc σ k
  | e :: r=>match Nat.beq e.k (hkey l) with
   | true=>qyes l e r acc σ k
   | false=>qno l (e :: r) acc σ k
def runq {P:Program}:List LOp -> List (HE P) -> List AV -> LS -> RR P
 | [],hs,_,σ=>some (σ,hs,[],[])
 | l :: ls,hs,acc,σ=>match l with
  | .al d z=>match dxs d acc with
   | true=>runq ls hs (.ptr d 0 :: deadL d z ++ acc) ((σ.box d (deadL d z)).set d (.ptr d 0))
   | false=>none
  | l=>qstep l hs acc σ (runq ls)
section
variable {P:Program} {R:Ex -> St -> Prop} {σ:LS} {s:St}
theorem Zyi {x:X} (H:σ.has s) (h:nrw σ x = true):norow (s.get x) = true:=by
 cases x with
 | c a=>exact h
 | t i =>
  simp only [nrw] at h
  split at h
  .rename_i v e; rw [get_t,H.e _ _ e]; exact h
  .split at h
   .rename_i g w v e
    rcases H.g _ _ _ _ (ZA6 e) with ⟨_,h2⟩ | ⟨_,h2⟩
    .rw [get_t,h2]; exact h
    .rw [get_t,h2]; rfl
   .cases h
theorem scq_ok {l:LOp} (H:σ.has s) (h:scq σ l = true):scOk s l:=by
 cases l with
 | sc d x lo hi n=>exact Zyi H h
 | g t w l' =>
  cases l' with
  | sc d x lo hi n=>exact Zyi H h
  | _=>trivial
 | _=>trivial
theorem LS.has.kills:∀ {ks:List Nat} {σ:LS} {s:St},σ.has s -> (σ.kills ks).has (s.kills ks)
 | [],_,_,H=>H
 | k :: ks,_,_,H=>LS.has.kills (ks:=ks) (H.kill k)
def seen:List AV -> List AV -> Prop
 | [],[]=>True
 | a :: l,b :: m=>(a = b \/ a = .und) /\ seen l m
 | _,_=>False
theorem Zah:∀ l,seen l l
 | []=>trivial
 | _ :: l=>⟨.inl rfl,Zah l⟩
theorem Zji:∀ {a b c d:List AV},seen a b -> seen c d -> seen (a ++ c) (b ++ d)
 | [],[],_,_,_,h=>h
 | _ :: _,_ :: _,_,_,h,h2=>⟨h.1,Zji h.2 h2⟩
 | [],_ :: _,_,_,h,_ | _ :: _,[],_,_,h,_=>h.elim
theorem Zbh {d:Nat}:∀ {l m:List AV},seen l m -> dxs d m = true -> ∀ v ∈ l,v.dead d = v
 | [],_,_,_,v,hv=>by cases hv
 | a :: l,b :: m,h,hd,v,hv=>by
  simp only [dxs,yD] at hd
  rcases List.mem_cons.1 hv with rfl | hv
  .rcases h.1 with rfl | e
   .exact ZBi hd.1
   .rw [e]; rfl
  .exact Zbh h.2 hd.2 v hv
 | _ :: _,[],h,_,_,_=>h.elim
theorem ZDj {d:Nat} {v:AV} (H:σ.has s) (h:pdv σ d = some v):s.e d = v \/ s.e d = .und:=by
 unfold pdv at h
 split at h
 .rename_i u e; cases h; exact .inl (H.e _ _ e)
 .split at h
  .rename_i g w u e
   cases h
   rcases H.g _ _ _ _ (ZA6 e) with ⟨_,h2⟩ | ⟨_,h2⟩
   .exact .inl h2
   .exact .inr h2
  .cases h
theorem ZJf:∀ {ls:List LOp} {hs hs':List (HE P)} {acc pa:List AV} {σ σ1:LS} {as:List HA} {ns:List Nat} {s:St},σ.has s -> seen acc pa -> runq ls hs pa σ = some (σ1,hs',as,ns) ->
  ∀ {as2:List HA},as ++ as2 = hs.map HE.exp -> ∀ {K:St -> Prop},(as2 = hs'.map HE.exp -> lensP ns -> ∀ s',σ1.has s' -> K s') -> qwops P ls acc K s
 | [],hs,hs',acc,pa,σ,σ1,as,ns,s,H,ha,e,as2,he,K,hK=>by
  simp only [runq] at e
  cases e; exact hK he trivial s H
 | l :: ls,hs,hs',acc,pa,σ,σ1,as,ns,s,H,ha,e,as2,he,K,hK=>by
  have gen:isAl l = false -> qstep l hs pa σ (runq ls) = some (σ1,hs',as,ns) -> qwops P (l :: ls) acc K s:=by
   intro hal e
   unfold qstep at e
   split at e
   .cases e
   .rename_i hsc
    rw [Z4j hal]
    refine ⟨scq_ok H hsc,?_⟩
    have no:qno l hs pa σ (runq ls) = some (σ1,hs',as,ns) -> wop P l (qnext P l.dst ls acc K) s:=by
     intro e
     unfold qno at e
     split at e
     .rename_i σ2 gs e2
      split at e
      .rename_i v ev
       refine Zbf (fun _=>trivial) H e2 rfl rfl fun _ s' H'=>?_
       exact ZJf H' (acc:=s'.e l.dst :: acc) (pa:=v :: pa) ⟨ZDj H' ev,ha⟩ e he hK
      .cases e
     .cases e
    cases hs with
    | nil=>exact no e
    | cons q r =>
     simp only at e
     split at e
     .unfold qyes at e
      split at e
      .rename_i σ2 gs as2 rs ns2 e2
       split at e
       .rename_i v ev
        split at e
        .rename_i σ3 r' ass ns3 e3
         cases e
         simp only [List.map_cons,List.cons_append,List.cons.injEq,HE.exp,Prod.mk.injEq] at he
         obtain ⟨⟨h1,h2,h3⟩,h4⟩:=he
         refine Zbf (fun q=>h1 ▸ q) H e2 h2 h3 fun q2 s' H'=>?_
         exact ZJf H' (acc:=s'.e l.dst :: acc) (pa:=v :: pa) ⟨ZDj H' ev,ha⟩ e3 h4 fun q4 q3=>hK q4 (Zm5 q2 q3)
        .cases e
       .cases e
      .cases e
     .exact no e
  cases l with
  | al d z =>
   simp only [runq] at e
   split at e
   .rename_i hd
    rw [qwops_al]
    exact ⟨Zbh ha hd,ZJf ((H.box d (deadL d z)).set d (.ptr d 0)) (Zji (Zah (.ptr d 0 :: deadL d z)) ha) e he hK⟩
   .cases e
  | _=>exact gen rfl e
end
def bL (σ:LS) (k:Nat):Bool:=match lk σ.tb k with
 | some _=>true
 | none=>false
def flt (σ:LS) (seen:List Nat):List (Nat × List AV) -> List (Nat × List AV)
  | []=>[]
  | (k,cs) :: l=>match inL k seen with
    | true=>flt σ seen l
    | false=>match Nat.ble 1000000000 k with
      | true=>flt σ (k :: seen) l
      | false=>match kfL (bL σ) cs with
        | true=>(k,cs) :: flt σ (k :: seen) l
        | false=>flt σ (k :: seen) l
def LS.strip (σ:LS):LS:={ te:=σ.te,tg:=σ.tg,tb:=flt σ [] σ.tb,tr:=[] }
def kfT (σ:LS) (t:Nat):Bool:=match pdv σ t with
 | some v=>v.kf (bL σ)
 | none=>false
def kfTs (σ:LS):List Nat -> Bool
 | []=>true
 | t :: ts=>kfT σ t && kfTs σ ts
def pvz {P:Program} {q:Prop} (σ:LS) (l:LOp) (h:Option (Hint P q)) (r:Option (Rw q)):Option (LS × List (Bool × Bool) × List Act × List Act):=match kfTs σ l.rds && scq σ l with
 | false=>none
 | true=>match l with
  | .g t w l'=>match (match rdv [] σ t with | some (.bool _)=>true | some _=>false | none=>(match fndg t σ.tg with | some (_,_,.bool _)=>true | _=>false)) with
   | false=>none
   | true=>match Nat.beq t l'.dst with
    | true=>none
    | false=>match gvs (clo σ.tg 9 t w) σ (clo σ.tg 9 t w) with
     | some gs=>match pvh (clo σ.tg 9 t w) σ.strip h l' with
      | some (v,as)=>match r with
       | none=>match v.kf (bL σ) with
        | true=>some (σ.setc l'.dst t w v,gs,as,[])
        | false=>none
       | some _=>none
      | none=>none
     | none=>none
  | l=>match pvh [] σ.strip h l with
   | some (v,as)=>match v.kf (bL σ) with
    | true=>match r with
     | none=>some (σ.set l.dst v,[],as,[])
     | some q=>some (σ.set l.dst q.b,[],as,[.a v])
    | false=>none
   | none=>none
def zok (σ:LS):LOp -> Bool
 | .bs d _ _ _=>match lk σ.tb d with
  | none=>true
  | some _=>false
 | .ap d x _ _ _=>match gt [] σ x with
  | some (.sref k)=>match lk σ.tr k with
   | some _=>true
   | none=>false
  | some .nl=>match lk σ.tb d with
   | none=>true
   | some _=>false
  | _=>false
 | .mv _ _=>true
 | .ex _ _ _=>true
 | .bd _ _ _=>true
 | .ln _ _=>true
 | _=>false
def nfr1 (σ:LS):AV -> Bool
 | .sref k=>match lk σ.tr k with
  | some _=>true
  | none=>false
 | .rpt k _ _=>match lk σ.tr k with
  | some _=>true
  | none=>false
 | .ptr k _=>match lk σ.tb k with
  | some _=>true
  | none=>Nat.ble 1000000000 k
 | .agg _=>false
 | .tup _=>false
 | .fn _ _=>false
 | _=>true
def nfr (σ:LS):AV -> Bool
 | .agg cs=>cs.all (nfr1 σ)
 | .tup cs=>cs.all (fun a=>match a with | .agg cs=>cs.all (nfr1 σ) | a=>nfr1 σ a)
 | a=>nfr1 σ a
def zcon {P:Program} (x:HA) (r:RR P):RR P:=match r with
 | some (σ2,r',ass,ns)=>some (σ2,r',x :: ass,ns)
 | none=>none
def zone {P:Program} {q:Prop} (σ:LS) (l:LOp) (h:Option (Hint P q)) (r:Option (Rw q)):Option (LS × List (Bool × Bool) × List Act × List Act × List Nat):=match zok σ l with
 | true=>one σ l h r
 | false=>match isQE l with
  | false=>none
  | true=>match one σ l h r with
   | some (σ1,gs,as,rs,ns)=>match lk σ1.te l.dst with
    | some v=>match nfr σ v with
     | true=>some (σ1,gs,as,rs,ns)
     | false=>none
    | none=>none
   | none=>none
def zstep {P:Program} (f:Bool) (l:LOp) (hs:List (HE P)) (σ:LS) (k:List (HE P) -> LS -> RR P):RR P:=match f with
 | true=>match hs with
  | []=>match zone (P:=P) (q:=True) σ l none none with
   | some (σ1,_,[],[],[])=>k [] σ1
   | _=>none
  | e :: r=>match Nat.beq e.k (hkey l) with
   | true=>match zone σ l e.h e.r with
    | some (σ1,gs,as,rs,[])=>zcon (gs,as,rs) (k r σ1)
    | _=>none
   | false=>match zone (P:=P) (q:=True) σ l none none with
    | some (σ1,_,[],[],[])=>k (e :: r) σ1
    | _=>none
 | false=>match hs with
  | []=>match pvz (P:=P) (q:=True) σ l none none with
   | some (σ1,_,[],[])=>k [] σ1
   | _=>none
  | e :: r=>match Nat.beq e.k (hkey l) with
   | true=>match pvz σ l e.h e.r with
    | some (σ1,gs,as,rs)=>zcon (gs,as,rs) (k r σ1)
    | none=>none
   | false=>match pvz (P:=P) (q:=True) σ l none none with
    | some (σ1,_,[],[])=>k (e :: r) σ1
    | _=>none
def runz {P:Program}:List (Bool × LOp) -> List (HE P) -> LS -> RR P
  | [],hs,σ=>some (σ,hs,[],[])
  | (f,l) :: ls,hs,σ=>zstep f l hs σ (runz ls)
def LS.alZ (σ:LS):List ZA -> LS
  | []=>σ
  | (_,d,z) :: r=>((σ.box d z).set d (.ptr d 0)).alZ r
section
variable {P:Program} {R:Ex -> St -> Prop} {σ:LS} {s:St}
theorem bL_ok (H:σ.has s):bO s = bL σ:=by
 funext k
 unfold bO bL
 split
 .rename_i cs e; rw [H.b _ _ e]; rfl
 .rename_i e; rw [H.n _ e]; rfl
theorem inL_cons {k j:Nat} {l:List Nat} (h:inL k (j :: l) = true):k = j \/ inL k l = true:=by
 simp only [inL] at h
 split at h
 .rename_i e; exact .inl (Nat.eq_of_beq_eq_true e)
 .exact .inr h
theorem inL_self (k:Nat) (l:List Nat):inL k (k :: l) = true:=by simp [inL]
theorem inL_mono {k j:Nat} {l:List Nat} (h:inL k l = true):inL k (j :: l) = true:=by
 simp only [inL]
 split
 .rfl
 .exact h
theorem ZNi {σ:LS}:∀ {l:List (Nat × List AV)} {seen:List Nat} {k:Nat} {cs:List AV},lk (flt σ seen l) k = some cs -> inL k seen = false /\ lk l k = some cs /\ k < 1000000000 /\ kfL (bL σ) cs = true
  | [],_,_,_,h=>by cases h
  | (j,c) :: l,seen,k,cs,h=>by
    have skip:∀ {sn:List Nat},lk (flt σ sn l) k = some cs -> (inL k sn = false -> k ≠ j /\ inL k seen = false) -> inL k seen = false /\ lk ((j,c) :: l) k = some cs /\ k < 1000000000 /\ kfL (bL σ) cs = true:=by
      intro sn h hn
      obtain ⟨h1,h2,h3,h4⟩:=ZNi h
      obtain ⟨n1,n2⟩:=hn h1
      refine ⟨n2,?_,h3,h4⟩
      simp only [lk]
      rw [show Nat.beq k j = false from Bool.eq_false_iff.2 fun q=>n1 (Nat.eq_of_beq_eq_true q)]
      exact h2
    have hcons:inL k (j :: seen) = false -> k ≠ j /\ inL k seen = false:=fun q=>⟨fun e=>by (subst e; rw [inL_self] at q; cases q),by
      cases hk:inL k seen with
      | false=>rfl
      | true=>rw [inL_mono hk] at q; cases q⟩
    simp only [flt] at h
    split at h
    · rename_i hj
      exact skip h fun q=>⟨fun e=>by (subst e; rw [hj] at q; cases q),q⟩
    · rename_i hj
      split at h
      · exact skip h hcons
      · rename_i hb
        split at h
        · rename_i hk
          rcases Zha h with ⟨rfl,rfl⟩ | h
          · refine ⟨hj,by simp [lk],?_,hk⟩
            rcases Nat.lt_or_ge k 1000000000 with q | q
            · exact q
            · rw [Nat.ble_eq_true_of_le q] at hb; cases hb
          · exact skip h hcons
        · exact skip h hcons
theorem ZOi {σ:LS}:∀ {l:List (Nat × List AV)} {seen:List Nat} {k:Nat},lk (flt σ seen l) k = none -> inL k seen = true \/ lk l k = none \/ ∃ cs,lk l k = some cs /\ (1000000000 <= k \/ kfL (bL σ) cs = false)
  | [],_,_,_=>.inr (.inl rfl)
  | (j,c) :: l,seen,k,h=>by
    by_cases hkj:k = j
    · subst hkj
      by_cases hs:inL k seen = true
      · exact .inl hs
      · have hs:inL k seen = false:=by simpa using hs
        simp only [flt,hs] at h
        refine .inr (.inr ⟨c,by simp [lk],?_⟩)
        split at h
        · rename_i hb; exact .inl (Nat.le_of_ble_eq_true hb)
        · split at h
          · simp [lk] at h
          · rename_i hk; exact .inr hk
    · have hb:Nat.beq k j = false:=Bool.eq_false_iff.2 fun q=>hkj (Nat.eq_of_beq_eq_true q)
      have e:lk ((j,c) :: l) k = lk l k:=by simp only [lk,hb]
      rw [e]
      have step:∀ {sn:List Nat},lk (flt σ sn l) k = none -> (inL k sn = true -> inL k seen = true) -> inL k seen = true \/ lk l k = none \/ ∃ cs,lk l k = some cs /\ (1000000000 <= k \/ kfL (bL σ) cs = false):=fun h hm =>
        (ZOi h).imp hm id
      have hc:inL k (j :: seen) = true -> inL k seen = true:=fun q=>(inL_cons q).elim (fun q=>absurd q hkj) id
      simp only [flt] at h
      split at h
      · exact step h id
      · split at h
        · exact step h hc
        · split at h
          · simp only [lk,hb] at h; exact step h hc
          · exact step h hc
theorem LS.has.strip (H:σ.has s):σ.strip.has s.strip:=by
 refine ⟨H.e,H.g,fun k cs h=>?_,fun k r h=>by (cases h),fun k h=>?_⟩
 .obtain ⟨_,h2,h3,h4⟩:=ZNi h
  simp only [St.strip,if_pos h3,H.b _ _ h2,bL_ok H,h4,if_true]
 .simp only [St.strip]
  split
  .rename_i hk
   rcases ZOi h with h | h | ⟨cs,h1,h2⟩
   .cases h
   .rw [H.n _ h]
   .rw [H.b _ _ h1]
    simp only [bL_ok H]
    rcases h2 with h2 | h2
    .omega
    .simp [h2]
  .rfl
theorem kfT_ok (H:σ.has s) {t:Nat} (h:kfT σ t = true):(s.e t).kf (bO s) = true:=by
 unfold kfT at h
 split at h
 .rename_i v e
  rw [bL_ok H]
  rcases ZDj H e with q | q
  .rw [q]; exact h
  .rw [q]; rfl
 .cases h
theorem ZWj (H:σ.has s):∀ {ts:List Nat},kfTs σ ts = true -> ∀ t ∈ ts,(s.e t).kf (bO s) = true
 | [],_,t,ht=>by cases ht
 | t :: ts,h,t',ht=>by
  simp only [kfTs,yD] at h
  rcases List.mem_cons.1 ht with rfl | ht
  .exact kfT_ok H h.1
  .exact ZWj H h.2 t' ht
theorem Zuj {l:LOp} (H:σ.has s) (h:scq σ l = true):scOk s.strip l:=by
 have:=scq_ok H h
 cases l with
 | sc d x lo hi n=>cases x <;> exact this
 | g t w l' =>
  cases l' with
  | sc d x lo hi n=>cases x <;> exact this
  | _=>trivial
 | _=>trivial
theorem ZAj {q:Prop} {gs:List (Bool × Bool)} (hq:allG gs -> q) (H:σ.has s) {l:LOp} {h:Option (Hint P q)} {r:Option (Rw q)} {σ1:LS} {as rs:List Act} (e:pvz σ l h r = some (σ1,gs,as,rs)) (he:as = hexp h) (hr:rs = Rw.exp r)
  {K:St -> Prop} {ls:List (Bool × LOp)} (hK:∀ s',σ1.has s' -> zwops P ls K s'):zwops P ((false,l) :: ls) K s:=by
 unfold pvz at e
 split at e
 .cases e
 .rename_i hc
  simp only [yD] at hc
  rw [zwops_p]
  refine ⟨ZWj H hc.1,Zuj H hc.2,?_⟩
  have Hs:=H.strip
  split at e
  .rename_i t w l'
   split at e
   .cases e
   .rename_i hb
    have hb:(∃ b,s.e t = .bool b) \/ s.e t = .und:=by
     split at hb
     .rename_i b eb; exact .inl ⟨b,Zn9 H Zr6 eb⟩
     .cases hb
     .split at hb
      .rename_i g' w' b' ef
       rcases H.g _ _ _ _ (ZA6 ef) with ⟨_,h2⟩ | ⟨_,h2⟩
       .exact .inl ⟨b',h2⟩
       .exact .inr h2
      .cases hb
    split at e
    .cases e
    .rename_i hne
     have hne:t ≠ l'.dst:=fun q=>by subst q; simp at hne
     split at e
     .rename_i gs' eg
      split at e
      .rename_i v as' ev
       split at e
       .split at e
        .rename_i hkf
         cases e
         have no:s.e t ≠ .bool w -> ((AV.und).kf (bO s) = true /\ zwops P ls K (s.set l'.dst .und)):=fun hb=>⟨rfl,hK _ (H.setc _ _ _ _ _ hne (.inr ⟨hb,rfl⟩))⟩
         have key:∀ u,((u:AV).kf (bO s) = true /\ zwops P ls K (s.set l'.dst u)) -> znext P l'.dst ls K s (s.strip.set l'.dst u):=by
          intro u hu
          rw [Zbi]
          simpa using hu
         rcases hb with ⟨b,hb⟩ | hb
         .simp only [wop,Zdk,hb]
          by_cases hw:b = w
          .subst hw
           rw [if_pos rfl]
           exact Zgh (hq (ZLi H (ZM7 H hb) (ZM7 H hb) eg)) Hs (ZM7 H hb) ev he (key v ⟨by rw [bL_ok H]; exact hkf,hK _ (H.setc _ _ _ _ _ hne (.inl ⟨hb,rfl⟩))⟩)
          .rw [if_neg hw]
           exact key _ (no (by rw [hb]; simpa using hw))
         .simp only [wop,Zdk,hb]
          exact key _ (no (by rw [hb]; simp))
        .cases e
       .cases e
      .cases e
     .cases e
  .split at e
   .rename_i v as' ev
    split at e
    .rename_i hkf
     have key:∀ u,u = v -> zwops P ls K (s.set l.dst u) -> znext P l.dst ls K s (s.strip.set l.dst v):=by
      intro u hu hz
      rw [Zbi]
      subst hu
      simp only [e_set,if_true]
      exact ⟨by rw [bL_ok H]; exact hkf,hz⟩
     split at e
     .cases e
      exact Zgh (hq trivial) Hs Zr6 ev he (key v rfl (hK _ (H.set _ _)))
     .rename_i q0
      cases e
      simp only [Rw.exp,List.cons.injEq,Act.a.injEq,and_true] at hr
      exact Zgh (hq trivial) Hs Zr6 ev he (key q0.b (by rw [hr,q0.h (hq trivial)]) (hK _ (H.set _ _)))
    .cases e
   .cases e
theorem zok_ok (H:σ.has s) {l:LOp} (h:zok σ l = true) {K:St -> Prop} (hw:wop P l K s):zw P l K s:=by
 cases l with
 | bs d sz ps own =>
  simp only [zok] at h
  split at h
  .rename_i e; exact ⟨H.n _ e,hw⟩
  .cases h
 | ap d x y sz b =>
  simp only [zok] at h
  refine ⟨?_,hw⟩
  split at h
  .rename_i k e
   split at h
   .rename_i r er; rw [gt_ok H Zr6 e]; exact (H.r _ _ er).2
   .cases h
  .rename_i e
   split at h
   .rename_i eb; rw [gt_ok H Zr6 e]; exact H.n _ eb
   .cases h
  .cases h
 | mv d x=>exact hw
 | ex d x i=>exact hw
 | bd d z ps=>exact hw
 | ln d x=>exact hw
 | _=>simp [zok] at h
theorem ZYf (H:σ.has s) {v:AV} (h:nfr1 σ v = true) {k:Nat} (hk:k < 1000000000) (F:Free k s):v.dead k = v:=by
 cases v with
 | sref j =>
  simp only [nfr1] at h
  split at h
  .rename_i r e
   rw [AV.dead,if_neg fun q=>by subst q; have:=(H.r _ _ e).1; rw [F.rw] at this; cases this]
  .cases h
 | rpt j i o =>
  simp only [nfr1] at h
  split at h
  .rename_i r e
   rw [AV.dead,if_neg fun q=>by subst q; have:=(H.r _ _ e).1; rw [F.rw] at this; cases this]
  .cases h
 | ptr j o =>
  simp only [nfr1] at h
  split at h
  .rename_i r e
   rw [AV.dead,if_neg fun q=>by subst q; have:=H.b _ _ e; rw [F.bx] at this; cases this]
  .have:=Nat.le_of_ble_eq_true h
   rw [AV.dead,if_neg fun q=>by omega]
 | agg _=>simp [nfr1] at h
 | tup _=>simp [nfr1] at h
 | fn _ _=>simp [nfr1] at h
 | _=>rfl
theorem ZJ9 {k:Nat}:∀ {l:List AV},(∀ a ∈ l,a.dead k = a) -> deadL k l = l
 | [],_=>rfl
 | a :: l,h=>by rw [deadL,h a (List.mem_cons_self ..),ZJ9 fun b hb=>h b (List.mem_cons_of_mem _ hb)]
theorem nfr_ok (H:σ.has s) {v:AV} (h:nfr σ v = true) {k:Nat} (hk:k < 1000000000) (F:Free k s):v.dead k = v:=by
 cases v with
 | agg cs =>
  simp only [nfr,List.all_eq_true] at h
  rw [AV.dead,ZJ9 fun a ha=>ZYf H (h a ha) hk F]
 | tup cs =>
  simp only [nfr,List.all_eq_true] at h
  rw [AV.dead,ZJ9 fun a ha=>?_]
  have:=h a ha
  cases a with
  | agg cs =>
   simp only [List.all_eq_true] at this
   rw [AV.dead,ZJ9 fun b hb=>ZYf H (this b hb) hk F]
  | _=>exact ZYf H this hk F
 | _=>exact ZYf H (by simpa only [nfr] using h) hk F
theorem ZTh {q:Prop} {gs:List (Bool × Bool)} (hq:allG gs -> q) (H:σ.has s) {l:LOp} {h:Option (Hint P q)} {r:Option (Rw q)} {σ1:LS} {as rs:List Act} (e:zone σ l h r = some (σ1,gs,as,rs,[])) (he:as = hexp h) (hr:rs = Rw.exp r)
  {K:St -> Prop} (hK:∀ s',σ1.has s' -> K s'):zw P l K s:=by
 unfold zone at e
 split at e
 .rename_i hz; exact zok_ok H hz (Zbf hq H e he hr fun _=>hK)
 .split at e
  .cases e
  .rename_i hl
   split at e
   .rename_i σ2 gs2 as2 rs2 ns2 e2
    split at e
    .rename_i v ev
     split at e
     .rename_i hn
      cases e
      have hw:=Zbf hq H e2 he hr (K:=fun s'=>(∀ k,k < 1000000000 -> Free k s -> (s'.e l.dst).dead k = s'.e l.dst) /\ K s') fun _ s' H'=>⟨fun k hk F=>by rw [H'.e _ _ ev]; exact nfr_ok H hn hk F,hK s' H'⟩
      cases l <;> simp only [isQE,Bool.false_eq_true] at hl <;> first | exact hw | (simp [isQ1] at hl)
     .cases e
    .cases e
   .cases e
theorem Z3h {x:HA} {r:RR P} {σ2:LS} {r':List (HE P)} {as:List HA} {ns:List Nat} (h:zcon x r = some (σ2,r',as,ns)):∃ ass,r = some (σ2,r',ass,ns) /\ as = x :: ass:=by
 unfold zcon at h
 split at h
 .cases h; exact ⟨_,rfl,rfl⟩
 .cases h
theorem ZW8:∀ {ls:List (Bool × LOp)} {hs hs':List (HE P)} {σ σ1:LS} {as:List HA} {ns:List Nat} {s:St},σ.has s -> runz ls hs σ = some (σ1,hs',as,ns) ->
    ∀ {as2:List HA},as ++ as2 = hs.map HE.exp -> ∀ {K:St -> Prop},(as2 = hs'.map HE.exp -> lensP ns -> ∀ s',σ1.has s' -> K s') -> zwops P ls K s
  | [],hs,hs',σ,σ1,as,ns,s,H,e,as2,he,K,hK=>by
    simp only [runz] at e
    cases e; exact hK he trivial s H
  | (f,l) :: ls,hs,hs',σ,σ1,as,ns,s,H,e,as2,he,K,hK=>by
    simp only [runz] at e
    unfold zstep at e
    cases f with
    | true =>
      simp only at e
      rw [zwops_e]
      split at e
      · split at e
        · rename_i σ2 gs e2
          exact ZTh (fun _=>trivial) H e2 rfl rfl fun s' H'=>ZW8 H' e he hK
        · cases e
      · rename_i q r
        split at e
        · split at e
          · rename_i σ2 gs as2 rs e2
            obtain ⟨ass,e3,rfl⟩:=Z3h e
            simp only [List.map_cons,List.cons_append,List.cons.injEq,HE.exp,Prod.mk.injEq] at he
            obtain ⟨⟨h1,h2,h3⟩,h4⟩:=he
            exact ZTh (fun q=>h1 ▸ q) H e2 h2 h3 fun s' H'=>ZW8 H' e3 h4 hK
          · cases e
        · split at e
          · rename_i σ2 gs e2
            exact ZTh (fun _=>trivial) H e2 rfl rfl fun s' H'=>ZW8 H' e he hK
          · cases e
    | false =>
      simp only at e
      split at e
      · split at e
        · rename_i σ2 gs e2
          exact ZAj (fun _=>trivial) H e2 rfl rfl fun s' H'=>ZW8 H' e he hK
        · cases e
      · rename_i q r
        split at e
        · split at e
          · rename_i σ2 gs as2 rs e2
            obtain ⟨ass,e3,rfl⟩:=Z3h e
            simp only [List.map_cons,List.cons_append,List.cons.injEq,HE.exp,Prod.mk.injEq] at he
            obtain ⟨⟨h1,h2,h3⟩,h4⟩:=he
            exact ZAj (fun q=>h1 ▸ q) H e2 h2 h3 fun s' H'=>ZW8 H' e3 h4 hK
          · cases e
        · split at e
          · rename_i σ2 gs e2
            exact ZAj (fun _=>trivial) H e2 rfl rfl fun s' H'=>ZW8 H' e he hK
          · cases e
theorem LS.has.alZ:∀ {als:List ZA} {σ:LS} {s:St},σ.has s -> (σ.alZ als).has (Eng.alZ s als)
  | [],_,_,H=>H
  | (i,d,z) :: r,σ,s,H=>by
    rw [alZ_cons]
    exact LS.has.alZ (als:=r) ((H.box d z).set d (.ptr d 0))
end
def xit (id:Nat):List It -> Option (List It)
 | []=>none
 | .mk id' :: k=>match Nat.beq id' id with
  | true=>some k
  | false=>xit id k
 | .l _ :: k=>xit id k
 | .lp _ _ :: k=>xit id k
 | .jn _ :: k=>xit id k
def stp {P:Program} (k:List It) (σ:LS) (hs:List (HE P)):Option (List It × LS × List HA × List Nat):=match hs with
 | []=>some (k,σ,[],[])
 | _ :: _=>none
def thn (as:List HA) (ns:List Nat) (r:Option (List It × LS × List HA × List Nat)):Option (List It × LS × List HA × List Nat):=match r with
 | some (k,σ,as2,ns2)=>some (k,σ,as ++ as2,ns ++ ns2)
 | none=>none
def go {P:Program}:Nat -> List It -> LS -> List (HE P) -> Option (List It × LS × List HA × List Nat)
 | 0,k,σ,hs=>stp k σ hs
 | n + 1,k,σ,hs=>match k with
  | .mk _ :: k=>go n k σ hs
  | .l c :: k'=>match c with
   | .skip=>go n k' σ hs
   | .seq x y=>go n (.l x :: .l y :: k') σ hs
   | .blk id x=>go n (.l x :: .mk id :: k') σ hs
   | .scope x=>go n (.l x :: k') σ hs
   | .exit id=>match xit id k' with
    | some k2=>go n k2 σ hs
    | none=>none
   | .reg ls=>match run ls hs σ with
    | some (σ1,r,as,ns)=>thn as ns (go n k' σ1 r)
    | none=>none
   | .rq m ls=>match runq (ls.take m) hs [] (σ.kills (alKeys (ls.take m))) with
    | some (σ0,r0,as0,ns0)=>match run (ls.drop m) r0 σ0 with
     | some (σ1,r,as,ns)=>thn as0 ns0 (thn as ns (go n k' σ1 r))
     | none=>none
    | none=>none
   | .rz als items tl=>match runz (items.map Prod.snd) hs (σ.kills (als.map (·.2.1))) with
    | some (σ0,r0,as0,ns0)=>match run tl r0 (σ0.alZ als) with
     | some (σ1,r,as,ns)=>thn as0 ns0 (thn as ns (go n k' σ1 r))
     | none=>none
    | none=>none
   | _=>stp k σ hs
  | _=>stp k σ hs
def Vh (P:Program) (R:Ex -> St -> Prop) (k:List It) (σ:LS):Prop:=∀ s,σ.has s -> W P R k s
section
variable {P:Program} {R:Ex -> St -> Prop} {k:List It} {σ:LS}
theorem Z4h {id:Nat} {s:St}:∀ {k k':List It},xit id k = some k' -> W P R k' s -> denK P R k (.ext id) s
 | [],_,h,_=>by cases h
 | .mk id' :: k,k',h,hw=>by
  rw [Z6i]
  simp only [xit] at h
  split at h
  .rename_i e
   cases h
   rw [if_pos (Nat.eq_of_beq_eq_true e).symm]; exact hw
  .rename_i e
   rw [if_neg (fun q=>by subst q; simp at e)]; exact Z4h h hw
 | .l c :: k,k',h,hw=>Z4h (k:=k) h hw
 | .lp I m :: k,k',h,hw=>Z4h (k:=k) h hw
 | .jn J :: k,k',h,hw=>Z4h (k:=k) h hw
theorem Za9 {as:List HA} {ns:List Nat} {r:Option (List It × LS × List HA × List Nat)} {k:List It} {σ:LS} {as2:List HA} {ns2:List Nat} (h:thn as ns r = some (k,σ,as2,ns2)) :
  ∃ as' ns',r = some (k,σ,as',ns') /\ as2 = as ++ as' /\ ns2 = ns ++ ns':=by
 unfold thn at h
 split at h
 .cases h; exact ⟨_,_,rfl,rfl,rfl⟩
 .cases h
theorem Zhi {k:List It} {σ:LS} {hs:List (HE P)} {k':List It} {σ':LS} {as:List HA} {ns:List Nat} (h:stp k σ hs = some (k',σ',as,ns)):k = k' /\ σ = σ':=by
 unfold stp at h
 split at h
 .cases h; exact ⟨rfl,rfl⟩
 .cases h
theorem go_ok:∀ {n:Nat} {k k':List It} {σ σ':LS} {hs:List (HE P)} {as:List HA} {ns:List Nat},go n k σ hs = some (k',σ',as,ns) -> as = hs.map HE.exp -> (lensP ns -> Vh P R k' σ') -> Vh P R k σ
 | 0,k,k',σ,σ',hs,as,ns,e,he,h=>by
  have hns:ns = []:=by
   simp only [go,stp] at e
   split at e <;> cases e <;> rfl
  obtain ⟨rfl,rfl⟩:=Zhi e
  exact h (by rw [hns]; trivial)
 | n + 1,k,k',σ,σ',hs,as,ns,e,he,h=>by
  have st:stp k σ hs = some (k',σ',as,ns) -> Vh P R k σ:=by
   intro e
   have hns:ns = []:=by
    simp only [stp] at e
    split at e <;> cases e <;> rfl
   obtain ⟨rfl,rfl⟩:=Zhi e
   exact h (by rw [hns]; trivial)
  cases k with
  | nil=>exact st e
  | cons i k1 =>
   cases i with
   | lp I m=>exact st e
   | jn J=>exact st e
   | mk id=>exact fun s H=>go_ok (n:=n) (k:=k1) e he h s H
   | l c =>
    cases c with
    | skip=>exact fun s H=>go_ok (n:=n) (k:=k1) e he h s H
    | seq x y=>exact fun s H=>by rw [W_seq]; exact go_ok (n:=n) e he h s H
    | blk id x=>exact fun s H=>by rw [W_blk]; exact go_ok (n:=n) e he h s H
    | scope x=>exact fun s H=>by rw [W_scope]; exact go_ok (n:=n) e he h s H
    | exit id =>
     simp only [go] at e
     split at e
     .rename_i k2 e2
      exact fun s H=>by rw [W_exit]; exact Z4h e2 (go_ok (n:=n) e he h s H)
     .cases e
    | reg ls =>
     simp only [go] at e
     split at e
     .rename_i σ1 r as1 ns1 e1
      obtain ⟨as',ns',q1,rfl,rfl⟩:=Za9 e
      intro s H
      rw [W_reg]
      exact Zdh H e1 he fun q2 q3 s' H'=>go_ok q1 q2 (fun q4=>h (Zm5 q3 q4)) s' H'
     .cases e
    | rq m ls =>
     simp only [go] at e
     split at e
     .rename_i σ0 r0 as0 ns0 e0
      split at e
      .rename_i σ1 r as1 ns1 e1
       obtain ⟨as',ns',q1,rfl,rfl⟩:=Za9 e
       obtain ⟨as'',ns'',qq,rfl,rfl⟩:=Za9 q1
       intro s H
       rw [W_rq]
       exact ZJf (acc:=[]) (pa:=[]) H.kills trivial e0 he fun q2 q3 s' H'=>Zdh H' e1 q2 fun q5 q6 s'' H''=>go_ok qq q5 (fun q4=>h (Zm5 q3 (Zm5 q6 q4))) s'' H''
      .cases e
     .cases e
    | rz als items tl =>
     simp only [go] at e
     split at e
     .rename_i σ0 r0 as0 ns0 e0
      split at e
      .rename_i σ1 r as1 ns1 e1
       obtain ⟨as',ns',q1,rfl,rfl⟩:=Za9 e
       obtain ⟨as'',ns'',qq,rfl,rfl⟩:=Za9 q1
       intro s H
       rw [W_rz]
       exact ZW8 H.kills e0 he fun q2 q3 s' H'=>Zdh H'.alZ e1 q2 fun q5 q6 s'' H''=>go_ok qq q5 (fun q4=>h (Zm5 q3 (Zm5 q6 q4))) s'' H''
      .cases e
     .cases e
    | _=>exact st e
def goK (n:Nat) (k:List It) (σ:LS) (hs:List (HE P)):List It:=match go n k σ hs with
 | some (k',_,_,_)=>k'
 | none=>[]
def goS (n:Nat) (k:List It) (σ:LS) (hs:List (HE P)):LS:=match go n k σ hs with
 | some (_,σ',_,_)=>σ'
 | none=>σ
def goE (n:Nat) (k:List It) (σ:LS) (hs:List (HE P)):Option (List HA × List Nat):=match go n k σ hs with
 | some (_,_,as,ns)=>some (as,ns)
 | none=>none
theorem Vh_go (n:Nat) (hs:List (HE P)) (e:goE n k σ hs = some (hs.map HE.exp,hs.flatMap HE.ns)) (h:lensP (hs.flatMap HE.ns) -> Vh P R (goK n k σ hs) (goS n k σ hs)):Vh P R k σ:=by
 unfold goE at e
 split at e
 .rename_i k' σ' as ns e2
  cases e
  refine go_ok e2 rfl fun q=>?_
  have:=h q
  simpa only [goK,goS,e2] using this
 .cases e
def cnB (k:List It) (σ:LS):Option Bool:=match k with
 | .l (.cond c _ _) :: _=>match gt [] σ c with
  | some (.bool b)=>some b
  | _=>none
 | _=>none
def cnT:List It -> List It
 | .l (.cond _ x _) :: k=>.l x :: k
 | _=>[]
def cnF:List It -> List It
 | .l (.cond _ _ y) :: k=>.l y :: k
 | _=>[]
theorem Vh_if {b:Bool} (e:cnB k σ = some b) (h1:b = true -> Vh P R (cnT k) σ) (h2:b = false -> Vh P R (cnF k) σ):Vh P R k σ:=by
 unfold cnB at e
 split at e
 .rename_i c x y k'
  split at e
  .rename_i b' e2
   cases e
   intro s H
   rw [W_cond,gt_ok H Zr6 e2]
   exact ⟨fun q=>h1 q s H,fun q=>h2 q s H⟩
  .cases e
 .cases e
theorem Vh_ifT {b:Bool} (hb:b = true) (e:cnB k σ = some b) (h1:Vh P R (cnT k) σ):Vh P R k σ:=Vh_if e (fun _=>h1) (fun q=>by rw [hb] at q; cases q)
theorem Vh_ifF {b:Bool} (hb:b = false) (e:cnB k σ = some b) (h1:Vh P R (cnF k) σ):Vh P R k σ:=Vh_if e (fun q=>by rw [hb] at q; cases q) (fun _=>h1)
def nrH:Hn -> Bool
 | .r=>false
 | .l hs=>hs.all fun h=>match h with | .r=>false | .l _=>false | _=>true
 | _=>true
def gwT (fb fr:Nat -> Option Nat) (zr:Nat -> Bool) (rr:Nat -> Option Row) (te:List (Nat × AV)):List (Nat × Hn) -> Option (List (Nat × AV))
  | []=>some []
  | (i,h) :: l=>match lk te i with
    | some v=>match nrH h with
      | true=>match gwT fb fr zr rr te l with
        | some r=>some ((i,cvt2 fb fr zr rr h v) :: r)
        | none=>none
      | false=>none
    | none=>none
def gwB (fb fr:Nat -> Option Nat) (zr:Nat -> Bool) (rr:Nat -> Option Row) (tb:List (Nat × List AV)):List (Nat × List Hn) -> Option (List (Nat × List AV))
  | []=>some []
  | (i,hs) :: l=>match lk tb i with
    | some v=>match nrH (.l hs) with
      | true=>match gwB fb fr zr rr tb l with
        | some r=>some ((i,cvt1L fb fr zr rr hs v) :: r)
        | none=>none
      | false=>none
    | none=>none
def gwR (gb:List (Nat × List Hn)) (tr:List (Nat × Row)):List (Nat × Option Nat × Nat) -> Option (List (Nat × Row))
  | []=>some []
  | (k,o,sz) :: l=>match lk gb k with
    | some _=>none
    | none=>match gwR gb tr l with
      | some rs=>match o with
        | none=>some ((k,⟨sz,[],false⟩) :: rs)
        | some k0=>match lk tr k0 with
          | some r=>some ((k,r) :: rs)
          | none=>none
      | none=>none
def shsR (ks:List Nat):List (Nat × Row) -> List (Nat × Row)
  | []=>[]
  | (k,r) :: l=>match inL k ks with
    | true=>(k,⟨r.sz,r.es,true⟩) :: shsR ks l
    | false=>(k,r) :: shsR ks l
def LS.shs (σ:LS) (ks:List Nat):LS:={ σ with tr:=shsR ks σ.tr }
def LS.rr (σ:LS) (ks:List Nat) (k:Nat):Option Row:=match inL k ks with
 | true=>lk (shsR ks σ.tr) k
 | false=>none
theorem ZWh {ks:List Nat}:∀ {l:List (Nat × Row)} {k:Nat} {r:Row},lk (shsR ks l) k = some r -> ∃ r0,lk l k = some r0 /\ r = (match inL k ks with | true=>{ r0 with sh:=true } | false=>r0)
  | [],_,_,h=>by cases h
  | (j,q) :: l,k,r,h=>by
    simp only [shsR] at h
    split at h
    · rename_i e
      simp only [lk] at h ⊢
      split at h
      · rename_i e2
        have:=Nat.eq_of_beq_eq_true e2; subst this
        cases h
        exact ⟨q,by simp,by rw [e]⟩
      · exact ZWh h
    · rename_i e
      simp only [lk] at h ⊢
      split at h
      · rename_i e2
        have:=Nat.eq_of_beq_eq_true e2; subst this
        cases h
        exact ⟨q,by simp,by rw [e]⟩
      · exact ZWh h
theorem LS.has.shs {s:St} (H:σ.has s) (ks:List Nat):(σ.shs ks).has (s.shs ks):=by
 refine ⟨H.e,H.g,H.b,fun k r h=>?_,H.n⟩
 obtain ⟨r0,h0,rfl⟩:=ZWh h
 refine ⟨?_,(H.r k r0 h0).2⟩
 simp only [St.shs,(H.r k r0 h0).1]
 split <;> rename_i e <;> simp [e]
def fzOk (σ:LS):List Nat -> Bool
 | []=>true
 | k :: ks=>match lk σ.tr k with
  | some _=>fzOk σ ks
  | none=>false
theorem Z5k:∀ {ks:List Nat},fzOk σ ks = true -> ∀ {k:Nat},inL k ks = true -> ∃ r,lk σ.tr k = some r
 | [],_,k,h=>by cases h
 | j :: ks,h,k,hk=>by
  simp only [fzOk] at h
  split at h
  .rename_i r e
   simp only [inL] at hk
   split at hk
   .rename_i e2; rw [Nat.eq_of_beq_eq_true e2]; exact ⟨r,e⟩
   .exact Z5k h hk
  .cases h
theorem Z9h {ks:List Nat}:∀ {l:List (Nat × Row)} {k:Nat} {r:Row},lk l k = some r -> ∃ r',lk (shsR ks l) k = some r'
  | [],_,_,h=>by cases h
  | (j,q) :: l,k,r,h=>by
    simp only [lk] at h
    simp only [shsR]
    split at h
    · rename_i e2
      split <;> exact ⟨_,by simp [lk,e2]; rfl⟩
    · rename_i e2
      obtain ⟨r',h'⟩:=Z9h (ks:=ks) h
      split <;> exact ⟨r',by simp [lk,e2,h']⟩
theorem rr_eq {s:St} (H:σ.has s) {ks:List Nat} (hf:fzOk σ ks = true):σ.rr ks = (s.shs ks).rr ks:=by
 funext k
 unfold LS.rr St.rr
 split
 .rename_i hk
  obtain ⟨r,hr⟩:=Z5k hf hk
  obtain ⟨r',hr'⟩:=Z9h (ks:=ks) hr
  simp only [hk,hr',((H.shs ks).r k r' hr').1]
 .rename_i hk; simp only [hk]
def LS.gw (σ:LS) (G:GW):Option LS:=match G.ok && fzOk σ G.fz with
 | true=>match gwT G.fb G.fr G.zr (σ.rr G.fz) σ.te G.te with
  | some te=>match gwB G.fb G.fr G.zr (σ.rr G.fz) σ.tb G.tb with
   | some tb=>match gwR G.tb (σ.shs G.fz).tr G.tr with
    | some tr=>some ⟨te,[],tb,tr⟩
    | none=>none
   | none=>none
  | none=>none
 | false=>none
def gwTo (s:St) (σ:LS):Prop:=∃ G:GW,G.ok = true /\ nooT s G.te /\ nooB s G.tb /\ σ.has (s.gw G)
theorem ZKj {hs:List Hn} (h:(hs.all fun h=>match h with | .r=>false | .l _=>false | _=>true) = true):∀ l,nooL hs l:=by
 induction hs with
 | nil=>intro l; cases l <;> trivial
 | cons x hs ih =>
  intro l
  simp only [List.all_cons,yD] at h
  cases l with
  | nil=>cases x <;> trivial
  | cons a l=>cases x <;> first | exact ih h.2 l | (simp at h)
theorem noo_nr {h:Hn} (hh:nrH h = true) (a:AV):noo h a:=by
 cases h with
 | r=>cases hh
 | l hs=>cases a <;> first | trivial | exact ZKj hh _
 | _=>cases a <;> trivial
theorem Z1k {fb fr:Nat -> Option Nat} {zr:Nat -> Bool} {rr:Nat -> Option Row} {te:List (Nat × AV)} {s:St} (hs:∀ t v,lk te t = some v -> s.e t = v):∀ {l:List (Nat × Hn)} {r:List (Nat × AV)},gwT fb fr zr rr te l = some r ->
    nooT s l /\ ∀ i v,lk r i = some v -> ∃ h,lk l i = some h /\ v = cvt2 fb fr zr rr h (s.e i)
  | [],r,e=>by cases e; exact ⟨trivial,by intro i v h; cases h⟩
  | (j,h) :: l,r,e=>by
    simp only [gwT] at e
    split at e
    · rename_i u eu
      split at e
      · rename_i hn
        split at e
        · rename_i r' er
          cases e
          obtain ⟨q1,q2⟩:=Z1k hs er
          refine ⟨⟨noo_nr hn _,q1⟩,fun i v hi=>?_⟩
          simp only [lk] at hi ⊢
          split at hi
          · rename_i e3
            have:=Nat.eq_of_beq_eq_true e3
            subst this
            cases hi
            exact ⟨h,by simp,by rw [hs _ _ eu]⟩
          · exact q2 i v hi
        · cases e
      · cases e
    · cases e
theorem Z2k {fb fr:Nat -> Option Nat} {zr:Nat -> Bool} {rr:Nat -> Option Row} {tb:List (Nat × List AV)} {s:St} (hs:∀ k cs,lk tb k = some cs -> s.bx k = some cs):∀ {l:List (Nat × List Hn)} {r:List (Nat × List AV)},gwB fb fr zr rr tb l = some r ->
    nooB s l /\ ∀ i v,lk r i = some v -> ∃ h,lk l i = some h /\ (s.bx i).map (cvt1L fb fr zr rr h) = some v
  | [],r,e=>by cases e; exact ⟨trivial,by intro i v h; cases h⟩
  | (j,h) :: l,r,e=>by
    simp only [gwB] at e
    split at e
    · rename_i u eu
      split at e
      · rename_i hn
        split at e
        · rename_i r' er
          cases e
          obtain ⟨q1,q2⟩:=Z2k hs er
          refine ⟨⟨by rw [hs _ _ eu]; exact ZKj hn _,q1⟩,fun i v hi=>?_⟩
          simp only [lk] at hi ⊢
          split at hi
          · rename_i e3
            have:=Nat.eq_of_beq_eq_true e3
            subst this
            cases hi
            exact ⟨h,by simp,by rw [hs _ _ eu]; rfl⟩
          · exact q2 i v hi
        · cases e
      · cases e
    · cases e
theorem ZKi {fb fr:Nat -> Option Nat} {zr:Nat -> Bool} {rr:Nat -> Option Row} {tb:List (Nat × List AV)}:∀ {l:List (Nat × List Hn)} {r:List (Nat × List AV)},gwB fb fr zr rr tb l = some r -> ∀ {i:Nat} {h:List Hn},lk l i = some h -> lk r i ≠ none
  | [],_,_,_,_,h=>by cases h
  | (j,hs) :: l,r,e,i,h,hl=>by
    simp only [gwB] at e
    split at e
    · split at e
      · split at e
        · rename_i r' er
          cases e
          simp only [lk] at hl ⊢
          split at hl
          · simp
          · exact ZKi er hl
        · cases e
      · cases e
    · cases e
theorem gwR_ok {gb:List (Nat × List Hn)} {tr:List (Nat × Row)} {s:St} (hs:∀ k r,lk tr k = some r -> s.rw k = some r /\ s.bx k = none):∀ {l:List (Nat × Option Nat × Nat)} {r:List (Nat × Row)},gwR gb tr l = some r ->
    ∀ i v,lk r i = some v -> lk gb i = none /\ ∃ o sz,lk l i = some (o,sz) /\ (match o with | some k0=>s.rw k0 = some v | none=>v = ⟨sz,[],false⟩)
  | [],r,e=>by cases e; intro i v h; cases h
  | (j,o,sz) :: l,r,e=>by
    simp only [gwR] at e
    split at e
    · cases e
    · rename_i hb
      split at e
      · rename_i rs er
        have q:=gwR_ok hs er
        intro i v hi
        split at e
        · cases e
          simp only [lk] at hi ⊢
          split at hi
          · rename_i e3
            have:=Nat.eq_of_beq_eq_true e3
            subst this
            cases hi
            exact ⟨hb,none,sz,by simp,rfl⟩
          · exact q i v hi
        · rename_i k0
          split at e
          · rename_i r0 e0
            cases e
            simp only [lk] at hi ⊢
            split at hi
            · rename_i e3
              have:=Nat.eq_of_beq_eq_true e3
              subst this
              cases hi
              exact ⟨hb,some k0,sz,by simp,(hs _ _ e0).1⟩
            · exact q i v hi
          · cases e
      · cases e
theorem gw_ok {σ':LS} {G:GW} {s:St} (H:σ.has s) (h:σ.gw G = some σ'):gwTo s σ':=by
 unfold LS.gw at h
 split at h
 .rename_i hk
  simp only [yD] at hk
  rw [rr_eq H hk.2] at h
  split at h
  .rename_i te e1
   split at h
   .rename_i tb e2
    split at h
    .rename_i tr e3
     cases h
     have H':=H.shs G.fz
     obtain ⟨a1,a2⟩:=Z1k H'.e e1
     obtain ⟨b1,b2⟩:=Z2k H'.b e2
     have c:=gwR_ok H'.r e3
     refine ⟨G,hk.1,(Z1k (te:=σ.te) (s:=s) H.e e1).1,(Z2k (tb:=σ.tb) (s:=s) H.b e2).1,fun t v hv=>?_,fun t g w v hv=>by (cases hv),fun k cs hc=>?_,fun k r hr=>?_,fun k hk=>?_⟩
     .obtain ⟨h,q1,q2⟩:=a2 t v hv
      simp only [St.gw,St.gw0,q1,q2]
     .obtain ⟨h,q1,q2⟩:=b2 k cs hc
      simp only [St.gw,St.gw0,q1,q2]
     .obtain ⟨q0,o,sz,q1,q2⟩:=c k r hr
      simp only [St.gw,St.gw0,q0,q1]
      cases o with
      | none=>simp only at q2; simp [q2]
      | some k0=>simp only at q2; simp [q2]
     .simp only [St.gw,St.gw0]
      split
      .rename_i hs e
       exact absurd hk (ZKi e2 e)
      .rfl
    .cases h
   .cases h
  .cases h
 .cases h
def Vg (P:Program) (R:Ex -> St -> Prop) (k:List It) (σ:LS):Prop:=∀ s,gwTo s σ -> W P R k s
theorem Vh_nx {k':List It} {σ':LS} (h:Vg P R k' σ') (G:GW) (ek:k = k') (e:σ.gw G = some σ'):Vh P R k σ:=fun s H=>ek ▸ h s (gw_ok H e)
def isG:List It -> Bool
 | .l (.gw _) :: _=>true
 | _=>false
def gwX:List It -> List It
 | .l (.gw x) :: k=>.l x :: k
 | _=>[]
theorem Vg_of {σ':LS} (e:isG k = true) (h:Vh P R (gwX k) σ'):Vg P R k σ':=by
 unfold isG at e
 split at e
 .rename_i x k'
  rintro s ⟨G,h1,h2,h3,h4⟩
  exact W_gw G h1 h2 h3 (h _ h4)
 .cases e
def sfx:Nat -> List It -> List It
 | _,[]=>[]
 | n,.l (.gw x) :: k=>match n with
  | 0=>.l (.gw x) :: k
  | n + 1=>sfx n k
 | n,_ :: k=>sfx n k
def rgl {α β γ:Type} (bd:α -> Nat -> β -> (β -> Option γ) -> Option γ) (kk:β -> Option γ):List α -> Nat -> β -> Option γ
 | [],_,b=>kk b
 | x :: xs,i,b=>bd x i b (rgl bd kk xs (i + 1))
def whl {β γ:Type} (bd:β -> (β -> Option γ) -> Option γ):Nat -> β -> Option γ
 | 0,_=>none
 | n + 1,b=>bd b (whl bd n)
def isLp:List It -> Bool
 | .l (.loop (.gw _)) :: _=>true
 | _=>false
def lpX:List It -> L
 | .l (.loop (.gw x)) :: _=>x
 | _=>.skip
def lpK:List It -> List It
 | _ :: k=>k
 | []=>[]
theorem rgl_drop {α β γ:Type} {bd:α -> Nat -> β -> (β -> Option γ) -> Option γ} {kk:β -> Option γ} {l:List α} {i:Nat} {b:β} {x:α} (h:l[i]? = some x):rgl bd kk (l.drop i) i b = bd x i b (rgl bd kk (l.drop (i + 1)) (i + 1)):=by
 obtain ⟨hi,rfl⟩:=yB h
 rw [List.drop_eq_getElem_cons hi,rgl]
theorem Vh_rgl {α β γ:Type} {bd:α -> Nat -> β -> (β -> Option γ) -> Option γ} {kk:β -> Option γ} {l:List α} {b0:β} {r:γ} (σh:Nat -> β -> LS) (G:GW) (hl:isLp k = true) (h0:σ.gw G = some (σh 0 b0)) (H:rgl bd kk l 0 b0 = some r)
  (hs:∀ i x b I m,l[i]? = some x -> i < l.length -> bd x i b (rgl bd kk (l.drop (i + 1)) (i + 1)) = some r ->
   (∀ b',rgl bd kk (l.drop (i + 1)) (i + 1) b' = some r -> Vg P R (.lp I m :: lpK k) (σh (i + 1) b')) -> Vh P R (.l (lpX k) :: .lp I m :: lpK k) (σh i b))
  (hd:∀ b I m,kk b = some r -> Vh P R (.l (lpX k) :: .lp I m :: lpK k) (σh l.length b)):Vh P R k σ:=by
 unfold isLp at hl
 split at hl
 .rename_i x k'
  intro s Hs
  refine W_loop (fun m s=>∃ i b,m = l.length - i /\ i <= l.length /\ rgl bd kk (l.drop i) i b = some r /\ gwTo s (σh i b)) l.length ⟨0,b0,by simp,by simp,by simpa using H,gw_ok Hs h0⟩ ?_
  rintro m s' ⟨i,b,rfl,hi,hr,G',q1,q2,q3,q4⟩
  refine W_gw G' q1 q2 q3 ?_
  by_cases hlt:i < l.length
  .have hx:l[i]? = some l[i]:=yA hlt
   refine hs i _ b _ _ hx hlt ((rgl_drop hx).symm.trans hr) (fun b' hr' s2 hg=>?_) _ q4
   exact ⟨l.length - (i + 1),by omega,i + 1,b',rfl,hlt,hr',hg⟩
  .have:i = l.length:=by omega
   subst this
   rw [List.drop_length,rgl] at hr
   exact hd b _ _ hr _ q4
 .cases hl
theorem Vh_whl {β γ:Type} {bd:β -> (β -> Option γ) -> Option γ} {b0:β} {n:Nat} {r:γ} (σh:β -> LS) (G:GW) (hl:isLp k = true) (h0:σ.gw G = some (σh b0)) (H:whl bd n b0 = some r)
  (hs:∀ n b I m,bd b (whl bd n) = some r -> (∀ b',whl bd n b' = some r -> Vg P R (.lp I m :: lpK k) (σh b')) -> Vh P R (.l (lpX k) :: .lp I m :: lpK k) (σh b)):Vh P R k σ:=by
 unfold isLp at hl
 split at hl
 .rename_i x k'
  intro s Hs
  refine W_loop (fun m s=>∃ b,whl bd m b = some r /\ gwTo s (σh b)) n ⟨b0,H,gw_ok Hs h0⟩ ?_
  rintro m s' ⟨b,hr,G',q1,q2,q3,q4⟩
  refine W_gw G' q1 q2 q3 ?_
  cases m with
  | zero=>simp [whl] at hr
  | succ m=>exact hs m b _ _ hr (fun b' hr' s2 hg=>⟨m,by omega,b',hr',hg⟩) _ q4
 .cases hl
def rvL (σ:LS):List Rv -> Option (List AV)
 | []=>some []
 | r :: rs=>match (match r with | .t i=>lk σ.te i | .c i n ag=>match lk σ.te i with | some p=>ldv σ p n ag | none=>none) with
  | some v=>match rvL σ rs with
   | some l=>some (v :: l)
   | none=>none
  | none=>none
def nth {α:Type}:List α -> Nat -> Option α
 | [],_=>none
 | a :: l,n=>match n with
  | 0=>some a
  | n + 1=>nth l n
def mr1 (ks:List (Option Nat)):AV -> AV -> AV
 | .nl,.sref i=>match nth ks i with
  | some none=>.sref i
  | _=>.nl
 | .nl,.sl t sz es=>match es with
  | []=>match t.isOwn with
   | true=>.nl
   | false=>.sl t sz []
  | _=>.nl
 | a,_=>a
def mr1L (ks:List (Option Nat)):List AV -> List AV -> List AV
 | a :: l,b :: m=>mr1 ks a b :: mr1L ks l m
 | l,_=>l
def mrA (ks:List (Option Nat)):AV -> AV -> AV
 | .agg cs,.agg ds=>.agg (mr1L ks cs ds)
 | a,b=>mr1 ks a b
def mrAL (ks:List (Option Nat)):List AV -> List AV -> List AV
 | a :: l,b :: m=>mrA ks a b :: mrAL ks l m
 | l,_=>l
def mrW (ks:List (Option Nat)):AV -> AV -> AV
 | .tup cs,.tup ds=>.tup (mrAL ks cs ds)
 | a,b=>mrA ks a b
structure NW where
 es:List AV
 h:NwL es
mutual
def nwC:AV -> Option (List (List AV))
 | .sl t _ es=>match t with
  | .nw=>some [es]
  | .rd=>match es with
   | []=>some []
   | _=>none
  | .own _=>none
 | .agg cs=>nwCL cs
 | .tup cs=>nwCL cs
 | .fn _ cs=>nwCL cs
 | .od _ _ _=>none
 | .op _ _ _=>none
 | .ept _ _=>none
 | .eot _ _=>none
 | _=>some []
def nwCL:List AV -> Option (List (List AV))
 | []=>some []
 | a :: l=>match nwC a with
  | some x=>match nwCL l with
   | some y=>some (x ++ y)
   | none=>none
  | none=>none
end
def rwC (σ:LS):List (Option Nat) -> List Row -> Option (List Row × List (List AV))
 | [],[]=>some ([],[])
 | some k :: ks,_ :: rs=>match lk σ.tr k with
  | some r=>match r.sh with
   | false=>match rwC σ ks rs with
    | some (a,b)=>some (⟨r.sz,r.es,false⟩ :: a,r.es :: b)
    | none=>none
   | true=>none
  | none=>none
 | none :: ks,r :: rs=>match rwC σ ks rs with
  | some (a,b)=>some (⟨r.sz,[],r.sh⟩ :: a,b)
  | none=>none
 | _,_=>none
def retE (rs:List Rv) (ks:List (Option Nat)) (σ:LS) (res:AV) (rows:List Row):Option (AV × List Row × List (List AV)):=match rvL σ rs with
 | some l=>match nwC (resOf l) with
  | some x=>match rwC σ ks rows with
   | some (a,b)=>match Zw7 (keysO ks) with
    | true=>some (mrW ks ((resOf l).out ks) res,a,x ++ b)
    | false=>none
   | none=>none
  | none=>none
 | none=>none
theorem rvL_ok {s:St} (H:σ.has s):∀ {rs:List Rv} {l:List AV},rvL σ rs = some l -> s.rvs rs = some l
 | [],l,h=>by cases h; rfl
 | r :: rs,l,h=>by
  simp only [rvL] at h
  split at h
  .rename_i v e
   split at h
   .rename_i l' e2
    cases h
    have:s.rv1 r = some v:=by
     cases r with
     | t i=>simp only at e; simp only [St.rv1,H.e _ _ e]
     | c i n ag =>
      simp only at e
      split at e
      .rename_i p ep
       simp only [St.rv1,H.e _ _ ep]
       unfold ldv at e
       split at e
       .exact e
       .exact e
       .split at e
        .rename_i cs e2; simp only [St.ld,H.b _ _ e2]; exact e
        .cases e
       .cases e
      .cases e
    simp only [St.rvs,this,rvL_ok H e2]
   .cases h
  .cases h
theorem nth_ok {α:Type}:∀ {l:List α} {i:Nat} {x:α},nth l i = some x -> l[i]? = some x
 | [],_,_,h=>by cases h
 | a :: l,0,x,h=>by simpa [nth] using h
 | a :: l,i + 1,x,h=>by simpa using nth_ok (l:=l) (i:=i) h
theorem mr1_ok {ks:List (Option Nat)} {a b:AV} (h:mr1 ks a b = b):AV.wk1 (fun i=>ks[i]? = some none) a b:=by
 unfold mr1 at h
 split at h
 .split at h
  .rename_i e; exact nth_ok e
  .cases h
 .split at h
  .split at h
   .cases h
   .rename_i ht; exact ⟨ht,rfl⟩
  .cases h
 .subst h; simp
theorem ZNj {ks:List (Option Nat)}:∀ {l m:List AV},mr1L ks l m = m -> wkLs (AV.wk1 fun i=>ks[i]? = some none) l m
 | [],m,h=>by simp only [mr1L] at h; subst h; trivial
 | a :: l,[],h=>by simp [mr1L] at h
 | a :: l,b :: m,h=>by
  simp only [mr1L,List.cons.injEq] at h
  exact ⟨mr1_ok h.1,ZNj h.2⟩
theorem mrA_ok {ks:List (Option Nat)} {a b:AV} (h:mrA ks a b = b):AV.wkA (fun i=>ks[i]? = some none) a b:=by
 unfold mrA at h
 split at h
 .simp only [AV.agg.injEq] at h; exact ZNj h
 .rename_i hne
  have:=mr1_ok h
  cases a <;> cases b <;> first | exact this | exact (hne _ _ rfl rfl).elim
theorem ZMj {ks:List (Option Nat)}:∀ {l m:List AV},mrAL ks l m = m -> wkLs (AV.wkA fun i=>ks[i]? = some none) l m
 | [],m,h=>by simp only [mrAL] at h; subst h; trivial
 | a :: l,[],h=>by simp [mrAL] at h
 | a :: l,b :: m,h=>by
  simp only [mrAL,List.cons.injEq] at h
  exact ⟨mrA_ok h.1,ZMj h.2⟩
theorem mrW_ok {ks:List (Option Nat)} {a b:AV} (h:mrW ks a b = b):AV.wk (fun i=>ks[i]? = some none) a b:=by
 unfold mrW at h
 split at h
 .simp only [AV.tup.injEq] at h; exact ZMj h
 .rename_i hne
  have:=mrA_ok h
  cases a <;> cases b <;> first | exact this | exact (hne _ _ rfl rfl).elim
mutual
theorem nwC_ok:∀ {a:AV} {x:List (List AV)},nwC a = some x -> (∀ es ∈ x,NwL es) -> Nw a
 | .sl t sz es,x,h,hx=>by
  simp only [nwC] at h
  split at h
  .cases h; exact .inr ⟨rfl,hx _ (List.mem_cons_self ..)⟩
  .split at h
   .exact .inl ⟨rfl,rfl⟩
   .cases h
  .cases h
 | .agg cs,x,h,hx | .tup cs,x,h,hx | .fn _ cs,x,h,hx=>by rw [Nw]; exact ZHj (by simpa only [nwC] using h) hx
 | .ept _ _,x,h,_ | .eot _ _,x,h,_ | .od _ _ _,x,h,_ | .op _ _ _,x,h,_=>by simp [nwC] at h
 | .bool _,_,_,_ | .int _ _,_,_,_ | .str _,_,_,_ | .nl,_,_,_ | .el,_,_,_ | .sref _,_,_,_ | .ptr _ _,_,_,_ | .rpt _ _ _,_,_,_ | .und,_,_,_ | .bad,_,_,_=>by simp [Nw]
theorem ZHj:∀ {l:List AV} {x:List (List AV)},nwCL l = some x -> (∀ es ∈ x,NwL es) -> NwL l
 | [],_,_,_=>trivial
 | a :: l,x,h,hx=>by
  simp only [nwCL] at h
  split at h
  .rename_i y e
   split at h
   .rename_i z e2
    cases h
    exact ⟨nwC_ok e fun es he=>hx es (List.mem_append.2 (.inl he)),ZHj e2 fun es he=>hx es (List.mem_append.2 (.inr he))⟩
   .cases h
  .cases h
end
theorem Zwj {s:St} (H:σ.has s):∀ {ks:List (Option Nat)} {rows:List Row} {b:List (List AV)},rwC σ ks rows = some (rows,b) -> (∀ es ∈ b,NwL es) -> Zr8 s ks rows
 | [],[],_,_,_=>trivial
 | some k :: ks,r :: rs,b,h,hb=>by
  simp only [rwC] at h
  split at h
  .rename_i r0 e
   split at h
   .rename_i hsh
    split at h
    .rename_i a b' e2
     simp only [Option.some.injEq,Prod.mk.injEq,List.cons.injEq] at h
     obtain ⟨⟨h1,rfl⟩,rfl⟩:=h
     have hr:r0 = r:=by rw [← h1]; cases r0; simp only at hsh; subst hsh; rfl
     subst hr
     exact ⟨(H.r _ _ e).1,hsh,hb _ (List.mem_cons_self ..),Zwj H e2 fun es he=>hb es (List.mem_cons_of_mem _ he)⟩
    .cases h
   .cases h
  .cases h
 | none :: ks,r :: rs,b,h,hb=>by
  simp only [rwC] at h
  split at h
  .rename_i a b' e2
   simp only [Option.some.injEq,Prod.mk.injEq,List.cons.injEq] at h
   obtain ⟨⟨h1,rfl⟩,rfl⟩:=h
   exact ⟨by rw [← h1],Zwj H e2 hb⟩
  .cases h
 | [],_ :: _,_,h,_=>by simp [rwC] at h
 | some _ :: _,[],_,h,_=>by simp [rwC] at h
 | none :: _,[],_,h,_=>by simp [rwC] at h
def isEnd:List It -> Option Ex
 | []=>some .nrm
 | .l .ret :: _=>some .ret
 | _=>none
theorem ZI9 {s:St}:∀ {k:List It},denK P R k .ret s = R .ret s
 | []=>rfl
 | .l _ :: k=>ZI9 (k:=k)
 | .mk _ :: k=>ZI9 (k:=k)
 | .lp _ _ :: k=>ZI9 (k:=k)
 | .jn _ :: k=>ZI9 (k:=k)
theorem Vh_ret {rs:List Rv} {res:AV} {rows:List Row} (ks:List (Option Nat)) (nws:List NW) (he:(isEnd k).isSome = true) (e:retE rs ks σ res rows = some (res,rows,nws.map NW.es)):Vh P (post rs res rows) k σ:=by
 intro s H
 have main:∃ l,s.rvs rs = some l /\ AV.wk (fun i=>ks[i]? = some none) ((resOf l).out ks) res /\ Nw (resOf l) /\ (keysO ks).Nodup /\ Zr8 s ks rows:=by
  unfold retE at e
  split at e
  .rename_i l el
   split at e
   .rename_i x ex
    split at e
    .rename_i a b eb
     split at e
     .rename_i hn
      simp only [Option.some.injEq,Prod.mk.injEq] at e
      obtain ⟨e1,rfl,e3⟩:=e
      have hall:∀ es ∈ x ++ b,NwL es:=by
       rw [e3]; intro es hes
       obtain ⟨q,_,rfl⟩:=List.mem_map.1 hes
       exact q.h
      exact ⟨l,rvL_ok H el,mrW_ok e1,nwC_ok ex (fun es he=>hall es (List.mem_append.2 (.inl he))),ZL3 hn,Zwj H eb fun es he=>hall es (List.mem_append.2 (.inr he))⟩
     .cases e
    .cases e
   .cases e
  .cases e
 obtain ⟨l,h1,h2,h3,h4,h5⟩:=main
 unfold isEnd at he
 split at he
 .exact ⟨trivial,l,ks,h1,h2,h3,h4,h5⟩
 .rw [W_ret,ZI9]
  exact ⟨trivial,l,ks,h1,h2,h3,h4,h5⟩
 .cases he
def num0:Nat -> List AV -> List (Nat × AV)
 | _,[]=>[]
 | i,a :: l=>(i,a) :: num0 (i + 1) l
theorem ZIj:∀ {l:List AV} {i t:Nat} {v:AV},lk (num0 i l) t = some v -> i <= t /\ l[t - i]? = some v
 | [],_,_,_,h=>by cases h
 | a :: l,i,t,v,h=>by
  simp only [num0] at h
  rcases Zha h with ⟨rfl,rfl⟩ | h
  .simp
  .obtain ⟨h1,h2⟩:=ZIj h
   refine ⟨by omega,?_⟩
   rw [show t - i = (t - (i + 1)) + 1 by omega,List.getElem?_cons_succ]; exact h2
def LS.arg (args:List AV):LS:=⟨num0 0 args,[],[],[]⟩
theorem LS.has_arg (args:List AV):(LS.arg args).has (st0 args):=by
 refine ⟨fun t v h=>?_,fun _ _ _ _ h=>by (cases h),fun _ _ h=>by (cases h),fun _ _ h=>by (cases h),fun _ _=>rfl⟩
 obtain ⟨_,h2⟩:=ZIj h
 simp only [Nat.sub_zero] at h2
 simp [st0,List.getD_eq_getElem?_getD,h2]
theorem snd_v {f:FuncId} {l:L} {rs:List Rv} {args:List AV} {res:AV} {rows:List Row} {n:Nat} (hc:chkFn P f n l rs = true) (hn:args.length = n) (hrd:rdtL args = args)
  (h:Vh P (post rs res rows) [.l l] (LS.arg args)):Snd P f args res rows:=snd_by hc hn hrd (den_W (h _ (LS.has_arg args)))
theorem bT {α:Type} {c:Bool} {a b r:α} (h:c = true) (H:(bif c then a else b) = r):a = r:=by subst h; exact H
theorem bF {α:Type} {c:Bool} {a b r:α} (h:c = false) (H:(bif c then a else b) = r):b = r:=by subst h; exact H
theorem bB {α β:Type} {o:Option α} {f:α -> Option β} {r:β} (H:o.bind f = some r):∃ y,o = some y /\ f y = some r:=Option.bind_eq_some_iff.1 H
end
end Go.Proofs.YtodafdoninblmaaGreat.Eng
namespace Go.Proofs.YtodafdoninblmaaGreat.Eng
open Go Go.RowKit
section
variable {P:Program} {R:Ex -> St -> Prop} {k:List It} {σ:LS}
def HE.u (k:Nat) (h:Hint P (allG [])):HE P:=⟨k,[],some h,none⟩
def HE.c {f:Nat} {as:List AV} {res:AV} {rows:List Row} (k:Nat) (h:Snd P f as res rows):HE P:=.u k (.call f as as res rows (AEs.refl as) fun _=>h)
def HE.g (k:Nat) (gs:List (Bool × Bool)) (h:Hint P (allG gs)):HE P:=⟨k,gs,some h,none⟩
def HE.w (k:Nat) {a b:AV} (h:a = b):HE P:=⟨k,[],none,some ⟨a,b,fun _=>h⟩⟩
def ovH:List (Nat × Hn) -> Nat -> Hn
 | l,t=>match lk l t with
  | some h=>h
  | none=>.d
def ovB:List (Nat × List Hn) -> Nat -> List Hn
 | l,t=>match lk l t with
  | some h=>h
  | none=>[]
def ovR:List (Nat × Option Nat × Nat) -> Nat -> Option Nat × Nat
 | l,t=>match lk l t with
  | some h=>h
  | none=>(some t,0)
def gD (σ':LS) (te:List (Nat × Hn)) (tb:List (Nat × List Hn)) (tr:List (Nat × Option Nat × Nat)) (fz:List Nat):GW where
 te:=σ'.te.map fun p=>(p.1,ovH te p.1)
 tb:=σ'.tb.map fun p=>(p.1,ovB tb p.1)
 tr:=σ'.tr.map fun p=>(p.1,ovR tr p.1)
 fz:=fz
structure Wh (P:Program) (R:Ex -> St -> Prop) (k:List It) (σ:LS):Prop where
 h:Vh P R k σ
structure Wg (P:Program) (R:Ex -> St -> Prop) (k:List It) (σ:LS):Prop where
 h:Vg P R k σ
theorem Wh_go (n:Nat) (hs:List (HE P)) (e:goE n k σ hs = some (hs.map HE.exp,hs.flatMap HE.ns)) (h:lensP (hs.flatMap HE.ns) -> Wh P R (goK n k σ hs) (goS n k σ hs)):Wh P R k σ:=⟨Vh_go n hs e fun q=>(h q).h⟩
theorem Wh_ifT {b:Bool} (hb:b = true) (e:cnB k σ = some b) (h1:Wh P R (cnT k) σ):Wh P R k σ:=⟨Vh_ifT hb e h1.h⟩
theorem Wh_ifF {b:Bool} (hb:b = false) (e:cnB k σ = some b) (h1:Wh P R (cnF k) σ):Wh P R k σ:=⟨Vh_ifF hb e h1.h⟩
theorem Wh_to {k':List It} {σ':LS} (h:Wg P R k' σ') (te:List (Nat × Hn)) (tb:List (Nat × List Hn)) (tr:List (Nat × Option Nat × Nat)) (fz:List Nat) (ek:k = k') (e:σ.gw (gD σ' te tb tr fz) = some σ'):Wh P R k σ:=⟨Vh_nx h.h _ ek e⟩
theorem Wh_ifH {γ:Type} {b:Bool} {x y:Option γ} {r:γ} (H:(bif b then x else y) = some r) (e:cnB k σ = some b) (h1:x = some r -> Wh P R (cnT k) σ) (h2:y = some r -> Wh P R (cnF k) σ):Wh P R k σ :=
  ⟨Vh_if e (fun q=>(h1 (bT q H)).h) fun q=>(h2 (bF q H)).h⟩
theorem Wh_iH {γ:Type} {b:Bool} {x y:Option γ} {r:γ} (H:(bif b then x else y) = some r) (h1:x = some r -> Wh P R (cnT k) σ) (h2:y = some r -> Wh P R (cnF k) σ) (e:cnB k σ = some b:=by kernel_rfl):Wh P R k σ:=Wh_ifH H e h1 h2
theorem Wh_o (h:lensP [] -> Wh P R (goK 99 k σ ([]:List (HE P))) (goS 99 k σ ([]:List (HE P)))) (e:goE 99 k σ ([]:List (HE P)) = some ([],[]):=by kernel_rfl):Wh P R k σ:=Wh_go 99 [] e h
theorem Z49 {ι γ:Type} {r:γ} (F:ι -> Option γ) (n:Nat) (σJ:ι -> LS) (h1:isG (sfx n k) = true) (h2:∀ v,F v = some r -> Wh P R (gwX (sfx n k)) (σJ v)) (h:(∀ v,F v = some r -> Wg P R (sfx n k) (σJ v)) -> Wh P R k σ):Wh P R k σ :=
 h fun v H=>⟨Vg_of h1 (h2 v H).h⟩
theorem ZRa {α β γ:Type} {bd:α -> Nat -> β -> (β -> Option γ) -> Option γ} {kk:β -> Option γ} {l:List α} {b0:β} {r:γ} (σh:Nat -> β -> LS) (te:List (Nat × Hn)) (tb:List (Nat × List Hn)) (tr:List (Nat × Option Nat × Nat)) (fz:List Nat)
    (hl:isLp k = true) (h0:σ.gw (gD (σh 0 b0) te tb tr fz) = some (σh 0 b0)) (H:rgl bd kk l 0 b0 = some r)
    (hs:∀ i x b I m (nx:β -> Option γ),l[i]? = some x -> i < l.length -> bd x i b nx = some r ->
      (∀ b',nx b' = some r -> Wg P R (.lp I m :: lpK k) (σh (i + 1) b')) -> Wh P R (.l (lpX k) :: .lp I m :: lpK k) (σh i b))
    (hd:∀ b I m,kk b = some r -> Wh P R (.l (lpX k) :: .lp I m :: lpK k) (σh l.length b)):Wh P R k σ :=
  ⟨Vh_rgl σh _ hl h0 H (fun i x b I m q1 q2 q3 q4=>(hs i x b I m _ q1 q2 q3 fun b' q=>⟨q4 b' q⟩).h) fun b I m q=>(hd b I m q).h⟩
theorem Wh_whl {β γ:Type} {bd:β -> (β -> Option γ) -> Option γ} {b0:β} {n:Nat} {r:γ} (σh:β -> LS) (te:List (Nat × Hn)) (tb:List (Nat × List Hn)) (tr:List (Nat × Option Nat × Nat)) (fz:List Nat)
    (hl:isLp k = true) (h0:σ.gw (gD (σh b0) te tb tr fz) = some (σh b0)) (H:whl bd n b0 = some r)
    (hs:∀ b I m (nx:β -> Option γ),bd b nx = some r -> (∀ b',nx b' = some r -> Wg P R (.lp I m :: lpK k) (σh b')) -> Wh P R (.l (lpX k) :: .lp I m :: lpK k) (σh b)):Wh P R k σ :=
  ⟨Vh_whl σh _ hl h0 H fun _ b I m q1 q2=>(hs b I m _ q1 fun b' q=>⟨q2 b' q⟩).h⟩
theorem gw_end {k':List It} {σ':LS} {s:St} (h:gwTo s σ') (hw:Vh P R (.l .ret :: k') σ'):W P R (.l (.gw .ret) :: k') s:=by
 obtain ⟨G,h1,h2,h3,h4⟩:=h
 exact W_gw G h1 h2 h3 (hw _ h4)
def fzS (σ:LS) (te:List (Nat × Hn)) (tb:List (Nat × List Hn)) (fz:List Nat):LS:=match σ.gw (gD σ te tb [] fz) with
 | some σ'=>σ'
 | none=>σ
def fzE (k:List It) (σ:LS) (te:List (Nat × Hn)) (tb:List (Nat × List Hn)) (fz:List Nat):Bool:=match k with
 | .l (.gw _) :: _=>match σ.gw (gD σ te tb [] fz) with
  | some _=>true
  | none=>false
 | _=>false
theorem Wh_fz (te:List (Nat × Hn)) (tb:List (Nat × List Hn)) (fz:List Nat) (e:fzE k σ te tb fz = true) (h:Wh P R (gwX k) (fzS σ te tb fz)):Wh P R k σ:=by
 unfold fzE at e
 split at e
 .rename_i x k'
  split at e
  .rename_i σ' e2
   refine ⟨fun s H=>?_⟩
   obtain ⟨G,h1,h2,h3,h4⟩:=gw_ok H e2
   simp only [fzS,e2] at h
   exact W_gw G h1 h2 h3 (h.h _ h4)
  .cases e
 .cases e
def retG (k:List It) (rs:List Rv) (ks:List (Option Nat)) (σ:LS) (G:GW) (res:AV) (rows:List Row):Option (AV × List Row × List (List AV)):=match k with
 | .l (.gw .ret) :: _=>match σ.gw G with
  | some σ'=>retE rs ks σ' res rows
  | none=>none
 | _=>none
theorem Wh_end {rs:List Rv} {res:AV} {rows:List Row} (te:List (Nat × Hn)) (tb:List (Nat × List Hn)) (tr:List (Nat × Option Nat × Nat)) (fz:List Nat) (ks:List (Option Nat)) (nws:List NW)
  (e:retG k rs ks σ ⟨te,tb,tr,fz⟩ res rows = some (res,rows,nws.map NW.es)):Wh P (post rs res rows) k σ:=by
 unfold retG at e
 split at e
 .rename_i k'
  split at e
  .rename_i σ' eg
   exact ⟨fun s H=>gw_end (gw_ok H eg) (Vh_ret (k:=.l .ret :: k') ks nws rfl e)⟩
  .cases e
 .cases e
theorem snd_g {f:FuncId} {l:L} {rs:List Rv} {args:List AV} {res:AV} {rows:List Row} {n:Nat} (hc:chkFn P f n l rs = true) (hn:args.length = n) (hrd:rdtL args = args)
  (h:Wh P (post rs res rows) [.l l] (LS.arg args)):Snd P f args res rows:=snd_v hc hn hrd h.h
theorem lm {α:Type} (xs:List α) (e:α -> AV):(xs.map e).length = xs.length:=List.length_map ..
theorem gm {α:Type} (e:α -> AV) {xs:List α} {j:Nat} {x:α} (h:xs[j]? = some x):(xs.map e)[j]? = some (e x):=by rw [List.getElem?_map,h]; rfl
theorem ltT {i n:Nat} (h:i < n):decide ((i:Int) < (n:Int)) = true:=by simpa using h
theorem ltF (n:Nat):decide ((n:Int) < (n:Int)) = false:=by simp
theorem wi {i n:Nat} (k:IntKind) (hk:k = .i64) (h:i < n) (hn:n <= 9223372036854775807):AV.int k (k.wrap ((i:Int) + 1)) = AV.int k ((i + 1:Nat):Int):=by
 subst hk; rw [Zlj h hn]
def lenQ {α:Type} (xs:List α):Option Unit:=if xs.length <= 9223372036854775807 then some () else none
theorem ZSj {α:Type} {xs:List α} {u:Unit} (h:lenQ xs = some u):xs.length <= 9223372036854775807:=by
 unfold lenQ at h
 split at h
 .assumption
 .cases h
theorem Zd {α:Type} {c:Bool} {a b:α}:(bif c then some a else some b) = some (bif c then a else b):=by cases c <;> rfl
theorem AEs.of {xs as':List AV} (h:rdtL xs = rdtL as'):AEs xs as':=by
 have hl:xs.length = as'.length:=by
  have:=congrArg List.length h
  simpa [Za] using this
 refine ⟨hl,fun w S i a a' v h1 h2 hr=>?_⟩
 have e:a.rdt = a'.rdt:=by
  have:=congrArg (fun l:List AV=>l[i]?) h
  simpa [Za,List.getElem?_map,h1,h2] using this
 have:=hr.rdt (N':=TT) (fun _ _=>trivial)
 rw [e] at this
 exact Rd.unrdt _ this
end
theorem sI {α:Type} {a b:α} (h:some a = some b):a = b:=Option.some.inj h
theorem wE {P:Program} {k:List It} {σ:LS} {rs:List Rv} {res:AV} {rows:List Row} (te:List (Nat × Hn)) (e:retG k rs [] σ ⟨te,[],[],[]⟩ res rows = some (res,rows,([]:List NW).map NW.es):=by kernel_rfl):Wh P (post rs res rows) k σ:=Wh_end te [] [] [] [] [] e
theorem wN {P:Program} {k:List It} {σ:LS} {rs:List Rv} {res:AV} {rows:List Row} (te:List (Nat × Hn)) (tb:List (Nat × List Hn)) (tr:List (Nat × Option Nat × Nat)) (fz:List Nat) (ks:List (Option Nat)) (nws:List NW) (e:retG k rs ks σ ⟨te,tb,tr,fz⟩ res rows = some (res,rows,nws.map NW.es):=by kernel_rfl):Wh P (post rs res rows) k σ:=Wh_end te tb tr fz ks nws e
theorem wR {P:Program} {R:Ex → St → Prop} {k:List It} {σ:LS} {α β γ:Type} {bd:α → Nat → β → (β → Option γ) → Option γ} {kk:β → Option γ} {l:List α} {b0:β} {r:γ} (σh:Nat → β → LS) (H:rgl bd kk l 0 b0 = some r)
 (hs:∀ i x b I m (nx:β → Option γ),l[i]? = some x → i < l.length → bd x i b nx = some r → (∀ b',nx b' = some r → Wg P R (.lp I m :: lpK k) (σh (i + 1) b')) → Wh P R (.l (lpX k) :: .lp I m :: lpK k) (σh i b))
 (hd:∀ b I m,kk b = some r → Wh P R (.l (lpX k) :: .lp I m :: lpK k) (σh l.length b)) (hl:isLp k = true:=by kernel_rfl) (h0:σ.gw (gD (σh 0 b0) [] [] [] []) = some (σh 0 b0):=by kernel_rfl):Wh P R k σ:=ZRa σh [] [] [] [] hl h0 H hs hd
theorem wW {P:Program} {R:Ex → St → Prop} {k:List It} {σ:LS} {β γ:Type} {bd:β → (β → Option γ) → Option γ} {b0:β} {n:Nat} {r:γ} (σh:β → LS) (H:whl bd n b0 = some r)
 (hs:∀ b I m (nx:β → Option γ),bd b nx = some r → (∀ b',nx b' = some r → Wg P R (.lp I m :: lpK k) (σh b')) → Wh P R (.l (lpX k) :: .lp I m :: lpK k) (σh b)) (hl:isLp k = true:=by kernel_rfl) (h0:σ.gw (gD (σh b0) [] [] [] []) = some (σh b0):=by kernel_rfl):Wh P R k σ:=Wh_whl σh [] [] [] [] hl h0 H hs
theorem wT {P:Program} {R:Ex → St → Prop} {k:List It} {σ:LS} {k':List It} {σ':LS} (h:Wg P R k' σ') (ek:k = k':=by kernel_rfl) (e:σ.gw (gD σ' [] [] [] []) = some σ':=by kernel_rfl):Wh P R k σ:=Wh_to h [] [] [] [] ek e
theorem wG {P:Program} {R:Ex → St → Prop} {k:List It} {σ:LS} (hs:List (HE P)) (h:lensP (hs.flatMap HE.ns) → Wh P R (goK 99 k σ hs) (goS 99 k σ hs)) (e:goE 99 k σ hs = some (hs.map HE.exp,hs.flatMap HE.ns):=by kernel_rfl):Wh P R k σ:=Wh_go 99 hs e h
theorem wP {P:Program} {R:Ex → St → Prop} {k:List It} {σ:LS} (h:Wh P R (goK 99 k σ ([]:List (HE P))) (goS 99 k σ ([]:List (HE P)))) (e:goE 99 k σ ([]:List (HE P)) = some ([],[]):=by kernel_rfl):Wh P R k σ:=Wh_go 99 [] e fun _=>h
theorem wt {P:Program} {R:Ex → St → Prop} {k:List It} {σ:LS} {b:Bool} (hb:b = true) (h1:Wh P R (cnT k) σ) (e:cnB k σ = some b:=by kernel_rfl):Wh P R k σ:=Wh_ifT hb e h1
theorem wf {P:Program} {R:Ex → St → Prop} {k:List It} {σ:LS} {b:Bool} (hb:b = false) (h1:Wh P R (cnF k) σ) (e:cnB k σ = some b:=by kernel_rfl):Wh P R k σ:=Wh_ifF hb e h1
theorem wS {P:Program} {f:FuncId} {args:List AV} {res:AV} {rows:List Row} (l:L) (rs:List Rv) (h:Wh P (post rs res rows) [.l l] (LS.arg args)) (hc:chkFn P f args.length l rs = true:=by kernel_rfl) (hrd:rdtL args = args:=by simp):Snd P f args res rows:=snd_g hc rfl hrd h
def sR (l:List LOp) (x:L):L:=.seq (.reg l) x
def gR:L:=.gw .ret
def mV (d x:Nat):LOp:=.mv d (.t x)
def lD (d x n:Nat) (b:Bool):LOp:=.ld d (.t x) n b
def fA (d x n:Nat):LOp:=.fa d (.t x) n
def iA (d x y n:Nat):LOp:=.ia d (.t x) (.t y) n
def bI (d:Nat) (o:BinOp) (x y:Nat):LOp:=.bi d o (.t x) (.t y)
def kI (n:Int):X:=.c (.int .i64 n)
def tL (l:List Nat):List X:=l.map .t
def cQ (d f:Nat) (l:List Nat):LOp:=.cq d f (tL l)
def rE (d:Nat) (x:X):L:=.reg [.mv d x]
def eX (d x i:Nat):LOp:=.ex d (.t x) i
def cB (n:Bool):X:=.c (.bool n)
end Go.Proofs.YtodafdoninblmaaGreat.Eng
