/- Rows: those that nobody writes, and a call's own. Of no program. -/
import Derived.Test.YtoafojcfledkcaaDoorOps
namespace Go.Proofs.YtoafojcfledkcaaDoor
open Go.RowKit
set_option linter.all false

structure Sl (I : Imm) (sz by_ : Nat) (A : Option Addr) (n : Nat) (css : List (List Value)) : Prop where
  len : css.length = n
  bound : n * by_ ≤ 140737488351232
  each : ∀ c ∈ css, c.length = sz
  cells : 0 < n → ∃ b off, A = some ⟨b, off, none⟩ ∧ ∀ i j c v, css[i]? = some c → c[j]? = some v → I ⟨b, off + (i * sz + j), none⟩ = some v
theorem Sl.mono {I J : Imm} {sz by_ n : Nat} {A : Option Addr} {css : List (List Value)} (h : Sl I sz by_ A n css) (hl : Imm.le I J) : Sl J sz by_ A n css :=
  ⟨h.len, h.bound, h.each, fun hn => by
    obtain ⟨b, off, e, hc⟩ := h.cells hn
    exact ⟨b, off, e, fun i j c v h1 h2 => hl _ _ (hc i j c v h1 h2)⟩⟩
theorem Sl.nil (I : Imm) (sz by_ : Nat) (A : Option Addr) : Sl I sz by_ A 0 [] := ⟨rfl, by simp, by simp, fun h => absurd h (by omega)⟩
/-- An element. -/
def rd {α : Type} [Inhabited α] (l : List α) (i : Int) : α := l.getD i.toNat default
/-- Rows of elements, of which R says what their cells are. -/
abbrev Rel (α : Type) := Imm → α → List Value → Prop
def Mono {α : Type} (R : Rel α) : Prop := ∀ (I J : Imm) (x : α) (cs : List Value), Imm.le I J → R I x cs → R J x cs
def RowsG {α : Type} (R : Rel α) (sz by_ : Nat) (J : Imm) (A : Option Addr) (l : List α) : Prop := ∃ css, Sl J sz by_ A l.length css ∧ ∀ i (h : i < l.length) (h' : i < css.length), R J (l[i]) (css[i])
section
variable {α : Type} {R : Rel α} {sz by_ : Nat} {I J : Imm} {A : Option Addr} {l : List α}
theorem RowsG.nil (R : Rel α) (sz by_ : Nat) (J : Imm) (A : Option Addr) : RowsG R sz by_ J A [] := ⟨[], Sl.nil J sz by_ A, fun i h => absurd h (by simp)⟩
theorem RowsG.mono (hR : Mono R) (h : RowsG R sz by_ I A l) (hl : Imm.le I J) : RowsG R sz by_ J A l := by
  obtain ⟨css, h1, h2⟩ := h
  exact ⟨css, h1.mono hl, fun i a b => hR _ _ _ _ hl (h2 i a b)⟩
theorem RowsG.len (h : RowsG R sz by_ J A l) : l.length * by_ ≤ 140737488351232 := by
  obtain ⟨css, h1, _⟩ := h
  exact h1.bound
theorem RowsG.elem [Inhabited α] (h : RowsG R sz by_ J A l) (h0 : 0 < l.length) : ∃ b o, A = some ⟨b, o, none⟩ ∧ ∀ j : Int, 0 ≤ j → j < (l.length : Int) → ∃ cs, R J (rd l j) cs ∧ ICs J b (o + j.toNat * sz) cs := by
  obtain ⟨css, hs, hk⟩ := h
  obtain ⟨b, o, hA, hc⟩ := hs.cells h0
  refine ⟨b, o, hA, fun j h1 h2 => ?_⟩
  have hj : j.toNat < l.length := by omega
  have hj' : j.toNat < css.length := by rw [hs.len]; exact hj
  have e : rd l j = l[j.toNat] := by unfold rd; rw [List.getD_eq_getElem?_getD, List.getElem?_eq_getElem hj]; rfl
  refine ⟨css[j.toNat], e ▸ hk j.toNat hj hj', fun q v hq => ?_⟩
  have := hc j.toNat q _ v (List.getElem?_eq_getElem hj') hq
  rwa [← Nat.add_assoc] at this
/-- A part of it. -/
def sub (l : List α) (lo hi : Int) : List α := (l.take hi.toNat).drop lo.toNat
theorem sub_length {l : List α} {lo hi : Int} (h0 : 0 ≤ lo) (h1 : lo ≤ hi) (h2 : hi ≤ (l.length : Int)) : (sub l lo hi).length = hi.toNat - lo.toNat := by
  unfold sub; simp; omega
theorem RowsG.sub (h : RowsG R sz by_ J A l) {lo hi : Int} {c : Nat} (h0 : 0 ≤ lo) (h1 : lo ≤ hi) (h2 : hi ≤ (l.length : Int)) (hc : l.length ≤ c) :
    RowsG R sz by_ J (if c = lo.toNat then A else A.map (·.add (lo.toNat * sz))) (sub l lo hi) := by
  obtain ⟨css, hs, hk⟩ := h
  have hl := sub_length h0 h1 h2
  refine ⟨(css.take hi.toNat).drop lo.toNat, ⟨by rw [hl]; simp [hs.len]; omega, ?_, fun c hc => hs.each c (List.mem_of_mem_take (List.mem_of_mem_drop hc)), fun hn => ?_⟩, fun i a b => ?_⟩
  · exact Nat.le_trans (Nat.mul_le_mul_right _ (by rw [hl]; omega)) hs.bound
  · obtain ⟨b, o, rfl, hc'⟩ := hs.cells (by omega)
    rw [if_neg (by omega)]
    refine ⟨b, o + lo.toNat * sz, by simp [add_at], fun i j cs v e1 e2 => ?_⟩
    rw [List.getElem?_drop, List.getElem?_take] at e1
    split at e1
    · have := hc' (lo.toNat + i) j cs v e1 e2
      rw [Nat.add_mul, Nat.add_assoc (lo.toNat * sz), ← Nat.add_assoc] at this
      exact this
    · cases e1
  · have := hk (lo.toNat + i) (by rw [hl] at a; omega) (by rw [hs.len]; rw [hl] at a; omega)
    simpa [Go.Proofs.YtoafojcfledkcaaDoor.sub] using this
/-! ## Own rows -/
/-- The cells of a row's elements. -/
structure OwnR (R : Rel α) (sz : Nat) (J : Imm) (l : List α) (css : List (List Value)) : Prop where
  len : css.length = l.length
  each : ∀ i (h : i < l.length) (h' : i < css.length), R J (l[i]) (css[i])
  sz : ∀ c ∈ css, c.length = sz
theorem OwnR.nil (R : Rel α) (sz : Nat) (J : Imm) : OwnR R sz J [] [] := ⟨rfl, fun i h => absurd h (by simp), by simp⟩
theorem OwnR.mono (hR : Mono R) {css : List (List Value)} (h : OwnR R sz I l css) (hl : Imm.le I J) : OwnR R sz J l css := ⟨h.len, fun i a b => hR _ _ _ _ hl (h.each i a b), h.sz⟩
theorem OwnR.append {m : List α} {css dss : List (List Value)} (h : OwnR R sz J l css) (k : OwnR R sz J m dss) : OwnR R sz J (l ++ m) (css ++ dss) := by
  refine ⟨by simp [h.len, k.len], fun i a b => ?_, fun c hc => ?_⟩
  · rcases Nat.lt_or_ge i l.length with hi | hi
    · rw [List.getElem_append_left hi, List.getElem_append_left (by rw [h.len]; exact hi)]
      exact h.each i hi (by rw [h.len]; exact hi)
    · rw [List.getElem_append_right hi, List.getElem_append_right (by rw [h.len]; exact hi)]
      have e : i - css.length = i - l.length := by rw [h.len]
      simp only [e]
      exact k.each (i - l.length) (by simp at a; omega) (by simp at a; rw [k.len]; omega)
  · rcases List.mem_append.1 hc with hc | hc
    · exact h.sz c hc
    · exact k.sz c hc
theorem OwnR.one {x : α} {cs : List Value} (h : R J x cs) (hs : cs.length = sz) : OwnR R sz J [x] [cs] := by
  refine ⟨rfl, fun i a b => ?_, by simpa using hs⟩
  have : i = 0 := by simpa using a
  subst this; exact h
theorem OwnR.cons {x : α} {cs : List Value} {css : List (List Value)} (h : R J x cs) (hs : cs.length = sz) (k : OwnR R sz J l css) : OwnR R sz J (x :: l) (cs :: css) := (OwnR.one h hs).append k
theorem OwnR.set {css : List (List Value)} (h : OwnR R sz J l css) {x : α} {cs : List Value} (hx : R J x cs) (hs : cs.length = sz) (i : Nat) : OwnR R sz J (l.set i x) (css.set i cs) := by
  refine ⟨by simp [h.len], fun k a b => ?_, fun c hc => ?_⟩
  · by_cases hik : i = k
    · subst hik; simpa using hx
    · simp only [List.getElem_set_ne hik]
      exact h.each k (by simpa using a) (by simpa using b)
  · rcases List.mem_or_eq_of_mem_set hc with hc | rfl
    · exact h.sz c hc
    · exact hs
theorem OwnR.rep {x : α} {cs : List Value} (h : R J x cs) (hs : cs.length = sz) (n : Nat) : OwnR R sz J (List.replicate n x) (List.replicate n cs) :=
  ⟨by simp, fun i a b => by simpa using h, fun c hc => by rw [(List.mem_replicate.1 hc).2]; exact hs⟩
theorem flatten_get : ∀ (css : List (List Value)) (i j : Nat) (c : List Value) (v : Value), (∀ c ∈ css, c.length = sz) → css[i]? = some c → c[j]? = some v → css.flatten[i * sz + j]? = some v
  | [], i, j, c, v, _, h1, _ => by simp at h1
  | d :: css, 0, j, c, v, hl, h1, h2 => by
    simp at h1
    subst h1
    have : j < d.length := (List.getElem?_eq_some_iff.1 h2).1
    simp [List.getElem?_append_left this, h2]
  | d :: css, i + 1, j, c, v, hl, h1, h2 => by
    have hd : d.length = sz := hl d (by simp)
    have := flatten_get css i j c v (fun c hc => hl c (by simp [hc])) (by simpa using h1) h2
    rw [List.flatten_cons, List.getElem?_append_right (by rw [hd, Nat.succ_mul]; omega), ← this]
    congr 1
    rw [hd, Nat.succ_mul]
    omega
theorem flatten_len : ∀ (css : List (List Value)), (∀ c ∈ css, c.length = sz) → css.flatten.length = css.length * sz
  | [], _ => by simp
  | d :: css, h => by
    rw [List.flatten_cons, List.length_append, flatten_len css (fun c hc => h c (by simp [hc])), h d (by simp), List.length_cons, Nat.succ_mul]
    omega
theorem OwnR.flat {css : List (List Value)} (h : OwnR R sz J l css) : css.flatten.length = l.length * sz := by rw [flatten_len css h.sz, h.len]
/-- What the words of an own row say: nil, or room for c elements. -/
structure OV (by_ : Nat) (A : Option Addr) (n c : Nat) : Prop where
  nil : A = none → n = 0 ∧ c = 0
  le : n ≤ c
  max : c ≤ maxLen
  bound : n * by_ ≤ 140737488351232
theorem OV.none (by_ : Nat) : OV by_ none 0 0 := ⟨fun _ => ⟨rfl, rfl⟩, Nat.le_refl _, Nat.zero_le _, by simp⟩
/-- One element of an own row. -/
theorem OwnR.elem [Inhabited α] {css : List (List Value)} (h : OwnR R sz J l css) {j : Int} (h0 : 0 ≤ j) (h1 : j < (l.length : Int)) : ∃ cs, R J (rd l j) cs ∧ cs.length = sz ∧ css[j.toNat]? = some cs ∧ (∀ q v, cs[q]? = some v → css.flatten[j.toNat * sz + q]? = some v) := by
  have hj : j.toNat < l.length := by omega
  have hj' : j.toNat < css.length := by rw [h.len]; exact hj
  have e : rd l j = l[j.toNat] := by unfold rd; rw [List.getD_eq_getElem?_getD, List.getElem?_eq_getElem hj]; rfl
  exact ⟨css[j.toNat], e ▸ h.each _ hj hj', h.sz _ (List.getElem_mem _), List.getElem?_eq_getElem hj', fun q v hq => flatten_get css j.toNat q _ v h.sz (List.getElem?_eq_getElem hj') hq⟩
/-- A block of which the first cells are known from now on. -/
def addI (J : Imm) (g : Nat) (cs : List Value) : Imm := fun a => if a.block = g ∧ a.spot = none then cs[a.off]? else J a
theorem Ext.seal {O0 O : List Ent} {w W : World} {e : TypeId} {m g : Nat} {cs : List Value} {x : Ent} (hx : x.bs = [g]) (hB : x.ok W → Blk W g e cs m) (h : Ext I O0 w J (x :: O) W) :
    Imm.le J (addI J g cs) ∧ Ext I O0 w (addI J g cs) O W := by
  have hgm : g ∈ ats (x :: O) := mem_ats.2 ⟨x, List.mem_cons_self, by simp [hx]⟩
  have hoff := h.st.off g hgm
  have hblk := hB (h.st.ents x List.mem_cons_self)
  have hle : Imm.le J (addI J g cs) := fun a v hv => by
    unfold addI
    rw [if_neg (fun hc => hoff a v hv hc.1)]; exact hv
  have hdom : ∀ a v, addI J g cs a = some v → J a = some v ∨ a.block = g := fun a v hv => by
    unfold addI at hv
    split at hv
    · next hc => exact .inr hc.1
    · exact .inl hv
  have hg : g ∉ ats O := by
    have := h.st.nodup
    simp only [ats, List.flatMap_cons, hx] at this
    exact (List.nodup_append.1 this).2.2 g (by simp) g |> fun k hm => k hm rfl
  refine ⟨hle, h.le.trans hle, ⟨fun a v hv => ?_, fun y hy => h.st.ents y (List.mem_cons_of_mem _ hy), (h.st.sub (List.sublist_cons_self _ _)).nodup, fun b hb a v hv => ?_⟩, h.up, fun a v hv => ?_, fun b hb => h.sub b ((ats_sub (List.sublist_cons_self _ _)).subset hb)⟩
  · unfold addI at hv
    split at hv
    · next hc =>
      have := hblk.cell hv
      obtain ⟨b, o, s⟩ := a
      simp only at hc this
      rw [hc.1, hc.2]
      exact this
    · exact h.st.holds a v hv
  · rcases hdom a v hv with h1 | h1
    · exact h.st.off b ((ats_sub (List.sublist_cons_self _ _)).subset hb) a v h1
    · intro e; exact hg (by rw [← h1, e]; exact hb)
  · rcases hdom a v hv with h1 | h1
    · exact h.dom a v h1
    · rcases h.sub g hgm with h2 | h2
      · exact .inr (.inr (h1 ▸ h2))
      · exact .inr (.inl (h1 ▸ h2))
theorem rows_addI (hR : Mono R) {g : Nat} {css : List (List Value)} (hle : Imm.le J (addI J g css.flatten)) (hO : OwnR R sz J l css) (hb : l.length * by_ ≤ 140737488351232) : RowsG R sz by_ (addI J g css.flatten) (some ⟨g, 0, none⟩) l :=
  ⟨css, ⟨hO.len, hb, hO.sz, fun hn => ⟨g, 0, rfl, fun i j c v a b => by
    unfold addI
    rw [if_pos ⟨rfl, rfl⟩]
    show css.flatten[0 + (i * sz + j)]? = some v
    rw [Nat.zero_add]
    exact flatten_get css i j c v hO.sz a b⟩⟩, fun i a b => hR _ _ _ _ hle (hO.each i a b)⟩
/-- Nobody writes it any more. -/
theorem Ext.freeze {O0 O : List Ent} {w W : World} {e : TypeId} {m c : Nat} {css : List (List Value)} (hR : Mono R) (h : Ext I O0 w J (.row A e css.flatten m :: O) W) (hO : OwnR R sz J l css) (hv : OV by_ A l.length c) :
    ∃ K, Imm.le J K ∧ Ext I O0 w K O W ∧ RowsG R sz by_ K A l := by
  have hb := hv.bound
  cases A with
  | none =>
    have := (hv.nil rfl).1
    exact ⟨J, Imm.rfl' _, h.drop (List.sublist_cons_self _ _), css, ⟨hO.len, hb, hO.sz, fun hn => by omega⟩, hO.each⟩
  | some a =>
    have hok : a = ⟨a.block, 0, none⟩ ∧ Blk W a.block e css.flatten m := h.st.ents (.row (some a) e css.flatten m) List.mem_cons_self
    obtain ⟨hle, hE⟩ := Ext.seal (W := W) (x := .row (some a) e css.flatten m) (g := a.block) (e := e) (m := m) (cs := css.flatten) rfl (fun hx => (show a = ⟨a.block, 0, none⟩ ∧ Blk W a.block e css.flatten m from hx).2) h
    refine ⟨_, hle, hE, ?_⟩
    have := rows_addI (by_ := by_) hR hle hO hb
    rw [hok.1]
    exact this
/-- A block that was built, likewise. -/
theorem Ext.freezeB {O0 O : List Ent} {w W : World} {e : TypeId} {m b : Nat} {cs : List Value} {css : List (List Value)} (hR : Mono R) (h : Ext I O0 w J (.cells b e cs m :: O) W) (hf : css.flatten = cs) (hO : OwnR R sz J l css) (hb : l.length * by_ ≤ 140737488351232) :
    ∃ K, Imm.le J K ∧ Ext I O0 w K O W ∧ RowsG R sz by_ K (some ⟨b, 0, none⟩) l := by
  subst hf
  obtain ⟨hle, hE⟩ := Ext.seal (W := W) (x := .cells b e css.flatten m) (g := b) (e := e) (m := m) (cs := css.flatten) rfl (fun hx => (show Blk W b e css.flatten m from hx)) h
  exact ⟨_, hle, hE, rows_addI hR hle hO hb⟩
/-- A block that was built, as a row. -/
theorem Ent.ok.toRow {b m : Nat} {e : TypeId} {cs : List Value} {W : World} (h : (Ent.cells b e cs m).ok W) : (Ent.row (some ⟨b, 0, none⟩) e cs m).ok W := ⟨rfl, h⟩
theorem Ext.toRow {O0 O : List Ent} {w W : World} {b m : Nat} {e : TypeId} {cs : List Value} (h : Ext I O0 w J (.cells b e cs m :: O) W) : Ext I O0 w J (.row (some ⟨b, 0, none⟩) e cs m :: O) W :=
  h.turn (L := []) (fun k => k.turn rfl (Ent.ok.toRow (k.ents _ (by simp))) (Up.refl _ _))
/-- Known of less: behind a call that was lent something. -/
theorem Ext.less {K : Imm} {O O' : List Ent} {w w' : World} (h : Ext K O w K O' w') (hl : Imm.le J K) : Ext J O w J O' w' :=
  ⟨Imm.rfl' _, ⟨fun a v e => h.st.holds a v (hl a v e), h.st.ents, h.st.nodup, fun b hb a v e => h.st.off b hb a v (hl a v e)⟩, h.up, fun _ _ e => .inl e, h.sub⟩
theorem St.less {K : Imm} {O : List Ent} {w : World} (h : St K O w) (hl : Imm.le J K) : St J O w := ⟨fun a v e => h.holds a v (hl a v e), h.ents, h.nodup, fun b hb a v e => h.off b hb a v (hl a v e)⟩
/-! ## Appending -/
theorem Blk.owns {W : World} {g c : Nat} {e : TypeId} {css : List (List Value)} (hO : OwnR R sz J l css) (hv : OV by_ (some ⟨g, 0, none⟩) l.length c) (h : Blk W g e css.flatten (c * sz)) : W.ownsRow 0 e sz (.slice (some ⟨g, 0, none⟩) l.length c) l.length css.flatten := by
  obtain ⟨arr, h1, h2, junk, h3⟩ := h
  refine ⟨hO.flat, .inr ⟨g, c, arr, rfl, Nat.zero_le _, h1, hv.le, hv.max, h2, ?_⟩⟩
  rw [h3, ← hO.flat, List.take_left']
  rfl
theorem owns_blk {W : World} {g c n : Nat} {e : TypeId} {xs : List Value} (hb : n * by_ ≤ 140737488351232) (h : W.ownsRow 0 e sz (.slice (some ⟨g, 0, none⟩) n c) n xs) : Blk W g e xs (c * sz) ∧ OV by_ (some ⟨g, 0, none⟩) n c := by
  rcases h.2 with ⟨hb, _⟩ | ⟨g', cap, cur, hv, _, hg, hn, hm, hs, ht⟩
  · simp at hb
  · simp only [Value.slice.injEq, Option.some.injEq, Addr.mk.injEq] at hv
    obtain ⟨⟨rfl, _⟩, _, rfl⟩ := hv
    exact ⟨⟨cur, hg, hs, cur.toList.drop (n * sz), by rw [← ht, List.take_append_drop]⟩, fun h => (by cases h), hn, hm, hb⟩
end
end Go.Proofs.YtoafojcfledkcaaDoor
