/- Arguments: what a row's reading says of them, as rows that nobody writes. Of no program. -/
import Derived.Test.YtoafojcfledkcaaDoorOwn
import Derived.Deep.DeepHandedRow
import Derived.ProofKit
import Derived.SizedLaws
import Derived.OpenShut
namespace Go.Proofs.YtoafojcfledkcaaDoor
open Go.RowKit
set_option linter.all false
/-- All that a world holds. -/
def wI (W : World) : Imm := fun a => match a.spot with | none => W.cell? a | some _ => match W.heap[a.block]? with | some (.cells arr _ _) => some (.agg arr) | _ => none
theorem wI_holds (W : World) : Holds (wI W) W := fun a v h => by
  unfold wI at h
  unfold seen
  split at h
  · next hs => rw [hs]; exact h
  · next hs =>
    rw [hs]
    split at h
    · next arr T fr hh => exact ⟨arr, T, fr, (Option.some.inj h).symm, hh⟩
    · cases h
theorem wI_st (W : World) : St (wI W) [] W := ⟨wI_holds W, by simp, by simp [ats], fun b hb => by simp [ats] at hb⟩
section
variable {H : Type} {enc : TypeId × Value → H} {P : Program} {W : World}
def okW (P : Program) (t : TypeId) (d : DataW H) : Prop := ∀ n ∈ d.weights P t, n ≤ reachBytes
theorem okW_agg {t u : TypeId} {fs : Array Field} {parts : List (DataW H)} {i : Nat} {d : DataW H} (ht : P.underlying t = some (.struct fs)) (h : okW P t (.agg parts)) (hu : (fs.toList.map (·.type))[i]? = some u) (hd : parts[i]? = some d) : okW P u d := fun n hn => h n (by
  simp only [DataW.weights, ht]
  exact DataW.weights_mem_each hu hd n hn)
theorem mem_weightsAll {e : TypeId} : ∀ {l : List (DataW H)} {d : DataW H} {n : Nat}, d ∈ l → n ∈ d.weights P e → n ∈ DataW.weightsAll P e l
  | d :: r, x, n, hx, hn => by
    simp only [DataW.weightsAll, List.mem_append]
    rcases List.mem_cons.1 hx with rfl | hx
    · exact .inl hn
    · exact .inr (mem_weightsAll hx hn)
theorem okW_each {ts : List TypeId} {ds : List (DataW H)} (h : (DataW.weightsEach P ts ds).all (· ≤ reachBytes) = true) {j : Nat} {t : TypeId} {d : DataW H} (ht : ts[j]? = some t) (hd : ds[j]? = some d) : okW P t d := fun n hn => by
  have := List.all_eq_true.1 h _ (DataW.weights_mem_each ht hd n hn)
  simpa using this
theorem trod_int {n : Nat} {t : TypeId} {k : IntKind} {cs : List Value} {x : DataW H × List MemPlace} (ht : P.underlying t = some (.int k)) (h : DataW.trod enc P W 0 (fun _ => true) true n t cs = some x) : ∃ m, cs = [.int k m] ∧ (Lit.int k m).wf = true := by
  cases n with
  | zero => simp [DataW.trod] at h
  | succ n =>
    unfold DataW.trod at h
    rw [ht] at h
    split at h <;> simp_all
theorem trod_bool {n : Nat} {t : TypeId} {cs : List Value} {x : DataW H × List MemPlace} (ht : P.underlying t = some .bool) (h : DataW.trod enc P W 0 (fun _ => true) true n t cs = some x) : ∃ b, cs = [.bool b] := by
  cases n with
  | zero => simp [DataW.trod] at h
  | succ n =>
    unfold DataW.trod at h
    rw [ht] at h
    split at h <;> simp_all
theorem trod_str {n : Nat} {t : TypeId} {cs : List Value} {x : DataW H × List MemPlace} (ht : P.underlying t = some .string) (h : DataW.trod enc P W 0 (fun _ => true) true n t cs = some x) (ho : okW P t x.1) : ∃ s, cs = [.string s] ∧ s.size ≤ 140737488351232 := by
  cases n with
  | zero => simp [DataW.trod] at h
  | succ n =>
    unfold DataW.trod at h
    rw [ht] at h
    split at h <;> simp_all
    obtain ⟨_, rfl⟩ := h
    have := ho _ (by simp [DataW.weights]; rfl)
    simp only [reachBytes, Array.length_toList] at this
    exact this
theorem fieldT {n i o c : Nat} {t : TypeId} {fs : Array Field} {cs : List Value} {xs : List (DataW H × List MemPlace)} {y : DataW H × List MemPlace} (hf : ∀ (i : Nat) (f : Field), fs[i]? = some f → DataW.trod enc P W 0 (fun _ => true) true n f.type ((cs.drop f.offset).take (P.cellsOf f.type)) = xs[i]?)
    (hi : (fs[i]?).map (fun f => (f.type, f.offset, P.cellsOf f.type)) = some (t, o, c)) (hx : xs[i]? = some y) : DataW.trod enc P W 0 (fun _ => true) true n t ((cs.drop o).take c) = some y := by
  obtain ⟨f, h1, h2⟩ := Option.map_eq_some_iff.1 hi
  simp only [Prod.mk.injEq] at h2
  obtain ⟨rfl, rfl, rfl⟩ := h2
  rw [hf i f h1, hx]
theorem choose_list {α β : Type} {p : Nat → α → β → Prop} : ∀ (n : Nat), (∀ i, i < n → ∃ a b, p i a b) → ∃ (l : List α) (m : List β), l.length = n ∧ m.length = n ∧ ∀ i (h : i < l.length) (h' : i < m.length), p i (l[i]) (m[i])
  | 0, _ => ⟨[], [], rfl, rfl, fun i h => by simp at h⟩
  | n + 1, h => by
    obtain ⟨l, m, h1, h2, h3⟩ := choose_list n (fun i hi => h i (by omega))
    obtain ⟨a, b, hab⟩ := h n (by omega)
    refine ⟨l ++ [a], m ++ [b], by simp [h1], by simp [h2], fun i hi hi' => ?_⟩
    rcases Nat.lt_or_ge i n with hlt | hge
    · rw [List.getElem_append_left (by omega), List.getElem_append_left (by omega)]
      exact h3 i _ _
    · have : i = n := by simp at hi; omega
      subst this
      rw [List.getElem_append_right (by omega), List.getElem_append_right (by omega)]
      simpa [h1, h2] using hab
theorem len1 {α : Type} : ∀ {l : List α}, l.length = 1 → ∃ a0, l = [a0]
  | [a0], _ => ⟨a0, rfl⟩
theorem len2 {α : Type} : ∀ {l : List α}, l.length = 2 → ∃ a0 a1, l = [a0, a1]
  | [a0, a1], _ => ⟨a0, a1, rfl⟩
theorem len3 {α : Type} : ∀ {l : List α}, l.length = 3 → ∃ a0 a1 a2, l = [a0, a1, a2]
  | [a0, a1, a2], _ => ⟨a0, a1, a2, rfl⟩
theorem len4 {α : Type} : ∀ {l : List α}, l.length = 4 → ∃ a0 a1 a2 a3, l = [a0, a1, a2, a3]
  | [a0, a1, a2, a3], _ => ⟨a0, a1, a2, a3, rfl⟩
theorem len5 {α : Type} : ∀ {l : List α}, l.length = 5 → ∃ a0 a1 a2 a3 a4, l = [a0, a1, a2, a3, a4]
  | [a0, a1, a2, a3, a4], _ => ⟨a0, a1, a2, a3, a4, rfl⟩
theorem len6 {α : Type} : ∀ {l : List α}, l.length = 6 → ∃ a0 a1 a2 a3 a4 a5, l = [a0, a1, a2, a3, a4, a5]
  | [a0, a1, a2, a3, a4, a5], _ => ⟨a0, a1, a2, a3, a4, a5, rfl⟩
theorem len7 {α : Type} : ∀ {l : List α}, l.length = 7 → ∃ a0 a1 a2 a3 a4 a5 a6, l = [a0, a1, a2, a3, a4, a5, a6]
  | [a0, a1, a2, a3, a4, a5, a6], _ => ⟨a0, a1, a2, a3, a4, a5, a6, rfl⟩
theorem len8 {α : Type} : ∀ {l : List α}, l.length = 8 → ∃ a0 a1 a2 a3 a4 a5 a6 a7, l = [a0, a1, a2, a3, a4, a5, a6, a7]
  | [a0, a1, a2, a3, a4, a5, a6, a7], _ => ⟨a0, a1, a2, a3, a4, a5, a6, a7, rfl⟩
theorem len9 {α : Type} : ∀ {l : List α}, l.length = 9 → ∃ a0 a1 a2 a3 a4 a5 a6 a7 a8, l = [a0, a1, a2, a3, a4, a5, a6, a7, a8]
  | [a0, a1, a2, a3, a4, a5, a6, a7, a8], _ => ⟨a0, a1, a2, a3, a4, a5, a6, a7, a8, rfl⟩
theorem len10 {α : Type} : ∀ {l : List α}, l.length = 10 → ∃ a0 a1 a2 a3 a4 a5 a6 a7 a8 a9, l = [a0, a1, a2, a3, a4, a5, a6, a7, a8, a9]
  | [a0, a1, a2, a3, a4, a5, a6, a7, a8, a9], _ => ⟨a0, a1, a2, a3, a4, a5, a6, a7, a8, a9, rfl⟩
theorem len11 {α : Type} : ∀ {l : List α}, l.length = 11 → ∃ a0 a1 a2 a3 a4 a5 a6 a7 a8 a9 a10, l = [a0, a1, a2, a3, a4, a5, a6, a7, a8, a9, a10]
  | [a0, a1, a2, a3, a4, a5, a6, a7, a8, a9, a10], _ => ⟨a0, a1, a2, a3, a4, a5, a6, a7, a8, a9, a10, rfl⟩
/-- A slice that came in. -/
theorem open_row {α : Type} {R : Rel α} {Wf : α → Prop} {sz by_ n : Nat} {t e : TypeId} {cs : List Value} {x : DataW H × List MemPlace} (ht : P.underlying t = some (.slice e)) (hc : P.cellsOf e = sz) (hb : P.bytesOf e = by_) (hsz : 0 < sz) (hRl : ∀ I g cs, R I g cs → cs.length = sz)
    (rec : ∀ k, k < n → ∀ cs x, DataW.trod enc P W 0 (fun _ => true) true k e cs = some x → okW P e x.1 → ∃ g, R (wI W) g cs ∧ Wf g)
    (h : DataW.trod enc P W 0 (fun _ => true) true n t cs = some x) (ho : okW P t x.1) : ∃ (A : Option Addr) (l : List α) (c : Nat), cs = [.slice A l.length c] ∧ RowsG R sz by_ (wI W) A l ∧ l.length ≤ c ∧ ∀ g ∈ l, Wf g := by
  rcases DataW.trod_slice ht h with ⟨h1, h2⟩ | ⟨a, len, cap, elems, rest, k, rfl, rfl, rfl, _, hl, hm, hlen, hel, _, _⟩
  · exact ⟨none, [], 0, h1, RowsG.nil _ _ _ _ _, Nat.le_refl _, by simp⟩
  · have hbd : (elems.length + rest.length) * by_ ≤ 140737488351232 := by
      have := ho ((elems.length + rest.length) * P.bytesOf e) (by simp [DataW.weights, ht])
      rwa [hb] at this
    have hone : ∀ i, i < len → ∃ g cs', R (wI W) g cs' ∧ Wf g ∧ W.cells? 0 (a.add (i * sz)) sz = some cs' := fun i hi => by
      have h1 := hel i hi
      rw [List.getElem?_eq_getElem (by omega)] at h1
      obtain ⟨cs', h2, h3⟩ := Option.bind_eq_some_iff.1 h1
      rw [hc] at h2
      obtain ⟨g, hR, hW⟩ := rec k (by omega) cs' _ h3 (fun m hm => ho m (by
        simp only [DataW.weights, ht, List.mem_cons, List.mem_append]
        exact .inr (.inl (mem_weightsAll (List.mem_map_of_mem (List.getElem_mem _)) hm))))
      exact ⟨g, cs', hR, hW, h2⟩
    obtain ⟨l, css, h1, h2, h3⟩ := choose_list (p := fun i g cs' => R (wI W) g cs' ∧ Wf g ∧ W.cells? 0 (a.add (i * sz)) sz = some cs') len hone
    refine ⟨some a, l, cap, by rw [h1], ⟨css, ⟨by rw [h1, h2], Nat.le_trans (Nat.mul_le_mul_right _ (by omega)) hbd, fun c hcm => ?_, fun hn => ?_⟩, fun i a b => (h3 i a b).1⟩, by omega, fun g hg => ?_⟩
    · obtain ⟨i, hi, rfl⟩ := List.getElem_of_mem hcm
      exact hRl _ _ _ (h3 i (by omega) hi).1
    · have hcell : ∀ i, i < len → ∀ j, j < sz → W.cell? ((a.add (i * sz)).add j) = (css[i]?.getD [])[j]? := fun i hi j hj => by
        have h4 := (World.cells?_some (h3 i (by omega) (by omega)).2.2).2.2 j hj
        rw [h4, List.getElem?_eq_getElem (show i < css.length by omega)]
        rfl
      have hspot : a.spot = none := by
        have h5 := (World.cells?_some (h3 0 (by omega) (by omega)).2.2)
        have h7 := hRl _ _ _ (h3 0 (by omega) (by omega)).1
        have h6 := h5.2.2 0 hsz
        rw [List.getElem?_eq_getElem (by omega)] at h6
        simpa [Addr.add] using World.cell?_spot h6
      obtain ⟨b, off, spot⟩ := a
      simp only at hspot
      subst hspot
      refine ⟨b, off, rfl, fun i j c v hi hj => ?_⟩
      have hil : i < css.length := (List.getElem?_eq_some_iff.1 hi).1
      have hcl : c.length = sz := by
        obtain ⟨_, rfl⟩ := List.getElem?_eq_some_iff.1 hi
        exact hRl _ _ _ (h3 i (by omega) hil).1
      have hjl : j < sz := by rw [← hcl]; exact (List.getElem?_eq_some_iff.1 hj).1
      have := hcell i (by omega) j hjl
      rw [add_at, add_at, hi] at this
      show W.cell? ⟨b, off + (i * sz + j), none⟩ = some v
      rw [← Nat.add_assoc, this]
      exact hj
    · obtain ⟨i, hi, rfl⟩ := List.getElem_of_mem hg
      exact (h3 i hi (by omega)).2.1
end
end Go.Proofs.YtoafojcfledkcaaDoor
