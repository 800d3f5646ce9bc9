/- Appending, stores into rows, regions that draw their order. Of no program. -/
import Derived.Test.YtoafojcfledkcaaDoorRowz
import Derived.Great.BuildSlice
namespace Go.Proofs.YtoafojcfledkcaaDoor
open Go.RowKit
set_option linter.all false

/-- An append: the old row is written behind its end, or nothing old is written. -/
theorem run_append_g {P : Program} (w : World) (t ty : TypeId) (base : Nat) (e : TypeId) (i : TypeInfo) (z : Value) (size bytes : Nat) (ht : P.underlying t = some (.slice e)) (hi : P.info? e = some i) (hz : i.zero = some z)
    (hsize : i.size = size) (hby : i.bytes = bytes) (hzs : z.cells.size = size) (hsz : 0 < size)
    (A : Option Addr) (n k : Nat) (xs : List Value) (hown : w.ownsRow base e size (.slice A n k) n xs)
    (ad : Addr) (m c : Nat) (news : List Value) (hl : news.length = m * size) (hnews : ∀ j u, news[j]? = some u → w.cell? (ad.add j) = some u) (h1 : ∀ u ∈ news, u.oneCell' = true)
    (hm : 0 < m) (h63 : n + m ≤ maxLen) (hbytes : (n + m) * bytes ≤ 140737488355328) (hbase : base ≤ w.heap.size) :
    ∃ g cap w', (Builtin.append_ #[t, t] ty #[.slice A n k, .slice (some ad) m c]).run P w = .ok (.slice (some ⟨g, 0, none⟩) (n + m) cap) w' ∧
      w'.ownsRow base e size (.slice (some ⟨g, 0, none⟩) (n + m) cap) (n + m) (xs ++ news) ∧ w.grownBy w' (some g) ∧ (A = some ⟨g, 0, none⟩ ∨ w.heap.size ≤ g) ∧ g < w'.heap.size := by
  by_cases hk : n + m ≤ k
  · rcases hown.2 with ⟨hb, hn⟩ | ⟨g, cap, cur, hv, hbg, hg, hnc, hcm, hcs, htake⟩
    · simp only [Value.slice.injEq] at hb
      omega
    · simp only [Value.slice.injEq] at hv
      obtain ⟨rfl, _, rfl⟩ := hv
      obtain ⟨g', cap', w', hr, h2, h3, h4, h5⟩ := run_append_lies (P := P) w t ty base e i z size bytes ht hi hz hsize hby hzs hsz _ n xs hown ad m c news hl hnews h1 hm h63 hbytes hbase _ rfl
      have hroom := run_append_room (P := P) w t ty e i ht hi g n k cur hg ad m c news (by rw [hsize]; exact hl) hnews h1 hk (by rw [hl, hcs, hsize, ← Nat.add_mul]; exact Nat.mul_le_mul_right _ hk)
      rw [hr] at hroom
      simp only [Result.ok.injEq, Value.slice.injEq, Option.some.injEq, Addr.mk.injEq] at hroom
      obtain ⟨⟨⟨rfl, _⟩, _⟩, _⟩ := hroom
      exact ⟨_, _, _, hr, h2, h3, .inl rfl, h5⟩
  · have hgrow : ∃ v' w', (Builtin.append_ #[t, t] ty #[.slice A n k, .slice (some ad) m c]).run P w = .ok v' w' ∧ w'.ownsRow w.heap.size e size v' (n + m) (xs ++ news) ∧ w.grownBy w' none := by
      rcases hown.2 with ⟨hb, hn⟩ | ⟨g, cap, cur, hv, hbg, hg, hnc, hcm, hcs, htake⟩
      · simp only [Value.slice.injEq] at hb
        obtain ⟨rfl, _, rfl⟩ := hb
        subst hn
        obtain rfl : xs = [] := List.eq_nil_of_length_eq_zero (by simpa using hown.1)
        obtain ⟨v', w', hrun, r1, r2, _⟩ := run_append_own (P := P) w w.heap.size t ty e i z size bytes ht hi hz hsize hby hzs hsz (.slice none 0 0) 0 [] (World.ownsRow_nil w _ e size) ad m c news hl hnews h1 h63 hbytes (Nat.le_refl _)
        exact ⟨v', w', hrun, r1, r2⟩
      · simp only [Value.slice.injEq] at hv
        obtain ⟨rfl, _, rfl⟩ := hv
        exact run_append_arg_grows (P := P) w t ty e i z size bytes ht hi hz hsize hby hzs hsz ⟨g, 0, none⟩ n k xs hown.1 (hown.cells (g := g) rfl) ad m c news hl hnews (by omega) h63 hbytes
    obtain ⟨v', w', hr, h2, h3⟩ := hgrow
    obtain ⟨g, cap, rfl, hg, hlt⟩ := h2.form (by omega)
    refine ⟨g, cap, w', hr, ⟨h2.1, ?_⟩, ⟨h3.os, h3.tape, h3.output, h3.size, fun q hq _ => h3.block q hq (by simp)⟩, .inr hg, hlt⟩
    rcases h2.2 with ⟨hb, hn⟩ | ⟨g', cap', cur, hv, hbg, hx⟩
    · simp at hb
    · exact .inr ⟨g', cap', cur, hv, by omega, hx⟩


section
variable {P : Program} {n : Nat} {ds : List Deferred} {fr : Fr} {I : Imm} {O0 : List Ent} {w : World} {J : Imm} {O : List Ent} {ops : Array Oper} {Q : Exit → Act → World → Prop} {o : Oper} {K : Act → World → Prop}
variable {α : Type} {R : Rel α} {sz by_ : Nat} {A : Option Addr} {l : List α}
def rowbs : Option Addr → List Nat | none => [] | some a => [a.block]
theorem ats_row (A : Option Addr) (e : TypeId) (cs : List Value) (m : Nat) : ats [Ent.row A e cs m] = rowbs A := by cases A <;> simp [ats, Ent.bs, rowbs]
theorem St.append {t ty e : TypeId} {z : Value} {W : World} {c m cx : Nat} {css cys : List (List Value)} {ys : List α} {ad : Addr} (hT : P.underlying t = some (.slice e)) (hi : (P.info? e).map (fun i => (i.zero, i.size, i.bytes)) = some (some z, sz, by_)) (hzs : z.cells.size = sz) (hsz : 0 < sz) (hby0 : 0 < by_)
    (h : St J [.row A e css.flatten (c * sz)] W) (hO : OwnR R sz J l css) (hv : OV by_ A l.length c) (hY : OwnR R sz J ys cys) (hm : ys.length = m) (h0 : 0 < m) (h1 : ∀ u ∈ cys.flatten, u.oneCell' = true) (hc : ∀ j u, cys.flatten[j]? = some u → W.cell? (ad.add j) = some u) (hby : (l.length + m) * by_ ≤ 140737488351232) :
    ∃ g c' W', (Builtin.append_ #[t, t] ty #[.slice A l.length c, .slice (some ad) m cx]).run P W = .ok (.slice (some ⟨g, 0, none⟩) (l.length + m) c') W' ∧ OV by_ (some ⟨g, 0, none⟩) (l.length + m) c' ∧
      Ext J [.row A e css.flatten (c * sz)] W J [.row (some ⟨g, 0, none⟩) e (css ++ cys).flatten (c' * sz)] W' := by
  obtain ⟨i, hi, hz1, hz2, hz3⟩ := info_parts hi
  have hby' : (l.length + m) * by_ ≤ 140737488351232 := hby
  have hmax : l.length + m ≤ 140737488351232 := Nat.le_trans (Nat.le_mul_of_pos_right _ hby0) hby'
  have hat : ∀ a, A = some a → a = ⟨a.block, 0, none⟩ ∧ Blk W a.block e css.flatten (c * sz) := fun a ha => by
    subst ha; exact h.ents (.row (some a) e css.flatten (c * sz)) (by simp)
  have hown : W.ownsRow 0 e sz (.slice A l.length c) l.length css.flatten := by
    cases A with
    | none =>
      obtain ⟨h1, h2⟩ := hv.nil rfl
      have : css.flatten = [] := List.eq_nil_of_length_eq_zero (by rw [hO.flat, h1, Nat.zero_mul])
      rw [h1, h2, this]
      exact World.ownsRow_nil _ _ _ _
    | some a =>
      obtain ⟨ha, hB⟩ := hat a rfl
      rw [ha]
      exact Blk.owns hO (by rw [← ha]; exact hv) hB
  obtain ⟨g, cap, W', hr, r1, r2, r3, r4⟩ := run_append_g (P := P) W t ty 0 e i z sz by_ hT hi hz1 hz2 hz3 hzs hsz A l.length c css.flatten hown ad m cx cys.flatten
    (by rw [hY.flat, hm]) hc h1 h0 (by unfold maxLen; omega) (Nat.le_trans hby' (by decide)) (Nat.zero_le _)
  obtain ⟨hB, hV⟩ := owns_blk (by_ := by_) hby' r1
  refine ⟨g, cap, W', hr, hV, ?_⟩
  have ha0 := ats_row A e css.flatten (c * sz)
  have hgA : g ∈ ats [Ent.row A e css.flatten (c * sz)] ∨ W.heap.size ≤ g := by
    rcases r3 with r3 | r3
    · left; rw [ha0, r3]; exact List.mem_singleton.2 rfl
    · exact .inr r3
  have hnot : ∀ a v, J a = some v → a.block ≠ g := fun a v hv => by
    rcases hgA with hg | hg
    · exact h.off g hg a v hv
    · have := h.holds.lt hv; omega
  have hup : Up (ats [Ent.row A e css.flatten (c * sz)]) W W' := ⟨r2.os, r2.tape, r2.output, r2.size, fun k hk hn => r2.block k hk (fun e => by
    have hkg : k = g := by simpa using e
    subst hkg
    rcases hgA with hg | hg
    · exact hn hg
    · omega)⟩
  refine ⟨Imm.rfl' _, ⟨fun a v hv => (h.holds a v hv).of (r2.block _ (h.holds.lt hv) (fun e => hnot a v hv (by simpa using e))), fun x hx => ?_, by simp [ats, Ent.bs], fun b hb a v hv => ?_⟩, hup, fun _ _ e => .inl e, fun b hb => ?_⟩
  · simp only [List.mem_singleton] at hx
    subst hx
    exact ⟨rfl, by rw [List.flatten_append]; exact hB⟩
  · have : b = g := by simpa [ats, Ent.bs] using hb
    subst this
    exact hnot a v hv
  · have : b = g := by simpa [ats, Ent.bs] using hb
    subst this
    exact hgA
theorem w_append {s x : Operand} {t e : TypeId} {z : Value} {c m cx b j d : Nat} {css cys : List (List Value)} {ys : List α} (L : List Ent) {Rr : List Ent} (hT : P.underlying t = some (.slice e)) (hi : (P.info? e).map (fun i => (i.zero, i.size, i.bytes)) = some (some z, sz, by_)) (hzs : z.cells.size = sz) (hsz : 0 < sz) (hby0 : 0 < by_)
    (ho : o.op = .call { callee := .builtin .append, args := #[s, x], argTypes := #[t, t] }) (hs : opv fr s = some (.slice A l.length c)) (hO : OwnR R sz J l css) (hv : OV by_ A l.length c) (hx : opv fr x = some (.slice (some ⟨b, j, none⟩) m cx)) (hc : Cls J (L ++ .row A e css.flatten (c * sz) :: Rr) b j cys.flatten) (hY : OwnR R sz J ys cys) (hm : ys.length = m) (h0 : 0 < m)
    (h1 : ∀ u ∈ cys.flatten, u.oneCell' = true) (hby : (l.length + m) * by_ ≤ 140737488351232) (l2 : List α) (hl2 : l ++ ys = l2) (hd : o.dst = some d) (hn : d < n)
    (k : ∀ g c' css2, OV by_ (some ⟨g, 0, none⟩) l2.length c' → OwnR R sz J l2 css2 → AtG n ds ((d, .slice (some ⟨g, 0, none⟩) l2.length c') :: fr) I O0 w J (L ++ .row (some ⟨g, 0, none⟩) e css2.flatten (c' * sz) :: Rr) K) : Lo P n ds fr I O0 w J (L ++ .row A e css.flatten (c * sz) :: Rr) o Q K := fun a W h => by
  have h0' := h.ext.perm (perm_in _ _ _)
  have hst : St J [.row A e css.flatten (c * sz)] W := h0'.st.sub (List.Sublist.cons_cons _ (List.nil_sublist _))
  obtain ⟨g, c', W', hr, hV, hE⟩ := St.append (P := P) (t := t) (ty := o.type) (cx := cx) (ad := ⟨b, j, none⟩) hT hi hzs hsz hby0 hst hO hv hY hm h0 h1 (fun q u hq => by rw [add_at]; exact hc q u hq W h.ext.st.sees) hby
  have hlen : l2.length = l.length + m := by rw [← hl2, List.length_append, hm]
  have hrun : (execOp a.eval o).run P W = .ok (.value (.slice (some ⟨g, 0, none⟩) l2.length c')) W' := by
    simp only [execOp, ho, resolve, invoke, builtin, Sem.run_bind, Sem.run_pure, Result.andThen_ok, List.map_toArray, List.map_cons, List.map_nil, h.fits.eval hs, h.fits.eval hx, hr, hlen]
  show Oper.wp P o a W K Q
  unfold Oper.wp
  rw [hrun, Oper.upon_value, hd]
  exact k g c' (css ++ cys) (by rw [hlen]; exact hV) (by rw [← hl2]; exact hO.append hY) _ _ ⟨h.fits.put hn _, h.ext.turn (fun _ => hE)⟩
/-- A row that is nil yet. -/
theorem s_nil {e : TypeId} {sz : Nat} {G : Act → World → Prop} (k : AtG n ds fr I O0 w J (.row none e (List.flatten []) (0 * sz) :: O) G) : AtG n ds fr I O0 w J O G := fun a W h => by
  refine k a W ⟨h.fits, ⟨h.ext.le, ⟨h.ext.st.holds, fun x hx => ?_, by simpa [ats, Ent.bs] using h.ext.st.nodup, fun b hb => h.ext.st.off b (by simpa [ats, Ent.bs] using hb)⟩, h.ext.up, h.ext.dom, fun b hb => h.ext.sub b (by simpa [ats, Ent.bs] using hb)⟩⟩
  rcases List.mem_cons.1 hx with rfl | hx
  · exact ⟨rfl, Nat.zero_mul _⟩
  · exact h.ext.st.ents x hx
/-! ## Stores into rows -/
theorem setL_get : ∀ (vs cs : List Value) (j k : Nat), (setL cs j vs)[k]? = if j ≤ k ∧ k < j + vs.length ∧ k < cs.length then vs[k - j]? else cs[k]?
  | [], cs, j, k => by
    simp only [setL, List.length_nil, Nat.add_zero]
    rw [if_neg (by omega)]
  | v :: vs, cs, j, k => by
    simp only [setL, setL_get vs, List.length_set, List.length_cons, List.getElem?_set]
    by_cases hk : k < cs.length
    · rcases Nat.lt_trichotomy k j with h | h | h
      · rw [if_neg (by omega), if_neg (by omega), if_neg (by omega)]
      · subst h
        rw [if_neg (by omega), if_pos rfl, if_pos hk, if_pos (by omega)]
        simp
      · by_cases h2 : k < j + 1 + vs.length
        · rw [if_pos (by omega), if_pos (by omega), show k - j = (k - (j + 1)) + 1 by omega, List.getElem?_cons_succ]
        · rw [if_neg (by omega), if_neg (by omega), if_neg (by omega)]
    · rw [if_neg (by omega), if_neg (show ¬ (j ≤ k ∧ k < j + (vs.length + 1) ∧ k < cs.length) by omega)]
      split
      · next h => subst h; rw [if_neg hk]; simp; omega
      · rfl
theorem flat_set : ∀ (css : List (List Value)) (j : Nat) (cs : List Value), (∀ c ∈ css, c.length = sz) → cs.length = sz → j < css.length →
    ∀ k, (css.set j cs).flatten[k]? = if j * sz ≤ k ∧ k < j * sz + sz then cs[k - j * sz]? else css.flatten[k]?
  | [], j, cs, _, _, h, k => by simp at h
  | d :: css, 0, cs, hd, hc, _, k => by
    have h1 : d.length = sz := hd d (by simp)
    simp only [List.set_cons_zero, List.flatten_cons, Nat.zero_mul, Nat.zero_le, true_and, Nat.zero_add, Nat.sub_zero]
    split
    · next h => rw [List.getElem?_append_left (by omega)]
    · next h => rw [List.getElem?_append_right (by omega), List.getElem?_append_right (by omega), hc, h1]
  | d :: css, j + 1, cs, hd, hc, hj, k => by
    have h1 : d.length = sz := hd d (by simp)
    have ih := flat_set css j cs (fun c h => hd c (by simp [h])) hc (by simpa using hj)
    simp only [List.set_cons_succ, List.flatten_cons]
    have e : (j + 1) * sz = sz + j * sz := by rw [Nat.succ_mul, Nat.add_comm]
    rcases Nat.lt_or_ge k sz with h | h
    · rw [List.getElem?_append_left (by omega), List.getElem?_append_left (by omega), if_neg (by omega)]
    · rw [List.getElem?_append_right (by omega), List.getElem?_append_right (by omega), h1, ih (k - sz), e]
      by_cases h2 : j * sz ≤ k - sz ∧ k - sz < j * sz + sz
      · rw [if_pos h2, if_pos (by omega)]
        congr 1
        omega
      · rw [if_neg h2, if_neg (by omega)]
theorem setL_flat {css : List (List Value)} {i q : Nat} {cs vs : List Value} (hd : ∀ c ∈ css, c.length = sz) (hi : css[i]? = some cs) (hq : q + vs.length ≤ sz) : setL css.flatten (i * sz + q) vs = (css.set i (setL cs q vs)).flatten := by
  have hil : i < css.length := (List.getElem?_eq_some_iff.1 hi).1
  have hcs : cs.length = sz := hd cs (List.mem_of_getElem? hi)
  have hlen := flatten_len css hd
  have hle : i * sz + sz ≤ css.length * sz := by rw [← Nat.succ_mul]; exact Nat.mul_le_mul_right _ hil
  apply List.ext_getElem?
  intro k
  rw [setL_get, flat_set css i _ hd (by rw [setL_length]; exact hcs) hil k, setL_get, hlen, hcs]
  by_cases h1 : i * sz ≤ k ∧ k < i * sz + sz
  · rw [if_pos h1]
    by_cases h2 : i * sz + q ≤ k ∧ k < i * sz + q + vs.length
    · rw [if_pos (by omega), if_pos (by omega)]
      congr 1
      omega
    · rw [if_neg (by omega), if_neg (by omega)]
      have := flatten_get css i (k - i * sz) cs _ hd hi (List.getElem?_eq_getElem (by omega))
      rw [show i * sz + (k - i * sz) = k by omega] at this
      rw [this, List.getElem?_eq_getElem (by omega)]
  · rw [if_neg h1, if_neg (by omega)]
theorem w_storeR {t e : TypeId} {x y : Operand} {b k m i q : Nat} {css : List (List Value)} {cs cs' : List Value} {v : Value} {x' : α} (L : List Ent) {Rr : List Ent} (hk : (P.info? t).map (·.size) = some k) (ho : o.op = .store t x y) (hx : opv fr x = some (.pointer (some ⟨b, i * sz + q, none⟩))) (hy : opv fr y = some v)
    (h1 : v.cells.toList.all (·.oneCell') = true) (hs : v.cells.size = k) (hO : OwnR R sz J l css) (hi : css[i]? = some cs) (hq : q + k ≤ sz) (hcs : setL cs q v.cells.toList = cs') (hR : R J x' cs') (hd : o.dst = none)
    (k : ∀ css2, OwnR R sz J (l.set i x') css2 → AtG n ds fr I O0 w J (L ++ .row (some ⟨b, 0, none⟩) e css2.flatten m :: Rr) K) : Lo P n ds fr I O0 w J (L ++ .row (some ⟨b, 0, none⟩) e css.flatten m :: Rr) o Q K := by
  have hil : i < css.length := (List.getElem?_eq_some_iff.1 hi).1
  have hcsl : cs.length = sz := hO.sz cs (List.mem_of_getElem? hi)
  have hle : i * sz + sz ≤ css.length * sz := by rw [← Nat.succ_mul]; exact Nat.mul_le_mul_right _ hil
  have hfl := setL_flat hO.sz hi (vs := v.cells.toList) (q := q) (by simpa [hs] using hq)
  have hO2 : OwnR R sz J (l.set i x') (css.set i cs') := hO.set hR (by rw [← hcs, setL_length]; exact hcsl) i
  refine w_skip hd (fun ρ W hρ hE => ?_) (k _ hO2)
  have h0 := hE.perm (perm_in _ _ _)
  have hst : St J [.row (some ⟨b, 0, none⟩) e css.flatten m] W := h0.st.sub (List.Sublist.cons_cons _ (List.nil_sublist _))
  obtain ⟨W', h2, h3⟩ := run_storeCells_ent (P := P) (fun cs => .row (some ⟨b, 0, none⟩) e cs m) (fun cs W h => (show _ ∧ _ from h).2) (fun cs W j v hj h => h.setRow j hj v) v.cells.toList css.flatten (i * sz + q) 0 W (ones_of h1)
    (by rw [flatten_len css hO.sz]; simp [hs]; omega) hst
  rw [Nat.add_zero, hfl, hcs] at h3
  refine ⟨W', ?_, hE.turn (fun _ => h3)⟩
  simp [execOp, ho, hρ _ _ hx, hρ _ _ hy, Instr.storeAt, Instr.sureAddr, storeVar, sizeOf_of hk, hs, h2]
/-- A literal slice. -/
theorem w_buildS {t e : TypeId} {len d m k : Nat} {parts : Array (Nat × Operand)} {ps : List (Nat × Value)} {z : Value} (cs : List Value) (hT : P.underlying t = some (.slice e)) (hi : (P.info? e).map (fun i => (i.zero, i.size)) = some (some z, k)) (ho : o.op = .buildSlice t len parts) (hp : opps fr parts.toList = some ps)
    (hsm : (decide (len * k ≤ 2 ^ 24) && !(len * k == 0)) = true) (hf : Instr.fill (fun i => some (i * k, k)) ((Array.range (len * k)).map (z.cells[· % z.cells.size]!)) ps = some cs.toArray) (hm : cs.length = m) (hd : o.dst = some d) (hn : d < n)
    (kk : ∀ β, AtG n ds ((d, .slice (some ⟨β, 0, none⟩) len len) :: fr) I O0 w J (.cells β e cs m :: O) K) : Lo P n ds fr I O0 w J O o Q K := fun a W h => by
  obtain ⟨i, hi', hz⟩ := Option.map_eq_some_iff.1 hi
  simp only [Prod.mk.injEq] at hz
  obtain ⟨hz, rfl⟩ := hz
  have h1 : (parts.map fun x => (x.1, a.eval x.2)).toList = ps := by simpa using opps_map (fun x u hx => h.fits.eval hx) hp
  simp only [Bool.and_eq_true, decide_eq_true_eq, Bool.not_eq_true', beq_eq_false_iff_ne] at hsm
  have hrun : (execOp a.eval o).run P W = .ok (.value (.slice (some ⟨W.heap.size, 0, none⟩) len len)) (W.alloc (.cells cs.toArray e)) := by
    have h2 : ¬ len * i.size > 2 ^ 24 := by omega
    have h3 : ¬ len * i.size = 0 := hsm.2
    rw [← h1] at hf
    have := run_buildSlice (P := P) W t e len (parts.map fun x => (x.1, a.eval x.2)) cs.toArray i z hT hi' hz h2 h3 hf
    simp only [execOp, ho, Sem.run_bind]
    rw [this]
    rfl
  show Oper.wp P o a W K Q
  unfold Oper.wp
  rw [hrun, Oper.upon_value, hd]
  exact kk W.heap.size _ _ ⟨h.fits.put hn _, h.ext.alloc e cs hm⟩
/-! ## Regions that draw -/
variable {Os : List Ent} {Js : Imm} {dl : List Nat} {fuel : Nat} {lst : Array Bool}
theorem d_start {id m : Nat} (Os : List Ent) (dl : List Nat) (l0 : Array Bool) (hm : P.follows .mixedOrders = true) (hn : ops.size = m) (hl : Array.replicate m false = l0) (hOs : ∀ e ∈ Os, e ∈ O) (k : AtG n ds fr I O0 w J O (fun a W => PrintLast.wpAnyLast P .any ops Q (Sees J Os) dl m l0 a W)) :
    AtG n ds fr I O0 w J O (fun a W => (Code.region id ops true).wp P Q a W) := fun a W h => by
  have h' : At n ds fr I O0 w J O a W.drew := ⟨h.fits, h.ext.drew⟩
  exact PrintLast.start_ l0 hm hn hl (h'.ext.st.sees.of (Imm.rfl' _) hOs) (fun _ => k a W.drew h')
theorem wanted_none {oi : Oper} (hg : oi.guard = none) (a : Act) : Region.wanted oi (yielded ops a.tmps) = true := by simp [Region.wanted, hg]
theorem wanted_on {a : Act} {oi oj : Oper} {j dj : Nat} {b : Bool} (hF : Fits n ds a fr) (hg : oi.guard = some (j, b)) (hj : ops[j]? = some oj) (hdj : oj.dst = some dj) (hb : look fr dj = some (.bool b)) : Region.wanted oi (yielded ops a.tmps) = true := by simp [Region.wanted, hg, yields_of hF hj hdj hb]
theorem wanted_off {a : Act} {oi oj : Oper} {j dj : Nat} {b b' : Bool} (hF : Fits n ds a fr) (hg : oi.guard = some (j, b)) (hj : ops[j]? = some oj) (hdj : oj.dst = some dj) (hb : look fr dj = some (.bool b')) (hbb : (b' == b) = false) : Region.wanted oi (yielded ops a.tmps) = false := by
  have : b' ≠ b := by simpa using hbb
  simp [Region.wanted, hg, yields_of hF hj hdj hb, this]
/-- What wants an operation in every frame that fits. -/
def Wants (n : Nat) (ds : List Deferred) (fr : Fr) (ops : Array Oper) (oi : Oper) (b : Bool) : Prop := ∀ a, Fits n ds a fr → Region.wanted oi (yielded ops a.tmps) = b
theorem Wants.none {oi : Oper} (hg : oi.guard = none) : Wants n ds fr ops oi true := fun a _ => wanted_none hg a
theorem Wants.on {oi oj : Oper} {j dj : Nat} {b : Bool} (hg : oi.guard = some (j, b)) (hj : ops[j]? = some oj) (hdj : oj.dst = some dj) (hb : look fr dj = some (.bool b)) : Wants n ds fr ops oi true := fun a hF => wanted_on hF hg hj hdj hb
theorem Wants.off {oi oj : Oper} {j dj : Nat} {b b' : Bool} (hg : oi.guard = some (j, b)) (hj : ops[j]? = some oj) (hdj : oj.dst = some dj) (hb : look fr dj = some (.bool b')) (hbb : (b' == b) = false) : Wants n ds fr ops oi false := fun a hF => wanted_off hF hg hj hdj hb hbb
theorem Wants.offu {oi oj : Oper} {j dj : Nat} {b : Bool} (hg : oi.guard = some (j, b)) (hj : ops[j]? = some oj) (hdj : oj.dst = some dj) (hb : look fr dj = some undef) : Wants n ds fr ops oi false := fun a hF => by
  have h1 := hF.at_ _ _ hb
  simp [Region.wanted, hg, yielded, hj, hdj, h1, undef]
/-- An operation that only reads, taken first. -/
theorem d_take {d : Nat} {oi : Oper} {v : Value} (i : Nat) (l' : Array Bool) (hy : Y P fr Js Os oi v) (hi : ops[i]? = some oi) (hN : oi.dst = some d) (hn : d < n) (hc : PrintLast.takeB .any ops dl lst l' i = true) (hQ : ∀ c a w, Q (.panic c) (a.put oi.dst v) w → Q (.panic c) a w)
    (hw : Wants n ds fr ops oi true) (hle : Imm.le Js J) (hOs : ∀ e ∈ Os, e ∈ O) (k : AtG n ds ((d, v) :: fr) I O0 w J O (fun a W => PrintLast.wpAnyLast P .any ops Q (Sees Js Os) dl fuel l' a W)) :
    AtG n ds fr I O0 w J O (fun a W => PrintLast.wpAnyLast P .any ops Q (Sees Js Os) dl (fuel + 1) lst a W) := fun a W h =>
  PrintLast.take_ (N := some d) l' hi hN hc hQ (.inl ⟨hw a h.fits, fun W' hS => hy a.eval W' (fun x u hx => h.fits.eval hx) hS⟩) (h.ext.st.sees.of hle hOs) rfl (k _ _ ⟨h.fits.put hn v, h.ext⟩)
/-- One that reads no memory. -/
theorem d_pure {d : Nat} {oi : Oper} {v : Value} {S : World → Prop} (i : Nat) (l' : Array Bool) (hy : Y P fr (fun _ => none) [] oi v) (hi : ops[i]? = some oi) (hN : oi.dst = some d) (hn : d < n) (hc : PrintLast.anyB .any ops lst l' i = true) (hQ : ∀ c a w, Q (.panic c) (a.put oi.dst v) w → Q (.panic c) a w)
    (hw : Wants n ds fr ops oi true) (k : AtG n ds ((d, v) :: fr) I O0 w J O (fun a W => PrintLast.wpAnyLast P .any ops Q S dl fuel l' a W)) :
    AtG n ds fr I O0 w J O (fun a W => PrintLast.wpAnyLast P .any ops Q S dl (fuel + 1) lst a W) := fun a W h =>
  PrintLast.pure_ (N := some d) l' hi hN hc hQ (.inl ⟨hw a h.fits, fun W' => hy a.eval W' (fun x u hx => h.fits.eval hx) ⟨(fun _ _ e => nomatch e), (fun _ e => nomatch e)⟩⟩) rfl (k _ _ ⟨h.fits.put hn v, h.ext⟩)
theorem d_off {d : Nat} {oi : Oper} {S : World → Prop} (i : Nat) (l' : Array Bool) (hi : ops[i]? = some oi) (hN : oi.dst = some d) (hn : d < n) (hc : PrintLast.anyB .any ops lst l' i = true) (hQ : ∀ c a w, Q (.panic c) (a.put oi.dst undef) w → Q (.panic c) a w)
    (hw : Wants n ds fr ops oi false) (k : AtG n ds ((d, undef) :: fr) I O0 w J O (fun a W => PrintLast.wpAnyLast P .any ops Q S dl fuel l' a W)) :
    AtG n ds fr I O0 w J O (fun a W => PrintLast.wpAnyLast P .any ops Q S dl (fuel + 1) lst a W) := fun a W h =>
  PrintLast.pure_ (N := some d) l' hi hN hc hQ (.inr ⟨hw a h.fits, rfl⟩) rfl (k _ _ ⟨h.fits.put hn _, h.ext⟩)
/-- The one that may come up now. -/
theorem d_one {oi : Oper} (i : Nat) (l' : Array Bool) (hi : ops[i]? = some oi) (hc : PrintLast.readyB .any ops lst l' i = true) (hd : i ∉ dl) (hw : Wants n ds fr ops oi true)
    (h : ∀ K : Act → World → Prop, (∀ a' W', Sees Js Os W' → PrintLast.wpAnyLast P .any ops Q (Sees Js Os) dl fuel l' a' W' → K a' W') → Lo P n ds fr I O0 w J O oi Q K) :
    AtG n ds fr I O0 w J O (fun a W => PrintLast.wpAnyLast P .any ops Q (Sees Js Os) dl (fuel + 1) lst a W) := fun a W hA =>
  PrintLast.one_ (N := oi.dst) l' hi rfl hc hd (fun K hK => by rw [if_pos (hw a hA.fits)]; exact h K (fun a' W' hS hW => hK.out a' W' hS (fun _ => hW)) a W hA)
theorem d_last {oi : Oper} {S : World → Prop} (i : Nat) (l' : Array Bool) (hi : ops[i]? = some oi) (hc : PrintLast.readyB .any ops lst l' i = true) (hd : i ∈ dl) (hw : Wants n ds fr ops oi true)
    (h : ∀ K : Act → World → Prop, (∀ a' W', PrintLast.wpAnyLast P .any ops Q S dl fuel l' a' W' → K a' W') → Lo P n ds fr I O0 w J O oi Q K) :
    AtG n ds fr I O0 w J O (fun a W => PrintLast.wpAnyLast P .any ops Q S dl (fuel + 1) lst a W) := fun a W hA =>
  PrintLast.last_ (N := oi.dst) l' hi rfl hc hd (fun K hK => by rw [if_pos (hw a hA.fits)]; exact h K (fun a' W' hW => hK.out a' W' hW) a W hA)
theorem d_k {G : Act → World → Prop} (hK : ∀ a' W', Sees Js Os W' → G a' W' → K a' W') (hle : Imm.le Js J) (hOs : ∀ e ∈ Os, e ∈ O) (k : AtG n ds fr I O0 w J O G) : AtG n ds fr I O0 w J O K := fun a W h => hK a W (h.ext.st.sees.of hle hOs) (k a W h)
theorem d_kl {G : Act → World → Prop} (hK : ∀ a' W', G a' W' → K a' W') (k : AtG n ds fr I O0 w J O G) : AtG n ds fr I O0 w J O K := fun a W h => hK a W (k a W h)
theorem d_done {S : World → Prop} {m : Nat} (hr : (Region.ready .any ops lst == []) = true) (k : AtG n ds fr I O0 w J O (fun a W => Q .normal a W)) : AtG n ds fr I O0 w J O (fun a W => PrintLast.wpAnyLast P .any ops Q S dl m lst a W) := fun a W h => PrintLast.done_ hr (k a W h)
end
end Go.Proofs.YtoafojcfledkcaaDoor
