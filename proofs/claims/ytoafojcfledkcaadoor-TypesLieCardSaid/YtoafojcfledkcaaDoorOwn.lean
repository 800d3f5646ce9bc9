/- Own rows: reading, lending, storing, handing back. Of no program. -/
import Derived.Test.YtoafojcfledkcaaDoorVars
namespace Go.Proofs.YtoafojcfledkcaaDoor
open Go.RowKit
set_option linter.all false
section
variable {P : Program} {n : Nat} {ds : List Deferred} {fr : Fr} {I : Imm} {O0 : List Ent} {w : World} {J : Imm} {O : List Ent} {ops : Array Oper} {Q : Exit → Act → World → Prop} {o : Oper} {K : Act → World → Prop}
variable {α : Type} {R : Rel α} {sz by_ : Nat} {A : Option Addr} {l : List α}
theorem Cls.part {b j : Nat} {cs cs' : List Value} (h : Cls J O b j cs) (q : Nat) (hv : (cs.drop q).take cs'.length = cs') : Cls J O b (j + q) cs' := fun p v hp => by
  rw [← hv, List.getElem?_take] at hp
  split at hp
  · rw [List.getElem?_drop] at hp
    have := h (q + p) v hp
    rwa [← Nat.add_assoc] at this
  · cases hp
theorem Cls.cl {b j q : Nat} {cs : List Value} {v : Value} (h : Cls J O b j cs) (hq : cs[q]? = some v) : Cl J O ⟨b, j + q, none⟩ v := h q v hq
theorem Cls.cl0 {b j : Nat} {cs : List Value} {v : Value} (h : Cls J O b j cs) (hq : cs[0]? = some v) : Cl J O ⟨b, j, none⟩ v := h 0 v hq
/-- One element's cells. -/
theorem cls_row {i b m k : Nat} {T : TypeId} {xs cs : List Value} (hi : O[i]? = some (.row (some ⟨b, 0, none⟩) T xs m)) (hf : ∀ q v, cs[q]? = some v → xs[k + q]? = some v) : Cls J O b (0 + k) cs := fun q v hq W h => by
  have := h.ents _ (mem_of_at hi)
  rw [Nat.zero_add]
  exact Blk.cell (show _ ∧ Blk W b T xs m from this).2 (hf q v hq)
/-- An own row of some length lies somewhere. -/
theorem s_rowat {i c n' m : Nat} {T : TypeId} {xs : List Value} {G : Act → World → Prop} (hi : O[i]? = some (.row A T xs m)) (hV : OV by_ A n' c) (h0 : 0 < n') (k : ∀ b, A = some ⟨b, 0, none⟩ → AtG n ds fr I O0 w J O G) : AtG n ds fr I O0 w J O G := fun a W h => by
  cases A with
  | none => have := (hV.nil rfl).1; omega
  | some ad =>
    have := h.ext.st.ents _ (mem_of_at hi)
    exact k ad.block (congrArg some (show ad = ⟨ad.block, 0, none⟩ ∧ _ from this).1) a W h
theorem perm_erase : ∀ (O : List Ent) (i : Nat) (e : Ent), O[i]? = some e → O.Perm (e :: O.eraseIdx i)
  | [], i, e, h => by simp at h
  | x :: O, 0, e, h => by simp at h; subst h; exact List.Perm.refl _
  | x :: O, i + 1, e, h => ((perm_erase O i e (by simpa using h)).cons x).trans (List.Perm.swap _ _ _)
/-- A row that is lent to a call: read there, and nobody writes it. -/
theorem St.lend {i m c : Nat} {T : TypeId} {css : List (List Value)} {W : World} (hi : O[i]? = some (.row A T css.flatten m)) (hR : Mono R) (hO : OwnR R sz J l css) (hv : OV by_ A l.length c) (h : St J O W) : ∃ K, Imm.le J K ∧ St K (O.eraseIdx i) W ∧ RowsG R sz by_ K A l := by
  obtain ⟨hlt, he⟩ := List.getElem?_eq_some_iff.1 hi
  have hp : O.Perm (.row A T css.flatten m :: O.eraseIdx i) := by
    exact perm_erase O i _ hi
  obtain ⟨K, h1, h2, h3⟩ := Ext.freeze (l := l) (c := c) (by_ := by_) hR (Ext.refl (h.perm hp)) hO hv
  exact ⟨K, h1, h2.st, h3⟩
theorem Ext.new1 {J K : Imm} {O1 : List Ent} {e : Ent} {W W' : World} (h : Ext I O0 w J O1 W) (k : Ext J [] W K [e] W') : Ext I O0 w K (e :: O1) W' := h.new k
theorem Ext.new2 {J K : Imm} {O1 : List Ent} {e e' : Ent} {W W' : World} (h : Ext I O0 w J O1 W) (k : Ext J [] W K [e, e'] W') : Ext I O0 w K (e :: e' :: O1) W' := h.new k
/-- A block that was built is a row. -/
theorem s_toRow {b m c : Nat} {e : TypeId} {cs : List Value} (css : List (List Value)) {G : Act → World → Prop} (hf : css.flatten = cs) (hm : c * sz = m) (k : AtG n ds fr I O0 w J (.row (some ⟨b, 0, none⟩) e css.flatten (c * sz) :: O) G) : AtG n ds fr I O0 w J (.cells b e cs m :: O) G := fun a W h => by
  subst hf
  subst hm
  exact k a W ⟨h.fits, h.ext.toRow⟩
variable {dl : List Nat} {lst : Array Bool}
/-! ## Many operations that read no memory, one behind the other -/
def bits (n m : Nat) : Array Bool := ((List.range n).map (fun i => m.testBit i)).toArray
def simple (fr : Fr) : Op → Option Value
  | .move x => opv fr x
  | .assign x => opv fr x
  | .pick c x y => match opv fr c with | some (.bool true) => opv fr x | some (.bool false) => opv fr y | _ => none
  | _ => none
theorem simple_y {o : Oper} {v : Value} (h : simple fr o.op = some v) : Y P fr J O o v := by
  unfold simple at h
  split at h
  · next x e => exact y_move e h
  · next x e => exact y_assign e h
  · next c x y e =>
    split at h
    · next hc => exact y_pickt e hc h
    · next hc => exact y_pickf e hc h
    · cases h
  · cases h
def oneOff (n : Nat) (ops : Array Oper) (fr : Fr) (i : Nat) : Option (Nat × Value) :=
  match ops[i]? with
  | none => none
  | some o => match o.dst with
    | none => none
    | some d => match Nat.blt d n with
      | false => none
      | true => match o.guard with
        | none => match simple fr o.op with | some v => some (d, v) | none => none
        | some (j, b) => match ops[j]? with
          | none => none
          | some oj => match oj.dst with
            | none => none
            | some dj => match look fr dj with
              | some (.bool b') => match b' == b with
                | true => match simple fr o.op with | some v => some (d, v) | none => none
                | false => some (d, undef)
              | some (.tuple _) => some (d, undef)
              | _ => none
theorem oneOff_spec {i d : Nat} {v : Value} (h : oneOff n ops fr i = some (d, v)) : ∃ oi, ops[i]? = some oi ∧ oi.dst = some d ∧ d < n ∧ ((Wants n ds fr ops oi true ∧ ∀ J O, Y P fr J O oi v) ∨ (Wants n ds fr ops oi false ∧ v = undef)) := by
  unfold oneOff at h
  split at h
  · cases h
  · next o ho =>
    split at h
    · cases h
    · next d' hd =>
      split at h
      · cases h
      · next hlt =>
        have hlt : d' < n := by simpa [Nat.blt_eq] using hlt
        split at h
        · next hg =>
          split at h
          · next u hu => cases h; exact ⟨o, ho, hd, hlt, .inl ⟨.none hg, fun J O => simple_y hu⟩⟩
          · cases h
        · next j b hg =>
          split at h
          · cases h
          · next oj hj =>
            split at h
            · cases h
            · next dj hdj =>
              split at h
              · next b' hb =>
                split at h
                · next hbb =>
                  have : b' = b := by simpa using hbb
                  subst this
                  split at h
                  · next u hu => cases h; exact ⟨o, ho, hd, hlt, .inl ⟨.on hg hj hdj hb, fun J O => simple_y hu⟩⟩
                  · cases h
                · next hbb => cases h; exact ⟨o, ho, hd, hlt, .inr ⟨.off hg hj hdj hb hbb, rfl⟩⟩
              · next l hb =>
                cases h
                refine ⟨o, ho, hd, hlt, .inr ⟨fun a hF => ?_, rfl⟩⟩
                have h1 := hF.at_ _ _ hb
                simp [Region.wanted, hg, yielded, hj, hdj, h1]
              · cases h
def offs (n : Nat) (ops : Array Oper) : List (Nat × Nat) → Fr → Option Fr
  | [], fr => some fr
  | (i, _) :: is, fr => match oneOff n ops fr i with | some p => offs n ops is (p :: fr) | none => none
def anys (ops : Array Oper) (m : Nat) : Nat → List (Nat × Nat) → Nat → Bool
  | k, [], k' => Nat.beq k k'
  | k, (i, k2) :: is, k' => PrintLast.anyB .any ops (bits m k) (bits m k2) i && anys ops m k2 is k'
theorem d_many {m k' : Nat} {S : World → Prop} {fr2 : Fr} : ∀ (is : List (Nat × Nat)) {k : Nat} {fr : Fr} (fuel : Nat), offs n ops is fr = some fr2 → anys ops m k is k' = true → (∀ c (a : Act) (d : Nat) v w, Q (.panic c) (a.put (some d) v) w → Q (.panic c) a w) →
    AtG n ds fr2 I O0 w J O (fun a W => PrintLast.wpAnyLast P .any ops Q S dl fuel (bits m k') a W) →
    AtG n ds fr I O0 w J O (fun a W => PrintLast.wpAnyLast P .any ops Q S dl (fuel + is.length) (bits m k) a W)
  | [], k, fr, fuel, h1, h2, _, kk => by
    obtain rfl := Option.some.inj h1
    obtain rfl := Nat.eq_of_beq_eq_true h2
    exact kk
  | (i, k2) :: is, k, fr, fuel, h1, h2, hQ, kk => by
    simp only [offs] at h1
    simp only [anys, Bool.and_eq_true] at h2
    split at h1
    · next p hp =>
      obtain ⟨d, v⟩ := p
      obtain ⟨oi, hi, hd, hn, hy⟩ := oneOff_spec (P := P) (ds := ds) hp
      have ih := d_many is fuel h1 h2.2 hQ kk
      refine fun a W h => PrintLast.pure_ (N := some d) (v := v) _ hi hd h2.1 (fun c a w hq => hQ c a d v w (by rwa [hd] at hq)) ?_ rfl (ih _ _ ⟨h.fits.put hn v, h.ext⟩)
      rcases hy with ⟨hw, hy⟩ | ⟨hw, rfl⟩
      · exact .inl ⟨hw a h.fits, fun W' => hy (fun _ => none) [] a.eval W' (fun x u hx => h.fits.eval hx) ⟨(fun _ _ e => nomatch e), (fun _ e => nomatch e)⟩⟩
      · exact .inr ⟨hw a h.fits, rfl⟩
    · cases h1
/-- What was known at the start is known still. -/
theorem Ext.back {O' : List Ent} {W : World} (h : Ext I O w J O' W) : Ext I O w I O' W := ⟨Imm.rfl' _, h.st.less h.le, h.up, fun _ _ e => .inl e, h.sub⟩
theorem OV.lit {a : Addr} {n : Nat} (h : n * by_ ≤ 140737488351232) (h2 : n ≤ maxLen) : OV by_ (some a) n n := ⟨fun h => (by cases h), Nat.le_refl _, h2, h⟩

theorem w_storeR0 {t e : TypeId} {x y : Operand} {b at_ k m i q : Nat} {css : List (List Value)} {cs cs' : List Value} {v : Value} {x' : α} {Rr : List Ent} (hk : (P.info? t).map (·.size) = some k) (ho : o.op = .store t x y) (hx : opv fr x = some (.pointer (some ⟨b, at_, none⟩))) (hat : at_ = i * sz + q) (hy : opv fr y = some v)
    (h1 : v.cells.toList.all (·.oneCell') = true) (hs : v.cells.size = k) (hO : OwnR R sz J l css) (hi : css[i]? = some cs) (hq : q + k ≤ sz) (hcs : setL cs q v.cells.toList = cs') (hR : R J x' cs') (l2 : List α) (hl2 : l.set i x' = l2) (hd : o.dst = none)
    (k : ∀ css2, OwnR R sz J l2 css2 → l.length = l2.length → AtG n ds fr I O0 w J (.row (some ⟨b, 0, none⟩) e css2.flatten m :: Rr) K) : Lo P n ds fr I O0 w J (.row (some ⟨b, 0, none⟩) e css.flatten m :: Rr) o Q K := by
  subst hat
  exact w_storeR [] hk ho hx hy h1 hs hO hi hq hcs hR hd (fun css2 h => k css2 (hl2 ▸ h) (by rw [← hl2, List.length_set]))
theorem w_storeR1 {x0 : Ent} {t e : TypeId} {x y : Operand} {b at_ k m i q : Nat} {css : List (List Value)} {cs cs' : List Value} {v : Value} {x' : α} {Rr : List Ent} (hk : (P.info? t).map (·.size) = some k) (ho : o.op = .store t x y) (hx : opv fr x = some (.pointer (some ⟨b, at_, none⟩))) (hat : at_ = i * sz + q) (hy : opv fr y = some v)
    (h1 : v.cells.toList.all (·.oneCell') = true) (hs : v.cells.size = k) (hO : OwnR R sz J l css) (hi : css[i]? = some cs) (hq : q + k ≤ sz) (hcs : setL cs q v.cells.toList = cs') (hR : R J x' cs') (l2 : List α) (hl2 : l.set i x' = l2) (hd : o.dst = none)
    (k : ∀ css2, OwnR R sz J l2 css2 → l.length = l2.length → AtG n ds fr I O0 w J (x0 :: .row (some ⟨b, 0, none⟩) e css2.flatten m :: Rr) K) : Lo P n ds fr I O0 w J (x0 :: .row (some ⟨b, 0, none⟩) e css.flatten m :: Rr) o Q K := by
  subst hat
  exact w_storeR [x0] hk ho hx hy h1 hs hO hi hq hcs hR hd (fun css2 h => k css2 (hl2 ▸ h) (by rw [← hl2, List.length_set]))
theorem w_storeR2 {x0 x1 : Ent} {t e : TypeId} {x y : Operand} {b at_ k m i q : Nat} {css : List (List Value)} {cs cs' : List Value} {v : Value} {x' : α} {Rr : List Ent} (hk : (P.info? t).map (·.size) = some k) (ho : o.op = .store t x y) (hx : opv fr x = some (.pointer (some ⟨b, at_, none⟩))) (hat : at_ = i * sz + q) (hy : opv fr y = some v)
    (h1 : v.cells.toList.all (·.oneCell') = true) (hs : v.cells.size = k) (hO : OwnR R sz J l css) (hi : css[i]? = some cs) (hq : q + k ≤ sz) (hcs : setL cs q v.cells.toList = cs') (hR : R J x' cs') (l2 : List α) (hl2 : l.set i x' = l2) (hd : o.dst = none)
    (k : ∀ css2, OwnR R sz J l2 css2 → l.length = l2.length → AtG n ds fr I O0 w J (x0 :: x1 :: .row (some ⟨b, 0, none⟩) e css2.flatten m :: Rr) K) : Lo P n ds fr I O0 w J (x0 :: x1 :: .row (some ⟨b, 0, none⟩) e css.flatten m :: Rr) o Q K := by
  subst hat
  exact w_storeR [x0, x1] hk ho hx hy h1 hs hO hi hq hcs hR hd (fun css2 h => k css2 (hl2 ▸ h) (by rw [← hl2, List.length_set]))
theorem w_storeR3 {x0 x1 x2 : Ent} {t e : TypeId} {x y : Operand} {b at_ k m i q : Nat} {css : List (List Value)} {cs cs' : List Value} {v : Value} {x' : α} {Rr : List Ent} (hk : (P.info? t).map (·.size) = some k) (ho : o.op = .store t x y) (hx : opv fr x = some (.pointer (some ⟨b, at_, none⟩))) (hat : at_ = i * sz + q) (hy : opv fr y = some v)
    (h1 : v.cells.toList.all (·.oneCell') = true) (hs : v.cells.size = k) (hO : OwnR R sz J l css) (hi : css[i]? = some cs) (hq : q + k ≤ sz) (hcs : setL cs q v.cells.toList = cs') (hR : R J x' cs') (l2 : List α) (hl2 : l.set i x' = l2) (hd : o.dst = none)
    (k : ∀ css2, OwnR R sz J l2 css2 → l.length = l2.length → AtG n ds fr I O0 w J (x0 :: x1 :: x2 :: .row (some ⟨b, 0, none⟩) e css2.flatten m :: Rr) K) : Lo P n ds fr I O0 w J (x0 :: x1 :: x2 :: .row (some ⟨b, 0, none⟩) e css.flatten m :: Rr) o Q K := by
  subst hat
  exact w_storeR [x0, x1, x2] hk ho hx hy h1 hs hO hi hq hcs hR hd (fun css2 h => k css2 (hl2 ▸ h) (by rw [← hl2, List.length_set]))
theorem w_storeR4 {x0 x1 x2 x3 : Ent} {t e : TypeId} {x y : Operand} {b at_ k m i q : Nat} {css : List (List Value)} {cs cs' : List Value} {v : Value} {x' : α} {Rr : List Ent} (hk : (P.info? t).map (·.size) = some k) (ho : o.op = .store t x y) (hx : opv fr x = some (.pointer (some ⟨b, at_, none⟩))) (hat : at_ = i * sz + q) (hy : opv fr y = some v)
    (h1 : v.cells.toList.all (·.oneCell') = true) (hs : v.cells.size = k) (hO : OwnR R sz J l css) (hi : css[i]? = some cs) (hq : q + k ≤ sz) (hcs : setL cs q v.cells.toList = cs') (hR : R J x' cs') (l2 : List α) (hl2 : l.set i x' = l2) (hd : o.dst = none)
    (k : ∀ css2, OwnR R sz J l2 css2 → l.length = l2.length → AtG n ds fr I O0 w J (x0 :: x1 :: x2 :: x3 :: .row (some ⟨b, 0, none⟩) e css2.flatten m :: Rr) K) : Lo P n ds fr I O0 w J (x0 :: x1 :: x2 :: x3 :: .row (some ⟨b, 0, none⟩) e css.flatten m :: Rr) o Q K := by
  subst hat
  exact w_storeR [x0, x1, x2, x3] hk ho hx hy h1 hs hO hi hq hcs hR hd (fun css2 h => k css2 (hl2 ▸ h) (by rw [← hl2, List.length_set]))
theorem w_storeR5 {x0 x1 x2 x3 x4 : Ent} {t e : TypeId} {x y : Operand} {b at_ k m i q : Nat} {css : List (List Value)} {cs cs' : List Value} {v : Value} {x' : α} {Rr : List Ent} (hk : (P.info? t).map (·.size) = some k) (ho : o.op = .store t x y) (hx : opv fr x = some (.pointer (some ⟨b, at_, none⟩))) (hat : at_ = i * sz + q) (hy : opv fr y = some v)
    (h1 : v.cells.toList.all (·.oneCell') = true) (hs : v.cells.size = k) (hO : OwnR R sz J l css) (hi : css[i]? = some cs) (hq : q + k ≤ sz) (hcs : setL cs q v.cells.toList = cs') (hR : R J x' cs') (l2 : List α) (hl2 : l.set i x' = l2) (hd : o.dst = none)
    (k : ∀ css2, OwnR R sz J l2 css2 → l.length = l2.length → AtG n ds fr I O0 w J (x0 :: x1 :: x2 :: x3 :: x4 :: .row (some ⟨b, 0, none⟩) e css2.flatten m :: Rr) K) : Lo P n ds fr I O0 w J (x0 :: x1 :: x2 :: x3 :: x4 :: .row (some ⟨b, 0, none⟩) e css.flatten m :: Rr) o Q K := by
  subst hat
  exact w_storeR [x0, x1, x2, x3, x4] hk ho hx hy h1 hs hO hi hq hcs hR hd (fun css2 h => k css2 (hl2 ▸ h) (by rw [← hl2, List.length_set]))
theorem w_storeR6 {x0 x1 x2 x3 x4 x5 : Ent} {t e : TypeId} {x y : Operand} {b at_ k m i q : Nat} {css : List (List Value)} {cs cs' : List Value} {v : Value} {x' : α} {Rr : List Ent} (hk : (P.info? t).map (·.size) = some k) (ho : o.op = .store t x y) (hx : opv fr x = some (.pointer (some ⟨b, at_, none⟩))) (hat : at_ = i * sz + q) (hy : opv fr y = some v)
    (h1 : v.cells.toList.all (·.oneCell') = true) (hs : v.cells.size = k) (hO : OwnR R sz J l css) (hi : css[i]? = some cs) (hq : q + k ≤ sz) (hcs : setL cs q v.cells.toList = cs') (hR : R J x' cs') (l2 : List α) (hl2 : l.set i x' = l2) (hd : o.dst = none)
    (k : ∀ css2, OwnR R sz J l2 css2 → l.length = l2.length → AtG n ds fr I O0 w J (x0 :: x1 :: x2 :: x3 :: x4 :: x5 :: .row (some ⟨b, 0, none⟩) e css2.flatten m :: Rr) K) : Lo P n ds fr I O0 w J (x0 :: x1 :: x2 :: x3 :: x4 :: x5 :: .row (some ⟨b, 0, none⟩) e css.flatten m :: Rr) o Q K := by
  subst hat
  exact w_storeR [x0, x1, x2, x3, x4, x5] hk ho hx hy h1 hs hO hi hq hcs hR hd (fun css2 h => k css2 (hl2 ▸ h) (by rw [← hl2, List.length_set]))
theorem w_storeR7 {x0 x1 x2 x3 x4 x5 x6 : Ent} {t e : TypeId} {x y : Operand} {b at_ k m i q : Nat} {css : List (List Value)} {cs cs' : List Value} {v : Value} {x' : α} {Rr : List Ent} (hk : (P.info? t).map (·.size) = some k) (ho : o.op = .store t x y) (hx : opv fr x = some (.pointer (some ⟨b, at_, none⟩))) (hat : at_ = i * sz + q) (hy : opv fr y = some v)
    (h1 : v.cells.toList.all (·.oneCell') = true) (hs : v.cells.size = k) (hO : OwnR R sz J l css) (hi : css[i]? = some cs) (hq : q + k ≤ sz) (hcs : setL cs q v.cells.toList = cs') (hR : R J x' cs') (l2 : List α) (hl2 : l.set i x' = l2) (hd : o.dst = none)
    (k : ∀ css2, OwnR R sz J l2 css2 → l.length = l2.length → AtG n ds fr I O0 w J (x0 :: x1 :: x2 :: x3 :: x4 :: x5 :: x6 :: .row (some ⟨b, 0, none⟩) e css2.flatten m :: Rr) K) : Lo P n ds fr I O0 w J (x0 :: x1 :: x2 :: x3 :: x4 :: x5 :: x6 :: .row (some ⟨b, 0, none⟩) e css.flatten m :: Rr) o Q K := by
  subst hat
  exact w_storeR [x0, x1, x2, x3, x4, x5, x6] hk ho hx hy h1 hs hO hi hq hcs hR hd (fun css2 h => k css2 (hl2 ▸ h) (by rw [← hl2, List.length_set]))
theorem w_storeR8 {x0 x1 x2 x3 x4 x5 x6 x7 : Ent} {t e : TypeId} {x y : Operand} {b at_ k m i q : Nat} {css : List (List Value)} {cs cs' : List Value} {v : Value} {x' : α} {Rr : List Ent} (hk : (P.info? t).map (·.size) = some k) (ho : o.op = .store t x y) (hx : opv fr x = some (.pointer (some ⟨b, at_, none⟩))) (hat : at_ = i * sz + q) (hy : opv fr y = some v)
    (h1 : v.cells.toList.all (·.oneCell') = true) (hs : v.cells.size = k) (hO : OwnR R sz J l css) (hi : css[i]? = some cs) (hq : q + k ≤ sz) (hcs : setL cs q v.cells.toList = cs') (hR : R J x' cs') (l2 : List α) (hl2 : l.set i x' = l2) (hd : o.dst = none)
    (k : ∀ css2, OwnR R sz J l2 css2 → l.length = l2.length → AtG n ds fr I O0 w J (x0 :: x1 :: x2 :: x3 :: x4 :: x5 :: x6 :: x7 :: .row (some ⟨b, 0, none⟩) e css2.flatten m :: Rr) K) : Lo P n ds fr I O0 w J (x0 :: x1 :: x2 :: x3 :: x4 :: x5 :: x6 :: x7 :: .row (some ⟨b, 0, none⟩) e css.flatten m :: Rr) o Q K := by
  subst hat
  exact w_storeR [x0, x1, x2, x3, x4, x5, x6, x7] hk ho hx hy h1 hs hO hi hq hcs hR hd (fun css2 h => k css2 (hl2 ▸ h) (by rw [← hl2, List.length_set]))
theorem w_storeR9 {x0 x1 x2 x3 x4 x5 x6 x7 x8 : Ent} {t e : TypeId} {x y : Operand} {b at_ k m i q : Nat} {css : List (List Value)} {cs cs' : List Value} {v : Value} {x' : α} {Rr : List Ent} (hk : (P.info? t).map (·.size) = some k) (ho : o.op = .store t x y) (hx : opv fr x = some (.pointer (some ⟨b, at_, none⟩))) (hat : at_ = i * sz + q) (hy : opv fr y = some v)
    (h1 : v.cells.toList.all (·.oneCell') = true) (hs : v.cells.size = k) (hO : OwnR R sz J l css) (hi : css[i]? = some cs) (hq : q + k ≤ sz) (hcs : setL cs q v.cells.toList = cs') (hR : R J x' cs') (l2 : List α) (hl2 : l.set i x' = l2) (hd : o.dst = none)
    (k : ∀ css2, OwnR R sz J l2 css2 → l.length = l2.length → AtG n ds fr I O0 w J (x0 :: x1 :: x2 :: x3 :: x4 :: x5 :: x6 :: x7 :: x8 :: .row (some ⟨b, 0, none⟩) e css2.flatten m :: Rr) K) : Lo P n ds fr I O0 w J (x0 :: x1 :: x2 :: x3 :: x4 :: x5 :: x6 :: x7 :: x8 :: .row (some ⟨b, 0, none⟩) e css.flatten m :: Rr) o Q K := by
  subst hat
  exact w_storeR [x0, x1, x2, x3, x4, x5, x6, x7, x8] hk ho hx hy h1 hs hO hi hq hcs hR hd (fun css2 h => k css2 (hl2 ▸ h) (by rw [← hl2, List.length_set]))
theorem w_storeR10 {x0 x1 x2 x3 x4 x5 x6 x7 x8 x9 : Ent} {t e : TypeId} {x y : Operand} {b at_ k m i q : Nat} {css : List (List Value)} {cs cs' : List Value} {v : Value} {x' : α} {Rr : List Ent} (hk : (P.info? t).map (·.size) = some k) (ho : o.op = .store t x y) (hx : opv fr x = some (.pointer (some ⟨b, at_, none⟩))) (hat : at_ = i * sz + q) (hy : opv fr y = some v)
    (h1 : v.cells.toList.all (·.oneCell') = true) (hs : v.cells.size = k) (hO : OwnR R sz J l css) (hi : css[i]? = some cs) (hq : q + k ≤ sz) (hcs : setL cs q v.cells.toList = cs') (hR : R J x' cs') (l2 : List α) (hl2 : l.set i x' = l2) (hd : o.dst = none)
    (k : ∀ css2, OwnR R sz J l2 css2 → l.length = l2.length → AtG n ds fr I O0 w J (x0 :: x1 :: x2 :: x3 :: x4 :: x5 :: x6 :: x7 :: x8 :: x9 :: .row (some ⟨b, 0, none⟩) e css2.flatten m :: Rr) K) : Lo P n ds fr I O0 w J (x0 :: x1 :: x2 :: x3 :: x4 :: x5 :: x6 :: x7 :: x8 :: x9 :: .row (some ⟨b, 0, none⟩) e css.flatten m :: Rr) o Q K := by
  subst hat
  exact w_storeR [x0, x1, x2, x3, x4, x5, x6, x7, x8, x9] hk ho hx hy h1 hs hO hi hq hcs hR hd (fun css2 h => k css2 (hl2 ▸ h) (by rw [← hl2, List.length_set]))
theorem w_storeR11 {x0 x1 x2 x3 x4 x5 x6 x7 x8 x9 x10 : Ent} {t e : TypeId} {x y : Operand} {b at_ k m i q : Nat} {css : List (List Value)} {cs cs' : List Value} {v : Value} {x' : α} {Rr : List Ent} (hk : (P.info? t).map (·.size) = some k) (ho : o.op = .store t x y) (hx : opv fr x = some (.pointer (some ⟨b, at_, none⟩))) (hat : at_ = i * sz + q) (hy : opv fr y = some v)
    (h1 : v.cells.toList.all (·.oneCell') = true) (hs : v.cells.size = k) (hO : OwnR R sz J l css) (hi : css[i]? = some cs) (hq : q + k ≤ sz) (hcs : setL cs q v.cells.toList = cs') (hR : R J x' cs') (l2 : List α) (hl2 : l.set i x' = l2) (hd : o.dst = none)
    (k : ∀ css2, OwnR R sz J l2 css2 → l.length = l2.length → AtG n ds fr I O0 w J (x0 :: x1 :: x2 :: x3 :: x4 :: x5 :: x6 :: x7 :: x8 :: x9 :: x10 :: .row (some ⟨b, 0, none⟩) e css2.flatten m :: Rr) K) : Lo P n ds fr I O0 w J (x0 :: x1 :: x2 :: x3 :: x4 :: x5 :: x6 :: x7 :: x8 :: x9 :: x10 :: .row (some ⟨b, 0, none⟩) e css.flatten m :: Rr) o Q K := by
  subst hat
  exact w_storeR [x0, x1, x2, x3, x4, x5, x6, x7, x8, x9, x10] hk ho hx hy h1 hs hO hi hq hcs hR hd (fun css2 h => k css2 (hl2 ▸ h) (by rw [← hl2, List.length_set]))
theorem w_storeR12 {x0 x1 x2 x3 x4 x5 x6 x7 x8 x9 x10 x11 : Ent} {t e : TypeId} {x y : Operand} {b at_ k m i q : Nat} {css : List (List Value)} {cs cs' : List Value} {v : Value} {x' : α} {Rr : List Ent} (hk : (P.info? t).map (·.size) = some k) (ho : o.op = .store t x y) (hx : opv fr x = some (.pointer (some ⟨b, at_, none⟩))) (hat : at_ = i * sz + q) (hy : opv fr y = some v)
    (h1 : v.cells.toList.all (·.oneCell') = true) (hs : v.cells.size = k) (hO : OwnR R sz J l css) (hi : css[i]? = some cs) (hq : q + k ≤ sz) (hcs : setL cs q v.cells.toList = cs') (hR : R J x' cs') (l2 : List α) (hl2 : l.set i x' = l2) (hd : o.dst = none)
    (k : ∀ css2, OwnR R sz J l2 css2 → l.length = l2.length → AtG n ds fr I O0 w J (x0 :: x1 :: x2 :: x3 :: x4 :: x5 :: x6 :: x7 :: x8 :: x9 :: x10 :: x11 :: .row (some ⟨b, 0, none⟩) e css2.flatten m :: Rr) K) : Lo P n ds fr I O0 w J (x0 :: x1 :: x2 :: x3 :: x4 :: x5 :: x6 :: x7 :: x8 :: x9 :: x10 :: x11 :: .row (some ⟨b, 0, none⟩) e css.flatten m :: Rr) o Q K := by
  subst hat
  exact w_storeR [x0, x1, x2, x3, x4, x5, x6, x7, x8, x9, x10, x11] hk ho hx hy h1 hs hO hi hq hcs hR hd (fun css2 h => k css2 (hl2 ▸ h) (by rw [← hl2, List.length_set]))
theorem w_storeR13 {x0 x1 x2 x3 x4 x5 x6 x7 x8 x9 x10 x11 x12 : Ent} {t e : TypeId} {x y : Operand} {b at_ k m i q : Nat} {css : List (List Value)} {cs cs' : List Value} {v : Value} {x' : α} {Rr : List Ent} (hk : (P.info? t).map (·.size) = some k) (ho : o.op = .store t x y) (hx : opv fr x = some (.pointer (some ⟨b, at_, none⟩))) (hat : at_ = i * sz + q) (hy : opv fr y = some v)
    (h1 : v.cells.toList.all (·.oneCell') = true) (hs : v.cells.size = k) (hO : OwnR R sz J l css) (hi : css[i]? = some cs) (hq : q + k ≤ sz) (hcs : setL cs q v.cells.toList = cs') (hR : R J x' cs') (l2 : List α) (hl2 : l.set i x' = l2) (hd : o.dst = none)
    (k : ∀ css2, OwnR R sz J l2 css2 → l.length = l2.length → AtG n ds fr I O0 w J (x0 :: x1 :: x2 :: x3 :: x4 :: x5 :: x6 :: x7 :: x8 :: x9 :: x10 :: x11 :: x12 :: .row (some ⟨b, 0, none⟩) e css2.flatten m :: Rr) K) : Lo P n ds fr I O0 w J (x0 :: x1 :: x2 :: x3 :: x4 :: x5 :: x6 :: x7 :: x8 :: x9 :: x10 :: x11 :: x12 :: .row (some ⟨b, 0, none⟩) e css.flatten m :: Rr) o Q K := by
  subst hat
  exact w_storeR [x0, x1, x2, x3, x4, x5, x6, x7, x8, x9, x10, x11, x12] hk ho hx hy h1 hs hO hi hq hcs hR hd (fun css2 h => k css2 (hl2 ▸ h) (by rw [← hl2, List.length_set]))
end
end Go.Proofs.YtoafojcfledkcaaDoor
