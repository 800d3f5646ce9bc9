/- The same laws by places; small words. Of no program. -/
import Derived.Test.YtoafojcfledkcaaDoorDraw
import Derived.Laws.BytesString
namespace Go.Proofs.YtoafojcfledkcaaDoor
open Go.RowKit
set_option linter.all false
section
variable {P : Program} {n : Nat} {ds : List Deferred} {fr : Fr} {I : Imm} {O0 : List Ent} {w : World} {J : Imm} {O : List Ent} {ops : Array Oper} {Q : Exit → Act → World → Prop} {o : Oper} {K : Act → World → Prop}
variable {α : Type} {R : Rel α} {sz by_ : Nat} {A : Option Addr} {l : List α} {G : Act → World → Prop}
theorem not_t {b : Bool} (h : b = false) : (!b) = true := by simp [h]
theorem not_f {b : Bool} (h : b = true) : (!b) = false := by simp [h]
theorem beq_of {a b c d : Bool} (h : a = c) (k : b = d) : (a == b) = (c == d) := by rw [h, k]
/-- A string's byte. -/
def gb (s : ByteArray) (i : Int) : Int := ((s[i.toNat]?).map fun b => (b.toNat : Int)).getD 0
theorem s_lit {t : Nat} {b b' : Bool} (h : look fr t = some (.bool b)) (hb : b = b') (k : AtG n ds ((t, .bool b') :: fr) I O0 w J O G) : AtG n ds fr I O0 w J O G := fun a W hA => by
  refine k a W ⟨⟨hA.fits.defers, hA.fits.size, fun u v hu => ?_⟩, hA.ext⟩
  simp only [look] at hu
  cases hc : Nat.beq t u with
  | true =>
    rw [hc] at hu
    have : t = u := Nat.eq_of_beq_eq_true hc
    subst this
    rw [← Option.some.inj hu, ← hb]
    exact hA.fits.at_ _ _ h
  | false => rw [hc] at hu; exact hA.fits.at_ u v hu
def picked (O : List Ent) : List Nat → List Ent → Prop
  | [], [] => True
  | i :: is, e :: es => O[i]? = some e ∧ picked O is es
  | _, _ => False
theorem pick_mem : ∀ {is : List Nat} {Os O : List Ent}, picked O is Os → ∀ e ∈ Os, e ∈ O
  | [], [], _, _, e, he => by cases he
  | [], _ :: _, _, h, _, _ => h.elim
  | _ :: _, [], _, h, _, _ => h.elim
  | i :: is, x :: es, O, h, e, he => by
    rcases List.mem_cons.1 he with rfl | he
    · exact mem_of_at h.1
    · exact pick_mem h.2 e he
theorem s_freezeB {b m : Nat} {e : TypeId} {cs : List Value} {css : List (List Value)} (hR : Mono R) (hf : css.flatten = cs) (hO : OwnR R sz J l css) (hb : l.length * by_ ≤ 140737488351232) (k : ∀ K, Imm.le J K → RowsG R sz by_ K (some ⟨b, 0, none⟩) l → AtG n ds fr I O0 w K O G) : AtG n ds fr I O0 w J (.cells b e cs m :: O) G := fun a W h => by
  obtain ⟨K, h1, h2, h3⟩ := Ext.freezeB (by_ := by_) hR h.ext hf hO hb
  exact k K h1 h3 a W ⟨h.fits, h2⟩
theorem s_freeze {m c : Nat} {e : TypeId} {css : List (List Value)} (hR : Mono R) (hO : OwnR R sz J l css) (hv : OV by_ A l.length c) (k : ∀ K, Imm.le J K → RowsG R sz by_ K A l → AtG n ds fr I O0 w K O G) : AtG n ds fr I O0 w J (.row A e css.flatten m :: O) G := fun a W h => by
  obtain ⟨K, h1, h2, h3⟩ := Ext.freeze (by_ := by_) hR h.ext hO hv
  exact k K h1 h3 a W ⟨h.fits, h2⟩
theorem St.first {W : World} {L Rr : List Ent} (h : St J (L ++ Rr) W) : St J L W := h.sub (List.sublist_append_left _ _)
theorem Ext.call0 {W W' : World} {K : Imm} (h : Ext I O0 w J O W) (k : Ext J [] W K [] W') : Ext I O0 w K O W' := h.new k
theorem Ext.callN {W W' : World} {K : Imm} {L L' Rr : List Ent} (h : Ext I O0 w J (L ++ Rr) W) (k : Ext J L W K L' W') : Ext I O0 w K (L' ++ Rr) W' := h.trans (Ext.frame h.st k)
theorem c_join {x y : Code} (Inv : Act → World → Prop) (h1 : AtG n ds fr I O0 w J O (fun a W => x.wp P (Exit.then Inv Q) a W)) (h2 : Go Inv (fun a W => y.wp P Q a W)) : AtG n ds fr I O0 w J O (fun a W => (Code.seq x y).wp P Q a W) := fun a W h => by
  refine wp_seq (Code.wp_mono (fun e a w q => ?_) (h1 a W h))
  cases e with
  | normal => exact h2 a w q
  | exit id => exact q
  | goto l => exact q
  | ret => exact q
  | panic c => exact q
  | outgrown => exact q
theorem sub_ex {c : Nat} (h : RowsG R sz by_ J A l) {lo hi : Int} (h0 : 0 ≤ lo) (h1 : lo ≤ hi) (h2 : hi ≤ (l.length : Int)) (hc : l.length ≤ c) : ∃ A2 c2, RowsG R sz by_ J A2 (sub l lo hi) ∧ (sub l lo hi).length ≤ c2 ∧
    Value.slice (if c = lo.toNat then A else A.map (·.add (lo.toNat * sz))) (hi.toNat - lo.toNat) (c - lo.toNat) = .slice A2 (sub l lo hi).length c2 :=
  ⟨_, c - lo.toNat, h.sub h0 h1 h2 hc, by rw [sub_length h0 h1 h2]; omega, by rw [sub_length h0 h1 h2]⟩
/-- Bytes as a string. -/
def bstr (l : List Int) : ByteArray := l.foldl (fun r n => r.push (UInt8.ofNat n.toNat)) ByteArray.empty
theorem y_bstr {s e d : TypeId} {b j m c : Nat} {x : Operand} (l : List Int) {cs : List Value} (hs : P.underlying s = some (.slice e)) (he : P.underlying e = some (.int .u8)) (hd : P.underlying d = some .string) (ho : o.op = .convert s d x) (hx : opv fr x = some (.slice (some ⟨b, j, none⟩) m c)) (hcs : l.map (Value.int .u8) = cs) (hm : l.length = m) (hc : Cls J O b j cs) :
    Y P fr J O o (.string (bstr l)) := fun ρ W hρ hS => by
  have h1 := run_loadCells_list (P := P) W ⟨b, j, none⟩ cs (fun q v hq => by rw [add_at]; exact hc q v hq W hS)
  have hlen : cs.length = m := by rw [← hcs, List.length_map, hm]
  rw [hlen, ← hcs] at h1
  have h2 := run_bytesToString (P := P) W ⟨b, j, none⟩ m c l h1
  simp only [execOp, ho, Sem.run_bind, convert, run_underlying hs, run_underlying hd, run_underlying he, Result.andThen_ok, hρ _ _ hx, h2]
  rfl

theorem pf1 {x0 e : Ent} {L : List Ent} : (x0 :: e :: L).Perm (e :: x0 :: L) := perm_in [x0] e L
theorem pf2 {x0 x1 e : Ent} {L : List Ent} : (x0 :: x1 :: e :: L).Perm (e :: x0 :: x1 :: L) := perm_in [x0, x1] e L
theorem pf3 {x0 x1 x2 e : Ent} {L : List Ent} : (x0 :: x1 :: x2 :: e :: L).Perm (e :: x0 :: x1 :: x2 :: L) := perm_in [x0, x1, x2] e L
theorem pf4 {x0 x1 x2 x3 e : Ent} {L : List Ent} : (x0 :: x1 :: x2 :: x3 :: e :: L).Perm (e :: x0 :: x1 :: x2 :: x3 :: L) := perm_in [x0, x1, x2, x3] e L
theorem pf5 {x0 x1 x2 x3 x4 e : Ent} {L : List Ent} : (x0 :: x1 :: x2 :: x3 :: x4 :: e :: L).Perm (e :: x0 :: x1 :: x2 :: x3 :: x4 :: L) := perm_in [x0, x1, x2, x3, x4] e L
theorem pf6 {x0 x1 x2 x3 x4 x5 e : Ent} {L : List Ent} : (x0 :: x1 :: x2 :: x3 :: x4 :: x5 :: e :: L).Perm (e :: x0 :: x1 :: x2 :: x3 :: x4 :: x5 :: L) := perm_in [x0, x1, x2, x3, x4, x5] e L
theorem pf7 {x0 x1 x2 x3 x4 x5 x6 e : Ent} {L : List Ent} : (x0 :: x1 :: x2 :: x3 :: x4 :: x5 :: x6 :: e :: L).Perm (e :: x0 :: x1 :: x2 :: x3 :: x4 :: x5 :: x6 :: L) := perm_in [x0, x1, x2, x3, x4, x5, x6] e L
theorem pf8 {x0 x1 x2 x3 x4 x5 x6 x7 e : Ent} {L : List Ent} : (x0 :: x1 :: x2 :: x3 :: x4 :: x5 :: x6 :: x7 :: e :: L).Perm (e :: x0 :: x1 :: x2 :: x3 :: x4 :: x5 :: x6 :: x7 :: L) := perm_in [x0, x1, x2, x3, x4, x5, x6, x7] e L
theorem pf9 {x0 x1 x2 x3 x4 x5 x6 x7 x8 e : Ent} {L : List Ent} : (x0 :: x1 :: x2 :: x3 :: x4 :: x5 :: x6 :: x7 :: x8 :: e :: L).Perm (e :: x0 :: x1 :: x2 :: x3 :: x4 :: x5 :: x6 :: x7 :: x8 :: L) := perm_in [x0, x1, x2, x3, x4, x5, x6, x7, x8] e L
theorem pf10 {x0 x1 x2 x3 x4 x5 x6 x7 x8 x9 e : Ent} {L : List Ent} : (x0 :: x1 :: x2 :: x3 :: x4 :: x5 :: x6 :: x7 :: x8 :: x9 :: e :: L).Perm (e :: x0 :: x1 :: x2 :: x3 :: x4 :: x5 :: x6 :: x7 :: x8 :: x9 :: L) := perm_in [x0, x1, x2, x3, x4, x5, x6, x7, x8, x9] e L
theorem pf11 {x0 x1 x2 x3 x4 x5 x6 x7 x8 x9 x10 e : Ent} {L : List Ent} : (x0 :: x1 :: x2 :: x3 :: x4 :: x5 :: x6 :: x7 :: x8 :: x9 :: x10 :: e :: L).Perm (e :: x0 :: x1 :: x2 :: x3 :: x4 :: x5 :: x6 :: x7 :: x8 :: x9 :: x10 :: L) := perm_in [x0, x1, x2, x3, x4, x5, x6, x7, x8, x9, x10] e L
theorem pf12 {x0 x1 x2 x3 x4 x5 x6 x7 x8 x9 x10 x11 e : Ent} {L : List Ent} : (x0 :: x1 :: x2 :: x3 :: x4 :: x5 :: x6 :: x7 :: x8 :: x9 :: x10 :: x11 :: e :: L).Perm (e :: x0 :: x1 :: x2 :: x3 :: x4 :: x5 :: x6 :: x7 :: x8 :: x9 :: x10 :: x11 :: L) := perm_in [x0, x1, x2, x3, x4, x5, x6, x7, x8, x9, x10, x11] e L
theorem pf13 {x0 x1 x2 x3 x4 x5 x6 x7 x8 x9 x10 x11 x12 e : Ent} {L : List Ent} : (x0 :: x1 :: x2 :: x3 :: x4 :: x5 :: x6 :: x7 :: x8 :: x9 :: x10 :: x11 :: x12 :: e :: L).Perm (e :: x0 :: x1 :: x2 :: x3 :: x4 :: x5 :: x6 :: x7 :: x8 :: x9 :: x10 :: x11 :: x12 :: L) := perm_in [x0, x1, x2, x3, x4, x5, x6, x7, x8, x9, x10, x11, x12] e L
theorem pf14 {x0 x1 x2 x3 x4 x5 x6 x7 x8 x9 x10 x11 x12 x13 e : Ent} {L : List Ent} : (x0 :: x1 :: x2 :: x3 :: x4 :: x5 :: x6 :: x7 :: x8 :: x9 :: x10 :: x11 :: x12 :: x13 :: e :: L).Perm (e :: x0 :: x1 :: x2 :: x3 :: x4 :: x5 :: x6 :: x7 :: x8 :: x9 :: x10 :: x11 :: x12 :: x13 :: L) := perm_in [x0, x1, x2, x3, x4, x5, x6, x7, x8, x9, x10, x11, x12, x13] e L
theorem pf15 {x0 x1 x2 x3 x4 x5 x6 x7 x8 x9 x10 x11 x12 x13 x14 e : Ent} {L : List Ent} : (x0 :: x1 :: x2 :: x3 :: x4 :: x5 :: x6 :: x7 :: x8 :: x9 :: x10 :: x11 :: x12 :: x13 :: x14 :: e :: L).Perm (e :: x0 :: x1 :: x2 :: x3 :: x4 :: x5 :: x6 :: x7 :: x8 :: x9 :: x10 :: x11 :: x12 :: x13 :: x14 :: L) := perm_in [x0, x1, x2, x3, x4, x5, x6, x7, x8, x9, x10, x11, x12, x13, x14] e L
theorem pf0 {L : List Ent} : L.Perm L := List.Perm.refl _
theorem w_store0 {t : TypeId} {x y : Operand} {b j k m : Nat} {T : TypeId} {cs cs' : List Value} {v : Value} {Rr : List Ent} (hk : (P.info? t).map (·.size) = some k) (ho : o.op = .store t x y) (hx : opv fr x = some (.pointer (some ⟨b, j, none⟩))) (hy : opv fr y = some v)
    (h1 : v.cells.toList.all (·.oneCell') = true) (hs : v.cells.size = k) (hj : j + k ≤ cs.length) (hcs : setL cs j v.cells.toList = cs') (hd : o.dst = none)
    (k : AtG n ds fr I O0 w J (.cells b T cs' m :: Rr) K) : Lo P n ds fr I O0 w J (.cells b T cs m :: Rr) o Q K := w_store [] hk ho hx hy h1 hs hj hcs hd k
theorem w_append0 {s x : Operand} {t e : TypeId} {z : Value} {c m cx b j d : Nat} {css cys : List (List Value)} {ys : List α} {Rr : List Ent} (hT : P.underlying t = some (.slice e)) (hi : (P.info? e).map (fun i => (i.zero, i.size, i.bytes)) = some (some z, sz, by_)) (hzs : z.cells.size = sz) (hsz : 0 < sz) (hby0 : 0 < by_)
    (ho : o.op = .call { callee := .builtin .append, args := #[s, x], argTypes := #[t, t] }) (hs : opv fr s = some (.slice A l.length c)) (hO : OwnR R sz J l css) (hv : OV by_ A l.length c) (hx : opv fr x = some (.slice (some ⟨b, j, none⟩) m cx)) (hc : Cls J (.row A e css.flatten (c * sz) :: Rr) b j cys.flatten) (hY : OwnR R sz J ys cys) (hm : ys.length = m) (h0 : 0 < m)
    (h1 : ∀ u ∈ cys.flatten, u.oneCell' = true) (hby : (l.length + m) * by_ ≤ 140737488351232) (l2 : List α) (hl2 : l ++ ys = l2) (hd : o.dst = some d) (hn : d < n)
    (k : ∀ g c' css2, OV by_ (some ⟨g, 0, none⟩) l2.length c' → OwnR R sz J l2 css2 → AtG n ds ((d, .slice (some ⟨g, 0, none⟩) l2.length c') :: fr) I O0 w J (.row (some ⟨g, 0, none⟩) e css2.flatten (c' * sz) :: Rr) K) : Lo P n ds fr I O0 w J (.row A e css.flatten (c * sz) :: Rr) o Q K :=
  w_append [] hT hi hzs hsz hby0 ho hs hO hv hx hc hY hm h0 h1 hby l2 hl2 hd hn k
theorem w_store1 {x0 : Ent} {t : TypeId} {x y : Operand} {b j k m : Nat} {T : TypeId} {cs cs' : List Value} {v : Value} {Rr : List Ent} (hk : (P.info? t).map (·.size) = some k) (ho : o.op = .store t x y) (hx : opv fr x = some (.pointer (some ⟨b, j, none⟩))) (hy : opv fr y = some v)
    (h1 : v.cells.toList.all (·.oneCell') = true) (hs : v.cells.size = k) (hj : j + k ≤ cs.length) (hcs : setL cs j v.cells.toList = cs') (hd : o.dst = none)
    (k : AtG n ds fr I O0 w J (x0 :: .cells b T cs' m :: Rr) K) : Lo P n ds fr I O0 w J (x0 :: .cells b T cs m :: Rr) o Q K := w_store [x0] hk ho hx hy h1 hs hj hcs hd k
theorem w_append1 {x0 : Ent} {s x : Operand} {t e : TypeId} {z : Value} {c m cx b j d : Nat} {css cys : List (List Value)} {ys : List α} {Rr : List Ent} (hT : P.underlying t = some (.slice e)) (hi : (P.info? e).map (fun i => (i.zero, i.size, i.bytes)) = some (some z, sz, by_)) (hzs : z.cells.size = sz) (hsz : 0 < sz) (hby0 : 0 < by_)
    (ho : o.op = .call { callee := .builtin .append, args := #[s, x], argTypes := #[t, t] }) (hs : opv fr s = some (.slice A l.length c)) (hO : OwnR R sz J l css) (hv : OV by_ A l.length c) (hx : opv fr x = some (.slice (some ⟨b, j, none⟩) m cx)) (hc : Cls J (x0 :: .row A e css.flatten (c * sz) :: Rr) b j cys.flatten) (hY : OwnR R sz J ys cys) (hm : ys.length = m) (h0 : 0 < m)
    (h1 : ∀ u ∈ cys.flatten, u.oneCell' = true) (hby : (l.length + m) * by_ ≤ 140737488351232) (l2 : List α) (hl2 : l ++ ys = l2) (hd : o.dst = some d) (hn : d < n)
    (k : ∀ g c' css2, OV by_ (some ⟨g, 0, none⟩) l2.length c' → OwnR R sz J l2 css2 → AtG n ds ((d, .slice (some ⟨g, 0, none⟩) l2.length c') :: fr) I O0 w J (x0 :: .row (some ⟨g, 0, none⟩) e css2.flatten (c' * sz) :: Rr) K) : Lo P n ds fr I O0 w J (x0 :: .row A e css.flatten (c * sz) :: Rr) o Q K :=
  w_append [x0] hT hi hzs hsz hby0 ho hs hO hv hx hc hY hm h0 h1 hby l2 hl2 hd hn k
theorem w_store2 {x0 x1 : Ent} {t : TypeId} {x y : Operand} {b j k m : Nat} {T : TypeId} {cs cs' : List Value} {v : Value} {Rr : List Ent} (hk : (P.info? t).map (·.size) = some k) (ho : o.op = .store t x y) (hx : opv fr x = some (.pointer (some ⟨b, j, none⟩))) (hy : opv fr y = some v)
    (h1 : v.cells.toList.all (·.oneCell') = true) (hs : v.cells.size = k) (hj : j + k ≤ cs.length) (hcs : setL cs j v.cells.toList = cs') (hd : o.dst = none)
    (k : AtG n ds fr I O0 w J (x0 :: x1 :: .cells b T cs' m :: Rr) K) : Lo P n ds fr I O0 w J (x0 :: x1 :: .cells b T cs m :: Rr) o Q K := w_store [x0, x1] hk ho hx hy h1 hs hj hcs hd k
theorem w_append2 {x0 x1 : Ent} {s x : Operand} {t e : TypeId} {z : Value} {c m cx b j d : Nat} {css cys : List (List Value)} {ys : List α} {Rr : List Ent} (hT : P.underlying t = some (.slice e)) (hi : (P.info? e).map (fun i => (i.zero, i.size, i.bytes)) = some (some z, sz, by_)) (hzs : z.cells.size = sz) (hsz : 0 < sz) (hby0 : 0 < by_)
    (ho : o.op = .call { callee := .builtin .append, args := #[s, x], argTypes := #[t, t] }) (hs : opv fr s = some (.slice A l.length c)) (hO : OwnR R sz J l css) (hv : OV by_ A l.length c) (hx : opv fr x = some (.slice (some ⟨b, j, none⟩) m cx)) (hc : Cls J (x0 :: x1 :: .row A e css.flatten (c * sz) :: Rr) b j cys.flatten) (hY : OwnR R sz J ys cys) (hm : ys.length = m) (h0 : 0 < m)
    (h1 : ∀ u ∈ cys.flatten, u.oneCell' = true) (hby : (l.length + m) * by_ ≤ 140737488351232) (l2 : List α) (hl2 : l ++ ys = l2) (hd : o.dst = some d) (hn : d < n)
    (k : ∀ g c' css2, OV by_ (some ⟨g, 0, none⟩) l2.length c' → OwnR R sz J l2 css2 → AtG n ds ((d, .slice (some ⟨g, 0, none⟩) l2.length c') :: fr) I O0 w J (x0 :: x1 :: .row (some ⟨g, 0, none⟩) e css2.flatten (c' * sz) :: Rr) K) : Lo P n ds fr I O0 w J (x0 :: x1 :: .row A e css.flatten (c * sz) :: Rr) o Q K :=
  w_append [x0, x1] hT hi hzs hsz hby0 ho hs hO hv hx hc hY hm h0 h1 hby l2 hl2 hd hn k
theorem w_store3 {x0 x1 x2 : Ent} {t : TypeId} {x y : Operand} {b j k m : Nat} {T : TypeId} {cs cs' : List Value} {v : Value} {Rr : List Ent} (hk : (P.info? t).map (·.size) = some k) (ho : o.op = .store t x y) (hx : opv fr x = some (.pointer (some ⟨b, j, none⟩))) (hy : opv fr y = some v)
    (h1 : v.cells.toList.all (·.oneCell') = true) (hs : v.cells.size = k) (hj : j + k ≤ cs.length) (hcs : setL cs j v.cells.toList = cs') (hd : o.dst = none)
    (k : AtG n ds fr I O0 w J (x0 :: x1 :: x2 :: .cells b T cs' m :: Rr) K) : Lo P n ds fr I O0 w J (x0 :: x1 :: x2 :: .cells b T cs m :: Rr) o Q K := w_store [x0, x1, x2] hk ho hx hy h1 hs hj hcs hd k
theorem w_append3 {x0 x1 x2 : Ent} {s x : Operand} {t e : TypeId} {z : Value} {c m cx b j d : Nat} {css cys : List (List Value)} {ys : List α} {Rr : List Ent} (hT : P.underlying t = some (.slice e)) (hi : (P.info? e).map (fun i => (i.zero, i.size, i.bytes)) = some (some z, sz, by_)) (hzs : z.cells.size = sz) (hsz : 0 < sz) (hby0 : 0 < by_)
    (ho : o.op = .call { callee := .builtin .append, args := #[s, x], argTypes := #[t, t] }) (hs : opv fr s = some (.slice A l.length c)) (hO : OwnR R sz J l css) (hv : OV by_ A l.length c) (hx : opv fr x = some (.slice (some ⟨b, j, none⟩) m cx)) (hc : Cls J (x0 :: x1 :: x2 :: .row A e css.flatten (c * sz) :: Rr) b j cys.flatten) (hY : OwnR R sz J ys cys) (hm : ys.length = m) (h0 : 0 < m)
    (h1 : ∀ u ∈ cys.flatten, u.oneCell' = true) (hby : (l.length + m) * by_ ≤ 140737488351232) (l2 : List α) (hl2 : l ++ ys = l2) (hd : o.dst = some d) (hn : d < n)
    (k : ∀ g c' css2, OV by_ (some ⟨g, 0, none⟩) l2.length c' → OwnR R sz J l2 css2 → AtG n ds ((d, .slice (some ⟨g, 0, none⟩) l2.length c') :: fr) I O0 w J (x0 :: x1 :: x2 :: .row (some ⟨g, 0, none⟩) e css2.flatten (c' * sz) :: Rr) K) : Lo P n ds fr I O0 w J (x0 :: x1 :: x2 :: .row A e css.flatten (c * sz) :: Rr) o Q K :=
  w_append [x0, x1, x2] hT hi hzs hsz hby0 ho hs hO hv hx hc hY hm h0 h1 hby l2 hl2 hd hn k
theorem w_store4 {x0 x1 x2 x3 : Ent} {t : TypeId} {x y : Operand} {b j k m : Nat} {T : TypeId} {cs cs' : List Value} {v : Value} {Rr : List Ent} (hk : (P.info? t).map (·.size) = some k) (ho : o.op = .store t x y) (hx : opv fr x = some (.pointer (some ⟨b, j, none⟩))) (hy : opv fr y = some v)
    (h1 : v.cells.toList.all (·.oneCell') = true) (hs : v.cells.size = k) (hj : j + k ≤ cs.length) (hcs : setL cs j v.cells.toList = cs') (hd : o.dst = none)
    (k : AtG n ds fr I O0 w J (x0 :: x1 :: x2 :: x3 :: .cells b T cs' m :: Rr) K) : Lo P n ds fr I O0 w J (x0 :: x1 :: x2 :: x3 :: .cells b T cs m :: Rr) o Q K := w_store [x0, x1, x2, x3] hk ho hx hy h1 hs hj hcs hd k
theorem w_append4 {x0 x1 x2 x3 : Ent} {s x : Operand} {t e : TypeId} {z : Value} {c m cx b j d : Nat} {css cys : List (List Value)} {ys : List α} {Rr : List Ent} (hT : P.underlying t = some (.slice e)) (hi : (P.info? e).map (fun i => (i.zero, i.size, i.bytes)) = some (some z, sz, by_)) (hzs : z.cells.size = sz) (hsz : 0 < sz) (hby0 : 0 < by_)
    (ho : o.op = .call { callee := .builtin .append, args := #[s, x], argTypes := #[t, t] }) (hs : opv fr s = some (.slice A l.length c)) (hO : OwnR R sz J l css) (hv : OV by_ A l.length c) (hx : opv fr x = some (.slice (some ⟨b, j, none⟩) m cx)) (hc : Cls J (x0 :: x1 :: x2 :: x3 :: .row A e css.flatten (c * sz) :: Rr) b j cys.flatten) (hY : OwnR R sz J ys cys) (hm : ys.length = m) (h0 : 0 < m)
    (h1 : ∀ u ∈ cys.flatten, u.oneCell' = true) (hby : (l.length + m) * by_ ≤ 140737488351232) (l2 : List α) (hl2 : l ++ ys = l2) (hd : o.dst = some d) (hn : d < n)
    (k : ∀ g c' css2, OV by_ (some ⟨g, 0, none⟩) l2.length c' → OwnR R sz J l2 css2 → AtG n ds ((d, .slice (some ⟨g, 0, none⟩) l2.length c') :: fr) I O0 w J (x0 :: x1 :: x2 :: x3 :: .row (some ⟨g, 0, none⟩) e css2.flatten (c' * sz) :: Rr) K) : Lo P n ds fr I O0 w J (x0 :: x1 :: x2 :: x3 :: .row A e css.flatten (c * sz) :: Rr) o Q K :=
  w_append [x0, x1, x2, x3] hT hi hzs hsz hby0 ho hs hO hv hx hc hY hm h0 h1 hby l2 hl2 hd hn k
theorem w_store5 {x0 x1 x2 x3 x4 : Ent} {t : TypeId} {x y : Operand} {b j k m : Nat} {T : TypeId} {cs cs' : List Value} {v : Value} {Rr : List Ent} (hk : (P.info? t).map (·.size) = some k) (ho : o.op = .store t x y) (hx : opv fr x = some (.pointer (some ⟨b, j, none⟩))) (hy : opv fr y = some v)
    (h1 : v.cells.toList.all (·.oneCell') = true) (hs : v.cells.size = k) (hj : j + k ≤ cs.length) (hcs : setL cs j v.cells.toList = cs') (hd : o.dst = none)
    (k : AtG n ds fr I O0 w J (x0 :: x1 :: x2 :: x3 :: x4 :: .cells b T cs' m :: Rr) K) : Lo P n ds fr I O0 w J (x0 :: x1 :: x2 :: x3 :: x4 :: .cells b T cs m :: Rr) o Q K := w_store [x0, x1, x2, x3, x4] hk ho hx hy h1 hs hj hcs hd k
theorem w_append5 {x0 x1 x2 x3 x4 : Ent} {s x : Operand} {t e : TypeId} {z : Value} {c m cx b j d : Nat} {css cys : List (List Value)} {ys : List α} {Rr : List Ent} (hT : P.underlying t = some (.slice e)) (hi : (P.info? e).map (fun i => (i.zero, i.size, i.bytes)) = some (some z, sz, by_)) (hzs : z.cells.size = sz) (hsz : 0 < sz) (hby0 : 0 < by_)
    (ho : o.op = .call { callee := .builtin .append, args := #[s, x], argTypes := #[t, t] }) (hs : opv fr s = some (.slice A l.length c)) (hO : OwnR R sz J l css) (hv : OV by_ A l.length c) (hx : opv fr x = some (.slice (some ⟨b, j, none⟩) m cx)) (hc : Cls J (x0 :: x1 :: x2 :: x3 :: x4 :: .row A e css.flatten (c * sz) :: Rr) b j cys.flatten) (hY : OwnR R sz J ys cys) (hm : ys.length = m) (h0 : 0 < m)
    (h1 : ∀ u ∈ cys.flatten, u.oneCell' = true) (hby : (l.length + m) * by_ ≤ 140737488351232) (l2 : List α) (hl2 : l ++ ys = l2) (hd : o.dst = some d) (hn : d < n)
    (k : ∀ g c' css2, OV by_ (some ⟨g, 0, none⟩) l2.length c' → OwnR R sz J l2 css2 → AtG n ds ((d, .slice (some ⟨g, 0, none⟩) l2.length c') :: fr) I O0 w J (x0 :: x1 :: x2 :: x3 :: x4 :: .row (some ⟨g, 0, none⟩) e css2.flatten (c' * sz) :: Rr) K) : Lo P n ds fr I O0 w J (x0 :: x1 :: x2 :: x3 :: x4 :: .row A e css.flatten (c * sz) :: Rr) o Q K :=
  w_append [x0, x1, x2, x3, x4] hT hi hzs hsz hby0 ho hs hO hv hx hc hY hm h0 h1 hby l2 hl2 hd hn k
theorem w_store6 {x0 x1 x2 x3 x4 x5 : Ent} {t : TypeId} {x y : Operand} {b j k m : Nat} {T : TypeId} {cs cs' : List Value} {v : Value} {Rr : List Ent} (hk : (P.info? t).map (·.size) = some k) (ho : o.op = .store t x y) (hx : opv fr x = some (.pointer (some ⟨b, j, none⟩))) (hy : opv fr y = some v)
    (h1 : v.cells.toList.all (·.oneCell') = true) (hs : v.cells.size = k) (hj : j + k ≤ cs.length) (hcs : setL cs j v.cells.toList = cs') (hd : o.dst = none)
    (k : AtG n ds fr I O0 w J (x0 :: x1 :: x2 :: x3 :: x4 :: x5 :: .cells b T cs' m :: Rr) K) : Lo P n ds fr I O0 w J (x0 :: x1 :: x2 :: x3 :: x4 :: x5 :: .cells b T cs m :: Rr) o Q K := w_store [x0, x1, x2, x3, x4, x5] hk ho hx hy h1 hs hj hcs hd k
theorem w_append6 {x0 x1 x2 x3 x4 x5 : Ent} {s x : Operand} {t e : TypeId} {z : Value} {c m cx b j d : Nat} {css cys : List (List Value)} {ys : List α} {Rr : List Ent} (hT : P.underlying t = some (.slice e)) (hi : (P.info? e).map (fun i => (i.zero, i.size, i.bytes)) = some (some z, sz, by_)) (hzs : z.cells.size = sz) (hsz : 0 < sz) (hby0 : 0 < by_)
    (ho : o.op = .call { callee := .builtin .append, args := #[s, x], argTypes := #[t, t] }) (hs : opv fr s = some (.slice A l.length c)) (hO : OwnR R sz J l css) (hv : OV by_ A l.length c) (hx : opv fr x = some (.slice (some ⟨b, j, none⟩) m cx)) (hc : Cls J (x0 :: x1 :: x2 :: x3 :: x4 :: x5 :: .row A e css.flatten (c * sz) :: Rr) b j cys.flatten) (hY : OwnR R sz J ys cys) (hm : ys.length = m) (h0 : 0 < m)
    (h1 : ∀ u ∈ cys.flatten, u.oneCell' = true) (hby : (l.length + m) * by_ ≤ 140737488351232) (l2 : List α) (hl2 : l ++ ys = l2) (hd : o.dst = some d) (hn : d < n)
    (k : ∀ g c' css2, OV by_ (some ⟨g, 0, none⟩) l2.length c' → OwnR R sz J l2 css2 → AtG n ds ((d, .slice (some ⟨g, 0, none⟩) l2.length c') :: fr) I O0 w J (x0 :: x1 :: x2 :: x3 :: x4 :: x5 :: .row (some ⟨g, 0, none⟩) e css2.flatten (c' * sz) :: Rr) K) : Lo P n ds fr I O0 w J (x0 :: x1 :: x2 :: x3 :: x4 :: x5 :: .row A e css.flatten (c * sz) :: Rr) o Q K :=
  w_append [x0, x1, x2, x3, x4, x5] hT hi hzs hsz hby0 ho hs hO hv hx hc hY hm h0 h1 hby l2 hl2 hd hn k
theorem w_store7 {x0 x1 x2 x3 x4 x5 x6 : Ent} {t : TypeId} {x y : Operand} {b j k m : Nat} {T : TypeId} {cs cs' : List Value} {v : Value} {Rr : List Ent} (hk : (P.info? t).map (·.size) = some k) (ho : o.op = .store t x y) (hx : opv fr x = some (.pointer (some ⟨b, j, none⟩))) (hy : opv fr y = some v)
    (h1 : v.cells.toList.all (·.oneCell') = true) (hs : v.cells.size = k) (hj : j + k ≤ cs.length) (hcs : setL cs j v.cells.toList = cs') (hd : o.dst = none)
    (k : AtG n ds fr I O0 w J (x0 :: x1 :: x2 :: x3 :: x4 :: x5 :: x6 :: .cells b T cs' m :: Rr) K) : Lo P n ds fr I O0 w J (x0 :: x1 :: x2 :: x3 :: x4 :: x5 :: x6 :: .cells b T cs m :: Rr) o Q K := w_store [x0, x1, x2, x3, x4, x5, x6] hk ho hx hy h1 hs hj hcs hd k
theorem w_append7 {x0 x1 x2 x3 x4 x5 x6 : Ent} {s x : Operand} {t e : TypeId} {z : Value} {c m cx b j d : Nat} {css cys : List (List Value)} {ys : List α} {Rr : List Ent} (hT : P.underlying t = some (.slice e)) (hi : (P.info? e).map (fun i => (i.zero, i.size, i.bytes)) = some (some z, sz, by_)) (hzs : z.cells.size = sz) (hsz : 0 < sz) (hby0 : 0 < by_)
    (ho : o.op = .call { callee := .builtin .append, args := #[s, x], argTypes := #[t, t] }) (hs : opv fr s = some (.slice A l.length c)) (hO : OwnR R sz J l css) (hv : OV by_ A l.length c) (hx : opv fr x = some (.slice (some ⟨b, j, none⟩) m cx)) (hc : Cls J (x0 :: x1 :: x2 :: x3 :: x4 :: x5 :: x6 :: .row A e css.flatten (c * sz) :: Rr) b j cys.flatten) (hY : OwnR R sz J ys cys) (hm : ys.length = m) (h0 : 0 < m)
    (h1 : ∀ u ∈ cys.flatten, u.oneCell' = true) (hby : (l.length + m) * by_ ≤ 140737488351232) (l2 : List α) (hl2 : l ++ ys = l2) (hd : o.dst = some d) (hn : d < n)
    (k : ∀ g c' css2, OV by_ (some ⟨g, 0, none⟩) l2.length c' → OwnR R sz J l2 css2 → AtG n ds ((d, .slice (some ⟨g, 0, none⟩) l2.length c') :: fr) I O0 w J (x0 :: x1 :: x2 :: x3 :: x4 :: x5 :: x6 :: .row (some ⟨g, 0, none⟩) e css2.flatten (c' * sz) :: Rr) K) : Lo P n ds fr I O0 w J (x0 :: x1 :: x2 :: x3 :: x4 :: x5 :: x6 :: .row A e css.flatten (c * sz) :: Rr) o Q K :=
  w_append [x0, x1, x2, x3, x4, x5, x6] hT hi hzs hsz hby0 ho hs hO hv hx hc hY hm h0 h1 hby l2 hl2 hd hn k
theorem w_store8 {x0 x1 x2 x3 x4 x5 x6 x7 : Ent} {t : TypeId} {x y : Operand} {b j k m : Nat} {T : TypeId} {cs cs' : List Value} {v : Value} {Rr : List Ent} (hk : (P.info? t).map (·.size) = some k) (ho : o.op = .store t x y) (hx : opv fr x = some (.pointer (some ⟨b, j, none⟩))) (hy : opv fr y = some v)
    (h1 : v.cells.toList.all (·.oneCell') = true) (hs : v.cells.size = k) (hj : j + k ≤ cs.length) (hcs : setL cs j v.cells.toList = cs') (hd : o.dst = none)
    (k : AtG n ds fr I O0 w J (x0 :: x1 :: x2 :: x3 :: x4 :: x5 :: x6 :: x7 :: .cells b T cs' m :: Rr) K) : Lo P n ds fr I O0 w J (x0 :: x1 :: x2 :: x3 :: x4 :: x5 :: x6 :: x7 :: .cells b T cs m :: Rr) o Q K := w_store [x0, x1, x2, x3, x4, x5, x6, x7] hk ho hx hy h1 hs hj hcs hd k
theorem w_append8 {x0 x1 x2 x3 x4 x5 x6 x7 : Ent} {s x : Operand} {t e : TypeId} {z : Value} {c m cx b j d : Nat} {css cys : List (List Value)} {ys : List α} {Rr : List Ent} (hT : P.underlying t = some (.slice e)) (hi : (P.info? e).map (fun i => (i.zero, i.size, i.bytes)) = some (some z, sz, by_)) (hzs : z.cells.size = sz) (hsz : 0 < sz) (hby0 : 0 < by_)
    (ho : o.op = .call { callee := .builtin .append, args := #[s, x], argTypes := #[t, t] }) (hs : opv fr s = some (.slice A l.length c)) (hO : OwnR R sz J l css) (hv : OV by_ A l.length c) (hx : opv fr x = some (.slice (some ⟨b, j, none⟩) m cx)) (hc : Cls J (x0 :: x1 :: x2 :: x3 :: x4 :: x5 :: x6 :: x7 :: .row A e css.flatten (c * sz) :: Rr) b j cys.flatten) (hY : OwnR R sz J ys cys) (hm : ys.length = m) (h0 : 0 < m)
    (h1 : ∀ u ∈ cys.flatten, u.oneCell' = true) (hby : (l.length + m) * by_ ≤ 140737488351232) (l2 : List α) (hl2 : l ++ ys = l2) (hd : o.dst = some d) (hn : d < n)
    (k : ∀ g c' css2, OV by_ (some ⟨g, 0, none⟩) l2.length c' → OwnR R sz J l2 css2 → AtG n ds ((d, .slice (some ⟨g, 0, none⟩) l2.length c') :: fr) I O0 w J (x0 :: x1 :: x2 :: x3 :: x4 :: x5 :: x6 :: x7 :: .row (some ⟨g, 0, none⟩) e css2.flatten (c' * sz) :: Rr) K) : Lo P n ds fr I O0 w J (x0 :: x1 :: x2 :: x3 :: x4 :: x5 :: x6 :: x7 :: .row A e css.flatten (c * sz) :: Rr) o Q K :=
  w_append [x0, x1, x2, x3, x4, x5, x6, x7] hT hi hzs hsz hby0 ho hs hO hv hx hc hY hm h0 h1 hby l2 hl2 hd hn k
theorem w_store9 {x0 x1 x2 x3 x4 x5 x6 x7 x8 : Ent} {t : TypeId} {x y : Operand} {b j k m : Nat} {T : TypeId} {cs cs' : List Value} {v : Value} {Rr : List Ent} (hk : (P.info? t).map (·.size) = some k) (ho : o.op = .store t x y) (hx : opv fr x = some (.pointer (some ⟨b, j, none⟩))) (hy : opv fr y = some v)
    (h1 : v.cells.toList.all (·.oneCell') = true) (hs : v.cells.size = k) (hj : j + k ≤ cs.length) (hcs : setL cs j v.cells.toList = cs') (hd : o.dst = none)
    (k : AtG n ds fr I O0 w J (x0 :: x1 :: x2 :: x3 :: x4 :: x5 :: x6 :: x7 :: x8 :: .cells b T cs' m :: Rr) K) : Lo P n ds fr I O0 w J (x0 :: x1 :: x2 :: x3 :: x4 :: x5 :: x6 :: x7 :: x8 :: .cells b T cs m :: Rr) o Q K := w_store [x0, x1, x2, x3, x4, x5, x6, x7, x8] hk ho hx hy h1 hs hj hcs hd k
theorem w_append9 {x0 x1 x2 x3 x4 x5 x6 x7 x8 : Ent} {s x : Operand} {t e : TypeId} {z : Value} {c m cx b j d : Nat} {css cys : List (List Value)} {ys : List α} {Rr : List Ent} (hT : P.underlying t = some (.slice e)) (hi : (P.info? e).map (fun i => (i.zero, i.size, i.bytes)) = some (some z, sz, by_)) (hzs : z.cells.size = sz) (hsz : 0 < sz) (hby0 : 0 < by_)
    (ho : o.op = .call { callee := .builtin .append, args := #[s, x], argTypes := #[t, t] }) (hs : opv fr s = some (.slice A l.length c)) (hO : OwnR R sz J l css) (hv : OV by_ A l.length c) (hx : opv fr x = some (.slice (some ⟨b, j, none⟩) m cx)) (hc : Cls J (x0 :: x1 :: x2 :: x3 :: x4 :: x5 :: x6 :: x7 :: x8 :: .row A e css.flatten (c * sz) :: Rr) b j cys.flatten) (hY : OwnR R sz J ys cys) (hm : ys.length = m) (h0 : 0 < m)
    (h1 : ∀ u ∈ cys.flatten, u.oneCell' = true) (hby : (l.length + m) * by_ ≤ 140737488351232) (l2 : List α) (hl2 : l ++ ys = l2) (hd : o.dst = some d) (hn : d < n)
    (k : ∀ g c' css2, OV by_ (some ⟨g, 0, none⟩) l2.length c' → OwnR R sz J l2 css2 → AtG n ds ((d, .slice (some ⟨g, 0, none⟩) l2.length c') :: fr) I O0 w J (x0 :: x1 :: x2 :: x3 :: x4 :: x5 :: x6 :: x7 :: x8 :: .row (some ⟨g, 0, none⟩) e css2.flatten (c' * sz) :: Rr) K) : Lo P n ds fr I O0 w J (x0 :: x1 :: x2 :: x3 :: x4 :: x5 :: x6 :: x7 :: x8 :: .row A e css.flatten (c * sz) :: Rr) o Q K :=
  w_append [x0, x1, x2, x3, x4, x5, x6, x7, x8] hT hi hzs hsz hby0 ho hs hO hv hx hc hY hm h0 h1 hby l2 hl2 hd hn k
theorem w_store10 {x0 x1 x2 x3 x4 x5 x6 x7 x8 x9 : Ent} {t : TypeId} {x y : Operand} {b j k m : Nat} {T : TypeId} {cs cs' : List Value} {v : Value} {Rr : List Ent} (hk : (P.info? t).map (·.size) = some k) (ho : o.op = .store t x y) (hx : opv fr x = some (.pointer (some ⟨b, j, none⟩))) (hy : opv fr y = some v)
    (h1 : v.cells.toList.all (·.oneCell') = true) (hs : v.cells.size = k) (hj : j + k ≤ cs.length) (hcs : setL cs j v.cells.toList = cs') (hd : o.dst = none)
    (k : AtG n ds fr I O0 w J (x0 :: x1 :: x2 :: x3 :: x4 :: x5 :: x6 :: x7 :: x8 :: x9 :: .cells b T cs' m :: Rr) K) : Lo P n ds fr I O0 w J (x0 :: x1 :: x2 :: x3 :: x4 :: x5 :: x6 :: x7 :: x8 :: x9 :: .cells b T cs m :: Rr) o Q K := w_store [x0, x1, x2, x3, x4, x5, x6, x7, x8, x9] hk ho hx hy h1 hs hj hcs hd k
theorem w_append10 {x0 x1 x2 x3 x4 x5 x6 x7 x8 x9 : Ent} {s x : Operand} {t e : TypeId} {z : Value} {c m cx b j d : Nat} {css cys : List (List Value)} {ys : List α} {Rr : List Ent} (hT : P.underlying t = some (.slice e)) (hi : (P.info? e).map (fun i => (i.zero, i.size, i.bytes)) = some (some z, sz, by_)) (hzs : z.cells.size = sz) (hsz : 0 < sz) (hby0 : 0 < by_)
    (ho : o.op = .call { callee := .builtin .append, args := #[s, x], argTypes := #[t, t] }) (hs : opv fr s = some (.slice A l.length c)) (hO : OwnR R sz J l css) (hv : OV by_ A l.length c) (hx : opv fr x = some (.slice (some ⟨b, j, none⟩) m cx)) (hc : Cls J (x0 :: x1 :: x2 :: x3 :: x4 :: x5 :: x6 :: x7 :: x8 :: x9 :: .row A e css.flatten (c * sz) :: Rr) b j cys.flatten) (hY : OwnR R sz J ys cys) (hm : ys.length = m) (h0 : 0 < m)
    (h1 : ∀ u ∈ cys.flatten, u.oneCell' = true) (hby : (l.length + m) * by_ ≤ 140737488351232) (l2 : List α) (hl2 : l ++ ys = l2) (hd : o.dst = some d) (hn : d < n)
    (k : ∀ g c' css2, OV by_ (some ⟨g, 0, none⟩) l2.length c' → OwnR R sz J l2 css2 → AtG n ds ((d, .slice (some ⟨g, 0, none⟩) l2.length c') :: fr) I O0 w J (x0 :: x1 :: x2 :: x3 :: x4 :: x5 :: x6 :: x7 :: x8 :: x9 :: .row (some ⟨g, 0, none⟩) e css2.flatten (c' * sz) :: Rr) K) : Lo P n ds fr I O0 w J (x0 :: x1 :: x2 :: x3 :: x4 :: x5 :: x6 :: x7 :: x8 :: x9 :: .row A e css.flatten (c * sz) :: Rr) o Q K :=
  w_append [x0, x1, x2, x3, x4, x5, x6, x7, x8, x9] hT hi hzs hsz hby0 ho hs hO hv hx hc hY hm h0 h1 hby l2 hl2 hd hn k
theorem w_store11 {x0 x1 x2 x3 x4 x5 x6 x7 x8 x9 x10 : Ent} {t : TypeId} {x y : Operand} {b j k m : Nat} {T : TypeId} {cs cs' : List Value} {v : Value} {Rr : List Ent} (hk : (P.info? t).map (·.size) = some k) (ho : o.op = .store t x y) (hx : opv fr x = some (.pointer (some ⟨b, j, none⟩))) (hy : opv fr y = some v)
    (h1 : v.cells.toList.all (·.oneCell') = true) (hs : v.cells.size = k) (hj : j + k ≤ cs.length) (hcs : setL cs j v.cells.toList = cs') (hd : o.dst = none)
    (k : AtG n ds fr I O0 w J (x0 :: x1 :: x2 :: x3 :: x4 :: x5 :: x6 :: x7 :: x8 :: x9 :: x10 :: .cells b T cs' m :: Rr) K) : Lo P n ds fr I O0 w J (x0 :: x1 :: x2 :: x3 :: x4 :: x5 :: x6 :: x7 :: x8 :: x9 :: x10 :: .cells b T cs m :: Rr) o Q K := w_store [x0, x1, x2, x3, x4, x5, x6, x7, x8, x9, x10] hk ho hx hy h1 hs hj hcs hd k
theorem w_append11 {x0 x1 x2 x3 x4 x5 x6 x7 x8 x9 x10 : Ent} {s x : Operand} {t e : TypeId} {z : Value} {c m cx b j d : Nat} {css cys : List (List Value)} {ys : List α} {Rr : List Ent} (hT : P.underlying t = some (.slice e)) (hi : (P.info? e).map (fun i => (i.zero, i.size, i.bytes)) = some (some z, sz, by_)) (hzs : z.cells.size = sz) (hsz : 0 < sz) (hby0 : 0 < by_)
    (ho : o.op = .call { callee := .builtin .append, args := #[s, x], argTypes := #[t, t] }) (hs : opv fr s = some (.slice A l.length c)) (hO : OwnR R sz J l css) (hv : OV by_ A l.length c) (hx : opv fr x = some (.slice (some ⟨b, j, none⟩) m cx)) (hc : Cls J (x0 :: x1 :: x2 :: x3 :: x4 :: x5 :: x6 :: x7 :: x8 :: x9 :: x10 :: .row A e css.flatten (c * sz) :: Rr) b j cys.flatten) (hY : OwnR R sz J ys cys) (hm : ys.length = m) (h0 : 0 < m)
    (h1 : ∀ u ∈ cys.flatten, u.oneCell' = true) (hby : (l.length + m) * by_ ≤ 140737488351232) (l2 : List α) (hl2 : l ++ ys = l2) (hd : o.dst = some d) (hn : d < n)
    (k : ∀ g c' css2, OV by_ (some ⟨g, 0, none⟩) l2.length c' → OwnR R sz J l2 css2 → AtG n ds ((d, .slice (some ⟨g, 0, none⟩) l2.length c') :: fr) I O0 w J (x0 :: x1 :: x2 :: x3 :: x4 :: x5 :: x6 :: x7 :: x8 :: x9 :: x10 :: .row (some ⟨g, 0, none⟩) e css2.flatten (c' * sz) :: Rr) K) : Lo P n ds fr I O0 w J (x0 :: x1 :: x2 :: x3 :: x4 :: x5 :: x6 :: x7 :: x8 :: x9 :: x10 :: .row A e css.flatten (c * sz) :: Rr) o Q K :=
  w_append [x0, x1, x2, x3, x4, x5, x6, x7, x8, x9, x10] hT hi hzs hsz hby0 ho hs hO hv hx hc hY hm h0 h1 hby l2 hl2 hd hn k
theorem w_store12 {x0 x1 x2 x3 x4 x5 x6 x7 x8 x9 x10 x11 : Ent} {t : TypeId} {x y : Operand} {b j k m : Nat} {T : TypeId} {cs cs' : List Value} {v : Value} {Rr : List Ent} (hk : (P.info? t).map (·.size) = some k) (ho : o.op = .store t x y) (hx : opv fr x = some (.pointer (some ⟨b, j, none⟩))) (hy : opv fr y = some v)
    (h1 : v.cells.toList.all (·.oneCell') = true) (hs : v.cells.size = k) (hj : j + k ≤ cs.length) (hcs : setL cs j v.cells.toList = cs') (hd : o.dst = none)
    (k : AtG n ds fr I O0 w J (x0 :: x1 :: x2 :: x3 :: x4 :: x5 :: x6 :: x7 :: x8 :: x9 :: x10 :: x11 :: .cells b T cs' m :: Rr) K) : Lo P n ds fr I O0 w J (x0 :: x1 :: x2 :: x3 :: x4 :: x5 :: x6 :: x7 :: x8 :: x9 :: x10 :: x11 :: .cells b T cs m :: Rr) o Q K := w_store [x0, x1, x2, x3, x4, x5, x6, x7, x8, x9, x10, x11] hk ho hx hy h1 hs hj hcs hd k
theorem w_append12 {x0 x1 x2 x3 x4 x5 x6 x7 x8 x9 x10 x11 : Ent} {s x : Operand} {t e : TypeId} {z : Value} {c m cx b j d : Nat} {css cys : List (List Value)} {ys : List α} {Rr : List Ent} (hT : P.underlying t = some (.slice e)) (hi : (P.info? e).map (fun i => (i.zero, i.size, i.bytes)) = some (some z, sz, by_)) (hzs : z.cells.size = sz) (hsz : 0 < sz) (hby0 : 0 < by_)
    (ho : o.op = .call { callee := .builtin .append, args := #[s, x], argTypes := #[t, t] }) (hs : opv fr s = some (.slice A l.length c)) (hO : OwnR R sz J l css) (hv : OV by_ A l.length c) (hx : opv fr x = some (.slice (some ⟨b, j, none⟩) m cx)) (hc : Cls J (x0 :: x1 :: x2 :: x3 :: x4 :: x5 :: x6 :: x7 :: x8 :: x9 :: x10 :: x11 :: .row A e css.flatten (c * sz) :: Rr) b j cys.flatten) (hY : OwnR R sz J ys cys) (hm : ys.length = m) (h0 : 0 < m)
    (h1 : ∀ u ∈ cys.flatten, u.oneCell' = true) (hby : (l.length + m) * by_ ≤ 140737488351232) (l2 : List α) (hl2 : l ++ ys = l2) (hd : o.dst = some d) (hn : d < n)
    (k : ∀ g c' css2, OV by_ (some ⟨g, 0, none⟩) l2.length c' → OwnR R sz J l2 css2 → AtG n ds ((d, .slice (some ⟨g, 0, none⟩) l2.length c') :: fr) I O0 w J (x0 :: x1 :: x2 :: x3 :: x4 :: x5 :: x6 :: x7 :: x8 :: x9 :: x10 :: x11 :: .row (some ⟨g, 0, none⟩) e css2.flatten (c' * sz) :: Rr) K) : Lo P n ds fr I O0 w J (x0 :: x1 :: x2 :: x3 :: x4 :: x5 :: x6 :: x7 :: x8 :: x9 :: x10 :: x11 :: .row A e css.flatten (c * sz) :: Rr) o Q K :=
  w_append [x0, x1, x2, x3, x4, x5, x6, x7, x8, x9, x10, x11] hT hi hzs hsz hby0 ho hs hO hv hx hc hY hm h0 h1 hby l2 hl2 hd hn k
theorem w_store13 {x0 x1 x2 x3 x4 x5 x6 x7 x8 x9 x10 x11 x12 : Ent} {t : TypeId} {x y : Operand} {b j k m : Nat} {T : TypeId} {cs cs' : List Value} {v : Value} {Rr : List Ent} (hk : (P.info? t).map (·.size) = some k) (ho : o.op = .store t x y) (hx : opv fr x = some (.pointer (some ⟨b, j, none⟩))) (hy : opv fr y = some v)
    (h1 : v.cells.toList.all (·.oneCell') = true) (hs : v.cells.size = k) (hj : j + k ≤ cs.length) (hcs : setL cs j v.cells.toList = cs') (hd : o.dst = none)
    (k : AtG n ds fr I O0 w J (x0 :: x1 :: x2 :: x3 :: x4 :: x5 :: x6 :: x7 :: x8 :: x9 :: x10 :: x11 :: x12 :: .cells b T cs' m :: Rr) K) : Lo P n ds fr I O0 w J (x0 :: x1 :: x2 :: x3 :: x4 :: x5 :: x6 :: x7 :: x8 :: x9 :: x10 :: x11 :: x12 :: .cells b T cs m :: Rr) o Q K := w_store [x0, x1, x2, x3, x4, x5, x6, x7, x8, x9, x10, x11, x12] hk ho hx hy h1 hs hj hcs hd k
theorem w_append13 {x0 x1 x2 x3 x4 x5 x6 x7 x8 x9 x10 x11 x12 : Ent} {s x : Operand} {t e : TypeId} {z : Value} {c m cx b j d : Nat} {css cys : List (List Value)} {ys : List α} {Rr : List Ent} (hT : P.underlying t = some (.slice e)) (hi : (P.info? e).map (fun i => (i.zero, i.size, i.bytes)) = some (some z, sz, by_)) (hzs : z.cells.size = sz) (hsz : 0 < sz) (hby0 : 0 < by_)
    (ho : o.op = .call { callee := .builtin .append, args := #[s, x], argTypes := #[t, t] }) (hs : opv fr s = some (.slice A l.length c)) (hO : OwnR R sz J l css) (hv : OV by_ A l.length c) (hx : opv fr x = some (.slice (some ⟨b, j, none⟩) m cx)) (hc : Cls J (x0 :: x1 :: x2 :: x3 :: x4 :: x5 :: x6 :: x7 :: x8 :: x9 :: x10 :: x11 :: x12 :: .row A e css.flatten (c * sz) :: Rr) b j cys.flatten) (hY : OwnR R sz J ys cys) (hm : ys.length = m) (h0 : 0 < m)
    (h1 : ∀ u ∈ cys.flatten, u.oneCell' = true) (hby : (l.length + m) * by_ ≤ 140737488351232) (l2 : List α) (hl2 : l ++ ys = l2) (hd : o.dst = some d) (hn : d < n)
    (k : ∀ g c' css2, OV by_ (some ⟨g, 0, none⟩) l2.length c' → OwnR R sz J l2 css2 → AtG n ds ((d, .slice (some ⟨g, 0, none⟩) l2.length c') :: fr) I O0 w J (x0 :: x1 :: x2 :: x3 :: x4 :: x5 :: x6 :: x7 :: x8 :: x9 :: x10 :: x11 :: x12 :: .row (some ⟨g, 0, none⟩) e css2.flatten (c' * sz) :: Rr) K) : Lo P n ds fr I O0 w J (x0 :: x1 :: x2 :: x3 :: x4 :: x5 :: x6 :: x7 :: x8 :: x9 :: x10 :: x11 :: x12 :: .row A e css.flatten (c * sz) :: Rr) o Q K :=
  w_append [x0, x1, x2, x3, x4, x5, x6, x7, x8, x9, x10, x11, x12] hT hi hzs hsz hby0 ho hs hO hv hx hc hY hm h0 h1 hby l2 hl2 hd hn k
end
end Go.Proofs.YtoafojcfledkcaaDoor
