/- The law TypesLie: texts of right types tell them apart; parts lie one behind the other. -/
import Derived.Test.YtoafojcfledkcaaDoorLawTell
namespace Go.Proofs.YtoafojcfledkcaaDoor
set_option linter.all false
def dval : List UInt8 → Nat → Nat
  | [], a => a
  | b :: l, a => dval l (a * 10 + (b.toNat - 48))
theorem dval_append (l m : List UInt8) : ∀ a, dval (l ++ m) a = dval m (dval l a) := by
  induction l with
  | nil => intro a; rfl
  | cons b l ih => intro a; simp only [List.cons_append, dval, ih]
theorem dig_toNat {n : Nat} (h : n < 10) : (UInt8.ofNat (48 + n)).toNat = 48 + n := by
  simp only [UInt8.toNat_ofNat']
  omega
theorem dec_spec (n : Nat) : ∀ u, u ≤ n → dval (Lib.decDigits u) 0 = u ∧ ∀ b ∈ Lib.decDigits u, 48 ≤ b.toNat ∧ b.toNat ≤ 57 := by
  induction n using Nat.strongRecOn with
  | _ n ih =>
    intro u hu
    by_cases h : u < 10
    · rw [Lib.decDigits_one h]
      refine ⟨by simp only [dval, dig_toNat h]; omega, fun b hb => ?_⟩
      simp only [List.mem_singleton] at hb
      rw [hb, dig_toNat h]; omega
    · obtain ⟨h1, h2⟩ := ih (u / 10) (by omega) (u / 10) (Nat.le_refl _)
      have h10 : u % 10 < 10 := by omega
      rw [Lib.decDigits, dif_neg h]
      refine ⟨by rw [dval_append, h1]; simp only [dval, dig_toNat h10]; omega, fun b hb => ?_⟩
      rcases List.mem_append.1 hb with hb | hb
      · exact h2 b hb
      · simp only [List.mem_singleton] at hb
        rw [hb, dig_toNat h10]; omega
theorem dec_inj {u v : Nat} (h : Lib.decDigits u = Lib.decDigits v) : u = v := by
  rw [← (dec_spec u u (Nat.le_refl _)).1, h, (dec_spec v v (Nat.le_refl _)).1]
theorem split_at (z : UInt8) : ∀ (a b r s : List UInt8), (∀ x ∈ a, x ≠ z) → (∀ x ∈ b, x ≠ z) → a ++ z :: r = b ++ z :: s → a = b ∧ r = s
  | [], [], r, s, _, _, h => by simpa using h
  | [], y :: b, r, s, _, hb, h => by
    simp only [List.nil_append, List.cons_append, List.cons.injEq] at h
    exact absurd h.1.symm (hb y (by simp))
  | x :: a, [], r, s, ha, _, h => by
    simp only [List.nil_append, List.cons_append, List.cons.injEq] at h
    exact absurd h.1 (ha x (by simp))
  | x :: a, y :: b, r, s, ha, hb, h => by
    simp only [List.cons_append, List.cons.injEq] at h
    obtain ⟨h1, h2⟩ := split_at z a b r s (fun w hw => ha w (by simp [hw])) (fun w hw => hb w (by simp [hw])) h.2
    exact ⟨by rw [h.1, h1], h2⟩
theorem tails_inj (l : List GType) : (∀ x ∈ l, ∀ u, Rgt u → ∀ r s, txt x ++ r = txt u ++ s → x = u ∧ r = s) → ∀ (m : List GType) (r s : List UInt8), (∀ u ∈ m, Rgt u) →
    Lib.joinTail [44] (txts l) ++ 41 :: r = Lib.joinTail [44] (txts m) ++ 41 :: s → l = m ∧ r = s := by
  induction l with
  | nil =>
    intro _ m r s _ h
    cases m with
    | nil => simpa [txts, Lib.joinTail] using h
    | cons y m => simp [txts, Lib.joinTail] at h
  | cons x l ih =>
    intro hx m r s hm h
    cases m with
    | nil => simp [txts, Lib.joinTail] at h
    | cons y m =>
      have e : ∀ (z : GType) (q : List GType) (w : List UInt8), Lib.joinTail [44] (txts (z :: q)) ++ w = 44 :: (txt z ++ (Lib.joinTail [44] (txts q) ++ w)) := fun z q w => by simp [txts, Lib.joinTail]
      rw [e, e] at h
      simp only [List.cons.injEq, true_and] at h
      obtain ⟨h1, h2⟩ := hx x (by simp) y (hm y (by simp)) _ _ h
      obtain ⟨h3, h4⟩ := ih (fun z hz => hx z (by simp [hz])) m r s (fun z hz => hm z (by simp [hz])) h2
      exact ⟨by rw [h1, h3], h4⟩
theorem right_cases {t : GType} (h : Rgt t) : (t = ⟨1, 0, []⟩ ∧ txt t = [105, 110, 116]) ∨ (∃ x, t = ⟨2, 0, [x]⟩ ∧ txt t = 42 :: txt x ∧ Rgt x) ∨
    (∃ x c, t = ⟨3, (c : Nat), [x]⟩ ∧ txt t = 91 :: (Lib.decDigits c ++ 93 :: txt x) ∧ Rgt x) ∨ (∃ x l, t = ⟨4, 0, x :: l⟩ ∧ txt t = 40 :: (txt x ++ (Lib.joinTail [44] (txts l) ++ [41])) ∧ Rgt x ∧ ∀ y ∈ l, Rgt y) := by
  obtain ⟨hL, _, hk0⟩ := (rgt_eq t).1 h
  obtain ⟨k, c, l⟩ := t
  have hk : ∀ x ∈ l, Rgt x := (rgts_iff _).1 hk0
  clear hk0 h
  simp only at hL
  rcases hL with ⟨h1, h2, h3⟩ | ⟨h1, h2, h3⟩ | ⟨h1, h2, h3, h4⟩ | ⟨h1, h2, h3, h4⟩
  · obtain rfl := List.eq_nil_of_length_eq_zero h2
    exact .inl ⟨by rw [h1, h3], by rw [txt_eq]; simp [h1]⟩
  · obtain ⟨x, rfl⟩ := List.length_eq_one_iff.1 h2
    exact .inr (.inl ⟨x, by rw [h1, h3], by rw [txt_eq]; simp [h1, txth], hk x (by simp)⟩)
  · obtain ⟨x, rfl⟩ := List.length_eq_one_iff.1 h2
    obtain ⟨u, rfl⟩ : ∃ u : Nat, c = (u : Int) := ⟨c.toNat, by omega⟩
    exact .inr (.inr (.inl ⟨x, u, by rw [h1], by rw [txt_eq, Lib.itoa_nonneg]; simp [h1, txth], hk x (by simp)⟩))
  · obtain ⟨x, r, rfl⟩ := List.exists_cons_of_length_pos h2
    exact .inr (.inr (.inr ⟨x, r, by rw [h1, h4], by rw [txt_eq]; simp only [h1, txts, Lib.join_cons]; simp, hk x (by simp), fun y hy => hk y (by simp [hy])⟩))
theorem txt_inj : ∀ (n : Nat) (t u : GType), siz t ≤ n → Rgt t → Rgt u → ∀ r s, txt t ++ r = txt u ++ s → t = u ∧ r = s
  | 0, t, u, h, _, _ => by have := siz_pos t; omega
  | n + 1, t, u, h, ht, hu => by
    intro r s he
    rcases right_cases ht with ⟨e1, e2⟩ | ⟨x, e1, e2, hx⟩ | ⟨x, c, e1, e2, hx⟩ | ⟨x, l, e1, e2, hx, hl⟩ <;>
    rcases right_cases hu with ⟨f1, f2⟩ | ⟨y, f1, f2, hy⟩ | ⟨y, d, f1, f2, hy⟩ | ⟨y, m, f1, f2, hy, hm⟩ <;>
    rw [e2, f2] at he <;> first | (exfalso; simp at he; done) | skip
    · exact ⟨by rw [e1, f1], by simpa using he⟩
    · rw [e1, siz_eq] at h
      simp only [sizs] at h
      simp only [List.cons_append, List.cons.injEq, true_and] at he
      obtain ⟨h1, h2⟩ := txt_inj n x y (by omega) hx hy r s he
      exact ⟨by rw [e1, f1, h1], h2⟩
    · rw [e1, siz_eq] at h
      simp only [sizs] at h
      simp only [List.cons_append, List.append_assoc, List.cons.injEq, true_and] at he
      have no : ∀ c : Nat, ∀ b ∈ Lib.decDigits c, b ≠ 93 := fun c b hb e => by
        have := (dec_spec c c (Nat.le_refl _)).2 b hb
        rw [e] at this
        simp at this
      obtain ⟨h1, h2⟩ := split_at 93 _ _ _ _ (no c) (no d) he
      obtain ⟨h3, h4⟩ := txt_inj n x y (by omega) hx hy r s h2
      exact ⟨by rw [e1, f1, h3, dec_inj h1], h4⟩
    · rw [e1, siz_eq] at h
      simp only [sizs] at h
      simp only [List.cons_append, List.append_assoc, List.cons.injEq, true_and] at he
      obtain ⟨h1, h2⟩ := txt_inj n x y (by omega) hx hy _ _ he
      obtain ⟨h3, h4⟩ := tails_inj l (fun z hz w hw r s hh => txt_inj n z w (by have := siz_mem hz; omega) (hl z hz) hw r s hh) m r s hm (by simpa using h2)
      exact ⟨by rw [e1, f1, h1, h3], h4⟩
theorem txt_eq_iff {t u : GType} (ht : Rgt t) (hu : Rgt u) : txt t = txt u ↔ t = u :=
  ⟨fun h => (txt_inj _ t u (Nat.le_refl _) ht hu [] [] (by rw [h])).1, fun h => by rw [h]⟩
theorem bt_inj {a b : List UInt8} : bt a = bt b ↔ a = b := ⟨fun h => by have := congrArg (fun x => x.data.toList) h; simpa using this, fun h => by rw [h]⟩
end Go.Proofs.YtoafojcfledkcaaDoor
