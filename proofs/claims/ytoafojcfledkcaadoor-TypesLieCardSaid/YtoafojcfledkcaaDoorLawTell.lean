/- The law TypesTell. -/
import Derived.Test.YtoafojcfledkcaaDoorPureT7
namespace Go.Proofs.YtoafojcfledkcaaDoor
set_option linter.all false
theorem sameB1 (a b : GType) (h : siz a ≤ 40000) : ∃ r, Ev (fun k => types_Same.f k a b) r ∧ (r = true ↔ a = b) := same1 (siz a) a b (Nat.le_refl _) (by omega)
theorem sameB2 (a b : GType) (h : siz a ≤ 40000) : ∃ r, Ev (fun k => swageref11_Same.f k a b) r ∧ (r = true ↔ a = b) := same2 (siz a) a b (Nat.le_refl _) (by omega)
theorem same2_self (a : GType) (h : siz a ≤ 40000) : Ev (fun k => swageref11_Same.f k a a) true := by
  obtain ⟨r, hr, he⟩ := sameB2 a a h
  exact hr.of_eq (he.2 rfl)
theorem tell_j3 (p q : List GType) (t u : GType) (n : Int) (hs : siz t ≤ 40000) (hw : Wf_Type t) : Ev (fun k => swagelaw11_TypesTell.j3 k p q t u n true true t) true := by
  obtain ⟨b, s1, e1⟩ := sameB1 t u hs
  obtain ⟨b', s2, e2⟩ := sameB2 t u hs
  obtain rfl : b' = b := by cases b <;> cases b' <;> simp_all
  have o1 := offset1 t n hs
  have o2 := offset2 t n hs
  have r1 := right1 t hs
  have r2 := right2 _ t (Nat.le_refl _) hs
  have z1 := size1 t hs
  have z2 := size2 t hs
  have c1 := scalar1 t hs
  have c2 := scalar2 t hs
  have x1 := text1 _ t (Nat.le_refl _) hs hw
  have x2 := text2 _ t (Nat.le_refl _) hs hw
  have w := same2_self t hs
  refine Ev.succ ?_
  simp only [swagelaw11_TypesTell.j3]
  refine Ev.bind o1 (Ev.bind o2 ?_)
  simp only [if_true, ite_true]
  refine Ev.bind r1 (Ev.bind r2 ?_)
  obtain ⟨ov, ob⟩ := offV t n
  have tail : ∀ {g : Nat → Option Bool}, (g = fun k => ((types_Text.f k t).bind fun r173 => ((swageref11_Text.f k t).bind fun r175 => (if r173 = r175 then ((swageref11_Same.f k t t).bind fun r178 => (some r178)) else (some false))))) → Ev g true := fun h => by
    subst h
    exact Ev.bind x1 (Ev.bind x2 (Ev.yes rfl (Ev.bind w (Ev.ret _))))
  generalize scaV t = sc at c1 c2
  cases rgtB t <;> cases ob <;> cases b' <;> cases sc <;> simp only [Bool.false_eq_true, if_false, if_true, ite_true, ite_false] <;>
    refine Ev.bind z1 (Ev.bind z2 ?_) <;> simp only [Bool.false_eq_true, if_false, if_true, ite_true, ite_false] <;>
    refine Ev.bind s1 (Ev.bind s2 ?_) <;> simp only [Bool.false_eq_true, if_false, if_true, ite_true, ite_false] <;>
    refine Ev.bind c1 (Ev.bind c2 ?_) <;> simp only [Bool.false_eq_true, if_false, if_true, ite_true, ite_false] <;> exact tail rfl
theorem tell_l0 (t u : GType) (n : Int) (hs : siz t ≤ 40000) (hw : Wf_Type t) (p : GType) : ∀ (s pre : List GType), (pre ++ s).length ≤ 1000000000 →
    Ev (fun k => swagelaw11_TypesTell.l0 k (pre.length : Int) [p] (pre ++ s) true t u n true t) true
  | [], pre, hb => by
    refine Ev.succ ?_
    simp only [swagelaw11_TypesTell.l0]
    refine Ev.no (ix_end _) (Ev.yes trivial (Ev.yes (by simp) (Ev.let_ ?_)))
    exact tell_j3 _ _ t u n hs hw
  | x :: s, pre, hb => by
    refine Ev.succ ?_
    simp only [swagelaw11_TypesTell.l0]
    refine Ev.yes (ix_lt _ _ _) (Ev.yes (ix_in _ _ _) (Ev.let_ ?_))
    have ih := tell_l0 t u n hs hw p s (pre ++ [⟨-7, x.Count, x.Kids⟩]) (by simpa using hb)
    rw [rd_mid, ix_next _ _ _ hb]
    have e : List.set (pre ++ x :: s) (Int.toNat (pre.length : Int)) ⟨-7, x.Count, x.Kids⟩ = pre ++ [⟨-7, x.Count, x.Kids⟩] ++ s := by simp
    rw [e]
    rw [show (pre ++ [x]).length = (pre ++ [(⟨-7, x.Count, x.Kids⟩ : GType)]).length by simp]
    exact ih
theorem swagelaw11_TypesTell.law (t u : GType) (n : Int) (h0 : Wf_Type t) (h1 : Wf_Type u) (h2 : -9223372036854775808 ≤ n ∧ n ≤ 9223372036854775807) : ∃ k, swagelaw11_TypesTell.f k t u n = some true := by
  apply Ev.val
  simp only [swagelaw11_TypesTell.f]
  obtain ⟨b, hb, hbs⟩ := few_ev t
  obtain ⟨c, hc, hcs⟩ := few_ev u
  refine Ev.bind small_ev (Ev.bind hb ?_)
  have hf : Ev (fun k => swagelaw11_TypesTell.j1 k false t true u n) true := Ev.succ (by
    simp only [swagelaw11_TypesTell.j1]
    exact Ev.no (by simp) (Ev.ret _))
  cases b with
  | false => exact Ev.no (by simp) hf
  | true =>
    refine Ev.yes rfl (Ev.bind hc ?_)
    cases c with
    | false => exact hf
    | true =>
      have hs : siz t ≤ 40000 := by have := hbs rfl; omega
      have w := same2_self t hs
      refine Ev.succ ?_
      simp only [swagelaw11_TypesTell.j1]
      refine Ev.yes trivial (Ev.bind (copy2 _ t (Nat.le_refl _) (by omega)) (Ev.bind (copy1 _ t (Nat.le_refl _) (by omega)) (Ev.bind (pointer_ev _ t (Nat.le_refl _) (by omega)) (Ev.bind w (Ev.yes rfl (Ev.yes rfl (Ev.yes (by simp) (Ev.yes (by simp) (Ev.bind (a := true) w ?_)))))))))
      refine Ev.succ ?_
      simp only [swagelaw11_TypesTell.j2]
      have hl := len_sizs t.Kids
      exact tell_l0 t u n hs h0 t t.Kids [] (by rw [siz_eq] at hs; simp; omega)
end Go.Proofs.YtoafojcfledkcaaDoor
