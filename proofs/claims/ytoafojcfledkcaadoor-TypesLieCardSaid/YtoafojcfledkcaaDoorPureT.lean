/- Types: what the models of both sides come to. -/
import Derived.Test.YtoafojcfledkcaaDoorEv
import Derived.Test.YtoafojcfledkcaaDoorMD4
import Derived.Test.YtoafojcfledkcaaDoorOD
namespace Go.Proofs.YtoafojcfledkcaaDoor
set_option linter.all false
mutual
def siz : GType → Nat
  | ⟨_, _, l⟩ => sizs l + 1
def sizs : List GType → Nat
  | [] => 0
  | x :: xs => siz x + sizs xs
end
theorem siz_eq (t : GType) : siz t = sizs t.Kids + 1 := by obtain ⟨a, b, l⟩ := t; simp [siz]
theorem siz_pos (t : GType) : 1 ≤ siz t := by rw [siz_eq]; omega
theorem sizs_append (l m : List GType) : sizs (l ++ m) = sizs l + sizs m := by
  induction l with
  | nil => simp [sizs]
  | cons x l ih => simp [sizs, ih]; omega
theorem siz_mem {x : GType} {l : List GType} (h : x ∈ l) : siz x ≤ sizs l := by
  induction l with
  | nil => simp at h
  | cons y l ih =>
    simp only [sizs]
    rcases List.mem_cons.1 h with rfl | h
    · omega
    · have := ih h; omega
theorem len_sizs (l : List GType) : l.length ≤ sizs l := by
  induction l with
  | nil => simp [sizs]
  | cons y l ih => simp only [sizs, List.length_cons]; have := siz_pos y; omega
/-! ## Same -/
theorem same1_loop : ∀ (s t pre pre2 : List GType), pre.length = pre2.length → s.length = t.length → (pre ++ s).length ≤ 1000000000 →
    (∀ x ∈ s, ∀ y, ∃ r, Ev (fun k => types_Same.f k x y) r ∧ (r = true ↔ x = y)) →
    ∃ r, Ev (fun k => slices_EqualFunc_Type_types_Same.l0 k (pre.length : Int) (pre ++ s) (pre2 ++ t)) r ∧ (r = true ↔ s = t)
  | [], t, pre, pre2, h1, h2, hb, hx => by
    obtain rfl : t = [] := List.eq_nil_of_length_eq_zero (by simpa using h2.symm)
    refine ⟨true, Ev.succ ?_, by simp⟩
    simp only [slices_EqualFunc_Type_types_Same.l0]
    exact Ev.no (ix_end _) (Ev.ret _)
  | x :: s, [], pre, pre2, h1, h2, hb, hx => by simp at h2
  | x :: s, y :: t, pre, pre2, h1, h2, hb, hx => by
    obtain ⟨r, hr, he⟩ := hx x (by simp) y
    obtain ⟨r2, hr2, he2⟩ := same1_loop s t (pre ++ [x]) (pre2 ++ [y]) (by simp [h1]) (by simpa using h2) (by simpa using hb) (fun x hx' => hx x (by simp [hx']))
    rw [← app1, ← app1] at hr2
    cases r with
    | false =>
      refine ⟨false, Ev.succ ?_, ?_⟩
      · simp only [slices_EqualFunc_Type_types_Same.l0]
        refine Ev.yes (ix_lt _ _ _) (Ev.yes (ix_in _ _ _) (Ev.yes (by rw [h1]; exact ix_in _ _ _) (Ev.bind (a := false) ?_ (Ev.no (by simp) (Ev.ret _)))))
        rw [rd_mid, h1, rd_mid]; exact hr
      · have : ¬ x = y := fun h => by simpa using he.2 h
        simp [this]
    | true =>
      obtain rfl := he.1 rfl
      refine ⟨r2, Ev.succ ?_, by simp [he2]⟩
      simp only [slices_EqualFunc_Type_types_Same.l0]
      refine Ev.yes (ix_lt _ _ _) (Ev.yes (ix_in _ _ _) (Ev.yes (by rw [h1]; exact ix_in _ _ _) (Ev.bind (a := true) ?_ (Ev.yes rfl ?_))))
      · rw [rd_mid, h1, rd_mid]; exact hr
      · rw [ix_next _ _ _ hb]; exact hr2
theorem same1 : ∀ (n : Nat) (a b : GType), siz a ≤ n → n ≤ 1000000000 → ∃ r, Ev (fun k => types_Same.f k a b) r ∧ (r = true ↔ a = b)
  | 0, a, b, h, _ => by have := siz_pos a; omega
  | n + 1, a, b, h, hn => by
    obtain ⟨ak, ac, al⟩ := a
    obtain ⟨bk, bc, bl⟩ := b
    rw [siz_eq] at h
    simp only at h
    by_cases hk : ak = bk
    · by_cases hc : ac = bc
      · by_cases hl : al.length = bl.length
        · obtain ⟨r, hr, he⟩ := same1_loop al bl [] [] rfl hl (by have := len_sizs al; simp; omega) (fun x hx y => same1 n x y (by have := siz_mem hx; omega) (by omega))
          refine ⟨r, Ev.succ ?_, by simp [hk, hc, he]⟩
          simp only [types_Same.f]
          refine Ev.yes hk (Ev.yes hc (Ev.bind (a := r) (Ev.succ ?_) (Ev.ret _)))
          simp only [slices_EqualFunc_Type_types_Same.f]
          exact Ev.yes (by omega) hr
        · refine ⟨false, Ev.succ ?_, by simp; intro _ _ h; exact hl (by rw [h])⟩
          simp only [types_Same.f]
          refine Ev.yes hk (Ev.yes hc (Ev.bind (a := false) (Ev.succ ?_) (Ev.ret _)))
          simp only [slices_EqualFunc_Type_types_Same.f]
          exact Ev.no (by omega) (Ev.ret _)
      · refine ⟨false, Ev.succ ?_, by simp [hc]⟩
        simp only [types_Same.f]
        exact Ev.yes hk (Ev.no hc (Ev.ret _))
    · refine ⟨false, Ev.succ ?_, by simp [hk]⟩
      simp only [types_Same.f]
      exact Ev.no hk (Ev.ret _)
theorem same2_loop : ∀ (s t pre pre2 : List GType) (ak ac bk bc : Int), pre.length = pre2.length → s.length = t.length → (pre ++ s).length ≤ 1000000000 →
    (∀ x ∈ s, ∀ y, ∃ r, Ev (fun k => swageref11_Same.f k x y) r ∧ (r = true ↔ x = y)) →
    ∃ r, Ev (fun k => swageref11_Same.l0 k (pre.length : Int) ⟨ak, ac, pre ++ s⟩ ⟨bk, bc, pre2 ++ t⟩) r ∧ (r = true ↔ s = t)
  | [], t, pre, pre2, ak, ac, bk, bc, h1, h2, hb, hx => by
    obtain rfl : t = [] := List.eq_nil_of_length_eq_zero (by simpa using h2.symm)
    refine ⟨true, Ev.succ ?_, by simp⟩
    simp only [swageref11_Same.l0]
    exact Ev.no (ix_end _) (Ev.ret _)
  | x :: s, [], pre, pre2, ak, ac, bk, bc, h1, h2, hb, hx => by simp at h2
  | x :: s, y :: t, pre, pre2, ak, ac, bk, bc, h1, h2, hb, hx => by
    obtain ⟨r, hr, he⟩ := hx x (by simp) y
    obtain ⟨r2, hr2, he2⟩ := same2_loop s t (pre ++ [x]) (pre2 ++ [y]) ak ac bk bc (by simp [h1]) (by simpa using h2) (by simpa using hb) (fun x hx' => hx x (by simp [hx']))
    rw [← app1, ← app1] at hr2
    cases r with
    | false =>
      refine ⟨false, Ev.succ ?_, ?_⟩
      · simp only [swageref11_Same.l0]
        refine Ev.yes (ix_lt _ _ _) (Ev.yes (ix_in _ _ _) (Ev.yes (by rw [h1]; exact ix_in _ _ _) (Ev.bind (a := false) ?_ (Ev.no (by simp) (Ev.ret _)))))
        rw [rd_mid, h1, rd_mid]; exact hr
      · have : ¬ x = y := fun h => by simpa using he.2 h
        simp [this]
    | true =>
      obtain rfl := he.1 rfl
      refine ⟨r2, Ev.succ ?_, by simp [he2]⟩
      simp only [swageref11_Same.l0]
      refine Ev.yes (ix_lt _ _ _) (Ev.yes (ix_in _ _ _) (Ev.yes (by rw [h1]; exact ix_in _ _ _) (Ev.bind (a := true) ?_ (Ev.yes rfl ?_))))
      · rw [rd_mid, h1, rd_mid]; exact hr
      · rw [ix_next _ _ _ hb]; exact hr2
theorem same2 : ∀ (n : Nat) (a b : GType), siz a ≤ n → n ≤ 1000000000 → ∃ r, Ev (fun k => swageref11_Same.f k a b) r ∧ (r = true ↔ a = b)
  | 0, a, b, h, _ => by have := siz_pos a; omega
  | n + 1, a, b, h, hn => by
    obtain ⟨ak, ac, al⟩ := a
    obtain ⟨bk, bc, bl⟩ := b
    rw [siz_eq] at h
    simp only at h
    by_cases hk : ak = bk
    · by_cases hc : ac = bc
      · by_cases hl : al.length = bl.length
        · obtain ⟨r, hr, he⟩ := same2_loop al bl [] [] ak ac bk bc rfl hl (by have := len_sizs al; simp; omega) (fun x hx y => same2 n x y (by have := siz_mem hx; omega) (by omega))
          refine ⟨r, Ev.succ ?_, by simp [hk, hc, he]⟩
          simp only [swageref11_Same.f]
          refine Ev.yes hk (Ev.yes hc (Ev.succ ?_))
          simp only [swageref11_Same.j1]
          exact Ev.no (by simp; omega) hr
        · refine ⟨false, Ev.succ ?_, by simp; intro _ _ h; exact hl (by rw [h])⟩
          simp only [swageref11_Same.f]
          refine Ev.yes hk (Ev.yes hc (Ev.succ ?_))
          simp only [swageref11_Same.j1]
          exact Ev.yes (by simp; omega) (Ev.ret _)
      · refine ⟨false, Ev.succ ?_, by simp [hc]⟩
        simp only [swageref11_Same.f]
        refine Ev.yes hk (Ev.no hc (Ev.succ ?_))
        simp only [swageref11_Same.j1]
        exact Ev.yes trivial (Ev.ret _)
    · refine ⟨false, Ev.succ ?_, by simp [hk]⟩
      simp only [swageref11_Same.f]
      refine Ev.no hk (Ev.succ ?_)
      simp only [swageref11_Same.j1]
      exact Ev.yes trivial (Ev.ret _)
end Go.Proofs.YtoafojcfledkcaaDoor
