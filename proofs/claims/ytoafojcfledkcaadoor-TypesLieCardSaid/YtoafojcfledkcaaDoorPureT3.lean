/- Types: shapes, cells, what is right. -/
import Derived.Test.YtoafojcfledkcaaDoorPureT2
namespace Go.Proofs.YtoafojcfledkcaaDoor
set_option linter.all false
theorem Ev.of_eq {α : Type} {g : Nat → Option α} {u v : α} (h : Ev g v) (e : v = u) : Ev g u := e ▸ h
theorem Ev.all {α : Type} {g : Nat → Option α} {v : α} (h : ∀ k, g k = some v) : Ev g v := ⟨0, fun k _ => h k⟩
def Lok (k c : Int) (n : Nat) : Prop := (k = 1 ∧ n = 0 ∧ c = 0) ∨ (k = 2 ∧ n = 1 ∧ c = 0) ∨ (k = 3 ∧ n = 1 ∧ 1 ≤ c ∧ c ≤ 1048576) ∨ (k = 4 ∧ 1 ≤ n ∧ n ≤ 64 ∧ c = 0)
instance (k c : Int) (n : Nat) : Decidable (Lok k c n) := by unfold Lok; infer_instance
theorem kids_eq (k : Nat) (t : GType) : types_kids.f k t = some (decide (Lok t.Kind t.Count t.Kids.length)) := by
  simp only [types_kids.f, types_kids_1.f]
  by_cases k1 : t.Kind = 1
  · rw [if_pos k1, if_pos (by omega)]
    by_cases h : (t.Kids.length : Int) ≤ 0
    · rw [if_pos h]
      exact congrArg some (decide_eq_decide.2 (by unfold Lok; omega))
    · rw [if_neg h]
      simp only [Option.bind_some, Option.some.injEq]
      exact (decide_eq_false (by unfold Lok; omega)).symm
  · rw [if_neg k1]
    by_cases k2 : t.Kind = 2
    · rw [if_pos k2]
      by_cases h : 1 ≤ (t.Kids.length : Int)
      · rw [if_pos h]
        by_cases h2 : (t.Kids.length : Int) ≤ 1
        · rw [if_pos h2]
          exact congrArg some (decide_eq_decide.2 (by unfold Lok; omega))
        · rw [if_neg h2]
          simp only [Option.bind_some, Option.some.injEq]
          exact (decide_eq_false (by unfold Lok; omega)).symm
      · rw [if_neg h]
        simp only [Option.bind_some, Option.some.injEq]
        exact (decide_eq_false (by unfold Lok; omega)).symm
    · rw [if_neg k2]
      by_cases k3 : t.Kind = 3
      · rw [if_pos k3]
        by_cases h : (t.Kids.length : Int) = 1
        · rw [if_pos h]
          by_cases h2 : 1 ≤ t.Count
          · rw [if_pos h2]
            exact congrArg some (decide_eq_decide.2 (by unfold Lok; omega))
          · rw [if_neg h2]
            exact congrArg some (decide_eq_false (by unfold Lok; omega)).symm
        · rw [if_neg h]
          exact congrArg some (decide_eq_false (by unfold Lok; omega)).symm
      · rw [if_neg k3]
        by_cases k4 : t.Kind = 4
        · rw [if_pos k4]
          by_cases h : 1 ≤ (t.Kids.length : Int)
          · rw [if_pos h]
            by_cases h2 : (t.Kids.length : Int) ≤ 64
            · rw [if_pos h2]
              exact congrArg some (decide_eq_decide.2 (by unfold Lok; omega))
            · rw [if_neg h2]
              simp only [Option.bind_some, Option.some.injEq]
              exact (decide_eq_false (by unfold Lok; omega)).symm
          · rw [if_neg h]
            simp only [Option.bind_some, Option.some.injEq]
            exact (decide_eq_false (by unfold Lok; omega)).symm
        · rw [if_neg k4]
          exact congrArg some (decide_eq_false (by unfold Lok; omega)).symm
/-! ## Shapes -/
mutual
def Shp : GType → Prop
  | ⟨k, c, l⟩ => Lok k c l.length ∧ Shps l
def Shps : List GType → Prop
  | [] => True
  | x :: xs => Shp x ∧ Shps xs
end
theorem shp_eq (t : GType) : Shp t ↔ Lok t.Kind t.Count t.Kids.length ∧ Shps t.Kids := by obtain ⟨a, b, l⟩ := t; simp [Shp]
theorem shps_iff (l : List GType) : Shps l ↔ ∀ x ∈ l, Shp x := by
  induction l with
  | nil => simp [Shps]
  | cons y l ih => simp [Shps, ih]
theorem shaped_loop : ∀ (s pre : List GType) (a b : Int), (pre ++ s).length ≤ 1000000000 → (∀ x ∈ s, ∃ r, Ev (fun k => swageref11_shaped.f k x) r ∧ (r = true ↔ Shp x)) →
    ∃ r, Ev (fun k => swageref11_shaped.l0 k (pre.length : Int) ⟨a, b, pre ++ s⟩) r ∧ (r = true ↔ Shps s)
  | [], pre, a, b, hb, hx => by
    refine ⟨true, Ev.succ ?_, by simp [Shps]⟩
    simp only [swageref11_shaped.l0]
    exact Ev.no (ix_end _) (Ev.ret _)
  | x :: s, pre, a, b, hb, hx => by
    obtain ⟨r, hr, he⟩ := hx x (by simp)
    obtain ⟨r2, hr2, he2⟩ := shaped_loop s (pre ++ [x]) a b (by simpa using hb) (fun y hy => hx y (by simp [hy]))
    rw [← app1] at hr2
    cases r with
    | false =>
      refine ⟨false, Ev.succ ?_, by simp only [Shps]; simp; intro h; exact absurd (he.2 h) (by simp)⟩
      simp only [swageref11_shaped.l0]
      exact Ev.yes (ix_lt _ _ _) (Ev.yes (ix_in _ _ _) (Ev.bind (a := false) (by rw [rd_mid]; exact hr) (Ev.no (by simp) (Ev.ret _))))
    | true =>
      refine ⟨r2, Ev.succ ?_, by simp only [Shps]; simp [he2, he.1 rfl]⟩
      simp only [swageref11_shaped.l0]
      refine Ev.yes (ix_lt _ _ _) (Ev.yes (ix_in _ _ _) (Ev.bind (a := true) (by rw [rd_mid]; exact hr) (Ev.yes rfl ?_)))
      rw [ix_next _ _ _ hb]
      exact hr2
theorem shaped_ev : ∀ (n : Nat) (t : GType), siz t ≤ n → n ≤ 1000000000 → ∃ r, Ev (fun k => swageref11_shaped.f k t) r ∧ (r = true ↔ Shp t)
  | 0, t, h, _ => by have := siz_pos t; omega
  | n + 1, ⟨a, b, l⟩, h, hn => by
    rw [siz_eq] at h
    simp only at h
    obtain ⟨r, hr, he⟩ := shaped_loop l [] a b (by have := len_sizs l; simp; omega) (fun x hx => shaped_ev n x (by have := siz_mem hx; omega) (by omega))
    have j1 : Ev (fun k => swageref11_shaped.j1 k ⟨a, b, l⟩) r := Ev.succ (by simp only [swageref11_shaped.j1]; exact hr)
    have j2 : ∀ q : Bool, Ev (fun k => swageref11_shaped.j2 k q ⟨a, b, l⟩) (!q && r) := fun q => Ev.succ (by
      simp only [swageref11_shaped.j2]
      cases q with
      | true => exact Ev.yes rfl (Ev.ret _)
      | false => exact Ev.no (by simp) j1)
    have j3 : ∀ q : Bool, Ev (fun k => swageref11_shaped.j3 k q ⟨a, b, l⟩) (!q && r) := fun q => Ev.succ (by
      simp only [swageref11_shaped.j3]
      cases q with
      | true => exact Ev.yes rfl (Ev.ret _)
      | false => exact Ev.no (by simp) j1)
    have j4 : ∀ q : Bool, Ev (fun k => swageref11_shaped.j4 k q ⟨a, b, l⟩) (!q && r) := fun q => Ev.succ (by
      simp only [swageref11_shaped.j4]
      cases q with
      | true => exact Ev.yes rfl (Ev.ret _)
      | false => exact Ev.no (by simp) j1)
    have j5 : ∀ q : Bool, Ev (fun k => swageref11_shaped.j5 k q ⟨a, b, l⟩) (!q && r) := fun q => Ev.succ (by
      simp only [swageref11_shaped.j5]
      cases q with
      | true => exact Ev.yes rfl (Ev.ret _)
      | false => exact Ev.no (by simp) j1)
    refine ⟨decide (Lok a b l.length) && r, Ev.succ ?_, by rw [shp_eq]; simp [he]⟩
    simp only [swageref11_shaped.f]
    have fin : ∀ {g : Nat → Option Bool} {q : Bool}, Ev g (!q && r) → (q = true ↔ ¬ Lok a b l.length) → Ev g (decide (Lok a b l.length) && r) := fun h hq => h.of_eq (by
      rename_i q
      by_cases hL : Lok a b l.length
      · have : q = false := by cases q <;> simp_all
        simp [hL, this]
      · have : q = true := hq.2 hL
        simp [hL, this])
    by_cases k1 : a = 1
    · refine Ev.yes k1 ?_
      by_cases h0 : (l.length : Int) = 0
      · exact Ev.yes h0 (fin (j2 _) (by rw [Bool.not_eq_true', decide_eq_false_iff_not]; unfold Lok; omega))
      · exact Ev.no h0 (fin (j2 _) (by simp only [true_iff]; unfold Lok; omega))
    · refine Ev.no k1 ?_
      by_cases k2 : a = 2
      · refine Ev.yes k2 ?_
        by_cases h0 : (l.length : Int) = 1
        · exact Ev.yes h0 (fin (j3 _) (by rw [Bool.not_eq_true', decide_eq_false_iff_not]; unfold Lok; omega))
        · exact Ev.no h0 (fin (j3 _) (by simp only [true_iff]; unfold Lok; omega))
      · refine Ev.no k2 ?_
        by_cases k3 : a = 3
        · refine Ev.yes k3 ?_
          by_cases h0 : (l.length : Int) = 1
          · refine Ev.yes h0 ?_
            by_cases h1 : b < 1
            · exact Ev.yes h1 (fin (j4 _) (by simp only [true_iff]; unfold Lok; omega))
            · exact Ev.no h1 (fin (j4 _) (by rw [decide_eq_true_iff]; unfold Lok; omega))
          · exact Ev.no h0 (fin (j4 _) (by simp only [true_iff]; unfold Lok; omega))
        · refine Ev.no k3 ?_
          by_cases k4 : a = 4
          · refine Ev.yes k4 ?_
            by_cases h0 : (l.length : Int) < 1
            · exact Ev.yes h0 (fin (j5 _) (by simp only [true_iff]; unfold Lok; omega))
            · refine Ev.no h0 ?_
              by_cases h1 : 64 < (l.length : Int)
              · exact Ev.yes h1 (fin (j5 _) (by simp only [true_iff]; unfold Lok; omega))
              · exact Ev.no h1 (fin (j5 _) (by rw [Bool.not_eq_true', decide_eq_false_iff_not]; unfold Lok; omega))
          · refine Ev.no k4 ?_
            have : ¬ Lok a b l.length := by unfold Lok; omega
            simp only [this, decide_false, Bool.false_and]
            exact Ev.ret _
end Go.Proofs.YtoafojcfledkcaaDoor
