/- Types: Few, Copy, depth, shapes, cells. -/
import Derived.Test.YtoafojcfledkcaaDoorPureT
namespace Go.Proofs.YtoafojcfledkcaaDoor
set_option linter.all false
/-! ## Few -/
theorem count_stop (acc i deep : Int) (t : GType) (h : 300 < acc) : Ev (fun k => swagelaw11_count.l0 k acc i t 300 deep) acc := by
  refine Ev.succ ?_
  simp only [swagelaw11_count.l0]
  by_cases hi : i < (t.Kids.length : Int)
  · refine Ev.yes hi (Ev.succ ?_)
    simp only [swagelaw11_count.j1]
    exact Ev.no (by simp; omega) (Ev.ret _)
  · refine Ev.no hi (Ev.succ ?_)
    simp only [swagelaw11_count.j1]
    exact Ev.no (by simp) (Ev.ret _)
theorem count_loop (d : Nat) (hd : d ≤ 1000) : ∀ (s pre : List GType) (acc a b : Int), acc = 1 + (sizs pre : Int) → acc ≤ 301 + 300 * (d : Int) →
    (∀ x ∈ s, ∀ d' : Nat, d = d' + 1 → ∃ r, Ev (fun k => swagelaw11_count.f k x 300 (d' : Int)) r ∧ 1 ≤ r ∧ r ≤ 301 + 300 * (d' : Int) ∧ (r ≤ 300 → r = (siz x : Int))) →
    ∃ r, Ev (fun k => swagelaw11_count.l0 k acc (pre.length : Int) ⟨a, b, pre ++ s⟩ 300 (d : Int)) r ∧ 1 ≤ r ∧ r ≤ 301 + 300 * (d : Int) ∧ (r ≤ 300 → r = 1 + (sizs (pre ++ s) : Int))
  | [], pre, acc, a, b, h1, h2, hx => by
    refine ⟨acc, Ev.succ ?_, by omega, h2, fun _ => by simp [h1]⟩
    simp only [swagelaw11_count.l0]
    refine Ev.no (ix_end _) (Ev.succ ?_)
    simp only [swagelaw11_count.j1]
    exact Ev.no (by simp) (Ev.ret _)
  | x :: s, pre, acc, a, b, h1, h2, hx => by
    by_cases h3 : acc ≤ 300
    · have hp := len_sizs pre
      cases d with
      | zero =>
        refine ⟨301, Ev.succ ?_, by omega, by omega, fun h => by omega⟩
        simp only [swagelaw11_count.l0]
        refine Ev.yes (ix_lt _ _ _) (Ev.succ ?_)
        simp only [swagelaw11_count.j1]
        refine Ev.yes (by simpa using h3) (Ev.yes (by simp) ?_)
        rw [wr (by omega) (by omega)]
        exact Ev.ret _
      | succ d =>
        obtain ⟨r, hr, r1, r2, r3⟩ := hx x (by simp) d rfl
        have hstep : ∀ v, Ev (fun k => swagelaw11_count.l0 k (acc + r) (((pre ++ [x]).length : Nat) : Int) ⟨a, b, pre ++ x :: s⟩ 300 ((d + 1 : Nat) : Int)) v → Ev (fun k => swagelaw11_count.l0 k acc (pre.length : Int) ⟨a, b, pre ++ x :: s⟩ 300 ((d + 1 : Nat) : Int)) v := fun v hv => by
          refine Ev.succ ?_
          simp only [swagelaw11_count.l0]
          refine Ev.yes (ix_lt _ _ _) (Ev.succ ?_)
          simp only [swagelaw11_count.j1]
          refine Ev.yes (by simpa using h3) (Ev.no (by omega) (Ev.yes (ix_in _ _ _) (Ev.bind (a := r) ?_ ?_)))
          · rw [rd_mid, wr (by omega) (by omega), show ((d + 1 : Nat) : Int) - 1 = (d : Int) by omega]
            exact hr
          · rw [wr (by omega) (by omega), wr (by omega) (by omega), show (pre.length : Int) + 1 = (((pre ++ [x]).length : Nat) : Int) by simp]
            exact hv
        by_cases h4 : r ≤ 300
        · have h5 := r3 h4
          obtain ⟨v, hv, v1, v2, v3⟩ := count_loop (d + 1) hd s (pre ++ [x]) (acc + r) a b (by rw [sizs_append]; simp [sizs]; omega) (by omega) (fun y hy => hx y (by simp [hy]))
          rw [← app1] at hv v3
          exact ⟨v, hstep v hv, v1, v2, v3⟩
        · exact ⟨acc + r, hstep _ (count_stop _ _ _ _ (by omega)), by omega, by omega, fun h => by omega⟩
    · exact ⟨acc, count_stop _ _ _ _ (by omega), by omega, h2, fun h => by omega⟩
theorem count_ev : ∀ (d : Nat) (t : GType), d ≤ 1000 → ∃ r, Ev (fun k => swagelaw11_count.f k t 300 (d : Int)) r ∧ 1 ≤ r ∧ r ≤ 301 + 300 * (d : Int) ∧ (r ≤ 300 → r = (siz t : Int))
  | 0, ⟨a, b, l⟩, hd => by
    obtain ⟨r, hr, r1, r2, r3⟩ := count_loop 0 (by omega) l [] 1 a b (by simp [sizs]) (by omega) (fun x _ d' h => by omega)
    refine ⟨r, Ev.succ ?_, r1, r2, fun h => by rw [r3 h, siz_eq]; simp; omega⟩
    simp only [swagelaw11_count.f]
    exact hr
  | d + 1, ⟨a, b, l⟩, hd => by
    obtain ⟨r, hr, r1, r2, r3⟩ := count_loop (d + 1) hd l [] 1 a b (by simp [sizs]) (by omega) (fun x _ d' h => by
      obtain rfl : d = d' := by omega
      exact count_ev d x (by omega))
    refine ⟨r, Ev.succ ?_, r1, r2, fun h => by rw [r3 h, siz_eq]; simp; omega⟩
    simp only [swagelaw11_count.f]
    exact hr
theorem few_ev (t : GType) : ∃ b, Ev (fun k => swagelaw11_Few.f k t) b ∧ (b = true → siz t ≤ 300) := by
  obtain ⟨r, hr, r1, r2, r3⟩ := count_ev 120 t (by omega)
  refine ⟨decide (r ≤ 300), ?_, fun h => by have := r3 (by simpa using h); simp at h; omega⟩
  simp only [swagelaw11_Few.f]
  exact Ev.bind hr (Ev.ret _)
/-! ## Copies -/
theorem set_same (pre : List GType) (x : GType) (s : List GType) : List.set (pre ++ x :: s) (Int.toNat (pre.length : Int)) x = pre ++ x :: s := by simp
theorem copy1_loop : ∀ (s pre : List GType) (t : GType), (pre ++ s).length ≤ 1000000000 → (∀ x ∈ s, Ev (fun k => types_Copy.f k x) x) →
    Ev (fun k => types_Copy.l0 k (pre.length : Int) (pre ++ s) t (pre ++ s)) ⟨t.Kind, t.Count, pre ++ s⟩
  | [], pre, t, hb, hx => by
    refine Ev.succ ?_
    simp only [types_Copy.l0]
    exact Ev.no (ix_end _) (Ev.ret _)
  | x :: s, pre, t, hb, hx => by
    have ih := copy1_loop s (pre ++ [x]) t (by simpa using hb) (fun y hy => hx y (by simp [hy]))
    rw [← app1] at ih
    refine Ev.succ ?_
    simp only [types_Copy.l0]
    refine Ev.yes (ix_lt _ _ _) (Ev.yes (ix_in _ _ _) (Ev.bind (a := x) (by rw [rd_mid]; exact hx x (by simp)) (Ev.let_ ?_)))
    rw [set_same, ix_next _ _ _ hb]
    exact ih
theorem copy1 : ∀ (n : Nat) (t : GType), siz t ≤ n → n ≤ 1000000000 → Ev (fun k => types_Copy.f k t) t
  | 0, t, h, _ => by have := siz_pos t; omega
  | n + 1, t, h, hn => by
    rw [siz_eq] at h
    have := copy1_loop t.Kids [] t (by have := len_sizs t.Kids; simp; omega) (fun x hx => copy1 n x (by have := siz_mem hx; omega) (by omega))
    refine Ev.succ ?_
    simp only [types_Copy.f]
    simp only [List.nil_append] at this
    refine Ev.bind (a := t.Kids) (Ev.ret _) ?_
    obtain ⟨a, b, l⟩ := t
    exact this
theorem copy2_loop : ∀ (s pre : List GType) (a b : Int), (pre ++ s).length ≤ 1000000000 → (∀ x ∈ s, Ev (fun k => swageref11_Copy.f k x) x) →
    Ev (fun k => swageref11_Copy.l0 k (pre.length : Int) pre ⟨a, b, pre ++ s⟩) ⟨a, b, pre ++ s⟩
  | [], pre, a, b, hb, hx => by
    refine Ev.succ ?_
    simp only [swageref11_Copy.l0]
    refine Ev.no (ix_end _) ?_
    rw [List.append_nil]
    exact Ev.ret _
  | x :: s, pre, a, b, hb, hx => by
    have ih := copy2_loop s (pre ++ [x]) a b (by simpa using hb) (fun y hy => hx y (by simp [hy]))
    rw [← app1] at ih
    refine Ev.succ ?_
    simp only [swageref11_Copy.l0]
    refine Ev.yes (ix_lt _ _ _) (Ev.yes (ix_in _ _ _) (Ev.bind (a := x) (by rw [rd_mid]; exact hx x (by simp)) (Ev.yes (by simp at hb; omega) (Ev.let_ ?_))))
    rw [ix_next _ _ _ hb]
    exact ih
theorem copy2 : ∀ (n : Nat) (t : GType), siz t ≤ n → n ≤ 1000000000 → Ev (fun k => swageref11_Copy.f k t) t
  | 0, t, h, _ => by have := siz_pos t; omega
  | n + 1, ⟨a, b, l⟩, h, hn => by
    rw [siz_eq] at h
    have := copy2_loop l [] a b (by have := len_sizs l; simp at h ⊢; omega) (fun x hx => copy2 n x (by have := siz_mem hx; simp at h; omega) (by omega))
    refine Ev.succ ?_
    simp only [swageref11_Copy.f]
    exact this
theorem pointer_ev (n : Nat) (t : GType) (h : siz t ≤ n) (hn : n ≤ 1000000000) : Ev (fun k => types_Pointer.f k t) ⟨2, 0, [t]⟩ := by
  simp only [types_Pointer.f]
  exact Ev.bind (copy1 n t h hn) (Ev.ret _)
/-! ## Depth -/
mutual
def dep : GType → Int
  | ⟨_, _, l⟩ => deps l + 1
def deps : List GType → Int
  | [] => 0
  | x :: xs => max (dep x) (deps xs)
end
theorem dep_eq (t : GType) : dep t = deps t.Kids + 1 := by obtain ⟨a, b, l⟩ := t; simp [dep]
theorem deps_nonneg : ∀ l : List GType, 0 ≤ deps l
  | [] => by simp [deps]
  | x :: l => by simp only [deps]; have := deps_nonneg l; omega
theorem deps_append (l m : List GType) : deps (l ++ m) = max (deps l) (deps m) := by
  induction l with
  | nil => simp only [List.nil_append, deps]; have := deps_nonneg m; omega
  | cons x l ih => simp only [List.cons_append, deps, ih]; omega
theorem dep_pos (t : GType) : 1 ≤ dep t := by rw [dep_eq]; have := deps_nonneg t.Kids; omega
theorem dep_mem {x : GType} {l : List GType} (h : x ∈ l) : dep x ≤ deps l := by
  induction l with
  | nil => simp at h
  | cons y l ih =>
    simp only [deps]
    rcases List.mem_cons.1 h with rfl | h
    · omega
    · have := ih h; omega
theorem deps_le {l : List GType} {n : Int} (h0 : 0 ≤ n) (h : ∀ x ∈ l, dep x ≤ n) : deps l ≤ n := by
  induction l with
  | nil => simpa [deps] using h0
  | cons y l ih =>
    simp only [deps]
    have h1 := h y (by simp)
    have h2 := ih (fun x hx => h x (by simp [hx]))
    omega
theorem dep_siz : ∀ (n : Nat) (t : GType), siz t ≤ n → dep t ≤ (siz t : Int)
  | 0, t, h => by have := siz_pos t; omega
  | n + 1, t, h => by
    rw [siz_eq] at h ⊢
    rw [dep_eq]
    have : deps t.Kids ≤ (sizs t.Kids : Int) := deps_le (by omega) (fun x hx => by
      have h1 := siz_mem hx
      have h2 := dep_siz n x (by omega)
      omega)
    omega
theorem deps_sizs (l : List GType) : deps l ≤ (sizs l : Int) := by
  have := dep_siz _ ⟨0, 0, l⟩ (Nat.le_refl _)
  rw [dep_eq, siz_eq] at this
  simp at this
  omega
theorem depth_loop : ∀ (s pre : List GType) (a b : Int), sizs (pre ++ s) ≤ 1000000000 → (∀ x ∈ s, Ev (fun k => swageref11_depth.f k x) (dep x)) →
    Ev (fun k => swageref11_depth.l0 k (deps pre) (pre.length : Int) ⟨a, b, pre ++ s⟩) (deps (pre ++ s) + 1)
  | [], pre, a, b, hb, hx => by
    refine Ev.succ ?_
    simp only [swageref11_depth.l0]
    refine Ev.no (ix_end _) ?_
    have h1 := deps_sizs pre
    have h2 := deps_nonneg pre
    rw [List.append_nil] at hb ⊢
    rw [wr (by omega) (by omega)]
    exact Ev.ret _
  | x :: s, pre, a, b, hb, hx => by
    have ih := depth_loop s (pre ++ [x]) a b (by simpa using hb) (fun y hy => hx y (by simp [hy]))
    rw [← app1] at ih
    have hl := len_sizs (pre ++ x :: s)
    refine Ev.succ ?_
    simp only [swageref11_depth.l0]
    refine Ev.yes (ix_lt _ _ _) (Ev.yes (ix_in _ _ _) (Ev.bind (a := dep x) (by rw [rd_mid]; exact hx x (by simp)) ?_))
    rw [ix_next pre x s (by omega)]
    rw [deps_append] at ih
    simp only [deps] at ih
    rw [show max (dep x) 0 = dep x by have := dep_pos x; omega] at ih
    exact ih
theorem depth_ev : ∀ (n : Nat) (t : GType), siz t ≤ n → n ≤ 1000000000 → Ev (fun k => swageref11_depth.f k t) (dep t)
  | 0, t, h, _ => by have := siz_pos t; omega
  | n + 1, ⟨a, b, l⟩, h, hn => by
    rw [siz_eq] at h
    have := depth_loop l [] a b (by simp at h ⊢; omega) (fun x hx => depth_ev n x (by have := siz_mem hx; simp at h; omega) (by omega))
    refine Ev.succ ?_
    simp only [swageref11_depth.f]
    rw [dep_eq]
    exact this
end Go.Proofs.YtoafojcfledkcaaDoor
