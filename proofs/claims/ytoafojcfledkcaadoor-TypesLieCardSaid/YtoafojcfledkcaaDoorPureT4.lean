/- Types: cells, what is right. -/
import Derived.Test.YtoafojcfledkcaaDoorPureT3
namespace Go.Proofs.YtoafojcfledkcaaDoor
set_option linter.all false
mutual
def cel : GType → Int
  | ⟨k, c, l⟩ => if k = 3 then min (celh l * c) 1048577 else if k = 4 then min (cels l) 1048577 else 1
def cels : List GType → Int
  | [] => 0
  | x :: xs => cel x + cels xs
def celh : List GType → Int
  | [] => 0
  | x :: _ => cel x
end
theorem cel_eq (t : GType) : cel t = if t.Kind = 3 then min (celh t.Kids * t.Count) 1048577 else if t.Kind = 4 then min (cels t.Kids) 1048577 else 1 := by obtain ⟨a, b, l⟩ := t; simp [cel]
theorem cels_append (l m : List GType) : cels (l ++ m) = cels l + cels m := by
  induction l with
  | nil => simp [cels]
  | cons x l ih => simp [cels, ih]; omega
theorem cels_bound {l : List GType} {B : Int} (h : ∀ x ∈ l, 1 ≤ cel x ∧ cel x ≤ B) : (l.length : Int) ≤ cels l ∧ cels l ≤ B * l.length := by
  induction l with
  | nil => simp [cels]
  | cons y l ih =>
    have h1 := h y (by simp)
    have h2 := ih (fun x hx => h x (by simp [hx]))
    simp only [cels, List.length_cons, Int.natCast_add, Int.mul_add, Int.natCast_one, Int.mul_one]
    omega
theorem mul_le_c {x c : Int} (h0 : 1 ≤ x) (h1 : x ≤ 1048577) (h2 : 1 ≤ c) (h3 : c ≤ 1048576) : 1 ≤ x * c ∧ x * c ≤ 1099512676352 := by
  refine ⟨by have := Int.mul_le_mul h0 h2 (by omega) (by omega); simpa using this, ?_⟩
  have := Int.mul_le_mul h1 h3 (by omega) (by omega)
  simpa using this
theorem cel_bound : ∀ (n : Nat) (t : GType), siz t ≤ n → Shp t → 1 ≤ cel t ∧ cel t ≤ 1048577
  | 0, t, h, _ => by have := siz_pos t; omega
  | n + 1, t, h, hs => by
    rw [siz_eq] at h
    obtain ⟨hl, hk⟩ := (shp_eq t).1 hs
    have hb := cels_bound (l := t.Kids) (B := 1048577) (fun x hx => cel_bound n x (by have := siz_mem hx; omega) ((shps_iff _).1 hk x hx))
    rw [cel_eq]
    by_cases k3 : t.Kind = 3
    · rw [if_pos k3]
      have hl3 : t.Kids.length = 1 ∧ 1 ≤ t.Count ∧ t.Count ≤ 1048576 := by unfold Lok at hl; omega
      obtain ⟨x, hx⟩ := List.length_eq_one_iff.1 hl3.1
      have := cel_bound n x (by have := siz_mem (x := x) (l := t.Kids) (by simp [hx]); omega) ((shps_iff _).1 hk x (by simp [hx]))
      rw [hx]
      simp only [celh]
      have := mul_le_c this.1 this.2 hl3.2.1 hl3.2.2
      omega
    · rw [if_neg k3]
      by_cases k4 : t.Kind = 4
      · rw [if_pos k4]
        have : 1 ≤ t.Kids.length := by unfold Lok at hl; omega
        omega
      · rw [if_neg k4]; omega
theorem cells_loop : ∀ (s pre : List GType), (pre ++ s).length ≤ 64 → (∀ x ∈ pre ++ s, 1 ≤ cel x ∧ cel x ≤ 1048577) → (∀ x ∈ s, Ev (fun k => swageref11_cells.f k x) (cel x)) →
    Ev (fun k => swageref11_cells.l0 k (cels pre) (pre.length : Int) (pre ++ s)) (min (cels (pre ++ s)) 1048577)
  | [], pre, hb, hB, hx => by
    refine Ev.succ ?_
    simp only [swageref11_cells.l0]
    refine Ev.no (ix_end _) ?_
    rw [List.append_nil]
    exact Ev.ret _
  | x :: s, pre, hb, hB, hx => by
    have ih := cells_loop s (pre ++ [x]) (by simpa using hb) (by simpa using hB) (fun y hy => hx y (by simp [hy]))
    rw [← app1] at ih
    have h1 := cels_bound (l := pre) (B := 1048577) (fun y hy => hB y (by simp [hy]))
    have h2 := hB x (by simp)
    refine Ev.succ ?_
    simp only [swageref11_cells.l0]
    refine Ev.yes (ix_lt _ _ _) (Ev.yes (ix_in _ _ _) (Ev.bind (a := cel x) (by rw [rd_mid]; exact hx x (by simp)) ?_))
    rw [ix_next pre x s (by omega), wr (by omega) (by simp at hb; omega)]
    rw [cels_append] at ih
    simp only [cels, Int.add_zero] at ih
    exact ih
theorem cells_ev : ∀ (n : Nat) (t : GType), siz t ≤ n → Shp t → Ev (fun k => swageref11_cells.f k t) (cel t)
  | 0, t, h, _ => by have := siz_pos t; omega
  | n + 1, t, h, hs => by
    rw [siz_eq] at h
    obtain ⟨hl, hk⟩ := (shp_eq t).1 hs
    have hk := (shps_iff _).1 hk
    have hB : ∀ x ∈ t.Kids, 1 ≤ cel x ∧ cel x ≤ 1048577 := fun x hx => cel_bound _ x (Nat.le_refl _) (hk x hx)
    have ih : ∀ x ∈ t.Kids, Ev (fun k => swageref11_cells.f k x) (cel x) := fun x hx => cells_ev n x (by have := siz_mem hx; omega) (hk x hx)
    have hlen : t.Kids.length ≤ 64 := by unfold Lok at hl; omega
    have hloop := cells_loop t.Kids [] (by simpa using hlen) (by simpa using hB) ih
    rw [cel_eq]
    refine Ev.succ ?_
    simp only [swageref11_cells.f]
    by_cases k3 : t.Kind = 3
    · rw [if_pos k3]
      have hl3 : t.Kids.length = 1 ∧ 1 ≤ t.Count ∧ t.Count ≤ 1048576 := by unfold Lok at hl; omega
      obtain ⟨x, hx⟩ := List.length_eq_one_iff.1 hl3.1
      have hxb := hB x (by simp [hx])
      have hm := mul_le_c hxb.1 hxb.2 hl3.2.1 hl3.2.2
      refine Ev.yes k3 (Ev.yes (by omega) (Ev.bind (a := cel x) ?_ (Ev.succ ?_)))
      · have : rd t.Kids 0 = x := by rw [hx]; rfl
        rw [this]
        exact ih x (by simp [hx])
      · simp only [swageref11_cells.j1]
        rw [hx]
        simp only [celh]
        rw [wr (by omega) (by omega)]
        exact Ev.no (by omega) (Ev.ret _)
    · refine Ev.no k3 (Ev.succ ?_)
      rw [if_neg k3]
      simp only [swageref11_cells.j1]
      by_cases k4 : t.Kind = 4
      · rw [if_pos k4]
        exact Ev.yes k4 hloop
      · rw [if_neg k4]
        exact Ev.no k4 (Ev.ret _)
/-! ## Right -/
mutual
def Rgt : GType → Prop
  | ⟨k, c, l⟩ => Lok k c l.length ∧ cel ⟨k, c, l⟩ ≤ 1048576 ∧ Rgts l
def Rgts : List GType → Prop
  | [] => True
  | x :: xs => Rgt x ∧ Rgts xs
end
theorem rgt_eq (t : GType) : Rgt t ↔ Lok t.Kind t.Count t.Kids.length ∧ cel t ≤ 1048576 ∧ Rgts t.Kids := by obtain ⟨a, b, l⟩ := t; simp [Rgt]
theorem rgts_iff (l : List GType) : Rgts l ↔ ∀ x ∈ l, Rgt x := by
  induction l with
  | nil => simp [Rgts]
  | cons y l ih => simp [Rgts, ih]
theorem rgt_shp : ∀ (n : Nat) (t : GType), siz t ≤ n → Rgt t → Shp t
  | 0, t, h, _ => by have := siz_pos t; omega
  | n + 1, t, h, hr => by
    rw [siz_eq] at h
    obtain ⟨h1, _, h2⟩ := (rgt_eq t).1 hr
    exact (shp_eq t).2 ⟨h1, (shps_iff _).2 fun x hx => rgt_shp n x (by have := siz_mem hx; omega) ((rgts_iff _).1 h2 x hx)⟩
theorem Rgt.shp {t : GType} (h : Rgt t) : Shp t := rgt_shp _ t (Nat.le_refl _) h
theorem Rgt.cel {t : GType} (h : Rgt t) : 1 ≤ cel t ∧ _root_.Go.Proofs.YtoafojcfledkcaaDoor.cel t ≤ 1048576 := ⟨(cel_bound _ t (Nat.le_refl _) h.shp).1, ((rgt_eq t).1 h).2.1⟩
theorem measure_loop (a b d : Int) (hd0 : -1000000 ≤ d) (hd : d ≤ 1000000) : ∀ (s pre : List GType), Lok a b (pre ++ s).length → Rgts pre → deps pre ≤ d - 1 ∨ pre = [] →
    (∀ x ∈ s, ∃ m, Ev (fun k => types_measure.f k x (d - 1)) m ∧ (m.2 = true ↔ Rgt x ∧ dep x ≤ d - 1) ∧ (m.2 = true → m.1 = cel x)) →
    ∃ m, Ev (fun k => types_measure.l0 k (min (cels pre) 1048577) (pre.length : Int) ⟨a, b, pre ++ s⟩ d) m ∧ (m.2 = true ↔ cel ⟨a, b, pre ++ s⟩ ≤ 1048576 ∧ Rgts s ∧ (deps s ≤ d - 1 ∨ s = [])) ∧ (m.2 = true → m.1 = cel ⟨a, b, pre ++ s⟩)
  | [], pre, hL, hR, hD, hx => by
    rw [List.append_nil] at hL ⊢
    have hRi := (rgts_iff _).1 hR
    have hB := cels_bound (l := pre) (B := 1048576) (fun x hx => (hRi x hx).cel)
    have hc := cel_eq ⟨a, b, pre⟩
    simp only at hc
    by_cases k12 : a = 1 ∨ a = 2
    · have hc1 : cel ⟨a, b, pre⟩ = 1 := by rw [hc, if_neg (by omega), if_neg (by omega)]
      refine ⟨(1, true), Ev.succ ?_, by simp [hc1, Rgts], fun _ => hc1.symm⟩
      simp only [types_measure.l0]
      refine Ev.no (by simp) ?_
      have hj : Ev (fun k => types_measure.j2 k true ⟨a, b, pre⟩ (min (cels pre) 1048577)) (1, true) := Ev.succ (by
        simp only [types_measure.j2]
        exact Ev.yes trivial (Ev.ret _))
      by_cases k1 : a = 1
      · exact Ev.yes k1 hj
      · refine Ev.no k1 ?_
        have : decide (a = 2) = true := by simp; omega
        rw [this]; exact hj
    · have hv : ∀ v : Int, cel ⟨a, b, pre⟩ = v → (decide (v < 1048577) = true ↔ cel ⟨a, b, pre⟩ ≤ 1048576 ∧ Rgts [] ∧ (deps [] ≤ d - 1 ∨ ([] : List GType) = [])) := fun v e => by
        rw [e]; simp [Rgts]; omega
      have hj : Ev (fun k => types_measure.j2 k false ⟨a, b, pre⟩ (min (cels pre) 1048577)) (cel ⟨a, b, pre⟩, decide (cel ⟨a, b, pre⟩ < 1048577)) := Ev.succ (by
        simp only [types_measure.j2]
        refine Ev.no (by simp) ?_
        by_cases k3 : a = 3
        · refine Ev.yes k3 ?_
          have hl3 : pre.length = 1 ∧ 1 ≤ b ∧ b ≤ 1048576 := by unfold Lok at hL; omega
          obtain ⟨x, rfl⟩ := List.length_eq_one_iff.1 hl3.1
          have hxc := (hRi x (by simp)).cel
          have hm := mul_le_c hxc.1 (by omega) hl3.2.1 hl3.2.2
          rw [if_pos k3] at hc
          simp only [celh] at hc
          simp only [cels, Int.add_zero]
          rw [show min (cel x) 1048577 = cel x by omega, wr (by omega) (by omega), ← hc]
          exact Ev.ret _
        · refine Ev.no k3 ?_
          have k4 : a = 4 := by unfold Lok at hL; omega
          rw [if_neg k3, if_pos k4] at hc
          rw [← hc]
          exact Ev.ret _)
      refine ⟨(cel ⟨a, b, pre⟩, decide (cel ⟨a, b, pre⟩ < 1048577)), Ev.succ ?_, hv _ rfl, fun _ => rfl⟩
      simp only [types_measure.l0]
      refine Ev.no (by simp) (Ev.no (by omega) ?_)
      have : decide (a = 2) = false := by simp; omega
      rw [this]; exact hj
  | x :: s, pre, hL, hR, hD, hx => by
    obtain ⟨m, hm, he, hc⟩ := hx x (by simp)
    have hlen : (pre ++ x :: s).length ≤ 64 := by unfold Lok at hL; omega
    have hRi := (rgts_iff _).1 hR
    have hB := cels_bound (l := pre) (B := 1048576) (fun x hx => (hRi x hx).cel)
    obtain ⟨m1, m2⟩ := m
    cases m2 with
    | false =>
      refine ⟨(0, false), Ev.succ ?_, ?_, fun h => by simp at h⟩
      · simp only [types_measure.l0]
        refine Ev.yes (ix_lt _ _ _) (Ev.yes (ix_in _ _ _) (Ev.bind (a := (m1, false)) ?_ (Ev.no (by simp) (Ev.ret _))))
        rw [rd_mid, wr (by omega) (by omega)]
        exact hm
      · have h1 : ¬ (Rgt x ∧ dep x ≤ d - 1) := fun h => by simpa using he.2 h
        simp only [Rgts, deps]
        constructor
        · intro h; simp at h
        · rintro ⟨_, ⟨h2, _⟩, h3⟩
          rcases h3 with h3 | h3
          · exact absurd ⟨h2, by omega⟩ h1
          · simp at h3
    | true =>
      obtain ⟨hRx, hDx⟩ := he.1 rfl
      have hcx : m1 = cel x := hc rfl
      subst hcx
      have hxc := hRx.cel
      have hdx := dep_pos x
      obtain ⟨v, hv, v2, v3⟩ := measure_loop a b d hd0 hd s (pre ++ [x]) (by simpa using hL) ((rgts_iff _).2 fun y hy => by
        rcases List.mem_append.1 hy with hy | hy
        · exact hRi y hy
        · simp at hy; exact hy ▸ hRx) (by
        left
        rw [deps_append]
        simp only [deps]
        rcases hD with hD | rfl
        · omega
        · simp only [deps]; omega) (fun y hy => hx y (by simp [hy]))
      rw [← app1] at hv v2 v3
      refine ⟨v, Ev.succ ?_, ?_, v3⟩
      · simp only [types_measure.l0]
        refine Ev.yes (ix_lt _ _ _) (Ev.yes (ix_in _ _ _) (Ev.bind (a := (cel x, true)) ?_ (Ev.yes rfl ?_)))
        · rw [rd_mid, wr (n := d - 1) (by omega) (by omega)]
          exact hm
        · rw [ix_next pre x s (by omega), wr (by omega) (by omega)]
          rw [cels_append] at hv
          simp only [cels, Int.add_zero] at hv
          rw [show min (min (cels pre) 1048577 + cel x) 1048577 = min (cels pre + cel x) 1048577 by omega]
          exact hv
      · rw [v2]
        simp only [Rgts, deps]
        constructor
        · rintro ⟨h1, h2, h3⟩
          refine ⟨h1, ⟨hRx, h2⟩, .inl ?_⟩
          rcases h3 with h3 | rfl
          · omega
          · simp only [deps]; omega
        · rintro ⟨h1, h2, h3⟩
          refine ⟨h1, h2.2, .inl ?_⟩
          rcases h3 with h3 | h3
          · omega
          · simp at h3
theorem measure_ev : ∀ (n : Nat) (t : GType) (d : Int), siz t ≤ n → -100000 + (n : Int) ≤ d → n ≤ 50000 → d ≤ 1000 → ∃ m, Ev (fun k => types_measure.f k t d) m ∧ (m.2 = true ↔ Rgt t ∧ dep t ≤ d) ∧ (m.2 = true → m.1 = cel t)
  | 0, t, d, h, _, _, _ => by have := siz_pos t; omega
  | n + 1, t, d, h, h0, hn, h1 => by
    rw [siz_eq] at h
    have hdp := dep_pos t
    have hj1 : Ev (fun k => types_measure.j1 k true t d) (0, false) := Ev.succ (by
      simp only [types_measure.j1]
      exact Ev.yes trivial (Ev.ret _))
    by_cases hd : d < 1
    · refine ⟨(0, false), Ev.succ ?_, by simp; intro _; omega, fun h => by simp at h⟩
      simp only [types_measure.f]
      exact Ev.yes hd hj1
    · by_cases hL : Lok t.Kind t.Count t.Kids.length
      · obtain ⟨a, b, l⟩ := t
        simp only at h hL
        obtain ⟨m, hm, m2, m3⟩ := measure_loop a b d (by omega) (by omega) l [] hL (by simp [Rgts]) (.inr rfl) (fun x hx => measure_ev n x (d - 1) (by have := siz_mem hx; omega) (by omega) (by omega) (by omega))
        refine ⟨m, Ev.succ ?_, ?_, m3⟩
        · simp only [types_measure.f]
          refine Ev.no hd (Ev.bind (a := true) (Ev.all fun k => by rw [kids_eq]; simp [hL]) (Ev.succ ?_))
          simp only [types_measure.j1]
          exact Ev.no (by simp) hm
        · rw [m2, rgt_eq, dep_eq]
          simp only [List.nil_append]
          constructor
          · rintro ⟨h2, h3, h4⟩
            refine ⟨⟨hL, h2, h3⟩, ?_⟩
            rcases h4 with h4 | rfl
            · omega
            · simp only [deps]; omega
          · rintro ⟨⟨_, h2, h3⟩, h4⟩
            exact ⟨h2, h3, .inl (by omega)⟩
      · refine ⟨(0, false), Ev.succ ?_, ?_, fun h => by simp at h⟩
        · simp only [types_measure.f]
          refine Ev.no hd (Ev.bind (a := false) (Ev.all fun k => by rw [kids_eq]; simp [hL]) ?_)
          exact hj1
        · rw [rgt_eq]; simp [hL]
end Go.Proofs.YtoafojcfledkcaaDoor
