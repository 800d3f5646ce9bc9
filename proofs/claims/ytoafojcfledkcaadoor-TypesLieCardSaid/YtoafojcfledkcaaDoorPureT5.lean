/- Types: both sides tell alike what is right, how great, where parts lie. -/
import Derived.Test.YtoafojcfledkcaaDoorPureT4
namespace Go.Proofs.YtoafojcfledkcaaDoor
set_option linter.all false
open Classical in
noncomputable def rgtB (t : GType) : Bool := decide (Rgt t ∧ dep t ≤ 100)
theorem rgtB_iff (t : GType) : rgtB t = true ↔ Rgt t ∧ dep t ≤ 100 := by unfold rgtB; simp
theorem rgtB_eq {t : GType} {b : Bool} (h : b = true ↔ Rgt t ∧ dep t ≤ 100) : b = rgtB t := by
  cases b with
  | false => cases hr : rgtB t with
    | false => rfl
    | true => exact absurd (h.2 ((rgtB_iff t).1 hr)) (by simp)
  | true => exact ((rgtB_iff t).2 (h.1 rfl)).symm
theorem measure100 (t : GType) (hs : siz t ≤ 40000) : ∃ m, Ev (fun k => types_measure.f k t 100) m ∧ m.2 = rgtB t ∧ (rgtB t = true → m.1 = cel t) := by
  obtain ⟨m, h1, h2, h3⟩ := measure_ev (siz t) t 100 (Nat.le_refl _) (by omega) (by omega) (by omega)
  have := rgtB_eq h2
  exact ⟨m, h1, this, fun h => h3 (this.trans h)⟩
theorem right1 (t : GType) (hs : siz t ≤ 40000) : Ev (fun k => types_Right.f k t) (rgtB t) := by
  obtain ⟨m, h1, h2, h3⟩ := measure100 t hs
  simp only [types_Right.f]
  exact Ev.bind h1 ((Ev.ret _).of_eq h2)
noncomputable def sizV (t : GType) : Int := if rgtB t = true then cel t else 0
theorem size1 (t : GType) (hs : siz t ≤ 40000) : Ev (fun k => types_Size.f k t) (sizV t) := by
  obtain ⟨m, h1, h2, h3⟩ := measure100 t hs
  simp only [types_Size.f]
  refine Ev.bind h1 ?_
  unfold sizV
  by_cases h : rgtB t = true
  · rw [if_pos h]
    exact Ev.yes (h2.trans h) ((Ev.ret _).of_eq (h3 h))
  · rw [if_neg h]
    exact Ev.no (by rw [h2]; exact h) (Ev.ret _)
theorem right2_loop : ∀ (s pre : List GType) (a b : Int), (pre ++ s).length ≤ 1000000000 → (∀ x ∈ s, Ev (fun k => swageref11_Right.f k x) (rgtB x)) →
    ∃ r, Ev (fun k => swageref11_Right.l0 k (pre.length : Int) ⟨a, b, pre ++ s⟩) r ∧ (r = true ↔ ∀ x ∈ s, Rgt x ∧ dep x ≤ 100)
  | [], pre, a, b, hb, hx => by
    refine ⟨true, Ev.succ ?_, by simp⟩
    simp only [swageref11_Right.l0]
    exact Ev.no (ix_end _) (Ev.ret _)
  | x :: s, pre, a, b, hb, hx => by
    have hr := hx x (by simp)
    obtain ⟨r2, hr2, he2⟩ := right2_loop s (pre ++ [x]) a b (by simpa using hb) (fun y hy => hx y (by simp [hy]))
    rw [← app1] at hr2
    cases hxb : rgtB x with
    | false =>
      rw [hxb] at hr
      refine ⟨false, Ev.succ ?_, ?_⟩
      · simp only [swageref11_Right.l0]
        exact Ev.yes (ix_lt _ _ _) (Ev.yes (ix_in _ _ _) (Ev.bind (a := false) (by rw [rd_mid]; exact hr) (Ev.no (by simp) (Ev.ret _))))
      · refine ⟨fun h => by simp at h, fun h => ?_⟩
        have := (rgtB_iff x).2 (h x (by simp))
        rw [hxb] at this
        exact this
    | true =>
      rw [hxb] at hr
      refine ⟨r2, Ev.succ ?_, ?_⟩
      · simp only [swageref11_Right.l0]
        refine Ev.yes (ix_lt _ _ _) (Ev.yes (ix_in _ _ _) (Ev.bind (a := true) (by rw [rd_mid]; exact hr) (Ev.yes rfl ?_)))
        rw [ix_next _ _ _ hb]
        exact hr2
      · rw [he2]
        have := (rgtB_iff x).1 hxb
        constructor
        · intro h y hy
          rcases List.mem_cons.1 hy with rfl | hy
          · exact this
          · exact h y hy
        · exact fun h y hy => h y (by simp [hy])
theorem right2 : ∀ (n : Nat) (t : GType), siz t ≤ n → n ≤ 40000 → Ev (fun k => swageref11_Right.f k t) (rgtB t)
  | 0, t, h, _ => by have := siz_pos t; omega
  | n + 1, t, h, hn => by
    rw [siz_eq] at h
    have hf : ∀ {g : Nat → Option Bool}, Ev g false → ¬ (Rgt t ∧ dep t ≤ 100) → Ev g (rgtB t) := fun hg hr => hg.of_eq (rgtB_eq (by simp [hr]))
    have hj : Ev (fun k => swageref11_Right.j1 k true t) false := Ev.succ (by
      simp only [swageref11_Right.j1]
      exact Ev.yes trivial (Ev.ret _))
    obtain ⟨r, hr, he⟩ := shaped_ev (siz t) t (Nat.le_refl _) (by rw [siz_eq]; omega)
    refine Ev.succ ?_
    simp only [swageref11_Right.f]
    refine Ev.bind hr ?_
    by_cases hS : Shp t
    · have : r = true := he.2 hS
      refine Ev.yes this (Ev.bind (depth_ev (siz t) t (Nat.le_refl _) (by rw [siz_eq]; omega)) ?_)
      by_cases hD : 100 < dep t
      · exact Ev.yes hD (hf hj (by omega))
      · refine Ev.no hD (Ev.bind (cells_ev (siz t) t (Nat.le_refl _) hS) ?_)
        by_cases hC : 1048576 < cel t
        · have : decide (1048576 < cel t) = true := by simp [hC]
          rw [this]
          exact hf hj (by rw [rgt_eq]; omega)
        · have : decide (1048576 < cel t) = false := by simp [hC]
          rw [this]
          obtain ⟨a, b, l⟩ := t
          simp only at h
          obtain ⟨q, hq, hqe⟩ := right2_loop l [] a b (by have := len_sizs l; simp; omega) (fun x hx => right2 n x (by have := siz_mem hx; omega) (by omega))
          refine (Ev.succ (v := q) ?_).of_eq (rgtB_eq ?_)
          · simp only [swageref11_Right.j1]
            exact Ev.no (by simp) hq
          · rw [hqe, rgt_eq, rgts_iff]
            have hL := ((shp_eq _).1 hS).1
            constructor
            · exact fun hh => ⟨⟨hL, by omega, fun x hx => (hh x hx).1⟩, by omega⟩
            · rintro ⟨⟨_, _, h2⟩, h3⟩ x hx
              refine ⟨h2 x hx, ?_⟩
              have := dep_mem hx
              rw [dep_eq] at h3
              simp only at h3
              omega
    · have : ¬ r = true := fun hh => hS (he.1 hh)
      exact Ev.no this (hf hj (fun hh => hS hh.1.shp))
theorem size2 (t : GType) (hs : siz t ≤ 40000) : Ev (fun k => swageref11_Size.f k t) (sizV t) := by
  simp only [swageref11_Size.f]
  refine Ev.bind (right2 _ t (Nat.le_refl _) hs) ?_
  unfold sizV
  by_cases h : rgtB t = true
  · rw [if_pos h]
    exact Ev.yes h (Ev.bind (cells_ev _ t (Nat.le_refl _) ((rgtB_iff t).1 h).1.shp) (Ev.ret _))
  · rw [if_neg h]
    exact Ev.no h (Ev.ret _)
noncomputable def scaV (t : GType) : Bool := rgtB t && (decide (t.Kind = 1) || decide (t.Kind = 2))
theorem scalar1 (t : GType) (hs : siz t ≤ 40000) : Ev (fun k => types_Scalar.f k t) (scaV t) := by
  simp only [types_Scalar.f]
  refine Ev.bind (right1 t hs) ?_
  unfold scaV
  by_cases h : rgtB t = true
  · refine Ev.yes h ?_
    by_cases k1 : t.Kind = 1
    · exact Ev.yes k1 ((Ev.ret _).of_eq (by simp [h, k1]))
    · exact Ev.no k1 ((Ev.ret _).of_eq (by simp [h, k1]))
  · exact Ev.no h ((Ev.ret _).of_eq (by simp [h]))
theorem scalar2 (t : GType) (hs : siz t ≤ 40000) : Ev (fun k => swageref11_Scalar.f k t) (scaV t) := by
  simp only [swageref11_Scalar.f]
  refine Ev.bind (right2 _ t (Nat.le_refl _) hs) ?_
  unfold scaV
  by_cases h : rgtB t = true
  · refine Ev.yes h ?_
    by_cases k1 : t.Kind = 1
    · exact Ev.yes k1 ((Ev.ret _).of_eq (by simp [h, k1]))
    · exact Ev.no k1 ((Ev.ret _).of_eq (by simp [h, k1]))
  · exact Ev.no h ((Ev.ret _).of_eq (by simp [h]))
/-! ## Offsets -/
noncomputable def offV (t : GType) (k : Int) : Int × Bool :=
  if rgtB t = true ∧ 0 ≤ k then (if t.Kind = 3 ∧ k < t.Count then (k * celh t.Kids, true) else if t.Kind = 4 ∧ k < (t.Kids.length : Int) then (cels (t.Kids.take k.toNat), true) else (0, false)) else (0, false)
theorem kid_sizV {t x : GType} (h : rgtB t = true) (hx : x ∈ t.Kids) : sizV x = cel x ∧ Rgt x := by
  obtain ⟨hr, hd⟩ := (rgtB_iff t).1 h
  have hrx := (rgts_iff _).1 ((rgt_eq t).1 hr).2.2 x hx
  have := dep_mem hx
  rw [dep_eq] at hd
  refine ⟨?_, hrx⟩
  unfold sizV
  rw [if_pos ((rgtB_iff x).2 ⟨hrx, by omega⟩)]
theorem off1_loop (t : GType) (n : Int) : ∀ (s pre : List GType), sub t.Kids (0 : Int) n = pre ++ s → (pre ++ s).length ≤ 64 → (∀ x ∈ pre ++ s, 1 ≤ cel x ∧ cel x ≤ 1048576) → (∀ x ∈ s, Ev (fun k => types_Size.f k x) (cel x)) →
    Ev (fun k => types_Offset.l0 k (cels pre) (pre.length : Int) t n) (cels (pre ++ s), true)
  | [], pre, he, hb, hB, hx => by
    refine Ev.succ ?_
    simp only [types_Offset.l0, he]
    refine Ev.no (ix_end _) ?_
    rw [List.append_nil]
    exact Ev.ret _
  | x :: s, pre, he, hb, hB, hx => by
    have ih := off1_loop t n s (pre ++ [x]) (by rw [he, app1]) (by simpa using hb) (by simpa using hB) (fun y hy => hx y (by simp [hy]))
    rw [← app1] at ih
    have h1 := cels_bound (l := pre) (B := 1048576) (fun y hy => hB y (by simp [hy]))
    have h2 := hB x (by simp)
    refine Ev.succ ?_
    simp only [types_Offset.l0, he]
    refine Ev.yes (ix_lt _ _ _) (Ev.yes (ix_in _ _ _) (Ev.bind (a := cel x) (by rw [rd_mid]; exact hx x (by simp)) ?_))
    rw [ix_next pre x s (by omega), wr (by omega) (by simp at hb; omega)]
    rw [cels_append] at ih
    simp only [cels, Int.add_zero] at ih
    exact ih
theorem off2_loop (q : List GType) (a b n : Int) : ∀ (s pre : List GType), (pre ++ s).length ≤ 64 → n = ((pre ++ s).length : Int) → (∀ x ∈ pre ++ s, 1 ≤ cel x ∧ cel x ≤ 1048576) → (∀ x ∈ s, Ev (fun k => swageref11_cells.f k x) (cel x)) →
    Ev (fun k => swageref11_Offset.l0 k (cels pre) (pre.length : Int) ⟨a, b, pre ++ s ++ q⟩ n) (cels (pre ++ s), true)
  | [], pre, hb, hn, hB, hx => by
    refine Ev.succ ?_
    simp only [swageref11_Offset.l0]
    refine Ev.no (by simp at hn; omega) ?_
    rw [List.append_nil]
    exact Ev.ret _
  | x :: s, pre, hb, hn, hB, hx => by
    have ih := off2_loop q a b n s (pre ++ [x]) (by simpa using hb) (by rw [hn, app1]) (by simpa using hB) (fun y hy => hx y (by simp [hy]))
    rw [← app1] at ih
    have h1 := cels_bound (l := pre) (B := 1048576) (fun y hy => hB y (by simp [hy]))
    have h2 := hB x (by simp)
    refine Ev.succ ?_
    simp only [swageref11_Offset.l0]
    have hl := ix_lt pre x s
    refine Ev.yes (by omega) (Ev.yes (by simp; omega) (Ev.bind (a := cel x) (by rw [List.append_assoc, List.cons_append, rd_mid]; exact hx x (by simp)) ?_))
    rw [ix_next pre x s (by omega), wr (by omega) (by simp at hb; omega)]
    rw [cels_append] at ih
    simp only [cels, Int.add_zero] at ih
    exact ih
theorem head_of {t : GType} (h : Rgt t) (k3 : t.Kind = 3) : ∃ x, t.Kids = [x] ∧ 1 ≤ t.Count ∧ t.Count ≤ 1048576 := by
  have hL := ((rgt_eq t).1 h).1
  have hl3 : t.Kids.length = 1 ∧ 1 ≤ t.Count ∧ t.Count ≤ 1048576 := by unfold Lok at hL; omega
  obtain ⟨x, hx⟩ := List.length_eq_one_iff.1 hl3.1
  exact ⟨x, hx, hl3.2⟩
theorem offset1 (t : GType) (n : Int) (hs : siz t ≤ 40000) : Ev (fun k => types_Offset.f k t n) (offV t n) := by
  have hj3 : Ev (fun k => types_Offset.j3 k true t n) (0, false) := Ev.succ (by
    simp only [types_Offset.j3]
    exact Ev.yes trivial (Ev.ret _))
  simp only [types_Offset.f]
  refine Ev.bind (right1 t hs) ?_
  unfold offV
  by_cases hr : rgtB t = true
  · refine Ev.yes hr ?_
    obtain ⟨hR, hD⟩ := (rgtB_iff t).1 hr
    by_cases h0 : n < 0
    · have : decide (n < 0) = true := by simp [h0]
      rw [this, if_neg (by omega)]
      exact hj3
    · have : decide (n < 0) = false := by simp [h0]
      rw [this, if_pos ⟨hr, by omega⟩]
      have hks : ∀ x ∈ t.Kids, Ev (fun k => types_Size.f k x) (cel x) := fun x hx => (size1 x (by have := siz_mem hx; rw [siz_eq] at hs; omega)).of_eq (kid_sizV hr hx).1
      have hj5 : Ev (fun k => types_Offset.j5 k true t n) (0, false) := Ev.succ (by
        simp only [types_Offset.j5]
        exact Ev.yes trivial (Ev.ret _))
      have hj4 : ¬ (t.Kind = 3 ∧ n < t.Count) → Ev (fun k => types_Offset.j4 k false t n) (if t.Kind = 4 ∧ n < (t.Kids.length : Int) then (cels (t.Kids.take n.toNat), true) else (0, false)) := fun _ => Ev.succ (by
        simp only [types_Offset.j4]
        refine Ev.no (by simp) ?_
        by_cases k4 : t.Kind = 4
        · refine Ev.yes k4 ?_
          by_cases hlt : n < (t.Kids.length : Int)
          · have : decide ((t.Kids.length : Int) ≤ n) = false := by simp; omega
            rw [this, if_pos ⟨k4, hlt⟩]
            refine Ev.succ ?_
            simp only [types_Offset.j5]
            refine Ev.no (by simp) (Ev.yes (by omega) ?_)
            have hL := ((rgt_eq t).1 hR).1
            have hsub : sub t.Kids 0 n = [] ++ t.Kids.take n.toNat := by unfold sub; simp
            have := off1_loop t n (t.Kids.take n.toNat) [] hsub (by simp; unfold Lok at hL; omega) (fun x hx => (kid_sizV hr (List.mem_of_mem_take (by simpa using hx))).2.cel) (fun x hx => hks x (List.mem_of_mem_take hx))
            exact this
          · have : decide ((t.Kids.length : Int) ≤ n) = true := by simp; omega
            rw [this, if_neg (by omega)]
            exact hj5
        · rw [if_neg (by omega)]
          exact Ev.no k4 hj5)
      refine Ev.succ ?_
      simp only [types_Offset.j3]
      refine Ev.no (by simp) ?_
      by_cases k3 : t.Kind = 3
      · refine Ev.yes k3 ?_
        by_cases hc : n < t.Count
        · have : decide (n < t.Count) = true := by simp [hc]
          rw [this, if_pos ⟨k3, hc⟩]
          obtain ⟨x, hx, hc1, hc2⟩ := head_of hR k3
          have hxc := (kid_sizV hr (x := x) (by simp [hx])).2.cel
          refine Ev.succ ?_
          simp only [types_Offset.j4]
          refine Ev.yes trivial (Ev.yes (by simp [hx]) (Ev.bind (a := cel x) ?_ ?_))
          · rw [show rd t.Kids 0 = x by rw [hx]; rfl]
            exact hks x (by simp [hx])
          · rw [hx]
            simp only [celh]
            have h1 : 0 ≤ n * cel x := Int.mul_nonneg (by omega) (by omega)
            have h2 := Int.mul_le_mul (show n ≤ 1048576 by omega) hxc.2 (by omega) (by omega)
            rw [wr (by omega) (by omega)]
            exact Ev.ret _
        · have : decide (n < t.Count) = false := by simp [hc]
          rw [this, if_neg (by omega)]
          exact hj4 (by omega)
      · refine Ev.no k3 ?_
        rw [if_neg (by omega)]
        exact hj4 (by omega)
  · rw [if_neg (by simp [hr])]
    exact Ev.no hr hj3
theorem offset2 (t : GType) (n : Int) (hs : siz t ≤ 40000) : Ev (fun k => swageref11_Offset.f k t n) (offV t n) := by
  have hj1 : Ev (fun k => swageref11_Offset.j1 k true t n) (0, false) := Ev.succ (by
    simp only [swageref11_Offset.j1]
    exact Ev.yes trivial (Ev.ret _))
  simp only [swageref11_Offset.f]
  refine Ev.bind (right2 _ t (Nat.le_refl _) hs) ?_
  unfold offV
  by_cases hr : rgtB t = true
  · refine Ev.yes hr ?_
    obtain ⟨hR, hD⟩ := (rgtB_iff t).1 hr
    by_cases h0 : n < 0
    · have : decide (n < 0) = true := by simp [h0]
      rw [this, if_neg (by omega)]
      exact hj1
    · have : decide (n < 0) = false := by simp [h0]
      rw [this, if_pos ⟨hr, by omega⟩]
      have hks : ∀ x ∈ t.Kids, Ev (fun k => swageref11_cells.f k x) (cel x) := fun x hx => cells_ev _ x (Nat.le_refl _) (kid_sizV hr hx).2.shp
      have hj4t : Ev (fun k => swageref11_Offset.j4 k true t n) (0, false) := Ev.succ (by
        simp only [swageref11_Offset.j4]
        exact Ev.yes trivial (Ev.ret _))
      have hj3 : Ev (fun k => swageref11_Offset.j3 k false t n) (if t.Kind = 4 ∧ n < (t.Kids.length : Int) then (cels (t.Kids.take n.toNat), true) else (0, false)) := Ev.succ (by
        simp only [swageref11_Offset.j3]
        refine Ev.no (by simp) ?_
        by_cases k4 : t.Kind = 4
        · refine Ev.yes k4 ?_
          by_cases hlt : n < (t.Kids.length : Int)
          · have : decide ((t.Kids.length : Int) ≤ n) = false := by simp; omega
            rw [this, if_pos ⟨k4, hlt⟩]
            refine Ev.succ ?_
            simp only [swageref11_Offset.j4]
            refine Ev.no (by simp) ?_
            have hL := ((rgt_eq t).1 hR).1
            have hloop := off2_loop (t.Kids.drop n.toNat) t.Kind t.Count n (t.Kids.take n.toNat) [] (by simp; unfold Lok at hL; omega) (by simp; omega) (fun x hx => (kid_sizV hr (List.mem_of_mem_take (by simpa using hx))).2.cel) (fun x hx => hks x (List.mem_of_mem_take hx))
            have ht : (⟨t.Kind, t.Count, [] ++ t.Kids.take n.toNat ++ t.Kids.drop n.toNat⟩ : GType) = t := by rw [List.nil_append, List.take_append_drop]; cases t; rfl
            rw [ht] at hloop
            exact hloop
          · have : decide ((t.Kids.length : Int) ≤ n) = true := by simp; omega
            rw [this, if_neg (by omega)]
            exact hj4t
        · rw [if_neg (by omega)]
          exact Ev.no k4 hj4t)
      refine Ev.succ ?_
      simp only [swageref11_Offset.j1]
      refine Ev.no (by simp) ?_
      by_cases k3 : t.Kind = 3
      · refine Ev.yes k3 ?_
        by_cases hc : n < t.Count
        · have : decide (n < t.Count) = true := by simp [hc]
          rw [this, if_pos ⟨k3, hc⟩]
          obtain ⟨x, hx, hc1, hc2⟩ := head_of hR k3
          have hxc := (kid_sizV hr (x := x) (by simp [hx])).2.cel
          refine Ev.succ ?_
          simp only [swageref11_Offset.j3]
          refine Ev.yes trivial (Ev.yes (by simp [hx]) (Ev.bind (a := cel x) ?_ ?_))
          · rw [show rd t.Kids 0 = x by rw [hx]; rfl]
            exact hks x (by simp [hx])
          · rw [hx]
            simp only [celh]
            have h1 : 0 ≤ n * cel x := Int.mul_nonneg (by omega) (by omega)
            have h2 := Int.mul_le_mul (show n ≤ 1048576 by omega) hxc.2 (by omega) (by omega)
            rw [wr (by omega) (by omega)]
            exact Ev.ret _
        · have : decide (n < t.Count) = false := by simp [hc]
          rw [this, if_neg (by omega)]
          exact hj3
      · refine Ev.no k3 ?_
        rw [if_neg (by omega)]
        exact hj3
  · rw [if_neg (by simp [hr])]
    exact Ev.no hr hj1
end Go.Proofs.YtoafojcfledkcaaDoor
