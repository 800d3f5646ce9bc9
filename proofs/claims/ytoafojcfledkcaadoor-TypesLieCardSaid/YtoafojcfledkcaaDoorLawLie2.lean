/- The law TypesLie. -/
import Derived.Test.YtoafojcfledkcaaDoorLawLie
namespace Go.Proofs.YtoafojcfledkcaaDoor
set_option linter.all false
theorem gt_eta (t : GType) : (⟨t.Kind, t.Count, t.Kids⟩ : GType) = t := by cases t; rfl
theorem sizV_of {t : GType} (h : rgtB t = true) : sizV t = cel t := by unfold sizV; rw [if_pos h]
theorem lie_end (t : GType) (hs : siz t ≤ 40000) (hr : rgtB t = true) (i e n : Int) (h1 : e ≤ cel t) (h2 : t.Kind = 4 → e = cel t) : Ev (fun k => swagelaw11_TypesLie.j10 k false t t.Kids i e true n) true := by
  have z : Ev (fun k => types_Size.f k (⟨t.Kind, t.Count, t.Kids⟩ : GType)) (cel t) := by rw [gt_eta]; exact (size1 t hs).of_eq (sizV_of hr)
  have hc := ((rgtB_iff t).1 hr).1.cel
  refine Ev.succ ?_
  simp only [swagelaw11_TypesLie.j10]
  refine Ev.no (by simp) (Ev.yes trivial (Ev.bind z (Ev.yes h1 ?_)))
  by_cases k4 : t.Kind = 4
  · exact Ev.yes k4 (Ev.bind z (Ev.yes (h2 k4) (Ev.bind z ((Ev.ret _).of_eq (decide_eq_true hc.2)))))
  · exact Ev.no k4 (Ev.bind z ((Ev.ret _).of_eq (decide_eq_true hc.2)))
theorem lie_stop (t : GType) (hs : siz t ≤ 40000) (hr : rgtB t = true) (i e n : Int) (hi : ¬ i < n) (h1 : e ≤ cel t) (h2 : t.Kind = 4 → e = cel t) : Ev (fun k => swagelaw11_TypesLie.l0 k e i t.Kids t n true) true := by
  refine Ev.succ ?_
  simp only [swagelaw11_TypesLie.l0]
  exact Ev.no hi (lie_end t hs hr i e n h1 h2)
theorem lie_step (t x : GType) (hs : siz t ≤ 40000) (hr : rgtB t = true) (i e n : Int) (hi : i < n) (k2 : t.Kind ≠ 2) (ho : offV t i = (e, true)) (hl : 0 < t.Kids.length) (hx4 : t.Kind = 4 → 0 ≤ i ∧ i < (t.Kids.length : Int) ∧ rd t.Kids i = x) (hx3 : t.Kind ≠ 4 → rd t.Kids 0 = x)
    (hz : sizV x = cel x) (hxs : siz x ≤ 40000) (he : 0 ≤ e ∧ e ≤ 1000000000000) (hc : 0 ≤ cel x ∧ cel x ≤ 1048577) (hi0 : 0 ≤ i ∧ i ≤ 1000000000)
    (hk : Ev (fun k => swagelaw11_TypesLie.l0 k (e + cel x) (i + 1) t.Kids t n true) true) : Ev (fun k => swagelaw11_TypesLie.l0 k e i t.Kids t n true) true := by
  have o : Ev (fun k => types_Offset.f k (⟨t.Kind, t.Count, t.Kids⟩ : GType) i) (e, true) := by rw [gt_eta]; exact (offset1 t i hs).of_eq ho
  have hd : decide (t.Kind = 2) = false := decide_eq_false k2
  have hj : Ev (fun k => swagelaw11_TypesLie.j14 k x.Kind x.Count x.Kids e t.Kids i t n true) true := by
    refine Ev.succ ?_
    simp only [swagelaw11_TypesLie.j14]
    refine Ev.bind (a := cel x) (by rw [gt_eta]; exact (size1 x hxs).of_eq hz) (Ev.succ ?_)
    simp only [swagelaw11_TypesLie.j12]
    rw [wr (by omega) (by omega), wr (by omega) (by omega)]
    exact hk
  refine Ev.succ ?_
  simp only [swagelaw11_TypesLie.l0]
  refine Ev.yes hi ?_
  rw [hd]
  refine Ev.succ ?_
  simp only [swagelaw11_TypesLie.j10]
  refine Ev.yes rfl (Ev.bind o (Ev.yes rfl ?_))
  have hdd : (!(decide (e = e))) = false := by simp
  show Ev (fun k => swagelaw11_TypesLie.j13 k (!(decide (e = e))) t t.Kids i e n true) true
  rw [hdd]
  refine Ev.succ ?_
  simp only [swagelaw11_TypesLie.j13]
  refine Ev.no (by simp) (Ev.yes (by omega) ?_)
  by_cases k4 : t.Kind = 4
  · obtain ⟨a1, a2, a3⟩ := hx4 k4
    refine Ev.yes k4 (Ev.yes ⟨a1, a2⟩ ?_)
    rw [a3]
    exact hj
  · refine Ev.no k4 ?_
    rw [hx3 k4]
    exact hj
theorem lie_tuple (t : GType) (hs : siz t ≤ 40000) (hr : rgtB t = true) (k4 : t.Kind = 4) : ∀ (s pre : List GType), t.Kids = pre ++ s → Ev (fun k => swagelaw11_TypesLie.l0 k (cels pre) (pre.length : Int) t.Kids t (t.Kids.length : Int) true) true
  | [], pre, hp => by
    rw [List.append_nil] at hp
    have hc := cel_eq t
    rw [if_neg (by omega), if_pos k4, hp] at hc
    have hcc := ((rgtB_iff t).1 hr).1.cel
    exact lie_stop t hs hr _ _ _ (by rw [hp]; omega) (by omega) (fun _ => by omega)
  | x :: s, pre, hp => by
    have ih := lie_tuple t hs hr k4 s (pre ++ [x]) (by rw [hp, app1])
    have hx : x ∈ t.Kids := by rw [hp]; simp
    obtain ⟨hz, hxr⟩ := kid_sizV hr hx
    have hL := ((rgt_eq t).1 ((rgtB_iff t).1 hr).1).1
    have hlen : t.Kids.length ≤ 64 := by unfold Lok at hL; omega
    have hpl : pre.length + 1 ≤ t.Kids.length := by rw [hp]; simp
    have hB := cels_bound (l := pre) (B := 1048576) (fun y hy => (kid_sizV hr (x := y) (by rw [hp]; simp [hy])).2.cel)
    have hxc := hxr.cel
    rw [cels_append] at ih
    simp only [cels, Int.add_zero, List.length_append, List.length_cons, List.length_nil] at ih
    refine lie_step t x hs hr _ _ _ (by omega) (by omega) ?_ (by omega) (fun _ => ⟨by omega, by omega, by rw [hp, rd_mid]⟩) (fun h => absurd k4 h) hz (by have := siz_mem hx; rw [siz_eq] at hs; omega) (by omega) (by omega) (by omega) ?_
    · unfold offV
      rw [if_pos ⟨hr, by omega⟩, if_neg (by omega), if_pos ⟨k4, by omega⟩, hp]
      simp
    · exact ih
theorem lie_array (t x : GType) (hs : siz t ≤ 40000) (hr : rgtB t = true) (k3 : t.Kind = 3) (hx : t.Kids = [x]) (n : Nat) (hn : (n : Int) ≤ t.Count) (hn100 : n ≤ 100) : ∀ (m i : Nat), i + m = n → Ev (fun k => swagelaw11_TypesLie.l0 k ((i : Int) * cel x) (i : Int) t.Kids t (n : Int) true) true
  | 0, i, hi => by
    obtain ⟨hz, hxr⟩ := kid_sizV hr (x := x) (by rw [hx]; simp)
    have hxc := hxr.cel
    have hc := cel_eq t
    rw [if_pos k3, hx] at hc
    simp only [celh] at hc
    have hcc := ((rgtB_iff t).1 hr).1.cel
    have h1 : (i : Int) * cel x ≤ t.Count * cel x := Int.mul_le_mul_of_nonneg_right (by omega) (by omega)
    rw [Int.mul_comm t.Count] at h1
    exact lie_stop t hs hr _ _ _ (by omega) (by omega) (fun h => by omega)
  | m + 1, i, hi => by
    have ih := lie_array t x hs hr k3 hx n hn hn100 m (i + 1) (by omega)
    obtain ⟨hz, hxr⟩ := kid_sizV hr (x := x) (by rw [hx]; simp)
    have hxc := hxr.cel
    have h0 : 0 ≤ (i : Int) * cel x := Int.mul_nonneg (by omega) (by omega)
    have h1 := Int.mul_le_mul (show (i : Int) ≤ 100 by omega) hxc.2 (by omega) (by omega)
    refine lie_step t x hs hr _ _ _ (by omega) (by omega) ?_ (by rw [hx]; simp) (fun h => by omega) (fun _ => by rw [hx]; rfl) hz (by have := siz_mem (x := x) (l := t.Kids) (by rw [hx]; simp); rw [siz_eq] at hs; omega) (by omega) (by omega) (by omega) ?_
    · unfold offV
      rw [if_pos ⟨hr, by omega⟩, if_pos ⟨k3, by omega⟩, hx]
      rfl
    · have e : (((i + 1 : Nat) : Int)) * cel x = (i : Int) * cel x + cel x := by rw [Int.natCast_add, Int.add_mul]; simp
      rw [e] at ih
      exact ih
theorem lie_j3 (t : GType) (hs : siz t ≤ 40000) (hr : rgtB t = true) : Ev (fun k => swagelaw11_TypesLie.j3 k t true) true := by
  have hR := ((rgtB_iff t).1 hr).1
  have hcc := hR.cel
  have hL := ((rgt_eq t).1 hR).1
  refine Ev.succ ?_
  simp only [swagelaw11_TypesLie.j3]
  by_cases k3 : t.Kind = 3
  · obtain ⟨x, hx, hc1, hc2⟩ := head_of hR k3
    refine Ev.yes k3 (Ev.succ ?_)
    simp only [swagelaw11_TypesLie.j4]
    obtain ⟨n, hn⟩ : ∃ n : Nat, min t.Count 100 = (n : Int) := ⟨(min t.Count 100).toNat, by omega⟩
    rw [hn]
    have := lie_array t x hs hr k3 hx n (by omega) (by omega) n 0 (by omega)
    have e : ((0 : Nat) : Int) * cel x = 0 := by simp
    rw [e] at this
    exact this
  · refine Ev.no k3 (Ev.succ ?_)
    simp only [swagelaw11_TypesLie.j4]
    by_cases k4 : t.Kind = 4
    · exact lie_tuple t hs hr k4 t.Kids [] rfl
    · by_cases k2 : t.Kind = 2
      · refine Ev.succ ?_
        simp only [swagelaw11_TypesLie.l0]
        have hlen : t.Kids.length = 1 := by unfold Lok at hL; omega
        refine Ev.yes (by omega) ?_
        have hd : (!decide (t.Kind = 2)) = false := by simp [k2]
        rw [hd]
        exact lie_end t hs hr _ _ _ (by omega) (fun h => by omega)
      · have hlen : t.Kids.length = 0 := by unfold Lok at hL; omega
        exact lie_stop t hs hr _ _ _ (by omega) (by omega) (fun h => by omega)
theorem swagelaw11_TypesLie.law (t u : GType) (h0 : Wf_Type t) (h1 : Wf_Type u) : ∃ k, swagelaw11_TypesLie.f k t u = some true := by
  apply Ev.val
  simp only [swagelaw11_TypesLie.f]
  obtain ⟨b, hb, hbs⟩ := few_ev t
  obtain ⟨c, hc, hcs⟩ := few_ev u
  refine Ev.bind small_ev (Ev.bind hb ?_)
  have hj2 : Ev (fun k => swagelaw11_TypesLie.j2 k true t u true) true := Ev.succ (by
    simp only [swagelaw11_TypesLie.j2]
    exact Ev.yes trivial (Ev.ret _))
  have hf : Ev (fun k => swagelaw11_TypesLie.j1 k false t u true) true := Ev.succ (by
    simp only [swagelaw11_TypesLie.j1]
    exact Ev.no (by simp) hj2)
  cases b with
  | false => exact Ev.no (by simp) hf
  | true =>
    refine Ev.yes rfl (Ev.bind hc ?_)
    cases c with
    | false => exact hf
    | true =>
      have hs : siz t ≤ 40000 := by have := hbs rfl; omega
      have hu : siz u ≤ 40000 := by have := hcs rfl; omega
      refine Ev.succ ?_
      simp only [swagelaw11_TypesLie.j1]
      refine Ev.yes trivial (Ev.bind (right1 t hs) ?_)
      by_cases rt : rgtB t = true
      · refine Ev.yes rt (Ev.bind (right1 u hu) ?_)
        by_cases ru : rgtB u = true
        · rw [ru]
          refine Ev.succ ?_
          simp only [swagelaw11_TypesLie.j2]
          obtain ⟨q, hq, hqe⟩ := sameB1 t u hs
          refine Ev.no (by simp) (Ev.bind (text1 _ t (Nat.le_refl _) hs h0) (Ev.bind (text1 _ u (Nat.le_refl _) hu h1) (Ev.bind hq ?_)))
          have hti := txt_eq_iff ((rgtB_iff t).1 rt).1 ((rgtB_iff u).1 ru).1
          by_cases he : t = u
          · exact Ev.yes (bt_inj.2 (hti.2 he)) (Ev.yes (hqe.2 he) (lie_j3 t hs rt))
          · exact Ev.no (fun h => he (hti.1 (bt_inj.1 h))) (Ev.no (fun h => he (hqe.1 h)) (lie_j3 t hs rt))
        · have : rgtB u = false := by simpa using ru
          rw [this]
          exact hj2
      · exact Ev.no rt hj2
end Go.Proofs.YtoafojcfledkcaaDoor
