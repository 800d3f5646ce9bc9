/- Types: the document's texts; the small case; the law TypesTell. -/
import Derived.Test.YtoafojcfledkcaaDoorPureT6
namespace Go.Proofs.YtoafojcfledkcaaDoor
set_option linter.all false
theorem joinTail_append (sep : List UInt8) (r q : List (List UInt8)) : Lib.joinTail sep (r ++ q) = Lib.joinTail sep r ++ Lib.joinTail sep q := by simp [Lib.joinTail]
theorem join_snoc (p : List UInt8) (r : List (List UInt8)) (x sep : List UInt8) : Lib.join (p :: r ++ [x]) sep = Lib.join (p :: r) sep ++ sep ++ x := by
  rw [List.cons_append, Lib.join_cons, Lib.join_cons, joinTail_append]
  simp [Lib.joinTail]
theorem text2_loop (a b : Int) : ∀ (s pre : List GType), (∀ x ∈ pre ++ s, (txt x).length + 1 ≤ 40 * siz x) → sizs (pre ++ s) ≤ 40000 → (∀ x ∈ s, Ev (fun k => swageref11_Text.f k x) (bt (txt x))) →
    Ev (fun k => swageref11_Text.l0 k (bt ([40] ++ Lib.join (txts pre) [44])) (pre.length : Int) ⟨a, b, pre ++ s⟩) (bt ([40] ++ Lib.join (txts (pre ++ s)) [44] ++ [41]))
  | [], pre, hB, hb, hx => by
    rw [List.append_nil] at hB hb ⊢
    have h1 := join_le (txts pre)
    have h2 := lens_txts hB
    have h3 : (txts pre).length = pre.length := by rw [txts_map]; simp
    refine Ev.succ ?_
    simp only [swageref11_Text.l0]
    refine Ev.no (by simp) ?_
    rw [show (⟨#[41]⟩ : ByteArray) = bt [41] from rfl, bt_append]
    exact Ev.yes (by rw [bt_size, bt_size]; simp; omega) (Ev.ret _)
  | x :: s, pre, hB, hb, hx => by
    have ih := text2_loop a b s (pre ++ [x]) (by simpa using hB) (by simpa using hb) (fun y hy => hx y (by simp [hy]))
    rw [← app1] at ih
    have hle := len_sizs (pre ++ x :: s)
    have h1 := join_le (txts pre)
    have h2 := lens_txts (l := pre) (fun y hy => hB y (by simp [hy]))
    have h3 : (txts pre).length = pre.length := by rw [txts_map]; simp
    have hxl := hB x (by simp)
    have hbs : sizs pre + (siz x + sizs s) ≤ 40000 := by rw [sizs_append] at hb; simpa [sizs] using hb
    have hj : ∀ (u : List UInt8), u.length ≤ 40 * sizs pre + 10 → u ++ txt x = [40] ++ Lib.join (txts (pre ++ [x])) [44] → Ev (fun k => swageref11_Text.j3 k (bt u) ⟨a, b, pre ++ x :: s⟩ (pre.length : Int)) (bt ([40] ++ Lib.join (txts (pre ++ x :: s)) [44] ++ [41])) := fun u hu he => Ev.succ (by
      simp only [swageref11_Text.j3]
      refine Ev.yes (ix_in _ _ _) (Ev.bind (a := bt (txt x)) (by rw [rd_mid]; exact hx x (by simp)) (Ev.yes (by rw [bt_size, bt_size]; omega) ?_))
      rw [bt_append, he, ix_next pre x s (by omega)]
      exact ih)
    refine Ev.succ ?_
    simp only [swageref11_Text.l0]
    refine Ev.yes (ix_lt _ _ _) ?_
    cases pre with
    | nil =>
      refine Ev.no (by simp) (hj [40] (by simp) ?_)
      simp [txts, Lib.join_one]
    | cons p r =>
      refine Ev.yes (by simp only [List.length_cons]; omega) (Ev.yes ?_ ?_)
      · rw [show (⟨#[44]⟩ : ByteArray) = bt [44] from rfl, bt_size, bt_size]; simp only [List.length_append, List.length_cons, List.length_nil]; omega
      · rw [show (⟨#[44]⟩ : ByteArray) = bt [44] from rfl, bt_append]
        refine hj _ ?_ ?_
        · simp only [List.length_append, List.length_cons, List.length_nil]
          simp only [List.length_cons] at h2 h3
          omega
        · rw [txts_map, txts_map, List.map_append, List.map_cons, List.map_cons, List.map_nil, join_snoc]
          simp
theorem text2 : ∀ (n : Nat) (t : GType), siz t ≤ n → n ≤ 40000 → Wf_Type t → Ev (fun k => swageref11_Text.f k t) (bt (txt t))
  | 0, t, h, _, _ => by have := siz_pos t; omega
  | n + 1, t, h, hn, hw => by
    cases hw with
    | mk _ w0 w1 w2 =>
    obtain ⟨a, b, l⟩ := t
    rw [siz_eq] at h
    simp only at h w1 w2
    have ih : ∀ x ∈ l, Ev (fun k => swageref11_Text.f k x) (bt (txt x)) := fun x hx => text2 n x (by have := siz_mem hx; omega) (by omega) (w2 x hx)
    have hB : ∀ x ∈ l, (txt x).length + 1 ≤ 40 * siz x := fun x hx => txt_len (siz x) x (Nat.le_refl _) (w2 x hx)
    have hq : Ev (fun k => swageref11_Text.j1 k true ⟨a, b, l⟩) (bt [63]) := Ev.succ (by
      simp only [swageref11_Text.j1]
      exact Ev.yes trivial (Ev.ret _))
    refine Ev.succ ?_
    simp only [swageref11_Text.f]
    have he := txt_eq ⟨a, b, l⟩
    simp only at he
    by_cases k1 : a = 1
    · rw [he, if_pos k1]
      exact Ev.yes k1 (Ev.ret _)
    · rw [if_neg k1] at he
      refine Ev.no k1 ?_
      by_cases h1 : a < 1
      · rw [he, if_pos (.inl h1)]
        exact Ev.yes h1 hq
      · refine Ev.no h1 ?_
        by_cases h4 : 4 < a
        · rw [he, if_pos (.inr (.inl h4))]
          exact Ev.yes h4 hq
        · refine Ev.no h4 ?_
          by_cases hl : l.length = 0
          · rw [he, if_pos (.inr (.inr hl))]
            have : decide ((l.length : Int) < 1) = true := decide_eq_true (by omega)
            rw [this]; exact hq
          · rw [if_neg (by omega)] at he
            have : decide ((l.length : Int) < 1) = false := decide_eq_false (by omega)
            rw [this]
            obtain ⟨x, r, rfl⟩ := List.exists_cons_of_length_pos (Nat.pos_of_ne_zero hl)
            have hxl := hB x (by simp)
            have hxs : siz x ≤ 40000 := by simp only [sizs] at h; omega
            have h0 : 0 < (((x :: r).length : Nat) : Int) := by simp only [List.length_cons]; omega
            refine Ev.succ ?_
            simp only [swageref11_Text.j1]
            refine Ev.no (by simp) ?_
            by_cases k2 : a = 2
            · rw [he, if_pos k2]
              refine Ev.yes k2 (Ev.yes h0 (Ev.bind (a := bt (txt x)) (ih x (by simp)) ?_))
              rw [show (⟨#[42]⟩ : ByteArray) = bt [42] from rfl]
              refine Ev.yes (by rw [bt_size, bt_size]; simp; omega) ((Ev.ret _).of_eq ?_)
              rw [bt_append]
              rfl
            · rw [if_neg k2] at he
              refine Ev.no k2 ?_
              by_cases k3 : a = 3
              · rw [he, if_pos k3]
                have hil := Lib.itoa_length_le b w1.1 w1.2
                refine Ev.yes k3 (Ev.yes h0 (Ev.bind (number5_ev b w1.1 w1.2) ?_))
                rw [show (⟨#[91]⟩ : ByteArray) = bt [91] from rfl, show (⟨#[93]⟩ : ByteArray) = bt [93] from rfl, bt_append, bt_append]
                refine Ev.yes (by rw [bt_size, bt_size]; simp; omega) (Ev.yes (by rw [bt_size, bt_size]; simp; omega) (Ev.bind (a := bt (txt x)) (ih x (by simp)) ?_))
                rw [bt_append]
                exact Ev.yes (by rw [bt_size, bt_size]; simp; omega) (Ev.ret _)
              · rw [he, if_neg k3]
                exact Ev.no k3 (text2_loop a b (x :: r) [] hB (by simp; omega) ih)
/-! ## The small case -/
theorem small_ev : Ev (fun k => swagelaw11_small.f k) true := Ev.at_ 20 fun k => by kernel_rfl
end Go.Proofs.YtoafojcfledkcaaDoor
