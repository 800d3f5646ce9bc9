/- Types: texts. -/
import Derived.Test.YtoafojcfledkcaaDoorPureT5
import Derived.Lib.ItoaMem
import Derived.Lib.ItoaLen
import Derived.Lib.Join
namespace Go.Proofs.YtoafojcfledkcaaDoor
set_option linter.all false
abbrev bt (l : List UInt8) : ByteArray := ⟨l.toArray⟩
theorem bt_size (l : List UInt8) : (bt l).size = l.length := by show l.toArray.size = _; simp
theorem bt_append (a b : List UInt8) : bt a ++ bt b = bt (a ++ b) := by
  apply ByteArray.ext
  simp
theorem bt_list (l : List UInt8) : (bt l).data.toList = l := by simp
theorem bstr_one (n : Int) : bstr [n] = bt [UInt8.ofNat n.toNat] := by
  simp only [bstr, List.foldl]
  apply ByteArray.ext
  rfl
theorem digits_ev : ∀ (n u : Nat), u ≤ n → u < 9223372036854775808 → Ev (fun k => swageref05_digits.f k (u : Int)) (bt (Lib.decDigits u)) := by
  intro n
  induction n using Nat.strongRecOn with
  | _ n ih =>
    intro u hu h63
    refine Ev.succ ?_
    simp only [swageref05_digits.f]
    have hm : Int.tmod (u : Int) 10 = ((u % 10 : Nat) : Int) := by rw [Int.tmod_eq_emod_of_nonneg (by omega)]; omega
    have hw : IntKind.u8.wrap (IntKind.i64.wrap (48 + Int.tmod (u : Int) 10)) = ((48 + u % 10 : Nat) : Int) := by
      rw [hm, wr (by omega) (by omega), IntKind.wrap_u8]; omega
    rw [hw, bstr_one]
    have hto : UInt8.ofNat (((48 + u % 10 : Nat) : Int)).toNat = UInt8.ofNat (48 + u % 10) := by rw [Int.toNat_natCast]
    rw [hto]
    by_cases h : u < 10
    · refine Ev.yes (by omega) ((Ev.ret _).of_eq ?_)
      rw [Lib.decDigits_one h, show u % 10 = u by omega]
    · refine Ev.no (by omega) ?_
      have hd : IntKind.i64.wrap (Int.tdiv (u : Int) 10) = ((u / 10 : Nat) : Int) := by
        rw [show Int.tdiv (u : Int) 10 = ((u / 10 : Nat) : Int) by rw [Int.tdiv_eq_ediv_of_nonneg (by omega)]; omega]
        exact wr (by omega) (by omega)
      rw [hd]
      refine Ev.bind (ih (u / 10) (by omega) (u / 10) (Nat.le_refl _) (by omega)) ?_
      have hl := Lib.itoa_length_le ((u / 10 : Nat) : Int) (by omega) (by omega)
      rw [Lib.itoa_nonneg] at hl
      refine Ev.yes (by rw [bt_size, bt_size]; simp; omega) ((Ev.ret _).of_eq ?_)
      rw [bt_append]
      conv => rhs; rw [Lib.decDigits]
      rw [dif_neg h]
theorem number5_ev (n : Int) (h0 : -9223372036854775808 ≤ n) (h1 : n ≤ 9223372036854775807) : Ev (fun k => swageref05_Number.f k n) (bt (Lib.itoa n)) := by
  simp only [swageref05_Number.f]
  refine Ev.bind ?_ (Ev.ret _)
  simp only [swageref05_number.f]
  by_cases hn : 0 ≤ n
  · obtain ⟨u, rfl⟩ : ∃ u : Nat, n = (u : Int) := ⟨n.toNat, by omega⟩
    rw [Lib.itoa_nonneg]
    exact Ev.yes hn (Ev.bind (digits_ev u u (Nat.le_refl _) (by omega)) (Ev.ret _))
  · refine Ev.no hn ?_
    obtain ⟨u, rfl⟩ : ∃ u : Nat, n = -(u : Int) := ⟨n.natAbs, by omega⟩
    rw [Lib.itoa_neg u (by omega)]
    by_cases hm : -(u : Int) = -9223372036854775808
    · refine Ev.yes hm ((Ev.ret _).of_eq ?_)
      obtain rfl : u = 9223372036854775808 := by omega
      simp [Lib.decDigits]
    · refine Ev.no hm ?_
      rw [Int.neg_neg, wr (by omega) (by omega)]
      refine Ev.bind (digits_ev u u (Nat.le_refl _) (by omega)) ?_
      have hl := Lib.itoa_length_le ((u : Nat) : Int) (by omega) (by omega)
      rw [Lib.itoa_nonneg] at hl
      rw [show (⟨#[45]⟩ : ByteArray) = bt [45] from rfl, bt_append]
      exact Ev.yes (by rw [bt_size, bt_size]; simp; omega) ((Ev.ret _).of_eq rfl)
mutual
def txt : GType → List UInt8
  | ⟨k, c, l⟩ => if k = 1 then [105, 110, 116] else if k < 1 ∨ 4 < k ∨ l.length = 0 then [63] else if k = 2 then [42] ++ txth l else if k = 3 then [91] ++ Lib.itoa c ++ [93] ++ txth l else [40] ++ Lib.join (txts l) [44] ++ [41]
def txts : List GType → List (List UInt8)
  | [] => []
  | x :: xs => txt x :: txts xs
def txth : List GType → List UInt8
  | [] => []
  | x :: _ => txt x
end
theorem txt_eq (t : GType) : txt t = if t.Kind = 1 then [105, 110, 116] else if t.Kind < 1 ∨ 4 < t.Kind ∨ t.Kids.length = 0 then [63] else if t.Kind = 2 then [42] ++ txth t.Kids else if t.Kind = 3 then [91] ++ Lib.itoa t.Count ++ [93] ++ txth t.Kids else [40] ++ Lib.join (txts t.Kids) [44] ++ [41] := by
  obtain ⟨a, b, l⟩ := t; simp only [txt]
theorem txts_map (l : List GType) : txts l = l.map txt := by
  induction l with
  | nil => simp [txts]
  | cons x l ih => simp [txts, ih]
theorem lens_txts {l : List GType} (h : ∀ x ∈ l, (txt x).length + 1 ≤ 40 * siz x) : Lib.lens (txts l) + l.length ≤ 40 * sizs l := by
  induction l with
  | nil => simp [txts, Lib.lens, sizs]
  | cons x l ih =>
    have h1 := h x (by simp)
    have h2 := ih (fun y hy => h y (by simp [hy]))
    simp only [txts, Lib.lens, sizs, List.length_cons, List.map_cons, List.sum_cons] at h2 ⊢
    omega
theorem join_le (L : List (List UInt8)) : (Lib.join L [44]).length ≤ Lib.lens L + L.length := by
  cases L with
  | nil => simp [Lib.join_nil]
  | cons x r => rw [Lib.join_length]; simp; omega
theorem txt_len : ∀ (n : Nat) (t : GType), siz t ≤ n → Wf_Type t → (txt t).length + 1 ≤ 40 * siz t
  | 0, t, h, _ => by have := siz_pos t; omega
  | n + 1, t, h, hw => by
    cases hw with
    | mk _ w0 w1 w2 =>
    rw [siz_eq] at h ⊢
    have ih : ∀ x ∈ t.Kids, (txt x).length + 1 ≤ 40 * siz x := fun x hx => txt_len n x (by have := siz_mem hx; omega) (w2 x hx)
    have hh : (txth t.Kids).length ≤ 40 * sizs t.Kids := by
      cases hk : t.Kids with
      | nil => simp [txth]
      | cons x r =>
        have := ih x (by simp [hk])
        simp only [txth, sizs]; omega
    rw [txt_eq]
    split
    · simp; omega
    · split
      · simp; omega
      · split
        · simp only [List.length_append, List.length_cons, List.length_nil]; omega
        · split
          · have := Lib.itoa_length_le t.Count w1.1 w1.2
            simp only [List.length_append, List.length_cons, List.length_nil]; omega
          · have h1 := join_le (txts t.Kids)
            have h2 := lens_txts ih
            have h3 : (txts t.Kids).length = t.Kids.length := by rw [txts_map]; simp
            simp only [List.length_append, List.length_cons, List.length_nil]; omega
theorem map_bt (l : List (List UInt8)) : (l.map bt).map (fun b => b.data.toList) = l := by
  rw [List.map_map]
  conv => rhs; rw [← List.map_id l]
  exact List.map_congr_left fun x _ => bt_list x
theorem text1_loop (a b : Int) (hb0 : -9223372036854775808 ≤ b ∧ b ≤ 9223372036854775807) : ∀ (s pre : List GType), (∀ x ∈ pre ++ s, (txt x).length + 1 ≤ 40 * siz x) → sizs (pre ++ s) ≤ 40000 → (∀ x ∈ s, Ev (fun k => types_Text.f k x) (bt (txt x))) →
    Ev (fun k => types_Text.l0 k (pre.length : Int) ((txts pre).map bt) ⟨a, b, pre ++ s⟩) (bt (txt ⟨a, b, pre ++ s⟩))
  | [], pre, hB, hb, hx => by
    rw [List.append_nil] at hB hb ⊢
    have hpl : (txts pre).length = pre.length := by rw [txts_map]; simp
    have hle := len_sizs pre
    have hq : Ev (fun k => types_Text.j1 k true ((txts pre).map bt) ⟨a, b, pre⟩) (bt [63]) := Ev.succ (by
      simp only [types_Text.j1]
      exact Ev.yes trivial (Ev.ret _))
    refine Ev.succ ?_
    simp only [types_Text.l0]
    refine Ev.no (by simp) ?_
    have he := txt_eq ⟨a, b, pre⟩
    simp only at he
    by_cases k1 : a = 1
    · rw [he, if_pos k1]
      exact Ev.yes k1 (Ev.ret _)
    · rw [if_neg k1] at he
      refine Ev.no k1 ?_
      by_cases h1 : a < 1
      · rw [he, if_pos (.inl h1)]
        exact Ev.yes h1 hq
      · refine Ev.no h1 ?_
        by_cases h4 : 4 < a
        · rw [he, if_pos (.inr (.inl h4))]
          exact Ev.yes h4 hq
        · refine Ev.no h4 ?_
          by_cases hl : pre.length = 0
          · rw [he, if_pos (.inr (.inr hl))]
            have : decide ((((txts pre).map bt).length : Int) = 0) = true := by rw [List.length_map, hpl]; simp; exact List.eq_nil_of_length_eq_zero hl
            rw [this]; exact hq
          · rw [if_neg (by omega)] at he
            have : decide ((((txts pre).map bt).length : Int) = 0) = false := by rw [List.length_map, hpl]; exact decide_eq_false (by omega)
            rw [this]
            obtain ⟨x, r, rfl⟩ := List.exists_cons_of_length_pos (Nat.pos_of_ne_zero hl)
            have hrd : rd ((txts (x :: r)).map bt) 0 = bt (txt x) := rfl
            have hxl := hB x (by simp)
            have hxs : siz x ≤ 40000 := by simp only [sizs] at hb; omega
            have h0 : 0 < (((txts (x :: r)).map bt).length : Int) := by rw [List.length_map, hpl]; simp only [List.length_cons]; omega
            refine Ev.succ ?_
            simp only [types_Text.j1]
            refine Ev.no (by simp) ?_
            by_cases k2 : a = 2
            · rw [he, if_pos k2]
              refine Ev.yes k2 (Ev.yes h0 ?_)
              rw [hrd, show (⟨#[42]⟩ : ByteArray) = bt [42] from rfl]
              refine Ev.yes (by rw [bt_size, bt_size]; simp; omega) ((Ev.ret _).of_eq ?_)
              rw [bt_append]
              rfl
            · rw [if_neg k2] at he
              refine Ev.no k2 ?_
              by_cases k3 : a = 3
              · rw [he, if_pos k3]
                have hil := Lib.itoa_length_le b hb0.1 hb0.2
                refine Ev.yes k3 (Ev.yes h0 (Ev.bind (a := bt (Lib.itoa b)) ?_ ?_))
                · simp only [strconv_Itoa.f]
                  exact Ev.yes hb0 (Ev.ret _)
                · rw [hrd, show (⟨#[91]⟩ : ByteArray) = bt [91] from rfl, show (⟨#[93]⟩ : ByteArray) = bt [93] from rfl, bt_append, bt_append, bt_append]
                  refine Ev.yes (by rw [bt_size, bt_size]; simp; omega) (Ev.yes (by rw [bt_size, bt_size]; simp; omega) (Ev.yes (by rw [bt_size, bt_size]; simp; omega) (Ev.ret _)))
              · rw [he, if_neg k3]
                refine Ev.no k3 ?_
                have h1 := join_le (txts (x :: r))
                have h2 := lens_txts (l := x :: r) (fun y hy => hB y (by simpa using hy))
                refine Ev.bind (a := bt (Lib.join (txts (x :: r)) [44])) ?_ ?_
                · simp only [strings_Join.f]
                  refine Ev.no (by rw [List.length_map, hpl]; simp) ?_
                  rw [map_bt]
                  refine Ev.yes (by show (Lib.join (txts (x :: r)) [44]).length ≤ _; omega) ((Ev.ret _).of_eq ?_)
                  unfold joinb
                  rw [map_bt]
                · rw [show (⟨#[40]⟩ : ByteArray) = bt [40] from rfl, show (⟨#[41]⟩ : ByteArray) = bt [41] from rfl, bt_append, bt_append]
                  refine Ev.yes (by rw [bt_size, bt_size]; simp; omega) (Ev.yes (by rw [bt_size, bt_size]; simp; omega) (Ev.ret _))
  | x :: s, pre, hB, hb, hx => by
    have ih := text1_loop a b hb0 s (pre ++ [x]) (by simpa using hB) (by simpa using hb) (fun y hy => hx y (by simp [hy]))
    rw [← app1] at ih
    have hle := len_sizs (pre ++ x :: s)
    refine Ev.succ ?_
    simp only [types_Text.l0]
    refine Ev.yes (ix_lt _ _ _) (Ev.yes (ix_in _ _ _) (Ev.bind (a := bt (txt x)) (by rw [rd_mid]; exact hx x (by simp)) (Ev.yes ?_ (Ev.let_ ?_))))
    · rw [List.length_map, txts_map, List.length_map]
      simp at hle
      omega
    · rw [ix_next pre x s (by omega)]
      rw [txts_map] at ih ⊢
      simp only [List.map_append, List.map_cons, List.map_nil] at ih
      exact ih
theorem text1 : ∀ (n : Nat) (t : GType), siz t ≤ n → n ≤ 40000 → Wf_Type t → Ev (fun k => types_Text.f k t) (bt (txt t))
  | 0, t, h, _, _ => by have := siz_pos t; omega
  | n + 1, t, h, hn, hw => by
    cases hw with
    | mk _ w0 w1 w2 =>
    obtain ⟨a, b, l⟩ := t
    rw [siz_eq] at h
    simp only at h w1 w2
    refine Ev.succ ?_
    simp only [types_Text.f]
    exact text1_loop a b w1 l [] (fun x hx => txt_len (siz x) x (Nat.le_refl _) (w2 x (by simpa using hx))) (by simp; omega) (fun x hx => text1 n x (by have := siz_mem hx; omega) (by omega) (w2 x hx))
end Go.Proofs.YtoafojcfledkcaaDoor
