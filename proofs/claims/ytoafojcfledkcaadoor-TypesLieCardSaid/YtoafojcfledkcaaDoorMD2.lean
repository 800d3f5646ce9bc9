/- Models and walks. -/
import Derived.Test.YtoafojcfledkcaaDoorMD1
import Derived.Test.YtoafojcfledkcaaDoorExt
namespace Go.Proofs.YtoafojcfledkcaaDoor
open Go.RowKit
set_option linter.all false
mutual
def types_Text.j1 : Nat → Bool → (List ByteArray) → GType → Option ByteArray
  | 0, _, _, _ => none
  | k + 1, x36, x37, a0 => (if x36 = true then (some (⟨#[63]⟩ : ByteArray)) else (if a0.Kind = 2 then (if 0 < (x37.length : Int) then (if (⟨#[42]⟩ : ByteArray).size + (rd x37 0).size ≤ 9223372036854775807 then (some ((⟨#[42]⟩ : ByteArray) ++ (rd x37 0))) else none) else none) else (if a0.Kind = 3 then (if 0 < (x37.length : Int) then ((strconv_Itoa.f k a0.Count).bind fun r63 => (if (⟨#[91]⟩ : ByteArray).size + r63.size ≤ 9223372036854775807 then (if ((⟨#[91]⟩ : ByteArray) ++ r63).size + (⟨#[93]⟩ : ByteArray).size ≤ 9223372036854775807 then (if (((⟨#[91]⟩ : ByteArray) ++ r63) ++ (⟨#[93]⟩ : ByteArray)).size + (rd x37 0).size ≤ 9223372036854775807 then (some ((((⟨#[91]⟩ : ByteArray) ++ r63) ++ (⟨#[93]⟩ : ByteArray)) ++ (rd x37 0))) else none) else none) else none)) else none) else ((strings_Join.f k x37 (⟨#[44]⟩ : ByteArray)).bind fun r68 => (if (⟨#[40]⟩ : ByteArray).size + r68.size ≤ 9223372036854775807 then (if ((⟨#[40]⟩ : ByteArray) ++ r68).size + (⟨#[41]⟩ : ByteArray).size ≤ 9223372036854775807 then (some (((⟨#[40]⟩ : ByteArray) ++ r68) ++ (⟨#[41]⟩ : ByteArray))) else none) else none)))))
def types_Text.l0 : Nat → Int → (List ByteArray) → GType → Option ByteArray
  | 0, _, _, _ => none
  | k + 1, x6, x7, a0 => (if x6 < (a0.Kids.length : Int) then (if 0 ≤ x6 ∧ x6 < (a0.Kids.length : Int) then ((types_Text.f k (rd a0.Kids x6)).bind fun r25 => (if (x7.length + 1) * 16 ≤ 140737488351232 then ((some (x7 ++ [r25] : List ByteArray)).bind fun l29 => (types_Text.l0 k (IntKind.i64.wrap (x6 + 1)) l29 a0)) else none)) else none) else (if a0.Kind = 1 then (some (⟨#[105, 110, 116]⟩ : ByteArray)) else (if a0.Kind < 1 then (types_Text.j1 k true x7 a0) else (if 4 < a0.Kind then (types_Text.j1 k true x7 a0) else (types_Text.j1 k (decide ((x7.length : Int) = 0)) x7 a0)))))
def types_Text.f : Nat → GType → Option ByteArray
  | 0, _ => none
  | k + 1, a0 => (types_Text.l0 k 0 [] a0)
end
def types_Text.Post (I : Imm) (O : List Ent) (w : World) (r : ByteArray) (e : Ending) (w' : World) : Prop := e = .returned (.string r) ∧ Ext I O w I O w'
set_option maxRecDepth 100000 in
set_option maxHeartbeats 1000000 in
theorem types_Text.calls (k : Nat) : ∀ (a0 : GType) (A1 : Option Addr) (c2 : Nat) (I : Imm) (w : World) (r : ByteArray) (hr3 : RowsG R_Type 3 40 I A1 a0.Kids) (hc4 : a0.Kids.length ≤ c2), St I [] w → Tabs I → types_Text.f k a0 = some r →
  Calls Tryd.prog 26 #[.agg #[.int .i64 a0.Kind, .int .i64 a0.Count, .slice A1 a0.Kids.length c2]] w (types_Text.Post I [] w r) := by
  induction k using Nat.strongRecOn with
  | _ k ih =>
  intro a0 A1 c2 I w r hr3 hc4 hS hT H
  have nhr3 := hr3.len
  cases k with
  | zero => exact absurd H (by simp [types_Text.f])
  | succ k =>
    simp only [types_Text.f] at H
    refine enter Tryd.func26 rfl Tryd.ntmps26 (Nat.le_of_ble_eq_true rfl) hS ?_
    refine c_seq ?_
    refine g_plain ?_
    refine l_w rfl ?_
    refine w_box (cs := [.int .i64 a0.Kind, .int .i64 a0.Count, .slice A1 a0.Kids.length c2]) (m := 3) rfl rfl rfl rfl rfl (by decide) (fun β5 => ?_)
    refine l_y (y_assign rfl rfl) rfl rfl (by decide) ?_
    refine l_nil ?_
    refine x_next ?_
    refine c_seq ?_
    refine g_plain ?_
    refine l_y (y_assign rfl rfl) rfl rfl (by decide) ?_
    refine l_nil ?_
    refine x_next ?_
    refine c_seq ?_
    refine c_seq ?_
    refine g_plain ?_
    refine l_y (y_field (j' := 2) fa24_2 rfl rfl rfl) rfl rfl (by decide) ?_
    refine l_y (y_load is22 rfl rfl (cl_own (i := 0) (j := 2) rfl rfl)) rfl rfl (by decide) ?_
    refine l_y (y_len Tryd.underlying22 rfl rfl) rfl rfl (by decide) ?_
    refine l_y (y_move rfl rfl) rfl rfl (by decide) ?_
    refine l_nil ?_
    refine x_next ?_
    refine c_block ?_
    refine s_nil (e := 9) (sz := 1) ?_
    refine s_perm pf1 ?_
    refine s_perm pf1 ?_
    refine c_loop (fun kq a W => ∃ (x6 : Int) (x7 : List ByteArray) (A8 : Option Addr) (cp9 : Nat) (css10 : List (List Value)), types_Text.l0 kq x6 x7 a0 = some r ∧ kq ≤ k ∧ OwnR R_string 1 I x7 css10 ∧ OV 16 A8 x7.length cp9 ∧ At 62 [] [(1, .pointer (some ⟨β5, 0, none⟩)), (3, .slice A8 x7.length cp9), (7, .slice A1 a0.Kids.length c2), (8, .int .i64 (a0.Kids.length : Int)), (9, .int .i64 x6)] I [] w I [.row A8 9 (List.flatten css10) (cp9 * 1), .cells β5 24 [.int .i64 a0.Kind, .int .i64 a0.Count, .slice A1 a0.Kids.length c2] 3] a W) k (fun a W hA => ⟨0, [], none, 0, [], H, (Nat.le_refl _), (OwnR.nil R_string _ _), (OV.none 16), ⟨hA.fits.only ⟨rfl, rfl, rfl, rfl, rfl, trivial⟩, hA.ext⟩⟩) ?_
    clear H
    rintro kq a W ⟨x6, x7, A8, cp9, css10, H, hk, hO12, hV11, hA⟩
    refine here hA ?_
    clear hA a W
    cases kq with
    | zero => exact absurd H (by simp [types_Text.l0])
    | succ k0 =>
      simp only [types_Text.l0] at H
      refine c_seq ?_
      refine g_plain ?_
      refine l_y (y_bin rfl rfl rfl bi_lt) rfl rfl (by decide) ?_
      refine l_nil ?_
      refine x_next ?_
      refine c_seq ?_
      by_cases c13 : x6 < (a0.Kids.length : Int)
      · rw [if_pos c13] at H
        refine s_lit (t := 10) rfl (decide_eq_true c13) ?_
        refine c_true rfl ?_
        refine c_skip ?_
        refine x_next ?_
        refine c_seq ?_
        refine c_block ?_
        refine c_seq ?_
        refine g_plain ?_
        by_cases c14 : 0 ≤ x6 ∧ x6 < (a0.Kids.length : Int)
        rotate_left
        · rw [if_neg c14] at H; exact absurd H (by simp)
        rw [if_pos c14] at H
        obtain ⟨b15, o16, hA_, hE17⟩ := hr3.elem (by omega)
        obtain rfl := hA_
        obtain ⟨cs20, hR21, hC22⟩ := hE17 x6 c14.1 c14.2
        obtain ⟨A18, c19, rfl, hr23, chr23⟩ := hR21.open
        refine l_y (y_index sl22 rfl rfl rfl c14.1 c14.2) rfl rfl (by decide) ?_
        refine l_y (y_loadA (cs := [.int .i64 ((rd a0.Kids x6).Kind), .int .i64 ((rd a0.Kids x6).Count), .slice A18 (((rd a0.Kids x6).Kids).length) c19]) ia24 rfl rfl rfl hC22.cls) rfl rfl (by decide) ?_
        refine l_w rfl ?_
        refine w_alloc (cs := [.int .i64 0, .int .i64 0, .slice none 0 0]) (m := 3) zz24 rfl rfl rfl rfl (by decide) (fun β24 => ?_)
        refine l_w rfl ?_
        refine w_store0 (cs' := [.int .i64 ((rd a0.Kids x6).Kind), .int .i64 ((rd a0.Kids x6).Count), .slice A18 (((rd a0.Kids x6).Kids).length) c19]) sz24 rfl rfl rfl rfl rfl (Nat.le_of_ble_eq_true rfl) rfl rfl ?_
        refine l_nil ?_
        refine x_next ?_
        refine g_plain ?_
        refine l_y (y_move rfl rfl) rfl rfl (by decide) ?_
        refine l_y (y_loadA (cs := [.int .i64 ((rd a0.Kids x6).Kind), .int .i64 ((rd a0.Kids x6).Count), .slice A18 (((rd a0.Kids x6).Kids).length) c19]) ia24 rfl rfl rfl (cls_own (i := 0) rfl rfl)) rfl rfl (by decide) ?_
        refine l_w rfl ?_
        obtain ⟨r25, hr25, H⟩ := Option.bind_eq_some_iff.1 H
        refine w_call (args := [.agg #[.int .i64 ((rd a0.Kids x6).Kind), .int .i64 ((rd a0.Kids x6).Count), .slice A18 (((rd a0.Kids x6).Kids).length) c19]]) (caps := []) has26 rfl rfl rfl rfl (by decide) (fun a W F E => ?_)
        refine ((ih k0 (by omega)) (rd a0.Kids x6) A18 c19 I W r25 hr23 (by first | assumption | simp | omega) (E.st.sub (List.nil_sublist _)) (hT.mono (Imm.rfl' _)) hr25).mono ?_
        rintro e W' ⟨rfl, X⟩
        refine ⟨_, rfl, here (At.mk (F.put (by decide) _) (E.call0 X)) ?_⟩
        clear X E F W W' a
        refine l_w rfl ?_
        refine w_buildS (m := 1) [.string r25] Tryd.underlying78 ez9 rfl rfl (by kernel_rfl) (by kernel_rfl) rfl rfl (by decide) (fun β27 => ?_)
        by_cases c28 : (x7.length + 1) * 16 ≤ 140737488351232
        rotate_left
        · rw [if_neg c28] at H; exact absurd H (by simp)
        rw [if_pos c28] at H
        refine l_w rfl ?_
        obtain ⟨l29, hl29, H⟩ := Option.bind_eq_some_iff.1 H
        have hl29 := Option.some.inj hl29
        refine w_append2 (by_ := 16) (css := css10) (cys := [[.string r25]]) (ys := [r25]) Tryd.underlying78 el9 rfl (by decide) (by decide) rfl rfl hO12 hV11 rfl (cls_own (i := 0) rfl rfl) (OwnR.cons (R_string.of r25) rfl (OwnR.nil _ _ _)) rfl (by decide) (by simp [Value.oneCell']) (by first | assumption | (simp; omega) | omega) l29 hl29 rfl (by decide) (fun g30 cp31 css32 hV33 hO34 => ?_)
        refine s_drop ((.cons _ (.refl _))) ?_
        refine l_y (y_assign rfl rfl) rfl rfl (by decide) ?_
        refine l_nil ?_
        refine x_norm ?_
        refine x_next ?_
        refine g_plain ?_
        refine l_y (y_bin rfl rfl rfl bi_add) rfl rfl (by decide) ?_
        refine l_y (y_move rfl rfl) rfl rfl (by decide) ?_
        refine l_nil ?_
        refine s_perm pf2 ?_
        refine s_perm pf2 ?_
        refine s_drop ((.cons_cons _ (.cons_cons _ (List.nil_sublist _)))) ?_
        exact fun a W hA => ⟨k0, by omega, (IntKind.i64.wrap (x6 + 1)), l29, (some ⟨g30, 0, none⟩), cp31, css32, H, (by omega), hO34, hV33, ⟨hA.fits.only ⟨rfl, rfl, rfl, rfl, rfl, trivial⟩, hA.ext⟩⟩
      · rw [if_neg c13] at H
        refine s_lit (t := 10) rfl (decide_eq_false c13) ?_
        refine c_false rfl ?_
        refine c_exit ?_
        refine x_then rfl ?_
        refine x_then rfl ?_
        refine x_in ?_
        refine x_next ?_
        refine c_seq ?_
        refine c_block ?_
        refine c_seq ?_
        refine g_plain ?_
        refine l_y (y_field (j' := 0) fa24_0 rfl rfl rfl) rfl rfl (by decide) ?_
        refine l_y (y_load is3 rfl rfl (cl_own (i := 1) (j := 0) rfl rfl)) rfl rfl (by decide) ?_
        refine l_y (y_bin rfl rfl rfl bi_eq) rfl rfl (by decide) ?_
        refine l_y (y_assign rfl rfl) rfl rfl (by decide) ?_
        refine l_nil ?_
        refine x_next ?_
        by_cases c35 : a0.Kind = 1
        · rw [if_pos c35] at H
          refine s_lit (t := 19) rfl (decide_eq_true c35) ?_
          refine c_true rfl ?_
          refine c_seq ?_
          refine g_plain ?_
          refine l_y (y_assign rfl rfl) rfl rfl (by decide) ?_
          refine l_nil ?_
          refine x_next ?_
          refine c_ret ?_
          refine x_ret ?_
          refine x_then rfl ?_
          obtain rfl := Option.some.inj H
          exact g_ret [.string (⟨#[105, 110, 116]⟩ : ByteArray)] (congrArg Array.toList Tryd.results26) (.cons (.t rfl) .nil) (fun W E => ⟨rfl, E.drop (List.nil_sublist _)⟩)
        · rw [if_neg c35] at H
          refine s_lit (t := 19) rfl (decide_eq_false c35) ?_
          refine c_false rfl ?_
          refine c_join (fun a W => ∃ (kq : Nat) (x36 : Bool) (x37 : List ByteArray) (A38 : Option Addr) (cp39 : Nat) (css40 : List (List Value)), types_Text.j1 kq x36 x37 a0 = some r ∧ kq ≤ k0 ∧ OwnR R_string 1 I x37 css40 ∧ OV 16 A38 x37.length cp39 ∧ At 62 [] [(1, .pointer (some ⟨β5, 0, none⟩)), (3, .slice A38 x37.length cp39), (23, .bool x36)] I [] w I [.row A38 9 (List.flatten css40) (cp39 * 1), .cells β5 24 [.int .i64 a0.Kind, .int .i64 a0.Count, .slice A1 a0.Kids.length c2] 3] a W) ?_ ?_
          · skip
            refine g_plain ?_
            refine l_y (y_field (j' := 0) fa24_0 rfl rfl rfl) rfl rfl (by decide) ?_
            refine l_y (y_load is3 rfl rfl (cl_own (i := 1) (j := 0) rfl rfl)) rfl rfl (by decide) ?_
            refine l_y (y_bin rfl rfl rfl bi_lt) rfl rfl (by decide) ?_
            refine l_y (y_move rfl rfl) rfl rfl (by decide) ?_
            by_cases c43 : a0.Kind < 1
            · rw [if_pos c43] at H
              refine s_lit (t := 27) rfl (decide_eq_true c43) ?_
              refine l_off rfl rfl rfl rfl rfl rfl (by decide) ?_
              refine l_off rfl rfl rfl rfl rfl rfl (by decide) ?_
              refine l_off rfl rfl rfl rfl rfl rfl (by decide) ?_
              refine l_y (y_pickt rfl rfl rfl) rfl rfl (by decide) ?_
              refine l_y (y_move rfl rfl) rfl rfl (by decide) ?_
              refine l_off rfl rfl rfl rfl rfl rfl (by decide) ?_
              refine l_off rfl rfl rfl rfl rfl rfl (by decide) ?_
              refine l_off rfl rfl rfl rfl rfl rfl (by decide) ?_
              refine l_y (y_pickt rfl rfl rfl) rfl rfl (by decide) ?_
              refine l_y (y_assign rfl rfl) rfl rfl (by decide) ?_
              refine l_nil ?_
              refine s_perm pf1 ?_
              refine s_perm pf1 ?_
              exact fun a W hA => ⟨k0, true, x7, A8, cp9, css10, H, (by omega), hO12, hV11, ⟨hA.fits.only ⟨rfl, rfl, rfl, trivial⟩, hA.ext⟩⟩
            · rw [if_neg c43] at H
              refine s_lit (t := 27) rfl (decide_eq_false c43) ?_
              refine l_yg (y_field (j' := 0) fa24_0 rfl rfl rfl) rfl rfl rfl rfl rfl (by decide) ?_
              refine l_yg (y_load is3 rfl rfl (cl_own (i := 1) (j := 0) rfl rfl)) rfl rfl rfl rfl rfl (by decide) ?_
              refine l_yg (y_bin rfl rfl rfl bi_gt) rfl rfl rfl rfl rfl (by decide) ?_
              refine l_y (y_pickf rfl rfl rfl) rfl rfl (by decide) ?_
              refine l_y (y_move rfl rfl) rfl rfl (by decide) ?_
              by_cases c44 : 4 < a0.Kind
              · rw [if_pos c44] at H
                refine s_lit (t := 32) rfl (decide_eq_true c44) ?_
                refine l_off rfl rfl rfl rfl rfl rfl (by decide) ?_
                refine l_off rfl rfl rfl rfl rfl rfl (by decide) ?_
                refine l_off rfl rfl rfl rfl rfl rfl (by decide) ?_
                refine l_y (y_pickt rfl rfl rfl) rfl rfl (by decide) ?_
                refine l_y (y_assign rfl rfl) rfl rfl (by decide) ?_
                refine l_nil ?_
                refine s_perm pf1 ?_
                refine s_perm pf1 ?_
                exact fun a W hA => ⟨k0, true, x7, A8, cp9, css10, H, (by omega), hO12, hV11, ⟨hA.fits.only ⟨rfl, rfl, rfl, trivial⟩, hA.ext⟩⟩
              · rw [if_neg c44] at H
                refine s_lit (t := 32) rfl (decide_eq_false c44) ?_
                refine l_yg (y_move rfl rfl) rfl rfl rfl rfl rfl (by decide) ?_
                refine l_yg (y_len Tryd.underlying78 rfl rfl) rfl rfl rfl rfl rfl (by decide) ?_
                refine l_yg (y_bin rfl rfl rfl bi_eq) rfl rfl rfl rfl rfl (by decide) ?_
                refine l_y (y_pickf rfl rfl rfl) rfl rfl (by decide) ?_
                refine l_y (y_assign rfl rfl) rfl rfl (by decide) ?_
                refine l_nil ?_
                refine s_perm pf1 ?_
                refine s_perm pf1 ?_
                exact fun a W hA => ⟨k0, (decide ((x7.length : Int) = 0)), x7, A8, cp9, css10, H, (by omega), hO12, hV11, ⟨hA.fits.only ⟨rfl, rfl, rfl, trivial⟩, hA.ext⟩⟩
          clear H
          rintro a W ⟨kq, x36, x37, A38, cp39, css40, H, hk, hO42, hV41, hA⟩
          refine here hA ?_
          clear hA a W
          cases kq with
          | zero => exact absurd H (by simp [types_Text.j1])
          | succ k_j1 =>
            simp only [types_Text.j1] at H
            by_cases c45 : x36 = true
            · rw [if_pos c45] at H
              refine s_lit (t := 23) rfl c45 ?_
              refine c_true rfl ?_
              refine c_seq ?_
              refine g_plain ?_
              refine l_y (y_assign rfl rfl) rfl rfl (by decide) ?_
              refine l_nil ?_
              refine x_next ?_
              refine c_ret ?_
              refine x_ret ?_
              refine x_then rfl ?_
              obtain rfl := Option.some.inj H
              exact g_ret [.string (⟨#[63]⟩ : ByteArray)] (congrArg Array.toList Tryd.results26) (.cons (.t rfl) .nil) (fun W E => ⟨rfl, E.drop (List.nil_sublist _)⟩)
            · rw [if_neg c45] at H
              refine s_lit (t := 23) rfl (Bool.eq_false_iff.2 c45) ?_
              refine c_false rfl ?_
              refine c_seq ?_
              refine g_plain ?_
              refine l_y (y_field (j' := 0) fa24_0 rfl rfl rfl) rfl rfl (by decide) ?_
              refine l_y (y_load is3 rfl rfl (cl_own (i := 1) (j := 0) rfl rfl)) rfl rfl (by decide) ?_
              refine l_y (y_bin rfl rfl rfl bi_eq) rfl rfl (by decide) ?_
              refine l_y (y_assign rfl rfl) rfl rfl (by decide) ?_
              refine l_nil ?_
              refine x_next ?_
              by_cases c46 : a0.Kind = 2
              · rw [if_pos c46] at H
                refine s_lit (t := 37) rfl (decide_eq_true c46) ?_
                refine c_true rfl ?_
                refine c_seq ?_
                refine g_plain ?_
                refine l_y (y_move rfl rfl) rfl rfl (by decide) ?_
                by_cases c47 : 0 < (x37.length : Int)
                rotate_left
                · rw [if_neg c47] at H; exact absurd H (by simp)
                rw [if_pos c47] at H
                refine s_rowat (i := 0) rfl hV41 (by omega) (fun b48 hA_ => ?_)
                obtain rfl := hA_
                obtain ⟨cs49, hR50, hl51, hi52, hf53⟩ := OwnR.elem (j := 0) hO42 (by decide) c47
                obtain rfl := hR50.open
                refine l_y (y_index sl78 rfl rfl rfl (by decide) c47) rfl rfl (by decide) ?_
                refine l_y (y_load is9 rfl rfl (Cls.cl0 (cls_row (i := 0) rfl hf53) rfl)) rfl rfl (by decide) ?_
                by_cases c54 : (⟨#[42]⟩ : ByteArray).size + (rd x37 0).size ≤ 9223372036854775807
                rotate_left
                · rw [if_neg c54] at H; exact absurd H (by simp)
                rw [if_pos c54] at H
                refine l_y (y_bin rfl rfl rfl (bi_sadd c54)) rfl rfl (by decide) ?_
                refine l_y (y_assign rfl rfl) rfl rfl (by decide) ?_
                refine l_nil ?_
                refine x_next ?_
                refine c_ret ?_
                refine x_ret ?_
                refine x_then rfl ?_
                obtain rfl := Option.some.inj H
                exact g_ret [.string ((⟨#[42]⟩ : ByteArray) ++ (rd x37 0))] (congrArg Array.toList Tryd.results26) (.cons (.t rfl) .nil) (fun W E => ⟨rfl, E.drop (List.nil_sublist _)⟩)
              · rw [if_neg c46] at H
                refine s_lit (t := 37) rfl (decide_eq_false c46) ?_
                refine c_false rfl ?_
                refine c_seq ?_
                refine g_plain ?_
                refine l_y (y_field (j' := 0) fa24_0 rfl rfl rfl) rfl rfl (by decide) ?_
                refine l_y (y_load is3 rfl rfl (cl_own (i := 1) (j := 0) rfl rfl)) rfl rfl (by decide) ?_
                refine l_y (y_bin rfl rfl rfl bi_eq) rfl rfl (by decide) ?_
                refine l_y (y_assign rfl rfl) rfl rfl (by decide) ?_
                refine l_nil ?_
                refine x_next ?_
                by_cases c55 : a0.Kind = 3
                · rw [if_pos c55] at H
                  refine s_lit (t := 45) rfl (decide_eq_true c55) ?_
                  refine c_true rfl ?_
                  refine c_seq ?_
                  refine d_start [.row A38 9 (List.flatten css40) (cp39 * 1), .cells β5 24 [.int .i64 a0.Kind, .int .i64 a0.Count, .slice A1 a0.Kids.length c2] 3] [] (bits 10 0) mixed_ rfl (by kernel_rfl) (pick_mem (is := [0, 1]) ⟨rfl, rfl, trivial⟩) ?_
                  refine d_pure 0 (bits 10 1) (y_field (j' := 1) fa24_1 rfl rfl rfl) rfl rfl (by decide) (by kernel_rfl) (fun _ _ _ h => h) (.none rfl) ?_
                  refine d_take 1 (bits 10 3) (y_load is3 rfl rfl (cl_own (i := 1) (j := 1) rfl rfl)) rfl rfl (by decide) (by kernel_rfl) (fun _ _ _ h => h) (.none rfl) (Imm.rfl' _) (pick_mem (is := [0, 1]) ⟨rfl, rfl, trivial⟩) ?_
                  refine d_pure 5 (bits 10 35) (y_move rfl rfl) rfl rfl (by decide) (by kernel_rfl) (fun _ _ _ h => h) (.none rfl) ?_
                  by_cases c56 : 0 < (x37.length : Int)
                  rotate_left
                  · rw [if_neg c56] at H; exact absurd H (by simp)
                  rw [if_pos c56] at H
                  refine s_rowat (i := 0) rfl hV41 (by omega) (fun b57 hA_ => ?_)
                  obtain rfl := hA_
                  obtain ⟨cs58, hR59, hl60, hi61, hf62⟩ := OwnR.elem (j := 0) hO42 (by decide) c56
                  obtain rfl := hR59.open
                  refine d_pure 6 (bits 10 99) (y_index sl78 rfl rfl rfl (by decide) c56) rfl rfl (by decide) (by kernel_rfl) (fun _ _ _ h => h) (.none rfl) ?_
                  refine d_take 7 (bits 10 227) (y_load is9 rfl rfl (Cls.cl0 (cls_row (i := 0) rfl hf62) rfl)) rfl rfl (by decide) (by kernel_rfl) (fun _ _ _ h => h) (.none rfl) (Imm.rfl' _) (pick_mem (is := [0, 1]) ⟨rfl, rfl, trivial⟩) ?_
                  refine d_one 2 (bits 10 231) rfl (by kernel_rfl) (by decide) (.none rfl) (fun K hK => ?_)
                  obtain ⟨r63, hr63, H⟩ := Option.bind_eq_some_iff.1 H
                  refine w_call (args := [.int .i64 a0.Count]) (caps := []) has69 rfl rfl rfl rfl (by decide) (fun a W F E => ?_)
                  refine (strconv_Itoa.calls k_j1 a0.Count I W r63 (E.st.sub (List.nil_sublist _)) (hT.mono (Imm.rfl' _)) hr63).mono ?_
                  rintro e W' ⟨rfl, X⟩
                  refine ⟨_, rfl, here (At.mk (F.put (by decide) _) (E.call0 X)) ?_⟩
                  clear X E F W W' a
                  refine d_k hK (Imm.rfl' _) (pick_mem (is := [0, 1]) ⟨rfl, rfl, trivial⟩) ?_
                  clear hK K
                  by_cases c65 : (⟨#[91]⟩ : ByteArray).size + r63.size ≤ 9223372036854775807
                  rotate_left
                  · rw [if_neg c65] at H; exact absurd H (by simp)
                  rw [if_pos c65] at H
                  refine d_pure 3 (bits 10 239) (y_bin rfl rfl rfl (bi_sadd c65)) rfl rfl (by decide) (by kernel_rfl) (fun _ _ _ h => h) (.none rfl) ?_
                  by_cases c66 : ((⟨#[91]⟩ : ByteArray) ++ r63).size + (⟨#[93]⟩ : ByteArray).size ≤ 9223372036854775807
                  rotate_left
                  · rw [if_neg c66] at H; exact absurd H (by simp)
                  rw [if_pos c66] at H
                  refine d_pure 4 (bits 10 255) (y_bin rfl rfl rfl (bi_sadd c66)) rfl rfl (by decide) (by kernel_rfl) (fun _ _ _ h => h) (.none rfl) ?_
                  by_cases c67 : (((⟨#[91]⟩ : ByteArray) ++ r63) ++ (⟨#[93]⟩ : ByteArray)).size + (rd x37 0).size ≤ 9223372036854775807
                  rotate_left
                  · rw [if_neg c67] at H; exact absurd H (by simp)
                  rw [if_pos c67] at H
                  refine d_pure 8 (bits 10 511) (y_bin rfl rfl rfl (bi_sadd c67)) rfl rfl (by decide) (by kernel_rfl) (fun _ _ _ h => h) (.none rfl) ?_
                  refine d_pure 9 (bits 10 1023) (y_assign rfl rfl) rfl rfl (by decide) (by kernel_rfl) (fun _ _ _ h => h) (.none rfl) ?_
                  refine d_done (by kernel_rfl) ?_
                  refine x_next ?_
                  refine c_ret ?_
                  refine x_ret ?_
                  refine x_then rfl ?_
                  obtain rfl := Option.some.inj H
                  exact g_ret [.string ((((⟨#[91]⟩ : ByteArray) ++ r63) ++ (⟨#[93]⟩ : ByteArray)) ++ (rd x37 0))] (congrArg Array.toList Tryd.results26) (.cons (.t rfl) .nil) (fun W E => ⟨rfl, E.drop (List.nil_sublist _)⟩)
                · rw [if_neg c55] at H
                  refine s_lit (t := 45) rfl (decide_eq_false c55) ?_
                  refine c_false rfl ?_
                  refine c_skip ?_
                  refine x_norm ?_
                  refine x_next ?_
                  refine c_seq ?_
                  refine g_plain ?_
                  refine l_y (y_move rfl rfl) rfl rfl (by decide) ?_
                  refine l_w rfl ?_
                  obtain ⟨r68, hr68, H⟩ := Option.bind_eq_some_iff.1 H
                  refine w_call (args := [.slice A38 x37.length cp39, .string (⟨#[44]⟩ : ByteArray)]) (caps := []) has70 rfl rfl rfl rfl (by decide) (fun a W F E => ?_)
                  obtain ⟨K0_, hk0_, S0_, hq0_⟩ := St.lend (i := 0) (by_ := 16) rfl R_string.mono hO42 hV41 E.st
                  have hk_1 := hk0_
                  have hk_ := hk_1
                  refine (strings_Join.calls k_j1 x37 (⟨#[44]⟩ : ByteArray) A38 cp39 K0_ W r68 hq0_ hV41.le (S0_.sub (List.nil_sublist _)) hr68).mono ?_
                  rintro e W' ⟨rfl, X⟩
                  replace X := X.less hk_
                  refine ⟨_, rfl, here (At.mk (F.put (by decide) _) (E.call0 X)) ?_⟩
                  clear X S0_ hq0_ E F W W' a
                  by_cases c70 : (⟨#[40]⟩ : ByteArray).size + r68.size ≤ 9223372036854775807
                  rotate_left
                  · rw [if_neg c70] at H; exact absurd H (by simp)
                  rw [if_pos c70] at H
                  refine l_y (y_bin rfl rfl rfl (bi_sadd c70)) rfl rfl (by decide) ?_
                  by_cases c71 : ((⟨#[40]⟩ : ByteArray) ++ r68).size + (⟨#[41]⟩ : ByteArray).size ≤ 9223372036854775807
                  rotate_left
                  · rw [if_neg c71] at H; exact absurd H (by simp)
                  rw [if_pos c71] at H
                  refine l_y (y_bin rfl rfl rfl (bi_sadd c71)) rfl rfl (by decide) ?_
                  refine l_y (y_assign rfl rfl) rfl rfl (by decide) ?_
                  refine l_nil ?_
                  refine x_next ?_
                  refine c_ret ?_
                  obtain rfl := Option.some.inj H
                  exact g_ret [.string (((⟨#[40]⟩ : ByteArray) ++ r68) ++ (⟨#[41]⟩ : ByteArray))] (congrArg Array.toList Tryd.results26) (.cons (.t rfl) .nil) (fun W E => ⟨rfl, E.drop (List.nil_sublist _)⟩)
mutual
def swageref11_Text.j3 : Nat → ByteArray → GType → Int → Option ByteArray
  | 0, _, _, _ => none
  | k + 1, x46, a0, x44 => (if 0 ≤ x44 ∧ x44 < (a0.Kids.length : Int) then ((swageref11_Text.f k (rd a0.Kids x44)).bind fun r59 => (if x46.size + r59.size ≤ 9223372036854775807 then (swageref11_Text.l0 k (x46 ++ r59) (IntKind.i64.wrap (x44 + 1)) a0) else none)) else none)
def swageref11_Text.l0 : Nat → ByteArray → Int → GType → Option ByteArray
  | 0, _, _, _ => none
  | k + 1, x43, x44, a0 => (if x44 < (a0.Kids.length : Int) then (if 0 < x44 then (if x43.size + (⟨#[44]⟩ : ByteArray).size ≤ 9223372036854775807 then (swageref11_Text.j3 k (x43 ++ (⟨#[44]⟩ : ByteArray)) a0 x44) else none) else (swageref11_Text.j3 k x43 a0 x44)) else (if x43.size + (⟨#[41]⟩ : ByteArray).size ≤ 9223372036854775807 then (some (x43 ++ (⟨#[41]⟩ : ByteArray))) else none))
def swageref11_Text.j1 : Nat → Bool → GType → Option ByteArray
  | 0, _, _ => none
  | k + 1, x7, a0 => (if x7 = true then (some (⟨#[63]⟩ : ByteArray)) else (if a0.Kind = 2 then (if 0 < (a0.Kids.length : Int) then ((swageref11_Text.f k (rd a0.Kids 0)).bind fun r22 => (if (⟨#[42]⟩ : ByteArray).size + r22.size ≤ 9223372036854775807 then (some ((⟨#[42]⟩ : ByteArray) ++ r22)) else none)) else none) else (if a0.Kind = 3 then (if 0 < (a0.Kids.length : Int) then ((swageref05_Number.f k a0.Count).bind fun r36 => (if (⟨#[91]⟩ : ByteArray).size + r36.size ≤ 9223372036854775807 then (if ((⟨#[91]⟩ : ByteArray) ++ r36).size + (⟨#[93]⟩ : ByteArray).size ≤ 9223372036854775807 then ((swageref11_Text.f k (rd a0.Kids 0)).bind fun r40 => (if (((⟨#[91]⟩ : ByteArray) ++ r36) ++ (⟨#[93]⟩ : ByteArray)).size + r40.size ≤ 9223372036854775807 then (some ((((⟨#[91]⟩ : ByteArray) ++ r36) ++ (⟨#[93]⟩ : ByteArray)) ++ r40)) else none)) else none) else none)) else none) else (swageref11_Text.l0 k (⟨#[40]⟩ : ByteArray) 0 a0))))
def swageref11_Text.f : Nat → GType → Option ByteArray
  | 0, _ => none
  | k + 1, a0 => (if a0.Kind = 1 then (some (⟨#[105, 110, 116]⟩ : ByteArray)) else (if a0.Kind < 1 then (swageref11_Text.j1 k true a0) else (if 4 < a0.Kind then (swageref11_Text.j1 k true a0) else (swageref11_Text.j1 k (decide ((a0.Kids.length : Int) < 1)) a0))))
end
def swageref11_Text.Post (I : Imm) (O : List Ent) (w : World) (r : ByteArray) (e : Ending) (w' : World) : Prop := e = .returned (.string r) ∧ Ext I O w I O w'
set_option maxRecDepth 100000 in
set_option maxHeartbeats 1000000 in
theorem swageref11_Text.calls (k : Nat) : ∀ (a0 : GType) (A1 : Option Addr) (c2 : Nat) (I : Imm) (w : World) (r : ByteArray) (hr3 : RowsG R_Type 3 40 I A1 a0.Kids) (hc4 : a0.Kids.length ≤ c2), St I [] w → swageref11_Text.f k a0 = some r →
  Calls Tryd.prog 27 #[.agg #[.int .i64 a0.Kind, .int .i64 a0.Count, .slice A1 a0.Kids.length c2]] w (swageref11_Text.Post I [] w r) := by
  induction k using Nat.strongRecOn with
  | _ k ih =>
  intro a0 A1 c2 I w r hr3 hc4 hS H
  have nhr3 := hr3.len
  cases k with
  | zero => exact absurd H (by simp [swageref11_Text.f])
  | succ k =>
    simp only [swageref11_Text.f] at H
    refine enter Tryd.func27 rfl Tryd.ntmps27 (Nat.le_of_ble_eq_true rfl) hS ?_
    refine c_seq ?_
    refine g_plain ?_
    refine l_w rfl ?_
    refine w_box (cs := [.int .i64 a0.Kind, .int .i64 a0.Count, .slice A1 a0.Kids.length c2]) (m := 3) rfl rfl rfl rfl rfl (by decide) (fun β5 => ?_)
    refine l_y (y_assign rfl rfl) rfl rfl (by decide) ?_
    refine l_nil ?_
    refine x_next ?_
    refine c_seq ?_
    refine c_seq ?_
    refine g_plain ?_
    refine l_y (y_field (j' := 0) fa24_0 rfl rfl rfl) rfl rfl (by decide) ?_
    refine l_y (y_load is3 rfl rfl (cl_own (i := 0) (j := 0) rfl rfl)) rfl rfl (by decide) ?_
    refine l_y (y_bin rfl rfl rfl bi_eq) rfl rfl (by decide) ?_
    refine l_nil ?_
    refine x_next ?_
    by_cases c6 : a0.Kind = 1
    · rw [if_pos c6] at H
      refine s_lit (t := 7) rfl (decide_eq_true c6) ?_
      refine c_true rfl ?_
      refine c_seq ?_
      refine g_plain ?_
      refine l_y (y_assign rfl rfl) rfl rfl (by decide) ?_
      refine l_nil ?_
      refine x_next ?_
      refine c_ret ?_
      refine x_then rfl ?_
      obtain rfl := Option.some.inj H
      exact g_ret [.string (⟨#[105, 110, 116]⟩ : ByteArray)] (congrArg Array.toList Tryd.results27) (.cons (.t rfl) .nil) (fun W E => ⟨rfl, E.drop (List.nil_sublist _)⟩)
    · rw [if_neg c6] at H
      refine s_lit (t := 7) rfl (decide_eq_false c6) ?_
      refine c_false rfl ?_
      refine c_skip ?_
      refine x_next ?_
      refine c_seq ?_
      refine c_join (fun a W => ∃ (kq : Nat) (x7 : Bool), swageref11_Text.j1 kq x7 a0 = some r ∧ kq ≤ k ∧ At 66 [] [(1, .pointer (some ⟨β5, 0, none⟩)), (21, .bool x7)] I [] w I [.cells β5 24 [.int .i64 a0.Kind, .int .i64 a0.Count, .slice A1 a0.Kids.length c2] 3] a W) ?_ ?_
      · skip
        refine g_plain ?_
        refine l_y (y_field (j' := 0) fa24_0 rfl rfl rfl) rfl rfl (by decide) ?_
        refine l_y (y_load is3 rfl rfl (cl_own (i := 0) (j := 0) rfl rfl)) rfl rfl (by decide) ?_
        refine l_y (y_bin rfl rfl rfl bi_lt) rfl rfl (by decide) ?_
        refine l_y (y_move rfl rfl) rfl rfl (by decide) ?_
        by_cases c8 : a0.Kind < 1
        · rw [if_pos c8] at H
          refine s_lit (t := 11) rfl (decide_eq_true c8) ?_
          refine l_off rfl rfl rfl rfl rfl rfl (by decide) ?_
          refine l_off rfl rfl rfl rfl rfl rfl (by decide) ?_
          refine l_off rfl rfl rfl rfl rfl rfl (by decide) ?_
          refine l_y (y_pickt rfl rfl rfl) rfl rfl (by decide) ?_
          refine l_y (y_move rfl rfl) rfl rfl (by decide) ?_
          refine l_off rfl rfl rfl rfl rfl rfl (by decide) ?_
          refine l_off rfl rfl rfl rfl rfl rfl (by decide) ?_
          refine l_off rfl rfl rfl rfl rfl rfl (by decide) ?_
          refine l_off rfl rfl rfl rfl rfl rfl (by decide) ?_
          refine l_y (y_pickt rfl rfl rfl) rfl rfl (by decide) ?_
          refine l_nil ?_
          exact fun a W hA => ⟨k, true, H, (by omega), ⟨hA.fits.only ⟨rfl, rfl, trivial⟩, hA.ext⟩⟩
        · rw [if_neg c8] at H
          refine s_lit (t := 11) rfl (decide_eq_false c8) ?_
          refine l_yg (y_field (j' := 0) fa24_0 rfl rfl rfl) rfl rfl rfl rfl rfl (by decide) ?_
          refine l_yg (y_load is3 rfl rfl (cl_own (i := 0) (j := 0) rfl rfl)) rfl rfl rfl rfl rfl (by decide) ?_
          refine l_yg (y_bin rfl rfl rfl bi_gt) rfl rfl rfl rfl rfl (by decide) ?_
          refine l_y (y_pickf rfl rfl rfl) rfl rfl (by decide) ?_
          refine l_y (y_move rfl rfl) rfl rfl (by decide) ?_
          by_cases c9 : 4 < a0.Kind
          · rw [if_pos c9] at H
            refine s_lit (t := 16) rfl (decide_eq_true c9) ?_
            refine l_off rfl rfl rfl rfl rfl rfl (by decide) ?_
            refine l_off rfl rfl rfl rfl rfl rfl (by decide) ?_
            refine l_off rfl rfl rfl rfl rfl rfl (by decide) ?_
            refine l_off rfl rfl rfl rfl rfl rfl (by decide) ?_
            refine l_y (y_pickt rfl rfl rfl) rfl rfl (by decide) ?_
            refine l_nil ?_
            exact fun a W hA => ⟨k, true, H, (by omega), ⟨hA.fits.only ⟨rfl, rfl, trivial⟩, hA.ext⟩⟩
          · rw [if_neg c9] at H
            refine s_lit (t := 16) rfl (decide_eq_false c9) ?_
            refine l_yg (y_field (j' := 2) fa24_2 rfl rfl rfl) rfl rfl rfl rfl rfl (by decide) ?_
            refine l_yg (y_load is22 rfl rfl (cl_own (i := 0) (j := 2) rfl rfl)) rfl rfl rfl rfl rfl (by decide) ?_
            refine l_yg (y_len Tryd.underlying22 rfl rfl) rfl rfl rfl rfl rfl (by decide) ?_
            refine l_yg (y_bin rfl rfl rfl bi_lt) rfl rfl rfl rfl rfl (by decide) ?_
            refine l_y (y_pickf rfl rfl rfl) rfl rfl (by decide) ?_
            refine l_nil ?_
            exact fun a W hA => ⟨k, (decide ((a0.Kids.length : Int) < 1)), H, (by omega), ⟨hA.fits.only ⟨rfl, rfl, trivial⟩, hA.ext⟩⟩
      clear H
      rintro a W ⟨kq, x7, H, hk, hA⟩
      refine here hA ?_
      clear hA a W
      cases kq with
      | zero => exact absurd H (by simp [swageref11_Text.j1])
      | succ k_j1 =>
        simp only [swageref11_Text.j1] at H
        by_cases c10 : x7 = true
        · rw [if_pos c10] at H
          refine s_lit (t := 21) rfl c10 ?_
          refine c_true rfl ?_
          refine c_seq ?_
          refine g_plain ?_
          refine l_y (y_assign rfl rfl) rfl rfl (by decide) ?_
          refine l_nil ?_
          refine x_next ?_
          refine c_ret ?_
          refine x_then rfl ?_
          obtain rfl := Option.some.inj H
          exact g_ret [.string (⟨#[63]⟩ : ByteArray)] (congrArg Array.toList Tryd.results27) (.cons (.t rfl) .nil) (fun W E => ⟨rfl, E.drop (List.nil_sublist _)⟩)
        · rw [if_neg c10] at H
          refine s_lit (t := 21) rfl (Bool.eq_false_iff.2 c10) ?_
          refine c_false rfl ?_
          refine c_skip ?_
          refine x_next ?_
          refine c_seq ?_
          refine c_seq ?_
          refine g_plain ?_
          refine l_y (y_field (j' := 0) fa24_0 rfl rfl rfl) rfl rfl (by decide) ?_
          refine l_y (y_load is3 rfl rfl (cl_own (i := 0) (j := 0) rfl rfl)) rfl rfl (by decide) ?_
          refine l_y (y_bin rfl rfl rfl bi_eq) rfl rfl (by decide) ?_
          refine l_nil ?_
          refine x_next ?_
          by_cases c11 : a0.Kind = 2
          · rw [if_pos c11] at H
            refine s_lit (t := 24) rfl (decide_eq_true c11) ?_
            refine c_true rfl ?_
            refine c_seq ?_
            refine g_plain ?_
            refine l_y (y_field (j' := 2) fa24_2 rfl rfl rfl) rfl rfl (by decide) ?_
            refine l_y (y_load is22 rfl rfl (cl_own (i := 0) (j := 2) rfl rfl)) rfl rfl (by decide) ?_
            by_cases c12 : 0 < (a0.Kids.length : Int)
            rotate_left
            · rw [if_neg c12] at H; exact absurd H (by simp)
            rw [if_pos c12] at H
            obtain ⟨b13, o14, hA_, hE15⟩ := hr3.elem (by omega)
            obtain rfl := hA_
            obtain ⟨cs18, hR19, hC20⟩ := hE15 0 (by decide) c12
            obtain ⟨A16, c17, rfl, hr21, chr21⟩ := hR19.open
            refine l_y (y_index sl22 rfl rfl rfl (by decide) c12) rfl rfl (by decide) ?_
            refine l_y (y_loadA (cs := [.int .i64 ((rd a0.Kids 0).Kind), .int .i64 ((rd a0.Kids 0).Count), .slice A16 (((rd a0.Kids 0).Kids).length) c17]) ia24 rfl rfl rfl hC20.cls) rfl rfl (by decide) ?_
            refine l_w rfl ?_
            obtain ⟨r22, hr22, H⟩ := Option.bind_eq_some_iff.1 H
            refine w_call (args := [.agg #[.int .i64 ((rd a0.Kids 0).Kind), .int .i64 ((rd a0.Kids 0).Count), .slice A16 (((rd a0.Kids 0).Kids).length) c17]]) (caps := []) has27 rfl rfl rfl rfl (by decide) (fun a W F E => ?_)
            refine ((ih k_j1 (by omega)) (rd a0.Kids 0) A16 c17 I W r22 hr21 (by first | assumption | simp | omega) (E.st.sub (List.nil_sublist _)) hr22).mono ?_
            rintro e W' ⟨rfl, X⟩
            refine ⟨_, rfl, here (At.mk (F.put (by decide) _) (E.call0 X)) ?_⟩
            clear X E F W W' a
            by_cases c24 : (⟨#[42]⟩ : ByteArray).size + r22.size ≤ 9223372036854775807
            rotate_left
            · rw [if_neg c24] at H; exact absurd H (by simp)
            rw [if_pos c24] at H
            refine l_y (y_bin rfl rfl rfl (bi_sadd c24)) rfl rfl (by decide) ?_
            refine l_y (y_assign rfl rfl) rfl rfl (by decide) ?_
            refine l_nil ?_
            refine x_next ?_
            refine c_ret ?_
            refine x_then rfl ?_
            obtain rfl := Option.some.inj H
            exact g_ret [.string ((⟨#[42]⟩ : ByteArray) ++ r22)] (congrArg Array.toList Tryd.results27) (.cons (.t rfl) .nil) (fun W E => ⟨rfl, E.drop (List.nil_sublist _)⟩)
          · rw [if_neg c11] at H
            refine s_lit (t := 24) rfl (decide_eq_false c11) ?_
            refine c_false rfl ?_
            refine c_skip ?_
            refine x_next ?_
            refine c_seq ?_
            refine c_seq ?_
            refine g_plain ?_
            refine l_y (y_field (j' := 0) fa24_0 rfl rfl rfl) rfl rfl (by decide) ?_
            refine l_y (y_load is3 rfl rfl (cl_own (i := 0) (j := 0) rfl rfl)) rfl rfl (by decide) ?_
            refine l_y (y_bin rfl rfl rfl bi_eq) rfl rfl (by decide) ?_
            refine l_nil ?_
            refine x_next ?_
            by_cases c25 : a0.Kind = 3
            · rw [if_pos c25] at H
              refine s_lit (t := 33) rfl (decide_eq_true c25) ?_
              refine c_true rfl ?_
              refine c_seq ?_
              refine d_start [.cells β5 24 [.int .i64 a0.Kind, .int .i64 a0.Count, .slice A1 a0.Kids.length c2] 3] [] (bits 12 0) mixed_ rfl (by kernel_rfl) (pick_mem (is := [0]) ⟨rfl, trivial⟩) ?_
              refine d_pure 0 (bits 12 1) (y_field (j' := 1) fa24_1 rfl rfl rfl) rfl rfl (by decide) (by kernel_rfl) (fun _ _ _ h => h) (.none rfl) ?_
              refine d_take 1 (bits 12 3) (y_load is3 rfl rfl (cl_own (i := 0) (j := 1) rfl rfl)) rfl rfl (by decide) (by kernel_rfl) (fun _ _ _ h => h) (.none rfl) (Imm.rfl' _) (pick_mem (is := [0]) ⟨rfl, trivial⟩) ?_
              refine d_pure 5 (bits 12 35) (y_field (j' := 2) fa24_2 rfl rfl rfl) rfl rfl (by decide) (by kernel_rfl) (fun _ _ _ h => h) (.none rfl) ?_
              refine d_take 6 (bits 12 99) (y_load is22 rfl rfl (cl_own (i := 0) (j := 2) rfl rfl)) rfl rfl (by decide) (by kernel_rfl) (fun _ _ _ h => h) (.none rfl) (Imm.rfl' _) (pick_mem (is := [0]) ⟨rfl, trivial⟩) ?_
              by_cases c26 : 0 < (a0.Kids.length : Int)
              rotate_left
              · rw [if_neg c26] at H; exact absurd H (by simp)
              rw [if_pos c26] at H
              obtain ⟨b27, o28, hA_, hE29⟩ := hr3.elem (by omega)
              obtain rfl := hA_
              obtain ⟨cs32, hR33, hC34⟩ := hE29 0 (by decide) c26
              obtain ⟨A30, c31, rfl, hr35, chr35⟩ := hR33.open
              refine d_pure 7 (bits 12 227) (y_index sl22 rfl rfl rfl (by decide) c26) rfl rfl (by decide) (by kernel_rfl) (fun _ _ _ h => h) (.none rfl) ?_
              refine d_take 8 (bits 12 483) (y_loadA (cs := [.int .i64 ((rd a0.Kids 0).Kind), .int .i64 ((rd a0.Kids 0).Count), .slice A30 (((rd a0.Kids 0).Kids).length) c31]) ia24 rfl rfl rfl hC34.cls) rfl rfl (by decide) (by kernel_rfl) (fun _ _ _ h => h) (.none rfl) (Imm.rfl' _) (pick_mem (is := [0]) ⟨rfl, trivial⟩) ?_
              refine d_one 2 (bits 12 487) rfl (by kernel_rfl) (by decide) (.none rfl) (fun K hK => ?_)
              obtain ⟨r36, hr36, H⟩ := Option.bind_eq_some_iff.1 H
              refine w_call (args := [.int .i64 a0.Count]) (caps := []) has71 rfl rfl rfl rfl (by decide) (fun a W F E => ?_)
              refine (swageref05_Number.calls k_j1 a0.Count I W r36 (E.st.sub (List.nil_sublist _)) hr36).mono ?_
              rintro e W' ⟨rfl, X⟩
              refine ⟨_, rfl, here (At.mk (F.put (by decide) _) (E.call0 X)) ?_⟩
              clear X E F W W' a
              refine d_k hK (Imm.rfl' _) (pick_mem (is := [0]) ⟨rfl, trivial⟩) ?_
              clear hK K
              by_cases c38 : (⟨#[91]⟩ : ByteArray).size + r36.size ≤ 9223372036854775807
              rotate_left
              · rw [if_neg c38] at H; exact absurd H (by simp)
              rw [if_pos c38] at H
              refine d_pure 3 (bits 12 495) (y_bin rfl rfl rfl (bi_sadd c38)) rfl rfl (by decide) (by kernel_rfl) (fun _ _ _ h => h) (.none rfl) ?_
              by_cases c39 : ((⟨#[91]⟩ : ByteArray) ++ r36).size + (⟨#[93]⟩ : ByteArray).size ≤ 9223372036854775807
              rotate_left
              · rw [if_neg c39] at H; exact absurd H (by simp)
              rw [if_pos c39] at H
              refine d_pure 4 (bits 12 511) (y_bin rfl rfl rfl (bi_sadd c39)) rfl rfl (by decide) (by kernel_rfl) (fun _ _ _ h => h) (.none rfl) ?_
              refine d_one 9 (bits 12 1023) rfl (by kernel_rfl) (by decide) (.none rfl) (fun K hK => ?_)
              obtain ⟨r40, hr40, H⟩ := Option.bind_eq_some_iff.1 H
              refine w_call (args := [.agg #[.int .i64 ((rd a0.Kids 0).Kind), .int .i64 ((rd a0.Kids 0).Count), .slice A30 (((rd a0.Kids 0).Kids).length) c31]]) (caps := []) has27 rfl rfl rfl rfl (by decide) (fun a W F E => ?_)
              refine ((ih k_j1 (by omega)) (rd a0.Kids 0) A30 c31 I W r40 hr35 (by first | assumption | simp | omega) (E.st.sub (List.nil_sublist _)) hr40).mono ?_
              rintro e W' ⟨rfl, X⟩
              refine ⟨_, rfl, here (At.mk (F.put (by decide) _) (E.call0 X)) ?_⟩
              clear X E F W W' a
              refine d_k hK (Imm.rfl' _) (pick_mem (is := [0]) ⟨rfl, trivial⟩) ?_
              clear hK K
              by_cases c42 : (((⟨#[91]⟩ : ByteArray) ++ r36) ++ (⟨#[93]⟩ : ByteArray)).size + r40.size ≤ 9223372036854775807
              rotate_left
              · rw [if_neg c42] at H; exact absurd H (by simp)
              rw [if_pos c42] at H
              refine d_pure 10 (bits 12 2047) (y_bin rfl rfl rfl (bi_sadd c42)) rfl rfl (by decide) (by kernel_rfl) (fun _ _ _ h => h) (.none rfl) ?_
              refine d_pure 11 (bits 12 4095) (y_assign rfl rfl) rfl rfl (by decide) (by kernel_rfl) (fun _ _ _ h => h) (.none rfl) ?_
              refine d_done (by kernel_rfl) ?_
              refine x_next ?_
              refine c_ret ?_
              refine x_then rfl ?_
              obtain rfl := Option.some.inj H
              exact g_ret [.string ((((⟨#[91]⟩ : ByteArray) ++ r36) ++ (⟨#[93]⟩ : ByteArray)) ++ r40)] (congrArg Array.toList Tryd.results27) (.cons (.t rfl) .nil) (fun W E => ⟨rfl, E.drop (List.nil_sublist _)⟩)
            · rw [if_neg c25] at H
              refine s_lit (t := 33) rfl (decide_eq_false c25) ?_
              refine c_false rfl ?_
              refine c_skip ?_
              refine x_next ?_
              refine c_seq ?_
              refine g_plain ?_
              refine l_y (y_assign rfl rfl) rfl rfl (by decide) ?_
              refine l_nil ?_
              refine x_next ?_
              refine c_seq ?_
              refine c_seq ?_
              refine g_plain ?_
              refine l_y (y_assign rfl rfl) rfl rfl (by decide) ?_
              refine l_nil ?_
              refine x_next ?_
              refine c_block ?_
              refine c_loop (fun kq a W => ∃ (x43 : ByteArray) (x44 : Int), swageref11_Text.l0 kq x43 x44 a0 = some r ∧ kq ≤ k_j1 ∧ At 66 [] [(1, .pointer (some ⟨β5, 0, none⟩)), (3, .string x43), (4, .int .i64 x44)] I [] w I [.cells β5 24 [.int .i64 a0.Kind, .int .i64 a0.Count, .slice A1 a0.Kids.length c2] 3] a W) k_j1 (fun a W hA => ⟨(⟨#[40]⟩ : ByteArray), 0, H, (Nat.le_refl _), ⟨hA.fits.only ⟨rfl, rfl, rfl, trivial⟩, hA.ext⟩⟩) ?_
              clear H
              rintro kq a W ⟨x43, x44, H, hk, hA⟩
              refine here hA ?_
              clear hA a W
              cases kq with
              | zero => exact absurd H (by simp [swageref11_Text.l0])
              | succ k0 =>
                simp only [swageref11_Text.l0] at H
                refine c_seq ?_
                refine c_seq ?_
                refine g_plain ?_
                refine l_y (y_move rfl rfl) rfl rfl (by decide) ?_
                refine l_y (y_field (j' := 2) fa24_2 rfl rfl rfl) rfl rfl (by decide) ?_
                refine l_y (y_load is22 rfl rfl (cl_own (i := 0) (j := 2) rfl rfl)) rfl rfl (by decide) ?_
                refine l_y (y_len Tryd.underlying22 rfl rfl) rfl rfl (by decide) ?_
                refine l_y (y_bin rfl rfl rfl bi_lt) rfl rfl (by decide) ?_
                refine l_nil ?_
                refine x_next ?_
                by_cases c45 : x44 < (a0.Kids.length : Int)
                · rw [if_pos c45] at H
                  refine s_lit (t := 49) rfl (decide_eq_true c45) ?_
                  refine c_true rfl ?_
                  refine c_skip ?_
                  refine x_next ?_
                  refine c_seq ?_
                  refine c_block ?_
                  refine c_join (fun a W => ∃ (kq : Nat) (x46 : ByteArray), swageref11_Text.j3 kq x46 a0 x44 = some r ∧ kq ≤ k0 ∧ At 66 [] [(1, .pointer (some ⟨β5, 0, none⟩)), (3, .string x46), (4, .int .i64 x44)] I [] w I [.cells β5 24 [.int .i64 a0.Kind, .int .i64 a0.Count, .slice A1 a0.Kids.length c2] 3] a W) ?_ ?_
                  · skip
                    refine c_seq ?_
                    refine g_plain ?_
                    refine l_y (y_move rfl rfl) rfl rfl (by decide) ?_
                    refine l_y (y_bin rfl rfl rfl bi_gt) rfl rfl (by decide) ?_
                    refine l_nil ?_
                    refine x_next ?_
                    by_cases c47 : 0 < x44
                    · rw [if_pos c47] at H
                      refine s_lit (t := 53) rfl (decide_eq_true c47) ?_
                      refine c_true rfl ?_
                      refine g_plain ?_
                      refine l_y (y_move rfl rfl) rfl rfl (by decide) ?_
                      by_cases c48 : x43.size + (⟨#[44]⟩ : ByteArray).size ≤ 9223372036854775807
                      rotate_left
                      · rw [if_neg c48] at H; exact absurd H (by simp)
                      rw [if_pos c48] at H
                      refine l_y (y_bin rfl rfl rfl (bi_sadd c48)) rfl rfl (by decide) ?_
                      refine l_y (y_assign rfl rfl) rfl rfl (by decide) ?_
                      refine l_nil ?_
                      exact fun a W hA => ⟨k0, (x43 ++ (⟨#[44]⟩ : ByteArray)), H, (by omega), ⟨hA.fits.only ⟨rfl, rfl, rfl, trivial⟩, hA.ext⟩⟩
                    · rw [if_neg c47] at H
                      refine s_lit (t := 53) rfl (decide_eq_false c47) ?_
                      refine c_false rfl ?_
                      refine c_skip ?_
                      exact fun a W hA => ⟨k0, x43, H, (by omega), ⟨hA.fits.only ⟨rfl, rfl, rfl, trivial⟩, hA.ext⟩⟩
                  clear H
                  rintro a W ⟨kq, x46, H, hk, hA⟩
                  refine here hA ?_
                  clear hA a W
                  cases kq with
                  | zero => exact absurd H (by simp [swageref11_Text.j3])
                  | succ k_j3 =>
                    simp only [swageref11_Text.j3] at H
                    refine g_plain ?_
                    refine l_y (y_move rfl rfl) rfl rfl (by decide) ?_
                    refine l_y (y_field (j' := 2) fa24_2 rfl rfl rfl) rfl rfl (by decide) ?_
                    refine l_y (y_load is22 rfl rfl (cl_own (i := 0) (j := 2) rfl rfl)) rfl rfl (by decide) ?_
                    refine l_y (y_move rfl rfl) rfl rfl (by decide) ?_
                    by_cases c49 : 0 ≤ x44 ∧ x44 < (a0.Kids.length : Int)
                    rotate_left
                    · rw [if_neg c49] at H; exact absurd H (by simp)
                    rw [if_pos c49] at H
                    obtain ⟨b50, o51, hA_, hE52⟩ := hr3.elem (by omega)
                    obtain rfl := hA_
                    obtain ⟨cs55, hR56, hC57⟩ := hE52 x44 c49.1 c49.2
                    obtain ⟨A53, c54, rfl, hr58, chr58⟩ := hR56.open
                    refine l_y (y_index sl22 rfl rfl rfl c49.1 c49.2) rfl rfl (by decide) ?_
                    refine l_y (y_loadA (cs := [.int .i64 ((rd a0.Kids x44).Kind), .int .i64 ((rd a0.Kids x44).Count), .slice A53 (((rd a0.Kids x44).Kids).length) c54]) ia24 rfl rfl rfl hC57.cls) rfl rfl (by decide) ?_
                    refine l_w rfl ?_
                    obtain ⟨r59, hr59, H⟩ := Option.bind_eq_some_iff.1 H
                    refine w_call (args := [.agg #[.int .i64 ((rd a0.Kids x44).Kind), .int .i64 ((rd a0.Kids x44).Count), .slice A53 (((rd a0.Kids x44).Kids).length) c54]]) (caps := []) has27 rfl rfl rfl rfl (by decide) (fun a W F E => ?_)
                    refine ((ih k_j3 (by omega)) (rd a0.Kids x44) A53 c54 I W r59 hr58 (by first | assumption | simp | omega) (E.st.sub (List.nil_sublist _)) hr59).mono ?_
                    rintro e W' ⟨rfl, X⟩
                    refine ⟨_, rfl, here (At.mk (F.put (by decide) _) (E.call0 X)) ?_⟩
                    clear X E F W W' a
                    by_cases c61 : x46.size + r59.size ≤ 9223372036854775807
                    rotate_left
                    · rw [if_neg c61] at H; exact absurd H (by simp)
                    rw [if_pos c61] at H
                    refine l_y (y_bin rfl rfl rfl (bi_sadd c61)) rfl rfl (by decide) ?_
                    refine l_y (y_assign rfl rfl) rfl rfl (by decide) ?_
                    refine l_nil ?_
                    refine x_norm ?_
                    refine x_next ?_
                    refine g_plain ?_
                    refine l_y (y_move rfl rfl) rfl rfl (by decide) ?_
                    refine l_y (y_bin rfl rfl rfl bi_add) rfl rfl (by decide) ?_
                    refine l_y (y_assign rfl rfl) rfl rfl (by decide) ?_
                    refine l_nil ?_
                    exact fun a W hA => ⟨k_j3, by omega, (x46 ++ r59), (IntKind.i64.wrap (x44 + 1)), H, (by omega), ⟨hA.fits.only ⟨rfl, rfl, rfl, trivial⟩, hA.ext⟩⟩
                · rw [if_neg c45] at H
                  refine s_lit (t := 49) rfl (decide_eq_false c45) ?_
                  refine c_false rfl ?_
                  refine c_exit ?_
                  refine x_then rfl ?_
                  refine x_then rfl ?_
                  refine x_in ?_
                  refine x_next ?_
                  refine c_seq ?_
                  refine g_plain ?_
                  refine l_y (y_move rfl rfl) rfl rfl (by decide) ?_
                  by_cases c62 : x43.size + (⟨#[41]⟩ : ByteArray).size ≤ 9223372036854775807
                  rotate_left
                  · rw [if_neg c62] at H; exact absurd H (by simp)
                  rw [if_pos c62] at H
                  refine l_y (y_bin rfl rfl rfl (bi_sadd c62)) rfl rfl (by decide) ?_
                  refine l_y (y_assign rfl rfl) rfl rfl (by decide) ?_
                  refine l_nil ?_
                  refine x_next ?_
                  refine c_ret ?_
                  obtain rfl := Option.some.inj H
                  exact g_ret [.string (x43 ++ (⟨#[41]⟩ : ByteArray))] (congrArg Array.toList Tryd.results27) (.cons (.t rfl) .nil) (fun W E => ⟨rfl, E.drop (List.nil_sublist _)⟩)
mutual
def types_Copy.l0 : Nat → Int → (List GType) → GType → (List GType) → Option GType
  | 0, _, _, _, _ => none
  | k + 1, x17, x18, a0, r7 => (if x17 < (r7.length : Int) then (if 0 ≤ x17 ∧ x17 < (x18.length : Int) then ((types_Copy.f k (rd x18 x17)).bind fun r36 => ((some (List.set x18 (Int.toNat x17) r36 : List GType)).bind fun l47 => (types_Copy.l0 k (IntKind.i64.wrap (x17 + 1)) l47 a0 r7))) else none) else (some (⟨a0.Kind, a0.Count, x18⟩ : GType)))
def types_Copy.f : Nat → GType → Option GType
  | 0, _ => none
  | k + 1, a0 => ((slices_Clone_Type.f k a0.Kids).bind fun r7 => (types_Copy.l0 k 0 r7 a0 r7))
end
def types_Copy.Post (I : Imm) (O : List Ent) (w : World) (r : GType) (e : Ending) (w' : World) : Prop := ∃ (J : Imm) (A1 : Option Addr) (c1 : Nat) (css1 : List (List Value)), e = .returned (.agg #[.int .i64 r.Kind, .int .i64 r.Count, .slice A1 r.Kids.length c1]) ∧ Ext I O w J (.row A1 24 (List.flatten css1) (c1 * 3) :: O) w' ∧ OwnR R_Type 3 J r.Kids css1 ∧ OV 40 A1 r.Kids.length c1
set_option maxRecDepth 100000 in
set_option maxHeartbeats 1000000 in
theorem types_Copy.calls (k : Nat) : ∀ (a0 : GType) (A1 : Option Addr) (c2 : Nat) (I : Imm) (w : World) (r : GType) (hr3 : RowsG R_Type 3 40 I A1 a0.Kids) (hc4 : a0.Kids.length ≤ c2), St I [] w → types_Copy.f k a0 = some r →
  Calls Tryd.prog 14 #[.agg #[.int .i64 a0.Kind, .int .i64 a0.Count, .slice A1 a0.Kids.length c2]] w (types_Copy.Post I [] w r) := by
  induction k using Nat.strongRecOn with
  | _ k ih =>
  intro a0 A1 c2 I w r hr3 hc4 hS H
  have nhr3 := hr3.len
  cases k with
  | zero => exact absurd H (by simp [types_Copy.f])
  | succ k =>
    simp only [types_Copy.f] at H
    refine enter Tryd.func14 rfl Tryd.ntmps14 (Nat.le_of_ble_eq_true rfl) hS ?_
    refine c_seq ?_
    refine g_plain ?_
    refine l_w rfl ?_
    refine w_box (cs := [.int .i64 a0.Kind, .int .i64 a0.Count, .slice A1 a0.Kids.length c2]) (m := 3) rfl rfl rfl rfl rfl (by decide) (fun β5 => ?_)
    refine l_w rfl ?_
    refine w_alloc (cs := [.int .i64 0, .int .i64 0, .slice none 0 0]) (m := 3) zz24 rfl rfl rfl rfl (by decide) (fun β6 => ?_)
    refine l_nil ?_
    refine x_next ?_
    refine c_seq ?_
    refine g_plain ?_
    refine l_y (y_field (j' := 2) fa24_2 rfl rfl rfl) rfl rfl (by decide) ?_
    refine l_y (y_load is22 rfl rfl (cl_own (i := 1) (j := 2) rfl rfl)) rfl rfl (by decide) ?_
    refine l_w rfl ?_
    obtain ⟨r7, hr7, H⟩ := Option.bind_eq_some_iff.1 H
    refine w_call (args := [.slice A1 a0.Kids.length c2]) (caps := []) has63 rfl rfl rfl rfl (by decide) (fun a W F E => ?_)
    refine (slices_Clone_Type.calls k a0.Kids A1 c2 I W r7 hr3 (by first | assumption | simp | omega) (E.st.sub (List.nil_sublist _)) hr7).mono ?_
    rintro e W' ⟨J13, A8, c9, css10, rfl, X, hO11, hV12⟩
    have hl14 := X.le
    refine ⟨_, rfl, here (At.mk (F.put (by decide) _) (E.new1 X)) ?_⟩
    clear X E F W W' a
    refine l_y (y_field (j' := 2) fa24_2 rfl rfl rfl) rfl rfl (by decide) ?_
    refine l_w rfl ?_
    refine w_store2 (cs' := [.int .i64 a0.Kind, .int .i64 a0.Count, .slice A8 r7.length c9]) sz22 rfl rfl rfl rfl rfl (Nat.le_of_ble_eq_true rfl) rfl rfl ?_
    refine l_nil ?_
    refine x_next ?_
    refine c_seq ?_
    refine c_seq ?_
    refine g_plain ?_
    refine l_y (y_field (j' := 2) fa24_2 rfl rfl rfl) rfl rfl (by decide) ?_
    refine l_y (y_load is22 rfl rfl (cl_own (i := 2) (j := 2) rfl rfl)) rfl rfl (by decide) ?_
    refine l_y (y_len Tryd.underlying22 rfl rfl) rfl rfl (by decide) ?_
    refine l_y (y_move rfl rfl) rfl rfl (by decide) ?_
    refine l_nil ?_
    refine x_next ?_
    refine c_block ?_
    refine s_perm pf2 ?_
    refine s_perm pf2 ?_
    refine s_perm pf2 ?_
    refine c_loop (fun kq a W => ∃ (J15 : Imm) (x17 : Int) (x18 : List GType) (A19 : Option Addr) (cp20 : Nat) (css21 : List (List Value)), types_Copy.l0 kq x17 x18 a0 r7 = some r ∧ kq ≤ k ∧ Imm.le J13 J15 ∧ OwnR R_Type 3 J15 x18 css21 ∧ OV 40 A19 x18.length cp20 ∧ At 25 [] [(1, .pointer (some ⟨β5, 0, none⟩)), (2, .pointer (some ⟨β6, 0, none⟩)), (10, .slice A19 x18.length cp20), (11, .int .i64 (r7.length : Int)), (12, .int .i64 x17)] I [] w J15 [.row A19 24 (List.flatten css21) (cp20 * 3), .cells β6 24 [.int .i64 0, .int .i64 0, .slice none 0 0] 3, .cells β5 24 [.int .i64 a0.Kind, .int .i64 a0.Count, .slice A19 x18.length cp20] 3] a W) k (fun a W hA => ⟨_, 0, r7, A8, c9, css10, H, (Nat.le_refl _), (Imm.rfl' _), hO11, hV12, ⟨hA.fits.only ⟨rfl, rfl, rfl, rfl, rfl, trivial⟩, hA.ext⟩⟩) ?_
    clear H
    rintro kq a W ⟨J15, x17, x18, A19, cp20, css21, H, hk, hl16, hO23, hV22, hA⟩
    refine here hA ?_
    clear hA a W
    cases kq with
    | zero => exact absurd H (by simp [types_Copy.l0])
    | succ k0 =>
      simp only [types_Copy.l0] at H
      refine c_seq ?_
      refine g_plain ?_
      refine l_y (y_bin rfl rfl rfl bi_lt) rfl rfl (by decide) ?_
      refine l_nil ?_
      refine x_next ?_
      refine c_seq ?_
      by_cases c24 : x17 < (r7.length : Int)
      · rw [if_pos c24] at H
        refine s_lit (t := 13) rfl (decide_eq_true c24) ?_
        refine c_true rfl ?_
        refine c_skip ?_
        refine x_next ?_
        refine c_seq ?_
        refine c_block ?_
        refine c_seq ?_
        refine g_plain ?_
        refine l_y (y_move rfl rfl) rfl rfl (by decide) ?_
        by_cases c25 : 0 ≤ x17 ∧ x17 < (x18.length : Int)
        rotate_left
        · rw [if_neg c25] at H; exact absurd H (by simp)
        rw [if_pos c25] at H
        refine s_rowat (i := 0) rfl hV22 (by omega) (fun b26 hA_ => ?_)
        obtain rfl := hA_
        obtain ⟨cs29, hR30, hl31, hi32, hf33⟩ := OwnR.elem (j := x17) hO23 c25.1 c25.2
        obtain ⟨A27, c28, rfl, hr34, chr34⟩ := hR30.open
        refine l_y (y_index sl22 rfl rfl rfl c25.1 c25.2) rfl rfl (by decide) ?_
        refine l_y (y_loadA (cs := [.int .i64 ((rd x18 x17).Kind), .int .i64 ((rd x18 x17).Count), .slice A27 (((rd x18 x17).Kids).length) c28]) ia24 rfl rfl rfl (cls_row (i := 0) rfl hf33)) rfl rfl (by decide) ?_
        refine l_w rfl ?_
        refine w_alloc (cs := [.int .i64 0, .int .i64 0, .slice none 0 0]) (m := 3) zz24 rfl rfl rfl rfl (by decide) (fun β35 => ?_)
        refine l_y (y_assign rfl rfl) rfl rfl (by decide) ?_
        refine l_w rfl ?_
        refine w_store0 (cs' := [.int .i64 ((rd x18 x17).Kind), .int .i64 ((rd x18 x17).Count), .slice A27 (((rd x18 x17).Kids).length) c28]) sz24 rfl rfl rfl rfl rfl (Nat.le_of_ble_eq_true rfl) rfl rfl ?_
        refine l_nil ?_
        refine x_next ?_
        refine d_start [.cells β35 24 [.int .i64 ((rd x18 x17).Kind), .int .i64 ((rd x18 x17).Count), .slice A27 (((rd x18 x17).Kids).length) c28] 3, .row (some ⟨b26, 0, none⟩) 24 (List.flatten css21) (cp20 * 3), .cells β6 24 [.int .i64 0, .int .i64 0, .slice none 0 0] 3, .cells β5 24 [.int .i64 a0.Kind, .int .i64 a0.Count, .slice (some ⟨b26, 0, none⟩) x18.length cp20] 3] [6] (bits 7 0) mixed_ rfl (by kernel_rfl) (pick_mem (is := [0, 1, 2, 3]) ⟨rfl, rfl, rfl, rfl, trivial⟩) ?_
        refine d_pure 0 (bits 7 1) (y_field (j' := 2) fa24_2 rfl rfl rfl) rfl rfl (by decide) (by kernel_rfl) (fun _ _ _ h => h) (.none rfl) ?_
        refine d_take 1 (bits 7 3) (y_load is22 rfl rfl (cl_own (i := 3) (j := 2) rfl rfl)) rfl rfl (by decide) (by kernel_rfl) (fun _ _ _ h => h) (.none rfl) (Imm.rfl' _) (pick_mem (is := [0, 1, 2, 3]) ⟨rfl, rfl, rfl, rfl, trivial⟩) ?_
        refine d_pure 2 (bits 7 7) (y_move rfl rfl) rfl rfl (by decide) (by kernel_rfl) (fun _ _ _ h => h) (.none rfl) ?_
        refine d_take 3 (bits 7 15) (y_loadA (cs := [.int .i64 ((rd x18 x17).Kind), .int .i64 ((rd x18 x17).Count), .slice A27 (((rd x18 x17).Kids).length) c28]) ia24 rfl rfl rfl (cls_own (i := 0) rfl rfl)) rfl rfl (by decide) (by kernel_rfl) (fun _ _ _ h => h) (.none rfl) (Imm.rfl' _) (pick_mem (is := [0, 1, 2, 3]) ⟨rfl, rfl, rfl, rfl, trivial⟩) ?_
        refine d_one 4 (bits 7 31) rfl (by kernel_rfl) (by decide) (.none rfl) (fun K hK => ?_)
        obtain ⟨r36, hr36, H⟩ := Option.bind_eq_some_iff.1 H
        refine w_call (args := [.agg #[.int .i64 ((rd x18 x17).Kind), .int .i64 ((rd x18 x17).Count), .slice A27 (((rd x18 x17).Kids).length) c28]]) (caps := []) has14 rfl rfl rfl rfl (by decide) (fun a W F E => ?_)
        refine ((ih k0 (by omega)) (rd x18 x17) A27 c28 J15 W r36 hr34 (by first | assumption | simp | omega) (E.st.sub (List.nil_sublist _)) hr36).mono ?_
        rintro e W' ⟨J42, A37, c38, css39, rfl, X, hO40, hV41⟩
        have hl43 := X.le
        refine ⟨_, rfl, here (At.mk (F.put (by decide) _) (E.new1 X)) ?_⟩
        clear X E F W W' a
        refine s_freeze (by_ := 40) R_Type.mono hO40 hV41 (fun J44 hl45 hr46 => ?_)
        have cq_ := hV41.le
        refine d_k hK (hl43.trans hl45) (pick_mem (is := [0, 1, 2, 3]) ⟨rfl, rfl, rfl, rfl, trivial⟩) ?_
        clear hK K
        refine d_pure 5 (bits 7 63) (y_index sl22 rfl rfl rfl c25.1 c25.2) rfl rfl (by decide) (by kernel_rfl) (fun _ _ _ h => h) (.none rfl) ?_
        refine d_last 6 (bits 7 127) rfl (by kernel_rfl) (by decide) (.none rfl) (fun K hK => ?_)
        obtain ⟨l47, hl47, H⟩ := Option.bind_eq_some_iff.1 H
        have hl47 := Option.some.inj hl47
        refine w_storeR1 (q := 0) (i := Int.toNat x17) (R := R_Type) (sz := 3) (x' := r36) (cs' := [.int .i64 r36.Kind, .int .i64 r36.Count, .slice A37 r36.Kids.length c38]) sz24 rfl rfl (by omega) rfl rfl rfl (hO23.mono R_Type.mono (hl43.trans hl45)) hi32 (by decide) rfl (R_Type.of r36 A37 c38 hr46 (by first | assumption | simp | omega)) l47 hl47 rfl (fun css48 hO49 hl50 => ?_)
        try rw [hl50]
        have hV51 := hV22
        rw [hl50] at hV51
        refine d_kl hK ?_
        clear hK K
        refine d_done (by kernel_rfl) ?_
        refine x_norm ?_
        refine x_next ?_
        refine g_plain ?_
        refine l_y (y_bin rfl rfl rfl bi_add) rfl rfl (by decide) ?_
        refine l_y (y_move rfl rfl) rfl rfl (by decide) ?_
        refine l_nil ?_
        refine s_perm pf3 ?_
        refine s_perm pf3 ?_
        refine s_perm pf3 ?_
        refine s_drop ((.cons_cons _ (.cons_cons _ (.cons_cons _ (List.nil_sublist _))))) ?_
        exact fun a W hA => ⟨k0, by omega, _, (IntKind.i64.wrap (x17 + 1)), l47, (some ⟨b26, 0, none⟩), cp20, css48, H, (by omega), ((hl16.trans hl43).trans hl45), hO49, hV51, ⟨hA.fits.only ⟨rfl, rfl, rfl, rfl, rfl, trivial⟩, hA.ext⟩⟩
      · rw [if_neg c24] at H
        refine s_lit (t := 13) rfl (decide_eq_false c24) ?_
        refine c_false rfl ?_
        refine c_exit ?_
        refine x_then rfl ?_
        refine x_then rfl ?_
        refine x_in ?_
        refine x_next ?_
        refine c_seq ?_
        refine g_plain ?_
        refine l_y (y_loadA (cs := [.int .i64 a0.Kind, .int .i64 a0.Count, .slice A19 x18.length cp20]) ia24 rfl rfl rfl (cls_own (i := 2) rfl rfl)) rfl rfl (by decide) ?_
        refine l_w rfl ?_
        refine w_store1 (cs' := [.int .i64 a0.Kind, .int .i64 a0.Count, .slice A19 x18.length cp20]) sz24 rfl rfl rfl rfl rfl (Nat.le_of_ble_eq_true rfl) rfl rfl ?_
        refine l_nil ?_
        refine x_next ?_
        refine c_ret ?_
        obtain rfl := Option.some.inj H
        exact g_ret [.agg #[.int .i64 a0.Kind, .int .i64 a0.Count, .slice A19 x18.length cp20]] (congrArg Array.toList Tryd.results14) (.cons (.a (cs := [.int .i64 a0.Kind, .int .i64 a0.Count, .slice A19 x18.length cp20]) ia24 rfl rfl (cls_own (i := 1) rfl rfl)) .nil) (fun W E => ⟨_, A19, cp20, css21, rfl, E.drop ((.cons_cons _ (List.nil_sublist _))), hO23, hV22⟩)
def types_Pointer.f (k : Nat) (a0 : GType) : Option GType := ((types_Copy.f k a0).bind fun r7 => (some (⟨2, 0, [r7]⟩ : GType)))
def types_Pointer.Post (I : Imm) (O : List Ent) (w : World) (r : GType) (e : Ending) (w' : World) : Prop := ∃ (J : Imm) (A1 : Option Addr) (c1 : Nat) (css1 : List (List Value)), e = .returned (.agg #[.int .i64 r.Kind, .int .i64 r.Count, .slice A1 r.Kids.length c1]) ∧ Ext I O w J (.row A1 24 (List.flatten css1) (c1 * 3) :: O) w' ∧ OwnR R_Type 3 J r.Kids css1 ∧ OV 40 A1 r.Kids.length c1
set_option maxRecDepth 100000 in
set_option maxHeartbeats 1000000 in
theorem types_Pointer.calls (k : Nat) : ∀ (a0 : GType) (A1 : Option Addr) (c2 : Nat) (I : Imm) (w : World) (r : GType) (hr3 : RowsG R_Type 3 40 I A1 a0.Kids) (hc4 : a0.Kids.length ≤ c2), St I [] w → types_Pointer.f k a0 = some r →
  Calls Tryd.prog 15 #[.agg #[.int .i64 a0.Kind, .int .i64 a0.Count, .slice A1 a0.Kids.length c2]] w (types_Pointer.Post I [] w r) := by
  intro a0 A1 c2 I w r hr3 hc4 hS H
  have nhr3 := hr3.len
  simp only [types_Pointer.f] at H
  refine enter Tryd.func15 rfl Tryd.ntmps15 (Nat.le_of_ble_eq_true rfl) hS ?_
  refine c_seq ?_
  refine g_plain ?_
  refine l_w rfl ?_
  refine w_box (cs := [.int .i64 a0.Kind, .int .i64 a0.Count, .slice A1 a0.Kids.length c2]) (m := 3) rfl rfl rfl rfl rfl (by decide) (fun β5 => ?_)
  refine l_w rfl ?_
  refine w_alloc (cs := [.int .i64 0, .int .i64 0, .slice none 0 0]) (m := 3) zz24 rfl rfl rfl rfl (by decide) (fun β6 => ?_)
  refine l_nil ?_
  refine x_next ?_
  refine c_seq ?_
  refine g_plain ?_
  refine l_y (y_loadA (cs := [.int .i64 a0.Kind, .int .i64 a0.Count, .slice A1 a0.Kids.length c2]) ia24 rfl rfl rfl (cls_own (i := 1) rfl rfl)) rfl rfl (by decide) ?_
  refine l_w rfl ?_
  obtain ⟨r7, hr7, H⟩ := Option.bind_eq_some_iff.1 H
  refine w_call (args := [.agg #[.int .i64 a0.Kind, .int .i64 a0.Count, .slice A1 a0.Kids.length c2]]) (caps := []) has14 rfl rfl rfl rfl (by decide) (fun a W F E => ?_)
  refine (types_Copy.calls k a0 A1 c2 I W r7 hr3 (by first | assumption | simp | omega) (E.st.sub (List.nil_sublist _)) hr7).mono ?_
  rintro e W' ⟨J13, A8, c9, css10, rfl, X, hO11, hV12⟩
  have hl14 := X.le
  refine ⟨_, rfl, here (At.mk (F.put (by decide) _) (E.new1 X)) ?_⟩
  clear X E F W W' a
  refine s_freeze (by_ := 40) R_Type.mono hO11 hV12 (fun J15 hl16 hr17 => ?_)
  have cq_ := hV12.le
  refine l_w rfl ?_
  refine w_buildS (m := 3) [.int .i64 r7.Kind, .int .i64 r7.Count, .slice A8 r7.Kids.length c9] Tryd.underlying22 ez24 rfl rfl (by kernel_rfl) (by kernel_rfl) rfl rfl (by decide) (fun β18 => ?_)
  refine s_toRow (sz := 3) (c := 1) ([[.int .i64 r7.Kind, .int .i64 r7.Count, .slice A8 r7.Kids.length c9]]) rfl rfl ?_
  have hO19 := (OwnR.cons (R_Type.of r7 A8 c9 hr17 (by first | assumption | simp | omega)) rfl (OwnR.nil _ _ _))
  have hV20 : OV 40 (some ⟨β18, 0, none⟩) 1 1 := OV.lit (by decide) (by decide)
  refine l_y (y_build [.int .i64 2, .int .i64 0, .slice (some ⟨β18, 0, none⟩) 1 1] st24 rfl rfl (by kernel_rfl)) rfl rfl (by decide) ?_
  refine l_w rfl ?_
  refine w_store1 (cs' := [.int .i64 2, .int .i64 0, .slice (some ⟨β18, 0, none⟩) 1 1]) sz24 rfl rfl rfl rfl rfl (Nat.le_of_ble_eq_true rfl) rfl rfl ?_
  refine l_nil ?_
  refine x_next ?_
  refine c_ret ?_
  obtain rfl := Option.some.inj H
  exact g_ret [.agg #[.int .i64 2, .int .i64 0, .slice (some ⟨β18, 0, none⟩) 1 1]] (congrArg Array.toList Tryd.results15) (.cons (.a (cs := [.int .i64 2, .int .i64 0, .slice (some ⟨β18, 0, none⟩) 1 1]) ia24 rfl rfl (cls_own (i := 1) rfl rfl)) .nil) (fun W E => ⟨_, (some ⟨β18, 0, none⟩), 1, [[.int .i64 r7.Kind, .int .i64 r7.Count, .slice A8 r7.Kids.length c9]], rfl, E.drop ((.cons_cons _ (List.nil_sublist _))), hO19, hV20⟩)
def swagelaw11_small.f (k : Nat)  : Option Bool := ((swagelaw11_some.f k).bind fun r1 => ((types_Offset.f k r1 2).bind fun r8 => ((types_Of.f k (⟨6, (⟨#[]⟩ : ByteArray), 0, [(⟨5, (⟨#[]⟩ : ByteArray), 0, ([] : List GNode)⟩ : GNode)]⟩ : GNode)).bind fun r14 => ((types_Of.f k (⟨18, (⟨#[]⟩ : ByteArray), 0, ([] : List GNode)⟩ : GNode)).bind fun r22 => ((swagelaw11_some.f k).bind fun r30 => ((types_Right.f k r30).bind fun r37 => (if r37 = true then ((swagelaw11_some.f k).bind fun r40 => ((types_Size.f k r40).bind fun r47 => (if r47 = 5 then (if r8.1 = 4 then (if r8.2 = true then ((swagelaw11_some.f k).bind fun r52 => ((types_Text.f k r52).bind fun r59 => (if r59 = (⟨#[40, 105, 110, 116, 44, 91, 51, 93, 42, 105, 110, 116, 44, 105, 110, 116, 41]⟩ : ByteArray) then (if r14.2 = 0 then ((types_Pointer.f k (⟨1, 0, ([] : List GType)⟩ : GType)).bind fun r63 => ((types_Same.f k r14.1 r63).bind fun r71 => (if r71 = true then (if r22.2 = 1 then ((types_Scalar.f k r14.1).bind fun r75 => (if r75 = true then ((swagelaw11_some.f k).bind fun r78 => ((types_Scalar.f k r78).bind fun r85 => (some (!r85)))) else (some false))) else (some false)) else (some false)))) else (some false)) else (some false)))) else (some false)) else (some false)) else (some false)))) else (some false))))))))
def swagelaw11_small.Post (I : Imm) (O : List Ent) (w : World) (r : Bool) (e : Ending) (w' : World) : Prop := e = .returned (.bool r) ∧ Ext I O w I O w'
set_option maxRecDepth 100000 in
set_option maxHeartbeats 1000000 in
theorem swagelaw11_small.calls (k : Nat) : ∀  (I : Imm) (w : World) (r : Bool), St I [] w → Tabs I → swagelaw11_small.f k = some r →
  Calls Tryd.prog 11 #[] w (swagelaw11_small.Post I [] w r) := by
  intro  I w r  hS hT H
  simp only [swagelaw11_small.f] at H
  refine enter Tryd.func11 rfl Tryd.ntmps11 (Nat.le_of_ble_eq_true rfl) hS ?_
  refine c_seq ?_
  refine g_plain ?_
  refine l_y (y_assign rfl rfl) rfl rfl (by decide) ?_
  refine l_nil ?_
  refine x_next ?_
  refine c_seq ?_
  refine g_plain ?_
  refine l_w rfl ?_
  obtain ⟨r1, hr1, H⟩ := Option.bind_eq_some_iff.1 H
  refine w_call (args := []) (caps := []) has61 rfl rfl rfl rfl (by decide) (fun a W F E => ?_)
  refine (swagelaw11_some.calls k I W r1 (E.st.sub (List.nil_sublist _)) hr1).mono ?_
  rintro e W' ⟨J6, A2, c3, rfl, X, hr4, hc5⟩
  have hl7 := X.le
  refine ⟨_, rfl, here (At.mk (F.put (by decide) _) (E.call0 X)) ?_⟩
  clear X E F W W' a
  refine l_w rfl ?_
  obtain ⟨r8, hr8, H⟩ := Option.bind_eq_some_iff.1 H
  refine w_call (args := [.agg #[.int .i64 r1.Kind, .int .i64 r1.Count, .slice A2 r1.Kids.length c3], .int .i64 2]) (caps := []) has17 rfl rfl rfl rfl (by decide) (fun a W F E => ?_)
  refine (types_Offset.calls k r1 2 A2 c3 J6 W r8 hr4 (by first | assumption | simp | omega) (E.st.sub (List.nil_sublist _)) hr8).mono ?_
  rintro e W' ⟨rfl, X⟩
  refine ⟨_, rfl, here (At.mk (F.put (by decide) _) (E.call0 X)) ?_⟩
  clear X E F W W' a
  refine l_y (y_move rfl rfl) rfl rfl (by decide) ?_
  refine l_y (y_extract rfl rfl rfl) rfl rfl (by decide) ?_
  refine l_y (y_extract rfl rfl rfl) rfl rfl (by decide) ?_
  refine l_y (y_assign rfl rfl) rfl rfl (by decide) ?_
  refine l_y (y_assign rfl rfl) rfl rfl (by decide) ?_
  refine l_nil ?_
  refine x_next ?_
  refine c_seq ?_
  refine g_plain ?_
  refine l_y (y_build [.int .i64 5, .string (⟨#[]⟩ : ByteArray), .int .i64 0, .slice none 0 0] st36 rfl rfl (by kernel_rfl)) rfl rfl (by decide) ?_
  refine l_w rfl ?_
  refine w_buildS (m := 4) [.int .i64 5, .string (⟨#[]⟩ : ByteArray), .int .i64 0, .slice none 0 0] Tryd.underlying34 ez36 rfl rfl (by kernel_rfl) (by kernel_rfl) rfl rfl (by decide) (fun β10 => ?_)
  refine s_freezeB (css := [[.int .i64 5, .string (⟨#[]⟩ : ByteArray), .int .i64 0, .slice none 0 0]]) (by_ := 56) R_Node.mono rfl (OwnR.cons (R_Node.of (⟨5, (⟨#[]⟩ : ByteArray), 0, ([] : List GNode)⟩ : GNode) none 0 (RowsG.nil _ _ _ _ _) (by first | assumption | simp | omega)) rfl (OwnR.nil _ _ _)) (by decide) (fun J11 hl12 hr13 => ?_)
  refine l_y (y_build [.int .i64 6, .string (⟨#[]⟩ : ByteArray), .int .i64 0, .slice (some ⟨β10, 0, none⟩) 1 1] st36 rfl rfl (by kernel_rfl)) rfl rfl (by decide) ?_
  refine l_w rfl ?_
  obtain ⟨r14, hr14, H⟩ := Option.bind_eq_some_iff.1 H
  refine w_call (args := [.agg #[.int .i64 6, .string (⟨#[]⟩ : ByteArray), .int .i64 0, .slice (some ⟨β10, 0, none⟩) 1 1]]) (caps := []) has29 rfl rfl rfl rfl (by decide) (fun a W F E => ?_)
  refine (types_Of.calls k (⟨6, (⟨#[]⟩ : ByteArray), 0, [(⟨5, (⟨#[]⟩ : ByteArray), 0, ([] : List GNode)⟩ : GNode)]⟩ : GNode) (some ⟨β10, 0, none⟩) 1 J11 W r14 hr13 (by first | assumption | simp | omega) (E.st.sub (List.nil_sublist _)) hr14).mono ?_
  rintro e W' ⟨J19, A15, c16, rfl, X, hr17, hc18⟩
  have hl20 := X.le
  refine ⟨_, rfl, here (At.mk (F.put (by decide) _) (E.call0 X)) ?_⟩
  clear X E F W W' a
  refine l_y (y_move rfl rfl) rfl rfl (by decide) ?_
  refine l_y (y_extract rfl rfl rfl) rfl rfl (by decide) ?_
  refine l_y (y_extract rfl rfl rfl) rfl rfl (by decide) ?_
  refine l_w rfl ?_
  refine w_alloc (cs := [.int .i64 0, .int .i64 0, .slice none 0 0]) (m := 3) zz24 rfl rfl rfl rfl (by decide) (fun β21 => ?_)
  refine l_w rfl ?_
  refine w_store0 (cs' := [.int .i64 r14.1.Kind, .int .i64 r14.1.Count, .slice A15 r14.1.Kids.length c16]) sz24 rfl rfl rfl rfl rfl (Nat.le_of_ble_eq_true rfl) rfl rfl ?_
  refine l_y (y_assign rfl rfl) rfl rfl (by decide) ?_
  refine l_nil ?_
  refine x_next ?_
  refine c_seq ?_
  refine g_plain ?_
  refine l_y (y_build [.int .i64 18, .string (⟨#[]⟩ : ByteArray), .int .i64 0, .slice none 0 0] st36 rfl rfl (by kernel_rfl)) rfl rfl (by decide) ?_
  refine l_w rfl ?_
  obtain ⟨r22, hr22, H⟩ := Option.bind_eq_some_iff.1 H
  refine w_call (args := [.agg #[.int .i64 18, .string (⟨#[]⟩ : ByteArray), .int .i64 0, .slice none 0 0]]) (caps := []) has29 rfl rfl rfl rfl (by decide) (fun a W F E => ?_)
  refine (types_Of.calls k (⟨18, (⟨#[]⟩ : ByteArray), 0, ([] : List GNode)⟩ : GNode) none 0 J19 W r22 (RowsG.nil _ _ _ _ _) (by first | assumption | simp | omega) (E.st.sub (List.nil_sublist _)) hr22).mono ?_
  rintro e W' ⟨J27, A23, c24, rfl, X, hr25, hc26⟩
  have hl28 := X.le
  refine ⟨_, rfl, here (At.mk (F.put (by decide) _) (E.call0 X)) ?_⟩
  clear X E F W W' a
  refine l_y (y_move rfl rfl) rfl rfl (by decide) ?_
  refine l_y (y_extract rfl rfl rfl) rfl rfl (by decide) ?_
  refine l_y (y_extract rfl rfl rfl) rfl rfl (by decide) ?_
  refine l_w rfl ?_
  refine w_alloc (cs := [.int .i64 0, .int .i64 0, .slice none 0 0]) (m := 3) zz24 rfl rfl rfl rfl (by decide) (fun β29 => ?_)
  refine l_w rfl ?_
  refine w_store0 (cs' := [.int .i64 r22.1.Kind, .int .i64 r22.1.Count, .slice A23 r22.1.Kids.length c24]) sz24 rfl rfl rfl rfl rfl (Nat.le_of_ble_eq_true rfl) rfl rfl ?_
  refine l_y (y_assign rfl rfl) rfl rfl (by decide) ?_
  refine l_nil ?_
  refine x_next ?_
  refine c_seq ?_
  refine d_start [.cells β29 24 [.int .i64 r22.1.Kind, .int .i64 r22.1.Count, .slice A23 r22.1.Kids.length c24] 3, .cells β21 24 [.int .i64 r14.1.Kind, .int .i64 r14.1.Count, .slice A15 r14.1.Kids.length c16] 3] [] (bits 43 0) mixed_ rfl (by kernel_rfl) (pick_mem (is := [0, 1]) ⟨rfl, rfl, trivial⟩) ?_
  refine d_one 0 (bits 43 1) rfl (by kernel_rfl) (by decide) (.none rfl) (fun K hK => ?_)
  obtain ⟨r30, hr30, H⟩ := Option.bind_eq_some_iff.1 H
  refine w_call (args := []) (caps := []) has61 rfl rfl rfl rfl (by decide) (fun a W F E => ?_)
  refine (swagelaw11_some.calls k J27 W r30 (E.st.sub (List.nil_sublist _)) hr30).mono ?_
  rintro e W' ⟨J35, A31, c32, rfl, X, hr33, hc34⟩
  have hl36 := X.le
  refine ⟨_, rfl, here (At.mk (F.put (by decide) _) (E.call0 X)) ?_⟩
  clear X E F W W' a
  refine d_k hK hl36 (pick_mem (is := [0, 1]) ⟨rfl, rfl, trivial⟩) ?_
  clear hK K
  refine d_one 1 (bits 43 3) rfl (by kernel_rfl) (by decide) (.none rfl) (fun K hK => ?_)
  obtain ⟨r37, hr37, H⟩ := Option.bind_eq_some_iff.1 H
  refine w_call (args := [.agg #[.int .i64 r30.Kind, .int .i64 r30.Count, .slice A31 r30.Kids.length c32]]) (caps := []) has19 rfl rfl rfl rfl (by decide) (fun a W F E => ?_)
  refine (types_Right.calls k r30 A31 c32 J35 W r37 hr33 (by first | assumption | simp | omega) (E.st.sub (List.nil_sublist _)) hr37).mono ?_
  rintro e W' ⟨rfl, X⟩
  refine ⟨_, rfl, here (At.mk (F.put (by decide) _) (E.call0 X)) ?_⟩
  clear X E F W W' a
  refine d_k hK hl36 (pick_mem (is := [0, 1]) ⟨rfl, rfl, trivial⟩) ?_
  clear hK K
  refine d_pure 2 (bits 43 7) (y_move rfl rfl) rfl rfl (by decide) (by kernel_rfl) (fun _ _ _ h => h) (.none rfl) ?_
  by_cases c39 : r37 = true
  · rw [if_pos c39] at H
    refine s_lit (t := 26) rfl c39 ?_
    refine d_one 3 (bits 43 15) rfl (by kernel_rfl) (by decide) (.on rfl rfl rfl rfl) (fun K hK => ?_)
    obtain ⟨r40, hr40, H⟩ := Option.bind_eq_some_iff.1 H
    refine w_call (args := []) (caps := []) has61 rfl rfl rfl rfl (by decide) (fun a W F E => ?_)
    refine (swagelaw11_some.calls k J35 W r40 (E.st.sub (List.nil_sublist _)) hr40).mono ?_
    rintro e W' ⟨J45, A41, c42, rfl, X, hr43, hc44⟩
    have hl46 := X.le
    refine ⟨_, rfl, here (At.mk (F.put (by decide) _) (E.call0 X)) ?_⟩
    clear X E F W W' a
    refine d_k hK (hl36.trans hl46) (pick_mem (is := [0, 1]) ⟨rfl, rfl, trivial⟩) ?_
    clear hK K
    refine d_one 4 (bits 43 31) rfl (by kernel_rfl) (by decide) (.on rfl rfl rfl rfl) (fun K hK => ?_)
    obtain ⟨r47, hr47, H⟩ := Option.bind_eq_some_iff.1 H
    refine w_call (args := [.agg #[.int .i64 r40.Kind, .int .i64 r40.Count, .slice A41 r40.Kids.length c42]]) (caps := []) has21 rfl rfl rfl rfl (by decide) (fun a W F E => ?_)
    refine (types_Size.calls k r40 A41 c42 J45 W r47 hr43 (by first | assumption | simp | omega) (E.st.sub (List.nil_sublist _)) hr47).mono ?_
    rintro e W' ⟨rfl, X⟩
    refine ⟨_, rfl, here (At.mk (F.put (by decide) _) (E.call0 X)) ?_⟩
    clear X E F W W' a
    refine d_k hK (hl36.trans hl46) (pick_mem (is := [0, 1]) ⟨rfl, rfl, trivial⟩) ?_
    clear hK K
    refine d_pure 5 (bits 43 63) (y_bin rfl rfl rfl bi_eq) rfl rfl (by decide) (by kernel_rfl) (fun _ _ _ h => h) (.on rfl rfl rfl rfl) ?_
    refine d_many (k' := 255) [(6, 127), (7, 255)] 35 rfl (by kernel_rfl) (fun _ _ _ _ _ h => h) ?_
    by_cases c49 : r47 = 5
    · rw [if_pos c49] at H
      refine s_lit (t := 31) rfl (decide_eq_true c49) ?_
      refine d_pure 8 (bits 43 511) (y_move rfl rfl) rfl rfl (by decide) (by kernel_rfl) (fun _ _ _ h => h) (.on rfl rfl rfl rfl) ?_
      refine d_pure 9 (bits 43 1023) (y_bin rfl rfl rfl bi_eq) rfl rfl (by decide) (by kernel_rfl) (fun _ _ _ h => h) (.on rfl rfl rfl rfl) ?_
      refine d_many (k' := 4095) [(10, 2047), (11, 4095)] 31 rfl (by kernel_rfl) (fun _ _ _ _ _ h => h) ?_
      by_cases c50 : r8.1 = 4
      · rw [if_pos c50] at H
        refine s_lit (t := 35) rfl (decide_eq_true c50) ?_
        refine d_pure 12 (bits 43 8191) (y_move rfl rfl) rfl rfl (by decide) (by kernel_rfl) (fun _ _ _ h => h) (.on rfl rfl rfl rfl) ?_
        refine d_many (k' := 32767) [(13, 16383), (14, 32767)] 28 rfl (by kernel_rfl) (fun _ _ _ _ _ h => h) ?_
        by_cases c51 : r8.2 = true
        · rw [if_pos c51] at H
          refine s_lit (t := 38) rfl c51 ?_
          refine d_one 15 (bits 43 65535) rfl (by kernel_rfl) (by decide) (.on rfl rfl rfl rfl) (fun K hK => ?_)
          obtain ⟨r52, hr52, H⟩ := Option.bind_eq_some_iff.1 H
          refine w_call (args := []) (caps := []) has61 rfl rfl rfl rfl (by decide) (fun a W F E => ?_)
          refine (swagelaw11_some.calls k J45 W r52 (E.st.sub (List.nil_sublist _)) hr52).mono ?_
          rintro e W' ⟨J57, A53, c54, rfl, X, hr55, hc56⟩
          have hl58 := X.le
          refine ⟨_, rfl, here (At.mk (F.put (by decide) _) (E.call0 X)) ?_⟩
          clear X E F W W' a
          refine d_k hK ((hl36.trans hl46).trans hl58) (pick_mem (is := [0, 1]) ⟨rfl, rfl, trivial⟩) ?_
          clear hK K
          refine d_one 16 (bits 43 131071) rfl (by kernel_rfl) (by decide) (.on rfl rfl rfl rfl) (fun K hK => ?_)
          obtain ⟨r59, hr59, H⟩ := Option.bind_eq_some_iff.1 H
          refine w_call (args := [.agg #[.int .i64 r52.Kind, .int .i64 r52.Count, .slice A53 r52.Kids.length c54]]) (caps := []) has26 rfl rfl rfl rfl (by decide) (fun a W F E => ?_)
          refine (types_Text.calls k r52 A53 c54 J57 W r59 hr55 (by first | assumption | simp | omega) (E.st.sub (List.nil_sublist _)) (hT.mono ((((((hl7.trans hl12).trans hl20).trans hl28).trans hl36).trans hl46).trans hl58)) hr59).mono ?_
          rintro e W' ⟨rfl, X⟩
          refine ⟨_, rfl, here (At.mk (F.put (by decide) _) (E.call0 X)) ?_⟩
          clear X E F W W' a
          refine d_k hK ((hl36.trans hl46).trans hl58) (pick_mem (is := [0, 1]) ⟨rfl, rfl, trivial⟩) ?_
          clear hK K
          refine d_pure 17 (bits 43 262143) (y_bin rfl rfl rfl bi_seq) rfl rfl (by decide) (by kernel_rfl) (fun _ _ _ h => h) (.on rfl rfl rfl rfl) ?_
          refine d_many (k' := 1048575) [(18, 524287), (19, 1048575)] 23 rfl (by kernel_rfl) (fun _ _ _ _ _ h => h) ?_
          by_cases c61 : r59 = (⟨#[40, 105, 110, 116, 44, 91, 51, 93, 42, 105, 110, 116, 44, 105, 110, 116, 41]⟩ : ByteArray)
          · rw [if_pos c61] at H
            refine s_lit (t := 43) rfl (decide_eq_true c61) ?_
            refine d_pure 20 (bits 43 2097151) (y_move rfl rfl) rfl rfl (by decide) (by kernel_rfl) (fun _ _ _ h => h) (.on rfl rfl rfl rfl) ?_
            refine d_pure 21 (bits 43 4194303) (y_bin rfl rfl rfl bi_eq) rfl rfl (by decide) (by kernel_rfl) (fun _ _ _ h => h) (.on rfl rfl rfl rfl) ?_
            refine d_many (k' := 16777215) [(22, 8388607), (23, 16777215)] 19 rfl (by kernel_rfl) (fun _ _ _ _ _ h => h) ?_
            by_cases c62 : r14.2 = 0
            · rw [if_pos c62] at H
              refine s_lit (t := 47) rfl (decide_eq_true c62) ?_
              refine d_take 24 (bits 43 33554431) (y_loadA (cs := [.int .i64 r14.1.Kind, .int .i64 r14.1.Count, .slice A15 r14.1.Kids.length c16]) ia24 rfl rfl rfl (cls_own (i := 1) rfl rfl)) rfl rfl (by decide) (by kernel_rfl) (fun _ _ _ h => h) (.on rfl rfl rfl rfl) ((hl36.trans hl46).trans hl58) (pick_mem (is := [0, 1]) ⟨rfl, rfl, trivial⟩) ?_
              refine d_pure 25 (bits 43 67108863) (y_build [.int .i64 1, .int .i64 0, .slice none 0 0] st24 rfl rfl (by kernel_rfl)) rfl rfl (by decide) (by kernel_rfl) (fun _ _ _ h => h) (.on rfl rfl rfl rfl) ?_
              refine d_one 26 (bits 43 134217727) rfl (by kernel_rfl) (by decide) (.on rfl rfl rfl rfl) (fun K hK => ?_)
              obtain ⟨r63, hr63, H⟩ := Option.bind_eq_some_iff.1 H
              refine w_call (args := [.agg #[.int .i64 1, .int .i64 0, .slice none 0 0]]) (caps := []) has15 rfl rfl rfl rfl (by decide) (fun a W F E => ?_)
              refine (types_Pointer.calls k (⟨1, 0, ([] : List GType)⟩ : GType) none 0 J57 W r63 (RowsG.nil _ _ _ _ _) (by first | assumption | simp | omega) (E.st.sub (List.nil_sublist _)) hr63).mono ?_
              rintro e W' ⟨J69, A64, c65, css66, rfl, X, hO67, hV68⟩
              have hl70 := X.le
              refine ⟨_, rfl, here (At.mk (F.put (by decide) _) (E.new1 X)) ?_⟩
              clear X E F W W' a
              refine d_k hK (((hl36.trans hl46).trans hl58).trans hl70) (pick_mem (is := [1, 2]) ⟨rfl, rfl, trivial⟩) ?_
              clear hK K
              refine d_one 27 (bits 43 268435455) rfl (by kernel_rfl) (by decide) (.on rfl rfl rfl rfl) (fun K hK => ?_)
              obtain ⟨r71, hr71, H⟩ := Option.bind_eq_some_iff.1 H
              refine w_call (args := [.agg #[.int .i64 r14.1.Kind, .int .i64 r14.1.Count, .slice A15 r14.1.Kids.length c16], .agg #[.int .i64 r63.Kind, .int .i64 r63.Count, .slice A64 r63.Kids.length c65]]) (caps := []) has23 rfl rfl rfl rfl (by decide) (fun a W F E => ?_)
              obtain ⟨K0_, hk0_, S0_, hq0_⟩ := St.lend (i := 0) (by_ := 40) rfl R_Type.mono hO67 hV68 E.st
              have hk_1 := hk0_
              have hk_ := hk_1
              refine (types_Same.calls k r14.1 r63 A15 c16 A64 c65 K0_ W r71 ((hr17.mono R_Type.mono ((((hl28.trans hl36).trans hl46).trans hl58).trans hl70)).mono R_Type.mono hk_) (by first | assumption | simp | omega) hq0_ hV68.le (S0_.sub (List.nil_sublist _)) hr71).mono ?_
              rintro e W' ⟨rfl, X⟩
              replace X := X.less hk_
              refine ⟨_, rfl, here (At.mk (F.put (by decide) _) (E.call0 X)) ?_⟩
              clear X S0_ hq0_ E F W W' a
              refine d_k hK (((hl36.trans hl46).trans hl58).trans hl70) (pick_mem (is := [1, 2]) ⟨rfl, rfl, trivial⟩) ?_
              clear hK K
              refine d_many (k' := 1073741823) [(28, 536870911), (29, 1073741823)] 13 rfl (by kernel_rfl) (fun _ _ _ _ _ h => h) ?_
              by_cases c73 : r71 = true
              · rw [if_pos c73] at H
                refine s_lit (t := 53) rfl c73 ?_
                refine d_pure 30 (bits 43 2147483647) (y_move rfl rfl) rfl rfl (by decide) (by kernel_rfl) (fun _ _ _ h => h) (.on rfl rfl rfl rfl) ?_
                refine d_pure 31 (bits 43 4294967295) (y_bin rfl rfl rfl bi_eq) rfl rfl (by decide) (by kernel_rfl) (fun _ _ _ h => h) (.on rfl rfl rfl rfl) ?_
                refine d_many (k' := 17179869183) [(32, 8589934591), (33, 17179869183)] 9 rfl (by kernel_rfl) (fun _ _ _ _ _ h => h) ?_
                by_cases c74 : r22.2 = 1
                · rw [if_pos c74] at H
                  refine s_lit (t := 57) rfl (decide_eq_true c74) ?_
                  refine d_take 34 (bits 43 34359738367) (y_loadA (cs := [.int .i64 r14.1.Kind, .int .i64 r14.1.Count, .slice A15 r14.1.Kids.length c16]) ia24 rfl rfl rfl (cls_own (i := 1) rfl rfl)) rfl rfl (by decide) (by kernel_rfl) (fun _ _ _ h => h) (.on rfl rfl rfl rfl) (((hl36.trans hl46).trans hl58).trans hl70) (pick_mem (is := [1, 2]) ⟨rfl, rfl, trivial⟩) ?_
                  refine d_one 35 (bits 43 68719476735) rfl (by kernel_rfl) (by decide) (.on rfl rfl rfl rfl) (fun K hK => ?_)
                  obtain ⟨r75, hr75, H⟩ := Option.bind_eq_some_iff.1 H
                  refine w_call (args := [.agg #[.int .i64 r14.1.Kind, .int .i64 r14.1.Count, .slice A15 r14.1.Kids.length c16]]) (caps := []) has24 rfl rfl rfl rfl (by decide) (fun a W F E => ?_)
                  refine (types_Scalar.calls k r14.1 A15 c16 J69 W r75 (hr17.mono R_Type.mono ((((hl28.trans hl36).trans hl46).trans hl58).trans hl70)) (by first | assumption | simp | omega) (E.st.sub (List.nil_sublist _)) hr75).mono ?_
                  rintro e W' ⟨rfl, X⟩
                  refine ⟨_, rfl, here (At.mk (F.put (by decide) _) (E.call0 X)) ?_⟩
                  clear X E F W W' a
                  refine d_k hK (((hl36.trans hl46).trans hl58).trans hl70) (pick_mem (is := [1, 2]) ⟨rfl, rfl, trivial⟩) ?_
                  clear hK K
                  refine d_many (k' := 274877906943) [(36, 137438953471), (37, 274877906943)] 5 rfl (by kernel_rfl) (fun _ _ _ _ _ h => h) ?_
                  by_cases c77 : r75 = true
                  · rw [if_pos c77] at H
                    refine s_lit (t := 61) rfl c77 ?_
                    refine d_one 38 (bits 43 549755813887) rfl (by kernel_rfl) (by decide) (.on rfl rfl rfl rfl) (fun K hK => ?_)
                    obtain ⟨r78, hr78, H⟩ := Option.bind_eq_some_iff.1 H
                    refine w_call (args := []) (caps := []) has61 rfl rfl rfl rfl (by decide) (fun a W F E => ?_)
                    refine (swagelaw11_some.calls k J69 W r78 (E.st.sub (List.nil_sublist _)) hr78).mono ?_
                    rintro e W' ⟨J83, A79, c80, rfl, X, hr81, hc82⟩
                    have hl84 := X.le
                    refine ⟨_, rfl, here (At.mk (F.put (by decide) _) (E.call0 X)) ?_⟩
                    clear X E F W W' a
                    refine d_k hK ((((hl36.trans hl46).trans hl58).trans hl70).trans hl84) (pick_mem (is := [1, 2]) ⟨rfl, rfl, trivial⟩) ?_
                    clear hK K
                    refine d_one 39 (bits 43 1099511627775) rfl (by kernel_rfl) (by decide) (.on rfl rfl rfl rfl) (fun K hK => ?_)
                    obtain ⟨r85, hr85, H⟩ := Option.bind_eq_some_iff.1 H
                    refine w_call (args := [.agg #[.int .i64 r78.Kind, .int .i64 r78.Count, .slice A79 r78.Kids.length c80]]) (caps := []) has24 rfl rfl rfl rfl (by decide) (fun a W F E => ?_)
                    refine (types_Scalar.calls k r78 A79 c80 J83 W r85 hr81 (by first | assumption | simp | omega) (E.st.sub (List.nil_sublist _)) hr85).mono ?_
                    rintro e W' ⟨rfl, X⟩
                    refine ⟨_, rfl, here (At.mk (F.put (by decide) _) (E.call0 X)) ?_⟩
                    clear X E F W W' a
                    refine d_k hK ((((hl36.trans hl46).trans hl58).trans hl70).trans hl84) (pick_mem (is := [1, 2]) ⟨rfl, rfl, trivial⟩) ?_
                    clear hK K
                    refine d_pure 40 (bits 43 2199023255551) (y_not rfl rfl) rfl rfl (by decide) (by kernel_rfl) (fun _ _ _ h => h) (.on rfl rfl rfl rfl) ?_
                    refine d_many (k' := 8796093022207) [(41, 4398046511103), (42, 8796093022207)] 0 rfl (by kernel_rfl) (fun _ _ _ _ _ h => h) ?_
                    refine d_done (by kernel_rfl) ?_
                    refine x_next ?_
                    refine c_ret ?_
                    obtain rfl := Option.some.inj H
                    exact g_ret [.bool (!r85)] (congrArg Array.toList Tryd.results11) (.cons (.t rfl) .nil) (fun W E => ⟨rfl, (E.drop (List.nil_sublist _)).back⟩)
                  · rw [if_neg c77] at H
                    refine s_lit (t := 61) rfl (Bool.eq_false_iff.2 c77) ?_
                    refine d_off 38 (bits 43 549755813887) rfl rfl (by decide) (by kernel_rfl) (fun _ _ _ h => h) (.off rfl rfl rfl rfl rfl) ?_
                    refine d_many (k' := 8796093022207) [(39, 1099511627775), (40, 2199023255551), (41, 4398046511103), (42, 8796093022207)] 0 rfl (by kernel_rfl) (fun _ _ _ _ _ h => h) ?_
                    refine d_done (by kernel_rfl) ?_
                    refine x_next ?_
                    refine c_ret ?_
                    obtain rfl := Option.some.inj H
                    exact g_ret [.bool false] (congrArg Array.toList Tryd.results11) (.cons (.t rfl) .nil) (fun W E => ⟨rfl, (E.drop (List.nil_sublist _)).back⟩)
                · rw [if_neg c74] at H
                  refine s_lit (t := 57) rfl (decide_eq_false c74) ?_
                  refine d_off 34 (bits 43 34359738367) rfl rfl (by decide) (by kernel_rfl) (fun _ _ _ h => h) (.off rfl rfl rfl rfl rfl) ?_
                  refine d_many (k' := 8796093022207) [(35, 68719476735), (36, 137438953471), (37, 274877906943), (38, 549755813887), (39, 1099511627775), (40, 2199023255551), (41, 4398046511103), (42, 8796093022207)] 0 rfl (by kernel_rfl) (fun _ _ _ _ _ h => h) ?_
                  refine d_done (by kernel_rfl) ?_
                  refine x_next ?_
                  refine c_ret ?_
                  obtain rfl := Option.some.inj H
                  exact g_ret [.bool false] (congrArg Array.toList Tryd.results11) (.cons (.t rfl) .nil) (fun W E => ⟨rfl, (E.drop (List.nil_sublist _)).back⟩)
              · rw [if_neg c73] at H
                refine s_lit (t := 53) rfl (Bool.eq_false_iff.2 c73) ?_
                refine d_off 30 (bits 43 2147483647) rfl rfl (by decide) (by kernel_rfl) (fun _ _ _ h => h) (.off rfl rfl rfl rfl rfl) ?_
                refine d_many (k' := 8796093022207) [(31, 4294967295), (32, 8589934591), (33, 17179869183), (34, 34359738367), (35, 68719476735), (36, 137438953471), (37, 274877906943), (38, 549755813887), (39, 1099511627775), (40, 2199023255551), (41, 4398046511103), (42, 8796093022207)] 0 rfl (by kernel_rfl) (fun _ _ _ _ _ h => h) ?_
                refine d_done (by kernel_rfl) ?_
                refine x_next ?_
                refine c_ret ?_
                obtain rfl := Option.some.inj H
                exact g_ret [.bool false] (congrArg Array.toList Tryd.results11) (.cons (.t rfl) .nil) (fun W E => ⟨rfl, (E.drop (List.nil_sublist _)).back⟩)
            · rw [if_neg c62] at H
              refine s_lit (t := 47) rfl (decide_eq_false c62) ?_
              refine d_off 24 (bits 43 33554431) rfl rfl (by decide) (by kernel_rfl) (fun _ _ _ h => h) (.off rfl rfl rfl rfl rfl) ?_
              refine d_many (k' := 8796093022207) [(25, 67108863), (26, 134217727), (27, 268435455), (28, 536870911), (29, 1073741823), (30, 2147483647), (31, 4294967295), (32, 8589934591), (33, 17179869183), (34, 34359738367), (35, 68719476735), (36, 137438953471), (37, 274877906943), (38, 549755813887), (39, 1099511627775), (40, 2199023255551), (41, 4398046511103), (42, 8796093022207)] 0 rfl (by kernel_rfl) (fun _ _ _ _ _ h => h) ?_
              refine d_done (by kernel_rfl) ?_
              refine x_next ?_
              refine c_ret ?_
              obtain rfl := Option.some.inj H
              exact g_ret [.bool false] (congrArg Array.toList Tryd.results11) (.cons (.t rfl) .nil) (fun W E => ⟨rfl, (E.drop (List.nil_sublist _)).back⟩)
          · rw [if_neg c61] at H
            refine s_lit (t := 43) rfl (decide_eq_false c61) ?_
            refine d_off 20 (bits 43 2097151) rfl rfl (by decide) (by kernel_rfl) (fun _ _ _ h => h) (.off rfl rfl rfl rfl rfl) ?_
            refine d_many (k' := 8796093022207) [(21, 4194303), (22, 8388607), (23, 16777215), (24, 33554431), (25, 67108863), (26, 134217727), (27, 268435455), (28, 536870911), (29, 1073741823), (30, 2147483647), (31, 4294967295), (32, 8589934591), (33, 17179869183), (34, 34359738367), (35, 68719476735), (36, 137438953471), (37, 274877906943), (38, 549755813887), (39, 1099511627775), (40, 2199023255551), (41, 4398046511103), (42, 8796093022207)] 0 rfl (by kernel_rfl) (fun _ _ _ _ _ h => h) ?_
            refine d_done (by kernel_rfl) ?_
            refine x_next ?_
            refine c_ret ?_
            obtain rfl := Option.some.inj H
            exact g_ret [.bool false] (congrArg Array.toList Tryd.results11) (.cons (.t rfl) .nil) (fun W E => ⟨rfl, (E.drop (List.nil_sublist _)).back⟩)
        · rw [if_neg c51] at H
          refine s_lit (t := 38) rfl (Bool.eq_false_iff.2 c51) ?_
          refine d_off 15 (bits 43 65535) rfl rfl (by decide) (by kernel_rfl) (fun _ _ _ h => h) (.off rfl rfl rfl rfl rfl) ?_
          refine d_many (k' := 8796093022207) [(16, 131071), (17, 262143), (18, 524287), (19, 1048575), (20, 2097151), (21, 4194303), (22, 8388607), (23, 16777215), (24, 33554431), (25, 67108863), (26, 134217727), (27, 268435455), (28, 536870911), (29, 1073741823), (30, 2147483647), (31, 4294967295), (32, 8589934591), (33, 17179869183), (34, 34359738367), (35, 68719476735), (36, 137438953471), (37, 274877906943), (38, 549755813887), (39, 1099511627775), (40, 2199023255551), (41, 4398046511103), (42, 8796093022207)] 0 rfl (by kernel_rfl) (fun _ _ _ _ _ h => h) ?_
          refine d_done (by kernel_rfl) ?_
          refine x_next ?_
          refine c_ret ?_
          obtain rfl := Option.some.inj H
          exact g_ret [.bool false] (congrArg Array.toList Tryd.results11) (.cons (.t rfl) .nil) (fun W E => ⟨rfl, (E.drop (List.nil_sublist _)).back⟩)
      · rw [if_neg c50] at H
        refine s_lit (t := 35) rfl (decide_eq_false c50) ?_
        refine d_off 12 (bits 43 8191) rfl rfl (by decide) (by kernel_rfl) (fun _ _ _ h => h) (.off rfl rfl rfl rfl rfl) ?_
        refine d_many (k' := 8796093022207) [(13, 16383), (14, 32767), (15, 65535), (16, 131071), (17, 262143), (18, 524287), (19, 1048575), (20, 2097151), (21, 4194303), (22, 8388607), (23, 16777215), (24, 33554431), (25, 67108863), (26, 134217727), (27, 268435455), (28, 536870911), (29, 1073741823), (30, 2147483647), (31, 4294967295), (32, 8589934591), (33, 17179869183), (34, 34359738367), (35, 68719476735), (36, 137438953471), (37, 274877906943), (38, 549755813887), (39, 1099511627775), (40, 2199023255551), (41, 4398046511103), (42, 8796093022207)] 0 rfl (by kernel_rfl) (fun _ _ _ _ _ h => h) ?_
        refine d_done (by kernel_rfl) ?_
        refine x_next ?_
        refine c_ret ?_
        obtain rfl := Option.some.inj H
        exact g_ret [.bool false] (congrArg Array.toList Tryd.results11) (.cons (.t rfl) .nil) (fun W E => ⟨rfl, (E.drop (List.nil_sublist _)).back⟩)
    · rw [if_neg c49] at H
      refine s_lit (t := 31) rfl (decide_eq_false c49) ?_
      refine d_off 8 (bits 43 511) rfl rfl (by decide) (by kernel_rfl) (fun _ _ _ h => h) (.off rfl rfl rfl rfl rfl) ?_
      refine d_many (k' := 8796093022207) [(9, 1023), (10, 2047), (11, 4095), (12, 8191), (13, 16383), (14, 32767), (15, 65535), (16, 131071), (17, 262143), (18, 524287), (19, 1048575), (20, 2097151), (21, 4194303), (22, 8388607), (23, 16777215), (24, 33554431), (25, 67108863), (26, 134217727), (27, 268435455), (28, 536870911), (29, 1073741823), (30, 2147483647), (31, 4294967295), (32, 8589934591), (33, 17179869183), (34, 34359738367), (35, 68719476735), (36, 137438953471), (37, 274877906943), (38, 549755813887), (39, 1099511627775), (40, 2199023255551), (41, 4398046511103), (42, 8796093022207)] 0 rfl (by kernel_rfl) (fun _ _ _ _ _ h => h) ?_
      refine d_done (by kernel_rfl) ?_
      refine x_next ?_
      refine c_ret ?_
      obtain rfl := Option.some.inj H
      exact g_ret [.bool false] (congrArg Array.toList Tryd.results11) (.cons (.t rfl) .nil) (fun W E => ⟨rfl, (E.drop (List.nil_sublist _)).back⟩)
  · rw [if_neg c39] at H
    refine s_lit (t := 26) rfl (Bool.eq_false_iff.2 c39) ?_
    refine d_off 3 (bits 43 15) rfl rfl (by decide) (by kernel_rfl) (fun _ _ _ h => h) (.off rfl rfl rfl rfl rfl) ?_
    refine d_many (k' := 8796093022207) [(4, 31), (5, 63), (6, 127), (7, 255), (8, 511), (9, 1023), (10, 2047), (11, 4095), (12, 8191), (13, 16383), (14, 32767), (15, 65535), (16, 131071), (17, 262143), (18, 524287), (19, 1048575), (20, 2097151), (21, 4194303), (22, 8388607), (23, 16777215), (24, 33554431), (25, 67108863), (26, 134217727), (27, 268435455), (28, 536870911), (29, 1073741823), (30, 2147483647), (31, 4294967295), (32, 8589934591), (33, 17179869183), (34, 34359738367), (35, 68719476735), (36, 137438953471), (37, 274877906943), (38, 549755813887), (39, 1099511627775), (40, 2199023255551), (41, 4398046511103), (42, 8796093022207)] 0 rfl (by kernel_rfl) (fun _ _ _ _ _ h => h) ?_
    refine d_done (by kernel_rfl) ?_
    refine x_next ?_
    refine c_ret ?_
    obtain rfl := Option.some.inj H
    exact g_ret [.bool false] (congrArg Array.toList Tryd.results11) (.cons (.t rfl) .nil) (fun W E => ⟨rfl, (E.drop (List.nil_sublist _)).back⟩)
end Go.Proofs.YtoafojcfledkcaaDoor
