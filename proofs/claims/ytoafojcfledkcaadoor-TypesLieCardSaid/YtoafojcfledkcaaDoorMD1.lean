/- Models and walks. -/
import Derived.Test.YtoafojcfledkcaaDoorMD
import Derived.Test.YtoafojcfledkcaaDoorExt
namespace Go.Proofs.YtoafojcfledkcaaDoor
open Go.RowKit
set_option linter.all false
mutual
def swageref11_Copy.l0 : Nat → Int → (List GType) → GType → Option GType
  | 0, _, _, _ => none
  | k + 1, x10, x11, a0 => (if x10 < (a0.Kids.length : Int) then (if 0 ≤ x10 ∧ x10 < (a0.Kids.length : Int) then ((swageref11_Copy.f k (rd a0.Kids x10)).bind fun r28 => (if (x11.length + 1) * 40 ≤ 140737488351232 then ((some (x11 ++ [r28] : List GType)).bind fun l37 => (swageref11_Copy.l0 k (IntKind.i64.wrap (x10 + 1)) l37 a0)) else none)) else none) else (some (⟨a0.Kind, a0.Count, x11⟩ : GType)))
def swageref11_Copy.f : Nat → GType → Option GType
  | 0, _ => none
  | k + 1, a0 => (swageref11_Copy.l0 k 0 [] a0)
end
def swageref11_Copy.Post (I : Imm) (O : List Ent) (w : World) (r : GType) (e : Ending) (w' : World) : Prop := ∃ (J : Imm) (A1 : Option Addr) (c1 : Nat), e = .returned (.agg #[.int .i64 r.Kind, .int .i64 r.Count, .slice A1 r.Kids.length c1]) ∧ Ext I O w J O w' ∧ RowsG R_Type 3 40 J A1 r.Kids ∧ r.Kids.length ≤ c1
set_option maxRecDepth 100000 in
set_option maxHeartbeats 1000000 in
theorem swageref11_Copy.calls (k : Nat) : ∀ (a0 : GType) (A1 : Option Addr) (c2 : Nat) (I : Imm) (w : World) (r : GType) (hr3 : RowsG R_Type 3 40 I A1 a0.Kids) (hc4 : a0.Kids.length ≤ c2), St I [] w → swageref11_Copy.f k a0 = some r →
  Calls Tryd.prog 13 #[.agg #[.int .i64 a0.Kind, .int .i64 a0.Count, .slice A1 a0.Kids.length c2]] w (swageref11_Copy.Post I [] w r) := by
  induction k using Nat.strongRecOn with
  | _ k ih =>
  intro a0 A1 c2 I w r hr3 hc4 hS H
  have nhr3 := hr3.len
  cases k with
  | zero => exact absurd H (by simp [swageref11_Copy.f])
  | succ k =>
    simp only [swageref11_Copy.f] at H
    refine enter Tryd.func13 rfl Tryd.ntmps13 (Nat.le_of_ble_eq_true rfl) hS ?_
    refine c_seq ?_
    refine g_plain ?_
    refine l_w rfl ?_
    refine w_box (cs := [.int .i64 a0.Kind, .int .i64 a0.Count, .slice A1 a0.Kids.length c2]) (m := 3) rfl rfl rfl rfl rfl (by decide) (fun β5 => ?_)
    refine l_w rfl ?_
    refine w_alloc (cs := [.int .i64 0, .int .i64 0, .slice none 0 0]) (m := 3) zz24 rfl rfl rfl rfl (by decide) (fun β6 => ?_)
    refine l_nil ?_
    refine x_next ?_
    refine c_seq ?_
    refine g_plain ?_
    refine l_y (y_field (j' := 0) fa24_0 rfl rfl rfl) rfl rfl (by decide) ?_
    refine l_y (y_load is3 rfl rfl (cl_own (i := 1) (j := 0) rfl rfl)) rfl rfl (by decide) ?_
    refine l_y (y_field (j' := 1) fa24_1 rfl rfl rfl) rfl rfl (by decide) ?_
    refine l_y (y_load is3 rfl rfl (cl_own (i := 1) (j := 1) rfl rfl)) rfl rfl (by decide) ?_
    refine l_y (y_build [.int .i64 a0.Kind, .int .i64 a0.Count, .slice none 0 0] st24 rfl rfl (by kernel_rfl)) rfl rfl (by decide) ?_
    refine l_w rfl ?_
    refine w_alloc (cs := [.int .i64 0, .int .i64 0, .slice none 0 0]) (m := 3) zz24 rfl rfl rfl rfl (by decide) (fun β7 => ?_)
    refine l_w rfl ?_
    refine w_store0 (cs' := [.int .i64 a0.Kind, .int .i64 a0.Count, .slice none 0 0]) sz24 rfl rfl rfl rfl rfl (Nat.le_of_ble_eq_true rfl) rfl rfl ?_
    refine l_nil ?_
    refine x_next ?_
    refine c_seq ?_
    refine c_seq ?_
    refine g_plain ?_
    refine l_y (y_assign rfl rfl) rfl rfl (by decide) ?_
    refine l_nil ?_
    refine x_next ?_
    refine c_block ?_
    refine s_nil (e := 24) (sz := 3) ?_
    refine s_perm pf3 ?_
    refine s_perm pf3 ?_
    refine s_perm pf3 ?_
    refine s_perm pf3 ?_
    refine c_loop (fun kq a W => ∃ (J8 : Imm) (x10 : Int) (x11 : List GType) (A12 : Option Addr) (cp13 : Nat) (css14 : List (List Value)), swageref11_Copy.l0 kq x10 x11 a0 = some r ∧ kq ≤ k ∧ Imm.le I J8 ∧ OwnR R_Type 3 J8 x11 css14 ∧ OV 40 A12 x11.length cp13 ∧ At 29 [] [(1, .pointer (some ⟨β5, 0, none⟩)), (2, .pointer (some ⟨β6, 0, none⟩)), (3, .pointer (some ⟨β7, 0, none⟩)), (4, .int .i64 x10)] I [] w J8 [.row A12 24 (List.flatten css14) (cp13 * 3), .cells β7 24 [.int .i64 a0.Kind, .int .i64 a0.Count, .slice A12 x11.length cp13] 3, .cells β6 24 [.int .i64 0, .int .i64 0, .slice none 0 0] 3, .cells β5 24 [.int .i64 a0.Kind, .int .i64 a0.Count, .slice A1 a0.Kids.length c2] 3] a W) k (fun a W hA => ⟨_, 0, [], none, 0, [], H, (Nat.le_refl _), (Imm.rfl' _), (OwnR.nil R_Type _ _), (OV.none 40), ⟨hA.fits.only ⟨rfl, rfl, rfl, rfl, trivial⟩, hA.ext⟩⟩) ?_
    clear H
    rintro kq a W ⟨J8, x10, x11, A12, cp13, css14, H, hk, hl9, hO16, hV15, hA⟩
    refine here hA ?_
    clear hA a W
    cases kq with
    | zero => exact absurd H (by simp [swageref11_Copy.l0])
    | succ k0 =>
      simp only [swageref11_Copy.l0] at H
      refine c_seq ?_
      refine c_seq ?_
      refine g_plain ?_
      refine l_y (y_move rfl rfl) rfl rfl (by decide) ?_
      refine l_y (y_field (j' := 2) fa24_2 rfl rfl rfl) rfl rfl (by decide) ?_
      refine l_y (y_load is22 rfl rfl (cl_own (i := 3) (j := 2) rfl rfl)) rfl rfl (by decide) ?_
      refine l_y (y_len Tryd.underlying22 rfl rfl) rfl rfl (by decide) ?_
      refine l_y (y_bin rfl rfl rfl bi_lt) rfl rfl (by decide) ?_
      refine l_nil ?_
      refine x_next ?_
      by_cases c17 : x10 < (a0.Kids.length : Int)
      · rw [if_pos c17] at H
        refine s_lit (t := 14) rfl (decide_eq_true c17) ?_
        refine c_true rfl ?_
        refine c_skip ?_
        refine x_next ?_
        refine c_seq ?_
        refine c_block ?_
        refine d_start [.cells β7 24 [.int .i64 a0.Kind, .int .i64 a0.Count, .slice A12 x11.length cp13] 3, .cells β6 24 [.int .i64 0, .int .i64 0, .slice none 0 0] 3, .cells β5 24 [.int .i64 a0.Kind, .int .i64 a0.Count, .slice A1 a0.Kids.length c2] 3] [11] (bits 12 0) mixed_ rfl (by kernel_rfl) (pick_mem (is := [1, 2, 3]) ⟨rfl, rfl, rfl, trivial⟩) ?_
        refine d_pure 0 (bits 12 1) (y_field (j' := 2) fa24_2 rfl rfl rfl) rfl rfl (by decide) (by kernel_rfl) (fun _ _ _ h => h) (.none rfl) ?_
        refine d_take 1 (bits 12 3) (y_load is22 rfl rfl (cl_own (i := 0) (j := 2) rfl rfl)) rfl rfl (by decide) (by kernel_rfl) (fun _ _ _ h => h) (.none rfl) (Imm.rfl' _) (pick_mem (is := [1, 2, 3]) ⟨rfl, rfl, rfl, trivial⟩) ?_
        refine d_pure 2 (bits 12 7) (y_field (j' := 2) fa24_2 rfl rfl rfl) rfl rfl (by decide) (by kernel_rfl) (fun _ _ _ h => h) (.none rfl) ?_
        refine d_take 3 (bits 12 15) (y_load is22 rfl rfl (cl_own (i := 2) (j := 2) rfl rfl)) rfl rfl (by decide) (by kernel_rfl) (fun _ _ _ h => h) (.none rfl) (Imm.rfl' _) (pick_mem (is := [1, 2, 3]) ⟨rfl, rfl, rfl, trivial⟩) ?_
        refine d_pure 4 (bits 12 31) (y_move rfl rfl) rfl rfl (by decide) (by kernel_rfl) (fun _ _ _ h => h) (.none rfl) ?_
        by_cases c18 : 0 ≤ x10 ∧ x10 < (a0.Kids.length : Int)
        rotate_left
        · rw [if_neg c18] at H; exact absurd H (by simp)
        rw [if_pos c18] at H
        obtain ⟨b19, o20, hA_, hE21⟩ := hr3.elem (by omega)
        obtain rfl := hA_
        obtain ⟨cs24, hR25, hC26⟩ := hE21 x10 c18.1 c18.2
        obtain ⟨A22, c23, rfl, hr27, chr27⟩ := hR25.open
        refine d_pure 5 (bits 12 63) (y_index sl22 rfl rfl rfl c18.1 c18.2) rfl rfl (by decide) (by kernel_rfl) (fun _ _ _ h => h) (.none rfl) ?_
        refine d_take 6 (bits 12 127) (y_loadA (cs := [.int .i64 ((rd a0.Kids x10).Kind), .int .i64 ((rd a0.Kids x10).Count), .slice A22 (((rd a0.Kids x10).Kids).length) c23]) ia24 rfl rfl rfl (hC26.mono hl9).cls) rfl rfl (by decide) (by kernel_rfl) (fun _ _ _ h => h) (.none rfl) (Imm.rfl' _) (pick_mem (is := [1, 2, 3]) ⟨rfl, rfl, rfl, trivial⟩) ?_
        refine d_one 7 (bits 12 255) rfl (by kernel_rfl) (by decide) (.none rfl) (fun K hK => ?_)
        obtain ⟨r28, hr28, H⟩ := Option.bind_eq_some_iff.1 H
        refine w_call (args := [.agg #[.int .i64 ((rd a0.Kids x10).Kind), .int .i64 ((rd a0.Kids x10).Count), .slice A22 (((rd a0.Kids x10).Kids).length) c23]]) (caps := []) has13 rfl rfl rfl rfl (by decide) (fun a W F E => ?_)
        refine ((ih k0 (by omega)) (rd a0.Kids x10) A22 c23 J8 W r28 (hr27.mono R_Type.mono hl9) (by first | assumption | simp | omega) (E.st.sub (List.nil_sublist _)) hr28).mono ?_
        rintro e W' ⟨J33, A29, c30, rfl, X, hr31, hc32⟩
        have hl34 := X.le
        refine ⟨_, rfl, here (At.mk (F.put (by decide) _) (E.call0 X)) ?_⟩
        clear X E F W W' a
        refine d_k hK hl34 (pick_mem (is := [1, 2, 3]) ⟨rfl, rfl, rfl, trivial⟩) ?_
        clear hK K
        refine d_one 8 (bits 12 511) rfl (by kernel_rfl) (by decide) (.none rfl) (fun K hK => ?_)
        refine w_buildS (m := 3) [.int .i64 r28.Kind, .int .i64 r28.Count, .slice A29 r28.Kids.length c30] Tryd.underlying22 ez24 rfl rfl (by kernel_rfl) (by kernel_rfl) rfl rfl (by decide) (fun β35 => ?_)
        refine d_k hK hl34 (pick_mem (is := [2, 3, 4]) ⟨rfl, rfl, rfl, trivial⟩) ?_
        clear hK K
        by_cases c36 : (x11.length + 1) * 40 ≤ 140737488351232
        rotate_left
        · rw [if_neg c36] at H; exact absurd H (by simp)
        rw [if_pos c36] at H
        refine d_one 9 (bits 12 1023) rfl (by kernel_rfl) (by decide) (.none rfl) (fun K hK => ?_)
        obtain ⟨l37, hl37, H⟩ := Option.bind_eq_some_iff.1 H
        have hl37 := Option.some.inj hl37
        refine w_append1 (by_ := 40) (css := css14) (cys := [[.int .i64 r28.Kind, .int .i64 r28.Count, .slice A29 r28.Kids.length c30]]) (ys := [r28]) Tryd.underlying22 el24 rfl (by decide) (by decide) rfl rfl (hO16.mono R_Type.mono hl34) hV15 rfl (cls_own (i := 0) rfl rfl) (OwnR.cons (R_Type.of r28 A29 c30 hr31 (by first | assumption | simp | omega)) rfl (OwnR.nil _ _ _)) rfl (by decide) (by simp [Value.oneCell']) (by first | assumption | (simp; omega) | omega) l37 hl37 rfl (by decide) (fun g38 cp39 css40 hV41 hO42 => ?_)
        refine d_k hK hl34 (pick_mem (is := [2, 3, 4]) ⟨rfl, rfl, rfl, trivial⟩) ?_
        clear hK K
        refine d_pure 10 (bits 12 2047) (y_field (j' := 2) fa24_2 rfl rfl rfl) rfl rfl (by decide) (by kernel_rfl) (fun _ _ _ h => h) (.none rfl) ?_
        refine d_last 11 (bits 12 4095) rfl (by kernel_rfl) (by decide) (.none rfl) (fun K hK => ?_)
        refine w_store2 (cs' := [.int .i64 a0.Kind, .int .i64 a0.Count, .slice (some ⟨g38, 0, none⟩) l37.length cp39]) sz22 rfl rfl rfl rfl rfl (Nat.le_of_ble_eq_true rfl) rfl rfl ?_
        refine d_kl hK ?_
        clear hK K
        refine d_done (by kernel_rfl) ?_
        refine x_norm ?_
        refine x_next ?_
        refine g_plain ?_
        refine l_y (y_move rfl rfl) rfl rfl (by decide) ?_
        refine l_y (y_bin rfl rfl rfl bi_add) rfl rfl (by decide) ?_
        refine l_y (y_assign rfl rfl) rfl rfl (by decide) ?_
        refine l_nil ?_
        refine s_perm pf4 ?_
        refine s_perm pf4 ?_
        refine s_perm pf4 ?_
        refine s_perm pf4 ?_
        refine s_drop ((.cons_cons _ (.cons_cons _ (.cons_cons _ (.cons_cons _ (List.nil_sublist _)))))) ?_
        exact fun a W hA => ⟨k0, by omega, _, (IntKind.i64.wrap (x10 + 1)), l37, (some ⟨g38, 0, none⟩), cp39, css40, H, (by omega), (hl9.trans hl34), hO42, hV41, ⟨hA.fits.only ⟨rfl, rfl, rfl, rfl, trivial⟩, hA.ext⟩⟩
      · rw [if_neg c17] at H
        refine s_lit (t := 14) rfl (decide_eq_false c17) ?_
        refine c_false rfl ?_
        refine c_exit ?_
        refine x_then rfl ?_
        refine x_then rfl ?_
        refine x_in ?_
        refine x_next ?_
        refine c_seq ?_
        refine g_plain ?_
        refine l_y (y_loadA (cs := [.int .i64 a0.Kind, .int .i64 a0.Count, .slice A12 x11.length cp13]) ia24 rfl rfl rfl (cls_own (i := 1) rfl rfl)) rfl rfl (by decide) ?_
        refine l_w rfl ?_
        refine w_store2 (cs' := [.int .i64 a0.Kind, .int .i64 a0.Count, .slice A12 x11.length cp13]) sz24 rfl rfl rfl rfl rfl (Nat.le_of_ble_eq_true rfl) rfl rfl ?_
        refine l_nil ?_
        refine x_next ?_
        refine c_ret ?_
        refine s_freeze (by_ := 40) R_Type.mono hO16 hV15 (fun J43 hl44 hr45 => ?_)
        obtain rfl := Option.some.inj H
        exact g_ret [.agg #[.int .i64 a0.Kind, .int .i64 a0.Count, .slice A12 x11.length cp13]] (congrArg Array.toList Tryd.results13) (.cons (.a (cs := [.int .i64 a0.Kind, .int .i64 a0.Count, .slice A12 x11.length cp13]) ia24 rfl rfl (cls_own (i := 1) rfl rfl)) .nil) (fun W E => ⟨_, A12, cp13, rfl, E.drop (List.nil_sublist _), hr45, (by first | assumption | exact OV.le (by assumption) | simp | omega)⟩)
mutual
def types_Offset.l0 : Nat → Int → Int → GType → Int → Option (Int × Bool)
  | 0, _, _, _, _ => none
  | k + 1, x35, x36, a0, a1 => (if x36 < ((sub a0.Kids (0 : Int) a1).length : Int) then (if 0 ≤ x36 ∧ x36 < ((sub a0.Kids (0 : Int) a1).length : Int) then ((types_Size.f k (rd (sub a0.Kids (0 : Int) a1) x36)).bind fun r49 => (types_Offset.l0 k (IntKind.i64.wrap (x35 + r49)) (IntKind.i64.wrap (x36 + 1)) a0 a1)) else none) else (some (x35, true)))
def types_Offset.j5 : Nat → Bool → GType → Int → Option (Int × Bool)
  | 0, _, _, _ => none
  | k + 1, x26, a0, a1 => (if x26 = true then (some (0, false)) else (if 0 ≤ (0 : Int) ∧ (0 : Int) ≤ a1 ∧ a1 ≤ (a0.Kids.length : Int) then (types_Offset.l0 k 0 0 a0 a1) else none))
def types_Offset.j4 : Nat → Bool → GType → Int → Option (Int × Bool)
  | 0, _, _, _ => none
  | k + 1, x11, a0, a1 => (if x11 = true then (if 0 < (a0.Kids.length : Int) then ((types_Size.f k (rd a0.Kids 0)).bind fun r24 => (some (IntKind.i64.wrap (a1 * r24), true))) else none) else (if a0.Kind = 4 then (types_Offset.j5 k (decide ((a0.Kids.length : Int) ≤ a1)) a0 a1) else (types_Offset.j5 k true a0 a1)))
def types_Offset.j3 : Nat → Bool → GType → Int → Option (Int × Bool)
  | 0, _, _, _ => none
  | k + 1, x6, a0, a1 => (if x6 = true then (some (0, false)) else (if a0.Kind = 3 then (types_Offset.j4 k (decide (a1 < a0.Count)) a0 a1) else (types_Offset.j4 k false a0 a1)))
end
def types_Offset.f (k : Nat) (a0 : GType) (a1 : Int) : Option (Int × Bool) := ((types_Right.f k a0).bind fun r7 => (if r7 = true then (types_Offset.j3 k (decide (a1 < 0)) a0 a1) else (types_Offset.j3 k true a0 a1)))
def types_Offset.Post (I : Imm) (O : List Ent) (w : World) (r : (Int × Bool)) (e : Ending) (w' : World) : Prop := e = .returned (.tuple #[.int .i64 r.1, .bool r.2]) ∧ Ext I O w I O w'
set_option maxRecDepth 100000 in
set_option maxHeartbeats 1000000 in
theorem types_Offset.calls (k : Nat) : ∀ (a0 : GType) (a1 : Int) (A1 : Option Addr) (c2 : Nat) (I : Imm) (w : World) (r : (Int × Bool)) (hr3 : RowsG R_Type 3 40 I A1 a0.Kids) (hc4 : a0.Kids.length ≤ c2), St I [] w → types_Offset.f k a0 a1 = some r →
  Calls Tryd.prog 17 #[.agg #[.int .i64 a0.Kind, .int .i64 a0.Count, .slice A1 a0.Kids.length c2], .int .i64 a1] w (types_Offset.Post I [] w r) := by
  intro a0 a1 A1 c2 I w r hr3 hc4 hS H
  have nhr3 := hr3.len
  simp only [types_Offset.f] at H
  refine enter Tryd.func17 rfl Tryd.ntmps17 (Nat.le_of_ble_eq_true rfl) hS ?_
  refine c_seq ?_
  refine g_plain ?_
  refine l_w rfl ?_
  refine w_box (cs := [.int .i64 a0.Kind, .int .i64 a0.Count, .slice A1 a0.Kids.length c2]) (m := 3) rfl rfl rfl rfl rfl (by decide) (fun β5 => ?_)
  refine l_y (y_assign rfl rfl) rfl rfl (by decide) ?_
  refine l_y (y_assign rfl rfl) rfl rfl (by decide) ?_
  refine l_nil ?_
  refine x_next ?_
  refine c_seq ?_
  refine c_block ?_
  refine c_join (fun a W => ∃ (kq : Nat) (x6 : Bool), types_Offset.j3 kq x6 a0 a1 = some r ∧ kq ≤ k ∧ At 60 [] [(1, .int .i64 a1), (2, .pointer (some ⟨β5, 0, none⟩)), (9, .bool x6)] I [] w I [.cells β5 24 [.int .i64 a0.Kind, .int .i64 a0.Count, .slice A1 a0.Kids.length c2] 3] a W) ?_ ?_
  · skip
    refine g_plain ?_
    refine l_y (y_loadA (cs := [.int .i64 a0.Kind, .int .i64 a0.Count, .slice A1 a0.Kids.length c2]) ia24 rfl rfl rfl (cls_own (i := 0) rfl rfl)) rfl rfl (by decide) ?_
    refine l_w rfl ?_
    obtain ⟨r7, hr7, H⟩ := Option.bind_eq_some_iff.1 H
    refine w_call (args := [.agg #[.int .i64 a0.Kind, .int .i64 a0.Count, .slice A1 a0.Kids.length c2]]) (caps := []) has19 rfl rfl rfl rfl (by decide) (fun a W F E => ?_)
    refine (types_Right.calls k a0 A1 c2 I W r7 hr3 (by first | assumption | simp | omega) (E.st.sub (List.nil_sublist _)) hr7).mono ?_
    rintro e W' ⟨rfl, X⟩
    refine ⟨_, rfl, here (At.mk (F.put (by decide) _) (E.call0 X)) ?_⟩
    clear X E F W W' a
    refine l_y (y_not rfl rfl) rfl rfl (by decide) ?_
    refine l_y (y_move rfl rfl) rfl rfl (by decide) ?_
    by_cases c9 : r7 = true
    · rw [if_pos c9] at H
      refine s_lit (t := 13) rfl (not_f c9) ?_
      refine l_yg (y_move rfl rfl) rfl rfl rfl rfl rfl (by decide) ?_
      refine l_yg (y_bin rfl rfl rfl bi_lt) rfl rfl rfl rfl rfl (by decide) ?_
      refine l_y (y_pickf rfl rfl rfl) rfl rfl (by decide) ?_
      refine l_y (y_assign rfl rfl) rfl rfl (by decide) ?_
      refine l_nil ?_
      exact fun a W hA => ⟨k, (decide (a1 < 0)), H, (by omega), ⟨hA.fits.only ⟨rfl, rfl, rfl, trivial⟩, hA.ext⟩⟩
    · rw [if_neg c9] at H
      refine s_lit (t := 13) rfl (not_t (Bool.eq_false_iff.2 c9)) ?_
      refine l_off rfl rfl rfl rfl rfl rfl (by decide) ?_
      refine l_off rfl rfl rfl rfl rfl rfl (by decide) ?_
      refine l_y (y_pickt rfl rfl rfl) rfl rfl (by decide) ?_
      refine l_y (y_assign rfl rfl) rfl rfl (by decide) ?_
      refine l_nil ?_
      exact fun a W hA => ⟨k, true, H, (by omega), ⟨hA.fits.only ⟨rfl, rfl, rfl, trivial⟩, hA.ext⟩⟩
  clear H
  rintro a W ⟨kq, x6, H, hk, hA⟩
  refine here hA ?_
  clear hA a W
  cases kq with
  | zero => exact absurd H (by simp [types_Offset.j3])
  | succ k_j3 =>
    simp only [types_Offset.j3] at H
    by_cases c10 : x6 = true
    · rw [if_pos c10] at H
      refine s_lit (t := 9) rfl c10 ?_
      refine c_true rfl ?_
      refine c_seq ?_
      refine g_plain ?_
      refine l_y (y_assign rfl rfl) rfl rfl (by decide) ?_
      refine l_y (y_assign rfl rfl) rfl rfl (by decide) ?_
      refine l_nil ?_
      refine x_next ?_
      refine c_ret ?_
      refine x_ret ?_
      refine x_then rfl ?_
      obtain rfl := Option.some.inj H
      exact g_ret [.int .i64 0, .bool false] (congrArg Array.toList Tryd.results17) (.cons (.t rfl) (.cons (.t rfl) .nil)) (fun W E => ⟨rfl, E.drop (List.nil_sublist _)⟩)
    · rw [if_neg c10] at H
      refine s_lit (t := 9) rfl (Bool.eq_false_iff.2 c10) ?_
      refine c_false rfl ?_
      refine c_join (fun a W => ∃ (kq : Nat) (x11 : Bool), types_Offset.j4 kq x11 a0 a1 = some r ∧ kq ≤ k_j3 ∧ At 60 [] [(1, .int .i64 a1), (2, .pointer (some ⟨β5, 0, none⟩)), (17, .bool x11)] I [] w I [.cells β5 24 [.int .i64 a0.Kind, .int .i64 a0.Count, .slice A1 a0.Kids.length c2] 3] a W) ?_ ?_
      · skip
        refine g_plain ?_
        refine l_y (y_field (j' := 0) fa24_0 rfl rfl rfl) rfl rfl (by decide) ?_
        refine l_y (y_load is3 rfl rfl (cl_own (i := 0) (j := 0) rfl rfl)) rfl rfl (by decide) ?_
        refine l_y (y_bin rfl rfl rfl bi_eq) rfl rfl (by decide) ?_
        refine l_y (y_move rfl rfl) rfl rfl (by decide) ?_
        by_cases c12 : a0.Kind = 3
        · rw [if_pos c12] at H
          refine s_lit (t := 21) rfl (decide_eq_true c12) ?_
          refine l_yg (y_move rfl rfl) rfl rfl rfl rfl rfl (by decide) ?_
          refine l_yg (y_field (j' := 1) fa24_1 rfl rfl rfl) rfl rfl rfl rfl rfl (by decide) ?_
          refine l_yg (y_load is3 rfl rfl (cl_own (i := 0) (j := 1) rfl rfl)) rfl rfl rfl rfl rfl (by decide) ?_
          refine l_yg (y_bin rfl rfl rfl bi_lt) rfl rfl rfl rfl rfl (by decide) ?_
          refine l_y (y_pickt rfl rfl rfl) rfl rfl (by decide) ?_
          refine l_y (y_assign rfl rfl) rfl rfl (by decide) ?_
          refine l_nil ?_
          exact fun a W hA => ⟨k_j3, (decide (a1 < a0.Count)), H, (by omega), ⟨hA.fits.only ⟨rfl, rfl, rfl, trivial⟩, hA.ext⟩⟩
        · rw [if_neg c12] at H
          refine s_lit (t := 21) rfl (decide_eq_false c12) ?_
          refine l_off rfl rfl rfl rfl rfl rfl (by decide) ?_
          refine l_off rfl rfl rfl rfl rfl rfl (by decide) ?_
          refine l_off rfl rfl rfl rfl rfl rfl (by decide) ?_
          refine l_off rfl rfl rfl rfl rfl rfl (by decide) ?_
          refine l_y (y_pickf rfl rfl rfl) rfl rfl (by decide) ?_
          refine l_y (y_assign rfl rfl) rfl rfl (by decide) ?_
          refine l_nil ?_
          exact fun a W hA => ⟨k_j3, false, H, (by omega), ⟨hA.fits.only ⟨rfl, rfl, rfl, trivial⟩, hA.ext⟩⟩
      clear H
      rintro a W ⟨kq, x11, H, hk, hA⟩
      refine here hA ?_
      clear hA a W
      cases kq with
      | zero => exact absurd H (by simp [types_Offset.j4])
      | succ k_j4 =>
        simp only [types_Offset.j4] at H
        by_cases c13 : x11 = true
        · rw [if_pos c13] at H
          refine s_lit (t := 17) rfl c13 ?_
          refine c_true rfl ?_
          refine c_seq ?_
          refine g_plain ?_
          refine l_y (y_move rfl rfl) rfl rfl (by decide) ?_
          refine l_y (y_field (j' := 2) fa24_2 rfl rfl rfl) rfl rfl (by decide) ?_
          refine l_y (y_load is22 rfl rfl (cl_own (i := 0) (j := 2) rfl rfl)) rfl rfl (by decide) ?_
          by_cases c14 : 0 < (a0.Kids.length : Int)
          rotate_left
          · rw [if_neg c14] at H; exact absurd H (by simp)
          rw [if_pos c14] at H
          obtain ⟨b15, o16, hA_, hE17⟩ := hr3.elem (by omega)
          obtain rfl := hA_
          obtain ⟨cs20, hR21, hC22⟩ := hE17 0 (by decide) c14
          obtain ⟨A18, c19, rfl, hr23, chr23⟩ := hR21.open
          refine l_y (y_index sl22 rfl rfl rfl (by decide) c14) rfl rfl (by decide) ?_
          refine l_y (y_loadA (cs := [.int .i64 ((rd a0.Kids 0).Kind), .int .i64 ((rd a0.Kids 0).Count), .slice A18 (((rd a0.Kids 0).Kids).length) c19]) ia24 rfl rfl rfl hC22.cls) rfl rfl (by decide) ?_
          refine l_w rfl ?_
          obtain ⟨r24, hr24, H⟩ := Option.bind_eq_some_iff.1 H
          refine w_call (args := [.agg #[.int .i64 ((rd a0.Kids 0).Kind), .int .i64 ((rd a0.Kids 0).Count), .slice A18 (((rd a0.Kids 0).Kids).length) c19]]) (caps := []) has21 rfl rfl rfl rfl (by decide) (fun a W F E => ?_)
          refine (types_Size.calls k_j4 (rd a0.Kids 0) A18 c19 I W r24 hr23 (by first | assumption | simp | omega) (E.st.sub (List.nil_sublist _)) hr24).mono ?_
          rintro e W' ⟨rfl, X⟩
          refine ⟨_, rfl, here (At.mk (F.put (by decide) _) (E.call0 X)) ?_⟩
          clear X E F W W' a
          refine l_y (y_bin rfl rfl rfl bi_mul) rfl rfl (by decide) ?_
          refine l_y (y_assign rfl rfl) rfl rfl (by decide) ?_
          refine l_y (y_assign rfl rfl) rfl rfl (by decide) ?_
          refine l_nil ?_
          refine x_next ?_
          refine c_ret ?_
          refine x_ret ?_
          refine x_then rfl ?_
          obtain rfl := Option.some.inj H
          exact g_ret [.int .i64 (IntKind.i64.wrap (a1 * r24)), .bool true] (congrArg Array.toList Tryd.results17) (.cons (.t rfl) (.cons (.t rfl) .nil)) (fun W E => ⟨rfl, E.drop (List.nil_sublist _)⟩)
        · rw [if_neg c13] at H
          refine s_lit (t := 17) rfl (Bool.eq_false_iff.2 c13) ?_
          refine c_false rfl ?_
          refine c_join (fun a W => ∃ (kq : Nat) (x26 : Bool), types_Offset.j5 kq x26 a0 a1 = some r ∧ kq ≤ k_j4 ∧ At 60 [] [(1, .int .i64 a1), (2, .pointer (some ⟨β5, 0, none⟩)), (34, .bool x26)] I [] w I [.cells β5 24 [.int .i64 a0.Kind, .int .i64 a0.Count, .slice A1 a0.Kids.length c2] 3] a W) ?_ ?_
          · skip
            refine g_plain ?_
            refine l_y (y_field (j' := 0) fa24_0 rfl rfl rfl) rfl rfl (by decide) ?_
            refine l_y (y_load is3 rfl rfl (cl_own (i := 0) (j := 0) rfl rfl)) rfl rfl (by decide) ?_
            refine l_y (y_bin rfl rfl rfl bi_ne) rfl rfl (by decide) ?_
            refine l_y (y_move rfl rfl) rfl rfl (by decide) ?_
            by_cases c27 : a0.Kind = 4
            · rw [if_pos c27] at H
              refine s_lit (t := 38) rfl (not_f (decide_eq_true c27)) ?_
              refine l_yg (y_move rfl rfl) rfl rfl rfl rfl rfl (by decide) ?_
              refine l_yg (y_field (j' := 2) fa24_2 rfl rfl rfl) rfl rfl rfl rfl rfl (by decide) ?_
              refine l_yg (y_load is22 rfl rfl (cl_own (i := 0) (j := 2) rfl rfl)) rfl rfl rfl rfl rfl (by decide) ?_
              refine l_yg (y_len Tryd.underlying22 rfl rfl) rfl rfl rfl rfl rfl (by decide) ?_
              refine l_yg (y_bin rfl rfl rfl bi_ge) rfl rfl rfl rfl rfl (by decide) ?_
              refine l_y (y_pickf rfl rfl rfl) rfl rfl (by decide) ?_
              refine l_y (y_assign rfl rfl) rfl rfl (by decide) ?_
              refine l_nil ?_
              exact fun a W hA => ⟨k_j4, (decide ((a0.Kids.length : Int) ≤ a1)), H, (by omega), ⟨hA.fits.only ⟨rfl, rfl, rfl, trivial⟩, hA.ext⟩⟩
            · rw [if_neg c27] at H
              refine s_lit (t := 38) rfl (not_t (decide_eq_false c27)) ?_
              refine l_off rfl rfl rfl rfl rfl rfl (by decide) ?_
              refine l_off rfl rfl rfl rfl rfl rfl (by decide) ?_
              refine l_off rfl rfl rfl rfl rfl rfl (by decide) ?_
              refine l_off rfl rfl rfl rfl rfl rfl (by decide) ?_
              refine l_off rfl rfl rfl rfl rfl rfl (by decide) ?_
              refine l_y (y_pickt rfl rfl rfl) rfl rfl (by decide) ?_
              refine l_y (y_assign rfl rfl) rfl rfl (by decide) ?_
              refine l_nil ?_
              exact fun a W hA => ⟨k_j4, true, H, (by omega), ⟨hA.fits.only ⟨rfl, rfl, rfl, trivial⟩, hA.ext⟩⟩
          clear H
          rintro a W ⟨kq, x26, H, hk, hA⟩
          refine here hA ?_
          clear hA a W
          cases kq with
          | zero => exact absurd H (by simp [types_Offset.j5])
          | succ k_j5 =>
            simp only [types_Offset.j5] at H
            by_cases c28 : x26 = true
            · rw [if_pos c28] at H
              refine s_lit (t := 34) rfl c28 ?_
              refine c_true rfl ?_
              refine c_seq ?_
              refine g_plain ?_
              refine l_y (y_assign rfl rfl) rfl rfl (by decide) ?_
              refine l_y (y_assign rfl rfl) rfl rfl (by decide) ?_
              refine l_nil ?_
              refine x_next ?_
              refine c_ret ?_
              refine x_ret ?_
              refine x_then rfl ?_
              obtain rfl := Option.some.inj H
              exact g_ret [.int .i64 0, .bool false] (congrArg Array.toList Tryd.results17) (.cons (.t rfl) (.cons (.t rfl) .nil)) (fun W E => ⟨rfl, E.drop (List.nil_sublist _)⟩)
            · rw [if_neg c28] at H
              refine s_lit (t := 34) rfl (Bool.eq_false_iff.2 c28) ?_
              refine c_false rfl ?_
              refine c_skip ?_
              refine x_norm ?_
              refine x_next ?_
              refine c_seq ?_
              refine g_plain ?_
              refine l_y (y_assign rfl rfl) rfl rfl (by decide) ?_
              refine l_nil ?_
              refine x_next ?_
              refine c_seq ?_
              refine c_seq ?_
              refine g_plain ?_
              refine l_y (y_field (j' := 2) fa24_2 rfl rfl rfl) rfl rfl (by decide) ?_
              refine l_y (y_load is22 rfl rfl (cl_own (i := 0) (j := 2) rfl rfl)) rfl rfl (by decide) ?_
              refine l_y (y_move rfl rfl) rfl rfl (by decide) ?_
              by_cases c29 : 0 ≤ (0 : Int) ∧ (0 : Int) ≤ a1 ∧ a1 ≤ (a0.Kids.length : Int)
              rotate_left
              · rw [if_neg c29] at H; exact absurd H (by simp)
              rw [if_pos c29] at H
              obtain ⟨A30, c31, hr32, hc33, hy34⟩ := sub_ex (c := c2) hr3 c29.1 c29.2.1 c29.2.2 (by first | assumption | omega)
              refine l_y (hy34 ▸ y_sslc sl22 rfl rfl rfl rfl c29.1 c29.2.1 (by have := c29.2.2; omega)) rfl rfl (by decide) ?_
              refine l_y (y_len Tryd.underlying22 rfl rfl) rfl rfl (by decide) ?_
              refine l_y (y_move rfl rfl) rfl rfl (by decide) ?_
              refine l_nil ?_
              refine x_next ?_
              refine c_block ?_
              refine c_loop (fun kq a W => ∃ (x35 : Int) (x36 : Int), types_Offset.l0 kq x35 x36 a0 a1 = some r ∧ kq ≤ k_j5 ∧ At 60 [] [(6, .int .i64 x35), (48, .slice A30 ((sub a0.Kids (0 : Int) a1).length) c31), (49, .int .i64 ((sub a0.Kids (0 : Int) a1).length : Int)), (50, .int .i64 x36)] I [] w I [.cells β5 24 [.int .i64 a0.Kind, .int .i64 a0.Count, .slice A1 a0.Kids.length c2] 3] a W) k_j5 (fun a W hA => ⟨0, 0, H, (Nat.le_refl _), ⟨hA.fits.only ⟨rfl, rfl, rfl, rfl, trivial⟩, hA.ext⟩⟩) ?_
              clear H
              rintro kq a W ⟨x35, x36, H, hk, hA⟩
              refine here hA ?_
              clear hA a W
              cases kq with
              | zero => exact absurd H (by simp [types_Offset.l0])
              | succ k0 =>
                simp only [types_Offset.l0] at H
                refine c_seq ?_
                refine g_plain ?_
                refine l_y (y_bin rfl rfl rfl bi_lt) rfl rfl (by decide) ?_
                refine l_nil ?_
                refine x_next ?_
                refine c_seq ?_
                by_cases c37 : x36 < ((sub a0.Kids (0 : Int) a1).length : Int)
                · rw [if_pos c37] at H
                  refine s_lit (t := 51) rfl (decide_eq_true c37) ?_
                  refine c_true rfl ?_
                  refine c_skip ?_
                  refine x_next ?_
                  refine c_seq ?_
                  refine c_block ?_
                  refine c_seq ?_
                  refine g_plain ?_
                  by_cases c38 : 0 ≤ x36 ∧ x36 < ((sub a0.Kids (0 : Int) a1).length : Int)
                  rotate_left
                  · rw [if_neg c38] at H; exact absurd H (by simp)
                  rw [if_pos c38] at H
                  obtain ⟨b39, o40, hA_, hE41⟩ := hr32.elem (by omega)
                  obtain rfl := hA_
                  obtain ⟨cs44, hR45, hC46⟩ := hE41 x36 c38.1 c38.2
                  obtain ⟨A42, c43, rfl, hr47, chr47⟩ := hR45.open
                  refine l_y (y_index sl22 rfl rfl rfl c38.1 c38.2) rfl rfl (by decide) ?_
                  refine l_y (y_loadA (cs := [.int .i64 ((rd (sub a0.Kids (0 : Int) a1) x36).Kind), .int .i64 ((rd (sub a0.Kids (0 : Int) a1) x36).Count), .slice A42 (((rd (sub a0.Kids (0 : Int) a1) x36).Kids).length) c43]) ia24 rfl rfl rfl hC46.cls) rfl rfl (by decide) ?_
                  refine l_w rfl ?_
                  refine w_alloc (cs := [.int .i64 0, .int .i64 0, .slice none 0 0]) (m := 3) zz24 rfl rfl rfl rfl (by decide) (fun β48 => ?_)
                  refine l_w rfl ?_
                  refine w_store0 (cs' := [.int .i64 ((rd (sub a0.Kids (0 : Int) a1) x36).Kind), .int .i64 ((rd (sub a0.Kids (0 : Int) a1) x36).Count), .slice A42 (((rd (sub a0.Kids (0 : Int) a1) x36).Kids).length) c43]) sz24 rfl rfl rfl rfl rfl (Nat.le_of_ble_eq_true rfl) rfl rfl ?_
                  refine l_nil ?_
                  refine x_next ?_
                  refine g_plain ?_
                  refine l_y (y_move rfl rfl) rfl rfl (by decide) ?_
                  refine l_y (y_loadA (cs := [.int .i64 ((rd (sub a0.Kids (0 : Int) a1) x36).Kind), .int .i64 ((rd (sub a0.Kids (0 : Int) a1) x36).Count), .slice A42 (((rd (sub a0.Kids (0 : Int) a1) x36).Kids).length) c43]) ia24 rfl rfl rfl (cls_own (i := 0) rfl rfl)) rfl rfl (by decide) ?_
                  refine l_w rfl ?_
                  obtain ⟨r49, hr49, H⟩ := Option.bind_eq_some_iff.1 H
                  refine w_call (args := [.agg #[.int .i64 ((rd (sub a0.Kids (0 : Int) a1) x36).Kind), .int .i64 ((rd (sub a0.Kids (0 : Int) a1) x36).Count), .slice A42 (((rd (sub a0.Kids (0 : Int) a1) x36).Kids).length) c43]]) (caps := []) has21 rfl rfl rfl rfl (by decide) (fun a W F E => ?_)
                  refine (types_Size.calls k0 (rd (sub a0.Kids (0 : Int) a1) x36) A42 c43 I W r49 hr47 (by first | assumption | simp | omega) (E.st.sub (List.nil_sublist _)) hr49).mono ?_
                  rintro e W' ⟨rfl, X⟩
                  refine ⟨_, rfl, here (At.mk (F.put (by decide) _) (E.call0 X)) ?_⟩
                  clear X E F W W' a
                  refine l_y (y_bin rfl rfl rfl bi_add) rfl rfl (by decide) ?_
                  refine l_y (y_assign rfl rfl) rfl rfl (by decide) ?_
                  refine l_nil ?_
                  refine x_norm ?_
                  refine x_next ?_
                  refine g_plain ?_
                  refine l_y (y_bin rfl rfl rfl bi_add) rfl rfl (by decide) ?_
                  refine l_y (y_move rfl rfl) rfl rfl (by decide) ?_
                  refine l_nil ?_
                  refine s_perm pf1 ?_
                  refine s_drop ((.cons_cons _ (List.nil_sublist _))) ?_
                  exact fun a W hA => ⟨k0, by omega, (IntKind.i64.wrap (x35 + r49)), (IntKind.i64.wrap (x36 + 1)), H, (by omega), ⟨hA.fits.only ⟨rfl, rfl, rfl, rfl, trivial⟩, hA.ext⟩⟩
                · rw [if_neg c37] at H
                  refine s_lit (t := 51) rfl (decide_eq_false c37) ?_
                  refine c_false rfl ?_
                  refine c_exit ?_
                  refine x_then rfl ?_
                  refine x_then rfl ?_
                  refine x_in ?_
                  refine x_next ?_
                  refine c_seq ?_
                  refine g_plain ?_
                  refine l_y (y_move rfl rfl) rfl rfl (by decide) ?_
                  refine l_y (y_assign rfl rfl) rfl rfl (by decide) ?_
                  refine l_y (y_assign rfl rfl) rfl rfl (by decide) ?_
                  refine l_nil ?_
                  refine x_next ?_
                  refine c_ret ?_
                  obtain rfl := Option.some.inj H
                  exact g_ret [.int .i64 x35, .bool true] (congrArg Array.toList Tryd.results17) (.cons (.t rfl) (.cons (.t rfl) .nil)) (fun W E => ⟨rfl, E.drop (List.nil_sublist _)⟩)
def token_digit.f (k : Nat) (a0 : Int) : Option Bool := (if 48 ≤ a0 then (some (decide (a0 ≤ 57))) else (some false))
def token_digit.Post (I : Imm) (O : List Ent) (w : World) (r : Bool) (e : Ending) (w' : World) : Prop := e = .returned (.bool r) ∧ Ext I O w I O w'
set_option maxRecDepth 100000 in
set_option maxHeartbeats 1000000 in
theorem token_digit.calls (k : Nat) : ∀ (a0 : Int) (I : Imm) (w : World) (r : Bool), St I [] w → token_digit.f k a0 = some r →
  Calls Tryd.prog 135 #[.int .u8 a0] w (token_digit.Post I [] w r) := by
  intro a0 I w r  hS H
  simp only [token_digit.f] at H
  refine enter Tryd.func135 rfl Tryd.ntmps135 (Nat.le_of_ble_eq_true rfl) hS ?_
  refine c_seq ?_
  refine g_plain ?_
  refine l_y (y_assign rfl rfl) rfl rfl (by decide) ?_
  refine l_nil ?_
  refine x_next ?_
  refine c_seq ?_
  refine g_plain ?_
  refine l_y (y_move rfl rfl) rfl rfl (by decide) ?_
  refine l_y (y_bin rfl rfl rfl bi_ge) rfl rfl (by decide) ?_
  refine l_y (y_move rfl rfl) rfl rfl (by decide) ?_
  by_cases c1 : 48 ≤ a0
  · rw [if_pos c1] at H
    refine s_lit (t := 5) rfl (decide_eq_true c1) ?_
    refine l_yg (y_move rfl rfl) rfl rfl rfl rfl rfl (by decide) ?_
    refine l_yg (y_bin rfl rfl rfl bi_le) rfl rfl rfl rfl rfl (by decide) ?_
    refine l_y (y_pickt rfl rfl rfl) rfl rfl (by decide) ?_
    refine l_y (y_assign rfl rfl) rfl rfl (by decide) ?_
    refine l_nil ?_
    refine x_next ?_
    refine c_ret ?_
    obtain rfl := Option.some.inj H
    exact g_ret [.bool (decide (a0 ≤ 57))] (congrArg Array.toList Tryd.results135) (.cons (.t rfl) .nil) (fun W E => ⟨rfl, E.drop (List.nil_sublist _)⟩)
  · rw [if_neg c1] at H
    refine s_lit (t := 5) rfl (decide_eq_false c1) ?_
    refine l_off rfl rfl rfl rfl rfl rfl (by decide) ?_
    refine l_off rfl rfl rfl rfl rfl rfl (by decide) ?_
    refine l_y (y_pickf rfl rfl rfl) rfl rfl (by decide) ?_
    refine l_y (y_assign rfl rfl) rfl rfl (by decide) ?_
    refine l_nil ?_
    refine x_next ?_
    refine c_ret ?_
    obtain rfl := Option.some.inj H
    exact g_ret [.bool false] (congrArg Array.toList Tryd.results135) (.cons (.t rfl) .nil) (fun W E => ⟨rfl, E.drop (List.nil_sublist _)⟩)
mutual
def token_Number.j4 : Nat → Bool → ByteArray → Int → Int → Option (Int × Bool)
  | 0, _, _, _, _ => none
  | k + 1, x10, a0, x6, x7 => (if x10 = true then (some (0, false)) else (token_Number.l0 k (IntKind.i64.wrap ((IntKind.i64.wrap (10 * x6)) + (IntKind.i64.wrap ((IntKind.i64.wrap (gb a0 x7)) - 48)))) (IntKind.i64.wrap (x7 + 1)) a0))
def token_Number.l0 : Nat → Int → Int → ByteArray → Option (Int × Bool)
  | 0, _, _, _ => none
  | k + 1, x6, x7, a0 => (if x7 < (a0.size : Int) then (if 0 ≤ x7 ∧ x7 < (a0.size : Int) then ((token_digit.f k (gb a0 x7)).bind fun r11 => (if r11 = true then (token_Number.j4 k (decide (IntKind.i64.wrap (Int.tdiv (IntKind.i64.wrap (9223372036854775807 - (IntKind.i64.wrap ((IntKind.i64.wrap (gb a0 x7)) - 48)))) 10) < x6)) a0 x6 x7) else (token_Number.j4 k true a0 x6 x7))) else none) else (some (x6, true)))
def token_Number.j1 : Nat → ByteArray → Option (Int × Bool)
  | 0, _ => none
  | k + 1, a0 => (token_Number.l0 k 0 0 a0)
def token_Number.j2 : Nat → Bool → ByteArray → Option (Int × Bool)
  | 0, _, _ => none
  | k + 1, x1, a0 => (if x1 = true then (some (0, false)) else (token_Number.j1 k a0))
end
def token_Number.f (k : Nat) (a0 : ByteArray) : Option (Int × Bool) := (if a0 = (⟨#[]⟩ : ByteArray) then (token_Number.j2 k true a0) else (if 1 < (a0.size : Int) then (if 0 < (a0.size : Int) then (token_Number.j2 k (decide (gb a0 0 = 48)) a0) else none) else (token_Number.j2 k false a0)))
def token_Number.Post (I : Imm) (O : List Ent) (w : World) (r : (Int × Bool)) (e : Ending) (w' : World) : Prop := e = .returned (.tuple #[.int .i64 r.1, .bool r.2]) ∧ Ext I O w I O w'
set_option maxRecDepth 100000 in
set_option maxHeartbeats 1000000 in
theorem token_Number.calls (k : Nat) : ∀ (a0 : ByteArray) (I : Imm) (w : World) (r : (Int × Bool)), St I [] w → token_Number.f k a0 = some r →
  Calls Tryd.prog 119 #[.string a0] w (token_Number.Post I [] w r) := by
  intro a0 I w r  hS H
  simp only [token_Number.f] at H
  refine enter Tryd.func119 rfl Tryd.ntmps119 (Nat.le_of_ble_eq_true rfl) hS ?_
  refine c_seq ?_
  refine g_plain ?_
  refine l_y (y_assign rfl rfl) rfl rfl (by decide) ?_
  refine l_y (y_assign rfl rfl) rfl rfl (by decide) ?_
  refine l_nil ?_
  refine x_next ?_
  refine c_join (fun a W => ∃ (kq : Nat), token_Number.j1 kq a0 = some r ∧ kq ≤ k ∧ At 47 [] [(0, .string a0)] I [] w I [] a W) ?_ ?_
  · skip
    refine c_join (fun a W => ∃ (kq : Nat) (x1 : Bool), token_Number.j2 kq x1 a0 = some r ∧ kq ≤ k ∧ At 47 [] [(0, .string a0), (18, .bool x1)] I [] w I [] a W) ?_ ?_
    · skip
      refine g_plain ?_
      refine l_y (y_move rfl rfl) rfl rfl (by decide) ?_
      refine l_y (y_bin rfl rfl rfl bi_seq) rfl rfl (by decide) ?_
      refine l_y (y_move rfl rfl) rfl rfl (by decide) ?_
      by_cases c2 : a0 = (⟨#[]⟩ : ByteArray)
      · rw [if_pos c2] at H
        refine s_lit (t := 9) rfl (decide_eq_true c2) ?_
        refine l_off rfl rfl rfl rfl rfl rfl (by decide) ?_
        refine l_off rfl rfl rfl rfl rfl rfl (by decide) ?_
        refine l_off rfl rfl rfl rfl rfl rfl (by decide) ?_
        refine l_off rfl rfl rfl rfl rfl rfl (by decide) ?_
        refine l_offu rfl rfl rfl rfl rfl (by decide) ?_
        refine l_offu rfl rfl rfl rfl rfl (by decide) ?_
        refine l_offu rfl rfl rfl rfl rfl (by decide) ?_
        refine l_off rfl rfl rfl rfl rfl rfl (by decide) ?_
        refine l_y (y_pickt rfl rfl rfl) rfl rfl (by decide) ?_
        refine l_nil ?_
        exact fun a W hA => ⟨k, true, H, (by omega), ⟨hA.fits.only ⟨rfl, rfl, trivial⟩, hA.ext⟩⟩
      · rw [if_neg c2] at H
        refine s_lit (t := 9) rfl (decide_eq_false c2) ?_
        refine l_yg (y_move rfl rfl) rfl rfl rfl rfl rfl (by decide) ?_
        refine l_yg (y_slen Tryd.underlying9 rfl rfl) rfl rfl rfl rfl rfl (by decide) ?_
        refine l_yg (y_bin rfl rfl rfl bi_gt) rfl rfl rfl rfl rfl (by decide) ?_
        refine l_yg (y_move rfl rfl) rfl rfl rfl rfl rfl (by decide) ?_
        by_cases c3 : 1 < (a0.size : Int)
        · rw [if_pos c3] at H
          refine s_lit (t := 13) rfl (decide_eq_true c3) ?_
          refine l_yg (y_move rfl rfl) rfl rfl rfl rfl rfl (by decide) ?_
          by_cases c4 : 0 < (a0.size : Int)
          rotate_left
          · rw [if_neg c4] at H; exact absurd H (by simp)
          rw [if_pos c4] at H
          refine l_yg (y_sindex Tryd.underlying9 rfl rfl rfl (by decide) c4 rfl) rfl rfl rfl rfl rfl (by decide) ?_
          refine l_yg (y_bin rfl rfl rfl bi_eq) rfl rfl rfl rfl rfl (by decide) ?_
          refine l_yg (y_pickt rfl rfl rfl) rfl rfl rfl rfl rfl (by decide) ?_
          refine l_y (y_pickf rfl rfl rfl) rfl rfl (by decide) ?_
          refine l_nil ?_
          exact fun a W hA => ⟨k, (decide (gb a0 0 = 48)), H, (by omega), ⟨hA.fits.only ⟨rfl, rfl, trivial⟩, hA.ext⟩⟩
        · rw [if_neg c3] at H
          refine s_lit (t := 13) rfl (decide_eq_false c3) ?_
          refine l_off rfl rfl rfl rfl rfl rfl (by decide) ?_
          refine l_off rfl rfl rfl rfl rfl rfl (by decide) ?_
          refine l_off rfl rfl rfl rfl rfl rfl (by decide) ?_
          refine l_yg (y_pickf rfl rfl rfl) rfl rfl rfl rfl rfl (by decide) ?_
          refine l_y (y_pickf rfl rfl rfl) rfl rfl (by decide) ?_
          refine l_nil ?_
          exact fun a W hA => ⟨k, false, H, (by omega), ⟨hA.fits.only ⟨rfl, rfl, trivial⟩, hA.ext⟩⟩
    clear H
    rintro a W ⟨kq, x1, H, hk, hA⟩
    refine here hA ?_
    clear hA a W
    cases kq with
    | zero => exact absurd H (by simp [token_Number.j2])
    | succ k_j2 =>
      simp only [token_Number.j2] at H
      by_cases c5 : x1 = true
      · rw [if_pos c5] at H
        refine s_lit (t := 18) rfl c5 ?_
        refine c_true rfl ?_
        refine c_seq ?_
        refine g_plain ?_
        refine l_y (y_assign rfl rfl) rfl rfl (by decide) ?_
        refine l_y (y_assign rfl rfl) rfl rfl (by decide) ?_
        refine l_nil ?_
        refine x_next ?_
        refine c_ret ?_
        refine x_then rfl ?_
        obtain rfl := Option.some.inj H
        exact g_ret [.int .i64 0, .bool false] (congrArg Array.toList Tryd.results119) (.cons (.t rfl) (.cons (.t rfl) .nil)) (fun W E => ⟨rfl, E.drop (List.nil_sublist _)⟩)
      · rw [if_neg c5] at H
        refine s_lit (t := 18) rfl (Bool.eq_false_iff.2 c5) ?_
        refine c_false rfl ?_
        refine c_skip ?_
        exact fun a W hA => ⟨k_j2, H, (by omega), ⟨hA.fits.only ⟨rfl, trivial⟩, hA.ext⟩⟩
  clear H
  rintro a W ⟨kq, H, hk, hA⟩
  refine here hA ?_
  clear hA a W
  cases kq with
  | zero => exact absurd H (by simp [token_Number.j1])
  | succ k_j1 =>
    simp only [token_Number.j1] at H
    refine c_seq ?_
    refine g_plain ?_
    refine l_y (y_assign rfl rfl) rfl rfl (by decide) ?_
    refine l_nil ?_
    refine x_next ?_
    refine c_seq ?_
    refine c_seq ?_
    refine g_plain ?_
    refine l_y (y_move rfl rfl) rfl rfl (by decide) ?_
    refine l_y (y_slen Tryd.underlying9 rfl rfl) rfl rfl (by decide) ?_
    refine l_y (y_move rfl rfl) rfl rfl (by decide) ?_
    refine l_nil ?_
    refine x_next ?_
    refine c_block ?_
    refine c_loop (fun kq a W => ∃ (x6 : Int) (x7 : Int), token_Number.l0 kq x6 x7 a0 = some r ∧ kq ≤ k_j1 ∧ At 47 [] [(0, .string a0), (4, .int .i64 x6), (20, .int .i64 (a0.size : Int)), (21, .int .i64 x7)] I [] w I [] a W) k_j1 (fun a W hA => ⟨0, 0, H, (Nat.le_refl _), ⟨hA.fits.only ⟨rfl, rfl, rfl, rfl, trivial⟩, hA.ext⟩⟩) ?_
    clear H
    rintro kq a W ⟨x6, x7, H, hk, hA⟩
    refine here hA ?_
    clear hA a W
    cases kq with
    | zero => exact absurd H (by simp [token_Number.l0])
    | succ k0 =>
      simp only [token_Number.l0] at H
      refine c_seq ?_
      refine g_plain ?_
      refine l_y (y_bin rfl rfl rfl bi_lt) rfl rfl (by decide) ?_
      refine l_nil ?_
      refine x_next ?_
      refine c_seq ?_
      by_cases c8 : x7 < (a0.size : Int)
      · rw [if_pos c8] at H
        refine s_lit (t := 22) rfl (decide_eq_true c8) ?_
        refine c_true rfl ?_
        refine c_skip ?_
        refine x_next ?_
        refine c_seq ?_
        refine c_block ?_
        refine c_seq ?_
        refine g_plain ?_
        refine l_y (y_move rfl rfl) rfl rfl (by decide) ?_
        refine l_y (y_assign rfl rfl) rfl rfl (by decide) ?_
        refine l_nil ?_
        refine x_next ?_
        refine c_seq ?_
        refine g_plain ?_
        refine l_y (y_move rfl rfl) rfl rfl (by decide) ?_
        refine l_y (y_move rfl rfl) rfl rfl (by decide) ?_
        by_cases c9 : 0 ≤ x7 ∧ x7 < (a0.size : Int)
        rotate_left
        · rw [if_neg c9] at H; exact absurd H (by simp)
        rw [if_pos c9] at H
        refine l_y (y_sindex Tryd.underlying9 rfl rfl rfl c9.1 c9.2 rfl) rfl rfl (by decide) ?_
        refine l_y (y_conv Tryd.underlying5 Tryd.underlying3 rfl rfl) rfl rfl (by decide) ?_
        refine l_y (y_bin rfl rfl rfl bi_sub) rfl rfl (by decide) ?_
        refine l_y (y_assign rfl rfl) rfl rfl (by decide) ?_
        refine l_nil ?_
        refine x_next ?_
        refine c_seq ?_
        refine c_join (fun a W => ∃ (kq : Nat) (x10 : Bool), token_Number.j4 kq x10 a0 x6 x7 = some r ∧ kq ≤ k0 ∧ At 47 [] [(0, .string a0), (4, .int .i64 x6), (6, .int .i64 (IntKind.i64.wrap ((IntKind.i64.wrap (gb a0 x7)) - 48))), (20, .int .i64 (a0.size : Int)), (21, .int .i64 x7), (40, .bool x10)] I [] w I [] a W) ?_ ?_
        · skip
          refine g_plain ?_
          refine l_y (y_move rfl rfl) rfl rfl (by decide) ?_
          refine l_y (y_move rfl rfl) rfl rfl (by decide) ?_
          refine l_y (y_sindex Tryd.underlying9 rfl rfl rfl c9.1 c9.2 rfl) rfl rfl (by decide) ?_
          refine l_w rfl ?_
          obtain ⟨r11, hr11, H⟩ := Option.bind_eq_some_iff.1 H
          refine w_call (args := [.int .u8 (gb a0 x7)]) (caps := []) has135 rfl rfl rfl rfl (by decide) (fun a W F E => ?_)
          refine (token_digit.calls k0 (gb a0 x7) I W r11 (E.st.sub (List.nil_sublist _)) hr11).mono ?_
          rintro e W' ⟨rfl, X⟩
          refine ⟨_, rfl, here (At.mk (F.put (by decide) _) (E.call0 X)) ?_⟩
          clear X E F W W' a
          refine l_y (y_not rfl rfl) rfl rfl (by decide) ?_
          refine l_y (y_move rfl rfl) rfl rfl (by decide) ?_
          by_cases c13 : r11 = true
          · rw [if_pos c13] at H
            refine s_lit (t := 34) rfl (not_f c13) ?_
            refine l_yg (y_move rfl rfl) rfl rfl rfl rfl rfl (by decide) ?_
            refine l_yg (y_move rfl rfl) rfl rfl rfl rfl rfl (by decide) ?_
            refine l_yg (y_bin rfl rfl rfl bi_sub) rfl rfl rfl rfl rfl (by decide) ?_
            refine l_yg (y_bin rfl rfl rfl (bi_quo (by decide))) rfl rfl rfl rfl rfl (by decide) ?_
            refine l_yg (y_bin rfl rfl rfl bi_gt) rfl rfl rfl rfl rfl (by decide) ?_
            refine l_y (y_pickf rfl rfl rfl) rfl rfl (by decide) ?_
            refine l_nil ?_
            exact fun a W hA => ⟨k0, (decide (IntKind.i64.wrap (Int.tdiv (IntKind.i64.wrap (9223372036854775807 - (IntKind.i64.wrap ((IntKind.i64.wrap (gb a0 x7)) - 48)))) 10) < x6)), H, (by omega), ⟨hA.fits.only ⟨rfl, rfl, rfl, rfl, rfl, rfl, trivial⟩, hA.ext⟩⟩
          · rw [if_neg c13] at H
            refine s_lit (t := 34) rfl (not_t (Bool.eq_false_iff.2 c13)) ?_
            refine l_off rfl rfl rfl rfl rfl rfl (by decide) ?_
            refine l_off rfl rfl rfl rfl rfl rfl (by decide) ?_
            refine l_off rfl rfl rfl rfl rfl rfl (by decide) ?_
            refine l_off rfl rfl rfl rfl rfl rfl (by decide) ?_
            refine l_off rfl rfl rfl rfl rfl rfl (by decide) ?_
            refine l_y (y_pickt rfl rfl rfl) rfl rfl (by decide) ?_
            refine l_nil ?_
            exact fun a W hA => ⟨k0, true, H, (by omega), ⟨hA.fits.only ⟨rfl, rfl, rfl, rfl, rfl, rfl, trivial⟩, hA.ext⟩⟩
        clear H
        rintro a W ⟨kq, x10, H, hk, hA⟩
        refine here hA ?_
        clear hA a W
        cases kq with
        | zero => exact absurd H (by simp [token_Number.j4])
        | succ k_j4 =>
          simp only [token_Number.j4] at H
          by_cases c14 : x10 = true
          · rw [if_pos c14] at H
            refine s_lit (t := 40) rfl c14 ?_
            refine c_true rfl ?_
            refine c_seq ?_
            refine g_plain ?_
            refine l_y (y_assign rfl rfl) rfl rfl (by decide) ?_
            refine l_y (y_assign rfl rfl) rfl rfl (by decide) ?_
            refine l_nil ?_
            refine x_next ?_
            refine c_ret ?_
            refine x_then rfl ?_
            refine x_ret ?_
            refine x_then rfl ?_
            refine x_then rfl ?_
            refine x_ret ?_
            refine x_then rfl ?_
            obtain rfl := Option.some.inj H
            exact g_ret [.int .i64 0, .bool false] (congrArg Array.toList Tryd.results119) (.cons (.t rfl) (.cons (.t rfl) .nil)) (fun W E => ⟨rfl, E.drop (List.nil_sublist _)⟩)
          · rw [if_neg c14] at H
            refine s_lit (t := 40) rfl (Bool.eq_false_iff.2 c14) ?_
            refine c_false rfl ?_
            refine c_skip ?_
            refine x_next ?_
            refine g_plain ?_
            refine l_y (y_move rfl rfl) rfl rfl (by decide) ?_
            refine l_y (y_bin rfl rfl rfl bi_mul) rfl rfl (by decide) ?_
            refine l_y (y_move rfl rfl) rfl rfl (by decide) ?_
            refine l_y (y_bin rfl rfl rfl bi_add) rfl rfl (by decide) ?_
            refine l_y (y_assign rfl rfl) rfl rfl (by decide) ?_
            refine l_nil ?_
            refine x_norm ?_
            refine x_next ?_
            refine g_plain ?_
            refine l_y (y_bin rfl rfl rfl bi_add) rfl rfl (by decide) ?_
            refine l_y (y_move rfl rfl) rfl rfl (by decide) ?_
            refine l_nil ?_
            exact fun a W hA => ⟨k_j4, by omega, (IntKind.i64.wrap ((IntKind.i64.wrap (10 * x6)) + (IntKind.i64.wrap ((IntKind.i64.wrap (gb a0 x7)) - 48)))), (IntKind.i64.wrap (x7 + 1)), H, (by omega), ⟨hA.fits.only ⟨rfl, rfl, rfl, rfl, trivial⟩, hA.ext⟩⟩
      · rw [if_neg c8] at H
        refine s_lit (t := 22) rfl (decide_eq_false c8) ?_
        refine c_false rfl ?_
        refine c_exit ?_
        refine x_then rfl ?_
        refine x_then rfl ?_
        refine x_in ?_
        refine x_next ?_
        refine c_seq ?_
        refine g_plain ?_
        refine l_y (y_move rfl rfl) rfl rfl (by decide) ?_
        refine l_y (y_assign rfl rfl) rfl rfl (by decide) ?_
        refine l_y (y_assign rfl rfl) rfl rfl (by decide) ?_
        refine l_nil ?_
        refine x_next ?_
        refine c_ret ?_
        obtain rfl := Option.some.inj H
        exact g_ret [.int .i64 x6, .bool true] (congrArg Array.toList Tryd.results119) (.cons (.t rfl) (.cons (.t rfl) .nil)) (fun W E => ⟨rfl, E.drop (List.nil_sublist _)⟩)
def swageref09_digit.f (k : Nat) (a0 : Int) : Option Bool := (if 48 ≤ a0 then (some (decide (a0 ≤ 57))) else (some false))
def swageref09_digit.Post (I : Imm) (O : List Ent) (w : World) (r : Bool) (e : Ending) (w' : World) : Prop := e = .returned (.bool r) ∧ Ext I O w I O w'
set_option maxRecDepth 100000 in
set_option maxHeartbeats 1000000 in
theorem swageref09_digit.calls (k : Nat) : ∀ (a0 : Int) (I : Imm) (w : World) (r : Bool), St I [] w → swageref09_digit.f k a0 = some r →
  Calls Tryd.prog 136 #[.int .u8 a0] w (swageref09_digit.Post I [] w r) := by
  intro a0 I w r  hS H
  simp only [swageref09_digit.f] at H
  refine enter Tryd.func136 rfl Tryd.ntmps136 (Nat.le_of_ble_eq_true rfl) hS ?_
  refine c_seq ?_
  refine g_plain ?_
  refine l_y (y_assign rfl rfl) rfl rfl (by decide) ?_
  refine l_nil ?_
  refine x_next ?_
  refine c_seq ?_
  refine g_plain ?_
  refine l_y (y_move rfl rfl) rfl rfl (by decide) ?_
  refine l_y (y_bin rfl rfl rfl bi_ge) rfl rfl (by decide) ?_
  refine l_y (y_move rfl rfl) rfl rfl (by decide) ?_
  by_cases c1 : 48 ≤ a0
  · rw [if_pos c1] at H
    refine s_lit (t := 5) rfl (decide_eq_true c1) ?_
    refine l_yg (y_move rfl rfl) rfl rfl rfl rfl rfl (by decide) ?_
    refine l_yg (y_bin rfl rfl rfl bi_le) rfl rfl rfl rfl rfl (by decide) ?_
    refine l_y (y_pickt rfl rfl rfl) rfl rfl (by decide) ?_
    refine l_y (y_assign rfl rfl) rfl rfl (by decide) ?_
    refine l_nil ?_
    refine x_next ?_
    refine c_ret ?_
    obtain rfl := Option.some.inj H
    exact g_ret [.bool (decide (a0 ≤ 57))] (congrArg Array.toList Tryd.results136) (.cons (.t rfl) .nil) (fun W E => ⟨rfl, E.drop (List.nil_sublist _)⟩)
  · rw [if_neg c1] at H
    refine s_lit (t := 5) rfl (decide_eq_false c1) ?_
    refine l_off rfl rfl rfl rfl rfl rfl (by decide) ?_
    refine l_off rfl rfl rfl rfl rfl rfl (by decide) ?_
    refine l_y (y_pickf rfl rfl rfl) rfl rfl (by decide) ?_
    refine l_y (y_assign rfl rfl) rfl rfl (by decide) ?_
    refine l_nil ?_
    refine x_next ?_
    refine c_ret ?_
    obtain rfl := Option.some.inj H
    exact g_ret [.bool false] (congrArg Array.toList Tryd.results136) (.cons (.t rfl) .nil) (fun W E => ⟨rfl, E.drop (List.nil_sublist _)⟩)
mutual
def swageref09_Number.j9 : Nat → ByteArray → Int → Int → Option (Int × Bool)
  | 0, _, _, _ => none
  | k + 1, a0, x1, x2 => (swageref09_Number.l0 k (IntKind.i64.wrap ((IntKind.i64.wrap (10 * x1)) + (IntKind.i64.wrap ((IntKind.i64.wrap (gb a0 x2)) - 48)))) (IntKind.i64.wrap (x2 + 1)) a0)
def swageref09_Number.j10 : Nat → Bool → ByteArray → Int → Int → Option (Int × Bool)
  | 0, _, _, _, _ => none
  | k + 1, x11, a0, x1, x2 => (if x11 = true then (some (0, false)) else (swageref09_Number.j9 k a0 x1 x2))
def swageref09_Number.j8 : Nat → Bool → ByteArray → Int → Int → Option (Int × Bool)
  | 0, _, _, _, _ => none
  | k + 1, x4, a0, x2, x1 => (if x4 = true then (some (0, false)) else (if 0 ≤ x2 ∧ x2 < (a0.size : Int) then (if x1 = 922337203685477580 then (swageref09_Number.j10 k (decide (7 < IntKind.i64.wrap ((IntKind.i64.wrap (gb a0 x2)) - 48))) a0 x1 x2) else (swageref09_Number.j10 k false a0 x1 x2)) else none))
def swageref09_Number.l0 : Nat → Int → Int → ByteArray → Option (Int × Bool)
  | 0, _, _, _ => none
  | k + 1, x1, x2, a0 => (if x2 < (a0.size : Int) then (if 0 ≤ x2 ∧ x2 < (a0.size : Int) then ((swageref09_digit.f k (gb a0 x2)).bind fun r6 => (if r6 = true then (swageref09_Number.j8 k (decide (922337203685477580 < x1)) a0 x2 x1) else (swageref09_Number.j8 k true a0 x2 x1))) else none) else (if (a0.size : Int) = 0 then (some (0, false)) else (if 1 < (a0.size : Int) then (if 0 < (a0.size : Int) then (if gb a0 0 = 48 then (some (0, false)) else (some (x1, true))) else none) else (some (x1, true)))))
end
def swageref09_Number.f (k : Nat) (a0 : ByteArray) : Option (Int × Bool) := (swageref09_Number.l0 k 0 0 a0)
def swageref09_Number.Post (I : Imm) (O : List Ent) (w : World) (r : (Int × Bool)) (e : Ending) (w' : World) : Prop := e = .returned (.tuple #[.int .i64 r.1, .bool r.2]) ∧ Ext I O w I O w'
set_option maxRecDepth 100000 in
set_option maxHeartbeats 1000000 in
theorem swageref09_Number.calls (k : Nat) : ∀ (a0 : ByteArray) (I : Imm) (w : World) (r : (Int × Bool)), St I [] w → swageref09_Number.f k a0 = some r →
  Calls Tryd.prog 120 #[.string a0] w (swageref09_Number.Post I [] w r) := by
  intro a0 I w r  hS H
  simp only [swageref09_Number.f] at H
  refine enter Tryd.func120 rfl Tryd.ntmps120 (Nat.le_of_ble_eq_true rfl) hS ?_
  refine c_seq ?_
  refine g_plain ?_
  refine l_y (y_assign rfl rfl) rfl rfl (by decide) ?_
  refine l_y (y_assign rfl rfl) rfl rfl (by decide) ?_
  refine l_nil ?_
  refine x_next ?_
  refine c_seq ?_
  refine g_plain ?_
  refine l_y (y_assign rfl rfl) rfl rfl (by decide) ?_
  refine l_nil ?_
  refine x_next ?_
  refine c_seq ?_
  refine c_seq ?_
  refine g_plain ?_
  refine l_y (y_assign rfl rfl) rfl rfl (by decide) ?_
  refine l_nil ?_
  refine x_next ?_
  refine c_block ?_
  refine c_loop (fun kq a W => ∃ (x1 : Int) (x2 : Int), swageref09_Number.l0 kq x1 x2 a0 = some r ∧ kq ≤ k ∧ At 51 [] [(0, .string a0), (4, .int .i64 x1), (5, .int .i64 x2)] I [] w I [] a W) k (fun a W hA => ⟨0, 0, H, (Nat.le_refl _), ⟨hA.fits.only ⟨rfl, rfl, rfl, trivial⟩, hA.ext⟩⟩) ?_
  clear H
  rintro kq a W ⟨x1, x2, H, hk, hA⟩
  refine here hA ?_
  clear hA a W
  cases kq with
  | zero => exact absurd H (by simp [swageref09_Number.l0])
  | succ k0 =>
    simp only [swageref09_Number.l0] at H
    refine c_seq ?_
    refine c_seq ?_
    refine g_plain ?_
    refine l_y (y_move rfl rfl) rfl rfl (by decide) ?_
    refine l_y (y_move rfl rfl) rfl rfl (by decide) ?_
    refine l_y (y_slen Tryd.underlying9 rfl rfl) rfl rfl (by decide) ?_
    refine l_y (y_bin rfl rfl rfl bi_lt) rfl rfl (by decide) ?_
    refine l_nil ?_
    refine x_next ?_
    by_cases c3 : x2 < (a0.size : Int)
    · rw [if_pos c3] at H
      refine s_lit (t := 10) rfl (decide_eq_true c3) ?_
      refine c_true rfl ?_
      refine c_skip ?_
      refine x_next ?_
      refine c_seq ?_
      refine c_block ?_
      refine c_seq ?_
      refine c_join (fun a W => ∃ (kq : Nat) (x4 : Bool), swageref09_Number.j8 kq x4 a0 x2 x1 = some r ∧ kq ≤ k0 ∧ At 51 [] [(0, .string a0), (4, .int .i64 x1), (5, .int .i64 x2), (21, .bool x4)] I [] w I [] a W) ?_ ?_
      · skip
        refine g_plain ?_
        refine l_y (y_move rfl rfl) rfl rfl (by decide) ?_
        refine l_y (y_move rfl rfl) rfl rfl (by decide) ?_
        by_cases c5 : 0 ≤ x2 ∧ x2 < (a0.size : Int)
        rotate_left
        · rw [if_neg c5] at H; exact absurd H (by simp)
        rw [if_pos c5] at H
        refine l_y (y_sindex Tryd.underlying9 rfl rfl rfl c5.1 c5.2 rfl) rfl rfl (by decide) ?_
        refine l_w rfl ?_
        obtain ⟨r6, hr6, H⟩ := Option.bind_eq_some_iff.1 H
        refine w_call (args := [.int .u8 (gb a0 x2)]) (caps := []) has136 rfl rfl rfl rfl (by decide) (fun a W F E => ?_)
        refine (swageref09_digit.calls k0 (gb a0 x2) I W r6 (E.st.sub (List.nil_sublist _)) hr6).mono ?_
        rintro e W' ⟨rfl, X⟩
        refine ⟨_, rfl, here (At.mk (F.put (by decide) _) (E.call0 X)) ?_⟩
        clear X E F W W' a
        refine l_y (y_not rfl rfl) rfl rfl (by decide) ?_
        refine l_y (y_move rfl rfl) rfl rfl (by decide) ?_
        by_cases c8 : r6 = true
        · rw [if_pos c8] at H
          refine s_lit (t := 18) rfl (not_f c8) ?_
          refine l_yg (y_move rfl rfl) rfl rfl rfl rfl rfl (by decide) ?_
          refine l_yg (y_bin rfl rfl rfl bi_gt) rfl rfl rfl rfl rfl (by decide) ?_
          refine l_y (y_pickf rfl rfl rfl) rfl rfl (by decide) ?_
          refine l_nil ?_
          exact fun a W hA => ⟨k0, (decide (922337203685477580 < x1)), H, (by omega), ⟨hA.fits.only ⟨rfl, rfl, rfl, rfl, trivial⟩, hA.ext⟩⟩
        · rw [if_neg c8] at H
          refine s_lit (t := 18) rfl (not_t (Bool.eq_false_iff.2 c8)) ?_
          refine l_off rfl rfl rfl rfl rfl rfl (by decide) ?_
          refine l_off rfl rfl rfl rfl rfl rfl (by decide) ?_
          refine l_y (y_pickt rfl rfl rfl) rfl rfl (by decide) ?_
          refine l_nil ?_
          exact fun a W hA => ⟨k0, true, H, (by omega), ⟨hA.fits.only ⟨rfl, rfl, rfl, rfl, trivial⟩, hA.ext⟩⟩
      clear H
      rintro a W ⟨kq, x4, H, hk, hA⟩
      refine here hA ?_
      clear hA a W
      cases kq with
      | zero => exact absurd H (by simp [swageref09_Number.j8])
      | succ k_j8 =>
        simp only [swageref09_Number.j8] at H
        by_cases c9 : x4 = true
        · rw [if_pos c9] at H
          refine s_lit (t := 21) rfl c9 ?_
          refine c_true rfl ?_
          refine c_seq ?_
          refine g_plain ?_
          refine l_y (y_assign rfl rfl) rfl rfl (by decide) ?_
          refine l_y (y_assign rfl rfl) rfl rfl (by decide) ?_
          refine l_nil ?_
          refine x_next ?_
          refine c_ret ?_
          refine x_then rfl ?_
          refine x_ret ?_
          refine x_then rfl ?_
          refine x_then rfl ?_
          refine x_ret ?_
          refine x_then rfl ?_
          obtain rfl := Option.some.inj H
          exact g_ret [.int .i64 0, .bool false] (congrArg Array.toList Tryd.results120) (.cons (.t rfl) (.cons (.t rfl) .nil)) (fun W E => ⟨rfl, E.drop (List.nil_sublist _)⟩)
        · rw [if_neg c9] at H
          refine s_lit (t := 21) rfl (Bool.eq_false_iff.2 c9) ?_
          refine c_false rfl ?_
          refine c_skip ?_
          refine x_next ?_
          refine c_seq ?_
          refine g_plain ?_
          refine l_y (y_move rfl rfl) rfl rfl (by decide) ?_
          refine l_y (y_move rfl rfl) rfl rfl (by decide) ?_
          by_cases c10 : 0 ≤ x2 ∧ x2 < (a0.size : Int)
          rotate_left
          · rw [if_neg c10] at H; exact absurd H (by simp)
          rw [if_pos c10] at H
          refine l_y (y_sindex Tryd.underlying9 rfl rfl rfl c10.1 c10.2 rfl) rfl rfl (by decide) ?_
          refine l_y (y_conv Tryd.underlying5 Tryd.underlying3 rfl rfl) rfl rfl (by decide) ?_
          refine l_y (y_bin rfl rfl rfl bi_sub) rfl rfl (by decide) ?_
          refine l_y (y_assign rfl rfl) rfl rfl (by decide) ?_
          refine l_nil ?_
          refine x_next ?_
          refine c_join (fun a W => ∃ (kq : Nat), swageref09_Number.j9 kq a0 x1 x2 = some r ∧ kq ≤ k_j8 ∧ At 51 [] [(0, .string a0), (4, .int .i64 x1), (5, .int .i64 x2), (6, .int .i64 (IntKind.i64.wrap ((IntKind.i64.wrap (gb a0 x2)) - 48)))] I [] w I [] a W) ?_ ?_
          · skip
            refine c_join (fun a W => ∃ (kq : Nat) (x11 : Bool), swageref09_Number.j10 kq x11 a0 x1 x2 = some r ∧ kq ≤ k_j8 ∧ At 51 [] [(0, .string a0), (4, .int .i64 x1), (5, .int .i64 x2), (6, .int .i64 (IntKind.i64.wrap ((IntKind.i64.wrap (gb a0 x2)) - 48))), (32, .bool x11)] I [] w I [] a W) ?_ ?_
            · skip
              refine g_plain ?_
              refine l_y (y_move rfl rfl) rfl rfl (by decide) ?_
              refine l_y (y_bin rfl rfl rfl bi_eq) rfl rfl (by decide) ?_
              refine l_y (y_move rfl rfl) rfl rfl (by decide) ?_
              by_cases c12 : x1 = 922337203685477580
              · rw [if_pos c12] at H
                refine s_lit (t := 29) rfl (decide_eq_true c12) ?_
                refine l_yg (y_move rfl rfl) rfl rfl rfl rfl rfl (by decide) ?_
                refine l_yg (y_bin rfl rfl rfl bi_gt) rfl rfl rfl rfl rfl (by decide) ?_
                refine l_y (y_pickt rfl rfl rfl) rfl rfl (by decide) ?_
                refine l_nil ?_
                exact fun a W hA => ⟨k_j8, (decide (7 < IntKind.i64.wrap ((IntKind.i64.wrap (gb a0 x2)) - 48))), H, (by omega), ⟨hA.fits.only ⟨rfl, rfl, rfl, rfl, rfl, trivial⟩, hA.ext⟩⟩
              · rw [if_neg c12] at H
                refine s_lit (t := 29) rfl (decide_eq_false c12) ?_
                refine l_off rfl rfl rfl rfl rfl rfl (by decide) ?_
                refine l_off rfl rfl rfl rfl rfl rfl (by decide) ?_
                refine l_y (y_pickf rfl rfl rfl) rfl rfl (by decide) ?_
                refine l_nil ?_
                exact fun a W hA => ⟨k_j8, false, H, (by omega), ⟨hA.fits.only ⟨rfl, rfl, rfl, rfl, rfl, trivial⟩, hA.ext⟩⟩
            clear H
            rintro a W ⟨kq, x11, H, hk, hA⟩
            refine here hA ?_
            clear hA a W
            cases kq with
            | zero => exact absurd H (by simp [swageref09_Number.j10])
            | succ k_j10 =>
              simp only [swageref09_Number.j10] at H
              by_cases c13 : x11 = true
              · rw [if_pos c13] at H
                refine s_lit (t := 32) rfl c13 ?_
                refine c_true rfl ?_
                refine c_seq ?_
                refine g_plain ?_
                refine l_y (y_assign rfl rfl) rfl rfl (by decide) ?_
                refine l_y (y_assign rfl rfl) rfl rfl (by decide) ?_
                refine l_nil ?_
                refine x_next ?_
                refine c_ret ?_
                refine x_then rfl ?_
                refine x_ret ?_
                refine x_then rfl ?_
                refine x_then rfl ?_
                refine x_ret ?_
                refine x_then rfl ?_
                obtain rfl := Option.some.inj H
                exact g_ret [.int .i64 0, .bool false] (congrArg Array.toList Tryd.results120) (.cons (.t rfl) (.cons (.t rfl) .nil)) (fun W E => ⟨rfl, E.drop (List.nil_sublist _)⟩)
              · rw [if_neg c13] at H
                refine s_lit (t := 32) rfl (Bool.eq_false_iff.2 c13) ?_
                refine c_false rfl ?_
                refine c_skip ?_
                exact fun a W hA => ⟨k_j10, H, (by omega), ⟨hA.fits.only ⟨rfl, rfl, rfl, rfl, trivial⟩, hA.ext⟩⟩
          clear H
          rintro a W ⟨kq, H, hk, hA⟩
          refine here hA ?_
          clear hA a W
          cases kq with
          | zero => exact absurd H (by simp [swageref09_Number.j9])
          | succ k_j9 =>
            simp only [swageref09_Number.j9] at H
            refine g_plain ?_
            refine l_y (y_move rfl rfl) rfl rfl (by decide) ?_
            refine l_y (y_bin rfl rfl rfl bi_mul) rfl rfl (by decide) ?_
            refine l_y (y_move rfl rfl) rfl rfl (by decide) ?_
            refine l_y (y_bin rfl rfl rfl bi_add) rfl rfl (by decide) ?_
            refine l_y (y_assign rfl rfl) rfl rfl (by decide) ?_
            refine l_nil ?_
            refine x_norm ?_
            refine x_next ?_
            refine g_plain ?_
            refine l_y (y_move rfl rfl) rfl rfl (by decide) ?_
            refine l_y (y_bin rfl rfl rfl bi_add) rfl rfl (by decide) ?_
            refine l_y (y_assign rfl rfl) rfl rfl (by decide) ?_
            refine l_nil ?_
            exact fun a W hA => ⟨k_j9, by omega, (IntKind.i64.wrap ((IntKind.i64.wrap (10 * x1)) + (IntKind.i64.wrap ((IntKind.i64.wrap (gb a0 x2)) - 48)))), (IntKind.i64.wrap (x2 + 1)), H, (by omega), ⟨hA.fits.only ⟨rfl, rfl, rfl, trivial⟩, hA.ext⟩⟩
    · rw [if_neg c3] at H
      refine s_lit (t := 10) rfl (decide_eq_false c3) ?_
      refine c_false rfl ?_
      refine c_exit ?_
      refine x_then rfl ?_
      refine x_then rfl ?_
      refine x_in ?_
      refine x_next ?_
      refine c_seq ?_
      refine c_seq ?_
      refine g_plain ?_
      refine l_y (y_move rfl rfl) rfl rfl (by decide) ?_
      refine l_y (y_slen Tryd.underlying9 rfl rfl) rfl rfl (by decide) ?_
      refine l_y (y_bin rfl rfl rfl bi_eq) rfl rfl (by decide) ?_
      refine l_y (y_move rfl rfl) rfl rfl (by decide) ?_
      by_cases c14 : (a0.size : Int) = 0
      · rw [if_pos c14] at H
        refine s_lit (t := 40) rfl (decide_eq_true c14) ?_
        refine l_off rfl rfl rfl rfl rfl rfl (by decide) ?_
        refine l_off rfl rfl rfl rfl rfl rfl (by decide) ?_
        refine l_off rfl rfl rfl rfl rfl rfl (by decide) ?_
        refine l_off rfl rfl rfl rfl rfl rfl (by decide) ?_
        refine l_offu rfl rfl rfl rfl rfl (by decide) ?_
        refine l_offu rfl rfl rfl rfl rfl (by decide) ?_
        refine l_offu rfl rfl rfl rfl rfl (by decide) ?_
        refine l_off rfl rfl rfl rfl rfl rfl (by decide) ?_
        refine l_y (y_pickt rfl rfl rfl) rfl rfl (by decide) ?_
        refine l_nil ?_
        refine x_next ?_
        refine c_true rfl ?_
        refine c_seq ?_
        refine g_plain ?_
        refine l_y (y_assign rfl rfl) rfl rfl (by decide) ?_
        refine l_y (y_assign rfl rfl) rfl rfl (by decide) ?_
        refine l_nil ?_
        refine x_next ?_
        refine c_ret ?_
        refine x_then rfl ?_
        obtain rfl := Option.some.inj H
        exact g_ret [.int .i64 0, .bool false] (congrArg Array.toList Tryd.results120) (.cons (.t rfl) (.cons (.t rfl) .nil)) (fun W E => ⟨rfl, E.drop (List.nil_sublist _)⟩)
      · rw [if_neg c14] at H
        refine s_lit (t := 40) rfl (decide_eq_false c14) ?_
        refine l_yg (y_move rfl rfl) rfl rfl rfl rfl rfl (by decide) ?_
        refine l_yg (y_slen Tryd.underlying9 rfl rfl) rfl rfl rfl rfl rfl (by decide) ?_
        refine l_yg (y_bin rfl rfl rfl bi_gt) rfl rfl rfl rfl rfl (by decide) ?_
        refine l_yg (y_move rfl rfl) rfl rfl rfl rfl rfl (by decide) ?_
        by_cases c15 : 1 < (a0.size : Int)
        · rw [if_pos c15] at H
          refine s_lit (t := 44) rfl (decide_eq_true c15) ?_
          refine l_yg (y_move rfl rfl) rfl rfl rfl rfl rfl (by decide) ?_
          by_cases c16 : 0 < (a0.size : Int)
          rotate_left
          · rw [if_neg c16] at H; exact absurd H (by simp)
          rw [if_pos c16] at H
          refine l_yg (y_sindex Tryd.underlying9 rfl rfl rfl (by decide) c16 rfl) rfl rfl rfl rfl rfl (by decide) ?_
          refine l_yg (y_bin rfl rfl rfl bi_eq) rfl rfl rfl rfl rfl (by decide) ?_
          refine l_yg (y_pickt rfl rfl rfl) rfl rfl rfl rfl rfl (by decide) ?_
          refine l_y (y_pickf rfl rfl rfl) rfl rfl (by decide) ?_
          refine l_nil ?_
          refine x_next ?_
          by_cases c17 : gb a0 0 = 48
          · rw [if_pos c17] at H
            refine s_lit (t := 49) rfl (decide_eq_true c17) ?_
            refine c_true rfl ?_
            refine c_seq ?_
            refine g_plain ?_
            refine l_y (y_assign rfl rfl) rfl rfl (by decide) ?_
            refine l_y (y_assign rfl rfl) rfl rfl (by decide) ?_
            refine l_nil ?_
            refine x_next ?_
            refine c_ret ?_
            refine x_then rfl ?_
            obtain rfl := Option.some.inj H
            exact g_ret [.int .i64 0, .bool false] (congrArg Array.toList Tryd.results120) (.cons (.t rfl) (.cons (.t rfl) .nil)) (fun W E => ⟨rfl, E.drop (List.nil_sublist _)⟩)
          · rw [if_neg c17] at H
            refine s_lit (t := 49) rfl (decide_eq_false c17) ?_
            refine c_false rfl ?_
            refine c_skip ?_
            refine x_next ?_
            refine c_seq ?_
            refine g_plain ?_
            refine l_y (y_move rfl rfl) rfl rfl (by decide) ?_
            refine l_y (y_assign rfl rfl) rfl rfl (by decide) ?_
            refine l_y (y_assign rfl rfl) rfl rfl (by decide) ?_
            refine l_nil ?_
            refine x_next ?_
            refine c_ret ?_
            obtain rfl := Option.some.inj H
            exact g_ret [.int .i64 x1, .bool true] (congrArg Array.toList Tryd.results120) (.cons (.t rfl) (.cons (.t rfl) .nil)) (fun W E => ⟨rfl, E.drop (List.nil_sublist _)⟩)
        · rw [if_neg c15] at H
          refine s_lit (t := 44) rfl (decide_eq_false c15) ?_
          refine l_off rfl rfl rfl rfl rfl rfl (by decide) ?_
          refine l_off rfl rfl rfl rfl rfl rfl (by decide) ?_
          refine l_off rfl rfl rfl rfl rfl rfl (by decide) ?_
          refine l_yg (y_pickf rfl rfl rfl) rfl rfl rfl rfl rfl (by decide) ?_
          refine l_y (y_pickf rfl rfl rfl) rfl rfl (by decide) ?_
          refine l_nil ?_
          refine x_next ?_
          refine c_false rfl ?_
          refine c_skip ?_
          refine x_next ?_
          refine c_seq ?_
          refine g_plain ?_
          refine l_y (y_move rfl rfl) rfl rfl (by decide) ?_
          refine l_y (y_assign rfl rfl) rfl rfl (by decide) ?_
          refine l_y (y_assign rfl rfl) rfl rfl (by decide) ?_
          refine l_nil ?_
          refine x_next ?_
          refine c_ret ?_
          obtain rfl := Option.some.inj H
          exact g_ret [.int .i64 x1, .bool true] (congrArg Array.toList Tryd.results120) (.cons (.t rfl) (.cons (.t rfl) .nil)) (fun W E => ⟨rfl, E.drop (List.nil_sublist _)⟩)
mutual
def swageref11_of.l0 : Nat → Int → (List GType) → GNode → Int → Int → Option (GType × Bool)
  | 0, _, _, _, _, _ => none
  | k + 1, x29, x30, a0, x10, x11 => (if x29 < (a0.Kids.length : Int) then (if 0 ≤ x29 ∧ x29 < (a0.Kids.length : Int) then ((swageref11_of.f k (rd a0.Kids x29)).bind fun r47 => (if r47.2 = true then (if (x30.length + 1) * 40 ≤ 140737488351232 then ((some (x30 ++ [r47.1] : List GType)).bind fun l58 => (swageref11_of.l0 k (IntKind.i64.wrap (x29 + 1)) l58 a0 x10 x11)) else none) else (some ((⟨x10, x11, x30⟩ : GType), false)))) else none) else (some ((⟨x10, x11, x30⟩ : GType), true)))
def swageref11_of.j2 : Nat → GNode → Int → Int → Option (GType × Bool)
  | 0, _, _, _ => none
  | k + 1, a0, x10, x11 => (swageref11_of.l0 k 0 [] a0 x10 x11)
def swageref11_of.j3 : Nat → Bool → Int → Int → GNode → Option (GType × Bool)
  | 0, _, _, _, _ => none
  | k + 1, x23, x10, x11, a0 => (if x23 = true then (some ((⟨x10, x11, ([] : List GType)⟩ : GType), false)) else (swageref11_of.j2 k a0 x10 x11))
def swageref11_of.j1 : Nat → Int → Int → GNode → Option (GType × Bool)
  | 0, _, _, _ => none
  | k + 1, x10, x11, a0 => (if (a0.Kids.length : Int) < 1 then (swageref11_of.j3 k true x10 x11 a0) else (if 1 < (a0.Kids.length : Int) then (swageref11_of.j3 k (!(decide (a0.Kind = 8))) x10 x11 a0) else (swageref11_of.j3 k false x10 x11 a0)))
def swageref11_of.f : Nat → GNode → Option (GType × Bool)
  | 0, _ => none
  | k + 1, a0 => (if a0.Kind = 5 then (some ((⟨1, 0, ([] : List GType)⟩ : GType), decide ((a0.Kids.length : Int) = 0))) else (if a0.Kind = 6 then (swageref11_of.j1 k 2 0 a0) else (if a0.Kind = 7 then ((swageref09_Number.f k a0.Text).bind fun r15 => (if r15.2 = true then (swageref11_of.j1 k 3 r15.1 a0) else (some ((⟨3, 0, ([] : List GType)⟩ : GType), false)))) else (if a0.Kind = 8 then (swageref11_of.j1 k 4 0 a0) else (some ((⟨0, 0, ([] : List GType)⟩ : GType), false))))))
end
def swageref11_of.Post (I : Imm) (O : List Ent) (w : World) (r : (GType × Bool)) (e : Ending) (w' : World) : Prop := ∃ (J : Imm) (A1 : Option Addr) (c1 : Nat), e = .returned (.tuple #[.agg #[.int .i64 r.1.Kind, .int .i64 r.1.Count, .slice A1 r.1.Kids.length c1], .bool r.2]) ∧ Ext I O w J O w' ∧ RowsG R_Type 3 40 J A1 r.1.Kids ∧ r.1.Kids.length ≤ c1
set_option maxRecDepth 100000 in
set_option maxHeartbeats 1000000 in
theorem swageref11_of.calls (k : Nat) : ∀ (a0 : GNode) (A1 : Option Addr) (c2 : Nat) (I : Imm) (w : World) (r : (GType × Bool)) (hr3 : RowsG R_Node 4 56 I A1 a0.Kids) (hc4 : a0.Kids.length ≤ c2), St I [] w → swageref11_of.f k a0 = some r →
  Calls Tryd.prog 74 #[.agg #[.int .i64 a0.Kind, .string a0.Text, .int .i64 a0.At, .slice A1 a0.Kids.length c2]] w (swageref11_of.Post I [] w r) := by
  induction k using Nat.strongRecOn with
  | _ k ih =>
  intro a0 A1 c2 I w r hr3 hc4 hS H
  have nhr3 := hr3.len
  cases k with
  | zero => exact absurd H (by simp [swageref11_of.f])
  | succ k =>
    simp only [swageref11_of.f] at H
    refine enter Tryd.func74 rfl Tryd.ntmps74 (Nat.le_of_ble_eq_true rfl) hS ?_
    refine c_seq ?_
    refine g_plain ?_
    refine l_w rfl ?_
    refine w_box (cs := [.int .i64 a0.Kind, .string a0.Text, .int .i64 a0.At, .slice A1 a0.Kids.length c2]) (m := 4) rfl rfl rfl rfl rfl (by decide) (fun β5 => ?_)
    refine l_w rfl ?_
    refine w_alloc (cs := [.int .i64 0, .int .i64 0, .slice none 0 0]) (m := 3) zz24 rfl rfl rfl rfl (by decide) (fun β6 => ?_)
    refine l_y (y_assign rfl rfl) rfl rfl (by decide) ?_
    refine l_nil ?_
    refine x_next ?_
    refine c_seq ?_
    refine g_plain ?_
    refine l_y (y_build [.int .i64 0, .int .i64 0, .slice none 0 0] st24 rfl rfl (by kernel_rfl)) rfl rfl (by decide) ?_
    refine l_w rfl ?_
    refine w_alloc (cs := [.int .i64 0, .int .i64 0, .slice none 0 0]) (m := 3) zz24 rfl rfl rfl rfl (by decide) (fun β7 => ?_)
    refine l_w rfl ?_
    refine w_store0 (cs' := [.int .i64 0, .int .i64 0, .slice none 0 0]) sz24 rfl rfl rfl rfl rfl (Nat.le_of_ble_eq_true rfl) rfl rfl ?_
    refine l_nil ?_
    refine x_next ?_
    refine c_seq ?_
    refine g_plain ?_
    refine l_y (y_field (j' := 3) fa36_3 rfl rfl rfl) rfl rfl (by decide) ?_
    refine l_y (y_load is34 rfl rfl (cl_own (i := 2) (j := 3) rfl rfl)) rfl rfl (by decide) ?_
    refine l_y (y_len Tryd.underlying34 rfl rfl) rfl rfl (by decide) ?_
    refine l_y (y_assign rfl rfl) rfl rfl (by decide) ?_
    refine l_nil ?_
    refine x_next ?_
    refine c_join (fun a W => ∃ (kq : Nat) (J8 : Imm) (x10 : Int) (x11 : Int), swageref11_of.j1 kq x10 x11 a0 = some r ∧ kq ≤ k ∧ Imm.le I J8 ∧ At 80 [] [(1, .pointer (some ⟨β5, 0, none⟩)), (2, .pointer (some ⟨β6, 0, none⟩)), (4, .pointer (some ⟨β7, 0, none⟩)), (5, .int .i64 (a0.Kids.length : Int))] I [] w J8 [.cells β7 24 [.int .i64 x10, .int .i64 x11, .slice none 0 0] 3, .cells β6 24 [.int .i64 0, .int .i64 0, .slice none 0 0] 3, .cells β5 36 [.int .i64 a0.Kind, .string a0.Text, .int .i64 a0.At, .slice A1 a0.Kids.length c2] 4] a W) ?_ ?_
    · skip
      refine c_seq ?_
      refine g_plain ?_
      refine l_y (y_field (j' := 0) fa36_0 rfl rfl rfl) rfl rfl (by decide) ?_
      refine l_y (y_load is3 rfl rfl (cl_own (i := 2) (j := 0) rfl rfl)) rfl rfl (by decide) ?_
      refine l_nil ?_
      refine x_next ?_
      refine c_block ?_
      refine c_seq ?_
      refine g_plain ?_
      refine l_y (y_bin rfl rfl rfl bi_eq) rfl rfl (by decide) ?_
      refine l_y (y_assign rfl rfl) rfl rfl (by decide) ?_
      refine l_nil ?_
      refine x_next ?_
      by_cases c12 : a0.Kind = 5
      · rw [if_pos c12] at H
        refine s_lit (t := 18) rfl (decide_eq_true c12) ?_
        refine c_true rfl ?_
        refine c_seq ?_
        refine g_plain ?_
        refine l_y (y_field (j' := 0) fa24_0 rfl rfl rfl) rfl rfl (by decide) ?_
        refine l_w rfl ?_
        refine w_store0 (cs' := [.int .i64 1, .int .i64 0, .slice none 0 0]) sz3 rfl rfl rfl rfl rfl (Nat.le_of_ble_eq_true rfl) rfl rfl ?_
        refine l_nil ?_
        refine x_next ?_
        refine c_seq ?_
        refine g_plain ?_
        refine l_y (y_loadA (cs := [.int .i64 1, .int .i64 0, .slice none 0 0]) ia24 rfl rfl rfl (cls_own (i := 0) rfl rfl)) rfl rfl (by decide) ?_
        refine l_y (y_move rfl rfl) rfl rfl (by decide) ?_
        refine l_y (y_bin rfl rfl rfl bi_eq) rfl rfl (by decide) ?_
        refine l_w rfl ?_
        refine w_store1 (cs' := [.int .i64 1, .int .i64 0, .slice none 0 0]) sz24 rfl rfl rfl rfl rfl (Nat.le_of_ble_eq_true rfl) rfl rfl ?_
        refine l_y (y_assign rfl rfl) rfl rfl (by decide) ?_
        refine l_nil ?_
        refine x_next ?_
        refine c_ret ?_
        refine x_ret ?_
        refine x_then rfl ?_
        obtain rfl := Option.some.inj H
        exact g_ret [.agg #[.int .i64 1, .int .i64 0, .slice none 0 0], .bool (decide ((a0.Kids.length : Int) = 0))] (congrArg Array.toList Tryd.results74) (.cons (.a (cs := [.int .i64 1, .int .i64 0, .slice none 0 0]) ia24 rfl rfl (cls_own (i := 1) rfl rfl)) (.cons (.t rfl) .nil)) (fun W E => ⟨_, none, 0, rfl, E.drop (List.nil_sublist _), (RowsG.nil _ _ _ _ _), (by first | assumption | exact OV.le (by assumption) | simp | omega)⟩)
      · rw [if_neg c12] at H
        refine s_lit (t := 18) rfl (decide_eq_false c12) ?_
        refine c_false rfl ?_
        refine c_seq ?_
        refine g_plain ?_
        refine l_y (y_bin rfl rfl rfl bi_eq) rfl rfl (by decide) ?_
        refine l_y (y_assign rfl rfl) rfl rfl (by decide) ?_
        refine l_nil ?_
        refine x_next ?_
        by_cases c13 : a0.Kind = 6
        · rw [if_pos c13] at H
          refine s_lit (t := 24) rfl (decide_eq_true c13) ?_
          refine c_true rfl ?_
          refine g_plain ?_
          refine l_y (y_field (j' := 0) fa24_0 rfl rfl rfl) rfl rfl (by decide) ?_
          refine l_w rfl ?_
          refine w_store0 (cs' := [.int .i64 2, .int .i64 0, .slice none 0 0]) sz3 rfl rfl rfl rfl rfl (Nat.le_of_ble_eq_true rfl) rfl rfl ?_
          refine l_nil ?_
          refine x_norm ?_
          refine s_perm pf2 ?_
          refine s_perm pf2 ?_
          refine s_perm pf2 ?_
          exact fun a W hA => ⟨k, _, 2, 0, H, (by omega), (Imm.rfl' _), ⟨hA.fits.only ⟨rfl, rfl, rfl, rfl, trivial⟩, hA.ext⟩⟩
        · rw [if_neg c13] at H
          refine s_lit (t := 24) rfl (decide_eq_false c13) ?_
          refine c_false rfl ?_
          refine c_seq ?_
          refine g_plain ?_
          refine l_y (y_bin rfl rfl rfl bi_eq) rfl rfl (by decide) ?_
          refine l_y (y_assign rfl rfl) rfl rfl (by decide) ?_
          refine l_nil ?_
          refine x_next ?_
          by_cases c14 : a0.Kind = 7
          · rw [if_pos c14] at H
            refine s_lit (t := 27) rfl (decide_eq_true c14) ?_
            refine c_true rfl ?_
            refine c_seq ?_
            refine g_plain ?_
            refine l_y (y_field (j' := 0) fa24_0 rfl rfl rfl) rfl rfl (by decide) ?_
            refine l_w rfl ?_
            refine w_store0 (cs' := [.int .i64 3, .int .i64 0, .slice none 0 0]) sz3 rfl rfl rfl rfl rfl (Nat.le_of_ble_eq_true rfl) rfl rfl ?_
            refine l_nil ?_
            refine x_next ?_
            refine c_seq ?_
            refine g_plain ?_
            refine l_y (y_field (j' := 1) fa36_1 rfl rfl rfl) rfl rfl (by decide) ?_
            refine l_y (y_load is9 rfl rfl (cl_own (i := 2) (j := 1) rfl rfl)) rfl rfl (by decide) ?_
            refine l_w rfl ?_
            obtain ⟨r15, hr15, H⟩ := Option.bind_eq_some_iff.1 H
            refine w_call (args := [.string a0.Text]) (caps := []) has120 rfl rfl rfl rfl (by decide) (fun a W F E => ?_)
            refine (swageref09_Number.calls k a0.Text I W r15 (E.st.sub (List.nil_sublist _)) hr15).mono ?_
            rintro e W' ⟨rfl, X⟩
            refine ⟨_, rfl, here (At.mk (F.put (by decide) _) (E.call0 X)) ?_⟩
            clear X E F W W' a
            refine l_y (y_move rfl rfl) rfl rfl (by decide) ?_
            refine l_y (y_extract rfl rfl rfl) rfl rfl (by decide) ?_
            refine l_y (y_extract rfl rfl rfl) rfl rfl (by decide) ?_
            refine l_y (y_assign rfl rfl) rfl rfl (by decide) ?_
            refine l_y (y_assign rfl rfl) rfl rfl (by decide) ?_
            refine l_nil ?_
            refine x_next ?_
            refine c_seq ?_
            refine c_seq ?_
            refine g_plain ?_
            refine l_y (y_move rfl rfl) rfl rfl (by decide) ?_
            refine l_y (y_not rfl rfl) rfl rfl (by decide) ?_
            refine l_nil ?_
            refine x_next ?_
            by_cases c17 : r15.2 = true
            · rw [if_pos c17] at H
              refine s_lit (t := 37) rfl (not_f c17) ?_
              refine c_false rfl ?_
              refine c_skip ?_
              refine x_next ?_
              refine g_plain ?_
              refine l_y (y_move rfl rfl) rfl rfl (by decide) ?_
              refine l_y (y_field (j' := 1) fa24_1 rfl rfl rfl) rfl rfl (by decide) ?_
              refine l_w rfl ?_
              refine w_store0 (cs' := [.int .i64 3, .int .i64 r15.1, .slice none 0 0]) sz3 rfl rfl rfl rfl rfl (Nat.le_of_ble_eq_true rfl) rfl rfl ?_
              refine l_nil ?_
              refine x_norm ?_
              refine s_perm pf2 ?_
              refine s_perm pf2 ?_
              refine s_perm pf2 ?_
              exact fun a W hA => ⟨k, _, 3, r15.1, H, (by omega), (Imm.rfl' _), ⟨hA.fits.only ⟨rfl, rfl, rfl, rfl, trivial⟩, hA.ext⟩⟩
            · rw [if_neg c17] at H
              refine s_lit (t := 37) rfl (not_t (Bool.eq_false_iff.2 c17)) ?_
              refine c_true rfl ?_
              refine c_seq ?_
              refine g_plain ?_
              refine l_y (y_loadA (cs := [.int .i64 3, .int .i64 0, .slice none 0 0]) ia24 rfl rfl rfl (cls_own (i := 0) rfl rfl)) rfl rfl (by decide) ?_
              refine l_w rfl ?_
              refine w_store1 (cs' := [.int .i64 3, .int .i64 0, .slice none 0 0]) sz24 rfl rfl rfl rfl rfl (Nat.le_of_ble_eq_true rfl) rfl rfl ?_
              refine l_y (y_assign rfl rfl) rfl rfl (by decide) ?_
              refine l_nil ?_
              refine x_next ?_
              refine c_ret ?_
              refine x_then rfl ?_
              refine x_ret ?_
              refine x_then rfl ?_
              obtain rfl := Option.some.inj H
              exact g_ret [.agg #[.int .i64 3, .int .i64 0, .slice none 0 0], .bool false] (congrArg Array.toList Tryd.results74) (.cons (.a (cs := [.int .i64 3, .int .i64 0, .slice none 0 0]) ia24 rfl rfl (cls_own (i := 1) rfl rfl)) (.cons (.t rfl) .nil)) (fun W E => ⟨_, none, 0, rfl, E.drop (List.nil_sublist _), (RowsG.nil _ _ _ _ _), (by first | assumption | exact OV.le (by assumption) | simp | omega)⟩)
          · rw [if_neg c14] at H
            refine s_lit (t := 27) rfl (decide_eq_false c14) ?_
            refine c_false rfl ?_
            refine c_seq ?_
            refine g_plain ?_
            refine l_y (y_bin rfl rfl rfl bi_eq) rfl rfl (by decide) ?_
            refine l_y (y_assign rfl rfl) rfl rfl (by decide) ?_
            refine l_nil ?_
            refine x_next ?_
            by_cases c18 : a0.Kind = 8
            · rw [if_pos c18] at H
              refine s_lit (t := 41) rfl (decide_eq_true c18) ?_
              refine c_true rfl ?_
              refine g_plain ?_
              refine l_y (y_field (j' := 0) fa24_0 rfl rfl rfl) rfl rfl (by decide) ?_
              refine l_w rfl ?_
              refine w_store0 (cs' := [.int .i64 4, .int .i64 0, .slice none 0 0]) sz3 rfl rfl rfl rfl rfl (Nat.le_of_ble_eq_true rfl) rfl rfl ?_
              refine l_nil ?_
              refine x_norm ?_
              refine s_perm pf2 ?_
              refine s_perm pf2 ?_
              refine s_perm pf2 ?_
              exact fun a W hA => ⟨k, _, 4, 0, H, (by omega), (Imm.rfl' _), ⟨hA.fits.only ⟨rfl, rfl, rfl, rfl, trivial⟩, hA.ext⟩⟩
            · rw [if_neg c18] at H
              refine s_lit (t := 41) rfl (decide_eq_false c18) ?_
              refine c_false rfl ?_
              refine c_seq ?_
              refine g_plain ?_
              refine l_y (y_loadA (cs := [.int .i64 0, .int .i64 0, .slice none 0 0]) ia24 rfl rfl rfl (cls_own (i := 0) rfl rfl)) rfl rfl (by decide) ?_
              refine l_w rfl ?_
              refine w_store1 (cs' := [.int .i64 0, .int .i64 0, .slice none 0 0]) sz24 rfl rfl rfl rfl rfl (Nat.le_of_ble_eq_true rfl) rfl rfl ?_
              refine l_y (y_assign rfl rfl) rfl rfl (by decide) ?_
              refine l_nil ?_
              refine x_next ?_
              refine c_ret ?_
              refine x_ret ?_
              refine x_then rfl ?_
              obtain rfl := Option.some.inj H
              exact g_ret [.agg #[.int .i64 0, .int .i64 0, .slice none 0 0], .bool false] (congrArg Array.toList Tryd.results74) (.cons (.a (cs := [.int .i64 0, .int .i64 0, .slice none 0 0]) ia24 rfl rfl (cls_own (i := 1) rfl rfl)) (.cons (.t rfl) .nil)) (fun W E => ⟨_, none, 0, rfl, E.drop (List.nil_sublist _), (RowsG.nil _ _ _ _ _), (by first | assumption | exact OV.le (by assumption) | simp | omega)⟩)
    clear H
    rintro a W ⟨kq, J8, x10, x11, H, hk, hl9, hA⟩
    refine here hA ?_
    clear hA a W
    cases kq with
    | zero => exact absurd H (by simp [swageref11_of.j1])
    | succ k_j1 =>
      simp only [swageref11_of.j1] at H
      refine c_join (fun a W => ∃ (kq : Nat) (J19 : Imm), swageref11_of.j2 kq a0 x10 x11 = some r ∧ kq ≤ k_j1 ∧ Imm.le J8 J19 ∧ At 80 [] [(1, .pointer (some ⟨β5, 0, none⟩)), (2, .pointer (some ⟨β6, 0, none⟩)), (4, .pointer (some ⟨β7, 0, none⟩)), (5, .int .i64 (a0.Kids.length : Int))] I [] w J19 [.cells β7 24 [.int .i64 x10, .int .i64 x11, .slice none 0 0] 3, .cells β6 24 [.int .i64 0, .int .i64 0, .slice none 0 0] 3, .cells β5 36 [.int .i64 a0.Kind, .string a0.Text, .int .i64 a0.At, .slice A1 a0.Kids.length c2] 4] a W) ?_ ?_
      · skip
        refine c_join (fun a W => ∃ (kq : Nat) (J21 : Imm) (x23 : Bool), swageref11_of.j3 kq x23 x10 x11 a0 = some r ∧ kq ≤ k_j1 ∧ Imm.le J8 J21 ∧ At 80 [] [(1, .pointer (some ⟨β5, 0, none⟩)), (2, .pointer (some ⟨β6, 0, none⟩)), (4, .pointer (some ⟨β7, 0, none⟩)), (5, .int .i64 (a0.Kids.length : Int)), (54, .bool x23)] I [] w J21 [.cells β7 24 [.int .i64 x10, .int .i64 x11, .slice none 0 0] 3, .cells β6 24 [.int .i64 0, .int .i64 0, .slice none 0 0] 3, .cells β5 36 [.int .i64 a0.Kind, .string a0.Text, .int .i64 a0.At, .slice A1 a0.Kids.length c2] 4] a W) ?_ ?_
        · skip
          refine g_plain ?_
          refine l_y (y_move rfl rfl) rfl rfl (by decide) ?_
          refine l_y (y_bin rfl rfl rfl bi_lt) rfl rfl (by decide) ?_
          refine l_y (y_move rfl rfl) rfl rfl (by decide) ?_
          by_cases c24 : (a0.Kids.length : Int) < 1
          · rw [if_pos c24] at H
            refine s_lit (t := 46) rfl (decide_eq_true c24) ?_
            refine l_off rfl rfl rfl rfl rfl rfl (by decide) ?_
            refine l_off rfl rfl rfl rfl rfl rfl (by decide) ?_
            refine l_off rfl rfl rfl rfl rfl rfl (by decide) ?_
            refine l_offu rfl rfl rfl rfl rfl (by decide) ?_
            refine l_offu rfl rfl rfl rfl rfl (by decide) ?_
            refine l_offu rfl rfl rfl rfl rfl (by decide) ?_
            refine l_off rfl rfl rfl rfl rfl rfl (by decide) ?_
            refine l_y (y_pickt rfl rfl rfl) rfl rfl (by decide) ?_
            refine l_nil ?_
            refine s_perm pf2 ?_
            refine s_perm pf2 ?_
            refine s_perm pf2 ?_
            exact fun a W hA => ⟨k_j1, _, true, H, (by omega), (Imm.rfl' _), ⟨hA.fits.only ⟨rfl, rfl, rfl, rfl, rfl, trivial⟩, hA.ext⟩⟩
          · rw [if_neg c24] at H
            refine s_lit (t := 46) rfl (decide_eq_false c24) ?_
            refine l_yg (y_move rfl rfl) rfl rfl rfl rfl rfl (by decide) ?_
            refine l_yg (y_bin rfl rfl rfl bi_gt) rfl rfl rfl rfl rfl (by decide) ?_
            refine l_yg (y_move rfl rfl) rfl rfl rfl rfl rfl (by decide) ?_
            by_cases c25 : 1 < (a0.Kids.length : Int)
            · rw [if_pos c25] at H
              refine s_lit (t := 49) rfl (decide_eq_true c25) ?_
              refine l_yg (y_field (j' := 0) fa36_0 rfl rfl rfl) rfl rfl rfl rfl rfl (by decide) ?_
              refine l_yg (y_load is3 rfl rfl (cl_own (i := 2) (j := 0) rfl rfl)) rfl rfl rfl rfl rfl (by decide) ?_
              refine l_yg (y_bin rfl rfl rfl bi_ne) rfl rfl rfl rfl rfl (by decide) ?_
              refine l_yg (y_pickt rfl rfl rfl) rfl rfl rfl rfl rfl (by decide) ?_
              refine l_y (y_pickf rfl rfl rfl) rfl rfl (by decide) ?_
              refine l_nil ?_
              refine s_perm pf2 ?_
              refine s_perm pf2 ?_
              refine s_perm pf2 ?_
              exact fun a W hA => ⟨k_j1, _, (!(decide (a0.Kind = 8))), H, (by omega), (Imm.rfl' _), ⟨hA.fits.only ⟨rfl, rfl, rfl, rfl, rfl, trivial⟩, hA.ext⟩⟩
            · rw [if_neg c25] at H
              refine s_lit (t := 49) rfl (decide_eq_false c25) ?_
              refine l_off rfl rfl rfl rfl rfl rfl (by decide) ?_
              refine l_off rfl rfl rfl rfl rfl rfl (by decide) ?_
              refine l_off rfl rfl rfl rfl rfl rfl (by decide) ?_
              refine l_yg (y_pickf rfl rfl rfl) rfl rfl rfl rfl rfl (by decide) ?_
              refine l_y (y_pickf rfl rfl rfl) rfl rfl (by decide) ?_
              refine l_nil ?_
              refine s_perm pf2 ?_
              refine s_perm pf2 ?_
              refine s_perm pf2 ?_
              exact fun a W hA => ⟨k_j1, _, false, H, (by omega), (Imm.rfl' _), ⟨hA.fits.only ⟨rfl, rfl, rfl, rfl, rfl, trivial⟩, hA.ext⟩⟩
        clear H
        rintro a W ⟨kq, J21, x23, H, hk, hl22, hA⟩
        refine here hA ?_
        clear hA a W
        cases kq with
        | zero => exact absurd H (by simp [swageref11_of.j3])
        | succ k_j3 =>
          simp only [swageref11_of.j3] at H
          by_cases c26 : x23 = true
          · rw [if_pos c26] at H
            refine s_lit (t := 54) rfl c26 ?_
            refine c_true rfl ?_
            refine c_seq ?_
            refine g_plain ?_
            refine l_y (y_loadA (cs := [.int .i64 x10, .int .i64 x11, .slice none 0 0]) ia24 rfl rfl rfl (cls_own (i := 0) rfl rfl)) rfl rfl (by decide) ?_
            refine l_w rfl ?_
            refine w_store1 (cs' := [.int .i64 x10, .int .i64 x11, .slice none 0 0]) sz24 rfl rfl rfl rfl rfl (Nat.le_of_ble_eq_true rfl) rfl rfl ?_
            refine l_y (y_assign rfl rfl) rfl rfl (by decide) ?_
            refine l_nil ?_
            refine x_next ?_
            refine c_ret ?_
            refine x_then rfl ?_
            obtain rfl := Option.some.inj H
            exact g_ret [.agg #[.int .i64 x10, .int .i64 x11, .slice none 0 0], .bool false] (congrArg Array.toList Tryd.results74) (.cons (.a (cs := [.int .i64 x10, .int .i64 x11, .slice none 0 0]) ia24 rfl rfl (cls_own (i := 1) rfl rfl)) (.cons (.t rfl) .nil)) (fun W E => ⟨_, none, 0, rfl, E.drop (List.nil_sublist _), (RowsG.nil _ _ _ _ _), (by first | assumption | exact OV.le (by assumption) | simp | omega)⟩)
          · rw [if_neg c26] at H
            refine s_lit (t := 54) rfl (Bool.eq_false_iff.2 c26) ?_
            refine c_false rfl ?_
            refine c_skip ?_
            refine s_perm pf2 ?_
            refine s_perm pf2 ?_
            refine s_perm pf2 ?_
            exact fun a W hA => ⟨k_j3, _, H, (by omega), hl22, ⟨hA.fits.only ⟨rfl, rfl, rfl, rfl, trivial⟩, hA.ext⟩⟩
      clear H
      rintro a W ⟨kq, J19, H, hk, hl20, hA⟩
      refine here hA ?_
      clear hA a W
      cases kq with
      | zero => exact absurd H (by simp [swageref11_of.j2])
      | succ k_j2 =>
        simp only [swageref11_of.j2] at H
        refine c_seq ?_
        refine c_seq ?_
        refine g_plain ?_
        refine l_y (y_assign rfl rfl) rfl rfl (by decide) ?_
        refine l_nil ?_
        refine x_next ?_
        refine c_block ?_
        refine s_nil (e := 24) (sz := 3) ?_
        refine s_perm pf3 ?_
        refine s_perm pf3 ?_
        refine s_perm pf3 ?_
        refine s_perm pf3 ?_
        refine c_loop (fun kq a W => ∃ (J27 : Imm) (x29 : Int) (x30 : List GType) (A31 : Option Addr) (cp32 : Nat) (css33 : List (List Value)), swageref11_of.l0 kq x29 x30 a0 x10 x11 = some r ∧ kq ≤ k_j2 ∧ Imm.le J19 J27 ∧ OwnR R_Type 3 J27 x30 css33 ∧ OV 40 A31 x30.length cp32 ∧ At 80 [] [(1, .pointer (some ⟨β5, 0, none⟩)), (2, .pointer (some ⟨β6, 0, none⟩)), (4, .pointer (some ⟨β7, 0, none⟩)), (5, .int .i64 (a0.Kids.length : Int)), (8, .int .i64 x29)] I [] w J27 [.row A31 24 (List.flatten css33) (cp32 * 3), .cells β7 24 [.int .i64 x10, .int .i64 x11, .slice A31 x30.length cp32] 3, .cells β6 24 [.int .i64 0, .int .i64 0, .slice none 0 0] 3, .cells β5 36 [.int .i64 a0.Kind, .string a0.Text, .int .i64 a0.At, .slice A1 a0.Kids.length c2] 4] a W) k_j2 (fun a W hA => ⟨_, 0, [], none, 0, [], H, (Nat.le_refl _), (Imm.rfl' _), (OwnR.nil R_Type _ _), (OV.none 40), ⟨hA.fits.only ⟨rfl, rfl, rfl, rfl, rfl, trivial⟩, hA.ext⟩⟩) ?_
        clear H
        rintro kq a W ⟨J27, x29, x30, A31, cp32, css33, H, hk, hl28, hO35, hV34, hA⟩
        refine here hA ?_
        clear hA a W
        cases kq with
        | zero => exact absurd H (by simp [swageref11_of.l0])
        | succ k0 =>
          simp only [swageref11_of.l0] at H
          refine c_seq ?_
          refine c_seq ?_
          refine g_plain ?_
          refine l_y (y_move rfl rfl) rfl rfl (by decide) ?_
          refine l_y (y_move rfl rfl) rfl rfl (by decide) ?_
          refine l_y (y_bin rfl rfl rfl bi_lt) rfl rfl (by decide) ?_
          refine l_nil ?_
          refine x_next ?_
          by_cases c36 : x29 < (a0.Kids.length : Int)
          · rw [if_pos c36] at H
            refine s_lit (t := 58) rfl (decide_eq_true c36) ?_
            refine c_true rfl ?_
            refine c_skip ?_
            refine x_next ?_
            refine c_seq ?_
            refine c_block ?_
            refine c_seq ?_
            refine g_plain ?_
            refine l_y (y_field (j' := 3) fa36_3 rfl rfl rfl) rfl rfl (by decide) ?_
            refine l_y (y_load is34 rfl rfl (cl_own (i := 3) (j := 3) rfl rfl)) rfl rfl (by decide) ?_
            refine l_y (y_move rfl rfl) rfl rfl (by decide) ?_
            by_cases c37 : 0 ≤ x29 ∧ x29 < (a0.Kids.length : Int)
            rotate_left
            · rw [if_neg c37] at H; exact absurd H (by simp)
            rw [if_pos c37] at H
            obtain ⟨b38, o39, hA_, hE40⟩ := hr3.elem (by omega)
            obtain rfl := hA_
            obtain ⟨cs43, hR44, hC45⟩ := hE40 x29 c37.1 c37.2
            obtain ⟨A41, c42, rfl, hr46, chr46⟩ := hR44.open
            refine l_y (y_index sl34 rfl rfl rfl c37.1 c37.2) rfl rfl (by decide) ?_
            refine l_y (y_loadA (cs := [.int .i64 ((rd a0.Kids x29).Kind), .string ((rd a0.Kids x29).Text), .int .i64 ((rd a0.Kids x29).At), .slice A41 (((rd a0.Kids x29).Kids).length) c42]) ia36 rfl rfl rfl (hC45.mono ((hl9.trans hl20).trans hl28)).cls) rfl rfl (by decide) ?_
            refine l_w rfl ?_
            obtain ⟨r47, hr47, H⟩ := Option.bind_eq_some_iff.1 H
            refine w_call (args := [.agg #[.int .i64 ((rd a0.Kids x29).Kind), .string ((rd a0.Kids x29).Text), .int .i64 ((rd a0.Kids x29).At), .slice A41 (((rd a0.Kids x29).Kids).length) c42]]) (caps := []) has74 rfl rfl rfl rfl (by decide) (fun a W F E => ?_)
            refine ((ih k0 (by omega)) (rd a0.Kids x29) A41 c42 J27 W r47 (hr46.mono R_Node.mono ((hl9.trans hl20).trans hl28)) (by first | assumption | simp | omega) (E.st.sub (List.nil_sublist _)) hr47).mono ?_
            rintro e W' ⟨J52, A48, c49, rfl, X, hr50, hc51⟩
            have hl53 := X.le
            refine ⟨_, rfl, here (At.mk (F.put (by decide) _) (E.call0 X)) ?_⟩
            clear X E F W W' a
            refine l_y (y_move rfl rfl) rfl rfl (by decide) ?_
            refine l_y (y_extract rfl rfl rfl) rfl rfl (by decide) ?_
            refine l_y (y_extract rfl rfl rfl) rfl rfl (by decide) ?_
            refine l_w rfl ?_
            refine w_alloc (cs := [.int .i64 0, .int .i64 0, .slice none 0 0]) (m := 3) zz24 rfl rfl rfl rfl (by decide) (fun β54 => ?_)
            refine l_w rfl ?_
            refine w_store0 (cs' := [.int .i64 r47.1.Kind, .int .i64 r47.1.Count, .slice A48 r47.1.Kids.length c49]) sz24 rfl rfl rfl rfl rfl (Nat.le_of_ble_eq_true rfl) rfl rfl ?_
            refine l_y (y_assign rfl rfl) rfl rfl (by decide) ?_
            refine l_nil ?_
            refine x_next ?_
            refine c_seq ?_
            refine c_seq ?_
            refine g_plain ?_
            refine l_y (y_move rfl rfl) rfl rfl (by decide) ?_
            refine l_y (y_not rfl rfl) rfl rfl (by decide) ?_
            refine l_nil ?_
            refine x_next ?_
            by_cases c55 : r47.2 = true
            · rw [if_pos c55] at H
              refine s_lit (t := 71) rfl (not_f c55) ?_
              refine c_false rfl ?_
              refine c_skip ?_
              refine x_next ?_
              refine g_plain ?_
              refine l_y (y_field (j' := 2) fa24_2 rfl rfl rfl) rfl rfl (by decide) ?_
              refine l_y (y_load is22 rfl rfl (cl_own (i := 2) (j := 2) rfl rfl)) rfl rfl (by decide) ?_
              refine l_y (y_loadA (cs := [.int .i64 r47.1.Kind, .int .i64 r47.1.Count, .slice A48 r47.1.Kids.length c49]) ia24 rfl rfl rfl (cls_own (i := 0) rfl rfl)) rfl rfl (by decide) ?_
              refine l_w rfl ?_
              refine w_buildS (m := 3) [.int .i64 r47.1.Kind, .int .i64 r47.1.Count, .slice A48 r47.1.Kids.length c49] Tryd.underlying22 ez24 rfl rfl (by kernel_rfl) (by kernel_rfl) rfl rfl (by decide) (fun β56 => ?_)
              by_cases c57 : (x30.length + 1) * 40 ≤ 140737488351232
              rotate_left
              · rw [if_neg c57] at H; exact absurd H (by simp)
              rw [if_pos c57] at H
              refine l_w rfl ?_
              obtain ⟨l58, hl58, H⟩ := Option.bind_eq_some_iff.1 H
              have hl58 := Option.some.inj hl58
              refine w_append2 (by_ := 40) (css := css33) (cys := [[.int .i64 r47.1.Kind, .int .i64 r47.1.Count, .slice A48 r47.1.Kids.length c49]]) (ys := [r47.1]) Tryd.underlying22 el24 rfl (by decide) (by decide) rfl rfl (hO35.mono R_Type.mono hl53) hV34 rfl (cls_own (i := 0) rfl rfl) (OwnR.cons (R_Type.of r47.1 A48 c49 hr50 (by first | assumption | simp | omega)) rfl (OwnR.nil _ _ _)) rfl (by decide) (by simp [Value.oneCell']) (by first | assumption | (simp; omega) | omega) l58 hl58 rfl (by decide) (fun g59 cp60 css61 hV62 hO63 => ?_)
              refine s_drop ((.cons _ (.refl _))) ?_
              refine l_y (y_field (j' := 2) fa24_2 rfl rfl rfl) rfl rfl (by decide) ?_
              refine l_w rfl ?_
              refine w_store2 (cs' := [.int .i64 x10, .int .i64 x11, .slice (some ⟨g59, 0, none⟩) l58.length cp60]) sz22 rfl rfl rfl rfl rfl (Nat.le_of_ble_eq_true rfl) rfl rfl ?_
              refine l_nil ?_
              refine x_norm ?_
              refine x_next ?_
              refine g_plain ?_
              refine l_y (y_move rfl rfl) rfl rfl (by decide) ?_
              refine l_y (y_bin rfl rfl rfl bi_add) rfl rfl (by decide) ?_
              refine l_y (y_assign rfl rfl) rfl rfl (by decide) ?_
              refine l_nil ?_
              refine s_perm pf4 ?_
              refine s_perm pf4 ?_
              refine s_perm pf4 ?_
              refine s_perm pf4 ?_
              refine s_drop ((.cons_cons _ (.cons_cons _ (.cons_cons _ (.cons_cons _ (List.nil_sublist _)))))) ?_
              exact fun a W hA => ⟨k0, by omega, _, (IntKind.i64.wrap (x29 + 1)), l58, (some ⟨g59, 0, none⟩), cp60, css61, H, (by omega), (hl28.trans hl53), hO63, hV62, ⟨hA.fits.only ⟨rfl, rfl, rfl, rfl, rfl, trivial⟩, hA.ext⟩⟩
            · rw [if_neg c55] at H
              refine s_lit (t := 71) rfl (not_t (Bool.eq_false_iff.2 c55)) ?_
              refine c_true rfl ?_
              refine c_seq ?_
              refine g_plain ?_
              refine l_y (y_loadA (cs := [.int .i64 x10, .int .i64 x11, .slice A31 x30.length cp32]) ia24 rfl rfl rfl (cls_own (i := 2) rfl rfl)) rfl rfl (by decide) ?_
              refine l_w rfl ?_
              refine w_store3 (cs' := [.int .i64 x10, .int .i64 x11, .slice A31 x30.length cp32]) sz24 rfl rfl rfl rfl rfl (Nat.le_of_ble_eq_true rfl) rfl rfl ?_
              refine l_y (y_assign rfl rfl) rfl rfl (by decide) ?_
              refine l_nil ?_
              refine x_next ?_
              refine c_ret ?_
              refine x_then rfl ?_
              refine x_ret ?_
              refine x_then rfl ?_
              refine x_then rfl ?_
              refine x_ret ?_
              refine x_then rfl ?_
              refine s_perm pf1 ?_
              refine s_freeze (by_ := 40) R_Type.mono (hO35.mono R_Type.mono hl53) hV34 (fun J64 hl65 hr66 => ?_)
              obtain rfl := Option.some.inj H
              exact g_ret [.agg #[.int .i64 x10, .int .i64 x11, .slice A31 x30.length cp32], .bool false] (congrArg Array.toList Tryd.results74) (.cons (.a (cs := [.int .i64 x10, .int .i64 x11, .slice A31 x30.length cp32]) ia24 rfl rfl (cls_own (i := 2) rfl rfl)) (.cons (.t rfl) .nil)) (fun W E => ⟨_, A31, cp32, rfl, E.drop (List.nil_sublist _), hr66, (by first | assumption | exact OV.le (by assumption) | simp | omega)⟩)
          · rw [if_neg c36] at H
            refine s_lit (t := 58) rfl (decide_eq_false c36) ?_
            refine c_false rfl ?_
            refine c_exit ?_
            refine x_then rfl ?_
            refine x_then rfl ?_
            refine x_in ?_
            refine x_next ?_
            refine c_seq ?_
            refine g_plain ?_
            refine l_y (y_loadA (cs := [.int .i64 x10, .int .i64 x11, .slice A31 x30.length cp32]) ia24 rfl rfl rfl (cls_own (i := 1) rfl rfl)) rfl rfl (by decide) ?_
            refine l_w rfl ?_
            refine w_store2 (cs' := [.int .i64 x10, .int .i64 x11, .slice A31 x30.length cp32]) sz24 rfl rfl rfl rfl rfl (Nat.le_of_ble_eq_true rfl) rfl rfl ?_
            refine l_y (y_assign rfl rfl) rfl rfl (by decide) ?_
            refine l_nil ?_
            refine x_next ?_
            refine c_ret ?_
            refine s_freeze (by_ := 40) R_Type.mono hO35 hV34 (fun J67 hl68 hr69 => ?_)
            obtain rfl := Option.some.inj H
            exact g_ret [.agg #[.int .i64 x10, .int .i64 x11, .slice A31 x30.length cp32], .bool true] (congrArg Array.toList Tryd.results74) (.cons (.a (cs := [.int .i64 x10, .int .i64 x11, .slice A31 x30.length cp32]) ia24 rfl rfl (cls_own (i := 1) rfl rfl)) (.cons (.t rfl) .nil)) (fun W E => ⟨_, A31, cp32, rfl, E.drop (List.nil_sublist _), hr69, (by first | assumption | exact OV.le (by assumption) | simp | omega)⟩)
def swageref11_Of.f (k : Nat) (a0 : GNode) : Option (GType × Int) := ((swageref11_of.f k a0).bind fun r7 => (if r7.2 = true then ((swageref11_Right.f k r7.1).bind fun r16 => (if r16 = true then (some (r7.1, 0)) else (some ((⟨0, 0, ([] : List GType)⟩ : GType), 5)))) else (some ((⟨0, 0, ([] : List GType)⟩ : GType), 1))))
def swageref11_Of.Post (I : Imm) (O : List Ent) (w : World) (r : (GType × Int)) (e : Ending) (w' : World) : Prop := ∃ (J : Imm) (A1 : Option Addr) (c1 : Nat), e = .returned (.tuple #[.agg #[.int .i64 r.1.Kind, .int .i64 r.1.Count, .slice A1 r.1.Kids.length c1], .int .i64 r.2]) ∧ Ext I O w J O w' ∧ RowsG R_Type 3 40 J A1 r.1.Kids ∧ r.1.Kids.length ≤ c1
set_option maxRecDepth 100000 in
set_option maxHeartbeats 1000000 in
theorem swageref11_Of.calls (k : Nat) : ∀ (a0 : GNode) (A1 : Option Addr) (c2 : Nat) (I : Imm) (w : World) (r : (GType × Int)) (hr3 : RowsG R_Node 4 56 I A1 a0.Kids) (hc4 : a0.Kids.length ≤ c2), St I [] w → swageref11_Of.f k a0 = some r →
  Calls Tryd.prog 30 #[.agg #[.int .i64 a0.Kind, .string a0.Text, .int .i64 a0.At, .slice A1 a0.Kids.length c2]] w (swageref11_Of.Post I [] w r) := by
  intro a0 A1 c2 I w r hr3 hc4 hS H
  have nhr3 := hr3.len
  simp only [swageref11_Of.f] at H
  refine enter Tryd.func30 rfl Tryd.ntmps30 (Nat.le_of_ble_eq_true rfl) hS ?_
  refine c_seq ?_
  refine g_plain ?_
  refine l_w rfl ?_
  refine w_box (cs := [.int .i64 a0.Kind, .string a0.Text, .int .i64 a0.At, .slice A1 a0.Kids.length c2]) (m := 4) rfl rfl rfl rfl rfl (by decide) (fun β5 => ?_)
  refine l_w rfl ?_
  refine w_alloc (cs := [.int .i64 0, .int .i64 0, .slice none 0 0]) (m := 3) zz24 rfl rfl rfl rfl (by decide) (fun β6 => ?_)
  refine l_y (y_assign rfl rfl) rfl rfl (by decide) ?_
  refine l_nil ?_
  refine x_next ?_
  refine c_seq ?_
  refine g_plain ?_
  refine l_y (y_loadA (cs := [.int .i64 a0.Kind, .string a0.Text, .int .i64 a0.At, .slice A1 a0.Kids.length c2]) ia36 rfl rfl rfl (cls_own (i := 1) rfl rfl)) rfl rfl (by decide) ?_
  refine l_w rfl ?_
  obtain ⟨r7, hr7, H⟩ := Option.bind_eq_some_iff.1 H
  refine w_call (args := [.agg #[.int .i64 a0.Kind, .string a0.Text, .int .i64 a0.At, .slice A1 a0.Kids.length c2]]) (caps := []) has74 rfl rfl rfl rfl (by decide) (fun a W F E => ?_)
  refine (swageref11_of.calls k a0 A1 c2 I W r7 hr3 (by first | assumption | simp | omega) (E.st.sub (List.nil_sublist _)) hr7).mono ?_
  rintro e W' ⟨J12, A8, c9, rfl, X, hr10, hc11⟩
  have hl13 := X.le
  refine ⟨_, rfl, here (At.mk (F.put (by decide) _) (E.call0 X)) ?_⟩
  clear X E F W W' a
  refine l_y (y_move rfl rfl) rfl rfl (by decide) ?_
  refine l_y (y_extract rfl rfl rfl) rfl rfl (by decide) ?_
  refine l_y (y_extract rfl rfl rfl) rfl rfl (by decide) ?_
  refine l_w rfl ?_
  refine w_alloc (cs := [.int .i64 0, .int .i64 0, .slice none 0 0]) (m := 3) zz24 rfl rfl rfl rfl (by decide) (fun β14 => ?_)
  refine l_w rfl ?_
  refine w_store0 (cs' := [.int .i64 r7.1.Kind, .int .i64 r7.1.Count, .slice A8 r7.1.Kids.length c9]) sz24 rfl rfl rfl rfl rfl (Nat.le_of_ble_eq_true rfl) rfl rfl ?_
  refine l_y (y_assign rfl rfl) rfl rfl (by decide) ?_
  refine l_nil ?_
  refine x_next ?_
  refine c_seq ?_
  refine c_seq ?_
  refine g_plain ?_
  refine l_y (y_move rfl rfl) rfl rfl (by decide) ?_
  refine l_y (y_not rfl rfl) rfl rfl (by decide) ?_
  refine l_nil ?_
  refine x_next ?_
  by_cases c15 : r7.2 = true
  · rw [if_pos c15] at H
    refine s_lit (t := 13) rfl (not_f c15) ?_
    refine c_false rfl ?_
    refine c_skip ?_
    refine x_next ?_
    refine c_seq ?_
    refine g_plain ?_
    refine l_y (y_loadA (cs := [.int .i64 r7.1.Kind, .int .i64 r7.1.Count, .slice A8 r7.1.Kids.length c9]) ia24 rfl rfl rfl (cls_own (i := 0) rfl rfl)) rfl rfl (by decide) ?_
    refine l_w rfl ?_
    obtain ⟨r16, hr16, H⟩ := Option.bind_eq_some_iff.1 H
    refine w_call (args := [.agg #[.int .i64 r7.1.Kind, .int .i64 r7.1.Count, .slice A8 r7.1.Kids.length c9]]) (caps := []) has20 rfl rfl rfl rfl (by decide) (fun a W F E => ?_)
    refine (swageref11_Right.calls k r7.1 A8 c9 J12 W r16 hr10 (by first | assumption | simp | omega) (E.st.sub (List.nil_sublist _)) hr16).mono ?_
    rintro e W' ⟨rfl, X⟩
    refine ⟨_, rfl, here (At.mk (F.put (by decide) _) (E.call0 X)) ?_⟩
    clear X E F W W' a
    refine l_y (y_assign rfl rfl) rfl rfl (by decide) ?_
    refine l_nil ?_
    refine x_next ?_
    refine c_seq ?_
    refine c_seq ?_
    refine g_plain ?_
    refine l_y (y_move rfl rfl) rfl rfl (by decide) ?_
    refine l_y (y_not rfl rfl) rfl rfl (by decide) ?_
    refine l_nil ?_
    refine x_next ?_
    by_cases c18 : r16 = true
    · rw [if_pos c18] at H
      refine s_lit (t := 18) rfl (not_f c18) ?_
      refine c_false rfl ?_
      refine c_skip ?_
      refine x_next ?_
      refine c_seq ?_
      refine g_plain ?_
      refine l_y (y_loadA (cs := [.int .i64 r7.1.Kind, .int .i64 r7.1.Count, .slice A8 r7.1.Kids.length c9]) ia24 rfl rfl rfl (cls_own (i := 0) rfl rfl)) rfl rfl (by decide) ?_
      refine l_w rfl ?_
      refine w_store1 (cs' := [.int .i64 r7.1.Kind, .int .i64 r7.1.Count, .slice A8 r7.1.Kids.length c9]) sz24 rfl rfl rfl rfl rfl (Nat.le_of_ble_eq_true rfl) rfl rfl ?_
      refine l_y (y_assign rfl rfl) rfl rfl (by decide) ?_
      refine l_nil ?_
      refine x_next ?_
      refine c_ret ?_
      obtain rfl := Option.some.inj H
      exact g_ret [.agg #[.int .i64 r7.1.Kind, .int .i64 r7.1.Count, .slice A8 r7.1.Kids.length c9], .int .i64 0] (congrArg Array.toList Tryd.results30) (.cons (.a (cs := [.int .i64 r7.1.Kind, .int .i64 r7.1.Count, .slice A8 r7.1.Kids.length c9]) ia24 rfl rfl (cls_own (i := 1) rfl rfl)) (.cons (.t rfl) .nil)) (fun W E => ⟨_, A8, c9, rfl, E.drop (List.nil_sublist _), hr10, (by first | assumption | exact OV.le (by assumption) | simp | omega)⟩)
    · rw [if_neg c18] at H
      refine s_lit (t := 18) rfl (not_t (Bool.eq_false_iff.2 c18)) ?_
      refine c_true rfl ?_
      refine c_seq ?_
      refine g_plain ?_
      refine l_y (y_build [.int .i64 0, .int .i64 0, .slice none 0 0] st24 rfl rfl (by kernel_rfl)) rfl rfl (by decide) ?_
      refine l_w rfl ?_
      refine w_store1 (cs' := [.int .i64 0, .int .i64 0, .slice none 0 0]) sz24 rfl rfl rfl rfl rfl (Nat.le_of_ble_eq_true rfl) rfl rfl ?_
      refine l_y (y_assign rfl rfl) rfl rfl (by decide) ?_
      refine l_nil ?_
      refine x_next ?_
      refine c_ret ?_
      refine x_then rfl ?_
      obtain rfl := Option.some.inj H
      exact g_ret [.agg #[.int .i64 0, .int .i64 0, .slice none 0 0], .int .i64 5] (congrArg Array.toList Tryd.results30) (.cons (.a (cs := [.int .i64 0, .int .i64 0, .slice none 0 0]) ia24 rfl rfl (cls_own (i := 1) rfl rfl)) (.cons (.t rfl) .nil)) (fun W E => ⟨_, none, 0, rfl, E.drop (List.nil_sublist _), (RowsG.nil _ _ _ _ _), (by first | assumption | exact OV.le (by assumption) | simp | omega)⟩)
  · rw [if_neg c15] at H
    refine s_lit (t := 13) rfl (not_t (Bool.eq_false_iff.2 c15)) ?_
    refine c_true rfl ?_
    refine c_seq ?_
    refine g_plain ?_
    refine l_y (y_build [.int .i64 0, .int .i64 0, .slice none 0 0] st24 rfl rfl (by kernel_rfl)) rfl rfl (by decide) ?_
    refine l_w rfl ?_
    refine w_store1 (cs' := [.int .i64 0, .int .i64 0, .slice none 0 0]) sz24 rfl rfl rfl rfl rfl (Nat.le_of_ble_eq_true rfl) rfl rfl ?_
    refine l_y (y_assign rfl rfl) rfl rfl (by decide) ?_
    refine l_nil ?_
    refine x_next ?_
    refine c_ret ?_
    refine x_then rfl ?_
    obtain rfl := Option.some.inj H
    exact g_ret [.agg #[.int .i64 0, .int .i64 0, .slice none 0 0], .int .i64 1] (congrArg Array.toList Tryd.results30) (.cons (.a (cs := [.int .i64 0, .int .i64 0, .slice none 0 0]) ia24 rfl rfl (cls_own (i := 1) rfl rfl)) (.cons (.t rfl) .nil)) (fun W E => ⟨_, none, 0, rfl, E.drop (List.nil_sublist _), (RowsG.nil _ _ _ _ _), (by first | assumption | exact OV.le (by assumption) | simp | omega)⟩)
mutual
def types_kindOf.j3 : Nat → Bool → GNode → Option Int
  | 0, _, _ => none
  | k + 1, x12, a0 => (if x12 = true then (some 3) else (if a0.Kind = 8 then (if 0 < (a0.Kids.length : Int) then (some 4) else (some 0)) else (some 0)))
def types_kindOf.j2 : Nat → Bool → GNode → Option Int
  | 0, _, _ => none
  | k + 1, x9, a0 => (if x9 = true then (some 2) else (if a0.Kind = 7 then (types_kindOf.j3 k (decide ((a0.Kids.length : Int) = 1)) a0) else (types_kindOf.j3 k false a0)))
def types_kindOf.j1 : Nat → Bool → GNode → Option Int
  | 0, _, _ => none
  | k + 1, x6, a0 => (if x6 = true then (some 1) else (if a0.Kind = 6 then (types_kindOf.j2 k (decide ((a0.Kids.length : Int) = 1)) a0) else (types_kindOf.j2 k false a0)))
end
def types_kindOf.f (k : Nat) (a0 : GNode) : Option Int := (if a0.Kind = 5 then (types_kindOf.j1 k (decide ((a0.Kids.length : Int) = 0)) a0) else (types_kindOf.j1 k false a0))
def types_kindOf.Post (I : Imm) (O : List Ent) (w : World) (r : Int) (e : Ending) (w' : World) : Prop := e = .returned (.int .i64 r) ∧ Ext I O w I O w'
set_option maxRecDepth 100000 in
set_option maxHeartbeats 1000000 in
theorem types_kindOf.calls (k : Nat) : ∀ (a0 : GNode) (A1 : Option Addr) (c2 : Nat) (I : Imm) (w : World) (r : Int) (hr3 : RowsG R_Node 4 56 I A1 a0.Kids) (hc4 : a0.Kids.length ≤ c2), St I [] w → types_kindOf.f k a0 = some r →
  Calls Tryd.prog 118 #[.agg #[.int .i64 a0.Kind, .string a0.Text, .int .i64 a0.At, .slice A1 a0.Kids.length c2]] w (types_kindOf.Post I [] w r) := by
  intro a0 A1 c2 I w r hr3 hc4 hS H
  have nhr3 := hr3.len
  simp only [types_kindOf.f] at H
  refine enter Tryd.func118 rfl Tryd.ntmps118 (Nat.le_of_ble_eq_true rfl) hS ?_
  refine c_seq ?_
  refine g_plain ?_
  refine l_w rfl ?_
  refine w_box (cs := [.int .i64 a0.Kind, .string a0.Text, .int .i64 a0.At, .slice A1 a0.Kids.length c2]) (m := 4) rfl rfl rfl rfl rfl (by decide) (fun β5 => ?_)
  refine l_y (y_assign rfl rfl) rfl rfl (by decide) ?_
  refine l_nil ?_
  refine x_next ?_
  refine c_seq ?_
  refine c_block ?_
  refine c_join (fun a W => ∃ (kq : Nat) (x6 : Bool), types_kindOf.j1 kq x6 a0 = some r ∧ kq ≤ k ∧ At 43 [] [(1, .pointer (some ⟨β5, 0, none⟩)), (3, .bool x6)] I [] w I [.cells β5 36 [.int .i64 a0.Kind, .string a0.Text, .int .i64 a0.At, .slice A1 a0.Kids.length c2] 4] a W) ?_ ?_
  · skip
    refine g_plain ?_
    refine l_y (y_field (j' := 0) fa36_0 rfl rfl rfl) rfl rfl (by decide) ?_
    refine l_y (y_load is3 rfl rfl (cl_own (i := 0) (j := 0) rfl rfl)) rfl rfl (by decide) ?_
    refine l_y (y_bin rfl rfl rfl bi_eq) rfl rfl (by decide) ?_
    refine l_y (y_move rfl rfl) rfl rfl (by decide) ?_
    by_cases c7 : a0.Kind = 5
    · rw [if_pos c7] at H
      refine s_lit (t := 7) rfl (decide_eq_true c7) ?_
      refine l_yg (y_field (j' := 3) fa36_3 rfl rfl rfl) rfl rfl rfl rfl rfl (by decide) ?_
      refine l_yg (y_load is34 rfl rfl (cl_own (i := 0) (j := 3) rfl rfl)) rfl rfl rfl rfl rfl (by decide) ?_
      refine l_yg (y_len Tryd.underlying34 rfl rfl) rfl rfl rfl rfl rfl (by decide) ?_
      refine l_yg (y_bin rfl rfl rfl bi_eq) rfl rfl rfl rfl rfl (by decide) ?_
      refine l_y (y_pickt rfl rfl rfl) rfl rfl (by decide) ?_
      refine l_y (y_assign rfl rfl) rfl rfl (by decide) ?_
      refine l_nil ?_
      exact fun a W hA => ⟨k, (decide ((a0.Kids.length : Int) = 0)), H, (by omega), ⟨hA.fits.only ⟨rfl, rfl, trivial⟩, hA.ext⟩⟩
    · rw [if_neg c7] at H
      refine s_lit (t := 7) rfl (decide_eq_false c7) ?_
      refine l_off rfl rfl rfl rfl rfl rfl (by decide) ?_
      refine l_off rfl rfl rfl rfl rfl rfl (by decide) ?_
      refine l_off rfl rfl rfl rfl rfl rfl (by decide) ?_
      refine l_off rfl rfl rfl rfl rfl rfl (by decide) ?_
      refine l_y (y_pickf rfl rfl rfl) rfl rfl (by decide) ?_
      refine l_y (y_assign rfl rfl) rfl rfl (by decide) ?_
      refine l_nil ?_
      exact fun a W hA => ⟨k, false, H, (by omega), ⟨hA.fits.only ⟨rfl, rfl, trivial⟩, hA.ext⟩⟩
  clear H
  rintro a W ⟨kq, x6, H, hk, hA⟩
  refine here hA ?_
  clear hA a W
  cases kq with
  | zero => exact absurd H (by simp [types_kindOf.j1])
  | succ k_j1 =>
    simp only [types_kindOf.j1] at H
    by_cases c8 : x6 = true
    · rw [if_pos c8] at H
      refine s_lit (t := 3) rfl c8 ?_
      refine c_true rfl ?_
      refine c_seq ?_
      refine g_plain ?_
      refine l_y (y_assign rfl rfl) rfl rfl (by decide) ?_
      refine l_nil ?_
      refine x_next ?_
      refine c_ret ?_
      refine x_ret ?_
      refine x_then rfl ?_
      obtain rfl := Option.some.inj H
      exact g_ret [.int .i64 1] (congrArg Array.toList Tryd.results118) (.cons (.t rfl) .nil) (fun W E => ⟨rfl, E.drop (List.nil_sublist _)⟩)
    · rw [if_neg c8] at H
      refine s_lit (t := 3) rfl (Bool.eq_false_iff.2 c8) ?_
      refine c_false rfl ?_
      refine c_join (fun a W => ∃ (kq : Nat) (x9 : Bool), types_kindOf.j2 kq x9 a0 = some r ∧ kq ≤ k_j1 ∧ At 43 [] [(1, .pointer (some ⟨β5, 0, none⟩)), (13, .bool x9)] I [] w I [.cells β5 36 [.int .i64 a0.Kind, .string a0.Text, .int .i64 a0.At, .slice A1 a0.Kids.length c2] 4] a W) ?_ ?_
      · skip
        refine g_plain ?_
        refine l_y (y_field (j' := 0) fa36_0 rfl rfl rfl) rfl rfl (by decide) ?_
        refine l_y (y_load is3 rfl rfl (cl_own (i := 0) (j := 0) rfl rfl)) rfl rfl (by decide) ?_
        refine l_y (y_bin rfl rfl rfl bi_eq) rfl rfl (by decide) ?_
        refine l_y (y_move rfl rfl) rfl rfl (by decide) ?_
        by_cases c10 : a0.Kind = 6
        · rw [if_pos c10] at H
          refine s_lit (t := 17) rfl (decide_eq_true c10) ?_
          refine l_yg (y_field (j' := 3) fa36_3 rfl rfl rfl) rfl rfl rfl rfl rfl (by decide) ?_
          refine l_yg (y_load is34 rfl rfl (cl_own (i := 0) (j := 3) rfl rfl)) rfl rfl rfl rfl rfl (by decide) ?_
          refine l_yg (y_len Tryd.underlying34 rfl rfl) rfl rfl rfl rfl rfl (by decide) ?_
          refine l_yg (y_bin rfl rfl rfl bi_eq) rfl rfl rfl rfl rfl (by decide) ?_
          refine l_y (y_pickt rfl rfl rfl) rfl rfl (by decide) ?_
          refine l_y (y_assign rfl rfl) rfl rfl (by decide) ?_
          refine l_nil ?_
          exact fun a W hA => ⟨k_j1, (decide ((a0.Kids.length : Int) = 1)), H, (by omega), ⟨hA.fits.only ⟨rfl, rfl, trivial⟩, hA.ext⟩⟩
        · rw [if_neg c10] at H
          refine s_lit (t := 17) rfl (decide_eq_false c10) ?_
          refine l_off rfl rfl rfl rfl rfl rfl (by decide) ?_
          refine l_off rfl rfl rfl rfl rfl rfl (by decide) ?_
          refine l_off rfl rfl rfl rfl rfl rfl (by decide) ?_
          refine l_off rfl rfl rfl rfl rfl rfl (by decide) ?_
          refine l_y (y_pickf rfl rfl rfl) rfl rfl (by decide) ?_
          refine l_y (y_assign rfl rfl) rfl rfl (by decide) ?_
          refine l_nil ?_
          exact fun a W hA => ⟨k_j1, false, H, (by omega), ⟨hA.fits.only ⟨rfl, rfl, trivial⟩, hA.ext⟩⟩
      clear H
      rintro a W ⟨kq, x9, H, hk, hA⟩
      refine here hA ?_
      clear hA a W
      cases kq with
      | zero => exact absurd H (by simp [types_kindOf.j2])
      | succ k_j2 =>
        simp only [types_kindOf.j2] at H
        by_cases c11 : x9 = true
        · rw [if_pos c11] at H
          refine s_lit (t := 13) rfl c11 ?_
          refine c_true rfl ?_
          refine c_seq ?_
          refine g_plain ?_
          refine l_y (y_assign rfl rfl) rfl rfl (by decide) ?_
          refine l_nil ?_
          refine x_next ?_
          refine c_ret ?_
          refine x_ret ?_
          refine x_then rfl ?_
          obtain rfl := Option.some.inj H
          exact g_ret [.int .i64 2] (congrArg Array.toList Tryd.results118) (.cons (.t rfl) .nil) (fun W E => ⟨rfl, E.drop (List.nil_sublist _)⟩)
        · rw [if_neg c11] at H
          refine s_lit (t := 13) rfl (Bool.eq_false_iff.2 c11) ?_
          refine c_false rfl ?_
          refine c_join (fun a W => ∃ (kq : Nat) (x12 : Bool), types_kindOf.j3 kq x12 a0 = some r ∧ kq ≤ k_j2 ∧ At 43 [] [(1, .pointer (some ⟨β5, 0, none⟩)), (23, .bool x12)] I [] w I [.cells β5 36 [.int .i64 a0.Kind, .string a0.Text, .int .i64 a0.At, .slice A1 a0.Kids.length c2] 4] a W) ?_ ?_
          · skip
            refine g_plain ?_
            refine l_y (y_field (j' := 0) fa36_0 rfl rfl rfl) rfl rfl (by decide) ?_
            refine l_y (y_load is3 rfl rfl (cl_own (i := 0) (j := 0) rfl rfl)) rfl rfl (by decide) ?_
            refine l_y (y_bin rfl rfl rfl bi_eq) rfl rfl (by decide) ?_
            refine l_y (y_move rfl rfl) rfl rfl (by decide) ?_
            by_cases c13 : a0.Kind = 7
            · rw [if_pos c13] at H
              refine s_lit (t := 27) rfl (decide_eq_true c13) ?_
              refine l_yg (y_field (j' := 3) fa36_3 rfl rfl rfl) rfl rfl rfl rfl rfl (by decide) ?_
              refine l_yg (y_load is34 rfl rfl (cl_own (i := 0) (j := 3) rfl rfl)) rfl rfl rfl rfl rfl (by decide) ?_
              refine l_yg (y_len Tryd.underlying34 rfl rfl) rfl rfl rfl rfl rfl (by decide) ?_
              refine l_yg (y_bin rfl rfl rfl bi_eq) rfl rfl rfl rfl rfl (by decide) ?_
              refine l_y (y_pickt rfl rfl rfl) rfl rfl (by decide) ?_
              refine l_y (y_assign rfl rfl) rfl rfl (by decide) ?_
              refine l_nil ?_
              exact fun a W hA => ⟨k_j2, (decide ((a0.Kids.length : Int) = 1)), H, (by omega), ⟨hA.fits.only ⟨rfl, rfl, trivial⟩, hA.ext⟩⟩
            · rw [if_neg c13] at H
              refine s_lit (t := 27) rfl (decide_eq_false c13) ?_
              refine l_off rfl rfl rfl rfl rfl rfl (by decide) ?_
              refine l_off rfl rfl rfl rfl rfl rfl (by decide) ?_
              refine l_off rfl rfl rfl rfl rfl rfl (by decide) ?_
              refine l_off rfl rfl rfl rfl rfl rfl (by decide) ?_
              refine l_y (y_pickf rfl rfl rfl) rfl rfl (by decide) ?_
              refine l_y (y_assign rfl rfl) rfl rfl (by decide) ?_
              refine l_nil ?_
              exact fun a W hA => ⟨k_j2, false, H, (by omega), ⟨hA.fits.only ⟨rfl, rfl, trivial⟩, hA.ext⟩⟩
          clear H
          rintro a W ⟨kq, x12, H, hk, hA⟩
          refine here hA ?_
          clear hA a W
          cases kq with
          | zero => exact absurd H (by simp [types_kindOf.j3])
          | succ k_j3 =>
            simp only [types_kindOf.j3] at H
            by_cases c14 : x12 = true
            · rw [if_pos c14] at H
              refine s_lit (t := 23) rfl c14 ?_
              refine c_true rfl ?_
              refine c_seq ?_
              refine g_plain ?_
              refine l_y (y_assign rfl rfl) rfl rfl (by decide) ?_
              refine l_nil ?_
              refine x_next ?_
              refine c_ret ?_
              refine x_ret ?_
              refine x_then rfl ?_
              obtain rfl := Option.some.inj H
              exact g_ret [.int .i64 3] (congrArg Array.toList Tryd.results118) (.cons (.t rfl) .nil) (fun W E => ⟨rfl, E.drop (List.nil_sublist _)⟩)
            · rw [if_neg c14] at H
              refine s_lit (t := 23) rfl (Bool.eq_false_iff.2 c14) ?_
              refine c_false rfl ?_
              refine c_seq ?_
              refine g_plain ?_
              refine l_y (y_field (j' := 0) fa36_0 rfl rfl rfl) rfl rfl (by decide) ?_
              refine l_y (y_load is3 rfl rfl (cl_own (i := 0) (j := 0) rfl rfl)) rfl rfl (by decide) ?_
              refine l_y (y_bin rfl rfl rfl bi_eq) rfl rfl (by decide) ?_
              refine l_y (y_move rfl rfl) rfl rfl (by decide) ?_
              by_cases c15 : a0.Kind = 8
              · rw [if_pos c15] at H
                refine s_lit (t := 37) rfl (decide_eq_true c15) ?_
                refine l_yg (y_field (j' := 3) fa36_3 rfl rfl rfl) rfl rfl rfl rfl rfl (by decide) ?_
                refine l_yg (y_load is34 rfl rfl (cl_own (i := 0) (j := 3) rfl rfl)) rfl rfl rfl rfl rfl (by decide) ?_
                refine l_yg (y_len Tryd.underlying34 rfl rfl) rfl rfl rfl rfl rfl (by decide) ?_
                refine l_yg (y_bin rfl rfl rfl bi_gt) rfl rfl rfl rfl rfl (by decide) ?_
                refine l_y (y_pickt rfl rfl rfl) rfl rfl (by decide) ?_
                refine l_y (y_assign rfl rfl) rfl rfl (by decide) ?_
                refine l_nil ?_
                refine x_next ?_
                by_cases c16 : 0 < (a0.Kids.length : Int)
                · rw [if_pos c16] at H
                  refine s_lit (t := 33) rfl (decide_eq_true c16) ?_
                  refine c_true rfl ?_
                  refine c_seq ?_
                  refine g_plain ?_
                  refine l_y (y_assign rfl rfl) rfl rfl (by decide) ?_
                  refine l_nil ?_
                  refine x_next ?_
                  refine c_ret ?_
                  refine x_ret ?_
                  refine x_then rfl ?_
                  obtain rfl := Option.some.inj H
                  exact g_ret [.int .i64 4] (congrArg Array.toList Tryd.results118) (.cons (.t rfl) .nil) (fun W E => ⟨rfl, E.drop (List.nil_sublist _)⟩)
                · rw [if_neg c16] at H
                  refine s_lit (t := 33) rfl (decide_eq_false c16) ?_
                  refine c_false rfl ?_
                  refine c_skip ?_
                  refine x_norm ?_
                  refine x_next ?_
                  refine c_seq ?_
                  refine g_plain ?_
                  refine l_y (y_assign rfl rfl) rfl rfl (by decide) ?_
                  refine l_nil ?_
                  refine x_next ?_
                  refine c_ret ?_
                  obtain rfl := Option.some.inj H
                  exact g_ret [.int .i64 0] (congrArg Array.toList Tryd.results118) (.cons (.t rfl) .nil) (fun W E => ⟨rfl, E.drop (List.nil_sublist _)⟩)
              · rw [if_neg c15] at H
                refine s_lit (t := 37) rfl (decide_eq_false c15) ?_
                refine l_off rfl rfl rfl rfl rfl rfl (by decide) ?_
                refine l_off rfl rfl rfl rfl rfl rfl (by decide) ?_
                refine l_off rfl rfl rfl rfl rfl rfl (by decide) ?_
                refine l_off rfl rfl rfl rfl rfl rfl (by decide) ?_
                refine l_y (y_pickf rfl rfl rfl) rfl rfl (by decide) ?_
                refine l_y (y_assign rfl rfl) rfl rfl (by decide) ?_
                refine l_nil ?_
                refine x_next ?_
                refine c_false rfl ?_
                refine c_skip ?_
                refine x_norm ?_
                refine x_next ?_
                refine c_seq ?_
                refine g_plain ?_
                refine l_y (y_assign rfl rfl) rfl rfl (by decide) ?_
                refine l_nil ?_
                refine x_next ?_
                refine c_ret ?_
                obtain rfl := Option.some.inj H
                exact g_ret [.int .i64 0] (congrArg Array.toList Tryd.results118) (.cons (.t rfl) .nil) (fun W E => ⟨rfl, E.drop (List.nil_sublist _)⟩)
mutual
def types_of.l0 : Nat → Int → (List GType) → GNode → Int → Int → Option (GType × Bool)
  | 0, _, _, _, _, _ => none
  | k + 1, x20, x21, a0, r7, x13 => (if x20 < (a0.Kids.length : Int) then (if 0 ≤ x20 ∧ x20 < (a0.Kids.length : Int) then ((types_of.f k (rd a0.Kids x20)).bind fun r39 => (if r39.2 = true then (if (x21.length + 1) * 40 ≤ 140737488351232 then ((some (x21 ++ [r39.1] : List GType)).bind fun l50 => (types_of.l0 k (IntKind.i64.wrap (x20 + 1)) l50 a0 r7 x13)) else none) else (some ((⟨r7, x13, x21⟩ : GType), false)))) else none) else (some ((⟨r7, x13, x21⟩ : GType), true)))
def types_of.j1 : Nat → Bool → Int → Int → GNode → Option (GType × Bool)
  | 0, _, _, _, _ => none
  | k + 1, x12, x13, r7, a0 => (if x12 = true then (types_of.l0 k 0 [] a0 r7 x13) else (some ((⟨r7, x13, ([] : List GType)⟩ : GType), false)))
def types_of.f : Nat → GNode → Option (GType × Bool)
  | 0, _ => none
  | k + 1, a0 => ((types_kindOf.f k a0).bind fun r7 => (if r7 = 3 then ((token_Number.f k a0.Text).bind fun r15 => (types_of.j1 k r15.2 r15.1 r7 a0)) else (types_of.j1 k (!(decide (r7 = 0))) 0 r7 a0)))
end
def types_of.Post (I : Imm) (O : List Ent) (w : World) (r : (GType × Bool)) (e : Ending) (w' : World) : Prop := ∃ (J : Imm) (A1 : Option Addr) (c1 : Nat), e = .returned (.tuple #[.agg #[.int .i64 r.1.Kind, .int .i64 r.1.Count, .slice A1 r.1.Kids.length c1], .bool r.2]) ∧ Ext I O w J O w' ∧ RowsG R_Type 3 40 J A1 r.1.Kids ∧ r.1.Kids.length ≤ c1
set_option maxRecDepth 100000 in
set_option maxHeartbeats 1000000 in
theorem types_of.calls (k : Nat) : ∀ (a0 : GNode) (A1 : Option Addr) (c2 : Nat) (I : Imm) (w : World) (r : (GType × Bool)) (hr3 : RowsG R_Node 4 56 I A1 a0.Kids) (hc4 : a0.Kids.length ≤ c2), St I [] w → types_of.f k a0 = some r →
  Calls Tryd.prog 73 #[.agg #[.int .i64 a0.Kind, .string a0.Text, .int .i64 a0.At, .slice A1 a0.Kids.length c2]] w (types_of.Post I [] w r) := by
  induction k using Nat.strongRecOn with
  | _ k ih =>
  intro a0 A1 c2 I w r hr3 hc4 hS H
  have nhr3 := hr3.len
  cases k with
  | zero => exact absurd H (by simp [types_of.f])
  | succ k =>
    simp only [types_of.f] at H
    refine enter Tryd.func73 rfl Tryd.ntmps73 (Nat.le_of_ble_eq_true rfl) hS ?_
    refine c_seq ?_
    refine g_plain ?_
    refine l_w rfl ?_
    refine w_box (cs := [.int .i64 a0.Kind, .string a0.Text, .int .i64 a0.At, .slice A1 a0.Kids.length c2]) (m := 4) rfl rfl rfl rfl rfl (by decide) (fun β5 => ?_)
    refine l_w rfl ?_
    refine w_alloc (cs := [.int .i64 0, .int .i64 0, .slice none 0 0]) (m := 3) zz24 rfl rfl rfl rfl (by decide) (fun β6 => ?_)
    refine l_y (y_assign rfl rfl) rfl rfl (by decide) ?_
    refine l_nil ?_
    refine x_next ?_
    refine c_seq ?_
    refine g_plain ?_
    refine l_y (y_loadA (cs := [.int .i64 a0.Kind, .string a0.Text, .int .i64 a0.At, .slice A1 a0.Kids.length c2]) ia36 rfl rfl rfl (cls_own (i := 1) rfl rfl)) rfl rfl (by decide) ?_
    refine l_w rfl ?_
    obtain ⟨r7, hr7, H⟩ := Option.bind_eq_some_iff.1 H
    refine w_call (args := [.agg #[.int .i64 a0.Kind, .string a0.Text, .int .i64 a0.At, .slice A1 a0.Kids.length c2]]) (caps := []) has118 rfl rfl rfl rfl (by decide) (fun a W F E => ?_)
    refine (types_kindOf.calls k a0 A1 c2 I W r7 hr3 (by first | assumption | simp | omega) (E.st.sub (List.nil_sublist _)) hr7).mono ?_
    rintro e W' ⟨rfl, X⟩
    refine ⟨_, rfl, here (At.mk (F.put (by decide) _) (E.call0 X)) ?_⟩
    clear X E F W W' a
    refine l_y (y_build [.int .i64 r7, .int .i64 0, .slice none 0 0] st24 rfl rfl (by kernel_rfl)) rfl rfl (by decide) ?_
    refine l_w rfl ?_
    refine w_alloc (cs := [.int .i64 0, .int .i64 0, .slice none 0 0]) (m := 3) zz24 rfl rfl rfl rfl (by decide) (fun β9 => ?_)
    refine l_w rfl ?_
    refine w_store0 (cs' := [.int .i64 r7, .int .i64 0, .slice none 0 0]) sz24 rfl rfl rfl rfl rfl (Nat.le_of_ble_eq_true rfl) rfl rfl ?_
    refine l_nil ?_
    refine x_next ?_
    refine c_seq ?_
    refine g_plain ?_
    refine l_y (y_field (j' := 0) fa24_0 rfl rfl rfl) rfl rfl (by decide) ?_
    refine l_y (y_load is3 rfl rfl (cl_own (i := 0) (j := 0) rfl rfl)) rfl rfl (by decide) ?_
    refine l_y (y_bin rfl rfl rfl bi_ne) rfl rfl (by decide) ?_
    refine l_y (y_assign rfl rfl) rfl rfl (by decide) ?_
    refine l_nil ?_
    refine x_next ?_
    refine c_join (fun a W => ∃ (kq : Nat) (J10 : Imm) (x12 : Bool) (x13 : Int), types_of.j1 kq x12 x13 r7 a0 = some r ∧ kq ≤ k ∧ Imm.le I J10 ∧ At 52 [] [(1, .pointer (some ⟨β5, 0, none⟩)), (2, .pointer (some ⟨β6, 0, none⟩)), (4, .pointer (some ⟨β9, 0, none⟩)), (5, .bool x12)] I [] w J10 [.cells β9 24 [.int .i64 r7, .int .i64 x13, .slice none 0 0] 3, .cells β6 24 [.int .i64 0, .int .i64 0, .slice none 0 0] 3, .cells β5 36 [.int .i64 a0.Kind, .string a0.Text, .int .i64 a0.At, .slice A1 a0.Kids.length c2] 4] a W) ?_ ?_
    · skip
      refine c_seq ?_
      refine g_plain ?_
      refine l_y (y_field (j' := 0) fa24_0 rfl rfl rfl) rfl rfl (by decide) ?_
      refine l_y (y_load is3 rfl rfl (cl_own (i := 0) (j := 0) rfl rfl)) rfl rfl (by decide) ?_
      refine l_y (y_bin rfl rfl rfl bi_eq) rfl rfl (by decide) ?_
      refine l_nil ?_
      refine x_next ?_
      by_cases c14 : r7 = 3
      · rw [if_pos c14] at H
        refine s_lit (t := 18) rfl (decide_eq_true c14) ?_
        refine c_true rfl ?_
        refine g_plain ?_
        refine l_y (y_field (j' := 1) fa36_1 rfl rfl rfl) rfl rfl (by decide) ?_
        refine l_y (y_load is9 rfl rfl (cl_own (i := 2) (j := 1) rfl rfl)) rfl rfl (by decide) ?_
        refine l_w rfl ?_
        obtain ⟨r15, hr15, H⟩ := Option.bind_eq_some_iff.1 H
        refine w_call (args := [.string a0.Text]) (caps := []) has119 rfl rfl rfl rfl (by decide) (fun a W F E => ?_)
        refine (token_Number.calls k a0.Text I W r15 (E.st.sub (List.nil_sublist _)) hr15).mono ?_
        rintro e W' ⟨rfl, X⟩
        refine ⟨_, rfl, here (At.mk (F.put (by decide) _) (E.call0 X)) ?_⟩
        clear X E F W W' a
        refine l_y (y_move rfl rfl) rfl rfl (by decide) ?_
        refine l_y (y_extract rfl rfl rfl) rfl rfl (by decide) ?_
        refine l_y (y_extract rfl rfl rfl) rfl rfl (by decide) ?_
        refine l_y (y_field (j' := 1) fa24_1 rfl rfl rfl) rfl rfl (by decide) ?_
        refine l_w rfl ?_
        refine w_store0 (cs' := [.int .i64 r7, .int .i64 r15.1, .slice none 0 0]) sz3 rfl rfl rfl rfl rfl (Nat.le_of_ble_eq_true rfl) rfl rfl ?_
        refine l_y (y_assign rfl rfl) rfl rfl (by decide) ?_
        refine l_nil ?_
        refine s_perm pf2 ?_
        refine s_perm pf2 ?_
        refine s_perm pf2 ?_
        exact fun a W hA => ⟨k, _, r15.2, r15.1, H, (by omega), (Imm.rfl' _), ⟨hA.fits.only ⟨rfl, rfl, rfl, rfl, trivial⟩, hA.ext⟩⟩
      · rw [if_neg c14] at H
        refine s_lit (t := 18) rfl (decide_eq_false c14) ?_
        refine c_false rfl ?_
        refine c_skip ?_
        refine s_perm pf2 ?_
        refine s_perm pf2 ?_
        refine s_perm pf2 ?_
        exact fun a W hA => ⟨k, _, (!(decide (r7 = 0))), 0, H, (by omega), (Imm.rfl' _), ⟨hA.fits.only ⟨rfl, rfl, rfl, rfl, trivial⟩, hA.ext⟩⟩
    clear H
    rintro a W ⟨kq, J10, x12, x13, H, hk, hl11, hA⟩
    refine here hA ?_
    clear hA a W
    cases kq with
    | zero => exact absurd H (by simp [types_of.j1])
    | succ k_j1 =>
      simp only [types_of.j1] at H
      refine c_seq ?_
      refine c_seq ?_
      refine g_plain ?_
      refine l_y (y_move rfl rfl) rfl rfl (by decide) ?_
      refine l_y (y_not rfl rfl) rfl rfl (by decide) ?_
      refine l_nil ?_
      refine x_next ?_
      by_cases c17 : x12 = true
      · rw [if_pos c17] at H
        refine s_lit (t := 27) rfl (not_f c17) ?_
        refine c_false rfl ?_
        refine c_skip ?_
        refine x_next ?_
        refine c_seq ?_
        refine c_seq ?_
        refine g_plain ?_
        refine l_y (y_field (j' := 3) fa36_3 rfl rfl rfl) rfl rfl (by decide) ?_
        refine l_y (y_load is34 rfl rfl (cl_own (i := 2) (j := 3) rfl rfl)) rfl rfl (by decide) ?_
        refine l_y (y_len Tryd.underlying34 rfl rfl) rfl rfl (by decide) ?_
        refine l_y (y_move rfl rfl) rfl rfl (by decide) ?_
        refine l_nil ?_
        refine x_next ?_
        refine c_block ?_
        refine s_nil (e := 24) (sz := 3) ?_
        refine s_perm pf3 ?_
        refine s_perm pf3 ?_
        refine s_perm pf3 ?_
        refine s_perm pf3 ?_
        refine c_loop (fun kq a W => ∃ (J18 : Imm) (x20 : Int) (x21 : List GType) (A22 : Option Addr) (cp23 : Nat) (css24 : List (List Value)), types_of.l0 kq x20 x21 a0 r7 x13 = some r ∧ kq ≤ k_j1 ∧ Imm.le J10 J18 ∧ OwnR R_Type 3 J18 x21 css24 ∧ OV 40 A22 x21.length cp23 ∧ At 52 [] [(2, .pointer (some ⟨β6, 0, none⟩)), (4, .pointer (some ⟨β9, 0, none⟩)), (30, .slice A1 a0.Kids.length c2), (31, .int .i64 (a0.Kids.length : Int)), (32, .int .i64 x20)] I [] w J18 [.row A22 24 (List.flatten css24) (cp23 * 3), .cells β9 24 [.int .i64 r7, .int .i64 x13, .slice A22 x21.length cp23] 3, .cells β6 24 [.int .i64 0, .int .i64 0, .slice none 0 0] 3, .cells β5 36 [.int .i64 a0.Kind, .string a0.Text, .int .i64 a0.At, .slice A1 a0.Kids.length c2] 4] a W) k_j1 (fun a W hA => ⟨_, 0, [], none, 0, [], H, (Nat.le_refl _), (Imm.rfl' _), (OwnR.nil R_Type _ _), (OV.none 40), ⟨hA.fits.only ⟨rfl, rfl, rfl, rfl, rfl, trivial⟩, hA.ext⟩⟩) ?_
        clear H
        rintro kq a W ⟨J18, x20, x21, A22, cp23, css24, H, hk, hl19, hO26, hV25, hA⟩
        refine here hA ?_
        clear hA a W
        cases kq with
        | zero => exact absurd H (by simp [types_of.l0])
        | succ k0 =>
          simp only [types_of.l0] at H
          refine c_seq ?_
          refine g_plain ?_
          refine l_y (y_bin rfl rfl rfl bi_lt) rfl rfl (by decide) ?_
          refine l_nil ?_
          refine x_next ?_
          refine c_seq ?_
          by_cases c27 : x20 < (a0.Kids.length : Int)
          · rw [if_pos c27] at H
            refine s_lit (t := 33) rfl (decide_eq_true c27) ?_
            refine c_true rfl ?_
            refine c_skip ?_
            refine x_next ?_
            refine c_seq ?_
            refine c_block ?_
            refine c_seq ?_
            refine g_plain ?_
            by_cases c28 : 0 ≤ x20 ∧ x20 < (a0.Kids.length : Int)
            rotate_left
            · rw [if_neg c28] at H; exact absurd H (by simp)
            rw [if_pos c28] at H
            obtain ⟨b29, o30, hA_, hE31⟩ := hr3.elem (by omega)
            obtain rfl := hA_
            obtain ⟨cs34, hR35, hC36⟩ := hE31 x20 c28.1 c28.2
            obtain ⟨A32, c33, rfl, hr37, chr37⟩ := hR35.open
            refine l_y (y_index sl34 rfl rfl rfl c28.1 c28.2) rfl rfl (by decide) ?_
            refine l_y (y_loadA (cs := [.int .i64 ((rd a0.Kids x20).Kind), .string ((rd a0.Kids x20).Text), .int .i64 ((rd a0.Kids x20).At), .slice A32 (((rd a0.Kids x20).Kids).length) c33]) ia36 rfl rfl rfl (hC36.mono (hl11.trans hl19)).cls) rfl rfl (by decide) ?_
            refine l_w rfl ?_
            refine w_alloc (cs := [.int .i64 0, .string (⟨#[]⟩ : ByteArray), .int .i64 0, .slice none 0 0]) (m := 4) zz36 rfl rfl rfl rfl (by decide) (fun β38 => ?_)
            refine l_w rfl ?_
            refine w_store0 (cs' := [.int .i64 ((rd a0.Kids x20).Kind), .string ((rd a0.Kids x20).Text), .int .i64 ((rd a0.Kids x20).At), .slice A32 (((rd a0.Kids x20).Kids).length) c33]) sz36 rfl rfl rfl rfl rfl (Nat.le_of_ble_eq_true rfl) rfl rfl ?_
            refine l_nil ?_
            refine x_next ?_
            refine c_seq ?_
            refine g_plain ?_
            refine l_y (y_loadA (cs := [.int .i64 ((rd a0.Kids x20).Kind), .string ((rd a0.Kids x20).Text), .int .i64 ((rd a0.Kids x20).At), .slice A32 (((rd a0.Kids x20).Kids).length) c33]) ia36 rfl rfl rfl (cls_own (i := 0) rfl rfl)) rfl rfl (by decide) ?_
            refine l_w rfl ?_
            obtain ⟨r39, hr39, H⟩ := Option.bind_eq_some_iff.1 H
            refine w_call (args := [.agg #[.int .i64 ((rd a0.Kids x20).Kind), .string ((rd a0.Kids x20).Text), .int .i64 ((rd a0.Kids x20).At), .slice A32 (((rd a0.Kids x20).Kids).length) c33]]) (caps := []) has73 rfl rfl rfl rfl (by decide) (fun a W F E => ?_)
            refine ((ih k0 (by omega)) (rd a0.Kids x20) A32 c33 J18 W r39 (hr37.mono R_Node.mono (hl11.trans hl19)) (by first | assumption | simp | omega) (E.st.sub (List.nil_sublist _)) hr39).mono ?_
            rintro e W' ⟨J44, A40, c41, rfl, X, hr42, hc43⟩
            have hl45 := X.le
            refine ⟨_, rfl, here (At.mk (F.put (by decide) _) (E.call0 X)) ?_⟩
            clear X E F W W' a
            refine l_y (y_move rfl rfl) rfl rfl (by decide) ?_
            refine l_y (y_extract rfl rfl rfl) rfl rfl (by decide) ?_
            refine l_y (y_extract rfl rfl rfl) rfl rfl (by decide) ?_
            refine l_w rfl ?_
            refine w_alloc (cs := [.int .i64 0, .int .i64 0, .slice none 0 0]) (m := 3) zz24 rfl rfl rfl rfl (by decide) (fun β46 => ?_)
            refine l_w rfl ?_
            refine w_store0 (cs' := [.int .i64 r39.1.Kind, .int .i64 r39.1.Count, .slice A40 r39.1.Kids.length c41]) sz24 rfl rfl rfl rfl rfl (Nat.le_of_ble_eq_true rfl) rfl rfl ?_
            refine l_y (y_assign rfl rfl) rfl rfl (by decide) ?_
            refine l_nil ?_
            refine x_next ?_
            refine c_seq ?_
            refine c_seq ?_
            refine g_plain ?_
            refine l_y (y_move rfl rfl) rfl rfl (by decide) ?_
            refine l_y (y_not rfl rfl) rfl rfl (by decide) ?_
            refine l_nil ?_
            refine x_next ?_
            by_cases c47 : r39.2 = true
            · rw [if_pos c47] at H
              refine s_lit (t := 42) rfl (not_f c47) ?_
              refine c_false rfl ?_
              refine c_skip ?_
              refine x_next ?_
              refine g_plain ?_
              refine l_y (y_field (j' := 2) fa24_2 rfl rfl rfl) rfl rfl (by decide) ?_
              refine l_y (y_load is22 rfl rfl (cl_own (i := 3) (j := 2) rfl rfl)) rfl rfl (by decide) ?_
              refine l_y (y_loadA (cs := [.int .i64 r39.1.Kind, .int .i64 r39.1.Count, .slice A40 r39.1.Kids.length c41]) ia24 rfl rfl rfl (cls_own (i := 0) rfl rfl)) rfl rfl (by decide) ?_
              refine l_w rfl ?_
              refine w_buildS (m := 3) [.int .i64 r39.1.Kind, .int .i64 r39.1.Count, .slice A40 r39.1.Kids.length c41] Tryd.underlying22 ez24 rfl rfl (by kernel_rfl) (by kernel_rfl) rfl rfl (by decide) (fun β48 => ?_)
              by_cases c49 : (x21.length + 1) * 40 ≤ 140737488351232
              rotate_left
              · rw [if_neg c49] at H; exact absurd H (by simp)
              rw [if_pos c49] at H
              refine l_w rfl ?_
              obtain ⟨l50, hl50, H⟩ := Option.bind_eq_some_iff.1 H
              have hl50 := Option.some.inj hl50
              refine w_append3 (by_ := 40) (css := css24) (cys := [[.int .i64 r39.1.Kind, .int .i64 r39.1.Count, .slice A40 r39.1.Kids.length c41]]) (ys := [r39.1]) Tryd.underlying22 el24 rfl (by decide) (by decide) rfl rfl (hO26.mono R_Type.mono hl45) hV25 rfl (cls_own (i := 0) rfl rfl) (OwnR.cons (R_Type.of r39.1 A40 c41 hr42 (by first | assumption | simp | omega)) rfl (OwnR.nil _ _ _)) rfl (by decide) (by simp [Value.oneCell']) (by first | assumption | (simp; omega) | omega) l50 hl50 rfl (by decide) (fun g51 cp52 css53 hV54 hO55 => ?_)
              refine s_drop ((.cons _ (.refl _))) ?_
              refine l_y (y_field (j' := 2) fa24_2 rfl rfl rfl) rfl rfl (by decide) ?_
              refine l_w rfl ?_
              refine w_store3 (cs' := [.int .i64 r7, .int .i64 x13, .slice (some ⟨g51, 0, none⟩) l50.length cp52]) sz22 rfl rfl rfl rfl rfl (Nat.le_of_ble_eq_true rfl) rfl rfl ?_
              refine l_nil ?_
              refine x_norm ?_
              refine x_next ?_
              refine g_plain ?_
              refine l_y (y_bin rfl rfl rfl bi_add) rfl rfl (by decide) ?_
              refine l_y (y_move rfl rfl) rfl rfl (by decide) ?_
              refine l_nil ?_
              refine s_perm pf5 ?_
              refine s_perm pf5 ?_
              refine s_perm pf5 ?_
              refine s_perm pf5 ?_
              refine s_drop ((.cons_cons _ (.cons_cons _ (.cons_cons _ (.cons_cons _ (List.nil_sublist _)))))) ?_
              exact fun a W hA => ⟨k0, by omega, _, (IntKind.i64.wrap (x20 + 1)), l50, (some ⟨g51, 0, none⟩), cp52, css53, H, (by omega), (hl19.trans hl45), hO55, hV54, ⟨hA.fits.only ⟨rfl, rfl, rfl, rfl, rfl, trivial⟩, hA.ext⟩⟩
            · rw [if_neg c47] at H
              refine s_lit (t := 42) rfl (not_t (Bool.eq_false_iff.2 c47)) ?_
              refine c_true rfl ?_
              refine c_seq ?_
              refine g_plain ?_
              refine l_y (y_loadA (cs := [.int .i64 r7, .int .i64 x13, .slice A22 x21.length cp23]) ia24 rfl rfl rfl (cls_own (i := 3) rfl rfl)) rfl rfl (by decide) ?_
              refine l_w rfl ?_
              refine w_store4 (cs' := [.int .i64 r7, .int .i64 x13, .slice A22 x21.length cp23]) sz24 rfl rfl rfl rfl rfl (Nat.le_of_ble_eq_true rfl) rfl rfl ?_
              refine l_y (y_assign rfl rfl) rfl rfl (by decide) ?_
              refine l_nil ?_
              refine x_next ?_
              refine c_ret ?_
              refine x_then rfl ?_
              refine x_ret ?_
              refine x_then rfl ?_
              refine x_then rfl ?_
              refine x_ret ?_
              refine x_then rfl ?_
              refine s_perm pf2 ?_
              refine s_freeze (by_ := 40) R_Type.mono (hO26.mono R_Type.mono hl45) hV25 (fun J56 hl57 hr58 => ?_)
              obtain rfl := Option.some.inj H
              exact g_ret [.agg #[.int .i64 r7, .int .i64 x13, .slice A22 x21.length cp23], .bool false] (congrArg Array.toList Tryd.results73) (.cons (.a (cs := [.int .i64 r7, .int .i64 x13, .slice A22 x21.length cp23]) ia24 rfl rfl (cls_own (i := 3) rfl rfl)) (.cons (.t rfl) .nil)) (fun W E => ⟨_, A22, cp23, rfl, E.drop (List.nil_sublist _), hr58, (by first | assumption | exact OV.le (by assumption) | simp | omega)⟩)
          · rw [if_neg c27] at H
            refine s_lit (t := 33) rfl (decide_eq_false c27) ?_
            refine c_false rfl ?_
            refine c_exit ?_
            refine x_then rfl ?_
            refine x_then rfl ?_
            refine x_in ?_
            refine x_next ?_
            refine c_seq ?_
            refine g_plain ?_
            refine l_y (y_loadA (cs := [.int .i64 r7, .int .i64 x13, .slice A22 x21.length cp23]) ia24 rfl rfl rfl (cls_own (i := 1) rfl rfl)) rfl rfl (by decide) ?_
            refine l_w rfl ?_
            refine w_store2 (cs' := [.int .i64 r7, .int .i64 x13, .slice A22 x21.length cp23]) sz24 rfl rfl rfl rfl rfl (Nat.le_of_ble_eq_true rfl) rfl rfl ?_
            refine l_y (y_assign rfl rfl) rfl rfl (by decide) ?_
            refine l_nil ?_
            refine x_next ?_
            refine c_ret ?_
            refine s_freeze (by_ := 40) R_Type.mono hO26 hV25 (fun J59 hl60 hr61 => ?_)
            obtain rfl := Option.some.inj H
            exact g_ret [.agg #[.int .i64 r7, .int .i64 x13, .slice A22 x21.length cp23], .bool true] (congrArg Array.toList Tryd.results73) (.cons (.a (cs := [.int .i64 r7, .int .i64 x13, .slice A22 x21.length cp23]) ia24 rfl rfl (cls_own (i := 1) rfl rfl)) (.cons (.t rfl) .nil)) (fun W E => ⟨_, A22, cp23, rfl, E.drop (List.nil_sublist _), hr61, (by first | assumption | exact OV.le (by assumption) | simp | omega)⟩)
      · rw [if_neg c17] at H
        refine s_lit (t := 27) rfl (not_t (Bool.eq_false_iff.2 c17)) ?_
        refine c_true rfl ?_
        refine c_seq ?_
        refine g_plain ?_
        refine l_y (y_loadA (cs := [.int .i64 r7, .int .i64 x13, .slice none 0 0]) ia24 rfl rfl rfl (cls_own (i := 0) rfl rfl)) rfl rfl (by decide) ?_
        refine l_w rfl ?_
        refine w_store1 (cs' := [.int .i64 r7, .int .i64 x13, .slice none 0 0]) sz24 rfl rfl rfl rfl rfl (Nat.le_of_ble_eq_true rfl) rfl rfl ?_
        refine l_y (y_assign rfl rfl) rfl rfl (by decide) ?_
        refine l_nil ?_
        refine x_next ?_
        refine c_ret ?_
        refine x_then rfl ?_
        obtain rfl := Option.some.inj H
        exact g_ret [.agg #[.int .i64 r7, .int .i64 x13, .slice none 0 0], .bool false] (congrArg Array.toList Tryd.results73) (.cons (.a (cs := [.int .i64 r7, .int .i64 x13, .slice none 0 0]) ia24 rfl rfl (cls_own (i := 1) rfl rfl)) (.cons (.t rfl) .nil)) (fun W E => ⟨_, none, 0, rfl, E.drop (List.nil_sublist _), (RowsG.nil _ _ _ _ _), (by first | assumption | exact OV.le (by assumption) | simp | omega)⟩)
def types_Of.f (k : Nat) (a0 : GNode) : Option (GType × Int) := ((types_of.f k a0).bind fun r7 => (if r7.2 = true then ((types_Right.f k r7.1).bind fun r16 => (if r16 = true then (some (r7.1, 0)) else (some ((⟨0, 0, ([] : List GType)⟩ : GType), 5)))) else (some ((⟨0, 0, ([] : List GType)⟩ : GType), 1))))
def types_Of.Post (I : Imm) (O : List Ent) (w : World) (r : (GType × Int)) (e : Ending) (w' : World) : Prop := ∃ (J : Imm) (A1 : Option Addr) (c1 : Nat), e = .returned (.tuple #[.agg #[.int .i64 r.1.Kind, .int .i64 r.1.Count, .slice A1 r.1.Kids.length c1], .int .i64 r.2]) ∧ Ext I O w J O w' ∧ RowsG R_Type 3 40 J A1 r.1.Kids ∧ r.1.Kids.length ≤ c1
set_option maxRecDepth 100000 in
set_option maxHeartbeats 1000000 in
theorem types_Of.calls (k : Nat) : ∀ (a0 : GNode) (A1 : Option Addr) (c2 : Nat) (I : Imm) (w : World) (r : (GType × Int)) (hr3 : RowsG R_Node 4 56 I A1 a0.Kids) (hc4 : a0.Kids.length ≤ c2), St I [] w → types_Of.f k a0 = some r →
  Calls Tryd.prog 29 #[.agg #[.int .i64 a0.Kind, .string a0.Text, .int .i64 a0.At, .slice A1 a0.Kids.length c2]] w (types_Of.Post I [] w r) := by
  intro a0 A1 c2 I w r hr3 hc4 hS H
  have nhr3 := hr3.len
  simp only [types_Of.f] at H
  refine enter Tryd.func29 rfl Tryd.ntmps29 (Nat.le_of_ble_eq_true rfl) hS ?_
  refine c_seq ?_
  refine g_plain ?_
  refine l_w rfl ?_
  refine w_box (cs := [.int .i64 a0.Kind, .string a0.Text, .int .i64 a0.At, .slice A1 a0.Kids.length c2]) (m := 4) rfl rfl rfl rfl rfl (by decide) (fun β5 => ?_)
  refine l_w rfl ?_
  refine w_alloc (cs := [.int .i64 0, .int .i64 0, .slice none 0 0]) (m := 3) zz24 rfl rfl rfl rfl (by decide) (fun β6 => ?_)
  refine l_y (y_assign rfl rfl) rfl rfl (by decide) ?_
  refine l_nil ?_
  refine x_next ?_
  refine c_seq ?_
  refine g_plain ?_
  refine l_y (y_loadA (cs := [.int .i64 a0.Kind, .string a0.Text, .int .i64 a0.At, .slice A1 a0.Kids.length c2]) ia36 rfl rfl rfl (cls_own (i := 1) rfl rfl)) rfl rfl (by decide) ?_
  refine l_w rfl ?_
  obtain ⟨r7, hr7, H⟩ := Option.bind_eq_some_iff.1 H
  refine w_call (args := [.agg #[.int .i64 a0.Kind, .string a0.Text, .int .i64 a0.At, .slice A1 a0.Kids.length c2]]) (caps := []) has73 rfl rfl rfl rfl (by decide) (fun a W F E => ?_)
  refine (types_of.calls k a0 A1 c2 I W r7 hr3 (by first | assumption | simp | omega) (E.st.sub (List.nil_sublist _)) hr7).mono ?_
  rintro e W' ⟨J12, A8, c9, rfl, X, hr10, hc11⟩
  have hl13 := X.le
  refine ⟨_, rfl, here (At.mk (F.put (by decide) _) (E.call0 X)) ?_⟩
  clear X E F W W' a
  refine l_y (y_move rfl rfl) rfl rfl (by decide) ?_
  refine l_y (y_extract rfl rfl rfl) rfl rfl (by decide) ?_
  refine l_y (y_extract rfl rfl rfl) rfl rfl (by decide) ?_
  refine l_w rfl ?_
  refine w_alloc (cs := [.int .i64 0, .int .i64 0, .slice none 0 0]) (m := 3) zz24 rfl rfl rfl rfl (by decide) (fun β14 => ?_)
  refine l_w rfl ?_
  refine w_store0 (cs' := [.int .i64 r7.1.Kind, .int .i64 r7.1.Count, .slice A8 r7.1.Kids.length c9]) sz24 rfl rfl rfl rfl rfl (Nat.le_of_ble_eq_true rfl) rfl rfl ?_
  refine l_y (y_assign rfl rfl) rfl rfl (by decide) ?_
  refine l_nil ?_
  refine x_next ?_
  refine c_seq ?_
  refine c_block ?_
  refine c_seq ?_
  refine g_plain ?_
  refine l_y (y_move rfl rfl) rfl rfl (by decide) ?_
  refine l_y (y_not rfl rfl) rfl rfl (by decide) ?_
  refine l_y (y_assign rfl rfl) rfl rfl (by decide) ?_
  refine l_nil ?_
  refine x_next ?_
  by_cases c15 : r7.2 = true
  · rw [if_pos c15] at H
    refine s_lit (t := 11) rfl (not_f c15) ?_
    refine c_false rfl ?_
    refine c_seq ?_
    refine g_plain ?_
    refine l_y (y_loadA (cs := [.int .i64 r7.1.Kind, .int .i64 r7.1.Count, .slice A8 r7.1.Kids.length c9]) ia24 rfl rfl rfl (cls_own (i := 0) rfl rfl)) rfl rfl (by decide) ?_
    refine l_w rfl ?_
    obtain ⟨r16, hr16, H⟩ := Option.bind_eq_some_iff.1 H
    refine w_call (args := [.agg #[.int .i64 r7.1.Kind, .int .i64 r7.1.Count, .slice A8 r7.1.Kids.length c9]]) (caps := []) has19 rfl rfl rfl rfl (by decide) (fun a W F E => ?_)
    refine (types_Right.calls k r7.1 A8 c9 J12 W r16 hr10 (by first | assumption | simp | omega) (E.st.sub (List.nil_sublist _)) hr16).mono ?_
    rintro e W' ⟨rfl, X⟩
    refine ⟨_, rfl, here (At.mk (F.put (by decide) _) (E.call0 X)) ?_⟩
    clear X E F W W' a
    refine l_y (y_not rfl rfl) rfl rfl (by decide) ?_
    refine l_y (y_assign rfl rfl) rfl rfl (by decide) ?_
    refine l_nil ?_
    refine x_next ?_
    by_cases c18 : r16 = true
    · rw [if_pos c18] at H
      refine s_lit (t := 15) rfl (not_f c18) ?_
      refine c_false rfl ?_
      refine c_skip ?_
      refine x_norm ?_
      refine x_next ?_
      refine c_seq ?_
      refine g_plain ?_
      refine l_y (y_loadA (cs := [.int .i64 r7.1.Kind, .int .i64 r7.1.Count, .slice A8 r7.1.Kids.length c9]) ia24 rfl rfl rfl (cls_own (i := 0) rfl rfl)) rfl rfl (by decide) ?_
      refine l_w rfl ?_
      refine w_store1 (cs' := [.int .i64 r7.1.Kind, .int .i64 r7.1.Count, .slice A8 r7.1.Kids.length c9]) sz24 rfl rfl rfl rfl rfl (Nat.le_of_ble_eq_true rfl) rfl rfl ?_
      refine l_y (y_assign rfl rfl) rfl rfl (by decide) ?_
      refine l_nil ?_
      refine x_next ?_
      refine c_ret ?_
      obtain rfl := Option.some.inj H
      exact g_ret [.agg #[.int .i64 r7.1.Kind, .int .i64 r7.1.Count, .slice A8 r7.1.Kids.length c9], .int .i64 0] (congrArg Array.toList Tryd.results29) (.cons (.a (cs := [.int .i64 r7.1.Kind, .int .i64 r7.1.Count, .slice A8 r7.1.Kids.length c9]) ia24 rfl rfl (cls_own (i := 1) rfl rfl)) (.cons (.t rfl) .nil)) (fun W E => ⟨_, A8, c9, rfl, E.drop (List.nil_sublist _), hr10, (by first | assumption | exact OV.le (by assumption) | simp | omega)⟩)
    · rw [if_neg c18] at H
      refine s_lit (t := 15) rfl (not_t (Bool.eq_false_iff.2 c18)) ?_
      refine c_true rfl ?_
      refine c_seq ?_
      refine g_plain ?_
      refine l_y (y_build [.int .i64 0, .int .i64 0, .slice none 0 0] st24 rfl rfl (by kernel_rfl)) rfl rfl (by decide) ?_
      refine l_w rfl ?_
      refine w_store1 (cs' := [.int .i64 0, .int .i64 0, .slice none 0 0]) sz24 rfl rfl rfl rfl rfl (Nat.le_of_ble_eq_true rfl) rfl rfl ?_
      refine l_y (y_assign rfl rfl) rfl rfl (by decide) ?_
      refine l_nil ?_
      refine x_next ?_
      refine c_ret ?_
      refine x_ret ?_
      refine x_then rfl ?_
      obtain rfl := Option.some.inj H
      exact g_ret [.agg #[.int .i64 0, .int .i64 0, .slice none 0 0], .int .i64 5] (congrArg Array.toList Tryd.results29) (.cons (.a (cs := [.int .i64 0, .int .i64 0, .slice none 0 0]) ia24 rfl rfl (cls_own (i := 1) rfl rfl)) (.cons (.t rfl) .nil)) (fun W E => ⟨_, none, 0, rfl, E.drop (List.nil_sublist _), (RowsG.nil _ _ _ _ _), (by first | assumption | exact OV.le (by assumption) | simp | omega)⟩)
  · rw [if_neg c15] at H
    refine s_lit (t := 11) rfl (not_t (Bool.eq_false_iff.2 c15)) ?_
    refine c_true rfl ?_
    refine c_seq ?_
    refine g_plain ?_
    refine l_y (y_build [.int .i64 0, .int .i64 0, .slice none 0 0] st24 rfl rfl (by kernel_rfl)) rfl rfl (by decide) ?_
    refine l_w rfl ?_
    refine w_store1 (cs' := [.int .i64 0, .int .i64 0, .slice none 0 0]) sz24 rfl rfl rfl rfl rfl (Nat.le_of_ble_eq_true rfl) rfl rfl ?_
    refine l_y (y_assign rfl rfl) rfl rfl (by decide) ?_
    refine l_nil ?_
    refine x_next ?_
    refine c_ret ?_
    refine x_ret ?_
    refine x_then rfl ?_
    obtain rfl := Option.some.inj H
    exact g_ret [.agg #[.int .i64 0, .int .i64 0, .slice none 0 0], .int .i64 1] (congrArg Array.toList Tryd.results29) (.cons (.a (cs := [.int .i64 0, .int .i64 0, .slice none 0 0]) ia24 rfl rfl (cls_own (i := 1) rfl rfl)) (.cons (.t rfl) .nil)) (fun W E => ⟨_, none, 0, rfl, E.drop (List.nil_sublist _), (RowsG.nil _ _ _ _ _), (by first | assumption | exact OV.le (by assumption) | simp | omega)⟩)
mutual
def swageref05_digits.f : Nat → Int → Option ByteArray
  | 0, _ => none
  | k + 1, a0 => (if a0 < 10 then (some (bstr [IntKind.u8.wrap (IntKind.i64.wrap (48 + (Int.tmod a0 10)))])) else ((swageref05_digits.f k (IntKind.i64.wrap (Int.tdiv a0 10))).bind fun r3 => (if r3.size + (bstr [IntKind.u8.wrap (IntKind.i64.wrap (48 + (Int.tmod a0 10)))]).size ≤ 9223372036854775807 then (some (r3 ++ (bstr [IntKind.u8.wrap (IntKind.i64.wrap (48 + (Int.tmod a0 10)))]))) else none)))
end
def swageref05_digits.Post (I : Imm) (O : List Ent) (w : World) (r : ByteArray) (e : Ending) (w' : World) : Prop := e = .returned (.string r) ∧ Ext I O w I O w'
set_option maxRecDepth 100000 in
set_option maxHeartbeats 1000000 in
theorem swageref05_digits.calls (k : Nat) : ∀ (a0 : Int) (I : Imm) (w : World) (r : ByteArray), St I [] w → swageref05_digits.f k a0 = some r →
  Calls Tryd.prog 134 #[.int .i64 a0] w (swageref05_digits.Post I [] w r) := by
  induction k using Nat.strongRecOn with
  | _ k ih =>
  intro a0 I w r  hS H
  cases k with
  | zero => exact absurd H (by simp [swageref05_digits.f])
  | succ k =>
    simp only [swageref05_digits.f] at H
    refine enter Tryd.func134 rfl Tryd.ntmps134 (Nat.le_of_ble_eq_true rfl) hS ?_
    refine c_seq ?_
    refine g_plain ?_
    refine l_y (y_assign rfl rfl) rfl rfl (by decide) ?_
    refine l_nil ?_
    refine x_next ?_
    refine c_seq ?_
    refine g_plain ?_
    refine l_y (y_move rfl rfl) rfl rfl (by decide) ?_
    refine l_y (y_bin rfl rfl rfl (bi_rem (by decide))) rfl rfl (by decide) ?_
    refine l_y (y_bin rfl rfl rfl bi_add) rfl rfl (by decide) ?_
    refine l_y (y_conv Tryd.underlying3 Tryd.underlying5 rfl rfl) rfl rfl (by decide) ?_
    refine l_w rfl ?_
    refine w_buildS (m := 1) [.int .u8 (IntKind.u8.wrap (IntKind.i64.wrap (48 + (Int.tmod a0 10))))] Tryd.underlying110 ez5 rfl rfl (by kernel_rfl) (by kernel_rfl) rfl rfl (by decide) (fun β1 => ?_)
    refine l_y (y_bstr [IntKind.u8.wrap (IntKind.i64.wrap (48 + (Int.tmod a0 10)))] (cs := [.int .u8 (IntKind.u8.wrap (IntKind.i64.wrap (48 + (Int.tmod a0 10))))]) Tryd.underlying110 Tryd.underlying5 Tryd.underlying9 rfl rfl rfl rfl (cls_own (i := 0) rfl rfl)) rfl rfl (by decide) ?_
    refine l_y (y_assign rfl rfl) rfl rfl (by decide) ?_
    refine l_nil ?_
    refine x_next ?_
    refine c_seq ?_
    refine c_seq ?_
    refine g_plain ?_
    refine l_y (y_move rfl rfl) rfl rfl (by decide) ?_
    refine l_y (y_bin rfl rfl rfl bi_lt) rfl rfl (by decide) ?_
    refine l_nil ?_
    refine x_next ?_
    by_cases c2 : a0 < 10
    · rw [if_pos c2] at H
      refine s_lit (t := 11) rfl (decide_eq_true c2) ?_
      refine c_true rfl ?_
      refine c_seq ?_
      refine g_plain ?_
      refine l_y (y_move rfl rfl) rfl rfl (by decide) ?_
      refine l_y (y_assign rfl rfl) rfl rfl (by decide) ?_
      refine l_nil ?_
      refine x_next ?_
      refine c_ret ?_
      refine x_then rfl ?_
      obtain rfl := Option.some.inj H
      exact g_ret [.string (bstr [IntKind.u8.wrap (IntKind.i64.wrap (48 + (Int.tmod a0 10)))])] (congrArg Array.toList Tryd.results134) (.cons (.t rfl) .nil) (fun W E => ⟨rfl, E.drop (List.nil_sublist _)⟩)
    · rw [if_neg c2] at H
      refine s_lit (t := 11) rfl (decide_eq_false c2) ?_
      refine c_false rfl ?_
      refine c_skip ?_
      refine x_next ?_
      refine c_seq ?_
      refine g_plain ?_
      refine l_y (y_move rfl rfl) rfl rfl (by decide) ?_
      refine l_y (y_bin rfl rfl rfl (bi_quo (by decide))) rfl rfl (by decide) ?_
      refine l_w rfl ?_
      obtain ⟨r3, hr3, H⟩ := Option.bind_eq_some_iff.1 H
      refine w_call (args := [.int .i64 (IntKind.i64.wrap (Int.tdiv a0 10))]) (caps := []) has134 rfl rfl rfl rfl (by decide) (fun a W F E => ?_)
      refine ((ih k (by omega)) (IntKind.i64.wrap (Int.tdiv a0 10)) I W r3 (E.st.sub (List.nil_sublist _)) hr3).mono ?_
      rintro e W' ⟨rfl, X⟩
      refine ⟨_, rfl, here (At.mk (F.put (by decide) _) (E.call0 X)) ?_⟩
      clear X E F W W' a
      refine l_y (y_move rfl rfl) rfl rfl (by decide) ?_
      by_cases c5 : r3.size + (bstr [IntKind.u8.wrap (IntKind.i64.wrap (48 + (Int.tmod a0 10)))]).size ≤ 9223372036854775807
      rotate_left
      · rw [if_neg c5] at H; exact absurd H (by simp)
      rw [if_pos c5] at H
      refine l_y (y_bin rfl rfl rfl (bi_sadd c5)) rfl rfl (by decide) ?_
      refine l_y (y_assign rfl rfl) rfl rfl (by decide) ?_
      refine l_nil ?_
      refine x_next ?_
      refine c_ret ?_
      obtain rfl := Option.some.inj H
      exact g_ret [.string (r3 ++ (bstr [IntKind.u8.wrap (IntKind.i64.wrap (48 + (Int.tmod a0 10)))]))] (congrArg Array.toList Tryd.results134) (.cons (.t rfl) .nil) (fun W E => ⟨rfl, E.drop (List.nil_sublist _)⟩)
def swageref05_number.f (k : Nat) (a0 : Int) : Option ByteArray := (if 0 ≤ a0 then ((swageref05_digits.f k a0).bind fun r2 => (some r2)) else (if a0 = (-9223372036854775808) then (some (⟨#[45, 57, 50, 50, 51, 51, 55, 50, 48, 51, 54, 56, 53, 52, 55, 55, 53, 56, 48, 56]⟩ : ByteArray)) else ((swageref05_digits.f k (IntKind.i64.wrap (-a0))).bind fun r5 => (if (⟨#[45]⟩ : ByteArray).size + r5.size ≤ 9223372036854775807 then (some ((⟨#[45]⟩ : ByteArray) ++ r5)) else none))))
def swageref05_number.Post (I : Imm) (O : List Ent) (w : World) (r : ByteArray) (e : Ending) (w' : World) : Prop := e = .returned (.string r) ∧ Ext I O w I O w'
set_option maxRecDepth 100000 in
set_option maxHeartbeats 1000000 in
theorem swageref05_number.calls (k : Nat) : ∀ (a0 : Int) (I : Imm) (w : World) (r : ByteArray), St I [] w → swageref05_number.f k a0 = some r →
  Calls Tryd.prog 117 #[.int .i64 a0] w (swageref05_number.Post I [] w r) := by
  intro a0 I w r  hS H
  simp only [swageref05_number.f] at H
  refine enter Tryd.func117 rfl Tryd.ntmps117 (Nat.le_of_ble_eq_true rfl) hS ?_
  refine c_seq ?_
  refine g_plain ?_
  refine l_y (y_assign rfl rfl) rfl rfl (by decide) ?_
  refine l_nil ?_
  refine x_next ?_
  refine c_seq ?_
  refine c_seq ?_
  refine g_plain ?_
  refine l_y (y_move rfl rfl) rfl rfl (by decide) ?_
  refine l_y (y_bin rfl rfl rfl bi_ge) rfl rfl (by decide) ?_
  refine l_nil ?_
  refine x_next ?_
  by_cases c1 : 0 ≤ a0
  · rw [if_pos c1] at H
    refine s_lit (t := 4) rfl (decide_eq_true c1) ?_
    refine c_true rfl ?_
    refine c_seq ?_
    refine g_plain ?_
    refine l_y (y_move rfl rfl) rfl rfl (by decide) ?_
    refine l_w rfl ?_
    obtain ⟨r2, hr2, H⟩ := Option.bind_eq_some_iff.1 H
    refine w_call (args := [.int .i64 a0]) (caps := []) has134 rfl rfl rfl rfl (by decide) (fun a W F E => ?_)
    refine (swageref05_digits.calls k a0 I W r2 (E.st.sub (List.nil_sublist _)) hr2).mono ?_
    rintro e W' ⟨rfl, X⟩
    refine ⟨_, rfl, here (At.mk (F.put (by decide) _) (E.call0 X)) ?_⟩
    clear X E F W W' a
    refine l_y (y_assign rfl rfl) rfl rfl (by decide) ?_
    refine l_nil ?_
    refine x_next ?_
    refine c_ret ?_
    refine x_then rfl ?_
    obtain rfl := Option.some.inj H
    exact g_ret [.string r2] (congrArg Array.toList Tryd.results117) (.cons (.t rfl) .nil) (fun W E => ⟨rfl, E.drop (List.nil_sublist _)⟩)
  · rw [if_neg c1] at H
    refine s_lit (t := 4) rfl (decide_eq_false c1) ?_
    refine c_false rfl ?_
    refine c_skip ?_
    refine x_next ?_
    refine c_seq ?_
    refine c_seq ?_
    refine g_plain ?_
    refine l_y (y_move rfl rfl) rfl rfl (by decide) ?_
    refine l_y (y_bin rfl rfl rfl bi_eq) rfl rfl (by decide) ?_
    refine l_nil ?_
    refine x_next ?_
    by_cases c4 : a0 = (-9223372036854775808)
    · rw [if_pos c4] at H
      refine s_lit (t := 8) rfl (decide_eq_true c4) ?_
      refine c_true rfl ?_
      refine c_seq ?_
      refine g_plain ?_
      refine l_y (y_assign rfl rfl) rfl rfl (by decide) ?_
      refine l_nil ?_
      refine x_next ?_
      refine c_ret ?_
      refine x_then rfl ?_
      obtain rfl := Option.some.inj H
      exact g_ret [.string (⟨#[45, 57, 50, 50, 51, 51, 55, 50, 48, 51, 54, 56, 53, 52, 55, 55, 53, 56, 48, 56]⟩ : ByteArray)] (congrArg Array.toList Tryd.results117) (.cons (.t rfl) .nil) (fun W E => ⟨rfl, E.drop (List.nil_sublist _)⟩)
    · rw [if_neg c4] at H
      refine s_lit (t := 8) rfl (decide_eq_false c4) ?_
      refine c_false rfl ?_
      refine c_skip ?_
      refine x_next ?_
      refine c_seq ?_
      refine g_plain ?_
      refine l_y (y_move rfl rfl) rfl rfl (by decide) ?_
      refine l_y (y_neg rfl rfl) rfl rfl (by decide) ?_
      refine l_w rfl ?_
      obtain ⟨r5, hr5, H⟩ := Option.bind_eq_some_iff.1 H
      refine w_call (args := [.int .i64 (IntKind.i64.wrap (-a0))]) (caps := []) has134 rfl rfl rfl rfl (by decide) (fun a W F E => ?_)
      refine (swageref05_digits.calls k (IntKind.i64.wrap (-a0)) I W r5 (E.st.sub (List.nil_sublist _)) hr5).mono ?_
      rintro e W' ⟨rfl, X⟩
      refine ⟨_, rfl, here (At.mk (F.put (by decide) _) (E.call0 X)) ?_⟩
      clear X E F W W' a
      by_cases c7 : (⟨#[45]⟩ : ByteArray).size + r5.size ≤ 9223372036854775807
      rotate_left
      · rw [if_neg c7] at H; exact absurd H (by simp)
      rw [if_pos c7] at H
      refine l_y (y_bin rfl rfl rfl (bi_sadd c7)) rfl rfl (by decide) ?_
      refine l_y (y_assign rfl rfl) rfl rfl (by decide) ?_
      refine l_nil ?_
      refine x_next ?_
      refine c_ret ?_
      obtain rfl := Option.some.inj H
      exact g_ret [.string ((⟨#[45]⟩ : ByteArray) ++ r5)] (congrArg Array.toList Tryd.results117) (.cons (.t rfl) .nil) (fun W E => ⟨rfl, E.drop (List.nil_sublist _)⟩)
def swageref05_Number.f (k : Nat) (a0 : Int) : Option ByteArray := ((swageref05_number.f k a0).bind fun r1 => (some r1))
def swageref05_Number.Post (I : Imm) (O : List Ent) (w : World) (r : ByteArray) (e : Ending) (w' : World) : Prop := e = .returned (.string r) ∧ Ext I O w I O w'
set_option maxRecDepth 100000 in
set_option maxHeartbeats 1000000 in
theorem swageref05_Number.calls (k : Nat) : ∀ (a0 : Int) (I : Imm) (w : World) (r : ByteArray), St I [] w → swageref05_Number.f k a0 = some r →
  Calls Tryd.prog 71 #[.int .i64 a0] w (swageref05_Number.Post I [] w r) := by
  intro a0 I w r  hS H
  simp only [swageref05_Number.f] at H
  refine enter Tryd.func71 rfl Tryd.ntmps71 (Nat.le_of_ble_eq_true rfl) hS ?_
  refine c_seq ?_
  refine g_plain ?_
  refine l_y (y_assign rfl rfl) rfl rfl (by decide) ?_
  refine l_nil ?_
  refine x_next ?_
  refine c_seq ?_
  refine g_plain ?_
  refine l_y (y_move rfl rfl) rfl rfl (by decide) ?_
  refine l_w rfl ?_
  obtain ⟨r1, hr1, H⟩ := Option.bind_eq_some_iff.1 H
  refine w_call (args := [.int .i64 a0]) (caps := []) has117 rfl rfl rfl rfl (by decide) (fun a W F E => ?_)
  refine (swageref05_number.calls k a0 I W r1 (E.st.sub (List.nil_sublist _)) hr1).mono ?_
  rintro e W' ⟨rfl, X⟩
  refine ⟨_, rfl, here (At.mk (F.put (by decide) _) (E.call0 X)) ?_⟩
  clear X E F W W' a
  refine l_y (y_assign rfl rfl) rfl rfl (by decide) ?_
  refine l_nil ?_
  refine x_next ?_
  refine c_ret ?_
  obtain rfl := Option.some.inj H
  exact g_ret [.string r1] (congrArg Array.toList Tryd.results71) (.cons (.t rfl) .nil) (fun W E => ⟨rfl, E.drop (List.nil_sublist _)⟩)
mutual
def swagelaw10_count.j1 : Nat → Bool → GNode → Int → Int → Int → Int → Option Int
  | 0, _, _, _, _, _, _ => none
  | k + 1, x8, a0, a1, a2, x7, x6 => (if x8 = true then (if a2 < 1 then (some (IntKind.i64.wrap (a1 + 1))) else (if 0 ≤ x7 ∧ x7 < (a0.Kids.length : Int) then ((swagelaw10_count.f k (rd a0.Kids x7) a1 (IntKind.i64.wrap (a2 - 1))).bind fun r22 => (swagelaw10_count.l0 k (IntKind.i64.wrap (x6 + r22)) (IntKind.i64.wrap (x7 + 1)) a0 a1 a2)) else none)) else (some x6))
def swagelaw10_count.l0 : Nat → Int → Int → GNode → Int → Int → Option Int
  | 0, _, _, _, _, _ => none
  | k + 1, x6, x7, a0, a1, a2 => (if x7 < (a0.Kids.length : Int) then (swagelaw10_count.j1 k (decide (x6 ≤ a1)) a0 a1 a2 x7 x6) else (swagelaw10_count.j1 k false a0 a1 a2 x7 x6))
def swagelaw10_count.f : Nat → GNode → Int → Int → Option Int
  | 0, _, _, _ => none
  | k + 1, a0, a1, a2 => (swagelaw10_count.l0 k 1 0 a0 a1 a2)
end
def swagelaw10_count.Post (I : Imm) (O : List Ent) (w : World) (r : Int) (e : Ending) (w' : World) : Prop := e = .returned (.int .i64 r) ∧ Ext I O w I O w'
set_option maxRecDepth 100000 in
set_option maxHeartbeats 1000000 in
theorem swagelaw10_count.calls (k : Nat) : ∀ (a0 : GNode) (a1 : Int) (a2 : Int) (A1 : Option Addr) (c2 : Nat) (I : Imm) (w : World) (r : Int) (hr3 : RowsG R_Node 4 56 I A1 a0.Kids) (hc4 : a0.Kids.length ≤ c2), St I [] w → swagelaw10_count.f k a0 a1 a2 = some r →
  Calls Tryd.prog 72 #[.agg #[.int .i64 a0.Kind, .string a0.Text, .int .i64 a0.At, .slice A1 a0.Kids.length c2], .int .i64 a1, .int .i64 a2] w (swagelaw10_count.Post I [] w r) := by
  induction k using Nat.strongRecOn with
  | _ k ih =>
  intro a0 a1 a2 A1 c2 I w r hr3 hc4 hS H
  have nhr3 := hr3.len
  cases k with
  | zero => exact absurd H (by simp [swagelaw10_count.f])
  | succ k =>
    simp only [swagelaw10_count.f] at H
    refine enter Tryd.func72 rfl Tryd.ntmps72 (Nat.le_of_ble_eq_true rfl) hS ?_
    refine c_seq ?_
    refine g_plain ?_
    refine l_w rfl ?_
    refine w_box (cs := [.int .i64 a0.Kind, .string a0.Text, .int .i64 a0.At, .slice A1 a0.Kids.length c2]) (m := 4) rfl rfl rfl rfl rfl (by decide) (fun β5 => ?_)
    refine l_y (y_assign rfl rfl) rfl rfl (by decide) ?_
    refine l_nil ?_
    refine x_next ?_
    refine c_seq ?_
    refine g_plain ?_
    refine l_y (y_assign rfl rfl) rfl rfl (by decide) ?_
    refine l_nil ?_
    refine x_next ?_
    refine c_seq ?_
    refine c_seq ?_
    refine g_plain ?_
    refine l_y (y_assign rfl rfl) rfl rfl (by decide) ?_
    refine l_nil ?_
    refine x_next ?_
    refine c_block ?_
    refine c_loop (fun kq a W => ∃ (x6 : Int) (x7 : Int), swagelaw10_count.l0 kq x6 x7 a0 a1 a2 = some r ∧ kq ≤ k ∧ At 37 [] [(1, .int .i64 a1), (2, .int .i64 a2), (3, .pointer (some ⟨β5, 0, none⟩)), (7, .int .i64 x6), (8, .int .i64 x7)] I [] w I [.cells β5 36 [.int .i64 a0.Kind, .string a0.Text, .int .i64 a0.At, .slice A1 a0.Kids.length c2] 4] a W) k (fun a W hA => ⟨1, 0, H, (Nat.le_refl _), ⟨hA.fits.only ⟨rfl, rfl, rfl, rfl, rfl, trivial⟩, hA.ext⟩⟩) ?_
    clear H
    rintro kq a W ⟨x6, x7, H, hk, hA⟩
    refine here hA ?_
    clear hA a W
    cases kq with
    | zero => exact absurd H (by simp [swagelaw10_count.l0])
    | succ k0 =>
      simp only [swagelaw10_count.l0] at H
      refine c_seq ?_
      refine c_join (fun a W => ∃ (kq : Nat) (x8 : Bool), swagelaw10_count.j1 kq x8 a0 a1 a2 x7 x6 = some r ∧ kq ≤ k0 ∧ At 37 [] [(1, .int .i64 a1), (2, .int .i64 a2), (3, .pointer (some ⟨β5, 0, none⟩)), (7, .int .i64 x6), (8, .int .i64 x7), (18, .bool x8)] I [] w I [.cells β5 36 [.int .i64 a0.Kind, .string a0.Text, .int .i64 a0.At, .slice A1 a0.Kids.length c2] 4] a W) ?_ ?_
      · skip
        refine g_plain ?_
        refine l_y (y_move rfl rfl) rfl rfl (by decide) ?_
        refine l_y (y_field (j' := 3) fa36_3 rfl rfl rfl) rfl rfl (by decide) ?_
        refine l_y (y_load is34 rfl rfl (cl_own (i := 0) (j := 3) rfl rfl)) rfl rfl (by decide) ?_
        refine l_y (y_len Tryd.underlying34 rfl rfl) rfl rfl (by decide) ?_
        refine l_y (y_bin rfl rfl rfl bi_lt) rfl rfl (by decide) ?_
        refine l_y (y_move rfl rfl) rfl rfl (by decide) ?_
        by_cases c9 : x7 < (a0.Kids.length : Int)
        · rw [if_pos c9] at H
          refine s_lit (t := 14) rfl (decide_eq_true c9) ?_
          refine l_yg (y_move rfl rfl) rfl rfl rfl rfl rfl (by decide) ?_
          refine l_yg (y_move rfl rfl) rfl rfl rfl rfl rfl (by decide) ?_
          refine l_yg (y_bin rfl rfl rfl bi_le) rfl rfl rfl rfl rfl (by decide) ?_
          refine l_y (y_pickt rfl rfl rfl) rfl rfl (by decide) ?_
          refine l_nil ?_
          exact fun a W hA => ⟨k0, (decide (x6 ≤ a1)), H, (by omega), ⟨hA.fits.only ⟨rfl, rfl, rfl, rfl, rfl, rfl, trivial⟩, hA.ext⟩⟩
        · rw [if_neg c9] at H
          refine s_lit (t := 14) rfl (decide_eq_false c9) ?_
          refine l_off rfl rfl rfl rfl rfl rfl (by decide) ?_
          refine l_off rfl rfl rfl rfl rfl rfl (by decide) ?_
          refine l_off rfl rfl rfl rfl rfl rfl (by decide) ?_
          refine l_y (y_pickf rfl rfl rfl) rfl rfl (by decide) ?_
          refine l_nil ?_
          exact fun a W hA => ⟨k0, false, H, (by omega), ⟨hA.fits.only ⟨rfl, rfl, rfl, rfl, rfl, rfl, trivial⟩, hA.ext⟩⟩
      clear H
      rintro a W ⟨kq, x8, H, hk, hA⟩
      refine here hA ?_
      clear hA a W
      cases kq with
      | zero => exact absurd H (by simp [swagelaw10_count.j1])
      | succ k_j1 =>
        simp only [swagelaw10_count.j1] at H
        by_cases c10 : x8 = true
        · rw [if_pos c10] at H
          refine s_lit (t := 18) rfl c10 ?_
          refine c_true rfl ?_
          refine c_skip ?_
          refine x_next ?_
          refine c_seq ?_
          refine c_block ?_
          refine c_seq ?_
          refine c_seq ?_
          refine g_plain ?_
          refine l_y (y_move rfl rfl) rfl rfl (by decide) ?_
          refine l_y (y_bin rfl rfl rfl bi_lt) rfl rfl (by decide) ?_
          refine l_nil ?_
          refine x_next ?_
          by_cases c11 : a2 < 1
          · rw [if_pos c11] at H
            refine s_lit (t := 22) rfl (decide_eq_true c11) ?_
            refine c_true rfl ?_
            refine c_seq ?_
            refine g_plain ?_
            refine l_y (y_move rfl rfl) rfl rfl (by decide) ?_
            refine l_y (y_bin rfl rfl rfl bi_add) rfl rfl (by decide) ?_
            refine l_y (y_assign rfl rfl) rfl rfl (by decide) ?_
            refine l_nil ?_
            refine x_next ?_
            refine c_ret ?_
            refine x_then rfl ?_
            refine x_ret ?_
            refine x_then rfl ?_
            refine x_then rfl ?_
            refine x_ret ?_
            refine x_then rfl ?_
            obtain rfl := Option.some.inj H
            exact g_ret [.int .i64 (IntKind.i64.wrap (a1 + 1))] (congrArg Array.toList Tryd.results72) (.cons (.t rfl) .nil) (fun W E => ⟨rfl, E.drop (List.nil_sublist _)⟩)
          · rw [if_neg c11] at H
            refine s_lit (t := 22) rfl (decide_eq_false c11) ?_
            refine c_false rfl ?_
            refine c_skip ?_
            refine x_next ?_
            refine g_plain ?_
            refine l_y (y_move rfl rfl) rfl rfl (by decide) ?_
            refine l_y (y_field (j' := 3) fa36_3 rfl rfl rfl) rfl rfl (by decide) ?_
            refine l_y (y_load is34 rfl rfl (cl_own (i := 0) (j := 3) rfl rfl)) rfl rfl (by decide) ?_
            refine l_y (y_move rfl rfl) rfl rfl (by decide) ?_
            by_cases c12 : 0 ≤ x7 ∧ x7 < (a0.Kids.length : Int)
            rotate_left
            · rw [if_neg c12] at H; exact absurd H (by simp)
            rw [if_pos c12] at H
            obtain ⟨b13, o14, hA_, hE15⟩ := hr3.elem (by omega)
            obtain rfl := hA_
            obtain ⟨cs18, hR19, hC20⟩ := hE15 x7 c12.1 c12.2
            obtain ⟨A16, c17, rfl, hr21, chr21⟩ := hR19.open
            refine l_y (y_index sl34 rfl rfl rfl c12.1 c12.2) rfl rfl (by decide) ?_
            refine l_y (y_loadA (cs := [.int .i64 ((rd a0.Kids x7).Kind), .string ((rd a0.Kids x7).Text), .int .i64 ((rd a0.Kids x7).At), .slice A16 (((rd a0.Kids x7).Kids).length) c17]) ia36 rfl rfl rfl hC20.cls) rfl rfl (by decide) ?_
            refine l_y (y_move rfl rfl) rfl rfl (by decide) ?_
            refine l_y (y_move rfl rfl) rfl rfl (by decide) ?_
            refine l_y (y_bin rfl rfl rfl bi_sub) rfl rfl (by decide) ?_
            refine l_w rfl ?_
            obtain ⟨r22, hr22, H⟩ := Option.bind_eq_some_iff.1 H
            refine w_call (args := [.agg #[.int .i64 ((rd a0.Kids x7).Kind), .string ((rd a0.Kids x7).Text), .int .i64 ((rd a0.Kids x7).At), .slice A16 (((rd a0.Kids x7).Kids).length) c17], .int .i64 a1, .int .i64 (IntKind.i64.wrap (a2 - 1))]) (caps := []) has72 rfl rfl rfl rfl (by decide) (fun a W F E => ?_)
            refine ((ih k_j1 (by omega)) (rd a0.Kids x7) a1 (IntKind.i64.wrap (a2 - 1)) A16 c17 I W r22 hr21 (by first | assumption | simp | omega) (E.st.sub (List.nil_sublist _)) hr22).mono ?_
            rintro e W' ⟨rfl, X⟩
            refine ⟨_, rfl, here (At.mk (F.put (by decide) _) (E.call0 X)) ?_⟩
            clear X E F W W' a
            refine l_y (y_bin rfl rfl rfl bi_add) rfl rfl (by decide) ?_
            refine l_y (y_assign rfl rfl) rfl rfl (by decide) ?_
            refine l_nil ?_
            refine x_norm ?_
            refine x_next ?_
            refine g_plain ?_
            refine l_y (y_move rfl rfl) rfl rfl (by decide) ?_
            refine l_y (y_bin rfl rfl rfl bi_add) rfl rfl (by decide) ?_
            refine l_y (y_assign rfl rfl) rfl rfl (by decide) ?_
            refine l_nil ?_
            exact fun a W hA => ⟨k_j1, by omega, (IntKind.i64.wrap (x6 + r22)), (IntKind.i64.wrap (x7 + 1)), H, (by omega), ⟨hA.fits.only ⟨rfl, rfl, rfl, rfl, rfl, trivial⟩, hA.ext⟩⟩
        · rw [if_neg c10] at H
          refine s_lit (t := 18) rfl (Bool.eq_false_iff.2 c10) ?_
          refine c_false rfl ?_
          refine c_exit ?_
          refine x_then rfl ?_
          refine x_then rfl ?_
          refine x_in ?_
          refine x_next ?_
          refine c_seq ?_
          refine g_plain ?_
          refine l_y (y_move rfl rfl) rfl rfl (by decide) ?_
          refine l_y (y_assign rfl rfl) rfl rfl (by decide) ?_
          refine l_nil ?_
          refine x_next ?_
          refine c_ret ?_
          obtain rfl := Option.some.inj H
          exact g_ret [.int .i64 x6] (congrArg Array.toList Tryd.results72) (.cons (.t rfl) .nil) (fun W E => ⟨rfl, E.drop (List.nil_sublist _)⟩)
def swagelaw10_Few.f (k : Nat) (a0 : GNode) : Option Bool := ((swagelaw10_count.f k a0 400 60).bind fun r6 => (some (decide (r6 ≤ 400))))
def swagelaw10_Few.Post (I : Imm) (O : List Ent) (w : World) (r : Bool) (e : Ending) (w' : World) : Prop := e = .returned (.bool r) ∧ Ext I O w I O w'
set_option maxRecDepth 100000 in
set_option maxHeartbeats 1000000 in
theorem swagelaw10_Few.calls (k : Nat) : ∀ (a0 : GNode) (A1 : Option Addr) (c2 : Nat) (I : Imm) (w : World) (r : Bool) (hr3 : RowsG R_Node 4 56 I A1 a0.Kids) (hc4 : a0.Kids.length ≤ c2), St I [] w → swagelaw10_Few.f k a0 = some r →
  Calls Tryd.prog 28 #[.agg #[.int .i64 a0.Kind, .string a0.Text, .int .i64 a0.At, .slice A1 a0.Kids.length c2]] w (swagelaw10_Few.Post I [] w r) := by
  intro a0 A1 c2 I w r hr3 hc4 hS H
  have nhr3 := hr3.len
  simp only [swagelaw10_Few.f] at H
  refine enter Tryd.func28 rfl Tryd.ntmps28 (Nat.le_of_ble_eq_true rfl) hS ?_
  refine c_seq ?_
  refine g_plain ?_
  refine l_w rfl ?_
  refine w_box (cs := [.int .i64 a0.Kind, .string a0.Text, .int .i64 a0.At, .slice A1 a0.Kids.length c2]) (m := 4) rfl rfl rfl rfl rfl (by decide) (fun β5 => ?_)
  refine l_y (y_assign rfl rfl) rfl rfl (by decide) ?_
  refine l_nil ?_
  refine x_next ?_
  refine c_seq ?_
  refine g_plain ?_
  refine l_y (y_loadA (cs := [.int .i64 a0.Kind, .string a0.Text, .int .i64 a0.At, .slice A1 a0.Kids.length c2]) ia36 rfl rfl rfl (cls_own (i := 0) rfl rfl)) rfl rfl (by decide) ?_
  refine l_w rfl ?_
  obtain ⟨r6, hr6, H⟩ := Option.bind_eq_some_iff.1 H
  refine w_call (args := [.agg #[.int .i64 a0.Kind, .string a0.Text, .int .i64 a0.At, .slice A1 a0.Kids.length c2], .int .i64 400, .int .i64 60]) (caps := []) has72 rfl rfl rfl rfl (by decide) (fun a W F E => ?_)
  refine (swagelaw10_count.calls k a0 400 60 A1 c2 I W r6 hr3 (by first | assumption | simp | omega) (E.st.sub (List.nil_sublist _)) hr6).mono ?_
  rintro e W' ⟨rfl, X⟩
  refine ⟨_, rfl, here (At.mk (F.put (by decide) _) (E.call0 X)) ?_⟩
  clear X E F W W' a
  refine l_y (y_assign rfl rfl) rfl rfl (by decide) ?_
  refine l_nil ?_
  refine x_next ?_
  refine c_seq ?_
  refine g_plain ?_
  refine l_y (y_move rfl rfl) rfl rfl (by decide) ?_
  refine l_y (y_bin rfl rfl rfl bi_le) rfl rfl (by decide) ?_
  refine l_y (y_assign rfl rfl) rfl rfl (by decide) ?_
  refine l_nil ?_
  refine x_next ?_
  refine c_ret ?_
  obtain rfl := Option.some.inj H
  exact g_ret [.bool (decide (r6 ≤ 400))] (congrArg Array.toList Tryd.results28) (.cons (.t rfl) .nil) (fun W E => ⟨rfl, E.drop (List.nil_sublist _)⟩)
end Go.Proofs.YtoafojcfledkcaaDoor
