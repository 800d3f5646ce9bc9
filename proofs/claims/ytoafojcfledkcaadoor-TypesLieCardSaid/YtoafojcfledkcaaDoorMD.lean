/- Models and walks. -/
import Derived.Test.YtoafojcfledkcaaDoorTD
import Derived.Test.YtoafojcfledkcaaDoorExt
namespace Go.Proofs.YtoafojcfledkcaaDoor
open Go.RowKit
set_option linter.all false
def types_kids_1.f (k : Nat) (a0 : Int) (a1 : Int) (z0 : Int) (z1 : GType) : Option Bool := (if a0 ≤ z0 then (if z0 ≤ a1 then (some (decide (z1.Count = 0))) else (some false)) else (some false))
def types_kids_1.Post (I : Imm) (O : List Ent) (w : World) (r : Bool) (e : Ending) (w' : World) : Prop := e = .returned (.bool r) ∧ Ext I O w I O w'
set_option maxRecDepth 100000 in
set_option maxHeartbeats 1000000 in
theorem types_kids_1.calls (k : Nat) : ∀ (a0 : Int) (a1 : Int) (z0 : Int) (z1 : GType) (A2 : Option Addr) (c3 : Nat) (b1 : Nat) (b6 : Nat) (I : Imm) (w : World) (r : Bool) (hr4 : RowsG R_Type 3 40 I A2 z1.Kids) (hc5 : z1.Kids.length ≤ c3), St I [.cells b1 3 [.int .i64 z0] 1, .cells b6 24 [.int .i64 z1.Kind, .int .i64 z1.Count, .slice A2 z1.Kids.length c3] 3] w → types_kids_1.f k a0 a1 z0 z1 = some r →
  Calls Tryd.prog 131 #[.int .i64 a0, .int .i64 a1, .pointer (some ⟨b1, 0, none⟩), .pointer (some ⟨b6, 0, none⟩)] w (types_kids_1.Post I [.cells b1 3 [.int .i64 z0] 1, .cells b6 24 [.int .i64 z1.Kind, .int .i64 z1.Count, .slice A2 z1.Kids.length c3] 3] w r) := by
  intro a0 a1 z0 z1 A2 c3 b1 b6 I w r hr4 hc5 hS H
  have nhr4 := hr4.len
  simp only [types_kids_1.f] at H
  refine enter Tryd.func131 rfl Tryd.ntmps131 (Nat.le_of_ble_eq_true rfl) hS ?_
  refine c_seq ?_
  refine g_plain ?_
  refine l_y (y_assign rfl rfl) rfl rfl (by decide) ?_
  refine l_nil ?_
  refine x_next ?_
  refine c_seq ?_
  refine g_plain ?_
  refine l_y (y_load is3 rfl rfl (cl_own (i := 0) (j := 0) rfl rfl)) rfl rfl (by decide) ?_
  refine l_y (y_move rfl rfl) rfl rfl (by decide) ?_
  refine l_y (y_bin rfl rfl rfl bi_ge) rfl rfl (by decide) ?_
  refine l_y (y_move rfl rfl) rfl rfl (by decide) ?_
  by_cases c7 : a0 ≤ z0
  · rw [if_pos c7] at H
    refine s_lit (t := 10) rfl (decide_eq_true c7) ?_
    refine l_yg (y_load is3 rfl rfl (cl_own (i := 0) (j := 0) rfl rfl)) rfl rfl rfl rfl rfl (by decide) ?_
    refine l_yg (y_move rfl rfl) rfl rfl rfl rfl rfl (by decide) ?_
    refine l_yg (y_bin rfl rfl rfl bi_le) rfl rfl rfl rfl rfl (by decide) ?_
    refine l_y (y_pickt rfl rfl rfl) rfl rfl (by decide) ?_
    refine l_y (y_move rfl rfl) rfl rfl (by decide) ?_
    by_cases c8 : z0 ≤ a1
    · rw [if_pos c8] at H
      refine s_lit (t := 15) rfl (decide_eq_true c8) ?_
      refine l_yg (y_field (j' := 1) fa24_1 rfl rfl rfl) rfl rfl rfl rfl rfl (by decide) ?_
      refine l_yg (y_load is3 rfl rfl (cl_own (i := 1) (j := 1) rfl rfl)) rfl rfl rfl rfl rfl (by decide) ?_
      refine l_yg (y_bin rfl rfl rfl bi_eq) rfl rfl rfl rfl rfl (by decide) ?_
      refine l_y (y_pickt rfl rfl rfl) rfl rfl (by decide) ?_
      refine l_y (y_assign rfl rfl) rfl rfl (by decide) ?_
      refine l_nil ?_
      refine x_next ?_
      refine c_ret ?_
      refine s_perm pf1 ?_
      refine s_perm pf1 ?_
      obtain rfl := Option.some.inj H
      exact g_ret [.bool (decide (z1.Count = 0))] (congrArg Array.toList Tryd.results131) (.cons (.t rfl) .nil) (fun W E => ⟨rfl, E.drop ((.cons_cons _ (.cons_cons _ (List.nil_sublist _))))⟩)
    · rw [if_neg c8] at H
      refine s_lit (t := 15) rfl (decide_eq_false c8) ?_
      refine l_off rfl rfl rfl rfl rfl rfl (by decide) ?_
      refine l_off rfl rfl rfl rfl rfl rfl (by decide) ?_
      refine l_off rfl rfl rfl rfl rfl rfl (by decide) ?_
      refine l_y (y_pickf rfl rfl rfl) rfl rfl (by decide) ?_
      refine l_y (y_assign rfl rfl) rfl rfl (by decide) ?_
      refine l_nil ?_
      refine x_next ?_
      refine c_ret ?_
      refine s_perm pf1 ?_
      refine s_perm pf1 ?_
      obtain rfl := Option.some.inj H
      exact g_ret [.bool false] (congrArg Array.toList Tryd.results131) (.cons (.t rfl) .nil) (fun W E => ⟨rfl, E.drop ((.cons_cons _ (.cons_cons _ (List.nil_sublist _))))⟩)
  · rw [if_neg c7] at H
    refine s_lit (t := 10) rfl (decide_eq_false c7) ?_
    refine l_off rfl rfl rfl rfl rfl rfl (by decide) ?_
    refine l_off rfl rfl rfl rfl rfl rfl (by decide) ?_
    refine l_off rfl rfl rfl rfl rfl rfl (by decide) ?_
    refine l_y (y_pickf rfl rfl rfl) rfl rfl (by decide) ?_
    refine l_y (y_move rfl rfl) rfl rfl (by decide) ?_
    refine l_off rfl rfl rfl rfl rfl rfl (by decide) ?_
    refine l_off rfl rfl rfl rfl rfl rfl (by decide) ?_
    refine l_off rfl rfl rfl rfl rfl rfl (by decide) ?_
    refine l_y (y_pickf rfl rfl rfl) rfl rfl (by decide) ?_
    refine l_y (y_assign rfl rfl) rfl rfl (by decide) ?_
    refine l_nil ?_
    refine x_next ?_
    refine c_ret ?_
    refine s_perm pf1 ?_
    refine s_perm pf1 ?_
    obtain rfl := Option.some.inj H
    exact g_ret [.bool false] (congrArg Array.toList Tryd.results131) (.cons (.t rfl) .nil) (fun W E => ⟨rfl, E.drop ((.cons_cons _ (.cons_cons _ (List.nil_sublist _))))⟩)
def types_kids.f (k : Nat) (a0 : GType) : Option Bool := (if a0.Kind = 1 then ((types_kids_1.f k 0 0 (a0.Kids.length : Int) a0).bind fun r8 => (some r8)) else (if a0.Kind = 2 then ((types_kids_1.f k 1 1 (a0.Kids.length : Int) a0).bind fun r11 => (some r11)) else (if a0.Kind = 3 then (if (a0.Kids.length : Int) = 1 then (if 1 ≤ a0.Count then (some (decide (a0.Count ≤ 1048576))) else (some false)) else (some false)) else (if a0.Kind = 4 then ((types_kids_1.f k 1 64 (a0.Kids.length : Int) a0).bind fun r17 => (some r17)) else (some false)))))
def types_kids.Post (I : Imm) (O : List Ent) (w : World) (r : Bool) (e : Ending) (w' : World) : Prop := e = .returned (.bool r) ∧ Ext I O w I O w'
set_option maxRecDepth 100000 in
set_option maxHeartbeats 1000000 in
theorem types_kids.calls (k : Nat) : ∀ (a0 : GType) (A1 : Option Addr) (c2 : Nat) (I : Imm) (w : World) (r : Bool) (hr3 : RowsG R_Type 3 40 I A1 a0.Kids) (hc4 : a0.Kids.length ≤ c2), St I [] w → types_kids.f k a0 = some r →
  Calls Tryd.prog 114 #[.agg #[.int .i64 a0.Kind, .int .i64 a0.Count, .slice A1 a0.Kids.length c2]] w (types_kids.Post I [] w r) := by
  intro a0 A1 c2 I w r hr3 hc4 hS H
  have nhr3 := hr3.len
  simp only [types_kids.f] at H
  refine enter Tryd.func114 rfl Tryd.ntmps114 (Nat.le_of_ble_eq_true rfl) hS ?_
  refine c_seq ?_
  refine g_plain ?_
  refine l_w rfl ?_
  refine w_box (cs := [.int .i64 a0.Kind, .int .i64 a0.Count, .slice A1 a0.Kids.length c2]) (m := 3) rfl rfl rfl rfl rfl (by decide) (fun β5 => ?_)
  refine l_y (y_assign rfl rfl) rfl rfl (by decide) ?_
  refine l_nil ?_
  refine x_next ?_
  refine c_seq ?_
  refine g_plain ?_
  refine l_y (y_field (j' := 2) fa24_2 rfl rfl rfl) rfl rfl (by decide) ?_
  refine l_y (y_load is22 rfl rfl (cl_own (i := 0) (j := 2) rfl rfl)) rfl rfl (by decide) ?_
  refine l_y (y_len Tryd.underlying22 rfl rfl) rfl rfl (by decide) ?_
  refine l_w rfl ?_
  refine w_alloc (cs := [.int .i64 0]) (m := 1) zz3 rfl rfl rfl rfl (by decide) (fun β6 => ?_)
  refine l_w rfl ?_
  refine w_store0 (cs' := [.int .i64 (a0.Kids.length : Int)]) sz3 rfl rfl rfl rfl rfl (Nat.le_of_ble_eq_true rfl) rfl rfl ?_
  refine l_nil ?_
  refine x_next ?_
  refine c_seq ?_
  refine g_plain ?_
  refine l_y (y_func' (v1 := []) (v2 := [.pointer (some ⟨β6, 0, none⟩), .pointer (some ⟨β5, 0, none⟩)]) rfl rfl rfl) rfl rfl (by decide) ?_
  refine l_y (y_assign rfl rfl) rfl rfl (by decide) ?_
  refine l_nil ?_
  refine x_next ?_
  refine c_seq ?_
  refine c_seq ?_
  refine g_plain ?_
  refine l_y (y_field (j' := 0) fa24_0 rfl rfl rfl) rfl rfl (by decide) ?_
  refine l_y (y_load is3 rfl rfl (cl_own (i := 1) (j := 0) rfl rfl)) rfl rfl (by decide) ?_
  refine l_nil ?_
  refine x_next ?_
  refine c_block ?_
  refine c_seq ?_
  refine g_plain ?_
  refine l_y (y_bin rfl rfl rfl bi_eq) rfl rfl (by decide) ?_
  refine l_y (y_assign rfl rfl) rfl rfl (by decide) ?_
  refine l_nil ?_
  refine x_next ?_
  by_cases c7 : a0.Kind = 1
  · rw [if_pos c7] at H
    refine s_lit (t := 11) rfl (decide_eq_true c7) ?_
    refine c_true rfl ?_
    refine c_seq ?_
    refine g_plain ?_
    refine l_y (y_move rfl rfl) rfl rfl (by decide) ?_
    refine s_perm pf1 ?_
    refine s_perm pf1 ?_
    refine l_w rfl ?_
    obtain ⟨r8, hr8, H⟩ := Option.bind_eq_some_iff.1 H
    refine w_call (args := [.int .i64 0, .int .i64 0]) (caps := [.pointer (some ⟨β6, 0, none⟩), .pointer (some ⟨β5, 0, none⟩)]) has131 rfl rfl rfl rfl (by decide) (fun a W F E => ?_)
    refine (types_kids_1.calls k 0 0 (a0.Kids.length : Int) a0 A1 c2 β6 β5 I W r8 hr3 (by first | assumption | simp | omega) (St.first (L := [_, _]) E.st) hr8).mono ?_
    rintro e W' ⟨rfl, X⟩
    refine ⟨_, rfl, here (At.mk (F.put (by decide) _) (E.callN (L := [_, _]) X)) ?_⟩
    clear X E F W W' a
    refine l_y (y_assign rfl rfl) rfl rfl (by decide) ?_
    refine l_nil ?_
    refine x_next ?_
    refine c_ret ?_
    refine x_ret ?_
    refine x_then rfl ?_
    obtain rfl := Option.some.inj H
    exact g_ret [.bool r8] (congrArg Array.toList Tryd.results114) (.cons (.t rfl) .nil) (fun W E => ⟨rfl, E.drop (List.nil_sublist _)⟩)
  · rw [if_neg c7] at H
    refine s_lit (t := 11) rfl (decide_eq_false c7) ?_
    refine c_false rfl ?_
    refine c_seq ?_
    refine g_plain ?_
    refine l_y (y_bin rfl rfl rfl bi_eq) rfl rfl (by decide) ?_
    refine l_y (y_assign rfl rfl) rfl rfl (by decide) ?_
    refine l_nil ?_
    refine x_next ?_
    by_cases c10 : a0.Kind = 2
    · rw [if_pos c10] at H
      refine s_lit (t := 15) rfl (decide_eq_true c10) ?_
      refine c_true rfl ?_
      refine c_seq ?_
      refine g_plain ?_
      refine l_y (y_move rfl rfl) rfl rfl (by decide) ?_
      refine s_perm pf1 ?_
      refine s_perm pf1 ?_
      refine l_w rfl ?_
      obtain ⟨r11, hr11, H⟩ := Option.bind_eq_some_iff.1 H
      refine w_call (args := [.int .i64 1, .int .i64 1]) (caps := [.pointer (some ⟨β6, 0, none⟩), .pointer (some ⟨β5, 0, none⟩)]) has131 rfl rfl rfl rfl (by decide) (fun a W F E => ?_)
      refine (types_kids_1.calls k 1 1 (a0.Kids.length : Int) a0 A1 c2 β6 β5 I W r11 hr3 (by first | assumption | simp | omega) (St.first (L := [_, _]) E.st) hr11).mono ?_
      rintro e W' ⟨rfl, X⟩
      refine ⟨_, rfl, here (At.mk (F.put (by decide) _) (E.callN (L := [_, _]) X)) ?_⟩
      clear X E F W W' a
      refine l_y (y_assign rfl rfl) rfl rfl (by decide) ?_
      refine l_nil ?_
      refine x_next ?_
      refine c_ret ?_
      refine x_ret ?_
      refine x_then rfl ?_
      obtain rfl := Option.some.inj H
      exact g_ret [.bool r11] (congrArg Array.toList Tryd.results114) (.cons (.t rfl) .nil) (fun W E => ⟨rfl, E.drop (List.nil_sublist _)⟩)
    · rw [if_neg c10] at H
      refine s_lit (t := 15) rfl (decide_eq_false c10) ?_
      refine c_false rfl ?_
      refine c_seq ?_
      refine g_plain ?_
      refine l_y (y_bin rfl rfl rfl bi_eq) rfl rfl (by decide) ?_
      refine l_y (y_assign rfl rfl) rfl rfl (by decide) ?_
      refine l_nil ?_
      refine x_next ?_
      by_cases c13 : a0.Kind = 3
      · rw [if_pos c13] at H
        refine s_lit (t := 19) rfl (decide_eq_true c13) ?_
        refine c_true rfl ?_
        refine c_seq ?_
        refine g_plain ?_
        refine l_y (y_load is3 rfl rfl (cl_own (i := 0) (j := 0) rfl rfl)) rfl rfl (by decide) ?_
        refine l_y (y_bin rfl rfl rfl bi_eq) rfl rfl (by decide) ?_
        refine l_y (y_move rfl rfl) rfl rfl (by decide) ?_
        by_cases c14 : (a0.Kids.length : Int) = 1
        · rw [if_pos c14] at H
          refine s_lit (t := 23) rfl (decide_eq_true c14) ?_
          refine l_yg (y_field (j' := 1) fa24_1 rfl rfl rfl) rfl rfl rfl rfl rfl (by decide) ?_
          refine l_yg (y_load is3 rfl rfl (cl_own (i := 1) (j := 1) rfl rfl)) rfl rfl rfl rfl rfl (by decide) ?_
          refine l_yg (y_bin rfl rfl rfl bi_ge) rfl rfl rfl rfl rfl (by decide) ?_
          refine l_y (y_pickt rfl rfl rfl) rfl rfl (by decide) ?_
          refine l_y (y_move rfl rfl) rfl rfl (by decide) ?_
          by_cases c15 : 1 ≤ a0.Count
          · rw [if_pos c15] at H
            refine s_lit (t := 28) rfl (decide_eq_true c15) ?_
            refine l_yg (y_field (j' := 1) fa24_1 rfl rfl rfl) rfl rfl rfl rfl rfl (by decide) ?_
            refine l_yg (y_load is3 rfl rfl (cl_own (i := 1) (j := 1) rfl rfl)) rfl rfl rfl rfl rfl (by decide) ?_
            refine l_yg (y_bin rfl rfl rfl bi_le) rfl rfl rfl rfl rfl (by decide) ?_
            refine l_y (y_pickt rfl rfl rfl) rfl rfl (by decide) ?_
            refine l_y (y_assign rfl rfl) rfl rfl (by decide) ?_
            refine l_nil ?_
            refine x_next ?_
            refine c_ret ?_
            refine x_ret ?_
            refine x_then rfl ?_
            obtain rfl := Option.some.inj H
            exact g_ret [.bool (decide (a0.Count ≤ 1048576))] (congrArg Array.toList Tryd.results114) (.cons (.t rfl) .nil) (fun W E => ⟨rfl, E.drop (List.nil_sublist _)⟩)
          · rw [if_neg c15] at H
            refine s_lit (t := 28) rfl (decide_eq_false c15) ?_
            refine l_off rfl rfl rfl rfl rfl rfl (by decide) ?_
            refine l_off rfl rfl rfl rfl rfl rfl (by decide) ?_
            refine l_off rfl rfl rfl rfl rfl rfl (by decide) ?_
            refine l_y (y_pickf rfl rfl rfl) rfl rfl (by decide) ?_
            refine l_y (y_assign rfl rfl) rfl rfl (by decide) ?_
            refine l_nil ?_
            refine x_next ?_
            refine c_ret ?_
            refine x_ret ?_
            refine x_then rfl ?_
            obtain rfl := Option.some.inj H
            exact g_ret [.bool false] (congrArg Array.toList Tryd.results114) (.cons (.t rfl) .nil) (fun W E => ⟨rfl, E.drop (List.nil_sublist _)⟩)
        · rw [if_neg c14] at H
          refine s_lit (t := 23) rfl (decide_eq_false c14) ?_
          refine l_off rfl rfl rfl rfl rfl rfl (by decide) ?_
          refine l_off rfl rfl rfl rfl rfl rfl (by decide) ?_
          refine l_off rfl rfl rfl rfl rfl rfl (by decide) ?_
          refine l_y (y_pickf rfl rfl rfl) rfl rfl (by decide) ?_
          refine l_y (y_move rfl rfl) rfl rfl (by decide) ?_
          refine l_off rfl rfl rfl rfl rfl rfl (by decide) ?_
          refine l_off rfl rfl rfl rfl rfl rfl (by decide) ?_
          refine l_off rfl rfl rfl rfl rfl rfl (by decide) ?_
          refine l_y (y_pickf rfl rfl rfl) rfl rfl (by decide) ?_
          refine l_y (y_assign rfl rfl) rfl rfl (by decide) ?_
          refine l_nil ?_
          refine x_next ?_
          refine c_ret ?_
          refine x_ret ?_
          refine x_then rfl ?_
          obtain rfl := Option.some.inj H
          exact g_ret [.bool false] (congrArg Array.toList Tryd.results114) (.cons (.t rfl) .nil) (fun W E => ⟨rfl, E.drop (List.nil_sublist _)⟩)
      · rw [if_neg c13] at H
        refine s_lit (t := 19) rfl (decide_eq_false c13) ?_
        refine c_false rfl ?_
        refine c_seq ?_
        refine g_plain ?_
        refine l_y (y_bin rfl rfl rfl bi_eq) rfl rfl (by decide) ?_
        refine l_y (y_assign rfl rfl) rfl rfl (by decide) ?_
        refine l_nil ?_
        refine x_next ?_
        by_cases c16 : a0.Kind = 4
        · rw [if_pos c16] at H
          refine s_lit (t := 33) rfl (decide_eq_true c16) ?_
          refine c_true rfl ?_
          refine c_seq ?_
          refine g_plain ?_
          refine l_y (y_move rfl rfl) rfl rfl (by decide) ?_
          refine s_perm pf1 ?_
          refine s_perm pf1 ?_
          refine l_w rfl ?_
          obtain ⟨r17, hr17, H⟩ := Option.bind_eq_some_iff.1 H
          refine w_call (args := [.int .i64 1, .int .i64 64]) (caps := [.pointer (some ⟨β6, 0, none⟩), .pointer (some ⟨β5, 0, none⟩)]) has131 rfl rfl rfl rfl (by decide) (fun a W F E => ?_)
          refine (types_kids_1.calls k 1 64 (a0.Kids.length : Int) a0 A1 c2 β6 β5 I W r17 hr3 (by first | assumption | simp | omega) (St.first (L := [_, _]) E.st) hr17).mono ?_
          rintro e W' ⟨rfl, X⟩
          refine ⟨_, rfl, here (At.mk (F.put (by decide) _) (E.callN (L := [_, _]) X)) ?_⟩
          clear X E F W W' a
          refine l_y (y_assign rfl rfl) rfl rfl (by decide) ?_
          refine l_nil ?_
          refine x_next ?_
          refine c_ret ?_
          refine x_ret ?_
          refine x_then rfl ?_
          obtain rfl := Option.some.inj H
          exact g_ret [.bool r17] (congrArg Array.toList Tryd.results114) (.cons (.t rfl) .nil) (fun W E => ⟨rfl, E.drop (List.nil_sublist _)⟩)
        · rw [if_neg c16] at H
          refine s_lit (t := 33) rfl (decide_eq_false c16) ?_
          refine c_false rfl ?_
          refine c_skip ?_
          refine x_norm ?_
          refine x_next ?_
          refine c_seq ?_
          refine g_plain ?_
          refine l_y (y_assign rfl rfl) rfl rfl (by decide) ?_
          refine l_nil ?_
          refine x_next ?_
          refine c_ret ?_
          obtain rfl := Option.some.inj H
          exact g_ret [.bool false] (congrArg Array.toList Tryd.results114) (.cons (.t rfl) .nil) (fun W E => ⟨rfl, E.drop (List.nil_sublist _)⟩)
mutual
def types_measure.j2 : Nat → Bool → GType → Int → Option (Int × Bool)
  | 0, _, _, _ => none
  | k + 1, x28, a0, x11 => (if x28 = true then (some (1, true)) else (if a0.Kind = 3 then (some (min (IntKind.i64.wrap (x11 * a0.Count)) 1048577, decide (min (IntKind.i64.wrap (x11 * a0.Count)) 1048577 < 1048577))) else (some (x11, decide (x11 < 1048577)))))
def types_measure.l0 : Nat → Int → Int → GType → Int → Option (Int × Bool)
  | 0, _, _, _, _ => none
  | k + 1, x11, x12, a0, a1 => (if x12 < (a0.Kids.length : Int) then (if 0 ≤ x12 ∧ x12 < (a0.Kids.length : Int) then ((types_measure.f k (rd a0.Kids x12) (IntKind.i64.wrap (a1 - 1))).bind fun r25 => (if r25.2 = true then (types_measure.l0 k (min (IntKind.i64.wrap (x11 + r25.1)) 1048577) (IntKind.i64.wrap (x12 + 1)) a0 a1) else (some (0, false)))) else none) else (if a0.Kind = 1 then (types_measure.j2 k true a0 x11) else (types_measure.j2 k (decide (a0.Kind = 2)) a0 x11)))
def types_measure.j1 : Nat → Bool → GType → Int → Option (Int × Bool)
  | 0, _, _, _ => none
  | k + 1, x6, a0, a1 => (if x6 = true then (some (0, false)) else (types_measure.l0 k 0 0 a0 a1))
def types_measure.f : Nat → GType → Int → Option (Int × Bool)
  | 0, _, _ => none
  | k + 1, a0, a1 => (if a1 < 1 then (types_measure.j1 k true a0 a1) else ((types_kids.f k a0).bind fun r8 => (types_measure.j1 k (!r8) a0 a1)))
end
def types_measure.Post (I : Imm) (O : List Ent) (w : World) (r : (Int × Bool)) (e : Ending) (w' : World) : Prop := e = .returned (.tuple #[.int .i64 r.1, .bool r.2]) ∧ Ext I O w I O w'
set_option maxRecDepth 100000 in
set_option maxHeartbeats 1000000 in
theorem types_measure.calls (k : Nat) : ∀ (a0 : GType) (a1 : Int) (A1 : Option Addr) (c2 : Nat) (I : Imm) (w : World) (r : (Int × Bool)) (hr3 : RowsG R_Type 3 40 I A1 a0.Kids) (hc4 : a0.Kids.length ≤ c2), St I [] w → types_measure.f k a0 a1 = some r →
  Calls Tryd.prog 65 #[.agg #[.int .i64 a0.Kind, .int .i64 a0.Count, .slice A1 a0.Kids.length c2], .int .i64 a1] w (types_measure.Post I [] w r) := by
  induction k using Nat.strongRecOn with
  | _ k ih =>
  intro a0 a1 A1 c2 I w r hr3 hc4 hS H
  have nhr3 := hr3.len
  cases k with
  | zero => exact absurd H (by simp [types_measure.f])
  | succ k =>
    simp only [types_measure.f] at H
    refine enter Tryd.func65 rfl Tryd.ntmps65 (Nat.le_of_ble_eq_true rfl) hS ?_
    refine c_seq ?_
    refine g_plain ?_
    refine l_w rfl ?_
    refine w_box (cs := [.int .i64 a0.Kind, .int .i64 a0.Count, .slice A1 a0.Kids.length c2]) (m := 3) rfl rfl rfl rfl rfl (by decide) (fun β5 => ?_)
    refine l_y (y_assign rfl rfl) rfl rfl (by decide) ?_
    refine l_y (y_assign rfl rfl) rfl rfl (by decide) ?_
    refine l_nil ?_
    refine x_next ?_
    refine c_seq ?_
    refine c_join (fun a W => ∃ (kq : Nat) (x6 : Bool), types_measure.j1 kq x6 a0 a1 = some r ∧ kq ≤ k ∧ At 54 [] [(1, .int .i64 a1), (2, .pointer (some ⟨β5, 0, none⟩)), (17, .bool x6)] I [] w I [.cells β5 24 [.int .i64 a0.Kind, .int .i64 a0.Count, .slice A1 a0.Kids.length c2] 3] a W) ?_ ?_
    · skip
      refine g_plain ?_
      refine l_y (y_move rfl rfl) rfl rfl (by decide) ?_
      refine l_y (y_bin rfl rfl rfl bi_lt) rfl rfl (by decide) ?_
      refine l_y (y_move rfl rfl) rfl rfl (by decide) ?_
      by_cases c7 : a1 < 1
      · rw [if_pos c7] at H
        refine s_lit (t := 13) rfl (decide_eq_true c7) ?_
        refine l_off rfl rfl rfl rfl rfl rfl (by decide) ?_
        refine l_off rfl rfl rfl rfl rfl rfl (by decide) ?_
        refine l_off rfl rfl rfl rfl rfl rfl (by decide) ?_
        refine l_y (y_pickt rfl rfl rfl) rfl rfl (by decide) ?_
        refine l_nil ?_
        exact fun a W hA => ⟨k, true, H, (by omega), ⟨hA.fits.only ⟨rfl, rfl, rfl, trivial⟩, hA.ext⟩⟩
      · rw [if_neg c7] at H
        refine s_lit (t := 13) rfl (decide_eq_false c7) ?_
        refine l_yg (y_loadA (cs := [.int .i64 a0.Kind, .int .i64 a0.Count, .slice A1 a0.Kids.length c2]) ia24 rfl rfl rfl (cls_own (i := 0) rfl rfl)) rfl rfl rfl rfl rfl (by decide) ?_
        refine l_wg rfl rfl rfl rfl ?_
        obtain ⟨r8, hr8, H⟩ := Option.bind_eq_some_iff.1 H
        refine w_call (args := [.agg #[.int .i64 a0.Kind, .int .i64 a0.Count, .slice A1 a0.Kids.length c2]]) (caps := []) has114 rfl rfl rfl rfl (by decide) (fun a W F E => ?_)
        refine (types_kids.calls k a0 A1 c2 I W r8 hr3 (by first | assumption | simp | omega) (E.st.sub (List.nil_sublist _)) hr8).mono ?_
        rintro e W' ⟨rfl, X⟩
        refine ⟨_, rfl, here (At.mk (F.put (by decide) _) (E.call0 X)) ?_⟩
        clear X E F W W' a
        refine l_yg (y_not rfl rfl) rfl rfl rfl rfl rfl (by decide) ?_
        refine l_y (y_pickf rfl rfl rfl) rfl rfl (by decide) ?_
        refine l_nil ?_
        exact fun a W hA => ⟨k, (!r8), H, (by omega), ⟨hA.fits.only ⟨rfl, rfl, rfl, trivial⟩, hA.ext⟩⟩
    clear H
    rintro a W ⟨kq, x6, H, hk, hA⟩
    refine here hA ?_
    clear hA a W
    cases kq with
    | zero => exact absurd H (by simp [types_measure.j1])
    | succ k_j1 =>
      simp only [types_measure.j1] at H
      by_cases c10 : x6 = true
      · rw [if_pos c10] at H
        refine s_lit (t := 17) rfl c10 ?_
        refine c_true rfl ?_
        refine c_seq ?_
        refine g_plain ?_
        refine l_y (y_assign rfl rfl) rfl rfl (by decide) ?_
        refine l_y (y_assign rfl rfl) rfl rfl (by decide) ?_
        refine l_nil ?_
        refine x_next ?_
        refine c_ret ?_
        refine x_then rfl ?_
        obtain rfl := Option.some.inj H
        exact g_ret [.int .i64 0, .bool false] (congrArg Array.toList Tryd.results65) (.cons (.t rfl) (.cons (.t rfl) .nil)) (fun W E => ⟨rfl, E.drop (List.nil_sublist _)⟩)
      · rw [if_neg c10] at H
        refine s_lit (t := 17) rfl (Bool.eq_false_iff.2 c10) ?_
        refine c_false rfl ?_
        refine c_skip ?_
        refine x_next ?_
        refine c_seq ?_
        refine g_plain ?_
        refine l_y (y_assign rfl rfl) rfl rfl (by decide) ?_
        refine l_nil ?_
        refine x_next ?_
        refine c_seq ?_
        refine c_seq ?_
        refine g_plain ?_
        refine l_y (y_field (j' := 2) fa24_2 rfl rfl rfl) rfl rfl (by decide) ?_
        refine l_y (y_load is22 rfl rfl (cl_own (i := 0) (j := 2) rfl rfl)) rfl rfl (by decide) ?_
        refine l_y (y_len Tryd.underlying22 rfl rfl) rfl rfl (by decide) ?_
        refine l_y (y_move rfl rfl) rfl rfl (by decide) ?_
        refine l_nil ?_
        refine x_next ?_
        refine c_block ?_
        refine c_loop (fun kq a W => ∃ (x11 : Int) (x12 : Int), types_measure.l0 kq x11 x12 a0 a1 = some r ∧ kq ≤ k_j1 ∧ At 54 [] [(1, .int .i64 a1), (2, .pointer (some ⟨β5, 0, none⟩)), (6, .int .i64 x11), (19, .slice A1 a0.Kids.length c2), (20, .int .i64 (a0.Kids.length : Int)), (21, .int .i64 x12)] I [] w I [.cells β5 24 [.int .i64 a0.Kind, .int .i64 a0.Count, .slice A1 a0.Kids.length c2] 3] a W) k_j1 (fun a W hA => ⟨0, 0, H, (Nat.le_refl _), ⟨hA.fits.only ⟨rfl, rfl, rfl, rfl, rfl, rfl, trivial⟩, hA.ext⟩⟩) ?_
        clear H
        rintro kq a W ⟨x11, x12, H, hk, hA⟩
        refine here hA ?_
        clear hA a W
        cases kq with
        | zero => exact absurd H (by simp [types_measure.l0])
        | succ k0 =>
          simp only [types_measure.l0] at H
          refine c_seq ?_
          refine g_plain ?_
          refine l_y (y_bin rfl rfl rfl bi_lt) rfl rfl (by decide) ?_
          refine l_nil ?_
          refine x_next ?_
          refine c_seq ?_
          by_cases c13 : x12 < (a0.Kids.length : Int)
          · rw [if_pos c13] at H
            refine s_lit (t := 22) rfl (decide_eq_true c13) ?_
            refine c_true rfl ?_
            refine c_skip ?_
            refine x_next ?_
            refine c_seq ?_
            refine c_block ?_
            refine c_seq ?_
            refine g_plain ?_
            by_cases c14 : 0 ≤ x12 ∧ x12 < (a0.Kids.length : Int)
            rotate_left
            · rw [if_neg c14] at H; exact absurd H (by simp)
            rw [if_pos c14] at H
            obtain ⟨b15, o16, hA_, hE17⟩ := hr3.elem (by omega)
            obtain rfl := hA_
            obtain ⟨cs20, hR21, hC22⟩ := hE17 x12 c14.1 c14.2
            obtain ⟨A18, c19, rfl, hr23, chr23⟩ := hR21.open
            refine l_y (y_index sl22 rfl rfl rfl c14.1 c14.2) rfl rfl (by decide) ?_
            refine l_y (y_loadA (cs := [.int .i64 ((rd a0.Kids x12).Kind), .int .i64 ((rd a0.Kids x12).Count), .slice A18 (((rd a0.Kids x12).Kids).length) c19]) ia24 rfl rfl rfl hC22.cls) rfl rfl (by decide) ?_
            refine l_w rfl ?_
            refine w_alloc (cs := [.int .i64 0, .int .i64 0, .slice none 0 0]) (m := 3) zz24 rfl rfl rfl rfl (by decide) (fun β24 => ?_)
            refine l_w rfl ?_
            refine w_store0 (cs' := [.int .i64 ((rd a0.Kids x12).Kind), .int .i64 ((rd a0.Kids x12).Count), .slice A18 (((rd a0.Kids x12).Kids).length) c19]) sz24 rfl rfl rfl rfl rfl (Nat.le_of_ble_eq_true rfl) rfl rfl ?_
            refine l_nil ?_
            refine x_next ?_
            refine c_seq ?_
            refine g_plain ?_
            refine l_y (y_loadA (cs := [.int .i64 ((rd a0.Kids x12).Kind), .int .i64 ((rd a0.Kids x12).Count), .slice A18 (((rd a0.Kids x12).Kids).length) c19]) ia24 rfl rfl rfl (cls_own (i := 0) rfl rfl)) rfl rfl (by decide) ?_
            refine l_y (y_move rfl rfl) rfl rfl (by decide) ?_
            refine l_y (y_bin rfl rfl rfl bi_sub) rfl rfl (by decide) ?_
            refine l_w rfl ?_
            obtain ⟨r25, hr25, H⟩ := Option.bind_eq_some_iff.1 H
            refine w_call (args := [.agg #[.int .i64 ((rd a0.Kids x12).Kind), .int .i64 ((rd a0.Kids x12).Count), .slice A18 (((rd a0.Kids x12).Kids).length) c19], .int .i64 (IntKind.i64.wrap (a1 - 1))]) (caps := []) has65 rfl rfl rfl rfl (by decide) (fun a W F E => ?_)
            refine ((ih k0 (by omega)) (rd a0.Kids x12) (IntKind.i64.wrap (a1 - 1)) A18 c19 I W r25 hr23 (by first | assumption | simp | omega) (E.st.sub (List.nil_sublist _)) hr25).mono ?_
            rintro e W' ⟨rfl, X⟩
            refine ⟨_, rfl, here (At.mk (F.put (by decide) _) (E.call0 X)) ?_⟩
            clear X E F W W' a
            refine l_y (y_move rfl rfl) rfl rfl (by decide) ?_
            refine l_y (y_extract rfl rfl rfl) rfl rfl (by decide) ?_
            refine l_y (y_extract rfl rfl rfl) rfl rfl (by decide) ?_
            refine l_y (y_assign rfl rfl) rfl rfl (by decide) ?_
            refine l_y (y_assign rfl rfl) rfl rfl (by decide) ?_
            refine l_nil ?_
            refine x_next ?_
            refine c_seq ?_
            refine c_seq ?_
            refine g_plain ?_
            refine l_y (y_move rfl rfl) rfl rfl (by decide) ?_
            refine l_y (y_not rfl rfl) rfl rfl (by decide) ?_
            refine l_nil ?_
            refine x_next ?_
            by_cases c27 : r25.2 = true
            · rw [if_pos c27] at H
              refine s_lit (t := 33) rfl (not_f c27) ?_
              refine c_false rfl ?_
              refine c_skip ?_
              refine x_next ?_
              refine g_plain ?_
              refine l_y (y_move rfl rfl) rfl rfl (by decide) ?_
              refine l_y (y_move rfl rfl) rfl rfl (by decide) ?_
              refine l_y (y_bin rfl rfl rfl bi_add) rfl rfl (by decide) ?_
              refine l_y (y_min rfl rfl rfl) rfl rfl (by decide) ?_
              refine l_y (y_assign rfl rfl) rfl rfl (by decide) ?_
              refine l_nil ?_
              refine x_norm ?_
              refine x_next ?_
              refine g_plain ?_
              refine l_y (y_bin rfl rfl rfl bi_add) rfl rfl (by decide) ?_
              refine l_y (y_move rfl rfl) rfl rfl (by decide) ?_
              refine l_nil ?_
              refine s_perm pf1 ?_
              refine s_drop ((.cons_cons _ (List.nil_sublist _))) ?_
              exact fun a W hA => ⟨k0, by omega, (min (IntKind.i64.wrap (x11 + r25.1)) 1048577), (IntKind.i64.wrap (x12 + 1)), H, (by omega), ⟨hA.fits.only ⟨rfl, rfl, rfl, rfl, rfl, rfl, trivial⟩, hA.ext⟩⟩
            · rw [if_neg c27] at H
              refine s_lit (t := 33) rfl (not_t (Bool.eq_false_iff.2 c27)) ?_
              refine c_true rfl ?_
              refine c_seq ?_
              refine g_plain ?_
              refine l_y (y_assign rfl rfl) rfl rfl (by decide) ?_
              refine l_y (y_assign rfl rfl) rfl rfl (by decide) ?_
              refine l_nil ?_
              refine x_next ?_
              refine c_ret ?_
              refine x_then rfl ?_
              refine x_ret ?_
              refine x_then rfl ?_
              refine x_then rfl ?_
              refine x_ret ?_
              refine x_then rfl ?_
              obtain rfl := Option.some.inj H
              exact g_ret [.int .i64 0, .bool false] (congrArg Array.toList Tryd.results65) (.cons (.t rfl) (.cons (.t rfl) .nil)) (fun W E => ⟨rfl, E.drop (List.nil_sublist _)⟩)
          · rw [if_neg c13] at H
            refine s_lit (t := 22) rfl (decide_eq_false c13) ?_
            refine c_false rfl ?_
            refine c_exit ?_
            refine x_then rfl ?_
            refine x_then rfl ?_
            refine x_in ?_
            refine x_next ?_
            refine c_seq ?_
            refine c_seq ?_
            refine g_plain ?_
            refine l_y (y_field (j' := 0) fa24_0 rfl rfl rfl) rfl rfl (by decide) ?_
            refine l_y (y_load is3 rfl rfl (cl_own (i := 0) (j := 0) rfl rfl)) rfl rfl (by decide) ?_
            refine l_nil ?_
            refine x_next ?_
            refine c_block ?_
            refine c_join (fun a W => ∃ (kq : Nat) (x28 : Bool), types_measure.j2 kq x28 a0 x11 = some r ∧ kq ≤ k0 ∧ At 54 [] [(2, .pointer (some ⟨β5, 0, none⟩)), (6, .int .i64 x11), (40, .int .i64 a0.Kind), (41, .bool x28)] I [] w I [.cells β5 24 [.int .i64 a0.Kind, .int .i64 a0.Count, .slice A1 a0.Kids.length c2] 3] a W) ?_ ?_
            · skip
              refine c_seq ?_
              refine g_plain ?_
              refine l_y (y_bin rfl rfl rfl bi_eq) rfl rfl (by decide) ?_
              refine l_y (y_assign rfl rfl) rfl rfl (by decide) ?_
              refine l_nil ?_
              refine x_next ?_
              by_cases c29 : a0.Kind = 1
              · rw [if_pos c29] at H
                refine s_lit (t := 41) rfl (decide_eq_true c29) ?_
                refine c_true rfl ?_
                refine c_skip ?_
                exact fun a W hA => ⟨k0, true, H, (by omega), ⟨hA.fits.only ⟨rfl, rfl, rfl, rfl, trivial⟩, hA.ext⟩⟩
              · rw [if_neg c29] at H
                refine s_lit (t := 41) rfl (decide_eq_false c29) ?_
                refine c_false rfl ?_
                refine g_plain ?_
                refine l_y (y_bin rfl rfl rfl bi_eq) rfl rfl (by decide) ?_
                refine l_y (y_assign rfl rfl) rfl rfl (by decide) ?_
                refine l_nil ?_
                exact fun a W hA => ⟨k0, (decide (a0.Kind = 2)), H, (by omega), ⟨hA.fits.only ⟨rfl, rfl, rfl, rfl, trivial⟩, hA.ext⟩⟩
            clear H
            rintro a W ⟨kq, x28, H, hk, hA⟩
            refine here hA ?_
            clear hA a W
            cases kq with
            | zero => exact absurd H (by simp [types_measure.j2])
            | succ k_j2 =>
              simp only [types_measure.j2] at H
              by_cases c30 : x28 = true
              · rw [if_pos c30] at H
                refine s_lit (t := 41) rfl c30 ?_
                refine c_true rfl ?_
                refine g_plain ?_
                refine l_y (y_assign rfl rfl) rfl rfl (by decide) ?_
                refine l_nil ?_
                refine x_norm ?_
                refine x_next ?_
                refine c_seq ?_
                refine g_plain ?_
                refine l_y (y_move rfl rfl) rfl rfl (by decide) ?_
                refine l_y (y_move rfl rfl) rfl rfl (by decide) ?_
                refine l_y (y_bin rfl rfl rfl bi_lt) rfl rfl (by decide) ?_
                refine l_y (y_assign rfl rfl) rfl rfl (by decide) ?_
                refine l_y (y_assign rfl rfl) rfl rfl (by decide) ?_
                refine l_nil ?_
                refine x_next ?_
                refine c_ret ?_
                obtain rfl := Option.some.inj H
                exact g_ret [.int .i64 1, .bool (decide (1 < 1048577))] (congrArg Array.toList Tryd.results65) (.cons (.t rfl) (.cons (.t rfl) .nil)) (fun W E => ⟨rfl, E.drop (List.nil_sublist _)⟩)
              · rw [if_neg c30] at H
                refine s_lit (t := 41) rfl (Bool.eq_false_iff.2 c30) ?_
                refine c_false rfl ?_
                refine c_seq ?_
                refine g_plain ?_
                refine l_y (y_bin rfl rfl rfl bi_eq) rfl rfl (by decide) ?_
                refine l_y (y_assign rfl rfl) rfl rfl (by decide) ?_
                refine l_nil ?_
                refine x_next ?_
                by_cases c31 : a0.Kind = 3
                · rw [if_pos c31] at H
                  refine s_lit (t := 44) rfl (decide_eq_true c31) ?_
                  refine c_true rfl ?_
                  refine g_plain ?_
                  refine l_y (y_move rfl rfl) rfl rfl (by decide) ?_
                  refine l_y (y_field (j' := 1) fa24_1 rfl rfl rfl) rfl rfl (by decide) ?_
                  refine l_y (y_load is3 rfl rfl (cl_own (i := 0) (j := 1) rfl rfl)) rfl rfl (by decide) ?_
                  refine l_y (y_bin rfl rfl rfl bi_mul) rfl rfl (by decide) ?_
                  refine l_y (y_min rfl rfl rfl) rfl rfl (by decide) ?_
                  refine l_y (y_assign rfl rfl) rfl rfl (by decide) ?_
                  refine l_nil ?_
                  refine x_norm ?_
                  refine x_next ?_
                  refine c_seq ?_
                  refine g_plain ?_
                  refine l_y (y_move rfl rfl) rfl rfl (by decide) ?_
                  refine l_y (y_move rfl rfl) rfl rfl (by decide) ?_
                  refine l_y (y_bin rfl rfl rfl bi_lt) rfl rfl (by decide) ?_
                  refine l_y (y_assign rfl rfl) rfl rfl (by decide) ?_
                  refine l_y (y_assign rfl rfl) rfl rfl (by decide) ?_
                  refine l_nil ?_
                  refine x_next ?_
                  refine c_ret ?_
                  obtain rfl := Option.some.inj H
                  exact g_ret [.int .i64 (min (IntKind.i64.wrap (x11 * a0.Count)) 1048577), .bool (decide (min (IntKind.i64.wrap (x11 * a0.Count)) 1048577 < 1048577))] (congrArg Array.toList Tryd.results65) (.cons (.t rfl) (.cons (.t rfl) .nil)) (fun W E => ⟨rfl, E.drop (List.nil_sublist _)⟩)
                · rw [if_neg c31] at H
                  refine s_lit (t := 44) rfl (decide_eq_false c31) ?_
                  refine c_false rfl ?_
                  refine c_skip ?_
                  refine x_norm ?_
                  refine x_next ?_
                  refine c_seq ?_
                  refine g_plain ?_
                  refine l_y (y_move rfl rfl) rfl rfl (by decide) ?_
                  refine l_y (y_move rfl rfl) rfl rfl (by decide) ?_
                  refine l_y (y_bin rfl rfl rfl bi_lt) rfl rfl (by decide) ?_
                  refine l_y (y_assign rfl rfl) rfl rfl (by decide) ?_
                  refine l_y (y_assign rfl rfl) rfl rfl (by decide) ?_
                  refine l_nil ?_
                  refine x_next ?_
                  refine c_ret ?_
                  obtain rfl := Option.some.inj H
                  exact g_ret [.int .i64 x11, .bool (decide (x11 < 1048577))] (congrArg Array.toList Tryd.results65) (.cons (.t rfl) (.cons (.t rfl) .nil)) (fun W E => ⟨rfl, E.drop (List.nil_sublist _)⟩)
def types_Right.f (k : Nat) (a0 : GType) : Option Bool := ((types_measure.f k a0 100).bind fun r6 => (some r6.2))
def types_Right.Post (I : Imm) (O : List Ent) (w : World) (r : Bool) (e : Ending) (w' : World) : Prop := e = .returned (.bool r) ∧ Ext I O w I O w'
set_option maxRecDepth 100000 in
set_option maxHeartbeats 1000000 in
theorem types_Right.calls (k : Nat) : ∀ (a0 : GType) (A1 : Option Addr) (c2 : Nat) (I : Imm) (w : World) (r : Bool) (hr3 : RowsG R_Type 3 40 I A1 a0.Kids) (hc4 : a0.Kids.length ≤ c2), St I [] w → types_Right.f k a0 = some r →
  Calls Tryd.prog 19 #[.agg #[.int .i64 a0.Kind, .int .i64 a0.Count, .slice A1 a0.Kids.length c2]] w (types_Right.Post I [] w r) := by
  intro a0 A1 c2 I w r hr3 hc4 hS H
  have nhr3 := hr3.len
  simp only [types_Right.f] at H
  refine enter Tryd.func19 rfl Tryd.ntmps19 (Nat.le_of_ble_eq_true rfl) hS ?_
  refine c_seq ?_
  refine g_plain ?_
  refine l_w rfl ?_
  refine w_box (cs := [.int .i64 a0.Kind, .int .i64 a0.Count, .slice A1 a0.Kids.length c2]) (m := 3) rfl rfl rfl rfl rfl (by decide) (fun β5 => ?_)
  refine l_y (y_assign rfl rfl) rfl rfl (by decide) ?_
  refine l_nil ?_
  refine x_next ?_
  refine c_seq ?_
  refine g_plain ?_
  refine l_y (y_loadA (cs := [.int .i64 a0.Kind, .int .i64 a0.Count, .slice A1 a0.Kids.length c2]) ia24 rfl rfl rfl (cls_own (i := 0) rfl rfl)) rfl rfl (by decide) ?_
  refine l_w rfl ?_
  obtain ⟨r6, hr6, H⟩ := Option.bind_eq_some_iff.1 H
  refine w_call (args := [.agg #[.int .i64 a0.Kind, .int .i64 a0.Count, .slice A1 a0.Kids.length c2], .int .i64 100]) (caps := []) has65 rfl rfl rfl rfl (by decide) (fun a W F E => ?_)
  refine (types_measure.calls k a0 100 A1 c2 I W r6 hr3 (by first | assumption | simp | omega) (E.st.sub (List.nil_sublist _)) hr6).mono ?_
  rintro e W' ⟨rfl, X⟩
  refine ⟨_, rfl, here (At.mk (F.put (by decide) _) (E.call0 X)) ?_⟩
  clear X E F W W' a
  refine l_y (y_move rfl rfl) rfl rfl (by decide) ?_
  refine l_y (y_extract rfl rfl rfl) rfl rfl (by decide) ?_
  refine l_y (y_extract rfl rfl rfl) rfl rfl (by decide) ?_
  refine l_y (y_assign rfl rfl) rfl rfl (by decide) ?_
  refine l_y (y_assign rfl rfl) rfl rfl (by decide) ?_
  refine l_nil ?_
  refine x_next ?_
  refine c_seq ?_
  refine g_plain ?_
  refine l_y (y_move rfl rfl) rfl rfl (by decide) ?_
  refine l_y (y_assign rfl rfl) rfl rfl (by decide) ?_
  refine l_nil ?_
  refine x_next ?_
  refine c_ret ?_
  obtain rfl := Option.some.inj H
  exact g_ret [.bool r6.2] (congrArg Array.toList Tryd.results19) (.cons (.t rfl) .nil) (fun W E => ⟨rfl, E.drop (List.nil_sublist _)⟩)
def types_Size.f (k : Nat) (a0 : GType) : Option Int := ((types_measure.f k a0 100).bind fun r6 => (if r6.2 = true then (some r6.1) else (some 0)))
def types_Size.Post (I : Imm) (O : List Ent) (w : World) (r : Int) (e : Ending) (w' : World) : Prop := e = .returned (.int .i64 r) ∧ Ext I O w I O w'
set_option maxRecDepth 100000 in
set_option maxHeartbeats 1000000 in
theorem types_Size.calls (k : Nat) : ∀ (a0 : GType) (A1 : Option Addr) (c2 : Nat) (I : Imm) (w : World) (r : Int) (hr3 : RowsG R_Type 3 40 I A1 a0.Kids) (hc4 : a0.Kids.length ≤ c2), St I [] w → types_Size.f k a0 = some r →
  Calls Tryd.prog 21 #[.agg #[.int .i64 a0.Kind, .int .i64 a0.Count, .slice A1 a0.Kids.length c2]] w (types_Size.Post I [] w r) := by
  intro a0 A1 c2 I w r hr3 hc4 hS H
  have nhr3 := hr3.len
  simp only [types_Size.f] at H
  refine enter Tryd.func21 rfl Tryd.ntmps21 (Nat.le_of_ble_eq_true rfl) hS ?_
  refine c_seq ?_
  refine g_plain ?_
  refine l_w rfl ?_
  refine w_box (cs := [.int .i64 a0.Kind, .int .i64 a0.Count, .slice A1 a0.Kids.length c2]) (m := 3) rfl rfl rfl rfl rfl (by decide) (fun β5 => ?_)
  refine l_y (y_assign rfl rfl) rfl rfl (by decide) ?_
  refine l_nil ?_
  refine x_next ?_
  refine c_seq ?_
  refine g_plain ?_
  refine l_y (y_loadA (cs := [.int .i64 a0.Kind, .int .i64 a0.Count, .slice A1 a0.Kids.length c2]) ia24 rfl rfl rfl (cls_own (i := 0) rfl rfl)) rfl rfl (by decide) ?_
  refine l_w rfl ?_
  obtain ⟨r6, hr6, H⟩ := Option.bind_eq_some_iff.1 H
  refine w_call (args := [.agg #[.int .i64 a0.Kind, .int .i64 a0.Count, .slice A1 a0.Kids.length c2], .int .i64 100]) (caps := []) has65 rfl rfl rfl rfl (by decide) (fun a W F E => ?_)
  refine (types_measure.calls k a0 100 A1 c2 I W r6 hr3 (by first | assumption | simp | omega) (E.st.sub (List.nil_sublist _)) hr6).mono ?_
  rintro e W' ⟨rfl, X⟩
  refine ⟨_, rfl, here (At.mk (F.put (by decide) _) (E.call0 X)) ?_⟩
  clear X E F W W' a
  refine l_y (y_move rfl rfl) rfl rfl (by decide) ?_
  refine l_y (y_extract rfl rfl rfl) rfl rfl (by decide) ?_
  refine l_y (y_extract rfl rfl rfl) rfl rfl (by decide) ?_
  refine l_y (y_assign rfl rfl) rfl rfl (by decide) ?_
  refine l_y (y_assign rfl rfl) rfl rfl (by decide) ?_
  refine l_nil ?_
  refine x_next ?_
  refine c_seq ?_
  refine c_seq ?_
  refine g_plain ?_
  refine l_y (y_move rfl rfl) rfl rfl (by decide) ?_
  refine l_y (y_not rfl rfl) rfl rfl (by decide) ?_
  refine l_nil ?_
  refine x_next ?_
  by_cases c8 : r6.2 = true
  · rw [if_pos c8] at H
    refine s_lit (t := 11) rfl (not_f c8) ?_
    refine c_false rfl ?_
    refine c_skip ?_
    refine x_next ?_
    refine c_seq ?_
    refine g_plain ?_
    refine l_y (y_move rfl rfl) rfl rfl (by decide) ?_
    refine l_y (y_assign rfl rfl) rfl rfl (by decide) ?_
    refine l_nil ?_
    refine x_next ?_
    refine c_ret ?_
    obtain rfl := Option.some.inj H
    exact g_ret [.int .i64 r6.1] (congrArg Array.toList Tryd.results21) (.cons (.t rfl) .nil) (fun W E => ⟨rfl, E.drop (List.nil_sublist _)⟩)
  · rw [if_neg c8] at H
    refine s_lit (t := 11) rfl (not_t (Bool.eq_false_iff.2 c8)) ?_
    refine c_true rfl ?_
    refine c_seq ?_
    refine g_plain ?_
    refine l_y (y_assign rfl rfl) rfl rfl (by decide) ?_
    refine l_nil ?_
    refine x_next ?_
    refine c_ret ?_
    refine x_then rfl ?_
    obtain rfl := Option.some.inj H
    exact g_ret [.int .i64 0] (congrArg Array.toList Tryd.results21) (.cons (.t rfl) .nil) (fun W E => ⟨rfl, E.drop (List.nil_sublist _)⟩)
def types_Scalar.f (k : Nat) (a0 : GType) : Option Bool := ((types_Right.f k a0).bind fun r6 => (if r6 = true then (if a0.Kind = 1 then (some true) else (some (decide (a0.Kind = 2)))) else (some false)))
def types_Scalar.Post (I : Imm) (O : List Ent) (w : World) (r : Bool) (e : Ending) (w' : World) : Prop := e = .returned (.bool r) ∧ Ext I O w I O w'
set_option maxRecDepth 100000 in
set_option maxHeartbeats 1000000 in
theorem types_Scalar.calls (k : Nat) : ∀ (a0 : GType) (A1 : Option Addr) (c2 : Nat) (I : Imm) (w : World) (r : Bool) (hr3 : RowsG R_Type 3 40 I A1 a0.Kids) (hc4 : a0.Kids.length ≤ c2), St I [] w → types_Scalar.f k a0 = some r →
  Calls Tryd.prog 24 #[.agg #[.int .i64 a0.Kind, .int .i64 a0.Count, .slice A1 a0.Kids.length c2]] w (types_Scalar.Post I [] w r) := by
  intro a0 A1 c2 I w r hr3 hc4 hS H
  have nhr3 := hr3.len
  simp only [types_Scalar.f] at H
  refine enter Tryd.func24 rfl Tryd.ntmps24 (Nat.le_of_ble_eq_true rfl) hS ?_
  refine c_seq ?_
  refine g_plain ?_
  refine l_w rfl ?_
  refine w_box (cs := [.int .i64 a0.Kind, .int .i64 a0.Count, .slice A1 a0.Kids.length c2]) (m := 3) rfl rfl rfl rfl rfl (by decide) (fun β5 => ?_)
  refine l_y (y_assign rfl rfl) rfl rfl (by decide) ?_
  refine l_nil ?_
  refine x_next ?_
  refine c_seq ?_
  refine g_plain ?_
  refine l_y (y_loadA (cs := [.int .i64 a0.Kind, .int .i64 a0.Count, .slice A1 a0.Kids.length c2]) ia24 rfl rfl rfl (cls_own (i := 0) rfl rfl)) rfl rfl (by decide) ?_
  refine l_w rfl ?_
  obtain ⟨r6, hr6, H⟩ := Option.bind_eq_some_iff.1 H
  refine w_call (args := [.agg #[.int .i64 a0.Kind, .int .i64 a0.Count, .slice A1 a0.Kids.length c2]]) (caps := []) has19 rfl rfl rfl rfl (by decide) (fun a W F E => ?_)
  refine (types_Right.calls k a0 A1 c2 I W r6 hr3 (by first | assumption | simp | omega) (E.st.sub (List.nil_sublist _)) hr6).mono ?_
  rintro e W' ⟨rfl, X⟩
  refine ⟨_, rfl, here (At.mk (F.put (by decide) _) (E.call0 X)) ?_⟩
  clear X E F W W' a
  refine l_y (y_move rfl rfl) rfl rfl (by decide) ?_
  by_cases c8 : r6 = true
  · rw [if_pos c8] at H
    refine s_lit (t := 5) rfl c8 ?_
    refine l_yg (y_field (j' := 0) fa24_0 rfl rfl rfl) rfl rfl rfl rfl rfl (by decide) ?_
    refine l_yg (y_load is3 rfl rfl (cl_own (i := 0) (j := 0) rfl rfl)) rfl rfl rfl rfl rfl (by decide) ?_
    refine l_yg (y_bin rfl rfl rfl bi_eq) rfl rfl rfl rfl rfl (by decide) ?_
    refine l_yg (y_move rfl rfl) rfl rfl rfl rfl rfl (by decide) ?_
    by_cases c9 : a0.Kind = 1
    · rw [if_pos c9] at H
      refine s_lit (t := 9) rfl (decide_eq_true c9) ?_
      refine l_off rfl rfl rfl rfl rfl rfl (by decide) ?_
      refine l_off rfl rfl rfl rfl rfl rfl (by decide) ?_
      refine l_off rfl rfl rfl rfl rfl rfl (by decide) ?_
      refine l_yg (y_pickt rfl rfl rfl) rfl rfl rfl rfl rfl (by decide) ?_
      refine l_y (y_pickt rfl rfl rfl) rfl rfl (by decide) ?_
      refine l_y (y_assign rfl rfl) rfl rfl (by decide) ?_
      refine l_nil ?_
      refine x_next ?_
      refine c_ret ?_
      obtain rfl := Option.some.inj H
      exact g_ret [.bool true] (congrArg Array.toList Tryd.results24) (.cons (.t rfl) .nil) (fun W E => ⟨rfl, E.drop (List.nil_sublist _)⟩)
    · rw [if_neg c9] at H
      refine s_lit (t := 9) rfl (decide_eq_false c9) ?_
      refine l_yg (y_field (j' := 0) fa24_0 rfl rfl rfl) rfl rfl rfl rfl rfl (by decide) ?_
      refine l_yg (y_load is3 rfl rfl (cl_own (i := 0) (j := 0) rfl rfl)) rfl rfl rfl rfl rfl (by decide) ?_
      refine l_yg (y_bin rfl rfl rfl bi_eq) rfl rfl rfl rfl rfl (by decide) ?_
      refine l_yg (y_pickf rfl rfl rfl) rfl rfl rfl rfl rfl (by decide) ?_
      refine l_y (y_pickt rfl rfl rfl) rfl rfl (by decide) ?_
      refine l_y (y_assign rfl rfl) rfl rfl (by decide) ?_
      refine l_nil ?_
      refine x_next ?_
      refine c_ret ?_
      obtain rfl := Option.some.inj H
      exact g_ret [.bool (decide (a0.Kind = 2))] (congrArg Array.toList Tryd.results24) (.cons (.t rfl) .nil) (fun W E => ⟨rfl, E.drop (List.nil_sublist _)⟩)
  · rw [if_neg c8] at H
    refine s_lit (t := 5) rfl (Bool.eq_false_iff.2 c8) ?_
    refine l_off rfl rfl rfl rfl rfl rfl (by decide) ?_
    refine l_off rfl rfl rfl rfl rfl rfl (by decide) ?_
    refine l_off rfl rfl rfl rfl rfl rfl (by decide) ?_
    refine l_off rfl rfl rfl rfl rfl rfl (by decide) ?_
    refine l_offu rfl rfl rfl rfl rfl (by decide) ?_
    refine l_offu rfl rfl rfl rfl rfl (by decide) ?_
    refine l_offu rfl rfl rfl rfl rfl (by decide) ?_
    refine l_off rfl rfl rfl rfl rfl rfl (by decide) ?_
    refine l_y (y_pickf rfl rfl rfl) rfl rfl (by decide) ?_
    refine l_y (y_assign rfl rfl) rfl rfl (by decide) ?_
    refine l_nil ?_
    refine x_next ?_
    refine c_ret ?_
    obtain rfl := Option.some.inj H
    exact g_ret [.bool false] (congrArg Array.toList Tryd.results24) (.cons (.t rfl) .nil) (fun W E => ⟨rfl, E.drop (List.nil_sublist _)⟩)
mutual
def types_Same.f : Nat → GType → GType → Option Bool
  | 0, _, _ => none
  | k + 1, a0, a1 => (if a0.Kind = a1.Kind then (if a0.Count = a1.Count then ((slices_EqualFunc_Type_types_Same.f k a0.Kids a1.Kids).bind fun r13 => (some r13)) else (some false)) else (some false))
def slices_EqualFunc_Type_types_Same.l0 : Nat → Int → (List GType) → (List GType) → Option Bool
  | 0, _, _, _ => none
  | k + 1, x10, a0, a1 => (if x10 < (a0.length : Int) then (if 0 ≤ x10 ∧ x10 < (a0.length : Int) then (if 0 ≤ x10 ∧ x10 < (a1.length : Int) then ((types_Same.f k (rd a0 x10) (rd a1 x10)).bind fun r34 => (if r34 = true then (slices_EqualFunc_Type_types_Same.l0 k (IntKind.i64.wrap (x10 + 1)) a0 a1) else (some false))) else none) else none) else (some true))
def slices_EqualFunc_Type_types_Same.f : Nat → (List GType) → (List GType) → Option Bool
  | 0, _, _ => none
  | k + 1, a0, a1 => (if (a0.length : Int) = (a1.length : Int) then (slices_EqualFunc_Type_types_Same.l0 k 0 a0 a1) else (some false))
end
def types_Same.Post (I : Imm) (O : List Ent) (w : World) (r : Bool) (e : Ending) (w' : World) : Prop := e = .returned (.bool r) ∧ Ext I O w I O w'
def slices_EqualFunc_Type_types_Same.Post (I : Imm) (O : List Ent) (w : World) (r : Bool) (e : Ending) (w' : World) : Prop := e = .returned (.bool r) ∧ Ext I O w I O w'
abbrev types_Same.Said (k : Nat) : Prop := ∀ (a0 : GType) (a1 : GType) (A1 : Option Addr) (c2 : Nat) (A5 : Option Addr) (c6 : Nat) (I : Imm) (w : World) (r : Bool) (hr3 : RowsG R_Type 3 40 I A1 a0.Kids) (hc4 : a0.Kids.length ≤ c2) (hr7 : RowsG R_Type 3 40 I A5 a1.Kids) (hc8 : a1.Kids.length ≤ c6), St I [] w → types_Same.f k a0 a1 = some r →
  Calls Tryd.prog 23 #[.agg #[.int .i64 a0.Kind, .int .i64 a0.Count, .slice A1 a0.Kids.length c2], .agg #[.int .i64 a1.Kind, .int .i64 a1.Count, .slice A5 a1.Kids.length c6]] w (types_Same.Post I [] w r)
abbrev slices_EqualFunc_Type_types_Same.Said (k : Nat) : Prop := ∀ (a0 : List GType) (a1 : List GType) (A1 : Option Addr) (c2 : Nat) (A5 : Option Addr) (c6 : Nat) (I : Imm) (w : World) (r : Bool) (hr3 : RowsG R_Type 3 40 I A1 a0) (hc4 : a0.length ≤ c2) (hr7 : RowsG R_Type 3 40 I A5 a1) (hc8 : a1.length ≤ c6), St I [] w → slices_EqualFunc_Type_types_Same.f k a0 a1 = some r →
  Calls Tryd.prog 68 #[.slice A1 a0.length c2, .slice A5 a1.length c6, .func (.func 23) #[] #[]] w (slices_EqualFunc_Type_types_Same.Post I [] w r)
set_option maxRecDepth 100000 in
set_option maxHeartbeats 1000000 in
theorem types_Same.step (k : Nat) (ih : ∀ m, m < k → types_Same.Said m ∧ slices_EqualFunc_Type_types_Same.Said m) : types_Same.Said k := by
  intro a0 a1 A1 c2 A5 c6 I w r hr3 hc4 hr7 hc8 hS H
  have nhr3 := hr3.len
  have nhr7 := hr7.len
  cases k with
  | zero => exact absurd H (by simp [types_Same.f])
  | succ k =>
    simp only [types_Same.f] at H
    refine enter Tryd.func23 rfl Tryd.ntmps23 (Nat.le_of_ble_eq_true rfl) hS ?_
    refine c_seq ?_
    refine g_plain ?_
    refine l_w rfl ?_
    refine w_box (cs := [.int .i64 a0.Kind, .int .i64 a0.Count, .slice A1 a0.Kids.length c2]) (m := 3) rfl rfl rfl rfl rfl (by decide) (fun β9 => ?_)
    refine l_w rfl ?_
    refine w_box (cs := [.int .i64 a1.Kind, .int .i64 a1.Count, .slice A5 a1.Kids.length c6]) (m := 3) rfl rfl rfl rfl rfl (by decide) (fun β10 => ?_)
    refine l_y (y_assign rfl rfl) rfl rfl (by decide) ?_
    refine l_nil ?_
    refine x_next ?_
    refine c_seq ?_
    refine g_plain ?_
    refine l_y (y_field (j' := 0) fa24_0 rfl rfl rfl) rfl rfl (by decide) ?_
    refine l_y (y_load is3 rfl rfl (cl_own (i := 1) (j := 0) rfl rfl)) rfl rfl (by decide) ?_
    refine l_y (y_field (j' := 0) fa24_0 rfl rfl rfl) rfl rfl (by decide) ?_
    refine l_y (y_load is3 rfl rfl (cl_own (i := 0) (j := 0) rfl rfl)) rfl rfl (by decide) ?_
    refine l_y (y_bin rfl rfl rfl bi_eq) rfl rfl (by decide) ?_
    refine l_y (y_move rfl rfl) rfl rfl (by decide) ?_
    by_cases c11 : a0.Kind = a1.Kind
    · rw [if_pos c11] at H
      refine s_lit (t := 10) rfl (decide_eq_true c11) ?_
      refine l_yg (y_field (j' := 1) fa24_1 rfl rfl rfl) rfl rfl rfl rfl rfl (by decide) ?_
      refine l_yg (y_load is3 rfl rfl (cl_own (i := 1) (j := 1) rfl rfl)) rfl rfl rfl rfl rfl (by decide) ?_
      refine l_yg (y_field (j' := 1) fa24_1 rfl rfl rfl) rfl rfl rfl rfl rfl (by decide) ?_
      refine l_yg (y_load is3 rfl rfl (cl_own (i := 0) (j := 1) rfl rfl)) rfl rfl rfl rfl rfl (by decide) ?_
      refine l_yg (y_bin rfl rfl rfl bi_eq) rfl rfl rfl rfl rfl (by decide) ?_
      refine l_y (y_pickt rfl rfl rfl) rfl rfl (by decide) ?_
      refine l_y (y_move rfl rfl) rfl rfl (by decide) ?_
      by_cases c12 : a0.Count = a1.Count
      · rw [if_pos c12] at H
        refine s_lit (t := 17) rfl (decide_eq_true c12) ?_
        refine l_yg (y_field (j' := 2) fa24_2 rfl rfl rfl) rfl rfl rfl rfl rfl (by decide) ?_
        refine l_yg (y_load is22 rfl rfl (cl_own (i := 1) (j := 2) rfl rfl)) rfl rfl rfl rfl rfl (by decide) ?_
        refine l_yg (y_field (j' := 2) fa24_2 rfl rfl rfl) rfl rfl rfl rfl rfl (by decide) ?_
        refine l_yg (y_load is22 rfl rfl (cl_own (i := 0) (j := 2) rfl rfl)) rfl rfl rfl rfl rfl (by decide) ?_
        refine l_wg rfl rfl rfl rfl ?_
        obtain ⟨r13, hr13, H⟩ := Option.bind_eq_some_iff.1 H
        refine w_call (args := [.slice A1 a0.Kids.length c2, .slice A5 a1.Kids.length c6, .func (.func 23) #[] #[]]) (caps := []) has68 rfl rfl rfl rfl (by decide) (fun a W F E => ?_)
        refine (((ih k (by omega)).2) a0.Kids a1.Kids A1 c2 A5 c6 I W r13 hr3 (by first | assumption | simp | omega) hr7 (by first | assumption | simp | omega) (E.st.sub (List.nil_sublist _)) hr13).mono ?_
        rintro e W' ⟨rfl, X⟩
        refine ⟨_, rfl, here (At.mk (F.put (by decide) _) (E.call0 X)) ?_⟩
        clear X E F W W' a
        refine l_y (y_pickt rfl rfl rfl) rfl rfl (by decide) ?_
        refine l_y (y_assign rfl rfl) rfl rfl (by decide) ?_
        refine l_nil ?_
        refine x_next ?_
        refine c_ret ?_
        obtain rfl := Option.some.inj H
        exact g_ret [.bool r13] (congrArg Array.toList Tryd.results23) (.cons (.t rfl) .nil) (fun W E => ⟨rfl, E.drop (List.nil_sublist _)⟩)
      · rw [if_neg c12] at H
        refine s_lit (t := 17) rfl (decide_eq_false c12) ?_
        refine l_off rfl rfl rfl rfl rfl rfl (by decide) ?_
        refine l_off rfl rfl rfl rfl rfl rfl (by decide) ?_
        refine l_off rfl rfl rfl rfl rfl rfl (by decide) ?_
        refine l_off rfl rfl rfl rfl rfl rfl (by decide) ?_
        refine l_off rfl rfl rfl rfl rfl rfl (by decide) ?_
        refine l_y (y_pickf rfl rfl rfl) rfl rfl (by decide) ?_
        refine l_y (y_assign rfl rfl) rfl rfl (by decide) ?_
        refine l_nil ?_
        refine x_next ?_
        refine c_ret ?_
        obtain rfl := Option.some.inj H
        exact g_ret [.bool false] (congrArg Array.toList Tryd.results23) (.cons (.t rfl) .nil) (fun W E => ⟨rfl, E.drop (List.nil_sublist _)⟩)
    · rw [if_neg c11] at H
      refine s_lit (t := 10) rfl (decide_eq_false c11) ?_
      refine l_off rfl rfl rfl rfl rfl rfl (by decide) ?_
      refine l_off rfl rfl rfl rfl rfl rfl (by decide) ?_
      refine l_off rfl rfl rfl rfl rfl rfl (by decide) ?_
      refine l_off rfl rfl rfl rfl rfl rfl (by decide) ?_
      refine l_off rfl rfl rfl rfl rfl rfl (by decide) ?_
      refine l_y (y_pickf rfl rfl rfl) rfl rfl (by decide) ?_
      refine l_y (y_move rfl rfl) rfl rfl (by decide) ?_
      refine l_off rfl rfl rfl rfl rfl rfl (by decide) ?_
      refine l_off rfl rfl rfl rfl rfl rfl (by decide) ?_
      refine l_off rfl rfl rfl rfl rfl rfl (by decide) ?_
      refine l_off rfl rfl rfl rfl rfl rfl (by decide) ?_
      refine l_off rfl rfl rfl rfl rfl rfl (by decide) ?_
      refine l_y (y_pickf rfl rfl rfl) rfl rfl (by decide) ?_
      refine l_y (y_assign rfl rfl) rfl rfl (by decide) ?_
      refine l_nil ?_
      refine x_next ?_
      refine c_ret ?_
      obtain rfl := Option.some.inj H
      exact g_ret [.bool false] (congrArg Array.toList Tryd.results23) (.cons (.t rfl) .nil) (fun W E => ⟨rfl, E.drop (List.nil_sublist _)⟩)
set_option maxRecDepth 100000 in
set_option maxHeartbeats 1000000 in
theorem slices_EqualFunc_Type_types_Same.step (k : Nat) (ih : ∀ m, m < k → types_Same.Said m ∧ slices_EqualFunc_Type_types_Same.Said m) : slices_EqualFunc_Type_types_Same.Said k := by
  intro a0 a1 A1 c2 A5 c6 I w r hr3 hc4 hr7 hc8 hS H
  have nhr3 := hr3.len
  have nhr7 := hr7.len
  cases k with
  | zero => exact absurd H (by simp [slices_EqualFunc_Type_types_Same.f])
  | succ k =>
    simp only [slices_EqualFunc_Type_types_Same.f] at H
    refine enter Tryd.func68 rfl Tryd.ntmps68 (Nat.le_of_ble_eq_true rfl) hS ?_
    refine c_seq ?_
    refine g_plain ?_
    refine l_y (y_assign rfl rfl) rfl rfl (by decide) ?_
    refine l_nil ?_
    refine x_next ?_
    refine c_seq ?_
    refine c_seq ?_
    refine g_plain ?_
    refine l_y (y_move rfl rfl) rfl rfl (by decide) ?_
    refine l_y (y_len Tryd.underlying22 rfl rfl) rfl rfl (by decide) ?_
    refine l_y (y_move rfl rfl) rfl rfl (by decide) ?_
    refine l_y (y_len Tryd.underlying22 rfl rfl) rfl rfl (by decide) ?_
    refine l_y (y_bin rfl rfl rfl bi_ne) rfl rfl (by decide) ?_
    refine l_nil ?_
    refine x_next ?_
    by_cases c9 : (a0.length : Int) = (a1.length : Int)
    · rw [if_pos c9] at H
      refine s_lit (t := 14) rfl (not_f (decide_eq_true c9)) ?_
      refine c_false rfl ?_
      refine c_skip ?_
      refine x_next ?_
      refine c_seq ?_
      refine c_seq ?_
      refine g_plain ?_
      refine l_y (y_move rfl rfl) rfl rfl (by decide) ?_
      refine l_y (y_len Tryd.underlying22 rfl rfl) rfl rfl (by decide) ?_
      refine l_y (y_move rfl rfl) rfl rfl (by decide) ?_
      refine l_nil ?_
      refine x_next ?_
      refine c_block ?_
      refine c_loop (fun kq a W => ∃ (x10 : Int), slices_EqualFunc_Type_types_Same.l0 kq x10 a0 a1 = some r ∧ kq ≤ k ∧ At 32 [] [(1, .slice A5 a1.length c6), (2, .func (.func 23) #[] #[]), (15, .slice A1 a0.length c2), (16, .int .i64 (a0.length : Int)), (17, .int .i64 x10)] I [] w I [] a W) k (fun a W hA => ⟨0, H, (Nat.le_refl _), ⟨hA.fits.only ⟨rfl, rfl, rfl, rfl, rfl, trivial⟩, hA.ext⟩⟩) ?_
      clear H
      rintro kq a W ⟨x10, H, hk, hA⟩
      refine here hA ?_
      clear hA a W
      cases kq with
      | zero => exact absurd H (by simp [slices_EqualFunc_Type_types_Same.l0])
      | succ k0 =>
        simp only [slices_EqualFunc_Type_types_Same.l0] at H
        refine c_seq ?_
        refine g_plain ?_
        refine l_y (y_bin rfl rfl rfl bi_lt) rfl rfl (by decide) ?_
        refine l_nil ?_
        refine x_next ?_
        refine c_seq ?_
        by_cases c11 : x10 < (a0.length : Int)
        · rw [if_pos c11] at H
          refine s_lit (t := 18) rfl (decide_eq_true c11) ?_
          refine c_true rfl ?_
          refine c_skip ?_
          refine x_next ?_
          refine c_seq ?_
          refine c_block ?_
          refine c_seq ?_
          refine g_plain ?_
          refine l_y (y_move rfl rfl) rfl rfl (by decide) ?_
          by_cases c12 : 0 ≤ x10 ∧ x10 < (a0.length : Int)
          rotate_left
          · rw [if_neg c12] at H; exact absurd H (by simp)
          rw [if_pos c12] at H
          obtain ⟨b13, o14, hA_, hE15⟩ := hr3.elem (by omega)
          obtain rfl := hA_
          obtain ⟨cs18, hR19, hC20⟩ := hE15 x10 c12.1 c12.2
          obtain ⟨A16, c17, rfl, hr21, chr21⟩ := hR19.open
          refine l_y (y_index sl22 rfl rfl rfl c12.1 c12.2) rfl rfl (by decide) ?_
          refine l_y (y_loadA (cs := [.int .i64 ((rd a0 x10).Kind), .int .i64 ((rd a0 x10).Count), .slice A16 (((rd a0 x10).Kids).length) c17]) ia24 rfl rfl rfl hC20.cls) rfl rfl (by decide) ?_
          refine l_w rfl ?_
          refine w_alloc (cs := [.int .i64 0, .int .i64 0, .slice none 0 0]) (m := 3) zz24 rfl rfl rfl rfl (by decide) (fun β22 => ?_)
          refine l_y (y_assign rfl rfl) rfl rfl (by decide) ?_
          refine l_w rfl ?_
          refine w_store0 (cs' := [.int .i64 ((rd a0 x10).Kind), .int .i64 ((rd a0 x10).Count), .slice A16 (((rd a0 x10).Kids).length) c17]) sz24 rfl rfl rfl rfl rfl (Nat.le_of_ble_eq_true rfl) rfl rfl ?_
          refine l_nil ?_
          refine x_next ?_
          refine c_seq ?_
          refine g_plain ?_
          refine l_y (y_move rfl rfl) rfl rfl (by decide) ?_
          refine l_y (y_move rfl rfl) rfl rfl (by decide) ?_
          by_cases c23 : 0 ≤ x10 ∧ x10 < (a1.length : Int)
          rotate_left
          · rw [if_neg c23] at H; exact absurd H (by simp)
          rw [if_pos c23] at H
          obtain ⟨b24, o25, hA_, hE26⟩ := hr7.elem (by omega)
          obtain rfl := hA_
          obtain ⟨cs29, hR30, hC31⟩ := hE26 x10 c23.1 c23.2
          obtain ⟨A27, c28, rfl, hr32, chr32⟩ := hR30.open
          refine l_y (y_index sl22 rfl rfl rfl c23.1 c23.2) rfl rfl (by decide) ?_
          refine l_y (y_loadA (cs := [.int .i64 ((rd a1 x10).Kind), .int .i64 ((rd a1 x10).Count), .slice A27 (((rd a1 x10).Kids).length) c28]) ia24 rfl rfl rfl hC31.cls) rfl rfl (by decide) ?_
          refine l_w rfl ?_
          refine w_alloc (cs := [.int .i64 0, .int .i64 0, .slice none 0 0]) (m := 3) zz24 rfl rfl rfl rfl (by decide) (fun β33 => ?_)
          refine l_w rfl ?_
          refine w_store0 (cs' := [.int .i64 ((rd a1 x10).Kind), .int .i64 ((rd a1 x10).Count), .slice A27 (((rd a1 x10).Kids).length) c28]) sz24 rfl rfl rfl rfl rfl (Nat.le_of_ble_eq_true rfl) rfl rfl ?_
          refine l_nil ?_
          refine x_next ?_
          refine c_seq ?_
          refine g_plain ?_
          refine l_y (y_move rfl rfl) rfl rfl (by decide) ?_
          refine l_y (y_loadA (cs := [.int .i64 ((rd a0 x10).Kind), .int .i64 ((rd a0 x10).Count), .slice A16 (((rd a0 x10).Kids).length) c17]) ia24 rfl rfl rfl (cls_own (i := 1) rfl rfl)) rfl rfl (by decide) ?_
          refine l_y (y_loadA (cs := [.int .i64 ((rd a1 x10).Kind), .int .i64 ((rd a1 x10).Count), .slice A27 (((rd a1 x10).Kids).length) c28]) ia24 rfl rfl rfl (cls_own (i := 0) rfl rfl)) rfl rfl (by decide) ?_
          refine l_w rfl ?_
          obtain ⟨r34, hr34, H⟩ := Option.bind_eq_some_iff.1 H
          refine w_call (args := [.agg #[.int .i64 ((rd a0 x10).Kind), .int .i64 ((rd a0 x10).Count), .slice A16 (((rd a0 x10).Kids).length) c17], .agg #[.int .i64 ((rd a1 x10).Kind), .int .i64 ((rd a1 x10).Count), .slice A27 (((rd a1 x10).Kids).length) c28]]) (caps := []) has23 rfl rfl rfl rfl (by decide) (fun a W F E => ?_)
          refine (((ih k0 (by omega)).1) (rd a0 x10) (rd a1 x10) A16 c17 A27 c28 I W r34 hr21 (by first | assumption | simp | omega) hr32 (by first | assumption | simp | omega) (E.st.sub (List.nil_sublist _)) hr34).mono ?_
          rintro e W' ⟨rfl, X⟩
          refine ⟨_, rfl, here (At.mk (F.put (by decide) _) (E.call0 X)) ?_⟩
          clear X E F W W' a
          refine l_y (y_not rfl rfl) rfl rfl (by decide) ?_
          refine l_nil ?_
          refine x_next ?_
          by_cases c36 : r34 = true
          · rw [if_pos c36] at H
            refine s_lit (t := 30) rfl (not_f c36) ?_
            refine c_false rfl ?_
            refine c_skip ?_
            refine x_norm ?_
            refine x_next ?_
            refine g_plain ?_
            refine l_y (y_bin rfl rfl rfl bi_add) rfl rfl (by decide) ?_
            refine l_y (y_move rfl rfl) rfl rfl (by decide) ?_
            refine l_nil ?_
            refine s_drop (List.nil_sublist _) ?_
            exact fun a W hA => ⟨k0, by omega, (IntKind.i64.wrap (x10 + 1)), H, (by omega), ⟨hA.fits.only ⟨rfl, rfl, rfl, rfl, rfl, trivial⟩, hA.ext⟩⟩
          · rw [if_neg c36] at H
            refine s_lit (t := 30) rfl (not_t (Bool.eq_false_iff.2 c36)) ?_
            refine c_true rfl ?_
            refine c_seq ?_
            refine g_plain ?_
            refine l_y (y_assign rfl rfl) rfl rfl (by decide) ?_
            refine l_nil ?_
            refine x_next ?_
            refine c_ret ?_
            refine x_ret ?_
            refine x_then rfl ?_
            refine x_then rfl ?_
            refine x_ret ?_
            refine x_then rfl ?_
            obtain rfl := Option.some.inj H
            exact g_ret [.bool false] (congrArg Array.toList Tryd.results68) (.cons (.t rfl) .nil) (fun W E => ⟨rfl, E.drop (List.nil_sublist _)⟩)
        · rw [if_neg c11] at H
          refine s_lit (t := 18) rfl (decide_eq_false c11) ?_
          refine c_false rfl ?_
          refine c_exit ?_
          refine x_then rfl ?_
          refine x_then rfl ?_
          refine x_in ?_
          refine x_next ?_
          refine c_seq ?_
          refine g_plain ?_
          refine l_y (y_assign rfl rfl) rfl rfl (by decide) ?_
          refine l_nil ?_
          refine x_next ?_
          refine c_ret ?_
          obtain rfl := Option.some.inj H
          exact g_ret [.bool true] (congrArg Array.toList Tryd.results68) (.cons (.t rfl) .nil) (fun W E => ⟨rfl, E.drop (List.nil_sublist _)⟩)
    · rw [if_neg c9] at H
      refine s_lit (t := 14) rfl (not_t (decide_eq_false c9)) ?_
      refine c_true rfl ?_
      refine c_seq ?_
      refine g_plain ?_
      refine l_y (y_assign rfl rfl) rfl rfl (by decide) ?_
      refine l_nil ?_
      refine x_next ?_
      refine c_ret ?_
      refine x_then rfl ?_
      obtain rfl := Option.some.inj H
      exact g_ret [.bool false] (congrArg Array.toList Tryd.results68) (.cons (.t rfl) .nil) (fun W E => ⟨rfl, E.drop (List.nil_sublist _)⟩)
theorem types_Same.all (k : Nat) : types_Same.Said k ∧ slices_EqualFunc_Type_types_Same.Said k := by
  induction k using Nat.strongRecOn with
  | _ k ih => exact ⟨types_Same.step k ih, slices_EqualFunc_Type_types_Same.step k ih⟩
theorem types_Same.calls (k : Nat) : types_Same.Said k := (types_Same.all k).1
theorem slices_EqualFunc_Type_types_Same.calls (k : Nat) : slices_EqualFunc_Type_types_Same.Said k := (types_Same.all k).2
def swagelaw11_some.f (k : Nat)  : Option GType := (some (⟨4, 0, [(⟨1, 0, ([] : List GType)⟩ : GType), (⟨3, 3, [(⟨2, 0, [(⟨1, 0, ([] : List GType)⟩ : GType)]⟩ : GType)]⟩ : GType), (⟨1, 0, ([] : List GType)⟩ : GType)]⟩ : GType))
def swagelaw11_some.Post (I : Imm) (O : List Ent) (w : World) (r : GType) (e : Ending) (w' : World) : Prop := ∃ (J : Imm) (A1 : Option Addr) (c1 : Nat), e = .returned (.agg #[.int .i64 r.Kind, .int .i64 r.Count, .slice A1 r.Kids.length c1]) ∧ Ext I O w J O w' ∧ RowsG R_Type 3 40 J A1 r.Kids ∧ r.Kids.length ≤ c1
set_option maxRecDepth 100000 in
set_option maxHeartbeats 1000000 in
theorem swagelaw11_some.calls (k : Nat) : ∀  (I : Imm) (w : World) (r : GType), St I [] w → swagelaw11_some.f k = some r →
  Calls Tryd.prog 61 #[] w (swagelaw11_some.Post I [] w r) := by
  intro  I w r  hS H
  simp only [swagelaw11_some.f] at H
  refine enter Tryd.func61 rfl Tryd.ntmps61 (Nat.le_of_ble_eq_true rfl) hS ?_
  refine c_seq ?_
  refine g_plain ?_
  refine l_w rfl ?_
  refine w_alloc (cs := [.int .i64 0, .int .i64 0, .slice none 0 0]) (m := 3) zz24 rfl rfl rfl rfl (by decide) (fun β1 => ?_)
  refine l_nil ?_
  refine x_next ?_
  refine c_seq ?_
  refine g_plain ?_
  refine l_y (y_build [.int .i64 1, .int .i64 0, .slice none 0 0] st24 rfl rfl (by kernel_rfl)) rfl rfl (by decide) ?_
  refine l_w rfl ?_
  refine w_alloc (cs := [.int .i64 0, .int .i64 0, .slice none 0 0]) (m := 3) zz24 rfl rfl rfl rfl (by decide) (fun β2 => ?_)
  refine l_w rfl ?_
  refine w_store0 (cs' := [.int .i64 1, .int .i64 0, .slice none 0 0]) sz24 rfl rfl rfl rfl rfl (Nat.le_of_ble_eq_true rfl) rfl rfl ?_
  refine l_nil ?_
  refine x_next ?_
  refine c_seq ?_
  refine g_plain ?_
  refine l_y (y_loadA (cs := [.int .i64 1, .int .i64 0, .slice none 0 0]) ia24 rfl rfl rfl (cls_own (i := 0) rfl rfl)) rfl rfl (by decide) ?_
  refine l_w rfl ?_
  refine w_buildS (m := 3) [.int .i64 1, .int .i64 0, .slice none 0 0] Tryd.underlying22 ez24 rfl rfl (by kernel_rfl) (by kernel_rfl) rfl rfl (by decide) (fun β3 => ?_)
  refine s_freezeB (css := [[.int .i64 1, .int .i64 0, .slice none 0 0]]) (by_ := 40) R_Type.mono rfl (OwnR.cons (R_Type.of (⟨1, 0, ([] : List GType)⟩ : GType) none 0 (RowsG.nil _ _ _ _ _) (by first | assumption | simp | omega)) rfl (OwnR.nil _ _ _)) (by decide) (fun J4 hl5 hr6 => ?_)
  refine l_y (y_build [.int .i64 2, .int .i64 0, .slice (some ⟨β3, 0, none⟩) 1 1] st24 rfl rfl (by kernel_rfl)) rfl rfl (by decide) ?_
  refine l_w rfl ?_
  refine w_alloc (cs := [.int .i64 0, .int .i64 0, .slice none 0 0]) (m := 3) zz24 rfl rfl rfl rfl (by decide) (fun β7 => ?_)
  refine l_w rfl ?_
  refine w_store0 (cs' := [.int .i64 2, .int .i64 0, .slice (some ⟨β3, 0, none⟩) 1 1]) sz24 rfl rfl rfl rfl rfl (Nat.le_of_ble_eq_true rfl) rfl rfl ?_
  refine l_nil ?_
  refine x_next ?_
  refine c_seq ?_
  refine g_plain ?_
  refine l_y (y_loadA (cs := [.int .i64 1, .int .i64 0, .slice none 0 0]) ia24 rfl rfl rfl (cls_own (i := 1) rfl rfl)) rfl rfl (by decide) ?_
  refine l_y (y_loadA (cs := [.int .i64 2, .int .i64 0, .slice (some ⟨β3, 0, none⟩) 1 1]) ia24 rfl rfl rfl (cls_own (i := 0) rfl rfl)) rfl rfl (by decide) ?_
  refine l_w rfl ?_
  refine w_buildS (m := 3) [.int .i64 2, .int .i64 0, .slice (some ⟨β3, 0, none⟩) 1 1] Tryd.underlying22 ez24 rfl rfl (by kernel_rfl) (by kernel_rfl) rfl rfl (by decide) (fun β8 => ?_)
  refine s_freezeB (css := [[.int .i64 2, .int .i64 0, .slice (some ⟨β3, 0, none⟩) 1 1]]) (by_ := 40) R_Type.mono rfl (OwnR.cons (R_Type.of (⟨2, 0, [(⟨1, 0, ([] : List GType)⟩ : GType)]⟩ : GType) (some ⟨β3, 0, none⟩) 1 hr6 (by first | assumption | simp | omega)) rfl (OwnR.nil _ _ _)) (by decide) (fun J9 hl10 hr11 => ?_)
  refine l_y (y_build [.int .i64 3, .int .i64 3, .slice (some ⟨β8, 0, none⟩) 1 1] st24 rfl rfl (by kernel_rfl)) rfl rfl (by decide) ?_
  refine l_y (y_loadA (cs := [.int .i64 1, .int .i64 0, .slice none 0 0]) ia24 rfl rfl rfl (cls_own (i := 1) rfl rfl)) rfl rfl (by decide) ?_
  refine l_w rfl ?_
  refine w_buildS (m := 9) [.int .i64 1, .int .i64 0, .slice none 0 0, .int .i64 3, .int .i64 3, .slice (some ⟨β8, 0, none⟩) 1 1, .int .i64 1, .int .i64 0, .slice none 0 0] Tryd.underlying22 ez24 rfl rfl (by kernel_rfl) (by kernel_rfl) rfl rfl (by decide) (fun β12 => ?_)
  refine s_freezeB (css := [[.int .i64 1, .int .i64 0, .slice none 0 0], [.int .i64 3, .int .i64 3, .slice (some ⟨β8, 0, none⟩) 1 1], [.int .i64 1, .int .i64 0, .slice none 0 0]]) (by_ := 40) R_Type.mono rfl (OwnR.cons (R_Type.of (⟨1, 0, ([] : List GType)⟩ : GType) none 0 (RowsG.nil _ _ _ _ _) (by first | assumption | simp | omega)) rfl (OwnR.cons (R_Type.of (⟨3, 3, [(⟨2, 0, [(⟨1, 0, ([] : List GType)⟩ : GType)]⟩ : GType)]⟩ : GType) (some ⟨β8, 0, none⟩) 1 hr11 (by first | assumption | simp | omega)) rfl (OwnR.cons (R_Type.of (⟨1, 0, ([] : List GType)⟩ : GType) none 0 (RowsG.nil _ _ _ _ _) (by first | assumption | simp | omega)) rfl (OwnR.nil _ _ _)))) (by decide) (fun J13 hl14 hr15 => ?_)
  refine l_y (y_build [.int .i64 4, .int .i64 0, .slice (some ⟨β12, 0, none⟩) 3 3] st24 rfl rfl (by kernel_rfl)) rfl rfl (by decide) ?_
  refine l_w rfl ?_
  refine w_store2 (cs' := [.int .i64 4, .int .i64 0, .slice (some ⟨β12, 0, none⟩) 3 3]) sz24 rfl rfl rfl rfl rfl (Nat.le_of_ble_eq_true rfl) rfl rfl ?_
  refine l_nil ?_
  refine x_next ?_
  refine c_ret ?_
  obtain rfl := Option.some.inj H
  exact g_ret [.agg #[.int .i64 4, .int .i64 0, .slice (some ⟨β12, 0, none⟩) 3 3]] (congrArg Array.toList Tryd.results61) (.cons (.a (cs := [.int .i64 4, .int .i64 0, .slice (some ⟨β12, 0, none⟩) 3 3]) ia24 rfl rfl (cls_own (i := 2) rfl rfl)) .nil) (fun W E => ⟨_, (some ⟨β12, 0, none⟩), 3, rfl, E.drop (List.nil_sublist _), hr15, (by first | assumption | exact OV.le (by assumption) | simp | omega)⟩)
mutual
def swagelaw11_count.j1 : Nat → Bool → GType → Int → Int → Int → Int → Option Int
  | 0, _, _, _, _, _, _ => none
  | k + 1, x8, a0, a1, a2, x7, x6 => (if x8 = true then (if a2 < 1 then (some (IntKind.i64.wrap (a1 + 1))) else (if 0 ≤ x7 ∧ x7 < (a0.Kids.length : Int) then ((swagelaw11_count.f k (rd a0.Kids x7) a1 (IntKind.i64.wrap (a2 - 1))).bind fun r22 => (swagelaw11_count.l0 k (IntKind.i64.wrap (x6 + r22)) (IntKind.i64.wrap (x7 + 1)) a0 a1 a2)) else none)) else (some x6))
def swagelaw11_count.l0 : Nat → Int → Int → GType → Int → Int → Option Int
  | 0, _, _, _, _, _ => none
  | k + 1, x6, x7, a0, a1, a2 => (if x7 < (a0.Kids.length : Int) then (swagelaw11_count.j1 k (decide (x6 ≤ a1)) a0 a1 a2 x7 x6) else (swagelaw11_count.j1 k false a0 a1 a2 x7 x6))
def swagelaw11_count.f : Nat → GType → Int → Int → Option Int
  | 0, _, _, _ => none
  | k + 1, a0, a1, a2 => (swagelaw11_count.l0 k 1 0 a0 a1 a2)
end
def swagelaw11_count.Post (I : Imm) (O : List Ent) (w : World) (r : Int) (e : Ending) (w' : World) : Prop := e = .returned (.int .i64 r) ∧ Ext I O w I O w'
set_option maxRecDepth 100000 in
set_option maxHeartbeats 1000000 in
theorem swagelaw11_count.calls (k : Nat) : ∀ (a0 : GType) (a1 : Int) (a2 : Int) (A1 : Option Addr) (c2 : Nat) (I : Imm) (w : World) (r : Int) (hr3 : RowsG R_Type 3 40 I A1 a0.Kids) (hc4 : a0.Kids.length ≤ c2), St I [] w → swagelaw11_count.f k a0 a1 a2 = some r →
  Calls Tryd.prog 62 #[.agg #[.int .i64 a0.Kind, .int .i64 a0.Count, .slice A1 a0.Kids.length c2], .int .i64 a1, .int .i64 a2] w (swagelaw11_count.Post I [] w r) := by
  induction k using Nat.strongRecOn with
  | _ k ih =>
  intro a0 a1 a2 A1 c2 I w r hr3 hc4 hS H
  have nhr3 := hr3.len
  cases k with
  | zero => exact absurd H (by simp [swagelaw11_count.f])
  | succ k =>
    simp only [swagelaw11_count.f] at H
    refine enter Tryd.func62 rfl Tryd.ntmps62 (Nat.le_of_ble_eq_true rfl) hS ?_
    refine c_seq ?_
    refine g_plain ?_
    refine l_w rfl ?_
    refine w_box (cs := [.int .i64 a0.Kind, .int .i64 a0.Count, .slice A1 a0.Kids.length c2]) (m := 3) rfl rfl rfl rfl rfl (by decide) (fun β5 => ?_)
    refine l_y (y_assign rfl rfl) rfl rfl (by decide) ?_
    refine l_nil ?_
    refine x_next ?_
    refine c_seq ?_
    refine g_plain ?_
    refine l_y (y_assign rfl rfl) rfl rfl (by decide) ?_
    refine l_nil ?_
    refine x_next ?_
    refine c_seq ?_
    refine c_seq ?_
    refine g_plain ?_
    refine l_y (y_assign rfl rfl) rfl rfl (by decide) ?_
    refine l_nil ?_
    refine x_next ?_
    refine c_block ?_
    refine c_loop (fun kq a W => ∃ (x6 : Int) (x7 : Int), swagelaw11_count.l0 kq x6 x7 a0 a1 a2 = some r ∧ kq ≤ k ∧ At 37 [] [(1, .int .i64 a1), (2, .int .i64 a2), (3, .pointer (some ⟨β5, 0, none⟩)), (7, .int .i64 x6), (8, .int .i64 x7)] I [] w I [.cells β5 24 [.int .i64 a0.Kind, .int .i64 a0.Count, .slice A1 a0.Kids.length c2] 3] a W) k (fun a W hA => ⟨1, 0, H, (Nat.le_refl _), ⟨hA.fits.only ⟨rfl, rfl, rfl, rfl, rfl, trivial⟩, hA.ext⟩⟩) ?_
    clear H
    rintro kq a W ⟨x6, x7, H, hk, hA⟩
    refine here hA ?_
    clear hA a W
    cases kq with
    | zero => exact absurd H (by simp [swagelaw11_count.l0])
    | succ k0 =>
      simp only [swagelaw11_count.l0] at H
      refine c_seq ?_
      refine c_join (fun a W => ∃ (kq : Nat) (x8 : Bool), swagelaw11_count.j1 kq x8 a0 a1 a2 x7 x6 = some r ∧ kq ≤ k0 ∧ At 37 [] [(1, .int .i64 a1), (2, .int .i64 a2), (3, .pointer (some ⟨β5, 0, none⟩)), (7, .int .i64 x6), (8, .int .i64 x7), (18, .bool x8)] I [] w I [.cells β5 24 [.int .i64 a0.Kind, .int .i64 a0.Count, .slice A1 a0.Kids.length c2] 3] a W) ?_ ?_
      · skip
        refine g_plain ?_
        refine l_y (y_move rfl rfl) rfl rfl (by decide) ?_
        refine l_y (y_field (j' := 2) fa24_2 rfl rfl rfl) rfl rfl (by decide) ?_
        refine l_y (y_load is22 rfl rfl (cl_own (i := 0) (j := 2) rfl rfl)) rfl rfl (by decide) ?_
        refine l_y (y_len Tryd.underlying22 rfl rfl) rfl rfl (by decide) ?_
        refine l_y (y_bin rfl rfl rfl bi_lt) rfl rfl (by decide) ?_
        refine l_y (y_move rfl rfl) rfl rfl (by decide) ?_
        by_cases c9 : x7 < (a0.Kids.length : Int)
        · rw [if_pos c9] at H
          refine s_lit (t := 14) rfl (decide_eq_true c9) ?_
          refine l_yg (y_move rfl rfl) rfl rfl rfl rfl rfl (by decide) ?_
          refine l_yg (y_move rfl rfl) rfl rfl rfl rfl rfl (by decide) ?_
          refine l_yg (y_bin rfl rfl rfl bi_le) rfl rfl rfl rfl rfl (by decide) ?_
          refine l_y (y_pickt rfl rfl rfl) rfl rfl (by decide) ?_
          refine l_nil ?_
          exact fun a W hA => ⟨k0, (decide (x6 ≤ a1)), H, (by omega), ⟨hA.fits.only ⟨rfl, rfl, rfl, rfl, rfl, rfl, trivial⟩, hA.ext⟩⟩
        · rw [if_neg c9] at H
          refine s_lit (t := 14) rfl (decide_eq_false c9) ?_
          refine l_off rfl rfl rfl rfl rfl rfl (by decide) ?_
          refine l_off rfl rfl rfl rfl rfl rfl (by decide) ?_
          refine l_off rfl rfl rfl rfl rfl rfl (by decide) ?_
          refine l_y (y_pickf rfl rfl rfl) rfl rfl (by decide) ?_
          refine l_nil ?_
          exact fun a W hA => ⟨k0, false, H, (by omega), ⟨hA.fits.only ⟨rfl, rfl, rfl, rfl, rfl, rfl, trivial⟩, hA.ext⟩⟩
      clear H
      rintro a W ⟨kq, x8, H, hk, hA⟩
      refine here hA ?_
      clear hA a W
      cases kq with
      | zero => exact absurd H (by simp [swagelaw11_count.j1])
      | succ k_j1 =>
        simp only [swagelaw11_count.j1] at H
        by_cases c10 : x8 = true
        · rw [if_pos c10] at H
          refine s_lit (t := 18) rfl c10 ?_
          refine c_true rfl ?_
          refine c_skip ?_
          refine x_next ?_
          refine c_seq ?_
          refine c_block ?_
          refine c_seq ?_
          refine c_seq ?_
          refine g_plain ?_
          refine l_y (y_move rfl rfl) rfl rfl (by decide) ?_
          refine l_y (y_bin rfl rfl rfl bi_lt) rfl rfl (by decide) ?_
          refine l_nil ?_
          refine x_next ?_
          by_cases c11 : a2 < 1
          · rw [if_pos c11] at H
            refine s_lit (t := 22) rfl (decide_eq_true c11) ?_
            refine c_true rfl ?_
            refine c_seq ?_
            refine g_plain ?_
            refine l_y (y_move rfl rfl) rfl rfl (by decide) ?_
            refine l_y (y_bin rfl rfl rfl bi_add) rfl rfl (by decide) ?_
            refine l_y (y_assign rfl rfl) rfl rfl (by decide) ?_
            refine l_nil ?_
            refine x_next ?_
            refine c_ret ?_
            refine x_then rfl ?_
            refine x_ret ?_
            refine x_then rfl ?_
            refine x_then rfl ?_
            refine x_ret ?_
            refine x_then rfl ?_
            obtain rfl := Option.some.inj H
            exact g_ret [.int .i64 (IntKind.i64.wrap (a1 + 1))] (congrArg Array.toList Tryd.results62) (.cons (.t rfl) .nil) (fun W E => ⟨rfl, E.drop (List.nil_sublist _)⟩)
          · rw [if_neg c11] at H
            refine s_lit (t := 22) rfl (decide_eq_false c11) ?_
            refine c_false rfl ?_
            refine c_skip ?_
            refine x_next ?_
            refine g_plain ?_
            refine l_y (y_move rfl rfl) rfl rfl (by decide) ?_
            refine l_y (y_field (j' := 2) fa24_2 rfl rfl rfl) rfl rfl (by decide) ?_
            refine l_y (y_load is22 rfl rfl (cl_own (i := 0) (j := 2) rfl rfl)) rfl rfl (by decide) ?_
            refine l_y (y_move rfl rfl) rfl rfl (by decide) ?_
            by_cases c12 : 0 ≤ x7 ∧ x7 < (a0.Kids.length : Int)
            rotate_left
            · rw [if_neg c12] at H; exact absurd H (by simp)
            rw [if_pos c12] at H
            obtain ⟨b13, o14, hA_, hE15⟩ := hr3.elem (by omega)
            obtain rfl := hA_
            obtain ⟨cs18, hR19, hC20⟩ := hE15 x7 c12.1 c12.2
            obtain ⟨A16, c17, rfl, hr21, chr21⟩ := hR19.open
            refine l_y (y_index sl22 rfl rfl rfl c12.1 c12.2) rfl rfl (by decide) ?_
            refine l_y (y_loadA (cs := [.int .i64 ((rd a0.Kids x7).Kind), .int .i64 ((rd a0.Kids x7).Count), .slice A16 (((rd a0.Kids x7).Kids).length) c17]) ia24 rfl rfl rfl hC20.cls) rfl rfl (by decide) ?_
            refine l_y (y_move rfl rfl) rfl rfl (by decide) ?_
            refine l_y (y_move rfl rfl) rfl rfl (by decide) ?_
            refine l_y (y_bin rfl rfl rfl bi_sub) rfl rfl (by decide) ?_
            refine l_w rfl ?_
            obtain ⟨r22, hr22, H⟩ := Option.bind_eq_some_iff.1 H
            refine w_call (args := [.agg #[.int .i64 ((rd a0.Kids x7).Kind), .int .i64 ((rd a0.Kids x7).Count), .slice A16 (((rd a0.Kids x7).Kids).length) c17], .int .i64 a1, .int .i64 (IntKind.i64.wrap (a2 - 1))]) (caps := []) has62 rfl rfl rfl rfl (by decide) (fun a W F E => ?_)
            refine ((ih k_j1 (by omega)) (rd a0.Kids x7) a1 (IntKind.i64.wrap (a2 - 1)) A16 c17 I W r22 hr21 (by first | assumption | simp | omega) (E.st.sub (List.nil_sublist _)) hr22).mono ?_
            rintro e W' ⟨rfl, X⟩
            refine ⟨_, rfl, here (At.mk (F.put (by decide) _) (E.call0 X)) ?_⟩
            clear X E F W W' a
            refine l_y (y_bin rfl rfl rfl bi_add) rfl rfl (by decide) ?_
            refine l_y (y_assign rfl rfl) rfl rfl (by decide) ?_
            refine l_nil ?_
            refine x_norm ?_
            refine x_next ?_
            refine g_plain ?_
            refine l_y (y_move rfl rfl) rfl rfl (by decide) ?_
            refine l_y (y_bin rfl rfl rfl bi_add) rfl rfl (by decide) ?_
            refine l_y (y_assign rfl rfl) rfl rfl (by decide) ?_
            refine l_nil ?_
            exact fun a W hA => ⟨k_j1, by omega, (IntKind.i64.wrap (x6 + r22)), (IntKind.i64.wrap (x7 + 1)), H, (by omega), ⟨hA.fits.only ⟨rfl, rfl, rfl, rfl, rfl, trivial⟩, hA.ext⟩⟩
        · rw [if_neg c10] at H
          refine s_lit (t := 18) rfl (Bool.eq_false_iff.2 c10) ?_
          refine c_false rfl ?_
          refine c_exit ?_
          refine x_then rfl ?_
          refine x_then rfl ?_
          refine x_in ?_
          refine x_next ?_
          refine c_seq ?_
          refine g_plain ?_
          refine l_y (y_move rfl rfl) rfl rfl (by decide) ?_
          refine l_y (y_assign rfl rfl) rfl rfl (by decide) ?_
          refine l_nil ?_
          refine x_next ?_
          refine c_ret ?_
          obtain rfl := Option.some.inj H
          exact g_ret [.int .i64 x6] (congrArg Array.toList Tryd.results62) (.cons (.t rfl) .nil) (fun W E => ⟨rfl, E.drop (List.nil_sublist _)⟩)
def swagelaw11_Few.f (k : Nat) (a0 : GType) : Option Bool := ((swagelaw11_count.f k a0 300 120).bind fun r6 => (some (decide (r6 ≤ 300))))
def swagelaw11_Few.Post (I : Imm) (O : List Ent) (w : World) (r : Bool) (e : Ending) (w' : World) : Prop := e = .returned (.bool r) ∧ Ext I O w I O w'
set_option maxRecDepth 100000 in
set_option maxHeartbeats 1000000 in
theorem swagelaw11_Few.calls (k : Nat) : ∀ (a0 : GType) (A1 : Option Addr) (c2 : Nat) (I : Imm) (w : World) (r : Bool) (hr3 : RowsG R_Type 3 40 I A1 a0.Kids) (hc4 : a0.Kids.length ≤ c2), St I [] w → swagelaw11_Few.f k a0 = some r →
  Calls Tryd.prog 12 #[.agg #[.int .i64 a0.Kind, .int .i64 a0.Count, .slice A1 a0.Kids.length c2]] w (swagelaw11_Few.Post I [] w r) := by
  intro a0 A1 c2 I w r hr3 hc4 hS H
  have nhr3 := hr3.len
  simp only [swagelaw11_Few.f] at H
  refine enter Tryd.func12 rfl Tryd.ntmps12 (Nat.le_of_ble_eq_true rfl) hS ?_
  refine c_seq ?_
  refine g_plain ?_
  refine l_w rfl ?_
  refine w_box (cs := [.int .i64 a0.Kind, .int .i64 a0.Count, .slice A1 a0.Kids.length c2]) (m := 3) rfl rfl rfl rfl rfl (by decide) (fun β5 => ?_)
  refine l_y (y_assign rfl rfl) rfl rfl (by decide) ?_
  refine l_nil ?_
  refine x_next ?_
  refine c_seq ?_
  refine g_plain ?_
  refine l_y (y_loadA (cs := [.int .i64 a0.Kind, .int .i64 a0.Count, .slice A1 a0.Kids.length c2]) ia24 rfl rfl rfl (cls_own (i := 0) rfl rfl)) rfl rfl (by decide) ?_
  refine l_w rfl ?_
  obtain ⟨r6, hr6, H⟩ := Option.bind_eq_some_iff.1 H
  refine w_call (args := [.agg #[.int .i64 a0.Kind, .int .i64 a0.Count, .slice A1 a0.Kids.length c2], .int .i64 300, .int .i64 120]) (caps := []) has62 rfl rfl rfl rfl (by decide) (fun a W F E => ?_)
  refine (swagelaw11_count.calls k a0 300 120 A1 c2 I W r6 hr3 (by first | assumption | simp | omega) (E.st.sub (List.nil_sublist _)) hr6).mono ?_
  rintro e W' ⟨rfl, X⟩
  refine ⟨_, rfl, here (At.mk (F.put (by decide) _) (E.call0 X)) ?_⟩
  clear X E F W W' a
  refine l_y (y_assign rfl rfl) rfl rfl (by decide) ?_
  refine l_nil ?_
  refine x_next ?_
  refine c_seq ?_
  refine g_plain ?_
  refine l_y (y_move rfl rfl) rfl rfl (by decide) ?_
  refine l_y (y_bin rfl rfl rfl bi_le) rfl rfl (by decide) ?_
  refine l_y (y_assign rfl rfl) rfl rfl (by decide) ?_
  refine l_nil ?_
  refine x_next ?_
  refine c_ret ?_
  obtain rfl := Option.some.inj H
  exact g_ret [.bool (decide (r6 ≤ 300))] (congrArg Array.toList Tryd.results12) (.cons (.t rfl) .nil) (fun W E => ⟨rfl, E.drop (List.nil_sublist _)⟩)
mutual
def swageref11_depth.l0 : Nat → Int → Int → GType → Option Int
  | 0, _, _, _ => none
  | k + 1, x6, x7, a0 => (if x7 < (a0.Kids.length : Int) then (if 0 ≤ x7 ∧ x7 < (a0.Kids.length : Int) then ((swageref11_depth.f k (rd a0.Kids x7)).bind fun r19 => (swageref11_depth.l0 k (max x6 r19) (IntKind.i64.wrap (x7 + 1)) a0)) else none) else (some (IntKind.i64.wrap (x6 + 1))))
def swageref11_depth.f : Nat → GType → Option Int
  | 0, _ => none
  | k + 1, a0 => (swageref11_depth.l0 k 0 0 a0)
end
def swageref11_depth.Post (I : Imm) (O : List Ent) (w : World) (r : Int) (e : Ending) (w' : World) : Prop := e = .returned (.int .i64 r) ∧ Ext I O w I O w'
set_option maxRecDepth 100000 in
set_option maxHeartbeats 1000000 in
theorem swageref11_depth.calls (k : Nat) : ∀ (a0 : GType) (A1 : Option Addr) (c2 : Nat) (I : Imm) (w : World) (r : Int) (hr3 : RowsG R_Type 3 40 I A1 a0.Kids) (hc4 : a0.Kids.length ≤ c2), St I [] w → swageref11_depth.f k a0 = some r →
  Calls Tryd.prog 67 #[.agg #[.int .i64 a0.Kind, .int .i64 a0.Count, .slice A1 a0.Kids.length c2]] w (swageref11_depth.Post I [] w r) := by
  induction k using Nat.strongRecOn with
  | _ k ih =>
  intro a0 A1 c2 I w r hr3 hc4 hS H
  have nhr3 := hr3.len
  cases k with
  | zero => exact absurd H (by simp [swageref11_depth.f])
  | succ k =>
    simp only [swageref11_depth.f] at H
    refine enter Tryd.func67 rfl Tryd.ntmps67 (Nat.le_of_ble_eq_true rfl) hS ?_
    refine c_seq ?_
    refine g_plain ?_
    refine l_w rfl ?_
    refine w_box (cs := [.int .i64 a0.Kind, .int .i64 a0.Count, .slice A1 a0.Kids.length c2]) (m := 3) rfl rfl rfl rfl rfl (by decide) (fun β5 => ?_)
    refine l_y (y_assign rfl rfl) rfl rfl (by decide) ?_
    refine l_nil ?_
    refine x_next ?_
    refine c_seq ?_
    refine g_plain ?_
    refine l_y (y_assign rfl rfl) rfl rfl (by decide) ?_
    refine l_nil ?_
    refine x_next ?_
    refine c_seq ?_
    refine c_seq ?_
    refine g_plain ?_
    refine l_y (y_assign rfl rfl) rfl rfl (by decide) ?_
    refine l_nil ?_
    refine x_next ?_
    refine c_block ?_
    refine c_loop (fun kq a W => ∃ (x6 : Int) (x7 : Int), swageref11_depth.l0 kq x6 x7 a0 = some r ∧ kq ≤ k ∧ At 22 [] [(1, .pointer (some ⟨β5, 0, none⟩)), (3, .int .i64 x6), (4, .int .i64 x7)] I [] w I [.cells β5 24 [.int .i64 a0.Kind, .int .i64 a0.Count, .slice A1 a0.Kids.length c2] 3] a W) k (fun a W hA => ⟨0, 0, H, (Nat.le_refl _), ⟨hA.fits.only ⟨rfl, rfl, rfl, trivial⟩, hA.ext⟩⟩) ?_
    clear H
    rintro kq a W ⟨x6, x7, H, hk, hA⟩
    refine here hA ?_
    clear hA a W
    cases kq with
    | zero => exact absurd H (by simp [swageref11_depth.l0])
    | succ k0 =>
      simp only [swageref11_depth.l0] at H
      refine c_seq ?_
      refine c_seq ?_
      refine g_plain ?_
      refine l_y (y_move rfl rfl) rfl rfl (by decide) ?_
      refine l_y (y_field (j' := 2) fa24_2 rfl rfl rfl) rfl rfl (by decide) ?_
      refine l_y (y_load is22 rfl rfl (cl_own (i := 0) (j := 2) rfl rfl)) rfl rfl (by decide) ?_
      refine l_y (y_len Tryd.underlying22 rfl rfl) rfl rfl (by decide) ?_
      refine l_y (y_bin rfl rfl rfl bi_lt) rfl rfl (by decide) ?_
      refine l_nil ?_
      refine x_next ?_
      by_cases c8 : x7 < (a0.Kids.length : Int)
      · rw [if_pos c8] at H
        refine s_lit (t := 9) rfl (decide_eq_true c8) ?_
        refine c_true rfl ?_
        refine c_skip ?_
        refine x_next ?_
        refine c_seq ?_
        refine c_block ?_
        refine g_plain ?_
        refine l_y (y_move rfl rfl) rfl rfl (by decide) ?_
        refine l_y (y_field (j' := 2) fa24_2 rfl rfl rfl) rfl rfl (by decide) ?_
        refine l_y (y_load is22 rfl rfl (cl_own (i := 0) (j := 2) rfl rfl)) rfl rfl (by decide) ?_
        refine l_y (y_move rfl rfl) rfl rfl (by decide) ?_
        by_cases c9 : 0 ≤ x7 ∧ x7 < (a0.Kids.length : Int)
        rotate_left
        · rw [if_neg c9] at H; exact absurd H (by simp)
        rw [if_pos c9] at H
        obtain ⟨b10, o11, hA_, hE12⟩ := hr3.elem (by omega)
        obtain rfl := hA_
        obtain ⟨cs15, hR16, hC17⟩ := hE12 x7 c9.1 c9.2
        obtain ⟨A13, c14, rfl, hr18, chr18⟩ := hR16.open
        refine l_y (y_index sl22 rfl rfl rfl c9.1 c9.2) rfl rfl (by decide) ?_
        refine l_y (y_loadA (cs := [.int .i64 ((rd a0.Kids x7).Kind), .int .i64 ((rd a0.Kids x7).Count), .slice A13 (((rd a0.Kids x7).Kids).length) c14]) ia24 rfl rfl rfl hC17.cls) rfl rfl (by decide) ?_
        refine l_w rfl ?_
        obtain ⟨r19, hr19, H⟩ := Option.bind_eq_some_iff.1 H
        refine w_call (args := [.agg #[.int .i64 ((rd a0.Kids x7).Kind), .int .i64 ((rd a0.Kids x7).Count), .slice A13 (((rd a0.Kids x7).Kids).length) c14]]) (caps := []) has67 rfl rfl rfl rfl (by decide) (fun a W F E => ?_)
        refine ((ih k0 (by omega)) (rd a0.Kids x7) A13 c14 I W r19 hr18 (by first | assumption | simp | omega) (E.st.sub (List.nil_sublist _)) hr19).mono ?_
        rintro e W' ⟨rfl, X⟩
        refine ⟨_, rfl, here (At.mk (F.put (by decide) _) (E.call0 X)) ?_⟩
        clear X E F W W' a
        refine l_y (y_max rfl rfl rfl) rfl rfl (by decide) ?_
        refine l_y (y_assign rfl rfl) rfl rfl (by decide) ?_
        refine l_nil ?_
        refine x_norm ?_
        refine x_next ?_
        refine g_plain ?_
        refine l_y (y_move rfl rfl) rfl rfl (by decide) ?_
        refine l_y (y_bin rfl rfl rfl bi_add) rfl rfl (by decide) ?_
        refine l_y (y_assign rfl rfl) rfl rfl (by decide) ?_
        refine l_nil ?_
        exact fun a W hA => ⟨k0, by omega, (max x6 r19), (IntKind.i64.wrap (x7 + 1)), H, (by omega), ⟨hA.fits.only ⟨rfl, rfl, rfl, trivial⟩, hA.ext⟩⟩
      · rw [if_neg c8] at H
        refine s_lit (t := 9) rfl (decide_eq_false c8) ?_
        refine c_false rfl ?_
        refine c_exit ?_
        refine x_then rfl ?_
        refine x_then rfl ?_
        refine x_in ?_
        refine x_next ?_
        refine c_seq ?_
        refine g_plain ?_
        refine l_y (y_move rfl rfl) rfl rfl (by decide) ?_
        refine l_y (y_bin rfl rfl rfl bi_add) rfl rfl (by decide) ?_
        refine l_y (y_assign rfl rfl) rfl rfl (by decide) ?_
        refine l_nil ?_
        refine x_next ?_
        refine c_ret ?_
        obtain rfl := Option.some.inj H
        exact g_ret [.int .i64 (IntKind.i64.wrap (x6 + 1))] (congrArg Array.toList Tryd.results67) (.cons (.t rfl) .nil) (fun W E => ⟨rfl, E.drop (List.nil_sublist _)⟩)
mutual
def swageref11_shaped.l0 : Nat → Int → GType → Option Bool
  | 0, _, _ => none
  | k + 1, x24, a0 => (if x24 < (a0.Kids.length : Int) then (if 0 ≤ x24 ∧ x24 < (a0.Kids.length : Int) then ((swageref11_shaped.f k (rd a0.Kids x24)).bind fun r36 => (if r36 = true then (swageref11_shaped.l0 k (IntKind.i64.wrap (x24 + 1)) a0) else (some false))) else none) else (some true))
def swageref11_shaped.j1 : Nat → GType → Option Bool
  | 0, _ => none
  | k + 1, a0 => (swageref11_shaped.l0 k 0 a0)
def swageref11_shaped.j2 : Nat → Bool → GType → Option Bool
  | 0, _, _ => none
  | k + 1, x7, a0 => (if x7 = true then (some false) else (swageref11_shaped.j1 k a0))
def swageref11_shaped.j3 : Nat → Bool → GType → Option Bool
  | 0, _, _ => none
  | k + 1, x11, a0 => (if x11 = true then (some false) else (swageref11_shaped.j1 k a0))
def swageref11_shaped.j4 : Nat → Bool → GType → Option Bool
  | 0, _, _ => none
  | k + 1, x15, a0 => (if x15 = true then (some false) else (swageref11_shaped.j1 k a0))
def swageref11_shaped.j5 : Nat → Bool → GType → Option Bool
  | 0, _, _ => none
  | k + 1, x20, a0 => (if x20 = true then (some false) else (swageref11_shaped.j1 k a0))
def swageref11_shaped.f : Nat → GType → Option Bool
  | 0, _ => none
  | k + 1, a0 => (if a0.Kind = 1 then (if (a0.Kids.length : Int) = 0 then (swageref11_shaped.j2 k (!(decide (a0.Count = 0))) a0) else (swageref11_shaped.j2 k true a0)) else (if a0.Kind = 2 then (if (a0.Kids.length : Int) = 1 then (swageref11_shaped.j3 k (!(decide (a0.Count = 0))) a0) else (swageref11_shaped.j3 k true a0)) else (if a0.Kind = 3 then (if (a0.Kids.length : Int) = 1 then (if a0.Count < 1 then (swageref11_shaped.j4 k true a0) else (swageref11_shaped.j4 k (decide (1048576 < a0.Count)) a0)) else (swageref11_shaped.j4 k true a0)) else (if a0.Kind = 4 then (if (a0.Kids.length : Int) < 1 then (swageref11_shaped.j5 k true a0) else (if 64 < (a0.Kids.length : Int) then (swageref11_shaped.j5 k true a0) else (swageref11_shaped.j5 k (!(decide (a0.Count = 0))) a0))) else (some false)))))
end
def swageref11_shaped.Post (I : Imm) (O : List Ent) (w : World) (r : Bool) (e : Ending) (w' : World) : Prop := e = .returned (.bool r) ∧ Ext I O w I O w'
set_option maxRecDepth 100000 in
set_option maxHeartbeats 1000000 in
theorem swageref11_shaped.calls (k : Nat) : ∀ (a0 : GType) (A1 : Option Addr) (c2 : Nat) (I : Imm) (w : World) (r : Bool) (hr3 : RowsG R_Type 3 40 I A1 a0.Kids) (hc4 : a0.Kids.length ≤ c2), St I [] w → swageref11_shaped.f k a0 = some r →
  Calls Tryd.prog 66 #[.agg #[.int .i64 a0.Kind, .int .i64 a0.Count, .slice A1 a0.Kids.length c2]] w (swageref11_shaped.Post I [] w r) := by
  induction k using Nat.strongRecOn with
  | _ k ih =>
  intro a0 A1 c2 I w r hr3 hc4 hS H
  have nhr3 := hr3.len
  cases k with
  | zero => exact absurd H (by simp [swageref11_shaped.f])
  | succ k =>
    simp only [swageref11_shaped.f] at H
    refine enter Tryd.func66 rfl Tryd.ntmps66 (Nat.le_of_ble_eq_true rfl) hS ?_
    refine c_seq ?_
    refine g_plain ?_
    refine l_w rfl ?_
    refine w_box (cs := [.int .i64 a0.Kind, .int .i64 a0.Count, .slice A1 a0.Kids.length c2]) (m := 3) rfl rfl rfl rfl rfl (by decide) (fun β5 => ?_)
    refine l_y (y_assign rfl rfl) rfl rfl (by decide) ?_
    refine l_nil ?_
    refine x_next ?_
    refine c_seq ?_
    refine g_plain ?_
    refine l_y (y_field (j' := 2) fa24_2 rfl rfl rfl) rfl rfl (by decide) ?_
    refine l_y (y_load is22 rfl rfl (cl_own (i := 0) (j := 2) rfl rfl)) rfl rfl (by decide) ?_
    refine l_y (y_len Tryd.underlying22 rfl rfl) rfl rfl (by decide) ?_
    refine l_y (y_assign rfl rfl) rfl rfl (by decide) ?_
    refine l_nil ?_
    refine x_next ?_
    refine c_join (fun a W => ∃ (kq : Nat), swageref11_shaped.j1 kq a0 = some r ∧ kq ≤ k ∧ At 69 [] [(1, .pointer (some ⟨β5, 0, none⟩)), (3, .int .i64 (a0.Kids.length : Int))] I [] w I [.cells β5 24 [.int .i64 a0.Kind, .int .i64 a0.Count, .slice A1 a0.Kids.length c2] 3] a W) ?_ ?_
    · skip
      refine c_seq ?_
      refine g_plain ?_
      refine l_y (y_field (j' := 0) fa24_0 rfl rfl rfl) rfl rfl (by decide) ?_
      refine l_y (y_load is3 rfl rfl (cl_own (i := 0) (j := 0) rfl rfl)) rfl rfl (by decide) ?_
      refine l_nil ?_
      refine x_next ?_
      refine c_block ?_
      refine c_seq ?_
      refine g_plain ?_
      refine l_y (y_bin rfl rfl rfl bi_eq) rfl rfl (by decide) ?_
      refine l_y (y_assign rfl rfl) rfl rfl (by decide) ?_
      refine l_nil ?_
      refine x_next ?_
      by_cases c6 : a0.Kind = 1
      · rw [if_pos c6] at H
        refine s_lit (t := 11) rfl (decide_eq_true c6) ?_
        refine c_true rfl ?_
        refine c_join (fun a W => ∃ (kq : Nat) (x7 : Bool), swageref11_shaped.j2 kq x7 a0 = some r ∧ kq ≤ k ∧ At 69 [] [(1, .pointer (some ⟨β5, 0, none⟩)), (3, .int .i64 (a0.Kids.length : Int)), (19, .bool x7)] I [] w I [.cells β5 24 [.int .i64 a0.Kind, .int .i64 a0.Count, .slice A1 a0.Kids.length c2] 3] a W) ?_ ?_
        · skip
          refine g_plain ?_
          refine l_y (y_move rfl rfl) rfl rfl (by decide) ?_
          refine l_y (y_bin rfl rfl rfl bi_ne) rfl rfl (by decide) ?_
          refine l_y (y_move rfl rfl) rfl rfl (by decide) ?_
          by_cases c8 : (a0.Kids.length : Int) = 0
          · rw [if_pos c8] at H
            refine s_lit (t := 15) rfl (not_f (decide_eq_true c8)) ?_
            refine l_yg (y_field (j' := 1) fa24_1 rfl rfl rfl) rfl rfl rfl rfl rfl (by decide) ?_
            refine l_yg (y_load is3 rfl rfl (cl_own (i := 0) (j := 1) rfl rfl)) rfl rfl rfl rfl rfl (by decide) ?_
            refine l_yg (y_bin rfl rfl rfl bi_ne) rfl rfl rfl rfl rfl (by decide) ?_
            refine l_y (y_pickf rfl rfl rfl) rfl rfl (by decide) ?_
            refine l_nil ?_
            exact fun a W hA => ⟨k, (!(decide (a0.Count = 0))), H, (by omega), ⟨hA.fits.only ⟨rfl, rfl, rfl, trivial⟩, hA.ext⟩⟩
          · rw [if_neg c8] at H
            refine s_lit (t := 15) rfl (not_t (decide_eq_false c8)) ?_
            refine l_off rfl rfl rfl rfl rfl rfl (by decide) ?_
            refine l_off rfl rfl rfl rfl rfl rfl (by decide) ?_
            refine l_off rfl rfl rfl rfl rfl rfl (by decide) ?_
            refine l_y (y_pickt rfl rfl rfl) rfl rfl (by decide) ?_
            refine l_nil ?_
            exact fun a W hA => ⟨k, true, H, (by omega), ⟨hA.fits.only ⟨rfl, rfl, rfl, trivial⟩, hA.ext⟩⟩
        clear H
        rintro a W ⟨kq, x7, H, hk, hA⟩
        refine here hA ?_
        clear hA a W
        cases kq with
        | zero => exact absurd H (by simp [swageref11_shaped.j2])
        | succ k_j2 =>
          simp only [swageref11_shaped.j2] at H
          by_cases c9 : x7 = true
          · rw [if_pos c9] at H
            refine s_lit (t := 19) rfl c9 ?_
            refine c_true rfl ?_
            refine c_seq ?_
            refine g_plain ?_
            refine l_y (y_assign rfl rfl) rfl rfl (by decide) ?_
            refine l_nil ?_
            refine x_next ?_
            refine c_ret ?_
            refine x_ret ?_
            refine x_then rfl ?_
            obtain rfl := Option.some.inj H
            exact g_ret [.bool false] (congrArg Array.toList Tryd.results66) (.cons (.t rfl) .nil) (fun W E => ⟨rfl, E.drop (List.nil_sublist _)⟩)
          · rw [if_neg c9] at H
            refine s_lit (t := 19) rfl (Bool.eq_false_iff.2 c9) ?_
            refine c_false rfl ?_
            refine c_skip ?_
            refine x_norm ?_
            exact fun a W hA => ⟨k_j2, H, (by omega), ⟨hA.fits.only ⟨rfl, rfl, trivial⟩, hA.ext⟩⟩
      · rw [if_neg c6] at H
        refine s_lit (t := 11) rfl (decide_eq_false c6) ?_
        refine c_false rfl ?_
        refine c_seq ?_
        refine g_plain ?_
        refine l_y (y_bin rfl rfl rfl bi_eq) rfl rfl (by decide) ?_
        refine l_y (y_assign rfl rfl) rfl rfl (by decide) ?_
        refine l_nil ?_
        refine x_next ?_
        by_cases c10 : a0.Kind = 2
        · rw [if_pos c10] at H
          refine s_lit (t := 20) rfl (decide_eq_true c10) ?_
          refine c_true rfl ?_
          refine c_join (fun a W => ∃ (kq : Nat) (x11 : Bool), swageref11_shaped.j3 kq x11 a0 = some r ∧ kq ≤ k ∧ At 69 [] [(1, .pointer (some ⟨β5, 0, none⟩)), (3, .int .i64 (a0.Kids.length : Int)), (28, .bool x11)] I [] w I [.cells β5 24 [.int .i64 a0.Kind, .int .i64 a0.Count, .slice A1 a0.Kids.length c2] 3] a W) ?_ ?_
          · skip
            refine g_plain ?_
            refine l_y (y_move rfl rfl) rfl rfl (by decide) ?_
            refine l_y (y_bin rfl rfl rfl bi_ne) rfl rfl (by decide) ?_
            refine l_y (y_move rfl rfl) rfl rfl (by decide) ?_
            by_cases c12 : (a0.Kids.length : Int) = 1
            · rw [if_pos c12] at H
              refine s_lit (t := 24) rfl (not_f (decide_eq_true c12)) ?_
              refine l_yg (y_field (j' := 1) fa24_1 rfl rfl rfl) rfl rfl rfl rfl rfl (by decide) ?_
              refine l_yg (y_load is3 rfl rfl (cl_own (i := 0) (j := 1) rfl rfl)) rfl rfl rfl rfl rfl (by decide) ?_
              refine l_yg (y_bin rfl rfl rfl bi_ne) rfl rfl rfl rfl rfl (by decide) ?_
              refine l_y (y_pickf rfl rfl rfl) rfl rfl (by decide) ?_
              refine l_nil ?_
              exact fun a W hA => ⟨k, (!(decide (a0.Count = 0))), H, (by omega), ⟨hA.fits.only ⟨rfl, rfl, rfl, trivial⟩, hA.ext⟩⟩
            · rw [if_neg c12] at H
              refine s_lit (t := 24) rfl (not_t (decide_eq_false c12)) ?_
              refine l_off rfl rfl rfl rfl rfl rfl (by decide) ?_
              refine l_off rfl rfl rfl rfl rfl rfl (by decide) ?_
              refine l_off rfl rfl rfl rfl rfl rfl (by decide) ?_
              refine l_y (y_pickt rfl rfl rfl) rfl rfl (by decide) ?_
              refine l_nil ?_
              exact fun a W hA => ⟨k, true, H, (by omega), ⟨hA.fits.only ⟨rfl, rfl, rfl, trivial⟩, hA.ext⟩⟩
          clear H
          rintro a W ⟨kq, x11, H, hk, hA⟩
          refine here hA ?_
          clear hA a W
          cases kq with
          | zero => exact absurd H (by simp [swageref11_shaped.j3])
          | succ k_j3 =>
            simp only [swageref11_shaped.j3] at H
            by_cases c13 : x11 = true
            · rw [if_pos c13] at H
              refine s_lit (t := 28) rfl c13 ?_
              refine c_true rfl ?_
              refine c_seq ?_
              refine g_plain ?_
              refine l_y (y_assign rfl rfl) rfl rfl (by decide) ?_
              refine l_nil ?_
              refine x_next ?_
              refine c_ret ?_
              refine x_ret ?_
              refine x_then rfl ?_
              obtain rfl := Option.some.inj H
              exact g_ret [.bool false] (congrArg Array.toList Tryd.results66) (.cons (.t rfl) .nil) (fun W E => ⟨rfl, E.drop (List.nil_sublist _)⟩)
            · rw [if_neg c13] at H
              refine s_lit (t := 28) rfl (Bool.eq_false_iff.2 c13) ?_
              refine c_false rfl ?_
              refine c_skip ?_
              refine x_norm ?_
              exact fun a W hA => ⟨k_j3, H, (by omega), ⟨hA.fits.only ⟨rfl, rfl, trivial⟩, hA.ext⟩⟩
        · rw [if_neg c10] at H
          refine s_lit (t := 20) rfl (decide_eq_false c10) ?_
          refine c_false rfl ?_
          refine c_seq ?_
          refine g_plain ?_
          refine l_y (y_bin rfl rfl rfl bi_eq) rfl rfl (by decide) ?_
          refine l_y (y_assign rfl rfl) rfl rfl (by decide) ?_
          refine l_nil ?_
          refine x_next ?_
          by_cases c14 : a0.Kind = 3
          · rw [if_pos c14] at H
            refine s_lit (t := 29) rfl (decide_eq_true c14) ?_
            refine c_true rfl ?_
            refine c_join (fun a W => ∃ (kq : Nat) (x15 : Bool), swageref11_shaped.j4 kq x15 a0 = some r ∧ kq ≤ k ∧ At 69 [] [(1, .pointer (some ⟨β5, 0, none⟩)), (3, .int .i64 (a0.Kids.length : Int)), (42, .bool x15)] I [] w I [.cells β5 24 [.int .i64 a0.Kind, .int .i64 a0.Count, .slice A1 a0.Kids.length c2] 3] a W) ?_ ?_
            · skip
              refine g_plain ?_
              refine l_y (y_move rfl rfl) rfl rfl (by decide) ?_
              refine l_y (y_bin rfl rfl rfl bi_ne) rfl rfl (by decide) ?_
              refine l_y (y_move rfl rfl) rfl rfl (by decide) ?_
              by_cases c16 : (a0.Kids.length : Int) = 1
              · rw [if_pos c16] at H
                refine s_lit (t := 33) rfl (not_f (decide_eq_true c16)) ?_
                refine l_yg (y_field (j' := 1) fa24_1 rfl rfl rfl) rfl rfl rfl rfl rfl (by decide) ?_
                refine l_yg (y_load is3 rfl rfl (cl_own (i := 0) (j := 1) rfl rfl)) rfl rfl rfl rfl rfl (by decide) ?_
                refine l_yg (y_bin rfl rfl rfl bi_lt) rfl rfl rfl rfl rfl (by decide) ?_
                refine l_y (y_pickf rfl rfl rfl) rfl rfl (by decide) ?_
                refine l_y (y_move rfl rfl) rfl rfl (by decide) ?_
                by_cases c17 : a0.Count < 1
                · rw [if_pos c17] at H
                  refine s_lit (t := 38) rfl (decide_eq_true c17) ?_
                  refine l_off rfl rfl rfl rfl rfl rfl (by decide) ?_
                  refine l_off rfl rfl rfl rfl rfl rfl (by decide) ?_
                  refine l_off rfl rfl rfl rfl rfl rfl (by decide) ?_
                  refine l_y (y_pickt rfl rfl rfl) rfl rfl (by decide) ?_
                  refine l_nil ?_
                  exact fun a W hA => ⟨k, true, H, (by omega), ⟨hA.fits.only ⟨rfl, rfl, rfl, trivial⟩, hA.ext⟩⟩
                · rw [if_neg c17] at H
                  refine s_lit (t := 38) rfl (decide_eq_false c17) ?_
                  refine l_yg (y_field (j' := 1) fa24_1 rfl rfl rfl) rfl rfl rfl rfl rfl (by decide) ?_
                  refine l_yg (y_load is3 rfl rfl (cl_own (i := 0) (j := 1) rfl rfl)) rfl rfl rfl rfl rfl (by decide) ?_
                  refine l_yg (y_bin rfl rfl rfl bi_gt) rfl rfl rfl rfl rfl (by decide) ?_
                  refine l_y (y_pickf rfl rfl rfl) rfl rfl (by decide) ?_
                  refine l_nil ?_
                  exact fun a W hA => ⟨k, (decide (1048576 < a0.Count)), H, (by omega), ⟨hA.fits.only ⟨rfl, rfl, rfl, trivial⟩, hA.ext⟩⟩
              · rw [if_neg c16] at H
                refine s_lit (t := 33) rfl (not_t (decide_eq_false c16)) ?_
                refine l_off rfl rfl rfl rfl rfl rfl (by decide) ?_
                refine l_off rfl rfl rfl rfl rfl rfl (by decide) ?_
                refine l_off rfl rfl rfl rfl rfl rfl (by decide) ?_
                refine l_y (y_pickt rfl rfl rfl) rfl rfl (by decide) ?_
                refine l_y (y_move rfl rfl) rfl rfl (by decide) ?_
                refine l_off rfl rfl rfl rfl rfl rfl (by decide) ?_
                refine l_off rfl rfl rfl rfl rfl rfl (by decide) ?_
                refine l_off rfl rfl rfl rfl rfl rfl (by decide) ?_
                refine l_y (y_pickt rfl rfl rfl) rfl rfl (by decide) ?_
                refine l_nil ?_
                exact fun a W hA => ⟨k, true, H, (by omega), ⟨hA.fits.only ⟨rfl, rfl, rfl, trivial⟩, hA.ext⟩⟩
            clear H
            rintro a W ⟨kq, x15, H, hk, hA⟩
            refine here hA ?_
            clear hA a W
            cases kq with
            | zero => exact absurd H (by simp [swageref11_shaped.j4])
            | succ k_j4 =>
              simp only [swageref11_shaped.j4] at H
              by_cases c18 : x15 = true
              · rw [if_pos c18] at H
                refine s_lit (t := 42) rfl c18 ?_
                refine c_true rfl ?_
                refine c_seq ?_
                refine g_plain ?_
                refine l_y (y_assign rfl rfl) rfl rfl (by decide) ?_
                refine l_nil ?_
                refine x_next ?_
                refine c_ret ?_
                refine x_ret ?_
                refine x_then rfl ?_
                obtain rfl := Option.some.inj H
                exact g_ret [.bool false] (congrArg Array.toList Tryd.results66) (.cons (.t rfl) .nil) (fun W E => ⟨rfl, E.drop (List.nil_sublist _)⟩)
              · rw [if_neg c18] at H
                refine s_lit (t := 42) rfl (Bool.eq_false_iff.2 c18) ?_
                refine c_false rfl ?_
                refine c_skip ?_
                refine x_norm ?_
                exact fun a W hA => ⟨k_j4, H, (by omega), ⟨hA.fits.only ⟨rfl, rfl, trivial⟩, hA.ext⟩⟩
          · rw [if_neg c14] at H
            refine s_lit (t := 29) rfl (decide_eq_false c14) ?_
            refine c_false rfl ?_
            refine c_seq ?_
            refine g_plain ?_
            refine l_y (y_bin rfl rfl rfl bi_eq) rfl rfl (by decide) ?_
            refine l_y (y_assign rfl rfl) rfl rfl (by decide) ?_
            refine l_nil ?_
            refine x_next ?_
            by_cases c19 : a0.Kind = 4
            · rw [if_pos c19] at H
              refine s_lit (t := 43) rfl (decide_eq_true c19) ?_
              refine c_true rfl ?_
              refine c_join (fun a W => ∃ (kq : Nat) (x20 : Bool), swageref11_shaped.j5 kq x20 a0 = some r ∧ kq ≤ k ∧ At 69 [] [(1, .pointer (some ⟨β5, 0, none⟩)), (3, .int .i64 (a0.Kids.length : Int)), (55, .bool x20)] I [] w I [.cells β5 24 [.int .i64 a0.Kind, .int .i64 a0.Count, .slice A1 a0.Kids.length c2] 3] a W) ?_ ?_
              · skip
                refine g_plain ?_
                refine l_y (y_move rfl rfl) rfl rfl (by decide) ?_
                refine l_y (y_bin rfl rfl rfl bi_lt) rfl rfl (by decide) ?_
                refine l_y (y_move rfl rfl) rfl rfl (by decide) ?_
                by_cases c21 : (a0.Kids.length : Int) < 1
                · rw [if_pos c21] at H
                  refine s_lit (t := 47) rfl (decide_eq_true c21) ?_
                  refine l_off rfl rfl rfl rfl rfl rfl (by decide) ?_
                  refine l_off rfl rfl rfl rfl rfl rfl (by decide) ?_
                  refine l_y (y_pickt rfl rfl rfl) rfl rfl (by decide) ?_
                  refine l_y (y_move rfl rfl) rfl rfl (by decide) ?_
                  refine l_off rfl rfl rfl rfl rfl rfl (by decide) ?_
                  refine l_off rfl rfl rfl rfl rfl rfl (by decide) ?_
                  refine l_off rfl rfl rfl rfl rfl rfl (by decide) ?_
                  refine l_y (y_pickt rfl rfl rfl) rfl rfl (by decide) ?_
                  refine l_nil ?_
                  exact fun a W hA => ⟨k, true, H, (by omega), ⟨hA.fits.only ⟨rfl, rfl, rfl, trivial⟩, hA.ext⟩⟩
                · rw [if_neg c21] at H
                  refine s_lit (t := 47) rfl (decide_eq_false c21) ?_
                  refine l_yg (y_move rfl rfl) rfl rfl rfl rfl rfl (by decide) ?_
                  refine l_yg (y_bin rfl rfl rfl bi_gt) rfl rfl rfl rfl rfl (by decide) ?_
                  refine l_y (y_pickf rfl rfl rfl) rfl rfl (by decide) ?_
                  refine l_y (y_move rfl rfl) rfl rfl (by decide) ?_
                  by_cases c22 : 64 < (a0.Kids.length : Int)
                  · rw [if_pos c22] at H
                    refine s_lit (t := 51) rfl (decide_eq_true c22) ?_
                    refine l_off rfl rfl rfl rfl rfl rfl (by decide) ?_
                    refine l_off rfl rfl rfl rfl rfl rfl (by decide) ?_
                    refine l_off rfl rfl rfl rfl rfl rfl (by decide) ?_
                    refine l_y (y_pickt rfl rfl rfl) rfl rfl (by decide) ?_
                    refine l_nil ?_
                    exact fun a W hA => ⟨k, true, H, (by omega), ⟨hA.fits.only ⟨rfl, rfl, rfl, trivial⟩, hA.ext⟩⟩
                  · rw [if_neg c22] at H
                    refine s_lit (t := 51) rfl (decide_eq_false c22) ?_
                    refine l_yg (y_field (j' := 1) fa24_1 rfl rfl rfl) rfl rfl rfl rfl rfl (by decide) ?_
                    refine l_yg (y_load is3 rfl rfl (cl_own (i := 0) (j := 1) rfl rfl)) rfl rfl rfl rfl rfl (by decide) ?_
                    refine l_yg (y_bin rfl rfl rfl bi_ne) rfl rfl rfl rfl rfl (by decide) ?_
                    refine l_y (y_pickf rfl rfl rfl) rfl rfl (by decide) ?_
                    refine l_nil ?_
                    exact fun a W hA => ⟨k, (!(decide (a0.Count = 0))), H, (by omega), ⟨hA.fits.only ⟨rfl, rfl, rfl, trivial⟩, hA.ext⟩⟩
              clear H
              rintro a W ⟨kq, x20, H, hk, hA⟩
              refine here hA ?_
              clear hA a W
              cases kq with
              | zero => exact absurd H (by simp [swageref11_shaped.j5])
              | succ k_j5 =>
                simp only [swageref11_shaped.j5] at H
                by_cases c23 : x20 = true
                · rw [if_pos c23] at H
                  refine s_lit (t := 55) rfl c23 ?_
                  refine c_true rfl ?_
                  refine c_seq ?_
                  refine g_plain ?_
                  refine l_y (y_assign rfl rfl) rfl rfl (by decide) ?_
                  refine l_nil ?_
                  refine x_next ?_
                  refine c_ret ?_
                  refine x_ret ?_
                  refine x_then rfl ?_
                  obtain rfl := Option.some.inj H
                  exact g_ret [.bool false] (congrArg Array.toList Tryd.results66) (.cons (.t rfl) .nil) (fun W E => ⟨rfl, E.drop (List.nil_sublist _)⟩)
                · rw [if_neg c23] at H
                  refine s_lit (t := 55) rfl (Bool.eq_false_iff.2 c23) ?_
                  refine c_false rfl ?_
                  refine c_skip ?_
                  refine x_norm ?_
                  exact fun a W hA => ⟨k_j5, H, (by omega), ⟨hA.fits.only ⟨rfl, rfl, trivial⟩, hA.ext⟩⟩
            · rw [if_neg c19] at H
              refine s_lit (t := 43) rfl (decide_eq_false c19) ?_
              refine c_false rfl ?_
              refine c_seq ?_
              refine g_plain ?_
              refine l_y (y_assign rfl rfl) rfl rfl (by decide) ?_
              refine l_nil ?_
              refine x_next ?_
              refine c_ret ?_
              refine x_ret ?_
              refine x_then rfl ?_
              obtain rfl := Option.some.inj H
              exact g_ret [.bool false] (congrArg Array.toList Tryd.results66) (.cons (.t rfl) .nil) (fun W E => ⟨rfl, E.drop (List.nil_sublist _)⟩)
    clear H
    rintro a W ⟨kq, H, hk, hA⟩
    refine here hA ?_
    clear hA a W
    cases kq with
    | zero => exact absurd H (by simp [swageref11_shaped.j1])
    | succ k_j1 =>
      simp only [swageref11_shaped.j1] at H
      refine c_seq ?_
      refine c_seq ?_
      refine g_plain ?_
      refine l_y (y_assign rfl rfl) rfl rfl (by decide) ?_
      refine l_nil ?_
      refine x_next ?_
      refine c_block ?_
      refine c_loop (fun kq a W => ∃ (x24 : Int), swageref11_shaped.l0 kq x24 a0 = some r ∧ kq ≤ k_j1 ∧ At 69 [] [(1, .pointer (some ⟨β5, 0, none⟩)), (3, .int .i64 (a0.Kids.length : Int)), (4, .int .i64 x24)] I [] w I [.cells β5 24 [.int .i64 a0.Kind, .int .i64 a0.Count, .slice A1 a0.Kids.length c2] 3] a W) k_j1 (fun a W hA => ⟨0, H, (Nat.le_refl _), ⟨hA.fits.only ⟨rfl, rfl, rfl, trivial⟩, hA.ext⟩⟩) ?_
      clear H
      rintro kq a W ⟨x24, H, hk, hA⟩
      refine here hA ?_
      clear hA a W
      cases kq with
      | zero => exact absurd H (by simp [swageref11_shaped.l0])
      | succ k0 =>
        simp only [swageref11_shaped.l0] at H
        refine c_seq ?_
        refine c_seq ?_
        refine g_plain ?_
        refine l_y (y_move rfl rfl) rfl rfl (by decide) ?_
        refine l_y (y_move rfl rfl) rfl rfl (by decide) ?_
        refine l_y (y_bin rfl rfl rfl bi_lt) rfl rfl (by decide) ?_
        refine l_nil ?_
        refine x_next ?_
        by_cases c25 : x24 < (a0.Kids.length : Int)
        · rw [if_pos c25] at H
          refine s_lit (t := 58) rfl (decide_eq_true c25) ?_
          refine c_true rfl ?_
          refine c_skip ?_
          refine x_next ?_
          refine c_seq ?_
          refine c_block ?_
          refine c_seq ?_
          refine g_plain ?_
          refine l_y (y_field (j' := 2) fa24_2 rfl rfl rfl) rfl rfl (by decide) ?_
          refine l_y (y_load is22 rfl rfl (cl_own (i := 0) (j := 2) rfl rfl)) rfl rfl (by decide) ?_
          refine l_y (y_move rfl rfl) rfl rfl (by decide) ?_
          by_cases c26 : 0 ≤ x24 ∧ x24 < (a0.Kids.length : Int)
          rotate_left
          · rw [if_neg c26] at H; exact absurd H (by simp)
          rw [if_pos c26] at H
          obtain ⟨b27, o28, hA_, hE29⟩ := hr3.elem (by omega)
          obtain rfl := hA_
          obtain ⟨cs32, hR33, hC34⟩ := hE29 x24 c26.1 c26.2
          obtain ⟨A30, c31, rfl, hr35, chr35⟩ := hR33.open
          refine l_y (y_index sl22 rfl rfl rfl c26.1 c26.2) rfl rfl (by decide) ?_
          refine l_y (y_loadA (cs := [.int .i64 ((rd a0.Kids x24).Kind), .int .i64 ((rd a0.Kids x24).Count), .slice A30 (((rd a0.Kids x24).Kids).length) c31]) ia24 rfl rfl rfl hC34.cls) rfl rfl (by decide) ?_
          refine l_w rfl ?_
          obtain ⟨r36, hr36, H⟩ := Option.bind_eq_some_iff.1 H
          refine w_call (args := [.agg #[.int .i64 ((rd a0.Kids x24).Kind), .int .i64 ((rd a0.Kids x24).Count), .slice A30 (((rd a0.Kids x24).Kids).length) c31]]) (caps := []) has66 rfl rfl rfl rfl (by decide) (fun a W F E => ?_)
          refine ((ih k0 (by omega)) (rd a0.Kids x24) A30 c31 I W r36 hr35 (by first | assumption | simp | omega) (E.st.sub (List.nil_sublist _)) hr36).mono ?_
          rintro e W' ⟨rfl, X⟩
          refine ⟨_, rfl, here (At.mk (F.put (by decide) _) (E.call0 X)) ?_⟩
          clear X E F W W' a
          refine l_y (y_assign rfl rfl) rfl rfl (by decide) ?_
          refine l_nil ?_
          refine x_next ?_
          refine c_seq ?_
          refine g_plain ?_
          refine l_y (y_move rfl rfl) rfl rfl (by decide) ?_
          refine l_y (y_not rfl rfl) rfl rfl (by decide) ?_
          refine l_nil ?_
          refine x_next ?_
          by_cases c38 : r36 = true
          · rw [if_pos c38] at H
            refine s_lit (t := 68) rfl (not_f c38) ?_
            refine c_false rfl ?_
            refine c_skip ?_
            refine x_norm ?_
            refine x_next ?_
            refine g_plain ?_
            refine l_y (y_move rfl rfl) rfl rfl (by decide) ?_
            refine l_y (y_bin rfl rfl rfl bi_add) rfl rfl (by decide) ?_
            refine l_y (y_assign rfl rfl) rfl rfl (by decide) ?_
            refine l_nil ?_
            exact fun a W hA => ⟨k0, by omega, (IntKind.i64.wrap (x24 + 1)), H, (by omega), ⟨hA.fits.only ⟨rfl, rfl, rfl, trivial⟩, hA.ext⟩⟩
          · rw [if_neg c38] at H
            refine s_lit (t := 68) rfl (not_t (Bool.eq_false_iff.2 c38)) ?_
            refine c_true rfl ?_
            refine c_seq ?_
            refine g_plain ?_
            refine l_y (y_assign rfl rfl) rfl rfl (by decide) ?_
            refine l_nil ?_
            refine x_next ?_
            refine c_ret ?_
            refine x_ret ?_
            refine x_then rfl ?_
            refine x_then rfl ?_
            refine x_ret ?_
            refine x_then rfl ?_
            obtain rfl := Option.some.inj H
            exact g_ret [.bool false] (congrArg Array.toList Tryd.results66) (.cons (.t rfl) .nil) (fun W E => ⟨rfl, E.drop (List.nil_sublist _)⟩)
        · rw [if_neg c25] at H
          refine s_lit (t := 58) rfl (decide_eq_false c25) ?_
          refine c_false rfl ?_
          refine c_exit ?_
          refine x_then rfl ?_
          refine x_then rfl ?_
          refine x_in ?_
          refine x_next ?_
          refine c_seq ?_
          refine g_plain ?_
          refine l_y (y_assign rfl rfl) rfl rfl (by decide) ?_
          refine l_nil ?_
          refine x_next ?_
          refine c_ret ?_
          obtain rfl := Option.some.inj H
          exact g_ret [.bool true] (congrArg Array.toList Tryd.results66) (.cons (.t rfl) .nil) (fun W E => ⟨rfl, E.drop (List.nil_sublist _)⟩)
mutual
def swageref11_cells.l0 : Nat → Int → Int → (List GType) → Option Int
  | 0, _, _, _ => none
  | k + 1, x25, x26, x7 => (if x26 < (x7.length : Int) then (if 0 ≤ x26 ∧ x26 < (x7.length : Int) then ((swageref11_cells.f k (rd x7 x26)).bind fun r38 => (swageref11_cells.l0 k (IntKind.i64.wrap (x25 + r38)) (IntKind.i64.wrap (x26 + 1)) x7)) else none) else (some (min x25 1048577)))
def swageref11_cells.j1 : Nat → Int → (List GType) → GType → Option Int
  | 0, _, _, _ => none
  | k + 1, x6, x7, a0 => (if a0.Kind = 4 then (swageref11_cells.l0 k 0 0 x7) else (some (min x6 1048577)))
def swageref11_cells.f : Nat → GType → Option Int
  | 0, _ => none
  | k + 1, a0 => (if a0.Kind = 3 then (if 0 < (a0.Kids.length : Int) then ((swageref11_cells.f k (rd a0.Kids 0)).bind fun r22 => (swageref11_cells.j1 k (IntKind.i64.wrap (r22 * a0.Count)) a0.Kids a0)) else none) else (swageref11_cells.j1 k 1 a0.Kids a0))
end
def swageref11_cells.Post (I : Imm) (O : List Ent) (w : World) (r : Int) (e : Ending) (w' : World) : Prop := e = .returned (.int .i64 r) ∧ Ext I O w I O w'
set_option maxRecDepth 100000 in
set_option maxHeartbeats 1000000 in
theorem swageref11_cells.calls (k : Nat) : ∀ (a0 : GType) (A1 : Option Addr) (c2 : Nat) (I : Imm) (w : World) (r : Int) (hr3 : RowsG R_Type 3 40 I A1 a0.Kids) (hc4 : a0.Kids.length ≤ c2), St I [] w → swageref11_cells.f k a0 = some r →
  Calls Tryd.prog 64 #[.agg #[.int .i64 a0.Kind, .int .i64 a0.Count, .slice A1 a0.Kids.length c2]] w (swageref11_cells.Post I [] w r) := by
  induction k using Nat.strongRecOn with
  | _ k ih =>
  intro a0 A1 c2 I w r hr3 hc4 hS H
  have nhr3 := hr3.len
  cases k with
  | zero => exact absurd H (by simp [swageref11_cells.f])
  | succ k =>
    simp only [swageref11_cells.f] at H
    refine enter Tryd.func64 rfl Tryd.ntmps64 (Nat.le_of_ble_eq_true rfl) hS ?_
    refine c_seq ?_
    refine g_plain ?_
    refine l_w rfl ?_
    refine w_box (cs := [.int .i64 a0.Kind, .int .i64 a0.Count, .slice A1 a0.Kids.length c2]) (m := 3) rfl rfl rfl rfl rfl (by decide) (fun β5 => ?_)
    refine l_y (y_assign rfl rfl) rfl rfl (by decide) ?_
    refine l_nil ?_
    refine x_next ?_
    refine c_seq ?_
    refine g_plain ?_
    refine l_y (y_assign rfl rfl) rfl rfl (by decide) ?_
    refine l_nil ?_
    refine x_next ?_
    refine c_join (fun a W => ∃ (kq : Nat) (x6 : Int) (x7 : List GType) (A8 : Option Addr) (c9 : Nat), swageref11_cells.j1 kq x6 x7 a0 = some r ∧ kq ≤ k ∧ RowsG R_Type 3 40 I A8 x7 ∧ x7.length ≤ c9 ∧ At 36 [] [(1, .pointer (some ⟨β5, 0, none⟩)), (3, .int .i64 x6)] I [] w I [.cells β5 24 [.int .i64 a0.Kind, .int .i64 a0.Count, .slice A8 x7.length c9] 3] a W) ?_ ?_
    · skip
      refine c_seq ?_
      refine g_plain ?_
      refine l_y (y_field (j' := 0) fa24_0 rfl rfl rfl) rfl rfl (by decide) ?_
      refine l_y (y_load is3 rfl rfl (cl_own (i := 0) (j := 0) rfl rfl)) rfl rfl (by decide) ?_
      refine l_y (y_bin rfl rfl rfl bi_eq) rfl rfl (by decide) ?_
      refine l_nil ?_
      refine x_next ?_
      by_cases c11 : a0.Kind = 3
      · rw [if_pos c11] at H
        refine s_lit (t := 7) rfl (decide_eq_true c11) ?_
        refine c_true rfl ?_
        refine d_start [.cells β5 24 [.int .i64 a0.Kind, .int .i64 a0.Count, .slice A1 a0.Kids.length c2] 3] [] (bits 9 0) mixed_ rfl (by kernel_rfl) (pick_mem (is := [0]) ⟨rfl, trivial⟩) ?_
        refine d_pure 0 (bits 9 1) (y_field (j' := 2) fa24_2 rfl rfl rfl) rfl rfl (by decide) (by kernel_rfl) (fun _ _ _ h => h) (.none rfl) ?_
        refine d_take 1 (bits 9 3) (y_load is22 rfl rfl (cl_own (i := 0) (j := 2) rfl rfl)) rfl rfl (by decide) (by kernel_rfl) (fun _ _ _ h => h) (.none rfl) (Imm.rfl' _) (pick_mem (is := [0]) ⟨rfl, trivial⟩) ?_
        by_cases c12 : 0 < (a0.Kids.length : Int)
        rotate_left
        · rw [if_neg c12] at H; exact absurd H (by simp)
        rw [if_pos c12] at H
        obtain ⟨b13, o14, hA_, hE15⟩ := hr3.elem (by omega)
        obtain rfl := hA_
        obtain ⟨cs18, hR19, hC20⟩ := hE15 0 (by decide) c12
        obtain ⟨A16, c17, rfl, hr21, chr21⟩ := hR19.open
        refine d_pure 2 (bits 9 7) (y_index sl22 rfl rfl rfl (by decide) c12) rfl rfl (by decide) (by kernel_rfl) (fun _ _ _ h => h) (.none rfl) ?_
        refine d_take 3 (bits 9 15) (y_loadA (cs := [.int .i64 ((rd a0.Kids 0).Kind), .int .i64 ((rd a0.Kids 0).Count), .slice A16 (((rd a0.Kids 0).Kids).length) c17]) ia24 rfl rfl rfl hC20.cls) rfl rfl (by decide) (by kernel_rfl) (fun _ _ _ h => h) (.none rfl) (Imm.rfl' _) (pick_mem (is := [0]) ⟨rfl, trivial⟩) ?_
        refine d_pure 5 (bits 9 47) (y_field (j' := 1) fa24_1 rfl rfl rfl) rfl rfl (by decide) (by kernel_rfl) (fun _ _ _ h => h) (.none rfl) ?_
        refine d_take 6 (bits 9 111) (y_load is3 rfl rfl (cl_own (i := 0) (j := 1) rfl rfl)) rfl rfl (by decide) (by kernel_rfl) (fun _ _ _ h => h) (.none rfl) (Imm.rfl' _) (pick_mem (is := [0]) ⟨rfl, trivial⟩) ?_
        refine d_one 4 (bits 9 127) rfl (by kernel_rfl) (by decide) (.none rfl) (fun K hK => ?_)
        obtain ⟨r22, hr22, H⟩ := Option.bind_eq_some_iff.1 H
        refine w_call (args := [.agg #[.int .i64 ((rd a0.Kids 0).Kind), .int .i64 ((rd a0.Kids 0).Count), .slice A16 (((rd a0.Kids 0).Kids).length) c17]]) (caps := []) has64 rfl rfl rfl rfl (by decide) (fun a W F E => ?_)
        refine ((ih k (by omega)) (rd a0.Kids 0) A16 c17 I W r22 hr21 (by first | assumption | simp | omega) (E.st.sub (List.nil_sublist _)) hr22).mono ?_
        rintro e W' ⟨rfl, X⟩
        refine ⟨_, rfl, here (At.mk (F.put (by decide) _) (E.call0 X)) ?_⟩
        clear X E F W W' a
        refine d_k hK (Imm.rfl' _) (pick_mem (is := [0]) ⟨rfl, trivial⟩) ?_
        clear hK K
        refine d_pure 7 (bits 9 255) (y_bin rfl rfl rfl bi_mul) rfl rfl (by decide) (by kernel_rfl) (fun _ _ _ h => h) (.none rfl) ?_
        refine d_pure 8 (bits 9 511) (y_assign rfl rfl) rfl rfl (by decide) (by kernel_rfl) (fun _ _ _ h => h) (.none rfl) ?_
        refine d_done (by kernel_rfl) ?_
        exact fun a W hA => ⟨k, (IntKind.i64.wrap (r22 * a0.Count)), a0.Kids, (some ⟨b13, o14, none⟩), c2, H, (by omega), hr3, (by first | assumption | simp | omega), ⟨hA.fits.only ⟨rfl, rfl, trivial⟩, hA.ext⟩⟩
      · rw [if_neg c11] at H
        refine s_lit (t := 7) rfl (decide_eq_false c11) ?_
        refine c_false rfl ?_
        refine c_skip ?_
        exact fun a W hA => ⟨k, 1, a0.Kids, A1, c2, H, (by omega), hr3, (by first | assumption | simp | omega), ⟨hA.fits.only ⟨rfl, rfl, trivial⟩, hA.ext⟩⟩
    clear H
    rintro a W ⟨kq, x6, x7, A8, c9, H, hk, hr10, chr10, hA⟩
    refine here hA ?_
    clear hA a W
    cases kq with
    | zero => exact absurd H (by simp [swageref11_cells.j1])
    | succ k_j1 =>
      simp only [swageref11_cells.j1] at H
      refine c_seq ?_
      refine c_seq ?_
      refine g_plain ?_
      refine l_y (y_field (j' := 0) fa24_0 rfl rfl rfl) rfl rfl (by decide) ?_
      refine l_y (y_load is3 rfl rfl (cl_own (i := 0) (j := 0) rfl rfl)) rfl rfl (by decide) ?_
      refine l_y (y_bin rfl rfl rfl bi_eq) rfl rfl (by decide) ?_
      refine l_nil ?_
      refine x_next ?_
      by_cases c24 : a0.Kind = 4
      · rw [if_pos c24] at H
        refine s_lit (t := 18) rfl (decide_eq_true c24) ?_
        refine c_true rfl ?_
        refine c_seq ?_
        refine g_plain ?_
        refine l_y (y_assign rfl rfl) rfl rfl (by decide) ?_
        refine l_nil ?_
        refine x_next ?_
        refine c_seq ?_
        refine g_plain ?_
        refine l_y (y_assign rfl rfl) rfl rfl (by decide) ?_
        refine l_nil ?_
        refine x_next ?_
        refine c_block ?_
        refine c_loop (fun kq a W => ∃ (x25 : Int) (x26 : Int), swageref11_cells.l0 kq x25 x26 x7 = some r ∧ kq ≤ k_j1 ∧ At 36 [] [(1, .pointer (some ⟨β5, 0, none⟩)), (3, .int .i64 x25), (4, .int .i64 x26)] I [] w I [.cells β5 24 [.int .i64 a0.Kind, .int .i64 a0.Count, .slice A8 x7.length c9] 3] a W) k_j1 (fun a W hA => ⟨0, 0, H, (Nat.le_refl _), ⟨hA.fits.only ⟨rfl, rfl, rfl, trivial⟩, hA.ext⟩⟩) ?_
        clear H
        rintro kq a W ⟨x25, x26, H, hk, hA⟩
        refine here hA ?_
        clear hA a W
        cases kq with
        | zero => exact absurd H (by simp [swageref11_cells.l0])
        | succ k0 =>
          simp only [swageref11_cells.l0] at H
          refine c_seq ?_
          refine c_seq ?_
          refine g_plain ?_
          refine l_y (y_move rfl rfl) rfl rfl (by decide) ?_
          refine l_y (y_field (j' := 2) fa24_2 rfl rfl rfl) rfl rfl (by decide) ?_
          refine l_y (y_load is22 rfl rfl (cl_own (i := 0) (j := 2) rfl rfl)) rfl rfl (by decide) ?_
          refine l_y (y_len Tryd.underlying22 rfl rfl) rfl rfl (by decide) ?_
          refine l_y (y_bin rfl rfl rfl bi_lt) rfl rfl (by decide) ?_
          refine l_nil ?_
          refine x_next ?_
          by_cases c27 : x26 < (x7.length : Int)
          · rw [if_pos c27] at H
            refine s_lit (t := 23) rfl (decide_eq_true c27) ?_
            refine c_true rfl ?_
            refine c_skip ?_
            refine x_next ?_
            refine c_seq ?_
            refine c_block ?_
            refine g_plain ?_
            refine l_y (y_move rfl rfl) rfl rfl (by decide) ?_
            refine l_y (y_field (j' := 2) fa24_2 rfl rfl rfl) rfl rfl (by decide) ?_
            refine l_y (y_load is22 rfl rfl (cl_own (i := 0) (j := 2) rfl rfl)) rfl rfl (by decide) ?_
            refine l_y (y_move rfl rfl) rfl rfl (by decide) ?_
            by_cases c28 : 0 ≤ x26 ∧ x26 < (x7.length : Int)
            rotate_left
            · rw [if_neg c28] at H; exact absurd H (by simp)
            rw [if_pos c28] at H
            obtain ⟨b29, o30, hA_, hE31⟩ := hr10.elem (by omega)
            obtain rfl := hA_
            obtain ⟨cs34, hR35, hC36⟩ := hE31 x26 c28.1 c28.2
            obtain ⟨A32, c33, rfl, hr37, chr37⟩ := hR35.open
            refine l_y (y_index sl22 rfl rfl rfl c28.1 c28.2) rfl rfl (by decide) ?_
            refine l_y (y_loadA (cs := [.int .i64 ((rd x7 x26).Kind), .int .i64 ((rd x7 x26).Count), .slice A32 (((rd x7 x26).Kids).length) c33]) ia24 rfl rfl rfl hC36.cls) rfl rfl (by decide) ?_
            refine l_w rfl ?_
            obtain ⟨r38, hr38, H⟩ := Option.bind_eq_some_iff.1 H
            refine w_call (args := [.agg #[.int .i64 ((rd x7 x26).Kind), .int .i64 ((rd x7 x26).Count), .slice A32 (((rd x7 x26).Kids).length) c33]]) (caps := []) has64 rfl rfl rfl rfl (by decide) (fun a W F E => ?_)
            refine ((ih k0 (by omega)) (rd x7 x26) A32 c33 I W r38 hr37 (by first | assumption | simp | omega) (E.st.sub (List.nil_sublist _)) hr38).mono ?_
            rintro e W' ⟨rfl, X⟩
            refine ⟨_, rfl, here (At.mk (F.put (by decide) _) (E.call0 X)) ?_⟩
            clear X E F W W' a
            refine l_y (y_bin rfl rfl rfl bi_add) rfl rfl (by decide) ?_
            refine l_y (y_assign rfl rfl) rfl rfl (by decide) ?_
            refine l_nil ?_
            refine x_norm ?_
            refine x_next ?_
            refine g_plain ?_
            refine l_y (y_move rfl rfl) rfl rfl (by decide) ?_
            refine l_y (y_bin rfl rfl rfl bi_add) rfl rfl (by decide) ?_
            refine l_y (y_assign rfl rfl) rfl rfl (by decide) ?_
            refine l_nil ?_
            exact fun a W hA => ⟨k0, by omega, (IntKind.i64.wrap (x25 + r38)), (IntKind.i64.wrap (x26 + 1)), H, (by omega), ⟨hA.fits.only ⟨rfl, rfl, rfl, trivial⟩, hA.ext⟩⟩
          · rw [if_neg c27] at H
            refine s_lit (t := 23) rfl (decide_eq_false c27) ?_
            refine c_false rfl ?_
            refine c_exit ?_
            refine x_then rfl ?_
            refine x_then rfl ?_
            refine x_in ?_
            refine x_next ?_
            refine c_seq ?_
            refine g_plain ?_
            refine l_y (y_move rfl rfl) rfl rfl (by decide) ?_
            refine l_y (y_min rfl rfl rfl) rfl rfl (by decide) ?_
            refine l_y (y_assign rfl rfl) rfl rfl (by decide) ?_
            refine l_nil ?_
            refine x_next ?_
            refine c_ret ?_
            obtain rfl := Option.some.inj H
            exact g_ret [.int .i64 (min x25 1048577)] (congrArg Array.toList Tryd.results64) (.cons (.t rfl) .nil) (fun W E => ⟨rfl, E.drop (List.nil_sublist _)⟩)
      · rw [if_neg c24] at H
        refine s_lit (t := 18) rfl (decide_eq_false c24) ?_
        refine c_false rfl ?_
        refine c_skip ?_
        refine x_next ?_
        refine c_seq ?_
        refine g_plain ?_
        refine l_y (y_move rfl rfl) rfl rfl (by decide) ?_
        refine l_y (y_min rfl rfl rfl) rfl rfl (by decide) ?_
        refine l_y (y_assign rfl rfl) rfl rfl (by decide) ?_
        refine l_nil ?_
        refine x_next ?_
        refine c_ret ?_
        obtain rfl := Option.some.inj H
        exact g_ret [.int .i64 (min x6 1048577)] (congrArg Array.toList Tryd.results64) (.cons (.t rfl) .nil) (fun W E => ⟨rfl, E.drop (List.nil_sublist _)⟩)
mutual
def swageref11_Right.l0 : Nat → Int → GType → Option Bool
  | 0, _, _ => none
  | k + 1, x16, a0 => (if x16 < (a0.Kids.length : Int) then (if 0 ≤ x16 ∧ x16 < (a0.Kids.length : Int) then ((swageref11_Right.f k (rd a0.Kids x16)).bind fun r28 => (if r28 = true then (swageref11_Right.l0 k (IntKind.i64.wrap (x16 + 1)) a0) else (some false))) else none) else (some true))
def swageref11_Right.j1 : Nat → Bool → GType → Option Bool
  | 0, _, _ => none
  | k + 1, x8, a0 => (if x8 = true then (some false) else (swageref11_Right.l0 k 0 a0))
def swageref11_Right.f : Nat → GType → Option Bool
  | 0, _ => none
  | k + 1, a0 => ((swageref11_shaped.f k a0).bind fun r6 => (if r6 = true then ((swageref11_depth.f k a0).bind fun r10 => (if 100 < r10 then (swageref11_Right.j1 k true a0) else ((swageref11_cells.f k a0).bind fun r13 => (swageref11_Right.j1 k (decide (1048576 < r13)) a0)))) else (swageref11_Right.j1 k true a0)))
end
def swageref11_Right.Post (I : Imm) (O : List Ent) (w : World) (r : Bool) (e : Ending) (w' : World) : Prop := e = .returned (.bool r) ∧ Ext I O w I O w'
set_option maxRecDepth 100000 in
set_option maxHeartbeats 1000000 in
theorem swageref11_Right.calls (k : Nat) : ∀ (a0 : GType) (A1 : Option Addr) (c2 : Nat) (I : Imm) (w : World) (r : Bool) (hr3 : RowsG R_Type 3 40 I A1 a0.Kids) (hc4 : a0.Kids.length ≤ c2), St I [] w → swageref11_Right.f k a0 = some r →
  Calls Tryd.prog 20 #[.agg #[.int .i64 a0.Kind, .int .i64 a0.Count, .slice A1 a0.Kids.length c2]] w (swageref11_Right.Post I [] w r) := by
  induction k using Nat.strongRecOn with
  | _ k ih =>
  intro a0 A1 c2 I w r hr3 hc4 hS H
  have nhr3 := hr3.len
  cases k with
  | zero => exact absurd H (by simp [swageref11_Right.f])
  | succ k =>
    simp only [swageref11_Right.f] at H
    refine enter Tryd.func20 rfl Tryd.ntmps20 (Nat.le_of_ble_eq_true rfl) hS ?_
    refine c_seq ?_
    refine g_plain ?_
    refine l_w rfl ?_
    refine w_box (cs := [.int .i64 a0.Kind, .int .i64 a0.Count, .slice A1 a0.Kids.length c2]) (m := 3) rfl rfl rfl rfl rfl (by decide) (fun β5 => ?_)
    refine l_y (y_assign rfl rfl) rfl rfl (by decide) ?_
    refine l_nil ?_
    refine x_next ?_
    refine c_seq ?_
    refine g_plain ?_
    refine l_y (y_loadA (cs := [.int .i64 a0.Kind, .int .i64 a0.Count, .slice A1 a0.Kids.length c2]) ia24 rfl rfl rfl (cls_own (i := 0) rfl rfl)) rfl rfl (by decide) ?_
    refine l_w rfl ?_
    obtain ⟨r6, hr6, H⟩ := Option.bind_eq_some_iff.1 H
    refine w_call (args := [.agg #[.int .i64 a0.Kind, .int .i64 a0.Count, .slice A1 a0.Kids.length c2]]) (caps := []) has66 rfl rfl rfl rfl (by decide) (fun a W F E => ?_)
    refine (swageref11_shaped.calls k a0 A1 c2 I W r6 hr3 (by first | assumption | simp | omega) (E.st.sub (List.nil_sublist _)) hr6).mono ?_
    rintro e W' ⟨rfl, X⟩
    refine ⟨_, rfl, here (At.mk (F.put (by decide) _) (E.call0 X)) ?_⟩
    clear X E F W W' a
    refine l_y (y_assign rfl rfl) rfl rfl (by decide) ?_
    refine l_nil ?_
    refine x_next ?_
    refine c_seq ?_
    refine c_join (fun a W => ∃ (kq : Nat) (x8 : Bool), swageref11_Right.j1 kq x8 a0 = some r ∧ kq ≤ k ∧ At 35 [] [(1, .pointer (some ⟨β5, 0, none⟩)), (19, .bool x8)] I [] w I [.cells β5 24 [.int .i64 a0.Kind, .int .i64 a0.Count, .slice A1 a0.Kids.length c2] 3] a W) ?_ ?_
    · skip
      refine g_plain ?_
      refine l_y (y_move rfl rfl) rfl rfl (by decide) ?_
      refine l_y (y_not rfl rfl) rfl rfl (by decide) ?_
      refine l_y (y_move rfl rfl) rfl rfl (by decide) ?_
      by_cases c9 : r6 = true
      · rw [if_pos c9] at H
        refine s_lit (t := 10) rfl (not_f c9) ?_
        refine l_yg (y_loadA (cs := [.int .i64 a0.Kind, .int .i64 a0.Count, .slice A1 a0.Kids.length c2]) ia24 rfl rfl rfl (cls_own (i := 0) rfl rfl)) rfl rfl rfl rfl rfl (by decide) ?_
        refine l_wg rfl rfl rfl rfl ?_
        obtain ⟨r10, hr10, H⟩ := Option.bind_eq_some_iff.1 H
        refine w_call (args := [.agg #[.int .i64 a0.Kind, .int .i64 a0.Count, .slice A1 a0.Kids.length c2]]) (caps := []) has67 rfl rfl rfl rfl (by decide) (fun a W F E => ?_)
        refine (swageref11_depth.calls k a0 A1 c2 I W r10 hr3 (by first | assumption | simp | omega) (E.st.sub (List.nil_sublist _)) hr10).mono ?_
        rintro e W' ⟨rfl, X⟩
        refine ⟨_, rfl, here (At.mk (F.put (by decide) _) (E.call0 X)) ?_⟩
        clear X E F W W' a
        refine l_yg (y_bin rfl rfl rfl bi_gt) rfl rfl rfl rfl rfl (by decide) ?_
        refine l_y (y_pickf rfl rfl rfl) rfl rfl (by decide) ?_
        refine l_y (y_move rfl rfl) rfl rfl (by decide) ?_
        by_cases c12 : 100 < r10
        · rw [if_pos c12] at H
          refine s_lit (t := 15) rfl (decide_eq_true c12) ?_
          refine l_off rfl rfl rfl rfl rfl rfl (by decide) ?_
          refine l_off rfl rfl rfl rfl rfl rfl (by decide) ?_
          refine l_off rfl rfl rfl rfl rfl rfl (by decide) ?_
          refine l_y (y_pickt rfl rfl rfl) rfl rfl (by decide) ?_
          refine l_nil ?_
          exact fun a W hA => ⟨k, true, H, (by omega), ⟨hA.fits.only ⟨rfl, rfl, trivial⟩, hA.ext⟩⟩
        · rw [if_neg c12] at H
          refine s_lit (t := 15) rfl (decide_eq_false c12) ?_
          refine l_yg (y_loadA (cs := [.int .i64 a0.Kind, .int .i64 a0.Count, .slice A1 a0.Kids.length c2]) ia24 rfl rfl rfl (cls_own (i := 0) rfl rfl)) rfl rfl rfl rfl rfl (by decide) ?_
          refine l_wg rfl rfl rfl rfl ?_
          obtain ⟨r13, hr13, H⟩ := Option.bind_eq_some_iff.1 H
          refine w_call (args := [.agg #[.int .i64 a0.Kind, .int .i64 a0.Count, .slice A1 a0.Kids.length c2]]) (caps := []) has64 rfl rfl rfl rfl (by decide) (fun a W F E => ?_)
          refine (swageref11_cells.calls k a0 A1 c2 I W r13 hr3 (by first | assumption | simp | omega) (E.st.sub (List.nil_sublist _)) hr13).mono ?_
          rintro e W' ⟨rfl, X⟩
          refine ⟨_, rfl, here (At.mk (F.put (by decide) _) (E.call0 X)) ?_⟩
          clear X E F W W' a
          refine l_yg (y_bin rfl rfl rfl bi_gt) rfl rfl rfl rfl rfl (by decide) ?_
          refine l_y (y_pickf rfl rfl rfl) rfl rfl (by decide) ?_
          refine l_nil ?_
          exact fun a W hA => ⟨k, (decide (1048576 < r13)), H, (by omega), ⟨hA.fits.only ⟨rfl, rfl, trivial⟩, hA.ext⟩⟩
      · rw [if_neg c9] at H
        refine s_lit (t := 10) rfl (not_t (Bool.eq_false_iff.2 c9)) ?_
        refine l_off rfl rfl rfl rfl rfl rfl (by decide) ?_
        refine l_off rfl rfl rfl rfl rfl rfl (by decide) ?_
        refine l_off rfl rfl rfl rfl rfl rfl (by decide) ?_
        refine l_y (y_pickt rfl rfl rfl) rfl rfl (by decide) ?_
        refine l_y (y_move rfl rfl) rfl rfl (by decide) ?_
        refine l_off rfl rfl rfl rfl rfl rfl (by decide) ?_
        refine l_off rfl rfl rfl rfl rfl rfl (by decide) ?_
        refine l_off rfl rfl rfl rfl rfl rfl (by decide) ?_
        refine l_y (y_pickt rfl rfl rfl) rfl rfl (by decide) ?_
        refine l_nil ?_
        exact fun a W hA => ⟨k, true, H, (by omega), ⟨hA.fits.only ⟨rfl, rfl, trivial⟩, hA.ext⟩⟩
    clear H
    rintro a W ⟨kq, x8, H, hk, hA⟩
    refine here hA ?_
    clear hA a W
    cases kq with
    | zero => exact absurd H (by simp [swageref11_Right.j1])
    | succ k_j1 =>
      simp only [swageref11_Right.j1] at H
      by_cases c15 : x8 = true
      · rw [if_pos c15] at H
        refine s_lit (t := 19) rfl c15 ?_
        refine c_true rfl ?_
        refine c_seq ?_
        refine g_plain ?_
        refine l_y (y_assign rfl rfl) rfl rfl (by decide) ?_
        refine l_nil ?_
        refine x_next ?_
        refine c_ret ?_
        refine x_then rfl ?_
        obtain rfl := Option.some.inj H
        exact g_ret [.bool false] (congrArg Array.toList Tryd.results20) (.cons (.t rfl) .nil) (fun W E => ⟨rfl, E.drop (List.nil_sublist _)⟩)
      · rw [if_neg c15] at H
        refine s_lit (t := 19) rfl (Bool.eq_false_iff.2 c15) ?_
        refine c_false rfl ?_
        refine c_skip ?_
        refine x_next ?_
        refine c_seq ?_
        refine c_seq ?_
        refine g_plain ?_
        refine l_y (y_assign rfl rfl) rfl rfl (by decide) ?_
        refine l_nil ?_
        refine x_next ?_
        refine c_block ?_
        refine c_loop (fun kq a W => ∃ (x16 : Int), swageref11_Right.l0 kq x16 a0 = some r ∧ kq ≤ k_j1 ∧ At 35 [] [(1, .pointer (some ⟨β5, 0, none⟩)), (4, .int .i64 x16)] I [] w I [.cells β5 24 [.int .i64 a0.Kind, .int .i64 a0.Count, .slice A1 a0.Kids.length c2] 3] a W) k_j1 (fun a W hA => ⟨0, H, (Nat.le_refl _), ⟨hA.fits.only ⟨rfl, rfl, trivial⟩, hA.ext⟩⟩) ?_
        clear H
        rintro kq a W ⟨x16, H, hk, hA⟩
        refine here hA ?_
        clear hA a W
        cases kq with
        | zero => exact absurd H (by simp [swageref11_Right.l0])
        | succ k0 =>
          simp only [swageref11_Right.l0] at H
          refine c_seq ?_
          refine c_seq ?_
          refine g_plain ?_
          refine l_y (y_move rfl rfl) rfl rfl (by decide) ?_
          refine l_y (y_field (j' := 2) fa24_2 rfl rfl rfl) rfl rfl (by decide) ?_
          refine l_y (y_load is22 rfl rfl (cl_own (i := 0) (j := 2) rfl rfl)) rfl rfl (by decide) ?_
          refine l_y (y_len Tryd.underlying22 rfl rfl) rfl rfl (by decide) ?_
          refine l_y (y_bin rfl rfl rfl bi_lt) rfl rfl (by decide) ?_
          refine l_nil ?_
          refine x_next ?_
          by_cases c17 : x16 < (a0.Kids.length : Int)
          · rw [if_pos c17] at H
            refine s_lit (t := 24) rfl (decide_eq_true c17) ?_
            refine c_true rfl ?_
            refine c_skip ?_
            refine x_next ?_
            refine c_seq ?_
            refine c_block ?_
            refine c_seq ?_
            refine g_plain ?_
            refine l_y (y_field (j' := 2) fa24_2 rfl rfl rfl) rfl rfl (by decide) ?_
            refine l_y (y_load is22 rfl rfl (cl_own (i := 0) (j := 2) rfl rfl)) rfl rfl (by decide) ?_
            refine l_y (y_move rfl rfl) rfl rfl (by decide) ?_
            by_cases c18 : 0 ≤ x16 ∧ x16 < (a0.Kids.length : Int)
            rotate_left
            · rw [if_neg c18] at H; exact absurd H (by simp)
            rw [if_pos c18] at H
            obtain ⟨b19, o20, hA_, hE21⟩ := hr3.elem (by omega)
            obtain rfl := hA_
            obtain ⟨cs24, hR25, hC26⟩ := hE21 x16 c18.1 c18.2
            obtain ⟨A22, c23, rfl, hr27, chr27⟩ := hR25.open
            refine l_y (y_index sl22 rfl rfl rfl c18.1 c18.2) rfl rfl (by decide) ?_
            refine l_y (y_loadA (cs := [.int .i64 ((rd a0.Kids x16).Kind), .int .i64 ((rd a0.Kids x16).Count), .slice A22 (((rd a0.Kids x16).Kids).length) c23]) ia24 rfl rfl rfl hC26.cls) rfl rfl (by decide) ?_
            refine l_w rfl ?_
            obtain ⟨r28, hr28, H⟩ := Option.bind_eq_some_iff.1 H
            refine w_call (args := [.agg #[.int .i64 ((rd a0.Kids x16).Kind), .int .i64 ((rd a0.Kids x16).Count), .slice A22 (((rd a0.Kids x16).Kids).length) c23]]) (caps := []) has20 rfl rfl rfl rfl (by decide) (fun a W F E => ?_)
            refine ((ih k0 (by omega)) (rd a0.Kids x16) A22 c23 I W r28 hr27 (by first | assumption | simp | omega) (E.st.sub (List.nil_sublist _)) hr28).mono ?_
            rintro e W' ⟨rfl, X⟩
            refine ⟨_, rfl, here (At.mk (F.put (by decide) _) (E.call0 X)) ?_⟩
            clear X E F W W' a
            refine l_y (y_assign rfl rfl) rfl rfl (by decide) ?_
            refine l_nil ?_
            refine x_next ?_
            refine c_seq ?_
            refine g_plain ?_
            refine l_y (y_move rfl rfl) rfl rfl (by decide) ?_
            refine l_y (y_not rfl rfl) rfl rfl (by decide) ?_
            refine l_nil ?_
            refine x_next ?_
            by_cases c30 : r28 = true
            · rw [if_pos c30] at H
              refine s_lit (t := 34) rfl (not_f c30) ?_
              refine c_false rfl ?_
              refine c_skip ?_
              refine x_norm ?_
              refine x_next ?_
              refine g_plain ?_
              refine l_y (y_move rfl rfl) rfl rfl (by decide) ?_
              refine l_y (y_bin rfl rfl rfl bi_add) rfl rfl (by decide) ?_
              refine l_y (y_assign rfl rfl) rfl rfl (by decide) ?_
              refine l_nil ?_
              exact fun a W hA => ⟨k0, by omega, (IntKind.i64.wrap (x16 + 1)), H, (by omega), ⟨hA.fits.only ⟨rfl, rfl, trivial⟩, hA.ext⟩⟩
            · rw [if_neg c30] at H
              refine s_lit (t := 34) rfl (not_t (Bool.eq_false_iff.2 c30)) ?_
              refine c_true rfl ?_
              refine c_seq ?_
              refine g_plain ?_
              refine l_y (y_assign rfl rfl) rfl rfl (by decide) ?_
              refine l_nil ?_
              refine x_next ?_
              refine c_ret ?_
              refine x_ret ?_
              refine x_then rfl ?_
              refine x_then rfl ?_
              refine x_ret ?_
              refine x_then rfl ?_
              obtain rfl := Option.some.inj H
              exact g_ret [.bool false] (congrArg Array.toList Tryd.results20) (.cons (.t rfl) .nil) (fun W E => ⟨rfl, E.drop (List.nil_sublist _)⟩)
          · rw [if_neg c17] at H
            refine s_lit (t := 24) rfl (decide_eq_false c17) ?_
            refine c_false rfl ?_
            refine c_exit ?_
            refine x_then rfl ?_
            refine x_then rfl ?_
            refine x_in ?_
            refine x_next ?_
            refine c_seq ?_
            refine g_plain ?_
            refine l_y (y_assign rfl rfl) rfl rfl (by decide) ?_
            refine l_nil ?_
            refine x_next ?_
            refine c_ret ?_
            obtain rfl := Option.some.inj H
            exact g_ret [.bool true] (congrArg Array.toList Tryd.results20) (.cons (.t rfl) .nil) (fun W E => ⟨rfl, E.drop (List.nil_sublist _)⟩)
def swageref11_Size.f (k : Nat) (a0 : GType) : Option Int := ((swageref11_Right.f k a0).bind fun r6 => (if r6 = true then ((swageref11_cells.f k a0).bind fun r9 => (some r9)) else (some 0)))
def swageref11_Size.Post (I : Imm) (O : List Ent) (w : World) (r : Int) (e : Ending) (w' : World) : Prop := e = .returned (.int .i64 r) ∧ Ext I O w I O w'
set_option maxRecDepth 100000 in
set_option maxHeartbeats 1000000 in
theorem swageref11_Size.calls (k : Nat) : ∀ (a0 : GType) (A1 : Option Addr) (c2 : Nat) (I : Imm) (w : World) (r : Int) (hr3 : RowsG R_Type 3 40 I A1 a0.Kids) (hc4 : a0.Kids.length ≤ c2), St I [] w → swageref11_Size.f k a0 = some r →
  Calls Tryd.prog 22 #[.agg #[.int .i64 a0.Kind, .int .i64 a0.Count, .slice A1 a0.Kids.length c2]] w (swageref11_Size.Post I [] w r) := by
  intro a0 A1 c2 I w r hr3 hc4 hS H
  have nhr3 := hr3.len
  simp only [swageref11_Size.f] at H
  refine enter Tryd.func22 rfl Tryd.ntmps22 (Nat.le_of_ble_eq_true rfl) hS ?_
  refine c_seq ?_
  refine g_plain ?_
  refine l_w rfl ?_
  refine w_box (cs := [.int .i64 a0.Kind, .int .i64 a0.Count, .slice A1 a0.Kids.length c2]) (m := 3) rfl rfl rfl rfl rfl (by decide) (fun β5 => ?_)
  refine l_y (y_assign rfl rfl) rfl rfl (by decide) ?_
  refine l_nil ?_
  refine x_next ?_
  refine c_seq ?_
  refine g_plain ?_
  refine l_y (y_loadA (cs := [.int .i64 a0.Kind, .int .i64 a0.Count, .slice A1 a0.Kids.length c2]) ia24 rfl rfl rfl (cls_own (i := 0) rfl rfl)) rfl rfl (by decide) ?_
  refine l_w rfl ?_
  obtain ⟨r6, hr6, H⟩ := Option.bind_eq_some_iff.1 H
  refine w_call (args := [.agg #[.int .i64 a0.Kind, .int .i64 a0.Count, .slice A1 a0.Kids.length c2]]) (caps := []) has20 rfl rfl rfl rfl (by decide) (fun a W F E => ?_)
  refine (swageref11_Right.calls k a0 A1 c2 I W r6 hr3 (by first | assumption | simp | omega) (E.st.sub (List.nil_sublist _)) hr6).mono ?_
  rintro e W' ⟨rfl, X⟩
  refine ⟨_, rfl, here (At.mk (F.put (by decide) _) (E.call0 X)) ?_⟩
  clear X E F W W' a
  refine l_y (y_assign rfl rfl) rfl rfl (by decide) ?_
  refine l_nil ?_
  refine x_next ?_
  refine c_seq ?_
  refine c_seq ?_
  refine g_plain ?_
  refine l_y (y_move rfl rfl) rfl rfl (by decide) ?_
  refine l_y (y_not rfl rfl) rfl rfl (by decide) ?_
  refine l_nil ?_
  refine x_next ?_
  by_cases c8 : r6 = true
  · rw [if_pos c8] at H
    refine s_lit (t := 7) rfl (not_f c8) ?_
    refine c_false rfl ?_
    refine c_skip ?_
    refine x_next ?_
    refine c_seq ?_
    refine g_plain ?_
    refine l_y (y_loadA (cs := [.int .i64 a0.Kind, .int .i64 a0.Count, .slice A1 a0.Kids.length c2]) ia24 rfl rfl rfl (cls_own (i := 0) rfl rfl)) rfl rfl (by decide) ?_
    refine l_w rfl ?_
    obtain ⟨r9, hr9, H⟩ := Option.bind_eq_some_iff.1 H
    refine w_call (args := [.agg #[.int .i64 a0.Kind, .int .i64 a0.Count, .slice A1 a0.Kids.length c2]]) (caps := []) has64 rfl rfl rfl rfl (by decide) (fun a W F E => ?_)
    refine (swageref11_cells.calls k a0 A1 c2 I W r9 hr3 (by first | assumption | simp | omega) (E.st.sub (List.nil_sublist _)) hr9).mono ?_
    rintro e W' ⟨rfl, X⟩
    refine ⟨_, rfl, here (At.mk (F.put (by decide) _) (E.call0 X)) ?_⟩
    clear X E F W W' a
    refine l_y (y_assign rfl rfl) rfl rfl (by decide) ?_
    refine l_nil ?_
    refine x_next ?_
    refine c_ret ?_
    obtain rfl := Option.some.inj H
    exact g_ret [.int .i64 r9] (congrArg Array.toList Tryd.results22) (.cons (.t rfl) .nil) (fun W E => ⟨rfl, E.drop (List.nil_sublist _)⟩)
  · rw [if_neg c8] at H
    refine s_lit (t := 7) rfl (not_t (Bool.eq_false_iff.2 c8)) ?_
    refine c_true rfl ?_
    refine c_seq ?_
    refine g_plain ?_
    refine l_y (y_assign rfl rfl) rfl rfl (by decide) ?_
    refine l_nil ?_
    refine x_next ?_
    refine c_ret ?_
    refine x_then rfl ?_
    obtain rfl := Option.some.inj H
    exact g_ret [.int .i64 0] (congrArg Array.toList Tryd.results22) (.cons (.t rfl) .nil) (fun W E => ⟨rfl, E.drop (List.nil_sublist _)⟩)
mutual
def swageref11_Offset.l0 : Nat → Int → Int → GType → Int → Option (Int × Bool)
  | 0, _, _, _, _ => none
  | k + 1, x29, x30, a0, a1 => (if x30 < a1 then (if 0 ≤ x30 ∧ x30 < (a0.Kids.length : Int) then ((swageref11_cells.f k (rd a0.Kids x30)).bind fun r42 => (swageref11_Offset.l0 k (IntKind.i64.wrap (x29 + r42)) (IntKind.i64.wrap (x30 + 1)) a0 a1)) else none) else (some (x29, true)))
def swageref11_Offset.j4 : Nat → Bool → GType → Int → Option (Int × Bool)
  | 0, _, _, _ => none
  | k + 1, x26, a0, a1 => (if x26 = true then (some (0, false)) else (swageref11_Offset.l0 k 0 0 a0 a1))
def swageref11_Offset.j3 : Nat → Bool → GType → Int → Option (Int × Bool)
  | 0, _, _, _ => none
  | k + 1, x11, a0, a1 => (if x11 = true then (if 0 < (a0.Kids.length : Int) then ((swageref11_cells.f k (rd a0.Kids 0)).bind fun r24 => (some (IntKind.i64.wrap (a1 * r24), true))) else none) else (if a0.Kind = 4 then (swageref11_Offset.j4 k (decide ((a0.Kids.length : Int) ≤ a1)) a0 a1) else (swageref11_Offset.j4 k true a0 a1)))
def swageref11_Offset.j1 : Nat → Bool → GType → Int → Option (Int × Bool)
  | 0, _, _, _ => none
  | k + 1, x8, a0, a1 => (if x8 = true then (some (0, false)) else (if a0.Kind = 3 then (swageref11_Offset.j3 k (decide (a1 < a0.Count)) a0 a1) else (swageref11_Offset.j3 k false a0 a1)))
end
def swageref11_Offset.f (k : Nat) (a0 : GType) (a1 : Int) : Option (Int × Bool) := ((swageref11_Right.f k a0).bind fun r6 => (if r6 = true then (swageref11_Offset.j1 k (decide (a1 < 0)) a0 a1) else (swageref11_Offset.j1 k true a0 a1)))
def swageref11_Offset.Post (I : Imm) (O : List Ent) (w : World) (r : (Int × Bool)) (e : Ending) (w' : World) : Prop := e = .returned (.tuple #[.int .i64 r.1, .bool r.2]) ∧ Ext I O w I O w'
set_option maxRecDepth 100000 in
set_option maxHeartbeats 1000000 in
theorem swageref11_Offset.calls (k : Nat) : ∀ (a0 : GType) (a1 : Int) (A1 : Option Addr) (c2 : Nat) (I : Imm) (w : World) (r : (Int × Bool)) (hr3 : RowsG R_Type 3 40 I A1 a0.Kids) (hc4 : a0.Kids.length ≤ c2), St I [] w → swageref11_Offset.f k a0 a1 = some r →
  Calls Tryd.prog 18 #[.agg #[.int .i64 a0.Kind, .int .i64 a0.Count, .slice A1 a0.Kids.length c2], .int .i64 a1] w (swageref11_Offset.Post I [] w r) := by
  intro a0 a1 A1 c2 I w r hr3 hc4 hS H
  have nhr3 := hr3.len
  simp only [swageref11_Offset.f] at H
  refine enter Tryd.func18 rfl Tryd.ntmps18 (Nat.le_of_ble_eq_true rfl) hS ?_
  refine c_seq ?_
  refine g_plain ?_
  refine l_w rfl ?_
  refine w_box (cs := [.int .i64 a0.Kind, .int .i64 a0.Count, .slice A1 a0.Kids.length c2]) (m := 3) rfl rfl rfl rfl rfl (by decide) (fun β5 => ?_)
  refine l_y (y_assign rfl rfl) rfl rfl (by decide) ?_
  refine l_y (y_assign rfl rfl) rfl rfl (by decide) ?_
  refine l_nil ?_
  refine x_next ?_
  refine c_seq ?_
  refine g_plain ?_
  refine l_y (y_loadA (cs := [.int .i64 a0.Kind, .int .i64 a0.Count, .slice A1 a0.Kids.length c2]) ia24 rfl rfl rfl (cls_own (i := 0) rfl rfl)) rfl rfl (by decide) ?_
  refine l_w rfl ?_
  obtain ⟨r6, hr6, H⟩ := Option.bind_eq_some_iff.1 H
  refine w_call (args := [.agg #[.int .i64 a0.Kind, .int .i64 a0.Count, .slice A1 a0.Kids.length c2]]) (caps := []) has20 rfl rfl rfl rfl (by decide) (fun a W F E => ?_)
  refine (swageref11_Right.calls k a0 A1 c2 I W r6 hr3 (by first | assumption | simp | omega) (E.st.sub (List.nil_sublist _)) hr6).mono ?_
  rintro e W' ⟨rfl, X⟩
  refine ⟨_, rfl, here (At.mk (F.put (by decide) _) (E.call0 X)) ?_⟩
  clear X E F W W' a
  refine l_y (y_assign rfl rfl) rfl rfl (by decide) ?_
  refine l_nil ?_
  refine x_next ?_
  refine c_seq ?_
  refine c_join (fun a W => ∃ (kq : Nat) (x8 : Bool), swageref11_Offset.j1 kq x8 a0 a1 = some r ∧ kq ≤ k ∧ At 57 [] [(1, .int .i64 a1), (2, .pointer (some ⟨β5, 0, none⟩)), (16, .bool x8)] I [] w I [.cells β5 24 [.int .i64 a0.Kind, .int .i64 a0.Count, .slice A1 a0.Kids.length c2] 3] a W) ?_ ?_
  · skip
    refine g_plain ?_
    refine l_y (y_move rfl rfl) rfl rfl (by decide) ?_
    refine l_y (y_not rfl rfl) rfl rfl (by decide) ?_
    refine l_y (y_move rfl rfl) rfl rfl (by decide) ?_
    by_cases c9 : r6 = true
    · rw [if_pos c9] at H
      refine s_lit (t := 13) rfl (not_f c9) ?_
      refine l_yg (y_move rfl rfl) rfl rfl rfl rfl rfl (by decide) ?_
      refine l_yg (y_bin rfl rfl rfl bi_lt) rfl rfl rfl rfl rfl (by decide) ?_
      refine l_y (y_pickf rfl rfl rfl) rfl rfl (by decide) ?_
      refine l_nil ?_
      exact fun a W hA => ⟨k, (decide (a1 < 0)), H, (by omega), ⟨hA.fits.only ⟨rfl, rfl, rfl, trivial⟩, hA.ext⟩⟩
    · rw [if_neg c9] at H
      refine s_lit (t := 13) rfl (not_t (Bool.eq_false_iff.2 c9)) ?_
      refine l_off rfl rfl rfl rfl rfl rfl (by decide) ?_
      refine l_off rfl rfl rfl rfl rfl rfl (by decide) ?_
      refine l_y (y_pickt rfl rfl rfl) rfl rfl (by decide) ?_
      refine l_nil ?_
      exact fun a W hA => ⟨k, true, H, (by omega), ⟨hA.fits.only ⟨rfl, rfl, rfl, trivial⟩, hA.ext⟩⟩
  clear H
  rintro a W ⟨kq, x8, H, hk, hA⟩
  refine here hA ?_
  clear hA a W
  cases kq with
  | zero => exact absurd H (by simp [swageref11_Offset.j1])
  | succ k_j1 =>
    simp only [swageref11_Offset.j1] at H
    by_cases c10 : x8 = true
    · rw [if_pos c10] at H
      refine s_lit (t := 16) rfl c10 ?_
      refine c_true rfl ?_
      refine c_seq ?_
      refine g_plain ?_
      refine l_y (y_assign rfl rfl) rfl rfl (by decide) ?_
      refine l_y (y_assign rfl rfl) rfl rfl (by decide) ?_
      refine l_nil ?_
      refine x_next ?_
      refine c_ret ?_
      refine x_then rfl ?_
      obtain rfl := Option.some.inj H
      exact g_ret [.int .i64 0, .bool false] (congrArg Array.toList Tryd.results18) (.cons (.t rfl) (.cons (.t rfl) .nil)) (fun W E => ⟨rfl, E.drop (List.nil_sublist _)⟩)
    · rw [if_neg c10] at H
      refine s_lit (t := 16) rfl (Bool.eq_false_iff.2 c10) ?_
      refine c_false rfl ?_
      refine c_skip ?_
      refine x_next ?_
      refine c_seq ?_
      refine c_join (fun a W => ∃ (kq : Nat) (x11 : Bool), swageref11_Offset.j3 kq x11 a0 a1 = some r ∧ kq ≤ k_j1 ∧ At 57 [] [(1, .int .i64 a1), (2, .pointer (some ⟨β5, 0, none⟩)), (25, .bool x11)] I [] w I [.cells β5 24 [.int .i64 a0.Kind, .int .i64 a0.Count, .slice A1 a0.Kids.length c2] 3] a W) ?_ ?_
      · skip
        refine g_plain ?_
        refine l_y (y_field (j' := 0) fa24_0 rfl rfl rfl) rfl rfl (by decide) ?_
        refine l_y (y_load is3 rfl rfl (cl_own (i := 0) (j := 0) rfl rfl)) rfl rfl (by decide) ?_
        refine l_y (y_bin rfl rfl rfl bi_eq) rfl rfl (by decide) ?_
        refine l_y (y_move rfl rfl) rfl rfl (by decide) ?_
        by_cases c12 : a0.Kind = 3
        · rw [if_pos c12] at H
          refine s_lit (t := 20) rfl (decide_eq_true c12) ?_
          refine l_yg (y_move rfl rfl) rfl rfl rfl rfl rfl (by decide) ?_
          refine l_yg (y_field (j' := 1) fa24_1 rfl rfl rfl) rfl rfl rfl rfl rfl (by decide) ?_
          refine l_yg (y_load is3 rfl rfl (cl_own (i := 0) (j := 1) rfl rfl)) rfl rfl rfl rfl rfl (by decide) ?_
          refine l_yg (y_bin rfl rfl rfl bi_lt) rfl rfl rfl rfl rfl (by decide) ?_
          refine l_y (y_pickt rfl rfl rfl) rfl rfl (by decide) ?_
          refine l_nil ?_
          exact fun a W hA => ⟨k_j1, (decide (a1 < a0.Count)), H, (by omega), ⟨hA.fits.only ⟨rfl, rfl, rfl, trivial⟩, hA.ext⟩⟩
        · rw [if_neg c12] at H
          refine s_lit (t := 20) rfl (decide_eq_false c12) ?_
          refine l_off rfl rfl rfl rfl rfl rfl (by decide) ?_
          refine l_off rfl rfl rfl rfl rfl rfl (by decide) ?_
          refine l_off rfl rfl rfl rfl rfl rfl (by decide) ?_
          refine l_off rfl rfl rfl rfl rfl rfl (by decide) ?_
          refine l_y (y_pickf rfl rfl rfl) rfl rfl (by decide) ?_
          refine l_nil ?_
          exact fun a W hA => ⟨k_j1, false, H, (by omega), ⟨hA.fits.only ⟨rfl, rfl, rfl, trivial⟩, hA.ext⟩⟩
      clear H
      rintro a W ⟨kq, x11, H, hk, hA⟩
      refine here hA ?_
      clear hA a W
      cases kq with
      | zero => exact absurd H (by simp [swageref11_Offset.j3])
      | succ k_j3 =>
        simp only [swageref11_Offset.j3] at H
        by_cases c13 : x11 = true
        · rw [if_pos c13] at H
          refine s_lit (t := 25) rfl c13 ?_
          refine c_true rfl ?_
          refine c_seq ?_
          refine g_plain ?_
          refine l_y (y_move rfl rfl) rfl rfl (by decide) ?_
          refine l_y (y_field (j' := 2) fa24_2 rfl rfl rfl) rfl rfl (by decide) ?_
          refine l_y (y_load is22 rfl rfl (cl_own (i := 0) (j := 2) rfl rfl)) rfl rfl (by decide) ?_
          by_cases c14 : 0 < (a0.Kids.length : Int)
          rotate_left
          · rw [if_neg c14] at H; exact absurd H (by simp)
          rw [if_pos c14] at H
          obtain ⟨b15, o16, hA_, hE17⟩ := hr3.elem (by omega)
          obtain rfl := hA_
          obtain ⟨cs20, hR21, hC22⟩ := hE17 0 (by decide) c14
          obtain ⟨A18, c19, rfl, hr23, chr23⟩ := hR21.open
          refine l_y (y_index sl22 rfl rfl rfl (by decide) c14) rfl rfl (by decide) ?_
          refine l_y (y_loadA (cs := [.int .i64 ((rd a0.Kids 0).Kind), .int .i64 ((rd a0.Kids 0).Count), .slice A18 (((rd a0.Kids 0).Kids).length) c19]) ia24 rfl rfl rfl hC22.cls) rfl rfl (by decide) ?_
          refine l_w rfl ?_
          obtain ⟨r24, hr24, H⟩ := Option.bind_eq_some_iff.1 H
          refine w_call (args := [.agg #[.int .i64 ((rd a0.Kids 0).Kind), .int .i64 ((rd a0.Kids 0).Count), .slice A18 (((rd a0.Kids 0).Kids).length) c19]]) (caps := []) has64 rfl rfl rfl rfl (by decide) (fun a W F E => ?_)
          refine (swageref11_cells.calls k_j3 (rd a0.Kids 0) A18 c19 I W r24 hr23 (by first | assumption | simp | omega) (E.st.sub (List.nil_sublist _)) hr24).mono ?_
          rintro e W' ⟨rfl, X⟩
          refine ⟨_, rfl, here (At.mk (F.put (by decide) _) (E.call0 X)) ?_⟩
          clear X E F W W' a
          refine l_y (y_bin rfl rfl rfl bi_mul) rfl rfl (by decide) ?_
          refine l_y (y_assign rfl rfl) rfl rfl (by decide) ?_
          refine l_y (y_assign rfl rfl) rfl rfl (by decide) ?_
          refine l_nil ?_
          refine x_next ?_
          refine c_ret ?_
          refine x_then rfl ?_
          obtain rfl := Option.some.inj H
          exact g_ret [.int .i64 (IntKind.i64.wrap (a1 * r24)), .bool true] (congrArg Array.toList Tryd.results18) (.cons (.t rfl) (.cons (.t rfl) .nil)) (fun W E => ⟨rfl, E.drop (List.nil_sublist _)⟩)
        · rw [if_neg c13] at H
          refine s_lit (t := 25) rfl (Bool.eq_false_iff.2 c13) ?_
          refine c_false rfl ?_
          refine c_skip ?_
          refine x_next ?_
          refine c_seq ?_
          refine c_join (fun a W => ∃ (kq : Nat) (x26 : Bool), swageref11_Offset.j4 kq x26 a0 a1 = some r ∧ kq ≤ k_j3 ∧ At 57 [] [(1, .int .i64 a1), (2, .pointer (some ⟨β5, 0, none⟩)), (42, .bool x26)] I [] w I [.cells β5 24 [.int .i64 a0.Kind, .int .i64 a0.Count, .slice A1 a0.Kids.length c2] 3] a W) ?_ ?_
          · skip
            refine g_plain ?_
            refine l_y (y_field (j' := 0) fa24_0 rfl rfl rfl) rfl rfl (by decide) ?_
            refine l_y (y_load is3 rfl rfl (cl_own (i := 0) (j := 0) rfl rfl)) rfl rfl (by decide) ?_
            refine l_y (y_bin rfl rfl rfl bi_ne) rfl rfl (by decide) ?_
            refine l_y (y_move rfl rfl) rfl rfl (by decide) ?_
            by_cases c27 : a0.Kind = 4
            · rw [if_pos c27] at H
              refine s_lit (t := 36) rfl (not_f (decide_eq_true c27)) ?_
              refine l_yg (y_move rfl rfl) rfl rfl rfl rfl rfl (by decide) ?_
              refine l_yg (y_field (j' := 2) fa24_2 rfl rfl rfl) rfl rfl rfl rfl rfl (by decide) ?_
              refine l_yg (y_load is22 rfl rfl (cl_own (i := 0) (j := 2) rfl rfl)) rfl rfl rfl rfl rfl (by decide) ?_
              refine l_yg (y_len Tryd.underlying22 rfl rfl) rfl rfl rfl rfl rfl (by decide) ?_
              refine l_yg (y_bin rfl rfl rfl bi_ge) rfl rfl rfl rfl rfl (by decide) ?_
              refine l_y (y_pickf rfl rfl rfl) rfl rfl (by decide) ?_
              refine l_nil ?_
              exact fun a W hA => ⟨k_j3, (decide ((a0.Kids.length : Int) ≤ a1)), H, (by omega), ⟨hA.fits.only ⟨rfl, rfl, rfl, trivial⟩, hA.ext⟩⟩
            · rw [if_neg c27] at H
              refine s_lit (t := 36) rfl (not_t (decide_eq_false c27)) ?_
              refine l_off rfl rfl rfl rfl rfl rfl (by decide) ?_
              refine l_off rfl rfl rfl rfl rfl rfl (by decide) ?_
              refine l_off rfl rfl rfl rfl rfl rfl (by decide) ?_
              refine l_off rfl rfl rfl rfl rfl rfl (by decide) ?_
              refine l_off rfl rfl rfl rfl rfl rfl (by decide) ?_
              refine l_y (y_pickt rfl rfl rfl) rfl rfl (by decide) ?_
              refine l_nil ?_
              exact fun a W hA => ⟨k_j3, true, H, (by omega), ⟨hA.fits.only ⟨rfl, rfl, rfl, trivial⟩, hA.ext⟩⟩
          clear H
          rintro a W ⟨kq, x26, H, hk, hA⟩
          refine here hA ?_
          clear hA a W
          cases kq with
          | zero => exact absurd H (by simp [swageref11_Offset.j4])
          | succ k_j4 =>
            simp only [swageref11_Offset.j4] at H
            by_cases c28 : x26 = true
            · rw [if_pos c28] at H
              refine s_lit (t := 42) rfl c28 ?_
              refine c_true rfl ?_
              refine c_seq ?_
              refine g_plain ?_
              refine l_y (y_assign rfl rfl) rfl rfl (by decide) ?_
              refine l_y (y_assign rfl rfl) rfl rfl (by decide) ?_
              refine l_nil ?_
              refine x_next ?_
              refine c_ret ?_
              refine x_then rfl ?_
              obtain rfl := Option.some.inj H
              exact g_ret [.int .i64 0, .bool false] (congrArg Array.toList Tryd.results18) (.cons (.t rfl) (.cons (.t rfl) .nil)) (fun W E => ⟨rfl, E.drop (List.nil_sublist _)⟩)
            · rw [if_neg c28] at H
              refine s_lit (t := 42) rfl (Bool.eq_false_iff.2 c28) ?_
              refine c_false rfl ?_
              refine c_skip ?_
              refine x_next ?_
              refine c_seq ?_
              refine g_plain ?_
              refine l_y (y_assign rfl rfl) rfl rfl (by decide) ?_
              refine l_nil ?_
              refine x_next ?_
              refine c_seq ?_
              refine c_seq ?_
              refine g_plain ?_
              refine l_y (y_assign rfl rfl) rfl rfl (by decide) ?_
              refine l_nil ?_
              refine x_next ?_
              refine c_block ?_
              refine c_loop (fun kq a W => ∃ (x29 : Int) (x30 : Int), swageref11_Offset.l0 kq x29 x30 a0 a1 = some r ∧ kq ≤ k_j4 ∧ At 57 [] [(1, .int .i64 a1), (2, .pointer (some ⟨β5, 0, none⟩)), (7, .int .i64 x29), (8, .int .i64 x30)] I [] w I [.cells β5 24 [.int .i64 a0.Kind, .int .i64 a0.Count, .slice A1 a0.Kids.length c2] 3] a W) k_j4 (fun a W hA => ⟨0, 0, H, (Nat.le_refl _), ⟨hA.fits.only ⟨rfl, rfl, rfl, rfl, trivial⟩, hA.ext⟩⟩) ?_
              clear H
              rintro kq a W ⟨x29, x30, H, hk, hA⟩
              refine here hA ?_
              clear hA a W
              cases kq with
              | zero => exact absurd H (by simp [swageref11_Offset.l0])
              | succ k0 =>
                simp only [swageref11_Offset.l0] at H
                refine c_seq ?_
                refine c_seq ?_
                refine g_plain ?_
                refine l_y (y_move rfl rfl) rfl rfl (by decide) ?_
                refine l_y (y_move rfl rfl) rfl rfl (by decide) ?_
                refine l_y (y_bin rfl rfl rfl bi_lt) rfl rfl (by decide) ?_
                refine l_nil ?_
                refine x_next ?_
                by_cases c31 : x30 < a1
                · rw [if_pos c31] at H
                  refine s_lit (t := 45) rfl (decide_eq_true c31) ?_
                  refine c_true rfl ?_
                  refine c_skip ?_
                  refine x_next ?_
                  refine c_seq ?_
                  refine c_block ?_
                  refine g_plain ?_
                  refine l_y (y_move rfl rfl) rfl rfl (by decide) ?_
                  refine l_y (y_field (j' := 2) fa24_2 rfl rfl rfl) rfl rfl (by decide) ?_
                  refine l_y (y_load is22 rfl rfl (cl_own (i := 0) (j := 2) rfl rfl)) rfl rfl (by decide) ?_
                  refine l_y (y_move rfl rfl) rfl rfl (by decide) ?_
                  by_cases c32 : 0 ≤ x30 ∧ x30 < (a0.Kids.length : Int)
                  rotate_left
                  · rw [if_neg c32] at H; exact absurd H (by simp)
                  rw [if_pos c32] at H
                  obtain ⟨b33, o34, hA_, hE35⟩ := hr3.elem (by omega)
                  obtain rfl := hA_
                  obtain ⟨cs38, hR39, hC40⟩ := hE35 x30 c32.1 c32.2
                  obtain ⟨A36, c37, rfl, hr41, chr41⟩ := hR39.open
                  refine l_y (y_index sl22 rfl rfl rfl c32.1 c32.2) rfl rfl (by decide) ?_
                  refine l_y (y_loadA (cs := [.int .i64 ((rd a0.Kids x30).Kind), .int .i64 ((rd a0.Kids x30).Count), .slice A36 (((rd a0.Kids x30).Kids).length) c37]) ia24 rfl rfl rfl hC40.cls) rfl rfl (by decide) ?_
                  refine l_w rfl ?_
                  obtain ⟨r42, hr42, H⟩ := Option.bind_eq_some_iff.1 H
                  refine w_call (args := [.agg #[.int .i64 ((rd a0.Kids x30).Kind), .int .i64 ((rd a0.Kids x30).Count), .slice A36 (((rd a0.Kids x30).Kids).length) c37]]) (caps := []) has64 rfl rfl rfl rfl (by decide) (fun a W F E => ?_)
                  refine (swageref11_cells.calls k0 (rd a0.Kids x30) A36 c37 I W r42 hr41 (by first | assumption | simp | omega) (E.st.sub (List.nil_sublist _)) hr42).mono ?_
                  rintro e W' ⟨rfl, X⟩
                  refine ⟨_, rfl, here (At.mk (F.put (by decide) _) (E.call0 X)) ?_⟩
                  clear X E F W W' a
                  refine l_y (y_bin rfl rfl rfl bi_add) rfl rfl (by decide) ?_
                  refine l_y (y_assign rfl rfl) rfl rfl (by decide) ?_
                  refine l_nil ?_
                  refine x_norm ?_
                  refine x_next ?_
                  refine g_plain ?_
                  refine l_y (y_move rfl rfl) rfl rfl (by decide) ?_
                  refine l_y (y_bin rfl rfl rfl bi_add) rfl rfl (by decide) ?_
                  refine l_y (y_assign rfl rfl) rfl rfl (by decide) ?_
                  refine l_nil ?_
                  exact fun a W hA => ⟨k0, by omega, (IntKind.i64.wrap (x29 + r42)), (IntKind.i64.wrap (x30 + 1)), H, (by omega), ⟨hA.fits.only ⟨rfl, rfl, rfl, rfl, trivial⟩, hA.ext⟩⟩
                · rw [if_neg c31] at H
                  refine s_lit (t := 45) rfl (decide_eq_false c31) ?_
                  refine c_false rfl ?_
                  refine c_exit ?_
                  refine x_then rfl ?_
                  refine x_then rfl ?_
                  refine x_in ?_
                  refine x_next ?_
                  refine c_seq ?_
                  refine g_plain ?_
                  refine l_y (y_move rfl rfl) rfl rfl (by decide) ?_
                  refine l_y (y_assign rfl rfl) rfl rfl (by decide) ?_
                  refine l_y (y_assign rfl rfl) rfl rfl (by decide) ?_
                  refine l_nil ?_
                  refine x_next ?_
                  refine c_ret ?_
                  obtain rfl := Option.some.inj H
                  exact g_ret [.int .i64 x29, .bool true] (congrArg Array.toList Tryd.results18) (.cons (.t rfl) (.cons (.t rfl) .nil)) (fun W E => ⟨rfl, E.drop (List.nil_sublist _)⟩)
mutual
def swageref11_Same.l0 : Nat → Int → GType → GType → Option Bool
  | 0, _, _, _ => none
  | k + 1, x15, a0, a1 => (if x15 < (a0.Kids.length : Int) then (if 0 ≤ x15 ∧ x15 < (a0.Kids.length : Int) then (if 0 ≤ x15 ∧ x15 < (a1.Kids.length : Int) then ((swageref11_Same.f k (rd a0.Kids x15) (rd a1.Kids x15)).bind fun r37 => (if r37 = true then (swageref11_Same.l0 k (IntKind.i64.wrap (x15 + 1)) a0 a1) else (some false))) else none) else none) else (some true))
def swageref11_Same.j1 : Nat → Bool → GType → GType → Option Bool
  | 0, _, _, _ => none
  | k + 1, x11, a0, a1 => (if x11 = true then (some false) else (swageref11_Same.l0 k 0 a0 a1))
def swageref11_Same.f : Nat → GType → GType → Option Bool
  | 0, _, _ => none
  | k + 1, a0, a1 => (if a0.Kind = a1.Kind then (if a0.Count = a1.Count then (swageref11_Same.j1 k (!(decide ((a0.Kids.length : Int) = (a1.Kids.length : Int)))) a0 a1) else (swageref11_Same.j1 k true a0 a1)) else (swageref11_Same.j1 k true a0 a1))
end
def swageref11_Same.Post (I : Imm) (O : List Ent) (w : World) (r : Bool) (e : Ending) (w' : World) : Prop := e = .returned (.bool r) ∧ Ext I O w I O w'
set_option maxRecDepth 100000 in
set_option maxHeartbeats 1000000 in
theorem swageref11_Same.calls (k : Nat) : ∀ (a0 : GType) (a1 : GType) (A1 : Option Addr) (c2 : Nat) (A5 : Option Addr) (c6 : Nat) (I : Imm) (w : World) (r : Bool) (hr3 : RowsG R_Type 3 40 I A1 a0.Kids) (hc4 : a0.Kids.length ≤ c2) (hr7 : RowsG R_Type 3 40 I A5 a1.Kids) (hc8 : a1.Kids.length ≤ c6), St I [] w → swageref11_Same.f k a0 a1 = some r →
  Calls Tryd.prog 16 #[.agg #[.int .i64 a0.Kind, .int .i64 a0.Count, .slice A1 a0.Kids.length c2], .agg #[.int .i64 a1.Kind, .int .i64 a1.Count, .slice A5 a1.Kids.length c6]] w (swageref11_Same.Post I [] w r) := by
  induction k using Nat.strongRecOn with
  | _ k ih =>
  intro a0 a1 A1 c2 A5 c6 I w r hr3 hc4 hr7 hc8 hS H
  have nhr3 := hr3.len
  have nhr7 := hr7.len
  cases k with
  | zero => exact absurd H (by simp [swageref11_Same.f])
  | succ k =>
    simp only [swageref11_Same.f] at H
    refine enter Tryd.func16 rfl Tryd.ntmps16 (Nat.le_of_ble_eq_true rfl) hS ?_
    refine c_seq ?_
    refine g_plain ?_
    refine l_w rfl ?_
    refine w_box (cs := [.int .i64 a0.Kind, .int .i64 a0.Count, .slice A1 a0.Kids.length c2]) (m := 3) rfl rfl rfl rfl rfl (by decide) (fun β9 => ?_)
    refine l_w rfl ?_
    refine w_box (cs := [.int .i64 a1.Kind, .int .i64 a1.Count, .slice A5 a1.Kids.length c6]) (m := 3) rfl rfl rfl rfl rfl (by decide) (fun β10 => ?_)
    refine l_y (y_assign rfl rfl) rfl rfl (by decide) ?_
    refine l_nil ?_
    refine x_next ?_
    refine c_seq ?_
    refine c_join (fun a W => ∃ (kq : Nat) (x11 : Bool), swageref11_Same.j1 kq x11 a0 a1 = some r ∧ kq ≤ k ∧ At 48 [] [(2, .pointer (some ⟨β9, 0, none⟩)), (3, .pointer (some ⟨β10, 0, none⟩)), (27, .bool x11)] I [] w I [.cells β10 24 [.int .i64 a1.Kind, .int .i64 a1.Count, .slice A5 a1.Kids.length c6] 3, .cells β9 24 [.int .i64 a0.Kind, .int .i64 a0.Count, .slice A1 a0.Kids.length c2] 3] a W) ?_ ?_
    · skip
      refine g_plain ?_
      refine l_y (y_field (j' := 0) fa24_0 rfl rfl rfl) rfl rfl (by decide) ?_
      refine l_y (y_load is3 rfl rfl (cl_own (i := 1) (j := 0) rfl rfl)) rfl rfl (by decide) ?_
      refine l_y (y_field (j' := 0) fa24_0 rfl rfl rfl) rfl rfl (by decide) ?_
      refine l_y (y_load is3 rfl rfl (cl_own (i := 0) (j := 0) rfl rfl)) rfl rfl (by decide) ?_
      refine l_y (y_bin rfl rfl rfl bi_ne) rfl rfl (by decide) ?_
      refine l_y (y_move rfl rfl) rfl rfl (by decide) ?_
      by_cases c12 : a0.Kind = a1.Kind
      · rw [if_pos c12] at H
        refine s_lit (t := 12) rfl (not_f (decide_eq_true c12)) ?_
        refine l_yg (y_field (j' := 1) fa24_1 rfl rfl rfl) rfl rfl rfl rfl rfl (by decide) ?_
        refine l_yg (y_load is3 rfl rfl (cl_own (i := 1) (j := 1) rfl rfl)) rfl rfl rfl rfl rfl (by decide) ?_
        refine l_yg (y_field (j' := 1) fa24_1 rfl rfl rfl) rfl rfl rfl rfl rfl (by decide) ?_
        refine l_yg (y_load is3 rfl rfl (cl_own (i := 0) (j := 1) rfl rfl)) rfl rfl rfl rfl rfl (by decide) ?_
        refine l_yg (y_bin rfl rfl rfl bi_ne) rfl rfl rfl rfl rfl (by decide) ?_
        refine l_y (y_pickf rfl rfl rfl) rfl rfl (by decide) ?_
        refine l_y (y_move rfl rfl) rfl rfl (by decide) ?_
        by_cases c13 : a0.Count = a1.Count
        · rw [if_pos c13] at H
          refine s_lit (t := 19) rfl (not_f (decide_eq_true c13)) ?_
          refine l_yg (y_field (j' := 2) fa24_2 rfl rfl rfl) rfl rfl rfl rfl rfl (by decide) ?_
          refine l_yg (y_load is22 rfl rfl (cl_own (i := 1) (j := 2) rfl rfl)) rfl rfl rfl rfl rfl (by decide) ?_
          refine l_yg (y_len Tryd.underlying22 rfl rfl) rfl rfl rfl rfl rfl (by decide) ?_
          refine l_yg (y_field (j' := 2) fa24_2 rfl rfl rfl) rfl rfl rfl rfl rfl (by decide) ?_
          refine l_yg (y_load is22 rfl rfl (cl_own (i := 0) (j := 2) rfl rfl)) rfl rfl rfl rfl rfl (by decide) ?_
          refine l_yg (y_len Tryd.underlying22 rfl rfl) rfl rfl rfl rfl rfl (by decide) ?_
          refine l_yg (y_bin rfl rfl rfl bi_ne) rfl rfl rfl rfl rfl (by decide) ?_
          refine l_y (y_pickf rfl rfl rfl) rfl rfl (by decide) ?_
          refine l_nil ?_
          refine s_perm pf1 ?_
          refine s_perm pf1 ?_
          exact fun a W hA => ⟨k, (!(decide ((a0.Kids.length : Int) = (a1.Kids.length : Int)))), H, (by omega), ⟨hA.fits.only ⟨rfl, rfl, rfl, trivial⟩, hA.ext⟩⟩
        · rw [if_neg c13] at H
          refine s_lit (t := 19) rfl (not_t (decide_eq_false c13)) ?_
          refine l_off rfl rfl rfl rfl rfl rfl (by decide) ?_
          refine l_off rfl rfl rfl rfl rfl rfl (by decide) ?_
          refine l_off rfl rfl rfl rfl rfl rfl (by decide) ?_
          refine l_off rfl rfl rfl rfl rfl rfl (by decide) ?_
          refine l_off rfl rfl rfl rfl rfl rfl (by decide) ?_
          refine l_off rfl rfl rfl rfl rfl rfl (by decide) ?_
          refine l_off rfl rfl rfl rfl rfl rfl (by decide) ?_
          refine l_y (y_pickt rfl rfl rfl) rfl rfl (by decide) ?_
          refine l_nil ?_
          refine s_perm pf1 ?_
          refine s_perm pf1 ?_
          exact fun a W hA => ⟨k, true, H, (by omega), ⟨hA.fits.only ⟨rfl, rfl, rfl, trivial⟩, hA.ext⟩⟩
      · rw [if_neg c12] at H
        refine s_lit (t := 12) rfl (not_t (decide_eq_false c12)) ?_
        refine l_off rfl rfl rfl rfl rfl rfl (by decide) ?_
        refine l_off rfl rfl rfl rfl rfl rfl (by decide) ?_
        refine l_off rfl rfl rfl rfl rfl rfl (by decide) ?_
        refine l_off rfl rfl rfl rfl rfl rfl (by decide) ?_
        refine l_off rfl rfl rfl rfl rfl rfl (by decide) ?_
        refine l_y (y_pickt rfl rfl rfl) rfl rfl (by decide) ?_
        refine l_y (y_move rfl rfl) rfl rfl (by decide) ?_
        refine l_off rfl rfl rfl rfl rfl rfl (by decide) ?_
        refine l_off rfl rfl rfl rfl rfl rfl (by decide) ?_
        refine l_off rfl rfl rfl rfl rfl rfl (by decide) ?_
        refine l_off rfl rfl rfl rfl rfl rfl (by decide) ?_
        refine l_off rfl rfl rfl rfl rfl rfl (by decide) ?_
        refine l_off rfl rfl rfl rfl rfl rfl (by decide) ?_
        refine l_off rfl rfl rfl rfl rfl rfl (by decide) ?_
        refine l_y (y_pickt rfl rfl rfl) rfl rfl (by decide) ?_
        refine l_nil ?_
        refine s_perm pf1 ?_
        refine s_perm pf1 ?_
        exact fun a W hA => ⟨k, true, H, (by omega), ⟨hA.fits.only ⟨rfl, rfl, rfl, trivial⟩, hA.ext⟩⟩
    clear H
    rintro a W ⟨kq, x11, H, hk, hA⟩
    refine here hA ?_
    clear hA a W
    cases kq with
    | zero => exact absurd H (by simp [swageref11_Same.j1])
    | succ k_j1 =>
      simp only [swageref11_Same.j1] at H
      by_cases c14 : x11 = true
      · rw [if_pos c14] at H
        refine s_lit (t := 27) rfl c14 ?_
        refine c_true rfl ?_
        refine c_seq ?_
        refine g_plain ?_
        refine l_y (y_assign rfl rfl) rfl rfl (by decide) ?_
        refine l_nil ?_
        refine x_next ?_
        refine c_ret ?_
        refine x_then rfl ?_
        obtain rfl := Option.some.inj H
        exact g_ret [.bool false] (congrArg Array.toList Tryd.results16) (.cons (.t rfl) .nil) (fun W E => ⟨rfl, E.drop (List.nil_sublist _)⟩)
      · rw [if_neg c14] at H
        refine s_lit (t := 27) rfl (Bool.eq_false_iff.2 c14) ?_
        refine c_false rfl ?_
        refine c_skip ?_
        refine x_next ?_
        refine c_seq ?_
        refine c_seq ?_
        refine g_plain ?_
        refine l_y (y_assign rfl rfl) rfl rfl (by decide) ?_
        refine l_nil ?_
        refine x_next ?_
        refine c_block ?_
        refine s_perm pf1 ?_
        refine s_perm pf1 ?_
        refine c_loop (fun kq a W => ∃ (x15 : Int), swageref11_Same.l0 kq x15 a0 a1 = some r ∧ kq ≤ k_j1 ∧ At 48 [] [(2, .pointer (some ⟨β9, 0, none⟩)), (3, .pointer (some ⟨β10, 0, none⟩)), (5, .int .i64 x15)] I [] w I [.cells β10 24 [.int .i64 a1.Kind, .int .i64 a1.Count, .slice A5 a1.Kids.length c6] 3, .cells β9 24 [.int .i64 a0.Kind, .int .i64 a0.Count, .slice A1 a0.Kids.length c2] 3] a W) k_j1 (fun a W hA => ⟨0, H, (Nat.le_refl _), ⟨hA.fits.only ⟨rfl, rfl, rfl, trivial⟩, hA.ext⟩⟩) ?_
        clear H
        rintro kq a W ⟨x15, H, hk, hA⟩
        refine here hA ?_
        clear hA a W
        cases kq with
        | zero => exact absurd H (by simp [swageref11_Same.l0])
        | succ k0 =>
          simp only [swageref11_Same.l0] at H
          refine c_seq ?_
          refine c_seq ?_
          refine g_plain ?_
          refine l_y (y_move rfl rfl) rfl rfl (by decide) ?_
          refine l_y (y_field (j' := 2) fa24_2 rfl rfl rfl) rfl rfl (by decide) ?_
          refine l_y (y_load is22 rfl rfl (cl_own (i := 1) (j := 2) rfl rfl)) rfl rfl (by decide) ?_
          refine l_y (y_len Tryd.underlying22 rfl rfl) rfl rfl (by decide) ?_
          refine l_y (y_bin rfl rfl rfl bi_lt) rfl rfl (by decide) ?_
          refine l_nil ?_
          refine x_next ?_
          by_cases c16 : x15 < (a0.Kids.length : Int)
          · rw [if_pos c16] at H
            refine s_lit (t := 32) rfl (decide_eq_true c16) ?_
            refine c_true rfl ?_
            refine c_skip ?_
            refine x_next ?_
            refine c_seq ?_
            refine c_block ?_
            refine c_seq ?_
            refine d_start [.cells β10 24 [.int .i64 a1.Kind, .int .i64 a1.Count, .slice A5 a1.Kids.length c6] 3, .cells β9 24 [.int .i64 a0.Kind, .int .i64 a0.Count, .slice A1 a0.Kids.length c2] 3] [] (bits 12 0) mixed_ rfl (by kernel_rfl) (pick_mem (is := [0, 1]) ⟨rfl, rfl, trivial⟩) ?_
            refine d_pure 0 (bits 12 1) (y_field (j' := 2) fa24_2 rfl rfl rfl) rfl rfl (by decide) (by kernel_rfl) (fun _ _ _ h => h) (.none rfl) ?_
            refine d_take 1 (bits 12 3) (y_load is22 rfl rfl (cl_own (i := 1) (j := 2) rfl rfl)) rfl rfl (by decide) (by kernel_rfl) (fun _ _ _ h => h) (.none rfl) (Imm.rfl' _) (pick_mem (is := [0, 1]) ⟨rfl, rfl, trivial⟩) ?_
            refine d_pure 2 (bits 12 7) (y_move rfl rfl) rfl rfl (by decide) (by kernel_rfl) (fun _ _ _ h => h) (.none rfl) ?_
            by_cases c17 : 0 ≤ x15 ∧ x15 < (a0.Kids.length : Int)
            rotate_left
            · rw [if_neg c17] at H; exact absurd H (by simp)
            rw [if_pos c17] at H
            obtain ⟨b18, o19, hA_, hE20⟩ := hr3.elem (by omega)
            obtain rfl := hA_
            obtain ⟨cs23, hR24, hC25⟩ := hE20 x15 c17.1 c17.2
            obtain ⟨A21, c22, rfl, hr26, chr26⟩ := hR24.open
            refine d_pure 3 (bits 12 15) (y_index sl22 rfl rfl rfl c17.1 c17.2) rfl rfl (by decide) (by kernel_rfl) (fun _ _ _ h => h) (.none rfl) ?_
            refine d_take 4 (bits 12 31) (y_loadA (cs := [.int .i64 ((rd a0.Kids x15).Kind), .int .i64 ((rd a0.Kids x15).Count), .slice A21 (((rd a0.Kids x15).Kids).length) c22]) ia24 rfl rfl rfl hC25.cls) rfl rfl (by decide) (by kernel_rfl) (fun _ _ _ h => h) (.none rfl) (Imm.rfl' _) (pick_mem (is := [0, 1]) ⟨rfl, rfl, trivial⟩) ?_
            refine d_pure 5 (bits 12 63) (y_field (j' := 2) fa24_2 rfl rfl rfl) rfl rfl (by decide) (by kernel_rfl) (fun _ _ _ h => h) (.none rfl) ?_
            refine d_take 6 (bits 12 127) (y_load is22 rfl rfl (cl_own (i := 0) (j := 2) rfl rfl)) rfl rfl (by decide) (by kernel_rfl) (fun _ _ _ h => h) (.none rfl) (Imm.rfl' _) (pick_mem (is := [0, 1]) ⟨rfl, rfl, trivial⟩) ?_
            refine d_pure 7 (bits 12 255) (y_move rfl rfl) rfl rfl (by decide) (by kernel_rfl) (fun _ _ _ h => h) (.none rfl) ?_
            by_cases c27 : 0 ≤ x15 ∧ x15 < (a1.Kids.length : Int)
            rotate_left
            · rw [if_neg c27] at H; exact absurd H (by simp)
            rw [if_pos c27] at H
            obtain ⟨b28, o29, hA_, hE30⟩ := hr7.elem (by omega)
            obtain rfl := hA_
            obtain ⟨cs33, hR34, hC35⟩ := hE30 x15 c27.1 c27.2
            obtain ⟨A31, c32, rfl, hr36, chr36⟩ := hR34.open
            refine d_pure 8 (bits 12 511) (y_index sl22 rfl rfl rfl c27.1 c27.2) rfl rfl (by decide) (by kernel_rfl) (fun _ _ _ h => h) (.none rfl) ?_
            refine d_take 9 (bits 12 1023) (y_loadA (cs := [.int .i64 ((rd a1.Kids x15).Kind), .int .i64 ((rd a1.Kids x15).Count), .slice A31 (((rd a1.Kids x15).Kids).length) c32]) ia24 rfl rfl rfl hC35.cls) rfl rfl (by decide) (by kernel_rfl) (fun _ _ _ h => h) (.none rfl) (Imm.rfl' _) (pick_mem (is := [0, 1]) ⟨rfl, rfl, trivial⟩) ?_
            refine d_one 10 (bits 12 2047) rfl (by kernel_rfl) (by decide) (.none rfl) (fun K hK => ?_)
            obtain ⟨r37, hr37, H⟩ := Option.bind_eq_some_iff.1 H
            refine w_call (args := [.agg #[.int .i64 ((rd a0.Kids x15).Kind), .int .i64 ((rd a0.Kids x15).Count), .slice A21 (((rd a0.Kids x15).Kids).length) c22], .agg #[.int .i64 ((rd a1.Kids x15).Kind), .int .i64 ((rd a1.Kids x15).Count), .slice A31 (((rd a1.Kids x15).Kids).length) c32]]) (caps := []) has16 rfl rfl rfl rfl (by decide) (fun a W F E => ?_)
            refine ((ih k0 (by omega)) (rd a0.Kids x15) (rd a1.Kids x15) A21 c22 A31 c32 I W r37 hr26 (by first | assumption | simp | omega) hr36 (by first | assumption | simp | omega) (E.st.sub (List.nil_sublist _)) hr37).mono ?_
            rintro e W' ⟨rfl, X⟩
            refine ⟨_, rfl, here (At.mk (F.put (by decide) _) (E.call0 X)) ?_⟩
            clear X E F W W' a
            refine d_k hK (Imm.rfl' _) (pick_mem (is := [0, 1]) ⟨rfl, rfl, trivial⟩) ?_
            clear hK K
            refine d_pure 11 (bits 12 4095) (y_assign rfl rfl) rfl rfl (by decide) (by kernel_rfl) (fun _ _ _ h => h) (.none rfl) ?_
            refine d_done (by kernel_rfl) ?_
            refine x_next ?_
            refine c_seq ?_
            refine g_plain ?_
            refine l_y (y_move rfl rfl) rfl rfl (by decide) ?_
            refine l_y (y_not rfl rfl) rfl rfl (by decide) ?_
            refine l_nil ?_
            refine x_next ?_
            by_cases c39 : r37 = true
            · rw [if_pos c39] at H
              refine s_lit (t := 47) rfl (not_f c39) ?_
              refine c_false rfl ?_
              refine c_skip ?_
              refine x_norm ?_
              refine x_next ?_
              refine g_plain ?_
              refine l_y (y_move rfl rfl) rfl rfl (by decide) ?_
              refine l_y (y_bin rfl rfl rfl bi_add) rfl rfl (by decide) ?_
              refine l_y (y_assign rfl rfl) rfl rfl (by decide) ?_
              refine l_nil ?_
              refine s_perm pf1 ?_
              refine s_perm pf1 ?_
              exact fun a W hA => ⟨k0, by omega, (IntKind.i64.wrap (x15 + 1)), H, (by omega), ⟨hA.fits.only ⟨rfl, rfl, rfl, trivial⟩, hA.ext⟩⟩
            · rw [if_neg c39] at H
              refine s_lit (t := 47) rfl (not_t (Bool.eq_false_iff.2 c39)) ?_
              refine c_true rfl ?_
              refine c_seq ?_
              refine g_plain ?_
              refine l_y (y_assign rfl rfl) rfl rfl (by decide) ?_
              refine l_nil ?_
              refine x_next ?_
              refine c_ret ?_
              refine x_ret ?_
              refine x_then rfl ?_
              refine x_then rfl ?_
              refine x_ret ?_
              refine x_then rfl ?_
              obtain rfl := Option.some.inj H
              exact g_ret [.bool false] (congrArg Array.toList Tryd.results16) (.cons (.t rfl) .nil) (fun W E => ⟨rfl, E.drop (List.nil_sublist _)⟩)
          · rw [if_neg c16] at H
            refine s_lit (t := 32) rfl (decide_eq_false c16) ?_
            refine c_false rfl ?_
            refine c_exit ?_
            refine x_then rfl ?_
            refine x_then rfl ?_
            refine x_in ?_
            refine x_next ?_
            refine c_seq ?_
            refine g_plain ?_
            refine l_y (y_assign rfl rfl) rfl rfl (by decide) ?_
            refine l_nil ?_
            refine x_next ?_
            refine c_ret ?_
            obtain rfl := Option.some.inj H
            exact g_ret [.bool true] (congrArg Array.toList Tryd.results16) (.cons (.t rfl) .nil) (fun W E => ⟨rfl, E.drop (List.nil_sublist _)⟩)
def swageref11_Scalar.f (k : Nat) (a0 : GType) : Option Bool := ((swageref11_Right.f k a0).bind fun r6 => (if r6 = true then (if a0.Kind = 1 then (some true) else (some (decide (a0.Kind = 2)))) else (some false)))
def swageref11_Scalar.Post (I : Imm) (O : List Ent) (w : World) (r : Bool) (e : Ending) (w' : World) : Prop := e = .returned (.bool r) ∧ Ext I O w I O w'
set_option maxRecDepth 100000 in
set_option maxHeartbeats 1000000 in
theorem swageref11_Scalar.calls (k : Nat) : ∀ (a0 : GType) (A1 : Option Addr) (c2 : Nat) (I : Imm) (w : World) (r : Bool) (hr3 : RowsG R_Type 3 40 I A1 a0.Kids) (hc4 : a0.Kids.length ≤ c2), St I [] w → swageref11_Scalar.f k a0 = some r →
  Calls Tryd.prog 25 #[.agg #[.int .i64 a0.Kind, .int .i64 a0.Count, .slice A1 a0.Kids.length c2]] w (swageref11_Scalar.Post I [] w r) := by
  intro a0 A1 c2 I w r hr3 hc4 hS H
  have nhr3 := hr3.len
  simp only [swageref11_Scalar.f] at H
  refine enter Tryd.func25 rfl Tryd.ntmps25 (Nat.le_of_ble_eq_true rfl) hS ?_
  refine c_seq ?_
  refine g_plain ?_
  refine l_w rfl ?_
  refine w_box (cs := [.int .i64 a0.Kind, .int .i64 a0.Count, .slice A1 a0.Kids.length c2]) (m := 3) rfl rfl rfl rfl rfl (by decide) (fun β5 => ?_)
  refine l_y (y_assign rfl rfl) rfl rfl (by decide) ?_
  refine l_nil ?_
  refine x_next ?_
  refine c_seq ?_
  refine g_plain ?_
  refine l_y (y_loadA (cs := [.int .i64 a0.Kind, .int .i64 a0.Count, .slice A1 a0.Kids.length c2]) ia24 rfl rfl rfl (cls_own (i := 0) rfl rfl)) rfl rfl (by decide) ?_
  refine l_w rfl ?_
  obtain ⟨r6, hr6, H⟩ := Option.bind_eq_some_iff.1 H
  refine w_call (args := [.agg #[.int .i64 a0.Kind, .int .i64 a0.Count, .slice A1 a0.Kids.length c2]]) (caps := []) has20 rfl rfl rfl rfl (by decide) (fun a W F E => ?_)
  refine (swageref11_Right.calls k a0 A1 c2 I W r6 hr3 (by first | assumption | simp | omega) (E.st.sub (List.nil_sublist _)) hr6).mono ?_
  rintro e W' ⟨rfl, X⟩
  refine ⟨_, rfl, here (At.mk (F.put (by decide) _) (E.call0 X)) ?_⟩
  clear X E F W W' a
  refine l_y (y_assign rfl rfl) rfl rfl (by decide) ?_
  refine l_nil ?_
  refine x_next ?_
  refine c_seq ?_
  refine g_plain ?_
  refine l_y (y_move rfl rfl) rfl rfl (by decide) ?_
  refine l_y (y_move rfl rfl) rfl rfl (by decide) ?_
  by_cases c8 : r6 = true
  · rw [if_pos c8] at H
    refine s_lit (t := 7) rfl c8 ?_
    refine l_yg (y_field (j' := 0) fa24_0 rfl rfl rfl) rfl rfl rfl rfl rfl (by decide) ?_
    refine l_yg (y_load is3 rfl rfl (cl_own (i := 0) (j := 0) rfl rfl)) rfl rfl rfl rfl rfl (by decide) ?_
    refine l_yg (y_bin rfl rfl rfl bi_eq) rfl rfl rfl rfl rfl (by decide) ?_
    refine l_yg (y_move rfl rfl) rfl rfl rfl rfl rfl (by decide) ?_
    by_cases c9 : a0.Kind = 1
    · rw [if_pos c9] at H
      refine s_lit (t := 11) rfl (decide_eq_true c9) ?_
      refine l_off rfl rfl rfl rfl rfl rfl (by decide) ?_
      refine l_off rfl rfl rfl rfl rfl rfl (by decide) ?_
      refine l_off rfl rfl rfl rfl rfl rfl (by decide) ?_
      refine l_yg (y_pickt rfl rfl rfl) rfl rfl rfl rfl rfl (by decide) ?_
      refine l_y (y_pickt rfl rfl rfl) rfl rfl (by decide) ?_
      refine l_y (y_assign rfl rfl) rfl rfl (by decide) ?_
      refine l_nil ?_
      refine x_next ?_
      refine c_ret ?_
      obtain rfl := Option.some.inj H
      exact g_ret [.bool true] (congrArg Array.toList Tryd.results25) (.cons (.t rfl) .nil) (fun W E => ⟨rfl, E.drop (List.nil_sublist _)⟩)
    · rw [if_neg c9] at H
      refine s_lit (t := 11) rfl (decide_eq_false c9) ?_
      refine l_yg (y_field (j' := 0) fa24_0 rfl rfl rfl) rfl rfl rfl rfl rfl (by decide) ?_
      refine l_yg (y_load is3 rfl rfl (cl_own (i := 0) (j := 0) rfl rfl)) rfl rfl rfl rfl rfl (by decide) ?_
      refine l_yg (y_bin rfl rfl rfl bi_eq) rfl rfl rfl rfl rfl (by decide) ?_
      refine l_yg (y_pickf rfl rfl rfl) rfl rfl rfl rfl rfl (by decide) ?_
      refine l_y (y_pickt rfl rfl rfl) rfl rfl (by decide) ?_
      refine l_y (y_assign rfl rfl) rfl rfl (by decide) ?_
      refine l_nil ?_
      refine x_next ?_
      refine c_ret ?_
      obtain rfl := Option.some.inj H
      exact g_ret [.bool (decide (a0.Kind = 2))] (congrArg Array.toList Tryd.results25) (.cons (.t rfl) .nil) (fun W E => ⟨rfl, E.drop (List.nil_sublist _)⟩)
  · rw [if_neg c8] at H
    refine s_lit (t := 7) rfl (Bool.eq_false_iff.2 c8) ?_
    refine l_off rfl rfl rfl rfl rfl rfl (by decide) ?_
    refine l_off rfl rfl rfl rfl rfl rfl (by decide) ?_
    refine l_off rfl rfl rfl rfl rfl rfl (by decide) ?_
    refine l_off rfl rfl rfl rfl rfl rfl (by decide) ?_
    refine l_offu rfl rfl rfl rfl rfl (by decide) ?_
    refine l_offu rfl rfl rfl rfl rfl (by decide) ?_
    refine l_offu rfl rfl rfl rfl rfl (by decide) ?_
    refine l_off rfl rfl rfl rfl rfl rfl (by decide) ?_
    refine l_y (y_pickf rfl rfl rfl) rfl rfl (by decide) ?_
    refine l_y (y_assign rfl rfl) rfl rfl (by decide) ?_
    refine l_nil ?_
    refine x_next ?_
    refine c_ret ?_
    obtain rfl := Option.some.inj H
    exact g_ret [.bool false] (congrArg Array.toList Tryd.results25) (.cons (.t rfl) .nil) (fun W E => ⟨rfl, E.drop (List.nil_sublist _)⟩)
end Go.Proofs.YtoafojcfledkcaaDoor
