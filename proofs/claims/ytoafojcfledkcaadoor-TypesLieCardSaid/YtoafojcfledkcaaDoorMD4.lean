/- Models and walks. -/
import Derived.Test.YtoafojcfledkcaaDoorMD3
import Derived.Test.YtoafojcfledkcaaDoorExt
namespace Go.Proofs.YtoafojcfledkcaaDoor
open Go.RowKit
set_option linter.all false
def swagelaw11_TypesOf.f (k : Nat) (a0 : GNode) : Option Bool := ((swagelaw11_small.f k).bind fun r6 => ((swagelaw10_Few.f k a0).bind fun r8 => (if r8 = true then ((types_Of.f k a0).bind fun r11 => ((swageref11_Of.f k a0).bind fun r19 => (if r6 = true then ((swageref11_Same.f k r11.1 r19.1).bind fun r28 => (if r28 = true then (some (decide (r11.2 = r19.2))) else (some false))) else (some false)))) else (some r6))))
def swagelaw11_TypesOf.Post (I : Imm) (O : List Ent) (w : World) (r : Bool) (e : Ending) (w' : World) : Prop := e = .returned (.bool r) ∧ Ext I O w I O w'
set_option maxRecDepth 100000 in
set_option maxHeartbeats 1000000 in
theorem swagelaw11_TypesOf.calls (k : Nat) : ∀ (a0 : GNode) (A1 : Option Addr) (c2 : Nat) (I : Imm) (w : World) (r : Bool) (hr3 : RowsG R_Node 4 56 I A1 a0.Kids) (hc4 : a0.Kids.length ≤ c2), St I [] w → Tabs I → swagelaw11_TypesOf.f k a0 = some r →
  Calls Tryd.prog 4 #[.agg #[.int .i64 a0.Kind, .string a0.Text, .int .i64 a0.At, .slice A1 a0.Kids.length c2]] w (swagelaw11_TypesOf.Post I [] w r) := by
  intro a0 A1 c2 I w r hr3 hc4 hS hT H
  have nhr3 := hr3.len
  simp only [swagelaw11_TypesOf.f] at H
  refine enter Tryd.func4 rfl Tryd.ntmps4 (Nat.le_of_ble_eq_true rfl) hS ?_
  refine c_seq ?_
  refine g_plain ?_
  refine l_w rfl ?_
  refine w_box (cs := [.int .i64 a0.Kind, .string a0.Text, .int .i64 a0.At, .slice A1 a0.Kids.length c2]) (m := 4) rfl rfl rfl rfl rfl (by decide) (fun β5 => ?_)
  refine l_y (y_assign rfl rfl) rfl rfl (by decide) ?_
  refine l_nil ?_
  refine x_next ?_
  refine c_seq ?_
  refine g_plain ?_
  refine l_w rfl ?_
  obtain ⟨r6, hr6, H⟩ := Option.bind_eq_some_iff.1 H
  refine w_call (args := []) (caps := []) has11 rfl rfl rfl rfl (by decide) (fun a W F E => ?_)
  refine (swagelaw11_small.calls k I W r6 (E.st.sub (List.nil_sublist _)) (hT.mono (Imm.rfl' _)) hr6).mono ?_
  rintro e W' ⟨rfl, X⟩
  refine ⟨_, rfl, here (At.mk (F.put (by decide) _) (E.call0 X)) ?_⟩
  clear X E F W W' a
  refine l_y (y_assign rfl rfl) rfl rfl (by decide) ?_
  refine l_nil ?_
  refine x_next ?_
  refine c_seq ?_
  refine g_plain ?_
  refine l_y (y_loadA (cs := [.int .i64 a0.Kind, .string a0.Text, .int .i64 a0.At, .slice A1 a0.Kids.length c2]) ia36 rfl rfl rfl (cls_own (i := 0) rfl rfl)) rfl rfl (by decide) ?_
  refine l_w rfl ?_
  obtain ⟨r8, hr8, H⟩ := Option.bind_eq_some_iff.1 H
  refine w_call (args := [.agg #[.int .i64 a0.Kind, .string a0.Text, .int .i64 a0.At, .slice A1 a0.Kids.length c2]]) (caps := []) has28 rfl rfl rfl rfl (by decide) (fun a W F E => ?_)
  refine (swagelaw10_Few.calls k a0 A1 c2 I W r8 hr3 (by first | assumption | simp | omega) (E.st.sub (List.nil_sublist _)) hr8).mono ?_
  rintro e W' ⟨rfl, X⟩
  refine ⟨_, rfl, here (At.mk (F.put (by decide) _) (E.call0 X)) ?_⟩
  clear X E F W W' a
  refine l_y (y_assign rfl rfl) rfl rfl (by decide) ?_
  refine l_nil ?_
  refine x_next ?_
  refine c_seq ?_
  refine c_seq ?_
  refine g_plain ?_
  refine l_y (y_move rfl rfl) rfl rfl (by decide) ?_
  refine l_y (y_not rfl rfl) rfl rfl (by decide) ?_
  refine l_nil ?_
  refine x_next ?_
  by_cases c10 : r8 = true
  · rw [if_pos c10] at H
    refine s_lit (t := 13) rfl (not_f c10) ?_
    refine c_false rfl ?_
    refine c_skip ?_
    refine x_next ?_
    refine c_seq ?_
    refine g_plain ?_
    refine l_y (y_loadA (cs := [.int .i64 a0.Kind, .string a0.Text, .int .i64 a0.At, .slice A1 a0.Kids.length c2]) ia36 rfl rfl rfl (cls_own (i := 0) rfl rfl)) rfl rfl (by decide) ?_
    refine l_w rfl ?_
    obtain ⟨r11, hr11, H⟩ := Option.bind_eq_some_iff.1 H
    refine w_call (args := [.agg #[.int .i64 a0.Kind, .string a0.Text, .int .i64 a0.At, .slice A1 a0.Kids.length c2]]) (caps := []) has29 rfl rfl rfl rfl (by decide) (fun a W F E => ?_)
    refine (types_Of.calls k a0 A1 c2 I W r11 hr3 (by first | assumption | simp | omega) (E.st.sub (List.nil_sublist _)) hr11).mono ?_
    rintro e W' ⟨J16, A12, c13, rfl, X, hr14, hc15⟩
    have hl17 := X.le
    refine ⟨_, rfl, here (At.mk (F.put (by decide) _) (E.call0 X)) ?_⟩
    clear X E F W W' a
    refine l_y (y_move rfl rfl) rfl rfl (by decide) ?_
    refine l_y (y_extract rfl rfl rfl) rfl rfl (by decide) ?_
    refine l_y (y_extract rfl rfl rfl) rfl rfl (by decide) ?_
    refine l_w rfl ?_
    refine w_alloc (cs := [.int .i64 0, .int .i64 0, .slice none 0 0]) (m := 3) zz24 rfl rfl rfl rfl (by decide) (fun β18 => ?_)
    refine l_w rfl ?_
    refine w_store0 (cs' := [.int .i64 r11.1.Kind, .int .i64 r11.1.Count, .slice A12 r11.1.Kids.length c13]) sz24 rfl rfl rfl rfl rfl (Nat.le_of_ble_eq_true rfl) rfl rfl ?_
    refine l_y (y_assign rfl rfl) rfl rfl (by decide) ?_
    refine l_nil ?_
    refine x_next ?_
    refine c_seq ?_
    refine g_plain ?_
    refine l_y (y_loadA (cs := [.int .i64 a0.Kind, .string a0.Text, .int .i64 a0.At, .slice A1 a0.Kids.length c2]) ia36 rfl rfl rfl (cls_own (i := 1) rfl rfl)) rfl rfl (by decide) ?_
    refine l_w rfl ?_
    obtain ⟨r19, hr19, H⟩ := Option.bind_eq_some_iff.1 H
    refine w_call (args := [.agg #[.int .i64 a0.Kind, .string a0.Text, .int .i64 a0.At, .slice A1 a0.Kids.length c2]]) (caps := []) has30 rfl rfl rfl rfl (by decide) (fun a W F E => ?_)
    refine (swageref11_Of.calls k a0 A1 c2 J16 W r19 (hr3.mono R_Node.mono hl17) (by first | assumption | simp | omega) (E.st.sub (List.nil_sublist _)) hr19).mono ?_
    rintro e W' ⟨J24, A20, c21, rfl, X, hr22, hc23⟩
    have hl25 := X.le
    refine ⟨_, rfl, here (At.mk (F.put (by decide) _) (E.call0 X)) ?_⟩
    clear X E F W W' a
    refine l_y (y_move rfl rfl) rfl rfl (by decide) ?_
    refine l_y (y_extract rfl rfl rfl) rfl rfl (by decide) ?_
    refine l_y (y_extract rfl rfl rfl) rfl rfl (by decide) ?_
    refine l_w rfl ?_
    refine w_alloc (cs := [.int .i64 0, .int .i64 0, .slice none 0 0]) (m := 3) zz24 rfl rfl rfl rfl (by decide) (fun β26 => ?_)
    refine l_w rfl ?_
    refine w_store0 (cs' := [.int .i64 r19.1.Kind, .int .i64 r19.1.Count, .slice A20 r19.1.Kids.length c21]) sz24 rfl rfl rfl rfl rfl (Nat.le_of_ble_eq_true rfl) rfl rfl ?_
    refine l_y (y_assign rfl rfl) rfl rfl (by decide) ?_
    refine l_nil ?_
    refine x_next ?_
    refine c_seq ?_
    refine g_plain ?_
    refine l_y (y_move rfl rfl) rfl rfl (by decide) ?_
    refine l_y (y_move rfl rfl) rfl rfl (by decide) ?_
    by_cases c27 : r6 = true
    · rw [if_pos c27] at H
      refine s_lit (t := 26) rfl c27 ?_
      refine l_yg (y_loadA (cs := [.int .i64 r11.1.Kind, .int .i64 r11.1.Count, .slice A12 r11.1.Kids.length c13]) ia24 rfl rfl rfl (cls_own (i := 1) rfl rfl)) rfl rfl rfl rfl rfl (by decide) ?_
      refine l_yg (y_loadA (cs := [.int .i64 r19.1.Kind, .int .i64 r19.1.Count, .slice A20 r19.1.Kids.length c21]) ia24 rfl rfl rfl (cls_own (i := 0) rfl rfl)) rfl rfl rfl rfl rfl (by decide) ?_
      refine l_wg rfl rfl rfl rfl ?_
      obtain ⟨r28, hr28, H⟩ := Option.bind_eq_some_iff.1 H
      refine w_call (args := [.agg #[.int .i64 r11.1.Kind, .int .i64 r11.1.Count, .slice A12 r11.1.Kids.length c13], .agg #[.int .i64 r19.1.Kind, .int .i64 r19.1.Count, .slice A20 r19.1.Kids.length c21]]) (caps := []) has16 rfl rfl rfl rfl (by decide) (fun a W F E => ?_)
      refine (swageref11_Same.calls k r11.1 r19.1 A12 c13 A20 c21 J24 W r28 (hr14.mono R_Type.mono hl25) (by first | assumption | simp | omega) hr22 (by first | assumption | simp | omega) (E.st.sub (List.nil_sublist _)) hr28).mono ?_
      rintro e W' ⟨rfl, X⟩
      refine ⟨_, rfl, here (At.mk (F.put (by decide) _) (E.call0 X)) ?_⟩
      clear X E F W W' a
      refine l_y (y_pickt rfl rfl rfl) rfl rfl (by decide) ?_
      refine l_y (y_move rfl rfl) rfl rfl (by decide) ?_
      by_cases c30 : r28 = true
      · rw [if_pos c30] at H
        refine s_lit (t := 31) rfl c30 ?_
        refine l_yg (y_move rfl rfl) rfl rfl rfl rfl rfl (by decide) ?_
        refine l_yg (y_move rfl rfl) rfl rfl rfl rfl rfl (by decide) ?_
        refine l_yg (y_bin rfl rfl rfl bi_eq) rfl rfl rfl rfl rfl (by decide) ?_
        refine l_y (y_pickt rfl rfl rfl) rfl rfl (by decide) ?_
        refine l_y (y_assign rfl rfl) rfl rfl (by decide) ?_
        refine l_nil ?_
        refine x_next ?_
        refine c_ret ?_
        obtain rfl := Option.some.inj H
        exact g_ret [.bool (decide (r11.2 = r19.2))] (congrArg Array.toList Tryd.results4) (.cons (.t rfl) .nil) (fun W E => ⟨rfl, (E.drop (List.nil_sublist _)).back⟩)
      · rw [if_neg c30] at H
        refine s_lit (t := 31) rfl (Bool.eq_false_iff.2 c30) ?_
        refine l_off rfl rfl rfl rfl rfl rfl (by decide) ?_
        refine l_off rfl rfl rfl rfl rfl rfl (by decide) ?_
        refine l_off rfl rfl rfl rfl rfl rfl (by decide) ?_
        refine l_y (y_pickf rfl rfl rfl) rfl rfl (by decide) ?_
        refine l_y (y_assign rfl rfl) rfl rfl (by decide) ?_
        refine l_nil ?_
        refine x_next ?_
        refine c_ret ?_
        obtain rfl := Option.some.inj H
        exact g_ret [.bool false] (congrArg Array.toList Tryd.results4) (.cons (.t rfl) .nil) (fun W E => ⟨rfl, (E.drop (List.nil_sublist _)).back⟩)
    · rw [if_neg c27] at H
      refine s_lit (t := 26) rfl (Bool.eq_false_iff.2 c27) ?_
      refine l_off rfl rfl rfl rfl rfl rfl (by decide) ?_
      refine l_off rfl rfl rfl rfl rfl rfl (by decide) ?_
      refine l_off rfl rfl rfl rfl rfl rfl (by decide) ?_
      refine l_y (y_pickf rfl rfl rfl) rfl rfl (by decide) ?_
      refine l_y (y_move rfl rfl) rfl rfl (by decide) ?_
      refine l_off rfl rfl rfl rfl rfl rfl (by decide) ?_
      refine l_off rfl rfl rfl rfl rfl rfl (by decide) ?_
      refine l_off rfl rfl rfl rfl rfl rfl (by decide) ?_
      refine l_y (y_pickf rfl rfl rfl) rfl rfl (by decide) ?_
      refine l_y (y_assign rfl rfl) rfl rfl (by decide) ?_
      refine l_nil ?_
      refine x_next ?_
      refine c_ret ?_
      obtain rfl := Option.some.inj H
      exact g_ret [.bool false] (congrArg Array.toList Tryd.results4) (.cons (.t rfl) .nil) (fun W E => ⟨rfl, (E.drop (List.nil_sublist _)).back⟩)
  · rw [if_neg c10] at H
    refine s_lit (t := 13) rfl (not_t (Bool.eq_false_iff.2 c10)) ?_
    refine c_true rfl ?_
    refine c_seq ?_
    refine g_plain ?_
    refine l_y (y_move rfl rfl) rfl rfl (by decide) ?_
    refine l_y (y_assign rfl rfl) rfl rfl (by decide) ?_
    refine l_nil ?_
    refine x_next ?_
    refine c_ret ?_
    refine x_then rfl ?_
    obtain rfl := Option.some.inj H
    exact g_ret [.bool r6] (congrArg Array.toList Tryd.results4) (.cons (.t rfl) .nil) (fun W E => ⟨rfl, E.drop (List.nil_sublist _)⟩)
mutual
def swagelaw11_TypesLie.j12 : Nat → Int → (List GType) → Int → GType → Int → Bool → Option Bool
  | 0, _, _, _, _, _, _ => none
  | k + 1, x47, x48, x39, a0, x36, r11 => (swagelaw11_TypesLie.l0 k x47 (IntKind.i64.wrap (x39 + 1)) x48 a0 x36 r11)
def swagelaw11_TypesLie.j14 : Nat → Int → Int → (List GType) → Int → (List GType) → Int → GType → Int → Bool → Option Bool
  | 0, _, _, _, _, _, _, _, _, _ => none
  | k + 1, x68, x69, x70, x38, x40, x39, a0, x36, r11 => ((types_Size.f k (⟨x68, x69, x70⟩ : GType)).bind fun r82 => (swagelaw11_TypesLie.j12 k (IntKind.i64.wrap (x38 + r82)) x40 x39 a0 x36 r11))
def swagelaw11_TypesLie.j13 : Nat → Bool → GType → (List GType) → Int → Int → Int → Bool → Option Bool
  | 0, _, _, _, _, _, _, _ => none
  | k + 1, x54, a0, x40, x39, x38, x36, r11 => (if x54 = true then (some false) else (if 0 < (x40.length : Int) then (if a0.Kind = 4 then (if 0 ≤ x39 ∧ x39 < (x40.length : Int) then (swagelaw11_TypesLie.j14 k ((rd x40 x39).Kind) ((rd x40 x39).Count) ((rd x40 x39).Kids) x38 x40 x39 a0 x36 r11) else none) else (swagelaw11_TypesLie.j14 k ((rd x40 0).Kind) ((rd x40 0).Count) ((rd x40 0).Kids) x38 x40 x39 a0 x36 r11)) else none))
def swagelaw11_TypesLie.j10 : Nat → Bool → GType → (List GType) → Int → Int → Bool → Int → Option Bool
  | 0, _, _, _, _, _, _, _ => none
  | k + 1, x44, a0, x40, x39, x38, r11, x36 => (if x44 = true then ((types_Offset.f k (⟨a0.Kind, a0.Count, x40⟩ : GType) x39).bind fun r52 => (if r52.2 = true then (swagelaw11_TypesLie.j13 k (!(decide (r52.1 = x38))) a0 x40 x39 x38 x36 r11) else (swagelaw11_TypesLie.j13 k true a0 x40 x39 x38 x36 r11))) else (if r11 = true then ((types_Size.f k (⟨a0.Kind, a0.Count, x40⟩ : GType)).bind fun r85 => (if x38 ≤ r85 then (if a0.Kind = 4 then ((types_Size.f k (⟨a0.Kind, a0.Count, x40⟩ : GType)).bind fun r89 => (if x38 = r89 then ((types_Size.f k (⟨a0.Kind, a0.Count, x40⟩ : GType)).bind fun r92 => (some (decide (r92 ≤ 1048576)))) else (some false))) else ((types_Size.f k (⟨a0.Kind, a0.Count, x40⟩ : GType)).bind fun r94 => (some (decide (r94 ≤ 1048576))))) else (some false))) else (some false)))
def swagelaw11_TypesLie.l0 : Nat → Int → Int → (List GType) → GType → Int → Bool → Option Bool
  | 0, _, _, _, _, _, _ => none
  | k + 1, x38, x39, x40, a0, x36, r11 => (if x39 < x36 then (swagelaw11_TypesLie.j10 k (!(decide (a0.Kind = 2))) a0 x40 x39 x38 r11 x36) else (swagelaw11_TypesLie.j10 k false a0 x40 x39 x38 r11 x36))
def swagelaw11_TypesLie.j4 : Nat → Int → GType → Bool → Option Bool
  | 0, _, _, _ => none
  | k + 1, x36, a0, r11 => (swagelaw11_TypesLie.l0 k 0 0 a0.Kids a0 x36 r11)
def swagelaw11_TypesLie.j3 : Nat → GType → Bool → Option Bool
  | 0, _, _ => none
  | k + 1, a0, r11 => (if a0.Kind = 3 then (swagelaw11_TypesLie.j4 k (min a0.Count 100) a0 r11) else (swagelaw11_TypesLie.j4 k (a0.Kids.length : Int) a0 r11))
def swagelaw11_TypesLie.j2 : Nat → Bool → GType → GType → Bool → Option Bool
  | 0, _, _, _, _ => none
  | k + 1, x19, a0, a1, r11 => (if x19 = true then (some r11) else ((types_Text.f k a0).bind fun r27 => ((types_Text.f k a1).bind fun r29 => ((types_Same.f k a0 a1).bind fun r31 => (if r27 = r29 then (if r31 = true then (swagelaw11_TypesLie.j3 k a0 r11) else (some false)) else (if r31 = true then (some false) else (swagelaw11_TypesLie.j3 k a0 r11)))))))
def swagelaw11_TypesLie.j1 : Nat → Bool → GType → GType → Bool → Option Bool
  | 0, _, _, _, _ => none
  | k + 1, x13, a0, a1, r11 => (if x13 = true then ((types_Right.f k a0).bind fun r21 => (if r21 = true then ((types_Right.f k a1).bind fun r24 => (swagelaw11_TypesLie.j2 k (!r24) a0 a1 r11)) else (swagelaw11_TypesLie.j2 k true a0 a1 r11))) else (swagelaw11_TypesLie.j2 k true a0 a1 r11))
end
def swagelaw11_TypesLie.f (k : Nat) (a0 : GType) (a1 : GType) : Option Bool := ((swagelaw11_small.f k).bind fun r11 => ((swagelaw11_Few.f k a0).bind fun r14 => (if r14 = true then ((swagelaw11_Few.f k a1).bind fun r17 => (swagelaw11_TypesLie.j1 k r17 a0 a1 r11)) else (swagelaw11_TypesLie.j1 k false a0 a1 r11))))
def swagelaw11_TypesLie.Post (I : Imm) (O : List Ent) (w : World) (r : Bool) (e : Ending) (w' : World) : Prop := e = .returned (.bool r) ∧ Ext I O w I O w'
set_option maxRecDepth 100000 in
set_option maxHeartbeats 1000000 in
theorem swagelaw11_TypesLie.calls (k : Nat) : ∀ (a0 : GType) (a1 : GType) (A1 : Option Addr) (c2 : Nat) (A5 : Option Addr) (c6 : Nat) (I : Imm) (w : World) (r : Bool) (hr3 : RowsG R_Type 3 40 I A1 a0.Kids) (hc4 : a0.Kids.length ≤ c2) (hr7 : RowsG R_Type 3 40 I A5 a1.Kids) (hc8 : a1.Kids.length ≤ c6), St I [] w → Tabs I → swagelaw11_TypesLie.f k a0 a1 = some r →
  Calls Tryd.prog 5 #[.agg #[.int .i64 a0.Kind, .int .i64 a0.Count, .slice A1 a0.Kids.length c2], .agg #[.int .i64 a1.Kind, .int .i64 a1.Count, .slice A5 a1.Kids.length c6]] w (swagelaw11_TypesLie.Post I [] w r) := by
  intro a0 a1 A1 c2 A5 c6 I w r hr3 hc4 hr7 hc8 hS hT H
  have nhr3 := hr3.len
  have nhr7 := hr7.len
  simp only [swagelaw11_TypesLie.f] at H
  refine enter Tryd.func5 rfl Tryd.ntmps5 (Nat.le_of_ble_eq_true rfl) hS ?_
  refine c_seq ?_
  refine g_plain ?_
  refine l_w rfl ?_
  refine w_box (cs := [.int .i64 a0.Kind, .int .i64 a0.Count, .slice A1 a0.Kids.length c2]) (m := 3) rfl rfl rfl rfl rfl (by decide) (fun β9 => ?_)
  refine l_w rfl ?_
  refine w_box (cs := [.int .i64 a1.Kind, .int .i64 a1.Count, .slice A5 a1.Kids.length c6]) (m := 3) rfl rfl rfl rfl rfl (by decide) (fun β10 => ?_)
  refine l_y (y_assign rfl rfl) rfl rfl (by decide) ?_
  refine l_nil ?_
  refine x_next ?_
  refine c_seq ?_
  refine g_plain ?_
  refine l_w rfl ?_
  obtain ⟨r11, hr11, H⟩ := Option.bind_eq_some_iff.1 H
  refine w_call (args := []) (caps := []) has11 rfl rfl rfl rfl (by decide) (fun a W F E => ?_)
  refine (swagelaw11_small.calls k I W r11 (E.st.sub (List.nil_sublist _)) (hT.mono (Imm.rfl' _)) hr11).mono ?_
  rintro e W' ⟨rfl, X⟩
  refine ⟨_, rfl, here (At.mk (F.put (by decide) _) (E.call0 X)) ?_⟩
  clear X E F W W' a
  refine l_y (y_assign rfl rfl) rfl rfl (by decide) ?_
  refine l_nil ?_
  refine x_next ?_
  refine c_join (fun a W => ∃ (kq : Nat) (x13 : Bool), swagelaw11_TypesLie.j1 kq x13 a0 a1 r11 = some r ∧ kq ≤ k ∧ At 113 [] [(2, .pointer (some ⟨β9, 0, none⟩)), (3, .pointer (some ⟨β10, 0, none⟩)), (5, .bool r11), (6, .bool x13)] I [] w I [.cells β10 24 [.int .i64 a1.Kind, .int .i64 a1.Count, .slice A5 a1.Kids.length c6] 3, .cells β9 24 [.int .i64 a0.Kind, .int .i64 a0.Count, .slice A1 a0.Kids.length c2] 3] a W) ?_ ?_
  · skip
    refine g_plain ?_
    refine l_y (y_loadA (cs := [.int .i64 a0.Kind, .int .i64 a0.Count, .slice A1 a0.Kids.length c2]) ia24 rfl rfl rfl (cls_own (i := 1) rfl rfl)) rfl rfl (by decide) ?_
    refine l_w rfl ?_
    obtain ⟨r14, hr14, H⟩ := Option.bind_eq_some_iff.1 H
    refine w_call (args := [.agg #[.int .i64 a0.Kind, .int .i64 a0.Count, .slice A1 a0.Kids.length c2]]) (caps := []) has12 rfl rfl rfl rfl (by decide) (fun a W F E => ?_)
    refine (swagelaw11_Few.calls k a0 A1 c2 I W r14 hr3 (by first | assumption | simp | omega) (E.st.sub (List.nil_sublist _)) hr14).mono ?_
    rintro e W' ⟨rfl, X⟩
    refine ⟨_, rfl, here (At.mk (F.put (by decide) _) (E.call0 X)) ?_⟩
    clear X E F W W' a
    refine l_y (y_move rfl rfl) rfl rfl (by decide) ?_
    by_cases c16 : r14 = true
    · rw [if_pos c16] at H
      refine s_lit (t := 16) rfl c16 ?_
      refine l_yg (y_loadA (cs := [.int .i64 a1.Kind, .int .i64 a1.Count, .slice A5 a1.Kids.length c6]) ia24 rfl rfl rfl (cls_own (i := 0) rfl rfl)) rfl rfl rfl rfl rfl (by decide) ?_
      refine l_wg rfl rfl rfl rfl ?_
      obtain ⟨r17, hr17, H⟩ := Option.bind_eq_some_iff.1 H
      refine w_call (args := [.agg #[.int .i64 a1.Kind, .int .i64 a1.Count, .slice A5 a1.Kids.length c6]]) (caps := []) has12 rfl rfl rfl rfl (by decide) (fun a W F E => ?_)
      refine (swagelaw11_Few.calls k a1 A5 c6 I W r17 hr7 (by first | assumption | simp | omega) (E.st.sub (List.nil_sublist _)) hr17).mono ?_
      rintro e W' ⟨rfl, X⟩
      refine ⟨_, rfl, here (At.mk (F.put (by decide) _) (E.call0 X)) ?_⟩
      clear X E F W W' a
      refine l_y (y_pickt rfl rfl rfl) rfl rfl (by decide) ?_
      refine l_y (y_assign rfl rfl) rfl rfl (by decide) ?_
      refine l_nil ?_
      refine s_perm pf1 ?_
      refine s_perm pf1 ?_
      exact fun a W hA => ⟨k, r17, H, (by omega), ⟨hA.fits.only ⟨rfl, rfl, rfl, rfl, trivial⟩, hA.ext⟩⟩
    · rw [if_neg c16] at H
      refine s_lit (t := 16) rfl (Bool.eq_false_iff.2 c16) ?_
      refine l_off rfl rfl rfl rfl rfl rfl (by decide) ?_
      refine l_off rfl rfl rfl rfl rfl rfl (by decide) ?_
      refine l_y (y_pickf rfl rfl rfl) rfl rfl (by decide) ?_
      refine l_y (y_assign rfl rfl) rfl rfl (by decide) ?_
      refine l_nil ?_
      refine s_perm pf1 ?_
      refine s_perm pf1 ?_
      exact fun a W hA => ⟨k, false, H, (by omega), ⟨hA.fits.only ⟨rfl, rfl, rfl, rfl, trivial⟩, hA.ext⟩⟩
  clear H
  rintro a W ⟨kq, x13, H, hk, hA⟩
  refine here hA ?_
  clear hA a W
  cases kq with
  | zero => exact absurd H (by simp [swagelaw11_TypesLie.j1])
  | succ k_j1 =>
    simp only [swagelaw11_TypesLie.j1] at H
    refine c_seq ?_
    refine c_join (fun a W => ∃ (kq : Nat) (x19 : Bool), swagelaw11_TypesLie.j2 kq x19 a0 a1 r11 = some r ∧ kq ≤ k_j1 ∧ At 113 [] [(2, .pointer (some ⟨β9, 0, none⟩)), (3, .pointer (some ⟨β10, 0, none⟩)), (5, .bool r11), (31, .bool x19)] I [] w I [.cells β10 24 [.int .i64 a1.Kind, .int .i64 a1.Count, .slice A5 a1.Kids.length c6] 3, .cells β9 24 [.int .i64 a0.Kind, .int .i64 a0.Count, .slice A1 a0.Kids.length c2] 3] a W) ?_ ?_
    · skip
      refine g_plain ?_
      refine l_y (y_move rfl rfl) rfl rfl (by decide) ?_
      refine l_y (y_not rfl rfl) rfl rfl (by decide) ?_
      refine l_y (y_move rfl rfl) rfl rfl (by decide) ?_
      by_cases c20 : x13 = true
      · rw [if_pos c20] at H
        refine s_lit (t := 22) rfl (not_f c20) ?_
        refine l_yg (y_loadA (cs := [.int .i64 a0.Kind, .int .i64 a0.Count, .slice A1 a0.Kids.length c2]) ia24 rfl rfl rfl (cls_own (i := 1) rfl rfl)) rfl rfl rfl rfl rfl (by decide) ?_
        refine l_wg rfl rfl rfl rfl ?_
        obtain ⟨r21, hr21, H⟩ := Option.bind_eq_some_iff.1 H
        refine w_call (args := [.agg #[.int .i64 a0.Kind, .int .i64 a0.Count, .slice A1 a0.Kids.length c2]]) (caps := []) has19 rfl rfl rfl rfl (by decide) (fun a W F E => ?_)
        refine (types_Right.calls k_j1 a0 A1 c2 I W r21 hr3 (by first | assumption | simp | omega) (E.st.sub (List.nil_sublist _)) hr21).mono ?_
        rintro e W' ⟨rfl, X⟩
        refine ⟨_, rfl, here (At.mk (F.put (by decide) _) (E.call0 X)) ?_⟩
        clear X E F W W' a
        refine l_yg (y_not rfl rfl) rfl rfl rfl rfl rfl (by decide) ?_
        refine l_y (y_pickf rfl rfl rfl) rfl rfl (by decide) ?_
        refine l_y (y_move rfl rfl) rfl rfl (by decide) ?_
        by_cases c23 : r21 = true
        · rw [if_pos c23] at H
          refine s_lit (t := 27) rfl (not_f c23) ?_
          refine l_yg (y_loadA (cs := [.int .i64 a1.Kind, .int .i64 a1.Count, .slice A5 a1.Kids.length c6]) ia24 rfl rfl rfl (cls_own (i := 0) rfl rfl)) rfl rfl rfl rfl rfl (by decide) ?_
          refine l_wg rfl rfl rfl rfl ?_
          obtain ⟨r24, hr24, H⟩ := Option.bind_eq_some_iff.1 H
          refine w_call (args := [.agg #[.int .i64 a1.Kind, .int .i64 a1.Count, .slice A5 a1.Kids.length c6]]) (caps := []) has19 rfl rfl rfl rfl (by decide) (fun a W F E => ?_)
          refine (types_Right.calls k_j1 a1 A5 c6 I W r24 hr7 (by first | assumption | simp | omega) (E.st.sub (List.nil_sublist _)) hr24).mono ?_
          rintro e W' ⟨rfl, X⟩
          refine ⟨_, rfl, here (At.mk (F.put (by decide) _) (E.call0 X)) ?_⟩
          clear X E F W W' a
          refine l_yg (y_not rfl rfl) rfl rfl rfl rfl rfl (by decide) ?_
          refine l_y (y_pickf rfl rfl rfl) rfl rfl (by decide) ?_
          refine l_nil ?_
          refine s_perm pf1 ?_
          refine s_perm pf1 ?_
          exact fun a W hA => ⟨k_j1, (!r24), H, (by omega), ⟨hA.fits.only ⟨rfl, rfl, rfl, rfl, trivial⟩, hA.ext⟩⟩
        · rw [if_neg c23] at H
          refine s_lit (t := 27) rfl (not_t (Bool.eq_false_iff.2 c23)) ?_
          refine l_off rfl rfl rfl rfl rfl rfl (by decide) ?_
          refine l_off rfl rfl rfl rfl rfl rfl (by decide) ?_
          refine l_off rfl rfl rfl rfl rfl rfl (by decide) ?_
          refine l_y (y_pickt rfl rfl rfl) rfl rfl (by decide) ?_
          refine l_nil ?_
          refine s_perm pf1 ?_
          refine s_perm pf1 ?_
          exact fun a W hA => ⟨k_j1, true, H, (by omega), ⟨hA.fits.only ⟨rfl, rfl, rfl, rfl, trivial⟩, hA.ext⟩⟩
      · rw [if_neg c20] at H
        refine s_lit (t := 22) rfl (not_t (Bool.eq_false_iff.2 c20)) ?_
        refine l_off rfl rfl rfl rfl rfl rfl (by decide) ?_
        refine l_off rfl rfl rfl rfl rfl rfl (by decide) ?_
        refine l_off rfl rfl rfl rfl rfl rfl (by decide) ?_
        refine l_y (y_pickt rfl rfl rfl) rfl rfl (by decide) ?_
        refine l_y (y_move rfl rfl) rfl rfl (by decide) ?_
        refine l_off rfl rfl rfl rfl rfl rfl (by decide) ?_
        refine l_off rfl rfl rfl rfl rfl rfl (by decide) ?_
        refine l_off rfl rfl rfl rfl rfl rfl (by decide) ?_
        refine l_y (y_pickt rfl rfl rfl) rfl rfl (by decide) ?_
        refine l_nil ?_
        refine s_perm pf1 ?_
        refine s_perm pf1 ?_
        exact fun a W hA => ⟨k_j1, true, H, (by omega), ⟨hA.fits.only ⟨rfl, rfl, rfl, rfl, trivial⟩, hA.ext⟩⟩
    clear H
    rintro a W ⟨kq, x19, H, hk, hA⟩
    refine here hA ?_
    clear hA a W
    cases kq with
    | zero => exact absurd H (by simp [swagelaw11_TypesLie.j2])
    | succ k_j2 =>
      simp only [swagelaw11_TypesLie.j2] at H
      by_cases c26 : x19 = true
      · rw [if_pos c26] at H
        refine s_lit (t := 31) rfl c26 ?_
        refine c_true rfl ?_
        refine c_seq ?_
        refine g_plain ?_
        refine l_y (y_move rfl rfl) rfl rfl (by decide) ?_
        refine l_y (y_assign rfl rfl) rfl rfl (by decide) ?_
        refine l_nil ?_
        refine x_next ?_
        refine c_ret ?_
        refine x_then rfl ?_
        obtain rfl := Option.some.inj H
        exact g_ret [.bool r11] (congrArg Array.toList Tryd.results5) (.cons (.t rfl) .nil) (fun W E => ⟨rfl, E.drop (List.nil_sublist _)⟩)
      · rw [if_neg c26] at H
        refine s_lit (t := 31) rfl (Bool.eq_false_iff.2 c26) ?_
        refine c_false rfl ?_
        refine c_skip ?_
        refine x_next ?_
        refine c_join (fun a W => ∃ (kq : Nat), swagelaw11_TypesLie.j3 kq a0 r11 = some r ∧ kq ≤ k_j2 ∧ At 113 [] [(2, .pointer (some ⟨β9, 0, none⟩)), (5, .bool r11)] I [] w I [.cells β10 24 [.int .i64 a1.Kind, .int .i64 a1.Count, .slice A5 a1.Kids.length c6] 3, .cells β9 24 [.int .i64 a0.Kind, .int .i64 a0.Count, .slice A1 a0.Kids.length c2] 3] a W) ?_ ?_
        · skip
          refine c_seq ?_
          refine d_start [.cells β10 24 [.int .i64 a1.Kind, .int .i64 a1.Count, .slice A5 a1.Kids.length c6] 3, .cells β9 24 [.int .i64 a0.Kind, .int .i64 a0.Count, .slice A1 a0.Kids.length c2] 3] [] (bits 9 0) mixed_ rfl (by kernel_rfl) (pick_mem (is := [0, 1]) ⟨rfl, rfl, trivial⟩) ?_
          refine d_take 0 (bits 9 1) (y_loadA (cs := [.int .i64 a0.Kind, .int .i64 a0.Count, .slice A1 a0.Kids.length c2]) ia24 rfl rfl rfl (cls_own (i := 1) rfl rfl)) rfl rfl (by decide) (by kernel_rfl) (fun _ _ _ h => h) (.none rfl) (Imm.rfl' _) (pick_mem (is := [0, 1]) ⟨rfl, rfl, trivial⟩) ?_
          refine d_take 2 (bits 9 5) (y_loadA (cs := [.int .i64 a1.Kind, .int .i64 a1.Count, .slice A5 a1.Kids.length c6]) ia24 rfl rfl rfl (cls_own (i := 0) rfl rfl)) rfl rfl (by decide) (by kernel_rfl) (fun _ _ _ h => h) (.none rfl) (Imm.rfl' _) (pick_mem (is := [0, 1]) ⟨rfl, rfl, trivial⟩) ?_
          refine d_take 5 (bits 9 37) (y_loadA (cs := [.int .i64 a0.Kind, .int .i64 a0.Count, .slice A1 a0.Kids.length c2]) ia24 rfl rfl rfl (cls_own (i := 1) rfl rfl)) rfl rfl (by decide) (by kernel_rfl) (fun _ _ _ h => h) (.none rfl) (Imm.rfl' _) (pick_mem (is := [0, 1]) ⟨rfl, rfl, trivial⟩) ?_
          refine d_take 6 (bits 9 101) (y_loadA (cs := [.int .i64 a1.Kind, .int .i64 a1.Count, .slice A5 a1.Kids.length c6]) ia24 rfl rfl rfl (cls_own (i := 0) rfl rfl)) rfl rfl (by decide) (by kernel_rfl) (fun _ _ _ h => h) (.none rfl) (Imm.rfl' _) (pick_mem (is := [0, 1]) ⟨rfl, rfl, trivial⟩) ?_
          refine d_one 1 (bits 9 103) rfl (by kernel_rfl) (by decide) (.none rfl) (fun K hK => ?_)
          obtain ⟨r27, hr27, H⟩ := Option.bind_eq_some_iff.1 H
          refine w_call (args := [.agg #[.int .i64 a0.Kind, .int .i64 a0.Count, .slice A1 a0.Kids.length c2]]) (caps := []) has26 rfl rfl rfl rfl (by decide) (fun a W F E => ?_)
          refine (types_Text.calls k_j2 a0 A1 c2 I W r27 hr3 (by first | assumption | simp | omega) (E.st.sub (List.nil_sublist _)) (hT.mono (Imm.rfl' _)) hr27).mono ?_
          rintro e W' ⟨rfl, X⟩
          refine ⟨_, rfl, here (At.mk (F.put (by decide) _) (E.call0 X)) ?_⟩
          clear X E F W W' a
          refine d_k hK (Imm.rfl' _) (pick_mem (is := [0, 1]) ⟨rfl, rfl, trivial⟩) ?_
          clear hK K
          refine d_one 3 (bits 9 111) rfl (by kernel_rfl) (by decide) (.none rfl) (fun K hK => ?_)
          obtain ⟨r29, hr29, H⟩ := Option.bind_eq_some_iff.1 H
          refine w_call (args := [.agg #[.int .i64 a1.Kind, .int .i64 a1.Count, .slice A5 a1.Kids.length c6]]) (caps := []) has26 rfl rfl rfl rfl (by decide) (fun a W F E => ?_)
          refine (types_Text.calls k_j2 a1 A5 c6 I W r29 hr7 (by first | assumption | simp | omega) (E.st.sub (List.nil_sublist _)) (hT.mono (Imm.rfl' _)) hr29).mono ?_
          rintro e W' ⟨rfl, X⟩
          refine ⟨_, rfl, here (At.mk (F.put (by decide) _) (E.call0 X)) ?_⟩
          clear X E F W W' a
          refine d_k hK (Imm.rfl' _) (pick_mem (is := [0, 1]) ⟨rfl, rfl, trivial⟩) ?_
          clear hK K
          refine d_pure 4 (bits 9 127) (y_bin rfl rfl rfl bi_seq) rfl rfl (by decide) (by kernel_rfl) (fun _ _ _ h => h) (.none rfl) ?_
          refine d_one 7 (bits 9 255) rfl (by kernel_rfl) (by decide) (.none rfl) (fun K hK => ?_)
          obtain ⟨r31, hr31, H⟩ := Option.bind_eq_some_iff.1 H
          refine w_call (args := [.agg #[.int .i64 a0.Kind, .int .i64 a0.Count, .slice A1 a0.Kids.length c2], .agg #[.int .i64 a1.Kind, .int .i64 a1.Count, .slice A5 a1.Kids.length c6]]) (caps := []) has23 rfl rfl rfl rfl (by decide) (fun a W F E => ?_)
          refine (types_Same.calls k_j2 a0 a1 A1 c2 A5 c6 I W r31 hr3 (by first | assumption | simp | omega) hr7 (by first | assumption | simp | omega) (E.st.sub (List.nil_sublist _)) hr31).mono ?_
          rintro e W' ⟨rfl, X⟩
          refine ⟨_, rfl, here (At.mk (F.put (by decide) _) (E.call0 X)) ?_⟩
          clear X E F W W' a
          refine d_k hK (Imm.rfl' _) (pick_mem (is := [0, 1]) ⟨rfl, rfl, trivial⟩) ?_
          clear hK K
          refine d_pure 8 (bits 9 511) (y_bin rfl rfl rfl (bi_bne Tryd.underlying4)) rfl rfl (by decide) (by kernel_rfl) (fun _ _ _ h => h) (.none rfl) ?_
          refine d_done (by kernel_rfl) ?_
          refine x_next ?_
          by_cases c33 : r27 = r29
          · rw [if_pos c33] at H
            by_cases c34 : r31 = true
            · rw [if_pos c34] at H
              refine s_lit (t := 41) rfl (not_f (beq_of (decide_eq_true c33) c34)) ?_
              refine c_false rfl ?_
              refine c_skip ?_
              refine s_perm pf1 ?_
              refine s_perm pf1 ?_
              exact fun a W hA => ⟨k_j2, H, (by omega), ⟨hA.fits.only ⟨rfl, rfl, trivial⟩, hA.ext⟩⟩
            · rw [if_neg c34] at H
              refine s_lit (t := 41) rfl (not_t (beq_of (decide_eq_true c33) (Bool.eq_false_iff.2 c34))) ?_
              refine c_true rfl ?_
              refine c_seq ?_
              refine g_plain ?_
              refine l_y (y_assign rfl rfl) rfl rfl (by decide) ?_
              refine l_nil ?_
              refine x_next ?_
              refine c_ret ?_
              refine x_then rfl ?_
              obtain rfl := Option.some.inj H
              exact g_ret [.bool false] (congrArg Array.toList Tryd.results5) (.cons (.t rfl) .nil) (fun W E => ⟨rfl, E.drop (List.nil_sublist _)⟩)
          · rw [if_neg c33] at H
            by_cases c35 : r31 = true
            · rw [if_pos c35] at H
              refine s_lit (t := 41) rfl (not_t (beq_of (decide_eq_false c33) c35)) ?_
              refine c_true rfl ?_
              refine c_seq ?_
              refine g_plain ?_
              refine l_y (y_assign rfl rfl) rfl rfl (by decide) ?_
              refine l_nil ?_
              refine x_next ?_
              refine c_ret ?_
              refine x_then rfl ?_
              obtain rfl := Option.some.inj H
              exact g_ret [.bool false] (congrArg Array.toList Tryd.results5) (.cons (.t rfl) .nil) (fun W E => ⟨rfl, E.drop (List.nil_sublist _)⟩)
            · rw [if_neg c35] at H
              refine s_lit (t := 41) rfl (not_f (beq_of (decide_eq_false c33) (Bool.eq_false_iff.2 c35))) ?_
              refine c_false rfl ?_
              refine c_skip ?_
              refine s_perm pf1 ?_
              refine s_perm pf1 ?_
              exact fun a W hA => ⟨k_j2, H, (by omega), ⟨hA.fits.only ⟨rfl, rfl, trivial⟩, hA.ext⟩⟩
        clear H
        rintro a W ⟨kq, H, hk, hA⟩
        refine here hA ?_
        clear hA a W
        cases kq with
        | zero => exact absurd H (by simp [swagelaw11_TypesLie.j3])
        | succ k_j3 =>
          simp only [swagelaw11_TypesLie.j3] at H
          refine c_seq ?_
          refine g_plain ?_
          refine l_y (y_assign rfl rfl) rfl rfl (by decide) ?_
          refine l_nil ?_
          refine x_next ?_
          refine c_seq ?_
          refine g_plain ?_
          refine l_y (y_field (j' := 2) fa24_2 rfl rfl rfl) rfl rfl (by decide) ?_
          refine l_y (y_load is22 rfl rfl (cl_own (i := 1) (j := 2) rfl rfl)) rfl rfl (by decide) ?_
          refine l_y (y_len Tryd.underlying22 rfl rfl) rfl rfl (by decide) ?_
          refine l_y (y_assign rfl rfl) rfl rfl (by decide) ?_
          refine l_nil ?_
          refine x_next ?_
          refine c_join (fun a W => ∃ (kq : Nat) (x36 : Int), swagelaw11_TypesLie.j4 kq x36 a0 r11 = some r ∧ kq ≤ k_j3 ∧ At 113 [] [(2, .pointer (some ⟨β9, 0, none⟩)), (5, .bool r11), (7, .int .i64 0), (8, .int .i64 x36)] I [] w I [.cells β10 24 [.int .i64 a1.Kind, .int .i64 a1.Count, .slice A5 a1.Kids.length c6] 3, .cells β9 24 [.int .i64 a0.Kind, .int .i64 a0.Count, .slice A1 a0.Kids.length c2] 3] a W) ?_ ?_
          · skip
            refine c_seq ?_
            refine g_plain ?_
            refine l_y (y_field (j' := 0) fa24_0 rfl rfl rfl) rfl rfl (by decide) ?_
            refine l_y (y_load is3 rfl rfl (cl_own (i := 1) (j := 0) rfl rfl)) rfl rfl (by decide) ?_
            refine l_y (y_bin rfl rfl rfl bi_eq) rfl rfl (by decide) ?_
            refine l_nil ?_
            refine x_next ?_
            by_cases c37 : a0.Kind = 3
            · rw [if_pos c37] at H
              refine s_lit (t := 47) rfl (decide_eq_true c37) ?_
              refine c_true rfl ?_
              refine g_plain ?_
              refine l_y (y_field (j' := 1) fa24_1 rfl rfl rfl) rfl rfl (by decide) ?_
              refine l_y (y_load is3 rfl rfl (cl_own (i := 1) (j := 1) rfl rfl)) rfl rfl (by decide) ?_
              refine l_y (y_min rfl rfl rfl) rfl rfl (by decide) ?_
              refine l_y (y_assign rfl rfl) rfl rfl (by decide) ?_
              refine l_nil ?_
              refine s_perm pf1 ?_
              refine s_perm pf1 ?_
              exact fun a W hA => ⟨k_j3, (min a0.Count 100), H, (by omega), ⟨hA.fits.only ⟨rfl, rfl, rfl, rfl, trivial⟩, hA.ext⟩⟩
            · rw [if_neg c37] at H
              refine s_lit (t := 47) rfl (decide_eq_false c37) ?_
              refine c_false rfl ?_
              refine c_skip ?_
              refine s_perm pf1 ?_
              refine s_perm pf1 ?_
              exact fun a W hA => ⟨k_j3, (a0.Kids.length : Int), H, (by omega), ⟨hA.fits.only ⟨rfl, rfl, rfl, rfl, trivial⟩, hA.ext⟩⟩
          clear H
          rintro a W ⟨kq, x36, H, hk, hA⟩
          refine here hA ?_
          clear hA a W
          cases kq with
          | zero => exact absurd H (by simp [swagelaw11_TypesLie.j4])
          | succ k_j4 =>
            simp only [swagelaw11_TypesLie.j4] at H
            refine c_seq ?_
            refine c_seq ?_
            refine g_plain ?_
            refine l_y (y_assign rfl rfl) rfl rfl (by decide) ?_
            refine l_nil ?_
            refine x_next ?_
            refine c_block ?_
            refine s_perm pf1 ?_
            refine s_perm pf1 ?_
            refine c_loop (fun kq a W => ∃ (x38 : Int) (x39 : Int) (x40 : List GType) (A41 : Option Addr) (c42 : Nat), swagelaw11_TypesLie.l0 kq x38 x39 x40 a0 x36 r11 = some r ∧ kq ≤ k_j4 ∧ RowsG R_Type 3 40 I A41 x40 ∧ x40.length ≤ c42 ∧ At 113 [] [(2, .pointer (some ⟨β9, 0, none⟩)), (5, .bool r11), (7, .int .i64 x38), (8, .int .i64 x36), (9, .int .i64 x39)] I [] w I [.cells β10 24 [.int .i64 a1.Kind, .int .i64 a1.Count, .slice A5 a1.Kids.length c6] 3, .cells β9 24 [.int .i64 a0.Kind, .int .i64 a0.Count, .slice A41 x40.length c42] 3] a W) k_j4 (fun a W hA => ⟨0, 0, a0.Kids, A1, c2, H, (Nat.le_refl _), hr3, (by first | assumption | simp | omega), ⟨hA.fits.only ⟨rfl, rfl, rfl, rfl, rfl, trivial⟩, hA.ext⟩⟩) ?_
            clear H
            rintro kq a W ⟨x38, x39, x40, A41, c42, H, hk, hr43, chr43, hA⟩
            refine here hA ?_
            clear hA a W
            cases kq with
            | zero => exact absurd H (by simp [swagelaw11_TypesLie.l0])
            | succ k0 =>
              simp only [swagelaw11_TypesLie.l0] at H
              refine c_seq ?_
              refine c_join (fun a W => ∃ (kq : Nat) (x44 : Bool), swagelaw11_TypesLie.j10 kq x44 a0 x40 x39 x38 r11 x36 = some r ∧ kq ≤ k0 ∧ At 113 [] [(2, .pointer (some ⟨β9, 0, none⟩)), (5, .bool r11), (7, .int .i64 x38), (8, .int .i64 x36), (9, .int .i64 x39), (58, .bool x44)] I [] w I [.cells β10 24 [.int .i64 a1.Kind, .int .i64 a1.Count, .slice A5 a1.Kids.length c6] 3, .cells β9 24 [.int .i64 a0.Kind, .int .i64 a0.Count, .slice A41 x40.length c42] 3] a W) ?_ ?_
              · skip
                refine g_plain ?_
                refine l_y (y_move rfl rfl) rfl rfl (by decide) ?_
                refine l_y (y_move rfl rfl) rfl rfl (by decide) ?_
                refine l_y (y_bin rfl rfl rfl bi_lt) rfl rfl (by decide) ?_
                refine l_y (y_move rfl rfl) rfl rfl (by decide) ?_
                by_cases c45 : x39 < x36
                · rw [if_pos c45] at H
                  refine s_lit (t := 54) rfl (decide_eq_true c45) ?_
                  refine l_yg (y_field (j' := 0) fa24_0 rfl rfl rfl) rfl rfl rfl rfl rfl (by decide) ?_
                  refine l_yg (y_load is3 rfl rfl (cl_own (i := 1) (j := 0) rfl rfl)) rfl rfl rfl rfl rfl (by decide) ?_
                  refine l_yg (y_bin rfl rfl rfl bi_ne) rfl rfl rfl rfl rfl (by decide) ?_
                  refine l_y (y_pickt rfl rfl rfl) rfl rfl (by decide) ?_
                  refine l_nil ?_
                  refine s_perm pf1 ?_
                  refine s_perm pf1 ?_
                  exact fun a W hA => ⟨k0, (!(decide (a0.Kind = 2))), H, (by omega), ⟨hA.fits.only ⟨rfl, rfl, rfl, rfl, rfl, rfl, trivial⟩, hA.ext⟩⟩
                · rw [if_neg c45] at H
                  refine s_lit (t := 54) rfl (decide_eq_false c45) ?_
                  refine l_off rfl rfl rfl rfl rfl rfl (by decide) ?_
                  refine l_off rfl rfl rfl rfl rfl rfl (by decide) ?_
                  refine l_off rfl rfl rfl rfl rfl rfl (by decide) ?_
                  refine l_y (y_pickf rfl rfl rfl) rfl rfl (by decide) ?_
                  refine l_nil ?_
                  refine s_perm pf1 ?_
                  refine s_perm pf1 ?_
                  exact fun a W hA => ⟨k0, false, H, (by omega), ⟨hA.fits.only ⟨rfl, rfl, rfl, rfl, rfl, rfl, trivial⟩, hA.ext⟩⟩
              clear H
              rintro a W ⟨kq, x44, H, hk, hA⟩
              refine here hA ?_
              clear hA a W
              cases kq with
              | zero => exact absurd H (by simp [swagelaw11_TypesLie.j10])
              | succ k_j10 =>
                simp only [swagelaw11_TypesLie.j10] at H
                by_cases c46 : x44 = true
                · rw [if_pos c46] at H
                  refine s_lit (t := 58) rfl c46 ?_
                  refine c_true rfl ?_
                  refine c_skip ?_
                  refine x_next ?_
                  refine c_join (fun a W => ∃ (kq : Nat) (x47 : Int) (x48 : List GType) (A49 : Option Addr) (c50 : Nat), swagelaw11_TypesLie.j12 kq x47 x48 x39 a0 x36 r11 = some r ∧ kq ≤ k_j10 ∧ RowsG R_Type 3 40 I A49 x48 ∧ x48.length ≤ c50 ∧ At 113 [] [(2, .pointer (some ⟨β9, 0, none⟩)), (5, .bool r11), (7, .int .i64 x47), (8, .int .i64 x36), (9, .int .i64 x39)] I [] w I [.cells β10 24 [.int .i64 a1.Kind, .int .i64 a1.Count, .slice A5 a1.Kids.length c6] 3, .cells β9 24 [.int .i64 a0.Kind, .int .i64 a0.Count, .slice A49 x48.length c50] 3] a W) ?_ ?_
                  · skip
                    refine c_block ?_
                    refine c_seq ?_
                    refine g_plain ?_
                    refine l_y (y_loadA (cs := [.int .i64 a0.Kind, .int .i64 a0.Count, .slice A41 x40.length c42]) ia24 rfl rfl rfl (cls_own (i := 1) rfl rfl)) rfl rfl (by decide) ?_
                    refine l_y (y_move rfl rfl) rfl rfl (by decide) ?_
                    refine l_w rfl ?_
                    obtain ⟨r52, hr52, H⟩ := Option.bind_eq_some_iff.1 H
                    refine w_call (args := [.agg #[.int .i64 a0.Kind, .int .i64 a0.Count, .slice A41 x40.length c42], .int .i64 x39]) (caps := []) has17 rfl rfl rfl rfl (by decide) (fun a W F E => ?_)
                    refine (types_Offset.calls k_j10 (⟨a0.Kind, a0.Count, x40⟩ : GType) x39 A41 c42 I W r52 hr43 (by first | assumption | simp | omega) (E.st.sub (List.nil_sublist _)) hr52).mono ?_
                    rintro e W' ⟨rfl, X⟩
                    refine ⟨_, rfl, here (At.mk (F.put (by decide) _) (E.call0 X)) ?_⟩
                    clear X E F W W' a
                    refine l_y (y_move rfl rfl) rfl rfl (by decide) ?_
                    refine l_y (y_extract rfl rfl rfl) rfl rfl (by decide) ?_
                    refine l_y (y_extract rfl rfl rfl) rfl rfl (by decide) ?_
                    refine l_y (y_assign rfl rfl) rfl rfl (by decide) ?_
                    refine l_y (y_assign rfl rfl) rfl rfl (by decide) ?_
                    refine l_nil ?_
                    refine x_next ?_
                    refine c_seq ?_
                    refine c_join (fun a W => ∃ (kq : Nat) (x54 : Bool), swagelaw11_TypesLie.j13 kq x54 a0 x40 x39 x38 x36 r11 = some r ∧ kq ≤ k_j10 ∧ At 113 [] [(2, .pointer (some ⟨β9, 0, none⟩)), (5, .bool r11), (7, .int .i64 x38), (8, .int .i64 x36), (9, .int .i64 x39), (73, .bool x54)] I [] w I [.cells β10 24 [.int .i64 a1.Kind, .int .i64 a1.Count, .slice A5 a1.Kids.length c6] 3, .cells β9 24 [.int .i64 a0.Kind, .int .i64 a0.Count, .slice A41 x40.length c42] 3] a W) ?_ ?_
                    · skip
                      refine g_plain ?_
                      refine l_y (y_move rfl rfl) rfl rfl (by decide) ?_
                      refine l_y (y_not rfl rfl) rfl rfl (by decide) ?_
                      refine l_y (y_move rfl rfl) rfl rfl (by decide) ?_
                      by_cases c55 : r52.2 = true
                      · rw [if_pos c55] at H
                        refine s_lit (t := 69) rfl (not_f c55) ?_
                        refine l_yg (y_move rfl rfl) rfl rfl rfl rfl rfl (by decide) ?_
                        refine l_yg (y_move rfl rfl) rfl rfl rfl rfl rfl (by decide) ?_
                        refine l_yg (y_bin rfl rfl rfl bi_ne) rfl rfl rfl rfl rfl (by decide) ?_
                        refine l_y (y_pickf rfl rfl rfl) rfl rfl (by decide) ?_
                        refine l_nil ?_
                        refine s_perm pf1 ?_
                        refine s_perm pf1 ?_
                        exact fun a W hA => ⟨k_j10, (!(decide (r52.1 = x38))), H, (by omega), ⟨hA.fits.only ⟨rfl, rfl, rfl, rfl, rfl, rfl, trivial⟩, hA.ext⟩⟩
                      · rw [if_neg c55] at H
                        refine s_lit (t := 69) rfl (not_t (Bool.eq_false_iff.2 c55)) ?_
                        refine l_off rfl rfl rfl rfl rfl rfl (by decide) ?_
                        refine l_off rfl rfl rfl rfl rfl rfl (by decide) ?_
                        refine l_off rfl rfl rfl rfl rfl rfl (by decide) ?_
                        refine l_y (y_pickt rfl rfl rfl) rfl rfl (by decide) ?_
                        refine l_nil ?_
                        refine s_perm pf1 ?_
                        refine s_perm pf1 ?_
                        exact fun a W hA => ⟨k_j10, true, H, (by omega), ⟨hA.fits.only ⟨rfl, rfl, rfl, rfl, rfl, rfl, trivial⟩, hA.ext⟩⟩
                    clear H
                    rintro a W ⟨kq, x54, H, hk, hA⟩
                    refine here hA ?_
                    clear hA a W
                    cases kq with
                    | zero => exact absurd H (by simp [swagelaw11_TypesLie.j13])
                    | succ k_j13 =>
                      simp only [swagelaw11_TypesLie.j13] at H
                      by_cases c56 : x54 = true
                      · rw [if_pos c56] at H
                        refine s_lit (t := 73) rfl c56 ?_
                        refine c_true rfl ?_
                        refine c_seq ?_
                        refine g_plain ?_
                        refine l_y (y_assign rfl rfl) rfl rfl (by decide) ?_
                        refine l_nil ?_
                        refine x_next ?_
                        refine c_ret ?_
                        refine x_then rfl ?_
                        refine x_ret ?_
                        refine x_then rfl ?_
                        refine x_then rfl ?_
                        refine x_ret ?_
                        refine x_then rfl ?_
                        obtain rfl := Option.some.inj H
                        exact g_ret [.bool false] (congrArg Array.toList Tryd.results5) (.cons (.t rfl) .nil) (fun W E => ⟨rfl, E.drop (List.nil_sublist _)⟩)
                      · rw [if_neg c56] at H
                        refine s_lit (t := 73) rfl (Bool.eq_false_iff.2 c56) ?_
                        refine c_false rfl ?_
                        refine c_skip ?_
                        refine x_next ?_
                        refine c_seq ?_
                        refine g_plain ?_
                        refine l_y (y_field (j' := 2) fa24_2 rfl rfl rfl) rfl rfl (by decide) ?_
                        refine l_y (y_load is22 rfl rfl (cl_own (i := 1) (j := 2) rfl rfl)) rfl rfl (by decide) ?_
                        by_cases c57 : 0 < (x40.length : Int)
                        rotate_left
                        · rw [if_neg c57] at H; exact absurd H (by simp)
                        rw [if_pos c57] at H
                        obtain ⟨b58, o59, hA_, hE60⟩ := hr43.elem (by omega)
                        obtain rfl := hA_
                        obtain ⟨cs63, hR64, hC65⟩ := hE60 0 (by decide) c57
                        obtain ⟨A61, c62, rfl, hr66, chr66⟩ := hR64.open
                        refine l_y (y_index sl22 rfl rfl rfl (by decide) c57) rfl rfl (by decide) ?_
                        refine l_y (y_loadA (cs := [.int .i64 ((rd x40 0).Kind), .int .i64 ((rd x40 0).Count), .slice A61 (((rd x40 0).Kids).length) c62]) ia24 rfl rfl rfl hC65.cls) rfl rfl (by decide) ?_
                        refine l_w rfl ?_
                        refine w_alloc (cs := [.int .i64 0, .int .i64 0, .slice none 0 0]) (m := 3) zz24 rfl rfl rfl rfl (by decide) (fun β67 => ?_)
                        refine l_w rfl ?_
                        refine w_store0 (cs' := [.int .i64 ((rd x40 0).Kind), .int .i64 ((rd x40 0).Count), .slice A61 (((rd x40 0).Kids).length) c62]) sz24 rfl rfl rfl rfl rfl (Nat.le_of_ble_eq_true rfl) rfl rfl ?_
                        refine l_nil ?_
                        refine x_next ?_
                        refine c_join (fun a W => ∃ (kq : Nat) (x68 : Int) (x69 : Int) (x70 : List GType) (A71 : Option Addr) (c72 : Nat), swagelaw11_TypesLie.j14 kq x68 x69 x70 x38 x40 x39 a0 x36 r11 = some r ∧ kq ≤ k_j13 ∧ RowsG R_Type 3 40 I A71 x70 ∧ x70.length ≤ c72 ∧ At 113 [] [(2, .pointer (some ⟨β9, 0, none⟩)), (5, .bool r11), (7, .int .i64 x38), (8, .int .i64 x36), (9, .int .i64 x39), (12, .pointer (some ⟨β67, 0, none⟩))] I [] w I [.cells β67 24 [.int .i64 x68, .int .i64 x69, .slice A71 x70.length c72] 3, .cells β10 24 [.int .i64 a1.Kind, .int .i64 a1.Count, .slice A5 a1.Kids.length c6] 3, .cells β9 24 [.int .i64 a0.Kind, .int .i64 a0.Count, .slice (some ⟨b58, o59, none⟩) x40.length c42] 3] a W) ?_ ?_
                        · skip
                          refine c_seq ?_
                          refine g_plain ?_
                          refine l_y (y_field (j' := 0) fa24_0 rfl rfl rfl) rfl rfl (by decide) ?_
                          refine l_y (y_load is3 rfl rfl (cl_own (i := 2) (j := 0) rfl rfl)) rfl rfl (by decide) ?_
                          refine l_y (y_bin rfl rfl rfl bi_eq) rfl rfl (by decide) ?_
                          refine l_nil ?_
                          refine x_next ?_
                          by_cases c74 : a0.Kind = 4
                          · rw [if_pos c74] at H
                            refine s_lit (t := 80) rfl (decide_eq_true c74) ?_
                            refine c_true rfl ?_
                            refine g_plain ?_
                            refine l_y (y_field (j' := 2) fa24_2 rfl rfl rfl) rfl rfl (by decide) ?_
                            refine l_y (y_load is22 rfl rfl (cl_own (i := 2) (j := 2) rfl rfl)) rfl rfl (by decide) ?_
                            refine l_y (y_move rfl rfl) rfl rfl (by decide) ?_
                            by_cases c75 : 0 ≤ x39 ∧ x39 < (x40.length : Int)
                            rotate_left
                            · rw [if_neg c75] at H; exact absurd H (by simp)
                            rw [if_pos c75] at H
                            obtain ⟨cs78, hR79, hC80⟩ := hE60 x39 c75.1 c75.2
                            obtain ⟨A76, c77, rfl, hr81, chr81⟩ := hR79.open
                            refine l_y (y_index sl22 rfl rfl rfl c75.1 c75.2) rfl rfl (by decide) ?_
                            refine l_y (y_loadA (cs := [.int .i64 ((rd x40 x39).Kind), .int .i64 ((rd x40 x39).Count), .slice A76 (((rd x40 x39).Kids).length) c77]) ia24 rfl rfl rfl hC80.cls) rfl rfl (by decide) ?_
                            refine l_w rfl ?_
                            refine w_store0 (cs' := [.int .i64 ((rd x40 x39).Kind), .int .i64 ((rd x40 x39).Count), .slice A76 (((rd x40 x39).Kids).length) c77]) sz24 rfl rfl rfl rfl rfl (Nat.le_of_ble_eq_true rfl) rfl rfl ?_
                            refine l_nil ?_
                            refine s_perm pf2 ?_
                            refine s_perm pf2 ?_
                            refine s_perm pf2 ?_
                            exact fun a W hA => ⟨k_j13, ((rd x40 x39).Kind), ((rd x40 x39).Count), ((rd x40 x39).Kids), A76, c77, H, (by omega), hr81, (by first | assumption | simp | omega), ⟨hA.fits.only ⟨rfl, rfl, rfl, rfl, rfl, rfl, trivial⟩, hA.ext⟩⟩
                          · rw [if_neg c74] at H
                            refine s_lit (t := 80) rfl (decide_eq_false c74) ?_
                            refine c_false rfl ?_
                            refine c_skip ?_
                            refine s_perm pf2 ?_
                            refine s_perm pf2 ?_
                            refine s_perm pf2 ?_
                            exact fun a W hA => ⟨k_j13, ((rd x40 0).Kind), ((rd x40 0).Count), ((rd x40 0).Kids), A61, c62, H, (by omega), hr66, (by first | assumption | simp | omega), ⟨hA.fits.only ⟨rfl, rfl, rfl, rfl, rfl, rfl, trivial⟩, hA.ext⟩⟩
                        clear H
                        rintro a W ⟨kq, x68, x69, x70, A71, c72, H, hk, hr73, chr73, hA⟩
                        refine here hA ?_
                        clear hA a W
                        cases kq with
                        | zero => exact absurd H (by simp [swagelaw11_TypesLie.j14])
                        | succ k_j14 =>
                          simp only [swagelaw11_TypesLie.j14] at H
                          refine g_plain ?_
                          refine l_y (y_move rfl rfl) rfl rfl (by decide) ?_
                          refine l_y (y_loadA (cs := [.int .i64 x68, .int .i64 x69, .slice A71 x70.length c72]) ia24 rfl rfl rfl (cls_own (i := 0) rfl rfl)) rfl rfl (by decide) ?_
                          refine l_w rfl ?_
                          obtain ⟨r82, hr82, H⟩ := Option.bind_eq_some_iff.1 H
                          refine w_call (args := [.agg #[.int .i64 x68, .int .i64 x69, .slice A71 x70.length c72]]) (caps := []) has21 rfl rfl rfl rfl (by decide) (fun a W F E => ?_)
                          refine (types_Size.calls k_j14 (⟨x68, x69, x70⟩ : GType) A71 c72 I W r82 hr73 (by first | assumption | simp | omega) (E.st.sub (List.nil_sublist _)) hr82).mono ?_
                          rintro e W' ⟨rfl, X⟩
                          refine ⟨_, rfl, here (At.mk (F.put (by decide) _) (E.call0 X)) ?_⟩
                          clear X E F W W' a
                          refine l_y (y_bin rfl rfl rfl bi_add) rfl rfl (by decide) ?_
                          refine l_y (y_assign rfl rfl) rfl rfl (by decide) ?_
                          refine l_nil ?_
                          refine x_norm ?_
                          refine s_perm pf2 ?_
                          refine s_perm pf2 ?_
                          refine s_drop ((.cons_cons _ (.cons_cons _ (List.nil_sublist _)))) ?_
                          exact fun a W hA => ⟨k_j14, (IntKind.i64.wrap (x38 + r82)), x40, (some ⟨b58, o59, none⟩), c42, H, (by omega), hr43, (by first | assumption | simp | omega), ⟨hA.fits.only ⟨rfl, rfl, rfl, rfl, rfl, trivial⟩, hA.ext⟩⟩
                  clear H
                  rintro a W ⟨kq, x47, x48, A49, c50, H, hk, hr51, chr51, hA⟩
                  refine here hA ?_
                  clear hA a W
                  cases kq with
                  | zero => exact absurd H (by simp [swagelaw11_TypesLie.j12])
                  | succ k_j12 =>
                    simp only [swagelaw11_TypesLie.j12] at H
                    refine g_plain ?_
                    refine l_y (y_move rfl rfl) rfl rfl (by decide) ?_
                    refine l_y (y_bin rfl rfl rfl bi_add) rfl rfl (by decide) ?_
                    refine l_y (y_assign rfl rfl) rfl rfl (by decide) ?_
                    refine l_nil ?_
                    refine s_perm pf1 ?_
                    refine s_perm pf1 ?_
                    exact fun a W hA => ⟨k_j12, by omega, x47, (IntKind.i64.wrap (x39 + 1)), x48, A49, c50, H, (by omega), hr51, (by first | assumption | simp | omega), ⟨hA.fits.only ⟨rfl, rfl, rfl, rfl, rfl, trivial⟩, hA.ext⟩⟩
                · rw [if_neg c46] at H
                  refine s_lit (t := 58) rfl (Bool.eq_false_iff.2 c46) ?_
                  refine c_false rfl ?_
                  refine c_exit ?_
                  refine x_then rfl ?_
                  refine x_then rfl ?_
                  refine x_in ?_
                  refine x_next ?_
                  refine c_seq ?_
                  refine g_plain ?_
                  refine l_y (y_move rfl rfl) rfl rfl (by decide) ?_
                  refine l_y (y_move rfl rfl) rfl rfl (by decide) ?_
                  by_cases c84 : r11 = true
                  · rw [if_pos c84] at H
                    refine s_lit (t := 91) rfl c84 ?_
                    refine l_yg (y_move rfl rfl) rfl rfl rfl rfl rfl (by decide) ?_
                    refine l_yg (y_loadA (cs := [.int .i64 a0.Kind, .int .i64 a0.Count, .slice A41 x40.length c42]) ia24 rfl rfl rfl (cls_own (i := 1) rfl rfl)) rfl rfl rfl rfl rfl (by decide) ?_
                    refine l_wg rfl rfl rfl rfl ?_
                    obtain ⟨r85, hr85, H⟩ := Option.bind_eq_some_iff.1 H
                    refine w_call (args := [.agg #[.int .i64 a0.Kind, .int .i64 a0.Count, .slice A41 x40.length c42]]) (caps := []) has21 rfl rfl rfl rfl (by decide) (fun a W F E => ?_)
                    refine (types_Size.calls k_j10 (⟨a0.Kind, a0.Count, x40⟩ : GType) A41 c42 I W r85 hr43 (by first | assumption | simp | omega) (E.st.sub (List.nil_sublist _)) hr85).mono ?_
                    rintro e W' ⟨rfl, X⟩
                    refine ⟨_, rfl, here (At.mk (F.put (by decide) _) (E.call0 X)) ?_⟩
                    clear X E F W W' a
                    refine l_yg (y_bin rfl rfl rfl bi_le) rfl rfl rfl rfl rfl (by decide) ?_
                    refine l_y (y_pickt rfl rfl rfl) rfl rfl (by decide) ?_
                    refine l_y (y_move rfl rfl) rfl rfl (by decide) ?_
                    by_cases c87 : x38 ≤ r85
                    · rw [if_pos c87] at H
                      refine s_lit (t := 97) rfl (decide_eq_true c87) ?_
                      refine l_yg (y_field (j' := 0) fa24_0 rfl rfl rfl) rfl rfl rfl rfl rfl (by decide) ?_
                      refine l_yg (y_load is3 rfl rfl (cl_own (i := 1) (j := 0) rfl rfl)) rfl rfl rfl rfl rfl (by decide) ?_
                      refine l_yg (y_bin rfl rfl rfl bi_ne) rfl rfl rfl rfl rfl (by decide) ?_
                      refine l_yg (y_move rfl rfl) rfl rfl rfl rfl rfl (by decide) ?_
                      by_cases c88 : a0.Kind = 4
                      · rw [if_pos c88] at H
                        refine s_lit (t := 101) rfl (not_f (decide_eq_true c88)) ?_
                        refine l_yg (y_move rfl rfl) rfl rfl rfl rfl rfl (by decide) ?_
                        refine l_yg (y_loadA (cs := [.int .i64 a0.Kind, .int .i64 a0.Count, .slice A41 x40.length c42]) ia24 rfl rfl rfl (cls_own (i := 1) rfl rfl)) rfl rfl rfl rfl rfl (by decide) ?_
                        refine l_wg rfl rfl rfl rfl ?_
                        obtain ⟨r89, hr89, H⟩ := Option.bind_eq_some_iff.1 H
                        refine w_call (args := [.agg #[.int .i64 a0.Kind, .int .i64 a0.Count, .slice A41 x40.length c42]]) (caps := []) has21 rfl rfl rfl rfl (by decide) (fun a W F E => ?_)
                        refine (types_Size.calls k_j10 (⟨a0.Kind, a0.Count, x40⟩ : GType) A41 c42 I W r89 hr43 (by first | assumption | simp | omega) (E.st.sub (List.nil_sublist _)) hr89).mono ?_
                        rintro e W' ⟨rfl, X⟩
                        refine ⟨_, rfl, here (At.mk (F.put (by decide) _) (E.call0 X)) ?_⟩
                        clear X E F W W' a
                        refine l_yg (y_bin rfl rfl rfl bi_eq) rfl rfl rfl rfl rfl (by decide) ?_
                        refine l_yg (y_pickf rfl rfl rfl) rfl rfl rfl rfl rfl (by decide) ?_
                        refine l_y (y_pickt rfl rfl rfl) rfl rfl (by decide) ?_
                        refine l_y (y_move rfl rfl) rfl rfl (by decide) ?_
                        by_cases c91 : x38 = r89
                        · rw [if_pos c91] at H
                          refine s_lit (t := 108) rfl (decide_eq_true c91) ?_
                          refine l_yg (y_loadA (cs := [.int .i64 a0.Kind, .int .i64 a0.Count, .slice A41 x40.length c42]) ia24 rfl rfl rfl (cls_own (i := 1) rfl rfl)) rfl rfl rfl rfl rfl (by decide) ?_
                          refine l_wg rfl rfl rfl rfl ?_
                          obtain ⟨r92, hr92, H⟩ := Option.bind_eq_some_iff.1 H
                          refine w_call (args := [.agg #[.int .i64 a0.Kind, .int .i64 a0.Count, .slice A41 x40.length c42]]) (caps := []) has21 rfl rfl rfl rfl (by decide) (fun a W F E => ?_)
                          refine (types_Size.calls k_j10 (⟨a0.Kind, a0.Count, x40⟩ : GType) A41 c42 I W r92 hr43 (by first | assumption | simp | omega) (E.st.sub (List.nil_sublist _)) hr92).mono ?_
                          rintro e W' ⟨rfl, X⟩
                          refine ⟨_, rfl, here (At.mk (F.put (by decide) _) (E.call0 X)) ?_⟩
                          clear X E F W W' a
                          refine l_yg (y_bin rfl rfl rfl bi_le) rfl rfl rfl rfl rfl (by decide) ?_
                          refine l_y (y_pickt rfl rfl rfl) rfl rfl (by decide) ?_
                          refine l_y (y_assign rfl rfl) rfl rfl (by decide) ?_
                          refine l_nil ?_
                          refine x_next ?_
                          refine c_ret ?_
                          obtain rfl := Option.some.inj H
                          exact g_ret [.bool (decide (r92 ≤ 1048576))] (congrArg Array.toList Tryd.results5) (.cons (.t rfl) .nil) (fun W E => ⟨rfl, E.drop (List.nil_sublist _)⟩)
                        · rw [if_neg c91] at H
                          refine s_lit (t := 108) rfl (decide_eq_false c91) ?_
                          refine l_off rfl rfl rfl rfl rfl rfl (by decide) ?_
                          refine l_off rfl rfl rfl rfl rfl rfl (by decide) ?_
                          refine l_off rfl rfl rfl rfl rfl rfl (by decide) ?_
                          refine l_y (y_pickf rfl rfl rfl) rfl rfl (by decide) ?_
                          refine l_y (y_assign rfl rfl) rfl rfl (by decide) ?_
                          refine l_nil ?_
                          refine x_next ?_
                          refine c_ret ?_
                          obtain rfl := Option.some.inj H
                          exact g_ret [.bool false] (congrArg Array.toList Tryd.results5) (.cons (.t rfl) .nil) (fun W E => ⟨rfl, E.drop (List.nil_sublist _)⟩)
                      · rw [if_neg c88] at H
                        refine s_lit (t := 101) rfl (not_t (decide_eq_false c88)) ?_
                        refine l_off rfl rfl rfl rfl rfl rfl (by decide) ?_
                        refine l_off rfl rfl rfl rfl rfl rfl (by decide) ?_
                        refine l_off rfl rfl rfl rfl rfl rfl (by decide) ?_
                        refine l_off rfl rfl rfl rfl rfl rfl (by decide) ?_
                        refine l_yg (y_pickt rfl rfl rfl) rfl rfl rfl rfl rfl (by decide) ?_
                        refine l_y (y_pickt rfl rfl rfl) rfl rfl (by decide) ?_
                        refine l_y (y_move rfl rfl) rfl rfl (by decide) ?_
                        refine l_yg (y_loadA (cs := [.int .i64 a0.Kind, .int .i64 a0.Count, .slice A41 x40.length c42]) ia24 rfl rfl rfl (cls_own (i := 1) rfl rfl)) rfl rfl rfl rfl rfl (by decide) ?_
                        refine l_wg rfl rfl rfl rfl ?_
                        obtain ⟨r94, hr94, H⟩ := Option.bind_eq_some_iff.1 H
                        refine w_call (args := [.agg #[.int .i64 a0.Kind, .int .i64 a0.Count, .slice A41 x40.length c42]]) (caps := []) has21 rfl rfl rfl rfl (by decide) (fun a W F E => ?_)
                        refine (types_Size.calls k_j10 (⟨a0.Kind, a0.Count, x40⟩ : GType) A41 c42 I W r94 hr43 (by first | assumption | simp | omega) (E.st.sub (List.nil_sublist _)) hr94).mono ?_
                        rintro e W' ⟨rfl, X⟩
                        refine ⟨_, rfl, here (At.mk (F.put (by decide) _) (E.call0 X)) ?_⟩
                        clear X E F W W' a
                        refine l_yg (y_bin rfl rfl rfl bi_le) rfl rfl rfl rfl rfl (by decide) ?_
                        refine l_y (y_pickt rfl rfl rfl) rfl rfl (by decide) ?_
                        refine l_y (y_assign rfl rfl) rfl rfl (by decide) ?_
                        refine l_nil ?_
                        refine x_next ?_
                        refine c_ret ?_
                        obtain rfl := Option.some.inj H
                        exact g_ret [.bool (decide (r94 ≤ 1048576))] (congrArg Array.toList Tryd.results5) (.cons (.t rfl) .nil) (fun W E => ⟨rfl, E.drop (List.nil_sublist _)⟩)
                    · rw [if_neg c87] at H
                      refine s_lit (t := 97) rfl (decide_eq_false c87) ?_
                      refine l_off rfl rfl rfl rfl rfl rfl (by decide) ?_
                      refine l_off rfl rfl rfl rfl rfl rfl (by decide) ?_
                      refine l_off rfl rfl rfl rfl rfl rfl (by decide) ?_
                      refine l_off rfl rfl rfl rfl rfl rfl (by decide) ?_
                      refine l_offu rfl rfl rfl rfl rfl (by decide) ?_
                      refine l_offu rfl rfl rfl rfl rfl (by decide) ?_
                      refine l_offu rfl rfl rfl rfl rfl (by decide) ?_
                      refine l_offu rfl rfl rfl rfl rfl (by decide) ?_
                      refine l_off rfl rfl rfl rfl rfl rfl (by decide) ?_
                      refine l_y (y_pickf rfl rfl rfl) rfl rfl (by decide) ?_
                      refine l_y (y_move rfl rfl) rfl rfl (by decide) ?_
                      refine l_off rfl rfl rfl rfl rfl rfl (by decide) ?_
                      refine l_off rfl rfl rfl rfl rfl rfl (by decide) ?_
                      refine l_off rfl rfl rfl rfl rfl rfl (by decide) ?_
                      refine l_y (y_pickf rfl rfl rfl) rfl rfl (by decide) ?_
                      refine l_y (y_assign rfl rfl) rfl rfl (by decide) ?_
                      refine l_nil ?_
                      refine x_next ?_
                      refine c_ret ?_
                      obtain rfl := Option.some.inj H
                      exact g_ret [.bool false] (congrArg Array.toList Tryd.results5) (.cons (.t rfl) .nil) (fun W E => ⟨rfl, E.drop (List.nil_sublist _)⟩)
                  · rw [if_neg c84] at H
                    refine s_lit (t := 91) rfl (Bool.eq_false_iff.2 c84) ?_
                    refine l_off rfl rfl rfl rfl rfl rfl (by decide) ?_
                    refine l_off rfl rfl rfl rfl rfl rfl (by decide) ?_
                    refine l_off rfl rfl rfl rfl rfl rfl (by decide) ?_
                    refine l_off rfl rfl rfl rfl rfl rfl (by decide) ?_
                    refine l_y (y_pickf rfl rfl rfl) rfl rfl (by decide) ?_
                    refine l_y (y_move rfl rfl) rfl rfl (by decide) ?_
                    refine l_off rfl rfl rfl rfl rfl rfl (by decide) ?_
                    refine l_off rfl rfl rfl rfl rfl rfl (by decide) ?_
                    refine l_off rfl rfl rfl rfl rfl rfl (by decide) ?_
                    refine l_off rfl rfl rfl rfl rfl rfl (by decide) ?_
                    refine l_offu rfl rfl rfl rfl rfl (by decide) ?_
                    refine l_offu rfl rfl rfl rfl rfl (by decide) ?_
                    refine l_offu rfl rfl rfl rfl rfl (by decide) ?_
                    refine l_offu rfl rfl rfl rfl rfl (by decide) ?_
                    refine l_off rfl rfl rfl rfl rfl rfl (by decide) ?_
                    refine l_y (y_pickf rfl rfl rfl) rfl rfl (by decide) ?_
                    refine l_y (y_move rfl rfl) rfl rfl (by decide) ?_
                    refine l_off rfl rfl rfl rfl rfl rfl (by decide) ?_
                    refine l_off rfl rfl rfl rfl rfl rfl (by decide) ?_
                    refine l_off rfl rfl rfl rfl rfl rfl (by decide) ?_
                    refine l_y (y_pickf rfl rfl rfl) rfl rfl (by decide) ?_
                    refine l_y (y_assign rfl rfl) rfl rfl (by decide) ?_
                    refine l_nil ?_
                    refine x_next ?_
                    refine c_ret ?_
                    obtain rfl := Option.some.inj H
                    exact g_ret [.bool false] (congrArg Array.toList Tryd.results5) (.cons (.t rfl) .nil) (fun W E => ⟨rfl, E.drop (List.nil_sublist _)⟩)
end Go.Proofs.YtoafojcfledkcaaDoor
