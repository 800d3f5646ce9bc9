/- Models and walks. -/
import Derived.Test.YtoafojcfledkcaaDoorMD2
import Derived.Test.YtoafojcfledkcaaDoorExt
namespace Go.Proofs.YtoafojcfledkcaaDoor
open Go.RowKit
set_option linter.all false
mutual
def swagelaw11_TypesTell.j3 : Nat → (List GType) → (List GType) → GType → GType → Int → Bool → Bool → GType → Option Bool
  | 0, _, _, _, _, _, _, _, _ => none
  | k + 1, x113, x119, a0, a1, a2, r11, x50, r22 => ((types_Offset.f k a0 a2).bind fun r141 => ((swageref11_Offset.f k a0 a2).bind fun r143 => (if r11 = true then (if x50 = true then ((types_Right.f k a0).bind fun r147 => ((swageref11_Right.f k a0).bind fun r149 => (if r147 = true then (if r149 = true then ((types_Size.f k a0).bind fun r153 => ((swageref11_Size.f k a0).bind fun r155 => (if r153 = r155 then (if r141.1 = r143.1 then (if r141.2 = true then (if r143.2 = true then ((types_Same.f k a0 a1).bind fun r161 => ((swageref11_Same.f k a0 a1).bind fun r163 => (if r161 = true then (if r163 = true then ((types_Scalar.f k a0).bind fun r167 => ((swageref11_Scalar.f k a0).bind fun r169 => (if r167 = true then (if r169 = true then ((types_Text.f k a0).bind fun r173 => ((swageref11_Text.f k a0).bind fun r175 => (if r173 = r175 then ((swageref11_Same.f k a0 r22).bind fun r178 => (some r178)) else (some false)))) else (some false)) else (if r169 = true then (some false) else ((types_Text.f k a0).bind fun r181 => ((swageref11_Text.f k a0).bind fun r183 => (if r181 = r183 then ((swageref11_Same.f k a0 r22).bind fun r186 => (some r186)) else (some false)))))))) else (some false)) else (if r163 = true then (some false) else ((types_Scalar.f k a0).bind fun r189 => ((swageref11_Scalar.f k a0).bind fun r191 => (if r189 = true then (if r191 = true then ((types_Text.f k a0).bind fun r195 => ((swageref11_Text.f k a0).bind fun r197 => (if r195 = r197 then ((swageref11_Same.f k a0 r22).bind fun r200 => (some r200)) else (some false)))) else (some false)) else (if r191 = true then (some false) else ((types_Text.f k a0).bind fun r203 => ((swageref11_Text.f k a0).bind fun r205 => (if r203 = r205 then ((swageref11_Same.f k a0 r22).bind fun r208 => (some r208)) else (some false)))))))))))) else (some false)) else (if r143.2 = true then (some false) else ((types_Same.f k a0 a1).bind fun r211 => ((swageref11_Same.f k a0 a1).bind fun r213 => (if r211 = true then (if r213 = true then ((types_Scalar.f k a0).bind fun r217 => ((swageref11_Scalar.f k a0).bind fun r219 => (if r217 = true then (if r219 = true then ((types_Text.f k a0).bind fun r223 => ((swageref11_Text.f k a0).bind fun r225 => (if r223 = r225 then ((swageref11_Same.f k a0 r22).bind fun r228 => (some r228)) else (some false)))) else (some false)) else (if r219 = true then (some false) else ((types_Text.f k a0).bind fun r231 => ((swageref11_Text.f k a0).bind fun r233 => (if r231 = r233 then ((swageref11_Same.f k a0 r22).bind fun r236 => (some r236)) else (some false)))))))) else (some false)) else (if r213 = true then (some false) else ((types_Scalar.f k a0).bind fun r239 => ((swageref11_Scalar.f k a0).bind fun r241 => (if r239 = true then (if r241 = true then ((types_Text.f k a0).bind fun r245 => ((swageref11_Text.f k a0).bind fun r247 => (if r245 = r247 then ((swageref11_Same.f k a0 r22).bind fun r250 => (some r250)) else (some false)))) else (some false)) else (if r241 = true then (some false) else ((types_Text.f k a0).bind fun r253 => ((swageref11_Text.f k a0).bind fun r255 => (if r253 = r255 then ((swageref11_Same.f k a0 r22).bind fun r258 => (some r258)) else (some false)))))))))))))) else (some false)) else (some false)))) else (some false)) else (if r149 = true then (some false) else ((types_Size.f k a0).bind fun r261 => ((swageref11_Size.f k a0).bind fun r263 => (if r261 = r263 then (if r141.1 = r143.1 then (if r141.2 = true then (if r143.2 = true then ((types_Same.f k a0 a1).bind fun r269 => ((swageref11_Same.f k a0 a1).bind fun r271 => (if r269 = true then (if r271 = true then ((types_Scalar.f k a0).bind fun r275 => ((swageref11_Scalar.f k a0).bind fun r277 => (if r275 = true then (if r277 = true then ((types_Text.f k a0).bind fun r281 => ((swageref11_Text.f k a0).bind fun r283 => (if r281 = r283 then ((swageref11_Same.f k a0 r22).bind fun r286 => (some r286)) else (some false)))) else (some false)) else (if r277 = true then (some false) else ((types_Text.f k a0).bind fun r289 => ((swageref11_Text.f k a0).bind fun r291 => (if r289 = r291 then ((swageref11_Same.f k a0 r22).bind fun r294 => (some r294)) else (some false)))))))) else (some false)) else (if r271 = true then (some false) else ((types_Scalar.f k a0).bind fun r297 => ((swageref11_Scalar.f k a0).bind fun r299 => (if r297 = true then (if r299 = true then ((types_Text.f k a0).bind fun r303 => ((swageref11_Text.f k a0).bind fun r305 => (if r303 = r305 then ((swageref11_Same.f k a0 r22).bind fun r308 => (some r308)) else (some false)))) else (some false)) else (if r299 = true then (some false) else ((types_Text.f k a0).bind fun r311 => ((swageref11_Text.f k a0).bind fun r313 => (if r311 = r313 then ((swageref11_Same.f k a0 r22).bind fun r316 => (some r316)) else (some false)))))))))))) else (some false)) else (if r143.2 = true then (some false) else ((types_Same.f k a0 a1).bind fun r319 => ((swageref11_Same.f k a0 a1).bind fun r321 => (if r319 = true then (if r321 = true then ((types_Scalar.f k a0).bind fun r325 => ((swageref11_Scalar.f k a0).bind fun r327 => (if r325 = true then (if r327 = true then ((types_Text.f k a0).bind fun r331 => ((swageref11_Text.f k a0).bind fun r333 => (if r331 = r333 then ((swageref11_Same.f k a0 r22).bind fun r336 => (some r336)) else (some false)))) else (some false)) else (if r327 = true then (some false) else ((types_Text.f k a0).bind fun r339 => ((swageref11_Text.f k a0).bind fun r341 => (if r339 = r341 then ((swageref11_Same.f k a0 r22).bind fun r344 => (some r344)) else (some false)))))))) else (some false)) else (if r321 = true then (some false) else ((types_Scalar.f k a0).bind fun r347 => ((swageref11_Scalar.f k a0).bind fun r349 => (if r347 = true then (if r349 = true then ((types_Text.f k a0).bind fun r353 => ((swageref11_Text.f k a0).bind fun r355 => (if r353 = r355 then ((swageref11_Same.f k a0 r22).bind fun r358 => (some r358)) else (some false)))) else (some false)) else (if r349 = true then (some false) else ((types_Text.f k a0).bind fun r361 => ((swageref11_Text.f k a0).bind fun r363 => (if r361 = r363 then ((swageref11_Same.f k a0 r22).bind fun r366 => (some r366)) else (some false)))))))))))))) else (some false)) else (some false)))))))) else (some false)) else (some false))))
def swagelaw11_TypesTell.l0 : Nat → Int → (List GType) → (List GType) → Bool → GType → GType → Int → Bool → GType → Option Bool
  | 0, _, _, _, _, _, _, _, _, _ => none
  | k + 1, x82, x83, x89, x50, a0, a1, a2, r11, r22 => (if x82 < (x89.length : Int) then (if 0 ≤ x82 ∧ x82 < (x89.length : Int) then ((some (List.set x89 (Int.toNat x82) (⟨(-7), (rd x89 x82).Count, (rd x89 x82).Kids⟩ : GType) : List GType)).bind fun l106 => (swagelaw11_TypesTell.l0 k (IntKind.i64.wrap (x82 + 1)) x83 l106 x50 a0 a1 a2 r11 r22)) else none) else (if x50 = true then (if 0 < (x83.length : Int) then ((some (List.set x83 (Int.toNat 0) (⟨(-7), (rd x83 0).Count, (rd x83 0).Kids⟩ : GType) : List GType)).bind fun l136 => (swagelaw11_TypesTell.j3 k l136 x89 a0 a1 a2 r11 x50 r22)) else none) else (swagelaw11_TypesTell.j3 k x83 x89 a0 a1 a2 r11 x50 r22)))
def swagelaw11_TypesTell.j2 : Nat → Bool → (List GType) → (List GType) → GType → GType → Int → Bool → GType → Option Bool
  | 0, _, _, _, _, _, _, _, _ => none
  | k + 1, x50, x51, x57, a0, a1, a2, r11, r22 => (swagelaw11_TypesTell.l0 k 0 x51 x57 x50 a0 a1 a2 r11 r22)
def swagelaw11_TypesTell.j1 : Nat → Bool → GType → Bool → GType → Int → Option Bool
  | 0, _, _, _, _, _ => none
  | k + 1, x15, a0, r11, a1, a2 => (if x15 = true then ((swageref11_Copy.f k a0).bind fun r22 => ((types_Copy.f k a0).bind fun r30 => ((types_Pointer.f k a0).bind fun r39 => ((swageref11_Same.f k r30 a0).bind fun r63 => (if r63 = true then (if r39.Kind = 2 then (if (r39.Kids.length : Int) = 1 then (if 0 < (r39.Kids.length : Int) then ((swageref11_Same.f k (rd r39.Kids 0) a0).bind fun r78 => (swagelaw11_TypesTell.j2 k r78 r39.Kids r30.Kids a0 a1 a2 r11 r22)) else none) else (swagelaw11_TypesTell.j2 k false r39.Kids r30.Kids a0 a1 a2 r11 r22)) else (swagelaw11_TypesTell.j2 k false r39.Kids r30.Kids a0 a1 a2 r11 r22)) else (swagelaw11_TypesTell.j2 k false r39.Kids r30.Kids a0 a1 a2 r11 r22)))))) else (some r11))
end
def swagelaw11_TypesTell.f (k : Nat) (a0 : GType) (a1 : GType) (a2 : Int) : Option Bool := ((swagelaw11_small.f k).bind fun r11 => ((swagelaw11_Few.f k a0).bind fun r16 => (if r16 = true then ((swagelaw11_Few.f k a1).bind fun r19 => (swagelaw11_TypesTell.j1 k r19 a0 r11 a1 a2)) else (swagelaw11_TypesTell.j1 k false a0 r11 a1 a2))))
def swagelaw11_TypesTell.Post (I : Imm) (O : List Ent) (w : World) (r : Bool) (e : Ending) (w' : World) : Prop := e = .returned (.bool r) ∧ Ext I O w I O w'
set_option maxRecDepth 100000 in
set_option maxHeartbeats 1000000 in
theorem swagelaw11_TypesTell.calls (k : Nat) : ∀ (a0 : GType) (a1 : GType) (a2 : Int) (A1 : Option Addr) (c2 : Nat) (A5 : Option Addr) (c6 : Nat) (I : Imm) (w : World) (r : Bool) (hr3 : RowsG R_Type 3 40 I A1 a0.Kids) (hc4 : a0.Kids.length ≤ c2) (hr7 : RowsG R_Type 3 40 I A5 a1.Kids) (hc8 : a1.Kids.length ≤ c6), St I [] w → Tabs I → swagelaw11_TypesTell.f k a0 a1 a2 = some r →
  Calls Tryd.prog 3 #[.agg #[.int .i64 a0.Kind, .int .i64 a0.Count, .slice A1 a0.Kids.length c2], .agg #[.int .i64 a1.Kind, .int .i64 a1.Count, .slice A5 a1.Kids.length c6], .int .i64 a2] w (swagelaw11_TypesTell.Post I [] w r) := by
  intro a0 a1 a2 A1 c2 A5 c6 I w r hr3 hc4 hr7 hc8 hS hT H
  have nhr3 := hr3.len
  have nhr7 := hr7.len
  simp only [swagelaw11_TypesTell.f] at H
  refine enter Tryd.func3 rfl Tryd.ntmps3 (Nat.le_of_ble_eq_true rfl) hS ?_
  refine c_seq ?_
  refine g_plain ?_
  refine l_w rfl ?_
  refine w_box (cs := [.int .i64 a0.Kind, .int .i64 a0.Count, .slice A1 a0.Kids.length c2]) (m := 3) rfl rfl rfl rfl rfl (by decide) (fun β9 => ?_)
  refine l_w rfl ?_
  refine w_box (cs := [.int .i64 a1.Kind, .int .i64 a1.Count, .slice A5 a1.Kids.length c6]) (m := 3) rfl rfl rfl rfl rfl (by decide) (fun β10 => ?_)
  refine l_y (y_assign rfl rfl) rfl rfl (by decide) ?_
  refine l_nil ?_
  refine x_next ?_
  refine c_seq ?_
  refine g_plain ?_
  refine l_w rfl ?_
  obtain ⟨r11, hr11, H⟩ := Option.bind_eq_some_iff.1 H
  refine w_call (args := []) (caps := []) has11 rfl rfl rfl rfl (by decide) (fun a W F E => ?_)
  refine (swagelaw11_small.calls k I W r11 (E.st.sub (List.nil_sublist _)) (hT.mono (Imm.rfl' _)) hr11).mono ?_
  rintro e W' ⟨rfl, X⟩
  refine ⟨_, rfl, here (At.mk (F.put (by decide) _) (E.call0 X)) ?_⟩
  clear X E F W W' a
  refine l_y (y_assign rfl rfl) rfl rfl (by decide) ?_
  refine l_nil ?_
  refine x_next ?_
  refine c_join (fun a W => ∃ (kq : Nat) (J13 : Imm) (x15 : Bool), swagelaw11_TypesTell.j1 kq x15 a0 r11 a1 a2 = some r ∧ kq ≤ k ∧ Imm.le I J13 ∧ At 141 [] [(2, .int .i64 a2), (3, .pointer (some ⟨β9, 0, none⟩)), (4, .pointer (some ⟨β10, 0, none⟩)), (7, .bool r11), (8, .bool x15)] I [] w J13 [.cells β10 24 [.int .i64 a1.Kind, .int .i64 a1.Count, .slice A5 a1.Kids.length c6] 3, .cells β9 24 [.int .i64 a0.Kind, .int .i64 a0.Count, .slice A1 a0.Kids.length c2] 3] a W) ?_ ?_
  · skip
    refine g_plain ?_
    refine l_y (y_loadA (cs := [.int .i64 a0.Kind, .int .i64 a0.Count, .slice A1 a0.Kids.length c2]) ia24 rfl rfl rfl (cls_own (i := 1) rfl rfl)) rfl rfl (by decide) ?_
    refine l_w rfl ?_
    obtain ⟨r16, hr16, H⟩ := Option.bind_eq_some_iff.1 H
    refine w_call (args := [.agg #[.int .i64 a0.Kind, .int .i64 a0.Count, .slice A1 a0.Kids.length c2]]) (caps := []) has12 rfl rfl rfl rfl (by decide) (fun a W F E => ?_)
    refine (swagelaw11_Few.calls k a0 A1 c2 I W r16 hr3 (by first | assumption | simp | omega) (E.st.sub (List.nil_sublist _)) hr16).mono ?_
    rintro e W' ⟨rfl, X⟩
    refine ⟨_, rfl, here (At.mk (F.put (by decide) _) (E.call0 X)) ?_⟩
    clear X E F W W' a
    refine l_y (y_move rfl rfl) rfl rfl (by decide) ?_
    by_cases c18 : r16 = true
    · rw [if_pos c18] at H
      refine s_lit (t := 21) rfl c18 ?_
      refine l_yg (y_loadA (cs := [.int .i64 a1.Kind, .int .i64 a1.Count, .slice A5 a1.Kids.length c6]) ia24 rfl rfl rfl (cls_own (i := 0) rfl rfl)) rfl rfl rfl rfl rfl (by decide) ?_
      refine l_wg rfl rfl rfl rfl ?_
      obtain ⟨r19, hr19, H⟩ := Option.bind_eq_some_iff.1 H
      refine w_call (args := [.agg #[.int .i64 a1.Kind, .int .i64 a1.Count, .slice A5 a1.Kids.length c6]]) (caps := []) has12 rfl rfl rfl rfl (by decide) (fun a W F E => ?_)
      refine (swagelaw11_Few.calls k a1 A5 c6 I W r19 hr7 (by first | assumption | simp | omega) (E.st.sub (List.nil_sublist _)) hr19).mono ?_
      rintro e W' ⟨rfl, X⟩
      refine ⟨_, rfl, here (At.mk (F.put (by decide) _) (E.call0 X)) ?_⟩
      clear X E F W W' a
      refine l_y (y_pickt rfl rfl rfl) rfl rfl (by decide) ?_
      refine l_y (y_assign rfl rfl) rfl rfl (by decide) ?_
      refine l_nil ?_
      refine s_perm pf1 ?_
      refine s_perm pf1 ?_
      exact fun a W hA => ⟨k, _, r19, H, (by omega), (Imm.rfl' _), ⟨hA.fits.only ⟨rfl, rfl, rfl, rfl, rfl, trivial⟩, hA.ext⟩⟩
    · rw [if_neg c18] at H
      refine s_lit (t := 21) rfl (Bool.eq_false_iff.2 c18) ?_
      refine l_off rfl rfl rfl rfl rfl rfl (by decide) ?_
      refine l_off rfl rfl rfl rfl rfl rfl (by decide) ?_
      refine l_y (y_pickf rfl rfl rfl) rfl rfl (by decide) ?_
      refine l_y (y_assign rfl rfl) rfl rfl (by decide) ?_
      refine l_nil ?_
      refine s_perm pf1 ?_
      refine s_perm pf1 ?_
      exact fun a W hA => ⟨k, _, false, H, (by omega), (Imm.rfl' _), ⟨hA.fits.only ⟨rfl, rfl, rfl, rfl, rfl, trivial⟩, hA.ext⟩⟩
  clear H
  rintro a W ⟨kq, J13, x15, H, hk, hl14, hA⟩
  refine here hA ?_
  clear hA a W
  cases kq with
  | zero => exact absurd H (by simp [swagelaw11_TypesTell.j1])
  | succ k_j1 =>
    simp only [swagelaw11_TypesTell.j1] at H
    refine c_seq ?_
    refine c_seq ?_
    refine g_plain ?_
    refine l_y (y_move rfl rfl) rfl rfl (by decide) ?_
    refine l_y (y_not rfl rfl) rfl rfl (by decide) ?_
    refine l_nil ?_
    refine x_next ?_
    by_cases c21 : x15 = true
    · rw [if_pos c21] at H
      refine s_lit (t := 26) rfl (not_f c21) ?_
      refine c_false rfl ?_
      refine c_skip ?_
      refine x_next ?_
      refine c_seq ?_
      refine g_plain ?_
      refine l_y (y_loadA (cs := [.int .i64 a0.Kind, .int .i64 a0.Count, .slice A1 a0.Kids.length c2]) ia24 rfl rfl rfl (cls_own (i := 1) rfl rfl)) rfl rfl (by decide) ?_
      refine l_w rfl ?_
      obtain ⟨r22, hr22, H⟩ := Option.bind_eq_some_iff.1 H
      refine w_call (args := [.agg #[.int .i64 a0.Kind, .int .i64 a0.Count, .slice A1 a0.Kids.length c2]]) (caps := []) has13 rfl rfl rfl rfl (by decide) (fun a W F E => ?_)
      refine (swageref11_Copy.calls k_j1 a0 A1 c2 J13 W r22 (hr3.mono R_Type.mono hl14) (by first | assumption | simp | omega) (E.st.sub (List.nil_sublist _)) hr22).mono ?_
      rintro e W' ⟨J27, A23, c24, rfl, X, hr25, hc26⟩
      have hl28 := X.le
      refine ⟨_, rfl, here (At.mk (F.put (by decide) _) (E.call0 X)) ?_⟩
      clear X E F W W' a
      refine l_w rfl ?_
      refine w_alloc (cs := [.int .i64 0, .int .i64 0, .slice none 0 0]) (m := 3) zz24 rfl rfl rfl rfl (by decide) (fun β29 => ?_)
      refine l_w rfl ?_
      refine w_store0 (cs' := [.int .i64 r22.Kind, .int .i64 r22.Count, .slice A23 r22.Kids.length c24]) sz24 rfl rfl rfl rfl rfl (Nat.le_of_ble_eq_true rfl) rfl rfl ?_
      refine l_nil ?_
      refine x_next ?_
      refine c_seq ?_
      refine g_plain ?_
      refine l_y (y_loadA (cs := [.int .i64 a0.Kind, .int .i64 a0.Count, .slice A1 a0.Kids.length c2]) ia24 rfl rfl rfl (cls_own (i := 2) rfl rfl)) rfl rfl (by decide) ?_
      refine l_w rfl ?_
      obtain ⟨r30, hr30, H⟩ := Option.bind_eq_some_iff.1 H
      refine w_call (args := [.agg #[.int .i64 a0.Kind, .int .i64 a0.Count, .slice A1 a0.Kids.length c2]]) (caps := []) has14 rfl rfl rfl rfl (by decide) (fun a W F E => ?_)
      refine (types_Copy.calls k_j1 a0 A1 c2 J27 W r30 (hr3.mono R_Type.mono (hl14.trans hl28)) (by first | assumption | simp | omega) (E.st.sub (List.nil_sublist _)) hr30).mono ?_
      rintro e W' ⟨J36, A31, c32, css33, rfl, X, hO34, hV35⟩
      have hl37 := X.le
      refine ⟨_, rfl, here (At.mk (F.put (by decide) _) (E.new1 X)) ?_⟩
      clear X E F W W' a
      refine l_w rfl ?_
      refine w_alloc (cs := [.int .i64 0, .int .i64 0, .slice none 0 0]) (m := 3) zz24 rfl rfl rfl rfl (by decide) (fun β38 => ?_)
      refine l_w rfl ?_
      refine w_store0 (cs' := [.int .i64 r30.Kind, .int .i64 r30.Count, .slice A31 r30.Kids.length c32]) sz24 rfl rfl rfl rfl rfl (Nat.le_of_ble_eq_true rfl) rfl rfl ?_
      refine l_nil ?_
      refine x_next ?_
      refine c_seq ?_
      refine g_plain ?_
      refine l_y (y_loadA (cs := [.int .i64 a0.Kind, .int .i64 a0.Count, .slice A1 a0.Kids.length c2]) ia24 rfl rfl rfl (cls_own (i := 4) rfl rfl)) rfl rfl (by decide) ?_
      refine l_w rfl ?_
      obtain ⟨r39, hr39, H⟩ := Option.bind_eq_some_iff.1 H
      refine w_call (args := [.agg #[.int .i64 a0.Kind, .int .i64 a0.Count, .slice A1 a0.Kids.length c2]]) (caps := []) has15 rfl rfl rfl rfl (by decide) (fun a W F E => ?_)
      refine (types_Pointer.calls k_j1 a0 A1 c2 J36 W r39 (hr3.mono R_Type.mono ((hl14.trans hl28).trans hl37)) (by first | assumption | simp | omega) (E.st.sub (List.nil_sublist _)) hr39).mono ?_
      rintro e W' ⟨J45, A40, c41, css42, rfl, X, hO43, hV44⟩
      have hl46 := X.le
      refine ⟨_, rfl, here (At.mk (F.put (by decide) _) (E.new1 X)) ?_⟩
      clear X E F W W' a
      refine l_w rfl ?_
      refine w_alloc (cs := [.int .i64 0, .int .i64 0, .slice none 0 0]) (m := 3) zz24 rfl rfl rfl rfl (by decide) (fun β47 => ?_)
      refine l_w rfl ?_
      refine w_store0 (cs' := [.int .i64 r39.Kind, .int .i64 r39.Count, .slice A40 r39.Kids.length c41]) sz24 rfl rfl rfl rfl rfl (Nat.le_of_ble_eq_true rfl) rfl rfl ?_
      refine l_nil ?_
      refine x_next ?_
      refine c_join (fun a W => ∃ (kq : Nat) (J48 : Imm) (x50 : Bool) (x51 : List GType) (x57 : List GType) (A52 : Option Addr) (cp53 : Nat) (css54 : List (List Value)) (A58 : Option Addr) (cp59 : Nat) (css60 : List (List Value)), swagelaw11_TypesTell.j2 kq x50 x51 x57 a0 a1 a2 r11 r22 = some r ∧ kq ≤ k_j1 ∧ Imm.le J45 J48 ∧ OwnR R_Type 3 J48 x51 css54 ∧ OV 40 A52 x51.length cp53 ∧ OwnR R_Type 3 J48 x57 css60 ∧ OV 40 A58 x57.length cp59 ∧ At 141 [] [(2, .int .i64 a2), (3, .pointer (some ⟨β9, 0, none⟩)), (4, .pointer (some ⟨β10, 0, none⟩)), (7, .bool r11), (9, .pointer (some ⟨β29, 0, none⟩)), (10, .pointer (some ⟨β38, 0, none⟩)), (11, .pointer (some ⟨β47, 0, none⟩)), (12, .bool x50)] I [] w J48 [.cells β47 24 [.int .i64 r39.Kind, .int .i64 r39.Count, .slice A52 x51.length cp53] 3, .row A52 24 (List.flatten css54) (cp53 * 3), .cells β38 24 [.int .i64 r30.Kind, .int .i64 r30.Count, .slice A58 x57.length cp59] 3, .row A58 24 (List.flatten css60) (cp59 * 3), .cells β29 24 [.int .i64 r22.Kind, .int .i64 r22.Count, .slice A23 r22.Kids.length c24] 3, .cells β10 24 [.int .i64 a1.Kind, .int .i64 a1.Count, .slice A5 a1.Kids.length c6] 3, .cells β9 24 [.int .i64 a0.Kind, .int .i64 a0.Count, .slice A1 a0.Kids.length c2] 3] a W) ?_ ?_
      · skip
        refine d_start [.cells β47 24 [.int .i64 r39.Kind, .int .i64 r39.Count, .slice A40 r39.Kids.length c41] 3, .row A40 24 (List.flatten css42) (c41 * 3), .cells β38 24 [.int .i64 r30.Kind, .int .i64 r30.Count, .slice A31 r30.Kids.length c32] 3, .row A31 24 (List.flatten css33) (c32 * 3), .cells β29 24 [.int .i64 r22.Kind, .int .i64 r22.Count, .slice A23 r22.Kids.length c24] 3, .cells β10 24 [.int .i64 a1.Kind, .int .i64 a1.Count, .slice A5 a1.Kids.length c6] 3, .cells β9 24 [.int .i64 a0.Kind, .int .i64 a0.Count, .slice A1 a0.Kids.length c2] 3] [] (bits 23 0) mixed_ rfl (by kernel_rfl) (pick_mem (is := [0, 1, 2, 3, 4, 5, 6]) ⟨rfl, rfl, rfl, rfl, rfl, rfl, rfl, trivial⟩) ?_
        refine d_take 0 (bits 23 1) (y_loadA (cs := [.int .i64 r30.Kind, .int .i64 r30.Count, .slice A31 r30.Kids.length c32]) ia24 rfl rfl rfl (cls_own (i := 2) rfl rfl)) rfl rfl (by decide) (by kernel_rfl) (fun _ _ _ h => h) (.none rfl) (Imm.rfl' _) (pick_mem (is := [0, 1, 2, 3, 4, 5, 6]) ⟨rfl, rfl, rfl, rfl, rfl, rfl, rfl, trivial⟩) ?_
        refine d_take 1 (bits 23 3) (y_loadA (cs := [.int .i64 a0.Kind, .int .i64 a0.Count, .slice A1 a0.Kids.length c2]) ia24 rfl rfl rfl (cls_own (i := 6) rfl rfl)) rfl rfl (by decide) (by kernel_rfl) (fun _ _ _ h => h) (.none rfl) (Imm.rfl' _) (pick_mem (is := [0, 1, 2, 3, 4, 5, 6]) ⟨rfl, rfl, rfl, rfl, rfl, rfl, rfl, trivial⟩) ?_
        refine d_one 2 (bits 23 7) rfl (by kernel_rfl) (by decide) (.none rfl) (fun K hK => ?_)
        obtain ⟨r63, hr63, H⟩ := Option.bind_eq_some_iff.1 H
        refine w_call (args := [.agg #[.int .i64 r30.Kind, .int .i64 r30.Count, .slice A31 r30.Kids.length c32], .agg #[.int .i64 a0.Kind, .int .i64 a0.Count, .slice A1 a0.Kids.length c2]]) (caps := []) has16 rfl rfl rfl rfl (by decide) (fun a W F E => ?_)
        obtain ⟨K0_, hk0_, S0_, hq0_⟩ := St.lend (i := 3) (by_ := 40) rfl R_Type.mono (hO34.mono R_Type.mono hl46) hV35 E.st
        have hk_1 := hk0_
        have hk_ := hk_1
        refine (swageref11_Same.calls k_j1 r30 a0 A31 c32 A1 c2 K0_ W r63 hq0_ hV35.le ((hr3.mono R_Type.mono (((hl14.trans hl28).trans hl37).trans hl46)).mono R_Type.mono hk_) (by first | assumption | simp | omega) (S0_.sub (List.nil_sublist _)) hr63).mono ?_
        rintro e W' ⟨rfl, X⟩
        replace X := X.less hk_
        refine ⟨_, rfl, here (At.mk (F.put (by decide) _) (E.call0 X)) ?_⟩
        clear X S0_ hq0_ E F W W' a
        refine d_k hK (Imm.rfl' _) (pick_mem (is := [0, 1, 2, 3, 4, 5, 6]) ⟨rfl, rfl, rfl, rfl, rfl, rfl, rfl, trivial⟩) ?_
        clear hK K
        refine d_pure 3 (bits 23 15) (y_move rfl rfl) rfl rfl (by decide) (by kernel_rfl) (fun _ _ _ h => h) (.none rfl) ?_
        by_cases c65 : r63 = true
        · rw [if_pos c65] at H
          refine s_lit (t := 37) rfl c65 ?_
          refine d_pure 4 (bits 23 31) (y_field (j' := 0) fa24_0 rfl rfl rfl) rfl rfl (by decide) (by kernel_rfl) (fun _ _ _ h => h) (.on rfl rfl rfl rfl) ?_
          refine d_take 5 (bits 23 63) (y_load is3 rfl rfl (cl_own (i := 0) (j := 0) rfl rfl)) rfl rfl (by decide) (by kernel_rfl) (fun _ _ _ h => h) (.on rfl rfl rfl rfl) (Imm.rfl' _) (pick_mem (is := [0, 1, 2, 3, 4, 5, 6]) ⟨rfl, rfl, rfl, rfl, rfl, rfl, rfl, trivial⟩) ?_
          refine d_pure 6 (bits 23 127) (y_bin rfl rfl rfl bi_eq) rfl rfl (by decide) (by kernel_rfl) (fun _ _ _ h => h) (.on rfl rfl rfl rfl) ?_
          refine d_many (k' := 511) [(7, 255), (8, 511)] 14 rfl (by kernel_rfl) (fun _ _ _ _ _ h => h) ?_
          by_cases c66 : r39.Kind = 2
          · rw [if_pos c66] at H
            refine s_lit (t := 42) rfl (decide_eq_true c66) ?_
            refine d_pure 9 (bits 23 1023) (y_field (j' := 2) fa24_2 rfl rfl rfl) rfl rfl (by decide) (by kernel_rfl) (fun _ _ _ h => h) (.on rfl rfl rfl rfl) ?_
            refine d_take 10 (bits 23 2047) (y_load is22 rfl rfl (cl_own (i := 0) (j := 2) rfl rfl)) rfl rfl (by decide) (by kernel_rfl) (fun _ _ _ h => h) (.on rfl rfl rfl rfl) (Imm.rfl' _) (pick_mem (is := [0, 1, 2, 3, 4, 5, 6]) ⟨rfl, rfl, rfl, rfl, rfl, rfl, rfl, trivial⟩) ?_
            refine d_pure 11 (bits 23 4095) (y_len Tryd.underlying22 rfl rfl) rfl rfl (by decide) (by kernel_rfl) (fun _ _ _ h => h) (.on rfl rfl rfl rfl) ?_
            refine d_pure 12 (bits 23 8191) (y_bin rfl rfl rfl bi_eq) rfl rfl (by decide) (by kernel_rfl) (fun _ _ _ h => h) (.on rfl rfl rfl rfl) ?_
            refine d_many (k' := 32767) [(13, 16383), (14, 32767)] 8 rfl (by kernel_rfl) (fun _ _ _ _ _ h => h) ?_
            by_cases c67 : (r39.Kids.length : Int) = 1
            · rw [if_pos c67] at H
              refine s_lit (t := 48) rfl (decide_eq_true c67) ?_
              refine d_pure 15 (bits 23 65535) (y_field (j' := 2) fa24_2 rfl rfl rfl) rfl rfl (by decide) (by kernel_rfl) (fun _ _ _ h => h) (.on rfl rfl rfl rfl) ?_
              refine d_take 16 (bits 23 131071) (y_load is22 rfl rfl (cl_own (i := 0) (j := 2) rfl rfl)) rfl rfl (by decide) (by kernel_rfl) (fun _ _ _ h => h) (.on rfl rfl rfl rfl) (Imm.rfl' _) (pick_mem (is := [0, 1, 2, 3, 4, 5, 6]) ⟨rfl, rfl, rfl, rfl, rfl, rfl, rfl, trivial⟩) ?_
              by_cases c68 : 0 < (r39.Kids.length : Int)
              rotate_left
              · rw [if_neg c68] at H; exact absurd H (by simp)
              rw [if_pos c68] at H
              refine s_rowat (i := 1) rfl hV44 (by omega) (fun b69 hA_ => ?_)
              obtain rfl := hA_
              obtain ⟨cs72, hR73, hl74, hi75, hf76⟩ := OwnR.elem (j := 0) hO43 (by decide) c68
              obtain ⟨A70, c71, rfl, hr77, chr77⟩ := hR73.open
              refine d_pure 17 (bits 23 262143) (y_index sl22 rfl rfl rfl (by decide) c68) rfl rfl (by decide) (by kernel_rfl) (fun _ _ _ h => h) (.on rfl rfl rfl rfl) ?_
              refine d_take 18 (bits 23 524287) (y_loadA (cs := [.int .i64 ((rd r39.Kids 0).Kind), .int .i64 ((rd r39.Kids 0).Count), .slice A70 (((rd r39.Kids 0).Kids).length) c71]) ia24 rfl rfl rfl (cls_row (i := 1) rfl hf76)) rfl rfl (by decide) (by kernel_rfl) (fun _ _ _ h => h) (.on rfl rfl rfl rfl) (Imm.rfl' _) (pick_mem (is := [0, 1, 2, 3, 4, 5, 6]) ⟨rfl, rfl, rfl, rfl, rfl, rfl, rfl, trivial⟩) ?_
              refine d_take 19 (bits 23 1048575) (y_loadA (cs := [.int .i64 a0.Kind, .int .i64 a0.Count, .slice A1 a0.Kids.length c2]) ia24 rfl rfl rfl (cls_own (i := 6) rfl rfl)) rfl rfl (by decide) (by kernel_rfl) (fun _ _ _ h => h) (.on rfl rfl rfl rfl) (Imm.rfl' _) (pick_mem (is := [0, 1, 2, 3, 4, 5, 6]) ⟨rfl, rfl, rfl, rfl, rfl, rfl, rfl, trivial⟩) ?_
              refine d_one 20 (bits 23 2097151) rfl (by kernel_rfl) (by decide) (.on rfl rfl rfl rfl) (fun K hK => ?_)
              obtain ⟨r78, hr78, H⟩ := Option.bind_eq_some_iff.1 H
              refine w_call (args := [.agg #[.int .i64 ((rd r39.Kids 0).Kind), .int .i64 ((rd r39.Kids 0).Count), .slice A70 (((rd r39.Kids 0).Kids).length) c71], .agg #[.int .i64 a0.Kind, .int .i64 a0.Count, .slice A1 a0.Kids.length c2]]) (caps := []) has16 rfl rfl rfl rfl (by decide) (fun a W F E => ?_)
              refine (swageref11_Same.calls k_j1 (rd r39.Kids 0) a0 A70 c71 A1 c2 J45 W r78 hr77 (by first | assumption | simp | omega) (hr3.mono R_Type.mono (((hl14.trans hl28).trans hl37).trans hl46)) (by first | assumption | simp | omega) (E.st.sub (List.nil_sublist _)) hr78).mono ?_
              rintro e W' ⟨rfl, X⟩
              refine ⟨_, rfl, here (At.mk (F.put (by decide) _) (E.call0 X)) ?_⟩
              clear X E F W W' a
              refine d_k hK (Imm.rfl' _) (pick_mem (is := [0, 1, 2, 3, 4, 5, 6]) ⟨rfl, rfl, rfl, rfl, rfl, rfl, rfl, trivial⟩) ?_
              clear hK K
              refine d_many (k' := 8388607) [(21, 4194303), (22, 8388607)] 0 rfl (by kernel_rfl) (fun _ _ _ _ _ h => h) ?_
              refine d_done (by kernel_rfl) ?_
              refine s_perm pf6 ?_
              refine s_perm pf6 ?_
              refine s_perm pf6 ?_
              refine s_perm pf6 ?_
              refine s_perm pf6 ?_
              refine s_perm pf6 ?_
              refine s_perm pf6 ?_
              exact fun a W hA => ⟨k_j1, _, r78, r39.Kids, r30.Kids, (some ⟨b69, 0, none⟩), c41, css42, A31, c32, css33, H, (by omega), (Imm.rfl' _), hO43, hV44, (hO34.mono R_Type.mono hl46), hV35, ⟨hA.fits.only ⟨rfl, rfl, rfl, rfl, rfl, rfl, rfl, rfl, trivial⟩, hA.ext⟩⟩
            · rw [if_neg c67] at H
              refine s_lit (t := 48) rfl (decide_eq_false c67) ?_
              refine d_off 15 (bits 23 65535) rfl rfl (by decide) (by kernel_rfl) (fun _ _ _ h => h) (.off rfl rfl rfl rfl rfl) ?_
              refine d_many (k' := 8388607) [(16, 131071), (17, 262143), (18, 524287), (19, 1048575), (20, 2097151), (21, 4194303), (22, 8388607)] 0 rfl (by kernel_rfl) (fun _ _ _ _ _ h => h) ?_
              refine d_done (by kernel_rfl) ?_
              refine s_perm pf6 ?_
              refine s_perm pf6 ?_
              refine s_perm pf6 ?_
              refine s_perm pf6 ?_
              refine s_perm pf6 ?_
              refine s_perm pf6 ?_
              refine s_perm pf6 ?_
              exact fun a W hA => ⟨k_j1, _, false, r39.Kids, r30.Kids, A40, c41, css42, A31, c32, css33, H, (by omega), (Imm.rfl' _), hO43, hV44, (hO34.mono R_Type.mono hl46), hV35, ⟨hA.fits.only ⟨rfl, rfl, rfl, rfl, rfl, rfl, rfl, rfl, trivial⟩, hA.ext⟩⟩
          · rw [if_neg c66] at H
            refine s_lit (t := 42) rfl (decide_eq_false c66) ?_
            refine d_off 9 (bits 23 1023) rfl rfl (by decide) (by kernel_rfl) (fun _ _ _ h => h) (.off rfl rfl rfl rfl rfl) ?_
            refine d_many (k' := 8388607) [(10, 2047), (11, 4095), (12, 8191), (13, 16383), (14, 32767), (15, 65535), (16, 131071), (17, 262143), (18, 524287), (19, 1048575), (20, 2097151), (21, 4194303), (22, 8388607)] 0 rfl (by kernel_rfl) (fun _ _ _ _ _ h => h) ?_
            refine d_done (by kernel_rfl) ?_
            refine s_perm pf6 ?_
            refine s_perm pf6 ?_
            refine s_perm pf6 ?_
            refine s_perm pf6 ?_
            refine s_perm pf6 ?_
            refine s_perm pf6 ?_
            refine s_perm pf6 ?_
            exact fun a W hA => ⟨k_j1, _, false, r39.Kids, r30.Kids, A40, c41, css42, A31, c32, css33, H, (by omega), (Imm.rfl' _), hO43, hV44, (hO34.mono R_Type.mono hl46), hV35, ⟨hA.fits.only ⟨rfl, rfl, rfl, rfl, rfl, rfl, rfl, rfl, trivial⟩, hA.ext⟩⟩
        · rw [if_neg c65] at H
          refine s_lit (t := 37) rfl (Bool.eq_false_iff.2 c65) ?_
          refine d_off 4 (bits 23 31) rfl rfl (by decide) (by kernel_rfl) (fun _ _ _ h => h) (.off rfl rfl rfl rfl rfl) ?_
          refine d_many (k' := 8388607) [(5, 63), (6, 127), (7, 255), (8, 511), (9, 1023), (10, 2047), (11, 4095), (12, 8191), (13, 16383), (14, 32767), (15, 65535), (16, 131071), (17, 262143), (18, 524287), (19, 1048575), (20, 2097151), (21, 4194303), (22, 8388607)] 0 rfl (by kernel_rfl) (fun _ _ _ _ _ h => h) ?_
          refine d_done (by kernel_rfl) ?_
          refine s_perm pf6 ?_
          refine s_perm pf6 ?_
          refine s_perm pf6 ?_
          refine s_perm pf6 ?_
          refine s_perm pf6 ?_
          refine s_perm pf6 ?_
          refine s_perm pf6 ?_
          exact fun a W hA => ⟨k_j1, _, false, r39.Kids, r30.Kids, A40, c41, css42, A31, c32, css33, H, (by omega), (Imm.rfl' _), hO43, hV44, (hO34.mono R_Type.mono hl46), hV35, ⟨hA.fits.only ⟨rfl, rfl, rfl, rfl, rfl, rfl, rfl, rfl, trivial⟩, hA.ext⟩⟩
      clear H
      rintro a W ⟨kq, J48, x50, x51, x57, A52, cp53, css54, A58, cp59, css60, H, hk, hl49, hO56, hV55, hO62, hV61, hA⟩
      refine here hA ?_
      clear hA a W
      cases kq with
      | zero => exact absurd H (by simp [swagelaw11_TypesTell.j2])
      | succ k_j2 =>
        simp only [swagelaw11_TypesTell.j2] at H
        refine c_seq ?_
        refine c_seq ?_
        refine g_plain ?_
        refine l_y (y_assign rfl rfl) rfl rfl (by decide) ?_
        refine l_nil ?_
        refine x_next ?_
        refine c_block ?_
        refine s_perm pf6 ?_
        refine s_perm pf6 ?_
        refine s_perm pf6 ?_
        refine s_perm pf6 ?_
        refine s_perm pf6 ?_
        refine s_perm pf6 ?_
        refine s_perm pf6 ?_
        refine c_loop (fun kq a W => ∃ (J80 : Imm) (x82 : Int) (x83 : List GType) (x89 : List GType) (A84 : Option Addr) (cp85 : Nat) (css86 : List (List Value)) (A90 : Option Addr) (cp91 : Nat) (css92 : List (List Value)), swagelaw11_TypesTell.l0 kq x82 x83 x89 x50 a0 a1 a2 r11 r22 = some r ∧ kq ≤ k_j2 ∧ Imm.le J48 J80 ∧ OwnR R_Type 3 J80 x83 css86 ∧ OV 40 A84 x83.length cp85 ∧ OwnR R_Type 3 J80 x89 css92 ∧ OV 40 A90 x89.length cp91 ∧ At 141 [] [(2, .int .i64 a2), (3, .pointer (some ⟨β9, 0, none⟩)), (4, .pointer (some ⟨β10, 0, none⟩)), (7, .bool r11), (9, .pointer (some ⟨β29, 0, none⟩)), (10, .pointer (some ⟨β38, 0, none⟩)), (11, .pointer (some ⟨β47, 0, none⟩)), (12, .bool x50), (13, .int .i64 x82)] I [] w J80 [.cells β47 24 [.int .i64 r39.Kind, .int .i64 r39.Count, .slice A84 x83.length cp85] 3, .row A84 24 (List.flatten css86) (cp85 * 3), .cells β38 24 [.int .i64 r30.Kind, .int .i64 r30.Count, .slice A90 x89.length cp91] 3, .row A90 24 (List.flatten css92) (cp91 * 3), .cells β29 24 [.int .i64 r22.Kind, .int .i64 r22.Count, .slice A23 r22.Kids.length c24] 3, .cells β10 24 [.int .i64 a1.Kind, .int .i64 a1.Count, .slice A5 a1.Kids.length c6] 3, .cells β9 24 [.int .i64 a0.Kind, .int .i64 a0.Count, .slice A1 a0.Kids.length c2] 3] a W) k_j2 (fun a W hA => ⟨_, 0, x51, x57, A52, cp53, css54, A58, cp59, css60, H, (Nat.le_refl _), (Imm.rfl' _), hO56, hV55, hO62, hV61, ⟨hA.fits.only ⟨rfl, rfl, rfl, rfl, rfl, rfl, rfl, rfl, rfl, trivial⟩, hA.ext⟩⟩) ?_
        clear H
        rintro kq a W ⟨J80, x82, x83, x89, A84, cp85, css86, A90, cp91, css92, H, hk, hl81, hO88, hV87, hO94, hV93, hA⟩
        refine here hA ?_
        clear hA a W
        cases kq with
        | zero => exact absurd H (by simp [swagelaw11_TypesTell.l0])
        | succ k0 =>
          simp only [swagelaw11_TypesTell.l0] at H
          refine c_seq ?_
          refine c_seq ?_
          refine g_plain ?_
          refine l_y (y_move rfl rfl) rfl rfl (by decide) ?_
          refine l_y (y_field (j' := 2) fa24_2 rfl rfl rfl) rfl rfl (by decide) ?_
          refine l_y (y_load is22 rfl rfl (cl_own (i := 2) (j := 2) rfl rfl)) rfl rfl (by decide) ?_
          refine l_y (y_len Tryd.underlying22 rfl rfl) rfl rfl (by decide) ?_
          refine l_y (y_bin rfl rfl rfl bi_lt) rfl rfl (by decide) ?_
          refine l_nil ?_
          refine x_next ?_
          by_cases c95 : x82 < (x89.length : Int)
          · rw [if_pos c95] at H
            refine s_lit (t := 60) rfl (decide_eq_true c95) ?_
            refine c_true rfl ?_
            refine c_skip ?_
            refine x_next ?_
            refine c_seq ?_
            refine c_block ?_
            refine g_plain ?_
            refine l_y (y_field (j' := 2) fa24_2 rfl rfl rfl) rfl rfl (by decide) ?_
            refine l_y (y_load is22 rfl rfl (cl_own (i := 2) (j := 2) rfl rfl)) rfl rfl (by decide) ?_
            refine l_y (y_move rfl rfl) rfl rfl (by decide) ?_
            by_cases c96 : 0 ≤ x82 ∧ x82 < (x89.length : Int)
            rotate_left
            · rw [if_neg c96] at H; exact absurd H (by simp)
            rw [if_pos c96] at H
            refine s_rowat (i := 3) rfl hV93 (by omega) (fun b97 hA_ => ?_)
            obtain rfl := hA_
            obtain ⟨cs100, hR101, hl102, hi103, hf104⟩ := OwnR.elem (j := x82) hO94 c96.1 c96.2
            obtain ⟨A98, c99, rfl, hr105, chr105⟩ := hR101.open
            refine l_y (y_index sl22 rfl rfl rfl c96.1 c96.2) rfl rfl (by decide) ?_
            refine l_y (y_field (j' := 0 + Int.toNat x82 * 3) fa24_0 rfl rfl rfl) rfl rfl (by decide) ?_
            refine l_w rfl ?_
            obtain ⟨l106, hl106, H⟩ := Option.bind_eq_some_iff.1 H
            have hl106 := Option.some.inj hl106
            refine w_storeR3 (q := 0) (i := Int.toNat x82) (R := R_Type) (sz := 3) (x' := (⟨(-7), (rd x89 x82).Count, (rd x89 x82).Kids⟩ : GType)) (cs' := [.int .i64 (-7), .int .i64 ((rd x89 x82).Count), .slice A98 (((rd x89 x82).Kids).length) c99]) sz3 rfl rfl (by omega) rfl rfl rfl hO94 hi103 (by decide) rfl (R_Type.of (⟨(-7), (rd x89 x82).Count, (rd x89 x82).Kids⟩ : GType) A98 c99 hr105 (by first | assumption | simp | omega)) l106 hl106 rfl (fun css107 hO108 hl109 => ?_)
            try rw [hl109]
            have hV110 := hV93
            rw [hl109] at hV110
            refine l_nil ?_
            refine x_norm ?_
            refine x_next ?_
            refine g_plain ?_
            refine l_y (y_move rfl rfl) rfl rfl (by decide) ?_
            refine l_y (y_bin rfl rfl rfl bi_add) rfl rfl (by decide) ?_
            refine l_y (y_assign rfl rfl) rfl rfl (by decide) ?_
            refine l_nil ?_
            refine s_perm pf6 ?_
            refine s_perm pf6 ?_
            refine s_perm pf6 ?_
            refine s_perm pf6 ?_
            refine s_perm pf6 ?_
            refine s_perm pf6 ?_
            refine s_perm pf6 ?_
            exact fun a W hA => ⟨k0, by omega, _, (IntKind.i64.wrap (x82 + 1)), x83, l106, A84, cp85, css86, (some ⟨b97, 0, none⟩), cp91, css107, H, (by omega), hl81, hO88, hV87, hO108, hV110, ⟨hA.fits.only ⟨rfl, rfl, rfl, rfl, rfl, rfl, rfl, rfl, rfl, trivial⟩, hA.ext⟩⟩
          · rw [if_neg c95] at H
            refine s_lit (t := 60) rfl (decide_eq_false c95) ?_
            refine c_false rfl ?_
            refine c_exit ?_
            refine x_then rfl ?_
            refine x_then rfl ?_
            refine x_in ?_
            refine x_next ?_
            refine c_join (fun a W => ∃ (kq : Nat) (J111 : Imm) (x113 : List GType) (x119 : List GType) (A114 : Option Addr) (cp115 : Nat) (css116 : List (List Value)) (A120 : Option Addr) (cp121 : Nat) (css122 : List (List Value)), swagelaw11_TypesTell.j3 kq x113 x119 a0 a1 a2 r11 x50 r22 = some r ∧ kq ≤ k0 ∧ Imm.le J80 J111 ∧ OwnR R_Type 3 J111 x113 css116 ∧ OV 40 A114 x113.length cp115 ∧ OwnR R_Type 3 J111 x119 css122 ∧ OV 40 A120 x119.length cp121 ∧ At 141 [] [(2, .int .i64 a2), (3, .pointer (some ⟨β9, 0, none⟩)), (4, .pointer (some ⟨β10, 0, none⟩)), (7, .bool r11), (9, .pointer (some ⟨β29, 0, none⟩)), (12, .bool x50)] I [] w J111 [.cells β47 24 [.int .i64 r39.Kind, .int .i64 r39.Count, .slice A114 x113.length cp115] 3, .row A114 24 (List.flatten css116) (cp115 * 3), .cells β38 24 [.int .i64 r30.Kind, .int .i64 r30.Count, .slice A120 x119.length cp121] 3, .row A120 24 (List.flatten css122) (cp121 * 3), .cells β29 24 [.int .i64 r22.Kind, .int .i64 r22.Count, .slice A23 r22.Kids.length c24] 3, .cells β10 24 [.int .i64 a1.Kind, .int .i64 a1.Count, .slice A5 a1.Kids.length c6] 3, .cells β9 24 [.int .i64 a0.Kind, .int .i64 a0.Count, .slice A1 a0.Kids.length c2] 3] a W) ?_ ?_
            · skip
              refine c_seq ?_
              refine g_plain ?_
              refine l_y (y_move rfl rfl) rfl rfl (by decide) ?_
              refine l_nil ?_
              refine x_next ?_
              by_cases c125 : x50 = true
              · rw [if_pos c125] at H
                refine s_lit (t := 68) rfl c125 ?_
                refine c_true rfl ?_
                refine g_plain ?_
                refine l_y (y_field (j' := 2) fa24_2 rfl rfl rfl) rfl rfl (by decide) ?_
                refine l_y (y_load is22 rfl rfl (cl_own (i := 0) (j := 2) rfl rfl)) rfl rfl (by decide) ?_
                by_cases c126 : 0 < (x83.length : Int)
                rotate_left
                · rw [if_neg c126] at H; exact absurd H (by simp)
                rw [if_pos c126] at H
                refine s_rowat (i := 1) rfl hV87 (by omega) (fun b127 hA_ => ?_)
                obtain rfl := hA_
                obtain ⟨cs130, hR131, hl132, hi133, hf134⟩ := OwnR.elem (j := 0) hO88 (by decide) c126
                obtain ⟨A128, c129, rfl, hr135, chr135⟩ := hR131.open
                refine l_y (y_index sl22 rfl rfl rfl (by decide) c126) rfl rfl (by decide) ?_
                refine l_y (y_field (j' := 0 + Int.toNat 0 * 3) fa24_0 rfl rfl rfl) rfl rfl (by decide) ?_
                refine l_w rfl ?_
                obtain ⟨l136, hl136, H⟩ := Option.bind_eq_some_iff.1 H
                have hl136 := Option.some.inj hl136
                refine w_storeR1 (q := 0) (i := Int.toNat 0) (R := R_Type) (sz := 3) (x' := (⟨(-7), (rd x83 0).Count, (rd x83 0).Kids⟩ : GType)) (cs' := [.int .i64 (-7), .int .i64 ((rd x83 0).Count), .slice A128 (((rd x83 0).Kids).length) c129]) sz3 rfl rfl (by omega) rfl rfl rfl hO88 hi133 (by decide) rfl (R_Type.of (⟨(-7), (rd x83 0).Count, (rd x83 0).Kids⟩ : GType) A128 c129 hr135 (by first | assumption | simp | omega)) l136 hl136 rfl (fun css137 hO138 hl139 => ?_)
                try rw [hl139]
                have hV140 := hV87
                rw [hl139] at hV140
                refine l_nil ?_
                refine s_perm pf6 ?_
                refine s_perm pf6 ?_
                refine s_perm pf6 ?_
                refine s_perm pf6 ?_
                refine s_perm pf6 ?_
                refine s_perm pf6 ?_
                refine s_perm pf6 ?_
                exact fun a W hA => ⟨k0, _, l136, x89, (some ⟨b127, 0, none⟩), cp85, css137, A90, cp91, css92, H, (by omega), (Imm.rfl' _), hO138, hV140, hO94, hV93, ⟨hA.fits.only ⟨rfl, rfl, rfl, rfl, rfl, rfl, trivial⟩, hA.ext⟩⟩
              · rw [if_neg c125] at H
                refine s_lit (t := 68) rfl (Bool.eq_false_iff.2 c125) ?_
                refine c_false rfl ?_
                refine c_skip ?_
                refine s_perm pf6 ?_
                refine s_perm pf6 ?_
                refine s_perm pf6 ?_
                refine s_perm pf6 ?_
                refine s_perm pf6 ?_
                refine s_perm pf6 ?_
                refine s_perm pf6 ?_
                exact fun a W hA => ⟨k0, _, x83, x89, A84, cp85, css86, A90, cp91, css92, H, (by omega), (Imm.rfl' _), hO88, hV87, hO94, hV93, ⟨hA.fits.only ⟨rfl, rfl, rfl, rfl, rfl, rfl, trivial⟩, hA.ext⟩⟩
            clear H
            rintro a W ⟨kq, J111, x113, x119, A114, cp115, css116, A120, cp121, css122, H, hk, hl112, hO118, hV117, hO124, hV123, hA⟩
            refine here hA ?_
            clear hA a W
            cases kq with
            | zero => exact absurd H (by simp [swagelaw11_TypesTell.j3])
            | succ k_j3 =>
              simp only [swagelaw11_TypesTell.j3] at H
              refine c_seq ?_
              refine g_plain ?_
              refine l_y (y_loadA (cs := [.int .i64 a0.Kind, .int .i64 a0.Count, .slice A1 a0.Kids.length c2]) ia24 rfl rfl rfl (cls_own (i := 6) rfl rfl)) rfl rfl (by decide) ?_
              refine l_y (y_move rfl rfl) rfl rfl (by decide) ?_
              refine l_w rfl ?_
              obtain ⟨r141, hr141, H⟩ := Option.bind_eq_some_iff.1 H
              refine w_call (args := [.agg #[.int .i64 a0.Kind, .int .i64 a0.Count, .slice A1 a0.Kids.length c2], .int .i64 a2]) (caps := []) has17 rfl rfl rfl rfl (by decide) (fun a W F E => ?_)
              refine (types_Offset.calls k_j3 a0 a2 A1 c2 J111 W r141 (hr3.mono R_Type.mono ((((((hl14.trans hl28).trans hl37).trans hl46).trans hl49).trans hl81).trans hl112)) (by first | assumption | simp | omega) (E.st.sub (List.nil_sublist _)) hr141).mono ?_
              rintro e W' ⟨rfl, X⟩
              refine ⟨_, rfl, here (At.mk (F.put (by decide) _) (E.call0 X)) ?_⟩
              clear X E F W W' a
              refine l_y (y_move rfl rfl) rfl rfl (by decide) ?_
              refine l_y (y_extract rfl rfl rfl) rfl rfl (by decide) ?_
              refine l_y (y_extract rfl rfl rfl) rfl rfl (by decide) ?_
              refine l_y (y_assign rfl rfl) rfl rfl (by decide) ?_
              refine l_y (y_assign rfl rfl) rfl rfl (by decide) ?_
              refine l_nil ?_
              refine x_next ?_
              refine c_seq ?_
              refine g_plain ?_
              refine l_y (y_loadA (cs := [.int .i64 a0.Kind, .int .i64 a0.Count, .slice A1 a0.Kids.length c2]) ia24 rfl rfl rfl (cls_own (i := 6) rfl rfl)) rfl rfl (by decide) ?_
              refine l_y (y_move rfl rfl) rfl rfl (by decide) ?_
              refine l_w rfl ?_
              obtain ⟨r143, hr143, H⟩ := Option.bind_eq_some_iff.1 H
              refine w_call (args := [.agg #[.int .i64 a0.Kind, .int .i64 a0.Count, .slice A1 a0.Kids.length c2], .int .i64 a2]) (caps := []) has18 rfl rfl rfl rfl (by decide) (fun a W F E => ?_)
              refine (swageref11_Offset.calls k_j3 a0 a2 A1 c2 J111 W r143 (hr3.mono R_Type.mono ((((((hl14.trans hl28).trans hl37).trans hl46).trans hl49).trans hl81).trans hl112)) (by first | assumption | simp | omega) (E.st.sub (List.nil_sublist _)) hr143).mono ?_
              rintro e W' ⟨rfl, X⟩
              refine ⟨_, rfl, here (At.mk (F.put (by decide) _) (E.call0 X)) ?_⟩
              clear X E F W W' a
              refine l_y (y_move rfl rfl) rfl rfl (by decide) ?_
              refine l_y (y_extract rfl rfl rfl) rfl rfl (by decide) ?_
              refine l_y (y_extract rfl rfl rfl) rfl rfl (by decide) ?_
              refine l_y (y_assign rfl rfl) rfl rfl (by decide) ?_
              refine l_y (y_assign rfl rfl) rfl rfl (by decide) ?_
              refine l_nil ?_
              refine x_next ?_
              refine c_seq ?_
              refine d_start [.cells β47 24 [.int .i64 r39.Kind, .int .i64 r39.Count, .slice A114 x113.length cp115] 3, .row A114 24 (List.flatten css116) (cp115 * 3), .cells β38 24 [.int .i64 r30.Kind, .int .i64 r30.Count, .slice A120 x119.length cp121] 3, .row A120 24 (List.flatten css122) (cp121 * 3), .cells β29 24 [.int .i64 r22.Kind, .int .i64 r22.Count, .slice A23 r22.Kids.length c24] 3, .cells β10 24 [.int .i64 a1.Kind, .int .i64 a1.Count, .slice A5 a1.Kids.length c6] 3, .cells β9 24 [.int .i64 a0.Kind, .int .i64 a0.Count, .slice A1 a0.Kids.length c2] 3] [] (bits 57 0) mixed_ rfl (by kernel_rfl) (pick_mem (is := [0, 1, 2, 3, 4, 5, 6]) ⟨rfl, rfl, rfl, rfl, rfl, rfl, rfl, trivial⟩) ?_
              refine d_many (k' := 3) [(0, 1), (1, 3)] 55 rfl (by kernel_rfl) (fun _ _ _ _ _ h => h) ?_
              by_cases c145 : r11 = true
              · rw [if_pos c145] at H
                refine s_lit (t := 86) rfl c145 ?_
                refine d_pure 2 (bits 57 7) (y_move rfl rfl) rfl rfl (by decide) (by kernel_rfl) (fun _ _ _ h => h) (.on rfl rfl rfl rfl) ?_
                refine d_many (k' := 31) [(3, 15), (4, 31)] 52 rfl (by kernel_rfl) (fun _ _ _ _ _ h => h) ?_
                by_cases c146 : x50 = true
                · rw [if_pos c146] at H
                  refine s_lit (t := 89) rfl c146 ?_
                  refine d_take 5 (bits 57 63) (y_loadA (cs := [.int .i64 a0.Kind, .int .i64 a0.Count, .slice A1 a0.Kids.length c2]) ia24 rfl rfl rfl (cls_own (i := 6) rfl rfl)) rfl rfl (by decide) (by kernel_rfl) (fun _ _ _ h => h) (.on rfl rfl rfl rfl) (Imm.rfl' _) (pick_mem (is := [0, 1, 2, 3, 4, 5, 6]) ⟨rfl, rfl, rfl, rfl, rfl, rfl, rfl, trivial⟩) ?_
                  refine d_take 7 (bits 57 191) (y_loadA (cs := [.int .i64 a0.Kind, .int .i64 a0.Count, .slice A1 a0.Kids.length c2]) ia24 rfl rfl rfl (cls_own (i := 6) rfl rfl)) rfl rfl (by decide) (by kernel_rfl) (fun _ _ _ h => h) (.on rfl rfl rfl rfl) (Imm.rfl' _) (pick_mem (is := [0, 1, 2, 3, 4, 5, 6]) ⟨rfl, rfl, rfl, rfl, rfl, rfl, rfl, trivial⟩) ?_
                  refine d_one 6 (bits 57 255) rfl (by kernel_rfl) (by decide) (.on rfl rfl rfl rfl) (fun K hK => ?_)
                  obtain ⟨r147, hr147, H⟩ := Option.bind_eq_some_iff.1 H
                  refine w_call (args := [.agg #[.int .i64 a0.Kind, .int .i64 a0.Count, .slice A1 a0.Kids.length c2]]) (caps := []) has19 rfl rfl rfl rfl (by decide) (fun a W F E => ?_)
                  refine (types_Right.calls k_j3 a0 A1 c2 J111 W r147 (hr3.mono R_Type.mono ((((((hl14.trans hl28).trans hl37).trans hl46).trans hl49).trans hl81).trans hl112)) (by first | assumption | simp | omega) (E.st.sub (List.nil_sublist _)) hr147).mono ?_
                  rintro e W' ⟨rfl, X⟩
                  refine ⟨_, rfl, here (At.mk (F.put (by decide) _) (E.call0 X)) ?_⟩
                  clear X E F W W' a
                  refine d_k hK (Imm.rfl' _) (pick_mem (is := [0, 1, 2, 3, 4, 5, 6]) ⟨rfl, rfl, rfl, rfl, rfl, rfl, rfl, trivial⟩) ?_
                  clear hK K
                  refine d_one 8 (bits 57 511) rfl (by kernel_rfl) (by decide) (.on rfl rfl rfl rfl) (fun K hK => ?_)
                  obtain ⟨r149, hr149, H⟩ := Option.bind_eq_some_iff.1 H
                  refine w_call (args := [.agg #[.int .i64 a0.Kind, .int .i64 a0.Count, .slice A1 a0.Kids.length c2]]) (caps := []) has20 rfl rfl rfl rfl (by decide) (fun a W F E => ?_)
                  refine (swageref11_Right.calls k_j3 a0 A1 c2 J111 W r149 (hr3.mono R_Type.mono ((((((hl14.trans hl28).trans hl37).trans hl46).trans hl49).trans hl81).trans hl112)) (by first | assumption | simp | omega) (E.st.sub (List.nil_sublist _)) hr149).mono ?_
                  rintro e W' ⟨rfl, X⟩
                  refine ⟨_, rfl, here (At.mk (F.put (by decide) _) (E.call0 X)) ?_⟩
                  clear X E F W W' a
                  refine d_k hK (Imm.rfl' _) (pick_mem (is := [0, 1, 2, 3, 4, 5, 6]) ⟨rfl, rfl, rfl, rfl, rfl, rfl, rfl, trivial⟩) ?_
                  clear hK K
                  refine d_pure 9 (bits 57 1023) (y_bin rfl rfl rfl (bi_beq Tryd.underlying4)) rfl rfl (by decide) (by kernel_rfl) (fun _ _ _ h => h) (.on rfl rfl rfl rfl) ?_
                  refine d_many (k' := 4095) [(10, 2047), (11, 4095)] 45 rfl (by kernel_rfl) (fun _ _ _ _ _ h => h) ?_
                  by_cases c151 : r147 = true
                  · rw [if_pos c151] at H
                    by_cases c152 : r149 = true
                    · rw [if_pos c152] at H
                      refine s_lit (t := 96) rfl (beq_of c151 c152) ?_
                      refine d_take 12 (bits 57 8191) (y_loadA (cs := [.int .i64 a0.Kind, .int .i64 a0.Count, .slice A1 a0.Kids.length c2]) ia24 rfl rfl rfl (cls_own (i := 6) rfl rfl)) rfl rfl (by decide) (by kernel_rfl) (fun _ _ _ h => h) (.on rfl rfl rfl rfl) (Imm.rfl' _) (pick_mem (is := [0, 1, 2, 3, 4, 5, 6]) ⟨rfl, rfl, rfl, rfl, rfl, rfl, rfl, trivial⟩) ?_
                      refine d_take 14 (bits 57 24575) (y_loadA (cs := [.int .i64 a0.Kind, .int .i64 a0.Count, .slice A1 a0.Kids.length c2]) ia24 rfl rfl rfl (cls_own (i := 6) rfl rfl)) rfl rfl (by decide) (by kernel_rfl) (fun _ _ _ h => h) (.on rfl rfl rfl rfl) (Imm.rfl' _) (pick_mem (is := [0, 1, 2, 3, 4, 5, 6]) ⟨rfl, rfl, rfl, rfl, rfl, rfl, rfl, trivial⟩) ?_
                      refine d_one 13 (bits 57 32767) rfl (by kernel_rfl) (by decide) (.on rfl rfl rfl rfl) (fun K hK => ?_)
                      obtain ⟨r153, hr153, H⟩ := Option.bind_eq_some_iff.1 H
                      refine w_call (args := [.agg #[.int .i64 a0.Kind, .int .i64 a0.Count, .slice A1 a0.Kids.length c2]]) (caps := []) has21 rfl rfl rfl rfl (by decide) (fun a W F E => ?_)
                      refine (types_Size.calls k_j3 a0 A1 c2 J111 W r153 (hr3.mono R_Type.mono ((((((hl14.trans hl28).trans hl37).trans hl46).trans hl49).trans hl81).trans hl112)) (by first | assumption | simp | omega) (E.st.sub (List.nil_sublist _)) hr153).mono ?_
                      rintro e W' ⟨rfl, X⟩
                      refine ⟨_, rfl, here (At.mk (F.put (by decide) _) (E.call0 X)) ?_⟩
                      clear X E F W W' a
                      refine d_k hK (Imm.rfl' _) (pick_mem (is := [0, 1, 2, 3, 4, 5, 6]) ⟨rfl, rfl, rfl, rfl, rfl, rfl, rfl, trivial⟩) ?_
                      clear hK K
                      refine d_one 15 (bits 57 65535) rfl (by kernel_rfl) (by decide) (.on rfl rfl rfl rfl) (fun K hK => ?_)
                      obtain ⟨r155, hr155, H⟩ := Option.bind_eq_some_iff.1 H
                      refine w_call (args := [.agg #[.int .i64 a0.Kind, .int .i64 a0.Count, .slice A1 a0.Kids.length c2]]) (caps := []) has22 rfl rfl rfl rfl (by decide) (fun a W F E => ?_)
                      refine (swageref11_Size.calls k_j3 a0 A1 c2 J111 W r155 (hr3.mono R_Type.mono ((((((hl14.trans hl28).trans hl37).trans hl46).trans hl49).trans hl81).trans hl112)) (by first | assumption | simp | omega) (E.st.sub (List.nil_sublist _)) hr155).mono ?_
                      rintro e W' ⟨rfl, X⟩
                      refine ⟨_, rfl, here (At.mk (F.put (by decide) _) (E.call0 X)) ?_⟩
                      clear X E F W W' a
                      refine d_k hK (Imm.rfl' _) (pick_mem (is := [0, 1, 2, 3, 4, 5, 6]) ⟨rfl, rfl, rfl, rfl, rfl, rfl, rfl, trivial⟩) ?_
                      clear hK K
                      refine d_pure 16 (bits 57 131071) (y_bin rfl rfl rfl bi_eq) rfl rfl (by decide) (by kernel_rfl) (fun _ _ _ h => h) (.on rfl rfl rfl rfl) ?_
                      refine d_many (k' := 524287) [(17, 262143), (18, 524287)] 38 rfl (by kernel_rfl) (fun _ _ _ _ _ h => h) ?_
                      by_cases c157 : r153 = r155
                      · rw [if_pos c157] at H
                        refine s_lit (t := 103) rfl (decide_eq_true c157) ?_
                        refine d_pure 19 (bits 57 1048575) (y_move rfl rfl) rfl rfl (by decide) (by kernel_rfl) (fun _ _ _ h => h) (.on rfl rfl rfl rfl) ?_
                        refine d_pure 20 (bits 57 2097151) (y_move rfl rfl) rfl rfl (by decide) (by kernel_rfl) (fun _ _ _ h => h) (.on rfl rfl rfl rfl) ?_
                        refine d_pure 21 (bits 57 4194303) (y_bin rfl rfl rfl bi_eq) rfl rfl (by decide) (by kernel_rfl) (fun _ _ _ h => h) (.on rfl rfl rfl rfl) ?_
                        refine d_many (k' := 16777215) [(22, 8388607), (23, 16777215)] 33 rfl (by kernel_rfl) (fun _ _ _ _ _ h => h) ?_
                        by_cases c158 : r141.1 = r143.1
                        · rw [if_pos c158] at H
                          refine s_lit (t := 108) rfl (decide_eq_true c158) ?_
                          refine d_pure 24 (bits 57 33554431) (y_move rfl rfl) rfl rfl (by decide) (by kernel_rfl) (fun _ _ _ h => h) (.on rfl rfl rfl rfl) ?_
                          refine d_pure 25 (bits 57 67108863) (y_move rfl rfl) rfl rfl (by decide) (by kernel_rfl) (fun _ _ _ h => h) (.on rfl rfl rfl rfl) ?_
                          refine d_pure 26 (bits 57 134217727) (y_bin rfl rfl rfl (bi_beq Tryd.underlying4)) rfl rfl (by decide) (by kernel_rfl) (fun _ _ _ h => h) (.on rfl rfl rfl rfl) ?_
                          refine d_many (k' := 536870911) [(27, 268435455), (28, 536870911)] 28 rfl (by kernel_rfl) (fun _ _ _ _ _ h => h) ?_
                          by_cases c159 : r141.2 = true
                          · rw [if_pos c159] at H
                            by_cases c160 : r143.2 = true
                            · rw [if_pos c160] at H
                              refine s_lit (t := 113) rfl (beq_of c159 c160) ?_
                              refine d_take 29 (bits 57 1073741823) (y_loadA (cs := [.int .i64 a0.Kind, .int .i64 a0.Count, .slice A1 a0.Kids.length c2]) ia24 rfl rfl rfl (cls_own (i := 6) rfl rfl)) rfl rfl (by decide) (by kernel_rfl) (fun _ _ _ h => h) (.on rfl rfl rfl rfl) (Imm.rfl' _) (pick_mem (is := [0, 1, 2, 3, 4, 5, 6]) ⟨rfl, rfl, rfl, rfl, rfl, rfl, rfl, trivial⟩) ?_
                              refine d_take 30 (bits 57 2147483647) (y_loadA (cs := [.int .i64 a1.Kind, .int .i64 a1.Count, .slice A5 a1.Kids.length c6]) ia24 rfl rfl rfl (cls_own (i := 5) rfl rfl)) rfl rfl (by decide) (by kernel_rfl) (fun _ _ _ h => h) (.on rfl rfl rfl rfl) (Imm.rfl' _) (pick_mem (is := [0, 1, 2, 3, 4, 5, 6]) ⟨rfl, rfl, rfl, rfl, rfl, rfl, rfl, trivial⟩) ?_
                              refine d_take 32 (bits 57 6442450943) (y_loadA (cs := [.int .i64 a0.Kind, .int .i64 a0.Count, .slice A1 a0.Kids.length c2]) ia24 rfl rfl rfl (cls_own (i := 6) rfl rfl)) rfl rfl (by decide) (by kernel_rfl) (fun _ _ _ h => h) (.on rfl rfl rfl rfl) (Imm.rfl' _) (pick_mem (is := [0, 1, 2, 3, 4, 5, 6]) ⟨rfl, rfl, rfl, rfl, rfl, rfl, rfl, trivial⟩) ?_
                              refine d_take 33 (bits 57 15032385535) (y_loadA (cs := [.int .i64 a1.Kind, .int .i64 a1.Count, .slice A5 a1.Kids.length c6]) ia24 rfl rfl rfl (cls_own (i := 5) rfl rfl)) rfl rfl (by decide) (by kernel_rfl) (fun _ _ _ h => h) (.on rfl rfl rfl rfl) (Imm.rfl' _) (pick_mem (is := [0, 1, 2, 3, 4, 5, 6]) ⟨rfl, rfl, rfl, rfl, rfl, rfl, rfl, trivial⟩) ?_
                              refine d_one 31 (bits 57 17179869183) rfl (by kernel_rfl) (by decide) (.on rfl rfl rfl rfl) (fun K hK => ?_)
                              obtain ⟨r161, hr161, H⟩ := Option.bind_eq_some_iff.1 H
                              refine w_call (args := [.agg #[.int .i64 a0.Kind, .int .i64 a0.Count, .slice A1 a0.Kids.length c2], .agg #[.int .i64 a1.Kind, .int .i64 a1.Count, .slice A5 a1.Kids.length c6]]) (caps := []) has23 rfl rfl rfl rfl (by decide) (fun a W F E => ?_)
                              refine (types_Same.calls k_j3 a0 a1 A1 c2 A5 c6 J111 W r161 (hr3.mono R_Type.mono ((((((hl14.trans hl28).trans hl37).trans hl46).trans hl49).trans hl81).trans hl112)) (by first | assumption | simp | omega) (hr7.mono R_Type.mono ((((((hl14.trans hl28).trans hl37).trans hl46).trans hl49).trans hl81).trans hl112)) (by first | assumption | simp | omega) (E.st.sub (List.nil_sublist _)) hr161).mono ?_
                              rintro e W' ⟨rfl, X⟩
                              refine ⟨_, rfl, here (At.mk (F.put (by decide) _) (E.call0 X)) ?_⟩
                              clear X E F W W' a
                              refine d_k hK (Imm.rfl' _) (pick_mem (is := [0, 1, 2, 3, 4, 5, 6]) ⟨rfl, rfl, rfl, rfl, rfl, rfl, rfl, trivial⟩) ?_
                              clear hK K
                              refine d_one 34 (bits 57 34359738367) rfl (by kernel_rfl) (by decide) (.on rfl rfl rfl rfl) (fun K hK => ?_)
                              obtain ⟨r163, hr163, H⟩ := Option.bind_eq_some_iff.1 H
                              refine w_call (args := [.agg #[.int .i64 a0.Kind, .int .i64 a0.Count, .slice A1 a0.Kids.length c2], .agg #[.int .i64 a1.Kind, .int .i64 a1.Count, .slice A5 a1.Kids.length c6]]) (caps := []) has16 rfl rfl rfl rfl (by decide) (fun a W F E => ?_)
                              refine (swageref11_Same.calls k_j3 a0 a1 A1 c2 A5 c6 J111 W r163 (hr3.mono R_Type.mono ((((((hl14.trans hl28).trans hl37).trans hl46).trans hl49).trans hl81).trans hl112)) (by first | assumption | simp | omega) (hr7.mono R_Type.mono ((((((hl14.trans hl28).trans hl37).trans hl46).trans hl49).trans hl81).trans hl112)) (by first | assumption | simp | omega) (E.st.sub (List.nil_sublist _)) hr163).mono ?_
                              rintro e W' ⟨rfl, X⟩
                              refine ⟨_, rfl, here (At.mk (F.put (by decide) _) (E.call0 X)) ?_⟩
                              clear X E F W W' a
                              refine d_k hK (Imm.rfl' _) (pick_mem (is := [0, 1, 2, 3, 4, 5, 6]) ⟨rfl, rfl, rfl, rfl, rfl, rfl, rfl, trivial⟩) ?_
                              clear hK K
                              refine d_pure 35 (bits 57 68719476735) (y_bin rfl rfl rfl (bi_beq Tryd.underlying4)) rfl rfl (by decide) (by kernel_rfl) (fun _ _ _ h => h) (.on rfl rfl rfl rfl) ?_
                              refine d_many (k' := 274877906943) [(36, 137438953471), (37, 274877906943)] 19 rfl (by kernel_rfl) (fun _ _ _ _ _ h => h) ?_
                              by_cases c165 : r161 = true
                              · rw [if_pos c165] at H
                                by_cases c166 : r163 = true
                                · rw [if_pos c166] at H
                                  refine s_lit (t := 122) rfl (beq_of c165 c166) ?_
                                  refine d_take 38 (bits 57 549755813887) (y_loadA (cs := [.int .i64 a0.Kind, .int .i64 a0.Count, .slice A1 a0.Kids.length c2]) ia24 rfl rfl rfl (cls_own (i := 6) rfl rfl)) rfl rfl (by decide) (by kernel_rfl) (fun _ _ _ h => h) (.on rfl rfl rfl rfl) (Imm.rfl' _) (pick_mem (is := [0, 1, 2, 3, 4, 5, 6]) ⟨rfl, rfl, rfl, rfl, rfl, rfl, rfl, trivial⟩) ?_
                                  refine d_take 40 (bits 57 1649267441663) (y_loadA (cs := [.int .i64 a0.Kind, .int .i64 a0.Count, .slice A1 a0.Kids.length c2]) ia24 rfl rfl rfl (cls_own (i := 6) rfl rfl)) rfl rfl (by decide) (by kernel_rfl) (fun _ _ _ h => h) (.on rfl rfl rfl rfl) (Imm.rfl' _) (pick_mem (is := [0, 1, 2, 3, 4, 5, 6]) ⟨rfl, rfl, rfl, rfl, rfl, rfl, rfl, trivial⟩) ?_
                                  refine d_one 39 (bits 57 2199023255551) rfl (by kernel_rfl) (by decide) (.on rfl rfl rfl rfl) (fun K hK => ?_)
                                  obtain ⟨r167, hr167, H⟩ := Option.bind_eq_some_iff.1 H
                                  refine w_call (args := [.agg #[.int .i64 a0.Kind, .int .i64 a0.Count, .slice A1 a0.Kids.length c2]]) (caps := []) has24 rfl rfl rfl rfl (by decide) (fun a W F E => ?_)
                                  refine (types_Scalar.calls k_j3 a0 A1 c2 J111 W r167 (hr3.mono R_Type.mono ((((((hl14.trans hl28).trans hl37).trans hl46).trans hl49).trans hl81).trans hl112)) (by first | assumption | simp | omega) (E.st.sub (List.nil_sublist _)) hr167).mono ?_
                                  rintro e W' ⟨rfl, X⟩
                                  refine ⟨_, rfl, here (At.mk (F.put (by decide) _) (E.call0 X)) ?_⟩
                                  clear X E F W W' a
                                  refine d_k hK (Imm.rfl' _) (pick_mem (is := [0, 1, 2, 3, 4, 5, 6]) ⟨rfl, rfl, rfl, rfl, rfl, rfl, rfl, trivial⟩) ?_
                                  clear hK K
                                  refine d_one 41 (bits 57 4398046511103) rfl (by kernel_rfl) (by decide) (.on rfl rfl rfl rfl) (fun K hK => ?_)
                                  obtain ⟨r169, hr169, H⟩ := Option.bind_eq_some_iff.1 H
                                  refine w_call (args := [.agg #[.int .i64 a0.Kind, .int .i64 a0.Count, .slice A1 a0.Kids.length c2]]) (caps := []) has25 rfl rfl rfl rfl (by decide) (fun a W F E => ?_)
                                  refine (swageref11_Scalar.calls k_j3 a0 A1 c2 J111 W r169 (hr3.mono R_Type.mono ((((((hl14.trans hl28).trans hl37).trans hl46).trans hl49).trans hl81).trans hl112)) (by first | assumption | simp | omega) (E.st.sub (List.nil_sublist _)) hr169).mono ?_
                                  rintro e W' ⟨rfl, X⟩
                                  refine ⟨_, rfl, here (At.mk (F.put (by decide) _) (E.call0 X)) ?_⟩
                                  clear X E F W W' a
                                  refine d_k hK (Imm.rfl' _) (pick_mem (is := [0, 1, 2, 3, 4, 5, 6]) ⟨rfl, rfl, rfl, rfl, rfl, rfl, rfl, trivial⟩) ?_
                                  clear hK K
                                  refine d_pure 42 (bits 57 8796093022207) (y_bin rfl rfl rfl (bi_beq Tryd.underlying4)) rfl rfl (by decide) (by kernel_rfl) (fun _ _ _ h => h) (.on rfl rfl rfl rfl) ?_
                                  refine d_many (k' := 35184372088831) [(43, 17592186044415), (44, 35184372088831)] 12 rfl (by kernel_rfl) (fun _ _ _ _ _ h => h) ?_
                                  by_cases c171 : r167 = true
                                  · rw [if_pos c171] at H
                                    by_cases c172 : r169 = true
                                    · rw [if_pos c172] at H
                                      refine s_lit (t := 129) rfl (beq_of c171 c172) ?_
                                      refine d_take 45 (bits 57 70368744177663) (y_loadA (cs := [.int .i64 a0.Kind, .int .i64 a0.Count, .slice A1 a0.Kids.length c2]) ia24 rfl rfl rfl (cls_own (i := 6) rfl rfl)) rfl rfl (by decide) (by kernel_rfl) (fun _ _ _ h => h) (.on rfl rfl rfl rfl) (Imm.rfl' _) (pick_mem (is := [0, 1, 2, 3, 4, 5, 6]) ⟨rfl, rfl, rfl, rfl, rfl, rfl, rfl, trivial⟩) ?_
                                      refine d_take 47 (bits 57 211106232532991) (y_loadA (cs := [.int .i64 a0.Kind, .int .i64 a0.Count, .slice A1 a0.Kids.length c2]) ia24 rfl rfl rfl (cls_own (i := 6) rfl rfl)) rfl rfl (by decide) (by kernel_rfl) (fun _ _ _ h => h) (.on rfl rfl rfl rfl) (Imm.rfl' _) (pick_mem (is := [0, 1, 2, 3, 4, 5, 6]) ⟨rfl, rfl, rfl, rfl, rfl, rfl, rfl, trivial⟩) ?_
                                      refine d_one 46 (bits 57 281474976710655) rfl (by kernel_rfl) (by decide) (.on rfl rfl rfl rfl) (fun K hK => ?_)
                                      obtain ⟨r173, hr173, H⟩ := Option.bind_eq_some_iff.1 H
                                      refine w_call (args := [.agg #[.int .i64 a0.Kind, .int .i64 a0.Count, .slice A1 a0.Kids.length c2]]) (caps := []) has26 rfl rfl rfl rfl (by decide) (fun a W F E => ?_)
                                      refine (types_Text.calls k_j3 a0 A1 c2 J111 W r173 (hr3.mono R_Type.mono ((((((hl14.trans hl28).trans hl37).trans hl46).trans hl49).trans hl81).trans hl112)) (by first | assumption | simp | omega) (E.st.sub (List.nil_sublist _)) (hT.mono ((((((hl14.trans hl28).trans hl37).trans hl46).trans hl49).trans hl81).trans hl112)) hr173).mono ?_
                                      rintro e W' ⟨rfl, X⟩
                                      refine ⟨_, rfl, here (At.mk (F.put (by decide) _) (E.call0 X)) ?_⟩
                                      clear X E F W W' a
                                      refine d_k hK (Imm.rfl' _) (pick_mem (is := [0, 1, 2, 3, 4, 5, 6]) ⟨rfl, rfl, rfl, rfl, rfl, rfl, rfl, trivial⟩) ?_
                                      clear hK K
                                      refine d_one 48 (bits 57 562949953421311) rfl (by kernel_rfl) (by decide) (.on rfl rfl rfl rfl) (fun K hK => ?_)
                                      obtain ⟨r175, hr175, H⟩ := Option.bind_eq_some_iff.1 H
                                      refine w_call (args := [.agg #[.int .i64 a0.Kind, .int .i64 a0.Count, .slice A1 a0.Kids.length c2]]) (caps := []) has27 rfl rfl rfl rfl (by decide) (fun a W F E => ?_)
                                      refine (swageref11_Text.calls k_j3 a0 A1 c2 J111 W r175 (hr3.mono R_Type.mono ((((((hl14.trans hl28).trans hl37).trans hl46).trans hl49).trans hl81).trans hl112)) (by first | assumption | simp | omega) (E.st.sub (List.nil_sublist _)) hr175).mono ?_
                                      rintro e W' ⟨rfl, X⟩
                                      refine ⟨_, rfl, here (At.mk (F.put (by decide) _) (E.call0 X)) ?_⟩
                                      clear X E F W W' a
                                      refine d_k hK (Imm.rfl' _) (pick_mem (is := [0, 1, 2, 3, 4, 5, 6]) ⟨rfl, rfl, rfl, rfl, rfl, rfl, rfl, trivial⟩) ?_
                                      clear hK K
                                      refine d_pure 49 (bits 57 1125899906842623) (y_bin rfl rfl rfl bi_seq) rfl rfl (by decide) (by kernel_rfl) (fun _ _ _ h => h) (.on rfl rfl rfl rfl) ?_
                                      refine d_many (k' := 4503599627370495) [(50, 2251799813685247), (51, 4503599627370495)] 5 rfl (by kernel_rfl) (fun _ _ _ _ _ h => h) ?_
                                      by_cases c177 : r173 = r175
                                      · rw [if_pos c177] at H
                                        refine s_lit (t := 136) rfl (decide_eq_true c177) ?_
                                        refine d_take 52 (bits 57 9007199254740991) (y_loadA (cs := [.int .i64 a0.Kind, .int .i64 a0.Count, .slice A1 a0.Kids.length c2]) ia24 rfl rfl rfl (cls_own (i := 6) rfl rfl)) rfl rfl (by decide) (by kernel_rfl) (fun _ _ _ h => h) (.on rfl rfl rfl rfl) (Imm.rfl' _) (pick_mem (is := [0, 1, 2, 3, 4, 5, 6]) ⟨rfl, rfl, rfl, rfl, rfl, rfl, rfl, trivial⟩) ?_
                                        refine d_take 53 (bits 57 18014398509481983) (y_loadA (cs := [.int .i64 r22.Kind, .int .i64 r22.Count, .slice A23 r22.Kids.length c24]) ia24 rfl rfl rfl (cls_own (i := 4) rfl rfl)) rfl rfl (by decide) (by kernel_rfl) (fun _ _ _ h => h) (.on rfl rfl rfl rfl) (Imm.rfl' _) (pick_mem (is := [0, 1, 2, 3, 4, 5, 6]) ⟨rfl, rfl, rfl, rfl, rfl, rfl, rfl, trivial⟩) ?_
                                        refine d_one 54 (bits 57 36028797018963967) rfl (by kernel_rfl) (by decide) (.on rfl rfl rfl rfl) (fun K hK => ?_)
                                        obtain ⟨r178, hr178, H⟩ := Option.bind_eq_some_iff.1 H
                                        refine w_call (args := [.agg #[.int .i64 a0.Kind, .int .i64 a0.Count, .slice A1 a0.Kids.length c2], .agg #[.int .i64 r22.Kind, .int .i64 r22.Count, .slice A23 r22.Kids.length c24]]) (caps := []) has16 rfl rfl rfl rfl (by decide) (fun a W F E => ?_)
                                        refine (swageref11_Same.calls k_j3 a0 r22 A1 c2 A23 c24 J111 W r178 (hr3.mono R_Type.mono ((((((hl14.trans hl28).trans hl37).trans hl46).trans hl49).trans hl81).trans hl112)) (by first | assumption | simp | omega) (hr25.mono R_Type.mono ((((hl37.trans hl46).trans hl49).trans hl81).trans hl112)) (by first | assumption | simp | omega) (E.st.sub (List.nil_sublist _)) hr178).mono ?_
                                        rintro e W' ⟨rfl, X⟩
                                        refine ⟨_, rfl, here (At.mk (F.put (by decide) _) (E.call0 X)) ?_⟩
                                        clear X E F W W' a
                                        refine d_k hK (Imm.rfl' _) (pick_mem (is := [0, 1, 2, 3, 4, 5, 6]) ⟨rfl, rfl, rfl, rfl, rfl, rfl, rfl, trivial⟩) ?_
                                        clear hK K
                                        refine d_many (k' := 144115188075855871) [(55, 72057594037927935), (56, 144115188075855871)] 0 rfl (by kernel_rfl) (fun _ _ _ _ _ h => h) ?_
                                        refine d_done (by kernel_rfl) ?_
                                        refine x_next ?_
                                        refine c_ret ?_
                                        obtain rfl := Option.some.inj H
                                        exact g_ret [.bool r178] (congrArg Array.toList Tryd.results3) (.cons (.t rfl) .nil) (fun W E => ⟨rfl, (E.drop (List.nil_sublist _)).back⟩)
                                      · rw [if_neg c177] at H
                                        refine s_lit (t := 136) rfl (decide_eq_false c177) ?_
                                        refine d_off 52 (bits 57 9007199254740991) rfl rfl (by decide) (by kernel_rfl) (fun _ _ _ h => h) (.off rfl rfl rfl rfl rfl) ?_
                                        refine d_many (k' := 144115188075855871) [(53, 18014398509481983), (54, 36028797018963967), (55, 72057594037927935), (56, 144115188075855871)] 0 rfl (by kernel_rfl) (fun _ _ _ _ _ h => h) ?_
                                        refine d_done (by kernel_rfl) ?_
                                        refine x_next ?_
                                        refine c_ret ?_
                                        obtain rfl := Option.some.inj H
                                        exact g_ret [.bool false] (congrArg Array.toList Tryd.results3) (.cons (.t rfl) .nil) (fun W E => ⟨rfl, (E.drop (List.nil_sublist _)).back⟩)
                                    · rw [if_neg c172] at H
                                      refine s_lit (t := 129) rfl (beq_of c171 (Bool.eq_false_iff.2 c172)) ?_
                                      refine d_off 45 (bits 57 70368744177663) rfl rfl (by decide) (by kernel_rfl) (fun _ _ _ h => h) (.off rfl rfl rfl rfl rfl) ?_
                                      refine d_many (k' := 144115188075855871) [(47, 211106232532991), (46, 281474976710655), (48, 562949953421311), (49, 1125899906842623), (50, 2251799813685247), (51, 4503599627370495), (52, 9007199254740991), (53, 18014398509481983), (54, 36028797018963967), (55, 72057594037927935), (56, 144115188075855871)] 0 rfl (by kernel_rfl) (fun _ _ _ _ _ h => h) ?_
                                      refine d_done (by kernel_rfl) ?_
                                      refine x_next ?_
                                      refine c_ret ?_
                                      obtain rfl := Option.some.inj H
                                      exact g_ret [.bool false] (congrArg Array.toList Tryd.results3) (.cons (.t rfl) .nil) (fun W E => ⟨rfl, (E.drop (List.nil_sublist _)).back⟩)
                                  · rw [if_neg c171] at H
                                    by_cases c180 : r169 = true
                                    · rw [if_pos c180] at H
                                      refine s_lit (t := 129) rfl (beq_of (Bool.eq_false_iff.2 c171) c180) ?_
                                      refine d_off 45 (bits 57 70368744177663) rfl rfl (by decide) (by kernel_rfl) (fun _ _ _ h => h) (.off rfl rfl rfl rfl rfl) ?_
                                      refine d_many (k' := 144115188075855871) [(47, 211106232532991), (46, 281474976710655), (48, 562949953421311), (49, 1125899906842623), (50, 2251799813685247), (51, 4503599627370495), (52, 9007199254740991), (53, 18014398509481983), (54, 36028797018963967), (55, 72057594037927935), (56, 144115188075855871)] 0 rfl (by kernel_rfl) (fun _ _ _ _ _ h => h) ?_
                                      refine d_done (by kernel_rfl) ?_
                                      refine x_next ?_
                                      refine c_ret ?_
                                      obtain rfl := Option.some.inj H
                                      exact g_ret [.bool false] (congrArg Array.toList Tryd.results3) (.cons (.t rfl) .nil) (fun W E => ⟨rfl, (E.drop (List.nil_sublist _)).back⟩)
                                    · rw [if_neg c180] at H
                                      refine s_lit (t := 129) rfl (beq_of (Bool.eq_false_iff.2 c171) (Bool.eq_false_iff.2 c180)) ?_
                                      refine d_take 45 (bits 57 70368744177663) (y_loadA (cs := [.int .i64 a0.Kind, .int .i64 a0.Count, .slice A1 a0.Kids.length c2]) ia24 rfl rfl rfl (cls_own (i := 6) rfl rfl)) rfl rfl (by decide) (by kernel_rfl) (fun _ _ _ h => h) (.on rfl rfl rfl rfl) (Imm.rfl' _) (pick_mem (is := [0, 1, 2, 3, 4, 5, 6]) ⟨rfl, rfl, rfl, rfl, rfl, rfl, rfl, trivial⟩) ?_
                                      refine d_take 47 (bits 57 211106232532991) (y_loadA (cs := [.int .i64 a0.Kind, .int .i64 a0.Count, .slice A1 a0.Kids.length c2]) ia24 rfl rfl rfl (cls_own (i := 6) rfl rfl)) rfl rfl (by decide) (by kernel_rfl) (fun _ _ _ h => h) (.on rfl rfl rfl rfl) (Imm.rfl' _) (pick_mem (is := [0, 1, 2, 3, 4, 5, 6]) ⟨rfl, rfl, rfl, rfl, rfl, rfl, rfl, trivial⟩) ?_
                                      refine d_one 46 (bits 57 281474976710655) rfl (by kernel_rfl) (by decide) (.on rfl rfl rfl rfl) (fun K hK => ?_)
                                      obtain ⟨r181, hr181, H⟩ := Option.bind_eq_some_iff.1 H
                                      refine w_call (args := [.agg #[.int .i64 a0.Kind, .int .i64 a0.Count, .slice A1 a0.Kids.length c2]]) (caps := []) has26 rfl rfl rfl rfl (by decide) (fun a W F E => ?_)
                                      refine (types_Text.calls k_j3 a0 A1 c2 J111 W r181 (hr3.mono R_Type.mono ((((((hl14.trans hl28).trans hl37).trans hl46).trans hl49).trans hl81).trans hl112)) (by first | assumption | simp | omega) (E.st.sub (List.nil_sublist _)) (hT.mono ((((((hl14.trans hl28).trans hl37).trans hl46).trans hl49).trans hl81).trans hl112)) hr181).mono ?_
                                      rintro e W' ⟨rfl, X⟩
                                      refine ⟨_, rfl, here (At.mk (F.put (by decide) _) (E.call0 X)) ?_⟩
                                      clear X E F W W' a
                                      refine d_k hK (Imm.rfl' _) (pick_mem (is := [0, 1, 2, 3, 4, 5, 6]) ⟨rfl, rfl, rfl, rfl, rfl, rfl, rfl, trivial⟩) ?_
                                      clear hK K
                                      refine d_one 48 (bits 57 562949953421311) rfl (by kernel_rfl) (by decide) (.on rfl rfl rfl rfl) (fun K hK => ?_)
                                      obtain ⟨r183, hr183, H⟩ := Option.bind_eq_some_iff.1 H
                                      refine w_call (args := [.agg #[.int .i64 a0.Kind, .int .i64 a0.Count, .slice A1 a0.Kids.length c2]]) (caps := []) has27 rfl rfl rfl rfl (by decide) (fun a W F E => ?_)
                                      refine (swageref11_Text.calls k_j3 a0 A1 c2 J111 W r183 (hr3.mono R_Type.mono ((((((hl14.trans hl28).trans hl37).trans hl46).trans hl49).trans hl81).trans hl112)) (by first | assumption | simp | omega) (E.st.sub (List.nil_sublist _)) hr183).mono ?_
                                      rintro e W' ⟨rfl, X⟩
                                      refine ⟨_, rfl, here (At.mk (F.put (by decide) _) (E.call0 X)) ?_⟩
                                      clear X E F W W' a
                                      refine d_k hK (Imm.rfl' _) (pick_mem (is := [0, 1, 2, 3, 4, 5, 6]) ⟨rfl, rfl, rfl, rfl, rfl, rfl, rfl, trivial⟩) ?_
                                      clear hK K
                                      refine d_pure 49 (bits 57 1125899906842623) (y_bin rfl rfl rfl bi_seq) rfl rfl (by decide) (by kernel_rfl) (fun _ _ _ h => h) (.on rfl rfl rfl rfl) ?_
                                      refine d_many (k' := 4503599627370495) [(50, 2251799813685247), (51, 4503599627370495)] 5 rfl (by kernel_rfl) (fun _ _ _ _ _ h => h) ?_
                                      by_cases c185 : r181 = r183
                                      · rw [if_pos c185] at H
                                        refine s_lit (t := 136) rfl (decide_eq_true c185) ?_
                                        refine d_take 52 (bits 57 9007199254740991) (y_loadA (cs := [.int .i64 a0.Kind, .int .i64 a0.Count, .slice A1 a0.Kids.length c2]) ia24 rfl rfl rfl (cls_own (i := 6) rfl rfl)) rfl rfl (by decide) (by kernel_rfl) (fun _ _ _ h => h) (.on rfl rfl rfl rfl) (Imm.rfl' _) (pick_mem (is := [0, 1, 2, 3, 4, 5, 6]) ⟨rfl, rfl, rfl, rfl, rfl, rfl, rfl, trivial⟩) ?_
                                        refine d_take 53 (bits 57 18014398509481983) (y_loadA (cs := [.int .i64 r22.Kind, .int .i64 r22.Count, .slice A23 r22.Kids.length c24]) ia24 rfl rfl rfl (cls_own (i := 4) rfl rfl)) rfl rfl (by decide) (by kernel_rfl) (fun _ _ _ h => h) (.on rfl rfl rfl rfl) (Imm.rfl' _) (pick_mem (is := [0, 1, 2, 3, 4, 5, 6]) ⟨rfl, rfl, rfl, rfl, rfl, rfl, rfl, trivial⟩) ?_
                                        refine d_one 54 (bits 57 36028797018963967) rfl (by kernel_rfl) (by decide) (.on rfl rfl rfl rfl) (fun K hK => ?_)
                                        obtain ⟨r186, hr186, H⟩ := Option.bind_eq_some_iff.1 H
                                        refine w_call (args := [.agg #[.int .i64 a0.Kind, .int .i64 a0.Count, .slice A1 a0.Kids.length c2], .agg #[.int .i64 r22.Kind, .int .i64 r22.Count, .slice A23 r22.Kids.length c24]]) (caps := []) has16 rfl rfl rfl rfl (by decide) (fun a W F E => ?_)
                                        refine (swageref11_Same.calls k_j3 a0 r22 A1 c2 A23 c24 J111 W r186 (hr3.mono R_Type.mono ((((((hl14.trans hl28).trans hl37).trans hl46).trans hl49).trans hl81).trans hl112)) (by first | assumption | simp | omega) (hr25.mono R_Type.mono ((((hl37.trans hl46).trans hl49).trans hl81).trans hl112)) (by first | assumption | simp | omega) (E.st.sub (List.nil_sublist _)) hr186).mono ?_
                                        rintro e W' ⟨rfl, X⟩
                                        refine ⟨_, rfl, here (At.mk (F.put (by decide) _) (E.call0 X)) ?_⟩
                                        clear X E F W W' a
                                        refine d_k hK (Imm.rfl' _) (pick_mem (is := [0, 1, 2, 3, 4, 5, 6]) ⟨rfl, rfl, rfl, rfl, rfl, rfl, rfl, trivial⟩) ?_
                                        clear hK K
                                        refine d_many (k' := 144115188075855871) [(55, 72057594037927935), (56, 144115188075855871)] 0 rfl (by kernel_rfl) (fun _ _ _ _ _ h => h) ?_
                                        refine d_done (by kernel_rfl) ?_
                                        refine x_next ?_
                                        refine c_ret ?_
                                        obtain rfl := Option.some.inj H
                                        exact g_ret [.bool r186] (congrArg Array.toList Tryd.results3) (.cons (.t rfl) .nil) (fun W E => ⟨rfl, (E.drop (List.nil_sublist _)).back⟩)
                                      · rw [if_neg c185] at H
                                        refine s_lit (t := 136) rfl (decide_eq_false c185) ?_
                                        refine d_off 52 (bits 57 9007199254740991) rfl rfl (by decide) (by kernel_rfl) (fun _ _ _ h => h) (.off rfl rfl rfl rfl rfl) ?_
                                        refine d_many (k' := 144115188075855871) [(53, 18014398509481983), (54, 36028797018963967), (55, 72057594037927935), (56, 144115188075855871)] 0 rfl (by kernel_rfl) (fun _ _ _ _ _ h => h) ?_
                                        refine d_done (by kernel_rfl) ?_
                                        refine x_next ?_
                                        refine c_ret ?_
                                        obtain rfl := Option.some.inj H
                                        exact g_ret [.bool false] (congrArg Array.toList Tryd.results3) (.cons (.t rfl) .nil) (fun W E => ⟨rfl, (E.drop (List.nil_sublist _)).back⟩)
                                · rw [if_neg c166] at H
                                  refine s_lit (t := 122) rfl (beq_of c165 (Bool.eq_false_iff.2 c166)) ?_
                                  refine d_off 38 (bits 57 549755813887) rfl rfl (by decide) (by kernel_rfl) (fun _ _ _ h => h) (.off rfl rfl rfl rfl rfl) ?_
                                  refine d_many (k' := 144115188075855871) [(40, 1649267441663), (39, 2199023255551), (41, 4398046511103), (42, 8796093022207), (43, 17592186044415), (44, 35184372088831), (45, 70368744177663), (47, 211106232532991), (46, 281474976710655), (48, 562949953421311), (49, 1125899906842623), (50, 2251799813685247), (51, 4503599627370495), (52, 9007199254740991), (53, 18014398509481983), (54, 36028797018963967), (55, 72057594037927935), (56, 144115188075855871)] 0 rfl (by kernel_rfl) (fun _ _ _ _ _ h => h) ?_
                                  refine d_done (by kernel_rfl) ?_
                                  refine x_next ?_
                                  refine c_ret ?_
                                  obtain rfl := Option.some.inj H
                                  exact g_ret [.bool false] (congrArg Array.toList Tryd.results3) (.cons (.t rfl) .nil) (fun W E => ⟨rfl, (E.drop (List.nil_sublist _)).back⟩)
                              · rw [if_neg c165] at H
                                by_cases c188 : r163 = true
                                · rw [if_pos c188] at H
                                  refine s_lit (t := 122) rfl (beq_of (Bool.eq_false_iff.2 c165) c188) ?_
                                  refine d_off 38 (bits 57 549755813887) rfl rfl (by decide) (by kernel_rfl) (fun _ _ _ h => h) (.off rfl rfl rfl rfl rfl) ?_
                                  refine d_many (k' := 144115188075855871) [(40, 1649267441663), (39, 2199023255551), (41, 4398046511103), (42, 8796093022207), (43, 17592186044415), (44, 35184372088831), (45, 70368744177663), (47, 211106232532991), (46, 281474976710655), (48, 562949953421311), (49, 1125899906842623), (50, 2251799813685247), (51, 4503599627370495), (52, 9007199254740991), (53, 18014398509481983), (54, 36028797018963967), (55, 72057594037927935), (56, 144115188075855871)] 0 rfl (by kernel_rfl) (fun _ _ _ _ _ h => h) ?_
                                  refine d_done (by kernel_rfl) ?_
                                  refine x_next ?_
                                  refine c_ret ?_
                                  obtain rfl := Option.some.inj H
                                  exact g_ret [.bool false] (congrArg Array.toList Tryd.results3) (.cons (.t rfl) .nil) (fun W E => ⟨rfl, (E.drop (List.nil_sublist _)).back⟩)
                                · rw [if_neg c188] at H
                                  refine s_lit (t := 122) rfl (beq_of (Bool.eq_false_iff.2 c165) (Bool.eq_false_iff.2 c188)) ?_
                                  refine d_take 38 (bits 57 549755813887) (y_loadA (cs := [.int .i64 a0.Kind, .int .i64 a0.Count, .slice A1 a0.Kids.length c2]) ia24 rfl rfl rfl (cls_own (i := 6) rfl rfl)) rfl rfl (by decide) (by kernel_rfl) (fun _ _ _ h => h) (.on rfl rfl rfl rfl) (Imm.rfl' _) (pick_mem (is := [0, 1, 2, 3, 4, 5, 6]) ⟨rfl, rfl, rfl, rfl, rfl, rfl, rfl, trivial⟩) ?_
                                  refine d_take 40 (bits 57 1649267441663) (y_loadA (cs := [.int .i64 a0.Kind, .int .i64 a0.Count, .slice A1 a0.Kids.length c2]) ia24 rfl rfl rfl (cls_own (i := 6) rfl rfl)) rfl rfl (by decide) (by kernel_rfl) (fun _ _ _ h => h) (.on rfl rfl rfl rfl) (Imm.rfl' _) (pick_mem (is := [0, 1, 2, 3, 4, 5, 6]) ⟨rfl, rfl, rfl, rfl, rfl, rfl, rfl, trivial⟩) ?_
                                  refine d_one 39 (bits 57 2199023255551) rfl (by kernel_rfl) (by decide) (.on rfl rfl rfl rfl) (fun K hK => ?_)
                                  obtain ⟨r189, hr189, H⟩ := Option.bind_eq_some_iff.1 H
                                  refine w_call (args := [.agg #[.int .i64 a0.Kind, .int .i64 a0.Count, .slice A1 a0.Kids.length c2]]) (caps := []) has24 rfl rfl rfl rfl (by decide) (fun a W F E => ?_)
                                  refine (types_Scalar.calls k_j3 a0 A1 c2 J111 W r189 (hr3.mono R_Type.mono ((((((hl14.trans hl28).trans hl37).trans hl46).trans hl49).trans hl81).trans hl112)) (by first | assumption | simp | omega) (E.st.sub (List.nil_sublist _)) hr189).mono ?_
                                  rintro e W' ⟨rfl, X⟩
                                  refine ⟨_, rfl, here (At.mk (F.put (by decide) _) (E.call0 X)) ?_⟩
                                  clear X E F W W' a
                                  refine d_k hK (Imm.rfl' _) (pick_mem (is := [0, 1, 2, 3, 4, 5, 6]) ⟨rfl, rfl, rfl, rfl, rfl, rfl, rfl, trivial⟩) ?_
                                  clear hK K
                                  refine d_one 41 (bits 57 4398046511103) rfl (by kernel_rfl) (by decide) (.on rfl rfl rfl rfl) (fun K hK => ?_)
                                  obtain ⟨r191, hr191, H⟩ := Option.bind_eq_some_iff.1 H
                                  refine w_call (args := [.agg #[.int .i64 a0.Kind, .int .i64 a0.Count, .slice A1 a0.Kids.length c2]]) (caps := []) has25 rfl rfl rfl rfl (by decide) (fun a W F E => ?_)
                                  refine (swageref11_Scalar.calls k_j3 a0 A1 c2 J111 W r191 (hr3.mono R_Type.mono ((((((hl14.trans hl28).trans hl37).trans hl46).trans hl49).trans hl81).trans hl112)) (by first | assumption | simp | omega) (E.st.sub (List.nil_sublist _)) hr191).mono ?_
                                  rintro e W' ⟨rfl, X⟩
                                  refine ⟨_, rfl, here (At.mk (F.put (by decide) _) (E.call0 X)) ?_⟩
                                  clear X E F W W' a
                                  refine d_k hK (Imm.rfl' _) (pick_mem (is := [0, 1, 2, 3, 4, 5, 6]) ⟨rfl, rfl, rfl, rfl, rfl, rfl, rfl, trivial⟩) ?_
                                  clear hK K
                                  refine d_pure 42 (bits 57 8796093022207) (y_bin rfl rfl rfl (bi_beq Tryd.underlying4)) rfl rfl (by decide) (by kernel_rfl) (fun _ _ _ h => h) (.on rfl rfl rfl rfl) ?_
                                  refine d_many (k' := 35184372088831) [(43, 17592186044415), (44, 35184372088831)] 12 rfl (by kernel_rfl) (fun _ _ _ _ _ h => h) ?_
                                  by_cases c193 : r189 = true
                                  · rw [if_pos c193] at H
                                    by_cases c194 : r191 = true
                                    · rw [if_pos c194] at H
                                      refine s_lit (t := 129) rfl (beq_of c193 c194) ?_
                                      refine d_take 45 (bits 57 70368744177663) (y_loadA (cs := [.int .i64 a0.Kind, .int .i64 a0.Count, .slice A1 a0.Kids.length c2]) ia24 rfl rfl rfl (cls_own (i := 6) rfl rfl)) rfl rfl (by decide) (by kernel_rfl) (fun _ _ _ h => h) (.on rfl rfl rfl rfl) (Imm.rfl' _) (pick_mem (is := [0, 1, 2, 3, 4, 5, 6]) ⟨rfl, rfl, rfl, rfl, rfl, rfl, rfl, trivial⟩) ?_
                                      refine d_take 47 (bits 57 211106232532991) (y_loadA (cs := [.int .i64 a0.Kind, .int .i64 a0.Count, .slice A1 a0.Kids.length c2]) ia24 rfl rfl rfl (cls_own (i := 6) rfl rfl)) rfl rfl (by decide) (by kernel_rfl) (fun _ _ _ h => h) (.on rfl rfl rfl rfl) (Imm.rfl' _) (pick_mem (is := [0, 1, 2, 3, 4, 5, 6]) ⟨rfl, rfl, rfl, rfl, rfl, rfl, rfl, trivial⟩) ?_
                                      refine d_one 46 (bits 57 281474976710655) rfl (by kernel_rfl) (by decide) (.on rfl rfl rfl rfl) (fun K hK => ?_)
                                      obtain ⟨r195, hr195, H⟩ := Option.bind_eq_some_iff.1 H
                                      refine w_call (args := [.agg #[.int .i64 a0.Kind, .int .i64 a0.Count, .slice A1 a0.Kids.length c2]]) (caps := []) has26 rfl rfl rfl rfl (by decide) (fun a W F E => ?_)
                                      refine (types_Text.calls k_j3 a0 A1 c2 J111 W r195 (hr3.mono R_Type.mono ((((((hl14.trans hl28).trans hl37).trans hl46).trans hl49).trans hl81).trans hl112)) (by first | assumption | simp | omega) (E.st.sub (List.nil_sublist _)) (hT.mono ((((((hl14.trans hl28).trans hl37).trans hl46).trans hl49).trans hl81).trans hl112)) hr195).mono ?_
                                      rintro e W' ⟨rfl, X⟩
                                      refine ⟨_, rfl, here (At.mk (F.put (by decide) _) (E.call0 X)) ?_⟩
                                      clear X E F W W' a
                                      refine d_k hK (Imm.rfl' _) (pick_mem (is := [0, 1, 2, 3, 4, 5, 6]) ⟨rfl, rfl, rfl, rfl, rfl, rfl, rfl, trivial⟩) ?_
                                      clear hK K
                                      refine d_one 48 (bits 57 562949953421311) rfl (by kernel_rfl) (by decide) (.on rfl rfl rfl rfl) (fun K hK => ?_)
                                      obtain ⟨r197, hr197, H⟩ := Option.bind_eq_some_iff.1 H
                                      refine w_call (args := [.agg #[.int .i64 a0.Kind, .int .i64 a0.Count, .slice A1 a0.Kids.length c2]]) (caps := []) has27 rfl rfl rfl rfl (by decide) (fun a W F E => ?_)
                                      refine (swageref11_Text.calls k_j3 a0 A1 c2 J111 W r197 (hr3.mono R_Type.mono ((((((hl14.trans hl28).trans hl37).trans hl46).trans hl49).trans hl81).trans hl112)) (by first | assumption | simp | omega) (E.st.sub (List.nil_sublist _)) hr197).mono ?_
                                      rintro e W' ⟨rfl, X⟩
                                      refine ⟨_, rfl, here (At.mk (F.put (by decide) _) (E.call0 X)) ?_⟩
                                      clear X E F W W' a
                                      refine d_k hK (Imm.rfl' _) (pick_mem (is := [0, 1, 2, 3, 4, 5, 6]) ⟨rfl, rfl, rfl, rfl, rfl, rfl, rfl, trivial⟩) ?_
                                      clear hK K
                                      refine d_pure 49 (bits 57 1125899906842623) (y_bin rfl rfl rfl bi_seq) rfl rfl (by decide) (by kernel_rfl) (fun _ _ _ h => h) (.on rfl rfl rfl rfl) ?_
                                      refine d_many (k' := 4503599627370495) [(50, 2251799813685247), (51, 4503599627370495)] 5 rfl (by kernel_rfl) (fun _ _ _ _ _ h => h) ?_
                                      by_cases c199 : r195 = r197
                                      · rw [if_pos c199] at H
                                        refine s_lit (t := 136) rfl (decide_eq_true c199) ?_
                                        refine d_take 52 (bits 57 9007199254740991) (y_loadA (cs := [.int .i64 a0.Kind, .int .i64 a0.Count, .slice A1 a0.Kids.length c2]) ia24 rfl rfl rfl (cls_own (i := 6) rfl rfl)) rfl rfl (by decide) (by kernel_rfl) (fun _ _ _ h => h) (.on rfl rfl rfl rfl) (Imm.rfl' _) (pick_mem (is := [0, 1, 2, 3, 4, 5, 6]) ⟨rfl, rfl, rfl, rfl, rfl, rfl, rfl, trivial⟩) ?_
                                        refine d_take 53 (bits 57 18014398509481983) (y_loadA (cs := [.int .i64 r22.Kind, .int .i64 r22.Count, .slice A23 r22.Kids.length c24]) ia24 rfl rfl rfl (cls_own (i := 4) rfl rfl)) rfl rfl (by decide) (by kernel_rfl) (fun _ _ _ h => h) (.on rfl rfl rfl rfl) (Imm.rfl' _) (pick_mem (is := [0, 1, 2, 3, 4, 5, 6]) ⟨rfl, rfl, rfl, rfl, rfl, rfl, rfl, trivial⟩) ?_
                                        refine d_one 54 (bits 57 36028797018963967) rfl (by kernel_rfl) (by decide) (.on rfl rfl rfl rfl) (fun K hK => ?_)
                                        obtain ⟨r200, hr200, H⟩ := Option.bind_eq_some_iff.1 H
                                        refine w_call (args := [.agg #[.int .i64 a0.Kind, .int .i64 a0.Count, .slice A1 a0.Kids.length c2], .agg #[.int .i64 r22.Kind, .int .i64 r22.Count, .slice A23 r22.Kids.length c24]]) (caps := []) has16 rfl rfl rfl rfl (by decide) (fun a W F E => ?_)
                                        refine (swageref11_Same.calls k_j3 a0 r22 A1 c2 A23 c24 J111 W r200 (hr3.mono R_Type.mono ((((((hl14.trans hl28).trans hl37).trans hl46).trans hl49).trans hl81).trans hl112)) (by first | assumption | simp | omega) (hr25.mono R_Type.mono ((((hl37.trans hl46).trans hl49).trans hl81).trans hl112)) (by first | assumption | simp | omega) (E.st.sub (List.nil_sublist _)) hr200).mono ?_
                                        rintro e W' ⟨rfl, X⟩
                                        refine ⟨_, rfl, here (At.mk (F.put (by decide) _) (E.call0 X)) ?_⟩
                                        clear X E F W W' a
                                        refine d_k hK (Imm.rfl' _) (pick_mem (is := [0, 1, 2, 3, 4, 5, 6]) ⟨rfl, rfl, rfl, rfl, rfl, rfl, rfl, trivial⟩) ?_
                                        clear hK K
                                        refine d_many (k' := 144115188075855871) [(55, 72057594037927935), (56, 144115188075855871)] 0 rfl (by kernel_rfl) (fun _ _ _ _ _ h => h) ?_
                                        refine d_done (by kernel_rfl) ?_
                                        refine x_next ?_
                                        refine c_ret ?_
                                        obtain rfl := Option.some.inj H
                                        exact g_ret [.bool r200] (congrArg Array.toList Tryd.results3) (.cons (.t rfl) .nil) (fun W E => ⟨rfl, (E.drop (List.nil_sublist _)).back⟩)
                                      · rw [if_neg c199] at H
                                        refine s_lit (t := 136) rfl (decide_eq_false c199) ?_
                                        refine d_off 52 (bits 57 9007199254740991) rfl rfl (by decide) (by kernel_rfl) (fun _ _ _ h => h) (.off rfl rfl rfl rfl rfl) ?_
                                        refine d_many (k' := 144115188075855871) [(53, 18014398509481983), (54, 36028797018963967), (55, 72057594037927935), (56, 144115188075855871)] 0 rfl (by kernel_rfl) (fun _ _ _ _ _ h => h) ?_
                                        refine d_done (by kernel_rfl) ?_
                                        refine x_next ?_
                                        refine c_ret ?_
                                        obtain rfl := Option.some.inj H
                                        exact g_ret [.bool false] (congrArg Array.toList Tryd.results3) (.cons (.t rfl) .nil) (fun W E => ⟨rfl, (E.drop (List.nil_sublist _)).back⟩)
                                    · rw [if_neg c194] at H
                                      refine s_lit (t := 129) rfl (beq_of c193 (Bool.eq_false_iff.2 c194)) ?_
                                      refine d_off 45 (bits 57 70368744177663) rfl rfl (by decide) (by kernel_rfl) (fun _ _ _ h => h) (.off rfl rfl rfl rfl rfl) ?_
                                      refine d_many (k' := 144115188075855871) [(47, 211106232532991), (46, 281474976710655), (48, 562949953421311), (49, 1125899906842623), (50, 2251799813685247), (51, 4503599627370495), (52, 9007199254740991), (53, 18014398509481983), (54, 36028797018963967), (55, 72057594037927935), (56, 144115188075855871)] 0 rfl (by kernel_rfl) (fun _ _ _ _ _ h => h) ?_
                                      refine d_done (by kernel_rfl) ?_
                                      refine x_next ?_
                                      refine c_ret ?_
                                      obtain rfl := Option.some.inj H
                                      exact g_ret [.bool false] (congrArg Array.toList Tryd.results3) (.cons (.t rfl) .nil) (fun W E => ⟨rfl, (E.drop (List.nil_sublist _)).back⟩)
                                  · rw [if_neg c193] at H
                                    by_cases c202 : r191 = true
                                    · rw [if_pos c202] at H
                                      refine s_lit (t := 129) rfl (beq_of (Bool.eq_false_iff.2 c193) c202) ?_
                                      refine d_off 45 (bits 57 70368744177663) rfl rfl (by decide) (by kernel_rfl) (fun _ _ _ h => h) (.off rfl rfl rfl rfl rfl) ?_
                                      refine d_many (k' := 144115188075855871) [(47, 211106232532991), (46, 281474976710655), (48, 562949953421311), (49, 1125899906842623), (50, 2251799813685247), (51, 4503599627370495), (52, 9007199254740991), (53, 18014398509481983), (54, 36028797018963967), (55, 72057594037927935), (56, 144115188075855871)] 0 rfl (by kernel_rfl) (fun _ _ _ _ _ h => h) ?_
                                      refine d_done (by kernel_rfl) ?_
                                      refine x_next ?_
                                      refine c_ret ?_
                                      obtain rfl := Option.some.inj H
                                      exact g_ret [.bool false] (congrArg Array.toList Tryd.results3) (.cons (.t rfl) .nil) (fun W E => ⟨rfl, (E.drop (List.nil_sublist _)).back⟩)
                                    · rw [if_neg c202] at H
                                      refine s_lit (t := 129) rfl (beq_of (Bool.eq_false_iff.2 c193) (Bool.eq_false_iff.2 c202)) ?_
                                      refine d_take 45 (bits 57 70368744177663) (y_loadA (cs := [.int .i64 a0.Kind, .int .i64 a0.Count, .slice A1 a0.Kids.length c2]) ia24 rfl rfl rfl (cls_own (i := 6) rfl rfl)) rfl rfl (by decide) (by kernel_rfl) (fun _ _ _ h => h) (.on rfl rfl rfl rfl) (Imm.rfl' _) (pick_mem (is := [0, 1, 2, 3, 4, 5, 6]) ⟨rfl, rfl, rfl, rfl, rfl, rfl, rfl, trivial⟩) ?_
                                      refine d_take 47 (bits 57 211106232532991) (y_loadA (cs := [.int .i64 a0.Kind, .int .i64 a0.Count, .slice A1 a0.Kids.length c2]) ia24 rfl rfl rfl (cls_own (i := 6) rfl rfl)) rfl rfl (by decide) (by kernel_rfl) (fun _ _ _ h => h) (.on rfl rfl rfl rfl) (Imm.rfl' _) (pick_mem (is := [0, 1, 2, 3, 4, 5, 6]) ⟨rfl, rfl, rfl, rfl, rfl, rfl, rfl, trivial⟩) ?_
                                      refine d_one 46 (bits 57 281474976710655) rfl (by kernel_rfl) (by decide) (.on rfl rfl rfl rfl) (fun K hK => ?_)
                                      obtain ⟨r203, hr203, H⟩ := Option.bind_eq_some_iff.1 H
                                      refine w_call (args := [.agg #[.int .i64 a0.Kind, .int .i64 a0.Count, .slice A1 a0.Kids.length c2]]) (caps := []) has26 rfl rfl rfl rfl (by decide) (fun a W F E => ?_)
                                      refine (types_Text.calls k_j3 a0 A1 c2 J111 W r203 (hr3.mono R_Type.mono ((((((hl14.trans hl28).trans hl37).trans hl46).trans hl49).trans hl81).trans hl112)) (by first | assumption | simp | omega) (E.st.sub (List.nil_sublist _)) (hT.mono ((((((hl14.trans hl28).trans hl37).trans hl46).trans hl49).trans hl81).trans hl112)) hr203).mono ?_
                                      rintro e W' ⟨rfl, X⟩
                                      refine ⟨_, rfl, here (At.mk (F.put (by decide) _) (E.call0 X)) ?_⟩
                                      clear X E F W W' a
                                      refine d_k hK (Imm.rfl' _) (pick_mem (is := [0, 1, 2, 3, 4, 5, 6]) ⟨rfl, rfl, rfl, rfl, rfl, rfl, rfl, trivial⟩) ?_
                                      clear hK K
                                      refine d_one 48 (bits 57 562949953421311) rfl (by kernel_rfl) (by decide) (.on rfl rfl rfl rfl) (fun K hK => ?_)
                                      obtain ⟨r205, hr205, H⟩ := Option.bind_eq_some_iff.1 H
                                      refine w_call (args := [.agg #[.int .i64 a0.Kind, .int .i64 a0.Count, .slice A1 a0.Kids.length c2]]) (caps := []) has27 rfl rfl rfl rfl (by decide) (fun a W F E => ?_)
                                      refine (swageref11_Text.calls k_j3 a0 A1 c2 J111 W r205 (hr3.mono R_Type.mono ((((((hl14.trans hl28).trans hl37).trans hl46).trans hl49).trans hl81).trans hl112)) (by first | assumption | simp | omega) (E.st.sub (List.nil_sublist _)) hr205).mono ?_
                                      rintro e W' ⟨rfl, X⟩
                                      refine ⟨_, rfl, here (At.mk (F.put (by decide) _) (E.call0 X)) ?_⟩
                                      clear X E F W W' a
                                      refine d_k hK (Imm.rfl' _) (pick_mem (is := [0, 1, 2, 3, 4, 5, 6]) ⟨rfl, rfl, rfl, rfl, rfl, rfl, rfl, trivial⟩) ?_
                                      clear hK K
                                      refine d_pure 49 (bits 57 1125899906842623) (y_bin rfl rfl rfl bi_seq) rfl rfl (by decide) (by kernel_rfl) (fun _ _ _ h => h) (.on rfl rfl rfl rfl) ?_
                                      refine d_many (k' := 4503599627370495) [(50, 2251799813685247), (51, 4503599627370495)] 5 rfl (by kernel_rfl) (fun _ _ _ _ _ h => h) ?_
                                      by_cases c207 : r203 = r205
                                      · rw [if_pos c207] at H
                                        refine s_lit (t := 136) rfl (decide_eq_true c207) ?_
                                        refine d_take 52 (bits 57 9007199254740991) (y_loadA (cs := [.int .i64 a0.Kind, .int .i64 a0.Count, .slice A1 a0.Kids.length c2]) ia24 rfl rfl rfl (cls_own (i := 6) rfl rfl)) rfl rfl (by decide) (by kernel_rfl) (fun _ _ _ h => h) (.on rfl rfl rfl rfl) (Imm.rfl' _) (pick_mem (is := [0, 1, 2, 3, 4, 5, 6]) ⟨rfl, rfl, rfl, rfl, rfl, rfl, rfl, trivial⟩) ?_
                                        refine d_take 53 (bits 57 18014398509481983) (y_loadA (cs := [.int .i64 r22.Kind, .int .i64 r22.Count, .slice A23 r22.Kids.length c24]) ia24 rfl rfl rfl (cls_own (i := 4) rfl rfl)) rfl rfl (by decide) (by kernel_rfl) (fun _ _ _ h => h) (.on rfl rfl rfl rfl) (Imm.rfl' _) (pick_mem (is := [0, 1, 2, 3, 4, 5, 6]) ⟨rfl, rfl, rfl, rfl, rfl, rfl, rfl, trivial⟩) ?_
                                        refine d_one 54 (bits 57 36028797018963967) rfl (by kernel_rfl) (by decide) (.on rfl rfl rfl rfl) (fun K hK => ?_)
                                        obtain ⟨r208, hr208, H⟩ := Option.bind_eq_some_iff.1 H
                                        refine w_call (args := [.agg #[.int .i64 a0.Kind, .int .i64 a0.Count, .slice A1 a0.Kids.length c2], .agg #[.int .i64 r22.Kind, .int .i64 r22.Count, .slice A23 r22.Kids.length c24]]) (caps := []) has16 rfl rfl rfl rfl (by decide) (fun a W F E => ?_)
                                        refine (swageref11_Same.calls k_j3 a0 r22 A1 c2 A23 c24 J111 W r208 (hr3.mono R_Type.mono ((((((hl14.trans hl28).trans hl37).trans hl46).trans hl49).trans hl81).trans hl112)) (by first | assumption | simp | omega) (hr25.mono R_Type.mono ((((hl37.trans hl46).trans hl49).trans hl81).trans hl112)) (by first | assumption | simp | omega) (E.st.sub (List.nil_sublist _)) hr208).mono ?_
                                        rintro e W' ⟨rfl, X⟩
                                        refine ⟨_, rfl, here (At.mk (F.put (by decide) _) (E.call0 X)) ?_⟩
                                        clear X E F W W' a
                                        refine d_k hK (Imm.rfl' _) (pick_mem (is := [0, 1, 2, 3, 4, 5, 6]) ⟨rfl, rfl, rfl, rfl, rfl, rfl, rfl, trivial⟩) ?_
                                        clear hK K
                                        refine d_many (k' := 144115188075855871) [(55, 72057594037927935), (56, 144115188075855871)] 0 rfl (by kernel_rfl) (fun _ _ _ _ _ h => h) ?_
                                        refine d_done (by kernel_rfl) ?_
                                        refine x_next ?_
                                        refine c_ret ?_
                                        obtain rfl := Option.some.inj H
                                        exact g_ret [.bool r208] (congrArg Array.toList Tryd.results3) (.cons (.t rfl) .nil) (fun W E => ⟨rfl, (E.drop (List.nil_sublist _)).back⟩)
                                      · rw [if_neg c207] at H
                                        refine s_lit (t := 136) rfl (decide_eq_false c207) ?_
                                        refine d_off 52 (bits 57 9007199254740991) rfl rfl (by decide) (by kernel_rfl) (fun _ _ _ h => h) (.off rfl rfl rfl rfl rfl) ?_
                                        refine d_many (k' := 144115188075855871) [(53, 18014398509481983), (54, 36028797018963967), (55, 72057594037927935), (56, 144115188075855871)] 0 rfl (by kernel_rfl) (fun _ _ _ _ _ h => h) ?_
                                        refine d_done (by kernel_rfl) ?_
                                        refine x_next ?_
                                        refine c_ret ?_
                                        obtain rfl := Option.some.inj H
                                        exact g_ret [.bool false] (congrArg Array.toList Tryd.results3) (.cons (.t rfl) .nil) (fun W E => ⟨rfl, (E.drop (List.nil_sublist _)).back⟩)
                            · rw [if_neg c160] at H
                              refine s_lit (t := 113) rfl (beq_of c159 (Bool.eq_false_iff.2 c160)) ?_
                              refine d_off 29 (bits 57 1073741823) rfl rfl (by decide) (by kernel_rfl) (fun _ _ _ h => h) (.off rfl rfl rfl rfl rfl) ?_
                              refine d_many (k' := 144115188075855871) [(30, 2147483647), (32, 6442450943), (33, 15032385535), (31, 17179869183), (34, 34359738367), (35, 68719476735), (36, 137438953471), (37, 274877906943), (38, 549755813887), (40, 1649267441663), (39, 2199023255551), (41, 4398046511103), (42, 8796093022207), (43, 17592186044415), (44, 35184372088831), (45, 70368744177663), (47, 211106232532991), (46, 281474976710655), (48, 562949953421311), (49, 1125899906842623), (50, 2251799813685247), (51, 4503599627370495), (52, 9007199254740991), (53, 18014398509481983), (54, 36028797018963967), (55, 72057594037927935), (56, 144115188075855871)] 0 rfl (by kernel_rfl) (fun _ _ _ _ _ h => h) ?_
                              refine d_done (by kernel_rfl) ?_
                              refine x_next ?_
                              refine c_ret ?_
                              obtain rfl := Option.some.inj H
                              exact g_ret [.bool false] (congrArg Array.toList Tryd.results3) (.cons (.t rfl) .nil) (fun W E => ⟨rfl, (E.drop (List.nil_sublist _)).back⟩)
                          · rw [if_neg c159] at H
                            by_cases c210 : r143.2 = true
                            · rw [if_pos c210] at H
                              refine s_lit (t := 113) rfl (beq_of (Bool.eq_false_iff.2 c159) c210) ?_
                              refine d_off 29 (bits 57 1073741823) rfl rfl (by decide) (by kernel_rfl) (fun _ _ _ h => h) (.off rfl rfl rfl rfl rfl) ?_
                              refine d_many (k' := 144115188075855871) [(30, 2147483647), (32, 6442450943), (33, 15032385535), (31, 17179869183), (34, 34359738367), (35, 68719476735), (36, 137438953471), (37, 274877906943), (38, 549755813887), (40, 1649267441663), (39, 2199023255551), (41, 4398046511103), (42, 8796093022207), (43, 17592186044415), (44, 35184372088831), (45, 70368744177663), (47, 211106232532991), (46, 281474976710655), (48, 562949953421311), (49, 1125899906842623), (50, 2251799813685247), (51, 4503599627370495), (52, 9007199254740991), (53, 18014398509481983), (54, 36028797018963967), (55, 72057594037927935), (56, 144115188075855871)] 0 rfl (by kernel_rfl) (fun _ _ _ _ _ h => h) ?_
                              refine d_done (by kernel_rfl) ?_
                              refine x_next ?_
                              refine c_ret ?_
                              obtain rfl := Option.some.inj H
                              exact g_ret [.bool false] (congrArg Array.toList Tryd.results3) (.cons (.t rfl) .nil) (fun W E => ⟨rfl, (E.drop (List.nil_sublist _)).back⟩)
                            · rw [if_neg c210] at H
                              refine s_lit (t := 113) rfl (beq_of (Bool.eq_false_iff.2 c159) (Bool.eq_false_iff.2 c210)) ?_
                              refine d_take 29 (bits 57 1073741823) (y_loadA (cs := [.int .i64 a0.Kind, .int .i64 a0.Count, .slice A1 a0.Kids.length c2]) ia24 rfl rfl rfl (cls_own (i := 6) rfl rfl)) rfl rfl (by decide) (by kernel_rfl) (fun _ _ _ h => h) (.on rfl rfl rfl rfl) (Imm.rfl' _) (pick_mem (is := [0, 1, 2, 3, 4, 5, 6]) ⟨rfl, rfl, rfl, rfl, rfl, rfl, rfl, trivial⟩) ?_
                              refine d_take 30 (bits 57 2147483647) (y_loadA (cs := [.int .i64 a1.Kind, .int .i64 a1.Count, .slice A5 a1.Kids.length c6]) ia24 rfl rfl rfl (cls_own (i := 5) rfl rfl)) rfl rfl (by decide) (by kernel_rfl) (fun _ _ _ h => h) (.on rfl rfl rfl rfl) (Imm.rfl' _) (pick_mem (is := [0, 1, 2, 3, 4, 5, 6]) ⟨rfl, rfl, rfl, rfl, rfl, rfl, rfl, trivial⟩) ?_
                              refine d_take 32 (bits 57 6442450943) (y_loadA (cs := [.int .i64 a0.Kind, .int .i64 a0.Count, .slice A1 a0.Kids.length c2]) ia24 rfl rfl rfl (cls_own (i := 6) rfl rfl)) rfl rfl (by decide) (by kernel_rfl) (fun _ _ _ h => h) (.on rfl rfl rfl rfl) (Imm.rfl' _) (pick_mem (is := [0, 1, 2, 3, 4, 5, 6]) ⟨rfl, rfl, rfl, rfl, rfl, rfl, rfl, trivial⟩) ?_
                              refine d_take 33 (bits 57 15032385535) (y_loadA (cs := [.int .i64 a1.Kind, .int .i64 a1.Count, .slice A5 a1.Kids.length c6]) ia24 rfl rfl rfl (cls_own (i := 5) rfl rfl)) rfl rfl (by decide) (by kernel_rfl) (fun _ _ _ h => h) (.on rfl rfl rfl rfl) (Imm.rfl' _) (pick_mem (is := [0, 1, 2, 3, 4, 5, 6]) ⟨rfl, rfl, rfl, rfl, rfl, rfl, rfl, trivial⟩) ?_
                              refine d_one 31 (bits 57 17179869183) rfl (by kernel_rfl) (by decide) (.on rfl rfl rfl rfl) (fun K hK => ?_)
                              obtain ⟨r211, hr211, H⟩ := Option.bind_eq_some_iff.1 H
                              refine w_call (args := [.agg #[.int .i64 a0.Kind, .int .i64 a0.Count, .slice A1 a0.Kids.length c2], .agg #[.int .i64 a1.Kind, .int .i64 a1.Count, .slice A5 a1.Kids.length c6]]) (caps := []) has23 rfl rfl rfl rfl (by decide) (fun a W F E => ?_)
                              refine (types_Same.calls k_j3 a0 a1 A1 c2 A5 c6 J111 W r211 (hr3.mono R_Type.mono ((((((hl14.trans hl28).trans hl37).trans hl46).trans hl49).trans hl81).trans hl112)) (by first | assumption | simp | omega) (hr7.mono R_Type.mono ((((((hl14.trans hl28).trans hl37).trans hl46).trans hl49).trans hl81).trans hl112)) (by first | assumption | simp | omega) (E.st.sub (List.nil_sublist _)) hr211).mono ?_
                              rintro e W' ⟨rfl, X⟩
                              refine ⟨_, rfl, here (At.mk (F.put (by decide) _) (E.call0 X)) ?_⟩
                              clear X E F W W' a
                              refine d_k hK (Imm.rfl' _) (pick_mem (is := [0, 1, 2, 3, 4, 5, 6]) ⟨rfl, rfl, rfl, rfl, rfl, rfl, rfl, trivial⟩) ?_
                              clear hK K
                              refine d_one 34 (bits 57 34359738367) rfl (by kernel_rfl) (by decide) (.on rfl rfl rfl rfl) (fun K hK => ?_)
                              obtain ⟨r213, hr213, H⟩ := Option.bind_eq_some_iff.1 H
                              refine w_call (args := [.agg #[.int .i64 a0.Kind, .int .i64 a0.Count, .slice A1 a0.Kids.length c2], .agg #[.int .i64 a1.Kind, .int .i64 a1.Count, .slice A5 a1.Kids.length c6]]) (caps := []) has16 rfl rfl rfl rfl (by decide) (fun a W F E => ?_)
                              refine (swageref11_Same.calls k_j3 a0 a1 A1 c2 A5 c6 J111 W r213 (hr3.mono R_Type.mono ((((((hl14.trans hl28).trans hl37).trans hl46).trans hl49).trans hl81).trans hl112)) (by first | assumption | simp | omega) (hr7.mono R_Type.mono ((((((hl14.trans hl28).trans hl37).trans hl46).trans hl49).trans hl81).trans hl112)) (by first | assumption | simp | omega) (E.st.sub (List.nil_sublist _)) hr213).mono ?_
                              rintro e W' ⟨rfl, X⟩
                              refine ⟨_, rfl, here (At.mk (F.put (by decide) _) (E.call0 X)) ?_⟩
                              clear X E F W W' a
                              refine d_k hK (Imm.rfl' _) (pick_mem (is := [0, 1, 2, 3, 4, 5, 6]) ⟨rfl, rfl, rfl, rfl, rfl, rfl, rfl, trivial⟩) ?_
                              clear hK K
                              refine d_pure 35 (bits 57 68719476735) (y_bin rfl rfl rfl (bi_beq Tryd.underlying4)) rfl rfl (by decide) (by kernel_rfl) (fun _ _ _ h => h) (.on rfl rfl rfl rfl) ?_
                              refine d_many (k' := 274877906943) [(36, 137438953471), (37, 274877906943)] 19 rfl (by kernel_rfl) (fun _ _ _ _ _ h => h) ?_
                              by_cases c215 : r211 = true
                              · rw [if_pos c215] at H
                                by_cases c216 : r213 = true
                                · rw [if_pos c216] at H
                                  refine s_lit (t := 122) rfl (beq_of c215 c216) ?_
                                  refine d_take 38 (bits 57 549755813887) (y_loadA (cs := [.int .i64 a0.Kind, .int .i64 a0.Count, .slice A1 a0.Kids.length c2]) ia24 rfl rfl rfl (cls_own (i := 6) rfl rfl)) rfl rfl (by decide) (by kernel_rfl) (fun _ _ _ h => h) (.on rfl rfl rfl rfl) (Imm.rfl' _) (pick_mem (is := [0, 1, 2, 3, 4, 5, 6]) ⟨rfl, rfl, rfl, rfl, rfl, rfl, rfl, trivial⟩) ?_
                                  refine d_take 40 (bits 57 1649267441663) (y_loadA (cs := [.int .i64 a0.Kind, .int .i64 a0.Count, .slice A1 a0.Kids.length c2]) ia24 rfl rfl rfl (cls_own (i := 6) rfl rfl)) rfl rfl (by decide) (by kernel_rfl) (fun _ _ _ h => h) (.on rfl rfl rfl rfl) (Imm.rfl' _) (pick_mem (is := [0, 1, 2, 3, 4, 5, 6]) ⟨rfl, rfl, rfl, rfl, rfl, rfl, rfl, trivial⟩) ?_
                                  refine d_one 39 (bits 57 2199023255551) rfl (by kernel_rfl) (by decide) (.on rfl rfl rfl rfl) (fun K hK => ?_)
                                  obtain ⟨r217, hr217, H⟩ := Option.bind_eq_some_iff.1 H
                                  refine w_call (args := [.agg #[.int .i64 a0.Kind, .int .i64 a0.Count, .slice A1 a0.Kids.length c2]]) (caps := []) has24 rfl rfl rfl rfl (by decide) (fun a W F E => ?_)
                                  refine (types_Scalar.calls k_j3 a0 A1 c2 J111 W r217 (hr3.mono R_Type.mono ((((((hl14.trans hl28).trans hl37).trans hl46).trans hl49).trans hl81).trans hl112)) (by first | assumption | simp | omega) (E.st.sub (List.nil_sublist _)) hr217).mono ?_
                                  rintro e W' ⟨rfl, X⟩
                                  refine ⟨_, rfl, here (At.mk (F.put (by decide) _) (E.call0 X)) ?_⟩
                                  clear X E F W W' a
                                  refine d_k hK (Imm.rfl' _) (pick_mem (is := [0, 1, 2, 3, 4, 5, 6]) ⟨rfl, rfl, rfl, rfl, rfl, rfl, rfl, trivial⟩) ?_
                                  clear hK K
                                  refine d_one 41 (bits 57 4398046511103) rfl (by kernel_rfl) (by decide) (.on rfl rfl rfl rfl) (fun K hK => ?_)
                                  obtain ⟨r219, hr219, H⟩ := Option.bind_eq_some_iff.1 H
                                  refine w_call (args := [.agg #[.int .i64 a0.Kind, .int .i64 a0.Count, .slice A1 a0.Kids.length c2]]) (caps := []) has25 rfl rfl rfl rfl (by decide) (fun a W F E => ?_)
                                  refine (swageref11_Scalar.calls k_j3 a0 A1 c2 J111 W r219 (hr3.mono R_Type.mono ((((((hl14.trans hl28).trans hl37).trans hl46).trans hl49).trans hl81).trans hl112)) (by first | assumption | simp | omega) (E.st.sub (List.nil_sublist _)) hr219).mono ?_
                                  rintro e W' ⟨rfl, X⟩
                                  refine ⟨_, rfl, here (At.mk (F.put (by decide) _) (E.call0 X)) ?_⟩
                                  clear X E F W W' a
                                  refine d_k hK (Imm.rfl' _) (pick_mem (is := [0, 1, 2, 3, 4, 5, 6]) ⟨rfl, rfl, rfl, rfl, rfl, rfl, rfl, trivial⟩) ?_
                                  clear hK K
                                  refine d_pure 42 (bits 57 8796093022207) (y_bin rfl rfl rfl (bi_beq Tryd.underlying4)) rfl rfl (by decide) (by kernel_rfl) (fun _ _ _ h => h) (.on rfl rfl rfl rfl) ?_
                                  refine d_many (k' := 35184372088831) [(43, 17592186044415), (44, 35184372088831)] 12 rfl (by kernel_rfl) (fun _ _ _ _ _ h => h) ?_
                                  by_cases c221 : r217 = true
                                  · rw [if_pos c221] at H
                                    by_cases c222 : r219 = true
                                    · rw [if_pos c222] at H
                                      refine s_lit (t := 129) rfl (beq_of c221 c222) ?_
                                      refine d_take 45 (bits 57 70368744177663) (y_loadA (cs := [.int .i64 a0.Kind, .int .i64 a0.Count, .slice A1 a0.Kids.length c2]) ia24 rfl rfl rfl (cls_own (i := 6) rfl rfl)) rfl rfl (by decide) (by kernel_rfl) (fun _ _ _ h => h) (.on rfl rfl rfl rfl) (Imm.rfl' _) (pick_mem (is := [0, 1, 2, 3, 4, 5, 6]) ⟨rfl, rfl, rfl, rfl, rfl, rfl, rfl, trivial⟩) ?_
                                      refine d_take 47 (bits 57 211106232532991) (y_loadA (cs := [.int .i64 a0.Kind, .int .i64 a0.Count, .slice A1 a0.Kids.length c2]) ia24 rfl rfl rfl (cls_own (i := 6) rfl rfl)) rfl rfl (by decide) (by kernel_rfl) (fun _ _ _ h => h) (.on rfl rfl rfl rfl) (Imm.rfl' _) (pick_mem (is := [0, 1, 2, 3, 4, 5, 6]) ⟨rfl, rfl, rfl, rfl, rfl, rfl, rfl, trivial⟩) ?_
                                      refine d_one 46 (bits 57 281474976710655) rfl (by kernel_rfl) (by decide) (.on rfl rfl rfl rfl) (fun K hK => ?_)
                                      obtain ⟨r223, hr223, H⟩ := Option.bind_eq_some_iff.1 H
                                      refine w_call (args := [.agg #[.int .i64 a0.Kind, .int .i64 a0.Count, .slice A1 a0.Kids.length c2]]) (caps := []) has26 rfl rfl rfl rfl (by decide) (fun a W F E => ?_)
                                      refine (types_Text.calls k_j3 a0 A1 c2 J111 W r223 (hr3.mono R_Type.mono ((((((hl14.trans hl28).trans hl37).trans hl46).trans hl49).trans hl81).trans hl112)) (by first | assumption | simp | omega) (E.st.sub (List.nil_sublist _)) (hT.mono ((((((hl14.trans hl28).trans hl37).trans hl46).trans hl49).trans hl81).trans hl112)) hr223).mono ?_
                                      rintro e W' ⟨rfl, X⟩
                                      refine ⟨_, rfl, here (At.mk (F.put (by decide) _) (E.call0 X)) ?_⟩
                                      clear X E F W W' a
                                      refine d_k hK (Imm.rfl' _) (pick_mem (is := [0, 1, 2, 3, 4, 5, 6]) ⟨rfl, rfl, rfl, rfl, rfl, rfl, rfl, trivial⟩) ?_
                                      clear hK K
                                      refine d_one 48 (bits 57 562949953421311) rfl (by kernel_rfl) (by decide) (.on rfl rfl rfl rfl) (fun K hK => ?_)
                                      obtain ⟨r225, hr225, H⟩ := Option.bind_eq_some_iff.1 H
                                      refine w_call (args := [.agg #[.int .i64 a0.Kind, .int .i64 a0.Count, .slice A1 a0.Kids.length c2]]) (caps := []) has27 rfl rfl rfl rfl (by decide) (fun a W F E => ?_)
                                      refine (swageref11_Text.calls k_j3 a0 A1 c2 J111 W r225 (hr3.mono R_Type.mono ((((((hl14.trans hl28).trans hl37).trans hl46).trans hl49).trans hl81).trans hl112)) (by first | assumption | simp | omega) (E.st.sub (List.nil_sublist _)) hr225).mono ?_
                                      rintro e W' ⟨rfl, X⟩
                                      refine ⟨_, rfl, here (At.mk (F.put (by decide) _) (E.call0 X)) ?_⟩
                                      clear X E F W W' a
                                      refine d_k hK (Imm.rfl' _) (pick_mem (is := [0, 1, 2, 3, 4, 5, 6]) ⟨rfl, rfl, rfl, rfl, rfl, rfl, rfl, trivial⟩) ?_
                                      clear hK K
                                      refine d_pure 49 (bits 57 1125899906842623) (y_bin rfl rfl rfl bi_seq) rfl rfl (by decide) (by kernel_rfl) (fun _ _ _ h => h) (.on rfl rfl rfl rfl) ?_
                                      refine d_many (k' := 4503599627370495) [(50, 2251799813685247), (51, 4503599627370495)] 5 rfl (by kernel_rfl) (fun _ _ _ _ _ h => h) ?_
                                      by_cases c227 : r223 = r225
                                      · rw [if_pos c227] at H
                                        refine s_lit (t := 136) rfl (decide_eq_true c227) ?_
                                        refine d_take 52 (bits 57 9007199254740991) (y_loadA (cs := [.int .i64 a0.Kind, .int .i64 a0.Count, .slice A1 a0.Kids.length c2]) ia24 rfl rfl rfl (cls_own (i := 6) rfl rfl)) rfl rfl (by decide) (by kernel_rfl) (fun _ _ _ h => h) (.on rfl rfl rfl rfl) (Imm.rfl' _) (pick_mem (is := [0, 1, 2, 3, 4, 5, 6]) ⟨rfl, rfl, rfl, rfl, rfl, rfl, rfl, trivial⟩) ?_
                                        refine d_take 53 (bits 57 18014398509481983) (y_loadA (cs := [.int .i64 r22.Kind, .int .i64 r22.Count, .slice A23 r22.Kids.length c24]) ia24 rfl rfl rfl (cls_own (i := 4) rfl rfl)) rfl rfl (by decide) (by kernel_rfl) (fun _ _ _ h => h) (.on rfl rfl rfl rfl) (Imm.rfl' _) (pick_mem (is := [0, 1, 2, 3, 4, 5, 6]) ⟨rfl, rfl, rfl, rfl, rfl, rfl, rfl, trivial⟩) ?_
                                        refine d_one 54 (bits 57 36028797018963967) rfl (by kernel_rfl) (by decide) (.on rfl rfl rfl rfl) (fun K hK => ?_)
                                        obtain ⟨r228, hr228, H⟩ := Option.bind_eq_some_iff.1 H
                                        refine w_call (args := [.agg #[.int .i64 a0.Kind, .int .i64 a0.Count, .slice A1 a0.Kids.length c2], .agg #[.int .i64 r22.Kind, .int .i64 r22.Count, .slice A23 r22.Kids.length c24]]) (caps := []) has16 rfl rfl rfl rfl (by decide) (fun a W F E => ?_)
                                        refine (swageref11_Same.calls k_j3 a0 r22 A1 c2 A23 c24 J111 W r228 (hr3.mono R_Type.mono ((((((hl14.trans hl28).trans hl37).trans hl46).trans hl49).trans hl81).trans hl112)) (by first | assumption | simp | omega) (hr25.mono R_Type.mono ((((hl37.trans hl46).trans hl49).trans hl81).trans hl112)) (by first | assumption | simp | omega) (E.st.sub (List.nil_sublist _)) hr228).mono ?_
                                        rintro e W' ⟨rfl, X⟩
                                        refine ⟨_, rfl, here (At.mk (F.put (by decide) _) (E.call0 X)) ?_⟩
                                        clear X E F W W' a
                                        refine d_k hK (Imm.rfl' _) (pick_mem (is := [0, 1, 2, 3, 4, 5, 6]) ⟨rfl, rfl, rfl, rfl, rfl, rfl, rfl, trivial⟩) ?_
                                        clear hK K
                                        refine d_many (k' := 144115188075855871) [(55, 72057594037927935), (56, 144115188075855871)] 0 rfl (by kernel_rfl) (fun _ _ _ _ _ h => h) ?_
                                        refine d_done (by kernel_rfl) ?_
                                        refine x_next ?_
                                        refine c_ret ?_
                                        obtain rfl := Option.some.inj H
                                        exact g_ret [.bool r228] (congrArg Array.toList Tryd.results3) (.cons (.t rfl) .nil) (fun W E => ⟨rfl, (E.drop (List.nil_sublist _)).back⟩)
                                      · rw [if_neg c227] at H
                                        refine s_lit (t := 136) rfl (decide_eq_false c227) ?_
                                        refine d_off 52 (bits 57 9007199254740991) rfl rfl (by decide) (by kernel_rfl) (fun _ _ _ h => h) (.off rfl rfl rfl rfl rfl) ?_
                                        refine d_many (k' := 144115188075855871) [(53, 18014398509481983), (54, 36028797018963967), (55, 72057594037927935), (56, 144115188075855871)] 0 rfl (by kernel_rfl) (fun _ _ _ _ _ h => h) ?_
                                        refine d_done (by kernel_rfl) ?_
                                        refine x_next ?_
                                        refine c_ret ?_
                                        obtain rfl := Option.some.inj H
                                        exact g_ret [.bool false] (congrArg Array.toList Tryd.results3) (.cons (.t rfl) .nil) (fun W E => ⟨rfl, (E.drop (List.nil_sublist _)).back⟩)
                                    · rw [if_neg c222] at H
                                      refine s_lit (t := 129) rfl (beq_of c221 (Bool.eq_false_iff.2 c222)) ?_
                                      refine d_off 45 (bits 57 70368744177663) rfl rfl (by decide) (by kernel_rfl) (fun _ _ _ h => h) (.off rfl rfl rfl rfl rfl) ?_
                                      refine d_many (k' := 144115188075855871) [(47, 211106232532991), (46, 281474976710655), (48, 562949953421311), (49, 1125899906842623), (50, 2251799813685247), (51, 4503599627370495), (52, 9007199254740991), (53, 18014398509481983), (54, 36028797018963967), (55, 72057594037927935), (56, 144115188075855871)] 0 rfl (by kernel_rfl) (fun _ _ _ _ _ h => h) ?_
                                      refine d_done (by kernel_rfl) ?_
                                      refine x_next ?_
                                      refine c_ret ?_
                                      obtain rfl := Option.some.inj H
                                      exact g_ret [.bool false] (congrArg Array.toList Tryd.results3) (.cons (.t rfl) .nil) (fun W E => ⟨rfl, (E.drop (List.nil_sublist _)).back⟩)
                                  · rw [if_neg c221] at H
                                    by_cases c230 : r219 = true
                                    · rw [if_pos c230] at H
                                      refine s_lit (t := 129) rfl (beq_of (Bool.eq_false_iff.2 c221) c230) ?_
                                      refine d_off 45 (bits 57 70368744177663) rfl rfl (by decide) (by kernel_rfl) (fun _ _ _ h => h) (.off rfl rfl rfl rfl rfl) ?_
                                      refine d_many (k' := 144115188075855871) [(47, 211106232532991), (46, 281474976710655), (48, 562949953421311), (49, 1125899906842623), (50, 2251799813685247), (51, 4503599627370495), (52, 9007199254740991), (53, 18014398509481983), (54, 36028797018963967), (55, 72057594037927935), (56, 144115188075855871)] 0 rfl (by kernel_rfl) (fun _ _ _ _ _ h => h) ?_
                                      refine d_done (by kernel_rfl) ?_
                                      refine x_next ?_
                                      refine c_ret ?_
                                      obtain rfl := Option.some.inj H
                                      exact g_ret [.bool false] (congrArg Array.toList Tryd.results3) (.cons (.t rfl) .nil) (fun W E => ⟨rfl, (E.drop (List.nil_sublist _)).back⟩)
                                    · rw [if_neg c230] at H
                                      refine s_lit (t := 129) rfl (beq_of (Bool.eq_false_iff.2 c221) (Bool.eq_false_iff.2 c230)) ?_
                                      refine d_take 45 (bits 57 70368744177663) (y_loadA (cs := [.int .i64 a0.Kind, .int .i64 a0.Count, .slice A1 a0.Kids.length c2]) ia24 rfl rfl rfl (cls_own (i := 6) rfl rfl)) rfl rfl (by decide) (by kernel_rfl) (fun _ _ _ h => h) (.on rfl rfl rfl rfl) (Imm.rfl' _) (pick_mem (is := [0, 1, 2, 3, 4, 5, 6]) ⟨rfl, rfl, rfl, rfl, rfl, rfl, rfl, trivial⟩) ?_
                                      refine d_take 47 (bits 57 211106232532991) (y_loadA (cs := [.int .i64 a0.Kind, .int .i64 a0.Count, .slice A1 a0.Kids.length c2]) ia24 rfl rfl rfl (cls_own (i := 6) rfl rfl)) rfl rfl (by decide) (by kernel_rfl) (fun _ _ _ h => h) (.on rfl rfl rfl rfl) (Imm.rfl' _) (pick_mem (is := [0, 1, 2, 3, 4, 5, 6]) ⟨rfl, rfl, rfl, rfl, rfl, rfl, rfl, trivial⟩) ?_
                                      refine d_one 46 (bits 57 281474976710655) rfl (by kernel_rfl) (by decide) (.on rfl rfl rfl rfl) (fun K hK => ?_)
                                      obtain ⟨r231, hr231, H⟩ := Option.bind_eq_some_iff.1 H
                                      refine w_call (args := [.agg #[.int .i64 a0.Kind, .int .i64 a0.Count, .slice A1 a0.Kids.length c2]]) (caps := []) has26 rfl rfl rfl rfl (by decide) (fun a W F E => ?_)
                                      refine (types_Text.calls k_j3 a0 A1 c2 J111 W r231 (hr3.mono R_Type.mono ((((((hl14.trans hl28).trans hl37).trans hl46).trans hl49).trans hl81).trans hl112)) (by first | assumption | simp | omega) (E.st.sub (List.nil_sublist _)) (hT.mono ((((((hl14.trans hl28).trans hl37).trans hl46).trans hl49).trans hl81).trans hl112)) hr231).mono ?_
                                      rintro e W' ⟨rfl, X⟩
                                      refine ⟨_, rfl, here (At.mk (F.put (by decide) _) (E.call0 X)) ?_⟩
                                      clear X E F W W' a
                                      refine d_k hK (Imm.rfl' _) (pick_mem (is := [0, 1, 2, 3, 4, 5, 6]) ⟨rfl, rfl, rfl, rfl, rfl, rfl, rfl, trivial⟩) ?_
                                      clear hK K
                                      refine d_one 48 (bits 57 562949953421311) rfl (by kernel_rfl) (by decide) (.on rfl rfl rfl rfl) (fun K hK => ?_)
                                      obtain ⟨r233, hr233, H⟩ := Option.bind_eq_some_iff.1 H
                                      refine w_call (args := [.agg #[.int .i64 a0.Kind, .int .i64 a0.Count, .slice A1 a0.Kids.length c2]]) (caps := []) has27 rfl rfl rfl rfl (by decide) (fun a W F E => ?_)
                                      refine (swageref11_Text.calls k_j3 a0 A1 c2 J111 W r233 (hr3.mono R_Type.mono ((((((hl14.trans hl28).trans hl37).trans hl46).trans hl49).trans hl81).trans hl112)) (by first | assumption | simp | omega) (E.st.sub (List.nil_sublist _)) hr233).mono ?_
                                      rintro e W' ⟨rfl, X⟩
                                      refine ⟨_, rfl, here (At.mk (F.put (by decide) _) (E.call0 X)) ?_⟩
                                      clear X E F W W' a
                                      refine d_k hK (Imm.rfl' _) (pick_mem (is := [0, 1, 2, 3, 4, 5, 6]) ⟨rfl, rfl, rfl, rfl, rfl, rfl, rfl, trivial⟩) ?_
                                      clear hK K
                                      refine d_pure 49 (bits 57 1125899906842623) (y_bin rfl rfl rfl bi_seq) rfl rfl (by decide) (by kernel_rfl) (fun _ _ _ h => h) (.on rfl rfl rfl rfl) ?_
                                      refine d_many (k' := 4503599627370495) [(50, 2251799813685247), (51, 4503599627370495)] 5 rfl (by kernel_rfl) (fun _ _ _ _ _ h => h) ?_
                                      by_cases c235 : r231 = r233
                                      · rw [if_pos c235] at H
                                        refine s_lit (t := 136) rfl (decide_eq_true c235) ?_
                                        refine d_take 52 (bits 57 9007199254740991) (y_loadA (cs := [.int .i64 a0.Kind, .int .i64 a0.Count, .slice A1 a0.Kids.length c2]) ia24 rfl rfl rfl (cls_own (i := 6) rfl rfl)) rfl rfl (by decide) (by kernel_rfl) (fun _ _ _ h => h) (.on rfl rfl rfl rfl) (Imm.rfl' _) (pick_mem (is := [0, 1, 2, 3, 4, 5, 6]) ⟨rfl, rfl, rfl, rfl, rfl, rfl, rfl, trivial⟩) ?_
                                        refine d_take 53 (bits 57 18014398509481983) (y_loadA (cs := [.int .i64 r22.Kind, .int .i64 r22.Count, .slice A23 r22.Kids.length c24]) ia24 rfl rfl rfl (cls_own (i := 4) rfl rfl)) rfl rfl (by decide) (by kernel_rfl) (fun _ _ _ h => h) (.on rfl rfl rfl rfl) (Imm.rfl' _) (pick_mem (is := [0, 1, 2, 3, 4, 5, 6]) ⟨rfl, rfl, rfl, rfl, rfl, rfl, rfl, trivial⟩) ?_
                                        refine d_one 54 (bits 57 36028797018963967) rfl (by kernel_rfl) (by decide) (.on rfl rfl rfl rfl) (fun K hK => ?_)
                                        obtain ⟨r236, hr236, H⟩ := Option.bind_eq_some_iff.1 H
                                        refine w_call (args := [.agg #[.int .i64 a0.Kind, .int .i64 a0.Count, .slice A1 a0.Kids.length c2], .agg #[.int .i64 r22.Kind, .int .i64 r22.Count, .slice A23 r22.Kids.length c24]]) (caps := []) has16 rfl rfl rfl rfl (by decide) (fun a W F E => ?_)
                                        refine (swageref11_Same.calls k_j3 a0 r22 A1 c2 A23 c24 J111 W r236 (hr3.mono R_Type.mono ((((((hl14.trans hl28).trans hl37).trans hl46).trans hl49).trans hl81).trans hl112)) (by first | assumption | simp | omega) (hr25.mono R_Type.mono ((((hl37.trans hl46).trans hl49).trans hl81).trans hl112)) (by first | assumption | simp | omega) (E.st.sub (List.nil_sublist _)) hr236).mono ?_
                                        rintro e W' ⟨rfl, X⟩
                                        refine ⟨_, rfl, here (At.mk (F.put (by decide) _) (E.call0 X)) ?_⟩
                                        clear X E F W W' a
                                        refine d_k hK (Imm.rfl' _) (pick_mem (is := [0, 1, 2, 3, 4, 5, 6]) ⟨rfl, rfl, rfl, rfl, rfl, rfl, rfl, trivial⟩) ?_
                                        clear hK K
                                        refine d_many (k' := 144115188075855871) [(55, 72057594037927935), (56, 144115188075855871)] 0 rfl (by kernel_rfl) (fun _ _ _ _ _ h => h) ?_
                                        refine d_done (by kernel_rfl) ?_
                                        refine x_next ?_
                                        refine c_ret ?_
                                        obtain rfl := Option.some.inj H
                                        exact g_ret [.bool r236] (congrArg Array.toList Tryd.results3) (.cons (.t rfl) .nil) (fun W E => ⟨rfl, (E.drop (List.nil_sublist _)).back⟩)
                                      · rw [if_neg c235] at H
                                        refine s_lit (t := 136) rfl (decide_eq_false c235) ?_
                                        refine d_off 52 (bits 57 9007199254740991) rfl rfl (by decide) (by kernel_rfl) (fun _ _ _ h => h) (.off rfl rfl rfl rfl rfl) ?_
                                        refine d_many (k' := 144115188075855871) [(53, 18014398509481983), (54, 36028797018963967), (55, 72057594037927935), (56, 144115188075855871)] 0 rfl (by kernel_rfl) (fun _ _ _ _ _ h => h) ?_
                                        refine d_done (by kernel_rfl) ?_
                                        refine x_next ?_
                                        refine c_ret ?_
                                        obtain rfl := Option.some.inj H
                                        exact g_ret [.bool false] (congrArg Array.toList Tryd.results3) (.cons (.t rfl) .nil) (fun W E => ⟨rfl, (E.drop (List.nil_sublist _)).back⟩)
                                · rw [if_neg c216] at H
                                  refine s_lit (t := 122) rfl (beq_of c215 (Bool.eq_false_iff.2 c216)) ?_
                                  refine d_off 38 (bits 57 549755813887) rfl rfl (by decide) (by kernel_rfl) (fun _ _ _ h => h) (.off rfl rfl rfl rfl rfl) ?_
                                  refine d_many (k' := 144115188075855871) [(40, 1649267441663), (39, 2199023255551), (41, 4398046511103), (42, 8796093022207), (43, 17592186044415), (44, 35184372088831), (45, 70368744177663), (47, 211106232532991), (46, 281474976710655), (48, 562949953421311), (49, 1125899906842623), (50, 2251799813685247), (51, 4503599627370495), (52, 9007199254740991), (53, 18014398509481983), (54, 36028797018963967), (55, 72057594037927935), (56, 144115188075855871)] 0 rfl (by kernel_rfl) (fun _ _ _ _ _ h => h) ?_
                                  refine d_done (by kernel_rfl) ?_
                                  refine x_next ?_
                                  refine c_ret ?_
                                  obtain rfl := Option.some.inj H
                                  exact g_ret [.bool false] (congrArg Array.toList Tryd.results3) (.cons (.t rfl) .nil) (fun W E => ⟨rfl, (E.drop (List.nil_sublist _)).back⟩)
                              · rw [if_neg c215] at H
                                by_cases c238 : r213 = true
                                · rw [if_pos c238] at H
                                  refine s_lit (t := 122) rfl (beq_of (Bool.eq_false_iff.2 c215) c238) ?_
                                  refine d_off 38 (bits 57 549755813887) rfl rfl (by decide) (by kernel_rfl) (fun _ _ _ h => h) (.off rfl rfl rfl rfl rfl) ?_
                                  refine d_many (k' := 144115188075855871) [(40, 1649267441663), (39, 2199023255551), (41, 4398046511103), (42, 8796093022207), (43, 17592186044415), (44, 35184372088831), (45, 70368744177663), (47, 211106232532991), (46, 281474976710655), (48, 562949953421311), (49, 1125899906842623), (50, 2251799813685247), (51, 4503599627370495), (52, 9007199254740991), (53, 18014398509481983), (54, 36028797018963967), (55, 72057594037927935), (56, 144115188075855871)] 0 rfl (by kernel_rfl) (fun _ _ _ _ _ h => h) ?_
                                  refine d_done (by kernel_rfl) ?_
                                  refine x_next ?_
                                  refine c_ret ?_
                                  obtain rfl := Option.some.inj H
                                  exact g_ret [.bool false] (congrArg Array.toList Tryd.results3) (.cons (.t rfl) .nil) (fun W E => ⟨rfl, (E.drop (List.nil_sublist _)).back⟩)
                                · rw [if_neg c238] at H
                                  refine s_lit (t := 122) rfl (beq_of (Bool.eq_false_iff.2 c215) (Bool.eq_false_iff.2 c238)) ?_
                                  refine d_take 38 (bits 57 549755813887) (y_loadA (cs := [.int .i64 a0.Kind, .int .i64 a0.Count, .slice A1 a0.Kids.length c2]) ia24 rfl rfl rfl (cls_own (i := 6) rfl rfl)) rfl rfl (by decide) (by kernel_rfl) (fun _ _ _ h => h) (.on rfl rfl rfl rfl) (Imm.rfl' _) (pick_mem (is := [0, 1, 2, 3, 4, 5, 6]) ⟨rfl, rfl, rfl, rfl, rfl, rfl, rfl, trivial⟩) ?_
                                  refine d_take 40 (bits 57 1649267441663) (y_loadA (cs := [.int .i64 a0.Kind, .int .i64 a0.Count, .slice A1 a0.Kids.length c2]) ia24 rfl rfl rfl (cls_own (i := 6) rfl rfl)) rfl rfl (by decide) (by kernel_rfl) (fun _ _ _ h => h) (.on rfl rfl rfl rfl) (Imm.rfl' _) (pick_mem (is := [0, 1, 2, 3, 4, 5, 6]) ⟨rfl, rfl, rfl, rfl, rfl, rfl, rfl, trivial⟩) ?_
                                  refine d_one 39 (bits 57 2199023255551) rfl (by kernel_rfl) (by decide) (.on rfl rfl rfl rfl) (fun K hK => ?_)
                                  obtain ⟨r239, hr239, H⟩ := Option.bind_eq_some_iff.1 H
                                  refine w_call (args := [.agg #[.int .i64 a0.Kind, .int .i64 a0.Count, .slice A1 a0.Kids.length c2]]) (caps := []) has24 rfl rfl rfl rfl (by decide) (fun a W F E => ?_)
                                  refine (types_Scalar.calls k_j3 a0 A1 c2 J111 W r239 (hr3.mono R_Type.mono ((((((hl14.trans hl28).trans hl37).trans hl46).trans hl49).trans hl81).trans hl112)) (by first | assumption | simp | omega) (E.st.sub (List.nil_sublist _)) hr239).mono ?_
                                  rintro e W' ⟨rfl, X⟩
                                  refine ⟨_, rfl, here (At.mk (F.put (by decide) _) (E.call0 X)) ?_⟩
                                  clear X E F W W' a
                                  refine d_k hK (Imm.rfl' _) (pick_mem (is := [0, 1, 2, 3, 4, 5, 6]) ⟨rfl, rfl, rfl, rfl, rfl, rfl, rfl, trivial⟩) ?_
                                  clear hK K
                                  refine d_one 41 (bits 57 4398046511103) rfl (by kernel_rfl) (by decide) (.on rfl rfl rfl rfl) (fun K hK => ?_)
                                  obtain ⟨r241, hr241, H⟩ := Option.bind_eq_some_iff.1 H
                                  refine w_call (args := [.agg #[.int .i64 a0.Kind, .int .i64 a0.Count, .slice A1 a0.Kids.length c2]]) (caps := []) has25 rfl rfl rfl rfl (by decide) (fun a W F E => ?_)
                                  refine (swageref11_Scalar.calls k_j3 a0 A1 c2 J111 W r241 (hr3.mono R_Type.mono ((((((hl14.trans hl28).trans hl37).trans hl46).trans hl49).trans hl81).trans hl112)) (by first | assumption | simp | omega) (E.st.sub (List.nil_sublist _)) hr241).mono ?_
                                  rintro e W' ⟨rfl, X⟩
                                  refine ⟨_, rfl, here (At.mk (F.put (by decide) _) (E.call0 X)) ?_⟩
                                  clear X E F W W' a
                                  refine d_k hK (Imm.rfl' _) (pick_mem (is := [0, 1, 2, 3, 4, 5, 6]) ⟨rfl, rfl, rfl, rfl, rfl, rfl, rfl, trivial⟩) ?_
                                  clear hK K
                                  refine d_pure 42 (bits 57 8796093022207) (y_bin rfl rfl rfl (bi_beq Tryd.underlying4)) rfl rfl (by decide) (by kernel_rfl) (fun _ _ _ h => h) (.on rfl rfl rfl rfl) ?_
                                  refine d_many (k' := 35184372088831) [(43, 17592186044415), (44, 35184372088831)] 12 rfl (by kernel_rfl) (fun _ _ _ _ _ h => h) ?_
                                  by_cases c243 : r239 = true
                                  · rw [if_pos c243] at H
                                    by_cases c244 : r241 = true
                                    · rw [if_pos c244] at H
                                      refine s_lit (t := 129) rfl (beq_of c243 c244) ?_
                                      refine d_take 45 (bits 57 70368744177663) (y_loadA (cs := [.int .i64 a0.Kind, .int .i64 a0.Count, .slice A1 a0.Kids.length c2]) ia24 rfl rfl rfl (cls_own (i := 6) rfl rfl)) rfl rfl (by decide) (by kernel_rfl) (fun _ _ _ h => h) (.on rfl rfl rfl rfl) (Imm.rfl' _) (pick_mem (is := [0, 1, 2, 3, 4, 5, 6]) ⟨rfl, rfl, rfl, rfl, rfl, rfl, rfl, trivial⟩) ?_
                                      refine d_take 47 (bits 57 211106232532991) (y_loadA (cs := [.int .i64 a0.Kind, .int .i64 a0.Count, .slice A1 a0.Kids.length c2]) ia24 rfl rfl rfl (cls_own (i := 6) rfl rfl)) rfl rfl (by decide) (by kernel_rfl) (fun _ _ _ h => h) (.on rfl rfl rfl rfl) (Imm.rfl' _) (pick_mem (is := [0, 1, 2, 3, 4, 5, 6]) ⟨rfl, rfl, rfl, rfl, rfl, rfl, rfl, trivial⟩) ?_
                                      refine d_one 46 (bits 57 281474976710655) rfl (by kernel_rfl) (by decide) (.on rfl rfl rfl rfl) (fun K hK => ?_)
                                      obtain ⟨r245, hr245, H⟩ := Option.bind_eq_some_iff.1 H
                                      refine w_call (args := [.agg #[.int .i64 a0.Kind, .int .i64 a0.Count, .slice A1 a0.Kids.length c2]]) (caps := []) has26 rfl rfl rfl rfl (by decide) (fun a W F E => ?_)
                                      refine (types_Text.calls k_j3 a0 A1 c2 J111 W r245 (hr3.mono R_Type.mono ((((((hl14.trans hl28).trans hl37).trans hl46).trans hl49).trans hl81).trans hl112)) (by first | assumption | simp | omega) (E.st.sub (List.nil_sublist _)) (hT.mono ((((((hl14.trans hl28).trans hl37).trans hl46).trans hl49).trans hl81).trans hl112)) hr245).mono ?_
                                      rintro e W' ⟨rfl, X⟩
                                      refine ⟨_, rfl, here (At.mk (F.put (by decide) _) (E.call0 X)) ?_⟩
                                      clear X E F W W' a
                                      refine d_k hK (Imm.rfl' _) (pick_mem (is := [0, 1, 2, 3, 4, 5, 6]) ⟨rfl, rfl, rfl, rfl, rfl, rfl, rfl, trivial⟩) ?_
                                      clear hK K
                                      refine d_one 48 (bits 57 562949953421311) rfl (by kernel_rfl) (by decide) (.on rfl rfl rfl rfl) (fun K hK => ?_)
                                      obtain ⟨r247, hr247, H⟩ := Option.bind_eq_some_iff.1 H
                                      refine w_call (args := [.agg #[.int .i64 a0.Kind, .int .i64 a0.Count, .slice A1 a0.Kids.length c2]]) (caps := []) has27 rfl rfl rfl rfl (by decide) (fun a W F E => ?_)
                                      refine (swageref11_Text.calls k_j3 a0 A1 c2 J111 W r247 (hr3.mono R_Type.mono ((((((hl14.trans hl28).trans hl37).trans hl46).trans hl49).trans hl81).trans hl112)) (by first | assumption | simp | omega) (E.st.sub (List.nil_sublist _)) hr247).mono ?_
                                      rintro e W' ⟨rfl, X⟩
                                      refine ⟨_, rfl, here (At.mk (F.put (by decide) _) (E.call0 X)) ?_⟩
                                      clear X E F W W' a
                                      refine d_k hK (Imm.rfl' _) (pick_mem (is := [0, 1, 2, 3, 4, 5, 6]) ⟨rfl, rfl, rfl, rfl, rfl, rfl, rfl, trivial⟩) ?_
                                      clear hK K
                                      refine d_pure 49 (bits 57 1125899906842623) (y_bin rfl rfl rfl bi_seq) rfl rfl (by decide) (by kernel_rfl) (fun _ _ _ h => h) (.on rfl rfl rfl rfl) ?_
                                      refine d_many (k' := 4503599627370495) [(50, 2251799813685247), (51, 4503599627370495)] 5 rfl (by kernel_rfl) (fun _ _ _ _ _ h => h) ?_
                                      by_cases c249 : r245 = r247
                                      · rw [if_pos c249] at H
                                        refine s_lit (t := 136) rfl (decide_eq_true c249) ?_
                                        refine d_take 52 (bits 57 9007199254740991) (y_loadA (cs := [.int .i64 a0.Kind, .int .i64 a0.Count, .slice A1 a0.Kids.length c2]) ia24 rfl rfl rfl (cls_own (i := 6) rfl rfl)) rfl rfl (by decide) (by kernel_rfl) (fun _ _ _ h => h) (.on rfl rfl rfl rfl) (Imm.rfl' _) (pick_mem (is := [0, 1, 2, 3, 4, 5, 6]) ⟨rfl, rfl, rfl, rfl, rfl, rfl, rfl, trivial⟩) ?_
                                        refine d_take 53 (bits 57 18014398509481983) (y_loadA (cs := [.int .i64 r22.Kind, .int .i64 r22.Count, .slice A23 r22.Kids.length c24]) ia24 rfl rfl rfl (cls_own (i := 4) rfl rfl)) rfl rfl (by decide) (by kernel_rfl) (fun _ _ _ h => h) (.on rfl rfl rfl rfl) (Imm.rfl' _) (pick_mem (is := [0, 1, 2, 3, 4, 5, 6]) ⟨rfl, rfl, rfl, rfl, rfl, rfl, rfl, trivial⟩) ?_
                                        refine d_one 54 (bits 57 36028797018963967) rfl (by kernel_rfl) (by decide) (.on rfl rfl rfl rfl) (fun K hK => ?_)
                                        obtain ⟨r250, hr250, H⟩ := Option.bind_eq_some_iff.1 H
                                        refine w_call (args := [.agg #[.int .i64 a0.Kind, .int .i64 a0.Count, .slice A1 a0.Kids.length c2], .agg #[.int .i64 r22.Kind, .int .i64 r22.Count, .slice A23 r22.Kids.length c24]]) (caps := []) has16 rfl rfl rfl rfl (by decide) (fun a W F E => ?_)
                                        refine (swageref11_Same.calls k_j3 a0 r22 A1 c2 A23 c24 J111 W r250 (hr3.mono R_Type.mono ((((((hl14.trans hl28).trans hl37).trans hl46).trans hl49).trans hl81).trans hl112)) (by first | assumption | simp | omega) (hr25.mono R_Type.mono ((((hl37.trans hl46).trans hl49).trans hl81).trans hl112)) (by first | assumption | simp | omega) (E.st.sub (List.nil_sublist _)) hr250).mono ?_
                                        rintro e W' ⟨rfl, X⟩
                                        refine ⟨_, rfl, here (At.mk (F.put (by decide) _) (E.call0 X)) ?_⟩
                                        clear X E F W W' a
                                        refine d_k hK (Imm.rfl' _) (pick_mem (is := [0, 1, 2, 3, 4, 5, 6]) ⟨rfl, rfl, rfl, rfl, rfl, rfl, rfl, trivial⟩) ?_
                                        clear hK K
                                        refine d_many (k' := 144115188075855871) [(55, 72057594037927935), (56, 144115188075855871)] 0 rfl (by kernel_rfl) (fun _ _ _ _ _ h => h) ?_
                                        refine d_done (by kernel_rfl) ?_
                                        refine x_next ?_
                                        refine c_ret ?_
                                        obtain rfl := Option.some.inj H
                                        exact g_ret [.bool r250] (congrArg Array.toList Tryd.results3) (.cons (.t rfl) .nil) (fun W E => ⟨rfl, (E.drop (List.nil_sublist _)).back⟩)
                                      · rw [if_neg c249] at H
                                        refine s_lit (t := 136) rfl (decide_eq_false c249) ?_
                                        refine d_off 52 (bits 57 9007199254740991) rfl rfl (by decide) (by kernel_rfl) (fun _ _ _ h => h) (.off rfl rfl rfl rfl rfl) ?_
                                        refine d_many (k' := 144115188075855871) [(53, 18014398509481983), (54, 36028797018963967), (55, 72057594037927935), (56, 144115188075855871)] 0 rfl (by kernel_rfl) (fun _ _ _ _ _ h => h) ?_
                                        refine d_done (by kernel_rfl) ?_
                                        refine x_next ?_
                                        refine c_ret ?_
                                        obtain rfl := Option.some.inj H
                                        exact g_ret [.bool false] (congrArg Array.toList Tryd.results3) (.cons (.t rfl) .nil) (fun W E => ⟨rfl, (E.drop (List.nil_sublist _)).back⟩)
                                    · rw [if_neg c244] at H
                                      refine s_lit (t := 129) rfl (beq_of c243 (Bool.eq_false_iff.2 c244)) ?_
                                      refine d_off 45 (bits 57 70368744177663) rfl rfl (by decide) (by kernel_rfl) (fun _ _ _ h => h) (.off rfl rfl rfl rfl rfl) ?_
                                      refine d_many (k' := 144115188075855871) [(47, 211106232532991), (46, 281474976710655), (48, 562949953421311), (49, 1125899906842623), (50, 2251799813685247), (51, 4503599627370495), (52, 9007199254740991), (53, 18014398509481983), (54, 36028797018963967), (55, 72057594037927935), (56, 144115188075855871)] 0 rfl (by kernel_rfl) (fun _ _ _ _ _ h => h) ?_
                                      refine d_done (by kernel_rfl) ?_
                                      refine x_next ?_
                                      refine c_ret ?_
                                      obtain rfl := Option.some.inj H
                                      exact g_ret [.bool false] (congrArg Array.toList Tryd.results3) (.cons (.t rfl) .nil) (fun W E => ⟨rfl, (E.drop (List.nil_sublist _)).back⟩)
                                  · rw [if_neg c243] at H
                                    by_cases c252 : r241 = true
                                    · rw [if_pos c252] at H
                                      refine s_lit (t := 129) rfl (beq_of (Bool.eq_false_iff.2 c243) c252) ?_
                                      refine d_off 45 (bits 57 70368744177663) rfl rfl (by decide) (by kernel_rfl) (fun _ _ _ h => h) (.off rfl rfl rfl rfl rfl) ?_
                                      refine d_many (k' := 144115188075855871) [(47, 211106232532991), (46, 281474976710655), (48, 562949953421311), (49, 1125899906842623), (50, 2251799813685247), (51, 4503599627370495), (52, 9007199254740991), (53, 18014398509481983), (54, 36028797018963967), (55, 72057594037927935), (56, 144115188075855871)] 0 rfl (by kernel_rfl) (fun _ _ _ _ _ h => h) ?_
                                      refine d_done (by kernel_rfl) ?_
                                      refine x_next ?_
                                      refine c_ret ?_
                                      obtain rfl := Option.some.inj H
                                      exact g_ret [.bool false] (congrArg Array.toList Tryd.results3) (.cons (.t rfl) .nil) (fun W E => ⟨rfl, (E.drop (List.nil_sublist _)).back⟩)
                                    · rw [if_neg c252] at H
                                      refine s_lit (t := 129) rfl (beq_of (Bool.eq_false_iff.2 c243) (Bool.eq_false_iff.2 c252)) ?_
                                      refine d_take 45 (bits 57 70368744177663) (y_loadA (cs := [.int .i64 a0.Kind, .int .i64 a0.Count, .slice A1 a0.Kids.length c2]) ia24 rfl rfl rfl (cls_own (i := 6) rfl rfl)) rfl rfl (by decide) (by kernel_rfl) (fun _ _ _ h => h) (.on rfl rfl rfl rfl) (Imm.rfl' _) (pick_mem (is := [0, 1, 2, 3, 4, 5, 6]) ⟨rfl, rfl, rfl, rfl, rfl, rfl, rfl, trivial⟩) ?_
                                      refine d_take 47 (bits 57 211106232532991) (y_loadA (cs := [.int .i64 a0.Kind, .int .i64 a0.Count, .slice A1 a0.Kids.length c2]) ia24 rfl rfl rfl (cls_own (i := 6) rfl rfl)) rfl rfl (by decide) (by kernel_rfl) (fun _ _ _ h => h) (.on rfl rfl rfl rfl) (Imm.rfl' _) (pick_mem (is := [0, 1, 2, 3, 4, 5, 6]) ⟨rfl, rfl, rfl, rfl, rfl, rfl, rfl, trivial⟩) ?_
                                      refine d_one 46 (bits 57 281474976710655) rfl (by kernel_rfl) (by decide) (.on rfl rfl rfl rfl) (fun K hK => ?_)
                                      obtain ⟨r253, hr253, H⟩ := Option.bind_eq_some_iff.1 H
                                      refine w_call (args := [.agg #[.int .i64 a0.Kind, .int .i64 a0.Count, .slice A1 a0.Kids.length c2]]) (caps := []) has26 rfl rfl rfl rfl (by decide) (fun a W F E => ?_)
                                      refine (types_Text.calls k_j3 a0 A1 c2 J111 W r253 (hr3.mono R_Type.mono ((((((hl14.trans hl28).trans hl37).trans hl46).trans hl49).trans hl81).trans hl112)) (by first | assumption | simp | omega) (E.st.sub (List.nil_sublist _)) (hT.mono ((((((hl14.trans hl28).trans hl37).trans hl46).trans hl49).trans hl81).trans hl112)) hr253).mono ?_
                                      rintro e W' ⟨rfl, X⟩
                                      refine ⟨_, rfl, here (At.mk (F.put (by decide) _) (E.call0 X)) ?_⟩
                                      clear X E F W W' a
                                      refine d_k hK (Imm.rfl' _) (pick_mem (is := [0, 1, 2, 3, 4, 5, 6]) ⟨rfl, rfl, rfl, rfl, rfl, rfl, rfl, trivial⟩) ?_
                                      clear hK K
                                      refine d_one 48 (bits 57 562949953421311) rfl (by kernel_rfl) (by decide) (.on rfl rfl rfl rfl) (fun K hK => ?_)
                                      obtain ⟨r255, hr255, H⟩ := Option.bind_eq_some_iff.1 H
                                      refine w_call (args := [.agg #[.int .i64 a0.Kind, .int .i64 a0.Count, .slice A1 a0.Kids.length c2]]) (caps := []) has27 rfl rfl rfl rfl (by decide) (fun a W F E => ?_)
                                      refine (swageref11_Text.calls k_j3 a0 A1 c2 J111 W r255 (hr3.mono R_Type.mono ((((((hl14.trans hl28).trans hl37).trans hl46).trans hl49).trans hl81).trans hl112)) (by first | assumption | simp | omega) (E.st.sub (List.nil_sublist _)) hr255).mono ?_
                                      rintro e W' ⟨rfl, X⟩
                                      refine ⟨_, rfl, here (At.mk (F.put (by decide) _) (E.call0 X)) ?_⟩
                                      clear X E F W W' a
                                      refine d_k hK (Imm.rfl' _) (pick_mem (is := [0, 1, 2, 3, 4, 5, 6]) ⟨rfl, rfl, rfl, rfl, rfl, rfl, rfl, trivial⟩) ?_
                                      clear hK K
                                      refine d_pure 49 (bits 57 1125899906842623) (y_bin rfl rfl rfl bi_seq) rfl rfl (by decide) (by kernel_rfl) (fun _ _ _ h => h) (.on rfl rfl rfl rfl) ?_
                                      refine d_many (k' := 4503599627370495) [(50, 2251799813685247), (51, 4503599627370495)] 5 rfl (by kernel_rfl) (fun _ _ _ _ _ h => h) ?_
                                      by_cases c257 : r253 = r255
                                      · rw [if_pos c257] at H
                                        refine s_lit (t := 136) rfl (decide_eq_true c257) ?_
                                        refine d_take 52 (bits 57 9007199254740991) (y_loadA (cs := [.int .i64 a0.Kind, .int .i64 a0.Count, .slice A1 a0.Kids.length c2]) ia24 rfl rfl rfl (cls_own (i := 6) rfl rfl)) rfl rfl (by decide) (by kernel_rfl) (fun _ _ _ h => h) (.on rfl rfl rfl rfl) (Imm.rfl' _) (pick_mem (is := [0, 1, 2, 3, 4, 5, 6]) ⟨rfl, rfl, rfl, rfl, rfl, rfl, rfl, trivial⟩) ?_
                                        refine d_take 53 (bits 57 18014398509481983) (y_loadA (cs := [.int .i64 r22.Kind, .int .i64 r22.Count, .slice A23 r22.Kids.length c24]) ia24 rfl rfl rfl (cls_own (i := 4) rfl rfl)) rfl rfl (by decide) (by kernel_rfl) (fun _ _ _ h => h) (.on rfl rfl rfl rfl) (Imm.rfl' _) (pick_mem (is := [0, 1, 2, 3, 4, 5, 6]) ⟨rfl, rfl, rfl, rfl, rfl, rfl, rfl, trivial⟩) ?_
                                        refine d_one 54 (bits 57 36028797018963967) rfl (by kernel_rfl) (by decide) (.on rfl rfl rfl rfl) (fun K hK => ?_)
                                        obtain ⟨r258, hr258, H⟩ := Option.bind_eq_some_iff.1 H
                                        refine w_call (args := [.agg #[.int .i64 a0.Kind, .int .i64 a0.Count, .slice A1 a0.Kids.length c2], .agg #[.int .i64 r22.Kind, .int .i64 r22.Count, .slice A23 r22.Kids.length c24]]) (caps := []) has16 rfl rfl rfl rfl (by decide) (fun a W F E => ?_)
                                        refine (swageref11_Same.calls k_j3 a0 r22 A1 c2 A23 c24 J111 W r258 (hr3.mono R_Type.mono ((((((hl14.trans hl28).trans hl37).trans hl46).trans hl49).trans hl81).trans hl112)) (by first | assumption | simp | omega) (hr25.mono R_Type.mono ((((hl37.trans hl46).trans hl49).trans hl81).trans hl112)) (by first | assumption | simp | omega) (E.st.sub (List.nil_sublist _)) hr258).mono ?_
                                        rintro e W' ⟨rfl, X⟩
                                        refine ⟨_, rfl, here (At.mk (F.put (by decide) _) (E.call0 X)) ?_⟩
                                        clear X E F W W' a
                                        refine d_k hK (Imm.rfl' _) (pick_mem (is := [0, 1, 2, 3, 4, 5, 6]) ⟨rfl, rfl, rfl, rfl, rfl, rfl, rfl, trivial⟩) ?_
                                        clear hK K
                                        refine d_many (k' := 144115188075855871) [(55, 72057594037927935), (56, 144115188075855871)] 0 rfl (by kernel_rfl) (fun _ _ _ _ _ h => h) ?_
                                        refine d_done (by kernel_rfl) ?_
                                        refine x_next ?_
                                        refine c_ret ?_
                                        obtain rfl := Option.some.inj H
                                        exact g_ret [.bool r258] (congrArg Array.toList Tryd.results3) (.cons (.t rfl) .nil) (fun W E => ⟨rfl, (E.drop (List.nil_sublist _)).back⟩)
                                      · rw [if_neg c257] at H
                                        refine s_lit (t := 136) rfl (decide_eq_false c257) ?_
                                        refine d_off 52 (bits 57 9007199254740991) rfl rfl (by decide) (by kernel_rfl) (fun _ _ _ h => h) (.off rfl rfl rfl rfl rfl) ?_
                                        refine d_many (k' := 144115188075855871) [(53, 18014398509481983), (54, 36028797018963967), (55, 72057594037927935), (56, 144115188075855871)] 0 rfl (by kernel_rfl) (fun _ _ _ _ _ h => h) ?_
                                        refine d_done (by kernel_rfl) ?_
                                        refine x_next ?_
                                        refine c_ret ?_
                                        obtain rfl := Option.some.inj H
                                        exact g_ret [.bool false] (congrArg Array.toList Tryd.results3) (.cons (.t rfl) .nil) (fun W E => ⟨rfl, (E.drop (List.nil_sublist _)).back⟩)
                        · rw [if_neg c158] at H
                          refine s_lit (t := 108) rfl (decide_eq_false c158) ?_
                          refine d_off 24 (bits 57 33554431) rfl rfl (by decide) (by kernel_rfl) (fun _ _ _ h => h) (.off rfl rfl rfl rfl rfl) ?_
                          refine d_many (k' := 144115188075855871) [(25, 67108863), (26, 134217727), (27, 268435455), (28, 536870911), (29, 1073741823), (30, 2147483647), (32, 6442450943), (33, 15032385535), (31, 17179869183), (34, 34359738367), (35, 68719476735), (36, 137438953471), (37, 274877906943), (38, 549755813887), (40, 1649267441663), (39, 2199023255551), (41, 4398046511103), (42, 8796093022207), (43, 17592186044415), (44, 35184372088831), (45, 70368744177663), (47, 211106232532991), (46, 281474976710655), (48, 562949953421311), (49, 1125899906842623), (50, 2251799813685247), (51, 4503599627370495), (52, 9007199254740991), (53, 18014398509481983), (54, 36028797018963967), (55, 72057594037927935), (56, 144115188075855871)] 0 rfl (by kernel_rfl) (fun _ _ _ _ _ h => h) ?_
                          refine d_done (by kernel_rfl) ?_
                          refine x_next ?_
                          refine c_ret ?_
                          obtain rfl := Option.some.inj H
                          exact g_ret [.bool false] (congrArg Array.toList Tryd.results3) (.cons (.t rfl) .nil) (fun W E => ⟨rfl, (E.drop (List.nil_sublist _)).back⟩)
                      · rw [if_neg c157] at H
                        refine s_lit (t := 103) rfl (decide_eq_false c157) ?_
                        refine d_off 19 (bits 57 1048575) rfl rfl (by decide) (by kernel_rfl) (fun _ _ _ h => h) (.off rfl rfl rfl rfl rfl) ?_
                        refine d_many (k' := 144115188075855871) [(20, 2097151), (21, 4194303), (22, 8388607), (23, 16777215), (24, 33554431), (25, 67108863), (26, 134217727), (27, 268435455), (28, 536870911), (29, 1073741823), (30, 2147483647), (32, 6442450943), (33, 15032385535), (31, 17179869183), (34, 34359738367), (35, 68719476735), (36, 137438953471), (37, 274877906943), (38, 549755813887), (40, 1649267441663), (39, 2199023255551), (41, 4398046511103), (42, 8796093022207), (43, 17592186044415), (44, 35184372088831), (45, 70368744177663), (47, 211106232532991), (46, 281474976710655), (48, 562949953421311), (49, 1125899906842623), (50, 2251799813685247), (51, 4503599627370495), (52, 9007199254740991), (53, 18014398509481983), (54, 36028797018963967), (55, 72057594037927935), (56, 144115188075855871)] 0 rfl (by kernel_rfl) (fun _ _ _ _ _ h => h) ?_
                        refine d_done (by kernel_rfl) ?_
                        refine x_next ?_
                        refine c_ret ?_
                        obtain rfl := Option.some.inj H
                        exact g_ret [.bool false] (congrArg Array.toList Tryd.results3) (.cons (.t rfl) .nil) (fun W E => ⟨rfl, (E.drop (List.nil_sublist _)).back⟩)
                    · rw [if_neg c152] at H
                      refine s_lit (t := 96) rfl (beq_of c151 (Bool.eq_false_iff.2 c152)) ?_
                      refine d_off 12 (bits 57 8191) rfl rfl (by decide) (by kernel_rfl) (fun _ _ _ h => h) (.off rfl rfl rfl rfl rfl) ?_
                      refine d_many (k' := 144115188075855871) [(14, 24575), (13, 32767), (15, 65535), (16, 131071), (17, 262143), (18, 524287), (19, 1048575), (20, 2097151), (21, 4194303), (22, 8388607), (23, 16777215), (24, 33554431), (25, 67108863), (26, 134217727), (27, 268435455), (28, 536870911), (29, 1073741823), (30, 2147483647), (32, 6442450943), (33, 15032385535), (31, 17179869183), (34, 34359738367), (35, 68719476735), (36, 137438953471), (37, 274877906943), (38, 549755813887), (40, 1649267441663), (39, 2199023255551), (41, 4398046511103), (42, 8796093022207), (43, 17592186044415), (44, 35184372088831), (45, 70368744177663), (47, 211106232532991), (46, 281474976710655), (48, 562949953421311), (49, 1125899906842623), (50, 2251799813685247), (51, 4503599627370495), (52, 9007199254740991), (53, 18014398509481983), (54, 36028797018963967), (55, 72057594037927935), (56, 144115188075855871)] 0 rfl (by kernel_rfl) (fun _ _ _ _ _ h => h) ?_
                      refine d_done (by kernel_rfl) ?_
                      refine x_next ?_
                      refine c_ret ?_
                      obtain rfl := Option.some.inj H
                      exact g_ret [.bool false] (congrArg Array.toList Tryd.results3) (.cons (.t rfl) .nil) (fun W E => ⟨rfl, (E.drop (List.nil_sublist _)).back⟩)
                  · rw [if_neg c151] at H
                    by_cases c260 : r149 = true
                    · rw [if_pos c260] at H
                      refine s_lit (t := 96) rfl (beq_of (Bool.eq_false_iff.2 c151) c260) ?_
                      refine d_off 12 (bits 57 8191) rfl rfl (by decide) (by kernel_rfl) (fun _ _ _ h => h) (.off rfl rfl rfl rfl rfl) ?_
                      refine d_many (k' := 144115188075855871) [(14, 24575), (13, 32767), (15, 65535), (16, 131071), (17, 262143), (18, 524287), (19, 1048575), (20, 2097151), (21, 4194303), (22, 8388607), (23, 16777215), (24, 33554431), (25, 67108863), (26, 134217727), (27, 268435455), (28, 536870911), (29, 1073741823), (30, 2147483647), (32, 6442450943), (33, 15032385535), (31, 17179869183), (34, 34359738367), (35, 68719476735), (36, 137438953471), (37, 274877906943), (38, 549755813887), (40, 1649267441663), (39, 2199023255551), (41, 4398046511103), (42, 8796093022207), (43, 17592186044415), (44, 35184372088831), (45, 70368744177663), (47, 211106232532991), (46, 281474976710655), (48, 562949953421311), (49, 1125899906842623), (50, 2251799813685247), (51, 4503599627370495), (52, 9007199254740991), (53, 18014398509481983), (54, 36028797018963967), (55, 72057594037927935), (56, 144115188075855871)] 0 rfl (by kernel_rfl) (fun _ _ _ _ _ h => h) ?_
                      refine d_done (by kernel_rfl) ?_
                      refine x_next ?_
                      refine c_ret ?_
                      obtain rfl := Option.some.inj H
                      exact g_ret [.bool false] (congrArg Array.toList Tryd.results3) (.cons (.t rfl) .nil) (fun W E => ⟨rfl, (E.drop (List.nil_sublist _)).back⟩)
                    · rw [if_neg c260] at H
                      refine s_lit (t := 96) rfl (beq_of (Bool.eq_false_iff.2 c151) (Bool.eq_false_iff.2 c260)) ?_
                      refine d_take 12 (bits 57 8191) (y_loadA (cs := [.int .i64 a0.Kind, .int .i64 a0.Count, .slice A1 a0.Kids.length c2]) ia24 rfl rfl rfl (cls_own (i := 6) rfl rfl)) rfl rfl (by decide) (by kernel_rfl) (fun _ _ _ h => h) (.on rfl rfl rfl rfl) (Imm.rfl' _) (pick_mem (is := [0, 1, 2, 3, 4, 5, 6]) ⟨rfl, rfl, rfl, rfl, rfl, rfl, rfl, trivial⟩) ?_
                      refine d_take 14 (bits 57 24575) (y_loadA (cs := [.int .i64 a0.Kind, .int .i64 a0.Count, .slice A1 a0.Kids.length c2]) ia24 rfl rfl rfl (cls_own (i := 6) rfl rfl)) rfl rfl (by decide) (by kernel_rfl) (fun _ _ _ h => h) (.on rfl rfl rfl rfl) (Imm.rfl' _) (pick_mem (is := [0, 1, 2, 3, 4, 5, 6]) ⟨rfl, rfl, rfl, rfl, rfl, rfl, rfl, trivial⟩) ?_
                      refine d_one 13 (bits 57 32767) rfl (by kernel_rfl) (by decide) (.on rfl rfl rfl rfl) (fun K hK => ?_)
                      obtain ⟨r261, hr261, H⟩ := Option.bind_eq_some_iff.1 H
                      refine w_call (args := [.agg #[.int .i64 a0.Kind, .int .i64 a0.Count, .slice A1 a0.Kids.length c2]]) (caps := []) has21 rfl rfl rfl rfl (by decide) (fun a W F E => ?_)
                      refine (types_Size.calls k_j3 a0 A1 c2 J111 W r261 (hr3.mono R_Type.mono ((((((hl14.trans hl28).trans hl37).trans hl46).trans hl49).trans hl81).trans hl112)) (by first | assumption | simp | omega) (E.st.sub (List.nil_sublist _)) hr261).mono ?_
                      rintro e W' ⟨rfl, X⟩
                      refine ⟨_, rfl, here (At.mk (F.put (by decide) _) (E.call0 X)) ?_⟩
                      clear X E F W W' a
                      refine d_k hK (Imm.rfl' _) (pick_mem (is := [0, 1, 2, 3, 4, 5, 6]) ⟨rfl, rfl, rfl, rfl, rfl, rfl, rfl, trivial⟩) ?_
                      clear hK K
                      refine d_one 15 (bits 57 65535) rfl (by kernel_rfl) (by decide) (.on rfl rfl rfl rfl) (fun K hK => ?_)
                      obtain ⟨r263, hr263, H⟩ := Option.bind_eq_some_iff.1 H
                      refine w_call (args := [.agg #[.int .i64 a0.Kind, .int .i64 a0.Count, .slice A1 a0.Kids.length c2]]) (caps := []) has22 rfl rfl rfl rfl (by decide) (fun a W F E => ?_)
                      refine (swageref11_Size.calls k_j3 a0 A1 c2 J111 W r263 (hr3.mono R_Type.mono ((((((hl14.trans hl28).trans hl37).trans hl46).trans hl49).trans hl81).trans hl112)) (by first | assumption | simp | omega) (E.st.sub (List.nil_sublist _)) hr263).mono ?_
                      rintro e W' ⟨rfl, X⟩
                      refine ⟨_, rfl, here (At.mk (F.put (by decide) _) (E.call0 X)) ?_⟩
                      clear X E F W W' a
                      refine d_k hK (Imm.rfl' _) (pick_mem (is := [0, 1, 2, 3, 4, 5, 6]) ⟨rfl, rfl, rfl, rfl, rfl, rfl, rfl, trivial⟩) ?_
                      clear hK K
                      refine d_pure 16 (bits 57 131071) (y_bin rfl rfl rfl bi_eq) rfl rfl (by decide) (by kernel_rfl) (fun _ _ _ h => h) (.on rfl rfl rfl rfl) ?_
                      refine d_many (k' := 524287) [(17, 262143), (18, 524287)] 38 rfl (by kernel_rfl) (fun _ _ _ _ _ h => h) ?_
                      by_cases c265 : r261 = r263
                      · rw [if_pos c265] at H
                        refine s_lit (t := 103) rfl (decide_eq_true c265) ?_
                        refine d_pure 19 (bits 57 1048575) (y_move rfl rfl) rfl rfl (by decide) (by kernel_rfl) (fun _ _ _ h => h) (.on rfl rfl rfl rfl) ?_
                        refine d_pure 20 (bits 57 2097151) (y_move rfl rfl) rfl rfl (by decide) (by kernel_rfl) (fun _ _ _ h => h) (.on rfl rfl rfl rfl) ?_
                        refine d_pure 21 (bits 57 4194303) (y_bin rfl rfl rfl bi_eq) rfl rfl (by decide) (by kernel_rfl) (fun _ _ _ h => h) (.on rfl rfl rfl rfl) ?_
                        refine d_many (k' := 16777215) [(22, 8388607), (23, 16777215)] 33 rfl (by kernel_rfl) (fun _ _ _ _ _ h => h) ?_
                        by_cases c266 : r141.1 = r143.1
                        · rw [if_pos c266] at H
                          refine s_lit (t := 108) rfl (decide_eq_true c266) ?_
                          refine d_pure 24 (bits 57 33554431) (y_move rfl rfl) rfl rfl (by decide) (by kernel_rfl) (fun _ _ _ h => h) (.on rfl rfl rfl rfl) ?_
                          refine d_pure 25 (bits 57 67108863) (y_move rfl rfl) rfl rfl (by decide) (by kernel_rfl) (fun _ _ _ h => h) (.on rfl rfl rfl rfl) ?_
                          refine d_pure 26 (bits 57 134217727) (y_bin rfl rfl rfl (bi_beq Tryd.underlying4)) rfl rfl (by decide) (by kernel_rfl) (fun _ _ _ h => h) (.on rfl rfl rfl rfl) ?_
                          refine d_many (k' := 536870911) [(27, 268435455), (28, 536870911)] 28 rfl (by kernel_rfl) (fun _ _ _ _ _ h => h) ?_
                          by_cases c267 : r141.2 = true
                          · rw [if_pos c267] at H
                            by_cases c268 : r143.2 = true
                            · rw [if_pos c268] at H
                              refine s_lit (t := 113) rfl (beq_of c267 c268) ?_
                              refine d_take 29 (bits 57 1073741823) (y_loadA (cs := [.int .i64 a0.Kind, .int .i64 a0.Count, .slice A1 a0.Kids.length c2]) ia24 rfl rfl rfl (cls_own (i := 6) rfl rfl)) rfl rfl (by decide) (by kernel_rfl) (fun _ _ _ h => h) (.on rfl rfl rfl rfl) (Imm.rfl' _) (pick_mem (is := [0, 1, 2, 3, 4, 5, 6]) ⟨rfl, rfl, rfl, rfl, rfl, rfl, rfl, trivial⟩) ?_
                              refine d_take 30 (bits 57 2147483647) (y_loadA (cs := [.int .i64 a1.Kind, .int .i64 a1.Count, .slice A5 a1.Kids.length c6]) ia24 rfl rfl rfl (cls_own (i := 5) rfl rfl)) rfl rfl (by decide) (by kernel_rfl) (fun _ _ _ h => h) (.on rfl rfl rfl rfl) (Imm.rfl' _) (pick_mem (is := [0, 1, 2, 3, 4, 5, 6]) ⟨rfl, rfl, rfl, rfl, rfl, rfl, rfl, trivial⟩) ?_
                              refine d_take 32 (bits 57 6442450943) (y_loadA (cs := [.int .i64 a0.Kind, .int .i64 a0.Count, .slice A1 a0.Kids.length c2]) ia24 rfl rfl rfl (cls_own (i := 6) rfl rfl)) rfl rfl (by decide) (by kernel_rfl) (fun _ _ _ h => h) (.on rfl rfl rfl rfl) (Imm.rfl' _) (pick_mem (is := [0, 1, 2, 3, 4, 5, 6]) ⟨rfl, rfl, rfl, rfl, rfl, rfl, rfl, trivial⟩) ?_
                              refine d_take 33 (bits 57 15032385535) (y_loadA (cs := [.int .i64 a1.Kind, .int .i64 a1.Count, .slice A5 a1.Kids.length c6]) ia24 rfl rfl rfl (cls_own (i := 5) rfl rfl)) rfl rfl (by decide) (by kernel_rfl) (fun _ _ _ h => h) (.on rfl rfl rfl rfl) (Imm.rfl' _) (pick_mem (is := [0, 1, 2, 3, 4, 5, 6]) ⟨rfl, rfl, rfl, rfl, rfl, rfl, rfl, trivial⟩) ?_
                              refine d_one 31 (bits 57 17179869183) rfl (by kernel_rfl) (by decide) (.on rfl rfl rfl rfl) (fun K hK => ?_)
                              obtain ⟨r269, hr269, H⟩ := Option.bind_eq_some_iff.1 H
                              refine w_call (args := [.agg #[.int .i64 a0.Kind, .int .i64 a0.Count, .slice A1 a0.Kids.length c2], .agg #[.int .i64 a1.Kind, .int .i64 a1.Count, .slice A5 a1.Kids.length c6]]) (caps := []) has23 rfl rfl rfl rfl (by decide) (fun a W F E => ?_)
                              refine (types_Same.calls k_j3 a0 a1 A1 c2 A5 c6 J111 W r269 (hr3.mono R_Type.mono ((((((hl14.trans hl28).trans hl37).trans hl46).trans hl49).trans hl81).trans hl112)) (by first | assumption | simp | omega) (hr7.mono R_Type.mono ((((((hl14.trans hl28).trans hl37).trans hl46).trans hl49).trans hl81).trans hl112)) (by first | assumption | simp | omega) (E.st.sub (List.nil_sublist _)) hr269).mono ?_
                              rintro e W' ⟨rfl, X⟩
                              refine ⟨_, rfl, here (At.mk (F.put (by decide) _) (E.call0 X)) ?_⟩
                              clear X E F W W' a
                              refine d_k hK (Imm.rfl' _) (pick_mem (is := [0, 1, 2, 3, 4, 5, 6]) ⟨rfl, rfl, rfl, rfl, rfl, rfl, rfl, trivial⟩) ?_
                              clear hK K
                              refine d_one 34 (bits 57 34359738367) rfl (by kernel_rfl) (by decide) (.on rfl rfl rfl rfl) (fun K hK => ?_)
                              obtain ⟨r271, hr271, H⟩ := Option.bind_eq_some_iff.1 H
                              refine w_call (args := [.agg #[.int .i64 a0.Kind, .int .i64 a0.Count, .slice A1 a0.Kids.length c2], .agg #[.int .i64 a1.Kind, .int .i64 a1.Count, .slice A5 a1.Kids.length c6]]) (caps := []) has16 rfl rfl rfl rfl (by decide) (fun a W F E => ?_)
                              refine (swageref11_Same.calls k_j3 a0 a1 A1 c2 A5 c6 J111 W r271 (hr3.mono R_Type.mono ((((((hl14.trans hl28).trans hl37).trans hl46).trans hl49).trans hl81).trans hl112)) (by first | assumption | simp | omega) (hr7.mono R_Type.mono ((((((hl14.trans hl28).trans hl37).trans hl46).trans hl49).trans hl81).trans hl112)) (by first | assumption | simp | omega) (E.st.sub (List.nil_sublist _)) hr271).mono ?_
                              rintro e W' ⟨rfl, X⟩
                              refine ⟨_, rfl, here (At.mk (F.put (by decide) _) (E.call0 X)) ?_⟩
                              clear X E F W W' a
                              refine d_k hK (Imm.rfl' _) (pick_mem (is := [0, 1, 2, 3, 4, 5, 6]) ⟨rfl, rfl, rfl, rfl, rfl, rfl, rfl, trivial⟩) ?_
                              clear hK K
                              refine d_pure 35 (bits 57 68719476735) (y_bin rfl rfl rfl (bi_beq Tryd.underlying4)) rfl rfl (by decide) (by kernel_rfl) (fun _ _ _ h => h) (.on rfl rfl rfl rfl) ?_
                              refine d_many (k' := 274877906943) [(36, 137438953471), (37, 274877906943)] 19 rfl (by kernel_rfl) (fun _ _ _ _ _ h => h) ?_
                              by_cases c273 : r269 = true
                              · rw [if_pos c273] at H
                                by_cases c274 : r271 = true
                                · rw [if_pos c274] at H
                                  refine s_lit (t := 122) rfl (beq_of c273 c274) ?_
                                  refine d_take 38 (bits 57 549755813887) (y_loadA (cs := [.int .i64 a0.Kind, .int .i64 a0.Count, .slice A1 a0.Kids.length c2]) ia24 rfl rfl rfl (cls_own (i := 6) rfl rfl)) rfl rfl (by decide) (by kernel_rfl) (fun _ _ _ h => h) (.on rfl rfl rfl rfl) (Imm.rfl' _) (pick_mem (is := [0, 1, 2, 3, 4, 5, 6]) ⟨rfl, rfl, rfl, rfl, rfl, rfl, rfl, trivial⟩) ?_
                                  refine d_take 40 (bits 57 1649267441663) (y_loadA (cs := [.int .i64 a0.Kind, .int .i64 a0.Count, .slice A1 a0.Kids.length c2]) ia24 rfl rfl rfl (cls_own (i := 6) rfl rfl)) rfl rfl (by decide) (by kernel_rfl) (fun _ _ _ h => h) (.on rfl rfl rfl rfl) (Imm.rfl' _) (pick_mem (is := [0, 1, 2, 3, 4, 5, 6]) ⟨rfl, rfl, rfl, rfl, rfl, rfl, rfl, trivial⟩) ?_
                                  refine d_one 39 (bits 57 2199023255551) rfl (by kernel_rfl) (by decide) (.on rfl rfl rfl rfl) (fun K hK => ?_)
                                  obtain ⟨r275, hr275, H⟩ := Option.bind_eq_some_iff.1 H
                                  refine w_call (args := [.agg #[.int .i64 a0.Kind, .int .i64 a0.Count, .slice A1 a0.Kids.length c2]]) (caps := []) has24 rfl rfl rfl rfl (by decide) (fun a W F E => ?_)
                                  refine (types_Scalar.calls k_j3 a0 A1 c2 J111 W r275 (hr3.mono R_Type.mono ((((((hl14.trans hl28).trans hl37).trans hl46).trans hl49).trans hl81).trans hl112)) (by first | assumption | simp | omega) (E.st.sub (List.nil_sublist _)) hr275).mono ?_
                                  rintro e W' ⟨rfl, X⟩
                                  refine ⟨_, rfl, here (At.mk (F.put (by decide) _) (E.call0 X)) ?_⟩
                                  clear X E F W W' a
                                  refine d_k hK (Imm.rfl' _) (pick_mem (is := [0, 1, 2, 3, 4, 5, 6]) ⟨rfl, rfl, rfl, rfl, rfl, rfl, rfl, trivial⟩) ?_
                                  clear hK K
                                  refine d_one 41 (bits 57 4398046511103) rfl (by kernel_rfl) (by decide) (.on rfl rfl rfl rfl) (fun K hK => ?_)
                                  obtain ⟨r277, hr277, H⟩ := Option.bind_eq_some_iff.1 H
                                  refine w_call (args := [.agg #[.int .i64 a0.Kind, .int .i64 a0.Count, .slice A1 a0.Kids.length c2]]) (caps := []) has25 rfl rfl rfl rfl (by decide) (fun a W F E => ?_)
                                  refine (swageref11_Scalar.calls k_j3 a0 A1 c2 J111 W r277 (hr3.mono R_Type.mono ((((((hl14.trans hl28).trans hl37).trans hl46).trans hl49).trans hl81).trans hl112)) (by first | assumption | simp | omega) (E.st.sub (List.nil_sublist _)) hr277).mono ?_
                                  rintro e W' ⟨rfl, X⟩
                                  refine ⟨_, rfl, here (At.mk (F.put (by decide) _) (E.call0 X)) ?_⟩
                                  clear X E F W W' a
                                  refine d_k hK (Imm.rfl' _) (pick_mem (is := [0, 1, 2, 3, 4, 5, 6]) ⟨rfl, rfl, rfl, rfl, rfl, rfl, rfl, trivial⟩) ?_
                                  clear hK K
                                  refine d_pure 42 (bits 57 8796093022207) (y_bin rfl rfl rfl (bi_beq Tryd.underlying4)) rfl rfl (by decide) (by kernel_rfl) (fun _ _ _ h => h) (.on rfl rfl rfl rfl) ?_
                                  refine d_many (k' := 35184372088831) [(43, 17592186044415), (44, 35184372088831)] 12 rfl (by kernel_rfl) (fun _ _ _ _ _ h => h) ?_
                                  by_cases c279 : r275 = true
                                  · rw [if_pos c279] at H
                                    by_cases c280 : r277 = true
                                    · rw [if_pos c280] at H
                                      refine s_lit (t := 129) rfl (beq_of c279 c280) ?_
                                      refine d_take 45 (bits 57 70368744177663) (y_loadA (cs := [.int .i64 a0.Kind, .int .i64 a0.Count, .slice A1 a0.Kids.length c2]) ia24 rfl rfl rfl (cls_own (i := 6) rfl rfl)) rfl rfl (by decide) (by kernel_rfl) (fun _ _ _ h => h) (.on rfl rfl rfl rfl) (Imm.rfl' _) (pick_mem (is := [0, 1, 2, 3, 4, 5, 6]) ⟨rfl, rfl, rfl, rfl, rfl, rfl, rfl, trivial⟩) ?_
                                      refine d_take 47 (bits 57 211106232532991) (y_loadA (cs := [.int .i64 a0.Kind, .int .i64 a0.Count, .slice A1 a0.Kids.length c2]) ia24 rfl rfl rfl (cls_own (i := 6) rfl rfl)) rfl rfl (by decide) (by kernel_rfl) (fun _ _ _ h => h) (.on rfl rfl rfl rfl) (Imm.rfl' _) (pick_mem (is := [0, 1, 2, 3, 4, 5, 6]) ⟨rfl, rfl, rfl, rfl, rfl, rfl, rfl, trivial⟩) ?_
                                      refine d_one 46 (bits 57 281474976710655) rfl (by kernel_rfl) (by decide) (.on rfl rfl rfl rfl) (fun K hK => ?_)
                                      obtain ⟨r281, hr281, H⟩ := Option.bind_eq_some_iff.1 H
                                      refine w_call (args := [.agg #[.int .i64 a0.Kind, .int .i64 a0.Count, .slice A1 a0.Kids.length c2]]) (caps := []) has26 rfl rfl rfl rfl (by decide) (fun a W F E => ?_)
                                      refine (types_Text.calls k_j3 a0 A1 c2 J111 W r281 (hr3.mono R_Type.mono ((((((hl14.trans hl28).trans hl37).trans hl46).trans hl49).trans hl81).trans hl112)) (by first | assumption | simp | omega) (E.st.sub (List.nil_sublist _)) (hT.mono ((((((hl14.trans hl28).trans hl37).trans hl46).trans hl49).trans hl81).trans hl112)) hr281).mono ?_
                                      rintro e W' ⟨rfl, X⟩
                                      refine ⟨_, rfl, here (At.mk (F.put (by decide) _) (E.call0 X)) ?_⟩
                                      clear X E F W W' a
                                      refine d_k hK (Imm.rfl' _) (pick_mem (is := [0, 1, 2, 3, 4, 5, 6]) ⟨rfl, rfl, rfl, rfl, rfl, rfl, rfl, trivial⟩) ?_
                                      clear hK K
                                      refine d_one 48 (bits 57 562949953421311) rfl (by kernel_rfl) (by decide) (.on rfl rfl rfl rfl) (fun K hK => ?_)
                                      obtain ⟨r283, hr283, H⟩ := Option.bind_eq_some_iff.1 H
                                      refine w_call (args := [.agg #[.int .i64 a0.Kind, .int .i64 a0.Count, .slice A1 a0.Kids.length c2]]) (caps := []) has27 rfl rfl rfl rfl (by decide) (fun a W F E => ?_)
                                      refine (swageref11_Text.calls k_j3 a0 A1 c2 J111 W r283 (hr3.mono R_Type.mono ((((((hl14.trans hl28).trans hl37).trans hl46).trans hl49).trans hl81).trans hl112)) (by first | assumption | simp | omega) (E.st.sub (List.nil_sublist _)) hr283).mono ?_
                                      rintro e W' ⟨rfl, X⟩
                                      refine ⟨_, rfl, here (At.mk (F.put (by decide) _) (E.call0 X)) ?_⟩
                                      clear X E F W W' a
                                      refine d_k hK (Imm.rfl' _) (pick_mem (is := [0, 1, 2, 3, 4, 5, 6]) ⟨rfl, rfl, rfl, rfl, rfl, rfl, rfl, trivial⟩) ?_
                                      clear hK K
                                      refine d_pure 49 (bits 57 1125899906842623) (y_bin rfl rfl rfl bi_seq) rfl rfl (by decide) (by kernel_rfl) (fun _ _ _ h => h) (.on rfl rfl rfl rfl) ?_
                                      refine d_many (k' := 4503599627370495) [(50, 2251799813685247), (51, 4503599627370495)] 5 rfl (by kernel_rfl) (fun _ _ _ _ _ h => h) ?_
                                      by_cases c285 : r281 = r283
                                      · rw [if_pos c285] at H
                                        refine s_lit (t := 136) rfl (decide_eq_true c285) ?_
                                        refine d_take 52 (bits 57 9007199254740991) (y_loadA (cs := [.int .i64 a0.Kind, .int .i64 a0.Count, .slice A1 a0.Kids.length c2]) ia24 rfl rfl rfl (cls_own (i := 6) rfl rfl)) rfl rfl (by decide) (by kernel_rfl) (fun _ _ _ h => h) (.on rfl rfl rfl rfl) (Imm.rfl' _) (pick_mem (is := [0, 1, 2, 3, 4, 5, 6]) ⟨rfl, rfl, rfl, rfl, rfl, rfl, rfl, trivial⟩) ?_
                                        refine d_take 53 (bits 57 18014398509481983) (y_loadA (cs := [.int .i64 r22.Kind, .int .i64 r22.Count, .slice A23 r22.Kids.length c24]) ia24 rfl rfl rfl (cls_own (i := 4) rfl rfl)) rfl rfl (by decide) (by kernel_rfl) (fun _ _ _ h => h) (.on rfl rfl rfl rfl) (Imm.rfl' _) (pick_mem (is := [0, 1, 2, 3, 4, 5, 6]) ⟨rfl, rfl, rfl, rfl, rfl, rfl, rfl, trivial⟩) ?_
                                        refine d_one 54 (bits 57 36028797018963967) rfl (by kernel_rfl) (by decide) (.on rfl rfl rfl rfl) (fun K hK => ?_)
                                        obtain ⟨r286, hr286, H⟩ := Option.bind_eq_some_iff.1 H
                                        refine w_call (args := [.agg #[.int .i64 a0.Kind, .int .i64 a0.Count, .slice A1 a0.Kids.length c2], .agg #[.int .i64 r22.Kind, .int .i64 r22.Count, .slice A23 r22.Kids.length c24]]) (caps := []) has16 rfl rfl rfl rfl (by decide) (fun a W F E => ?_)
                                        refine (swageref11_Same.calls k_j3 a0 r22 A1 c2 A23 c24 J111 W r286 (hr3.mono R_Type.mono ((((((hl14.trans hl28).trans hl37).trans hl46).trans hl49).trans hl81).trans hl112)) (by first | assumption | simp | omega) (hr25.mono R_Type.mono ((((hl37.trans hl46).trans hl49).trans hl81).trans hl112)) (by first | assumption | simp | omega) (E.st.sub (List.nil_sublist _)) hr286).mono ?_
                                        rintro e W' ⟨rfl, X⟩
                                        refine ⟨_, rfl, here (At.mk (F.put (by decide) _) (E.call0 X)) ?_⟩
                                        clear X E F W W' a
                                        refine d_k hK (Imm.rfl' _) (pick_mem (is := [0, 1, 2, 3, 4, 5, 6]) ⟨rfl, rfl, rfl, rfl, rfl, rfl, rfl, trivial⟩) ?_
                                        clear hK K
                                        refine d_many (k' := 144115188075855871) [(55, 72057594037927935), (56, 144115188075855871)] 0 rfl (by kernel_rfl) (fun _ _ _ _ _ h => h) ?_
                                        refine d_done (by kernel_rfl) ?_
                                        refine x_next ?_
                                        refine c_ret ?_
                                        obtain rfl := Option.some.inj H
                                        exact g_ret [.bool r286] (congrArg Array.toList Tryd.results3) (.cons (.t rfl) .nil) (fun W E => ⟨rfl, (E.drop (List.nil_sublist _)).back⟩)
                                      · rw [if_neg c285] at H
                                        refine s_lit (t := 136) rfl (decide_eq_false c285) ?_
                                        refine d_off 52 (bits 57 9007199254740991) rfl rfl (by decide) (by kernel_rfl) (fun _ _ _ h => h) (.off rfl rfl rfl rfl rfl) ?_
                                        refine d_many (k' := 144115188075855871) [(53, 18014398509481983), (54, 36028797018963967), (55, 72057594037927935), (56, 144115188075855871)] 0 rfl (by kernel_rfl) (fun _ _ _ _ _ h => h) ?_
                                        refine d_done (by kernel_rfl) ?_
                                        refine x_next ?_
                                        refine c_ret ?_
                                        obtain rfl := Option.some.inj H
                                        exact g_ret [.bool false] (congrArg Array.toList Tryd.results3) (.cons (.t rfl) .nil) (fun W E => ⟨rfl, (E.drop (List.nil_sublist _)).back⟩)
                                    · rw [if_neg c280] at H
                                      refine s_lit (t := 129) rfl (beq_of c279 (Bool.eq_false_iff.2 c280)) ?_
                                      refine d_off 45 (bits 57 70368744177663) rfl rfl (by decide) (by kernel_rfl) (fun _ _ _ h => h) (.off rfl rfl rfl rfl rfl) ?_
                                      refine d_many (k' := 144115188075855871) [(47, 211106232532991), (46, 281474976710655), (48, 562949953421311), (49, 1125899906842623), (50, 2251799813685247), (51, 4503599627370495), (52, 9007199254740991), (53, 18014398509481983), (54, 36028797018963967), (55, 72057594037927935), (56, 144115188075855871)] 0 rfl (by kernel_rfl) (fun _ _ _ _ _ h => h) ?_
                                      refine d_done (by kernel_rfl) ?_
                                      refine x_next ?_
                                      refine c_ret ?_
                                      obtain rfl := Option.some.inj H
                                      exact g_ret [.bool false] (congrArg Array.toList Tryd.results3) (.cons (.t rfl) .nil) (fun W E => ⟨rfl, (E.drop (List.nil_sublist _)).back⟩)
                                  · rw [if_neg c279] at H
                                    by_cases c288 : r277 = true
                                    · rw [if_pos c288] at H
                                      refine s_lit (t := 129) rfl (beq_of (Bool.eq_false_iff.2 c279) c288) ?_
                                      refine d_off 45 (bits 57 70368744177663) rfl rfl (by decide) (by kernel_rfl) (fun _ _ _ h => h) (.off rfl rfl rfl rfl rfl) ?_
                                      refine d_many (k' := 144115188075855871) [(47, 211106232532991), (46, 281474976710655), (48, 562949953421311), (49, 1125899906842623), (50, 2251799813685247), (51, 4503599627370495), (52, 9007199254740991), (53, 18014398509481983), (54, 36028797018963967), (55, 72057594037927935), (56, 144115188075855871)] 0 rfl (by kernel_rfl) (fun _ _ _ _ _ h => h) ?_
                                      refine d_done (by kernel_rfl) ?_
                                      refine x_next ?_
                                      refine c_ret ?_
                                      obtain rfl := Option.some.inj H
                                      exact g_ret [.bool false] (congrArg Array.toList Tryd.results3) (.cons (.t rfl) .nil) (fun W E => ⟨rfl, (E.drop (List.nil_sublist _)).back⟩)
                                    · rw [if_neg c288] at H
                                      refine s_lit (t := 129) rfl (beq_of (Bool.eq_false_iff.2 c279) (Bool.eq_false_iff.2 c288)) ?_
                                      refine d_take 45 (bits 57 70368744177663) (y_loadA (cs := [.int .i64 a0.Kind, .int .i64 a0.Count, .slice A1 a0.Kids.length c2]) ia24 rfl rfl rfl (cls_own (i := 6) rfl rfl)) rfl rfl (by decide) (by kernel_rfl) (fun _ _ _ h => h) (.on rfl rfl rfl rfl) (Imm.rfl' _) (pick_mem (is := [0, 1, 2, 3, 4, 5, 6]) ⟨rfl, rfl, rfl, rfl, rfl, rfl, rfl, trivial⟩) ?_
                                      refine d_take 47 (bits 57 211106232532991) (y_loadA (cs := [.int .i64 a0.Kind, .int .i64 a0.Count, .slice A1 a0.Kids.length c2]) ia24 rfl rfl rfl (cls_own (i := 6) rfl rfl)) rfl rfl (by decide) (by kernel_rfl) (fun _ _ _ h => h) (.on rfl rfl rfl rfl) (Imm.rfl' _) (pick_mem (is := [0, 1, 2, 3, 4, 5, 6]) ⟨rfl, rfl, rfl, rfl, rfl, rfl, rfl, trivial⟩) ?_
                                      refine d_one 46 (bits 57 281474976710655) rfl (by kernel_rfl) (by decide) (.on rfl rfl rfl rfl) (fun K hK => ?_)
                                      obtain ⟨r289, hr289, H⟩ := Option.bind_eq_some_iff.1 H
                                      refine w_call (args := [.agg #[.int .i64 a0.Kind, .int .i64 a0.Count, .slice A1 a0.Kids.length c2]]) (caps := []) has26 rfl rfl rfl rfl (by decide) (fun a W F E => ?_)
                                      refine (types_Text.calls k_j3 a0 A1 c2 J111 W r289 (hr3.mono R_Type.mono ((((((hl14.trans hl28).trans hl37).trans hl46).trans hl49).trans hl81).trans hl112)) (by first | assumption | simp | omega) (E.st.sub (List.nil_sublist _)) (hT.mono ((((((hl14.trans hl28).trans hl37).trans hl46).trans hl49).trans hl81).trans hl112)) hr289).mono ?_
                                      rintro e W' ⟨rfl, X⟩
                                      refine ⟨_, rfl, here (At.mk (F.put (by decide) _) (E.call0 X)) ?_⟩
                                      clear X E F W W' a
                                      refine d_k hK (Imm.rfl' _) (pick_mem (is := [0, 1, 2, 3, 4, 5, 6]) ⟨rfl, rfl, rfl, rfl, rfl, rfl, rfl, trivial⟩) ?_
                                      clear hK K
                                      refine d_one 48 (bits 57 562949953421311) rfl (by kernel_rfl) (by decide) (.on rfl rfl rfl rfl) (fun K hK => ?_)
                                      obtain ⟨r291, hr291, H⟩ := Option.bind_eq_some_iff.1 H
                                      refine w_call (args := [.agg #[.int .i64 a0.Kind, .int .i64 a0.Count, .slice A1 a0.Kids.length c2]]) (caps := []) has27 rfl rfl rfl rfl (by decide) (fun a W F E => ?_)
                                      refine (swageref11_Text.calls k_j3 a0 A1 c2 J111 W r291 (hr3.mono R_Type.mono ((((((hl14.trans hl28).trans hl37).trans hl46).trans hl49).trans hl81).trans hl112)) (by first | assumption | simp | omega) (E.st.sub (List.nil_sublist _)) hr291).mono ?_
                                      rintro e W' ⟨rfl, X⟩
                                      refine ⟨_, rfl, here (At.mk (F.put (by decide) _) (E.call0 X)) ?_⟩
                                      clear X E F W W' a
                                      refine d_k hK (Imm.rfl' _) (pick_mem (is := [0, 1, 2, 3, 4, 5, 6]) ⟨rfl, rfl, rfl, rfl, rfl, rfl, rfl, trivial⟩) ?_
                                      clear hK K
                                      refine d_pure 49 (bits 57 1125899906842623) (y_bin rfl rfl rfl bi_seq) rfl rfl (by decide) (by kernel_rfl) (fun _ _ _ h => h) (.on rfl rfl rfl rfl) ?_
                                      refine d_many (k' := 4503599627370495) [(50, 2251799813685247), (51, 4503599627370495)] 5 rfl (by kernel_rfl) (fun _ _ _ _ _ h => h) ?_
                                      by_cases c293 : r289 = r291
                                      · rw [if_pos c293] at H
                                        refine s_lit (t := 136) rfl (decide_eq_true c293) ?_
                                        refine d_take 52 (bits 57 9007199254740991) (y_loadA (cs := [.int .i64 a0.Kind, .int .i64 a0.Count, .slice A1 a0.Kids.length c2]) ia24 rfl rfl rfl (cls_own (i := 6) rfl rfl)) rfl rfl (by decide) (by kernel_rfl) (fun _ _ _ h => h) (.on rfl rfl rfl rfl) (Imm.rfl' _) (pick_mem (is := [0, 1, 2, 3, 4, 5, 6]) ⟨rfl, rfl, rfl, rfl, rfl, rfl, rfl, trivial⟩) ?_
                                        refine d_take 53 (bits 57 18014398509481983) (y_loadA (cs := [.int .i64 r22.Kind, .int .i64 r22.Count, .slice A23 r22.Kids.length c24]) ia24 rfl rfl rfl (cls_own (i := 4) rfl rfl)) rfl rfl (by decide) (by kernel_rfl) (fun _ _ _ h => h) (.on rfl rfl rfl rfl) (Imm.rfl' _) (pick_mem (is := [0, 1, 2, 3, 4, 5, 6]) ⟨rfl, rfl, rfl, rfl, rfl, rfl, rfl, trivial⟩) ?_
                                        refine d_one 54 (bits 57 36028797018963967) rfl (by kernel_rfl) (by decide) (.on rfl rfl rfl rfl) (fun K hK => ?_)
                                        obtain ⟨r294, hr294, H⟩ := Option.bind_eq_some_iff.1 H
                                        refine w_call (args := [.agg #[.int .i64 a0.Kind, .int .i64 a0.Count, .slice A1 a0.Kids.length c2], .agg #[.int .i64 r22.Kind, .int .i64 r22.Count, .slice A23 r22.Kids.length c24]]) (caps := []) has16 rfl rfl rfl rfl (by decide) (fun a W F E => ?_)
                                        refine (swageref11_Same.calls k_j3 a0 r22 A1 c2 A23 c24 J111 W r294 (hr3.mono R_Type.mono ((((((hl14.trans hl28).trans hl37).trans hl46).trans hl49).trans hl81).trans hl112)) (by first | assumption | simp | omega) (hr25.mono R_Type.mono ((((hl37.trans hl46).trans hl49).trans hl81).trans hl112)) (by first | assumption | simp | omega) (E.st.sub (List.nil_sublist _)) hr294).mono ?_
                                        rintro e W' ⟨rfl, X⟩
                                        refine ⟨_, rfl, here (At.mk (F.put (by decide) _) (E.call0 X)) ?_⟩
                                        clear X E F W W' a
                                        refine d_k hK (Imm.rfl' _) (pick_mem (is := [0, 1, 2, 3, 4, 5, 6]) ⟨rfl, rfl, rfl, rfl, rfl, rfl, rfl, trivial⟩) ?_
                                        clear hK K
                                        refine d_many (k' := 144115188075855871) [(55, 72057594037927935), (56, 144115188075855871)] 0 rfl (by kernel_rfl) (fun _ _ _ _ _ h => h) ?_
                                        refine d_done (by kernel_rfl) ?_
                                        refine x_next ?_
                                        refine c_ret ?_
                                        obtain rfl := Option.some.inj H
                                        exact g_ret [.bool r294] (congrArg Array.toList Tryd.results3) (.cons (.t rfl) .nil) (fun W E => ⟨rfl, (E.drop (List.nil_sublist _)).back⟩)
                                      · rw [if_neg c293] at H
                                        refine s_lit (t := 136) rfl (decide_eq_false c293) ?_
                                        refine d_off 52 (bits 57 9007199254740991) rfl rfl (by decide) (by kernel_rfl) (fun _ _ _ h => h) (.off rfl rfl rfl rfl rfl) ?_
                                        refine d_many (k' := 144115188075855871) [(53, 18014398509481983), (54, 36028797018963967), (55, 72057594037927935), (56, 144115188075855871)] 0 rfl (by kernel_rfl) (fun _ _ _ _ _ h => h) ?_
                                        refine d_done (by kernel_rfl) ?_
                                        refine x_next ?_
                                        refine c_ret ?_
                                        obtain rfl := Option.some.inj H
                                        exact g_ret [.bool false] (congrArg Array.toList Tryd.results3) (.cons (.t rfl) .nil) (fun W E => ⟨rfl, (E.drop (List.nil_sublist _)).back⟩)
                                · rw [if_neg c274] at H
                                  refine s_lit (t := 122) rfl (beq_of c273 (Bool.eq_false_iff.2 c274)) ?_
                                  refine d_off 38 (bits 57 549755813887) rfl rfl (by decide) (by kernel_rfl) (fun _ _ _ h => h) (.off rfl rfl rfl rfl rfl) ?_
                                  refine d_many (k' := 144115188075855871) [(40, 1649267441663), (39, 2199023255551), (41, 4398046511103), (42, 8796093022207), (43, 17592186044415), (44, 35184372088831), (45, 70368744177663), (47, 211106232532991), (46, 281474976710655), (48, 562949953421311), (49, 1125899906842623), (50, 2251799813685247), (51, 4503599627370495), (52, 9007199254740991), (53, 18014398509481983), (54, 36028797018963967), (55, 72057594037927935), (56, 144115188075855871)] 0 rfl (by kernel_rfl) (fun _ _ _ _ _ h => h) ?_
                                  refine d_done (by kernel_rfl) ?_
                                  refine x_next ?_
                                  refine c_ret ?_
                                  obtain rfl := Option.some.inj H
                                  exact g_ret [.bool false] (congrArg Array.toList Tryd.results3) (.cons (.t rfl) .nil) (fun W E => ⟨rfl, (E.drop (List.nil_sublist _)).back⟩)
                              · rw [if_neg c273] at H
                                by_cases c296 : r271 = true
                                · rw [if_pos c296] at H
                                  refine s_lit (t := 122) rfl (beq_of (Bool.eq_false_iff.2 c273) c296) ?_
                                  refine d_off 38 (bits 57 549755813887) rfl rfl (by decide) (by kernel_rfl) (fun _ _ _ h => h) (.off rfl rfl rfl rfl rfl) ?_
                                  refine d_many (k' := 144115188075855871) [(40, 1649267441663), (39, 2199023255551), (41, 4398046511103), (42, 8796093022207), (43, 17592186044415), (44, 35184372088831), (45, 70368744177663), (47, 211106232532991), (46, 281474976710655), (48, 562949953421311), (49, 1125899906842623), (50, 2251799813685247), (51, 4503599627370495), (52, 9007199254740991), (53, 18014398509481983), (54, 36028797018963967), (55, 72057594037927935), (56, 144115188075855871)] 0 rfl (by kernel_rfl) (fun _ _ _ _ _ h => h) ?_
                                  refine d_done (by kernel_rfl) ?_
                                  refine x_next ?_
                                  refine c_ret ?_
                                  obtain rfl := Option.some.inj H
                                  exact g_ret [.bool false] (congrArg Array.toList Tryd.results3) (.cons (.t rfl) .nil) (fun W E => ⟨rfl, (E.drop (List.nil_sublist _)).back⟩)
                                · rw [if_neg c296] at H
                                  refine s_lit (t := 122) rfl (beq_of (Bool.eq_false_iff.2 c273) (Bool.eq_false_iff.2 c296)) ?_
                                  refine d_take 38 (bits 57 549755813887) (y_loadA (cs := [.int .i64 a0.Kind, .int .i64 a0.Count, .slice A1 a0.Kids.length c2]) ia24 rfl rfl rfl (cls_own (i := 6) rfl rfl)) rfl rfl (by decide) (by kernel_rfl) (fun _ _ _ h => h) (.on rfl rfl rfl rfl) (Imm.rfl' _) (pick_mem (is := [0, 1, 2, 3, 4, 5, 6]) ⟨rfl, rfl, rfl, rfl, rfl, rfl, rfl, trivial⟩) ?_
                                  refine d_take 40 (bits 57 1649267441663) (y_loadA (cs := [.int .i64 a0.Kind, .int .i64 a0.Count, .slice A1 a0.Kids.length c2]) ia24 rfl rfl rfl (cls_own (i := 6) rfl rfl)) rfl rfl (by decide) (by kernel_rfl) (fun _ _ _ h => h) (.on rfl rfl rfl rfl) (Imm.rfl' _) (pick_mem (is := [0, 1, 2, 3, 4, 5, 6]) ⟨rfl, rfl, rfl, rfl, rfl, rfl, rfl, trivial⟩) ?_
                                  refine d_one 39 (bits 57 2199023255551) rfl (by kernel_rfl) (by decide) (.on rfl rfl rfl rfl) (fun K hK => ?_)
                                  obtain ⟨r297, hr297, H⟩ := Option.bind_eq_some_iff.1 H
                                  refine w_call (args := [.agg #[.int .i64 a0.Kind, .int .i64 a0.Count, .slice A1 a0.Kids.length c2]]) (caps := []) has24 rfl rfl rfl rfl (by decide) (fun a W F E => ?_)
                                  refine (types_Scalar.calls k_j3 a0 A1 c2 J111 W r297 (hr3.mono R_Type.mono ((((((hl14.trans hl28).trans hl37).trans hl46).trans hl49).trans hl81).trans hl112)) (by first | assumption | simp | omega) (E.st.sub (List.nil_sublist _)) hr297).mono ?_
                                  rintro e W' ⟨rfl, X⟩
                                  refine ⟨_, rfl, here (At.mk (F.put (by decide) _) (E.call0 X)) ?_⟩
                                  clear X E F W W' a
                                  refine d_k hK (Imm.rfl' _) (pick_mem (is := [0, 1, 2, 3, 4, 5, 6]) ⟨rfl, rfl, rfl, rfl, rfl, rfl, rfl, trivial⟩) ?_
                                  clear hK K
                                  refine d_one 41 (bits 57 4398046511103) rfl (by kernel_rfl) (by decide) (.on rfl rfl rfl rfl) (fun K hK => ?_)
                                  obtain ⟨r299, hr299, H⟩ := Option.bind_eq_some_iff.1 H
                                  refine w_call (args := [.agg #[.int .i64 a0.Kind, .int .i64 a0.Count, .slice A1 a0.Kids.length c2]]) (caps := []) has25 rfl rfl rfl rfl (by decide) (fun a W F E => ?_)
                                  refine (swageref11_Scalar.calls k_j3 a0 A1 c2 J111 W r299 (hr3.mono R_Type.mono ((((((hl14.trans hl28).trans hl37).trans hl46).trans hl49).trans hl81).trans hl112)) (by first | assumption | simp | omega) (E.st.sub (List.nil_sublist _)) hr299).mono ?_
                                  rintro e W' ⟨rfl, X⟩
                                  refine ⟨_, rfl, here (At.mk (F.put (by decide) _) (E.call0 X)) ?_⟩
                                  clear X E F W W' a
                                  refine d_k hK (Imm.rfl' _) (pick_mem (is := [0, 1, 2, 3, 4, 5, 6]) ⟨rfl, rfl, rfl, rfl, rfl, rfl, rfl, trivial⟩) ?_
                                  clear hK K
                                  refine d_pure 42 (bits 57 8796093022207) (y_bin rfl rfl rfl (bi_beq Tryd.underlying4)) rfl rfl (by decide) (by kernel_rfl) (fun _ _ _ h => h) (.on rfl rfl rfl rfl) ?_
                                  refine d_many (k' := 35184372088831) [(43, 17592186044415), (44, 35184372088831)] 12 rfl (by kernel_rfl) (fun _ _ _ _ _ h => h) ?_
                                  by_cases c301 : r297 = true
                                  · rw [if_pos c301] at H
                                    by_cases c302 : r299 = true
                                    · rw [if_pos c302] at H
                                      refine s_lit (t := 129) rfl (beq_of c301 c302) ?_
                                      refine d_take 45 (bits 57 70368744177663) (y_loadA (cs := [.int .i64 a0.Kind, .int .i64 a0.Count, .slice A1 a0.Kids.length c2]) ia24 rfl rfl rfl (cls_own (i := 6) rfl rfl)) rfl rfl (by decide) (by kernel_rfl) (fun _ _ _ h => h) (.on rfl rfl rfl rfl) (Imm.rfl' _) (pick_mem (is := [0, 1, 2, 3, 4, 5, 6]) ⟨rfl, rfl, rfl, rfl, rfl, rfl, rfl, trivial⟩) ?_
                                      refine d_take 47 (bits 57 211106232532991) (y_loadA (cs := [.int .i64 a0.Kind, .int .i64 a0.Count, .slice A1 a0.Kids.length c2]) ia24 rfl rfl rfl (cls_own (i := 6) rfl rfl)) rfl rfl (by decide) (by kernel_rfl) (fun _ _ _ h => h) (.on rfl rfl rfl rfl) (Imm.rfl' _) (pick_mem (is := [0, 1, 2, 3, 4, 5, 6]) ⟨rfl, rfl, rfl, rfl, rfl, rfl, rfl, trivial⟩) ?_
                                      refine d_one 46 (bits 57 281474976710655) rfl (by kernel_rfl) (by decide) (.on rfl rfl rfl rfl) (fun K hK => ?_)
                                      obtain ⟨r303, hr303, H⟩ := Option.bind_eq_some_iff.1 H
                                      refine w_call (args := [.agg #[.int .i64 a0.Kind, .int .i64 a0.Count, .slice A1 a0.Kids.length c2]]) (caps := []) has26 rfl rfl rfl rfl (by decide) (fun a W F E => ?_)
                                      refine (types_Text.calls k_j3 a0 A1 c2 J111 W r303 (hr3.mono R_Type.mono ((((((hl14.trans hl28).trans hl37).trans hl46).trans hl49).trans hl81).trans hl112)) (by first | assumption | simp | omega) (E.st.sub (List.nil_sublist _)) (hT.mono ((((((hl14.trans hl28).trans hl37).trans hl46).trans hl49).trans hl81).trans hl112)) hr303).mono ?_
                                      rintro e W' ⟨rfl, X⟩
                                      refine ⟨_, rfl, here (At.mk (F.put (by decide) _) (E.call0 X)) ?_⟩
                                      clear X E F W W' a
                                      refine d_k hK (Imm.rfl' _) (pick_mem (is := [0, 1, 2, 3, 4, 5, 6]) ⟨rfl, rfl, rfl, rfl, rfl, rfl, rfl, trivial⟩) ?_
                                      clear hK K
                                      refine d_one 48 (bits 57 562949953421311) rfl (by kernel_rfl) (by decide) (.on rfl rfl rfl rfl) (fun K hK => ?_)
                                      obtain ⟨r305, hr305, H⟩ := Option.bind_eq_some_iff.1 H
                                      refine w_call (args := [.agg #[.int .i64 a0.Kind, .int .i64 a0.Count, .slice A1 a0.Kids.length c2]]) (caps := []) has27 rfl rfl rfl rfl (by decide) (fun a W F E => ?_)
                                      refine (swageref11_Text.calls k_j3 a0 A1 c2 J111 W r305 (hr3.mono R_Type.mono ((((((hl14.trans hl28).trans hl37).trans hl46).trans hl49).trans hl81).trans hl112)) (by first | assumption | simp | omega) (E.st.sub (List.nil_sublist _)) hr305).mono ?_
                                      rintro e W' ⟨rfl, X⟩
                                      refine ⟨_, rfl, here (At.mk (F.put (by decide) _) (E.call0 X)) ?_⟩
                                      clear X E F W W' a
                                      refine d_k hK (Imm.rfl' _) (pick_mem (is := [0, 1, 2, 3, 4, 5, 6]) ⟨rfl, rfl, rfl, rfl, rfl, rfl, rfl, trivial⟩) ?_
                                      clear hK K
                                      refine d_pure 49 (bits 57 1125899906842623) (y_bin rfl rfl rfl bi_seq) rfl rfl (by decide) (by kernel_rfl) (fun _ _ _ h => h) (.on rfl rfl rfl rfl) ?_
                                      refine d_many (k' := 4503599627370495) [(50, 2251799813685247), (51, 4503599627370495)] 5 rfl (by kernel_rfl) (fun _ _ _ _ _ h => h) ?_
                                      by_cases c307 : r303 = r305
                                      · rw [if_pos c307] at H
                                        refine s_lit (t := 136) rfl (decide_eq_true c307) ?_
                                        refine d_take 52 (bits 57 9007199254740991) (y_loadA (cs := [.int .i64 a0.Kind, .int .i64 a0.Count, .slice A1 a0.Kids.length c2]) ia24 rfl rfl rfl (cls_own (i := 6) rfl rfl)) rfl rfl (by decide) (by kernel_rfl) (fun _ _ _ h => h) (.on rfl rfl rfl rfl) (Imm.rfl' _) (pick_mem (is := [0, 1, 2, 3, 4, 5, 6]) ⟨rfl, rfl, rfl, rfl, rfl, rfl, rfl, trivial⟩) ?_
                                        refine d_take 53 (bits 57 18014398509481983) (y_loadA (cs := [.int .i64 r22.Kind, .int .i64 r22.Count, .slice A23 r22.Kids.length c24]) ia24 rfl rfl rfl (cls_own (i := 4) rfl rfl)) rfl rfl (by decide) (by kernel_rfl) (fun _ _ _ h => h) (.on rfl rfl rfl rfl) (Imm.rfl' _) (pick_mem (is := [0, 1, 2, 3, 4, 5, 6]) ⟨rfl, rfl, rfl, rfl, rfl, rfl, rfl, trivial⟩) ?_
                                        refine d_one 54 (bits 57 36028797018963967) rfl (by kernel_rfl) (by decide) (.on rfl rfl rfl rfl) (fun K hK => ?_)
                                        obtain ⟨r308, hr308, H⟩ := Option.bind_eq_some_iff.1 H
                                        refine w_call (args := [.agg #[.int .i64 a0.Kind, .int .i64 a0.Count, .slice A1 a0.Kids.length c2], .agg #[.int .i64 r22.Kind, .int .i64 r22.Count, .slice A23 r22.Kids.length c24]]) (caps := []) has16 rfl rfl rfl rfl (by decide) (fun a W F E => ?_)
                                        refine (swageref11_Same.calls k_j3 a0 r22 A1 c2 A23 c24 J111 W r308 (hr3.mono R_Type.mono ((((((hl14.trans hl28).trans hl37).trans hl46).trans hl49).trans hl81).trans hl112)) (by first | assumption | simp | omega) (hr25.mono R_Type.mono ((((hl37.trans hl46).trans hl49).trans hl81).trans hl112)) (by first | assumption | simp | omega) (E.st.sub (List.nil_sublist _)) hr308).mono ?_
                                        rintro e W' ⟨rfl, X⟩
                                        refine ⟨_, rfl, here (At.mk (F.put (by decide) _) (E.call0 X)) ?_⟩
                                        clear X E F W W' a
                                        refine d_k hK (Imm.rfl' _) (pick_mem (is := [0, 1, 2, 3, 4, 5, 6]) ⟨rfl, rfl, rfl, rfl, rfl, rfl, rfl, trivial⟩) ?_
                                        clear hK K
                                        refine d_many (k' := 144115188075855871) [(55, 72057594037927935), (56, 144115188075855871)] 0 rfl (by kernel_rfl) (fun _ _ _ _ _ h => h) ?_
                                        refine d_done (by kernel_rfl) ?_
                                        refine x_next ?_
                                        refine c_ret ?_
                                        obtain rfl := Option.some.inj H
                                        exact g_ret [.bool r308] (congrArg Array.toList Tryd.results3) (.cons (.t rfl) .nil) (fun W E => ⟨rfl, (E.drop (List.nil_sublist _)).back⟩)
                                      · rw [if_neg c307] at H
                                        refine s_lit (t := 136) rfl (decide_eq_false c307) ?_
                                        refine d_off 52 (bits 57 9007199254740991) rfl rfl (by decide) (by kernel_rfl) (fun _ _ _ h => h) (.off rfl rfl rfl rfl rfl) ?_
                                        refine d_many (k' := 144115188075855871) [(53, 18014398509481983), (54, 36028797018963967), (55, 72057594037927935), (56, 144115188075855871)] 0 rfl (by kernel_rfl) (fun _ _ _ _ _ h => h) ?_
                                        refine d_done (by kernel_rfl) ?_
                                        refine x_next ?_
                                        refine c_ret ?_
                                        obtain rfl := Option.some.inj H
                                        exact g_ret [.bool false] (congrArg Array.toList Tryd.results3) (.cons (.t rfl) .nil) (fun W E => ⟨rfl, (E.drop (List.nil_sublist _)).back⟩)
                                    · rw [if_neg c302] at H
                                      refine s_lit (t := 129) rfl (beq_of c301 (Bool.eq_false_iff.2 c302)) ?_
                                      refine d_off 45 (bits 57 70368744177663) rfl rfl (by decide) (by kernel_rfl) (fun _ _ _ h => h) (.off rfl rfl rfl rfl rfl) ?_
                                      refine d_many (k' := 144115188075855871) [(47, 211106232532991), (46, 281474976710655), (48, 562949953421311), (49, 1125899906842623), (50, 2251799813685247), (51, 4503599627370495), (52, 9007199254740991), (53, 18014398509481983), (54, 36028797018963967), (55, 72057594037927935), (56, 144115188075855871)] 0 rfl (by kernel_rfl) (fun _ _ _ _ _ h => h) ?_
                                      refine d_done (by kernel_rfl) ?_
                                      refine x_next ?_
                                      refine c_ret ?_
                                      obtain rfl := Option.some.inj H
                                      exact g_ret [.bool false] (congrArg Array.toList Tryd.results3) (.cons (.t rfl) .nil) (fun W E => ⟨rfl, (E.drop (List.nil_sublist _)).back⟩)
                                  · rw [if_neg c301] at H
                                    by_cases c310 : r299 = true
                                    · rw [if_pos c310] at H
                                      refine s_lit (t := 129) rfl (beq_of (Bool.eq_false_iff.2 c301) c310) ?_
                                      refine d_off 45 (bits 57 70368744177663) rfl rfl (by decide) (by kernel_rfl) (fun _ _ _ h => h) (.off rfl rfl rfl rfl rfl) ?_
                                      refine d_many (k' := 144115188075855871) [(47, 211106232532991), (46, 281474976710655), (48, 562949953421311), (49, 1125899906842623), (50, 2251799813685247), (51, 4503599627370495), (52, 9007199254740991), (53, 18014398509481983), (54, 36028797018963967), (55, 72057594037927935), (56, 144115188075855871)] 0 rfl (by kernel_rfl) (fun _ _ _ _ _ h => h) ?_
                                      refine d_done (by kernel_rfl) ?_
                                      refine x_next ?_
                                      refine c_ret ?_
                                      obtain rfl := Option.some.inj H
                                      exact g_ret [.bool false] (congrArg Array.toList Tryd.results3) (.cons (.t rfl) .nil) (fun W E => ⟨rfl, (E.drop (List.nil_sublist _)).back⟩)
                                    · rw [if_neg c310] at H
                                      refine s_lit (t := 129) rfl (beq_of (Bool.eq_false_iff.2 c301) (Bool.eq_false_iff.2 c310)) ?_
                                      refine d_take 45 (bits 57 70368744177663) (y_loadA (cs := [.int .i64 a0.Kind, .int .i64 a0.Count, .slice A1 a0.Kids.length c2]) ia24 rfl rfl rfl (cls_own (i := 6) rfl rfl)) rfl rfl (by decide) (by kernel_rfl) (fun _ _ _ h => h) (.on rfl rfl rfl rfl) (Imm.rfl' _) (pick_mem (is := [0, 1, 2, 3, 4, 5, 6]) ⟨rfl, rfl, rfl, rfl, rfl, rfl, rfl, trivial⟩) ?_
                                      refine d_take 47 (bits 57 211106232532991) (y_loadA (cs := [.int .i64 a0.Kind, .int .i64 a0.Count, .slice A1 a0.Kids.length c2]) ia24 rfl rfl rfl (cls_own (i := 6) rfl rfl)) rfl rfl (by decide) (by kernel_rfl) (fun _ _ _ h => h) (.on rfl rfl rfl rfl) (Imm.rfl' _) (pick_mem (is := [0, 1, 2, 3, 4, 5, 6]) ⟨rfl, rfl, rfl, rfl, rfl, rfl, rfl, trivial⟩) ?_
                                      refine d_one 46 (bits 57 281474976710655) rfl (by kernel_rfl) (by decide) (.on rfl rfl rfl rfl) (fun K hK => ?_)
                                      obtain ⟨r311, hr311, H⟩ := Option.bind_eq_some_iff.1 H
                                      refine w_call (args := [.agg #[.int .i64 a0.Kind, .int .i64 a0.Count, .slice A1 a0.Kids.length c2]]) (caps := []) has26 rfl rfl rfl rfl (by decide) (fun a W F E => ?_)
                                      refine (types_Text.calls k_j3 a0 A1 c2 J111 W r311 (hr3.mono R_Type.mono ((((((hl14.trans hl28).trans hl37).trans hl46).trans hl49).trans hl81).trans hl112)) (by first | assumption | simp | omega) (E.st.sub (List.nil_sublist _)) (hT.mono ((((((hl14.trans hl28).trans hl37).trans hl46).trans hl49).trans hl81).trans hl112)) hr311).mono ?_
                                      rintro e W' ⟨rfl, X⟩
                                      refine ⟨_, rfl, here (At.mk (F.put (by decide) _) (E.call0 X)) ?_⟩
                                      clear X E F W W' a
                                      refine d_k hK (Imm.rfl' _) (pick_mem (is := [0, 1, 2, 3, 4, 5, 6]) ⟨rfl, rfl, rfl, rfl, rfl, rfl, rfl, trivial⟩) ?_
                                      clear hK K
                                      refine d_one 48 (bits 57 562949953421311) rfl (by kernel_rfl) (by decide) (.on rfl rfl rfl rfl) (fun K hK => ?_)
                                      obtain ⟨r313, hr313, H⟩ := Option.bind_eq_some_iff.1 H
                                      refine w_call (args := [.agg #[.int .i64 a0.Kind, .int .i64 a0.Count, .slice A1 a0.Kids.length c2]]) (caps := []) has27 rfl rfl rfl rfl (by decide) (fun a W F E => ?_)
                                      refine (swageref11_Text.calls k_j3 a0 A1 c2 J111 W r313 (hr3.mono R_Type.mono ((((((hl14.trans hl28).trans hl37).trans hl46).trans hl49).trans hl81).trans hl112)) (by first | assumption | simp | omega) (E.st.sub (List.nil_sublist _)) hr313).mono ?_
                                      rintro e W' ⟨rfl, X⟩
                                      refine ⟨_, rfl, here (At.mk (F.put (by decide) _) (E.call0 X)) ?_⟩
                                      clear X E F W W' a
                                      refine d_k hK (Imm.rfl' _) (pick_mem (is := [0, 1, 2, 3, 4, 5, 6]) ⟨rfl, rfl, rfl, rfl, rfl, rfl, rfl, trivial⟩) ?_
                                      clear hK K
                                      refine d_pure 49 (bits 57 1125899906842623) (y_bin rfl rfl rfl bi_seq) rfl rfl (by decide) (by kernel_rfl) (fun _ _ _ h => h) (.on rfl rfl rfl rfl) ?_
                                      refine d_many (k' := 4503599627370495) [(50, 2251799813685247), (51, 4503599627370495)] 5 rfl (by kernel_rfl) (fun _ _ _ _ _ h => h) ?_
                                      by_cases c315 : r311 = r313
                                      · rw [if_pos c315] at H
                                        refine s_lit (t := 136) rfl (decide_eq_true c315) ?_
                                        refine d_take 52 (bits 57 9007199254740991) (y_loadA (cs := [.int .i64 a0.Kind, .int .i64 a0.Count, .slice A1 a0.Kids.length c2]) ia24 rfl rfl rfl (cls_own (i := 6) rfl rfl)) rfl rfl (by decide) (by kernel_rfl) (fun _ _ _ h => h) (.on rfl rfl rfl rfl) (Imm.rfl' _) (pick_mem (is := [0, 1, 2, 3, 4, 5, 6]) ⟨rfl, rfl, rfl, rfl, rfl, rfl, rfl, trivial⟩) ?_
                                        refine d_take 53 (bits 57 18014398509481983) (y_loadA (cs := [.int .i64 r22.Kind, .int .i64 r22.Count, .slice A23 r22.Kids.length c24]) ia24 rfl rfl rfl (cls_own (i := 4) rfl rfl)) rfl rfl (by decide) (by kernel_rfl) (fun _ _ _ h => h) (.on rfl rfl rfl rfl) (Imm.rfl' _) (pick_mem (is := [0, 1, 2, 3, 4, 5, 6]) ⟨rfl, rfl, rfl, rfl, rfl, rfl, rfl, trivial⟩) ?_
                                        refine d_one 54 (bits 57 36028797018963967) rfl (by kernel_rfl) (by decide) (.on rfl rfl rfl rfl) (fun K hK => ?_)
                                        obtain ⟨r316, hr316, H⟩ := Option.bind_eq_some_iff.1 H
                                        refine w_call (args := [.agg #[.int .i64 a0.Kind, .int .i64 a0.Count, .slice A1 a0.Kids.length c2], .agg #[.int .i64 r22.Kind, .int .i64 r22.Count, .slice A23 r22.Kids.length c24]]) (caps := []) has16 rfl rfl rfl rfl (by decide) (fun a W F E => ?_)
                                        refine (swageref11_Same.calls k_j3 a0 r22 A1 c2 A23 c24 J111 W r316 (hr3.mono R_Type.mono ((((((hl14.trans hl28).trans hl37).trans hl46).trans hl49).trans hl81).trans hl112)) (by first | assumption | simp | omega) (hr25.mono R_Type.mono ((((hl37.trans hl46).trans hl49).trans hl81).trans hl112)) (by first | assumption | simp | omega) (E.st.sub (List.nil_sublist _)) hr316).mono ?_
                                        rintro e W' ⟨rfl, X⟩
                                        refine ⟨_, rfl, here (At.mk (F.put (by decide) _) (E.call0 X)) ?_⟩
                                        clear X E F W W' a
                                        refine d_k hK (Imm.rfl' _) (pick_mem (is := [0, 1, 2, 3, 4, 5, 6]) ⟨rfl, rfl, rfl, rfl, rfl, rfl, rfl, trivial⟩) ?_
                                        clear hK K
                                        refine d_many (k' := 144115188075855871) [(55, 72057594037927935), (56, 144115188075855871)] 0 rfl (by kernel_rfl) (fun _ _ _ _ _ h => h) ?_
                                        refine d_done (by kernel_rfl) ?_
                                        refine x_next ?_
                                        refine c_ret ?_
                                        obtain rfl := Option.some.inj H
                                        exact g_ret [.bool r316] (congrArg Array.toList Tryd.results3) (.cons (.t rfl) .nil) (fun W E => ⟨rfl, (E.drop (List.nil_sublist _)).back⟩)
                                      · rw [if_neg c315] at H
                                        refine s_lit (t := 136) rfl (decide_eq_false c315) ?_
                                        refine d_off 52 (bits 57 9007199254740991) rfl rfl (by decide) (by kernel_rfl) (fun _ _ _ h => h) (.off rfl rfl rfl rfl rfl) ?_
                                        refine d_many (k' := 144115188075855871) [(53, 18014398509481983), (54, 36028797018963967), (55, 72057594037927935), (56, 144115188075855871)] 0 rfl (by kernel_rfl) (fun _ _ _ _ _ h => h) ?_
                                        refine d_done (by kernel_rfl) ?_
                                        refine x_next ?_
                                        refine c_ret ?_
                                        obtain rfl := Option.some.inj H
                                        exact g_ret [.bool false] (congrArg Array.toList Tryd.results3) (.cons (.t rfl) .nil) (fun W E => ⟨rfl, (E.drop (List.nil_sublist _)).back⟩)
                            · rw [if_neg c268] at H
                              refine s_lit (t := 113) rfl (beq_of c267 (Bool.eq_false_iff.2 c268)) ?_
                              refine d_off 29 (bits 57 1073741823) rfl rfl (by decide) (by kernel_rfl) (fun _ _ _ h => h) (.off rfl rfl rfl rfl rfl) ?_
                              refine d_many (k' := 144115188075855871) [(30, 2147483647), (32, 6442450943), (33, 15032385535), (31, 17179869183), (34, 34359738367), (35, 68719476735), (36, 137438953471), (37, 274877906943), (38, 549755813887), (40, 1649267441663), (39, 2199023255551), (41, 4398046511103), (42, 8796093022207), (43, 17592186044415), (44, 35184372088831), (45, 70368744177663), (47, 211106232532991), (46, 281474976710655), (48, 562949953421311), (49, 1125899906842623), (50, 2251799813685247), (51, 4503599627370495), (52, 9007199254740991), (53, 18014398509481983), (54, 36028797018963967), (55, 72057594037927935), (56, 144115188075855871)] 0 rfl (by kernel_rfl) (fun _ _ _ _ _ h => h) ?_
                              refine d_done (by kernel_rfl) ?_
                              refine x_next ?_
                              refine c_ret ?_
                              obtain rfl := Option.some.inj H
                              exact g_ret [.bool false] (congrArg Array.toList Tryd.results3) (.cons (.t rfl) .nil) (fun W E => ⟨rfl, (E.drop (List.nil_sublist _)).back⟩)
                          · rw [if_neg c267] at H
                            by_cases c318 : r143.2 = true
                            · rw [if_pos c318] at H
                              refine s_lit (t := 113) rfl (beq_of (Bool.eq_false_iff.2 c267) c318) ?_
                              refine d_off 29 (bits 57 1073741823) rfl rfl (by decide) (by kernel_rfl) (fun _ _ _ h => h) (.off rfl rfl rfl rfl rfl) ?_
                              refine d_many (k' := 144115188075855871) [(30, 2147483647), (32, 6442450943), (33, 15032385535), (31, 17179869183), (34, 34359738367), (35, 68719476735), (36, 137438953471), (37, 274877906943), (38, 549755813887), (40, 1649267441663), (39, 2199023255551), (41, 4398046511103), (42, 8796093022207), (43, 17592186044415), (44, 35184372088831), (45, 70368744177663), (47, 211106232532991), (46, 281474976710655), (48, 562949953421311), (49, 1125899906842623), (50, 2251799813685247), (51, 4503599627370495), (52, 9007199254740991), (53, 18014398509481983), (54, 36028797018963967), (55, 72057594037927935), (56, 144115188075855871)] 0 rfl (by kernel_rfl) (fun _ _ _ _ _ h => h) ?_
                              refine d_done (by kernel_rfl) ?_
                              refine x_next ?_
                              refine c_ret ?_
                              obtain rfl := Option.some.inj H
                              exact g_ret [.bool false] (congrArg Array.toList Tryd.results3) (.cons (.t rfl) .nil) (fun W E => ⟨rfl, (E.drop (List.nil_sublist _)).back⟩)
                            · rw [if_neg c318] at H
                              refine s_lit (t := 113) rfl (beq_of (Bool.eq_false_iff.2 c267) (Bool.eq_false_iff.2 c318)) ?_
                              refine d_take 29 (bits 57 1073741823) (y_loadA (cs := [.int .i64 a0.Kind, .int .i64 a0.Count, .slice A1 a0.Kids.length c2]) ia24 rfl rfl rfl (cls_own (i := 6) rfl rfl)) rfl rfl (by decide) (by kernel_rfl) (fun _ _ _ h => h) (.on rfl rfl rfl rfl) (Imm.rfl' _) (pick_mem (is := [0, 1, 2, 3, 4, 5, 6]) ⟨rfl, rfl, rfl, rfl, rfl, rfl, rfl, trivial⟩) ?_
                              refine d_take 30 (bits 57 2147483647) (y_loadA (cs := [.int .i64 a1.Kind, .int .i64 a1.Count, .slice A5 a1.Kids.length c6]) ia24 rfl rfl rfl (cls_own (i := 5) rfl rfl)) rfl rfl (by decide) (by kernel_rfl) (fun _ _ _ h => h) (.on rfl rfl rfl rfl) (Imm.rfl' _) (pick_mem (is := [0, 1, 2, 3, 4, 5, 6]) ⟨rfl, rfl, rfl, rfl, rfl, rfl, rfl, trivial⟩) ?_
                              refine d_take 32 (bits 57 6442450943) (y_loadA (cs := [.int .i64 a0.Kind, .int .i64 a0.Count, .slice A1 a0.Kids.length c2]) ia24 rfl rfl rfl (cls_own (i := 6) rfl rfl)) rfl rfl (by decide) (by kernel_rfl) (fun _ _ _ h => h) (.on rfl rfl rfl rfl) (Imm.rfl' _) (pick_mem (is := [0, 1, 2, 3, 4, 5, 6]) ⟨rfl, rfl, rfl, rfl, rfl, rfl, rfl, trivial⟩) ?_
                              refine d_take 33 (bits 57 15032385535) (y_loadA (cs := [.int .i64 a1.Kind, .int .i64 a1.Count, .slice A5 a1.Kids.length c6]) ia24 rfl rfl rfl (cls_own (i := 5) rfl rfl)) rfl rfl (by decide) (by kernel_rfl) (fun _ _ _ h => h) (.on rfl rfl rfl rfl) (Imm.rfl' _) (pick_mem (is := [0, 1, 2, 3, 4, 5, 6]) ⟨rfl, rfl, rfl, rfl, rfl, rfl, rfl, trivial⟩) ?_
                              refine d_one 31 (bits 57 17179869183) rfl (by kernel_rfl) (by decide) (.on rfl rfl rfl rfl) (fun K hK => ?_)
                              obtain ⟨r319, hr319, H⟩ := Option.bind_eq_some_iff.1 H
                              refine w_call (args := [.agg #[.int .i64 a0.Kind, .int .i64 a0.Count, .slice A1 a0.Kids.length c2], .agg #[.int .i64 a1.Kind, .int .i64 a1.Count, .slice A5 a1.Kids.length c6]]) (caps := []) has23 rfl rfl rfl rfl (by decide) (fun a W F E => ?_)
                              refine (types_Same.calls k_j3 a0 a1 A1 c2 A5 c6 J111 W r319 (hr3.mono R_Type.mono ((((((hl14.trans hl28).trans hl37).trans hl46).trans hl49).trans hl81).trans hl112)) (by first | assumption | simp | omega) (hr7.mono R_Type.mono ((((((hl14.trans hl28).trans hl37).trans hl46).trans hl49).trans hl81).trans hl112)) (by first | assumption | simp | omega) (E.st.sub (List.nil_sublist _)) hr319).mono ?_
                              rintro e W' ⟨rfl, X⟩
                              refine ⟨_, rfl, here (At.mk (F.put (by decide) _) (E.call0 X)) ?_⟩
                              clear X E F W W' a
                              refine d_k hK (Imm.rfl' _) (pick_mem (is := [0, 1, 2, 3, 4, 5, 6]) ⟨rfl, rfl, rfl, rfl, rfl, rfl, rfl, trivial⟩) ?_
                              clear hK K
                              refine d_one 34 (bits 57 34359738367) rfl (by kernel_rfl) (by decide) (.on rfl rfl rfl rfl) (fun K hK => ?_)
                              obtain ⟨r321, hr321, H⟩ := Option.bind_eq_some_iff.1 H
                              refine w_call (args := [.agg #[.int .i64 a0.Kind, .int .i64 a0.Count, .slice A1 a0.Kids.length c2], .agg #[.int .i64 a1.Kind, .int .i64 a1.Count, .slice A5 a1.Kids.length c6]]) (caps := []) has16 rfl rfl rfl rfl (by decide) (fun a W F E => ?_)
                              refine (swageref11_Same.calls k_j3 a0 a1 A1 c2 A5 c6 J111 W r321 (hr3.mono R_Type.mono ((((((hl14.trans hl28).trans hl37).trans hl46).trans hl49).trans hl81).trans hl112)) (by first | assumption | simp | omega) (hr7.mono R_Type.mono ((((((hl14.trans hl28).trans hl37).trans hl46).trans hl49).trans hl81).trans hl112)) (by first | assumption | simp | omega) (E.st.sub (List.nil_sublist _)) hr321).mono ?_
                              rintro e W' ⟨rfl, X⟩
                              refine ⟨_, rfl, here (At.mk (F.put (by decide) _) (E.call0 X)) ?_⟩
                              clear X E F W W' a
                              refine d_k hK (Imm.rfl' _) (pick_mem (is := [0, 1, 2, 3, 4, 5, 6]) ⟨rfl, rfl, rfl, rfl, rfl, rfl, rfl, trivial⟩) ?_
                              clear hK K
                              refine d_pure 35 (bits 57 68719476735) (y_bin rfl rfl rfl (bi_beq Tryd.underlying4)) rfl rfl (by decide) (by kernel_rfl) (fun _ _ _ h => h) (.on rfl rfl rfl rfl) ?_
                              refine d_many (k' := 274877906943) [(36, 137438953471), (37, 274877906943)] 19 rfl (by kernel_rfl) (fun _ _ _ _ _ h => h) ?_
                              by_cases c323 : r319 = true
                              · rw [if_pos c323] at H
                                by_cases c324 : r321 = true
                                · rw [if_pos c324] at H
                                  refine s_lit (t := 122) rfl (beq_of c323 c324) ?_
                                  refine d_take 38 (bits 57 549755813887) (y_loadA (cs := [.int .i64 a0.Kind, .int .i64 a0.Count, .slice A1 a0.Kids.length c2]) ia24 rfl rfl rfl (cls_own (i := 6) rfl rfl)) rfl rfl (by decide) (by kernel_rfl) (fun _ _ _ h => h) (.on rfl rfl rfl rfl) (Imm.rfl' _) (pick_mem (is := [0, 1, 2, 3, 4, 5, 6]) ⟨rfl, rfl, rfl, rfl, rfl, rfl, rfl, trivial⟩) ?_
                                  refine d_take 40 (bits 57 1649267441663) (y_loadA (cs := [.int .i64 a0.Kind, .int .i64 a0.Count, .slice A1 a0.Kids.length c2]) ia24 rfl rfl rfl (cls_own (i := 6) rfl rfl)) rfl rfl (by decide) (by kernel_rfl) (fun _ _ _ h => h) (.on rfl rfl rfl rfl) (Imm.rfl' _) (pick_mem (is := [0, 1, 2, 3, 4, 5, 6]) ⟨rfl, rfl, rfl, rfl, rfl, rfl, rfl, trivial⟩) ?_
                                  refine d_one 39 (bits 57 2199023255551) rfl (by kernel_rfl) (by decide) (.on rfl rfl rfl rfl) (fun K hK => ?_)
                                  obtain ⟨r325, hr325, H⟩ := Option.bind_eq_some_iff.1 H
                                  refine w_call (args := [.agg #[.int .i64 a0.Kind, .int .i64 a0.Count, .slice A1 a0.Kids.length c2]]) (caps := []) has24 rfl rfl rfl rfl (by decide) (fun a W F E => ?_)
                                  refine (types_Scalar.calls k_j3 a0 A1 c2 J111 W r325 (hr3.mono R_Type.mono ((((((hl14.trans hl28).trans hl37).trans hl46).trans hl49).trans hl81).trans hl112)) (by first | assumption | simp | omega) (E.st.sub (List.nil_sublist _)) hr325).mono ?_
                                  rintro e W' ⟨rfl, X⟩
                                  refine ⟨_, rfl, here (At.mk (F.put (by decide) _) (E.call0 X)) ?_⟩
                                  clear X E F W W' a
                                  refine d_k hK (Imm.rfl' _) (pick_mem (is := [0, 1, 2, 3, 4, 5, 6]) ⟨rfl, rfl, rfl, rfl, rfl, rfl, rfl, trivial⟩) ?_
                                  clear hK K
                                  refine d_one 41 (bits 57 4398046511103) rfl (by kernel_rfl) (by decide) (.on rfl rfl rfl rfl) (fun K hK => ?_)
                                  obtain ⟨r327, hr327, H⟩ := Option.bind_eq_some_iff.1 H
                                  refine w_call (args := [.agg #[.int .i64 a0.Kind, .int .i64 a0.Count, .slice A1 a0.Kids.length c2]]) (caps := []) has25 rfl rfl rfl rfl (by decide) (fun a W F E => ?_)
                                  refine (swageref11_Scalar.calls k_j3 a0 A1 c2 J111 W r327 (hr3.mono R_Type.mono ((((((hl14.trans hl28).trans hl37).trans hl46).trans hl49).trans hl81).trans hl112)) (by first | assumption | simp | omega) (E.st.sub (List.nil_sublist _)) hr327).mono ?_
                                  rintro e W' ⟨rfl, X⟩
                                  refine ⟨_, rfl, here (At.mk (F.put (by decide) _) (E.call0 X)) ?_⟩
                                  clear X E F W W' a
                                  refine d_k hK (Imm.rfl' _) (pick_mem (is := [0, 1, 2, 3, 4, 5, 6]) ⟨rfl, rfl, rfl, rfl, rfl, rfl, rfl, trivial⟩) ?_
                                  clear hK K
                                  refine d_pure 42 (bits 57 8796093022207) (y_bin rfl rfl rfl (bi_beq Tryd.underlying4)) rfl rfl (by decide) (by kernel_rfl) (fun _ _ _ h => h) (.on rfl rfl rfl rfl) ?_
                                  refine d_many (k' := 35184372088831) [(43, 17592186044415), (44, 35184372088831)] 12 rfl (by kernel_rfl) (fun _ _ _ _ _ h => h) ?_
                                  by_cases c329 : r325 = true
                                  · rw [if_pos c329] at H
                                    by_cases c330 : r327 = true
                                    · rw [if_pos c330] at H
                                      refine s_lit (t := 129) rfl (beq_of c329 c330) ?_
                                      refine d_take 45 (bits 57 70368744177663) (y_loadA (cs := [.int .i64 a0.Kind, .int .i64 a0.Count, .slice A1 a0.Kids.length c2]) ia24 rfl rfl rfl (cls_own (i := 6) rfl rfl)) rfl rfl (by decide) (by kernel_rfl) (fun _ _ _ h => h) (.on rfl rfl rfl rfl) (Imm.rfl' _) (pick_mem (is := [0, 1, 2, 3, 4, 5, 6]) ⟨rfl, rfl, rfl, rfl, rfl, rfl, rfl, trivial⟩) ?_
                                      refine d_take 47 (bits 57 211106232532991) (y_loadA (cs := [.int .i64 a0.Kind, .int .i64 a0.Count, .slice A1 a0.Kids.length c2]) ia24 rfl rfl rfl (cls_own (i := 6) rfl rfl)) rfl rfl (by decide) (by kernel_rfl) (fun _ _ _ h => h) (.on rfl rfl rfl rfl) (Imm.rfl' _) (pick_mem (is := [0, 1, 2, 3, 4, 5, 6]) ⟨rfl, rfl, rfl, rfl, rfl, rfl, rfl, trivial⟩) ?_
                                      refine d_one 46 (bits 57 281474976710655) rfl (by kernel_rfl) (by decide) (.on rfl rfl rfl rfl) (fun K hK => ?_)
                                      obtain ⟨r331, hr331, H⟩ := Option.bind_eq_some_iff.1 H
                                      refine w_call (args := [.agg #[.int .i64 a0.Kind, .int .i64 a0.Count, .slice A1 a0.Kids.length c2]]) (caps := []) has26 rfl rfl rfl rfl (by decide) (fun a W F E => ?_)
                                      refine (types_Text.calls k_j3 a0 A1 c2 J111 W r331 (hr3.mono R_Type.mono ((((((hl14.trans hl28).trans hl37).trans hl46).trans hl49).trans hl81).trans hl112)) (by first | assumption | simp | omega) (E.st.sub (List.nil_sublist _)) (hT.mono ((((((hl14.trans hl28).trans hl37).trans hl46).trans hl49).trans hl81).trans hl112)) hr331).mono ?_
                                      rintro e W' ⟨rfl, X⟩
                                      refine ⟨_, rfl, here (At.mk (F.put (by decide) _) (E.call0 X)) ?_⟩
                                      clear X E F W W' a
                                      refine d_k hK (Imm.rfl' _) (pick_mem (is := [0, 1, 2, 3, 4, 5, 6]) ⟨rfl, rfl, rfl, rfl, rfl, rfl, rfl, trivial⟩) ?_
                                      clear hK K
                                      refine d_one 48 (bits 57 562949953421311) rfl (by kernel_rfl) (by decide) (.on rfl rfl rfl rfl) (fun K hK => ?_)
                                      obtain ⟨r333, hr333, H⟩ := Option.bind_eq_some_iff.1 H
                                      refine w_call (args := [.agg #[.int .i64 a0.Kind, .int .i64 a0.Count, .slice A1 a0.Kids.length c2]]) (caps := []) has27 rfl rfl rfl rfl (by decide) (fun a W F E => ?_)
                                      refine (swageref11_Text.calls k_j3 a0 A1 c2 J111 W r333 (hr3.mono R_Type.mono ((((((hl14.trans hl28).trans hl37).trans hl46).trans hl49).trans hl81).trans hl112)) (by first | assumption | simp | omega) (E.st.sub (List.nil_sublist _)) hr333).mono ?_
                                      rintro e W' ⟨rfl, X⟩
                                      refine ⟨_, rfl, here (At.mk (F.put (by decide) _) (E.call0 X)) ?_⟩
                                      clear X E F W W' a
                                      refine d_k hK (Imm.rfl' _) (pick_mem (is := [0, 1, 2, 3, 4, 5, 6]) ⟨rfl, rfl, rfl, rfl, rfl, rfl, rfl, trivial⟩) ?_
                                      clear hK K
                                      refine d_pure 49 (bits 57 1125899906842623) (y_bin rfl rfl rfl bi_seq) rfl rfl (by decide) (by kernel_rfl) (fun _ _ _ h => h) (.on rfl rfl rfl rfl) ?_
                                      refine d_many (k' := 4503599627370495) [(50, 2251799813685247), (51, 4503599627370495)] 5 rfl (by kernel_rfl) (fun _ _ _ _ _ h => h) ?_
                                      by_cases c335 : r331 = r333
                                      · rw [if_pos c335] at H
                                        refine s_lit (t := 136) rfl (decide_eq_true c335) ?_
                                        refine d_take 52 (bits 57 9007199254740991) (y_loadA (cs := [.int .i64 a0.Kind, .int .i64 a0.Count, .slice A1 a0.Kids.length c2]) ia24 rfl rfl rfl (cls_own (i := 6) rfl rfl)) rfl rfl (by decide) (by kernel_rfl) (fun _ _ _ h => h) (.on rfl rfl rfl rfl) (Imm.rfl' _) (pick_mem (is := [0, 1, 2, 3, 4, 5, 6]) ⟨rfl, rfl, rfl, rfl, rfl, rfl, rfl, trivial⟩) ?_
                                        refine d_take 53 (bits 57 18014398509481983) (y_loadA (cs := [.int .i64 r22.Kind, .int .i64 r22.Count, .slice A23 r22.Kids.length c24]) ia24 rfl rfl rfl (cls_own (i := 4) rfl rfl)) rfl rfl (by decide) (by kernel_rfl) (fun _ _ _ h => h) (.on rfl rfl rfl rfl) (Imm.rfl' _) (pick_mem (is := [0, 1, 2, 3, 4, 5, 6]) ⟨rfl, rfl, rfl, rfl, rfl, rfl, rfl, trivial⟩) ?_
                                        refine d_one 54 (bits 57 36028797018963967) rfl (by kernel_rfl) (by decide) (.on rfl rfl rfl rfl) (fun K hK => ?_)
                                        obtain ⟨r336, hr336, H⟩ := Option.bind_eq_some_iff.1 H
                                        refine w_call (args := [.agg #[.int .i64 a0.Kind, .int .i64 a0.Count, .slice A1 a0.Kids.length c2], .agg #[.int .i64 r22.Kind, .int .i64 r22.Count, .slice A23 r22.Kids.length c24]]) (caps := []) has16 rfl rfl rfl rfl (by decide) (fun a W F E => ?_)
                                        refine (swageref11_Same.calls k_j3 a0 r22 A1 c2 A23 c24 J111 W r336 (hr3.mono R_Type.mono ((((((hl14.trans hl28).trans hl37).trans hl46).trans hl49).trans hl81).trans hl112)) (by first | assumption | simp | omega) (hr25.mono R_Type.mono ((((hl37.trans hl46).trans hl49).trans hl81).trans hl112)) (by first | assumption | simp | omega) (E.st.sub (List.nil_sublist _)) hr336).mono ?_
                                        rintro e W' ⟨rfl, X⟩
                                        refine ⟨_, rfl, here (At.mk (F.put (by decide) _) (E.call0 X)) ?_⟩
                                        clear X E F W W' a
                                        refine d_k hK (Imm.rfl' _) (pick_mem (is := [0, 1, 2, 3, 4, 5, 6]) ⟨rfl, rfl, rfl, rfl, rfl, rfl, rfl, trivial⟩) ?_
                                        clear hK K
                                        refine d_many (k' := 144115188075855871) [(55, 72057594037927935), (56, 144115188075855871)] 0 rfl (by kernel_rfl) (fun _ _ _ _ _ h => h) ?_
                                        refine d_done (by kernel_rfl) ?_
                                        refine x_next ?_
                                        refine c_ret ?_
                                        obtain rfl := Option.some.inj H
                                        exact g_ret [.bool r336] (congrArg Array.toList Tryd.results3) (.cons (.t rfl) .nil) (fun W E => ⟨rfl, (E.drop (List.nil_sublist _)).back⟩)
                                      · rw [if_neg c335] at H
                                        refine s_lit (t := 136) rfl (decide_eq_false c335) ?_
                                        refine d_off 52 (bits 57 9007199254740991) rfl rfl (by decide) (by kernel_rfl) (fun _ _ _ h => h) (.off rfl rfl rfl rfl rfl) ?_
                                        refine d_many (k' := 144115188075855871) [(53, 18014398509481983), (54, 36028797018963967), (55, 72057594037927935), (56, 144115188075855871)] 0 rfl (by kernel_rfl) (fun _ _ _ _ _ h => h) ?_
                                        refine d_done (by kernel_rfl) ?_
                                        refine x_next ?_
                                        refine c_ret ?_
                                        obtain rfl := Option.some.inj H
                                        exact g_ret [.bool false] (congrArg Array.toList Tryd.results3) (.cons (.t rfl) .nil) (fun W E => ⟨rfl, (E.drop (List.nil_sublist _)).back⟩)
                                    · rw [if_neg c330] at H
                                      refine s_lit (t := 129) rfl (beq_of c329 (Bool.eq_false_iff.2 c330)) ?_
                                      refine d_off 45 (bits 57 70368744177663) rfl rfl (by decide) (by kernel_rfl) (fun _ _ _ h => h) (.off rfl rfl rfl rfl rfl) ?_
                                      refine d_many (k' := 144115188075855871) [(47, 211106232532991), (46, 281474976710655), (48, 562949953421311), (49, 1125899906842623), (50, 2251799813685247), (51, 4503599627370495), (52, 9007199254740991), (53, 18014398509481983), (54, 36028797018963967), (55, 72057594037927935), (56, 144115188075855871)] 0 rfl (by kernel_rfl) (fun _ _ _ _ _ h => h) ?_
                                      refine d_done (by kernel_rfl) ?_
                                      refine x_next ?_
                                      refine c_ret ?_
                                      obtain rfl := Option.some.inj H
                                      exact g_ret [.bool false] (congrArg Array.toList Tryd.results3) (.cons (.t rfl) .nil) (fun W E => ⟨rfl, (E.drop (List.nil_sublist _)).back⟩)
                                  · rw [if_neg c329] at H
                                    by_cases c338 : r327 = true
                                    · rw [if_pos c338] at H
                                      refine s_lit (t := 129) rfl (beq_of (Bool.eq_false_iff.2 c329) c338) ?_
                                      refine d_off 45 (bits 57 70368744177663) rfl rfl (by decide) (by kernel_rfl) (fun _ _ _ h => h) (.off rfl rfl rfl rfl rfl) ?_
                                      refine d_many (k' := 144115188075855871) [(47, 211106232532991), (46, 281474976710655), (48, 562949953421311), (49, 1125899906842623), (50, 2251799813685247), (51, 4503599627370495), (52, 9007199254740991), (53, 18014398509481983), (54, 36028797018963967), (55, 72057594037927935), (56, 144115188075855871)] 0 rfl (by kernel_rfl) (fun _ _ _ _ _ h => h) ?_
                                      refine d_done (by kernel_rfl) ?_
                                      refine x_next ?_
                                      refine c_ret ?_
                                      obtain rfl := Option.some.inj H
                                      exact g_ret [.bool false] (congrArg Array.toList Tryd.results3) (.cons (.t rfl) .nil) (fun W E => ⟨rfl, (E.drop (List.nil_sublist _)).back⟩)
                                    · rw [if_neg c338] at H
                                      refine s_lit (t := 129) rfl (beq_of (Bool.eq_false_iff.2 c329) (Bool.eq_false_iff.2 c338)) ?_
                                      refine d_take 45 (bits 57 70368744177663) (y_loadA (cs := [.int .i64 a0.Kind, .int .i64 a0.Count, .slice A1 a0.Kids.length c2]) ia24 rfl rfl rfl (cls_own (i := 6) rfl rfl)) rfl rfl (by decide) (by kernel_rfl) (fun _ _ _ h => h) (.on rfl rfl rfl rfl) (Imm.rfl' _) (pick_mem (is := [0, 1, 2, 3, 4, 5, 6]) ⟨rfl, rfl, rfl, rfl, rfl, rfl, rfl, trivial⟩) ?_
                                      refine d_take 47 (bits 57 211106232532991) (y_loadA (cs := [.int .i64 a0.Kind, .int .i64 a0.Count, .slice A1 a0.Kids.length c2]) ia24 rfl rfl rfl (cls_own (i := 6) rfl rfl)) rfl rfl (by decide) (by kernel_rfl) (fun _ _ _ h => h) (.on rfl rfl rfl rfl) (Imm.rfl' _) (pick_mem (is := [0, 1, 2, 3, 4, 5, 6]) ⟨rfl, rfl, rfl, rfl, rfl, rfl, rfl, trivial⟩) ?_
                                      refine d_one 46 (bits 57 281474976710655) rfl (by kernel_rfl) (by decide) (.on rfl rfl rfl rfl) (fun K hK => ?_)
                                      obtain ⟨r339, hr339, H⟩ := Option.bind_eq_some_iff.1 H
                                      refine w_call (args := [.agg #[.int .i64 a0.Kind, .int .i64 a0.Count, .slice A1 a0.Kids.length c2]]) (caps := []) has26 rfl rfl rfl rfl (by decide) (fun a W F E => ?_)
                                      refine (types_Text.calls k_j3 a0 A1 c2 J111 W r339 (hr3.mono R_Type.mono ((((((hl14.trans hl28).trans hl37).trans hl46).trans hl49).trans hl81).trans hl112)) (by first | assumption | simp | omega) (E.st.sub (List.nil_sublist _)) (hT.mono ((((((hl14.trans hl28).trans hl37).trans hl46).trans hl49).trans hl81).trans hl112)) hr339).mono ?_
                                      rintro e W' ⟨rfl, X⟩
                                      refine ⟨_, rfl, here (At.mk (F.put (by decide) _) (E.call0 X)) ?_⟩
                                      clear X E F W W' a
                                      refine d_k hK (Imm.rfl' _) (pick_mem (is := [0, 1, 2, 3, 4, 5, 6]) ⟨rfl, rfl, rfl, rfl, rfl, rfl, rfl, trivial⟩) ?_
                                      clear hK K
                                      refine d_one 48 (bits 57 562949953421311) rfl (by kernel_rfl) (by decide) (.on rfl rfl rfl rfl) (fun K hK => ?_)
                                      obtain ⟨r341, hr341, H⟩ := Option.bind_eq_some_iff.1 H
                                      refine w_call (args := [.agg #[.int .i64 a0.Kind, .int .i64 a0.Count, .slice A1 a0.Kids.length c2]]) (caps := []) has27 rfl rfl rfl rfl (by decide) (fun a W F E => ?_)
                                      refine (swageref11_Text.calls k_j3 a0 A1 c2 J111 W r341 (hr3.mono R_Type.mono ((((((hl14.trans hl28).trans hl37).trans hl46).trans hl49).trans hl81).trans hl112)) (by first | assumption | simp | omega) (E.st.sub (List.nil_sublist _)) hr341).mono ?_
                                      rintro e W' ⟨rfl, X⟩
                                      refine ⟨_, rfl, here (At.mk (F.put (by decide) _) (E.call0 X)) ?_⟩
                                      clear X E F W W' a
                                      refine d_k hK (Imm.rfl' _) (pick_mem (is := [0, 1, 2, 3, 4, 5, 6]) ⟨rfl, rfl, rfl, rfl, rfl, rfl, rfl, trivial⟩) ?_
                                      clear hK K
                                      refine d_pure 49 (bits 57 1125899906842623) (y_bin rfl rfl rfl bi_seq) rfl rfl (by decide) (by kernel_rfl) (fun _ _ _ h => h) (.on rfl rfl rfl rfl) ?_
                                      refine d_many (k' := 4503599627370495) [(50, 2251799813685247), (51, 4503599627370495)] 5 rfl (by kernel_rfl) (fun _ _ _ _ _ h => h) ?_
                                      by_cases c343 : r339 = r341
                                      · rw [if_pos c343] at H
                                        refine s_lit (t := 136) rfl (decide_eq_true c343) ?_
                                        refine d_take 52 (bits 57 9007199254740991) (y_loadA (cs := [.int .i64 a0.Kind, .int .i64 a0.Count, .slice A1 a0.Kids.length c2]) ia24 rfl rfl rfl (cls_own (i := 6) rfl rfl)) rfl rfl (by decide) (by kernel_rfl) (fun _ _ _ h => h) (.on rfl rfl rfl rfl) (Imm.rfl' _) (pick_mem (is := [0, 1, 2, 3, 4, 5, 6]) ⟨rfl, rfl, rfl, rfl, rfl, rfl, rfl, trivial⟩) ?_
                                        refine d_take 53 (bits 57 18014398509481983) (y_loadA (cs := [.int .i64 r22.Kind, .int .i64 r22.Count, .slice A23 r22.Kids.length c24]) ia24 rfl rfl rfl (cls_own (i := 4) rfl rfl)) rfl rfl (by decide) (by kernel_rfl) (fun _ _ _ h => h) (.on rfl rfl rfl rfl) (Imm.rfl' _) (pick_mem (is := [0, 1, 2, 3, 4, 5, 6]) ⟨rfl, rfl, rfl, rfl, rfl, rfl, rfl, trivial⟩) ?_
                                        refine d_one 54 (bits 57 36028797018963967) rfl (by kernel_rfl) (by decide) (.on rfl rfl rfl rfl) (fun K hK => ?_)
                                        obtain ⟨r344, hr344, H⟩ := Option.bind_eq_some_iff.1 H
                                        refine w_call (args := [.agg #[.int .i64 a0.Kind, .int .i64 a0.Count, .slice A1 a0.Kids.length c2], .agg #[.int .i64 r22.Kind, .int .i64 r22.Count, .slice A23 r22.Kids.length c24]]) (caps := []) has16 rfl rfl rfl rfl (by decide) (fun a W F E => ?_)
                                        refine (swageref11_Same.calls k_j3 a0 r22 A1 c2 A23 c24 J111 W r344 (hr3.mono R_Type.mono ((((((hl14.trans hl28).trans hl37).trans hl46).trans hl49).trans hl81).trans hl112)) (by first | assumption | simp | omega) (hr25.mono R_Type.mono ((((hl37.trans hl46).trans hl49).trans hl81).trans hl112)) (by first | assumption | simp | omega) (E.st.sub (List.nil_sublist _)) hr344).mono ?_
                                        rintro e W' ⟨rfl, X⟩
                                        refine ⟨_, rfl, here (At.mk (F.put (by decide) _) (E.call0 X)) ?_⟩
                                        clear X E F W W' a
                                        refine d_k hK (Imm.rfl' _) (pick_mem (is := [0, 1, 2, 3, 4, 5, 6]) ⟨rfl, rfl, rfl, rfl, rfl, rfl, rfl, trivial⟩) ?_
                                        clear hK K
                                        refine d_many (k' := 144115188075855871) [(55, 72057594037927935), (56, 144115188075855871)] 0 rfl (by kernel_rfl) (fun _ _ _ _ _ h => h) ?_
                                        refine d_done (by kernel_rfl) ?_
                                        refine x_next ?_
                                        refine c_ret ?_
                                        obtain rfl := Option.some.inj H
                                        exact g_ret [.bool r344] (congrArg Array.toList Tryd.results3) (.cons (.t rfl) .nil) (fun W E => ⟨rfl, (E.drop (List.nil_sublist _)).back⟩)
                                      · rw [if_neg c343] at H
                                        refine s_lit (t := 136) rfl (decide_eq_false c343) ?_
                                        refine d_off 52 (bits 57 9007199254740991) rfl rfl (by decide) (by kernel_rfl) (fun _ _ _ h => h) (.off rfl rfl rfl rfl rfl) ?_
                                        refine d_many (k' := 144115188075855871) [(53, 18014398509481983), (54, 36028797018963967), (55, 72057594037927935), (56, 144115188075855871)] 0 rfl (by kernel_rfl) (fun _ _ _ _ _ h => h) ?_
                                        refine d_done (by kernel_rfl) ?_
                                        refine x_next ?_
                                        refine c_ret ?_
                                        obtain rfl := Option.some.inj H
                                        exact g_ret [.bool false] (congrArg Array.toList Tryd.results3) (.cons (.t rfl) .nil) (fun W E => ⟨rfl, (E.drop (List.nil_sublist _)).back⟩)
                                · rw [if_neg c324] at H
                                  refine s_lit (t := 122) rfl (beq_of c323 (Bool.eq_false_iff.2 c324)) ?_
                                  refine d_off 38 (bits 57 549755813887) rfl rfl (by decide) (by kernel_rfl) (fun _ _ _ h => h) (.off rfl rfl rfl rfl rfl) ?_
                                  refine d_many (k' := 144115188075855871) [(40, 1649267441663), (39, 2199023255551), (41, 4398046511103), (42, 8796093022207), (43, 17592186044415), (44, 35184372088831), (45, 70368744177663), (47, 211106232532991), (46, 281474976710655), (48, 562949953421311), (49, 1125899906842623), (50, 2251799813685247), (51, 4503599627370495), (52, 9007199254740991), (53, 18014398509481983), (54, 36028797018963967), (55, 72057594037927935), (56, 144115188075855871)] 0 rfl (by kernel_rfl) (fun _ _ _ _ _ h => h) ?_
                                  refine d_done (by kernel_rfl) ?_
                                  refine x_next ?_
                                  refine c_ret ?_
                                  obtain rfl := Option.some.inj H
                                  exact g_ret [.bool false] (congrArg Array.toList Tryd.results3) (.cons (.t rfl) .nil) (fun W E => ⟨rfl, (E.drop (List.nil_sublist _)).back⟩)
                              · rw [if_neg c323] at H
                                by_cases c346 : r321 = true
                                · rw [if_pos c346] at H
                                  refine s_lit (t := 122) rfl (beq_of (Bool.eq_false_iff.2 c323) c346) ?_
                                  refine d_off 38 (bits 57 549755813887) rfl rfl (by decide) (by kernel_rfl) (fun _ _ _ h => h) (.off rfl rfl rfl rfl rfl) ?_
                                  refine d_many (k' := 144115188075855871) [(40, 1649267441663), (39, 2199023255551), (41, 4398046511103), (42, 8796093022207), (43, 17592186044415), (44, 35184372088831), (45, 70368744177663), (47, 211106232532991), (46, 281474976710655), (48, 562949953421311), (49, 1125899906842623), (50, 2251799813685247), (51, 4503599627370495), (52, 9007199254740991), (53, 18014398509481983), (54, 36028797018963967), (55, 72057594037927935), (56, 144115188075855871)] 0 rfl (by kernel_rfl) (fun _ _ _ _ _ h => h) ?_
                                  refine d_done (by kernel_rfl) ?_
                                  refine x_next ?_
                                  refine c_ret ?_
                                  obtain rfl := Option.some.inj H
                                  exact g_ret [.bool false] (congrArg Array.toList Tryd.results3) (.cons (.t rfl) .nil) (fun W E => ⟨rfl, (E.drop (List.nil_sublist _)).back⟩)
                                · rw [if_neg c346] at H
                                  refine s_lit (t := 122) rfl (beq_of (Bool.eq_false_iff.2 c323) (Bool.eq_false_iff.2 c346)) ?_
                                  refine d_take 38 (bits 57 549755813887) (y_loadA (cs := [.int .i64 a0.Kind, .int .i64 a0.Count, .slice A1 a0.Kids.length c2]) ia24 rfl rfl rfl (cls_own (i := 6) rfl rfl)) rfl rfl (by decide) (by kernel_rfl) (fun _ _ _ h => h) (.on rfl rfl rfl rfl) (Imm.rfl' _) (pick_mem (is := [0, 1, 2, 3, 4, 5, 6]) ⟨rfl, rfl, rfl, rfl, rfl, rfl, rfl, trivial⟩) ?_
                                  refine d_take 40 (bits 57 1649267441663) (y_loadA (cs := [.int .i64 a0.Kind, .int .i64 a0.Count, .slice A1 a0.Kids.length c2]) ia24 rfl rfl rfl (cls_own (i := 6) rfl rfl)) rfl rfl (by decide) (by kernel_rfl) (fun _ _ _ h => h) (.on rfl rfl rfl rfl) (Imm.rfl' _) (pick_mem (is := [0, 1, 2, 3, 4, 5, 6]) ⟨rfl, rfl, rfl, rfl, rfl, rfl, rfl, trivial⟩) ?_
                                  refine d_one 39 (bits 57 2199023255551) rfl (by kernel_rfl) (by decide) (.on rfl rfl rfl rfl) (fun K hK => ?_)
                                  obtain ⟨r347, hr347, H⟩ := Option.bind_eq_some_iff.1 H
                                  refine w_call (args := [.agg #[.int .i64 a0.Kind, .int .i64 a0.Count, .slice A1 a0.Kids.length c2]]) (caps := []) has24 rfl rfl rfl rfl (by decide) (fun a W F E => ?_)
                                  refine (types_Scalar.calls k_j3 a0 A1 c2 J111 W r347 (hr3.mono R_Type.mono ((((((hl14.trans hl28).trans hl37).trans hl46).trans hl49).trans hl81).trans hl112)) (by first | assumption | simp | omega) (E.st.sub (List.nil_sublist _)) hr347).mono ?_
                                  rintro e W' ⟨rfl, X⟩
                                  refine ⟨_, rfl, here (At.mk (F.put (by decide) _) (E.call0 X)) ?_⟩
                                  clear X E F W W' a
                                  refine d_k hK (Imm.rfl' _) (pick_mem (is := [0, 1, 2, 3, 4, 5, 6]) ⟨rfl, rfl, rfl, rfl, rfl, rfl, rfl, trivial⟩) ?_
                                  clear hK K
                                  refine d_one 41 (bits 57 4398046511103) rfl (by kernel_rfl) (by decide) (.on rfl rfl rfl rfl) (fun K hK => ?_)
                                  obtain ⟨r349, hr349, H⟩ := Option.bind_eq_some_iff.1 H
                                  refine w_call (args := [.agg #[.int .i64 a0.Kind, .int .i64 a0.Count, .slice A1 a0.Kids.length c2]]) (caps := []) has25 rfl rfl rfl rfl (by decide) (fun a W F E => ?_)
                                  refine (swageref11_Scalar.calls k_j3 a0 A1 c2 J111 W r349 (hr3.mono R_Type.mono ((((((hl14.trans hl28).trans hl37).trans hl46).trans hl49).trans hl81).trans hl112)) (by first | assumption | simp | omega) (E.st.sub (List.nil_sublist _)) hr349).mono ?_
                                  rintro e W' ⟨rfl, X⟩
                                  refine ⟨_, rfl, here (At.mk (F.put (by decide) _) (E.call0 X)) ?_⟩
                                  clear X E F W W' a
                                  refine d_k hK (Imm.rfl' _) (pick_mem (is := [0, 1, 2, 3, 4, 5, 6]) ⟨rfl, rfl, rfl, rfl, rfl, rfl, rfl, trivial⟩) ?_
                                  clear hK K
                                  refine d_pure 42 (bits 57 8796093022207) (y_bin rfl rfl rfl (bi_beq Tryd.underlying4)) rfl rfl (by decide) (by kernel_rfl) (fun _ _ _ h => h) (.on rfl rfl rfl rfl) ?_
                                  refine d_many (k' := 35184372088831) [(43, 17592186044415), (44, 35184372088831)] 12 rfl (by kernel_rfl) (fun _ _ _ _ _ h => h) ?_
                                  by_cases c351 : r347 = true
                                  · rw [if_pos c351] at H
                                    by_cases c352 : r349 = true
                                    · rw [if_pos c352] at H
                                      refine s_lit (t := 129) rfl (beq_of c351 c352) ?_
                                      refine d_take 45 (bits 57 70368744177663) (y_loadA (cs := [.int .i64 a0.Kind, .int .i64 a0.Count, .slice A1 a0.Kids.length c2]) ia24 rfl rfl rfl (cls_own (i := 6) rfl rfl)) rfl rfl (by decide) (by kernel_rfl) (fun _ _ _ h => h) (.on rfl rfl rfl rfl) (Imm.rfl' _) (pick_mem (is := [0, 1, 2, 3, 4, 5, 6]) ⟨rfl, rfl, rfl, rfl, rfl, rfl, rfl, trivial⟩) ?_
                                      refine d_take 47 (bits 57 211106232532991) (y_loadA (cs := [.int .i64 a0.Kind, .int .i64 a0.Count, .slice A1 a0.Kids.length c2]) ia24 rfl rfl rfl (cls_own (i := 6) rfl rfl)) rfl rfl (by decide) (by kernel_rfl) (fun _ _ _ h => h) (.on rfl rfl rfl rfl) (Imm.rfl' _) (pick_mem (is := [0, 1, 2, 3, 4, 5, 6]) ⟨rfl, rfl, rfl, rfl, rfl, rfl, rfl, trivial⟩) ?_
                                      refine d_one 46 (bits 57 281474976710655) rfl (by kernel_rfl) (by decide) (.on rfl rfl rfl rfl) (fun K hK => ?_)
                                      obtain ⟨r353, hr353, H⟩ := Option.bind_eq_some_iff.1 H
                                      refine w_call (args := [.agg #[.int .i64 a0.Kind, .int .i64 a0.Count, .slice A1 a0.Kids.length c2]]) (caps := []) has26 rfl rfl rfl rfl (by decide) (fun a W F E => ?_)
                                      refine (types_Text.calls k_j3 a0 A1 c2 J111 W r353 (hr3.mono R_Type.mono ((((((hl14.trans hl28).trans hl37).trans hl46).trans hl49).trans hl81).trans hl112)) (by first | assumption | simp | omega) (E.st.sub (List.nil_sublist _)) (hT.mono ((((((hl14.trans hl28).trans hl37).trans hl46).trans hl49).trans hl81).trans hl112)) hr353).mono ?_
                                      rintro e W' ⟨rfl, X⟩
                                      refine ⟨_, rfl, here (At.mk (F.put (by decide) _) (E.call0 X)) ?_⟩
                                      clear X E F W W' a
                                      refine d_k hK (Imm.rfl' _) (pick_mem (is := [0, 1, 2, 3, 4, 5, 6]) ⟨rfl, rfl, rfl, rfl, rfl, rfl, rfl, trivial⟩) ?_
                                      clear hK K
                                      refine d_one 48 (bits 57 562949953421311) rfl (by kernel_rfl) (by decide) (.on rfl rfl rfl rfl) (fun K hK => ?_)
                                      obtain ⟨r355, hr355, H⟩ := Option.bind_eq_some_iff.1 H
                                      refine w_call (args := [.agg #[.int .i64 a0.Kind, .int .i64 a0.Count, .slice A1 a0.Kids.length c2]]) (caps := []) has27 rfl rfl rfl rfl (by decide) (fun a W F E => ?_)
                                      refine (swageref11_Text.calls k_j3 a0 A1 c2 J111 W r355 (hr3.mono R_Type.mono ((((((hl14.trans hl28).trans hl37).trans hl46).trans hl49).trans hl81).trans hl112)) (by first | assumption | simp | omega) (E.st.sub (List.nil_sublist _)) hr355).mono ?_
                                      rintro e W' ⟨rfl, X⟩
                                      refine ⟨_, rfl, here (At.mk (F.put (by decide) _) (E.call0 X)) ?_⟩
                                      clear X E F W W' a
                                      refine d_k hK (Imm.rfl' _) (pick_mem (is := [0, 1, 2, 3, 4, 5, 6]) ⟨rfl, rfl, rfl, rfl, rfl, rfl, rfl, trivial⟩) ?_
                                      clear hK K
                                      refine d_pure 49 (bits 57 1125899906842623) (y_bin rfl rfl rfl bi_seq) rfl rfl (by decide) (by kernel_rfl) (fun _ _ _ h => h) (.on rfl rfl rfl rfl) ?_
                                      refine d_many (k' := 4503599627370495) [(50, 2251799813685247), (51, 4503599627370495)] 5 rfl (by kernel_rfl) (fun _ _ _ _ _ h => h) ?_
                                      by_cases c357 : r353 = r355
                                      · rw [if_pos c357] at H
                                        refine s_lit (t := 136) rfl (decide_eq_true c357) ?_
                                        refine d_take 52 (bits 57 9007199254740991) (y_loadA (cs := [.int .i64 a0.Kind, .int .i64 a0.Count, .slice A1 a0.Kids.length c2]) ia24 rfl rfl rfl (cls_own (i := 6) rfl rfl)) rfl rfl (by decide) (by kernel_rfl) (fun _ _ _ h => h) (.on rfl rfl rfl rfl) (Imm.rfl' _) (pick_mem (is := [0, 1, 2, 3, 4, 5, 6]) ⟨rfl, rfl, rfl, rfl, rfl, rfl, rfl, trivial⟩) ?_
                                        refine d_take 53 (bits 57 18014398509481983) (y_loadA (cs := [.int .i64 r22.Kind, .int .i64 r22.Count, .slice A23 r22.Kids.length c24]) ia24 rfl rfl rfl (cls_own (i := 4) rfl rfl)) rfl rfl (by decide) (by kernel_rfl) (fun _ _ _ h => h) (.on rfl rfl rfl rfl) (Imm.rfl' _) (pick_mem (is := [0, 1, 2, 3, 4, 5, 6]) ⟨rfl, rfl, rfl, rfl, rfl, rfl, rfl, trivial⟩) ?_
                                        refine d_one 54 (bits 57 36028797018963967) rfl (by kernel_rfl) (by decide) (.on rfl rfl rfl rfl) (fun K hK => ?_)
                                        obtain ⟨r358, hr358, H⟩ := Option.bind_eq_some_iff.1 H
                                        refine w_call (args := [.agg #[.int .i64 a0.Kind, .int .i64 a0.Count, .slice A1 a0.Kids.length c2], .agg #[.int .i64 r22.Kind, .int .i64 r22.Count, .slice A23 r22.Kids.length c24]]) (caps := []) has16 rfl rfl rfl rfl (by decide) (fun a W F E => ?_)
                                        refine (swageref11_Same.calls k_j3 a0 r22 A1 c2 A23 c24 J111 W r358 (hr3.mono R_Type.mono ((((((hl14.trans hl28).trans hl37).trans hl46).trans hl49).trans hl81).trans hl112)) (by first | assumption | simp | omega) (hr25.mono R_Type.mono ((((hl37.trans hl46).trans hl49).trans hl81).trans hl112)) (by first | assumption | simp | omega) (E.st.sub (List.nil_sublist _)) hr358).mono ?_
                                        rintro e W' ⟨rfl, X⟩
                                        refine ⟨_, rfl, here (At.mk (F.put (by decide) _) (E.call0 X)) ?_⟩
                                        clear X E F W W' a
                                        refine d_k hK (Imm.rfl' _) (pick_mem (is := [0, 1, 2, 3, 4, 5, 6]) ⟨rfl, rfl, rfl, rfl, rfl, rfl, rfl, trivial⟩) ?_
                                        clear hK K
                                        refine d_many (k' := 144115188075855871) [(55, 72057594037927935), (56, 144115188075855871)] 0 rfl (by kernel_rfl) (fun _ _ _ _ _ h => h) ?_
                                        refine d_done (by kernel_rfl) ?_
                                        refine x_next ?_
                                        refine c_ret ?_
                                        obtain rfl := Option.some.inj H
                                        exact g_ret [.bool r358] (congrArg Array.toList Tryd.results3) (.cons (.t rfl) .nil) (fun W E => ⟨rfl, (E.drop (List.nil_sublist _)).back⟩)
                                      · rw [if_neg c357] at H
                                        refine s_lit (t := 136) rfl (decide_eq_false c357) ?_
                                        refine d_off 52 (bits 57 9007199254740991) rfl rfl (by decide) (by kernel_rfl) (fun _ _ _ h => h) (.off rfl rfl rfl rfl rfl) ?_
                                        refine d_many (k' := 144115188075855871) [(53, 18014398509481983), (54, 36028797018963967), (55, 72057594037927935), (56, 144115188075855871)] 0 rfl (by kernel_rfl) (fun _ _ _ _ _ h => h) ?_
                                        refine d_done (by kernel_rfl) ?_
                                        refine x_next ?_
                                        refine c_ret ?_
                                        obtain rfl := Option.some.inj H
                                        exact g_ret [.bool false] (congrArg Array.toList Tryd.results3) (.cons (.t rfl) .nil) (fun W E => ⟨rfl, (E.drop (List.nil_sublist _)).back⟩)
                                    · rw [if_neg c352] at H
                                      refine s_lit (t := 129) rfl (beq_of c351 (Bool.eq_false_iff.2 c352)) ?_
                                      refine d_off 45 (bits 57 70368744177663) rfl rfl (by decide) (by kernel_rfl) (fun _ _ _ h => h) (.off rfl rfl rfl rfl rfl) ?_
                                      refine d_many (k' := 144115188075855871) [(47, 211106232532991), (46, 281474976710655), (48, 562949953421311), (49, 1125899906842623), (50, 2251799813685247), (51, 4503599627370495), (52, 9007199254740991), (53, 18014398509481983), (54, 36028797018963967), (55, 72057594037927935), (56, 144115188075855871)] 0 rfl (by kernel_rfl) (fun _ _ _ _ _ h => h) ?_
                                      refine d_done (by kernel_rfl) ?_
                                      refine x_next ?_
                                      refine c_ret ?_
                                      obtain rfl := Option.some.inj H
                                      exact g_ret [.bool false] (congrArg Array.toList Tryd.results3) (.cons (.t rfl) .nil) (fun W E => ⟨rfl, (E.drop (List.nil_sublist _)).back⟩)
                                  · rw [if_neg c351] at H
                                    by_cases c360 : r349 = true
                                    · rw [if_pos c360] at H
                                      refine s_lit (t := 129) rfl (beq_of (Bool.eq_false_iff.2 c351) c360) ?_
                                      refine d_off 45 (bits 57 70368744177663) rfl rfl (by decide) (by kernel_rfl) (fun _ _ _ h => h) (.off rfl rfl rfl rfl rfl) ?_
                                      refine d_many (k' := 144115188075855871) [(47, 211106232532991), (46, 281474976710655), (48, 562949953421311), (49, 1125899906842623), (50, 2251799813685247), (51, 4503599627370495), (52, 9007199254740991), (53, 18014398509481983), (54, 36028797018963967), (55, 72057594037927935), (56, 144115188075855871)] 0 rfl (by kernel_rfl) (fun _ _ _ _ _ h => h) ?_
                                      refine d_done (by kernel_rfl) ?_
                                      refine x_next ?_
                                      refine c_ret ?_
                                      obtain rfl := Option.some.inj H
                                      exact g_ret [.bool false] (congrArg Array.toList Tryd.results3) (.cons (.t rfl) .nil) (fun W E => ⟨rfl, (E.drop (List.nil_sublist _)).back⟩)
                                    · rw [if_neg c360] at H
                                      refine s_lit (t := 129) rfl (beq_of (Bool.eq_false_iff.2 c351) (Bool.eq_false_iff.2 c360)) ?_
                                      refine d_take 45 (bits 57 70368744177663) (y_loadA (cs := [.int .i64 a0.Kind, .int .i64 a0.Count, .slice A1 a0.Kids.length c2]) ia24 rfl rfl rfl (cls_own (i := 6) rfl rfl)) rfl rfl (by decide) (by kernel_rfl) (fun _ _ _ h => h) (.on rfl rfl rfl rfl) (Imm.rfl' _) (pick_mem (is := [0, 1, 2, 3, 4, 5, 6]) ⟨rfl, rfl, rfl, rfl, rfl, rfl, rfl, trivial⟩) ?_
                                      refine d_take 47 (bits 57 211106232532991) (y_loadA (cs := [.int .i64 a0.Kind, .int .i64 a0.Count, .slice A1 a0.Kids.length c2]) ia24 rfl rfl rfl (cls_own (i := 6) rfl rfl)) rfl rfl (by decide) (by kernel_rfl) (fun _ _ _ h => h) (.on rfl rfl rfl rfl) (Imm.rfl' _) (pick_mem (is := [0, 1, 2, 3, 4, 5, 6]) ⟨rfl, rfl, rfl, rfl, rfl, rfl, rfl, trivial⟩) ?_
                                      refine d_one 46 (bits 57 281474976710655) rfl (by kernel_rfl) (by decide) (.on rfl rfl rfl rfl) (fun K hK => ?_)
                                      obtain ⟨r361, hr361, H⟩ := Option.bind_eq_some_iff.1 H
                                      refine w_call (args := [.agg #[.int .i64 a0.Kind, .int .i64 a0.Count, .slice A1 a0.Kids.length c2]]) (caps := []) has26 rfl rfl rfl rfl (by decide) (fun a W F E => ?_)
                                      refine (types_Text.calls k_j3 a0 A1 c2 J111 W r361 (hr3.mono R_Type.mono ((((((hl14.trans hl28).trans hl37).trans hl46).trans hl49).trans hl81).trans hl112)) (by first | assumption | simp | omega) (E.st.sub (List.nil_sublist _)) (hT.mono ((((((hl14.trans hl28).trans hl37).trans hl46).trans hl49).trans hl81).trans hl112)) hr361).mono ?_
                                      rintro e W' ⟨rfl, X⟩
                                      refine ⟨_, rfl, here (At.mk (F.put (by decide) _) (E.call0 X)) ?_⟩
                                      clear X E F W W' a
                                      refine d_k hK (Imm.rfl' _) (pick_mem (is := [0, 1, 2, 3, 4, 5, 6]) ⟨rfl, rfl, rfl, rfl, rfl, rfl, rfl, trivial⟩) ?_
                                      clear hK K
                                      refine d_one 48 (bits 57 562949953421311) rfl (by kernel_rfl) (by decide) (.on rfl rfl rfl rfl) (fun K hK => ?_)
                                      obtain ⟨r363, hr363, H⟩ := Option.bind_eq_some_iff.1 H
                                      refine w_call (args := [.agg #[.int .i64 a0.Kind, .int .i64 a0.Count, .slice A1 a0.Kids.length c2]]) (caps := []) has27 rfl rfl rfl rfl (by decide) (fun a W F E => ?_)
                                      refine (swageref11_Text.calls k_j3 a0 A1 c2 J111 W r363 (hr3.mono R_Type.mono ((((((hl14.trans hl28).trans hl37).trans hl46).trans hl49).trans hl81).trans hl112)) (by first | assumption | simp | omega) (E.st.sub (List.nil_sublist _)) hr363).mono ?_
                                      rintro e W' ⟨rfl, X⟩
                                      refine ⟨_, rfl, here (At.mk (F.put (by decide) _) (E.call0 X)) ?_⟩
                                      clear X E F W W' a
                                      refine d_k hK (Imm.rfl' _) (pick_mem (is := [0, 1, 2, 3, 4, 5, 6]) ⟨rfl, rfl, rfl, rfl, rfl, rfl, rfl, trivial⟩) ?_
                                      clear hK K
                                      refine d_pure 49 (bits 57 1125899906842623) (y_bin rfl rfl rfl bi_seq) rfl rfl (by decide) (by kernel_rfl) (fun _ _ _ h => h) (.on rfl rfl rfl rfl) ?_
                                      refine d_many (k' := 4503599627370495) [(50, 2251799813685247), (51, 4503599627370495)] 5 rfl (by kernel_rfl) (fun _ _ _ _ _ h => h) ?_
                                      by_cases c365 : r361 = r363
                                      · rw [if_pos c365] at H
                                        refine s_lit (t := 136) rfl (decide_eq_true c365) ?_
                                        refine d_take 52 (bits 57 9007199254740991) (y_loadA (cs := [.int .i64 a0.Kind, .int .i64 a0.Count, .slice A1 a0.Kids.length c2]) ia24 rfl rfl rfl (cls_own (i := 6) rfl rfl)) rfl rfl (by decide) (by kernel_rfl) (fun _ _ _ h => h) (.on rfl rfl rfl rfl) (Imm.rfl' _) (pick_mem (is := [0, 1, 2, 3, 4, 5, 6]) ⟨rfl, rfl, rfl, rfl, rfl, rfl, rfl, trivial⟩) ?_
                                        refine d_take 53 (bits 57 18014398509481983) (y_loadA (cs := [.int .i64 r22.Kind, .int .i64 r22.Count, .slice A23 r22.Kids.length c24]) ia24 rfl rfl rfl (cls_own (i := 4) rfl rfl)) rfl rfl (by decide) (by kernel_rfl) (fun _ _ _ h => h) (.on rfl rfl rfl rfl) (Imm.rfl' _) (pick_mem (is := [0, 1, 2, 3, 4, 5, 6]) ⟨rfl, rfl, rfl, rfl, rfl, rfl, rfl, trivial⟩) ?_
                                        refine d_one 54 (bits 57 36028797018963967) rfl (by kernel_rfl) (by decide) (.on rfl rfl rfl rfl) (fun K hK => ?_)
                                        obtain ⟨r366, hr366, H⟩ := Option.bind_eq_some_iff.1 H
                                        refine w_call (args := [.agg #[.int .i64 a0.Kind, .int .i64 a0.Count, .slice A1 a0.Kids.length c2], .agg #[.int .i64 r22.Kind, .int .i64 r22.Count, .slice A23 r22.Kids.length c24]]) (caps := []) has16 rfl rfl rfl rfl (by decide) (fun a W F E => ?_)
                                        refine (swageref11_Same.calls k_j3 a0 r22 A1 c2 A23 c24 J111 W r366 (hr3.mono R_Type.mono ((((((hl14.trans hl28).trans hl37).trans hl46).trans hl49).trans hl81).trans hl112)) (by first | assumption | simp | omega) (hr25.mono R_Type.mono ((((hl37.trans hl46).trans hl49).trans hl81).trans hl112)) (by first | assumption | simp | omega) (E.st.sub (List.nil_sublist _)) hr366).mono ?_
                                        rintro e W' ⟨rfl, X⟩
                                        refine ⟨_, rfl, here (At.mk (F.put (by decide) _) (E.call0 X)) ?_⟩
                                        clear X E F W W' a
                                        refine d_k hK (Imm.rfl' _) (pick_mem (is := [0, 1, 2, 3, 4, 5, 6]) ⟨rfl, rfl, rfl, rfl, rfl, rfl, rfl, trivial⟩) ?_
                                        clear hK K
                                        refine d_many (k' := 144115188075855871) [(55, 72057594037927935), (56, 144115188075855871)] 0 rfl (by kernel_rfl) (fun _ _ _ _ _ h => h) ?_
                                        refine d_done (by kernel_rfl) ?_
                                        refine x_next ?_
                                        refine c_ret ?_
                                        obtain rfl := Option.some.inj H
                                        exact g_ret [.bool r366] (congrArg Array.toList Tryd.results3) (.cons (.t rfl) .nil) (fun W E => ⟨rfl, (E.drop (List.nil_sublist _)).back⟩)
                                      · rw [if_neg c365] at H
                                        refine s_lit (t := 136) rfl (decide_eq_false c365) ?_
                                        refine d_off 52 (bits 57 9007199254740991) rfl rfl (by decide) (by kernel_rfl) (fun _ _ _ h => h) (.off rfl rfl rfl rfl rfl) ?_
                                        refine d_many (k' := 144115188075855871) [(53, 18014398509481983), (54, 36028797018963967), (55, 72057594037927935), (56, 144115188075855871)] 0 rfl (by kernel_rfl) (fun _ _ _ _ _ h => h) ?_
                                        refine d_done (by kernel_rfl) ?_
                                        refine x_next ?_
                                        refine c_ret ?_
                                        obtain rfl := Option.some.inj H
                                        exact g_ret [.bool false] (congrArg Array.toList Tryd.results3) (.cons (.t rfl) .nil) (fun W E => ⟨rfl, (E.drop (List.nil_sublist _)).back⟩)
                        · rw [if_neg c266] at H
                          refine s_lit (t := 108) rfl (decide_eq_false c266) ?_
                          refine d_off 24 (bits 57 33554431) rfl rfl (by decide) (by kernel_rfl) (fun _ _ _ h => h) (.off rfl rfl rfl rfl rfl) ?_
                          refine d_many (k' := 144115188075855871) [(25, 67108863), (26, 134217727), (27, 268435455), (28, 536870911), (29, 1073741823), (30, 2147483647), (32, 6442450943), (33, 15032385535), (31, 17179869183), (34, 34359738367), (35, 68719476735), (36, 137438953471), (37, 274877906943), (38, 549755813887), (40, 1649267441663), (39, 2199023255551), (41, 4398046511103), (42, 8796093022207), (43, 17592186044415), (44, 35184372088831), (45, 70368744177663), (47, 211106232532991), (46, 281474976710655), (48, 562949953421311), (49, 1125899906842623), (50, 2251799813685247), (51, 4503599627370495), (52, 9007199254740991), (53, 18014398509481983), (54, 36028797018963967), (55, 72057594037927935), (56, 144115188075855871)] 0 rfl (by kernel_rfl) (fun _ _ _ _ _ h => h) ?_
                          refine d_done (by kernel_rfl) ?_
                          refine x_next ?_
                          refine c_ret ?_
                          obtain rfl := Option.some.inj H
                          exact g_ret [.bool false] (congrArg Array.toList Tryd.results3) (.cons (.t rfl) .nil) (fun W E => ⟨rfl, (E.drop (List.nil_sublist _)).back⟩)
                      · rw [if_neg c265] at H
                        refine s_lit (t := 103) rfl (decide_eq_false c265) ?_
                        refine d_off 19 (bits 57 1048575) rfl rfl (by decide) (by kernel_rfl) (fun _ _ _ h => h) (.off rfl rfl rfl rfl rfl) ?_
                        refine d_many (k' := 144115188075855871) [(20, 2097151), (21, 4194303), (22, 8388607), (23, 16777215), (24, 33554431), (25, 67108863), (26, 134217727), (27, 268435455), (28, 536870911), (29, 1073741823), (30, 2147483647), (32, 6442450943), (33, 15032385535), (31, 17179869183), (34, 34359738367), (35, 68719476735), (36, 137438953471), (37, 274877906943), (38, 549755813887), (40, 1649267441663), (39, 2199023255551), (41, 4398046511103), (42, 8796093022207), (43, 17592186044415), (44, 35184372088831), (45, 70368744177663), (47, 211106232532991), (46, 281474976710655), (48, 562949953421311), (49, 1125899906842623), (50, 2251799813685247), (51, 4503599627370495), (52, 9007199254740991), (53, 18014398509481983), (54, 36028797018963967), (55, 72057594037927935), (56, 144115188075855871)] 0 rfl (by kernel_rfl) (fun _ _ _ _ _ h => h) ?_
                        refine d_done (by kernel_rfl) ?_
                        refine x_next ?_
                        refine c_ret ?_
                        obtain rfl := Option.some.inj H
                        exact g_ret [.bool false] (congrArg Array.toList Tryd.results3) (.cons (.t rfl) .nil) (fun W E => ⟨rfl, (E.drop (List.nil_sublist _)).back⟩)
                · rw [if_neg c146] at H
                  refine s_lit (t := 89) rfl (Bool.eq_false_iff.2 c146) ?_
                  refine d_off 5 (bits 57 63) rfl rfl (by decide) (by kernel_rfl) (fun _ _ _ h => h) (.off rfl rfl rfl rfl rfl) ?_
                  refine d_many (k' := 144115188075855871) [(7, 191), (6, 255), (8, 511), (9, 1023), (10, 2047), (11, 4095), (12, 8191), (14, 24575), (13, 32767), (15, 65535), (16, 131071), (17, 262143), (18, 524287), (19, 1048575), (20, 2097151), (21, 4194303), (22, 8388607), (23, 16777215), (24, 33554431), (25, 67108863), (26, 134217727), (27, 268435455), (28, 536870911), (29, 1073741823), (30, 2147483647), (32, 6442450943), (33, 15032385535), (31, 17179869183), (34, 34359738367), (35, 68719476735), (36, 137438953471), (37, 274877906943), (38, 549755813887), (40, 1649267441663), (39, 2199023255551), (41, 4398046511103), (42, 8796093022207), (43, 17592186044415), (44, 35184372088831), (45, 70368744177663), (47, 211106232532991), (46, 281474976710655), (48, 562949953421311), (49, 1125899906842623), (50, 2251799813685247), (51, 4503599627370495), (52, 9007199254740991), (53, 18014398509481983), (54, 36028797018963967), (55, 72057594037927935), (56, 144115188075855871)] 0 rfl (by kernel_rfl) (fun _ _ _ _ _ h => h) ?_
                  refine d_done (by kernel_rfl) ?_
                  refine x_next ?_
                  refine c_ret ?_
                  obtain rfl := Option.some.inj H
                  exact g_ret [.bool false] (congrArg Array.toList Tryd.results3) (.cons (.t rfl) .nil) (fun W E => ⟨rfl, (E.drop (List.nil_sublist _)).back⟩)
              · rw [if_neg c145] at H
                refine s_lit (t := 86) rfl (Bool.eq_false_iff.2 c145) ?_
                refine d_off 2 (bits 57 7) rfl rfl (by decide) (by kernel_rfl) (fun _ _ _ h => h) (.off rfl rfl rfl rfl rfl) ?_
                refine d_many (k' := 144115188075855871) [(3, 15), (4, 31), (5, 63), (7, 191), (6, 255), (8, 511), (9, 1023), (10, 2047), (11, 4095), (12, 8191), (14, 24575), (13, 32767), (15, 65535), (16, 131071), (17, 262143), (18, 524287), (19, 1048575), (20, 2097151), (21, 4194303), (22, 8388607), (23, 16777215), (24, 33554431), (25, 67108863), (26, 134217727), (27, 268435455), (28, 536870911), (29, 1073741823), (30, 2147483647), (32, 6442450943), (33, 15032385535), (31, 17179869183), (34, 34359738367), (35, 68719476735), (36, 137438953471), (37, 274877906943), (38, 549755813887), (40, 1649267441663), (39, 2199023255551), (41, 4398046511103), (42, 8796093022207), (43, 17592186044415), (44, 35184372088831), (45, 70368744177663), (47, 211106232532991), (46, 281474976710655), (48, 562949953421311), (49, 1125899906842623), (50, 2251799813685247), (51, 4503599627370495), (52, 9007199254740991), (53, 18014398509481983), (54, 36028797018963967), (55, 72057594037927935), (56, 144115188075855871)] 0 rfl (by kernel_rfl) (fun _ _ _ _ _ h => h) ?_
                refine d_done (by kernel_rfl) ?_
                refine x_next ?_
                refine c_ret ?_
                obtain rfl := Option.some.inj H
                exact g_ret [.bool false] (congrArg Array.toList Tryd.results3) (.cons (.t rfl) .nil) (fun W E => ⟨rfl, (E.drop (List.nil_sublist _)).back⟩)
    · rw [if_neg c21] at H
      refine s_lit (t := 26) rfl (not_t (Bool.eq_false_iff.2 c21)) ?_
      refine c_true rfl ?_
      refine c_seq ?_
      refine g_plain ?_
      refine l_y (y_move rfl rfl) rfl rfl (by decide) ?_
      refine l_y (y_assign rfl rfl) rfl rfl (by decide) ?_
      refine l_nil ?_
      refine x_next ?_
      refine c_ret ?_
      refine x_then rfl ?_
      obtain rfl := Option.some.inj H
      exact g_ret [.bool r11] (congrArg Array.toList Tryd.results3) (.cons (.t rfl) .nil) (fun W E => ⟨rfl, (E.drop (List.nil_sublist _)).back⟩)
end Go.Proofs.YtoafojcfledkcaaDoor
