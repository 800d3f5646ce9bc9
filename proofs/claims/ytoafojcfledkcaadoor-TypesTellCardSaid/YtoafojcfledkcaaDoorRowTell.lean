/- The row of TypesTell and its card, out of the walk and the law. -/
import Derived.Test.YtoafojcfledkcaaDoorRowD
import Derived.Test.YtoafojcfledkcaaDoorLawTell
namespace Go.Proofs.YtoafojcfledkcaaDoor
open Go.ChangeShapes Go.WideShapes Go.ChangeAt Go.RowKit
set_option linter.all false
theorem witness_row (os : Os) {H : Type} (enc : TypeId × Value → H) :
    (OpenSpec.ofChange Rows.typesTellSpec).preRow enc Tryd.prog Tryd.f3 Rows.typesTellRow.domain false Rows.typesTellRow.laid ((laidWorld os).forCall (fun _ _ => 0) ⟨#[], #[.agg #[.int .i64 0, .int .i64 0, .slice none 0 0], .agg #[.int .i64 0, .int .i64 0, .slice none 0 0], .int .i64 0], []⟩).memory #[.agg #[.int .i64 0, .int .i64 0, .slice none 0 0], .agg #[.int .i64 0, .int .i64 0, .slice none 0 0], .int .i64 0] := by
  have hw : (DataW.whole enc Tryd.prog ((laidWorld os).forCall (fun _ _ => 0) ⟨#[], #[.agg #[.int .i64 0, .int .i64 0, .slice none 0 0], .agg #[.int .i64 0, .int .i64 0, .slice none 0 0], .int .i64 0], []⟩).memory Tryd.f3.params.toList (OpenSpec.ofChange Rows.typesTellSpec).vars false (#[.agg #[.int .i64 0, .int .i64 0, .slice none 0 0], .agg #[.int .i64 0, .int .i64 0, .slice none 0 0], .int .i64 0] : Array Value).toList 8).map (fun x => (x.1, x.2.1)) =
      some ([.agg [.lit (.int .i64 0), .lit (.int .i64 0), .nil], .agg [.lit (.int .i64 0), .lit (.int .i64 0), .nil], .lit (.int .i64 0)], []) := by kernel_rfl
  obtain ⟨⟨x1, x2, x3⟩, hx, hx1⟩ := Option.map_eq_some_iff.1 hw
  simp only [Prod.mk.injEq] at hx1
  obtain ⟨rfl, rfl⟩ := hx1
  exact OpenSpec.preRow_of_cond 8 hx (by kernel_rfl) (fun k hk => by cases hk) (by kernel_rfl) (laid_met os _)
set_option maxRecDepth 100000 in
set_option maxHeartbeats 2000000 in
theorem lifted (os : Os) (started : os.Started) (H : Type) (enc : TypeId × Value → H) (F : Stop.Interp) :
    ReturnsInHanded {} Tryd.checked os 3 .any ((OpenSpec.ofChange Rows.typesTellSpec).preRow enc Tryd.prog Tryd.f3 Rows.typesTellRow.domain false Rows.typesTellRow.laid) (((OpenSpec.ofChange Rows.typesTellSpec).at F).post enc Tryd.prog Tryd.f3 Rows.typesTellRow.apart Rows.typesTellRow.fresh Rows.typesTellRow.handsOn Rows.typesTellRow.again) := by
  refine returnsInHanded_of_row (C := Tryd.checked) (s := OpenSpec.ofChange Rows.typesTellSpec) Tryd.own started (by kernel_rfl) Tryd.func3
    (witness_row_at (enc := enc) (C := Tryd.checked) false (laidWorld os) #[.agg #[.int .i64 0, .int .i64 0, .slice none 0 0], .agg #[.int .i64 0, .int .i64 0, .slice none 0 0], .int .i64 0] rfl (by kernel_rfl) (by kernel_rfl) (by kernel_rfl) (witness_row os enc)) ?_
  intro W base args ds gs before hval0 hW _ _ hsz0 hL _ _
  have hsz : (DataW.weightsEach Tryd.prog (Tryd.f3.params.toList ++ (OpenSpec.ofChange Rows.typesTellSpec).bare.plain.varTypes Tryd.prog) (ds ++ gs)).all (· ≤ reachBytes) = true := hsz0
  have hval : ∀ (j : Nat) t v, Tryd.f3.params[j]? = some t → args[j]? = some v → Value.okWide Tryd.prog W .any base t v := hval0
  have hW' := hW
  obtain ⟨p, q, hA0, hV0, rfl, _, _⟩ := hW
  have hA : DataW.TrodAll enc Tryd.prog W 0 (fun _ => true) true Tryd.f3.params.toList args.toList ds p := hA0
  rw [Tryd.params3] at hA hval hsz
  obtain ⟨v0, v1, v2, d0, d1, d2, p0, p1, p2, rfl, rfl, rfl, h0, h1, h2⟩ := trodAll_three hA
  obtain ⟨rfl, rfl⟩ := trodVars_none hV0
  clear hA0 hV0 hval0 hsz0
  simp only [List.append_nil] at hW' hsz
  have hlt : ∀ x ∈ p0 ++ p1 ++ p2, x.block < W.heap.size := fun x hx => by simpa using hW'.lt x hx
  have h0k := h0
  obtain ⟨cs0, rfl, _⟩ := okWide_struct Tryd.underlying24 (hval 0 24 v0 rfl rfl)
  obtain ⟨fu0, hf0⟩ := h0
  obtain ⟨g0, hR0, w0⟩ := open_Type fu0 _ _ hf0 (okW_each hsz (j := 0) rfl rfl)
  obtain ⟨A0, c0, e0, r0, k0⟩ := hR0.open
  obtain rfl := arr_of (show cs0.toList = _ from e0)
  have h1k := h1
  obtain ⟨cs1, rfl, _⟩ := okWide_struct Tryd.underlying24 (hval 1 24 v1 rfl rfl)
  obtain ⟨fu1, hf1⟩ := h1
  obtain ⟨g1, hR1, w1⟩ := open_Type fu1 _ _ hf1 (okW_each hsz (j := 1) rfl rfl)
  obtain ⟨A1, c1, e1, r1, k1⟩ := hR1.open
  obtain rfl := arr_of (show cs1.toList = _ from e1)
  have h2k := h2
  obtain ⟨g2, rfl⟩ := okWide_int Tryd.underlying3 (hval 2 3 v2 rfl rfl)
  obtain ⟨fu2, hf2⟩ := h2
  obtain ⟨m2, e2, w2⟩ := trod_int Tryd.underlying3 hf2
  have e2 : g2 = m2 := by simpa [Value.cells] using e2
  subst e2
  have hT : Tabs (wI W) := tabs_of hL
  obtain ⟨k, hk⟩ := swagelaw11_TypesTell.law g0 g1 g2 w0 w1 (bounds_i64 w2)
  refine (swagelaw11_TypesTell.calls k g0 g1 g2 A0 c0 A1 c1 (wI W) W true r0 k0 r1 k1 (wI_st W) hT hk).mono ?_
  rintro e W' ⟨rfl, hE⟩
  have bel := hE.below
  refine ⟨_, rfl, _, _, _, [], p0 ++ (p1 ++ p2), [], hW', ?_, ?_, rfl, bel.frame _, fun h => by cases h⟩
  · exact trodAll_mk1 (shut_bool true)
  · exact trodAll_mk3 (Below.trod Tryd.laidOut (by kernel_rfl) (of_decide_eq_true (by kernel_rfl)) h0k bel (fun x hx => hlt x (by simp [hx]))) (Below.trod Tryd.laidOut (by kernel_rfl) (of_decide_eq_true (by kernel_rfl)) h1k bel (fun x hx => hlt x (by simp [hx]))) (Below.trod Tryd.laidOut (by kernel_rfl) (of_decide_eq_true (by kernel_rfl)) h2k bel (fun x hx => hlt x (by simp [hx])))
theorem said : Rows.TypesTellSaid :=
  OpenClaim.holds_of_cond 3 Tryd.f3 rfl rfl rfl rfl rfl rfl rfl ⟨rfl, rfl, rfl, rfl, rfl⟩ rfl rfl rfl rfl rfl (by kernel_rfl) Tryd.func3 (by kernel_rfl)
    (of_decide_eq_true (by kernel_rfl)) (by unfold Func.isWrapper; rw [if_neg (of_decide_eq_false (by kernel_rfl))]; exact ⟨rfl, rfl⟩)
    (fun os started H enc _ F0 => by rw [OpenClaim.pre_eq_preRow]; exact lifted os started H enc F0)
theorem typesTell_card_holds : Rows.TypesTellCardSaid :=
  Claim7.holds_tied_plain_at .later [] [.data, .data, .data] true Rows.typesTellCard.stood.harness false
    said (fun _ h => by cases h) (by kernel_rfl) (fun _ h => by cases h) typesTell_row_tie rfl ⟨rfl, rfl⟩ (by kernel_rfl) rfl
    (fun f fn hf hfn => by
      obtain rfl : f = 3 := Option.some.inj ((show Tryd.prog.funcNamed "swage/swagelaw11.TypesTell" = some 3 by kernel_rfl).symm.trans hf) |>.symm
      obtain rfl : fn = Tryd.f3 := (Option.some.inj (Tryd.func3.symm.trans hfn)).symm
      exact ⟨by kernel_rfl, fun j t ht => by
        rw [Tryd.params3] at ht
        match j, ht with
        | 0, ht => obtain rfl : 24 = t := (by simpa using ht); exact (show Tryd.prog.wantsStandIn 24 = false by kernel_rfl)
        | 1, ht => obtain rfl : 24 = t := (by simpa using ht); exact (show Tryd.prog.wantsStandIn 24 = false by kernel_rfl)
        | 2, ht => obtain rfl : 3 = t := (by simpa using ht); exact (show Tryd.prog.wantsStandIn 3 = false by kernel_rfl)
        | j + 3, ht => exact absurd ht (by simp)⟩)
    (by kernel_rfl)
end Go.Proofs.YtoafojcfledkcaaDoor
