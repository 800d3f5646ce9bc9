/- Library functions by the shelf's contracts: their models. -/
import Derived.Test.YtoafojcfledkcaaDoorTD
import Derived.Lib.AppendIntMem
import Derived.Test.YtoafojcfledkcaaDoorShelf
import Derived.Shelf.RegionOpenPlain
import Derived.Deep.LoopGhost
import Derived.Lib.Walk
import Derived.Lib.SliceRun
namespace Go.Proofs.YtoafojcfledkcaaDoor
open Go.RowKit
set_option linter.all false

/-- The table of powers lies where the program has laid it. -/
def Tabs (I : Imm) : Prop := ∀ w, Holds I w → Lib.TabIs Tryd.prog w "internal/strconv.uint64pow10" .u64 Lib.pow10Tab
theorem Tabs.mono {I J : Imm} (h : Tabs I) (hl : Imm.le I J) : Tabs J := fun w hw => h w fun a v e => hw a v (hl a v e)
def strconv_Itoa.f (_ : Nat) (a0 : Int) : Option ByteArray := if -9223372036854775808 ≤ a0 ∧ a0 ≤ 9223372036854775807 then some ⟨(Lib.itoa a0).toArray⟩ else none
def strconv_Itoa.Post (I : Imm) (O : List Ent) (w : World) (r : ByteArray) (e : Ending) (w' : World) : Prop := e = .returned (.string r) ∧ Ext I O w I O w'
theorem strconv_Itoa.calls (k : Nat) : ∀ (a0 : Int) (I : Imm) (w : World) (r : ByteArray), St I [] w → Tabs I → strconv_Itoa.f k a0 = some r →
    Calls Tryd.prog 69 #[.int .i64 a0] w (strconv_Itoa.Post I [] w r) := by
  intro a0 I w r hS hT H
  unfold strconv_Itoa.f at H
  split at H
  · next h =>
    cases H
    refine (Tryd.strconv_Itoa a0 h.1 h.2 w (hT w hS.holds)).mono ?_
    rintro e w' ⟨rfl, k, os, rfl⟩
    exact ⟨rfl, Ext.mk0 hS (_root_.Go.Lib.below_grow _ w (Nat.le_refl _) _ _)⟩
  · cases H
def joinb (xs : List ByteArray) (sep : ByteArray) : ByteArray := ⟨(Lib.join (xs.map (·.data.toList)) sep.data.toList).toArray⟩
def strings_Join.f (_ : Nat) (a0 : List ByteArray) (a1 : ByteArray) : Option ByteArray := if a0.length = 0 then some ⟨#[]⟩ else if (Lib.join (a0.map (·.data.toList)) a1.data.toList).length ≤ 140737488355328 then some (joinb a0 a1) else none
def strings_Join.Post (I : Imm) (O : List Ent) (w : World) (r : ByteArray) (e : Ending) (w' : World) : Prop := e = .returned (.string r) ∧ Ext I O w I O w'
theorem strings_Join.calls (k : Nat) : ∀ (a0 : List ByteArray) (a1 : ByteArray) (A : Option Addr) (c : Nat) (I : Imm) (w : World) (r : ByteArray), RowsG R_string 1 16 I A a0 → a0.length ≤ c → St I [] w → strings_Join.f k a0 a1 = some r →
    Calls Tryd.prog 70 #[.slice A a0.length c, .string a1] w (strings_Join.Post I [] w r) := by
  intro a0 a1 A c I w r hr hc hS H
  unfold strings_Join.f at H
  by_cases h0 : a0.length = 0
  · rw [if_pos h0] at H
    cases H
    rw [h0]
    refine (Tryd.strings_Join_none A c a1 w).mono ?_
    rintro e w' ⟨rfl, rfl⟩
    exact ⟨rfl, Ext.refl hS⟩
  · rw [if_neg h0] at H
    split at H
    · next h =>
      cases H
      have hl := hr.len
      obtain ⟨b, o, rfl, hE⟩ := hr.elem (by omega)
      have hcell : ∀ (j : Nat) x, a0[j]? = some x → w.cell? ⟨b, o + j, none⟩ = some (.string x) := fun j x hj => by
        have hlt := (List.getElem?_eq_some_iff.1 hj).1
        obtain ⟨cs, hR, hC⟩ := hE (j : Int) (by omega) (by omega)
        obtain rfl := hR.open
        have := hS.holds _ _ (hC 0 _ rfl)
        simp only [rd, Int.toNat_natCast, List.getD_eq_getElem?_getD, hj, Option.getD_some, Nat.mul_one, Nat.add_zero] at this
        exact this
      have hb : b < w.heap.size := World.block_lt_of_cell? w _ (hcell 0 _ (List.getElem?_eq_getElem (by omega)))
      refine (Tryd.strings_Join b o c a0 a1 w hcell hb (by omega) hc h).mono ?_
      rintro e w' ⟨rfl, hb⟩
      exact ⟨rfl, Ext.mk0 hS hb⟩
    · cases H
open Go.Shelf Go.Lib in
set_option maxHeartbeats 2000000 in
set_option maxRecDepth 100000 in
/-- A copy of a slice that is not nil, wherever it lies. -/
theorem slices_Clone_Type.run (ad : Addr) (n c : Nat) (news : List Value) (w : World) (hl : news.length = n * 3) (hn : n ≤ maxLen) (hbig : n * 40 ≤ 140737488355328) (hc : ∀ j u, news[j]? = some u → w.cell? (ad.add j) = some u) (h1 : ∀ u ∈ news, u.oneCell' = true) :
    Calls Tryd.prog 63 #[.slice (some ad) n c] w fun e w' => ∃ v', e = .returned v' ∧ w'.ownsRow w.heap.size 24 3 v' n news ∧ v' ≠ .slice none 0 0 ∧ Below w.heap.size w w' := by
  have mixed : Tryd.prog.follows .mixedOrders = true := by kernel_rfl
  have q22 : ∀ (w : World) (a : Option Addr) (n c n' c' : Nat), (binOp .eql 22 (.slice a n c) (.slice none n' c')).run Tryd.prog w = .ok (.bool a.isNone) w := fun w a n c n' c' => Lib.run_eql_slice_nil w _ _ a n c n' c' Tryd.underlying22
  obtain ⟨i0, hi, hz⟩ := Option.map_eq_some_iff.1 el24
  simp only [Prod.mk.injEq] at hz
  obtain ⟨hz0, hz1, hz2⟩ := hz
  have A : Aside (∀ j u, news[j]? = some u → w.cell? (ad.add j) = some u) := hc
  clear hc
  have FG := Tryd.func63
  go_enter FG, Tryd.ntmps63
  go_wp2_with (at_builtin; refine wpList_append_own _ rfl _ _ 22 rfl w.heap.size 24 i0 _ 3 40 Tryd.underlying22 hi hz0 hz1 hz2 (by kernel_rfl) (by decide) _ _ _ rfl (World.ownsRow_made w #[] 0 (Nat.le_refl _) (Nat.zero_le _) (by simp)) ad n c news rfl ?qc1 ?qc2 ?qc3 ?qc4 ?qc5 ?qc6 ?_)
  case qc1 => exact hl
  case qc2 =>
    intro j u hj
    exact Lib.cell?_alloc_some _ (A.out j u hj)
  case qc3 => exact h1
  case qc4 => rw [Nat.zero_add]; exact hn
  case qc5 => rw [Nat.zero_add]; exact hbig
  case qc6 => simp
  intro v' w1 hown hgrow hnil
  go_wp2
  go_ret
  refine ⟨v', rfl, by simpa using hown, ?_, ?_⟩
  · exact hnil
  · exact ((Below.refl _ w).alloc (Nat.le_refl _) _).grown hgrow (by simp) (by intro k hk; simp [Value.ownBlock] at hk; omega)
set_option maxHeartbeats 2000000 in
set_option maxRecDepth 100000 in
theorem slices_Clone_Type.atnil (n c : Nat) (w : World) :
    Calls Tryd.prog 63 #[.slice none n c] w fun e w' => e = .returned (.slice none 0 0) ∧ w' = w := by
  have mixed : Tryd.prog.follows .mixedOrders = true := by kernel_rfl
  have q22 : ∀ (w : World) (a : Option Addr) (n c n' c' : Nat), (binOp .eql 22 (.slice a n c) (.slice none n' c')).run Tryd.prog w = .ok (.bool a.isNone) w := fun w a n c n' c' => Lib.run_eql_slice_nil w _ _ a n c n' c' Tryd.underlying22
  have FG := Tryd.func63
  go_enter FG, Tryd.ntmps63
  go_wp2
  go_ret
  exact ⟨rfl, rfl⟩
def slices_Clone_Type.f (_ : Nat) (a0 : List GType) : Option (List GType) := some a0
def slices_Clone_Type.Post (I : Imm) (O : List Ent) (w : World) (r : List GType) (e : Ending) (w' : World) : Prop := ∃ (J : Imm) (A1 : Option Addr) (c1 : Nat) (css1 : List (List Value)), e = .returned (.slice A1 r.length c1) ∧ Ext I O w J (.row A1 24 (List.flatten css1) (c1 * 3) :: O) w' ∧ OwnR R_Type 3 J r css1 ∧ OV 40 A1 r.length c1
theorem slices_Clone_Type.calls (k : Nat) : ∀ (a0 : List GType) (A : Option Addr) (c : Nat) (I : Imm) (w : World) (r : List GType), RowsG R_Type 3 40 I A a0 → a0.length ≤ c → St I [] w → slices_Clone_Type.f k a0 = some r →
    Calls Tryd.prog 63 #[.slice A a0.length c] w (slices_Clone_Type.Post I [] w r) := by
  intro a0 A c I w r hr hc hS H
  cases Option.some.inj H
  obtain ⟨css, hs, hk⟩ := hr
  have hb := hs.bound
  cases A with
  | none =>
    refine (slices_Clone_Type.atnil a0.length c w).mono ?_
    rintro e w' ⟨rfl, rfl⟩
    have h0 : a0.length = 0 := by
      rcases Nat.eq_zero_or_pos a0.length with h | h
      · exact h
      · obtain ⟨b, o, hA, _⟩ := hs.cells h
        cases hA
    obtain rfl := List.eq_nil_of_length_eq_zero h0
    exact ⟨I, none, 0, [], rfl, ⟨Imm.rfl' _, ⟨hS.holds, fun e he => (by simp only [List.mem_singleton] at he; subst he; exact ⟨rfl, Nat.zero_mul _⟩), by simp [ats, Ent.bs], fun b hb => by simp [ats, Ent.bs] at hb⟩, Up.refl _ _, fun _ _ e => .inl e, fun b hb => by simp [ats, Ent.bs] at hb⟩, OwnR.nil _ _ _, OV.none _⟩
  | some ad =>
    have hO : OwnR R_Type 3 I a0 css := ⟨hs.len, hk, hs.each⟩
    have hone : ∀ u ∈ css.flatten, u.oneCell' = true := fun u hu => by
      obtain ⟨cs, hcs, hu⟩ := List.mem_flatten.1 hu
      obtain ⟨i, hi, rfl⟩ := List.getElem_of_mem hcs
      obtain ⟨A1, c1, e, _⟩ := (hk i (by rw [← hs.len]; exact hi) hi).open
      rw [e] at hu
      simp only [List.mem_cons, List.not_mem_nil, or_false] at hu
      rcases hu with rfl | rfl | rfl <;> rfl
    refine (slices_Clone_Type.run ad a0.length c css.flatten w hO.flat (by unfold maxLen; omega) (by omega) (fun j u hj => ?_) hone).mono ?_
    · have hjl : j < css.flatten.length := (List.getElem?_eq_some_iff.1 hj).1
      rw [hO.flat] at hjl
      obtain ⟨b, o, hA, hC⟩ := hs.cells (by omega)
      cases hA
      rw [add_at]
      have hi : j / 3 < css.length := by rw [hs.len]; omega
      have hsz : (css[j / 3]).length = 3 := hs.each _ (List.getElem_mem _)
      have h3 : css.flatten[j / 3 * 3 + j % 3]? = some ((css[j / 3])[j % 3]'(by rw [hsz]; omega)) := flatten_get css _ _ _ _ hs.each (List.getElem?_eq_getElem hi) (List.getElem?_eq_getElem _)
      rw [show j / 3 * 3 + j % 3 = j by omega, hj] at h3
      have h4 := hC (j / 3) (j % 3) _ u (List.getElem?_eq_getElem hi) (by rw [List.getElem?_eq_getElem (by rw [hsz]; omega)]; exact h3.symm)
      have := hS.holds _ _ h4
      rwa [show o + (j / 3 * 3 + j % 3) = o + j by omega] at this
    · rintro e w' ⟨v', rfl, hown, hne, hbelow⟩
      rcases hown.2 with ⟨hv, _⟩ | ⟨g, cap, cur, rfl, hg, hh, hn, hm, hcs, ht⟩
      · exact absurd hv hne
      · refine ⟨I, some ⟨g, 0, none⟩, cap, css, rfl, ⟨Imm.rfl' _, ⟨(hS.below hbelow).holds, fun x hx => ?_, by simp [ats, Ent.bs], fun b hb a v hv => ?_⟩, Up.ofBelow hbelow _, fun _ _ e => .inl e, fun b hb => ?_⟩, hO, ⟨fun h => (by cases h), hn, hm, hb⟩⟩
        · simp only [List.mem_singleton] at hx
          subst hx
          exact ⟨rfl, cur, hh, hcs, cur.toList.drop (a0.length * 3), by rw [← ht, List.take_append_drop]⟩
        · have : b = g := by simpa [ats, Ent.bs] using hb
          subst this
          have := hS.holds.lt hv
          omega
        · have : b = g := by simpa [ats, Ent.bs] using hb
          subst this
          exact .inr hg
end Go.Proofs.YtoafojcfledkcaaDoor
