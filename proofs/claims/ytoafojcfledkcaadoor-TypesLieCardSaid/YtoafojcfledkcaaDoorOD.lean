/- Arguments that come in. -/
import Derived.Test.YtoafojcfledkcaaDoorTD
import Derived.Test.YtoafojcfledkcaaDoorOpen
namespace Go.Proofs.YtoafojcfledkcaaDoor
open Go.RowKit
set_option linter.all false
inductive Wf_Type : GType → Prop where
  | mk (x : GType) (h0 : -9223372036854775808 ≤ x.Kind ∧ x.Kind ≤ 9223372036854775807) (h1 : -9223372036854775808 ≤ x.Count ∧ x.Count ≤ 9223372036854775807) (h2 : ∀ y ∈ x.Kids, Wf_Type y) : Wf_Type x
theorem R_Type.len {I : Imm} {x : GType} {cs : List Value} (h : R_Type I x cs) : cs.length = 3 := by
  obtain ⟨_, _, rfl, _⟩ := h.open
  rfl
theorem cellsOf24 : Tryd.prog.cellsOf 24 = 3 := by kernel_rfl
theorem bytesOf24 : Tryd.prog.bytesOf 24 = 40 := by kernel_rfl
theorem open_Type {H : Type} {enc : TypeId × Value → H} {W : World} : ∀ (n : Nat) (cs : List Value) (x : DataW H × List MemPlace), DataW.trod enc Tryd.prog W 0 (fun _ => true) true n 24 cs = some x → okW Tryd.prog 24 x.1 → ∃ g, R_Type (wI W) g cs ∧ Wf_Type g := by
  intro n
  induction n using Nat.strongRecOn with
  | _ n ih =>
    intro cs x h ho
    obtain ⟨xs, m, rfl, rfl, hl, hlen, hf⟩ := DataW.trod_struct Tryd.underlying24 h
    obtain ⟨y0, y1, y2, rfl⟩ := len3 (hlen.trans (show _ = 3 from rfl))
    replace hl := hl.trans cellsOf24
    obtain ⟨p0, p1, p2, rfl⟩ := len3 hl
    have e0 := @fieldT _ enc Tryd.prog W m 0 0 1 3 _ _ _ _ hf (by kernel_rfl) rfl
    obtain ⟨a0, q0, w0⟩ := trod_int Tryd.underlying3 e0
    have e1 := @fieldT _ enc Tryd.prog W m 1 1 1 3 _ _ _ _ hf (by kernel_rfl) rfl
    obtain ⟨a1, q1, w1⟩ := trod_int Tryd.underlying3 e1
    have e2 := @fieldT _ enc Tryd.prog W m 2 2 1 22 _ _ _ _ hf (by kernel_rfl) rfl
    obtain ⟨A2, a2, c2, q2, r2, k2, w2⟩ := open_row (R := R_Type) (Wf := fun y => Wf_Type y) (by_ := 40) Tryd.underlying22 cellsOf24 bytesOf24 (by decide) (fun _ _ _ h => h.len) (fun k hk => ih k (by omega)) e2 (okW_agg (i := 2) Tryd.underlying24 ho rfl rfl)
    simp only [List.drop, List.take, List.cons.injEq, and_true] at q0 q1 q2
    subst q0 q1 q2
    exact ⟨⟨a0, a1, a2⟩, R_Type.of ⟨a0, a1, a2⟩ A2 c2 r2 k2, Wf_Type.mk ⟨a0, a1, a2⟩ (bounds_i64 w0) (bounds_i64 w1) w2⟩
inductive Wf_Node : GNode → Prop where
  | mk (x : GNode) (h0 : -9223372036854775808 ≤ x.Kind ∧ x.Kind ≤ 9223372036854775807) (h1 : x.Text.size ≤ 140737488351232) (h2 : -9223372036854775808 ≤ x.At ∧ x.At ≤ 9223372036854775807) (h3 : ∀ y ∈ x.Kids, Wf_Node y) : Wf_Node x
theorem R_Node.len {I : Imm} {x : GNode} {cs : List Value} (h : R_Node I x cs) : cs.length = 4 := by
  obtain ⟨_, _, rfl, _⟩ := h.open
  rfl
theorem cellsOf36 : Tryd.prog.cellsOf 36 = 4 := by kernel_rfl
theorem bytesOf36 : Tryd.prog.bytesOf 36 = 56 := by kernel_rfl
theorem open_Node {H : Type} {enc : TypeId × Value → H} {W : World} : ∀ (n : Nat) (cs : List Value) (x : DataW H × List MemPlace), DataW.trod enc Tryd.prog W 0 (fun _ => true) true n 36 cs = some x → okW Tryd.prog 36 x.1 → ∃ g, R_Node (wI W) g cs ∧ Wf_Node g := by
  intro n
  induction n using Nat.strongRecOn with
  | _ n ih =>
    intro cs x h ho
    obtain ⟨xs, m, rfl, rfl, hl, hlen, hf⟩ := DataW.trod_struct Tryd.underlying36 h
    obtain ⟨y0, y1, y2, y3, rfl⟩ := len4 (hlen.trans (show _ = 4 from rfl))
    replace hl := hl.trans cellsOf36
    obtain ⟨p0, p1, p2, p3, rfl⟩ := len4 hl
    have e0 := @fieldT _ enc Tryd.prog W m 0 0 1 3 _ _ _ _ hf (by kernel_rfl) rfl
    obtain ⟨a0, q0, w0⟩ := trod_int Tryd.underlying3 e0
    have e1 := @fieldT _ enc Tryd.prog W m 1 1 1 9 _ _ _ _ hf (by kernel_rfl) rfl
    obtain ⟨a1, q1, w1⟩ := trod_str Tryd.underlying9 e1 (okW_agg (i := 1) Tryd.underlying36 ho rfl rfl)
    have e2 := @fieldT _ enc Tryd.prog W m 2 2 1 3 _ _ _ _ hf (by kernel_rfl) rfl
    obtain ⟨a2, q2, w2⟩ := trod_int Tryd.underlying3 e2
    have e3 := @fieldT _ enc Tryd.prog W m 3 3 1 34 _ _ _ _ hf (by kernel_rfl) rfl
    obtain ⟨A3, a3, c3, q3, r3, k3, w3⟩ := open_row (R := R_Node) (Wf := fun y => Wf_Node y) (by_ := 56) Tryd.underlying34 cellsOf36 bytesOf36 (by decide) (fun _ _ _ h => h.len) (fun k hk => ih k (by omega)) e3 (okW_agg (i := 3) Tryd.underlying36 ho rfl rfl)
    simp only [List.drop, List.take, List.cons.injEq, and_true] at q0 q1 q2 q3
    subst q0 q1 q2 q3
    exact ⟨⟨a0, a1, a2, a3⟩, R_Node.of ⟨a0, a1, a2, a3⟩ A3 c3 r3 k3, Wf_Node.mk ⟨a0, a1, a2, a3⟩ (bounds_i64 w0) w1 (bounds_i64 w2) w3⟩
end Go.Proofs.YtoafojcfledkcaaDoor
