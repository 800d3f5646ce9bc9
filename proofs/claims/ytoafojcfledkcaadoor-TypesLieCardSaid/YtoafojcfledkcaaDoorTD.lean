/- Kinds of values: what memory says of them; what the program's table of types says. -/
import Derived.Test.YtoafojcfledkcaaDoorOwn
import Derived.Test.YtoafojcfledkcaaDoorChecked
namespace Go.Proofs.YtoafojcfledkcaaDoor
open Go.RowKit
set_option linter.all false
structure GType where
  Kind : Int
  Count : Int
  Kids : List GType
instance : Inhabited GType := ⟨⟨0, 0, []⟩⟩
inductive R_Type (I : Imm) : GType → List Value → Prop where
  | mk (x : GType) (A1 : Option Addr) (c1 : Nat) (css : List (List Value)) (hs : Sl I 3 40 A1 x.Kids.length css) (hk : ∀ i (h : i < x.Kids.length) (h' : i < css.length), R_Type I (x.Kids[i]) (css[i])) (hc1 : x.Kids.length ≤ c1) : R_Type I x [.int .i64 x.Kind, .int .i64 x.Count, .slice A1 x.Kids.length c1]
theorem R_Type.mono : Mono R_Type := fun I J x cs hl h => by
  induction h with
  | mk x A1 c1 css hs hk hc1 ih => exact .mk x A1 c1 css (hs.mono hl) ih hc1
theorem R_Type.of {I : Imm} (x : GType) (A1 : Option Addr) (c1 : Nat) (h1 : RowsG R_Type 3 40 I A1 x.Kids) (hc1 : x.Kids.length ≤ c1) : R_Type I x [.int .i64 x.Kind, .int .i64 x.Count, .slice A1 x.Kids.length c1] := by
  obtain ⟨css, hs, hk⟩ := h1
  exact .mk x A1 c1 css hs hk hc1
theorem R_Type.open {I : Imm} {x : GType} {cs : List Value} (h : R_Type I x cs) : ∃ (A1 : Option Addr) (c1 : Nat), cs = [.int .i64 x.Kind, .int .i64 x.Count, .slice A1 x.Kids.length c1] ∧ RowsG R_Type 3 40 I A1 x.Kids ∧ x.Kids.length ≤ c1 := by
  cases h with
  | mk _ A1 c1 css hs hk hc1 => exact ⟨A1, c1, rfl, ⟨css, hs, hk⟩, hc1⟩
structure GNode where
  Kind : Int
  Text : ByteArray
  At : Int
  Kids : List GNode
instance : Inhabited GNode := ⟨⟨0, ⟨#[]⟩, 0, []⟩⟩
inductive R_Node (I : Imm) : GNode → List Value → Prop where
  | mk (x : GNode) (A1 : Option Addr) (c1 : Nat) (css : List (List Value)) (hs : Sl I 4 56 A1 x.Kids.length css) (hk : ∀ i (h : i < x.Kids.length) (h' : i < css.length), R_Node I (x.Kids[i]) (css[i])) (hc1 : x.Kids.length ≤ c1) : R_Node I x [.int .i64 x.Kind, .string x.Text, .int .i64 x.At, .slice A1 x.Kids.length c1]
theorem R_Node.mono : Mono R_Node := fun I J x cs hl h => by
  induction h with
  | mk x A1 c1 css hs hk hc1 ih => exact .mk x A1 c1 css (hs.mono hl) ih hc1
theorem R_Node.of {I : Imm} (x : GNode) (A1 : Option Addr) (c1 : Nat) (h1 : RowsG R_Node 4 56 I A1 x.Kids) (hc1 : x.Kids.length ≤ c1) : R_Node I x [.int .i64 x.Kind, .string x.Text, .int .i64 x.At, .slice A1 x.Kids.length c1] := by
  obtain ⟨css, hs, hk⟩ := h1
  exact .mk x A1 c1 css hs hk hc1
theorem R_Node.open {I : Imm} {x : GNode} {cs : List Value} (h : R_Node I x cs) : ∃ (A1 : Option Addr) (c1 : Nat), cs = [.int .i64 x.Kind, .string x.Text, .int .i64 x.At, .slice A1 x.Kids.length c1] ∧ RowsG R_Node 4 56 I A1 x.Kids ∧ x.Kids.length ≤ c1 := by
  cases h with
  | mk _ A1 c1 css hs hk hc1 => exact ⟨A1, c1, rfl, ⟨css, hs, hk⟩, hc1⟩
def R_u8 (_ : Imm) (x : Int) (cs : List Value) : Prop := cs = [.int .u8 x]
theorem R_u8.open {I : Imm} {x : Int} {cs : List Value} (h : R_u8 I x cs) : cs = [.int .u8 x] := h
theorem R_u8.mono : Mono R_u8 := fun I J x cs hl h => h
theorem R_u8.of {I : Imm} (x : Int) : R_u8 I x [.int .u8 x] := rfl
def R_string (_ : Imm) (x : ByteArray) (cs : List Value) : Prop := cs = [.string x]
theorem R_string.open {I : Imm} {x : ByteArray} {cs : List Value} (h : R_string I x cs) : cs = [.string x] := h
theorem R_string.mono : Mono R_string := fun I J x cs hl h => h
theorem R_string.of {I : Imm} (x : ByteArray) : R_string I x [.string x] := rfl
theorem ia24 : IsA Tryd.prog 24 3 := .of Tryd.underlying24 rfl (by kernel_rfl)
theorem fa24_2 : FieldAt Tryd.prog 24 2 2 := .of (k := 1) Tryd.underlying24 (by kernel_rfl) (by decide)
theorem is22 : IsS Tryd.prog 22 := .of Tryd.underlying22 rfl
theorem zz3 : (Tryd.prog.info? 3).map (·.zero) = some (some (.int .i64 0)) := by kernel_rfl
theorem sz3 : (Tryd.prog.info? 3).map (·.size) = some 1 := by kernel_rfl
theorem fa24_0 : FieldAt Tryd.prog 24 0 0 := .of (k := 1) Tryd.underlying24 (by kernel_rfl) (by decide)
theorem is3 : IsS Tryd.prog 3 := .of Tryd.underlying3 rfl
theorem fa24_1 : FieldAt Tryd.prog 24 1 1 := .of (k := 1) Tryd.underlying24 (by kernel_rfl) (by decide)
theorem has131 : Has Tryd.prog 131 := .of Tryd.func131 rfl rfl
theorem has114 : Has Tryd.prog 114 := .of Tryd.func114 rfl rfl
theorem sl22 : SlT Tryd.prog 22 24 3 := ⟨Tryd.underlying22, by kernel_rfl⟩
theorem zz24 : (Tryd.prog.info? 24).map (·.zero) = some (some (.agg #[.int .i64 0, .int .i64 0, .slice none 0 0])) := by kernel_rfl
theorem sz24 : (Tryd.prog.info? 24).map (·.size) = some 3 := by kernel_rfl
theorem has65 : Has Tryd.prog 65 := .of Tryd.func65 rfl rfl
theorem has19 : Has Tryd.prog 19 := .of Tryd.func19 rfl rfl
theorem has68 : Has Tryd.prog 68 := .of Tryd.func68 rfl rfl
theorem has23 : Has Tryd.prog 23 := .of Tryd.func23 rfl rfl
theorem st24 : StT Tryd.prog 24 [(0, 1), (1, 1), (2, 1)] [.int .i64 0, .int .i64 0, .slice none 0 0] := .of Tryd.underlying24 (z := .agg #[.int .i64 0, .int .i64 0, .slice none 0 0]) (by kernel_rfl) rfl (by kernel_rfl)
theorem ez24 : (Tryd.prog.info? 24).map (fun i => (i.zero, i.size)) = some (some (.agg #[.int .i64 0, .int .i64 0, .slice none 0 0]), 3) := by kernel_rfl
theorem has62 : Has Tryd.prog 62 := .of Tryd.func62 rfl rfl
theorem has67 : Has Tryd.prog 67 := .of Tryd.func67 rfl rfl
theorem has66 : Has Tryd.prog 66 := .of Tryd.func66 rfl rfl
theorem mixed_ : Tryd.prog.follows .mixedOrders = true := by kernel_rfl
theorem has64 : Has Tryd.prog 64 := .of Tryd.func64 rfl rfl
theorem has20 : Has Tryd.prog 20 := .of Tryd.func20 rfl rfl
theorem has16 : Has Tryd.prog 16 := .of Tryd.func16 rfl rfl
theorem has13 : Has Tryd.prog 13 := .of Tryd.func13 rfl rfl
theorem el24 : (Tryd.prog.info? 24).map (fun i => (i.zero, i.size, i.bytes)) = some (some (.agg #[.int .i64 0, .int .i64 0, .slice none 0 0]), 3, 40) := by kernel_rfl
theorem sz22 : (Tryd.prog.info? 22).map (·.size) = some 1 := by kernel_rfl
theorem has21 : Has Tryd.prog 21 := .of Tryd.func21 rfl rfl
theorem has135 : Has Tryd.prog 135 := .of Tryd.func135 rfl rfl
theorem has136 : Has Tryd.prog 136 := .of Tryd.func136 rfl rfl
theorem fa36_3 : FieldAt Tryd.prog 36 3 3 := .of (k := 1) Tryd.underlying36 (by kernel_rfl) (by decide)
theorem is34 : IsS Tryd.prog 34 := .of Tryd.underlying34 rfl
theorem fa36_0 : FieldAt Tryd.prog 36 0 0 := .of (k := 1) Tryd.underlying36 (by kernel_rfl) (by decide)
theorem fa36_1 : FieldAt Tryd.prog 36 1 1 := .of (k := 1) Tryd.underlying36 (by kernel_rfl) (by decide)
theorem is9 : IsS Tryd.prog 9 := .of Tryd.underlying9 rfl
theorem has120 : Has Tryd.prog 120 := .of Tryd.func120 rfl rfl
theorem sl34 : SlT Tryd.prog 34 36 4 := ⟨Tryd.underlying34, by kernel_rfl⟩
theorem ia36 : IsA Tryd.prog 36 4 := .of Tryd.underlying36 rfl (by kernel_rfl)
theorem has74 : Has Tryd.prog 74 := .of Tryd.func74 rfl rfl
theorem has118 : Has Tryd.prog 118 := .of Tryd.func118 rfl rfl
theorem has119 : Has Tryd.prog 119 := .of Tryd.func119 rfl rfl
theorem zz36 : (Tryd.prog.info? 36).map (·.zero) = some (some (.agg #[.int .i64 0, .string ⟨#[]⟩, .int .i64 0, .slice none 0 0])) := by kernel_rfl
theorem sz36 : (Tryd.prog.info? 36).map (·.size) = some 4 := by kernel_rfl
theorem has73 : Has Tryd.prog 73 := .of Tryd.func73 rfl rfl
theorem ez5 : (Tryd.prog.info? 5).map (fun i => (i.zero, i.size)) = some (some (.int .u8 0), 1) := by kernel_rfl
theorem has134 : Has Tryd.prog 134 := .of Tryd.func134 rfl rfl
theorem has117 : Has Tryd.prog 117 := .of Tryd.func117 rfl rfl
theorem has72 : Has Tryd.prog 72 := .of Tryd.func72 rfl rfl
theorem has26 : Has Tryd.prog 26 := .of Tryd.func26 rfl rfl
theorem ez9 : (Tryd.prog.info? 9).map (fun i => (i.zero, i.size)) = some (some (.string ⟨#[]⟩), 1) := by kernel_rfl
theorem el9 : (Tryd.prog.info? 9).map (fun i => (i.zero, i.size, i.bytes)) = some (some (.string ⟨#[]⟩), 1, 16) := by kernel_rfl
theorem sl78 : SlT Tryd.prog 78 9 1 := ⟨Tryd.underlying78, by kernel_rfl⟩
theorem has69 : Has Tryd.prog 69 := .of Tryd.func69 rfl rfl
theorem has70 : Has Tryd.prog 70 := .of Tryd.func70 rfl rfl
theorem has27 : Has Tryd.prog 27 := .of Tryd.func27 rfl rfl
theorem has71 : Has Tryd.prog 71 := .of Tryd.func71 rfl rfl
theorem has63 : Has Tryd.prog 63 := .of Tryd.func63 rfl rfl
theorem has14 : Has Tryd.prog 14 := .of Tryd.func14 rfl rfl
theorem has61 : Has Tryd.prog 61 := .of Tryd.func61 rfl rfl
theorem has17 : Has Tryd.prog 17 := .of Tryd.func17 rfl rfl
theorem st36 : StT Tryd.prog 36 [(0, 1), (1, 1), (2, 1), (3, 1)] [.int .i64 0, .string ⟨#[]⟩, .int .i64 0, .slice none 0 0] := .of Tryd.underlying36 (z := .agg #[.int .i64 0, .string ⟨#[]⟩, .int .i64 0, .slice none 0 0]) (by kernel_rfl) rfl (by kernel_rfl)
theorem ez36 : (Tryd.prog.info? 36).map (fun i => (i.zero, i.size)) = some (some (.agg #[.int .i64 0, .string ⟨#[]⟩, .int .i64 0, .slice none 0 0]), 4) := by kernel_rfl
theorem has29 : Has Tryd.prog 29 := .of Tryd.func29 rfl rfl
theorem has15 : Has Tryd.prog 15 := .of Tryd.func15 rfl rfl
theorem has24 : Has Tryd.prog 24 := .of Tryd.func24 rfl rfl
theorem has11 : Has Tryd.prog 11 := .of Tryd.func11 rfl rfl
theorem has12 : Has Tryd.prog 12 := .of Tryd.func12 rfl rfl
theorem has18 : Has Tryd.prog 18 := .of Tryd.func18 rfl rfl
theorem has22 : Has Tryd.prog 22 := .of Tryd.func22 rfl rfl
theorem has25 : Has Tryd.prog 25 := .of Tryd.func25 rfl rfl
theorem has28 : Has Tryd.prog 28 := .of Tryd.func28 rfl rfl
theorem has30 : Has Tryd.prog 30 := .of Tryd.func30 rfl rfl
end Go.Proofs.YtoafojcfledkcaaDoor
