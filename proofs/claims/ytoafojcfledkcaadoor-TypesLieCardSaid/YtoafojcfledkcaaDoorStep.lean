/- Steps: what each operation does, over frames and what is seen of memory. Of no program. -/
import Derived.Test.YtoafojcfledkcaaDoorCalc
namespace Go.Proofs.YtoafojcfledkcaaDoor
open Go.RowKit
set_option linter.all false
section
variable {P : Program} {fr : Fr} {J : Imm} {O : List Ent} {o : Oper}

/-! ## What a type is -/
/-- A type of one cell. -/
def IsS (P : Program) (t : TypeId) : Prop := ∀ W, (isAgg t).run P W = .ok false W
/-- A struct or an array of k cells. -/
def IsA (P : Program) (t : TypeId) (k : Nat) : Prop := ∀ W, (isAgg t).run P W = .ok true W ∧ (sizeOf t).run P W = .ok k W
theorem IsS.of {t : TypeId} {d : TypeDesc} (h : P.underlying t = some d) (hd : (match d with | .struct _ | .array _ _ => true | _ => false) = false) : IsS P t := fun W => by
  unfold isAgg
  rw [Sem.run_bind, run_underlying h]
  simp only [Result.andThen_ok]
  cases d <;> simp_all
theorem sizeOf_of {t : TypeId} {k : Nat} (h : (P.info? t).map (·.size) = some k) (W : World) : (sizeOf t).run P W = .ok k W := by
  obtain ⟨i, hi, rfl⟩ := Option.map_eq_some_iff.1 h
  unfold sizeOf typeInfo
  simp [hi]
theorem IsA.of {t : TypeId} {d : TypeDesc} {k : Nat} (h : P.underlying t = some d) (hd : (match d with | .struct _ | .array _ _ => true | _ => false) = true) (hi : (P.info? t).map (·.size) = some k) : IsA P t k := fun W => by
  refine ⟨?_, sizeOf_of hi W⟩
  unfold isAgg
  rw [Sem.run_bind, run_underlying h]
  simp only [Result.andThen_ok]
  cases d <;> simp_all

/-! ## Cells that are seen -/
def Cl (J : Imm) (O : List Ent) (a : Addr) (v : Value) : Prop := ∀ W, Sees J O W → W.cell? a = some v
theorem cl_own {i b n j : Nat} {T : TypeId} {cs : List Value} {v : Value} (hi : O[i]? = some (.cells b T cs n)) (hv : cs[j]? = some v) : Cl J O ⟨b, j, none⟩ v := fun W h => Blk.cell (h.ents _ (mem_of_at hi)) hv
theorem cl_imm {b j : Nat} {v : Value} (h : J ⟨b, j, none⟩ = some v) : Cl J O ⟨b, j, none⟩ v := fun W hS => hS.holds _ v h
def Cls (J : Imm) (O : List Ent) (b j : Nat) (cs : List Value) : Prop := ∀ q v, cs[q]? = some v → Cl J O ⟨b, j + q, none⟩ v
theorem cls_own {i b n j : Nat} {T : TypeId} {cs cs' : List Value} (hi : O[i]? = some (.cells b T cs n)) (hv : (cs.drop j).take cs'.length = cs') : Cls J O b j cs' := fun q v hq => by
  refine cl_own hi ?_
  rw [← hv, List.getElem?_take] at hq
  split at hq
  · rwa [List.getElem?_drop] at hq
  · cases hq
/-- Cells that nobody writes. -/
def ICs (J : Imm) (b j : Nat) (cs : List Value) : Prop := ∀ q v, cs[q]? = some v → J ⟨b, j + q, none⟩ = some v
theorem ICs.mono {J K : Imm} {b j : Nat} {cs : List Value} (h : ICs J b j cs) (hl : Imm.le J K) : ICs K b j cs := fun q v hq => hl _ _ (h q v hq)
theorem ICs.cls {b j : Nat} {cs : List Value} (h : ICs J b j cs) : Cls J O b j cs := fun q v hq => cl_imm (h q v hq)
theorem ICs.cl {b j q : Nat} {cs : List Value} {v : Value} (h : ICs J b j cs) (hq : cs[q]? = some v) : Cl J O ⟨b, j + q, none⟩ v := cl_imm (h q v hq)
theorem ICs.cl0 {b j : Nat} {cs : List Value} {v : Value} (h : ICs J b j cs) (hq : cs[0]? = some v) : Cl J O ⟨b, j, none⟩ v := cl_imm (h 0 v hq)
theorem ICs.part {b j : Nat} {cs cs' : List Value} (h : ICs J b j cs) (q : Nat) (hv : (cs.drop q).take cs'.length = cs') : Cls J O b (j + q) cs' := fun p v hp => by
  rw [← hv, List.getElem?_take] at hp
  split at hp
  · rw [List.getElem?_drop] at hp
    have := h (q + p) v hp
    rw [← Nat.add_assoc] at this
    exact cl_imm this
  · cases hp
theorem add_at (b j k : Nat) : (⟨b, j, none⟩ : Addr).add k = ⟨b, j + k, none⟩ := by unfold Addr.add; split <;> simp_all

/-! ## Operations that yield -/
theorem y_move {x : Operand} {v : Value} (ho : o.op = .move x) (hx : opv fr x = some v) : Y P fr J O o v := fun ρ W hρ _ => by simp [execOp, ho, hρ _ _ hx]
theorem y_assign {x : Operand} {v : Value} (ho : o.op = .assign x) (hx : opv fr x = some v) : Y P fr J O o v := fun ρ W hρ _ => by simp [execOp, ho, hρ _ _ hx]
theorem y_pickt {c x y : Operand} {v : Value} (ho : o.op = .pick c x y) (hc : opv fr c = some (.bool true)) (hx : opv fr x = some v) : Y P fr J O o v := fun ρ W hρ _ => by simp [execOp, ho, hρ _ _ hx, hρ _ _ hc, asBool]
theorem y_pickf {c x y : Operand} {v : Value} (ho : o.op = .pick c x y) (hc : opv fr c = some (.bool false)) (hx : opv fr y = some v) : Y P fr J O o v := fun ρ W hρ _ => by simp [execOp, ho, hρ _ _ hx, hρ _ _ hc, asBool]
theorem y_load {t : TypeId} {x : Operand} {a : Addr} {v : Value} (hs : IsS P t) (ho : o.op = .load t x) (hx : opv fr x = some (.pointer (some a))) (hc : Cl J O a v) : Y P fr J O o v := fun ρ W hρ hS => by
  simp [execOp, ho, hρ _ _ hx, Instr.loadAt, Instr.sureAddr, loadVar, hs W, hc W hS]
theorem y_loadA {t : TypeId} {x : Operand} {b j k : Nat} {cs : List Value} (hs : IsA P t k) (ho : o.op = .load t x) (hx : opv fr x = some (.pointer (some ⟨b, j, none⟩))) (hk : cs.length = k) (hc : Cls J O b j cs) :
    Y P fr J O o (.agg cs.toArray) := fun ρ W hρ hS => by
  have h1 := run_loadCells_list (P := P) W ⟨b, j, none⟩ cs (fun q v hq => by rw [add_at]; exact hc q v hq W hS)
  rw [hk] at h1
  simp [execOp, ho, hρ _ _ hx, Instr.loadAt, Instr.sureAddr, loadVar, (hs W).1, (hs W).2, h1]
/-- A field's place. -/
def FieldAt (P : Program) (s : TypeId) (f off : Nat) : Prop := ∀ a W, (Instr.fieldAt s (.pointer (some a)) f).run P W = .ok (.pointer (some (a.add off))) W
theorem FieldAt.of {s : TypeId} {f off : Nat} {fs : Array Field} {k : Nat} (h : P.underlying s = some (.struct fs)) (hx : (fs[f]?).map (fun fd => (fd.offset, (P.info? fd.type).map (·.size))) = some (off, some k)) (hk : k ≠ 0) : FieldAt P s f off := fun a W => by
  obtain ⟨fd, hf, he⟩ := Option.map_eq_some_iff.1 hx
  simp only [Prod.mk.injEq] at he
  obtain ⟨rfl, hi⟩ := he
  unfold Instr.fieldAt fieldPlace
  rw [Sem.run_bind, run_underlying h]
  simp [hf, Instr.sureAddr, sizeOf_of hi, hk]
theorem y_field {s f off b j j' : Nat} {x : Operand} (hF : FieldAt P s f off) (ho : o.op = .fieldAddr s x f) (hx : opv fr x = some (.pointer (some ⟨b, j, none⟩))) (hj : j + off = j') :
    Y P fr J O o (.pointer (some ⟨b, j', none⟩)) := fun ρ W hρ hS => by
  subst hj
  simp [execOp, ho, hρ _ _ hx, hF _ W, add_at]
/-- A slice type, of elements of so many cells. -/
def SlT (P : Program) (t e : TypeId) (sz : Nat) : Prop := P.underlying t = some (.slice e) ∧ (P.info? e).map (·.size) = some sz
theorem y_index {t e : TypeId} {sz b j len cap : Nat} {x i : Operand} {k : IntKind} {q : Int} (hT : SlT P t e sz) (ho : o.op = .indexAddr t x i) (hx : opv fr x = some (.slice (some ⟨b, j, none⟩) len cap)) (hi : opv fr i = some (.int k q)) (h0 : 0 ≤ q) (h1 : q < (len : Int)) :
    Y P fr J O o (.pointer (some ⟨b, j + q.toNat * sz, none⟩)) := fun ρ W hρ hS => by
  simp [execOp, ho, hρ _ _ hx, hρ _ _ hi, Instr.indexAt, asIntOf, run_underlying hT.1, sizeOf_of hT.2, h0, h1, add_at]
theorem y_sindex {t : TypeId} {x i : Operand} {s : ByteArray} {k : IntKind} {q : Int} {v : Int} (hT : P.underlying t = some .string) (ho : o.op = .index t x i) (hx : opv fr x = some (.string s)) (hi : opv fr i = some (.int k q)) (h0 : 0 ≤ q) (h1 : q < (s.size : Int))
    (hv : ((s[q.toNat]?).map fun b => (b.toNat : Int)).getD 0 = v) : Y P fr J O o (.int .u8 v) := fun ρ W hρ hS => by
  have hq : q.toNat < s.size := by omega
  subst hv
  simp [execOp, ho, hρ _ _ hx, hρ _ _ hi, Instr.index, asIntOf, run_underlying hT, h0, hq]
theorem y_extract {x : Operand} {i : Nat} {vs : Array Value} {v : Value} (ho : o.op = .extract x i) (hx : opv fr x = some (.tuple vs)) (hv : vs[i]? = some v) : Y P fr J O o v := fun ρ W hρ _ => by
  simp [execOp, ho, hρ _ _ hx, Instr.extract, hv]
theorem y_func {fn : Fn} {first captured : Array Operand} {v1 v2 : Array Value} (ho : o.op = .makeFunc fn first captured) (h1 : ∀ ρ : Operand → Value, (∀ x u, opv fr x = some u → ρ x = u) → first.map ρ = v1) (h2 : ∀ ρ : Operand → Value, (∀ x u, opv fr x = some u → ρ x = u) → captured.map ρ = v2) :
    Y P fr J O o (.func fn v1 v2) := fun ρ W hρ _ => by
  simp [execOp, ho, Instr.makeFunc, h1 ρ hρ, h2 ρ hρ]
/-- The values of operands. -/
def opvs (fr : Fr) : List Operand → Option (List Value)
  | [] => some []
  | x :: l => match opv fr x, opvs fr l with | some v, some vs => some (v :: vs) | _, _ => none
theorem opvs_map {ρ : Operand → Value} (hρ : ∀ x u, opv fr x = some u → ρ x = u) : ∀ {xs : List Operand} {vs : List Value}, opvs fr xs = some vs → xs.map ρ = vs
  | [], vs, h => by simpa [opvs] using h
  | x :: xs, vs, h => by
    simp only [opvs] at h
    split at h
    · next v us h1 h2 => cases h; simp [hρ _ _ h1, opvs_map hρ h2]
    · cases h
theorem y_func' {fn : Fn} {first captured : Array Operand} {v1 v2 : List Value} (ho : o.op = .makeFunc fn first captured) (h1 : opvs fr first.toList = some v1) (h2 : opvs fr captured.toList = some v2) : Y P fr J O o (.func fn v1.toArray v2.toArray) :=
  y_func ho (fun ρ hρ => by apply Array.toList_inj.1; simpa using opvs_map hρ h1) (fun ρ hρ => by apply Array.toList_inj.1; simpa using opvs_map hρ h2)
/-- A binary operation's answer. -/
def Bi (P : Program) (op : BinOp) (t : TypeId) (u v r : Value) : Prop := (∀ (x y : Operand) W, (eqGuard op t x y u v).run P W = .ok () W) ∧ ∀ W, (binOp op t u v).run P W = .ok r W
theorem y_bin {op : BinOp} {t t' : TypeId} {x y : Operand} {u v r : Value} (ho : o.op = .binOp op t x y t') (hx : opv fr x = some u) (hy : opv fr y = some v) (h : Bi P op t u v r) : Y P fr J O o r := fun ρ W hρ _ => by
  simp [execOp, ho, hρ _ _ hx, hρ _ _ hy, h.1 x y W, h.2 W]
variable {t : TypeId} {k k' : IntKind} {a b : Int}
theorem bi_add : Bi P .add t (.int k a) (.int k b) (.int k (k.wrap (a + b))) := ⟨fun _ _ _ => by simp [eqGuard_add], fun W => by simp [binOp_add, Op.intArith]⟩
theorem bi_sub : Bi P .sub t (.int k a) (.int k b) (.int k (k.wrap (a - b))) := ⟨fun _ _ _ => by simp [eqGuard_sub], fun W => by simp [binOp_sub, Op.intArith]⟩
theorem bi_mul : Bi P .mul t (.int k a) (.int k b) (.int k (k.wrap (a * b))) := ⟨fun _ _ _ => by simp [eqGuard_mul], fun W => by simp [binOp_mul, Op.intArith]⟩
theorem bi_quo (h : b ≠ 0) : Bi P .quo t (.int k a) (.int k b) (.int k (k.wrap (a.tdiv b))) := ⟨fun _ _ _ => by simp [eqGuard_quo], fun W => by simp [binOp_quo, Op.intDiv, h]⟩
theorem bi_rem (h : b ≠ 0) : Bi P .rem t (.int k a) (.int k b) (.int k (a.tmod b)) := ⟨fun _ _ _ => by simp [eqGuard_rem], fun W => by simp [binOp_rem, Op.intDiv, h]⟩
theorem bi_lt : Bi P .lss t (.int k a) (.int k b) (.bool (decide (a < b))) := ⟨fun _ _ _ => by simp [eqGuard_lss], fun W => by simp [binOp_lss]⟩
theorem bi_le : Bi P .leq t (.int k a) (.int k b) (.bool (decide (a ≤ b))) := ⟨fun _ _ _ => by simp [eqGuard_leq], fun W => by simp [binOp_leq]⟩
theorem bi_gt : Bi P .gtr t (.int k a) (.int k b) (.bool (decide (b < a))) := ⟨fun _ _ _ => by simp [eqGuard_gtr], fun W => by simp [binOp_gtr]⟩
theorem bi_ge : Bi P .geq t (.int k a) (.int k b) (.bool (decide (b ≤ a))) := ⟨fun _ _ _ => by simp [eqGuard_geq], fun W => by simp [binOp_geq]⟩
theorem bi_eq : Bi P .eql t (.int k a) (.int k b) (.bool (decide (a = b))) := ⟨fun _ _ _ => by simp [eqGuard_at_int], fun W => by simp [binOp_eql]; rfl⟩
theorem bi_ne : Bi P .neq t (.int k a) (.int k b) (.bool (!decide (a = b))) := ⟨fun _ _ _ => by simp [eqGuard_at_int], fun W => by simp [binOp_neq]; rfl⟩
def seq (a b : ByteArray) : Bool := decide (a = b)
theorem toList_beq (a b : ByteArray) : (a.toList == b.toList) = seq a b := by
  unfold seq
  rw [ByteArray.toList_eq, ByteArray.toList_eq]
  by_cases h : a = b
  · subst h; simp
  · have : ¬ a.data = b.data := fun e => h (by
      obtain ⟨x⟩ := a
      obtain ⟨y⟩ := b
      exact congrArg ByteArray.mk e)
    simpa [h] using this
theorem bi_seq {a b : ByteArray} : Bi P .eql t (.string a) (.string b) (.bool (decide (a = b))) := ⟨fun _ _ _ => by simp [eqGuard_at_string], fun W => by rw [binOp_string_eql, toList_beq]; rfl⟩
theorem bi_sne {a b : ByteArray} : Bi P .neq t (.string a) (.string b) (.bool (!decide (a = b))) := ⟨fun _ _ _ => by simp [eqGuard_at_string], fun W => by rw [binOp_string_neq, toList_beq]; rfl⟩
theorem bi_sadd {a b : ByteArray} (h : a.size + b.size ≤ 9223372036854775807) : Bi P .add t (.string a) (.string b) (.string (a ++ b)) := ⟨fun _ _ _ => by simp [eqGuard_add], fun W => by rw [binOp_string_add]; exact run_string_add_sum W a b h⟩
theorem bi_beq {a b : Bool} (h : P.underlying t = some .bool) : Bi P .eql t (.bool a) (.bool b) (.bool (a == b)) := ⟨fun _ _ _ => by simp [eqGuard_at_bool], fun W => run_eql_bool W t a b h⟩
theorem bi_bne {a b : Bool} (h : P.underlying t = some .bool) : Bi P .neq t (.bool a) (.bool b) (.bool (!(a == b))) := ⟨fun _ _ _ => by simp [eqGuard_at_bool], fun W => run_neq_bool W t a b h⟩
theorem y_not {x : Operand} {b : Bool} (ho : o.op = .unOp .not t x) (hx : opv fr x = some (.bool b)) : Y P fr J O o (.bool (!b)) := fun ρ W hρ _ => by simp [execOp, ho, hρ _ _ hx, Op.unary]
theorem y_neg {x : Operand} (ho : o.op = .unOp .neg t x) (hx : opv fr x = some (.int k a)) : Y P fr J O o (.int k (k.wrap (-a))) := fun ρ W hρ _ => by simp [execOp, ho, hρ _ _ hx, Op.unary, Op.intArith]
end
end Go.Proofs.YtoafojcfledkcaaDoor
