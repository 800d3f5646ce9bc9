/- More operations that yield; rows that are read; the way in and out of a function. Of no program. -/
import Derived.Test.YtoafojcfledkcaaDoorRuns
namespace Go.Proofs.YtoafojcfledkcaaDoor
open Go.RowKit
set_option linter.all false
section
variable {P : Program} {n : Nat} {ds : List Deferred} {fr : Fr} {I : Imm} {O0 : List Ent} {w : World} {J : Imm} {O : List Ent} {ops : Array Oper} {Q : Exit → Act → World → Prop} {o : Oper} {t : TypeId}

/-! ## Values of structs -/
def StT (P : Program) (t : TypeId) (pl : List (Nat × Nat)) (z : List Value) : Prop := ∀ (parts : Array (Nat × Value)) W cells, Instr.fill (fun i => pl[i]?) z.toArray parts.toList = some cells → (Instr.build t parts).run P W = .ok (.agg cells) W
theorem run_places (fs : List Field) : ∀ (pl : List (Nat × Nat)) W, fs.map (fun f => (f.offset, (P.info? f.type).map (·.size))) = pl.map (fun p => (p.1, some p.2)) →
    (fs.mapM fun (f : Field) => do pure (f.offset, ← sizeOf f.type)).run P W = .ok pl W := by
  induction fs with
  | nil => intro pl W h; cases pl with | nil => rfl | cons a l => simp at h
  | cons f fs ih =>
    intro pl W h
    cases pl with
    | nil => simp at h
    | cons p pl =>
      simp only [List.map_cons, List.cons.injEq, Prod.mk.injEq] at h
      rw [List.mapM_cons]
      simp only [Sem.run_bind, sizeOf_of h.1.2 W, Result.andThen_ok, Sem.run_pure, ih pl W h.2, ← h.1.1]
      rw [h.1.1]
theorem StT.of {fs : Array Field} {pl : List (Nat × Nat)} {zc : List Value} {z : Value} (h : P.underlying t = some (.struct fs)) (hz : (P.info? t).map (·.zero) = some (some z)) (hzc : z.cells = zc.toArray)
    (hp : fs.toList.map (fun f => (f.offset, (P.info? f.type).map (·.size))) = pl.map (fun p => (p.1, some p.2))) : StT P t pl zc := fun parts W cells hf => by
  obtain ⟨i, hi, hz⟩ := Option.map_eq_some_iff.1 hz
  have hm : (fs.mapM fun (f : Field) => do pure (f.offset, ← sizeOf f.type)).run P W = .ok pl.toArray W := by
    rw [Array.mapM_eq_mapM_toList, Sem.run_map, run_places fs.toList pl W hp]
    rfl
  have hf' : Instr.fill (fun i => pl.toArray[i]?) zc.toArray parts.toList = some cells := by simpa using hf
  unfold Instr.build zeroValue typeInfo
  simp only [Sem.run_bind, run_program, Result.andThen_ok, hi, hz, Sem.run_pure, run_underlying h]
  rw [hm]
  simp only [Result.andThen_ok, hzc]
  rw [hf']
  rfl
/-- The parts of a literal. -/
def opps (fr : Fr) : List (Nat × Operand) → Option (List (Nat × Value))
  | [] => some []
  | (i, x) :: l => match opv fr x, opps fr l with | some v, some vs => some ((i, v) :: vs) | _, _ => none
theorem opps_map {ρ : Operand → Value} (hρ : ∀ x u, opv fr x = some u → ρ x = u) : ∀ {xs : List (Nat × Operand)} {vs : List (Nat × Value)}, opps fr xs = some vs → xs.map (fun p => (p.1, ρ p.2)) = vs
  | [], vs, h => by simpa [opps] using h
  | (i, x) :: xs, vs, h => by
    simp only [opps] at h
    split at h
    · next v us h1 h2 => cases h; simp [hρ _ _ h1, opps_map hρ h2]
    · cases h
theorem y_build {pl : List (Nat × Nat)} {z : List Value} {parts : Array (Nat × Operand)} {ps : List (Nat × Value)} (cs : List Value) (hT : StT P t pl z) (ho : o.op = .build t parts) (hp : opps fr parts.toList = some ps) (hf : Instr.fill (fun i => pl[i]?) z.toArray ps = some cs.toArray) :
    Y P fr J O o (.agg cs.toArray) := fun ρ W hρ _ => by
  have h1 : (parts.map fun x => (x.1, ρ x.2)).toList = ps := by simpa using opps_map hρ hp
  have h2 := hT (parts.map fun x => (x.1, ρ x.2)) W cs.toArray (by rw [h1]; exact hf)
  simp only [execOp, ho, Sem.run_bind]
  rw [h2]
  rfl
/-- A field of a value. -/
theorem run_part_s {t : TypeId} (hs : IsS P t) {cs : Array Value} {off : Nat} {v : Value} (hv : cs[off]? = some v) (W : World) : (part t cs off).run P W = .ok v W := by simp [part, hs W, hv]
theorem run_part_a {t : TypeId} {k : Nat} (hs : IsA P t k) {cs : Array Value} {off : Nat} (W : World) : (part t cs off).run P W = .ok (.agg (cs.extract off (off + k))) W := by simp [part, (hs W).1, (hs W).2]
def FieldV (P : Program) (s : TypeId) (f : Nat) (t : TypeId) (off : Nat) : Prop := ∃ fs fd, P.underlying s = some (.struct fs) ∧ fs[f]? = some fd ∧ fd.type = t ∧ fd.offset = off
theorem FieldV.of {s : TypeId} {f off : Nat} {fs : Array Field} (h : P.underlying s = some (.struct fs)) (hx : (fs[f]?).map (fun fd => (fd.type, fd.offset)) = some (t, off)) : FieldV P s f t off := by
  obtain ⟨fd, hf, he⟩ := Option.map_eq_some_iff.1 hx
  simp only [Prod.mk.injEq] at he
  exact ⟨fs, fd, h, hf, he.1, he.2⟩
theorem y_fieldv {s f off : Nat} {x : Operand} {cs : List Value} {v : Value} (hF : FieldV P s f t off) (hs : IsS P t) (ho : o.op = .field s x f) (hx : opv fr x = some (.agg cs.toArray)) (hv : cs[off]? = some v) : Y P fr J O o v := fun ρ W hρ _ => by
  obtain ⟨fs, fd, h1, h2, rfl, rfl⟩ := hF
  simp [execOp, ho, hρ _ _ hx, Instr.field, run_underlying h1, h2, asAgg, run_part_s hs (cs := cs.toArray) (by simpa using hv)]
theorem y_fielda {s f off k : Nat} {x : Operand} {cs cs' : List Value} (hF : FieldV P s f t off) (hs : IsA P t k) (ho : o.op = .field s x f) (hx : opv fr x = some (.agg cs.toArray)) (hv : (cs.drop off).take k = cs') : Y P fr J O o (.agg cs'.toArray) := fun ρ W hρ _ => by
  obtain ⟨fs, fd, h1, h2, rfl, rfl⟩ := hF
  subst hv
  simp [execOp, ho, hρ _ _ hx, Instr.field, run_underlying h1, h2, asAgg, run_part_a hs, List.extract_eq_take_drop]
/-! ## Builtins, conversions -/
theorem y_len {b : Option Addr} {m c : Nat} {x : Operand} {e : TypeId} (hT : P.underlying t = some (.slice e)) (ho : o.op = .call { callee := .builtin .len, args := #[x], argTypes := #[t] }) (hx : opv fr x = some (.slice b m c)) : Y P fr J O o (.int .i64 (m : Int)) := fun ρ W hρ _ => by
  simp [execOp, ho, resolve, invoke, builtin, Builtin.len_, run_underlying hT, hρ _ _ hx, goInt]
theorem y_slen {s : ByteArray} {x : Operand} (hT : P.underlying t = some .string) (ho : o.op = .call { callee := .builtin .len, args := #[x], argTypes := #[t] }) (hx : opv fr x = some (.string s)) : Y P fr J O o (.int .i64 (s.size : Int)) := fun ρ W hρ _ => by
  simp [execOp, ho, resolve, invoke, builtin, Builtin.len_, run_underlying hT, hρ _ _ hx, goInt]
theorem y_min {k k' : IntKind} {a b : Int} {x y : Operand} {ts : Array TypeId} (ho : o.op = .call { callee := .builtin .min, args := #[x, y], argTypes := ts }) (hx : opv fr x = some (.int k a)) (hy : opv fr y = some (.int k' b)) : Y P fr J O o (.int k (min a b)) := fun ρ W hρ _ => by
  have : (if b < a then b else a) = min a b := by split <;> omega
  simp [execOp, ho, resolve, invoke, builtin, Builtin.min_, Builtin.min2, hρ _ _ hx, hρ _ _ hy, this]
theorem y_max {k k' : IntKind} {a b : Int} {x y : Operand} {ts : Array TypeId} (ho : o.op = .call { callee := .builtin .max, args := #[x, y], argTypes := ts }) (hx : opv fr x = some (.int k a)) (hy : opv fr y = some (.int k' b)) : Y P fr J O o (.int k (max a b)) := fun ρ W hρ _ => by
  have : (if a < b then b else a) = max a b := by split <;> omega
  simp [execOp, ho, resolve, invoke, builtin, Builtin.max_, Builtin.max2, hρ _ _ hx, hρ _ _ hy, this]
theorem y_conv {s d : TypeId} {k k' k0 : IntKind} {a : Int} {x : Operand} (hs : P.underlying s = some (.int k0)) (hd : P.underlying d = some (.int k')) (ho : o.op = .convert s d x) (hx : opv fr x = some (.int k a)) : Y P fr J O o (.int k' (k'.wrap a)) := fun ρ W hρ _ => by
  simp [execOp, ho, convert, run_underlying hs, run_underlying hd, hρ _ _ hx, Conv.intToInt]
theorem y_nilp {x : Operand} {a : Addr} (ho : o.op = .nilCheck x) (hx : opv fr x = some (.pointer (some a))) : Y P fr J O o (.pointer (some a)) := fun ρ W hρ _ => by
  simp [execOp, ho, hρ _ _ hx]
theorem y_nilf {x : Operand} {f : FuncId} {v1 v2 : Array Value} (ho : o.op = .nilCheck x) (hx : opv fr x = some (.func (.func f) v1 v2)) : Y P fr J O o (.func (.func f) v1 v2) := fun ρ W hρ _ => by
  simp [execOp, ho, hρ _ _ hx]
/-! ## Parts of strings and slices -/
def lowv (fr : Fr) : Option Operand → Option Int
  | none => some 0
  | some x => match opv fr x with | some (.int _ q) => some q | _ => none
def highv (fr : Fr) (n : Nat) : Option Operand → Option Int
  | none => some n
  | some x => match opv fr x with | some (.int _ q) => some q | _ => none
theorem run_low {ρ : Operand → Value} (hρ : ∀ x u, opv fr x = some u → ρ x = u) {x : Option Operand} {l : Int} (hx : lowv fr x = some l) (y : Nat) (c : BoundsCode) (h0 : 0 ≤ l) (h1 : l ≤ y) (W : World) :
    (match x.map ρ with | some v => Instr.sliceBound v y c | none => pure 0).run P W = .ok l.toNat W := by
  cases x with
  | none => simp only [lowv, Option.some.injEq] at hx; subst hx; rfl
  | some x =>
    simp only [lowv] at hx
    split at hx
    · next k q hq => cases hx; simp [Instr.sliceBound, hρ _ _ hq, asIntOf, h0, h1]
    · cases hx
theorem run_high {ρ : Operand → Value} (hρ : ∀ x u, opv fr x = some u → ρ x = u) {x : Option Operand} {n : Nat} {h : Int} (hx : highv fr n x = some h) (y : Nat) (c : BoundsCode) (h0 : 0 ≤ h) (h1 : h ≤ y) (W : World) :
    (match x.map ρ with | some v => Instr.sliceBound v y c | none => pure n).run P W = .ok h.toNat W := by
  cases x with
  | none => simp only [highv, Option.some.injEq] at hx; subst hx; simp
  | some x =>
    simp only [highv] at hx
    split at hx
    · next k q hq => cases hx; simp [Instr.sliceBound, hρ _ _ hq, asIntOf, h0, h1]
    · cases hx
theorem run_bounds {ρ : Operand → Value} (hρ : ∀ x u, opv fr x = some u → ρ x = u) {lo hi : Option Operand} {n cap : Nat} {l h : Int} (hl : lowv fr lo = some l) (hh : highv fr n hi = some h) (s : Bool) (h0 : 0 ≤ l) (h1 : l ≤ h) (h2 : h ≤ cap) (W : World) :
    (Instr.sliceBounds s n cap (lo.map ρ) (hi.map ρ) none).run P W = .ok (l.toNat, h.toNat, cap) W := by
  have e1 := run_high (P := P) hρ hh cap (if s then .sliceAcap else .sliceAlen) (by omega) h2 W
  have e2 := run_low (P := P) hρ hl h.toNat .sliceB h0 (by omega) W
  unfold Instr.sliceBounds
  cases hi with
  | none =>
    cases lo with
    | none => simp at e1 e2 ⊢; exact ⟨by omega, by omega⟩
    | some x => simp at e1 e2 ⊢; simp [e1, e2]
  | some y =>
    cases lo with
    | none => simp at e1 e2 ⊢; simp [e1]; omega
    | some x => simp at e1 e2 ⊢; simp [e1, e2]
theorem y_sstr {x : Operand} {lo hi : Option Operand} {s : ByteArray} {l h : Int} (hT : P.underlying t = some .string) (ho : o.op = .slice t x lo hi none) (hx : opv fr x = some (.string s)) (hl : lowv fr lo = some l) (hh : highv fr s.size hi = some h) (h0 : 0 ≤ l) (h1 : l ≤ h) (h2 : h ≤ (s.size : Int)) :
    Y P fr J O o (.string (s.extract l.toNat h.toNat)) := fun ρ W hρ _ => by
  have := run_bounds (P := P) hρ (cap := s.size) hl hh false h0 h1 h2 W
  simp [execOp, ho, Instr.sliceAt, Instr.slice, run_underlying hT, hρ _ _ hx, this]
theorem y_sslc {x : Operand} {lo hi : Option Operand} {A : Option Addr} {m c sz : Nat} {e : TypeId} {l h : Int} (hT : SlT P t e sz) (ho : o.op = .slice t x lo hi none) (hx : opv fr x = some (.slice A m c)) (hl : lowv fr lo = some l) (hh : highv fr m hi = some h) (h0 : 0 ≤ l) (h1 : l ≤ h) (h2 : h ≤ (c : Int)) :
    Y P fr J O o (.slice (if c = l.toNat then A else A.map (·.add (l.toNat * sz))) (h.toNat - l.toNat) (c - l.toNat)) := fun ρ W hρ _ => by
  have := run_bounds (P := P) hρ (cap := c) hl hh true h0 h1 h2 W
  simp [execOp, ho, Instr.sliceAt, Instr.slice, run_underlying hT.1, sizeOf_of hT.2, hρ _ _ hx, this]
/-! ## The way in and out -/
def argFr : Nat → List Value → Fr
  | _, [] => []
  | k, v :: vs => (k, v) :: argFr (k + 1) vs
theorem look_argFr : ∀ (vs : List Value) (k t : Nat) (v : Value), look (argFr k vs) t = some v → k ≤ t ∧ vs[t - k]? = some v
  | [], k, t, v, h => by simp [argFr, look] at h
  | u :: vs, k, t, v, h => by
    simp only [argFr, look] at h
    cases hb : Nat.beq k t with
    | true =>
      rw [hb] at h
      have : k = t := Nat.eq_of_beq_eq_true hb
      subst this
      simpa using h
    | false =>
      rw [hb] at h
      have := Nat.ne_of_beq_eq_false hb
      obtain ⟨h1, h2⟩ := look_argFr vs (k + 1) t v h
      refine ⟨by omega, ?_⟩
      rw [show t - k = (t - (k + 1)) + 1 by omega]
      simpa using h2
theorem enter {f : FuncId} {fn : Func} {c : Code} {args : List Value} {R : Ending → World → Prop} (hf : P.funcs[f]? = some fn) (hb : fn.body = some c) (hn : fn.ntmps = n) (ha : args.length ≤ n) (hst : St I O0 w)
    (k : AtG n [] (argFr 0 args) I O0 w I O0 (fun a W => c.wp P (bodyPost P fn R) a W)) : Calls P f args.toArray w R := by
  refine calls_of_wp hf hb (k _ _ ⟨⟨rfl, ?_, fun t v h => ?_⟩, Ext.refl hst⟩)
  · simp [hn]; omega
  · obtain ⟨_, h⟩ := look_argFr args 0 t v h
    have hl : t < args.length := by
      have := (List.getElem?_eq_some_iff.1 h).1; omega
    simp only [Nat.sub_zero] at h
    rw [Array.getElem?_append_left (by simpa using hl)]
    simpa using h
inductive RV (P : Program) (fr : Fr) (J : Imm) (O : List Ent) : ResultVar → Value → Prop where
  | t {i : Tmp} {v : Value} (h : look fr i = some v) : RV P fr J O (.tmp i) v
  | s {p : Tmp} {ty : TypeId} {b j : Nat} {v : Value} (hs : IsS P ty) (h : look fr p = some (.pointer (some ⟨b, j, none⟩))) (hc : Cl J O ⟨b, j, none⟩ v) : RV P fr J O (.cell p ty) v
  | a {p : Tmp} {ty : TypeId} {b j k : Nat} {cs : List Value} (hs : IsA P ty k) (h : look fr p = some (.pointer (some ⟨b, j, none⟩))) (hk : cs.length = k) (hc : Cls J O b j cs) : RV P fr J O (.cell p ty) (.agg cs.toArray)
inductive RVs (P : Program) (fr : Fr) (J : Imm) (O : List Ent) : List ResultVar → List Value → Prop where
  | nil : RVs P fr J O [] []
  | cons {r : ResultVar} {v : Value} {rs : List ResultVar} {vs : List Value} (h : RV P fr J O r v) (k : RVs P fr J O rs vs) : RVs P fr J O (r :: rs) (v :: vs)
def resv : List Value → Value
  | [v] => v
  | vs => .tuple vs.toArray
theorem run_rvs {tmps : Array Value} (ht : ∀ i v, look fr i = some v → tmps[i]? = some v) {W : World} (hS : Sees J O W) {rs : List ResultVar} {vs : List Value} (h : RVs P fr J O rs vs) :
    (rs.mapM fun (r : ResultVar) => match r with | .tmp t => pure (tmps.getD t undef) | .cell a t => do loadVar t (← asAddr (tmps.getD a undef))).run P W = .ok vs W := by
  induction h with
  | nil => rfl
  | @cons r v rs vs h _ ih =>
    rw [List.mapM_cons]
    have h1 : ∀ i v, look fr i = some v → tmps.getD i undef = v := fun i v hi => by simp [ht i v hi]
    have hA : ∀ a, asAddr (.pointer (some a)) = pure a := fun _ => rfl
    cases h with
    | t h => simp only [Sem.run_bind, h1 _ _ h, Sem.run_pure, Result.andThen_ok, ih]
    | @s p ty b j _ hs h hc =>
      have hl : (loadVar ty ⟨b, j, none⟩).run P W = .ok v W := by simp [loadVar, hs W, hc W hS]
      simp only [Sem.run_bind, h1 _ _ h, hA, Sem.run_pure, Result.andThen_ok, hl, ih]
    | @a p ty b j k cs hs h hk hc =>
      have h2 := run_loadCells_list (P := P) W ⟨b, j, none⟩ cs (fun q v hq => by rw [add_at]; exact hc q v hq W hS)
      rw [hk] at h2
      have hl : (loadVar ty ⟨b, j, none⟩).run P W = .ok (.agg cs.toArray) W := by simp [loadVar, (hs W).1, (hs W).2, h2]
      simp only [Sem.run_bind, h1 _ _ h, hA, Sem.run_pure, Result.andThen_ok, hl, ih]
theorem run_results {fn : Func} {tmps : Array Value} (ht : ∀ i v, look fr i = some v → tmps[i]? = some v) {W : World} (hS : Sees J O W) {vs : List Value} (h : RVs P fr J O fn.results.toList vs) : (results fn tmps).run P W = .ok (resv vs) W := by
  have h1 := run_rvs ht hS h
  unfold results
  rw [Sem.run_bind, Array.mapM_eq_mapM_toList, Sem.run_map]
  refine Eq.trans (congrArg (fun r => Result.andThen (Result.andThen r _) _) h1) ?_
  simp only [Result.andThen_ok, Sem.run_pure]
  congr 1
  match vs with
  | [] => rfl
  | [v] => rfl
  | u :: v :: l => simp [resv]
theorem g_ret {fn : Func} {R : Ending → World → Prop} {rs : List ResultVar} (vs : List Value) (hrs : fn.results.toList = rs) (h : RVs P fr J O rs vs) (hR : ∀ W, Ext I O0 w J O W → R (.returned (resv vs)) W) : AtG n [] fr I O0 w J O (fun a W => bodyPost P fn R .ret a W) := fun a W hA => by
  subst hrs
  exact ⟨hA.fits.defers, _, run_results hA.fits.at_ hA.ext.st.sees h, hR W hA.ext⟩
theorem g_end {fn : Func} {R : Ending → World → Prop} {rs : List ResultVar} (vs : List Value) (hrs : fn.results.toList = rs) (h : RVs P fr J O rs vs) (hR : ∀ W, Ext I O0 w J O W → R (.returned (resv vs)) W) : AtG n [] fr I O0 w J O (fun a W => bodyPost P fn R .normal a W) := fun a W hA => by
  subst hrs
  exact ⟨hA.fits.defers, _, run_results hA.fits.at_ hA.ext.st.sees h, hR W hA.ext⟩
end
end Go.Proofs.YtoafojcfledkcaaDoor
