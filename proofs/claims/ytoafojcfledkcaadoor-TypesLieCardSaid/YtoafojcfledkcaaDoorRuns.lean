/- Runs: a region's operations in their order, or in whatever order; blocks, loops, calls, returns. Of no program. -/
import Derived.Test.YtoafojcfledkcaaDoorStep
import Derived.Test.YtoafojcfledkcaaDoorLast
namespace Go.Proofs.YtoafojcfledkcaaDoor
open Go.RowKit
set_option linter.all false
section
variable {P : Program} {n : Nat} {ds : List Deferred} {fr : Fr} {I : Imm} {O0 : List Ent} {w : World} {J : Imm} {O : List Ent} {ops : Array Oper} {Q : Exit → Act → World → Prop} {rest : List Oper} {o : Oper}
abbrev AtG (n : Nat) (ds : List Deferred) (fr : Fr) (I : Imm) (O0 : List Ent) (w : World) (J : Imm) (O : List Ent) (G : Act → World → Prop) : Prop := Go (At n ds fr I O0 w J O) G

/-! ## In order -/
theorem g_plain {id : Nat} (k : AtG n ds fr I O0 w J O (wpList P ops Q ops.toList)) : AtG n ds fr I O0 w J O (fun a W => (Code.region id ops false).wp P Q a W) := fun a W h => wp_region_list (k a W h)
theorem l_nil (k : AtG n ds fr I O0 w J O (fun a W => Q .normal a W)) : AtG n ds fr I O0 w J O (wpList P ops Q []) := k
theorem l_y {d : Nat} {v : Value} (hy : Y P fr J O o v) (hg : o.guard = none) (hd : o.dst = some d) (hn : d < n) (k : AtG n ds ((d, v) :: fr) I O0 w J O (wpList P ops Q rest)) : AtG n ds fr I O0 w J O (wpList P ops Q (o :: rest)) := fun a W h => by
  unfold wpList
  rw [if_pos (by simp [Region.wanted, hg])]
  refine .inl ?_
  unfold Oper.wp
  rw [hy a.eval W (fun x u hx => h.fits.eval hx) h.ext.st.sees, Oper.upon_value, hd]
  exact k _ _ ⟨h.fits.put hn v, h.ext⟩
/-- What another operation has answered. -/
theorem yields_of {a : Act} (h : Fits n ds a fr) {j dj : Nat} {oj : Oper} (hj : ops[j]? = some oj) (hd : oj.dst = some dj) {b : Bool} (hb : look fr dj = some (.bool b)) : yielded ops a.tmps j = some b := by
  have := h.at_ _ _ hb
  simp [yielded, hj, hd, this]
theorem l_yg {d j dj : Nat} {oj : Oper} {b : Bool} {v : Value} (hy : Y P fr J O o v) (hg : o.guard = some (j, b)) (hj : ops[j]? = some oj) (hdj : oj.dst = some dj) (hb : look fr dj = some (.bool b)) (hd : o.dst = some d) (hn : d < n)
    (k : AtG n ds ((d, v) :: fr) I O0 w J O (wpList P ops Q rest)) : AtG n ds fr I O0 w J O (wpList P ops Q (o :: rest)) := fun a W h => by
  unfold wpList
  rw [if_pos (by simp [Region.wanted, hg, yields_of h.fits hj hdj hb])]
  refine .inl ?_
  unfold Oper.wp
  rw [hy a.eval W (fun x u hx => h.fits.eval hx) h.ext.st.sees, Oper.upon_value, hd]
  exact k _ _ ⟨h.fits.put hn v, h.ext⟩
theorem l_off {d j dj : Nat} {oj : Oper} {b b' : Bool} (hg : o.guard = some (j, b)) (hj : ops[j]? = some oj) (hdj : oj.dst = some dj) (hb : look fr dj = some (.bool b')) (hbb : (b' == b) = false) (hd : o.dst = some d) (hn : d < n)
    (k : AtG n ds ((d, undef) :: fr) I O0 w J O (wpList P ops Q rest)) : AtG n ds fr I O0 w J O (wpList P ops Q (o :: rest)) := fun a W h => by
  unfold wpList
  have : b' ≠ b := by simpa using hbb
  rw [if_neg (by simp [Region.wanted, hg, yields_of h.fits hj hdj hb, this]), hd]
  exact k _ _ ⟨h.fits.put hn _, h.ext⟩
/-- An operation whose guard waits for one that was passed over. -/
theorem l_offu {d j dj : Nat} {oj : Oper} {b : Bool} (hg : o.guard = some (j, b)) (hj : ops[j]? = some oj) (hdj : oj.dst = some dj) (hb : look fr dj = some undef) (hd : o.dst = some d) (hn : d < n)
    (k : AtG n ds ((d, undef) :: fr) I O0 w J O (wpList P ops Q rest)) : AtG n ds fr I O0 w J O (wpList P ops Q (o :: rest)) := fun a W h => by
  unfold wpList
  have h1 := h.fits.at_ _ _ hb
  rw [if_neg (by simp [Region.wanted, hg, yielded, hj, hdj, h1, undef]), hd]
  exact k _ _ ⟨h.fits.put hn _, h.ext⟩
/-- An operation that does more than to yield. -/
def Lo (P : Program) (n : Nat) (ds : List Deferred) (fr : Fr) (I : Imm) (O0 : List Ent) (w : World) (J : Imm) (O : List Ent) (o : Oper) (Q : Exit → Act → World → Prop) (K : Act → World → Prop) : Prop := AtG n ds fr I O0 w J O (fun a W => Oper.wp P o a W K Q)
theorem l_w (hg : o.guard = none) (h : Lo P n ds fr I O0 w J O o Q (wpList P ops Q rest)) : AtG n ds fr I O0 w J O (wpList P ops Q (o :: rest)) := fun a W hA => by
  unfold wpList
  rw [if_pos (by simp [Region.wanted, hg])]
  exact .inl (h a W hA)
theorem l_wg {j dj : Nat} {oj : Oper} {b : Bool} (hg : o.guard = some (j, b)) (hj : ops[j]? = some oj) (hdj : oj.dst = some dj) (hb : look fr dj = some (.bool b)) (h : Lo P n ds fr I O0 w J O o Q (wpList P ops Q rest)) : AtG n ds fr I O0 w J O (wpList P ops Q (o :: rest)) := fun a W hA => by
  unfold wpList
  rw [if_pos (by simp [Region.wanted, hg, yields_of hA.fits hj hdj hb])]
  exact .inl (h a W hA)
variable {K : Act → World → Prop}

/-! ## What an operation does besides -/
theorem w_value {d : Nat} {v : Value} {J' : Imm} {O' : List Ent} (hd : o.dst = some d) (hn : d < n) (hrun : ∀ (ρ : Operand → Value) W, (∀ x u, opv fr x = some u → ρ x = u) → Ext I O0 w J O W → ∃ W', (execOp ρ o).run P W = .ok (.value v) W' ∧ Ext I O0 w J' O' W')
    (k : AtG n ds ((d, v) :: fr) I O0 w J' O' K) : Lo P n ds fr I O0 w J O o Q K := fun a W h => by
  obtain ⟨W', h1, h2⟩ := hrun a.eval W (fun x u hx => h.fits.eval hx) h.ext
  show Oper.wp P o a W K Q
  unfold Oper.wp
  rw [h1, Oper.upon_value, hd]
  exact k _ _ ⟨h.fits.put hn v, h2⟩
theorem w_skip {J' : Imm} {O' : List Ent} (hd : o.dst = none) (hrun : ∀ (ρ : Operand → Value) W, (∀ x u, opv fr x = some u → ρ x = u) → Ext I O0 w J O W → ∃ W', (execOp ρ o).run P W = .ok .skip W' ∧ Ext I O0 w J' O' W')
    (k : AtG n ds fr I O0 w J' O' K) : Lo P n ds fr I O0 w J O o Q K := fun a W h => by
  obtain ⟨W', h1, h2⟩ := hrun a.eval W (fun x u hx => h.fits.eval hx) h.ext
  show Oper.wp P o a W K Q
  unfold Oper.wp
  rw [h1, Oper.upon_skip, hd]
  exact k _ _ ⟨h.fits, h2⟩
/-- A new variable that holds a value. -/
theorem w_box {d : Nat} {T : TypeId} {x : Operand} {v : Value} {cs : List Value} {m : Nat} (ho : o.op = .box T x) (hx : opv fr x = some v) (hv : v.cells = cs.toArray) (hm : cs.length = m) (hd : o.dst = some d) (hn : d < n)
    (k : ∀ β, AtG n ds ((d, .pointer (some ⟨β, 0, none⟩)) :: fr) I O0 w J (.cells β T cs m :: O) K) : Lo P n ds fr I O0 w J O o Q K := fun a W h => by
  show Oper.wp P o a W K Q
  have h1 : (execOp a.eval o).run P W = .ok (.value (.pointer (some ⟨W.heap.size, 0, none⟩))) (W.alloc (.cells cs.toArray T)) := by
    simp [execOp, ho, h.fits.eval hx, Instr.box, newVar, newRow, hv]
  unfold Oper.wp
  rw [h1, Oper.upon_value, hd]
  exact k W.heap.size _ _ ⟨h.fits.put hn _, h.ext.alloc T cs hm⟩
theorem w_alloc {d : Nat} {T : TypeId} {z : Value} {cs : List Value} {m : Nat} (hz : (P.info? T).map (·.zero) = some (some z)) (ho : o.op = .alloc T) (hv : z.cells = cs.toArray) (hm : cs.length = m) (hd : o.dst = some d) (hn : d < n)
    (k : ∀ β, AtG n ds ((d, .pointer (some ⟨β, 0, none⟩)) :: fr) I O0 w J (.cells β T cs m :: O) K) : Lo P n ds fr I O0 w J O o Q K := fun a W h => by
  show Oper.wp P o a W K Q
  obtain ⟨i, hi, hz⟩ := Option.map_eq_some_iff.1 hz
  have h1 : (execOp a.eval o).run P W = .ok (.value (.pointer (some ⟨W.heap.size, 0, none⟩))) (W.alloc (.cells cs.toArray T)) := by
    simp [execOp, ho, Instr.alloc, zeroValue, typeInfo, hi, hz, newVar, newRow, hv]
  unfold Oper.wp
  rw [h1, Oper.upon_value, hd]
  exact k W.heap.size _ _ ⟨h.fits.put hn _, h.ext.alloc T cs hm⟩
/-- Stores, one behind the other, into the first cells of what is there. -/
def setL (cs : List Value) (j : Nat) : List Value → List Value
  | [] => cs
  | v :: vs => setL (cs.set j v) (j + 1) vs
theorem setL_length (vs : List Value) : ∀ (cs : List Value) (j : Nat), (setL cs j vs).length = cs.length := by
  induction vs with
  | nil => intro cs j; rfl
  | cons v vs ih => intro cs j; simp [setL, ih]
theorem run_storeCells_ent {b m : Nat} {T : TypeId} (mk : List Value → Ent) (hmk : ∀ cs W, (mk cs).ok W → Blk W b T cs m) (hset : ∀ cs W j v, j < cs.length → St J [mk cs] W → Ext J [mk cs] W J [mk (cs.set j v)] (W.setCell ⟨b, j, none⟩ v)) :
    ∀ (vs : List Value) (cs : List Value) (j i : Nat) (W : World), (∀ v ∈ vs, v.oneCell' = true) → j + i + vs.length ≤ cs.length → St J [mk cs] W →
      ∃ W', (storeCells ⟨b, j, none⟩ vs i).run P W = .ok () W' ∧ Ext J [mk cs] W J [mk (setL cs (j + i) vs)] W'
  | [], cs, j, i, W, _, _, h => ⟨W, by simp [storeCells], Ext.refl h⟩
  | v :: vs, cs, j, i, W, h1, hl, h => by
    simp only [List.length_cons] at hl
    have hj : j + i < cs.length := by omega
    have hB := hmk _ _ (h.ents (mk cs) (by simp))
    have hc := hB.cell (List.getElem?_eq_getElem hj)
    have hf := hB.free (j + i)
    have hE := hset cs W (j + i) v hj h
    obtain ⟨W', h2, h3⟩ := run_storeCells_ent mk hmk hset vs (cs.set (j + i) v) j (i + 1) (W.setCell ⟨b, j + i, none⟩ v) (fun u hu => h1 u (by simp [hu])) (by simp; omega) hE.st
    refine ⟨W', ?_, hE.trans h3⟩
    simp only [storeCells, Sem.run_bind, add_at, run_store P W _ v .plain (h1 v (by simp)), hc, hf, Result.andThen_ok]
    simpa using h2
theorem ones_of {v : Value} (h : v.cells.toList.all (·.oneCell') = true) : ∀ u ∈ v.cells.toList, u.oneCell' = true := fun u hu => List.all_eq_true.1 h u hu
theorem run_store_box {t : TypeId} {x y : Operand} {b j k m : Nat} {T : TypeId} {cs cs' : List Value} {v : Value} (hk : (P.info? t).map (·.size) = some k) (ho : o.op = .store t x y) (hx : opv fr x = some (.pointer (some ⟨b, j, none⟩))) (hy : opv fr y = some v)
    (h1 : v.cells.toList.all (·.oneCell') = true) (hs : v.cells.size = k) (hj : j + k ≤ cs.length) (hcs : setL cs j v.cells.toList = cs') {L R : List Ent} {W : World} (hE : Ext I O0 w J (L ++ .cells b T cs m :: R) W) (ρ : Operand → Value) (hρ : ∀ x u, opv fr x = some u → ρ x = u) :
    ∃ W', (execOp ρ o).run P W = .ok .skip W' ∧ Ext I O0 w J (L ++ .cells b T cs' m :: R) W' := by
  have h0 := hE.perm (perm_in _ _ _)
  have hst : St J [.cells b T cs m] W := h0.st.sub (List.Sublist.cons_cons _ (List.nil_sublist _))
  obtain ⟨W', h2, h3⟩ := run_storeCells_ent (P := P) (fun cs => .cells b T cs m) (fun cs W h => h) (fun cs W j v hj h => h.set j hj v) v.cells.toList cs j 0 W (ones_of h1) (by simp [hs]; omega) hst
  refine ⟨W', ?_, hcs ▸ hE.turn (fun _ => h3)⟩
  simp [execOp, ho, hρ _ _ hx, hρ _ _ hy, Instr.storeAt, Instr.sureAddr, storeVar, sizeOf_of hk, hs, h2]
theorem w_store {t : TypeId} {x y : Operand} {b j k m : Nat} {T : TypeId} {cs cs' : List Value} {v : Value} (L : List Ent) {R : List Ent} (hk : (P.info? t).map (·.size) = some k) (ho : o.op = .store t x y) (hx : opv fr x = some (.pointer (some ⟨b, j, none⟩))) (hy : opv fr y = some v)
    (h1 : v.cells.toList.all (·.oneCell') = true) (hs : v.cells.size = k) (hj : j + k ≤ cs.length) (hcs : setL cs j v.cells.toList = cs') (hd : o.dst = none)
    (k : AtG n ds fr I O0 w J (L ++ .cells b T cs' m :: R) K) : Lo P n ds fr I O0 w J (L ++ .cells b T cs m :: R) o Q K :=
  w_skip hd (fun ρ W hρ hE => run_store_box hk ho hx hy h1 hs hj hcs hE ρ hρ) k

/-! ## Calls -/
theorem enters_ {f : FuncId} {fn : Func} (hf : P.funcs[f]? = some fn) (hname : (fn.name == "runtime.NumGoroutine") = false) (hb : fn.body.isSome = true) (args : Array Value) (W : World) : (callFunc f args).run P W = .ok (.enter f args) W := by
  have h1 : fn.name ≠ "runtime.NumGoroutine" := by simpa using hname
  obtain ⟨c, hc⟩ := Option.isSome_iff_exists.1 hb
  simp [callFunc, hf, h1, hc]
/-- A function that has a body. -/
def Has (P : Program) (f : FuncId) : Prop := ∀ args W, (callFunc f args).run P W = .ok (.enter f args) W
theorem Has.of {f : FuncId} {fn : Func} (hf : P.funcs[f]? = some fn) (hname : (fn.name == "runtime.NumGoroutine") = false) (hb : fn.body.isSome = true) : Has P f := fun args W => enters_ hf hname hb args W
theorem w_call {d : Nat} {f : FuncId} {g : Operand} {as : Array Operand} {ts : Array TypeId} {args caps : List Value} (hf : Has P f) (ho : o.op = .call { callee := .value g, args := as, argTypes := ts }) (hg : opv fr g = some (.func (.func f) #[] caps.toArray)) (has : opvs fr as.toList = some args)
    (hd : o.dst = some d) (hn : d < n) (h : ∀ a W, Fits n ds a fr → Ext I O0 w J O W → Calls P f (args ++ caps).toArray W (fun e W' => ∃ v, e = .returned v ∧ K (a.put (some d) v) W')) : Lo P n ds fr I O0 w J O o Q K := fun a W hA => by
  show Oper.wp P o a W K Q
  have hρ : ∀ x u, opv fr x = some u → a.eval x = u := fun x u hx => hA.fits.eval hx
  have h1 : as.map a.eval = args.toArray := by apply Array.toList_inj.1; simpa using opvs_map hρ has
  have h2 : (execOp a.eval o).run P W = .ok (.enter f (args ++ caps).toArray) W := by
    simp [execOp, ho, resolve, Deferred.ofValue, hρ _ _ hg, invoke, h1, hf (args ++ caps).toArray W]
  unfold Oper.wp
  rw [h2, Oper.upon_enter]
  refine (h a W hA.fits hA.ext).mono fun e W' hh => ?_
  obtain ⟨v, rfl, hk⟩ := hh
  rw [hd]
  exact hk
/-- On from here. -/
theorem here {A G : Act → World → Prop} {a : Act} {W : World} (hA : A a W) (k : Go A G) : G a W := k a W hA

/-! ## Code -/
theorem c_seq {x y : Code} (k : AtG n ds fr I O0 w J O (fun a W => x.wp P (Exit.then (fun a W => y.wp P Q a W) Q) a W)) : AtG n ds fr I O0 w J O (fun a W => (Code.seq x y).wp P Q a W) := fun a W h => wp_seq (k a W h)
theorem c_skip (k : AtG n ds fr I O0 w J O (fun a W => Q .normal a W)) : AtG n ds fr I O0 w J O (fun a W => Code.skip.wp P Q a W) := fun a W h => wp_skip (k a W h)
theorem c_exit {id : Nat} (k : AtG n ds fr I O0 w J O (fun a W => Q (.exit id) a W)) : AtG n ds fr I O0 w J O (fun a W => (Code.exit id).wp P Q a W) := fun a W h => wp_exit (k a W h)
theorem c_ret (k : AtG n ds fr I O0 w J O (fun a W => Q .ret a W)) : AtG n ds fr I O0 w J O (fun a W => Code.ret.wp P Q a W) := fun a W h => wp_ret (k a W h)
theorem c_block {id : Nat} {c : Code} (k : AtG n ds fr I O0 w J O (fun a W => c.wp P (Exit.inBlock id Q) a W)) : AtG n ds fr I O0 w J O (fun a W => (Code.block id c).wp P Q a W) := fun a W h => wp_block (k a W h)
theorem c_true {c : Operand} {x y : Code} (hc : opv fr c = some (.bool true)) (k : AtG n ds fr I O0 w J O (fun a W => x.wp P Q a W)) : AtG n ds fr I O0 w J O (fun a W => (Code.cond c x y).wp P Q a W) := fun a W h => wp_cond_true (h.fits.eval hc) (k a W h)
theorem c_false {c : Operand} {x y : Code} (hc : opv fr c = some (.bool false)) (k : AtG n ds fr I O0 w J O (fun a W => y.wp P Q a W)) : AtG n ds fr I O0 w J O (fun a W => (Code.cond c x y).wp P Q a W) := fun a W h => wp_cond_false (h.fits.eval hc) (k a W h)
theorem x_then {e : Exit} {K : Act → World → Prop} (he : (match e with | .normal => false | _ => true) = true) (k : AtG n ds fr I O0 w J O (fun a W => Q e a W)) : AtG n ds fr I O0 w J O (fun a W => Exit.then K Q e a W) := by
  cases e <;> first | exact k | simp at he
theorem x_next {K : Act → World → Prop} (k : AtG n ds fr I O0 w J O K) : AtG n ds fr I O0 w J O (fun a W => Exit.then K Q .normal a W) := k
theorem x_in {id : Nat} (k : AtG n ds fr I O0 w J O (fun a W => Q .normal a W)) : AtG n ds fr I O0 w J O (fun a W => Exit.inBlock id Q (.exit id) a W) := fun a W h => by simpa [Exit.inBlock] using k a W h
theorem x_out {id id' : Nat} (hne : (id' == id) = false) (k : AtG n ds fr I O0 w J O (fun a W => Q (.exit id') a W)) : AtG n ds fr I O0 w J O (fun a W => Exit.inBlock id Q (.exit id') a W) := fun a W h => by
  have : id' ≠ id := by simpa using hne
  simpa [Exit.inBlock, this] using k a W h
theorem x_norm {id : Nat} (k : AtG n ds fr I O0 w J O (fun a W => Q .normal a W)) : AtG n ds fr I O0 w J O (fun a W => Exit.inBlock id Q .normal a W) := k
theorem x_ret {id : Nat} (k : AtG n ds fr I O0 w J O (fun a W => Q .ret a W)) : AtG n ds fr I O0 w J O (fun a W => Exit.inBlock id Q .ret a W) := k
/-- Both ways of a test. -/
theorem s_bool (F : Bool → Fr) (G : Bool → List Ent) (b : Bool) {A : Act → World → Prop} (hF : F b = fr) (hG : G b = O) (ht : b = true → AtG n ds (F true) I O0 w J (G true) A) (hf : b = false → AtG n ds (F false) I O0 w J (G false) A) : AtG n ds fr I O0 w J O A := by
  subst hF
  subst hG
  cases b
  · exact hf rfl
  · exact ht rfl
/-- The frame and what is owned, spelt otherwise. -/
theorem s_conv {fr' : Fr} {O' : List Ent} {A : Act → World → Prop} (hF : looks fr fr') (hO : O = O') (k : AtG n ds fr' I O0 w J O' A) : AtG n ds fr I O0 w J O A := fun a W h => k a W ⟨h.fits.only hF, hO ▸ h.ext⟩
theorem s_drop {O' : List Ent} {A : Act → World → Prop} (p : O'.Sublist O) (k : AtG n ds fr I O0 w J O' A) : AtG n ds fr I O0 w J O A := fun a W h => k a W ⟨h.fits, h.ext.drop p⟩
theorem s_perm {O' : List Ent} {A : Act → World → Prop} (p : O.Perm O') (k : AtG n ds fr I O0 w J O' A) : AtG n ds fr I O0 w J O A := fun a W h => k a W ⟨h.fits, h.ext.perm p⟩
/-- A loop: 'Inv k' at its head, k rounds at the most. -/
theorem c_loop (Inv : Nat → Act → World → Prop) {c : Code} (m : Nat) (h0 : Go (At n ds fr I O0 w J O) (Inv m)) (h : ∀ k, Go (Inv k) (fun a W => c.wp P (Exit.then (fun a' W' => ∃ k', k' < k ∧ Inv k' a' W') Q) a W)) : AtG n ds fr I O0 w J O (fun a W => (Code.loop c).wp P Q a W) := fun a W hA => by
  intro b kk cs
  have key : ∀ k a W, Inv k a W → ∃ e a' W', Q e a' W' ∧ Arrives P (lone (b.at a (.code c :: .inLoop c :: kk)) cs W) b kk cs e a' W' := by
    intro k
    induction k using Nat.strongRecOn with
    | _ k ih =>
      intro a W hI
      obtain ⟨e, a₁, w₁, hq, harr⟩ := h k a W hI b (.inLoop c :: kk) cs
      cases e with
      | normal =>
        obtain ⟨k', hlt, hI'⟩ := hq
        obtain ⟨e₂, a₂, w₂, hq₂, harr₂⟩ := ih k' hlt a₁ w₁ hI'
        exact ⟨e₂, a₂, w₂, hq₂, .of_steps (Steps.trans harr (.one step_inLoop)) harr₂⟩
      | exit id => exact ⟨_, a₁, w₁, hq, .pass (x := .inLoop c) rfl (fun _ _ => .inl (by simp)) harr⟩
      | goto l => exact ⟨_, a₁, w₁, hq, .pass (x := .inLoop c) rfl (fun _ _ => .inl (by simp)) harr⟩
      | ret => exact ⟨_, a₁, w₁, hq, .pass (x := .inLoop c) rfl (fun _ _ => .inl (by simp)) harr⟩
      | panic ch => exact ⟨_, a₁, w₁, hq, .pass (x := .inLoop c) rfl (fun _ _ => .inl (by simp)) harr⟩
      | outgrown => exact ⟨_, a₁, w₁, hq, .pass (x := .inLoop c) rfl (fun _ _ => .inl (by simp)) harr⟩
  obtain ⟨e, a', W', hq, harr⟩ := key m a W (h0 a W hA)
  exact ⟨e, a', W', hq, .of_steps (.one step_loop) harr⟩
end
end Go.Proofs.YtoafojcfledkcaaDoor
