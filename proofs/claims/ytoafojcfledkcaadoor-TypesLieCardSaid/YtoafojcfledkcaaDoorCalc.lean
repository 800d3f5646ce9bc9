/- A calculus of walks: what a call owns of memory is a list, beside it what nobody writes; one lemma an operation. Of no program. -/
import Derived.WalkKit
import Derived.KernelRfl
import Derived.OrdersHeld
import Derived.Deep.AppendLies
import Derived.OwnWalk
import Derived.Laws.Rows
import Derived.Laws.Tables
namespace Go.Proofs.YtoafojcfledkcaaDoor
open Go.RowKit
set_option linter.all false

/-! ## Memory -/
abbrev Imm := Addr → Option Value
def Imm.le (I J : Imm) : Prop := ∀ a v, I a = some v → J a = some v
/-- What is known at an address: a cell; at an address with a spot: the whole block. -/
def seen (w : World) (a : Addr) (v : Value) : Prop := match a.spot with | none => w.cell? a = some v | some _ => ∃ arr T fr, v = .agg arr ∧ w.heap[a.block]? = some (.cells arr T fr)
theorem seen.of {w w' : World} {a : Addr} {v : Value} (h : seen w a v) (hb : w'.heap[a.block]? = w.heap[a.block]?) : seen w' a v := by
  unfold seen at h ⊢
  split at h
  · exact (World.cell?_of_block hb).trans h
  · obtain ⟨arr, T, fr, e, h⟩ := h
    exact ⟨arr, T, fr, e, hb.trans h⟩
theorem seen.lt {w : World} {a : Addr} {v : Value} (h : seen w a v) : a.block < w.heap.size := by
  unfold seen at h
  split at h
  · exact World.block_lt_of_cell? w a h
  · obtain ⟨arr, T, fr, e, h⟩ := h
    exact (Array.getElem?_eq_some_iff.1 h).1
def Holds (I : Imm) (w : World) : Prop := ∀ a v, I a = some v → seen w a v
theorem Imm.rfl' (I : Imm) : Imm.le I I := fun _ _ h => h
theorem Imm.le.trans {I J K : Imm} (h : Imm.le I J) (k : Imm.le J K) : Imm.le I K := fun a v e => k a v (h a v e)
theorem Holds.lt {I : Imm} {w : World} {a : Addr} {v : Value} (h : Holds I w) (e : I a = some v) : a.block < w.heap.size := (h a v e).lt

/-- What a call owns: a block of cells, of which the first are known; a row of cells, or none; an object over blocks of its own. -/
inductive Ent where
  | cells (b : Nat) (T : TypeId) (cs : List Value) (size : Nat)
  | row (A : Option Addr) (T : TypeId) (cs : List Value) (size : Nat)
  | obj (bs : List Nat) (p : World → Prop) (stable : ∀ W W', (∀ b ∈ bs, W'.heap[b]? = W.heap[b]?) → p W → p W')
def Ent.bs : Ent → List Nat
  | .cells b _ _ _ => [b]
  | .row none _ _ _ => []
  | .row (some a) _ _ _ => [a.block]
  | .obj bs _ _ => bs
/-- A block's cells: the first of them. -/
def Blk (W : World) (b : Nat) (T : TypeId) (cs : List Value) (size : Nat) : Prop := ∃ arr : Array Value, W.heap[b]? = some (.cells arr T (0, 0)) ∧ arr.size = size ∧ ∃ junk, arr.toList = cs ++ junk
def Ent.ok (W : World) : Ent → Prop
  | .cells b T cs size => Blk W b T cs size
  | .row none _ cs size => cs = [] ∧ size = 0
  | .row (some a) T cs size => a = ⟨a.block, 0, none⟩ ∧ Blk W a.block T cs size
  | .obj bs p _ => (∀ b ∈ bs, b < W.heap.size) ∧ p W
abbrev ats (O : List Ent) : List Nat := O.flatMap Ent.bs
theorem Blk.world {W W' : World} {b : Nat} {T : TypeId} {cs : List Value} {size : Nat} (h : Blk W b T cs size) (hb : W'.heap[b]? = W.heap[b]?) : Blk W' b T cs size := by
  obtain ⟨arr, h1, h2⟩ := h
  exact ⟨arr, hb.trans h1, h2⟩
theorem Blk.lt {W : World} {b : Nat} {T : TypeId} {cs : List Value} {size : Nat} (h : Blk W b T cs size) : b < W.heap.size := by
  obtain ⟨arr, h1, _⟩ := h
  exact (Array.getElem?_eq_some_iff.1 h1).1
theorem lt_of_same {W W' : World} {b : Nat} (hl : b < W.heap.size) (h : W'.heap[b]? = W.heap[b]?) : b < W'.heap.size := by
  rw [Array.getElem?_eq_getElem hl] at h
  exact (Array.getElem?_eq_some_iff.1 h).1
theorem Ent.ok.world {W W' : World} {e : Ent} (h : e.ok W) (hb : ∀ b ∈ e.bs, W'.heap[b]? = W.heap[b]?) : e.ok W' := by
  cases e with
  | cells b T cs size => exact Blk.world h (hb b (by simp [Ent.bs]))
  | row A T cs size =>
    cases A with
    | none => exact h
    | some a => exact ⟨h.1, Blk.world h.2 (hb _ (by simp [Ent.bs]))⟩
  | obj bs p st => exact ⟨fun b hm => lt_of_same (h.1 b hm) (hb b hm), st W W' hb h.2⟩
theorem Ent.ok.lt {W : World} {e : Ent} (h : e.ok W) : ∀ b ∈ e.bs, b < W.heap.size := by
  cases e with
  | cells b T cs size => intro c hc; simp only [Ent.bs, List.mem_singleton] at hc; subst hc; exact Blk.lt h
  | row A T cs size =>
    cases A with
    | none => intro c hc; simp [Ent.bs] at hc
    | some a => intro c hc; simp only [Ent.bs, List.mem_singleton] at hc; subst hc; exact Blk.lt h.2
  | obj bs p st => exact h.1
theorem mem_ats {O : List Ent} {b : Nat} : b ∈ ats O ↔ ∃ e ∈ O, b ∈ e.bs := List.mem_flatMap
structure St (I : Imm) (O : List Ent) (w : World) : Prop where
  holds : Holds I w
  ents : ∀ e ∈ O, e.ok w
  nodup : (ats O).Nodup
  off : ∀ b ∈ ats O, ∀ a v, I a = some v → a.block ≠ b
theorem St.lt {I : Imm} {O : List Ent} {w : World} (h : St I O w) : ∀ b ∈ ats O, b < w.heap.size := fun b hb => by
  obtain ⟨e, he, hb⟩ := mem_ats.1 hb
  exact (h.ents e he).lt b hb
/-- Outside the blocks B all that was is as it was. -/
structure Up (B : List Nat) (w w' : World) : Prop where
  os : w'.os = w.os
  tape : w'.tape = w.tape
  output : w'.output = w.output
  size : w.heap.size ≤ w'.heap.size
  block : ∀ k, k < w.heap.size → k ∉ B → w'.heap[k]? = w.heap[k]?
theorem Up.refl (B : List Nat) (w : World) : Up B w w := ⟨rfl, rfl, rfl, Nat.le_refl _, fun _ _ _ => rfl⟩
theorem Up.below {w w' : World} (h : Up [] w w') : Below w.heap.size w w' := ⟨h.os, h.tape, h.output, h.size, fun k hk => h.block k hk (by simp)⟩
theorem Up.ofBelow {w w' : World} (h : Below w.heap.size w w') (B : List Nat) : Up B w w' := ⟨h.os, h.tape, h.output, h.size, fun k hk _ => h.block k hk⟩
theorem Up.mono {B C : List Nat} {w w' : World} (h : Up B w w') (hs : ∀ b ∈ B, b ∈ C) : Up C w w' := ⟨h.os, h.tape, h.output, h.size, fun k hk hn => h.block k hk (fun hm => hn (hs k hm))⟩
structure Ext (I : Imm) (O : List Ent) (w : World) (J : Imm) (O' : List Ent) (w' : World) : Prop where
  le : Imm.le I J
  st : St J O' w'
  up : Up (ats O) w w'
  dom : ∀ a v, J a = some v → I a = some v ∨ w.heap.size ≤ a.block ∨ a.block ∈ ats O
  sub : ∀ b ∈ ats O', b ∈ ats O ∨ w.heap.size ≤ b
theorem Ext.refl {I : Imm} {O : List Ent} {w : World} (h : St I O w) : Ext I O w I O w :=
  ⟨Imm.rfl' I, h, Up.refl _ _, fun _ _ e => .inl e, fun _ hb => .inl hb⟩
theorem Ext.trans {I J K : Imm} {O O1 O2 : List Ent} {w w1 w2 : World} (h : Ext I O w J O1 w1) (k : Ext J O1 w1 K O2 w2) : Ext I O w K O2 w2 := by
  refine ⟨h.le.trans k.le, k.st, ⟨k.up.os.trans h.up.os, k.up.tape.trans h.up.tape, k.up.output.trans h.up.output, Nat.le_trans h.up.size k.up.size, fun b hb hn => ?_⟩, fun a v e => ?_, fun b hb => ?_⟩
  · have h1 : b < w1.heap.size := Nat.lt_of_lt_of_le hb h.up.size
    refine (k.up.block b h1 (fun hm => ?_)).trans (h.up.block b hb hn)
    rcases h.sub b hm with h2 | h2
    · exact hn h2
    · omega
  · rcases k.dom a v e with e | e | e
    · exact h.dom a v e
    · exact .inr (.inl (Nat.le_trans h.up.size e))
    · rcases h.sub _ e with e | e
      · exact .inr (.inr e)
      · exact .inr (.inl e)
  · rcases k.sub b hb with e | e
    · exact h.sub b e
    · exact .inr (Nat.le_trans h.up.size e)
theorem ats_append (O1 O2 : List Ent) : ats (O1 ++ O2) = ats O1 ++ ats O2 := List.flatMap_append
/-- Behind a call that owned O1 of it. -/
theorem Ext.frame {J K : Imm} {O1 O2 O1' : List Ent} {W W' : World} (h : St J (O1 ++ O2) W) (k : Ext J O1 W K O1' W') : Ext J (O1 ++ O2) W K (O1' ++ O2) W' := by
  have hn := h.nodup
  rw [ats_append] at hn
  have hdis : ∀ b ∈ ats O1, b ∉ ats O2 := fun b h1 h2 => (List.nodup_append.1 hn).2.2 b h1 b h2 rfl
  have h2lt : ∀ b ∈ ats O2, b < W.heap.size := fun b hb => h.lt b (by rw [ats_append]; exact List.mem_append_right _ hb)
  refine ⟨k.le, ⟨k.st.holds, fun e he => ?_, ?_, fun b hb a v hv => ?_⟩, k.up.mono (fun b hb => by rw [ats_append]; exact List.mem_append_left _ hb), fun a v e => ?_, fun b hb => ?_⟩
  · rcases List.mem_append.1 he with he | he
    · exact k.st.ents e he
    · refine (h.ents e (List.mem_append_right _ he)).world (fun b hb => ?_)
      have hm : b ∈ ats O2 := mem_ats.2 ⟨e, he, hb⟩
      exact k.up.block _ (h2lt b hm) (fun h1 => hdis b h1 hm)
  · rw [ats_append]
    refine List.nodup_append.2 ⟨k.st.nodup, (List.nodup_append.1 hn).2.1, fun a ha b hb hab => ?_⟩
    subst hab
    rcases k.sub a ha with h1 | h1
    · exact hdis a h1 hb
    · have := h2lt a hb; omega
  · rw [ats_append] at hb
    rcases List.mem_append.1 hb with hb | hb
    · exact k.st.off b hb a v hv
    · rcases k.dom a v hv with h1 | h1 | h1
      · exact h.off b (by rw [ats_append]; exact List.mem_append_right _ hb) a v h1
      · have := h2lt b hb; omega
      · intro hab
        exact hdis _ h1 (hab ▸ hb)
  · rcases k.dom a v e with h1 | h1 | h1
    · exact .inl h1
    · exact .inr (.inl h1)
    · exact .inr (.inr (by rw [ats_append]; exact List.mem_append_left _ h1))
  · rw [ats_append] at hb ⊢
    simp only [List.mem_append] at hb ⊢
    rcases hb with hb | hb
    · rcases k.sub b hb with h1 | h1
      · exact .inl (.inl h1)
      · exact .inr h1
    · exact .inl (.inr hb)
theorem ats_perm {O O' : List Ent} (p : O.Perm O') : (ats O).Perm (ats O') := p.flatMap_right _
theorem St.perm {I : Imm} {O O' : List Ent} {w : World} (h : St I O w) (p : O.Perm O') : St I O' w :=
  ⟨h.holds, fun e he => h.ents e (p.mem_iff.2 he), (ats_perm p).nodup_iff.1 h.nodup, fun b hb => h.off b ((ats_perm p).mem_iff.2 hb)⟩
theorem Ext.perm {I J : Imm} {O O1 O2 : List Ent} {w w' : World} (h : Ext I O w J O1 w') (p : O1.Perm O2) : Ext I O w J O2 w' :=
  ⟨h.le, h.st.perm p, h.up, h.dom, fun b hb => h.sub b ((ats_perm p).mem_iff.2 hb)⟩
theorem ats_sub {O O' : List Ent} (p : O'.Sublist O) : (ats O').Sublist (ats O) := by
  induction p with
  | slnil => exact List.Sublist.refl _
  | cons a _ ih => simp only [ats, List.flatMap_cons]; exact ih.trans (List.sublist_append_right _ _)
  | cons_cons a _ ih => simp only [ats, List.flatMap_cons]; exact List.Sublist.append (List.Sublist.refl _) ih
theorem St.sub {I : Imm} {O O' : List Ent} {w : World} (h : St I O w) (p : O'.Sublist O) : St I O' w :=
  ⟨h.holds, fun e he => h.ents e (p.subset he), (ats_sub p).nodup h.nodup, fun b hb => h.off b ((ats_sub p).subset hb)⟩
theorem Ext.drop {I J : Imm} {O O1 O2 : List Ent} {w w' : World} (h : Ext I O w J O1 w') (p : O2.Sublist O1) : Ext I O w J O2 w' :=
  ⟨h.le, h.st.sub p, h.up, h.dom, fun b hb => h.sub b ((ats_sub p).subset hb)⟩
theorem Ext.below {I J : Imm} {O1 : List Ent} {w w' : World} (h : Ext I [] w J O1 w') : Below w.heap.size w w' := Up.below h.up
theorem St.below {I : Imm} {O : List Ent} {w w' : World} (h : St I O w) (hb : Below w.heap.size w w') : St I O w' :=
  ⟨fun a v e => (h.holds a v e).of (hb.block _ (h.holds.lt e)), fun e he => (h.ents e he).world (fun b hm => hb.block _ ((h.ents e he).lt b hm)), h.nodup, h.off⟩
theorem Ext.belowC {I J : Imm} {O O1 : List Ent} {w w1 w2 : World} (h : Ext I O w J O1 w1) (hb : Below w1.heap.size w1 w2) : Ext I O w J O1 w2 :=
  h.trans ⟨Imm.rfl' _, h.st.below hb, Up.ofBelow hb _, fun _ _ e => .inl e, fun _ h => .inl h⟩
theorem Ext.drew {I J : Imm} {O O1 : List Ent} {w w1 : World} (h : Ext I O w J O1 w1) : Ext I O w J O1 w1.drew := h.belowC (Below.drew (Below.refl _ _))
theorem Ext.mk0 {I : Imm} {O : List Ent} {w w' : World} (h : St I O w) (hb : Below w.heap.size w w') : Ext I O w I O w' := (Ext.refl h).belowC hb
theorem heap_new (W : World) (o : Obj) : (W.alloc o).heap[W.heap.size]? = some o := heap_alloc_new W o
/-- A new block. -/
theorem St.alloc {J : Imm} {W : World} (h : St J [] W) (T : TypeId) (cs : List Value) {n : Nat} (hn : cs.length = n) : Ext J [] W J [.cells W.heap.size T cs n] (W.alloc (.cells cs.toArray T)) := by
  have hb : Below W.heap.size W (W.alloc (.cells cs.toArray T)) := (Below.refl _ W).alloc (Nat.le_refl _) _
  refine ⟨Imm.rfl' _, ⟨(h.below hb).holds, fun e he => ?_, by simp [ats, Ent.bs], fun b hm a v hv => ?_⟩, Up.ofBelow hb _, fun _ _ e => .inl e, fun b hm => ?_⟩
  · simp only [List.mem_singleton] at he
    subst he
    exact ⟨cs.toArray, heap_new _ _, by simpa using hn, [], by simp⟩
  · simp only [ats, List.flatMap_cons, List.flatMap_nil, Ent.bs, List.append_nil, List.mem_singleton] at hm
    have := h.holds.lt hv
    omega
  · simp only [ats, List.flatMap_cons, List.flatMap_nil, Ent.bs, List.append_nil, List.mem_singleton] at hm
    subst hm
    exact .inr (Nat.le_refl _)
theorem Ext.new {I J K : Imm} {O O1 N : List Ent} {w W W' : World} (h : Ext I O w J O1 W) (k : Ext J [] W K N W') : Ext I O w K (N ++ O1) W' := h.trans (Ext.frame (O1 := []) h.st k)
theorem Ext.alloc {I J : Imm} {O O1 : List Ent} {w W : World} (h : Ext I O w J O1 W) (T : TypeId) (cs : List Value) {n : Nat} (hn : cs.length = n) :
    Ext I O w J (.cells W.heap.size T cs n :: O1) (W.alloc (.cells cs.toArray T)) := h.new (St.alloc (h.st.sub (List.nil_sublist _)) T cs hn)
theorem Up.setCell (W : World) (b j : Nat) (v : Value) : Up [b] W (W.setCell ⟨b, j, none⟩ v) :=
  ⟨rfl, rfl, rfl, by simp [World.setCell], fun k _ hn => Below.heap_setCell _ _ _ _ (by simpa using hn)⟩
theorem Blk.set {W : World} {b : Nat} {T : TypeId} {cs : List Value} {n : Nat} (h : Blk W b T cs n) (j : Nat) (hj : j < cs.length) (v : Value) : Blk (W.setCell ⟨b, j, none⟩ v) b T (cs.set j v) n := by
  obtain ⟨arr, h1, h2, junk, h3⟩ := h
  refine ⟨arr.setIfInBounds j v, ?_, by simpa using h2, junk, ?_⟩
  · simp only [World.setCell, Array.getElem?_modify, h1]
    simp
  · rw [Array.toList_setIfInBounds, h3, List.set_append_left _ _ hj]
/-- One entry alone, turned within its blocks. -/
theorem St.turn {J : Imm} {e e' : Ent} {W W' : World} (h : St J [e] W) (hbs : e'.bs = e.bs) (hok : e'.ok W') (hup : Up e.bs W W') : Ext J [e] W J [e'] W' := by
  have ha : ats [e] = e.bs := by simp [ats]
  have ha' : ats [e'] = e.bs := by simp [ats, hbs]
  refine ⟨Imm.rfl' _, ⟨fun a v hv => (h.holds a v hv).of (hup.block _ (h.holds.lt hv) (fun hm => h.off _ (by rw [ha]; exact hm) a v hv rfl)), fun x hx => ?_, by rw [ha', ← ha]; exact h.nodup, fun b hb => h.off b (by rw [ha]; rwa [ha'] at hb)⟩, by rw [ha]; exact hup, fun _ _ e => .inl e, fun b hb => .inl (by rw [ha]; rwa [ha'] at hb)⟩
  simp only [List.mem_singleton] at hx
  exact hx ▸ hok
/-- A store into a block that is owned, the first of all. -/
theorem St.set {J : Imm} {b n : Nat} {T : TypeId} {cs : List Value} {W : World} (h : St J [.cells b T cs n] W) (j : Nat) (hj : j < cs.length) (v : Value) : Ext J [.cells b T cs n] W J [.cells b T (cs.set j v) n] (W.setCell ⟨b, j, none⟩ v) :=
  h.turn rfl (Blk.set (show Blk W b T cs n from h.ents (.cells b T cs n) (by simp)) j hj v) (Up.setCell W b j v)
theorem St.setRow {J : Imm} {b n : Nat} {T : TypeId} {cs : List Value} {W : World} (h : St J [.row (some ⟨b, 0, none⟩) T cs n] W) (j : Nat) (hj : j < cs.length) (v : Value) : Ext J [.row (some ⟨b, 0, none⟩) T cs n] W J [.row (some ⟨b, 0, none⟩) T (cs.set j v) n] (W.setCell ⟨b, j, none⟩ v) :=
  h.turn rfl ⟨rfl, Blk.set (show Blk W b T cs n from (show _ ∧ _ from h.ents (.row (some ⟨b, 0, none⟩) T cs n) (by simp)).2) j hj v⟩ (Up.setCell W b j v)
/-- The entry behind i others, brought in front; put back there. -/
theorem perm_in (L : List Ent) (e : Ent) (R : List Ent) : (L ++ e :: R).Perm (e :: (L ++ R)) := List.perm_middle
theorem Ext.turn {I J K : Imm} {O L R : List Ent} {e e' : Ent} {w W W' : World} (h : Ext I O w J (L ++ e :: R) W) (k : St J [e] W → Ext J [e] W K [e'] W') : Ext I O w K (L ++ e' :: R) W' := by
  have h1 := h.perm (perm_in L e R)
  have h2 : St J [e] W := h1.st.sub (List.Sublist.cons_cons _ (List.nil_sublist _))
  exact (h1.trans (Ext.frame (O1 := [e]) h1.st (k h2))).perm (perm_in L e' R).symm
theorem Blk.cell {W : World} {b : Nat} {T : TypeId} {cs : List Value} {n : Nat} (h : Blk W b T cs n) {j : Nat} {v : Value} (hv : cs[j]? = some v) : W.cell? ⟨b, j, none⟩ = some v := by
  obtain ⟨arr, h1, h2, junk, h3⟩ := h
  simp only [World.cell?, h1]
  have hj : j < cs.length := (List.getElem?_eq_some_iff.1 hv).1
  have : arr.toList[j]? = some v := by rw [h3, List.getElem?_append_left hj]; exact hv
  simpa using this
theorem Blk.free {W : World} {b : Nat} {T : TypeId} {cs : List Value} {n : Nat} (h : Blk W b T cs n) (j : Nat) : W.frozen? ⟨b, j, none⟩ = false := by
  obtain ⟨arr, h1, _⟩ := h
  simp [World.frozen?, h1]
theorem mem_of_at {O : List Ent} {i : Nat} {e : Ent} (h : O[i]? = some e) : e ∈ O := by obtain ⟨_, h⟩ := List.getElem?_eq_some_iff.1 h; exact h ▸ List.getElem_mem _

/-! ## Frames -/
abbrev Fr := List (Nat × Value)
def look : Fr → Nat → Option Value
  | [], _ => none
  | (k, v) :: l, t => match Nat.beq k t with | true => some v | false => look l t
def opv (fr : Fr) : Operand → Option Value
  | .tmp t => look fr t
  | .const v => some v
  | .global g => some (.pointer (some ⟨g, 0, none⟩))
  | .func f => some (.func (.func f) #[] #[])
structure Fits (n : Nat) (ds : List Deferred) (a : Act) (fr : Fr) : Prop where
  defers : a.defers = ds
  size : a.tmps.size = n
  at_ : ∀ t v, look fr t = some v → a.tmps[t]? = some v
theorem Fits.eval {n : Nat} {ds : List Deferred} {a : Act} {fr : Fr} (h : Fits n ds a fr) {x : Operand} {v : Value} (hx : opv fr x = some v) : a.eval x = v := by
  cases x with
  | tmp t => have := h.at_ t v hx; simp [Act.eval, this]
  | const c => simpa [opv, Act.eval] using hx
  | global g => simpa [opv, Act.eval] using hx
  | func f => simpa [opv, Act.eval] using hx
theorem Fits.put {n : Nat} {ds : List Deferred} {a : Act} {fr : Fr} (h : Fits n ds a fr) {d : Nat} (hd : d < n) (v : Value) : Fits n ds (a.put (some d) v) ((d, v) :: fr) := by
  refine ⟨h.defers, by simpa [Act.put] using h.size, fun t u hu => ?_⟩
  simp only [look] at hu
  simp only [Act.put, Array.getElem?_setIfInBounds, h.size]
  cases hb : Nat.beq d t with
  | true =>
    rw [hb] at hu
    have : d = t := Nat.eq_of_beq_eq_true hb
    subst this
    simpa [hd] using hu
  | false =>
    rw [hb] at hu
    have : d ≠ t := Nat.ne_of_beq_eq_false hb
    simpa [this] using h.at_ t u hu
theorem Fits.put0 {n : Nat} {ds : List Deferred} {a : Act} {fr : Fr} (h : Fits n ds a fr) (v : Value) : Fits n ds (a.put none v) fr := h
/-- Only some slots more. -/
def looks (fr : Fr) : Fr → Prop
  | [] => True
  | (k, v) :: l => look fr k = some v ∧ looks fr l
theorem looks.all {fr : Fr} : ∀ {fr' : Fr}, looks fr fr' → ∀ t v, look fr' t = some v → look fr t = some v
  | [], _, t, v, h => by simp [look] at h
  | (k, u) :: l, ⟨h1, h2⟩, t, v, h => by
    simp only [look] at h
    cases hb : Nat.beq k t with
    | true =>
      rw [hb] at h
      have : k = t := Nat.eq_of_beq_eq_true hb
      subst this
      rw [← (Option.some.inj h)]; exact h1
    | false => rw [hb] at h; exact looks.all h2 t v h
theorem Fits.only {n : Nat} {ds : List Deferred} {a : Act} {fr fr' : Fr} (h : Fits n ds a fr) (hs : looks fr fr') : Fits n ds a fr' := ⟨h.defers, h.size, fun t v hv => h.at_ t v (hs.all t v hv)⟩

/-! ## Judgements -/
structure At (n : Nat) (ds : List Deferred) (fr : Fr) (I : Imm) (O0 : List Ent) (w : World) (J : Imm) (O : List Ent) (a : Act) (W : World) : Prop where
  fits : Fits n ds a fr
  ext : Ext I O0 w J O W
def Go (A G : Act → World → Prop) : Prop := ∀ a W, A a W → G a W
theorem Go.of {A A' G : Act → World → Prop} (h : ∀ a W, A a W → A' a W) (k : Go A' G) : Go A G := fun a W hA => k a W (h a W hA)
/-- All that is seen of memory by an operation that only reads. -/
structure Sees (J : Imm) (O : List Ent) (W : World) : Prop where
  holds : Holds J W
  ents : ∀ e ∈ O, e.ok W
theorem St.sees {J : Imm} {O : List Ent} {W : World} (h : St J O W) : Sees J O W := ⟨h.holds, h.ents⟩
theorem Sees.of {J J' : Imm} {O O' : List Ent} {W : World} (h : Sees J' O' W) (hl : Imm.le J J') (ho : ∀ e ∈ O, e ∈ O') : Sees J O W := ⟨fun a v e => h.holds a v (hl a v e), fun e he => h.ents e (ho e he)⟩
def Y (P : Program) (fr : Fr) (J : Imm) (O : List Ent) (o : Oper) (v : Value) : Prop :=
  ∀ (ρ : Operand → Value) (W : World), (∀ x u, opv fr x = some u → ρ x = u) → Sees J O W → (execOp ρ o).run P W = .ok (.value v) W
end Go.Proofs.YtoafojcfledkcaaDoor
