/- Models from some fuel on. Of no program. -/
import Derived.Test.YtoafojcfledkcaaDoorOpen
import Derived.IntWalk
namespace Go.Proofs.YtoafojcfledkcaaDoor
set_option linter.all false
def Ev {α : Type} (g : Nat → Option α) (v : α) : Prop := ∃ k0, ∀ k, k0 ≤ k → g k = some v
section
variable {α β : Type}
theorem Ev.ret (v : α) : Ev (fun _ => some v) v := ⟨0, fun _ _ => rfl⟩
theorem Ev.bind {g : Nat → Option α} {f : Nat → α → Option β} {a : α} {b : β} (h : Ev g a) (h2 : Ev (fun k => f k a) b) : Ev (fun k => (g k).bind (f k)) b := by
  obtain ⟨n, hn⟩ := h
  obtain ⟨m, hm⟩ := h2
  exact ⟨max n m, fun k hk => by show (g k).bind (f k) = _; rw [hn k (by omega)]; exact hm k (by omega)⟩
theorem Ev.let_ {f : Nat → α → Option β} {a : α} {b : β} (h2 : Ev (fun k => f k a) b) : Ev (fun k => (some a).bind (f k)) b := h2
theorem Ev.yes {c : Prop} [Decidable c] {A B : Nat → Option α} {v : α} (hc : c) (h : Ev A v) : Ev (fun k => if c then A k else B k) v := by simpa [hc] using h
theorem Ev.no {c : Prop} [Decidable c] {A B : Nat → Option α} {v : α} (hc : ¬ c) (h : Ev B v) : Ev (fun k => if c then A k else B k) v := by simpa [hc] using h
theorem Ev.succ {g : Nat → Option α} {v : α} (h : Ev (fun k => g (k + 1)) v) : Ev g v := by
  obtain ⟨n, hn⟩ := h
  exact ⟨n + 1, fun k hk => by
    have : g (k - 1 + 1) = some v := hn (k - 1) (by omega)
    rwa [show k - 1 + 1 = k by omega] at this⟩
theorem Ev.at_ {g : Nat → Option α} {v : α} (n : Nat) (h : ∀ k, g (k + n) = some v) : Ev g v := ⟨n, fun k hk => by
  have := h (k - n)
  rwa [show k - n + n = k by omega] at this⟩
theorem Ev.val {g : Nat → Option α} {v : α} (h : Ev g v) : ∃ k, g k = some v := by
  obtain ⟨n, hn⟩ := h
  exact ⟨n, hn n (Nat.le_refl _)⟩
theorem Ev.uniq {g : Nat → Option α} {v u : α} (h : Ev g v) (h2 : Ev g u) : u = v := by
  obtain ⟨n, hn⟩ := h
  obtain ⟨m, hm⟩ := h2
  have := (hn (max n m) (by omega)).symm.trans (hm (max n m) (by omega))
  exact (Option.some.inj this).symm
theorem wr {n : Int} (h0 : -9223372036854775808 ≤ n) (h1 : n ≤ 9223372036854775807) : IntKind.i64.wrap n = n := by rw [IntKind.wrap_i64]; omega
theorem rd_mid [Inhabited α] (pre : List α) (x : α) (s : List α) : rd (pre ++ x :: s) (pre.length : Int) = x := by
  unfold rd
  simp
theorem ix_lt (pre : List α) (x : α) (s : List α) : (pre.length : Int) < ((pre ++ x :: s).length : Int) := by simp; omega
theorem ix_le (pre : List α) : 0 ≤ (pre.length : Int) := by omega
theorem ix_in (pre : List α) (x : α) (s : List α) : 0 ≤ (pre.length : Int) ∧ (pre.length : Int) < ((pre ++ x :: s).length : Int) := ⟨ix_le _, ix_lt _ _ _⟩
theorem ix_end (pre : List α) : ¬ (pre.length : Int) < ((pre ++ []).length : Int) := by simp
theorem ix_next (pre : List α) (x : α) (s : List α) (h : (pre ++ x :: s).length ≤ 1000000000) : IntKind.i64.wrap ((pre.length : Int) + 1) = ((pre ++ [x]).length : Int) := by
  simp at h
  rw [wr (by omega) (by omega)]
  simp
theorem app1 (pre : List α) (x : α) (s : List α) : pre ++ x :: s = (pre ++ [x]) ++ s := by simp
end
end Go.Proofs.YtoafojcfledkcaaDoor
