/- What the rows of this seat share: a start that fits, the tables. -/
import Derived.Test.YtoafojcfledkcaaDoorOD
import Derived.Test.YtoafojcfledkcaaDoorExt
import Derived.Test.YtoafojcfledkcaaDoorRows
import Derived.Test.YtoafojcfledkcaaDoorTie
import Derived.Test.YtoafojcfledkcaaDoorCards
import Derived.Lib.LaidTab
import Derived.Stop.LaidErr
namespace Go.Proofs.YtoafojcfledkcaaDoor
open Go.ChangeShapes Go.WideShapes Go.ChangeAt Go.RowKit
set_option linter.all false
theorem Tryd.own : ownKnob Tryd.prog.godebug = none := by kernel_rfl
theorem Tryd.laidOut : laidOutB Tryd.prog = true := by kernel_rfl
theorem gP : Tryd.prog.globalNamed "internal/strconv.uint64pow10" = some 0 := by kernel_rfl
theorem gPType : (Tryd.prog.globals[0]?).map (·.type) = some 147 := by kernel_rfl
theorem cells147 : Tryd.prog.cellsOf 147 = 20 := by kernel_rfl
theorem cells139 : Tryd.prog.cellsOf 139 = 1 := by kernel_rfl
def tab32 : List Int := [0, 1, 28, 2, 29, 14, 24, 3, 30, 22, 20, 15, 25, 17, 4, 8, 31, 27, 13, 23, 21, 19, 16, 7, 26, 12, 18, 6, 11, 5, 10, 9]
def tab64 : List Int := [0, 1, 56, 2, 57, 49, 28, 3, 61, 58, 42, 50, 38, 29, 17, 4, 62, 47, 59, 36, 45, 43, 51, 22, 53, 39, 33, 30, 24, 18, 12, 5, 63, 55, 48, 27, 60, 41, 37, 16, 46, 35, 44, 21, 52, 32, 23, 11, 54, 26, 40, 15, 34, 20, 31, 10, 25, 14, 19, 9, 13, 8, 7, 6]
/-- The settled world, the three tables holding what their initialisers lay. -/
def put (h : Array Obj) (g : Nat) (vs : List Value) : Array Obj := h.modify g (fun o => match o with | .cells _ t frozen => .cells vs.toArray t frozen | o => o)
noncomputable def laidWorld (os : Os) : World :=
  { World.holding Tryd.prog os ⟨#[], #[], []⟩ with heap := put (put (put (World.holding Tryd.prog os ⟨#[], #[], []⟩).heap 0 (Lib.pow10Tab.map fun z => Value.int .u64 z)) 2 (tab32.map fun z => Value.int .u8 z)) 3 (tab64.map fun z => Value.int .u8 z) }
theorem laid_met (os : Os) (args : Array Value) : laidMet Tryd.prog Rows.typesTellRow.laid ((laidWorld os).forCall (fun _ _ => 0) ⟨#[], args, []⟩).memory :=
  laidMet_of_run' 8 (by kernel_rfl) (by kernel_rfl)
theorem pow_eq : (Rows.laid_internal_strconv_uint64pow10 : DataW Unit) = Lib.tabData .u64 Lib.pow10Tab := by kernel_rfl
theorem laid_eq : Rows.typesTellRow.laid = ("math/bits.deBruijn32tab", Rows.laid_math_bits_deBruijn32tab) :: ("math/bits.deBruijn64tab", Rows.laid_math_bits_deBruijn64tab) :: [("internal/strconv.uint64pow10", Rows.laid_internal_strconv_uint64pow10)] := by kernel_rfl
theorem tab_at {P : Program} {W w : World} {name : String} {g : Nat} {k : IntKind} {zs : List Int} (hg : P.globalNamed name = some g) (hT : Lib.TabIs P W name k zs) (hw : Holds (wI W) w) : Lib.TabIs P w name k zs := by
  unfold Lib.TabIs World.var? at hT ⊢
  rw [hg] at hT ⊢
  simp only [Option.bind_some] at hT ⊢
  split at hT
  · next cs T fr hh =>
    have := hw ⟨g, 0, some 0⟩ (.agg cs) (by unfold wI; simp only [hh])
    unfold seen at this
    simp only at this
    obtain ⟨arr, T', fr', e, h3⟩ := this
    cases e
    rw [h3]
    exact hT
  · cases hT
theorem tabs_of {W : World} (hL : laidMet Tryd.prog Rows.typesTellRow.laid W) : Tabs (wI W) := fun w hw => by
  rw [laid_eq] at hL
  have h1 := laidMet.tail hL
  have h2 := laidMet.tail h1
  rw [pow_eq] at h2
  exact tab_at gP (Lib.tabIs_of_head gP gPType Tryd.underlying147 Tryd.underlying139 cells139 cells147 h2) hw
theorem arr_of {cs : Array Value} {l : List Value} (h : cs.toList = l) : cs = l.toArray := by rw [← h]
theorem shut_bool {H : Type} {enc : TypeId × Value → H} {W : World} {base : Nat} {sp : Nat → Bool} {held : Bool} (b : Bool) : DataW.Trod enc Tryd.prog W base sp held 4 (.bool b) (.lit (.bool b)) [] := ⟨1, by
  show DataW.trod enc Tryd.prog W base sp held 1 4 [.bool b] = _
  unfold DataW.trod
  rw [Tryd.underlying4]⟩
end Go.Proofs.YtoafojcfledkcaaDoor
