/-
  Texts of this claim: TlClose.
-/
import Derived.Test.YtlilahgndpdkfaaDoorCards
import Derived.Test.YtlilahgndpdkfaaDoorTie
import Derived.OpenShut
import Derived.Deep.DeepHandedRow
import Derived.Test.YtlilahgndpdkfaaDoorOwn33
set_option linter.all false
/-
  From what the laws answer to their cards.
-/
namespace Go.Proofs.YtlilahgndpdkfaaDoor
open Go Go.Abs Go.RowKit Go.ChangeShapes Go.ChangeAt Go.WideShapes

theorem enters : Go.Abs.Enters Tryd.prog := by
  have h0 : (Tryd.prog.funcs.all fun fn => fn.body.isNone || !(fn.name == "runtime.NumGoroutine")) = true := by kernel_rfl
  intro f fn hf hb args w
  have h1 := Array.all_eq_true_iff_forall_mem.1 h0 fn (Array.mem_of_getElem? hf)
  obtain ⟨c, hc⟩ := Option.isSome_iff_exists.1 hb
  rw [hc] at h1
  simp only [Option.isNone_some, Bool.false_or, Bool.not_eq_true'] at h1
  exact enters_of hf h1 hc args w

theorem mixed : Tryd.prog.follows .mixedOrders = true := by kernel_rfl
theorem laidOut : laidOutB Tryd.prog = true := by kernel_rfl
theorem own : ownKnob Tryd.prog.godebug = none := by kernel_rfl

theorem glob_ok {W : World} (h : laidMetH Tryd.prog [("synoptic/element.bounds", Rows.laid_synoptic_element_bounds)] W) : GlobOK T ⟨W, memOf W⟩ :=
  glob_of_laid (T := T) (g := 0) (t := (Tryd.prog.globals[0]?.map (·.type)).getD 0) (by kernel_rfl) (by kernel_rfl) (by kernel_rfl) rfl h (fun k cs hk => by
    change glob k = some cs at hk
    unfold glob at hk
    split at hk
    · cases hk; exact ⟨rfl, rfl⟩
    · cases hk)

/-- A world for the witness: the settled one, the table holding what its text lays. -/
noncomputable def laidWorld (os : Os) : World :=
  { World.holding Tryd.prog os ⟨#[], #[], []⟩ with heap := (World.holding Tryd.prog os ⟨#[], #[], []⟩).heap.modify 0 fun
      | .cells _ t frozen => .cells #[.int .i64 8000, .int .i64 11000, .int .i64 1800, .int .i64 3300, .int .i64 1800, .int .i64 3300, .int .i64 (-1000), .int .i64 1000, .int .i64 (-1000), .int .i64 1000, .int .i64 900, .int .i64 1700, .int .i64 2000, .int .i64 3200, .int .i64 2400, .int .i64 3400, .int .i64 2000, .int .i64 3000, .int .i64 4400, .int .i64 6200, .int .i64 2000, .int .i64 2900] t frozen
      | o => o }

def control0 : Value := .agg (Array.replicate 41 (.int .i64 0))
def controlD {H : Type} : DataW H :=
  .agg [.lit (.int .i64 0), .agg (List.replicate 12 (.lit (.int .i64 0))), .agg (List.replicate 12 (.lit (.int .i64 0))), .lit (.int .i64 0), .agg (List.replicate 12 (.lit (.int .i64 0))), .lit (.int .i64 0), .lit (.int .i64 0), .lit (.int .i64 0)]

end Go.Proofs.YtlilahgndpdkfaaDoor
