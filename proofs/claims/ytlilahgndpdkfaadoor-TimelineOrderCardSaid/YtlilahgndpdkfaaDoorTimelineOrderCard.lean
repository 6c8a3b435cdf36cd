/-
  TimelineOrder: for every argument the law answers true, and its arguments read as_ before, where the table of the elements' bounds is laid as_ its text has it: the card.
-/
import Derived.Test.YtlilahgndpdkfaaDoorOwn35
import Derived.Test.YtlilahgndpdkfaaDoorOwn36
set_option linter.all false
namespace Go.Proofs.YtlilahgndpdkfaaDoor.timelineOrder
open Go Go.Abs Go.RowKit Go.ChangeShapes Go.ChangeAt Go.WideShapes
set_option maxRecDepth 100000

theorem laid_met (os : Os) : laidMet Tryd.prog Rows.timelineOrderRow.laid ((laidWorld os).forCall (fun _ _ => 0) ⟨#[], #[.slice none 0 0], []⟩).memory :=
  laidMet_of_run' 8 (by kernel_rfl) (by kernel_rfl)

theorem reads (os : Os) {H : Type} (enc : TypeId × Value → H) : ∃ places, DataW.whole enc Tryd.prog ((laidWorld os).forCall (fun _ _ => 0) ⟨#[], #[.slice none 0 0], []⟩).memory Tryd.f4.params.toList Rows.timelineOrderSpec.vars false (#[.slice none 0 0] : Array Value).toList 8 = some ([.nil], [], places) :=
  ⟨[], by kernel_rfl⟩

theorem lifted (os : Os) (started : os.Started) (H : Type) (enc : TypeId × Value → H) (F : Stop.Interp) :
    ReturnsInHanded {} Tryd.checked os 4 .any ((OpenSpec.ofChange Rows.timelineOrderSpec).preRow enc Tryd.prog Tryd.f4 Rows.timelineOrderRow.domain false Rows.timelineOrderRow.laid) (((OpenSpec.ofChange Rows.timelineOrderSpec).at F).post enc Tryd.prog Tryd.f4 false true false false) := by
  obtain ⟨places, hx⟩ := reads os enc
  refine returnsInHanded_of_row (C := Tryd.checked) (s := OpenSpec.ofChange Rows.timelineOrderSpec) own started (by kernel_rfl) Tryd.func4
    (witness_row_at (enc := enc) (C := Tryd.checked) false (laidWorld os) #[.slice none 0 0] rfl (by kernel_rfl) (by kernel_rfl) (by kernel_rfl)
      (OpenSpec.preRow_of_cond 8 hx (by kernel_rfl) (fun k hk => by cases hk) (by kernel_rfl) (laid_met os))) ?_
  intro W base args ds gs before hval hW _ _ _ hL _ _
  exact law_calls (Y := prg) (s := Rows.timelineOrderSpec) (tb := 4) enters mixed (over_ok enters mixed (glob_ok hL)) (glob_ok hL) laidOut (by kernel_rfl) (by kernel_rfl) Tryd.underlying4 rfl hval hW (fun ds h => by
    change ds.length = 1 at h
    match ds, h with
    | [_], _ => rfl) timelineOrder_true
theorem said : Rows.TimelineOrderSaid :=
  OpenClaim.holds_of_cond 4 Tryd.f4 rfl rfl rfl rfl rfl rfl rfl ⟨rfl, rfl, rfl, rfl, rfl⟩ rfl rfl rfl rfl rfl (by kernel_rfl) Tryd.func4 (by kernel_rfl)
    (of_decide_eq_true (by kernel_rfl)) (by unfold Func.isWrapper; first | (rw [if_pos (by decide +kernel)]; kernel_rfl) | (rw [if_neg (by decide +kernel)]; exact ⟨rfl, rfl⟩))
    (fun os started H enc _ F => by rw [OpenClaim.pre_eq_preRow]; exact lifted os started H enc F)

theorem plain (f : FuncId) (fn : Func) (hf : Tryd.pinned.checked.prog.funcNamed "synoptic/synopticlaw16.TimelineOrder" = some f) (hfn : Tryd.pinned.checked.prog.funcs[f]? = some fn) :
    false = Tryd.pinned.checked.prog.looks [] ∧ ∀ (j : Nat) t, fn.params[j]? = some t → Tryd.pinned.checked.prog.wantsStandIn t = false := by
  obtain rfl : f = 4 := Option.some.inj ((show Tryd.prog.funcNamed "synoptic/synopticlaw16.TimelineOrder" = some 4 by kernel_rfl).symm.trans hf) |>.symm
  obtain rfl : fn = Tryd.f4 := (Option.some.inj (Tryd.func4.symm.trans hfn)).symm
  refine ⟨by kernel_rfl, fun j t ht => ?_⟩
  have h0 : (Tryd.f4.params.all fun t => !(Tryd.prog.wantsStandIn t)) = true := by kernel_rfl
  have h1 := Array.all_eq_true_iff_forall_mem.1 h0 t (Array.mem_of_getElem? ht)
  show Tryd.prog.wantsStandIn t = false
  simpa using h1

theorem timelineOrder_holds : Rows.TimelineOrderCardSaid :=
  Claim7.holds_tied_plain_at .later [] _ _ _ _ said (fun _ h => by cases h) (by kernel_rfl) (fun _ h => by cases h) timelineOrder_row_tie rfl ⟨rfl, rfl⟩ (by kernel_rfl) rfl plain (by kernel_rfl)
end Go.Proofs.YtlilahgndpdkfaaDoor.timelineOrder

