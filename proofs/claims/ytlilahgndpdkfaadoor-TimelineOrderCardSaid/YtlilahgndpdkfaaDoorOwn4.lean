/-
  Texts of this claim: AbsSimp.
-/
import Derived.Test.YtlilahgndpdkfaaDoorOwn3
set_option linter.all false
/-
  How the words of AbsCore reckon: rules for simp.
-/
namespace Go.Abs
open Go

attribute [simp] cellsOf imm1 imms low1 lows cell1 cells1 argV argVs fieldAV fieldV indexV indexSV sliceSV lenSV extractV nilcV isShift binI binV binB unV convV eq1 eqs eqcV fillC setC buildV immRows bsliceV bound sliceTok mxFits
  loadV loadIV storeV rowsOf lenV lenMV szOK ownCellV disownV fin1 fins resV condK guardK avoidB minmaxV minmaxGo entBelow entsBelow belows Option.bind_some Option.bind_none

@[simp] theorem pick_true {a b : AV} : pickV (.bool true) a b = some a := rfl
@[simp] theorem pick_false {a b : AV} : pickV (.bool false) a b = some b := rfl
@[simp] theorem pick_bool {c : Bool} {a b : AV} : pickV (.bool c) a b = some (if c then a else b) := by cases c <;> rfl

@[simp] theorem below_int {n : Nat} {k : IntKind} {x : Int} : below n (.int k x) = true := by simp [below]
@[simp] theorem below_bool {n : Nat} {x : Bool} : below n (.bool x) = true := by simp [below]
@[simp] theorem below_str {n : Nat} {x : List UInt8} : below n (.str x) = true := by simp [below]
@[simp] theorem below_ip {n : Nat} {c : List AV} {o : Nat} : below n (.ip c o) = true := by simp [below]
@[simp] theorem below_sl_none {n : Nat} {x : List (List AV)} : below n (.sl x .none) = true := by simp [below]
@[simp] theorem below_sl_full {n : Nat} {x : List (List AV)} : below n (.sl x .full) = true := by simp [below]
@[simp] theorem below_sl_own {n i : Nat} {x : List (List AV)} : below n (.sl x (.own i)) = Nat.blt i n := by simp [below]
@[simp] theorem below_ptr {n i o : Nat} : below n (.ptr i o) = Nat.blt i n := by simp [below]
@[simp] theorem below_osl {n i o l s : Nat} : below n (.osl i o l s) = Nat.blt i n := by simp [below]
@[simp] theorem below_map {n i : Nat} : below n (.map i) = Nat.blt i n := by simp [below]
@[simp] theorem below_nilp {n : Nat} : below n .nilp = true := by simp [below]
theorem belows_all {n : Nat} {l : List AV} : belows n l = l.all (below n) := by
  induction l with
  | nil => rfl
  | cons a l ih => simp [belows, ih]
@[simp] theorem below_agg {n : Nat} {c : List AV} : below n (.agg c) = belows n c := by
  rw [below, belows_all]
  simp [List.all_eq]
@[simp] theorem below_tup {n : Nat} {c : List AV} : below n (.tup c) = belows n c := by
  rw [below, belows_all]
  simp [List.all_eq]

@[simp] theorem take_some {n : Nat} {cs : List AV} {o : Nat} : takeC (some n) cs o = if o + n ≤ cs.length then some (.agg ((cs.drop o).take n)) else none := rfl
@[simp] theorem take_none {cs : List AV} {o : Nat} : takeC none cs o = cs[o]? := rfl

/-- A number that fits is not wrapped. -/
theorem wrap_i64 {x : Int} (h1 : -9223372036854775808 ≤ x) (h2 : x ≤ 9223372036854775807) : IntKind.i64.wrap x = x := by
  unfold IntKind.wrap IntKind.bits IntKind.signed
  simp only [ge_iff_le, Bool.true_and]
  split <;> simp at * <;> omega

@[simp] theorem still_same {S : Store} {v : AV} : still S (v, S) = some v := by simp [still]

end Go.Abs
