/-
  Texts of this claim: PureElem.
-/
import Derived.Test.YtlilahgndpdkfaaDoorOwn6
set_option linter.all false
/-
  Elements of reports, in plain Lean.
-/
namespace Go.Abs
open Go

/-- A reading: its element and its value. -/
abbrev Rd := Int × Int

def rds (l : List Rd) : List (List AV) := l.map fun r => [i64 r.1, i64 r.2]

@[simp] theorem rds_length {l : List Rd} : (rds l).length = l.length := by simp [rds]
@[simp] theorem rds_nil : rds [] = [] := rfl
theorem rds_cons {r : Rd} {l : List Rd} : rds (r :: l) = [i64 r.1, i64 r.2] :: rds l := rfl
theorem rds_app {l m : List Rd} : rds (l ++ m) = rds l ++ rds m := by simp [rds]

theorem rds_row {l : List Rd} : ∀ x ∈ rds l, x.length = 2 ∧ imms x = some x := by
  intro x hx
  obtain ⟨r, _, rfl⟩ := List.mem_map.1 hx
  simp

def boundsL : List (Int × Int) := [(8000, 11000), (1800, 3300), (1800, 3300), (-1000, 1000), (-1000, 1000), (900, 1700), (2000, 3200), (2400, 3400), (2000, 3000), (4400, 6200), (2000, 2900)]

def lo (c : Int) : Int := (boundsL.getD (c - 1).toNat (0, 0)).1
def hi (c : Int) : Int := (boundsL.getD (c - 1).toNat (0, 0)).2
def letter (c : Int) : UInt8 := ([80, 84, 68, 69, 78, 65, 66, 70, 71, 74, 75] : List UInt8).getD (c - 1).toNat 0

/-- The error of a reading. -/
def checkP (r : Rd) : Int := if r.1 < 1 ∨ 11 < r.1 then 4 else if r.2 < lo r.1 ∨ hi r.1 < r.2 then 1 else 0

/-- Elements in order. -/
def incrR : List Rd → Bool
  | [] => true
  | x :: l => (match l with | [] => true | y :: _ => decide (x.1 < y.1)) && incrR l

/-- The error of readings. -/
def validP (l : List Rd) : Int := if l.any (fun r => checkP r == 4) then 4 else if l.any (fun r => checkP r == 1) then 1 else if incrR l then 0 else 8

/-- The value of the first reading of an element. -/
def findP (l : List Rd) (c : Int) : Option Int := (l.find? fun r => r.1 == c).map (·.2)

theorem elem_cases {c : Int} (h1 : 1 ≤ c) (h2 : c ≤ 11) : c = 1 ∨ c = 2 ∨ c = 3 ∨ c = 4 ∨ c = 5 ∨ c = 6 ∨ c = 7 ∨ c = 8 ∨ c = 9 ∨ c = 10 ∨ c = 11 := by omega

theorem incrR_iff {l : List Rd} : incrR l = true ↔ ∀ i (h : i + 1 < l.length), (l[i]).1 < (l[i + 1]).1 := by
  induction l with
  | nil => simp [incrR]
  | cons x l ih =>
    cases l with
    | nil => simp [incrR]
    | cons y l =>
      simp only [incrR, Bool.and_eq_true, decide_eq_true_eq] at ih ⊢
      constructor
      · rintro ⟨h1, h2⟩ i hi
        cases i with
        | zero => exact h1
        | succ i => exact (ih.1 h2) i (by simpa using hi)
      · intro h
        exact ⟨h 0 (by simp), ih.2 fun i hi => h (i + 1) (by simpa using hi)⟩

end Go.Abs
