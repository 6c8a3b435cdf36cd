/-
  Texts of this claim: PureArgs.
-/
import Derived.Test.YtlilahgndpdkfaaDoorOwn6
import Derived.Test.YtlilahgndpdkfaaDoorOwn28
set_option linter.all false
/-
  What the arguments of a law look like: numbers, strings, slices, structs, by their types.
-/
namespace Go.Abs
open Go

/-- A list of fields by their types alone. -/
def FitsT (F : TypeId → List AV → Prop) : List TypeId → List AV → Prop
  | [], cs => cs = []
  | t :: ts, cs => ∃ a b, cs = a ++ b ∧ F t a ∧ FitsT F ts b

theorem fitsF_types {F : TypeId → List AV → Prop} : ∀ {fs : List Field} {cs : List AV}, FitsF F fs cs → FitsT F (fs.map (·.type)) cs
  | [], _, h => h
  | _ :: _, _, ⟨a, b, h1, h2, h3⟩ => ⟨a, b, h1, h2, fitsF_types h3⟩

section
variable {P : Program} {n : Nat} {t : TypeId} {cs : List AV}

theorem fits_int (hu : P.underlying t = some (.int .i64)) (h : Fits P (n + 1) t cs) : ∃ z, cs = [i64 z] ∧ In64 z := by
  unfold Fits at h
  rw [hu] at h
  obtain ⟨z, rfl, hz⟩ := h
  refine ⟨z, rfl, ?_⟩
  simp only [Lit.wf, Bool.and_eq_true, decide_eq_true_eq] at hz
  unfold In64
  have e1 : IntKind.i64.min = -9223372036854775808 := by decide
  have e2 : IntKind.i64.max = 9223372036854775807 := by decide
  rw [e1, e2] at hz
  exact hz

theorem fits_str (hu : P.underlying t = some .string) (h : Fits P (n + 1) t cs) : ∃ s, cs = [.str s] ∧ s.length ≤ 9223372036854775807 := by
  unfold Fits at h
  rw [hu] at h
  exact h

theorem fits_bool (hu : P.underlying t = some .bool) (h : Fits P (n + 1) t cs) : ∃ b, cs = [.bool b] := by
  unfold Fits at h
  rw [hu] at h
  exact h

theorem fits_slice {e : TypeId} (hu : P.underlying t = some (.slice e)) (h : Fits P (n + 1) t cs) : ∃ xs, cs = [.sl xs .none] ∧ xs.length ≤ 9223372036854775807 ∧ ∀ x ∈ xs, Fits P n e x := by
  unfold Fits at h
  rw [hu] at h
  exact h

theorem fits_struct {fs : Array Field} {ts : List TypeId} (hu : P.underlying t = some (.struct fs)) (ht : fs.toList.map (·.type) = ts) (h : Fits P (n + 1) t cs) : FitsT (Fits P n) ts cs := by
  unfold Fits at h
  rw [hu] at h
  rw [← ht]
  exact fitsF_types h

def fieldTypes (P : Program) (t : TypeId) : Option (List TypeId) :=
  match P.underlying t with
  | some (.struct fs) => some (fs.toList.map (·.type))
  | _ => none

theorem fits_fields {ts : List TypeId} (hu : fieldTypes P t = some ts) (h : Fits P (n + 1) t cs) : FitsT (Fits P n) ts cs := by
  unfold fieldTypes at hu
  split at hu
  · rename_i fs h1
    exact fits_struct h1 (Option.some.inj hu) h
  · cases hu

theorem fits_plain {a : AV} (h0 : isAggT P t = false) (h : FitsA P n t a) : Fits P n t [a] := by
  unfold FitsA at h
  rwa [if_neg (by rw [h0]; decide)] at h
theorem fits_agg {a : AV} (h0 : isAggT P t = true) (h : FitsA P n t a) : ∃ cs, a = .agg cs ∧ Fits P n t cs := by
  unfold FitsA at h
  rwa [if_pos h0] at h

theorem fits_array {k : Nat} {e : TypeId} (hu : P.underlying t = some (.array k e)) (h : Fits P (n + 1) t cs) : FitsK (Fits P n e) k cs := by
  unfold Fits at h
  rw [hu] at h
  exact h

theorem fitsK_ints {F : List AV → Prop} (hF : ∀ a, F a → ∃ z, a = [i64 z] ∧ In64 z) : ∀ {k : Nat} {cs : List AV}, FitsK F k cs → ∃ l : List Int, cs = l.map i64 ∧ l.length = k ∧ ∀ z ∈ l, In64 z
  | 0, _, h => ⟨[], h, rfl, by simp⟩
  | k + 1, _, ⟨a, b, h1, h2, h3⟩ => by
    obtain ⟨z, rfl, hz⟩ := hF a h2
    obtain ⟨l, rfl, hl, hm⟩ := fitsK_ints hF h3
    exact ⟨z :: l, h1, by simp [hl], fun w hw => by
      rcases List.mem_cons.1 hw with rfl | hw
      · exact hz
      · exact hm w hw⟩
end

theorem fitsAll1 {P : Program} {n : Nat} {t1 : TypeId} : ∀ {xs : List AV}, FitsAll P n [t1] xs → ∃ a, xs = [a] ∧ FitsA P n t1 a
  | [a], h => ⟨a, rfl, h.1⟩
theorem fitsAll2 {P : Program} {n : Nat} {t1 t2 : TypeId} : ∀ {xs : List AV}, FitsAll P n [t1, t2] xs → ∃ a b, xs = [a, b] ∧ FitsA P n t1 a ∧ FitsA P n t2 b
  | [a, b], h => ⟨a, b, rfl, h.1, h.2.1⟩
theorem fitsAll3 {P : Program} {n : Nat} {t1 t2 t3 : TypeId} : ∀ {xs : List AV}, FitsAll P n [t1, t2, t3] xs → ∃ a b c, xs = [a, b, c] ∧ FitsA P n t1 a ∧ FitsA P n t2 b ∧ FitsA P n t3 c
  | [a, b, c], h => ⟨a, b, c, rfl, h.1, h.2.1, h.2.2.1⟩
theorem fitsAll4 {P : Program} {n : Nat} {t1 t2 t3 t4 : TypeId} : ∀ {xs : List AV}, FitsAll P n [t1, t2, t3, t4] xs → ∃ a b c d, xs = [a, b, c, d] ∧ FitsA P n t1 a ∧ FitsA P n t2 b ∧ FitsA P n t3 c ∧ FitsA P n t4 d
  | [a, b, c, d], h => ⟨a, b, c, d, rfl, h.1, h.2.1, h.2.2.1, h.2.2.2.1⟩

/-- A list of rows, each of a shape. -/
theorem rows_of {α : Type} {f : α → List AV} {P : α → Prop} : ∀ {xs : List (List AV)}, (∀ x ∈ xs, ∃ a, x = f a ∧ P a) → ∃ l : List α, xs = l.map f ∧ ∀ a ∈ l, P a
  | [], _ => ⟨[], rfl, by simp⟩
  | x :: xs, h => by
    obtain ⟨a, rfl, ha⟩ := h x (by simp)
    obtain ⟨l, rfl, hl⟩ := rows_of (xs := xs) fun y hy => h y (by simp [hy])
    exact ⟨a :: l, rfl, fun b hb => by
      rcases List.mem_cons.1 hb with rfl | hb
      · exact ha
      · exact hl b hb⟩
end Go.Abs
