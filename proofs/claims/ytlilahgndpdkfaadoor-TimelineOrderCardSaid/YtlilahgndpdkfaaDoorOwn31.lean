/-
  Texts of this claim: TlArgs.
-/
import Derived.Test.YtlilahgndpdkfaaDoorOwn7
import Derived.Test.YtlilahgndpdkfaaDoorOwn10
import Derived.Test.YtlilahgndpdkfaaDoorOwn29
set_option linter.all false
/-
  What the arguments of the laws look like.
-/
namespace Go.Proofs.YtlilahgndpdkfaaDoor
open Go Go.Abs
set_option maxRecDepth 100000

section
variable {n : Nat} {cs : List AV}

theorem u_int : Tryd.prog.underlying 3 = some (.int .i64) := by kernel_rfl
theorem u_string : Tryd.prog.underlying 9 = some .string := by kernel_rfl
theorem u_ints : Tryd.prog.underlying 26 = some (.slice 3) := by kernel_rfl
theorem u_reports : Tryd.prog.underlying 22 = some (.slice 39) := by kernel_rfl
theorem u_readings : Tryd.prog.underlying 37 = some (.slice 56) := by kernel_rfl
theorem u_report : fieldTypes Tryd.prog 39 = some [3, 9, 3, 36, 37] := by kernel_rfl
theorem u_place : fieldTypes Tryd.prog 36 = some [3, 3, 3, 3] := by kernel_rfl
theorem u_reading : fieldTypes Tryd.prog 56 = some [3, 3] := by kernel_rfl

theorem fit_int (h : Fits Tryd.prog (n + 1) 3 cs) : ∃ z, cs = [i64 z] ∧ In64 z := fits_int u_int h
theorem fit_ints (h : Fits Tryd.prog (n + 2) 26 cs) : ∃ l, cs = [.sl (ints l) .none] ∧ l.length ≤ 9223372036854775807 ∧ ∀ z ∈ l, In64 z := by
  obtain ⟨xs, rfl, h1, h2⟩ := fits_slice u_ints h
  obtain ⟨l, rfl, h3⟩ := rows_of (f := fun z => [i64 z]) (P := In64) fun x hx => fit_int (h2 x hx)
  exact ⟨l, rfl, by simpa using h1, h3⟩
theorem fit_reading (h : Fits Tryd.prog (n + 2) 56 cs) : ∃ r : Rd, cs = [i64 r.1, i64 r.2] ∧ (In64 r.1 ∧ In64 r.2) := by
  obtain ⟨_, _, rfl, a1, _, _, rfl, a2, rfl⟩ := fits_fields u_reading h
  obtain ⟨x, rfl, hx⟩ := fit_int a1
  obtain ⟨y, rfl, hy⟩ := fit_int a2
  exact ⟨(x, y), rfl, hx, hy⟩
theorem fit_readings (h : Fits Tryd.prog (n + 3) 37 cs) : ∃ l : List Rd, cs = [.sl (rds l) .none] ∧ l.length ≤ 9223372036854775807 ∧ ∀ r ∈ l, In64 r.1 ∧ In64 r.2 := by
  obtain ⟨xs, rfl, h1, h2⟩ := fits_slice u_readings h
  obtain ⟨l, rfl, h3⟩ := rows_of (f := fun r : Rd => [i64 r.1, i64 r.2]) (P := fun r => In64 r.1 ∧ In64 r.2) fun x hx => fit_reading (h2 x hx)
  exact ⟨l, rfl, by simpa using h1, h3⟩

/-- The numbers of a report are of 64 bits, its rows are no longer than a row may be. -/
structure RepIn (r : Rep) : Prop where
  kind : In64 r.kind
  name : r.name.length ≤ 9223372036854775807
  time : In64 r.time
  face : In64 r.face
  pa : In64 r.pa
  pb : In64 r.pb
  pc : In64 r.pc
  len : r.rd.length ≤ 9223372036854775807
  rd : ∀ x ∈ r.rd, In64 x.1 ∧ In64 x.2

theorem fit_report (h : Fits Tryd.prog (n + 4) 39 cs) : ∃ r : Rep, cs = repR r ∧ RepIn r := by
  obtain ⟨_, _, rfl, a1, _, _, rfl, a2, _, _, rfl, a3, _, _, rfl, a4, _, _, rfl, a5, rfl⟩ := fits_fields u_report h
  obtain ⟨k, rfl, hk⟩ := fit_int a1
  obtain ⟨nm, rfl, hn⟩ := fits_str u_string a2
  obtain ⟨t, rfl, ht⟩ := fit_int a3
  obtain ⟨_, _, rfl, b1, _, _, rfl, b2, _, _, rfl, b3, _, _, rfl, b4, rfl⟩ := fits_fields u_place a4
  obtain ⟨f, rfl, hf⟩ := fit_int b1
  obtain ⟨pa, rfl, ha⟩ := fit_int b2
  obtain ⟨pb, rfl, hb⟩ := fit_int b3
  obtain ⟨pc, rfl, hc⟩ := fit_int b4
  obtain ⟨l, rfl, hl, hr⟩ := fit_readings a5
  exact ⟨⟨k, nm, t, f, pa, pb, pc, l⟩, rfl, hk, hn, ht, hf, ha, hb, hc, hl, hr⟩
theorem fit_reports (h : Fits Tryd.prog (n + 5) 22 cs) : ∃ l : List Rep, cs = [.sl (reps l) .none] ∧ l.length ≤ 9223372036854775807 ∧ ∀ r ∈ l, RepIn r := by
  obtain ⟨xs, rfl, h1, h2⟩ := fits_slice u_reports h
  obtain ⟨l, rfl, h3⟩ := rows_of (f := repR) (P := RepIn) fun x hx => fit_report (h2 x hx)
  exact ⟨l, rfl, by simpa using h1, h3⟩

theorem arg_int {a : AV} (h : FitsA Tryd.prog 8 3 a) : ∃ z, a = i64 z ∧ In64 z := by
  obtain ⟨z, e, hz⟩ := fit_int (fits_plain (by kernel_rfl) h)
  cases e
  exact ⟨z, rfl, hz⟩
theorem arg_ints {a : AV} (h : FitsA Tryd.prog 8 26 a) : ∃ l, a = .sl (ints l) .none ∧ l.length ≤ 9223372036854775807 ∧ ∀ z ∈ l, In64 z := by
  obtain ⟨z, e, hz⟩ := fit_ints (fits_plain (by kernel_rfl) h)
  cases e
  exact ⟨z, rfl, hz⟩
theorem arg_reports {a : AV} (h : FitsA Tryd.prog 8 22 a) : ∃ l, a = .sl (reps l) .none ∧ l.length ≤ 9223372036854775807 ∧ ∀ r ∈ l, RepIn r := by
  obtain ⟨z, e, hz⟩ := fit_reports (fits_plain (by kernel_rfl) h)
  cases e
  exact ⟨z, rfl, hz⟩
end
end Go.Proofs.YtlilahgndpdkfaaDoor
