/-
  Texts of this claim: TlTime.
-/
import Derived.Test.YtlilahgndpdkfaaDoorOwn10
import Derived.Test.YtlilahgndpdkfaaDoorOwn11
set_option linter.all false
/-
  What the functions of package timeline answer.
-/
namespace Go.Proofs.YtlilahgndpdkfaaDoor
open Go Go.Abs

theorem s_size {a b : Pt} (ha : a.Ok) (hb : b.Ok) (S : Store) : call 54 [.agg (ptR a), .agg (ptR b)] S = some (i64 (sizeP a b), S) := by
  rw [k54]
  unfold F54
  obtain ⟨_, _, a1, a2⟩ := ha
  obtain ⟨_, _, b1, b2⟩ := hb
  have w1 : IntKind.i64.wrap (a.val - b.val) = a.val - b.val := wrap_in (by unfold In64; omega)
  have w2 : IntKind.i64.wrap (b.val - a.val) = b.val - a.val := wrap_in (by unfold In64; omega)
  simp [ptR, w1, w2, sizeP]

theorem s_slow {a b : Pt} {s : Int} (ha : a.Ok) (hb : b.Ok) (h0 : 0 ≤ s) (h1 : s ≤ 10000) (S : Store) : call 53 [.agg (ptR a), .agg (ptR b), i64 s] S = some (.bool (slowP a b s), S) := by
  rw [k53]
  unfold F53
  have hs := s_size ha hb S
  obtain ⟨a1, a2, _, _⟩ := ha
  obtain ⟨b1, b2, _, _⟩ := hb
  have w1 : IntKind.i64.wrap (b.time - a.time) = b.time - a.time := wrap_in (by unfold In64; omega)
  have w2 : IntKind.i64.wrap (b.time - a.time + 60) = b.time - a.time + 60 := wrap_in (by unfold In64; omega)
  have w3 : IntKind.i64.wrap (b.time - a.time + 60 - 1) = b.time - a.time + 60 - 1 := wrap_in (by unfold In64; omega)
  obtain ⟨hq2, hq1⟩ := tdiv_bound (x := b.time - a.time + 60 - 1) (n := 60000000) (k := 60) (by omega) (by omega) (by omega)
  have w4 : IntKind.i64.wrap ((b.time - a.time + 60 - 1).tdiv 60) = (b.time - a.time + 60 - 1).tdiv 60 := wrap_in (by unfold In64; omega)
  have hm1 : s * ((b.time - a.time + 60 - 1).tdiv 60) ≤ 10000 * 60000000 := by
    have := Int.mul_le_mul_of_nonneg_left hq1 h0
    have := Int.mul_le_mul_of_nonneg_right h1 (show (0 : Int) ≤ 60000000 by omega)
    omega
  have hm2 : -(10000 * 60000000) ≤ s * ((b.time - a.time + 60 - 1).tdiv 60) := by
    have := Int.mul_le_mul_of_nonneg_left hq2 h0
    have := Int.mul_le_mul_of_nonneg_right h1 (show (0 : Int) ≤ 60000000 by omega)
    omega
  have w5 : IntKind.i64.wrap (s * ((b.time - a.time + 60 - 1).tdiv 60)) = s * ((b.time - a.time + 60 - 1).tdiv 60) := wrap_in (by unfold In64; omega)
  simp only [ptR] at hs
  simp [ptR, hs, w1, w2, w3, w4, w5, slowP]

set_option maxHeartbeats 4000000 in
theorem s_spike {a b c : Pt} {p : Int} (ha : a.Ok) (hb : b.Ok) (hc : c.Ok) (S : Store) : call 36 [.agg (ptR a), .agg (ptR b), .agg (ptR c), i64 p] S = some (.bool (spikeP a b c p), S) := by
  rw [k36]
  unfold F36
  have hs := s_size ha hc S
  obtain ⟨_, _, a1, a2⟩ := ha
  obtain ⟨_, _, b1, b2⟩ := hb
  obtain ⟨_, _, c1, c2⟩ := hc
  have w1 : IntKind.i64.wrap (b.val - a.val) = b.val - a.val := wrap_in (by unfold In64; omega)
  have w2 : IntKind.i64.wrap (b.val - c.val) = b.val - c.val := wrap_in (by unfold In64; omega)
  have w3 : IntKind.i64.wrap (a.val - b.val) = a.val - b.val := wrap_in (by unfold In64; omega)
  have w4 : IntKind.i64.wrap (c.val - b.val) = c.val - b.val := wrap_in (by unfold In64; omega)
  simp only [ptR] at hs
  unfold spikeP
  by_cases h1 : p < b.val - a.val
  · by_cases h2 : p < b.val - c.val
    · by_cases h4 : p < a.val - b.val
      · by_cases h5 : p < c.val - b.val <;> simp [ptR, hs, w1, w2, w3, w4, h1, h2, h4, h5]
      · simp [ptR, hs, w1, w2, w3, w4, h1, h2, h4]
    · by_cases h4 : p < a.val - b.val
      · by_cases h5 : p < c.val - b.val <;> simp [ptR, hs, w1, w2, w3, w4, h1, h2, h4, h5]
      · simp [ptR, hs, w1, w2, w3, w4, h1, h2, h4]
  · by_cases h4 : p < a.val - b.val
    · by_cases h5 : p < c.val - b.val <;> simp [ptR, hs, w1, w2, w3, w4, h1, h4, h5]
    · simp [ptR, hs, w1, w2, w3, w4, h1, h4]

end Go.Proofs.YtlilahgndpdkfaaDoor
