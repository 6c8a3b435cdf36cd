/-
  Texts of this claim: TlCall, TlKeep.
-/
import Derived.Test.YtlilahgndpdkfaaDoorOwn5
import Derived.Test.YtlilahgndpdkfaaDoorOwn6
set_option linter.all false
/-
  The functions of the seat, each by its text; the sorts as_ read.
-/
namespace Go.Proofs.YtlilahgndpdkfaaDoor
open Go Go.Abs
noncomputable def ov : Over
  | 37 => some (sortV 3 [0, 1] 38)
  | 51 => some (sortV 3 [1] 52)
  | _ => none
noncomputable def prg : Prg := Prg.mk T an ov
noncomputable def call : CallEnv := prg.call
theorem k37 (args : List AV) (S : Store) : call 37 args S = sortV 3 [0, 1] 38 args S := (prg.call_eq 37 args S).trans rfl
theorem k51 (args : List AV) (S : Store) : call 51 args S = sortV 3 [1] 52 args S := (prg.call_eq 51 args S).trans rfl
theorem k3 (args : List AV) (S : Store) : call 3 args S = F3 call args S := c3 (ov := ov) rfl args S
theorem k4 (args : List AV) (S : Store) : call 4 args S = F4 call args S := c4 (ov := ov) rfl args S
theorem k5 (args : List AV) (S : Store) : call 5 args S = F5 call args S := c5 (ov := ov) rfl args S
theorem k6 (args : List AV) (S : Store) : call 6 args S = F6 call args S := c6 (ov := ov) rfl args S
theorem k7 (args : List AV) (S : Store) : call 7 args S = F7 call args S := c7 (ov := ov) rfl args S
theorem k8 (args : List AV) (S : Store) : call 8 args S = F8 call args S := c8 (ov := ov) rfl args S
theorem k9 (args : List AV) (S : Store) : call 9 args S = F9 call args S := c9 (ov := ov) rfl args S
theorem k10 (args : List AV) (S : Store) : call 10 args S = F10 call args S := c10 (ov := ov) rfl args S
theorem k11 (args : List AV) (S : Store) : call 11 args S = F11 call args S := c11 (ov := ov) rfl args S
theorem k12 (args : List AV) (S : Store) : call 12 args S = F12 call args S := c12 (ov := ov) rfl args S
theorem k13 (args : List AV) (S : Store) : call 13 args S = F13 call args S := c13 (ov := ov) rfl args S
theorem k14 (args : List AV) (S : Store) : call 14 args S = F14 call args S := c14 (ov := ov) rfl args S
theorem k15 (args : List AV) (S : Store) : call 15 args S = F15 call args S := c15 (ov := ov) rfl args S
theorem k16 (args : List AV) (S : Store) : call 16 args S = F16 call args S := c16 (ov := ov) rfl args S
theorem k17 (args : List AV) (S : Store) : call 17 args S = F17 call args S := c17 (ov := ov) rfl args S
theorem k18 (args : List AV) (S : Store) : call 18 args S = F18 call args S := c18 (ov := ov) rfl args S
theorem k19 (args : List AV) (S : Store) : call 19 args S = F19 call args S := c19 (ov := ov) rfl args S
theorem k20 (args : List AV) (S : Store) : call 20 args S = F20 call args S := c20 (ov := ov) rfl args S
theorem k21 (args : List AV) (S : Store) : call 21 args S = F21 call args S := c21 (ov := ov) rfl args S
theorem k22 (args : List AV) (S : Store) : call 22 args S = F22 call args S := c22 (ov := ov) rfl args S
theorem k23 (args : List AV) (S : Store) : call 23 args S = F23 call args S := c23 (ov := ov) rfl args S
theorem k24 (args : List AV) (S : Store) : call 24 args S = F24 call args S := c24 (ov := ov) rfl args S
theorem k25 (args : List AV) (S : Store) : call 25 args S = F25 call args S := c25 (ov := ov) rfl args S
theorem k26 (args : List AV) (S : Store) : call 26 args S = F26 call args S := c26 (ov := ov) rfl args S
theorem k27 (args : List AV) (S : Store) : call 27 args S = F27 call args S := c27 (ov := ov) rfl args S
theorem k28 (args : List AV) (S : Store) : call 28 args S = F28 call args S := c28 (ov := ov) rfl args S
theorem k29 (args : List AV) (S : Store) : call 29 args S = F29 call args S := c29 (ov := ov) rfl args S
theorem k30 (args : List AV) (S : Store) : call 30 args S = F30 call args S := c30 (ov := ov) rfl args S
theorem k31 (args : List AV) (S : Store) : call 31 args S = F31 call args S := c31 (ov := ov) rfl args S
theorem k32 (args : List AV) (S : Store) : call 32 args S = F32 call args S := c32 (ov := ov) rfl args S
theorem k33 (args : List AV) (S : Store) : call 33 args S = F33 call args S := c33 (ov := ov) rfl args S
theorem k34 (args : List AV) (S : Store) : call 34 args S = F34 call args S := c34 (ov := ov) rfl args S
theorem k35 (args : List AV) (S : Store) : call 35 args S = F35 call args S := c35 (ov := ov) rfl args S
theorem k36 (args : List AV) (S : Store) : call 36 args S = F36 call args S := c36 (ov := ov) rfl args S
theorem k38 (args : List AV) (S : Store) : call 38 args S = F38 call args S := c38 (ov := ov) rfl args S
theorem k39 (args : List AV) (S : Store) : call 39 args S = F39 call args S := c39 (ov := ov) rfl args S
theorem k40 (args : List AV) (S : Store) : call 40 args S = F40 call args S := c40 (ov := ov) rfl args S
theorem k41 (args : List AV) (S : Store) : call 41 args S = F41 call args S := c41 (ov := ov) rfl args S
theorem k42 (args : List AV) (S : Store) : call 42 args S = F42 call args S := c42 (ov := ov) rfl args S
theorem k43 (args : List AV) (S : Store) : call 43 args S = F43 call args S := c43 (ov := ov) rfl args S
theorem k44 (args : List AV) (S : Store) : call 44 args S = F44 call args S := c44 (ov := ov) rfl args S
theorem k45 (args : List AV) (S : Store) : call 45 args S = F45 call args S := c45 (ov := ov) rfl args S
theorem k46 (args : List AV) (S : Store) : call 46 args S = F46 call args S := c46 (ov := ov) rfl args S
theorem k47 (args : List AV) (S : Store) : call 47 args S = F47 call args S := c47 (ov := ov) rfl args S
theorem k48 (args : List AV) (S : Store) : call 48 args S = F48 call args S := c48 (ov := ov) rfl args S
theorem k49 (args : List AV) (S : Store) : call 49 args S = F49 call args S := c49 (ov := ov) rfl args S
theorem k50 (args : List AV) (S : Store) : call 50 args S = F50 call args S := c50 (ov := ov) rfl args S
theorem k52 (args : List AV) (S : Store) : call 52 args S = F52 call args S := c52 (ov := ov) rfl args S
theorem k53 (args : List AV) (S : Store) : call 53 args S = F53 call args S := c53 (ov := ov) rfl args S
theorem k54 (args : List AV) (S : Store) : call 54 args S = F54 call args S := c54 (ov := ov) rfl args S
theorem k57 (args : List AV) (S : Store) : call 57 args S = F57 call args S := c57 (ov := ov) rfl args S
theorem k58 (args : List AV) (S : Store) : call 58 args S = F58 call args S := c58 (ov := ov) rfl args S
theorem k59 (args : List AV) (S : Store) : call 59 args S = F59 call args S := c59 (ov := ov) rfl args S
theorem k60 (args : List AV) (S : Store) : call 60 args S = F60 call args S := c60 (ov := ov) rfl args S
theorem k61 (args : List AV) (S : Store) : call 61 args S = F61 call args S := c61 (ov := ov) rfl args S
theorem k62 (args : List AV) (S : Store) : call 62 args S = F62 call args S := c62 (ov := ov) rfl args S
theorem k63 (args : List AV) (S : Store) : call 63 args S = F63 call args S := c63 (ov := ov) rfl args S
theorem k64 (args : List AV) (S : Store) : call 64 args S = F64 call args S := c64 (ov := ov) rfl args S
theorem k65 (args : List AV) (S : Store) : call 65 args S = F65 call args S := c65 (ov := ov) rfl args S
theorem k66 (args : List AV) (S : Store) : call 66 args S = F66 call args S := c66 (ov := ov) rfl args S
theorem k78 (args : List AV) (S : Store) : call 78 args S = F78 call args S := c78 (ov := ov) rfl args S
theorem k79 (args : List AV) (S : Store) : call 79 args S = F79 call args S := c79 (ov := ov) rfl args S
theorem k80 (args : List AV) (S : Store) : call 80 args S = F80 call args S := c80 (ov := ov) rfl args S
theorem k81 (args : List AV) (S : Store) : call 81 args S = F81 call args S := c81 (ov := ov) rfl args S
theorem k82 (args : List AV) (S : Store) : call 82 args S = F82 call args S := c82 (ov := ov) rfl args S
theorem k83 (args : List AV) (S : Store) : call 83 args S = F83 call args S := c83 (ov := ov) rfl args S
theorem k97 (args : List AV) (S : Store) : call 97 args S = F97 call args S := c97 (ov := ov) rfl args S
end Go.Proofs.YtlilahgndpdkfaaDoor

/-
  What the functions of package synoptickeep answer.
-/
namespace Go.Proofs.YtlilahgndpdkfaaDoor
open Go Go.Abs

def modP (x n : Int) : Int := if n < 1 then 0 else x % n

theorem modP_range {x n : Int} (h : 1 ≤ n) : 0 ≤ modP x n ∧ modP x n < n := by
  unfold modP
  rw [if_neg (by omega)]
  exact ⟨Int.emod_nonneg _ (by omega), Int.emod_lt_of_pos _ (by omega)⟩

theorem tmod_emod {x n : Int} (h : 1 ≤ n) : (if x.tmod n < 0 then x.tmod n + n else x.tmod n) = x % n := by
  have h1 : x.tmod n + n * x.tdiv n = x := Int.tmod_add_mul_tdiv x n
  have h2 := Int.tmod_lt_of_pos x (show 0 < n by omega)
  have h3 : -n < x.tmod n := by
    have := Int.lt_tmod_of_pos x (show 0 < n by omega)
    omega
  have h4 : x % n = x.tmod n % n := by
    conv => lhs; rw [← h1]
    rw [Int.add_mul_emod_self_left]
  rw [h4]
  split
  · rw [← Int.add_emod_right, Int.emod_eq_of_lt (by omega) (by omega)]
  · rw [Int.emod_eq_of_lt (by omega) (by omega)]

theorem s_Mod {x n : Int} (hn : In64 n) (S : Store) : call 22 [i64 x, i64 n] S = some (i64 (modP x n), S) := by
  rw [k22]
  unfold F22 modP
  by_cases h1 : n < 1
  · simp [h1]
  · have h2 : n ≠ 0 := by omega
    have h3 := tmod_emod (x := x) (n := n) (by omega)
    have h4 := Int.tmod_lt_of_pos x (show 0 < n by omega)
    have h5 := Int.emod_nonneg x h2
    have h6 := Int.emod_lt_of_pos x (show 0 < n by omega)
    simp [h1, h2, F22_J1]
    split
    · rename_i hlt
      rw [if_pos hlt] at h3
      rw [wrap_in (by unfold In64 at *; omega), h3]
    · rename_i hlt
      rw [if_neg hlt] at h3
      simp [h3]

/-! ### The reader -/

/-- A reader: its numbers, and how many are read. -/
def srcE (L : List Int) (a : Nat) : Ent := .obj [.sl (ints L) .none, i64 a]

structure Src (S : Store) (i : Nat) (L : List Int) (a : Nat) : Prop where
  at_ : S[i]? = some (srcE L a)
  le : a ≤ L.length
  len : L.length ≤ 2000
  num : ∀ n ∈ L, In64 n

theorem Src.lt {S : Store} {i : Nat} {L : List Int} {a : Nat} (h : Src S i L a) : i < S.length := (List.getElem?_eq_some_iff.1 h.at_).1

theorem Src.set {S : Store} {i : Nat} {L : List Int} {a b : Nat} (h : Src S i L a) (hb : b ≤ L.length) : Src (S.set i (srcE L b)) i L b :=
  ⟨List.getElem?_set_self h.lt, hb, h.len, h.num⟩

theorem Src.same {S : Store} {i : Nat} {L : List Int} {a : Nat} (h : Src S i L a) : S.set i (srcE L a) = S := by
  apply List.ext_getElem?
  intro j
  by_cases hj : i = j
  · subst hj; rw [List.getElem?_set_self h.lt, h.at_]
  · rw [List.getElem?_set_ne hj]

/-- The reader is as_ it was, but for what is read. -/
theorem Src.other {S : Store} {i j : Nat} {L : List Int} {a : Nat} {e : Ent} (h : Src S i L a) (hj : j ≠ i) : Src (S.set j e) i L a :=
  ⟨by rw [List.getElem?_set_ne hj]; exact h.at_, h.le, h.len, h.num⟩

theorem Src.app {S : Store} {i : Nat} {L : List Int} {a : Nat} {es : List Ent} (h : Src S i L a) : Src (S ++ es) i L a :=
  ⟨by rw [List.getElem?_append_left h.lt]; exact h.at_, h.le, h.len, h.num⟩

def rawP (L : List Int) (a : Nat) : Int × Nat := if h : a < L.length then (L[a], a + 1) else (0, a)

theorem rawP_le {L : List Int} {a : Nat} (h : a ≤ L.length) : (rawP L a).2 ≤ L.length := by
  unfold rawP; split <;> simp <;> omega

theorem rawP_in {L : List Int} {a : Nat} (h : ∀ n ∈ L, In64 n) : In64 (rawP L a).1 := by
  unfold rawP; split
  · exact h _ (List.getElem_mem _)
  · unfold In64; simp

theorem s_Raw {S : Store} {i : Nat} {L : List Int} {a : Nat} (h : Src S i L a) : call 31 [.ptr i 0] S = some (i64 (rawP L a).1, S.set i (srcE L (rawP L a).2)) := by
  rw [k31]
  unfold F31
  have hlt := h.lt
  have h1 := h.at_
  have hlen := h.len
  have hle := h.le
  have hb : Nat.blt i S.length = true := blt_true hlt
  have hset : ∀ e, (S.set i e)[i]? = some e := fun e => List.getElem?_set_self hlt
  clear hlt
  unfold rawP
  by_cases hc : a < L.length
  · have h2 : ¬ ((L.length : Int) ≤ (a : Int)) := by omega
    have h3 : IntKind.i64.wrap ((a : Int) + 1) = (a : Int) + 1 := wrap_in (by unfold In64; omega)
    have h4 : IntKind.i64.wrap (a : Int) = (a : Int) := wrap_in (by unfold In64; omega)
    simp [h1, srcE, h2, h3, h4, hb, hset, hc, indexAV, ints, at_nat]
  · have h2 : (L.length : Int) ≤ (a : Int) := by omega
    simp [h1, srcE, h2, hc]
    rw [show S.set i (.obj [.sl (ints L) .none, i64 a]) = S from h.same]

/-! what is read, reduced -/

/-- The next number, between 0 and n - 1. -/
theorem s_N {S : Store} {i : Nat} {L : List Int} {a : Nat} (h : Src S i L a) {n : Int} (hn : In64 n) : ∃ a', a' ≤ L.length ∧ call 15 [.ptr i 0, i64 n] S = some (i64 (modP (rawP L a).1 n), S.set i (srcE L a')) := by
  refine ⟨(rawP L a).2, rawP_le h.le, ?_⟩
  rw [k15]
  unfold F15
  simp [s_Raw h, s_Mod hn, h.lt]

theorem n_N {S : Store} {i : Nat} {L : List Int} {a : Nat} (h : Src S i L a) {n : Int} (hn : In64 n) (h1 : 1 ≤ n) : ∃ v a', 0 ≤ v ∧ v < n ∧ a' ≤ L.length ∧ call 15 [.ptr i 0, i64 n] S = some (i64 v, S.set i (srcE L a')) := by
  obtain ⟨a', h2, h3⟩ := s_N h hn
  have := modP_range (x := (rawP L a).1) h1
  exact ⟨_, a', this.1, this.2, h2, h3⟩

theorem n_Range {S : Store} {i : Nat} {L : List Int} {a : Nat} (h : Src S i L a) {lo hi : Int} (h0 : lo ≤ hi) (h1 : -4611686018427387904 ≤ lo) (h2 : hi ≤ 4611686018427387902) :
    ∃ v a', lo ≤ v ∧ v ≤ hi ∧ a' ≤ L.length ∧ call 23 [.ptr i 0, i64 lo, i64 hi] S = some (i64 v, S.set i (srcE L a')) := by
  obtain ⟨v, a', h3, h4, h5, h6⟩ := n_N h (n := hi - lo + 1) (by unfold In64; omega) (by omega)
  refine ⟨lo + v, a', by omega, by omega, h5, ?_⟩
  rw [k23]
  unfold F23
  have w1 : IntKind.i64.wrap (hi - lo) = hi - lo := wrap_in (by unfold In64; omega)
  have w2 : IntKind.i64.wrap (hi - lo + 1) = hi - lo + 1 := wrap_in (by unfold In64; omega)
  have w3 : IntKind.i64.wrap (lo + v) = lo + v := wrap_in (by unfold In64; omega)
  simp [w1, w2, w3, h6]

theorem n_Pick {S : Store} {i : Nat} {L : List Int} {a : Nat} (h : Src S i L a) {l : List Int} {t : Tok} (h0 : l ≠ []) (h1 : l.length ≤ 2000000) :
    ∃ v a', v ∈ l ∧ a' ≤ L.length ∧ call 29 [.ptr i 0, .sl (ints l) t] S = some (i64 v, S.set i (srcE L a')) := by
  have hp : 0 < l.length := List.length_pos_iff.2 h0
  obtain ⟨v, a', h3, h4, h5, h6⟩ := n_N h (n := l.length) (by unfold In64; omega) (by omega)
  have hv : v.toNat < l.length := by omega
  refine ⟨l[v.toNat], a', List.getElem_mem _, h5, ?_⟩
  rw [k29]
  unfold F29
  simp [h6, indexAV, at_ints h3 hv]

theorem n_Text {S : Store} {i : Nat} {L : List Int} {a : Nat} (h : Src S i L a) {l : List (List UInt8)} {t : Tok} (h0 : l ≠ []) (h1 : l.length ≤ 2000000) :
    ∃ v a', v ∈ l ∧ a' ≤ L.length ∧ call 28 [.ptr i 0, .sl (strs l) t] S = some (.str v, S.set i (srcE L a')) := by
  have hp : 0 < l.length := List.length_pos_iff.2 h0
  obtain ⟨v, a', h3, h4, h5, h6⟩ := n_N h (n := l.length) (by unfold In64; omega) (by omega)
  have hv : v.toNat < l.length := by omega
  refine ⟨l[v.toNat], a', List.getElem_mem _, h5, ?_⟩
  rw [k28]
  unfold F28
  simp [h6, indexAV, at_strs h3 hv]

end Go.Proofs.YtlilahgndpdkfaaDoor
