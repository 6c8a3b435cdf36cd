/-
  Texts of this claim: TlGen0.
-/
import Derived.Test.YtlilahgndpdkfaaDoorOwn7
import Derived.Test.YtlilahgndpdkfaaDoorOwn9
set_option linter.all false
/-
  The reader of numbers, as_ the makers of given data use it.
-/
namespace Go.Proofs.YtlilahgndpdkfaaDoor
open Go Go.Abs

/-- The store, its reader at a, with entries of the call's own. -/
abbrev Sr (S : Store) (i : Nat) (L : List Int) (a : Nat) (es : Store) : Store := Stt S i (srcE L a) es

structure Sc (S : Store) (i : Nat) (L : List Int) (a : Nat) : Prop where
  lt : i < S.length
  le : a ≤ L.length
  len : L.length ≤ 2000
  num : ∀ n ∈ L, In64 n

section
variable {S : Store} {i : Nat} {L : List Int} {a : Nat} {es : Store}
theorem Sc.src (h : Sc S i L a) : Src (Sr S i L a es) i L a := ⟨Stt.src h.lt, h.le, h.len, h.num⟩
theorem Sc.to (h : Sc S i L a) {b : Nat} (hb : b ≤ L.length) : Sc S i L b := ⟨h.lt, hb, h.len, h.num⟩
theorem Sc.flat (h : Sc S i L a) {b : Nat} : Sc S i L b → Sc (Sr S i L a es) i L b := fun h2 => ⟨by rw [Stt.length]; have := h.lt; omega, h2.le, h2.len, h2.num⟩
theorem Sc.back (h : Sc S i L a) {b : Nat} : Sc (Sr S i L a es) i L b → Sc S i L b := fun h2 => ⟨h.lt, h2.le, h2.len, h2.num⟩
theorem Sc.of (h : Src S i L a) : Sc S i L a := ⟨h.lt, h.le, h.len, h.num⟩

/-- What a maker of data answers: a value of which Q is so, and the reader read on. -/
def Mk (f : Nat) (args : List AV) (S : Store) (i : Nat) (L : List Int) (a : Nat) (Q : AV → Prop) : Prop :=
  Ev (call f args (Sr S i L a [])) fun r => ∃ v a', Sc S i L a' ∧ Q v ∧ r = (v, Sr S i L a' [])

/-- Wherever the reader stands. -/
def Maker (f : Nat) (args : List AV) (i : Nat) (Q : AV → Prop) : Prop := ∀ (S : Store) (L : List Int) (a : Nat), Sc S i L a → Mk f args S i L a Q

theorem Maker.at {f : Nat} {args : List AV} {Q : AV → Prop} (h : Maker f args i Q) (hs : Sc S i L a) : Ev (call f args (Sr S i L a es)) fun r => ∃ v a', Sc S i L a' ∧ Q v ∧ r = (v, Sr S i L a' es) := by
  have h1 := h (Sr S i L a es) L a (hs.flat hs)
  have e1 : Sr (Sr S i L a es) i L a [] = Sr S i L a es := Stt.self (Stt.src hs.lt)
  unfold Mk at h1
  rw [e1] at h1
  refine h1.mono ?_
  rintro _ ⟨v, a', h2, h3, rfl⟩
  refine ⟨v, a', hs.back h2, h3, ?_⟩
  have : Sr (Sr S i L a es) i L a' [] = Sr S i L a' es := by
    show Stt (Stt S i _ es) i _ [] = _
    rw [Stt.flat hs.lt, List.append_nil]
  rw [this]

theorem e_Raw (hs : Sc S i L a) : Ev (call 31 [.ptr i 0] (Sr S i L a es)) fun r => ∃ v a', Sc S i L a' ∧ In64 v ∧ r = (i64 v, Sr S i L a' es) :=
  .of (s_Raw hs.src) ⟨_, _, hs.to (rawP_le hs.le), rawP_in hs.num, by rw [show (Sr S i L a es).set i _ = _ from Stt.set_src hs.lt]⟩

theorem e_N (hs : Sc S i L a) {n : Int} (h1 : 1 ≤ n) (h2 : n ≤ 9223372036854775807) : Ev (call 15 [.ptr i 0, i64 n] (Sr S i L a es)) fun r => ∃ v a', Sc S i L a' ∧ 0 ≤ v ∧ v < n ∧ r = (i64 v, Sr S i L a' es) := by
  obtain ⟨v, a', h3, h4, h5, h6⟩ := n_N (hs.src (es := es)) (n := n) (by unfold In64; omega) h1
  exact .of h6 ⟨v, a', hs.to h5, h3, h4, by rw [show (Sr S i L a es).set i _ = _ from Stt.set_src hs.lt]⟩

theorem e_Range (hs : Sc S i L a) {lo hi : Int} (h0 : lo ≤ hi) (h1 : -4611686018427387904 ≤ lo) (h2 : hi ≤ 4611686018427387902) : Ev (call 23 [.ptr i 0, i64 lo, i64 hi] (Sr S i L a es)) fun r => ∃ v a', Sc S i L a' ∧ lo ≤ v ∧ v ≤ hi ∧ r = (i64 v, Sr S i L a' es) := by
  obtain ⟨v, a', h3, h4, h5, h6⟩ := n_Range (hs.src (es := es)) h0 h1 h2
  exact .of h6 ⟨v, a', hs.to h5, h3, h4, by rw [show (Sr S i L a es).set i _ = _ from Stt.set_src hs.lt]⟩

theorem ints_of : ∀ {rows : List (List AV)}, (∀ x ∈ rows, ∃ n : Int, x = [i64 n]) → ∃ l, rows = ints l
  | [], _ => ⟨[], rfl⟩
  | x :: rows, h => by
    obtain ⟨n, rfl⟩ := h x (by simp)
    obtain ⟨l, hl⟩ := ints_of (rows := rows) fun y hy => h y (by simp [hy])
    exact ⟨n :: l, by rw [hl]; rfl⟩
theorem strs_of : ∀ {rows : List (List AV)}, (∀ x ∈ rows, ∃ s, x = [AV.str s]) → ∃ l, rows = strs l
  | [], _ => ⟨[], rfl⟩
  | x :: rows, h => by
    obtain ⟨n, rfl⟩ := h x (by simp)
    obtain ⟨l, hl⟩ := strs_of (rows := rows) fun y hy => h y (by simp [hy])
    exact ⟨n :: l, by rw [hl]; rfl⟩

theorem e_Pick (hs : Sc S i L a) {rows : List (List AV)} {t : Tok} (h0 : rows ≠ []) (h1 : rows.length ≤ 2000000) (h2 : ∀ x ∈ rows, ∃ n : Int, x = [i64 n]) : Ev (call 29 [.ptr i 0, .sl rows t] (Sr S i L a es)) fun r => ∃ v a', Sc S i L a' ∧ [i64 v] ∈ rows ∧ r = (i64 v, Sr S i L a' es) := by
  obtain ⟨l, rfl⟩ := ints_of h2
  obtain ⟨v, a', h3, h5, h6⟩ := n_Pick (hs.src (es := es)) (l := l) (t := t) (by rintro rfl; exact h0 rfl) (by simpa using h1)
  exact .of h6 ⟨v, a', hs.to h5, List.mem_map.2 ⟨v, h3, rfl⟩, by rw [show (Sr S i L a es).set i _ = _ from Stt.set_src hs.lt]⟩

theorem e_Text (hs : Sc S i L a) {rows : List (List AV)} {t : Tok} (h0 : rows ≠ []) (h1 : rows.length ≤ 2000000) (h2 : ∀ x ∈ rows, ∃ s, x = [AV.str s]) : Ev (call 28 [.ptr i 0, .sl rows t] (Sr S i L a es)) fun r => ∃ v a', Sc S i L a' ∧ [.str v] ∈ rows ∧ r = (.str v, Sr S i L a' es) := by
  obtain ⟨l, rfl⟩ := strs_of h2
  obtain ⟨v, a', h3, h5, h6⟩ := n_Text (hs.src (es := es)) (l := l) (t := t) (by rintro rfl; exact h0 rfl) (by simpa using h1)
  exact .of h6 ⟨v, a', hs.to h5, List.mem_map.2 ⟨v, h3, rfl⟩, by rw [show (Sr S i L a es).set i _ = _ from Stt.set_src hs.lt]⟩

theorem e_only {m : Option (AV × Store)} {P : AV × Store → Prop} {rest : List AV} {j o : Nat} (hi : i < S.length) (hj : j ≠ i) (h : Ev m P) (hP : ∀ r, P r → ∃ v a', r = (v, Sr S i L a' es)) : Ev (m.bind (onlyV (.ptr i 0 :: rest) [.ptr j o] (Sr S i L a es))) P := by
  refine h.bind fun r hr => ?_
  obtain ⟨v, a', rfl⟩ := hP r hr
  exact .of (Stt.only hi hj) hr

theorem e_Mod {x n : Int} (h1 : 1 ≤ n) (h2 : n ≤ 9223372036854775807) {S : Store} : Ev (call 22 [i64 x, i64 n] S) fun r => ∃ v, 0 ≤ v ∧ v < n ∧ r = (i64 v, S) :=
  .of (s_Mod (by unfold In64; omega) S) ⟨_, (modP_range h1).1, (modP_range h1).2, rfl⟩
end
end Go.Proofs.YtlilahgndpdkfaaDoor
