/-
  Texts of this claim: TlElem.
-/
import Derived.Test.YtlilahgndpdkfaaDoorOwn7
import Derived.Test.YtlilahgndpdkfaaDoorOwn8
set_option linter.all false
/-
  What the functions of package element answer, and those of its reference.
-/
namespace Go.Proofs.YtlilahgndpdkfaaDoor
open Go Go.Abs

/-- slices.IndexFunc: the first that the closure takes. -/
theorem s_IndexReading {xs : List (List AV)} {t : Tok} {f : Nat} {caps : List AV} {p : List AV → Bool} {S : Store} (hx : ∀ x ∈ xs, x.length = 2 ∧ imms x = some x) (hlen : xs.length ≤ 4611686018427387904)
    (hp : ∀ x ∈ xs, call f (.agg x :: caps) S = some (.bool (p x), S)) : call 82 [.sl xs t, .clo f caps] S = some (i64 (idxP p xs), S) := by
  rw [k82]
  unfold F82
  have hle := idxN_le p xs
  have key := iter_run (step := fun s => F82_L1 call S.length (.sl xs t) (.clo f caps) (i64 xs.length) (s.1.getD 0 .u) s.2) (fun k => ([i64 (k : Nat)], S)) (r := if idxN p xs < xs.length then (.ret, [i64 (idxN p xs)], S) else (.exit 0, [.u], S)) (idxN p xs) 0
    (fun j _ hj => by
      have hjl : j < xs.length := by omega
      obtain ⟨h1, h2⟩ := hx xs[j] (List.getElem_mem _)
      have h3 := hp xs[j] (List.getElem_mem _)
      have h5 : List.take 2 xs[j] = xs[j] := List.take_of_length_le (by omega)
      have h4 : p xs[j] = false := idxN_before p xs (by omega) hjl
      have w1 : IntKind.i64.wrap ((j : Int) + 1) = (j : Int) + 1 := wrap_in (by unfold In64; omega)
      have hlt : (j : Int) < (xs.length : Int) := by omega
      simp [F82_L1, hlt, indexAV, at_nat, hjl, h1, h2, h3, h4, h5, w1, nextS_same])
    (by
      simp only [Nat.zero_add]
      by_cases hc : idxN p xs < xs.length
      · obtain ⟨h1, h2⟩ := hx xs[idxN p xs] (List.getElem_mem _)
        have h3 := hp xs[idxN p xs] (List.getElem_mem _)
        have h5 : List.take 2 xs[idxN p xs] = xs[idxN p xs] := List.take_of_length_le (by omega)
        have h4 : p xs[idxN p xs] = true := idxN_at p xs hc
        have hlt : (idxN p xs : Int) < (xs.length : Int) := by omega
        simp [F82_L1, hlt, indexAV, at_nat, hc, h1, h2, h3, h4, h5]
      · have hlt : ¬ (idxN p xs : Int) < (xs.length : Int) := by omega
        simp [F82_L1, hlt, hc])
  simp only [Int.natCast_zero, i64] at key
  simp only [List.getD_cons_zero, List.getD_cons_succ, lenV, Option.bind_some, i64, key, idxP]
  by_cases hc : idxN p xs < xs.length <;> simp [hc]

theorem s_ContainsReading {xs : List (List AV)} {t : Tok} {f : Nat} {caps : List AV} {p : List AV → Bool} {S : Store} (hx : ∀ x ∈ xs, x.length = 2 ∧ imms x = some x) (hlen : xs.length ≤ 4611686018427387904)
    (hp : ∀ x ∈ xs, call f (.agg x :: caps) S = some (.bool (p x), S)) : call 63 [.sl xs t, .clo f caps] S = some (.bool (xs.any p), S) := by
  rw [k63]
  unfold F63
  have h := s_IndexReading (t := t) hx hlen hp
  have h2 := idxP_any p xs
  simp [h, h2]


theorem s_Describe_no {c : Int} (h : c < 1 ∨ 11 < c) (S : Store) : call 83 [i64 c] S = some (.tup [.agg [.str [], i64 0, i64 0, i64 0], i64 4], S) := by
  rw [k83]
  unfold F83
  by_cases h1 : c < 1
  · simp [h1, finish]
  · have h2 : 11 < c := by omega
    simp [h1, h2, finish]

set_option maxHeartbeats 1000000 in
theorem s_Describe {c : Int} (h1 : 1 ≤ c) (h2 : c ≤ 11) (S : Store) : ∃ d, call 83 [i64 c] S = some (.tup [.agg [.str [letter c], i64 (lo c), i64 (hi c), i64 d], i64 0], S) := by
  rw [k83]
  unfold F83
  rcases elem_cases h1 h2 with rfl | rfl | rfl | rfl | rfl | rfl | rfl | rfl | rfl | rfl | rfl
  · refine ⟨5, ?_⟩
    simp [F83_J1, finish, glob0, indexAV, at?, letter, lo, hi, boundsL, ofIntV]
  all_goals
    refine ⟨4, ?_⟩
    simp [F83_J1, finish, glob0, indexAV, at?, letter, lo, hi, boundsL, ofIntV]

theorem s_check (r : Rd) (S : Store) : call 65 [.agg [i64 r.1, i64 r.2]] S = some (i64 (checkP r), S) := by
  rw [k65]
  unfold F65 checkP
  by_cases h1 : r.1 < 1
  · have hd := s_Describe_no (.inl h1) S
    simp [hd, h1]
  · by_cases h2 : 11 < r.1
    · have hd := s_Describe_no (.inr h2) S
      simp [hd, h1, h2]
    · obtain ⟨d, hd⟩ := s_Describe (c := r.1) (by omega) (by omega) S
      by_cases h3 : r.2 < lo r.1
      · simp [hd, h1, h2, h3]
      · by_cases h4 : hi r.1 < r.2
        · simp [hd, h1, h2, h3, h4]
        · simp [hd, h1, h2, h3, h4]

theorem s_check1 {r : Rd} {e : Int} (S : Store) : call 64 [.agg [i64 r.1, i64 r.2], .ip [i64 e] 0] S = some (.bool (checkP r == e), S) := by
  rw [k64]
  unfold F64
  simp [s_check r S]

theorem s_has {l : List Rd} {e : Int} (hl : l.length ≤ 4611686018427387904) (S : Store) : call 62 [i64 e, .ip [.sl (rds l) .none] 0] S = some (.bool (l.any fun r => checkP r == e), S) := by
  rw [k62]
  unfold F62
  have h := s_ContainsReading (xs := rds l) (t := .none) (f := 64) (caps := [.ip [i64 e] 0]) (p := fun x => match x with | [.int _ a, .int _ b] => checkP (a, b) == e | _ => false) (S := S) rds_row (by simpa using hl) (fun x hx => by
    obtain ⟨r, _, rfl⟩ := List.mem_map.1 hx
    exact s_check1 S)
  have e1 : ((rds l).any fun x => match x with | [.int _ a, .int _ b] => checkP (a, b) == e | _ => false) = l.any fun r => checkP r == e := by simp [rds, List.any_map, Function.comp_def]
  rw [e1] at h
  simp [h]

theorem at_rds {l : List Rd} {k : Nat} (h : k < l.length) : at? (rds l) (k : Int) = some [i64 l[k].1, i64 l[k].2] := by
  rw [at_nat]; simp [rds, h]

set_option maxHeartbeats 1000000 in
theorem s_Validate {l : List Rd} {t : Tok} (hl : l.length ≤ 4611686018427387904) (S : Store) : call 48 [.sl (rds l) t] S = some (i64 (validP l), S) := by
  rw [k48]
  unfold F48 validP
  have h4 := s_has (e := 4) hl S
  have h1 := s_has (e := 1) hl S
  cases c4 : l.any fun r => checkP r == 4 with
  | true => rw [c4] at h4; simp [h4]
  | false =>
    rw [c4] at h4
    cases c1 : l.any fun r => checkP r == 1 with
    | true => rw [c1] at h1; simp [h4, h1]
    | false =>
      rw [c1] at h1
      have key := iter_scan (step := fun s => F48_L1 call S.length (.ip [.sl (rds l) .none] 0) (s.1.getD 0 .u) s.2) (S := S) (fun k => decide ((l.getD k (0, 0)).1 ≤ (l.getD (k - 1) (0, 0)).1)) (rT := fun _ => (Ex.ret, [i64 8], S)) (rE := (Ex.exit 1, [.u], S)) (l.length - 1) 1
        (fun k k1 k2 => by
          have hk : k < l.length := by omega
          have hk' : k - 1 < l.length := by omega
          have w1 : IntKind.i64.wrap ((k : Int) + 1) = (k : Int) + 1 := wrap_in (by unfold In64; omega)
          have w2 : IntKind.i64.wrap ((k : Int) - 1) = ((k - 1 : Nat) : Int) := by rw [wrap_in (by unfold In64; omega)]; omega
          have hlt : (k : Int) < (l.length : Int) := by omega
          by_cases hc : l[k].1 ≤ l[k - 1].1
          · simp [F48_L1, hlt, indexAV, at_rds, hk, hk', w1, w2, hc]
          · simp [F48_L1, hlt, indexAV, at_rds, hk, hk', w1, w2, hc, nextS_same])
        (by
          have hlt : ¬ (1 + ((l.length - 1 : Nat) : Int) < (l.length : Int)) := by omega
          simp [F48_L1, hlt])
      have hincr : (∀ k, 1 ≤ k → k < 1 + (l.length - 1) → decide ((l.getD k (0, 0)).1 ≤ (l.getD (k - 1) (0, 0)).1) = false) ↔ incrR l = true := by
        rw [incrR_iff]
        constructor
        · intro h i hi
          have := h (i + 1) (by omega) (by omega)
          simp [hi, show i < l.length by omega] at this
          omega
        · intro h k k1 k2
          have := h (k - 1) (by omega)
          simp only [show k - 1 + 1 = k by omega] at this
          simp [show k < l.length by omega, show k - 1 < l.length by omega]
          omega
      rcases key with ⟨k, k1, k2, k3, k4, k5⟩ | ⟨k1, k2⟩
      · have hn : incrR l = false := by
          rw [Bool.eq_false_iff]; intro h
          have := hincr.2 h k k1 k2
          rw [this] at k3; cases k3
        simp only [Int.natCast_one, i64] at k5
        simp [-List.getD_eq_getElem?_getD, List.getD_cons_zero, List.getD_cons_succ, h4, h1, k5, hn]
      · have hn := hincr.1 k1
        simp only [Int.natCast_one, i64] at k2
        simp [-List.getD_eq_getElem?_getD, List.getD_cons_zero, List.getD_cons_succ, h4, h1, k2, hn]

end Go.Proofs.YtlilahgndpdkfaaDoor
