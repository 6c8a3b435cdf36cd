/-
  Texts of this claim: TlExam, TlLines, TlRef04, TlGen1, TlGen2, TlGen3, TlGen4.
-/
import Derived.Test.YtlilahgndpdkfaaDoorOwn7
import Derived.Test.YtlilahgndpdkfaaDoorOwn9
import Derived.Test.YtlilahgndpdkfaaDoorOwn10
import Derived.Test.YtlilahgndpdkfaaDoorOwn11
import Derived.Test.YtlilahgndpdkfaaDoorOwn12
import Derived.Test.YtlilahgndpdkfaaDoorOwn14
import Derived.Test.YtlilahgndpdkfaaDoorOwn15
set_option linter.all false
/-
  What timeline's examine answers.
-/
namespace Go.Proofs.YtlilahgndpdkfaaDoor
open Go Go.Abs

theorem s_possible1 (n : Int) (S : Store) : call 61 [i64 n] S = some (.bool (decide (n < 0) || decide (10000 < n)), S) := by
  rw [k61]
  unfold F61
  by_cases h1 : n < 0
  · simp [h1]
  · simp [h1]

theorem s_IndexInt {l : List Int} {t : Tok} {f : Nat} {p : Int → Bool} {S : Store} (hlen : l.length ≤ 4611686018427387904) (hp : ∀ n ∈ l, call f [i64 n] S = some (.bool (p n), S)) :
    call 81 [.sl (ints l) t, .clo f []] S = some (i64 (idxP p l), S) := by
  rw [k81]
  unfold F81
  have hle := idxN_le p l
  have key := iter_run (step := fun s => F81_L1 call S.length (.sl (ints l) t) (.clo f []) (i64 l.length) (s.1.getD 0 .u) s.2) (fun k => ([i64 (k : Nat)], S)) (r := if idxN p l < l.length then (.ret, [i64 (idxN p l)], S) else (.exit 0, [.u], S)) (idxN p l) 0
    (fun j _ hj => by
      have hjl : j < l.length := by omega
      have h3 := hp l[j] (List.getElem_mem _)
      have h4 : p l[j] = false := idxN_before p l (by omega) hjl
      have w1 : IntKind.i64.wrap ((j : Int) + 1) = (j : Int) + 1 := wrap_in (by unfold In64; omega)
      have hlt : (j : Int) < (l.length : Int) := by omega
      have hat : at? (ints l) (j : Int) = some [i64 l[j]] := by rw [at_nat]; simp [ints, hjl]
      simp [F81_L1, hlt, indexAV, hat, h3, h4, w1, nextS_same])
    (by
      simp only [Nat.zero_add]
      by_cases hc : idxN p l < l.length
      · have h3 := hp l[idxN p l] (List.getElem_mem _)
        have h4 : p l[idxN p l] = true := idxN_at p l hc
        have hlt : (idxN p l : Int) < (l.length : Int) := by omega
        have hat : at? (ints l) (idxN p l : Int) = some [i64 l[idxN p l]] := by rw [at_nat]; simp [ints, hc]
        simp [F81_L1, hlt, indexAV, hat, hc, h3, h4]
      · have hlt : ¬ (idxN p l : Int) < (l.length : Int) := by omega
        simp [F81_L1, hlt, hc])
  simp only [Int.natCast_zero, i64] at key
  simp only [List.getD_cons_zero, List.getD_cons_succ, lenV, Option.bind_some, i64, ints_length, key, idxP]
  by_cases hc : idxN p l < l.length <;> simp [hc]

theorem s_possible {l : List Int} (hl : l.length = 12) (S : Store) : call 47 [.agg (l.map i64)] S = some (.bool (possP l), S) := by
  rw [k47]
  unfold F47
  have hs : sliceAV 1 12 (.ip (l.map i64) 0) none none S = some (.sl (ints l) .none) := by
    have h0 := chunks_rows (sz := 1) (xs := ints l) (by intro x hx; obtain ⟨n, _, rfl⟩ := List.mem_map.1 hx; rfl) []
    have h1 : (ints l).flatten = l.map i64 := by
      clear hl h0
      induction l with
      | nil => rfl
      | cons a l ih => simp only [ints, List.map_cons, List.flatten_cons] at *; rw [ih]; rfl
    rw [List.append_nil, h1, ints_length, hl] at h0
    simp [sliceAV, bound, hl, h0]
    rw [List.take_of_length_le (by simp [hl])]
  have hi := s_IndexInt (l := l) (t := .none) (f := 61) (p := fun n => decide (n < 0) || decide (10000 < n)) (S := S) (by omega) (fun n _ => s_possible1 n S)
  have hp := idxP_any (fun n : Int => decide (n < 0) || decide (10000 < n)) l
  have hc : call 60 [.sl (ints l) .none, .clo 61 []] S = some (.bool (l.any fun n => decide (n < 0) || decide (10000 < n)), S) := by
    rw [k60]
    unfold F60
    simp only [i64] at hi
    simp [hi]
    simpa using hp
  have him := imms_i64s l
  simp [him, hs, hc, possP]

/-- slices.IndexFunc: the first that the closure takes. -/
theorem s_IndexReport {xs : List (List AV)} {t : Tok} {f : Nat} {caps : List AV} {p : List AV → Bool} {S : Store} (hx : ∀ x ∈ xs, x.length = 8 ∧ imms x = some x) (hlen : xs.length ≤ 4611686018427387904)
    (hp : ∀ x ∈ xs, call f (.agg x :: caps) S = some (.bool (p x), S)) : call 66 [.sl xs t, .clo f caps] S = some (i64 (idxP p xs), S) := by
  rw [k66]
  unfold F66
  have hle := idxN_le p xs
  have key := iter_run (step := fun s => F66_L1 call S.length (.sl xs t) (.clo f caps) (i64 xs.length) (s.1.getD 0 .u) s.2) (fun k => ([i64 (k : Nat)], S)) (r := if idxN p xs < xs.length then (.ret, [i64 (idxN p xs)], S) else (.exit 0, [.u], S)) (idxN p xs) 0
    (fun j _ hj => by
      have hjl : j < xs.length := by omega
      obtain ⟨h1, h2⟩ := hx xs[j] (List.getElem_mem _)
      have h3 := hp xs[j] (List.getElem_mem _)
      have h5 : List.take 8 xs[j] = xs[j] := List.take_of_length_le (by omega)
      have h4 : p xs[j] = false := idxN_before p xs (by omega) hjl
      have w1 : IntKind.i64.wrap ((j : Int) + 1) = (j : Int) + 1 := wrap_in (by unfold In64; omega)
      have hlt : (j : Int) < (xs.length : Int) := by omega
      simp [F66_L1, hlt, indexAV, at_nat, hjl, h1, h2, h3, h4, h5, w1, nextS_same])
    (by
      simp only [Nat.zero_add]
      by_cases hc : idxN p xs < xs.length
      · obtain ⟨h1, h2⟩ := hx xs[idxN p xs] (List.getElem_mem _)
        have h3 := hp xs[idxN p xs] (List.getElem_mem _)
        have h5 : List.take 8 xs[idxN p xs] = xs[idxN p xs] := List.take_of_length_le (by omega)
        have h4 : p xs[idxN p xs] = true := idxN_at p xs hc
        have hlt : (idxN p xs : Int) < (xs.length : Int) := by omega
        simp [F66_L1, hlt, indexAV, at_nat, hc, h1, h2, h3, h4, h5]
      · have hlt : ¬ (idxN p xs : Int) < (xs.length : Int) := by omega
        simp [F66_L1, hlt, hc])
  simp only [Int.natCast_zero, i64] at key
  simp only [List.getD_cons_zero, List.getD_cons_succ, lenV, Option.bind_some, i64, key, idxP]
  by_cases hc : idxN p xs < xs.length <;> simp [hc]

theorem s_ContainsReport {xs : List (List AV)} {t : Tok} {f : Nat} {caps : List AV} {p : List AV → Bool} {S : Store} (hx : ∀ x ∈ xs, x.length = 8 ∧ imms x = some x) (hlen : xs.length ≤ 4611686018427387904)
    (hp : ∀ x ∈ xs, call f (.agg x :: caps) S = some (.bool (p x), S)) : call 49 [.sl xs t, .clo f caps] S = some (.bool (xs.any p), S) := by
  rw [k49]
  unfold F49
  have h := s_IndexReport (t := t) hx hlen hp
  have h2 := idxP_any p xs
  simp [h, h2]


theorem s_examine1 (r : Rep) (S : Store) : call 50 [.agg (repR r)] S = some (.bool (!inP r.time), S) := by
  rw [k50]
  unfold F50
  unfold inP
  by_cases h1 : r.time < 0
  · simp [repR, h1]
  · have : 0 ≤ r.time := by omega
    by_cases h2 : r.time ≤ 52595999
    · have : ¬ 52595999 < r.time := by omega
      simp [repR, h1, h2, *]
    · have : 52595999 < r.time := by omega
      simp [repR, h1, h2, *]

theorem s_late {l : List Rep} {t : Tok} (hl : l.length ≤ 4611686018427387904) (S : Store) : call 49 [.sl (reps l) t, .clo 50 []] S = some (.bool (!l.all fun r => inP r.time), S) := by
  have h := s_ContainsReport (xs := reps l) (t := t) (f := 50) (caps := []) (p := fun x => match x with | [_, _, .int _ n, _, _, _, _, _] => !inP n | _ => false) (S := S) reps_row (by simpa using hl) (fun x hx => by
    obtain ⟨r, _, rfl⟩ := List.mem_map.1 hx
    exact s_examine1 r S)
  rw [h]
  have : ((reps l).any fun x => match x with | [_, _, .int _ n, _, _, _, _, _] => !inP n | _ => false) = !l.all fun r => inP r.time := by
    simp only [reps, List.any_map]
    induction l with
    | nil => rfl
    | cons a l ih =>
      simp only [List.any_cons, List.all_cons, Bool.not_and, Function.comp, repR] at *
      rw [ih (by simp at hl; omega) (s_ContainsReport reps_row (by simp at *; omega) (fun x hx => by
        obtain ⟨r, _, rfl⟩ := List.mem_map.1 hx
        exact s_examine1 r S))]
  rw [this]

def seenE (l : List Rep) (k : Nat) : List (AV × AV) := (seenK ((l.take k).map keyR)).map fun x => (kvS x, .bool true)

theorem seenE_keys (l : List Rep) (k : Nat) : (seenE l k).map (·.1) = (seenK ((l.take k).map keyR)).map kvS := by simp [seenE, Function.comp_def]

theorem seenE_step {l : List Rep} {k : Nat} (hk : k < l.length) {S : Store} : mapSetV S.length true [1, 0] (.map S.length) (.agg [.str l[k].name, i64 l[k].time]) (.bool true) (S ++ [.map (seenE l k)]) = some (S ++ [.map (seenE l (k + 1))]) := by
  have hf := findI_kvS (keyR l[k]) (seenE l k) _ 0 (seenE_keys l k)
  simp only [kvS, keyR] at hf
  have hb : Nat.blt S.length S.length = false := blt_false (Nat.le_refl _)
  have ht : (l.take (k + 1)).map keyR = (l.take k).map keyR ++ [keyR l[k]] := by
    rw [List.take_succ_eq_append_getElem hk]; simp only [List.map_append, List.map_cons, List.map_nil]
  have hs : seenK ((l.take (k + 1)).map keyR) = addK (seenK ((l.take k).map keyR)) (keyR l[k]) := by
    unfold seenK; rw [ht, List.foldl_append]; rfl
  simp only [mapSetV, List.getElem?_concat_length, immV, imms, imm1, Option.bind_some, valM, hb, cond_false, cell1, hf]
  rw [List.set_append_right _ _ (Nat.le_refl _), Nat.sub_self]
  by_cases hm : (l[k].name, l[k].time) ∈ seenK ((l.take k).map keyR)
  · have e1 : seenE l (k + 1) = seenE l k := by unfold seenE; rw [hs, addK, if_pos (show keyR l[k] ∈ _ from hm)]
    rw [e1]
    simp only [hm, if_true, Nat.zero_add, List.set_cons_zero]
    congr 4
    have hi := List.idxOf_lt_length_iff.2 hm
    apply List.ext_getElem (by simp)
    intro j h1 h2
    by_cases hj : (seenK ((l.take k).map keyR)).idxOf (l[k].name, l[k].time) = j
    · subst hj
      rw [List.getElem_set_self]
      simp only [seenE, List.getElem_map, kvS]
      rw [List.getElem_idxOf]
    · rw [List.getElem_set_ne hj]
  · have e1 : seenE l (k + 1) = seenE l k ++ [(kvS (keyR l[k]), .bool true)] := by unfold seenE; rw [hs, addK, if_neg (show ¬ keyR l[k] ∈ _ from hm)]; simp
    rw [e1]
    simp only [hm, if_false, List.set_cons_zero]
    rfl

theorem firstP_all {l : List Rep} : firstP l = 0 ↔ ∀ r ∈ l, validP r.rd = 0 := by
  induction l with
  | nil => simp [firstP]
  | cons a l ih =>
    unfold firstP
    by_cases h : validP a.rd = 0
    · simp [h, ih]
    · simp [h]

theorem firstP_at {l : List Rep} {k : Nat} (hk : k < l.length) (h : validP l[k].rd ≠ 0) (h2 : ∀ j (hj : j < k), validP (l[j]).rd = 0) : firstP l = validP l[k].rd := by
  induction l generalizing k with
  | nil => simp at hk
  | cons a l ih =>
    unfold firstP
    cases k with
    | zero => simp only [List.getElem_cons_zero] at h ⊢; rw [if_neg h]
    | succ k =>
      have h0 := h2 0 (by omega)
      simp only [List.getElem_cons_zero] at h0
      rw [if_pos h0]
      simp only [List.getElem_cons_succ] at h ⊢
      exact ih (by simpa using hk) h fun j hj => by simpa using h2 (j + 1) (by omega)

set_option maxHeartbeats 2000000 in
theorem s_examine {l : List Rep} {t : Tok} {k : Ctl} (hk : k.Fit) (hl : l.length ≤ 1000000) (hr : ∀ r ∈ l, r.rd.length ≤ 4611686018427387904) (S : Store) : call 33 [.sl (reps l) t, .agg (ctlC k)] S = some (i64 (examP l k), S) := by
  rw [k33]
  unfold F33
  have p1 := s_possible hk.steps S
  have p2 := s_possible hk.spikes S
  have p3 := s_late (l := l) (t := t) (by omega) S
  have e0 : ctlC k = i64 k.hops :: (k.steps.map i64 ++ (k.spikes.map i64 ++ k.rest.map i64)) := by simp [ctlC]
  have e1 : imms (ctlC k) = some (ctlC k) := by
    have := imms_i64s (k.hops :: (k.steps ++ k.spikes ++ k.rest))
    simpa [ctlC] using this
  have e2 : List.take 12 (ctlC k).tail = k.steps.map i64 := by rw [e0]; simp [hk.steps]
  have e3 : List.take 12 (List.drop 13 (ctlC k)) = k.spikes.map i64 := by rw [e0]; simp [hk.steps, hk.spikes]
  have e4 : 13 ≤ (ctlC k).length := by simp [ctlC, hk.steps, hk.spikes, hk.rest]
  have e5 : 25 ≤ (ctlC k).length := by simp [ctlC, hk.steps, hk.spikes, hk.rest]
  have hat : ∀ (j : Nat) (h : j < l.length), at? (reps l) (j : Int) = some (repR l[j]) := fun j h => at_reps h
  have key1 := iter_scan (step := fun s => F33_L1 call S.length (.sl (reps l) t) (.sl (reps l) t) (i64 l.length) (s.1.getD 0 .u) s.2) (S := S) (fun j => !decide (validP (l.getD j ⟨0, [], 0, 0, 0, 0, 0, []⟩).rd = 0)) (rT := fun j => (Ex.ret, [i64 (validP (l.getD j ⟨0, [], 0, 0, 0, 0, 0, []⟩).rd)], S)) (rE := (Ex.exit 0, [.u], S)) l.length 0
    (fun j j1 j2 => by
      have hj : j < l.length := by omega
      have hlt : (j : Int) < (l.length : Int) := by omega
      have hg : l.getD j ⟨0, [], 0, 0, 0, 0, 0, []⟩ = l[j] := by rw [List.getD_eq_getElem?_getD, List.getElem?_eq_getElem hj]; rfl
      rw [hg]
      have hv := s_Validate (l := l[j].rd) (t := .none) (hr _ (List.getElem_mem hj)) S
      have w1 : IntKind.i64.wrap ((j : Int) + 1) = (j : Int) + 1 := wrap_in (by unfold In64; omega)
      have hat' := hat j hj
      by_cases h0 : validP l[j].rd = 0
      · rw [h0] at hv
        simp [F33_L1, hlt, indexAV, hat', repR, hv, h0, w1, nextS_same]
      · simp [F33_L1, hlt, indexAV, hat', repR, hv, h0])
    (by simp [F33_L1])
  have key2 := iter_run (step := fun s => F33_L2 call S.length (.sl (reps l) t) (.map S.length) (.sl (reps l) t) (i64 l.length) (s.1.getD 0 .u) s.2) (fun j => ([i64 (j : Nat)], S ++ [.map (seenE l j)])) (r := (Ex.exit 2, [], S ++ [.map (seenE l l.length)])) l.length 0
    (fun j j1 j2 => by
      have hj : j < l.length := by omega
      have hlt : (j : Int) < (l.length : Int) := by omega
      have w1 : IntKind.i64.wrap ((j : Int) + 1) = (j : Int) + 1 := wrap_in (by unfold In64; omega)
      have hat' := hat j hj
      have hset := seenE_step hj (S := S)
      have hn : nextS S.length (S.length + 1) [.int .i64 ((j : Int) + 1)] (S ++ [Ent.map (seenE l (j + 1))]) = some ([.int .i64 ((j : Int) + 1)], S ++ [.map (seenE l (j + 1))]) := nextS_eq (by simp)
      simp [F33_L2, hlt, indexAV, hat', repR, buildV, fillC, hset, w1, hn])
    (by simp [F33_L2])
  simp only [Int.natCast_zero, i64] at key1 key2
  have hs0 : seenE l 0 = [] := rfl
  rw [hs0] at key2
  have fl : decide (((seenE l l.length).length : Int) < (l.length : Int)) = twiceP l := by
    have := seenK_twice l
    simpa [seenE] using this
  unfold examP
  cases c1 : possP k.steps with
  | false =>
    rw [c1] at p1
    simp [imms_i64s, e1, e2, e4, p1]
  | true =>
    rw [c1] at p1
    cases c2 : possP k.spikes with
    | false =>
      rw [c2] at p2
      simp [imms_i64s, e1, e2, e3, e4, e5, p1, p2]
    | true =>
      rw [c2] at p2
      rcases key1 with ⟨j, j1, j2, j3, j4, j5⟩ | ⟨j1, j2⟩
      · have hj : j < l.length := by omega
        have hg : l.getD j ⟨0, [], 0, 0, 0, 0, 0, []⟩ = l[j] := by rw [List.getD_eq_getElem?_getD, List.getElem?_eq_getElem hj]; rfl
        rw [hg] at j3 j5
        have hv : validP l[j].rd ≠ 0 := by simpa using j3
        have hf := firstP_at hj hv fun i hi => by
          have := j4 i (Nat.zero_le _) hi
          rw [List.getD_eq_getElem?_getD, List.getElem?_eq_getElem (by omega)] at this
          simpa using this
        rw [hf, if_neg hv]
        simp [-List.getD_eq_getElem?_getD, imms_i64s, List.getD_cons_zero, List.getD_cons_succ, e1, e2, e3, e4, e5, p1, p2, j5]
      · have hf : firstP l = 0 := firstP_all.2 fun r hr => by
          obtain ⟨i, hi, rfl⟩ := List.getElem_of_mem hr
          have := j1 i (Nat.zero_le _) (by omega)
          rw [List.getD_eq_getElem?_getD, List.getElem?_eq_getElem hi] at this
          simpa using this
        rw [hf]
        cases c3 : l.all fun r => inP r.time with
        | false =>
          rw [c3] at p3
          simp [-List.getD_eq_getElem?_getD, imms_i64s, List.getD_cons_zero, List.getD_cons_succ, e1, e2, e3, e4, e5, p1, p2, p3, j2]
        | true =>
          rw [c3] at p3
          cases c4 : twiceP l with
          | false =>
            rw [c4] at fl
            have fl' : ¬ (((seenE l l.length).length : Int) < (l.length : Int)) := by simpa using fl
            simp [-List.getD_eq_getElem?_getD, imms_i64s, List.getD_cons_zero, List.getD_cons_succ, e1, e2, e3, e4, e5, p1, p2, p3, j2, key2, fl']
          | true =>
            rw [c4] at fl
            have fl' : (((seenE l l.length).length : Int) < (l.length : Int)) := by simpa using fl
            simp [-List.getD_eq_getElem?_getD, imms_i64s, List.getD_cons_zero, List.getD_cons_succ, e1, e2, e3, e4, e5, p1, p2, p3, j2, key2, fl']

end Go.Proofs.YtlilahgndpdkfaaDoor

/-
  What timeline's lines answers.
-/
namespace Go.Proofs.YtlilahgndpdkfaaDoor
open Go Go.Abs

/-- What holds of the store while the map is made. -/
structure MakeI (S0 : Store) (d : List (Key × Pt)) (S : Store) (idx : Key → Nat) : Prop where
  lin : LinI S0.length d S idx
  low : ∀ j, j < S0.length → S[j]? = S0[j]?

theorem MakeI.lt {S0 : Store} {d : List (Key × Pt)} {S : Store} {idx : Key → Nat} (h : MakeI S0 d S idx) : S0.length < S.length := (List.getElem?_eq_some_iff.1 h.lin.map).1

set_option maxHeartbeats 1000000 in
theorem lines_inner {S0 S1 : Store} {d : List (Key × Pt)} {i : Nat} {r : Rep} {idx : Key → Nat} (t14 : AV) (h : MakeI S0 d S1 idx) (hd : d.length + r.rd.length ≤ 1000000) :
    ∃ S2 idx2, iter (fun s => F34_L2 call S0.length (.map S0.length) (i64 i) (.ip (repR r) 0) t14 (.sl (rds r.rd) .none) (i64 r.rd.length) (s.1.getD 0 .u) s.2) ([i64 0], S1) = some (.exit 2, [], S2) ∧
      MakeI S0 (d ++ entR i r) S2 idx2 ∧ (S2 = S1 ∨ ∃ x ∈ seenK ((d ++ entR i r).map (·.1)), S1.length ≤ idx2 x) := by
  have key := iter_to (step := fun s => F34_L2 call S0.length (.map S0.length) (i64 i) (.ip (repR r) 0) t14 (.sl (rds r.rd) .none) (i64 r.rd.length) (s.1.getD 0 .u) s.2)
    (fun k s => ∃ S idx2, s = ([i64 (k : Nat)], S) ∧ MakeI S0 (d ++ (entR i r).take k) S idx2 ∧ S1.length ≤ S.length ∧ (S = S1 ∨ ∃ x ∈ seenK ((d ++ (entR i r).take k).map (·.1)), S1.length ≤ idx2 x))
    (fun q => ∃ S2 idx2, q = (.exit 2, [], S2) ∧ MakeI S0 (d ++ entR i r) S2 idx2 ∧ (S2 = S1 ∨ ∃ x ∈ seenK ((d ++ entR i r).map (·.1)), S1.length ≤ idx2 x)) r.rd.length
    (fun k s hk ⟨S, idx2, hs, hm, hle, hor⟩ => by
      subst hs
      have hlt : (k : Int) < (r.rd.length : Int) := by omega
      have w1 : IntKind.i64.wrap ((k : Int) + 1) = (k : Int) + 1 := wrap_in (by unfold In64; omega)
      have hat : at? (rds r.rd) (k : Int) = some [i64 (r.rd[k]).1, i64 (r.rd[k]).2] := by rw [at_nat]; simp [rds, hk]
      have hke : k < (entR i r).length := by simpa [entR] using hk
      have htk : (entR i r).take (k + 1) = (entR i r).take k ++ [((r.name, (r.rd[k]).1), ⟨i, r.time, (r.rd[k]).2⟩)] := by
        rw [List.take_succ_eq_append_getElem hke]; simp [entR]
      obtain ⟨v0, st, T1, v2, T2, T3, idx3, e1, e2, e3, e4, e5, e6, e7, e8⟩ := hm.lin.add (r.name, (r.rd[k]).1) ⟨i, r.time, (r.rd[k]).2⟩ (by
        rw [List.length_append, List.length_take]; omega)
      simp only [kvS, ptR] at e1 e2
      rw [List.append_assoc, ← htk] at e4
      have hx : (r.name, (r.rd[k]).1) ∈ seenK ((d ++ (entR i r).take (k + 1)).map (·.1)) := by rw [mem_seenK, htk]; simp
      have hnx := e4.next (m := S.length) hm.lt hx e7 [.int .i64 ((k : Int) + 1)]
      refine ⟨([i64 ((k + 1 : Nat) : Int)], T3), ?_, T3, idx3, rfl, ⟨e4, fun j hj => (e6 j hj).trans (hm.low j hj)⟩, Nat.le_trans hle e5, .inr ⟨_, hx, Nat.le_trans hle e7⟩⟩
      simp [F34_L2, hlt, indexAV, hat, repR, buildV, fillC, bsliceV, immRows, e1, e2, e3, extractV, w1, hnx])
    (fun s ⟨S, idx2, hs, hm, hle, hor⟩ => by
      subst hs
      have : (entR i r).take r.rd.length = entR i r := List.take_of_length_le (by simp [entR])
      rw [this] at hm hor
      exact ⟨_, by simp [F34_L2], S, idx2, rfl, hm, hor⟩) 0 ([i64 0], S1) (Nat.zero_le _) ⟨S1, idx, rfl, by simpa using h, Nat.le_refl _, .inl rfl⟩
  obtain ⟨q, h1, S2, idx2, rfl, h2, h3⟩ := key
  exact ⟨S2, idx2, h1, h2, h3⟩

theorem allR_length_le : ∀ (l : List Rep) (i : Nat) {m : Nat}, (∀ r ∈ l, r.rd.length ≤ m) → (allR l i).length ≤ l.length * m
  | [], _, _, _ => by simp [allR]
  | r :: l, i, m, h => by
    have h1 := allR_length_le l (i + 1) fun r hr => h r (by simp [hr])
    have h2 := h r (by simp)
    simp only [allR, List.length_append, entR, List.length_map, List.length_cons, Nat.add_mul, Nat.one_mul]
    omega

theorem lines_outer {S0 : Store} {l : List Rep} {t : Tok} (hl : (allR l 0).length ≤ 1000000) (hl2 : l.length ≤ 1000000) :
    ∃ S2 idx2, iter (fun s => F34_L1 call S0.length (.map S0.length) (.sl (reps l) t) (i64 l.length) (s.1.getD 0 .u) s.2) ([i64 0], S0 ++ [.map []]) = some (.exit 0, [], S2) ∧ MakeI S0 (allR l 0) S2 idx2 := by
  have key := iter_to (step := fun s => F34_L1 call S0.length (.map S0.length) (.sl (reps l) t) (i64 l.length) (s.1.getD 0 .u) s.2)
    (fun k s => ∃ S idx2, s = ([i64 (k : Nat)], S) ∧ MakeI S0 (allR (l.take k) 0) S idx2)
    (fun q => ∃ S2 idx2, q = (.exit 0, [], S2) ∧ MakeI S0 (allR l 0) S2 idx2) l.length
    (fun k s hk ⟨S, idx2, hs, hm⟩ => by
      subst hs
      have hlt : (k : Int) < (l.length : Int) := by omega
      have w1 : IntKind.i64.wrap ((k : Int) + 1) = (k : Int) + 1 := wrap_in (by unfold In64; omega)
      have hat := at_reps hk
      have htk := allR_take hk
      have hlen : (allR (l.take k) 0).length + l[k].rd.length ≤ 1000000 := by
        have h1 : allR l 0 = allR (l.take (k + 1)) 0 ++ allR (l.drop (k + 1)) (0 + (l.take (k + 1)).length) := by rw [← allR_append, List.take_append_drop]
        rw [h1, htk] at hl
        simp only [List.length_append, entR, List.length_map] at hl
        omega
      obtain ⟨S2, idx3, h1, h2, h3⟩ := lines_inner (i64 (k : Nat)) hm hlen (i := k) (r := l[k])
      rw [← htk] at h2 h3
      have hnx : nextS S0.length S.length [.int .i64 ((k : Int) + 1)] S2 = some ([.int .i64 ((k : Int) + 1)], S2) := by
        rcases h3 with h3 | ⟨x, hx, hxi⟩
        · rw [h3]; exact nextS_same
        · exact h2.lin.next hm.lt hx hxi _
      refine ⟨([i64 ((k + 1 : Nat) : Int)], S2), ?_, S2, idx3, rfl, h2⟩
      simp only [i64, repR] at h1
      simp [-List.getD_eq_getElem?_getD, List.getD_cons_zero, F34_L1, hlt, indexAV, hat, repR, h1, w1, hnx])
    (fun s ⟨S, idx2, hs, hm⟩ => by
      subst hs
      rw [List.take_length] at hm
      exact ⟨_, by simp [F34_L1], S, idx2, rfl, hm⟩) 0 ([i64 0], S0 ++ [.map []]) (Nat.zero_le _) ⟨S0 ++ [.map []], fun _ => 0, rfl, by simpa [allR] using LinI.nil S0 _, fun j hj => by rw [List.getElem?_append_left hj]⟩
  obtain ⟨q, h1, S2, idx2, rfl, h2⟩ := key
  exact ⟨S2, idx2, h1, h2⟩

/-- The store when all lines are in order. -/
noncomputable def sortedS (l : List Rep) (S : Store) (idx : Key → Nat) : Store :=
  (List.range S.length).map (fun j => match (seenK ((allR l 0).map (·.1))).find? fun x => idx x == j with
    | some x => .obj (pts (lineP l x)).flatten
    | none => S.getD j .dead) ++ [.dead]

/-- While the lines are put in order: those at the places 'seen' are. -/
structure SortI (l : List Rep) (Sb : Store) (idx : Key → Nat) (n : Nat) (seen : List Nat) (S : Store) : Prop where
  len : S.length = Sb.length + 1
  it : S[Sb.length]? = some (.iter n (seenK ((allR l 0).map (·.1))).length seen)
  done : ∀ q (hq : q < (seenK ((allR l 0).map (·.1))).length), q ∈ seen → S[idx ((seenK ((allR l 0).map (·.1)))[q])]? = some (.obj (pts (lineP l ((seenK ((allR l 0).map (·.1)))[q]))).flatten)
  rest : ∀ j, j < Sb.length → (∀ q (hq : q < (seenK ((allR l 0).map (·.1))).length), q ∈ seen → idx ((seenK ((allR l 0).map (·.1)))[q]) ≠ j) → S[j]? = Sb[j]?

theorem sortI_end {l : List Rep} {S0 Sb : Store} {idx : Key → Nat} {seen : List Nat} {S : Store} (hm : MakeI S0 (allR l 0) Sb idx) (h : SortI l Sb idx S0.length seen S) (hall : ∀ q, q < (seenK ((allR l 0).map (·.1))).length → q ∈ seen) :
    S.set Sb.length .dead = sortedS l Sb idx := by
  apply List.ext_getElem?
  intro j
  unfold sortedS
  by_cases hj : j < Sb.length
  · rw [List.getElem?_set_ne (by omega), List.getElem?_append_left (by simpa using hj), List.getElem?_map, List.getElem?_range hj]
    simp only [Option.map_some]
    cases hf : (seenK ((allR l 0).map (·.1))).find? fun x => idx x == j with
    | some x =>
      have hx := List.mem_of_find?_eq_some hf
      have hxj := List.find?_some hf
      simp only [beq_iff_eq] at hxj
      obtain ⟨q, hq, rfl⟩ := List.getElem_of_mem hx
      have := h.done q hq (hall q hq)
      rw [hxj] at this
      exact this
    | none =>
      rw [h.rest j hj fun q hq _ e => by
        have := List.find?_eq_none.1 hf _ (List.getElem_mem hq)
        simp [e] at this]
      simp [List.getD_eq_getElem?_getD, hj]
  · by_cases hj2 : j = Sb.length
    · subst hj2
      rw [List.getElem?_set_self (by rw [h.len]; omega), List.getElem?_append_right (by simp)]
      simp
    · rw [List.getElem?_eq_none (by simp [h.len]; omega), List.getElem?_eq_none (by simp; omega)]

theorem sortedS_lines {l : List Rep} {S0 Sb : Store} {idx : Key → Nat} (hm : MakeI S0 (allR l 0) Sb idx) : LinesOf S0.length l (sortedS l Sb idx) idx ∧ (∀ j, j < S0.length → (sortedS l Sb idx)[j]? = S0[j]?) ∧ S0.length < (sortedS l Sb idx).length := by
  have hlt := hm.lt
  have low : ∀ j, j ≤ S0.length → (sortedS l Sb idx)[j]? = Sb[j]? := fun j hj => by
    unfold sortedS
    rw [List.getElem?_append_left (by simp; omega), List.getElem?_map, List.getElem?_range (by omega)]
    simp only [Option.map_some]
    rw [List.find?_eq_none.2 fun x hx => by
      have := (hm.lin.obj x hx).1
      simp; omega]
    simp [List.getD_eq_getElem?_getD, show j < Sb.length by omega]
  refine ⟨⟨by rw [low _ (Nat.le_refl _)]; exact hm.lin.map, fun x hx => ⟨(hm.lin.obj x hx).1, ?_⟩⟩, fun j hj => by rw [low j (by omega)]; exact hm.low j hj, by simp [sortedS]; omega⟩
  have hi : idx x < Sb.length := (List.getElem?_eq_some_iff.1 (hm.lin.obj x hx).2).1
  unfold sortedS
  rw [List.getElem?_append_left (by simpa using hi), List.getElem?_map, List.getElem?_range hi]
  simp only [Option.map_some]
  cases hf : (seenK ((allR l 0).map (·.1))).find? fun y => idx y == idx x with
  | some y =>
    have hy := List.mem_of_find?_eq_some hf
    have hyx := List.find?_some hf
    simp only [beq_iff_eq] at hyx
    rw [hm.lin.inj y hy x hx hyx]
  | none =>
    have := List.find?_eq_none.1 hf x hx
    simp at this

set_option maxHeartbeats 2000000 in
theorem s_lines {l : List Rep} {t : Tok} (hl : (allR l 0).length ≤ 1000000) (hl2 : l.length ≤ 1000000) (hT : ∀ x, ((ptsOf (allR l 0) x).map (·.time)).Nodup) (S : Store) :
    ∃ S' idx, call 34 [.sl (reps l) t] S = some (.map S.length, S') ∧ LinesOf S.length l S' idx ∧ (∀ j, j < S.length → S'[j]? = S[j]?) ∧ S.length < S'.length := by
  obtain ⟨Sb, idx, h1, hm⟩ := lines_outer (S0 := S) (l := l) (t := t) hl hl2
  obtain ⟨r1, r2, r3⟩ := sortedS_lines hm
  refine ⟨sortedS l Sb idx, idx, ?_, r1, r2, r3⟩
  rw [k34]
  unfold F34
  have hb : Nat.blt S.length S.length = false := blt_false (Nat.le_refl _)
  have hnd := seenK_nodup ((allR l 0).map (·.1))
  have hir : ∀ x ∈ seenK ((allR l 0).map (·.1)), idx x < Sb.length := fun x hx => (List.getElem?_eq_some_iff.1 (hm.lin.obj x hx).2).1
  have hlt := hm.lt
  -- the walk
  have walk := rangeK_rule (ρ := AV × Store) (it := .ptr Sb.length 0) (body := fun w43 w44 v40 S41 K42 =>
      condK w44
        ((entryV (.ptr Sb.length 0) S41).bind fun v45 =>
        (extractV v45 1).bind fun v46 =>
        (argVs [v46, (.clo 52 [])]).bind fun v47 => (call 51 v47 S41).bind fun v48 =>
        K42 [] v48.2)
        (finish false S.length [(.map S.length)] S41)) (r := (.map S.length, sortedS l Sb idx))
    (fun n vs S1 => vs = [] ∧ ∃ seen : List Nat, seen.Nodup ∧ (∀ q ∈ seen, q < (seenK ((allR l 0).map (·.1))).length) ∧ n + seen.length = (seenK ((allR l 0).map (·.1))).length ∧ SortI l Sb idx S.length seen S1)
    (fun vs S1 ⟨hvs, seen, s1, s2, s3, s4⟩ => by
      have hmap : S1[S.length]? = some (.map ((seenK ((allR l 0).map (·.1))).map (entL (allR l 0) idx))) := by
        rw [s4.rest _ hlt fun q hq _ => by have := (hm.lin.obj _ (List.getElem_mem hq)).1; omega]
        exact hm.lin.map
      have hlf := left_length s1 s2
      have hall : ∀ q, q < (seenK ((allR l 0).map (·.1))).length → q ∈ seen := by
        intro q hq
        have : ((List.range (seenK ((allR l 0).map (·.1))).length).filter fun j => !memN j seen) = [] := List.eq_nil_of_length_eq_zero (by omega)
        have := List.filter_eq_nil_iff.1 this q (by simpa using hq)
        simpa [memN_eq] using this
      refine ⟨?_, ?_⟩
      · rw [stepI_eq s4.it hmap (by simp)]
        rw [List.eq_nil_of_length_eq_zero (l := (List.range (seenK ((allR l 0).map (·.1))).length).filter fun j => !memN j seen) (by omega)]
        rfl
      · have hk : killI (.ptr Sb.length 0) S1 = sortedS l Sb idx := sortI_end hm s4 hall
        rw [hk]
        simp only [condK, Bool.false_eq_true, if_false]
        simp [finish, hb, noOsl])
    (fun n vs S1 ⟨hvs, seen, s1, s2, s3, s4⟩ => by
      have hmap : S1[S.length]? = some (.map ((seenK ((allR l 0).map (·.1))).map (entL (allR l 0) idx))) := by
        rw [s4.rest _ hlt fun q hq _ => by have := (hm.lin.obj _ (List.getElem_mem hq)).1; omega]
        exact hm.lin.map
      have hlf := left_length s1 s2
      refine ⟨_, stepI_eq s4.it hmap (by simp), ?_, ?_⟩
      · intro h
        have := congrArg List.length h
        simp only [List.length_map, List.length_nil] at this
        omega
      · intro c hc K hK
        obtain ⟨q, hq, rfl⟩ := List.mem_map.1 hc
        simp only [List.mem_filter, List.mem_range, memN_eq, Bool.not_eq_true', decide_eq_false_iff_not] at hq
        obtain ⟨hq1, hq2⟩ := hq
        -- the line that is met
        have hx := List.getElem_mem hq1
        generalize hxe : (seenK ((allR l 0).map (·.1)))[q] = x at hx
        have hix := hir x hx
        have hne : idx x ≠ Sb.length := by omega
        have hself : S1[idx x]? = some (.obj (pts (ptsOf (allR l 0) x)).flatten) := by
          rw [s4.rest _ hix fun p hp hps e => by
            have h4 := hm.lin.inj _ (List.getElem_mem hp) x hx e
            rw [← hxe] at h4
            have := (List.getElem_inj (h₀ := hp) (h₁ := hq1) hnd).1 h4
            subst this
            exact hq2 hps]
          exact (hm.lin.obj x hx).2
        have hlenS : Sb.length < S1.length := by rw [s4.len]; omega
        have hent : entryV (.ptr Sb.length 0) (S1.set Sb.length (.iter S.length (seenK ((allR l 0).map (·.1))).length (seen ++ [q]))) = some (.tup [kvS x, .osl (idx x) 0 (ptsOf (allR l 0) x).length 3]) := by
          simp only [entryV, List.getElem?_set_self hlenS]
          rw [List.getElem?_set_ne (by omega), hmap]
          simp only [List.getLast?_concat, List.length_map, if_true, List.getElem?_map, List.getElem?_eq_getElem hq1, hxe, Option.map_some, Option.bind_some]
          rfl
        have hsort := sortV_line (S := S1.set Sb.length (.iter S.length (seenK ((allR l 0).map (·.1))).length (seen ++ [q]))) (i := idx x) (f := 52) (l := ptsOf (allR l 0) x) (by rw [List.getElem?_set_ne (by omega)]; exact hself) (ptsOf_ne hx) (by have := ptsOf_le (allR l 0) x; omega) (hT x)
        have hcall : call 51 [.osl (idx x) 0 (ptsOf (allR l 0) x).length 3, .clo 52 []] (S1.set Sb.length (.iter S.length (seenK ((allR l 0).map (·.1))).length (seen ++ [q]))) = some (.tup [], (S1.set Sb.length (.iter S.length (seenK ((allR l 0).map (·.1))).length (seen ++ [q]))).set (idx x) (.obj (pts (lineP l x)).flatten)) := by
          rw [k51]
          exact hsort
        simp only [condK, if_true, hent, Option.bind_some, extractV, List.getElem?_cons_succ, List.getElem?_cons_zero, argVs, argV, hcall]
        refine hK [] _ ⟨rfl, seen ++ [q], ?_, ?_, by simp; omega, ?_, ?_, ?_, ?_⟩
        · rw [List.nodup_append]
          exact ⟨s1, by simp, fun a ha b hb => by simp at hb; subst hb; intro e; subst e; exact hq2 ha⟩
        · intro p hp
          rcases List.mem_append.1 hp with hp | hp
          · exact s2 p hp
          · simp at hp; subst hp; exact hq1
        · simp [s4.len]
        · rw [List.getElem?_set_ne hne, List.getElem?_set_self hlenS]
        · intro p hp hps
          by_cases hpq : p = q
          · subst hpq
            rw [hxe, List.getElem?_set_self (by simp; omega)]
          · have hpx : idx ((seenK ((allR l 0).map (·.1)))[p]) ≠ idx x := fun e => hpq (by
              have h4 := hm.lin.inj _ (List.getElem_mem hp) x hx e
              rw [← hxe] at h4
              exact (List.getElem_inj (h₀ := hp) (h₁ := hq1) hnd).1 h4)
            have hpi := hir _ (List.getElem_mem hp)
            rw [List.getElem?_set_ne (Ne.symm hpx), List.getElem?_set_ne (by omega)]
            refine s4.done p hp ?_
            rcases List.mem_append.1 hps with h | h
            · exact h
            · simp at h; exact absurd h hpq
        · intro j hj hall
          have h5 := hall q hq1 (by simp)
          rw [hxe] at h5
          rw [List.getElem?_set_ne h5, List.getElem?_set_ne (by omega)]
          exact s4.rest j hj fun p hp hps => hall p hp (by simp [hps]))
  have h2 := hm.lin.map
  have hst := stepI_eq (S := Sb ++ [.iter S.length (seenK ((allR l 0).map (·.1))).length []]) (i := Sb.length) (m := S.length) (n := (seenK ((allR l 0).map (·.1))).length) (seen := []) (by simp) (by rw [List.getElem?_append_left hlt]; exact h2) (by simp)
  have hleft : leftI (.ptr Sb.length 0) (Sb ++ [.iter S.length (seenK ((allR l 0).map (·.1))).length []]) = (seenK ((allR l 0).map (·.1))).length := by
    unfold leftI
    rw [hst]
    simp only [Option.getD_some, List.length_map]
    have := left_length (n := (seenK ((allR l 0).map (·.1))).length) (seen := []) .nil (fun _ h => by cases h)
    simpa only [List.length_nil, Nat.add_zero] using this
  have hw := walk (seenK ((allR l 0).map (·.1))).length [] (Sb ++ [.iter S.length (seenK ((allR l 0).map (·.1))).length []]) ⟨rfl, [], .nil, fun _ h => (by cases h), rfl, by simp, by simp, fun _ _ h => (by cases h), fun j hj _ => by rw [List.getElem?_append_left hj]⟩
  have hrv : rangeV (.map S.length) Sb = some (.ptr Sb.length 0, Sb ++ [.iter S.length (seenK ((allR l 0).map (·.1))).length []]) := by
    simp only [rangeV, h2, List.length_map]
  simp only [i64, List.length_map] at h1
  simp only [List.getD_cons_zero, lenV, Option.bind_some, i64, reps_length, h1, exK_exit, Nat.beq_refl, cond_true, hrv, hleft]
  exact hw

end Go.Proofs.YtlilahgndpdkfaaDoor

/-
  What the functions of the elements' reference answer.
-/
namespace Go.Proofs.YtlilahgndpdkfaaDoor
open Go Go.Abs

theorem r_In (t : Int) (S : Store) : call 41 [i64 t] S = some (.bool (inP t), S) := by
  rw [k41]
  unfold F41 inP
  by_cases h : 0 ≤ t <;> simp [h]

theorem r_Describe_no {c : Int} (h : c < 1 ∨ 11 < c) (S : Store) : call 44 [i64 c] S = some (.tup [.agg [.str [], i64 0, i64 0, i64 0], i64 4], S) := by
  rw [k44]
  unfold F44
  have hb : Nat.blt S.length S.length = false := blt_false (Nat.le_refl _)
  by_cases h1 : c < 1
  · simp [h1, finish, hb, buildV, fillC, setC]
  · have h2 : 11 < c := by omega
    simp [h1, h2, finish, hb, buildV, fillC, setC]

def infoRows : List (List AV) := [[.str [80], i64 8000, i64 11000, i64 5], [.str [84], i64 1800, i64 3300, i64 4], [.str [68], i64 1800, i64 3300, i64 4], [.str [69], i64 (-1000), i64 1000, i64 4], [.str [78], i64 (-1000), i64 1000, i64 4], [.str [65], i64 900, i64 1700, i64 4],
  [.str [66], i64 2000, i64 3200, i64 4], [.str [70], i64 2400, i64 3400, i64 4], [.str [71], i64 2000, i64 3000, i64 4], [.str [74], i64 4400, i64 6200, i64 4], [.str [75], i64 2000, i64 2900, i64 4]]

theorem infoRows_at {c : Int} (h1 : 1 ≤ c) (h2 : c ≤ 11) : ∃ d, at? infoRows (c - 1) = some [.str [letter c], i64 (lo c), i64 (hi c), i64 d] := by
  rcases elem_cases h1 h2 with rfl | rfl | rfl | rfl | rfl | rfl | rfl | rfl | rfl | rfl | rfl
  · exact ⟨5, rfl⟩
  all_goals exact ⟨4, rfl⟩

set_option maxHeartbeats 1000000 in
theorem r_Describe {c : Int} (h1 : 1 ≤ c) (h2 : c ≤ 11) (S : Store) : ∃ d, call 44 [i64 c] S = some (.tup [.agg [.str [letter c], i64 (lo c), i64 (hi c), i64 d], i64 0], S) := by
  obtain ⟨d, hd⟩ := infoRows_at h1 h2
  refine ⟨d, ?_⟩
  rw [k44]
  unfold F44
  have hb : Nat.blt S.length S.length = false := blt_false (Nat.le_refl _)
  have n1 : ¬ c < 1 := by omega
  have n2 : ¬ 11 < c := by omega
  have w1 : IntKind.i64.wrap (c - 1) = c - 1 := wrap_in (by unfold In64; omega)
  have hix : indexAV 4 none (.sl infoRows .full) (.int .i64 (c - 1)) = some (.ip [.str [letter c], i64 (lo c), i64 (hi c), i64 d] 0) := by simp [indexAV, hd]
  have hst : ∀ v1 v2 v3 v4 : AV, storeV S.length 4 (.ptr S.length 0) (.agg [.str [letter c], i64 (lo c), i64 (hi c), i64 d]) (S ++ [.obj [v1, v2, v3, v4]]) = some (S ++ [.obj [.str [letter c], i64 (lo c), i64 (hi c), i64 d]]) := fun _ _ _ _ => by
    simp [storeV, hb, cells1, cell1, setC]
  have hld : loadV (some 4) (.ptr S.length 0) (S ++ [.obj [.str [letter c], i64 (lo c), i64 (hi c), i64 d]]) = some (.agg [.str [letter c], i64 (lo c), i64 (hi c), i64 d]) := by simp [loadV]
  simp only []
  iterate 4 refine bind_of (by simp [n1, n2] <;> rfl) ?_
  refine cond_f (by simp [n1, n2] <;> rfl) ?_
  iterate 11 refine bind_of (by simp [buildV, fillC, setC] <;> rfl) ?_
  refine bind_of (a := .sl infoRows .full) (by simp [bsliceV, immRows, infoRows]) ?_
  refine bind_of (by simp [w1] <;> rfl) ?_
  refine bind_of (by exact hix) ?_
  refine bind_of (by simp [loadV_ip] <;> rfl) ?_
  refine bind_of (by exact hst _ _ _ _) ?_
  refine bind_of (by simp [-loadV, hld] <;> rfl) ?_
  simp [finish]

theorem r_in {r : Rd} (h1 : 1 ≤ r.1) (h2 : r.1 ≤ 11) (S : Store) : call 45 [.agg [i64 r.1, i64 r.2]] S = some (.bool (checkP r == 0), S) := by
  rw [k45]
  unfold F45 checkP
  obtain ⟨d, hd⟩ := r_Describe h1 h2 S
  have n1 : ¬ (r.1 < 1 ∨ 11 < r.1) := by omega
  rw [if_neg n1]
  by_cases h3 : lo r.1 ≤ r.2
  · have : ¬ r.2 < lo r.1 := by omega
    by_cases h4 : r.2 ≤ hi r.1
    · have : ¬ hi r.1 < r.2 := by omega
      simp [hd, extractV, h3, h4, *]
    · have : hi r.1 < r.2 := by omega
      simp [hd, extractV, h3, h4, *]
  · have : r.2 < lo r.1 := by omega
    simp [hd, extractV, h3, this]

theorem checkP_four {r : Rd} : (checkP r == 4) = true ↔ r.1 < 1 ∨ 11 < r.1 := by
  unfold checkP
  split
  · rename_i h; simp [h]
  · rename_i h; split <;> simp [h]

set_option maxHeartbeats 1000000 in
theorem r_Validate {l : List Rd} {t : Tok} (hl : l.length ≤ 1000000) (S : Store) : call 25 [.sl (rds l) t] S = some (i64 (validP l), S) := by
  rw [k25]
  unfold F25
  have hat : ∀ (k : Nat) (hk : k < l.length), indexAV 2 none (.sl (rds l) t) (.int .i64 (k : Int)) = some (.ip [i64 (l[k]).1, i64 (l[k]).2] 0) := fun k hk => by simp [indexAV, at_rds hk]
  have hg : ∀ (k : Nat) (hk : k < l.length), l.getD k (0, 0) = l[k] := fun k hk => by rw [List.getD_eq_getElem?_getD, List.getElem?_eq_getElem hk]; rfl
  have key1 := iter_scan (step := fun s => F25_L1 call S.length (.sl (rds l) t) (s.1.getD 0 .u) s.2) (S := S) (fun k => checkP (l.getD k (0, 0)) == 4) (rT := fun _ => (Ex.ret, [i64 4], S)) (rE := (Ex.exit 0, [.u], S)) l.length 0
    (fun k k1 k2 => by
      have hk : k < l.length := by omega
      have hlt : (k : Int) < (l.length : Int) := by omega
      have w1 : IntKind.i64.wrap ((k : Int) + 1) = (k : Int) + 1 := wrap_in (by unfold In64; omega)
      have hi := hat k hk
      rw [hg k hk]
      cases hc : checkP l[k] == 4 with
      | true =>
        have hd := r_Describe_no (checkP_four.1 hc) S
        simp [F25_L1, hlt, hi, hd, extractV]
      | false =>
        have h4 : ¬ (l[k].1 < 1 ∨ 11 < l[k].1) := fun h => by rw [checkP_four.2 h] at hc; cases hc
        obtain ⟨d, hd⟩ := r_Describe (c := l[k].1) (by omega) (by omega) S
        simp [F25_L1, hlt, hi, hd, extractV, w1, nextS_same])
    (by simp [F25_L1])
  simp only [Int.natCast_zero, i64] at key1
  unfold validP
  have any4 : (l.any fun r => checkP r == 4) = true ↔ ∃ k, 0 ≤ k ∧ k < 0 + l.length ∧ (checkP (l.getD k (0, 0)) == 4) = true := by
    rw [List.any_eq_true]
    constructor
    · rintro ⟨r, hr, h⟩
      obtain ⟨k, hk, rfl⟩ := List.getElem_of_mem hr
      exact ⟨k, Nat.zero_le _, by omega, by rw [hg k hk]; exact h⟩
    · rintro ⟨k, _, hk, h⟩
      rw [hg k (by omega)] at h
      exact ⟨l[k]'(by omega), List.getElem_mem _, h⟩
  rcases key1 with ⟨k, k1, k2, k3, k4, k5⟩ | ⟨k1, k2⟩
  · rw [if_pos (any4.2 ⟨k, k1, k2, k3⟩)]
    simp [-List.getD_eq_getElem?_getD, List.getD_cons_zero, k5]
  · have h4 : (l.any fun r => checkP r == 4) = false := by
      rw [Bool.eq_false_iff]; intro h
      obtain ⟨k, a1, a2, a3⟩ := any4.1 h
      rw [k1 k a1 a2] at a3; cases a3
    rw [h4]
    have hok : ∀ (k : Nat) (hk : k < l.length), 1 ≤ l[k].1 ∧ l[k].1 ≤ 11 := fun k hk => by
      have := k1 k (Nat.zero_le _) (by omega)
      rw [hg k hk] at this
      have : ¬ (l[k].1 < 1 ∨ 11 < l[k].1) := fun h => by rw [checkP_four.2 h] at this; cases this
      omega
    have key2 := iter_scan (step := fun s => F25_L2 call S.length (.sl (rds l) t) (s.1.getD 0 .u) s.2) (S := S) (fun k => !(checkP (l.getD k (0, 0)) == 0)) (rT := fun _ => (Ex.ret, [i64 1], S)) (rE := (Ex.exit 2, [.u], S)) l.length 0
      (fun k k1 k2 => by
        have hk : k < l.length := by omega
        have hlt : (k : Int) < (l.length : Int) := by omega
        have w1 : IntKind.i64.wrap ((k : Int) + 1) = (k : Int) + 1 := wrap_in (by unfold In64; omega)
        have hi := hat k hk
        rw [hg k hk]
        have hd := r_in (hok k hk).1 (hok k hk).2 S
        cases hc : checkP l[k] == 0 with
        | true =>
          rw [hc] at hd
          simp [F25_L2, hlt, hi, hd, w1, nextS_same]
        | false =>
          rw [hc] at hd
          simp [F25_L2, hlt, hi, hd])
      (by simp [F25_L2])
    simp only [Int.natCast_zero, i64] at key2
    have any1 : (l.any fun r => checkP r == 1) = true ↔ ∃ k, 0 ≤ k ∧ k < 0 + l.length ∧ (!(checkP (l.getD k (0, 0)) == 0)) = true := by
      rw [List.any_eq_true]
      constructor
      · rintro ⟨r, hr, h⟩
        obtain ⟨k, hk, rfl⟩ := List.getElem_of_mem hr
        simp only [beq_iff_eq] at h
        exact ⟨k, Nat.zero_le _, by omega, by rw [hg k hk, h]; rfl⟩
      · rintro ⟨k, _, hk, h⟩
        rw [hg k (by omega)] at h
        refine ⟨l[k]'(by omega), List.getElem_mem _, ?_⟩
        have h5 := k1 k (Nat.zero_le _) hk
        rw [hg k (by omega)] at h5
        rcases checkP_cases (l[k]'(by omega)) with e | e | e
        · rw [e] at h; cases h
        · rw [e]; rfl
        · rw [e] at h5; cases h5
    rcases key2 with ⟨k, b1, b2, b3, b4, b5⟩ | ⟨b1, b2⟩
    · rw [if_neg (by simp), if_pos (any1.2 ⟨k, b1, b2, b3⟩)]
      simp [-List.getD_eq_getElem?_getD, List.getD_cons_zero, k2, b5]
    · have h1 : (l.any fun r => checkP r == 1) = false := by
        rw [Bool.eq_false_iff]; intro h
        obtain ⟨k, a1, a2, a3⟩ := any1.1 h
        rw [b1 k a1 a2] at a3; cases a3
      rw [h1]
      have key3 := iter_scan (step := fun s => F25_L3 call S.length (.sl (rds l) t) (s.1.getD 0 .u) s.2) (S := S) (fun k => decide ((l.getD k (0, 0)).1 ≤ (l.getD (k - 1) (0, 0)).1)) (rT := fun _ => (Ex.ret, [i64 8], S)) (rE := (Ex.exit 4, [.u], S)) (l.length - 1) 1
        (fun k k1 k2 => by
          have hk : k < l.length := by omega
          have hk' : k - 1 < l.length := by omega
          have w1 : IntKind.i64.wrap ((k : Int) + 1) = (k : Int) + 1 := wrap_in (by unfold In64; omega)
          have w2 : IntKind.i64.wrap ((k : Int) - 1) = ((k - 1 : Nat) : Int) := by rw [wrap_in (by unfold In64; omega)]; omega
          have hlt : (k : Int) < (l.length : Int) := by omega
          have hi := hat k hk
          have hi' := hat (k - 1) hk'
          rw [hg k hk, hg _ hk']
          by_cases hc : l[k].1 ≤ l[k - 1].1
          · simp [F25_L3, hlt, hi, hi', w1, w2, hc]
          · simp [F25_L3, hlt, hi, hi', w1, w2, hc, nextS_same])
        (by
          have hlt : ¬ (1 + ((l.length - 1 : Nat) : Int) < (l.length : Int)) := by omega
          simp [F25_L3, hlt])
      simp only [Int.natCast_one, i64] at key3
      have hincr : (∀ k, 1 ≤ k → k < 1 + (l.length - 1) → decide ((l.getD k (0, 0)).1 ≤ (l.getD (k - 1) (0, 0)).1) = false) ↔ incrR l = true := by
        rw [incrR_iff]
        constructor
        · intro h i hi
          have := h (i + 1) (by omega) (by omega)
          simp [hi, show i < l.length by omega] at this
          omega
        · intro h k k1 k2
          have := h (k - 1) (by omega)
          simp only [show k - 1 + 1 = k by omega] at this
          simp [show k < l.length by omega, show k - 1 < l.length by omega]
          omega
      rcases key3 with ⟨k, c1, c2, c3, c4, c5⟩ | ⟨c1, c2⟩
      · have hn : incrR l = false := by
          rw [Bool.eq_false_iff]; intro h
          have := hincr.2 h k c1 c2
          rw [this] at c3; cases c3
        rw [hn]
        simp [-List.getD_eq_getElem?_getD, List.getD_cons_zero, k2, b2, c5]
      · have hn := hincr.1 c1
        rw [hn]
        simp [-List.getD_eq_getElem?_getD, List.getD_cons_zero, k2, b2, c2]

theorem r_Find {l : List Rd} {t : Tok} {c : Int} (hl : l.length ≤ 1000000) (S : Store) : call 24 [.sl (rds l) t, i64 c] S = some (match findP l c with | some v => .tup [i64 v, .bool true] | none => .tup [i64 0, .bool false], S) := by
  rw [k24]
  unfold F24
  have hat : ∀ (k : Nat) (hk : k < l.length), indexAV 2 none (.sl (rds l) t) (.int .i64 (k : Int)) = some (.ip [i64 (l[k]).1, i64 (l[k]).2] 0) := fun k hk => by simp [indexAV, at_rds hk]
  have hg : ∀ (k : Nat) (hk : k < l.length), l.getD k (0, 0) = l[k] := fun k hk => by rw [List.getD_eq_getElem?_getD, List.getElem?_eq_getElem hk]; rfl
  have key := iter_scan (step := fun s => F24_L1 call S.length (.sl (rds l) t) (i64 c) (s.1.getD 0 .u) s.2) (S := S) (fun k => (l.getD k (0, 0)).1 == c) (rT := fun k => (Ex.ret, [i64 (l.getD k (0, 0)).2, .bool true], S)) (rE := (Ex.exit 0, [.u, .u], S)) l.length 0
    (fun k k1 k2 => by
      have hk : k < l.length := by omega
      have hlt : (k : Int) < (l.length : Int) := by omega
      have w1 : IntKind.i64.wrap ((k : Int) + 1) = (k : Int) + 1 := wrap_in (by unfold In64; omega)
      have hi := hat k hk
      rw [hg k hk]
      by_cases hc : l[k].1 = c
      · simp [F24_L1, hlt, hi, hc]
      · simp [F24_L1, hlt, hi, hc, w1, nextS_same])
    (by simp [F24_L1])
  simp only [Int.natCast_zero, i64] at key
  rcases key with ⟨k, k1, k2, k3, k4, k5⟩ | ⟨k1, k2⟩
  · have hk : k < l.length := by omega
    have hf : findP l c = some (l[k]).2 := by
      unfold findP
      have : l.find? (fun r => r.1 == c) = some l[k] := by
        rw [List.find?_eq_some_iff_getElem]
        rw [hg k hk] at k3
        refine ⟨k3, k, hk, rfl, fun j hj => ?_⟩
        have := k4 j (Nat.zero_le _) hj
        rw [hg j (by omega)] at this
        simpa using this
      rw [this]; rfl
    rw [hf]
    rw [hg k hk] at k5
    simp [-List.getD_eq_getElem?_getD, List.getD_cons_zero, List.getD_cons_succ, k5]
  · have hf : findP l c = none := by
      unfold findP
      rw [List.find?_eq_none.2 fun r hr => ?_]
      · rfl
      · obtain ⟨k, hk, rfl⟩ := List.getElem_of_mem hr
        have := k1 k (Nat.zero_le _) (by omega)
        rw [hg k hk] at this
        simpa using this
    rw [hf]
    simp [-List.getD_eq_getElem?_getD, List.getD_cons_zero, List.getD_cons_succ, k2]

end Go.Proofs.YtlilahgndpdkfaaDoor

/-
  What the makers of given data answer: the reader, minutes, parameters, series.
-/
namespace Go.Proofs.YtlilahgndpdkfaaDoor
open Go Go.Abs

theorem ints_take (L : List Int) (n : Nat) : (ints L).take n = ints (L.take n) := by simp [ints]

theorem s_New {L : List Int} {t : Tok} (S : Store) : call 11 [.sl (ints L) t] S = some (.ptr S.length 0, S ++ [srcE (L.take 2000) 0]) := by
  rw [k11]
  unfold F11
  have h1 : min2 (L.length : Int) 2000 = ((min 2000 L.length : Nat) : Int) := by unfold min2; split <;> omega
  have h2 : (ints L).take (min 2000 L.length) = ints (L.take 2000) := by
    rw [ints_take]; congr 1; exact List.take_eq_take_iff.2 (by omega)
  have h3 : (ints L).length = L.length := by simp [ints]
  have h4 : szOK 1 (ints L) = true := by cases L <;> rfl
  have h5 : sliceV 1 (.sl (ints L) t) none (some (i64 ((min 2000 L.length : Nat) : Int))) none = some (.sl (ints (L.take 2000)) .none) := by
    simp only [sliceV, bound, i64, h3]
    rw [if_pos (by omega)]
    simp only [Option.bind_some, Int.toNat_natCast, h2, mxFits, h4, Bool.true_and, cond_true, List.drop_zero, sliceTok]
  simp only [List.getD_cons_zero, lenV, h3, Option.bind_some, i64, minmaxV, minmaxGo, if_true, cond_false, h1]
  simp only [i64] at h5
  rw [h5]
  simp [srcE, finish, noOsl]

theorem g_Minute (i : Nat) : Maker 13 [.ptr i 0] i fun v => ∃ m : Int, v = i64 m ∧ 0 ≤ m ∧ m ≤ 52595999 := by
  intro S L a hs
  unfold Mk
  rw [k13]
  unfold F13
  simp only [Stt.length, List.length_nil, Nat.add_zero]
  repeat (first
    | refine Ev.fin (by simp [] <;> rfl) (by simp []) ?_
    | refine Ev.t (by rfl) ?_
    | refine Ev.f (by rfl) ?_
    | refine Ev.ite (by first | rfl | assumption) ?_
    | refine Ev.to (by simp (disch := omega) [-loadV, -storeV, -Int.natCast_add, loadV_ip] <;> rfl) ?_)
  refine Ev.bind (e_N (by assumption) (by omega) (by omega)) ?_
  rintro _ ⟨v1, a1, h1, _, _, rfl⟩
  try dsimp only
  repeat (first
    | refine Ev.fin (by simp [] <;> rfl) (by simp []) ?_
    | refine Ev.t (by rfl) ?_
    | refine Ev.f (by rfl) ?_
    | refine Ev.ite (by first | rfl | assumption) ?_
    | refine Ev.to (by simp (disch := omega) [-loadV, -storeV, -Int.natCast_add, loadV_ip] <;> rfl) ?_)
  refine Ev.beq (fun _ => ?_) (fun _ => ?_)
  · skip
    repeat (first
      | refine Ev.fin (by simp [] <;> rfl) (by simp []) ?_
      | refine Ev.t (by rfl) ?_
      | refine Ev.f (by rfl) ?_
      | refine Ev.ite (by first | rfl | assumption) ?_
      | refine Ev.to (by simp (disch := omega) [-loadV, -storeV, -Int.natCast_add, loadV_ip] <;> rfl) ?_)
    refine Ev.bind (e_Raw (by assumption)) ?_
    rintro _ ⟨v2, a2, h2, r2, rfl⟩
    try dsimp only
    repeat (first
      | refine Ev.fin (by simp [] <;> rfl) (by simp []) ?_
      | refine Ev.t (by rfl) ?_
      | refine Ev.f (by rfl) ?_
      | refine Ev.ite (by first | rfl | assumption) ?_
      | refine Ev.to (by simp (disch := omega) [-loadV, -storeV, -Int.natCast_add, loadV_ip] <;> rfl) ?_)
    refine Ev.bind (e_Raw (by assumption)) ?_
    rintro _ ⟨v3, a3, h3, r3, rfl⟩
    try dsimp only
    repeat (first
      | refine Ev.fin (by simp [] <;> rfl) (by simp []) ?_
      | refine Ev.t (by rfl) ?_
      | refine Ev.f (by rfl) ?_
      | refine Ev.ite (by first | rfl | assumption) ?_
      | refine Ev.to (by simp (disch := omega) [-loadV, -storeV, -Int.natCast_add, loadV_ip] <;> rfl) ?_)
    refine Ev.bind (e_Mod (by omega) (by omega)) ?_
    rintro _ ⟨v4, _, _, rfl⟩
    try dsimp only
    repeat (first
      | refine Ev.fin (by simp [] <;> rfl) (by simp []) ?_
      | refine Ev.t (by rfl) ?_
      | refine Ev.f (by rfl) ?_
      | refine Ev.ite (by first | rfl | assumption) ?_
      | refine Ev.to (by simp (disch := omega) [-loadV, -storeV, -Int.natCast_add, loadV_ip] <;> rfl) ?_)
    exact ⟨_, _, h3, ⟨_, rfl, by omega, by omega⟩, rfl⟩
  · skip
    repeat (first
      | refine Ev.fin (by simp [] <;> rfl) (by simp []) ?_
      | refine Ev.t (by rfl) ?_
      | refine Ev.f (by rfl) ?_
      | refine Ev.ite (by first | rfl | assumption) ?_
      | refine Ev.to (by simp (disch := omega) [-loadV, -storeV, -Int.natCast_add, loadV_ip] <;> rfl) ?_)
    refine Ev.beq (fun _ => ?_) (fun _ => ?_)
    · skip
      repeat (first
        | refine Ev.fin (by simp [] <;> rfl) (by simp []) ?_
        | refine Ev.t (by rfl) ?_
        | refine Ev.f (by rfl) ?_
        | refine Ev.ite (by first | rfl | assumption) ?_
        | refine Ev.to (by simp (disch := omega) [-loadV, -storeV, -Int.natCast_add, loadV_ip] <;> rfl) ?_)
      refine Ev.bind (e_Pick (by assumption) (by simp) (by simp) (by simp)) ?_
      rintro _ ⟨v2, a2, h2, r2, rfl⟩
      try dsimp only
      repeat (first
        | refine Ev.fin (by simp [] <;> rfl) (by simp []) ?_
        | refine Ev.t (by rfl) ?_
        | refine Ev.f (by rfl) ?_
        | refine Ev.ite (by first | rfl | assumption) ?_
        | refine Ev.to (by simp (disch := omega) [-loadV, -storeV, -Int.natCast_add, loadV_ip] <;> rfl) ?_)
      exact ⟨_, _, h2, ⟨_, rfl, by simp at r2; omega, by simp at r2; omega⟩, rfl⟩
    · skip
      repeat (first
        | refine Ev.fin (by simp [] <;> rfl) (by simp []) ?_
        | refine Ev.t (by rfl) ?_
        | refine Ev.f (by rfl) ?_
        | refine Ev.ite (by first | rfl | assumption) ?_
        | refine Ev.to (by simp (disch := omega) [-loadV, -storeV, -Int.natCast_add, loadV_ip] <;> rfl) ?_)
      refine Ev.bind (e_N (by assumption) (by omega) (by omega)) ?_
      rintro _ ⟨v2, a2, h2, _, _, rfl⟩
      try dsimp only
      repeat (first
        | refine Ev.fin (by simp [] <;> rfl) (by simp []) ?_
        | refine Ev.t (by rfl) ?_
        | refine Ev.f (by rfl) ?_
        | refine Ev.ite (by first | rfl | assumption) ?_
        | refine Ev.to (by simp (disch := omega) [-loadV, -storeV, -Int.natCast_add, loadV_ip] <;> rfl) ?_)
      exact ⟨_, _, h2, ⟨_, rfl, by omega, by omega⟩, rfl⟩

/-! ### Parameters -/

def Ctl.step (k : Ctl) (c : Nat) (v : Int) : Ctl := { k with steps := k.steps.set c v }
def Ctl.spike (k : Ctl) (c : Nat) (v : Int) : Ctl := { k with spikes := k.spikes.set c v }
def Ctl.more (k : Ctl) (c : Nat) (v : Int) : Ctl := { k with rest := k.rest.set c v }

theorem ctl_step {k : Ctl} (hk : k.Fit) {c : Nat} (hc : c < 12) (v : Int) : (ctlC k).set (1 + c) (i64 v) = ctlC (Ctl.step k c v) := by
  have := hk.steps
  rw [Nat.add_comm]
  simp only [ctlC, Ctl.step, List.set_cons_succ, List.map_append, List.append_assoc]
  rw [List.set_append_left _ _ (by simp; omega), ← List.map_set]
theorem ctl_spike {k : Ctl} (hk : k.Fit) {c : Nat} (hc : c < 12) (v : Int) : (ctlC k).set (13 + c) (i64 v) = ctlC (Ctl.spike k c v) := by
  have h1 := hk.steps
  have h2 := hk.spikes
  rw [show 13 + c = (12 + c) + 1 by omega]
  simp only [ctlC, Ctl.spike, List.set_cons_succ, List.map_append, List.append_assoc]
  rw [List.set_append_right _ _ (by simp; omega), List.set_append_left _ _ (by simp; omega)]
  simp [h1, List.map_set]
theorem ctl_more {k : Ctl} (hk : k.Fit) {c : Nat} (hc : c < 12) (v : Int) : (ctlC k).set (26 + c) (i64 v) = ctlC (Ctl.more k (1 + c) v) := by
  have h1 := hk.steps
  have h2 := hk.spikes
  have h3 := hk.rest
  rw [show 26 + c = (25 + c) + 1 by omega]
  simp only [ctlC, Ctl.more, List.set_cons_succ, List.map_append, List.append_assoc]
  rw [List.set_append_right _ _ (by simp; omega), List.set_append_right _ _ (by simp; omega)]
  have : 25 + c - 12 - 12 = 1 + c := by omega
  simp [h1, h2, List.map_set, this]
theorem ctl_length {k : Ctl} (hk : k.Fit) : (ctlC k).length = 41 := by simp [ctlC, hk.steps, hk.spikes, hk.rest]
theorem Ctl.step_fit {k : Ctl} (hk : k.Fit) (c : Nat) (v : Int) : (Ctl.step k c v).Fit := ⟨by simp [Ctl.step, hk.steps], hk.spikes, hk.rest⟩
theorem Ctl.spike_fit {k : Ctl} (hk : k.Fit) (c : Nat) (v : Int) : (Ctl.spike k c v).Fit := ⟨hk.steps, by simp [Ctl.spike, hk.spikes], hk.rest⟩
theorem Ctl.more_fit {k : Ctl} (hk : k.Fit) (c : Nat) (v : Int) : (Ctl.more k c v).Fit := ⟨hk.steps, hk.spikes, by simp [Ctl.more, hk.rest]⟩

theorem poss_set {l : List Int} {c : Nat} {v : Int} (h : possP l = true) (h0 : 0 ≤ v) (h1 : v ≤ 10000) : possP (l.set c v) = true := by
  unfold possP at *
  rw [Bool.not_eq_true', List.any_eq_false] at *
  intro x hx
  rcases List.mem_or_eq_of_mem_set hx with hx | rfl
  · exact h x hx
  · simp; omega

/-- Parameters whose steps and spikes may be. -/
structure CtlOk (k : Ctl) : Prop where
  fit : k.Fit
  steps : possP k.steps = true
  spikes : possP k.spikes = true

theorem ctl_put {S : Store} {i : Nat} {L : List Int} {a o : Nat} {z : Ent} {k k' : Ctl} (hk : k.Fit) (ho : o < 41) {v : Int} (h : (ctlC k).set o (i64 v) = ctlC k') :
    storeV S.length 1 (.ptr (S.length + 1) o) (i64 v) (Sr S i L a [z, .obj (ctlC k)]) = some (Sr S i L a [z, .obj (ctlC k')]) := by
  have := Stt.store (S := S) (i := i) (e := srcE L a) (es := [z, .obj (ctlC k)]) (k := 1) (o := o) (n := 1) (v := i64 v) (cs := ctlC k) (vs := [i64 v]) rfl rfl rfl (by rw [ctl_length hk]; omega)
  rw [this]
  simp only [setC, h, List.set_cons_succ, List.set_cons_zero]

theorem imms_ctl (k : Ctl) : imms (ctlC k) = some (ctlC k) := by
  have := imms_i64s (k.hops :: (k.steps ++ k.spikes ++ k.rest))
  simpa [ctlC] using this
theorem cells1_i64s (l : List Int) : cells1 (l.map i64) = some (l.map i64) := by
  induction l with
  | nil => rfl
  | cons a l ih => simp [ih]
theorem cells1_ctl (k : Ctl) : cells1 (ctlC k) = some (ctlC k) := by
  have := cells1_i64s (k.hops :: (k.steps ++ k.spikes ++ k.rest))
  simpa [ctlC] using this

theorem idx12 (j o : Nat) {c : Nat} (hc : c < 12) : indexAV 1 (some 12) (.ptr j o) (.int .i64 (c : Int)) = some (.ptr j (o + c)) := by
  simp only [indexAV]
  rw [if_pos (by omega)]
  simp

set_option maxHeartbeats 2000000 in
theorem g_ControlL {S : Store} {i : Nat} {L : List Int} {z : Ent} (st : List AV × Store) (c a : Nat) (k : Ctl) (e : st = ([i64 (c : Int)], Sr S i L a [z, .obj (ctlC k)])) (hs : Sc S i L a) (hk : CtlOk k) (hc : c ≤ 12) :
    Ev (F14_L1 call S.length (.ptr i 0) .u (.ptr (S.length + 1) 0) (st.1.getD 0 .u) st.2) fun x => match x with
      | .inr r => ∃ a k, Sc S i L a ∧ CtlOk k ∧ r = (.exit 0, [], Sr S i L a [z, .obj (ctlC k)])
      | .inl s' => c + 1 ≤ 12 ∧ ∃ a k, Sc S i L a ∧ CtlOk k ∧ s' = ([i64 ((c + 1 : Nat) : Int)], Sr S i L a [z, .obj (ctlC k)]) := by
  subst e
  unfold F14_L1
  simp only [List.getD_cons_zero, Stt.length, List.length_cons, List.length_nil]
  by_cases h : (c : Int) ≤ 11
  · have hc : c < 12 := by omega
    have x1 := idx12 (S.length + 1) 1 hc
    have x2 := idx12 (S.length + 1) 13 hc
    have x3 := idx12 (S.length + 1) 26 hc
    have w1 : IntKind.i64.wrap ((c : Int) + 1) = ((c + 1 : Nat) : Int) := by rw [wrap_in (by unfold In64; omega)]; omega
    repeat (first
      | refine Ev.fin (by simp [h] <;> rfl) (by simp [h]) ?_
      | refine Ev.t (by rfl) ?_
      | refine Ev.f (by rfl) ?_
      | refine Ev.ite (by first | rfl | assumption) ?_
      | refine Ev.to (by simp (disch := omega) [-loadV, -storeV, -Int.natCast_add, loadV_ip, h] <;> rfl) ?_)
    refine Ev.bind (e_Pick (by assumption) (by simp) (by simp) (by simp)) ?_
    rintro _ ⟨v1, a1, h1, r1, rfl⟩
    try dsimp only
    have hk1 := Ctl.step_fit hk.fit c v1
    have s1 := ctl_put (S := S) (i := i) (L := L) (a := a1) (z := z) hk.fit (by omega) (ctl_step hk.fit hc v1)
    have p1 := poss_set (c := c) (v := v1) hk.steps (by simp at r1; omega) (by simp at r1; omega)
    repeat (first
      | refine Ev.fin (by simp [x1, s1] <;> rfl) (by simp [x1, s1]) ?_
      | refine Ev.t (by rfl) ?_
      | refine Ev.f (by rfl) ?_
      | refine Ev.ite (by first | rfl | assumption) ?_
      | refine Ev.to (by simp (disch := omega) [-loadV, -storeV, -Int.natCast_add, loadV_ip, x1, s1] <;> rfl) ?_)
    refine Ev.bind (e_Pick (by assumption) (by simp) (by simp) (by simp)) ?_
    rintro _ ⟨v2, a2, h2, r2, rfl⟩
    try dsimp only
    have hk2 := Ctl.spike_fit hk1 c v2
    have s2 := ctl_put (S := S) (i := i) (L := L) (a := a2) (z := z) hk1 (by omega) (ctl_spike hk1 hc v2)
    have p2 := poss_set (c := c) (v := v2) hk.spikes (by simp at r2; omega) (by simp at r2; omega)
    repeat (first
      | refine Ev.fin (by simp [x2, s2] <;> rfl) (by simp [x2, s2]) ?_
      | refine Ev.t (by rfl) ?_
      | refine Ev.f (by rfl) ?_
      | refine Ev.ite (by first | rfl | assumption) ?_
      | refine Ev.to (by simp (disch := omega) [-loadV, -storeV, -Int.natCast_add, loadV_ip, x2, s2] <;> rfl) ?_)
    refine Ev.bind (e_Pick (by assumption) (by simp) (by simp) (by simp)) ?_
    rintro _ ⟨v3, a3, h3, r3, rfl⟩
    try dsimp only
    have hk3 := Ctl.more_fit hk2 (1 + c) v3
    have s3 := ctl_put (S := S) (i := i) (L := L) (a := a3) (z := z) hk2 (by omega) (ctl_more hk2 hc v3)
    have n1 : ∀ vs, nextS S.length (S.length + (0 + 1 + 1)) vs (Sr S i L a3 [z, .obj (ctlC (Ctl.more (Ctl.spike (Ctl.step k c v1) c v2) (1 + c) v3))]) = some (vs, _) := fun vs => Stt.stay rfl
    repeat (first
      | refine Ev.fin (by simp [x3, s3, w1, n1] <;> rfl) (by simp [x3, s3, w1, n1]) ?_
      | refine Ev.t (by rfl) ?_
      | refine Ev.f (by rfl) ?_
      | refine Ev.ite (by first | rfl | assumption) ?_
      | refine Ev.to (by simp (disch := omega) [-loadV, -storeV, -Int.natCast_add, loadV_ip, x3, s3, w1, n1] <;> rfl) ?_)
    exact .mk ⟨by omega, _, _, h3, ⟨hk3, p1, p2⟩, rfl⟩
  · skip
    repeat (first
      | refine Ev.fin (by simp [h] <;> rfl) (by simp [h]) ?_
      | refine Ev.t (by rfl) ?_
      | refine Ev.f (by rfl) ?_
      | refine Ev.ite (by first | rfl | assumption) ?_
      | refine Ev.to (by simp (disch := omega) [-loadV, -storeV, -Int.natCast_add, loadV_ip, h] <;> rfl) ?_)
    exact .mk ⟨a, k, hs, hk, rfl⟩

set_option maxHeartbeats 2000000 in
theorem g_Control (i : Nat) : Maker 14 [.ptr i 0] i fun v => ∃ k : Ctl, v = .agg (ctlC k) ∧ CtlOk k := by
  intro S L a hs
  unfold Mk
  rw [k14]
  unfold F14
  simp only [Stt.length, List.length_nil, Nat.add_zero, Stt.app, List.nil_append]
  repeat (first
    | refine Ev.fin (by simp [] <;> rfl) (by simp []) ?_
    | refine Ev.t (by rfl) ?_
    | refine Ev.f (by rfl) ?_
    | refine Ev.ite (by first | rfl | assumption) ?_
    | refine Ev.to (by simp (disch := omega) [-loadV, -storeV, -Int.natCast_add, loadV_ip] <;> rfl) ?_)
  refine Ev.bind (e_Pick (by assumption) (by simp) (by simp) (by simp)) ?_
  rintro _ ⟨v1, a1, h1, r1, rfl⟩
  try dsimp only
  repeat (first
    | refine Ev.fin (by simp [] <;> rfl) (by simp []) ?_
    | refine Ev.t (by rfl) ?_
    | refine Ev.f (by rfl) ?_
    | refine Ev.ite (by first | rfl | assumption) ?_
    | refine Ev.to (by simp (disch := omega) [-loadV, -storeV, -Int.natCast_add, loadV_ip] <;> rfl) ?_)
  refine Ev.bind (e_Pick (by assumption) (by simp) (by simp) (by simp)) ?_
  rintro _ ⟨v2, a2, h2, r2, rfl⟩
  try dsimp only
  repeat (first
    | refine Ev.fin (by simp [] <;> rfl) (by simp []) ?_
    | refine Ev.t (by rfl) ?_
    | refine Ev.f (by rfl) ?_
    | refine Ev.ite (by first | rfl | assumption) ?_
    | refine Ev.to (by simp (disch := omega) [-loadV, -storeV, -Int.natCast_add, loadV_ip] <;> rfl) ?_)
  refine Ev.bind (e_Range (by assumption) (by omega) (by omega) (by omega)) ?_
  rintro _ ⟨v3, a3, h3, r3, _, rfl⟩
  try dsimp only
  repeat (first
    | refine Ev.fin (by simp [] <;> rfl) (by simp []) ?_
    | refine Ev.t (by rfl) ?_
    | refine Ev.f (by rfl) ?_
    | refine Ev.ite (by first | rfl | assumption) ?_
    | refine Ev.to (by simp (disch := omega) [-loadV, -storeV, -Int.natCast_add, loadV_ip] <;> rfl) ?_)
  refine Ev.bind (e_Pick (by assumption) (by simp) (by simp) (by simp)) ?_
  rintro _ ⟨v4, a4, h4, r4, rfl⟩
  try dsimp only
  repeat (first
    | refine Ev.fin (by simp [] <;> rfl) (by simp []) ?_
    | refine Ev.t (by rfl) ?_
    | refine Ev.f (by rfl) ?_
    | refine Ev.ite (by first | rfl | assumption) ?_
    | refine Ev.to (by simp (disch := omega) [-loadV, -storeV, -Int.natCast_add, loadV_ip] <;> rfl) ?_)
  refine Ev.bind (e_Pick (by assumption) (by simp) (by simp) (by simp)) ?_
  rintro _ ⟨v5, a5, h5, r5, rfl⟩
  try dsimp only
  repeat (first
    | refine Ev.fin (by simp [] <;> rfl) (by simp []) ?_
    | refine Ev.t (by rfl) ?_
    | refine Ev.f (by rfl) ?_
    | refine Ev.ite (by first | rfl | assumption) ?_
    | refine Ev.to (by simp (disch := omega) [-loadV, -storeV, -Int.natCast_add, loadV_ip] <;> rfl) ?_)
  let k0 : Ctl := ⟨v1, List.replicate 12 0, List.replicate 12 0, [v2, 0, 0, 0, 0, 0, 0, 0, 0, 0, 0, 0, 0, v3, v4, v5]⟩
  refine Ev.to (show cells1 (cellsOf (AV.agg (ctlC k0))) = some (ctlC k0) from cells1_ctl k0) ?_
  refine Ev.ite rfl ?_
  simp only [Stt.app, List.cons_append, List.nil_append, Stt.length, List.length_cons, List.length_nil, Nat.zero_add]
  refine Ev.bind (Ev.iter (Q := fun r => ∃ a k, Sc S i L a ∧ CtlOk k ∧ r = (.exit 0, [], Sr S i L a [.obj (List.replicate 41 (i64 0)), .obj (ctlC k)]))
    (fun m st => ∃ (c a : Nat) (k : Ctl), c + m = 12 ∧ st = ([i64 (c : Int)], Sr S i L a [.obj (List.replicate 41 (i64 0)), .obj (ctlC k)]) ∧ Sc S i L a ∧ CtlOk k) (fun m st ⟨c, a, k, hc, e, hs, hk⟩ => (g_ControlL st c a k e hs hk (by omega)).mono fun x hx => ?_)
    (k := 11) ⟨1, a5, k0, rfl, rfl, h5, ⟨⟨rfl, rfl, rfl⟩, by show possP (List.replicate 12 0) = true; decide, by show possP (List.replicate 12 0) = true; decide⟩⟩) ?_
  · cases x with
    | inr r => exact hx
    | inl s' =>
      obtain ⟨h1, a, k, h2, h3, h4⟩ := hx
      exact ⟨m - 1, by omega, c + 1, a, k, by omega, h4, h2, h3⟩
  rintro _ ⟨a6, k, h6, hk, rfl⟩
  refine Ev.exK ?_
  simp only [Nat.beq_refl, cond_true]
  have ld1 := Stt.loadA (S := S) (i := i) (e := srcE L a6) (k := 1) (es := [.obj (List.replicate 41 (i64 0)), .obj (ctlC k)]) (n := 41) rfl (ctl_length hk.fit)
  have st1 := Stt.storeA0 (S := S) (i := i) (e := srcE L a6) (es := [.obj (List.replicate 41 (i64 0)), .obj (ctlC k)]) (n := 41) rfl (cells1_ctl k) (ctl_length hk.fit) rfl
  have ld2 := Stt.loadA0 (S := S) (i := i) (e := srcE L a6) (es := [.obj (ctlC k), .obj (ctlC k)]) (n := 41) rfl (ctl_length hk.fit)
  refine Ev.to ld1 (Ev.to st1 (Ev.to (a := [.agg (ctlC k)]) (bind_of ld2 rfl) ?_))
  refine Ev.fin (vs' := [.agg (ctlC k)]) (by simp only [fins, fin1, imms_ctl, Option.bind_some]) ?_ ⟨_, _, h6, ⟨k, rfl, hk⟩, rfl⟩
  have : ∀ n (l : List Int), belows n (l.map i64) = true := fun n l => by induction l <;> simp_all
  have h := this S.length (k.hops :: (k.steps ++ k.spikes ++ k.rest))
  simpa [ctlC] using h

end Go.Proofs.YtlilahgndpdkfaaDoor

/-
  What the makers of given data answer: series of reports.
-/
namespace Go.Proofs.YtlilahgndpdkfaaDoor
open Go Go.Abs

set_option maxHeartbeats 1000000 in
theorem s_clamp {c v : Int} (h1 : 1 ≤ c) (h2 : c ≤ 11) (S : Store) : ∃ w, call 30 [i64 c, i64 v] S = some (i64 w, S) ∧ lo c ≤ w ∧ w ≤ hi c := by
  refine ⟨max2 (lo c) (min2 (hi c) v), ?_, ?_, ?_⟩
  · rw [k30]
    unfold F30
    rcases elem_cases h1 h2 with rfl | rfl | rfl | rfl | rfl | rfl | rfl | rfl | rfl | rfl | rfl <;>
      simp [indexAV, at?, lo, hi, boundsL]
  · unfold max2; split <;> omega
  · have : lo c ≤ hi c := by rcases elem_cases h1 h2 with rfl | rfl | rfl | rfl | rfl | rfl | rfl | rfl | rfl | rfl | rfl <;> decide
    unfold max2 min2; split <;> split at * <;> omega

def nALPHA : List UInt8 := [65, 76, 80, 72, 65]
def nBRAVO : List UInt8 := [66, 82, 65, 86, 79]

/-- Readings of elements below c, in order, within their ranges. -/
structure RdOk (c : Int) (l : List Rd) : Prop where
  incr : incrR l = true
  ok : ∀ r ∈ l, checkP r = 0 ∧ 1 ≤ r.1 ∧ r.1 < c

theorem incrR_snoc {l : List Rd} {x : Rd} (h : incrR l = true) (hx : ∀ r ∈ l, r.1 < x.1) : incrR (l ++ [x]) = true := by
  rw [incrR_iff] at *
  intro i hi
  simp only [List.length_append, List.length_singleton] at hi
  by_cases h2 : i + 1 < l.length
  · rw [List.getElem_append_left (by omega), List.getElem_append_left h2]; exact h i h2
  · rw [List.getElem_append_left (by omega), List.getElem_append_right (by omega)]
    simp only [List.getElem_singleton]
    exact hx _ (List.getElem_mem _)

theorem RdOk.snoc {c : Int} {l : List Rd} (h : RdOk c l) {w : Int} (h1 : 1 ≤ c) (h2 : c ≤ 11) (h3 : lo c ≤ w) (h4 : w ≤ hi c) : RdOk (c + 1) (l ++ [(c, w)]) := by
  refine ⟨incrR_snoc h.incr fun r hr => (h.ok r hr).2.2, fun r hr => ?_⟩
  rcases List.mem_append.1 hr with hr | hr
  · obtain ⟨a, b, c⟩ := h.ok r hr; exact ⟨a, b, by omega⟩
  · obtain rfl := List.mem_singleton.1 hr
    refine ⟨?_, h1, by simp only; omega⟩
    unfold checkP
    simp only
    rw [if_neg (by omega), if_neg (by omega)]

theorem RdOk.up {c d : Int} {l : List Rd} (h : RdOk c l) (hd : c ≤ d) : RdOk d l := ⟨h.incr, fun r hr => ⟨(h.ok r hr).1, (h.ok r hr).2.1, by have := (h.ok r hr).2.2; omega⟩⟩

theorem RdOk.valid {c : Int} {l : List Rd} (h : RdOk c l) : validP l = 0 := by
  unfold validP
  have a : ∀ e : Int, e ≠ 0 → (l.any fun r => checkP r == e) = false := fun e he => by
    rw [List.any_eq_false]; intro r hr; rw [(h.ok r hr).1]; simp; exact fun h => he h.symm
  rw [a 4 (by decide), a 1 (by decide), h.incr]; rfl

theorem incr_len : ∀ (l : List Rd) (a : Int), l.Pairwise (fun x y => x.1 < y.1) → (∀ r ∈ l, a ≤ r.1 ∧ r.1 < 12) → a ≤ 12 → (l.length : Int) ≤ 12 - a
  | [], a, _, _, ha => by simp; omega
  | x :: l, a, h, hr, ha => by
    have hx := hr x (by simp)
    have h' := List.pairwise_cons.1 h
    have := incr_len l (x.1 + 1) h'.2 (fun r hr' => by
      have h1 := h'.1 r hr'
      have h2 := hr r (by simp [hr'])
      omega) (by omega)
    simp only [List.length_cons]
    omega

theorem RdOk.len {l : List Rd} (h : RdOk 12 l) : l.length ≤ 11 := by
  have := incr_len l 1 (incrR_pairwise h.incr) (fun r hr => ⟨(h.ok r hr).2.1, (h.ok r hr).2.2⟩) (by omega)
  omega

/-- The entries of a series that is made: the reports, the values, the readings of the report that is made, the report. -/
def serE (n : Nat) (vals : List Int) (r : Rep) (j : Nat) : Store :=
  [.tail n 8, .obj (vals.map i64), .tail r.rd.length 2, .obj [i64 r.kind, .str r.name, i64 r.time, i64 r.face, i64 r.pa, i64 r.pb, i64 r.pc, .sl (rds r.rd) (.own j)]]

section
variable {S : Store} {i : Nat} {L : List Int}

theorem ser_put {n a c : Nat} {vals : List Int} {r : Rep} {j : Nat} (hv : vals.length = 12) (hc : c < 12) (v : Int) :
    storeV S.length 1 (.ptr (S.length + 1) c) (i64 v) (Sr S i L a (serE n vals r j)) = some (Sr S i L a (serE n (vals.set c v) r j)) := by
  have := Stt.store (S := S) (i := i) (e := srcE L a) (es := serE n vals r j) (k := 1) (o := c) (n := 1) (v := i64 v) (cs := vals.map i64) (vs := [i64 v]) rfl rfl rfl (by simp; omega)
  rw [this]
  simp only [setC, serE, List.set_cons_succ, List.set_cons_zero, List.map_set]

set_option maxHeartbeats 2000000 in
theorem g_SeriesJ2 {n a c : Nat} {vals : List Int} {r : Rep} {v : Int} {n2 : Nat} (h1 : 1 ≤ c) (h2 : c ≤ 11) (hr : RdOk c r.rd) (hn : n2 = S.length + 4) (hl : r.rd.length ≤ 1000) :
    ∃ w, lo c ≤ w ∧ w ≤ hi c ∧ F12_J2 call S.length n2 (.ptr (S.length + 3) 0) (i64 (c : Int)) (i64 v) (Sr S i L a (serE n vals r (S.length + 2))) =
      some (.inl ([i64 ((c + 1 : Nat) : Int)], Sr S i L a (serE n vals { r with rd := r.rd ++ [((c : Int), w)] } (S.length + 2)))) := by
  obtain ⟨w, h3, h4, h5⟩ := s_clamp (c := c) (v := v) (by omega) (by omega) (Sr S i L a (serE n vals r (S.length + 2)))
  refine ⟨w, h4, h5, ?_⟩
  unfold F12_J2 F12_J1
  have ld := Stt.load (S := S) (i := i) (e := srcE L a) (es := serE n vals r (S.length + 2)) (k := 3) (o := 7) (n := none) (cs := [i64 r.kind, .str r.name, i64 r.time, i64 r.face, i64 r.pa, i64 r.pb, i64 r.pc, .sl (rds r.rd) (.own (S.length + 2))]) rfl
  have ap := Stt.append (S := S) (i := i) (e := srcE L a) (es := serE n vals r (S.length + 2)) (k := 2) (n := r.rd.length) (sz := 2) (xs := rds r.rd) (ys := [[i64 (c : Int), i64 w]]) (t := .full) rfl (by simp) rfl (by simp) (by simp [room]; omega)
  have st := Stt.store (S := S) (i := i) (e := srcE L a) (es := (serE n vals r (S.length + 2)).set 2 (.tail ((rds r.rd).length + 1) 2)) (k := 3) (o := 7) (n := 1) (v := .sl (rds r.rd ++ [[i64 (c : Int), i64 w]]) (.own (S.length + 2))) (vs := [.sl (rds r.rd ++ [[i64 (c : Int), i64 w]]) (.own (S.length + 2))]) rfl rfl rfl (by simp)
  have w1 : IntKind.i64.wrap ((c : Int) + 1) = ((c + 1 : Nat) : Int) := by rw [wrap_in (by unfold In64; omega)]; omega
  have e1 : ((serE n vals r (S.length + 2)).set 2 (.tail ((rds r.rd).length + 1) 2)).set 3 (.obj (setC [i64 r.kind, .str r.name, i64 r.time, i64 r.face, i64 r.pa, i64 r.pb, i64 r.pc, .sl (rds r.rd) (.own (S.length + 2))] 7 [.sl (rds r.rd ++ [[i64 (c : Int), i64 w]]) (.own (S.length + 2))])) =
      serE n vals { r with rd := r.rd ++ [((c : Int), w)] } (S.length + 2) := by
    simp [serE, rds_app, rds]
  rw [e1] at st
  have nx : ∀ vs, nextS S.length n2 vs (Sr S i L a (serE n vals { r with rd := r.rd ++ [((c : Int), w)] } (S.length + 2))) = some (vs, _) := fun vs => by rw [hn]; exact Stt.stay rfl
  simp only [List.length_cons, List.length_nil, Nat.zero_add, rds_length] at ap st
  repeat (first
    | rfl
    | refine cond_t (by rfl) ?_
    | refine cond_f (by rfl) ?_
    | refine ite_of (by first | rfl | assumption) ?_
    | refine bind_of (by simp [-loadV, -storeV, -Int.natCast_add, loadV_ip, ld, h3, ap, st, w1, nx] <;> rfl) ?_)

end

end Go.Proofs.YtlilahgndpdkfaaDoor

/-
  What the makers of given data answer: series of reports, their rounds.
-/
namespace Go.Proofs.YtlilahgndpdkfaaDoor
open Go Go.Abs

section
variable {S : Store} {i : Nat} {L : List Int}

set_option maxHeartbeats 4000000 in
theorem g_SeriesL2 {n a c : Nat} {vals : List Int} {r : Rep} {t7 t9 t10 : AV} (hs : Sc S i L a) (hv : vals.length = 12) (h1 : 1 ≤ c) (h12 : c ≤ 12) (hr : RdOk c r.rd) :
    Ev (F12_L2 call S.length (.ptr i 0) t7 (.ptr (S.length + 1) 0) t9 t10 (.ptr (S.length + 3) 0) (i64 (c : Int)) (Sr S i L a (serE n vals r (S.length + 2)))) fun x => match x with
      | .inr q => ∃ (a : Nat) (vals : List Int) (rd : List Rd), Sc S i L a ∧ vals.length = 12 ∧ RdOk 12 rd ∧ q = (.exit 2, [], Sr S i L a (serE n vals { r with rd := rd } (S.length + 2)))
      | .inl s => c + 1 ≤ 12 ∧ ∃ (a : Nat) (vals : List Int) (rd : List Rd), Sc S i L a ∧ vals.length = 12 ∧ RdOk ((c + 1 : Nat) : Int) rd ∧ s = ([i64 ((c + 1 : Nat) : Int)], Sr S i L a (serE n vals { r with rd := rd } (S.length + 2))) := by
  have hl : r.rd.length ≤ 1000 := by
    have := (hr.up (d := 12) (by omega)).len
    omega
  unfold F12_L2
  simp only [Stt.length]
  have hlen : S.length + (serE n vals r (S.length + 2)).length = S.length + 4 := rfl
  rw [hlen]
  by_cases h : (c : Int) ≤ 11
  · have hc : c < 12 := by omega
    have x1 := idx12 (S.length + 1) 0 hc
    rw [Nat.zero_add] at x1
    have fin : ∀ (a2 : Nat) (vals2 : List Int) (v : Int), Sc S i L a2 → vals2.length = 12 → Ev (F12_J2 call S.length (S.length + 4) (.ptr (S.length + 3) 0) (i64 (c : Int)) (i64 v) (Sr S i L a2 (serE n vals2 r (S.length + 2)))) fun x => match x with
      | .inr q => ∃ (a : Nat) (vals : List Int) (rd : List Rd), Sc S i L a ∧ vals.length = 12 ∧ RdOk 12 rd ∧ q = (.exit 2, [], Sr S i L a (serE n vals { r with rd := rd } (S.length + 2)))
      | .inl s => c + 1 ≤ 12 ∧ ∃ (a : Nat) (vals : List Int) (rd : List Rd), Sc S i L a ∧ vals.length = 12 ∧ RdOk ((c + 1 : Nat) : Int) rd ∧ s = ([i64 ((c + 1 : Nat) : Int)], Sr S i L a (serE n vals { r with rd := rd } (S.length + 2))) := fun a2 vals2 v hs2 hv2 => by
      obtain ⟨w, w1, w2, w3⟩ := g_SeriesJ2 (S := S) (i := i) (L := L) (n := n) (a := a2) (vals := vals2) (v := v) h1 (by omega) hr rfl hl
      exact .of w3 ⟨by omega, a2, vals2, _, hs2, hv2, hr.snoc (by omega) (by omega) w1 w2, rfl⟩
    have ld : ∀ a2, ∃ v, loadV none (.ptr (S.length + 1) c) (Sr S i L a2 (serE n vals r (S.length + 2))) = some (i64 v) := fun a2 => by
      refine ⟨vals.getD c 0, ?_⟩
      rw [Stt.load (k := 1) (cs := vals.map i64) rfl, take_none]
      simp [List.getD_eq_getElem?_getD, List.getElem?_eq_getElem (show c < vals.length by omega)]
    repeat (first
      | refine Ev.fin (by simp [h] <;> rfl) (by simp [h]) ?_
      | refine Ev.t (by rfl) ?_
      | refine Ev.f (by rfl) ?_
      | refine Ev.ite (by first | rfl | assumption) ?_
      | refine Ev.to (by simp (disch := omega) [-loadV, -storeV, -Int.natCast_add, loadV_ip, h] <;> rfl) ?_)
    refine Ev.bind (e_N (by assumption) (by omega) (by omega)) ?_
    rintro _ ⟨v1, a1, h2, _, _, rfl⟩
    try dsimp only
    repeat (first
      | refine Ev.fin (by simp [] <;> rfl) (by simp []) ?_
      | refine Ev.t (by rfl) ?_
      | refine Ev.f (by rfl) ?_
      | refine Ev.ite (by first | rfl | assumption) ?_
      | refine Ev.to (by simp (disch := omega) [-loadV, -storeV, -Int.natCast_add, loadV_ip] <;> rfl) ?_)
    refine Ev.beq (fun _ => ?_) (fun _ => ?_)
    · unfold F12_J1
      have w1 : IntKind.i64.wrap ((c : Int) + 1) = ((c + 1 : Nat) : Int) := by rw [wrap_in (by unfold In64; omega)]; omega
      have nx : ∀ vs, nextS S.length (S.length + 4) vs (Sr S i L a1 (serE n vals r (S.length + 2))) = some (vs, _) := fun vs => Stt.stay rfl
      repeat (first
        | refine Ev.fin (by simp [w1, nx] <;> rfl) (by simp [w1, nx]) ?_
        | refine Ev.t (by rfl) ?_
        | refine Ev.f (by rfl) ?_
        | refine Ev.ite (by first | rfl | assumption) ?_
        | refine Ev.to (by simp (disch := omega) [-loadV, -storeV, -Int.natCast_add, loadV_ip, w1, nx] <;> rfl) ?_)
      exact .mk ⟨by omega, a1, vals, r.rd, h2, hv, hr.up (by omega), rfl⟩
    · obtain ⟨v0, ld1⟩ := ld a1
      repeat (first
        | refine Ev.fin (by simp [x1, ld1] <;> rfl) (by simp [x1, ld1]) ?_
        | refine Ev.t (by rfl) ?_
        | refine Ev.f (by rfl) ?_
        | refine Ev.ite (by first | rfl | assumption) ?_
        | refine Ev.to (by simp (disch := omega) [-loadV, -storeV, -Int.natCast_add, loadV_ip, x1, ld1] <;> rfl) ?_)
      refine Ev.bind (e_N (by assumption) (by omega) (by omega)) ?_
      rintro _ ⟨v2, a2, h3, _, _, rfl⟩
      try dsimp only
      repeat (first
        | refine Ev.fin (by simp [] <;> rfl) (by simp []) ?_
        | refine Ev.t (by rfl) ?_
        | refine Ev.f (by rfl) ?_
        | refine Ev.ite (by first | rfl | assumption) ?_
        | refine Ev.to (by simp (disch := omega) [-loadV, -storeV, -Int.natCast_add, loadV_ip] <;> rfl) ?_)
      refine Ev.beq (fun _ => ?_) (fun _ => ?_)
      · skip
        repeat (first
          | refine Ev.fin (by simp [] <;> rfl) (by simp []) ?_
          | refine Ev.t (by rfl) ?_
          | refine Ev.f (by rfl) ?_
          | refine Ev.ite (by first | rfl | assumption) ?_
          | refine Ev.to (by simp (disch := omega) [-loadV, -storeV, -Int.natCast_add, loadV_ip] <;> rfl) ?_)
        refine Ev.bind (e_Range (by assumption) (by omega) (by omega) (by omega)) ?_
        rintro _ ⟨v3, a3, h4, _, _, rfl⟩
        try dsimp only
        refine Ev.to rfl ?_
        have sp := ser_put (S := S) (i := i) (L := L) (n := n) (a := a3) (r := r) (j := S.length + 2) hv hc (IntKind.i64.wrap (v0 + v3))
        refine Ev.to x1 (Ev.to sp ?_)
        exact fin _ _ _ h4 (by simpa using hv)
      · skip
        repeat (first
          | refine Ev.fin (by simp [] <;> rfl) (by simp []) ?_
          | refine Ev.t (by rfl) ?_
          | refine Ev.f (by rfl) ?_
          | refine Ev.ite (by first | rfl | assumption) ?_
          | refine Ev.to (by simp (disch := omega) [-loadV, -storeV, -Int.natCast_add, loadV_ip] <;> rfl) ?_)
        refine Ev.beq (fun _ => ?_) (fun _ => ?_)
        · skip
          repeat (first
            | refine Ev.fin (by simp [] <;> rfl) (by simp []) ?_
            | refine Ev.t (by rfl) ?_
            | refine Ev.f (by rfl) ?_
            | refine Ev.ite (by first | rfl | assumption) ?_
            | refine Ev.to (by simp (disch := omega) [-loadV, -storeV, -Int.natCast_add, loadV_ip] <;> rfl) ?_)
          refine Ev.bind (e_Range (by assumption) (by omega) (by omega) (by omega)) ?_
          rintro _ ⟨v3, a3, h4, _, _, rfl⟩
          try dsimp only
          refine Ev.to rfl ?_
          exact fin _ _ _ h4 hv
        · skip
          repeat (first
            | refine Ev.fin (by simp [] <;> rfl) (by simp []) ?_
            | refine Ev.t (by rfl) ?_
            | refine Ev.f (by rfl) ?_
            | refine Ev.ite (by first | rfl | assumption) ?_
            | refine Ev.to (by simp (disch := omega) [-loadV, -storeV, -Int.natCast_add, loadV_ip] <;> rfl) ?_)
          refine Ev.beq (fun _ => ?_) (fun _ => ?_)
          · skip
            repeat (first
              | refine Ev.fin (by simp [] <;> rfl) (by simp []) ?_
              | refine Ev.t (by rfl) ?_
              | refine Ev.f (by rfl) ?_
              | refine Ev.ite (by first | rfl | assumption) ?_
              | refine Ev.to (by simp (disch := omega) [-loadV, -storeV, -Int.natCast_add, loadV_ip] <;> rfl) ?_)
            refine Ev.bind (e_Pick (by assumption) (by simp) (by simp) (by simp)) ?_
            rintro _ ⟨v3, a3, h4, _, rfl⟩
            try dsimp only
            refine Ev.to rfl ?_
            have sp := ser_put (S := S) (i := i) (L := L) (n := n) (a := a3) (r := r) (j := S.length + 2) hv hc (IntKind.i64.wrap (v0 + v3))
            refine Ev.to x1 (Ev.to sp ?_)
            exact fin _ _ _ h4 (by simpa using hv)
          · exact fin _ _ _ h3 hv
  · obtain rfl : c = 12 := by omega
    repeat (first
      | refine Ev.fin (by simp [h] <;> rfl) (by simp [h]) ?_
      | refine Ev.t (by rfl) ?_
      | refine Ev.f (by rfl) ?_
      | refine Ev.ite (by first | rfl | assumption) ?_
      | refine Ev.to (by simp (disch := omega) [-loadV, -storeV, -Int.natCast_add, loadV_ip, h] <;> rfl) ?_)
    exact .mk ⟨a, vals, r.rd, hs, hv, hr, rfl⟩

end

end Go.Proofs.YtlilahgndpdkfaaDoor

/-
  What the makers of given data answer: series of reports, whole.
-/
namespace Go.Proofs.YtlilahgndpdkfaaDoor
open Go Go.Abs

/-- Reports in order of time, from behind m0 up to m. -/
structure SerOk (m0 : Int) (l : List Rep) (m : Int) : Prop where
  rep : ∀ r ∈ l, r.kind = 1 ∧ (r.name = nALPHA ∨ r.name = nBRAVO) ∧ RdOk 12 r.rd ∧ m0 < r.time ∧ r.time ≤ m
  inc : l.Pairwise fun a b => a.time < b.time
  lo : m0 ≤ m
  hi : m ≤ m0 + 90 * l.length

theorem SerOk.snoc {m0 m d : Int} {l : List Rep} {r : Rep} (h : SerOk m0 l m) (h1 : 1 ≤ d) (h2 : d ≤ 90) (hk : r.kind = 1) (hn : r.name = nALPHA ∨ r.name = nBRAVO) (hr : RdOk 12 r.rd) (ht : r.time = m + d) : SerOk m0 (l ++ [r]) (m + d) := by
  have hlo := h.lo
  have hhi := h.hi
  refine ⟨fun x hx => ?_, ?_, by omega, by simp only [List.length_append, List.length_singleton]; omega⟩
  · rcases List.mem_append.1 hx with hx | hx
    · obtain ⟨a, b, c, d, e⟩ := h.rep x hx
      exact ⟨a, b, c, d, by omega⟩
    · obtain rfl := List.mem_singleton.1 hx
      exact ⟨hk, hn, hr, by omega, by omega⟩
  · rw [List.pairwise_append]
    refine ⟨h.inc, List.pairwise_singleton _ _, fun x hx y hy => ?_⟩
    obtain rfl := List.mem_singleton.1 hy
    have := (h.rep x hx).2.2.2.2
    omega

section
variable {S : Store} {i : Nat} {L : List Int}

theorem belows_i64s (n : Nat) (l : List Int) : belows n (l.map i64) = true := by
  induction l with
  | nil => rfl
  | cons a l ih => simp_all

set_option maxHeartbeats 4000000 in
theorem g_SeriesL1 {m0 m : Int} {l : List Rep} {vals : List Int} {c a : Nat} (hs : Sc S i L a) (hv : vals.length = 12) (hl : SerOk m0 l m) (hm : m0 ≤ 52589999) (hm0 : 0 ≤ m0) (hlen : l.length + c ≤ 1000) :
    Ev (F12_L1 call S.length (.ptr i 0) (.ptr (S.length + 1) 0) (.sl (reps l) (.own S.length)) (i64 m) (i64 (c : Int)) (Sr S i L a [.tail l.length 8, .obj (vals.map i64)])) fun x => match x with
      | .inr q => ∃ a es, Sc S i L a ∧ c = 0 ∧ q = (.exit 0, [.sl (reps l) (.own S.length)], Sr S i L a es)
      | .inl s => ∃ (a c' : Nat) (vals : List Int) (r : Rep) (m : Int), c = c' + 1 ∧ Sc S i L a ∧ vals.length = 12 ∧ SerOk m0 (l ++ [r]) m ∧ s = ([.sl (reps (l ++ [r])) (.own S.length), i64 m, i64 (c' : Int)], Sr S i L a [.tail (l ++ [r]).length 8, .obj (vals.map i64)]) := by
  have hlo := hl.lo
  have hhi := hl.hi
  unfold F12_L1
  simp only [Stt.length]
  have hlen2 : S.length + [Ent.tail l.length 8, Ent.obj (vals.map i64)].length = S.length + 2 := rfl
  rw [hlen2]
  by_cases h : (0 : Int) < c
  · obtain ⟨c', rfl⟩ : ∃ c', c = c' + 1 := ⟨c - 1, by omega⟩
    repeat (first
      | refine Ev.fin (by simp [h] <;> rfl) (by simp [h]) ?_
      | refine Ev.t (by rfl) ?_
      | refine Ev.f (by rfl) ?_
      | refine Ev.ite (by first | rfl | assumption) ?_
      | refine Ev.to (by simp (disch := omega) [-loadV, -storeV, -Int.natCast_add, loadV_ip, h] <;> rfl) ?_)
    refine Ev.bind (e_Range (by assumption) (by omega) (by omega) (by omega)) ?_
    rintro _ ⟨v1, a1, h1, r1, r2, rfl⟩
    try dsimp only
    repeat (first
      | refine Ev.fin (by simp [] <;> rfl) (by simp []) ?_
      | refine Ev.t (by rfl) ?_
      | refine Ev.f (by rfl) ?_
      | refine Ev.ite (by first | rfl | assumption) ?_
      | refine Ev.to (by simp (disch := omega) [-loadV, -storeV, -Int.natCast_add, loadV_ip] <;> rfl) ?_)
    refine Ev.bind (e_Text (by assumption) (by simp) (by simp) (by simp)) ?_
    rintro _ ⟨v2, a2, h2, r3, rfl⟩
    try dsimp only
    have oc : ∀ (cs : List AV) , cs[7]? = some (.sl [] .full) → ownCellV 2 7 (.agg cs) (Sr S i L a2 [.tail l.length 8, .obj (vals.map i64)]) = some (.agg (cs.set 7 (.sl [] (.own (S.length + 2)))), Sr S i L a2 [.tail l.length 8, .obj (vals.map i64), .tail 0 2]) := fun cs hc => by
      simp only [ownCellV, hc, szOK, cond_true, Stt.length, Stt.app, List.length_nil, List.length_cons, Nat.zero_add, List.cons_append, List.nil_append]
    refine Ev.to rfl ?_
    refine Ev.to (oc _ rfl) ?_
    refine Ev.to rfl (Ev.ite rfl ?_)
    let r0 : Rep := ⟨1, v2, m + v1, 0, 0, 0, 0, []⟩
    simp only [Stt.app, List.cons_append, List.nil_append, Stt.length, List.length_cons, List.length_nil, Nat.zero_add]
    refine Ev.bind (Ev.iter (Q := fun q => ∃ (a : Nat) (vals : List Int) (rd : List Rd), Sc S i L a ∧ vals.length = 12 ∧ RdOk 12 rd ∧ q = (.exit 2, [], Sr S i L a (serE l.length vals { r0 with rd := rd } (S.length + 2))))
      (fun k st => ∃ (c a : Nat) (vals : List Int) (rd : List Rd), c + k = 12 ∧ 1 ≤ c ∧ Sc S i L a ∧ vals.length = 12 ∧ RdOk (c : Int) rd ∧ st = ([i64 (c : Int)], Sr S i L a (serE l.length vals { r0 with rd := rd } (S.length + 2))))
      (fun k st ⟨c, a, vals, rd, hc, hc1, hs, hv, hr, e⟩ => ?_) (k := 11) ⟨1, a2, vals, [], rfl, by omega, h2, hv, ⟨rfl, by simp⟩, ?_⟩) ?_
    · subst e
      refine (g_SeriesL2 (r := { r0 with rd := rd }) hs hv hc1 (by omega) hr).mono fun x hx => ?_
      cases x with
      | inr q => exact hx
      | inl s' =>
        obtain ⟨h1, a, vals, rd', h2, h3, h4, h5⟩ := hx
        exact ⟨k - 1, by omega, c + 1, a, vals, rd', by omega, by omega, h2, h3, h4, h5⟩
    · have w : IntKind.i64.wrap (m + v1) = m + v1 := wrap_in (by unfold In64; omega)
      simp [w, serE, r0, rds]
    rintro _ ⟨a3, vals3, rd, h3, hv3, hr3, rfl⟩
    refine Ev.exK ?_
    dsimp only
    rw [Nat.beq_refl, cond_true]
    have ld := Stt.loadA (S := S) (i := i) (e := srcE L a3) (k := 3) (es := serE l.length vals3 { r0 with rd := rd } (S.length + 2)) (n := 8) rfl rfl
    refine Ev.to ld ?_
    have bs : ∀ t, bsliceV 8 [cellsOf (AV.agg [i64 1, .str v2, i64 (m + v1), i64 0, i64 0, i64 0, i64 0, .sl (rds rd) t])] = some (.sl [repR { r0 with rd := rd }] .full) := fun t => by simp [repR, r0]
    refine Ev.to (bs _) ?_
    have ap := Stt.append0 (S := S) (i := i) (e := srcE L a3) (es := serE l.length vals3 { r0 with rd := rd } (S.length + 2)) (n := l.length) (sz := 8) (xs := reps l) (ys := [repR { r0 with rd := rd }]) (t := .full) rfl (by simp) (by simp) (by simp) (by simp [room]; omega)
    refine Ev.to ap (Ev.to rfl (Ev.to rfl ?_))
    have e1 : reps l ++ [repR { r0 with rd := rd }] = reps (l ++ [{ r0 with rd := rd }]) := by simp [reps]
    rw [e1]
    have nx := Stt.next (S := S) (i := i) (e := srcE L a3) (k := 2) (vs := [.sl (reps (l ++ [{ r0 with rd := rd }])) (.own S.length), i64 (m + v1), .int .i64 (IntKind.i64.wrap ((((c' + 1 : Nat) : Int)) - 1))])
      (es := (serE l.length vals3 { r0 with rd := rd } (S.length + 2)).set 0 (.tail ((reps l).length + [repR { r0 with rd := rd }].length) 8)) (by
        have : Nat.blt S.length (S.length + 2) = true := blt_true (by omega)
        simp only [serE, List.set_cons_zero, List.take_succ_cons, List.take_zero, entsBelow, entBelow, belows, belows_i64s, Bool.and_true, below_sl_own, below_int, this])
    refine Ev.to nx ?_
    have w1 : IntKind.i64.wrap ((((c' + 1 : Nat) : Int)) - 1) = (c' : Int) := by rw [wrap_in (by unfold In64; omega)]; omega
    rw [w1]
    refine .mk ⟨a3, c', vals3, { r0 with rd := rd }, m + v1, rfl, h3, hv3, hl.snoc r1 r2 rfl ?_ hr3 rfl, ?_⟩
    · simp only [List.mem_cons, List.cons.injEq, AV.str.injEq, and_true, List.not_mem_nil, or_false] at r3
      rcases r3 with r3 | r3 | r3
      · exact .inl r3
      · exact .inl r3
      · exact .inr r3
    · simp [serE]
  · obtain rfl : c = 0 := by omega
    repeat (first
      | refine Ev.fin (by simp [h] <;> rfl) (by simp [h]) ?_
      | refine Ev.t (by rfl) ?_
      | refine Ev.f (by rfl) ?_
      | refine Ev.ite (by first | rfl | assumption) ?_
      | refine Ev.to (by simp (disch := omega) [-loadV, -storeV, -Int.natCast_add, loadV_ip, h] <;> rfl) ?_)
    exact .mk ⟨a, _, hs, rfl, rfl⟩

end

set_option maxHeartbeats 2000000 in
theorem g_Series {n near : Int} (i : Nat) (hn0 : 0 ≤ n) (hn : n ≤ 999) : Maker 12 [.ptr i 0, i64 n, i64 near] i fun v => ∃ (l : List Rep) (m : Int), v = .sl (reps l) .none ∧ (l.length : Int) ≤ n ∧ SerOk (max2 0 (min2 52589999 near)) l m := by
  intro S L a hs
  unfold Mk
  rw [k12]
  unfold F12
  simp only [Stt.length, List.length_nil, Nat.add_zero]
  have ow : ownV 8 (.sl [] .full) (Sr S i L a []) = some (.sl [] (.own S.length), Sr S i L a [.tail 0 8]) := by
    simp only [ownV, szOK, cond_true, Stt.length, Stt.app, List.length_nil, Nat.add_zero, List.nil_append]
  refine Ev.to ow ?_
  let vals0 : List Int := [0, 10130, 2850, 2800, 0, 50, 1460, 2780, 3010, 2680, 5570, 2520]
  refine Ev.to (a := .agg (vals0.map i64)) rfl ?_
  refine Ev.to (a := vals0.map i64) rfl ?_
  refine Ev.ite rfl ?_
  simp only [Stt.app, List.cons_append, List.nil_append, Stt.length, List.length_cons, List.length_nil, Nat.zero_add]
  refine Ev.to (a := i64 (min2 52589999 near)) rfl ?_
  refine Ev.to (a := i64 (max2 0 (min2 52589999 near))) rfl ?_
  have hm0 : 0 ≤ max2 0 (min2 52589999 near) ∧ max2 0 (min2 52589999 near) ≤ 52589999 := by unfold max2 min2; split <;> split at * <;> omega
  repeat (first
    | refine Ev.fin (by simp [] <;> rfl) (by simp []) ?_
    | refine Ev.t (by rfl) ?_
    | refine Ev.f (by rfl) ?_
    | refine Ev.ite (by first | rfl | assumption) ?_
    | refine Ev.to (by simp (disch := omega) [-loadV, -storeV, -Int.natCast_add, loadV_ip] <;> rfl) ?_)
  refine Ev.bind (e_N (by assumption) (by omega) (by omega)) ?_
  rintro _ ⟨v1, a1, h1, r1, r2, rfl⟩
  try dsimp only
  refine Ev.bind (Ev.iter (Q := fun q => ∃ (a : Nat) (es : Store) (l : List Rep) (m : Int), Sc S i L a ∧ (l.length : Int) ≤ n ∧ SerOk (max2 0 (min2 52589999 near)) l m ∧ q = (.exit 0, [.sl (reps l) (.own S.length)], Sr S i L a es))
    (fun k st => ∃ (a : Nat) (vals : List Int) (l : List Rep) (m : Int), (l.length : Int) + k = v1 ∧ Sc S i L a ∧ vals.length = 12 ∧ SerOk (max2 0 (min2 52589999 near)) l m ∧ st = ([.sl (reps l) (.own S.length), i64 m, i64 (k : Int)], Sr S i L a [.tail l.length 8, .obj (vals.map i64)]))
    (fun k st ⟨a, vals, l, m, hk, hs, hv, hl, e⟩ => ?_) (k := v1.toNat) ⟨a1, vals0, [], max2 0 (min2 52589999 near), by simp; omega, h1, rfl, ⟨by simp, .nil, by omega, by simp⟩, ?_⟩) ?_
  · subst e
    refine (g_SeriesL1 hs hv hl hm0.2 hm0.1 (by omega)).mono fun x hx => ?_
    cases x with
    | inr q =>
      obtain ⟨a, es, h2, h3, h4⟩ := hx
      exact ⟨a, es, l, m, h2, by omega, hl, h4⟩
    | inl s' =>
      obtain ⟨a, c', vals, r, m, h2, h3, h4, h5, h6⟩ := hx
      exact ⟨c', by omega, a, vals, l ++ [r], m, by simp; omega, h3, h4, h5, h6⟩
  · have : ((v1.toNat : Nat) : Int) = v1 := by omega
    simp only [this]; rfl
  rintro _ ⟨a2, es, l, m, h2, h3, h4, rfl⟩
  refine Ev.exK ?_
  dsimp only
  rw [Nat.beq_refl, cond_true]
  have hb : Nat.blt S.length S.length = false := blt_false (Nat.le_refl _)
  refine Ev.fin (vs' := [.sl (reps l) .none]) (by simp [hb]) (by simp) ?_
  exact ⟨_, _, h2, ⟨l, m, rfl, h3, h4⟩, rfl⟩

end Go.Proofs.YtlilahgndpdkfaaDoor
