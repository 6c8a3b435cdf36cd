/-
  Texts of this claim: TlSteps, TlExam, PureMap, TlLines, PureValid, PureFlags, PureIns, PureRef, TlCheck, TlCheckM, TlRef04, TlRef16, TlRef16b, TlRefLine, TlRefChk, TlRefChk1, TlRefChk2, TlRefChk3, TlRefChk4, TlRefChk5, PurePerm, TlBoth, AbsEv, TlGen0, TlGen1, TlGen2, TlAwakeT, TlGen3.
-/
import Derived.Test.YtlilahgndpdkfaaDoorOwn0
import Derived.Test.YtlilahgndpdkfaaDoorOwn1
import Derived.Test.YtlilahgndpdkfaaDoorOwn2
import Derived.Test.YtlilahgndpdkfaaDoorOwn3
set_option linter.all false
/-
  What timeline's steps answers.
-/
namespace Go.Proofs.YtlilahgndpdkfaaDoor
open Go Go.Abs

/-- What is rejected of those ahead of k. -/
def markP (l : List Pt) (s : Int) (k : Nat) : List Bool := (List.range l.length).map fun j => decide (j < k) && stepP l s j

@[simp] theorem markP_length {l : List Pt} {s : Int} {k : Nat} : (markP l s k).length = l.length := by simp [markP]

theorem markP_one (l : List Pt) (s : Int) : List.replicate l.length false = markP l s 1 := by
  apply List.ext_getElem (by simp)
  intro j h1 h2
  simp only [markP, List.getElem_replicate, List.getElem_map, List.getElem_range]
  by_cases h : j < 1
  · obtain rfl : j = 0 := by omega
    simp [stepP_zero]
  · simp [h]

theorem markP_good {l : List Pt} {s : Int} {k : Nat} (h : stepP l s k = false) : markP l s (k + 1) = markP l s k := by
  apply List.ext_getElem (by simp)
  intro j h1 h2
  simp only [markP, List.getElem_map, List.getElem_range]
  by_cases hj : j = k
  · subst hj; simp [h]
  · have : (j < k + 1) = (j < k) := by simp; omega
    simp [this]

theorem markP_bad {l : List Pt} {s : Int} {k : Nat} (hk : k < l.length) (h : stepP l s k = true) : (markP l s k).set k true = markP l s (k + 1) := by
  apply List.ext_getElem (by simp)
  intro j h1 h2
  by_cases hj : k = j
  · subst hj
    simp only [List.getElem_set_self, markP, List.getElem_map, List.getElem_range]
    simp [h]
  · rw [List.getElem_set_ne hj]
    simp only [markP, List.getElem_map, List.getElem_range]
    have : (j < k + 1) = (j < k) := by simp; omega
    simp [this]

theorem goodP_succ {l : List Pt} {s : Int} {k : Nat} (h1 : 1 ≤ k) : goodP l s k = if okP l s (goodP l s (k - 1)) k = true then k else goodP l s (k - 1) := by
  obtain ⟨j, rfl⟩ : ∃ j, k = j + 1 := ⟨k - 1, by omega⟩
  rfl

theorem stepP_ok {l : List Pt} {s : Int} {k : Nat} (h1 : 1 ≤ k) : stepP l s k = !okP l s (goodP l s (k - 1)) k := by
  have h2 := goodP_le l s (k - 1)
  unfold stepP
  rw [goodP_succ h1]
  cases okP l s (goodP l s (k - 1)) k with
  | true => simp
  | false =>
    simp only [Bool.false_eq_true, if_false, Bool.not_false, Bool.not_eq_true', beq_eq_false_iff_ne]
    omega

theorem getD_pt {l : List Pt} {k : Nat} (h : k < l.length) : l.getD k ⟨0, 0, 0⟩ = l[k] := by
  rw [List.getD_eq_getElem?_getD, List.getElem?_eq_getElem h]; rfl

theorem map_bool_set (l : List Bool) (k : Nat) (b : Bool) : (l.map AV.bool).set k (.bool b) = (l.set k b).map .bool := by
  rw [List.map_set]

set_option maxHeartbeats 4000000 in
theorem s_steps {l : List Pt} {j : Nat} {s : Int} {S : Store} (hl : ∀ p ∈ l, p.Ok) (h1 : 1 ≤ l.length) (h2 : l.length ≤ 1000000) (h3 : 0 ≤ s) (h4 : s ≤ 10000) (hS : S[j]? = some (.obj (pts l).flatten)) :
    call 35 [.osl j 0 l.length 3, i64 s] S = some (.sl (bools (markP l s l.length)) .none, S) := by
  rw [k35]
  unfold F35
  have hw : ∀ x ∈ pts l, x.length = 3 := fun x hx => (pts_row x hx).1
  have hjl : j < S.length := (List.getElem?_eq_some_iff.1 hS).1
  have hi : ∀ (q : Nat), q < l.length → indexAV 3 none (.osl j 0 l.length 3) (.int .i64 (q : Int)) = some (.ptr j (q * 3)) := fun q hq => by
    simp only [indexAV]
    rw [if_pos ⟨by omega, by omega, by trivial⟩]
    simp
  have hld : ∀ (es : Store) (q : Nat) (hq : q < l.length), loadV (some 3) (.ptr j (q * 3)) (S ++ es) = some (.agg (ptR l[q])) := fun es q hq => by
    obtain ⟨q1, q2⟩ := row_at hw q (by simpa using hq)
    have : (S ++ es)[j]? = some (.obj (pts l).flatten) := by rw [List.getElem?_append_left hjl]; exact hS
    simp only [loadV, this, takeC]
    rw [if_pos q2, q1]
    simp [pts]
  have hok : ∀ (k : Nat) (h : k < l.length), (l[k]).Ok := fun k h => hl _ (List.getElem_mem h)
  have hb : Nat.blt S.length S.length = false := blt_false (Nat.le_refl _)
  have key := iter_run (step := fun st => F35_L1 call S.length (.osl j 0 l.length 3) (i64 s) (.osl S.length 0 l.length 1) (st.1.getD 0 .u) (st.1.getD 1 .u) st.2)
    (fun k => ([i64 (goodP l s (k - 1) : Nat), i64 (k : Nat)], S ++ [.obj ((markP l s k).map .bool)])) (r := (Ex.exit 0, [], S ++ [.obj ((markP l s l.length).map .bool)])) (l.length - 1) 1
    (fun k k1 k2 => by
      have hk : k < l.length := by omega
      have hg := goodP_le l s (k - 1)
      have hgl : goodP l s (k - 1) < l.length := by omega
      have hlt : (k : Int) < (l.length : Int) := by omega
      have w1 : IntKind.i64.wrap ((k : Int) + 1) = ((k + 1 : Nat) : Int) := wrap_in (by unfold In64; omega)
      have s1 := s_slow (s := s) (hok _ hgl) (hok _ hk) h3 h4 (S ++ [.obj ((markP l s k).map .bool)])
      have hst := stepP_ok (l := l) (s := s) k1
      have hgs := goodP_succ (l := l) (s := s) k1
      have jy : okP l s (goodP l s (k - 1)) k = true → F35_J1 call S.length (S ++ [Ent.obj ((markP l s k).map .bool)]).length (i64 (k : Int)) (i64 (k : Int)) (S ++ [.obj ((markP l s k).map .bool)]) = some (.inl ([i64 (goodP l s (k + 1 - 1) : Nat), i64 ((k + 1 : Nat) : Int)], S ++ [.obj ((markP l s (k + 1)).map .bool)])) := fun h => by
        unfold F35_J1
        simp only [binV, isShift, cond_false, if_true, binI, Option.bind_some, w1, nextS_same]
        rw [markP_good (by rw [hst, h]; rfl), Nat.add_sub_cancel, hgs, if_pos h]
      have jn : okP l s (goodP l s (k - 1)) k = false → F35_J1 call S.length (S ++ [Ent.obj ((markP l s k).map .bool)]).length (i64 (goodP l s (k - 1) : Nat)) (i64 (k : Int)) (S ++ [.obj ((markP l s (k + 1)).map .bool)]) = some (.inl ([i64 (goodP l s (k + 1 - 1) : Nat), i64 ((k + 1 : Nat) : Int)], S ++ [.obj ((markP l s (k + 1)).map .bool)])) := fun h => by
        unfold F35_J1
        simp only [binV, isShift, cond_false, if_true, binI, Option.bind_some, w1]
        rw [nextS_eq (by simp), Nat.add_sub_cancel, hgs, if_neg (by simp [h])]
        rfl
      have hix : indexAV 1 none (.osl S.length 0 l.length 1) (.int .i64 (k : Int)) = some (.ptr S.length k) := by
        simp only [indexAV]
        rw [if_pos ⟨by omega, by omega, by trivial⟩]
        simp
      have hset : okP l s (goodP l s (k - 1)) k = false → storeV S.length 1 (.ptr S.length k) (.bool true) (S ++ [.obj ((markP l s k).map .bool)]) = some (S ++ [.obj ((markP l s (k + 1)).map .bool)]) := fun h => by
        simp only [storeV, List.getElem?_concat_length, hb, cond_false, cellsOf, cells1, cell1, Option.bind_some, List.length_cons, List.length_nil, List.length_map, markP_length]
        rw [if_pos ⟨by trivial, by omega⟩]
        simp only [setC, map_bool_set, markP_bad hk (show stepP l s k = true by rw [hst, h]; rfl)]
        rw [List.set_append_right _ _ (Nat.le_refl _)]
        simp
      have e : okP l s (goodP l s (k - 1)) k = (slowP l[goodP l s (k - 1)] l[k] s || (decide (k + 1 < l.length) && slowP l[k] (l.getD (k + 1) ⟨0, 0, 0⟩) s)) := by unfold okP; rw [getD_pt hgl, getD_pt hk]
      have him : ∀ p : Pt, imms (ptR p) = some (ptR p) := fun p => by simp [ptR]
      cases c1 : slowP l[goodP l s (k - 1)] l[k] s with
      | true =>
        rw [c1] at s1 e
        refine Eq.trans ?_ (jy (by rw [e]; rfl))
        unfold F35_L1
        simp only [List.getD_cons_zero, List.getD_cons_succ]
        repeat (first
          | rfl
          | refine bind_of (by simp [-loadV, -Int.natCast_add, hlt, hi k hk, hi _ hgl, hld _ k hk, hld _ _ hgl, him, s1] <;> rfl) ?_
          | refine cond_t (by rfl) ?_
          | refine cond_f (by rfl) ?_)
      | false =>
        rw [c1] at s1 e
        by_cases hk1 : k + 1 < l.length
        · have hlt1 : ((k + 1 : Nat) : Int) < (l.length : Int) := by omega
          have s2 := s_slow (s := s) (hok _ hk) (hok _ hk1) h3 h4 (S ++ [.obj ((markP l s k).map .bool)])
          rw [getD_pt hk1] at e
          cases c2 : slowP l[k] l[k + 1] s with
          | true =>
            rw [c2] at s2 e
            refine Eq.trans ?_ (jy (by rw [e]; simp [hk1]))
            unfold F35_L1
            simp only [List.getD_cons_zero, List.getD_cons_succ]
            repeat (first
              | rfl
              | refine bind_of (by simp [-loadV, -Int.natCast_add, hlt, hi k hk, hi _ hgl, hi _ hk1, hld _ k hk, hld _ _ hgl, hld _ _ hk1, him, hlt1, w1, s1, s2] <;> rfl) ?_
              | refine cond_t (by rfl) ?_
              | refine cond_f (by rfl) ?_)
          | false =>
            rw [c2] at s2 e
            refine Eq.trans ?_ (jn (by rw [e]; simp))
            have hs := hset (by rw [e]; simp)
            unfold F35_L1
            simp only [List.getD_cons_zero, List.getD_cons_succ]
            repeat (first
              | rfl
              | refine bind_of (by simp [-loadV, -storeV, -Int.natCast_add, hlt, hi k hk, hi _ hgl, hi _ hk1, hld _ k hk, hld _ _ hgl, hld _ _ hk1, him, hlt1, w1, s1, s2, hix, hs] <;> rfl) ?_
              | refine cond_t (by rfl) ?_
              | refine cond_f (by rfl) ?_)
        · have hlt1 : ¬ ((k + 1 : Nat) : Int) < (l.length : Int) := by omega
          refine Eq.trans ?_ (jn (by rw [e]; simp [hk1]))
          have hs := hset (by rw [e]; simp [hk1])
          unfold F35_L1
          simp only [List.getD_cons_zero, List.getD_cons_succ]
          repeat (first
            | rfl
            | refine bind_of (by simp [-loadV, -storeV, -Int.natCast_add, hlt, hi k hk, hi _ hgl, hld _ k hk, hld _ _ hgl, him, hlt1, w1, s1, hix, hs] <;> rfl) ?_
            | refine cond_t (by rfl) ?_
            | refine cond_f (by rfl) ?_))
    (by
      have e : 1 + (l.length - 1) = l.length := by omega
      rw [e]
      simp [F35_L1])
  simp only [i64, Int.natCast_one, Nat.sub_self] at key
  have hroom : room = 4294967296 := rfl
  have hz : msliceV [.bool false] (.int .i64 l.length) (.int .i64 l.length) S = some (.osl S.length 0 l.length 1, S ++ [.obj ((markP l s 1).map .bool)]) := by
    simp only [msliceV]
    rw [if_pos ⟨by omega, by omega, by omega⟩, Int.toNat_natCast, zero_flat, markP_one]
    rfl
  have hf := fin1_flat (S := S ++ [.obj ((markP l s l.length).map .bool)]) (n := S.length) (i := S.length) (sz := 1) (xs := bools (markP l s l.length)) (Nat.le_refl _) (by rw [bools_flat]; simp) bools_row
  simp only [bools_length, markP_length] at hf
  rw [show goodP l s 0 = 0 from rfl, Int.natCast_zero] at key
  simp [-List.getD_eq_getElem?_getD, -fin1, List.getD_cons_zero, List.getD_cons_succ, lenV, hz, key, finish, hf]

end Go.Proofs.YtlilahgndpdkfaaDoor

/-
  What timeline's examine answers.
-/
namespace Go.Proofs.YtlilahgndpdkfaaDoor
open Go Go.Abs

theorem s_possible1 (n : Int) (S : Store) : call 61 [i64 n] S = some (.bool (decide (n < 0) || decide (10000 < n)), S) := by
  rw [k61]
  unfold F61
  by_cases h1 : n < 0
  · simp [h1]
  · simp [h1]

theorem s_IndexInt {l : List Int} {t : Tok} {f : Nat} {p : Int → Bool} {S : Store} (hlen : l.length ≤ 4611686018427387904) (hp : ∀ n ∈ l, call f [i64 n] S = some (.bool (p n), S)) :
    call 81 [.sl (ints l) t, .clo f []] S = some (i64 (idxP p l), S) := by
  rw [k81]
  unfold F81
  have hle := idxN_le p l
  have key := iter_run (step := fun s => F81_L1 call S.length (.sl (ints l) t) (.clo f []) (i64 l.length) (s.1.getD 0 .u) s.2) (fun k => ([i64 (k : Nat)], S)) (r := if idxN p l < l.length then (.ret, [i64 (idxN p l)], S) else (.exit 0, [.u], S)) (idxN p l) 0
    (fun j _ hj => by
      have hjl : j < l.length := by omega
      have h3 := hp l[j] (List.getElem_mem _)
      have h4 : p l[j] = false := idxN_before p l (by omega) hjl
      have w1 : IntKind.i64.wrap ((j : Int) + 1) = (j : Int) + 1 := wrap_in (by unfold In64; omega)
      have hlt : (j : Int) < (l.length : Int) := by omega
      have hat : at? (ints l) (j : Int) = some [i64 l[j]] := by rw [at_nat]; simp [ints, hjl]
      simp [F81_L1, hlt, indexAV, hat, h3, h4, w1, nextS_same])
    (by
      simp only [Nat.zero_add]
      by_cases hc : idxN p l < l.length
      · have h3 := hp l[idxN p l] (List.getElem_mem _)
        have h4 : p l[idxN p l] = true := idxN_at p l hc
        have hlt : (idxN p l : Int) < (l.length : Int) := by omega
        have hat : at? (ints l) (idxN p l : Int) = some [i64 l[idxN p l]] := by rw [at_nat]; simp [ints, hc]
        simp [F81_L1, hlt, indexAV, hat, hc, h3, h4]
      · have hlt : ¬ (idxN p l : Int) < (l.length : Int) := by omega
        simp [F81_L1, hlt, hc])
  simp only [Int.natCast_zero, i64] at key
  simp only [List.getD_cons_zero, List.getD_cons_succ, lenV, Option.bind_some, i64, ints_length, key, idxP]
  by_cases hc : idxN p l < l.length <;> simp [hc]

theorem s_possible {l : List Int} (hl : l.length = 12) (S : Store) : call 47 [.agg (l.map i64)] S = some (.bool (possP l), S) := by
  rw [k47]
  unfold F47
  have hs : sliceAV 1 12 (.ip (l.map i64) 0) none none S = some (.sl (ints l) .none) := by
    have h0 := chunks_rows (sz := 1) (xs := ints l) (by intro x hx; obtain ⟨n, _, rfl⟩ := List.mem_map.1 hx; rfl) []
    have h1 : (ints l).flatten = l.map i64 := by
      clear hl h0
      induction l with
      | nil => rfl
      | cons a l ih => simp only [ints, List.map_cons, List.flatten_cons] at *; rw [ih]; rfl
    rw [List.append_nil, h1, ints_length, hl] at h0
    simp [sliceAV, bound, hl, h0]
    rw [List.take_of_length_le (by simp [hl])]
  have hi := s_IndexInt (l := l) (t := .none) (f := 61) (p := fun n => decide (n < 0) || decide (10000 < n)) (S := S) (by omega) (fun n _ => s_possible1 n S)
  have hp := idxP_any (fun n : Int => decide (n < 0) || decide (10000 < n)) l
  have hc : call 60 [.sl (ints l) .none, .clo 61 []] S = some (.bool (l.any fun n => decide (n < 0) || decide (10000 < n)), S) := by
    rw [k60]
    unfold F60
    simp only [i64] at hi
    simp [hi]
    simpa using hp
  have him := imms_i64s l
  simp [him, hs, hc, possP]

/-- slices.IndexFunc: the first that the closure takes. -/
theorem s_IndexReport {xs : List (List AV)} {t : Tok} {f : Nat} {caps : List AV} {p : List AV → Bool} {S : Store} (hx : ∀ x ∈ xs, x.length = 8 ∧ imms x = some x) (hlen : xs.length ≤ 4611686018427387904)
    (hp : ∀ x ∈ xs, call f (.agg x :: caps) S = some (.bool (p x), S)) : call 66 [.sl xs t, .clo f caps] S = some (i64 (idxP p xs), S) := by
  rw [k66]
  unfold F66
  have hle := idxN_le p xs
  have key := iter_run (step := fun s => F66_L1 call S.length (.sl xs t) (.clo f caps) (i64 xs.length) (s.1.getD 0 .u) s.2) (fun k => ([i64 (k : Nat)], S)) (r := if idxN p xs < xs.length then (.ret, [i64 (idxN p xs)], S) else (.exit 0, [.u], S)) (idxN p xs) 0
    (fun j _ hj => by
      have hjl : j < xs.length := by omega
      obtain ⟨h1, h2⟩ := hx xs[j] (List.getElem_mem _)
      have h3 := hp xs[j] (List.getElem_mem _)
      have h5 : List.take 8 xs[j] = xs[j] := List.take_of_length_le (by omega)
      have h4 : p xs[j] = false := idxN_before p xs (by omega) hjl
      have w1 : IntKind.i64.wrap ((j : Int) + 1) = (j : Int) + 1 := wrap_in (by unfold In64; omega)
      have hlt : (j : Int) < (xs.length : Int) := by omega
      simp [F66_L1, hlt, indexAV, at_nat, hjl, h1, h2, h3, h4, h5, w1, nextS_same])
    (by
      simp only [Nat.zero_add]
      by_cases hc : idxN p xs < xs.length
      · obtain ⟨h1, h2⟩ := hx xs[idxN p xs] (List.getElem_mem _)
        have h3 := hp xs[idxN p xs] (List.getElem_mem _)
        have h5 : List.take 8 xs[idxN p xs] = xs[idxN p xs] := List.take_of_length_le (by omega)
        have h4 : p xs[idxN p xs] = true := idxN_at p xs hc
        have hlt : (idxN p xs : Int) < (xs.length : Int) := by omega
        simp [F66_L1, hlt, indexAV, at_nat, hc, h1, h2, h3, h4, h5]
      · have hlt : ¬ (idxN p xs : Int) < (xs.length : Int) := by omega
        simp [F66_L1, hlt, hc])
  simp only [Int.natCast_zero, i64] at key
  simp only [List.getD_cons_zero, List.getD_cons_succ, lenV, Option.bind_some, i64, key, idxP]
  by_cases hc : idxN p xs < xs.length <;> simp [hc]

theorem s_ContainsReport {xs : List (List AV)} {t : Tok} {f : Nat} {caps : List AV} {p : List AV → Bool} {S : Store} (hx : ∀ x ∈ xs, x.length = 8 ∧ imms x = some x) (hlen : xs.length ≤ 4611686018427387904)
    (hp : ∀ x ∈ xs, call f (.agg x :: caps) S = some (.bool (p x), S)) : call 49 [.sl xs t, .clo f caps] S = some (.bool (xs.any p), S) := by
  rw [k49]
  unfold F49
  have h := s_IndexReport (t := t) hx hlen hp
  have h2 := idxP_any p xs
  simp [h, h2]


theorem s_examine1 (r : Rep) (S : Store) : call 50 [.agg (repR r)] S = some (.bool (!inP r.time), S) := by
  rw [k50]
  unfold F50
  unfold inP
  by_cases h1 : r.time < 0
  · simp [repR, h1]
  · have : 0 ≤ r.time := by omega
    by_cases h2 : r.time ≤ 52595999
    · have : ¬ 52595999 < r.time := by omega
      simp [repR, h1, h2, *]
    · have : 52595999 < r.time := by omega
      simp [repR, h1, h2, *]

theorem s_late {l : List Rep} {t : Tok} (hl : l.length ≤ 4611686018427387904) (S : Store) : call 49 [.sl (reps l) t, .clo 50 []] S = some (.bool (!l.all fun r => inP r.time), S) := by
  have h := s_ContainsReport (xs := reps l) (t := t) (f := 50) (caps := []) (p := fun x => match x with | [_, _, .int _ n, _, _, _, _, _] => !inP n | _ => false) (S := S) reps_row (by simpa using hl) (fun x hx => by
    obtain ⟨r, _, rfl⟩ := List.mem_map.1 hx
    exact s_examine1 r S)
  rw [h]
  have : ((reps l).any fun x => match x with | [_, _, .int _ n, _, _, _, _, _] => !inP n | _ => false) = !l.all fun r => inP r.time := by
    simp only [reps, List.any_map]
    induction l with
    | nil => rfl
    | cons a l ih =>
      simp only [List.any_cons, List.all_cons, Bool.not_and, Function.comp, repR] at *
      rw [ih (by simp at hl; omega) (s_ContainsReport reps_row (by simp at *; omega) (fun x hx => by
        obtain ⟨r, _, rfl⟩ := List.mem_map.1 hx
        exact s_examine1 r S))]
  rw [this]

def seenE (l : List Rep) (k : Nat) : List (AV × AV) := (seenK ((l.take k).map keyR)).map fun x => (kvS x, .bool true)

theorem seenE_keys (l : List Rep) (k : Nat) : (seenE l k).map (·.1) = (seenK ((l.take k).map keyR)).map kvS := by simp [seenE, Function.comp_def]

theorem seenE_step {l : List Rep} {k : Nat} (hk : k < l.length) {S : Store} : mapSetV S.length true [1, 0] (.map S.length) (.agg [.str l[k].name, i64 l[k].time]) (.bool true) (S ++ [.map (seenE l k)]) = some (S ++ [.map (seenE l (k + 1))]) := by
  have hf := findI_kvS (keyR l[k]) (seenE l k) _ 0 (seenE_keys l k)
  simp only [kvS, keyR] at hf
  have hb : Nat.blt S.length S.length = false := blt_false (Nat.le_refl _)
  have ht : (l.take (k + 1)).map keyR = (l.take k).map keyR ++ [keyR l[k]] := by
    rw [List.take_succ_eq_append_getElem hk]; simp only [List.map_append, List.map_cons, List.map_nil]
  have hs : seenK ((l.take (k + 1)).map keyR) = addK (seenK ((l.take k).map keyR)) (keyR l[k]) := by
    unfold seenK; rw [ht, List.foldl_append]; rfl
  simp only [mapSetV, List.getElem?_concat_length, immV, imms, imm1, Option.bind_some, valM, hb, cond_false, cell1, hf]
  rw [List.set_append_right _ _ (Nat.le_refl _), Nat.sub_self]
  by_cases hm : (l[k].name, l[k].time) ∈ seenK ((l.take k).map keyR)
  · have e1 : seenE l (k + 1) = seenE l k := by unfold seenE; rw [hs, addK, if_pos (show keyR l[k] ∈ _ from hm)]
    rw [e1]
    simp only [hm, if_true, Nat.zero_add, List.set_cons_zero]
    congr 4
    have hi := List.idxOf_lt_length_iff.2 hm
    apply List.ext_getElem (by simp)
    intro j h1 h2
    by_cases hj : (seenK ((l.take k).map keyR)).idxOf (l[k].name, l[k].time) = j
    · subst hj
      rw [List.getElem_set_self]
      simp only [seenE, List.getElem_map, kvS]
      rw [List.getElem_idxOf]
    · rw [List.getElem_set_ne hj]
  · have e1 : seenE l (k + 1) = seenE l k ++ [(kvS (keyR l[k]), .bool true)] := by unfold seenE; rw [hs, addK, if_neg (show ¬ keyR l[k] ∈ _ from hm)]; simp
    rw [e1]
    simp only [hm, if_false, List.set_cons_zero]
    rfl

theorem firstP_all {l : List Rep} : firstP l = 0 ↔ ∀ r ∈ l, validP r.rd = 0 := by
  induction l with
  | nil => simp [firstP]
  | cons a l ih =>
    unfold firstP
    by_cases h : validP a.rd = 0
    · simp [h, ih]
    · simp [h]

theorem firstP_at {l : List Rep} {k : Nat} (hk : k < l.length) (h : validP l[k].rd ≠ 0) (h2 : ∀ j (hj : j < k), validP (l[j]).rd = 0) : firstP l = validP l[k].rd := by
  induction l generalizing k with
  | nil => simp at hk
  | cons a l ih =>
    unfold firstP
    cases k with
    | zero => simp only [List.getElem_cons_zero] at h ⊢; rw [if_neg h]
    | succ k =>
      have h0 := h2 0 (by omega)
      simp only [List.getElem_cons_zero] at h0
      rw [if_pos h0]
      simp only [List.getElem_cons_succ] at h ⊢
      exact ih (by simpa using hk) h fun j hj => by simpa using h2 (j + 1) (by omega)

set_option maxHeartbeats 2000000 in
theorem s_examine {l : List Rep} {t : Tok} {k : Ctl} (hk : k.Fit) (hl : l.length ≤ 1000000) (hr : ∀ r ∈ l, r.rd.length ≤ 4611686018427387904) (S : Store) : call 33 [.sl (reps l) t, .agg (ctlC k)] S = some (i64 (examP l k), S) := by
  rw [k33]
  unfold F33
  have p1 := s_possible hk.steps S
  have p2 := s_possible hk.spikes S
  have p3 := s_late (l := l) (t := t) (by omega) S
  have e0 : ctlC k = i64 k.hops :: (k.steps.map i64 ++ (k.spikes.map i64 ++ k.rest.map i64)) := by simp [ctlC]
  have e1 : imms (ctlC k) = some (ctlC k) := by
    have := imms_i64s (k.hops :: (k.steps ++ k.spikes ++ k.rest))
    simpa [ctlC] using this
  have e2 : List.take 12 (ctlC k).tail = k.steps.map i64 := by rw [e0]; simp [hk.steps]
  have e3 : List.take 12 (List.drop 13 (ctlC k)) = k.spikes.map i64 := by rw [e0]; simp [hk.steps, hk.spikes]
  have e4 : 13 ≤ (ctlC k).length := by simp [ctlC, hk.steps, hk.spikes, hk.rest]
  have e5 : 25 ≤ (ctlC k).length := by simp [ctlC, hk.steps, hk.spikes, hk.rest]
  have hat : ∀ (j : Nat) (h : j < l.length), at? (reps l) (j : Int) = some (repR l[j]) := fun j h => at_reps h
  have key1 := iter_scan (step := fun s => F33_L1 call S.length (.sl (reps l) t) (.sl (reps l) t) (i64 l.length) (s.1.getD 0 .u) s.2) (S := S) (fun j => !decide (validP (l.getD j ⟨0, [], 0, 0, 0, 0, 0, []⟩).rd = 0)) (rT := fun j => (Ex.ret, [i64 (validP (l.getD j ⟨0, [], 0, 0, 0, 0, 0, []⟩).rd)], S)) (rE := (Ex.exit 0, [.u], S)) l.length 0
    (fun j j1 j2 => by
      have hj : j < l.length := by omega
      have hlt : (j : Int) < (l.length : Int) := by omega
      have hg : l.getD j ⟨0, [], 0, 0, 0, 0, 0, []⟩ = l[j] := by rw [List.getD_eq_getElem?_getD, List.getElem?_eq_getElem hj]; rfl
      rw [hg]
      have hv := s_Validate (l := l[j].rd) (t := .none) (hr _ (List.getElem_mem hj)) S
      have w1 : IntKind.i64.wrap ((j : Int) + 1) = (j : Int) + 1 := wrap_in (by unfold In64; omega)
      have hat' := hat j hj
      by_cases h0 : validP l[j].rd = 0
      · rw [h0] at hv
        simp [F33_L1, hlt, indexAV, hat', repR, hv, h0, w1, nextS_same]
      · simp [F33_L1, hlt, indexAV, hat', repR, hv, h0])
    (by simp [F33_L1])
  have key2 := iter_run (step := fun s => F33_L2 call S.length (.sl (reps l) t) (.map S.length) (.sl (reps l) t) (i64 l.length) (s.1.getD 0 .u) s.2) (fun j => ([i64 (j : Nat)], S ++ [.map (seenE l j)])) (r := (Ex.exit 2, [], S ++ [.map (seenE l l.length)])) l.length 0
    (fun j j1 j2 => by
      have hj : j < l.length := by omega
      have hlt : (j : Int) < (l.length : Int) := by omega
      have w1 : IntKind.i64.wrap ((j : Int) + 1) = (j : Int) + 1 := wrap_in (by unfold In64; omega)
      have hat' := hat j hj
      have hset := seenE_step hj (S := S)
      have hn : nextS S.length (S.length + 1) [.int .i64 ((j : Int) + 1)] (S ++ [Ent.map (seenE l (j + 1))]) = some ([.int .i64 ((j : Int) + 1)], S ++ [.map (seenE l (j + 1))]) := nextS_eq (by simp)
      simp [F33_L2, hlt, indexAV, hat', repR, buildV, fillC, hset, w1, hn])
    (by simp [F33_L2])
  simp only [Int.natCast_zero, i64] at key1 key2
  have hs0 : seenE l 0 = [] := rfl
  rw [hs0] at key2
  have fl : decide (((seenE l l.length).length : Int) < (l.length : Int)) = twiceP l := by
    have := seenK_twice l
    simpa [seenE] using this
  unfold examP
  cases c1 : possP k.steps with
  | false =>
    rw [c1] at p1
    simp [imms_i64s, e1, e2, e4, p1]
  | true =>
    rw [c1] at p1
    cases c2 : possP k.spikes with
    | false =>
      rw [c2] at p2
      simp [imms_i64s, e1, e2, e3, e4, e5, p1, p2]
    | true =>
      rw [c2] at p2
      rcases key1 with ⟨j, j1, j2, j3, j4, j5⟩ | ⟨j1, j2⟩
      · have hj : j < l.length := by omega
        have hg : l.getD j ⟨0, [], 0, 0, 0, 0, 0, []⟩ = l[j] := by rw [List.getD_eq_getElem?_getD, List.getElem?_eq_getElem hj]; rfl
        rw [hg] at j3 j5
        have hv : validP l[j].rd ≠ 0 := by simpa using j3
        have hf := firstP_at hj hv fun i hi => by
          have := j4 i (Nat.zero_le _) hi
          rw [List.getD_eq_getElem?_getD, List.getElem?_eq_getElem (by omega)] at this
          simpa using this
        rw [hf, if_neg hv]
        simp [-List.getD_eq_getElem?_getD, imms_i64s, List.getD_cons_zero, List.getD_cons_succ, e1, e2, e3, e4, e5, p1, p2, j5]
      · have hf : firstP l = 0 := firstP_all.2 fun r hr => by
          obtain ⟨i, hi, rfl⟩ := List.getElem_of_mem hr
          have := j1 i (Nat.zero_le _) (by omega)
          rw [List.getD_eq_getElem?_getD, List.getElem?_eq_getElem hi] at this
          simpa using this
        rw [hf]
        cases c3 : l.all fun r => inP r.time with
        | false =>
          rw [c3] at p3
          simp [-List.getD_eq_getElem?_getD, imms_i64s, List.getD_cons_zero, List.getD_cons_succ, e1, e2, e3, e4, e5, p1, p2, p3, j2]
        | true =>
          rw [c3] at p3
          cases c4 : twiceP l with
          | false =>
            rw [c4] at fl
            have fl' : ¬ (((seenE l l.length).length : Int) < (l.length : Int)) := by simpa using fl
            simp [-List.getD_eq_getElem?_getD, imms_i64s, List.getD_cons_zero, List.getD_cons_succ, e1, e2, e3, e4, e5, p1, p2, p3, j2, key2, fl']
          | true =>
            rw [c4] at fl
            have fl' : (((seenE l l.length).length : Int) < (l.length : Int)) := by simpa using fl
            simp [-List.getD_eq_getElem?_getD, imms_i64s, List.getD_cons_zero, List.getD_cons_succ, e1, e2, e3, e4, e5, p1, p2, p3, j2, key2, fl']

end Go.Proofs.YtlilahgndpdkfaaDoor

/-
  The map from names and elements to lines, as_ it is made.
-/
namespace Go.Abs
open Go

def entL (d : List (Key × Pt)) (idx : Key → Nat) (x : Key) : AV × AV := (kvS x, .osl (idx x) 0 (ptsOf d x).length 3)

/-- What the store holds when the readings d are in the map of the entry n. -/
structure LinI (n : Nat) (d : List (Key × Pt)) (S : Store) (idx : Key → Nat) : Prop where
  map : S[n]? = some (.map ((seenK (d.map (·.1))).map (entL d idx)))
  obj : ∀ x ∈ seenK (d.map (·.1)), n < idx x ∧ S[idx x]? = some (.obj (pts (ptsOf d x)).flatten)
  inj : ∀ x ∈ seenK (d.map (·.1)), ∀ y ∈ seenK (d.map (·.1)), idx x = idx y → x = y

theorem ptsOf_ne {d : List (Key × Pt)} {x : Key} (h : x ∈ seenK (d.map (·.1))) : ptsOf d x ≠ [] := by
  rw [mem_seenK] at h
  obtain ⟨e, he, rfl⟩ := List.mem_map.1 h
  intro h2
  have : e.2 ∈ ptsOf d e.1 := List.mem_map.2 ⟨e, List.mem_filter.2 ⟨he, by simp⟩, rfl⟩
  rw [h2] at this
  cases this

theorem ptsOf_nil {d : List (Key × Pt)} {x : Key} (h : x ∉ seenK (d.map (·.1))) : ptsOf d x = [] := by
  rw [mem_seenK] at h
  unfold ptsOf
  rw [List.filter_eq_nil_iff.2 fun e he => ?_]
  · rfl
  · intro h2
    exact h (List.mem_map.2 ⟨e, he, by simpa using h2⟩)

theorem ptsOf_le (d : List (Key × Pt)) (x : Key) : (ptsOf d x).length ≤ d.length := by
  unfold ptsOf
  rw [List.length_map]
  exact List.length_filter_le _ _

theorem ptsOf_snoc_self (d : List (Key × Pt)) (x : Key) (p : Pt) : ptsOf (d ++ [(x, p)]) x = ptsOf d x ++ [p] := by rw [ptsOf_append, ptsOf_one, if_pos rfl]
theorem ptsOf_snoc_ne (d : List (Key × Pt)) {x y : Key} (p : Pt) (h : y ≠ x) : ptsOf (d ++ [(x, p)]) y = ptsOf d y := by rw [ptsOf_append, ptsOf_one, if_neg (fun e => h e.symm), List.append_nil]

theorem entL_ne {d : List (Key × Pt)} {idx : Key → Nat} {x y : Key} {p : Pt} {k : Nat} (h : y ≠ x) : entL (d ++ [(x, p)]) (fun z => if z = x then k else idx z) y = entL d idx y := by
  unfold entL
  rw [ptsOf_snoc_ne d p h]
  simp [h]

/-- One reading more. -/
theorem LinI.add {n : Nat} {d : List (Key × Pt)} {S : Store} {idx : Key → Nat} (h : LinI n d S idx) (x : Key) (p : Pt) (hd : d.length ≤ 1000000) :
    ∃ v0 st S1 v2 S2 S3 idx', mapEntryV (AV.sl [] .full) true [1, 0] (.map n) (kvS x) S = some (.tup [v0, st], S1) ∧ appendMV 3 v0 (.sl [ptR p] .full) S1 = some (v2, S2) ∧ entryStoreV n (.map n) st v2 S2 = some S3 ∧
      LinI n (d ++ [(x, p)]) S3 idx' ∧ S.length ≤ S3.length ∧ (∀ j, j < n → S3[j]? = S[j]?) ∧ S.length ≤ idx' x ∧ ∀ y, y ≠ x → idx' y = idx y := by
  obtain ⟨h1, h2, h3⟩ := h
  have hn : n < S.length := (List.getElem?_eq_some_iff.1 h1).1
  have hkeys : ((seenK (d.map (·.1))).map (entL d idx)).map (·.1) = (seenK (d.map (·.1))).map kvS := by simp [entL, Function.comp_def]
  have hf := findI_kvS x _ _ 0 hkeys
  have himm : immV (kvS x) = some (kvS x) := by simp [immV, kvS]
  have hrows : immRows 3 [ptR p] = some [ptR p] := by simp [immRows, ptR]
  have hb : Nat.blt n n = false := blt_false (Nat.le_refl _)
  have hsn : (d ++ [(x, p)]).map (·.1) = d.map (·.1) ++ [x] := by simp
  have hnd := seenK_nodup (d.map (·.1))
  have hidx : ∀ y ∈ seenK (d.map (·.1)), idx y < S.length := fun y hy => (List.getElem?_eq_some_iff.1 (h2 y hy).2).1
  by_cases hx : x ∈ seenK (d.map (·.1))
  · -- a line that is there
    have hi := List.idxOf_lt_length_iff.2 hx
    have hgi : (seenK (d.map (·.1)))[(seenK (d.map (·.1))).idxOf x] = x := List.getElem_idxOf hi
    obtain ⟨o1, o2⟩ := h2 x hx
    have hlen := flatten_length (sz := 3) (xs := pts (ptsOf d x)) fun y hy => (pts_row y hy).1
    rw [pts_length] at hlen
    have hpos : 0 < (ptsOf d x).length := List.length_pos_iff.2 (ptsOf_ne hx)
    have hle := ptsOf_le d x
    have hget : ((seenK (d.map (·.1))).map (entL d idx))[(seenK (d.map (·.1))).idxOf x]? = some (entL d idx x) := by
      rw [List.getElem?_map, List.getElem?_eq_getElem hi, hgi]; rfl
    refine ⟨AV.osl (idx x) 0 (ptsOf d x).length 3, i64 ((seenK (d.map (·.1))).idxOf x : Nat), S, AV.osl S.length 0 ((ptsOf d x).length + 1) 3, S.set (idx x) Ent.dead ++ [Ent.obj ((pts (ptsOf d x)).flatten ++ ptR p)],
      (S.set (idx x) Ent.dead ++ [Ent.obj ((pts (ptsOf d x)).flatten ++ ptR p)]).set n (Ent.map (((seenK (d.map (·.1))).map (entL d idx)).set ((seenK (d.map (·.1))).idxOf x) (kvS x, AV.osl S.length 0 ((ptsOf d x).length + 1) 3))),
      fun z => if z = x then S.length else idx z, ?_, ?_, ?_, ⟨?_, ?_, ?_⟩, ?_, ?_, by simp, fun y hy => by simp [hy]⟩
    · simp only [mapEntryV, h1, himm, Option.bind_some, hf, hx, if_true, Nat.zero_add, hget]
      have : ((seenK (d.map (·.1))).map (entL d idx)).set ((seenK (d.map (·.1))).idxOf x) (kvS x, (entL d idx x).2) = (seenK (d.map (·.1))).map (entL d idx) := by
        apply List.ext_getElem?
        intro j
        by_cases hj : (seenK (d.map (·.1))).idxOf x = j
        · subst hj
          rw [List.getElem?_set_self (by simpa using hi), hget]
          rfl
        · rw [List.getElem?_set_ne hj]
      rw [this]
      have : S.set n (Ent.map ((seenK (d.map (·.1))).map (entL d idx))) = S := by
        apply List.ext_getElem?
        intro j
        by_cases hj : n = j
        · subst hj; rw [List.getElem?_set_self hn, h1]
        · rw [List.getElem?_set_ne hj]
      rw [this]
      rfl
    · simp only [appendMV, o2, rowsOf_sl, Option.bind_some, hrows, List.length_cons, List.length_nil, Nat.zero_add]
      rw [if_pos ⟨by trivial, hpos, by omega, by have : room = 4294967296 := rfl; omega⟩, ← hlen, List.take_length]
      simp
    · have hne : idx x ≠ n := by omega
      have : (S.set (idx x) Ent.dead ++ [Ent.obj ((pts (ptsOf d x)).flatten ++ ptR p)])[n]? = some (Ent.map ((seenK (d.map (·.1))).map (entL d idx))) := by
        rw [List.getElem?_append_left (by simpa using hn), List.getElem?_set_ne hne, h1]
      simp only [entryStoreV, this, at_nat, hget, Option.bind_some, valM, hb, cond_false, cell1, Int.toNat_natCast]
      rfl
    · rw [List.getElem?_set_self (by simp; omega), hsn, seenK_snoc, addK, if_pos hx]
      congr 2
      apply List.ext_getElem (by simp)
      intro j j1 j2
      have hjl : j < (seenK (d.map (·.1))).length := by simpa using j1
      by_cases hj : (seenK (d.map (·.1))).idxOf x = j
      · subst hj
        rw [List.getElem_set_self, List.getElem_map, hgi]
        simp [entL, ptsOf_snoc_self]
      · rw [List.getElem_set_ne hj, List.getElem_map, List.getElem_map]
        have : (seenK (d.map (·.1)))[j] ≠ x := fun e => hj ((List.getElem_inj (h₀ := hi) (h₁ := hjl) hnd).1 (hgi.trans e.symm))
        rw [entL_ne this]
    · intro y hy
      rw [hsn, seenK_snoc, addK, if_pos hx] at hy
      by_cases hyx : y = x
      · subst hyx
        rw [if_pos rfl, List.getElem?_set_ne (by omega), ptsOf_snoc_self]
        refine ⟨hn, ?_⟩
        rw [List.getElem?_append_right (by simp)]
        simp [pts]
      · rw [if_neg hyx, ptsOf_snoc_ne d p hyx]
        obtain ⟨q1, q2⟩ := h2 y hy
        have : idx x ≠ idx y := fun e => hyx (h3 y hy x hx e.symm)
        refine ⟨q1, ?_⟩
        rw [List.getElem?_set_ne (by omega), List.getElem?_append_left (by simpa using hidx y hy), List.getElem?_set_ne this, q2]
    · intro y hy z hz hyz
      rw [hsn, seenK_snoc, addK, if_pos hx] at hy hz
      have b1 := hidx y hy
      have b2 := hidx z hz
      by_cases hyx : y = x <;> by_cases hzx : z = x <;> simp only [hyx, hzx, if_true, if_false] at hyz ⊢
      · omega
      · omega
      · exact h3 y hy z hz hyz
    · simp
    · intro j hj
      rw [List.getElem?_set_ne (by omega), List.getElem?_append_left (by simp; omega), List.getElem?_set_ne (by omega)]
  · -- a new line
    have hp0 := ptsOf_nil hx
    refine ⟨AV.sl [] .full, i64 ((seenK (d.map (·.1))).length : Nat), S.set n (Ent.map ((seenK (d.map (·.1))).map (entL d idx) ++ [(kvS x, AV.sl [] .full)])), AV.osl S.length 0 1 3,
      S.set n (Ent.map ((seenK (d.map (·.1))).map (entL d idx) ++ [(kvS x, AV.sl [] .full)])) ++ [Ent.obj (ptR p)],
      (S.set n (Ent.map ((seenK (d.map (·.1))).map (entL d idx) ++ [(kvS x, AV.sl [] .full)])) ++ [Ent.obj (ptR p)]).set n (Ent.map ((seenK (d.map (·.1))).map (entL d idx) ++ [(kvS x, AV.osl S.length 0 1 3)])),
      fun z => if z = x then S.length else idx z, ?_, ?_, ?_, ⟨?_, ?_, ?_⟩, ?_, ?_, by simp, fun y hy => by simp [hy]⟩
    · simp only [mapEntryV, h1, himm, Option.bind_some, hf, hx, if_false, List.length_map]
    · simp only [appendMV, rowsOf_sl, Option.bind_some, hrows, List.length_cons, List.length_nil, Nat.zero_add, List.length_set]
      rw [if_pos (by have : room = 4294967296 := rfl; omega)]
      simp
    · have e1 : (S.set n (Ent.map ((seenK (d.map (·.1))).map (entL d idx) ++ [(kvS x, AV.sl [] .full)])) ++ [Ent.obj (ptR p)])[n]? = some (Ent.map ((seenK (d.map (·.1))).map (entL d idx) ++ [(kvS x, AV.sl [] .full)])) := by
        rw [List.getElem?_append_left (by simpa using hn), List.getElem?_set_self hn]
      have e2 : ((seenK (d.map (·.1))).map (entL d idx) ++ [(kvS x, AV.sl [] .full)])[(seenK (d.map (·.1))).length]? = some (kvS x, AV.sl [] .full) := by
        rw [List.getElem?_append_right (by simp)]; simp
      have e3 : ((seenK (d.map (·.1))).map (entL d idx) ++ [(kvS x, AV.sl [] .full)]).set (seenK (d.map (·.1))).length (kvS x, AV.osl S.length 0 1 3) = (seenK (d.map (·.1))).map (entL d idx) ++ [(kvS x, AV.osl S.length 0 1 3)] := by
        rw [List.set_append_right _ _ (by simp)]; simp
      simp only [entryStoreV, e1, at_nat, e2, Option.bind_some, valM, hb, cond_false, cell1, Int.toNat_natCast, e3]
    · rw [List.getElem?_set_self (by simp; omega), hsn, seenK_snoc, addK, if_neg hx, List.map_append]
      congr 3
      · apply List.map_congr_left
        intro y hy
        have hyx : y ≠ x := fun e => hx (by rw [← e]; exact hy)
        rw [entL_ne hyx]
      · simp [entL, ptsOf_snoc_self, hp0]
    · intro y hy
      rw [hsn, seenK_snoc, mem_addK] at hy
      by_cases hyx : y = x
      · subst hyx
        rw [if_pos rfl, List.getElem?_set_ne (by omega), ptsOf_snoc_self, hp0]
        refine ⟨hn, ?_⟩
        rw [List.getElem?_append_right (by simp)]
        simp [pts]
      · have hy' : y ∈ seenK (d.map (·.1)) := by rcases hy with h | h; exact h; exact absurd h hyx
        rw [if_neg hyx, ptsOf_snoc_ne d p hyx]
        obtain ⟨q1, q2⟩ := h2 y hy'
        refine ⟨q1, ?_⟩
        rw [List.getElem?_set_ne (by omega), List.getElem?_append_left (by simpa using hidx y hy'), List.getElem?_set_ne (by omega), q2]
    · intro y hy z hz hyz
      rw [hsn, seenK_snoc, mem_addK] at hy hz
      by_cases hyx : y = x <;> by_cases hzx : z = x <;> simp only [hyx, hzx, if_true, if_false] at hyz ⊢
      · have hz' : z ∈ seenK (d.map (·.1)) := by rcases hz with h | h; exact h; exact absurd h hzx
        have := hidx z hz'; omega
      · have hy' : y ∈ seenK (d.map (·.1)) := by rcases hy with h | h; exact h; exact absurd h hyx
        have := hidx y hy'; omega
      · have hz' : z ∈ seenK (d.map (·.1)) := by rcases hz with h | h; exact h; exact absurd h hzx
        have hy' : y ∈ seenK (d.map (·.1)) := by rcases hy with h | h; exact h; exact absurd h hyx
        exact h3 y hy' z hz' hyz
    · simp
    · intro j hj
      rw [List.getElem?_set_ne (by omega), List.getElem?_append_left (by simp; omega), List.getElem?_set_ne (by omega)]

theorem LinI.nil (S : Store) (idx : Key → Nat) : LinI S.length [] (S ++ [.map []]) idx :=
  ⟨by simp [seenK], fun x hx => by simp [seenK] at hx, fun x hx => by simp [seenK] at hx⟩

theorem belowsM_false {n : Nat} : ∀ {l : List (AV × AV)} {e : AV × AV}, e ∈ l → below n e.2 = false → belowsM n l = false
  | [], _, h, _ => by cases h
  | a :: l, e, h, hb => by
    simp only [belowsM, Bool.and_eq_false_iff]
    rcases List.mem_cons.1 h with rfl | h
    · exact .inl hb
    · exact .inr (belowsM_false h hb)

theorem entsBelow_false {n : Nat} : ∀ {l : List Ent} {e : Ent}, e ∈ l → entBelow n e = false → entsBelow n l = false
  | [], _, h, _ => by cases h
  | a :: l, e, h, hb => by
    simp only [entsBelow, Bool.and_eq_false_iff]
    rcases List.mem_cons.1 h with rfl | h
    · exact .inl hb
    · exact .inr (entsBelow_false h hb)

/-- The store is not cut back: the map points behind. -/
theorem LinI.next {n m : Nat} {d : List (Key × Pt)} {S : Store} {idx : Key → Nat} (h : LinI n d S idx) (hm : n < m) {x : Key} (hx : x ∈ seenK (d.map (·.1))) (hi : m ≤ idx x) (vs : List AV) : nextS n m vs S = some (vs, S) := by
  have hn : n < S.length := (List.getElem?_eq_some_iff.1 h.map).1
  have hb : entsBelow m ((S.take m).drop n) = false := by
    refine entsBelow_false (e := .map ((seenK (d.map (·.1))).map (entL d idx))) ?_ ?_
    · have : ((S.take m).drop n)[0]? = some (.map ((seenK (d.map (·.1))).map (entL d idx))) := by
        rw [List.getElem?_drop, List.getElem?_take, if_pos (by omega)]
        exact h.map
      exact List.mem_of_getElem? this
    · simp only [entBelow]
      exact belowsM_false (e := entL d idx x) (List.mem_map.2 ⟨x, hx, rfl⟩) (by simp only [entL, below]; exact blt_false hi)
  simp [nextS, hb]

/-- The map with its lines in order. -/
structure LinesOf (n : Nat) (l : List Rep) (S : Store) (idx : Key → Nat) : Prop where
  map : S[n]? = some (.map ((seenK ((allR l 0).map (·.1))).map (entL (allR l 0) idx)))
  obj : ∀ x ∈ seenK ((allR l 0).map (·.1)), n < idx x ∧ S[idx x]? = some (.obj (pts (lineP l x)).flatten)

end Go.Abs

/-
  What timeline's lines answers.
-/
namespace Go.Proofs.YtlilahgndpdkfaaDoor
open Go Go.Abs

/-- What holds of the store while the map is made. -/
structure MakeI (S0 : Store) (d : List (Key × Pt)) (S : Store) (idx : Key → Nat) : Prop where
  lin : LinI S0.length d S idx
  low : ∀ j, j < S0.length → S[j]? = S0[j]?

theorem MakeI.lt {S0 : Store} {d : List (Key × Pt)} {S : Store} {idx : Key → Nat} (h : MakeI S0 d S idx) : S0.length < S.length := (List.getElem?_eq_some_iff.1 h.lin.map).1

set_option maxHeartbeats 1000000 in
theorem lines_inner {S0 S1 : Store} {d : List (Key × Pt)} {i : Nat} {r : Rep} {idx : Key → Nat} (t14 : AV) (h : MakeI S0 d S1 idx) (hd : d.length + r.rd.length ≤ 1000000) :
    ∃ S2 idx2, iter (fun s => F34_L2 call S0.length (.map S0.length) (i64 i) (.ip (repR r) 0) t14 (.sl (rds r.rd) .none) (i64 r.rd.length) (s.1.getD 0 .u) s.2) ([i64 0], S1) = some (.exit 2, [], S2) ∧
      MakeI S0 (d ++ entR i r) S2 idx2 ∧ (S2 = S1 ∨ ∃ x ∈ seenK ((d ++ entR i r).map (·.1)), S1.length ≤ idx2 x) := by
  have key := iter_to (step := fun s => F34_L2 call S0.length (.map S0.length) (i64 i) (.ip (repR r) 0) t14 (.sl (rds r.rd) .none) (i64 r.rd.length) (s.1.getD 0 .u) s.2)
    (fun k s => ∃ S idx2, s = ([i64 (k : Nat)], S) ∧ MakeI S0 (d ++ (entR i r).take k) S idx2 ∧ S1.length ≤ S.length ∧ (S = S1 ∨ ∃ x ∈ seenK ((d ++ (entR i r).take k).map (·.1)), S1.length ≤ idx2 x))
    (fun q => ∃ S2 idx2, q = (.exit 2, [], S2) ∧ MakeI S0 (d ++ entR i r) S2 idx2 ∧ (S2 = S1 ∨ ∃ x ∈ seenK ((d ++ entR i r).map (·.1)), S1.length ≤ idx2 x)) r.rd.length
    (fun k s hk ⟨S, idx2, hs, hm, hle, hor⟩ => by
      subst hs
      have hlt : (k : Int) < (r.rd.length : Int) := by omega
      have w1 : IntKind.i64.wrap ((k : Int) + 1) = (k : Int) + 1 := wrap_in (by unfold In64; omega)
      have hat : at? (rds r.rd) (k : Int) = some [i64 (r.rd[k]).1, i64 (r.rd[k]).2] := by rw [at_nat]; simp [rds, hk]
      have hke : k < (entR i r).length := by simpa [entR] using hk
      have htk : (entR i r).take (k + 1) = (entR i r).take k ++ [((r.name, (r.rd[k]).1), ⟨i, r.time, (r.rd[k]).2⟩)] := by
        rw [List.take_succ_eq_append_getElem hke]; simp [entR]
      obtain ⟨v0, st, T1, v2, T2, T3, idx3, e1, e2, e3, e4, e5, e6, e7, e8⟩ := hm.lin.add (r.name, (r.rd[k]).1) ⟨i, r.time, (r.rd[k]).2⟩ (by
        rw [List.length_append, List.length_take]; omega)
      simp only [kvS, ptR] at e1 e2
      rw [List.append_assoc, ← htk] at e4
      have hx : (r.name, (r.rd[k]).1) ∈ seenK ((d ++ (entR i r).take (k + 1)).map (·.1)) := by rw [mem_seenK, htk]; simp
      have hnx := e4.next (m := S.length) hm.lt hx e7 [.int .i64 ((k : Int) + 1)]
      refine ⟨([i64 ((k + 1 : Nat) : Int)], T3), ?_, T3, idx3, rfl, ⟨e4, fun j hj => (e6 j hj).trans (hm.low j hj)⟩, Nat.le_trans hle e5, .inr ⟨_, hx, Nat.le_trans hle e7⟩⟩
      simp [F34_L2, hlt, indexAV, hat, repR, buildV, fillC, bsliceV, immRows, e1, e2, e3, extractV, w1, hnx])
    (fun s ⟨S, idx2, hs, hm, hle, hor⟩ => by
      subst hs
      have : (entR i r).take r.rd.length = entR i r := List.take_of_length_le (by simp [entR])
      rw [this] at hm hor
      exact ⟨_, by simp [F34_L2], S, idx2, rfl, hm, hor⟩) 0 ([i64 0], S1) (Nat.zero_le _) ⟨S1, idx, rfl, by simpa using h, Nat.le_refl _, .inl rfl⟩
  obtain ⟨q, h1, S2, idx2, rfl, h2, h3⟩ := key
  exact ⟨S2, idx2, h1, h2, h3⟩

theorem allR_length_le : ∀ (l : List Rep) (i : Nat) {m : Nat}, (∀ r ∈ l, r.rd.length ≤ m) → (allR l i).length ≤ l.length * m
  | [], _, _, _ => by simp [allR]
  | r :: l, i, m, h => by
    have h1 := allR_length_le l (i + 1) fun r hr => h r (by simp [hr])
    have h2 := h r (by simp)
    simp only [allR, List.length_append, entR, List.length_map, List.length_cons, Nat.add_mul, Nat.one_mul]
    omega

theorem lines_outer {S0 : Store} {l : List Rep} {t : Tok} (hl : (allR l 0).length ≤ 1000000) (hl2 : l.length ≤ 1000000) :
    ∃ S2 idx2, iter (fun s => F34_L1 call S0.length (.map S0.length) (.sl (reps l) t) (i64 l.length) (s.1.getD 0 .u) s.2) ([i64 0], S0 ++ [.map []]) = some (.exit 0, [], S2) ∧ MakeI S0 (allR l 0) S2 idx2 := by
  have key := iter_to (step := fun s => F34_L1 call S0.length (.map S0.length) (.sl (reps l) t) (i64 l.length) (s.1.getD 0 .u) s.2)
    (fun k s => ∃ S idx2, s = ([i64 (k : Nat)], S) ∧ MakeI S0 (allR (l.take k) 0) S idx2)
    (fun q => ∃ S2 idx2, q = (.exit 0, [], S2) ∧ MakeI S0 (allR l 0) S2 idx2) l.length
    (fun k s hk ⟨S, idx2, hs, hm⟩ => by
      subst hs
      have hlt : (k : Int) < (l.length : Int) := by omega
      have w1 : IntKind.i64.wrap ((k : Int) + 1) = (k : Int) + 1 := wrap_in (by unfold In64; omega)
      have hat := at_reps hk
      have htk := allR_take hk
      have hlen : (allR (l.take k) 0).length + l[k].rd.length ≤ 1000000 := by
        have h1 : allR l 0 = allR (l.take (k + 1)) 0 ++ allR (l.drop (k + 1)) (0 + (l.take (k + 1)).length) := by rw [← allR_append, List.take_append_drop]
        rw [h1, htk] at hl
        simp only [List.length_append, entR, List.length_map] at hl
        omega
      obtain ⟨S2, idx3, h1, h2, h3⟩ := lines_inner (i64 (k : Nat)) hm hlen (i := k) (r := l[k])
      rw [← htk] at h2 h3
      have hnx : nextS S0.length S.length [.int .i64 ((k : Int) + 1)] S2 = some ([.int .i64 ((k : Int) + 1)], S2) := by
        rcases h3 with h3 | ⟨x, hx, hxi⟩
        · rw [h3]; exact nextS_same
        · exact h2.lin.next hm.lt hx hxi _
      refine ⟨([i64 ((k + 1 : Nat) : Int)], S2), ?_, S2, idx3, rfl, h2⟩
      simp only [i64, repR] at h1
      simp [-List.getD_eq_getElem?_getD, List.getD_cons_zero, F34_L1, hlt, indexAV, hat, repR, h1, w1, hnx])
    (fun s ⟨S, idx2, hs, hm⟩ => by
      subst hs
      rw [List.take_length] at hm
      exact ⟨_, by simp [F34_L1], S, idx2, rfl, hm⟩) 0 ([i64 0], S0 ++ [.map []]) (Nat.zero_le _) ⟨S0 ++ [.map []], fun _ => 0, rfl, by simpa [allR] using LinI.nil S0 _, fun j hj => by rw [List.getElem?_append_left hj]⟩
  obtain ⟨q, h1, S2, idx2, rfl, h2⟩ := key
  exact ⟨S2, idx2, h1, h2⟩

/-- The store when all lines are in order. -/
noncomputable def sortedS (l : List Rep) (S : Store) (idx : Key → Nat) : Store :=
  (List.range S.length).map (fun j => match (seenK ((allR l 0).map (·.1))).find? fun x => idx x == j with
    | some x => .obj (pts (lineP l x)).flatten
    | none => S.getD j .dead) ++ [.dead]

/-- While the lines are put in order: those at the places 'seen' are. -/
structure SortI (l : List Rep) (Sb : Store) (idx : Key → Nat) (n : Nat) (seen : List Nat) (S : Store) : Prop where
  len : S.length = Sb.length + 1
  it : S[Sb.length]? = some (.iter n (seenK ((allR l 0).map (·.1))).length seen)
  done : ∀ q (hq : q < (seenK ((allR l 0).map (·.1))).length), q ∈ seen → S[idx ((seenK ((allR l 0).map (·.1)))[q])]? = some (.obj (pts (lineP l ((seenK ((allR l 0).map (·.1)))[q]))).flatten)
  rest : ∀ j, j < Sb.length → (∀ q (hq : q < (seenK ((allR l 0).map (·.1))).length), q ∈ seen → idx ((seenK ((allR l 0).map (·.1)))[q]) ≠ j) → S[j]? = Sb[j]?

theorem sortI_end {l : List Rep} {S0 Sb : Store} {idx : Key → Nat} {seen : List Nat} {S : Store} (hm : MakeI S0 (allR l 0) Sb idx) (h : SortI l Sb idx S0.length seen S) (hall : ∀ q, q < (seenK ((allR l 0).map (·.1))).length → q ∈ seen) :
    S.set Sb.length .dead = sortedS l Sb idx := by
  apply List.ext_getElem?
  intro j
  unfold sortedS
  by_cases hj : j < Sb.length
  · rw [List.getElem?_set_ne (by omega), List.getElem?_append_left (by simpa using hj), List.getElem?_map, List.getElem?_range hj]
    simp only [Option.map_some]
    cases hf : (seenK ((allR l 0).map (·.1))).find? fun x => idx x == j with
    | some x =>
      have hx := List.mem_of_find?_eq_some hf
      have hxj := List.find?_some hf
      simp only [beq_iff_eq] at hxj
      obtain ⟨q, hq, rfl⟩ := List.getElem_of_mem hx
      have := h.done q hq (hall q hq)
      rw [hxj] at this
      exact this
    | none =>
      rw [h.rest j hj fun q hq _ e => by
        have := List.find?_eq_none.1 hf _ (List.getElem_mem hq)
        simp [e] at this]
      simp [List.getD_eq_getElem?_getD, hj]
  · by_cases hj2 : j = Sb.length
    · subst hj2
      rw [List.getElem?_set_self (by rw [h.len]; omega), List.getElem?_append_right (by simp)]
      simp
    · rw [List.getElem?_eq_none (by simp [h.len]; omega), List.getElem?_eq_none (by simp; omega)]

theorem sortedS_lines {l : List Rep} {S0 Sb : Store} {idx : Key → Nat} (hm : MakeI S0 (allR l 0) Sb idx) : LinesOf S0.length l (sortedS l Sb idx) idx ∧ (∀ j, j < S0.length → (sortedS l Sb idx)[j]? = S0[j]?) ∧ S0.length < (sortedS l Sb idx).length := by
  have hlt := hm.lt
  have low : ∀ j, j ≤ S0.length → (sortedS l Sb idx)[j]? = Sb[j]? := fun j hj => by
    unfold sortedS
    rw [List.getElem?_append_left (by simp; omega), List.getElem?_map, List.getElem?_range (by omega)]
    simp only [Option.map_some]
    rw [List.find?_eq_none.2 fun x hx => by
      have := (hm.lin.obj x hx).1
      simp; omega]
    simp [List.getD_eq_getElem?_getD, show j < Sb.length by omega]
  refine ⟨⟨by rw [low _ (Nat.le_refl _)]; exact hm.lin.map, fun x hx => ⟨(hm.lin.obj x hx).1, ?_⟩⟩, fun j hj => by rw [low j (by omega)]; exact hm.low j hj, by simp [sortedS]; omega⟩
  have hi : idx x < Sb.length := (List.getElem?_eq_some_iff.1 (hm.lin.obj x hx).2).1
  unfold sortedS
  rw [List.getElem?_append_left (by simpa using hi), List.getElem?_map, List.getElem?_range hi]
  simp only [Option.map_some]
  cases hf : (seenK ((allR l 0).map (·.1))).find? fun y => idx y == idx x with
  | some y =>
    have hy := List.mem_of_find?_eq_some hf
    have hyx := List.find?_some hf
    simp only [beq_iff_eq] at hyx
    rw [hm.lin.inj y hy x hx hyx]
  | none =>
    have := List.find?_eq_none.1 hf x hx
    simp at this

set_option maxHeartbeats 2000000 in
theorem s_lines {l : List Rep} {t : Tok} (hl : (allR l 0).length ≤ 1000000) (hl2 : l.length ≤ 1000000) (hT : ∀ x, ((ptsOf (allR l 0) x).map (·.time)).Nodup) (S : Store) :
    ∃ S' idx, call 34 [.sl (reps l) t] S = some (.map S.length, S') ∧ LinesOf S.length l S' idx ∧ (∀ j, j < S.length → S'[j]? = S[j]?) ∧ S.length < S'.length := by
  obtain ⟨Sb, idx, h1, hm⟩ := lines_outer (S0 := S) (l := l) (t := t) hl hl2
  obtain ⟨r1, r2, r3⟩ := sortedS_lines hm
  refine ⟨sortedS l Sb idx, idx, ?_, r1, r2, r3⟩
  rw [k34]
  unfold F34
  have hb : Nat.blt S.length S.length = false := blt_false (Nat.le_refl _)
  have hnd := seenK_nodup ((allR l 0).map (·.1))
  have hir : ∀ x ∈ seenK ((allR l 0).map (·.1)), idx x < Sb.length := fun x hx => (List.getElem?_eq_some_iff.1 (hm.lin.obj x hx).2).1
  have hlt := hm.lt
  -- the walk
  have walk := rangeK_rule (ρ := AV × Store) (it := .ptr Sb.length 0) (body := fun w43 w44 v40 S41 K42 =>
      condK w44
        ((entryV (.ptr Sb.length 0) S41).bind fun v45 =>
        (extractV v45 1).bind fun v46 =>
        (argVs [v46, (.clo 52 [])]).bind fun v47 => (call 51 v47 S41).bind fun v48 =>
        K42 [] v48.2)
        (finish false S.length [(.map S.length)] S41)) (r := (.map S.length, sortedS l Sb idx))
    (fun n vs S1 => vs = [] ∧ ∃ seen : List Nat, seen.Nodup ∧ (∀ q ∈ seen, q < (seenK ((allR l 0).map (·.1))).length) ∧ n + seen.length = (seenK ((allR l 0).map (·.1))).length ∧ SortI l Sb idx S.length seen S1)
    (fun vs S1 ⟨hvs, seen, s1, s2, s3, s4⟩ => by
      have hmap : S1[S.length]? = some (.map ((seenK ((allR l 0).map (·.1))).map (entL (allR l 0) idx))) := by
        rw [s4.rest _ hlt fun q hq _ => by have := (hm.lin.obj _ (List.getElem_mem hq)).1; omega]
        exact hm.lin.map
      have hlf := left_length s1 s2
      have hall : ∀ q, q < (seenK ((allR l 0).map (·.1))).length → q ∈ seen := by
        intro q hq
        have : ((List.range (seenK ((allR l 0).map (·.1))).length).filter fun j => !memN j seen) = [] := List.eq_nil_of_length_eq_zero (by omega)
        have := List.filter_eq_nil_iff.1 this q (by simpa using hq)
        simpa [memN_eq] using this
      refine ⟨?_, ?_⟩
      · rw [stepI_eq s4.it hmap (by simp)]
        rw [List.eq_nil_of_length_eq_zero (l := (List.range (seenK ((allR l 0).map (·.1))).length).filter fun j => !memN j seen) (by omega)]
        rfl
      · have hk : killI (.ptr Sb.length 0) S1 = sortedS l Sb idx := sortI_end hm s4 hall
        rw [hk]
        simp only [condK, Bool.false_eq_true, if_false]
        simp [finish, hb, noOsl])
    (fun n vs S1 ⟨hvs, seen, s1, s2, s3, s4⟩ => by
      have hmap : S1[S.length]? = some (.map ((seenK ((allR l 0).map (·.1))).map (entL (allR l 0) idx))) := by
        rw [s4.rest _ hlt fun q hq _ => by have := (hm.lin.obj _ (List.getElem_mem hq)).1; omega]
        exact hm.lin.map
      have hlf := left_length s1 s2
      refine ⟨_, stepI_eq s4.it hmap (by simp), ?_, ?_⟩
      · intro h
        have := congrArg List.length h
        simp only [List.length_map, List.length_nil] at this
        omega
      · intro c hc K hK
        obtain ⟨q, hq, rfl⟩ := List.mem_map.1 hc
        simp only [List.mem_filter, List.mem_range, memN_eq, Bool.not_eq_true', decide_eq_false_iff_not] at hq
        obtain ⟨hq1, hq2⟩ := hq
        -- the line that is met
        have hx := List.getElem_mem hq1
        generalize hxe : (seenK ((allR l 0).map (·.1)))[q] = x at hx
        have hix := hir x hx
        have hne : idx x ≠ Sb.length := by omega
        have hself : S1[idx x]? = some (.obj (pts (ptsOf (allR l 0) x)).flatten) := by
          rw [s4.rest _ hix fun p hp hps e => by
            have h4 := hm.lin.inj _ (List.getElem_mem hp) x hx e
            rw [← hxe] at h4
            have := (List.getElem_inj (h₀ := hp) (h₁ := hq1) hnd).1 h4
            subst this
            exact hq2 hps]
          exact (hm.lin.obj x hx).2
        have hlenS : Sb.length < S1.length := by rw [s4.len]; omega
        have hent : entryV (.ptr Sb.length 0) (S1.set Sb.length (.iter S.length (seenK ((allR l 0).map (·.1))).length (seen ++ [q]))) = some (.tup [kvS x, .osl (idx x) 0 (ptsOf (allR l 0) x).length 3]) := by
          simp only [entryV, List.getElem?_set_self hlenS]
          rw [List.getElem?_set_ne (by omega), hmap]
          simp only [List.getLast?_concat, List.length_map, if_true, List.getElem?_map, List.getElem?_eq_getElem hq1, hxe, Option.map_some, Option.bind_some]
          rfl
        have hsort := sortV_line (S := S1.set Sb.length (.iter S.length (seenK ((allR l 0).map (·.1))).length (seen ++ [q]))) (i := idx x) (f := 52) (l := ptsOf (allR l 0) x) (by rw [List.getElem?_set_ne (by omega)]; exact hself) (ptsOf_ne hx) (by have := ptsOf_le (allR l 0) x; omega) (hT x)
        have hcall : call 51 [.osl (idx x) 0 (ptsOf (allR l 0) x).length 3, .clo 52 []] (S1.set Sb.length (.iter S.length (seenK ((allR l 0).map (·.1))).length (seen ++ [q]))) = some (.tup [], (S1.set Sb.length (.iter S.length (seenK ((allR l 0).map (·.1))).length (seen ++ [q]))).set (idx x) (.obj (pts (lineP l x)).flatten)) := by
          rw [k51]
          exact hsort
        simp only [condK, if_true, hent, Option.bind_some, extractV, List.getElem?_cons_succ, List.getElem?_cons_zero, argVs, argV, hcall]
        refine hK [] _ ⟨rfl, seen ++ [q], ?_, ?_, by simp; omega, ?_, ?_, ?_, ?_⟩
        · rw [List.nodup_append]
          exact ⟨s1, by simp, fun a ha b hb => by simp at hb; subst hb; intro e; subst e; exact hq2 ha⟩
        · intro p hp
          rcases List.mem_append.1 hp with hp | hp
          · exact s2 p hp
          · simp at hp; subst hp; exact hq1
        · simp [s4.len]
        · rw [List.getElem?_set_ne hne, List.getElem?_set_self hlenS]
        · intro p hp hps
          by_cases hpq : p = q
          · subst hpq
            rw [hxe, List.getElem?_set_self (by simp; omega)]
          · have hpx : idx ((seenK ((allR l 0).map (·.1)))[p]) ≠ idx x := fun e => hpq (by
              have h4 := hm.lin.inj _ (List.getElem_mem hp) x hx e
              rw [← hxe] at h4
              exact (List.getElem_inj (h₀ := hp) (h₁ := hq1) hnd).1 h4)
            have hpi := hir _ (List.getElem_mem hp)
            rw [List.getElem?_set_ne (Ne.symm hpx), List.getElem?_set_ne (by omega)]
            refine s4.done p hp ?_
            rcases List.mem_append.1 hps with h | h
            · exact h
            · simp at h; exact absurd h hpq
        · intro j hj hall
          have h5 := hall q hq1 (by simp)
          rw [hxe] at h5
          rw [List.getElem?_set_ne h5, List.getElem?_set_ne (by omega)]
          exact s4.rest j hj fun p hp hps => hall p hp (by simp [hps]))
  have h2 := hm.lin.map
  have hst := stepI_eq (S := Sb ++ [.iter S.length (seenK ((allR l 0).map (·.1))).length []]) (i := Sb.length) (m := S.length) (n := (seenK ((allR l 0).map (·.1))).length) (seen := []) (by simp) (by rw [List.getElem?_append_left hlt]; exact h2) (by simp)
  have hleft : leftI (.ptr Sb.length 0) (Sb ++ [.iter S.length (seenK ((allR l 0).map (·.1))).length []]) = (seenK ((allR l 0).map (·.1))).length := by
    unfold leftI
    rw [hst]
    simp only [Option.getD_some, List.length_map]
    have := left_length (n := (seenK ((allR l 0).map (·.1))).length) (seen := []) .nil (fun _ h => by cases h)
    simpa only [List.length_nil, Nat.add_zero] using this
  have hw := walk (seenK ((allR l 0).map (·.1))).length [] (Sb ++ [.iter S.length (seenK ((allR l 0).map (·.1))).length []]) ⟨rfl, [], .nil, fun _ h => (by cases h), rfl, by simp, by simp, fun _ _ h => (by cases h), fun j hj _ => by rw [List.getElem?_append_left hj]⟩
  have hrv : rangeV (.map S.length) Sb = some (.ptr Sb.length 0, Sb ++ [.iter S.length (seenK ((allR l 0).map (·.1))).length []]) := by
    simp only [rangeV, h2, List.length_map]
  simp only [i64, List.length_map] at h1
  simp only [List.getD_cons_zero, lenV, Option.bind_some, i64, reps_length, h1, exK_exit, Nat.beq_refl, cond_true, hrv, hleft]
  exact hw

end Go.Proofs.YtlilahgndpdkfaaDoor

/-
  What holds of reports that are examined without an error.
-/
namespace Go.Abs
open Go

theorem checkP_zero {r : Rd} (h : checkP r = 0) : 1 ≤ r.1 ∧ r.1 ≤ 11 ∧ lo r.1 ≤ r.2 ∧ r.2 ≤ hi r.1 := by
  unfold checkP at h
  split at h
  · cases h
  · split at h
    · cases h
    · omega

theorem lo_ge {c : Int} (h1 : 1 ≤ c) (h2 : c ≤ 11) : -1000 ≤ lo c ∧ hi c ≤ 11000 ∧ lo c ≤ hi c := by
  rcases elem_cases h1 h2 with rfl | rfl | rfl | rfl | rfl | rfl | rfl | rfl | rfl | rfl | rfl <;> decide

theorem checkP_cases (r : Rd) : checkP r = 0 ∨ checkP r = 1 ∨ checkP r = 4 := by
  unfold checkP; split
  · exact .inr (.inr rfl)
  · split
    · exact .inr (.inl rfl)
    · exact .inl rfl

theorem validP_zero {l : List Rd} (h : validP l = 0) : (∀ r ∈ l, checkP r = 0) ∧ incrR l = true := by
  unfold validP at h
  split at h
  · cases h
  · rename_i h4
    split at h
    · cases h
    · rename_i h1
      split at h
      · rename_i hi
        refine ⟨fun r hr => ?_, hi⟩
        simp only [List.any_eq_true, not_exists, not_and, beq_iff_eq] at h4 h1
        rcases checkP_cases r with h | h | h
        · exact h
        · exact absurd h (h1 r hr)
        · exact absurd h (h4 r hr)
      · cases h

theorem incrR_pairwise {l : List Rd} (h : incrR l = true) : l.Pairwise fun a b => a.1 < b.1 := by
  induction l with
  | nil => exact .nil
  | cons x l ih =>
    cases l with
    | nil => simp
    | cons y l =>
      simp only [incrR, Bool.and_eq_true, decide_eq_true_eq] at h ih
      have ih := ih (by simpa using h.2)
      refine List.Pairwise.cons (fun z hz => ?_) ih
      rcases List.mem_cons.1 hz with rfl | hz
      · exact h.1
      · have := (List.pairwise_cons.1 ih).1 z hz; omega

/-- Reports without an error. -/
structure Good (l : List Rep) : Prop where
  valid : ∀ r ∈ l, validP r.rd = 0
  time : ∀ r ∈ l, 0 ≤ r.time ∧ r.time ≤ 52595999
  once : (l.map keyR).Nodup

theorem mem_allR {l : List Rep} {i : Nat} {e : Key × Pt} : e ∈ allR l i ↔ ∃ j r x, l[j]? = some r ∧ x ∈ r.rd ∧ e = ((r.name, x.1), ⟨((i + j : Nat) : Int), r.time, x.2⟩) := by
  induction l generalizing i with
  | nil => simp [allR]
  | cons a l ih =>
    simp only [allR, List.mem_append, ih, entR, List.mem_map]
    constructor
    · rintro (⟨x, hx, rfl⟩ | ⟨j, r, x, h1, h2, rfl⟩)
      · exact ⟨0, a, x, rfl, hx, rfl⟩
      · exact ⟨j + 1, r, x, by simpa using h1, h2, by rw [show i + 1 + j = i + (j + 1) by omega]⟩
    · rintro ⟨j, r, x, h1, h2, rfl⟩
      cases j with
      | zero =>
        simp only [List.getElem?_cons_zero, Option.some.injEq] at h1
        subst h1
        exact .inl ⟨x, h2, rfl⟩
      | succ j => exact .inr ⟨j, r, x, by simpa using h1, h2, by rw [show i + 1 + j = i + (j + 1) by omega]⟩

theorem mem_ptsOf {d : List (Key × Pt)} {x : Key} {p : Pt} : p ∈ ptsOf d x ↔ (x, p) ∈ d := by
  simp only [ptsOf, List.mem_map, List.mem_filter, beq_iff_eq]
  constructor
  · rintro ⟨⟨a, b⟩, ⟨h1, rfl⟩, rfl⟩; exact h1
  · intro h; exact ⟨(x, p), ⟨h, rfl⟩, rfl⟩

theorem ent_once {r : Rep} {i : Nat} {x : Key} (h : validP r.rd = 0) : (ptsOf (entR i r) x).length ≤ 1 := by
  have hp := incrR_pairwise (validP_zero h).2
  unfold entR ptsOf
  rw [List.length_map, List.filter_map, List.length_map]
  generalize r.rd = l at hp
  induction l with
  | nil => simp
  | cons a l ih =>
    have hp' := List.pairwise_cons.1 hp
    rw [List.filter_cons]
    split
    · rename_i hax
      rw [List.filter_eq_nil_iff.2 fun b hb => ?_]
      · simp
      · have := hp'.1 b hb
        simp only [Function.comp, beq_iff_eq, Prod.ext_iff] at hax ⊢
        omega
    · exact ih hp'.2

theorem times_nodup : ∀ {l : List Rep} (i : Nat), (∀ r ∈ l, validP r.rd = 0) → (l.map keyR).Nodup → ∀ x, ((ptsOf (allR l i) x).map (·.time)).Nodup
  | [], _, _, _, x => by simp [allR, ptsOf]
  | r :: l, i, hv, hn, x => by
    rw [List.map_cons, List.nodup_cons] at hn
    have ih := times_nodup (i + 1) (fun r hr => hv r (by simp [hr])) hn.2 x
    rw [allR, ptsOf_append, List.map_append, List.nodup_append]
    have h1 := ent_once (i := i) (x := x) (hv r (by simp))
    refine ⟨?_, ih, fun a ha b hb hab => ?_⟩
    · match hm : ptsOf (entR i r) x, h1 with
      | [], _ => simp
      | [p], _ => simp
      | _ :: _ :: _, h => rw [hm] at h1; simp at h1
    · obtain ⟨p, hp, rfl⟩ := List.mem_map.1 ha
      obtain ⟨p', hp', rfl⟩ := List.mem_map.1 hb
      rw [mem_ptsOf] at hp hp'
      simp only [entR, List.mem_map, Prod.mk.injEq] at hp
      obtain ⟨y, hy, hyx, rfl⟩ := hp
      obtain ⟨j, r', z, h2, h3, h4⟩ := mem_allR.1 hp'
      simp only [Prod.mk.injEq] at h4
      obtain ⟨h4, rfl⟩ := h4
      refine hn.1 (List.mem_map.2 ⟨r', List.mem_of_getElem? h2, ?_⟩)
      have : r.name = r'.name := by rw [h4] at hyx; exact (Prod.ext_iff.1 hyx).1
      unfold keyR
      rw [this]
      simp only at hab
      rw [hab]

theorem Good.times {l : List Rep} (h : Good l) (x : Key) : ((ptsOf (allR l 0) x).map (·.time)).Nodup := times_nodup 0 h.valid h.once x

theorem Good.pts {l : List Rep} (h : Good l) {x : Key} {p : Pt} (hp : p ∈ ptsOf (allR l 0) x) : p.Ok ∧ 1 ≤ x.2 ∧ x.2 ≤ 11 := by
  rw [mem_ptsOf] at hp
  obtain ⟨j, r, y, h1, h2, h3⟩ := mem_allR.1 hp
  cases h3
  have hr := List.mem_of_getElem? h1
  have ht := h.time r hr
  obtain ⟨c1, c2, c3, c4⟩ := checkP_zero ((validP_zero (h.valid r hr)).1 y h2)
  obtain ⟨b1, b2, _⟩ := lo_ge c1 c2
  exact ⟨⟨ht.1, ht.2, by simp only; omega, by simp only; omega⟩, c1, c2⟩

theorem Good.line {l : List Rep} (h : Good l) {x : Key} {p : Pt} (hp : p ∈ lineP l x) : p.Ok ∧ 1 ≤ x.2 ∧ x.2 ≤ 11 := h.pts ((sortT_perm _).mem_iff.1 hp)

theorem lineP_length (l : List Rep) (x : Key) : (lineP l x).length = (ptsOf (allR l 0) x).length := (sortT_perm _).length_eq

theorem firstP_zero {l : List Rep} : firstP l = 0 ↔ ∀ r ∈ l, validP r.rd = 0 := by
  induction l with
  | nil => simp [firstP]
  | cons a l ih =>
    unfold firstP
    by_cases h : validP a.rd = 0
    · simp [h, ih]
    · simp [h]

theorem firstP_cases (l : List Rep) : firstP l = 0 ∨ firstP l = 1 ∨ firstP l = 4 ∨ firstP l = 8 := by
  induction l with
  | nil => exact .inl rfl
  | cons a l ih =>
    unfold firstP
    split
    · exact ih
    · unfold validP
      split
      · simp
      · split
        · simp
        · split <;> simp

theorem examP_zero {l : List Rep} {k : Ctl} (h : examP l k = 0) : Good l ∧ possP k.steps = true ∧ possP k.spikes = true := by
  unfold examP at h
  split at h
  · rename_i hp
    simp only [Bool.and_eq_true] at hp
    split at h
    · rename_i hf
      split at h
      · rename_i ht
        split at h
        · cases h
        · rename_i h2
          refine ⟨⟨firstP_zero.1 hf, fun r hr => ?_, ?_⟩, hp⟩
          · have := List.all_eq_true.1 ht r hr
            simpa [inP] using this
          · simpa [twiceP] using h2
      · cases h
    · rename_i hf
      exact absurd h hf
  · cases h

theorem possP_get {l : List Int} (h : possP l = true) {n : Int} (hn : n ∈ l) : 0 ≤ n ∧ n ≤ 10000 := by
  unfold possP at h
  simp only [Bool.not_eq_true', List.any_eq_false, Bool.or_eq_true, decide_eq_true_eq, not_or] at h
  have := h n hn
  omega

end Go.Abs

/-
  Flags in order.
-/
namespace Go.Abs
open Go

theorem insK_weak {ks : List Nat} (r : List Int) : ∀ l : List (List Int), l.Pairwise (fun a b => ltK (Abs.keyOf ks b) (Abs.keyOf ks a) = false) → (insK ks r l).Pairwise (fun a b => ltK (Abs.keyOf ks b) (Abs.keyOf ks a) = false)
  | [], _ => by simp [insK]
  | x :: l, h => by
    have h' := List.pairwise_cons.1 h
    simp only [insK]
    cases hc : ltK (Abs.keyOf ks r) (Abs.keyOf ks x) with
    | true =>
      refine List.Pairwise.cons (fun y hy => ?_) h
      rw [Bool.eq_false_iff]
      intro hy2
      rcases List.mem_cons.1 hy with rfl | hy
      · have := ltK_trans hc hy2
        rw [ltK_irrefl] at this; cases this
      · have := ltK_trans hy2 hc
        rw [h'.1 y hy] at this; cases this
    | false =>
      refine List.Pairwise.cons (fun y hy => ?_) (insK_weak r l h'.2)
      rcases List.mem_cons.1 ((insK_perm ks r l).mem_iff.1 hy) with rfl | hy
      · exact hc
      · exact h'.1 y hy

theorem sortK_weak {ks : List Nat} : ∀ l : List (List Int), (sortK ks l).Pairwise (fun a b => ltK (Abs.keyOf ks b) (Abs.keyOf ks a) = false)
  | [] => .nil
  | r :: l => insK_weak r _ (sortK_weak l)

theorem sortK_eq {ks : List Nat} {l s : List (List Int)} (hs : s.Pairwise fun a b => ltK (Abs.keyOf ks a) (Abs.keyOf ks b) = true) (hp : s.Perm l) : sortK ks l = s :=
  sorted_unique (lt := fun a b => ltK (Abs.keyOf ks a) (Abs.keyOf ks b)) hs (sortK_weak l) ((sortK_perm ks l).trans hp.symm)

/-- By report, then by element. -/
def lt2 (a b : Int × Int) : Prop := a.1 < b.1 ∨ (a.1 = b.1 ∧ a.2 < b.2)

def flagI (f : Int × Int) : List Int := [f.1, f.2, 4]
def flagR (f : Int × Int) : List AV := [i64 f.1, i64 f.2, i64 4]
def flagRows (l : List (Int × Int)) : List (List AV) := l.map flagR
@[simp] theorem flagRows_length {l : List (Int × Int)} : (flagRows l).length = l.length := by simp [flagRows]
theorem flagRows_row {l : List (Int × Int)} : ∀ x ∈ flagRows l, x.length = 3 ∧ imms x = some x := by
  intro x hx
  obtain ⟨f, _, rfl⟩ := List.mem_map.1 hx
  simp [flagR]
theorem flagRows_ints (l : List (Int × Int)) : flagRows l = (l.map flagI).map fun r => r.map fun n => AV.int .i64 n := by simp [flagRows, flagR, flagI, Function.comp_def]

theorem ltK_flag {a b : Int × Int} (h : lt2 a b) : ltK (Abs.keyOf [0, 1] (flagI a)) (Abs.keyOf [0, 1] (flagI b)) = true := by
  simp only [Abs.keyOf, flagI, List.map_cons, List.map_nil, List.getD_cons_zero, List.getD_cons_succ, ltK, Bool.or_eq_true, decide_eq_true_eq, Bool.and_eq_true, beq_iff_eq, Bool.or_false, Bool.and_false, Bool.false_eq_true, and_false, or_false]
  exact h

theorem flags_sorted {R F : List (Int × Int)} (hF : F.Pairwise lt2) (hp : F.Perm R) : sortedBy (fun n => n) [0, 1] (flagRows R) = some (flagRows F) := by
  unfold sortedBy
  rw [flagRows_ints, intRows_map _ (fun _ => rfl)]
  have hs : (F.map flagI).Pairwise fun a b => ltK (Abs.keyOf [0, 1] a) (Abs.keyOf [0, 1] b) = true := by
    rw [List.pairwise_map]; exact hF.imp ltK_flag
  simp only [Option.bind_some]
  rw [sortK_eq hs (hp.map flagI), incrK_of hs, cond_true, ← flagRows_ints]

theorem setC_all : ∀ (cs vs : List AV), vs.length = cs.length → setC cs 0 vs = vs := by
  have gen : ∀ (vs pre cs : List AV), vs.length = cs.length → setC (pre ++ cs) pre.length vs = pre ++ vs := by
    intro vs
    induction vs with
    | nil => intro pre cs h; simp at h; simp [setC, List.eq_nil_of_length_eq_zero h.symm]
    | cons v vs ih =>
      intro pre cs h
      cases cs with
      | nil => simp at h
      | cons c cs =>
        simp only [setC]
        rw [List.set_append_right _ _ (Nat.le_refl _), Nat.sub_self, List.set_cons_zero]
        have := ih (pre ++ [v]) cs (by simpa using h)
        simpa using this
  intro cs vs h
  simpa using gen vs [] cs h

/-- The sort of the flags. -/
theorem sortV_flags {S : Store} {n f : Nat} {v : AV} {R F : List (Int × Int)} (hg : Grow n 3 S v (flagRows R)) (hF : F.Pairwise lt2) (hp : F.Perm R) (hl : R.length ≤ 1000000) :
    ∃ S', sortV 3 [0, 1] f [v, .clo f []] S = some (.tup [], S') ∧ Grow n 3 S' v (flagRows F) ∧ S'.length = S.length ∧ ∀ j, j < n → S'[j]? = S[j]? := by
  rcases hg with ⟨h1, rfl⟩ | ⟨h1, i, h2, rfl, h3⟩
  · have hR : R = [] := by simpa [flagRows] using h1
    subst hR
    have hF' : F = [] := hp.eq_nil
    subst hF'
    exact ⟨S, by simp [sortV, sortG, Nat.beq_refl], .inl ⟨rfl, rfl⟩, rfl, fun _ _ => rfl⟩
  · have hi : i < S.length := (List.getElem?_eq_some_iff.1 h3).1
    have hlen := flatten_length (sz := 3) (xs := flagRows R) fun x hx => (flagRows_row x hx).1
    have hlen2 := flatten_length (sz := 3) (xs := flagRows F) fun x hx => (flagRows_row x hx).1
    have hch := chunks_rows (sz := 3) (xs := flagRows R) (fun x hx => (flagRows_row x hx).1) []
    rw [List.append_nil] at hch
    have hpl := hp.length_eq
    have hF0 : flagRows F ≠ [] := by
      intro h
      have : F = [] := by simpa [flagRows] using h
      subst this
      have : R = [] := hp.symm.eq_nil
      subst this
      exact h1 rfl
    refine ⟨S.set i (.obj (flagRows F).flatten), ?_, .inr ⟨hF0, i, h2, by simp [hpl], List.getElem?_set_self hi⟩, by simp, fun j hj => List.getElem?_set_ne (by omega)⟩
    unfold sortV sortG
    simp only [Nat.beq_refl, Bool.and_true, cond_true, h3, List.drop_zero, hch, flags_sorted hF hp, Option.bind_some]
    rw [if_pos ⟨by rw [hlen]; omega, by simp; omega⟩, setC_all _ _ (by rw [hlen, hlen2]; simp [hpl])]

end Go.Abs

/-
  A line, its readings put in one after the other.
-/
namespace Go.Abs
open Go

/-- How many come ahead of a time. -/
def posT (t : Int) : List Pt → Nat
  | [] => 0
  | q :: l => if q.time < t then posT t l + 1 else 0

theorem posT_le (t : Int) : ∀ l, posT t l ≤ l.length
  | [] => Nat.le_refl _
  | q :: l => by
    have := posT_le t l
    simp only [posT, List.length_cons]
    split <;> omega

theorem posT_lt {t : Int} : ∀ {l : List Pt} {j : Nat} (_ : j < posT t l) (hj : j < l.length), (l[j]).time < t
  | [], _, _, hj => by simp at hj
  | q :: l, j, h, hj => by
    simp only [posT] at h
    split at h
    · rename_i hq
      cases j with
      | zero => exact hq
      | succ j => exact posT_lt (l := l) (by omega) (by simpa using hj)
    · omega

theorem posT_at {t : Int} : ∀ {l : List Pt} (h : posT t l < l.length), ¬ (l[posT t l]).time < t
  | [], h => by simp at h
  | q :: l, h => by
    by_cases hq : q.time < t
    · have e : posT t (q :: l) = posT t l + 1 := by simp [posT, hq]
      simp only [e] at h ⊢
      simp only [List.getElem_cons_succ]
      exact posT_at (by simpa using h)
    · have e : posT t (q :: l) = 0 := by simp [posT, hq]
      simp only [e]
      exact hq

def putIn (p : Pt) (l : List Pt) : List Pt := l.take (posT p.time l) ++ p :: l.drop (posT p.time l)

theorem putIn_perm (p : Pt) (l : List Pt) : (putIn p l).Perm (p :: l) := by
  unfold putIn
  have : (p :: l).Perm (p :: (l.take (posT p.time l) ++ l.drop (posT p.time l))) := by rw [List.take_append_drop]
  exact List.perm_middle.trans this.symm

theorem putIn_sorted {p : Pt} {l : List Pt} (h : l.Pairwise fun a b => a.time < b.time) (hp : ∀ q ∈ l, q.time ≠ p.time) : (putIn p l).Pairwise fun a b => a.time < b.time := by
  unfold putIn
  rw [List.pairwise_append]
  have hd : ∀ q ∈ l.drop (posT p.time l), p.time < q.time := by
    intro q hq
    obtain ⟨i, hi, rfl⟩ := List.getElem_of_mem hq
    have hil : posT p.time l + i < l.length := by simp at hi; omega
    rw [List.getElem_drop]
    have h0 := posT_at (t := p.time) (l := l) (by omega)
    have hne := hp _ (List.getElem_mem hil)
    by_cases hi0 : i = 0
    · subst hi0
      simp only [Nat.add_zero] at hne ⊢
      omega
    · have := (List.pairwise_iff_getElem.1 h) (posT p.time l) (posT p.time l + i) (by omega) hil (by omega)
      omega
  refine ⟨h.sublist (List.take_sublist _ _), List.Pairwise.cons hd (h.sublist (List.drop_sublist _ _)), fun a ha b hb => ?_⟩
  obtain ⟨i, hi, rfl⟩ := List.getElem_of_mem ha
  have hi' : i < posT p.time l ∧ i < l.length := by simp at hi; omega
  rw [List.getElem_take]
  have h1 := posT_lt hi'.1 hi'.2
  rcases List.mem_cons.1 hb with rfl | hb
  · exact h1
  · have := hd b hb; omega

/-- The one order by time. -/
theorem line_unique {l : List Rep} (h : Good l) {x : Key} {Q : List Pt} (hs : Q.Pairwise fun a b => a.time < b.time) (hp : Q.Perm (ptsOf (allR l 0) x)) : Q = lineP l x := by
  have h1 := sortT_strict (h.times x)
  refine (sorted_unique (lt := fun a b => decide (a.time < b.time)) (h1.imp fun {a b} h => by simpa using h) (hs.imp fun {a b} h => by simp; omega) (hp.trans (sortT_perm _).symm))

theorem ent_find {r : Rep} {i : Nat} {x : Key} (h : validP r.rd = 0) : ptsOf (entR i r) x = if r.name = x.1 then (match findP r.rd x.2 with | some v => [⟨i, r.time, v⟩] | none => []) else [] := by
  have hp := incrR_pairwise (validP_zero h).2
  unfold entR ptsOf findP
  generalize r.rd = l at hp
  by_cases hn : r.name = x.1
  · rw [if_pos hn]
    induction l with
    | nil => rfl
    | cons a l ih =>
      have hp' := List.pairwise_cons.1 hp
      by_cases ha : a.1 = x.2
      · have hrest : (l.map fun y => (((r.name, y.1) : Key), (⟨i, r.time, y.2⟩ : Pt))).filter (fun e => e.1 == x) = [] := by
          rw [List.filter_eq_nil_iff]
          intro e he
          obtain ⟨y, hy, rfl⟩ := List.mem_map.1 he
          have := hp'.1 y hy
          simp only [beq_iff_eq, Prod.ext_iff]
          omega
        simp only [List.map_cons, List.filter_cons, hrest]
        have : ((r.name, x.2) : Key) = x := by rw [hn]
        simp [this, ha]
      · have h1 : (((r.name, a.1) : Key) == x) = false := by simp [Prod.ext_iff, hn, ha]
        simp only [List.map_cons, List.filter_cons, h1, List.find?_cons]
        have h2 : (a.1 == x.2) = false := by simpa using ha
        rw [h2]
        exact ih hp'.2
  · rw [if_neg hn]
    rw [List.filter_eq_nil_iff.2]
    · rfl
    · intro e he
      obtain ⟨y, hy, rfl⟩ := List.mem_map.1 he
      simp [Prod.ext_iff, hn]

end Go.Abs

/-
  The flags of the reference, in plain Lean.
-/
namespace Go.Abs
open Go

def flagsOf (L : List Pt) (s p c : Int) (n : Nat) : List (Int × Int) := ((List.range n).filter fun i => rejP L s p i).map fun i => ((L.getD i ⟨0, 0, 0⟩).rep, c)

/-- The steps and the spikes of an element. -/
def stepOf (k : Ctl) (c : Int) : Int := k.steps.getD c.toNat 0
def spikeOf (k : Ctl) (c : Int) : Int := k.spikes.getD c.toNat 0

def keyFlags (l : List Rep) (k : Ctl) (x : Key) : List (Int × Int) := flagsOf (lineP l x) (stepOf k x.2) (spikeOf k x.2) x.2 (lineP l x).length

/-- Those of a report. -/
def ofRep (i : Nat) (F : List (Int × Int)) : List (Int × Int) := F.filter fun f => f.1 == (i : Int)

def rowFlags (l : List Rep) (k : Ctl) (i : Nat) (r : Rep) (n : Nat) : List (Int × Int) := (r.rd.take n).flatMap fun y => ofRep i (keyFlags l k (r.name, y.1))

def refFlags (l : List Rep) (k : Ctl) (n : Nat) : List (Int × Int) := (List.range n).flatMap fun i => match l[i]? with | some r => rowFlags l k i r r.rd.length | none => []

theorem refFlags_succ {l : List Rep} {k : Ctl} {n : Nat} (h : n < l.length) : refFlags l k (n + 1) = refFlags l k n ++ rowFlags l k n l[n] (l[n]).rd.length := by
  unfold refFlags
  rw [List.range_succ, List.flatMap_append]
  simp only [List.flatMap_cons, List.flatMap_nil, List.append_nil, List.getElem?_eq_getElem h]

theorem rowFlags_succ {l : List Rep} {k : Ctl} {i : Nat} {r : Rep} {n : Nat} (h : n < r.rd.length) : rowFlags l k i r (n + 1) = rowFlags l k i r n ++ ofRep i (keyFlags l k (r.name, (r.rd[n]).1)) := by
  unfold rowFlags
  rw [List.take_succ_eq_append_getElem h, List.flatMap_append]
  simp only [List.flatMap_cons, List.flatMap_nil, List.append_nil]

end Go.Abs

/-
  What timeline's Check answers.
-/
namespace Go.Proofs.YtlilahgndpdkfaaDoor
open Go Go.Abs

theorem nextS_grow {b n m l sz : Nat} {x : AV} {S : Store} (hm : n ≤ m) : nextS b n [.osl m 0 l sz, x] S = some ([.osl m 0 l sz, x], S) := by
  simp [nextS, belows, below, blt_false hm]

/-- What is known at one reading of a line. -/
structure CkH (j k : Nat) (L : List Pt) (S : Store) (t10 a : AV) (b1 : Bool) : Prop where
  hk : k < L.length
  hi : ∀ (q : Nat), q < L.length → indexAV 3 none (.osl j 0 L.length 3) (.int .i64 (q : Int)) = some (.ptr j (q * 3))
  hld : ∀ (q : Nat) (hq : q < L.length), loadV (some 3) (.ptr j (q * 3)) S = some (.agg [i64 (L[q]).rep, i64 (L[q]).time, i64 (L[q]).val])
  ha : indexAV 1 none t10 (.int .i64 k) = some a
  ha2 : loadV none a S = some (.bool b1)

section
variable {n0 j k : Nat} {L : List Pt} {nm : List UInt8} {c p : Int} {S : Store} {v t10 : AV} {a : AV}

set_option maxHeartbeats 2000000 in
theorem ck_true {v2 : AV} {S2 : Store} (h : CkH j k L S t10 a true) (a1 : appendMV 3 v (.sl [[i64 (L[k]'h.hk).rep, i64 c, i64 4]] .full) S = some (v2, S2)) :
    F17_L1 call n0 (.ip [.str nm, i64 c] 0) (.osl j 0 L.length 3) t10 (i64 p) (.osl j 0 L.length 3) (i64 L.length) v (i64 k) S = F17_J1 call n0 S.length v2 (i64 k) S2 := by
  obtain ⟨hk, hi, hld, ha, ha2⟩ := h
  have hlt : (k : Int) < (L.length : Int) := by omega
  unfold F17_L1
  simp only []
  repeat (first
    | rfl
    | refine bind_of (by simp [-loadV, hlt, hi k hk, hld k hk, loadV_ip, ha, ha2, buildV, fillC, bsliceV, immRows, a1] <;> rfl) ?_
    | refine cond_t (by rfl) ?_
    | refine cond_f (by rfl) ?_
    | refine ite_of (by rfl) ?_)

set_option maxHeartbeats 2000000 in
theorem ck_p (h : CkH j k L S t10 a false) (hp : ¬ 0 < p) :
    F17_L1 call n0 (.ip [.str nm, i64 c] 0) (.osl j 0 L.length 3) t10 (i64 p) (.osl j 0 L.length 3) (i64 L.length) v (i64 k) S = F17_J1 call n0 S.length v (i64 k) S := by
  obtain ⟨hk, hi, hld, ha, ha2⟩ := h
  have hlt : (k : Int) < (L.length : Int) := by omega
  unfold F17_L1
  simp only []
  repeat (first
    | rfl
    | refine bind_of (by simp [-loadV, hlt, hi k hk, hld k hk, loadV_ip, ha, ha2, hp] <;> rfl) ?_
    | refine cond_t (by rfl) ?_
    | refine cond_f (by rfl) ?_
    | refine ite_of (by rfl) ?_)

set_option maxHeartbeats 2000000 in
theorem ck_k (h : CkH j k L S t10 a false) (hp : 0 < p) (hk0 : ¬ 0 < k) :
    F17_L1 call n0 (.ip [.str nm, i64 c] 0) (.osl j 0 L.length 3) t10 (i64 p) (.osl j 0 L.length 3) (i64 L.length) v (i64 k) S = F17_J1 call n0 S.length v (i64 k) S := by
  obtain ⟨hk, hi, hld, ha, ha2⟩ := h
  have hlt : (k : Int) < (L.length : Int) := by omega
  unfold F17_L1
  simp only []
  repeat (first
    | rfl
    | refine bind_of (by simp [-loadV, hlt, hi k hk, hld k hk, loadV_ip, ha, ha2, hp, hk0] <;> rfl) ?_
    | refine cond_t (by rfl) ?_
    | refine cond_f (by rfl) ?_
    | refine ite_of (by rfl) ?_)

set_option maxHeartbeats 2000000 in
theorem ck_l (h : CkH j k L S t10 a false) (hp : 0 < p) (hk0 : 0 < k) (hk1 : ¬ k + 1 < L.length) (hl : L.length ≤ 1000000) :
    F17_L1 call n0 (.ip [.str nm, i64 c] 0) (.osl j 0 L.length 3) t10 (i64 p) (.osl j 0 L.length 3) (i64 L.length) v (i64 k) S = F17_J1 call n0 S.length v (i64 k) S := by
  obtain ⟨hk, hi, hld, ha, ha2⟩ := h
  have hlt : (k : Int) < (L.length : Int) := by omega
  have w1 : IntKind.i64.wrap ((k : Int) + 1) = (k : Int) + 1 := wrap_in (by unfold In64; omega)
  have hk1' : ¬ ((k : Int) + 1 < (L.length : Int)) := by omega
  unfold F17_L1
  simp only []
  repeat (first
    | rfl
    | refine bind_of (by simp [-loadV, hlt, hi k hk, hld k hk, loadV_ip, ha, ha2, hp, hk0, hk1', w1] <;> rfl) ?_
    | refine cond_t (by rfl) ?_
    | refine cond_f (by rfl) ?_
    | refine ite_of (by rfl) ?_)

theorem ck_w (hk0 : 0 < k) (hl : k ≤ 1000000) : IntKind.i64.wrap ((k : Int) - 1) = ((k - 1 : Nat) : Int) ∧ IntKind.i64.wrap ((k : Int) + 1) = ((k + 1 : Nat) : Int) :=
  ⟨by rw [wrap_in (by unfold In64; omega)]; omega, by rw [wrap_in (by unfold In64; omega)]; rfl⟩

set_option maxHeartbeats 4000000 in
theorem ck_f (h : CkH j k L S t10 a false) (hp : 0 < p) (hk0 : 0 < k) (hk1 : k + 1 < L.length) (hl : L.length ≤ 1000000)
    (sp : call 36 [.agg [i64 (L[k - 1]'(by omega)).rep, i64 (L[k - 1]'(by omega)).time, i64 (L[k - 1]'(by omega)).val], .agg [i64 (L[k]'h.hk).rep, i64 (L[k]'h.hk).time, i64 (L[k]'h.hk).val], .agg [i64 (L[k + 1]).rep, i64 (L[k + 1]).time, i64 (L[k + 1]).val], i64 p] S = some (.bool false, S)) :
    F17_L1 call n0 (.ip [.str nm, i64 c] 0) (.osl j 0 L.length 3) t10 (i64 p) (.osl j 0 L.length 3) (i64 L.length) v (i64 k) S = F17_J1 call n0 S.length v (i64 k) S := by
  obtain ⟨hk, hi, hld, ha, ha2⟩ := h
  have hlt : (k : Int) < (L.length : Int) := by omega
  obtain ⟨w2, w1⟩ := ck_w hk0 (by omega)
  have hkm : k - 1 < L.length := by omega
  have hk2 : ((k + 1 : Nat) : Int) < (L.length : Int) := by omega
  unfold F17_L1
  simp only []
  repeat (first
    | rfl
    | refine bind_of (by simp [-loadV, -Int.natCast_add, hlt, hi k hk, hi _ hkm, hi _ hk1, hld k hk, hld _ hkm, hld _ hk1, loadV_ip, ha, ha2, hp, hk0, hk1, hk2, w1, w2, sp] <;> rfl) ?_
    | refine cond_t (by rfl) ?_
    | refine cond_f (by rfl) ?_
    | refine ite_of (by rfl) ?_)

set_option maxHeartbeats 4000000 in
theorem ck_t {v2 : AV} {S2 : Store} (h : CkH j k L S t10 a false) (hp : 0 < p) (hk0 : 0 < k) (hk1 : k + 1 < L.length) (hl : L.length ≤ 1000000)
    (sp : call 36 [.agg [i64 (L[k - 1]'(by omega)).rep, i64 (L[k - 1]'(by omega)).time, i64 (L[k - 1]'(by omega)).val], .agg [i64 (L[k]'h.hk).rep, i64 (L[k]'h.hk).time, i64 (L[k]'h.hk).val], .agg [i64 (L[k + 1]).rep, i64 (L[k + 1]).time, i64 (L[k + 1]).val], i64 p] S = some (.bool true, S))
    (a1 : appendMV 3 v (.sl [[i64 (L[k]'h.hk).rep, i64 c, i64 4]] .full) S = some (v2, S2)) :
    F17_L1 call n0 (.ip [.str nm, i64 c] 0) (.osl j 0 L.length 3) t10 (i64 p) (.osl j 0 L.length 3) (i64 L.length) v (i64 k) S = F17_J1 call n0 S.length v2 (i64 k) S2 := by
  obtain ⟨hk, hi, hld, ha, ha2⟩ := h
  have hlt : (k : Int) < (L.length : Int) := by omega
  obtain ⟨w2, w1⟩ := ck_w hk0 (by omega)
  have hkm : k - 1 < L.length := by omega
  have hk2 : ((k + 1 : Nat) : Int) < (L.length : Int) := by omega
  unfold F17_L1
  simp only []
  repeat (first
    | rfl
    | refine bind_of (by simp [-loadV, -Int.natCast_add, hlt, hi k hk, hi _ hkm, hi _ hk1, hld k hk, hld _ hkm, hld _ hk1, loadV_ip, ha, ha2, hp, hk0, hk1, hk2, w1, w2, sp, buildV, fillC, bsliceV, immRows, a1] <;> rfl) ?_
    | refine cond_t (by rfl) ?_
    | refine cond_f (by rfl) ?_
    | refine ite_of (by rfl) ?_)
end

set_option maxHeartbeats 8000000 in
/-- One reading of a line. -/
theorem check_round {n0 nB j k : Nat} {L : List Pt} {nm : List UInt8} {c s p : Int} {S : Store} {v t10 : AV} {rows : List (List AV)} {a : AV}
    (hL : ∀ q ∈ L, q.Ok) (hl : L.length ≤ 1000000) (hk : k < L.length) (hS : S[j]? = some (.obj (pts L).flatten)) (hg : Grow nB 3 S v rows) (hnB : nB ≤ S.length) (hrows : ∀ x ∈ rows, x.length = 3) (hrl : rows.length ≤ 2000000)
    (ha : indexAV 1 none t10 (.int .i64 k) = some a) (ha2 : loadV none a S = some (.bool (decide (0 < s) && stepP L s k))) :
    ∃ v' S', F17_L1 call n0 (.ip [.str nm, i64 c] 0) (.osl j 0 L.length 3) t10 (i64 p) (.osl j 0 L.length 3) (i64 L.length) v (i64 k) S = some (.inl ([v', i64 ((k : Int) + 1)], S')) ∧
      Grow nB 3 S' v' (rows ++ if rejP L s p k = true then [flagR (L[k].rep, c)] else []) ∧ S.length ≤ S'.length ∧ (∀ i, i < nB → S'[i]? = S[i]?) ∧ (∀ i, i < S.length → NotOwn v i → S'[i]? = S[i]? ∧ NotOwn v' i) := by
  have hlt : (k : Int) < (L.length : Int) := by omega
  have w1 : IntKind.i64.wrap ((k : Int) + 1) = (k : Int) + 1 := wrap_in (by unfold In64; omega)
  have hw : ∀ x ∈ pts L, x.length = 3 := fun x hx => (pts_row x hx).1
  have hi : ∀ (q : Nat), q < L.length → indexAV 3 none (.osl j 0 L.length 3) (.int .i64 (q : Int)) = some (.ptr j (q * 3)) := fun q hq => by
    simp only [indexAV]
    rw [if_pos ⟨by omega, by omega, by trivial⟩]
    simp
  have hld : ∀ (q : Nat) (hq : q < L.length), loadV (some 3) (.ptr j (q * 3)) S = some (.agg [i64 (L[q]).rep, i64 (L[q]).time, i64 (L[q]).val]) := fun q hq => by
    obtain ⟨q1, q2⟩ := row_at hw q (by simpa using hq)
    simp only [loadV, hS, takeC]
    rw [if_pos q2, q1]
    simp [pts, ptR]
  have hip : ∀ (n : Option Nat) (cs : List AV) (o : Nat) (S : Store), loadV n (.ip cs o) S = takeC n cs o := fun _ _ _ _ => rfl
  have happ := hg.app (ys := [flagR (L[k].rep, c)]) (t := .full) hnB hrows (fun y hy => flagRows_row (l := [(L[k].rep, c)]) y (by simpa [flagRows] using hy)) (by simp) (by have : room = 4294967296 := rfl; simp; omega)
  obtain ⟨v', S', a1, a2, a3, a4, a5, a6, ln, a7⟩ := happ
  subst a7
  have yes : rejP L s p k = true → F17_J1 call n0 S.length (.osl S.length 0 ln 3) (i64 k) S' = some (.inl ([.osl S.length 0 ln 3, i64 ((k : Int) + 1)], S')) := fun _ => by
    have := nextS_grow (b := n0) (n := S.length) (m := S.length) (l := ln) (sz := 3) (x := .int .i64 ((k : Int) + 1)) (S := S') (Nat.le_refl _)
    simp [F17_J1, w1, this]
  have no : F17_J1 call n0 S.length v (i64 k) S = some (.inl ([v, i64 ((k : Int) + 1)], S)) := by
    have := nextS_same (b := n0) (vs := [v, .int .i64 ((k : Int) + 1)]) (S := S)
    simp [F17_J1, w1, this]
  simp only [flagR] at a1
  have res : F17_L1 call n0 (.ip [.str nm, i64 c] 0) (.osl j 0 L.length 3) t10 (i64 p) (.osl j 0 L.length 3) (i64 L.length) v (i64 k) S = if rejP L s p k = true then F17_J1 call n0 S.length (.osl S.length 0 ln 3) (i64 k) S' else F17_J1 call n0 S.length v (i64 k) S := by
    unfold rejP spkP
    generalize hb1 : (decide (0 < s) && stepP L s k) = b1 at ha2 ⊢
    have hh : CkH j k L S t10 a b1 := ⟨hk, hi, hld, ha, ha2⟩
    cases b1 with
    | true => exact ck_true hh a1
    | false =>
      by_cases hp : 0 < p
      · by_cases hk0 : 0 < k
        · by_cases hk1 : k + 1 < L.length
          · have hkm : k - 1 < L.length := by omega
            have sp := s_spike (p := p) (hL _ (List.getElem_mem hkm)) (hL _ (List.getElem_mem hk)) (hL _ (List.getElem_mem hk1)) S
            simp only [ptR] at sp
            rw [getD_pt hkm, getD_pt hk, getD_pt hk1]
            cases hsp : spikeP L[k - 1] L[k] L[k + 1] p with
            | true =>
              rw [hsp] at sp
              rw [ck_t hh hp hk0 hk1 hl sp a1]
              simp [hp, hk0, hk1]
            | false =>
              rw [hsp] at sp
              rw [ck_f hh hp hk0 hk1 hl sp]
              simp
          · rw [ck_l hh hp hk0 hk1 hl]
            simp [hk1]
        · rw [ck_k hh hp hk0]
          simp [hk0]
      · rw [ck_p hh hp]
        simp [hp]
  cases hc : rejP L s p k with
  | true =>
    refine ⟨_, _, (by rw [res, if_pos hc]; exact yes hc), by simpa [hc] using a2, a3, a4, fun i hi ho => ⟨a5 i hi ho, a6 i hi⟩⟩
  | false =>
    exact ⟨v, S, (by rw [res, if_neg (by simp [hc])]; exact no), by simpa [hc] using hg, Nat.le_refl _, fun _ _ => rfl, fun i hi ho => ⟨rfl, ho⟩⟩

theorem flagsOf_succ {L : List Pt} {s p c : Int} {k : Nat} (hk : k < L.length) : flagRows (flagsOf L s p c (k + 1)) = flagRows (flagsOf L s p c k) ++ if rejP L s p k = true then [flagR (L[k].rep, c)] else [] := by
  unfold flagsOf flagRows
  rw [List.range_succ, List.filter_append, List.map_append, List.map_append]
  congr 1
  by_cases h : rejP L s p k = true
  · simp [h, hk]
  · simp [h]

theorem flagsOf_le {L : List Pt} {s p c : Int} {n : Nat} : (flagsOf L s p c n).length ≤ n := by
  unfold flagsOf
  rw [List.length_map]
  exact Nat.le_trans (List.length_filter_le _ _) (by simp)

/-- The readings of a line: those that are rejected are told. 'q': an entry that must stay as_ it is. -/
theorem check_line {n0 nB j : Nat} {L : List Pt} {nm : List UInt8} {c s p : Int} {S0 : Store} {v t10 : AV} {rows : List (List AV)} (q : Option Nat)
    (hL : ∀ q ∈ L, q.Ok) (hl : L.length ≤ 1000000) (hj : j < nB) (hS : S0[j]? = some (.obj (pts L).flatten)) (hg : Grow nB 3 S0 v rows) (hnB : nB ≤ S0.length) (hrows : ∀ x ∈ rows, x.length = 3) (hrl : rows.length ≤ 1000000)
    (hq : ∀ i, q = some i → i < S0.length ∧ NotOwn v i)
    (hrd : ∀ S : Store, (∀ i, q = some i → S[i]? = S0[i]?) → ∀ k, k < L.length → ∃ a, indexAV 1 none t10 (.int .i64 k) = some a ∧ loadV none a S = some (.bool (decide (0 < s) && stepP L s k))) :
    ∃ v' S', iter (fun st => F17_L1 call n0 (.ip [.str nm, i64 c] 0) (.osl j 0 L.length 3) t10 (i64 p) (.osl j 0 L.length 3) (i64 L.length) (st.1.getD 0 .u) (st.1.getD 1 .u) st.2) ([v, i64 0], S0) = some (.exit 2, [v'], S') ∧
      Grow nB 3 S' v' (rows ++ flagRows (flagsOf L s p c L.length)) ∧ S0.length ≤ S'.length ∧ (∀ i, i < nB → S'[i]? = S0[i]?) := by
  have key := iter_to (step := fun st => F17_L1 call n0 (.ip [.str nm, i64 c] 0) (.osl j 0 L.length 3) t10 (i64 p) (.osl j 0 L.length 3) (i64 L.length) (st.1.getD 0 .u) (st.1.getD 1 .u) st.2)
    (fun k st => ∃ v1 S1, st = ([v1, i64 (k : Nat)], S1) ∧ Grow nB 3 S1 v1 (rows ++ flagRows (flagsOf L s p c k)) ∧ S0.length ≤ S1.length ∧ (∀ i, i < nB → S1[i]? = S0[i]?) ∧ ∀ i, q = some i → i < S1.length ∧ NotOwn v1 i ∧ S1[i]? = S0[i]?)
    (fun r => ∃ v' S', r = (.exit 2, [v'], S') ∧ Grow nB 3 S' v' (rows ++ flagRows (flagsOf L s p c L.length)) ∧ S0.length ≤ S'.length ∧ (∀ i, i < nB → S'[i]? = S0[i]?)) L.length
    (fun k st hk ⟨v1, S1, hst, h1, h2, h3, h4⟩ => by
      subst hst
      obtain ⟨a, ha, ha2⟩ := hrd S1 (fun i hi => (h4 i hi).2.2) k hk
      have hle := flagsOf_le (L := L) (s := s) (p := p) (c := c) (n := k)
      obtain ⟨v', S', e1, e2, e3, e4, e5⟩ := check_round (n0 := n0) (nm := nm) (c := c) hL hl hk (by rw [h3 j hj]; exact hS) h1 (by omega) (by
        intro x hx
        rcases List.mem_append.1 hx with hx | hx
        · exact hrows x hx
        · exact (flagRows_row x hx).1) (by simp [flagRows]; omega) ha ha2
      refine ⟨_, e1, v', S', rfl, ?_, by omega, fun i hi => (e4 i hi).trans (h3 i hi), fun i hi => ?_⟩
      · rw [flagsOf_succ hk, ← List.append_assoc]; exact e2
      · obtain ⟨f1, f2, f3⟩ := h4 i hi
        obtain ⟨g1, g2⟩ := e5 i f1 f2
        exact ⟨by omega, g2, g1.trans f3⟩)
    (fun st ⟨v1, S1, hst, h1, h2, h3, _⟩ => by
      subst hst
      exact ⟨(.exit 2, [v1], S1), by simp [F17_L1], v1, S1, rfl, h1, h2, h3⟩) 0 ([v, i64 0], S0) (Nat.zero_le _) ⟨v, S0, rfl, by simpa [flagsOf, flagRows] using hg, Nat.le_refl _, fun _ _ => rfl, fun i hi => ⟨(hq i hi).1, (hq i hi).2, rfl⟩⟩
  obtain ⟨r, h1, v', S', rfl, h2, h3, h4⟩ := key
  exact ⟨v', S', h1, h2, h3, h4⟩

theorem keyFlags_le {l : List Rep} {k : Ctl} {x : Key} : (keyFlags l k x).length ≤ (ptsOf (allR l 0) x).length := by
  unfold keyFlags
  rw [← lineP_length]
  exact flagsOf_le

theorem seen_flags_le {d : List (Key × Pt)} : ∀ (K : List Key), K.Nodup → (K.map fun x => (ptsOf d x).length).sum ≤ d.length := by
  induction d with
  | nil =>
    intro K _
    have : ∀ K : List Key, (K.map fun _ => 0).sum = 0 := by intro K; induction K <;> simp_all
    simpa [ptsOf] using this K
  | cons e d ih =>
    intro K hK
    have h1 := ih K hK
    have h2 : (K.map fun x => (ptsOf (e :: d) x).length).sum ≤ (K.map fun x => (ptsOf d x).length).sum + 1 := by
      clear ih h1
      induction K with
      | nil => simp
      | cons a K ih =>
        rw [List.nodup_cons] at hK
        simp only [List.map_cons, List.sum_cons]
        by_cases h : e.1 = a
        · have hno : (K.map fun x => (ptsOf (e :: d) x).length) = K.map fun x => (ptsOf d x).length := by
            apply List.map_congr_left
            intro y hy
            have : ¬ e.1 = y := fun h' => hK.1 (by rw [← h, h']; exact hy)
            simp [ptsOf, this]
          rw [hno]
          simp [ptsOf, h]; omega
        · have := ih hK.2
          have h3 : (ptsOf (e :: d) a).length = (ptsOf d a).length := by simp [ptsOf, h]
          omega
    simp only [List.length_cons]
    omega

theorem perm_flatMap {K : List Key} {g : Key → List (Int × Int)} {seen : List Nat} (h1 : seen.Nodup) (h2 : ∀ q ∈ seen, q < K.length) (h3 : seen.length = K.length) : (seen.flatMap fun q => g (K.getD q ([], 0))).Perm (K.flatMap g) := by
  have hp : seen.Perm (List.range K.length) := by
    refine (List.perm_ext_iff_of_nodup h1 List.nodup_range).2 fun q => ?_
    have hl := left_length h1 h2
    constructor
    · intro hq; exact List.mem_range.2 (h2 q hq)
    · intro hq
      have : ((List.range K.length).filter fun j => !memN j seen) = [] := List.eq_nil_of_length_eq_zero (by omega)
      have := List.filter_eq_nil_iff.1 this q hq
      simpa [memN_eq] using this
  refine (hp.flatMap_right _).trans ?_
  have : (List.range K.length).flatMap (fun q => g (K.getD q ([], 0))) = K.flatMap g := by
    clear hp h1 h2 h3
    rw [List.flatMap_def, List.flatMap_def]
    congr 1
    apply List.ext_getElem (by simp)
    intro i i1 i2
    have : i < K.length := by simpa using i2
    simp [this]
  rw [this]

theorem flatMap_length_le {K : List Key} {l : List Rep} {k : Ctl} (hK : K.Nodup) {seen : List Nat} (h1 : seen.Nodup) (h2 : ∀ q ∈ seen, q < K.length) : (seen.flatMap fun q => keyFlags l k (K.getD q ([], 0))).length ≤ (allR l 0).length := by
  have h3 := seen_flags_le (d := allR l 0) (seen.map fun q => K.getD q ([], 0)) (by
    rw [List.Nodup, List.pairwise_map]
    refine List.Pairwise.imp_of_mem (fun {a b} ha hb hab e => hab ?_) h1
    have ha' := h2 a ha
    have hb' := h2 b hb
    rw [List.getD_eq_getElem?_getD, List.getD_eq_getElem?_getD, List.getElem?_eq_getElem ha', List.getElem?_eq_getElem hb', Option.getD_some, Option.getD_some] at e
    exact (List.getElem_inj hK).1 e)
  refine Nat.le_trans ?_ h3
  rw [List.map_map]
  clear h1 h2 h3
  induction seen with
  | nil => simp
  | cons q seen ih =>
    simp only [List.flatMap_cons, List.length_append, List.map_cons, List.sum_cons, Function.comp] at ih ⊢
    have := keyFlags_le (l := l) (k := k) (x := K.getD q ([], 0))
    omega

end Go.Proofs.YtlilahgndpdkfaaDoor

/-
  What timeline's Check answers: the whole.
-/
namespace Go.Proofs.YtlilahgndpdkfaaDoor
open Go Go.Abs

theorem ctl_get {k : Ctl} (hk : k.Fit) {c : Int} (h1 : 1 ≤ c) (h2 : c ≤ 11) :
    indexAV 1 (some 12) (.ip (ctlC k) 1) (.int .i64 c) = some (.ip (ctlC k) (1 + c.toNat * 1)) ∧ takeC none (ctlC k) (1 + c.toNat * 1) = some (i64 (stepOf k c)) ∧
    indexAV 1 (some 12) (.ip (ctlC k) 13) (.int .i64 c) = some (.ip (ctlC k) (13 + c.toNat * 1)) ∧ takeC none (ctlC k) (13 + c.toNat * 1) = some (i64 (spikeOf k c)) := by
  have hc : c.toNat < 12 := by omega
  refine ⟨by simp only [indexAV]; rw [if_pos ⟨by omega, by omega⟩], ?_, by simp only [indexAV]; rw [if_pos ⟨by omega, by omega⟩], ?_⟩
  · show (ctlC k)[1 + c.toNat * 1]? = _
    unfold ctlC stepOf
    rw [Nat.mul_one, Nat.add_comm, List.getElem?_cons_succ, List.getElem?_map, List.append_assoc, List.getElem?_append_left (by rw [hk.steps]; exact hc), List.getElem?_eq_getElem (by rw [hk.steps]; exact hc)]
    simp [hk.steps, hc]
  · show (ctlC k)[13 + c.toNat * 1]? = _
    unfold ctlC spikeOf
    rw [Nat.mul_one, show 13 + c.toNat = 12 + c.toNat + 1 by omega, List.getElem?_cons_succ, List.getElem?_map, List.append_assoc, List.getElem?_append_right (by rw [hk.steps]; omega), hk.steps, show 12 + c.toNat - 12 = c.toNat by omega,
      List.getElem?_append_left (by rw [hk.spikes]; exact hc), List.getElem?_eq_getElem (by rw [hk.spikes]; exact hc)]
    simp [hk.spikes, hc]

set_option maxHeartbeats 8000000 in
theorem s_CheckOK {l : List Rep} {t : Tok} {k : Ctl} (hk : k.Fit) (hl : l.length ≤ 1000000) (hla : (allR l 0).length ≤ 1000000) (he : examP l k = 0) {F : List (Int × Int)} (hF : F.Pairwise lt2) (hFp : F.Perm ((seenK ((allR l 0).map (·.1))).flatMap (keyFlags l k))) (S : Store) :
    call 17 [.sl (reps l) t, .agg (ctlC k)] S = some (.tup [.sl (flagRows F) (if flagRows F = [] then .full else .none), i64 0], S) := by
  obtain ⟨hgood, hps, hpk⟩ := examP_zero he
  rw [k17]
  unfold F17
  have hexam := s_examine (l := l) (t := t) (k := k) hk hl (fun r hr => by
    obtain ⟨j, hj, rfl⟩ := List.getElem_of_mem hr
    have : allR l 0 = allR (l.take (j + 1)) 0 ++ allR (l.drop (j + 1)) (0 + (l.take (j + 1)).length) := by rw [← allR_append, List.take_append_drop]
    rw [this, allR_take hj] at hla
    simp only [List.length_append, entR, List.length_map] at hla
    omega) S
  rw [he] at hexam
  obtain ⟨Sb, idx, hlines, hlo, hlow, hlen⟩ := s_lines (l := l) (t := t) hla hl hgood.times S
  have hmapB := hlo.map
  have himm : imms (ctlC k) = some (ctlC k) := by
    have := imms_i64s (k.hops :: (k.steps ++ k.spikes ++ k.rest))
    simpa [ctlC] using this
  have hlc : (ctlC k).length = 41 := by simp [ctlC, hk.steps, hk.spikes, hk.rest]
  have hta : takeC (some 41) (ctlC k) 0 = some (.agg (ctlC k)) := by
    simp only [takeC]
    rw [if_pos (by omega), List.drop_zero, List.take_of_length_le (by omega)]
  have hrv : rangeV (.map S.length) Sb = some (.ptr Sb.length 0, Sb ++ [.iter S.length (seenK ((allR l 0).map (·.1))).length []]) := by
    simp only [rangeV, hmapB, List.length_map]
  generalize hKe : seenK ((allR l 0).map (·.1)) = K at hFp hmapB hrv
  have hKn : K.Nodup := hKe ▸ seenK_nodup _
  have hst := stepI_eq (S := Sb ++ [.iter S.length K.length []]) (i := Sb.length) (m := S.length) (n := K.length) (seen := []) (by simp) (by rw [List.getElem?_append_left hlen]; exact hmapB) (by simp)
  have hleft : leftI (.ptr Sb.length 0) (Sb ++ [.iter S.length K.length []]) = K.length := by
    unfold leftI
    rw [hst]
    simp only [Option.getD_some, List.length_map]
    have := left_length (n := K.length) (seen := []) .nil (fun _ h => by cases h)
    simpa only [List.length_nil, Nat.add_zero] using this
  refine bind_of (by simp [himm] <;> rfl) ?_
  refine bind_of (by simp only [List.getD_cons_zero, loadV_ip, hta] <;> rfl) ?_
  refine bind_of (by simp [himm] <;> rfl) ?_
  refine bind_of (by simp [hexam] <;> rfl) ?_
  refine bind_of (by simp <;> rfl) ?_
  refine cond_f (by rfl) ?_
  refine bind_of (by simp <;> rfl) ?_
  refine bind_of (by simp [hlines] <;> rfl) ?_
  refine bind_of hrv ?_
  rw [hleft]
  refine rangeK_rule (it := .ptr Sb.length 0) (fun n vs S1 => ∃ v seen, vs = [v] ∧ seen.Nodup ∧ (∀ q ∈ seen, q < K.length) ∧ n + seen.length = K.length ∧ S1[Sb.length]? = some (.iter S.length K.length seen) ∧ Sb.length + 1 ≤ S1.length ∧
      (∀ j, j < Sb.length → S1[j]? = Sb[j]?) ∧ Grow (Sb.length + 1) 3 S1 v (flagRows (seen.flatMap fun q => keyFlags l k (K.getD q ([], 0))))) ?_ ?_ K.length [.sl [] .full] (Sb ++ [.iter S.length K.length []])
    ⟨_, [], rfl, .nil, fun _ h => (by cases h), rfl, by simp, by simp, fun j hj => (by rw [List.getElem?_append_left hj]), Grow.nil _ _ _⟩
  · -- the end
    rintro vs S1 ⟨v, seen, rfl, s1, s2, s3, s4, s5, s6, s7⟩
    have hmap : S1[S.length]? = some (.map (K.map (entL (allR l 0) idx))) := by rw [s6 _ hlen]; exact hmapB
    have hlf := left_length s1 s2
    refine ⟨?_, ?_⟩
    · rw [stepI_eq s4 hmap (by simp), List.eq_nil_of_length_eq_zero (l := (List.range K.length).filter fun j => !memN j seen) (by omega)]
      rfl
    · have hperm := perm_flatMap (K := K) (g := keyFlags l k) s1 s2 (by omega)
      have hg : Grow (Sb.length + 1) 3 (S1.set Sb.length .dead) v (flagRows (seen.flatMap fun q => keyFlags l k (K.getD q ([], 0)))) := s7.keep fun j hj _ => List.getElem?_set_ne (by omega)
      have hle := flatMap_length_le (l := l) (k := k) hKn s1 s2
      obtain ⟨S2, e1, e2, e3, e4⟩ := sortV_flags (f := 38) hg hF (hFp.trans hperm.symm) (by omega)
      have hcall : call 37 [v, .clo 38 []] (S1.set Sb.length .dead) = some (.tup [], S2) := by
        rw [k37]; exact e1
      have hargs : argVs [v, .clo 38 []] = some [v, .clo 38 []] := by
        rcases hg with ⟨_, rfl⟩ | ⟨_, i, _, rfl, _⟩ <;> simp
      have hfin := e2.fin (m := S.length) (by omega) flagRows_row
      have htake : S2.take S.length = S := by
        apply List.ext_getElem?
        intro j
        rw [List.getElem?_take]
        split
        · rename_i hj
          rw [e4 j (by omega), List.getElem?_set_ne (by omega), s6 j (by omega)]
          exact hlow j hj
        · rw [List.getElem?_eq_none (by omega)]
      show condK (.bool false) _ _ = _
      refine cond_f rfl ?_
      refine bind_of (by exact hargs) ?_
      refine bind_of (by exact hcall) ?_
      have hf2 : fins S.length S2 [v, i64 0] = some [.sl (flagRows F) (if flagRows F = [] then .full else .none), i64 0] := by
        show (fin1 S.length S2 v).bind _ = _
        rw [hfin]
        rfl
      show finish false S.length [v, i64 0] S2 = _
      rw [finish_eq hf2 (by split <;> simp [belows, below]), htake]
      rfl
  · -- a round
    rintro n vs S1 ⟨v, seen, rfl, s1, s2, s3, s4, s5, s6, s7⟩
    have hmap : S1[S.length]? = some (.map (K.map (entL (allR l 0) idx))) := by rw [s6 _ hlen]; exact hmapB
    have hlf := left_length s1 s2
    refine ⟨_, stepI_eq s4 hmap (by simp), ?_, ?_⟩
    · intro h
      have := congrArg List.length h
      simp only [List.length_map, List.length_nil] at this
      omega
    · intro c hc Kn hKn'
      obtain ⟨q, hq, rfl⟩ := List.mem_map.1 hc
      simp only [List.mem_filter, List.mem_range, memN_eq, Bool.not_eq_true', decide_eq_false_iff_not] at hq
      obtain ⟨hq1, hq2⟩ := hq
      have hx := List.getElem_mem hq1
      generalize hxe : K[q] = x at hx
      have hxs : x ∈ seenK ((allR l 0).map (·.1)) := hKe.symm ▸ hx
      obtain ⟨o1, o2⟩ := hlo.obj x hxs
      have hix : idx x < Sb.length := (List.getElem?_eq_some_iff.1 o2).1
      have hlp := lineP_length l x
      have hL1 : 1 ≤ (lineP l x).length := by rw [hlp]; exact List.length_pos_iff.2 (ptsOf_ne hxs)
      have hLl : (lineP l x).length ≤ 1000000 := by have := ptsOf_le (allR l 0) x; omega
      have hLok : ∀ p ∈ lineP l x, p.Ok := fun p hp => (hgood.line hp).1
      obtain ⟨hc1, hc2⟩ := (hgood.line (List.getElem_mem (show 0 < (lineP l x).length by omega))).2
      obtain ⟨g1, g2, g3, g4⟩ := ctl_get hk hc1 hc2
      have hlS : Sb.length < S1.length := by omega
      -- the store behind the step
      generalize hT : S1.set Sb.length (.iter S.length K.length (seen ++ [q])) = T1
      have hTl : T1.length = S1.length := by rw [← hT]; simp
      have hTit : T1[Sb.length]? = some (.iter S.length K.length (seen ++ [q])) := by rw [← hT, List.getElem?_set_self hlS]
      have hTlow : ∀ j, j < Sb.length → T1[j]? = Sb[j]? := fun j hj => by rw [← hT, List.getElem?_set_ne (by omega)]; exact s6 j hj
      have hTg : Grow (Sb.length + 1) 3 T1 v (flagRows (seen.flatMap fun q => keyFlags l k (K.getD q ([], 0)))) := s7.keep fun j hj _ => by rw [← hT]; exact List.getElem?_set_ne (by omega)
      have hent : entryV (.ptr Sb.length 0) T1 = some (.tup [kvS x, .osl (idx x) 0 (lineP l x).length 3]) := by
        simp only [entryV, hTit]
        rw [hTlow _ hlen, hmapB]
        simp only [List.getLast?_concat, List.length_map, if_true, List.getElem?_map, List.getElem?_eq_getElem hq1, hxe, Option.map_some, Option.bind_some, entL, hlp]
      have hroom : room = 4294967296 := rfl
      have hms : msliceV [.bool false] (.int .i64 (lineP l x).length) (.int .i64 (lineP l x).length) T1 = some (.osl T1.length 0 (lineP l x).length 1, T1 ++ [.obj ((List.replicate (lineP l x).length false).map .bool)]) := by
        simp only [msliceV]
        rw [if_pos ⟨by omega, by omega, by omega⟩, Int.toNat_natCast, zero_flat]
        rfl
      have hsr : 0 ≤ stepOf k x.2 ∧ stepOf k x.2 ≤ 10000 := by
        unfold stepOf
        rw [List.getD_eq_getElem?_getD, List.getElem?_eq_getElem (by rw [hk.steps]; omega)]
        exact possP_get hps (List.getElem_mem _)
      have hS0 : (T1 ++ [Ent.obj ((List.replicate (lineP l x).length false).map .bool)])[idx x]? = some (.obj (pts (lineP l x)).flatten) := by
        rw [List.getElem?_append_left (by omega), hTlow _ hix]; exact o2
      have hG0 : Grow (Sb.length + 1) 3 (T1 ++ [Ent.obj ((List.replicate (lineP l x).length false).map .bool)]) v (flagRows (seen.flatMap fun q => keyFlags l k (K.getD q ([], 0)))) := hTg.keep fun j _ hj => List.getElem?_append_left hj
      have hle := flatMap_length_le (l := l) (k := k) hKn s1 s2
      have hrow3 : ∀ y ∈ flagRows (seen.flatMap fun q => keyFlags l k (K.getD q ([], 0))), y.length = 3 := fun y hy => (flagRows_row y hy).1
      have hKq : keyFlags l k x = keyFlags l k (K.getD q ([], 0)) := by rw [List.getD_eq_getElem?_getD, List.getElem?_eq_getElem hq1, hxe]; rfl
      -- what follows behind a round
      have done : ∀ v' S', Grow (Sb.length + 1) 3 S' v' (flagRows (seen.flatMap fun q => keyFlags l k (K.getD q ([], 0))) ++ flagRows (flagsOf (lineP l x) (stepOf k x.2) (spikeOf k x.2) x.2 (lineP l x).length)) → (T1 ++ [Ent.obj ((List.replicate (lineP l x).length false).map .bool)]).length ≤ S'.length →
          (∀ i, i < Sb.length + 1 → S'[i]? = (T1 ++ [Ent.obj ((List.replicate (lineP l x).length false).map .bool)])[i]?) → Kn [v'] S' = some (.tup [.sl (flagRows F) (if flagRows F = [] then .full else .none), i64 0], S) := fun v' S' d1 d2 d3 => by
        refine hKn' [v'] S' ⟨v', seen ++ [q], rfl, ?_, ?_, by simp; omega, ?_, by simp at d2; omega, fun j hj => ?_, ?_⟩
        · rw [List.nodup_append]
          exact ⟨s1, by simp, fun a ha b hb => by simp at hb; subst hb; intro e; subst e; exact hq2 ha⟩
        · intro p hp
          rcases List.mem_append.1 hp with hp | hp
          · exact s2 p hp
          · simp at hp; subst hp; exact hq1
        · rw [d3 _ (by omega), List.getElem?_append_left (by omega)]; exact hTit
        · rw [d3 j (by omega), List.getElem?_append_left (by omega)]; exact hTlow j hj
        · have : flagRows ((seen ++ [q]).flatMap fun q => keyFlags l k (K.getD q ([], 0))) = flagRows (seen.flatMap fun q => keyFlags l k (K.getD q ([], 0))) ++ flagRows (keyFlags l k x) := by
            rw [List.flatMap_append, hKq]; simp [flagRows]
          rw [this]
          exact d1
      have hkv : kvS x = .agg [.str x.1, i64 x.2] := rfl
      rw [hkv] at hent
      subst hT
      show condK (.bool true) _ _ = _
      refine cond_t rfl ?_
      refine bind_of (by exact hent) ?_
      refine bind_of (by rfl) ?_
      refine bind_of (by rfl) ?_
      refine bind_of (by simp <;> rfl) ?_
      refine ite_of (by rfl) ?_
      refine bind_of (by rfl) ?_
      refine bind_of (by exact hms) ?_
      refine bind_of (by rfl) ?_
      refine bind_of (by rfl) ?_
      refine bind_of (by rfl) ?_
      refine bind_of (by exact g1) ?_
      refine bind_of (by exact g2) ?_
      refine bind_of (by rfl) ?_
      by_cases hrate : 0 < stepOf k x.2
      · have hst := s_steps hLok hL1 hLl hsr.1 hsr.2 hS0
        obtain ⟨v', S', e1, e2, e3, e4⟩ := check_line (n0 := S.length) (nB := Sb.length + 1) (nm := x.1) (c := x.2) (s := stepOf k x.2) (p := spikeOf k x.2) (t10 := .sl (bools (markP (lineP l x) (stepOf k x.2) (lineP l x).length)) .none) none hLok hLl (by omega) hS0 hG0 (by simp; omega) hrow3 (by rw [flagRows_length]; omega)
          (fun i h => by cases h) (fun S' _ j hj => by
            have hjm : j < (markP (lineP l x) (stepOf k x.2) (lineP l x).length).length := by simpa using hj
            have hb := at_bools hjm
            have hv : (markP (lineP l x) (stepOf k x.2) (lineP l x).length)[j] = (decide (0 < stepOf k x.2) && stepP (lineP l x) (stepOf k x.2) j) := by simp [markP, hrate, hj]
            rw [hv] at hb
            exact ⟨.ip [.bool (decide (0 < stepOf k x.2) && stepP (lineP l x) (stepOf k x.2) j)] 0, by simp only [indexAV, hb, Option.bind_some]; rfl, rfl⟩)
        refine cond_t (by simp [hrate]) ?_
        refine bind_of (by rfl) ?_
        refine bind_of (by exact hst) ?_
        refine bind_of (by rfl) ?_
        refine bind_of (by rfl) ?_
        refine bind_of (by rfl) ?_
        refine bind_of (by exact g3) ?_
        refine bind_of (by exact g4) ?_
        refine bind_of (by rfl) ?_
        refine bind_of (by exact e1) ?_
        exact done v' S' e2 e3 e4
      · obtain ⟨v', S', e1, e2, e3, e4⟩ := check_line (n0 := S.length) (nB := Sb.length + 1) (nm := x.1) (c := x.2) (s := stepOf k x.2) (p := spikeOf k x.2) (t10 := .osl (S1.set Sb.length (.iter S.length K.length (seen ++ [q]))).length 0 (lineP l x).length 1) (some (S1.set Sb.length (.iter S.length K.length (seen ++ [q]))).length) hLok hLl (by omega) hS0 hG0 (by simp; omega) hrow3 (by rw [flagRows_length]; omega)
          (fun i h => by
            cases h
            refine ⟨by simp, fun i o l' sz hv => ?_⟩
            rcases hTg with ⟨_, h⟩ | ⟨_, i', _, h, h'⟩
            · rw [h] at hv; cases hv
            · rw [h] at hv; cases hv
              have := (List.getElem?_eq_some_iff.1 h').1
              omega) (fun S' hS' j hj => ⟨.ptr (S1.set Sb.length (.iter S.length K.length (seen ++ [q]))).length j, by
            simp only [indexAV]
            rw [if_pos ⟨by omega, by omega, by trivial⟩]
            simp, by
            have h0 := hS' _ rfl
            rw [List.getElem?_concat_length] at h0
            simp only [loadV, h0, takeC, List.getElem?_map]
            rw [List.getElem?_replicate, if_pos hj]
            simp [hrate]⟩)
        refine cond_f (by simp [hrate]) ?_
        refine bind_of (by rfl) ?_
        refine bind_of (by rfl) ?_
        refine bind_of (by rfl) ?_
        refine bind_of (by exact g3) ?_
        refine bind_of (by exact g4) ?_
        refine bind_of (by rfl) ?_
        refine bind_of (by exact e1) ?_
        exact done v' S' e2 e3 e4

end Go.Proofs.YtlilahgndpdkfaaDoor

/-
  What the functions of the elements' reference answer.
-/
namespace Go.Proofs.YtlilahgndpdkfaaDoor
open Go Go.Abs

theorem r_In (t : Int) (S : Store) : call 41 [i64 t] S = some (.bool (inP t), S) := by
  rw [k41]
  unfold F41 inP
  by_cases h : 0 ≤ t <;> simp [h]

theorem r_Describe_no {c : Int} (h : c < 1 ∨ 11 < c) (S : Store) : call 44 [i64 c] S = some (.tup [.agg [.str [], i64 0, i64 0, i64 0], i64 4], S) := by
  rw [k44]
  unfold F44
  have hb : Nat.blt S.length S.length = false := blt_false (Nat.le_refl _)
  by_cases h1 : c < 1
  · simp [h1, finish, hb, buildV, fillC, setC]
  · have h2 : 11 < c := by omega
    simp [h1, h2, finish, hb, buildV, fillC, setC]

def infoRows : List (List AV) := [[.str [80], i64 8000, i64 11000, i64 5], [.str [84], i64 1800, i64 3300, i64 4], [.str [68], i64 1800, i64 3300, i64 4], [.str [69], i64 (-1000), i64 1000, i64 4], [.str [78], i64 (-1000), i64 1000, i64 4], [.str [65], i64 900, i64 1700, i64 4],
  [.str [66], i64 2000, i64 3200, i64 4], [.str [70], i64 2400, i64 3400, i64 4], [.str [71], i64 2000, i64 3000, i64 4], [.str [74], i64 4400, i64 6200, i64 4], [.str [75], i64 2000, i64 2900, i64 4]]

theorem infoRows_at {c : Int} (h1 : 1 ≤ c) (h2 : c ≤ 11) : ∃ d, at? infoRows (c - 1) = some [.str [letter c], i64 (lo c), i64 (hi c), i64 d] := by
  rcases elem_cases h1 h2 with rfl | rfl | rfl | rfl | rfl | rfl | rfl | rfl | rfl | rfl | rfl
  · exact ⟨5, rfl⟩
  all_goals exact ⟨4, rfl⟩

set_option maxHeartbeats 1000000 in
theorem r_Describe {c : Int} (h1 : 1 ≤ c) (h2 : c ≤ 11) (S : Store) : ∃ d, call 44 [i64 c] S = some (.tup [.agg [.str [letter c], i64 (lo c), i64 (hi c), i64 d], i64 0], S) := by
  obtain ⟨d, hd⟩ := infoRows_at h1 h2
  refine ⟨d, ?_⟩
  rw [k44]
  unfold F44
  have hb : Nat.blt S.length S.length = false := blt_false (Nat.le_refl _)
  have n1 : ¬ c < 1 := by omega
  have n2 : ¬ 11 < c := by omega
  have w1 : IntKind.i64.wrap (c - 1) = c - 1 := wrap_in (by unfold In64; omega)
  have hix : indexAV 4 none (.sl infoRows .full) (.int .i64 (c - 1)) = some (.ip [.str [letter c], i64 (lo c), i64 (hi c), i64 d] 0) := by simp [indexAV, hd]
  have hst : ∀ v1 v2 v3 v4 : AV, storeV S.length 4 (.ptr S.length 0) (.agg [.str [letter c], i64 (lo c), i64 (hi c), i64 d]) (S ++ [.obj [v1, v2, v3, v4]]) = some (S ++ [.obj [.str [letter c], i64 (lo c), i64 (hi c), i64 d]]) := fun _ _ _ _ => by
    simp [storeV, hb, cells1, cell1, setC]
  have hld : loadV (some 4) (.ptr S.length 0) (S ++ [.obj [.str [letter c], i64 (lo c), i64 (hi c), i64 d]]) = some (.agg [.str [letter c], i64 (lo c), i64 (hi c), i64 d]) := by simp [loadV]
  simp only []
  iterate 4 refine bind_of (by simp [n1, n2] <;> rfl) ?_
  refine cond_f (by simp [n1, n2] <;> rfl) ?_
  iterate 11 refine bind_of (by simp [buildV, fillC, setC] <;> rfl) ?_
  refine bind_of (a := .sl infoRows .full) (by simp [bsliceV, immRows, infoRows]) ?_
  refine bind_of (by simp [w1] <;> rfl) ?_
  refine bind_of (by exact hix) ?_
  refine bind_of (by simp [loadV_ip] <;> rfl) ?_
  refine bind_of (by exact hst _ _ _ _) ?_
  refine bind_of (by simp [-loadV, hld] <;> rfl) ?_
  simp [finish]

theorem r_in {r : Rd} (h1 : 1 ≤ r.1) (h2 : r.1 ≤ 11) (S : Store) : call 45 [.agg [i64 r.1, i64 r.2]] S = some (.bool (checkP r == 0), S) := by
  rw [k45]
  unfold F45 checkP
  obtain ⟨d, hd⟩ := r_Describe h1 h2 S
  have n1 : ¬ (r.1 < 1 ∨ 11 < r.1) := by omega
  rw [if_neg n1]
  by_cases h3 : lo r.1 ≤ r.2
  · have : ¬ r.2 < lo r.1 := by omega
    by_cases h4 : r.2 ≤ hi r.1
    · have : ¬ hi r.1 < r.2 := by omega
      simp [hd, extractV, h3, h4, *]
    · have : hi r.1 < r.2 := by omega
      simp [hd, extractV, h3, h4, *]
  · have : r.2 < lo r.1 := by omega
    simp [hd, extractV, h3, this]

theorem checkP_four {r : Rd} : (checkP r == 4) = true ↔ r.1 < 1 ∨ 11 < r.1 := by
  unfold checkP
  split
  · rename_i h; simp [h]
  · rename_i h; split <;> simp [h]

set_option maxHeartbeats 1000000 in
theorem r_Validate {l : List Rd} {t : Tok} (hl : l.length ≤ 1000000) (S : Store) : call 25 [.sl (rds l) t] S = some (i64 (validP l), S) := by
  rw [k25]
  unfold F25
  have hat : ∀ (k : Nat) (hk : k < l.length), indexAV 2 none (.sl (rds l) t) (.int .i64 (k : Int)) = some (.ip [i64 (l[k]).1, i64 (l[k]).2] 0) := fun k hk => by simp [indexAV, at_rds hk]
  have hg : ∀ (k : Nat) (hk : k < l.length), l.getD k (0, 0) = l[k] := fun k hk => by rw [List.getD_eq_getElem?_getD, List.getElem?_eq_getElem hk]; rfl
  have key1 := iter_scan (step := fun s => F25_L1 call S.length (.sl (rds l) t) (s.1.getD 0 .u) s.2) (S := S) (fun k => checkP (l.getD k (0, 0)) == 4) (rT := fun _ => (Ex.ret, [i64 4], S)) (rE := (Ex.exit 0, [.u], S)) l.length 0
    (fun k k1 k2 => by
      have hk : k < l.length := by omega
      have hlt : (k : Int) < (l.length : Int) := by omega
      have w1 : IntKind.i64.wrap ((k : Int) + 1) = (k : Int) + 1 := wrap_in (by unfold In64; omega)
      have hi := hat k hk
      rw [hg k hk]
      cases hc : checkP l[k] == 4 with
      | true =>
        have hd := r_Describe_no (checkP_four.1 hc) S
        simp [F25_L1, hlt, hi, hd, extractV]
      | false =>
        have h4 : ¬ (l[k].1 < 1 ∨ 11 < l[k].1) := fun h => by rw [checkP_four.2 h] at hc; cases hc
        obtain ⟨d, hd⟩ := r_Describe (c := l[k].1) (by omega) (by omega) S
        simp [F25_L1, hlt, hi, hd, extractV, w1, nextS_same])
    (by simp [F25_L1])
  simp only [Int.natCast_zero, i64] at key1
  unfold validP
  have any4 : (l.any fun r => checkP r == 4) = true ↔ ∃ k, 0 ≤ k ∧ k < 0 + l.length ∧ (checkP (l.getD k (0, 0)) == 4) = true := by
    rw [List.any_eq_true]
    constructor
    · rintro ⟨r, hr, h⟩
      obtain ⟨k, hk, rfl⟩ := List.getElem_of_mem hr
      exact ⟨k, Nat.zero_le _, by omega, by rw [hg k hk]; exact h⟩
    · rintro ⟨k, _, hk, h⟩
      rw [hg k (by omega)] at h
      exact ⟨l[k]'(by omega), List.getElem_mem _, h⟩
  rcases key1 with ⟨k, k1, k2, k3, k4, k5⟩ | ⟨k1, k2⟩
  · rw [if_pos (any4.2 ⟨k, k1, k2, k3⟩)]
    simp [-List.getD_eq_getElem?_getD, List.getD_cons_zero, k5]
  · have h4 : (l.any fun r => checkP r == 4) = false := by
      rw [Bool.eq_false_iff]; intro h
      obtain ⟨k, a1, a2, a3⟩ := any4.1 h
      rw [k1 k a1 a2] at a3; cases a3
    rw [h4]
    have hok : ∀ (k : Nat) (hk : k < l.length), 1 ≤ l[k].1 ∧ l[k].1 ≤ 11 := fun k hk => by
      have := k1 k (Nat.zero_le _) (by omega)
      rw [hg k hk] at this
      have : ¬ (l[k].1 < 1 ∨ 11 < l[k].1) := fun h => by rw [checkP_four.2 h] at this; cases this
      omega
    have key2 := iter_scan (step := fun s => F25_L2 call S.length (.sl (rds l) t) (s.1.getD 0 .u) s.2) (S := S) (fun k => !(checkP (l.getD k (0, 0)) == 0)) (rT := fun _ => (Ex.ret, [i64 1], S)) (rE := (Ex.exit 2, [.u], S)) l.length 0
      (fun k k1 k2 => by
        have hk : k < l.length := by omega
        have hlt : (k : Int) < (l.length : Int) := by omega
        have w1 : IntKind.i64.wrap ((k : Int) + 1) = (k : Int) + 1 := wrap_in (by unfold In64; omega)
        have hi := hat k hk
        rw [hg k hk]
        have hd := r_in (hok k hk).1 (hok k hk).2 S
        cases hc : checkP l[k] == 0 with
        | true =>
          rw [hc] at hd
          simp [F25_L2, hlt, hi, hd, w1, nextS_same]
        | false =>
          rw [hc] at hd
          simp [F25_L2, hlt, hi, hd])
      (by simp [F25_L2])
    simp only [Int.natCast_zero, i64] at key2
    have any1 : (l.any fun r => checkP r == 1) = true ↔ ∃ k, 0 ≤ k ∧ k < 0 + l.length ∧ (!(checkP (l.getD k (0, 0)) == 0)) = true := by
      rw [List.any_eq_true]
      constructor
      · rintro ⟨r, hr, h⟩
        obtain ⟨k, hk, rfl⟩ := List.getElem_of_mem hr
        simp only [beq_iff_eq] at h
        exact ⟨k, Nat.zero_le _, by omega, by rw [hg k hk, h]; rfl⟩
      · rintro ⟨k, _, hk, h⟩
        rw [hg k (by omega)] at h
        refine ⟨l[k]'(by omega), List.getElem_mem _, ?_⟩
        have h5 := k1 k (Nat.zero_le _) hk
        rw [hg k (by omega)] at h5
        rcases checkP_cases (l[k]'(by omega)) with e | e | e
        · rw [e] at h; cases h
        · rw [e]; rfl
        · rw [e] at h5; cases h5
    rcases key2 with ⟨k, b1, b2, b3, b4, b5⟩ | ⟨b1, b2⟩
    · rw [if_neg (by simp), if_pos (any1.2 ⟨k, b1, b2, b3⟩)]
      simp [-List.getD_eq_getElem?_getD, List.getD_cons_zero, k2, b5]
    · have h1 : (l.any fun r => checkP r == 1) = false := by
        rw [Bool.eq_false_iff]; intro h
        obtain ⟨k, a1, a2, a3⟩ := any1.1 h
        rw [b1 k a1 a2] at a3; cases a3
      rw [h1]
      have key3 := iter_scan (step := fun s => F25_L3 call S.length (.sl (rds l) t) (s.1.getD 0 .u) s.2) (S := S) (fun k => decide ((l.getD k (0, 0)).1 ≤ (l.getD (k - 1) (0, 0)).1)) (rT := fun _ => (Ex.ret, [i64 8], S)) (rE := (Ex.exit 4, [.u], S)) (l.length - 1) 1
        (fun k k1 k2 => by
          have hk : k < l.length := by omega
          have hk' : k - 1 < l.length := by omega
          have w1 : IntKind.i64.wrap ((k : Int) + 1) = (k : Int) + 1 := wrap_in (by unfold In64; omega)
          have w2 : IntKind.i64.wrap ((k : Int) - 1) = ((k - 1 : Nat) : Int) := by rw [wrap_in (by unfold In64; omega)]; omega
          have hlt : (k : Int) < (l.length : Int) := by omega
          have hi := hat k hk
          have hi' := hat (k - 1) hk'
          rw [hg k hk, hg _ hk']
          by_cases hc : l[k].1 ≤ l[k - 1].1
          · simp [F25_L3, hlt, hi, hi', w1, w2, hc]
          · simp [F25_L3, hlt, hi, hi', w1, w2, hc, nextS_same])
        (by
          have hlt : ¬ (1 + ((l.length - 1 : Nat) : Int) < (l.length : Int)) := by omega
          simp [F25_L3, hlt])
      simp only [Int.natCast_one, i64] at key3
      have hincr : (∀ k, 1 ≤ k → k < 1 + (l.length - 1) → decide ((l.getD k (0, 0)).1 ≤ (l.getD (k - 1) (0, 0)).1) = false) ↔ incrR l = true := by
        rw [incrR_iff]
        constructor
        · intro h i hi
          have := h (i + 1) (by omega) (by omega)
          simp [hi, show i < l.length by omega] at this
          omega
        · intro h k k1 k2
          have := h (k - 1) (by omega)
          simp only [show k - 1 + 1 = k by omega] at this
          simp [show k < l.length by omega, show k - 1 < l.length by omega]
          omega
      rcases key3 with ⟨k, c1, c2, c3, c4, c5⟩ | ⟨c1, c2⟩
      · have hn : incrR l = false := by
          rw [Bool.eq_false_iff]; intro h
          have := hincr.2 h k c1 c2
          rw [this] at c3; cases c3
        rw [hn]
        simp [-List.getD_eq_getElem?_getD, List.getD_cons_zero, k2, b2, c5]
      · have hn := hincr.1 c1
        rw [hn]
        simp [-List.getD_eq_getElem?_getD, List.getD_cons_zero, k2, b2, c2]

theorem r_Find {l : List Rd} {t : Tok} {c : Int} (hl : l.length ≤ 1000000) (S : Store) : call 24 [.sl (rds l) t, i64 c] S = some (match findP l c with | some v => .tup [i64 v, .bool true] | none => .tup [i64 0, .bool false], S) := by
  rw [k24]
  unfold F24
  have hat : ∀ (k : Nat) (hk : k < l.length), indexAV 2 none (.sl (rds l) t) (.int .i64 (k : Int)) = some (.ip [i64 (l[k]).1, i64 (l[k]).2] 0) := fun k hk => by simp [indexAV, at_rds hk]
  have hg : ∀ (k : Nat) (hk : k < l.length), l.getD k (0, 0) = l[k] := fun k hk => by rw [List.getD_eq_getElem?_getD, List.getElem?_eq_getElem hk]; rfl
  have key := iter_scan (step := fun s => F24_L1 call S.length (.sl (rds l) t) (i64 c) (s.1.getD 0 .u) s.2) (S := S) (fun k => (l.getD k (0, 0)).1 == c) (rT := fun k => (Ex.ret, [i64 (l.getD k (0, 0)).2, .bool true], S)) (rE := (Ex.exit 0, [.u, .u], S)) l.length 0
    (fun k k1 k2 => by
      have hk : k < l.length := by omega
      have hlt : (k : Int) < (l.length : Int) := by omega
      have w1 : IntKind.i64.wrap ((k : Int) + 1) = (k : Int) + 1 := wrap_in (by unfold In64; omega)
      have hi := hat k hk
      rw [hg k hk]
      by_cases hc : l[k].1 = c
      · simp [F24_L1, hlt, hi, hc]
      · simp [F24_L1, hlt, hi, hc, w1, nextS_same])
    (by simp [F24_L1])
  simp only [Int.natCast_zero, i64] at key
  rcases key with ⟨k, k1, k2, k3, k4, k5⟩ | ⟨k1, k2⟩
  · have hk : k < l.length := by omega
    have hf : findP l c = some (l[k]).2 := by
      unfold findP
      have : l.find? (fun r => r.1 == c) = some l[k] := by
        rw [List.find?_eq_some_iff_getElem]
        rw [hg k hk] at k3
        refine ⟨k3, k, hk, rfl, fun j hj => ?_⟩
        have := k4 j (Nat.zero_le _) hj
        rw [hg j (by omega)] at this
        simpa using this
      rw [this]; rfl
    rw [hf]
    rw [hg k hk] at k5
    simp [-List.getD_eq_getElem?_getD, List.getD_cons_zero, List.getD_cons_succ, k5]
  · have hf : findP l c = none := by
      unfold findP
      rw [List.find?_eq_none.2 fun r hr => ?_]
      · rfl
      · obtain ⟨k, hk, rfl⟩ := List.getElem_of_mem hr
        have := k1 k (Nat.zero_le _) (by omega)
        rw [hg k hk] at this
        simpa using this
    rw [hf]
    simp [-List.getD_eq_getElem?_getD, List.getD_cons_zero, List.getD_cons_succ, k2]

end Go.Proofs.YtlilahgndpdkfaaDoor

/-
  What the functions of the timeline's reference answer: the rejected readings of a line.
-/
namespace Go.Proofs.YtlilahgndpdkfaaDoor
open Go Go.Abs

theorem r_slow {a b : Pt} {s : Int} (ha : a.Ok) (hb : b.Ok) (hab : a.time ≤ b.time) (h0 : 0 ≤ s) (h1 : s ≤ 10000) (S : Store) : call 58 [.agg (ptR a), .agg (ptR b), i64 s] S = some (.bool (slowP a b s), S) := by
  rw [k58]
  unfold F58
  obtain ⟨a1, a2, a3, a4⟩ := ha
  obtain ⟨b1, b2, b3, b4⟩ := hb
  have w1 : IntKind.i64.wrap (a.time - b.time) = a.time - b.time := wrap_in (by unfold In64; omega)
  have w2 : IntKind.i64.wrap (b.time - a.time) = b.time - a.time := wrap_in (by unfold In64; omega)
  have w3 : IntKind.i64.wrap (b.time - a.time + 59) = b.time - a.time + 60 - 1 := by rw [wrap_in (by unfold In64; omega)]; omega
  have hm : max2 (a.time - b.time) (b.time - a.time) = b.time - a.time := by unfold max2; split <;> omega
  obtain ⟨hq2, hq1⟩ := tdiv_bound (x := b.time - a.time + 60 - 1) (n := 60000000) (k := 60) (by omega) (by omega) (by omega)
  have w4 : IntKind.i64.wrap ((b.time - a.time + 60 - 1).tdiv 60) = (b.time - a.time + 60 - 1).tdiv 60 := wrap_in (by unfold In64; omega)
  have hm1 : s * ((b.time - a.time + 60 - 1).tdiv 60) ≤ 10000 * 60000000 := by
    have := Int.mul_le_mul_of_nonneg_left hq1 h0
    have := Int.mul_le_mul_of_nonneg_right h1 (show (0 : Int) ≤ 60000000 by omega)
    omega
  have hm2 : -(10000 * 60000000) ≤ s * ((b.time - a.time + 60 - 1).tdiv 60) := by
    have := Int.mul_le_mul_of_nonneg_left hq2 h0
    have := Int.mul_le_mul_of_nonneg_right h1 (show (0 : Int) ≤ 60000000 by omega)
    omega
  have w5 : IntKind.i64.wrap (s * ((b.time - a.time + 60 - 1).tdiv 60)) = s * ((b.time - a.time + 60 - 1).tdiv 60) := wrap_in (by unfold In64; omega)
  have w6 : IntKind.i64.wrap (a.val - b.val) = a.val - b.val := wrap_in (by unfold In64; omega)
  have w7 : IntKind.i64.wrap (b.val - a.val) = b.val - a.val := wrap_in (by unfold In64; omega)
  simp only [ptR]
  repeat (first
    | rfl
    | refine cond_t (by rfl) ?_
    | refine cond_f (by rfl) ?_
    | refine ite_of (by rfl) ?_
    | refine bind_of (by simp [-loadV, -storeV, -Int.natCast_add, loadV_ip, w1, w2, w3, hm, w4, w5, w6, w7] <;> rfl) ?_)
  simp [slowP, sizeP] <;> rfl

def mark1 (l : List Pt) (s : Int) (k : Nat) : List Bool := (List.range l.length).map fun j => decide (j < k) && (decide (0 < s) && stepP l s j)
def mark2 (l : List Pt) (s p : Int) (k : Nat) : List Bool := (List.range l.length).map fun j => (decide (0 < s) && stepP l s j) || (decide (j < k) && spkP l p j)

@[simp] theorem mark1_length {l : List Pt} {s : Int} {k : Nat} : (mark1 l s k).length = l.length := by simp [mark1]
@[simp] theorem mark2_length {l : List Pt} {s p : Int} {k : Nat} : (mark2 l s p k).length = l.length := by simp [mark2]

theorem mark1_pos {l : List Pt} {s : Int} (h : 0 < s) (k : Nat) : mark1 l s k = markP l s k := by
  unfold mark1 markP
  simp [h]

theorem mark1_neg {l : List Pt} {s : Int} (h : ¬ 0 < s) (k : Nat) : mark1 l s k = List.replicate l.length false := by
  apply List.ext_getElem (by simp)
  intro j h1 h2
  simp [mark1, h]

theorem mark2_one {l : List Pt} {s p : Int} : mark2 l s p 1 = mark1 l s l.length := by
  apply List.ext_getElem (by simp)
  intro j h1 h2
  have hj : j < l.length := by simpa using h1
  simp only [mark1, mark2, List.getElem_map, List.getElem_range]
  by_cases h : j < 1
  · obtain rfl : j = 0 := by omega
    simp [spkP, hj]
  · simp [h, hj]

theorem mark2_end {l : List Pt} {s p : Int} {k : Nat} (h : ¬ 0 < p ∨ l.length ≤ k + 1) : mark2 l s p k = (List.range l.length).map (rejP l s p) := by
  apply List.ext_getElem (by simp)
  intro j h1 h2
  have hj : j < l.length := by simpa using h1
  simp only [mark2, List.getElem_map, List.getElem_range, rejP]
  congr 1
  rcases h with h | h
  · simp [spkP, h]
  · by_cases hjk : j < k
    · simp [hjk]
    · have : ¬ j + 1 < l.length := by omega
      simp [spkP, this]

theorem mark2_step {l : List Pt} {s p : Int} {k : Nat} (hk : k < l.length) : (if spkP l p k = true then (mark2 l s p k).set k true else mark2 l s p k) = mark2 l s p (k + 1) := by
  apply List.ext_getElem (by split <;> simp)
  intro j h1 h2
  have hj : j < l.length := by simpa using h2
  have hval : (mark2 l s p (k + 1))[j] = ((decide (0 < s) && stepP l s j) || (decide (j < k + 1) && spkP l p j)) := by simp [mark2]
  rw [hval]
  by_cases hjk : j = k
  · subst hjk
    by_cases hs : spkP l p j = true
    · simp [hs]
    · simp [hs, mark2]
  · have : (j < k + 1) = (j < k) := by simp; omega
    have h0 : (mark2 l s p k)[j]'(by simpa using hj) = ((decide (0 < s) && stepP l s j) || (decide (j < k) && spkP l p j)) := by simp [mark2]
    by_cases hs : spkP l p k = true
    · simp only [hs, if_true]
      rw [List.getElem_set_ne (Ne.symm hjk), h0]
      simp [this]
    · simp only [hs]
      simp only [Bool.false_eq_true, if_false]
      rw [h0]
      simp [this]

set_option maxHeartbeats 4000000 in
/-- The steps. -/
theorem r_loop1 {l : List Pt} {t : Tok} {s p : Int} {S : Store} (hl : ∀ q ∈ l, q.Ok) (hs : l.Pairwise fun a b => a.time < b.time) (h1 : 1 ≤ l.length) (h2 : l.length ≤ 1000000) (h4 : s ≤ 10000) :
    iter (fun st => F43_L1 call S.length (.sl (pts l) t) (i64 s) (i64 p) (.osl S.length 0 l.length 1) (st.1.getD 0 .u) (st.1.getD 1 .u) st.2) ([i64 0, i64 1], S ++ [.obj ((List.replicate l.length false).map .bool)]) = some (.exit 0, [], S ++ [.obj ((mark1 l s l.length).map .bool)]) := by
  by_cases h3 : 0 < s
  · have hi : ∀ (q : Nat) (hq : q < l.length), indexAV 3 none (.sl (pts l) t) (.int .i64 (q : Int)) = some (.ip (ptR l[q]) 0) := fun q hq => by simp [indexAV, at_pts hq, ptR]
    have hld : ∀ (q : Nat) (hq : q < l.length), takeC (some 3) (ptR l[q]) 0 = some (.agg (ptR l[q])) := fun q hq => by simp [ptR]
    have hok : ∀ (k : Nat) (h : k < l.length), (l[k]).Ok := fun k h => hl _ (List.getElem_mem h)
    have hle : ∀ (i j : Nat) (hi : i < l.length) (hj : j < l.length), i ≤ j → (l[i]).time ≤ (l[j]).time := fun i j hi hj hij => by
      by_cases e : i = j
      · subst e; omega
      · have := (List.pairwise_iff_getElem.1 hs) i j hi hj (by omega); omega
    have hb : Nat.blt S.length S.length = false := blt_false (Nat.le_refl _)
    have key := iter_run (step := fun st => F43_L1 call S.length (.sl (pts l) t) (i64 s) (i64 p) (.osl S.length 0 l.length 1) (st.1.getD 0 .u) (st.1.getD 1 .u) st.2)
      (fun k => ([i64 (goodP l s (k - 1) : Nat), i64 (k : Nat)], S ++ [.obj ((markP l s k).map .bool)])) (r := (Ex.exit 0, [], S ++ [.obj ((markP l s l.length).map .bool)])) (l.length - 1) 1
      (fun k k1 k2 => by
        have hk : k < l.length := by omega
        have hg := goodP_le l s (k - 1)
        have hgl : goodP l s (k - 1) < l.length := by omega
        have hlt : (k : Int) < (l.length : Int) := by omega
        have w1 : IntKind.i64.wrap ((k : Int) + 1) = ((k + 1 : Nat) : Int) := wrap_in (by unfold In64; omega)
        have s1 := r_slow (s := s) (hok _ hgl) (hok _ hk) (hle _ _ hgl hk (by omega)) (by omega) h4 (S ++ [.obj ((markP l s k).map .bool)])
        have hst := stepP_ok (l := l) (s := s) k1
        have hgs := goodP_succ (l := l) (s := s) k1
        have jy : okP l s (goodP l s (k - 1)) k = true → F43_J1 call S.length (S ++ [Ent.obj ((markP l s k).map .bool)]).length (i64 (k : Int)) (i64 (k : Int)) (S ++ [.obj ((markP l s k).map .bool)]) = some (.inl ([i64 (goodP l s (k + 1 - 1) : Nat), i64 ((k + 1 : Nat) : Int)], S ++ [.obj ((markP l s (k + 1)).map .bool)])) := fun h => by
          unfold F43_J1
          simp only [binV, isShift, cond_false, if_true, binI, Option.bind_some, w1, nextS_same]
          rw [markP_good (by rw [hst, h]; rfl), Nat.add_sub_cancel, hgs, if_pos h]
        have jn : okP l s (goodP l s (k - 1)) k = false → F43_J1 call S.length (S ++ [Ent.obj ((markP l s k).map .bool)]).length (i64 (goodP l s (k - 1) : Nat)) (i64 (k : Int)) (S ++ [.obj ((markP l s (k + 1)).map .bool)]) = some (.inl ([i64 (goodP l s (k + 1 - 1) : Nat), i64 ((k + 1 : Nat) : Int)], S ++ [.obj ((markP l s (k + 1)).map .bool)])) := fun h => by
          unfold F43_J1
          simp only [binV, isShift, cond_false, if_true, binI, Option.bind_some, w1]
          rw [nextS_eq (by simp), Nat.add_sub_cancel, hgs, if_neg (by simp [h])]
          rfl
        have hix : indexAV 1 none (.osl S.length 0 l.length 1) (.int .i64 (k : Int)) = some (.ptr S.length k) := by
          simp only [indexAV]
          rw [if_pos ⟨by omega, by omega, by trivial⟩]
          simp
        have hset : okP l s (goodP l s (k - 1)) k = false → storeV S.length 1 (.ptr S.length k) (.bool true) (S ++ [.obj ((markP l s k).map .bool)]) = some (S ++ [.obj ((markP l s (k + 1)).map .bool)]) := fun h => by
          simp only [storeV, List.getElem?_concat_length, hb, cond_false, cellsOf, cells1, cell1, Option.bind_some, List.length_cons, List.length_nil, List.length_map, markP_length]
          rw [if_pos ⟨by trivial, by omega⟩]
          simp only [setC, map_bool_set, markP_bad hk (show stepP l s k = true by rw [hst, h]; rfl)]
          rw [List.set_append_right _ _ (Nat.le_refl _)]
          simp
        have e : okP l s (goodP l s (k - 1)) k = (slowP l[goodP l s (k - 1)] l[k] s || (decide (k + 1 < l.length) && slowP l[k] (l.getD (k + 1) ⟨0, 0, 0⟩) s)) := by unfold okP; rw [getD_pt hgl, getD_pt hk]
        have him : ∀ p : Pt, imms (ptR p) = some (ptR p) := fun p => by simp [ptR]
        cases c1 : slowP l[goodP l s (k - 1)] l[k] s with
        | true =>
          rw [c1] at s1 e
          refine Eq.trans ?_ (jy (by rw [e]; rfl))
          unfold F43_L1
          simp only [List.getD_cons_zero, List.getD_cons_succ]
          repeat (first
            | rfl
            | refine cond_t (by rfl) ?_
            | refine cond_f (by rfl) ?_
            | refine ite_of (by rfl) ?_
            | refine bind_of (by simp [-loadV, -storeV, -Int.natCast_add, loadV_ip, -take_some, h3, hlt, hi k hk, hi _ hgl, hld k hk, hld _ hgl, him, s1] <;> rfl) ?_)
        | false =>
          rw [c1] at s1 e
          by_cases hk1 : k + 1 < l.length
          · have hlt1 : ((k + 1 : Nat) : Int) < (l.length : Int) := by omega
            have s2 := r_slow (s := s) (hok _ hk) (hok _ hk1) (hle _ _ hk hk1 (by omega)) (by omega) h4 (S ++ [.obj ((markP l s k).map .bool)])
            rw [getD_pt hk1] at e
            cases c2 : slowP l[k] l[k + 1] s with
            | true =>
              rw [c2] at s2 e
              refine Eq.trans ?_ (jy (by rw [e]; simp [hk1]))
              unfold F43_L1
              simp only [List.getD_cons_zero, List.getD_cons_succ]
              repeat (first
                | rfl
                | refine cond_t (by rfl) ?_
                | refine cond_f (by rfl) ?_
                | refine ite_of (by rfl) ?_
                | refine bind_of (by simp [-loadV, -storeV, -Int.natCast_add, loadV_ip, -take_some, h3, hlt, hi k hk, hi _ hgl, hi _ hk1, hld k hk, hld _ hgl, hld _ hk1, him, hlt1, w1, s1, s2] <;> rfl) ?_)
            | false =>
              rw [c2] at s2 e
              refine Eq.trans ?_ (jn (by rw [e]; simp))
              have hs := hset (by rw [e]; simp)
              unfold F43_L1
              simp only [List.getD_cons_zero, List.getD_cons_succ]
              repeat (first
                | rfl
                | refine cond_t (by rfl) ?_
                | refine cond_f (by rfl) ?_
                | refine ite_of (by rfl) ?_
                | refine bind_of (by simp [-loadV, -storeV, -Int.natCast_add, loadV_ip, -take_some, h3, hlt, hi k hk, hi _ hgl, hi _ hk1, hld k hk, hld _ hgl, hld _ hk1, him, hlt1, w1, s1, s2, hix, hs] <;> rfl) ?_)
          · have hlt1 : ¬ ((k + 1 : Nat) : Int) < (l.length : Int) := by omega
            refine Eq.trans ?_ (jn (by rw [e]; simp [hk1]))
            have hs := hset (by rw [e]; simp [hk1])
            unfold F43_L1
            simp only [List.getD_cons_zero, List.getD_cons_succ]
            repeat (first
              | rfl
              | refine cond_t (by rfl) ?_
              | refine cond_f (by rfl) ?_
              | refine ite_of (by rfl) ?_
              | refine bind_of (by simp [-loadV, -storeV, -Int.natCast_add, loadV_ip, -take_some, h3, hlt, hi k hk, hi _ hgl, hld k hk, hld _ hgl, him, hlt1, w1, s1, hix, hs] <;> rfl) ?_))
      (by
        have e : 1 + (l.length - 1) = l.length := by omega
        rw [e]
        simp [F43_L1])
    rw [mark1_pos h3, markP_one l s]
    exact key
  · rw [mark1_neg h3, iter_eq]
    by_cases hl1 : (1 : Int) < (l.length : Int)
    · simp [F43_L1, h3, hl1]
    · simp [F43_L1, hl1]

/-- What the spike rule of the reference says. -/
theorem spikeR {a b c : Pt} {p : Int} : spikeP a b c p = (((decide (a.val + p < b.val) && decide (c.val + p < b.val)) || (decide (b.val < a.val - p) && decide (b.val < c.val - p))) && decide (sizeP a c ≤ p)) := by
  unfold spikeP
  have e1 : decide (b.val - a.val > p) = decide (a.val + p < b.val) := by simp only [decide_eq_decide]; omega
  have e2 : decide (b.val - c.val > p) = decide (c.val + p < b.val) := by simp only [decide_eq_decide]; omega
  have e3 : decide (a.val - b.val > p) = decide (b.val < a.val - p) := by simp only [decide_eq_decide]; omega
  have e4 : decide (c.val - b.val > p) = decide (b.val < c.val - p) := by simp only [decide_eq_decide]; omega
  rw [e1, e2, e3, e4]

set_option maxHeartbeats 4000000 in
theorem r_round2 {l : List Pt} {t : Tok} {p : Int} {S S2 : Store} {n0 k j : Nat} (hl : ∀ q ∈ l, q.Ok) (h2 : l.length ≤ 1000000) (hp : 0 < p) (hp1 : p ≤ 10000) (k1 : 1 ≤ k) (hk1 : k + 1 < l.length)
    (hset : storeV n0 1 (.ptr j k) (.bool true) S = some S2) :
    F43_L2 call n0 (.sl (pts l) t) (i64 p) (.osl j 0 l.length 1) (i64 (k : Nat)) S = if spikeP (l[k - 1]'(by omega)) (l[k]'(by omega)) l[k + 1] p = true then F43_J2 call n0 S.length (i64 (k : Nat)) S2 else F43_J2 call n0 S.length (i64 (k : Nat)) S := by
  have hk : k < l.length := by omega
  have hkm : k - 1 < l.length := by omega
  have hi : ∀ (q : Nat) (hq : q < l.length), indexAV 3 none (.sl (pts l) t) (.int .i64 (q : Int)) = some (.ip [i64 (l[q]).rep, i64 (l[q]).time, i64 (l[q]).val] 0) := fun q hq => by simp [indexAV, at_pts hq, ptR]
  have hlt : ((k + 1 : Nat) : Int) < (l.length : Int) := by omega
  have w1 : IntKind.i64.wrap ((k : Int) + 1) = ((k + 1 : Nat) : Int) := wrap_in (by unfold In64; omega)
  have w0 : IntKind.i64.wrap ((k : Int) - 1) = ((k - 1 : Nat) : Int) := by rw [wrap_in (by unfold In64; omega)]; omega
  obtain ⟨_, _, a1, a2⟩ := hl _ (List.getElem_mem hkm)
  obtain ⟨_, _, b1, b2⟩ := hl _ (List.getElem_mem hk)
  obtain ⟨_, _, c1, c2⟩ := hl _ (List.getElem_mem hk1)
  rw [spikeR]
  generalize ha : l[k - 1] = a at *
  generalize hb : l[k] = b at *
  generalize hc : l[k + 1] = c at *
  have i1 := hi k hk
  have i0 := hi _ hkm
  have i2 := hi _ hk1
  rw [ha] at i0
  rw [hb] at i1
  rw [hc] at i2
  have hix : indexAV 1 none (.osl j 0 l.length 1) (.int .i64 (k : Int)) = some (.ptr j k) := by
    simp only [indexAV]
    rw [if_pos ⟨by omega, by omega, by trivial⟩]
    simp
  have w2 : IntKind.i64.wrap (a.val + p) = a.val + p := wrap_in (by unfold In64; omega)
  have w3 : IntKind.i64.wrap (c.val + p) = c.val + p := wrap_in (by unfold In64; omega)
  have w4 : IntKind.i64.wrap (a.val - p) = a.val - p := wrap_in (by unfold In64; omega)
  have w5 : IntKind.i64.wrap (c.val - p) = c.val - p := wrap_in (by unfold In64; omega)
  have w6 : IntKind.i64.wrap (a.val - c.val) = a.val - c.val := wrap_in (by unfold In64; omega)
  have w7 : IntKind.i64.wrap (c.val - a.val) = c.val - a.val := wrap_in (by unfold In64; omega)
  have hz : sizeP a c = max2 (a.val - c.val) (c.val - a.val) := rfl
  rw [hz]
  by_cases u1 : a.val + p < b.val
  · have d1 : ¬ b.val < a.val - p := by omega
    by_cases u2 : c.val + p < b.val
    · by_cases z : max2 (a.val - c.val) (c.val - a.val) ≤ p
      · skip
        simp only [u1, u2, z, decide_true, decide_false, Bool.and_true, Bool.true_and, Bool.and_false, Bool.false_and, Bool.or_true, Bool.true_or, Bool.or_false, Bool.false_or, if_true, if_false, Bool.false_eq_true]
        unfold F43_L2
        generalize F43_J2 = J
        simp only []
        repeat (first
          | rfl
          | refine cond_t (by rfl) ?_
          | refine cond_f (by rfl) ?_
          | refine ite_of (by rfl) ?_
          | refine bind_of (by simp [-loadV, -storeV, -Int.natCast_add, loadV_ip, hlt, hp, w0, w1, w2, w3, w4, w5, w6, w7, i0, i1, i2, u1, u2, z, hix, hset] <;> rfl) ?_)
      · skip
        simp only [u1, u2, z, decide_true, decide_false, Bool.and_true, Bool.true_and, Bool.and_false, Bool.false_and, Bool.or_true, Bool.true_or, Bool.or_false, Bool.false_or, if_true, if_false, Bool.false_eq_true]
        unfold F43_L2
        generalize F43_J2 = J
        simp only []
        repeat (first
          | rfl
          | refine cond_t (by rfl) ?_
          | refine cond_f (by rfl) ?_
          | refine ite_of (by rfl) ?_
          | refine bind_of (by simp [-loadV, -storeV, -Int.natCast_add, loadV_ip, hlt, hp, w0, w1, w2, w3, w4, w5, w6, w7, i0, i1, i2, u1, u2, z] <;> rfl) ?_)
    · skip
      simp only [u1, u2, d1, decide_true, decide_false, Bool.and_true, Bool.true_and, Bool.and_false, Bool.false_and, Bool.or_true, Bool.true_or, Bool.or_false, Bool.false_or, if_true, if_false, Bool.false_eq_true]
      unfold F43_L2
      generalize F43_J2 = J
      simp only []
      repeat (first
        | rfl
        | refine cond_t (by rfl) ?_
        | refine cond_f (by rfl) ?_
        | refine ite_of (by rfl) ?_
        | refine bind_of (by simp [-loadV, -storeV, -Int.natCast_add, loadV_ip, hlt, hp, w0, w1, w2, w3, w4, w5, w6, w7, i0, i1, i2, u1, u2, d1] <;> rfl) ?_)
  · by_cases d1 : b.val < a.val - p
    · by_cases d2 : b.val < c.val - p
      · by_cases z : max2 (a.val - c.val) (c.val - a.val) ≤ p
        · skip
          simp only [u1, d1, d2, z, decide_true, decide_false, Bool.and_true, Bool.true_and, Bool.and_false, Bool.false_and, Bool.or_true, Bool.true_or, Bool.or_false, Bool.false_or, if_true, if_false, Bool.false_eq_true]
          unfold F43_L2
          generalize F43_J2 = J
          simp only []
          repeat (first
            | rfl
            | refine cond_t (by rfl) ?_
            | refine cond_f (by rfl) ?_
            | refine ite_of (by rfl) ?_
            | refine bind_of (by simp [-loadV, -storeV, -Int.natCast_add, loadV_ip, hlt, hp, w0, w1, w2, w3, w4, w5, w6, w7, i0, i1, i2, u1, d1, d2, z, hix, hset] <;> rfl) ?_)
        · skip
          simp only [u1, d1, d2, z, decide_true, decide_false, Bool.and_true, Bool.true_and, Bool.and_false, Bool.false_and, Bool.or_true, Bool.true_or, Bool.or_false, Bool.false_or, if_true, if_false, Bool.false_eq_true]
          unfold F43_L2
          generalize F43_J2 = J
          simp only []
          repeat (first
            | rfl
            | refine cond_t (by rfl) ?_
            | refine cond_f (by rfl) ?_
            | refine ite_of (by rfl) ?_
            | refine bind_of (by simp [-loadV, -storeV, -Int.natCast_add, loadV_ip, hlt, hp, w0, w1, w2, w3, w4, w5, w6, w7, i0, i1, i2, u1, d1, d2, z] <;> rfl) ?_)
      · skip
        simp only [u1, d1, d2, decide_true, decide_false, Bool.and_true, Bool.true_and, Bool.and_false, Bool.false_and, Bool.or_true, Bool.true_or, Bool.or_false, Bool.false_or, if_true, if_false, Bool.false_eq_true]
        unfold F43_L2
        generalize F43_J2 = J
        simp only []
        repeat (first
          | rfl
          | refine cond_t (by rfl) ?_
          | refine cond_f (by rfl) ?_
          | refine ite_of (by rfl) ?_
          | refine bind_of (by simp [-loadV, -storeV, -Int.natCast_add, loadV_ip, hlt, hp, w0, w1, w2, w3, w4, w5, w6, w7, i0, i1, i2, u1, d1, d2] <;> rfl) ?_)
    · skip
      simp only [u1, d1, decide_true, decide_false, Bool.and_true, Bool.true_and, Bool.and_false, Bool.false_and, Bool.or_true, Bool.true_or, Bool.or_false, Bool.false_or, if_true, if_false, Bool.false_eq_true]
      unfold F43_L2
      generalize F43_J2 = J
      simp only []
      repeat (first
        | rfl
        | refine cond_t (by rfl) ?_
        | refine cond_f (by rfl) ?_
        | refine ite_of (by rfl) ?_
        | refine bind_of (by simp [-loadV, -storeV, -Int.natCast_add, loadV_ip, hlt, hp, w0, w1, w2, w3, w4, w5, w6, w7, i0, i1, i2, u1, d1] <;> rfl) ?_)

end Go.Proofs.YtlilahgndpdkfaaDoor

/-
  What the timeline's reference says of a line.
-/
namespace Go.Proofs.YtlilahgndpdkfaaDoor
open Go Go.Abs

set_option maxHeartbeats 1000000 in
theorem r_loop2 {l : List Pt} {t : Tok} {s p : Int} {S : Store} (hl : ∀ q ∈ l, q.Ok) (h1 : 1 ≤ l.length) (h2 : l.length ≤ 1000000) (hp1 : p ≤ 10000) :
    iter (fun st => F43_L2 call S.length (.sl (pts l) t) (i64 p) (.osl S.length 0 l.length 1) (st.1.getD 0 .u) st.2) ([i64 1], S ++ [.obj ((mark2 l s p 1).map .bool)]) = some (.exit 2, [], S ++ [.obj (((List.range l.length).map (rejP l s p)).map .bool)]) := by
  by_cases hp : 0 < p
  · have hb : Nat.blt S.length S.length = false := blt_false (Nat.le_refl _)
    by_cases hl2 : 2 ≤ l.length
    · have key := iter_run (step := fun st => F43_L2 call S.length (.sl (pts l) t) (i64 p) (.osl S.length 0 l.length 1) (st.1.getD 0 .u) st.2)
        (fun k => ([i64 (k : Nat)], S ++ [.obj ((mark2 l s p k).map .bool)])) (r := (Ex.exit 2, [], S ++ [.obj ((mark2 l s p (l.length - 1)).map .bool)])) (l.length - 2) 1
        (fun k k1 k2 => by
          have hk1 : k + 1 < l.length := by omega
          have hk : k < l.length := by omega
          have hkm : k - 1 < l.length := by omega
          have w1 : IntKind.i64.wrap ((k : Int) + 1) = ((k + 1 : Nat) : Int) := wrap_in (by unfold In64; omega)
          have hset : storeV S.length 1 (.ptr S.length k) (.bool true) (S ++ [.obj ((mark2 l s p k).map .bool)]) = some (S ++ [.obj (((mark2 l s p k).set k true).map .bool)]) := by
            simp only [storeV, List.getElem?_concat_length, hb, cond_false, cellsOf, cells1, cell1, Option.bind_some, List.length_cons, List.length_nil, List.length_map, mark2_length]
            rw [if_pos ⟨by trivial, by omega⟩]
            simp only [setC, map_bool_set]
            rw [List.set_append_right _ _ (Nat.le_refl _)]
            simp
          have hr := r_round2 (t := t) (n0 := S.length) (j := S.length) hl h2 hp hp1 k1 hk1 hset
          have hspk : spkP l p k = spikeP l[k - 1] l[k] l[k + 1] p := by
            unfold spkP
            rw [getD_pt hkm, getD_pt hk, getD_pt hk1]
            simp [hp, show 0 < k by omega, hk1]
          have hstep := mark2_step (s := s) (p := p) hk
          rw [hspk] at hstep
          simp only [List.getD_cons_zero]
          rw [hr]
          by_cases hs : spikeP l[k - 1] l[k] l[k + 1] p = true
          · rw [if_pos hs] at hstep ⊢
            unfold F43_J2
            simp only [binV, isShift, cond_false, if_true, binI, Option.bind_some, w1]
            rw [nextS_eq (by simp), hstep]
            rfl
          · rw [if_neg hs] at hstep ⊢
            unfold F43_J2
            simp only [binV, isShift, cond_false, if_true, binI, Option.bind_some, w1]
            rw [nextS_eq (by simp), hstep]
            rfl)
        (by
          have e : 1 + (l.length - 2) = l.length - 1 := by omega
          rw [e]
          have w1 : IntKind.i64.wrap (((l.length - 1 : Nat) : Int) + 1) = (l.length : Int) := by rw [wrap_in (by unfold In64; omega)]; omega
          simp [F43_L2, w1])
      rw [mark2_end (k := l.length - 1) (.inr (by omega))] at key
      exact key
    · have e : l.length = 1 := by omega
      rw [mark2_end (k := 1) (.inr (by omega)), iter_eq]
      have w1 : IntKind.i64.wrap ((1 : Int) + 1) = 2 := by decide
      have n : ¬ (2 : Int) < (l.length : Int) := by omega
      simp [F43_L2, w1, n]
  · rw [mark2_end (k := 1) (.inl hp), iter_eq]
    have w1 : IntKind.i64.wrap ((1 : Int) + 1) = 2 := by decide
    by_cases n : (2 : Int) < (l.length : Int)
    · simp [F43_L2, w1, n, hp]
    · simp [F43_L2, w1, n]

theorem r_rejected {l : List Pt} {t : Tok} {s p : Int} (hl : ∀ q ∈ l, q.Ok) (hs : l.Pairwise fun a b => a.time < b.time) (h1 : 1 ≤ l.length) (h2 : l.length ≤ 1000000) (h4 : s ≤ 10000) (hp1 : p ≤ 10000) (S : Store) :
    call 43 [.sl (pts l) t, i64 s, i64 p] S = some (.sl (bools ((List.range l.length).map (rejP l s p))) .none, S) := by
  rw [k43]
  unfold F43
  have e1 := r_loop1 (t := t) (s := s) (p := p) (S := S) hl hs h1 h2 h4
  have e2 := r_loop2 (t := t) (s := s) (p := p) (S := S) hl h1 h2 hp1
  rw [mark2_one] at e2
  have hroom : room = 4294967296 := rfl
  have hz : msliceV [.bool false] (.int .i64 l.length) (.int .i64 l.length) S = some (.osl S.length 0 l.length 1, S ++ [.obj ((List.replicate l.length false).map .bool)]) := by
    simp only [msliceV]
    rw [if_pos ⟨by omega, by omega, by omega⟩, Int.toNat_natCast, zero_flat]
    rfl
  have hf := fin1_flat (S := S ++ [.obj (((List.range l.length).map (rejP l s p)).map .bool)]) (n := S.length) (i := S.length) (sz := 1) (xs := bools ((List.range l.length).map (rejP l s p))) (Nat.le_refl _) (by rw [bools_flat]; simp) bools_row
  simp only [bools_length, List.length_map, List.length_range] at hf
  refine bind_of (by simp [lenV] <;> rfl) ?_
  refine bind_of (by exact hz) ?_
  refine bind_of (by exact e1) ?_
  refine bind_of (by exact e2) ?_
  show finish false S.length [.osl S.length 0 l.length 1] (S ++ [.obj (((List.range l.length).map (rejP l s p)).map .bool)]) = _
  rw [finish_eq (vs' := [.sl (bools ((List.range l.length).map (rejP l s p))) .none]) (by simp only [fins, hf, Option.bind_some]) (by simp [belows, below])]
  simp

end Go.Proofs.YtlilahgndpdkfaaDoor

/-
  What the timeline's reference says of the line of a name and an element.
-/
namespace Go.Proofs.YtlilahgndpdkfaaDoor
open Go Go.Abs

/-- The place of a new reading. -/
theorem r_place {Q : List Pt} {tk : Tok} {r : Rep} {S : Store} {n0 : Nat} {a8 a10 a16 : AV} (hQ : Q.length ≤ 1000000) :
    iter (fun s => F42_L2 call n0 (.sl (pts Q) tk) a8 (.ip (repR r) 0) a10 a16 (s.1.getD 0 .u) s.2) ([i64 0], S) = some (.exit 2, [i64 (posT r.time Q : Nat)], S) := by
  have hle := posT_le r.time Q
  have key := iter_run (step := fun s => F42_L2 call n0 (.sl (pts Q) tk) a8 (.ip (repR r) 0) a10 a16 (s.1.getD 0 .u) s.2) (fun k => ([i64 (k : Nat)], S)) (r := (Ex.exit 2, [i64 (posT r.time Q : Nat)], S)) (posT r.time Q) 0
    (fun k _ hk => by
      have hkl : k < Q.length := by omega
      have hlt : (k : Int) < (Q.length : Int) := by omega
      have h1 := posT_lt (t := r.time) (l := Q) (j := k) (by omega) hkl
      have w1 : IntKind.i64.wrap ((k : Int) + 1) = (k : Int) + 1 := wrap_in (by unfold In64; omega)
      simp [F42_L2, hlt, indexAV, at_pts hkl, ptR, repR, h1, w1, nextS_same])
    (by
      simp only [Nat.zero_add]
      by_cases hc : posT r.time Q < Q.length
      · have hlt : (posT r.time Q : Int) < (Q.length : Int) := by omega
        have h1 := posT_at (t := r.time) (l := Q) hc
        simp [F42_L2, hlt, indexAV, at_pts hc, ptR, repR, h1]
      · have hlt : ¬ (posT r.time Q : Int) < (Q.length : Int) := by omega
        simp [F42_L2, hlt])
  exact key

/-- A reading put in. -/
theorem r_put {Q : List Pt} {tk : Tok} {S : Store} {p : Pt} {k : Nat} (hk : k ≤ Q.length) (hQ : Q.length ≤ 1000000) :
    ∃ v44 v45 S1 v46 j S2, sliceV 3 (.sl (pts Q) tk) (some (.int .i64 (k : Int))) none none = some v44 ∧ appendV 3 (.sl [ptR p] .full) v44 S = some (v45, S1) ∧ sliceV 3 (.sl (pts Q) tk) none (some (.int .i64 (k : Int))) (some (.int .i64 (k : Int))) = some v46 ∧
      appendV 3 v46 v45 S1 = some (.sl (pts (Q.take k ++ p :: Q.drop k)) (.own j), S2) ∧ S.length ≤ j ∧ ∃ es, S2 = S ++ es := by
  have hroom : room = 4294967296 := rfl
  have hrow : ∀ l : List Pt, immRows 3 (pts l) = some (pts l) := fun l => immRows_self pts_row
  have hsz : ∀ l : List Pt, szOK 3 (pts l) = true := fun l => by cases l <;> rfl
  have hd : (pts Q).drop k = pts (Q.drop k) := by simp [pts, List.map_drop]
  have ht : (pts Q).take k = pts (Q.take k) := by simp [pts, List.map_take]
  have e1 : sliceV 3 (.sl (pts Q) tk) (some (.int .i64 (k : Int))) none none = some (.sl (pts (Q.drop k)) (sliceTok none none tk)) := by
    simp only [sliceV, bound, pts_length, Option.bind_some]
    rw [show (if 0 ≤ (k : Int) ∧ (k : Int) ≤ (Q.length : Int) then some (k : Int).toNat else none) = some k by rw [if_pos ⟨by omega, by omega⟩]; simp]
    simp only [Option.bind_some, mxFits, hsz, Bool.and_true, cond_true]
    rw [show (pts Q).take Q.length = pts Q by rw [List.take_of_length_le (by simp)], hd]
  have e3 : sliceV 3 (.sl (pts Q) tk) none (some (.int .i64 (k : Int))) (some (.int .i64 (k : Int))) = some (.sl (pts (Q.take k)) .full) := by
    simp only [sliceV, bound, pts_length]
    rw [show (if 0 ≤ (k : Int) ∧ (k : Int) ≤ (Q.length : Int) then some (k : Int).toNat else none) = some k by rw [if_pos ⟨by omega, by omega⟩]; simp]
    simp only [Option.bind_some, mxFits, beq_self_eq_true, hsz, Bool.and_true, cond_true, List.drop_zero, ht, sliceTok]
  by_cases hend : Q.drop k = []
  · refine ⟨_, .sl [ptR p] .full, S, _, S.length, S ++ [.tail (k + 1) 3], e1, ?_, e3, ?_, Nat.le_refl _, _, rfl⟩
    · rw [hend]; simp [appendV, pts, immRows]
    · have hp1 : [ptR p] = pts [p] := rfl
      have hlen : (Q.take k).length = k := by simp; omega
      simp only [appendV, rowsOf_sl, Option.bind_some, hp1, hrow]
      rw [show pts [p] = [ptR p] from rfl]
      simp only [List.length_cons, List.length_nil, pts_length, hlen]
      rw [if_pos (by omega)]
      simp only [hsz, cond_true, hend]
      simp [pts]
  · have hlen : (Q.take k).length = k := by simp; omega
    obtain ⟨y, ys, hy⟩ : ∃ y ys, pts (Q.drop k) = y :: ys := by
      cases h : Q.drop k with
      | nil => exact absurd h hend
      | cons a l => exact ⟨_, _, rfl⟩
    have hdl : (Q.drop k).length ≤ Q.length := by simp
    have hr : pts (p :: Q.drop k) = ptR p :: pts (Q.drop k) := rfl
    refine ⟨_, .sl (pts (p :: Q.drop k)) (.own S.length), S ++ [.tail ((Q.drop k).length + 1) 3], _, S.length + 1, S ++ [.tail ((Q.drop k).length + 1) 3] ++ [.tail (k + ((Q.drop k).length + 1)) 3], e1, ?_, e3, ?_, by omega, _, List.append_assoc _ _ _⟩
    · have h1 := hrow (Q.drop k)
      have h2 : (pts (Q.drop k)).length = (Q.drop k).length := by simp
      rw [hy] at h1 h2 ⊢
      simp only [appendV, rowsOf_sl, Option.bind_some, h1]
      rw [if_pos (by simp only [List.length_cons, List.length_nil] at h2 ⊢; omega)]
      simp only [szOK, ptR, List.length_cons, List.length_nil, Nat.beq_refl, cond_true]
      rw [hr, hy]
      simp only [List.length_cons] at h2
      simp [ptR, ← h2, Nat.add_comm]
    · have h1 := hrow (p :: Q.drop k)
      simp only [appendV, rowsOf_sl, Option.bind_some, h1]
      rw [hr]
      have h2 : (pts (Q.drop k)).length = (Q.drop k).length := by simp
      simp only [List.length_cons, h2, pts_length, hlen]
      rw [if_pos (by omega)]
      simp only [hsz, cond_true, List.length_append, List.length_cons, List.length_nil]
      simp [pts]

def plainTok (n : Nat) (tk : Tok) : Prop := tk = .full ∨ ∃ j, tk = .own j ∧ n ≤ j

set_option maxHeartbeats 2000000 in
theorem r_line {l : List Rep} {t : Tok} {x : Key} (hg : Abs.Good l) (hl : l.length ≤ 1000000) (hla : (allR l 0).length ≤ 1000000) (S : Store) :
    ∃ tk, call 42 [.sl (reps l) t, .str x.1, i64 x.2] S = some (.sl (pts (lineP l x)) tk, S) := by
  rw [k42]
  unfold F42
  have key := iter_to (step := fun s => F42_L1 call S.length (.str x.1) (i64 x.2) (.sl (reps l) t) (i64 l.length) (s.1.getD 0 .u) (s.1.getD 1 .u) s.2)
    (fun k s => ∃ Q tk S1, s = ([.sl (pts Q) tk, i64 (k : Nat)], S1) ∧ Q.Perm (ptsOf (allR (l.take k) 0) x) ∧ Q.Pairwise (fun a b => a.time < b.time) ∧ plainTok S.length tk ∧ ∃ es, S1 = S ++ es)
    (fun r => ∃ Q tk S1, r = (.exit 0, [.sl (pts Q) tk], S1) ∧ Q.Perm (ptsOf (allR l 0) x) ∧ Q.Pairwise (fun a b => a.time < b.time) ∧ plainTok S.length tk ∧ ∃ es, S1 = S ++ es) l.length
    (fun k s hk ⟨Q, tk, S1, hs, h1, h2, h3, es, h4⟩ => by
      subst hs
      have hlt : (k : Int) < (l.length : Int) := by omega
      have w1 : IntKind.i64.wrap ((k : Int) + 1) = (k : Int) + 1 := wrap_in (by unfold In64; omega)
      have hv := hg.valid l[k] (List.getElem_mem hk)
      have hrd : l[k].rd.length ≤ 1000000 := by
        have : allR l 0 = allR (l.take (k + 1)) 0 ++ allR (l.drop (k + 1)) (0 + (l.take (k + 1)).length) := by rw [← allR_append, List.take_append_drop]
        rw [this, allR_take hk] at hla
        simp only [List.length_append, entR, List.length_map] at hla
        omega
      have hfind := r_Find (l := l[k].rd) (t := .none) (c := x.2) hrd S1
      have hent := ent_find (r := l[k]) (i := k) (x := x) hv
      have htk := allR_take hk
      have hat := at_reps hk
      have hQl : Q.length ≤ 1000000 := by
        rw [h1.length_eq]
        have h5 := ptsOf_le (allR (l.take k) 0) x
        have : allR l 0 = allR (l.take k) 0 ++ allR (l.drop k) (0 + (l.take k).length) := by rw [← allR_append, List.take_append_drop]
        rw [this, List.length_append] at hla
        omega
      have same : ptsOf (entR k l[k]) x = [] → ∃ s', F42_J1 call S.length S1.length (.sl (pts Q) tk) (i64 (k : Nat)) S1 = some (.inl s') ∧ ∃ Q tk S1, s' = ([.sl (pts Q) tk, i64 ((k + 1 : Nat) : Int)], S1) ∧ Q.Perm (ptsOf (allR (l.take (k + 1)) 0) x) ∧ Q.Pairwise (fun a b => a.time < b.time) ∧ plainTok S.length tk ∧ ∃ es, S1 = S ++ es := fun h0 => by
        refine ⟨([.sl (pts Q) tk, i64 ((k + 1 : Nat) : Int)], S1), ?_, Q, tk, S1, rfl, ?_, h2, h3, es, h4⟩
        · unfold F42_J1
          simp only [binV, isShift, cond_false, if_true, binI, Option.bind_some, w1, nextS_same]
          rfl
        · rw [htk, ptsOf_append, h0, List.append_nil]; exact h1
      simp only [List.getD_cons_zero, List.getD_cons_succ]
      by_cases hn : l[k].name = x.1
      · rw [if_pos hn] at hent
        cases hf : findP l[k].rd x.2 with
        | none =>
          rw [hf] at hent hfind
          obtain ⟨s', e1, e2⟩ := same hent
          refine ⟨s', ?_, e2⟩
          rw [← e1]
          unfold F42_L1
          simp only []
          repeat (first
            | rfl
            | refine cond_t (by rfl) ?_
            | refine cond_f (by rfl) ?_
            | refine ite_of (by rfl) ?_
            | refine bind_of (by simp [-loadV, -storeV, -Int.natCast_add, loadV_ip, hlt, indexAV, hat, repR, hfind, extractV, hn] <;> rfl) ?_)
        | some v =>
          rw [hf] at hent hfind
          simp only at hent
          have hpl := r_place (Q := Q) (tk := tk) (r := l[k]) (S := S1) (n0 := S.length) (a8 := i64 (k : Nat)) (a10 := i64 v) (a16 := i64 (k : Nat)) hQl
          obtain ⟨v44, v45, S2, v46, j, S3, p1, p2, p3, p4, p5, es2, p6⟩ := r_put (Q := Q) (tk := tk) (S := S1) (p := ⟨k, l[k].time, v⟩) (posT_le l[k].time Q) hQl
          simp only [repR, i64, hn] at hpl
          simp only [ptR] at p2
          refine ⟨([.sl (pts (putIn ⟨k, l[k].time, v⟩ Q)) (.own j), i64 ((k + 1 : Nat) : Int)], S3), ?_, putIn ⟨k, l[k].time, v⟩ Q, .own j, S3, rfl, ?_, ?_, .inr ⟨j, rfl, by rw [h4] at p5; simp at p5; omega⟩, es ++ es2, by rw [p6, h4, List.append_assoc]⟩
          · have hJ : F42_J1 call S.length S1.length (.sl (pts (putIn ⟨k, l[k].time, v⟩ Q)) (.own j)) (i64 (k : Nat)) S3 = some (.inl ([.sl (pts (putIn ⟨k, l[k].time, v⟩ Q)) (.own j), i64 ((k + 1 : Nat) : Int)], S3)) := by
              unfold F42_J1
              simp only [binV, isShift, cond_false, if_true, binI, Option.bind_some, w1]
              simp [nextS, belows, below, blt_false p5]
            rw [← hJ]
            unfold F42_L1
            simp only []
            repeat (first
              | refine cond_t (by rfl) ?_
              | refine cond_f (by rfl) ?_
              | refine ite_of (by rfl) ?_
              | refine bind_of (by simp [-loadV, hlt, indexAV, hat, repR, hfind, extractV, hn, loadV_ip] <;> rfl) ?_)
            refine bind_of (by exact hpl) ?_
            simp only [exK_exit, Nat.beq_refl, cond_true]
            refine bind_of (by simp <;> rfl) ?_
            refine bind_of (by simp <;> rfl) ?_
            refine bind_of (by simp [buildV, fillC, setC] <;> rfl) ?_
            refine bind_of (by simp [bsliceV, immRows] <;> rfl) ?_
            refine bind_of (by exact p1) ?_
            refine bind_of (by exact p2) ?_
            refine bind_of (by exact p3) ?_
            refine bind_of (by exact p4) ?_
            rfl
          · rw [htk, ptsOf_append, hent]
            exact (putIn_perm _ _).trans ((h1.cons _).trans (List.perm_append_singleton _ _).symm)
          · refine putIn_sorted h2 fun q hq => ?_
            have hq' := h1.mem_iff.1 hq
            have hnd := hg.times x
            have hsplit : allR l 0 = allR (l.take (k + 1)) 0 ++ allR (l.drop (k + 1)) (0 + (l.take (k + 1)).length) := by rw [← allR_append, List.take_append_drop]
            rw [hsplit, htk, ptsOf_append, ptsOf_append, hent, List.map_append, List.map_append] at hnd
            have h6 := (List.nodup_append.1 (List.nodup_append.1 hnd).1).2.2 q.time (List.mem_map.2 ⟨q, hq', rfl⟩) l[k].time (by simp)
            exact h6
      · rw [if_neg hn] at hent
        obtain ⟨s', e1, e2⟩ := same hent
        refine ⟨s', ?_, e2⟩
        rw [← e1]
        unfold F42_L1
        simp only []
        cases hf : findP l[k].rd x.2 with
        | none =>
          rw [hf] at hfind
          repeat (first
            | rfl
            | refine cond_t (by rfl) ?_
            | refine cond_f (by rfl) ?_
            | refine ite_of (by rfl) ?_
            | refine bind_of (by simp [-loadV, -storeV, -Int.natCast_add, loadV_ip, hlt, indexAV, hat, repR, hfind, extractV, hn] <;> rfl) ?_)
        | some v =>
          rw [hf] at hfind
          repeat (first
            | rfl
            | refine cond_t (by rfl) ?_
            | refine cond_f (by rfl) ?_
            | refine ite_of (by rfl) ?_
            | refine bind_of (by simp [-loadV, -storeV, -Int.natCast_add, loadV_ip, hlt, indexAV, hat, repR, hfind, extractV, hn] <;> rfl) ?_))
    (fun s ⟨Q, tk, S1, hs, h1, h2, h3, h4⟩ => by
      subst hs
      rw [List.take_length] at h1
      exact ⟨(.exit 0, [.sl (pts Q) tk], S1), by simp [F42_L1], Q, tk, S1, rfl, h1, h2, h3, h4⟩) 0 ([.sl [] .full, i64 0], S) (Nat.zero_le _) ⟨[], .full, S, rfl, by simp [allR, ptsOf], .nil, .inl rfl, [], by simp⟩
  obtain ⟨r, k1, Q, tk, S1, rfl, h1, h2, h3, es, rfl⟩ := key
  have hQ := line_unique hg h2 h1
  subst hQ
  refine ⟨(match tk with | .own _ => .none | tk => tk), ?_⟩
  refine bind_of (by simp [lenV] <;> rfl) ?_
  refine bind_of (by exact k1) ?_
  show finish false S.length [.sl (pts (lineP l x)) tk] (S ++ es) = _
  rcases h3 with rfl | ⟨j, rfl, hj⟩
  · rw [finish_eq (vs' := [.sl (pts (lineP l x)) .full]) rfl (by simp [belows, below])]; simp
  · rw [finish_eq (vs' := [.sl (pts (lineP l x)) .none]) (by simp only [fins, fin1, blt_false hj, cond_false, Option.bind_some]) (by simp [belows, below])]; simp

end Go.Proofs.YtlilahgndpdkfaaDoor

/-
  What the timeline's reference answers: the whole; and how flags are compared.
-/
namespace Go.Proofs.YtlilahgndpdkfaaDoor
open Go Go.Abs

theorem s_CheckErr {l : List Rep} {t : Tok} {k : Ctl} (hk : k.Fit) (hl : l.length ≤ 1000000) (hr : ∀ r ∈ l, r.rd.length ≤ 1000000) (he : examP l k ≠ 0) (S : Store) :
    call 17 [.sl (reps l) t, .agg (ctlC k)] S = some (.tup [.sl [] .full, i64 (examP l k)], S) := by
  rw [k17]
  unfold F17
  have hexam := s_examine (l := l) (t := t) (k := k) hk hl (fun r h => by have := hr r h; omega) S
  have himm : imms (ctlC k) = some (ctlC k) := by
    have := imms_i64s (k.hops :: (k.steps ++ k.spikes ++ k.rest))
    simpa [ctlC] using this
  have hlc : (ctlC k).length = 41 := by simp [ctlC, hk.steps, hk.spikes, hk.rest]
  have hta : takeC (some 41) (ctlC k) 0 = some (.agg (ctlC k)) := by
    simp only [takeC]
    rw [if_pos (by omega), List.drop_zero, List.take_of_length_le (by omega)]
  refine bind_of (by simp [himm] <;> rfl) ?_
  refine bind_of (by simp only [List.getD_cons_zero, loadV_ip, hta] <;> rfl) ?_
  refine bind_of (by simp [himm] <;> rfl) ?_
  refine bind_of (by simp [hexam] <;> rfl) ?_
  refine bind_of (a := .bool true) (by simp [he]) ?_
  refine cond_t rfl ?_
  simp [finish]

/-- Flags compared. -/
theorem r_Flags {a b : List (Int × Int)} {t u : Tok} (ha : a.length ≤ 1000000) (S : Store) : call 19 [.sl (flagRows a) t, .sl (flagRows b) u] S = some (.bool (decide (a = b)), S) := by
  rw [k19]
  unfold F19
  by_cases hlen : a.length = b.length
  · have hlen' : ((a.length : Int) = (b.length : Int)) := by omega
    have hata : ∀ (k : Nat) (hk : k < a.length), at? (flagRows a) (k : Int) = some (flagR a[k]) := fun k hk => by rw [at_nat]; simp [flagRows, hk]
    have hatb : ∀ (k : Nat) (hk : k < b.length), at? (flagRows b) (k : Int) = some (flagR b[k]) := fun k hk => by rw [at_nat]; simp [flagRows, hk]
    have key := iter_scan (step := fun s => F19_L1 call S.length (.sl (flagRows a) t) (.sl (flagRows b) u) (s.1.getD 0 .u) s.2) (S := S) (fun k => !(decide (a.getD k (0, 0) = b.getD k (0, 0)))) (rT := fun _ => (Ex.ret, [.bool false], S)) (rE := (Ex.exit 0, [.u], S)) a.length 0
      (fun k k1 k2 => by
        have hk : k < a.length := by omega
        have hkb : k < b.length := by omega
        have hlt : (k : Int) < (a.length : Int) := by omega
        have w1 : IntKind.i64.wrap ((k : Int) + 1) = (k : Int) + 1 := wrap_in (by unfold In64; omega)
        have e1 : a.getD k (0, 0) = a[k] := by rw [List.getD_eq_getElem?_getD, List.getElem?_eq_getElem hk]; rfl
        have e2 : b.getD k (0, 0) = b[k] := by rw [List.getD_eq_getElem?_getD, List.getElem?_eq_getElem hkb]; rfl
        rw [e1, e2]
        by_cases hc : a[k] = b[k]
        · simp [F19_L1, hlt, indexAV, hata k hk, hatb k hkb, flagR, hc, eqcV, eqs, eq1, w1, nextS_same]
        · have hc' : ¬ (a[k].1 = b[k].1 ∧ a[k].2 = b[k].2) := fun h => hc (Prod.ext h.1 h.2)
          by_cases h1 : a[k].1 = b[k].1
          · have h2 : ¬ a[k].2 = b[k].2 := fun h => hc' ⟨h1, h⟩
            simp [F19_L1, hlt, indexAV, hata k hk, hatb k hkb, flagR, hc, eqcV, eqs, eq1, h1, h2]
          · simp [F19_L1, hlt, indexAV, hata k hk, hatb k hkb, flagR, hc, eqcV, eqs, eq1, h1])
      (by simp [F19_L1])
    simp only [Int.natCast_zero, i64] at key
    rcases key with ⟨k, k1, k2, k3, k4, k5⟩ | ⟨k1, k2⟩
    · have hne : ¬ a = b := fun h => by subst h; simp at k3
      simp [-List.getD_eq_getElem?_getD, List.getD_cons_zero, List.getD_cons_succ, lenV, hlen', k5, hne]
    · have heq : a = b := by
        apply List.ext_getElem hlen
        intro i h1 h2
        have := k1 i (Nat.zero_le _) (by omega)
        rw [List.getD_eq_getElem?_getD, List.getElem?_eq_getElem h1, List.getD_eq_getElem?_getD, List.getElem?_eq_getElem h2] at this
        simpa using this
      subst heq
      simp [-List.getD_eq_getElem?_getD, List.getD_cons_zero, List.getD_cons_succ, lenV, k2]
  · have hlen' : ¬ ((a.length : Int) = (b.length : Int)) := by omega
    have hne : ¬ a = b := fun h => hlen (by rw [h])
    simp [lenV, hlen', hlen, hne]

end Go.Proofs.YtlilahgndpdkfaaDoor

/-
  The timeline's reference: what it examines.
-/
namespace Go.Proofs.YtlilahgndpdkfaaDoor
open Go Go.Abs

def badN (n : Int) : Bool := decide (n < 0) || decide (10000 < n)

theorem ctl_at {k : Ctl} (hk : k.Fit) {j : Nat} (hj : j < 12) :
    indexAV 1 (some 12) (.ip (ctlC k) 1) (.int .i64 (j : Int)) = some (.ip (ctlC k) (1 + j)) ∧ takeC none (ctlC k) (1 + j) = some (i64 (k.steps.getD j 0)) ∧
    indexAV 1 (some 12) (.ip (ctlC k) 13) (.int .i64 (j : Int)) = some (.ip (ctlC k) (13 + j)) ∧ takeC none (ctlC k) (13 + j) = some (i64 (k.spikes.getD j 0)) := by
  refine ⟨by simp only [indexAV]; rw [if_pos ⟨by omega, by omega⟩]; simp, ?_, by simp only [indexAV]; rw [if_pos ⟨by omega, by omega⟩]; simp, ?_⟩
  · show (ctlC k)[1 + j]? = _
    unfold ctlC
    rw [Nat.add_comm, List.getElem?_cons_succ, List.getElem?_map, List.append_assoc, List.getElem?_append_left (by rw [hk.steps]; exact hj), List.getElem?_eq_getElem (by rw [hk.steps]; exact hj)]
    simp [hk.steps, hj]
  · show (ctlC k)[13 + j]? = _
    unfold ctlC
    rw [show 13 + j = 12 + j + 1 by omega, List.getElem?_cons_succ, List.getElem?_map, List.append_assoc, List.getElem?_append_right (by rw [hk.steps]; omega), hk.steps, show 12 + j - 12 = j by omega,
      List.getElem?_append_left (by rw [hk.spikes]; exact hj), List.getElem?_eq_getElem (by rw [hk.spikes]; exact hj)]
    simp [hk.spikes, hj]

set_option maxHeartbeats 2000000 in
theorem r_loopP {k : Ctl} (hk : k.Fit) (t0 : AV) (S : Store) :
    iter (fun s => F18_L1 call S.length t0 (.ip (ctlC k) 0) (s.1.getD 0 .u) s.2) ([i64 0], S) = some (if possP k.steps && possP k.spikes then (.exit 0, [.u, .u], S) else (.ret, [.sl [] .full, i64 1], S)) := by
  have key := iter_scan (step := fun s => F18_L1 call S.length t0 (.ip (ctlC k) 0) (s.1.getD 0 .u) s.2) (S := S) (fun j => badN (k.steps.getD j 0) || badN (k.spikes.getD j 0)) (rT := fun _ => (Ex.ret, [.sl [] .full, i64 1], S)) (rE := (Ex.exit 0, [.u, .u], S)) 12 0
    (fun j _ hj => by
      obtain ⟨g1, g2, g3, g4⟩ := ctl_at hk (j := j) (by omega)
      have hlt : (j : Int) < 12 := by omega
      have w1 : IntKind.i64.wrap ((j : Int) + 1) = (j : Int) + 1 := wrap_in (by unfold In64; omega)
      generalize k.steps.getD j 0 = a at g2 ⊢
      generalize k.spikes.getD j 0 = b at g4 ⊢
      have hn := nextS_same (b := S.length) (vs := [.int .i64 ((j : Int) + 1)]) (S := S)
      simp only [List.getD_cons_zero]
      unfold badN
      by_cases a1 : a < 0
      · simp only [a1, decide_true, Bool.true_or, if_true]
        unfold F18_L1
        repeat (first
          | rfl
          | refine cond_t (by rfl) ?_
          | refine cond_f (by rfl) ?_
          | refine ite_of (by rfl) ?_
          | refine bind_of (by simp [-loadV, -storeV, -Int.natCast_add, loadV_ip, -take_none, hlt, g1, g2, a1] <;> rfl) ?_)
      · by_cases a2 : 10000 < a
        · simp only [a2, decide_true, Bool.true_or, Bool.or_true, if_true]
          unfold F18_L1
          repeat (first
            | rfl
            | refine cond_t (by rfl) ?_
            | refine cond_f (by rfl) ?_
            | refine ite_of (by rfl) ?_
            | refine bind_of (by simp [-loadV, -storeV, -Int.natCast_add, loadV_ip, -take_none, hlt, g1, g2, a1, a2] <;> rfl) ?_)
        · by_cases b1 : b < 0
          · simp only [a1, a2, b1, decide_true, decide_false, Bool.true_or, Bool.or_true, if_true]
            unfold F18_L1
            repeat (first
              | rfl
              | refine cond_t (by rfl) ?_
              | refine cond_f (by rfl) ?_
              | refine ite_of (by rfl) ?_
              | refine bind_of (by simp [-loadV, -storeV, -Int.natCast_add, loadV_ip, -take_none, hlt, g1, g2, g3, g4, a1, a2, b1] <;> rfl) ?_)
          · by_cases b2 : 10000 < b
            · simp only [a1, a2, b1, b2, decide_true, decide_false, Bool.true_or, Bool.or_true, if_true]
              unfold F18_L1
              repeat (first
                | rfl
                | refine cond_t (by rfl) ?_
                | refine cond_f (by rfl) ?_
                | refine ite_of (by rfl) ?_
                | refine bind_of (by simp [-loadV, -storeV, -Int.natCast_add, loadV_ip, -take_none, hlt, g1, g2, g3, g4, a1, a2, b1, b2] <;> rfl) ?_)
            · simp only [a1, a2, b1, b2, decide_false, Bool.or_false, Bool.false_eq_true, if_false]
              unfold F18_L1
              repeat (first
                | rfl
                | refine cond_t (by rfl) ?_
                | refine cond_f (by rfl) ?_
                | refine ite_of (by rfl) ?_
                | refine bind_of (by simp [-loadV, -storeV, -Int.natCast_add, loadV_ip, -take_none, hlt, g1, g2, g3, g4, a1, a2, b1, b2, w1, hn] <;> rfl) ?_))
    (by simp [F18_L1])
  simp only [Int.natCast_zero] at key
  have poss : ∀ l : List Int, l.length = 12 → (possP l = true ↔ ∀ j, j < 12 → badN (l.getD j 0) = false) := fun l hl => by
    unfold possP badN
    simp only [Bool.not_eq_true', List.any_eq_false]
    constructor
    · intro h j hj
      have := h (l.getD j 0) (by rw [List.getD_eq_getElem?_getD, List.getElem?_eq_getElem (by omega)]; exact List.getElem_mem _)
      simpa using this
    · intro h n hn
      obtain ⟨j, hj, rfl⟩ := List.getElem_of_mem hn
      have := h j (by omega)
      rw [List.getD_eq_getElem?_getD, List.getElem?_eq_getElem hj] at this
      simpa using this
  rcases key with ⟨j, j1, j2, j3, j4, j5⟩ | ⟨j1, j2⟩
  · rw [j5]
    have : ¬ (possP k.steps && possP k.spikes) = true := fun h => by
      simp only [Bool.and_eq_true] at h
      rw [(poss _ hk.steps).1 h.1 j (by omega), (poss _ hk.spikes).1 h.2 j (by omega)] at j3
      cases j3
    rw [if_neg this]
  · rw [j2]
    have : (possP k.steps && possP k.spikes) = true := by
      simp only [Bool.and_eq_true]
      refine ⟨(poss _ hk.steps).2 fun j hj => ?_, (poss _ hk.spikes).2 fun j hj => ?_⟩
      · have := j1 j (Nat.zero_le _) (by omega)
        simp only [Bool.or_eq_false_iff] at this
        exact this.1
      · have := j1 j (Nat.zero_le _) (by omega)
        simp only [Bool.or_eq_false_iff] at this
        exact this.2
    rw [if_pos this]

theorem r_loopV {l : List Rep} {t : Tok} (hl : l.length ≤ 1000000) (hr : ∀ r ∈ l, r.rd.length ≤ 1000000) (t3 : AV) (S : Store) :
    iter (fun s => F18_L2 call S.length (.sl (reps l) t) t3 (.sl (reps l) t) (i64 l.length) (s.1.getD 0 .u) s.2) ([i64 0], S) = some (if firstP l = 0 then (.exit 2, [.u, .u], S) else (.ret, [.sl [] .full, i64 (firstP l)], S)) := by
  have key := iter_scan (step := fun s => F18_L2 call S.length (.sl (reps l) t) t3 (.sl (reps l) t) (i64 l.length) (s.1.getD 0 .u) s.2) (S := S) (fun j => !decide (validP (l.getD j ⟨0, [], 0, 0, 0, 0, 0, []⟩).rd = 0)) (rT := fun j => (Ex.ret, [.sl [] .full, i64 (validP (l.getD j ⟨0, [], 0, 0, 0, 0, 0, []⟩).rd)], S)) (rE := (Ex.exit 2, [.u, .u], S)) l.length 0
    (fun j j1 j2 => by
      have hj : j < l.length := by omega
      have hlt : (j : Int) < (l.length : Int) := by omega
      have hg : l.getD j ⟨0, [], 0, 0, 0, 0, 0, []⟩ = l[j] := by rw [List.getD_eq_getElem?_getD, List.getElem?_eq_getElem hj]; rfl
      rw [hg]
      have hv := r_Validate (l := l[j].rd) (t := .none) (hr _ (List.getElem_mem hj)) S
      have w1 : IntKind.i64.wrap ((j : Int) + 1) = (j : Int) + 1 := wrap_in (by unfold In64; omega)
      have hat' := at_reps hj
      by_cases h0 : validP l[j].rd = 0
      · rw [h0] at hv
        simp [F18_L2, hlt, indexAV, hat', repR, hv, h0, w1, nextS_same]
      · simp [F18_L2, hlt, indexAV, hat', repR, hv, h0])
    (by simp [F18_L2])
  simp only [Int.natCast_zero] at key
  rcases key with ⟨j, j1, j2, j3, j4, j5⟩ | ⟨j1, j2⟩
  · have hj : j < l.length := by omega
    have hg : l.getD j ⟨0, [], 0, 0, 0, 0, 0, []⟩ = l[j] := by rw [List.getD_eq_getElem?_getD, List.getElem?_eq_getElem hj]; rfl
    rw [hg] at j3 j5
    have hv : validP l[j].rd ≠ 0 := by simpa using j3
    have hf := firstP_at hj hv fun i hi => by
      have := j4 i (Nat.zero_le _) hi
      rw [List.getD_eq_getElem?_getD, List.getElem?_eq_getElem (by omega)] at this
      simpa using this
    rw [hf, if_neg hv, j5]
  · have hf : firstP l = 0 := firstP_all.2 fun r hr => by
      obtain ⟨i, hi, rfl⟩ := List.getElem_of_mem hr
      have := j1 i (Nat.zero_le _) (by omega)
      rw [List.getD_eq_getElem?_getD, List.getElem?_eq_getElem hi] at this
      simpa using this
    rw [if_pos hf, j2]

theorem r_loopT {l : List Rep} {t : Tok} (hl : l.length ≤ 1000000) (t3 : AV) (S : Store) :
    iter (fun s => F18_L3 call S.length (.sl (reps l) t) t3 (.sl (reps l) t) (i64 l.length) (s.1.getD 0 .u) s.2) ([i64 0], S) = some (if (l.all fun r => inP r.time) = true then (.exit 4, [.u, .u], S) else (.ret, [.sl [] .full, i64 1], S)) := by
  have key := iter_scan (step := fun s => F18_L3 call S.length (.sl (reps l) t) t3 (.sl (reps l) t) (i64 l.length) (s.1.getD 0 .u) s.2) (S := S) (fun j => !inP (l.getD j ⟨0, [], 0, 0, 0, 0, 0, []⟩).time) (rT := fun _ => (Ex.ret, [.sl [] .full, i64 1], S)) (rE := (Ex.exit 4, [.u, .u], S)) l.length 0
    (fun j j1 j2 => by
      have hj : j < l.length := by omega
      have hlt : (j : Int) < (l.length : Int) := by omega
      have hg : l.getD j ⟨0, [], 0, 0, 0, 0, 0, []⟩ = l[j] := by rw [List.getD_eq_getElem?_getD, List.getElem?_eq_getElem hj]; rfl
      rw [hg]
      have hv := r_In l[j].time S
      have w1 : IntKind.i64.wrap ((j : Int) + 1) = (j : Int) + 1 := wrap_in (by unfold In64; omega)
      have hat' := at_reps hj
      cases h0 : inP l[j].time with
      | true =>
        rw [h0] at hv
        simp [F18_L3, hlt, indexAV, hat', repR, hv, w1, nextS_same]
      | false =>
        rw [h0] at hv
        simp [F18_L3, hlt, indexAV, hat', repR, hv])
    (by simp [F18_L3])
  simp only [Int.natCast_zero] at key
  rcases key with ⟨j, j1, j2, j3, j4, j5⟩ | ⟨j1, j2⟩
  · have hj : j < l.length := by omega
    have hg : l.getD j ⟨0, [], 0, 0, 0, 0, 0, []⟩ = l[j] := by rw [List.getD_eq_getElem?_getD, List.getElem?_eq_getElem hj]; rfl
    rw [hg] at j3
    have : ¬ (l.all fun r => inP r.time) = true := fun h => by
      have := List.all_eq_true.1 h l[j] (List.getElem_mem hj)
      rw [this] at j3; cases j3
    rw [if_neg this, j5]
  · have : (l.all fun r => inP r.time) = true := List.all_eq_true.2 fun r hr => by
      obtain ⟨i, hi, rfl⟩ := List.getElem_of_mem hr
      have := j1 i (Nat.zero_le _) (by omega)
      rw [List.getD_eq_getElem?_getD, List.getElem?_eq_getElem hi] at this
      simpa using this
    rw [if_pos this, j2]

end Go.Proofs.YtlilahgndpdkfaaDoor

/-
  The timeline's reference: reports that are there twice.
-/
namespace Go.Proofs.YtlilahgndpdkfaaDoor
open Go Go.Abs

abbrev rep0 : Rep := ⟨0, [], 0, 0, 0, 0, 0, []⟩

theorem getD_rep {l : List Rep} {j : Nat} (hj : j < l.length) : l.getD j rep0 = l[j] := by rw [List.getD_eq_getElem?_getD, List.getElem?_eq_getElem hj]; rfl

set_option maxHeartbeats 1000000 in
theorem r_loopI {l : List Rep} {t : Tok} {i : Nat} (hi : i < l.length) (hl : l.length ≤ 1000000) (a : AV) (S : Store) :
    iter (fun s => F18_L5 call S.length (.sl (reps l) t) (i64 (i : Nat)) a (s.1.getD 0 .u) s.2) ([i64 0], S) = some (if ((List.range i).any fun j => decide (keyR (l.getD i rep0) = keyR (l.getD j rep0))) = true then (.ret, [.sl [] .full, i64 5], S) else (.exit 8, [.u, .u], S)) := by
  have hix : ∀ (q : Nat) (hq : q < l.length), indexAV 8 none (.sl (reps l) t) (.int .i64 (q : Int)) = some (.ip (repR l[q]) 0) := fun q hq => by simp [indexAV, at_reps hq]
  have key := iter_scan (step := fun s => F18_L5 call S.length (.sl (reps l) t) (i64 (i : Nat)) a (s.1.getD 0 .u) s.2) (S := S) (fun j => decide (keyR (l.getD i rep0) = keyR (l.getD j rep0))) (rT := fun _ => (Ex.ret, [.sl [] .full, i64 5], S)) (rE := (Ex.exit 8, [.u, .u], S)) i 0
    (fun j j1 j2 => by
      have hj : j < l.length := by omega
      have hlt : (j : Int) < (i : Int) := by omega
      have w1 : IntKind.i64.wrap ((j : Int) + 1) = (j : Int) + 1 := wrap_in (by unfold In64; omega)
      have h1 := hix i hi
      have h2 := hix j hj
      have hn := nextS_same (b := S.length) (vs := [.int .i64 ((j : Int) + 1)]) (S := S)
      rw [getD_rep hi, getD_rep hj]
      simp only [repR] at h1 h2
      simp only [List.getD_cons_zero]
      by_cases a1 : l[i].name = l[j].name
      · by_cases a2 : l[i].time = l[j].time
        · have : keyR l[i] = keyR l[j] := by simp [keyR, a1, a2]
          simp only [this, decide_true, if_true]
          unfold F18_L5
          repeat (first
            | rfl
            | refine cond_t (by rfl) ?_
            | refine cond_f (by rfl) ?_
            | refine ite_of (by rfl) ?_
            | refine bind_of (by simp [-loadV, -storeV, -Int.natCast_add, loadV_ip, hlt, h1, h2, a1, a2, binS] <;> rfl) ?_)
        · have : ¬ keyR l[i] = keyR l[j] := fun h => a2 (Prod.ext_iff.1 h).2
          have a3 : (l[i].time == l[j].time) = false := by simpa using a2
          simp only [this, decide_false, Bool.false_eq_true, if_false]
          unfold F18_L5
          repeat (first
            | rfl
            | refine cond_t (by rfl) ?_
            | refine cond_f (by rfl) ?_
            | refine ite_of (by rfl) ?_
            | refine bind_of (by simp [-loadV, -storeV, -Int.natCast_add, loadV_ip, hlt, h1, h2, a1, a3, binS, w1, hn] <;> rfl) ?_)
      · have : ¬ keyR l[i] = keyR l[j] := fun h => a1 (Prod.ext_iff.1 h).1
        have a3 : (l[i].name == l[j].name) = false := by simpa using a1
        simp only [this, decide_false, Bool.false_eq_true, if_false]
        unfold F18_L5
        repeat (first
          | rfl
          | refine cond_t (by rfl) ?_
          | refine cond_f (by rfl) ?_
          | refine ite_of (by rfl) ?_
          | refine bind_of (by simp [-loadV, -storeV, -Int.natCast_add, loadV_ip, hlt, h1, h2, a3, binS, w1, hn] <;> rfl) ?_))
    (by simp [F18_L5])
  simp only [Int.natCast_zero] at key
  rcases key with ⟨j, j1, j2, j3, j4, j5⟩ | ⟨j1, j2⟩
  · rw [if_pos (List.any_eq_true.2 ⟨j, List.mem_range.2 (by omega), j3⟩), j5]
  · rw [if_neg (fun h => by
      obtain ⟨j, hj, h2⟩ := List.any_eq_true.1 h
      rw [j1 j (Nat.zero_le _) (by simpa using hj)] at h2; cases h2), j2]

theorem twice_iff {l : List Rep} : twiceP l = true ↔ ∃ i, i < l.length ∧ ((List.range i).any fun j => decide (keyR (l.getD i rep0) = keyR (l.getD j rep0))) = true := by
  unfold twiceP
  simp only [Bool.not_eq_true', decide_eq_false_iff_not]
  rw [List.Nodup, List.pairwise_map, List.pairwise_iff_getElem]
  constructor
  · intro h
    simp only [Classical.not_forall] at h
    obtain ⟨i, j, hi, hj, hij, h⟩ := h
    refine ⟨j, hj, List.any_eq_true.2 ⟨i, List.mem_range.2 hij, ?_⟩⟩
    rw [getD_rep hj, getD_rep hi]
    simp only [decide_eq_true_eq]
    exact (Classical.not_not.1 h).symm
  · rintro ⟨i, hi, h⟩ hn
    obtain ⟨j, hj, h2⟩ := List.any_eq_true.1 h
    have hj' : j < i := List.mem_range.1 hj
    rw [getD_rep hi, getD_rep (by omega)] at h2
    have h3 : keyR l[i] = keyR l[j] := by simpa using h2
    exact hn j i (by omega) hi hj' h3.symm

theorem r_loopD {l : List Rep} {t : Tok} (hl : l.length ≤ 1000000) (t3 : AV) (S : Store) :
    iter (fun s => F18_L4 call S.length (.sl (reps l) t) t3 (i64 l.length) (s.1.getD 0 .u) s.2) ([i64 0], S) = some (if twiceP l = true then (.ret, [.sl [] .full, i64 5], S) else (.exit 6, [.u, .u], S)) := by
  have key := iter_scan (step := fun s => F18_L4 call S.length (.sl (reps l) t) t3 (i64 l.length) (s.1.getD 0 .u) s.2) (S := S) (fun i => (List.range i).any fun j => decide (keyR (l.getD i rep0) = keyR (l.getD j rep0))) (rT := fun _ => (Ex.ret, [.sl [] .full, i64 5], S)) (rE := (Ex.exit 6, [.u, .u], S)) l.length 0
    (fun i i1 i2 => by
      have hi : i < l.length := by omega
      have hlt : (i : Int) < (l.length : Int) := by omega
      have w1 : IntKind.i64.wrap ((i : Int) + 1) = (i : Int) + 1 := wrap_in (by unfold In64; omega)
      have hI := r_loopI (t := t) hi hl (i64 (i : Nat)) S
      cases hc : (List.range i).any fun j => decide (keyR (l.getD i rep0) = keyR (l.getD j rep0)) with
      | true =>
        rw [hc] at hI
        simp only [i64, if_true] at hI
        simp [-List.getD_eq_getElem?_getD, List.getD_cons_zero, List.getD_cons_succ, F18_L4, hlt, hI]
      | false =>
        rw [hc] at hI
        simp only [i64, Bool.false_eq_true, if_false] at hI
        simp [-List.getD_eq_getElem?_getD, List.getD_cons_zero, F18_L4, hlt, hI, w1, nextS_same])
    (by simp [F18_L4])
  simp only [Int.natCast_zero] at key
  rcases key with ⟨i, i1, i2, i3, i4, i5⟩ | ⟨i1, i2⟩
  · rw [if_pos (twice_iff.2 ⟨i, by omega, i3⟩), i5]
  · rw [if_neg (fun h => by
      obtain ⟨i, hi, h2⟩ := twice_iff.1 h
      rw [i1 i (Nat.zero_le _) (by omega)] at h2; cases h2), i2]

end Go.Proofs.YtlilahgndpdkfaaDoor

/-
  The timeline's reference: the flags.
-/
namespace Go.Proofs.YtlilahgndpdkfaaDoor
open Go Go.Abs

theorem flagsOf_ofRep {L : List Pt} {s p c : Int} {k i : Nat} (hk : k < L.length) : ofRep i (flagsOf L s p c (k + 1)) = ofRep i (flagsOf L s p c k) ++ if rejP L s p k = true ∧ L[k].rep = (i : Int) then [((i : Int), c)] else [] := by
  unfold flagsOf ofRep
  rw [List.range_succ, List.filter_append, List.map_append, List.filter_append]
  congr 1
  by_cases h : rejP L s p k = true
  · by_cases h2 : L[k].rep = (i : Int) <;> simp [h, hk, h2]
  · simp [h]

theorem ownV_own {S : Store} {i : Nat} {xs : List (List AV)} : ownV 3 (.sl xs (.own i)) S = some (.sl xs (.own i), S) := rfl

/-- The flags of a reading. -/
theorem r_loopF {L : List Pt} {s p c : Int} {i : Nat} {tl tb : Tok} {R : List (Int × Int)} {S : Store} {a b : AV} (hL : L.length ≤ 1000000) (hR : R.length ≤ 1000000) :
    iter (fun st => F18_L8 call S.length (i64 (i : Nat)) (.ip [i64 c, b] 0) (.sl (pts L) tl) (.sl (bools ((List.range L.length).map (rejP L s p))) tb) a (i64 L.length) (st.1.getD 0 .u) (st.1.getD 1 .u) st.2) ([.sl (flagRows R) (.own S.length), i64 0], S ++ [.tail R.length 3]) =
      some (.exit 14, [.sl (flagRows (R ++ ofRep i (flagsOf L s p c L.length))) (.own S.length)], S ++ [.tail (R ++ ofRep i (flagsOf L s p c L.length)).length 3]) := by
  have hroom : room = 4294967296 := rfl
  have hlen : ∀ n, n ≤ L.length → (ofRep i (flagsOf L s p c n)).length ≤ n := fun n _ => Nat.le_trans (List.length_filter_le _ _) flagsOf_le
  have key := iter_run (step := fun st => F18_L8 call S.length (i64 (i : Nat)) (.ip [i64 c, b] 0) (.sl (pts L) tl) (.sl (bools ((List.range L.length).map (rejP L s p))) tb) a (i64 L.length) (st.1.getD 0 .u) (st.1.getD 1 .u) st.2)
    (fun k => ([.sl (flagRows (R ++ ofRep i (flagsOf L s p c k))) (.own S.length), i64 (k : Nat)], S ++ [.tail (R ++ ofRep i (flagsOf L s p c k)).length 3])) (r := (.exit 14, [.sl (flagRows (R ++ ofRep i (flagsOf L s p c L.length))) (.own S.length)], S ++ [.tail (R ++ ofRep i (flagsOf L s p c L.length)).length 3])) L.length 0
    (fun k _ hk => by
      have hk : k < L.length := by omega
      have hlt : (k : Int) < (L.length : Int) := by omega
      have w1 : IntKind.i64.wrap ((k : Int) + 1) = (k : Int) + 1 := wrap_in (by unfold In64; omega)
      have h1 : indexAV 3 none (.sl (pts L) tl) (.int .i64 (k : Int)) = some (.ip [i64 L[k].rep, i64 L[k].time, i64 L[k].val] 0) := by simp [indexAV, at_pts hk, ptR]
      have hkm : k < ((List.range L.length).map (rejP L s p)).length := by simpa using hk
      have h2 : indexAV 1 none (.sl (bools ((List.range L.length).map (rejP L s p))) tb) (.int .i64 (k : Int)) = some (.ip [.bool (rejP L s p k)] 0) := by simp [indexAV, at_bools hkm]
      have hll := hlen k (by omega)
      have hsucc := flagsOf_ofRep (s := s) (p := p) (c := c) (i := i) hk
      have hJ : ∀ R' : List (Int × Int), F18_J1 call S.length (S ++ [Ent.tail (R ++ ofRep i (flagsOf L s p c k)).length 3]).length (.sl (flagRows R') (.own S.length)) (i64 (k : Nat)) (S ++ [.tail R'.length 3]) = some (.inl ([.sl (flagRows R') (.own S.length), i64 ((k + 1 : Nat) : Int)], S ++ [.tail R'.length 3])) := fun R' => by
        unfold F18_J1
        simp only [binV, isShift, cond_false, if_true, binI, Option.bind_some, w1]
        rw [nextS_eq (by simp)]
        rfl
      have hXl : (R ++ ofRep i (flagsOf L s p c k)).length ≤ 2000000 := by simp only [List.length_append]; omega
      simp only [List.getD_cons_zero, List.getD_cons_succ]
      by_cases hr : L[k].rep = (i : Int)
      · cases hc : rejP L s p k with
        | true =>
          rw [hc] at h2
          rw [if_pos ⟨hc, hr⟩] at hsucc
          rw [hsucc, ← List.append_assoc]
          rw [← hJ]
          generalize R ++ ofRep i (flagsOf L s p c k) = X at hXl ⊢
          have happ : appendV 3 (.sl (flagRows X) (.own S.length)) (.sl [[i64 (i : Int), i64 c, i64 4]] .full) (S ++ [.tail X.length 3]) = some (.sl (flagRows (X ++ [((i : Int), c)])) (.own S.length), S ++ [.tail (X ++ [((i : Int), c)]).length 3]) := by
            simp only [appendV, rowsOf_sl, Option.bind_some, immRows, List.length_cons, List.length_nil, imms, imm1, if_true]
            rw [if_pos (by simp only [flagRows_length]; omega)]
            simp only [List.getElem?_concat_length, flagRows_length]
            rw [if_pos ⟨by trivial, by trivial⟩, List.set_append_right _ _ (Nat.le_refl _)]
            simp [flagRows, flagR]
          unfold F18_L8
          generalize F18_J1 = J
          simp only []
          repeat (first
            | rfl
            | refine cond_t (by rfl) ?_
            | refine cond_f (by rfl) ?_
            | refine ite_of (by rfl) ?_
            | refine bind_of (by simp [-loadV, -storeV, -Int.natCast_add, loadV_ip, -List.length_append, hlt, h1, h2, hr, buildV, fillC, setC, bsliceV, immRows, happ, ownV_own] <;> rfl) ?_)
        | false =>
          rw [hc] at h2
          rw [if_neg (by simp [hc]), List.append_nil] at hsucc
          rw [hsucc, ← hJ]
          generalize R ++ ofRep i (flagsOf L s p c k) = X
          unfold F18_L8
          generalize F18_J1 = J
          simp only []
          repeat (first
            | rfl
            | refine cond_t (by rfl) ?_
            | refine cond_f (by rfl) ?_
            | refine ite_of (by rfl) ?_
            | refine bind_of (by simp [-loadV, -storeV, -Int.natCast_add, loadV_ip, -List.length_append, hlt, h1, h2, hr] <;> rfl) ?_)
      · have hr' : (L[k].rep == (i : Int)) = false := by simpa using hr
        rw [if_neg (fun h => hr h.2), List.append_nil] at hsucc
        rw [hsucc, ← hJ]
        generalize R ++ ofRep i (flagsOf L s p c k) = X
        unfold F18_L8
        generalize F18_J1 = J
        simp only []
        repeat (first
          | rfl
          | refine cond_t (by rfl) ?_
          | refine cond_f (by rfl) ?_
          | refine ite_of (by rfl) ?_
          | refine bind_of (by simp [-loadV, -storeV, -Int.natCast_add, loadV_ip, -List.length_append, hlt, h1, h2, hr, hr'] <;> rfl) ?_))
    (by
      simp only [Nat.zero_add]
      simp [F18_L8])
  have e0 : ofRep i (flagsOf L s p c 0) = [] := rfl
  rw [e0, List.append_nil] at key
  exact key

end Go.Proofs.YtlilahgndpdkfaaDoor

/-
  The timeline's reference: the flags of all reports.
-/
namespace Go.Proofs.YtlilahgndpdkfaaDoor
open Go Go.Abs

theorem allR_split {l : List Rep} {i : Nat} (hi : i < l.length) : (allR l 0).length = (allR (l.take i) 0).length + (l[i].rd.length + (allR (l.drop (i + 1)) (0 + (l.take (i + 1)).length)).length) := by
  have : allR l 0 = allR (l.take (i + 1)) 0 ++ allR (l.drop (i + 1)) (0 + (l.take (i + 1)).length) := by rw [← allR_append, List.take_append_drop]
  rw [this, allR_take hi]
  simp only [List.length_append, entR, List.length_map]
  omega

theorem ofRep_le {i : Nat} {F : List (Int × Int)} : (ofRep i F).length ≤ F.length := List.length_filter_le _ _

set_option maxHeartbeats 2000000 in
/-- The flags of a report. -/
theorem r_loopR {l : List Rep} {t : Tok} {k : Ctl} {i : Nat} {R : List (Int × Int)} {S : Store} {a : AV} (hk : k.Fit) (hg : Abs.Good l) (hps : possP k.steps = true) (hpk : possP k.spikes = true) (hl : l.length ≤ 1000000) (hla : (allR l 0).length ≤ 1000000) (hi : i < l.length)
    (hb : ∀ n, n ≤ l[i].rd.length → (R ++ rowFlags l k i l[i] n).length ≤ 1000000) :
    iter (fun st => F18_L7 call S.length (.sl (reps l) t) (.ip (ctlC k) 0) (i64 (i : Nat)) (.ip (repR l[i]) 0) a (.sl (rds l[i].rd) .none) (i64 l[i].rd.length) (st.1.getD 0 .u) (st.1.getD 1 .u) st.2) ([.sl (flagRows R) (.own S.length), i64 0], S ++ [Ent.tail R.length 3]) =
      some (.exit 12, [.sl (flagRows (R ++ rowFlags l k i l[i] l[i].rd.length)) (.own S.length)], S ++ [Ent.tail (R ++ rowFlags l k i l[i] l[i].rd.length).length 3]) := by
  have key := iter_run (step := fun st => F18_L7 call S.length (.sl (reps l) t) (.ip (ctlC k) 0) (i64 (i : Nat)) (.ip (repR l[i]) 0) a (.sl (rds l[i].rd) .none) (i64 l[i].rd.length) (st.1.getD 0 .u) (st.1.getD 1 .u) st.2)
    (fun n => ([.sl (flagRows (R ++ rowFlags l k i l[i] n)) (.own S.length), i64 (n : Nat)], S ++ [Ent.tail (R ++ rowFlags l k i l[i] n).length 3])) (r := (.exit 12, [.sl (flagRows (R ++ rowFlags l k i l[i] l[i].rd.length)) (.own S.length)], S ++ [Ent.tail (R ++ rowFlags l k i l[i] l[i].rd.length).length 3])) l[i].rd.length 0
    (fun n _ hn => by
      have hn : n < l[i].rd.length := by omega
      have hlt : (n : Int) < (l[i].rd.length : Int) := by omega
      have hsp := allR_split hi
      have w1 : IntKind.i64.wrap ((n : Int) + 1) = (n : Int) + 1 := wrap_in (by unfold In64; omega)
      have hv := (validP_zero (hg.valid l[i] (List.getElem_mem hi))).1 l[i].rd[n] (List.getElem_mem hn)
      obtain ⟨c1, c2, _, _⟩ := checkP_zero hv
      have h1 : indexAV 2 none (.sl (rds l[i].rd) .none) (.int .i64 (n : Int)) = some (.ip [i64 l[i].rd[n].1, i64 l[i].rd[n].2] 0) := by simp [indexAV, at_rds hn]
      obtain ⟨g1, g2, g3, g4⟩ := ctl_get hk c1 c2
      have hx : (l[i].name, l[i].rd[n].1) ∈ seenK ((allR l 0).map (·.1)) := by
        rw [mem_seenK]
        exact List.mem_map.2 ⟨_, mem_allR.2 ⟨i, l[i], l[i].rd[n], List.getElem?_eq_getElem hi, List.getElem_mem hn, rfl⟩, rfl⟩
      have hlp := lineP_length l (l[i].name, l[i].rd[n].1)
      have hL1 : 1 ≤ (lineP l (l[i].name, l[i].rd[n].1)).length := by rw [hlp]; exact List.length_pos_iff.2 (ptsOf_ne hx)
      have hLl : (lineP l (l[i].name, l[i].rd[n].1)).length ≤ 1000000 := by have := ptsOf_le (allR l 0) (l[i].name, l[i].rd[n].1); omega
      have hsucc := rowFlags_succ (l := l) (k := k) (i := i) (r := l[i]) hn
      have hbn := hb n (by omega)
      have hbs := hb (n + 1) (by omega)
      rw [hsucc, ← List.append_assoc] at hbs
      rw [hsucc, ← List.append_assoc]
      generalize R ++ rowFlags l k i l[i] n = X at hbn hbs ⊢
      obtain ⟨tk, hline⟩ := r_line (t := t) (x := (l[i].name, l[i].rd[n].1)) hg hl hla (S ++ [Ent.tail X.length 3])
      have hst : stepOf k l[i].rd[n].1 ≤ 10000 := by
        unfold stepOf
        rw [List.getD_eq_getElem?_getD, List.getElem?_eq_getElem (by rw [hk.steps]; omega)]
        exact (possP_get hps (List.getElem_mem _)).2
      have hsk : spikeOf k l[i].rd[n].1 ≤ 10000 := by
        unfold spikeOf
        rw [List.getD_eq_getElem?_getD, List.getElem?_eq_getElem (by rw [hk.spikes]; omega)]
        exact (possP_get hpk (List.getElem_mem _)).2
      have hrej := r_rejected (t := tk) (s := stepOf k l[i].rd[n].1) (p := spikeOf k l[i].rd[n].1) (fun q hq => (hg.line hq).1) (sortT_strict (hg.times _)) hL1 hLl hst hsk (S ++ [Ent.tail X.length 3])
      have hloop := r_loopF (L := lineP l (l[i].name, l[i].rd[n].1)) (s := stepOf k l[i].rd[n].1) (p := spikeOf k l[i].rd[n].1) (c := l[i].rd[n].1) (i := i) (tl := tk) (tb := .none) (R := X) (S := S) (a := i64 (n : Nat)) (b := i64 l[i].rd[n].2) hLl hbn
      have hkf : flagsOf (lineP l (l[i].name, l[i].rd[n].1)) (stepOf k l[i].rd[n].1) (spikeOf k l[i].rd[n].1) l[i].rd[n].1 (lineP l (l[i].name, l[i].rd[n].1)).length = keyFlags l k (l[i].name, l[i].rd[n].1) := rfl
      rw [hkf] at hloop
      generalize hY : X ++ ofRep i (keyFlags l k (l[i].name, l[i].rd[n].1)) = Y at hbs hloop ⊢
      have hnx : nextS S.length (S ++ [Ent.tail X.length 3]).length [.sl (flagRows Y) (.own S.length), .int .i64 ((n : Int) + 1)] (S ++ [Ent.tail Y.length 3]) = some ([.sl (flagRows Y) (.own S.length), .int .i64 ((n : Int) + 1)], S ++ [Ent.tail Y.length 3]) := nextS_eq (by simp)
      simp only [List.getD_cons_zero, List.getD_cons_succ]
      unfold F18_L7
      simp only []
      refine bind_of (by simp [hlt] <;> rfl) ?_
      refine cond_t rfl ?_
      refine bind_of (by exact h1) ?_
      refine bind_of (by simp [loadV_ip] <;> rfl) ?_
      refine bind_of (by simp <;> rfl) ?_
      refine ite_of (by rfl) ?_
      refine bind_of (by rfl) ?_
      refine bind_of (by rfl) ?_
      refine bind_of (by rfl) ?_
      refine bind_of (by rfl) ?_
      refine bind_of (by rfl) ?_
      refine bind_of (by exact hline) ?_
      refine bind_of (by rfl) ?_
      refine bind_of (by rfl) ?_
      refine bind_of (by rfl) ?_
      refine bind_of (by exact g1) ?_
      refine bind_of (by exact g2) ?_
      refine bind_of (by rfl) ?_
      refine bind_of (by rfl) ?_
      refine bind_of (by rfl) ?_
      refine bind_of (by exact g3) ?_
      refine bind_of (by exact g4) ?_
      refine bind_of (by rfl) ?_
      refine bind_of (by exact hrej) ?_
      refine bind_of (by rfl) ?_
      refine bind_of (by
        simp only [pts_length]
        exact hloop) ?_
      simp only [exK_exit, Nat.beq_refl, cond_true]
      refine bind_of (by simp [w1] <;> rfl) ?_
      refine bind_of (by exact hnx) ?_
      rfl)
    (by
      simp only [Nat.zero_add]
      simp [F18_L7])
  have e0 : rowFlags l k i l[i] 0 = [] := rfl
  rw [e0, List.append_nil] at key
  exact key

end Go.Proofs.YtlilahgndpdkfaaDoor

/-
  What the timeline's reference answers.
-/
namespace Go.Proofs.YtlilahgndpdkfaaDoor
open Go Go.Abs

theorem refFlags_mono {l : List Rep} {k : Ctl} : ∀ {m n : Nat}, m ≤ n → (refFlags l k m).length ≤ (refFlags l k n).length := fun {m n} h => by
  induction n with
  | zero => obtain rfl : m = 0 := by omega
            exact Nat.le_refl _
  | succ n ih =>
    by_cases e : m = n + 1
    · subst e; exact Nat.le_refl _
    · refine Nat.le_trans (ih (by omega)) ?_
      unfold refFlags
      rw [List.range_succ, List.flatMap_append, List.length_append]
      omega

theorem rowFlags_mono {l : List Rep} {k : Ctl} {i : Nat} {r : Rep} {n : Nat} (h : n ≤ r.rd.length) : (rowFlags l k i r n).length ≤ (rowFlags l k i r r.rd.length).length := by
  unfold rowFlags
  have : r.rd.take r.rd.length = r.rd.take n ++ (r.rd.take r.rd.length).drop n := by
    conv => lhs; rw [← List.take_append_drop n (r.rd.take r.rd.length)]
    rw [List.take_take, Nat.min_eq_left h]
  rw [this, List.flatMap_append, List.length_append]
  omega

set_option maxHeartbeats 2000000 in
theorem r_loopA {l : List Rep} {t : Tok} {k : Ctl} {S : Store} (hk : k.Fit) (hg : Abs.Good l) (hps : possP k.steps = true) (hpk : possP k.spikes = true) (hl : l.length ≤ 1000000) (hla : (allR l 0).length ≤ 1000000) (hB : (refFlags l k l.length).length ≤ 1000000) :
    iter (fun st => F18_L6 call S.length (.sl (reps l) t) (.ip (ctlC k) 0) (.sl (reps l) t) (i64 l.length) (st.1.getD 0 .u) (st.1.getD 1 .u) st.2) ([.sl [] (.own S.length), i64 0], S ++ [Ent.tail 0 3]) =
      some (.exit 10, [.sl (flagRows (refFlags l k l.length)) (.own S.length)], S ++ [Ent.tail (refFlags l k l.length).length 3]) := by
  have key := iter_run (step := fun st => F18_L6 call S.length (.sl (reps l) t) (.ip (ctlC k) 0) (.sl (reps l) t) (i64 l.length) (st.1.getD 0 .u) (st.1.getD 1 .u) st.2)
    (fun i => ([.sl (flagRows (refFlags l k i)) (.own S.length), i64 (i : Nat)], S ++ [Ent.tail (refFlags l k i).length 3])) (r := (.exit 10, [.sl (flagRows (refFlags l k l.length)) (.own S.length)], S ++ [Ent.tail (refFlags l k l.length).length 3])) l.length 0
    (fun i _ hi => by
      have hi : i < l.length := by omega
      have hlt : (i : Int) < (l.length : Int) := by omega
      have w1 : IntKind.i64.wrap ((i : Int) + 1) = (i : Int) + 1 := wrap_in (by unfold In64; omega)
      have h1 : indexAV 8 none (.sl (reps l) t) (.int .i64 (i : Int)) = some (.ip (repR l[i]) 0) := by simp [indexAV, at_reps hi]
      have hsucc := refFlags_succ (k := k) hi
      have hloop := r_loopR (t := t) (k := k) (R := refFlags l k i) (S := S) (a := i64 (i : Nat)) hk hg hps hpk hl hla hi (fun n hn => by
        have e1 := rowFlags_mono (l := l) (k := k) (i := i) hn
        have e2 := refFlags_mono (l := l) (k := k) (m := i + 1) (n := l.length) (by omega)
        rw [hsucc, List.length_append] at e2
        rw [List.length_append]
        omega)
      rw [← hsucc] at hloop
      rw [hsucc] at hloop ⊢
      rw [← hsucc] at hloop ⊢
      generalize refFlags l k i = X at hloop ⊢
      generalize refFlags l k (i + 1) = Y at hloop ⊢
      have hnx : nextS S.length (S ++ [Ent.tail X.length 3]).length [.sl (flagRows Y) (.own S.length), .int .i64 ((i : Int) + 1)] (S ++ [Ent.tail Y.length 3]) = some ([.sl (flagRows Y) (.own S.length), .int .i64 ((i : Int) + 1)], S ++ [Ent.tail Y.length 3]) := nextS_eq (by simp)
      simp only [List.getD_cons_zero, List.getD_cons_succ]
      unfold F18_L6
      simp only []
      refine bind_of (by simp [hlt] <;> rfl) ?_
      refine cond_t rfl ?_
      refine bind_of (by exact h1) ?_
      refine bind_of (a := .agg (repR l[i])) (by simp [repR]) ?_
      refine bind_of (by exact imms_repR) ?_
      refine ite_of (by rfl) ?_
      refine bind_of (by rfl) ?_
      refine bind_of (by rfl) ?_
      refine bind_of (by rfl) ?_
      refine bind_of (by first | exact hloop | (simp only [rds_length]; exact hloop)) ?_
      simp only [exK_exit, Nat.beq_refl, cond_true]
      refine bind_of (by simp [w1] <;> rfl) ?_
      refine bind_of (by exact hnx) ?_
      rfl)
    (by
      simp only [Nat.zero_add]
      simp [F18_L6])
  exact key

theorem r_CheckOK {l : List Rep} {t : Tok} {k : Ctl} (hk : k.Fit) (hl : l.length ≤ 1000000) (hr : ∀ r ∈ l, r.rd.length ≤ 1000000) (hla : (allR l 0).length ≤ 1000000) (hB : (refFlags l k l.length).length ≤ 1000000) (he : examP l k = 0) (S : Store) :
    call 18 [.sl (reps l) t, .agg (ctlC k)] S = some (.tup [.sl (flagRows (refFlags l k l.length)) .none, i64 0], S) := by
  obtain ⟨hg, hps, hpk⟩ := examP_zero he
  rw [k18]
  unfold F18
  have himm : imms (ctlC k) = some (ctlC k) := by
    have := imms_i64s (k.hops :: (k.steps ++ k.spikes ++ k.rest))
    simpa [ctlC] using this
  have e1 := r_loopP hk (.sl (reps l) t) S
  have e2 := r_loopV (t := t) hl hr (.ip (ctlC k) 0) S
  have e3 := r_loopT (t := t) hl (.ip (ctlC k) 0) S
  have e4 := r_loopD (t := t) hl (.ip (ctlC k) 0) S
  have e5 := r_loopA (t := t) (S := S) hk hg hps hpk hl hla hB
  rw [hps, hpk] at e1
  rw [firstP_zero.2 hg.valid] at e2
  rw [if_pos (List.all_eq_true.2 fun r h => by have := hg.time r h; simpa [inP] using this)] at e3
  rw [if_neg (by simpa [twiceP] using hg.once)] at e4
  refine bind_of (by simp [himm] <;> rfl) ?_
  refine bind_of (by exact e1) ?_
  simp only [Bool.and_self, if_true, exK_exit, Nat.beq_refl, cond_true]
  refine bind_of (by simp <;> rfl) ?_
  refine bind_of (by first | exact e2 | (simp only [reps_length]; exact e2)) ?_
  simp only [if_true, exK_exit, Nat.beq_refl, cond_true]
  refine bind_of (by simp <;> rfl) ?_
  refine bind_of (by first | exact e3 | (simp only [reps_length]; exact e3)) ?_
  simp only [exK_exit, Nat.beq_refl, cond_true]
  refine bind_of (by simp <;> rfl) ?_
  refine bind_of (by exact e4) ?_
  simp only [exK_exit, Nat.beq_refl, cond_true]
  refine bind_of (by rfl) ?_
  refine bind_of (by simp <;> rfl) ?_
  refine bind_of (by exact e5) ?_
  simp only [exK_exit, Nat.beq_refl, cond_true, List.getD_cons_zero]
  have hb : Nat.blt S.length S.length = false := blt_false (Nat.le_refl _)
  rw [finish_eq (vs' := [.sl (flagRows (refFlags l k l.length)) .none, i64 0]) (by simp only [fins, fin1, hb, cond_false, Option.bind_some]) (by simp [belows, below])]
  simp

theorem r_CheckErr {l : List Rep} {t : Tok} {k : Ctl} (hk : k.Fit) (hl : l.length ≤ 1000000) (hr : ∀ r ∈ l, r.rd.length ≤ 1000000) (he : examP l k ≠ 0) (S : Store) :
    call 18 [.sl (reps l) t, .agg (ctlC k)] S = some (.tup [.sl [] .full, i64 (examP l k)], S) := by
  rw [k18]
  unfold F18
  have himm : imms (ctlC k) = some (ctlC k) := by
    have := imms_i64s (k.hops :: (k.steps ++ k.spikes ++ k.rest))
    simpa [ctlC] using this
  have e1 := r_loopP hk (.sl (reps l) t) S
  have e2 := r_loopV (t := t) hl hr (.ip (ctlC k) 0) S
  have e3 := r_loopT (t := t) hl (.ip (ctlC k) 0) S
  have e4 := r_loopD (t := t) hl (.ip (ctlC k) 0) S
  unfold examP at he ⊢
  refine bind_of (by simp [himm] <;> rfl) ?_
  refine bind_of (by exact e1) ?_
  by_cases hp : (possP k.steps && possP k.spikes) = true
  · rw [if_pos hp] at he ⊢
    simp only [hp, if_true, exK_exit, Nat.beq_refl, cond_true]
    refine bind_of (by simp <;> rfl) ?_
    refine bind_of (by first | exact e2 | (simp only [reps_length]; exact e2)) ?_
    by_cases hf : firstP l = 0
    · rw [if_pos hf] at he ⊢
      simp only [hf, if_true, exK_exit, Nat.beq_refl, cond_true]
      refine bind_of (by simp <;> rfl) ?_
      refine bind_of (by first | exact e3 | (simp only [reps_length]; exact e3)) ?_
      by_cases ht : (l.all fun r => inP r.time) = true
      · rw [if_pos ht] at he ⊢
        simp only [ht, if_true, exK_exit, Nat.beq_refl, cond_true]
        refine bind_of (by simp <;> rfl) ?_
        refine bind_of (by exact e4) ?_
        by_cases hd : twiceP l = true
        · rw [if_pos hd]
          simp only [hd, if_true, exK_ret]
          simp [finish]
        · rw [if_neg hd] at he
          exact absurd rfl he
      · rw [if_neg ht]
        simp only [ht, if_false, exK_ret, Bool.false_eq_true]
        simp [finish]
    · rw [if_neg hf]
      simp only [hf, if_false, exK_ret]
      simp [finish]
  · rw [if_neg hp]
    simp only [hp, if_false, exK_ret, Bool.false_eq_true]
    simp [finish]

end Go.Proofs.YtlilahgndpdkfaaDoor

/-
  The reference's flags are those of all lines, in order.
-/
namespace Go.Abs
open Go

theorem reps_nodup : ∀ {l : List Rep} (i : Nat), (∀ r ∈ l, validP r.rd = 0) → ∀ x, ((ptsOf (allR l i) x).map (·.rep)).Nodup
  | [], _, _, x => by simp [allR, ptsOf]
  | r :: l, i, hv, x => by
    have ih := reps_nodup (l := l) (i + 1) (fun r' hr => hv r' (List.mem_cons_of_mem _ hr)) x
    rw [allR, ptsOf_append, List.map_append, List.nodup_append]
    have h1 := ent_once (i := i) (x := x) (hv r (by simp))
    refine ⟨?_, ih, fun a ha b hb hab => ?_⟩
    · match hm : ptsOf (entR i r) x, h1 with
      | [], _ => simp
      | [p], _ => simp
      | _ :: _ :: _, h => rw [hm] at h1; simp at h1
    · obtain ⟨p, hp, rfl⟩ := List.mem_map.1 ha
      obtain ⟨p', hp', rfl⟩ := List.mem_map.1 hb
      rw [mem_ptsOf] at hp hp'
      simp only [entR, List.mem_map, Prod.mk.injEq] at hp
      obtain ⟨y, hy, hyx, rfl⟩ := hp
      obtain ⟨j, r', z, h2, h3, h4⟩ := mem_allR.1 hp'
      simp only [Prod.mk.injEq] at h4
      obtain ⟨_, rfl⟩ := h4
      simp only at hab
      omega

theorem line_reps {l : List Rep} (h : Good l) (x : Key) : ((lineP l x).map (·.rep)).Nodup := ((sortT_perm _).map _).nodup_iff.2 (reps_nodup 0 h.valid x)

theorem keyFlags_nodup {l : List Rep} {k : Ctl} (h : Good l) (x : Key) : (keyFlags l k x).Nodup := by
  have hr := line_reps h x
  unfold keyFlags flagsOf
  rw [List.Nodup, List.pairwise_map]
  refine List.Pairwise.imp_of_mem (fun {a b} ha hb hab e => hab ?_) (List.Pairwise.filter _ List.nodup_range)
  have ha' : a < (lineP l x).length := List.mem_range.1 (List.mem_filter.1 ha).1
  have hb' : b < (lineP l x).length := List.mem_range.1 (List.mem_filter.1 hb).1
  have e' := (Prod.ext_iff.1 e).1
  simp only [List.getD_eq_getElem?_getD, List.getElem?_eq_getElem ha', List.getElem?_eq_getElem hb', Option.getD_some] at e'
  have : ((lineP l x).map (·.rep))[a]'(by simpa using ha') = ((lineP l x).map (·.rep))[b]'(by simpa using hb') := by simpa using e'
  exact (List.getElem_inj hr).1 this

theorem mem_keyFlags {l : List Rep} {k : Ctl} {x : Key} {f : Int × Int} (h : f ∈ keyFlags l k x) : ∃ (j : Nat) (r : Rep) (y : Rd), l[j]? = some r ∧ y ∈ r.rd ∧ x = (r.name, y.1) ∧ f = ((j : Int), x.2) := by
  unfold keyFlags flagsOf at h
  obtain ⟨i, hi, rfl⟩ := List.mem_map.1 h
  have hi' : i < (lineP l x).length := List.mem_range.1 (List.mem_filter.1 hi).1
  have hm : (lineP l x)[i] ∈ ptsOf (allR l 0) x := (sortT_perm _).mem_iff.1 (List.getElem_mem hi')
  rw [mem_ptsOf] at hm
  obtain ⟨j, r, y, h1, h2, h3⟩ := mem_allR.1 hm
  simp only [Prod.mk.injEq] at h3
  refine ⟨j, r, y, h1, h2, h3.1, ?_⟩
  rw [List.getD_eq_getElem?_getD, List.getElem?_eq_getElem hi', Option.getD_some, h3.2]
  simp

theorem mem_ofRep {i : Nat} {F : List (Int × Int)} {f : Int × Int} : f ∈ ofRep i F ↔ f ∈ F ∧ f.1 = (i : Int) := by
  unfold ofRep
  rw [List.mem_filter]
  simp

theorem mem_refFlags {l : List Rep} {k : Ctl} {f : Int × Int} : f ∈ refFlags l k l.length ↔ ∃ (i : Nat) (r : Rep) (y : Rd), l[i]? = some r ∧ y ∈ r.rd ∧ f ∈ keyFlags l k (r.name, y.1) ∧ f.1 = (i : Int) := by
  unfold refFlags
  rw [List.mem_flatMap]
  constructor
  · rintro ⟨i, hi, h⟩
    cases hr : l[i]? with
    | none => rw [hr] at h; cases h
    | some r =>
      rw [hr] at h
      simp only [rowFlags, List.mem_flatMap, mem_ofRep] at h
      obtain ⟨y, hy, h1, h2⟩ := h
      exact ⟨i, r, y, hr, List.mem_of_mem_take hy, h1, h2⟩
  · rintro ⟨i, r, y, hr, hy, h1, h2⟩
    refine ⟨i, List.mem_range.2 (List.getElem?_eq_some_iff.1 hr).1, ?_⟩
    rw [hr]
    simp only [rowFlags, List.mem_flatMap, mem_ofRep]
    exact ⟨y, by rw [List.take_length]; exact hy, h1, h2⟩

theorem refFlags_sorted {l : List Rep} {k : Ctl} (h : Good l) : (refFlags l k l.length).Pairwise lt2 := by
  unfold refFlags
  rw [List.pairwise_flatMap]
  refine ⟨fun i _ => ?_, ?_⟩
  · cases hr : l[i]? with
    | none => exact .nil
    | some r =>
      simp only [rowFlags]
      rw [List.pairwise_flatMap]
      refine ⟨fun y _ => ?_, ?_⟩
      · have hn := List.Pairwise.filter (fun f : Int × Int => f.1 == (i : Int)) (keyFlags_nodup (k := k) h (r.name, y.1))
        refine List.Pairwise.imp_of_mem (fun {a b} ha hb hab => ?_) hn
        have ha' := mem_ofRep.1 ha
        have hb' := mem_ofRep.1 hb
        obtain ⟨_, _, _, _, _, _, ea⟩ := mem_keyFlags ha'.1
        obtain ⟨_, _, _, _, _, _, eb⟩ := mem_keyFlags hb'.1
        exact absurd (Prod.ext (ha'.2.trans hb'.2.symm) (by rw [ea, eb])) hab
      · have hp := incrR_pairwise (validP_zero (h.valid r (List.mem_of_getElem? hr))).2
        rw [List.take_length]
        refine hp.imp fun {y z} hyz a ha b hb => ?_
        have ha' := mem_ofRep.1 ha
        have hb' := mem_ofRep.1 hb
        obtain ⟨_, _, _, _, _, _, ea⟩ := mem_keyFlags ha'.1
        obtain ⟨_, _, _, _, _, _, eb⟩ := mem_keyFlags hb'.1
        exact .inr ⟨ha'.2.trans hb'.2.symm, by rw [ea, eb]; exact hyz⟩
  · refine (List.pairwise_lt_range).imp fun {i j} hij a ha b hb => ?_
    have first : ∀ {i : Nat} {a : Int × Int}, (a ∈ match l[i]? with | some r => rowFlags l k i r r.rd.length | none => []) → a.1 = (i : Int) := fun {i a} ha => by
      cases hr : l[i]? with
      | none => rw [hr] at ha; cases ha
      | some r =>
        rw [hr] at ha
        simp only [rowFlags, List.mem_flatMap, mem_ofRep] at ha
        obtain ⟨_, _, _, h⟩ := ha
        exact h
    left
    rw [first ha, first hb]
    omega

theorem lt2_ne {a b : Int × Int} (h : lt2 a b) : a ≠ b := fun e => by
  subst e
  rcases h with h | ⟨_, h⟩ <;> omega

theorem refFlags_perm {l : List Rep} {k : Ctl} (h : Good l) : (refFlags l k l.length).Perm ((seenK ((allR l 0).map (·.1))).flatMap (keyFlags l k)) := by
  refine (List.perm_ext_iff_of_nodup ((refFlags_sorted h).imp lt2_ne) ?_).2 fun f => ?_
  · rw [List.Nodup, List.pairwise_flatMap]
    refine ⟨fun x _ => keyFlags_nodup h x, (seenK_nodup _).imp fun {x x'} hne a ha b hb e => hne ?_⟩
    subst e
    obtain ⟨j, r, y, h1, h2, h3, h4⟩ := mem_keyFlags ha
    obtain ⟨j', r', y', h1', h2', h3', h4'⟩ := mem_keyFlags hb
    rw [h4] at h4'
    have e1 := (Prod.ext_iff.1 h4').1
    have e2 := (Prod.ext_iff.1 h4').2
    simp only at e1 e2
    have : j = j' := by omega
    subst this
    rw [h1] at h1'
    cases h1'
    rw [h3, h3'] at e2 ⊢
    simp only at e2
    rw [e2]
  · rw [mem_refFlags, List.mem_flatMap]
    constructor
    · rintro ⟨i, r, y, h1, h2, h3, h4⟩
      refine ⟨_, ?_, h3⟩
      rw [mem_seenK]
      exact List.mem_map.2 ⟨_, mem_allR.2 ⟨i, r, y, h1, h2, rfl⟩, rfl⟩
    · rintro ⟨x, _, hf⟩
      obtain ⟨j, r, y, h1, h2, h3, h4⟩ := mem_keyFlags hf
      exact ⟨j, r, y, h1, h2, by rw [← h3]; exact hf, by rw [h4]⟩

end Go.Abs

/-
  Check and its reference answer the same.
-/
namespace Go.Proofs.YtlilahgndpdkfaaDoor
open Go Go.Abs

def flagsP (l : List Rep) (k : Ctl) : List (Int × Int) := if examP l k = 0 then refFlags l k l.length else []

theorem refFlags_length {l : List Rep} {k : Ctl} (h : Abs.Good l) : (refFlags l k l.length).length ≤ (allR l 0).length := by
  rw [(refFlags_perm h).length_eq]
  have h1 := seen_flags_le (d := allR l 0) (seenK ((allR l 0).map (·.1))) (seenK_nodup _)
  refine Nat.le_trans ?_ h1
  generalize seenK ((allR l 0).map (·.1)) = K
  induction K with
  | nil => simp
  | cons x K ih =>
    simp only [List.flatMap_cons, List.length_append, List.map_cons, List.sum_cons]
    have := keyFlags_le (l := l) (k := k) (x := x)
    omega

/-- Few reports with few readings. -/
structure Few (l : List Rep) : Prop where
  len : l.length ≤ 1000
  rd : ∀ r ∈ l, r.rd.length ≤ 1000

theorem Few.all {l : List Rep} (h : Few l) : (allR l 0).length ≤ 1000000 := by
  have := allR_length_le l 0 h.rd
  have := Nat.mul_le_mul_right 1000 h.len
  omega

theorem s_Check {l : List Rep} {t : Tok} {k : Ctl} (hk : k.Fit) (hf : Few l) (S : Store) : ∃ u, call 17 [.sl (reps l) t, .agg (ctlC k)] S = some (.tup [.sl (flagRows (flagsP l k)) u, i64 (examP l k)], S) := by
  have hl := hf.len
  by_cases he : examP l k = 0
  · have hg := (examP_zero he).1
    have := s_CheckOK (t := t) hk (by omega) hf.all he (refFlags_sorted hg) (refFlags_perm hg) S
    refine ⟨if flagRows (refFlags l k l.length) = [] then .full else .none, ?_⟩
    rw [this, he]
    unfold flagsP
    rw [if_pos he]
  · have := s_CheckErr (t := t) hk (by omega) (fun r hr => Nat.le_trans (hf.rd r hr) (by omega)) he S
    refine ⟨.full, ?_⟩
    rw [this]
    unfold flagsP
    rw [if_neg he]
    rfl

theorem r_Check {l : List Rep} {t : Tok} {k : Ctl} (hk : k.Fit) (hf : Few l) (S : Store) : ∃ u, call 18 [.sl (reps l) t, .agg (ctlC k)] S = some (.tup [.sl (flagRows (flagsP l k)) u, i64 (examP l k)], S) := by
  have hl := hf.len
  by_cases he : examP l k = 0
  · have hg := (examP_zero he).1
    have h1 := refFlags_length (k := k) hg
    have h2 := hf.all
    have := r_CheckOK (t := t) hk (by omega) (fun r hr => Nat.le_trans (hf.rd r hr) (by omega)) hf.all (by omega) he S
    refine ⟨.none, ?_⟩
    rw [this, he]
    unfold flagsP
    rw [if_pos he]
  · have := r_CheckErr (t := t) hk (by omega) (fun r hr => Nat.le_trans (hf.rd r hr) (by omega)) he S
    refine ⟨.full, ?_⟩
    rw [this]
    unfold flagsP
    rw [if_neg he]
    rfl

end Go.Proofs.YtlilahgndpdkfaaDoor

/-
  Runs that end, and what is so of their ends: rules for reckoning with printed functions whose calls are known by a law alone.
-/
namespace Go.Abs
open Go

/-- The run ends, and Q is so of its end. -/
def Ev {α : Type} (m : Option α) (Q : α → Prop) : Prop := ∃ r, m = some r ∧ Q r

section
variable {α β ρ : Type}
theorem Ev.bind {m : Option α} {f : α → Option β} {P : α → Prop} {Q : β → Prop} (h : Ev m P) (h2 : ∀ a, P a → Ev (f a) Q) : Ev (m.bind f) Q := by
  obtain ⟨a, ha, hp⟩ := h
  rw [ha]; exact h2 a hp
theorem Ev.to {m : Option α} {f : α → Option β} {a : α} {Q : β → Prop} (h : m = some a) (h2 : Ev (f a) Q) : Ev (m.bind f) Q := by rw [h]; exact h2
theorem Ev.mk {a : α} {Q : α → Prop} (h : Q a) : Ev (some a) Q := ⟨a, rfl, h⟩
theorem Ev.of {m : Option α} {a : α} {Q : α → Prop} (h : m = some a) (h2 : Q a) : Ev m Q := ⟨a, h, h2⟩
theorem Ev.mono {m : Option α} {P Q : α → Prop} (h : Ev m P) (h2 : ∀ a, P a → Q a) : Ev m Q := by
  obtain ⟨a, ha, hp⟩ := h
  exact ⟨a, ha, h2 a hp⟩
theorem Ev.eq {m m' : Option α} {Q : α → Prop} (h : m = m') (h2 : Ev m' Q) : Ev m Q := by rw [h]; exact h2
theorem Ev.cond {b : Bool} {x y : Option ρ} {Q : ρ → Prop} (h1 : b = true → Ev x Q) (h2 : b = false → Ev y Q) : Ev (condK (.bool b) x y) Q := by
  cases b
  · exact h2 rfl
  · exact h1 rfl
theorem Ev.dec {p : Prop} [Decidable p] {x y : Option ρ} {Q : ρ → Prop} (h1 : p → Ev x Q) (h2 : ¬ p → Ev y Q) : Ev (condK (.bool (decide p)) x y) Q := by
  by_cases h : p
  · simpa [h] using h1 h
  · simpa [h] using h2 h
theorem Ev.beq {a b : Int} {x y : Option ρ} {Q : ρ → Prop} (h1 : a = b → Ev x Q) (h2 : a ≠ b → Ev y Q) : Ev (condK (.bool (a == b)) x y) Q := by
  by_cases h : a = b
  · subst h; simpa using h1 rfl
  · have : (a == b) = false := by simpa using h
    rw [this]; exact h2 h
theorem Ev.t {c : AV} {x y : Option ρ} {Q : ρ → Prop} (h : c = .bool true) (h2 : Ev x Q) : Ev (condK c x y) Q := by rw [h]; exact h2
theorem Ev.f {c : AV} {x y : Option ρ} {Q : ρ → Prop} (h : c = .bool false) (h2 : Ev y Q) : Ev (condK c x y) Q := by rw [h]; exact h2
theorem Ev.ite {p : Prop} [Decidable p] {x y : Option ρ} {Q : ρ → Prop} (h : p) (h2 : Ev x Q) : Ev (if p then x else y) Q := by rw [if_pos h]; exact h2
theorem Ev.guard {b w : Bool} {x y : Option ρ} {Q : ρ → Prop} (h1 : b = w → Ev x Q) (h2 : b ≠ w → Ev y Q) : Ev (guardK (.bool b) w x y) Q := by
  by_cases h : b = w
  · subst h; have := h1 rfl; cases b <;> simpa [guardK] using this
  · have := h2 h; cases b <;> cases w <;> first | exact absurd rfl h | simpa [guardK] using this

/-- A loop by an invariant and a measure. -/
theorem Ev.iter {σ τ : Type} {step : σ → Option (σ ⊕ τ)} {Q : τ → Prop} (I : Nat → σ → Prop) (h : ∀ k s, I k s → Ev (step s) fun x => match x with | .inr r => Q r | .inl s' => ∃ k', k' < k ∧ I k' s') {k : Nat} {s : σ} (hs : I k s) : Ev (Abs.iter step s) Q := by
  refine iter_inv I Q (fun k s hk => ?_) k s hs
  obtain ⟨x, h1, h2⟩ := h k s hk
  cases x with
  | inr r => exact .inl ⟨r, h1, h2⟩
  | inl s' => obtain ⟨k', h3, h4⟩ := h2; exact .inr ⟨s', k', h3, h1, h4⟩

theorem Ev.exK {n : Option α} {x : Nat → Option α} {r : Option α} {i : Nat} {Q : α → Prop} (h : Ev (x i) Q) : Ev (Abs.exK n x r (.exit i)) Q := h
theorem Ev.exR {n : Option α} {x : Nat → Option α} {r : Option α} {Q : α → Prop} (h : Ev r Q) : Ev (Abs.exK n x r .ret) Q := h
theorem Ev.iff {m : Option α} {Q : α → Prop} : Ev m Q ↔ ∃ r, m = some r ∧ Q r := Iff.rfl
theorem Ev.bif {c : Bool} {x y : Option α} {Q : α → Prop} (h : c = true) (h2 : Ev x Q) : Ev (bif c then x else y) Q := by rw [h]; exact h2
theorem Ev.bif' {c : Bool} {x y : Option α} {Q : α → Prop} (h : c = false) (h2 : Ev y Q) : Ev (bif c then x else y) Q := by rw [h]; exact h2
end

theorem setC_fore : ∀ (vs pre cs : List AV), cs.length = vs.length → setC (pre ++ cs) pre.length vs = pre ++ vs
  | [], pre, cs, h => by
    have : cs = [] := List.eq_nil_of_length_eq_zero h
    subst this; simp [setC]
  | v :: vs, pre, [], h => by simp at h
  | v :: vs, pre, c :: cs, h => by
    have h1 := setC_fore vs (pre ++ [v]) cs (by simpa using h)
    simp only [List.append_assoc, List.singleton_append, List.length_append, List.length_singleton] at h1
    simp only [setC]
    rw [List.set_append_right _ _ (Nat.le_refl _), Nat.sub_self, List.set_cons_zero, h1]

theorem setC_full {cs vs : List AV} (h : cs.length = vs.length) : setC cs 0 vs = vs := setC_fore vs [] cs h

theorem setC_left : ∀ (vs x rest : List AV) (f : Nat), f + vs.length ≤ x.length → setC (x ++ rest) f vs = setC x f vs ++ rest
  | [], _, _, _, _ => rfl
  | v :: vs, x, rest, f, h => by
    simp only [List.length_cons] at h
    simp only [setC]
    rw [List.set_append_left _ _ (by omega), setC_left vs _ rest (f + 1) (by simp; omega)]
theorem setC_right : ∀ (vs x rest : List AV) (o : Nat), setC (x ++ rest) (x.length + o) vs = x ++ setC rest o vs
  | [], _, _, _ => rfl
  | v :: vs, x, rest, o => by
    simp only [setC]
    rw [List.set_append_right _ _ (by omega), Nat.add_sub_cancel_left, Nat.add_assoc, setC_right vs x _ (o + 1)]
/-- Cells of a row turned, in the rows' flat list. -/
theorem setC_row {sz : Nat} : ∀ {xs : List (List AV)} (k : Nat) (hk : k < xs.length) (f : Nat) (vs : List AV), (∀ x ∈ xs, x.length = sz) → f + vs.length ≤ sz → setC xs.flatten (k * sz + f) vs = (xs.set k (setC xs[k] f vs)).flatten
  | [], k, hk, _, _, _, _ => by simp at hk
  | x :: xs, 0, _, f, vs, h, hf => by
    have hx : x.length = sz := h x (by simp)
    simp only [List.flatten_cons, Nat.zero_mul, Nat.zero_add, List.set_cons_zero, List.getElem_cons_zero]
    exact setC_left vs x _ f (by omega)
  | x :: xs, k + 1, hk, f, vs, h, hf => by
    have hx : x.length = sz := h x (by simp)
    have ih := setC_row (xs := xs) k (by simpa using hk) f vs (fun y hy => h y (by simp [hy])) hf
    simp only [List.flatten_cons, List.set_cons_succ, List.getElem_cons_succ]
    rw [← ih, show (k + 1) * sz + f = x.length + (k * sz + f) by rw [hx, Nat.add_mul]; omega, setC_right]

/-! ### A store whose entry i is e, with entries of the call's own behind it -/

def Stt (S : Store) (i : Nat) (e : Ent) (es : Store) : Store := S.set i e ++ es

section
variable {S : Store} {i : Nat} {e : Ent} {es : Store}
theorem Stt.length : (Stt S i e es).length = S.length + es.length := by simp [Stt]
theorem Stt.self (h : S[i]? = some e) : Stt S i e [] = S := by
  have hi := (List.getElem?_eq_some_iff.1 h).1
  simp only [Stt, List.append_nil]
  apply List.ext_getElem?
  intro j
  by_cases hj : i = j
  · subst hj; rw [List.getElem?_set_self hi, h]
  · rw [List.getElem?_set_ne hj]
theorem Stt.app {x : Store} : Stt S i e es ++ x = Stt S i e (es ++ x) := by simp [Stt, List.append_assoc]
theorem Stt.src (h : i < S.length) : (Stt S i e es)[i]? = some e := by
  rw [Stt, List.getElem?_append_left (by simpa using h), List.getElem?_set_self h]
theorem Stt.own {k : Nat} : (Stt S i e es)[S.length + k]? = es[k]? := by
  rw [Stt, List.getElem?_append_right (by simp)]; simp
theorem Stt.own0 : (Stt S i e es)[S.length]? = es[0]? := Stt.own (k := 0)
theorem Stt.old {j : Nat} (h : j < S.length) (hj : j ≠ i) : (Stt S i e es)[j]? = S[j]? := by
  rw [Stt, List.getElem?_append_left (by simpa using h), List.getElem?_set_ne (Ne.symm hj)]
theorem Stt.set_src (h : i < S.length) {e' : Ent} : (Stt S i e es).set i e' = Stt S i e' es := by
  rw [Stt, List.set_append_left _ _ (by simpa using h), List.set_set]; rfl
theorem Stt.set_own {k : Nat} {x : Ent} : (Stt S i e es).set (S.length + k) x = Stt S i e (es.set k x) := by
  rw [Stt, List.set_append_right _ _ (by simp)]; simp [Stt]
theorem Stt.set_own0 {x : Ent} : (Stt S i e es).set S.length x = Stt S i e (es.set 0 x) := Stt.set_own (k := 0)
theorem Stt.take {k : Nat} : (Stt S i e es).take (S.length + k) = Stt S i e (es.take k) := by
  rw [Stt, List.take_append, List.take_of_length_le (by simp)]; simp [Stt]
theorem Stt.take0 : (Stt S i e es).take S.length = Stt S i e [] := by
  have := Stt.take (S := S) (i := i) (e := e) (es := es) (k := 0)
  simpa using this
theorem Stt.drop : (Stt S i e es).drop S.length = es := by
  rw [Stt, List.drop_append]; simp
theorem Stt.flat (h : i < S.length) {e2 : Ent} {es2 : Store} : Stt (Stt S i e es) i e2 es2 = Stt S i e2 (es ++ es2) := by
  rw [Stt, Stt.set_src h, Stt.app]

theorem Stt.load {k o : Nat} {n : Option Nat} {cs : List AV} (h : es[k]? = some (.obj cs)) : loadV n (.ptr (S.length + k) o) (Stt S i e es) = takeC n cs o := by
  simp only [loadV, Stt.own, h]
theorem Stt.load0 {o : Nat} {n : Option Nat} {cs : List AV} (h : es[0]? = some (.obj cs)) : loadV n (.ptr S.length o) (Stt S i e es) = takeC n cs o := Stt.load (k := 0) h
theorem Stt.store {k o n : Nat} {cs vs : List AV} {v : AV} (h : es[k]? = some (.obj cs)) (hv : cells1 (cellsOf v) = some vs) (hn : (cellsOf v).length = n) (ho : o + n ≤ cs.length) :
    storeV S.length n (.ptr (S.length + k) o) v (Stt S i e es) = some (Stt S i e (es.set k (.obj (setC cs o vs)))) := by
  simp only [storeV, Stt.own, h, blt_false (Nat.le_add_right _ _), cond_false, hv, Option.bind_some]
  rw [if_pos ⟨hn, ho⟩, Stt.set_own]
theorem Stt.storeA {k n : Nat} {cs vs : List AV} (h : es[k]? = some (.obj cs)) (hv : cells1 vs = some vs) (hn : vs.length = n) (ho : cs.length = n) :
    storeV S.length n (.ptr (S.length + k) 0) (.agg vs) (Stt S i e es) = some (Stt S i e (es.set k (.obj vs))) := by
  have := Stt.store (S := S) (i := i) (e := e) (o := 0) (v := .agg vs) (vs := vs) h hv hn (by omega)
  rw [this, setC_full (by omega)]
theorem Stt.storeA0 {n : Nat} {cs vs : List AV} (h : es[0]? = some (.obj cs)) (hv : cells1 vs = some vs) (hn : vs.length = n) (ho : cs.length = n) :
    storeV S.length n (.ptr S.length 0) (.agg vs) (Stt S i e es) = some (Stt S i e (es.set 0 (.obj vs))) := Stt.storeA (k := 0) h hv hn ho
theorem Stt.loadA {k n : Nat} {cs : List AV} (h : es[k]? = some (.obj cs)) (hn : cs.length = n) : loadV (some n) (.ptr (S.length + k) 0) (Stt S i e es) = some (.agg cs) := by
  rw [Stt.load h, takeC, if_pos (by omega), List.drop_zero, List.take_of_length_le (by omega)]
theorem Stt.loadA0 {n : Nat} {cs : List AV} (h : es[0]? = some (.obj cs)) (hn : cs.length = n) : loadV (some n) (.ptr S.length 0) (Stt S i e es) = some (.agg cs) := Stt.loadA (k := 0) h hn
theorem Stt.storeB {b k o n : Nat} {cs vs : List AV} {v : AV} (hb : b ≤ S.length + k) (h : es[k]? = some (.obj cs)) (hv : cells1 (cellsOf v) = some vs) (hn : (cellsOf v).length = n) (ho : o + n ≤ cs.length) :
    storeV b n (.ptr (S.length + k) o) v (Stt S i e es) = some (Stt S i e (es.set k (.obj (setC cs o vs)))) := by
  simp only [storeV, Stt.own, h, blt_false hb, cond_false, hv, Option.bind_some]
  rw [if_pos ⟨hn, ho⟩, Stt.set_own]
theorem Stt.store0 {o n : Nat} {cs vs : List AV} {v : AV} (h : es[0]? = some (.obj cs)) (hv : cells1 (cellsOf v) = some vs) (hn : (cellsOf v).length = n) (ho : o + n ≤ cs.length) :
    storeV S.length n (.ptr S.length o) v (Stt S i e es) = some (Stt S i e (es.set 0 (.obj (setC cs o vs)))) := Stt.store (k := 0) h hv hn ho
theorem Stt.next {k : Nat} {vs : List AV} (h : (belows (S.length + k) vs && entsBelow (S.length + k) (es.take k)) = true) : nextS S.length (S.length + k) vs (Stt S i e es) = some (vs, Stt S i e (es.take k)) := by
  simp only [nextS, Stt.take, Stt.drop]
  rw [if_pos h]
theorem Stt.next0 {vs : List AV} (h : belows S.length vs = true) : nextS S.length S.length vs (Stt S i e es) = some (vs, Stt S i e []) := by
  have := Stt.next (S := S) (i := i) (e := e) (es := es) (k := 0) (vs := vs) (by simpa [entsBelow] using h)
  simpa using this
theorem Stt.stay {k : Nat} {vs : List AV} (h : es.length = k) : nextS S.length (S.length + k) vs (Stt S i e es) = some (vs, Stt S i e es) := nextS_eq (by rw [Stt.length, h])
theorem Stt.nextAny {b k : Nat} {vs : List AV} : ∃ es', nextS b (S.length + k) vs (Stt S i e es) = some (vs, Stt S i e es') ∧ (es' = es ∨ es' = es.take k) := by
  unfold nextS
  split
  · exact ⟨_, by rw [Stt.take], .inr rfl⟩
  · exact ⟨_, rfl, .inl rfl⟩
/-- The entries before k are as_ they were. -/
theorem Stt.nextKeep {b k : Nat} {vs : List AV} : ∃ es', nextS b (S.length + k) vs (Stt S i e es) = some (vs, Stt S i e es') ∧ ∀ j, j < k → es'[j]? = es[j]? := by
  obtain ⟨es', h1, h2⟩ := Stt.nextAny (S := S) (i := i) (e := e) (es := es) (b := b) (k := k) (vs := vs)
  refine ⟨es', h1, fun j hj => ?_⟩
  rcases h2 with rfl | rfl
  · rfl
  · rw [List.getElem?_take_of_lt hj]
theorem Stt.finish {vs vs' : List AV} (h : fins S.length (Stt S i e es) vs = some vs') (hb : belows S.length vs' = true) : finish false S.length vs (Stt S i e es) = some (outV vs', Stt S i e []) := by
  rw [finish_eq h hb, Stt.take0]
theorem Stt.append {k n sz : Nat} {xs ys : List (List AV)} {t : Tok} (h : es[k]? = some (.tail n sz)) (hn : n = xs.length) (hy : immRows sz ys = some ys) (h0 : ys ≠ []) (hr : xs.length + ys.length ≤ room) :
    appendV sz (.sl xs (.own (S.length + k))) (.sl ys t) (Stt S i e es) = some (.sl (xs ++ ys) (.own (S.length + k)), Stt S i e (es.set k (.tail (xs.length + ys.length) sz))) := by
  cases ys with
  | nil => exact absurd rfl h0
  | cons y ys =>
    simp only [appendV, rowsOf_sl, Option.bind_some, hy, Stt.own, h]
    rw [if_pos hr, if_pos ⟨hn, trivial⟩, Stt.set_own, hn]
theorem Stt.append0 {n sz : Nat} {xs ys : List (List AV)} {t : Tok} (h : es[0]? = some (.tail n sz)) (hn : n = xs.length) (hy : immRows sz ys = some ys) (h0 : ys ≠ []) (hr : xs.length + ys.length ≤ room) :
    appendV sz (.sl xs (.own S.length)) (.sl ys t) (Stt S i e es) = some (.sl (xs ++ ys) (.own S.length), Stt S i e (es.set 0 (.tail (xs.length + ys.length) sz))) := Stt.append (k := 0) h hn hy h0 hr
theorem Stt.only {j o : Nat} {as_ : List AV} {v : AV} {e' : Ent} (h : i < S.length) (hj : j ≠ i) : onlyV (.ptr i 0 :: as_) [.ptr j o] (Stt S i e es) (v, Stt S i e' es) = some (v, Stt S i e' es) := by
  have hb : avoidB i [.ptr j o] = true := by
    have : Nat.beq j i = false := by rw [Bool.eq_false_iff]; exact fun h => hj (Nat.eq_of_beq_eq_true h)
    simp [avoidB, this]
  simp only [onlyV]
  rw [if_pos ⟨⟨e', by rw [Stt.set_src h]⟩, hb⟩]
theorem Ev.fin {vs vs' : List AV} {Q : AV × Store → Prop} (h : fins S.length (Stt S i e es) vs = some vs') (hb : belows S.length vs' = true) (hQ : Q (outV vs', Stt S i e [])) : Ev (Abs.finish false S.length vs (Stt S i e es)) Q := .of (Stt.finish h hb) hQ
end

/-! ### A store with entries of the call's own behind it -/

section
variable {S es : Store}
theorem Ap.get {k : Nat} : (S ++ es)[S.length + k]? = es[k]? := by rw [List.getElem?_append_right (by omega)]; simp
theorem Ap.store {k o n : Nat} {cs vs : List AV} {v : AV} (h : es[k]? = some (.obj cs)) (hv : cells1 (cellsOf v) = some vs) (hn : (cellsOf v).length = n) (ho : o + n ≤ cs.length) :
    storeV S.length n (.ptr (S.length + k) o) v (S ++ es) = some (S ++ es.set k (.obj (setC cs o vs))) := by
  simp only [storeV, Ap.get, h, blt_false (Nat.le_add_right _ _), cond_false, hv, Option.bind_some]
  rw [if_pos ⟨hn, ho⟩, List.set_append_right _ _ (by omega)]
  simp
theorem Ap.store0 {o n : Nat} {cs vs : List AV} {v : AV} (h : es[0]? = some (.obj cs)) (hv : cells1 (cellsOf v) = some vs) (hn : (cellsOf v).length = n) (ho : o + n ≤ cs.length) :
    storeV S.length n (.ptr S.length o) v (S ++ es) = some (S ++ es.set 0 (.obj (setC cs o vs))) := Ap.store (k := 0) h hv hn ho
theorem Ap.storeA {k n : Nat} {cs vs : List AV} (h : es[k]? = some (.obj cs)) (hv : cells1 vs = some vs) (hn : vs.length = n) (ho : cs.length = n) :
    storeV S.length n (.ptr (S.length + k) 0) (.agg vs) (S ++ es) = some (S ++ es.set k (.obj vs)) := by
  have := Ap.store (S := S) (o := 0) (v := .agg vs) (vs := vs) h hv hn (by omega)
  rw [this, setC_full (by omega)]
theorem Ap.storeA0 {n : Nat} {cs vs : List AV} (h : es[0]? = some (.obj cs)) (hv : cells1 vs = some vs) (hn : vs.length = n) (ho : cs.length = n) :
    storeV S.length n (.ptr S.length 0) (.agg vs) (S ++ es) = some (S ++ es.set 0 (.obj vs)) := Ap.storeA (k := 0) h hv hn ho
theorem Ap.load {k o : Nat} {n : Option Nat} {cs : List AV} (h : es[k]? = some (.obj cs)) : loadV n (.ptr (S.length + k) o) (S ++ es) = takeC n cs o := by
  simp only [loadV, Ap.get, h]
theorem Ap.load0 {o : Nat} {n : Option Nat} {cs : List AV} (h : es[0]? = some (.obj cs)) : loadV n (.ptr S.length o) (S ++ es) = takeC n cs o := Ap.load (k := 0) h
theorem Ap.loadA {k n : Nat} {cs : List AV} (h : es[k]? = some (.obj cs)) (hn : cs.length = n) : loadV (some n) (.ptr (S.length + k) 0) (S ++ es) = some (.agg cs) := by
  rw [Ap.load h, takeC, if_pos (by omega), List.drop_zero, List.take_of_length_le (by omega)]
theorem Ap.loadA0 {n : Nat} {cs : List AV} (h : es[0]? = some (.obj cs)) (hn : cs.length = n) : loadV (some n) (.ptr S.length 0) (S ++ es) = some (.agg cs) := Ap.loadA (k := 0) h hn
theorem Ap.finish {vs vs' : List AV} (h : fins S.length (S ++ es) vs = some vs') (hb : belows S.length vs' = true) : Abs.finish false S.length vs (S ++ es) = some (outV vs', S) := by
  rw [finish_eq h hb]; simp

/-- The end of a function whose result lies in its first entry. -/
theorem Ap.ret1 {n : Nat} {cs vs : List AV} (h : es[0]? = some (.obj cs)) (hv : cells1 vs = some vs) (hi : imms vs = some vs) (hb : belows S.length vs = true) (hn : vs.length = n) (ho : cs.length = n) :
    ((storeV S.length n (.ptr S.length 0) (.agg vs) (S ++ es)).bind fun S1 => ((loadV (some n) (.ptr S.length 0) S1).bind fun v => (some []).bind fun r => some (v :: r)).bind fun q => Abs.finish false S.length q S1) = some (.agg vs, S) := by
  have hl : 0 < es.length := by
    cases es with
    | nil => cases h
    | cons => simp
  rw [Ap.storeA0 h hv hn ho, Option.bind_some, Ap.loadA0 (cs := vs) (by simp [hl]) hn]
  simp only [Option.bind_some]
  rw [Ap.finish (vs' := [.agg vs]) (by simp [fins, fin1, hi]) (by simp [hb])]
  rfl
theorem Ap.ret2 {n : Nat} {cs vs : List AV} {x x' : AV} (h : es[0]? = some (.obj cs)) (hv : cells1 vs = some vs) (hi : imms vs = some vs) (hb : belows S.length vs = true) (hn : vs.length = n) (ho : cs.length = n) (hx : fin1 S.length (S ++ es.set 0 (.obj vs)) x = some x') (hxb : below S.length x' = true) :
    ((storeV S.length n (.ptr S.length 0) (.agg vs) (S ++ es)).bind fun S1 => ((loadV (some n) (.ptr S.length 0) S1).bind fun v => ((some []).bind fun r => some (x :: r)).bind fun r => some (v :: r)).bind fun q => Abs.finish false S.length q S1) = some (.tup [.agg vs, x'], S) := by
  have hl : 0 < es.length := by
    cases es with
    | nil => cases h
    | cons => simp
  rw [Ap.storeA0 h hv hn ho, Option.bind_some, Ap.loadA0 (cs := vs) (by simp [hl]) hn]
  simp only [Option.bind_some]
  rw [Ap.finish (vs' := [.agg vs, x']) (by rw [fins, fins, fins, hx]; simp only [fin1, hi, Option.bind_some]) (by simp [hb, hxb])]
  rfl
end
end Go.Abs

/-
  The reader of numbers, as_ the makers of given data use it.
-/
namespace Go.Proofs.YtlilahgndpdkfaaDoor
open Go Go.Abs

/-- The store, its reader at a, with entries of the call's own. -/
abbrev Sr (S : Store) (i : Nat) (L : List Int) (a : Nat) (es : Store) : Store := Stt S i (srcE L a) es

structure Sc (S : Store) (i : Nat) (L : List Int) (a : Nat) : Prop where
  lt : i < S.length
  le : a ≤ L.length
  len : L.length ≤ 2000
  num : ∀ n ∈ L, In64 n

section
variable {S : Store} {i : Nat} {L : List Int} {a : Nat} {es : Store}
theorem Sc.src (h : Sc S i L a) : Src (Sr S i L a es) i L a := ⟨Stt.src h.lt, h.le, h.len, h.num⟩
theorem Sc.to (h : Sc S i L a) {b : Nat} (hb : b ≤ L.length) : Sc S i L b := ⟨h.lt, hb, h.len, h.num⟩
theorem Sc.flat (h : Sc S i L a) {b : Nat} : Sc S i L b → Sc (Sr S i L a es) i L b := fun h2 => ⟨by rw [Stt.length]; have := h.lt; omega, h2.le, h2.len, h2.num⟩
theorem Sc.back (h : Sc S i L a) {b : Nat} : Sc (Sr S i L a es) i L b → Sc S i L b := fun h2 => ⟨h.lt, h2.le, h2.len, h2.num⟩
theorem Sc.of (h : Src S i L a) : Sc S i L a := ⟨h.lt, h.le, h.len, h.num⟩

/-- What a maker of data answers: a value of which Q is so, and the reader read on. -/
def Mk (f : Nat) (args : List AV) (S : Store) (i : Nat) (L : List Int) (a : Nat) (Q : AV → Prop) : Prop :=
  Ev (call f args (Sr S i L a [])) fun r => ∃ v a', Sc S i L a' ∧ Q v ∧ r = (v, Sr S i L a' [])

/-- Wherever the reader stands. -/
def Maker (f : Nat) (args : List AV) (i : Nat) (Q : AV → Prop) : Prop := ∀ (S : Store) (L : List Int) (a : Nat), Sc S i L a → Mk f args S i L a Q

theorem Maker.at {f : Nat} {args : List AV} {Q : AV → Prop} (h : Maker f args i Q) (hs : Sc S i L a) : Ev (call f args (Sr S i L a es)) fun r => ∃ v a', Sc S i L a' ∧ Q v ∧ r = (v, Sr S i L a' es) := by
  have h1 := h (Sr S i L a es) L a (hs.flat hs)
  have e1 : Sr (Sr S i L a es) i L a [] = Sr S i L a es := Stt.self (Stt.src hs.lt)
  unfold Mk at h1
  rw [e1] at h1
  refine h1.mono ?_
  rintro _ ⟨v, a', h2, h3, rfl⟩
  refine ⟨v, a', hs.back h2, h3, ?_⟩
  have : Sr (Sr S i L a es) i L a' [] = Sr S i L a' es := by
    show Stt (Stt S i _ es) i _ [] = _
    rw [Stt.flat hs.lt, List.append_nil]
  rw [this]

theorem e_Raw (hs : Sc S i L a) : Ev (call 31 [.ptr i 0] (Sr S i L a es)) fun r => ∃ v a', Sc S i L a' ∧ In64 v ∧ r = (i64 v, Sr S i L a' es) :=
  .of (s_Raw hs.src) ⟨_, _, hs.to (rawP_le hs.le), rawP_in hs.num, by rw [show (Sr S i L a es).set i _ = _ from Stt.set_src hs.lt]⟩

theorem e_N (hs : Sc S i L a) {n : Int} (h1 : 1 ≤ n) (h2 : n ≤ 9223372036854775807) : Ev (call 15 [.ptr i 0, i64 n] (Sr S i L a es)) fun r => ∃ v a', Sc S i L a' ∧ 0 ≤ v ∧ v < n ∧ r = (i64 v, Sr S i L a' es) := by
  obtain ⟨v, a', h3, h4, h5, h6⟩ := n_N (hs.src (es := es)) (n := n) (by unfold In64; omega) h1
  exact .of h6 ⟨v, a', hs.to h5, h3, h4, by rw [show (Sr S i L a es).set i _ = _ from Stt.set_src hs.lt]⟩

theorem e_Range (hs : Sc S i L a) {lo hi : Int} (h0 : lo ≤ hi) (h1 : -4611686018427387904 ≤ lo) (h2 : hi ≤ 4611686018427387902) : Ev (call 23 [.ptr i 0, i64 lo, i64 hi] (Sr S i L a es)) fun r => ∃ v a', Sc S i L a' ∧ lo ≤ v ∧ v ≤ hi ∧ r = (i64 v, Sr S i L a' es) := by
  obtain ⟨v, a', h3, h4, h5, h6⟩ := n_Range (hs.src (es := es)) h0 h1 h2
  exact .of h6 ⟨v, a', hs.to h5, h3, h4, by rw [show (Sr S i L a es).set i _ = _ from Stt.set_src hs.lt]⟩

theorem ints_of : ∀ {rows : List (List AV)}, (∀ x ∈ rows, ∃ n : Int, x = [i64 n]) → ∃ l, rows = ints l
  | [], _ => ⟨[], rfl⟩
  | x :: rows, h => by
    obtain ⟨n, rfl⟩ := h x (by simp)
    obtain ⟨l, hl⟩ := ints_of (rows := rows) fun y hy => h y (by simp [hy])
    exact ⟨n :: l, by rw [hl]; rfl⟩
theorem strs_of : ∀ {rows : List (List AV)}, (∀ x ∈ rows, ∃ s, x = [AV.str s]) → ∃ l, rows = strs l
  | [], _ => ⟨[], rfl⟩
  | x :: rows, h => by
    obtain ⟨n, rfl⟩ := h x (by simp)
    obtain ⟨l, hl⟩ := strs_of (rows := rows) fun y hy => h y (by simp [hy])
    exact ⟨n :: l, by rw [hl]; rfl⟩

theorem e_Pick (hs : Sc S i L a) {rows : List (List AV)} {t : Tok} (h0 : rows ≠ []) (h1 : rows.length ≤ 2000000) (h2 : ∀ x ∈ rows, ∃ n : Int, x = [i64 n]) : Ev (call 29 [.ptr i 0, .sl rows t] (Sr S i L a es)) fun r => ∃ v a', Sc S i L a' ∧ [i64 v] ∈ rows ∧ r = (i64 v, Sr S i L a' es) := by
  obtain ⟨l, rfl⟩ := ints_of h2
  obtain ⟨v, a', h3, h5, h6⟩ := n_Pick (hs.src (es := es)) (l := l) (t := t) (by rintro rfl; exact h0 rfl) (by simpa using h1)
  exact .of h6 ⟨v, a', hs.to h5, List.mem_map.2 ⟨v, h3, rfl⟩, by rw [show (Sr S i L a es).set i _ = _ from Stt.set_src hs.lt]⟩

theorem e_Text (hs : Sc S i L a) {rows : List (List AV)} {t : Tok} (h0 : rows ≠ []) (h1 : rows.length ≤ 2000000) (h2 : ∀ x ∈ rows, ∃ s, x = [AV.str s]) : Ev (call 28 [.ptr i 0, .sl rows t] (Sr S i L a es)) fun r => ∃ v a', Sc S i L a' ∧ [.str v] ∈ rows ∧ r = (.str v, Sr S i L a' es) := by
  obtain ⟨l, rfl⟩ := strs_of h2
  obtain ⟨v, a', h3, h5, h6⟩ := n_Text (hs.src (es := es)) (l := l) (t := t) (by rintro rfl; exact h0 rfl) (by simpa using h1)
  exact .of h6 ⟨v, a', hs.to h5, List.mem_map.2 ⟨v, h3, rfl⟩, by rw [show (Sr S i L a es).set i _ = _ from Stt.set_src hs.lt]⟩

theorem e_only {m : Option (AV × Store)} {P : AV × Store → Prop} {rest : List AV} {j o : Nat} (hi : i < S.length) (hj : j ≠ i) (h : Ev m P) (hP : ∀ r, P r → ∃ v a', r = (v, Sr S i L a' es)) : Ev (m.bind (onlyV (.ptr i 0 :: rest) [.ptr j o] (Sr S i L a es))) P := by
  refine h.bind fun r hr => ?_
  obtain ⟨v, a', rfl⟩ := hP r hr
  exact .of (Stt.only hi hj) hr

theorem e_Mod {x n : Int} (h1 : 1 ≤ n) (h2 : n ≤ 9223372036854775807) {S : Store} : Ev (call 22 [i64 x, i64 n] S) fun r => ∃ v, 0 ≤ v ∧ v < n ∧ r = (i64 v, S) :=
  .of (s_Mod (by unfold In64; omega) S) ⟨_, (modP_range h1).1, (modP_range h1).2, rfl⟩
end
end Go.Proofs.YtlilahgndpdkfaaDoor

/-
  What the makers of given data answer: the reader, minutes, parameters, series.
-/
namespace Go.Proofs.YtlilahgndpdkfaaDoor
open Go Go.Abs

theorem ints_take (L : List Int) (n : Nat) : (ints L).take n = ints (L.take n) := by simp [ints]

theorem s_New {L : List Int} {t : Tok} (S : Store) : call 11 [.sl (ints L) t] S = some (.ptr S.length 0, S ++ [srcE (L.take 2000) 0]) := by
  rw [k11]
  unfold F11
  have h1 : min2 (L.length : Int) 2000 = ((min 2000 L.length : Nat) : Int) := by unfold min2; split <;> omega
  have h2 : (ints L).take (min 2000 L.length) = ints (L.take 2000) := by
    rw [ints_take]; congr 1; exact List.take_eq_take_iff.2 (by omega)
  have h3 : (ints L).length = L.length := by simp [ints]
  have h4 : szOK 1 (ints L) = true := by cases L <;> rfl
  have h5 : sliceV 1 (.sl (ints L) t) none (some (i64 ((min 2000 L.length : Nat) : Int))) none = some (.sl (ints (L.take 2000)) .none) := by
    simp only [sliceV, bound, i64, h3]
    rw [if_pos (by omega)]
    simp only [Option.bind_some, Int.toNat_natCast, h2, mxFits, h4, Bool.true_and, cond_true, List.drop_zero, sliceTok]
  simp only [List.getD_cons_zero, lenV, h3, Option.bind_some, i64, minmaxV, minmaxGo, if_true, cond_false, h1]
  simp only [i64] at h5
  rw [h5]
  simp [srcE, finish, noOsl]

theorem g_Minute (i : Nat) : Maker 13 [.ptr i 0] i fun v => ∃ m : Int, v = i64 m ∧ 0 ≤ m ∧ m ≤ 52595999 := by
  intro S L a hs
  unfold Mk
  rw [k13]
  unfold F13
  simp only [Stt.length, List.length_nil, Nat.add_zero]
  repeat (first
    | refine Ev.fin (by simp [] <;> rfl) (by simp []) ?_
    | refine Ev.t (by rfl) ?_
    | refine Ev.f (by rfl) ?_
    | refine Ev.ite (by first | rfl | assumption) ?_
    | refine Ev.to (by simp (disch := omega) [-loadV, -storeV, -Int.natCast_add, loadV_ip] <;> rfl) ?_)
  refine Ev.bind (e_N (by assumption) (by omega) (by omega)) ?_
  rintro _ ⟨v1, a1, h1, _, _, rfl⟩
  try dsimp only
  repeat (first
    | refine Ev.fin (by simp [] <;> rfl) (by simp []) ?_
    | refine Ev.t (by rfl) ?_
    | refine Ev.f (by rfl) ?_
    | refine Ev.ite (by first | rfl | assumption) ?_
    | refine Ev.to (by simp (disch := omega) [-loadV, -storeV, -Int.natCast_add, loadV_ip] <;> rfl) ?_)
  refine Ev.beq (fun _ => ?_) (fun _ => ?_)
  · skip
    repeat (first
      | refine Ev.fin (by simp [] <;> rfl) (by simp []) ?_
      | refine Ev.t (by rfl) ?_
      | refine Ev.f (by rfl) ?_
      | refine Ev.ite (by first | rfl | assumption) ?_
      | refine Ev.to (by simp (disch := omega) [-loadV, -storeV, -Int.natCast_add, loadV_ip] <;> rfl) ?_)
    refine Ev.bind (e_Raw (by assumption)) ?_
    rintro _ ⟨v2, a2, h2, r2, rfl⟩
    try dsimp only
    repeat (first
      | refine Ev.fin (by simp [] <;> rfl) (by simp []) ?_
      | refine Ev.t (by rfl) ?_
      | refine Ev.f (by rfl) ?_
      | refine Ev.ite (by first | rfl | assumption) ?_
      | refine Ev.to (by simp (disch := omega) [-loadV, -storeV, -Int.natCast_add, loadV_ip] <;> rfl) ?_)
    refine Ev.bind (e_Raw (by assumption)) ?_
    rintro _ ⟨v3, a3, h3, r3, rfl⟩
    try dsimp only
    repeat (first
      | refine Ev.fin (by simp [] <;> rfl) (by simp []) ?_
      | refine Ev.t (by rfl) ?_
      | refine Ev.f (by rfl) ?_
      | refine Ev.ite (by first | rfl | assumption) ?_
      | refine Ev.to (by simp (disch := omega) [-loadV, -storeV, -Int.natCast_add, loadV_ip] <;> rfl) ?_)
    refine Ev.bind (e_Mod (by omega) (by omega)) ?_
    rintro _ ⟨v4, _, _, rfl⟩
    try dsimp only
    repeat (first
      | refine Ev.fin (by simp [] <;> rfl) (by simp []) ?_
      | refine Ev.t (by rfl) ?_
      | refine Ev.f (by rfl) ?_
      | refine Ev.ite (by first | rfl | assumption) ?_
      | refine Ev.to (by simp (disch := omega) [-loadV, -storeV, -Int.natCast_add, loadV_ip] <;> rfl) ?_)
    exact ⟨_, _, h3, ⟨_, rfl, by omega, by omega⟩, rfl⟩
  · skip
    repeat (first
      | refine Ev.fin (by simp [] <;> rfl) (by simp []) ?_
      | refine Ev.t (by rfl) ?_
      | refine Ev.f (by rfl) ?_
      | refine Ev.ite (by first | rfl | assumption) ?_
      | refine Ev.to (by simp (disch := omega) [-loadV, -storeV, -Int.natCast_add, loadV_ip] <;> rfl) ?_)
    refine Ev.beq (fun _ => ?_) (fun _ => ?_)
    · skip
      repeat (first
        | refine Ev.fin (by simp [] <;> rfl) (by simp []) ?_
        | refine Ev.t (by rfl) ?_
        | refine Ev.f (by rfl) ?_
        | refine Ev.ite (by first | rfl | assumption) ?_
        | refine Ev.to (by simp (disch := omega) [-loadV, -storeV, -Int.natCast_add, loadV_ip] <;> rfl) ?_)
      refine Ev.bind (e_Pick (by assumption) (by simp) (by simp) (by simp)) ?_
      rintro _ ⟨v2, a2, h2, r2, rfl⟩
      try dsimp only
      repeat (first
        | refine Ev.fin (by simp [] <;> rfl) (by simp []) ?_
        | refine Ev.t (by rfl) ?_
        | refine Ev.f (by rfl) ?_
        | refine Ev.ite (by first | rfl | assumption) ?_
        | refine Ev.to (by simp (disch := omega) [-loadV, -storeV, -Int.natCast_add, loadV_ip] <;> rfl) ?_)
      exact ⟨_, _, h2, ⟨_, rfl, by simp at r2; omega, by simp at r2; omega⟩, rfl⟩
    · skip
      repeat (first
        | refine Ev.fin (by simp [] <;> rfl) (by simp []) ?_
        | refine Ev.t (by rfl) ?_
        | refine Ev.f (by rfl) ?_
        | refine Ev.ite (by first | rfl | assumption) ?_
        | refine Ev.to (by simp (disch := omega) [-loadV, -storeV, -Int.natCast_add, loadV_ip] <;> rfl) ?_)
      refine Ev.bind (e_N (by assumption) (by omega) (by omega)) ?_
      rintro _ ⟨v2, a2, h2, _, _, rfl⟩
      try dsimp only
      repeat (first
        | refine Ev.fin (by simp [] <;> rfl) (by simp []) ?_
        | refine Ev.t (by rfl) ?_
        | refine Ev.f (by rfl) ?_
        | refine Ev.ite (by first | rfl | assumption) ?_
        | refine Ev.to (by simp (disch := omega) [-loadV, -storeV, -Int.natCast_add, loadV_ip] <;> rfl) ?_)
      exact ⟨_, _, h2, ⟨_, rfl, by omega, by omega⟩, rfl⟩

/-! ### Parameters -/

def Ctl.step (k : Ctl) (c : Nat) (v : Int) : Ctl := { k with steps := k.steps.set c v }
def Ctl.spike (k : Ctl) (c : Nat) (v : Int) : Ctl := { k with spikes := k.spikes.set c v }
def Ctl.more (k : Ctl) (c : Nat) (v : Int) : Ctl := { k with rest := k.rest.set c v }

theorem ctl_step {k : Ctl} (hk : k.Fit) {c : Nat} (hc : c < 12) (v : Int) : (ctlC k).set (1 + c) (i64 v) = ctlC (Ctl.step k c v) := by
  have := hk.steps
  rw [Nat.add_comm]
  simp only [ctlC, Ctl.step, List.set_cons_succ, List.map_append, List.append_assoc]
  rw [List.set_append_left _ _ (by simp; omega), ← List.map_set]
theorem ctl_spike {k : Ctl} (hk : k.Fit) {c : Nat} (hc : c < 12) (v : Int) : (ctlC k).set (13 + c) (i64 v) = ctlC (Ctl.spike k c v) := by
  have h1 := hk.steps
  have h2 := hk.spikes
  rw [show 13 + c = (12 + c) + 1 by omega]
  simp only [ctlC, Ctl.spike, List.set_cons_succ, List.map_append, List.append_assoc]
  rw [List.set_append_right _ _ (by simp; omega), List.set_append_left _ _ (by simp; omega)]
  simp [h1, List.map_set]
theorem ctl_more {k : Ctl} (hk : k.Fit) {c : Nat} (hc : c < 12) (v : Int) : (ctlC k).set (26 + c) (i64 v) = ctlC (Ctl.more k (1 + c) v) := by
  have h1 := hk.steps
  have h2 := hk.spikes
  have h3 := hk.rest
  rw [show 26 + c = (25 + c) + 1 by omega]
  simp only [ctlC, Ctl.more, List.set_cons_succ, List.map_append, List.append_assoc]
  rw [List.set_append_right _ _ (by simp; omega), List.set_append_right _ _ (by simp; omega)]
  have : 25 + c - 12 - 12 = 1 + c := by omega
  simp [h1, h2, List.map_set, this]
theorem ctl_length {k : Ctl} (hk : k.Fit) : (ctlC k).length = 41 := by simp [ctlC, hk.steps, hk.spikes, hk.rest]
theorem Ctl.step_fit {k : Ctl} (hk : k.Fit) (c : Nat) (v : Int) : (Ctl.step k c v).Fit := ⟨by simp [Ctl.step, hk.steps], hk.spikes, hk.rest⟩
theorem Ctl.spike_fit {k : Ctl} (hk : k.Fit) (c : Nat) (v : Int) : (Ctl.spike k c v).Fit := ⟨hk.steps, by simp [Ctl.spike, hk.spikes], hk.rest⟩
theorem Ctl.more_fit {k : Ctl} (hk : k.Fit) (c : Nat) (v : Int) : (Ctl.more k c v).Fit := ⟨hk.steps, hk.spikes, by simp [Ctl.more, hk.rest]⟩

theorem poss_set {l : List Int} {c : Nat} {v : Int} (h : possP l = true) (h0 : 0 ≤ v) (h1 : v ≤ 10000) : possP (l.set c v) = true := by
  unfold possP at *
  rw [Bool.not_eq_true', List.any_eq_false] at *
  intro x hx
  rcases List.mem_or_eq_of_mem_set hx with hx | rfl
  · exact h x hx
  · simp; omega

/-- Parameters whose steps and spikes may be. -/
structure CtlOk (k : Ctl) : Prop where
  fit : k.Fit
  steps : possP k.steps = true
  spikes : possP k.spikes = true

theorem ctl_put {S : Store} {i : Nat} {L : List Int} {a o : Nat} {z : Ent} {k k' : Ctl} (hk : k.Fit) (ho : o < 41) {v : Int} (h : (ctlC k).set o (i64 v) = ctlC k') :
    storeV S.length 1 (.ptr (S.length + 1) o) (i64 v) (Sr S i L a [z, .obj (ctlC k)]) = some (Sr S i L a [z, .obj (ctlC k')]) := by
  have := Stt.store (S := S) (i := i) (e := srcE L a) (es := [z, .obj (ctlC k)]) (k := 1) (o := o) (n := 1) (v := i64 v) (cs := ctlC k) (vs := [i64 v]) rfl rfl rfl (by rw [ctl_length hk]; omega)
  rw [this]
  simp only [setC, h, List.set_cons_succ, List.set_cons_zero]

theorem imms_ctl (k : Ctl) : imms (ctlC k) = some (ctlC k) := by
  have := imms_i64s (k.hops :: (k.steps ++ k.spikes ++ k.rest))
  simpa [ctlC] using this
theorem cells1_i64s (l : List Int) : cells1 (l.map i64) = some (l.map i64) := by
  induction l with
  | nil => rfl
  | cons a l ih => simp [ih]
theorem cells1_ctl (k : Ctl) : cells1 (ctlC k) = some (ctlC k) := by
  have := cells1_i64s (k.hops :: (k.steps ++ k.spikes ++ k.rest))
  simpa [ctlC] using this

theorem idx12 (j o : Nat) {c : Nat} (hc : c < 12) : indexAV 1 (some 12) (.ptr j o) (.int .i64 (c : Int)) = some (.ptr j (o + c)) := by
  simp only [indexAV]
  rw [if_pos (by omega)]
  simp

set_option maxHeartbeats 2000000 in
theorem g_ControlL {S : Store} {i : Nat} {L : List Int} {z : Ent} (st : List AV × Store) (c a : Nat) (k : Ctl) (e : st = ([i64 (c : Int)], Sr S i L a [z, .obj (ctlC k)])) (hs : Sc S i L a) (hk : CtlOk k) (hc : c ≤ 12) :
    Ev (F14_L1 call S.length (.ptr i 0) .u (.ptr (S.length + 1) 0) (st.1.getD 0 .u) st.2) fun x => match x with
      | .inr r => ∃ a k, Sc S i L a ∧ CtlOk k ∧ r = (.exit 0, [], Sr S i L a [z, .obj (ctlC k)])
      | .inl s' => c + 1 ≤ 12 ∧ ∃ a k, Sc S i L a ∧ CtlOk k ∧ s' = ([i64 ((c + 1 : Nat) : Int)], Sr S i L a [z, .obj (ctlC k)]) := by
  subst e
  unfold F14_L1
  simp only [List.getD_cons_zero, Stt.length, List.length_cons, List.length_nil]
  by_cases h : (c : Int) ≤ 11
  · have hc : c < 12 := by omega
    have x1 := idx12 (S.length + 1) 1 hc
    have x2 := idx12 (S.length + 1) 13 hc
    have x3 := idx12 (S.length + 1) 26 hc
    have w1 : IntKind.i64.wrap ((c : Int) + 1) = ((c + 1 : Nat) : Int) := by rw [wrap_in (by unfold In64; omega)]; omega
    repeat (first
      | refine Ev.fin (by simp [h] <;> rfl) (by simp [h]) ?_
      | refine Ev.t (by rfl) ?_
      | refine Ev.f (by rfl) ?_
      | refine Ev.ite (by first | rfl | assumption) ?_
      | refine Ev.to (by simp (disch := omega) [-loadV, -storeV, -Int.natCast_add, loadV_ip, h] <;> rfl) ?_)
    refine Ev.bind (e_Pick (by assumption) (by simp) (by simp) (by simp)) ?_
    rintro _ ⟨v1, a1, h1, r1, rfl⟩
    try dsimp only
    have hk1 := Ctl.step_fit hk.fit c v1
    have s1 := ctl_put (S := S) (i := i) (L := L) (a := a1) (z := z) hk.fit (by omega) (ctl_step hk.fit hc v1)
    have p1 := poss_set (c := c) (v := v1) hk.steps (by simp at r1; omega) (by simp at r1; omega)
    repeat (first
      | refine Ev.fin (by simp [x1, s1] <;> rfl) (by simp [x1, s1]) ?_
      | refine Ev.t (by rfl) ?_
      | refine Ev.f (by rfl) ?_
      | refine Ev.ite (by first | rfl | assumption) ?_
      | refine Ev.to (by simp (disch := omega) [-loadV, -storeV, -Int.natCast_add, loadV_ip, x1, s1] <;> rfl) ?_)
    refine Ev.bind (e_Pick (by assumption) (by simp) (by simp) (by simp)) ?_
    rintro _ ⟨v2, a2, h2, r2, rfl⟩
    try dsimp only
    have hk2 := Ctl.spike_fit hk1 c v2
    have s2 := ctl_put (S := S) (i := i) (L := L) (a := a2) (z := z) hk1 (by omega) (ctl_spike hk1 hc v2)
    have p2 := poss_set (c := c) (v := v2) hk.spikes (by simp at r2; omega) (by simp at r2; omega)
    repeat (first
      | refine Ev.fin (by simp [x2, s2] <;> rfl) (by simp [x2, s2]) ?_
      | refine Ev.t (by rfl) ?_
      | refine Ev.f (by rfl) ?_
      | refine Ev.ite (by first | rfl | assumption) ?_
      | refine Ev.to (by simp (disch := omega) [-loadV, -storeV, -Int.natCast_add, loadV_ip, x2, s2] <;> rfl) ?_)
    refine Ev.bind (e_Pick (by assumption) (by simp) (by simp) (by simp)) ?_
    rintro _ ⟨v3, a3, h3, r3, rfl⟩
    try dsimp only
    have hk3 := Ctl.more_fit hk2 (1 + c) v3
    have s3 := ctl_put (S := S) (i := i) (L := L) (a := a3) (z := z) hk2 (by omega) (ctl_more hk2 hc v3)
    have n1 : ∀ vs, nextS S.length (S.length + (0 + 1 + 1)) vs (Sr S i L a3 [z, .obj (ctlC (Ctl.more (Ctl.spike (Ctl.step k c v1) c v2) (1 + c) v3))]) = some (vs, _) := fun vs => Stt.stay rfl
    repeat (first
      | refine Ev.fin (by simp [x3, s3, w1, n1] <;> rfl) (by simp [x3, s3, w1, n1]) ?_
      | refine Ev.t (by rfl) ?_
      | refine Ev.f (by rfl) ?_
      | refine Ev.ite (by first | rfl | assumption) ?_
      | refine Ev.to (by simp (disch := omega) [-loadV, -storeV, -Int.natCast_add, loadV_ip, x3, s3, w1, n1] <;> rfl) ?_)
    exact .mk ⟨by omega, _, _, h3, ⟨hk3, p1, p2⟩, rfl⟩
  · skip
    repeat (first
      | refine Ev.fin (by simp [h] <;> rfl) (by simp [h]) ?_
      | refine Ev.t (by rfl) ?_
      | refine Ev.f (by rfl) ?_
      | refine Ev.ite (by first | rfl | assumption) ?_
      | refine Ev.to (by simp (disch := omega) [-loadV, -storeV, -Int.natCast_add, loadV_ip, h] <;> rfl) ?_)
    exact .mk ⟨a, k, hs, hk, rfl⟩

set_option maxHeartbeats 2000000 in
theorem g_Control (i : Nat) : Maker 14 [.ptr i 0] i fun v => ∃ k : Ctl, v = .agg (ctlC k) ∧ CtlOk k := by
  intro S L a hs
  unfold Mk
  rw [k14]
  unfold F14
  simp only [Stt.length, List.length_nil, Nat.add_zero, Stt.app, List.nil_append]
  repeat (first
    | refine Ev.fin (by simp [] <;> rfl) (by simp []) ?_
    | refine Ev.t (by rfl) ?_
    | refine Ev.f (by rfl) ?_
    | refine Ev.ite (by first | rfl | assumption) ?_
    | refine Ev.to (by simp (disch := omega) [-loadV, -storeV, -Int.natCast_add, loadV_ip] <;> rfl) ?_)
  refine Ev.bind (e_Pick (by assumption) (by simp) (by simp) (by simp)) ?_
  rintro _ ⟨v1, a1, h1, r1, rfl⟩
  try dsimp only
  repeat (first
    | refine Ev.fin (by simp [] <;> rfl) (by simp []) ?_
    | refine Ev.t (by rfl) ?_
    | refine Ev.f (by rfl) ?_
    | refine Ev.ite (by first | rfl | assumption) ?_
    | refine Ev.to (by simp (disch := omega) [-loadV, -storeV, -Int.natCast_add, loadV_ip] <;> rfl) ?_)
  refine Ev.bind (e_Pick (by assumption) (by simp) (by simp) (by simp)) ?_
  rintro _ ⟨v2, a2, h2, r2, rfl⟩
  try dsimp only
  repeat (first
    | refine Ev.fin (by simp [] <;> rfl) (by simp []) ?_
    | refine Ev.t (by rfl) ?_
    | refine Ev.f (by rfl) ?_
    | refine Ev.ite (by first | rfl | assumption) ?_
    | refine Ev.to (by simp (disch := omega) [-loadV, -storeV, -Int.natCast_add, loadV_ip] <;> rfl) ?_)
  refine Ev.bind (e_Range (by assumption) (by omega) (by omega) (by omega)) ?_
  rintro _ ⟨v3, a3, h3, r3, _, rfl⟩
  try dsimp only
  repeat (first
    | refine Ev.fin (by simp [] <;> rfl) (by simp []) ?_
    | refine Ev.t (by rfl) ?_
    | refine Ev.f (by rfl) ?_
    | refine Ev.ite (by first | rfl | assumption) ?_
    | refine Ev.to (by simp (disch := omega) [-loadV, -storeV, -Int.natCast_add, loadV_ip] <;> rfl) ?_)
  refine Ev.bind (e_Pick (by assumption) (by simp) (by simp) (by simp)) ?_
  rintro _ ⟨v4, a4, h4, r4, rfl⟩
  try dsimp only
  repeat (first
    | refine Ev.fin (by simp [] <;> rfl) (by simp []) ?_
    | refine Ev.t (by rfl) ?_
    | refine Ev.f (by rfl) ?_
    | refine Ev.ite (by first | rfl | assumption) ?_
    | refine Ev.to (by simp (disch := omega) [-loadV, -storeV, -Int.natCast_add, loadV_ip] <;> rfl) ?_)
  refine Ev.bind (e_Pick (by assumption) (by simp) (by simp) (by simp)) ?_
  rintro _ ⟨v5, a5, h5, r5, rfl⟩
  try dsimp only
  repeat (first
    | refine Ev.fin (by simp [] <;> rfl) (by simp []) ?_
    | refine Ev.t (by rfl) ?_
    | refine Ev.f (by rfl) ?_
    | refine Ev.ite (by first | rfl | assumption) ?_
    | refine Ev.to (by simp (disch := omega) [-loadV, -storeV, -Int.natCast_add, loadV_ip] <;> rfl) ?_)
  let k0 : Ctl := ⟨v1, List.replicate 12 0, List.replicate 12 0, [v2, 0, 0, 0, 0, 0, 0, 0, 0, 0, 0, 0, 0, v3, v4, v5]⟩
  refine Ev.to (show cells1 (cellsOf (AV.agg (ctlC k0))) = some (ctlC k0) from cells1_ctl k0) ?_
  refine Ev.ite rfl ?_
  simp only [Stt.app, List.cons_append, List.nil_append, Stt.length, List.length_cons, List.length_nil, Nat.zero_add]
  refine Ev.bind (Ev.iter (Q := fun r => ∃ a k, Sc S i L a ∧ CtlOk k ∧ r = (.exit 0, [], Sr S i L a [.obj (List.replicate 41 (i64 0)), .obj (ctlC k)]))
    (fun m st => ∃ (c a : Nat) (k : Ctl), c + m = 12 ∧ st = ([i64 (c : Int)], Sr S i L a [.obj (List.replicate 41 (i64 0)), .obj (ctlC k)]) ∧ Sc S i L a ∧ CtlOk k) (fun m st ⟨c, a, k, hc, e, hs, hk⟩ => (g_ControlL st c a k e hs hk (by omega)).mono fun x hx => ?_)
    (k := 11) ⟨1, a5, k0, rfl, rfl, h5, ⟨⟨rfl, rfl, rfl⟩, by show possP (List.replicate 12 0) = true; decide, by show possP (List.replicate 12 0) = true; decide⟩⟩) ?_
  · cases x with
    | inr r => exact hx
    | inl s' =>
      obtain ⟨h1, a, k, h2, h3, h4⟩ := hx
      exact ⟨m - 1, by omega, c + 1, a, k, by omega, h4, h2, h3⟩
  rintro _ ⟨a6, k, h6, hk, rfl⟩
  refine Ev.exK ?_
  simp only [Nat.beq_refl, cond_true]
  have ld1 := Stt.loadA (S := S) (i := i) (e := srcE L a6) (k := 1) (es := [.obj (List.replicate 41 (i64 0)), .obj (ctlC k)]) (n := 41) rfl (ctl_length hk.fit)
  have st1 := Stt.storeA0 (S := S) (i := i) (e := srcE L a6) (es := [.obj (List.replicate 41 (i64 0)), .obj (ctlC k)]) (n := 41) rfl (cells1_ctl k) (ctl_length hk.fit) rfl
  have ld2 := Stt.loadA0 (S := S) (i := i) (e := srcE L a6) (es := [.obj (ctlC k), .obj (ctlC k)]) (n := 41) rfl (ctl_length hk.fit)
  refine Ev.to ld1 (Ev.to st1 (Ev.to (a := [.agg (ctlC k)]) (bind_of ld2 rfl) ?_))
  refine Ev.fin (vs' := [.agg (ctlC k)]) (by simp only [fins, fin1, imms_ctl, Option.bind_some]) ?_ ⟨_, _, h6, ⟨k, rfl, hk⟩, rfl⟩
  have : ∀ n (l : List Int), belows n (l.map i64) = true := fun n l => by induction l <;> simp_all
  have h := this S.length (k.hops :: (k.steps ++ k.spikes ++ k.rest))
  simpa [ctlC] using h

end Go.Proofs.YtlilahgndpdkfaaDoor

/-
  What the makers of given data answer: series of reports.
-/
namespace Go.Proofs.YtlilahgndpdkfaaDoor
open Go Go.Abs

set_option maxHeartbeats 1000000 in
theorem s_clamp {c v : Int} (h1 : 1 ≤ c) (h2 : c ≤ 11) (S : Store) : ∃ w, call 30 [i64 c, i64 v] S = some (i64 w, S) ∧ lo c ≤ w ∧ w ≤ hi c := by
  refine ⟨max2 (lo c) (min2 (hi c) v), ?_, ?_, ?_⟩
  · rw [k30]
    unfold F30
    rcases elem_cases h1 h2 with rfl | rfl | rfl | rfl | rfl | rfl | rfl | rfl | rfl | rfl | rfl <;>
      simp [indexAV, at?, lo, hi, boundsL]
  · unfold max2; split <;> omega
  · have : lo c ≤ hi c := by rcases elem_cases h1 h2 with rfl | rfl | rfl | rfl | rfl | rfl | rfl | rfl | rfl | rfl | rfl <;> decide
    unfold max2 min2; split <;> split at * <;> omega

def nALPHA : List UInt8 := [65, 76, 80, 72, 65]
def nBRAVO : List UInt8 := [66, 82, 65, 86, 79]

/-- Readings of elements below c, in order, within their ranges. -/
structure RdOk (c : Int) (l : List Rd) : Prop where
  incr : incrR l = true
  ok : ∀ r ∈ l, checkP r = 0 ∧ 1 ≤ r.1 ∧ r.1 < c

theorem incrR_snoc {l : List Rd} {x : Rd} (h : incrR l = true) (hx : ∀ r ∈ l, r.1 < x.1) : incrR (l ++ [x]) = true := by
  rw [incrR_iff] at *
  intro i hi
  simp only [List.length_append, List.length_singleton] at hi
  by_cases h2 : i + 1 < l.length
  · rw [List.getElem_append_left (by omega), List.getElem_append_left h2]; exact h i h2
  · rw [List.getElem_append_left (by omega), List.getElem_append_right (by omega)]
    simp only [List.getElem_singleton]
    exact hx _ (List.getElem_mem _)

theorem RdOk.snoc {c : Int} {l : List Rd} (h : RdOk c l) {w : Int} (h1 : 1 ≤ c) (h2 : c ≤ 11) (h3 : lo c ≤ w) (h4 : w ≤ hi c) : RdOk (c + 1) (l ++ [(c, w)]) := by
  refine ⟨incrR_snoc h.incr fun r hr => (h.ok r hr).2.2, fun r hr => ?_⟩
  rcases List.mem_append.1 hr with hr | hr
  · obtain ⟨a, b, c⟩ := h.ok r hr; exact ⟨a, b, by omega⟩
  · obtain rfl := List.mem_singleton.1 hr
    refine ⟨?_, h1, by simp only; omega⟩
    unfold checkP
    simp only
    rw [if_neg (by omega), if_neg (by omega)]

theorem RdOk.up {c d : Int} {l : List Rd} (h : RdOk c l) (hd : c ≤ d) : RdOk d l := ⟨h.incr, fun r hr => ⟨(h.ok r hr).1, (h.ok r hr).2.1, by have := (h.ok r hr).2.2; omega⟩⟩

theorem RdOk.valid {c : Int} {l : List Rd} (h : RdOk c l) : validP l = 0 := by
  unfold validP
  have a : ∀ e : Int, e ≠ 0 → (l.any fun r => checkP r == e) = false := fun e he => by
    rw [List.any_eq_false]; intro r hr; rw [(h.ok r hr).1]; simp; exact fun h => he h.symm
  rw [a 4 (by decide), a 1 (by decide), h.incr]; rfl

theorem incr_len : ∀ (l : List Rd) (a : Int), l.Pairwise (fun x y => x.1 < y.1) → (∀ r ∈ l, a ≤ r.1 ∧ r.1 < 12) → a ≤ 12 → (l.length : Int) ≤ 12 - a
  | [], a, _, _, ha => by simp; omega
  | x :: l, a, h, hr, ha => by
    have hx := hr x (by simp)
    have h' := List.pairwise_cons.1 h
    have := incr_len l (x.1 + 1) h'.2 (fun r hr' => by
      have h1 := h'.1 r hr'
      have h2 := hr r (by simp [hr'])
      omega) (by omega)
    simp only [List.length_cons]
    omega

theorem RdOk.len {l : List Rd} (h : RdOk 12 l) : l.length ≤ 11 := by
  have := incr_len l 1 (incrR_pairwise h.incr) (fun r hr => ⟨(h.ok r hr).2.1, (h.ok r hr).2.2⟩) (by omega)
  omega

/-- The entries of a series that is made: the reports, the values, the readings of the report that is made, the report. -/
def serE (n : Nat) (vals : List Int) (r : Rep) (j : Nat) : Store :=
  [.tail n 8, .obj (vals.map i64), .tail r.rd.length 2, .obj [i64 r.kind, .str r.name, i64 r.time, i64 r.face, i64 r.pa, i64 r.pb, i64 r.pc, .sl (rds r.rd) (.own j)]]

section
variable {S : Store} {i : Nat} {L : List Int}

theorem ser_put {n a c : Nat} {vals : List Int} {r : Rep} {j : Nat} (hv : vals.length = 12) (hc : c < 12) (v : Int) :
    storeV S.length 1 (.ptr (S.length + 1) c) (i64 v) (Sr S i L a (serE n vals r j)) = some (Sr S i L a (serE n (vals.set c v) r j)) := by
  have := Stt.store (S := S) (i := i) (e := srcE L a) (es := serE n vals r j) (k := 1) (o := c) (n := 1) (v := i64 v) (cs := vals.map i64) (vs := [i64 v]) rfl rfl rfl (by simp; omega)
  rw [this]
  simp only [setC, serE, List.set_cons_succ, List.set_cons_zero, List.map_set]

set_option maxHeartbeats 2000000 in
theorem g_SeriesJ2 {n a c : Nat} {vals : List Int} {r : Rep} {v : Int} {n2 : Nat} (h1 : 1 ≤ c) (h2 : c ≤ 11) (hr : RdOk c r.rd) (hn : n2 = S.length + 4) (hl : r.rd.length ≤ 1000) :
    ∃ w, lo c ≤ w ∧ w ≤ hi c ∧ F12_J2 call S.length n2 (.ptr (S.length + 3) 0) (i64 (c : Int)) (i64 v) (Sr S i L a (serE n vals r (S.length + 2))) =
      some (.inl ([i64 ((c + 1 : Nat) : Int)], Sr S i L a (serE n vals { r with rd := r.rd ++ [((c : Int), w)] } (S.length + 2)))) := by
  obtain ⟨w, h3, h4, h5⟩ := s_clamp (c := c) (v := v) (by omega) (by omega) (Sr S i L a (serE n vals r (S.length + 2)))
  refine ⟨w, h4, h5, ?_⟩
  unfold F12_J2 F12_J1
  have ld := Stt.load (S := S) (i := i) (e := srcE L a) (es := serE n vals r (S.length + 2)) (k := 3) (o := 7) (n := none) (cs := [i64 r.kind, .str r.name, i64 r.time, i64 r.face, i64 r.pa, i64 r.pb, i64 r.pc, .sl (rds r.rd) (.own (S.length + 2))]) rfl
  have ap := Stt.append (S := S) (i := i) (e := srcE L a) (es := serE n vals r (S.length + 2)) (k := 2) (n := r.rd.length) (sz := 2) (xs := rds r.rd) (ys := [[i64 (c : Int), i64 w]]) (t := .full) rfl (by simp) rfl (by simp) (by simp [room]; omega)
  have st := Stt.store (S := S) (i := i) (e := srcE L a) (es := (serE n vals r (S.length + 2)).set 2 (.tail ((rds r.rd).length + 1) 2)) (k := 3) (o := 7) (n := 1) (v := .sl (rds r.rd ++ [[i64 (c : Int), i64 w]]) (.own (S.length + 2))) (vs := [.sl (rds r.rd ++ [[i64 (c : Int), i64 w]]) (.own (S.length + 2))]) rfl rfl rfl (by simp)
  have w1 : IntKind.i64.wrap ((c : Int) + 1) = ((c + 1 : Nat) : Int) := by rw [wrap_in (by unfold In64; omega)]; omega
  have e1 : ((serE n vals r (S.length + 2)).set 2 (.tail ((rds r.rd).length + 1) 2)).set 3 (.obj (setC [i64 r.kind, .str r.name, i64 r.time, i64 r.face, i64 r.pa, i64 r.pb, i64 r.pc, .sl (rds r.rd) (.own (S.length + 2))] 7 [.sl (rds r.rd ++ [[i64 (c : Int), i64 w]]) (.own (S.length + 2))])) =
      serE n vals { r with rd := r.rd ++ [((c : Int), w)] } (S.length + 2) := by
    simp [serE, rds_app, rds]
  rw [e1] at st
  have nx : ∀ vs, nextS S.length n2 vs (Sr S i L a (serE n vals { r with rd := r.rd ++ [((c : Int), w)] } (S.length + 2))) = some (vs, _) := fun vs => by rw [hn]; exact Stt.stay rfl
  simp only [List.length_cons, List.length_nil, Nat.zero_add, rds_length] at ap st
  repeat (first
    | rfl
    | refine cond_t (by rfl) ?_
    | refine cond_f (by rfl) ?_
    | refine ite_of (by first | rfl | assumption) ?_
    | refine bind_of (by simp [-loadV, -storeV, -Int.natCast_add, loadV_ip, ld, h3, ap, st, w1, nx] <;> rfl) ?_)

end

end Go.Proofs.YtlilahgndpdkfaaDoor

/-
  The sanity check of the laws: the examples of the chapter.
-/
namespace Go.Proofs.YtlilahgndpdkfaaDoor
open Go Go.Abs

def threeR (a t : Int) : Rep := ⟨1, nALPHA, t, 0, 0, 0, 0, [(1, a)]⟩
def threeL (a b c : Int) : List Rep := [threeR a 0, threeR b 60, threeR c 120]

theorem s_three (a b c : Int) (S : Store) : call 27 [i64 a, i64 b, i64 c] S = some (.sl (reps (threeL a b c)) .none, S) := by
  rw [k27]
  unfold F27
  have ow : ownV 8 (.sl [] .full) S = some (.sl [] (.own S.length), S ++ [.tail 0 8]) := rfl
  have hb : Nat.blt S.length S.length = false := blt_false (Nat.le_refl _)
  have key := iter_run (step := fun s => F27_L1 call S.length (.sl [[i64 a], [i64 b], [i64 c]] .full) (i64 3) (s.1.getD 0 .u) (s.1.getD 1 .u) s.2) (fun k => ([.sl (reps ((threeL a b c).take k)) (.own S.length), i64 (k : Nat)], S ++ [.tail k 8])) (r := (Ex.exit 0, [.sl (reps (threeL a b c)) (.own S.length)], S ++ [.tail 3 8])) 3 0
    (fun k _ hk => by
      have nx : ∀ vs, nextS S.length (S.length + 1) vs (S ++ [.tail (k + 1) 8]) = some (vs, S ++ [.tail (k + 1) 8]) := fun vs => nextS_eq (by simp)
      have hl : (S ++ [Ent.tail k 8]).length = S.length + 1 := by simp
      have ap : ∀ (r : Rep), (threeL a b c).take k ++ [r] = (threeL a b c).take (k + 1) → appendV 8 (.sl (reps ((threeL a b c).take k)) (.own S.length)) (.sl [repR r] .full) (S ++ [.tail k 8]) = some (.sl (reps ((threeL a b c).take (k + 1))) (.own S.length), S ++ [.tail (k + 1) 8]) := fun r hr => by
        have hg : (S ++ [Ent.tail k 8])[S.length]? = some (.tail k 8) := Ap.get (k := 0)
        have hi : immRows 8 [repR r] = some [repR r] := by simp [immRows]
        simp only [appendV, rowsOf_sl, Option.bind_some, hi, hg]
        have hk3 : ((threeL a b c).take k).length = k := by simp [threeL]; omega
        rw [if_pos (by simp [room, hk3]; omega), if_pos ⟨by simp [hk3], trivial⟩, List.set_append_right _ _ (Nat.le_refl _), ← hr]
        simp [reps]
      unfold F27_L1
      simp only [hl]
      obtain rfl | rfl | rfl : k = 0 ∨ k = 1 ∨ k = 2 := by omega
      · have ap' := ap (threeR a 0) rfl
        simp only [repR, threeR, nALPHA, rds, List.map_cons, List.map_nil] at ap'
        simp only [Nat.zero_add, Nat.reduceAdd] at *
        generalize reps (List.take 0 (threeL a b c)) = A at *
        generalize reps (List.take 1 (threeL a b c)) = B at *
        repeat (first
          | rfl
          | refine cond_t (by rfl) ?_
          | refine cond_f (by rfl) ?_
          | refine ite_of (by first | rfl | assumption) ?_
          | refine bind_of (by simp [-loadV, -storeV, -Int.natCast_add, loadV_ip, indexAV, at?, ap', nx, ownV] <;> rfl) ?_)
      · have ap' := ap (threeR b 60) rfl
        simp only [repR, threeR, nALPHA, rds, List.map_cons, List.map_nil] at ap'
        simp only [Nat.zero_add, Nat.reduceAdd] at *
        generalize reps (List.take 1 (threeL a b c)) = A at *
        generalize reps (List.take 2 (threeL a b c)) = B at *
        repeat (first
          | rfl
          | refine cond_t (by rfl) ?_
          | refine cond_f (by rfl) ?_
          | refine ite_of (by first | rfl | assumption) ?_
          | refine bind_of (by simp [-loadV, -storeV, -Int.natCast_add, loadV_ip, indexAV, at?, ap', nx, ownV] <;> rfl) ?_)
      · have ap' := ap (threeR c 120) rfl
        simp only [repR, threeR, nALPHA, rds, List.map_cons, List.map_nil] at ap'
        simp only [Nat.zero_add, Nat.reduceAdd] at *
        generalize reps (List.take 2 (threeL a b c)) = A at *
        generalize reps (List.take 3 (threeL a b c)) = B at *
        repeat (first
          | rfl
          | refine cond_t (by rfl) ?_
          | refine cond_f (by rfl) ?_
          | refine ite_of (by first | rfl | assumption) ?_
          | refine bind_of (by simp [-loadV, -storeV, -Int.natCast_add, loadV_ip, indexAV, at?, ap', nx, ownV] <;> rfl) ?_))
    (by simp [F27_L1]; rfl)
  refine bind_of ow ?_
  refine bind_of (a := .sl [[i64 a], [i64 b], [i64 c]] .full) rfl (bind_of (a := i64 3) rfl ?_)
  refine bind_of key ?_
  simp [finish, hb]

def awK : Ctl := ⟨0, [0, 10, 0, 0, 0, 0, 0, 0, 0, 0, 0, 0], List.replicate 12 0, List.replicate 16 0⟩

theorem aw1 : flagsP (threeL 10000 10100 10001) awK = [(1, 1)] ∧ examP (threeL 10000 10100 10001) awK = 0 := by decide
theorem aw2 : flagsP (threeL 10000 10100 10101) awK = [] ∧ examP (threeL 10000 10100 10101) awK = 0 := by decide

theorem few_three (a b c : Int) : Few (threeL a b c) := ⟨by simp [threeL], fun r hr => by
  simp only [threeL, List.mem_cons, List.not_mem_nil, or_false] at hr
  rcases hr with rfl | rfl | rfl <;> simp [threeR]⟩

theorem s_awake (S : Store) : call 10 [] S = some (.bool true, S) := by
  rw [k10]
  unfold F10
  have hf : awK.Fit := ⟨rfl, rfl, rfl⟩
  obtain ⟨u1, c1⟩ := s_Check (t := .none) hf (few_three 10000 10100 10001) (S ++ [.obj (ctlC awK)])
  obtain ⟨u2, c2⟩ := s_Check (t := .none) hf (few_three 10000 10100 10101) (S ++ [.obj (ctlC awK)])
  rw [aw1.1, aw1.2] at c1
  rw [aw2.1, aw2.2] at c2
  have fl := r_Flags (a := [(1, 1)]) (b := [(1, 1)]) (t := u1) (u := .full) (by simp) (S ++ [.obj (ctlC awK)])
  have t1 := s_three 10000 10100 10001 (S ++ [.obj (ctlC awK)])
  have t2 := s_three 10000 10100 10101 (S ++ [.obj (ctlC awK)])
  have l1 := Ap.loadA0 (S := S) (es := [.obj (ctlC awK)]) (cs := ctlC awK) (n := 41) rfl rfl
  have st := Ap.store0 (S := S) (es := [.obj (List.replicate 41 (i64 0))]) (o := 2) (n := 1) (v := i64 10) (vs := [i64 10]) rfl rfl rfl (by simp)
  have hc : imms (ctlC awK) = some (ctlC awK) := imms_ctl awK
  have hst : storeV S.length 1 (.ptr S.length 2) (.int .i64 10) (S ++ [.obj (List.replicate 41 (i64 0))]) = some (S ++ [.obj (ctlC awK)]) := st
  dsimp only
  refine bind_of (a := .ptr S.length 1) rfl (bind_of (a := .ptr S.length 2) rfl (bind_of hst ?_))
  simp only [flagRows, flagR, List.map_cons, List.map_nil] at c1 c2 fl
  generalize ctlC awK = K at *
  generalize reps (threeL 10000 10100 10001) = A at *
  generalize reps (threeL 10000 10100 10101) = B at *
  repeat (first
    | rfl
    | refine cond_t (by rfl) ?_
    | refine cond_f (by rfl) ?_
    | refine ite_of (by first | rfl | assumption) ?_
    | refine bind_of (by simp [-loadV, -storeV, -Int.natCast_add, loadV_ip, t1, t2, l1, hc, c1, c2, fl] <;> rfl) ?_)
  simp

end Go.Proofs.YtlilahgndpdkfaaDoor

/-
  What the makers of given data answer: series of reports, their rounds.
-/
namespace Go.Proofs.YtlilahgndpdkfaaDoor
open Go Go.Abs

section
variable {S : Store} {i : Nat} {L : List Int}

set_option maxHeartbeats 4000000 in
theorem g_SeriesL2 {n a c : Nat} {vals : List Int} {r : Rep} {t7 t9 t10 : AV} (hs : Sc S i L a) (hv : vals.length = 12) (h1 : 1 ≤ c) (h12 : c ≤ 12) (hr : RdOk c r.rd) :
    Ev (F12_L2 call S.length (.ptr i 0) t7 (.ptr (S.length + 1) 0) t9 t10 (.ptr (S.length + 3) 0) (i64 (c : Int)) (Sr S i L a (serE n vals r (S.length + 2)))) fun x => match x with
      | .inr q => ∃ (a : Nat) (vals : List Int) (rd : List Rd), Sc S i L a ∧ vals.length = 12 ∧ RdOk 12 rd ∧ q = (.exit 2, [], Sr S i L a (serE n vals { r with rd := rd } (S.length + 2)))
      | .inl s => c + 1 ≤ 12 ∧ ∃ (a : Nat) (vals : List Int) (rd : List Rd), Sc S i L a ∧ vals.length = 12 ∧ RdOk ((c + 1 : Nat) : Int) rd ∧ s = ([i64 ((c + 1 : Nat) : Int)], Sr S i L a (serE n vals { r with rd := rd } (S.length + 2))) := by
  have hl : r.rd.length ≤ 1000 := by
    have := (hr.up (d := 12) (by omega)).len
    omega
  unfold F12_L2
  simp only [Stt.length]
  have hlen : S.length + (serE n vals r (S.length + 2)).length = S.length + 4 := rfl
  rw [hlen]
  by_cases h : (c : Int) ≤ 11
  · have hc : c < 12 := by omega
    have x1 := idx12 (S.length + 1) 0 hc
    rw [Nat.zero_add] at x1
    have fin : ∀ (a2 : Nat) (vals2 : List Int) (v : Int), Sc S i L a2 → vals2.length = 12 → Ev (F12_J2 call S.length (S.length + 4) (.ptr (S.length + 3) 0) (i64 (c : Int)) (i64 v) (Sr S i L a2 (serE n vals2 r (S.length + 2)))) fun x => match x with
      | .inr q => ∃ (a : Nat) (vals : List Int) (rd : List Rd), Sc S i L a ∧ vals.length = 12 ∧ RdOk 12 rd ∧ q = (.exit 2, [], Sr S i L a (serE n vals { r with rd := rd } (S.length + 2)))
      | .inl s => c + 1 ≤ 12 ∧ ∃ (a : Nat) (vals : List Int) (rd : List Rd), Sc S i L a ∧ vals.length = 12 ∧ RdOk ((c + 1 : Nat) : Int) rd ∧ s = ([i64 ((c + 1 : Nat) : Int)], Sr S i L a (serE n vals { r with rd := rd } (S.length + 2))) := fun a2 vals2 v hs2 hv2 => by
      obtain ⟨w, w1, w2, w3⟩ := g_SeriesJ2 (S := S) (i := i) (L := L) (n := n) (a := a2) (vals := vals2) (v := v) h1 (by omega) hr rfl hl
      exact .of w3 ⟨by omega, a2, vals2, _, hs2, hv2, hr.snoc (by omega) (by omega) w1 w2, rfl⟩
    have ld : ∀ a2, ∃ v, loadV none (.ptr (S.length + 1) c) (Sr S i L a2 (serE n vals r (S.length + 2))) = some (i64 v) := fun a2 => by
      refine ⟨vals.getD c 0, ?_⟩
      rw [Stt.load (k := 1) (cs := vals.map i64) rfl, take_none]
      simp [List.getD_eq_getElem?_getD, List.getElem?_eq_getElem (show c < vals.length by omega)]
    repeat (first
      | refine Ev.fin (by simp [h] <;> rfl) (by simp [h]) ?_
      | refine Ev.t (by rfl) ?_
      | refine Ev.f (by rfl) ?_
      | refine Ev.ite (by first | rfl | assumption) ?_
      | refine Ev.to (by simp (disch := omega) [-loadV, -storeV, -Int.natCast_add, loadV_ip, h] <;> rfl) ?_)
    refine Ev.bind (e_N (by assumption) (by omega) (by omega)) ?_
    rintro _ ⟨v1, a1, h2, _, _, rfl⟩
    try dsimp only
    repeat (first
      | refine Ev.fin (by simp [] <;> rfl) (by simp []) ?_
      | refine Ev.t (by rfl) ?_
      | refine Ev.f (by rfl) ?_
      | refine Ev.ite (by first | rfl | assumption) ?_
      | refine Ev.to (by simp (disch := omega) [-loadV, -storeV, -Int.natCast_add, loadV_ip] <;> rfl) ?_)
    refine Ev.beq (fun _ => ?_) (fun _ => ?_)
    · unfold F12_J1
      have w1 : IntKind.i64.wrap ((c : Int) + 1) = ((c + 1 : Nat) : Int) := by rw [wrap_in (by unfold In64; omega)]; omega
      have nx : ∀ vs, nextS S.length (S.length + 4) vs (Sr S i L a1 (serE n vals r (S.length + 2))) = some (vs, _) := fun vs => Stt.stay rfl
      repeat (first
        | refine Ev.fin (by simp [w1, nx] <;> rfl) (by simp [w1, nx]) ?_
        | refine Ev.t (by rfl) ?_
        | refine Ev.f (by rfl) ?_
        | refine Ev.ite (by first | rfl | assumption) ?_
        | refine Ev.to (by simp (disch := omega) [-loadV, -storeV, -Int.natCast_add, loadV_ip, w1, nx] <;> rfl) ?_)
      exact .mk ⟨by omega, a1, vals, r.rd, h2, hv, hr.up (by omega), rfl⟩
    · obtain ⟨v0, ld1⟩ := ld a1
      repeat (first
        | refine Ev.fin (by simp [x1, ld1] <;> rfl) (by simp [x1, ld1]) ?_
        | refine Ev.t (by rfl) ?_
        | refine Ev.f (by rfl) ?_
        | refine Ev.ite (by first | rfl | assumption) ?_
        | refine Ev.to (by simp (disch := omega) [-loadV, -storeV, -Int.natCast_add, loadV_ip, x1, ld1] <;> rfl) ?_)
      refine Ev.bind (e_N (by assumption) (by omega) (by omega)) ?_
      rintro _ ⟨v2, a2, h3, _, _, rfl⟩
      try dsimp only
      repeat (first
        | refine Ev.fin (by simp [] <;> rfl) (by simp []) ?_
        | refine Ev.t (by rfl) ?_
        | refine Ev.f (by rfl) ?_
        | refine Ev.ite (by first | rfl | assumption) ?_
        | refine Ev.to (by simp (disch := omega) [-loadV, -storeV, -Int.natCast_add, loadV_ip] <;> rfl) ?_)
      refine Ev.beq (fun _ => ?_) (fun _ => ?_)
      · skip
        repeat (first
          | refine Ev.fin (by simp [] <;> rfl) (by simp []) ?_
          | refine Ev.t (by rfl) ?_
          | refine Ev.f (by rfl) ?_
          | refine Ev.ite (by first | rfl | assumption) ?_
          | refine Ev.to (by simp (disch := omega) [-loadV, -storeV, -Int.natCast_add, loadV_ip] <;> rfl) ?_)
        refine Ev.bind (e_Range (by assumption) (by omega) (by omega) (by omega)) ?_
        rintro _ ⟨v3, a3, h4, _, _, rfl⟩
        try dsimp only
        refine Ev.to rfl ?_
        have sp := ser_put (S := S) (i := i) (L := L) (n := n) (a := a3) (r := r) (j := S.length + 2) hv hc (IntKind.i64.wrap (v0 + v3))
        refine Ev.to x1 (Ev.to sp ?_)
        exact fin _ _ _ h4 (by simpa using hv)
      · skip
        repeat (first
          | refine Ev.fin (by simp [] <;> rfl) (by simp []) ?_
          | refine Ev.t (by rfl) ?_
          | refine Ev.f (by rfl) ?_
          | refine Ev.ite (by first | rfl | assumption) ?_
          | refine Ev.to (by simp (disch := omega) [-loadV, -storeV, -Int.natCast_add, loadV_ip] <;> rfl) ?_)
        refine Ev.beq (fun _ => ?_) (fun _ => ?_)
        · skip
          repeat (first
            | refine Ev.fin (by simp [] <;> rfl) (by simp []) ?_
            | refine Ev.t (by rfl) ?_
            | refine Ev.f (by rfl) ?_
            | refine Ev.ite (by first | rfl | assumption) ?_
            | refine Ev.to (by simp (disch := omega) [-loadV, -storeV, -Int.natCast_add, loadV_ip] <;> rfl) ?_)
          refine Ev.bind (e_Range (by assumption) (by omega) (by omega) (by omega)) ?_
          rintro _ ⟨v3, a3, h4, _, _, rfl⟩
          try dsimp only
          refine Ev.to rfl ?_
          exact fin _ _ _ h4 hv
        · skip
          repeat (first
            | refine Ev.fin (by simp [] <;> rfl) (by simp []) ?_
            | refine Ev.t (by rfl) ?_
            | refine Ev.f (by rfl) ?_
            | refine Ev.ite (by first | rfl | assumption) ?_
            | refine Ev.to (by simp (disch := omega) [-loadV, -storeV, -Int.natCast_add, loadV_ip] <;> rfl) ?_)
          refine Ev.beq (fun _ => ?_) (fun _ => ?_)
          · skip
            repeat (first
              | refine Ev.fin (by simp [] <;> rfl) (by simp []) ?_
              | refine Ev.t (by rfl) ?_
              | refine Ev.f (by rfl) ?_
              | refine Ev.ite (by first | rfl | assumption) ?_
              | refine Ev.to (by simp (disch := omega) [-loadV, -storeV, -Int.natCast_add, loadV_ip] <;> rfl) ?_)
            refine Ev.bind (e_Pick (by assumption) (by simp) (by simp) (by simp)) ?_
            rintro _ ⟨v3, a3, h4, _, rfl⟩
            try dsimp only
            refine Ev.to rfl ?_
            have sp := ser_put (S := S) (i := i) (L := L) (n := n) (a := a3) (r := r) (j := S.length + 2) hv hc (IntKind.i64.wrap (v0 + v3))
            refine Ev.to x1 (Ev.to sp ?_)
            exact fin _ _ _ h4 (by simpa using hv)
          · exact fin _ _ _ h3 hv
  · obtain rfl : c = 12 := by omega
    repeat (first
      | refine Ev.fin (by simp [h] <;> rfl) (by simp [h]) ?_
      | refine Ev.t (by rfl) ?_
      | refine Ev.f (by rfl) ?_
      | refine Ev.ite (by first | rfl | assumption) ?_
      | refine Ev.to (by simp (disch := omega) [-loadV, -storeV, -Int.natCast_add, loadV_ip, h] <;> rfl) ?_)
    exact .mk ⟨a, vals, r.rd, hs, hv, hr, rfl⟩

end

end Go.Proofs.YtlilahgndpdkfaaDoor
