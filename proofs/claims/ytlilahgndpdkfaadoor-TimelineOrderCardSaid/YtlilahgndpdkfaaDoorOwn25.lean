/-
  Texts of this claim: TlRef16, TlRef16b, TlRefChk, TlRefChk1, TlRefChk2, TlRefChk3, TlRefChk4, TlRefChk5, TlBoth, TlAwakeT.
-/
import Derived.Test.YtlilahgndpdkfaaDoorOwn17
import Derived.Test.YtlilahgndpdkfaaDoorOwn18
import Derived.Test.YtlilahgndpdkfaaDoorOwn20
import Derived.Test.YtlilahgndpdkfaaDoorOwn21
import Derived.Test.YtlilahgndpdkfaaDoorOwn23
set_option linter.all false
/-
  What the functions of the timeline's reference answer: the rejected readings of a line.
-/
namespace Go.Proofs.YtlilahgndpdkfaaDoor
open Go Go.Abs

theorem r_slow {a b : Pt} {s : Int} (ha : a.Ok) (hb : b.Ok) (hab : a.time ≤ b.time) (h0 : 0 ≤ s) (h1 : s ≤ 10000) (S : Store) : call 58 [.agg (ptR a), .agg (ptR b), i64 s] S = some (.bool (slowP a b s), S) := by
  rw [k58]
  unfold F58
  obtain ⟨a1, a2, a3, a4⟩ := ha
  obtain ⟨b1, b2, b3, b4⟩ := hb
  have w1 : IntKind.i64.wrap (a.time - b.time) = a.time - b.time := wrap_in (by unfold In64; omega)
  have w2 : IntKind.i64.wrap (b.time - a.time) = b.time - a.time := wrap_in (by unfold In64; omega)
  have w3 : IntKind.i64.wrap (b.time - a.time + 59) = b.time - a.time + 60 - 1 := by rw [wrap_in (by unfold In64; omega)]; omega
  have hm : max2 (a.time - b.time) (b.time - a.time) = b.time - a.time := by unfold max2; split <;> omega
  obtain ⟨hq2, hq1⟩ := tdiv_bound (x := b.time - a.time + 60 - 1) (n := 60000000) (k := 60) (by omega) (by omega) (by omega)
  have w4 : IntKind.i64.wrap ((b.time - a.time + 60 - 1).tdiv 60) = (b.time - a.time + 60 - 1).tdiv 60 := wrap_in (by unfold In64; omega)
  have hm1 : s * ((b.time - a.time + 60 - 1).tdiv 60) ≤ 10000 * 60000000 := by
    have := Int.mul_le_mul_of_nonneg_left hq1 h0
    have := Int.mul_le_mul_of_nonneg_right h1 (show (0 : Int) ≤ 60000000 by omega)
    omega
  have hm2 : -(10000 * 60000000) ≤ s * ((b.time - a.time + 60 - 1).tdiv 60) := by
    have := Int.mul_le_mul_of_nonneg_left hq2 h0
    have := Int.mul_le_mul_of_nonneg_right h1 (show (0 : Int) ≤ 60000000 by omega)
    omega
  have w5 : IntKind.i64.wrap (s * ((b.time - a.time + 60 - 1).tdiv 60)) = s * ((b.time - a.time + 60 - 1).tdiv 60) := wrap_in (by unfold In64; omega)
  have w6 : IntKind.i64.wrap (a.val - b.val) = a.val - b.val := wrap_in (by unfold In64; omega)
  have w7 : IntKind.i64.wrap (b.val - a.val) = b.val - a.val := wrap_in (by unfold In64; omega)
  simp only [ptR]
  repeat (first
    | rfl
    | refine cond_t (by rfl) ?_
    | refine cond_f (by rfl) ?_
    | refine ite_of (by first | rfl | assumption) ?_
    | refine bind_of (by simp [-loadV, -storeV, -Int.natCast_add, loadV_ip, w1, w2, w3, hm, w4, w5, w6, w7] <;> rfl) ?_)
  simp [slowP, sizeP] <;> rfl

def mark1 (l : List Pt) (s : Int) (k : Nat) : List Bool := (List.range l.length).map fun j => decide (j < k) && (decide (0 < s) && stepP l s j)
def mark2 (l : List Pt) (s p : Int) (k : Nat) : List Bool := (List.range l.length).map fun j => (decide (0 < s) && stepP l s j) || (decide (j < k) && spkP l p j)

@[simp] theorem mark1_length {l : List Pt} {s : Int} {k : Nat} : (mark1 l s k).length = l.length := by simp [mark1]
@[simp] theorem mark2_length {l : List Pt} {s p : Int} {k : Nat} : (mark2 l s p k).length = l.length := by simp [mark2]

theorem mark1_pos {l : List Pt} {s : Int} (h : 0 < s) (k : Nat) : mark1 l s k = markP l s k := by
  unfold mark1 markP
  simp [h]

theorem mark1_neg {l : List Pt} {s : Int} (h : ¬ 0 < s) (k : Nat) : mark1 l s k = List.replicate l.length false := by
  apply List.ext_getElem (by simp)
  intro j h1 h2
  simp [mark1, h]

theorem mark2_one {l : List Pt} {s p : Int} : mark2 l s p 1 = mark1 l s l.length := by
  apply List.ext_getElem (by simp)
  intro j h1 h2
  have hj : j < l.length := by simpa using h1
  simp only [mark1, mark2, List.getElem_map, List.getElem_range]
  by_cases h : j < 1
  · obtain rfl : j = 0 := by omega
    simp [spkP, hj]
  · simp [h, hj]

theorem mark2_end {l : List Pt} {s p : Int} {k : Nat} (h : ¬ 0 < p ∨ l.length ≤ k + 1) : mark2 l s p k = (List.range l.length).map (rejP l s p) := by
  apply List.ext_getElem (by simp)
  intro j h1 h2
  have hj : j < l.length := by simpa using h1
  simp only [mark2, List.getElem_map, List.getElem_range, rejP]
  congr 1
  rcases h with h | h
  · simp [spkP, h]
  · by_cases hjk : j < k
    · simp [hjk]
    · have : ¬ j + 1 < l.length := by omega
      simp [spkP, this]

theorem mark2_step {l : List Pt} {s p : Int} {k : Nat} (hk : k < l.length) : (if spkP l p k = true then (mark2 l s p k).set k true else mark2 l s p k) = mark2 l s p (k + 1) := by
  apply List.ext_getElem (by split <;> simp)
  intro j h1 h2
  have hj : j < l.length := by simpa using h2
  have hval : (mark2 l s p (k + 1))[j] = ((decide (0 < s) && stepP l s j) || (decide (j < k + 1) && spkP l p j)) := by simp [mark2]
  rw [hval]
  by_cases hjk : j = k
  · subst hjk
    by_cases hs : spkP l p j = true
    · simp [hs]
    · simp [hs, mark2]
  · have : (j < k + 1) = (j < k) := by simp; omega
    have h0 : (mark2 l s p k)[j]'(by simpa using hj) = ((decide (0 < s) && stepP l s j) || (decide (j < k) && spkP l p j)) := by simp [mark2]
    by_cases hs : spkP l p k = true
    · simp only [hs, if_true]
      rw [List.getElem_set_ne (Ne.symm hjk), h0]
      simp [this]
    · simp only [hs]
      simp only [Bool.false_eq_true, if_false]
      rw [h0]
      simp [this]

set_option maxHeartbeats 4000000 in
/-- The steps. -/
theorem r_loop1 {l : List Pt} {t : Tok} {s p : Int} {S : Store} (hl : ∀ q ∈ l, q.Ok) (hs : l.Pairwise fun a b => a.time < b.time) (h1 : 1 ≤ l.length) (h2 : l.length ≤ 1000000) (h4 : s ≤ 10000) :
    iter (fun st => F43_L1 call S.length (.sl (pts l) t) (i64 s) (i64 p) (.osl S.length 0 l.length 1) (st.1.getD 0 .u) (st.1.getD 1 .u) st.2) ([i64 0, i64 1], S ++ [.obj ((List.replicate l.length false).map .bool)]) = some (.exit 0, [], S ++ [.obj ((mark1 l s l.length).map .bool)]) := by
  by_cases h3 : 0 < s
  · have hi : ∀ (q : Nat) (hq : q < l.length), indexAV 3 none (.sl (pts l) t) (.int .i64 (q : Int)) = some (.ip (ptR l[q]) 0) := fun q hq => by simp [indexAV, at_pts hq, ptR]
    have hld : ∀ (q : Nat) (hq : q < l.length), takeC (some 3) (ptR l[q]) 0 = some (.agg (ptR l[q])) := fun q hq => by simp [ptR]
    have hok : ∀ (k : Nat) (h : k < l.length), (l[k]).Ok := fun k h => hl _ (List.getElem_mem h)
    have hle : ∀ (i j : Nat) (hi : i < l.length) (hj : j < l.length), i ≤ j → (l[i]).time ≤ (l[j]).time := fun i j hi hj hij => by
      by_cases e : i = j
      · subst e; omega
      · have := (List.pairwise_iff_getElem.1 hs) i j hi hj (by omega); omega
    have hb : Nat.blt S.length S.length = false := blt_false (Nat.le_refl _)
    have key := iter_run (step := fun st => F43_L1 call S.length (.sl (pts l) t) (i64 s) (i64 p) (.osl S.length 0 l.length 1) (st.1.getD 0 .u) (st.1.getD 1 .u) st.2)
      (fun k => ([i64 (goodP l s (k - 1) : Nat), i64 (k : Nat)], S ++ [.obj ((markP l s k).map .bool)])) (r := (Ex.exit 0, [], S ++ [.obj ((markP l s l.length).map .bool)])) (l.length - 1) 1
      (fun k k1 k2 => by
        have hk : k < l.length := by omega
        have hg := goodP_le l s (k - 1)
        have hgl : goodP l s (k - 1) < l.length := by omega
        have hlt : (k : Int) < (l.length : Int) := by omega
        have w1 : IntKind.i64.wrap ((k : Int) + 1) = ((k + 1 : Nat) : Int) := wrap_in (by unfold In64; omega)
        have s1 := r_slow (s := s) (hok _ hgl) (hok _ hk) (hle _ _ hgl hk (by omega)) (by omega) h4 (S ++ [.obj ((markP l s k).map .bool)])
        have hst := stepP_ok (l := l) (s := s) k1
        have hgs := goodP_succ (l := l) (s := s) k1
        have jy : okP l s (goodP l s (k - 1)) k = true → F43_J1 call S.length (S ++ [Ent.obj ((markP l s k).map .bool)]).length (i64 (k : Int)) (i64 (k : Int)) (S ++ [.obj ((markP l s k).map .bool)]) = some (.inl ([i64 (goodP l s (k + 1 - 1) : Nat), i64 ((k + 1 : Nat) : Int)], S ++ [.obj ((markP l s (k + 1)).map .bool)])) := fun h => by
          unfold F43_J1
          simp only [binV, isShift, cond_false, if_true, binI, Option.bind_some, w1, nextS_same]
          rw [markP_good (by rw [hst, h]; rfl), Nat.add_sub_cancel, hgs, if_pos h]
        have jn : okP l s (goodP l s (k - 1)) k = false → F43_J1 call S.length (S ++ [Ent.obj ((markP l s k).map .bool)]).length (i64 (goodP l s (k - 1) : Nat)) (i64 (k : Int)) (S ++ [.obj ((markP l s (k + 1)).map .bool)]) = some (.inl ([i64 (goodP l s (k + 1 - 1) : Nat), i64 ((k + 1 : Nat) : Int)], S ++ [.obj ((markP l s (k + 1)).map .bool)])) := fun h => by
          unfold F43_J1
          simp only [binV, isShift, cond_false, if_true, binI, Option.bind_some, w1]
          rw [nextS_eq (by simp), Nat.add_sub_cancel, hgs, if_neg (by simp [h])]
          rfl
        have hix : indexAV 1 none (.osl S.length 0 l.length 1) (.int .i64 (k : Int)) = some (.ptr S.length k) := by
          simp only [indexAV]
          rw [if_pos ⟨by omega, by omega, by trivial⟩]
          simp
        have hset : okP l s (goodP l s (k - 1)) k = false → storeV S.length 1 (.ptr S.length k) (.bool true) (S ++ [.obj ((markP l s k).map .bool)]) = some (S ++ [.obj ((markP l s (k + 1)).map .bool)]) := fun h => by
          simp only [storeV, List.getElem?_concat_length, hb, cond_false, cellsOf, cells1, cell1, Option.bind_some, List.length_cons, List.length_nil, List.length_map, markP_length]
          rw [if_pos ⟨by trivial, by omega⟩]
          simp only [setC, map_bool_set, markP_bad hk (show stepP l s k = true by rw [hst, h]; rfl)]
          rw [List.set_append_right _ _ (Nat.le_refl _)]
          simp
        have e : okP l s (goodP l s (k - 1)) k = (slowP l[goodP l s (k - 1)] l[k] s || (decide (k + 1 < l.length) && slowP l[k] (l.getD (k + 1) ⟨0, 0, 0⟩) s)) := by unfold okP; rw [getD_pt hgl, getD_pt hk]
        have him : ∀ p : Pt, imms (ptR p) = some (ptR p) := fun p => by simp [ptR]
        cases c1 : slowP l[goodP l s (k - 1)] l[k] s with
        | true =>
          rw [c1] at s1 e
          refine Eq.trans ?_ (jy (by rw [e]; rfl))
          unfold F43_L1
          simp only [List.getD_cons_zero, List.getD_cons_succ]
          repeat (first
            | rfl
            | refine cond_t (by rfl) ?_
            | refine cond_f (by rfl) ?_
            | refine ite_of (by first | rfl | assumption) ?_
            | refine bind_of (by simp [-loadV, -storeV, -Int.natCast_add, loadV_ip, -take_some, h3, hlt, hi k hk, hi _ hgl, hld k hk, hld _ hgl, him, s1] <;> rfl) ?_)
        | false =>
          rw [c1] at s1 e
          by_cases hk1 : k + 1 < l.length
          · have hlt1 : ((k + 1 : Nat) : Int) < (l.length : Int) := by omega
            have s2 := r_slow (s := s) (hok _ hk) (hok _ hk1) (hle _ _ hk hk1 (by omega)) (by omega) h4 (S ++ [.obj ((markP l s k).map .bool)])
            rw [getD_pt hk1] at e
            cases c2 : slowP l[k] l[k + 1] s with
            | true =>
              rw [c2] at s2 e
              refine Eq.trans ?_ (jy (by rw [e]; simp [hk1]))
              unfold F43_L1
              simp only [List.getD_cons_zero, List.getD_cons_succ]
              repeat (first
                | rfl
                | refine cond_t (by rfl) ?_
                | refine cond_f (by rfl) ?_
                | refine ite_of (by first | rfl | assumption) ?_
                | refine bind_of (by simp [-loadV, -storeV, -Int.natCast_add, loadV_ip, -take_some, h3, hlt, hi k hk, hi _ hgl, hi _ hk1, hld k hk, hld _ hgl, hld _ hk1, him, hlt1, w1, s1, s2] <;> rfl) ?_)
            | false =>
              rw [c2] at s2 e
              refine Eq.trans ?_ (jn (by rw [e]; simp))
              have hs := hset (by rw [e]; simp)
              unfold F43_L1
              simp only [List.getD_cons_zero, List.getD_cons_succ]
              repeat (first
                | rfl
                | refine cond_t (by rfl) ?_
                | refine cond_f (by rfl) ?_
                | refine ite_of (by first | rfl | assumption) ?_
                | refine bind_of (by simp [-loadV, -storeV, -Int.natCast_add, loadV_ip, -take_some, h3, hlt, hi k hk, hi _ hgl, hi _ hk1, hld k hk, hld _ hgl, hld _ hk1, him, hlt1, w1, s1, s2, hix, hs] <;> rfl) ?_)
          · have hlt1 : ¬ ((k + 1 : Nat) : Int) < (l.length : Int) := by omega
            refine Eq.trans ?_ (jn (by rw [e]; simp [hk1]))
            have hs := hset (by rw [e]; simp [hk1])
            unfold F43_L1
            simp only [List.getD_cons_zero, List.getD_cons_succ]
            repeat (first
              | rfl
              | refine cond_t (by rfl) ?_
              | refine cond_f (by rfl) ?_
              | refine ite_of (by first | rfl | assumption) ?_
              | refine bind_of (by simp [-loadV, -storeV, -Int.natCast_add, loadV_ip, -take_some, h3, hlt, hi k hk, hi _ hgl, hld k hk, hld _ hgl, him, hlt1, w1, s1, hix, hs] <;> rfl) ?_))
      (by
        have e : 1 + (l.length - 1) = l.length := by omega
        rw [e]
        simp [F43_L1])
    rw [mark1_pos h3, markP_one l s]
    exact key
  · rw [mark1_neg h3, iter_eq]
    by_cases hl1 : (1 : Int) < (l.length : Int)
    · simp [F43_L1, h3, hl1]
    · simp [F43_L1, hl1]

/-- What the spike rule of the reference says. -/
theorem spikeR {a b c : Pt} {p : Int} : spikeP a b c p = (((decide (a.val + p < b.val) && decide (c.val + p < b.val)) || (decide (b.val < a.val - p) && decide (b.val < c.val - p))) && decide (sizeP a c ≤ p)) := by
  unfold spikeP
  have e1 : decide (b.val - a.val > p) = decide (a.val + p < b.val) := by simp only [decide_eq_decide]; omega
  have e2 : decide (b.val - c.val > p) = decide (c.val + p < b.val) := by simp only [decide_eq_decide]; omega
  have e3 : decide (a.val - b.val > p) = decide (b.val < a.val - p) := by simp only [decide_eq_decide]; omega
  have e4 : decide (c.val - b.val > p) = decide (b.val < c.val - p) := by simp only [decide_eq_decide]; omega
  rw [e1, e2, e3, e4]

set_option maxHeartbeats 4000000 in
theorem r_round2 {l : List Pt} {t : Tok} {p : Int} {S S2 : Store} {n0 k j : Nat} (hl : ∀ q ∈ l, q.Ok) (h2 : l.length ≤ 1000000) (hp : 0 < p) (hp1 : p ≤ 10000) (k1 : 1 ≤ k) (hk1 : k + 1 < l.length)
    (hset : storeV n0 1 (.ptr j k) (.bool true) S = some S2) :
    F43_L2 call n0 (.sl (pts l) t) (i64 p) (.osl j 0 l.length 1) (i64 (k : Nat)) S = if spikeP (l[k - 1]'(by omega)) (l[k]'(by omega)) l[k + 1] p = true then F43_J2 call n0 S.length (i64 (k : Nat)) S2 else F43_J2 call n0 S.length (i64 (k : Nat)) S := by
  have hk : k < l.length := by omega
  have hkm : k - 1 < l.length := by omega
  have hi : ∀ (q : Nat) (hq : q < l.length), indexAV 3 none (.sl (pts l) t) (.int .i64 (q : Int)) = some (.ip [i64 (l[q]).rep, i64 (l[q]).time, i64 (l[q]).val] 0) := fun q hq => by simp [indexAV, at_pts hq, ptR]
  have hlt : ((k + 1 : Nat) : Int) < (l.length : Int) := by omega
  have w1 : IntKind.i64.wrap ((k : Int) + 1) = ((k + 1 : Nat) : Int) := wrap_in (by unfold In64; omega)
  have w0 : IntKind.i64.wrap ((k : Int) - 1) = ((k - 1 : Nat) : Int) := by rw [wrap_in (by unfold In64; omega)]; omega
  obtain ⟨_, _, a1, a2⟩ := hl _ (List.getElem_mem hkm)
  obtain ⟨_, _, b1, b2⟩ := hl _ (List.getElem_mem hk)
  obtain ⟨_, _, c1, c2⟩ := hl _ (List.getElem_mem hk1)
  rw [spikeR]
  generalize ha : l[k - 1] = a at *
  generalize hb : l[k] = b at *
  generalize hc : l[k + 1] = c at *
  have i1 := hi k hk
  have i0 := hi _ hkm
  have i2 := hi _ hk1
  rw [ha] at i0
  rw [hb] at i1
  rw [hc] at i2
  have hix : indexAV 1 none (.osl j 0 l.length 1) (.int .i64 (k : Int)) = some (.ptr j k) := by
    simp only [indexAV]
    rw [if_pos ⟨by omega, by omega, by trivial⟩]
    simp
  have w2 : IntKind.i64.wrap (a.val + p) = a.val + p := wrap_in (by unfold In64; omega)
  have w3 : IntKind.i64.wrap (c.val + p) = c.val + p := wrap_in (by unfold In64; omega)
  have w4 : IntKind.i64.wrap (a.val - p) = a.val - p := wrap_in (by unfold In64; omega)
  have w5 : IntKind.i64.wrap (c.val - p) = c.val - p := wrap_in (by unfold In64; omega)
  have w6 : IntKind.i64.wrap (a.val - c.val) = a.val - c.val := wrap_in (by unfold In64; omega)
  have w7 : IntKind.i64.wrap (c.val - a.val) = c.val - a.val := wrap_in (by unfold In64; omega)
  have hz : sizeP a c = max2 (a.val - c.val) (c.val - a.val) := rfl
  rw [hz]
  by_cases u1 : a.val + p < b.val
  · have d1 : ¬ b.val < a.val - p := by omega
    by_cases u2 : c.val + p < b.val
    · by_cases z : max2 (a.val - c.val) (c.val - a.val) ≤ p
      · skip
        simp only [u1, u2, z, decide_true, decide_false, Bool.and_true, Bool.true_and, Bool.and_false, Bool.false_and, Bool.or_true, Bool.true_or, Bool.or_false, Bool.false_or, if_true, if_false, Bool.false_eq_true]
        unfold F43_L2
        generalize F43_J2 = J
        simp only []
        repeat (first
          | rfl
          | refine cond_t (by rfl) ?_
          | refine cond_f (by rfl) ?_
          | refine ite_of (by first | rfl | assumption) ?_
          | refine bind_of (by simp [-loadV, -storeV, -Int.natCast_add, loadV_ip, hlt, hp, w0, w1, w2, w3, w4, w5, w6, w7, i0, i1, i2, u1, u2, z, hix, hset] <;> rfl) ?_)
      · skip
        simp only [u1, u2, z, decide_true, decide_false, Bool.and_true, Bool.true_and, Bool.and_false, Bool.false_and, Bool.or_true, Bool.true_or, Bool.or_false, Bool.false_or, if_true, if_false, Bool.false_eq_true]
        unfold F43_L2
        generalize F43_J2 = J
        simp only []
        repeat (first
          | rfl
          | refine cond_t (by rfl) ?_
          | refine cond_f (by rfl) ?_
          | refine ite_of (by first | rfl | assumption) ?_
          | refine bind_of (by simp [-loadV, -storeV, -Int.natCast_add, loadV_ip, hlt, hp, w0, w1, w2, w3, w4, w5, w6, w7, i0, i1, i2, u1, u2, z] <;> rfl) ?_)
    · skip
      simp only [u1, u2, d1, decide_true, decide_false, Bool.and_true, Bool.true_and, Bool.and_false, Bool.false_and, Bool.or_true, Bool.true_or, Bool.or_false, Bool.false_or, if_true, if_false, Bool.false_eq_true]
      unfold F43_L2
      generalize F43_J2 = J
      simp only []
      repeat (first
        | rfl
        | refine cond_t (by rfl) ?_
        | refine cond_f (by rfl) ?_
        | refine ite_of (by first | rfl | assumption) ?_
        | refine bind_of (by simp [-loadV, -storeV, -Int.natCast_add, loadV_ip, hlt, hp, w0, w1, w2, w3, w4, w5, w6, w7, i0, i1, i2, u1, u2, d1] <;> rfl) ?_)
  · by_cases d1 : b.val < a.val - p
    · by_cases d2 : b.val < c.val - p
      · by_cases z : max2 (a.val - c.val) (c.val - a.val) ≤ p
        · skip
          simp only [u1, d1, d2, z, decide_true, decide_false, Bool.and_true, Bool.true_and, Bool.and_false, Bool.false_and, Bool.or_true, Bool.true_or, Bool.or_false, Bool.false_or, if_true, if_false, Bool.false_eq_true]
          unfold F43_L2
          generalize F43_J2 = J
          simp only []
          repeat (first
            | rfl
            | refine cond_t (by rfl) ?_
            | refine cond_f (by rfl) ?_
            | refine ite_of (by first | rfl | assumption) ?_
            | refine bind_of (by simp [-loadV, -storeV, -Int.natCast_add, loadV_ip, hlt, hp, w0, w1, w2, w3, w4, w5, w6, w7, i0, i1, i2, u1, d1, d2, z, hix, hset] <;> rfl) ?_)
        · skip
          simp only [u1, d1, d2, z, decide_true, decide_false, Bool.and_true, Bool.true_and, Bool.and_false, Bool.false_and, Bool.or_true, Bool.true_or, Bool.or_false, Bool.false_or, if_true, if_false, Bool.false_eq_true]
          unfold F43_L2
          generalize F43_J2 = J
          simp only []
          repeat (first
            | rfl
            | refine cond_t (by rfl) ?_
            | refine cond_f (by rfl) ?_
            | refine ite_of (by first | rfl | assumption) ?_
            | refine bind_of (by simp [-loadV, -storeV, -Int.natCast_add, loadV_ip, hlt, hp, w0, w1, w2, w3, w4, w5, w6, w7, i0, i1, i2, u1, d1, d2, z] <;> rfl) ?_)
      · skip
        simp only [u1, d1, d2, decide_true, decide_false, Bool.and_true, Bool.true_and, Bool.and_false, Bool.false_and, Bool.or_true, Bool.true_or, Bool.or_false, Bool.false_or, if_true, if_false, Bool.false_eq_true]
        unfold F43_L2
        generalize F43_J2 = J
        simp only []
        repeat (first
          | rfl
          | refine cond_t (by rfl) ?_
          | refine cond_f (by rfl) ?_
          | refine ite_of (by first | rfl | assumption) ?_
          | refine bind_of (by simp [-loadV, -storeV, -Int.natCast_add, loadV_ip, hlt, hp, w0, w1, w2, w3, w4, w5, w6, w7, i0, i1, i2, u1, d1, d2] <;> rfl) ?_)
    · skip
      simp only [u1, d1, decide_true, decide_false, Bool.and_true, Bool.true_and, Bool.and_false, Bool.false_and, Bool.or_true, Bool.true_or, Bool.or_false, Bool.false_or, if_true, if_false, Bool.false_eq_true]
      unfold F43_L2
      generalize F43_J2 = J
      simp only []
      repeat (first
        | rfl
        | refine cond_t (by rfl) ?_
        | refine cond_f (by rfl) ?_
        | refine ite_of (by first | rfl | assumption) ?_
        | refine bind_of (by simp [-loadV, -storeV, -Int.natCast_add, loadV_ip, hlt, hp, w0, w1, w2, w3, w4, w5, w6, w7, i0, i1, i2, u1, d1] <;> rfl) ?_)

end Go.Proofs.YtlilahgndpdkfaaDoor

/-
  What the timeline's reference says of a line.
-/
namespace Go.Proofs.YtlilahgndpdkfaaDoor
open Go Go.Abs

set_option maxHeartbeats 1000000 in
theorem r_loop2 {l : List Pt} {t : Tok} {s p : Int} {S : Store} (hl : ∀ q ∈ l, q.Ok) (h1 : 1 ≤ l.length) (h2 : l.length ≤ 1000000) (hp1 : p ≤ 10000) :
    iter (fun st => F43_L2 call S.length (.sl (pts l) t) (i64 p) (.osl S.length 0 l.length 1) (st.1.getD 0 .u) st.2) ([i64 1], S ++ [.obj ((mark2 l s p 1).map .bool)]) = some (.exit 2, [], S ++ [.obj (((List.range l.length).map (rejP l s p)).map .bool)]) := by
  by_cases hp : 0 < p
  · have hb : Nat.blt S.length S.length = false := blt_false (Nat.le_refl _)
    by_cases hl2 : 2 ≤ l.length
    · have key := iter_run (step := fun st => F43_L2 call S.length (.sl (pts l) t) (i64 p) (.osl S.length 0 l.length 1) (st.1.getD 0 .u) st.2)
        (fun k => ([i64 (k : Nat)], S ++ [.obj ((mark2 l s p k).map .bool)])) (r := (Ex.exit 2, [], S ++ [.obj ((mark2 l s p (l.length - 1)).map .bool)])) (l.length - 2) 1
        (fun k k1 k2 => by
          have hk1 : k + 1 < l.length := by omega
          have hk : k < l.length := by omega
          have hkm : k - 1 < l.length := by omega
          have w1 : IntKind.i64.wrap ((k : Int) + 1) = ((k + 1 : Nat) : Int) := wrap_in (by unfold In64; omega)
          have hset : storeV S.length 1 (.ptr S.length k) (.bool true) (S ++ [.obj ((mark2 l s p k).map .bool)]) = some (S ++ [.obj (((mark2 l s p k).set k true).map .bool)]) := by
            simp only [storeV, List.getElem?_concat_length, hb, cond_false, cellsOf, cells1, cell1, Option.bind_some, List.length_cons, List.length_nil, List.length_map, mark2_length]
            rw [if_pos ⟨by trivial, by omega⟩]
            simp only [setC, map_bool_set]
            rw [List.set_append_right _ _ (Nat.le_refl _)]
            simp
          have hr := r_round2 (t := t) (n0 := S.length) (j := S.length) hl h2 hp hp1 k1 hk1 hset
          have hspk : spkP l p k = spikeP l[k - 1] l[k] l[k + 1] p := by
            unfold spkP
            rw [getD_pt hkm, getD_pt hk, getD_pt hk1]
            simp [hp, show 0 < k by omega, hk1]
          have hstep := mark2_step (s := s) (p := p) hk
          rw [hspk] at hstep
          simp only [List.getD_cons_zero]
          rw [hr]
          by_cases hs : spikeP l[k - 1] l[k] l[k + 1] p = true
          · rw [if_pos hs] at hstep ⊢
            unfold F43_J2
            simp only [binV, isShift, cond_false, if_true, binI, Option.bind_some, w1]
            rw [nextS_eq (by simp), hstep]
            rfl
          · rw [if_neg hs] at hstep ⊢
            unfold F43_J2
            simp only [binV, isShift, cond_false, if_true, binI, Option.bind_some, w1]
            rw [nextS_eq (by simp), hstep]
            rfl)
        (by
          have e : 1 + (l.length - 2) = l.length - 1 := by omega
          rw [e]
          have w1 : IntKind.i64.wrap (((l.length - 1 : Nat) : Int) + 1) = (l.length : Int) := by rw [wrap_in (by unfold In64; omega)]; omega
          simp [F43_L2, w1])
      rw [mark2_end (k := l.length - 1) (.inr (by omega))] at key
      exact key
    · have e : l.length = 1 := by omega
      rw [mark2_end (k := 1) (.inr (by omega)), iter_eq]
      have w1 : IntKind.i64.wrap ((1 : Int) + 1) = 2 := by decide
      have n : ¬ (2 : Int) < (l.length : Int) := by omega
      simp [F43_L2, w1, n]
  · rw [mark2_end (k := 1) (.inl hp), iter_eq]
    have w1 : IntKind.i64.wrap ((1 : Int) + 1) = 2 := by decide
    by_cases n : (2 : Int) < (l.length : Int)
    · simp [F43_L2, w1, n, hp]
    · simp [F43_L2, w1, n]

theorem r_rejected {l : List Pt} {t : Tok} {s p : Int} (hl : ∀ q ∈ l, q.Ok) (hs : l.Pairwise fun a b => a.time < b.time) (h1 : 1 ≤ l.length) (h2 : l.length ≤ 1000000) (h4 : s ≤ 10000) (hp1 : p ≤ 10000) (S : Store) :
    call 43 [.sl (pts l) t, i64 s, i64 p] S = some (.sl (bools ((List.range l.length).map (rejP l s p))) .none, S) := by
  rw [k43]
  unfold F43
  have e1 := r_loop1 (t := t) (s := s) (p := p) (S := S) hl hs h1 h2 h4
  have e2 := r_loop2 (t := t) (s := s) (p := p) (S := S) hl h1 h2 hp1
  rw [mark2_one] at e2
  have hroom : room = 4294967296 := rfl
  have hz : msliceV [.bool false] (.int .i64 l.length) (.int .i64 l.length) S = some (.osl S.length 0 l.length 1, S ++ [.obj ((List.replicate l.length false).map .bool)]) := by
    simp only [msliceV]
    rw [if_pos ⟨by omega, by omega, by omega⟩, Int.toNat_natCast, zero_flat]
    rfl
  have hf := fin1_flat (S := S ++ [.obj (((List.range l.length).map (rejP l s p)).map .bool)]) (n := S.length) (i := S.length) (sz := 1) (xs := bools ((List.range l.length).map (rejP l s p))) (Nat.le_refl _) (by rw [bools_flat]; simp) bools_row
  simp only [bools_length, List.length_map, List.length_range] at hf
  refine bind_of (by simp [lenV] <;> rfl) ?_
  refine bind_of (by exact hz) ?_
  refine bind_of (by exact e1) ?_
  refine bind_of (by exact e2) ?_
  show finish false S.length [.osl S.length 0 l.length 1] (S ++ [.obj (((List.range l.length).map (rejP l s p)).map .bool)]) = _
  rw [finish_eq (vs' := [.sl (bools ((List.range l.length).map (rejP l s p))) .none]) (by simp only [fins, hf, Option.bind_some]) (by simp [belows, below])]
  simp

end Go.Proofs.YtlilahgndpdkfaaDoor

/-
  What the timeline's reference answers: the whole; and how flags are compared.
-/
namespace Go.Proofs.YtlilahgndpdkfaaDoor
open Go Go.Abs

theorem s_CheckErr {l : List Rep} {t : Tok} {k : Ctl} (hk : k.Fit) (hl : l.length ≤ 1000000) (hr : ∀ r ∈ l, r.rd.length ≤ 1000000) (he : examP l k ≠ 0) (S : Store) :
    call 17 [.sl (reps l) t, .agg (ctlC k)] S = some (.tup [.sl [] .full, i64 (examP l k)], S) := by
  rw [k17]
  unfold F17
  have hexam := s_examine (l := l) (t := t) (k := k) hk hl (fun r h => by have := hr r h; omega) S
  have himm : imms (ctlC k) = some (ctlC k) := by
    have := imms_i64s (k.hops :: (k.steps ++ k.spikes ++ k.rest))
    simpa [ctlC] using this
  have hlc : (ctlC k).length = 41 := by simp [ctlC, hk.steps, hk.spikes, hk.rest]
  have hta : takeC (some 41) (ctlC k) 0 = some (.agg (ctlC k)) := by
    simp only [takeC]
    rw [if_pos (by omega), List.drop_zero, List.take_of_length_le (by omega)]
  refine bind_of (by simp [himm] <;> rfl) ?_
  refine bind_of (by simp only [List.getD_cons_zero, loadV_ip, hta] <;> rfl) ?_
  refine bind_of (by simp [himm] <;> rfl) ?_
  refine bind_of (by simp [hexam] <;> rfl) ?_
  refine bind_of (a := .bool true) (by simp [he]) ?_
  refine cond_t rfl ?_
  simp [finish]

/-- Flags compared. -/
theorem r_Flags {a b : List (Int × Int)} {t u : Tok} (ha : a.length ≤ 1000000) (S : Store) : call 19 [.sl (flagRows a) t, .sl (flagRows b) u] S = some (.bool (decide (a = b)), S) := by
  rw [k19]
  unfold F19
  by_cases hlen : a.length = b.length
  · have hlen' : ((a.length : Int) = (b.length : Int)) := by omega
    have hata : ∀ (k : Nat) (hk : k < a.length), at? (flagRows a) (k : Int) = some (flagR a[k]) := fun k hk => by rw [at_nat]; simp [flagRows, hk]
    have hatb : ∀ (k : Nat) (hk : k < b.length), at? (flagRows b) (k : Int) = some (flagR b[k]) := fun k hk => by rw [at_nat]; simp [flagRows, hk]
    have key := iter_scan (step := fun s => F19_L1 call S.length (.sl (flagRows a) t) (.sl (flagRows b) u) (s.1.getD 0 .u) s.2) (S := S) (fun k => !(decide (a.getD k (0, 0) = b.getD k (0, 0)))) (rT := fun _ => (Ex.ret, [.bool false], S)) (rE := (Ex.exit 0, [.u], S)) a.length 0
      (fun k k1 k2 => by
        have hk : k < a.length := by omega
        have hkb : k < b.length := by omega
        have hlt : (k : Int) < (a.length : Int) := by omega
        have w1 : IntKind.i64.wrap ((k : Int) + 1) = (k : Int) + 1 := wrap_in (by unfold In64; omega)
        have e1 : a.getD k (0, 0) = a[k] := by rw [List.getD_eq_getElem?_getD, List.getElem?_eq_getElem hk]; rfl
        have e2 : b.getD k (0, 0) = b[k] := by rw [List.getD_eq_getElem?_getD, List.getElem?_eq_getElem hkb]; rfl
        rw [e1, e2]
        by_cases hc : a[k] = b[k]
        · simp [F19_L1, hlt, indexAV, hata k hk, hatb k hkb, flagR, hc, eqcV, eqs, eq1, w1, nextS_same]
        · have hc' : ¬ (a[k].1 = b[k].1 ∧ a[k].2 = b[k].2) := fun h => hc (Prod.ext h.1 h.2)
          by_cases h1 : a[k].1 = b[k].1
          · have h2 : ¬ a[k].2 = b[k].2 := fun h => hc' ⟨h1, h⟩
            simp [F19_L1, hlt, indexAV, hata k hk, hatb k hkb, flagR, hc, eqcV, eqs, eq1, h1, h2]
          · simp [F19_L1, hlt, indexAV, hata k hk, hatb k hkb, flagR, hc, eqcV, eqs, eq1, h1])
      (by simp [F19_L1])
    simp only [Int.natCast_zero, i64] at key
    rcases key with ⟨k, k1, k2, k3, k4, k5⟩ | ⟨k1, k2⟩
    · have hne : ¬ a = b := fun h => by subst h; simp at k3
      simp [-List.getD_eq_getElem?_getD, List.getD_cons_zero, List.getD_cons_succ, lenV, hlen', k5, hne]
    · have heq : a = b := by
        apply List.ext_getElem hlen
        intro i h1 h2
        have := k1 i (Nat.zero_le _) (by omega)
        rw [List.getD_eq_getElem?_getD, List.getElem?_eq_getElem h1, List.getD_eq_getElem?_getD, List.getElem?_eq_getElem h2] at this
        simpa using this
      subst heq
      simp [-List.getD_eq_getElem?_getD, List.getD_cons_zero, List.getD_cons_succ, lenV, k2]
  · have hlen' : ¬ ((a.length : Int) = (b.length : Int)) := by omega
    have hne : ¬ a = b := fun h => hlen (by rw [h])
    simp [lenV, hlen', hlen, hne]

end Go.Proofs.YtlilahgndpdkfaaDoor

/-
  The timeline's reference: what it examines.
-/
namespace Go.Proofs.YtlilahgndpdkfaaDoor
open Go Go.Abs

def badN (n : Int) : Bool := decide (n < 0) || decide (10000 < n)

theorem ctl_at {k : Ctl} (hk : k.Fit) {j : Nat} (hj : j < 12) :
    indexAV 1 (some 12) (.ip (ctlC k) 1) (.int .i64 (j : Int)) = some (.ip (ctlC k) (1 + j)) ∧ takeC none (ctlC k) (1 + j) = some (i64 (k.steps.getD j 0)) ∧
    indexAV 1 (some 12) (.ip (ctlC k) 13) (.int .i64 (j : Int)) = some (.ip (ctlC k) (13 + j)) ∧ takeC none (ctlC k) (13 + j) = some (i64 (k.spikes.getD j 0)) := by
  refine ⟨by simp only [indexAV]; rw [if_pos ⟨by omega, by omega⟩]; simp, ?_, by simp only [indexAV]; rw [if_pos ⟨by omega, by omega⟩]; simp, ?_⟩
  · show (ctlC k)[1 + j]? = _
    unfold ctlC
    rw [Nat.add_comm, List.getElem?_cons_succ, List.getElem?_map, List.append_assoc, List.getElem?_append_left (by rw [hk.steps]; exact hj), List.getElem?_eq_getElem (by rw [hk.steps]; exact hj)]
    simp [hk.steps, hj]
  · show (ctlC k)[13 + j]? = _
    unfold ctlC
    rw [show 13 + j = 12 + j + 1 by omega, List.getElem?_cons_succ, List.getElem?_map, List.append_assoc, List.getElem?_append_right (by rw [hk.steps]; omega), hk.steps, show 12 + j - 12 = j by omega,
      List.getElem?_append_left (by rw [hk.spikes]; exact hj), List.getElem?_eq_getElem (by rw [hk.spikes]; exact hj)]
    simp [hk.spikes, hj]

set_option maxHeartbeats 2000000 in
theorem r_loopP {k : Ctl} (hk : k.Fit) (t0 : AV) (S : Store) :
    iter (fun s => F18_L1 call S.length t0 (.ip (ctlC k) 0) (s.1.getD 0 .u) s.2) ([i64 0], S) = some (if possP k.steps && possP k.spikes then (.exit 0, [.u, .u], S) else (.ret, [.sl [] .full, i64 1], S)) := by
  have key := iter_scan (step := fun s => F18_L1 call S.length t0 (.ip (ctlC k) 0) (s.1.getD 0 .u) s.2) (S := S) (fun j => badN (k.steps.getD j 0) || badN (k.spikes.getD j 0)) (rT := fun _ => (Ex.ret, [.sl [] .full, i64 1], S)) (rE := (Ex.exit 0, [.u, .u], S)) 12 0
    (fun j _ hj => by
      obtain ⟨g1, g2, g3, g4⟩ := ctl_at hk (j := j) (by omega)
      have hlt : (j : Int) < 12 := by omega
      have w1 : IntKind.i64.wrap ((j : Int) + 1) = (j : Int) + 1 := wrap_in (by unfold In64; omega)
      generalize k.steps.getD j 0 = a at g2 ⊢
      generalize k.spikes.getD j 0 = b at g4 ⊢
      have hn := nextS_same (b := S.length) (vs := [.int .i64 ((j : Int) + 1)]) (S := S)
      simp only [List.getD_cons_zero]
      unfold badN
      by_cases a1 : a < 0
      · simp only [a1, decide_true, Bool.true_or, if_true]
        unfold F18_L1
        repeat (first
          | rfl
          | refine cond_t (by rfl) ?_
          | refine cond_f (by rfl) ?_
          | refine ite_of (by first | rfl | assumption) ?_
          | refine bind_of (by simp [-loadV, -storeV, -Int.natCast_add, loadV_ip, -take_none, hlt, g1, g2, a1] <;> rfl) ?_)
      · by_cases a2 : 10000 < a
        · simp only [a2, decide_true, Bool.true_or, Bool.or_true, if_true]
          unfold F18_L1
          repeat (first
            | rfl
            | refine cond_t (by rfl) ?_
            | refine cond_f (by rfl) ?_
            | refine ite_of (by first | rfl | assumption) ?_
            | refine bind_of (by simp [-loadV, -storeV, -Int.natCast_add, loadV_ip, -take_none, hlt, g1, g2, a1, a2] <;> rfl) ?_)
        · by_cases b1 : b < 0
          · simp only [a1, a2, b1, decide_true, decide_false, Bool.true_or, Bool.or_true, if_true]
            unfold F18_L1
            repeat (first
              | rfl
              | refine cond_t (by rfl) ?_
              | refine cond_f (by rfl) ?_
              | refine ite_of (by first | rfl | assumption) ?_
              | refine bind_of (by simp [-loadV, -storeV, -Int.natCast_add, loadV_ip, -take_none, hlt, g1, g2, g3, g4, a1, a2, b1] <;> rfl) ?_)
          · by_cases b2 : 10000 < b
            · simp only [a1, a2, b1, b2, decide_true, decide_false, Bool.true_or, Bool.or_true, if_true]
              unfold F18_L1
              repeat (first
                | rfl
                | refine cond_t (by rfl) ?_
                | refine cond_f (by rfl) ?_
                | refine ite_of (by first | rfl | assumption) ?_
                | refine bind_of (by simp [-loadV, -storeV, -Int.natCast_add, loadV_ip, -take_none, hlt, g1, g2, g3, g4, a1, a2, b1, b2] <;> rfl) ?_)
            · simp only [a1, a2, b1, b2, decide_false, Bool.or_false, Bool.false_eq_true, if_false]
              unfold F18_L1
              repeat (first
                | rfl
                | refine cond_t (by rfl) ?_
                | refine cond_f (by rfl) ?_
                | refine ite_of (by first | rfl | assumption) ?_
                | refine bind_of (by simp [-loadV, -storeV, -Int.natCast_add, loadV_ip, -take_none, hlt, g1, g2, g3, g4, a1, a2, b1, b2, w1, hn] <;> rfl) ?_))
    (by simp [F18_L1])
  simp only [Int.natCast_zero] at key
  have poss : ∀ l : List Int, l.length = 12 → (possP l = true ↔ ∀ j, j < 12 → badN (l.getD j 0) = false) := fun l hl => by
    unfold possP badN
    simp only [Bool.not_eq_true', List.any_eq_false]
    constructor
    · intro h j hj
      have := h (l.getD j 0) (by rw [List.getD_eq_getElem?_getD, List.getElem?_eq_getElem (by omega)]; exact List.getElem_mem _)
      simpa using this
    · intro h n hn
      obtain ⟨j, hj, rfl⟩ := List.getElem_of_mem hn
      have := h j (by omega)
      rw [List.getD_eq_getElem?_getD, List.getElem?_eq_getElem hj] at this
      simpa using this
  rcases key with ⟨j, j1, j2, j3, j4, j5⟩ | ⟨j1, j2⟩
  · rw [j5]
    have : ¬ (possP k.steps && possP k.spikes) = true := fun h => by
      simp only [Bool.and_eq_true] at h
      rw [(poss _ hk.steps).1 h.1 j (by omega), (poss _ hk.spikes).1 h.2 j (by omega)] at j3
      cases j3
    rw [if_neg this]
  · rw [j2]
    have : (possP k.steps && possP k.spikes) = true := by
      simp only [Bool.and_eq_true]
      refine ⟨(poss _ hk.steps).2 fun j hj => ?_, (poss _ hk.spikes).2 fun j hj => ?_⟩
      · have := j1 j (Nat.zero_le _) (by omega)
        simp only [Bool.or_eq_false_iff] at this
        exact this.1
      · have := j1 j (Nat.zero_le _) (by omega)
        simp only [Bool.or_eq_false_iff] at this
        exact this.2
    rw [if_pos this]

theorem r_loopV {l : List Rep} {t : Tok} (hl : l.length ≤ 1000000) (hr : ∀ r ∈ l, r.rd.length ≤ 1000000) (t3 : AV) (S : Store) :
    iter (fun s => F18_L2 call S.length (.sl (reps l) t) t3 (.sl (reps l) t) (i64 l.length) (s.1.getD 0 .u) s.2) ([i64 0], S) = some (if firstP l = 0 then (.exit 2, [.u, .u], S) else (.ret, [.sl [] .full, i64 (firstP l)], S)) := by
  have key := iter_scan (step := fun s => F18_L2 call S.length (.sl (reps l) t) t3 (.sl (reps l) t) (i64 l.length) (s.1.getD 0 .u) s.2) (S := S) (fun j => !decide (validP (l.getD j ⟨0, [], 0, 0, 0, 0, 0, []⟩).rd = 0)) (rT := fun j => (Ex.ret, [.sl [] .full, i64 (validP (l.getD j ⟨0, [], 0, 0, 0, 0, 0, []⟩).rd)], S)) (rE := (Ex.exit 2, [.u, .u], S)) l.length 0
    (fun j j1 j2 => by
      have hj : j < l.length := by omega
      have hlt : (j : Int) < (l.length : Int) := by omega
      have hg : l.getD j ⟨0, [], 0, 0, 0, 0, 0, []⟩ = l[j] := by rw [List.getD_eq_getElem?_getD, List.getElem?_eq_getElem hj]; rfl
      rw [hg]
      have hv := r_Validate (l := l[j].rd) (t := .none) (hr _ (List.getElem_mem hj)) S
      have w1 : IntKind.i64.wrap ((j : Int) + 1) = (j : Int) + 1 := wrap_in (by unfold In64; omega)
      have hat' := at_reps hj
      by_cases h0 : validP l[j].rd = 0
      · rw [h0] at hv
        simp [F18_L2, hlt, indexAV, hat', repR, hv, h0, w1, nextS_same]
      · simp [F18_L2, hlt, indexAV, hat', repR, hv, h0])
    (by simp [F18_L2])
  simp only [Int.natCast_zero] at key
  rcases key with ⟨j, j1, j2, j3, j4, j5⟩ | ⟨j1, j2⟩
  · have hj : j < l.length := by omega
    have hg : l.getD j ⟨0, [], 0, 0, 0, 0, 0, []⟩ = l[j] := by rw [List.getD_eq_getElem?_getD, List.getElem?_eq_getElem hj]; rfl
    rw [hg] at j3 j5
    have hv : validP l[j].rd ≠ 0 := by simpa using j3
    have hf := firstP_at hj hv fun i hi => by
      have := j4 i (Nat.zero_le _) hi
      rw [List.getD_eq_getElem?_getD, List.getElem?_eq_getElem (by omega)] at this
      simpa using this
    rw [hf, if_neg hv, j5]
  · have hf : firstP l = 0 := firstP_all.2 fun r hr => by
      obtain ⟨i, hi, rfl⟩ := List.getElem_of_mem hr
      have := j1 i (Nat.zero_le _) (by omega)
      rw [List.getD_eq_getElem?_getD, List.getElem?_eq_getElem hi] at this
      simpa using this
    rw [if_pos hf, j2]

theorem r_loopT {l : List Rep} {t : Tok} (hl : l.length ≤ 1000000) (t3 : AV) (S : Store) :
    iter (fun s => F18_L3 call S.length (.sl (reps l) t) t3 (.sl (reps l) t) (i64 l.length) (s.1.getD 0 .u) s.2) ([i64 0], S) = some (if (l.all fun r => inP r.time) = true then (.exit 4, [.u, .u], S) else (.ret, [.sl [] .full, i64 1], S)) := by
  have key := iter_scan (step := fun s => F18_L3 call S.length (.sl (reps l) t) t3 (.sl (reps l) t) (i64 l.length) (s.1.getD 0 .u) s.2) (S := S) (fun j => !inP (l.getD j ⟨0, [], 0, 0, 0, 0, 0, []⟩).time) (rT := fun _ => (Ex.ret, [.sl [] .full, i64 1], S)) (rE := (Ex.exit 4, [.u, .u], S)) l.length 0
    (fun j j1 j2 => by
      have hj : j < l.length := by omega
      have hlt : (j : Int) < (l.length : Int) := by omega
      have hg : l.getD j ⟨0, [], 0, 0, 0, 0, 0, []⟩ = l[j] := by rw [List.getD_eq_getElem?_getD, List.getElem?_eq_getElem hj]; rfl
      rw [hg]
      have hv := r_In l[j].time S
      have w1 : IntKind.i64.wrap ((j : Int) + 1) = (j : Int) + 1 := wrap_in (by unfold In64; omega)
      have hat' := at_reps hj
      cases h0 : inP l[j].time with
      | true =>
        rw [h0] at hv
        simp [F18_L3, hlt, indexAV, hat', repR, hv, w1, nextS_same]
      | false =>
        rw [h0] at hv
        simp [F18_L3, hlt, indexAV, hat', repR, hv])
    (by simp [F18_L3])
  simp only [Int.natCast_zero] at key
  rcases key with ⟨j, j1, j2, j3, j4, j5⟩ | ⟨j1, j2⟩
  · have hj : j < l.length := by omega
    have hg : l.getD j ⟨0, [], 0, 0, 0, 0, 0, []⟩ = l[j] := by rw [List.getD_eq_getElem?_getD, List.getElem?_eq_getElem hj]; rfl
    rw [hg] at j3
    have : ¬ (l.all fun r => inP r.time) = true := fun h => by
      have := List.all_eq_true.1 h l[j] (List.getElem_mem hj)
      rw [this] at j3; cases j3
    rw [if_neg this, j5]
  · have : (l.all fun r => inP r.time) = true := List.all_eq_true.2 fun r hr => by
      obtain ⟨i, hi, rfl⟩ := List.getElem_of_mem hr
      have := j1 i (Nat.zero_le _) (by omega)
      rw [List.getD_eq_getElem?_getD, List.getElem?_eq_getElem hi] at this
      simpa using this
    rw [if_pos this, j2]

end Go.Proofs.YtlilahgndpdkfaaDoor

/-
  The timeline's reference: reports that are there twice.
-/
namespace Go.Proofs.YtlilahgndpdkfaaDoor
open Go Go.Abs

abbrev rep0 : Rep := ⟨0, [], 0, 0, 0, 0, 0, []⟩

theorem getD_rep {l : List Rep} {j : Nat} (hj : j < l.length) : l.getD j rep0 = l[j] := by rw [List.getD_eq_getElem?_getD, List.getElem?_eq_getElem hj]; rfl

set_option maxHeartbeats 1000000 in
theorem r_loopI {l : List Rep} {t : Tok} {i : Nat} (hi : i < l.length) (hl : l.length ≤ 1000000) (a : AV) (S : Store) :
    iter (fun s => F18_L5 call S.length (.sl (reps l) t) (i64 (i : Nat)) a (s.1.getD 0 .u) s.2) ([i64 0], S) = some (if ((List.range i).any fun j => decide (keyR (l.getD i rep0) = keyR (l.getD j rep0))) = true then (.ret, [.sl [] .full, i64 5], S) else (.exit 8, [.u, .u], S)) := by
  have hix : ∀ (q : Nat) (hq : q < l.length), indexAV 8 none (.sl (reps l) t) (.int .i64 (q : Int)) = some (.ip (repR l[q]) 0) := fun q hq => by simp [indexAV, at_reps hq]
  have key := iter_scan (step := fun s => F18_L5 call S.length (.sl (reps l) t) (i64 (i : Nat)) a (s.1.getD 0 .u) s.2) (S := S) (fun j => decide (keyR (l.getD i rep0) = keyR (l.getD j rep0))) (rT := fun _ => (Ex.ret, [.sl [] .full, i64 5], S)) (rE := (Ex.exit 8, [.u, .u], S)) i 0
    (fun j j1 j2 => by
      have hj : j < l.length := by omega
      have hlt : (j : Int) < (i : Int) := by omega
      have w1 : IntKind.i64.wrap ((j : Int) + 1) = (j : Int) + 1 := wrap_in (by unfold In64; omega)
      have h1 := hix i hi
      have h2 := hix j hj
      have hn := nextS_same (b := S.length) (vs := [.int .i64 ((j : Int) + 1)]) (S := S)
      rw [getD_rep hi, getD_rep hj]
      simp only [repR] at h1 h2
      simp only [List.getD_cons_zero]
      by_cases a1 : l[i].name = l[j].name
      · by_cases a2 : l[i].time = l[j].time
        · have : keyR l[i] = keyR l[j] := by simp [keyR, a1, a2]
          simp only [this, decide_true, if_true]
          unfold F18_L5
          repeat (first
            | rfl
            | refine cond_t (by rfl) ?_
            | refine cond_f (by rfl) ?_
            | refine ite_of (by first | rfl | assumption) ?_
            | refine bind_of (by simp [-loadV, -storeV, -Int.natCast_add, loadV_ip, hlt, h1, h2, a1, a2, binS] <;> rfl) ?_)
        · have : ¬ keyR l[i] = keyR l[j] := fun h => a2 (Prod.ext_iff.1 h).2
          have a3 : (l[i].time == l[j].time) = false := by simpa using a2
          simp only [this, decide_false, Bool.false_eq_true, if_false]
          unfold F18_L5
          repeat (first
            | rfl
            | refine cond_t (by rfl) ?_
            | refine cond_f (by rfl) ?_
            | refine ite_of (by first | rfl | assumption) ?_
            | refine bind_of (by simp [-loadV, -storeV, -Int.natCast_add, loadV_ip, hlt, h1, h2, a1, a3, binS, w1, hn] <;> rfl) ?_)
      · have : ¬ keyR l[i] = keyR l[j] := fun h => a1 (Prod.ext_iff.1 h).1
        have a3 : (l[i].name == l[j].name) = false := by simpa using a1
        simp only [this, decide_false, Bool.false_eq_true, if_false]
        unfold F18_L5
        repeat (first
          | rfl
          | refine cond_t (by rfl) ?_
          | refine cond_f (by rfl) ?_
          | refine ite_of (by first | rfl | assumption) ?_
          | refine bind_of (by simp [-loadV, -storeV, -Int.natCast_add, loadV_ip, hlt, h1, h2, a3, binS, w1, hn] <;> rfl) ?_))
    (by simp [F18_L5])
  simp only [Int.natCast_zero] at key
  rcases key with ⟨j, j1, j2, j3, j4, j5⟩ | ⟨j1, j2⟩
  · rw [if_pos (List.any_eq_true.2 ⟨j, List.mem_range.2 (by omega), j3⟩), j5]
  · rw [if_neg (fun h => by
      obtain ⟨j, hj, h2⟩ := List.any_eq_true.1 h
      rw [j1 j (Nat.zero_le _) (by simpa using hj)] at h2; cases h2), j2]

theorem twice_iff {l : List Rep} : twiceP l = true ↔ ∃ i, i < l.length ∧ ((List.range i).any fun j => decide (keyR (l.getD i rep0) = keyR (l.getD j rep0))) = true := by
  unfold twiceP
  simp only [Bool.not_eq_true', decide_eq_false_iff_not]
  rw [List.Nodup, List.pairwise_map, List.pairwise_iff_getElem]
  constructor
  · intro h
    simp only [Classical.not_forall] at h
    obtain ⟨i, j, hi, hj, hij, h⟩ := h
    refine ⟨j, hj, List.any_eq_true.2 ⟨i, List.mem_range.2 hij, ?_⟩⟩
    rw [getD_rep hj, getD_rep hi]
    simp only [decide_eq_true_eq]
    exact (Classical.not_not.1 h).symm
  · rintro ⟨i, hi, h⟩ hn
    obtain ⟨j, hj, h2⟩ := List.any_eq_true.1 h
    have hj' : j < i := List.mem_range.1 hj
    rw [getD_rep hi, getD_rep (by omega)] at h2
    have h3 : keyR l[i] = keyR l[j] := by simpa using h2
    exact hn j i (by omega) hi hj' h3.symm

theorem r_loopD {l : List Rep} {t : Tok} (hl : l.length ≤ 1000000) (t3 : AV) (S : Store) :
    iter (fun s => F18_L4 call S.length (.sl (reps l) t) t3 (i64 l.length) (s.1.getD 0 .u) s.2) ([i64 0], S) = some (if twiceP l = true then (.ret, [.sl [] .full, i64 5], S) else (.exit 6, [.u, .u], S)) := by
  have key := iter_scan (step := fun s => F18_L4 call S.length (.sl (reps l) t) t3 (i64 l.length) (s.1.getD 0 .u) s.2) (S := S) (fun i => (List.range i).any fun j => decide (keyR (l.getD i rep0) = keyR (l.getD j rep0))) (rT := fun _ => (Ex.ret, [.sl [] .full, i64 5], S)) (rE := (Ex.exit 6, [.u, .u], S)) l.length 0
    (fun i i1 i2 => by
      have hi : i < l.length := by omega
      have hlt : (i : Int) < (l.length : Int) := by omega
      have w1 : IntKind.i64.wrap ((i : Int) + 1) = (i : Int) + 1 := wrap_in (by unfold In64; omega)
      have hI := r_loopI (t := t) hi hl (i64 (i : Nat)) S
      cases hc : (List.range i).any fun j => decide (keyR (l.getD i rep0) = keyR (l.getD j rep0)) with
      | true =>
        rw [hc] at hI
        simp only [i64, if_true] at hI
        simp [-List.getD_eq_getElem?_getD, List.getD_cons_zero, List.getD_cons_succ, F18_L4, hlt, hI]
      | false =>
        rw [hc] at hI
        simp only [i64, Bool.false_eq_true, if_false] at hI
        simp [-List.getD_eq_getElem?_getD, List.getD_cons_zero, F18_L4, hlt, hI, w1, nextS_same])
    (by simp [F18_L4])
  simp only [Int.natCast_zero] at key
  rcases key with ⟨i, i1, i2, i3, i4, i5⟩ | ⟨i1, i2⟩
  · rw [if_pos (twice_iff.2 ⟨i, by omega, i3⟩), i5]
  · rw [if_neg (fun h => by
      obtain ⟨i, hi, h2⟩ := twice_iff.1 h
      rw [i1 i (Nat.zero_le _) (by omega)] at h2; cases h2), i2]

end Go.Proofs.YtlilahgndpdkfaaDoor

/-
  The timeline's reference: the flags.
-/
namespace Go.Proofs.YtlilahgndpdkfaaDoor
open Go Go.Abs

theorem flagsOf_ofRep {L : List Pt} {s p c : Int} {k i : Nat} (hk : k < L.length) : ofRep i (flagsOf L s p c (k + 1)) = ofRep i (flagsOf L s p c k) ++ if rejP L s p k = true ∧ L[k].rep = (i : Int) then [((i : Int), c)] else [] := by
  unfold flagsOf ofRep
  rw [List.range_succ, List.filter_append, List.map_append, List.filter_append]
  congr 1
  by_cases h : rejP L s p k = true
  · by_cases h2 : L[k].rep = (i : Int) <;> simp [h, hk, h2]
  · simp [h]

theorem ownV_own {S : Store} {i : Nat} {xs : List (List AV)} : ownV 3 (.sl xs (.own i)) S = some (.sl xs (.own i), S) := rfl

/-- The flags of a reading. -/
theorem r_loopF {L : List Pt} {s p c : Int} {i : Nat} {tl tb : Tok} {R : List (Int × Int)} {S : Store} {a b : AV} (hL : L.length ≤ 1000000) (hR : R.length ≤ 1000000) :
    iter (fun st => F18_L8 call S.length (i64 (i : Nat)) (.ip [i64 c, b] 0) (.sl (pts L) tl) (.sl (bools ((List.range L.length).map (rejP L s p))) tb) a (i64 L.length) (st.1.getD 0 .u) (st.1.getD 1 .u) st.2) ([.sl (flagRows R) (.own S.length), i64 0], S ++ [.tail R.length 3]) =
      some (.exit 14, [.sl (flagRows (R ++ ofRep i (flagsOf L s p c L.length))) (.own S.length)], S ++ [.tail (R ++ ofRep i (flagsOf L s p c L.length)).length 3]) := by
  have hroom : room = 4294967296 := rfl
  have hlen : ∀ n, n ≤ L.length → (ofRep i (flagsOf L s p c n)).length ≤ n := fun n _ => Nat.le_trans (List.length_filter_le _ _) flagsOf_le
  have key := iter_run (step := fun st => F18_L8 call S.length (i64 (i : Nat)) (.ip [i64 c, b] 0) (.sl (pts L) tl) (.sl (bools ((List.range L.length).map (rejP L s p))) tb) a (i64 L.length) (st.1.getD 0 .u) (st.1.getD 1 .u) st.2)
    (fun k => ([.sl (flagRows (R ++ ofRep i (flagsOf L s p c k))) (.own S.length), i64 (k : Nat)], S ++ [.tail (R ++ ofRep i (flagsOf L s p c k)).length 3])) (r := (.exit 14, [.sl (flagRows (R ++ ofRep i (flagsOf L s p c L.length))) (.own S.length)], S ++ [.tail (R ++ ofRep i (flagsOf L s p c L.length)).length 3])) L.length 0
    (fun k _ hk => by
      have hk : k < L.length := by omega
      have hlt : (k : Int) < (L.length : Int) := by omega
      have w1 : IntKind.i64.wrap ((k : Int) + 1) = (k : Int) + 1 := wrap_in (by unfold In64; omega)
      have h1 : indexAV 3 none (.sl (pts L) tl) (.int .i64 (k : Int)) = some (.ip [i64 L[k].rep, i64 L[k].time, i64 L[k].val] 0) := by simp [indexAV, at_pts hk, ptR]
      have hkm : k < ((List.range L.length).map (rejP L s p)).length := by simpa using hk
      have h2 : indexAV 1 none (.sl (bools ((List.range L.length).map (rejP L s p))) tb) (.int .i64 (k : Int)) = some (.ip [.bool (rejP L s p k)] 0) := by simp [indexAV, at_bools hkm]
      have hll := hlen k (by omega)
      have hsucc := flagsOf_ofRep (s := s) (p := p) (c := c) (i := i) hk
      have hJ : ∀ R' : List (Int × Int), F18_J1 call S.length (S ++ [Ent.tail (R ++ ofRep i (flagsOf L s p c k)).length 3]).length (.sl (flagRows R') (.own S.length)) (i64 (k : Nat)) (S ++ [.tail R'.length 3]) = some (.inl ([.sl (flagRows R') (.own S.length), i64 ((k + 1 : Nat) : Int)], S ++ [.tail R'.length 3])) := fun R' => by
        unfold F18_J1
        simp only [binV, isShift, cond_false, if_true, binI, Option.bind_some, w1]
        rw [nextS_eq (by simp)]
        rfl
      have hXl : (R ++ ofRep i (flagsOf L s p c k)).length ≤ 2000000 := by simp only [List.length_append]; omega
      simp only [List.getD_cons_zero, List.getD_cons_succ]
      by_cases hr : L[k].rep = (i : Int)
      · cases hc : rejP L s p k with
        | true =>
          rw [hc] at h2
          rw [if_pos ⟨hc, hr⟩] at hsucc
          rw [hsucc, ← List.append_assoc]
          rw [← hJ]
          generalize R ++ ofRep i (flagsOf L s p c k) = X at hXl ⊢
          have happ : appendV 3 (.sl (flagRows X) (.own S.length)) (.sl [[i64 (i : Int), i64 c, i64 4]] .full) (S ++ [.tail X.length 3]) = some (.sl (flagRows (X ++ [((i : Int), c)])) (.own S.length), S ++ [.tail (X ++ [((i : Int), c)]).length 3]) := by
            simp only [appendV, rowsOf_sl, Option.bind_some, immRows, List.length_cons, List.length_nil, imms, imm1, if_true]
            rw [if_pos (by simp only [flagRows_length]; omega)]
            simp only [List.getElem?_concat_length, flagRows_length]
            rw [if_pos ⟨by trivial, by trivial⟩, List.set_append_right _ _ (Nat.le_refl _)]
            simp [flagRows, flagR]
          unfold F18_L8
          generalize F18_J1 = J
          simp only []
          repeat (first
            | rfl
            | refine cond_t (by rfl) ?_
            | refine cond_f (by rfl) ?_
            | refine ite_of (by first | rfl | assumption) ?_
            | refine bind_of (by simp [-loadV, -storeV, -Int.natCast_add, loadV_ip, -List.length_append, hlt, h1, h2, hr, buildV, fillC, setC, bsliceV, immRows, happ, ownV_own] <;> rfl) ?_)
        | false =>
          rw [hc] at h2
          rw [if_neg (by simp [hc]), List.append_nil] at hsucc
          rw [hsucc, ← hJ]
          generalize R ++ ofRep i (flagsOf L s p c k) = X
          unfold F18_L8
          generalize F18_J1 = J
          simp only []
          repeat (first
            | rfl
            | refine cond_t (by rfl) ?_
            | refine cond_f (by rfl) ?_
            | refine ite_of (by first | rfl | assumption) ?_
            | refine bind_of (by simp [-loadV, -storeV, -Int.natCast_add, loadV_ip, -List.length_append, hlt, h1, h2, hr] <;> rfl) ?_)
      · have hr' : (L[k].rep == (i : Int)) = false := by simpa using hr
        rw [if_neg (fun h => hr h.2), List.append_nil] at hsucc
        rw [hsucc, ← hJ]
        generalize R ++ ofRep i (flagsOf L s p c k) = X
        unfold F18_L8
        generalize F18_J1 = J
        simp only []
        repeat (first
          | rfl
          | refine cond_t (by rfl) ?_
          | refine cond_f (by rfl) ?_
          | refine ite_of (by first | rfl | assumption) ?_
          | refine bind_of (by simp [-loadV, -storeV, -Int.natCast_add, loadV_ip, -List.length_append, hlt, h1, h2, hr, hr'] <;> rfl) ?_))
    (by
      simp only [Nat.zero_add]
      simp [F18_L8])
  have e0 : ofRep i (flagsOf L s p c 0) = [] := rfl
  rw [e0, List.append_nil] at key
  exact key

end Go.Proofs.YtlilahgndpdkfaaDoor

/-
  The timeline's reference: the flags of all reports.
-/
namespace Go.Proofs.YtlilahgndpdkfaaDoor
open Go Go.Abs

theorem allR_split {l : List Rep} {i : Nat} (hi : i < l.length) : (allR l 0).length = (allR (l.take i) 0).length + (l[i].rd.length + (allR (l.drop (i + 1)) (0 + (l.take (i + 1)).length)).length) := by
  have : allR l 0 = allR (l.take (i + 1)) 0 ++ allR (l.drop (i + 1)) (0 + (l.take (i + 1)).length) := by rw [← allR_append, List.take_append_drop]
  rw [this, allR_take hi]
  simp only [List.length_append, entR, List.length_map]
  omega

theorem ofRep_le {i : Nat} {F : List (Int × Int)} : (ofRep i F).length ≤ F.length := List.length_filter_le _ _

set_option maxHeartbeats 2000000 in
/-- The flags of a report. -/
theorem r_loopR {l : List Rep} {t : Tok} {k : Ctl} {i : Nat} {R : List (Int × Int)} {S : Store} {a : AV} (hk : k.Fit) (hg : Abs.Good l) (hps : possP k.steps = true) (hpk : possP k.spikes = true) (hl : l.length ≤ 1000000) (hla : (allR l 0).length ≤ 1000000) (hi : i < l.length)
    (hb : ∀ n, n ≤ l[i].rd.length → (R ++ rowFlags l k i l[i] n).length ≤ 1000000) :
    iter (fun st => F18_L7 call S.length (.sl (reps l) t) (.ip (ctlC k) 0) (i64 (i : Nat)) (.ip (repR l[i]) 0) a (.sl (rds l[i].rd) .none) (i64 l[i].rd.length) (st.1.getD 0 .u) (st.1.getD 1 .u) st.2) ([.sl (flagRows R) (.own S.length), i64 0], S ++ [Ent.tail R.length 3]) =
      some (.exit 12, [.sl (flagRows (R ++ rowFlags l k i l[i] l[i].rd.length)) (.own S.length)], S ++ [Ent.tail (R ++ rowFlags l k i l[i] l[i].rd.length).length 3]) := by
  have key := iter_run (step := fun st => F18_L7 call S.length (.sl (reps l) t) (.ip (ctlC k) 0) (i64 (i : Nat)) (.ip (repR l[i]) 0) a (.sl (rds l[i].rd) .none) (i64 l[i].rd.length) (st.1.getD 0 .u) (st.1.getD 1 .u) st.2)
    (fun n => ([.sl (flagRows (R ++ rowFlags l k i l[i] n)) (.own S.length), i64 (n : Nat)], S ++ [Ent.tail (R ++ rowFlags l k i l[i] n).length 3])) (r := (.exit 12, [.sl (flagRows (R ++ rowFlags l k i l[i] l[i].rd.length)) (.own S.length)], S ++ [Ent.tail (R ++ rowFlags l k i l[i] l[i].rd.length).length 3])) l[i].rd.length 0
    (fun n _ hn => by
      have hn : n < l[i].rd.length := by omega
      have hlt : (n : Int) < (l[i].rd.length : Int) := by omega
      have hsp := allR_split hi
      have w1 : IntKind.i64.wrap ((n : Int) + 1) = (n : Int) + 1 := wrap_in (by unfold In64; omega)
      have hv := (validP_zero (hg.valid l[i] (List.getElem_mem hi))).1 l[i].rd[n] (List.getElem_mem hn)
      obtain ⟨c1, c2, _, _⟩ := checkP_zero hv
      have h1 : indexAV 2 none (.sl (rds l[i].rd) .none) (.int .i64 (n : Int)) = some (.ip [i64 l[i].rd[n].1, i64 l[i].rd[n].2] 0) := by simp [indexAV, at_rds hn]
      obtain ⟨g1, g2, g3, g4⟩ := ctl_get hk c1 c2
      have hx : (l[i].name, l[i].rd[n].1) ∈ seenK ((allR l 0).map (·.1)) := by
        rw [mem_seenK]
        exact List.mem_map.2 ⟨_, mem_allR.2 ⟨i, l[i], l[i].rd[n], List.getElem?_eq_getElem hi, List.getElem_mem hn, rfl⟩, rfl⟩
      have hlp := lineP_length l (l[i].name, l[i].rd[n].1)
      have hL1 : 1 ≤ (lineP l (l[i].name, l[i].rd[n].1)).length := by rw [hlp]; exact List.length_pos_iff.2 (ptsOf_ne hx)
      have hLl : (lineP l (l[i].name, l[i].rd[n].1)).length ≤ 1000000 := by have := ptsOf_le (allR l 0) (l[i].name, l[i].rd[n].1); omega
      have hsucc := rowFlags_succ (l := l) (k := k) (i := i) (r := l[i]) hn
      have hbn := hb n (by omega)
      have hbs := hb (n + 1) (by omega)
      rw [hsucc, ← List.append_assoc] at hbs
      rw [hsucc, ← List.append_assoc]
      generalize R ++ rowFlags l k i l[i] n = X at hbn hbs ⊢
      obtain ⟨tk, hline⟩ := r_line (t := t) (x := (l[i].name, l[i].rd[n].1)) hg hl hla (S ++ [Ent.tail X.length 3])
      have hst : stepOf k l[i].rd[n].1 ≤ 10000 := by
        unfold stepOf
        rw [List.getD_eq_getElem?_getD, List.getElem?_eq_getElem (by rw [hk.steps]; omega)]
        exact (possP_get hps (List.getElem_mem _)).2
      have hsk : spikeOf k l[i].rd[n].1 ≤ 10000 := by
        unfold spikeOf
        rw [List.getD_eq_getElem?_getD, List.getElem?_eq_getElem (by rw [hk.spikes]; omega)]
        exact (possP_get hpk (List.getElem_mem _)).2
      have hrej := r_rejected (t := tk) (s := stepOf k l[i].rd[n].1) (p := spikeOf k l[i].rd[n].1) (fun q hq => (hg.line hq).1) (sortT_strict (hg.times _)) hL1 hLl hst hsk (S ++ [Ent.tail X.length 3])
      have hloop := r_loopF (L := lineP l (l[i].name, l[i].rd[n].1)) (s := stepOf k l[i].rd[n].1) (p := spikeOf k l[i].rd[n].1) (c := l[i].rd[n].1) (i := i) (tl := tk) (tb := .none) (R := X) (S := S) (a := i64 (n : Nat)) (b := i64 l[i].rd[n].2) hLl hbn
      have hkf : flagsOf (lineP l (l[i].name, l[i].rd[n].1)) (stepOf k l[i].rd[n].1) (spikeOf k l[i].rd[n].1) l[i].rd[n].1 (lineP l (l[i].name, l[i].rd[n].1)).length = keyFlags l k (l[i].name, l[i].rd[n].1) := rfl
      rw [hkf] at hloop
      generalize hY : X ++ ofRep i (keyFlags l k (l[i].name, l[i].rd[n].1)) = Y at hbs hloop ⊢
      have hnx : nextS S.length (S ++ [Ent.tail X.length 3]).length [.sl (flagRows Y) (.own S.length), .int .i64 ((n : Int) + 1)] (S ++ [Ent.tail Y.length 3]) = some ([.sl (flagRows Y) (.own S.length), .int .i64 ((n : Int) + 1)], S ++ [Ent.tail Y.length 3]) := nextS_eq (by simp)
      simp only [List.getD_cons_zero, List.getD_cons_succ]
      unfold F18_L7
      simp only []
      refine bind_of (by simp [hlt] <;> rfl) ?_
      refine cond_t rfl ?_
      refine bind_of (by exact h1) ?_
      refine bind_of (by simp [loadV_ip] <;> rfl) ?_
      refine bind_of (by simp <;> rfl) ?_
      refine ite_of (by rfl) ?_
      refine bind_of (by rfl) ?_
      refine bind_of (by rfl) ?_
      refine bind_of (by rfl) ?_
      refine bind_of (by rfl) ?_
      refine bind_of (by rfl) ?_
      refine bind_of (by exact hline) ?_
      refine bind_of (by rfl) ?_
      refine bind_of (by rfl) ?_
      refine bind_of (by rfl) ?_
      refine bind_of (by exact g1) ?_
      refine bind_of (by exact g2) ?_
      refine bind_of (by rfl) ?_
      refine bind_of (by rfl) ?_
      refine bind_of (by rfl) ?_
      refine bind_of (by exact g3) ?_
      refine bind_of (by exact g4) ?_
      refine bind_of (by rfl) ?_
      refine bind_of (by exact hrej) ?_
      refine bind_of (by rfl) ?_
      refine bind_of (by
        simp only [pts_length]
        exact hloop) ?_
      simp only [exK_exit, Nat.beq_refl, cond_true]
      refine bind_of (by simp [w1] <;> rfl) ?_
      refine bind_of (by exact hnx) ?_
      rfl)
    (by
      simp only [Nat.zero_add]
      simp [F18_L7])
  have e0 : rowFlags l k i l[i] 0 = [] := rfl
  rw [e0, List.append_nil] at key
  exact key

end Go.Proofs.YtlilahgndpdkfaaDoor

/-
  What the timeline's reference answers.
-/
namespace Go.Proofs.YtlilahgndpdkfaaDoor
open Go Go.Abs

theorem refFlags_mono {l : List Rep} {k : Ctl} : ∀ {m n : Nat}, m ≤ n → (refFlags l k m).length ≤ (refFlags l k n).length := fun {m n} h => by
  induction n with
  | zero => obtain rfl : m = 0 := by omega
            exact Nat.le_refl _
  | succ n ih =>
    by_cases e : m = n + 1
    · subst e; exact Nat.le_refl _
    · refine Nat.le_trans (ih (by omega)) ?_
      unfold refFlags
      rw [List.range_succ, List.flatMap_append, List.length_append]
      omega

theorem rowFlags_mono {l : List Rep} {k : Ctl} {i : Nat} {r : Rep} {n : Nat} (h : n ≤ r.rd.length) : (rowFlags l k i r n).length ≤ (rowFlags l k i r r.rd.length).length := by
  unfold rowFlags
  have : r.rd.take r.rd.length = r.rd.take n ++ (r.rd.take r.rd.length).drop n := by
    conv => lhs; rw [← List.take_append_drop n (r.rd.take r.rd.length)]
    rw [List.take_take, Nat.min_eq_left h]
  rw [this, List.flatMap_append, List.length_append]
  omega

set_option maxHeartbeats 2000000 in
theorem r_loopA {l : List Rep} {t : Tok} {k : Ctl} {S : Store} (hk : k.Fit) (hg : Abs.Good l) (hps : possP k.steps = true) (hpk : possP k.spikes = true) (hl : l.length ≤ 1000000) (hla : (allR l 0).length ≤ 1000000) (hB : (refFlags l k l.length).length ≤ 1000000) :
    iter (fun st => F18_L6 call S.length (.sl (reps l) t) (.ip (ctlC k) 0) (.sl (reps l) t) (i64 l.length) (st.1.getD 0 .u) (st.1.getD 1 .u) st.2) ([.sl [] (.own S.length), i64 0], S ++ [Ent.tail 0 3]) =
      some (.exit 10, [.sl (flagRows (refFlags l k l.length)) (.own S.length)], S ++ [Ent.tail (refFlags l k l.length).length 3]) := by
  have key := iter_run (step := fun st => F18_L6 call S.length (.sl (reps l) t) (.ip (ctlC k) 0) (.sl (reps l) t) (i64 l.length) (st.1.getD 0 .u) (st.1.getD 1 .u) st.2)
    (fun i => ([.sl (flagRows (refFlags l k i)) (.own S.length), i64 (i : Nat)], S ++ [Ent.tail (refFlags l k i).length 3])) (r := (.exit 10, [.sl (flagRows (refFlags l k l.length)) (.own S.length)], S ++ [Ent.tail (refFlags l k l.length).length 3])) l.length 0
    (fun i _ hi => by
      have hi : i < l.length := by omega
      have hlt : (i : Int) < (l.length : Int) := by omega
      have w1 : IntKind.i64.wrap ((i : Int) + 1) = (i : Int) + 1 := wrap_in (by unfold In64; omega)
      have h1 : indexAV 8 none (.sl (reps l) t) (.int .i64 (i : Int)) = some (.ip (repR l[i]) 0) := by simp [indexAV, at_reps hi]
      have hsucc := refFlags_succ (k := k) hi
      have hloop := r_loopR (t := t) (k := k) (R := refFlags l k i) (S := S) (a := i64 (i : Nat)) hk hg hps hpk hl hla hi (fun n hn => by
        have e1 := rowFlags_mono (l := l) (k := k) (i := i) hn
        have e2 := refFlags_mono (l := l) (k := k) (m := i + 1) (n := l.length) (by omega)
        rw [hsucc, List.length_append] at e2
        rw [List.length_append]
        omega)
      rw [← hsucc] at hloop
      rw [hsucc] at hloop ⊢
      rw [← hsucc] at hloop ⊢
      generalize refFlags l k i = X at hloop ⊢
      generalize refFlags l k (i + 1) = Y at hloop ⊢
      have hnx : nextS S.length (S ++ [Ent.tail X.length 3]).length [.sl (flagRows Y) (.own S.length), .int .i64 ((i : Int) + 1)] (S ++ [Ent.tail Y.length 3]) = some ([.sl (flagRows Y) (.own S.length), .int .i64 ((i : Int) + 1)], S ++ [Ent.tail Y.length 3]) := nextS_eq (by simp)
      simp only [List.getD_cons_zero, List.getD_cons_succ]
      unfold F18_L6
      simp only []
      refine bind_of (by simp [hlt] <;> rfl) ?_
      refine cond_t rfl ?_
      refine bind_of (by exact h1) ?_
      refine bind_of (a := .agg (repR l[i])) (by simp [repR]) ?_
      refine bind_of (by exact imms_repR) ?_
      refine ite_of (by rfl) ?_
      refine bind_of (by rfl) ?_
      refine bind_of (by rfl) ?_
      refine bind_of (by rfl) ?_
      refine bind_of (by first | exact hloop | (simp only [rds_length]; exact hloop)) ?_
      simp only [exK_exit, Nat.beq_refl, cond_true]
      refine bind_of (by simp [w1] <;> rfl) ?_
      refine bind_of (by exact hnx) ?_
      rfl)
    (by
      simp only [Nat.zero_add]
      simp [F18_L6])
  exact key

theorem r_CheckOK {l : List Rep} {t : Tok} {k : Ctl} (hk : k.Fit) (hl : l.length ≤ 1000000) (hr : ∀ r ∈ l, r.rd.length ≤ 1000000) (hla : (allR l 0).length ≤ 1000000) (hB : (refFlags l k l.length).length ≤ 1000000) (he : examP l k = 0) (S : Store) :
    call 18 [.sl (reps l) t, .agg (ctlC k)] S = some (.tup [.sl (flagRows (refFlags l k l.length)) .none, i64 0], S) := by
  obtain ⟨hg, hps, hpk⟩ := examP_zero he
  rw [k18]
  unfold F18
  have himm : imms (ctlC k) = some (ctlC k) := by
    have := imms_i64s (k.hops :: (k.steps ++ k.spikes ++ k.rest))
    simpa [ctlC] using this
  have e1 := r_loopP hk (.sl (reps l) t) S
  have e2 := r_loopV (t := t) hl hr (.ip (ctlC k) 0) S
  have e3 := r_loopT (t := t) hl (.ip (ctlC k) 0) S
  have e4 := r_loopD (t := t) hl (.ip (ctlC k) 0) S
  have e5 := r_loopA (t := t) (S := S) hk hg hps hpk hl hla hB
  rw [hps, hpk] at e1
  rw [firstP_zero.2 hg.valid] at e2
  rw [if_pos (List.all_eq_true.2 fun r h => by have := hg.time r h; simpa [inP] using this)] at e3
  rw [if_neg (by simpa [twiceP] using hg.once)] at e4
  refine bind_of (by simp [himm] <;> rfl) ?_
  refine bind_of (by exact e1) ?_
  simp only [Bool.and_self, if_true, exK_exit, Nat.beq_refl, cond_true]
  refine bind_of (by simp <;> rfl) ?_
  refine bind_of (by first | exact e2 | (simp only [reps_length]; exact e2)) ?_
  simp only [if_true, exK_exit, Nat.beq_refl, cond_true]
  refine bind_of (by simp <;> rfl) ?_
  refine bind_of (by first | exact e3 | (simp only [reps_length]; exact e3)) ?_
  simp only [exK_exit, Nat.beq_refl, cond_true]
  refine bind_of (by simp <;> rfl) ?_
  refine bind_of (by exact e4) ?_
  simp only [exK_exit, Nat.beq_refl, cond_true]
  refine bind_of (by rfl) ?_
  refine bind_of (by simp <;> rfl) ?_
  refine bind_of (by exact e5) ?_
  simp only [exK_exit, Nat.beq_refl, cond_true, List.getD_cons_zero]
  have hb : Nat.blt S.length S.length = false := blt_false (Nat.le_refl _)
  rw [finish_eq (vs' := [.sl (flagRows (refFlags l k l.length)) .none, i64 0]) (by simp only [fins, fin1, hb, cond_false, Option.bind_some]) (by simp [belows, below])]
  simp

theorem r_CheckErr {l : List Rep} {t : Tok} {k : Ctl} (hk : k.Fit) (hl : l.length ≤ 1000000) (hr : ∀ r ∈ l, r.rd.length ≤ 1000000) (he : examP l k ≠ 0) (S : Store) :
    call 18 [.sl (reps l) t, .agg (ctlC k)] S = some (.tup [.sl [] .full, i64 (examP l k)], S) := by
  rw [k18]
  unfold F18
  have himm : imms (ctlC k) = some (ctlC k) := by
    have := imms_i64s (k.hops :: (k.steps ++ k.spikes ++ k.rest))
    simpa [ctlC] using this
  have e1 := r_loopP hk (.sl (reps l) t) S
  have e2 := r_loopV (t := t) hl hr (.ip (ctlC k) 0) S
  have e3 := r_loopT (t := t) hl (.ip (ctlC k) 0) S
  have e4 := r_loopD (t := t) hl (.ip (ctlC k) 0) S
  unfold examP at he ⊢
  refine bind_of (by simp [himm] <;> rfl) ?_
  refine bind_of (by exact e1) ?_
  by_cases hp : (possP k.steps && possP k.spikes) = true
  · rw [if_pos hp] at he ⊢
    simp only [hp, if_true, exK_exit, Nat.beq_refl, cond_true]
    refine bind_of (by simp <;> rfl) ?_
    refine bind_of (by first | exact e2 | (simp only [reps_length]; exact e2)) ?_
    by_cases hf : firstP l = 0
    · rw [if_pos hf] at he ⊢
      simp only [hf, if_true, exK_exit, Nat.beq_refl, cond_true]
      refine bind_of (by simp <;> rfl) ?_
      refine bind_of (by first | exact e3 | (simp only [reps_length]; exact e3)) ?_
      by_cases ht : (l.all fun r => inP r.time) = true
      · rw [if_pos ht] at he ⊢
        simp only [ht, if_true, exK_exit, Nat.beq_refl, cond_true]
        refine bind_of (by simp <;> rfl) ?_
        refine bind_of (by exact e4) ?_
        by_cases hd : twiceP l = true
        · rw [if_pos hd]
          simp only [hd, if_true, exK_ret]
          simp [finish]
        · rw [if_neg hd] at he
          exact absurd rfl he
      · rw [if_neg ht]
        simp only [ht, if_false, exK_ret, Bool.false_eq_true]
        simp [finish]
    · rw [if_neg hf]
      simp only [hf, if_false, exK_ret]
      simp [finish]
  · rw [if_neg hp]
    simp only [hp, if_false, exK_ret, Bool.false_eq_true]
    simp [finish]

end Go.Proofs.YtlilahgndpdkfaaDoor

/-
  Check and its reference answer the same.
-/
namespace Go.Proofs.YtlilahgndpdkfaaDoor
open Go Go.Abs

def flagsP (l : List Rep) (k : Ctl) : List (Int × Int) := if examP l k = 0 then refFlags l k l.length else []

theorem refFlags_length {l : List Rep} {k : Ctl} (h : Abs.Good l) : (refFlags l k l.length).length ≤ (allR l 0).length := by
  rw [(refFlags_perm h).length_eq]
  have h1 := seen_flags_le (d := allR l 0) (seenK ((allR l 0).map (·.1))) (seenK_nodup _)
  refine Nat.le_trans ?_ h1
  generalize seenK ((allR l 0).map (·.1)) = K
  induction K with
  | nil => simp
  | cons x K ih =>
    simp only [List.flatMap_cons, List.length_append, List.map_cons, List.sum_cons]
    have := keyFlags_le (l := l) (k := k) (x := x)
    omega

/-- Few reports with few readings. -/
structure Few (l : List Rep) : Prop where
  len : l.length ≤ 1000
  rd : ∀ r ∈ l, r.rd.length ≤ 1000

theorem Few.all {l : List Rep} (h : Few l) : (allR l 0).length ≤ 1000000 := by
  have := allR_length_le l 0 h.rd
  have := Nat.mul_le_mul_right 1000 h.len
  omega

theorem s_Check {l : List Rep} {t : Tok} {k : Ctl} (hk : k.Fit) (hf : Few l) (S : Store) : ∃ u, call 17 [.sl (reps l) t, .agg (ctlC k)] S = some (.tup [.sl (flagRows (flagsP l k)) u, i64 (examP l k)], S) := by
  have hl := hf.len
  by_cases he : examP l k = 0
  · have hg := (examP_zero he).1
    have := s_CheckOK (t := t) hk (by omega) hf.all he (refFlags_sorted hg) (refFlags_perm hg) S
    refine ⟨if flagRows (refFlags l k l.length) = [] then .full else .none, ?_⟩
    rw [this, he]
    unfold flagsP
    rw [if_pos he]
  · have := s_CheckErr (t := t) hk (by omega) (fun r hr => Nat.le_trans (hf.rd r hr) (by omega)) he S
    refine ⟨.full, ?_⟩
    rw [this]
    unfold flagsP
    rw [if_neg he]
    rfl

theorem r_Check {l : List Rep} {t : Tok} {k : Ctl} (hk : k.Fit) (hf : Few l) (S : Store) : ∃ u, call 18 [.sl (reps l) t, .agg (ctlC k)] S = some (.tup [.sl (flagRows (flagsP l k)) u, i64 (examP l k)], S) := by
  have hl := hf.len
  by_cases he : examP l k = 0
  · have hg := (examP_zero he).1
    have h1 := refFlags_length (k := k) hg
    have h2 := hf.all
    have := r_CheckOK (t := t) hk (by omega) (fun r hr => Nat.le_trans (hf.rd r hr) (by omega)) hf.all (by omega) he S
    refine ⟨.none, ?_⟩
    rw [this, he]
    unfold flagsP
    rw [if_pos he]
  · have := r_CheckErr (t := t) hk (by omega) (fun r hr => Nat.le_trans (hf.rd r hr) (by omega)) he S
    refine ⟨.full, ?_⟩
    rw [this]
    unfold flagsP
    rw [if_neg he]
    rfl

end Go.Proofs.YtlilahgndpdkfaaDoor

/-
  The sanity check of the laws: the examples of the chapter.
-/
namespace Go.Proofs.YtlilahgndpdkfaaDoor
open Go Go.Abs

def threeR (a t : Int) : Rep := ⟨1, nALPHA, t, 0, 0, 0, 0, [(1, a)]⟩
def threeL (a b c : Int) : List Rep := [threeR a 0, threeR b 60, threeR c 120]

theorem s_three (a b c : Int) (S : Store) : call 27 [i64 a, i64 b, i64 c] S = some (.sl (reps (threeL a b c)) .none, S) := by
  rw [k27]
  unfold F27
  have ow : ownV 8 (.sl [] .full) S = some (.sl [] (.own S.length), S ++ [.tail 0 8]) := rfl
  have hb : Nat.blt S.length S.length = false := blt_false (Nat.le_refl _)
  have key := iter_run (step := fun s => F27_L1 call S.length (.sl [[i64 a], [i64 b], [i64 c]] .full) (i64 3) (s.1.getD 0 .u) (s.1.getD 1 .u) s.2) (fun k => ([.sl (reps ((threeL a b c).take k)) (.own S.length), i64 (k : Nat)], S ++ [.tail k 8])) (r := (Ex.exit 0, [.sl (reps (threeL a b c)) (.own S.length)], S ++ [.tail 3 8])) 3 0
    (fun k _ hk => by
      have nx : ∀ vs, nextS S.length (S.length + 1) vs (S ++ [.tail (k + 1) 8]) = some (vs, S ++ [.tail (k + 1) 8]) := fun vs => nextS_eq (by simp)
      have hl : (S ++ [Ent.tail k 8]).length = S.length + 1 := by simp
      have ap : ∀ (r : Rep), (threeL a b c).take k ++ [r] = (threeL a b c).take (k + 1) → appendV 8 (.sl (reps ((threeL a b c).take k)) (.own S.length)) (.sl [repR r] .full) (S ++ [.tail k 8]) = some (.sl (reps ((threeL a b c).take (k + 1))) (.own S.length), S ++ [.tail (k + 1) 8]) := fun r hr => by
        have hg : (S ++ [Ent.tail k 8])[S.length]? = some (.tail k 8) := Ap.get (k := 0)
        have hi : immRows 8 [repR r] = some [repR r] := by simp [immRows]
        simp only [appendV, rowsOf_sl, Option.bind_some, hi, hg]
        have hk3 : ((threeL a b c).take k).length = k := by simp [threeL]; omega
        rw [if_pos (by simp [room, hk3]; omega), if_pos ⟨by simp [hk3], trivial⟩, List.set_append_right _ _ (Nat.le_refl _), ← hr]
        simp [reps]
      unfold F27_L1
      simp only [hl]
      obtain rfl | rfl | rfl : k = 0 ∨ k = 1 ∨ k = 2 := by omega
      · have ap' := ap (threeR a 0) rfl
        simp only [repR, threeR, nALPHA, rds, List.map_cons, List.map_nil] at ap'
        simp only [Nat.zero_add, Nat.reduceAdd] at *
        generalize reps (List.take 0 (threeL a b c)) = A at *
        generalize reps (List.take 1 (threeL a b c)) = B at *
        repeat (first
          | rfl
          | refine cond_t (by rfl) ?_
          | refine cond_f (by rfl) ?_
          | refine ite_of (by first | rfl | assumption) ?_
          | refine bind_of (by simp [-loadV, -storeV, -Int.natCast_add, loadV_ip, indexAV, at?, ap', nx, ownV] <;> rfl) ?_)
      · have ap' := ap (threeR b 60) rfl
        simp only [repR, threeR, nALPHA, rds, List.map_cons, List.map_nil] at ap'
        simp only [Nat.zero_add, Nat.reduceAdd] at *
        generalize reps (List.take 1 (threeL a b c)) = A at *
        generalize reps (List.take 2 (threeL a b c)) = B at *
        repeat (first
          | rfl
          | refine cond_t (by rfl) ?_
          | refine cond_f (by rfl) ?_
          | refine ite_of (by first | rfl | assumption) ?_
          | refine bind_of (by simp [-loadV, -storeV, -Int.natCast_add, loadV_ip, indexAV, at?, ap', nx, ownV] <;> rfl) ?_)
      · have ap' := ap (threeR c 120) rfl
        simp only [repR, threeR, nALPHA, rds, List.map_cons, List.map_nil] at ap'
        simp only [Nat.zero_add, Nat.reduceAdd] at *
        generalize reps (List.take 2 (threeL a b c)) = A at *
        generalize reps (List.take 3 (threeL a b c)) = B at *
        repeat (first
          | rfl
          | refine cond_t (by rfl) ?_
          | refine cond_f (by rfl) ?_
          | refine ite_of (by first | rfl | assumption) ?_
          | refine bind_of (by simp [-loadV, -storeV, -Int.natCast_add, loadV_ip, indexAV, at?, ap', nx, ownV] <;> rfl) ?_))
    (by simp [F27_L1]; rfl)
  refine bind_of ow ?_
  refine bind_of (a := .sl [[i64 a], [i64 b], [i64 c]] .full) rfl (bind_of (a := i64 3) rfl ?_)
  refine bind_of key ?_
  simp [finish, hb]

def awK : Ctl := ⟨0, [0, 10, 0, 0, 0, 0, 0, 0, 0, 0, 0, 0], List.replicate 12 0, List.replicate 16 0⟩

theorem aw1 : flagsP (threeL 10000 10100 10001) awK = [(1, 1)] ∧ examP (threeL 10000 10100 10001) awK = 0 := by decide
theorem aw2 : flagsP (threeL 10000 10100 10101) awK = [] ∧ examP (threeL 10000 10100 10101) awK = 0 := by decide

theorem few_three (a b c : Int) : Few (threeL a b c) := ⟨by simp [threeL], fun r hr => by
  simp only [threeL, List.mem_cons, List.not_mem_nil, or_false] at hr
  rcases hr with rfl | rfl | rfl <;> simp [threeR]⟩

theorem s_awake (S : Store) : call 10 [] S = some (.bool true, S) := by
  rw [k10]
  unfold F10
  have hf : awK.Fit := ⟨rfl, rfl, rfl⟩
  obtain ⟨u1, c1⟩ := s_Check (t := .none) hf (few_three 10000 10100 10001) (S ++ [.obj (ctlC awK)])
  obtain ⟨u2, c2⟩ := s_Check (t := .none) hf (few_three 10000 10100 10101) (S ++ [.obj (ctlC awK)])
  rw [aw1.1, aw1.2] at c1
  rw [aw2.1, aw2.2] at c2
  have fl := r_Flags (a := [(1, 1)]) (b := [(1, 1)]) (t := u1) (u := .full) (by simp) (S ++ [.obj (ctlC awK)])
  have t1 := s_three 10000 10100 10001 (S ++ [.obj (ctlC awK)])
  have t2 := s_three 10000 10100 10101 (S ++ [.obj (ctlC awK)])
  have l1 := Ap.loadA0 (S := S) (es := [.obj (ctlC awK)]) (cs := ctlC awK) (n := 41) rfl rfl
  have st := Ap.store0 (S := S) (es := [.obj (List.replicate 41 (i64 0))]) (o := 2) (n := 1) (v := i64 10) (vs := [i64 10]) rfl rfl rfl (by simp)
  have hc : imms (ctlC awK) = some (ctlC awK) := imms_ctl awK
  have hst : storeV S.length 1 (.ptr S.length 2) (.int .i64 10) (S ++ [.obj (List.replicate 41 (i64 0))]) = some (S ++ [.obj (ctlC awK)]) := st
  dsimp only
  refine bind_of (a := .ptr S.length 1) rfl (bind_of (a := .ptr S.length 2) rfl (bind_of hst ?_))
  simp only [flagRows, flagR, List.map_cons, List.map_nil] at c1 c2 fl
  generalize ctlC awK = K at *
  generalize reps (threeL 10000 10100 10001) = A at *
  generalize reps (threeL 10000 10100 10101) = B at *
  repeat (first
    | rfl
    | refine cond_t (by rfl) ?_
    | refine cond_f (by rfl) ?_
    | refine ite_of (by first | rfl | assumption) ?_
    | refine bind_of (by simp [-loadV, -storeV, -Int.natCast_add, loadV_ip, t1, t2, l1, hc, c1, c2, fl] <;> rfl) ?_)
  simp

end Go.Proofs.YtlilahgndpdkfaaDoor
