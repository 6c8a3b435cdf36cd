/-
  Texts of this claim: TlSteps.
-/
import Derived.Test.YtlilahgndpdkfaaDoorOwn9
import Derived.Test.YtlilahgndpdkfaaDoorOwn14
import Derived.Test.YtlilahgndpdkfaaDoorOwn15
set_option linter.all false
/-
  What timeline's steps answers.
-/
namespace Go.Proofs.YtlilahgndpdkfaaDoor
open Go Go.Abs

/-- What is rejected of those ahead of k. -/
def markP (l : List Pt) (s : Int) (k : Nat) : List Bool := (List.range l.length).map fun j => decide (j < k) && stepP l s j

@[simp] theorem markP_length {l : List Pt} {s : Int} {k : Nat} : (markP l s k).length = l.length := by simp [markP]

theorem markP_one (l : List Pt) (s : Int) : List.replicate l.length false = markP l s 1 := by
  apply List.ext_getElem (by simp)
  intro j h1 h2
  simp only [markP, List.getElem_replicate, List.getElem_map, List.getElem_range]
  by_cases h : j < 1
  · obtain rfl : j = 0 := by omega
    simp [stepP_zero]
  · simp [h]

theorem markP_good {l : List Pt} {s : Int} {k : Nat} (h : stepP l s k = false) : markP l s (k + 1) = markP l s k := by
  apply List.ext_getElem (by simp)
  intro j h1 h2
  simp only [markP, List.getElem_map, List.getElem_range]
  by_cases hj : j = k
  · subst hj; simp [h]
  · have : (j < k + 1) = (j < k) := by simp; omega
    simp [this]

theorem markP_bad {l : List Pt} {s : Int} {k : Nat} (hk : k < l.length) (h : stepP l s k = true) : (markP l s k).set k true = markP l s (k + 1) := by
  apply List.ext_getElem (by simp)
  intro j h1 h2
  by_cases hj : k = j
  · subst hj
    simp only [List.getElem_set_self, markP, List.getElem_map, List.getElem_range]
    simp [h]
  · rw [List.getElem_set_ne hj]
    simp only [markP, List.getElem_map, List.getElem_range]
    have : (j < k + 1) = (j < k) := by simp; omega
    simp [this]

theorem goodP_succ {l : List Pt} {s : Int} {k : Nat} (h1 : 1 ≤ k) : goodP l s k = if okP l s (goodP l s (k - 1)) k = true then k else goodP l s (k - 1) := by
  obtain ⟨j, rfl⟩ : ∃ j, k = j + 1 := ⟨k - 1, by omega⟩
  rfl

theorem stepP_ok {l : List Pt} {s : Int} {k : Nat} (h1 : 1 ≤ k) : stepP l s k = !okP l s (goodP l s (k - 1)) k := by
  have h2 := goodP_le l s (k - 1)
  unfold stepP
  rw [goodP_succ h1]
  cases okP l s (goodP l s (k - 1)) k with
  | true => simp
  | false =>
    simp only [Bool.false_eq_true, if_false, Bool.not_false, Bool.not_eq_true', beq_eq_false_iff_ne]
    omega

theorem getD_pt {l : List Pt} {k : Nat} (h : k < l.length) : l.getD k ⟨0, 0, 0⟩ = l[k] := by
  rw [List.getD_eq_getElem?_getD, List.getElem?_eq_getElem h]; rfl

theorem map_bool_set (l : List Bool) (k : Nat) (b : Bool) : (l.map AV.bool).set k (.bool b) = (l.set k b).map .bool := by
  rw [List.map_set]

set_option maxHeartbeats 4000000 in
theorem s_steps {l : List Pt} {j : Nat} {s : Int} {S : Store} (hl : ∀ p ∈ l, p.Ok) (h1 : 1 ≤ l.length) (h2 : l.length ≤ 1000000) (h3 : 0 ≤ s) (h4 : s ≤ 10000) (hS : S[j]? = some (.obj (pts l).flatten)) :
    call 35 [.osl j 0 l.length 3, i64 s] S = some (.sl (bools (markP l s l.length)) .none, S) := by
  rw [k35]
  unfold F35
  have hw : ∀ x ∈ pts l, x.length = 3 := fun x hx => (pts_row x hx).1
  have hjl : j < S.length := (List.getElem?_eq_some_iff.1 hS).1
  have hi : ∀ (q : Nat), q < l.length → indexAV 3 none (.osl j 0 l.length 3) (.int .i64 (q : Int)) = some (.ptr j (q * 3)) := fun q hq => by
    simp only [indexAV]
    rw [if_pos ⟨by omega, by omega, by trivial⟩]
    simp
  have hld : ∀ (es : Store) (q : Nat) (hq : q < l.length), loadV (some 3) (.ptr j (q * 3)) (S ++ es) = some (.agg (ptR l[q])) := fun es q hq => by
    obtain ⟨q1, q2⟩ := row_at hw q (by simpa using hq)
    have : (S ++ es)[j]? = some (.obj (pts l).flatten) := by rw [List.getElem?_append_left hjl]; exact hS
    simp only [loadV, this, takeC]
    rw [if_pos q2, q1]
    simp [pts]
  have hok : ∀ (k : Nat) (h : k < l.length), (l[k]).Ok := fun k h => hl _ (List.getElem_mem h)
  have hb : Nat.blt S.length S.length = false := blt_false (Nat.le_refl _)
  have key := iter_run (step := fun st => F35_L1 call S.length (.osl j 0 l.length 3) (i64 s) (.osl S.length 0 l.length 1) (st.1.getD 0 .u) (st.1.getD 1 .u) st.2)
    (fun k => ([i64 (goodP l s (k - 1) : Nat), i64 (k : Nat)], S ++ [.obj ((markP l s k).map .bool)])) (r := (Ex.exit 0, [], S ++ [.obj ((markP l s l.length).map .bool)])) (l.length - 1) 1
    (fun k k1 k2 => by
      have hk : k < l.length := by omega
      have hg := goodP_le l s (k - 1)
      have hgl : goodP l s (k - 1) < l.length := by omega
      have hlt : (k : Int) < (l.length : Int) := by omega
      have w1 : IntKind.i64.wrap ((k : Int) + 1) = ((k + 1 : Nat) : Int) := wrap_in (by unfold In64; omega)
      have s1 := s_slow (s := s) (hok _ hgl) (hok _ hk) h3 h4 (S ++ [.obj ((markP l s k).map .bool)])
      have hst := stepP_ok (l := l) (s := s) k1
      have hgs := goodP_succ (l := l) (s := s) k1
      have jy : okP l s (goodP l s (k - 1)) k = true → F35_J1 call S.length (S ++ [Ent.obj ((markP l s k).map .bool)]).length (i64 (k : Int)) (i64 (k : Int)) (S ++ [.obj ((markP l s k).map .bool)]) = some (.inl ([i64 (goodP l s (k + 1 - 1) : Nat), i64 ((k + 1 : Nat) : Int)], S ++ [.obj ((markP l s (k + 1)).map .bool)])) := fun h => by
        unfold F35_J1
        simp only [binV, isShift, cond_false, if_true, binI, Option.bind_some, w1, nextS_same]
        rw [markP_good (by rw [hst, h]; rfl), Nat.add_sub_cancel, hgs, if_pos h]
      have jn : okP l s (goodP l s (k - 1)) k = false → F35_J1 call S.length (S ++ [Ent.obj ((markP l s k).map .bool)]).length (i64 (goodP l s (k - 1) : Nat)) (i64 (k : Int)) (S ++ [.obj ((markP l s (k + 1)).map .bool)]) = some (.inl ([i64 (goodP l s (k + 1 - 1) : Nat), i64 ((k + 1 : Nat) : Int)], S ++ [.obj ((markP l s (k + 1)).map .bool)])) := fun h => by
        unfold F35_J1
        simp only [binV, isShift, cond_false, if_true, binI, Option.bind_some, w1]
        rw [nextS_eq (by simp), Nat.add_sub_cancel, hgs, if_neg (by simp [h])]
        rfl
      have hix : indexAV 1 none (.osl S.length 0 l.length 1) (.int .i64 (k : Int)) = some (.ptr S.length k) := by
        simp only [indexAV]
        rw [if_pos ⟨by omega, by omega, by trivial⟩]
        simp
      have hset : okP l s (goodP l s (k - 1)) k = false → storeV S.length 1 (.ptr S.length k) (.bool true) (S ++ [.obj ((markP l s k).map .bool)]) = some (S ++ [.obj ((markP l s (k + 1)).map .bool)]) := fun h => by
        simp only [storeV, List.getElem?_concat_length, hb, cond_false, cellsOf, cells1, cell1, Option.bind_some, List.length_cons, List.length_nil, List.length_map, markP_length]
        rw [if_pos ⟨by trivial, by omega⟩]
        simp only [setC, map_bool_set, markP_bad hk (show stepP l s k = true by rw [hst, h]; rfl)]
        rw [List.set_append_right _ _ (Nat.le_refl _)]
        simp
      have e : okP l s (goodP l s (k - 1)) k = (slowP l[goodP l s (k - 1)] l[k] s || (decide (k + 1 < l.length) && slowP l[k] (l.getD (k + 1) ⟨0, 0, 0⟩) s)) := by unfold okP; rw [getD_pt hgl, getD_pt hk]
      have him : ∀ p : Pt, imms (ptR p) = some (ptR p) := fun p => by simp [ptR]
      cases c1 : slowP l[goodP l s (k - 1)] l[k] s with
      | true =>
        rw [c1] at s1 e
        refine Eq.trans ?_ (jy (by rw [e]; rfl))
        unfold F35_L1
        simp only [List.getD_cons_zero, List.getD_cons_succ]
        repeat (first
          | rfl
          | refine bind_of (by simp [-loadV, -Int.natCast_add, hlt, hi k hk, hi _ hgl, hld _ k hk, hld _ _ hgl, him, s1] <;> rfl) ?_
          | refine cond_t (by rfl) ?_
          | refine cond_f (by rfl) ?_)
      | false =>
        rw [c1] at s1 e
        by_cases hk1 : k + 1 < l.length
        · have hlt1 : ((k + 1 : Nat) : Int) < (l.length : Int) := by omega
          have s2 := s_slow (s := s) (hok _ hk) (hok _ hk1) h3 h4 (S ++ [.obj ((markP l s k).map .bool)])
          rw [getD_pt hk1] at e
          cases c2 : slowP l[k] l[k + 1] s with
          | true =>
            rw [c2] at s2 e
            refine Eq.trans ?_ (jy (by rw [e]; simp [hk1]))
            unfold F35_L1
            simp only [List.getD_cons_zero, List.getD_cons_succ]
            repeat (first
              | rfl
              | refine bind_of (by simp [-loadV, -Int.natCast_add, hlt, hi k hk, hi _ hgl, hi _ hk1, hld _ k hk, hld _ _ hgl, hld _ _ hk1, him, hlt1, w1, s1, s2] <;> rfl) ?_
              | refine cond_t (by rfl) ?_
              | refine cond_f (by rfl) ?_)
          | false =>
            rw [c2] at s2 e
            refine Eq.trans ?_ (jn (by rw [e]; simp))
            have hs := hset (by rw [e]; simp)
            unfold F35_L1
            simp only [List.getD_cons_zero, List.getD_cons_succ]
            repeat (first
              | rfl
              | refine bind_of (by simp [-loadV, -storeV, -Int.natCast_add, hlt, hi k hk, hi _ hgl, hi _ hk1, hld _ k hk, hld _ _ hgl, hld _ _ hk1, him, hlt1, w1, s1, s2, hix, hs] <;> rfl) ?_
              | refine cond_t (by rfl) ?_
              | refine cond_f (by rfl) ?_)
        · have hlt1 : ¬ ((k + 1 : Nat) : Int) < (l.length : Int) := by omega
          refine Eq.trans ?_ (jn (by rw [e]; simp [hk1]))
          have hs := hset (by rw [e]; simp [hk1])
          unfold F35_L1
          simp only [List.getD_cons_zero, List.getD_cons_succ]
          repeat (first
            | rfl
            | refine bind_of (by simp [-loadV, -storeV, -Int.natCast_add, hlt, hi k hk, hi _ hgl, hld _ k hk, hld _ _ hgl, him, hlt1, w1, s1, hix, hs] <;> rfl) ?_
            | refine cond_t (by rfl) ?_
            | refine cond_f (by rfl) ?_))
    (by
      have e : 1 + (l.length - 1) = l.length := by omega
      rw [e]
      simp [F35_L1])
  simp only [i64, Int.natCast_one, Nat.sub_self] at key
  have hroom : room = 4294967296 := rfl
  have hz : msliceV [.bool false] (.int .i64 l.length) (.int .i64 l.length) S = some (.osl S.length 0 l.length 1, S ++ [.obj ((markP l s 1).map .bool)]) := by
    simp only [msliceV]
    rw [if_pos ⟨by omega, by omega, by omega⟩, Int.toNat_natCast, zero_flat, markP_one]
    rfl
  have hf := fin1_flat (S := S ++ [.obj ((markP l s l.length).map .bool)]) (n := S.length) (i := S.length) (sz := 1) (xs := bools (markP l s l.length)) (Nat.le_refl _) (by rw [bools_flat]; simp) bools_row
  simp only [bools_length, markP_length] at hf
  rw [show goodP l s 0 = 0 from rfl, Int.natCast_zero] at key
  simp [-List.getD_eq_getElem?_getD, -fin1, List.getD_cons_zero, List.getD_cons_succ, lenV, hz, key, finish, hf]

end Go.Proofs.YtlilahgndpdkfaaDoor
