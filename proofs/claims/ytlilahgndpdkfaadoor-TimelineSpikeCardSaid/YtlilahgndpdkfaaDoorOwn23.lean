/-
  Texts of this claim: PureCalm.
-/
import Derived.Test.YtlilahgndpdkfaaDoorOwn21
set_option linter.all false
/-
  Readings that change slowly, in plain Lean.
-/
namespace Go.Abs
open Go

def calmR (p : Int × Int) : Rep := ⟨1, [65, 76, 80, 72, 65], p.1, 0, 0, 0, 0, [(1, p.2), (2, 2800)]⟩

/-- From one to the next: later, and by no more than n an hour. -/
def near (n : Int) (p q : Int × Int) : Prop := p.1 < q.1 ∧ max2 (p.2 - q.2) (q.2 - p.2) ≤ n * ((q.1 - p.1 + 60 - 1).tdiv 60)

def chainN (n : Int) : List (Int × Int) → Prop
  | [] => True
  | [_] => True
  | p :: q :: l => near n p q ∧ chainN n (q :: l)

theorem chainN_snoc {n : Int} {x y : Int × Int} (hxy : near n x y) : ∀ {l : List (Int × Int)}, chainN n (l ++ [x]) → chainN n (l ++ [x] ++ [y])
  | [], _ => ⟨hxy, trivial⟩
  | [p], h => ⟨h.1, hxy, trivial⟩
  | p :: q :: l, h => ⟨h.1, chainN_snoc (l := q :: l) hxy h.2⟩

theorem chainN_front {n : Int} {x : Int × Int} : ∀ {l : List (Int × Int)}, chainN n (l ++ [x]) → chainN n l
  | [], _ => trivial
  | [p], _ => trivial
  | p :: q :: l, h => ⟨h.1, chainN_front (l := q :: l) h.2⟩

theorem chainN_get {n : Int} : ∀ {l : List (Int × Int)}, chainN n l → ∀ i (h : i + 1 < l.length), near n (l[i]) (l[i + 1])
  | [], _, i, h => by simp at h
  | [_], _, i, h => by simp at h
  | p :: q :: l, hc, 0, _ => hc.1
  | p :: q :: l, hc, i + 1, h => chainN_get (l := q :: l) hc.2 i (by simpa using h)

theorem chainN_inc {n : Int} : ∀ {l : List (Int × Int)}, chainN n l → l.Pairwise fun p q => p.1 < q.1
  | [], _ => .nil
  | [_], _ => by simp
  | p :: q :: l, hc => by
    have ih := chainN_inc (l := q :: l) hc.2
    refine List.Pairwise.cons (fun r hr => ?_) ih
    have h1 := hc.1.1
    rcases List.mem_cons.1 hr with rfl | hr
    · exact h1
    · have := (List.pairwise_cons.1 ih).1 r hr; omega

/-- Pairs of a time and a value that may be. -/
structure CalmOk (n : Int) (ps : List (Int × Int)) : Prop where
  chain : chainN n ps
  mem : ∀ p ∈ ps, 0 ≤ p.1 ∧ p.1 ≤ 52595999 ∧ 8000 ≤ p.2 ∧ p.2 ≤ 11000

theorem calm_valid {v : Int} (h1 : 8000 ≤ v) (h2 : v ≤ 11000) : validP [(1, v), (2, 2800)] = 0 := by
  refine checkP_all (fun r hr => ?_) (by simp)
  simp only [List.mem_cons, List.not_mem_nil, or_false] at hr
  rcases hr with rfl | rfl
  · have e1 : lo 1 = 8000 := by decide
    have e2 : hi 1 = 11000 := by decide
    unfold checkP
    simp only [e1, e2]
    rw [if_neg (by omega), if_neg (by omega)]
  · decide

theorem calm_inc {n : Int} {ps : List (Int × Int)} (h : CalmOk n ps) : (ps.map calmR).Pairwise fun a b => a.time < b.time := by
  rw [List.pairwise_map]
  exact chainN_inc h.chain

theorem calm_good {n : Int} {ps : List (Int × Int)} (h : CalmOk n ps) : Good (ps.map calmR) := by
  refine ⟨fun r hr => ?_, fun r hr => ?_, ?_⟩
  · obtain ⟨p, hp, rfl⟩ := List.mem_map.1 hr
    exact calm_valid (h.mem p hp).2.2.1 (h.mem p hp).2.2.2
  · obtain ⟨p, hp, rfl⟩ := List.mem_map.1 hr
    exact ⟨(h.mem p hp).1, (h.mem p hp).2.1⟩
  · refine List.Pairwise.map _ (fun a b hab he => ?_) (calm_inc h)
    have := (Prod.ext_iff.1 he).2
    simp only [keyR] at this
    omega

theorem calm_few {n : Int} {ps : List (Int × Int)} (h : CalmOk n ps) (k : Ctl) (hn : 0 ≤ n) (hs1 : stepOf k 1 ≤ 0 ∨ stepOf k 1 = n) (hs2 : stepOf k 2 ≤ 0 ∨ stepOf k 2 = n) :
    (∀ c, c ≠ 1 → keyFlags (ps.map calmR) k ([65, 76, 80, 72, 65], c) = []) ∧ (spikeOf k 1 ≤ 0 → keyFlags (ps.map calmR) k ([65, 76, 80, 72, 65], 1) = []) := by
  have hg := calm_good h
  have hi := calm_inc h
  have hq : ∀ (a b : Int), a < b → 0 ≤ (b - a + 60 - 1).tdiv 60 := fun a b hab => Int.tdiv_nonneg (by omega) (by omega)
  constructor
  · intro c hc
    by_cases h2 : c = 2
    · subst h2
      have hl := linL_line (l := ps.map calmR) (κ := ([65, 76, 80, 72, 65], 2)) (val := fun _ => 2800) (fun r hr => by
        refine ⟨hg.valid r hr, ?_⟩
        obtain ⟨p, hp, rfl⟩ := List.mem_map.1 hr
        exact ⟨rfl, rfl⟩) hi
      unfold keyFlags
      rw [hl]
      refine flagsOf_none fun i hi' => ?_
      rw [linL_length] at hi'
      have hpt : ∀ j (hj : j < (ps.map calmR).length), (linL (fun _ => 2800) (ps.map calmR) 0).getD j ⟨0, 0, 0⟩ = ⟨((0 + j : Nat) : Int), ((ps.map calmR)[j]).time, 2800⟩ := fun j hj => linL_get _ _ 0 j hj
      have h1 : (decide (0 < stepOf k 2) && stepP (linL (fun _ => 2800) (ps.map calmR) 0) (stepOf k 2) i) = false := by
        rcases hs2 with hs | hs
        · have : ¬ 0 < stepOf k 2 := by omega
          simp [this]
        · rw [slow_step ?_ (by rw [linL_length]; exact hi')]
          · simp
          · intro j hj
            rw [linL_length] at hj
            rw [hpt j (by omega), hpt (j + 1) hj]
            have hlt := List.pairwise_iff_getElem.1 hi j (j + 1) (by omega) hj (by omega)
            have hq' := hq _ _ hlt
            simp only [slowP, sizeP, max2, decide_eq_true_eq]
            rw [hs]
            have := Int.mul_nonneg hn hq'
            simp only [Int.sub_self]
            rw [if_neg (by omega)]
            exact this
      unfold rejP
      rw [h1, Bool.false_or]
      unfold spkP
      by_cases hj : i + 1 < (linL (fun _ => 2800) (ps.map calmR) 0).length
      · rw [linL_length] at hj
        rw [hpt (i - 1) (by omega), hpt i hi', hpt (i + 1) hj]
        by_cases hp : 0 < spikeOf k 2
        · have : ¬ (spikeOf k 2 < 0) := by omega
          simp [spikeP, this]
        · simp [hp]
      · have : decide (i + 1 < (linL (fun _ => 2800) (ps.map calmR) 0).length) = false := by simpa using hj
        rw [this]; simp
    · unfold keyFlags
      rw [linL_none (κ := ([65, 76, 80, 72, 65], c)) (fun r hr => by
        refine ⟨hg.valid r hr, .inr ?_⟩
        obtain ⟨p, hp, rfl⟩ := List.mem_map.1 hr
        have e1 : ((1 : Int) == c) = false := by simp; omega
        have e2 : ((2 : Int) == c) = false := by simp; omega
        simp [findP, calmR, e1, e2])]
      rfl
  · intro hsp
    have hl := linL_line (l := ps.map calmR) (κ := ([65, 76, 80, 72, 65], 1)) (val := fun r => (findP r.rd 1).getD 0) (fun r hr => by
      refine ⟨hg.valid r hr, ?_⟩
      obtain ⟨p, hp, rfl⟩ := List.mem_map.1 hr
      exact ⟨rfl, rfl⟩) hi
    unfold keyFlags
    rw [hl]
    refine flagsOf_none fun i hi' => ?_
    rw [linL_length] at hi'
    unfold rejP
    rw [spk_zero _ hsp, Bool.or_false]
    rcases hs1 with hs | hs
    · have : ¬ 0 < stepOf k 1 := by omega
      simp [this]
    · rw [slow_step ?_ (by rw [linL_length]; exact hi')]
      · simp
      · intro j hj
        rw [linL_length] at hj
        rw [linL_get _ _ 0 j (by omega), linL_get _ _ 0 (j + 1) hj]
        have hj' : j + 1 < ps.length := by simpa using hj
        have hc := chainN_get h.chain j hj'
        simp only [List.getElem_map, slowP, sizeP, decide_eq_true_eq]
        rw [hs]
        exact hc.2

theorem calm_none {n : Int} {ps : List (Int × Int)} (h : CalmOk n ps) (k : Ctl) (hn : 0 ≤ n) (hs1 : stepOf k 1 ≤ 0 ∨ stepOf k 1 = n) (hs2 : stepOf k 2 ≤ 0 ∨ stepOf k 2 = n) (hsp : spikeOf k 1 ≤ 0) :
    refFlags (ps.map calmR) k (ps.map calmR).length = [] := by
  obtain ⟨h1, h2⟩ := calm_few h k hn hs1 hs2
  refine refFlags_none fun r hr c => ?_
  obtain ⟨p, hp, rfl⟩ := List.mem_map.1 hr
  by_cases hc : c = 1
  · subst hc; exact h2 hsp
  · exact h1 c hc

theorem calm_pressure {n : Int} {ps : List (Int × Int)} (h : CalmOk n ps) (k : Ctl) (hn : 0 ≤ n) (hs1 : stepOf k 1 ≤ 0 ∨ stepOf k 1 = n) (hs2 : stepOf k 2 ≤ 0 ∨ stepOf k 2 = n) :
    ∀ f ∈ refFlags (ps.map calmR) k (ps.map calmR).length, f.2 = 1 := by
  obtain ⟨h1, _⟩ := calm_few h k hn hs1 hs2
  intro f hf
  obtain ⟨i, r, e1, e2, e3⟩ := mem_refFlags'.1 hf
  obtain ⟨p, hp, rfl⟩ := List.mem_map.1 (List.mem_of_getElem? e1)
  by_cases hc : f.2 = 1
  · exact hc
  · change f ∈ keyFlags _ k ([65, 76, 80, 72, 65], f.2) at e3
    rw [h1 f.2 hc] at e3; cases e3

/-! ### One wrong reading -/

def spikeR (j : Nat) (v : Int) : Rep := ⟨1, [65, 76, 80, 72, 65], 60 * (j : Int), 0, 0, 0, 0, [(1, v)]⟩
def spikesL : List Int → Nat → List Rep
  | [], _ => []
  | v :: vs, j => spikeR j v :: spikesL vs (j + 1)

@[simp] theorem spikesL_length : ∀ (vs : List Int) (j : Nat), (spikesL vs j).length = vs.length
  | [], _ => rfl
  | v :: vs, j => by simp [spikesL, spikesL_length vs]

theorem spikesL_get : ∀ (vs : List Int) (j i : Nat) (h : i < vs.length), (spikesL vs j)[i]? = some (spikeR (j + i) vs[i])
  | [], _, _, h => by simp at h
  | v :: vs, j, 0, _ => by simp [spikesL]
  | v :: vs, j, i + 1, h => by
    have := spikesL_get vs (j + 1) i (by simpa using h)
    simp only [spikesL, List.getElem?_cons_succ, List.getElem_cons_succ]
    rw [this]
    congr 2
    omega

theorem spikesL_snoc : ∀ (vs : List Int) (j : Nat) (v : Int), spikesL (vs ++ [v]) j = spikesL vs j ++ [spikeR (j + vs.length) v]
  | [], j, v => by simp [spikesL]
  | w :: vs, j, v => by
    have := spikesL_snoc vs (j + 1) v
    simp only [List.cons_append, spikesL, this, List.length_cons]
    rw [show j + 1 + vs.length = j + (vs.length + 1) by omega]

theorem spikesL_set : ∀ (vs : List Int) (j i : Nat) (v : Int), (spikesL vs j).set i (spikeR (j + i) v) = spikesL (vs.set i v) j
  | [], _, _, _ => rfl
  | w :: vs, j, 0, v => by simp [spikesL]
  | w :: vs, j, i + 1, v => by
    have := spikesL_set vs (j + 1) i v
    simp only [spikesL, List.set_cons_succ]
    rw [← this, show j + 1 + i = j + (i + 1) by omega]

theorem mem_spikesL {vs : List Int} {r : Rep} (h : r ∈ spikesL vs 0) : ∃ i v, vs[i]? = some v ∧ r = spikeR i v := by
  obtain ⟨i, hi, rfl⟩ := List.getElem_of_mem h
  have hi' : i < vs.length := by simpa using hi
  have := spikesL_get vs 0 i hi'
  rw [List.getElem?_eq_getElem hi, Option.some.injEq] at this
  exact ⟨i, vs[i], List.getElem?_eq_getElem hi', by rw [this, Nat.zero_add]⟩

theorem spikesL_inc (vs : List Int) : (spikesL vs 0).Pairwise fun a b => a.time < b.time := by
  rw [List.pairwise_iff_getElem]
  intro i j hi hj hij
  have hi' : i < vs.length := by simpa using hi
  have hj' : j < vs.length := by simpa using hj
  have h1 := spikesL_get vs 0 i hi'
  have h2 := spikesL_get vs 0 j hj'
  rw [List.getElem?_eq_getElem hi, Option.some.injEq] at h1
  rw [List.getElem?_eq_getElem hj, Option.some.injEq] at h2
  rw [h1, h2]
  simp only [spikeR, Nat.zero_add]
  omega

theorem spikesL_good {vs : List Int} (h : ∀ v ∈ vs, 8000 ≤ v ∧ v ≤ 11000) (hl : vs.length ≤ 1000) : Good (spikesL vs 0) := by
  refine ⟨fun r hr => ?_, fun r hr => ?_, ?_⟩
  · obtain ⟨i, v, h1, rfl⟩ := mem_spikesL hr
    obtain ⟨h2, h3⟩ := h v (List.mem_of_getElem? h1)
    refine checkP_all (fun r hr => ?_) (by simp [spikeR])
    simp only [spikeR, List.mem_singleton] at hr
    subst hr
    have e1 : lo 1 = 8000 := by decide
    have e2 : hi 1 = 11000 := by decide
    unfold checkP
    simp only [e1, e2]
    rw [if_neg (by omega), if_neg (by omega)]
  · obtain ⟨i, v, h1, rfl⟩ := mem_spikesL hr
    have := (List.getElem?_eq_some_iff.1 h1).1
    simp only [spikeR]
    omega
  · refine List.Pairwise.map _ (fun a b hab he => ?_) (spikesL_inc vs)
    have := (Prod.ext_iff.1 he).2
    simp only [keyR] at this
    omega

theorem spikes_flags {vs : List Int} {k : Ctl} {i0 : Nat} {d : Int} (h1 : 1 ≤ i0) (h2 : i0 + 1 < vs.length) (hl : vs.length ≤ 1000) (hd : 100 ≤ d ∧ d ≤ 899) (hi : vs[i0]? = some (10000 + d)) (ho : ∀ j v, j ≠ i0 → vs[j]? = some v → 9988 ≤ v ∧ v ≤ 10012) (hs : stepOf k 1 ≤ 0) (hp : spikeOf k 1 = 50) :
    refFlags (spikesL vs 0) k (spikesL vs 0).length = [((i0 : Int), 1)] := by
  have hg : Good (spikesL vs 0) := spikesL_good (fun v hv => by
    obtain ⟨j, hj, rfl⟩ := List.getElem_of_mem hv
    have hj' := List.getElem?_eq_getElem hj
    by_cases e : j = i0
    · subst e
      have := Option.some.inj (hj'.symm.trans hi)
      omega
    · have := ho j _ e hj'; omega) hl
  have hline := linL_line (l := spikesL vs 0) (κ := ([65, 76, 80, 72, 65], 1)) (val := fun r => (findP r.rd 1).getD 0) (fun r hr => by
    refine ⟨hg.valid r hr, ?_⟩
    obtain ⟨i, v, _, rfl⟩ := mem_spikesL hr
    exact ⟨rfl, rfl⟩) (spikesL_inc vs)
  have hpt : ∀ j (hj : j < vs.length), (linL (fun r => (findP r.rd 1).getD 0) (spikesL vs 0) 0).getD j ⟨0, 0, 0⟩ = ⟨(j : Int), 60 * (j : Int), vs[j]⟩ := fun j hj => by
    rw [linL_get _ _ 0 j (by simpa using hj)]
    have := spikesL_get vs 0 j hj
    rw [List.getElem?_eq_getElem (by simpa using hj), Option.some.injEq] at this
    rw [this]
    simp [spikeR, findP]
  have hval : ∀ j (hj : j < vs.length), j ≠ i0 → 9988 ≤ vs[j] ∧ vs[j] ≤ 10012 := fun j hj e => ho j _ e (List.getElem?_eq_getElem hj)
  have hi0 : vs[i0]'(by omega) = 10000 + d := by
    rw [List.getElem?_eq_getElem (by omega)] at hi
    exact Option.some.inj hi
  have hrej : ∀ j (hj : j < vs.length), rejP (linL (fun r => (findP r.rd 1).getD 0) (spikesL vs 0) 0) (stepOf k 1) (spikeOf k 1) j = decide (j = i0) := fun j hj => by
    have hs' : ¬ 0 < stepOf k 1 := by omega
    unfold rejP
    rw [hp]
    simp only [hs', decide_false, Bool.false_and, Bool.false_or]
    unfold spkP
    rw [linL_length, spikesL_length]
    by_cases hj0 : 0 < j
    · by_cases hj1 : j + 1 < vs.length
      · rw [hpt (j - 1) (by omega), hpt j hj, hpt (j + 1) hj1]
        have h50 : decide ((0 : Int) < 50) = true := rfl
        simp only [h50, hj0, hj1, decide_true, Bool.true_and, spikeP, sizeP, max2]
        by_cases e : j = i0
        · subst e
          have a := hval (j - 1) (by omega) (by omega)
          have b := hval (j + 1) hj1 (by omega)
          rw [hi0]
          simp only [decide_true]
          have q1 : 10000 + d - vs[j - 1] > 50 := by omega
          have q2 : 10000 + d - vs[j + 1] > 50 := by omega
          have q3 : (if vs[j + 1] - vs[j - 1] > vs[j - 1] - vs[j + 1] then vs[j + 1] - vs[j - 1] else vs[j - 1] - vs[j + 1]) ≤ 50 := by split <;> omega
          simp [q1, q2, q3]
        · have c := hval j hj e
          have : decide (j = i0) = false := by simpa using e
          rw [this]
          rw [Bool.and_eq_false_iff]; left
          rw [Bool.or_eq_false_iff]
          by_cases e1 : j - 1 = i0
          · have b := hval (j + 1) hj1 (by omega)
            have a : vs[j - 1] = 10000 + d := by simp only [e1]; exact hi0
            rw [a]
            constructor
            · rw [Bool.and_eq_false_iff]; left; simp; omega
            · rw [Bool.and_eq_false_iff]; right; simp; omega
          · have a := hval (j - 1) (by omega) e1
            constructor
            · rw [Bool.and_eq_false_iff]; left; simp; omega
            · rw [Bool.and_eq_false_iff]; left; simp; omega
      · have e : decide (j = i0) = false := by simp; omega
        rw [e]; simp [hj1]
    · have e : decide (j = i0) = false := by simp; omega
      rw [e]; simp [hj0]
  refine lt2_unique (refFlags_sorted hg) (List.pairwise_singleton _ _) fun f => ?_
  rw [List.mem_singleton, mem_refFlags']
  have hkey : ∀ f : Int × Int, f ∈ keyFlags (spikesL vs 0) k ([65, 76, 80, 72, 65], 1) ↔ f = ((i0 : Int), 1) := fun f => by
    unfold keyFlags flagsOf
    rw [hline]
    simp only [List.mem_map, List.mem_filter, List.mem_range, linL_length, spikesL_length]
    constructor
    · rintro ⟨j, ⟨hj, hr⟩, rfl⟩
      rw [hrej j hj, decide_eq_true_eq] at hr
      subst hr
      rw [hpt j hj]
    · rintro rfl
      refine ⟨i0, ⟨by omega, ?_⟩, ?_⟩
      · rw [hrej i0 (by omega)]; simp
      · rw [hpt i0 (by omega)]
  constructor
  · rintro ⟨i, r, e1, e2, e3⟩
    obtain ⟨i', v, _, rfl⟩ := mem_spikesL (List.mem_of_getElem? e1)
    change f ∈ keyFlags _ k ([65, 76, 80, 72, 65], f.2) at e3
    by_cases hc : f.2 = 1
    · rw [hc] at e3; exact (hkey f).1 e3
    · unfold keyFlags at e3
      rw [linL_none (κ := ([65, 76, 80, 72, 65], f.2)) (fun r hr => by
        refine ⟨hg.valid r hr, .inr ?_⟩
        obtain ⟨_, _, _, rfl⟩ := mem_spikesL hr
        have e1 : ((1 : Int) == f.2) = false := by simp; omega
        simp [findP, spikeR, e1])] at e3
      cases e3
  · rintro rfl
    exact ⟨i0, _, spikesL_get vs 0 i0 (by omega), rfl, (hkey _).2 rfl⟩
end Go.Abs
