/-
  Texts of this claim: PureLaw16.
-/
import Derived.Test.YtlilahgndpdkfaaDoorOwn17
set_option linter.all false
/-
  The laws of the timeline, in plain Lean: what is moved, left out or put in another order.
-/
namespace Go.Abs
open Go

/-- Reports that are examined without an error. -/
theorem examP_ok {l : List Rep} {k : Ctl} (h : Good l) (h1 : possP k.steps = true) (h2 : possP k.spikes = true) : examP l k = 0 := by
  unfold examP
  rw [h1, h2]
  have h3 : firstP l = 0 := firstP_zero.2 h.valid
  have h4 : (l.all fun r => inP r.time) = true := List.all_eq_true.2 fun r hr => by
    have := h.time r hr
    simp [inP, this]
  have h5 : twiceP l = false := by simp [twiceP, h.once]
  simp [h3, h4, h5]

/-! ### The readings of one element alone -/

def onlyC (c : Int) (r : Rep) : Rep := { r with rd := r.rd.filter fun x => x.1 == c }

theorem filter_find {l : List Rd} (h : l.Pairwise fun a b => a.1 < b.1) (c : Int) : (l.filter fun x => x.1 == c) = match findP l c with | some v => [(c, v)] | none => [] := by
  induction l with
  | nil => rfl
  | cons a l ih =>
    have h' := List.pairwise_cons.1 h
    unfold findP
    rw [List.filter_cons, List.find?_cons]
    by_cases ha : a.1 = c
    · have e : (a.1 == c) = true := by simpa using ha
      have hn : l.filter (fun x => x.1 == c) = [] := by
        rw [List.filter_eq_nil_iff]
        intro x hx he
        have := h'.1 x hx
        simp only [beq_iff_eq] at he
        omega
      rw [e, hn]
      simp only [if_true, Option.map_some]
      rw [← ha]
    · have e : (a.1 == c) = false := by simpa using ha
      rw [e]
      have := ih h'.2
      unfold findP at this
      simpa using this

theorem onlyC_pts {l : List Rep} {c : Int} (i : Nat) (κ : Key) : ptsOf (allR (l.map (onlyC c)) i) κ = if κ.2 = c then ptsOf (allR l i) κ else [] := by
  induction l generalizing i with
  | nil => simp [allR, ptsOf]
  | cons r l ih =>
    simp only [List.map_cons, allR, ptsOf_append, ih]
    have h1 : ptsOf (entR i (onlyC c r)) κ = if κ.2 = c then ptsOf (entR i r) κ else [] := by
      unfold ptsOf entR onlyC
      induction r.rd with
      | nil => simp
      | cons x l ih =>
        rw [List.filter_cons]
        by_cases hx : x.1 = c
        · have e : (x.1 == c) = true := by simpa using hx
          rw [e]
          simp only [if_true, List.map_cons, List.filter_cons]
          by_cases hk : κ.2 = c
          · rw [if_pos hk] at ih ⊢
            cases hb : ((r.name, x.1) == κ) <;> simp [ih]
          · rw [if_neg hk] at ih ⊢
            have : ((r.name, x.1) == κ) = false := by
              rw [Bool.eq_false_iff]; intro he
              rw [beq_iff_eq] at he
              exact hk (by rw [← he]; exact hx)
            simp [this, ih]
        · have e : (x.1 == c) = false := by simpa using hx
          rw [e]
          simp only [Bool.false_eq_true, if_false, List.map_cons, List.filter_cons]
          rw [ih]
          by_cases hk : κ.2 = c
          · rw [if_pos hk, if_pos hk]
            have : ((r.name, x.1) == κ) = false := by
              rw [Bool.eq_false_iff]; intro he
              rw [beq_iff_eq] at he
              exact hx (by rw [← hk, ← he])
            simp [this]
          · rw [if_neg hk, if_neg hk]
    rw [h1]
    by_cases hk : κ.2 = c
    · simp [hk]
    · simp [hk]

theorem checkP_all {l : List Rd} (h : ∀ r ∈ l, checkP r = 0) (hp : l.Pairwise fun a b => a.1 < b.1) : validP l = 0 := by
  unfold validP
  have a : ∀ e : Int, e ≠ 0 → (l.any fun r => checkP r == e) = false := fun e he => by
    rw [List.any_eq_false]; intro r hr; rw [h r hr]; simp; exact fun h => he h.symm
  have hi : incrR l = true := incrR_iff.2 fun i hi => (List.pairwise_iff_getElem.1 hp) i (i + 1) (by omega) hi (by omega)
  rw [a 4 (by decide), a 1 (by decide), hi]; rfl

theorem onlyC_good {l : List Rep} {c : Int} (h : Good l) : Good (l.map (onlyC c)) := by
  refine ⟨fun r hr => ?_, fun r hr => ?_, ?_⟩
  · obtain ⟨r0, h0, rfl⟩ := List.mem_map.1 hr
    have hv := validP_zero (h.valid r0 h0)
    refine checkP_all (fun x hx => hv.1 x (List.mem_filter.1 hx).1) ?_
    exact List.Pairwise.filter _ (incrR_pairwise hv.2)
  · obtain ⟨r0, h0, rfl⟩ := List.mem_map.1 hr
    exact h.time r0 h0
  · rw [List.map_map]
    exact h.once

theorem idMove : Move fun p => p := ⟨fun _ _ => rfl, fun _ _ => rfl⟩

theorem onlyC_flags {l : List Rep} {c : Int} {k : Ctl} (h : Good l) : refFlags (l.map (onlyC c)) k (l.map (onlyC c)).length = (refFlags l k l.length).filter fun f => f.2 == c := by
  have hk : ∀ κ : Key, κ.2 = c → keyFlags (l.map (onlyC c)) k κ = keyFlags l k κ := fun κ hκ => by
    unfold keyFlags lineP
    rw [onlyC_pts, if_pos hκ]
  have hn : ∀ κ : Key, κ.2 ≠ c → keyFlags (l.map (onlyC c)) k κ = [] := fun κ hκ => by
    unfold keyFlags lineP
    rw [onlyC_pts, if_neg hκ]
    rfl
  refine lt2_unique (refFlags_sorted (onlyC_good h)) ((refFlags_sorted h).filter _) fun f => ?_
  rw [List.mem_filter, mem_refFlags', mem_refFlags', beq_iff_eq]
  constructor
  · rintro ⟨i, r, h1, h2, h3⟩
    rw [List.getElem?_map, Option.map_eq_some_iff] at h1
    obtain ⟨r0, h1, rfl⟩ := h1
    by_cases hf : f.2 = c
    · rw [hk _ hf] at h3
      exact ⟨⟨i, r0, h1, h2, h3⟩, hf⟩
    · rw [hn _ hf] at h3; cases h3
  · rintro ⟨⟨i, r, h1, h2, h3⟩, hf⟩
    refine ⟨i, onlyC c r, by rw [List.getElem?_map, h1]; rfl, h2, ?_⟩
    rw [hk _ hf]
    exact h3

/-! ### Other times, other values of one element -/

def shiftR (c d t : Int) (r : Rep) : Rep := { r with time := r.time + t, rd := r.rd.map fun x => if x.1 = c then (x.1, x.2 + d) else x }
def shiftPt (κ : Key) (c d t : Int) (p : Pt) : Pt := ⟨p.rep, p.time + t, if κ.2 = c then p.val + d else p.val⟩

theorem shift_move (κ : Key) (c d t : Int) : Move (shiftPt κ c d t) := ⟨fun a b => by simp [shiftPt]; omega, fun a b => by simp only [shiftPt]; split <;> omega⟩

theorem shift_pts {l : List Rep} {c d t : Int} (i : Nat) (κ : Key) : ptsOf (allR (l.map (shiftR c d t)) i) κ = (ptsOf (allR l i) κ).map (shiftPt κ c d t) := by
  induction l generalizing i with
  | nil => simp [allR, ptsOf]
  | cons r l ih =>
    simp only [List.map_cons, allR, ptsOf_append, ih, List.map_append]
    congr 1
    unfold ptsOf entR shiftR
    induction r.rd with
    | nil => simp
    | cons x l ih =>
      simp only [List.map_cons, List.filter_cons] at ih ⊢
      by_cases hx : x.1 = c
      · rw [if_pos hx]
        by_cases hb : ((r.name, x.1) == κ) = true
        · rw [if_pos hb, if_pos hb, List.map_cons, List.map_cons, List.map_cons, ih]
          have hκ : κ.2 = c := by rw [beq_iff_eq] at hb; rw [← hb]; exact hx
          simp [shiftPt, hκ]
        · rw [if_neg hb, if_neg hb]; exact ih
      · rw [if_neg hx]
        by_cases hb : ((r.name, x.1) == κ) = true
        · rw [if_pos hb, if_pos hb, List.map_cons, List.map_cons, List.map_cons, ih]
          have hκ : κ.2 ≠ c := by rw [beq_iff_eq] at hb; rw [← hb]; exact hx
          simp [shiftPt, hκ]
        · rw [if_neg hb, if_neg hb]; exact ih

theorem shift_good {l : List Rep} {c d t : Int} (h : Good l) (hv : ∀ r ∈ l, validP (shiftR c d t r).rd = 0) (ht : ∀ r ∈ l, 0 ≤ r.time + t ∧ r.time + t ≤ 52595999) : Good (l.map (shiftR c d t)) := by
  refine ⟨fun r hr => ?_, fun r hr => ?_, ?_⟩
  · obtain ⟨r0, h0, rfl⟩ := List.mem_map.1 hr; exact hv r0 h0
  · obtain ⟨r0, h0, rfl⟩ := List.mem_map.1 hr; exact ht r0 h0
  · rw [List.map_map]
    have := h.once
    have e : (keyR ∘ shiftR c d t) = (fun x : Key => (x.1, x.2 + t)) ∘ keyR := by funext r; rfl
    rw [e, ← List.map_map]
    refine List.Pairwise.map _ (fun a b hab => ?_) this
    intro he
    simp only [Prod.mk.injEq] at he
    exact hab (Prod.ext he.1 (by omega))

theorem shift_flags {l : List Rep} {c d t : Int} {k : Ctl} (h : Good l) : refFlags (l.map (shiftR c d t)) k (l.map (shiftR c d t)).length = refFlags l k l.length := by
  have hk : ∀ κ : Key, keyFlags (l.map (shiftR c d t)) k κ = keyFlags l k κ := fun κ => by
    have := keyFlags_map (k := k) (ρ := fun n => n) (shift_move κ c d t) rfl (h.times κ) (by rw [shift_pts]) (fun _ _ => rfl)
    rw [this]; simp
  unfold refFlags
  rw [List.length_map]
  congr 1
  funext i
  rw [List.getElem?_map]
  cases l[i]? with
  | none => rfl
  | some r =>
    simp only [Option.map_some, rowFlags, hk]
    unfold shiftR
    simp only [List.length_map, List.take_length]
    rw [List.take_of_length_le (by simp), List.flatMap_map]
    congr 1
    funext x
    by_cases hx : x.1 = c <;> simp [hx]

/-! ### Reports of one name in order of time -/

def linL (val : Rep → Int) : List Rep → Nat → List Pt
  | [], _ => []
  | r :: l, i => ⟨(i : Int), r.time, val r⟩ :: linL val l (i + 1)

@[simp] theorem linL_length (val : Rep → Int) : ∀ (l : List Rep) (i : Nat), (linL val l i).length = l.length
  | [], _ => rfl
  | r :: l, i => by simp [linL, linL_length val l]

theorem linL_get (val : Rep → Int) : ∀ (l : List Rep) (i j : Nat) (hj : j < l.length), (linL val l i).getD j ⟨0, 0, 0⟩ = ⟨((i + j : Nat) : Int), (l[j]).time, val l[j]⟩
  | [], _, j, hj => by simp at hj
  | r :: l, i, 0, _ => by simp [linL]
  | r :: l, i, j + 1, hj => by
    have := linL_get val l (i + 1) j (by simpa using hj)
    simp only [linL, List.getD_cons_succ, List.getElem_cons_succ]
    rw [this]
    congr 2
    omega

theorem linL_line {l : List Rep} {κ : Key} {val : Rep → Int} (hv : ∀ r ∈ l, validP r.rd = 0 ∧ r.name = κ.1 ∧ findP r.rd κ.2 = some (val r)) (ht : l.Pairwise fun a b => a.time < b.time) : lineP l κ = linL val l 0 := by
  have h1 : ∀ (l : List Rep) (i : Nat), (∀ r ∈ l, validP r.rd = 0 ∧ r.name = κ.1 ∧ findP r.rd κ.2 = some (val r)) → ptsOf (allR l i) κ = linL val l i := by
    intro l
    induction l with
    | nil => intro i _; rfl
    | cons r l ih =>
      intro i h
      obtain ⟨a, b, c⟩ := h r (by simp)
      rw [allR, ptsOf_append, ent_find a, if_pos b, c, ih (i + 1) fun r hr => h r (by simp [hr])]
      rfl
  have h2 : ∀ (l : List Rep) (i : Nat), l.Pairwise (fun a b => a.time < b.time) → (linL val l i).Pairwise fun a b => a.time < b.time := by
    intro l
    induction l with
    | nil => intro i _; exact .nil
    | cons r l ih =>
      intro i h
      have h' := List.pairwise_cons.1 h
      simp only [linL]
      refine List.Pairwise.cons (fun p hp => ?_) (ih _ h'.2)
      have : ∀ (l : List Rep) (i : Nat), p ∈ linL val l i → ∃ r ∈ l, p.time = r.time := by
        intro l
        induction l with
        | nil => intro i h; cases h
        | cons r l ih =>
          intro i h
          rcases List.mem_cons.1 h with rfl | h
          · exact ⟨r, by simp, rfl⟩
          · obtain ⟨r', h1, h2⟩ := ih _ h; exact ⟨r', by simp [h1], h2⟩
      obtain ⟨r', hr, e⟩ := this l _ hp
      simp only [e]
      exact h'.1 r' hr
  unfold lineP
  rw [h1 l 0 hv]
  refine sorted_unique (lt := fun a b => decide (a.time < b.time)) ((h2 l 0 ht).imp fun h => by simpa using h) ((sortT_sorted _).imp fun {a b} h => ?_) (sortT_perm _)
  simp only [decide_eq_false_iff_not]; omega

theorem linL_none {l : List Rep} {κ : Key} (hv : ∀ r ∈ l, validP r.rd = 0 ∧ (r.name ≠ κ.1 ∨ findP r.rd κ.2 = none)) : lineP l κ = [] := by
  have h1 : ∀ (l : List Rep) (i : Nat), (∀ r ∈ l, validP r.rd = 0 ∧ (r.name ≠ κ.1 ∨ findP r.rd κ.2 = none)) → ptsOf (allR l i) κ = [] := by
    intro l
    induction l with
    | nil => intro i _; rfl
    | cons r l ih =>
      intro i h
      obtain ⟨a, b⟩ := h r (by simp)
      rw [allR, ptsOf_append, ent_find a, ih (i + 1) fun r hr => h r (by simp [hr])]
      rcases b with b | b
      · rw [if_neg b]; rfl
      · rw [b]; split <;> rfl
  unfold lineP
  rw [h1 l 0 hv]; rfl

/-- Steps that are slow from each to the next reject nothing. -/
theorem slow_good {L : List Pt} {s : Int} (h : ∀ i, i + 1 < L.length → slowP (L.getD i ⟨0, 0, 0⟩) (L.getD (i + 1) ⟨0, 0, 0⟩) s = true) : ∀ {i : Nat}, i < L.length → goodP L s i = i
  | 0, _ => rfl
  | i + 1, hi => by
    have ih := slow_good h (i := i) (by omega)
    unfold goodP
    rw [ih, if_pos]
    unfold okP
    rw [h i hi, Bool.true_or]

theorem slow_step {L : List Pt} {s : Int} (h : ∀ i, i + 1 < L.length → slowP (L.getD i ⟨0, 0, 0⟩) (L.getD (i + 1) ⟨0, 0, 0⟩) s = true) {i : Nat} (hi : i < L.length) : stepP L s i = false := by
  unfold stepP
  rw [slow_good h hi]; simp

theorem flagsOf_none {L : List Pt} {s p c : Int} (h : ∀ i, i < L.length → rejP L s p i = false) : flagsOf L s p c L.length = [] := by
  unfold flagsOf
  have : (List.range L.length).filter (fun i => rejP L s p i) = [] := by
    rw [List.filter_eq_nil_iff]
    intro i hi
    rw [h i (List.mem_range.1 hi)]; simp
  rw [this]; rfl

theorem spk_zero (L : List Pt) {p : Int} (hp : p ≤ 0) (i : Nat) : spkP L p i = false := by
  unfold spkP
  have : ¬ 0 < p := by omega
  simp [this]

theorem refFlags_none {l : List Rep} {k : Ctl} (h : ∀ r ∈ l, ∀ c, keyFlags l k (r.name, c) = []) : refFlags l k l.length = [] := by
  rw [List.eq_nil_iff_forall_not_mem]
  intro f hf
  obtain ⟨i, r, h1, h2, h3⟩ := mem_refFlags'.1 hf
  rw [h r (List.mem_of_getElem? h1)] at h3
  cases h3
end Go.Abs
