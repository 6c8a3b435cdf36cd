/-
  Texts of this claim: PureLaw16, PureOrder.
-/
import Derived.Test.YtlilahgndpdkfaaDoorOwn18
set_option linter.all false
/-
  The laws of the timeline, in plain Lean: what is moved, left out or put in another order.
-/
namespace Go.Abs
open Go

/-- Reports that are examined without an error. -/
theorem examP_ok {l : List Rep} {k : Ctl} (h : Good l) (h1 : possP k.steps = true) (h2 : possP k.spikes = true) : examP l k = 0 := by
  unfold examP
  rw [h1, h2]
  have h3 : firstP l = 0 := firstP_zero.2 h.valid
  have h4 : (l.all fun r => inP r.time) = true := List.all_eq_true.2 fun r hr => by
    have := h.time r hr
    simp [inP, this]
  have h5 : twiceP l = false := by simp [twiceP, h.once]
  simp [h3, h4, h5]

/-! ### The readings of one element alone -/

def onlyC (c : Int) (r : Rep) : Rep := { r with rd := r.rd.filter fun x => x.1 == c }

theorem filter_find {l : List Rd} (h : l.Pairwise fun a b => a.1 < b.1) (c : Int) : (l.filter fun x => x.1 == c) = match findP l c with | some v => [(c, v)] | none => [] := by
  induction l with
  | nil => rfl
  | cons a l ih =>
    have h' := List.pairwise_cons.1 h
    unfold findP
    rw [List.filter_cons, List.find?_cons]
    by_cases ha : a.1 = c
    · have e : (a.1 == c) = true := by simpa using ha
      have hn : l.filter (fun x => x.1 == c) = [] := by
        rw [List.filter_eq_nil_iff]
        intro x hx he
        have := h'.1 x hx
        simp only [beq_iff_eq] at he
        omega
      rw [e, hn]
      simp only [if_true, Option.map_some]
      rw [← ha]
    · have e : (a.1 == c) = false := by simpa using ha
      rw [e]
      have := ih h'.2
      unfold findP at this
      simpa using this

theorem onlyC_pts {l : List Rep} {c : Int} (i : Nat) (κ : Key) : ptsOf (allR (l.map (onlyC c)) i) κ = if κ.2 = c then ptsOf (allR l i) κ else [] := by
  induction l generalizing i with
  | nil => simp [allR, ptsOf]
  | cons r l ih =>
    simp only [List.map_cons, allR, ptsOf_append, ih]
    have h1 : ptsOf (entR i (onlyC c r)) κ = if κ.2 = c then ptsOf (entR i r) κ else [] := by
      unfold ptsOf entR onlyC
      induction r.rd with
      | nil => simp
      | cons x l ih =>
        rw [List.filter_cons]
        by_cases hx : x.1 = c
        · have e : (x.1 == c) = true := by simpa using hx
          rw [e]
          simp only [if_true, List.map_cons, List.filter_cons]
          by_cases hk : κ.2 = c
          · rw [if_pos hk] at ih ⊢
            cases hb : ((r.name, x.1) == κ) <;> simp [ih]
          · rw [if_neg hk] at ih ⊢
            have : ((r.name, x.1) == κ) = false := by
              rw [Bool.eq_false_iff]; intro he
              rw [beq_iff_eq] at he
              exact hk (by rw [← he]; exact hx)
            simp [this, ih]
        · have e : (x.1 == c) = false := by simpa using hx
          rw [e]
          simp only [Bool.false_eq_true, if_false, List.map_cons, List.filter_cons]
          rw [ih]
          by_cases hk : κ.2 = c
          · rw [if_pos hk, if_pos hk]
            have : ((r.name, x.1) == κ) = false := by
              rw [Bool.eq_false_iff]; intro he
              rw [beq_iff_eq] at he
              exact hx (by rw [← hk, ← he])
            simp [this]
          · rw [if_neg hk, if_neg hk]
    rw [h1]
    by_cases hk : κ.2 = c
    · simp [hk]
    · simp [hk]

theorem checkP_all {l : List Rd} (h : ∀ r ∈ l, checkP r = 0) (hp : l.Pairwise fun a b => a.1 < b.1) : validP l = 0 := by
  unfold validP
  have a : ∀ e : Int, e ≠ 0 → (l.any fun r => checkP r == e) = false := fun e he => by
    rw [List.any_eq_false]; intro r hr; rw [h r hr]; simp; exact fun h => he h.symm
  have hi : incrR l = true := incrR_iff.2 fun i hi => (List.pairwise_iff_getElem.1 hp) i (i + 1) (by omega) hi (by omega)
  rw [a 4 (by decide), a 1 (by decide), hi]; rfl

theorem onlyC_good {l : List Rep} {c : Int} (h : Good l) : Good (l.map (onlyC c)) := by
  refine ⟨fun r hr => ?_, fun r hr => ?_, ?_⟩
  · obtain ⟨r0, h0, rfl⟩ := List.mem_map.1 hr
    have hv := validP_zero (h.valid r0 h0)
    refine checkP_all (fun x hx => hv.1 x (List.mem_filter.1 hx).1) ?_
    exact List.Pairwise.filter _ (incrR_pairwise hv.2)
  · obtain ⟨r0, h0, rfl⟩ := List.mem_map.1 hr
    exact h.time r0 h0
  · rw [List.map_map]
    exact h.once

theorem idMove : Move fun p => p := ⟨fun _ _ => rfl, fun _ _ => rfl⟩

theorem onlyC_flags {l : List Rep} {c : Int} {k : Ctl} (h : Good l) : refFlags (l.map (onlyC c)) k (l.map (onlyC c)).length = (refFlags l k l.length).filter fun f => f.2 == c := by
  have hk : ∀ κ : Key, κ.2 = c → keyFlags (l.map (onlyC c)) k κ = keyFlags l k κ := fun κ hκ => by
    unfold keyFlags lineP
    rw [onlyC_pts, if_pos hκ]
  have hn : ∀ κ : Key, κ.2 ≠ c → keyFlags (l.map (onlyC c)) k κ = [] := fun κ hκ => by
    unfold keyFlags lineP
    rw [onlyC_pts, if_neg hκ]
    rfl
  refine lt2_unique (refFlags_sorted (onlyC_good h)) ((refFlags_sorted h).filter _) fun f => ?_
  rw [List.mem_filter, mem_refFlags', mem_refFlags', beq_iff_eq]
  constructor
  · rintro ⟨i, r, h1, h2, h3⟩
    rw [List.getElem?_map, Option.map_eq_some_iff] at h1
    obtain ⟨r0, h1, rfl⟩ := h1
    by_cases hf : f.2 = c
    · rw [hk _ hf] at h3
      exact ⟨⟨i, r0, h1, h2, h3⟩, hf⟩
    · rw [hn _ hf] at h3; cases h3
  · rintro ⟨⟨i, r, h1, h2, h3⟩, hf⟩
    refine ⟨i, onlyC c r, by rw [List.getElem?_map, h1]; rfl, h2, ?_⟩
    rw [hk _ hf]
    exact h3

/-! ### Other times, other values of one element -/

def shiftR (c d t : Int) (r : Rep) : Rep := { r with time := r.time + t, rd := r.rd.map fun x => if x.1 = c then (x.1, x.2 + d) else x }
def shiftPt (κ : Key) (c d t : Int) (p : Pt) : Pt := ⟨p.rep, p.time + t, if κ.2 = c then p.val + d else p.val⟩

theorem shift_move (κ : Key) (c d t : Int) : Move (shiftPt κ c d t) := ⟨fun a b => by simp [shiftPt]; omega, fun a b => by simp only [shiftPt]; split <;> omega⟩

theorem shift_pts {l : List Rep} {c d t : Int} (i : Nat) (κ : Key) : ptsOf (allR (l.map (shiftR c d t)) i) κ = (ptsOf (allR l i) κ).map (shiftPt κ c d t) := by
  induction l generalizing i with
  | nil => simp [allR, ptsOf]
  | cons r l ih =>
    simp only [List.map_cons, allR, ptsOf_append, ih, List.map_append]
    congr 1
    unfold ptsOf entR shiftR
    induction r.rd with
    | nil => simp
    | cons x l ih =>
      simp only [List.map_cons, List.filter_cons] at ih ⊢
      by_cases hx : x.1 = c
      · rw [if_pos hx]
        by_cases hb : ((r.name, x.1) == κ) = true
        · rw [if_pos hb, if_pos hb, List.map_cons, List.map_cons, List.map_cons, ih]
          have hκ : κ.2 = c := by rw [beq_iff_eq] at hb; rw [← hb]; exact hx
          simp [shiftPt, hκ]
        · rw [if_neg hb, if_neg hb]; exact ih
      · rw [if_neg hx]
        by_cases hb : ((r.name, x.1) == κ) = true
        · rw [if_pos hb, if_pos hb, List.map_cons, List.map_cons, List.map_cons, ih]
          have hκ : κ.2 ≠ c := by rw [beq_iff_eq] at hb; rw [← hb]; exact hx
          simp [shiftPt, hκ]
        · rw [if_neg hb, if_neg hb]; exact ih

theorem shift_good {l : List Rep} {c d t : Int} (h : Good l) (hv : ∀ r ∈ l, validP (shiftR c d t r).rd = 0) (ht : ∀ r ∈ l, 0 ≤ r.time + t ∧ r.time + t ≤ 52595999) : Good (l.map (shiftR c d t)) := by
  refine ⟨fun r hr => ?_, fun r hr => ?_, ?_⟩
  · obtain ⟨r0, h0, rfl⟩ := List.mem_map.1 hr; exact hv r0 h0
  · obtain ⟨r0, h0, rfl⟩ := List.mem_map.1 hr; exact ht r0 h0
  · rw [List.map_map]
    have := h.once
    have e : (keyR ∘ shiftR c d t) = (fun x : Key => (x.1, x.2 + t)) ∘ keyR := by funext r; rfl
    rw [e, ← List.map_map]
    refine List.Pairwise.map _ (fun a b hab => ?_) this
    intro he
    simp only [Prod.mk.injEq] at he
    exact hab (Prod.ext he.1 (by omega))

theorem shift_flags {l : List Rep} {c d t : Int} {k : Ctl} (h : Good l) : refFlags (l.map (shiftR c d t)) k (l.map (shiftR c d t)).length = refFlags l k l.length := by
  have hk : ∀ κ : Key, keyFlags (l.map (shiftR c d t)) k κ = keyFlags l k κ := fun κ => by
    have := keyFlags_map (k := k) (ρ := fun n => n) (shift_move κ c d t) rfl (h.times κ) (by rw [shift_pts]) (fun _ _ => rfl)
    rw [this]; simp
  unfold refFlags
  rw [List.length_map]
  congr 1
  funext i
  rw [List.getElem?_map]
  cases l[i]? with
  | none => rfl
  | some r =>
    simp only [Option.map_some, rowFlags, hk]
    unfold shiftR
    simp only [List.length_map, List.take_length]
    rw [List.take_of_length_le (by simp), List.flatMap_map]
    congr 1
    funext x
    by_cases hx : x.1 = c <;> simp [hx]

/-! ### Reports of one name in order of time -/

def linL (val : Rep → Int) : List Rep → Nat → List Pt
  | [], _ => []
  | r :: l, i => ⟨(i : Int), r.time, val r⟩ :: linL val l (i + 1)

@[simp] theorem linL_length (val : Rep → Int) : ∀ (l : List Rep) (i : Nat), (linL val l i).length = l.length
  | [], _ => rfl
  | r :: l, i => by simp [linL, linL_length val l]

theorem linL_get (val : Rep → Int) : ∀ (l : List Rep) (i j : Nat) (hj : j < l.length), (linL val l i).getD j ⟨0, 0, 0⟩ = ⟨((i + j : Nat) : Int), (l[j]).time, val l[j]⟩
  | [], _, j, hj => by simp at hj
  | r :: l, i, 0, _ => by simp [linL]
  | r :: l, i, j + 1, hj => by
    have := linL_get val l (i + 1) j (by simpa using hj)
    simp only [linL, List.getD_cons_succ, List.getElem_cons_succ]
    rw [this]
    congr 2
    omega

theorem linL_line {l : List Rep} {κ : Key} {val : Rep → Int} (hv : ∀ r ∈ l, validP r.rd = 0 ∧ r.name = κ.1 ∧ findP r.rd κ.2 = some (val r)) (ht : l.Pairwise fun a b => a.time < b.time) : lineP l κ = linL val l 0 := by
  have h1 : ∀ (l : List Rep) (i : Nat), (∀ r ∈ l, validP r.rd = 0 ∧ r.name = κ.1 ∧ findP r.rd κ.2 = some (val r)) → ptsOf (allR l i) κ = linL val l i := by
    intro l
    induction l with
    | nil => intro i _; rfl
    | cons r l ih =>
      intro i h
      obtain ⟨a, b, c⟩ := h r (by simp)
      rw [allR, ptsOf_append, ent_find a, if_pos b, c, ih (i + 1) fun r hr => h r (by simp [hr])]
      rfl
  have h2 : ∀ (l : List Rep) (i : Nat), l.Pairwise (fun a b => a.time < b.time) → (linL val l i).Pairwise fun a b => a.time < b.time := by
    intro l
    induction l with
    | nil => intro i _; exact .nil
    | cons r l ih =>
      intro i h
      have h' := List.pairwise_cons.1 h
      simp only [linL]
      refine List.Pairwise.cons (fun p hp => ?_) (ih _ h'.2)
      have : ∀ (l : List Rep) (i : Nat), p ∈ linL val l i → ∃ r ∈ l, p.time = r.time := by
        intro l
        induction l with
        | nil => intro i h; cases h
        | cons r l ih =>
          intro i h
          rcases List.mem_cons.1 h with rfl | h
          · exact ⟨r, by simp, rfl⟩
          · obtain ⟨r', h1, h2⟩ := ih _ h; exact ⟨r', by simp [h1], h2⟩
      obtain ⟨r', hr, e⟩ := this l _ hp
      simp only [e]
      exact h'.1 r' hr
  unfold lineP
  rw [h1 l 0 hv]
  refine sorted_unique (lt := fun a b => decide (a.time < b.time)) ((h2 l 0 ht).imp fun h => by simpa using h) ((sortT_sorted _).imp fun {a b} h => ?_) (sortT_perm _)
  simp only [decide_eq_false_iff_not]; omega

theorem linL_none {l : List Rep} {κ : Key} (hv : ∀ r ∈ l, validP r.rd = 0 ∧ (r.name ≠ κ.1 ∨ findP r.rd κ.2 = none)) : lineP l κ = [] := by
  have h1 : ∀ (l : List Rep) (i : Nat), (∀ r ∈ l, validP r.rd = 0 ∧ (r.name ≠ κ.1 ∨ findP r.rd κ.2 = none)) → ptsOf (allR l i) κ = [] := by
    intro l
    induction l with
    | nil => intro i _; rfl
    | cons r l ih =>
      intro i h
      obtain ⟨a, b⟩ := h r (by simp)
      rw [allR, ptsOf_append, ent_find a, ih (i + 1) fun r hr => h r (by simp [hr])]
      rcases b with b | b
      · rw [if_neg b]; rfl
      · rw [b]; split <;> rfl
  unfold lineP
  rw [h1 l 0 hv]; rfl

/-- Steps that are slow from each to the next reject nothing. -/
theorem slow_good {L : List Pt} {s : Int} (h : ∀ i, i + 1 < L.length → slowP (L.getD i ⟨0, 0, 0⟩) (L.getD (i + 1) ⟨0, 0, 0⟩) s = true) : ∀ {i : Nat}, i < L.length → goodP L s i = i
  | 0, _ => rfl
  | i + 1, hi => by
    have ih := slow_good h (i := i) (by omega)
    unfold goodP
    rw [ih, if_pos]
    unfold okP
    rw [h i hi, Bool.true_or]

theorem slow_step {L : List Pt} {s : Int} (h : ∀ i, i + 1 < L.length → slowP (L.getD i ⟨0, 0, 0⟩) (L.getD (i + 1) ⟨0, 0, 0⟩) s = true) {i : Nat} (hi : i < L.length) : stepP L s i = false := by
  unfold stepP
  rw [slow_good h hi]; simp

theorem flagsOf_none {L : List Pt} {s p c : Int} (h : ∀ i, i < L.length → rejP L s p i = false) : flagsOf L s p c L.length = [] := by
  unfold flagsOf
  have : (List.range L.length).filter (fun i => rejP L s p i) = [] := by
    rw [List.filter_eq_nil_iff]
    intro i hi
    rw [h i (List.mem_range.1 hi)]; simp
  rw [this]; rfl

theorem spk_zero (L : List Pt) {p : Int} (hp : p ≤ 0) (i : Nat) : spkP L p i = false := by
  unfold spkP
  have : ¬ 0 < p := by omega
  simp [this]

theorem refFlags_none {l : List Rep} {k : Ctl} (h : ∀ r ∈ l, ∀ c, keyFlags l k (r.name, c) = []) : refFlags l k l.length = [] := by
  rw [List.eq_nil_iff_forall_not_mem]
  intro f hf
  obtain ⟨i, r, h1, h2, h3⟩ := mem_refFlags'.1 hf
  rw [h r (List.mem_of_getElem? h1)] at h3
  cases h3
end Go.Abs

/-
  Some of the reports, in another order: the same flags of those, under other numbers.
-/
namespace Go.Abs
open Go

/-- The reports with these numbers. -/
def pickL (x : List Rep) (o : List Nat) : List Rep := o.filterMap fun j => x[j]?

theorem pickL_length {x : List Rep} : ∀ {o : List Nat}, (∀ j ∈ o, j < x.length) → (pickL x o).length = o.length
  | [], _ => rfl
  | j :: o, h => by
    have hj : j < x.length := h j (by simp)
    have := pickL_length (x := x) (o := o) fun i hi => h i (by simp [hi])
    unfold pickL at *
    simp [List.getElem?_eq_getElem hj, this]

theorem pickL_get {x : List Rep} : ∀ {o : List Nat}, (∀ j ∈ o, j < x.length) → ∀ (i : Nat), (pickL x o)[i]? = (o[i]?).bind fun j => x[j]?
  | [], _, i => by simp [pickL]
  | j :: o, h, i => by
    have hj : j < x.length := h j (by simp)
    have ih := pickL_get (x := x) (o := o) (fun i hi => h i (by simp [hi]))
    have e : pickL x (j :: o) = x[j] :: pickL x o := by
      unfold pickL
      rw [List.filterMap_cons_some (List.getElem?_eq_getElem hj)]
    rw [e]
    cases i with
    | zero => simp [List.getElem?_eq_getElem hj]
    | succ i => simpa using ih i

theorem pickL_snoc {x : List Rep} {o : List Nat} {j : Nat} (hj : j < x.length) : pickL x (o ++ [j]) = pickL x o ++ [x[j]] := by
  unfold pickL
  rw [List.filterMap_append]
  simp [List.getElem?_eq_getElem hj]

/-- Which reports are meant, and that they are all there, once. -/
structure Picks (x : List Rep) (o : List Nat) (K : List UInt8 → Prop) : Prop where
  lt : ∀ j ∈ o, j < x.length
  once : o.Nodup
  own : ∀ j ∈ o, ∀ r, x[j]? = some r → K r.name
  all : ∀ j r, x[j]? = some r → K r.name → j ∈ o

/-- The flag of the report that it stands for. -/
def backF (o : List Nat) (f : Int × Int) : Int × Int := ((o.getD f.1.toNat 0 : Nat), f.2)

section
variable {x : List Rep} {o : List Nat} {K : List UInt8 → Prop}

theorem Picks.get (h : Picks x o K) {i : Nat} {r : Rep} (hr : (pickL x o)[i]? = some r) : ∃ j, o[i]? = some j ∧ x[j]? = some r := by
  rw [pickL_get h.lt, Option.bind_eq_some_iff] at hr
  exact hr

theorem Picks.good (h : Picks x o K) (hg : Good x) : Good (pickL x o) := by
  refine ⟨fun r hr => ?_, fun r hr => ?_, ?_⟩
  · obtain ⟨i, hi⟩ := List.mem_iff_getElem?.1 hr
    obtain ⟨j, _, h2⟩ := h.get hi
    exact hg.valid r (List.mem_of_getElem? h2)
  · obtain ⟨i, hi⟩ := List.mem_iff_getElem?.1 hr
    obtain ⟨j, _, h2⟩ := h.get hi
    exact hg.time r (List.mem_of_getElem? h2)
  · rw [List.Nodup, List.pairwise_iff_getElem]
    intro i i' hi hi' hlt he
    simp only [List.length_map] at hi hi'
    obtain ⟨j, j1, j2⟩ := h.get (List.getElem?_eq_getElem hi)
    obtain ⟨j', j1', j2'⟩ := h.get (List.getElem?_eq_getElem hi')
    simp only [List.getElem_map] at he
    have e1 : (x.map keyR)[j]? = (x.map keyR)[j']? := by rw [List.getElem?_map, List.getElem?_map, j2, j2']; simp [he]
    have hj := (List.getElem?_eq_some_iff.1 j2).1
    have hj' := (List.getElem?_eq_some_iff.1 j2').1
    have e2 : j = j' := by
      rw [List.getElem?_eq_getElem (by simpa using hj), List.getElem?_eq_getElem (by simpa using hj'), Option.some.injEq] at e1
      exact (List.getElem_inj hg.once).1 e1
    subst e2
    have hi2 := (List.getElem?_eq_some_iff.1 j1).1
    have hi2' := (List.getElem?_eq_some_iff.1 j1').1
    have e3 : o[i] = o[i'] := by
      rw [List.getElem?_eq_getElem hi2, Option.some.injEq] at j1
      rw [List.getElem?_eq_getElem hi2', Option.some.injEq] at j1'
      rw [j1, j1']
    have := (List.getElem_inj h.once).1 e3
    omega

theorem nodup_of_map {α β : Type} (f : α → β) {l : List α} (h : (l.map f).Nodup) : l.Nodup := (List.pairwise_map.1 h).imp fun h e => h (congrArg f e)

def backPt (o : List Nat) (p : Pt) : Pt := ⟨(o.getD p.rep.toNat 0 : Nat), p.time, p.val⟩

theorem backPt_move : Move (backPt o) := ⟨fun _ _ => rfl, fun _ _ => rfl⟩

theorem Picks.keyFlags (h : Picks x o K) (hg : Good x) {κ : Key} (hK : K κ.1) (k : Ctl) : Abs.keyFlags x k κ = (Abs.keyFlags (pickL x o) k κ).map (backF o) := by
  have hgy := h.good hg
  refine keyFlags_map (ρ := fun n => ((o.getD n.toNat 0 : Nat) : Int)) backPt_move rfl (hgy.times κ) ?_ (fun _ _ => rfl)
  refine (List.perm_ext_iff_of_nodup ?_ ?_).2 fun p => ?_
  · have := hg.times κ
    exact nodup_of_map _ this
  · have := hgy.times κ
    refine nodup_of_map (·.time) ?_
    rw [List.map_map]
    exact this
  · rw [mem_ptsOf, mem_allR, List.mem_map]
    constructor
    · rintro ⟨j, r, z, h1, h2, h3⟩
      simp only [Prod.mk.injEq] at h3
      obtain ⟨rfl, rfl⟩ := h3
      obtain ⟨i, hi⟩ := List.mem_iff_getElem?.1 (h.all j r h1 hK)
      refine ⟨⟨((0 + i : Nat) : Int), r.time, z.2⟩, ?_, ?_⟩
      · rw [mem_ptsOf, mem_allR]
        exact ⟨i, r, z, by rw [pickL_get h.lt, hi]; exact h1, h2, rfl⟩
      · simp only [backPt, Nat.zero_add, Int.toNat_natCast, List.getD_eq_getElem?_getD, hi, Option.getD_some]
    · rintro ⟨q, hq, rfl⟩
      rw [mem_ptsOf, mem_allR] at hq
      obtain ⟨i, r, z, h1, h2, h3⟩ := hq
      obtain ⟨j, j1, j2⟩ := h.get h1
      simp only [Prod.mk.injEq] at h3
      obtain ⟨rfl, rfl⟩ := h3
      refine ⟨j, r, z, j2, h2, ?_⟩
      simp only [backPt, Nat.zero_add, Int.toNat_natCast, List.getD_eq_getElem?_getD, j1, Option.getD_some]

theorem flag_lt {l : List Rep} {k : Ctl} {f : Int × Int} (hf : f ∈ refFlags l k l.length) : 0 ≤ f.1 ∧ f.1.toNat < l.length := by
  obtain ⟨i, r, h1, h2, _⟩ := mem_refFlags'.1 hf
  have := (List.getElem?_eq_some_iff.1 h1).1
  omega

/-- ████ The flags of those reports are the flags of all whose names are meant. -/
theorem Picks.flags (h : Picks x o K) (hg : Good x) (k : Ctl) (p : Int × Int → Bool) (hp : ∀ f ∈ refFlags x k x.length, p f = true ↔ ∃ r, x[f.1.toNat]? = some r ∧ K r.name) : ((refFlags (pickL x o) k (pickL x o).length).map (backF o)).Perm ((refFlags x k x.length).filter p) := by
  have hgy := h.good hg
  refine (List.perm_ext_iff_of_nodup ?_ ?_).2 fun g => ?_
  · have hn := (refFlags_sorted (k := k) hgy).imp lt2_ne
    rw [List.Nodup, List.pairwise_map]
    refine List.Pairwise.imp_of_mem (fun {a b} ha hb hab e => hab ?_) hn
    obtain ⟨a1, a2⟩ := flag_lt ha
    obtain ⟨b1, b2⟩ := flag_lt hb
    rw [pickL_length h.lt] at a2 b2
    simp only [backF, Prod.mk.injEq, List.getD_eq_getElem?_getD, List.getElem?_eq_getElem a2, List.getElem?_eq_getElem b2, Option.getD_some] at e
    have e1 : o[a.1.toNat] = o[b.1.toNat] := by have := e.1; omega
    have := (List.getElem_inj h.once).1 e1
    exact Prod.ext (by omega) e.2
  · exact ((refFlags_sorted (k := k) hg).imp lt2_ne).filter _
  · rw [List.mem_map, List.mem_filter]
    constructor
    · rintro ⟨f, hf, rfl⟩
      obtain ⟨i, r, h1, h2, h3⟩ := mem_refFlags'.1 hf
      obtain ⟨j, j1, j2⟩ := h.get h1
      have hK := h.own j (List.mem_of_getElem? j1) r j2
      have e : (backF o f).1 = (j : Int) := by
        simp only [backF, h2, Int.toNat_natCast, List.getD_eq_getElem?_getD, j1, Option.getD_some]
      have hm : backF o f ∈ refFlags x k x.length := mem_refFlags'.2 ⟨j, r, j2, e, by
        rw [h.keyFlags hg (κ := (r.name, (backF o f).2)) hK k]
        exact List.mem_map.2 ⟨f, h3, rfl⟩⟩
      exact ⟨hm, (hp _ hm).2 ⟨r, by rw [e]; exact j2, hK⟩⟩
    · rintro ⟨hg', hpg⟩
      obtain ⟨r, h1, hK⟩ := (hp _ hg').1 hpg
      obtain ⟨j, r', h2, h3, h4⟩ := mem_refFlags'.1 hg'
      rw [h3, Int.toNat_natCast, h2] at h1
      obtain rfl := Option.some.inj h1
      rw [h.keyFlags hg (κ := (r'.name, g.2)) hK k] at h4
      obtain ⟨f, hf, rfl⟩ := List.mem_map.1 h4
      refine ⟨f, ?_, rfl⟩
      obtain ⟨i, r2, y2, e1, e2, e3, e4⟩ := mem_keyFlags hf
      refine mem_refFlags'.2 ⟨i, r2, e1, by rw [e4], ?_⟩
      have : r2.name = r'.name := by have := (Prod.ext_iff.1 e3).1; exact this.symm
      rw [this]
      exact hf
end
end Go.Abs
