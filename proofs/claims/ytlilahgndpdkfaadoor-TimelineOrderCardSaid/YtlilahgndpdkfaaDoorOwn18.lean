/-
  Texts of this claim: PureFlags, PureIns, PureRef, PurePerm, PureMove.
-/
import Derived.Test.YtlilahgndpdkfaaDoorOwn15
set_option linter.all false
/-
  Flags in order.
-/
namespace Go.Abs
open Go

theorem insK_weak {ks : List Nat} (r : List Int) : ∀ l : List (List Int), l.Pairwise (fun a b => ltK (Abs.keyOf ks b) (Abs.keyOf ks a) = false) → (insK ks r l).Pairwise (fun a b => ltK (Abs.keyOf ks b) (Abs.keyOf ks a) = false)
  | [], _ => by simp [insK]
  | x :: l, h => by
    have h' := List.pairwise_cons.1 h
    simp only [insK]
    cases hc : ltK (Abs.keyOf ks r) (Abs.keyOf ks x) with
    | true =>
      refine List.Pairwise.cons (fun y hy => ?_) h
      rw [Bool.eq_false_iff]
      intro hy2
      rcases List.mem_cons.1 hy with rfl | hy
      · have := ltK_trans hc hy2
        rw [ltK_irrefl] at this; cases this
      · have := ltK_trans hy2 hc
        rw [h'.1 y hy] at this; cases this
    | false =>
      refine List.Pairwise.cons (fun y hy => ?_) (insK_weak r l h'.2)
      rcases List.mem_cons.1 ((insK_perm ks r l).mem_iff.1 hy) with rfl | hy
      · exact hc
      · exact h'.1 y hy

theorem sortK_weak {ks : List Nat} : ∀ l : List (List Int), (sortK ks l).Pairwise (fun a b => ltK (Abs.keyOf ks b) (Abs.keyOf ks a) = false)
  | [] => .nil
  | r :: l => insK_weak r _ (sortK_weak l)

theorem sortK_eq {ks : List Nat} {l s : List (List Int)} (hs : s.Pairwise fun a b => ltK (Abs.keyOf ks a) (Abs.keyOf ks b) = true) (hp : s.Perm l) : sortK ks l = s :=
  sorted_unique (lt := fun a b => ltK (Abs.keyOf ks a) (Abs.keyOf ks b)) hs (sortK_weak l) ((sortK_perm ks l).trans hp.symm)

/-- By report, then by element. -/
def lt2 (a b : Int × Int) : Prop := a.1 < b.1 ∨ (a.1 = b.1 ∧ a.2 < b.2)

def flagI (f : Int × Int) : List Int := [f.1, f.2, 4]
def flagR (f : Int × Int) : List AV := [i64 f.1, i64 f.2, i64 4]
def flagRows (l : List (Int × Int)) : List (List AV) := l.map flagR
@[simp] theorem flagRows_length {l : List (Int × Int)} : (flagRows l).length = l.length := by simp [flagRows]
theorem flagRows_row {l : List (Int × Int)} : ∀ x ∈ flagRows l, x.length = 3 ∧ imms x = some x := by
  intro x hx
  obtain ⟨f, _, rfl⟩ := List.mem_map.1 hx
  simp [flagR]
theorem flagRows_ints (l : List (Int × Int)) : flagRows l = (l.map flagI).map fun r => r.map fun n => AV.int .i64 n := by simp [flagRows, flagR, flagI, Function.comp_def]

theorem ltK_flag {a b : Int × Int} (h : lt2 a b) : ltK (Abs.keyOf [0, 1] (flagI a)) (Abs.keyOf [0, 1] (flagI b)) = true := by
  simp only [Abs.keyOf, flagI, List.map_cons, List.map_nil, List.getD_cons_zero, List.getD_cons_succ, ltK, Bool.or_eq_true, decide_eq_true_eq, Bool.and_eq_true, beq_iff_eq, Bool.or_false, Bool.and_false, Bool.false_eq_true, and_false, or_false]
  exact h

theorem flags_sorted {R F : List (Int × Int)} (hF : F.Pairwise lt2) (hp : F.Perm R) : sortedBy (fun n => n) [0, 1] (flagRows R) = some (flagRows F) := by
  unfold sortedBy
  rw [flagRows_ints, intRows_map _ (fun _ => rfl)]
  have hs : (F.map flagI).Pairwise fun a b => ltK (Abs.keyOf [0, 1] a) (Abs.keyOf [0, 1] b) = true := by
    rw [List.pairwise_map]; exact hF.imp ltK_flag
  simp only [Option.bind_some]
  rw [sortK_eq hs (hp.map flagI), incrK_of hs, cond_true, ← flagRows_ints]

theorem setC_all : ∀ (cs vs : List AV), vs.length = cs.length → setC cs 0 vs = vs := by
  have gen : ∀ (vs pre cs : List AV), vs.length = cs.length → setC (pre ++ cs) pre.length vs = pre ++ vs := by
    intro vs
    induction vs with
    | nil => intro pre cs h; simp at h; simp [setC, List.eq_nil_of_length_eq_zero h.symm]
    | cons v vs ih =>
      intro pre cs h
      cases cs with
      | nil => simp at h
      | cons c cs =>
        simp only [setC]
        rw [List.set_append_right _ _ (Nat.le_refl _), Nat.sub_self, List.set_cons_zero]
        have := ih (pre ++ [v]) cs (by simpa using h)
        simpa using this
  intro cs vs h
  simpa using gen vs [] cs h

/-- The sort of the flags. -/
theorem sortV_flags {S : Store} {n f : Nat} {v : AV} {R F : List (Int × Int)} (hg : Grow n 3 S v (flagRows R)) (hF : F.Pairwise lt2) (hp : F.Perm R) (hl : R.length ≤ 1000000) :
    ∃ S', sortV 3 [0, 1] f [v, .clo f []] S = some (.tup [], S') ∧ Grow n 3 S' v (flagRows F) ∧ S'.length = S.length ∧ ∀ j, j < n → S'[j]? = S[j]? := by
  rcases hg with ⟨h1, rfl⟩ | ⟨h1, i, h2, rfl, h3⟩
  · have hR : R = [] := by simpa [flagRows] using h1
    subst hR
    have hF' : F = [] := hp.eq_nil
    subst hF'
    exact ⟨S, by simp [sortV, sortG, Nat.beq_refl], .inl ⟨rfl, rfl⟩, rfl, fun _ _ => rfl⟩
  · have hi : i < S.length := (List.getElem?_eq_some_iff.1 h3).1
    have hlen := flatten_length (sz := 3) (xs := flagRows R) fun x hx => (flagRows_row x hx).1
    have hlen2 := flatten_length (sz := 3) (xs := flagRows F) fun x hx => (flagRows_row x hx).1
    have hch := chunks_rows (sz := 3) (xs := flagRows R) (fun x hx => (flagRows_row x hx).1) []
    rw [List.append_nil] at hch
    have hpl := hp.length_eq
    have hF0 : flagRows F ≠ [] := by
      intro h
      have : F = [] := by simpa [flagRows] using h
      subst this
      have : R = [] := hp.symm.eq_nil
      subst this
      exact h1 rfl
    refine ⟨S.set i (.obj (flagRows F).flatten), ?_, .inr ⟨hF0, i, h2, by simp [hpl], List.getElem?_set_self hi⟩, by simp, fun j hj => List.getElem?_set_ne (by omega)⟩
    unfold sortV sortG
    simp only [Nat.beq_refl, Bool.and_true, cond_true, h3, List.drop_zero, hch, flags_sorted hF hp, Option.bind_some]
    rw [if_pos ⟨by rw [hlen]; omega, by simp; omega⟩, setC_all _ _ (by rw [hlen, hlen2]; simp [hpl])]

end Go.Abs

/-
  A line, its readings put in one after the other.
-/
namespace Go.Abs
open Go

/-- How many come ahead of a time. -/
def posT (t : Int) : List Pt → Nat
  | [] => 0
  | q :: l => if q.time < t then posT t l + 1 else 0

theorem posT_le (t : Int) : ∀ l, posT t l ≤ l.length
  | [] => Nat.le_refl _
  | q :: l => by
    have := posT_le t l
    simp only [posT, List.length_cons]
    split <;> omega

theorem posT_lt {t : Int} : ∀ {l : List Pt} {j : Nat} (_ : j < posT t l) (hj : j < l.length), (l[j]).time < t
  | [], _, _, hj => by simp at hj
  | q :: l, j, h, hj => by
    simp only [posT] at h
    split at h
    · rename_i hq
      cases j with
      | zero => exact hq
      | succ j => exact posT_lt (l := l) (by omega) (by simpa using hj)
    · omega

theorem posT_at {t : Int} : ∀ {l : List Pt} (h : posT t l < l.length), ¬ (l[posT t l]).time < t
  | [], h => by simp at h
  | q :: l, h => by
    by_cases hq : q.time < t
    · have e : posT t (q :: l) = posT t l + 1 := by simp [posT, hq]
      simp only [e] at h ⊢
      simp only [List.getElem_cons_succ]
      exact posT_at (by simpa using h)
    · have e : posT t (q :: l) = 0 := by simp [posT, hq]
      simp only [e]
      exact hq

def putIn (p : Pt) (l : List Pt) : List Pt := l.take (posT p.time l) ++ p :: l.drop (posT p.time l)

theorem putIn_perm (p : Pt) (l : List Pt) : (putIn p l).Perm (p :: l) := by
  unfold putIn
  have : (p :: l).Perm (p :: (l.take (posT p.time l) ++ l.drop (posT p.time l))) := by rw [List.take_append_drop]
  exact List.perm_middle.trans this.symm

theorem putIn_sorted {p : Pt} {l : List Pt} (h : l.Pairwise fun a b => a.time < b.time) (hp : ∀ q ∈ l, q.time ≠ p.time) : (putIn p l).Pairwise fun a b => a.time < b.time := by
  unfold putIn
  rw [List.pairwise_append]
  have hd : ∀ q ∈ l.drop (posT p.time l), p.time < q.time := by
    intro q hq
    obtain ⟨i, hi, rfl⟩ := List.getElem_of_mem hq
    have hil : posT p.time l + i < l.length := by simp at hi; omega
    rw [List.getElem_drop]
    have h0 := posT_at (t := p.time) (l := l) (by omega)
    have hne := hp _ (List.getElem_mem hil)
    by_cases hi0 : i = 0
    · subst hi0
      simp only [Nat.add_zero] at hne ⊢
      omega
    · have := (List.pairwise_iff_getElem.1 h) (posT p.time l) (posT p.time l + i) (by omega) hil (by omega)
      omega
  refine ⟨h.sublist (List.take_sublist _ _), List.Pairwise.cons hd (h.sublist (List.drop_sublist _ _)), fun a ha b hb => ?_⟩
  obtain ⟨i, hi, rfl⟩ := List.getElem_of_mem ha
  have hi' : i < posT p.time l ∧ i < l.length := by simp at hi; omega
  rw [List.getElem_take]
  have h1 := posT_lt hi'.1 hi'.2
  rcases List.mem_cons.1 hb with rfl | hb
  · exact h1
  · have := hd b hb; omega

/-- The one order by time. -/
theorem line_unique {l : List Rep} (h : Good l) {x : Key} {Q : List Pt} (hs : Q.Pairwise fun a b => a.time < b.time) (hp : Q.Perm (ptsOf (allR l 0) x)) : Q = lineP l x := by
  have h1 := sortT_strict (h.times x)
  refine (sorted_unique (lt := fun a b => decide (a.time < b.time)) (h1.imp fun {a b} h => by simpa using h) (hs.imp fun {a b} h => by simp; omega) (hp.trans (sortT_perm _).symm))

theorem ent_find {r : Rep} {i : Nat} {x : Key} (h : validP r.rd = 0) : ptsOf (entR i r) x = if r.name = x.1 then (match findP r.rd x.2 with | some v => [⟨i, r.time, v⟩] | none => []) else [] := by
  have hp := incrR_pairwise (validP_zero h).2
  unfold entR ptsOf findP
  generalize r.rd = l at hp
  by_cases hn : r.name = x.1
  · rw [if_pos hn]
    induction l with
    | nil => rfl
    | cons a l ih =>
      have hp' := List.pairwise_cons.1 hp
      by_cases ha : a.1 = x.2
      · have hrest : (l.map fun y => (((r.name, y.1) : Key), (⟨i, r.time, y.2⟩ : Pt))).filter (fun e => e.1 == x) = [] := by
          rw [List.filter_eq_nil_iff]
          intro e he
          obtain ⟨y, hy, rfl⟩ := List.mem_map.1 he
          have := hp'.1 y hy
          simp only [beq_iff_eq, Prod.ext_iff]
          omega
        simp only [List.map_cons, List.filter_cons, hrest]
        have : ((r.name, x.2) : Key) = x := by rw [hn]
        simp [this, ha]
      · have h1 : (((r.name, a.1) : Key) == x) = false := by simp [Prod.ext_iff, hn, ha]
        simp only [List.map_cons, List.filter_cons, h1, List.find?_cons]
        have h2 : (a.1 == x.2) = false := by simpa using ha
        rw [h2]
        exact ih hp'.2
  · rw [if_neg hn]
    rw [List.filter_eq_nil_iff.2]
    · rfl
    · intro e he
      obtain ⟨y, hy, rfl⟩ := List.mem_map.1 he
      simp [Prod.ext_iff, hn]

end Go.Abs

/-
  The flags of the reference, in plain Lean.
-/
namespace Go.Abs
open Go

def flagsOf (L : List Pt) (s p c : Int) (n : Nat) : List (Int × Int) := ((List.range n).filter fun i => rejP L s p i).map fun i => ((L.getD i ⟨0, 0, 0⟩).rep, c)

/-- The steps and the spikes of an element. -/
def stepOf (k : Ctl) (c : Int) : Int := k.steps.getD c.toNat 0
def spikeOf (k : Ctl) (c : Int) : Int := k.spikes.getD c.toNat 0

def keyFlags (l : List Rep) (k : Ctl) (x : Key) : List (Int × Int) := flagsOf (lineP l x) (stepOf k x.2) (spikeOf k x.2) x.2 (lineP l x).length

/-- Those of a report. -/
def ofRep (i : Nat) (F : List (Int × Int)) : List (Int × Int) := F.filter fun f => f.1 == (i : Int)

def rowFlags (l : List Rep) (k : Ctl) (i : Nat) (r : Rep) (n : Nat) : List (Int × Int) := (r.rd.take n).flatMap fun y => ofRep i (keyFlags l k (r.name, y.1))

def refFlags (l : List Rep) (k : Ctl) (n : Nat) : List (Int × Int) := (List.range n).flatMap fun i => match l[i]? with | some r => rowFlags l k i r r.rd.length | none => []

theorem refFlags_succ {l : List Rep} {k : Ctl} {n : Nat} (h : n < l.length) : refFlags l k (n + 1) = refFlags l k n ++ rowFlags l k n l[n] (l[n]).rd.length := by
  unfold refFlags
  rw [List.range_succ, List.flatMap_append]
  simp only [List.flatMap_cons, List.flatMap_nil, List.append_nil, List.getElem?_eq_getElem h]

theorem rowFlags_succ {l : List Rep} {k : Ctl} {i : Nat} {r : Rep} {n : Nat} (h : n < r.rd.length) : rowFlags l k i r (n + 1) = rowFlags l k i r n ++ ofRep i (keyFlags l k (r.name, (r.rd[n]).1)) := by
  unfold rowFlags
  rw [List.take_succ_eq_append_getElem h, List.flatMap_append]
  simp only [List.flatMap_cons, List.flatMap_nil, List.append_nil]

end Go.Abs

/-
  The reference's flags are those of all lines, in order.
-/
namespace Go.Abs
open Go

theorem reps_nodup : ∀ {l : List Rep} (i : Nat), (∀ r ∈ l, validP r.rd = 0) → ∀ x, ((ptsOf (allR l i) x).map (·.rep)).Nodup
  | [], _, _, x => by simp [allR, ptsOf]
  | r :: l, i, hv, x => by
    have ih := reps_nodup (l := l) (i + 1) (fun r' hr => hv r' (List.mem_cons_of_mem _ hr)) x
    rw [allR, ptsOf_append, List.map_append, List.nodup_append]
    have h1 := ent_once (i := i) (x := x) (hv r (by simp))
    refine ⟨?_, ih, fun a ha b hb hab => ?_⟩
    · match hm : ptsOf (entR i r) x, h1 with
      | [], _ => simp
      | [p], _ => simp
      | _ :: _ :: _, h => rw [hm] at h1; simp at h1
    · obtain ⟨p, hp, rfl⟩ := List.mem_map.1 ha
      obtain ⟨p', hp', rfl⟩ := List.mem_map.1 hb
      rw [mem_ptsOf] at hp hp'
      simp only [entR, List.mem_map, Prod.mk.injEq] at hp
      obtain ⟨y, hy, hyx, rfl⟩ := hp
      obtain ⟨j, r', z, h2, h3, h4⟩ := mem_allR.1 hp'
      simp only [Prod.mk.injEq] at h4
      obtain ⟨_, rfl⟩ := h4
      simp only at hab
      omega

theorem line_reps {l : List Rep} (h : Good l) (x : Key) : ((lineP l x).map (·.rep)).Nodup := ((sortT_perm _).map _).nodup_iff.2 (reps_nodup 0 h.valid x)

theorem keyFlags_nodup {l : List Rep} {k : Ctl} (h : Good l) (x : Key) : (keyFlags l k x).Nodup := by
  have hr := line_reps h x
  unfold keyFlags flagsOf
  rw [List.Nodup, List.pairwise_map]
  refine List.Pairwise.imp_of_mem (fun {a b} ha hb hab e => hab ?_) (List.Pairwise.filter _ List.nodup_range)
  have ha' : a < (lineP l x).length := List.mem_range.1 (List.mem_filter.1 ha).1
  have hb' : b < (lineP l x).length := List.mem_range.1 (List.mem_filter.1 hb).1
  have e' := (Prod.ext_iff.1 e).1
  simp only [List.getD_eq_getElem?_getD, List.getElem?_eq_getElem ha', List.getElem?_eq_getElem hb', Option.getD_some] at e'
  have : ((lineP l x).map (·.rep))[a]'(by simpa using ha') = ((lineP l x).map (·.rep))[b]'(by simpa using hb') := by simpa using e'
  exact (List.getElem_inj hr).1 this

theorem mem_keyFlags {l : List Rep} {k : Ctl} {x : Key} {f : Int × Int} (h : f ∈ keyFlags l k x) : ∃ (j : Nat) (r : Rep) (y : Rd), l[j]? = some r ∧ y ∈ r.rd ∧ x = (r.name, y.1) ∧ f = ((j : Int), x.2) := by
  unfold keyFlags flagsOf at h
  obtain ⟨i, hi, rfl⟩ := List.mem_map.1 h
  have hi' : i < (lineP l x).length := List.mem_range.1 (List.mem_filter.1 hi).1
  have hm : (lineP l x)[i] ∈ ptsOf (allR l 0) x := (sortT_perm _).mem_iff.1 (List.getElem_mem hi')
  rw [mem_ptsOf] at hm
  obtain ⟨j, r, y, h1, h2, h3⟩ := mem_allR.1 hm
  simp only [Prod.mk.injEq] at h3
  refine ⟨j, r, y, h1, h2, h3.1, ?_⟩
  rw [List.getD_eq_getElem?_getD, List.getElem?_eq_getElem hi', Option.getD_some, h3.2]
  simp

theorem mem_ofRep {i : Nat} {F : List (Int × Int)} {f : Int × Int} : f ∈ ofRep i F ↔ f ∈ F ∧ f.1 = (i : Int) := by
  unfold ofRep
  rw [List.mem_filter]
  simp

theorem mem_refFlags {l : List Rep} {k : Ctl} {f : Int × Int} : f ∈ refFlags l k l.length ↔ ∃ (i : Nat) (r : Rep) (y : Rd), l[i]? = some r ∧ y ∈ r.rd ∧ f ∈ keyFlags l k (r.name, y.1) ∧ f.1 = (i : Int) := by
  unfold refFlags
  rw [List.mem_flatMap]
  constructor
  · rintro ⟨i, hi, h⟩
    cases hr : l[i]? with
    | none => rw [hr] at h; cases h
    | some r =>
      rw [hr] at h
      simp only [rowFlags, List.mem_flatMap, mem_ofRep] at h
      obtain ⟨y, hy, h1, h2⟩ := h
      exact ⟨i, r, y, hr, List.mem_of_mem_take hy, h1, h2⟩
  · rintro ⟨i, r, y, hr, hy, h1, h2⟩
    refine ⟨i, List.mem_range.2 (List.getElem?_eq_some_iff.1 hr).1, ?_⟩
    rw [hr]
    simp only [rowFlags, List.mem_flatMap, mem_ofRep]
    exact ⟨y, by rw [List.take_length]; exact hy, h1, h2⟩

theorem refFlags_sorted {l : List Rep} {k : Ctl} (h : Good l) : (refFlags l k l.length).Pairwise lt2 := by
  unfold refFlags
  rw [List.pairwise_flatMap]
  refine ⟨fun i _ => ?_, ?_⟩
  · cases hr : l[i]? with
    | none => exact .nil
    | some r =>
      simp only [rowFlags]
      rw [List.pairwise_flatMap]
      refine ⟨fun y _ => ?_, ?_⟩
      · have hn := List.Pairwise.filter (fun f : Int × Int => f.1 == (i : Int)) (keyFlags_nodup (k := k) h (r.name, y.1))
        refine List.Pairwise.imp_of_mem (fun {a b} ha hb hab => ?_) hn
        have ha' := mem_ofRep.1 ha
        have hb' := mem_ofRep.1 hb
        obtain ⟨_, _, _, _, _, _, ea⟩ := mem_keyFlags ha'.1
        obtain ⟨_, _, _, _, _, _, eb⟩ := mem_keyFlags hb'.1
        exact absurd (Prod.ext (ha'.2.trans hb'.2.symm) (by rw [ea, eb])) hab
      · have hp := incrR_pairwise (validP_zero (h.valid r (List.mem_of_getElem? hr))).2
        rw [List.take_length]
        refine hp.imp fun {y z} hyz a ha b hb => ?_
        have ha' := mem_ofRep.1 ha
        have hb' := mem_ofRep.1 hb
        obtain ⟨_, _, _, _, _, _, ea⟩ := mem_keyFlags ha'.1
        obtain ⟨_, _, _, _, _, _, eb⟩ := mem_keyFlags hb'.1
        exact .inr ⟨ha'.2.trans hb'.2.symm, by rw [ea, eb]; exact hyz⟩
  · refine (List.pairwise_lt_range).imp fun {i j} hij a ha b hb => ?_
    have first : ∀ {i : Nat} {a : Int × Int}, (a ∈ match l[i]? with | some r => rowFlags l k i r r.rd.length | none => []) → a.1 = (i : Int) := fun {i a} ha => by
      cases hr : l[i]? with
      | none => rw [hr] at ha; cases ha
      | some r =>
        rw [hr] at ha
        simp only [rowFlags, List.mem_flatMap, mem_ofRep] at ha
        obtain ⟨_, _, _, h⟩ := ha
        exact h
    left
    rw [first ha, first hb]
    omega

theorem lt2_ne {a b : Int × Int} (h : lt2 a b) : a ≠ b := fun e => by
  subst e
  rcases h with h | ⟨_, h⟩ <;> omega

theorem refFlags_perm {l : List Rep} {k : Ctl} (h : Good l) : (refFlags l k l.length).Perm ((seenK ((allR l 0).map (·.1))).flatMap (keyFlags l k)) := by
  refine (List.perm_ext_iff_of_nodup ((refFlags_sorted h).imp lt2_ne) ?_).2 fun f => ?_
  · rw [List.Nodup, List.pairwise_flatMap]
    refine ⟨fun x _ => keyFlags_nodup h x, (seenK_nodup _).imp fun {x x'} hne a ha b hb e => hne ?_⟩
    subst e
    obtain ⟨j, r, y, h1, h2, h3, h4⟩ := mem_keyFlags ha
    obtain ⟨j', r', y', h1', h2', h3', h4'⟩ := mem_keyFlags hb
    rw [h4] at h4'
    have e1 := (Prod.ext_iff.1 h4').1
    have e2 := (Prod.ext_iff.1 h4').2
    simp only at e1 e2
    have : j = j' := by omega
    subst this
    rw [h1] at h1'
    cases h1'
    rw [h3, h3'] at e2 ⊢
    simp only at e2
    rw [e2]
  · rw [mem_refFlags, List.mem_flatMap]
    constructor
    · rintro ⟨i, r, y, h1, h2, h3, h4⟩
      refine ⟨_, ?_, h3⟩
      rw [mem_seenK]
      exact List.mem_map.2 ⟨_, mem_allR.2 ⟨i, r, y, h1, h2, rfl⟩, rfl⟩
    · rintro ⟨x, _, hf⟩
      obtain ⟨j, r, y, h1, h2, h3, h4⟩ := mem_keyFlags hf
      exact ⟨j, r, y, h1, h2, by rw [← h3]; exact hf, by rw [h4]⟩

end Go.Abs

/-
  Lines that are moved: other reports of the same readings, other times, other values.
-/
namespace Go.Abs
open Go

/-- A change of readings that leaves all differences as_ they are. -/
structure Move (f : Pt → Pt) : Prop where
  time : ∀ a b, (f b).time - (f a).time = b.time - a.time
  val : ∀ a b, (f b).val - (f a).val = b.val - a.val

section
variable {f : Pt → Pt}

theorem Move.size (h : Move f) (a b : Pt) : sizeP (f a) (f b) = sizeP a b := by
  unfold sizeP
  rw [h.val b a, h.val a b]

theorem Move.slow (h : Move f) (a b : Pt) (s : Int) : slowP (f a) (f b) s = slowP a b s := by
  unfold slowP
  rw [h.size, h.time]

theorem getD_map_pt {L : List Pt} {i : Nat} (hi : i < L.length) (d d' : Pt) : (L.map f).getD i d = f (L.getD i d') := by
  simp [List.getD_eq_getElem?_getD, List.getElem?_map, List.getElem?_eq_getElem hi]

theorem Move.ok (h : Move f) {L : List Pt} {s : Int} {g i : Nat} (hg : g < L.length) (hi : i < L.length) : okP (L.map f) s g i = okP L s g i := by
  unfold okP
  rw [getD_map_pt hg _ ⟨0, 0, 0⟩, getD_map_pt hi _ ⟨0, 0, 0⟩, h.slow, List.length_map]
  by_cases h1 : i + 1 < L.length
  · rw [getD_map_pt h1 _ ⟨0, 0, 0⟩, h.slow]
  · simp [h1]

theorem Move.good (h : Move f) {L : List Pt} {s : Int} : ∀ {i : Nat}, i < L.length → goodP (L.map f) s i = goodP L s i
  | 0, _ => rfl
  | i + 1, hi => by
    have ih := h.good (L := L) (s := s) (i := i) (by omega)
    have hg := goodP_le L s i
    unfold goodP
    rw [ih, h.ok (by omega) hi]

theorem Move.spike (h : Move f) (a b c : Pt) (p : Int) : spikeP (f a) (f b) (f c) p = spikeP a b c p := by
  unfold spikeP
  rw [h.size, h.val a b, h.val c b, h.val b a, h.val b c]

theorem Move.rej (h : Move f) {L : List Pt} {s p : Int} {i : Nat} (hi : i < L.length) : rejP (L.map f) s p i = rejP L s p i := by
  unfold rejP stepP spkP
  rw [h.good hi, List.length_map]
  congr 1
  by_cases h1 : i + 1 < L.length
  · rw [getD_map_pt (by omega : i - 1 < L.length) _ ⟨0, 0, 0⟩, getD_map_pt hi _ ⟨0, 0, 0⟩, getD_map_pt h1 _ ⟨0, 0, 0⟩, h.spike]
  · simp [h1]
end

/-- The same readings, moved: the same line, moved. -/
theorem line_map {x y : List Rep} {κ κ' : Key} {f : Pt → Pt} (hf : Move f) (hx : ((ptsOf (allR x 0) κ).map (·.time)).Nodup) (hp : (ptsOf (allR y 0) κ').Perm ((ptsOf (allR x 0) κ).map f)) : lineP y κ' = (lineP x κ).map f := by
  unfold lineP
  refine sorted_unique (lt := fun a b => decide (a.time < b.time)) ?_ ?_ ?_
  · rw [List.pairwise_map]
    refine (sortT_strict hx).imp fun {a b} h => ?_
    have := hf.time a b
    simp only [decide_eq_true_eq]; omega
  · refine (sortT_sorted _).imp fun {a b} h => ?_
    simp only [decide_eq_false_iff_not]; omega
  · exact (sortT_perm _).trans (hp.trans ((sortT_perm _).symm.map f))

theorem flagsOf_map {f : Pt → Pt} (hf : Move f) {L : List Pt} {s p c : Int} {ρ : Int → Int} (hρ : ∀ a ∈ L, (f a).rep = ρ a.rep) : flagsOf (L.map f) s p c (L.map f).length = (flagsOf L s p c L.length).map fun g => (ρ g.1, g.2) := by
  unfold flagsOf
  rw [List.length_map, List.map_map]
  have h1 : (List.range L.length).filter (fun i => rejP (L.map f) s p i) = (List.range L.length).filter fun i => rejP L s p i := by
    refine List.filter_congr fun i hi => ?_
    rw [hf.rej (List.mem_range.1 hi)]
  rw [h1]
  refine List.map_congr_left fun i hi => ?_
  have hi' : i < L.length := List.mem_range.1 (List.mem_filter.1 hi).1
  simp only [Function.comp]
  rw [getD_map_pt hi' _ ⟨0, 0, 0⟩, hρ _ (by rw [List.getD_eq_getElem?_getD, List.getElem?_eq_getElem hi']; exact List.getElem_mem hi')]

/-- The flags of a moved line. -/
theorem keyFlags_map {x y : List Rep} {k : Ctl} {κ κ' : Key} {f : Pt → Pt} {ρ : Int → Int} (hf : Move f) (hκ : κ'.2 = κ.2) (hx : ((ptsOf (allR x 0) κ).map (·.time)).Nodup) (hp : (ptsOf (allR y 0) κ').Perm ((ptsOf (allR x 0) κ).map f)) (hρ : ∀ a ∈ ptsOf (allR x 0) κ, (f a).rep = ρ a.rep) :
    keyFlags y k κ' = (keyFlags x k κ).map fun g => (ρ g.1, g.2) := by
  unfold keyFlags
  rw [line_map hf hx hp, hκ]
  exact flagsOf_map hf fun a ha => hρ a ((sortT_perm _).mem_iff.1 ha)

/-- Flags are those of the reports' own lines. -/
theorem mem_refFlags' {l : List Rep} {k : Ctl} {f : Int × Int} : f ∈ refFlags l k l.length ↔ ∃ (i : Nat) (r : Rep), l[i]? = some r ∧ f.1 = (i : Int) ∧ f ∈ keyFlags l k (r.name, f.2) := by
  rw [mem_refFlags]
  constructor
  · rintro ⟨i, r, y, h1, h2, h3, h4⟩
    obtain ⟨_, _, _, _, _, _, e⟩ := mem_keyFlags h3
    have e2 : f.2 = y.1 := by rw [e]
    exact ⟨i, r, h1, h4, by rw [e2]; exact h3⟩
  · rintro ⟨i, r, h1, h2, h3⟩
    obtain ⟨j, r', y', h4, h5, h6, h7⟩ := mem_keyFlags h3
    have hj : j = i := by
      rw [h7] at h2
      simp only at h2
      omega
    subst hj
    rw [h1] at h4
    cases h4
    have e2 : f.2 = y'.1 := (Prod.ext_iff.1 h6).2
    exact ⟨j, r, y', h1, h5, by rw [← e2]; exact h3, h2⟩

/-- Lists in order with the same members are the same. -/
theorem lt2_unique {F G : List (Int × Int)} (hF : F.Pairwise lt2) (hG : G.Pairwise lt2) (h : ∀ f, f ∈ F ↔ f ∈ G) : F = G := by
  have hp : F.Perm G := (List.perm_ext_iff_of_nodup (hF.imp lt2_ne) (hG.imp lt2_ne)).2 h
  refine sorted_unique (lt := fun a b => decide (a.1 < b.1) || (decide (a.1 = b.1) && decide (a.2 < b.2))) (s := G) ?_ ?_ hp
  · exact hG.imp fun {a b} h => by
      rcases h with h | ⟨h1, h2⟩
      · simp [h]
      · simp [h1, h2]
  · exact hF.imp fun {a b} h => by
      rcases h with h | ⟨h1, h2⟩
      · simp; omega
      · simp; omega
end Go.Abs
