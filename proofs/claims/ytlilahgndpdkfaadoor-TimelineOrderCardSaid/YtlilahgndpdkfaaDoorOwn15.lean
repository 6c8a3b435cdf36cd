/-
  Texts of this claim: PureLine, PureMap, PureValid.
-/
import Derived.Test.YtlilahgndpdkfaaDoorOwn6
import Derived.Test.YtlilahgndpdkfaaDoorOwn9
import Derived.Test.YtlilahgndpdkfaaDoorOwn10
set_option linter.all false
/-
  Lines: the readings of a name and an element, in order of time.
-/
namespace Go.Abs
open Go

def ptI (p : Pt) : List Int := [p.rep, p.time, p.val]

theorem pts_ints (l : List Pt) : pts l = (l.map ptI).map fun r => r.map fun n => AV.int .i64 n := by simp [pts, ptR, ptI, Function.comp_def]

theorem pts_row {l : List Pt} : ∀ x ∈ pts l, x.length = 3 ∧ imms x = some x := by
  intro x hx
  obtain ⟨p, _, rfl⟩ := List.mem_map.1 hx
  simp [ptR]

theorem intRows_map (φ : Int → Int) (hφ : ∀ n, φ n = n) : ∀ l : List (List Int), intRows φ (l.map fun r => r.map fun n => AV.int .i64 n) = some l
  | [] => rfl
  | r :: l => by
    have h : ∀ r : List Int, intRow φ (r.map fun n => AV.int .i64 n) = some r := by
      intro r
      induction r with
      | nil => rfl
      | cons a r ih => simp [intRow, hφ, ih]
    simp [intRows, h, intRows_map φ hφ l]

/-! ### Sorted by time -/

def insT (p : Pt) : List Pt → List Pt
  | [] => [p]
  | x :: l => if p.time < x.time then p :: x :: l else x :: insT p l

def sortT : List Pt → List Pt
  | [] => []
  | p :: l => insT p (sortT l)

theorem insT_perm (p : Pt) : ∀ l, (insT p l).Perm (p :: l)
  | [] => .refl _
  | x :: l => by
    simp only [insT]
    split
    · exact .refl _
    · exact ((insT_perm p l).cons x).trans (.swap p x l)

theorem sortT_perm : ∀ l, (sortT l).Perm l
  | [] => .refl _
  | p :: l => (insT_perm p _).trans ((sortT_perm l).cons p)

theorem insT_sorted (p : Pt) : ∀ l : List Pt, l.Pairwise (fun a b => a.time ≤ b.time) → (insT p l).Pairwise (fun a b => a.time ≤ b.time)
  | [], _ => by simp [insT]
  | x :: l, h => by
    have h' := List.pairwise_cons.1 h
    simp only [insT]
    split
    · rename_i hlt
      refine List.Pairwise.cons (fun y hy => ?_) h
      rcases List.mem_cons.1 hy with rfl | hy
      · omega
      · have := h'.1 y hy; omega
    · rename_i hge
      refine List.Pairwise.cons (fun y hy => ?_) (insT_sorted p l h'.2)
      rcases List.mem_cons.1 ((insT_perm p l).mem_iff.1 hy) with rfl | hy
      · omega
      · exact h'.1 y hy

theorem sortT_sorted : ∀ l : List Pt, (sortT l).Pairwise (fun a b => a.time ≤ b.time)
  | [] => .nil
  | p :: l => insT_sorted p _ (sortT_sorted l)

theorem sortT_strict {l : List Pt} (h : (l.map (·.time)).Nodup) : (sortT l).Pairwise (fun a b => a.time < b.time) := by
  have h1 : ((sortT l).map (·.time)).Nodup := ((sortT_perm l).map _).nodup_iff.2 h
  have h2 := sortT_sorted l
  rw [List.Nodup, List.pairwise_map] at h1
  exact (h1.and h2).imp fun {a b} ⟨h3, h4⟩ => by omega

theorem ltK_time (a b : Pt) : ltK (Abs.keyOf [1] (ptI a)) (Abs.keyOf [1] (ptI b)) = decide (a.time < b.time) := by
  simp [Abs.keyOf, ptI, ltK]

theorem insK_time (p : Pt) : ∀ l : List Pt, insK [1] (ptI p) (l.map ptI) = (insT p l).map ptI
  | [] => rfl
  | x :: l => by
    simp only [List.map_cons, insK, insT, ltK_time]
    by_cases h : p.time < x.time
    · simp [h]
    · simp [h, insK_time p l]

theorem sortK_time : ∀ l : List Pt, sortK [1] (l.map ptI) = (sortT l).map ptI
  | [] => rfl
  | p :: l => by simp only [List.map_cons, sortK, sortT, sortK_time l, insK_time]

theorem incrK_of {ks : List Nat} : ∀ {l : List (List Int)}, l.Pairwise (fun a b => ltK (Abs.keyOf ks a) (Abs.keyOf ks b) = true) → incrK ks l = true
  | [], _ => rfl
  | [x], _ => rfl
  | x :: y :: l, h => by
    have h' := List.pairwise_cons.1 h
    simp only [incrK, Bool.and_eq_true]
    exact ⟨h'.1 y (by simp), by have := incrK_of h'.2; simpa only [incrK, Bool.and_eq_true] using this⟩

/-- The sort of a line. -/
theorem sortV_line {S : Store} {i f : Nat} {l : List Pt} (hi : S[i]? = some (.obj (pts l).flatten)) (h0 : l ≠ []) (hl : l.length ≤ 1000000) (hn : (l.map (·.time)).Nodup) :
    sortV 3 [1] f [.osl i 0 l.length 3, .clo f []] S = some (.tup [], S.set i (.obj (pts (sortT l)).flatten)) := by
  have hlen := flatten_length (sz := 3) (xs := pts l) fun x hx => (pts_row x hx).1
  have hch := chunks_rows (sz := 3) (xs := pts l) (fun x hx => (pts_row x hx).1) []
  rw [List.append_nil, pts_length] at hch
  have hs : sortedBy (fun n => n) [1] (pts l) = some (pts (sortT l)) := by
    unfold sortedBy
    rw [pts_ints, intRows_map _ (fun _ => rfl)]
    simp only [Option.bind_some, sortK_time]
    rw [incrK_of (by
      rw [List.pairwise_map]
      exact (sortT_strict hn).imp fun {a b} h => by rw [ltK_time]; simpa using h)]
    rw [pts_ints]
    rfl
  have hfl2 := flatten_length (sz := 3) (xs := pts (sortT l)) fun x hx => (pts_row x hx).1
  have hpl := (sortT_perm l).length_eq
  have hset : ∀ (cs vs : List AV), vs.length = cs.length → setC cs 0 vs = vs := by
    have gen : ∀ (vs pre cs : List AV), vs.length = cs.length → setC (pre ++ cs) pre.length vs = pre ++ vs := by
      intro vs
      induction vs with
      | nil => intro pre cs h; simp at h; simp [setC, List.eq_nil_of_length_eq_zero h.symm]
      | cons v vs ih =>
        intro pre cs h
        cases cs with
        | nil => simp at h
        | cons c cs =>
          simp only [setC]
          rw [List.set_append_right _ _ (Nat.le_refl _), Nat.sub_self, List.set_cons_zero]
          have := ih (pre ++ [v]) cs (by simpa using h)
          simpa using this
    intro cs vs h
    simpa using gen vs [] cs h
  unfold sortV sortG
  simp only [Nat.beq_refl, Bool.and_true, cond_true, hi, List.drop_zero, hch, hs, Option.bind_some]
  rw [if_pos ⟨by rw [hlen, pts_length]; omega, by omega⟩, hset _ _ (by rw [hfl2, hlen]; simp [hpl])]

/-! ### The readings of reports, each with its name and element -/

def entR (i : Nat) (r : Rep) : List (Key × Pt) := r.rd.map fun x => ((r.name, x.1), ⟨i, r.time, x.2⟩)

def allR : List Rep → Nat → List (Key × Pt)
  | [], _ => []
  | r :: l, i => entR i r ++ allR l (i + 1)

theorem allR_append : ∀ (l m : List Rep) (i : Nat), allR (l ++ m) i = allR l i ++ allR m (i + l.length)
  | [], m, i => by simp [allR]
  | r :: l, m, i => by
    simp only [List.cons_append, allR, allR_append l m (i + 1), List.append_assoc, List.length_cons]
    rw [show i + 1 + l.length = i + (l.length + 1) by omega]

theorem allR_take {l : List Rep} {k : Nat} (hk : k < l.length) : allR (l.take (k + 1)) 0 = allR (l.take k) 0 ++ entR k l[k] := by
  rw [List.take_succ_eq_append_getElem hk, allR_append]
  simp [allR, List.length_take, Nat.min_eq_left (Nat.le_of_lt hk)]

def ptsOf (d : List (Key × Pt)) (x : Key) : List Pt := (d.filter fun e => e.1 == x).map (·.2)

theorem ptsOf_append (d e : List (Key × Pt)) (x : Key) : ptsOf (d ++ e) x = ptsOf d x ++ ptsOf e x := by simp [ptsOf]

theorem ptsOf_one (y : Key) (p : Pt) (x : Key) : ptsOf [(y, p)] x = if y = x then [p] else [] := by
  simp only [ptsOf, List.filter_cons, List.filter_nil]
  by_cases h : y = x
  · simp [h]
  · simp [h]

/-- The line of a name and an element. -/
def lineP (l : List Rep) (x : Key) : List Pt := sortT (ptsOf (allR l 0) x)

theorem seenK_snoc (l : List Key) (x : Key) : seenK (l ++ [x]) = addK (seenK l) x := by simp [seenK]

theorem mem_addK {ks : List Key} {x y : Key} : y ∈ addK ks x ↔ y ∈ ks ∨ y = x := by
  unfold addK
  split
  · constructor
    · exact .inl
    · rintro (h | rfl) <;> assumption
  · simp

theorem mem_seenK {l : List Key} {x : Key} : x ∈ seenK l ↔ x ∈ l := by
  have : ∀ (l acc : List Key), x ∈ l.foldl addK acc ↔ x ∈ acc ∨ x ∈ l := by
    intro l
    induction l with
    | nil => simp
    | cons a l ih =>
      intro acc
      rw [List.foldl_cons, ih, mem_addK, List.mem_cons]
      constructor
      · rintro ((h | h) | h)
        · exact .inl h
        · exact .inr (.inl h)
        · exact .inr (.inr h)
      · rintro (h | h | h)
        · exact .inl (.inl h)
        · exact .inl (.inr h)
        · exact .inr h
  simpa [seenK] using this l []

theorem addK_nodup {ks : List Key} {x : Key} (h : ks.Nodup) : (addK ks x).Nodup := by
  unfold addK
  split
  · exact h
  · rename_i hx
    rw [List.nodup_append]
    exact ⟨h, by simp, fun a ha b hb => by simp at hb; subst hb; intro e; subst e; exact hx ha⟩

theorem seenK_nodup (l : List Key) : (seenK l).Nodup := by
  have : ∀ (l acc : List Key), acc.Nodup → (l.foldl addK acc).Nodup := by
    intro l
    induction l with
    | nil => exact fun _ h => h
    | cons a l ih => exact fun acc h => ih _ (addK_nodup h)
  exact this l [] (by simp)

end Go.Abs

/-
  The map from names and elements to lines, as_ it is made.
-/
namespace Go.Abs
open Go

def entL (d : List (Key × Pt)) (idx : Key → Nat) (x : Key) : AV × AV := (kvS x, .osl (idx x) 0 (ptsOf d x).length 3)

/-- What the store holds when the readings d are in the map of the entry n. -/
structure LinI (n : Nat) (d : List (Key × Pt)) (S : Store) (idx : Key → Nat) : Prop where
  map : S[n]? = some (.map ((seenK (d.map (·.1))).map (entL d idx)))
  obj : ∀ x ∈ seenK (d.map (·.1)), n < idx x ∧ S[idx x]? = some (.obj (pts (ptsOf d x)).flatten)
  inj : ∀ x ∈ seenK (d.map (·.1)), ∀ y ∈ seenK (d.map (·.1)), idx x = idx y → x = y

theorem ptsOf_ne {d : List (Key × Pt)} {x : Key} (h : x ∈ seenK (d.map (·.1))) : ptsOf d x ≠ [] := by
  rw [mem_seenK] at h
  obtain ⟨e, he, rfl⟩ := List.mem_map.1 h
  intro h2
  have : e.2 ∈ ptsOf d e.1 := List.mem_map.2 ⟨e, List.mem_filter.2 ⟨he, by simp⟩, rfl⟩
  rw [h2] at this
  cases this

theorem ptsOf_nil {d : List (Key × Pt)} {x : Key} (h : x ∉ seenK (d.map (·.1))) : ptsOf d x = [] := by
  rw [mem_seenK] at h
  unfold ptsOf
  rw [List.filter_eq_nil_iff.2 fun e he => ?_]
  · rfl
  · intro h2
    exact h (List.mem_map.2 ⟨e, he, by simpa using h2⟩)

theorem ptsOf_le (d : List (Key × Pt)) (x : Key) : (ptsOf d x).length ≤ d.length := by
  unfold ptsOf
  rw [List.length_map]
  exact List.length_filter_le _ _

theorem ptsOf_snoc_self (d : List (Key × Pt)) (x : Key) (p : Pt) : ptsOf (d ++ [(x, p)]) x = ptsOf d x ++ [p] := by rw [ptsOf_append, ptsOf_one, if_pos rfl]
theorem ptsOf_snoc_ne (d : List (Key × Pt)) {x y : Key} (p : Pt) (h : y ≠ x) : ptsOf (d ++ [(x, p)]) y = ptsOf d y := by rw [ptsOf_append, ptsOf_one, if_neg (fun e => h e.symm), List.append_nil]

theorem entL_ne {d : List (Key × Pt)} {idx : Key → Nat} {x y : Key} {p : Pt} {k : Nat} (h : y ≠ x) : entL (d ++ [(x, p)]) (fun z => if z = x then k else idx z) y = entL d idx y := by
  unfold entL
  rw [ptsOf_snoc_ne d p h]
  simp [h]

/-- One reading more. -/
theorem LinI.add {n : Nat} {d : List (Key × Pt)} {S : Store} {idx : Key → Nat} (h : LinI n d S idx) (x : Key) (p : Pt) (hd : d.length ≤ 1000000) :
    ∃ v0 st S1 v2 S2 S3 idx', mapEntryV (AV.sl [] .full) true [1, 0] (.map n) (kvS x) S = some (.tup [v0, st], S1) ∧ appendMV 3 v0 (.sl [ptR p] .full) S1 = some (v2, S2) ∧ entryStoreV n (.map n) st v2 S2 = some S3 ∧
      LinI n (d ++ [(x, p)]) S3 idx' ∧ S.length ≤ S3.length ∧ (∀ j, j < n → S3[j]? = S[j]?) ∧ S.length ≤ idx' x ∧ ∀ y, y ≠ x → idx' y = idx y := by
  obtain ⟨h1, h2, h3⟩ := h
  have hn : n < S.length := (List.getElem?_eq_some_iff.1 h1).1
  have hkeys : ((seenK (d.map (·.1))).map (entL d idx)).map (·.1) = (seenK (d.map (·.1))).map kvS := by simp [entL, Function.comp_def]
  have hf := findI_kvS x _ _ 0 hkeys
  have himm : immV (kvS x) = some (kvS x) := by simp [immV, kvS]
  have hrows : immRows 3 [ptR p] = some [ptR p] := by simp [immRows, ptR]
  have hb : Nat.blt n n = false := blt_false (Nat.le_refl _)
  have hsn : (d ++ [(x, p)]).map (·.1) = d.map (·.1) ++ [x] := by simp
  have hnd := seenK_nodup (d.map (·.1))
  have hidx : ∀ y ∈ seenK (d.map (·.1)), idx y < S.length := fun y hy => (List.getElem?_eq_some_iff.1 (h2 y hy).2).1
  by_cases hx : x ∈ seenK (d.map (·.1))
  · -- a line that is there
    have hi := List.idxOf_lt_length_iff.2 hx
    have hgi : (seenK (d.map (·.1)))[(seenK (d.map (·.1))).idxOf x] = x := List.getElem_idxOf hi
    obtain ⟨o1, o2⟩ := h2 x hx
    have hlen := flatten_length (sz := 3) (xs := pts (ptsOf d x)) fun y hy => (pts_row y hy).1
    rw [pts_length] at hlen
    have hpos : 0 < (ptsOf d x).length := List.length_pos_iff.2 (ptsOf_ne hx)
    have hle := ptsOf_le d x
    have hget : ((seenK (d.map (·.1))).map (entL d idx))[(seenK (d.map (·.1))).idxOf x]? = some (entL d idx x) := by
      rw [List.getElem?_map, List.getElem?_eq_getElem hi, hgi]; rfl
    refine ⟨AV.osl (idx x) 0 (ptsOf d x).length 3, i64 ((seenK (d.map (·.1))).idxOf x : Nat), S, AV.osl S.length 0 ((ptsOf d x).length + 1) 3, S.set (idx x) Ent.dead ++ [Ent.obj ((pts (ptsOf d x)).flatten ++ ptR p)],
      (S.set (idx x) Ent.dead ++ [Ent.obj ((pts (ptsOf d x)).flatten ++ ptR p)]).set n (Ent.map (((seenK (d.map (·.1))).map (entL d idx)).set ((seenK (d.map (·.1))).idxOf x) (kvS x, AV.osl S.length 0 ((ptsOf d x).length + 1) 3))),
      fun z => if z = x then S.length else idx z, ?_, ?_, ?_, ⟨?_, ?_, ?_⟩, ?_, ?_, by simp, fun y hy => by simp [hy]⟩
    · simp only [mapEntryV, h1, himm, Option.bind_some, hf, hx, if_true, Nat.zero_add, hget]
      have : ((seenK (d.map (·.1))).map (entL d idx)).set ((seenK (d.map (·.1))).idxOf x) (kvS x, (entL d idx x).2) = (seenK (d.map (·.1))).map (entL d idx) := by
        apply List.ext_getElem?
        intro j
        by_cases hj : (seenK (d.map (·.1))).idxOf x = j
        · subst hj
          rw [List.getElem?_set_self (by simpa using hi), hget]
          rfl
        · rw [List.getElem?_set_ne hj]
      rw [this]
      have : S.set n (Ent.map ((seenK (d.map (·.1))).map (entL d idx))) = S := by
        apply List.ext_getElem?
        intro j
        by_cases hj : n = j
        · subst hj; rw [List.getElem?_set_self hn, h1]
        · rw [List.getElem?_set_ne hj]
      rw [this]
      rfl
    · simp only [appendMV, o2, rowsOf_sl, Option.bind_some, hrows, List.length_cons, List.length_nil, Nat.zero_add]
      rw [if_pos ⟨by trivial, hpos, by omega, by have : room = 4294967296 := rfl; omega⟩, ← hlen, List.take_length]
      simp
    · have hne : idx x ≠ n := by omega
      have : (S.set (idx x) Ent.dead ++ [Ent.obj ((pts (ptsOf d x)).flatten ++ ptR p)])[n]? = some (Ent.map ((seenK (d.map (·.1))).map (entL d idx))) := by
        rw [List.getElem?_append_left (by simpa using hn), List.getElem?_set_ne hne, h1]
      simp only [entryStoreV, this, at_nat, hget, Option.bind_some, valM, hb, cond_false, cell1, Int.toNat_natCast]
      rfl
    · rw [List.getElem?_set_self (by simp; omega), hsn, seenK_snoc, addK, if_pos hx]
      congr 2
      apply List.ext_getElem (by simp)
      intro j j1 j2
      have hjl : j < (seenK (d.map (·.1))).length := by simpa using j1
      by_cases hj : (seenK (d.map (·.1))).idxOf x = j
      · subst hj
        rw [List.getElem_set_self, List.getElem_map, hgi]
        simp [entL, ptsOf_snoc_self]
      · rw [List.getElem_set_ne hj, List.getElem_map, List.getElem_map]
        have : (seenK (d.map (·.1)))[j] ≠ x := fun e => hj ((List.getElem_inj (h₀ := hi) (h₁ := hjl) hnd).1 (hgi.trans e.symm))
        rw [entL_ne this]
    · intro y hy
      rw [hsn, seenK_snoc, addK, if_pos hx] at hy
      by_cases hyx : y = x
      · subst hyx
        rw [if_pos rfl, List.getElem?_set_ne (by omega), ptsOf_snoc_self]
        refine ⟨hn, ?_⟩
        rw [List.getElem?_append_right (by simp)]
        simp [pts]
      · rw [if_neg hyx, ptsOf_snoc_ne d p hyx]
        obtain ⟨q1, q2⟩ := h2 y hy
        have : idx x ≠ idx y := fun e => hyx (h3 y hy x hx e.symm)
        refine ⟨q1, ?_⟩
        rw [List.getElem?_set_ne (by omega), List.getElem?_append_left (by simpa using hidx y hy), List.getElem?_set_ne this, q2]
    · intro y hy z hz hyz
      rw [hsn, seenK_snoc, addK, if_pos hx] at hy hz
      have b1 := hidx y hy
      have b2 := hidx z hz
      by_cases hyx : y = x <;> by_cases hzx : z = x <;> simp only [hyx, hzx, if_true, if_false] at hyz ⊢
      · omega
      · omega
      · exact h3 y hy z hz hyz
    · simp
    · intro j hj
      rw [List.getElem?_set_ne (by omega), List.getElem?_append_left (by simp; omega), List.getElem?_set_ne (by omega)]
  · -- a new line
    have hp0 := ptsOf_nil hx
    refine ⟨AV.sl [] .full, i64 ((seenK (d.map (·.1))).length : Nat), S.set n (Ent.map ((seenK (d.map (·.1))).map (entL d idx) ++ [(kvS x, AV.sl [] .full)])), AV.osl S.length 0 1 3,
      S.set n (Ent.map ((seenK (d.map (·.1))).map (entL d idx) ++ [(kvS x, AV.sl [] .full)])) ++ [Ent.obj (ptR p)],
      (S.set n (Ent.map ((seenK (d.map (·.1))).map (entL d idx) ++ [(kvS x, AV.sl [] .full)])) ++ [Ent.obj (ptR p)]).set n (Ent.map ((seenK (d.map (·.1))).map (entL d idx) ++ [(kvS x, AV.osl S.length 0 1 3)])),
      fun z => if z = x then S.length else idx z, ?_, ?_, ?_, ⟨?_, ?_, ?_⟩, ?_, ?_, by simp, fun y hy => by simp [hy]⟩
    · simp only [mapEntryV, h1, himm, Option.bind_some, hf, hx, if_false, List.length_map]
    · simp only [appendMV, rowsOf_sl, Option.bind_some, hrows, List.length_cons, List.length_nil, Nat.zero_add, List.length_set]
      rw [if_pos (by have : room = 4294967296 := rfl; omega)]
      simp
    · have e1 : (S.set n (Ent.map ((seenK (d.map (·.1))).map (entL d idx) ++ [(kvS x, AV.sl [] .full)])) ++ [Ent.obj (ptR p)])[n]? = some (Ent.map ((seenK (d.map (·.1))).map (entL d idx) ++ [(kvS x, AV.sl [] .full)])) := by
        rw [List.getElem?_append_left (by simpa using hn), List.getElem?_set_self hn]
      have e2 : ((seenK (d.map (·.1))).map (entL d idx) ++ [(kvS x, AV.sl [] .full)])[(seenK (d.map (·.1))).length]? = some (kvS x, AV.sl [] .full) := by
        rw [List.getElem?_append_right (by simp)]; simp
      have e3 : ((seenK (d.map (·.1))).map (entL d idx) ++ [(kvS x, AV.sl [] .full)]).set (seenK (d.map (·.1))).length (kvS x, AV.osl S.length 0 1 3) = (seenK (d.map (·.1))).map (entL d idx) ++ [(kvS x, AV.osl S.length 0 1 3)] := by
        rw [List.set_append_right _ _ (by simp)]; simp
      simp only [entryStoreV, e1, at_nat, e2, Option.bind_some, valM, hb, cond_false, cell1, Int.toNat_natCast, e3]
    · rw [List.getElem?_set_self (by simp; omega), hsn, seenK_snoc, addK, if_neg hx, List.map_append]
      congr 3
      · apply List.map_congr_left
        intro y hy
        have hyx : y ≠ x := fun e => hx (by rw [← e]; exact hy)
        rw [entL_ne hyx]
      · simp [entL, ptsOf_snoc_self, hp0]
    · intro y hy
      rw [hsn, seenK_snoc, mem_addK] at hy
      by_cases hyx : y = x
      · subst hyx
        rw [if_pos rfl, List.getElem?_set_ne (by omega), ptsOf_snoc_self, hp0]
        refine ⟨hn, ?_⟩
        rw [List.getElem?_append_right (by simp)]
        simp [pts]
      · have hy' : y ∈ seenK (d.map (·.1)) := by rcases hy with h | h; exact h; exact absurd h hyx
        rw [if_neg hyx, ptsOf_snoc_ne d p hyx]
        obtain ⟨q1, q2⟩ := h2 y hy'
        refine ⟨q1, ?_⟩
        rw [List.getElem?_set_ne (by omega), List.getElem?_append_left (by simpa using hidx y hy'), List.getElem?_set_ne (by omega), q2]
    · intro y hy z hz hyz
      rw [hsn, seenK_snoc, mem_addK] at hy hz
      by_cases hyx : y = x <;> by_cases hzx : z = x <;> simp only [hyx, hzx, if_true, if_false] at hyz ⊢
      · have hz' : z ∈ seenK (d.map (·.1)) := by rcases hz with h | h; exact h; exact absurd h hzx
        have := hidx z hz'; omega
      · have hy' : y ∈ seenK (d.map (·.1)) := by rcases hy with h | h; exact h; exact absurd h hyx
        have := hidx y hy'; omega
      · have hz' : z ∈ seenK (d.map (·.1)) := by rcases hz with h | h; exact h; exact absurd h hzx
        have hy' : y ∈ seenK (d.map (·.1)) := by rcases hy with h | h; exact h; exact absurd h hyx
        exact h3 y hy' z hz' hyz
    · simp
    · intro j hj
      rw [List.getElem?_set_ne (by omega), List.getElem?_append_left (by simp; omega), List.getElem?_set_ne (by omega)]

theorem LinI.nil (S : Store) (idx : Key → Nat) : LinI S.length [] (S ++ [.map []]) idx :=
  ⟨by simp [seenK], fun x hx => by simp [seenK] at hx, fun x hx => by simp [seenK] at hx⟩

theorem belowsM_false {n : Nat} : ∀ {l : List (AV × AV)} {e : AV × AV}, e ∈ l → below n e.2 = false → belowsM n l = false
  | [], _, h, _ => by cases h
  | a :: l, e, h, hb => by
    simp only [belowsM, Bool.and_eq_false_iff]
    rcases List.mem_cons.1 h with rfl | h
    · exact .inl hb
    · exact .inr (belowsM_false h hb)

theorem entsBelow_false {n : Nat} : ∀ {l : List Ent} {e : Ent}, e ∈ l → entBelow n e = false → entsBelow n l = false
  | [], _, h, _ => by cases h
  | a :: l, e, h, hb => by
    simp only [entsBelow, Bool.and_eq_false_iff]
    rcases List.mem_cons.1 h with rfl | h
    · exact .inl hb
    · exact .inr (entsBelow_false h hb)

/-- The store is not cut back: the map points behind. -/
theorem LinI.next {n m : Nat} {d : List (Key × Pt)} {S : Store} {idx : Key → Nat} (h : LinI n d S idx) (hm : n < m) {x : Key} (hx : x ∈ seenK (d.map (·.1))) (hi : m ≤ idx x) (vs : List AV) : nextS n m vs S = some (vs, S) := by
  have hn : n < S.length := (List.getElem?_eq_some_iff.1 h.map).1
  have hb : entsBelow m ((S.take m).drop n) = false := by
    refine entsBelow_false (e := .map ((seenK (d.map (·.1))).map (entL d idx))) ?_ ?_
    · have : ((S.take m).drop n)[0]? = some (.map ((seenK (d.map (·.1))).map (entL d idx))) := by
        rw [List.getElem?_drop, List.getElem?_take, if_pos (by omega)]
        exact h.map
      exact List.mem_of_getElem? this
    · simp only [entBelow]
      exact belowsM_false (e := entL d idx x) (List.mem_map.2 ⟨x, hx, rfl⟩) (by simp only [entL, below]; exact blt_false hi)
  simp [nextS, hb]

/-- The map with its lines in order. -/
structure LinesOf (n : Nat) (l : List Rep) (S : Store) (idx : Key → Nat) : Prop where
  map : S[n]? = some (.map ((seenK ((allR l 0).map (·.1))).map (entL (allR l 0) idx)))
  obj : ∀ x ∈ seenK ((allR l 0).map (·.1)), n < idx x ∧ S[idx x]? = some (.obj (pts (lineP l x)).flatten)

end Go.Abs

/-
  What holds of reports that are examined without an error.
-/
namespace Go.Abs
open Go

theorem checkP_zero {r : Rd} (h : checkP r = 0) : 1 ≤ r.1 ∧ r.1 ≤ 11 ∧ lo r.1 ≤ r.2 ∧ r.2 ≤ hi r.1 := by
  unfold checkP at h
  split at h
  · cases h
  · split at h
    · cases h
    · omega

theorem lo_ge {c : Int} (h1 : 1 ≤ c) (h2 : c ≤ 11) : -1000 ≤ lo c ∧ hi c ≤ 11000 ∧ lo c ≤ hi c := by
  rcases elem_cases h1 h2 with rfl | rfl | rfl | rfl | rfl | rfl | rfl | rfl | rfl | rfl | rfl <;> decide

theorem checkP_cases (r : Rd) : checkP r = 0 ∨ checkP r = 1 ∨ checkP r = 4 := by
  unfold checkP; split
  · exact .inr (.inr rfl)
  · split
    · exact .inr (.inl rfl)
    · exact .inl rfl

theorem validP_zero {l : List Rd} (h : validP l = 0) : (∀ r ∈ l, checkP r = 0) ∧ incrR l = true := by
  unfold validP at h
  split at h
  · cases h
  · rename_i h4
    split at h
    · cases h
    · rename_i h1
      split at h
      · rename_i hi
        refine ⟨fun r hr => ?_, hi⟩
        simp only [List.any_eq_true, not_exists, not_and, beq_iff_eq] at h4 h1
        rcases checkP_cases r with h | h | h
        · exact h
        · exact absurd h (h1 r hr)
        · exact absurd h (h4 r hr)
      · cases h

theorem incrR_pairwise {l : List Rd} (h : incrR l = true) : l.Pairwise fun a b => a.1 < b.1 := by
  induction l with
  | nil => exact .nil
  | cons x l ih =>
    cases l with
    | nil => simp
    | cons y l =>
      simp only [incrR, Bool.and_eq_true, decide_eq_true_eq] at h ih
      have ih := ih (by simpa using h.2)
      refine List.Pairwise.cons (fun z hz => ?_) ih
      rcases List.mem_cons.1 hz with rfl | hz
      · exact h.1
      · have := (List.pairwise_cons.1 ih).1 z hz; omega

/-- Reports without an error. -/
structure Good (l : List Rep) : Prop where
  valid : ∀ r ∈ l, validP r.rd = 0
  time : ∀ r ∈ l, 0 ≤ r.time ∧ r.time ≤ 52595999
  once : (l.map keyR).Nodup

theorem mem_allR {l : List Rep} {i : Nat} {e : Key × Pt} : e ∈ allR l i ↔ ∃ j r x, l[j]? = some r ∧ x ∈ r.rd ∧ e = ((r.name, x.1), ⟨((i + j : Nat) : Int), r.time, x.2⟩) := by
  induction l generalizing i with
  | nil => simp [allR]
  | cons a l ih =>
    simp only [allR, List.mem_append, ih, entR, List.mem_map]
    constructor
    · rintro (⟨x, hx, rfl⟩ | ⟨j, r, x, h1, h2, rfl⟩)
      · exact ⟨0, a, x, rfl, hx, rfl⟩
      · exact ⟨j + 1, r, x, by simpa using h1, h2, by rw [show i + 1 + j = i + (j + 1) by omega]⟩
    · rintro ⟨j, r, x, h1, h2, rfl⟩
      cases j with
      | zero =>
        simp only [List.getElem?_cons_zero, Option.some.injEq] at h1
        subst h1
        exact .inl ⟨x, h2, rfl⟩
      | succ j => exact .inr ⟨j, r, x, by simpa using h1, h2, by rw [show i + 1 + j = i + (j + 1) by omega]⟩

theorem mem_ptsOf {d : List (Key × Pt)} {x : Key} {p : Pt} : p ∈ ptsOf d x ↔ (x, p) ∈ d := by
  simp only [ptsOf, List.mem_map, List.mem_filter, beq_iff_eq]
  constructor
  · rintro ⟨⟨a, b⟩, ⟨h1, rfl⟩, rfl⟩; exact h1
  · intro h; exact ⟨(x, p), ⟨h, rfl⟩, rfl⟩

theorem ent_once {r : Rep} {i : Nat} {x : Key} (h : validP r.rd = 0) : (ptsOf (entR i r) x).length ≤ 1 := by
  have hp := incrR_pairwise (validP_zero h).2
  unfold entR ptsOf
  rw [List.length_map, List.filter_map, List.length_map]
  generalize r.rd = l at hp
  induction l with
  | nil => simp
  | cons a l ih =>
    have hp' := List.pairwise_cons.1 hp
    rw [List.filter_cons]
    split
    · rename_i hax
      rw [List.filter_eq_nil_iff.2 fun b hb => ?_]
      · simp
      · have := hp'.1 b hb
        simp only [Function.comp, beq_iff_eq, Prod.ext_iff] at hax ⊢
        omega
    · exact ih hp'.2

theorem times_nodup : ∀ {l : List Rep} (i : Nat), (∀ r ∈ l, validP r.rd = 0) → (l.map keyR).Nodup → ∀ x, ((ptsOf (allR l i) x).map (·.time)).Nodup
  | [], _, _, _, x => by simp [allR, ptsOf]
  | r :: l, i, hv, hn, x => by
    rw [List.map_cons, List.nodup_cons] at hn
    have ih := times_nodup (i + 1) (fun r hr => hv r (by simp [hr])) hn.2 x
    rw [allR, ptsOf_append, List.map_append, List.nodup_append]
    have h1 := ent_once (i := i) (x := x) (hv r (by simp))
    refine ⟨?_, ih, fun a ha b hb hab => ?_⟩
    · match hm : ptsOf (entR i r) x, h1 with
      | [], _ => simp
      | [p], _ => simp
      | _ :: _ :: _, h => rw [hm] at h1; simp at h1
    · obtain ⟨p, hp, rfl⟩ := List.mem_map.1 ha
      obtain ⟨p', hp', rfl⟩ := List.mem_map.1 hb
      rw [mem_ptsOf] at hp hp'
      simp only [entR, List.mem_map, Prod.mk.injEq] at hp
      obtain ⟨y, hy, hyx, rfl⟩ := hp
      obtain ⟨j, r', z, h2, h3, h4⟩ := mem_allR.1 hp'
      simp only [Prod.mk.injEq] at h4
      obtain ⟨h4, rfl⟩ := h4
      refine hn.1 (List.mem_map.2 ⟨r', List.mem_of_getElem? h2, ?_⟩)
      have : r.name = r'.name := by rw [h4] at hyx; exact (Prod.ext_iff.1 hyx).1
      unfold keyR
      rw [this]
      simp only at hab
      rw [hab]

theorem Good.times {l : List Rep} (h : Good l) (x : Key) : ((ptsOf (allR l 0) x).map (·.time)).Nodup := times_nodup 0 h.valid h.once x

theorem Good.pts {l : List Rep} (h : Good l) {x : Key} {p : Pt} (hp : p ∈ ptsOf (allR l 0) x) : p.Ok ∧ 1 ≤ x.2 ∧ x.2 ≤ 11 := by
  rw [mem_ptsOf] at hp
  obtain ⟨j, r, y, h1, h2, h3⟩ := mem_allR.1 hp
  cases h3
  have hr := List.mem_of_getElem? h1
  have ht := h.time r hr
  obtain ⟨c1, c2, c3, c4⟩ := checkP_zero ((validP_zero (h.valid r hr)).1 y h2)
  obtain ⟨b1, b2, _⟩ := lo_ge c1 c2
  exact ⟨⟨ht.1, ht.2, by simp only; omega, by simp only; omega⟩, c1, c2⟩

theorem Good.line {l : List Rep} (h : Good l) {x : Key} {p : Pt} (hp : p ∈ lineP l x) : p.Ok ∧ 1 ≤ x.2 ∧ x.2 ≤ 11 := h.pts ((sortT_perm _).mem_iff.1 hp)

theorem lineP_length (l : List Rep) (x : Key) : (lineP l x).length = (ptsOf (allR l 0) x).length := (sortT_perm _).length_eq

theorem firstP_zero {l : List Rep} : firstP l = 0 ↔ ∀ r ∈ l, validP r.rd = 0 := by
  induction l with
  | nil => simp [firstP]
  | cons a l ih =>
    unfold firstP
    by_cases h : validP a.rd = 0
    · simp [h, ih]
    · simp [h]

theorem firstP_cases (l : List Rep) : firstP l = 0 ∨ firstP l = 1 ∨ firstP l = 4 ∨ firstP l = 8 := by
  induction l with
  | nil => exact .inl rfl
  | cons a l ih =>
    unfold firstP
    split
    · exact ih
    · unfold validP
      split
      · simp
      · split
        · simp
        · split <;> simp

theorem examP_zero {l : List Rep} {k : Ctl} (h : examP l k = 0) : Good l ∧ possP k.steps = true ∧ possP k.spikes = true := by
  unfold examP at h
  split at h
  · rename_i hp
    simp only [Bool.and_eq_true] at hp
    split at h
    · rename_i hf
      split at h
      · rename_i ht
        split at h
        · cases h
        · rename_i h2
          refine ⟨⟨firstP_zero.1 hf, fun r hr => ?_, ?_⟩, hp⟩
          · have := List.all_eq_true.1 ht r hr
            simpa [inP] using this
          · simpa [twiceP] using h2
      · cases h
    · rename_i hf
      exact absurd h hf
  · cases h

theorem possP_get {l : List Int} (h : possP l = true) {n : Int} (hn : n ∈ l) : 0 ≤ n ∧ n ≤ 10000 := by
  unfold possP at h
  simp only [Bool.not_eq_true', List.any_eq_false, Bool.or_eq_true, decide_eq_true_eq, not_or] at h
  have := h n hn
  omega

end Go.Abs
