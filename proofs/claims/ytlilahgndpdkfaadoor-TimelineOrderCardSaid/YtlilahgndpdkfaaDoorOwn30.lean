/-
  Texts of this claim: AbsSortOK.
-/
import Derived.Shelf.SlSortCmp.NoneTotal
import Derived.Test.YtlilahgndpdkfaaDoorOwn6
import Derived.Test.YtlilahgndpdkfaaDoorOwn27
import Derived.Test.YtlilahgndpdkfaaDoorOwn28
set_option linter.all false
/-
  slices.SortFunc, by the library's contract, does what its reading says.
-/
namespace Go.Abs
open Go Go.RowKit Go.Shelf Go.Proofs

section
variable {Y : Prg} {X : Ctx} {ρ : Ren}

/-- A row's numbers, as_ the library's contract takes them. -/
def nrm (φ : Int → Int) (sz : Nat) (l : List Int) : List Int := (List.range sz).map fun i => φ (l.getD i 0)

def encI (φ : Int → Int) (sz : Nat) (l : List Int) : List Value := (nrm φ sz l).map fun n => .int .i64 n

theorem nrm_length {φ : Int → Int} {sz : Nat} (l : List Int) : (nrm φ sz l).length = sz := by simp [nrm]

theorem nrm_eq {φ : Int → Int} {sz : Nat} {l : List Int} (hl : l.length = sz) (h : ∀ n ∈ l, φ n = n) : nrm φ sz l = l := by
  apply List.ext_getElem (by simp [nrm, hl])
  intro i h1 h2
  simp only [nrm, List.getElem_map, List.getElem_range]
  rw [List.getD_eq_getElem?_getD, List.getElem?_eq_getElem h2, Option.getD_some]
  exact h _ (List.getElem_mem h2)

theorem V2.int_eq {G : Gst} {S : Store} {v : Value} {k : IntKind} {n : Int} (h : V2 G S v (.int k n)) : v = .int k n := by
  cases h with
  | one h => cases h with | v0 h => cases h; rfl

theorem agg_ints {M : Mem} {l : List Int} {cs : Array Value} (h : cs.toList = l.map fun n => Value.int .i64 n) : V2 ⟨M, fun _ => 0, fun _ => undef, fun _ => 0⟩ [] (.agg cs) (.agg (l.map fun n => AV.int .i64 n)) := by
  have hs : cs.size = l.length := by rw [← Array.length_toList, h, List.length_map]
  refine .agg _ _ (by simpa using hs) fun j hj => .v0 ?_
  have hj' : j < l.length := by simpa using hj
  have : cs.getD j undef = .int .i64 (l[j]) := by
    rw [Array.getD_eq_getD_getElem?, ← Array.getElem?_toList, h]
    simp [hj']
  rw [this, List.getElem_map]
  exact .int _ _

theorem agg_below {l : List Int} : below 0 (.agg (l.map fun n => AV.int .i64 n)) = true := by
  rw [below_agg_eq]
  exact belows_of_get fun j hj => by simp [below]

theorem args2_ok {G : Gst} {S : Store} {v1 v2 : Value} {a1 a2 : AV} (h1 : V2 G S v1 a1) (h2 : V2 G S v2 a2) (b1 : below S.length a1 = true) (b2 : below S.length a2 = true) : ArgsOK G S #[v1, v2] [a1, a2] :=
  ⟨rfl, fun j hj => match j, hj with | 0, _ => h1 | 1, _ => h2, fun j hj => match j, hj with | 0, _ => b1 | 1, _ => b2⟩

/-- The closure, called by the sort. -/
theorem cmp_lays {C : CallEnv} {φ : Int → Int} {sz g blk off size : Nat} {cf : List Int → List Int → Int} {w : World}
    (hC : ∀ W' : World, MLe X.M0 (memOf W') → Contract Y.T ⟨W', memOf W'⟩ C) (hclo : ∀ a b : List Int, ∃ S1, C g [.agg ((nrm φ sz a).map fun n => AV.int .i64 n), .agg ((nrm φ sz b).map fun n => AV.int .i64 n)] [] = some (i64 (cf a b), S1))
    (hM : ∀ m os (dk : Array (List Int)), dk.size = size → MLe X.M0 (memOf (sortWorldK (encI φ sz) sz w blk off m dk os))) : CmpLays Y.T.P g #[] (encI φ sz) sz cf blk off size w := by
  intro m os dk hd x y
  obtain ⟨S1, h⟩ := hclo x y
  have hm := hM m os dk hd
  generalize sortWorldK (encI φ sz) sz w blk off m dk os = W' at hm ⊢
  obtain ⟨_, h2⟩ := hC W' hm g _ [] _ _ h
  have h3 := h2 _ W' #[.agg (encI φ sz x).toArray, .agg (encI φ sz y).toArray] (sat0 W') (args2_ok (agg_ints (by simp [encI])) (agg_ints (by simp [encI])) agg_below agg_below)
  refine Calls.mono (args := #[.agg (encI φ sz x).toArray, .agg (encI φ sz y).toArray]) h3 fun e w' ⟨v, he, G', _, _, hS, hv, _⟩ => ?_
  exact ⟨by rw [he, hv.int_eq], hS.below.grow⟩

theorem int_of_V1 {G : Gst} {S : Store} {v : Value} {n : Int} (h : V1 G S v (.int .i64 n)) : v = .int .i64 n := by
  cases h with | v0 h => cases h; rfl

theorem heap_putRow {w : World} {blk off : Nat} {F arr : Array Value} {ty : Nat} {fz : Nat × Nat} (h : w.heap[blk]? = some (.cells arr ty fz)) :
    (Go.Sort.putRow id w blk off F).heap[blk]? = some (.cells (Go.Sort.putCells id off F arr) ty fz) ∧ ∀ k, k ≠ blk → (Go.Sort.putRow id w blk off F).heap[k]? = w.heap[k]? := by
  unfold Go.Sort.putRow Go.Sort.mapBlock
  simp only [Array.getElem?_modify]
  refine ⟨by simp [h, Go.Sort.onCells], fun k hk => by rw [if_neg (fun h => hk h.symm)]⟩

theorem flatI_get {sz : Nat} {rows : List (List Int)} (hw : ∀ r ∈ rows, r.length = sz) {t : Nat} (h : t < rows.length * sz) : ∃ r, rows[t / sz]? = some r ∧ ∃ n, r[t % sz]? = some n ∧ (rows.map fun r => r.map fun n => AV.int .i64 n).flatten[t]? = some (.int .i64 n) := by
  have h0 : 0 < sz := by rcases Nat.eq_zero_or_pos sz with h' | h'; · subst h'; simp at h
                         · exact h'
  have hq : t / sz < rows.length := by rw [Nat.div_lt_iff_lt_mul h0]; exact h
  have hr := Nat.mod_lt t h0
  have hl := hw rows[t / sz] (List.getElem_mem hq)
  refine ⟨rows[t / sz], List.getElem?_eq_getElem hq, (rows[t / sz])[t % sz], List.getElem?_eq_getElem (by omega), ?_⟩
  have hall : ∀ x ∈ rows.map (fun r => r.map fun n => AV.int .i64 n), x.length = sz := by
    intro x hx
    obtain ⟨r, hr, rfl⟩ := List.mem_map.1 hx
    simpa using hw r hr
  obtain ⟨hj', he'⟩ := flat_row (i := t / sz) (cs := (rows[t / sz]).map fun n => AV.int .i64 n) hall (by simp [hq]) (t % sz) (by simpa [hl] using hr)
  have ht : t / sz * sz + t % sz = t := by rw [Nat.mul_comm]; exact Nat.div_add_mod t sz
  simp only [ht] at hj' he'
  rw [List.getElem?_eq_getElem hj', he']
  simp

theorem ltOf_swo {φ : Int → Int} {sz : Nat} {ks : List Nat} {cf : List Int → List Int → Int} (h : ∀ a b, decide (cf a b < 0) = ltK (keyOf ks (nrm φ sz a)) (keyOf ks (nrm φ sz b))) : Go.Sort.SWO (ltOf cf) where
  irrefl x := by unfold ltOf; rw [h]; exact ltK_irrefl _
  trans x y z h1 h2 := by unfold ltOf at *; rw [h] at *; exact ltK_trans h1 h2
  ntrans x y z h1 h2 := by unfold ltOf at *; rw [h] at *; exact ltK_ntrans (by simp [keyOf_length]) (by simp [keyOf_length]) h1 h2

theorem getD_arr {arr : Array Value} {j : Nat} (h : j < arr.size) : arr.getD j undef = arr[j] := by
  rw [Array.getD_eq_getD_getElem?, Array.getElem?_eq_getElem h]; rfl

theorem enc_get {φ : Int → Int} {sz : Nat} {l : List Int} (hl : l.length = sz) (hφ : ∀ n ∈ l, φ n = n) {r : Nat} {n : Int} (h : l[r]? = some n) : (encI φ sz l)[r]! = .int .i64 n := by
  unfold encI
  rw [nrm_eq hl hφ]
  simp [List.getElem!_eq_getElem?_getD, h]

/-- The cells of the entry hold the row. -/
theorem holds_row {φ : Int → Int} {sz blk o : Nat} {rows : List (List Int)} {G : Gst} {S : Store} {w : World} {arr : Array Value} {ty : Nat} {fz : Nat × Nat} {cs : List AV} (hw : ∀ r ∈ rows, r.length = sz) (hφ : ∀ r ∈ rows, ∀ n ∈ r, φ n = n)
    (ha : w.heap[blk]? = some (.cells arr ty fz)) (hfz : ∀ o, o < arr.size → ¬ (fz.1 ≤ o ∧ o < fz.2)) (hsz : cs.length ≤ arr.size) (_ : o + rows.length * sz ≤ cs.length) (hv : ∀ j (h : j < cs.length), V1 G S (arr.getD j undef) (cs[j]))
    (hcs : (cs.drop o).take (rows.length * sz) = (rows.map fun r => r.map fun n => AV.int .i64 n).flatten) : Go.Sort.HoldsK (encI φ sz) sz w blk o rows.toArray := by
  intro t ht
  rw [Go.Sort.size_flatK] at ht
  rw [Go.Sort.get_flatK _ _ _ _ ht]
  simp only [List.size_toArray] at ht
  obtain ⟨r, h1, n, h2, h3⟩ := flatI_get hw ht
  rw [← hcs, List.getElem?_take, if_pos ht, List.getElem?_drop] at h3
  have hlt : o + t < cs.length := (List.getElem?_eq_some_iff.1 h3).1
  have hmem : r ∈ rows := List.mem_of_getElem? h1
  have hv' := hv (o + t) hlt
  have : cs[o + t] = .int .i64 n := by rw [List.getElem?_eq_getElem hlt] at h3; exact Option.some.inj h3
  rw [this, getD_arr (by omega)] at hv'
  have e1 : (rows.toArray)[t / sz]! = r := by simp [getElem!_def, h1]
  rw [e1, enc_get (hw r hmem) (hφ r hmem) h2]
  refine ⟨?_, ?_⟩
  · simp only [World.cell?, ha, Option.isSome_none, Bool.false_eq_true, if_false]
    rw [Array.getElem?_eq_getElem (by omega), int_of_V1 hv']
    rfl
  · have := hfz (o + t) (by omega)
    simp only [World.frozen?, ha, Bool.and_eq_false_iff, decide_eq_false_iff_not]
    omega

theorem flat_list {φ : Int → Int} {sz : Nat} {rows : List (List Int)} (hw : ∀ r ∈ rows, r.length = sz) (hφ : ∀ r ∈ rows, ∀ n ∈ r, φ n = n) :
    (Go.Sort.flatK (encI φ sz) sz rows.toArray).size = (rows.map fun r => r.map fun n => AV.int .i64 n).flatten.length ∧
    ∀ j (h : j < (rows.map fun r => r.map fun n => AV.int .i64 n).flatten.length) (M : Mem), V0 M ((Go.Sort.flatK (encI φ sz) sz rows.toArray).toList.getD j undef) ((rows.map fun r => r.map fun n => AV.int .i64 n).flatten[j]) := by
  have hl : (rows.map fun r => r.map fun n => AV.int .i64 n).flatten.length = rows.length * sz := by
    rw [flat_len (sz := sz) (by intro x hx; obtain ⟨r, hr, rfl⟩ := List.mem_map.1 hx; simpa using hw r hr)]
    simp
  refine ⟨by rw [hl]; simp, fun j hj M => ?_⟩
  have hj' : j < rows.length * sz := by omega
  obtain ⟨r, h1, n, h2, h3⟩ := flatI_get hw hj'
  have hmem : r ∈ rows := List.mem_of_getElem? h1
  rw [List.getElem?_eq_getElem hj] at h3
  have e3 := Option.some.inj h3
  rw [e3]
  have hjs : j < (Go.Sort.flatK (encI φ sz) sz rows.toArray).size := by simpa using hj'
  have e1 : (rows.toArray)[j / sz]! = r := by simp [getElem!_def, h1]
  have := Go.Sort.get_flatK (encI φ sz) sz rows.toArray j (by simpa using hj')
  rw [getElem!_pos _ j hjs, e1, enc_get (hw r hmem) (hφ r hmem) h2] at this
  rw [List.getD_eq_getElem?_getD, Array.getElem?_toList, Array.getElem?_eq_getElem hjs, this]
  exact .int _ _

/-- ████ The sort. -/
theorem sort_ok (L : SlLaysF0.n6 Y.T.P ρ) {C : CallEnv} {φ : Int → Int} {sz : Nat} (hsz1 : 1 ≤ sz) {ks : List Nat} {f g : Nat} {cf : List Int → List Int → Int} (hf : ρ.f 6 = f) (he : Enters Y.T.P) (hg : GlobOK Y.T X)
    (aE : ∀ w, (isAgg (ρ.t 24)).run Y.T.P w = .ok true w) (zE : ∀ w, (Go.sizeOf (ρ.t 24)).run Y.T.P w = .ok sz w) (hff : ∃ fn, Y.T.P.funcs[f]? = some fn ∧ fn.body.isSome = true)
    (hC : ∀ W' : World, GlobOK Y.T ⟨W', memOf W'⟩ → Contract Y.T ⟨W', memOf W'⟩ C) (hgf : ∃ fn, Y.T.P.funcs[g]? = some fn ∧ fn.body.isSome = true)
    (hclo : ∀ a b : List Int, ∃ S1, C g [.agg ((nrm φ sz a).map fun n => AV.int .i64 n), .agg ((nrm φ sz b).map fun n => AV.int .i64 n)] [] = some (i64 (cf a b), S1))
    (hcf : ∀ a b, decide (cf a b < 0) = ltK (keyOf ks (nrm φ sz a)) (keyOf ks (nrm φ sz b)))
    {args : List AV} {S : Store} {x : AV} {S' : Store} (h : sortG φ sz ks g args S = some (x, S')) :
    (∃ fn, Y.T.P.funcs[f]? = some fn ∧ fn.body.isSome = true) ∧
    ∀ G w vs, Sat X G S.length S w → ArgsOK G S vs args → Calls Y.T.P f vs w fun ε w' => ∃ v, ε = .returned v ∧ OpOK X G S.length S w x S' v w' := by
  refine ⟨hff, fun G w vs hs ha => ?_⟩
  obtain ⟨ha1, ha2, ha3⟩ := ha
  have hC' : ∀ W' : World, MLe X.M0 (memOf W') → Contract Y.T ⟨W', memOf W'⟩ C := fun W' hm => hC W' fun k cs hk => (hg k cs hk).mono hm
  obtain ⟨gn, hgn, hgb⟩ := hgf
  subst hf
  unfold sortG at h
  split at h
  · -- nothing
    rename_i t g'
    cases hgg : Nat.beq g' g with
    | false => rw [hgg] at h; cases h
    | true =>
      rw [hgg] at h
      obtain rfl := Nat.eq_of_beq_eq_true hgg
      simp only [cond_true, Option.some.injEq, Prod.mk.injEq] at h
      obtain ⟨rfl, rfl⟩ := h
      obtain ⟨v0, v1, rfl⟩ : ∃ v0 v1, vs = #[v0, v1] := by
        match vs, ha1 with
        | ⟨[v0, v1]⟩, _ => exact ⟨v0, v1, rfl⟩
      have h0 := ha2 0 (by simp)
      have : ∃ p cap, v0 = .slice p 0 cap := by
        rcases h0.sl_inv with ⟨⟨a, h⟩, _⟩ | ⟨b, o, cap, _, h, _⟩
        · exact ⟨a, 0, h⟩
        · exact ⟨_, cap, h⟩
      obtain ⟨p, cap, rfl⟩ := this
      exact (AnyF.slices_SortFunc_none L p cap v1 w).mono fun e w' ⟨h1, h2⟩ => ⟨_, h1, by subst h2; exact OpOK.same hs (.u _) (by simp [below])⟩
  · rename_i i o l s g'
    cases hgg : Nat.beq g' g && Nat.beq s sz with
    | false => rw [hgg] at h; cases h
    | true =>
    rw [hgg] at h
    simp only [Bool.and_eq_true] at hgg
    obtain rfl := Nat.eq_of_beq_eq_true hgg.1
    obtain rfl := Nat.eq_of_beq_eq_true hgg.2
    simp only [cond_true] at h
    split at h
    · rename_i cs hcs
      split at h
      · rename_i hle
        obtain ⟨hle, hlim⟩ := hle
        obtain ⟨rows, h1, h2⟩ := Option.bind_eq_some_iff.1 h
        cases h2
        unfold sortedBy at h1
        obtain ⟨li, h2, h3⟩ := Option.bind_eq_some_iff.1 h1
        cases hinc : incrK ks (sortK ks li) with
        | false => rw [hinc] at h3; cases h3
        | true =>
        rw [hinc] at h3
        simp only [cond_true, Option.some.injEq] at h3
        subst h3
        obtain ⟨e1, e2⟩ := intRows_spec h2
        have hll : li.length = l := by
          have := congrArg List.length e1
          rw [chunks_length, List.length_map] at this
          exact this.symm
        have hw : ∀ r ∈ li, r.length = s := by
          intro r hr
          have : (r.map fun n => AV.int .i64 n) ∈ chunks s (cs.drop o) l := by rw [e1]; exact List.mem_map.2 ⟨r, hr, rfl⟩
          have := chunks_width s l (cs.drop o) (by simp; omega) _ this
          simpa using this
        have hflat : (cs.drop o).take (li.length * s) = (li.map fun r => r.map fun n => AV.int .i64 n).flatten := by
          rw [hll, ← chunks_flat s l (cs.drop o) (by simp; omega), e1]
        have hperm := sortK_perm ks li
        have hw' : ∀ r ∈ sortK ks li, r.length = s := fun r hr => hw r (hperm.mem_iff.1 hr)
        have hφ' : ∀ r ∈ sortK ks li, ∀ n ∈ r, φ n = n := fun r hr => e2 r (hperm.mem_iff.1 hr)
        obtain ⟨v0, v1, rfl⟩ : ∃ v0 v1, vs = #[v0, v1] := by
          match vs, ha1 with
          | ⟨[v0, v1]⟩, _ => exact ⟨v0, v1, rfl⟩
        have h0 : V2 G S v0 (.osl i o l s) := ha2 0 (by simp)
        have h1' : V2 G S v1 (.clo g' []) := ha2 1 (by simp)
        have hv1 : v1 = .func (.func g') #[] #[] := by
          cases h1' with
          | one h => cases h with
            | v0 h => cases h
            | clo f cv caps hs hv =>
              have hcv : cv = #[] := Array.eq_empty_of_size_eq_zero (by simpa using hs)
              rw [hcv]
        subst hv1
        obtain ⟨p, cap, rfl, hcap, hp, _⟩ := h0.osl_inv'
        by_cases hl0 : l = 0
        · subst hl0
          have hli : li = [] := List.eq_nil_of_length_eq_zero hll
          subst hli
          have hset : S.set i (.obj (setC cs o ((sortK ks []).map fun r => r.map fun n => AV.int .i64 n).flatten)) = S := by
            have hi := (List.getElem?_eq_some_iff.1 hcs)
            simp only [sortK, List.map_nil, List.flatten_nil, setC]
            rw [← hi.2, List.set_getElem_self]
          rw [hset]
          exact (AnyF.slices_SortFunc_none L p cap _ w).mono fun e w' ⟨h1, h2⟩ => ⟨_, h1, by subst h2; exact OpOK.same hs (.u _) (by simp [below])⟩
        · obtain ⟨rfl, hcap2⟩ := hp (by omega)
          have hne : cs ≠ [] := by
            intro h
            subst h
            have h5 : 1 ≤ l * s := Nat.mul_pos (by omega) hsz1
            simp at hle
            omega
          obtain ⟨arr, ty, fz, k1, k2, k3, k4, k5, k6⟩ := hs.ent i _ hcs hne
          have hH := holds_row (φ := φ) hw e2 k1 k3 k2 (by rw [hll]; exact hle) k4 hflat
          have hblk : G.β i < w.heap.size := (Array.getElem?_eq_some_iff.1 k1).1
          have hcmp : CmpLays Y.T.P g' #[] (encI φ s) s cf (G.β i) o li.toArray.size w := by
            refine cmp_lays hC' hclo fun m os dk _ blk off z hz => ?_
            have hz' := hs.m0 blk off z hz
            have hc := hs.im blk off z hz'
            have hlt : blk < w.heap.size := World.block_lt_of_cell? w _ hc
            have hneb : blk ≠ G.β i := fun h => by subst h; rw [k5 off] at hz'; cases hz'
            show (sortWorldK _ _ _ _ _ _ _ _).cell? _ = _
            unfold sortWorldK
            rw [Go.Sort.cell?_grow _ _ _ (by
              unfold Go.Sort.putRowK Go.Sort.putRow Go.Sort.mapBlock
              simpa [Go.Sort.ahead] using hlt), Go.Sort.cell?_putRowK_other _ _ _ _ _ _ _ (by simpa using hneb)]
            exact hc
          have hrun := AnyQ.slices_SortFunc L s aE zE (encI φ s) (fun _ => by simp [encI, nrm]) (fun x v hv => by
              obtain ⟨n, _, rfl⟩ := List.mem_map.1 hv
              rfl) cf (ltOf_swo hcf) g' #[] (G.β i) o cap li.toArray w (he g' gn hgn hgb) hcmp hH hblk (by simpa [hll] using hlim)
          rw [List.size_toArray, hll] at hrun
          refine hrun.mono fun e w' ⟨r1, d', n, os, r2, r3, r4⟩ => ⟨_, r1, ?_⟩
          -- what lies there is the one sorted order
          obtain ⟨q1, q2, q3⟩ := r2
          have hdl : d'.toList = sortK ks li := by
            refine sorted_unique' hinc ?_ ?_
            · rw [List.pairwise_iff_getElem]
              intro a b ha hb hab
              have := r3 a b (Nat.zero_le _) hab (by simpa [q1, hll] using hb)
              unfold ltOf at this
              rw [hcf] at this
              have m1 : d'[a]! = d'.toList[a] := by rw [getElem!_pos d' a (by simpa using ha)]; simp
              have m2 : d'[b]! = d'.toList[b] := by rw [getElem!_pos d' b (by simpa using hb)]; simp
              rw [m1, m2] at this
              have hmem : ∀ y ∈ d'.toList, y ∈ li := by
                intro y hy
                have : d'.extract 0 l = d' := by rw [← hll, show li.length = d'.size by rw [q1]; simp]; simp
                rw [this] at q3
                have := q3.mem_iff.1 hy
                have e : (li.toArray.extract 0 l).toList = li := by rw [← hll]; simp
                rwa [e] at this
              have n1 := nrm_eq (hw _ (hmem _ (List.getElem_mem ha))) (e2 _ (hmem _ (List.getElem_mem ha)))
              have n2 := nrm_eq (hw _ (hmem _ (List.getElem_mem hb))) (e2 _ (hmem _ (List.getElem_mem hb)))
              rw [n1, n2] at this
              exact this
            · have : d'.extract 0 l = d' := by rw [← hll, show li.length = d'.size by rw [q1]; simp]; simp
              rw [this] at q3
              have e : (li.toArray.extract 0 l).toList = li := by rw [← hll]; simp
              rwa [e] at q3
          have hda : d' = (sortK ks li).toArray := by rw [← hdl]
          subst hda
          obtain ⟨t1, t2⟩ := flat_list (φ := φ) hw' hφ'
          obtain ⟨m1, m2⟩ := heap_putRow (w := w) (blk := G.β i) (off := o) (F := Go.Sort.flatK (encI φ s) s (sortK ks li).toArray) k1
          have hvl : ((sortK ks li).map fun r => r.map fun n => AV.int .i64 n).flatten.length = l * s := by
            rw [← t1, Go.Sort.size_flatK]
            simp [hperm.length_eq, hll]
          have hturn := turn_obj (w' := Go.Sort.putRow id w (G.β i) o (Go.Sort.flatK (encI φ s) s (sortK ks li).toArray)) hs (Nat.le_refl _) (o := o) (vs := ((sortK ks li).map fun r => r.map fun n => AV.int .i64 n).flatten)
            (cv := (Go.Sort.flatK (encI φ s) s (sortK ks li).toArray).toList) hcs hne (by omega) (by simpa using t1) (fun j hj => .v0 (t2 j hj _)) (belows_of_get fun j hj => (t2 j hj G.M).low _) k1 m1 (by simp [Go.Sort.putCells]) m2
            (by simp [Go.Sort.putRow, Go.Sort.mapBlock]) rfl rfl ⟨rfl, Nat.le_refl _⟩ (fun j => by
              simp only [Go.Sort.putCells, Array.getElem?_mapIdx, Array.length_toList]
              by_cases hj : o ≤ j ∧ j < o + (Go.Sort.flatK (encI φ s) s (sortK ks li).toArray).size
              · have hj2 : j < arr.size := by
                  rw [t1, hvl] at hj
                  omega
                rw [if_pos hj, Array.getElem?_eq_getElem hj2, Option.map_some, if_pos hj, id]
                rw [getElem!_pos _ (j - o) (by omega), Array.getElem?_toList, Array.getElem?_eq_getElem (by omega)]
              · rw [if_neg hj]
                simp only [if_neg hj]
                cases arr[j]? <;> rfl)
          obtain ⟨G', g1, g2, g3, _, _⟩ := hturn
          have hBelow : Below (Go.Sort.putRow id w (G.β i) o (Go.Sort.flatK (encI φ s) s (sortK ks li).toArray)).heap.size (Go.Sort.putRow id w (G.β i) o (Go.Sort.flatK (encI φ s) s (sortK ks li).toArray)) w' := by
            rw [r4]
            refine ⟨rfl, rfl, rfl, ?_, ?_, fun k hk => ?_⟩
            · show _ ≤ (_ ++ os).size
              rw [Array.size_append]
              exact Nat.le_add_right _ _
            · exact Nat.le_add_right _ _
            · show (_ ++ os)[k]? = _
              rw [Array.getElem?_append_left (by exact hk)]
              rfl
          refine ⟨G', g1, ?_, g3.world (by simp) hBelow, .u _, by simp [below]⟩
          refine ⟨Nat.le_trans g2.size hBelow.size, fun k hk hn => ?_, g2.act, g2.mem⟩
          rw [hBelow.block k (Nat.lt_of_lt_of_le hk g2.size)]
          exact g2.blk k hk hn
      · cases h
    · cases h
  · cases h
end
end Go.Abs
