/-
  Texts of this claim: AbsBridge, AbsLaw.
-/
import Derived.ProofKit
import Derived.OpenShut
import Derived.ChangeSame
import Derived.Carry
import Derived.LaidLaws
import Derived.Test.YtlilahgndpdkfaaDoorOwn27
set_option linter.all false
/-
  From a row's reading of the arguments to abstract values, and from the contract of the functions to a row's 'post'.
-/
namespace Go.Abs
open Go Go.RowKit Go.ChangeShapes Go.WideShapes

/-! ### The cells of a datum -/
section
variable {H : Type}

mutual
def cellsD : DataW H → List AV
  | .lit (.int k n) => [.int k n]
  | .lit (.bool b) => [.bool b]
  | .lit (.string s) => [.str s]
  | .nil => [.sl [] .none]
  | .slice elems _ => [.sl (rowsD elems) .none]
  | .agg parts => (rowsD parts).flatten
  | _ => []
def rowsD : List (DataW H) → List (List AV)
  | [] => []
  | d :: ds => cellsD d :: rowsD ds
end

theorem rowsD_map (l : List (DataW H)) : rowsD l = l.map cellsD := by
  induction l with
  | nil => rfl
  | cons a l ih => simp [rowsD, ih]

/-- Types of bools, whole numbers, strings, slices, structs and arrays. -/
def tight (P : Program) : List Field → Nat → Option Nat
  | [], o => some o
  | f :: fs, o => if f.offset = o then tight P fs (o + P.cellsOf f.type) else none

def plainT (P : Program) : Nat → TypeId → Bool
  | 0, _ => false
  | n + 1, t =>
    match P.underlying t with
    | some .bool => true
    | some (.int _) => true
    | some .string => true
    | some (.slice e) => plainT P n e && decide (1 ≤ P.cellsOf e)
    | some (.struct fs) => decide (tight P fs.toList 0 = some (P.cellsOf t)) && fs.toList.all fun f => plainT P n f.type
    | some (.array k e) => decide (P.cellsOf t = k * P.cellsOf e) && plainT P n e
    | _ => false

/-- What cells a type's values have. -/
def FitsF (F : TypeId → List AV → Prop) : List Field → List AV → Prop
  | [], as_ => as_ = []
  | f :: fs, as_ => ∃ a b, as_ = a ++ b ∧ F f.type a ∧ FitsF F fs b

def FitsK (F : List AV → Prop) : Nat → List AV → Prop
  | 0, as_ => as_ = []
  | k + 1, as_ => ∃ a b, as_ = a ++ b ∧ F a ∧ FitsK F k b

def Fits (P : Program) : Nat → TypeId → List AV → Prop
  | 0, _, _ => False
  | n + 1, t, as_ =>
    match P.underlying t with
    | some .bool => ∃ b, as_ = [.bool b]
    | some (.int k) => ∃ z, as_ = [.int k z] ∧ (Lit.int k z).wf = true
    | some .string => ∃ s, as_ = [.str s] ∧ s.length ≤ maxLen
    | some (.slice e) => ∃ xs, as_ = [.sl xs .none] ∧ xs.length ≤ maxLen ∧ ∀ x ∈ xs, Fits P n e x
    | some (.struct fs) => FitsF (Fits P n) fs.toList as_
    | some (.array k e) => FitsK (Fits P n e) k as_
    | _ => False

def memOf (W : World) : Mem := fun b o => W.cell? ⟨b, o, none⟩

/-- Cell by cell. -/
def Cells (M : Mem) : List Value → List AV → Prop
  | [], [] => True
  | v :: vs, a :: as_ => V0 M v a ∧ Cells M vs as_
  | _, _ => False

theorem Cells.length {M : Mem} : ∀ {vs : List Value} {as_ : List AV}, Cells M vs as_ → vs.length = as_.length
  | [], [], _ => rfl
  | _ :: _, _ :: _, h => by simp [h.2.length]
  | [], _ :: _, h => h.elim
  | _ :: _, [], h => h.elim

theorem Cells.append {M : Mem} : ∀ {vs vs' : List Value} {as_ as' : List AV}, Cells M vs as_ → Cells M vs' as' → Cells M (vs ++ vs') (as_ ++ as')
  | [], _, [], _, _, h' => h'
  | _ :: _, _, _ :: _, _, h, h' => ⟨h.1, h.2.append h'⟩
  | [], _, _ :: _, _, h, _ => h.elim
  | _ :: _, _, [], _, h, _ => h.elim

theorem Cells.get {M : Mem} : ∀ {vs : List Value} {as_ : List AV}, Cells M vs as_ → ∀ j (h : j < as_.length), V0 M (vs.getD j undef) (as_[j])
  | _ :: _, _ :: _, h, 0, _ => h.1
  | _ :: vs, _ :: as_, h, j + 1, hj => by
    have := h.2.get j (by simpa using hj)
    simpa using this
  | [], _ :: _, h, _, _ => h.elim

theorem Cells.get' {M : Mem} {vs : List Value} {as_ : List AV} (h : Cells M vs as_) (j : Nat) (hj : j < as_.length) : ∃ v, vs[j]? = some v ∧ V0 M v (as_[j]) := by
  have hl := h.length
  refine ⟨vs[j]'(by omega), by rw [List.getElem?_eq_getElem], ?_⟩
  have := h.get j hj
  rwa [List.getD_eq_getElem?_getD, List.getElem?_eq_getElem (by omega)] at this

theorem mapM_cons_some {α β : Type} {f : α → Option β} {a : α} {l : List α} {r : List β} (h : (a :: l).mapM f = some r) : ∃ b r', f a = some b ∧ l.mapM f = some r' ∧ r = b :: r' := by
  simp only [List.mapM_cons, Option.bind_eq_bind, Option.bind_eq_some_iff, Option.pure_def, Option.some.injEq] at h
  obtain ⟨b, h1, r', h2, h3⟩ := h
  exact ⟨b, r', h1, h2, h3.symm⟩

theorem mapM_get {α β : Type} {f : α → Option β} : ∀ {l : List α} {r : List β}, l.mapM f = some r → r.length = l.length ∧ ∀ j (h : j < l.length), ∃ b, f l[j] = some b ∧ r[j]? = some b
  | [], r, h => by
    simp only [List.mapM_nil, Option.pure_def, Option.some.injEq] at h
    subst h
    exact ⟨rfl, fun j hj => by simp at hj⟩
  | a :: l, r, h => by
    obtain ⟨b, r', h1, h2, rfl⟩ := mapM_cons_some h
    obtain ⟨h3, h4⟩ := mapM_get h2
    refine ⟨by simp [h3], fun j hj => ?_⟩
    cases j with
    | zero => exact ⟨b, h1, rfl⟩
    | succ j =>
      obtain ⟨c, h5, h6⟩ := h4 j (by simpa using hj)
      exact ⟨c, by simpa using h5, by simpa using h6⟩

section
variable {enc : TypeId × Value → H} {P : Program} {W : World} {held : Bool}

theorem cells?_get {a : Addr} {n : Nat} {l : List Value} (h : W.cells? 0 a n = some l) : l.length = n ∧ ∀ j, j < n → W.cell? (a.add j) = l[j]? := by
  simp only [World.cells?, Nat.zero_le, if_true] at h
  obtain ⟨h1, h2⟩ := mapM_get h
  rw [List.length_range] at h1
  refine ⟨h1, fun j hj => ?_⟩
  obtain ⟨b, h3, h4⟩ := h2 j (by simpa using hj)
  rw [List.getElem_range] at h3
  rw [h3, h4]

theorem cell_spot {a : Addr} {v : Value} (h : W.cell? a = some v) : a.spot = none := by
  unfold World.cell? at h
  split at h
  · split at h
    · cases h
    · rename_i hs
      simpa using hs
  · cases h

theorem addr_add_spot {a : Addr} (ha : a.spot = none) (n : Nat) : a.add n = ⟨a.block, a.off + n, none⟩ := by
  obtain ⟨b, o, s⟩ := a
  simp only at ha
  subst ha
  unfold Addr.add
  split
  · rename_i h; subst h; rfl
  · rfl

theorem Row.append {M : Mem} {b o : Nat} {x y : List AV} (hx : Row M b o x) (hy : Row M b (o + x.length) y) : Row M b o (x ++ y) := by
  intro j hj
  by_cases h : j < x.length
  · rw [List.getElem_append_left h]; exact hx j h
  · rw [List.getElem_append_right (by omega)]
    obtain ⟨v, h1, h2⟩ := hy (j - x.length) (by simp at hj; omega)
    exact ⟨v, by rw [← h1]; congr 1; omega, h2⟩

theorem Row.flatten {M : Mem} {b sz : Nat} : ∀ {xs : List (List AV)} {o : Nat}, (∀ j (h : j < xs.length), (xs[j]).length = sz ∧ Row M b (o + j * sz) (xs[j])) → Row M b o xs.flatten
  | [], _, _ => fun j hj => by simp at hj
  | x :: xs, o, h => by
    obtain ⟨h1, h2⟩ := h 0 (by simp)
    simp only [List.getElem_cons_zero, Nat.zero_mul, Nat.add_zero] at h1 h2
    refine h2.append (Row.flatten (sz := sz) fun j hj => ?_)
    obtain ⟨h3, h4⟩ := h (j + 1) (by simpa using hj)
    simp only [List.getElem_cons_succ] at h3 h4
    refine ⟨h3, ?_⟩
    rw [h1, Nat.add_assoc]
    rwa [Nat.add_mul, Nat.one_mul, Nat.add_comm (j * sz)] at h4

theorem Cells.row {M : Mem} {b o : Nat} {vs : List Value} {as_ : List AV} (h : Cells M vs as_) (hm : ∀ j, j < vs.length → M b (o + j) = vs[j]?) : Row M b o as_ := by
  intro j hj
  obtain ⟨v, h1, h2⟩ := h.get' j hj
  exact ⟨v, by rw [hm j (by rw [h.length]; exact hj), h1], h2⟩

/-- The slice's rows. -/
theorem trod_rows {t e : TypeId} {fuel : Nat} {a : Addr} {len cap : Nat} {x : DataW H × List MemPlace} (ht : P.underlying t = some (.slice e)) (hce : 1 ≤ P.cellsOf e)
    {n : Nat} (ih : ∀ {cs : List Value} {y : DataW H × List MemPlace}, DataW.trod enc P W 0 (fun _ => true) held fuel e cs = some y → Cells (memOf W) cs (cellsD y.1) ∧ Fits P n e (cellsD y.1))
    (h : DataW.trod enc P W 0 (fun _ => true) held (fuel + 1) t [.slice (some a) len cap] = some x) : Cells (memOf W) [.slice (some a) len cap] (cellsD x.1) ∧ ∃ xs, cellsD x.1 = [.sl xs .none] ∧ xs.length ≤ maxLen ∧ ∀ x ∈ xs, Fits P n e x := by
  unfold DataW.trod at h
  rw [ht] at h
  simp only [Nat.zero_le, true_and, if_true, Option.ite_none_right_eq_some, Option.bind_eq_some_iff, Option.map_eq_some_iff] at h
  obtain ⟨⟨hlc, hcm⟩, elems, h1, rest, h2, rfl⟩ := h
  obtain ⟨g1, g2⟩ := mapM_get h1
  obtain ⟨r1, r2⟩ := mapM_get h2
  simp only [List.length_range] at g1 r1
  have el : ∀ j (hj : j < elems.length), ∃ cs, W.cells? 0 (a.add (j * P.cellsOf e)) (P.cellsOf e) = some cs ∧ Cells (memOf W) cs (cellsD (elems[j]).1) ∧ Fits P n e (cellsD (elems[j]).1) := by
    intro j hj
    obtain ⟨y, h3, h4⟩ := g2 j (by simp; omega)
    rw [List.getElem_range] at h3
    obtain ⟨cs, h5, h6⟩ := Option.bind_eq_some_iff.1 h3
    rw [List.getElem?_eq_getElem hj] at h4
    cases h4
    exact ⟨cs, h5, ih h6⟩
  by_cases hc0 : cap = 0
  · obtain rfl : len = 0 := by omega
    subst hc0
    have : elems = [] := List.eq_nil_of_length_eq_zero g1
    subst this
    exact ⟨⟨.nilsl _ _ trivial, trivial⟩, [], rfl, by simp, fun _ h => by cases h⟩
  · have hspot : a.spot = none := by
      have : ∃ cs, W.cells? 0 (a.add 0) (P.cellsOf e) = some cs := by
        by_cases hl0 : len = 0
        · subst hl0
          obtain ⟨y, h3, h4⟩ := r2 0 (by simp; omega)
          rw [List.getElem_range] at h3
          obtain ⟨cs, h5, _⟩ := Option.bind_eq_some_iff.1 h3
          exact ⟨cs, by simpa using h5⟩
        · obtain ⟨cs, h3, _⟩ := el 0 (by omega)
          exact ⟨cs, by simpa using h3⟩
      obtain ⟨cs, hcs⟩ := this
      obtain ⟨q1, q2⟩ := cells?_get hcs
      have := q2 0 (by omega)
      rw [List.getElem?_eq_getElem (by omega)] at this
      have := cell_spot this
      simpa [Addr.add] using this
    obtain ⟨ab, ao, asp⟩ := a
    simp only at hspot
    subst hspot
    have hrow : ∀ j (h : j < elems.length), (cellsD (elems[j]).1).length = P.cellsOf e ∧ Row (memOf W) ab (ao + j * P.cellsOf e) (cellsD (elems[j]).1) := by
      intro j hj
      obtain ⟨cs, h3, h5, _⟩ := el j hj
      obtain ⟨q1, q2⟩ := cells?_get h3
      refine ⟨by rw [← h5.length]; exact q1, h5.row fun k hk => ?_⟩
      rw [q1] at hk
      rw [← q2 k hk, addr_add_spot (a := ⟨ab, ao, none⟩) rfl, addr_add_spot rfl]
      rfl
    refine ⟨⟨V0.of_row (sz := P.cellsOf e) trivial ?_ hlc (fun y hy => ?_) (fun h => h.elim) (Row.flatten (sz := P.cellsOf e) fun j hj => ?_), trivial⟩, _, rfl, by simp [rowsD_map, g1]; omega, fun y hy => ?_⟩
    · rw [rowsD_map]; simp [g1]
    · rw [rowsD_map] at hy
      obtain ⟨z, hz, rfl⟩ := List.mem_map.1 hy
      obtain ⟨z', hz', rfl⟩ := List.mem_map.1 hz
      obtain ⟨i, hi, rfl⟩ := List.getElem_of_mem hz'
      exact (hrow i hi).1
    · simp only [rowsD_map, List.length_map] at hj
      have := hrow j hj
      simpa [rowsD_map] using this
    · rw [rowsD_map] at hy
      obtain ⟨z, hz, rfl⟩ := List.mem_map.1 hy
      obtain ⟨z', hz', rfl⟩ := List.mem_map.1 hz
      obtain ⟨i, hi, rfl⟩ := List.getElem_of_mem hz'
      obtain ⟨_, _, _, h9⟩ := el i hi
      exact h9

/-- A struct's fields. -/
theorem trod_fields {fuel n : Nat} (ih : ∀ {e : TypeId}, plainT P n e = true → ∀ {cs : List Value} {y : DataW H × List MemPlace}, DataW.trod enc P W 0 (fun _ => true) held fuel e cs = some y → Cells (memOf W) cs (cellsD y.1) ∧ Fits P n e (cellsD y.1)) {cs : List Value} :
    ∀ {fs : List Field} {o : Nat} {xs : List (DataW H × List MemPlace)}, tight P fs o = some cs.length → (fs.all fun f => plainT P n f.type) = true →
      fs.mapM (fun f => DataW.trod enc P W 0 (fun _ => true) held fuel f.type ((cs.drop f.offset).take (P.cellsOf f.type))) = some xs → Cells (memOf W) (cs.drop o) (rowsD (xs.map (·.1))).flatten ∧ FitsF (Fits P n) fs (rowsD (xs.map (·.1))).flatten
  | [], o, xs, h, _, hm => by
    simp only [tight, Option.some.injEq] at h
    simp only [List.mapM_nil, Option.pure_def, Option.some.injEq] at hm
    subst hm
    rw [h, List.drop_length]
    exact ⟨trivial, rfl⟩
  | f :: fs, o, xs, h, hp, hm => by
    obtain ⟨y, ys, h1, h2, rfl⟩ := mapM_cons_some hm
    simp only [tight] at h
    split at h
    · rename_i ho
      simp only [List.all_cons, Bool.and_eq_true] at hp
      have k1 := ih hp.1 h1
      have k2 := trod_fields ih h hp.2 h2
      rw [ho] at k1
      have : cs.drop o = (cs.drop o).take (P.cellsOf f.type) ++ cs.drop (o + P.cellsOf f.type) := by
        rw [← List.drop_drop, List.take_append_drop]
      rw [this]
      exact ⟨k1.1.append k2.1, _, _, rfl, k1.2, k2.2⟩
    · cases h

theorem trod_parts {fuel n : Nat} {e : TypeId} (ih : ∀ {cs : List Value} {y : DataW H × List MemPlace}, DataW.trod enc P W 0 (fun _ => true) held fuel e cs = some y → Cells (memOf W) cs (cellsD y.1) ∧ Fits P n e (cellsD y.1)) {cs : List Value} :
    ∀ {k m : Nat} {xs : List (DataW H × List MemPlace)}, cs.length = (m + k) * P.cellsOf e →
      (List.range' m k).mapM (fun i => DataW.trod enc P W 0 (fun _ => true) held fuel e ((cs.drop (i * P.cellsOf e)).take (P.cellsOf e))) = some xs → Cells (memOf W) (cs.drop (m * P.cellsOf e)) (rowsD (xs.map (·.1))).flatten ∧ FitsK (Fits P n e) k (rowsD (xs.map (·.1))).flatten
  | 0, m, xs, h, hm => by
    simp only [List.range'_zero, List.mapM_nil, Option.pure_def, Option.some.injEq] at hm
    subst hm
    rw [Nat.add_zero] at h
    rw [← h, List.drop_length]
    exact ⟨trivial, rfl⟩
  | k + 1, m, xs, h, hm => by
    rw [List.range'_succ] at hm
    obtain ⟨y, ys, h1, h2, rfl⟩ := mapM_cons_some hm
    have k1 := ih h1
    have k2 := trod_parts ih (k := k) (m := m + 1) (by rw [h]; congr 1; omega) h2
    have : cs.drop (m * P.cellsOf e) = (cs.drop (m * P.cellsOf e)).take (P.cellsOf e) ++ cs.drop ((m + 1) * P.cellsOf e) := by
      rw [Nat.add_mul, Nat.one_mul, ← List.drop_drop, List.take_append_drop]
    rw [this]
    exact ⟨k1.1.append k2.1, _, _, rfl, k1.2, k2.2⟩

/-- What is read is there, cell by cell. -/
theorem trod_cells (n : Nat) : ∀ {t : TypeId}, plainT P n t = true → ∀ {fuel : Nat} {cs : List Value} {x : DataW H × List MemPlace}, DataW.trod enc P W 0 (fun _ => true) held fuel t cs = some x → Cells (memOf W) cs (cellsD x.1) ∧ Fits P n t (cellsD x.1) := by
  induction n with
  | zero => intro t hp; simp [plainT] at hp
  | succ n IH =>
    intro t hp fuel cs x h
    cases fuel with
    | zero => simp [DataW.trod] at h
    | succ fuel =>
    unfold plainT at hp
    unfold Fits
    split at hp
    · rename_i ht
      unfold DataW.trod at h
      rw [ht] at h
      split at h <;> rename_i ht' <;> simp only [reduceCtorEq, Option.some.injEq] at h ht'
      subst h
      exact ⟨⟨.bool _, trivial⟩, _, rfl⟩
    · rename_i k ht
      unfold DataW.trod at h
      rw [ht] at h
      split at h <;> rename_i ht' <;> simp only [reduceCtorEq, Option.some.injEq, Option.ite_none_right_eq_some, TypeDesc.int.injEq] at h ht'
      subst ht'
      obtain ⟨⟨rfl, h2⟩, rfl⟩ := h
      exact ⟨⟨.int _ _, trivial⟩, _, rfl, h2⟩
    · rename_i ht
      unfold DataW.trod at h
      rw [ht] at h
      split at h <;> rename_i ht' <;> simp only [reduceCtorEq, Option.some.injEq, Option.ite_none_right_eq_some] at h ht'
      obtain ⟨h1, rfl⟩ := h
      exact ⟨⟨.str _ _ rfl, trivial⟩, _, rfl, by simpa using h1⟩
    · rename_i e ht
      simp only [Bool.and_eq_true, decide_eq_true_eq] at hp
      have h0 := h
      unfold DataW.trod at h
      rw [ht] at h
      split at h <;> rename_i ht' <;> simp only [reduceCtorEq, Option.some.injEq, TypeDesc.slice.injEq] at h ht'
      · subst h
        exact ⟨⟨.nilsl _ _ trivial, trivial⟩, [], rfl, by simp, fun _ h => by cases h⟩
      · exact trod_rows ht hp.2 (fun h => IH hp.1 h) h0
    · rename_i fs ht
      simp only [Bool.and_eq_true, decide_eq_true_eq] at hp
      unfold DataW.trod at h
      rw [ht] at h
      simp only [Option.ite_none_right_eq_some, Option.map_eq_some_iff] at h
      obtain ⟨hl, xs, h1, rfl⟩ := h
      have := trod_fields (o := 0) (fun hp => IH hp) (by rw [hl]; exact hp.1) hp.2 h1
      simpa [cellsD] using this
    · rename_i k e ht
      simp only [Bool.and_eq_true, decide_eq_true_eq] at hp
      unfold DataW.trod at h
      rw [ht] at h
      simp only [Option.ite_none_right_eq_some, Option.map_eq_some_iff] at h
      obtain ⟨hl, xs, h1, rfl⟩ := h
      rw [List.range_eq_range'] at h1
      have := trod_parts (k := k) (m := 0) (fun h => IH hp.2 h) (by rw [hl, hp.1]; simp) h1
      simpa [cellsD] using this
    · simp at hp

def isAggT (P : Program) (t : TypeId) : Bool :=
  match P.underlying t with
  | some (.struct _) => true
  | some (.array _ _) => true
  | _ => false

/-- An argument as_ the functions take it. -/
def FitsA (P : Program) (n : Nat) (t : TypeId) (a : AV) : Prop :=
  if isAggT P t = true then ∃ cs, a = .agg cs ∧ Fits P n t cs else Fits P n t [a]

def FitsAll (P : Program) (n : Nat) : List TypeId → List AV → Prop
  | [], [] => True
  | t :: ts, a :: as_ => FitsA P n t a ∧ FitsAll P n ts as_
  | _, _ => False

theorem arg_ok {n : Nat} {t : TypeId} {v : Value} {d : DataW H} {p : List MemPlace} {base : Nat} (hp : plainT P n t = true) (ho : Value.okWide P W .any base t v) (h : DataW.Trod enc P W 0 (fun _ => true) held t v d p) :
    ∃ a, V2 ⟨memOf W, fun _ => 0, fun _ => undef, fun _ => 0⟩ [] v a ∧ below 0 a = true ∧ FitsA P n t a := by
  obtain ⟨fuel, h⟩ := h
  obtain ⟨h1, h2⟩ := trod_cells n hp h
  have hbel : ∀ j (hj : j < (cellsD d).length), below 0 ((cellsD d)[j]) = true := fun j hj => (h1.get j hj).low 0
  unfold Value.okWide at ho
  unfold FitsA
  by_cases ha : isAggT P t = true
  · simp only [if_pos ha]
    have : ∃ cs, v = .agg cs := by
      unfold isAggT at ha
      split at ha
      · rename_i hd; rw [hd] at ho; obtain ⟨cs, h3, _⟩ := ho; exact ⟨cs, h3⟩
      · rename_i hd; rw [hd] at ho; obtain ⟨cs, h3, _⟩ := ho; exact ⟨cs, h3⟩
      · cases ha
    obtain ⟨cs, rfl⟩ := this
    have hc : Value.cells (.agg cs) = cs := rfl
    rw [hc] at h1
    refine ⟨.agg (cellsD d), .agg cs _ (by have := h1.length; simpa using this) fun j hj => .v0 ?_, ?_, _, rfl, h2⟩
    · have := h1.get j hj
      rwa [List.getD_eq_getElem?_getD, Array.getElem?_toList, ← Array.getD_eq_getD_getElem?] at this
    · rw [below_agg_eq]; exact belows_of_get hbel
  · simp only [if_neg ha]
    have hv : v.cells = #[v] := by
      have ho' : Cell.okWide P W .any base t v := by
        unfold isAggT at ha
        split at ho
        · rename_i hd; rw [hd] at ha; exact absurd rfl ha
        · rename_i hd; rw [hd] at ha; exact absurd rfl ha
        · exact ho
      cases v <;> first | rfl | skip
      unfold Cell.okWide Cell.ok at ho'
      split at ho' <;> first | (rename_i hx; cases hx; done) | skip
      split at ho' <;> first | exact ho'.elim | (rename_i hx; cases hx)
    rw [hv] at h1
    have hl := h1.length
    obtain ⟨a, ha'⟩ : ∃ a, cellsD d = [a] := by
      match hd : cellsD d, hl with
      | [a], _ => exact ⟨a, rfl⟩
      | [], h => simp [hd] at h
      | _ :: _ :: _, h => simp [hd] at h
    rw [ha'] at h1 h2 hbel
    exact ⟨a, .one (.v0 h1.1), hbel 0 (by simp), h2⟩
end
end
end Go.Abs

/-
  A law of plain data: what its abstract reading answers is what its row says.
-/
namespace Go.Abs
open Go Go.RowKit Go.ChangeShapes Go.WideShapes

section
variable {H : Type} {enc : TypeId × Value → H} {W : World}

theorem sat0 (W : World) : Sat ⟨W, memOf W⟩ ⟨memOf W, fun _ => 0, fun _ => undef, fun _ => 0⟩ 0 [] W :=
  ⟨Below.refl _ _, MLe.refl _, fun _ _ _ h => h, fun i e h => by simp at h, fun i j blk h => by simp [Acts] at h, fun i blk h => by simp [Acts] at h, fun i e h => by simp at h⟩

theorem args_read {P : Program} {n base : Nat} : ∀ {ts : List TypeId} {vs : List Value} {ds : List (DataW H)} {p : List MemPlace} , (∀ t ∈ ts, plainT P n t = true) →
    (∀ (j : Nat) t v, ts[j]? = some t → vs[j]? = some v → Value.okWide P W .any base t v) → DataW.TrodAll enc P W 0 (fun _ => true) true ts vs ds p →
    ∃ as_ : List AV, vs.length = as_.length ∧ (∀ j (h : j < as_.length), V2 ⟨memOf W, fun _ => 0, fun _ => undef, fun _ => 0⟩ [] (vs.getD j undef) (as_[j])) ∧ (∀ j (h : j < as_.length), below 0 (as_[j]) = true) ∧ FitsAll P n ts as_
  | [], vs, ds, p, _, _, h => by
    obtain ⟨rfl, rfl, rfl⟩ := trodAll_nil h
    exact ⟨[], rfl, fun j hj => by simp at hj, fun j hj => by simp at hj, trivial⟩
  | t :: ts, vs, ds, p, hp, ho, h => by
    obtain ⟨v, vs1, d, ds1, a, b, rfl, rfl, rfl, h1, h2⟩ := trodAll_cons h
    obtain ⟨x, x1, x2, x3⟩ := arg_ok (hp t (by simp)) (ho 0 t v rfl rfl) h1
    obtain ⟨as_, y1, y2, y3, y4⟩ := args_read (fun t ht => hp t (by simp [ht])) (fun j t v h3 h4 => ho (j + 1) t v (by simpa using h3) (by simpa using h4)) h2
    refine ⟨x :: as_, by simp [y1], fun j hj => ?_, fun j hj => ?_, x3, y4⟩
    · cases j with
      | zero => exact x1
      | succ j => simpa using y2 j (by simpa using hj)
    · cases j with
      | zero => exact x2
      | succ j => simpa using y3 j (by simpa using hj)

theorem trodAll_stays {P : Program} (hl : laidOutB P = true) {W' : World} {sp' : Nat → Bool} (hb : Go.RowKit.Below W.heap.size W W') : ∀ {ts : List TypeId} {vs : List Value} {ds : List (DataW H)} {p : List MemPlace}, (∀ t ∈ ts, P.readableRec t = true ∧ t < P.types.size) →
    (∀ x ∈ p, x.block < W.heap.size) → (∀ x ∈ p, sp' x.block = true) → DataW.TrodAll enc P W 0 (fun _ => true) true ts vs ds p → DataW.TrodAll enc P W' 0 sp' true ts vs ds p
  | [], vs, ds, p, _, _, _, h => by
    obtain ⟨rfl, rfl, rfl⟩ := trodAll_nil h
    exact rfl
  | t :: ts, vs, ds, p, hp, hlt, hsp, h => by
    obtain ⟨v, vs1, d, ds1, a, b, rfl, rfl, rfl, h1, h2⟩ := trodAll_cons h
    exact ⟨a, b, WideElems.Trod_stays hl (hp t (by simp)).1 (hp t (by simp)).2 h1 (fun x hx => hb.same (hlt x (by simp [hx]))) (fun x hx => hsp x (by simp [hx])),
      trodAll_stays hl hb (fun t ht => hp t (by simp [ht])) (fun x hx => hlt x (by simp [hx])) (fun x hx => hsp x (by simp [hx])) h2, rfl⟩

/-- A table that the row lists. -/
theorem glob_of_laid {T : Tabs} {n : String} {d : DataW Unit} {g : Nat} {t : TypeId} (hn : T.P.globalNamed n = some g) (ht : (T.P.globals[g]?).map (·.type) = some t) (hp : plainT T.P 8 t = true) (hd : d.handleName?.isSome = false)
    (h : laidMetH T.P [(n, d)] W) (hT : ∀ k cs, T.glob k = some cs → k = g ∧ cs = cellsD d) : GlobOK T ⟨W, memOf W⟩ := by
  intro k cs hk
  obtain ⟨rfl, rfl⟩ := hT k cs hk
  have h' : laidMet T.P [(n, d)] W := by
    unfold laidMetH at h
    simpa [hd] using h
  obtain ⟨ps, ⟨g', t', cs, fuel, p, q, h1, h2, h3, h4, _⟩, _⟩ := h'
  rw [hn] at h1; cases h1
  rw [ht] at h2; cases h2
  obtain ⟨k1, _⟩ := trod_cells 8 hp h4
  refine k1.row fun j hj => ?_
  unfold World.var? at h3
  rw [hn] at h3
  simp only [Option.bind_some] at h3
  split at h3
  · rename_i c ty fz hc
    cases h3
    show W.cell? _ = _
    simp [World.cell?, hc]
  · cases h3

/-- ████ A law: true, and its arguments read as_ before. -/
theorem law_calls {Y : Prg} {f : FuncId} {fn : Func} {s : ChangeSpec} {args : Array Value} {ds gs : List (DataW H)} {before : List MemPlace} {fresh handsOn again : Bool} {tb : TypeId} {base : Nat}
    (he : Enters Y.T.P) (hm : Y.T.P.follows .mixedOrders = true) (ho : OverOK Y ⟨W, memOf W⟩) (hg : GlobOK Y.T ⟨W, memOf W⟩) (hlay : laidOutB Y.T.P = true)
    (hparB : (fn.params.toList.all fun t => plainT Y.T.P 8 t && Y.T.P.readableRec t && decide (t < Y.T.P.types.size)) = true) (hret : fn.resultTypes = #[tb]) (htb : Y.T.P.underlying tb = some .bool) (hvars : s.vars = [])
    (hval : ∀ (j : Nat) t v, fn.params[j]? = some t → args[j]? = some v → Value.okWide Y.T.P W .any base t v)
    (hW : DataW.Whole enc Y.T.P fn.params.toList s.vars false W args.toList ds gs before)
    (hspec : ∀ ds : List (DataW H), ds.length = fn.params.size → s.fn H ds = { results := [.lit (.bool true)], args := ds })
    (hcall : ∀ as_ : List AV, FitsAll Y.T.P 8 fn.params.toList as_ → ∃ S', Y.call f as_ [] = some (.bool true, S')) :
    Calls Y.T.P f args W fun e W' => ∃ v, e = .returned v ∧ s.post enc Y.T.P fn false fresh handsOn again W args v W' := by
  have hpar : ∀ t ∈ fn.params.toList, plainT Y.T.P 8 t = true ∧ Y.T.P.readableRec t = true ∧ t < Y.T.P.types.size := fun t ht => by
    have := List.all_eq_true.1 hparB t ht
    simp only [Bool.and_eq_true, decide_eq_true_eq] at this
    exact ⟨this.1.1, this.1.2, this.2⟩
  have hW' := hW
  obtain ⟨p, q, hA, hV, rfl, hfz, hnd⟩ := hW
  rw [hvars] at hV
  obtain ⟨rfl, rfl⟩ : gs = [] ∧ q = [] := by
    cases gs with
    | nil => exact ⟨rfl, hV⟩
    | cons _ _ => exact hV.elim
  obtain ⟨as_, a1, a2, a3, a4⟩ := args_read (fun t ht => (hpar t ht).1) (fun j t v h1 h2 => hval j t v (by simpa using h1) (by simpa using h2)) hA
  obtain ⟨S', hc⟩ := hcall as_ a4
  obtain ⟨_, hC⟩ := contract_call hg he hm ho f as_ [] _ _ hc
  have hds : ds.length = fn.params.size := by
    have : ∀ {ts : List TypeId} {vs : List Value} {ds : List (DataW H)} {p : List MemPlace}, DataW.TrodAll enc Y.T.P W 0 (fun _ => true) true ts vs ds p → ds.length = ts.length := by
      intro ts
      induction ts with
      | nil => intro vs ds p h; obtain ⟨_, rfl, _⟩ := trodAll_nil h; rfl
      | cons t ts ih => intro vs ds p h; obtain ⟨_, _, _, _, _, _, _, rfl, _, _, h2⟩ := trodAll_cons h; simp [ih h2]
    simpa using this hA
  refine (hC _ W args (sat0 W) ⟨by simpa using a1, fun j hj => ?_, a3⟩).mono fun e w' ⟨v, he', G', hE, hK, hS, hv, _⟩ => ?_
  · have := a2 j hj
    rwa [List.getD_eq_getElem?_getD, Array.getElem?_toList, ← Array.getD_eq_getD_getElem?] at this
  · refine ⟨v, he', ?_⟩
    have hvb : v = .bool true := by
      cases hv with
      | one h => cases h with | v0 h => cases h; rfl
    subst hvb
    have hB : Go.RowKit.Below W.heap.size W w' := hS.below.old
    have hlt : ∀ x ∈ p, x.block < W.heap.size := fun x hx => hW'.lt x (by simpa using hx)
    have hsp := hspec ds hds
    have htb' : Value.resultList fn.resultTypes.size (.bool true) = [.bool true] := by rw [hret]; rfl
    have hres : ∀ (b : Nat) (sp : Nat → Bool) (hd : Bool), DataW.TrodAll enc Y.T.P w' b sp hd fn.resultTypes.toList (Value.resultList fn.resultTypes.size (.bool true)) [.lit (.bool true)] [] := by
      intro b sp hd
      rw [htb', hret]
      exact trodAll_cons_mk (shut_bool htb _) trodAll_mk0
    have hargs : ∀ sp : Nat → Bool, (∀ x ∈ p, sp x.block = true) → DataW.TrodAll enc Y.T.P w' 0 sp true fn.params.toList args.toList ds p := fun sp hs => trodAll_stays hlay hB (fun t ht => (hpar t ht).2) hlt hs hA
    refine ⟨ds, [], p ++ [], [], p, [], by simpa using hW', ?_, ?_, ?_, hB.frame _, fun _ => ⟨?_, [.lit (.bool true)] ++ ds, [], ([] ++ p) ++ [], ⟨[] ++ p, [], trodAll_append (hargs _ (fun _ _ => rfl)) (hres _ _ _), ?_, rfl, ?_, ?_⟩, ?_⟩⟩
    · simp only [List.append_nil]; rw [hsp]; exact hres _ _ _
    · simp only [List.append_nil]; rw [hsp]; exact hargs _ fun x hx => by simpa using hlt x hx
    · simp only [List.append_nil]; rw [hsp, hvars]; exact rfl
    · intro j t r h1 h2
      rw [htb'] at h2
      rw [hret] at h1
      cases j with
      | succ j => simp at h1
      | zero =>
        simp only [List.size_toArray, List.length_cons, List.length_nil, Nat.zero_add, Nat.lt_add_one, getElem?_pos, List.getElem_toArray, List.getElem_cons_zero, Option.some.injEq, List.getElem?_cons_zero] at h1 h2
        subst h1 h2
        exact okWide_bool_mk htb _
    · rw [hvars]; exact rfl
    · intro b off hx
      simp only [List.nil_append, List.append_nil] at hx
      rw [hB.frozen (p := ⟨b, off, none⟩) (hlt _ hx)]
      exact hfz b off (by simpa using hx)
    · intro h; cases h
    · intro x hx _
      simpa using hx
end
end Go.Abs
