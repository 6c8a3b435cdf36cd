/-
  Texts of this claim: AbsLib2, AbsPeel, AbsEv.
-/
import Derived.Test.YtlilahgndpdkfaaDoorOwn6
set_option linter.all false
/-
  Rules for rows in the store, for growing rows, and for walks over maps.
-/
namespace Go.Abs
open Go

/-- A loop of n rounds, by what is so of its states. -/
theorem iter_to {σ τ : Type} {step : σ → Option (σ ⊕ τ)} (I : Nat → σ → Prop) (Q : τ → Prop) (n : Nat) (h : ∀ k s, k < n → I k s → ∃ s', step s = some (.inl s') ∧ I (k + 1) s') (he : ∀ s, I n s → ∃ r, step s = some (.inr r) ∧ Q r) :
    ∀ k s, k ≤ n → I k s → ∃ r, iter step s = some r ∧ Q r := by
  have gen : ∀ m k s, k + m = n → I k s → ∃ r, iter step s = some r ∧ Q r := by
    intro m
    induction m with
    | zero =>
      intro k s hk hs
      obtain rfl : k = n := by omega
      obtain ⟨r, h1, h2⟩ := he s hs
      exact ⟨r, by rw [iter_eq, h1]; rfl, h2⟩
    | succ m ih =>
      intro k s hk hs
      obtain ⟨s', h1, h2⟩ := h k s (by omega) hs
      obtain ⟨r, h3, h4⟩ := ih (k + 1) s' (by omega) h2
      exact ⟨r, by rw [iter_eq, h1]; exact h3, h4⟩
  intro k s hk hs
  exact gen (n - k) k s (by omega) hs

theorem chunks_rows {sz : Nat} : ∀ {xs : List (List AV)}, (∀ x ∈ xs, x.length = sz) → ∀ rest, chunks sz (xs.flatten ++ rest) xs.length = xs
  | [], _, _ => rfl
  | x :: xs, h, rest => by
    have hx : x.length = sz := h x (by simp)
    simp only [List.flatten_cons, List.length_cons, chunks, List.append_assoc]
    rw [← hx, List.take_left, List.drop_left, hx, chunks_rows fun y hy => h y (by simp [hy])]

theorem flatten_length {sz : Nat} : ∀ {xs : List (List AV)}, (∀ x ∈ xs, x.length = sz) → xs.flatten.length = xs.length * sz
  | [], _ => by simp
  | x :: xs, h => by
    rw [List.flatten_cons, List.length_append, h x (by simp), flatten_length fun y hy => h y (by simp [hy]), List.length_cons, Nat.add_mul]
    omega

theorem rowsOf_flat {S : Store} {i sz : Nat} {xs : List (List AV)} (h : S[i]? = some (.obj xs.flatten)) (hw : ∀ x ∈ xs, x.length = sz) : rowsOf (.osl i 0 xs.length sz) S = some xs := by
  simp only [rowsOf, h, List.drop_zero]
  rw [if_pos (by rw [flatten_length hw]; omega)]
  have := chunks_rows hw []
  rw [List.append_nil] at this
  rw [this]

theorem immRows_self {sz : Nat} : ∀ {xs : List (List AV)}, (∀ x ∈ xs, x.length = sz ∧ imms x = some x) → immRows sz xs = some xs
  | [], _ => rfl
  | x :: xs, h => by
    obtain ⟨h1, h2⟩ := h x (by simp)
    simp only [immRows]
    rw [if_pos h1, h2, immRows_self fun y hy => h y (by simp [hy])]
    rfl

/-- A slice over an entry of the call's own, handed back. -/
theorem fin1_flat {S : Store} {n i sz : Nat} {xs : List (List AV)} (hn : n ≤ i) (h : S[i]? = some (.obj xs.flatten)) (hw : ∀ x ∈ xs, x.length = sz ∧ imms x = some x) : fin1 n S (.osl i 0 xs.length sz) = some (.sl xs .none) := by
  simp only [fin1, blt_false hn, cond_false, rowsOf_flat h fun x hx => (hw x hx).1, Option.bind_some, immRows_self hw]

/-! ### Rows of bools -/

def bools (l : List Bool) : List (List AV) := l.map fun b => [.bool b]
@[simp] theorem bools_length {l : List Bool} : (bools l).length = l.length := by simp [bools]
theorem bools_row {l : List Bool} : ∀ x ∈ bools l, x.length = 1 ∧ imms x = some x := by
  intro x hx
  obtain ⟨b, _, rfl⟩ := List.mem_map.1 hx
  simp
theorem at_bools {l : List Bool} {k : Nat} (h : k < l.length) : at? (bools l) (k : Int) = some [.bool l[k]] := by
  rw [at_nat]; simp [bools, h]
theorem bools_flat (l : List Bool) : (bools l).flatten = l.map .bool := by
  induction l with
  | nil => rfl
  | cons a l ih => simp only [bools, List.map_cons, List.flatten_cons] at *; rw [ih]; rfl
theorem zero_flat (n : Nat) : (List.replicate n [AV.bool false]).flatten = (List.replicate n false).map .bool := by
  induction n with
  | zero => rfl
  | succ n ih => rw [List.replicate_succ, List.flatten_cons, ih]; rfl

/-! ### Rows that grow -/

/-- A slice that append makes anew each time: it holds these rows; its entry lies from n on. -/
def Grow (n sz : Nat) (S : Store) (v : AV) (rows : List (List AV)) : Prop :=
  (rows = [] ∧ v = .sl [] .full) ∨ (rows ≠ [] ∧ ∃ i, n ≤ i ∧ v = .osl i 0 rows.length sz ∧ S[i]? = some (.obj rows.flatten))

theorem Grow.nil (n sz : Nat) (S : Store) : Grow n sz S (.sl [] .full) [] := .inl ⟨rfl, rfl⟩

theorem Grow.fin {n m sz : Nat} {S : Store} {v : AV} {rows : List (List AV)} (h : Grow n sz S v rows) (hm : m ≤ n) (hw : ∀ x ∈ rows, x.length = sz ∧ imms x = some x) : fin1 m S v = some (.sl rows (if rows = [] then .full else .none)) := by
  rcases h with ⟨rfl, rfl⟩ | ⟨h1, i, h2, rfl, h3⟩
  · rfl
  · rw [fin1_flat (by omega) h3 hw, if_neg h1]

/-- The slice does not lie over the entry j. -/
def NotOwn (v : AV) (j : Nat) : Prop := ∀ i o l sz, v = .osl i o l sz → j ≠ i

/-- append of one row or more: the rows grow; but for the elder row nothing turns. -/
theorem Grow.app {n sz : Nat} {S : Store} {v : AV} {rows ys : List (List AV)} {t : Tok} (h : Grow n sz S v rows) (hn : n ≤ S.length) (hw : ∀ x ∈ rows, x.length = sz) (hy : ∀ y ∈ ys, y.length = sz ∧ imms y = some y) (h0 : ys ≠ []) (hr : rows.length + ys.length ≤ room) :
    ∃ v' S', appendMV sz v (.sl ys t) S = some (v', S') ∧ Grow n sz S' v' (rows ++ ys) ∧ S.length ≤ S'.length ∧ (∀ j, j < n → S'[j]? = S[j]?) ∧ (∀ j, j < S.length → NotOwn v j → S'[j]? = S[j]?) ∧ (∀ j, j < S.length → NotOwn v' j) ∧ ∃ l, v' = .osl S.length 0 l sz := by
  have hi := immRows_self hy
  rcases h with ⟨rfl, rfl⟩ | ⟨h1, i, h2, rfl, h3⟩
  · refine ⟨.osl S.length 0 ys.length sz, S ++ [.obj ys.flatten], ?_, .inr ⟨by simpa using h0, S.length, hn, by simp, by simp⟩, by simp, fun j hj => ?_, fun j hj _ => ?_, fun j hj i o l s e => ?_, _, rfl⟩
    · have hem : ys.isEmpty = false := by cases ys with
        | nil => exact absurd rfl h0
        | cons => rfl
      simp only [appendMV, rowsOf_sl, Option.bind_some, hi]
      rw [if_pos (by simpa using hr), hem]
      rfl
    · rw [List.getElem?_append_left (by omega)]
    · rw [List.getElem?_append_left (by omega)]
    · cases e; omega
  · have hi' : i < S.length := (List.getElem?_eq_some_iff.1 h3).1
    refine ⟨.osl S.length 0 (rows.length + ys.length) sz, S.set i .dead ++ [.obj (rows ++ ys).flatten], ?_, .inr ⟨by simp [h1], S.length, hn, by simp, ?_⟩, by simp, fun j hj => ?_, fun j hj hno => ?_, fun j hj i o l s e => ?_, _, rfl⟩
    · simp only [appendMV, h3, rowsOf_sl, Option.bind_some, hi]
      have hfl := flatten_length hw
      have hpos : 0 < rows.length := List.length_pos_iff.2 h1
      rw [if_pos ⟨by trivial, hpos, by omega, hr⟩]
      rw [← hfl, List.take_length, ← List.flatten_append]
    · have : (S.set i Ent.dead).length = S.length := by simp
      rw [List.getElem?_append_right (by omega), this]
      simp
    · rw [List.getElem?_append_left (by simp; omega), List.getElem?_set_ne (by omega)]
    · have := hno _ _ _ _ rfl
      rw [List.getElem?_append_left (by simp; omega), List.getElem?_set_ne (by omega)]
    · cases e; omega

/-- A row of a slice over an entry. -/
theorem row_at {sz : Nat} : ∀ {xs : List (List AV)}, (∀ x ∈ xs, x.length = sz) → ∀ (k : Nat) (hk : k < xs.length), ((xs.flatten).drop (k * sz)).take sz = xs[k] ∧ k * sz + sz ≤ xs.flatten.length
  | [], _, k, hk => by simp at hk
  | x :: xs, h, 0, _ => by
    have hx : x.length = sz := h x (by simp)
    simp only [Nat.zero_mul, List.drop_zero, List.flatten_cons, List.getElem_cons_zero, Nat.zero_add, List.length_append]
    exact ⟨by rw [← hx, List.take_left], by omega⟩
  | x :: xs, h, k + 1, hk => by
    have hx : x.length = sz := h x (by simp)
    obtain ⟨h1, h2⟩ := row_at (xs := xs) (fun y hy => h y (by simp [hy])) k (by simpa using hk)
    simp only [List.flatten_cons, List.getElem_cons_succ, List.length_append]
    refine ⟨?_, by rw [Nat.add_mul]; omega⟩
    rw [Nat.add_mul, Nat.one_mul, Nat.add_comm (k * sz) sz, ← List.drop_drop]
    have : List.drop sz (x ++ xs.flatten) = xs.flatten := by rw [← hx, List.drop_left]
    rw [this, h1]

/-- The store turned elsewhere. -/
theorem Grow.keep {n sz : Nat} {S S' : Store} {v : AV} {rows : List (List AV)} (h : Grow n sz S v rows) (hS : ∀ j, n ≤ j → j < S.length → S'[j]? = S[j]?) : Grow n sz S' v rows := by
  rcases h with h | ⟨h1, i, h2, h3, h4⟩
  · exact .inl h
  · exact .inr ⟨h1, i, h2, h3, by rw [hS i h2 (List.getElem?_eq_some_iff.1 h4).1]; exact h4⟩

/-! ### Walks over maps -/

/-- A walk: whatever the order, what is so of n elements to go is so of one less behind a round. -/
theorem rangeK_rule {ρ : Type} {it : AV} {body : AV → AV → List AV → Store → (List AV → Store → Option ρ) → Option ρ} {r : ρ} (I : Nat → List AV → Store → Prop)
    (h0 : ∀ vs S, I 0 vs S → stepI it S = some [] ∧ body (.tup [.bool false]) (.bool false) vs (killI it S) (fun _ _ => none) = some r)
    (h1 : ∀ n vs S, I (n + 1) vs S → ∃ l, stepI it S = some l ∧ l ≠ [] ∧ ∀ c ∈ l, ∀ K : List AV → Store → Option ρ, (∀ vs' S', I n vs' S' → K vs' S' = some r) → body (.tup [.bool true, c.1, c.2.1]) (.bool true) vs c.2.2 K = some r) :
    ∀ n vs S, I n vs S → rangeK it body n vs S = some r
  | 0, vs, S, h => by
    obtain ⟨h2, h3⟩ := h0 vs S h
    simp only [rangeK, h2]
    exact h3
  | n + 1, vs, S, h => by
    obtain ⟨l, h2, h3, h4⟩ := h1 n vs S h
    simp only [rangeK, h2, Option.bind_some]
    exact agree_some.2 ⟨h3, fun c hc => h4 c hc _ fun vs' S' h' => rangeK_rule I h0 h1 n vs' S' h'⟩

/-- What a walk may meet next. -/
theorem stepI_eq {S : Store} {i m n : Nat} {seen : List Nat} {es : List (AV × AV)} (h1 : S[i]? = some (.iter m n seen)) (h2 : S[m]? = some (.map es)) (h3 : es.length = n) :
    stepI (.ptr i 0) S = some (((List.range n).filter fun j => !memN j seen).map fun j => ((es.getD j (.u, .u)).1, (es.getD j (.u, .u)).2, S.set i (.iter m n (seen ++ [j])))) := by
  simp [stepI, h1, h2, h3]

theorem memN_eq {n : Nat} {l : List Nat} : memN n l = decide (n ∈ l) := by
  induction l with
  | nil => simp [memN]
  | cons a l ih =>
    simp only [memN, ih, List.mem_cons]
    cases h : Nat.beq a n with
    | true => simp [Nat.eq_of_beq_eq_true h]
    | false =>
      have : ¬ n = a := fun e => by subst e; simp [Nat.beq_refl] at h
      simp [this]

/-- Those that are left: as_ many as_ were not met. -/
theorem left_length {n : Nat} {seen : List Nat} (hn : seen.Nodup) (hs : ∀ j ∈ seen, j < n) : ((List.range n).filter fun j => !memN j seen).length + seen.length = n := by
  have h1 : ((List.range n).filter fun j => !memN j seen).length + ((List.range n).filter fun j => memN j seen).length = n := by
    have := List.length_eq_countP_add_countP (fun j => !memN j seen) (l := List.range n)
    rw [List.countP_eq_length_filter, List.countP_eq_length_filter, List.length_range] at this
    simp only [Bool.not_eq_true', decide_not, Bool.decide_eq_false, Bool.not_not] at this
    exact this.symm
  have h2 : ((List.range n).filter fun j => memN j seen).Perm seen := by
    refine (List.perm_ext_iff_of_nodup (List.Pairwise.filter _ List.nodup_range) hn).2 fun j => ?_
    simp only [List.mem_filter, List.mem_range, memN_eq, decide_eq_true_eq]
    exact ⟨fun h => h.2, fun h => ⟨hs j h, h⟩⟩
  rw [← h2.length_eq]
  exact h1

end Go.Abs

/-
  Rules for reckoning with the printed functions step by step.
-/
namespace Go.Abs
open Go

theorem bind_of {α β : Type} {x : Option α} {f : α → Option β} {a : α} {r : Option β} (h : x = some a) (h2 : f a = r) : x.bind f = r := by rw [h]; exact h2
theorem cond_t {ρ : Type} {c : AV} {x y r : Option ρ} (h : c = .bool true) (h2 : x = r) : condK c x y = r := by rw [h]; exact h2
theorem cond_f {ρ : Type} {c : AV} {x y r : Option ρ} (h : c = .bool false) (h2 : y = r) : condK c x y = r := by rw [h]; exact h2
theorem ite_of {ρ : Type} {p : Prop} [Decidable p] {x y r : Option ρ} (h : p) (h2 : x = r) : (if p then x else y) = r := by rw [if_pos h]; exact h2
theorem guard_y {ρ : Type} {b w : Bool} {x y r : Option ρ} (hb : b = w) (h : x = r) : guardK (.bool b) w x y = r := by subst hb; cases b <;> simpa [guardK] using h
theorem guard_n {ρ : Type} {b w : Bool} {x y r : Option ρ} (hb : b ≠ w) (h : y = r) : guardK (.bool b) w x y = r := by cases b <;> cases w <;> first | exact absurd rfl hb | simpa [guardK] using h
theorem guard_u {ρ : Type} {w : Bool} {x y r : Option ρ} (h : y = r) : guardK .und w x y = r := by simpa [guardK] using h
theorem loadV_ip (n : Option Nat) (cs : List AV) (o : Nat) (S : Store) : loadV n (.ip cs o) S = takeC n cs o := rfl
end Go.Abs

/-
  Runs that end, and what is so of their ends: rules for reckoning with printed functions whose calls are known by a law alone.
-/
namespace Go.Abs
open Go

/-- The run ends, and Q is so of its end. -/
def Ev {α : Type} (m : Option α) (Q : α → Prop) : Prop := ∃ r, m = some r ∧ Q r

section
variable {α β ρ : Type}
theorem Ev.bind {m : Option α} {f : α → Option β} {P : α → Prop} {Q : β → Prop} (h : Ev m P) (h2 : ∀ a, P a → Ev (f a) Q) : Ev (m.bind f) Q := by
  obtain ⟨a, ha, hp⟩ := h
  rw [ha]; exact h2 a hp
theorem Ev.to {m : Option α} {f : α → Option β} {a : α} {Q : β → Prop} (h : m = some a) (h2 : Ev (f a) Q) : Ev (m.bind f) Q := by rw [h]; exact h2
theorem Ev.mk {a : α} {Q : α → Prop} (h : Q a) : Ev (some a) Q := ⟨a, rfl, h⟩
theorem Ev.of {m : Option α} {a : α} {Q : α → Prop} (h : m = some a) (h2 : Q a) : Ev m Q := ⟨a, h, h2⟩
theorem Ev.mono {m : Option α} {P Q : α → Prop} (h : Ev m P) (h2 : ∀ a, P a → Q a) : Ev m Q := by
  obtain ⟨a, ha, hp⟩ := h
  exact ⟨a, ha, h2 a hp⟩
theorem Ev.eq {m m' : Option α} {Q : α → Prop} (h : m = m') (h2 : Ev m' Q) : Ev m Q := by rw [h]; exact h2
theorem Ev.cond {b : Bool} {x y : Option ρ} {Q : ρ → Prop} (h1 : b = true → Ev x Q) (h2 : b = false → Ev y Q) : Ev (condK (.bool b) x y) Q := by
  cases b
  · exact h2 rfl
  · exact h1 rfl
theorem Ev.dec {p : Prop} [Decidable p] {x y : Option ρ} {Q : ρ → Prop} (h1 : p → Ev x Q) (h2 : ¬ p → Ev y Q) : Ev (condK (.bool (decide p)) x y) Q := by
  by_cases h : p
  · simpa [h] using h1 h
  · simpa [h] using h2 h
theorem Ev.beq {a b : Int} {x y : Option ρ} {Q : ρ → Prop} (h1 : a = b → Ev x Q) (h2 : a ≠ b → Ev y Q) : Ev (condK (.bool (a == b)) x y) Q := by
  by_cases h : a = b
  · subst h; simpa using h1 rfl
  · have : (a == b) = false := by simpa using h
    rw [this]; exact h2 h
theorem Ev.t {c : AV} {x y : Option ρ} {Q : ρ → Prop} (h : c = .bool true) (h2 : Ev x Q) : Ev (condK c x y) Q := by rw [h]; exact h2
theorem Ev.f {c : AV} {x y : Option ρ} {Q : ρ → Prop} (h : c = .bool false) (h2 : Ev y Q) : Ev (condK c x y) Q := by rw [h]; exact h2
theorem Ev.ite {p : Prop} [Decidable p] {x y : Option ρ} {Q : ρ → Prop} (h : p) (h2 : Ev x Q) : Ev (if p then x else y) Q := by rw [if_pos h]; exact h2
theorem Ev.guard {b w : Bool} {x y : Option ρ} {Q : ρ → Prop} (h1 : b = w → Ev x Q) (h2 : b ≠ w → Ev y Q) : Ev (guardK (.bool b) w x y) Q := by
  by_cases h : b = w
  · subst h; have := h1 rfl; cases b <;> simpa [guardK] using this
  · have := h2 h; cases b <;> cases w <;> first | exact absurd rfl h | simpa [guardK] using this

/-- A loop by an invariant and a measure. -/
theorem Ev.iter {σ τ : Type} {step : σ → Option (σ ⊕ τ)} {Q : τ → Prop} (I : Nat → σ → Prop) (h : ∀ k s, I k s → Ev (step s) fun x => match x with | .inr r => Q r | .inl s' => ∃ k', k' < k ∧ I k' s') {k : Nat} {s : σ} (hs : I k s) : Ev (Abs.iter step s) Q := by
  refine iter_inv I Q (fun k s hk => ?_) k s hs
  obtain ⟨x, h1, h2⟩ := h k s hk
  cases x with
  | inr r => exact .inl ⟨r, h1, h2⟩
  | inl s' => obtain ⟨k', h3, h4⟩ := h2; exact .inr ⟨s', k', h3, h1, h4⟩

theorem Ev.exK {n : Option α} {x : Nat → Option α} {r : Option α} {i : Nat} {Q : α → Prop} (h : Ev (x i) Q) : Ev (Abs.exK n x r (.exit i)) Q := h
theorem Ev.exR {n : Option α} {x : Nat → Option α} {r : Option α} {Q : α → Prop} (h : Ev r Q) : Ev (Abs.exK n x r .ret) Q := h
theorem Ev.iff {m : Option α} {Q : α → Prop} : Ev m Q ↔ ∃ r, m = some r ∧ Q r := Iff.rfl
theorem Ev.bif {c : Bool} {x y : Option α} {Q : α → Prop} (h : c = true) (h2 : Ev x Q) : Ev (bif c then x else y) Q := by rw [h]; exact h2
theorem Ev.bif' {c : Bool} {x y : Option α} {Q : α → Prop} (h : c = false) (h2 : Ev y Q) : Ev (bif c then x else y) Q := by rw [h]; exact h2
end

theorem setC_fore : ∀ (vs pre cs : List AV), cs.length = vs.length → setC (pre ++ cs) pre.length vs = pre ++ vs
  | [], pre, cs, h => by
    have : cs = [] := List.eq_nil_of_length_eq_zero h
    subst this; simp [setC]
  | v :: vs, pre, [], h => by simp at h
  | v :: vs, pre, c :: cs, h => by
    have h1 := setC_fore vs (pre ++ [v]) cs (by simpa using h)
    simp only [List.append_assoc, List.singleton_append, List.length_append, List.length_singleton] at h1
    simp only [setC]
    rw [List.set_append_right _ _ (Nat.le_refl _), Nat.sub_self, List.set_cons_zero, h1]

theorem setC_full {cs vs : List AV} (h : cs.length = vs.length) : setC cs 0 vs = vs := setC_fore vs [] cs h

theorem setC_left : ∀ (vs x rest : List AV) (f : Nat), f + vs.length ≤ x.length → setC (x ++ rest) f vs = setC x f vs ++ rest
  | [], _, _, _, _ => rfl
  | v :: vs, x, rest, f, h => by
    simp only [List.length_cons] at h
    simp only [setC]
    rw [List.set_append_left _ _ (by omega), setC_left vs _ rest (f + 1) (by simp; omega)]
theorem setC_right : ∀ (vs x rest : List AV) (o : Nat), setC (x ++ rest) (x.length + o) vs = x ++ setC rest o vs
  | [], _, _, _ => rfl
  | v :: vs, x, rest, o => by
    simp only [setC]
    rw [List.set_append_right _ _ (by omega), Nat.add_sub_cancel_left, Nat.add_assoc, setC_right vs x _ (o + 1)]
/-- Cells of a row turned, in the rows' flat list. -/
theorem setC_row {sz : Nat} : ∀ {xs : List (List AV)} (k : Nat) (hk : k < xs.length) (f : Nat) (vs : List AV), (∀ x ∈ xs, x.length = sz) → f + vs.length ≤ sz → setC xs.flatten (k * sz + f) vs = (xs.set k (setC xs[k] f vs)).flatten
  | [], k, hk, _, _, _, _ => by simp at hk
  | x :: xs, 0, _, f, vs, h, hf => by
    have hx : x.length = sz := h x (by simp)
    simp only [List.flatten_cons, Nat.zero_mul, Nat.zero_add, List.set_cons_zero, List.getElem_cons_zero]
    exact setC_left vs x _ f (by omega)
  | x :: xs, k + 1, hk, f, vs, h, hf => by
    have hx : x.length = sz := h x (by simp)
    have ih := setC_row (xs := xs) k (by simpa using hk) f vs (fun y hy => h y (by simp [hy])) hf
    simp only [List.flatten_cons, List.set_cons_succ, List.getElem_cons_succ]
    rw [← ih, show (k + 1) * sz + f = x.length + (k * sz + f) by rw [hx, Nat.add_mul]; omega, setC_right]

/-! ### A store whose entry i is e, with entries of the call's own behind it -/

def Stt (S : Store) (i : Nat) (e : Ent) (es : Store) : Store := S.set i e ++ es

section
variable {S : Store} {i : Nat} {e : Ent} {es : Store}
theorem Stt.length : (Stt S i e es).length = S.length + es.length := by simp [Stt]
theorem Stt.self (h : S[i]? = some e) : Stt S i e [] = S := by
  have hi := (List.getElem?_eq_some_iff.1 h).1
  simp only [Stt, List.append_nil]
  apply List.ext_getElem?
  intro j
  by_cases hj : i = j
  · subst hj; rw [List.getElem?_set_self hi, h]
  · rw [List.getElem?_set_ne hj]
theorem Stt.app {x : Store} : Stt S i e es ++ x = Stt S i e (es ++ x) := by simp [Stt, List.append_assoc]
theorem Stt.src (h : i < S.length) : (Stt S i e es)[i]? = some e := by
  rw [Stt, List.getElem?_append_left (by simpa using h), List.getElem?_set_self h]
theorem Stt.own {k : Nat} : (Stt S i e es)[S.length + k]? = es[k]? := by
  rw [Stt, List.getElem?_append_right (by simp)]; simp
theorem Stt.own0 : (Stt S i e es)[S.length]? = es[0]? := Stt.own (k := 0)
theorem Stt.old {j : Nat} (h : j < S.length) (hj : j ≠ i) : (Stt S i e es)[j]? = S[j]? := by
  rw [Stt, List.getElem?_append_left (by simpa using h), List.getElem?_set_ne (Ne.symm hj)]
theorem Stt.set_src (h : i < S.length) {e' : Ent} : (Stt S i e es).set i e' = Stt S i e' es := by
  rw [Stt, List.set_append_left _ _ (by simpa using h), List.set_set]; rfl
theorem Stt.set_own {k : Nat} {x : Ent} : (Stt S i e es).set (S.length + k) x = Stt S i e (es.set k x) := by
  rw [Stt, List.set_append_right _ _ (by simp)]; simp [Stt]
theorem Stt.set_own0 {x : Ent} : (Stt S i e es).set S.length x = Stt S i e (es.set 0 x) := Stt.set_own (k := 0)
theorem Stt.take {k : Nat} : (Stt S i e es).take (S.length + k) = Stt S i e (es.take k) := by
  rw [Stt, List.take_append, List.take_of_length_le (by simp)]; simp [Stt]
theorem Stt.take0 : (Stt S i e es).take S.length = Stt S i e [] := by
  have := Stt.take (S := S) (i := i) (e := e) (es := es) (k := 0)
  simpa using this
theorem Stt.drop : (Stt S i e es).drop S.length = es := by
  rw [Stt, List.drop_append]; simp
theorem Stt.flat (h : i < S.length) {e2 : Ent} {es2 : Store} : Stt (Stt S i e es) i e2 es2 = Stt S i e2 (es ++ es2) := by
  rw [Stt, Stt.set_src h, Stt.app]

theorem Stt.load {k o : Nat} {n : Option Nat} {cs : List AV} (h : es[k]? = some (.obj cs)) : loadV n (.ptr (S.length + k) o) (Stt S i e es) = takeC n cs o := by
  simp only [loadV, Stt.own, h]
theorem Stt.load0 {o : Nat} {n : Option Nat} {cs : List AV} (h : es[0]? = some (.obj cs)) : loadV n (.ptr S.length o) (Stt S i e es) = takeC n cs o := Stt.load (k := 0) h
theorem Stt.store {k o n : Nat} {cs vs : List AV} {v : AV} (h : es[k]? = some (.obj cs)) (hv : cells1 (cellsOf v) = some vs) (hn : (cellsOf v).length = n) (ho : o + n ≤ cs.length) :
    storeV S.length n (.ptr (S.length + k) o) v (Stt S i e es) = some (Stt S i e (es.set k (.obj (setC cs o vs)))) := by
  simp only [storeV, Stt.own, h, blt_false (Nat.le_add_right _ _), cond_false, hv, Option.bind_some]
  rw [if_pos ⟨hn, ho⟩, Stt.set_own]
theorem Stt.storeA {k n : Nat} {cs vs : List AV} (h : es[k]? = some (.obj cs)) (hv : cells1 vs = some vs) (hn : vs.length = n) (ho : cs.length = n) :
    storeV S.length n (.ptr (S.length + k) 0) (.agg vs) (Stt S i e es) = some (Stt S i e (es.set k (.obj vs))) := by
  have := Stt.store (S := S) (i := i) (e := e) (o := 0) (v := .agg vs) (vs := vs) h hv hn (by omega)
  rw [this, setC_full (by omega)]
theorem Stt.storeA0 {n : Nat} {cs vs : List AV} (h : es[0]? = some (.obj cs)) (hv : cells1 vs = some vs) (hn : vs.length = n) (ho : cs.length = n) :
    storeV S.length n (.ptr S.length 0) (.agg vs) (Stt S i e es) = some (Stt S i e (es.set 0 (.obj vs))) := Stt.storeA (k := 0) h hv hn ho
theorem Stt.loadA {k n : Nat} {cs : List AV} (h : es[k]? = some (.obj cs)) (hn : cs.length = n) : loadV (some n) (.ptr (S.length + k) 0) (Stt S i e es) = some (.agg cs) := by
  rw [Stt.load h, takeC, if_pos (by omega), List.drop_zero, List.take_of_length_le (by omega)]
theorem Stt.loadA0 {n : Nat} {cs : List AV} (h : es[0]? = some (.obj cs)) (hn : cs.length = n) : loadV (some n) (.ptr S.length 0) (Stt S i e es) = some (.agg cs) := Stt.loadA (k := 0) h hn
theorem Stt.storeB {b k o n : Nat} {cs vs : List AV} {v : AV} (hb : b ≤ S.length + k) (h : es[k]? = some (.obj cs)) (hv : cells1 (cellsOf v) = some vs) (hn : (cellsOf v).length = n) (ho : o + n ≤ cs.length) :
    storeV b n (.ptr (S.length + k) o) v (Stt S i e es) = some (Stt S i e (es.set k (.obj (setC cs o vs)))) := by
  simp only [storeV, Stt.own, h, blt_false hb, cond_false, hv, Option.bind_some]
  rw [if_pos ⟨hn, ho⟩, Stt.set_own]
theorem Stt.store0 {o n : Nat} {cs vs : List AV} {v : AV} (h : es[0]? = some (.obj cs)) (hv : cells1 (cellsOf v) = some vs) (hn : (cellsOf v).length = n) (ho : o + n ≤ cs.length) :
    storeV S.length n (.ptr S.length o) v (Stt S i e es) = some (Stt S i e (es.set 0 (.obj (setC cs o vs)))) := Stt.store (k := 0) h hv hn ho
theorem Stt.next {k : Nat} {vs : List AV} (h : (belows (S.length + k) vs && entsBelow (S.length + k) (es.take k)) = true) : nextS S.length (S.length + k) vs (Stt S i e es) = some (vs, Stt S i e (es.take k)) := by
  simp only [nextS, Stt.take, Stt.drop]
  rw [if_pos h]
theorem Stt.next0 {vs : List AV} (h : belows S.length vs = true) : nextS S.length S.length vs (Stt S i e es) = some (vs, Stt S i e []) := by
  have := Stt.next (S := S) (i := i) (e := e) (es := es) (k := 0) (vs := vs) (by simpa [entsBelow] using h)
  simpa using this
theorem Stt.stay {k : Nat} {vs : List AV} (h : es.length = k) : nextS S.length (S.length + k) vs (Stt S i e es) = some (vs, Stt S i e es) := nextS_eq (by rw [Stt.length, h])
theorem Stt.nextAny {b k : Nat} {vs : List AV} : ∃ es', nextS b (S.length + k) vs (Stt S i e es) = some (vs, Stt S i e es') ∧ (es' = es ∨ es' = es.take k) := by
  unfold nextS
  split
  · exact ⟨_, by rw [Stt.take], .inr rfl⟩
  · exact ⟨_, rfl, .inl rfl⟩
/-- The entries before k are as_ they were. -/
theorem Stt.nextKeep {b k : Nat} {vs : List AV} : ∃ es', nextS b (S.length + k) vs (Stt S i e es) = some (vs, Stt S i e es') ∧ ∀ j, j < k → es'[j]? = es[j]? := by
  obtain ⟨es', h1, h2⟩ := Stt.nextAny (S := S) (i := i) (e := e) (es := es) (b := b) (k := k) (vs := vs)
  refine ⟨es', h1, fun j hj => ?_⟩
  rcases h2 with rfl | rfl
  · rfl
  · rw [List.getElem?_take_of_lt hj]
theorem entsBelow_mem {n : Nat} : ∀ {l : List Ent} {x : Ent}, entsBelow n l = true → x ∈ l → entBelow n x = true
  | [], _, _, h => by cases h
  | y :: l, x, h, hx => by
    simp only [entsBelow, Bool.and_eq_true] at h
    rcases List.mem_cons.1 hx with rfl | hx
    · exact h.1
    · exact entsBelow_mem h.2 hx
/-- An entry points behind: nothing is cut. -/
theorem Stt.nextStay {b k j : Nat} {vs : List AV} {x : Ent} (hx : es[j]? = some x) (hj : j < k) (hb : b ≤ S.length + j) (h : entBelow (S.length + k) x = false) : nextS b (S.length + k) vs (Stt S i e es) = some (vs, Stt S i e es) := by
  unfold nextS
  rw [if_neg]
  intro hc
  simp only [Bool.and_eq_true] at hc
  have := entsBelow_mem (x := x) hc.2 (by
    have h1 : ((Stt S i e es).take (S.length + k))[S.length + j]? = some x := by
      rw [List.getElem?_take_of_lt (by omega), Stt.own, hx]
    have h2 : (((Stt S i e es).take (S.length + k)).drop b)[S.length + j - b]? = some x := by
      rw [List.getElem?_drop, ← h1]; congr 1; omega
    exact List.mem_of_getElem? h2)
  rw [h] at this; cases this
theorem Stt.finish {vs vs' : List AV} (h : fins S.length (Stt S i e es) vs = some vs') (hb : belows S.length vs' = true) : finish false S.length vs (Stt S i e es) = some (outV vs', Stt S i e []) := by
  rw [finish_eq h hb, Stt.take0]
theorem Stt.append {k n sz : Nat} {xs ys : List (List AV)} {t : Tok} (h : es[k]? = some (.tail n sz)) (hn : n = xs.length) (hy : immRows sz ys = some ys) (h0 : ys ≠ []) (hr : xs.length + ys.length ≤ room) :
    appendV sz (.sl xs (.own (S.length + k))) (.sl ys t) (Stt S i e es) = some (.sl (xs ++ ys) (.own (S.length + k)), Stt S i e (es.set k (.tail (xs.length + ys.length) sz))) := by
  cases ys with
  | nil => exact absurd rfl h0
  | cons y ys =>
    simp only [appendV, rowsOf_sl, Option.bind_some, hy, Stt.own, h]
    rw [if_pos hr, if_pos ⟨hn, trivial⟩, Stt.set_own, hn]
theorem Stt.append0 {n sz : Nat} {xs ys : List (List AV)} {t : Tok} (h : es[0]? = some (.tail n sz)) (hn : n = xs.length) (hy : immRows sz ys = some ys) (h0 : ys ≠ []) (hr : xs.length + ys.length ≤ room) :
    appendV sz (.sl xs (.own S.length)) (.sl ys t) (Stt S i e es) = some (.sl (xs ++ ys) (.own S.length), Stt S i e (es.set 0 (.tail (xs.length + ys.length) sz))) := Stt.append (k := 0) h hn hy h0 hr
theorem Stt.only {j o : Nat} {as_ : List AV} {v : AV} {e' : Ent} (h : i < S.length) (hj : j ≠ i) : onlyV (.ptr i 0 :: as_) [.ptr j o] (Stt S i e es) (v, Stt S i e' es) = some (v, Stt S i e' es) := by
  have hb : avoidB i [.ptr j o] = true := by
    have : Nat.beq j i = false := by rw [Bool.eq_false_iff]; exact fun h => hj (Nat.eq_of_beq_eq_true h)
    simp [avoidB, this]
  simp only [onlyV]
  rw [if_pos ⟨⟨e', by rw [Stt.set_src h]⟩, hb⟩]
theorem Ev.fin {vs vs' : List AV} {Q : AV × Store → Prop} (h : fins S.length (Stt S i e es) vs = some vs') (hb : belows S.length vs' = true) (hQ : Q (outV vs', Stt S i e [])) : Ev (Abs.finish false S.length vs (Stt S i e es)) Q := .of (Stt.finish h hb) hQ
end

/-! ### A store with entries of the call's own behind it -/

section
variable {S es : Store}
theorem Ap.get {k : Nat} : (S ++ es)[S.length + k]? = es[k]? := by rw [List.getElem?_append_right (by omega)]; simp
theorem Ap.store {k o n : Nat} {cs vs : List AV} {v : AV} (h : es[k]? = some (.obj cs)) (hv : cells1 (cellsOf v) = some vs) (hn : (cellsOf v).length = n) (ho : o + n ≤ cs.length) :
    storeV S.length n (.ptr (S.length + k) o) v (S ++ es) = some (S ++ es.set k (.obj (setC cs o vs))) := by
  simp only [storeV, Ap.get, h, blt_false (Nat.le_add_right _ _), cond_false, hv, Option.bind_some]
  rw [if_pos ⟨hn, ho⟩, List.set_append_right _ _ (by omega)]
  simp
theorem Ap.store0 {o n : Nat} {cs vs : List AV} {v : AV} (h : es[0]? = some (.obj cs)) (hv : cells1 (cellsOf v) = some vs) (hn : (cellsOf v).length = n) (ho : o + n ≤ cs.length) :
    storeV S.length n (.ptr S.length o) v (S ++ es) = some (S ++ es.set 0 (.obj (setC cs o vs))) := Ap.store (k := 0) h hv hn ho
theorem Ap.storeA {k n : Nat} {cs vs : List AV} (h : es[k]? = some (.obj cs)) (hv : cells1 vs = some vs) (hn : vs.length = n) (ho : cs.length = n) :
    storeV S.length n (.ptr (S.length + k) 0) (.agg vs) (S ++ es) = some (S ++ es.set k (.obj vs)) := by
  have := Ap.store (S := S) (o := 0) (v := .agg vs) (vs := vs) h hv hn (by omega)
  rw [this, setC_full (by omega)]
theorem Ap.storeA0 {n : Nat} {cs vs : List AV} (h : es[0]? = some (.obj cs)) (hv : cells1 vs = some vs) (hn : vs.length = n) (ho : cs.length = n) :
    storeV S.length n (.ptr S.length 0) (.agg vs) (S ++ es) = some (S ++ es.set 0 (.obj vs)) := Ap.storeA (k := 0) h hv hn ho
theorem Ap.load {k o : Nat} {n : Option Nat} {cs : List AV} (h : es[k]? = some (.obj cs)) : loadV n (.ptr (S.length + k) o) (S ++ es) = takeC n cs o := by
  simp only [loadV, Ap.get, h]
theorem Ap.load0 {o : Nat} {n : Option Nat} {cs : List AV} (h : es[0]? = some (.obj cs)) : loadV n (.ptr S.length o) (S ++ es) = takeC n cs o := Ap.load (k := 0) h
theorem Ap.loadA {k n : Nat} {cs : List AV} (h : es[k]? = some (.obj cs)) (hn : cs.length = n) : loadV (some n) (.ptr (S.length + k) 0) (S ++ es) = some (.agg cs) := by
  rw [Ap.load h, takeC, if_pos (by omega), List.drop_zero, List.take_of_length_le (by omega)]
theorem Ap.loadA0 {n : Nat} {cs : List AV} (h : es[0]? = some (.obj cs)) (hn : cs.length = n) : loadV (some n) (.ptr S.length 0) (S ++ es) = some (.agg cs) := Ap.loadA (k := 0) h hn
theorem Ap.finish {vs vs' : List AV} (h : fins S.length (S ++ es) vs = some vs') (hb : belows S.length vs' = true) : Abs.finish false S.length vs (S ++ es) = some (outV vs', S) := by
  rw [finish_eq h hb]; simp

/-- The end of a function whose result lies in its first entry. -/
theorem Ap.ret1 {n : Nat} {cs vs : List AV} (h : es[0]? = some (.obj cs)) (hv : cells1 vs = some vs) (hi : imms vs = some vs) (hb : belows S.length vs = true) (hn : vs.length = n) (ho : cs.length = n) :
    ((storeV S.length n (.ptr S.length 0) (.agg vs) (S ++ es)).bind fun S1 => ((loadV (some n) (.ptr S.length 0) S1).bind fun v => (some []).bind fun r => some (v :: r)).bind fun q => Abs.finish false S.length q S1) = some (.agg vs, S) := by
  have hl : 0 < es.length := by
    cases es with
    | nil => cases h
    | cons => simp
  rw [Ap.storeA0 h hv hn ho, Option.bind_some, Ap.loadA0 (cs := vs) (by simp [hl]) hn]
  simp only [Option.bind_some]
  rw [Ap.finish (vs' := [.agg vs]) (by simp [fins, fin1, hi]) (by simp [hb])]
  rfl
theorem Ap.ret2 {n : Nat} {cs vs : List AV} {x x' : AV} (h : es[0]? = some (.obj cs)) (hv : cells1 vs = some vs) (hi : imms vs = some vs) (hb : belows S.length vs = true) (hn : vs.length = n) (ho : cs.length = n) (hx : fin1 S.length (S ++ es.set 0 (.obj vs)) x = some x') (hxb : below S.length x' = true) :
    ((storeV S.length n (.ptr S.length 0) (.agg vs) (S ++ es)).bind fun S1 => ((loadV (some n) (.ptr S.length 0) S1).bind fun v => ((some []).bind fun r => some (x :: r)).bind fun r => some (v :: r)).bind fun q => Abs.finish false S.length q S1) = some (.tup [.agg vs, x'], S) := by
  have hl : 0 < es.length := by
    cases es with
    | nil => cases h
    | cons => simp
  rw [Ap.storeA0 h hv hn ho, Option.bind_some, Ap.loadA0 (cs := vs) (by simp [hl]) hn]
  simp only [Option.bind_some]
  rw [Ap.finish (vs' := [.agg vs, x']) (by rw [fins, fins, fins, hx]; simp only [fin1, hi, Option.bind_some]) (by simp [hb, hxb])]
  rfl
end
end Go.Abs
