/-
  Texts of this claim: AbsLib, AbsSort.
-/
import Derived.Test.YtlilahgndpdkfaaDoorOwn4
set_option linter.all false
/-
  Rules for reckoning with the printed functions: results, rounds, rows.
-/
namespace Go.Abs
open Go

/-! ### The order in which simp reckons: the head first, what follows behind it -/

theorem bind_head {α β : Type} {x y : Option α} {f : α → Option β} (h : x = y) : x.bind f = y.bind f := by rw [h]
theorem condK_head {ρ : Type} {c c' : AV} {x y : Option ρ} (h : c = c') : condK c x y = condK c' x y := by rw [h]
theorem guardK_head {ρ : Type} {g g' : AV} {w : Bool} {m s : Option ρ} (h : g = g') : guardK g w m s = guardK g' w m s := by rw [h]
theorem exK_head {κ : Type} {n r : κ} {x : Nat → κ} {e e' : Ex} (h : e = e') : exK n x r e = exK n x r e' := by rw [h]
attribute [congr] bind_head condK_head guardK_head exK_head

/-! ### Numbers -/

attribute [simp] isTup wrap_i64

/-- An integer of 64 bits. -/
def In64 (n : Int) : Prop := -9223372036854775808 ≤ n ∧ n ≤ 9223372036854775807

theorem wrap_in {n : Int} (h : In64 n) : IntKind.i64.wrap n = n := wrap_i64 h.1 h.2

theorem wrap_range (n : Int) : In64 (IntKind.i64.wrap n) := by
  unfold In64 IntKind.wrap IntKind.bits IntKind.signed
  simp only [ge_iff_le, Bool.true_and]
  split <;> simp at * <;> omega

theorem tdiv_bound {x n k : Int} (h1 : -n ≤ x) (h2 : x ≤ n) (hk : 1 ≤ k) : -n ≤ x.tdiv k ∧ x.tdiv k ≤ n := by
  have h0 : 0 ≤ n := by omega
  have a1 := Int.tmod_add_mul_tdiv x k
  by_cases hx : 0 ≤ x
  · have b1 := Int.tdiv_nonneg hx (show 0 ≤ k by omega)
    have b2 := Int.tmod_nonneg k hx
    have b3 : 1 * x.tdiv k ≤ k * x.tdiv k := Int.mul_le_mul_of_nonneg_right hk b1
    omega
  · have b1 : 0 ≤ (-x).tdiv k := Int.tdiv_nonneg (by omega) (show 0 ≤ k by omega)
    rw [Int.neg_tdiv] at b1
    have b2 := Int.tmod_nonneg k (show 0 ≤ -x by omega)
    rw [Int.neg_tmod] at b2
    have b3 : 1 * (-x.tdiv k) ≤ k * (-x.tdiv k) := Int.mul_le_mul_of_nonneg_right hk b1
    simp only [Int.mul_neg, Int.one_mul] at b3
    omega

/-! ### Results -/

@[simp] theorem outV_one {v : AV} : outV [v] = v := rfl
@[simp] theorem outV_two {u v : AV} : outV [u, v] = .tup [u, v] := rfl
@[simp] theorem outV_three {u v w : AV} : outV [u, v, w] = .tup [u, v, w] := rfl
@[simp] theorem outV_four {u v w x : AV} : outV [u, v, w, x] = .tup [u, v, w, x] := rfl
@[simp] theorem outV_nil : outV [] = .tup [] := rfl

/-- What a call hands back, its results known. -/
theorem finish_eq {n : Nat} {vs vs' : List AV} {S : Store} (h : fins n S vs = some vs') (hb : belows n vs' = true) : finish false n vs S = some (outV vs', S.take n) := by
  simp [finish, h, hb]

theorem finish_keep {n : Nat} {vs : List AV} {S : Store} (hb : belows n vs = true) : finish true n vs S = some (outV vs, S.take n) := by
  simp [finish, hb]

theorem finish_up {n : Nat} {vs vs' : List AV} {S : Store} (h : fins n S vs = some vs') (hb : belows n vs' = false) (ho : noOsl n vs = true) : finish false n vs S = some (outV vs', S) := by
  simp [finish, h, hb, ho]

@[simp] theorem finish_int {S : Store} {k : IntKind} {x : Int} : finish false S.length [.int k x] S = some (.int k x, S) := by simp [finish]
@[simp] theorem finish_bool {S : Store} {x : Bool} : finish false S.length [.bool x] S = some (.bool x, S) := by simp [finish]
@[simp] theorem finish_str {S : Store} {x : List UInt8} : finish false S.length [.str x] S = some (.str x, S) := by simp [finish]
@[simp] theorem finish_two {S : Store} {k : IntKind} {x : Int} {b : Bool} : finish false S.length [.int k x, .bool b] S = some (.tup [.int k x, .bool b], S) := by simp [finish]

@[simp] theorem finish_int' {S : Store} {n : Nat} {k : IntKind} {x : Int} : finish false n [.int k x] S = some (.int k x, S.take n) := by simp [finish]
@[simp] theorem finish_bool' {S : Store} {n : Nat} {x : Bool} : finish false n [.bool x] S = some (.bool x, S.take n) := by simp [finish]
@[simp] theorem finish_str' {S : Store} {n : Nat} {x : List UInt8} : finish false n [.str x] S = some (.str x, S.take n) := by simp [finish]

theorem take_set {S : Store} {i n : Nat} {e : Ent} (h : S.length = n) : (S.set i e).take n = S.set i e := by
  rw [List.take_of_length_le]; simp [h]

/-! ### Rounds -/

section
variable {σ τ : Type}

/-- A loop whose rounds are known, up to the one that leaves it. -/
theorem iter_run {step : σ → Option (σ ⊕ τ)} (st : Nat → σ) {r : τ} : ∀ (m k : Nat), (∀ j, k ≤ j → j < k + m → step (st j) = some (.inl (st (j + 1)))) → step (st (k + m)) = some (.inr r) → iter step (st k) = some r
  | 0, k, _, h => by rw [iter_eq, show k = k + 0 from rfl, h]; rfl
  | m + 1, k, hs, h => by
    rw [iter_eq, hs k (Nat.le_refl _) (by omega)]
    exact iter_run st m (k + 1) (fun j h1 h2 => hs j (by omega) (by omega)) (by rw [show k + 1 + m = k + (m + 1) by omega]; exact h)

/-- A loop by an invariant and a measure. -/
theorem iter_inv {step : σ → Option (σ ⊕ τ)} (I : Nat → σ → Prop) (Q : τ → Prop) (h : ∀ k s, I k s → (∃ r, step s = some (.inr r) ∧ Q r) ∨ ∃ s' k', k' < k ∧ step s = some (.inl s') ∧ I k' s') :
    ∀ k s, I k s → ∃ r, iter step s = some r ∧ Q r := by
  intro k
  induction k using Nat.strongRecOn with
  | _ k ih =>
    intro s hs
    rw [iter_eq]
    rcases h k s hs with ⟨r, h1, h2⟩ | ⟨s', k', h1, h2, h3⟩
    · exact ⟨r, by rw [h1]; rfl, h2⟩
    · obtain ⟨r, h4, h5⟩ := ih k' h1 s' h3
      exact ⟨r, by rw [h2]; exact h4, h5⟩

end

/-- A loop that looks for the first k between a and n. -/
theorem iter_scan {τ : Type} {step : List AV × Store → Option ((List AV × Store) ⊕ τ)} {S : Store} (p : Nat → Bool) {rT : Nat → τ} {rE : τ} : ∀ (m a : Nat),
    (∀ k, a ≤ k → k < a + m → step ([i64 (k : Nat)], S) = if p k then some (.inr (rT k)) else some (.inl ([i64 ((k : Int) + 1)], S))) → step ([i64 ((a + m : Nat) : Int)], S) = some (.inr rE) →
    (∃ k, a ≤ k ∧ k < a + m ∧ p k = true ∧ (∀ j, a ≤ j → j < k → p j = false) ∧ iter step ([i64 (a : Nat)], S) = some (rT k)) ∨ ((∀ k, a ≤ k → k < a + m → p k = false) ∧ iter step ([i64 (a : Nat)], S) = some rE)
  | 0, a, _, h => .inr ⟨fun k h1 h2 => by omega, by rw [iter_eq]; simp only [Nat.add_zero] at h; rw [h]; rfl⟩
  | m + 1, a, hs, h => by
    have h0 := hs a (Nat.le_refl _) (by omega)
    cases hp : p a with
    | true =>
      rw [hp] at h0
      exact .inl ⟨a, Nat.le_refl _, by omega, hp, fun j h1 h2 => by omega, by rw [iter_eq, h0]; rfl⟩
    | false =>
      rw [hp] at h0
      have he : iter step ([i64 (a : Nat)], S) = iter step ([i64 ((a + 1 : Nat) : Int)], S) := by rw [iter_eq, h0]; simp
      rw [he]
      rcases iter_scan p m (a + 1) (fun k h1 h2 => hs k (by omega) (by omega)) (by rw [show a + 1 + m = a + (m + 1) by omega]; exact h) with ⟨k, h1, h2, h3, h4, h5⟩ | ⟨h1, h2⟩
      · exact .inl ⟨k, by omega, by omega, h3, fun j h6 h7 => by
          by_cases e : j = a
          · subst e; exact hp
          · exact h4 j (by omega) h7, h5⟩
      · exact .inr ⟨fun k h3 h4 => by
          by_cases e : k = a
          · subst e; exact hp
          · exact h1 k (by omega) (by omega), h2⟩

/-- The store cut back, if it may be. -/
theorem nextS_same {b : Nat} {vs : List AV} {S : Store} : nextS b S.length vs S = some (vs, S) := by
  unfold nextS; split <;> simp

theorem nextS_eq {b n : Nat} {vs : List AV} {S : Store} (h : S.length = n) : nextS b n vs S = some (vs, S) := by
  subst h; exact nextS_same

theorem blt_true {i n : Nat} (h : i < n) : Nat.blt i n = true := by simp [Nat.blt]; omega
theorem blt_false {i n : Nat} (h : n ≤ i) : Nat.blt i n = false := by rw [Bool.eq_false_iff]; simp [Nat.blt]; omega

/-! ### Rows -/

@[simp] theorem rowsOf_sl {xs : List (List AV)} {t : Tok} {S : Store} : rowsOf (.sl xs t) S = some xs := rfl

/-- A slice of numbers. -/
def ints (l : List Int) : List (List AV) := l.map fun n => [i64 n]
/-- A slice of strings. -/
def strs (l : List (List UInt8)) : List (List AV) := l.map fun s => [.str s]

@[simp] theorem ints_length {l : List Int} : (ints l).length = l.length := by simp [ints]
@[simp] theorem strs_length {l : List (List UInt8)} : (strs l).length = l.length := by simp [strs]

theorem at_nat {α : Type} (xs : List α) (i : Nat) : at? xs (i : Int) = xs[i]? := by simp [at?]

theorem at_of {α : Type} {xs : List α} {i : Int} (h0 : 0 ≤ i) (h : i.toNat < xs.length) : at? xs i = some xs[i.toNat] := by simp [at?, h0, h]

theorem at_ints {l : List Int} {v : Int} (h0 : 0 ≤ v) (h : v.toNat < l.length) : at? (ints l) v = some [i64 l[v.toNat]] := by
  rw [at_of h0 (by simpa using h)]; simp [ints]
theorem at_strs {l : List (List UInt8)} {v : Int} (h0 : 0 ≤ v) (h : v.toNat < l.length) : at? (strs l) v = some [.str l[v.toNat]] := by
  rw [at_of h0 (by simpa using h)]; simp [strs]

@[simp] theorem take_set_len {S : Store} {i : Nat} {e : Ent} : (S.set i e).take S.length = S.set i e := take_set rfl
@[simp] theorem take_app_len {S es : Store} : (S ++ es).take S.length = S := by simp
@[simp] theorem take_set_app {S es : Store} {i : Nat} {e : Ent} : (S.set i e ++ es).take S.length = S.set i e := by
  rw [List.take_append_of_le_length (by simp), take_set_len]

/-! ### The first of a list -/

/-- Where the first is that p takes (the length, if there is none). -/
def idxN {α : Type} (p : α → Bool) : List α → Nat
  | [] => 0
  | x :: l => bif p x then 0 else idxN p l + 1

def idxP {α : Type} (p : α → Bool) (l : List α) : Int := if idxN p l < l.length then (idxN p l : Int) else -1

theorem idxN_le {α : Type} (p : α → Bool) (l : List α) : idxN p l ≤ l.length := by
  induction l with
  | nil => simp [idxN]
  | cons x l ih => cases hx : p x <;> simp [idxN, hx]; exact ih

theorem idxN_before {α : Type} (p : α → Bool) (l : List α) {j : Nat} (h : j < idxN p l) (hj : j < l.length) : p l[j] = false := by
  induction l generalizing j with
  | nil => simp at hj
  | cons x l ih =>
    simp only [idxN] at h
    cases hx : p x with
    | true => rw [hx] at h; simp at h
    | false =>
      rw [hx] at h
      cases j with
      | zero => exact hx
      | succ j => exact ih (by simpa using h) (by simpa using hj)

theorem idxN_at {α : Type} (p : α → Bool) (l : List α) (h : idxN p l < l.length) : p l[idxN p l] = true := by
  induction l with
  | nil => simp at h
  | cons x l ih =>
    cases hx : p x with
    | true => simp [idxN, hx]
    | false =>
      simp only [idxN, hx, cond_false, List.length_cons] at h
      have := ih (by omega)
      simpa [idxN, hx] using this

theorem idxN_any {α : Type} (p : α → Bool) (l : List α) : (idxN p l < l.length) ↔ l.any p = true := by
  induction l with
  | nil => simp [idxN]
  | cons x l ih =>
    cases hx : p x with
    | true => simp [idxN, hx]
    | false => simp only [idxN, hx, cond_false, List.length_cons, List.any_cons, Bool.false_or, ← ih]; omega

theorem idxP_any {α : Type} (p : α → Bool) (l : List α) : decide (0 ≤ idxP p l) = l.any p := by
  unfold idxP
  by_cases h : idxN p l < l.length
  · rw [if_pos h, (idxN_any p l).1 h]; simp
  · rw [if_neg h]
    have : l.any p = false := by rw [Bool.eq_false_iff]; exact fun h2 => h ((idxN_any p l).2 h2)
    simp [this]

end Go.Abs

/-
  slices.SortFunc at rows of whole numbers, where no two elements are alike: its reading.
-/
namespace Go.Abs
open Go

/-- A row's numbers. -/
def intRow (φ : Int → Int) : List AV → Option (List Int)
  | [] => some []
  | .int .i64 n :: r => if φ n = n then (intRow φ r).bind fun l => some (n :: l) else none
  | _ => none

def intRows (φ : Int → Int) : List (List AV) → Option (List (List Int))
  | [] => some []
  | r :: l => (intRow φ r).bind fun k => (intRows φ l).bind fun m => some (k :: m)

def keyOf (ks : List Nat) (l : List Int) : List Int := ks.map fun k => l.getD k 0

def ltK : List Int → List Int → Bool
  | a :: as_, b :: bs => decide (a < b) || (a == b && ltK as_ bs)
  | _, _ => false

def insK (ks : List Nat) (r : List Int) : List (List Int) → List (List Int)
  | [] => [r]
  | x :: l => bif ltK (keyOf ks r) (keyOf ks x) then r :: x :: l else x :: insK ks r l

def sortK (ks : List Nat) : List (List Int) → List (List Int)
  | [] => []
  | r :: l => insK ks r (sortK ks l)

def incrK (ks : List Nat) : List (List Int) → Bool
  | [] => true
  | x :: l => (match l with | [] => true | y :: _ => ltK (keyOf ks x) (keyOf ks y)) && incrK ks l

def sortedBy (φ : Int → Int) (ks : List Nat) (rows : List (List AV)) : Option (List (List AV)) :=
  (intRows φ rows).bind fun l => bif incrK ks (sortK ks l) then some ((sortK ks l).map fun r => r.map fun n => .int .i64 n) else none

/-- 'ks': the places of the cells that the closure f compares, in turn · 'φ': what numbers are taken. -/
def sortG (φ : Int → Int) (sz : Nat) (ks : List Nat) (f : Nat) (args : List AV) (S : Store) : Option (AV × Store) :=
  match args with
  | [.sl [] _, .clo g []] => bif Nat.beq g f then some (.tup [], S) else none
  | [.osl i o l s, .clo g []] =>
    bif Nat.beq g f && Nat.beq s sz then
      match S[i]? with
      | some (.obj cs) => if o + l * sz ≤ cs.length ∧ l < 4611686018427387904 then (sortedBy φ ks (chunks sz (cs.drop o) l)).bind fun rows => some (.tup [], S.set i (.obj (setC cs o rows.flatten))) else none
      | _ => none
    else none
  | _ => none

def sortV (sz : Nat) (ks : List Nat) (f : Nat) : List AV → Store → Option (AV × Store) := sortG (fun n => n) sz ks f

/-! ### The order -/

theorem ltK_irrefl : ∀ a : List Int, ltK a a = false
  | [] => rfl
  | x :: a => by simp [ltK, ltK_irrefl a]

theorem ltK_trans : ∀ {a b c : List Int}, ltK a b = true → ltK b c = true → ltK a c = true
  | [], _, _, h, _ => by simp [ltK] at h
  | _ :: _, [], _, h, _ => by simp [ltK] at h
  | _ :: _, _ :: _, [], _, h => by simp [ltK] at h
  | x :: a, y :: b, z :: c, h1, h2 => by
    simp only [ltK, Bool.or_eq_true, decide_eq_true_eq, Bool.and_eq_true, beq_iff_eq] at *
    rcases h1 with h1 | ⟨rfl, h1⟩
    · rcases h2 with h2 | ⟨rfl, h2⟩ <;> (left; omega)
    · rcases h2 with h2 | ⟨rfl, h2⟩
      · left; omega
      · right; exact ⟨rfl, ltK_trans h1 h2⟩

theorem ltK_ntrans : ∀ {a b c : List Int}, a.length = b.length → b.length = c.length → ltK a b = false → ltK b c = false → ltK a c = false
  | [], _, _, _, _, _, _ => by simp [ltK]
  | _ :: _, [], _, h, _, _, _ => by simp at h
  | _ :: _, _ :: _, [], _, h, _, _ => by simp at h
  | x :: a, y :: b, z :: c, l1, l2, h1, h2 => by
    simp only [ltK, Bool.or_eq_false_iff, decide_eq_false_iff_not, Bool.and_eq_false_iff, beq_eq_false_iff_ne] at *
    refine ⟨by omega, ?_⟩
    by_cases hxz : x = z
    · subst hxz
      have hxy : x = y := by omega
      subst hxy
      right
      exact ltK_ntrans (by simpa using l1) (by simpa using l2) (by rcases h1.2 with h | h; exact absurd rfl h; exact h) (by rcases h2.2 with h | h; exact absurd rfl h; exact h)
    · exact .inl hxz

theorem keyOf_length {ks : List Nat} (l : List Int) : (keyOf ks l).length = ks.length := by simp [keyOf]

theorem insK_perm (ks : List Nat) (r : List Int) : ∀ l, (insK ks r l).Perm (r :: l)
  | [] => .refl _
  | x :: l => by
    simp only [insK]
    cases ltK (keyOf ks r) (keyOf ks x) with
    | true => exact .refl _
    | false => exact ((insK_perm ks r l).cons x).trans (.swap r x l)

theorem sortK_perm (ks : List Nat) : ∀ l, (sortK ks l).Perm l
  | [] => .refl _
  | r :: l => (insK_perm ks r _).trans ((sortK_perm ks l).cons r)

theorem incrK_pairwise (ks : List Nat) : ∀ l, incrK ks l = true → l.Pairwise fun a b => ltK (keyOf ks a) (keyOf ks b) = true
  | [], _ => .nil
  | [x], _ => by simp
  | x :: y :: l, h => by
    simp only [incrK, Bool.and_eq_true] at h
    have ih := incrK_pairwise ks (y :: l) (by simp only [incrK, Bool.and_eq_true]; exact h.2)
    refine List.Pairwise.cons (fun z hz => ?_) ih
    rcases List.mem_cons.1 hz with rfl | hz
    · exact h.1
    · exact ltK_trans h.1 ((List.pairwise_cons.1 ih).1 z hz)

/-- A list that ascends strictly is the only one of its elements that nowhere descends. -/
theorem sorted_unique {α : Type} {lt : α → α → Bool} : ∀ {s d : List α}, s.Pairwise (fun a b => lt a b = true) → d.Pairwise (fun a b => lt b a = false) → d.Perm s → d = s
  | [], d, _, _, hp => hp.eq_nil
  | a :: s, [], _, _, hp => by simpa using hp.length_eq
  | a :: s, b :: d, hs, hd, hp => by
    have hs' := List.pairwise_cons.1 hs
    have hd' := List.pairwise_cons.1 hd
    have hab : b = a := by
      have h1 : b ∈ a :: s := hp.mem_iff.1 (by simp)
      have h2 : a ∈ b :: d := hp.mem_iff.2 (by simp)
      rcases List.mem_cons.1 h1 with h1 | h1
      · exact h1
      · rcases List.mem_cons.1 h2 with h2 | h2
        · exact h2.symm
        · have e1 := hs'.1 b h1
          have e2 := hd'.1 a h2
          rw [e1] at e2; cases e2
    subst hab
    rw [sorted_unique hs'.2 hd'.2 (List.Perm.cons_inv hp)]

theorem sorted_unique' {ks : List Nat} {l d : List (List Int)} (hi : incrK ks (sortK ks l) = true) (hd : d.Pairwise fun a b => ltK (keyOf ks b) (keyOf ks a) = false) (hp : d.Perm l) : d = sortK ks l :=
  sorted_unique (lt := fun a b => ltK (keyOf ks a) (keyOf ks b)) (incrK_pairwise ks _ hi) hd (hp.trans (sortK_perm ks l).symm)

theorem intRow_spec {φ : Int → Int} : ∀ {r : List AV} {l : List Int}, intRow φ r = some l → r = l.map (fun n => AV.int .i64 n) ∧ ∀ n ∈ l, φ n = n
  | [], l, h => by simp only [intRow, Option.some.injEq] at h; subst h; simp
  | x :: r, l, h => by
    unfold intRow at h
    split at h
    · rename_i h1; cases h1
    · rename_i n r' h1
      cases h1
      split at h
      · rename_i hn
        obtain ⟨l', h2, h3⟩ := Option.bind_eq_some_iff.1 h
        cases h3
        obtain ⟨e1, e2⟩ := intRow_spec h2
        refine ⟨by rw [e1]; rfl, fun m hm => ?_⟩
        rcases List.mem_cons.1 hm with rfl | hm
        · exact hn
        · exact e2 m hm
      · cases h
    · cases h

theorem intRows_spec {φ : Int → Int} : ∀ {rs : List (List AV)} {l : List (List Int)}, intRows φ rs = some l → rs = l.map (fun r => r.map fun n => AV.int .i64 n) ∧ ∀ r ∈ l, ∀ n ∈ r, φ n = n
  | [], l, h => by simp only [intRows, Option.some.injEq] at h; subst h; simp
  | r :: rs, l, h => by
    obtain ⟨k, h1, h⟩ := Option.bind_eq_some_iff.1 h
    obtain ⟨m, h2, h⟩ := Option.bind_eq_some_iff.1 h
    cases h
    obtain ⟨e1, e2⟩ := intRow_spec h1
    obtain ⟨e3, e4⟩ := intRows_spec h2
    refine ⟨by rw [e1, e3]; rfl, fun x hx => ?_⟩
    rcases List.mem_cons.1 hx with rfl | hx
    · exact e2
    · exact e4 x hx

end Go.Abs
