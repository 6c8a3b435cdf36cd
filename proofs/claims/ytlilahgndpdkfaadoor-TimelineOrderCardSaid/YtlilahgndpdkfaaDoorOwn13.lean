/-
  Texts of this claim: AbsRel, AbsInv.
-/
import Derived.Laws.CopyRow
import Derived.Laws.MakeOwn
import Derived.Test.YtlilahgndpdkfaaDoorOwn1
import Derived.Test.YtlilahgndpdkfaaDoorOwn3
set_option linter.all false
/-
  What the abstract values stand for in a world: the relation, and how it is kept when the world grows or an entry's memory is written.
-/
namespace Go.Abs
open Go Go.RowKit

abbrev Mem := Nat → Nat → Option Value

/-- The ghost: the cells that nobody writes any more · an entry's block · the header of a slice that may grow · the size of an entry's block. -/
structure Gst where
  M : Mem
  β : Nat → Nat
  γ : Nat → Value
  ζ : Nat → Nat

def Tok.plain : Tok → Prop
  | .own _ => False
  | _ => True

def Tok.isFull : Tok → Prop
  | .full => True
  | _ => False

/-- A value without a right to write. -/
inductive V0 (M : Mem) : Value → AV → Prop
  | int (k : IntKind) (n : Int) : V0 M (.int k n) (.int k n)
  | bool (b : Bool) : V0 M (.bool b) (.bool b)
  | str (s : ByteArray) (l : List UInt8) (h : s.data.toList = l) : V0 M (.string s) (.str l)
  | nilp : V0 M (.pointer none) .nilp
  | nilm : V0 M (.map none) .nilp
  | nilsl (a : Option Addr) (t : Tok) (ht : t.plain) : V0 M (.slice a 0 0) (.sl [] t)
  | sl (b o len cap sz : Nat) (f : Nat → Value) (xs : List (List AV)) (t : Tok) (ht : t.plain) (hl : xs.length = len) (hc : len ≤ cap) (hsz : ∀ x ∈ xs, x.length = sz) (hf : t.isFull → cap = len)
      (hm : ∀ j, j < xs.flatten.length → M b (o + j) = some (f j)) (hv : ∀ j (h : j < xs.flatten.length), V0 M (f j) (xs.flatten[j])) : V0 M (.slice (some ⟨b, o, none⟩) len cap) (.sl xs t)
  | ip (b o off : Nat) (f : Nat → Value) (cs : List AV) (hm : ∀ j, j < cs.length → M b (o + j) = some (f j)) (hv : ∀ j (h : j < cs.length), V0 M (f j) (cs[j])) : V0 M (.pointer (some ⟨b, o + off, none⟩)) (.ip cs off)

def MLe (M M' : Mem) : Prop := ∀ b o v, M b o = some v → M' b o = some v

theorem MLe.refl (M : Mem) : MLe M M := fun _ _ _ h => h
theorem MLe.trans {A B C : Mem} (h : MLe A B) (k : MLe B C) : MLe A C := fun b o v x => k b o v (h b o v x)

theorem V0.mono {M M' : Mem} (h : MLe M M') {v : Value} {a : AV} (hv : V0 M v a) : V0 M' v a := by
  induction hv with
  | int k n => exact .int k n
  | bool b => exact .bool b
  | str s l hl => exact .str s l hl
  | nilp => exact .nilp
  | nilm => exact .nilm
  | nilsl a t ht => exact .nilsl a t ht
  | sl b o len cap sz f xs t ht hl hc hsz hf hm hv ih => exact .sl b o len cap sz f xs t ht hl hc hsz hf (fun j hj => h _ _ _ (hm j hj)) ih
  | ip b o off f cs hm hv ih => exact .ip b o off f cs (fun j hj => h _ _ _ (hm j hj)) ih

/-- A row of cells that nobody writes, at a place. -/
def Row (M : Mem) (b o : Nat) (cs : List AV) : Prop := ∀ j (h : j < cs.length), ∃ v, M b (o + j) = some v ∧ V0 M v (cs[j])

theorem Row.mono {M M' : Mem} (h : MLe M M') {b o : Nat} {cs : List AV} (hr : Row M b o cs) : Row M' b o cs := fun j hj =>
  let ⟨v, h1, h2⟩ := hr j hj
  ⟨v, h _ _ _ h1, h2.mono h⟩

noncomputable def Row.f (M : Mem) (b o : Nat) (j : Nat) : Value := (M b (o + j)).getD undef

theorem V0.of_row {M : Mem} {b o len cap sz : Nat} {xs : List (List AV)} {t : Tok} (ht : t.plain) (hl : xs.length = len) (hc : len ≤ cap) (hsz : ∀ x ∈ xs, x.length = sz) (hf : t.isFull → cap = len)
    (hr : Row M b o xs.flatten) : V0 M (.slice (some ⟨b, o, none⟩) len cap) (.sl xs t) :=
  .sl b o len cap sz (Row.f M b o) xs t ht hl hc hsz hf
    (fun j hj => by obtain ⟨v, h1, _⟩ := hr j hj; simp [Row.f, h1])
    (fun j hj => by obtain ⟨v, h1, h2⟩ := hr j hj; simpa [Row.f, h1] using h2)

theorem V0.ip_of_row {M : Mem} {b o off : Nat} {cs : List AV} (hr : Row M b o cs) : V0 M (.pointer (some ⟨b, o + off, none⟩)) (.ip cs off) :=
  .ip b o off (Row.f M b o) cs
    (fun j hj => by obtain ⟨v, h1, _⟩ := hr j hj; simp [Row.f, h1])
    (fun j hj => by obtain ⟨v, h1, h2⟩ := hr j hj; simpa [Row.f, h1] using h2)

/-- A slice's address: whatever of one without room, or one without more ado. -/
def AddrOK (a : Option Addr) (cap : Nat) : Prop := cap = 0 ∨ ∃ b o, a = some ⟨b, o, none⟩

theorem AddrOK.some (b o cap : Nat) : AddrOK (.some ⟨b, o, none⟩) cap := .inr ⟨b, o, rfl⟩

/-- One cell's value, a right to write included. -/
inductive V1 (G : Gst) (S : Store) : Value → AV → Prop
  | v0 {v : Value} {a : AV} (h : V0 G.M v a) : V1 G S v a
  | own {v : Value} {xs : List (List AV)} {i : Nat} (h : V0 G.M v (.sl xs .none)) (ht : ∀ n sz, S[i]? = some (.tail n sz) → xs.length ≤ n ∧ (xs.length = n → v = G.γ i) ∧ ∀ x ∈ xs, x.length = sz) : V1 G S v (.sl xs (.own i))
  | ptr (i off : Nat) : V1 G S (.pointer (some ⟨G.β i, off, none⟩)) (.ptr i off)
  | osl (a : Option Addr) (i off len cap sz : Nat) (hc : len ≤ cap) (ha : 0 < cap → a = some ⟨G.β i, off, none⟩ ∧ off + cap * sz ≤ G.ζ i) (hp : AddrOK a cap) : V1 G S (.slice a len cap) (.osl i off len sz)
  | map (i : Nat) : V1 G S (.map (some (G.β i))) (.map i)
  | clo (f : Nat) (cv : Array Value) (caps : List AV) (hs : cv.size = caps.length) (hv : ∀ j (h : j < caps.length), V1 G S (cv.getD j undef) (caps[j])) : V1 G S (.func (.func f) #[] cv) (.clo f caps)

/-- A value. -/
inductive V2 (G : Gst) (S : Store) : Value → AV → Prop
  | one {v : Value} {a : AV} (h : V1 G S v a) : V2 G S v a
  | agg (cs : Array Value) (l : List AV) (hs : cs.size = l.length) (hv : ∀ j (h : j < l.length), V1 G S (cs.getD j undef) (l[j])) : V2 G S (.agg cs) (.agg l)
  | tup (vs : Array Value) (l : List AV) (hs : vs.size = l.length) (hv : ∀ j (h : j < l.length), V2 G S (vs.getD j undef) (l[j])) : V2 G S (.tuple vs) (.tup l)
  | u (v : Value) : V2 G S v .u
  | und : V2 G S undef .und

/-- The block that an entry alone writes. -/
def Acts (G : Gst) (S : Store) (i blk : Nat) : Prop :=
  match S[i]? with
  | some (.obj cs) => cs ≠ [] ∧ blk = G.β i
  | some (.map _) => blk = G.β i
  | some (.iter _ _ _) => blk = G.β i
  | some (.tail n _) => ∃ off cap, G.γ i = .slice (some ⟨blk, off, none⟩) n cap ∧ n < cap
  | _ => False

/-- A key or an element of a map. -/
inductive V0a (M : Mem) : Value → AV → Prop
  | one {v : Value} {a : AV} (h : V0 M v a) : V0a M v a
  | agg (cs : Array Value) (l : List AV) (hs : cs.size = l.length) (hv : ∀ j (h : j < l.length), V0 M (cs.getD j undef) (l[j])) : V0a M (.agg cs) (.agg l)

theorem V0a.mono {M M' : Mem} (h : MLe M M') {v : Value} {a : AV} (hv : V0a M v a) : V0a M' v a := by
  cases hv with
  | one k => exact .one (k.mono h)
  | agg cs l hs hv => exact .agg cs l hs fun j hj => (hv j hj).mono h

def EntOK (G : Gst) (S : Store) (w : World) (i : Nat) : Ent → Prop
  | .obj cs => cs ≠ [] → ∃ arr t fz, w.heap[G.β i]? = some (.cells arr t fz) ∧ cs.length ≤ arr.size ∧ (∀ o, o < arr.size → ¬ (fz.1 ≤ o ∧ o < fz.2)) ∧ (∀ j (h : j < cs.length), V1 G S (arr.getD j undef) (cs[j])) ∧ (∀ o, G.M (G.β i) o = none) ∧ arr.size = G.ζ i
  | .tail n sz => ((∃ a, G.γ i = .slice a 0 0) ∧ n = 0) ∨ ∃ blk off cap, G.γ i = .slice (some ⟨blk, off, none⟩) n cap ∧ n ≤ cap ∧
      (n < cap → ∃ arr t fz, w.heap[blk]? = some (.cells arr t fz) ∧ off + cap * sz ≤ arr.size ∧ (∀ o, o < arr.size → ¬ (fz.1 ≤ o ∧ o < fz.2)) ∧ ∀ o, off + n * sz ≤ o → G.M blk o = none)
  | .map es => ∃ mes : Array MapEntry, w.heap[G.β i]? = some (.map mes mes.size) ∧ mes.size = es.length ∧
      (∀ j (h : j < es.length), V0a G.M ((mes.getD j default).key) (es[j].1) ∧ V2 G S ((mes.getD j default).val) (es[j].2) ∧ (mes.getD j default).born = j) ∧ ∀ o, G.M (G.β i) o = none
  | .iter m n seen => ∃ sn : Array Nat, w.heap[G.β i]? = some (.mapIter (some (G.β m)) n sn n) ∧ sn.toList = seen ∧ ∀ o, G.M (G.β i) o = none
  | .dead => True

/-- The world at the outset, and cells that are known from then on. -/
structure Ctx where
  W0 : World
  M0 : Mem

/-- What is the case between two operations; b: the height of the store when the function began. -/
structure Sat (X : Ctx) (G : Gst) (b : Nat) (S : Store) (w : World) : Prop where
  below : Below X.W0.heap.size X.W0 w
  m0 : MLe X.M0 G.M
  im : ∀ blk o v, G.M blk o = some v → w.cell? ⟨blk, o, none⟩ = some v
  ent : ∀ i e, S[i]? = some e → EntOK G S w i e
  dis : ∀ i j blk, Acts G S i blk → Acts G S j blk → i = j
  base : ∀ i blk, Acts G S i blk → X.W0.heap.size ≤ blk
  bel : ∀ i e, S[i]? = some e → entBelow (if i < b then b else S.length) e = true

/-- From a state on: what was frozen stays; the first n entries keep their blocks, their slices only grow; those before b hold no more references than they may. -/
structure Ext (n b : Nat) (G : Gst) (S : Store) (G' : Gst) (S' : Store) : Prop where
  m : MLe G.M G'.M
  β : ∀ i, i < n → G'.β i = G.β i
  tail : ∀ i, i < n → ∀ k sz, S'[i]? = some (.tail k sz) → ∃ k0, S[i]? = some (.tail k0 sz) ∧ k0 ≤ k ∧ (k0 = k → G'.γ i = G.γ i)
  len : n ≤ S'.length
  ζ : ∀ i, i < n → G'.ζ i = G.ζ i
  bel : ∀ i, i < b → ∀ e', S'[i]? = some e' → ∃ e, S[i]? = some e ∧ ∀ m, i ≤ m → entBelow m e = true → entBelow m e' = true

theorem Ext.refl {b : Nat} (G : Gst) (S : Store) : Ext S.length b G S G S :=
  ⟨MLe.refl _, fun _ _ => rfl, fun _ _ k _ h => ⟨k, h, Nat.le_refl _, fun _ => rfl⟩, Nat.le_refl _, fun _ _ => rfl, fun _ _ e h => ⟨e, h, fun _ _ h => h⟩⟩

theorem Ext.trans {n m b : Nat} {G G1 G2 : Gst} {S S1 S2 : Store} (h : Ext n b G S G1 S1) (k : Ext m b G1 S1 G2 S2) (hm : n ≤ m) : Ext n b G S G2 S2 := by
  refine ⟨h.m.trans k.m, fun i hi => (k.β i (by omega)).trans (h.β i hi), fun i hi c sz hc => ?_, by have := k.len; omega, fun i hi => (k.ζ i (by omega)).trans (h.ζ i hi), fun i hi e hc => ?_⟩
  · obtain ⟨c1, h1, l1, q1⟩ := k.tail i (by omega) c sz hc
    obtain ⟨c0, h0, l0, q0⟩ := h.tail i hi c1 sz h1
    exact ⟨c0, h0, by omega, fun e => by rw [q1 (by omega), q0 (by omega)]⟩
  · obtain ⟨e1, h1, q1⟩ := k.bel i hi e hc
    obtain ⟨e0, h0, q0⟩ := h.bel i hi e1 h1
    exact ⟨e0, h0, fun m hm hb => q1 m hm (q0 m hm hb)⟩

theorem Ext.weak {n m b : Nat} {G G' : Gst} {S S' : Store} (h : Ext m b G S G' S') (hn : n ≤ m) : Ext n b G S G' S' :=
  ⟨h.m, fun i hi => h.β i (by omega), fun i hi => h.tail i (by omega), by have := h.len; omega, fun i hi => h.ζ i (by omega), h.bel⟩

theorem below_all_get {n : Nat} {l : List AV} (h : belows n l = true) {j : Nat} (hj : j < l.length) : below n l[j] = true := by
  induction l generalizing j with
  | nil => simp at hj
  | cons a l ih =>
    simp only [belows, Bool.and_eq_true] at h
    cases j with
    | zero => exact h.1
    | succ j => exact ih h.2 (by simpa using hj)

theorem belows_of_get {n : Nat} {l : List AV} (h : ∀ j (hj : j < l.length), below n l[j] = true) : belows n l = true := by
  induction l with
  | nil => rfl
  | cons a l ih =>
    simp only [belows, Bool.and_eq_true]
    exact ⟨h 0 (by simp), ih fun j hj => h (j + 1) (by simpa using hj)⟩

theorem belows_all' {n : Nat} {l : List AV} : belows n l = l.all (below n) := by
  induction l with
  | nil => rfl
  | cons a l ih => simp [belows, ih]
theorem below_agg_eq {n : Nat} {c : List AV} : below n (.agg c) = belows n c := by
  rw [below, belows_all']; simp [List.all_eq]
theorem below_tup_eq {n : Nat} {c : List AV} : below n (.tup c) = belows n c := by
  rw [below, belows_all']; simp [List.all_eq]
theorem below_clo_eq {n f : Nat} {c : List AV} : below n (.clo f c) = belows n c := by
  rw [below, belows_all']; simp [List.all_eq]

theorem blt_iff {i n : Nat} : Nat.blt i n = true ↔ i < n := by simp [Nat.blt, Nat.ble_eq]; omega

theorem below_mono {n m : Nat} (hm : n ≤ m) : ∀ (a : AV), below n a = true → below m a = true
  | .int .., _ => by simp [below]
  | .bool _, _ => by simp [below]
  | .str _, _ => by simp [below]
  | .ip .., _ => by simp [below]
  | .nilp, _ => by simp [below]
  | .und, _ => by simp [below]
  | .sl _ .none, _ => by simp [below]
  | .sl _ .full, _ => by simp [below]
  | .sl _ (.own i), h => by simp only [below, blt_iff] at *; omega
  | .ptr i _, h => by simp only [below, blt_iff] at *; omega
  | .osl i _ _ _, h => by simp only [below, blt_iff] at *; omega
  | .map i, h => by simp only [below, blt_iff] at *; omega
  | .clo f cs, h => by
    rw [below_clo_eq] at *
    exact belows_of_get fun j hj => below_mono hm cs[j] (below_all_get h hj)
  | .agg cs, h => by
    rw [below_agg_eq] at *
    exact belows_of_get fun j hj => below_mono hm cs[j] (below_all_get h hj)
  | .tup cs, h => by
    rw [below_tup_eq] at *
    exact belows_of_get fun j hj => below_mono hm cs[j] (below_all_get h hj)
termination_by a => SizeOf.sizeOf a
decreasing_by all_goals (have := List.sizeOf_lt_of_mem (List.getElem_mem hj); simp; omega)

theorem belows_mono {n m : Nat} (hm : n ≤ m) {l : List AV} (h : belows n l = true) : belows m l = true :=
  belows_of_get fun j hj => below_mono hm _ (below_all_get h hj)

theorem belowsM_get {n : Nat} {l : List (AV × AV)} (h : belowsM n l = true) {j : Nat} (hj : j < l.length) : below n l[j].2 = true := by
  induction l generalizing j with
  | nil => simp at hj
  | cons a l ih =>
    simp only [belowsM, Bool.and_eq_true] at h
    cases j with
    | zero => exact h.1
    | succ j => exact ih h.2 (by simpa using hj)

theorem belowsM_of_get {n : Nat} {l : List (AV × AV)} (h : ∀ j (hj : j < l.length), below n l[j].2 = true) : belowsM n l = true := by
  induction l with
  | nil => rfl
  | cons a l ih =>
    simp only [belowsM, Bool.and_eq_true]
    exact ⟨h 0 (by simp), ih fun j hj => h (j + 1) (by simpa using hj)⟩

theorem belowsM_mono {n m : Nat} (hm : n ≤ m) {l : List (AV × AV)} (h : belowsM n l = true) : belowsM m l = true :=
  belowsM_of_get fun _ hj => below_mono hm _ (belowsM_get h hj)

theorem entBelow_mono {n m : Nat} (hm : n ≤ m) {e : Ent} (h : entBelow n e = true) : entBelow m e = true := by
  cases e <;> simp only [entBelow] at * <;> first | exact belows_mono hm h | exact belowsM_mono hm h | (rw [blt_iff] at *; omega) | trivial

theorem V0.low {M : Mem} {v : Value} {a : AV} (h : V0 M v a) (n : Nat) : Abs.below n a = true := by
  cases h with
  | nilsl a t ht => cases t <;> simp [Abs.below, Tok.plain] at *
  | sl b o len cap sz f xs t ht => cases t <;> simp [Abs.below, Tok.plain] at *
  | _ => simp [Abs.below]

theorem V1.mono {n b : Nat} {G G' : Gst} {S S' : Store} (h : Ext n b G S G' S') {v : Value} {a : AV} (hv : V1 G S v a) : Abs.below n a = true → V1 G' S' v a := by
  induction hv with
  | v0 h0 => exact fun _ => .v0 (h0.mono h.m)
  | @own v xs i h0 ht =>
    intro hb
    simp only [Abs.below, blt_iff] at hb
    refine .own (h0.mono h.m) fun k sz hk => ?_
    obtain ⟨k0, h1, h2, h3⟩ := h.tail i hb k sz hk
    obtain ⟨h4, h5, h6⟩ := ht k0 sz h1
    exact ⟨by omega, fun e => by rw [h3 (by omega)]; exact h5 (by omega), h6⟩
  | ptr i off =>
    intro hb
    simp only [Abs.below, blt_iff] at hb
    rw [← h.β i hb]; exact .ptr i off
  | osl a i off len cap sz hc ha hp =>
    intro hb
    simp only [Abs.below, blt_iff] at hb
    exact .osl a i off len cap sz hc (fun hl => by rw [h.β i hb, h.ζ i hb]; exact ha hl) hp
  | map i =>
    intro hb
    simp only [Abs.below, blt_iff] at hb
    rw [← h.β i hb]; exact .map i
  | clo f cv caps hs hv ih =>
    intro hb
    rw [below_clo_eq] at hb
    exact .clo f cv caps hs fun j hj => ih j hj (below_all_get hb hj)

theorem V2.mono {n b : Nat} {G G' : Gst} {S S' : Store} (h : Ext n b G S G' S') {v : Value} {a : AV} (hv : V2 G S v a) : Abs.below n a = true → V2 G' S' v a := by
  induction hv with
  | one h1 => exact fun hb => .one (h1.mono h hb)
  | agg cs l hs hv =>
    intro hb
    rw [below_agg_eq] at hb
    exact .agg cs l hs fun j hj => (hv j hj).mono h (below_all_get hb hj)
  | tup vs l hs hv ih =>
    intro hb
    rw [below_tup_eq] at hb
    exact .tup vs l hs fun j hj => ih j hj (below_all_get hb hj)
  | u v => exact fun _ => .u v
  | und => exact fun _ => .und

/-- What was nobody's to write is as_ it was; what is somebody's now was so, or is new. -/
structure Keep (G : Gst) (S : Store) (w : World) (G' : Gst) (S' : Store) (w' : World) : Prop where
  size : w.heap.size ≤ w'.heap.size
  blk : ∀ k, k < w.heap.size → (∀ i, ¬ Acts G S i k) → w'.heap[k]? = w.heap[k]?
  act : ∀ i k, Acts G' S' i k → (∃ j, Acts G S j k) ∨ w.heap.size ≤ k
  mem : ∀ k o, k < w.heap.size → (∀ i, ¬ Acts G S i k) → G'.M k o = G.M k o

theorem Keep.refl (G : Gst) (S : Store) (w : World) : Keep G S w G S w := ⟨Nat.le_refl _, fun _ _ _ => rfl, fun i _ h => .inl ⟨i, h⟩, fun _ _ _ _ => rfl⟩

theorem EntOK.keep {n b : Nat} {G G' : Gst} {S S' : Store} {w w' : World} {i : Nat} {e : Ent} (h : EntOK G S w i e) (hS : S[i]? = some e) (hE : Ext n b G S G' S') (hn : entBelow n e = true)
    (hβ : G'.β i = G.β i) (hγ : G'.γ i = G.γ i) (hζ : G'.ζ i = G.ζ i) (hh : ∀ blk, Acts G S i blk → w'.heap[blk]? = w.heap[blk]?) (hM : ∀ blk, Acts G S i blk → ∀ o, G.M blk o = none → G'.M blk o = none) : EntOK G' S' w' i e := by
  cases e with
  | obj cs =>
    intro hne
    obtain ⟨arr, t, fz, h1, h2, h3, h4, h5, h6⟩ := h hne
    have ha : Acts G S i (G.β i) := by unfold Acts; rw [hS]; exact ⟨hne, rfl⟩
    refine ⟨arr, t, fz, by rw [hβ, hh _ ha]; exact h1, h2, h3, fun j hj => ?_, fun o => by rw [hβ]; exact hM _ ha o (h5 o), by rw [hζ]; exact h6⟩
    exact (h4 j hj).mono hE (below_all_get (by simpa [entBelow] using hn) hj)
  | tail k sz =>
    rcases h with ⟨⟨a, h1⟩, h2⟩ | ⟨blk, off, cap, h1, h2, h3⟩
    · exact .inl ⟨⟨a, by rw [hγ]; exact h1⟩, h2⟩
    · refine .inr ⟨blk, off, cap, by rw [hγ]; exact h1, h2, fun hlt => ?_⟩
      obtain ⟨arr, t, fz, h4, h5, h6, h7⟩ := h3 hlt
      have ha : Acts G S i blk := by unfold Acts; rw [hS]; exact ⟨off, cap, h1, hlt⟩
      exact ⟨arr, t, fz, by rw [hh _ ha]; exact h4, h5, h6, fun o ho => hM _ ha o (h7 o ho)⟩
  | map es =>
    obtain ⟨mes, h1, h2, h3, h5⟩ := h
    have ha : Acts G S i (G.β i) := by unfold Acts; rw [hS]
    refine ⟨mes, by rw [hβ, hh _ ha]; exact h1, h2, fun j hj => ?_, fun o => by rw [hβ]; exact hM _ ha o (h5 o)⟩
    exact ⟨(h3 j hj).1.mono hE.m, (h3 j hj).2.1.mono hE (belowsM_get (by simpa [entBelow] using hn) hj), (h3 j hj).2.2⟩
  | iter m k seen =>
    obtain ⟨sn, h1, h2, h5⟩ := h
    have ha : Acts G S i (G.β i) := by unfold Acts; rw [hS]
    refine ⟨sn, by rw [hβ, hh _ ha, hE.β m (by simpa [entBelow, blt_iff] using hn)]; exact h1, h2, fun o => by rw [hβ]; exact hM _ ha o (h5 o)⟩
  | dead => trivial

theorem Sat.lowS {X : Ctx} {G : Gst} {b : Nat} {S : Store} {w : World} (h : Sat X G b S w) (hb : b ≤ S.length) {i : Nat} {e : Ent} (he : S[i]? = some e) : entBelow S.length e = true := by
  have := h.bel i e he
  split at this
  · exact entBelow_mono hb this
  · exact this

theorem heap_lt {w : World} {k : Nat} {o : Obj} (h : w.heap[k]? = some o) : k < w.heap.size := by
  rcases Nat.lt_or_ge k w.heap.size with h' | h'
  · exact h'
  · simp [Array.getElem?_eq_none h'] at h

/-- An entry's own block is there. -/
theorem Sat.act_lt {X : Ctx} {G : Gst} {b : Nat} {S : Store} {w : World} (h : Sat X G b S w) {i blk : Nat} (ha : Acts G S i blk) : blk < w.heap.size := by
  unfold Acts at ha
  cases he : S[i]? with
  | none => simp [he] at ha
  | some e =>
    have hok := h.ent i e he
    rw [he] at ha
    cases e with
    | obj cs =>
      obtain ⟨h1, rfl⟩ := ha
      obtain ⟨arr, t, fz, h2, _⟩ := hok h1
      exact heap_lt h2
    | map es =>
      obtain ⟨mes, h2, _⟩ := hok
      simp only at ha
      subst ha
      exact heap_lt h2
    | iter m k seen =>
      obtain ⟨sn, h2, _⟩ := hok
      simp only at ha
      subst ha
      exact heap_lt h2
    | tail n sz =>
      obtain ⟨off, cap, h1, h2⟩ := ha
      rcases hok with ⟨⟨a, h3⟩, _⟩ | ⟨blk', off', cap', h3, h4, h5⟩
      · rw [h3] at h1; cases h1; omega
      · rw [h3] at h1
        simp only [Value.slice.injEq, Option.some.injEq, Addr.mk.injEq] at h1
        obtain ⟨⟨rfl, rfl, _⟩, _, rfl⟩ := h1
        obtain ⟨arr, t, fz, h6, _⟩ := h5 h2
        exact heap_lt h6
    | dead => exact ha.elim

/-- The world has drawn, or holds a block more that nobody knows of. -/
theorem Sat.world {X : Ctx} {G : Gst} {b : Nat} {S : Store} {w w' : World} (h : Sat X G b S w) (hb : b ≤ S.length) (hw : Below w.heap.size w w') : Sat X G b S w' := by
  have hsz : X.W0.heap.size ≤ w.heap.size := h.below.size
  refine ⟨h.below.trans (hw.mono hsz), h.m0, fun blk o v hm => ?_, fun i e he => ?_, h.dis, h.base, h.bel⟩
  · have hc := h.im blk o v hm
    have hlt : blk < w.heap.size := World.block_lt_of_cell? w _ hc
    rw [hw.cell (p := ⟨blk, o, none⟩) hlt]; exact hc
  · refine (h.ent i e he).keep (n := S.length) (b := b) he (Ext.refl G S) (h.lowS hb he) rfl rfl rfl (fun blk ha => hw.block _ (h.act_lt ha)) (fun _ _ _ hm => hm)

/-- The frame: each slot holds what the environment says; the slots 'pd' hold new variables that nobody knows of. -/
structure Rel (X : Ctx) (G : Gst) (b : Nat) (N : Nat) (e : Env) (S : Store) (a : Act) (w : World) : Prop where
  sat : Sat X G b S w
  hb : b ≤ S.length
  size : a.tmps.size = N
  defers : a.defers = []
  env : ∀ t, V2 G S (a.tmps.getD t undef) (e t)
  bel : ∀ t, below S.length (e t) = true

/-- Slots that hold variables just made. -/
structure Pend (n0 : Nat) (G : Gst) (S : Store) (a : Act) (w : World) (pd : Nat → Option Nat) : Prop where
  is : ∀ t n, pd t = some n → ∃ blk arr ty, a.tmps.getD t undef = .pointer (some ⟨blk, 0, none⟩) ∧ n0 ≤ blk ∧ w.heap[blk]? = some (.cells arr ty (0, 0)) ∧ arr.size = n ∧ (∀ i, ¬ Acts G S i blk) ∧ ∀ o, G.M blk o = none
  inj : ∀ t s n m, pd t = some n → pd s = some m → a.tmps.getD t undef = a.tmps.getD s undef → t = s

end Go.Abs

/-
  What a value is, by what it stands for; operands; what an operation must come to.
-/
namespace Go.Abs
open Go Go.RowKit

section
variable {G : Gst} {S : Store} {v : Value}

theorem V2.int_inv {k : IntKind} {n : Int} (h : V2 G S v (.int k n)) : v = .int k n := by
  cases h with | one h => cases h with | v0 h => cases h; rfl
theorem V2.und_inv (h : V2 G S v .und) : v = undef := by
  cases h with
  | one h => cases h with | v0 h => cases h
  | und => rfl
theorem V2.bool_inv {b : Bool} (h : V2 G S v (.bool b)) : v = .bool b := by
  cases h with | one h => cases h with | v0 h => cases h; rfl
theorem V2.str_inv {l : List UInt8} (h : V2 G S v (.str l)) : ∃ s : ByteArray, v = .string s ∧ s.data.toList = l := by
  cases h with | one h => cases h with | v0 h => cases h with | str s l hl => exact ⟨s, rfl, hl⟩
theorem V2.ptr_inv {i o : Nat} (h : V2 G S v (.ptr i o)) : v = .pointer (some ⟨G.β i, o, none⟩) := by
  cases h with | one h => cases h with
    | v0 h => cases h
    | ptr => rfl
theorem V2.map_inv {i : Nat} (h : V2 G S v (.map i)) : v = .map (some (G.β i)) := by
  cases h with | one h => cases h with
    | v0 h => cases h
    | map => rfl
theorem V2.ip_inv {cs : List AV} {o : Nat} (h : V2 G S v (.ip cs o)) : ∃ b s, v = .pointer (some ⟨b, s + o, none⟩) ∧ Row G.M b s cs := by
  cases h with | one h => cases h with
    | v0 h => cases h with
      | ip b s off f cs hm hv => exact ⟨b, s, rfl, fun j hj => ⟨f j, hm j hj, hv j hj⟩⟩
theorem V2.osl_inv {i o l sz : Nat} (h : V2 G S v (.osl i o l sz)) : ∃ a cap, v = .slice a l cap ∧ l ≤ cap ∧ (0 < l → a = some ⟨G.β i, o, none⟩) ∧ AddrOK a cap := by
  cases h with | one h => cases h with
    | v0 h => cases h
    | osl a i off len cap sz hc ha hp => exact ⟨a, cap, rfl, hc, fun h => (ha (by omega)).1, hp⟩
theorem V2.osl_inv' {i o l sz : Nat} (h : V2 G S v (.osl i o l sz)) : ∃ a cap, v = .slice a l cap ∧ l ≤ cap ∧ (0 < cap → a = some ⟨G.β i, o, none⟩ ∧ o + cap * sz ≤ G.ζ i) ∧ AddrOK a cap := by
  cases h with | one h => cases h with
    | v0 h => cases h
    | osl a i off len cap sz hc ha hp => exact ⟨a, cap, rfl, hc, ha, hp⟩
theorem V2.clo_inv {f : Nat} {caps : List AV} (h : V2 G S v (.clo f caps)) : ∃ cv, v = .func (.func f) #[] cv ∧ cv.size = caps.length ∧ ∀ j (h : j < caps.length), V1 G S (cv.getD j undef) (caps[j]) := by
  cases h with | one h => cases h with
    | v0 h => cases h
    | clo f cv caps hs hv => exact ⟨cv, rfl, hs, hv⟩
theorem V2.agg_inv {l : List AV} (h : V2 G S v (.agg l)) : ∃ cs, v = .agg cs ∧ cs.size = l.length ∧ ∀ j (h : j < l.length), V1 G S (cs.getD j undef) (l[j]) := by
  cases h with
  | one h => cases h with | v0 h => cases h
  | agg cs l hs hv => exact ⟨cs, rfl, hs, hv⟩
theorem V2.tup_inv {l : List AV} (h : V2 G S v (.tup l)) (hl : l ≠ []) : ∃ vs, v = .tuple vs ∧ vs.size = l.length ∧ ∀ j (h : j < l.length), V2 G S (vs.getD j undef) (l[j]) := by
  cases h with
  | one h => cases h with | v0 h => cases h
  | tup vs l hs hv => exact ⟨vs, rfl, hs, hv⟩
  | u => exact absurd rfl hl
theorem V2.nilp_inv (h : V2 G S v .nilp) : v = .pointer none ∨ v = .map none := by
  cases h with | one h => cases h with | v0 h => cases h <;> simp

/-- A slice's header: nil, or a row that nobody writes. -/
theorem V0.sl_inv {M : Mem} {xs : List (List AV)} {t : Tok} (h : V0 M v (.sl xs t)) :
    ((∃ a, v = .slice a 0 0) ∧ xs = []) ∨ ∃ b o cap sz, v = .slice (some ⟨b, o, none⟩) xs.length cap ∧ xs.length ≤ cap ∧ (∀ x ∈ xs, x.length = sz) ∧ (t.isFull → cap = xs.length) ∧ Row M b o xs.flatten := by
  cases h with
  | nilsl => exact .inl ⟨⟨_, rfl⟩, rfl⟩
  | sl b o len cap sz f xs t ht hl hc hsz hf hm hv =>
    subst hl
    exact .inr ⟨b, o, cap, sz, rfl, hc, hsz, hf, fun j hj => ⟨f j, hm j hj, hv j hj⟩⟩

theorem V0.tok {M : Mem} {xs : List (List AV)} {t : Tok} (h : V0 M v (.sl xs t)) : V0 M v (.sl xs .none) := by
  cases h with
  | nilsl => exact .nilsl _ .none trivial
  | sl b o len cap sz f xs t ht hl hc hsz hf hm hv => exact .sl b o len cap sz f xs .none trivial hl hc hsz (fun h => h.elim) hm hv

theorem V1.sl_none {xs : List (List AV)} {t : Tok} (h : V1 G S v (.sl xs t)) : V0 G.M v (.sl xs .none) := by
  cases h with
  | v0 h => exact h.tok
  | own h => exact h

theorem V2.sl_none {xs : List (List AV)} {t : Tok} (h : V2 G S v (.sl xs t)) : V0 G.M v (.sl xs .none) := by
  cases h with | one h => exact h.sl_none

theorem V2.sl_inv {xs : List (List AV)} {t : Tok} (h : V2 G S v (.sl xs t)) :
    ((∃ a, v = .slice a 0 0) ∧ xs = []) ∨ ∃ b o cap sz, v = .slice (some ⟨b, o, none⟩) xs.length cap ∧ xs.length ≤ cap ∧ (∀ x ∈ xs, x.length = sz) ∧ Row G.M b o xs.flatten := by
  rcases h.sl_none.sl_inv with h | ⟨b, o, cap, sz, h1, h2, h3, _, h5⟩
  · exact .inl h
  · exact .inr ⟨b, o, cap, sz, h1, h2, h3, h5⟩

/-- Cells that may lie where nobody writes. -/
theorem imm1_ok {a a' : AV} (h : imm1 a = some a') (hv : V1 G S v a) : V0 G.M v a' := by
  cases hv with
  | v0 h0 =>
    cases h0 <;> simp only [imm1, Option.some.injEq] at h <;> try subst h
    case int => exact .int _ _
    case bool => exact .bool _
    case str s l hl => exact .str s l hl
    case nilp => exact .nilp
    case nilm => exact .nilm
    case nilsl a t ht => exact .nilsl a .none trivial
    case sl b o len cap sz f xs t ht hl hc hsz hf hm hv => exact .sl b o len cap sz f xs .none trivial hl hc hsz (fun h => h.elim) hm hv
    case ip b o off f cs hm hv => exact .ip b o off f cs hm hv
  | own h0 ht => simp only [imm1, Option.some.injEq] at h; subst h; exact h0
  | ptr => simp [imm1] at h
  | osl => simp [imm1] at h
  | map => simp [imm1] at h
  | clo => simp [imm1] at h

theorem imms_length {l l' : List AV} (h : imms l = some l') : l'.length = l.length := by
  induction l generalizing l' with
  | nil => simp [imms] at h; subst h; rfl
  | cons a l ih =>
    simp only [imms, Option.bind_eq_some_iff] at h
    obtain ⟨a', h1, l2, h2, h3⟩ := h
    cases h3
    simp [ih h2]

theorem imms_get {l l' : List AV} (h : imms l = some l') {j : Nat} (hj : j < l.length) (hj' : j < l'.length) : imm1 l[j] = some l'[j] := by
  induction l generalizing l' j with
  | nil => simp at hj
  | cons a l ih =>
    simp only [imms, Option.bind_eq_some_iff] at h
    obtain ⟨a', h1, l2, h2, h3⟩ := h
    cases h3
    cases j with
    | zero => exact h1
    | succ j => exact ih h2 (by simpa using hj) (by simpa using hj')

/-- The cells of a value. -/
theorem cells_ok {a : AV} (h : V2 G S v a) (ha : isTup a = false) : v.cells.size = (cellsOf a).length ∧ ∀ j (h : j < (cellsOf a).length), V1 G S (v.cells.getD j undef) ((cellsOf a)[j]) := by
  cases h with
  | one h1 =>
    have hc : cellsOf a = [a] := by
      cases a <;> try rfl
      case agg l => cases h1 with | v0 h => cases h
    have hv : v.cells = #[v] := by
      cases h1 with
      | v0 h => cases h <;> rfl
      | own h => rcases h.sl_inv with ⟨⟨_, rfl⟩, _⟩ | ⟨_, _, _, _, rfl, _⟩ <;> rfl
      | _ => rfl
    rw [hv, hc]
    refine ⟨rfl, fun j hj => ?_⟩
    obtain rfl : j = 0 := by simpa using hj
    exact h1
  | agg cs l hs hv => exact ⟨hs, hv⟩
  | tup vs l => cases ha
  | u => cases ha
  | und => cases ha
end

/-- An operation's run comes to a value, or goes on in a call, and then Φ holds. -/
def Yields (P : Program) (ρ : Operand → Value) (o : Oper) (w : World) (Φ : Value → World → Prop) : Prop :=
  match (execOp ρ o).run P w with
  | .ok (.value v) w' => Φ v w'
  | .ok .skip w' => Φ undef w'
  | .ok (.enter f args) w' => Calls P f args w' fun e w'' => ∃ v, e = .returned v ∧ Φ v w''
  | _ => False

theorem Yields.value {P : Program} {ρ : Operand → Value} {o : Oper} {w w' : World} {Φ : Value → World → Prop} {v : Value} (h : (execOp ρ o).run P w = .ok (.value v) w') (hΦ : Φ v w') : Yields P ρ o w Φ := by
  unfold Yields; rw [h]; exact hΦ

theorem Yields.mono {P : Program} {ρ : Operand → Value} {o : Oper} {w : World} {Φ Ψ : Value → World → Prop} (h : Yields P ρ o w Φ) (hi : ∀ v w', Φ v w' → Ψ v w') : Yields P ρ o w Ψ := by
  unfold Yields at *
  split at h
  · exact hi _ _ h
  · exact hi _ _ h
  · exact h.mono fun e w'' ⟨v, h1, h2⟩ => ⟨v, h1, hi _ _ h2⟩
  · exact h.elim

theorem Yields.wp {P : Program} {o : Oper} {a : Act} {w : World} {Φ : Value → World → Prop} {next : Act → World → Prop} {Q : Exit → Act → World → Prop} (h : Yields P a.eval o w Φ) (hn : ∀ v w', Φ v w' → next (a.put o.dst v) w') : o.wp P a w next Q := by
  unfold Yields at h
  unfold Oper.wp Oper.upon
  split at h
  · rename_i v w' hr; rw [hr]; exact hn _ _ h
  · rename_i w' hr; rw [hr]; exact hn _ _ h
  · rename_i f args w' hr
    rw [hr]
    refine h.mono fun e w'' ⟨v, h1, h2⟩ => ?_
    subst h1
    exact hn _ _ h2
  · exact h.elim

/-- What an operation leaves. -/
def OpOK (X : Ctx) (G : Gst) (b : Nat) (S : Store) (w : World) (x : AV) (S' : Store) (v : Value) (w' : World) : Prop :=
  ∃ G', Ext S.length b G S G' S' ∧ Keep G S w G' S' w' ∧ Sat X G' b S' w' ∧ V2 G' S' v x ∧ below S'.length x = true

theorem OpOK.same {X : Ctx} {G : Gst} {b : Nat} {S : Store} {w : World} {x : AV} {v : Value} (hs : Sat X G b S w) (hv : V2 G S v x) (hb : below S.length x = true) : OpOK X G b S w x S v w :=
  ⟨G, Ext.refl G S, Keep.refl G S w, hs, hv, hb⟩

/-! ### Operands -/
section
variable {T : Tabs} {X : Ctx} {G : Gst} {b N : Nat} {e : Env} {S : Store} {a : Act} {w : World}

theorem constCell_ok {M : Mem} {v : Value} {x : AV} (h : constCell v = some x) : V0 M v x := by
  unfold constCell at h
  split at h <;> simp only [Option.some.injEq, reduceCtorEq] at h <;> subst h
  · exact .int _ _
  · exact .bool _
  · exact .str _ _ rfl
  · exact .nilsl _ .full trivial
  · exact .nilp
  · exact .nilm

theorem constCells_ok {M : Mem} : ∀ {vs : List Value} {l : List AV}, constCells vs = some l → vs.length = l.length ∧ ∀ j (h : j < l.length), V0 M (vs.getD j undef) (l[j])
  | [], l, h => by simp [constCells] at h; subst h; exact ⟨rfl, fun j hj => by simp at hj⟩
  | v :: vs, l, h => by
    simp only [constCells, Option.bind_eq_some_iff] at h
    obtain ⟨x, h1, l2, h2, h3⟩ := h
    cases h3
    obtain ⟨h4, h5⟩ := constCells_ok (M := M) h2
    refine ⟨by simp [h4], fun j hj => ?_⟩
    cases j with
    | zero => exact constCell_ok h1
    | succ j => exact h5 j (by simpa using hj)

theorem constV_ok {v : Value} {x : AV} (h : constV v = some x) : V2 G S v x := by
  unfold constV at h
  split at h
  · obtain ⟨l, h1, h2⟩ := Option.bind_eq_some_iff.1 h
    cases h2
    obtain ⟨h3, h4⟩ := constCells_ok (M := G.M) h1
    refine .agg _ l (by simpa using h3) fun j hj => .v0 ?_
    have := h4 j hj
    simpa [List.getD, Array.getD_eq_getD_getElem?] using this
  · cases h; exact .one (.v0 .nilm)
  · exact .one (.v0 (constCell_ok h))

theorem constCell_low {v : Value} {x : AV} (h : constCell v = some x) (n : Nat) : below n x = true := (constCell_ok (M := fun _ _ => none) h).low n

theorem constCells_low {n : Nat} : ∀ {vs : List Value} {l : List AV}, constCells vs = some l → belows n l = true
  | [], l, h => by simp [constCells] at h; subst h; rfl
  | v :: vs, l, h => by
    simp only [constCells, Option.bind_eq_some_iff] at h
    obtain ⟨x, h1, l2, h2, h3⟩ := h
    cases h3
    simp [belows, constCell_low h1, constCells_low h2]

theorem constV_low {v : Value} {x : AV} (h : constV v = some x) (n : Nat) : below n x = true := by
  unfold constV at h
  split at h
  · obtain ⟨l, h1, h2⟩ := Option.bind_eq_some_iff.1 h
    cases h2
    rw [below_agg_eq]; exact constCells_low h1
  · cases h; simp [below]
  · exact constCell_low h n

/-- What the constants of the program's variables need. -/
def GlobOK (T : Tabs) (X : Ctx) : Prop := ∀ g cs, T.glob g = some cs → Row X.M0 g 0 cs

theorem opd_ok (hg : GlobOK T X) (hr : Rel X G b N e S a w) {x : Operand} {y : Opd} (h : opdC T x = some y) : V2 G S (a.eval x) (y.ev e) ∧ below S.length (y.ev e) = true := by
  cases x with
  | tmp t => simp only [opdC, Option.some.injEq] at h; subst h; exact ⟨hr.env t, hr.bel t⟩
  | const v =>
    simp only [opdC, Option.bind_eq_some_iff] at h
    obtain ⟨c, h1, h2⟩ := h
    cases h2
    exact ⟨constV_ok h1, constV_low h1 _⟩
  | global g =>
    simp only [opdC, Option.bind_eq_some_iff] at h
    obtain ⟨c, h1, h2⟩ := h
    cases h2
    refine ⟨.one (.v0 ?_), by simp [Opd.ev, below]⟩
    exact V0.ip_of_row (off := 0) ((hg g c h1).mono hr.sat.m0)
  | func f =>
    simp only [opdC, Option.some.injEq] at h
    subst h
    exact ⟨.one (.clo f #[] [] rfl fun j hj => by simp at hj), by simp [Opd.ev, below_clo_eq, belows]⟩

end
end Go.Abs
