/-
  Texts of this claim: AbsBelow.
-/
import Derived.Below
import Derived.Deep.Draws
import Derived.Sort.Grow
set_option linter.all false
/-
  What lay below a bound is as_ it was, and of the tape no less is drawn.
-/
namespace Go.Abs
open Go

structure Below (B : Nat) (w w' : World) : Prop where
  os : w'.os = w.os
  tape : w'.tape = w.tape
  output : w'.output = w.output
  size : w.heap.size ≤ w'.heap.size
  drawn : w.drawn ≤ w'.drawn
  block : ∀ k, k < B → w'.heap[k]? = w.heap[k]?

theorem Below.old {B : Nat} {w w' : World} (h : Below B w w') : Go.RowKit.Below B w w' := ⟨h.os, h.tape, h.output, h.size, h.block⟩
theorem Below.refl (B : Nat) (w : World) : Below B w w := ⟨rfl, rfl, rfl, Nat.le_refl _, Nat.le_refl _, fun _ _ => rfl⟩
theorem Below.trans {B : Nat} {a b c : World} (h : Below B a b) (k : Below B b c) : Below B a c :=
  ⟨k.os.trans h.os, k.tape.trans h.tape, k.output.trans h.output, Nat.le_trans h.size k.size, Nat.le_trans h.drawn k.drawn, fun i hi => (k.block i hi).trans (h.block i hi)⟩
theorem Below.mono {B B' : Nat} {w w' : World} (h : Below B w w') (hB : B' ≤ B) : Below B' w w' := ⟨h.os, h.tape, h.output, h.size, h.drawn, fun k hk => h.block k (Nat.lt_of_lt_of_le hk hB)⟩
theorem Below.drew {B : Nat} {a w : World} (h : Below B a w) : Below B a w.drew := ⟨h.os, h.tape, h.output, h.size, Nat.le_succ_of_le h.drawn, h.block⟩
theorem Below.heap_setCell (w : World) (a : Addr) (u : Value) (k : Nat) (h : k ≠ a.block) : (w.setCell a u).heap[k]? = w.heap[k]? := Go.RowKit.Below.heap_setCell w a u k h
theorem Below.alloc {B : Nat} {a w : World} (h : Below B a w) (hB : B ≤ w.heap.size) (o : Obj) : Below B a (w.alloc o) :=
  h.trans ⟨rfl, rfl, rfl, by simp, Nat.le_refl _, fun k hk => Go.RowKit.Below.heap_alloc _ _ _ (by omega)⟩
theorem Below.cell {B : Nat} {w w' : World} (h : Below B w w') {p : Addr} (hp : p.block < B) : w'.cell? p = w.cell? p := h.old.cell hp
theorem Below.frozen {B : Nat} {w w' : World} (h : Below B w w') {p : Addr} (hp : p.block < B) : w'.frozen? p = w.frozen? p := h.old.frozen hp

/-- What grew alone: so many draws and blocks on. -/
theorem Below.grow {w w' : World} (h : Below w.heap.size w w') : ∃ q os, w' = Sort.grow (w.drewN q) os := by
  refine ⟨w'.drawn - w.drawn, w'.heap.extract w.heap.size w'.heap.size, ?_⟩
  obtain ⟨hp, tp, dr, os, out⟩ := w'
  obtain ⟨h1, h2, h3, h4, h5, h6⟩ := h
  simp only at *
  subst h1 h2 h3
  simp only [Sort.grow, World.drewN, World.mk.injEq, true_and, and_true]
  refine ⟨?_, by omega⟩
  apply Array.ext_getElem?
  intro i
  by_cases hi : i < w.heap.size
  · rw [h6 i hi, Array.getElem?_append_left hi]
  · rw [Array.getElem?_append_right (by omega), Array.getElem?_extract]
    split
    · congr 1; omega
    · rw [Array.getElem?_eq_none (by omega)]
end Go.Abs
