/-
  Texts of this claim: PurePlace.
-/
import Derived.Test.YtlilahgndpdkfaaDoorOwn6
set_option linter.all false
/-
  Places on the twenty faces, in plain Lean.
-/
namespace Go.Abs
open Go

structure Pl where
  face : Int
  a : Int
  b : Int
  c : Int
deriving DecidableEq

def plC (p : Pl) : List AV := [i64 p.face, i64 p.a, i64 p.b, i64 p.c]
def pls (l : List Pl) : List (List AV) := l.map plC
@[simp] theorem pls_length {l : List Pl} : (pls l).length = l.length := by simp [pls]
@[simp] theorem imms_plC {p : Pl} : imms (plC p) = some (plC p) := by simp [plC]
@[simp] theorem cells1_plC {p : Pl} : cells1 (plC p) = some (plC p) := by simp [plC]
@[simp] theorem plC_length {p : Pl} : (plC p).length = 4 := rfl

/-- The corners of the faces. -/
def cornL : List (List Int) :=
  [[0, 1, 2], [0, 2, 3], [0, 3, 4], [0, 4, 5], [0, 5, 1],
   [1, 6, 2], [2, 7, 3], [3, 8, 4], [4, 9, 5], [5, 10, 1],
   [6, 7, 2], [7, 8, 3], [8, 9, 4], [9, 10, 5], [10, 6, 1],
   [11, 7, 6], [11, 8, 7], [11, 9, 8], [11, 10, 9], [11, 6, 10]]

def corn (f : Int) : List Int := cornL.getD f.toNat [0, 0, 0]
def cor (f : Int) (k : Nat) : Nat := ((corn f).getD k 0).toNat

/-- The weights of all vertices. -/
def wts (p : Pl) : List Int := (((List.replicate 12 (0 : Int)).set (cor p.face 0) p.a).set (cor p.face 1) p.b).set (cor p.face 2) p.c

/-- The address on a face. -/
def onA (f : Int) (w : List Int) : Pl := ⟨f, w.getD (cor f 0) 0, w.getD (cor f 1) 0, w.getD (cor f 2) 0⟩
def okA (q : Pl) : Bool := q.a + q.b + q.c == 840

def addrs (p : Pl) : List Pl := ((List.range 20).map fun f => onA (f : Nat) (wts p)).filter okA

def validPl (p : Pl) : Bool :=
  decide (0 ≤ p.face) && decide (p.face < 20) && decide (0 ≤ p.a) && decide (p.a ≤ 840) && decide (0 ≤ p.b) && decide (p.b ≤ 840) && decide (0 ≤ p.c) && decide (p.c ≤ 840) && (p.a + p.b + p.c == 840)

theorem validPl_iff {p : Pl} : validPl p = true ↔ 0 ≤ p.face ∧ p.face < 20 ∧ 0 ≤ p.a ∧ p.a ≤ 840 ∧ 0 ≤ p.b ∧ p.b ≤ 840 ∧ 0 ≤ p.c ∧ p.c ≤ 840 ∧ p.a + p.b + p.c = 840 := by
  simp [validPl, and_assoc]

theorem face_cases {f : Int} (h1 : 0 ≤ f) (h2 : f < 20) : f = 0 ∨ f = 1 ∨ f = 2 ∨ f = 3 ∨ f = 4 ∨ f = 5 ∨ f = 6 ∨ f = 7 ∨ f = 8 ∨ f = 9 ∨ f = 10 ∨ f = 11 ∨ f = 12 ∨ f = 13 ∨ f = 14 ∨ f = 15 ∨ f = 16 ∨ f = 17 ∨ f = 18 ∨ f = 19 := by omega

theorem corn_lt {f : Int} (h1 : 0 ≤ f) (h2 : f < 20) : cor f 0 < 12 ∧ cor f 1 < 12 ∧ cor f 2 < 12 ∧ cor f 0 ≠ cor f 1 ∧ cor f 0 ≠ cor f 2 ∧ cor f 1 ≠ cor f 2 ∧ corn f = [(cor f 0 : Int), (cor f 1 : Int), (cor f 2 : Int)] := by
  rcases face_cases h1 h2 with rfl | rfl | rfl | rfl | rfl | rfl | rfl | rfl | rfl | rfl | rfl | rfl | rfl | rfl | rfl | rfl | rfl | rfl | rfl | rfl <;> decide

@[simp] theorem wts_length {p : Pl} : (wts p).length = 12 := by simp [wts]

theorem wts_mem {p : Pl} (h : validPl p = true) : ∀ w ∈ wts p, 0 ≤ w ∧ w ≤ 840 := by
  obtain ⟨_, _, a1, a2, b1, b2, c1, c2, _⟩ := validPl_iff.1 h
  intro w hw
  rcases List.mem_or_eq_of_mem_set hw with hw | rfl
  · rcases List.mem_or_eq_of_mem_set hw with hw | rfl
    · rcases List.mem_or_eq_of_mem_set hw with hw | rfl
      · have := List.eq_of_mem_replicate hw; omega
      · exact ⟨a1, a2⟩
    · exact ⟨b1, b2⟩
  · exact ⟨c1, c2⟩

/-- A place lies at its own address. -/
theorem onA_self {p : Pl} (h : validPl p = true) : onA p.face (wts p) = p := by
  obtain ⟨f1, f2, _⟩ := validPl_iff.1 h
  obtain ⟨h0, h1, h2, n1, n2, n3, _⟩ := corn_lt f1 f2
  cases p with
  | mk f a b c =>
    simp only [onA, wts, Pl.mk.injEq, true_and]
    simp only at h0 h1 h2 n1 n2 n3
    refine ⟨?_, ?_, ?_⟩
    · rw [List.getD_eq_getElem?_getD, List.getElem?_set_ne (Ne.symm n2), List.getElem?_set_ne (Ne.symm n1), List.getElem?_set_self (by simpa using h0)]; rfl
    · rw [List.getD_eq_getElem?_getD, List.getElem?_set_ne (Ne.symm n3), List.getElem?_set_self (by simpa using h1)]; rfl
    · rw [List.getD_eq_getElem?_getD, List.getElem?_set_self (by simpa using h2)]; rfl

theorem onA_face (f : Int) (w : List Int) : (onA f w).face = f := rfl

theorem wts_get {p : Pl} (h : validPl p = true) (k : Nat) : 0 ≤ (wts p).getD k 0 ∧ (wts p).getD k 0 ≤ 840 := by
  rw [List.getD_eq_getElem?_getD]
  cases hk : (wts p)[k]? with
  | none => simp
  | some w => exact wts_mem h w (List.mem_of_getElem? hk)

theorem mem_addrs {p q : Pl} : q ∈ addrs p ↔ (∃ f : Nat, f < 20 ∧ q = onA f (wts p)) ∧ okA q = true := by
  simp only [addrs, List.mem_filter, List.mem_map, List.mem_range]
  constructor
  · rintro ⟨⟨f, h1, rfl⟩, h2⟩; exact ⟨⟨f, h1, rfl⟩, h2⟩
  · rintro ⟨⟨f, h1, rfl⟩, h2⟩; exact ⟨⟨f, h1, rfl⟩, h2⟩

theorem self_mem {p : Pl} (h : validPl p = true) : p ∈ addrs p := by
  obtain ⟨f1, f2, _, _, _, _, _, _, hs⟩ := validPl_iff.1 h
  rw [mem_addrs]
  refine ⟨⟨p.face.toNat, by omega, ?_⟩, by simp [okA, hs]⟩
  rw [show ((p.face.toNat : Nat) : Int) = p.face by omega, onA_self h]

theorem addrs_valid {p q : Pl} (h : validPl p = true) (hq : q ∈ addrs p) : validPl q = true := by
  obtain ⟨⟨f, hf, rfl⟩, h2⟩ := mem_addrs.1 hq
  have a := wts_get h (cor f 0)
  have b := wts_get h (cor f 1)
  have c := wts_get h (cor f 2)
  have hs : (onA f (wts p)).a + (onA f (wts p)).b + (onA f (wts p)).c = 840 := by simpa [okA] using h2
  exact validPl_iff.2 ⟨by rw [onA_face]; omega, by rw [onA_face]; omega, a.1, a.2, b.1, b.2, c.1, c.2, hs⟩

theorem addrs_ne {p : Pl} (h : validPl p = true) : addrs p ≠ [] := fun e => by
  have := self_mem h
  rw [e] at this; cases this

/-- The normal place. -/
def normP (p : Pl) : Pl := (addrs p).headD p

theorem normP_mem {p : Pl} (h : validPl p = true) : normP p ∈ addrs p := by
  unfold normP
  cases ha : addrs p with
  | nil => exact absurd ha (addrs_ne h)
  | cons q l => simp

theorem normP_valid {p : Pl} (h : validPl p = true) : validPl (normP p) = true := addrs_valid h (normP_mem h)
end Go.Abs
