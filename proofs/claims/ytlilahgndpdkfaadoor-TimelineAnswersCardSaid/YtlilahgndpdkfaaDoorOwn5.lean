/-
  Texts of this claim: TlGen4, PurePlace, TlPlace, TlPlace2, TlPlace3, TlGenP, TlGenB, TlLawAns, TlTimelineAnswersLaw, TlLay, AbsLaw, AbsSortOK, TlSort, TlClose.
-/
import Derived.Shelf.SlLaysF0
import Derived.Shelf.SlGeneric
import Derived.Test.YtlilahgndpdkfaaDoorProg
import Derived.Shelf.SlSortCmp.NoneTotal
import Derived.Test.YtlilahgndpdkfaaDoorCards
import Derived.Test.YtlilahgndpdkfaaDoorTie
import Derived.OpenShut
import Derived.Deep.DeepHandedRow
import Derived.Test.YtlilahgndpdkfaaDoorOwn0
import Derived.Test.YtlilahgndpdkfaaDoorOwn1
import Derived.Test.YtlilahgndpdkfaaDoorOwn2
import Derived.Test.YtlilahgndpdkfaaDoorOwn3
import Derived.Test.YtlilahgndpdkfaaDoorOwn4
set_option linter.all false
/-
  What the makers of given data answer: series of reports, whole.
-/
namespace Go.Proofs.YtlilahgndpdkfaaDoor
open Go Go.Abs

/-- Reports in order of time, from behind m0 up to m. -/
structure SerOk (m0 : Int) (l : List Rep) (m : Int) : Prop where
  rep : ∀ r ∈ l, r.kind = 1 ∧ (r.name = nALPHA ∨ r.name = nBRAVO) ∧ RdOk 12 r.rd ∧ m0 < r.time ∧ r.time ≤ m
  inc : l.Pairwise fun a b => a.time < b.time
  lo : m0 ≤ m
  hi : m ≤ m0 + 90 * l.length

theorem SerOk.snoc {m0 m d : Int} {l : List Rep} {r : Rep} (h : SerOk m0 l m) (h1 : 1 ≤ d) (h2 : d ≤ 90) (hk : r.kind = 1) (hn : r.name = nALPHA ∨ r.name = nBRAVO) (hr : RdOk 12 r.rd) (ht : r.time = m + d) : SerOk m0 (l ++ [r]) (m + d) := by
  have hlo := h.lo
  have hhi := h.hi
  refine ⟨fun x hx => ?_, ?_, by omega, by simp only [List.length_append, List.length_singleton]; omega⟩
  · rcases List.mem_append.1 hx with hx | hx
    · obtain ⟨a, b, c, d, e⟩ := h.rep x hx
      exact ⟨a, b, c, d, by omega⟩
    · obtain rfl := List.mem_singleton.1 hx
      exact ⟨hk, hn, hr, by omega, by omega⟩
  · rw [List.pairwise_append]
    refine ⟨h.inc, List.pairwise_singleton _ _, fun x hx y hy => ?_⟩
    obtain rfl := List.mem_singleton.1 hy
    have := (h.rep x hx).2.2.2.2
    omega

section
variable {S : Store} {i : Nat} {L : List Int}

theorem belows_i64s (n : Nat) (l : List Int) : belows n (l.map i64) = true := by
  induction l with
  | nil => rfl
  | cons a l ih => simp_all

set_option maxHeartbeats 4000000 in
theorem g_SeriesL1 {m0 m : Int} {l : List Rep} {vals : List Int} {c a : Nat} (hs : Sc S i L a) (hv : vals.length = 12) (hl : SerOk m0 l m) (hm : m0 ≤ 52589999) (hm0 : 0 ≤ m0) (hlen : l.length + c ≤ 1000) :
    Ev (F12_L1 call S.length (.ptr i 0) (.ptr (S.length + 1) 0) (.sl (reps l) (.own S.length)) (i64 m) (i64 (c : Int)) (Sr S i L a [.tail l.length 8, .obj (vals.map i64)])) fun x => match x with
      | .inr q => ∃ a es, Sc S i L a ∧ c = 0 ∧ q = (.exit 0, [.sl (reps l) (.own S.length)], Sr S i L a es)
      | .inl s => ∃ (a c' : Nat) (vals : List Int) (r : Rep) (m : Int), c = c' + 1 ∧ Sc S i L a ∧ vals.length = 12 ∧ SerOk m0 (l ++ [r]) m ∧ s = ([.sl (reps (l ++ [r])) (.own S.length), i64 m, i64 (c' : Int)], Sr S i L a [.tail (l ++ [r]).length 8, .obj (vals.map i64)]) := by
  have hlo := hl.lo
  have hhi := hl.hi
  unfold F12_L1
  simp only [Stt.length]
  have hlen2 : S.length + [Ent.tail l.length 8, Ent.obj (vals.map i64)].length = S.length + 2 := rfl
  rw [hlen2]
  by_cases h : (0 : Int) < c
  · obtain ⟨c', rfl⟩ : ∃ c', c = c' + 1 := ⟨c - 1, by omega⟩
    repeat (first
      | refine Ev.fin (by simp [h] <;> rfl) (by simp [h]) ?_
      | refine Ev.t (by rfl) ?_
      | refine Ev.f (by rfl) ?_
      | refine Ev.ite (by first | rfl | assumption) ?_
      | refine Ev.to (by simp (disch := omega) [-loadV, -storeV, -Int.natCast_add, loadV_ip, h] <;> rfl) ?_)
    refine Ev.bind (e_Range (by assumption) (by omega) (by omega) (by omega)) ?_
    rintro _ ⟨v1, a1, h1, r1, r2, rfl⟩
    try dsimp only
    repeat (first
      | refine Ev.fin (by simp [] <;> rfl) (by simp []) ?_
      | refine Ev.t (by rfl) ?_
      | refine Ev.f (by rfl) ?_
      | refine Ev.ite (by first | rfl | assumption) ?_
      | refine Ev.to (by simp (disch := omega) [-loadV, -storeV, -Int.natCast_add, loadV_ip] <;> rfl) ?_)
    refine Ev.bind (e_Text (by assumption) (by simp) (by simp) (by simp)) ?_
    rintro _ ⟨v2, a2, h2, r3, rfl⟩
    try dsimp only
    have oc : ∀ (cs : List AV) , cs[7]? = some (.sl [] .full) → ownCellV 2 7 (.agg cs) (Sr S i L a2 [.tail l.length 8, .obj (vals.map i64)]) = some (.agg (cs.set 7 (.sl [] (.own (S.length + 2)))), Sr S i L a2 [.tail l.length 8, .obj (vals.map i64), .tail 0 2]) := fun cs hc => by
      simp only [ownCellV, hc, szOK, cond_true, Stt.length, Stt.app, List.length_nil, List.length_cons, Nat.zero_add, List.cons_append, List.nil_append]
    refine Ev.to rfl ?_
    refine Ev.to (oc _ rfl) ?_
    refine Ev.to rfl (Ev.ite rfl ?_)
    let r0 : Rep := ⟨1, v2, m + v1, 0, 0, 0, 0, []⟩
    simp only [Stt.app, List.cons_append, List.nil_append, Stt.length, List.length_cons, List.length_nil, Nat.zero_add]
    refine Ev.bind (Ev.iter (Q := fun q => ∃ (a : Nat) (vals : List Int) (rd : List Rd), Sc S i L a ∧ vals.length = 12 ∧ RdOk 12 rd ∧ q = (.exit 2, [], Sr S i L a (serE l.length vals { r0 with rd := rd } (S.length + 2))))
      (fun k st => ∃ (c a : Nat) (vals : List Int) (rd : List Rd), c + k = 12 ∧ 1 ≤ c ∧ Sc S i L a ∧ vals.length = 12 ∧ RdOk (c : Int) rd ∧ st = ([i64 (c : Int)], Sr S i L a (serE l.length vals { r0 with rd := rd } (S.length + 2))))
      (fun k st ⟨c, a, vals, rd, hc, hc1, hs, hv, hr, e⟩ => ?_) (k := 11) ⟨1, a2, vals, [], rfl, by omega, h2, hv, ⟨rfl, by simp⟩, ?_⟩) ?_
    · subst e
      refine (g_SeriesL2 (r := { r0 with rd := rd }) hs hv hc1 (by omega) hr).mono fun x hx => ?_
      cases x with
      | inr q => exact hx
      | inl s' =>
        obtain ⟨h1, a, vals, rd', h2, h3, h4, h5⟩ := hx
        exact ⟨k - 1, by omega, c + 1, a, vals, rd', by omega, by omega, h2, h3, h4, h5⟩
    · have w : IntKind.i64.wrap (m + v1) = m + v1 := wrap_in (by unfold In64; omega)
      simp [w, serE, r0, rds]
    rintro _ ⟨a3, vals3, rd, h3, hv3, hr3, rfl⟩
    refine Ev.exK ?_
    dsimp only
    rw [Nat.beq_refl, cond_true]
    have ld := Stt.loadA (S := S) (i := i) (e := srcE L a3) (k := 3) (es := serE l.length vals3 { r0 with rd := rd } (S.length + 2)) (n := 8) rfl rfl
    refine Ev.to ld ?_
    have bs : ∀ t, bsliceV 8 [cellsOf (AV.agg [i64 1, .str v2, i64 (m + v1), i64 0, i64 0, i64 0, i64 0, .sl (rds rd) t])] = some (.sl [repR { r0 with rd := rd }] .full) := fun t => by simp [repR, r0]
    refine Ev.to (bs _) ?_
    have ap := Stt.append0 (S := S) (i := i) (e := srcE L a3) (es := serE l.length vals3 { r0 with rd := rd } (S.length + 2)) (n := l.length) (sz := 8) (xs := reps l) (ys := [repR { r0 with rd := rd }]) (t := .full) rfl (by simp) (by simp) (by simp) (by simp [room]; omega)
    refine Ev.to ap (Ev.to rfl (Ev.to rfl ?_))
    have e1 : reps l ++ [repR { r0 with rd := rd }] = reps (l ++ [{ r0 with rd := rd }]) := by simp [reps]
    rw [e1]
    have nx := Stt.next (S := S) (i := i) (e := srcE L a3) (k := 2) (vs := [.sl (reps (l ++ [{ r0 with rd := rd }])) (.own S.length), i64 (m + v1), .int .i64 (IntKind.i64.wrap ((((c' + 1 : Nat) : Int)) - 1))])
      (es := (serE l.length vals3 { r0 with rd := rd } (S.length + 2)).set 0 (.tail ((reps l).length + [repR { r0 with rd := rd }].length) 8)) (by
        have : Nat.blt S.length (S.length + 2) = true := blt_true (by omega)
        simp only [serE, List.set_cons_zero, List.take_succ_cons, List.take_zero, entsBelow, entBelow, belows, belows_i64s, Bool.and_true, below_sl_own, below_int, this])
    refine Ev.to nx ?_
    have w1 : IntKind.i64.wrap ((((c' + 1 : Nat) : Int)) - 1) = (c' : Int) := by rw [wrap_in (by unfold In64; omega)]; omega
    rw [w1]
    refine .mk ⟨a3, c', vals3, { r0 with rd := rd }, m + v1, rfl, h3, hv3, hl.snoc r1 r2 rfl ?_ hr3 rfl, ?_⟩
    · simp only [List.mem_cons, List.cons.injEq, AV.str.injEq, and_true, List.not_mem_nil, or_false] at r3
      rcases r3 with r3 | r3 | r3
      · exact .inl r3
      · exact .inl r3
      · exact .inr r3
    · simp [serE]
  · obtain rfl : c = 0 := by omega
    repeat (first
      | refine Ev.fin (by simp [h] <;> rfl) (by simp [h]) ?_
      | refine Ev.t (by rfl) ?_
      | refine Ev.f (by rfl) ?_
      | refine Ev.ite (by first | rfl | assumption) ?_
      | refine Ev.to (by simp (disch := omega) [-loadV, -storeV, -Int.natCast_add, loadV_ip, h] <;> rfl) ?_)
    exact .mk ⟨a, _, hs, rfl, rfl⟩

end

set_option maxHeartbeats 2000000 in
theorem g_Series {n near : Int} (i : Nat) (hn0 : 0 ≤ n) (hn : n ≤ 999) : Maker 12 [.ptr i 0, i64 n, i64 near] i fun v => ∃ (l : List Rep) (m : Int), v = .sl (reps l) .none ∧ (l.length : Int) ≤ n ∧ SerOk (max2 0 (min2 52589999 near)) l m := by
  intro S L a hs
  unfold Mk
  rw [k12]
  unfold F12
  simp only [Stt.length, List.length_nil, Nat.add_zero]
  have ow : ownV 8 (.sl [] .full) (Sr S i L a []) = some (.sl [] (.own S.length), Sr S i L a [.tail 0 8]) := by
    simp only [ownV, szOK, cond_true, Stt.length, Stt.app, List.length_nil, Nat.add_zero, List.nil_append]
  refine Ev.to ow ?_
  let vals0 : List Int := [0, 10130, 2850, 2800, 0, 50, 1460, 2780, 3010, 2680, 5570, 2520]
  refine Ev.to (a := .agg (vals0.map i64)) rfl ?_
  refine Ev.to (a := vals0.map i64) rfl ?_
  refine Ev.ite rfl ?_
  simp only [Stt.app, List.cons_append, List.nil_append, Stt.length, List.length_cons, List.length_nil, Nat.zero_add]
  refine Ev.to (a := i64 (min2 52589999 near)) rfl ?_
  refine Ev.to (a := i64 (max2 0 (min2 52589999 near))) rfl ?_
  have hm0 : 0 ≤ max2 0 (min2 52589999 near) ∧ max2 0 (min2 52589999 near) ≤ 52589999 := by unfold max2 min2; split <;> split at * <;> omega
  repeat (first
    | refine Ev.fin (by simp [] <;> rfl) (by simp []) ?_
    | refine Ev.t (by rfl) ?_
    | refine Ev.f (by rfl) ?_
    | refine Ev.ite (by first | rfl | assumption) ?_
    | refine Ev.to (by simp (disch := omega) [-loadV, -storeV, -Int.natCast_add, loadV_ip] <;> rfl) ?_)
  refine Ev.bind (e_N (by assumption) (by omega) (by omega)) ?_
  rintro _ ⟨v1, a1, h1, r1, r2, rfl⟩
  try dsimp only
  refine Ev.bind (Ev.iter (Q := fun q => ∃ (a : Nat) (es : Store) (l : List Rep) (m : Int), Sc S i L a ∧ (l.length : Int) ≤ n ∧ SerOk (max2 0 (min2 52589999 near)) l m ∧ q = (.exit 0, [.sl (reps l) (.own S.length)], Sr S i L a es))
    (fun k st => ∃ (a : Nat) (vals : List Int) (l : List Rep) (m : Int), (l.length : Int) + k = v1 ∧ Sc S i L a ∧ vals.length = 12 ∧ SerOk (max2 0 (min2 52589999 near)) l m ∧ st = ([.sl (reps l) (.own S.length), i64 m, i64 (k : Int)], Sr S i L a [.tail l.length 8, .obj (vals.map i64)]))
    (fun k st ⟨a, vals, l, m, hk, hs, hv, hl, e⟩ => ?_) (k := v1.toNat) ⟨a1, vals0, [], max2 0 (min2 52589999 near), by simp; omega, h1, rfl, ⟨by simp, .nil, by omega, by simp⟩, ?_⟩) ?_
  · subst e
    refine (g_SeriesL1 hs hv hl hm0.2 hm0.1 (by omega)).mono fun x hx => ?_
    cases x with
    | inr q =>
      obtain ⟨a, es, h2, h3, h4⟩ := hx
      exact ⟨a, es, l, m, h2, by omega, hl, h4⟩
    | inl s' =>
      obtain ⟨a, c', vals, r, m, h2, h3, h4, h5, h6⟩ := hx
      exact ⟨c', by omega, a, vals, l ++ [r], m, by simp; omega, h3, h4, h5, h6⟩
  · have : ((v1.toNat : Nat) : Int) = v1 := by omega
    simp only [this]; rfl
  rintro _ ⟨a2, es, l, m, h2, h3, h4, rfl⟩
  refine Ev.exK ?_
  dsimp only
  rw [Nat.beq_refl, cond_true]
  have hb : Nat.blt S.length S.length = false := blt_false (Nat.le_refl _)
  refine Ev.fin (vs' := [.sl (reps l) .none]) (by simp [hb]) (by simp) ?_
  exact ⟨_, _, h2, ⟨l, m, rfl, h3, h4⟩, rfl⟩

end Go.Proofs.YtlilahgndpdkfaaDoor

/-
  Places on the twenty faces, in plain Lean.
-/
namespace Go.Abs
open Go

structure Pl where
  face : Int
  a : Int
  b : Int
  c : Int
deriving DecidableEq

def plC (p : Pl) : List AV := [i64 p.face, i64 p.a, i64 p.b, i64 p.c]
def pls (l : List Pl) : List (List AV) := l.map plC
@[simp] theorem pls_length {l : List Pl} : (pls l).length = l.length := by simp [pls]
@[simp] theorem imms_plC {p : Pl} : imms (plC p) = some (plC p) := by simp [plC]
@[simp] theorem cells1_plC {p : Pl} : cells1 (plC p) = some (plC p) := by simp [plC]
@[simp] theorem plC_length {p : Pl} : (plC p).length = 4 := rfl

/-- The corners of the faces. -/
def cornL : List (List Int) :=
  [[0, 1, 2], [0, 2, 3], [0, 3, 4], [0, 4, 5], [0, 5, 1],
   [1, 6, 2], [2, 7, 3], [3, 8, 4], [4, 9, 5], [5, 10, 1],
   [6, 7, 2], [7, 8, 3], [8, 9, 4], [9, 10, 5], [10, 6, 1],
   [11, 7, 6], [11, 8, 7], [11, 9, 8], [11, 10, 9], [11, 6, 10]]

def corn (f : Int) : List Int := cornL.getD f.toNat [0, 0, 0]
def cor (f : Int) (k : Nat) : Nat := ((corn f).getD k 0).toNat

/-- The weights of all vertices. -/
def wts (p : Pl) : List Int := (((List.replicate 12 (0 : Int)).set (cor p.face 0) p.a).set (cor p.face 1) p.b).set (cor p.face 2) p.c

/-- The address on a face. -/
def onA (f : Int) (w : List Int) : Pl := ⟨f, w.getD (cor f 0) 0, w.getD (cor f 1) 0, w.getD (cor f 2) 0⟩
def okA (q : Pl) : Bool := q.a + q.b + q.c == 840

def addrs (p : Pl) : List Pl := ((List.range 20).map fun f => onA (f : Nat) (wts p)).filter okA

def validPl (p : Pl) : Bool :=
  decide (0 ≤ p.face) && decide (p.face < 20) && decide (0 ≤ p.a) && decide (p.a ≤ 840) && decide (0 ≤ p.b) && decide (p.b ≤ 840) && decide (0 ≤ p.c) && decide (p.c ≤ 840) && (p.a + p.b + p.c == 840)

theorem validPl_iff {p : Pl} : validPl p = true ↔ 0 ≤ p.face ∧ p.face < 20 ∧ 0 ≤ p.a ∧ p.a ≤ 840 ∧ 0 ≤ p.b ∧ p.b ≤ 840 ∧ 0 ≤ p.c ∧ p.c ≤ 840 ∧ p.a + p.b + p.c = 840 := by
  simp [validPl, and_assoc]

theorem face_cases {f : Int} (h1 : 0 ≤ f) (h2 : f < 20) : f = 0 ∨ f = 1 ∨ f = 2 ∨ f = 3 ∨ f = 4 ∨ f = 5 ∨ f = 6 ∨ f = 7 ∨ f = 8 ∨ f = 9 ∨ f = 10 ∨ f = 11 ∨ f = 12 ∨ f = 13 ∨ f = 14 ∨ f = 15 ∨ f = 16 ∨ f = 17 ∨ f = 18 ∨ f = 19 := by omega

theorem corn_lt {f : Int} (h1 : 0 ≤ f) (h2 : f < 20) : cor f 0 < 12 ∧ cor f 1 < 12 ∧ cor f 2 < 12 ∧ cor f 0 ≠ cor f 1 ∧ cor f 0 ≠ cor f 2 ∧ cor f 1 ≠ cor f 2 ∧ corn f = [(cor f 0 : Int), (cor f 1 : Int), (cor f 2 : Int)] := by
  rcases face_cases h1 h2 with rfl | rfl | rfl | rfl | rfl | rfl | rfl | rfl | rfl | rfl | rfl | rfl | rfl | rfl | rfl | rfl | rfl | rfl | rfl | rfl <;> decide

@[simp] theorem wts_length {p : Pl} : (wts p).length = 12 := by simp [wts]

theorem wts_mem {p : Pl} (h : validPl p = true) : ∀ w ∈ wts p, 0 ≤ w ∧ w ≤ 840 := by
  obtain ⟨_, _, a1, a2, b1, b2, c1, c2, _⟩ := validPl_iff.1 h
  intro w hw
  rcases List.mem_or_eq_of_mem_set hw with hw | rfl
  · rcases List.mem_or_eq_of_mem_set hw with hw | rfl
    · rcases List.mem_or_eq_of_mem_set hw with hw | rfl
      · have := List.eq_of_mem_replicate hw; omega
      · exact ⟨a1, a2⟩
    · exact ⟨b1, b2⟩
  · exact ⟨c1, c2⟩

/-- A place lies at its own address. -/
theorem onA_self {p : Pl} (h : validPl p = true) : onA p.face (wts p) = p := by
  obtain ⟨f1, f2, _⟩ := validPl_iff.1 h
  obtain ⟨h0, h1, h2, n1, n2, n3, _⟩ := corn_lt f1 f2
  cases p with
  | mk f a b c =>
    simp only [onA, wts, Pl.mk.injEq, true_and]
    simp only at h0 h1 h2 n1 n2 n3
    refine ⟨?_, ?_, ?_⟩
    · rw [List.getD_eq_getElem?_getD, List.getElem?_set_ne (Ne.symm n2), List.getElem?_set_ne (Ne.symm n1), List.getElem?_set_self (by simpa using h0)]; rfl
    · rw [List.getD_eq_getElem?_getD, List.getElem?_set_ne (Ne.symm n3), List.getElem?_set_self (by simpa using h1)]; rfl
    · rw [List.getD_eq_getElem?_getD, List.getElem?_set_self (by simpa using h2)]; rfl

theorem onA_face (f : Int) (w : List Int) : (onA f w).face = f := rfl

theorem wts_get {p : Pl} (h : validPl p = true) (k : Nat) : 0 ≤ (wts p).getD k 0 ∧ (wts p).getD k 0 ≤ 840 := by
  rw [List.getD_eq_getElem?_getD]
  cases hk : (wts p)[k]? with
  | none => simp
  | some w => exact wts_mem h w (List.mem_of_getElem? hk)

theorem mem_addrs {p q : Pl} : q ∈ addrs p ↔ (∃ f : Nat, f < 20 ∧ q = onA f (wts p)) ∧ okA q = true := by
  simp only [addrs, List.mem_filter, List.mem_map, List.mem_range]
  constructor
  · rintro ⟨⟨f, h1, rfl⟩, h2⟩; exact ⟨⟨f, h1, rfl⟩, h2⟩
  · rintro ⟨⟨f, h1, rfl⟩, h2⟩; exact ⟨⟨f, h1, rfl⟩, h2⟩

theorem self_mem {p : Pl} (h : validPl p = true) : p ∈ addrs p := by
  obtain ⟨f1, f2, _, _, _, _, _, _, hs⟩ := validPl_iff.1 h
  rw [mem_addrs]
  refine ⟨⟨p.face.toNat, by omega, ?_⟩, by simp [okA, hs]⟩
  rw [show ((p.face.toNat : Nat) : Int) = p.face by omega, onA_self h]

theorem addrs_valid {p q : Pl} (h : validPl p = true) (hq : q ∈ addrs p) : validPl q = true := by
  obtain ⟨⟨f, hf, rfl⟩, h2⟩ := mem_addrs.1 hq
  have a := wts_get h (cor f 0)
  have b := wts_get h (cor f 1)
  have c := wts_get h (cor f 2)
  have hs : (onA f (wts p)).a + (onA f (wts p)).b + (onA f (wts p)).c = 840 := by simpa [okA] using h2
  exact validPl_iff.2 ⟨by rw [onA_face]; omega, by rw [onA_face]; omega, a.1, a.2, b.1, b.2, c.1, c.2, hs⟩

theorem addrs_ne {p : Pl} (h : validPl p = true) : addrs p ≠ [] := fun e => by
  have := self_mem h
  rw [e] at this; cases this

/-- The normal place. -/
def normP (p : Pl) : Pl := (addrs p).headD p

theorem normP_mem {p : Pl} (h : validPl p = true) : normP p ∈ addrs p := by
  unfold normP
  cases ha : addrs p with
  | nil => exact absurd ha (addrs_ne h)
  | cons q l => simp

theorem normP_valid {p : Pl} (h : validPl p = true) : validPl (normP p) = true := addrs_valid h (normP_mem h)
end Go.Abs

/-
  What the functions of the reference of places answer.
-/
namespace Go.Proofs.YtlilahgndpdkfaaDoor
open Go Go.Abs

set_option maxHeartbeats 4000000 in
theorem p_Corners {f : Int} (h1 : 0 ≤ f) (h2 : f < 20) (S : Store) : call 97 [i64 f] S = some (.tup [.agg ((corn f).map i64), i64 0], S) := by
  rw [k97]
  unfold F97
  rcases face_cases h1 h2 with rfl | rfl | rfl | rfl | rfl | rfl | rfl | rfl | rfl | rfl | rfl | rfl | rfl | rfl | rfl | rfl | rfl | rfl | rfl | rfl <;>
    simp [finish, corn, cornL, i64]

end Go.Proofs.YtlilahgndpdkfaaDoor

/-
  What the functions of the reference of places answer: whether a place is one, its weights, its addresses, the normal place.
-/
namespace Go.Proofs.YtlilahgndpdkfaaDoor
open Go Go.Abs

set_option maxHeartbeats 4000000 in
theorem p_Valid (p : Pl) (S : Store) : call 78 [.agg (plC p)] S = some (.bool (validPl p), S) := by
  rw [k78]
  unfold F78
  have him : imms (cellsOf (AV.agg (plC p))) = some (plC p) := imms_plC
  cases p with
  | mk f a b c =>
  by_cases h1 : 0 ≤ f
  · by_cases h2 : f < 20
    · by_cases h3 : 0 ≤ a
      · by_cases h4 : a ≤ 840
        · by_cases h5 : 0 ≤ b
          · by_cases h6 : b ≤ 840
            · by_cases h7 : 0 ≤ c
              · by_cases h8 : c ≤ 840
                · have e : validPl ⟨f, a, b, c⟩ = (a + b + c == 840) := by simp [validPl, *]
                  rw [e]
                  have w1 : IntKind.i64.wrap (a + b) = a + b := wrap_in (by unfold In64; omega)
                  have w2 : IntKind.i64.wrap (a + b + c) = a + b + c := wrap_in (by unfold In64; omega)
                  refine bind_of him ?_
                  simp only [plC]
                  repeat (first
                    | rfl
                    | refine cond_t (by rfl) ?_
                    | refine cond_f (by rfl) ?_
                    | refine ite_of (by first | rfl | assumption) ?_
                    | refine bind_of (by simp [-loadV, -storeV, -Int.natCast_add, loadV_ip, h1, h2, h3, h4, h5, h6, h7, h8, w1, w2] <;> rfl) ?_)
                  simp
                · have e : validPl ⟨f, a, b, c⟩ = false := by simp [validPl, *]
                  rw [e]
                  refine bind_of him ?_
                  simp only [plC]
                  repeat (first
                    | rfl
                    | refine cond_t (by rfl) ?_
                    | refine cond_f (by rfl) ?_
                    | refine ite_of (by first | rfl | assumption) ?_
                    | refine bind_of (by simp [-loadV, -storeV, -Int.natCast_add, loadV_ip, h1, h2, h3, h4, h5, h6, h7, h8] <;> rfl) ?_)
                  simp
              · have e : validPl ⟨f, a, b, c⟩ = false := by simp [validPl, *]
                rw [e]
                refine bind_of him ?_
                simp only [plC]
                repeat (first
                  | rfl
                  | refine cond_t (by rfl) ?_
                  | refine cond_f (by rfl) ?_
                  | refine ite_of (by first | rfl | assumption) ?_
                  | refine bind_of (by simp [-loadV, -storeV, -Int.natCast_add, loadV_ip, h1, h2, h3, h4, h5, h6, h7] <;> rfl) ?_)
                simp
            · have e : validPl ⟨f, a, b, c⟩ = false := by simp [validPl, *]
              rw [e]
              refine bind_of him ?_
              simp only [plC]
              repeat (first
                | rfl
                | refine cond_t (by rfl) ?_
                | refine cond_f (by rfl) ?_
                | refine ite_of (by first | rfl | assumption) ?_
                | refine bind_of (by simp [-loadV, -storeV, -Int.natCast_add, loadV_ip, h1, h2, h3, h4, h5, h6] <;> rfl) ?_)
              simp
          · have e : validPl ⟨f, a, b, c⟩ = false := by simp [validPl, *]
            rw [e]
            refine bind_of him ?_
            simp only [plC]
            repeat (first
              | rfl
              | refine cond_t (by rfl) ?_
              | refine cond_f (by rfl) ?_
              | refine ite_of (by first | rfl | assumption) ?_
              | refine bind_of (by simp [-loadV, -storeV, -Int.natCast_add, loadV_ip, h1, h2, h3, h4, h5] <;> rfl) ?_)
            simp
        · have e : validPl ⟨f, a, b, c⟩ = false := by simp [validPl, *]
          rw [e]
          refine bind_of him ?_
          simp only [plC]
          repeat (first
            | rfl
            | refine cond_t (by rfl) ?_
            | refine cond_f (by rfl) ?_
            | refine ite_of (by first | rfl | assumption) ?_
            | refine bind_of (by simp [-loadV, -storeV, -Int.natCast_add, loadV_ip, h1, h2, h3, h4] <;> rfl) ?_)
          simp
      · have e : validPl ⟨f, a, b, c⟩ = false := by simp [validPl, *]
        rw [e]
        refine bind_of him ?_
        simp only [plC]
        repeat (first
          | rfl
          | refine cond_t (by rfl) ?_
          | refine cond_f (by rfl) ?_
          | refine ite_of (by first | rfl | assumption) ?_
          | refine bind_of (by simp [-loadV, -storeV, -Int.natCast_add, loadV_ip, h1, h2, h3] <;> rfl) ?_)
        simp
    · have e : validPl ⟨f, a, b, c⟩ = false := by simp [validPl, *]
      rw [e]
      refine bind_of him ?_
      simp only [plC]
      repeat (first
        | rfl
        | refine cond_t (by rfl) ?_
        | refine cond_f (by rfl) ?_
        | refine ite_of (by first | rfl | assumption) ?_
        | refine bind_of (by simp [-loadV, -storeV, -Int.natCast_add, loadV_ip, h1, h2] <;> rfl) ?_)
      simp
  · have e : validPl ⟨f, a, b, c⟩ = false := by simp [validPl, *]
    rw [e]
    refine bind_of him ?_
    simp only [plC]
    repeat (first
      | rfl
      | refine cond_t (by rfl) ?_
      | refine cond_f (by rfl) ?_
      | refine ite_of (by first | rfl | assumption) ?_
      | refine bind_of (by simp [-loadV, -storeV, -Int.natCast_add, loadV_ip, h1] <;> rfl) ?_)
    simp

end Go.Proofs.YtlilahgndpdkfaaDoor

/-
  What the functions of the reference of places answer: the weights of a place, its addresses, the normal place.
-/
namespace Go.Proofs.YtlilahgndpdkfaaDoor
open Go Go.Abs

theorem ix12 (cs : List AV) {k : Nat} (hk : k < 12) : indexAV 1 (some 12) (.ip cs 0) (.int .i64 (k : Int)) = some (.ip cs k) := by
  simp only [indexAV]
  rw [if_pos (by omega)]
  simp
theorem ix3_0 (cs : List AV) : indexAV 1 (some 3) (.ip cs 0) (.int .i64 0) = some (.ip cs 0) := rfl
theorem ix3_1 (cs : List AV) : indexAV 1 (some 3) (.ip cs 0) (.int .i64 1) = some (.ip cs 1) := rfl
theorem ix3_2 (cs : List AV) : indexAV 1 (some 3) (.ip cs 0) (.int .i64 2) = some (.ip cs 2) := rfl
theorem px12 (j : Nat) {k : Nat} (hk : k < 12) : indexAV 1 (some 12) (.ptr j 0) (.int .i64 (k : Int)) = some (.ptr j k) := by
  simp only [indexAV]
  rw [if_pos (by omega)]
  simp
theorem ld12 {w : List Int} (hw : w.length = 12) {k : Nat} (hk : k < 12) (S : Store) : loadV none (.ip (w.map i64) k) S = some (i64 (w.getD k 0)) := by
  rw [loadV_ip, take_none]
  simp [List.getD_eq_getElem?_getD, List.getElem?_eq_getElem (show k < w.length by omega)]
theorem imms_is (l : List Int) : imms (l.map i64) = some (l.map i64) := by
  induction l with
  | nil => rfl
  | cons a l ih => simp [ih]
theorem cells1_is (l : List Int) : cells1 (l.map i64) = some (l.map i64) := by
  induction l with
  | nil => rfl
  | cons a l ih => simp [ih]
theorem belows_is (n : Nat) (l : List Int) : belows n (l.map i64) = true := by
  induction l with
  | nil => rfl
  | cons a l ih => simp_all

/-- One number put into an entry of the call's own. -/
theorem put_is {S es : Store} {k o n : Nat} {w : List Int} {v : Int} (he : es[k]? = some (.obj (w.map i64))) (ho : o < w.length) (hn : n = S.length) :
    storeV n 1 (.ptr (S.length + k) o) (i64 v) (S ++ es) = some (S ++ es.set k (.obj ((w.set o v).map i64))) := by
  subst hn
  have h1 : (S ++ es)[S.length + k]? = some (.obj (w.map i64)) := by rw [List.getElem?_append_right (by omega)]; simpa using he
  simp only [storeV, h1, blt_false (Nat.le_add_right _ _), cond_false]
  rw [show cells1 (cellsOf (i64 v)) = some [i64 v] from rfl, Option.bind_some, if_pos ⟨rfl, by simp; omega⟩, List.set_append_right _ _ (by omega)]
  simp [setC, List.map_set]

set_option maxHeartbeats 4000000 in
theorem p_On {f : Int} (h1 : 0 ≤ f) (h2 : f < 20) {w : List Int} (hw : w.length = 12) (hb : ∀ k, 0 ≤ w.getD k 0 ∧ w.getD k 0 ≤ 840) (S : Store) :
    call 80 [i64 f, .agg (w.map i64)] S = some (.tup [.agg (plC (onA f w)), .bool (okA (onA f w))], S) := by
  rw [k80]
  unfold F80
  obtain ⟨c0, c1, c2, _, _, _, hc⟩ := corn_lt h1 h2
  have hC := p_Corners h1 h2 (S ++ [.obj [(.int .i64 0), (.int .i64 0), (.int .i64 0), (.int .i64 0)]])
  rw [hc] at hC
  have x0 := ix12 (w.map i64) c0
  have x1 := ix12 (w.map i64) c1
  have x2 := ix12 (w.map i64) c2
  have l0 := ld12 hw c0
  have l1 := ld12 hw c1
  have l2 := ld12 hw c2
  have b0 := hb (cor f 0)
  have b1 := hb (cor f 1)
  have b2 := hb (cor f 2)
  have e0 : onA f w = ⟨f, w.getD (cor f 0) 0, w.getD (cor f 1) 0, w.getD (cor f 2) 0⟩ := rfl
  rw [e0]
  generalize w.getD (cor f 0) 0 = p0 at *
  generalize w.getD (cor f 1) 0 = p1 at *
  generalize w.getD (cor f 2) 0 = p2 at *
  have w1 : IntKind.i64.wrap (p0 + p1) = p0 + p1 := wrap_in (by unfold In64; omega)
  have w2 : IntKind.i64.wrap (p0 + p1 + p2) = p0 + p1 + p2 := wrap_in (by unfold In64; omega)
  refine bind_of (imms_is w) ?_
  generalize cor f 0 = k0 at *
  generalize cor f 1 = k1 at *
  generalize cor f 2 = k2 at *
  generalize w.map i64 = W at *
  simp only [List.map_cons, List.map_nil] at hC
  repeat (first
    | rfl
    | refine cond_t (by rfl) ?_
    | refine cond_f (by rfl) ?_
    | refine ite_of (by first | rfl | assumption) ?_
    | refine bind_of (by simp [-loadV, -storeV, -Int.natCast_add, loadV_ip, hC, x0, x1, x2, l0, l1, l2, w1, w2, ix3_0, ix3_1, ix3_2] <;> rfl) ?_)
  exact Ap.ret2 (vs := [.int .i64 f, .int .i64 p0, .int .i64 p1, .int .i64 p2]) rfl rfl rfl (by simp) rfl rfl rfl (by simp)

theorem getD_map_i64 (l : List Int) (k : Nat) : (l.map i64).getD k (i64 0) = i64 (l.getD k 0) := by
  simp only [List.getD_eq_getElem?_getD, List.getElem?_map]
  cases l[k]? <;> rfl

set_option maxHeartbeats 4000000 in
theorem p_Weights {p : Pl} (h : validPl p = true) (S : Store) : call 79 [.agg (plC p)] S = some (.agg ((wts p).map i64), S) := by
  rw [k79]
  unfold F79
  obtain ⟨f1, f2, _⟩ := validPl_iff.1 h
  obtain ⟨c0, c1, c2, _, _, _, hc⟩ := corn_lt f1 f2
  obtain ⟨es, hes⟩ : ∃ es : Store, es = [.obj ((List.replicate 12 (0 : Int)).map i64), .obj ((List.replicate 12 (0 : Int)).map i64)] := ⟨_, rfl⟩
  have hC := p_Corners f1 f2 (S ++ es)
  rw [hc] at hC
  simp only [List.map_cons, List.map_nil] at hC
  have hS : S ++ [Ent.obj [(.int .i64 0), (.int .i64 0), (.int .i64 0), (.int .i64 0), (.int .i64 0), (.int .i64 0), (.int .i64 0), (.int .i64 0), (.int .i64 0), (.int .i64 0), (.int .i64 0), (.int .i64 0)]] ++ [Ent.obj [(.int .i64 0), (.int .i64 0), (.int .i64 0), (.int .i64 0), (.int .i64 0), (.int .i64 0), (.int .i64 0), (.int .i64 0), (.int .i64 0), (.int .i64 0), (.int .i64 0), (.int .i64 0)]] = S ++ es := by simp [hes, List.replicate]
  dsimp only
  rw [hS]
  have hl2 : (S ++ [Ent.obj [(.int .i64 0), (.int .i64 0), (.int .i64 0), (.int .i64 0), (.int .i64 0), (.int .i64 0), (.int .i64 0), (.int .i64 0), (.int .i64 0), (.int .i64 0), (.int .i64 0), (.int .i64 0)]]).length = S.length + 1 := by simp
  rw [hl2]
  refine bind_of imms_plC ?_
  have x0 := px12 (S.length + 1) c0
  have x1 := px12 (S.length + 1) c1
  have x2 := px12 (S.length + 1) c2
  have s0 := put_is (S := S) (es := es) (k := 1) (o := cor p.face 0) (w := List.replicate 12 0) (v := p.a) (by rw [hes]; rfl) (by simpa using c0) rfl
  rw [show es.set 1 (Ent.obj (((List.replicate 12 (0 : Int)).set (cor p.face 0) p.a).map i64)) = [.obj ((List.replicate 12 (0 : Int)).map i64), .obj (((List.replicate 12 (0 : Int)).set (cor p.face 0) p.a).map i64)] by rw [hes]; rfl] at s0
  have s1 := put_is (S := S) (es := [.obj ((List.replicate 12 (0 : Int)).map i64), .obj (((List.replicate 12 (0 : Int)).set (cor p.face 0) p.a).map i64)]) (k := 1) (o := cor p.face 1) (w := (List.replicate 12 0).set (cor p.face 0) p.a) (v := p.b) rfl (by simpa using c1) rfl
  have s2 := put_is (S := S) (es := [.obj ((List.replicate 12 (0 : Int)).map i64), .obj ((((List.replicate 12 (0 : Int)).set (cor p.face 0) p.a).set (cor p.face 1) p.b).map i64)]) (k := 1) (o := cor p.face 2) (w := ((List.replicate 12 0).set (cor p.face 0) p.a).set (cor p.face 1) p.b) (v := p.c) rfl (by simpa using c2) rfl
  have l1 := Ap.loadA (S := S) (es := [.obj ((List.replicate 12 (0 : Int)).map i64), .obj ((wts p).map i64)]) (k := 1) (n := 12) rfl (by simp)
  simp only [plC, List.set_cons_succ, List.set_cons_zero] at *
  clear hes hS hl2
  have hE : (((List.replicate 12 (0 : Int)).set (cor p.face 0) p.a).set (cor p.face 1) p.b).set (cor p.face 2) p.c = wts p := rfl
  rw [hE] at s2
  have rt := Ap.ret1 (S := S) (es := [.obj ((List.replicate 12 (0 : Int)).map i64), .obj ((wts p).map i64)]) (n := 12) (cs := (List.replicate 12 (0 : Int)).map i64) (vs := (wts p).map i64) rfl (cells1_is _) (imms_is _) (belows_is _ _) (by simp) (by simp)
  generalize (wts p).map i64 = E3 at *
  generalize (((List.replicate 12 (0 : Int)).set (cor p.face 0) p.a).set (cor p.face 1) p.b).map i64 = E2 at *
  generalize ((List.replicate 12 (0 : Int)).set (cor p.face 0) p.a).map i64 = E1 at *
  generalize (List.replicate 12 (0 : Int)).map i64 = E0 at *
  repeat (first
    | rfl
    | refine cond_t (by rfl) ?_
    | refine cond_f (by rfl) ?_
    | refine ite_of (by first | rfl | assumption) ?_
    | refine bind_of (by simp [-loadV, -storeV, -Int.natCast_add, loadV_ip, hC, x0, x1, x2, s0, s1, s2, ix3_0, ix3_1, ix3_2, l1] <;> rfl) ?_)
  exact rt

/-! ### All addresses -/

def adrsTo (p : Pl) (n : Nat) : List Pl := ((List.range n).map fun f => onA (f : Nat) (wts p)).filter okA
theorem adrsTo_succ (p : Pl) (n : Nat) : adrsTo p (n + 1) = adrsTo p n ++ (if okA (onA (n : Nat) (wts p)) then [onA (n : Nat) (wts p)] else []) := by
  simp only [adrsTo, List.range_succ, List.map_append, List.filter_append, List.map_cons, List.map_nil, List.filter_cons, List.filter_nil]
theorem adrsTo_le (p : Pl) (n : Nat) : (adrsTo p n).length ≤ n := by
  refine Nat.le_trans (List.length_filter_le _ _) ?_
  simp

set_option maxHeartbeats 4000000 in
theorem p_Addresses {p : Pl} (h : validPl p = true) (S : Store) : call 59 [.agg (plC p)] S = some (.tup [.sl (pls (addrs p)) .none, i64 0], S) := by
  rw [k59]
  unfold F59
  have hv := p_Valid p S
  rw [h] at hv
  have hw := p_Weights h S
  have ow : ownV 4 (.sl [] .full) S = some (.sl [] (.own S.length), S ++ [.tail 0 4]) := rfl
  have key := iter_run (step := fun s => F59_L1 call S.length (.ip ((wts p).map i64) 0) (s.1.getD 0 .u) (s.1.getD 1 .u) s.2) (fun k => ([.sl (pls (adrsTo p k)) (.own S.length), i64 (k : Nat)], S ++ [.tail (adrsTo p k).length 4])) (r := (Ex.exit 0, [.sl (pls (addrs p)) (.own S.length)], S ++ [.tail (addrs p).length 4])) 20 0
    (fun k _ hk => by
      have hk : k < 20 := by omega
      have hlt : (k : Int) < 20 := by omega
      have ho := p_On (f := (k : Int)) (w := wts p) (by omega) (by omega) wts_length (wts_get h) (S ++ [.tail (adrsTo p k).length 4])
      have w1 : IntKind.i64.wrap ((k : Int) + 1) = ((k + 1 : Nat) : Int) := by rw [wrap_in (by unfold In64; omega)]; omega
      have hl : takeC (some 12) ((wts p).map i64) 0 = some (.agg ((wts p).map i64)) := by rw [takeC, if_pos (by simp), List.drop_zero, List.take_of_length_le (by simp)]
      have him := imms_is (wts p)
      have hle := adrsTo_le p k
      have nx : ∀ vs n, nextS S.length (S.length + 1) vs (S ++ [.tail n 4]) = some (vs, S ++ [.tail n 4]) := fun vs n => nextS_eq (by simp)
      have ap : appendV 4 (.sl (pls (adrsTo p k)) (.own S.length)) (.sl [plC (onA (k : Nat) (wts p))] .full) (S ++ [.tail (adrsTo p k).length 4]) = some (.sl (pls (adrsTo p k) ++ [plC (onA (k : Nat) (wts p))]) (.own S.length), S ++ [.tail ((adrsTo p k).length + 1) 4]) := by
        have hi : immRows 4 [plC (onA (k : Nat) (wts p))] = some [plC (onA (k : Nat) (wts p))] := by simp [immRows]
        have hg : (S ++ [Ent.tail (adrsTo p k).length 4])[S.length]? = some (.tail (adrsTo p k).length 4) := Ap.get (k := 0)
        simp only [appendV, rowsOf_sl, Option.bind_some, hi, hg]
        rw [if_pos (by simp [room]; omega), if_pos ⟨by simp, trivial⟩, List.set_append_right _ _ (Nat.le_refl _)]
        simp
      have e1 : pls (adrsTo p k) ++ [plC (onA (k : Nat) (wts p))] = pls (adrsTo p k ++ [onA (k : Nat) (wts p)]) := by simp [pls]
      rw [adrsTo_succ]
      generalize adrsTo p k = A at *
      unfold F59_L1
      have hc : imms (plC (onA (k : Nat) (wts p))) = some (plC (onA (k : Nat) (wts p))) := imms_plC
      have hl4 : takeC (some 4) (plC (onA (k : Nat) (wts p))) 0 = some (.agg (plC (onA (k : Nat) (wts p)))) := rfl
      have hpl : (plC (onA (k : Nat) (wts p))).length = 4 := rfl
      have hbs : bsliceV 4 [plC (onA (k : Nat) (wts p))] = some (.sl [plC (onA (k : Nat) (wts p))] .full) := by simp [bsliceV, immRows]
      rw [List.length_append]
      generalize plC (onA (k : Nat) (wts p)) = q at *
      generalize (wts p).map i64 = W at *
      cases hok : okA (onA (k : Nat) (wts p)) with
      | true =>
        rw [hok] at ho
        simp only [if_true, List.length_singleton]
        rw [← e1]
        simp only [List.length_append, List.length_singleton] at *
        have nx' := nx
        unfold F59_J1
        repeat (first
          | rfl
          | refine cond_t (by rfl) ?_
          | refine cond_f (by rfl) ?_
          | refine ite_of (by first | rfl | assumption) ?_
          | refine bind_of (by simp [-loadV, -storeV, -Int.natCast_add, loadV_ip, hlt, hl, him, ho, hc, hl4, hpl, hbs, ap, ownV, w1, nx] <;> rfl) ?_)
      | false =>
        rw [hok] at ho
        simp only [Bool.false_eq_true, if_false, List.append_nil, List.length_nil, Nat.add_zero, List.length_append, List.length_singleton] at *
        unfold F59_J1
        repeat (first
          | rfl
          | refine cond_t (by rfl) ?_
          | refine cond_f (by rfl) ?_
          | refine ite_of (by first | rfl | assumption) ?_
          | refine bind_of (by simp [-loadV, -storeV, -Int.natCast_add, loadV_ip, hlt, hl, him, ho, hc, hl4, hpl, w1, nx] <;> rfl) ?_))
    (by
      simp [F59_L1]
      exact ⟨rfl, rfl⟩)
  have him := imms_is (wts p)
  have hpl : imms (cellsOf (.agg (plC p))) = some (plC p) := imms_plC
  have hl4 : takeC (some 4) (plC p) 0 = some (.agg (plC p)) := rfl
  have hc : imms (plC p) = some (plC p) := imms_plC
  have hlen : ((wts p).map i64).length = 12 := by simp
  have hb : Nat.blt S.length S.length = false := blt_false (Nat.le_refl _)
  simp only [Int.natCast_zero, i64] at key
  have e0 : adrsTo p 0 = [] := rfl
  rw [e0] at key
  generalize addrs p = A at *
  have hpc : (plC p).length = 4 := rfl
  have fin : finish false S.length [.sl (pls A) (.own S.length), .int .i64 0] (S ++ [.tail A.length 4]) = some (.tup [.sl (pls A) .none, i64 0], S) := by
    simp [finish, hb]
  generalize (wts p).map i64 = W at *
  generalize plC p = q at *
  refine bind_of hpl ?_
  repeat (first
    | rfl
    | refine cond_t (by rfl) ?_
    | refine cond_f (by rfl) ?_
    | refine ite_of (by first | rfl | assumption) ?_
    | refine bind_of (by simp [-loadV, -storeV, -Int.natCast_add, loadV_ip, hl4, hc, hv, hw, him, hlen, ow] <;> rfl) ?_)
  refine bind_of key ?_
  exact fin

theorem p_Normal {p : Pl} (h : validPl p = true) (S : Store) : call 46 [.agg (plC p)] S = some (.tup [.agg (plC (normP p)), i64 0], S) := by
  rw [k46]
  unfold F46
  have hA := p_Addresses h (S ++ [.obj [(.int .i64 0), (.int .i64 0), (.int .i64 0), (.int .i64 0)]])
  obtain ⟨q, l, hq⟩ : ∃ q l, addrs p = q :: l := by
    cases ha : addrs p with
    | nil => exact absurd ha (addrs_ne h)
    | cons q l => exact ⟨q, l, rfl⟩
  have hn : normP p = q := by unfold normP; rw [hq]; rfl
  rw [hn]
  rw [hq] at hA
  have hix : indexAV 4 none (.sl (pls (q :: l)) .none) (.int .i64 0) = some (.ip (plC q) 0) := rfl
  have hl4 : takeC (some 4) (plC q) 0 = some (.agg (plC q)) := rfl
  have hl4' : takeC (some 4) (plC p) 0 = some (.agg (plC p)) := rfl
  have hc : imms (plC p) = some (plC p) := imms_plC
  have rt := Ap.ret2 (S := S) (es := [.obj [(.int .i64 0), (.int .i64 0), (.int .i64 0), (.int .i64 0)]]) (n := 4) (vs := plC q) (x := .int .i64 0) rfl cells1_plC imms_plC (by simp [plC]) rfl rfl rfl (by simp)
  generalize plC q = c at *
  refine bind_of (show imms (cellsOf (.agg (plC p))) = some (plC p) from hc) ?_
  generalize plC p = d at *
  repeat (first
    | rfl
    | refine cond_t (by rfl) ?_
    | refine cond_f (by rfl) ?_
    | refine ite_of (by first | rfl | assumption) ?_
    | refine bind_of (by simp [-loadV, -storeV, -Int.natCast_add, loadV_ip, hl4', hc, hA, hix, hl4] <;> rfl) ?_)
  exact rt

end Go.Proofs.YtlilahgndpdkfaaDoor

/-
  What the makers of given data answer: places.
-/
namespace Go.Proofs.YtlilahgndpdkfaaDoor
open Go Go.Abs

section
variable {S : Store} {i : Nat} {L : List Int}

abbrev plE (p : Pl) : Store := [.obj [.int .i64 0, .int .i64 0, .int .i64 0, .int .i64 0], .obj (plC p)]

theorem pl_put {a k : Nat} {p q : Pl} {v : Int} (hk : k < 4) (h : (plC p).set k (i64 v) = plC q) :
    storeV S.length 1 (.ptr (S.length + 1) k) (i64 v) (Sr S i L a (plE p)) = some (Sr S i L a (plE q)) := by
  have := Stt.store (S := S) (i := i) (e := srcE L a) (es := plE p) (k := 1) (o := k) (n := 1) (v := i64 v) (cs := plC p) (vs := [i64 v]) rfl rfl rfl (by simp; omega)
  rw [this]
  simp only [setC, h, plE, List.set_cons_succ, List.set_cons_zero]

theorem pl_get {a k : Nat} {p : Pl} {v : Int} (h : (plC p)[k]? = some (i64 v)) : loadV none (.ptr (S.length + 1) k) (Sr S i L a (plE p)) = some (i64 v) := by
  rw [Stt.load (k := 1) (cs := plC p) rfl, take_none, h]

def MadeP (v : AV) : Prop := ∃ p : Pl, validPl p = true ∧ v = .agg (plC (normP p))

set_option maxHeartbeats 2000000 in
theorem g_PlaceJ2 {a : Nat} {p : Pl} (hs : Sc S i L a) (h1 : 0 ≤ p.face) (h2 : p.face < 20) (h3 : 0 ≤ p.a) (h4 : 0 ≤ p.b) (h5 : p.a + p.b ≤ 840) :
    Ev (F32_J2 call S.length (.ptr S.length 0) (.ptr (S.length + 1) 0) (Sr S i L a (plE p))) fun r => ∃ v a', Sc S i L a' ∧ MadeP v ∧ r = (v, Sr S i L a' []) := by
  unfold F32_J2
  have g1 := pl_get (S := S) (i := i) (L := L) (a := a) (k := 1) (p := p) (v := p.a) rfl
  have g2 := pl_get (S := S) (i := i) (L := L) (a := a) (k := 2) (p := p) (v := p.b) rfl
  let q : Pl := ⟨p.face, p.a, p.b, 840 - p.a - p.b⟩
  have hq : validPl q = true := validPl_iff.2 ⟨h1, h2, h3, by show p.a ≤ 840; omega, h4, by show p.b ≤ 840; omega, by show 0 ≤ 840 - p.a - p.b; omega, by show 840 - p.a - p.b ≤ 840; omega, by show p.a + p.b + (840 - p.a - p.b) = 840; omega⟩
  have s1 := pl_put (S := S) (i := i) (L := L) (a := a) (k := 3) (p := p) (q := q) (v := 840 - p.a - p.b) (by omega) rfl
  have l1 := Stt.loadA (S := S) (i := i) (e := srcE L a) (k := 1) (es := plE q) (n := 4) rfl rfl
  have hn := p_Normal hq (Sr S i L a (plE q))
  have hc : imms (plC q) = some (plC q) := imms_plC
  have hc2 : imms (plC (normP q)) = some (plC (normP q)) := imms_plC
  have hl2 : takeC (some 4) (plC (normP q)) 0 = some (.agg (plC (normP q))) := rfl
  have st := Stt.storeA0 (S := S) (i := i) (e := srcE L a) (es := plE q) (n := 4) rfl (cells1_plC (p := normP q)) rfl rfl
  have l2 := Stt.loadA0 (S := S) (i := i) (e := srcE L a) (es := [.obj (plC (normP q)), .obj (plC q)]) (n := 4) rfl rfl
  have hlen : (plC (normP q)).length = 4 := rfl
  have hb : belows S.length (plC (normP q)) = true := by simp [plC]
  have hQ : MadeP (.agg (plC (normP q))) := ⟨q, hq, rfl⟩
  simp only [List.set_cons_zero] at st
  clear_value q
  generalize plC (normP q) = c at *
  have hcq : imms (plC q) = some (plC q) := hc
  generalize plC q = d at *
  repeat (first
    | refine Ev.fin (by simp [g1, g2, s1, l1, hc, hn, hc2, hl2, st, l2, hb] <;> rfl) (by simp [g1, g2, s1, l1, hc, hn, hc2, hl2, st, l2, hb]) ?_
    | refine Ev.t (by rfl) ?_
    | refine Ev.f (by rfl) ?_
    | refine Ev.ite (by first | rfl | assumption) ?_
    | refine Ev.to (by simp (disch := omega) [-loadV, -storeV, -Int.natCast_add, loadV_ip, g1, g2, s1, l1, hc, hn, hc2, hl2, st, l2, hb] <;> rfl) ?_)
  exact ⟨_, a, hs, hQ, rfl⟩

set_option maxHeartbeats 2000000 in
theorem g_PlaceJ1 {a : Nat} {p : Pl} (hs : Sc S i L a) (h1 : 0 ≤ p.face) (h2 : p.face < 20) (h3 : 0 ≤ p.a) (h5 : p.a ≤ 840) :
    Ev (F32_J1 call S.length (.ptr i 0) (.ptr S.length 0) (.ptr (S.length + 1) 0) (Sr S i L a (plE p))) fun r => ∃ v a', Sc S i L a' ∧ MadeP v ∧ r = (v, Sr S i L a' []) := by
  unfold F32_J1
  have g1 := pl_get (S := S) (i := i) (L := L) (a := a) (k := 1) (p := p) (v := p.a) rfl
  repeat (first
    | refine Ev.fin (by simp [g1] <;> rfl) (by simp [g1]) ?_
    | refine Ev.t (by rfl) ?_
    | refine Ev.f (by rfl) ?_
    | refine Ev.ite (by first | rfl | assumption) ?_
    | refine Ev.to (by simp (disch := omega) [-loadV, -storeV, -Int.natCast_add, loadV_ip, g1] <;> rfl) ?_)
  refine Ev.bind (e_N (by assumption) (by omega) (by omega)) ?_
  rintro _ ⟨v1, a1, k1, b1, b2, rfl⟩
  try dsimp only
  have s1 := pl_put (S := S) (i := i) (L := L) (a := a1) (k := 2) (p := p) (q := { p with b := v1 }) (v := v1) (by omega) rfl
  repeat (first
    | refine Ev.fin (by simp [s1] <;> rfl) (by simp [s1]) ?_
    | refine Ev.t (by rfl) ?_
    | refine Ev.f (by rfl) ?_
    | refine Ev.ite (by first | rfl | assumption) ?_
    | refine Ev.to (by simp (disch := omega) [-loadV, -storeV, -Int.natCast_add, loadV_ip, s1] <;> rfl) ?_)
  refine Ev.bind (e_N (by assumption) (by omega) (by omega)) ?_
  rintro _ ⟨v2, a2, k2, _, _, rfl⟩
  try dsimp only
  repeat (first
    | refine Ev.fin (by simp [] <;> rfl) (by simp []) ?_
    | refine Ev.t (by rfl) ?_
    | refine Ev.f (by rfl) ?_
    | refine Ev.ite (by first | rfl | assumption) ?_
    | refine Ev.to (by simp (disch := omega) [-loadV, -storeV, -Int.natCast_add, loadV_ip] <;> rfl) ?_)
  have e0 : ∀ a, loadV none (.ptr (S.length + 1) 2) (Sr S i L a (plE { p with b := v1 })) = some (i64 v1) := fun a => pl_get rfl
  refine Ev.beq (fun _ => ?_) (fun _ => ?_)
  · have e1 := e0 a2
    have hm := Int.tmod_nonneg 105 b1
    have hm2 : v1.tmod 105 ≤ v1 := by
      rw [Int.tmod_eq_emod_of_nonneg b1]
      omega
    have s2 := pl_put (S := S) (i := i) (L := L) (a := a2) (k := 2) (p := { p with b := v1 }) (q := { p with b := v1 - v1.tmod 105 }) (v := v1 - v1.tmod 105) (by omega) rfl
    repeat (first
      | refine Ev.fin (by simp [e1, s2] <;> rfl) (by simp [e1, s2]) ?_
      | refine Ev.t (by rfl) ?_
      | refine Ev.f (by rfl) ?_
      | refine Ev.ite (by first | rfl | assumption) ?_
      | refine Ev.to (by simp (disch := omega) [-loadV, -storeV, -Int.natCast_add, loadV_ip, e1, s2] <;> rfl) ?_)
    exact g_PlaceJ2 k2 h1 h2 h3 (by show 0 ≤ v1 - v1.tmod 105; omega) (by show p.a + (v1 - v1.tmod 105) ≤ 840; omega)
  · exact g_PlaceJ2 k2 h1 h2 h3 b1 (by show p.a + v1 ≤ 840; omega)

end

set_option maxHeartbeats 2000000 in
theorem g_Place (i : Nat) : Maker 32 [.ptr i 0] i MadeP := by
  intro S L a hs
  unfold Mk
  rw [k32]
  unfold F32
  simp only [Stt.length, List.length_nil, Nat.add_zero, Stt.app, List.nil_append]
  repeat (first
    | refine Ev.fin (by simp [] <;> rfl) (by simp []) ?_
    | refine Ev.t (by rfl) ?_
    | refine Ev.f (by rfl) ?_
    | refine Ev.ite (by first | rfl | assumption) ?_
    | refine Ev.to (by simp (disch := omega) [-loadV, -storeV, -Int.natCast_add, loadV_ip] <;> rfl) ?_)
  refine Ev.bind (e_N (by assumption) (by omega) (by omega)) ?_
  rintro _ ⟨v1, a1, k1, b1, b2, rfl⟩
  try dsimp only
  repeat (first
    | refine Ev.fin (by simp [] <;> rfl) (by simp []) ?_
    | refine Ev.t (by rfl) ?_
    | refine Ev.f (by rfl) ?_
    | refine Ev.ite (by first | rfl | assumption) ?_
    | refine Ev.to (by simp (disch := omega) [-loadV, -storeV, -Int.natCast_add, loadV_ip] <;> rfl) ?_)
  refine Ev.bind (e_N (by assumption) (by omega) (by omega)) ?_
  rintro _ ⟨v2, a2, k2, c1, c2, rfl⟩
  try dsimp only
  repeat (first
    | refine Ev.fin (by simp [] <;> rfl) (by simp []) ?_
    | refine Ev.t (by rfl) ?_
    | refine Ev.f (by rfl) ?_
    | refine Ev.ite (by first | rfl | assumption) ?_
    | refine Ev.to (by simp (disch := omega) [-loadV, -storeV, -Int.natCast_add, loadV_ip] <;> rfl) ?_)
  simp only [Stt.length, Stt.app, List.length_cons, List.length_nil, Nat.zero_add, List.cons_append, List.nil_append]
  repeat (first
    | refine Ev.fin (by simp [] <;> rfl) (by simp []) ?_
    | refine Ev.t (by rfl) ?_
    | refine Ev.f (by rfl) ?_
    | refine Ev.ite (by first | rfl | assumption) ?_
    | refine Ev.to (by simp (disch := omega) [-loadV, -storeV, -Int.natCast_add, loadV_ip] <;> rfl) ?_)
  refine Ev.bind (e_N (by assumption) (by omega) (by omega)) ?_
  rintro _ ⟨v3, a3, k3, _, _, rfl⟩
  try dsimp only
  repeat (first
    | refine Ev.fin (by simp [] <;> rfl) (by simp []) ?_
    | refine Ev.t (by rfl) ?_
    | refine Ev.f (by rfl) ?_
    | refine Ev.ite (by first | rfl | assumption) ?_
    | refine Ev.to (by simp (disch := omega) [-loadV, -storeV, -Int.natCast_add, loadV_ip] <;> rfl) ?_)
  have hp : ∀ (a : Nat) (v : Int), [Ent.obj [.int .i64 0, .int .i64 0, .int .i64 0, .int .i64 0], Ent.obj [i64 v1, i64 v, .int .i64 0, .int .i64 0]] = plE ⟨v1, v, 0, 0⟩ := fun _ _ => rfl
  have sp : ∀ (a : Nat) (v : Int), storeV S.length 1 (.ptr (S.length + 1) 1) (i64 v) (Sr S i L a (plE ⟨v1, v2, 0, 0⟩)) = some (Sr S i L a (plE ⟨v1, v, 0, 0⟩)) := fun a v => pl_put (by omega) rfl
  refine Ev.beq (fun _ => ?_) (fun _ => ?_)
  · skip
    repeat (first
      | refine Ev.fin (by simp [] <;> rfl) (by simp []) ?_
      | refine Ev.t (by rfl) ?_
      | refine Ev.f (by rfl) ?_
      | refine Ev.ite (by first | rfl | assumption) ?_
      | refine Ev.to (by simp (disch := omega) [-loadV, -storeV, -Int.natCast_add, loadV_ip] <;> rfl) ?_)
    refine Ev.bind (e_N (by assumption) (by omega) (by omega)) ?_
    rintro _ ⟨v4, a4, k4, _, _, rfl⟩
    try dsimp only
    repeat (first
      | refine Ev.fin (by simp [] <;> rfl) (by simp []) ?_
      | refine Ev.t (by rfl) ?_
      | refine Ev.f (by rfl) ?_
      | refine Ev.ite (by first | rfl | assumption) ?_
      | refine Ev.to (by simp (disch := omega) [-loadV, -storeV, -Int.natCast_add, loadV_ip] <;> rfl) ?_)
    refine Ev.to (sp a4 (105 * v4)) ?_
    exact g_PlaceJ1 (p := ⟨v1, 105 * v4, 0, 0⟩) k4 b1 b2 (by show 0 ≤ 105 * v4; omega) (by show 105 * v4 ≤ 840; omega)
  · skip
    repeat (first
      | refine Ev.fin (by simp [] <;> rfl) (by simp []) ?_
      | refine Ev.t (by rfl) ?_
      | refine Ev.f (by rfl) ?_
      | refine Ev.ite (by first | rfl | assumption) ?_
      | refine Ev.to (by simp (disch := omega) [-loadV, -storeV, -Int.natCast_add, loadV_ip] <;> rfl) ?_)
    refine Ev.beq (fun _ => ?_) (fun _ => ?_)
    · skip
      repeat (first
        | refine Ev.fin (by simp [] <;> rfl) (by simp []) ?_
        | refine Ev.t (by rfl) ?_
        | refine Ev.f (by rfl) ?_
        | refine Ev.ite (by first | rfl | assumption) ?_
        | refine Ev.to (by simp (disch := omega) [-loadV, -storeV, -Int.natCast_add, loadV_ip] <;> rfl) ?_)
      refine Ev.bind (e_N (by assumption) (by omega) (by omega)) ?_
      rintro _ ⟨v4, a4, k4, _, _, rfl⟩
      try dsimp only
      repeat (first
        | refine Ev.fin (by simp [] <;> rfl) (by simp []) ?_
        | refine Ev.t (by rfl) ?_
        | refine Ev.f (by rfl) ?_
        | refine Ev.ite (by first | rfl | assumption) ?_
        | refine Ev.to (by simp (disch := omega) [-loadV, -storeV, -Int.natCast_add, loadV_ip] <;> rfl) ?_)
      refine Ev.to (sp a4 (210 * v4)) ?_
      exact g_PlaceJ1 (p := ⟨v1, 210 * v4, 0, 0⟩) k4 b1 b2 (by show 0 ≤ 210 * v4; omega) (by show 210 * v4 ≤ 840; omega)
    · exact g_PlaceJ1 (p := ⟨v1, v2, 0, 0⟩) k3 b1 b2 c1 (by show v2 ≤ 840; omega)

end Go.Proofs.YtlilahgndpdkfaaDoor

/-
  What the makers of given data answer: reports in which one thing is changed.
-/
namespace Go.Proofs.YtlilahgndpdkfaaDoor
open Go Go.Abs

def repV (r : Rep) (v : AV) : List AV := [i64 r.kind, .str r.name, i64 r.time, i64 r.face, i64 r.pa, i64 r.pb, i64 r.pc, v]

theorem flat_rds : ∀ (n : Nat) (l : List Int), l.length = n * 2 → ∃ rd : List Rd, rd.length = n ∧ (rds rd).flatten = l.map i64
  | 0, l, h => by
    have : l = [] := List.eq_nil_of_length_eq_zero (by omega)
    subst this; exact ⟨[], rfl, rfl⟩
  | n + 1, [], h => by simp at h
  | n + 1, [_], h => by simp at h; omega
  | n + 1, a :: b :: l, h => by
    obtain ⟨rd, h1, h2⟩ := flat_rds n l (by simp at h; omega)
    exact ⟨(a, b) :: rd, by simp [h1], by simp [rds_cons, h2]⟩

theorem rds_flat (l : List Rd) : (rds l).flatten = (l.flatMap fun r => [r.1, r.2]).map i64 := by
  induction l with
  | nil => rfl
  | cons r l ih => simp [rds_cons, ih]

/-- The entries: the report that is changed, the result, the readings. -/
structure BE (S : Store) (es : Store) (r : Rep) (v : AV) : Prop where
  e0 : es[0]? = some (.obj (repV r v))
  e1 : es[1]? = some (.obj [.int .i64 0, .str [], .int .i64 0, .int .i64 0, .int .i64 0, .int .i64 0, .int .i64 0, .sl [] .full])
  rd : (v = .sl [] .full ∧ r.rd = []) ∨ (r.rd ≠ [] ∧ ∃ m, 2 ≤ m ∧ v = .osl (S.length + m) 0 r.rd.length 2 ∧ es[m]? = some (.obj (rds r.rd).flatten))

section
variable {S : Store} {i : Nat} {L : List Int} {es : Store} {r : Rep} {v : AV}

theorem BE.lt (h : BE S es r v) : 2 ≤ es.length := by
  have := (List.getElem?_eq_some_iff.1 h.e1).1
  omega

/-- A field turned. -/
theorem BE.put (h : BE S es r v) {r' : Rep} (hr : r'.rd = r.rd) : BE S (es.set 0 (.obj (repV r' v))) r' v := by
  have := h.lt
  refine ⟨by rw [List.getElem?_set_self (by omega)], by rw [List.getElem?_set_ne (by omega)]; exact h.e1, ?_⟩
  rw [hr]
  rcases h.rd with h1 | ⟨h1, m, h2, h3, h4⟩
  · exact .inl h1
  · exact .inr ⟨h1, m, h2, h3, by rw [List.getElem?_set_ne (by omega)]; exact h4⟩

theorem BE.store (h : BE S es r v) {a k : Nat} {w : AV} {r' : Rep} (hk : k < 8) (hw : cells1 (cellsOf w) = some [w]) (hl : (cellsOf w).length = 1) (hr : r'.rd = r.rd) (he : (repV r v).set k w = repV r' v) :
    storeV S.length 1 (.ptr S.length k) w (Sr S i L a es) = some (Sr S i L a (es.set 0 (.obj (repV r' v)))) := by
  rw [Stt.store0 h.e0 hw hl (by simp [repV]; omega)]
  simp only [setC, he]

theorem take_len {es : Store} {n : Nat} (h : es.length = n) : es.take n = es := by rw [← h, List.take_length]

theorem b_J1 {a : Nat} (h : BE S es r v) : F16_J1 call S.length (.ptr S.length 0) (.ptr (S.length + 1) 0) (Sr S i L a es) = some (.agg (repR r), Sr S i L a []) := by
  unfold F16_J1
  have l1 := Stt.loadA0 (S := S) (i := i) (e := srcE L a) (n := 8) h.e0 (by simp [repV])
  refine bind_of l1 ?_
  have hlt := h.lt
  have hb : belows S.length (repR r) = true := by simp [repR]
  rcases h.rd with ⟨rfl, h2⟩ | ⟨h1, m, h2, rfl, h4⟩
  · have hf : freezeV (.agg (repV r (.sl [] .full))) (Sr S i L a es) = some (.agg (repV r (.sl [] .full)), Sr S i L a es) := by
      simp [freezeV, repV, isOsl, List.findIdx_cons]
    have st := Stt.storeA (S := S) (i := i) (e := srcE L a) (k := 1) (n := 8) (vs := repV r (.sl [] .full)) h.e1 (by simp [repV]) (by simp [repV]) (by simp)
    have l2 := Stt.loadA (S := S) (i := i) (e := srcE L a) (k := 1) (es := es.set 1 (.obj (repV r (.sl [] .full)))) (n := 8) (cs := repV r (.sl [] .full)) (by rw [List.getElem?_set_self (by omega)]) (by simp [repV])
    refine bind_of hf (bind_of st (bind_of (bind_of l2 rfl) ?_))
    have him : imms (repV r (.sl [] .full)) = some (repR r) := by simp [repV, repR, h2]
    rw [Stt.finish (vs' := [.agg (repR r)]) (by simp only [fins, fin1, him, Option.bind_some]) (by simp [hb])]
    rfl
  · have hro : rowsOf (.osl (S.length + m) 0 r.rd.length 2) (Sr S i L a es) = some (rds r.rd) := by
      have := rowsOf_flat (S := Sr S i L a es) (i := S.length + m) (sz := 2) (xs := rds r.rd) (by rw [Stt.own]; exact h4) (fun x hx => (rds_row x hx).1)
      rwa [rds_length] at this
    have hf : freezeV (.agg (repV r (.osl (S.length + m) 0 r.rd.length 2))) (Sr S i L a es) = some (.agg (repR r), Sr S i L a (es.set m .dead)) := by
      have hix : (repV r (.osl (S.length + m) 0 r.rd.length 2)).findIdx isOsl = 7 := by simp [repV, isOsl, List.findIdx_cons]
      simp only [freezeV, hix]
      have : (repV r (.osl (S.length + m) 0 r.rd.length 2))[7]? = some (.osl (S.length + m) 0 r.rd.length 2) := rfl
      simp only [this, hro, Option.bind_some, immRows_self rds_row, Stt.set_own]
      rfl
    have st := Stt.storeA (S := S) (i := i) (e := srcE L a) (es := es.set m .dead) (k := 1) (n := 8) (vs := repR r) (by rw [List.getElem?_set_ne (by omega)]; exact h.e1) (by simp [repR]) (by simp) (by simp)
    have l2 := Stt.loadA (S := S) (i := i) (e := srcE L a) (k := 1) (es := (es.set m .dead).set 1 (.obj (repR r))) (n := 8) (cs := repR r) (by rw [List.getElem?_set_self (by simp; omega)]) (by simp)
    refine bind_of hf (bind_of st (bind_of (bind_of l2 rfl) ?_))
    rw [Stt.finish (vs' := [.agg (repR r)]) (by simp only [fins, fin1, imms_repR, Option.bind_some]) (by simp [hb])]
    rfl

/-- What a change comes to: a report with at most one reading more. -/
def BentP (r : Rep) (v : AV) : Prop := ∃ r' : Rep, v = .agg (repR r') ∧ r'.rd.length ≤ r.rd.length + 1

end

set_option maxHeartbeats 4000000 in
theorem g_Bent (r : Rep) (hr : r.rd.length ≤ 1000000) (i : Nat) : Maker 16 [.ptr i 0, .agg (repR r)] i (BentP r) := by
  intro S L a hs
  have hlt := hs.lt
  unfold Mk
  rw [k16]
  unfold F16
  simp only [Stt.length, List.length_nil, Nat.add_zero]
  refine Ev.to (a := repR r) (by simp [repR]) ?_
  simp only [Stt.app, List.nil_append, List.cons_append, Stt.length, List.length_cons, List.length_nil, Nat.zero_add]
  refine Ev.to (a := .sl [] .full) rfl ?_
  refine Ev.to rfl ?_
  refine Ev.to (a := .sl (rds r.rd) .none) (by rw [Stt.load0 (cs := repR r) rfl]; rfl) ?_
  -- the row of readings
  have hap : ∃ v es, appendMV 2 (.sl [] .full) (.sl (rds r.rd) .none) (Sr S i L a [.obj (repR r), .obj [.int .i64 0, .str [], .int .i64 0, .int .i64 0, .int .i64 0, .int .i64 0, .int .i64 0, .sl [] .full]]) = some (v, Sr S i L a es) ∧
      storeV S.length 1 (.ptr S.length 7) v (Sr S i L a es) = some (Sr S i L a (es.set 0 (.obj (repV r v)))) ∧ BE S (es.set 0 (.obj (repV r v))) r v := by
    have hrow : immRows 2 (rds r.rd) = some (rds r.rd) := immRows_self rds_row
    cases hrd : r.rd with
    | nil =>
      refine ⟨.sl [] .full, _, rfl, ?_, ⟨rfl, rfl, .inl ⟨rfl, hrd⟩⟩⟩
      exact Stt.store0 (o := 7) (n := 1) (v := .sl [] .full) (cs := repR r) (vs := [.sl [] .full]) rfl rfl rfl (by simp)
    | cons x l =>
      rw [← hrd]
      have hne : r.rd ≠ [] := by rw [hrd]; simp
      refine ⟨.osl (S.length + 2) 0 r.rd.length 2, [.obj (repR r), .obj [.int .i64 0, .str [], .int .i64 0, .int .i64 0, .int .i64 0, .int .i64 0, .int .i64 0, .sl [] .full], .obj (rds r.rd).flatten], ?_, ?_, ⟨rfl, rfl, .inr ⟨hne, 2, by omega, rfl, rfl⟩⟩⟩
      · have hem : (rds r.rd).isEmpty = false := by rw [hrd]; rfl
        simp only [appendMV, rowsOf_sl, Option.bind_some, hrow, hem, cond_false, Stt.length, Stt.app, rds_length]
        rw [if_pos (by simp [room]; omega)]
        rfl
      · exact Stt.store0 (o := 7) (n := 1) (v := .osl (S.length + 2) 0 r.rd.length 2) (cs := repR r) (vs := [.osl (S.length + 2) 0 r.rd.length 2]) rfl rfl rfl (by simp)
  obtain ⟨v, es, h1, h2, h3⟩ := hap
  refine Ev.to h1 (Ev.to rfl (Ev.to h2 ?_))
  generalize hes : es.set 0 (.obj (repV r v)) = es1 at *
  repeat (first
    | refine Ev.fin (by simp [] <;> rfl) (by simp []) ?_
    | refine Ev.t (by rfl) ?_
    | refine Ev.f (by rfl) ?_
    | refine Ev.ite (by first | rfl | assumption) ?_
    | refine Ev.to (by simp (disch := omega) [-loadV, -storeV, -Int.natCast_add, loadV_ip] <;> rfl) ?_)
  refine Ev.bind (e_N (by assumption) (by omega) (by omega)) ?_
  rintro _ ⟨v1, a1, k1, _, _, rfl⟩
  try dsimp only
  repeat (first
    | refine Ev.fin (by simp [] <;> rfl) (by simp []) ?_
    | refine Ev.t (by rfl) ?_
    | refine Ev.f (by rfl) ?_
    | refine Ev.ite (by first | rfl | assumption) ?_
    | refine Ev.to (by simp (disch := omega) [-loadV, -storeV, -Int.natCast_add, loadV_ip] <;> rfl) ?_)
  have done : ∀ (a : Nat) (es2 : Store) (r2 : Rep) (v2 : AV), Sc S i L a → BE S es2 r2 v2 → r2.rd.length ≤ r.rd.length + 1 → Ev (F16_J1 call S.length (.ptr S.length 0) (.ptr (S.length + 1) 0) (Sr S i L a es2)) fun q => ∃ v a', Sc S i L a' ∧ BentP r v ∧ q = (v, Sr S i L a' []) :=
    fun a es2 r2 v2 hs hb hl => .of (b_J1 hb) ⟨_, a, hs, ⟨r2, rfl, hl⟩, rfl⟩
  refine Ev.beq (fun _ => ?_) (fun _ => ?_)
  · skip
    repeat (first
      | refine Ev.fin (by simp [] <;> rfl) (by simp []) ?_
      | refine Ev.t (by rfl) ?_
      | refine Ev.f (by rfl) ?_
      | refine Ev.ite (by first | rfl | assumption) ?_
      | refine Ev.to (by simp (disch := omega) [-loadV, -storeV, -Int.natCast_add, loadV_ip] <;> rfl) ?_)
    refine Ev.bind (e_Range (by assumption) (by omega) (by omega) (by omega)) ?_
    rintro _ ⟨v2, a2, k2, _, _, rfl⟩
    try dsimp only
    refine Ev.to rfl (Ev.to (h3.store (w := i64 v2) (r' := { r with kind := v2 }) (by omega) rfl rfl rfl rfl) ?_)
    exact done _ _ { r with kind := v2 } _ k2 (h3.put rfl) (by simp)
  · skip
    repeat (first
      | refine Ev.fin (by simp [] <;> rfl) (by simp []) ?_
      | refine Ev.t (by rfl) ?_
      | refine Ev.f (by rfl) ?_
      | refine Ev.ite (by first | rfl | assumption) ?_
      | refine Ev.to (by simp (disch := omega) [-loadV, -storeV, -Int.natCast_add, loadV_ip] <;> rfl) ?_)
    refine Ev.beq (fun _ => ?_) (fun _ => ?_)
    · skip
      repeat (first
        | refine Ev.fin (by simp [] <;> rfl) (by simp []) ?_
        | refine Ev.t (by rfl) ?_
        | refine Ev.f (by rfl) ?_
        | refine Ev.ite (by first | rfl | assumption) ?_
        | refine Ev.to (by simp (disch := omega) [-loadV, -storeV, -Int.natCast_add, loadV_ip] <;> rfl) ?_)
      refine Ev.bind (e_Text (by assumption) (by simp) (by simp) (by simp)) ?_
      rintro _ ⟨v2, a2, k2, _, rfl⟩
      try dsimp only
      refine Ev.to rfl (Ev.to (h3.store (w := .str v2) (r' := { r with name := v2 }) (by omega) rfl rfl rfl rfl) ?_)
      exact done _ _ { r with name := v2 } _ k2 (h3.put rfl) (by simp)
    · skip
      repeat (first
        | refine Ev.fin (by simp [] <;> rfl) (by simp []) ?_
        | refine Ev.t (by rfl) ?_
        | refine Ev.f (by rfl) ?_
        | refine Ev.ite (by first | rfl | assumption) ?_
        | refine Ev.to (by simp (disch := omega) [-loadV, -storeV, -Int.natCast_add, loadV_ip] <;> rfl) ?_)
      refine Ev.beq (fun _ => ?_) (fun _ => ?_)
      · skip
        repeat (first
          | refine Ev.fin (by simp [] <;> rfl) (by simp []) ?_
          | refine Ev.t (by rfl) ?_
          | refine Ev.f (by rfl) ?_
          | refine Ev.ite (by first | rfl | assumption) ?_
          | refine Ev.to (by simp (disch := omega) [-loadV, -storeV, -Int.natCast_add, loadV_ip] <;> rfl) ?_)
        refine Ev.bind (e_Pick (by assumption) (by simp) (by simp) (by simp)) ?_
        rintro _ ⟨v2, a2, k2, _, rfl⟩
        try dsimp only
        refine Ev.to rfl (Ev.to (h3.store (w := i64 v2) (r' := { r with time := v2 }) (by omega) rfl rfl rfl rfl) ?_)
        exact done _ _ { r with time := v2 } _ k2 (h3.put rfl) (by simp)
      · skip
        repeat (first
          | refine Ev.fin (by simp [] <;> rfl) (by simp []) ?_
          | refine Ev.t (by rfl) ?_
          | refine Ev.f (by rfl) ?_
          | refine Ev.ite (by first | rfl | assumption) ?_
          | refine Ev.to (by simp (disch := omega) [-loadV, -storeV, -Int.natCast_add, loadV_ip] <;> rfl) ?_)
        refine Ev.beq (fun _ => ?_) (fun _ => ?_)
        · skip
          repeat (first
            | refine Ev.fin (by simp [] <;> rfl) (by simp []) ?_
            | refine Ev.t (by rfl) ?_
            | refine Ev.f (by rfl) ?_
            | refine Ev.ite (by first | rfl | assumption) ?_
            | refine Ev.to (by simp (disch := omega) [-loadV, -storeV, -Int.natCast_add, loadV_ip] <;> rfl) ?_)
          refine Ev.bind ((g_Place i).at (by assumption)) ?_
          rintro _ ⟨v2, a2, k2, q2, rfl⟩
          try dsimp only
          obtain ⟨p, _, rfl⟩ := q2
          have st := Stt.store0 (S := S) (i := i) (e := srcE L a2) (o := 3) (n := 4) (v := .agg (plC (normP p))) h3.e0 cells1_plC rfl (by simp [repV])
          refine Ev.to rfl (Ev.to st ?_)
          exact done _ _ { r with face := (normP p).face, pa := (normP p).a, pb := (normP p).b, pc := (normP p).c } v k2 (h3.put (r' := { r with face := (normP p).face, pa := (normP p).a, pb := (normP p).b, pc := (normP p).c }) rfl) (by simp)
        · skip
          repeat (first
            | refine Ev.fin (by simp [] <;> rfl) (by simp []) ?_
            | refine Ev.t (by rfl) ?_
            | refine Ev.f (by rfl) ?_
            | refine Ev.ite (by first | rfl | assumption) ?_
            | refine Ev.to (by simp (disch := omega) [-loadV, -storeV, -Int.natCast_add, loadV_ip] <;> rfl) ?_)
          refine Ev.beq (fun _ => ?_) (fun _ => ?_)
          · skip
            repeat (first
              | refine Ev.fin (by simp [] <;> rfl) (by simp []) ?_
              | refine Ev.t (by rfl) ?_
              | refine Ev.f (by rfl) ?_
              | refine Ev.ite (by first | rfl | assumption) ?_
              | refine Ev.to (by simp (disch := omega) [-loadV, -storeV, -Int.natCast_add, loadV_ip] <;> rfl) ?_)
            refine Ev.bind (e_Range (by assumption) (by omega) (by omega) (by omega)) ?_
            rintro _ ⟨v2, a2, k2, _, _, rfl⟩
            try dsimp only
            repeat (first
              | refine Ev.fin (by simp [] <;> rfl) (by simp []) ?_
              | refine Ev.t (by rfl) ?_
              | refine Ev.f (by rfl) ?_
              | refine Ev.ite (by first | rfl | assumption) ?_
              | refine Ev.to (by simp (disch := omega) [-loadV, -storeV, -Int.natCast_add, loadV_ip] <;> rfl) ?_)
            refine Ev.bind (e_N (by assumption) (by omega) (by omega)) ?_
            rintro _ ⟨v3, a3, k3, _, _, rfl⟩
            try dsimp only
            repeat (first
              | refine Ev.fin (by simp [] <;> rfl) (by simp []) ?_
              | refine Ev.t (by rfl) ?_
              | refine Ev.f (by rfl) ?_
              | refine Ev.ite (by first | rfl | assumption) ?_
              | refine Ev.to (by simp (disch := omega) [-loadV, -storeV, -Int.natCast_add, loadV_ip] <;> rfl) ?_)
            refine Ev.bind (e_N (by assumption) (by omega) (by omega)) ?_
            rintro _ ⟨v4, a4, k4, _, _, rfl⟩
            try dsimp only
            have st := Stt.store0 (S := S) (i := i) (e := srcE L a4) (o := 3) (n := 4) (v := .agg [i64 v2, i64 v3, i64 v4, i64 0]) (vs := [i64 v2, i64 v3, i64 v4, i64 0]) h3.e0 rfl rfl (by simp [repV])
            refine Ev.to (a := .agg [i64 v2, i64 v3, i64 v4, i64 0]) rfl (Ev.to rfl (Ev.to st ?_))
            exact done _ _ { r with face := v2, pa := v3, pb := v4, pc := 0 } v k4 (h3.put (r' := { r with face := v2, pa := v3, pb := v4, pc := 0 }) rfl) (by simp)
          · have hj : S.length ≠ i := by omega
            have ldr : ∀ a, loadV none (.ptr S.length 7) (Sr S i L a es1) = some v := fun a => by rw [Stt.load0 h3.e0]; rfl
            have ldR : ∀ a, loadRV none (.ptr S.length 7) (.ptr S.length 0) (Sr S i L a es1) = some v := fun a => by simp only [loadRV, Nat.beq_refl, cond_true, ldr]
            repeat (first
              | refine Ev.fin (by simp [] <;> rfl) (by simp []) ?_
              | refine Ev.t (by rfl) ?_
              | refine Ev.f (by rfl) ?_
              | refine Ev.ite (by first | rfl | assumption) ?_
              | refine Ev.to (by simp (disch := omega) [-loadV, -storeV, -Int.natCast_add, loadV_ip] <;> rfl) ?_)
            refine Ev.beq (fun _ => ?_) (fun _ => ?_)
            · refine Ev.to rfl (Ev.to (ldR _) (Ev.to rfl ?_))
              refine Ev.bind (e_only hlt (by omega) (e_Range (by assumption) (by omega) (by omega) (by omega)) (by rintro _ ⟨_, _, _, _, _, rfl⟩; exact ⟨_, _, rfl⟩)) ?_
              rintro _ ⟨v2, a2, k2, _, _, rfl⟩
              try dsimp only
              refine Ev.to rfl ?_
              refine Ev.bind (e_only hlt (by omega) (e_N (by assumption) (by omega) (by omega)) (by rintro _ ⟨_, _, _, _, _, rfl⟩; exact ⟨_, _, rfl⟩)) ?_
              rintro _ ⟨v3, a3, k3, _, _, rfl⟩
              try dsimp only
              refine Ev.to (a := .agg [i64 v2, i64 v3]) rfl ?_
              refine Ev.to (a := .sl [[i64 v2, i64 v3]] .full) rfl ?_
              have hap2 : ∃ v' es2, appendMV 2 v (.sl [[i64 v2, i64 v3]] .full) (Sr S i L a3 es1) = some (v', Sr S i L a3 es2) ∧ storeV S.length 1 (.ptr S.length 7) v' (Sr S i L a3 es2) = some (Sr S i L a3 (es2.set 0 (.obj (repV { r with rd := r.rd ++ [(v2, v3)] } v')))) ∧
                  BE S (es2.set 0 (.obj (repV { r with rd := r.rd ++ [(v2, v3)] } v'))) { r with rd := r.rd ++ [(v2, v3)] } v' := by
                have hlt1 := h3.lt
                rcases h3.rd with ⟨hv, hrd⟩ | ⟨hrd, m, hm, hv, hem⟩
                · refine ⟨.osl (S.length + es1.length) 0 1 2, es1 ++ [.obj [i64 v2, i64 v3]], ?_, ?_, ?_⟩
                  · subst hv
                    simp only [appendMV, rowsOf_sl, Option.bind_some, immRows, List.length_cons, List.length_nil, imms, imm1, if_true, Stt.length, Stt.app]
                    rfl
                  · have h0 : (es1 ++ [Ent.obj [i64 v2, i64 v3]])[0]? = some (.obj (repV r v)) := by rw [List.getElem?_append_left (by omega)]; exact h3.e0
                    exact Stt.store0 (o := 7) (n := 1) (v := .osl (S.length + es1.length) 0 1 2) (vs := [.osl (S.length + es1.length) 0 1 2]) h0 rfl rfl (by simp [repV])
                  · have hl2 : (es1 ++ [Ent.obj [i64 v2, i64 v3]]).length = es1.length + 1 := by simp
                    refine ⟨by rw [List.getElem?_set_self (by omega)], by rw [List.getElem?_set_ne (by omega), List.getElem?_append_left (by omega)]; exact h3.e1, .inr ⟨by simp, es1.length, by omega, by simp [hrd], ?_⟩⟩
                    rw [List.getElem?_set_ne (by omega), List.getElem?_append_right (Nat.le_refl _)]
                    simp [hrd, rds]
                · refine ⟨.osl (S.length + es1.length) 0 (r.rd.length + 1) 2, es1.set m .dead ++ [.obj ((rds r.rd).flatten ++ [i64 v2, i64 v3])], ?_, ?_, ?_⟩
                  · subst hv
                    have hfl := flatten_length (xs := rds r.rd) (sz := 2) fun x hx => (rds_row x hx).1
                    rw [rds_length] at hfl
                    have hpos : 0 < r.rd.length := List.length_pos_iff.2 hrd
                    simp only [appendMV, Stt.own, hem, rowsOf_sl, Option.bind_some, immRows, List.length_cons, List.length_nil, imms, imm1, if_true, Stt.length, Stt.app, Stt.set_own]
                    rw [if_pos ⟨trivial, hpos, by omega, by simp [room]; omega⟩, ← hfl, List.take_length]
                    rfl
                  · have h0 : (es1.set m .dead ++ [Ent.obj ((rds r.rd).flatten ++ [i64 v2, i64 v3])])[0]? = some (.obj (repV r v)) := by
                      rw [List.getElem?_append_left (by simp; omega), List.getElem?_set_ne (by omega)]; exact h3.e0
                    exact Stt.store0 (o := 7) (n := 1) (v := .osl (S.length + es1.length) 0 (r.rd.length + 1) 2) (vs := [.osl (S.length + es1.length) 0 (r.rd.length + 1) 2]) h0 rfl rfl (by simp [repV])
                  · have hl2 : (es1.set m .dead ++ [Ent.obj ((rds r.rd).flatten ++ [i64 v2, i64 v3])]).length = es1.length + 1 := by simp
                    have hl3 : (es1.set m Ent.dead).length = es1.length := by simp
                    refine ⟨by rw [List.getElem?_set_self (by omega)], by rw [List.getElem?_set_ne (by omega), List.getElem?_append_left (by omega), List.getElem?_set_ne (by omega)]; exact h3.e1, .inr ⟨by simp, es1.length, by omega, by simp, ?_⟩⟩
                    rw [List.getElem?_set_ne (by omega), List.getElem?_append_right (by omega), hl3, Nat.sub_self]
                    simp [rds]
              obtain ⟨v', es2, j1, j2, j3⟩ := hap2
              refine Ev.to j1 (Ev.to rfl (Ev.to j2 ?_))
              exact done _ _ _ _ k3 j3 (by simp)
            · skip
              repeat (first
                | refine Ev.fin (by simp [] <;> rfl) (by simp []) ?_
                | refine Ev.t (by rfl) ?_
                | refine Ev.f (by rfl) ?_
                | refine Ev.ite (by first | rfl | assumption) ?_
                | refine Ev.to (by simp (disch := omega) [-loadV, -storeV, -Int.natCast_add, loadV_ip] <;> rfl) ?_)
              refine Ev.beq (fun _ => ?_) (fun _ => ?_)
              · refine Ev.to rfl (Ev.to (ldr _) ?_)
                have hlv : lenV v = some (i64 r.rd.length) := by
                  rcases h3.rd with ⟨hv, hrd⟩ | ⟨hrd, m, hm, hv, hem⟩
                  · rw [hv, hrd]; rfl
                  · rw [hv]; rfl
                refine Ev.to hlv (Ev.to rfl ?_)
                refine Ev.dec (fun hpos => ?_) (fun _ => done _ _ r _ k1 h3 (by omega))
                rcases h3.rd with ⟨hv, hrd⟩ | ⟨hrd, m, hm, hv, hem⟩
                · rw [hrd] at hpos; simp at hpos
                refine Ev.to rfl (Ev.to (ldR _) (Ev.to rfl (Ev.to (ldr _) (Ev.to hlv (Ev.to rfl ?_)))))
                refine Ev.bind (e_only hlt (by omega) (e_N (by assumption) (by omega) (by omega)) (by rintro _ ⟨_, _, _, _, _, rfl⟩; exact ⟨_, _, rfl⟩)) ?_
                rintro _ ⟨v2, a2, k2, c1, c2, rfl⟩
                try dsimp only
                refine Ev.to (a := .sl [[i64 (-1001)], [i64 0], [i64 99999]] .full) rfl (Ev.to rfl ?_)
                refine Ev.bind (e_only hlt (by omega) (e_Pick (by assumption) (by simp) (by simp) (by simp)) (by rintro _ ⟨_, _, _, _, rfl⟩; exact ⟨_, _, rfl⟩)) ?_
                rintro _ ⟨v3, a3, k3, _, rfl⟩
                try dsimp only
                have hix : indexAV 2 none v (i64 v2) = some (.ptr (S.length + m) (v2.toNat * 2)) := by
                  rw [hv]
                  simp only [indexAV, i64]
                  rw [if_pos ⟨c1, c2, trivial⟩, Nat.zero_add]
                refine Ev.to hix (Ev.to rfl ?_)
                have hfl := flatten_length (xs := rds r.rd) (sz := 2) fun x hx => (rds_row x hx).1
                rw [rds_length] at hfl
                have st := Stt.store (S := S) (i := i) (e := srcE L a3) (k := m) (o := v2.toNat * 2 + 1) (n := 1) (v := i64 v3) (vs := [i64 v3]) hem rfl rfl (by omega)
                refine Ev.to st ?_
                obtain ⟨rd2, g1, g2⟩ := flat_rds r.rd.length ((r.rd.flatMap fun x => [x.1, x.2]).set (v2.toNat * 2 + 1) v3) (by
                  rw [List.length_set, ← hfl, rds_flat, List.length_map])
                have e1 : setC (rds r.rd).flatten (v2.toNat * 2 + 1) [i64 v3] = (rds rd2).flatten := by
                  rw [g2, rds_flat]
                  simp only [setC, List.map_set]
                rw [e1]
                have hlt1 := h3.lt
                have hm2 := (List.getElem?_eq_some_iff.1 hem).1
                refine done _ _ { r with rd := rd2 } v k3 ⟨by rw [List.getElem?_set_ne (by omega)]; exact h3.e0, by rw [List.getElem?_set_ne (by omega)]; exact h3.e1, .inr ⟨fun e => by rw [show rd2 = [] from e] at g1; exact hrd (List.eq_nil_of_length_eq_zero g1.symm), m, hm, by rw [hv]; simp [g1], by rw [List.getElem?_set_self hm2]⟩⟩ (by simp [g1])
              · refine Ev.to rfl (Ev.to rfl (Ev.to (a := i64 r.pc) (by rw [Stt.load0 h3.e0]; rfl) (Ev.to rfl (Ev.to rfl (Ev.to rfl (Ev.to (h3.store (w := i64 (IntKind.i64.wrap (r.pc + 1))) (r' := { r with pc := IntKind.i64.wrap (r.pc + 1) }) (by omega) rfl rfl rfl rfl) ?_))))))
                exact done _ _ { r with pc := IntKind.i64.wrap (r.pc + 1) } _ k1 (h3.put rfl) (by simp)

end Go.Proofs.YtlilahgndpdkfaaDoor

/-
  TimelineAnswers: what the law itself comes to: true.
-/
namespace Go.Proofs.YtlilahgndpdkfaaDoor
open Go Go.Abs

section
variable {S : Store}

/-- Few enough to be compared. -/
theorem flagsP_few {l : List Rep} {k : Ctl} (h : Few l) : (flagsP l k).length ≤ 1000000 := by
  unfold flagsP
  split
  · rename_i he
    exact Nat.le_trans (refFlags_length (examP_zero he).1) h.all
  · simp

set_option maxHeartbeats 2000000 in
theorem an_L2 {z : List Rep} {t : Tok} (hz : Few z) {cs : List Ctl} (hc : ∀ c ∈ cs, c.Fit) {j n0 : Nat} {t74 : AV} (h : j < cs.length) (hl : cs.length ≤ 1000) :
    F3_L2 call n0 (.sl (reps z) t) t74 (.sl (cs.map ctlC) .full) (i64 cs.length) (i64 (j : Int)) S = some (.inl ([i64 ((j + 1 : Nat) : Int)], S)) := by
  have hf := hc _ (List.getElem_mem h)
  obtain ⟨u1, c1⟩ := s_Check (t := t) hf hz S
  obtain ⟨u2, c2⟩ := r_Check (t := t) hf hz S
  have fl := r_Flags (a := flagsP z cs[j]) (b := flagsP z cs[j]) (t := u1) (u := u2) (flagsP_few hz) S
  have hlt : (j : Int) < (cs.length : Int) := by omega
  have w1 : IntKind.i64.wrap ((j : Int) + 1) = ((j + 1 : Nat) : Int) := by rw [wrap_in (by unfold In64; omega)]; omega
  have hix : indexAV 41 none (.sl (cs.map ctlC) .full) (.int .i64 (j : Int)) = some (.ip (ctlC cs[j]) 0) := by
    simp [indexAV, at_nat, h, ctl_length hf]
  have hl41 : takeC (some 41) (ctlC cs[j]) 0 = some (.agg (ctlC cs[j])) := by
    rw [takeC, if_pos (by rw [ctl_length hf]; omega), List.drop_zero, List.take_of_length_le (by rw [ctl_length hf]; omega)]
  have him := imms_ctl cs[j]
  have hlen := ctl_length hf
  simp only [decide_true] at fl
  generalize ctlC cs[j] = K at *
  generalize flagRows (flagsP z cs[j]) = G at *
  generalize examP z cs[j] = e at *
  generalize reps z = Z at *
  unfold F3_L2
  repeat (first
    | rfl
    | refine cond_t (by rfl) ?_
    | refine cond_f (by rfl) ?_
    | refine ite_of (by first | rfl | assumption) ?_
    | refine bind_of (by simp [-loadV, -storeV, -Int.natCast_add, loadV_ip, hlt, hix, hl41, him, hlen, c1, c2, fl, w1, nextS_same] <;> rfl) ?_)

theorem an_L2s {z : List Rep} {t : Tok} (hz : Few z) {cs : List Ctl} (hc : ∀ c ∈ cs, c.Fit) {n0 : Nat} {t74 : AV} (hl : cs.length ≤ 1000) :
    iter (fun s => F3_L2 call n0 (.sl (reps z) t) t74 (.sl (cs.map ctlC) .full) (i64 cs.length) (s.1.getD 0 .u) s.2) ([i64 0], S) = some (.exit 3, [.u], S) := by
  have key := iter_run (step := fun s => F3_L2 call n0 (.sl (reps z) t) t74 (.sl (cs.map ctlC) .full) (i64 cs.length) (s.1.getD 0 .u) s.2) (fun k => ([i64 (k : Nat)], S)) (r := (Ex.exit 3, [.u], S)) cs.length 0
    (fun k _ hk => an_L2 hz hc (by omega) hl) (by unfold F3_L2; simp)
  exact key

set_option maxHeartbeats 2000000 in
theorem an_L1 {zs : List (List Rep)} (hz : ∀ z ∈ zs, Few z) {k1 k2 : Ctl} (h1 : k1.Fit) (h2 : k2.Fit) {j n0 : Nat} (h : j < zs.length) (hl : zs.length ≤ 1000) :
    F3_L1 call n0 (.ip (ctlC k1) 0) (.ip (ctlC k2) 0) (.sl (zs.map fun z => [.sl (reps z) .none]) .full) (i64 zs.length) (i64 (j : Int)) S = some (.inl ([i64 ((j + 1 : Nat) : Int)], S)) := by
  have lp := an_L2s (S := S) (t := .none) (hz _ (List.getElem_mem h)) (cs := [k1, k2]) (by simp [h1, h2]) (n0 := n0) (t74 := i64 (j : Int)) (by simp)
  have hlt : (j : Int) < (zs.length : Int) := by omega
  have w1 : IntKind.i64.wrap ((j : Int) + 1) = ((j + 1 : Nat) : Int) := by rw [wrap_in (by unfold In64; omega)]; omega
  have hix : indexAV 1 none (.sl (zs.map fun z => [.sl (reps z) .none]) .full) (.int .i64 (j : Int)) = some (.ip [.sl (reps zs[j]) .none] 0) := by
    simp [indexAV, at_nat, h]
  have l1 : takeC (some 41) (ctlC k1) 0 = some (.agg (ctlC k1)) := by
    rw [takeC, if_pos (by rw [ctl_length h1]; omega), List.drop_zero, List.take_of_length_le (by rw [ctl_length h1]; omega)]
  have l2 : takeC (some 41) (ctlC k2) 0 = some (.agg (ctlC k2)) := by
    rw [takeC, if_pos (by rw [ctl_length h2]; omega), List.drop_zero, List.take_of_length_le (by rw [ctl_length h2]; omega)]
  have bs : bsliceV 41 [cellsOf (.agg (ctlC k1)), cellsOf (.agg (ctlC k2))] = some (.sl [ctlC k1, ctlC k2] .full) := by
    simp [bsliceV, immRows, imms_ctl, ctl_length h1, ctl_length h2]
  simp only [List.map_cons, List.map_nil, List.length_cons, List.length_nil] at lp
  unfold F3_L1
  refine bind_of (a := .bool true) (by simp [hlt]) (cond_t rfl ?_)
  refine bind_of hix (bind_of rfl ?_)
  refine bind_of (show loadV (some 41) (.ip (ctlC k1) 0) S = _ from l1) (bind_of (show loadV (some 41) (.ip (ctlC k2) 0) S = _ from l2) (bind_of bs (bind_of (a := i64 2) rfl ?_)))
  refine bind_of lp ?_
  simp only [exK_exit, Nat.beq_refl, cond_true]
  repeat (first
    | rfl
    | refine cond_t (by rfl) ?_
    | refine cond_f (by rfl) ?_
    | refine ite_of (by first | rfl | assumption) ?_
    | refine bind_of (by simp [-loadV, -storeV, -Int.natCast_add, loadV_ip, w1, nextS_same] <;> rfl) ?_)

theorem an_L1s {zs : List (List Rep)} (hz : ∀ z ∈ zs, Few z) {k1 k2 : Ctl} (h1 : k1.Fit) (h2 : k2.Fit) {n0 : Nat} (hl : zs.length ≤ 1000) :
    iter (fun s => F3_L1 call n0 (.ip (ctlC k1) 0) (.ip (ctlC k2) 0) (.sl (zs.map fun z => [.sl (reps z) .none]) .full) (i64 zs.length) (s.1.getD 0 .u) s.2) ([i64 0], S) = some (.exit 1, [.u], S) := by
  have key := iter_run (step := fun s => F3_L1 call n0 (.ip (ctlC k1) 0) (.ip (ctlC k2) 0) (.sl (zs.map fun z => [.sl (reps z) .none]) .full) (i64 zs.length) (s.1.getD 0 .u) s.2) (fun k => ([i64 (k : Nat)], S)) (r := (Ex.exit 1, [.u], S)) zs.length 0
    (fun k _ hk => an_L1 hz h1 h2 (by omega) hl) (by unfold F3_L1; simp)
  exact key

theorem an_J1 {x raw y : List Rep} (hx : Few x) (hraw : Few raw) (hy : Few y) {k1 k2 : Ctl} (h1 : k1.Fit) (h2 : k2.Fit) {v : AV} {S' : Store} (hf : freezeV v S = some (.sl (reps y) .none, S') ∨ freezeV v S = some (.sl (reps y) .full, S')) {n0 : Nat} {t : Tok} :
    ∃ S2, F3_J1 call n0 (.sl (reps raw) .none) (.ip (ctlC k1) 0) (.sl (reps x) t) (.ip (ctlC k2) 0) v S = some (.bool true, S2) := by
  have lp := an_L1s (S := S') (zs := [raw, x, y]) (by simp [hx, hraw, hy]) h1 h2 (n0 := n0) (by simp)
  have aw := s_awake S'
  refine ⟨S'.take n0, ?_⟩
  unfold F3_J1
  have fin : ∀ u : Tok, freezeV v S = some (.sl (reps y) u, S') → ((freezeV v S).bind fun v32 =>
    (bsliceV 1 [cellsOf (.sl (reps raw) .none), cellsOf (.sl (reps x) t), cellsOf v32.1]).bind fun v33 =>
    (lenV v33).bind fun v34 =>
    (iter (fun s => F3_L1 call n0 (.ip (ctlC k1) 0) (.ip (ctlC k2) 0) v33 v34 (s.1.getD 0 .u) s.2) ([(.int .i64 0)], v32.2)).bind fun r70 => exK none
      (fun i71 => bif Nat.beq i71 1 then ((argVs []).bind fun v72 => (call 10 v72 r70.2.2).bind fun v73 =>
      finish false n0 [v73.1] v73.2) else (none))
      (finish false n0 [(r70.2.1.getD 0 .u)] r70.2.2) r70.1) = some (.bool true, S'.take n0) := fun u hu => by
    refine bind_of hu ?_
    refine bind_of (a := .sl ([raw, x, y].map fun z => [.sl (reps z) .none]) .full) (by simp [bsliceV, immRows]) ?_
    refine bind_of (a := i64 3) rfl ?_
    refine bind_of lp ?_
    simp only [exK_exit, Nat.beq_refl, cond_true]
    refine bind_of (a := []) rfl (bind_of aw ?_)
    simp
  rcases hf with hf | hf
  · exact fin _ hf
  · exact fin _ hf

end
end Go.Proofs.YtlilahgndpdkfaaDoor

/-
  TimelineAnswers: the law answers true, whatever its arguments.
-/
namespace Go.Proofs.YtlilahgndpdkfaaDoor
open Go Go.Abs
set_option maxRecDepth 100000

theorem few_set {l : List Rep} (h : Few l) {k : Nat} {r : Rep} (hr : r.rd.length ≤ 1000) : Few (l.set k r) := ⟨by simpa using h.len, fun x hx => by
  rcases List.mem_or_eq_of_mem_set hx with hx | rfl
  · exact h.rd x hx
  · exact hr⟩

theorem reps_set (l : List Rep) (k : Nat) (r : Rep) : (reps l).set k (repR r) = reps (l.set k r) := by simp [reps, List.map_set]

theorem ser_few {m0 m n : Int} {l : List Rep} (h : SerOk m0 l m) (hn : (l.length : Int) ≤ n) (hn2 : n ≤ 900) : Few l := ⟨by omega, fun r hr => by
  have := (h.rep r hr).2.2.1.len
  omega⟩

set_option maxHeartbeats 4000000 in
theorem an_law {raw : List Rep} {given : Ctl} {L : List Int} (hg : given.Fit) (hL : ∀ n ∈ L, In64 n) :
    Ev (call 3 [.sl (reps raw) .none, .agg (ctlC given), .sl (ints L) .none] []) fun r => r.1 = .bool true := by
  rw [k3]
  unfold F3
  refine Ev.to (show imms (cellsOf (.agg (ctlC given))) = some (ctlC given) from imms_ctl given) ?_
  obtain ⟨b, hb, hb2⟩ := s_SmallAll (l := raw) (t := .none) (n := 20) (by omega) []
  refine Ev.to rfl (Ev.to hb (Ev.to rfl ?_))
  cases b with
  | false =>
    refine Ev.t rfl (Ev.to rfl (Ev.to (s_awake _) ?_))
    exact ⟨(.bool true, ([] : Store).take ([] : Store).length), by simp, rfl⟩
  | true =>
    obtain ⟨hr1, hr2⟩ := hb2 rfl
    have hraw : Few raw := ⟨by omega, fun r hr => by have := (hr2 r hr).2; omega⟩
    refine Ev.f rfl ?_
    obtain ⟨S1, hS1⟩ : ∃ S1 : Store, S1 = [srcE (L.take 2000) 0] := ⟨_, rfl⟩
    have hs : Sc S1 0 (L.take 2000) 0 := ⟨by rw [hS1]; simp, by omega, by simp; omega, fun n hn => hL n (List.mem_of_mem_take hn)⟩
    have hN : call 11 [.sl (ints L) .none] [] = some (.ptr 0 0, Sr S1 0 (L.take 2000) 0 []) := by
      rw [s_New, show Sr S1 0 (L.take 2000) 0 [] = S1 from Stt.self (by rw [hS1]; rfl), hS1]; rfl
    refine Ev.to rfl (Ev.to hN ?_)
    have hlen1 : S1.length = 1 := by rw [hS1]; rfl
    clear hN hS1
    generalize L.take 2000 = L' at *
    refine Ev.to rfl ?_
    refine Ev.bind ((g_Minute 0).at (by assumption)) ?_
    rintro _ ⟨v1, a1, k1, q1, rfl⟩
    try dsimp only
    obtain ⟨m, rfl, m1, m2⟩ := q1
    refine Ev.to rfl ?_
    refine Ev.bind ((g_Series (n := 10) (near := m) 0 (by omega) (by omega)).at (by assumption)) ?_
    rintro _ ⟨v2, a2, k2, q2, rfl⟩
    try dsimp only
    obtain ⟨x, m', rfl, hx1, hx2⟩ := q2
    refine Ev.to rfl ?_
    refine Ev.bind ((g_Control 0).at (by assumption)) ?_
    rintro _ ⟨v3, a3, k3, q3, rfl⟩
    try dsimp only
    obtain ⟨k, rfl, hk⟩ := q3
    refine Ev.to (show imms (cellsOf (.agg (ctlC k))) = some (ctlC k) from imms_ctl k) (Ev.ite (ctl_length hk.fit) ?_)
    have hfx : Few x := ser_few hx2 hx1 (by omega)
    have hlx : x.length ≤ 10 := by omega
    have J : ∀ (y : List Rep) (a : Nat) (es : Store) (v : AV) (S' : Store), Few y → (freezeV v (Sr S1 0 L' a es) = some (.sl (reps y) .none, S') ∨ freezeV v (Sr S1 0 L' a es) = some (.sl (reps y) .full, S')) →
        Ev (F3_J1 call ([] : Store).length (.sl (reps raw) .none) (.ip (ctlC given) 0) (.sl (reps x) .none) (.ip (ctlC k) 0) v (Sr S1 0 L' a es)) fun r => r.1 = .bool true := fun y a es v S' hy hf => by
      obtain ⟨S2, h2⟩ := an_J1 hfx hraw hy hg hk.fit hf (n0 := ([] : Store).length) (t := .none)
      exact .of h2 rfl
    refine Ev.to (a := .sl [] .full) rfl ?_
    cases hxe : x with
    | nil =>
      refine Ev.to (a := (.sl [] .full, Sr S1 0 L' a3 [])) rfl (Ev.to (a := i64 0) rfl (Ev.to (a := .bool false) rfl (Ev.f rfl ?_)))
      rw [hxe] at J
      exact J [] a3 [] _ _ ⟨by simp, by simp⟩ (.inr rfl)
    | cons x0 xr =>
      rw [← hxe]
      have hpos : 0 < x.length := by rw [hxe]; simp
      have hem : (reps x).isEmpty = false := by rw [hxe]; rfl
      have hap : appendMV 8 (.sl [] .full) (.sl (reps x) .none) (Sr S1 0 L' a3 []) = some (.osl S1.length 0 x.length 8, Sr S1 0 L' a3 [.obj (reps x).flatten]) := by
        simp only [appendMV, rowsOf_sl, Option.bind_some, immRows_self reps_row, hem, cond_false, Stt.length, Stt.app, reps_length, List.length_nil, Nat.add_zero, List.nil_append]
        rw [if_pos (by simp [room]; omega)]
      refine Ev.to hap (Ev.to (a := i64 x.length) rfl (Ev.to (a := .bool true) (by simp; omega) (Ev.t rfl ?_)))
      refine Ev.to (a := i64 x.length) rfl (Ev.to rfl ?_)
      refine Ev.bind (e_N (by assumption) (by omega) (by omega)) ?_
      rintro _ ⟨i, a4, k4, i1, i2, rfl⟩
      try dsimp only
      refine Ev.to rfl ?_
      refine Ev.bind (e_N (by assumption) (by omega) (by omega)) ?_
      rintro _ ⟨c, a5, k5, c1, c2, rfl⟩
      try dsimp only
      have hi : i.toNat < x.length := by omega
      have hix : indexAV 8 none (.osl S1.length 0 x.length 8) (i64 i) = some (.ptr S1.length (i.toNat * 8)) := by
        simp only [indexAV, i64]
        rw [if_pos ⟨i1, i2, trivial⟩, Nat.zero_add]
      have hwid : ∀ r ∈ reps x, r.length = 8 := fun r hr => (reps_row r hr).1
      have hget : ∀ (j : Nat) (hj : j < (reps x).length), (reps x)[j] = repR (x[j]'(by simpa using hj)) := fun j hj => by simp [reps]
      have hfl := flatten_length hwid
      rw [reps_length] at hfl
      -- what a change leaves
      have chg : ∀ (f : Nat) (vs : List AV) (r' : Rep), f + vs.length ≤ 8 → setC (repR x[i.toNat]) f vs = repR r' → setC (reps x).flatten (i.toNat * 8 + f) vs = (reps (x.set i.toNat r')).flatten := fun f vs r' hf he => by
        rw [setC_row i.toNat (by simpa using hi) f vs hwid hf, hget, he, reps_set]
      have frz : ∀ (a : Nat) (y : List Rep), y.length = x.length → freezeV (.osl S1.length 0 x.length 8) (Sr S1 0 L' a [.obj (reps y).flatten]) = some (.sl (reps y) .none, Sr S1 0 L' a [.dead]) := fun a y hy => by
        have hro := rowsOf_flat (S := Sr S1 0 L' a [.obj (reps y).flatten]) (i := S1.length) (sz := 8) (xs := reps y) (by rw [Stt.own0]; rfl) (fun r hr => (reps_row r hr).1)
        rw [reps_length, hy] at hro
        simp only [freezeV, hro, Option.bind_some, immRows_self reps_row, Stt.set_own0]
        rfl
      have put : ∀ (a f n : Nat) (v : AV) (vs : List AV) (r' : Rep), cells1 (cellsOf v) = some vs → (cellsOf v).length = n → vs.length = n → f + n ≤ 8 → setC (repR x[i.toNat]) f vs = repR r' →
          storeV ([] : Store).length n (.ptr S1.length (i.toNat * 8 + f)) v (Sr S1 0 L' a [.obj (reps x).flatten]) = some (Sr S1 0 L' a [.obj (reps (x.set i.toNat r')).flatten]) := fun a f n v vs r' hv hn hn2 hf he => by
        have := Stt.storeB (S := S1) (i := 0) (e := srcE L' a) (es := [.obj (reps x).flatten]) (b := ([] : Store).length) (k := 0) (o := i.toNat * 8 + f) (n := n) (v := v) (vs := vs) (by simp) rfl hv hn (by rw [hfl]; omega)
        rw [Nat.add_zero] at this
        rw [this, chg f vs r' (by omega) he]
        rfl
      refine Ev.to (a := .bool (c == 0)) rfl ?_
      refine Ev.beq (fun _ => ?_) (fun _ => ?_)
      · have hld : loadV (some 8) (.ptr S1.length (i.toNat * 8)) (Sr S1 0 L' a5 [.obj (reps x).flatten]) = some (.agg (repR x[i.toNat])) := by
          obtain ⟨g1, g2⟩ := row_at hwid i.toNat (by simpa using hi)
          rw [Stt.load0 (cs := (reps x).flatten) rfl, takeC, if_pos g2, g1, hget]
        refine Ev.to hix (Ev.to hld (Ev.to (a := [.ptr 0 0, .agg (repR x[i.toNat])]) (by simp) ?_))
        have hrd := hfx.rd _ (List.getElem_mem hi)
        refine Ev.bind ((g_Bent x[i.toNat] (by omega) 0).at (by assumption)) ?_
        rintro _ ⟨v6, a6, k6, q6, rfl⟩
        obtain ⟨r', rfl, hr'⟩ := q6
        have st := put a6 0 8 (.agg (repR r')) (repR r') r' (by simp [repR]) (by simp) (by simp) (by omega) (setC_full (by simp))
        rw [Nat.add_zero] at st
        refine Ev.to hix (Ev.to st ?_)
        have := (hx2.rep _ (List.getElem_mem hi)).2.2.1.len
        exact J _ a6 _ _ _ (few_set hfx (by omega)) (.inl (frz a6 _ (by simp)))
      · refine Ev.to (a := .bool (c == 1)) rfl ?_
        have hrd := hfx.rd _ (List.getElem_mem hi)
        refine Ev.beq (fun _ => ?_) (fun _ => ?_)
        · have hix0 : indexAV 8 none (.osl S1.length 0 x.length 8) (.int .i64 0) = some (.ptr S1.length 0) := by
            simp only [indexAV]
            rw [if_pos ⟨by omega, by omega, trivial⟩]
            rfl
          have hld : loadV none (.ptr S1.length 2) (Sr S1 0 L' a5 [.obj (reps x).flatten]) = some (i64 x0.time) := by
            rw [Stt.load0 (cs := (reps x).flatten) rfl, take_none, hxe]
            simp [reps, repR]
          have st := put a5 2 1 (i64 x0.time) [i64 x0.time] { x[i.toNat] with time := x0.time } rfl rfl rfl (by omega) rfl
          refine Ev.to hix0 (Ev.to rfl (Ev.to hld (Ev.to hix (Ev.to rfl (Ev.to st ?_)))))
          exact J (x.set i.toNat { x[i.toNat] with time := x0.time }) a5 _ _ _ (few_set hfx hrd) (.inl (frz a5 _ (by simp)))
        · have st := put a5 1 1 (.str [66, 82, 65, 86, 79]) [.str [66, 82, 65, 86, 79]] { x[i.toNat] with name := [66, 82, 65, 86, 79] } rfl rfl rfl (by omega) rfl
          refine Ev.to hix (Ev.to rfl (Ev.to st ?_))
          exact J (x.set i.toNat { x[i.toNat] with name := [66, 82, 65, 86, 79] }) a5 _ _ _ (few_set hfx hrd) (.inl (frz a5 _ (by simp)))

theorem timelineAnswers_true (xs : List AV) (h : FitsAll Tryd.prog 8 Tryd.f3.params.toList xs) : ∃ S', call 3 xs [] = some (.bool true, S') := by
  have hp : Tryd.f3.params.toList = [22, 25, 26] := by kernel_rfl
  rw [hp] at h
  obtain ⟨x1, x2, x3, rfl, h1, h2, h3⟩ := fitsAll3 h
  obtain ⟨raw, rfl, _⟩ := arg_reports h1
  obtain ⟨given, rfl, hg⟩ := arg_control h2
  obtain ⟨L, rfl, _, hL⟩ := arg_ints h3
  obtain ⟨⟨v, S'⟩, e, rfl⟩ := an_law (raw := raw) hg hL
  exact ⟨S', e⟩
end Go.Proofs.YtlilahgndpdkfaaDoor

/-
  The sorts of this program are the library's (printed by a program of this claim, off the kit's own laying).
-/
namespace Go.Proofs.YtlilahgndpdkfaaDoor
open Go.Proofs Go.Shelf
def sort37_ren : Go.Shelf.Ren := ⟨fun | 6 => 37 | 15 => 56 | 14 => 55 | 28 => 76 | 29 => 77 | 20 => 68 | 21 => 69 | 22 => 70 | 23 => 71 | 24 => 72 | 25 => 73 | 26 => 74 | 27 => 75 | 46 => 92 | 47 => 93 | 48 => 94 | 49 => 95 | 50 => 96 | 57 => 101 | n => n, fun | 22 => 43 | 24 => 51 | 25 => 84 | 3 => 3 | 39 => 110 | 0 => 0 | 53 => 130 | 55 => 132 | 4 => 4 | 46 => 124 | 45 => 123 | 50 => 58 | 5 => 5 | 9 => 9 | 66 => 144 | 70 => 148 | 76 => 156 | 77 => 157 | n => n, fun | n => n⟩
theorem sort37 : Go.Proofs.SlLaysF0.n6 Tryd.prog sort37_ren := {
   mixed := by kernel_rfl,
    f6 := ⟨Tryd.f37.name, by decide, Tryd.func37.trans (congrArg some (by kernel_rfl))⟩,
    f14 := ⟨Tryd.f55.name, by decide, Tryd.func55.trans (congrArg some (by kernel_rfl))⟩,
    f15 := Tryd.func56.trans (congrArg some (by kernel_rfl)),
    f20 := ⟨Tryd.f68.name, by decide, Tryd.func68.trans (congrArg some (by kernel_rfl))⟩,
    f21 := ⟨Tryd.f69.name, by decide, Tryd.func69.trans (congrArg some (by kernel_rfl))⟩,
    f22 := ⟨Tryd.f70.name, by decide, Tryd.func70.trans (congrArg some (by kernel_rfl))⟩,
    f23 := ⟨Tryd.f71.name, by decide, Tryd.func71.trans (congrArg some (by kernel_rfl))⟩,
    f24 := ⟨Tryd.f72.name, by decide, Tryd.func72.trans (congrArg some (by kernel_rfl))⟩,
    f25 := ⟨Tryd.f73.name, by decide, Tryd.func73.trans (congrArg some (by kernel_rfl))⟩,
    f26 := ⟨Tryd.f74.name, by decide, Tryd.func74.trans (congrArg some (by kernel_rfl))⟩,
    f27 := ⟨Tryd.f75.name, by decide, Tryd.func75.trans (congrArg some (by kernel_rfl))⟩,
    f28 := Tryd.func76.trans (congrArg some (by kernel_rfl)),
    f29 := Tryd.func77.trans (congrArg some (by kernel_rfl)),
    f46 := ⟨Tryd.f92.name, by decide, Tryd.func92.trans (congrArg some (by kernel_rfl))⟩,
    f47 := Tryd.func93.trans (congrArg some (by kernel_rfl)),
    f48 := Tryd.func94.trans (congrArg some (by kernel_rfl)),
    f49 := ⟨Tryd.f95.name, by decide, Tryd.func95.trans (congrArg some (by kernel_rfl))⟩,
    f50 := ⟨Tryd.f96.name, by decide, Tryd.func96.trans (congrArg some (by kernel_rfl))⟩,
    f57 := ⟨Tryd.f101.name, by decide, Tryd.func101.trans (congrArg some (by kernel_rfl))⟩,
    t0 := Tryd.underlying0,
    a0 := Tryd.isAgg0,
    z0 := Tryd.sizeOf0,
    v0 := Tryd.zeroValue0,
    t3 := Tryd.underlying3,
    a3 := Tryd.isAgg3,
    z3 := Tryd.sizeOf3,
    v3 := Tryd.zeroValue3,
    t4 := Tryd.underlying4,
    a4 := Tryd.isAgg4,
    z4 := Tryd.sizeOf4,
    v4 := Tryd.zeroValue4,
    t5 := Tryd.underlying5,
    a5 := Tryd.isAgg5,
    z5 := Tryd.sizeOf5,
    v5 := Tryd.zeroValue5,
    t9 := Tryd.underlying9,
    a9 := Tryd.isAgg9,
    z9 := Tryd.sizeOf9,
    v9 := Tryd.zeroValue9,
    t22 := Tryd.underlying43,
    a22 := Tryd.isAgg43,
    z22 := Tryd.sizeOf43,
    v22 := Tryd.zeroValue43,
    t25 := Tryd.underlying84,
    a25 := Tryd.isAgg84,
    z25 := Tryd.sizeOf84,
    v25 := Tryd.zeroValue84,
    t39 := Tryd.underlying110,
    a39 := Tryd.isAgg110,
    z39 := Tryd.sizeOf110,
    v39 := Tryd.zeroValue110,
    t45 := Tryd.underlying123,
    a45 := Tryd.isAgg123,
    z45 := Tryd.sizeOf123,
    v45 := Tryd.zeroValue123,
    t46 := Tryd.underlying124,
    a46 := Tryd.isAgg124,
    z46 := Tryd.sizeOf124,
    v46 := Tryd.zeroValue124,
    t50 := Tryd.underlying58,
    a50 := Tryd.isAgg58,
    z50 := Tryd.sizeOf58,
    v50 := Tryd.zeroValue58,
    t53 := Tryd.underlying130,
    a53 := Tryd.isAgg130,
    z53 := Tryd.sizeOf130,
    v53 := Tryd.zeroValue130,
    t55 := Tryd.underlying132,
    a55 := Tryd.isAgg132,
    z55 := Tryd.sizeOf132,
    v55 := Tryd.zeroValue132,
    t66 := Tryd.underlying144,
    a66 := Tryd.isAgg144,
    z66 := Tryd.sizeOf144,
    v66 := Tryd.zeroValue144,
    t70 := Tryd.underlying148,
    a70 := Tryd.isAgg148,
    z70 := Tryd.sizeOf148,
    v70 := Tryd.zeroValue148,
    t76 := Tryd.underlying156,
    a76 := Tryd.isAgg156,
    z76 := Tryd.sizeOf156,
    v76 := Tryd.zeroValue156,
    t77 := Tryd.underlying157,
    a77 := Tryd.isAgg157,
    z77 := Tryd.sizeOf157,
    v77 := Tryd.zeroValue157
 }
def sort51_ren : Go.Shelf.Ren := ⟨fun | 6 => 51 | 15 => 56 | 14 => 67 | 28 => 76 | 29 => 77 | 20 => 84 | 21 => 85 | 22 => 86 | 23 => 87 | 24 => 88 | 25 => 89 | 26 => 90 | 27 => 91 | 46 => 98 | 47 => 93 | 48 => 94 | 49 => 99 | 50 => 100 | 57 => 102 | n => n, fun | 22 => 76 | 24 => 80 | 25 => 106 | 3 => 3 | 39 => 110 | 0 => 0 | 53 => 130 | 55 => 132 | 4 => 4 | 46 => 124 | 45 => 123 | 50 => 58 | 5 => 5 | 9 => 9 | 66 => 144 | 70 => 148 | 76 => 156 | 77 => 157 | n => n, fun | n => n⟩
theorem sort51 : Go.Proofs.SlLaysF0.n6 Tryd.prog sort51_ren := {
   mixed := by kernel_rfl,
    f6 := ⟨Tryd.f51.name, by decide, Tryd.func51.trans (congrArg some (by kernel_rfl))⟩,
    f14 := ⟨Tryd.f67.name, by decide, Tryd.func67.trans (congrArg some (by kernel_rfl))⟩,
    f15 := Tryd.func56.trans (congrArg some (by kernel_rfl)),
    f20 := ⟨Tryd.f84.name, by decide, Tryd.func84.trans (congrArg some (by kernel_rfl))⟩,
    f21 := ⟨Tryd.f85.name, by decide, Tryd.func85.trans (congrArg some (by kernel_rfl))⟩,
    f22 := ⟨Tryd.f86.name, by decide, Tryd.func86.trans (congrArg some (by kernel_rfl))⟩,
    f23 := ⟨Tryd.f87.name, by decide, Tryd.func87.trans (congrArg some (by kernel_rfl))⟩,
    f24 := ⟨Tryd.f88.name, by decide, Tryd.func88.trans (congrArg some (by kernel_rfl))⟩,
    f25 := ⟨Tryd.f89.name, by decide, Tryd.func89.trans (congrArg some (by kernel_rfl))⟩,
    f26 := ⟨Tryd.f90.name, by decide, Tryd.func90.trans (congrArg some (by kernel_rfl))⟩,
    f27 := ⟨Tryd.f91.name, by decide, Tryd.func91.trans (congrArg some (by kernel_rfl))⟩,
    f28 := Tryd.func76.trans (congrArg some (by kernel_rfl)),
    f29 := Tryd.func77.trans (congrArg some (by kernel_rfl)),
    f46 := ⟨Tryd.f98.name, by decide, Tryd.func98.trans (congrArg some (by kernel_rfl))⟩,
    f47 := Tryd.func93.trans (congrArg some (by kernel_rfl)),
    f48 := Tryd.func94.trans (congrArg some (by kernel_rfl)),
    f49 := ⟨Tryd.f99.name, by decide, Tryd.func99.trans (congrArg some (by kernel_rfl))⟩,
    f50 := ⟨Tryd.f100.name, by decide, Tryd.func100.trans (congrArg some (by kernel_rfl))⟩,
    f57 := ⟨Tryd.f102.name, by decide, Tryd.func102.trans (congrArg some (by kernel_rfl))⟩,
    t0 := Tryd.underlying0,
    a0 := Tryd.isAgg0,
    z0 := Tryd.sizeOf0,
    v0 := Tryd.zeroValue0,
    t3 := Tryd.underlying3,
    a3 := Tryd.isAgg3,
    z3 := Tryd.sizeOf3,
    v3 := Tryd.zeroValue3,
    t4 := Tryd.underlying4,
    a4 := Tryd.isAgg4,
    z4 := Tryd.sizeOf4,
    v4 := Tryd.zeroValue4,
    t5 := Tryd.underlying5,
    a5 := Tryd.isAgg5,
    z5 := Tryd.sizeOf5,
    v5 := Tryd.zeroValue5,
    t9 := Tryd.underlying9,
    a9 := Tryd.isAgg9,
    z9 := Tryd.sizeOf9,
    v9 := Tryd.zeroValue9,
    t22 := Tryd.underlying76,
    a22 := Tryd.isAgg76,
    z22 := Tryd.sizeOf76,
    v22 := Tryd.zeroValue76,
    t25 := Tryd.underlying106,
    a25 := Tryd.isAgg106,
    z25 := Tryd.sizeOf106,
    v25 := Tryd.zeroValue106,
    t39 := Tryd.underlying110,
    a39 := Tryd.isAgg110,
    z39 := Tryd.sizeOf110,
    v39 := Tryd.zeroValue110,
    t45 := Tryd.underlying123,
    a45 := Tryd.isAgg123,
    z45 := Tryd.sizeOf123,
    v45 := Tryd.zeroValue123,
    t46 := Tryd.underlying124,
    a46 := Tryd.isAgg124,
    z46 := Tryd.sizeOf124,
    v46 := Tryd.zeroValue124,
    t50 := Tryd.underlying58,
    a50 := Tryd.isAgg58,
    z50 := Tryd.sizeOf58,
    v50 := Tryd.zeroValue58,
    t53 := Tryd.underlying130,
    a53 := Tryd.isAgg130,
    z53 := Tryd.sizeOf130,
    v53 := Tryd.zeroValue130,
    t55 := Tryd.underlying132,
    a55 := Tryd.isAgg132,
    z55 := Tryd.sizeOf132,
    v55 := Tryd.zeroValue132,
    t66 := Tryd.underlying144,
    a66 := Tryd.isAgg144,
    z66 := Tryd.sizeOf144,
    v66 := Tryd.zeroValue144,
    t70 := Tryd.underlying148,
    a70 := Tryd.isAgg148,
    z70 := Tryd.sizeOf148,
    v70 := Tryd.zeroValue148,
    t76 := Tryd.underlying156,
    a76 := Tryd.isAgg156,
    z76 := Tryd.sizeOf156,
    v76 := Tryd.zeroValue156,
    t77 := Tryd.underlying157,
    a77 := Tryd.isAgg157,
    z77 := Tryd.sizeOf157,
    v77 := Tryd.zeroValue157
  }
end Go.Proofs.YtlilahgndpdkfaaDoor

/-
  A law of plain data: what its abstract reading answers is what its row says.
-/
namespace Go.Abs
open Go Go.RowKit Go.ChangeShapes Go.WideShapes

section
variable {H : Type} {enc : TypeId × Value → H} {W : World}

theorem sat0 (W : World) : Sat ⟨W, memOf W⟩ ⟨memOf W, fun _ => 0, fun _ => undef, fun _ => 0⟩ 0 [] W :=
  ⟨Below.refl _ _, MLe.refl _, fun _ _ _ h => h, fun i e h => by simp at h, fun i j blk h => by simp [Acts] at h, fun i blk h => by simp [Acts] at h, fun i e h => by simp at h⟩

theorem args_read {P : Program} {n base : Nat} : ∀ {ts : List TypeId} {vs : List Value} {ds : List (DataW H)} {p : List MemPlace} , (∀ t ∈ ts, plainT P n t = true) →
    (∀ (j : Nat) t v, ts[j]? = some t → vs[j]? = some v → Value.okWide P W .any base t v) → DataW.TrodAll enc P W 0 (fun _ => true) true ts vs ds p →
    ∃ as_ : List AV, vs.length = as_.length ∧ (∀ j (h : j < as_.length), V2 ⟨memOf W, fun _ => 0, fun _ => undef, fun _ => 0⟩ [] (vs.getD j undef) (as_[j])) ∧ (∀ j (h : j < as_.length), below 0 (as_[j]) = true) ∧ FitsAll P n ts as_
  | [], vs, ds, p, _, _, h => by
    obtain ⟨rfl, rfl, rfl⟩ := trodAll_nil h
    exact ⟨[], rfl, fun j hj => by simp at hj, fun j hj => by simp at hj, trivial⟩
  | t :: ts, vs, ds, p, hp, ho, h => by
    obtain ⟨v, vs1, d, ds1, a, b, rfl, rfl, rfl, h1, h2⟩ := trodAll_cons h
    obtain ⟨x, x1, x2, x3⟩ := arg_ok (hp t (by simp)) (ho 0 t v rfl rfl) h1
    obtain ⟨as_, y1, y2, y3, y4⟩ := args_read (fun t ht => hp t (by simp [ht])) (fun j t v h3 h4 => ho (j + 1) t v (by simpa using h3) (by simpa using h4)) h2
    refine ⟨x :: as_, by simp [y1], fun j hj => ?_, fun j hj => ?_, x3, y4⟩
    · cases j with
      | zero => exact x1
      | succ j => simpa using y2 j (by simpa using hj)
    · cases j with
      | zero => exact x2
      | succ j => simpa using y3 j (by simpa using hj)

theorem trodAll_stays {P : Program} (hl : laidOutB P = true) {W' : World} {sp' : Nat → Bool} (hb : Go.RowKit.Below W.heap.size W W') : ∀ {ts : List TypeId} {vs : List Value} {ds : List (DataW H)} {p : List MemPlace}, (∀ t ∈ ts, P.readableRec t = true ∧ t < P.types.size) →
    (∀ x ∈ p, x.block < W.heap.size) → (∀ x ∈ p, sp' x.block = true) → DataW.TrodAll enc P W 0 (fun _ => true) true ts vs ds p → DataW.TrodAll enc P W' 0 sp' true ts vs ds p
  | [], vs, ds, p, _, _, _, h => by
    obtain ⟨rfl, rfl, rfl⟩ := trodAll_nil h
    exact rfl
  | t :: ts, vs, ds, p, hp, hlt, hsp, h => by
    obtain ⟨v, vs1, d, ds1, a, b, rfl, rfl, rfl, h1, h2⟩ := trodAll_cons h
    exact ⟨a, b, WideElems.Trod_stays hl (hp t (by simp)).1 (hp t (by simp)).2 h1 (fun x hx => hb.same (hlt x (by simp [hx]))) (fun x hx => hsp x (by simp [hx])),
      trodAll_stays hl hb (fun t ht => hp t (by simp [ht])) (fun x hx => hlt x (by simp [hx])) (fun x hx => hsp x (by simp [hx])) h2, rfl⟩

/-- A table that the row lists. -/
theorem glob_of_laid {T : Tabs} {n : String} {d : DataW Unit} {g : Nat} {t : TypeId} (hn : T.P.globalNamed n = some g) (ht : (T.P.globals[g]?).map (·.type) = some t) (hp : plainT T.P 8 t = true) (hd : d.handleName?.isSome = false)
    (h : laidMetH T.P [(n, d)] W) (hT : ∀ k cs, T.glob k = some cs → k = g ∧ cs = cellsD d) : GlobOK T ⟨W, memOf W⟩ := by
  intro k cs hk
  obtain ⟨rfl, rfl⟩ := hT k cs hk
  have h' : laidMet T.P [(n, d)] W := by
    unfold laidMetH at h
    simpa [hd] using h
  obtain ⟨ps, ⟨g', t', cs, fuel, p, q, h1, h2, h3, h4, _⟩, _⟩ := h'
  rw [hn] at h1; cases h1
  rw [ht] at h2; cases h2
  obtain ⟨k1, _⟩ := trod_cells 8 hp h4
  refine k1.row fun j hj => ?_
  unfold World.var? at h3
  rw [hn] at h3
  simp only [Option.bind_some] at h3
  split at h3
  · rename_i c ty fz hc
    cases h3
    show W.cell? _ = _
    simp [World.cell?, hc]
  · cases h3

/-- ████ A law: true, and its arguments read as_ before. -/
theorem law_calls {Y : Prg} {f : FuncId} {fn : Func} {s : ChangeSpec} {args : Array Value} {ds gs : List (DataW H)} {before : List MemPlace} {fresh handsOn again : Bool} {tb : TypeId} {base : Nat}
    (he : Enters Y.T.P) (hm : Y.T.P.follows .mixedOrders = true) (ho : OverOK Y ⟨W, memOf W⟩) (hg : GlobOK Y.T ⟨W, memOf W⟩) (hlay : laidOutB Y.T.P = true)
    (hparB : (fn.params.toList.all fun t => plainT Y.T.P 8 t && Y.T.P.readableRec t && decide (t < Y.T.P.types.size)) = true) (hret : fn.resultTypes = #[tb]) (htb : Y.T.P.underlying tb = some .bool) (hvars : s.vars = [])
    (hval : ∀ (j : Nat) t v, fn.params[j]? = some t → args[j]? = some v → Value.okWide Y.T.P W .any base t v)
    (hW : DataW.Whole enc Y.T.P fn.params.toList s.vars false W args.toList ds gs before)
    (hspec : ∀ ds : List (DataW H), ds.length = fn.params.size → s.fn H ds = { results := [.lit (.bool true)], args := ds })
    (hcall : ∀ as_ : List AV, FitsAll Y.T.P 8 fn.params.toList as_ → ∃ S', Y.call f as_ [] = some (.bool true, S')) :
    Calls Y.T.P f args W fun e W' => ∃ v, e = .returned v ∧ s.post enc Y.T.P fn false fresh handsOn again W args v W' := by
  have hpar : ∀ t ∈ fn.params.toList, plainT Y.T.P 8 t = true ∧ Y.T.P.readableRec t = true ∧ t < Y.T.P.types.size := fun t ht => by
    have := List.all_eq_true.1 hparB t ht
    simp only [Bool.and_eq_true, decide_eq_true_eq] at this
    exact ⟨this.1.1, this.1.2, this.2⟩
  have hW' := hW
  obtain ⟨p, q, hA, hV, rfl, hfz, hnd⟩ := hW
  rw [hvars] at hV
  obtain ⟨rfl, rfl⟩ : gs = [] ∧ q = [] := by
    cases gs with
    | nil => exact ⟨rfl, hV⟩
    | cons _ _ => exact hV.elim
  obtain ⟨as_, a1, a2, a3, a4⟩ := args_read (fun t ht => (hpar t ht).1) (fun j t v h1 h2 => hval j t v (by simpa using h1) (by simpa using h2)) hA
  obtain ⟨S', hc⟩ := hcall as_ a4
  obtain ⟨_, hC⟩ := contract_call hg he hm ho f as_ [] _ _ hc
  have hds : ds.length = fn.params.size := by
    have : ∀ {ts : List TypeId} {vs : List Value} {ds : List (DataW H)} {p : List MemPlace}, DataW.TrodAll enc Y.T.P W 0 (fun _ => true) true ts vs ds p → ds.length = ts.length := by
      intro ts
      induction ts with
      | nil => intro vs ds p h; obtain ⟨_, rfl, _⟩ := trodAll_nil h; rfl
      | cons t ts ih => intro vs ds p h; obtain ⟨_, _, _, _, _, _, _, rfl, _, _, h2⟩ := trodAll_cons h; simp [ih h2]
    simpa using this hA
  refine (hC _ W args (sat0 W) ⟨by simpa using a1, fun j hj => ?_, a3⟩).mono fun e w' ⟨v, he', G', hE, hK, hS, hv, _⟩ => ?_
  · have := a2 j hj
    rwa [List.getD_eq_getElem?_getD, Array.getElem?_toList, ← Array.getD_eq_getD_getElem?] at this
  · refine ⟨v, he', ?_⟩
    have hvb : v = .bool true := by
      cases hv with
      | one h => cases h with | v0 h => cases h; rfl
    subst hvb
    have hB : Go.RowKit.Below W.heap.size W w' := hS.below.old
    have hlt : ∀ x ∈ p, x.block < W.heap.size := fun x hx => hW'.lt x (by simpa using hx)
    have hsp := hspec ds hds
    have htb' : Value.resultList fn.resultTypes.size (.bool true) = [.bool true] := by rw [hret]; rfl
    have hres : ∀ (b : Nat) (sp : Nat → Bool) (hd : Bool), DataW.TrodAll enc Y.T.P w' b sp hd fn.resultTypes.toList (Value.resultList fn.resultTypes.size (.bool true)) [.lit (.bool true)] [] := by
      intro b sp hd
      rw [htb', hret]
      exact trodAll_cons_mk (shut_bool htb _) trodAll_mk0
    have hargs : ∀ sp : Nat → Bool, (∀ x ∈ p, sp x.block = true) → DataW.TrodAll enc Y.T.P w' 0 sp true fn.params.toList args.toList ds p := fun sp hs => trodAll_stays hlay hB (fun t ht => (hpar t ht).2) hlt hs hA
    refine ⟨ds, [], p ++ [], [], p, [], by simpa using hW', ?_, ?_, ?_, hB.frame _, fun _ => ⟨?_, [.lit (.bool true)] ++ ds, [], ([] ++ p) ++ [], ⟨[] ++ p, [], trodAll_append (hargs _ (fun _ _ => rfl)) (hres _ _ _), ?_, rfl, ?_, ?_⟩, ?_⟩⟩
    · simp only [List.append_nil]; rw [hsp]; exact hres _ _ _
    · simp only [List.append_nil]; rw [hsp]; exact hargs _ fun x hx => by simpa using hlt x hx
    · simp only [List.append_nil]; rw [hsp, hvars]; exact rfl
    · intro j t r h1 h2
      rw [htb'] at h2
      rw [hret] at h1
      cases j with
      | succ j => simp at h1
      | zero =>
        simp only [List.size_toArray, List.length_cons, List.length_nil, Nat.zero_add, Nat.lt_add_one, getElem?_pos, List.getElem_toArray, List.getElem_cons_zero, Option.some.injEq, List.getElem?_cons_zero] at h1 h2
        subst h1 h2
        exact okWide_bool_mk htb _
    · rw [hvars]; exact rfl
    · intro b off hx
      simp only [List.nil_append, List.append_nil] at hx
      rw [hB.frozen (p := ⟨b, off, none⟩) (hlt _ hx)]
      exact hfz b off (by simpa using hx)
    · intro h; cases h
    · intro x hx _
      simpa using hx
end
end Go.Abs

/-
  slices.SortFunc, by the library's contract, does what its reading says.
-/
namespace Go.Abs
open Go Go.RowKit Go.Shelf Go.Proofs

section
variable {Y : Prg} {X : Ctx} {ρ : Ren}

/-- A row's numbers, as_ the library's contract takes them. -/
def nrm (φ : Int → Int) (sz : Nat) (l : List Int) : List Int := (List.range sz).map fun i => φ (l.getD i 0)

def encI (φ : Int → Int) (sz : Nat) (l : List Int) : List Value := (nrm φ sz l).map fun n => .int .i64 n

theorem nrm_length {φ : Int → Int} {sz : Nat} (l : List Int) : (nrm φ sz l).length = sz := by simp [nrm]

theorem nrm_eq {φ : Int → Int} {sz : Nat} {l : List Int} (hl : l.length = sz) (h : ∀ n ∈ l, φ n = n) : nrm φ sz l = l := by
  apply List.ext_getElem (by simp [nrm, hl])
  intro i h1 h2
  simp only [nrm, List.getElem_map, List.getElem_range]
  rw [List.getD_eq_getElem?_getD, List.getElem?_eq_getElem h2, Option.getD_some]
  exact h _ (List.getElem_mem h2)

theorem V2.int_eq {G : Gst} {S : Store} {v : Value} {k : IntKind} {n : Int} (h : V2 G S v (.int k n)) : v = .int k n := by
  cases h with
  | one h => cases h with | v0 h => cases h; rfl

theorem agg_ints {M : Mem} {l : List Int} {cs : Array Value} (h : cs.toList = l.map fun n => Value.int .i64 n) : V2 ⟨M, fun _ => 0, fun _ => undef, fun _ => 0⟩ [] (.agg cs) (.agg (l.map fun n => AV.int .i64 n)) := by
  have hs : cs.size = l.length := by rw [← Array.length_toList, h, List.length_map]
  refine .agg _ _ (by simpa using hs) fun j hj => .v0 ?_
  have hj' : j < l.length := by simpa using hj
  have : cs.getD j undef = .int .i64 (l[j]) := by
    rw [Array.getD_eq_getD_getElem?, ← Array.getElem?_toList, h]
    simp [hj']
  rw [this, List.getElem_map]
  exact .int _ _

theorem agg_below {l : List Int} : below 0 (.agg (l.map fun n => AV.int .i64 n)) = true := by
  rw [below_agg_eq]
  exact belows_of_get fun j hj => by simp [below]

theorem args2_ok {G : Gst} {S : Store} {v1 v2 : Value} {a1 a2 : AV} (h1 : V2 G S v1 a1) (h2 : V2 G S v2 a2) (b1 : below S.length a1 = true) (b2 : below S.length a2 = true) : ArgsOK G S #[v1, v2] [a1, a2] :=
  ⟨rfl, fun j hj => match j, hj with | 0, _ => h1 | 1, _ => h2, fun j hj => match j, hj with | 0, _ => b1 | 1, _ => b2⟩

/-- The closure, called by the sort. -/
theorem cmp_lays {C : CallEnv} {φ : Int → Int} {sz g blk off size : Nat} {cf : List Int → List Int → Int} {w : World}
    (hC : ∀ W' : World, MLe X.M0 (memOf W') → Contract Y.T ⟨W', memOf W'⟩ C) (hclo : ∀ a b : List Int, ∃ S1, C g [.agg ((nrm φ sz a).map fun n => AV.int .i64 n), .agg ((nrm φ sz b).map fun n => AV.int .i64 n)] [] = some (i64 (cf a b), S1))
    (hM : ∀ m os (dk : Array (List Int)), dk.size = size → MLe X.M0 (memOf (sortWorldK (encI φ sz) sz w blk off m dk os))) : CmpLays Y.T.P g #[] (encI φ sz) sz cf blk off size w := by
  intro m os dk hd x y
  obtain ⟨S1, h⟩ := hclo x y
  have hm := hM m os dk hd
  generalize sortWorldK (encI φ sz) sz w blk off m dk os = W' at hm ⊢
  obtain ⟨_, h2⟩ := hC W' hm g _ [] _ _ h
  have h3 := h2 _ W' #[.agg (encI φ sz x).toArray, .agg (encI φ sz y).toArray] (sat0 W') (args2_ok (agg_ints (by simp [encI])) (agg_ints (by simp [encI])) agg_below agg_below)
  refine Calls.mono (args := #[.agg (encI φ sz x).toArray, .agg (encI φ sz y).toArray]) h3 fun e w' ⟨v, he, G', _, _, hS, hv, _⟩ => ?_
  exact ⟨by rw [he, hv.int_eq], hS.below.grow⟩

theorem int_of_V1 {G : Gst} {S : Store} {v : Value} {n : Int} (h : V1 G S v (.int .i64 n)) : v = .int .i64 n := by
  cases h with | v0 h => cases h; rfl

theorem heap_putRow {w : World} {blk off : Nat} {F arr : Array Value} {ty : Nat} {fz : Nat × Nat} (h : w.heap[blk]? = some (.cells arr ty fz)) :
    (Go.Sort.putRow id w blk off F).heap[blk]? = some (.cells (Go.Sort.putCells id off F arr) ty fz) ∧ ∀ k, k ≠ blk → (Go.Sort.putRow id w blk off F).heap[k]? = w.heap[k]? := by
  unfold Go.Sort.putRow Go.Sort.mapBlock
  simp only [Array.getElem?_modify]
  refine ⟨by simp [h, Go.Sort.onCells], fun k hk => by rw [if_neg (fun h => hk h.symm)]⟩

theorem flatI_get {sz : Nat} {rows : List (List Int)} (hw : ∀ r ∈ rows, r.length = sz) {t : Nat} (h : t < rows.length * sz) : ∃ r, rows[t / sz]? = some r ∧ ∃ n, r[t % sz]? = some n ∧ (rows.map fun r => r.map fun n => AV.int .i64 n).flatten[t]? = some (.int .i64 n) := by
  have h0 : 0 < sz := by rcases Nat.eq_zero_or_pos sz with h' | h'; · subst h'; simp at h
                         · exact h'
  have hq : t / sz < rows.length := by rw [Nat.div_lt_iff_lt_mul h0]; exact h
  have hr := Nat.mod_lt t h0
  have hl := hw rows[t / sz] (List.getElem_mem hq)
  refine ⟨rows[t / sz], List.getElem?_eq_getElem hq, (rows[t / sz])[t % sz], List.getElem?_eq_getElem (by omega), ?_⟩
  have hall : ∀ x ∈ rows.map (fun r => r.map fun n => AV.int .i64 n), x.length = sz := by
    intro x hx
    obtain ⟨r, hr, rfl⟩ := List.mem_map.1 hx
    simpa using hw r hr
  obtain ⟨hj', he'⟩ := flat_row (i := t / sz) (cs := (rows[t / sz]).map fun n => AV.int .i64 n) hall (by simp [hq]) (t % sz) (by simpa [hl] using hr)
  have ht : t / sz * sz + t % sz = t := by rw [Nat.mul_comm]; exact Nat.div_add_mod t sz
  simp only [ht] at hj' he'
  rw [List.getElem?_eq_getElem hj', he']
  simp

theorem ltOf_swo {φ : Int → Int} {sz : Nat} {ks : List Nat} {cf : List Int → List Int → Int} (h : ∀ a b, decide (cf a b < 0) = ltK (keyOf ks (nrm φ sz a)) (keyOf ks (nrm φ sz b))) : Go.Sort.SWO (ltOf cf) where
  irrefl x := by unfold ltOf; rw [h]; exact ltK_irrefl _
  trans x y z h1 h2 := by unfold ltOf at *; rw [h] at *; exact ltK_trans h1 h2
  ntrans x y z h1 h2 := by unfold ltOf at *; rw [h] at *; exact ltK_ntrans (by simp [keyOf_length]) (by simp [keyOf_length]) h1 h2

theorem getD_arr {arr : Array Value} {j : Nat} (h : j < arr.size) : arr.getD j undef = arr[j] := by
  rw [Array.getD_eq_getD_getElem?, Array.getElem?_eq_getElem h]; rfl

theorem enc_get {φ : Int → Int} {sz : Nat} {l : List Int} (hl : l.length = sz) (hφ : ∀ n ∈ l, φ n = n) {r : Nat} {n : Int} (h : l[r]? = some n) : (encI φ sz l)[r]! = .int .i64 n := by
  unfold encI
  rw [nrm_eq hl hφ]
  simp [List.getElem!_eq_getElem?_getD, h]

/-- The cells of the entry hold the row. -/
theorem holds_row {φ : Int → Int} {sz blk o : Nat} {rows : List (List Int)} {G : Gst} {S : Store} {w : World} {arr : Array Value} {ty : Nat} {fz : Nat × Nat} {cs : List AV} (hw : ∀ r ∈ rows, r.length = sz) (hφ : ∀ r ∈ rows, ∀ n ∈ r, φ n = n)
    (ha : w.heap[blk]? = some (.cells arr ty fz)) (hfz : ∀ o, o < arr.size → ¬ (fz.1 ≤ o ∧ o < fz.2)) (hsz : cs.length ≤ arr.size) (_ : o + rows.length * sz ≤ cs.length) (hv : ∀ j (h : j < cs.length), V1 G S (arr.getD j undef) (cs[j]))
    (hcs : (cs.drop o).take (rows.length * sz) = (rows.map fun r => r.map fun n => AV.int .i64 n).flatten) : Go.Sort.HoldsK (encI φ sz) sz w blk o rows.toArray := by
  intro t ht
  rw [Go.Sort.size_flatK] at ht
  rw [Go.Sort.get_flatK _ _ _ _ ht]
  simp only [List.size_toArray] at ht
  obtain ⟨r, h1, n, h2, h3⟩ := flatI_get hw ht
  rw [← hcs, List.getElem?_take, if_pos ht, List.getElem?_drop] at h3
  have hlt : o + t < cs.length := (List.getElem?_eq_some_iff.1 h3).1
  have hmem : r ∈ rows := List.mem_of_getElem? h1
  have hv' := hv (o + t) hlt
  have : cs[o + t] = .int .i64 n := by rw [List.getElem?_eq_getElem hlt] at h3; exact Option.some.inj h3
  rw [this, getD_arr (by omega)] at hv'
  have e1 : (rows.toArray)[t / sz]! = r := by simp [getElem!_def, h1]
  rw [e1, enc_get (hw r hmem) (hφ r hmem) h2]
  refine ⟨?_, ?_⟩
  · simp only [World.cell?, ha, Option.isSome_none, Bool.false_eq_true, if_false]
    rw [Array.getElem?_eq_getElem (by omega), int_of_V1 hv']
    rfl
  · have := hfz (o + t) (by omega)
    simp only [World.frozen?, ha, Bool.and_eq_false_iff, decide_eq_false_iff_not]
    omega

theorem flat_list {φ : Int → Int} {sz : Nat} {rows : List (List Int)} (hw : ∀ r ∈ rows, r.length = sz) (hφ : ∀ r ∈ rows, ∀ n ∈ r, φ n = n) :
    (Go.Sort.flatK (encI φ sz) sz rows.toArray).size = (rows.map fun r => r.map fun n => AV.int .i64 n).flatten.length ∧
    ∀ j (h : j < (rows.map fun r => r.map fun n => AV.int .i64 n).flatten.length) (M : Mem), V0 M ((Go.Sort.flatK (encI φ sz) sz rows.toArray).toList.getD j undef) ((rows.map fun r => r.map fun n => AV.int .i64 n).flatten[j]) := by
  have hl : (rows.map fun r => r.map fun n => AV.int .i64 n).flatten.length = rows.length * sz := by
    rw [flat_len (sz := sz) (by intro x hx; obtain ⟨r, hr, rfl⟩ := List.mem_map.1 hx; simpa using hw r hr)]
    simp
  refine ⟨by rw [hl]; simp, fun j hj M => ?_⟩
  have hj' : j < rows.length * sz := by omega
  obtain ⟨r, h1, n, h2, h3⟩ := flatI_get hw hj'
  have hmem : r ∈ rows := List.mem_of_getElem? h1
  rw [List.getElem?_eq_getElem hj] at h3
  have e3 := Option.some.inj h3
  rw [e3]
  have hjs : j < (Go.Sort.flatK (encI φ sz) sz rows.toArray).size := by simpa using hj'
  have e1 : (rows.toArray)[j / sz]! = r := by simp [getElem!_def, h1]
  have := Go.Sort.get_flatK (encI φ sz) sz rows.toArray j (by simpa using hj')
  rw [getElem!_pos _ j hjs, e1, enc_get (hw r hmem) (hφ r hmem) h2] at this
  rw [List.getD_eq_getElem?_getD, Array.getElem?_toList, Array.getElem?_eq_getElem hjs, this]
  exact .int _ _

/-- ████ The sort. -/
theorem sort_ok (L : SlLaysF0.n6 Y.T.P ρ) {C : CallEnv} {φ : Int → Int} {sz : Nat} (hsz1 : 1 ≤ sz) {ks : List Nat} {f g : Nat} {cf : List Int → List Int → Int} (hf : ρ.f 6 = f) (he : Enters Y.T.P) (hg : GlobOK Y.T X)
    (aE : ∀ w, (isAgg (ρ.t 24)).run Y.T.P w = .ok true w) (zE : ∀ w, (Go.sizeOf (ρ.t 24)).run Y.T.P w = .ok sz w) (hff : ∃ fn, Y.T.P.funcs[f]? = some fn ∧ fn.body.isSome = true)
    (hC : ∀ W' : World, GlobOK Y.T ⟨W', memOf W'⟩ → Contract Y.T ⟨W', memOf W'⟩ C) (hgf : ∃ fn, Y.T.P.funcs[g]? = some fn ∧ fn.body.isSome = true)
    (hclo : ∀ a b : List Int, ∃ S1, C g [.agg ((nrm φ sz a).map fun n => AV.int .i64 n), .agg ((nrm φ sz b).map fun n => AV.int .i64 n)] [] = some (i64 (cf a b), S1))
    (hcf : ∀ a b, decide (cf a b < 0) = ltK (keyOf ks (nrm φ sz a)) (keyOf ks (nrm φ sz b)))
    {args : List AV} {S : Store} {x : AV} {S' : Store} (h : sortG φ sz ks g args S = some (x, S')) :
    (∃ fn, Y.T.P.funcs[f]? = some fn ∧ fn.body.isSome = true) ∧
    ∀ G w vs, Sat X G S.length S w → ArgsOK G S vs args → Calls Y.T.P f vs w fun ε w' => ∃ v, ε = .returned v ∧ OpOK X G S.length S w x S' v w' := by
  refine ⟨hff, fun G w vs hs ha => ?_⟩
  obtain ⟨ha1, ha2, ha3⟩ := ha
  have hC' : ∀ W' : World, MLe X.M0 (memOf W') → Contract Y.T ⟨W', memOf W'⟩ C := fun W' hm => hC W' fun k cs hk => (hg k cs hk).mono hm
  obtain ⟨gn, hgn, hgb⟩ := hgf
  subst hf
  unfold sortG at h
  split at h
  · -- nothing
    rename_i t g'
    cases hgg : Nat.beq g' g with
    | false => rw [hgg] at h; cases h
    | true =>
      rw [hgg] at h
      obtain rfl := Nat.eq_of_beq_eq_true hgg
      simp only [cond_true, Option.some.injEq, Prod.mk.injEq] at h
      obtain ⟨rfl, rfl⟩ := h
      obtain ⟨v0, v1, rfl⟩ : ∃ v0 v1, vs = #[v0, v1] := by
        match vs, ha1 with
        | ⟨[v0, v1]⟩, _ => exact ⟨v0, v1, rfl⟩
      have h0 := ha2 0 (by simp)
      have : ∃ p cap, v0 = .slice p 0 cap := by
        rcases h0.sl_inv with ⟨⟨a, h⟩, _⟩ | ⟨b, o, cap, _, h, _⟩
        · exact ⟨a, 0, h⟩
        · exact ⟨_, cap, h⟩
      obtain ⟨p, cap, rfl⟩ := this
      exact (AnyF.slices_SortFunc_none L p cap v1 w).mono fun e w' ⟨h1, h2⟩ => ⟨_, h1, by subst h2; exact OpOK.same hs (.u _) (by simp [below])⟩
  · rename_i i o l s g'
    cases hgg : Nat.beq g' g && Nat.beq s sz with
    | false => rw [hgg] at h; cases h
    | true =>
    rw [hgg] at h
    simp only [Bool.and_eq_true] at hgg
    obtain rfl := Nat.eq_of_beq_eq_true hgg.1
    obtain rfl := Nat.eq_of_beq_eq_true hgg.2
    simp only [cond_true] at h
    split at h
    · rename_i cs hcs
      split at h
      · rename_i hle
        obtain ⟨hle, hlim⟩ := hle
        obtain ⟨rows, h1, h2⟩ := Option.bind_eq_some_iff.1 h
        cases h2
        unfold sortedBy at h1
        obtain ⟨li, h2, h3⟩ := Option.bind_eq_some_iff.1 h1
        cases hinc : incrK ks (sortK ks li) with
        | false => rw [hinc] at h3; cases h3
        | true =>
        rw [hinc] at h3
        simp only [cond_true, Option.some.injEq] at h3
        subst h3
        obtain ⟨e1, e2⟩ := intRows_spec h2
        have hll : li.length = l := by
          have := congrArg List.length e1
          rw [chunks_length, List.length_map] at this
          exact this.symm
        have hw : ∀ r ∈ li, r.length = s := by
          intro r hr
          have : (r.map fun n => AV.int .i64 n) ∈ chunks s (cs.drop o) l := by rw [e1]; exact List.mem_map.2 ⟨r, hr, rfl⟩
          have := chunks_width s l (cs.drop o) (by simp; omega) _ this
          simpa using this
        have hflat : (cs.drop o).take (li.length * s) = (li.map fun r => r.map fun n => AV.int .i64 n).flatten := by
          rw [hll, ← chunks_flat s l (cs.drop o) (by simp; omega), e1]
        have hperm := sortK_perm ks li
        have hw' : ∀ r ∈ sortK ks li, r.length = s := fun r hr => hw r (hperm.mem_iff.1 hr)
        have hφ' : ∀ r ∈ sortK ks li, ∀ n ∈ r, φ n = n := fun r hr => e2 r (hperm.mem_iff.1 hr)
        obtain ⟨v0, v1, rfl⟩ : ∃ v0 v1, vs = #[v0, v1] := by
          match vs, ha1 with
          | ⟨[v0, v1]⟩, _ => exact ⟨v0, v1, rfl⟩
        have h0 : V2 G S v0 (.osl i o l s) := ha2 0 (by simp)
        have h1' : V2 G S v1 (.clo g' []) := ha2 1 (by simp)
        have hv1 : v1 = .func (.func g') #[] #[] := by
          cases h1' with
          | one h => cases h with
            | v0 h => cases h
            | clo f cv caps hs hv =>
              have hcv : cv = #[] := Array.eq_empty_of_size_eq_zero (by simpa using hs)
              rw [hcv]
        subst hv1
        obtain ⟨p, cap, rfl, hcap, hp, _⟩ := h0.osl_inv'
        by_cases hl0 : l = 0
        · subst hl0
          have hli : li = [] := List.eq_nil_of_length_eq_zero hll
          subst hli
          have hset : S.set i (.obj (setC cs o ((sortK ks []).map fun r => r.map fun n => AV.int .i64 n).flatten)) = S := by
            have hi := (List.getElem?_eq_some_iff.1 hcs)
            simp only [sortK, List.map_nil, List.flatten_nil, setC]
            rw [← hi.2, List.set_getElem_self]
          rw [hset]
          exact (AnyF.slices_SortFunc_none L p cap _ w).mono fun e w' ⟨h1, h2⟩ => ⟨_, h1, by subst h2; exact OpOK.same hs (.u _) (by simp [below])⟩
        · obtain ⟨rfl, hcap2⟩ := hp (by omega)
          have hne : cs ≠ [] := by
            intro h
            subst h
            have h5 : 1 ≤ l * s := Nat.mul_pos (by omega) hsz1
            simp at hle
            omega
          obtain ⟨arr, ty, fz, k1, k2, k3, k4, k5, k6⟩ := hs.ent i _ hcs hne
          have hH := holds_row (φ := φ) hw e2 k1 k3 k2 (by rw [hll]; exact hle) k4 hflat
          have hblk : G.β i < w.heap.size := (Array.getElem?_eq_some_iff.1 k1).1
          have hcmp : CmpLays Y.T.P g' #[] (encI φ s) s cf (G.β i) o li.toArray.size w := by
            refine cmp_lays hC' hclo fun m os dk _ blk off z hz => ?_
            have hz' := hs.m0 blk off z hz
            have hc := hs.im blk off z hz'
            have hlt : blk < w.heap.size := World.block_lt_of_cell? w _ hc
            have hneb : blk ≠ G.β i := fun h => by subst h; rw [k5 off] at hz'; cases hz'
            show (sortWorldK _ _ _ _ _ _ _ _).cell? _ = _
            unfold sortWorldK
            rw [Go.Sort.cell?_grow _ _ _ (by
              unfold Go.Sort.putRowK Go.Sort.putRow Go.Sort.mapBlock
              simpa [Go.Sort.ahead] using hlt), Go.Sort.cell?_putRowK_other _ _ _ _ _ _ _ (by simpa using hneb)]
            exact hc
          have hrun := AnyQ.slices_SortFunc L s aE zE (encI φ s) (fun _ => by simp [encI, nrm]) (fun x v hv => by
              obtain ⟨n, _, rfl⟩ := List.mem_map.1 hv
              rfl) cf (ltOf_swo hcf) g' #[] (G.β i) o cap li.toArray w (he g' gn hgn hgb) hcmp hH hblk (by simpa [hll] using hlim)
          rw [List.size_toArray, hll] at hrun
          refine hrun.mono fun e w' ⟨r1, d', n, os, r2, r3, r4⟩ => ⟨_, r1, ?_⟩
          -- what lies there is the one sorted order
          obtain ⟨q1, q2, q3⟩ := r2
          have hdl : d'.toList = sortK ks li := by
            refine sorted_unique' hinc ?_ ?_
            · rw [List.pairwise_iff_getElem]
              intro a b ha hb hab
              have := r3 a b (Nat.zero_le _) hab (by simpa [q1, hll] using hb)
              unfold ltOf at this
              rw [hcf] at this
              have m1 : d'[a]! = d'.toList[a] := by rw [getElem!_pos d' a (by simpa using ha)]; simp
              have m2 : d'[b]! = d'.toList[b] := by rw [getElem!_pos d' b (by simpa using hb)]; simp
              rw [m1, m2] at this
              have hmem : ∀ y ∈ d'.toList, y ∈ li := by
                intro y hy
                have : d'.extract 0 l = d' := by rw [← hll, show li.length = d'.size by rw [q1]; simp]; simp
                rw [this] at q3
                have := q3.mem_iff.1 hy
                have e : (li.toArray.extract 0 l).toList = li := by rw [← hll]; simp
                rwa [e] at this
              have n1 := nrm_eq (hw _ (hmem _ (List.getElem_mem ha))) (e2 _ (hmem _ (List.getElem_mem ha)))
              have n2 := nrm_eq (hw _ (hmem _ (List.getElem_mem hb))) (e2 _ (hmem _ (List.getElem_mem hb)))
              rw [n1, n2] at this
              exact this
            · have : d'.extract 0 l = d' := by rw [← hll, show li.length = d'.size by rw [q1]; simp]; simp
              rw [this] at q3
              have e : (li.toArray.extract 0 l).toList = li := by rw [← hll]; simp
              rwa [e] at q3
          have hda : d' = (sortK ks li).toArray := by rw [← hdl]
          subst hda
          obtain ⟨t1, t2⟩ := flat_list (φ := φ) hw' hφ'
          obtain ⟨m1, m2⟩ := heap_putRow (w := w) (blk := G.β i) (off := o) (F := Go.Sort.flatK (encI φ s) s (sortK ks li).toArray) k1
          have hvl : ((sortK ks li).map fun r => r.map fun n => AV.int .i64 n).flatten.length = l * s := by
            rw [← t1, Go.Sort.size_flatK]
            simp [hperm.length_eq, hll]
          have hturn := turn_obj (w' := Go.Sort.putRow id w (G.β i) o (Go.Sort.flatK (encI φ s) s (sortK ks li).toArray)) hs (Nat.le_refl _) (o := o) (vs := ((sortK ks li).map fun r => r.map fun n => AV.int .i64 n).flatten)
            (cv := (Go.Sort.flatK (encI φ s) s (sortK ks li).toArray).toList) hcs hne (by omega) (by simpa using t1) (fun j hj => .v0 (t2 j hj _)) (belows_of_get fun j hj => (t2 j hj G.M).low _) k1 m1 (by simp [Go.Sort.putCells]) m2
            (by simp [Go.Sort.putRow, Go.Sort.mapBlock]) rfl rfl ⟨rfl, Nat.le_refl _⟩ (fun j => by
              simp only [Go.Sort.putCells, Array.getElem?_mapIdx, Array.length_toList]
              by_cases hj : o ≤ j ∧ j < o + (Go.Sort.flatK (encI φ s) s (sortK ks li).toArray).size
              · have hj2 : j < arr.size := by
                  rw [t1, hvl] at hj
                  omega
                rw [if_pos hj, Array.getElem?_eq_getElem hj2, Option.map_some, if_pos hj, id]
                rw [getElem!_pos _ (j - o) (by omega), Array.getElem?_toList, Array.getElem?_eq_getElem (by omega)]
              · rw [if_neg hj]
                simp only [if_neg hj]
                cases arr[j]? <;> rfl)
          obtain ⟨G', g1, g2, g3, _, _⟩ := hturn
          have hBelow : Below (Go.Sort.putRow id w (G.β i) o (Go.Sort.flatK (encI φ s) s (sortK ks li).toArray)).heap.size (Go.Sort.putRow id w (G.β i) o (Go.Sort.flatK (encI φ s) s (sortK ks li).toArray)) w' := by
            rw [r4]
            refine ⟨rfl, rfl, rfl, ?_, ?_, fun k hk => ?_⟩
            · show _ ≤ (_ ++ os).size
              rw [Array.size_append]
              exact Nat.le_add_right _ _
            · exact Nat.le_add_right _ _
            · show (_ ++ os)[k]? = _
              rw [Array.getElem?_append_left (by exact hk)]
              rfl
          refine ⟨G', g1, ?_, g3.world (by simp) hBelow, .u _, by simp [below]⟩
          refine ⟨Nat.le_trans g2.size hBelow.size, fun k hk hn => ?_, g2.act, g2.mem⟩
          rw [hBelow.block k (Nat.lt_of_lt_of_le hk g2.size)]
          exact g2.blk k hk hn
      · cases h
    · cases h
  · cases h
end
end Go.Abs

/-
  What the closures of the sorts answer, and that the sorts keep their contracts.
-/
namespace Go.Proofs.YtlilahgndpdkfaaDoor
open Go Go.Abs

noncomputable abbrev callO (ov : Over) : CallEnv := (Prg.mk T an ov).call

def cmpI (a b : Int) : Int := if a < b then -1 else if b < a then 1 else 0

theorem o_isNaN {ov : Over} (h : ov 57 = none) (a : Int) (S : Store) : callO ov 57 [i64 a] S = some (.bool false, S) := by
  rw [callO, c57 h]
  unfold F57
  simp

theorem o_Compare {ov : Over} (h1 : ov 57 = none) (h2 : ov 40 = none) (a b : Int) (S : Store) : callO ov 40 [i64 a, i64 b] S = some (i64 (cmpI a b), S) := by
  rw [callO, c40 h2]
  unfold F40 cmpI
  have e1 := o_isNaN h1 a S
  have e2 := o_isNaN h1 b S
  by_cases h : a < b
  · simp [e1, e2, h]
  · by_cases h' : b < a <;> simp [e1, e2, h, h']

theorem o_Or {ov : Over} (h : ov 39 = none) (a b : Int) (t : Tok) (S : Store) : callO ov 39 [.sl [[i64 a], [i64 b]] t] S = some (i64 (if a = 0 then b else a), S) := by
  rw [callO, c39 h]
  unfold F39
  have w1 : IntKind.i64.wrap (0 + 1) = 1 := by decide
  have w2 : IntKind.i64.wrap (1 + 1) = 2 := by decide
  have key : iter (fun s => F39_L1 (Prg.mk T an ov).call S.length (.int .i64 0) (.sl [[i64 a], [i64 b]] t) (i64 2) (s.1.getD 0 .u) s.2) ([i64 0], S) = some (if a = 0 then (if b = 0 then (.exit 0, [.u], S) else (.ret, [i64 b], S)) else (.ret, [i64 a], S)) := by
    rw [iter_eq]
    by_cases ha : a = 0
    · have e1 : F39_L1 (Prg.mk T an ov).call S.length (.int .i64 0) (.sl [[i64 a], [i64 b]] t) (i64 2) (i64 0) S = some (.inl ([i64 1], S)) := by
        simp [F39_L1, indexAV, at?, w1, nextS_same, ha]
      simp only [List.getD_cons_zero, e1, Option.bind_some]
      rw [iter_eq]
      by_cases hb : b = 0
      · have e2 : F39_L1 (Prg.mk T an ov).call S.length (.int .i64 0) (.sl [[i64 a], [i64 b]] t) (i64 2) (i64 1) S = some (.inl ([i64 2], S)) := by
          simp [F39_L1, indexAV, at?, w2, nextS_same, hb]
        have e3 : F39_L1 (Prg.mk T an ov).call S.length (.int .i64 0) (.sl [[i64 a], [i64 b]] t) (i64 2) (i64 2) S = some (.inr (.exit 0, [.u], S)) := by
          simp [F39_L1]
        simp only [List.getD_cons_zero, e2, Option.bind_some]
        rw [iter_eq]
        simp only [List.getD_cons_zero, e3, Option.bind_some]
        rw [if_pos ha, if_pos hb]
      · have e2 : F39_L1 (Prg.mk T an ov).call S.length (.int .i64 0) (.sl [[i64 a], [i64 b]] t) (i64 2) (i64 1) S = some (.inr (.ret, [i64 b], S)) := by
          simp [F39_L1, indexAV, at?, hb]
        simp only [List.getD_cons_zero, e2, Option.bind_some]
        rw [if_pos ha, if_neg hb]
    · have e1 : F39_L1 (Prg.mk T an ov).call S.length (.int .i64 0) (.sl [[i64 a], [i64 b]] t) (i64 2) (i64 0) S = some (.inr (.ret, [i64 a], S)) := by
        simp [F39_L1, indexAV, at?, ha]
      simp only [List.getD_cons_zero, e1, Option.bind_some]
      rw [if_neg ha]
  simp only [i64] at key
  simp only [List.getD_cons_zero, List.getD_cons_succ, lenV, Option.bind_some, i64, List.length_cons, List.length_nil, Nat.zero_add, Nat.reduceAdd, Int.cast_ofNat_Int, key]
  by_cases ha : a = 0
  · by_cases hb : b = 0 <;> simp [ha, hb]
  · simp [ha]

theorem o_Check1 {ov : Over} (h1 : ov 57 = none) (h2 : ov 40 = none) (h3 : ov 39 = none) (h4 : ov 38 = none) (a b c a' b' c' : Int) (S : Store) :
    callO ov 38 [.agg [i64 a, i64 b, i64 c], .agg [i64 a', i64 b', i64 c']] S = some (i64 (if cmpI a a' = 0 then cmpI b b' else cmpI a a'), S) := by
  rw [callO, c38 h4]
  unfold F38
  have e1 := o_Compare h1 h2 a a' S
  have e2 := o_Compare h1 h2 b b' S
  have e3 := o_Or h3 (cmpI a a') (cmpI b b') .full S
  simp [e1, e2, bsliceV, immRows, e3]

theorem o_lines1 {ov : Over} (h1 : ov 57 = none) (h2 : ov 40 = none) (h4 : ov 52 = none) (a b c a' b' c' : Int) (S : Store) :
    callO ov 52 [.agg [i64 a, i64 b, i64 c], .agg [i64 a', i64 b', i64 c']] S = some (i64 (cmpI b b'), S) := by
  rw [callO, c52 h4]
  unfold F52
  have e2 := o_Compare h1 h2 b b' S
  simp [e2]

theorem cmpI_lt {a b : Int} : cmpI a b < 0 ↔ a < b := by unfold cmpI; split <;> (try split) <;> omega
theorem cmpI_eq {a b : Int} : cmpI a b = 0 ↔ a = b := by unfold cmpI; split <;> (try split) <;> omega

/-- No order is read otherwise. -/
noncomputable def prg0 : Prg := Prg.mk T an fun _ => none

theorem over0 (X : Ctx) : OverOK prg0 X := fun _ _ h => by cases h

theorem nrm3 (l : List Int) : nrm (fun n => n) 3 l = [l.getD 0 0, l.getD 1 0, l.getD 2 0] := rfl

theorem over_ok {X : Ctx} (he : Go.Abs.Enters Tryd.prog) (hm : Tryd.prog.follows .mixedOrders = true) (hg : GlobOK T X) : OverOK prg X := by
  intro f g hov args S x S' h
  have hC : ∀ W' : World, GlobOK T ⟨W', memOf W'⟩ → Contract T ⟨W', memOf W'⟩ prg0.call := fun W' hg' => contract_call (Y := prg0) hg' he hm (over0 _)
  change ov f = some g at hov
  unfold ov at hov
  split at hov
  · cases hov
    exact sort_ok (Y := prg) (X := X) (ρ := sort37_ren) sort37 (C := prg0.call) (φ := fun n => n) (sz := 3) (by omega) (ks := [0, 1]) (f := 37) (g := 38) (cf := fun a b => if cmpI (a.getD 0 0) (b.getD 0 0) = 0 then cmpI (a.getD 1 0) (b.getD 1 0) else cmpI (a.getD 0 0) (b.getD 0 0))
      rfl he hg Tryd.isAgg51 Tryd.sizeOf51 ⟨Tryd.f37, Tryd.func37, rfl⟩ hC ⟨Tryd.f38, Tryd.func38, rfl⟩
      (fun a b => ⟨[], by rw [nrm3, nrm3]; exact o_Check1 rfl rfl rfl rfl _ _ _ _ _ _ []⟩)
      (fun a b => by
        rw [nrm3, nrm3]
        simp only [Abs.keyOf, Abs.ltK, List.map_cons, List.map_nil, List.getD_cons_zero, List.getD_cons_succ, Bool.and_false, Bool.or_false]
        by_cases h0 : cmpI (a.getD 0 0) (b.getD 0 0) = 0
        · have := cmpI_eq.1 h0
          rw [if_pos h0]
          simp only [cmpI_lt, this, beq_self_eq_true, Bool.true_and, show ¬ (b.getD 0 0 < b.getD 0 0) by omega, decide_false, Bool.false_or]
        · have h1 : a.getD 0 0 ≠ b.getD 0 0 := fun h => h0 (cmpI_eq.2 h)
          rw [if_neg h0]
          simp only [cmpI_lt, beq_eq_false_iff_ne.2 h1, Bool.false_and, Bool.or_false]) h
  · cases hov
    exact sort_ok (Y := prg) (X := X) (ρ := sort51_ren) sort51 (C := prg0.call) (φ := fun n => n) (sz := 3) (by omega) (ks := [1]) (f := 51) (g := 52) (cf := fun a b => cmpI (a.getD 1 0) (b.getD 1 0))
      rfl he hg Tryd.isAgg80 Tryd.sizeOf80 ⟨Tryd.f51, Tryd.func51, rfl⟩ hC ⟨Tryd.f52, Tryd.func52, rfl⟩
      (fun a b => ⟨[], by rw [nrm3, nrm3]; exact o_lines1 rfl rfl rfl _ _ _ _ _ _ []⟩)
      (fun a b => by
        rw [nrm3, nrm3]
        simp only [Abs.keyOf, Abs.ltK, List.map_cons, List.map_nil, List.getD_cons_zero, List.getD_cons_succ, Bool.and_false, Bool.or_false, cmpI_lt]) h
  · cases hov

end Go.Proofs.YtlilahgndpdkfaaDoor

/-
  From what the laws answer to their cards.
-/
namespace Go.Proofs.YtlilahgndpdkfaaDoor
open Go Go.Abs Go.RowKit Go.ChangeShapes Go.ChangeAt Go.WideShapes

theorem enters : Go.Abs.Enters Tryd.prog := by
  have h0 : (Tryd.prog.funcs.all fun fn => fn.body.isNone || !(fn.name == "runtime.NumGoroutine")) = true := by kernel_rfl
  intro f fn hf hb args w
  have h1 := Array.all_eq_true_iff_forall_mem.1 h0 fn (Array.mem_of_getElem? hf)
  obtain ⟨c, hc⟩ := Option.isSome_iff_exists.1 hb
  rw [hc] at h1
  simp only [Option.isNone_some, Bool.false_or, Bool.not_eq_true'] at h1
  exact enters_of hf h1 hc args w

theorem mixed : Tryd.prog.follows .mixedOrders = true := by kernel_rfl
theorem laidOut : laidOutB Tryd.prog = true := by kernel_rfl
theorem own : ownKnob Tryd.prog.godebug = none := by kernel_rfl

theorem glob_ok {W : World} (h : laidMetH Tryd.prog [("synoptic/element.bounds", Rows.laid_synoptic_element_bounds)] W) : GlobOK T ⟨W, memOf W⟩ :=
  glob_of_laid (T := T) (g := 0) (t := (Tryd.prog.globals[0]?.map (·.type)).getD 0) (by kernel_rfl) (by kernel_rfl) (by kernel_rfl) rfl h (fun k cs hk => by
    change glob k = some cs at hk
    unfold glob at hk
    split at hk
    · cases hk; exact ⟨rfl, rfl⟩
    · cases hk)

/-- A world for the witness: the settled one, the table holding what its text lays. -/
noncomputable def laidWorld (os : Os) : World :=
  { World.holding Tryd.prog os ⟨#[], #[], []⟩ with heap := (World.holding Tryd.prog os ⟨#[], #[], []⟩).heap.modify 0 fun
      | .cells _ t frozen => .cells #[.int .i64 8000, .int .i64 11000, .int .i64 1800, .int .i64 3300, .int .i64 1800, .int .i64 3300, .int .i64 (-1000), .int .i64 1000, .int .i64 (-1000), .int .i64 1000, .int .i64 900, .int .i64 1700, .int .i64 2000, .int .i64 3200, .int .i64 2400, .int .i64 3400, .int .i64 2000, .int .i64 3000, .int .i64 4400, .int .i64 6200, .int .i64 2000, .int .i64 2900] t frozen
      | o => o }

def control0 : Value := .agg (Array.replicate 41 (.int .i64 0))
def controlD {H : Type} : DataW H :=
  .agg [.lit (.int .i64 0), .agg (List.replicate 12 (.lit (.int .i64 0))), .agg (List.replicate 12 (.lit (.int .i64 0))), .lit (.int .i64 0), .agg (List.replicate 12 (.lit (.int .i64 0))), .lit (.int .i64 0), .lit (.int .i64 0), .lit (.int .i64 0)]

end Go.Proofs.YtlilahgndpdkfaaDoor
