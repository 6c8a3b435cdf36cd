/-
  Texts of this claim: PureTime.
-/
import Derived.Test.YtlilahgndpdkfaaDoorOwn8
set_option linter.all false
/-
  Reports, lines of readings, and which of them are rejected, in plain Lean.
-/
namespace Go.Abs
open Go

structure Rep where
  kind : Int
  name : List UInt8
  time : Int
  face : Int
  pa : Int
  pb : Int
  pc : Int
  rd : List Rd

def repR (r : Rep) : List AV := [i64 r.kind, .str r.name, i64 r.time, i64 r.face, i64 r.pa, i64 r.pb, i64 r.pc, .sl (rds r.rd) .none]
def reps (l : List Rep) : List (List AV) := l.map repR

@[simp] theorem reps_length {l : List Rep} : (reps l).length = l.length := by simp [reps]
@[simp] theorem repR_length {r : Rep} : (repR r).length = 8 := rfl
@[simp] theorem imms_repR {r : Rep} : imms (repR r) = some (repR r) := by simp [repR]
theorem reps_row {l : List Rep} : ∀ x ∈ reps l, x.length = 8 ∧ imms x = some x := by
  intro x hx
  obtain ⟨r, _, rfl⟩ := List.mem_map.1 hx
  simp
theorem at_reps {l : List Rep} {k : Nat} (h : k < l.length) : at? (reps l) (k : Int) = some (repR l[k]) := by
  rw [at_nat]; simp [reps, h]

/-- A report's numbers are of 64 bits; its readings are few. -/
structure Rep.Fit (r : Rep) : Prop where
  rd : r.rd.length ≤ 4611686018427387904

/-- The parameters of the quality control: the steps, the spikes, and what else there is. -/
structure Ctl where
  hops : Int
  steps : List Int
  spikes : List Int
  rest : List Int

def ctlC (k : Ctl) : List AV := i64 k.hops :: (k.steps ++ k.spikes ++ k.rest).map i64

structure Ctl.Fit (k : Ctl) : Prop where
  steps : k.steps.length = 12
  spikes : k.spikes.length = 12
  rest : k.rest.length = 16

theorem imms_i64s (l : List Int) : imms (l.map i64) = some (l.map i64) := by
  induction l with
  | nil => rfl
  | cons a l ih => simp [ih]

/-- A reading in a line: its report, its time, its value. -/
structure Pt where
  rep : Int
  time : Int
  val : Int

def ptR (p : Pt) : List AV := [i64 p.rep, i64 p.time, i64 p.val]
def pts (l : List Pt) : List (List AV) := l.map ptR
@[simp] theorem pts_length {l : List Pt} : (pts l).length = l.length := by simp [pts]
theorem at_pts {l : List Pt} {k : Nat} (h : k < l.length) : at? (pts l) (k : Int) = some (ptR l[k]) := by
  rw [at_nat]; simp [pts, h]

/-- Its numbers are those of readings that exist. -/
def Pt.Ok (p : Pt) : Prop := 0 ≤ p.time ∧ p.time ≤ 52595999 ∧ -1000 ≤ p.val ∧ p.val ≤ 11000

def sizeP (a b : Pt) : Int := max2 (a.val - b.val) (b.val - a.val)
def slowP (a b : Pt) (s : Int) : Bool := decide (sizeP a b ≤ s * ((b.time - a.time + 60 - 1).tdiv 60))

/-- The last good point when those up to i are looked at. -/
def okP (l : List Pt) (s : Int) (g i : Nat) : Bool :=
  slowP (l.getD g ⟨0, 0, 0⟩) (l.getD i ⟨0, 0, 0⟩) s || (decide (i + 1 < l.length) && slowP (l.getD i ⟨0, 0, 0⟩) (l.getD (i + 1) ⟨0, 0, 0⟩) s)

def goodP (l : List Pt) (s : Int) : Nat → Nat
  | 0 => 0
  | i + 1 => if okP l s (goodP l s i) (i + 1) = true then i + 1 else goodP l s i

theorem goodP_le (l : List Pt) (s : Int) : ∀ i, goodP l s i ≤ i
  | 0 => Nat.le_refl _
  | i + 1 => by
    have := goodP_le l s i
    unfold goodP
    split <;> omega

/-- The step rule rejects it. -/
def stepP (l : List Pt) (s : Int) (i : Nat) : Bool := !(goodP l s i == i)

theorem stepP_zero (l : List Pt) (s : Int) : stepP l s 0 = false := rfl

/-- The spike rule. -/
def spikeP (a b c : Pt) (p : Int) : Bool :=
  ((decide (b.val - a.val > p) && decide (b.val - c.val > p)) || (decide (a.val - b.val > p) && decide (c.val - b.val > p))) && decide (sizeP a c ≤ p)

def spkP (l : List Pt) (p : Int) (i : Nat) : Bool :=
  decide (0 < p) && (decide (0 < i) && (decide (i + 1 < l.length) && spikeP (l.getD (i - 1) ⟨0, 0, 0⟩) (l.getD i ⟨0, 0, 0⟩) (l.getD (i + 1) ⟨0, 0, 0⟩) p))

def rejP (l : List Pt) (s p : Int) (i : Nat) : Bool := (decide (0 < s) && stepP l s i) || spkP l p i

def inP (t : Int) : Bool := decide (0 ≤ t) && decide (t ≤ 52595999)

def possP (l : List Int) : Bool := !l.any fun n => decide (n < 0) || decide (10000 < n)

/-- The error of the first report whose readings have one. -/
def firstP : List Rep → Int
  | [] => 0
  | r :: l => if validP r.rd = 0 then firstP l else validP r.rd

/-- A name and a time (or an element). -/
abbrev Key := List UInt8 × Int

def keyR (r : Rep) : Key := (r.name, r.time)

def twiceP (l : List Rep) : Bool := !decide (l.map keyR).Nodup

def addK (ks : List Key) (x : Key) : List Key := if x ∈ ks then ks else ks ++ [x]
def seenK (l : List Key) : List Key := l.foldl addK []

theorem foldK_le : ∀ (l acc : List Key), (l.foldl addK acc).length ≤ acc.length + l.length
  | [], acc => by simp
  | x :: l, acc => by
    have := foldK_le l (addK acc x)
    have h : (addK acc x).length ≤ acc.length + 1 := by unfold addK; split <;> simp
    simp only [List.foldl_cons, List.length_cons]
    omega

theorem foldK_nodup : ∀ (l acc : List Key), acc.Nodup → ((l.foldl addK acc).length = acc.length + l.length ↔ (acc ++ l).Nodup)
  | [], acc, h => by simp [h]
  | x :: l, acc, h => by
    simp only [List.foldl_cons, List.length_cons]
    by_cases hx : x ∈ acc
    · have h1 : addK acc x = acc := by simp [addK, hx]
      rw [h1]
      have := foldK_le l acc
      constructor
      · intro h2; omega
      · intro h2
        have := (List.nodup_append.1 h2).2.2 x hx x (by simp)
        exact absurd rfl this
    · have h1 : addK acc x = acc ++ [x] := by simp [addK, hx]
      rw [h1]
      have h2 : (acc ++ [x]).Nodup := by
        rw [List.nodup_append]
        exact ⟨h, by simp, fun a ha b hb => by simp at hb; subst hb; intro e; subst e; exact hx ha⟩
      have := foldK_nodup l (acc ++ [x]) h2
      rw [List.append_assoc] at this
      rw [← show acc ++ [x] ++ l = acc ++ x :: l by simp, List.append_assoc, ← this]
      simp only [List.length_append, List.length_cons, List.length_nil]
      omega

theorem seenK_twice (l : List Rep) : decide (((seenK (l.map keyR)).length : Int) < (l.length : Int)) = twiceP l := by
  have h1 := foldK_nodup (l.map keyR) [] (by simp)
  have h2 := foldK_le (l.map keyR) []
  simp only [List.length_nil, Nat.zero_add, List.length_map, List.nil_append] at h1 h2
  unfold twiceP seenK
  by_cases h : (l.map keyR).Nodup
  · simp [h1.2 h, h]
  · have : (List.foldl addK [] (l.map keyR)).length ≠ l.length := fun e => h (h1.1 e)
    simp [h]
    omega

def kvS (x : Key) : AV := .agg [.str x.1, i64 x.2]

@[simp] theorem eqKey_kvS {x y : Key} : eqKey true [1, 0] (kvS x) (kvS y) = some (x == y) := by
  simp [eqKey, kvS, eqs, eq1]
  rfl

theorem findI_kvS (x : Key) : ∀ (es : List (AV × AV)) (ks : List Key) (i : Nat), es.map (·.1) = ks.map kvS → findI true [1, 0] (kvS x) es i = some (if x ∈ ks then some (i + ks.idxOf x) else none)
  | [], ks, i, h => by
    have : ks = [] := by cases ks with | nil => rfl | cons _ _ => simp at h
    subst this
    simp [findI]
  | e :: es, [], i, h => by simp at h
  | e :: es, k :: ks, i, h => by
    simp only [List.map_cons, List.cons.injEq] at h
    simp only [findI, h.1, eqKey_kvS, Option.bind_some]
    by_cases hk : x = k
    · subst hk; simp
    · have h1 : (x == k) = false := by simpa using hk
      rw [h1, cond_false, findI_kvS x es ks (i + 1) h.2]
      by_cases hm : x ∈ ks
      · simp [hm, List.idxOf_cons, show (k == x) = false by simpa using (fun e => hk e.symm)]
        omega
      · simp [hm, hk]

/-- The error of Check. -/
def examP (l : List Rep) (k : Ctl) : Int :=
  if possP k.steps && possP k.spikes then
    (if firstP l = 0 then (if l.all fun r => inP r.time then (if twiceP l then 5 else 0) else 1) else firstP l)
  else 1

end Go.Abs
