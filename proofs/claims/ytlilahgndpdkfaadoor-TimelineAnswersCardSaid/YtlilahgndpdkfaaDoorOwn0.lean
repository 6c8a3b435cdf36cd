/-
  Texts of this claim: AbsCore, AbsComp, AbsCall, AbsBelow, AbsRel, AbsInv, AbsOp1, AbsMem, AbsOp2, AbsOp3, AbsOp4, AbsOp5, AbsOp6, AbsOp7.
-/
import Derived.KernelRfl
import Derived.WalkKit
import Derived.Still
import Derived.Below
import Derived.Deep.Draws
import Derived.Sort.Grow
import Derived.Laws.CopyRow
import Derived.Laws.MakeOwn
import Derived.Laws.Tables
import Derived.Laws.StructEq
set_option linter.all false
/-
  An abstract, deterministic reading of the translated Go code: values without memory (lists for slices), a small store for what is written in place, and one evaluator.
-/
namespace Go.Abs
open Go

/-- Who may append in place: nobody · its room is used up (an append makes a new row) · the holder of the store's entry i. -/
inductive Tok where
  | none | full | own (i : Nat)

inductive AV where
  | int (k : IntKind) (n : Int)
  | bool (b : Bool)
  | str (s : List UInt8)
  | sl (xs : List (List AV)) (t : Tok)
  | ip (cells : List AV) (off : Nat)
  | ptr (i off : Nat)
  | osl (i off len sz : Nat)
  | map (i : Nat)
  | clo (f : Nat) (caps : List AV)
  | nilp
  | agg (cells : List AV)
  | tup (vs : List AV)
  /-- what a slot holds whose operation was passed over -/
  | und

instance : Inhabited AV := ⟨.tup []⟩

abbrev AV.u : AV := .tup []
abbrev i64 (n : Int) : AV := .int .i64 n

inductive Ent where
  | obj (cells : List AV)
  | tail (n sz : Nat)
  | map (es : List (AV × AV))
  /-- a walk over the map of the entry m, which had n elements when it began: those that it has met -/
  | iter (m n : Nat) (seen : List Nat)
  | dead

abbrev Store := List Ent
/-- What each slot holds. -/
abbrev Env := Nat → AV

def Env.get (e : Env) (n : Nat) : AV := e n

def Env.put (e : Env) (d : Option Nat) (v : AV) : Env :=
  match d with
  | some d => fun n => bif Nat.beq d n then v else e n
  | none => e

def memN (n : Nat) : List Nat → Bool
  | [] => false
  | k :: l => bif Nat.beq k n then true else memN n l

def Env.gets (e : Env) (l : List Nat) : List AV := l.map e.get
def Env.only (e : Env) (l : List Nat) : Env := fun n => bif memN n l then e n else .u

inductive Opd where
  | tmp (t : Nat)
  | const (a : AV)

def Opd.ev (e : Env) : Opd → AV
  | .tmp t => e.get t
  | .const a => a

inductive Gh where
  | own (sz : Nat)
  | ownCell (sz j : Nat)
  | disown
  | freeze

inductive SOp where
  | mv (x : Opd)
  | pick (c a b : Opd)
  | bin (op : BinOp) (x y : Opd)
  | binB (op : BinOp) (x y : Opd)
  | eqc (neg : Bool) (ks : List Nat) (x y : Opd)
  | un (op : UnOp) (x : Opd)
  | conv (k : IntKind) (x : Opd)
  | alloc (zero : List AV)
  | allocP (n : Nat)
  | boxP (x : Opd)
  | boxM (x : Opd)
  | build (zero : List AV) (parts : List (Nat × Nat × Opd))
  | bslice (sz : Nat) (elems : List (Opd ⊕ List AV))
  | bsliceM (sz : Nat) (elems : List (Opd ⊕ List AV))
  | load (n : Option Nat) (a : Opd)
  | loadI (n : Option Nat) (a : Opd)
  | loadR (n : Option Nat) (a : Opd) (root : Nat)
  | store (n : Nat) (a v : Opd)
  | storeP (n : Nat) (t : Nat) (v : Opd)
  | storeN (n : Nat) (t : Nat) (v : Opd)
  | nilc (x : Opd)
  | mslice (zero : List AV) (len cap : Opd)
  | mtail (sz : Nat) (cap : Opd)
  | slice (sz : Nat) (x : Opd) (lo hi mx : Option Opd)
  | sliceS (x : Opd) (lo hi : Option Opd)
  | sliceA (sz n : Nat) (x : Opd) (lo hi : Option Opd)
  | fieldA (off : Nat) (x : Opd)
  | field (off : Nat) (n : Option Nat) (x : Opd)
  | indexA (sz : Nat) (arr : Option Nat) (x i : Opd)
  | index (sz len : Nat) (agg : Bool) (x i : Opd)
  | indexS (x i : Opd)
  | len (x : Opd)
  | lenS (x : Opd)
  | lenM (x : Opd)
  | append (sz : Nat) (x y : Opd)
  | appendM (sz : Nat) (x y : Opd)
  | toBytes (x : Opd)
  | ofBytes (x : Opd)
  | ofInt (x : Opd)
  | extract (x : Opd) (i : Nat)
  | mkclo (f : Nat) (caps : List Opd)
  | call (f : Nat) (args : List Opd)
  | callP (f : Nat) (args : List Opd)
  | callO (f : Nat) (args : List Opd) (avoid : List Nat)
  | callV (fv : Opd) (args : List Opd)
  | minmax (mx : Bool) (args : List Opd)
  | makeMap
  | lookup (zero : AV) (ag : Bool) (ks : List Nat) (m k : Opd) (ok : Bool)
  | mapSet (ag : Bool) (ks : List Nat) (m k v : Opd)
  | mapEntry (zero : AV) (ag : Bool) (ks : List Nat) (m k : Opd)
  | entryStore (m st v : Opd)
  | range (m : Opd)
  | entry (it : Opd)
  | fail
  /-- what becomes of the result before it is written -/
  | post (o : SOp) (g : Gh)

structure SOper where
  dst : Option Nat
  op : SOp
  guard : Option (Nat × Bool)

/-! ### Values -/

def cellsOf : AV → List AV
  | .agg cs => cs
  | v => [v]

/-- A cell as_ it may lie in memory that nobody writes: without a right to append. -/
def imm1 : AV → Option AV
  | .int k n => some (.int k n)
  | .bool b => some (.bool b)
  | .str s => some (.str s)
  | .sl xs _ => some (.sl xs .none)
  | .ip cs o => some (.ip cs o)
  | .nilp => some .nilp
  | _ => none

def imms : List AV → Option (List AV)
  | [] => some []
  | c :: cs => (imm1 c).bind fun c' => (imms cs).bind fun cs' => some (c' :: cs')

/-- A cell as_ it may lie in an entry of a caller's, whose entries are those before n. -/
def low1 (n : Nat) : AV → Option AV
  | .sl xs (.own i) => some (.sl xs (bif Nat.blt i n then .own i else .none))
  | .sl xs t => some (.sl xs t)
  | .ptr i o => bif Nat.blt i n then some (.ptr i o) else none
  | .map i => bif Nat.blt i n then some (.map i) else none
  | .osl i o l s => bif Nat.blt i n then some (.osl i o l s) else none
  | .int k n => some (.int k n)
  | .bool b => some (.bool b)
  | .str s => some (.str s)
  | .ip cs o => some (.ip cs o)
  | .nilp => some .nilp
  | _ => none

def lows (n : Nat) : List AV → Option (List AV)
  | [] => some []
  | c :: cs => (low1 n c).bind fun c' => (lows n cs).bind fun cs' => some (c' :: cs')

/-- A cell as_ it may lie in an entry of the call's own. -/
def cell1 : AV → Option AV
  | .und => none
  | .agg _ => none
  | .tup _ => none
  | .clo _ _ => none
  | v => some v

def cells1 : List AV → Option (List AV)
  | [] => some []
  | c :: cs => (cell1 c).bind fun c' => (cells1 cs).bind fun cs' => some (c' :: cs')

def takeC (n : Option Nat) (cs : List AV) (off : Nat) : Option AV :=
  match n with
  | none => cs[off]?
  | some n => if off + n ≤ cs.length then some (.agg ((cs.drop off).take n)) else none

def setC (cs : List AV) (off : Nat) : List AV → List AV
  | [] => cs
  | v :: vs => setC (cs.set off v) (off + 1) vs

/-! ### Operations without a store -/

def bitsI (op : BinOp) (k : IntKind) (x y : Int) : Option AV :=
  match op with
  | .and => some (.int k (k.wrap (BitVec.ofInt k.bits x &&& BitVec.ofInt k.bits y).toNat))
  | .or => some (.int k (k.wrap (BitVec.ofInt k.bits x ||| BitVec.ofInt k.bits y).toNat))
  | .xor => some (.int k (k.wrap (BitVec.ofInt k.bits x ^^^ BitVec.ofInt k.bits y).toNat))
  | .andNot => some (.int k (k.wrap (BitVec.ofInt k.bits x &&& ~~~BitVec.ofInt k.bits y).toNat))
  | _ => none

def binI (op : BinOp) (k : IntKind) (a b : Int) : Option AV :=
  match op with
  | .add => some (.int k (k.wrap (a + b)))
  | .sub => some (.int k (k.wrap (a - b)))
  | .mul => some (.int k (k.wrap (a * b)))
  | .quo => if b = 0 then none else some (.int k (k.wrap (a.tdiv b)))
  | .rem => if b = 0 then none else some (.int k (a.tmod b))
  | .eql => some (.bool (a == b))
  | .neq => some (.bool (a != b))
  | .lss => some (.bool (decide (a < b)))
  | .leq => some (.bool (decide (a ≤ b)))
  | .gtr => some (.bool (decide (a > b)))
  | .geq => some (.bool (decide (a ≥ b)))
  | .shl => if b < 0 then none else some (.int k (k.wrap (a * 2 ^ (min b.toNat k.bits))))
  | .shr => if b < 0 then none else some (.int k (a.fdiv (2 ^ (min b.toNat k.bits))))
  | op => bitsI op k a b

def isShift : BinOp → Bool
  | .shl | .shr => true
  | _ => false

def binS (op : BinOp) (a b : List UInt8) : Option AV :=
  match op with
  | .add => if a.length + b.length ≤ 4294967296 then some (.str (a ++ b)) else none
  | .eql => some (.bool (a == b))
  | .neq => some (.bool (!(a == b)))
  | .lss => some (.bool (Op.bytesLess a b))
  | .leq => some (.bool (Op.bytesLess a b || a == b))
  | .gtr => some (.bool (!(Op.bytesLess a b || a == b)))
  | .geq => some (.bool (!Op.bytesLess a b))
  | _ => none

def binB (op : BinOp) (a b : Bool) : Option AV :=
  match op with
  | .eql => some (.bool (a == b))
  | .neq => some (.bool (!(a == b)))
  | _ => none

def binV (op : BinOp) : AV → AV → Option AV
  | .int k a, .int k' b => bif isShift op then binI op k a b else if k = k' then binI op k a b else none
  | .str a, .str b => binS op a b
  | _, _ => none

def binBV (op : BinOp) : AV → AV → Option AV
  | .bool a, .bool b => binB op a b
  | _, _ => none

/-- One cell against another, as_ its type's kind has it: 0: a number · 1: a string · 2: a bool. -/
def eq1 (k : Nat) (a b : AV) : Option Bool :=
  match k, a, b with
  | 0, .int k a, .int k' b => if k = k' then some (a == b) else none
  | 1, .str a, .str b => some (a == b)
  | 2, .bool a, .bool b => some (a == b)
  | _, _, _ => none

def eqs : List Nat → List AV → List AV → Option Bool
  | [], [], [] => some true
  | k :: ks, a :: as_, b :: bs => (eq1 k a b).bind fun x => (eqs ks as_ bs).bind fun y => some (x && y)
  | _, _, _ => none

def eqcV (neg : Bool) (ks : List Nat) : AV → AV → Option AV
  | .agg a, .agg b => (eqs ks a b).bind fun x => some (.bool (x != neg))
  | _, _ => none

/-- Two keys of a map: structs ('ag'), or single cells. -/
def eqKey (ag : Bool) (ks : List Nat) (a b : AV) : Option Bool :=
  match ag, a, b with
  | true, .agg x, .agg y => eqs ks x y
  | false, a, b => (match ks with | [k] => eq1 k a b | _ => none)
  | _, _, _ => none

def unV : UnOp → AV → Option AV
  | .neg, .int k a => some (.int k (k.wrap (0 - a)))
  | .not, .bool b => some (.bool !b)
  | .xor, .int k a => bitsI .xor k (if k.signed then -1 else k.max) a
  | _, _ => none

def convV (k : IntKind) : AV → Option AV
  | .int _ n => some (.int k (k.wrap n))
  | _ => none

def pickV (c a b : AV) : Option AV :=
  match c with
  | .bool true => some a
  | .bool false => some b
  | _ => none

def isTup : AV → Bool
  | .tup _ => true
  | .und => true
  | _ => false

def fillC : List (Nat × Nat × AV) → List AV → Option (List AV)
  | [], cs => some cs
  | (off, n, v) :: r, cs => if isTup v = false ∧ (cellsOf v).length = n ∧ off + n ≤ cs.length then fillC r (setC cs off (cellsOf v)) else none

def partsE (e : Env) : List (Nat × Nat × Opd) → List (Nat × Nat × AV)
  | [] => []
  | (o, n, x) :: r => (o, n, x.ev e) :: partsE e r

def buildV (zero : List AV) (parts : List (Nat × Nat × AV)) : Option AV := (fillC parts zero).bind fun cs => some (.agg cs)

def elemsE (e : Env) : List (Opd ⊕ List AV) → List (List AV)
  | [] => []
  | .inl x :: r => cellsOf (x.ev e) :: elemsE e r
  | .inr cs :: r => cs :: elemsE e r

def immRows (sz : Nat) : List (List AV) → Option (List (List AV))
  | [] => some []
  | x :: xs => if x.length = sz then (imms x).bind fun x' => (immRows sz xs).bind fun xs' => some (x' :: xs') else none

def bsliceV (sz : Nat) (rows : List (List AV)) : Option AV := (immRows sz rows).bind fun xs => some (.sl xs .full)

def nilcV : AV → Option AV
  | .ip cs o => some (.ip cs o)
  | .ptr i o => some (.ptr i o)
  | .clo f c => some (.clo f c)
  | _ => none

def intOf? : AV → Option Int
  | .int _ n => some n
  | _ => none

/-- A bound of a slice expression: 0 ≤ n ≤ most. -/
def bound (x : Option AV) (most dflt : Nat) : Option Nat :=
  match x with
  | none => some dflt
  | some (.int _ n) => if 0 ≤ n ∧ n ≤ most then some n.toNat else none
  | some _ => none

def sliceTok (hi mx : Option AV) (t : Tok) : Tok :=
  match mx, hi, t with
  | some _, _, _ => .full
  | none, none, .full => .full
  | _, _, _ => .none

/-- With three indexes: the third is the second. -/
def mxFits (mx : Option AV) (h : Nat) : Bool :=
  match mx with
  | none => true
  | some (.int _ n) => n == (h : Int)
  | some _ => false

/-- The rows are of a width. -/
def szOK (sz : Nat) : List (List AV) → Bool
  | [] => true
  | x :: _ => Nat.beq x.length sz

def sliceV (sz : Nat) (x : AV) (lo hi mx : Option AV) : Option AV :=
  match x with
  | .sl xs t => (bound hi xs.length xs.length).bind fun h => (bound lo h 0).bind fun l => bif mxFits mx h && szOK sz xs then some (.sl ((xs.take h).drop l) (sliceTok hi mx t)) else none
  | .osl i off len s => (bound hi len len).bind fun h => (bound lo h 0).bind fun l => bif mx.isNone && Nat.beq s sz then some (.osl i (off + l * sz) (h - l) sz) else none
  | _ => none

def sliceSV (x : AV) (lo hi : Option AV) : Option AV :=
  match x with
  | .str s => (bound hi s.length s.length).bind fun h => (bound lo h 0).bind fun l => some (.str ((s.take h).drop l))
  | _ => none

def chunks (sz : Nat) (cs : List AV) : Nat → List (List AV)
  | 0 => []
  | n + 1 => cs.take sz :: chunks sz (cs.drop sz) n

def sliceAV (sz n : Nat) (x : AV) (lo hi : Option AV) (S : Store) : Option AV :=
  (bound hi n n).bind fun h => (bound lo h 0).bind fun l =>
  match x with
  | .ip cs off => if off + n * sz ≤ cs.length then some (.sl (((chunks sz (cs.drop off) n).take h).drop l) .none) else none
  | .ptr i off =>
    match S[i]? with
    | some (.obj cs) => if off + n * sz ≤ cs.length then some (.osl i (off + l * sz) (h - l) sz) else none
    | _ => none
  | _ => none

def fieldAV (off : Nat) : AV → Option AV
  | .ip cs o => some (.ip cs (o + off))
  | .ptr i o => some (.ptr i (o + off))
  | _ => none

def fieldV (off : Nat) (n : Option Nat) : AV → Option AV
  | .agg cs => takeC n cs off
  | _ => none

def at? {α : Type} (xs : List α) (i : Int) : Option α := if 0 ≤ i then xs[i.toNat]? else none

def indexAV (sz : Nat) (arr : Option Nat) (x i : AV) : Option AV :=
  match arr, x, i with
  | some n, .ip cs o, .int _ k => if 0 ≤ k ∧ k < n then some (.ip cs (o + k.toNat * sz)) else none
  | some n, .ptr j o, .int _ k => if 0 ≤ k ∧ k < n then some (.ptr j (o + k.toNat * sz)) else none
  | none, .sl xs _, .int _ k => (at? xs k).bind fun cs => if cs.length = sz then some (.ip cs 0) else none
  | none, .osl j o l s, .int _ k => if 0 ≤ k ∧ k < l ∧ s = sz then some (.ptr j (o + k.toNat * sz)) else none
  | _, _, _ => none

def indexV (sz len : Nat) (agg : Bool) (x i : AV) : Option AV :=
  match x, i with
  | .agg cs, .int _ k => if 0 ≤ k ∧ k < len then takeC (bif agg then some sz else none) cs (k.toNat * sz) else none
  | _, _ => none

def indexSV (x i : AV) : Option AV :=
  match x, i with
  | .str s, .int _ k => (at? s k).bind fun b => some (.int .u8 b.toNat)
  | _, _ => none

def extractV (x : AV) (i : Nat) : Option AV :=
  match x with
  | .tup vs => vs[i]?
  | _ => none

def max2 (a b : Int) : Int := if b > a then b else a
def min2 (a b : Int) : Int := if b < a then b else a

def minmaxGo (mx : Bool) (k : IntKind) (a : Int) : List AV → Option AV
  | [] => some (.int k a)
  | .int k' b :: r => if k = k' then minmaxGo mx k (bif mx then max2 a b else min2 a b) r else none
  | _ => none

def minmaxV (mx : Bool) : List AV → Option AV
  | .int k a :: r => minmaxGo mx k a r
  | _ => none

/-- string(b) of a small number. -/
def ofIntV : AV → Option AV
  | .int _ n => if 0 ≤ n ∧ n < 128 then some (.str [UInt8.ofNat n.toNat]) else none
  | _ => none

/-! ### Operations on the store -/

def loadV (n : Option Nat) (a : AV) (S : Store) : Option AV :=
  match a with
  | .ip cs o => takeC n cs o
  | .ptr i o =>
    match S[i]? with
    | some (.obj cs) => takeC n cs o
    | _ => none
  | _ => none

/-- A load out of the entry that another pointer points to. -/
def loadRV (n : Option Nat) (a r : AV) (S : Store) : Option AV :=
  match a, r with
  | .ptr i o, .ptr j _ => bif Nat.beq i j then loadV n (.ptr i o) S else none
  | _, _ => none

/-- A load out of memory that nobody writes. -/
def loadIV (n : Option Nat) (a : AV) : Option AV :=
  match a with
  | .ip cs o => takeC n cs o
  | _ => none

def storeV (b n : Nat) (a v : AV) (S : Store) : Option Store :=
  match a with
  | .ptr i o =>
    match S[i]? with
    | some (.obj cs) => (bif Nat.blt i b then lows i (cellsOf v) else cells1 (cellsOf v)).bind fun vs => if (cellsOf v).length = n ∧ o + n ≤ cs.length then some (S.set i (.obj (setC cs o vs))) else none
    | _ => none
  | _ => none

/-- The rows that a slice holds: its own, or those of the store's entry. -/
def rowsOf (x : AV) (S : Store) : Option (List (List AV)) :=
  match x with
  | .sl xs _ => some xs
  | .osl i o l sz =>
    match S[i]? with
    | some (.obj cs) => if o + l * sz ≤ cs.length then some (chunks sz (cs.drop o) l) else none
    | _ => none
  | .str s => some (s.map fun b => [.int .u8 b.toNat])
  | _ => none

def lenV (x : AV) : Option AV :=
  match x with
  | .sl xs _ => some (i64 xs.length)
  | .osl _ _ l _ => some (i64 l)
  | _ => none

def lenSV (x : AV) : Option AV :=
  match x with
  | .str s => some (i64 s.length)
  | _ => none

def lenMV (x : AV) (S : Store) : Option AV :=
  match x with
  | .map i =>
    match S[i]? with
    | some (.map es) => some (i64 es.length)
    | _ => none
  | _ => none

def room : Nat := 4294967296

def appendV (sz : Nat) (x y : AV) (S : Store) : Option (AV × Store) :=
  match x with
  | .sl xs t => (rowsOf y S).bind fun ys0 => (immRows sz ys0).bind fun ys =>
    match ys with
    | [] => some (.sl xs t, S)
    | ys => if xs.length + ys.length ≤ room then
        match t with
        | .none => none
        | .full => bif szOK sz xs then some (.sl (xs ++ ys) (.own S.length), S ++ [.tail (xs.length + ys.length) sz]) else none
        | .own i =>
          match S[i]? with
          | some (.tail n s) => if n = xs.length ∧ s = sz then some (.sl (xs ++ ys) (.own i), S.set i (.tail (n + ys.length) sz)) else none
          | _ => none
      else none
  | _ => none

/-- append for a row that is written in place: to an empty slice without room, or to a row that is written already: the elder row is given up. -/
def appendMV (sz : Nat) (x y : AV) (S : Store) : Option (AV × Store) :=
  match x with
  | .sl [] .full => (rowsOf y S).bind fun ys0 => (immRows sz ys0).bind fun ys =>
    if ys.length ≤ room then (bif ys.isEmpty then some (.sl [] .full, S) else some (.osl S.length 0 ys.length sz, S ++ [.obj ys.flatten])) else none
  | .osl i 0 l s =>
    match S[i]? with
    | some (.obj cs) => (rowsOf y S).bind fun ys0 => (immRows sz ys0).bind fun ys =>
      if s = sz ∧ 0 < l ∧ l * sz ≤ cs.length ∧ l + ys.length ≤ room then some (.osl S.length 0 (l + ys.length) sz, S.set i .dead ++ [.obj (cs.take (l * sz) ++ ys.flatten)]) else none
    | _ => none
  | _ => none

def ownV (sz : Nat) (x : AV) (S : Store) : Option (AV × Store) :=
  match x with
  | .sl xs .full => bif szOK sz xs then some (.sl xs (.own S.length), S ++ [.tail xs.length sz]) else none
  | .sl xs t => some (.sl xs t, S)
  | _ => none

def ownCellV (sz j : Nat) (x : AV) (S : Store) : Option (AV × Store) :=
  match x with
  | .agg cs =>
    match cs[j]? with
    | some (.sl xs .full) => bif szOK sz xs then some (.agg (cs.set j (.sl xs (.own S.length))), S ++ [.tail xs.length sz]) else none
    | _ => none
  | _ => none

def disownV (x : AV) : Option AV :=
  match x with
  | .sl xs _ => some (.sl xs .none)
  | _ => none

def mtailV (sz : Nat) (cap : AV) (S : Store) : Option (AV × Store) :=
  match cap with
  | .int _ n => if 0 ≤ n ∧ n ≤ room then some (.sl [] (.own S.length), S ++ [.tail 0 sz]) else none
  | _ => none

def msliceV (zero : List AV) (len cap : AV) (S : Store) : Option (AV × Store) :=
  match len, cap with
  | .int _ l, .int _ c => if 0 ≤ l ∧ l ≤ c ∧ c ≤ room then some (.osl S.length 0 l.toNat zero.length, S ++ [.obj (List.replicate c.toNat zero).flatten]) else none
  | _, _ => none

def isOsl : AV → Bool
  | .osl _ _ _ _ => true
  | _ => false

/-- The rows of a slice over an entry, for good: the entry is given up. Of a value of many cells the first such slice. -/
def freezeV (x : AV) (S : Store) : Option (AV × Store) :=
  match x with
  | .osl i o l sz => (rowsOf (.osl i o l sz) S).bind fun xs => (immRows sz xs).bind fun ys => some (.sl ys .none, S.set i .dead)
  | .agg cs =>
    match cs[cs.findIdx isOsl]? with
    | some (.osl i o l sz) => (rowsOf (.osl i o l sz) S).bind fun xs => (immRows sz xs).bind fun ys => some (.agg (cs.set (cs.findIdx isOsl) (.sl ys .none)), S.set i .dead)
    | _ => some (.agg cs, S)
  | .sl xs t => some (.sl xs t, S)
  | _ => none

def bytesOf : List AV → Option (List UInt8)
  | [] => some []
  | .int .u8 n :: r => (bytesOf r).bind fun s => some (UInt8.ofNat n.toNat :: s)
  | _ => none

def toBytesV (x : AV) (S : Store) : Option (AV × Store) :=
  match x with
  | .str s => some (.osl S.length 0 s.length 1, S ++ [.obj (s.map fun b => .int .u8 b.toNat)])
  | _ => none

def ofBytesV (x : AV) (S : Store) : Option AV :=
  match x with
  | .str _ => none
  | x => (rowsOf x S).bind fun xs => (immRows 1 xs).bind fun ys => (bytesOf ys.flatten).bind fun s => some (.str s)

/-- Where a key stands. -/
def findI (ag : Bool) (ks : List Nat) (k : AV) : List (AV × AV) → Nat → Option (Option Nat)
  | [], _ => (eqKey ag ks k k).bind fun _ => some none
  | e :: r, i => (eqKey ag ks k e.1).bind fun b => bif b then some (some i) else findI ag ks k r (i + 1)

def immV : AV → Option AV
  | .agg cs => (imms cs).bind fun cs' => some (.agg cs')
  | v => imm1 v

/-- A map's element, as_ it may lie in the entry i. -/
def valM (b i : Nat) : AV → Option AV
  | .agg cs => (bif Nat.blt i b then lows i cs else cells1 cs).bind fun cs' => some (.agg cs')
  | v => bif Nat.blt i b then low1 i v else cell1 v

def lookupV (zero : AV) (ag : Bool) (ks : List Nat) (m k : AV) (ok : Bool) (S : Store) : Option AV :=
  match m with
  | .map i =>
    match S[i]? with
    | some (.map es) => (findI ag ks k es 0).bind fun r =>
      match r with
      | some j => (es[j]?).bind fun e => some (bif ok then .tup [e.2, .bool true] else e.2)
      | none => some (bif ok then .tup [zero, .bool false] else zero)
    | _ => none
  | _ => none

def mapSetV (b : Nat) (ag : Bool) (ks : List Nat) (m k v : AV) (S : Store) : Option Store :=
  match m with
  | .map i =>
    match S[i]? with
    | some (.map es) => (immV k).bind fun k' => (valM b i v).bind fun v' => (findI ag ks k es 0).bind fun r =>
      some (S.set i (.map (match r with | some j => es.set j (k', v') | none => es ++ [(k', v')])))
    | _ => none
  | _ => none

/-- The place of a key, made if it is not there; and its number. -/
def mapEntryV (zero : AV) (ag : Bool) (ks : List Nat) (m k : AV) (S : Store) : Option (AV × Store) :=
  match m with
  | .map i =>
    match S[i]? with
    | some (.map es) => (immV k).bind fun k' => (findI ag ks k es 0).bind fun r =>
      match r with
      | some j => (es[j]?).bind fun e => some (.tup [e.2, i64 j], S.set i (.map (es.set j (k', e.2))))
      | none => some (.tup [zero, i64 es.length], S.set i (.map (es ++ [(k', zero)])))
    | _ => none
  | _ => none

def entryStoreV (b : Nat) (m st v : AV) (S : Store) : Option Store :=
  match m, st with
  | .map i, .int _ n =>
    match S[i]? with
    | some (.map es) => (at? es n).bind fun e => (valM b i v).bind fun v' => some (S.set i (.map (es.set n.toNat (e.1, v'))))
    | _ => none
  | _, _ => none

def rangeV (m : AV) (S : Store) : Option (AV × Store) :=
  match m with
  | .map i =>
    match S[i]? with
    | some (.map es) => some (.ptr S.length 0, S ++ [.iter i es.length []])
    | _ => none
  | _ => none

/-- What a walk's next step may meet: the key, the element, and the store behind the step. -/
def stepI (it : AV) (S : Store) : Option (List (AV × AV × Store)) :=
  match it with
  | .ptr i 0 =>
    match S[i]? with
    | some (.iter m n seen) =>
      match S[m]? with
      | some (.map es) => if es.length = n then some (((List.range n).filter fun j => !memN j seen).map fun j => ((es.getD j (.u, .u)).1, (es.getD j (.u, .u)).2, S.set i (.iter m n (seen ++ [j])))) else none
      | _ => none
    | _ => none
  | _ => none

/-- The walk is over. -/
def killI (it : AV) (S : Store) : Store :=
  match it with
  | .ptr i _ => S.set i .dead
  | _ => S

/-- The element at which a walk stands. -/
def entryV (it : AV) (S : Store) : Option AV :=
  match it with
  | .ptr i 0 =>
    match S[i]? with
    | some (.iter m n seen) =>
      match S[m]?, seen.getLast? with
      | some (.map es), some j => if es.length = n then (es[j]?).bind fun e => some (.tup [e.1, e.2]) else none
      | _, _ => none
    | _ => none
  | _ => none

/-! ### Calls -/

abbrev CallEnv := Nat → List AV → Store → Option (AV × Store)

def argV : AV → Option AV
  | .agg cs => (imms cs).bind fun cs' => some (.agg cs')
  | .tup _ => none
  | v => some v

def argVs : List AV → Option (List AV)
  | [] => some []
  | c :: cs => (argV c).bind fun c' => (argVs cs).bind fun cs' => some (c' :: cs')

def opds (e : Env) : List Opd → List AV
  | [] => []
  | x :: r => x.ev e :: opds e r

open Classical in
/-- A call that leaves the store as_ it was. -/
noncomputable def still (S : Store) (r : AV × Store) : Option AV := if r.2 = S then some r.1 else none

def avoidB (i : Nat) : List AV → Bool
  | [] => true
  | .ptr j _ :: r => !Nat.beq j i && avoidB i r
  | .ip _ _ :: r => avoidB i r
  | _ => false

open Classical in
/-- A call that turns the object of its first argument alone. -/
noncomputable def onlyV (as_ av : List AV) (S : Store) (r : AV × Store) : Option (AV × Store) :=
  match as_ with
  | .ptr i _ :: _ => if (∃ x, r.2 = S.set i x) ∧ avoidB i av = true then some r else none
  | _ => none

def ghK (g : Gh) (v : AV) (S : Store) {ρ : Type} (K : AV → Store → Option ρ) : Option ρ :=
  match g with
  | .own sz => (ownV sz v S).bind fun r => K r.1 r.2
  | .ownCell sz j => (ownCellV sz j v S).bind fun r => K r.1 r.2
  | .disown => (disownV v).bind fun r => K r S
  | .freeze => (freezeV v S).bind fun r => K r.1 r.2

/-- One operation: what it yields, and the store behind it, handed on to K. -/
noncomputable def evalK (C : CallEnv) (b : Nat) (o : SOp) (e : Env) (S : Store) {ρ : Type} (K : AV → Store → Option ρ) : Option ρ :=
  match o with
  | .mv x => K (x.ev e) S
  | .pick c a b => (pickV (c.ev e) (a.ev e) (b.ev e)).bind fun v => K v S
  | .bin op x y => (binV op (x.ev e) (y.ev e)).bind fun v => K v S
  | .binB op x y => (binBV op (x.ev e) (y.ev e)).bind fun v => K v S
  | .eqc neg ks x y => (eqcV neg ks (x.ev e) (y.ev e)).bind fun v => K v S
  | .un op x => (unV op (x.ev e)).bind fun v => K v S
  | .conv k x => (convV k (x.ev e)).bind fun v => K v S
  | .alloc zero => K (.ptr S.length 0) (S ++ [.obj zero])
  | .allocP _ => K .u S
  | .boxP x => (imms (cellsOf (x.ev e))).bind fun cs => K (.ip cs 0) S
  | .boxM x => (cells1 (cellsOf (x.ev e))).bind fun cs => K (.ptr S.length 0) (S ++ [.obj cs])
  | .build zero parts => (buildV zero (partsE e parts)).bind fun v => K v S
  | .bslice sz elems => (bsliceV sz (elemsE e elems)).bind fun v => K v S
  | .bsliceM sz elems => (immRows sz (elemsE e elems)).bind fun xs => K (.osl S.length 0 xs.length sz) (S ++ [.obj xs.flatten])
  | .load n a => (loadV n (a.ev e) S).bind fun v => K v S
  | .loadR n a r => (loadRV n (a.ev e) (e.get r) S).bind fun v => K v S
  | .loadI n a => (loadIV n (a.ev e)).bind fun v => K v S
  | .store n a v => (storeV b n (a.ev e) (v.ev e) S).bind fun S' => K .u S'
  | .storeP n _ v => (imms (cellsOf (v.ev e))).bind fun cs => if cs.length = n then K (.ip cs 0) S else none
  | .storeN n _ v => (cells1 (cellsOf (v.ev e))).bind fun cs => if cs.length = n then K (.ptr S.length 0) (S ++ [.obj cs]) else none
  | .nilc x => (nilcV (x.ev e)).bind fun v => K v S
  | .mslice zero len cap => (msliceV zero (len.ev e) (cap.ev e) S).bind fun r => K r.1 r.2
  | .mtail sz cap => (mtailV sz (cap.ev e) S).bind fun r => K r.1 r.2
  | .slice sz x lo hi mx => (sliceV sz (x.ev e) (lo.map (·.ev e)) (hi.map (·.ev e)) (mx.map (·.ev e))).bind fun v => K v S
  | .sliceS x lo hi => (sliceSV (x.ev e) (lo.map (·.ev e)) (hi.map (·.ev e))).bind fun v => K v S
  | .sliceA sz n x lo hi => (sliceAV sz n (x.ev e) (lo.map (·.ev e)) (hi.map (·.ev e)) S).bind fun v => K v S
  | .fieldA off x => (fieldAV off (x.ev e)).bind fun v => K v S
  | .field off n x => (fieldV off n (x.ev e)).bind fun v => K v S
  | .indexA sz arr x i => (indexAV sz arr (x.ev e) (i.ev e)).bind fun v => K v S
  | .index sz len agg x i => (indexV sz len agg (x.ev e) (i.ev e)).bind fun v => K v S
  | .indexS x i => (indexSV (x.ev e) (i.ev e)).bind fun v => K v S
  | .lenS x => (lenSV (x.ev e)).bind fun v => K v S
  | .len x => (lenV (x.ev e)).bind fun v => K v S
  | .lenM x => (lenMV (x.ev e) S).bind fun v => K v S
  | .append sz x y => (appendV sz (x.ev e) (y.ev e) S).bind fun r => K r.1 r.2
  | .appendM sz x y => (appendMV sz (x.ev e) (y.ev e) S).bind fun r => K r.1 r.2
  | .toBytes x => (toBytesV (x.ev e) S).bind fun r => K r.1 r.2
  | .ofBytes x => (ofBytesV (x.ev e) S).bind fun v => K v S
  | .ofInt x => (ofIntV (x.ev e)).bind fun v => K v S
  | .extract x i => (extractV (x.ev e) i).bind fun v => K v S
  | .mkclo f caps => (cells1 (opds e caps)).bind fun cs => K (.clo f cs) S
  | .call f args => (argVs (opds e args)).bind fun as_ => (C f as_ S).bind fun r => K r.1 r.2
  | .callP f args => (argVs (opds e args)).bind fun as_ => ((C f as_ S).bind (still S)).bind fun v => K v S
  | .callO f args av => (argVs (opds e args)).bind fun as_ => ((C f as_ S).bind (onlyV as_ (e.gets av) S)).bind fun r => K r.1 r.2
  | .callV fv args =>
    match fv.ev e with
    | .clo f caps => (argVs (opds e args)).bind fun as_ => (C f (as_ ++ caps) S).bind fun r => K r.1 r.2
    | _ => none
  | .minmax mx args => (minmaxV mx (opds e args)).bind fun v => K v S
  | .makeMap => K (.map S.length) (S ++ [.map []])
  | .lookup zero ag ks m k ok => (lookupV zero ag ks (m.ev e) (k.ev e) ok S).bind fun v => K v S
  | .mapSet ag ks m k v => (mapSetV b ag ks (m.ev e) (k.ev e) (v.ev e) S).bind fun S' => K .u S'
  | .mapEntry zero ag ks m k => (mapEntryV zero ag ks (m.ev e) (k.ev e) S).bind fun r => K r.1 r.2
  | .entryStore m st v => (entryStoreV b (m.ev e) (st.ev e) (v.ev e) S).bind fun S' => K .u S'
  | .range m => (rangeV (m.ev e) S).bind fun r => K r.1 r.2
  | .entry it => (entryV (it.ev e) S).bind fun v => K v S
  | .fail => none
  | .post o g => evalK C b o e S fun v S' => ghK g v S' K

/-- The slot that an operation writes in the environment. -/
def SOper.to (o : SOper) : Option Nat :=
  match o.op with
  | .storeP _ t _ => some t
  | .storeN _ t _ => some t
  | _ => o.dst

def guardK {ρ : Type} (g : AV) (want : Bool) (m skip : Option ρ) : Option ρ :=
  match g with
  | .bool b => if b = want then m else skip
  | .und => skip
  | _ => none

/-- What a guarded operation yields, as_ a pair: so that what follows stands once. -/
noncomputable def runOp (C : CallEnv) (b : Nat) (o : SOper) {ρ : Type} (K : Env → Store → Option ρ) (e : Env) (S : Store) : Option ρ :=
  match o.guard with
  | none => evalK C b o.op e S fun v S' => K (e.put o.to v) S'
  | some (g, want) => (guardK (e.get g) want (evalK C b o.op e S fun v S' => some (v, S')) (some (.und, S))).bind fun r => K (e.put o.to r.1) r.2

noncomputable def runOps (C : CallEnv) (b : Nat) (l : List SOper) {ρ : Type} (K : Env → Store → Option ρ) : Env → Store → Option ρ :=
  List.rec (motive := fun _ => Env → Store → Option ρ) K (fun o _ ih => runOp C b o ih) l

theorem runOps_nil {C : CallEnv} {b : Nat} {ρ : Type} {K : Env → Store → Option ρ} : runOps C b [] K = K := rfl
theorem runOps_cons {C : CallEnv} {b : Nat} {o : SOper} {os : List SOper} {ρ : Type} {K : Env → Store → Option ρ} : runOps C b (o :: os) K = runOp C b o (runOps C b os K) := rfl

/-! ### Rounds -/

section
variable {σ τ : Type}
def iterN (step : σ → Option (σ ⊕ τ)) : Nat → σ → Option τ
  | 0, _ => none
  | n + 1, s => (step s).bind fun | .inl s' => iterN step n s' | .inr r => some r

open Classical in
/-- The end of a loop, if it has one. -/
noncomputable def iter (step : σ → Option (σ ⊕ τ)) (s : σ) : Option τ :=
  if h : ∃ r n, iterN step n s = some r then some (Classical.choose h) else none

theorem iterN_mono {step : σ → Option (σ ⊕ τ)} {n m : Nat} {s : σ} {r : τ} (h : iterN step n s = some r) (hm : n ≤ m) : iterN step m s = some r := by
  induction n generalizing m s with
  | zero => simp [iterN] at h
  | succ n ih =>
    obtain ⟨m, rfl⟩ : ∃ k, m = k + 1 := ⟨m - 1, by omega⟩
    simp only [iterN] at *
    cases hs : step s with
    | none => simp [hs] at h
    | some x =>
      cases x with
      | inl s' => simp only [hs, Option.bind_some] at *; exact ih h (by omega)
      | inr t => simpa [hs] using h

theorem iter_of {step : σ → Option (σ ⊕ τ)} {n : Nat} {s : σ} {r : τ} (h : iterN step n s = some r) : iter step s = some r := by
  have hx : ∃ r n, iterN step n s = some r := ⟨r, n, h⟩
  unfold iter
  rw [dif_pos hx]
  obtain ⟨m, hm⟩ := Classical.choose_spec hx
  have h1 := iterN_mono h (Nat.le_max_left n m)
  have h2 := iterN_mono hm (Nat.le_max_right n m)
  rw [h1] at h2
  exact h2.symm

theorem iter_some {step : σ → Option (σ ⊕ τ)} {s : σ} {r : τ} (h : iter step s = some r) : ∃ n, iterN step n s = some r := by
  unfold iter at h
  split at h
  · rename_i hx
    obtain ⟨n, hn⟩ := Classical.choose_spec hx
    exact ⟨n, by rw [hn]; exact h⟩
  · cases h

theorem iter_eq (step : σ → Option (σ ⊕ τ)) (s : σ) : iter step s = (step s).bind fun | .inl s' => iter step s' | .inr r => some r := by
  cases hs : step s with
  | none =>
    simp only [Option.bind_none]
    cases h : iter step s with
    | none => rfl
    | some r =>
      obtain ⟨n, hn⟩ := iter_some h
      cases n with
      | zero => simp [iterN] at hn
      | succ n => simp [iterN, hs] at hn
  | some x =>
    cases x with
    | inr t => exact iter_of (n := 1) (by simp [iterN, hs])
    | inl s' =>
      simp only [Option.bind_some]
      cases h : iter step s' with
      | some r =>
        obtain ⟨n, hn⟩ := iter_some h
        exact iter_of (n := n + 1) (by simp [iterN, hs, hn])
      | none =>
        cases h2 : iter step s with
        | none => rfl
        | some r =>
          obtain ⟨n, hn⟩ := iter_some h2
          cases n with
          | zero => simp [iterN] at hn
          | succ n =>
            simp only [iterN, hs, Option.bind_some] at hn
            rw [iter_of hn] at h
            cases h

end

/-! ### Code -/

inductive Ex where
  | normal
  | exit (id : Nat)
  | ret

inductive SCode where
  | skip
  | ops (l : List SOper)
  | seq (a b : SCode)
  | cond (c : Opd) (a b : SCode)
  | block (id : Nat) (body : SCode)
  /-- 'live': the slots that a round hands to the next · 'inv': those that it only reads · 'outs': those that it writes and that are read behind it · 'pass': those behind it that it does not write. -/
  | loop (live inv outs pass : List Nat) (body : SCode)
  /-- a walk over a map, in whatever order: 'it': the walk · 'tup', 'ok': what its step writes · the rest as_ a loop's -/
  | range (it tup ok : Nat) (live inv outs pass : List Nat) (body : SCode)
  | exit (id : Nat)
  | ret

def condK {ρ : Type} (c : AV) (x y : Option ρ) : Option ρ :=
  match c with
  | .bool b => if b = true then x else y
  | _ => none

def below (n : Nat) : AV → Bool
  | .sl _ (.own i) => Nat.blt i n
  | .ptr i _ => Nat.blt i n
  | .osl i _ _ _ => Nat.blt i n
  | .map i => Nat.blt i n
  | .clo _ caps => caps.attach.all fun ⟨c, _⟩ => below n c
  | .agg cs => cs.attach.all fun ⟨c, _⟩ => below n c
  | .tup vs => vs.attach.all fun ⟨c, _⟩ => below n c
  | _ => true

def belows (n : Nat) : List AV → Bool
  | [] => true
  | v :: vs => below n v && belows n vs

def belowsM (n : Nat) : List (AV × AV) → Bool
  | [] => true
  | e :: es => below n e.2 && belowsM n es

def entBelow (n : Nat) : Ent → Bool
  | .obj cs => belows n cs
  | .map es => belowsM n es
  | .iter m _ _ => Nat.blt m n
  | _ => true

def entsBelow (n : Nat) : List Ent → Bool
  | [] => true
  | x :: xs => entBelow n x && entsBelow n xs

/-- A loop's next round: the store is cut back to its height at the round's begin, if nothing points behind it (b: the height at the function's begin). -/
def nextS (b n : Nat) (vs : List AV) (S : Store) : Option (List AV × Store) :=
  if (belows n vs && entsBelow n ((S.take n).drop b)) = true then some (vs, S.take n) else some (vs, S)

def envOf : List Nat → List AV → Nat → Env → Env
  | [], _, _, e => e
  | k :: ks, vs, i, e => fun n => bif Nat.beq k n then vs.getD i .u else envOf ks vs (i + 1) e n

/-- By how a piece of code ends. (That its text names 'runOps' makes the kernel lay it open ahead of what the printed functions are made of.) -/
noncomputable def exK {κ : Type} (n : κ) (x : Nat → κ) (r : κ) (e : Ex) : κ :=
  let _ := @runOps
  match e with
  | .normal => n
  | .exit i => x i
  | .ret => r

open Classical in
/-- What all ways come to, if there is one and they agree. -/
noncomputable def agree {α ρ : Type} : List α → (α → Option ρ) → Option ρ
  | [], _ => none
  | a :: l, f => (f a).bind fun r => if ∀ y ∈ l, f y = some r then some r else none

theorem agree_some {α ρ : Type} {l : List α} {f : α → Option ρ} {r : ρ} : agree l f = some r ↔ l ≠ [] ∧ ∀ y ∈ l, f y = some r := by
  cases l with
  | nil => simp [agree]
  | cons a l =>
    simp only [agree, Option.bind_eq_some_iff]
    constructor
    · rintro ⟨r', h1, h2⟩
      split at h2
      · rename_i h3
        cases h2
        exact ⟨by simp, fun y hy => by rcases List.mem_cons.1 hy with rfl | h4; exact h1; exact h3 y h4⟩
      · cases h2
    · rintro ⟨_, h⟩
      exact ⟨r, h a (by simp), if_pos fun y hy => h y (by simp [hy])⟩

/-- A walk over a map: 'body' takes what the step yields, the values that a round hands to the next, the store, and the next round. -/
noncomputable def rangeK {ρ : Type} (it : AV) (body : AV → AV → List AV → Store → (List AV → Store → Option ρ) → Option ρ) : Nat → List AV → Store → Option ρ
  | 0, vs, S => match stepI it S with
    | some [] => body (.tup [.bool false]) (.bool false) vs (killI it S) fun _ _ => none
    | _ => none
  | n + 1, vs, S => (stepI it S).bind fun l => agree l fun c => body (.tup [.bool true, c.1, c.2.1]) (.bool true) vs c.2.2 fun vs' S' => rangeK it body n vs' S'

/-- How many steps are left. -/
def leftI (it : AV) (S : Store) : Nat := ((stepI it S).getD []).length

section
variable {κ : Type} {n : κ} {x : Nat → κ} {r : κ}
@[simp] theorem exK_normal : exK n x r .normal = n := rfl
@[simp] theorem exK_exit {i : Nat} : exK n x r (.exit i) = x i := rfl
@[simp] theorem exK_ret : exK n x r .ret = r := rfl
end

abbrev DenT : Type 1 := {ρ : Type} → (Ex → Env → Store → Option ρ) → Env → Store → Option ρ

/-- (By the recursor itself: so the kernel reckons it without detours.) -/
noncomputable def den (C : CallEnv) (b : Nat) (c : SCode) : DenT :=
  SCode.rec (motive := fun _ => DenT)
    (fun {_} K => K .normal)
    (fun l {_} K => runOps C b l (K .normal))
    (fun _ _ dx dy {_} K => dx (exK (dy K) (fun i => K (.exit i)) (K .ret)))
    (fun c _ _ dx dy {_} K e S => condK (c.ev e) (dx K e S) (dy K e S))
    (fun id _ dx {_} K => dx (exK (K .normal) (fun i e S => bif Nat.beq i id then K .normal e S else K (.exit i) e S) (K .ret)))
    (fun live inv outs pass _ dx {_} K e S =>
      (iter (σ := List AV × Store) (τ := Ex × List AV × Store) (fun s =>
          dx (exK (fun e' S' => (nextS b s.2.length (e'.gets live) S').bind fun r => some (.inl r))
              (fun i e' S' => some (.inr (.exit i, e'.gets outs, S')))
              (fun e' S' => some (.inr (.ret, e'.gets outs, S'))))
          (envOf live s.1 0 (e.only inv)) s.2)
        (e.gets live, S)).bind fun r => exK none (fun i => K (.exit i) (envOf outs r.2.1 0 (e.only pass)) r.2.2) (K .ret (envOf outs r.2.1 0 (e.only pass)) r.2.2) r.1)
    (fun it tup ok live inv outs pass _ dx {_} K e S =>
      rangeK (e.get it) (fun t o vs S' Kn => dx (exK (fun e' S'' => Kn (e'.gets live) S'')
          (fun i e' S'' => K (.exit i) (envOf outs (e'.gets outs) 0 (e.only pass)) S'')
          (fun e' S'' => K .ret (envOf outs (e'.gets outs) 0 (e.only pass)) S''))
        (((envOf live vs 0 (e.only inv)).put (some tup) t).put (some ok) o) S') (leftI (e.get it) S) (e.gets live) S)
    (fun id {_} K => K (.exit id))
    (fun {_} K => K .ret)
    c

section
variable {C : CallEnv} {b : Nat} {ρ : Type} {K : Ex → Env → Store → Option ρ}
theorem den_skip : den C b .skip K = K .normal := rfl
theorem den_ops {l : List SOper} : den C b (.ops l) K = runOps C b l (K .normal) := rfl
theorem den_seq {x y : SCode} : den C b (.seq x y) K = den C b x (exK (den C b y K) (fun i => K (.exit i)) (K .ret)) := rfl
theorem den_cond {c : Opd} {x y : SCode} {e : Env} {S : Store} : den C b (.cond c x y) K e S = condK (c.ev e) (den C b x K e S) (den C b y K e S) := rfl
theorem den_block {id : Nat} {x : SCode} : den C b (.block id x) K = den C b x (exK (K .normal) (fun i e S => bif Nat.beq i id then K .normal e S else K (.exit i) e S) (K .ret)) := rfl
theorem den_loop {live inv outs pass : List Nat} {x : SCode} {e : Env} {S : Store} : den C b (.loop live inv outs pass x) K e S =
    (iter (σ := List AV × Store) (τ := Ex × List AV × Store) (fun s =>
        den C b x (exK (fun e' S' => (nextS b s.2.length (e'.gets live) S').bind fun r => some (.inl r))
            (fun i e' S' => some (.inr (.exit i, e'.gets outs, S')))
            (fun e' S' => some (.inr (.ret, e'.gets outs, S'))))
        (envOf live s.1 0 (e.only inv)) s.2)
      (e.gets live, S)).bind fun r => exK none (fun i => K (.exit i) (envOf outs r.2.1 0 (e.only pass)) r.2.2) (K .ret (envOf outs r.2.1 0 (e.only pass)) r.2.2) r.1 := rfl
theorem den_range {it tup ok : Nat} {live inv outs pass : List Nat} {x : SCode} {e : Env} {S : Store} : den C b (.range it tup ok live inv outs pass x) K e S =
    rangeK (e.get it) (fun t o vs S' Kn => den C b x (exK (fun e' S'' => Kn (e'.gets live) S'')
          (fun i e' S'' => K (.exit i) (envOf outs (e'.gets outs) 0 (e.only pass)) S'')
          (fun e' S'' => K .ret (envOf outs (e'.gets outs) 0 (e.only pass)) S''))
        (((envOf live vs 0 (e.only inv)).put (some tup) t).put (some ok) o) S') (leftI (e.get it) S) (e.gets live) S := rfl
theorem den_exit {id : Nat} : den C b (.exit id) K = K (.exit id) := rfl
theorem den_ret : den C b .ret K = K .ret := rfl
end

inductive SRes where
  | tmp (t : Nat)
  | cell (t n : Nat)      -- a variable in memory: of one cell (0), of n cells that make a struct or an array

structure SFunc where
  nparams : Nat
  body : SCode
  results : List SRes
  /-- the function hands the right to append to its result on -/
  keep : Bool

def resV (e : Env) (S : Store) : SRes → Option AV
  | .tmp t => some (e.get t)
  | .cell t n => loadV (bif Nat.beq n 0 then none else some n) (e.get t) S

def resVs (e : Env) (S : Store) : List SRes → Option (List AV)
  | [] => some []
  | r :: rs => (resV e S r).bind fun v => (resVs e S rs).bind fun vs => some (v :: vs)

def fin1 (n : Nat) (S : Store) : AV → Option AV
  | .sl xs (.own i) => some (.sl xs (bif Nat.blt i n then .own i else .none))
  | .sl xs t => some (.sl xs t)
  | .osl i o l sz => bif Nat.blt i n then some (.osl i o l sz) else (rowsOf (.osl i o l sz) S).bind fun xs => (immRows sz xs).bind fun ys => some (.sl ys .none)
  | .agg cs => (imms cs).bind fun cs' => some (.agg cs')
  | .int k n => some (.int k n)
  | .bool b => some (.bool b)
  | .str s => some (.str s)
  | .ip cs o => some (.ip cs o)
  | .nilp => some .nilp
  | .ptr i o => some (.ptr i o)
  | .map i => some (.map i)
  | _ => none

def fins (n : Nat) (S : Store) : List AV → Option (List AV)
  | [] => some []
  | c :: cs => (fin1 n S c).bind fun c' => (fins n S cs).bind fun cs' => some (c' :: cs')

/-- No result is a slice over an entry of the call's own. -/
def noOsl (n : Nat) : List AV → Bool
  | [] => true
  | .osl i _ _ _ :: vs => Nat.blt i n && noOsl n vs
  | _ :: vs => noOsl n vs

def outV : List AV → AV
  | [v] => v
  | vs => .tup vs

/-- What a call hands back: without rights of its own; the store cut back, unless the result points into it. -/
def finish (keep : Bool) (n : Nat) (vs : List AV) (S : Store) : Option (AV × Store) :=
  (bif keep then some vs else fins n S vs).bind fun vs' =>
    if belows n vs' = true then some (outV vs', S.take n) else if (keep || noOsl n vs) = true then some (outV vs', S) else none

noncomputable def denF (C : CallEnv) (f : SFunc) (args : List AV) (S : Store) : Option (AV × Store) :=
  den C S.length f.body (exK (fun e S' => (resVs e S' f.results).bind fun vs => finish f.keep S.length vs S')
    (fun _ _ _ => none)
    (fun e S' => (resVs e S' f.results).bind fun vs => finish f.keep S.length vs S')) (envOf (List.range f.nparams) args 0 fun _ => .u) S

end Go.Abs

/-
  The translated code, read into the terms of AbsCore: each operation with the sizes and places that the program's types give.
-/
namespace Go.Abs
open Go

structure LoopAnn where
  live : List Nat
  inv : List Nat
  outs : List Nat
  pass : List Nat

/-- What is said of a function beside its text: how its variables are to be looked at. A wrong word makes the reading fail, it makes nothing true. -/
structure Ann where
  wr : List Nat := []
  pub : List Nat := []
  pbm : List Nat := []
  own : List (Nat × Nat) := []
  ownc : List (Nat × Nat × Nat) := []
  dis : List Nat := []
  frz : List Nat := []
  mt : List Nat := []
  pur : List Nat := []
  avo : List (Nat × List Nat) := []
  lr : List (Nat × Nat) := []
  li : List Nat := []
  keep : Bool := false
  loops : List LoopAnn := []

def constCell : Value → Option AV
  | .int k n => some (.int k n)
  | .bool b => some (.bool b)
  | .string s => some (.str s.data.toList)
  | .slice none 0 0 => some (.sl [] .full)
  | .pointer none => some .nilp
  | _ => none

def constCells : List Value → Option (List AV)
  | [] => some []
  | v :: vs => (constCell v).bind fun a => (constCells vs).bind fun as_ => some (a :: as_)

def constV : Value → Option AV
  | .agg cs => (constCells cs.toList).bind fun as_ => some (.agg as_)
  | .map none => some .nilp
  | v => constCell v

structure Tabs where
  P : Program
  glob : Nat → Option (List AV)

variable (T : Tabs) (an : Ann)

def opdC : Operand → Option Opd
  | .tmp t => some (.tmp t)
  | .const v => (constV v).bind fun a => some (.const a)
  | .global g => (T.glob g).bind fun cs => some (.const (.ip cs 0))
  | .func f => some (.const (.clo f []))

def opdsC : List Operand → Option (List Opd)
  | [] => some []
  | x :: xs => (opdC T x).bind fun a => (opdsC xs).bind fun as_ => some (a :: as_)

def opdO : Option Operand → Option (Option Opd)
  | none => some none
  | some x => (opdC T x).bind fun a => some (some a)

def sizeC (t : Nat) : Option Nat := (T.P.info? t).bind fun i => some i.size
/-- The cells of a type, and whether it is a struct or an array. -/
def aggC (t : Nat) : Option Bool := (T.P.underlying t).bind fun d => match d with
  | .struct _ | .array _ _ => some true
  | _ => some false
def shapeC (t : Nat) : Option (Option Nat) := (aggC T t).bind fun b => (sizeC T t).bind fun n => some (bif b then some n else none)
def zeroC (t : Nat) : Option (List AV) := (T.P.info? t).bind fun i => i.zero.bind fun z => constCells z.cells.toList
/-- The zero value of a type that is no struct and no array. -/
def zero1C (t : Nat) : Option AV := (T.P.info? t).bind fun i => i.zero.bind fun z => constCell z
/-- An element that is not too wide: so many cells, so many bytes. -/
def elemC (t : Nat) : Option Nat := (T.P.info? t).bind fun i => i.zero.bind fun z => bif (Nat.ble 1 i.size && Nat.ble i.bytes 1024 && Nat.beq z.cells.size i.size) then some i.size else none

/-- All fields' types are known. -/
def infosOk : List Field → Bool
  | [] => true
  | f :: fs => (T.P.info? f.type).isSome && infosOk fs

def partsS (fields : Array Field) : List (Nat × Operand) → Option (List (Nat × Nat × Opd))
  | [] => some []
  | (i, x) :: r => fields[i]?.bind fun f => (sizeC T f.type).bind fun n => (opdC T x).bind fun a => (partsS fields r).bind fun r' => some ((f.offset, n, a) :: r')

def partsA (sz : Nat) : List (Nat × Operand) → Option (List (Nat × Nat × Opd))
  | [] => some []
  | (i, x) :: r => (opdC T x).bind fun a => (partsA sz r).bind fun r' => some ((i * sz, sz, a) :: r')

def elemsL (zero : List AV) (parts : List (Nat × Operand)) : (n i : Nat) → Option (List (Opd ⊕ List AV))
  | 0, _ => some []
  | n + 1, i =>
    match parts.find? (fun (p : Nat × Operand) => p.1 == i) with
    | some (_, x) => (opdC T x).bind fun a => (elemsL zero parts n (i + 1)).bind fun r => some (Sum.inl a :: r)
    | none => (elemsL zero parts n (i + 1)).bind fun r => some (Sum.inr zero :: r)

def idxOk (n : Nat) : List (Nat × Operand) → Bool
  | [] => true
  | p :: r => Nat.blt p.1 n && (r.all fun q => !Nat.beq q.1 p.1) && idxOk n r

def kindC (t : Nat) : Option Nat := match T.P.underlying t with
  | some (.int _) => some 0
  | some .string => some 1
  | some .bool => some 2
  | _ => none

def kindsS : List Field → Nat → Option (List Nat)
  | [], _ => some []
  | f :: fs, i => bif f.name != "_" && Nat.beq f.offset i then (kindC T f.type).bind fun k => (kindsS fs (i + 1)).bind fun ks => some (k :: ks) else none

/-- A type whose values are told apart cell by cell: is it a struct, and its cells' kinds. -/
def kindsC (t : Nat) : Option (Bool × List Nat) := match T.P.underlying t with
  | some (.struct fs) => bif T.P.stoodInHeld t then none else (kindsS T fs.toList 0).bind fun ks => some (true, ks)
  | _ => (kindC T t).bind fun k => some (false, [k])

def fromO {α : Type} : Option α → (α → SOp) → SOp
  | some x, f => f x
  | none, _ => .fail

def callC (dst : Option Nat) (c : Call) : Option SOp :=
  match c.callee, c.args.toList, c.argTypes.toList with
  | .value (.func f), args, _ => (opdsC T args).bind fun as_ => 
    match dst.bind fun d => an.avo.find? fun (p : Nat × List Nat) => p.1 == d with
    | some (_, av) => some (.callO f as_ av)
    | none => some (bif an.pur.contains f then .callP f as_ else .call f as_)
  | .value (.tmp t), args, _ => (opdsC T args).bind fun as_ => some (.callV (.tmp t) as_)
  | .builtin .len, [x], [t] => (opdC T x).bind fun a => (T.P.underlying t).bind fun d => match d with
    | .string => some (.lenS a)
    | .slice _ => some (.len a)
    | .map _ _ => some (.lenM a)
    | .array n _ => some (.mv (.const (i64 n)))
    | .pointer e => (T.P.underlying e).bind fun d => match d with
      | .array n _ => some (.mv (.const (i64 n)))
      | _ => none
    | _ => none
  | .builtin .append, [x, y], [t, u] => (opdC T x).bind fun a => (opdC T y).bind fun b => (T.P.underlying t).bind fun d => match d with
    | .slice e => (elemC T e).bind fun sz => (T.P.underlying u).bind fun d' => match d' with
      | .slice _ | .string => some (bif (dst.map an.wr.contains).getD false then .appendM sz a b else .append sz a b)
      | _ => none
    | _ => none
  | .builtin .min, args, _ => (opdsC T args).bind fun as_ => some (.minmax false as_)
  | .builtin .max, args, _ => (opdsC T args).bind fun as_ => some (.minmax true as_)
  | _, _, _ => none

def isNeq : BinOp → Bool
  | .neq => true
  | _ => false

def isCmp : BinOp → Bool
  | .eql | .neq => true
  | _ => false

def opC (dst : Option Nat) (op : Op) : Option SOp :=
  let wr := (dst.map an.wr.contains).getD false
  match op with
  | .move x => (opdC T x).bind fun a => some (.mv a)
  | .assign x => (opdC T x).bind fun a => some (.mv a)
  | .pick c a b => (opdC T c).bind fun c => (opdC T a).bind fun a => (opdC T b).bind fun b => some (.pick c a b)
  | .alloc t => bif (dst.map fun d => an.pub.contains d || an.pbm.contains d).getD false then (T.P.info? t).bind fun i => i.zero.bind fun z => some (.allocP z.cells.size) else (zeroC T t).bind fun z => (sizeC T t).bind fun n => bif Nat.beq z.length n then some (.alloc z) else none
  | .box t x => (opdC T x).bind fun a => (sizeC T t).bind fun _ => some (bif wr then .boxM a else .boxP a)
  | .build t parts => (zeroC T t).bind fun z => (T.P.underlying t).bind fun d => match d with
    | .struct fs => bif infosOk T fs.toList then (partsS T fs parts.toList).bind fun ps => some (.build z ps) else none
    | .array _ e => (sizeC T e).bind fun sz => (partsA T sz parts.toList).bind fun ps => some (.build z ps)
    | _ => none
  | .buildSlice t len parts => (T.P.underlying t).bind fun d => match d with
    | .slice e => (zeroC T e).bind fun z => (elemC T e).bind fun sz => bif (Nat.ble len 1000 && Nat.ble sz 1000 && Nat.beq z.length sz && idxOk len parts.toList) then
        (elemsL T z parts.toList len 0).bind fun es => some (bif wr then .bsliceM sz es else .bslice sz es) else none
    | _ => none
  | .load t a => (opdC T a).bind fun a => (shapeC T t).bind fun n => some (match dst.bind fun d => an.lr.find? fun (p : Nat × Nat) => p.1 == d with
      | some (_, r) => .loadR n a r
      | none => bif (dst.map an.li.contains).getD false then .loadI n a else .load n a)
  | .store t a v => (sizeC T t).bind fun n => (opdC T v).bind fun v => match a with
    | .tmp s => some (bif an.pub.contains s then .storeP n s v else bif an.pbm.contains s then .storeN n s v else .store n (.tmp s) v)
    | _ => none
  | .nilCheck x => (opdC T x).bind fun a => some (.nilc a)
  | .binOp o t x y _ => (opdC T x).bind fun a => (opdC T y).bind fun b => (T.P.underlying t).bind fun d => match d with
    | .struct _ => bif isCmp o then (kindsC T t).bind fun ks => some (.eqc (isNeq o) ks.2 a b) else none
    | .int _ | .string => some (.bin o a b)
    | .bool => some (.binB o a b)
    | _ => none
  | .unOp o _ x => (opdC T x).bind fun a => some (.un o a)
  | .convert s t x => (opdC T x).bind fun a => (T.P.underlying s).bind fun d => (T.P.underlying t).bind fun d' => match d, d' with
    | .int _, .int k => some (.conv k a)
    | .int _, .string => some (.ofInt a)
    | .string, .slice e => (T.P.underlying e).bind fun b => match b with
      | .int .u8 => some (.toBytes a)
      | _ => none
    | .slice e, .string => (T.P.underlying e).bind fun b => match b with
      | .int .u8 => some (.ofBytes a)
      | _ => none
    | _, _ => none
  | .makeFunc (.func f) first captured => bif first.isEmpty then (opdsC T captured.toList).bind fun cs => some (.mkclo f cs) else none
  | .makeMap _ none => some .makeMap
  | .makeSlice t l c => (T.P.underlying t).bind fun d => match d with
    | .slice e => (zeroC T e).bind fun z => (elemC T e).bind fun sz => (opdC T l).bind fun l => (opdC T c).bind fun c => bif Nat.beq z.length sz then
        (bif (dst.map an.mt.contains).getD false then (match l with | .const (.int .i64 0) => some (.mtail sz c) | _ => none) else some (.mslice z l c)) else none
    | _ => none
  | .slice t x lo hi mx => (opdC T x).bind fun a => (opdO T lo).bind fun l => (opdO T hi).bind fun h => (opdO T mx).bind fun m => (T.P.underlying t).bind fun d => match d with
    | .string => bif m.isNone then some (.sliceS a l h) else none
    | .slice e => (elemC T e).bind fun sz => bif m.isNone || h.isSome then some (.slice sz a l h m) else none
    | .array n e => bif m.isNone then (elemC T e).bind fun sz => some (.sliceA sz n a l h) else none
    | _ => none
  | .fieldAddr t x f => (opdC T x).bind fun a => (T.P.underlying t).bind fun d => match d with
    | .struct fs => fs[f]?.bind fun f => (sizeC T f.type).bind fun n => bif Nat.ble 1 n then some (.fieldA f.offset a) else none
    | _ => none
  | .field t x f => (opdC T x).bind fun a => (T.P.underlying t).bind fun d => match d with
    | .struct fs => fs[f]?.bind fun f => (shapeC T f.type).bind fun n => some (.field f.offset n a)
    | _ => none
  | .indexAddr t x i => (opdC T x).bind fun a => (opdC T i).bind fun i => (T.P.underlying t).bind fun d => match d with
    | .array n e => (elemC T e).bind fun sz => some (.indexA sz (some n) a i)
    | .slice e => (elemC T e).bind fun sz => some (.indexA sz none a i)
    | _ => none
  | .index t x i => (opdC T x).bind fun a => (opdC T i).bind fun i => (T.P.underlying t).bind fun d => match d with
    | .array n e => (elemC T e).bind fun sz => (aggC T e).bind fun b => some (.index sz n b a i)
    | .string => some (.indexS a i)
    | _ => none
  | .lookup t m k ok => (opdC T m).bind fun m => (opdC T k).bind fun k => (T.P.underlying t).bind fun d => match d with
    | .map kt e => (zero1C T e).bind fun z => (kindsC T kt).bind fun ks => some (.lookup z ks.1 ks.2 m k ok)
    | _ => none
  | .mapUpdate t m k v => (opdC T m).bind fun m => (opdC T k).bind fun k => (opdC T v).bind fun v => (T.P.underlying t).bind fun d => match d with
    | .map kt _ => (kindsC T kt).bind fun ks => some (.mapSet ks.1 ks.2 m k v)
    | _ => none
  | .mapEntry t m k => (opdC T m).bind fun m => (opdC T k).bind fun k => (T.P.underlying t).bind fun d => match d with
    | .map kt e => (zero1C T e).bind fun z => (kindsC T kt).bind fun ks => some (.mapEntry z ks.1 ks.2 m k)
    | _ => none
  | .entryStore _ m st v => (opdC T m).bind fun m => (opdC T st).bind fun st => (opdC T v).bind fun v => some (.entryStore m st v)
  | .range t m => (opdC T m).bind fun m => (T.P.underlying t).bind fun d => match d with
    | .map _ _ => some (.range m)
    | _ => none
  | .entry it => (opdC T it).bind fun it => some (.entry it)
  | .extract x i => (opdC T x).bind fun a => some (.extract a i)
  | .call c => callC T an dst c
  | _ => none

/-- An operation that this reading does not take fails where it is met. -/
def opS (dst : Option Nat) (op : Op) : SOp :=
  let o := (opC T an dst op).getD .fail
  match dst with
  | none => o
  | some d =>
    match an.own.find? fun p => p.1 == d with
    | some (_, sz) => .post o (.own sz)
    | none =>
      match an.ownc.find? fun p => p.1 == d with
      | some (_, sz, j) => .post o (.ownCell sz j)
      | none => bif an.dis.contains d then .post o .disown else bif an.frz.contains d then .post o .freeze else o

def operC (ops : Array Oper) (o : Oper) : SOper :=
  match o.guard with
  | none => { dst := o.dst, op := opS T an o.dst o.op, guard := none }
  | some (j, b) =>
    match (ops[j]?).bind (·.dst) with
    | some d => { dst := o.dst, op := opS T an o.dst o.op, guard := some (d, b) }
    | none => { dst := o.dst, op := .fail, guard := none }

/-- Does an operation leave the store alone (and does it look at it)? -/
def quietB : SOp → Bool
  | .mv _ | .pick .. | .bin .. | .binB .. | .indexS .. | .lenS _ | .sliceS .. | .eqc .. | .un .. | .conv .. | .allocP _ | .boxP _ | .build .. | .bslice .. | .loadI .. | .len _ | .storeP .. | .nilc _ | .slice .. | .fieldA .. | .field .. | .indexA .. | .index ..
  | .extract .. | .mkclo .. | .minmax .. | .ofInt _ | .fail => true
  | .post o .disown => quietB o
  | _ => false

def readB : SOp → Bool
  | .load .. | .loadR .. | .lenM _ | .ofBytes _ | .lookup .. | .sliceA .. | .entry _ | .callP .. => true
  | .post o .disown => readB o
  | o => quietB o

def loadSlot : SOp → Option Nat
  | .loadR _ _ r => some r
  | _ => none

def avoids : SOp → List Nat
  | .callO _ _ av => av
  | _ => []

def commB (a b : SOp) : Bool := quietB a || quietB b || (readB a && readB b) || ((loadSlot a).any (avoids b).contains) || ((loadSlot b).any (avoids a).contains)

def opdSlots : Opd → List Nat
  | .tmp t => [t]
  | .const _ => []

def opdsSlots (l : List Opd) : List Nat := l.flatMap opdSlots
def opdoSlots : Option Opd → List Nat
  | some x => opdSlots x
  | none => []

/-- The slots that an operation reads. -/
def sreads : SOp → List Nat
  | .mv x | .un _ x | .conv _ x | .boxP x | .boxM x | .load _ x | .loadI _ x | .nilc x | .fieldA _ x | .field _ _ x | .len x | .lenS x | .lenM x | .toBytes x | .ofBytes x | .ofInt x | .extract x _ | .mtail _ x | .range x | .entry x => opdSlots x
  | .pick c a b => opdSlots c ++ (opdSlots a ++ opdSlots b)
  | .bin _ x y | .binB _ x y | .indexS x y | .eqc _ _ x y | .store _ x y | .indexA _ _ x y | .index _ _ _ x y | .append _ x y | .appendM _ x y | .mslice _ x y | .lookup _ _ _ x y _ | .mapEntry _ _ _ x y => opdSlots x ++ opdSlots y
  | .alloc _ | .allocP _ | .makeMap | .fail => []
  | .build _ ps => ps.flatMap fun p => opdSlots p.2.2
  | .bslice _ es | .bsliceM _ es => es.flatMap fun e => match e with | .inl x => opdSlots x | .inr _ => []
  | .storeP _ t v | .storeN _ t v => t :: opdSlots v
  | .slice _ x l h m => opdSlots x ++ (opdoSlots l ++ (opdoSlots h ++ opdoSlots m))
  | .sliceS x l h => opdSlots x ++ (opdoSlots l ++ opdoSlots h)
  | .sliceA _ _ x l h => opdSlots x ++ (opdoSlots l ++ opdoSlots h)
  | .mkclo _ xs | .call _ xs | .callP _ xs | .minmax _ xs => opdsSlots xs
  | .loadR _ x r => opdSlots x ++ [r]
  | .callO _ xs av => opdsSlots xs ++ av
  | .callV f xs => opdSlots f ++ opdsSlots xs
  | .mapSet _ _ m k v | .entryStore m k v => opdSlots m ++ (opdSlots k ++ opdSlots v)
  | .post o _ => sreads o

def looksS (s : SOper) : List Nat := sreads s.op ++ (match s.guard with | some (g, _) => [g] | none => [])

def SOper.outs (x : SOper) : List Nat := x.to.toList ++ x.dst.toList

def disj (a b : List Nat) : Bool := a.all fun x => !b.contains x

def apartB (x y : SOper) : Bool := disj x.outs (looksS y) && disj x.outs y.outs && disj y.outs (looksS x)

/-- Behind which operations each one stands, directly or through others: as_ bits. -/
def behindL (ops : List Oper) (acc : List Nat) : List Nat :=
  match ops with
  | [] => acc
  | o :: r => behindL r (acc ++ [o.after.toList.foldl (fun m e => if Region.binds .any e then Nat.lor m (Nat.lor (Nat.pow 2 e.on) (acc.getD e.on 0)) else m) 0])

def freeB (ops : Array Oper) (l : List SOper) (bl : List Nat) (listed : Array Bool) (i : Nat) : Bool :=
  match ops[i]?, l[i]? with
  | some _, some si => (List.range ops.size).all fun j => j == i || listed.getD j true || match ops[j]?, l[j]? with
      | some _, some sj => (bl.getD j 0).testBit i || (apartB si sj && commB si.op sj.op)
      | _, _ => false
  | _, _ => false

def lexFromB (ops : Array Oper) (l : List SOper) (bl : List Nat) : Nat → Nat → Array Bool → Bool
  | 0, _, listed => (Region.ready .any ops listed).isEmpty
  | n + 1, k, listed => (Region.ready .any ops listed).contains k && freeB ops l bl listed k && lexFromB ops l bl n (k + 1) (listed.setIfInBounds k true)

def drawB (ops : Array Oper) (l : List SOper) : Bool := Region.noSelect ops && lexFromB ops l (behindL ops.toList []) ops.size 0 (Array.replicate ops.size false)

def isDst : Option Nat → Nat → Bool
  | some d, t => Nat.beq d t
  | none, _ => false

def hasN : Option Nat → Nat → Bool
  | some m, n => Nat.beq m n
  | none, _ => false

/-- A variable's first store stands behind its making, and nothing writes the slot between: the slots that wait, with their cells' number. -/
def pdStep (o : SOper) (pd : Nat → Option Nat) : Option (Nat → Option Nat) :=
  match o.op with
  | .allocP n => bif o.guard.isNone then some fun t => bif isDst o.dst t then some n else pd t else none
  | .storeP n t _ | .storeN n t _ => bif (hasN (pd t) n && o.guard.isNone && o.dst.isNone) then some fun s => bif Nat.beq s t then none else pd s else none
  | _ => some fun t => bif isDst o.dst t then none else pd t

def pdRun : List SOper → (Nat → Option Nat) → Bool
  | [], _ => true
  | o :: l, pd => match pdStep o pd with
    | some pd' => pdRun l pd'
    | none => false

def regionC (ops : Array Oper) (draw : Bool) : Option (List SOper) :=
  let l := ops.toList.map (operC T an ops)
  bif ((!draw || drawB ops l) && pdRun l fun _ => none) then some l else none

def writesL (l : List SOper) : List Nat := l.flatMap (·.outs)

def SCode.writes : SCode → List Nat
  | .ops l => writesL l
  | .seq a b => a.writes ++ b.writes
  | .cond _ a b => a.writes ++ b.writes
  | .block _ b => b.writes
  | .loop _ _ _ _ b => b.writes
  | .range _ tup ok _ _ _ _ b => tup :: ok :: b.writes
  | _ => []

/-- The head of a walk's round: the step, and whether it met anything. -/
def walkHead (ops : Array Oper) : Option (Nat × Nat × Nat) :=
  match ops.toList with
  | [⟨some t, .next (.tmp it) false, _, _, _, none⟩, ⟨some ok, .extract (.tmp t') 0, _, _, _, none⟩] => bif Nat.beq t t' && !Nat.beq t it && !Nat.beq ok it && !Nat.beq ok t then some (it, t, ok) else none
  | _ => none

def codeC : Code → List LoopAnn → Option (SCode × List LoopAnn)
  | .skip, ls => some (.skip, ls)
  | .region _ ops draw, ls => (regionC T an ops draw).bind fun l => some (.ops l, ls)
  | .seq a b, ls => (codeC a ls).bind fun x => (codeC b x.2).bind fun y => some (.seq x.1 y.1, y.2)
  | .cond c a b, ls => (opdC T c).bind fun c => (codeC a ls).bind fun x => (codeC b x.2).bind fun y => some (.cond c x.1 y.1, y.2)
  | .block id b, ls => (codeC b ls).bind fun x => some (.block id x.1, x.2)
  | .loop (.seq (.region id ops false) c), l :: ls =>
    match walkHead ops with
    | some (it, tup, ok) => (codeC c ls).bind fun x => let w := tup :: ok :: x.1.writes
      bif (disj l.inv w && disj l.pass w && disj [it] w) then some (.range it tup ok l.live l.inv l.outs l.pass x.1, x.2) else none
    | none => (codeC (.seq (.region id ops false) c) ls).bind fun x => bif (disj l.inv x.1.writes && disj l.pass x.1.writes) then some (.loop l.live l.inv l.outs l.pass x.1, x.2) else none
  | .loop b, l :: ls => (codeC b ls).bind fun x => bif (disj l.inv x.1.writes && disj l.pass x.1.writes) then some (.loop l.live l.inv l.outs l.pass x.1, x.2) else none
  | .exit id, ls => some (.exit id, ls)
  | .ret, ls => some (.ret, ls)
  | _, _ => none

def resC : ResultVar → Option SRes
  | .tmp t => some (.tmp t)
  | .cell a t => (shapeC T t).bind fun n => match n with
    | some 0 => none
    | n => some (.cell a (n.getD 0))

def resCs : List ResultVar → Option (List SRes)
  | [] => some []
  | r :: rs => (resC T r).bind fun a => (resCs rs).bind fun as_ => some (a :: as_)

def funcC (f : Func) : Option SFunc :=
  f.body.bind fun b => (codeC T an b an.loops).bind fun x => (resCs T f.results.toList).bind fun rs => bif (x.1.writes.all fun d => Nat.blt d f.ntmps) && Nat.ble (f.params.size + f.nfree) f.ntmps then some { nparams := f.params.size + f.nfree, body := x.1, results := rs, keep := an.keep } else none

end Go.Abs

/-
  Calls by their number: what a function comes to, as_ the limit of deeper and deeper calls; and the equation by which it is its own text.
-/
namespace Go.Abs
open Go

/-- Functions that are given otherwise than by their text. -/
abbrev Over := Nat → Option (List AV → Store → Option (AV × Store))

structure Prg where
  T : Tabs
  an : Nat → Ann
  ov : Over

noncomputable def Prg.step (Y : Prg) (C : CallEnv) : CallEnv := fun f args S =>
  match Y.ov f with
  | some g => g args S
  | none =>
    match (Y.T.P.funcs[f]?).bind (funcC Y.T (Y.an f)) with
    | some sf => denF C sf args S
    | none => none

/-- What a function's text comes to. -/
noncomputable def Prg.text (T : Tabs) (an : Nat → Ann) (C : CallEnv) : CallEnv := fun f args S =>
  match (T.P.funcs[f]?).bind (funcC T (an f)) with
  | some sf => denF C sf args S
  | none => none

theorem Prg.step_none {T : Tabs} {an : Nat → Ann} {ov : Over} {C : CallEnv} {f : Nat} {args : List AV} {S : Store} (h : ov f = none) : (Prg.mk T an ov).step C f args S = Prg.text T an C f args S := by
  unfold Prg.step Prg.text
  simp only [h]

noncomputable def Prg.callN (Y : Prg) : Nat → CallEnv
  | 0 => fun _ _ _ => none
  | n + 1 => Y.step (Y.callN n)

open Classical in
noncomputable def Prg.call (Y : Prg) : CallEnv := fun f args S =>
  if h : ∃ r n, Y.callN n f args S = some r then some (Classical.choose h) else none

/-- C answers at least what A answers. -/
def Le (A C : CallEnv) : Prop := ∀ f args S r, A f args S = some r → C f args S = some r

section
variable {ρ : Type}

theorem bind_some_of {α : Type} {o : Option α} {K : α → Option ρ} {r : ρ} (h : o.bind K = some r) : ∃ a, o = some a ∧ K a = some r := Option.bind_eq_some_iff.1 h

/-- Whatever C answers, all of A's from some number on answer. -/
def Lim (A : Nat → CallEnv) (C : CallEnv) : Prop := ∀ f args S r, C f args S = some r → ∃ n, ∀ m, n ≤ m → A m f args S = some r

/-- What an operation comes to, as_ one equation for whatever follows. -/
theorem ghK_fact (g : Gh) (v : AV) (S : Store) (K : AV → Store → Option ρ) (r : ρ) (h : ghK g v S K = some r) :
    ∃ v' S', K v' S' = some r ∧ ∀ {ρ' : Type} (K' : AV → Store → Option ρ'), ghK g v S K' = K' v' S' := by
  cases g <;> simp only [ghK] at * <;> obtain ⟨x, hx, hk⟩ := bind_some_of h <;> first
    | exact ⟨x.1, x.2, hk, fun K' => by simp [hx]⟩
    | exact ⟨x, S, hk, fun K' => by simp [hx]⟩

theorem evalK_fact {A : Nat → CallEnv} {C : CallEnv} (hl : Lim A C) (b : Nat) (o : SOp) (e : Env) (S : Store) : ∀ {ρ : Type} (K : AV → Store → Option ρ) (r : ρ), evalK C b o e S K = some r →
    ∃ v S', K v S' = some r ∧ (∀ {ρ' : Type} (K' : AV → Store → Option ρ'), evalK C b o e S K' = K' v S') ∧ ∃ n, ∀ m, n ≤ m → ∀ {ρ' : Type} (K' : AV → Store → Option ρ'), evalK (A m) b o e S K' = K' v S' := by
  induction o with
  | post o g ih =>
    intro ρ K r h
    simp only [evalK] at h
    obtain ⟨v, S', hk, hK, n, hn⟩ := ih _ r h
    obtain ⟨v', S'', hk', hK'⟩ := ghK_fact g v S' K r hk
    refine ⟨v', S'', hk', fun K' => ?_, n, fun m hm ρ' K' => ?_⟩
    · simp only [evalK]; rw [hK]; exact hK' K'
    · simp only [evalK]; rw [hn m hm]; exact hK' K'
  | call f args =>
    intro ρ K r h
    simp only [evalK] at *
    obtain ⟨as_, has, h⟩ := bind_some_of h
    obtain ⟨x, hx, hk⟩ := bind_some_of h
    obtain ⟨n, hn⟩ := hl _ _ _ _ hx
    exact ⟨x.1, x.2, hk, fun K' => by simp [has, hx], n, fun m hm ρ' K' => by simp [has, hn m hm]⟩
  | callP f args =>
    intro ρ K r h
    simp only [evalK] at *
    obtain ⟨as_, has, h⟩ := bind_some_of h
    obtain ⟨x, hx, hk⟩ := bind_some_of h
    obtain ⟨y, hy, hs⟩ := bind_some_of hx
    obtain ⟨n, hn⟩ := hl _ _ _ _ hy
    exact ⟨x, S, hk, fun K' => by simp [has, hy, hs], n, fun m hm ρ' K' => by simp [has, hn m hm, hs]⟩
  | callO f args av =>
    intro ρ K r h
    simp only [evalK] at *
    obtain ⟨as_, has, h⟩ := bind_some_of h
    obtain ⟨x, hx, hk⟩ := bind_some_of h
    obtain ⟨y, hy, hs⟩ := bind_some_of hx
    obtain ⟨n, hn⟩ := hl _ _ _ _ hy
    exact ⟨x.1, x.2, hk, fun K' => by simp [has, hy, hs], n, fun m hm ρ' K' => by simp [has, hn m hm, hs]⟩
  | callV fv args =>
    intro ρ K r h
    simp only [evalK] at *
    split at h
    · rename_i f caps hf
      obtain ⟨as_, has, h⟩ := bind_some_of h
      obtain ⟨x, hx, hk⟩ := bind_some_of h
      obtain ⟨n, hn⟩ := hl _ _ _ _ hx
      exact ⟨x.1, x.2, hk, fun K' => by simp [has, hx], n, fun m hm ρ' K' => by simp [has, hn m hm]⟩
    · cases h
  | storeP n t v | storeN n t v =>
    intro ρ K r h
    simp only [evalK] at *
    obtain ⟨x, hx, h⟩ := bind_some_of h
    split at h
    · rename_i hn
      exact ⟨_, _, h, fun K' => by simp [hx, hn], 0, fun m hm ρ' K' => by simp [hx, hn]⟩
    · cases h
  | fail => intro ρ K r h; simp [evalK] at h
  | _ =>
    intro ρ K r h
    simp only [evalK] at *
    first
      | exact ⟨_, _, h, fun K' => rfl, 0, fun m hm ρ' K' => rfl⟩
      | (obtain ⟨x, hx, hk⟩ := bind_some_of h
         exact ⟨_, _, hk, fun K' => by simp [hx], 0, fun m hm ρ' K' => by simp [hx]⟩)

theorem guardK_fact {g : AV} {w : Bool} {m s : Option (AV × Store)} {x : AV × Store} (h : guardK g w m s = some x) :
    (guardK g w m s = m ∧ m = some x ∧ ∀ m' s' : Option (AV × Store), guardK g w m' s' = m') ∨ (s = some x ∧ ∀ m' : Option (AV × Store), guardK g w m' s = some x) := by
  by_cases hu : g = .und
  · subst hu; exact .inr ⟨h, fun _ => h⟩
  cases g <;> simp only [guardK] at h <;> first | (cases h; done) | (exact absurd rfl hu) | skip
  rename_i b
  by_cases hb : b = w
  · left; subst hb; exact ⟨by simp [guardK], by simpa using h, fun _ _ => by simp [guardK]⟩
  · right; exact ⟨by simpa [hb] using h, fun _ => by simpa [guardK, hb] using h⟩

/-- The same of an operation with its guard: it comes to one environment and one store. -/
theorem runOp_fact {A : Nat → CallEnv} {C : CallEnv} (hl : Lim A C) (b : Nat) (o : SOper) (e : Env) (S : Store) (K : Env → Store → Option ρ) (r : ρ) (h : runOp C b o K e S = some r) :
    ∃ e' S', K e' S' = some r ∧ (∀ {ρ' : Type} (K' : Env → Store → Option ρ'), runOp C b o K' e S = K' e' S') ∧ ∃ n, ∀ m, n ≤ m → ∀ {ρ' : Type} (K' : Env → Store → Option ρ'), runOp (A m) b o K' e S = K' e' S' := by
  cases hg : o.guard with
  | none =>
    simp only [runOp, hg] at *
    obtain ⟨v, S', hk, hK, n, hn⟩ := evalK_fact hl b o.op e S _ r h
    exact ⟨_, _, hk, fun K' => hK _, n, fun m hm ρ' K' => hn m hm _⟩
  | some gw =>
    obtain ⟨g, w⟩ := gw
    simp only [runOp, hg] at *
    obtain ⟨x, hx, hk⟩ := bind_some_of h
    rcases guardK_fact hx with ⟨h1, h2, h3⟩ | ⟨h1, h2⟩
    · obtain ⟨v, S', hk', hK, n, hn⟩ := evalK_fact hl b o.op e S _ x h2
      cases hk'
      refine ⟨_, _, hk, fun K' => ?_, n, fun m hm ρ' K' => ?_⟩
      · rw [h3, hK]; rfl
      · rw [h3, hn m hm]; rfl
    · refine ⟨_, _, hk, fun K' => ?_, 0, fun m _ ρ' K' => ?_⟩ <;> rw [h2] <;> rfl

theorem runOps_fact {A : Nat → CallEnv} {C : CallEnv} (hl : Lim A C) (b : Nat) : ∀ (l : List SOper) (e : Env) (S : Store) {ρ : Type} (K : Env → Store → Option ρ) (r : ρ), runOps C b l K e S = some r →
    ∃ e' S', K e' S' = some r ∧ (∀ {ρ' : Type} (K' : Env → Store → Option ρ'), runOps C b l K' e S = K' e' S') ∧ ∃ n, ∀ m, n ≤ m → ∀ {ρ' : Type} (K' : Env → Store → Option ρ'), runOps (A m) b l K' e S = K' e' S'
  | [], e, S, _, K, r, h => ⟨e, S, h, fun _ => rfl, 0, fun _ _ _ _ => rfl⟩
  | o :: l, e, S, _, K, r, h => by
    obtain ⟨e1, S1, h1, hK1, n1, hn1⟩ := runOp_fact hl b o e S _ r h
    obtain ⟨e2, S2, h2, hK2, n2, hn2⟩ := runOps_fact hl b l e1 S1 K r h1
    refine ⟨e2, S2, h2, fun K' => ?_, max n1 n2, fun m hm ρ' K' => ?_⟩
    · simp only [runOps_nil, runOps_cons]; rw [hK1, hK2]
    · simp only [runOps_nil, runOps_cons]; rw [hn1 m (by omega), hn2 m (by omega)]

theorem iterN_congr {σ τ : Type} {f g : σ → Option (σ ⊕ τ)} (h : ∀ s x, f s = some x → g s = some x) : ∀ n s r, iterN f n s = some r → iterN g n s = some r
  | 0, s, r, hr => by simp [iterN] at hr
  | n + 1, s, r, hr => by
    simp only [iterN] at *
    obtain ⟨x, hx, hk⟩ := bind_some_of hr
    rw [h s x hx]
    cases x with
    | inl s' => exact iterN_congr h n s' r hk
    | inr t => exact hk

theorem forall_lim {α : Type} {P : Nat → α → Prop} : ∀ (l : List α), (∀ y ∈ l, ∃ n, ∀ m, n ≤ m → P m y) → ∃ n, ∀ m, n ≤ m → ∀ y ∈ l, P m y
  | [], _ => ⟨0, fun _ _ y hy => by simp at hy⟩
  | a :: l, h => by
    obtain ⟨n1, h1⟩ := h a (by simp)
    obtain ⟨n2, h2⟩ := forall_lim l fun y hy => h y (by simp [hy])
    refine ⟨max n1 n2, fun m hm y hy => ?_⟩
    rcases List.mem_cons.1 hy with rfl | hy
    · exact h1 m (by omega)
    · exact h2 m (by omega) y hy

/-- What a piece of code comes to, the calls deep enough come to. -/
theorem den_lim {A : Nat → CallEnv} {C : CallEnv} (hl : Lim A C) (b : Nat) (c : SCode) : ∀ {ρ : Type} (K : Ex → Env → Store → Option ρ) (Km : Nat → Ex → Env → Store → Option ρ),
    (∀ x e S r, K x e S = some r → ∃ n, ∀ m, n ≤ m → Km m x e S = some r) → ∀ e S r, den C b c K e S = some r → ∃ n, ∀ m, n ≤ m → den (A m) b c (Km m) e S = some r := by
  induction c with
  | skip => exact fun K Km hK e S r h => hK _ e S r h
  | exit id => exact fun K Km hK e S r h => hK _ e S r h
  | ret => exact fun K Km hK e S r h => hK _ e S r h
  | ops l =>
    intro ρ K Km hK e S r h
    obtain ⟨e', S', hk, _, n, hn⟩ := runOps_fact hl b l e S _ r h
    obtain ⟨n2, hn2⟩ := hK _ _ _ _ hk
    refine ⟨max n n2, fun m hm => ?_⟩
    rw [den_ops, hn m (by omega)]
    exact hn2 m (by omega)
  | seq a y iha ihb =>
    intro ρ K Km hK e S r h
    rw [den_seq] at h
    obtain ⟨n, hn⟩ := iha (exK (den C b y K) (fun i => K (.exit i)) (K .ret)) (fun m => exK (den (A m) b y (Km m)) (fun i => Km m (.exit i)) (Km m .ret)) (fun x e S r hx => by
      cases x with
      | normal => exact ihb K Km hK e S r hx
      | exit i => exact hK _ e S r hx
      | ret => exact hK _ e S r hx) e S r h
    exact ⟨n, fun m hm => by rw [den_seq]; exact hn m hm⟩
  | cond c a y iha ihb =>
    intro ρ K Km hK e S r h
    rw [den_cond] at h
    cases hc : c.ev e <;> simp only [hc, condK] at h <;> try (cases h; done)
    rename_i t
    cases t with
    | true =>
      obtain ⟨n, hn⟩ := iha K Km hK e S r (by simpa using h)
      exact ⟨n, fun m hm => by rw [den_cond, hc]; simpa [condK] using hn m hm⟩
    | false =>
      obtain ⟨n, hn⟩ := ihb K Km hK e S r (by simpa using h)
      exact ⟨n, fun m hm => by rw [den_cond, hc]; simpa [condK] using hn m hm⟩
  | block id y ih =>
    intro ρ K Km hK e S r h
    rw [den_block] at h
    obtain ⟨n, hn⟩ := ih _ (fun m => exK (Km m .normal) (fun i e S => bif Nat.beq i id then Km m .normal e S else Km m (.exit i) e S) (Km m .ret)) (fun x e S r hx => by
      cases x with
      | normal => exact hK _ e S r hx
      | ret => exact hK _ e S r hx
      | exit i =>
        simp only [exK_exit] at hx ⊢
        cases hi : Nat.beq i id with
        | true => rw [hi] at hx; exact hK _ e S r hx
        | false => rw [hi] at hx; exact hK _ e S r hx) e S r h
    exact ⟨n, fun m hm => by rw [den_block]; exact hn m hm⟩
  | loop live inv outs pass y ih =>
    intro ρ K Km hK e S r h
    rw [den_loop] at h
    obtain ⟨x, hx, hk⟩ := bind_some_of h
    obtain ⟨k, hkn⟩ := iter_some hx
    have key : ∀ k s x, iterN (σ := List AV × Store) (τ := Ex × List AV × Store) (fun s =>
        den C b y (exK (fun e' S' => (nextS b s.2.length (e'.gets live) S').bind fun r => some (.inl r))
            (fun i e' S' => some (.inr (.exit i, e'.gets outs, S')))
            (fun e' S' => some (.inr (.ret, e'.gets outs, S'))))
        (envOf live s.1 0 (e.only inv)) s.2) k s = some x → ∃ n, ∀ m, n ≤ m → iterN (σ := List AV × Store) (τ := Ex × List AV × Store) (fun s =>
        den (A m) b y (exK (fun e' S' => (nextS b s.2.length (e'.gets live) S').bind fun r => some (.inl r))
            (fun i e' S' => some (.inr (.exit i, e'.gets outs, S')))
            (fun e' S' => some (.inr (.ret, e'.gets outs, S'))))
        (envOf live s.1 0 (e.only inv)) s.2) k s = some x := by
      intro k
      induction k with
      | zero => intro s x h; simp [iterN] at h
      | succ k ihk =>
        intro s x h
        simp only [iterN] at h
        obtain ⟨z, hy, hyk⟩ := bind_some_of h
        obtain ⟨n1, hn1⟩ := ih _ (fun _ => _) (fun x e S r hx => ⟨0, fun _ _ => hx⟩) _ _ _ hy
        cases z with
        | inl s' =>
          obtain ⟨n2, hn2⟩ := ihk s' x hyk
          refine ⟨max n1 n2, fun m hm => ?_⟩
          simp only [iterN]
          rw [hn1 m (by omega)]
          exact hn2 m (by omega)
        | inr t =>
          refine ⟨n1, fun m hm => ?_⟩
          simp only [iterN]
          rw [hn1 m hm]
          exact hyk
    obtain ⟨n, hn⟩ := key k _ x hkn
    have hx' : ∀ m, n ≤ m → iter _ _ = some x := fun m hm => iter_of (hn m hm)
    have hkk : ∃ n2, ∀ m, n2 ≤ m → exK none (fun i => Km m (.exit i) (envOf outs x.2.1 0 (e.only pass)) x.2.2) (Km m .ret (envOf outs x.2.1 0 (e.only pass)) x.2.2) x.1 = some r := by
      cases hx1 : x.1 with
      | normal => rw [hx1] at hk; cases hk
      | exit i => rw [hx1] at hk; exact hK _ _ _ _ hk
      | ret => rw [hx1] at hk; exact hK _ _ _ _ hk
    obtain ⟨n2, hn2⟩ := hkk
    exact ⟨max n n2, fun m hm => by rw [den_loop, hx' m (by omega)]; exact hn2 m (by omega)⟩
  | range it tup ok live inv outs pass y ih =>
    intro ρ K Km hK e S r h
    rw [den_range] at h
    have key : ∀ n vs S r, rangeK (e.get it) (fun t o vs S' Kn => den C b y (exK (fun e' S'' => Kn (e'.gets live) S'')
          (fun i e' S'' => K (.exit i) (envOf outs (e'.gets outs) 0 (e.only pass)) S'')
          (fun e' S'' => K .ret (envOf outs (e'.gets outs) 0 (e.only pass)) S''))
        (((envOf live vs 0 (e.only inv)).put (some tup) t).put (some ok) o) S') n vs S = some r → ∃ N, ∀ m, N ≤ m → rangeK (e.get it) (fun t o vs S' Kn => den (A m) b y (exK (fun e' S'' => Kn (e'.gets live) S'')
          (fun i e' S'' => Km m (.exit i) (envOf outs (e'.gets outs) 0 (e.only pass)) S'')
          (fun e' S'' => Km m .ret (envOf outs (e'.gets outs) 0 (e.only pass)) S''))
        (((envOf live vs 0 (e.only inv)).put (some tup) t).put (some ok) o) S') n vs S = some r := by
      intro n
      induction n with
      | zero =>
        intro vs S r h
        simp only [rangeK] at h ⊢
        split at h
        · rename_i hs
          obtain ⟨N, hN⟩ := ih _ (fun m => exK (fun e' S'' => none)
            (fun i e' S'' => Km m (.exit i) (envOf outs (e'.gets outs) 0 (e.only pass)) S'')
            (fun e' S'' => Km m .ret (envOf outs (e'.gets outs) 0 (e.only pass)) S'')) (fun x e S r hx => by
            cases x with
            | normal => cases hx
            | exit i => exact hK _ _ _ _ hx
            | ret => exact hK _ _ _ _ hx) _ _ _ h
          exact ⟨N, hN⟩
        · cases h
      | succ n ihn =>
        intro vs S r h
        simp only [rangeK] at h ⊢
        obtain ⟨l, hl1, hl2⟩ := bind_some_of h
        obtain ⟨hne, hall⟩ := agree_some.1 hl2
        obtain ⟨N, hN⟩ := forall_lim (P := fun m c => _) l fun c hc => ih _ (fun m => exK (fun e' S'' => rangeK (e.get it) (fun t o vs S' Kn => den (A m) b y (exK (fun e' S'' => Kn (e'.gets live) S'')
              (fun i e' S'' => Km m (.exit i) (envOf outs (e'.gets outs) 0 (e.only pass)) S'')
              (fun e' S'' => Km m .ret (envOf outs (e'.gets outs) 0 (e.only pass)) S''))
            (((envOf live vs 0 (e.only inv)).put (some tup) t).put (some ok) o) S') n (e'.gets live) S'')
            (fun i e' S'' => Km m (.exit i) (envOf outs (e'.gets outs) 0 (e.only pass)) S'')
            (fun e' S'' => Km m .ret (envOf outs (e'.gets outs) 0 (e.only pass)) S'')) (fun x e S r hx => by
            cases x with
            | normal => exact ihn _ _ _ hx
            | exit i => exact hK _ _ _ _ hx
            | ret => exact hK _ _ _ _ hx) _ _ _ (hall c hc)
        refine ⟨N, fun m hm => ?_⟩
        rw [hl1]
        exact agree_some.2 ⟨hne, hN m hm⟩
    obtain ⟨N, hN⟩ := key _ _ _ _ h
    exact ⟨N, fun m hm => by rw [den_range]; exact hN m hm⟩

theorem denF_fact {A : Nat → CallEnv} {C : CallEnv} (hl : Lim A C) (f : SFunc) (args : List AV) (S : Store) (r : AV × Store) (h : denF C f args S = some r) :
    ∃ n, ∀ m, n ≤ m → denF (A m) f args S = some r :=
  den_lim hl S.length f.body _ (fun _ => _) (fun x e S r hx => ⟨0, fun _ _ => hx⟩) _ _ _ h
end

section
variable (Y : Prg)

/-- More answers below, more answers above. -/
theorem Prg.step_le {A C : CallEnv} (h : Le A C) : Le (Y.step A) (Y.step C) := by
  intro f args S r hr
  unfold Prg.step at *
  split at hr
  · exact hr
  · split at hr
    · rename_i sf _
      obtain ⟨n, hn⟩ := denF_fact (A := fun _ => C) (fun f args S r hr => ⟨0, fun _ _ => h f args S r hr⟩) sf args S r hr
      exact hn n (Nat.le_refl _)
    · cases hr

theorem Prg.callN_le (n : Nat) : Le (Y.callN n) (Y.callN (n + 1)) := by
  induction n with
  | zero => intro f args S r h; simp [Prg.callN] at h
  | succ n ih => exact Y.step_le ih

theorem Prg.callN_mono {n m : Nat} (h : n ≤ m) : Le (Y.callN n) (Y.callN m) := by
  induction m with
  | zero => obtain rfl : n = 0 := by omega
            exact fun _ _ _ _ h => h
  | succ m ih =>
    by_cases e : n = m + 1
    · subst e; exact fun _ _ _ _ h => h
    · exact fun f a S r hr => Y.callN_le m f a S r (ih (by omega) f a S r hr)

theorem Prg.call_of {n : Nat} {f : Nat} {args : List AV} {S : Store} {r : AV × Store} (h : Y.callN n f args S = some r) : Y.call f args S = some r := by
  have hx : ∃ r n, Y.callN n f args S = some r := ⟨r, n, h⟩
  unfold Prg.call
  rw [dif_pos hx]
  obtain ⟨m, hm⟩ := Classical.choose_spec hx
  have h1 := Y.callN_mono (Nat.le_max_left n m) _ _ _ _ h
  have h2 := Y.callN_mono (Nat.le_max_right n m) _ _ _ _ hm
  rw [h1] at h2
  exact h2.symm

theorem Prg.call_some {f : Nat} {args : List AV} {S : Store} {r : AV × Store} (h : Y.call f args S = some r) : ∃ n, ∀ m, n ≤ m → Y.callN m f args S = some r := by
  unfold Prg.call at h
  split at h
  · rename_i hx
    obtain ⟨n, hn⟩ := Classical.choose_spec hx
    refine ⟨n, fun m hm => Y.callN_mono hm _ _ _ _ (by rw [hn]; exact h)⟩
  · cases h

/-- ████ A function is its own text. -/
theorem Prg.call_eq (f : Nat) (args : List AV) (S : Store) : Y.call f args S = Y.step Y.call f args S := by
  cases h : Y.step Y.call f args S with
  | some r =>
    have : ∃ n, Y.step (Y.callN n) f args S = some r := by
      unfold Prg.step at *
      split at h
      · exact ⟨0, h⟩
      · split at h
        · obtain ⟨n, hn⟩ := denF_fact (A := Y.callN) (fun f args S r hr => Y.call_some hr) _ args S r h
          exact ⟨n, hn n (Nat.le_refl _)⟩
        · cases h
    obtain ⟨n, hn⟩ := this
    exact Y.call_of (n := n + 1) hn
  | none =>
    cases hc : Y.call f args S with
    | none => rfl
    | some r =>
      obtain ⟨n, hn⟩ := Y.call_some hc
      have h1 := hn (n + 1) (by omega)
      have h2 := Y.step_le (A := Y.callN n) (C := Y.call) (fun f args S r hr => Y.call_of hr) f args S r h1
      rw [h] at h2
      cases h2

end
end Go.Abs

/-
  What lay below a bound is as_ it was, and of the tape no less is drawn.
-/
namespace Go.Abs
open Go

structure Below (B : Nat) (w w' : World) : Prop where
  os : w'.os = w.os
  tape : w'.tape = w.tape
  output : w'.output = w.output
  size : w.heap.size ≤ w'.heap.size
  drawn : w.drawn ≤ w'.drawn
  block : ∀ k, k < B → w'.heap[k]? = w.heap[k]?

theorem Below.old {B : Nat} {w w' : World} (h : Below B w w') : Go.RowKit.Below B w w' := ⟨h.os, h.tape, h.output, h.size, h.block⟩
theorem Below.refl (B : Nat) (w : World) : Below B w w := ⟨rfl, rfl, rfl, Nat.le_refl _, Nat.le_refl _, fun _ _ => rfl⟩
theorem Below.trans {B : Nat} {a b c : World} (h : Below B a b) (k : Below B b c) : Below B a c :=
  ⟨k.os.trans h.os, k.tape.trans h.tape, k.output.trans h.output, Nat.le_trans h.size k.size, Nat.le_trans h.drawn k.drawn, fun i hi => (k.block i hi).trans (h.block i hi)⟩
theorem Below.mono {B B' : Nat} {w w' : World} (h : Below B w w') (hB : B' ≤ B) : Below B' w w' := ⟨h.os, h.tape, h.output, h.size, h.drawn, fun k hk => h.block k (Nat.lt_of_lt_of_le hk hB)⟩
theorem Below.drew {B : Nat} {a w : World} (h : Below B a w) : Below B a w.drew := ⟨h.os, h.tape, h.output, h.size, Nat.le_succ_of_le h.drawn, h.block⟩
theorem Below.heap_setCell (w : World) (a : Addr) (u : Value) (k : Nat) (h : k ≠ a.block) : (w.setCell a u).heap[k]? = w.heap[k]? := Go.RowKit.Below.heap_setCell w a u k h
theorem Below.alloc {B : Nat} {a w : World} (h : Below B a w) (hB : B ≤ w.heap.size) (o : Obj) : Below B a (w.alloc o) :=
  h.trans ⟨rfl, rfl, rfl, by simp, Nat.le_refl _, fun k hk => Go.RowKit.Below.heap_alloc _ _ _ (by omega)⟩
theorem Below.cell {B : Nat} {w w' : World} (h : Below B w w') {p : Addr} (hp : p.block < B) : w'.cell? p = w.cell? p := h.old.cell hp
theorem Below.frozen {B : Nat} {w w' : World} (h : Below B w w') {p : Addr} (hp : p.block < B) : w'.frozen? p = w.frozen? p := h.old.frozen hp

/-- What grew alone: so many draws and blocks on. -/
theorem Below.grow {w w' : World} (h : Below w.heap.size w w') : ∃ q os, w' = Sort.grow (w.drewN q) os := by
  refine ⟨w'.drawn - w.drawn, w'.heap.extract w.heap.size w'.heap.size, ?_⟩
  obtain ⟨hp, tp, dr, os, out⟩ := w'
  obtain ⟨h1, h2, h3, h4, h5, h6⟩ := h
  simp only at *
  subst h1 h2 h3
  simp only [Sort.grow, World.drewN, World.mk.injEq, true_and, and_true]
  refine ⟨?_, by omega⟩
  apply Array.ext_getElem?
  intro i
  by_cases hi : i < w.heap.size
  · rw [h6 i hi, Array.getElem?_append_left hi]
  · rw [Array.getElem?_append_right (by omega), Array.getElem?_extract]
    split
    · congr 1; omega
    · rw [Array.getElem?_eq_none (by omega)]
end Go.Abs

/-
  What the abstract values stand for in a world: the relation, and how it is kept when the world grows or an entry's memory is written.
-/
namespace Go.Abs
open Go Go.RowKit

abbrev Mem := Nat → Nat → Option Value

/-- The ghost: the cells that nobody writes any more · an entry's block · the header of a slice that may grow · the size of an entry's block. -/
structure Gst where
  M : Mem
  β : Nat → Nat
  γ : Nat → Value
  ζ : Nat → Nat

def Tok.plain : Tok → Prop
  | .own _ => False
  | _ => True

def Tok.isFull : Tok → Prop
  | .full => True
  | _ => False

/-- A value without a right to write. -/
inductive V0 (M : Mem) : Value → AV → Prop
  | int (k : IntKind) (n : Int) : V0 M (.int k n) (.int k n)
  | bool (b : Bool) : V0 M (.bool b) (.bool b)
  | str (s : ByteArray) (l : List UInt8) (h : s.data.toList = l) : V0 M (.string s) (.str l)
  | nilp : V0 M (.pointer none) .nilp
  | nilm : V0 M (.map none) .nilp
  | nilsl (a : Option Addr) (t : Tok) (ht : t.plain) : V0 M (.slice a 0 0) (.sl [] t)
  | sl (b o len cap sz : Nat) (f : Nat → Value) (xs : List (List AV)) (t : Tok) (ht : t.plain) (hl : xs.length = len) (hc : len ≤ cap) (hsz : ∀ x ∈ xs, x.length = sz) (hf : t.isFull → cap = len)
      (hm : ∀ j, j < xs.flatten.length → M b (o + j) = some (f j)) (hv : ∀ j (h : j < xs.flatten.length), V0 M (f j) (xs.flatten[j])) : V0 M (.slice (some ⟨b, o, none⟩) len cap) (.sl xs t)
  | ip (b o off : Nat) (f : Nat → Value) (cs : List AV) (hm : ∀ j, j < cs.length → M b (o + j) = some (f j)) (hv : ∀ j (h : j < cs.length), V0 M (f j) (cs[j])) : V0 M (.pointer (some ⟨b, o + off, none⟩)) (.ip cs off)

def MLe (M M' : Mem) : Prop := ∀ b o v, M b o = some v → M' b o = some v

theorem MLe.refl (M : Mem) : MLe M M := fun _ _ _ h => h
theorem MLe.trans {A B C : Mem} (h : MLe A B) (k : MLe B C) : MLe A C := fun b o v x => k b o v (h b o v x)

theorem V0.mono {M M' : Mem} (h : MLe M M') {v : Value} {a : AV} (hv : V0 M v a) : V0 M' v a := by
  induction hv with
  | int k n => exact .int k n
  | bool b => exact .bool b
  | str s l hl => exact .str s l hl
  | nilp => exact .nilp
  | nilm => exact .nilm
  | nilsl a t ht => exact .nilsl a t ht
  | sl b o len cap sz f xs t ht hl hc hsz hf hm hv ih => exact .sl b o len cap sz f xs t ht hl hc hsz hf (fun j hj => h _ _ _ (hm j hj)) ih
  | ip b o off f cs hm hv ih => exact .ip b o off f cs (fun j hj => h _ _ _ (hm j hj)) ih

/-- A row of cells that nobody writes, at a place. -/
def Row (M : Mem) (b o : Nat) (cs : List AV) : Prop := ∀ j (h : j < cs.length), ∃ v, M b (o + j) = some v ∧ V0 M v (cs[j])

theorem Row.mono {M M' : Mem} (h : MLe M M') {b o : Nat} {cs : List AV} (hr : Row M b o cs) : Row M' b o cs := fun j hj =>
  let ⟨v, h1, h2⟩ := hr j hj
  ⟨v, h _ _ _ h1, h2.mono h⟩

noncomputable def Row.f (M : Mem) (b o : Nat) (j : Nat) : Value := (M b (o + j)).getD undef

theorem V0.of_row {M : Mem} {b o len cap sz : Nat} {xs : List (List AV)} {t : Tok} (ht : t.plain) (hl : xs.length = len) (hc : len ≤ cap) (hsz : ∀ x ∈ xs, x.length = sz) (hf : t.isFull → cap = len)
    (hr : Row M b o xs.flatten) : V0 M (.slice (some ⟨b, o, none⟩) len cap) (.sl xs t) :=
  .sl b o len cap sz (Row.f M b o) xs t ht hl hc hsz hf
    (fun j hj => by obtain ⟨v, h1, _⟩ := hr j hj; simp [Row.f, h1])
    (fun j hj => by obtain ⟨v, h1, h2⟩ := hr j hj; simpa [Row.f, h1] using h2)

theorem V0.ip_of_row {M : Mem} {b o off : Nat} {cs : List AV} (hr : Row M b o cs) : V0 M (.pointer (some ⟨b, o + off, none⟩)) (.ip cs off) :=
  .ip b o off (Row.f M b o) cs
    (fun j hj => by obtain ⟨v, h1, _⟩ := hr j hj; simp [Row.f, h1])
    (fun j hj => by obtain ⟨v, h1, h2⟩ := hr j hj; simpa [Row.f, h1] using h2)

/-- A slice's address: whatever of one without room, or one without more ado. -/
def AddrOK (a : Option Addr) (cap : Nat) : Prop := cap = 0 ∨ ∃ b o, a = some ⟨b, o, none⟩

theorem AddrOK.some (b o cap : Nat) : AddrOK (.some ⟨b, o, none⟩) cap := .inr ⟨b, o, rfl⟩

/-- One cell's value, a right to write included. -/
inductive V1 (G : Gst) (S : Store) : Value → AV → Prop
  | v0 {v : Value} {a : AV} (h : V0 G.M v a) : V1 G S v a
  | own {v : Value} {xs : List (List AV)} {i : Nat} (h : V0 G.M v (.sl xs .none)) (ht : ∀ n sz, S[i]? = some (.tail n sz) → xs.length ≤ n ∧ (xs.length = n → v = G.γ i) ∧ ∀ x ∈ xs, x.length = sz) : V1 G S v (.sl xs (.own i))
  | ptr (i off : Nat) : V1 G S (.pointer (some ⟨G.β i, off, none⟩)) (.ptr i off)
  | osl (a : Option Addr) (i off len cap sz : Nat) (hc : len ≤ cap) (ha : 0 < cap → a = some ⟨G.β i, off, none⟩ ∧ off + cap * sz ≤ G.ζ i) (hp : AddrOK a cap) : V1 G S (.slice a len cap) (.osl i off len sz)
  | map (i : Nat) : V1 G S (.map (some (G.β i))) (.map i)
  | clo (f : Nat) (cv : Array Value) (caps : List AV) (hs : cv.size = caps.length) (hv : ∀ j (h : j < caps.length), V1 G S (cv.getD j undef) (caps[j])) : V1 G S (.func (.func f) #[] cv) (.clo f caps)

/-- A value. -/
inductive V2 (G : Gst) (S : Store) : Value → AV → Prop
  | one {v : Value} {a : AV} (h : V1 G S v a) : V2 G S v a
  | agg (cs : Array Value) (l : List AV) (hs : cs.size = l.length) (hv : ∀ j (h : j < l.length), V1 G S (cs.getD j undef) (l[j])) : V2 G S (.agg cs) (.agg l)
  | tup (vs : Array Value) (l : List AV) (hs : vs.size = l.length) (hv : ∀ j (h : j < l.length), V2 G S (vs.getD j undef) (l[j])) : V2 G S (.tuple vs) (.tup l)
  | u (v : Value) : V2 G S v .u
  | und : V2 G S undef .und

/-- The block that an entry alone writes. -/
def Acts (G : Gst) (S : Store) (i blk : Nat) : Prop :=
  match S[i]? with
  | some (.obj cs) => cs ≠ [] ∧ blk = G.β i
  | some (.map _) => blk = G.β i
  | some (.iter _ _ _) => blk = G.β i
  | some (.tail n _) => ∃ off cap, G.γ i = .slice (some ⟨blk, off, none⟩) n cap ∧ n < cap
  | _ => False

/-- A key or an element of a map. -/
inductive V0a (M : Mem) : Value → AV → Prop
  | one {v : Value} {a : AV} (h : V0 M v a) : V0a M v a
  | agg (cs : Array Value) (l : List AV) (hs : cs.size = l.length) (hv : ∀ j (h : j < l.length), V0 M (cs.getD j undef) (l[j])) : V0a M (.agg cs) (.agg l)

theorem V0a.mono {M M' : Mem} (h : MLe M M') {v : Value} {a : AV} (hv : V0a M v a) : V0a M' v a := by
  cases hv with
  | one k => exact .one (k.mono h)
  | agg cs l hs hv => exact .agg cs l hs fun j hj => (hv j hj).mono h

def EntOK (G : Gst) (S : Store) (w : World) (i : Nat) : Ent → Prop
  | .obj cs => cs ≠ [] → ∃ arr t fz, w.heap[G.β i]? = some (.cells arr t fz) ∧ cs.length ≤ arr.size ∧ (∀ o, o < arr.size → ¬ (fz.1 ≤ o ∧ o < fz.2)) ∧ (∀ j (h : j < cs.length), V1 G S (arr.getD j undef) (cs[j])) ∧ (∀ o, G.M (G.β i) o = none) ∧ arr.size = G.ζ i
  | .tail n sz => ((∃ a, G.γ i = .slice a 0 0) ∧ n = 0) ∨ ∃ blk off cap, G.γ i = .slice (some ⟨blk, off, none⟩) n cap ∧ n ≤ cap ∧
      (n < cap → ∃ arr t fz, w.heap[blk]? = some (.cells arr t fz) ∧ off + cap * sz ≤ arr.size ∧ (∀ o, o < arr.size → ¬ (fz.1 ≤ o ∧ o < fz.2)) ∧ ∀ o, off + n * sz ≤ o → G.M blk o = none)
  | .map es => ∃ mes : Array MapEntry, w.heap[G.β i]? = some (.map mes mes.size) ∧ mes.size = es.length ∧
      (∀ j (h : j < es.length), V0a G.M ((mes.getD j default).key) (es[j].1) ∧ V2 G S ((mes.getD j default).val) (es[j].2) ∧ (mes.getD j default).born = j) ∧ ∀ o, G.M (G.β i) o = none
  | .iter m n seen => ∃ sn : Array Nat, w.heap[G.β i]? = some (.mapIter (some (G.β m)) n sn n) ∧ sn.toList = seen ∧ ∀ o, G.M (G.β i) o = none
  | .dead => True

/-- The world at the outset, and cells that are known from then on. -/
structure Ctx where
  W0 : World
  M0 : Mem

/-- What is the case between two operations; b: the height of the store when the function began. -/
structure Sat (X : Ctx) (G : Gst) (b : Nat) (S : Store) (w : World) : Prop where
  below : Below X.W0.heap.size X.W0 w
  m0 : MLe X.M0 G.M
  im : ∀ blk o v, G.M blk o = some v → w.cell? ⟨blk, o, none⟩ = some v
  ent : ∀ i e, S[i]? = some e → EntOK G S w i e
  dis : ∀ i j blk, Acts G S i blk → Acts G S j blk → i = j
  base : ∀ i blk, Acts G S i blk → X.W0.heap.size ≤ blk
  bel : ∀ i e, S[i]? = some e → entBelow (if i < b then b else S.length) e = true

/-- From a state on: what was frozen stays; the first n entries keep their blocks, their slices only grow; those before b hold no more references than they may. -/
structure Ext (n b : Nat) (G : Gst) (S : Store) (G' : Gst) (S' : Store) : Prop where
  m : MLe G.M G'.M
  β : ∀ i, i < n → G'.β i = G.β i
  tail : ∀ i, i < n → ∀ k sz, S'[i]? = some (.tail k sz) → ∃ k0, S[i]? = some (.tail k0 sz) ∧ k0 ≤ k ∧ (k0 = k → G'.γ i = G.γ i)
  len : n ≤ S'.length
  ζ : ∀ i, i < n → G'.ζ i = G.ζ i
  bel : ∀ i, i < b → ∀ e', S'[i]? = some e' → ∃ e, S[i]? = some e ∧ ∀ m, i ≤ m → entBelow m e = true → entBelow m e' = true

theorem Ext.refl {b : Nat} (G : Gst) (S : Store) : Ext S.length b G S G S :=
  ⟨MLe.refl _, fun _ _ => rfl, fun _ _ k _ h => ⟨k, h, Nat.le_refl _, fun _ => rfl⟩, Nat.le_refl _, fun _ _ => rfl, fun _ _ e h => ⟨e, h, fun _ _ h => h⟩⟩

theorem Ext.trans {n m b : Nat} {G G1 G2 : Gst} {S S1 S2 : Store} (h : Ext n b G S G1 S1) (k : Ext m b G1 S1 G2 S2) (hm : n ≤ m) : Ext n b G S G2 S2 := by
  refine ⟨h.m.trans k.m, fun i hi => (k.β i (by omega)).trans (h.β i hi), fun i hi c sz hc => ?_, by have := k.len; omega, fun i hi => (k.ζ i (by omega)).trans (h.ζ i hi), fun i hi e hc => ?_⟩
  · obtain ⟨c1, h1, l1, q1⟩ := k.tail i (by omega) c sz hc
    obtain ⟨c0, h0, l0, q0⟩ := h.tail i hi c1 sz h1
    exact ⟨c0, h0, by omega, fun e => by rw [q1 (by omega), q0 (by omega)]⟩
  · obtain ⟨e1, h1, q1⟩ := k.bel i hi e hc
    obtain ⟨e0, h0, q0⟩ := h.bel i hi e1 h1
    exact ⟨e0, h0, fun m hm hb => q1 m hm (q0 m hm hb)⟩

theorem Ext.weak {n m b : Nat} {G G' : Gst} {S S' : Store} (h : Ext m b G S G' S') (hn : n ≤ m) : Ext n b G S G' S' :=
  ⟨h.m, fun i hi => h.β i (by omega), fun i hi => h.tail i (by omega), by have := h.len; omega, fun i hi => h.ζ i (by omega), h.bel⟩

theorem below_all_get {n : Nat} {l : List AV} (h : belows n l = true) {j : Nat} (hj : j < l.length) : below n l[j] = true := by
  induction l generalizing j with
  | nil => simp at hj
  | cons a l ih =>
    simp only [belows, Bool.and_eq_true] at h
    cases j with
    | zero => exact h.1
    | succ j => exact ih h.2 (by simpa using hj)

theorem belows_of_get {n : Nat} {l : List AV} (h : ∀ j (hj : j < l.length), below n l[j] = true) : belows n l = true := by
  induction l with
  | nil => rfl
  | cons a l ih =>
    simp only [belows, Bool.and_eq_true]
    exact ⟨h 0 (by simp), ih fun j hj => h (j + 1) (by simpa using hj)⟩

theorem belows_all' {n : Nat} {l : List AV} : belows n l = l.all (below n) := by
  induction l with
  | nil => rfl
  | cons a l ih => simp [belows, ih]
theorem below_agg_eq {n : Nat} {c : List AV} : below n (.agg c) = belows n c := by
  rw [below, belows_all']; simp [List.all_eq]
theorem below_tup_eq {n : Nat} {c : List AV} : below n (.tup c) = belows n c := by
  rw [below, belows_all']; simp [List.all_eq]
theorem below_clo_eq {n f : Nat} {c : List AV} : below n (.clo f c) = belows n c := by
  rw [below, belows_all']; simp [List.all_eq]

theorem blt_iff {i n : Nat} : Nat.blt i n = true ↔ i < n := by simp [Nat.blt, Nat.ble_eq]; omega

theorem below_mono {n m : Nat} (hm : n ≤ m) : ∀ (a : AV), below n a = true → below m a = true
  | .int .., _ => by simp [below]
  | .bool _, _ => by simp [below]
  | .str _, _ => by simp [below]
  | .ip .., _ => by simp [below]
  | .nilp, _ => by simp [below]
  | .und, _ => by simp [below]
  | .sl _ .none, _ => by simp [below]
  | .sl _ .full, _ => by simp [below]
  | .sl _ (.own i), h => by simp only [below, blt_iff] at *; omega
  | .ptr i _, h => by simp only [below, blt_iff] at *; omega
  | .osl i _ _ _, h => by simp only [below, blt_iff] at *; omega
  | .map i, h => by simp only [below, blt_iff] at *; omega
  | .clo f cs, h => by
    rw [below_clo_eq] at *
    exact belows_of_get fun j hj => below_mono hm cs[j] (below_all_get h hj)
  | .agg cs, h => by
    rw [below_agg_eq] at *
    exact belows_of_get fun j hj => below_mono hm cs[j] (below_all_get h hj)
  | .tup cs, h => by
    rw [below_tup_eq] at *
    exact belows_of_get fun j hj => below_mono hm cs[j] (below_all_get h hj)
termination_by a => SizeOf.sizeOf a
decreasing_by all_goals (have := List.sizeOf_lt_of_mem (List.getElem_mem hj); simp; omega)

theorem belows_mono {n m : Nat} (hm : n ≤ m) {l : List AV} (h : belows n l = true) : belows m l = true :=
  belows_of_get fun j hj => below_mono hm _ (below_all_get h hj)

theorem belowsM_get {n : Nat} {l : List (AV × AV)} (h : belowsM n l = true) {j : Nat} (hj : j < l.length) : below n l[j].2 = true := by
  induction l generalizing j with
  | nil => simp at hj
  | cons a l ih =>
    simp only [belowsM, Bool.and_eq_true] at h
    cases j with
    | zero => exact h.1
    | succ j => exact ih h.2 (by simpa using hj)

theorem belowsM_of_get {n : Nat} {l : List (AV × AV)} (h : ∀ j (hj : j < l.length), below n l[j].2 = true) : belowsM n l = true := by
  induction l with
  | nil => rfl
  | cons a l ih =>
    simp only [belowsM, Bool.and_eq_true]
    exact ⟨h 0 (by simp), ih fun j hj => h (j + 1) (by simpa using hj)⟩

theorem belowsM_mono {n m : Nat} (hm : n ≤ m) {l : List (AV × AV)} (h : belowsM n l = true) : belowsM m l = true :=
  belowsM_of_get fun _ hj => below_mono hm _ (belowsM_get h hj)

theorem entBelow_mono {n m : Nat} (hm : n ≤ m) {e : Ent} (h : entBelow n e = true) : entBelow m e = true := by
  cases e <;> simp only [entBelow] at * <;> first | exact belows_mono hm h | exact belowsM_mono hm h | (rw [blt_iff] at *; omega) | trivial

theorem V0.low {M : Mem} {v : Value} {a : AV} (h : V0 M v a) (n : Nat) : Abs.below n a = true := by
  cases h with
  | nilsl a t ht => cases t <;> simp [Abs.below, Tok.plain] at *
  | sl b o len cap sz f xs t ht => cases t <;> simp [Abs.below, Tok.plain] at *
  | _ => simp [Abs.below]

theorem V1.mono {n b : Nat} {G G' : Gst} {S S' : Store} (h : Ext n b G S G' S') {v : Value} {a : AV} (hv : V1 G S v a) : Abs.below n a = true → V1 G' S' v a := by
  induction hv with
  | v0 h0 => exact fun _ => .v0 (h0.mono h.m)
  | @own v xs i h0 ht =>
    intro hb
    simp only [Abs.below, blt_iff] at hb
    refine .own (h0.mono h.m) fun k sz hk => ?_
    obtain ⟨k0, h1, h2, h3⟩ := h.tail i hb k sz hk
    obtain ⟨h4, h5, h6⟩ := ht k0 sz h1
    exact ⟨by omega, fun e => by rw [h3 (by omega)]; exact h5 (by omega), h6⟩
  | ptr i off =>
    intro hb
    simp only [Abs.below, blt_iff] at hb
    rw [← h.β i hb]; exact .ptr i off
  | osl a i off len cap sz hc ha hp =>
    intro hb
    simp only [Abs.below, blt_iff] at hb
    exact .osl a i off len cap sz hc (fun hl => by rw [h.β i hb, h.ζ i hb]; exact ha hl) hp
  | map i =>
    intro hb
    simp only [Abs.below, blt_iff] at hb
    rw [← h.β i hb]; exact .map i
  | clo f cv caps hs hv ih =>
    intro hb
    rw [below_clo_eq] at hb
    exact .clo f cv caps hs fun j hj => ih j hj (below_all_get hb hj)

theorem V2.mono {n b : Nat} {G G' : Gst} {S S' : Store} (h : Ext n b G S G' S') {v : Value} {a : AV} (hv : V2 G S v a) : Abs.below n a = true → V2 G' S' v a := by
  induction hv with
  | one h1 => exact fun hb => .one (h1.mono h hb)
  | agg cs l hs hv =>
    intro hb
    rw [below_agg_eq] at hb
    exact .agg cs l hs fun j hj => (hv j hj).mono h (below_all_get hb hj)
  | tup vs l hs hv ih =>
    intro hb
    rw [below_tup_eq] at hb
    exact .tup vs l hs fun j hj => ih j hj (below_all_get hb hj)
  | u v => exact fun _ => .u v
  | und => exact fun _ => .und

/-- What was nobody's to write is as_ it was; what is somebody's now was so, or is new. -/
structure Keep (G : Gst) (S : Store) (w : World) (G' : Gst) (S' : Store) (w' : World) : Prop where
  size : w.heap.size ≤ w'.heap.size
  blk : ∀ k, k < w.heap.size → (∀ i, ¬ Acts G S i k) → w'.heap[k]? = w.heap[k]?
  act : ∀ i k, Acts G' S' i k → (∃ j, Acts G S j k) ∨ w.heap.size ≤ k
  mem : ∀ k o, k < w.heap.size → (∀ i, ¬ Acts G S i k) → G'.M k o = G.M k o

theorem Keep.refl (G : Gst) (S : Store) (w : World) : Keep G S w G S w := ⟨Nat.le_refl _, fun _ _ _ => rfl, fun i _ h => .inl ⟨i, h⟩, fun _ _ _ _ => rfl⟩

theorem EntOK.keep {n b : Nat} {G G' : Gst} {S S' : Store} {w w' : World} {i : Nat} {e : Ent} (h : EntOK G S w i e) (hS : S[i]? = some e) (hE : Ext n b G S G' S') (hn : entBelow n e = true)
    (hβ : G'.β i = G.β i) (hγ : G'.γ i = G.γ i) (hζ : G'.ζ i = G.ζ i) (hh : ∀ blk, Acts G S i blk → w'.heap[blk]? = w.heap[blk]?) (hM : ∀ blk, Acts G S i blk → ∀ o, G.M blk o = none → G'.M blk o = none) : EntOK G' S' w' i e := by
  cases e with
  | obj cs =>
    intro hne
    obtain ⟨arr, t, fz, h1, h2, h3, h4, h5, h6⟩ := h hne
    have ha : Acts G S i (G.β i) := by unfold Acts; rw [hS]; exact ⟨hne, rfl⟩
    refine ⟨arr, t, fz, by rw [hβ, hh _ ha]; exact h1, h2, h3, fun j hj => ?_, fun o => by rw [hβ]; exact hM _ ha o (h5 o), by rw [hζ]; exact h6⟩
    exact (h4 j hj).mono hE (below_all_get (by simpa [entBelow] using hn) hj)
  | tail k sz =>
    rcases h with ⟨⟨a, h1⟩, h2⟩ | ⟨blk, off, cap, h1, h2, h3⟩
    · exact .inl ⟨⟨a, by rw [hγ]; exact h1⟩, h2⟩
    · refine .inr ⟨blk, off, cap, by rw [hγ]; exact h1, h2, fun hlt => ?_⟩
      obtain ⟨arr, t, fz, h4, h5, h6, h7⟩ := h3 hlt
      have ha : Acts G S i blk := by unfold Acts; rw [hS]; exact ⟨off, cap, h1, hlt⟩
      exact ⟨arr, t, fz, by rw [hh _ ha]; exact h4, h5, h6, fun o ho => hM _ ha o (h7 o ho)⟩
  | map es =>
    obtain ⟨mes, h1, h2, h3, h5⟩ := h
    have ha : Acts G S i (G.β i) := by unfold Acts; rw [hS]
    refine ⟨mes, by rw [hβ, hh _ ha]; exact h1, h2, fun j hj => ?_, fun o => by rw [hβ]; exact hM _ ha o (h5 o)⟩
    exact ⟨(h3 j hj).1.mono hE.m, (h3 j hj).2.1.mono hE (belowsM_get (by simpa [entBelow] using hn) hj), (h3 j hj).2.2⟩
  | iter m k seen =>
    obtain ⟨sn, h1, h2, h5⟩ := h
    have ha : Acts G S i (G.β i) := by unfold Acts; rw [hS]
    refine ⟨sn, by rw [hβ, hh _ ha, hE.β m (by simpa [entBelow, blt_iff] using hn)]; exact h1, h2, fun o => by rw [hβ]; exact hM _ ha o (h5 o)⟩
  | dead => trivial

theorem Sat.lowS {X : Ctx} {G : Gst} {b : Nat} {S : Store} {w : World} (h : Sat X G b S w) (hb : b ≤ S.length) {i : Nat} {e : Ent} (he : S[i]? = some e) : entBelow S.length e = true := by
  have := h.bel i e he
  split at this
  · exact entBelow_mono hb this
  · exact this

theorem heap_lt {w : World} {k : Nat} {o : Obj} (h : w.heap[k]? = some o) : k < w.heap.size := by
  rcases Nat.lt_or_ge k w.heap.size with h' | h'
  · exact h'
  · simp [Array.getElem?_eq_none h'] at h

/-- An entry's own block is there. -/
theorem Sat.act_lt {X : Ctx} {G : Gst} {b : Nat} {S : Store} {w : World} (h : Sat X G b S w) {i blk : Nat} (ha : Acts G S i blk) : blk < w.heap.size := by
  unfold Acts at ha
  cases he : S[i]? with
  | none => simp [he] at ha
  | some e =>
    have hok := h.ent i e he
    rw [he] at ha
    cases e with
    | obj cs =>
      obtain ⟨h1, rfl⟩ := ha
      obtain ⟨arr, t, fz, h2, _⟩ := hok h1
      exact heap_lt h2
    | map es =>
      obtain ⟨mes, h2, _⟩ := hok
      simp only at ha
      subst ha
      exact heap_lt h2
    | iter m k seen =>
      obtain ⟨sn, h2, _⟩ := hok
      simp only at ha
      subst ha
      exact heap_lt h2
    | tail n sz =>
      obtain ⟨off, cap, h1, h2⟩ := ha
      rcases hok with ⟨⟨a, h3⟩, _⟩ | ⟨blk', off', cap', h3, h4, h5⟩
      · rw [h3] at h1; cases h1; omega
      · rw [h3] at h1
        simp only [Value.slice.injEq, Option.some.injEq, Addr.mk.injEq] at h1
        obtain ⟨⟨rfl, rfl, _⟩, _, rfl⟩ := h1
        obtain ⟨arr, t, fz, h6, _⟩ := h5 h2
        exact heap_lt h6
    | dead => exact ha.elim

/-- The world has drawn, or holds a block more that nobody knows of. -/
theorem Sat.world {X : Ctx} {G : Gst} {b : Nat} {S : Store} {w w' : World} (h : Sat X G b S w) (hb : b ≤ S.length) (hw : Below w.heap.size w w') : Sat X G b S w' := by
  have hsz : X.W0.heap.size ≤ w.heap.size := h.below.size
  refine ⟨h.below.trans (hw.mono hsz), h.m0, fun blk o v hm => ?_, fun i e he => ?_, h.dis, h.base, h.bel⟩
  · have hc := h.im blk o v hm
    have hlt : blk < w.heap.size := World.block_lt_of_cell? w _ hc
    rw [hw.cell (p := ⟨blk, o, none⟩) hlt]; exact hc
  · refine (h.ent i e he).keep (n := S.length) (b := b) he (Ext.refl G S) (h.lowS hb he) rfl rfl rfl (fun blk ha => hw.block _ (h.act_lt ha)) (fun _ _ _ hm => hm)

/-- The frame: each slot holds what the environment says; the slots 'pd' hold new variables that nobody knows of. -/
structure Rel (X : Ctx) (G : Gst) (b : Nat) (N : Nat) (e : Env) (S : Store) (a : Act) (w : World) : Prop where
  sat : Sat X G b S w
  hb : b ≤ S.length
  size : a.tmps.size = N
  defers : a.defers = []
  env : ∀ t, V2 G S (a.tmps.getD t undef) (e t)
  bel : ∀ t, below S.length (e t) = true

/-- Slots that hold variables just made. -/
structure Pend (n0 : Nat) (G : Gst) (S : Store) (a : Act) (w : World) (pd : Nat → Option Nat) : Prop where
  is : ∀ t n, pd t = some n → ∃ blk arr ty, a.tmps.getD t undef = .pointer (some ⟨blk, 0, none⟩) ∧ n0 ≤ blk ∧ w.heap[blk]? = some (.cells arr ty (0, 0)) ∧ arr.size = n ∧ (∀ i, ¬ Acts G S i blk) ∧ ∀ o, G.M blk o = none
  inj : ∀ t s n m, pd t = some n → pd s = some m → a.tmps.getD t undef = a.tmps.getD s undef → t = s

end Go.Abs

/-
  What a value is, by what it stands for; operands; what an operation must come to.
-/
namespace Go.Abs
open Go Go.RowKit

section
variable {G : Gst} {S : Store} {v : Value}

theorem V2.int_inv {k : IntKind} {n : Int} (h : V2 G S v (.int k n)) : v = .int k n := by
  cases h with | one h => cases h with | v0 h => cases h; rfl
theorem V2.und_inv (h : V2 G S v .und) : v = undef := by
  cases h with
  | one h => cases h with | v0 h => cases h
  | und => rfl
theorem V2.bool_inv {b : Bool} (h : V2 G S v (.bool b)) : v = .bool b := by
  cases h with | one h => cases h with | v0 h => cases h; rfl
theorem V2.str_inv {l : List UInt8} (h : V2 G S v (.str l)) : ∃ s : ByteArray, v = .string s ∧ s.data.toList = l := by
  cases h with | one h => cases h with | v0 h => cases h with | str s l hl => exact ⟨s, rfl, hl⟩
theorem V2.ptr_inv {i o : Nat} (h : V2 G S v (.ptr i o)) : v = .pointer (some ⟨G.β i, o, none⟩) := by
  cases h with | one h => cases h with
    | v0 h => cases h
    | ptr => rfl
theorem V2.map_inv {i : Nat} (h : V2 G S v (.map i)) : v = .map (some (G.β i)) := by
  cases h with | one h => cases h with
    | v0 h => cases h
    | map => rfl
theorem V2.ip_inv {cs : List AV} {o : Nat} (h : V2 G S v (.ip cs o)) : ∃ b s, v = .pointer (some ⟨b, s + o, none⟩) ∧ Row G.M b s cs := by
  cases h with | one h => cases h with
    | v0 h => cases h with
      | ip b s off f cs hm hv => exact ⟨b, s, rfl, fun j hj => ⟨f j, hm j hj, hv j hj⟩⟩
theorem V2.osl_inv {i o l sz : Nat} (h : V2 G S v (.osl i o l sz)) : ∃ a cap, v = .slice a l cap ∧ l ≤ cap ∧ (0 < l → a = some ⟨G.β i, o, none⟩) ∧ AddrOK a cap := by
  cases h with | one h => cases h with
    | v0 h => cases h
    | osl a i off len cap sz hc ha hp => exact ⟨a, cap, rfl, hc, fun h => (ha (by omega)).1, hp⟩
theorem V2.osl_inv' {i o l sz : Nat} (h : V2 G S v (.osl i o l sz)) : ∃ a cap, v = .slice a l cap ∧ l ≤ cap ∧ (0 < cap → a = some ⟨G.β i, o, none⟩ ∧ o + cap * sz ≤ G.ζ i) ∧ AddrOK a cap := by
  cases h with | one h => cases h with
    | v0 h => cases h
    | osl a i off len cap sz hc ha hp => exact ⟨a, cap, rfl, hc, ha, hp⟩
theorem V2.clo_inv {f : Nat} {caps : List AV} (h : V2 G S v (.clo f caps)) : ∃ cv, v = .func (.func f) #[] cv ∧ cv.size = caps.length ∧ ∀ j (h : j < caps.length), V1 G S (cv.getD j undef) (caps[j]) := by
  cases h with | one h => cases h with
    | v0 h => cases h
    | clo f cv caps hs hv => exact ⟨cv, rfl, hs, hv⟩
theorem V2.agg_inv {l : List AV} (h : V2 G S v (.agg l)) : ∃ cs, v = .agg cs ∧ cs.size = l.length ∧ ∀ j (h : j < l.length), V1 G S (cs.getD j undef) (l[j]) := by
  cases h with
  | one h => cases h with | v0 h => cases h
  | agg cs l hs hv => exact ⟨cs, rfl, hs, hv⟩
theorem V2.tup_inv {l : List AV} (h : V2 G S v (.tup l)) (hl : l ≠ []) : ∃ vs, v = .tuple vs ∧ vs.size = l.length ∧ ∀ j (h : j < l.length), V2 G S (vs.getD j undef) (l[j]) := by
  cases h with
  | one h => cases h with | v0 h => cases h
  | tup vs l hs hv => exact ⟨vs, rfl, hs, hv⟩
  | u => exact absurd rfl hl
theorem V2.nilp_inv (h : V2 G S v .nilp) : v = .pointer none ∨ v = .map none := by
  cases h with | one h => cases h with | v0 h => cases h <;> simp

/-- A slice's header: nil, or a row that nobody writes. -/
theorem V0.sl_inv {M : Mem} {xs : List (List AV)} {t : Tok} (h : V0 M v (.sl xs t)) :
    ((∃ a, v = .slice a 0 0) ∧ xs = []) ∨ ∃ b o cap sz, v = .slice (some ⟨b, o, none⟩) xs.length cap ∧ xs.length ≤ cap ∧ (∀ x ∈ xs, x.length = sz) ∧ (t.isFull → cap = xs.length) ∧ Row M b o xs.flatten := by
  cases h with
  | nilsl => exact .inl ⟨⟨_, rfl⟩, rfl⟩
  | sl b o len cap sz f xs t ht hl hc hsz hf hm hv =>
    subst hl
    exact .inr ⟨b, o, cap, sz, rfl, hc, hsz, hf, fun j hj => ⟨f j, hm j hj, hv j hj⟩⟩

theorem V0.tok {M : Mem} {xs : List (List AV)} {t : Tok} (h : V0 M v (.sl xs t)) : V0 M v (.sl xs .none) := by
  cases h with
  | nilsl => exact .nilsl _ .none trivial
  | sl b o len cap sz f xs t ht hl hc hsz hf hm hv => exact .sl b o len cap sz f xs .none trivial hl hc hsz (fun h => h.elim) hm hv

theorem V1.sl_none {xs : List (List AV)} {t : Tok} (h : V1 G S v (.sl xs t)) : V0 G.M v (.sl xs .none) := by
  cases h with
  | v0 h => exact h.tok
  | own h => exact h

theorem V2.sl_none {xs : List (List AV)} {t : Tok} (h : V2 G S v (.sl xs t)) : V0 G.M v (.sl xs .none) := by
  cases h with | one h => exact h.sl_none

theorem V2.sl_inv {xs : List (List AV)} {t : Tok} (h : V2 G S v (.sl xs t)) :
    ((∃ a, v = .slice a 0 0) ∧ xs = []) ∨ ∃ b o cap sz, v = .slice (some ⟨b, o, none⟩) xs.length cap ∧ xs.length ≤ cap ∧ (∀ x ∈ xs, x.length = sz) ∧ Row G.M b o xs.flatten := by
  rcases h.sl_none.sl_inv with h | ⟨b, o, cap, sz, h1, h2, h3, _, h5⟩
  · exact .inl h
  · exact .inr ⟨b, o, cap, sz, h1, h2, h3, h5⟩

/-- Cells that may lie where nobody writes. -/
theorem imm1_ok {a a' : AV} (h : imm1 a = some a') (hv : V1 G S v a) : V0 G.M v a' := by
  cases hv with
  | v0 h0 =>
    cases h0 <;> simp only [imm1, Option.some.injEq] at h <;> try subst h
    case int => exact .int _ _
    case bool => exact .bool _
    case str s l hl => exact .str s l hl
    case nilp => exact .nilp
    case nilm => exact .nilm
    case nilsl a t ht => exact .nilsl a .none trivial
    case sl b o len cap sz f xs t ht hl hc hsz hf hm hv => exact .sl b o len cap sz f xs .none trivial hl hc hsz (fun h => h.elim) hm hv
    case ip b o off f cs hm hv => exact .ip b o off f cs hm hv
  | own h0 ht => simp only [imm1, Option.some.injEq] at h; subst h; exact h0
  | ptr => simp [imm1] at h
  | osl => simp [imm1] at h
  | map => simp [imm1] at h
  | clo => simp [imm1] at h

theorem imms_length {l l' : List AV} (h : imms l = some l') : l'.length = l.length := by
  induction l generalizing l' with
  | nil => simp [imms] at h; subst h; rfl
  | cons a l ih =>
    simp only [imms, Option.bind_eq_some_iff] at h
    obtain ⟨a', h1, l2, h2, h3⟩ := h
    cases h3
    simp [ih h2]

theorem imms_get {l l' : List AV} (h : imms l = some l') {j : Nat} (hj : j < l.length) (hj' : j < l'.length) : imm1 l[j] = some l'[j] := by
  induction l generalizing l' j with
  | nil => simp at hj
  | cons a l ih =>
    simp only [imms, Option.bind_eq_some_iff] at h
    obtain ⟨a', h1, l2, h2, h3⟩ := h
    cases h3
    cases j with
    | zero => exact h1
    | succ j => exact ih h2 (by simpa using hj) (by simpa using hj')

/-- The cells of a value. -/
theorem cells_ok {a : AV} (h : V2 G S v a) (ha : isTup a = false) : v.cells.size = (cellsOf a).length ∧ ∀ j (h : j < (cellsOf a).length), V1 G S (v.cells.getD j undef) ((cellsOf a)[j]) := by
  cases h with
  | one h1 =>
    have hc : cellsOf a = [a] := by
      cases a <;> try rfl
      case agg l => cases h1 with | v0 h => cases h
    have hv : v.cells = #[v] := by
      cases h1 with
      | v0 h => cases h <;> rfl
      | own h => rcases h.sl_inv with ⟨⟨_, rfl⟩, _⟩ | ⟨_, _, _, _, rfl, _⟩ <;> rfl
      | _ => rfl
    rw [hv, hc]
    refine ⟨rfl, fun j hj => ?_⟩
    obtain rfl : j = 0 := by simpa using hj
    exact h1
  | agg cs l hs hv => exact ⟨hs, hv⟩
  | tup vs l => cases ha
  | u => cases ha
  | und => cases ha
end

/-- An operation's run comes to a value, or goes on in a call, and then Φ holds. -/
def Yields (P : Program) (ρ : Operand → Value) (o : Oper) (w : World) (Φ : Value → World → Prop) : Prop :=
  match (execOp ρ o).run P w with
  | .ok (.value v) w' => Φ v w'
  | .ok .skip w' => Φ undef w'
  | .ok (.enter f args) w' => Calls P f args w' fun e w'' => ∃ v, e = .returned v ∧ Φ v w''
  | _ => False

theorem Yields.value {P : Program} {ρ : Operand → Value} {o : Oper} {w w' : World} {Φ : Value → World → Prop} {v : Value} (h : (execOp ρ o).run P w = .ok (.value v) w') (hΦ : Φ v w') : Yields P ρ o w Φ := by
  unfold Yields; rw [h]; exact hΦ

theorem Yields.mono {P : Program} {ρ : Operand → Value} {o : Oper} {w : World} {Φ Ψ : Value → World → Prop} (h : Yields P ρ o w Φ) (hi : ∀ v w', Φ v w' → Ψ v w') : Yields P ρ o w Ψ := by
  unfold Yields at *
  split at h
  · exact hi _ _ h
  · exact hi _ _ h
  · exact h.mono fun e w'' ⟨v, h1, h2⟩ => ⟨v, h1, hi _ _ h2⟩
  · exact h.elim

theorem Yields.wp {P : Program} {o : Oper} {a : Act} {w : World} {Φ : Value → World → Prop} {next : Act → World → Prop} {Q : Exit → Act → World → Prop} (h : Yields P a.eval o w Φ) (hn : ∀ v w', Φ v w' → next (a.put o.dst v) w') : o.wp P a w next Q := by
  unfold Yields at h
  unfold Oper.wp Oper.upon
  split at h
  · rename_i v w' hr; rw [hr]; exact hn _ _ h
  · rename_i w' hr; rw [hr]; exact hn _ _ h
  · rename_i f args w' hr
    rw [hr]
    refine h.mono fun e w'' ⟨v, h1, h2⟩ => ?_
    subst h1
    exact hn _ _ h2
  · exact h.elim

/-- What an operation leaves. -/
def OpOK (X : Ctx) (G : Gst) (b : Nat) (S : Store) (w : World) (x : AV) (S' : Store) (v : Value) (w' : World) : Prop :=
  ∃ G', Ext S.length b G S G' S' ∧ Keep G S w G' S' w' ∧ Sat X G' b S' w' ∧ V2 G' S' v x ∧ below S'.length x = true

theorem OpOK.same {X : Ctx} {G : Gst} {b : Nat} {S : Store} {w : World} {x : AV} {v : Value} (hs : Sat X G b S w) (hv : V2 G S v x) (hb : below S.length x = true) : OpOK X G b S w x S v w :=
  ⟨G, Ext.refl G S, Keep.refl G S w, hs, hv, hb⟩

/-! ### Operands -/
section
variable {T : Tabs} {X : Ctx} {G : Gst} {b N : Nat} {e : Env} {S : Store} {a : Act} {w : World}

theorem constCell_ok {M : Mem} {v : Value} {x : AV} (h : constCell v = some x) : V0 M v x := by
  unfold constCell at h
  split at h <;> simp only [Option.some.injEq, reduceCtorEq] at h <;> subst h
  · exact .int _ _
  · exact .bool _
  · exact .str _ _ rfl
  · exact .nilsl _ .full trivial
  · exact .nilp

theorem constCells_ok {M : Mem} : ∀ {vs : List Value} {l : List AV}, constCells vs = some l → vs.length = l.length ∧ ∀ j (h : j < l.length), V0 M (vs.getD j undef) (l[j])
  | [], l, h => by simp [constCells] at h; subst h; exact ⟨rfl, fun j hj => by simp at hj⟩
  | v :: vs, l, h => by
    simp only [constCells, Option.bind_eq_some_iff] at h
    obtain ⟨x, h1, l2, h2, h3⟩ := h
    cases h3
    obtain ⟨h4, h5⟩ := constCells_ok (M := M) h2
    refine ⟨by simp [h4], fun j hj => ?_⟩
    cases j with
    | zero => exact constCell_ok h1
    | succ j => exact h5 j (by simpa using hj)

theorem constV_ok {v : Value} {x : AV} (h : constV v = some x) : V2 G S v x := by
  unfold constV at h
  split at h
  · obtain ⟨l, h1, h2⟩ := Option.bind_eq_some_iff.1 h
    cases h2
    obtain ⟨h3, h4⟩ := constCells_ok (M := G.M) h1
    refine .agg _ l (by simpa using h3) fun j hj => .v0 ?_
    have := h4 j hj
    simpa [List.getD, Array.getD_eq_getD_getElem?] using this
  · cases h; exact .one (.v0 .nilm)
  · exact .one (.v0 (constCell_ok h))

theorem constCell_low {v : Value} {x : AV} (h : constCell v = some x) (n : Nat) : below n x = true := (constCell_ok (M := fun _ _ => none) h).low n

theorem constCells_low {n : Nat} : ∀ {vs : List Value} {l : List AV}, constCells vs = some l → belows n l = true
  | [], l, h => by simp [constCells] at h; subst h; rfl
  | v :: vs, l, h => by
    simp only [constCells, Option.bind_eq_some_iff] at h
    obtain ⟨x, h1, l2, h2, h3⟩ := h
    cases h3
    simp [belows, constCell_low h1, constCells_low h2]

theorem constV_low {v : Value} {x : AV} (h : constV v = some x) (n : Nat) : below n x = true := by
  unfold constV at h
  split at h
  · obtain ⟨l, h1, h2⟩ := Option.bind_eq_some_iff.1 h
    cases h2
    rw [below_agg_eq]; exact constCells_low h1
  · cases h; simp [below]
  · exact constCell_low h n

/-- What the constants of the program's variables need. -/
def GlobOK (T : Tabs) (X : Ctx) : Prop := ∀ g cs, T.glob g = some cs → Row X.M0 g 0 cs

theorem opd_ok (hg : GlobOK T X) (hr : Rel X G b N e S a w) {x : Operand} {y : Opd} (h : opdC T x = some y) : V2 G S (a.eval x) (y.ev e) ∧ below S.length (y.ev e) = true := by
  cases x with
  | tmp t => simp only [opdC, Option.some.injEq] at h; subst h; exact ⟨hr.env t, hr.bel t⟩
  | const v =>
    simp only [opdC, Option.bind_eq_some_iff] at h
    obtain ⟨c, h1, h2⟩ := h
    cases h2
    exact ⟨constV_ok h1, constV_low h1 _⟩
  | global g =>
    simp only [opdC, Option.bind_eq_some_iff] at h
    obtain ⟨c, h1, h2⟩ := h
    cases h2
    refine ⟨.one (.v0 ?_), by simp [Opd.ev, below]⟩
    exact V0.ip_of_row (off := 0) ((hg g c h1).mono hr.sat.m0)
  | func f =>
    simp only [opdC, Option.some.injEq] at h
    subst h
    exact ⟨.one (.clo f #[] [] rfl fun j hj => by simp at hj), by simp [Opd.ev, below_clo_eq, belows]⟩

end
end Go.Abs

/-
  The operations that leave memory alone, one by one.
-/
namespace Go.Abs
open Go Go.RowKit

section
variable {T : Tabs} {X : Ctx} {G : Gst} {b N : Nat} {e : Env} {S : Store} {a : Act} {w : World} {P : Program}

theorem sizeC_eq {t n : Nat} (h : sizeC T t = some n) : ∃ i, T.P.info? t = some i ∧ i.size = n := by
  simp only [sizeC, Option.bind_eq_some_iff, Option.some.injEq] at h; exact h

theorem run_sizeOf_C {t n : Nat} (h : sizeC T t = some n) (w : World) : (sizeOf t).run T.P w = .ok n w := by
  obtain ⟨i, h1, h2⟩ := sizeC_eq h
  simp [sizeOf, typeInfo, h1, h2]

theorem run_isAgg_C {t : Nat} {c : Bool} (h : aggC T t = some c) (w : World) : (isAgg t).run T.P w = .ok c w := by
  simp only [aggC, Option.bind_eq_some_iff] at h
  obtain ⟨d, h1, h2⟩ := h
  unfold isAgg
  rw [Sem.run_bind, run_underlying h1]
  cases d <;> simp_all

theorem elemC_zero {t sz : Nat} (h : elemC T t = some sz) : ∃ i z, T.P.info? t = some i ∧ i.zero = some z ∧ i.size = sz ∧ z.cells.size = sz ∧ 1 ≤ sz ∧ i.bytes ≤ 1024 := by
  simp only [elemC, Option.bind_eq_some_iff] at h
  obtain ⟨i, h1, z, hz, h2⟩ := h
  cases hc : (Nat.ble 1 i.size && Nat.ble i.bytes 1024 && Nat.beq z.cells.size i.size) with
  | false => simp [hc] at h2
  | true =>
    rw [hc] at h2
    simp only [cond_true, Option.some.injEq] at h2
    simp only [Bool.and_eq_true, Nat.ble_eq, Nat.beq_eq] at hc
    exact ⟨i, z, h1, hz, h2, by omega, by omega, hc.1.2⟩

theorem elemC_eq {t sz : Nat} (h : elemC T t = some sz) : ∃ i, T.P.info? t = some i ∧ i.size = sz ∧ 1 ≤ sz ∧ i.bytes ≤ 1024 := by
  obtain ⟨i, z, h1, _, h2, _, h3, h4⟩ := elemC_zero h
  exact ⟨i, h1, h2, h3, h4⟩

theorem elemC_size {t sz : Nat} (h : elemC T t = some sz) : sizeC T t = some sz := by
  obtain ⟨i, h1, h2, _⟩ := elemC_eq h
  simp [sizeC, h1, h2]

/-! numbers, strings, truth values -/

theorem run_bits {op : BinOp} {k : IntKind} {x y : Int} {r : AV} (h : bitsI op k x y = some r) (M : Mem) : ∃ v, (Op.intBits op k x y).run P w = .ok v w ∧ V0 M v r := by
  cases op <;> simp only [bitsI, Option.some.injEq, reduceCtorEq] at h <;> subst h <;> exact ⟨_, rfl, .int _ _⟩

theorem run_binI {op : BinOp} {k : IntKind} {x y : Int} {r : AV} {t : Nat} (h : binI op k x y = some r) (M : Mem) : ∃ v, (binOp op t (.int k x) (.int k y)).run P w = .ok v w ∧ V0 M v r := by
  cases op <;> simp only [binI] at h
  case add | sub | mul => cases h; exact ⟨_, by simp [binOp, Op.intArith], .int _ _⟩
  case quo =>
    split at h
    · cases h
    · rename_i hy; cases h; exact ⟨_, by simp [binOp, Op.intDiv, hy], .int _ _⟩
  case rem =>
    split at h
    · cases h
    · rename_i hy; cases h; exact ⟨_, by simp [binOp, Op.intDiv, hy], .int _ _⟩
  case eql | neq => cases h; exact ⟨_, by simp [binOp, Op.intCmp], .bool _⟩
  case lss | leq | gtr | geq => cases h; exact ⟨_, by simp [binOp, Op.intCmp], .bool _⟩
  case shl | shr =>
    split at h
    · cases h
    · rename_i hy; cases h; exact ⟨_, by simp [binOp, Op.shift, hy], .int _ _⟩
  case and | or | xor | andNot =>
    obtain ⟨v, h1, h2⟩ := run_bits (P := P) (w := w) h M
    exact ⟨v, by simpa [binOp] using h1, h2⟩

theorem run_shift {op : BinOp} {k k' : IntKind} {x y : Int} {r : AV} {t : Nat} (hs : isShift op = true) (h : binI op k x y = some r) (M : Mem) : ∃ v, (binOp op t (.int k x) (.int k' y)).run P w = .ok v w ∧ V0 M v r := by
  cases op <;> simp [isShift] at hs <;> simp only [binI] at h <;> split at h <;> first | (cases h; done) | (rename_i hy; cases h; exact ⟨_, by simp [binOp, Op.shift, hy], .int _ _⟩)

theorem mk_toList {s : ByteArray} {l : List UInt8} (h : s.data.toList = l) : s.toList = l := by rw [ByteArray.toList_eq]; exact h

theorem size_of {s : ByteArray} {l : List UInt8} (h : s.data.toList = l) : s.size = l.length := by rw [← h, Array.length_toList]; rfl

theorem run_binS {op : BinOp} {x y : ByteArray} {lx ly : List UInt8} {r : AV} {t : Nat} (hx : x.data.toList = lx) (hy : y.data.toList = ly) (h : binS op lx ly = some r) (M : Mem) :
    ∃ v, (binOp op t (.string x) (.string y)).run P w = .ok v w ∧ V0 M v r := by
  have e1 := mk_toList hx
  have e2 := mk_toList hy
  have s1 := size_of hx
  have s2 := size_of hy
  cases op <;> simp only [binS, reduceCtorEq] at h
  case add =>
    split at h
    · rename_i hl
      cases h
      refine ⟨.string (x ++ y), ?_, .str _ _ (by rw [ByteArray.data_append, Array.toList_append, hx, hy])⟩
      have : ¬ (((x.size + y.size : Nat) : Int) > IntKind.i64.max) := by
        have : IntKind.i64.max = 9223372036854775807 := by decide
        rw [this]; omega
      simp only [binOp, Op.stringOp, this, if_false]
      rfl
    · cases h
  all_goals (cases h; exact ⟨_, by simp only [binOp, Op.stringOp, e1, e2]; rfl, .bool _⟩)

theorem run_binB {op : BinOp} {x y : Bool} {r : AV} {t : Nat} (ht : T.P.underlying t = some .bool) (h : binB op x y = some r) (M : Mem) : ∃ v, (binOp op t (.bool x) (.bool y)).run T.P w = .ok v w ∧ V0 M v r := by
  have he := run_equalIn_bool' (P := T.P) w 9999 t x y ht
  cases op <;> simp only [binB, reduceCtorEq] at h <;> cases h
  · exact ⟨.bool (x == y), by simp [binOp, Op.equal, Op.maxDepth, he], .bool _⟩
  · exact ⟨.bool (!(x == y)), by simp [binOp, Op.equal, Op.maxDepth, he], .bool _⟩

theorem eqGuard_plain {op : BinOp} {t : Nat} {x y : Operand} {u v : Value} (hu : (∃ k n, u = .int k n) ∨ (∃ s, u = .string s) ∨ ∃ c, u = .bool c) : (eqGuard op t x y u v).run P w = .ok () w := by
  rcases hu with ⟨k, n, rfl⟩ | ⟨s, rfl⟩ | ⟨c, rfl⟩ <;> cases op <;> simp [eqGuard]

/-- Numbers and strings under an operator. -/
theorem op_bin {op : BinOp} {t : Nat} {x y : Operand} {u v : Value} {p q r : AV} (hu : V2 G S u p) (hv : V2 G S v q) (h : binV op p q = some r) :
    ∃ z, (do eqGuard op t x y u v; binOp op t u v : Sem Value).run P w = .ok z w ∧ V0 G.M z r := by
  cases p <;> cases q <;> simp only [binV, reduceCtorEq] at h
  case int.int k n k' n' =>
    cases hu.int_inv; cases hv.int_inv
    rw [Sem.run_bind, eqGuard_plain (.inl ⟨_, _, rfl⟩)]
    simp only [Result.andThen_ok]
    cases hs : isShift op with
    | true => rw [hs] at h; exact run_shift hs (by simpa using h) _
    | false =>
      rw [hs] at h
      simp only [cond_false] at h
      split at h
      · rename_i hk; subst hk; exact run_binI h _
      · cases h
  case str.str l l' =>
    obtain ⟨s, rfl, h1⟩ := hu.str_inv
    obtain ⟨s', rfl, h2⟩ := hv.str_inv
    rw [Sem.run_bind, eqGuard_plain (.inr (.inl ⟨_, rfl⟩))]
    exact run_binS h1 h2 h _

theorem op_binB {op : BinOp} {t : Nat} {x y : Operand} {u v : Value} {p q r : AV} (ht : T.P.underlying t = some .bool) (hu : V2 G S u p) (hv : V2 G S v q) (h : binBV op p q = some r) :
    ∃ z, (do eqGuard op t x y u v; binOp op t u v : Sem Value).run T.P w = .ok z w ∧ V0 G.M z r := by
  cases p <;> cases q <;> simp only [binBV, reduceCtorEq] at h
  cases hu.bool_inv; cases hv.bool_inv
  rw [Sem.run_bind, eqGuard_plain (.inr (.inr ⟨_, rfl⟩))]
  exact run_binB ht h _

theorem op_un {op : UnOp} {u : Value} {p r : AV} (hu : V2 G S u p) (h : unV op p = some r) : ∃ z, (Op.unary op u).run P w = .ok z w ∧ V0 G.M z r := by
  cases op <;> cases p <;> simp only [unV, Option.some.injEq, reduceCtorEq] at h
  · subst h; cases hu.int_inv; exact ⟨_, by simp [Op.unary, Op.intArith], .int _ _⟩
  · cases hu.int_inv
    obtain ⟨z, h1, h2⟩ := run_bits (P := P) (w := w) h G.M
    exact ⟨z, by simpa [Op.unary] using h1, h2⟩
  · subst h; cases hu.bool_inv; exact ⟨_, by simp [Op.unary], .bool _⟩

theorem op_conv {s t : Nat} {d : TypeDesc} {k : IntKind} {u : Value} {p r : AV} (hs : T.P.underlying s = some d) (ht : T.P.underlying t = some (.int k)) (hu : V2 G S u p) (h : convV k p = some r) :
    ∃ z, (convert s t u).run T.P w = .ok z w ∧ V0 G.M z r := by
  cases p <;> simp only [convV, Option.some.injEq, reduceCtorEq] at h
  subst h; cases hu.int_inv
  exact ⟨_, by simp [convert, run_underlying hs, run_underlying ht, Conv.intToInt], .int _ _⟩

/-! addresses and parts -/

theorem addr_add (b o n : Nat) : (⟨b, o, none⟩ : Addr).add n = ⟨b, o + n, none⟩ := by
  unfold Addr.add; split <;> simp_all

theorem op_fieldA {t f : Nat} {fs : Array Field} {fd : Field} {n : Nat} {u : Value} {p r : AV} (ht : T.P.underlying t = some (.struct fs)) (hf : fs[f]? = some fd) (hn : sizeC T fd.type = some n) (h1 : 1 ≤ n)
    (hu : V2 G S u p) (h : fieldAV fd.offset p = some r) : ∃ z, (Instr.fieldAt t u f).run T.P w = .ok z w ∧ V2 G S z r := by
  have h0 : ¬ n = 0 := by omega
  cases p <;> simp only [fieldAV, Option.some.injEq, reduceCtorEq] at h <;> subst h
  case ip cs o =>
    obtain ⟨blk, s, rfl, hrow⟩ := hu.ip_inv
    refine ⟨.pointer (some ⟨blk, s + (o + fd.offset), none⟩), ?_, .one (.v0 (V0.ip_of_row hrow))⟩
    simp [Instr.fieldAt, run_underlying ht, hf, Instr.sureAddr, fieldPlace, run_sizeOf_C hn, h0, addr_add, Nat.add_assoc]
  case ptr i o =>
    cases hu.ptr_inv
    refine ⟨.pointer (some ⟨G.β i, o + fd.offset, none⟩), ?_, .one (.ptr i _)⟩
    simp [Instr.fieldAt, run_underlying ht, hf, Instr.sureAddr, fieldPlace, run_sizeOf_C hn, h0, addr_add]

/-- A part of an aggregate. -/
theorem run_part {t : Nat} {n : Option Nat} {cs : Array Value} {l : List AV} {off : Nat} {r : AV} (hs : shapeC T t = some n) (hsz : cs.size = l.length) (hv : ∀ j (h : j < l.length), V1 G S (cs.getD j undef) (l[j]))
    (h : takeC n l off = some r) : ∃ z, (part t cs off).run T.P w = .ok z w ∧ V2 G S z r := by
  simp only [shapeC, Option.bind_eq_some_iff, Option.some.injEq] at hs
  obtain ⟨c, hc, m, hm, hn⟩ := hs
  cases c with
  | false =>
    simp only [cond_false] at hn
    subst hn
    simp only [takeC] at h
    obtain ⟨hj, rfl⟩ := List.getElem?_eq_some_iff.1 h
    have hlt : off < cs.size := by omega
    have hx : cs[off]? = some cs[off] := Array.getElem?_eq_getElem hlt
    have hd : cs.getD off undef = cs[off] := by rw [Array.getD_eq_getD_getElem?, hx]; rfl
    refine ⟨cs[off], ?_, .one (hd ▸ hv off hj)⟩
    simp [part, run_isAgg_C hc, hx]
  | true =>
    simp only [cond_true] at hn
    subst hn
    simp only [takeC] at h
    split at h
    · rename_i hle
      cases h
      refine ⟨.agg (cs.extract off (off + m)), by simp [part, run_isAgg_C hc, run_sizeOf_C hm], .agg _ _ (by simp; omega) fun j hj => ?_⟩
      have hj' : off + j < l.length := by simp at hj; omega
      have := hv (off + j) hj'
      have e1 : (cs.extract off (off + m)).getD j undef = cs.getD (off + j) undef := by
        simp only [Array.getD_eq_getD_getElem?]
        rw [Array.getElem?_extract]
        have : j < min (off + m) cs.size - off := by simp at hj; omega
        simp [this]
      rw [e1]
      simpa using this
    · cases h

theorem op_field {t f : Nat} {fs : Array Field} {fd : Field} {n : Option Nat} {u : Value} {p r : AV} (ht : T.P.underlying t = some (.struct fs)) (hf : fs[f]? = some fd) (hn : shapeC T fd.type = some n)
    (hu : V2 G S u p) (h : fieldV fd.offset n p = some r) : ∃ z, (Instr.field t u f).run T.P w = .ok z w ∧ V2 G S z r := by
  cases p <;> simp only [fieldV, reduceCtorEq] at h
  obtain ⟨cs, rfl, hsz, hv⟩ := hu.agg_inv
  obtain ⟨z, h1, h2⟩ := run_part (w := w) hn hsz hv h
  exact ⟨z, by simpa [Instr.field, run_underlying ht, hf, asAgg] using h1, h2⟩

theorem flat_row {xs : List (List AV)} {sz i : Nat} {cs : List AV} (hsz : ∀ x ∈ xs, x.length = sz) (hi : xs[i]? = some cs) : ∀ j (h : j < cs.length), ∃ h' : i * sz + j < xs.flatten.length, xs.flatten[i * sz + j] = cs[j] := by
  induction xs generalizing i with
  | nil => simp at hi
  | cons x xs ih =>
    intro j hj
    have hx : x.length = sz := hsz x (by simp)
    cases i with
    | zero =>
      simp at hi
      subst hi
      exact ⟨by simp; omega, by simp [List.getElem_append_left hj]⟩
    | succ i =>
      obtain ⟨h1, h2⟩ := ih (fun y hy => hsz y (by simp [hy])) (by simpa using hi) j hj
      have e : (i + 1) * sz + j = x.length + (i * sz + j) := by rw [hx, Nat.succ_mul]; omega
      refine ⟨by simp only [List.flatten_cons, List.length_append]; rw [e]; omega, ?_⟩
      simp only [List.flatten_cons]
      rw [List.getElem_append_right (by omega)]
      have : (i + 1) * sz + j - x.length = i * sz + j := by omega
      simp only [this]
      exact h2

theorem at_some {α : Type} {xs : List α} {k : Int} {x : α} (h : at? xs k = some x) : 0 ≤ k ∧ xs[k.toNat]? = some x := by
  unfold at? at h
  split at h
  · exact ⟨‹_›, h⟩
  · cases h

theorem op_indexA {t : Nat} {d : TypeDesc} {el : Nat} {sz : Nat} {arr : Option Nat} {u v : Value} {p q r : AV} (ht : T.P.underlying t = some d) (hd : (∃ n, d = .array n el ∧ arr = some n) ∨ (d = .slice el ∧ arr = none))
    (he : elemC T el = some sz) (hu : V2 G S u p) (hv : V2 G S v q) (h : indexAV sz arr p q = some r) : ∃ z, (Instr.indexAt t u v).run T.P w = .ok z w ∧ V2 G S z r := by
  have hsz := run_sizeOf_C (elemC_size he) w
  rcases hd with ⟨n, rfl, rfl⟩ | ⟨rfl, rfl⟩
  · cases p <;> cases q <;> simp only [indexAV, reduceCtorEq] at h <;> split at h <;> try (cases h; done)
    · rename_i cs o k m hk
      cases h
      cases hv.int_inv
      obtain ⟨blk, s, rfl, hrow⟩ := hu.ip_inv
      refine ⟨.pointer (some ⟨blk, s + (o + m.toNat * sz), none⟩), ?_, .one (.v0 (V0.ip_of_row hrow))⟩
      simp [Instr.indexAt, asIntOf, run_underlying ht, Instr.sureAddr, hk, hsz, addr_add, Nat.add_assoc]
    · rename_i i o k m hk
      cases h
      cases hv.int_inv
      cases hu.ptr_inv
      refine ⟨.pointer (some ⟨G.β i, o + m.toNat * sz, none⟩), ?_, .one (.ptr i _)⟩
      simp [Instr.indexAt, asIntOf, run_underlying ht, Instr.sureAddr, hk, hsz, addr_add]
  · cases p <;> cases q <;> simp only [indexAV, reduceCtorEq] at h
    · rename_i xs tk k m
      obtain ⟨cs, h1, h2⟩ := Option.bind_eq_some_iff.1 h
      split at h2
      · rename_i hl
        cases h2
        cases hv.int_inv
        obtain ⟨h0, hx⟩ := at_some h1
        have hlt : m.toNat < xs.length := (List.getElem?_eq_some_iff.1 hx).1
        rcases hu.sl_inv with ⟨⟨_, rfl⟩, rfl⟩ | ⟨blk, o, cap, sz', rfl, hcap, hall, hrow⟩
        · simp at hx
        · have hsz' : sz' = sz := by rw [← hall cs (List.mem_of_getElem? hx), hl]
          subst hsz'
          refine ⟨.pointer (some ⟨blk, (o + m.toNat * sz') + 0, none⟩), ?_, .one (.v0 (V0.ip_of_row fun j hj => ?_))⟩
          · have : 0 ≤ m ∧ m < (xs.length : Int) := by omega
            simp [Instr.indexAt, asIntOf, run_underlying ht, this, hsz, addr_add]
          · obtain ⟨hj', he'⟩ := flat_row hall hx j hj
            obtain ⟨v, h3, h4⟩ := hrow _ hj'
            exact ⟨v, by rw [Nat.add_assoc]; exact h3, by rw [← he']; exact h4⟩
      · cases h2
    · rename_i i o l s k m
      split at h
      · rename_i hk
        cases h
        cases hv.int_inv
        obtain ⟨ad, cap, rfl, _, had, _⟩ := hu.osl_inv
        have hl : 0 < l := by omega
        have hk' : 0 ≤ m ∧ m < (l : Int) := ⟨hk.1, hk.2.1⟩
        rw [had hl]
        refine ⟨.pointer (some ⟨G.β i, o + m.toNat * sz, none⟩), ?_, .one (.ptr i _)⟩
        simp [Instr.indexAt, asIntOf, run_underlying ht, hk', hsz, addr_add]
      · cases h

end
end Go.Abs

/-
  How the relation is kept: a new row that nobody will write; a new entry; a cell of an entry written; rows appended.
-/
namespace Go.Abs
open Go Go.RowKit

section
variable {X : Ctx} {G : Gst} {b : Nat} {S : Store} {w : World}

theorem alloc_below (w : World) (o : Obj) : Below w.heap.size w (w.alloc o) := (Below.refl _ _).alloc (Nat.le_refl _) o

theorem heap_alloc_new (w : World) (o : Obj) : (w.alloc o).heap[w.heap.size]? = some o := by
  show (w.heap.push o)[w.heap.size]? = _
  simp

/-- The ghost behind a new row: its first k cells are known. -/
def Gst.withRow (G : Gst) (blk : Nat) (arr : Array Value) (k : Nat) : Gst :=
  { G with M := fun c o => if c = blk then (if o < k then arr[o]? else none) else G.M c o }

theorem Sat.lt_of_m (h : Sat X G b S w) {c o : Nat} {v : Value} (hm : G.M c o = some v) : c < w.heap.size :=
  World.block_lt_of_cell? w _ (h.im c o v hm)

theorem Sat.m_new (h : Sat X G b S w) (o : Nat) : G.M w.heap.size o = none := by
  cases hm : G.M w.heap.size o with
  | none => rfl
  | some v => exact absurd (h.lt_of_m hm) (by omega)

theorem Sat.withRow_le (h : Sat X G b S w) (arr : Array Value) (k : Nat) : MLe G.M (G.withRow w.heap.size arr k).M := by
  intro c o v hm
  have := h.lt_of_m hm
  simp [Gst.withRow, show c ≠ w.heap.size by omega, hm]

theorem acts_withRow {blk k : Nat} {arr : Array Value} {i c : Nat} : Acts (G.withRow blk arr k) S i c ↔ Acts G S i c := Iff.rfl

theorem Sat.row (h : Sat X G b S w) (hb : b ≤ S.length) (arr : Array Value) (ty k : Nat) :
    Sat X (G.withRow w.heap.size arr k) b S (w.alloc (.cells arr ty)) ∧ Ext S.length b G S (G.withRow w.heap.size arr k) S ∧ Keep G S w (G.withRow w.heap.size arr k) S (w.alloc (.cells arr ty)) := by
  have hle := h.withRow_le arr k
  have hE : Ext S.length b G S (G.withRow w.heap.size arr k) S :=
    ⟨hle, fun _ _ => rfl, fun _ _ k _ h => ⟨k, h, Nat.le_refl _, fun _ => rfl⟩, Nat.le_refl _, fun _ _ => rfl, fun _ _ e h => ⟨e, h, fun _ _ h => h⟩⟩
  have hB := alloc_below w (.cells arr ty)
  refine ⟨⟨h.below.trans (hB.mono h.below.size), h.m0.trans hle, fun c o v hm => ?_, fun i e he => ?_, h.dis, h.base, h.bel⟩, hE, ⟨by simp, fun c hc _ => hB.block c hc, fun i c hc => .inl ⟨i, hc⟩, fun c o hc _ => by simp [Gst.withRow, show c ≠ w.heap.size by omega]⟩⟩
  · simp only [Gst.withRow] at hm
    split at hm
    · rename_i hc
      subst hc
      split at hm
      · rw [World.cell?_alloc_new]; exact hm
      · cases hm
    · have hlt := h.lt_of_m hm
      rw [hB.cell (p := ⟨c, o, none⟩) hlt]; exact h.im c o v hm
  · refine (h.ent i e he).keep he hE (h.lowS hb he) rfl rfl rfl (fun c ha => hB.block _ (h.act_lt ha)) (fun c ha o ho => ?_)
    have := h.act_lt ha
    simp [Gst.withRow, show c ≠ w.heap.size by omega, ho]

theorem row_of_new {arr : Array Value} {l : List AV} (hk : l.length ≤ arr.size) (hle : MLe G.M (G.withRow w.heap.size arr l.length).M) (hv : ∀ j (h : j < l.length), V0 G.M (arr.getD j undef) (l[j])) :
    Row (G.withRow w.heap.size arr l.length).M w.heap.size 0 l := by
  intro j hj
  refine ⟨arr.getD j undef, ?_, (hv j hj).mono hle⟩
  simp [Gst.withRow, hj, Array.getD_eq_getD_getElem?, show j < arr.size by omega]

/-- The ghost behind a new entry. -/
def Gst.push (G : Gst) (n blk : Nat) (g : Value) (z : Nat := 0) : Gst :=
  { G with β := fun i => if i = n then blk else G.β i, γ := fun i => if i = n then g else G.γ i, ζ := fun i => if i = n then z else G.ζ i }

theorem ext_push (hb : b ≤ S.length) (e : Ent) (blk : Nat) (g : Value) (z : Nat := 0) : Ext S.length b G S (G.push S.length blk g z) (S ++ [e]) := by
  refine ⟨MLe.refl _, fun i hi => by simp [Gst.push, show i ≠ S.length by omega], fun i hi k sz hk => ?_, by simp, fun i hi => by simp [Gst.push, show i ≠ S.length by omega], fun i hi e' he => ?_⟩
  · rw [List.getElem?_append_left hi] at hk
    exact ⟨k, hk, Nat.le_refl _, fun _ => by simp [Gst.push, show i ≠ S.length by omega]⟩
  · rw [List.getElem?_append_left (by omega)] at he
    exact ⟨e', he, fun _ _ h => h⟩

theorem acts_push_old {e : Ent} {blk : Nat} {g : Value} {z : Nat} {i c : Nat} (hi : i < S.length) : Acts (G.push S.length blk g z) (S ++ [e]) i c ↔ Acts G S i c := by
  unfold Acts
  rw [List.getElem?_append_left hi]
  simp only [Gst.push, show i ≠ S.length by omega, if_false]

theorem acts_lt {i c : Nat} (h : Acts G S i c) : i < S.length := by
  unfold Acts at h
  rcases Nat.lt_or_ge i S.length with h' | h'
  · exact h'
  · simp [List.getElem?_eq_none h'] at h

/-- A new entry, its block new (or none). -/
theorem Sat.push (h : Sat X G b S w) (hb : b ≤ S.length) (e : Ent) (blk : Nat) (g : Value) {z : Nat} {w' : World} (hw : Below w.heap.size w w') (hok : EntOK (G.push S.length blk g z) (S ++ [e]) w' S.length e)
    (hact : ∀ c, Acts (G.push S.length blk g z) (S ++ [e]) S.length c → w.heap.size ≤ c) (hbel : entBelow (S.length + 1) e = true) :
    Sat X (G.push S.length blk g z) b (S ++ [e]) w' ∧ Ext S.length b G S (G.push S.length blk g z) (S ++ [e]) ∧ Keep G S w (G.push S.length blk g z) (S ++ [e]) w' := by
  have hE := ext_push (G := G) hb e blk g z
  have hlast : (S ++ [e])[S.length]? = some e := by simp
  have split : ∀ i x, (S ++ [e])[i]? = some x → (i < S.length ∧ S[i]? = some x) ∨ (i = S.length ∧ x = e) := by
    intro i x hx
    rcases Nat.lt_trichotomy i S.length with hi | hi | hi
    · exact .inl ⟨hi, by rwa [List.getElem?_append_left hi] at hx⟩
    · subst hi; rw [hlast] at hx; cases hx; exact .inr ⟨rfl, rfl⟩
    · rw [List.getElem?_eq_none (by simp; omega)] at hx; cases hx
  have actcases : ∀ i c, Acts (G.push S.length blk g z) (S ++ [e]) i c → (i < S.length ∧ Acts G S i c) ∨ (i = S.length ∧ w.heap.size ≤ c) := by
    intro i c ha
    have hi := acts_lt ha
    simp at hi
    by_cases hlt : i < S.length
    · exact .inl ⟨hlt, (acts_push_old hlt).1 ha⟩
    · obtain rfl : i = S.length := by omega
      exact .inr ⟨rfl, hact c ha⟩
  refine ⟨⟨h.below.trans (hw.mono h.below.size), h.m0, fun c o v hm => ?_, fun i x hx => ?_, fun i j c hi hj => ?_, fun i c ha => ?_, fun i x hx => ?_⟩, hE, ⟨hw.size, fun c hc _ => hw.block c hc, fun i c ha => ?_, fun _ _ _ _ => rfl⟩⟩
  · rw [hw.cell (p := ⟨c, o, none⟩) (h.lt_of_m hm)]; exact h.im c o v hm
  · rcases split i x hx with ⟨hi, hs⟩ | ⟨rfl, rfl⟩
    · refine (h.ent i x hs).keep hs (S' := S ++ [e]) hE (h.lowS hb hs) ?_ ?_ ?_ (fun c ha => hw.block _ (h.act_lt ha)) (fun _ _ _ hm => hm)
      · simp [Gst.push, show i ≠ S.length by omega]
      · simp [Gst.push, show i ≠ S.length by omega]
      · simp [Gst.push, show i ≠ S.length by omega]
    · exact hok
  · rcases actcases i c hi with ⟨h1, h2⟩ | ⟨h1, h2⟩ <;> rcases actcases j c hj with ⟨h3, h4⟩ | ⟨h3, h4⟩
    · exact h.dis i j c h2 h4
    · have := h.act_lt h2; omega
    · have := h.act_lt h4; omega
    · omega
  · rcases actcases i c ha with ⟨_, h2⟩ | ⟨_, h2⟩
    · exact h.base i c h2
    · have := h.below.size; omega
  · rcases split i x hx with ⟨hi, hs⟩ | ⟨rfl, rfl⟩
    · have := h.bel i x hs
      split at this
      · rename_i hib; simp only [hib, if_true]; exact this
      · rename_i hib; simp only [hib, if_false]; exact entBelow_mono (by simp) this
    · have : ¬ S.length < b := by omega
      simp only [this, if_false, List.length_append, List.length_singleton]; exact hbel
  · rcases actcases i c ha with ⟨_, h2⟩ | ⟨_, h2⟩
    · exact .inl ⟨i, h2⟩
    · exact .inr h2

/-- An entry turned, its block (and the rows that become known) written. -/
theorem Sat.turn (h : Sat X G b S w) (hb : b ≤ S.length) {i : Nat} {e e' : Ent} {G' : Gst} {w' : World} (he : S[i]? = some e) (hE : Ext S.length b G S G' (S.set i e'))
    (hsz : w.heap.size ≤ w'.heap.size) (hos : w'.os = w.os) (htape : w'.tape = w.tape) (hout : w'.output = w.output ∧ w.drawn ≤ w'.drawn)
    (hblk : ∀ k, k < w.heap.size → ¬ Acts G S i k → w'.heap[k]? = w.heap[k]?)
    (him : ∀ c o v, G'.M c o = some v → w'.cell? ⟨c, o, none⟩ = some v)
    (hM : ∀ c o, c < w.heap.size → ¬ Acts G S i c → G.M c o = none → G'.M c o = none)
    (hβ : ∀ j, j ≠ i → G'.β j = G.β j) (hγ : ∀ j, j ≠ i → G'.γ j = G.γ j) (hζ : ∀ j, j ≠ i → G'.ζ j = G.ζ j)
    (hok : EntOK G' (S.set i e') w' i e') (hact : ∀ c, Acts G' (S.set i e') i c → Acts G S i c ∨ w.heap.size ≤ c)
    (hbel : entBelow (if i < b then b else S.length) e' = true) :
    Sat X G' b (S.set i e') w' ∧ Keep G S w G' (S.set i e') w' := by
  have hi : i < S.length := (List.getElem?_eq_some_iff.1 he).1
  have old : ∀ j, j ≠ i → (S.set i e')[j]? = S[j]? := fun j hj => by simp [List.getElem?_set_ne (Ne.symm hj)]
  have actold : ∀ j c, j ≠ i → (Acts G' (S.set i e') j c ↔ Acts G S j c) := fun j c hj => by
    unfold Acts; rw [old j hj, hβ j hj, hγ j hj]
  have ne_of : ∀ j c, j ≠ i → Acts G S j c → ¬ Acts G S i c := fun j c hj h1 h2 => hj (h.dis j i c h1 h2)
  have hbase : ∀ c, Acts G S i c → X.W0.heap.size ≤ c := fun c hc => h.base i c hc
  refine ⟨⟨?_, h.m0.trans hE.m, him, fun j x hx => ?_, fun j k c hj hk => ?_, fun j c ha => ?_, fun j x hx => ?_⟩, ⟨hsz, fun k hk hno => hblk k hk (hno i), fun j c ha => ?_, fun k o hk hno => ?_⟩⟩
  · refine h.below.trans ⟨hos, htape, hout.1, hsz, hout.2, fun k hk => hblk k (by have := h.below.size; omega) fun ha => ?_⟩
    have := hbase k ha; omega
  · by_cases hj : j = i
    · subst hj
      rw [List.getElem?_set_self hi] at hx
      cases hx; exact hok
    · have hs : S[j]? = some x := by rw [← old j hj]; exact hx
      refine (h.ent j x hs).keep hs hE (h.lowS hb hs) (hβ j hj) (hγ j hj) (hζ j hj) (fun c ha => hblk c (h.act_lt ha) (ne_of j c hj ha)) (fun c ha o ho => hM c o (h.act_lt ha) (ne_of j c hj ha) ho)
  · by_cases h1 : j = i <;> by_cases h2 : k = i
    · omega
    · subst h1
      have h4 := (actold k c h2).1 hk
      rcases hact c hj with h3 | h3
      · exact absurd (h.dis k j c h4 h3) h2
      · have := h.act_lt h4; omega
    · subst h2
      have h4 := (actold j c h1).1 hj
      rcases hact c hk with h3 | h3
      · exact absurd (h.dis j k c h4 h3) h1
      · have := h.act_lt h4; omega
    · exact h.dis j k c ((actold j c h1).1 hj) ((actold k c h2).1 hk)
  · by_cases hj : j = i
    · subst hj
      rcases hact c ha with h3 | h3
      · exact hbase c h3
      · have := h.below.size; omega
    · exact h.base j c ((actold j c hj).1 ha)
  · by_cases hj : j = i
    · subst hj
      rw [List.getElem?_set_self hi] at hx
      cases hx; simpa using hbel
    · have hs : S[j]? = some x := by rw [← old j hj]; exact hx
      simpa using h.bel j x hs
  · by_cases hj : j = i
    · subst hj
      exact (hact c ha).imp (fun h => ⟨j, h⟩) id
    · exact .inl ⟨j, (actold j c hj).1 ha⟩
  · cases hm : G.M k o with
    | none => exact hM k o hk (hno i) hm
    | some v => exact hE.m _ _ _ hm

/-- An entry given up. -/
theorem Sat.kill (h : Sat X G b S w) (hb : b ≤ S.length) {i : Nat} {e : Ent} (he : S[i]? = some e) : Ext S.length b G S G (S.set i .dead) ∧ Keep G S w G (S.set i .dead) w ∧ Sat X G b (S.set i .dead) w := by
  have hi : i < S.length := (List.getElem?_eq_some_iff.1 he).1
  have hE1 : Ext S.length b G S G (S.set i .dead) := by
    refine ⟨MLe.refl _, fun _ _ => rfl, fun j hj k s hk => ?_, by simp, fun _ _ => rfl, fun j hj e' hx => ?_⟩
    · by_cases hji : i = j
      · subst hji; rw [List.getElem?_set_self hi] at hk; cases hk
      · rw [List.getElem?_set_ne hji] at hk; exact ⟨k, hk, Nat.le_refl _, fun _ => rfl⟩
    · by_cases hji : i = j
      · subst hji; rw [List.getElem?_set_self hi] at hx; cases hx; exact ⟨_, he, fun _ _ _ => rfl⟩
      · rw [List.getElem?_set_ne hji] at hx; exact ⟨e', hx, fun _ _ h => h⟩
  obtain ⟨s1, k1⟩ := h.turn hb (G' := G) (w' := w) he hE1 (Nat.le_refl _) rfl rfl ⟨rfl, Nat.le_refl _⟩ (fun _ _ _ => rfl) (fun c o v hm => h.im c o v hm)
    (fun _ _ _ _ hm => hm) (fun _ _ => rfl) (fun _ _ => rfl) (fun _ _ => rfl) trivial (fun c hc => by unfold Acts at hc; rw [List.getElem?_set_self hi] at hc; exact hc.elim) rfl
  exact ⟨hE1, k1, s1⟩

/-- An entry given up, another laid behind the store: over the block that was given up, or over a new one. -/
theorem Sat.move (h : Sat X G b S w) (hb : b ≤ S.length) {i : Nat} {e e' : Ent} {blk : Nat} {g : Value} {z : Nat} {w' : World} (he : S[i]? = some e)
    (hsz : w.heap.size ≤ w'.heap.size) (hos : w'.os = w.os) (htape : w'.tape = w.tape) (hout : w'.output = w.output ∧ w.drawn ≤ w'.drawn)
    (hblk : ∀ k, k < w.heap.size → ¬ Acts G S i k → w'.heap[k]? = w.heap[k]?) (hMi : ∀ c, Acts G S i c → ∀ o, G.M c o = none)
    (hok : EntOK (G.push S.length blk g z) (S.set i .dead ++ [e']) w' S.length e') (hact : ∀ c, Acts (G.push S.length blk g z) (S.set i .dead ++ [e']) S.length c → Acts G S i c ∨ w.heap.size ≤ c)
    (hbel : entBelow (S.length + 1) e' = true) :
    Sat X (G.push S.length blk g z) b (S.set i .dead ++ [e']) w' ∧ Ext S.length b G S (G.push S.length blk g z) (S.set i .dead ++ [e']) ∧ Keep G S w (G.push S.length blk g z) (S.set i .dead ++ [e']) w' := by
  have hi : i < S.length := (List.getElem?_eq_some_iff.1 he).1
  have hE1 : Ext S.length b G S G (S.set i .dead) := by
    refine ⟨MLe.refl _, fun _ _ => rfl, fun j hj k s hk => ?_, by simp, fun _ _ => rfl, fun j hj e' hx => ?_⟩
    · by_cases hji : i = j
      · subst hji; rw [List.getElem?_set_self hi] at hk; cases hk
      · rw [List.getElem?_set_ne hji] at hk; exact ⟨k, hk, Nat.le_refl _, fun _ => rfl⟩
    · by_cases hji : i = j
      · subst hji; rw [List.getElem?_set_self hi] at hx; cases hx; exact ⟨_, he, fun _ _ _ => rfl⟩
      · rw [List.getElem?_set_ne hji] at hx; exact ⟨e', hx, fun _ _ h => h⟩
  have hdead : ∀ c, ¬ Acts G (S.set i .dead) i c := fun c hc => by unfold Acts at hc; rw [List.getElem?_set_self hi] at hc; exact hc
  have hne : ∀ c o v, G.M c o = some v → ¬ Acts G S i c := fun c o v hm ha => by rw [hMi c ha o] at hm; cases hm
  obtain ⟨s1, k1⟩ := h.turn hb (G' := G) (w' := w') he hE1 hsz hos htape hout hblk (fun c o v hm => by
      have := h.im c o v hm
      simp only [World.cell?] at *
      rw [hblk c (h.lt_of_m hm) (hne c o v hm)]; exact this)
    (fun _ _ _ _ hm => hm) (fun _ _ => rfl) (fun _ _ => rfl) (fun _ _ => rfl) trivial (fun c hc => absurd hc (hdead c)) rfl
  have hlen : (S.set i .dead).length = S.length := by simp
  have hb1 : b ≤ (S.set i Ent.dead).length := by rw [hlen]; exact hb
  have hE2 := ext_push (G := G) (S := S.set i .dead) hb1 e' blk g z
  rw [hlen] at hE2
  have hE := hE1.trans hE2 (Nat.le_refl _)
  have hlast : (S.set i .dead ++ [e'])[S.length]? = some e' := by rw [← hlen]; simp
  have split : ∀ j x, (S.set i .dead ++ [e'])[j]? = some x → (j < S.length ∧ (S.set i .dead)[j]? = some x) ∨ (j = S.length ∧ x = e') := by
    intro j x hx
    rcases Nat.lt_trichotomy j S.length with hj | hj | hj
    · exact .inl ⟨hj, by rwa [List.getElem?_append_left (by simpa using hj)] at hx⟩
    · subst hj; rw [hlast] at hx; cases hx; exact .inr ⟨rfl, rfl⟩
    · rw [List.getElem?_eq_none (by simp; omega)] at hx; cases hx
  have old : ∀ j c, j < S.length → (Acts (G.push S.length blk g z) (S.set i .dead ++ [e']) j c ↔ Acts G (S.set i .dead) j c) := fun j c hj => by
    have := acts_push_old (G := G) (S := S.set i .dead) (e := e') (blk := blk) (g := g) (z := z) (i := j) (c := c) (by simpa using hj)
    rwa [hlen] at this
  have oldS : ∀ j c, j < S.length → Acts (G.push S.length blk g z) (S.set i .dead ++ [e']) j c → Acts G S j c ∧ j ≠ i := fun j c hj ha => by
    have h1 := (old j c hj).1 ha
    have hji : j ≠ i := fun e => by subst e; exact hdead c h1
    refine ⟨?_, hji⟩
    unfold Acts at *
    rwa [List.getElem?_set_ne (Ne.symm hji)] at h1
  have actcases : ∀ j c, Acts (G.push S.length blk g z) (S.set i .dead ++ [e']) j c → (j < S.length ∧ Acts G S j c ∧ j ≠ i) ∨ (j = S.length ∧ (Acts G S i c ∨ w.heap.size ≤ c)) := by
    intro j c ha
    have hj := acts_lt ha
    simp at hj
    by_cases hlt : j < S.length
    · exact .inl ⟨hlt, oldS j c hlt ha⟩
    · obtain rfl : j = S.length := by omega
      exact .inr ⟨rfl, hact c ha⟩
  have hneq : ∀ j, j < S.length → (G.push S.length blk g z).β j = G.β j ∧ (G.push S.length blk g z).γ j = G.γ j ∧ (G.push S.length blk g z).ζ j = G.ζ j := fun j hj => by simp [Gst.push, show j ≠ S.length by omega]
  refine ⟨⟨s1.below, s1.m0, s1.im, fun j x hx => ?_, fun j k c hj hk => ?_, fun j c ha => ?_, fun j x hx => ?_⟩, hE, ⟨hsz, fun c hc hno => hblk c hc (hno i), fun j c ha => ?_, fun _ _ _ _ => rfl⟩⟩
  · rcases split j x hx with ⟨hj, hs⟩ | ⟨rfl, rfl⟩
    · exact (s1.ent j x hs).keep hs hE2 (by have := s1.lowS hb1 hs; rwa [hlen] at this) (hneq j hj).1 (hneq j hj).2.1 (hneq j hj).2.2 (fun _ _ => rfl) (fun _ _ _ hm => hm)
    · exact hok
  · rcases actcases j c hj with ⟨h1, h2, h3⟩ | ⟨h1, h2⟩ <;> rcases actcases k c hk with ⟨q1, q2, q3⟩ | ⟨q1, q2⟩
    · exact h.dis j k c h2 q2
    · rcases q2 with q2 | q2
      · exact absurd (h.dis j i c h2 q2) h3
      · have := h.act_lt h2; omega
    · rcases h2 with h2 | h2
      · exact absurd (h.dis k i c q2 h2) q3
      · have := h.act_lt q2; omega
    · omega
  · rcases actcases j c ha with ⟨_, h2, _⟩ | ⟨_, h2 | h2⟩
    · exact h.base j c h2
    · exact h.base i c h2
    · have := h.below.size; omega
  · rcases split j x hx with ⟨hj, hs⟩ | ⟨rfl, rfl⟩
    · have := s1.bel j x hs
      split at this
      · rename_i hib; simp only [hib, if_true]; exact this
      · rename_i hib; simp only [hib, if_false]; exact entBelow_mono (by simp) this
    · have : ¬ S.length < b := by omega
      simp only [this, if_false, List.length_append, List.length_singleton, hlen]; exact hbel
  · rcases actcases j c ha with ⟨_, h2, _⟩ | ⟨_, h2 | h2⟩
    · exact .inl ⟨j, h2⟩
    · exact .inl ⟨i, h2⟩
    · exact .inr h2

theorem ext_move (hb : b ≤ S.length) {i : Nat} {e e' : Ent} {blk : Nat} {g : Value} {z : Nat} (he : S[i]? = some e) : Ext S.length b G S (G.push S.length blk g z) (S.set i .dead ++ [e']) := by
  have hi : i < S.length := (List.getElem?_eq_some_iff.1 he).1
  have hE1 : Ext S.length b G S G (S.set i .dead) := by
    refine ⟨MLe.refl _, fun _ _ => rfl, fun j hj k s hk => ?_, by simp, fun _ _ => rfl, fun j hj e' hx => ?_⟩
    · by_cases hji : i = j
      · subst hji; rw [List.getElem?_set_self hi] at hk; cases hk
      · rw [List.getElem?_set_ne hji] at hk; exact ⟨k, hk, Nat.le_refl _, fun _ => rfl⟩
    · by_cases hji : i = j
      · subst hji; rw [List.getElem?_set_self hi] at hx; cases hx; exact ⟨_, he, fun _ _ _ => rfl⟩
      · rw [List.getElem?_set_ne hji] at hx; exact ⟨e', hx, fun _ _ h => h⟩
  have hE2 := ext_push (G := G) (S := S.set i .dead) (b := b) (by simpa using hb) e' blk g z
  rw [show (S.set i Ent.dead).length = S.length by simp] at hE2
  exact hE1.trans hE2 (Nat.le_refl _)

end
end Go.Abs

/-
  More operations that leave memory alone: parts, lengths, slices of slices, loads.
-/
namespace Go.Abs
open Go Go.RowKit

section
variable {T : Tabs} {X : Ctx} {G : Gst} {b N : Nat} {e : Env} {S : Store} {a : Act} {w : World} {P : Program}

theorem op_index {t n el : Nat} {sz : Nat} {c : Bool} {u v : Value} {p q r : AV} (ht : T.P.underlying t = some (.array n el)) (he : elemC T el = some sz) (hc : aggC T el = some c)
    (hu : V2 G S u p) (hv : V2 G S v q) (h : indexV sz n c p q = some r) : ∃ z, (Instr.index t u v).run T.P w = .ok z w ∧ V2 G S z r := by
  cases p <;> cases q <;> simp only [indexV, reduceCtorEq] at h
  · rename_i l k m
    split at h
    · rename_i hk
      obtain ⟨cs, rfl, hsz, hvs⟩ := hu.agg_inv
      cases hv.int_inv
      have hs : shapeC T el = some (bif c then some sz else none) := by simp [shapeC, hc, elemC_size he]
      obtain ⟨z, h1, h2⟩ := run_part (w := w) hs hsz hvs h
      refine ⟨z, ?_, h2⟩
      simpa [Instr.index, asIntOf, run_underlying ht, hk, run_sizeOf_C (elemC_size he)] using h1
    · cases h

theorem op_indexS {t : Nat} {u v : Value} {p q r : AV} (ht : T.P.underlying t = some .string) (hu : V2 G S u p) (hv : V2 G S v q) (h : indexSV p q = some r) :
    ∃ z, (Instr.index t u v).run T.P w = .ok z w ∧ V2 G S z r := by
  cases p <;> cases q <;> simp only [indexSV, reduceCtorEq] at h
  rename_i l k m
  obtain ⟨c, h1, h2⟩ := Option.bind_eq_some_iff.1 h
  cases h2
  obtain ⟨s, rfl, hs⟩ := hu.str_inv
  cases hv.int_inv
  obtain ⟨h0, h3⟩ := at_some h1
  have hb : s[m.toNat]? = some c := by
    have hlt : m.toNat < s.size := by rw [size_of hs]; exact (List.getElem?_eq_some_iff.1 h3).1
    have : s.data[m.toNat]? = some c := by
      rw [← hs] at h3
      simpa using h3
    obtain ⟨h4, h5⟩ := Array.getElem?_eq_some_iff.1 this
    rw [getElem?_pos s m.toNat hlt]
    exact congrArg some h5
  exact ⟨.int .u8 c.toNat, by simp [Instr.index, asIntOf, run_underlying ht, h0, hb], .one (.v0 (.int _ _))⟩

theorem op_extract {u : Value} {p r : AV} {i : Nat} (hu : V2 G S u p) (h : extractV p i = some r) : ∃ z, (Instr.extract u i).run P w = .ok z w ∧ V2 G S z r := by
  cases p <;> simp only [extractV, reduceCtorEq] at h
  rename_i l
  obtain ⟨hi, rfl⟩ := List.getElem?_eq_some_iff.1 h
  obtain ⟨vs, rfl, hs, hv⟩ := hu.tup_inv (by intro e; subst e; simp at hi)
  have hlt : i < vs.size := by omega
  have hd : vs.getD i undef = vs[i] := by rw [Array.getD_eq_getD_getElem?, Array.getElem?_eq_getElem hlt]; rfl
  exact ⟨vs[i], by simp [Instr.extract, Array.getElem?_eq_getElem hlt], hd ▸ hv i hi⟩

theorem op_nilc {ρ : Operand → Value} {o : Oper} {x : Operand} {p r : AV} (ho : o.op = .nilCheck x) (hu : V2 G S (ρ x) p) (h : nilcV p = some r) : (execOp ρ o).run P w = .ok (.value (ρ x)) w ∧ r = p := by
  cases p <;> simp only [nilcV, Option.some.injEq, reduceCtorEq] at h <;> subst h
  · obtain ⟨b, s, h1, _⟩ := hu.ip_inv
    exact ⟨by simp [execOp, ho, h1], rfl⟩
  · have h1 := hu.ptr_inv
    exact ⟨by simp [execOp, ho, h1], rfl⟩
  · obtain ⟨cv, h1, _⟩ := hu.clo_inv
    exact ⟨by simp [execOp, ho, h1], rfl⟩

/-! lengths -/

theorem op_lenS {t ty : Nat} {u : Value} {p r : AV} (ht : T.P.underlying t = some .string) (hu : V2 G S u p) (h : lenSV p = some r) : ∃ z, (Builtin.len_ #[t] ty #[u]).run T.P w = .ok z w ∧ V2 G S z r := by
  cases p <;> simp only [lenSV, Option.some.injEq, reduceCtorEq] at h
  subst h
  obtain ⟨s, rfl, hs⟩ := hu.str_inv
  exact ⟨goInt s.size, by simp [Builtin.len_, run_underlying ht], by rw [size_of hs]; exact .one (.v0 (.int _ _))⟩

theorem op_len {t ty el : Nat} {u : Value} {p r : AV} (ht : T.P.underlying t = some (.slice el)) (hu : V2 G S u p) (h : lenV p = some r) : ∃ z, (Builtin.len_ #[t] ty #[u]).run T.P w = .ok z w ∧ V2 G S z r := by
  cases p <;> simp only [lenV, Option.some.injEq, reduceCtorEq] at h <;> subst h
  · rename_i xs t'
    rcases hu.sl_inv with ⟨⟨_, rfl⟩, rfl⟩ | ⟨b, o, cap, sz, rfl, _⟩
    · exact ⟨goInt 0, by simp [Builtin.len_, run_underlying ht], .one (.v0 (.int _ _))⟩
    · exact ⟨goInt xs.length, by simp [Builtin.len_, run_underlying ht], .one (.v0 (.int _ _))⟩
  · rename_i i off l sz
    obtain ⟨ad, cap, rfl, _, _⟩ := hu.osl_inv
    exact ⟨goInt l, by simp [Builtin.len_, run_underlying ht], .one (.v0 (.int _ _))⟩

theorem op_lenM {t ty kt el : Nat} {u : Value} {p r : AV} (hs : Sat X G b S w) (ht : T.P.underlying t = some (.map kt el)) (hu : V2 G S u p) (h : lenMV p S = some r) : ∃ z, (Builtin.len_ #[t] ty #[u]).run T.P w = .ok z w ∧ V2 G S z r := by
  cases p <;> simp only [lenMV, reduceCtorEq] at h
  · rename_i i
    split at h
    · rename_i es he
      cases h
      cases hu.map_inv
      obtain ⟨mes, h1, h2, _⟩ := hs.ent i _ he
      refine ⟨goInt mes.size, by simp [Builtin.len_, run_underlying ht, getObj, Sem.run, h1], by rw [h2]; exact .one (.v0 (.int _ _))⟩
    · cases h

/-! loads -/

theorem run_loadVar_C {t : Nat} {n : Option Nat} {ad : Addr} {l : List AV} {off : Nat} {r : AV} (hs : shapeC T t = some n) {f : Nat → Value} (hc : ∀ j, j < l.length → w.cell? ⟨ad.block, ad.off + j, none⟩ = some (f j))
    (hv : ∀ j (h : j < l.length), V1 G S (f j) (l[j])) (h : takeC n l off = some r) : ∃ z, (loadVar t ⟨ad.block, ad.off + off, none⟩).run T.P w = .ok z w ∧ V2 G S z r := by
  simp only [shapeC, Option.bind_eq_some_iff, Option.some.injEq] at hs
  obtain ⟨c, hcc, m, hm, hn⟩ := hs
  cases c with
  | false =>
    simp only [cond_false] at hn
    subst hn
    simp only [takeC] at h
    obtain ⟨hj, rfl⟩ := List.getElem?_eq_some_iff.1 h
    exact ⟨f off, by simp [loadVar, run_isAgg_C hcc, hc off hj], .one (hv off hj)⟩
  | true =>
    simp only [cond_true] at hn
    subst hn
    simp only [takeC] at h
    split at h
    · rename_i hle
      cases h
      have hcells : ∀ j, j < m → w.cell? ((⟨ad.block, ad.off + off, none⟩ : Addr).add j) = some (f (off + j)) := fun j hj => by
        rw [addr_add, Nat.add_assoc]; exact hc (off + j) (by omega)
      have hl := run_loadCells (P := T.P) w ⟨ad.block, ad.off + off, none⟩ m (fun j => f (off + j)) hcells
      refine ⟨.agg ((List.range m).map fun j => f (off + j)).toArray, by simp [loadVar, run_isAgg_C hcc, run_sizeOf_C hm, hl], .agg _ _ (by simp; omega) fun j hj => ?_⟩
      have hj' : off + j < l.length := by simp at hj; omega
      have hjm : j < m := by simp at hj; omega
      have := hv (off + j) hj'
      simp only [List.getElem_take, List.getElem_drop]
      simpa [Array.getD_eq_getD_getElem?, hjm] using this
    · cases h

theorem op_loadI {t : Nat} {n : Option Nat} {u : Value} {p r : AV} (hs : Sat X G b S w) (ht : shapeC T t = some n) (hu : V2 G S u p) (h : loadIV n p = some r) : ∃ z, (Instr.loadAt t u).run T.P w = .ok z w ∧ V2 G S z r := by
  cases p <;> simp only [loadIV, reduceCtorEq] at h
  rename_i cs o
  obtain ⟨blk, s, rfl, hrow⟩ := hu.ip_inv
  have hc : ∀ j, j < cs.length → w.cell? ⟨blk, s + j, none⟩ = some ((G.M blk (s + j)).getD undef) := fun j hj => by
    obtain ⟨v, h1, _⟩ := hrow j hj
    rw [h1]; exact hs.im _ _ _ h1
  obtain ⟨z, h1, h2⟩ := run_loadVar_C (w := w) (G := G) (S := S) (ad := ⟨blk, s, none⟩) ht hc (fun j hj => by obtain ⟨v, h1, h2⟩ := hrow j hj; rw [h1]; exact .v0 h2) h
  exact ⟨z, by simpa [Instr.loadAt, Instr.sureAddr] using h1, h2⟩

/-- The cells of an entry. -/
theorem Sat.cells (hs : Sat X G b S w) {i : Nat} {cs : List AV} (he : S[i]? = some (.obj cs)) : ∃ f : Nat → Value, (∀ j, j < cs.length → w.cell? ⟨G.β i, j, none⟩ = some (f j)) ∧ (∀ j (h : j < cs.length), V1 G S (f j) (cs[j])) := by
  by_cases hne : cs = []
  · subst hne; exact ⟨fun _ => undef, fun j hj => by simp at hj, fun j hj => by simp at hj⟩
  · obtain ⟨arr, ty, fz, h1, h2, h3, h4, h5⟩ := hs.ent i _ he hne
    refine ⟨fun j => arr.getD j undef, fun j hj => ?_, h4⟩
    simp [World.cell?, h1, Array.getD_eq_getD_getElem?, show j < arr.size by omega]

theorem op_load {t : Nat} {n : Option Nat} {u : Value} {p r : AV} (hs : Sat X G b S w) (ht : shapeC T t = some n) (hu : V2 G S u p) (h : loadV n p S = some r) : ∃ z, (Instr.loadAt t u).run T.P w = .ok z w ∧ V2 G S z r := by
  cases p <;> simp only [loadV, reduceCtorEq] at h
  · exact op_loadI hs ht hu (by simpa [loadIV] using h)
  · rename_i i o
    split at h
    · rename_i cs he
      cases hu.ptr_inv
      obtain ⟨f, h1, h2⟩ := hs.cells he
      obtain ⟨z, h3, h4⟩ := run_loadVar_C (w := w) (ad := ⟨G.β i, 0, none⟩) ht (fun j hj => by simpa using h1 j hj) h2 h
      exact ⟨z, by simpa [Instr.loadAt, Instr.sureAddr] using h3, h4⟩
    · cases h

end
end Go.Abs

/-
  Slices of slices, closures, greatest and least, comparisons of structs, literals.
-/
namespace Go.Abs
open Go Go.RowKit

section
variable {T : Tabs} {X : Ctx} {G : Gst} {b N : Nat} {e : Env} {S : Store} {a : Act} {w : World} {P : Program}

/-- An operand that may be left out. -/
def OptRel (G : Gst) (S : Store) (u : Option Value) (p : Option AV) : Prop := (p = none ∧ u = none) ∨ ∃ q v, p = some q ∧ u = some v ∧ V2 G S v q

theorem bound_cases {u : Option Value} {p : Option AV} {most dflt n : Nat} (hu : OptRel G S u p) (h : bound p most dflt = some n) :
    (u = none ∧ p = none ∧ n = dflt) ∨ ∃ k m, u = some (.int k m) ∧ p.isSome = true ∧ 0 ≤ m ∧ m ≤ most ∧ n = m.toNat := by
  rcases hu with ⟨rfl, rfl⟩ | ⟨q, v, rfl, rfl, hv⟩
  · simp [bound] at h; exact .inl ⟨rfl, rfl, h.symm⟩
  · cases q <;> simp only [bound, reduceCtorEq] at h
    split at h
    · rename_i hk
      cases h
      cases hv.int_inv
      exact .inr ⟨_, _, rfl, rfl, hk.1, hk.2, rfl⟩
    · cases h

theorem drop_take_flat {xs : List (List AV)} {sz l h : Nat} (hsz : ∀ x ∈ xs, x.length = sz) : ((xs.take h).drop l).flatten = (xs.flatten.take (h * sz)).drop (l * sz) := by
  have t : ∀ (xs : List (List AV)) (h : Nat), (∀ x ∈ xs, x.length = sz) → (xs.take h).flatten = xs.flatten.take (h * sz) := by
    intro xs
    induction xs with
    | nil => intro h _; simp
    | cons x xs ih =>
      intro h hs
      cases h with
      | zero => simp
      | succ h =>
        have hx := hs x (by simp)
        simp only [List.take_succ_cons, List.flatten_cons]
        rw [ih h fun y hy => hs y (by simp [hy]), List.take_append, Nat.succ_mul]
        congr 1
        · rw [List.take_of_length_le (by omega)]
        · congr 1; omega
  have d : ∀ (xs : List (List AV)) (l : Nat), (∀ x ∈ xs, x.length = sz) → (xs.drop l).flatten = xs.flatten.drop (l * sz) := by
    intro xs
    induction xs with
    | nil => intro l _; simp
    | cons x xs ih =>
      intro l hs
      cases l with
      | zero => simp
      | succ l =>
        have hx := hs x (by simp)
        simp only [List.drop_succ_cons, List.flatten_cons]
        rw [ih l fun y hy => hs y (by simp [hy]), List.drop_append, Nat.succ_mul, List.drop_of_length_le (show x.length ≤ l * sz + sz by omega)]
        simp only [List.nil_append]
        congr 1; omega
  rw [d _ _ fun x hx => hsz x (List.mem_of_mem_take hx), t _ _ hsz]

theorem Row.sub {M : Mem} {blk o : Nat} {cs : List AV} (h : Row M blk o cs) (l n : Nat) : Row M blk (o + l) ((cs.take n).drop l) := by
  intro j hj
  have hj' : l + j < cs.length := by simp at hj; omega
  obtain ⟨v, h1, h2⟩ := h (l + j) hj'
  refine ⟨v, by rw [Nat.add_assoc]; exact h1, ?_⟩
  simpa using h2

theorem szOK_all {sz sz' : Nat} {xs : List (List AV)} (h : szOK sz xs = true) (hall : ∀ x ∈ xs, x.length = sz') : ∀ x ∈ xs, x.length = sz := by
  cases xs with
  | nil => simp
  | cons x xs =>
    have h1 : x.length = sz := by simpa [szOK] using h
    have h2 := hall x (by simp)
    intro y hy
    rw [hall y hy, ← h2, h1]

theorem mx_cases {u : Option Value} {p : Option AV} {n : Nat} (hu : OptRel G S u p) (h : mxFits p n = true) : (u = none ∧ p = none) ∨ ∃ k m, u = some (.int k m) ∧ p.isSome = true ∧ m = (n : Int) := by
  rcases hu with ⟨rfl, rfl⟩ | ⟨q, v, rfl, rfl, hv⟩
  · exact .inl ⟨rfl, rfl⟩
  · cases q <;> simp only [mxFits, Bool.false_eq_true, beq_iff_eq] at h
    cases hv.int_inv
    exact .inr ⟨_, _, rfl, rfl, h⟩

theorem run_sliceAt {t el sz : Nat} (ht : T.P.underlying t = some (.slice el)) (hsz : (sizeOf el).run T.P w = .ok sz w) {ad : Option Addr} {len cap l h : Nat} {lo hi mx : Option Value}
    (h1 : (lo = none ∧ l = 0) ∨ ∃ k m, lo = some (.int k m) ∧ 0 ≤ m ∧ m ≤ (h : Int) ∧ l = m.toNat) (h2 : (hi = none ∧ h = len) ∨ ∃ k m, hi = some (.int k m) ∧ 0 ≤ m ∧ m ≤ (len : Int) ∧ h = m.toNat)
    (hlen : len ≤ cap) (h3 : mx = none ∨ (∃ k, mx = some (.int k (h : Int)) ∧ hi ≠ none)) :
    (Instr.sliceAt t (.slice ad len cap) lo hi mx).run T.P w = .ok (.slice (if (if mx = none then cap else h) = l then ad else ad.map (·.add (l * sz))) (h - l) ((if mx = none then cap else h) - l)) w := by
  have h1' : (lo = none ∧ l = 0) ∨ ∃ k, lo = some (.int k (l : Int)) ∧ l ≤ h := by
    rcases h1 with h1 | ⟨k, m, h4, h5, h6, rfl⟩
    · exact .inl h1
    · exact .inr ⟨k, by rw [h4, Int.toNat_of_nonneg h5], by omega⟩
  have h2' : (hi = none ∧ h = len) ∨ ∃ k, hi = some (.int k (h : Int)) ∧ h ≤ len := by
    rcases h2 with h2 | ⟨k, m, h4, h5, h6, rfl⟩
    · exact .inl h2
    · exact .inr ⟨k, by rw [h4, Int.toNat_of_nonneg h5], by omega⟩
  clear h1 h2
  rcases h3 with rfl | ⟨k3, rfl, hne⟩
  · rcases h2' with ⟨rfl, rfl⟩ | ⟨k2, rfl, b2⟩ <;> rcases h1' with ⟨rfl, rfl⟩ | ⟨k1, rfl, b1⟩
    · simp [Instr.sliceAt, run_underlying ht, Instr.slice, Instr.sliceBounds, hsz]
    · simp [Instr.sliceAt, run_underlying ht, Instr.slice, Instr.sliceBounds, Instr.sliceBound, asIntOf, b1, hsz]
    · have c2 : h ≤ cap := by omega
      simp [Instr.sliceAt, run_underlying ht, Instr.slice, Instr.sliceBounds, Instr.sliceBound, asIntOf, c2, hsz]
    · have c2 : h ≤ cap := by omega
      simp [Instr.sliceAt, run_underlying ht, Instr.slice, Instr.sliceBounds, Instr.sliceBound, asIntOf, c2, b1, hsz]
  · rcases h2' with ⟨rfl, rfl⟩ | ⟨k2, rfl, b2⟩
    · exact absurd rfl hne
    · have c2 : h ≤ cap := by omega
      rcases h1' with ⟨rfl, rfl⟩ | ⟨k1, rfl, b1⟩
      · simp [Instr.sliceAt, run_underlying ht, Instr.slice, Instr.sliceBounds, Instr.sliceBound, asIntOf, c2, hsz]
      · simp [Instr.sliceAt, run_underlying ht, Instr.slice, Instr.sliceBounds, Instr.sliceBound, asIntOf, c2, b1, hsz]

theorem op_slice {t el sz : Nat} {u : Value} {lo hi mx : Option Value} {p r : AV} {pl ph pm : Option AV} (ht : T.P.underlying t = some (.slice el)) (he : elemC T el = some sz) (hu : V2 G S u p)
    (hl : OptRel G S lo pl) (hh : OptRel G S hi ph) (hm : OptRel G S mx pm) (hmh : pm ≠ none → ph ≠ none) (h : sliceV sz p pl ph pm = some r) : ∃ z, (Instr.sliceAt t u lo hi mx).run T.P w = .ok z w ∧ V2 G S z r := by
  have hsz := run_sizeOf_C (elemC_size he) w
  cases p <;> simp only [sliceV, reduceCtorEq] at h
  · rename_i xs tk
    obtain ⟨n, hn, h⟩ := Option.bind_eq_some_iff.1 h
    obtain ⟨l, hl', h⟩ := Option.bind_eq_some_iff.1 h
    cases hf : mxFits pm n && szOK sz xs with
    | false => rw [hf] at h; cases h
    | true =>
      rw [hf] at h
      simp only [cond_true, Option.some.injEq] at h
      subst h
      simp only [Bool.and_eq_true] at hf
      have b2 := bound_cases hh hn
      have b1 := bound_cases hl hl'
      have b3 := mx_cases hm hf.1
      have hle : n ≤ xs.length := by rcases b2 with ⟨_, _, rfl⟩ | ⟨_, _, _, _, _, _, rfl⟩ <;> omega
      have hll : l ≤ n := by rcases b1 with ⟨_, _, rfl⟩ | ⟨_, _, _, _, _, _, rfl⟩ <;> omega
      have g1 : (lo = none ∧ l = 0) ∨ ∃ k m, lo = some (.int k m) ∧ 0 ≤ m ∧ m ≤ (n : Int) ∧ l = m.toNat := by
        rcases b1 with ⟨q1, _, q2⟩ | ⟨k, m, q1, _, q2, q3, q4⟩
        · exact .inl ⟨q1, q2⟩
        · exact .inr ⟨k, m, q1, q2, q3, q4⟩
      have g2 : (hi = none ∧ n = xs.length) ∨ ∃ k m, hi = some (.int k m) ∧ 0 ≤ m ∧ m ≤ (xs.length : Int) ∧ n = m.toNat := by
        rcases b2 with ⟨q1, _, q2⟩ | ⟨k, m, q1, _, q2, q3, q4⟩
        · exact .inl ⟨q1, q2⟩
        · exact .inr ⟨k, m, q1, q2, q3, q4⟩
      have g3 : mx = none ∨ (∃ k, mx = some (.int k (n : Int)) ∧ hi ≠ none) := by
        rcases b3 with ⟨q1, _⟩ | ⟨k, m, q1, q2, rfl⟩
        · exact .inl q1
        · refine .inr ⟨k, q1, fun e => ?_⟩
          rcases hh with ⟨e1, _⟩ | ⟨_, _, _, e2, _⟩
          · exact hmh (by rintro rfl; simp at q2) e1
          · rw [e] at e2; cases e2
      rcases hu.sl_none.sl_inv with ⟨⟨ad, rfl⟩, rfl⟩ | ⟨blk, o, cap, sz', rfl, hcap, hall, _, hrow⟩
      · have hn0 : n = 0 := by simpa using hle
        have hl0 : l = 0 := by omega
        subst hn0; subst hl0
        have hr := run_sliceAt (w := w) ht hsz (ad := ad) (len := 0) (cap := 0) (l := 0) (h := 0) g1 (by simpa using g2) (Nat.le_refl _) g3
        refine ⟨.slice ad 0 0, by simpa using hr, .one (.v0 ?_)⟩
        simp only [List.take_nil, List.drop_nil]
        refine .nilsl _ _ ?_
        unfold sliceTok
        split <;> trivial
      · have hr := run_sliceAt (w := w) ht hsz (ad := some ⟨blk, o, none⟩) (len := xs.length) (cap := cap) (l := l) (h := n) g1 g2 hcap g3
        refine ⟨_, hr, .one (.v0 ?_)⟩
        have hall' := szOK_all hf.2 hall
        have htok : (sliceTok ph pm tk).plain := by unfold sliceTok; split <;> trivial
        have hlen : ((xs.take n).drop l).length = n - l := by simp; omega
        have hall'' : ∀ x ∈ (xs.take n).drop l, x.length = sz := fun x hx => hall' x (List.mem_of_mem_take (List.mem_of_mem_drop hx))
        have hfull : (sliceTok ph pm tk).isFull → (if mx = none then cap else n) - l = n - l := by
          intro hf'
          rcases b3 with ⟨q1, q2⟩ | ⟨k, m, q1, q2, _⟩
          · subst q1; subst q2
            have : ph = none ∧ tk = .full := by
              cases ph with
              | some _ => exact hf'.elim
              | none =>
                cases tk with
                | full => exact ⟨rfl, rfl⟩
                | none => exact hf'.elim
                | own _ => exact hf'.elim
            obtain ⟨rfl, rfl⟩ := this
            have hn' : n = xs.length := by rcases b2 with ⟨_, _, q⟩ | ⟨_, _, _, q, _⟩ <;> first | exact q | simp at q
            have hc : cap = xs.length := by
              have hv0 : V0 G.M (.slice (some ⟨blk, o, none⟩) xs.length cap) (.sl xs .full) := by cases hu with | one hu => cases hu with | v0 hu => exact hu
              rcases hv0.sl_inv with ⟨⟨_, he⟩, hx⟩ | ⟨_, _, _, _, he, _, _, hf, _⟩
              · simp only [Value.slice.injEq] at he; omega
              · simp only [Value.slice.injEq] at he; have := hf trivial; omega
            simp [hn', hc]
          · simp [q1]
        have hnm : n ≤ (if mx = none then cap else n) := by split <;> omega
        generalize (if mx = none then cap else n) = m' at *
        split
        · rename_i hml
          have : n - l = 0 := by omega
          refine V0.of_row (sz := sz) htok hlen (by omega) hall'' hfull ?_
          intro j hj
          exfalso
          have : ((xs.take n).drop l) = [] := List.eq_nil_of_length_eq_zero (by omega)
          rw [this] at hj; simp at hj
        · rw [Option.map_some, addr_add]
          refine V0.of_row (sz := sz) htok hlen (by omega) hall'' hfull ?_
          rw [drop_take_flat hall']
          exact hrow.sub _ _
  · rename_i i off len s
    obtain ⟨n, hn, h⟩ := Option.bind_eq_some_iff.1 h
    obtain ⟨l, hl', h⟩ := Option.bind_eq_some_iff.1 h
    cases hf : pm.isNone && Nat.beq s sz with
    | false => rw [hf] at h; cases h
    | true =>
      rw [hf] at h
      simp only [cond_true, Option.some.injEq] at h
      subst h
      simp only [Bool.and_eq_true, Option.isNone_iff_eq_none] at hf
      obtain rfl := hf.1
      obtain rfl := Nat.eq_of_beq_eq_true hf.2
      have hmx : mx = none := by rcases hm with ⟨_, q⟩ | ⟨_, _, q, _⟩ <;> first | exact q | cases q
      subst hmx
      have b2 := bound_cases hh hn
      have b1 := bound_cases hl hl'
      have hle : n ≤ len := by rcases b2 with ⟨_, _, rfl⟩ | ⟨_, _, _, _, _, _, rfl⟩ <;> omega
      have hll : l ≤ n := by rcases b1 with ⟨_, _, rfl⟩ | ⟨_, _, _, _, _, _, rfl⟩ <;> omega
      obtain ⟨ad, cap, rfl, hcap, had, hpl⟩ := hu.osl_inv'
      have g1 : (lo = none ∧ l = 0) ∨ ∃ k m, lo = some (.int k m) ∧ 0 ≤ m ∧ m ≤ (n : Int) ∧ l = m.toNat := by
        rcases b1 with ⟨q1, _, q2⟩ | ⟨k, m, q1, _, q2, q3, q4⟩
        · exact .inl ⟨q1, q2⟩
        · exact .inr ⟨k, m, q1, q2, q3, q4⟩
      have g2 : (hi = none ∧ n = len) ∨ ∃ k m, hi = some (.int k m) ∧ 0 ≤ m ∧ m ≤ (len : Int) ∧ n = m.toNat := by
        rcases b2 with ⟨q1, _, q2⟩ | ⟨k, m, q1, _, q2, q3, q4⟩
        · exact .inl ⟨q1, q2⟩
        · exact .inr ⟨k, m, q1, q2, q3, q4⟩
      have hr := run_sliceAt (w := w) ht hsz (ad := ad) (len := len) (cap := cap) (l := l) (h := n) g1 g2 hcap (.inl rfl)
      simp only [if_true] at hr
      refine ⟨_, hr, .one (.osl _ i _ _ _ _ (by omega) (fun hpos => ?_) ?_)⟩
      · have hne : ¬ cap = l := by omega
        obtain ⟨q1, q2⟩ := had (by omega)
        refine ⟨by rw [if_neg hne, q1, Option.map_some, addr_add], ?_⟩
        rw [Nat.sub_mul]
        have : l * s ≤ cap * s := Nat.mul_le_mul_right _ (by omega)
        omega
      · rcases hpl with rfl | ⟨c, o', rfl⟩
        · exact .inl (by omega)
        · split
          · exact .some _ _ _
          · rw [Option.map_some, addr_add]; exact .some _ _ _

theorem extract_list (s : ByteArray) (l h : Nat) : (s.extract l h).data.toList = (s.data.toList.take h).drop l := by
  simp [ByteArray.data_extract, Array.toList_extract, List.extract_eq_take_drop, List.drop_take]

theorem op_sliceS {t : Nat} {u : Value} {lo hi : Option Value} {p r : AV} {pl ph : Option AV} (ht : T.P.underlying t = some .string) (hu : V2 G S u p)
    (hl : OptRel G S lo pl) (hh : OptRel G S hi ph) (h : sliceSV p pl ph = some r) : ∃ z, (Instr.sliceAt t u lo hi none).run T.P w = .ok z w ∧ V2 G S z r := by
  cases p <;> simp only [sliceSV, reduceCtorEq] at h
  rename_i s
  obtain ⟨n, hn, h⟩ := Option.bind_eq_some_iff.1 h
  obtain ⟨l, hl', h⟩ := Option.bind_eq_some_iff.1 h
  cases h
  obtain ⟨z, rfl, hz⟩ := hu.str_inv
  have hsz := size_of hz
  refine ⟨.string (z.extract l n), ?_, .one (.v0 (.str _ _ (by rw [extract_list, hz])))⟩
  have h2' : (hi = none ∧ n = z.size) ∨ ∃ k, hi = some (.int k (n : Int)) ∧ n ≤ z.size := by
    rcases bound_cases hh hn with ⟨h1, _, h2⟩ | ⟨k, m, h1, _, h3, h4, rfl⟩
    · exact .inl ⟨h1, by omega⟩
    · exact .inr ⟨k, by rw [h1, Int.toNat_of_nonneg h3], by omega⟩
  have h1' : (lo = none ∧ l = 0) ∨ ∃ k, lo = some (.int k (l : Int)) ∧ l ≤ n := by
    rcases bound_cases hl hl' with ⟨h1, _, h2⟩ | ⟨k, m, h1, _, h3, h4, rfl⟩
    · exact .inl ⟨h1, by omega⟩
    · exact .inr ⟨k, by rw [h1, Int.toNat_of_nonneg h3], by omega⟩
  rcases h2' with ⟨rfl, rfl⟩ | ⟨k2, rfl, b2⟩ <;> rcases h1' with ⟨rfl, rfl⟩ | ⟨k1, rfl, b1⟩
  · simp [Instr.sliceAt, run_underlying ht, Instr.slice, Instr.sliceBounds]
  · simp [Instr.sliceAt, run_underlying ht, Instr.slice, Instr.sliceBounds, Instr.sliceBound, asIntOf, b1]
  · simp [Instr.sliceAt, run_underlying ht, Instr.slice, Instr.sliceBounds, Instr.sliceBound, asIntOf, b2]
  · simp [Instr.sliceAt, run_underlying ht, Instr.slice, Instr.sliceBounds, Instr.sliceBound, asIntOf, b2, b1]

theorem chunks_length (sz : Nat) : ∀ (n : Nat) (cs : List AV), (chunks sz cs n).length = n
  | 0, _ => rfl
  | n + 1, cs => by simp [chunks, chunks_length sz n]

theorem chunks_width (sz : Nat) : ∀ (n : Nat) (cs : List AV), n * sz ≤ cs.length → ∀ x ∈ chunks sz cs n, x.length = sz
  | 0, _, _ => by simp [chunks]
  | n + 1, cs, h => by
    rw [Nat.succ_mul] at h
    intro x hx
    simp only [chunks, List.mem_cons] at hx
    rcases hx with rfl | hx
    · simp; omega
    · exact chunks_width sz n _ (by simp; omega) x hx

theorem chunks_flat (sz : Nat) : ∀ (n : Nat) (cs : List AV), n * sz ≤ cs.length → (chunks sz cs n).flatten = cs.take (n * sz)
  | 0, cs, _ => by simp [chunks]
  | n + 1, cs, h => by
    rw [Nat.succ_mul] at h
    simp only [chunks, List.flatten_cons]
    rw [chunks_flat sz n _ (by simp; omega), Nat.succ_mul, Nat.add_comm, List.take_add]

theorem op_sliceA {t n el sz : Nat} {u : Value} {lo hi : Option Value} {p r : AV} {pl ph : Option AV} (ht : T.P.underlying t = some (.array n el)) (he : elemC T el = some sz) (hs : Sat X G b S w) (hu : V2 G S u p)
    (hl : OptRel G S lo pl) (hh : OptRel G S hi ph) (h : sliceAV sz n p pl ph S = some r) : ∃ z, (Instr.sliceAt t u lo hi none).run T.P w = .ok z w ∧ V2 G S z r := by
  have hsz := run_sizeOf_C (elemC_size he) w
  simp only [sliceAV] at h
  obtain ⟨m, hn, h⟩ := Option.bind_eq_some_iff.1 h
  obtain ⟨l, hl', h⟩ := Option.bind_eq_some_iff.1 h
  have h2' : (hi = none ∧ m = n) ∨ ∃ k, hi = some (.int k (m : Int)) ∧ m ≤ n := by
    rcases bound_cases hh hn with ⟨h1, _, h2⟩ | ⟨k, x, h1, _, h3, h4, rfl⟩
    · exact .inl ⟨h1, by omega⟩
    · exact .inr ⟨k, by rw [h1, Int.toNat_of_nonneg h3], by omega⟩
  have h1' : (lo = none ∧ l = 0) ∨ ∃ k, lo = some (.int k (l : Int)) ∧ l ≤ m := by
    rcases bound_cases hl hl' with ⟨h1, _, h2⟩ | ⟨k, x, h1, _, h3, h4, rfl⟩
    · exact .inl ⟨h1, by omega⟩
    · exact .inr ⟨k, by rw [h1, Int.toNat_of_nonneg h3], by omega⟩
  have hmn : m ≤ n := by rcases h2' with ⟨_, rfl⟩ | ⟨_, _, q⟩ <;> omega
  have hlm : l ≤ m := by rcases h1' with ⟨_, rfl⟩ | ⟨_, _, q⟩ <;> omega
  have key : ∀ ad : Addr, u = .pointer (some ad) → (Instr.sliceAt t u lo hi none).run T.P w = .ok (.slice (some (if n = l then ad else ad.add (l * sz))) (m - l) (n - l)) w := by
    rintro ad rfl
    rcases h2' with ⟨rfl, rfl⟩ | ⟨k2, rfl, b2⟩ <;> rcases h1' with ⟨rfl, rfl⟩ | ⟨k1, rfl, b1⟩
    · simp [Instr.sliceAt, run_underlying ht, Instr.sureAddr, Instr.sliceBounds, hsz]
    · simp [Instr.sliceAt, run_underlying ht, Instr.sureAddr, Instr.sliceBounds, Instr.sliceBound, asIntOf, b1, hsz]
    · simp [Instr.sliceAt, run_underlying ht, Instr.sureAddr, Instr.sliceBounds, Instr.sliceBound, asIntOf, b2, hsz]
    · simp [Instr.sliceAt, run_underlying ht, Instr.sureAddr, Instr.sliceBounds, Instr.sliceBound, asIntOf, b2, b1, hsz]
  cases p <;> simp only [reduceCtorEq] at h
  · rename_i cs off _ _
    split at h
    · rename_i hle
      cases h
      obtain ⟨blk, s, rfl, hrow⟩ := hu.ip_inv
      refine ⟨_, key _ rfl, .one (.v0 ?_)⟩
      have hch : n * sz ≤ (cs.drop off).length := by simp; omega
      have hw := chunks_width sz n (cs.drop off) hch
      have hlen : (((chunks sz (cs.drop off) n).take m).drop l).length = m - l := by simp [chunks_length]; omega
      have hall : ∀ x ∈ ((chunks sz (cs.drop off) n).take m).drop l, x.length = sz := fun x hx => hw x (List.mem_of_mem_take (List.mem_of_mem_drop hx))
      have hrow' : Row G.M blk (s + off + l * sz) (((chunks sz (cs.drop off) n).take m).drop l).flatten := by
        rw [drop_take_flat hw, chunks_flat sz n _ hch]
        refine Row.sub ?_ _ _
        intro j hj
        have hj' : off + j < cs.length := by simp at hj; omega
        obtain ⟨v, h3, h4⟩ := hrow (off + j) hj'
        exact ⟨v, by rw [Nat.add_assoc]; exact h3, by simpa using h4⟩
      split
      · refine V0.of_row (sz := sz) trivial hlen (by omega) hall (fun h => h.elim) ?_
        intro j hj
        exfalso
        have : ((chunks sz (cs.drop off) n).take m).drop l = [] := List.eq_nil_of_length_eq_zero (by omega)
        rw [this] at hj; simp at hj
      · rw [addr_add]
        exact V0.of_row (sz := sz) trivial hlen (by omega) hall (fun h => h.elim) hrow'
    · cases h
  · rename_i i off _ _
    split at h
    · rename_i cs hent
      split at h
      · rename_i hfit
        cases h
        cases hu.ptr_inv
        refine ⟨_, key _ rfl, .one (.osl _ i _ _ _ _ (by omega) (fun hpos => ?_) ?_)⟩
        · have hne : ¬ n = l := by omega
          have hsz1 : 1 ≤ sz := by obtain ⟨_, _, _, h1, _⟩ := elemC_eq he; exact h1
          have hcs : cs ≠ [] := by
            intro h0; subst h0
            have : 1 * 1 ≤ n * sz := Nat.mul_le_mul (by omega) hsz1
            simp at hfit; omega
          obtain ⟨arr, ty, fz, _, k1, _, _, _, k2⟩ := hs.ent i _ hent hcs
          refine ⟨by rw [if_neg hne, addr_add], ?_⟩
          rw [Nat.sub_mul]
          have : l * sz ≤ n * sz := Nat.mul_le_mul_right _ (by omega)
          omega
        · split
          · exact .some _ _ _
          · rw [addr_add]; exact .some _ _ _
      · cases h
    · cases h

theorem op_ofInt {s t : Nat} {k : IntKind} {u : Value} {p r : AV} (hs : T.P.underlying s = some (.int k)) (ht : T.P.underlying t = some .string) (hu : V2 G S u p) (h : ofIntV p = some r) :
    ∃ z, (convert s t u).run T.P w = .ok z w ∧ V0 G.M z r := by
  cases p <;> simp only [ofIntV, reduceCtorEq] at h
  rename_i k' n
  split at h
  · rename_i hn
    cases h
    cases hu.int_inv
    refine ⟨.string (Utf8.encode n), by simp [convert, run_underlying hs, run_underlying ht, Conv.intToString], .str _ _ ?_⟩
    have hv : Utf8.valid n = true := by unfold Utf8.valid; simp; omega
    have hc : n.toNat < 128 := by omega
    simp [Utf8.encode, hv, hc]
  · cases h

theorem run_minmaxGo {mx : Bool} {k : IntKind} : ∀ (l : List AV) (vs : List Value) (x : Int) (r : AV), vs.length = l.length → (∀ j (h : j < l.length), V2 G S (vs.getD j undef) (l[j])) → minmaxGo mx k x l = some r →
    ∃ z, (List.foldlM (if mx then Builtin.max2 else Builtin.min2) (.int k x) vs : Sem Value).run P w = .ok z w ∧ V0 G.M z r
  | [], vs, x, r, hs, _, h => by
    have : vs = [] := List.eq_nil_of_length_eq_zero (by simpa using hs)
    subst this
    simp only [minmaxGo, Option.some.injEq] at h
    subst h
    exact ⟨.int k x, by cases mx <;> simp, .int _ _⟩
  | c :: l, vs, x, r, hs, hv, h => by
    cases vs with
    | nil => simp at hs
    | cons v vs =>
      cases c <;> simp only [minmaxGo, reduceCtorEq] at h
      rename_i k' y
      split at h
      · rename_i hk
        subst hk
        have h0 := hv 0 (by simp)
        have hv0 : v = .int k y := by simpa using h0.int_inv
        subst hv0
        obtain ⟨z, h1, h2⟩ := run_minmaxGo l vs _ r (by simpa using hs) (fun j hj => hv (j + 1) (Nat.succ_lt_succ hj)) h
        refine ⟨z, ?_, h2⟩
        cases mx
        · simpa [Builtin.min2, min2] using h1
        · simpa [Builtin.max2, max2] using h1
      · cases h

theorem op_minmax {mx : Bool} {ts : Array Nat} {ty : Nat} {vs : Array Value} {l : List AV} {r : AV} (hs : vs.size = l.length) (hv : ∀ j (h : j < l.length), V2 G S (vs.getD j undef) (l[j])) (h : minmaxV mx l = some r) :
    ∃ z, (if mx then Builtin.max_ ts ty vs else Builtin.min_ ts ty vs : Sem Value).run P w = .ok z w ∧ V0 G.M z r := by
  cases l with
  | nil => simp [minmaxV] at h
  | cons c l =>
    obtain ⟨vs⟩ := vs
    cases vs with
    | nil => simp at hs
    | cons v vs =>
      cases c <;> simp only [minmaxV, reduceCtorEq] at h
      rename_i k x
      have h0 := hv 0 (by simp)
      have hv0 : v = .int k x := by simpa using h0.int_inv
      subst hv0
      obtain ⟨z, h1, h2⟩ := run_minmaxGo (P := P) (w := w) (G := G) (S := S) l vs x r (by simpa using hs) (fun j hj => by have := hv (j + 1) (Nat.succ_lt_succ hj); rw [List.getElem_cons_succ] at this; simpa [Array.getD_eq_getD_getElem?, List.getD_eq_getElem?_getD] using this) h
      refine ⟨z, ?_, h2⟩
      cases mx <;> simpa [Builtin.max_, Builtin.min_] using h1

end
end Go.Abs

/-
  Operations that make memory, and that write it.
-/
namespace Go.Abs
open Go Go.RowKit

section
variable {T : Tabs} {X : Ctx} {G : Gst} {b N : Nat} {e : Env} {S : Store} {a : Act} {w : World} {P : Program}

theorem run_newVar (t : Nat) (v : Value) : (newVar t v).run P w = .ok ⟨w.heap.size, 0, none⟩ (w.alloc (.cells v.cells t)) := by
  simp [newVar, newRow]

theorem not_tup_of_imms {p : AV} {cs : List AV} (h : imms (cellsOf p) = some cs) : isTup p = false := by
  cases p <;> first | rfl | simp [cellsOf, imms, imm1] at h

theorem not_tup_of_cells1 {p : AV} {cs : List AV} (h : cells1 (cellsOf p) = some cs) : isTup p = false := by
  cases p <;> first | rfl | simp [cellsOf, cells1, cell1] at h

theorem cells1_eq {l l' : List AV} (h : cells1 l = some l') : l' = l := by
  induction l generalizing l' with
  | nil => simp [cells1] at h; exact h
  | cons a l ih =>
    simp only [cells1, Option.bind_eq_some_iff] at h
    obtain ⟨a', h1, l2, h2, h3⟩ := h
    cases h3
    have : a' = a := by cases a <;> simp only [cell1, Option.some.injEq, reduceCtorEq] at h1 <;> exact h1.symm
    rw [this, ih h2]

theorem cellsOf_below {n : Nat} {p : AV} (h : below n p = true) : belows n (cellsOf p) = true := by
  cases p <;> first | (simp only [cellsOf, belows, Bool.and_true]; exact h) | (rw [below_agg_eq] at h; exact h)

/-- A row known for good. -/
theorem row_ok (hs : Sat X G b S w) (hb : b ≤ S.length) {arr : Array Value} {ty : Nat} {l : List AV} (hl : l.length ≤ arr.size) (hv : ∀ j (h : j < l.length), V0 G.M (arr.getD j undef) (l[j])) :
    ∃ G', Ext S.length b G S G' S ∧ Keep G S w G' S (w.alloc (.cells arr ty)) ∧ Sat X G' b S (w.alloc (.cells arr ty)) ∧ Row G'.M w.heap.size 0 l := by
  obtain ⟨h1, h2, h3⟩ := hs.row hb arr ty l.length
  exact ⟨_, h2, h3, h1, row_of_new hl (hs.withRow_le arr l.length) hv⟩

theorem op_boxP {t : Nat} {v : Value} {p : AV} {cs : List AV} (hs : Sat X G b S w) (hb : b ≤ S.length) (hv : V2 G S v p) (h : imms (cellsOf p) = some cs) :
    ∃ z w', (Instr.box t v).run P w = .ok z w' ∧ OpOK X G b S w (.ip cs 0) S z w' := by
  obtain ⟨h1, h2⟩ := cells_ok hv (not_tup_of_imms h)
  have hlen := imms_length h
  obtain ⟨G', e1, e2, e3, e4⟩ := row_ok (ty := t) hs hb (arr := v.cells) (l := cs) (by omega) (fun j hj => imm1_ok (imms_get h (by omega) hj) (h2 j (by omega)))
  exact ⟨_, _, by simp only [Instr.box, Sem.run_bind, run_newVar, Result.andThen_ok, Sem.run_pure], G', e1, e2, e3, .one (.v0 (V0.ip_of_row (off := 0) e4)), by simp [below]⟩

/-- An entry over a block just made. -/
theorem obj_ok (hs : Sat X G b S w) (hb : b ≤ S.length) {arr : Array Value} {ty : Nat} {l : List AV} (hl : l.length ≤ arr.size) (hv : ∀ j (h : j < l.length), V1 G S (arr.getD j undef) (l[j])) (hbel : belows S.length l = true) :
    ∃ G', Ext S.length b G S G' (S ++ [.obj l]) ∧ Keep G S w G' (S ++ [.obj l]) (w.alloc (.cells arr ty)) ∧ Sat X G' b (S ++ [.obj l]) (w.alloc (.cells arr ty)) ∧ G'.β S.length = w.heap.size ∧ G'.ζ S.length = arr.size := by
  have hE := ext_push (G := G) hb (.obj l) w.heap.size undef arr.size
  have hβ : (G.push S.length w.heap.size undef arr.size).β S.length = w.heap.size := by simp [Gst.push]
  have hζ : (G.push S.length w.heap.size undef arr.size).ζ S.length = arr.size := by simp [Gst.push]
  obtain ⟨h1, h2, h3⟩ := hs.push hb (.obj l) w.heap.size undef (z := arr.size) (alloc_below w (.cells arr ty)) (fun _ => by
      refine ⟨arr, ty, (0, 0), by rw [hβ]; exact heap_alloc_new _ _, hl, fun o _ => by omega, fun j hj => (hv j hj).mono hE (below_all_get hbel hj), fun o => by rw [hβ]; exact hs.m_new o, hζ.symm⟩)
    (fun c hc => by
      unfold Acts at hc
      simp only [List.getElem?_concat_length] at hc
      rw [hc.2, hβ]; exact Nat.le_refl _)
    (by simpa [entBelow] using belows_mono (Nat.le_succ _) hbel)
  exact ⟨_, h2, h3, h1, hβ, hζ⟩

theorem op_boxM {t : Nat} {v : Value} {p : AV} {cs : List AV} (hs : Sat X G b S w) (hb : b ≤ S.length) (hv : V2 G S v p) (hp : below S.length p = true) (h : cells1 (cellsOf p) = some cs) :
    ∃ z w', (Instr.box t v).run P w = .ok z w' ∧ OpOK X G b S w (.ptr S.length 0) (S ++ [.obj cs]) z w' := by
  obtain ⟨h1, h2⟩ := cells_ok hv (not_tup_of_cells1 h)
  obtain rfl := cells1_eq h
  obtain ⟨G', e1, e2, e3, e4, _⟩ := obj_ok (ty := t) hs hb (arr := v.cells) (l := cellsOf p) (by omega) h2 (cellsOf_below hp)
  refine ⟨.pointer (some ⟨w.heap.size, 0, none⟩), w.alloc (.cells v.cells t), by simp only [Instr.box, Sem.run_bind, run_newVar, Result.andThen_ok, Sem.run_pure], G', e1, e2, e3, ?_, by simp [below]⟩
  rw [← e4]; exact .one (.ptr _ _)

theorem zeroC_eq {t : Nat} {z : List AV} (h : zeroC T t = some z) : ∃ i v, T.P.info? t = some i ∧ i.zero = some v ∧ constCells v.cells.toList = some z := by
  simp only [zeroC, Option.bind_eq_some_iff] at h
  obtain ⟨i, h1, v, h2, h3⟩ := h
  exact ⟨i, v, h1, h2, h3⟩

theorem op_alloc {t : Nat} {z : List AV} (hs : Sat X G b S w) (hb : b ≤ S.length) (hz : zeroC T t = some z) {old : Value} :
    ∃ v w', (Instr.alloc t true old).run T.P w = .ok v w' ∧ OpOK X G b S w (.ptr S.length 0) (S ++ [.obj z]) v w' := by
  obtain ⟨i, v, h1, h2, h3⟩ := zeroC_eq hz
  obtain ⟨h4, h5⟩ := constCells_ok (M := G.M) h3
  obtain ⟨G', e1, e2, e3, e4, _⟩ := obj_ok (ty := t) hs hb (arr := v.cells) (l := z) (by simp at h4; omega)
    (fun j hj => .v0 (by have := h5 j hj; simpa [List.getD_eq_getElem?_getD, Array.getD_eq_getD_getElem?] using this)) (constCells_low h3)
  refine ⟨.pointer (some ⟨w.heap.size, 0, none⟩), w.alloc (.cells v.cells t), ?_, G', e1, e2, e3, ?_, by simp [below]⟩
  · simp [Instr.alloc, zeroValue, typeInfo, h1, h2, run_newVar]
  · rw [← e4]; exact .one (.ptr _ _)

/-! cells written -/

theorem heap_setCell_same {w : World} {k o : Nat} {arr : Array Value} {ty : Nat} {fz : Nat × Nat} {v : Value} (h : w.heap[k]? = some (.cells arr ty fz)) : (w.setCell ⟨k, o, none⟩ v).heap[k]? = some (.cells (arr.setIfInBounds o v) ty fz) := by
  simp only [World.setCell, Array.getElem?_modify]
  simp [h]

theorem oneCell_of_V1 {v : Value} {p : AV} (h : V1 G S v p) : v.oneCell' = true := by
  cases h with
  | v0 h => cases h <;> rfl
  | own h => rcases h.sl_inv with ⟨⟨_, rfl⟩, _⟩ | ⟨_, _, _, _, rfl, _⟩ <;> rfl
  | _ => rfl

/-- A row of cells stored, one by one. -/
theorem run_storeCells_in {blk ty : Nat} {fz : Nat × Nat} : ∀ (vs : List Value) (o i : Nat) (arr : Array Value) (w : World), w.heap[blk]? = some (.cells arr ty fz) → (∀ o, o < arr.size → ¬ (fz.1 ≤ o ∧ o < fz.2)) → o + i + vs.length ≤ arr.size → (∀ v ∈ vs, v.oneCell' = true) →
    ∃ w' arr', (storeCells ⟨blk, o, none⟩ vs i).run P w = .ok () w' ∧ w'.heap[blk]? = some (.cells arr' ty fz) ∧ arr'.size = arr.size ∧ (∀ k, k ≠ blk → w'.heap[k]? = w.heap[k]?) ∧ w'.heap.size = w.heap.size ∧ w'.os = w.os ∧ w'.tape = w.tape ∧ (w'.output = w.output ∧ w.drawn ≤ w'.drawn) ∧
      ∀ j, arr'[j]? = if o + i ≤ j ∧ j < o + i + vs.length then vs[j - (o + i)]? else arr[j]?
  | [], o, i, arr, w, h, _, _, _ => ⟨w, arr, rfl, h, rfl, fun _ _ => rfl, rfl, rfl, rfl, ⟨rfl, Nat.le_refl _⟩, fun j => by simp; intro h1 h2; omega⟩
  | v :: vs, o, i, arr, w, h, hfz, hl, h1 => by
    simp only [List.length_cons] at hl
    have hc : w.cell? ⟨blk, o + i, none⟩ = some arr[o + i] := by
      have : o + i < arr.size := by omega
      simp [World.cell?, h, this]
    have hf : w.frozen? ⟨blk, o + i, none⟩ = false := by
      have := hfz (o + i) (by omega)
      simp only [World.frozen?, h, Bool.and_eq_false_iff, decide_eq_false_iff_not]
      omega
    have hst : (store ((⟨blk, o, none⟩ : Addr).add i) v).run P w = .ok () (w.setCell ⟨blk, o + i, none⟩ v) := by
      rw [addr_add, run_store P w _ v _ (h1 v (by simp)), hc]
      simp [hf]
    have h2 := heap_setCell_same (o := o + i) (v := v) h
    obtain ⟨w', arr', e1, e2, e3, e4, e5, e6, e7, e8, e9⟩ := run_storeCells_in vs o (i + 1) (arr.setIfInBounds (o + i) v) (w.setCell ⟨blk, o + i, none⟩ v) h2 (by simpa using hfz) (by simp; omega) (fun x hx => h1 x (by simp [hx]))
    refine ⟨w', arr', by simp only [storeCells, Sem.run_bind, hst, Result.andThen_ok, e1], e2, by simpa using e3, fun k hk => ?_, by rw [e5]; simp, e6, e7, e8, fun j => ?_⟩
    · rw [e4 k hk, Below.heap_setCell _ _ _ _ hk]
    · rw [e9 j]
      by_cases hj : j = o + i
      · subst hj
        have : o + i < arr.size := by omega
        simp [this]
        intro h; omega
      · by_cases hj2 : o + (i + 1) ≤ j ∧ j < o + (i + 1) + vs.length
        · have h3 : o + i ≤ j ∧ j < o + i + (v :: vs).length := by simp; omega
          rw [if_pos hj2, if_pos h3]
          have : j - (o + i) = (j - (o + (i + 1))) + 1 := by omega
          rw [this, List.getElem?_cons_succ]
        · have h3 : ¬ (o + i ≤ j ∧ j < o + i + (v :: vs).length) := by simp; omega
          rw [if_neg hj2, if_neg h3, Array.getElem?_setIfInBounds_ne (by omega)]

theorem setC_get (cs : List AV) : ∀ (vs : List AV) (o j : Nat), o + vs.length ≤ cs.length → (setC cs o vs)[j]? = if o ≤ j ∧ j < o + vs.length then vs[j - o]? else cs[j]? := by
  intro vs
  induction vs generalizing cs with
  | nil => intro o j _; simp [setC]; intro h1 h2; omega
  | cons v vs ih =>
    intro o j hl
    simp only [List.length_cons] at hl
    simp only [setC]
    rw [ih (cs.set o v) (o + 1) j (by simp; omega)]
    by_cases hj : j = o
    · subst hj
      have : j < cs.length := by omega
      simp [this]
      intro h; omega
    · by_cases h2 : o + 1 ≤ j ∧ j < o + 1 + vs.length
      · have h3 : o ≤ j ∧ j < o + (v :: vs).length := by simp; omega
        rw [if_pos h2, if_pos h3]
        have : j - o = (j - (o + 1)) + 1 := by omega
        rw [this, List.getElem?_cons_succ]
      · have h3 : ¬ (o ≤ j ∧ j < o + (v :: vs).length) := by simp; omega
        rw [if_neg h2, if_neg h3, List.getElem?_set_ne (by omega)]

theorem setC_length (cs : List AV) : ∀ (vs : List AV) (o : Nat), (setC cs o vs).length = cs.length := by
  intro vs
  induction vs generalizing cs with
  | nil => intro o; rfl
  | cons v vs ih => intro o; simp only [setC]; rw [ih]; simp

theorem setC_below {n : Nat} (cs vs : List AV) (o : Nat) (h1 : belows n cs = true) (h2 : belows n vs = true) : belows n (setC cs o vs) = true := by
  induction vs generalizing cs o with
  | nil => exact h1
  | cons v vs ih =>
    simp only [belows, Bool.and_eq_true] at h2
    simp only [setC]
    refine ih _ _ ?_ h2.2
    refine belows_of_get fun j hj => ?_
    rw [List.getElem_set]
    split
    · exact h2.1
    · exact below_all_get h1 (by simpa using hj)

theorem lows_length {n : Nat} {l l' : List AV} (h : lows n l = some l') : l'.length = l.length := by
  induction l generalizing l' with
  | nil => simp [lows] at h; subst h; rfl
  | cons a l ih =>
    simp only [lows, Option.bind_eq_some_iff] at h
    obtain ⟨a', h1, l2, h2, h3⟩ := h
    cases h3
    simp [ih h2]

theorem lows_get {n : Nat} {l l' : List AV} (h : lows n l = some l') {j : Nat} (hj : j < l.length) (hj' : j < l'.length) : low1 n l[j] = some l'[j] := by
  induction l generalizing l' j with
  | nil => simp at hj
  | cons a l ih =>
    simp only [lows, Option.bind_eq_some_iff] at h
    obtain ⟨a', h1, l2, h2, h3⟩ := h
    cases h3
    cases j with
    | zero => exact h1
    | succ j => exact ih h2 (by simpa using hj) (by simpa using hj')

theorem low1_ok {n : Nat} {c c' : AV} (h : low1 n c = some c') {v : Value} (hv : V1 G S v c) : V1 G S v c' ∧ below n c' = true := by
  cases c with
  | sl xs t =>
    cases t with
    | own i =>
      simp only [low1, Option.some.injEq] at h
      subst h
      cases hi : Nat.blt i n with
      | true => exact ⟨hv, by simp [below, hi]⟩
      | false => exact ⟨.v0 hv.sl_none, by simp [below]⟩
    | none => simp only [low1, Option.some.injEq] at h; subst h; exact ⟨hv, by simp [below]⟩
    | full => simp only [low1, Option.some.injEq] at h; subst h; exact ⟨hv, by simp [below]⟩
  | ptr i o =>
    simp only [low1] at h
    cases hi : Nat.blt i n <;> simp only [hi, cond_true, cond_false, Option.some.injEq, reduceCtorEq] at h
    subst h; exact ⟨hv, by simp [below, hi]⟩
  | map i =>
    simp only [low1] at h
    cases hi : Nat.blt i n <;> simp only [hi, cond_true, cond_false, Option.some.injEq, reduceCtorEq] at h
    subst h; exact ⟨hv, by simp [below, hi]⟩
  | osl i o l s =>
    simp only [low1] at h
    cases hi : Nat.blt i n <;> simp only [hi, cond_true, cond_false, Option.some.injEq, reduceCtorEq] at h
    subst h; exact ⟨hv, by simp [below, hi]⟩
  | clo => simp [low1] at h
  | agg => simp [low1] at h
  | tup => simp [low1] at h
  | und => simp [low1] at h
  | _ => simp only [low1, Option.some.injEq] at h; subst h; exact ⟨hv, by simp [below]⟩

theorem not_tup_of_lows {n : Nat} {p : AV} {cs : List AV} (h : lows n (cellsOf p) = some cs) : isTup p = false := by
  cases p <;> first | rfl | simp [cellsOf, lows, low1] at h

theorem entBelow_obj {n : Nat} {cs : List AV} : entBelow n (.obj cs) = belows n cs := rfl

theorem lows_below {n : Nat} {l l' : List AV} (h : lows n l = some l') : belows n l' = true := by
  induction l generalizing l' with
  | nil => simp [lows] at h; subst h; rfl
  | cons a l ih =>
    simp only [lows, Option.bind_eq_some_iff] at h
    obtain ⟨a', h1, l2, h2, h3⟩ := h
    cases h3
    simp only [belows, Bool.and_eq_true]
    refine ⟨?_, ih h2⟩
    cases a with
    | sl xs t =>
      cases t with
      | own k => simp only [low1, Option.some.injEq] at h1; subst h1; cases hk : Nat.blt k n <;> simp [below, hk]
      | _ => simp only [low1, Option.some.injEq] at h1; subst h1; simp [below]
    | ptr i o => simp only [low1] at h1; cases hi : Nat.blt i n <;> simp only [hi, cond_true, cond_false, Option.some.injEq, reduceCtorEq] at h1; subst h1; simp [below, hi]
    | map i => simp only [low1] at h1; cases hi : Nat.blt i n <;> simp only [hi, cond_true, cond_false, Option.some.injEq, reduceCtorEq] at h1; subst h1; simp [below, hi]
    | osl i o _ _ => simp only [low1] at h1; cases hi : Nat.blt i n <;> simp only [hi, cond_true, cond_false, Option.some.injEq, reduceCtorEq] at h1; subst h1; simp [below, hi]
    | clo => simp [low1] at h1
    | agg => simp [low1] at h1
    | tup => simp [low1] at h1
    | und => simp [low1] at h1
    | _ => simp only [low1, Option.some.injEq] at h1; subst h1; simp [below]

theorem set_same {i : Nat} {e : Ent} (h : S[i]? = some e) : S.set i e = S := by
  apply List.ext_getElem?
  intro j
  by_cases hj : i = j
  · subst hj; rw [List.getElem?_set_self (List.getElem?_eq_some_iff.1 h).1, h]
  · rw [List.getElem?_set_ne hj]

theorem mem_toList_getD {vs : Array Value} {l : List AV} (hs : vs.size = l.length) {P : Value → Prop} (h : ∀ j (h : j < l.length), P (vs.getD j undef)) : ∀ v ∈ vs.toList, P v := by
  intro v hv
  obtain ⟨j, hj, rfl⟩ := List.getElem_of_mem hv
  have hj' : j < vs.size := by simpa using hj
  have := h j (by omega)
  simpa [Array.getD_eq_getD_getElem?, hj'] using this

/-- The cells of an entry written: what follows for the relation. -/
theorem turn_obj (hs : Sat X G b S w) (hb : b ≤ S.length) {i o : Nat} {cs vs : List AV} {w' : World} {arr arr' : Array Value} {ty : Nat} {fz : Nat × Nat} {cv : List Value}
    (he : S[i]? = some (.obj cs)) (hne : cs ≠ []) (hle : o + vs.length ≤ cs.length) (hcv : cv.length = vs.length) (hv : ∀ j (h : j < vs.length), V1 G S (cv.getD j undef) (vs[j])) (hbel : belows (if i < b then i else S.length) vs = true)
    (ha : w.heap[G.β i]? = some (.cells arr ty fz))
    (e2 : w'.heap[G.β i]? = some (.cells arr' ty fz)) (e3 : arr'.size = arr.size) (e4 : ∀ k, k ≠ G.β i → w'.heap[k]? = w.heap[k]?) (e5 : w'.heap.size = w.heap.size) (e6 : w'.os = w.os) (e7 : w'.tape = w.tape) (e8 : w'.output = w.output ∧ w.drawn ≤ w'.drawn)
    (e9 : ∀ j, arr'[j]? = if o ≤ j ∧ j < o + cv.length then cv[j - o]? else arr[j]?) : OpOK X G b S w .u (S.set i (.obj (setC cs o vs))) undef w' := by
  have hi : i < S.length := (List.getElem?_eq_some_iff.1 he).1
  obtain ⟨arr0, t0, fz0, h1, h2, h3, h4, h5, h6⟩ := hs.ent i _ he hne
  rw [ha] at h1
  cases h1
  have hact : ∀ c, Acts G S i c ↔ c = G.β i := fun c => by unfold Acts; rw [he]; simp [hne]
  have hne' : setC cs o vs ≠ [] := fun h => by have := setC_length cs vs o; rw [h] at this; exact hne (List.eq_nil_of_length_eq_zero (by simpa using this.symm))
  have hact' : ∀ c, Acts G (S.set i (.obj (setC cs o vs))) i c ↔ c = G.β i := fun c => by unfold Acts; rw [List.getElem?_set_self hi]; simp [hne']
  have hE : Ext S.length b G S G (S.set i (.obj (setC cs o vs))) := by
    refine ⟨MLe.refl _, fun _ _ => rfl, fun j hj k sz hk => ?_, by simp, fun _ _ => rfl, fun j hj e' hx => ?_⟩
    · by_cases hji : i = j
      · subst hji; rw [List.getElem?_set_self hi] at hk; cases hk
      · rw [List.getElem?_set_ne hji] at hk; exact ⟨k, hk, Nat.le_refl _, fun _ => rfl⟩
    · by_cases hji : i = j
      · subst hji
        rw [List.getElem?_set_self hi] at hx
        cases hx
        refine ⟨_, he, fun m hm hbm => ?_⟩
        rw [entBelow_obj] at *
        rw [if_pos hj] at hbel
        exact setC_below cs vs o hbm (belows_mono hm hbel)
      · rw [List.getElem?_set_ne hji] at hx; exact ⟨e', hx, fun _ _ h => h⟩
  have hlow := hs.lowS hb he
  rw [entBelow_obj] at hlow
  have hbelS : belows S.length vs = true := by
    split at hbel
    · exact belows_mono (by omega) hbel
    · exact hbel
  have hmono : ∀ {v : Value} {p : AV}, V1 G S v p → below S.length p = true → V1 G (S.set i (.obj (setC cs o vs))) v p := fun hv hp => hv.mono hE hp
  obtain ⟨g1, g2⟩ := hs.turn hb (G' := G) (w' := w') he hE (by omega) e6 e7 e8
    (fun k _ hk => e4 k fun h => hk ((hact k).2 h))
    (fun c o' v hm => by
      have hc := hs.im c o' v hm
      have hcne : c ≠ G.β i := fun h => by subst h; rw [h5 o'] at hm; cases hm
      simp only [World.cell?] at *
      rw [e4 c hcne]; exact hc)
    (fun _ _ _ _ hm => hm) (fun _ _ => rfl) (fun _ _ => rfl) (fun _ _ => rfl)
    (fun _ => by
      refine ⟨arr', ty, fz, e2, by rw [setC_length]; omega, by rw [e3]; exact h3, fun j hj => ?_, h5, by rw [e3]; exact h6⟩
      have hj' : j < cs.length := by rw [setC_length] at hj; exact hj
      have hget := setC_get cs vs o j (by omega)
      rw [List.getElem?_eq_getElem hj] at hget
      have harr : arr'.getD j undef = (if o ≤ j ∧ j < o + cv.length then cv[j - o]? else arr[j]?).getD undef := by rw [← e9 j, Array.getD_eq_getD_getElem?]
      rw [harr]
      by_cases hin : o ≤ j ∧ j < o + vs.length
      · rw [if_pos hin] at hget
        rw [if_pos (by omega)]
        have hk : j - o < vs.length := by omega
        rw [List.getElem?_eq_getElem hk] at hget
        have := hv (j - o) hk
        rw [List.getD_eq_getElem?_getD] at this
        rw [Option.some.inj hget]
        exact hmono this (below_all_get hbelS hk)
      · rw [if_neg hin] at hget
        rw [if_neg (by omega)]
        rw [List.getElem?_eq_getElem hj'] at hget
        have := h4 j hj'
        rw [Array.getD_eq_getD_getElem?] at this
        rw [Option.some.inj hget]
        exact hmono this (below_all_get hlow hj'))
    (fun c hc => .inl ((hact c).2 ((hact' c).1 hc)))
    (by
      have := hs.bel i _ he
      rw [entBelow_obj] at *
      refine setC_below cs vs o this ?_
      split
      · rename_i hib; rw [if_pos hib] at hbel; exact belows_mono (by omega) hbel
      · exact hbelS)
  exact ⟨G, hE, g2, g1, .u _, by simp [below]⟩

/-- A store into an entry. -/
theorem op_store {t n : Nat} {u v : Value} {p q : AV} {S' : Store} (hs : Sat X G b S w) (hb : b ≤ S.length) (ht : sizeC T t = some n) (hu : V2 G S u p) (hv : V2 G S v q) (hq : below S.length q = true)
    (h : storeV b n p q S = some S') : ∃ w', (Instr.storeAt t u v).run T.P w = .ok () w' ∧ OpOK X G b S w .u S' undef w' := by
  cases p <;> simp only [storeV, reduceCtorEq] at h
  rename_i i o
  split at h
  · rename_i cs he
    obtain ⟨vs, h1, h2⟩ := Option.bind_eq_some_iff.1 h
    split at h2
    · rename_i hle
      cases h2
      cases hu.ptr_inv
      have hi : i < S.length := (List.getElem?_eq_some_iff.1 he).1
      -- the cells to be stored
      have hvs : vs.length = (cellsOf q).length ∧ isTup q = false ∧ (∀ j (h : j < vs.length) (h' : j < (cellsOf q).length), ∀ z, V1 G S z ((cellsOf q)[j]) → V1 G S z vs[j]) ∧ belows (if i < b then i else S.length) vs = true := by
        cases hib : Nat.blt i b with
        | true =>
          rw [hib] at h1
          simp only [cond_true] at h1
          have hlt : i < b := blt_iff.1 hib
          refine ⟨lows_length h1, not_tup_of_lows h1, fun j hj hj' z hz => (low1_ok (lows_get h1 hj' hj) hz).1, ?_⟩
          rw [if_pos hlt]; exact lows_below h1
        | false =>
          rw [hib] at h1
          simp only [cond_false] at h1
          have hlt : ¬ i < b := fun h => by rw [blt_iff.2 h] at hib; cases hib
          obtain rfl := cells1_eq h1
          refine ⟨rfl, not_tup_of_cells1 h1, fun j _ _ z hz => hz, ?_⟩
          rw [if_neg hlt]; exact cellsOf_below hq
      obtain ⟨g1, g2, g3, g4⟩ := hvs
      obtain ⟨c1, c2⟩ := cells_ok hv g2
      have hrun0 : (Instr.storeAt t (.pointer (some ⟨G.β i, o, none⟩)) v).run T.P w = (storeCells ⟨G.β i, o, none⟩ v.cells.toList).run T.P w := by
        have hsz : v.cells.size = n := by omega
        simp [Instr.storeAt, Instr.sureAddr, storeVar, Sem.run_bind, run_sizeOf_C ht, hsz]
      rw [hrun0]
      by_cases hne : cs = []
      · subst hne
        have h0 : (cellsOf q).length = 0 := by have := hle.2; simp only [List.length_nil] at this; omega
        have hv0 : v.cells.toList = [] := by apply List.eq_nil_of_length_eq_zero; rw [Array.length_toList]; omega
        have hvs0 : vs = [] := List.eq_nil_of_length_eq_zero (by omega)
        subst hvs0
        refine ⟨w, by rw [hv0]; rfl, ?_⟩
        simp only [setC]
        rw [set_same he]
        exact OpOK.same hs (.u _) (by simp [below])
      · obtain ⟨arr, ty, fz, a1, a2, a3, a4, a5⟩ := hs.ent i _ he hne
        obtain ⟨w', arr', e1, e2, e3, e4, e5, e6, e7, e8, e9⟩ := run_storeCells_in (P := T.P) v.cells.toList o 0 arr w a1 a3 (by simp; omega)
          (mem_toList_getD (l := cellsOf q) c1 fun j hj => oneCell_of_V1 (c2 j hj))
        refine ⟨w', e1, turn_obj hs hb (cv := v.cells.toList) he hne (by omega) (by simp; omega) (fun j hj => ?_) g4 a1 e2 e3 e4 e5 e6 e7 e8 (by simpa using e9)⟩
        have := g3 j hj (by omega) _ (c2 j (by omega))
        simpa [List.getD_eq_getElem?_getD, Array.getD_eq_getD_getElem?] using this
    · cases h2
  · cases h

end
end Go.Abs

/-
  Appending: rows read, the right to append taken, rows laid behind a row.
-/
namespace Go.Abs
open Go Go.RowKit

theorem Keep.trans {G G1 G2 : Gst} {S S1 S2 : Store} {w w1 w2 : World} (h : Keep G S w G1 S1 w1) (k : Keep G1 S1 w1 G2 S2 w2) : Keep G S w G2 S2 w2 := by
  refine ⟨Nat.le_trans h.size k.size, fun c hc hno => ?_, fun i c ha => ?_, fun c o hc hno => ?_⟩
  · rw [k.blk c (Nat.lt_of_lt_of_le hc h.size) fun i ha => ?_, h.blk c hc hno]
    rcases h.act i c ha with ⟨j, hj⟩ | hge
    · exact hno j hj
    · omega
  · rcases k.act i c ha with ⟨j, hj⟩ | hge
    · exact h.act j c hj
    · exact .inr (Nat.le_trans h.size hge)
  · rw [k.mem c o (Nat.lt_of_lt_of_le hc h.size) fun i ha => ?_, h.mem c o hc hno]
    rcases h.act i c ha with ⟨j, hj⟩ | hge
    · exact hno j hj
    · omega

section
variable {T : Tabs} {X : Ctx} {G : Gst} {b N : Nat} {e : Env} {S : Store} {a : Act} {w : World} {P : Program}

theorem OpOK.after {G1 : Gst} {S1 S2 : Store} {w1 w2 : World} {x : AV} {v : Value} (hE : Ext S.length b G S G1 S1) (hK : Keep G S w G1 S1 w1) (h : OpOK X G1 b S1 w1 x S2 v w2) : OpOK X G b S w x S2 v w2 := by
  obtain ⟨G2, e1, e2, e3, e4, e5⟩ := h
  exact ⟨G2, hE.trans e1 hE.len, hK.trans e2, e3, e4, e5⟩

theorem OpOK.from {w1 w2 : World} {S2 : Store} {x : AV} {v : Value} (hb : Below w.heap.size w w1) (h : OpOK X G b S w1 x S2 v w2) : OpOK X G b S w x S2 v w2 := by
  obtain ⟨G2, e1, e2, e3, e4, e5⟩ := h
  refine ⟨G2, e1, ?_, e3, e4, e5⟩
  refine ⟨Nat.le_trans hb.size e2.size, fun k hk hno => ?_, fun i k ha => ?_, fun k o hk hno => e2.mem k o (Nat.lt_of_lt_of_le hk hb.size) hno⟩
  · rw [e2.blk k (Nat.lt_of_lt_of_le hk hb.size) hno, hb.block k hk]
  · exact (e2.act i k ha).imp id fun h => Nat.le_trans hb.size h

theorem Sat.drew (h : Sat X G b S w) (hb : b ≤ S.length) : Sat X G b S w.drew := h.world hb (Below.drew (Below.refl _ _))

/-! the right to append -/

theorem szOK_width {sz : Nat} {xs : List (List AV)} {v : Value} {t : Tok} (h : szOK sz xs = true) (hv : V0 G.M v (.sl xs t)) : ∀ x ∈ xs, x.length = sz := by
  rcases hv.sl_inv with ⟨_, rfl⟩ | ⟨_, _, _, sz', _, _, hw, _⟩
  · simp
  · exact szOK_all h hw

theorem V0.full_header {M : Mem} {v : Value} {xs : List (List AV)} (h : V0 M v (.sl xs .full)) : ((∃ a, v = .slice a 0 0) ∧ xs = []) ∨ ∃ c o, v = .slice (some ⟨c, o, none⟩) xs.length xs.length := by
  rcases h.sl_inv with h | ⟨c, o, cap, sz, h1, _, _, h4, _⟩
  · exact .inl h
  · have : cap = xs.length := h4 trivial
    subst this
    exact .inr ⟨c, o, h1⟩

theorem V1.full {v : Value} {xs : List (List AV)} (h : V1 G S v (.sl xs .full)) : V0 G.M v (.sl xs .full) := by
  cases h with
  | v0 h => exact h

theorem V2.full {v : Value} {xs : List (List AV)} (h : V2 G S v (.sl xs .full)) : V0 G.M v (.sl xs .full) := by
  cases h with | one h => exact h.full

/-- The right taken. -/
theorem op_own {sz : Nat} {v : Value} {xs : List (List AV)} (hs : Sat X G b S w) (hb : b ≤ S.length) (hv : V0 G.M v (.sl xs .full)) (hsz : szOK sz xs = true) :
    ∃ G', Ext S.length b G S G' (S ++ [.tail xs.length sz]) ∧ Keep G S w G' (S ++ [.tail xs.length sz]) w ∧ Sat X G' b (S ++ [.tail xs.length sz]) w ∧ V1 G' (S ++ [.tail xs.length sz]) v (.sl xs (.own S.length)) ∧ G'.γ S.length = v ∧ G'.M = G.M := by
  have hγ : (G.push S.length 0 v).γ S.length = v := by simp [Gst.push]
  obtain ⟨h1, h2, h3⟩ := hs.push hb (.tail xs.length sz) 0 v (Below.refl _ _) (by
      rcases hv.full_header with ⟨⟨a, rfl⟩, rfl⟩ | ⟨c, o, rfl⟩
      · exact .inl ⟨⟨a, hγ⟩, rfl⟩
      · exact .inr ⟨c, o, xs.length, hγ, Nat.le_refl _, fun h => by omega⟩)
    (fun c hc => by
      unfold Acts at hc
      simp only [List.getElem?_concat_length] at hc
      obtain ⟨off, cap, h1, h2⟩ := hc
      rw [hγ] at h1
      rcases hv.full_header with ⟨⟨_, rfl⟩, rfl⟩ | ⟨c', o, rfl⟩
      · simp only [Value.slice.injEq] at h1; omega
      · simp only [Value.slice.injEq] at h1; omega)
    rfl
  refine ⟨_, h2, h3, h1, .own hv.tok fun n s hn => ?_, hγ, rfl⟩
  simp only [List.getElem?_concat_length, Option.some.injEq, Ent.tail.injEq] at hn
  obtain ⟨rfl, rfl⟩ := hn
  exact ⟨Nat.le_refl _, fun _ => hγ.symm, szOK_width hsz hv⟩

/-! reading rows -/

theorem chunks_immRows {sz : Nat} {xs ys : List (List AV)} (h : immRows sz xs = some ys) : ys.length = xs.length ∧ (∀ x ∈ xs, x.length = sz) ∧ (∀ y ∈ ys, y.length = sz) ∧ imms xs.flatten = some ys.flatten := by
  induction xs generalizing ys with
  | nil => simp only [immRows, Option.some.injEq] at h; subst h; simp [imms]
  | cons x xs ih =>
    simp only [immRows] at h
    split at h
    · rename_i hx
      obtain ⟨x', h1, h⟩ := Option.bind_eq_some_iff.1 h
      obtain ⟨ys', h2, h⟩ := Option.bind_eq_some_iff.1 h
      cases h
      obtain ⟨a1, a2, a3, a4⟩ := ih h2
      refine ⟨by simp [a1], ?_, ?_, ?_⟩
      · intro y hy; rcases List.mem_cons.1 hy with rfl | hy
        · exact hx
        · exact a2 y hy
      · intro y hy; rcases List.mem_cons.1 hy with rfl | hy
        · rw [imms_length h1, hx]
        · exact a3 y hy
      · have app : ∀ (p q p' q' : List AV), imms p = some p' → imms q = some q' → imms (p ++ q) = some (p' ++ q') := by
          intro p
          induction p with
          | nil => intro q p' q' h1 h2; simp only [imms, Option.some.injEq] at h1; subst h1; exact h2
          | cons c p ihp =>
            intro q p' q' h1 h2
            simp only [imms, Option.bind_eq_some_iff] at h1
            obtain ⟨c', k1, p2, k2, k3⟩ := h1
            cases k3
            simp [imms, k1, ihp q p2 q' k2 h2]
        simp only [List.flatten_cons]
        exact app _ _ _ _ h1 a4
    · cases h

theorem flat_len {sz : Nat} {xs : List (List AV)} (h : ∀ x ∈ xs, x.length = sz) : xs.flatten.length = xs.length * sz := by
  induction xs with
  | nil => simp
  | cons x xs ih =>
    simp only [List.flatten_cons, List.length_append, List.length_cons]
    rw [ih fun y hy => h y (List.mem_cons_of_mem _ hy), h x (by simp), Nat.add_mul]
    omega

/-- What a slice or a string gives to be appended. -/
structure Reads (P : Program) (sz : Nat) (v : Value) (w : World) (m : Nat) (news : List Value) : Prop where
  len : ∀ w', (Builtin.lenOf v).run P w' = .ok m w'
  size : news.length = m * sz
  get : ∀ w' : World, w'.heap = w.heap → (Builtin.firstCells sz m v).run P w' = .ok news.toArray w'

theorem cell_heap {w w' : World} (h : w'.heap = w.heap) (p : Addr) : w'.cell? p = w.cell? p := by simp [World.cell?, h]

theorem reads_ok {sz : Nat} {v : Value} {y : AV} {xs ys : List (List AV)} (hs : Sat X G b S w) (hv : V2 G S v y) (h1 : rowsOf y S = some xs) (h2 : immRows sz xs = some ys) (h0 : 1 ≤ sz) :
    ∃ news, Reads P sz v w ys.length news ∧ news.length = ys.flatten.length ∧ ∀ j (h : j < ys.flatten.length), V0 G.M (news.getD j undef) (ys.flatten[j]) := by
  obtain ⟨i1, i2, i3, i4⟩ := chunks_immRows h2
  have hfl := flat_len i3
  have hfx := flat_len i2
  -- from cells known one by one
  have main : ∀ (f : Nat → Value) (p : Addr) (cap : Nat), (v = .slice (some p) xs.length cap) → p.spot = none → (∀ j, j < xs.flatten.length → w.cell? ⟨p.block, p.off + j, none⟩ = some (f j)) → (∀ j (h : j < xs.flatten.length), V1 G S (f j) (xs.flatten[j])) →
      ∃ news, Reads P sz v w ys.length news ∧ news.length = ys.flatten.length ∧ ∀ j (h : j < ys.flatten.length), V0 G.M (news.getD j undef) (ys.flatten[j]) := by
    intro f p cap hve hsp hc hf
    obtain ⟨pb, po, ps⟩ := p
    simp only at hsp hc
    subst hsp hve
    have hl : ((List.range (ys.length * sz)).map f).length = ys.length * sz := by simp
    refine ⟨(List.range (ys.length * sz)).map f, ⟨fun w' => by rw [i1]; rfl, hl, fun w' hw' => ?_⟩, by rw [hl, hfl], fun j hj => ?_⟩
    · simp only [Builtin.firstCells]
      refine run_loadCells w' _ _ f fun j hj => ?_
      rw [addr_add, cell_heap hw']
      exact hc j (by rw [hfx, ← i1]; exact hj)
    · have hj' : j < xs.flatten.length := by rw [hfx, ← i1, ← hfl]; exact hj
      have := imm1_ok (imms_get i4 hj' hj) (hf j hj')
      rw [hfl] at hj
      simpa [List.getD_eq_getElem?_getD, hj] using this
  have nil : (∃ a, v = .slice a 0 0) → xs = [] → ∃ news, Reads P sz v w ys.length news ∧ news.length = ys.flatten.length ∧ ∀ j (h : j < ys.flatten.length), V0 G.M (news.getD j undef) (ys.flatten[j]) := by
    intro hve hx
    subst hx
    have hy : ys = [] := List.eq_nil_of_length_eq_zero (by simpa using i1)
    obtain ⟨a0, rfl⟩ := hve
    subst hy
    exact ⟨[], ⟨fun _ => rfl, by simp, fun _ _ => by cases a0 <;> simp [Builtin.firstCells, loadCells, loadCellsFrom]⟩, rfl, fun j hj => by simp at hj⟩
  cases y <;> simp only [rowsOf, reduceCtorEq] at h1
  case sl xs' t =>
    cases h1
    rcases hv.sl_inv with ⟨⟨_, rfl⟩, rfl⟩ | ⟨blk, o, cap, sz', h3, h4, h5, h6⟩
    · exact nil ⟨_, rfl⟩ rfl
    · refine main (fun j => Row.f G.M blk o j) ⟨blk, o, none⟩ cap h3 rfl (fun j hj => ?_) (fun j hj => ?_)
      · obtain ⟨z, k1, k2⟩ := h6 j hj
        rw [hs.im _ _ _ k1]; simp [Row.f, k1]
      · obtain ⟨z, k1, k2⟩ := h6 j hj
        simpa [Row.f, k1] using V1.v0 k2
  case osl i o l s =>
    obtain ⟨ad, cap, rfl, h4, h5, _⟩ := hv.osl_inv
    split at h1
    · rename_i cs he
      split at h1
      · rename_i hle
        cases h1
        have hcl := chunks_length s l (cs.drop o)
        have hdl : l * s ≤ (cs.drop o).length := by simp; omega
        rcases Nat.eq_zero_or_pos l with hl0 | hl0
        · subst hl0
          have hy : ys = [] := List.eq_nil_of_length_eq_zero (by rw [i1, hcl])
          subst hy
          refine ⟨[], ⟨fun _ => rfl, by simp, fun w' _ => ?_⟩, rfl, fun j hj => by simp at hj⟩
          cases ad <;> simp [Builtin.firstCells, loadCells, loadCellsFrom]
        · have := h5 hl0
          subst this
          obtain ⟨f, f1, f2⟩ := hs.cells he
          have hflat := chunks_flat s l (cs.drop o) hdl
          refine main (fun j => f (o + j)) ⟨G.β i, o, none⟩ cap (by rw [hcl]) rfl (fun j hj => ?_) (fun j hj => ?_)
          · rw [hflat] at hj
            simp at hj
            exact f1 (o + j) (by omega)
          · have hj2 := hj
            rw [hflat] at hj2
            simp at hj2
            have := f2 (o + j) (by omega)
            have he' : (chunks s (cs.drop o) l).flatten[j] = cs[o + j] := by
              simp [hflat]
            rw [he']; exact this
      · cases h1
    · cases h1
  case str s =>
    cases h1
    obtain ⟨ba, rfl, hba⟩ := hv.str_inv
    have hy : ys = s.map fun c => [AV.int .u8 c.toNat] := by
      clear hfl hfx main nil i1 i2 i3 i4 hv hba h0
      induction s generalizing ys with
      | nil => simp [immRows] at h2; simp [h2]
      | cons c s ih =>
        simp only [List.map_cons, immRows] at h2
        split at h2
        · simp only [imms, imm1, Option.bind_some, Option.bind_eq_some_iff] at h2
          obtain ⟨ys', k1, k2⟩ := h2
          cases k2
          simp [ih k1]
        · cases h2
    have hlen : ys.length = ba.size := by rw [hy, List.length_map, size_of hba]
    have hsz1 : s ≠ [] → sz = 1 := by
      intro hne
      obtain ⟨c, hc⟩ := List.exists_mem_of_ne_nil _ hne
      have := i2 [AV.int .u8 c.toNat] (List.mem_map.2 ⟨c, hc, rfl⟩)
      simpa using this.symm
    have hflat : ys.flatten = s.map fun c => AV.int .u8 c.toNat := by
      rw [hy]; clear hy hlen hsz1 hfl hfx main nil i1 i2 i3 i4 hv hba h2
      induction s with
      | nil => rfl
      | cons c s ih => simp [ih]
    refine ⟨s.map fun c => Value.int .u8 c.toNat, ⟨fun w' => by rw [hlen]; rfl, ?_, fun w' _ => ?_⟩, by simp [hflat], fun j hj => ?_⟩
    · rw [List.length_map, hy, List.length_map]
      by_cases hne : s = []
      · subst hne; simp
      · rw [hsz1 hne]; omega
    · simp only [Builtin.firstCells, Sem.run_pure]
      congr 1
      have : (ba.extract 0 ys.length).data.toList = s := by
        rw [extract_list, hba, hy]; simp
      apply Array.ext'
      rw [Array.toList_map, this]
    · simp only [hflat, List.length_map] at hj
      simp only [hflat, List.getElem_map]
      simp only [List.getD_eq_getElem?_getD, List.getElem?_map, List.getElem?_eq_getElem hj, Option.map_some, Option.getD_some]
      exact .int _ _

end
end Go.Abs

/-
  Appending.
-/
namespace Go.Abs
open Go Go.RowKit

section
variable {T : Tabs} {X : Ctx} {G : Gst} {b N : Nat} {e : Env} {S : Store} {a : Act} {w : World} {P : Program}

def NotInt (d : TypeDesc) : Prop := (∃ k, d = .slice k) ∨ d = .string

theorem run_append_in {t u ty el m sz : Nat} {d : TypeDesc} {ad : Addr} {sLen sCap : Nat} {y : Value} {news : List Value} {w' : World} (ht : P.underlying t = some (.slice el)) (hu : P.underlying u = some d) (hd : NotInt d)
    (hi : (sizeOf el).run P w = .ok sz w) (hy : Reads P sz y w m news) (hroom : sLen + m ≤ sCap) (hst : (storeCells (ad.add (sLen * sz)) news).run P w = .ok () w') :
    (Builtin.append_ #[t, u] ty #[.slice (some ad) sLen sCap, y]).run P w = .ok (.slice (some ad) (sLen + m) sCap) w' := by
  have hl := hy.len w
  have hg := hy.get w rfl
  rcases hd with ⟨k, rfl⟩ | rfl <;> simp [Builtin.append_, run_underlying ht, run_underlying hu, hi, hl, hroom, hg, hst]

theorem run_append_same {t u ty el sz : Nat} {d : TypeDesc} {base : Option Addr} {sLen sCap : Nat} {y : Value} {news : List Value} (ht : P.underlying t = some (.slice el)) (hu : P.underlying u = some d) (hd : NotInt d)
    (hi : (sizeOf el).run P w = .ok sz w) (hy : Reads P sz y w 0 news) (hroom : sLen ≤ sCap) :
    (Builtin.append_ #[t, u] ty #[.slice base sLen sCap, y]).run P w = .ok (.slice base sLen sCap) w := by
  have hl := hy.len w
  have hg := hy.get w rfl
  have hn : news = [] := List.eq_nil_of_length_eq_zero (by simpa using hy.size)
  subst hn
  cases base <;> rcases hd with ⟨k, rfl⟩ | rfl <;> simp [Builtin.append_, run_underlying ht, run_underlying hu, hi, hl, hroom, hg, storeCells]

theorem run_append_new {t u ty el m : Nat} {d : TypeDesc} {base : Option Addr} {sLen sCap : Nat} {y : Value} {olds : Array Value} {news : List Value} {i : TypeInfo} {z : Value} (ht : P.underlying t = some (.slice el)) (hu : P.underlying u = some d) (hd : NotInt d)
    (hi : P.info? el = some i) (hz : i.zero = some z) (hy : Reads P i.size y w m news) (ho : (Builtin.firstCells i.size sLen (.slice base sLen sCap)).run P w.drew = .ok olds w.drew) (hroom : sCap < sLen + m)
    (h63 : ((sLen + m : Nat) : Int) ≤ 9223372036854775807) (hfit : Builtin.nextslicecap (sLen + m) sCap * i.bytes ≤ 281474976710656) :
    (Builtin.append_ #[t, u] ty #[.slice base sLen sCap, y]).run P w = .ok (.slice (some ⟨w.heap.size, 0, none⟩) (sLen + m) (grownCap w (sLen + m) sCap el))
        (w.drew.alloc (.cells (olds ++ news.toArray ++ Builtin.zeroCells z.cells (grownCap w (sLen + m) sCap el - (sLen + m))) el)) := by
  have hl := hy.len w
  have hg := hy.get w.drew rfl
  have hn : ¬ (sLen + m ≤ sCap) := by omega
  have h63' : ¬ (9223372036854775807 < ((sLen : Int) + (m : Int))) := by omega
  have h48' : ¬ (281474976710656 < Builtin.nextslicecap (sLen + m) sCap * i.bytes) := by omega
  rcases hd with ⟨k, rfl⟩ | rfl <;> simp [Builtin.append_, run_underlying ht, run_underlying hu, sizeOf, typeInfo, zeroValue, hi, hz, hl, hn, h63', h48', Question.forced, ho, hg, newRow, grownCap]

theorem fits {need old bytes : Nat} (h : old < need) (hn : need ≤ room) (hb : bytes ≤ 1024) : Builtin.nextslicecap need old * bytes ≤ 281474976710656 := by
  refine growslice_fits h ?_
  have : need * bytes ≤ 4294967296 * 1024 := Nat.mul_le_mul hn hb
  omega

/-- Rows appended by the holder of the right. -/
theorem append_own_core {t u ty el sz i n m : Nat} {d : TypeDesc} {v y : Value} {xs ys : List (List AV)} {news : List Value} (hs : Sat X G b S w) (hb : b ≤ S.length)
    (ht : T.P.underlying t = some (.slice el)) (hu : T.P.underlying u = some d) (hd : NotInt d) (he : elemC T el = some sz)
    (hS : S[i]? = some (.tail n sz)) (hv : V0 G.M v (.sl xs .none)) (hγ : v = G.γ i) (hn : xs.length = n) (hw : ∀ x ∈ xs, x.length = sz)
    (hy : Reads T.P sz y w m news) (hm : ys.length = m) (hwy : ∀ x ∈ ys, x.length = sz) (hnews : ∀ j (h : j < ys.flatten.length), V0 G.M (news.getD j undef) (ys.flatten[j])) (h1 : 1 ≤ m) (hroom : n + m ≤ room) :
    ∃ v' w', (Builtin.append_ #[t, u] ty #[v, y]).run T.P w = .ok v' w' ∧ OpOK X G b S w (.sl (xs ++ ys) (.own i)) (S.set i (.tail (n + m) sz)) v' w' := by
  obtain ⟨ti, z, hi, hz, hsz, hzs, hsz1, hbytes⟩ := elemC_zero he
  have hil : i < S.length := (List.getElem?_eq_some_iff.1 hS).1
  have hxl := flat_len hw
  have hyl := flat_len hwy
  have hnl := hy.size
  have hfl : (xs ++ ys).flatten.length = (n + m) * sz := by rw [List.flatten_append, List.length_append, hxl, hyl, hn, hm, Nat.add_mul]
  have hwxy : ∀ x ∈ xs ++ ys, x.length = sz := by
    intro x hx; rcases List.mem_append.1 hx with h | h
    · exact hw x h
    · exact hwy x h
  have hv1 : ∀ u ∈ news, u.oneCell' = true := by
    intro u' hu'
    obtain ⟨j, hj, rfl⟩ := List.getElem_of_mem hu'
    have := hnews j (by rw [hyl, hm, ← hnl]; exact hj)
    have := oneCell_of_V1 (G := G) (S := S) (.v0 this)
    simpa [List.getD_eq_getElem?_getD, hj] using this
  -- common to all ways: the entry turned
  have fin : ∀ (v' : Value) (w' : World) (G' : Gst) (blk off cap : Nat), v' = .slice (some ⟨blk, off, none⟩) (n + m) cap → n + m ≤ cap → MLe G.M G'.M → G'.β = G.β → G'.γ = (fun j => if j = i then v' else G.γ j) → G'.ζ = G.ζ → Row G'.M blk off (xs ++ ys).flatten →
      w.heap.size ≤ w'.heap.size → w'.os = w.os → w'.tape = w.tape → (w'.output = w.output ∧ w.drawn ≤ w'.drawn) →
      (∀ k, k < w.heap.size → ¬ Acts G S i k → w'.heap[k]? = w.heap[k]?) →
      (∀ c o x, G'.M c o = some x → w'.cell? ⟨c, o, none⟩ = some x) →
      (∀ c o, c < w.heap.size → ¬ Acts G S i c → G.M c o = none → G'.M c o = none) →
      (n + m < cap → ∃ arr t fz, w'.heap[blk]? = some (.cells arr t fz) ∧ off + cap * sz ≤ arr.size ∧ (∀ o, o < arr.size → ¬ (fz.1 ≤ o ∧ o < fz.2)) ∧ ∀ o, off + (n + m) * sz ≤ o → G'.M blk o = none) →
      (n + m < cap → Acts G S i blk ∨ w.heap.size ≤ blk) →
      OpOK X G b S w (.sl (xs ++ ys) (.own i)) (S.set i (.tail (n + m) sz)) v' w' := by
    intro v' w' G' blk off cap hv' hcap hM hβ hγ' hζ' hrow f1 f2 f3 f4 f5 f6 f7 f8 f9
    have hE : Ext S.length b G S G' (S.set i (.tail (n + m) sz)) := by
      refine ⟨hM, fun _ _ => by rw [hβ], fun j hj k s hk => ?_, by simp, fun _ _ => by rw [hζ'], fun j hj e' hx => ?_⟩
      · by_cases hji : i = j
        · subst hji
          rw [List.getElem?_set_self hil] at hk
          simp only [Option.some.injEq, Ent.tail.injEq] at hk
          obtain ⟨rfl, rfl⟩ := hk
          exact ⟨n, hS, by omega, fun h => by omega⟩
        · rw [List.getElem?_set_ne hji] at hk
          exact ⟨k, hk, Nat.le_refl _, fun _ => by rw [hγ']; simp [Ne.symm hji]⟩
      · by_cases hji : i = j
        · subst hji
          rw [List.getElem?_set_self hil] at hx
          cases hx
          exact ⟨_, hS, fun _ _ _ => rfl⟩
        · rw [List.getElem?_set_ne hji] at hx; exact ⟨e', hx, fun _ _ h => h⟩
    have hγi : G'.γ i = .slice (some ⟨blk, off, none⟩) (n + m) cap := by rw [hγ', ← hv']; simp
    obtain ⟨g1, g2⟩ := hs.turn hb hS hE f1 f2 f3 f4 f5 f6 f7 (fun j _ => by rw [hβ]) (fun j hj => by rw [hγ']; simp [hj]) (fun j _ => by rw [hζ'])
      (.inr ⟨blk, off, cap, hγi, hcap, f8⟩)
      (fun c hc => by
        unfold Acts at hc
        rw [List.getElem?_set_self hil] at hc
        obtain ⟨off', cap', k1, k2⟩ := hc
        rw [hγi] at k1
        simp only [Value.slice.injEq, Option.some.injEq, Addr.mk.injEq] at k1
        obtain ⟨⟨rfl, rfl, _⟩, _, rfl⟩ := k1
        exact f9 k2)
      rfl
    refine ⟨G', hE, g2, g1, .one (.own ?_ fun n' s' hn' => ?_), by simp [below, blt_iff, hil]⟩
    · subst hv'
      exact V0.of_row (sz := sz) trivial (by simp [hn, hm]) hcap hwxy (fun h => h.elim) hrow
    · rw [List.getElem?_set_self hil] at hn'
      simp only [Option.some.injEq, Ent.tail.injEq] at hn'
      obtain ⟨rfl, rfl⟩ := hn'
      exact ⟨by simp [hn, hm], fun _ => by rw [hγi, hv'], hwxy⟩
  -- a new row
  have grow : ∀ (base : Option Addr) (sCap : Nat) (olds : List Value), v = .slice base n sCap → sCap < n + m → olds.length = n * sz → (Builtin.firstCells sz n (.slice base n sCap)).run T.P w.drew = .ok olds.toArray w.drew →
      (∀ j (h : j < xs.flatten.length), V0 G.M (olds.getD j undef) (xs.flatten[j])) → ∃ v' w', (Builtin.append_ #[t, u] ty #[v, y]).run T.P w = .ok v' w' ∧ OpOK X G b S w (.sl (xs ++ ys) (.own i)) (S.set i (.tail (n + m) sz)) v' w' := by
    intro base sCap olds hve hlt hol hfc holds
    have hcap := grownCap_ge w (n + m) sCap el
    have hrun := run_append_new (P := T.P) (w := w) (t := t) (u := u) (ty := ty) (base := base) (sLen := n) (sCap := sCap) (y := y) (olds := olds.toArray) (news := news) ht hu hd hi hz (by rw [hsz]; exact hy) (by rw [hsz]; exact hfc) hlt
      (by have : room = 4294967296 := rfl; omega) (fits hlt hroom hbytes)
    rw [← hve] at hrun
    refine ⟨_, _, hrun, ?_⟩
    generalize hcapE : grownCap w (n + m) sCap el = cap at *
    generalize harr : olds.toArray ++ news.toArray ++ Builtin.zeroCells z.cells (cap - (n + m)) = arr
    have hasz : arr.size = cap * sz := by
      rw [← harr]
      simp only [Array.size_append, List.size_toArray, size_zeroCells, hzs, hol, hnl, ← Nat.add_mul]
      congr 1; omega
    have hget : ∀ j, j < (xs ++ ys).flatten.length → arr.getD j undef = (olds ++ news).getD j undef := by
      intro j hj
      rw [hfl] at hj
      have hj' : j < (olds ++ news).length := by rw [List.length_append, hol, hnl, ← Nat.add_mul]; exact hj
      rw [← harr, Array.getD_eq_getD_getElem?, List.getD_eq_getElem?_getD, Array.getElem?_append_left (by simpa using hj')]
      simp [← Array.getElem?_toList]
    have hle := hs.withRow_le arr ((xs ++ ys).flatten.length)
    have hcells : ∀ j (h : j < (xs ++ ys).flatten.length), V0 G.M (arr.getD j undef) ((xs ++ ys).flatten[j]) := by
      intro j hj
      rw [hget j hj]
      have hs' : (xs ++ ys).flatten = xs.flatten ++ ys.flatten := by simp
      simp only [hs']
      by_cases hjx : j < xs.flatten.length
      · rw [List.getElem_append_left hjx, List.getD_eq_getElem?_getD, List.getElem?_append_left (by rw [hol, ← hn, ← hxl]; exact hjx), ← List.getD_eq_getElem?_getD]
        exact holds j hjx
      · rw [List.getElem_append_right (by omega), List.getD_eq_getElem?_getD, List.getElem?_append_right (by rw [hol, ← hn, ← hxl]; omega), ← List.getD_eq_getElem?_getD]
        have h1 : j - olds.length = j - xs.flatten.length := by rw [hol, hxl, hn]
        rw [h1]
        exact hnews _ _
    have hrow := row_of_new (w := w) (G := G) (arr := arr) (l := (xs ++ ys).flatten) (by rw [hfl, hasz]; exact Nat.mul_le_mul_right _ hcap) hle hcells
    have hB : Below w.heap.size w (w.drew.alloc (.cells arr el)) := (Below.drew (Below.refl _ _)).trans (alloc_below w.drew _)
    refine fin _ _ { (G.withRow w.heap.size arr ((xs ++ ys).flatten.length)) with γ := fun j => if j = i then _ else G.γ j } w.heap.size 0 cap rfl hcap hle rfl rfl rfl hrow hB.size hB.os hB.tape ⟨hB.output, hB.drawn⟩ (fun k hk _ => hB.block k hk) (fun c o x hx => ?_) (fun c o hc _ ho => ?_) (fun _ => ⟨arr, el, (0, 0), heap_alloc_new w.drew _, by rw [hasz]; omega, fun o _ => by omega, fun o ho => ?_⟩) (fun _ => .inr (Nat.le_refl _))
    · simp only [Gst.withRow] at hx
      split at hx
      · rename_i hc
        subst hc
        split at hx
        · simp only [World.cell?, heap_alloc_new w.drew (.cells arr el), show w.heap.size = w.drew.heap.size from rfl]; exact hx
        · cases hx
      · have hlt := hs.lt_of_m hx
        rw [hB.cell (p := ⟨c, o, none⟩) hlt]; exact hs.im c o x hx
    · simp [Gst.withRow, show c ≠ w.heap.size by omega, ho]
    · have : ¬ o < (xs ++ ys).flatten.length := by rw [hfl]; omega
      simp only [Gst.withRow, if_true, if_neg this]
  rcases hv.sl_inv with ⟨⟨a0, rfl⟩, rfl⟩ | ⟨blk, off, cap, sz', hve, hcap, hw', _, hrow⟩
  · have hn0 : n = 0 := by simpa using hn.symm
    subst hn0
    exact grow a0 0 [] rfl (by omega) (by simp) (by cases a0 <;> simp [Builtin.firstCells, loadCells, loadCellsFrom]) (fun j hj => by simp at hj)
  · rw [hn] at hve hcap
    by_cases hfit : n + m ≤ cap
    · -- in place
      have hE := hs.ent i _ hS
      rcases hE with ⟨⟨_, k1⟩, _⟩ | ⟨blk', off', cap', k1, k2, k3⟩
      · rw [hve, k1] at hγ; simp only [Value.slice.injEq] at hγ; omega
      · rw [hve, k1] at hγ
        simp only [Value.slice.injEq, Option.some.injEq, Addr.mk.injEq] at hγ
        obtain ⟨⟨rfl, rfl, _⟩, _, rfl⟩ := hγ
        obtain ⟨arr, ty', fz, q1, q2, q3, q4⟩ := k3 (by omega)
        have hact : Acts G S i blk := by unfold Acts; rw [hS]; exact ⟨off, cap, k1, by omega⟩
        have hle2 : (n + m) * sz ≤ cap * sz := Nat.mul_le_mul_right _ hfit
        rw [Nat.add_mul] at hle2
        obtain ⟨w', arr', e1, e2, e3, e4, e5, e6, e7, e8, e9⟩ := run_storeCells_in (P := T.P) news (off + n * sz) 0 arr w q1 q3 (by rw [hnl]; omega) hv1
        have hrun := run_append_in (P := T.P) (w := w) (t := t) (u := u) (ty := ty) (ad := ⟨blk, off, none⟩) (sLen := n) (sCap := cap) (y := y) ht hu hd (run_sizeOf_C (elemC_size he) w) hy hfit (by rw [addr_add]; exact e1)
        rw [← hve] at hrun
        refine ⟨_, _, hrun, ?_⟩
        let G' : Gst := { M := fun c o => if c = blk ∧ off + n * sz ≤ o ∧ o < off + n * sz + m * sz then news[o - (off + n * sz)]? else G.M c o, β := G.β, γ := fun j => if j = i then .slice (some ⟨blk, off, none⟩) (n + m) cap else G.γ j, ζ := G.ζ }
        have hM : MLe G.M G'.M := by
          intro c o x hx
          show (if _ then _ else _) = _
          rw [if_neg]
          · exact hx
          · rintro ⟨rfl, h2, h3⟩
            rw [q4 o h2] at hx; cases hx
        refine fin _ _ G' blk off cap rfl hfit hM rfl rfl rfl ?_ (by omega) e6 e7 e8 (fun k _ hk => e4 k fun h => hk (h ▸ hact)) (fun c o x hx => ?_) (fun c o _ hc ho => ?_) (fun _ => ⟨arr', ty', fz, e2, by rw [e3]; exact q2, by rw [e3]; exact q3, fun o ho => ?_⟩) (fun _ => .inl hact)
        · -- the row
          intro j hj
          have hj0 := hj
          rw [hfl, Nat.add_mul] at hj0
          have hs' : (xs ++ ys).flatten = xs.flatten ++ ys.flatten := by simp
          simp only [hs']
          by_cases hjx : j < xs.flatten.length
          · obtain ⟨x, x1, x2⟩ := hrow j hjx
            rw [List.getElem_append_left hjx]
            exact ⟨x, hM _ _ _ x1, x2.mono hM⟩
          · have hk : j - xs.flatten.length < ys.flatten.length := by rw [hxl, hyl, hn, hm]; rw [hxl, hn] at hjx; omega
            rw [List.getElem_append_right (by omega)]
            refine ⟨news.getD (j - xs.flatten.length) undef, ?_, (hnews _ hk).mono hM⟩
            show (if _ then _ else _) = _
            rw [hxl, hn] at hjx
            rw [if_pos ⟨rfl, by omega, by omega⟩]
            have h2 : off + j - (off + n * sz) = j - xs.flatten.length := by rw [hxl, hn]; omega
            rw [h2, List.getD_eq_getElem?_getD, List.getElem?_eq_getElem (by rw [hnl, ← hm, ← hyl]; exact hk)]
            rfl
        · by_cases hcb : c = blk
          · subst hcb
            have hc2 : w'.cell? ⟨c, o, none⟩ = arr'[o]? := by simp [World.cell?, e2]
            rw [hc2, e9 o]
            simp only [Nat.add_zero]
            by_cases hin : off + n * sz ≤ o ∧ o < off + n * sz + m * sz
            · have hx' : news[o - (off + n * sz)]? = some x := by
                have : G'.M c o = news[o - (off + n * sz)]? := if_pos ⟨rfl, hin.1, hin.2⟩
                rw [← this]; exact hx
              rw [if_pos ⟨hin.1, by rw [hnl]; exact hin.2⟩]; exact hx'
            · have hx' : G.M c o = some x := by
                have : G'.M c o = G.M c o := if_neg fun h => hin h.2
                rw [← this]; exact hx
              rw [if_neg (by rw [hnl]; exact hin)]
              have := hs.im c o x hx'
              simpa [World.cell?, q1] using this
          · have hx' : G.M c o = some x := by
              have : G'.M c o = G.M c o := if_neg fun h => hcb h.1
              rw [← this]; exact hx
            have := hs.im c o x hx'
            simp only [World.cell?] at *
            rw [e4 c hcb]; exact this
        · show (if _ then _ else _) = _
          rw [if_neg fun (h : c = blk ∧ off + n * sz ≤ o ∧ o < off + n * sz + m * sz) => hc (h.1 ▸ hact)]; exact ho
        · show (if _ then _ else _) = _
          rw [Nat.add_mul] at ho
          rw [if_neg (by omega)]
          exact q4 o (by omega)
    · -- moved
      have holdsz : ((List.range (n * sz)).map fun j => Row.f G.M blk off j).length = n * sz := by simp
      refine grow (some ⟨blk, off, none⟩) cap ((List.range (n * sz)).map fun j => Row.f G.M blk off j) hve (by omega) holdsz ?_ (fun j hj => ?_)
      · simp only [Builtin.firstCells]
        refine run_loadCells w.drew _ _ _ fun j hj => ?_
        obtain ⟨x, x1, x2⟩ := hrow j (by rw [hxl, hn]; exact hj)
        rw [addr_add, World.cell?_drew, hs.im _ _ _ x1]; simp [Row.f, x1]
      · obtain ⟨x, x1, x2⟩ := hrow j hj
        rw [hxl, hn] at hj
        simpa [List.getD_eq_getElem?_getD, hj, Row.f, x1] using x2

end
end Go.Abs

/-
  Appending, and rows made.
-/
namespace Go.Abs
open Go Go.RowKit

section
variable {T : Tabs} {X : Ctx} {G : Gst} {b N : Nat} {e : Env} {S : Store} {a : Act} {w : World} {P : Program}

theorem set_last {S : Store} {x y : Ent} : (S ++ [x]).set S.length y = S ++ [y] := by
  rw [List.set_append_right _ _ (Nat.le_refl _)]
  simp

theorem V0.not_own {M : Mem} {v : Value} {xs : List (List AV)} {i : Nat} (h : V0 M v (.sl xs (.own i))) : False := by
  cases h with
  | nilsl a t ht => exact ht
  | sl b o len cap sz f xs t ht => exact ht

theorem op_append {t u ty el sz : Nat} {d : TypeDesc} {v y : Value} {p q r : AV} {S' : Store} (hs : Sat X G b S w) (hb : b ≤ S.length) (ht : T.P.underlying t = some (.slice el)) (hu : T.P.underlying u = some d) (hd : NotInt d)
    (he : elemC T el = some sz) (hv : V2 G S v p) (hp : below S.length p = true) (hy : V2 G S y q) (h : appendV sz p q S = some (r, S')) :
    ∃ v' w', (Builtin.append_ #[t, u] ty #[v, y]).run T.P w = .ok v' w' ∧ OpOK X G b S w r S' v' w' := by
  obtain ⟨_, _, _, _, _, _, hsz1, _⟩ := elemC_zero he
  cases p <;> simp only [appendV, reduceCtorEq] at h
  rename_i xs t'
  obtain ⟨ys0, h1, h⟩ := Option.bind_eq_some_iff.1 h
  obtain ⟨ys, h2, h⟩ := Option.bind_eq_some_iff.1 h
  obtain ⟨i1, i2, i3, i4⟩ := chunks_immRows h2
  obtain ⟨news, hr, hn1, hn2⟩ := reads_ok (P := T.P) hs hy h1 h2 hsz1
  cases ys with
  | nil =>
    simp only [Option.some.injEq, Prod.mk.injEq] at h
    obtain ⟨rfl, rfl⟩ := h
    refine ⟨v, w, ?_, OpOK.same hs hv hp⟩
    rcases hv.sl_inv with ⟨⟨_, rfl⟩, _⟩ | ⟨blk, o, cap, s, rfl, hc, _⟩
    · exact run_append_same ht hu hd (run_sizeOf_C (elemC_size he) w) hr (Nat.le_refl _)
    · exact run_append_same ht hu hd (run_sizeOf_C (elemC_size he) w) hr hc
  | cons y0 ys' =>
    simp only at h
    split at h
    · rename_i hroom
      cases t' with
      | none => cases h
      | full =>
        simp only at h
        cases hsz : szOK sz xs with
        | false => rw [hsz] at h; cases h
        | true =>
          rw [hsz] at h
          simp only [cond_true, Option.some.injEq, Prod.mk.injEq] at h
          obtain ⟨rfl, rfl⟩ := h
          obtain ⟨G1, e1, e2, e3, e4, e5, e6⟩ := op_own hs hb hv.full hsz
          have hb1 : b ≤ (S ++ [Ent.tail xs.length sz]).length := by simp; omega
          cases e4 with
          | v0 h => exact h.not_own.elim
          | own e7 e8 =>
            obtain ⟨v', w', f1, f2⟩ := append_own_core (ty := ty) (i := S.length) (n := xs.length) (m := (y0 :: ys').length) (xs := xs) (ys := y0 :: ys') e3 hb1 ht hu hd he (by simp) e7 e5.symm rfl (szOK_width hsz hv.full)
              hr rfl i3 (fun j hj => by rw [e6]; exact hn2 j hj) (by simp) hroom
            rw [set_last] at f2
            exact ⟨v', w', f1, f2.after e1 e2⟩
      | own i =>
        simp only at h
        split at h
        · rename_i n s hS
          split at h
          · rename_i hns
            obtain ⟨rfl, rfl⟩ := hns
            cases h
            cases hv with
            | one hv =>
              cases hv with
              | v0 h => exact h.not_own.elim
              | own g1 g2 =>
                obtain ⟨k1, k2, k3⟩ := g2 _ _ hS
                obtain ⟨v', w', f1, f2⟩ := append_own_core (ty := ty) (i := i) (n := xs.length) (m := (y0 :: ys').length) (xs := xs) (ys := y0 :: ys') hs hb ht hu hd he hS g1 (k2 rfl) rfl k3
                  hr rfl i3 hn2 (by simp) hroom
                exact ⟨v', w', f1, f2⟩
          · cases h
        · cases h
    · cases h

/-- An entry without cells. -/
theorem obj_nil (hs : Sat X G b S w) (hb : b ≤ S.length) : ∃ G', Ext S.length b G S G' (S ++ [.obj []]) ∧ Keep G S w G' (S ++ [.obj []]) w ∧ Sat X G' b (S ++ [.obj []]) w := by
  obtain ⟨h1, h2, h3⟩ := hs.push hb (.obj []) 0 undef (z := 0) (Below.refl _ _) (fun h => absurd rfl h) (fun c hc => by
    unfold Acts at hc
    simp only [List.getElem?_concat_length] at hc
    exact absurd rfl hc.1) rfl
  exact ⟨_, h2, h3, h1⟩

/-- Rows behind a row that is written in place: the elder entry is given up. -/
theorem op_growM {t u ty el sz i l : Nat} {d : TypeDesc} {v y : Value} {q : AV} {cs : List AV} {ys0 ys : List (List AV)} (hs : Sat X G b S w) (hb : b ≤ S.length) (ht : T.P.underlying t = some (.slice el)) (hu : T.P.underlying u = some d) (hd : NotInt d)
    (he : elemC T el = some sz) (hv : V2 G S v (.osl i 0 l sz)) (hy : V2 G S y q) (hS : S[i]? = some (.obj cs)) (h1 : rowsOf q S = some ys0) (h2 : immRows sz ys0 = some ys) (c1 : 0 < l) (c2 : l * sz ≤ cs.length) (c3 : l + ys.length ≤ room) :
    ∃ v' w', (Builtin.append_ #[t, u] ty #[v, y]).run T.P w = .ok v' w' ∧ OpOK X G b S w (.osl S.length 0 (l + ys.length) sz) (S.set i .dead ++ [.obj (cs.take (l * sz) ++ ys.flatten)]) v' w' := by
  obtain ⟨ti, z, hi, hz, hsz, hzs, hsz1, hbytes⟩ := elemC_zero he
  obtain ⟨i1, i2, i3, i4⟩ := chunks_immRows h2
  obtain ⟨news, hr, hn1, hn2⟩ := reads_ok (P := T.P) hs hy h1 h2 hsz1
  have hyl := flat_len i3
  obtain ⟨ad, cap, rfl, hcap, had, _⟩ := hv.osl_inv'
  obtain ⟨rfl, hz2⟩ := had (by omega)
  have hlsz : 1 ≤ l * sz := Nat.mul_pos c1 hsz1
  have hne : cs ≠ [] := fun h => by subst h; simp at c2; omega
  obtain ⟨arr, t0, fz, a1, a2, a3, a4, a5, a6⟩ := hs.ent i _ hS hne
  have hact : ∀ c, Acts G S i c ↔ c = G.β i := fun c => by unfold Acts; rw [hS]; simp [hne]
  have hlow := hs.lowS hb hS
  rw [entBelow_obj] at hlow
  have htk : (cs.take (l * sz)).length = l * sz := by simp; omega
  have hnl : (cs.take (l * sz) ++ ys.flatten).length = (l + ys.length) * sz := by rw [List.length_append, htk, hyl, Nat.add_mul]
  have hnewne : cs.take (l * sz) ++ ys.flatten ≠ [] := fun h => by have := congrArg List.length h; rw [hnl, Nat.add_mul] at this; simp at this; omega
  have hnb : belows S.length (cs.take (l * sz) ++ ys.flatten) = true := belows_of_get fun j hj => by
    by_cases hjl : j < (cs.take (l * sz)).length
    · rw [List.getElem_append_left hjl, List.getElem_take]; exact below_all_get hlow _
    · rw [List.getElem_append_right (by omega)]; exact (hn2 _ _).low _
  have hv1 : ∀ u ∈ news, u.oneCell' = true := by
    intro u' hu'
    obtain ⟨j, hj, rfl⟩ := List.getElem_of_mem hu'
    have := hn2 j (by rw [← hn1]; exact hj)
    have := oneCell_of_V1 (G := G) (S := S) (.v0 this)
    simpa [List.getD_eq_getElem?_getD, hj] using this
  -- the new entry's cells
  have cells : ∀ (G' : Gst) (S' : Store) (arr' : Array Value), Ext S.length b G S G' S' → (∀ j, j < (l + ys.length) * sz → arr'.getD j undef = if j < l * sz then arr.getD j undef else news.getD (j - l * sz) undef) →
      ∀ j (h : j < (cs.take (l * sz) ++ ys.flatten).length), V1 G' S' (arr'.getD j undef) ((cs.take (l * sz) ++ ys.flatten)[j]) := by
    intro G' S' arr' hE hget j hj
    rw [hget j (by rw [← hnl]; exact hj)]
    by_cases hjl : j < l * sz
    · rw [if_pos hjl, List.getElem_append_left (by rw [htk]; exact hjl), List.getElem_take]
      exact (a4 j (by omega)).mono hE (below_all_get hlow _)
    · rw [if_neg hjl, List.getElem_append_right (by rw [htk]; omega)]
      have hk : j - (cs.take (l * sz)).length < ys.flatten.length := by rw [List.length_append] at hj; omega
      have := hn2 _ hk
      have he2 : news.getD (j - l * sz) undef = news.getD (j - (cs.take (l * sz)).length) undef := by rw [htk]
      rw [he2]
      exact .v0 (this.mono hE.m)
  by_cases hfit : l + ys.length ≤ cap
  · -- in place
    have hfit2 : (l + ys.length) * sz ≤ arr.size := by rw [a6]; have := Nat.mul_le_mul_right sz hfit; omega
    have hfit3 := hfit2
    rw [Nat.add_mul] at hfit3
    obtain ⟨w', arr', e1, e2, e3, e4, e5, e6, e7, e8, e9⟩ := run_storeCells_in (P := T.P) news (0 + l * sz) 0 arr w a1 a3 (by rw [hn1, hyl]; omega) hv1
    have hrun := run_append_in (P := T.P) (w := w) (t := t) (u := u) (ty := ty) (ad := ⟨G.β i, 0, none⟩) (sLen := l) (sCap := cap) (y := y) ht hu hd (run_sizeOf_C (elemC_size he) w) hr hfit (by rw [addr_add]; exact e1)
    refine ⟨_, _, hrun, ?_⟩
    have hget : ∀ j, j < (l + ys.length) * sz → arr'.getD j undef = if j < l * sz then arr.getD j undef else news.getD (j - l * sz) undef := by
      intro j hj
      rw [Nat.add_mul] at hj
      rw [Array.getD_eq_getD_getElem?, e9 j]
      by_cases hjl : j < l * sz
      · rw [if_neg (by omega), if_pos hjl, Array.getD_eq_getD_getElem?]
      · rw [if_pos (by rw [hn1, hyl]; omega), if_neg hjl, List.getD_eq_getElem?_getD]
        simp
    have hβ : (G.push S.length (G.β i) undef arr.size).β S.length = G.β i := by simp [Gst.push]
    have hζ : (G.push S.length (G.β i) undef arr.size).ζ S.length = arr.size := by simp [Gst.push]
    have hE : Ext S.length b G S (G.push S.length (G.β i) undef arr.size) (S.set i .dead ++ [.obj (cs.take (l * sz) ++ ys.flatten)]) := ext_move hb hS
    obtain ⟨g1, g2, g3⟩ := hs.move hb (e' := .obj (cs.take (l * sz) ++ ys.flatten)) (blk := G.β i) (g := undef) (z := arr.size) (w' := w') hS (by omega) e6 e7 e8 (fun k _ hk => e4 k fun h => hk ((hact k).2 h)) (fun c hc o => by rw [(hact c).1 hc]; exact a5 o)
      (fun _ => ⟨arr', t0, fz, by rw [hβ]; exact e2, by rw [hnl, e3]; exact hfit2, by rw [e3]; exact a3, cells _ _ _ hE hget, fun o => by rw [hβ]; exact a5 o, by rw [hζ]; exact e3⟩)
      (fun c hc => .inl ((hact c).2 (by
        unfold Acts at hc
        rw [show (S.set i Ent.dead ++ [Ent.obj (cs.take (l * sz) ++ ys.flatten)])[S.length]? = some (Ent.obj (cs.take (l * sz) ++ ys.flatten)) by
          have := List.getElem?_concat_length (l := S.set i Ent.dead) (a := Ent.obj (cs.take (l * sz) ++ ys.flatten)); simpa using this] at hc
        rw [hc.2, hβ])))
      (by rw [entBelow_obj]; exact belows_mono (Nat.le_succ _) hnb)
    refine ⟨_, g2, g3, g1, ?_, by simp [below, blt_iff]⟩
    have := V1.osl (G := G.push S.length (G.β i) undef arr.size) (S := S.set i Ent.dead ++ [Ent.obj (cs.take (l * sz) ++ ys.flatten)]) (some ⟨(G.push S.length (G.β i) undef arr.size).β S.length, 0, none⟩) S.length 0 (l + ys.length) cap sz hfit (fun _ => ⟨rfl, by rw [hζ, a6]; exact hz2⟩) (.some _ _ _)
    rw [hβ] at this
    exact .one this
  · -- moved
    have hcapn := grownCap_ge w (l + ys.length) cap el
    have holdsz : ((List.range (l * sz)).map fun j => arr.getD j undef).length = l * sz := by simp
    have hrun := run_append_new (P := T.P) (w := w) (t := t) (u := u) (ty := ty) (base := some ⟨G.β i, 0, none⟩) (sLen := l) (sCap := cap) (y := y) (olds := ((List.range (l * sz)).map fun j => arr.getD j undef).toArray) (news := news) ht hu hd hi hz (by rw [hsz]; exact hr)
      (by
        rw [hsz]
        simp only [Builtin.firstCells]
        refine run_loadCells w.drew _ _ _ fun j hj => ?_
        rw [addr_add, World.cell?_drew]
        simp [World.cell?, a1, Array.getD_eq_getD_getElem?, show j < arr.size by omega])
      (by omega) (by have : room = 4294967296 := rfl; omega) (fits (by omega) c3 hbytes)
    refine ⟨_, _, hrun, OpOK.from (w1 := w.drew) (Below.drew (Below.refl _ _)) ?_⟩
    generalize hcapE : grownCap w (l + ys.length) cap el = cap' at *
    generalize harr : ((List.range (l * sz)).map fun j => arr.getD j undef).toArray ++ news.toArray ++ Builtin.zeroCells z.cells (cap' - (l + ys.length)) = arr'
    have hasz : arr'.size = cap' * sz := by
      rw [← harr]
      simp only [Array.size_append, List.size_toArray, size_zeroCells, hzs, holdsz, hn1, hyl, ← Nat.add_mul]
      congr 1; omega
    have hfit2 : (l + ys.length) * sz ≤ arr'.size := by rw [hasz]; exact Nat.mul_le_mul_right _ hcapn
    have hget : ∀ j, j < (l + ys.length) * sz → arr'.getD j undef = if j < l * sz then arr.getD j undef else news.getD (j - l * sz) undef := by
      intro j hj
      rw [Nat.add_mul] at hj
      rw [← harr, Array.getD_eq_getD_getElem?, Array.getElem?_append_left (by simp only [Array.size_append, List.size_toArray, holdsz, hn1, hyl]; omega)]
      by_cases hjl : j < l * sz
      · rw [Array.getElem?_append_left (by simpa using hjl), if_pos hjl]
        simp [hjl]
      · rw [Array.getElem?_append_right (by simp; omega), if_neg hjl, List.getD_eq_getElem?_getD]
        simp
    have hs' := hs.drew hb
    have hβ : (G.push S.length w.drew.heap.size undef arr'.size).β S.length = w.drew.heap.size := by simp [Gst.push]
    have hζ : (G.push S.length w.drew.heap.size undef arr'.size).ζ S.length = arr'.size := by simp [Gst.push]
    have hE : Ext S.length b G S (G.push S.length w.drew.heap.size undef arr'.size) (S.set i .dead ++ [.obj (cs.take (l * sz) ++ ys.flatten)]) := ext_move hb hS
    have hB := alloc_below w.drew (.cells arr' el)
    obtain ⟨g1, g2, g3⟩ := hs'.move hb (e' := .obj (cs.take (l * sz) ++ ys.flatten)) (blk := w.drew.heap.size) (g := undef) (z := arr'.size) (w' := w.drew.alloc (.cells arr' el)) hS hB.size hB.os hB.tape ⟨hB.output, hB.drawn⟩ (fun k hk _ => hB.block k hk) (fun c hc o => by rw [(hact c).1 hc]; exact a5 o)
      (fun _ => ⟨arr', el, (0, 0), by rw [hβ]; exact heap_alloc_new w.drew _, by rw [hnl]; exact hfit2, fun o _ => by omega, cells _ _ _ hE hget, fun o => by rw [hβ]; exact hs'.m_new o, hζ.symm⟩)
      (fun c hc => .inr (by
        unfold Acts at hc
        rw [show (S.set i Ent.dead ++ [Ent.obj (cs.take (l * sz) ++ ys.flatten)])[S.length]? = some (Ent.obj (cs.take (l * sz) ++ ys.flatten)) by
          have := List.getElem?_concat_length (l := S.set i Ent.dead) (a := Ent.obj (cs.take (l * sz) ++ ys.flatten)); simpa using this] at hc
        rw [hc.2, hβ]; exact Nat.le_refl _))
      (by rw [entBelow_obj]; exact belows_mono (Nat.le_succ _) hnb)
    refine ⟨_, g2, g3, g1, ?_, by simp [below, blt_iff]⟩
    have := V1.osl (G := G.push S.length w.drew.heap.size undef arr'.size) (S := S.set i Ent.dead ++ [Ent.obj (cs.take (l * sz) ++ ys.flatten)]) (some ⟨(G.push S.length w.drew.heap.size undef arr'.size).β S.length, 0, none⟩) S.length 0 (l + ys.length) cap' sz hcapn (fun _ => ⟨rfl, by rw [hζ, hasz]; omega⟩) (.some _ _ _)
    rw [hβ] at this
    exact .one this

theorem op_appendM {t u ty el sz : Nat} {d : TypeDesc} {v y : Value} {p q r : AV} {S' : Store} (hs : Sat X G b S w) (hb : b ≤ S.length) (ht : T.P.underlying t = some (.slice el)) (hu : T.P.underlying u = some d) (hd : NotInt d)
    (he : elemC T el = some sz) (hv : V2 G S v p) (hy : V2 G S y q) (h : appendMV sz p q S = some (r, S')) :
    ∃ v' w', (Builtin.append_ #[t, u] ty #[v, y]).run T.P w = .ok v' w' ∧ OpOK X G b S w r S' v' w' := by
  obtain ⟨ti, z, hi, hz, hsz, hzs, hsz1, hbytes⟩ := elemC_zero he
  unfold appendMV at h
  split at h
  · obtain ⟨ys0, h1, h⟩ := Option.bind_eq_some_iff.1 h
    obtain ⟨ys, h2, h⟩ := Option.bind_eq_some_iff.1 h
    split at h
    · rename_i hroom
      obtain ⟨i1, i2, i3, i4⟩ := chunks_immRows h2
      obtain ⟨news, hr, hn1, hn2⟩ := reads_ok (P := T.P) hs hy h1 h2 hsz1
      have hyl := flat_len i3
      have hfull : ∃ base, v = .slice base 0 0 ∧ AddrOK base 0 := by
        rcases hv.full.full_header with ⟨⟨_, rfl⟩, _⟩ | ⟨c, o, rfl⟩
        · exact ⟨_, rfl, .inl rfl⟩
        · exact ⟨_, rfl, .some _ _ _⟩
      obtain ⟨base, rfl, hpl⟩ := hfull
      by_cases hm : ys = []
      · subst hm
        cases h
        exact ⟨_, w, run_append_same ht hu hd (run_sizeOf_C (elemC_size he) w) hr (Nat.le_refl _), OpOK.same hs hv (by simp [below])⟩
      · have hm' : 0 < ys.length := List.length_pos_iff.2 hm
        have hem : ys.isEmpty = false := by cases ys with
          | nil => exact absurd rfl hm
          | cons => rfl
        rw [hem] at h
        cases h
        have ho : (Builtin.firstCells ti.size 0 (.slice base 0 0)).run T.P w.drew = .ok #[] w.drew := by
          cases base <;> simp [Builtin.firstCells, loadCells, loadCellsFrom]
        have hrun := run_append_new (P := T.P) (w := w) (t := t) (u := u) (ty := ty) (base := base) (sLen := 0) (sCap := 0) (m := ys.length) (y := y) (olds := #[]) (news := news) ht hu hd hi hz (by rw [hsz]; exact hr) ho (by omega)
          (by have : room = 4294967296 := rfl; omega) (fits (by omega) (by simpa using hroom) hbytes)
        have hcap := grownCap_ge w (0 + ys.length) 0 el
        obtain ⟨G', e1, e2, e3, e4, e5⟩ := obj_ok (ty := el) (hs.drew hb) hb (arr := #[] ++ news.toArray ++ Builtin.zeroCells z.cells (grownCap w (0 + ys.length) 0 el - (0 + ys.length))) (l := ys.flatten)
          (by simp only [Array.size_append, List.size_toArray]; rw [hn1]; omega)
          (fun j hj => by
            have := hn2 j hj
            rw [Array.getD_eq_getD_getElem?, Array.getElem?_append_left (by simp; omega)]
            refine .v0 ?_
            simpa [List.getD_eq_getElem?_getD] using this)
          (belows_of_get fun j hj => (hn2 j hj).low _)
        refine ⟨_, _, hrun, OpOK.from (w1 := w.drew) (Below.drew (Below.refl _ _)) ⟨G', e1, e2, e3, ?_, by simp [below, blt_iff]⟩⟩
        refine .one ?_
        have := V1.osl (G := G') (S := S ++ [.obj ys.flatten]) (some ⟨G'.β S.length, 0, none⟩) S.length 0 ys.length (grownCap w (0 + ys.length) 0 el) sz (by omega) (fun _ => ⟨rfl, by rw [e5]; simp only [Array.size_append, List.size_toArray, size_zeroCells, hzs, hn1]; simp only [List.length_nil, hyl]; rw [Nat.zero_add, Nat.zero_add, Nat.zero_add, ← Nat.add_mul]; exact Nat.mul_le_mul_right _ (by omega)⟩) (.some _ _ _)
        rw [e4] at this
        simpa using this
    · cases h
  · split at h
    · rename_i i l s _ cs he'
      obtain ⟨ys0, h1, h⟩ := Option.bind_eq_some_iff.1 h
      obtain ⟨ys, h2, h⟩ := Option.bind_eq_some_iff.1 h
      split at h
      · rename_i hc
        obtain ⟨rfl, c1, c2, c3⟩ := hc
        cases h
        exact op_growM hs hb ht hu hd he hv hy he' h1 h2 c1 c2 c3
      · cases h
    · cases h
  · cases h

/-! rows made -/

theorem replicate_flat_get {zero : List AV} : ∀ (n j : Nat), j < n * zero.length → (List.replicate n zero).flatten[j]? = zero[j % zero.length]?
  | 0, j, h => by simp at h
  | n + 1, j, h => by
    simp only [List.replicate_succ, List.flatten_cons]
    by_cases hj : j < zero.length
    · rw [List.getElem?_append_left hj, Nat.mod_eq_of_lt hj]
    · rw [List.getElem?_append_right (by omega), replicate_flat_get n (j - zero.length) (by rw [Nat.add_mul] at h; omega), Nat.mod_eq_sub_mod (a := j) (by omega)]

theorem made_get {z : Array Value} {n j : Nat} (hj : j < n) (hz : 0 < z.size) : (madeCells z n).getD j undef = z.getD (j % z.size) undef := by
  have h2 : j % z.size < z.size := Nat.mod_lt _ hz
  simp [madeCells, Array.getD_eq_getD_getElem?, hj, h2]

theorem op_mslice {t el sz : Nat} {v y : Value} {p q r : AV} {z : List AV} {S' : Store} (hs : Sat X G b S w) (hb : b ≤ S.length) (ht : T.P.underlying t = some (.slice el)) (he : elemC T el = some sz) (hz : zeroC T el = some z) (hzl : z.length = sz)
    (hv : V2 G S v p) (hy : V2 G S y q) (h : msliceV z p q S = some (r, S')) :
    ∃ v' w', (Instr.makeSlice t v y).run T.P w = .ok v' w' ∧ OpOK X G b S w r S' v' w' := by
  obtain ⟨ti, zv, hi, hzv, hsz, hzs, hsz1, hbytes⟩ := elemC_zero he
  unfold msliceV at h
  split at h
  · rename_i kl l kc c
    split at h
    · rename_i hlc
      cases h
      cases hv.int_inv
      cases hy.int_inv
      obtain ⟨h0, h1, h2⟩ := hlc
      have h2' : c ≤ 4294967296 := h2
      have hbig : (ti.bytes : Int) * c ≤ 281474976710656 := by
        have : (ti.bytes : Int) * c ≤ 1024 * 4294967296 := Int.mul_le_mul (by omega) h2' (by omega) (by omega)
        omega
      have hrun := run_make (P := T.P) w t el ti zv ht hi hzv kl kc l c h0 h1 hbig (by omega)
      obtain ⟨i', zv', hi', hzv', hcc⟩ := zeroC_eq hz
      rw [hi] at hi'
      cases hi'
      rw [hzv] at hzv'
      cases hzv'
      obtain ⟨k1, k2⟩ := constCells_ok (M := G.M) hcc
      have hzsz : zv.cells.size = z.length := by simpa using k1
      have hflen : (List.replicate c.toNat z).flatten.length = c.toNat * z.length := by simp
      obtain ⟨G', e1, e2, e3, e4, e5⟩ := obj_ok (ty := el) hs hb (arr := madeCells zv.cells (c.toNat * ti.size)) (l := (List.replicate c.toNat z).flatten)
        (by rw [size_madeCells, hflen, hsz, hzl]; exact Nat.le_refl _)
        (fun j hj => by
          rw [hflen] at hj
          have hm : j % z.length < z.length := Nat.mod_lt _ (by omega)
          rw [made_get (by rw [hsz, ← hzl]; exact hj) (by omega), hzsz]
          have hg := replicate_flat_get c.toNat j hj
          rw [List.getElem?_eq_getElem (by rw [hflen]; exact hj), List.getElem?_eq_getElem hm] at hg
          rw [Option.some.inj hg]
          have := k2 _ hm
          refine .v0 ?_
          simpa [List.getD_eq_getElem?_getD, Array.getD_eq_getD_getElem?] using this)
        (belows_of_get fun j hj => by
          rw [hflen] at hj
          have hm : j % z.length < z.length := Nat.mod_lt _ (by omega)
          have hg := replicate_flat_get c.toNat j hj
          rw [List.getElem?_eq_getElem (by rw [hflen]; exact hj), List.getElem?_eq_getElem hm] at hg
          rw [Option.some.inj hg]
          exact (k2 _ hm).low _)
      refine ⟨_, _, hrun, G', e1, e2, e3, ?_, by simp [below, blt_iff]⟩
      rw [← e4]
      exact .one (.osl _ _ _ _ _ _ (by omega) (fun _ => ⟨rfl, by rw [e5, size_madeCells, hsz, hzl]; omega⟩) (.some _ _ _))
    · cases h
  · cases h

theorem op_mtail {t el sz : Nat} {y : Value} {q r : AV} {S' : Store} (hs : Sat X G b S w) (hb : b ≤ S.length) (ht : T.P.underlying t = some (.slice el)) (he : elemC T el = some sz)
    (hy : V2 G S y q) (h : mtailV sz q S = some (r, S')) :
    ∃ v' w', (Instr.makeSlice t (.int .i64 0) y).run T.P w = .ok v' w' ∧ OpOK X G b S w r S' v' w' := by
  obtain ⟨ti, zv, hi, hzv, hsz, hzs, hsz1, hbytes⟩ := elemC_zero he
  unfold mtailV at h
  split at h
  · rename_i kc c
    split at h
    · rename_i hlc
      cases h
      cases hy.int_inv
      obtain ⟨h1, h2⟩ := hlc
      have h2' : c ≤ 4294967296 := h2
      have hbig : (ti.bytes : Int) * c ≤ 281474976710656 := by
        have : (ti.bytes : Int) * c ≤ 1024 * 4294967296 := Int.mul_le_mul (by omega) h2' (by omega) (by omega)
        omega
      have hrun := run_make (P := T.P) w t el ti zv ht hi hzv .i64 kc 0 c (by omega) h1 hbig (by omega)
      simp only [Int.toNat_zero] at hrun
      have hγ : (G.push S.length 0 (.slice (some ⟨w.heap.size, 0, none⟩) 0 c.toNat)).γ S.length = .slice (some ⟨w.heap.size, 0, none⟩) 0 c.toNat := by simp [Gst.push]
      obtain ⟨e1, e2, e3⟩ := hs.push hb (.tail 0 sz) 0 (.slice (some ⟨w.heap.size, 0, none⟩) 0 c.toNat) (alloc_below w (.cells (madeCells zv.cells (c.toNat * ti.size)) el))
        (.inr ⟨w.heap.size, 0, c.toNat, hγ, Nat.zero_le _, fun _ => ⟨_, el, (0, 0), heap_alloc_new _ _, by rw [size_madeCells, hsz]; omega, fun o _ => by omega, fun o _ => hs.m_new o⟩⟩)
        (fun k hk => by
          unfold Acts at hk
          simp only [List.getElem?_concat_length] at hk
          obtain ⟨off, cap, k1, _⟩ := hk
          rw [hγ] at k1
          simp only [Value.slice.injEq, Option.some.injEq, Addr.mk.injEq] at k1
          omega)
        rfl
      refine ⟨_, _, hrun, _, e2, e3, e1, .one (.own (V0.of_row (sz := sz) trivial rfl (Nat.zero_le _) (by simp) (fun h => h.elim) fun j hj => by simp at hj) fun n s hn => ?_), by simp [below, blt_iff]⟩
      simp only [List.getElem?_concat_length, Option.some.injEq, Ent.tail.injEq] at hn
      obtain ⟨rfl, rfl⟩ := hn
      exact ⟨Nat.zero_le _, fun _ => hγ.symm, by simp⟩
    · cases h
  · cases h

end
end Go.Abs
