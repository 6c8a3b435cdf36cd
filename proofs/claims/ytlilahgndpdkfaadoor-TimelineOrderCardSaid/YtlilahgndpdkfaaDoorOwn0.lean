/-
  Texts of this claim: AbsCore.
-/
import Derived.KernelRfl
import Derived.WalkKit
set_option linter.all false
/-
  An abstract, deterministic reading of the translated Go code: values without memory (lists for slices), a small store for what is written in place, and one evaluator.
-/
namespace Go.Abs
open Go

/-- Who may append in place: nobody · its room is used up (an append makes a new row) · the holder of the store's entry i. -/
inductive Tok where
  | none | full | own (i : Nat)

inductive AV where
  | int (k : IntKind) (n : Int)
  | bool (b : Bool)
  | str (s : List UInt8)
  | sl (xs : List (List AV)) (t : Tok)
  | ip (cells : List AV) (off : Nat)
  | ptr (i off : Nat)
  | osl (i off len sz : Nat)
  | map (i : Nat)
  | clo (f : Nat) (caps : List AV)
  | nilp
  | agg (cells : List AV)
  | tup (vs : List AV)
  /-- what a slot holds whose operation was passed over -/
  | und

instance : Inhabited AV := ⟨.tup []⟩

abbrev AV.u : AV := .tup []
abbrev i64 (n : Int) : AV := .int .i64 n

inductive Ent where
  | obj (cells : List AV)
  | tail (n sz : Nat)
  | map (es : List (AV × AV))
  /-- a walk over the map of the entry m, which had n elements when it began: those that it has met -/
  | iter (m n : Nat) (seen : List Nat)
  | dead

abbrev Store := List Ent
/-- What each slot holds. -/
abbrev Env := Nat → AV

def Env.get (e : Env) (n : Nat) : AV := e n

def Env.put (e : Env) (d : Option Nat) (v : AV) : Env :=
  match d with
  | some d => fun n => bif Nat.beq d n then v else e n
  | none => e

def memN (n : Nat) : List Nat → Bool
  | [] => false
  | k :: l => bif Nat.beq k n then true else memN n l

def Env.gets (e : Env) (l : List Nat) : List AV := l.map e.get
def Env.only (e : Env) (l : List Nat) : Env := fun n => bif memN n l then e n else .u

inductive Opd where
  | tmp (t : Nat)
  | const (a : AV)

def Opd.ev (e : Env) : Opd → AV
  | .tmp t => e.get t
  | .const a => a

inductive Gh where
  | own (sz : Nat)
  | ownCell (sz j : Nat)
  | disown
  | freeze

inductive SOp where
  | mv (x : Opd)
  | pick (c a b : Opd)
  | bin (op : BinOp) (x y : Opd)
  | binB (op : BinOp) (x y : Opd)
  | eqc (neg : Bool) (ks : List Nat) (x y : Opd)
  | un (op : UnOp) (x : Opd)
  | conv (k : IntKind) (x : Opd)
  | alloc (zero : List AV)
  | allocP (n : Nat)
  | boxP (x : Opd)
  | boxM (x : Opd)
  | build (zero : List AV) (parts : List (Nat × Nat × Opd))
  | bslice (sz : Nat) (elems : List (Opd ⊕ List AV))
  | bsliceM (sz : Nat) (elems : List (Opd ⊕ List AV))
  | load (n : Option Nat) (a : Opd)
  | loadI (n : Option Nat) (a : Opd)
  | loadR (n : Option Nat) (a : Opd) (root : Nat)
  | store (n : Nat) (a v : Opd)
  | storeP (n : Nat) (t : Nat) (v : Opd)
  | storeN (n : Nat) (t : Nat) (v : Opd)
  | nilc (x : Opd)
  | mslice (zero : List AV) (len cap : Opd)
  | mtail (sz : Nat) (cap : Opd)
  | slice (sz : Nat) (x : Opd) (lo hi mx : Option Opd)
  | sliceS (x : Opd) (lo hi : Option Opd)
  | sliceA (sz n : Nat) (x : Opd) (lo hi : Option Opd)
  | fieldA (off : Nat) (x : Opd)
  | field (off : Nat) (n : Option Nat) (x : Opd)
  | indexA (sz : Nat) (arr : Option Nat) (x i : Opd)
  | index (sz len : Nat) (agg : Bool) (x i : Opd)
  | indexS (x i : Opd)
  | len (x : Opd)
  | lenS (x : Opd)
  | lenM (x : Opd)
  | append (sz : Nat) (x y : Opd)
  | appendM (sz : Nat) (x y : Opd)
  | toBytes (x : Opd)
  | ofBytes (x : Opd)
  | ofInt (x : Opd)
  | extract (x : Opd) (i : Nat)
  | mkclo (f : Nat) (caps : List Opd)
  | call (f : Nat) (args : List Opd)
  | callP (f : Nat) (args : List Opd)
  | callO (f : Nat) (args : List Opd) (avoid : List Nat)
  | callV (fv : Opd) (args : List Opd)
  | minmax (mx : Bool) (args : List Opd)
  | makeMap
  | lookup (zero : AV) (ag : Bool) (ks : List Nat) (m k : Opd) (ok : Bool)
  | mapSet (ag : Bool) (ks : List Nat) (m k v : Opd)
  | mapEntry (zero : AV) (ag : Bool) (ks : List Nat) (m k : Opd)
  | entryStore (m st v : Opd)
  | range (m : Opd)
  | entry (it : Opd)
  | fail
  /-- what becomes of the result before it is written -/
  | post (o : SOp) (g : Gh)

structure SOper where
  dst : Option Nat
  op : SOp
  guard : Option (Nat × Bool)

/-! ### Values -/

def cellsOf : AV → List AV
  | .agg cs => cs
  | v => [v]

/-- A cell as_ it may lie in memory that nobody writes: without a right to append. -/
def imm1 : AV → Option AV
  | .int k n => some (.int k n)
  | .bool b => some (.bool b)
  | .str s => some (.str s)
  | .sl xs _ => some (.sl xs .none)
  | .ip cs o => some (.ip cs o)
  | .nilp => some .nilp
  | _ => none

def imms : List AV → Option (List AV)
  | [] => some []
  | c :: cs => (imm1 c).bind fun c' => (imms cs).bind fun cs' => some (c' :: cs')

/-- A cell as_ it may lie in an entry of a caller's, whose entries are those before n. -/
def low1 (n : Nat) : AV → Option AV
  | .sl xs (.own i) => some (.sl xs (bif Nat.blt i n then .own i else .none))
  | .sl xs t => some (.sl xs t)
  | .ptr i o => bif Nat.blt i n then some (.ptr i o) else none
  | .map i => bif Nat.blt i n then some (.map i) else none
  | .osl i o l s => bif Nat.blt i n then some (.osl i o l s) else none
  | .int k n => some (.int k n)
  | .bool b => some (.bool b)
  | .str s => some (.str s)
  | .ip cs o => some (.ip cs o)
  | .nilp => some .nilp
  | _ => none

def lows (n : Nat) : List AV → Option (List AV)
  | [] => some []
  | c :: cs => (low1 n c).bind fun c' => (lows n cs).bind fun cs' => some (c' :: cs')

/-- A cell as_ it may lie in an entry of the call's own. -/
def cell1 : AV → Option AV
  | .und => none
  | .agg _ => none
  | .tup _ => none
  | .clo _ _ => none
  | v => some v

def cells1 : List AV → Option (List AV)
  | [] => some []
  | c :: cs => (cell1 c).bind fun c' => (cells1 cs).bind fun cs' => some (c' :: cs')

def takeC (n : Option Nat) (cs : List AV) (off : Nat) : Option AV :=
  match n with
  | none => cs[off]?
  | some n => if off + n ≤ cs.length then some (.agg ((cs.drop off).take n)) else none

def setC (cs : List AV) (off : Nat) : List AV → List AV
  | [] => cs
  | v :: vs => setC (cs.set off v) (off + 1) vs

/-! ### Operations without a store -/

def bitsI (op : BinOp) (k : IntKind) (x y : Int) : Option AV :=
  match op with
  | .and => some (.int k (k.wrap (BitVec.ofInt k.bits x &&& BitVec.ofInt k.bits y).toNat))
  | .or => some (.int k (k.wrap (BitVec.ofInt k.bits x ||| BitVec.ofInt k.bits y).toNat))
  | .xor => some (.int k (k.wrap (BitVec.ofInt k.bits x ^^^ BitVec.ofInt k.bits y).toNat))
  | .andNot => some (.int k (k.wrap (BitVec.ofInt k.bits x &&& ~~~BitVec.ofInt k.bits y).toNat))
  | _ => none

def binI (op : BinOp) (k : IntKind) (a b : Int) : Option AV :=
  match op with
  | .add => some (.int k (k.wrap (a + b)))
  | .sub => some (.int k (k.wrap (a - b)))
  | .mul => some (.int k (k.wrap (a * b)))
  | .quo => if b = 0 then none else some (.int k (k.wrap (a.tdiv b)))
  | .rem => if b = 0 then none else some (.int k (a.tmod b))
  | .eql => some (.bool (a == b))
  | .neq => some (.bool (a != b))
  | .lss => some (.bool (decide (a < b)))
  | .leq => some (.bool (decide (a ≤ b)))
  | .gtr => some (.bool (decide (a > b)))
  | .geq => some (.bool (decide (a ≥ b)))
  | .shl => if b < 0 then none else some (.int k (k.wrap (a * 2 ^ (min b.toNat k.bits))))
  | .shr => if b < 0 then none else some (.int k (a.fdiv (2 ^ (min b.toNat k.bits))))
  | op => bitsI op k a b

def isShift : BinOp → Bool
  | .shl | .shr => true
  | _ => false

def binS (op : BinOp) (a b : List UInt8) : Option AV :=
  match op with
  | .add => if a.length + b.length ≤ 4294967296 then some (.str (a ++ b)) else none
  | .eql => some (.bool (a == b))
  | .neq => some (.bool (!(a == b)))
  | .lss => some (.bool (Op.bytesLess a b))
  | .leq => some (.bool (Op.bytesLess a b || a == b))
  | .gtr => some (.bool (!(Op.bytesLess a b || a == b)))
  | .geq => some (.bool (!Op.bytesLess a b))
  | _ => none

def binB (op : BinOp) (a b : Bool) : Option AV :=
  match op with
  | .eql => some (.bool (a == b))
  | .neq => some (.bool (!(a == b)))
  | _ => none

def binV (op : BinOp) : AV → AV → Option AV
  | .int k a, .int k' b => bif isShift op then binI op k a b else if k = k' then binI op k a b else none
  | .str a, .str b => binS op a b
  | _, _ => none

def binBV (op : BinOp) : AV → AV → Option AV
  | .bool a, .bool b => binB op a b
  | _, _ => none

/-- One cell against another, as_ its type's kind has it: 0: a number · 1: a string · 2: a bool. -/
def eq1 (k : Nat) (a b : AV) : Option Bool :=
  match k, a, b with
  | 0, .int k a, .int k' b => if k = k' then some (a == b) else none
  | 1, .str a, .str b => some (a == b)
  | 2, .bool a, .bool b => some (a == b)
  | _, _, _ => none

def eqs : List Nat → List AV → List AV → Option Bool
  | [], [], [] => some true
  | k :: ks, a :: as_, b :: bs => (eq1 k a b).bind fun x => (eqs ks as_ bs).bind fun y => some (x && y)
  | _, _, _ => none

def eqcV (neg : Bool) (ks : List Nat) : AV → AV → Option AV
  | .agg a, .agg b => (eqs ks a b).bind fun x => some (.bool (x != neg))
  | _, _ => none

/-- Two keys of a map: structs ('ag'), or single cells. -/
def eqKey (ag : Bool) (ks : List Nat) (a b : AV) : Option Bool :=
  match ag, a, b with
  | true, .agg x, .agg y => eqs ks x y
  | false, a, b => (match ks with | [k] => eq1 k a b | _ => none)
  | _, _, _ => none

def unV : UnOp → AV → Option AV
  | .neg, .int k a => some (.int k (k.wrap (0 - a)))
  | .not, .bool b => some (.bool !b)
  | .xor, .int k a => bitsI .xor k (if k.signed then -1 else k.max) a
  | _, _ => none

def convV (k : IntKind) : AV → Option AV
  | .int _ n => some (.int k (k.wrap n))
  | _ => none

def pickV (c a b : AV) : Option AV :=
  match c with
  | .bool true => some a
  | .bool false => some b
  | _ => none

def isTup : AV → Bool
  | .tup _ => true
  | .und => true
  | _ => false

def fillC : List (Nat × Nat × AV) → List AV → Option (List AV)
  | [], cs => some cs
  | (off, n, v) :: r, cs => if isTup v = false ∧ (cellsOf v).length = n ∧ off + n ≤ cs.length then fillC r (setC cs off (cellsOf v)) else none

def partsE (e : Env) : List (Nat × Nat × Opd) → List (Nat × Nat × AV)
  | [] => []
  | (o, n, x) :: r => (o, n, x.ev e) :: partsE e r

def buildV (zero : List AV) (parts : List (Nat × Nat × AV)) : Option AV := (fillC parts zero).bind fun cs => some (.agg cs)

def elemsE (e : Env) : List (Opd ⊕ List AV) → List (List AV)
  | [] => []
  | .inl x :: r => cellsOf (x.ev e) :: elemsE e r
  | .inr cs :: r => cs :: elemsE e r

def immRows (sz : Nat) : List (List AV) → Option (List (List AV))
  | [] => some []
  | x :: xs => if x.length = sz then (imms x).bind fun x' => (immRows sz xs).bind fun xs' => some (x' :: xs') else none

def bsliceV (sz : Nat) (rows : List (List AV)) : Option AV := (immRows sz rows).bind fun xs => some (.sl xs .full)

def nilcV : AV → Option AV
  | .ip cs o => some (.ip cs o)
  | .ptr i o => some (.ptr i o)
  | .clo f c => some (.clo f c)
  | _ => none

def intOf? : AV → Option Int
  | .int _ n => some n
  | _ => none

/-- A bound of a slice expression: 0 ≤ n ≤ most. -/
def bound (x : Option AV) (most dflt : Nat) : Option Nat :=
  match x with
  | none => some dflt
  | some (.int _ n) => if 0 ≤ n ∧ n ≤ most then some n.toNat else none
  | some _ => none

def sliceTok (hi mx : Option AV) (t : Tok) : Tok :=
  match mx, hi, t with
  | some _, _, _ => .full
  | none, none, .full => .full
  | _, _, _ => .none

/-- With three indexes: the third is the second. -/
def mxFits (mx : Option AV) (h : Nat) : Bool :=
  match mx with
  | none => true
  | some (.int _ n) => n == (h : Int)
  | some _ => false

/-- The rows are of a width. -/
def szOK (sz : Nat) : List (List AV) → Bool
  | [] => true
  | x :: _ => Nat.beq x.length sz

def sliceV (sz : Nat) (x : AV) (lo hi mx : Option AV) : Option AV :=
  match x with
  | .sl xs t => (bound hi xs.length xs.length).bind fun h => (bound lo h 0).bind fun l => bif mxFits mx h && szOK sz xs then some (.sl ((xs.take h).drop l) (sliceTok hi mx t)) else none
  | .osl i off len s => (bound hi len len).bind fun h => (bound lo h 0).bind fun l => bif mx.isNone && Nat.beq s sz then some (.osl i (off + l * sz) (h - l) sz) else none
  | _ => none

def sliceSV (x : AV) (lo hi : Option AV) : Option AV :=
  match x with
  | .str s => (bound hi s.length s.length).bind fun h => (bound lo h 0).bind fun l => some (.str ((s.take h).drop l))
  | _ => none

def chunks (sz : Nat) (cs : List AV) : Nat → List (List AV)
  | 0 => []
  | n + 1 => cs.take sz :: chunks sz (cs.drop sz) n

def sliceAV (sz n : Nat) (x : AV) (lo hi : Option AV) (S : Store) : Option AV :=
  (bound hi n n).bind fun h => (bound lo h 0).bind fun l =>
  match x with
  | .ip cs off => if off + n * sz ≤ cs.length then some (.sl (((chunks sz (cs.drop off) n).take h).drop l) .none) else none
  | .ptr i off =>
    match S[i]? with
    | some (.obj cs) => if off + n * sz ≤ cs.length then some (.osl i (off + l * sz) (h - l) sz) else none
    | _ => none
  | _ => none

def fieldAV (off : Nat) : AV → Option AV
  | .ip cs o => some (.ip cs (o + off))
  | .ptr i o => some (.ptr i (o + off))
  | _ => none

def fieldV (off : Nat) (n : Option Nat) : AV → Option AV
  | .agg cs => takeC n cs off
  | _ => none

def at? {α : Type} (xs : List α) (i : Int) : Option α := if 0 ≤ i then xs[i.toNat]? else none

def indexAV (sz : Nat) (arr : Option Nat) (x i : AV) : Option AV :=
  match arr, x, i with
  | some n, .ip cs o, .int _ k => if 0 ≤ k ∧ k < n then some (.ip cs (o + k.toNat * sz)) else none
  | some n, .ptr j o, .int _ k => if 0 ≤ k ∧ k < n then some (.ptr j (o + k.toNat * sz)) else none
  | none, .sl xs _, .int _ k => (at? xs k).bind fun cs => if cs.length = sz then some (.ip cs 0) else none
  | none, .osl j o l s, .int _ k => if 0 ≤ k ∧ k < l ∧ s = sz then some (.ptr j (o + k.toNat * sz)) else none
  | _, _, _ => none

def indexV (sz len : Nat) (agg : Bool) (x i : AV) : Option AV :=
  match x, i with
  | .agg cs, .int _ k => if 0 ≤ k ∧ k < len then takeC (bif agg then some sz else none) cs (k.toNat * sz) else none
  | _, _ => none

def indexSV (x i : AV) : Option AV :=
  match x, i with
  | .str s, .int _ k => (at? s k).bind fun b => some (.int .u8 b.toNat)
  | _, _ => none

def extractV (x : AV) (i : Nat) : Option AV :=
  match x with
  | .tup vs => vs[i]?
  | _ => none

def max2 (a b : Int) : Int := if b > a then b else a
def min2 (a b : Int) : Int := if b < a then b else a

def minmaxGo (mx : Bool) (k : IntKind) (a : Int) : List AV → Option AV
  | [] => some (.int k a)
  | .int k' b :: r => if k = k' then minmaxGo mx k (bif mx then max2 a b else min2 a b) r else none
  | _ => none

def minmaxV (mx : Bool) : List AV → Option AV
  | .int k a :: r => minmaxGo mx k a r
  | _ => none

/-- string(b) of a small number. -/
def ofIntV : AV → Option AV
  | .int _ n => if 0 ≤ n ∧ n < 128 then some (.str [UInt8.ofNat n.toNat]) else none
  | _ => none

/-! ### Operations on the store -/

def loadV (n : Option Nat) (a : AV) (S : Store) : Option AV :=
  match a with
  | .ip cs o => takeC n cs o
  | .ptr i o =>
    match S[i]? with
    | some (.obj cs) => takeC n cs o
    | _ => none
  | _ => none

/-- A load out of the entry that another pointer points to. -/
def loadRV (n : Option Nat) (a r : AV) (S : Store) : Option AV :=
  match a, r with
  | .ptr i o, .ptr j _ => bif Nat.beq i j then loadV n (.ptr i o) S else none
  | _, _ => none

/-- A load out of memory that nobody writes. -/
def loadIV (n : Option Nat) (a : AV) : Option AV :=
  match a with
  | .ip cs o => takeC n cs o
  | _ => none

def storeV (b n : Nat) (a v : AV) (S : Store) : Option Store :=
  match a with
  | .ptr i o =>
    match S[i]? with
    | some (.obj cs) => (bif Nat.blt i b then lows i (cellsOf v) else cells1 (cellsOf v)).bind fun vs => if (cellsOf v).length = n ∧ o + n ≤ cs.length then some (S.set i (.obj (setC cs o vs))) else none
    | _ => none
  | _ => none

/-- The rows that a slice holds: its own, or those of the store's entry. -/
def rowsOf (x : AV) (S : Store) : Option (List (List AV)) :=
  match x with
  | .sl xs _ => some xs
  | .osl i o l sz =>
    match S[i]? with
    | some (.obj cs) => if o + l * sz ≤ cs.length then some (chunks sz (cs.drop o) l) else none
    | _ => none
  | .str s => some (s.map fun b => [.int .u8 b.toNat])
  | _ => none

def lenV (x : AV) : Option AV :=
  match x with
  | .sl xs _ => some (i64 xs.length)
  | .osl _ _ l _ => some (i64 l)
  | _ => none

def lenSV (x : AV) : Option AV :=
  match x with
  | .str s => some (i64 s.length)
  | _ => none

def lenMV (x : AV) (S : Store) : Option AV :=
  match x with
  | .map i =>
    match S[i]? with
    | some (.map es) => some (i64 es.length)
    | _ => none
  | _ => none

def room : Nat := 4294967296

def appendV (sz : Nat) (x y : AV) (S : Store) : Option (AV × Store) :=
  match x with
  | .sl xs t => (rowsOf y S).bind fun ys0 => (immRows sz ys0).bind fun ys =>
    match ys with
    | [] => some (.sl xs t, S)
    | ys => if xs.length + ys.length ≤ room then
        match t with
        | .none => none
        | .full => bif szOK sz xs then some (.sl (xs ++ ys) (.own S.length), S ++ [.tail (xs.length + ys.length) sz]) else none
        | .own i =>
          match S[i]? with
          | some (.tail n s) => if n = xs.length ∧ s = sz then some (.sl (xs ++ ys) (.own i), S.set i (.tail (n + ys.length) sz)) else none
          | _ => none
      else none
  | _ => none

/-- append for a row that is written in place: to an empty slice without room, or to a row that is written already: the elder row is given up. -/
def appendMV (sz : Nat) (x y : AV) (S : Store) : Option (AV × Store) :=
  match x with
  | .sl [] .full => (rowsOf y S).bind fun ys0 => (immRows sz ys0).bind fun ys =>
    if ys.length ≤ room then (bif ys.isEmpty then some (.sl [] .full, S) else some (.osl S.length 0 ys.length sz, S ++ [.obj ys.flatten])) else none
  | .osl i 0 l s =>
    match S[i]? with
    | some (.obj cs) => (rowsOf y S).bind fun ys0 => (immRows sz ys0).bind fun ys =>
      if s = sz ∧ 0 < l ∧ l * sz ≤ cs.length ∧ l + ys.length ≤ room then some (.osl S.length 0 (l + ys.length) sz, S.set i .dead ++ [.obj (cs.take (l * sz) ++ ys.flatten)]) else none
    | _ => none
  | _ => none

def ownV (sz : Nat) (x : AV) (S : Store) : Option (AV × Store) :=
  match x with
  | .sl xs .full => bif szOK sz xs then some (.sl xs (.own S.length), S ++ [.tail xs.length sz]) else none
  | .sl xs t => some (.sl xs t, S)
  | _ => none

def ownCellV (sz j : Nat) (x : AV) (S : Store) : Option (AV × Store) :=
  match x with
  | .agg cs =>
    match cs[j]? with
    | some (.sl xs .full) => bif szOK sz xs then some (.agg (cs.set j (.sl xs (.own S.length))), S ++ [.tail xs.length sz]) else none
    | _ => none
  | _ => none

def disownV (x : AV) : Option AV :=
  match x with
  | .sl xs _ => some (.sl xs .none)
  | _ => none

def mtailV (sz : Nat) (cap : AV) (S : Store) : Option (AV × Store) :=
  match cap with
  | .int _ n => if 0 ≤ n ∧ n ≤ room then some (.sl [] (.own S.length), S ++ [.tail 0 sz]) else none
  | _ => none

def msliceV (zero : List AV) (len cap : AV) (S : Store) : Option (AV × Store) :=
  match len, cap with
  | .int _ l, .int _ c => if 0 ≤ l ∧ l ≤ c ∧ c ≤ room then some (.osl S.length 0 l.toNat zero.length, S ++ [.obj (List.replicate c.toNat zero).flatten]) else none
  | _, _ => none

def isOsl : AV → Bool
  | .osl _ _ _ _ => true
  | _ => false

/-- The rows of a slice over an entry, for good: the entry is given up. Of a value of many cells the first such slice. -/
def freezeV (x : AV) (S : Store) : Option (AV × Store) :=
  match x with
  | .osl i o l sz => (rowsOf (.osl i o l sz) S).bind fun xs => (immRows sz xs).bind fun ys => some (.sl ys .none, S.set i .dead)
  | .agg cs =>
    match cs[cs.findIdx isOsl]? with
    | some (.osl i o l sz) => (rowsOf (.osl i o l sz) S).bind fun xs => (immRows sz xs).bind fun ys => some (.agg (cs.set (cs.findIdx isOsl) (.sl ys .none)), S.set i .dead)
    | _ => some (.agg cs, S)
  | .sl xs t => some (.sl xs t, S)
  | _ => none

def bytesOf : List AV → Option (List UInt8)
  | [] => some []
  | .int .u8 n :: r => (bytesOf r).bind fun s => some (UInt8.ofNat n.toNat :: s)
  | _ => none

def toBytesV (x : AV) (S : Store) : Option (AV × Store) :=
  match x with
  | .str s => some (.osl S.length 0 s.length 1, S ++ [.obj (s.map fun b => .int .u8 b.toNat)])
  | _ => none

def ofBytesV (x : AV) (S : Store) : Option AV :=
  match x with
  | .str _ => none
  | x => (rowsOf x S).bind fun xs => (immRows 1 xs).bind fun ys => (bytesOf ys.flatten).bind fun s => some (.str s)

/-- Where a key stands. -/
def findI (ag : Bool) (ks : List Nat) (k : AV) : List (AV × AV) → Nat → Option (Option Nat)
  | [], _ => (eqKey ag ks k k).bind fun _ => some none
  | e :: r, i => (eqKey ag ks k e.1).bind fun b => bif b then some (some i) else findI ag ks k r (i + 1)

def immV : AV → Option AV
  | .agg cs => (imms cs).bind fun cs' => some (.agg cs')
  | v => imm1 v

/-- A map's element, as_ it may lie in the entry i. -/
def valM (b i : Nat) : AV → Option AV
  | .agg cs => (bif Nat.blt i b then lows i cs else cells1 cs).bind fun cs' => some (.agg cs')
  | v => bif Nat.blt i b then low1 i v else cell1 v

def lookupV (zero : AV) (ag : Bool) (ks : List Nat) (m k : AV) (ok : Bool) (S : Store) : Option AV :=
  match m with
  | .map i =>
    match S[i]? with
    | some (.map es) => (findI ag ks k es 0).bind fun r =>
      match r with
      | some j => (es[j]?).bind fun e => some (bif ok then .tup [e.2, .bool true] else e.2)
      | none => some (bif ok then .tup [zero, .bool false] else zero)
    | _ => none
  | _ => none

def mapSetV (b : Nat) (ag : Bool) (ks : List Nat) (m k v : AV) (S : Store) : Option Store :=
  match m with
  | .map i =>
    match S[i]? with
    | some (.map es) => (immV k).bind fun k' => (valM b i v).bind fun v' => (findI ag ks k es 0).bind fun r =>
      some (S.set i (.map (match r with | some j => es.set j (k', v') | none => es ++ [(k', v')])))
    | _ => none
  | _ => none

/-- The place of a key, made if it is not there; and its number. -/
def mapEntryV (zero : AV) (ag : Bool) (ks : List Nat) (m k : AV) (S : Store) : Option (AV × Store) :=
  match m with
  | .map i =>
    match S[i]? with
    | some (.map es) => (immV k).bind fun k' => (findI ag ks k es 0).bind fun r =>
      match r with
      | some j => (es[j]?).bind fun e => some (.tup [e.2, i64 j], S.set i (.map (es.set j (k', e.2))))
      | none => some (.tup [zero, i64 es.length], S.set i (.map (es ++ [(k', zero)])))
    | _ => none
  | _ => none

def entryStoreV (b : Nat) (m st v : AV) (S : Store) : Option Store :=
  match m, st with
  | .map i, .int _ n =>
    match S[i]? with
    | some (.map es) => (at? es n).bind fun e => (valM b i v).bind fun v' => some (S.set i (.map (es.set n.toNat (e.1, v'))))
    | _ => none
  | _, _ => none

def rangeV (m : AV) (S : Store) : Option (AV × Store) :=
  match m with
  | .map i =>
    match S[i]? with
    | some (.map es) => some (.ptr S.length 0, S ++ [.iter i es.length []])
    | _ => none
  | _ => none

/-- What a walk's next step may meet: the key, the element, and the store behind the step. -/
def stepI (it : AV) (S : Store) : Option (List (AV × AV × Store)) :=
  match it with
  | .ptr i 0 =>
    match S[i]? with
    | some (.iter m n seen) =>
      match S[m]? with
      | some (.map es) => if es.length = n then some (((List.range n).filter fun j => !memN j seen).map fun j => ((es.getD j (.u, .u)).1, (es.getD j (.u, .u)).2, S.set i (.iter m n (seen ++ [j])))) else none
      | _ => none
    | _ => none
  | _ => none

/-- The walk is over. -/
def killI (it : AV) (S : Store) : Store :=
  match it with
  | .ptr i _ => S.set i .dead
  | _ => S

/-- The element at which a walk stands. -/
def entryV (it : AV) (S : Store) : Option AV :=
  match it with
  | .ptr i 0 =>
    match S[i]? with
    | some (.iter m n seen) =>
      match S[m]?, seen.getLast? with
      | some (.map es), some j => if es.length = n then (es[j]?).bind fun e => some (.tup [e.1, e.2]) else none
      | _, _ => none
    | _ => none
  | _ => none

/-! ### Calls -/

abbrev CallEnv := Nat → List AV → Store → Option (AV × Store)

def argV : AV → Option AV
  | .agg cs => (imms cs).bind fun cs' => some (.agg cs')
  | .tup _ => none
  | v => some v

def argVs : List AV → Option (List AV)
  | [] => some []
  | c :: cs => (argV c).bind fun c' => (argVs cs).bind fun cs' => some (c' :: cs')

def opds (e : Env) : List Opd → List AV
  | [] => []
  | x :: r => x.ev e :: opds e r

open Classical in
/-- A call that leaves the store as_ it was. -/
noncomputable def still (S : Store) (r : AV × Store) : Option AV := if r.2 = S then some r.1 else none

def avoidB (i : Nat) : List AV → Bool
  | [] => true
  | .ptr j _ :: r => !Nat.beq j i && avoidB i r
  | .ip _ _ :: r => avoidB i r
  | _ => false

open Classical in
/-- A call that turns the object of its first argument alone. -/
noncomputable def onlyV (as_ av : List AV) (S : Store) (r : AV × Store) : Option (AV × Store) :=
  match as_ with
  | .ptr i _ :: _ => if (∃ x, r.2 = S.set i x) ∧ avoidB i av = true then some r else none
  | _ => none

def ghK (g : Gh) (v : AV) (S : Store) {ρ : Type} (K : AV → Store → Option ρ) : Option ρ :=
  match g with
  | .own sz => (ownV sz v S).bind fun r => K r.1 r.2
  | .ownCell sz j => (ownCellV sz j v S).bind fun r => K r.1 r.2
  | .disown => (disownV v).bind fun r => K r S
  | .freeze => (freezeV v S).bind fun r => K r.1 r.2

/-- One operation: what it yields, and the store behind it, handed on to K. -/
noncomputable def evalK (C : CallEnv) (b : Nat) (o : SOp) (e : Env) (S : Store) {ρ : Type} (K : AV → Store → Option ρ) : Option ρ :=
  match o with
  | .mv x => K (x.ev e) S
  | .pick c a b => (pickV (c.ev e) (a.ev e) (b.ev e)).bind fun v => K v S
  | .bin op x y => (binV op (x.ev e) (y.ev e)).bind fun v => K v S
  | .binB op x y => (binBV op (x.ev e) (y.ev e)).bind fun v => K v S
  | .eqc neg ks x y => (eqcV neg ks (x.ev e) (y.ev e)).bind fun v => K v S
  | .un op x => (unV op (x.ev e)).bind fun v => K v S
  | .conv k x => (convV k (x.ev e)).bind fun v => K v S
  | .alloc zero => K (.ptr S.length 0) (S ++ [.obj zero])
  | .allocP _ => K .u S
  | .boxP x => (imms (cellsOf (x.ev e))).bind fun cs => K (.ip cs 0) S
  | .boxM x => (cells1 (cellsOf (x.ev e))).bind fun cs => K (.ptr S.length 0) (S ++ [.obj cs])
  | .build zero parts => (buildV zero (partsE e parts)).bind fun v => K v S
  | .bslice sz elems => (bsliceV sz (elemsE e elems)).bind fun v => K v S
  | .bsliceM sz elems => (immRows sz (elemsE e elems)).bind fun xs => K (.osl S.length 0 xs.length sz) (S ++ [.obj xs.flatten])
  | .load n a => (loadV n (a.ev e) S).bind fun v => K v S
  | .loadR n a r => (loadRV n (a.ev e) (e.get r) S).bind fun v => K v S
  | .loadI n a => (loadIV n (a.ev e)).bind fun v => K v S
  | .store n a v => (storeV b n (a.ev e) (v.ev e) S).bind fun S' => K .u S'
  | .storeP n _ v => (imms (cellsOf (v.ev e))).bind fun cs => if cs.length = n then K (.ip cs 0) S else none
  | .storeN n _ v => (cells1 (cellsOf (v.ev e))).bind fun cs => if cs.length = n then K (.ptr S.length 0) (S ++ [.obj cs]) else none
  | .nilc x => (nilcV (x.ev e)).bind fun v => K v S
  | .mslice zero len cap => (msliceV zero (len.ev e) (cap.ev e) S).bind fun r => K r.1 r.2
  | .mtail sz cap => (mtailV sz (cap.ev e) S).bind fun r => K r.1 r.2
  | .slice sz x lo hi mx => (sliceV sz (x.ev e) (lo.map (·.ev e)) (hi.map (·.ev e)) (mx.map (·.ev e))).bind fun v => K v S
  | .sliceS x lo hi => (sliceSV (x.ev e) (lo.map (·.ev e)) (hi.map (·.ev e))).bind fun v => K v S
  | .sliceA sz n x lo hi => (sliceAV sz n (x.ev e) (lo.map (·.ev e)) (hi.map (·.ev e)) S).bind fun v => K v S
  | .fieldA off x => (fieldAV off (x.ev e)).bind fun v => K v S
  | .field off n x => (fieldV off n (x.ev e)).bind fun v => K v S
  | .indexA sz arr x i => (indexAV sz arr (x.ev e) (i.ev e)).bind fun v => K v S
  | .index sz len agg x i => (indexV sz len agg (x.ev e) (i.ev e)).bind fun v => K v S
  | .indexS x i => (indexSV (x.ev e) (i.ev e)).bind fun v => K v S
  | .lenS x => (lenSV (x.ev e)).bind fun v => K v S
  | .len x => (lenV (x.ev e)).bind fun v => K v S
  | .lenM x => (lenMV (x.ev e) S).bind fun v => K v S
  | .append sz x y => (appendV sz (x.ev e) (y.ev e) S).bind fun r => K r.1 r.2
  | .appendM sz x y => (appendMV sz (x.ev e) (y.ev e) S).bind fun r => K r.1 r.2
  | .toBytes x => (toBytesV (x.ev e) S).bind fun r => K r.1 r.2
  | .ofBytes x => (ofBytesV (x.ev e) S).bind fun v => K v S
  | .ofInt x => (ofIntV (x.ev e)).bind fun v => K v S
  | .extract x i => (extractV (x.ev e) i).bind fun v => K v S
  | .mkclo f caps => (cells1 (opds e caps)).bind fun cs => K (.clo f cs) S
  | .call f args => (argVs (opds e args)).bind fun as_ => (C f as_ S).bind fun r => K r.1 r.2
  | .callP f args => (argVs (opds e args)).bind fun as_ => ((C f as_ S).bind (still S)).bind fun v => K v S
  | .callO f args av => (argVs (opds e args)).bind fun as_ => ((C f as_ S).bind (onlyV as_ (e.gets av) S)).bind fun r => K r.1 r.2
  | .callV fv args =>
    match fv.ev e with
    | .clo f caps => (argVs (opds e args)).bind fun as_ => (C f (as_ ++ caps) S).bind fun r => K r.1 r.2
    | _ => none
  | .minmax mx args => (minmaxV mx (opds e args)).bind fun v => K v S
  | .makeMap => K (.map S.length) (S ++ [.map []])
  | .lookup zero ag ks m k ok => (lookupV zero ag ks (m.ev e) (k.ev e) ok S).bind fun v => K v S
  | .mapSet ag ks m k v => (mapSetV b ag ks (m.ev e) (k.ev e) (v.ev e) S).bind fun S' => K .u S'
  | .mapEntry zero ag ks m k => (mapEntryV zero ag ks (m.ev e) (k.ev e) S).bind fun r => K r.1 r.2
  | .entryStore m st v => (entryStoreV b (m.ev e) (st.ev e) (v.ev e) S).bind fun S' => K .u S'
  | .range m => (rangeV (m.ev e) S).bind fun r => K r.1 r.2
  | .entry it => (entryV (it.ev e) S).bind fun v => K v S
  | .fail => none
  | .post o g => evalK C b o e S fun v S' => ghK g v S' K

/-- The slot that an operation writes in the environment. -/
def SOper.to (o : SOper) : Option Nat :=
  match o.op with
  | .storeP _ t _ => some t
  | .storeN _ t _ => some t
  | _ => o.dst

def guardK {ρ : Type} (g : AV) (want : Bool) (m skip : Option ρ) : Option ρ :=
  match g with
  | .bool b => if b = want then m else skip
  | .und => skip
  | _ => none

/-- What a guarded operation yields, as_ a pair: so that what follows stands once. -/
noncomputable def runOp (C : CallEnv) (b : Nat) (o : SOper) {ρ : Type} (K : Env → Store → Option ρ) (e : Env) (S : Store) : Option ρ :=
  match o.guard with
  | none => evalK C b o.op e S fun v S' => K (e.put o.to v) S'
  | some (g, want) => (guardK (e.get g) want (evalK C b o.op e S fun v S' => some (v, S')) (some (.und, S))).bind fun r => K (e.put o.to r.1) r.2

noncomputable def runOps (C : CallEnv) (b : Nat) (l : List SOper) {ρ : Type} (K : Env → Store → Option ρ) : Env → Store → Option ρ :=
  List.rec (motive := fun _ => Env → Store → Option ρ) K (fun o _ ih => runOp C b o ih) l

theorem runOps_nil {C : CallEnv} {b : Nat} {ρ : Type} {K : Env → Store → Option ρ} : runOps C b [] K = K := rfl
theorem runOps_cons {C : CallEnv} {b : Nat} {o : SOper} {os : List SOper} {ρ : Type} {K : Env → Store → Option ρ} : runOps C b (o :: os) K = runOp C b o (runOps C b os K) := rfl

/-! ### Rounds -/

section
variable {σ τ : Type}
def iterN (step : σ → Option (σ ⊕ τ)) : Nat → σ → Option τ
  | 0, _ => none
  | n + 1, s => (step s).bind fun | .inl s' => iterN step n s' | .inr r => some r

open Classical in
/-- The end of a loop, if it has one. -/
noncomputable def iter (step : σ → Option (σ ⊕ τ)) (s : σ) : Option τ :=
  if h : ∃ r n, iterN step n s = some r then some (Classical.choose h) else none

theorem iterN_mono {step : σ → Option (σ ⊕ τ)} {n m : Nat} {s : σ} {r : τ} (h : iterN step n s = some r) (hm : n ≤ m) : iterN step m s = some r := by
  induction n generalizing m s with
  | zero => simp [iterN] at h
  | succ n ih =>
    obtain ⟨m, rfl⟩ : ∃ k, m = k + 1 := ⟨m - 1, by omega⟩
    simp only [iterN] at *
    cases hs : step s with
    | none => simp [hs] at h
    | some x =>
      cases x with
      | inl s' => simp only [hs, Option.bind_some] at *; exact ih h (by omega)
      | inr t => simpa [hs] using h

theorem iter_of {step : σ → Option (σ ⊕ τ)} {n : Nat} {s : σ} {r : τ} (h : iterN step n s = some r) : iter step s = some r := by
  have hx : ∃ r n, iterN step n s = some r := ⟨r, n, h⟩
  unfold iter
  rw [dif_pos hx]
  obtain ⟨m, hm⟩ := Classical.choose_spec hx
  have h1 := iterN_mono h (Nat.le_max_left n m)
  have h2 := iterN_mono hm (Nat.le_max_right n m)
  rw [h1] at h2
  exact h2.symm

theorem iter_some {step : σ → Option (σ ⊕ τ)} {s : σ} {r : τ} (h : iter step s = some r) : ∃ n, iterN step n s = some r := by
  unfold iter at h
  split at h
  · rename_i hx
    obtain ⟨n, hn⟩ := Classical.choose_spec hx
    exact ⟨n, by rw [hn]; exact h⟩
  · cases h

theorem iter_eq (step : σ → Option (σ ⊕ τ)) (s : σ) : iter step s = (step s).bind fun | .inl s' => iter step s' | .inr r => some r := by
  cases hs : step s with
  | none =>
    simp only [Option.bind_none]
    cases h : iter step s with
    | none => rfl
    | some r =>
      obtain ⟨n, hn⟩ := iter_some h
      cases n with
      | zero => simp [iterN] at hn
      | succ n => simp [iterN, hs] at hn
  | some x =>
    cases x with
    | inr t => exact iter_of (n := 1) (by simp [iterN, hs])
    | inl s' =>
      simp only [Option.bind_some]
      cases h : iter step s' with
      | some r =>
        obtain ⟨n, hn⟩ := iter_some h
        exact iter_of (n := n + 1) (by simp [iterN, hs, hn])
      | none =>
        cases h2 : iter step s with
        | none => rfl
        | some r =>
          obtain ⟨n, hn⟩ := iter_some h2
          cases n with
          | zero => simp [iterN] at hn
          | succ n =>
            simp only [iterN, hs, Option.bind_some] at hn
            rw [iter_of hn] at h
            cases h

end

/-! ### Code -/

inductive Ex where
  | normal
  | exit (id : Nat)
  | ret

inductive SCode where
  | skip
  | ops (l : List SOper)
  | seq (a b : SCode)
  | cond (c : Opd) (a b : SCode)
  | block (id : Nat) (body : SCode)
  /-- 'live': the slots that a round hands to the next · 'inv': those that it only reads · 'outs': those that it writes and that are read behind it · 'pass': those behind it that it does not write. -/
  | loop (live inv outs pass : List Nat) (body : SCode)
  /-- a walk over a map, in whatever order: 'it': the walk · 'tup', 'ok': what its step writes · the rest as_ a loop's -/
  | range (it tup ok : Nat) (live inv outs pass : List Nat) (body : SCode)
  | exit (id : Nat)
  | ret

def condK {ρ : Type} (c : AV) (x y : Option ρ) : Option ρ :=
  match c with
  | .bool b => if b = true then x else y
  | _ => none

def below (n : Nat) : AV → Bool
  | .sl _ (.own i) => Nat.blt i n
  | .ptr i _ => Nat.blt i n
  | .osl i _ _ _ => Nat.blt i n
  | .map i => Nat.blt i n
  | .clo _ caps => caps.attach.all fun ⟨c, _⟩ => below n c
  | .agg cs => cs.attach.all fun ⟨c, _⟩ => below n c
  | .tup vs => vs.attach.all fun ⟨c, _⟩ => below n c
  | _ => true

def belows (n : Nat) : List AV → Bool
  | [] => true
  | v :: vs => below n v && belows n vs

def belowsM (n : Nat) : List (AV × AV) → Bool
  | [] => true
  | e :: es => below n e.2 && belowsM n es

def entBelow (n : Nat) : Ent → Bool
  | .obj cs => belows n cs
  | .map es => belowsM n es
  | .iter m _ _ => Nat.blt m n
  | _ => true

def entsBelow (n : Nat) : List Ent → Bool
  | [] => true
  | x :: xs => entBelow n x && entsBelow n xs

/-- A loop's next round: the store is cut back to its height at the round's begin, if nothing points behind it (b: the height at the function's begin). -/
def nextS (b n : Nat) (vs : List AV) (S : Store) : Option (List AV × Store) :=
  if (belows n vs && entsBelow n ((S.take n).drop b)) = true then some (vs, S.take n) else some (vs, S)

def envOf : List Nat → List AV → Nat → Env → Env
  | [], _, _, e => e
  | k :: ks, vs, i, e => fun n => bif Nat.beq k n then vs.getD i .u else envOf ks vs (i + 1) e n

/-- By how a piece of code ends. (That its text names 'runOps' makes the kernel lay it open ahead of what the printed functions are made of.) -/
noncomputable def exK {κ : Type} (n : κ) (x : Nat → κ) (r : κ) (e : Ex) : κ :=
  let _ := @runOps
  match e with
  | .normal => n
  | .exit i => x i
  | .ret => r

open Classical in
/-- What all ways come to, if there is one and they agree. -/
noncomputable def agree {α ρ : Type} : List α → (α → Option ρ) → Option ρ
  | [], _ => none
  | a :: l, f => (f a).bind fun r => if ∀ y ∈ l, f y = some r then some r else none

theorem agree_some {α ρ : Type} {l : List α} {f : α → Option ρ} {r : ρ} : agree l f = some r ↔ l ≠ [] ∧ ∀ y ∈ l, f y = some r := by
  cases l with
  | nil => simp [agree]
  | cons a l =>
    simp only [agree, Option.bind_eq_some_iff]
    constructor
    · rintro ⟨r', h1, h2⟩
      split at h2
      · rename_i h3
        cases h2
        exact ⟨by simp, fun y hy => by rcases List.mem_cons.1 hy with rfl | h4; exact h1; exact h3 y h4⟩
      · cases h2
    · rintro ⟨_, h⟩
      exact ⟨r, h a (by simp), if_pos fun y hy => h y (by simp [hy])⟩

/-- A walk over a map: 'body' takes what the step yields, the values that a round hands to the next, the store, and the next round. -/
noncomputable def rangeK {ρ : Type} (it : AV) (body : AV → AV → List AV → Store → (List AV → Store → Option ρ) → Option ρ) : Nat → List AV → Store → Option ρ
  | 0, vs, S => match stepI it S with
    | some [] => body (.tup [.bool false]) (.bool false) vs (killI it S) fun _ _ => none
    | _ => none
  | n + 1, vs, S => (stepI it S).bind fun l => agree l fun c => body (.tup [.bool true, c.1, c.2.1]) (.bool true) vs c.2.2 fun vs' S' => rangeK it body n vs' S'

/-- How many steps are left. -/
def leftI (it : AV) (S : Store) : Nat := ((stepI it S).getD []).length

section
variable {κ : Type} {n : κ} {x : Nat → κ} {r : κ}
@[simp] theorem exK_normal : exK n x r .normal = n := rfl
@[simp] theorem exK_exit {i : Nat} : exK n x r (.exit i) = x i := rfl
@[simp] theorem exK_ret : exK n x r .ret = r := rfl
end

abbrev DenT : Type 1 := {ρ : Type} → (Ex → Env → Store → Option ρ) → Env → Store → Option ρ

/-- (By the recursor itself: so the kernel reckons it without detours.) -/
noncomputable def den (C : CallEnv) (b : Nat) (c : SCode) : DenT :=
  SCode.rec (motive := fun _ => DenT)
    (fun {_} K => K .normal)
    (fun l {_} K => runOps C b l (K .normal))
    (fun _ _ dx dy {_} K => dx (exK (dy K) (fun i => K (.exit i)) (K .ret)))
    (fun c _ _ dx dy {_} K e S => condK (c.ev e) (dx K e S) (dy K e S))
    (fun id _ dx {_} K => dx (exK (K .normal) (fun i e S => bif Nat.beq i id then K .normal e S else K (.exit i) e S) (K .ret)))
    (fun live inv outs pass _ dx {_} K e S =>
      (iter (σ := List AV × Store) (τ := Ex × List AV × Store) (fun s =>
          dx (exK (fun e' S' => (nextS b s.2.length (e'.gets live) S').bind fun r => some (.inl r))
              (fun i e' S' => some (.inr (.exit i, e'.gets outs, S')))
              (fun e' S' => some (.inr (.ret, e'.gets outs, S'))))
          (envOf live s.1 0 (e.only inv)) s.2)
        (e.gets live, S)).bind fun r => exK none (fun i => K (.exit i) (envOf outs r.2.1 0 (e.only pass)) r.2.2) (K .ret (envOf outs r.2.1 0 (e.only pass)) r.2.2) r.1)
    (fun it tup ok live inv outs pass _ dx {_} K e S =>
      rangeK (e.get it) (fun t o vs S' Kn => dx (exK (fun e' S'' => Kn (e'.gets live) S'')
          (fun i e' S'' => K (.exit i) (envOf outs (e'.gets outs) 0 (e.only pass)) S'')
          (fun e' S'' => K .ret (envOf outs (e'.gets outs) 0 (e.only pass)) S''))
        (((envOf live vs 0 (e.only inv)).put (some tup) t).put (some ok) o) S') (leftI (e.get it) S) (e.gets live) S)
    (fun id {_} K => K (.exit id))
    (fun {_} K => K .ret)
    c

section
variable {C : CallEnv} {b : Nat} {ρ : Type} {K : Ex → Env → Store → Option ρ}
theorem den_skip : den C b .skip K = K .normal := rfl
theorem den_ops {l : List SOper} : den C b (.ops l) K = runOps C b l (K .normal) := rfl
theorem den_seq {x y : SCode} : den C b (.seq x y) K = den C b x (exK (den C b y K) (fun i => K (.exit i)) (K .ret)) := rfl
theorem den_cond {c : Opd} {x y : SCode} {e : Env} {S : Store} : den C b (.cond c x y) K e S = condK (c.ev e) (den C b x K e S) (den C b y K e S) := rfl
theorem den_block {id : Nat} {x : SCode} : den C b (.block id x) K = den C b x (exK (K .normal) (fun i e S => bif Nat.beq i id then K .normal e S else K (.exit i) e S) (K .ret)) := rfl
theorem den_loop {live inv outs pass : List Nat} {x : SCode} {e : Env} {S : Store} : den C b (.loop live inv outs pass x) K e S =
    (iter (σ := List AV × Store) (τ := Ex × List AV × Store) (fun s =>
        den C b x (exK (fun e' S' => (nextS b s.2.length (e'.gets live) S').bind fun r => some (.inl r))
            (fun i e' S' => some (.inr (.exit i, e'.gets outs, S')))
            (fun e' S' => some (.inr (.ret, e'.gets outs, S'))))
        (envOf live s.1 0 (e.only inv)) s.2)
      (e.gets live, S)).bind fun r => exK none (fun i => K (.exit i) (envOf outs r.2.1 0 (e.only pass)) r.2.2) (K .ret (envOf outs r.2.1 0 (e.only pass)) r.2.2) r.1 := rfl
theorem den_range {it tup ok : Nat} {live inv outs pass : List Nat} {x : SCode} {e : Env} {S : Store} : den C b (.range it tup ok live inv outs pass x) K e S =
    rangeK (e.get it) (fun t o vs S' Kn => den C b x (exK (fun e' S'' => Kn (e'.gets live) S'')
          (fun i e' S'' => K (.exit i) (envOf outs (e'.gets outs) 0 (e.only pass)) S'')
          (fun e' S'' => K .ret (envOf outs (e'.gets outs) 0 (e.only pass)) S''))
        (((envOf live vs 0 (e.only inv)).put (some tup) t).put (some ok) o) S') (leftI (e.get it) S) (e.gets live) S := rfl
theorem den_exit {id : Nat} : den C b (.exit id) K = K (.exit id) := rfl
theorem den_ret : den C b .ret K = K .ret := rfl
end

inductive SRes where
  | tmp (t : Nat)
  | cell (t n : Nat)      -- a variable in memory: of one cell (0), of n cells that make a struct or an array

structure SFunc where
  nparams : Nat
  body : SCode
  results : List SRes
  /-- the function hands the right to append to its result on -/
  keep : Bool

def resV (e : Env) (S : Store) : SRes → Option AV
  | .tmp t => some (e.get t)
  | .cell t n => loadV (bif Nat.beq n 0 then none else some n) (e.get t) S

def resVs (e : Env) (S : Store) : List SRes → Option (List AV)
  | [] => some []
  | r :: rs => (resV e S r).bind fun v => (resVs e S rs).bind fun vs => some (v :: vs)

def fin1 (n : Nat) (S : Store) : AV → Option AV
  | .sl xs (.own i) => some (.sl xs (bif Nat.blt i n then .own i else .none))
  | .sl xs t => some (.sl xs t)
  | .osl i o l sz => bif Nat.blt i n then some (.osl i o l sz) else (rowsOf (.osl i o l sz) S).bind fun xs => (immRows sz xs).bind fun ys => some (.sl ys .none)
  | .agg cs => (imms cs).bind fun cs' => some (.agg cs')
  | .int k n => some (.int k n)
  | .bool b => some (.bool b)
  | .str s => some (.str s)
  | .ip cs o => some (.ip cs o)
  | .nilp => some .nilp
  | .ptr i o => some (.ptr i o)
  | .map i => some (.map i)
  | _ => none

def fins (n : Nat) (S : Store) : List AV → Option (List AV)
  | [] => some []
  | c :: cs => (fin1 n S c).bind fun c' => (fins n S cs).bind fun cs' => some (c' :: cs')

/-- No result is a slice over an entry of the call's own. -/
def noOsl (n : Nat) : List AV → Bool
  | [] => true
  | .osl i _ _ _ :: vs => Nat.blt i n && noOsl n vs
  | _ :: vs => noOsl n vs

def outV : List AV → AV
  | [v] => v
  | vs => .tup vs

/-- What a call hands back: without rights of its own; the store cut back, unless the result points into it. -/
def finish (keep : Bool) (n : Nat) (vs : List AV) (S : Store) : Option (AV × Store) :=
  (bif keep then some vs else fins n S vs).bind fun vs' =>
    if belows n vs' = true then some (outV vs', S.take n) else if (keep || noOsl n vs) = true then some (outV vs', S) else none

noncomputable def denF (C : CallEnv) (f : SFunc) (args : List AV) (S : Store) : Option (AV × Store) :=
  den C S.length f.body (exK (fun e S' => (resVs e S' f.results).bind fun vs => finish f.keep S.length vs S')
    (fun _ _ _ => none)
    (fun e S' => (resVs e S' f.results).bind fun vs => finish f.keep S.length vs S')) (envOf (List.range f.nparams) args 0 fun _ => .u) S

end Go.Abs
