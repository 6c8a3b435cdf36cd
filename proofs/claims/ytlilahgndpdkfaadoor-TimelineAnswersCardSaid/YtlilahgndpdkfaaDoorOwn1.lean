/-
  Texts of this claim: AbsComp, AbsCall, AbsSimp, AbsLib, AbsSort, PureElem, PureTime, AbsLib2, AbsPeel, PureLine, PureMap, PureValid, PureFlags, PureIns, PureRef, PurePerm, AbsEv, PurePlace.
-/
import Derived.Still
import Derived.Test.YtlilahgndpdkfaaDoorOwn0
set_option linter.all false
/-
  The translated code, read into the terms of AbsCore: each operation with the sizes and places that the program's types give.
-/
namespace Go.Abs
open Go

structure LoopAnn where
  live : List Nat
  inv : List Nat
  outs : List Nat
  pass : List Nat

/-- What is said of a function beside its text: how its variables are to be looked at. A wrong word makes the reading fail, it makes nothing true. -/
structure Ann where
  wr : List Nat := []
  pub : List Nat := []
  pbm : List Nat := []
  own : List (Nat × Nat) := []
  ownc : List (Nat × Nat × Nat) := []
  dis : List Nat := []
  frz : List Nat := []
  mt : List Nat := []
  pur : List Nat := []
  avo : List (Nat × List Nat) := []
  lr : List (Nat × Nat) := []
  li : List Nat := []
  keep : Bool := false
  loops : List LoopAnn := []

def constCell : Value → Option AV
  | .int k n => some (.int k n)
  | .bool b => some (.bool b)
  | .string s => some (.str s.data.toList)
  | .slice none 0 0 => some (.sl [] .full)
  | .pointer none => some .nilp
  | _ => none

def constCells : List Value → Option (List AV)
  | [] => some []
  | v :: vs => (constCell v).bind fun a => (constCells vs).bind fun as_ => some (a :: as_)

def constV : Value → Option AV
  | .agg cs => (constCells cs.toList).bind fun as_ => some (.agg as_)
  | .map none => some .nilp
  | v => constCell v

structure Tabs where
  P : Program
  glob : Nat → Option (List AV)

variable (T : Tabs) (an : Ann)

def opdC : Operand → Option Opd
  | .tmp t => some (.tmp t)
  | .const v => (constV v).bind fun a => some (.const a)
  | .global g => (T.glob g).bind fun cs => some (.const (.ip cs 0))
  | .func f => some (.const (.clo f []))

def opdsC : List Operand → Option (List Opd)
  | [] => some []
  | x :: xs => (opdC T x).bind fun a => (opdsC xs).bind fun as_ => some (a :: as_)

def opdO : Option Operand → Option (Option Opd)
  | none => some none
  | some x => (opdC T x).bind fun a => some (some a)

def sizeC (t : Nat) : Option Nat := (T.P.info? t).bind fun i => some i.size
/-- The cells of a type, and whether it is a struct or an array. -/
def aggC (t : Nat) : Option Bool := (T.P.underlying t).bind fun d => match d with
  | .struct _ | .array _ _ => some true
  | _ => some false
def shapeC (t : Nat) : Option (Option Nat) := (aggC T t).bind fun b => (sizeC T t).bind fun n => some (bif b then some n else none)
def zeroC (t : Nat) : Option (List AV) := (T.P.info? t).bind fun i => i.zero.bind fun z => constCells z.cells.toList
/-- The zero value of a type that is no struct and no array. -/
def zero1C (t : Nat) : Option AV := (T.P.info? t).bind fun i => i.zero.bind fun z => constCell z
/-- An element that is not too wide: so many cells, so many bytes. -/
def elemC (t : Nat) : Option Nat := (T.P.info? t).bind fun i => i.zero.bind fun z => bif (Nat.ble 1 i.size && Nat.ble i.bytes 1024 && Nat.beq z.cells.size i.size) then some i.size else none

/-- All fields' types are known. -/
def infosOk : List Field → Bool
  | [] => true
  | f :: fs => (T.P.info? f.type).isSome && infosOk fs

def partsS (fields : Array Field) : List (Nat × Operand) → Option (List (Nat × Nat × Opd))
  | [] => some []
  | (i, x) :: r => fields[i]?.bind fun f => (sizeC T f.type).bind fun n => (opdC T x).bind fun a => (partsS fields r).bind fun r' => some ((f.offset, n, a) :: r')

def partsA (sz : Nat) : List (Nat × Operand) → Option (List (Nat × Nat × Opd))
  | [] => some []
  | (i, x) :: r => (opdC T x).bind fun a => (partsA sz r).bind fun r' => some ((i * sz, sz, a) :: r')

def elemsL (zero : List AV) (parts : List (Nat × Operand)) : (n i : Nat) → Option (List (Opd ⊕ List AV))
  | 0, _ => some []
  | n + 1, i =>
    match parts.find? (fun (p : Nat × Operand) => p.1 == i) with
    | some (_, x) => (opdC T x).bind fun a => (elemsL zero parts n (i + 1)).bind fun r => some (Sum.inl a :: r)
    | none => (elemsL zero parts n (i + 1)).bind fun r => some (Sum.inr zero :: r)

def idxOk (n : Nat) : List (Nat × Operand) → Bool
  | [] => true
  | p :: r => Nat.blt p.1 n && (r.all fun q => !Nat.beq q.1 p.1) && idxOk n r

def kindC (t : Nat) : Option Nat := match T.P.underlying t with
  | some (.int _) => some 0
  | some .string => some 1
  | some .bool => some 2
  | _ => none

def kindsS : List Field → Nat → Option (List Nat)
  | [], _ => some []
  | f :: fs, i => bif f.name != "_" && Nat.beq f.offset i then (kindC T f.type).bind fun k => (kindsS fs (i + 1)).bind fun ks => some (k :: ks) else none

/-- A type whose values are told apart cell by cell: is it a struct, and its cells' kinds. -/
def kindsC (t : Nat) : Option (Bool × List Nat) := match T.P.underlying t with
  | some (.struct fs) => bif T.P.stoodInHeld t then none else (kindsS T fs.toList 0).bind fun ks => some (true, ks)
  | _ => (kindC T t).bind fun k => some (false, [k])

def fromO {α : Type} : Option α → (α → SOp) → SOp
  | some x, f => f x
  | none, _ => .fail

def callC (dst : Option Nat) (c : Call) : Option SOp :=
  match c.callee, c.args.toList, c.argTypes.toList with
  | .value (.func f), args, _ => (opdsC T args).bind fun as_ => 
    match dst.bind fun d => an.avo.find? fun (p : Nat × List Nat) => p.1 == d with
    | some (_, av) => some (.callO f as_ av)
    | none => some (bif an.pur.contains f then .callP f as_ else .call f as_)
  | .value (.tmp t), args, _ => (opdsC T args).bind fun as_ => some (.callV (.tmp t) as_)
  | .builtin .len, [x], [t] => (opdC T x).bind fun a => (T.P.underlying t).bind fun d => match d with
    | .string => some (.lenS a)
    | .slice _ => some (.len a)
    | .map _ _ => some (.lenM a)
    | .array n _ => some (.mv (.const (i64 n)))
    | .pointer e => (T.P.underlying e).bind fun d => match d with
      | .array n _ => some (.mv (.const (i64 n)))
      | _ => none
    | _ => none
  | .builtin .append, [x, y], [t, u] => (opdC T x).bind fun a => (opdC T y).bind fun b => (T.P.underlying t).bind fun d => match d with
    | .slice e => (elemC T e).bind fun sz => (T.P.underlying u).bind fun d' => match d' with
      | .slice _ | .string => some (bif (dst.map an.wr.contains).getD false then .appendM sz a b else .append sz a b)
      | _ => none
    | _ => none
  | .builtin .min, args, _ => (opdsC T args).bind fun as_ => some (.minmax false as_)
  | .builtin .max, args, _ => (opdsC T args).bind fun as_ => some (.minmax true as_)
  | _, _, _ => none

def isNeq : BinOp → Bool
  | .neq => true
  | _ => false

def isCmp : BinOp → Bool
  | .eql | .neq => true
  | _ => false

def opC (dst : Option Nat) (op : Op) : Option SOp :=
  let wr := (dst.map an.wr.contains).getD false
  match op with
  | .move x => (opdC T x).bind fun a => some (.mv a)
  | .assign x => (opdC T x).bind fun a => some (.mv a)
  | .pick c a b => (opdC T c).bind fun c => (opdC T a).bind fun a => (opdC T b).bind fun b => some (.pick c a b)
  | .alloc t => bif (dst.map fun d => an.pub.contains d || an.pbm.contains d).getD false then (T.P.info? t).bind fun i => i.zero.bind fun z => some (.allocP z.cells.size) else (zeroC T t).bind fun z => (sizeC T t).bind fun n => bif Nat.beq z.length n then some (.alloc z) else none
  | .box t x => (opdC T x).bind fun a => (sizeC T t).bind fun _ => some (bif wr then .boxM a else .boxP a)
  | .build t parts => (zeroC T t).bind fun z => (T.P.underlying t).bind fun d => match d with
    | .struct fs => bif infosOk T fs.toList then (partsS T fs parts.toList).bind fun ps => some (.build z ps) else none
    | .array _ e => (sizeC T e).bind fun sz => (partsA T sz parts.toList).bind fun ps => some (.build z ps)
    | _ => none
  | .buildSlice t len parts => (T.P.underlying t).bind fun d => match d with
    | .slice e => (zeroC T e).bind fun z => (elemC T e).bind fun sz => bif (Nat.ble len 1000 && Nat.ble sz 1000 && Nat.beq z.length sz && idxOk len parts.toList) then
        (elemsL T z parts.toList len 0).bind fun es => some (bif wr then .bsliceM sz es else .bslice sz es) else none
    | _ => none
  | .load t a => (opdC T a).bind fun a => (shapeC T t).bind fun n => some (match dst.bind fun d => an.lr.find? fun (p : Nat × Nat) => p.1 == d with
      | some (_, r) => .loadR n a r
      | none => bif (dst.map an.li.contains).getD false then .loadI n a else .load n a)
  | .store t a v => (sizeC T t).bind fun n => (opdC T v).bind fun v => match a with
    | .tmp s => some (bif an.pub.contains s then .storeP n s v else bif an.pbm.contains s then .storeN n s v else .store n (.tmp s) v)
    | _ => none
  | .nilCheck x => (opdC T x).bind fun a => some (.nilc a)
  | .binOp o t x y _ => (opdC T x).bind fun a => (opdC T y).bind fun b => (T.P.underlying t).bind fun d => match d with
    | .struct _ => bif isCmp o then (kindsC T t).bind fun ks => some (.eqc (isNeq o) ks.2 a b) else none
    | .int _ | .string => some (.bin o a b)
    | .bool => some (.binB o a b)
    | _ => none
  | .unOp o _ x => (opdC T x).bind fun a => some (.un o a)
  | .convert s t x => (opdC T x).bind fun a => (T.P.underlying s).bind fun d => (T.P.underlying t).bind fun d' => match d, d' with
    | .int _, .int k => some (.conv k a)
    | .int _, .string => some (.ofInt a)
    | .string, .slice e => (T.P.underlying e).bind fun b => match b with
      | .int .u8 => some (.toBytes a)
      | _ => none
    | .slice e, .string => (T.P.underlying e).bind fun b => match b with
      | .int .u8 => some (.ofBytes a)
      | _ => none
    | _, _ => none
  | .makeFunc (.func f) first captured => bif first.isEmpty then (opdsC T captured.toList).bind fun cs => some (.mkclo f cs) else none
  | .makeMap _ none => some .makeMap
  | .makeSlice t l c => (T.P.underlying t).bind fun d => match d with
    | .slice e => (zeroC T e).bind fun z => (elemC T e).bind fun sz => (opdC T l).bind fun l => (opdC T c).bind fun c => bif Nat.beq z.length sz then
        (bif (dst.map an.mt.contains).getD false then (match l with | .const (.int .i64 0) => some (.mtail sz c) | _ => none) else some (.mslice z l c)) else none
    | _ => none
  | .slice t x lo hi mx => (opdC T x).bind fun a => (opdO T lo).bind fun l => (opdO T hi).bind fun h => (opdO T mx).bind fun m => (T.P.underlying t).bind fun d => match d with
    | .string => bif m.isNone then some (.sliceS a l h) else none
    | .slice e => (elemC T e).bind fun sz => bif m.isNone || h.isSome then some (.slice sz a l h m) else none
    | .array n e => bif m.isNone then (elemC T e).bind fun sz => some (.sliceA sz n a l h) else none
    | _ => none
  | .fieldAddr t x f => (opdC T x).bind fun a => (T.P.underlying t).bind fun d => match d with
    | .struct fs => fs[f]?.bind fun f => (sizeC T f.type).bind fun n => bif Nat.ble 1 n then some (.fieldA f.offset a) else none
    | _ => none
  | .field t x f => (opdC T x).bind fun a => (T.P.underlying t).bind fun d => match d with
    | .struct fs => fs[f]?.bind fun f => (shapeC T f.type).bind fun n => some (.field f.offset n a)
    | _ => none
  | .indexAddr t x i => (opdC T x).bind fun a => (opdC T i).bind fun i => (T.P.underlying t).bind fun d => match d with
    | .array n e => (elemC T e).bind fun sz => some (.indexA sz (some n) a i)
    | .slice e => (elemC T e).bind fun sz => some (.indexA sz none a i)
    | _ => none
  | .index t x i => (opdC T x).bind fun a => (opdC T i).bind fun i => (T.P.underlying t).bind fun d => match d with
    | .array n e => (elemC T e).bind fun sz => (aggC T e).bind fun b => some (.index sz n b a i)
    | .string => some (.indexS a i)
    | _ => none
  | .lookup t m k ok => (opdC T m).bind fun m => (opdC T k).bind fun k => (T.P.underlying t).bind fun d => match d with
    | .map kt e => (zero1C T e).bind fun z => (kindsC T kt).bind fun ks => some (.lookup z ks.1 ks.2 m k ok)
    | _ => none
  | .mapUpdate t m k v => (opdC T m).bind fun m => (opdC T k).bind fun k => (opdC T v).bind fun v => (T.P.underlying t).bind fun d => match d with
    | .map kt _ => (kindsC T kt).bind fun ks => some (.mapSet ks.1 ks.2 m k v)
    | _ => none
  | .mapEntry t m k => (opdC T m).bind fun m => (opdC T k).bind fun k => (T.P.underlying t).bind fun d => match d with
    | .map kt e => (zero1C T e).bind fun z => (kindsC T kt).bind fun ks => some (.mapEntry z ks.1 ks.2 m k)
    | _ => none
  | .entryStore _ m st v => (opdC T m).bind fun m => (opdC T st).bind fun st => (opdC T v).bind fun v => some (.entryStore m st v)
  | .range t m => (opdC T m).bind fun m => (T.P.underlying t).bind fun d => match d with
    | .map _ _ => some (.range m)
    | _ => none
  | .entry it => (opdC T it).bind fun it => some (.entry it)
  | .extract x i => (opdC T x).bind fun a => some (.extract a i)
  | .call c => callC T an dst c
  | _ => none

/-- An operation that this reading does not take fails where it is met. -/
def opS (dst : Option Nat) (op : Op) : SOp :=
  let o := (opC T an dst op).getD .fail
  match dst with
  | none => o
  | some d =>
    match an.own.find? fun p => p.1 == d with
    | some (_, sz) => .post o (.own sz)
    | none =>
      match an.ownc.find? fun p => p.1 == d with
      | some (_, sz, j) => .post o (.ownCell sz j)
      | none => bif an.dis.contains d then .post o .disown else bif an.frz.contains d then .post o .freeze else o

def operC (ops : Array Oper) (o : Oper) : SOper :=
  match o.guard with
  | none => { dst := o.dst, op := opS T an o.dst o.op, guard := none }
  | some (j, b) =>
    match (ops[j]?).bind (·.dst) with
    | some d => { dst := o.dst, op := opS T an o.dst o.op, guard := some (d, b) }
    | none => { dst := o.dst, op := .fail, guard := none }

/-- Does an operation leave the store alone (and does it look at it)? -/
def quietB : SOp → Bool
  | .mv _ | .pick .. | .bin .. | .binB .. | .indexS .. | .lenS _ | .sliceS .. | .eqc .. | .un .. | .conv .. | .allocP _ | .boxP _ | .build .. | .bslice .. | .loadI .. | .len _ | .storeP .. | .nilc _ | .slice .. | .fieldA .. | .field .. | .indexA .. | .index ..
  | .extract .. | .mkclo .. | .minmax .. | .ofInt _ | .fail => true
  | .post o .disown => quietB o
  | _ => false

def readB : SOp → Bool
  | .load .. | .loadR .. | .lenM _ | .ofBytes _ | .lookup .. | .sliceA .. | .entry _ | .callP .. => true
  | .post o .disown => readB o
  | o => quietB o

def loadSlot : SOp → Option Nat
  | .loadR _ _ r => some r
  | _ => none

def avoids : SOp → List Nat
  | .callO _ _ av => av
  | _ => []

def commB (a b : SOp) : Bool := quietB a || quietB b || (readB a && readB b) || ((loadSlot a).any (avoids b).contains) || ((loadSlot b).any (avoids a).contains)

def opdSlots : Opd → List Nat
  | .tmp t => [t]
  | .const _ => []

def opdsSlots (l : List Opd) : List Nat := l.flatMap opdSlots
def opdoSlots : Option Opd → List Nat
  | some x => opdSlots x
  | none => []

/-- The slots that an operation reads. -/
def sreads : SOp → List Nat
  | .mv x | .un _ x | .conv _ x | .boxP x | .boxM x | .load _ x | .loadI _ x | .nilc x | .fieldA _ x | .field _ _ x | .len x | .lenS x | .lenM x | .toBytes x | .ofBytes x | .ofInt x | .extract x _ | .mtail _ x | .range x | .entry x => opdSlots x
  | .pick c a b => opdSlots c ++ (opdSlots a ++ opdSlots b)
  | .bin _ x y | .binB _ x y | .indexS x y | .eqc _ _ x y | .store _ x y | .indexA _ _ x y | .index _ _ _ x y | .append _ x y | .appendM _ x y | .mslice _ x y | .lookup _ _ _ x y _ | .mapEntry _ _ _ x y => opdSlots x ++ opdSlots y
  | .alloc _ | .allocP _ | .makeMap | .fail => []
  | .build _ ps => ps.flatMap fun p => opdSlots p.2.2
  | .bslice _ es | .bsliceM _ es => es.flatMap fun e => match e with | .inl x => opdSlots x | .inr _ => []
  | .storeP _ t v | .storeN _ t v => t :: opdSlots v
  | .slice _ x l h m => opdSlots x ++ (opdoSlots l ++ (opdoSlots h ++ opdoSlots m))
  | .sliceS x l h => opdSlots x ++ (opdoSlots l ++ opdoSlots h)
  | .sliceA _ _ x l h => opdSlots x ++ (opdoSlots l ++ opdoSlots h)
  | .mkclo _ xs | .call _ xs | .callP _ xs | .minmax _ xs => opdsSlots xs
  | .loadR _ x r => opdSlots x ++ [r]
  | .callO _ xs av => opdsSlots xs ++ av
  | .callV f xs => opdSlots f ++ opdsSlots xs
  | .mapSet _ _ m k v | .entryStore m k v => opdSlots m ++ (opdSlots k ++ opdSlots v)
  | .post o _ => sreads o

def looksS (s : SOper) : List Nat := sreads s.op ++ (match s.guard with | some (g, _) => [g] | none => [])

def SOper.outs (x : SOper) : List Nat := x.to.toList ++ x.dst.toList

def disj (a b : List Nat) : Bool := a.all fun x => !b.contains x

def apartB (x y : SOper) : Bool := disj x.outs (looksS y) && disj x.outs y.outs && disj y.outs (looksS x)

/-- Behind which operations each one stands, directly or through others: as_ bits. -/
def behindL (ops : List Oper) (acc : List Nat) : List Nat :=
  match ops with
  | [] => acc
  | o :: r => behindL r (acc ++ [o.after.toList.foldl (fun m e => if Region.binds .any e then Nat.lor m (Nat.lor (Nat.pow 2 e.on) (acc.getD e.on 0)) else m) 0])

def freeB (ops : Array Oper) (l : List SOper) (bl : List Nat) (listed : Array Bool) (i : Nat) : Bool :=
  match ops[i]?, l[i]? with
  | some _, some si => (List.range ops.size).all fun j => j == i || listed.getD j true || match ops[j]?, l[j]? with
      | some _, some sj => (bl.getD j 0).testBit i || (apartB si sj && commB si.op sj.op)
      | _, _ => false
  | _, _ => false

def lexFromB (ops : Array Oper) (l : List SOper) (bl : List Nat) : Nat → Nat → Array Bool → Bool
  | 0, _, listed => (Region.ready .any ops listed).isEmpty
  | n + 1, k, listed => (Region.ready .any ops listed).contains k && freeB ops l bl listed k && lexFromB ops l bl n (k + 1) (listed.setIfInBounds k true)

def drawB (ops : Array Oper) (l : List SOper) : Bool := Region.noSelect ops && lexFromB ops l (behindL ops.toList []) ops.size 0 (Array.replicate ops.size false)

def isDst : Option Nat → Nat → Bool
  | some d, t => Nat.beq d t
  | none, _ => false

def hasN : Option Nat → Nat → Bool
  | some m, n => Nat.beq m n
  | none, _ => false

/-- A variable's first store stands behind its making, and nothing writes the slot between: the slots that wait, with their cells' number. -/
def pdStep (o : SOper) (pd : Nat → Option Nat) : Option (Nat → Option Nat) :=
  match o.op with
  | .allocP n => bif o.guard.isNone then some fun t => bif isDst o.dst t then some n else pd t else none
  | .storeP n t _ | .storeN n t _ => bif (hasN (pd t) n && o.guard.isNone && o.dst.isNone) then some fun s => bif Nat.beq s t then none else pd s else none
  | _ => some fun t => bif isDst o.dst t then none else pd t

def pdRun : List SOper → (Nat → Option Nat) → Bool
  | [], _ => true
  | o :: l, pd => match pdStep o pd with
    | some pd' => pdRun l pd'
    | none => false

def regionC (ops : Array Oper) (draw : Bool) : Option (List SOper) :=
  let l := ops.toList.map (operC T an ops)
  bif ((!draw || drawB ops l) && pdRun l fun _ => none) then some l else none

def writesL (l : List SOper) : List Nat := l.flatMap (·.outs)

def SCode.writes : SCode → List Nat
  | .ops l => writesL l
  | .seq a b => a.writes ++ b.writes
  | .cond _ a b => a.writes ++ b.writes
  | .block _ b => b.writes
  | .loop _ _ _ _ b => b.writes
  | .range _ tup ok _ _ _ _ b => tup :: ok :: b.writes
  | _ => []

/-- The head of a walk's round: the step, and whether it met anything. -/
def walkHead (ops : Array Oper) : Option (Nat × Nat × Nat) :=
  match ops.toList with
  | [⟨some t, .next (.tmp it) false, _, _, _, none⟩, ⟨some ok, .extract (.tmp t') 0, _, _, _, none⟩] => bif Nat.beq t t' && !Nat.beq t it && !Nat.beq ok it && !Nat.beq ok t then some (it, t, ok) else none
  | _ => none

def codeC : Code → List LoopAnn → Option (SCode × List LoopAnn)
  | .skip, ls => some (.skip, ls)
  | .region _ ops draw, ls => (regionC T an ops draw).bind fun l => some (.ops l, ls)
  | .seq a b, ls => (codeC a ls).bind fun x => (codeC b x.2).bind fun y => some (.seq x.1 y.1, y.2)
  | .cond c a b, ls => (opdC T c).bind fun c => (codeC a ls).bind fun x => (codeC b x.2).bind fun y => some (.cond c x.1 y.1, y.2)
  | .block id b, ls => (codeC b ls).bind fun x => some (.block id x.1, x.2)
  | .loop (.seq (.region id ops false) c), l :: ls =>
    match walkHead ops with
    | some (it, tup, ok) => (codeC c ls).bind fun x => let w := tup :: ok :: x.1.writes
      bif (disj l.inv w && disj l.pass w && disj [it] w) then some (.range it tup ok l.live l.inv l.outs l.pass x.1, x.2) else none
    | none => (codeC (.seq (.region id ops false) c) ls).bind fun x => bif (disj l.inv x.1.writes && disj l.pass x.1.writes) then some (.loop l.live l.inv l.outs l.pass x.1, x.2) else none
  | .loop b, l :: ls => (codeC b ls).bind fun x => bif (disj l.inv x.1.writes && disj l.pass x.1.writes) then some (.loop l.live l.inv l.outs l.pass x.1, x.2) else none
  | .exit id, ls => some (.exit id, ls)
  | .ret, ls => some (.ret, ls)
  | _, _ => none

def resC : ResultVar → Option SRes
  | .tmp t => some (.tmp t)
  | .cell a t => (shapeC T t).bind fun n => match n with
    | some 0 => none
    | n => some (.cell a (n.getD 0))

def resCs : List ResultVar → Option (List SRes)
  | [] => some []
  | r :: rs => (resC T r).bind fun a => (resCs rs).bind fun as_ => some (a :: as_)

def funcC (f : Func) : Option SFunc :=
  f.body.bind fun b => (codeC T an b an.loops).bind fun x => (resCs T f.results.toList).bind fun rs => bif (x.1.writes.all fun d => Nat.blt d f.ntmps) && Nat.ble (f.params.size + f.nfree) f.ntmps then some { nparams := f.params.size + f.nfree, body := x.1, results := rs, keep := an.keep } else none

end Go.Abs

/-
  Calls by their number: what a function comes to, as_ the limit of deeper and deeper calls; and the equation by which it is its own text.
-/
namespace Go.Abs
open Go

/-- Functions that are given otherwise than by their text. -/
abbrev Over := Nat → Option (List AV → Store → Option (AV × Store))

structure Prg where
  T : Tabs
  an : Nat → Ann
  ov : Over

noncomputable def Prg.step (Y : Prg) (C : CallEnv) : CallEnv := fun f args S =>
  match Y.ov f with
  | some g => g args S
  | none =>
    match (Y.T.P.funcs[f]?).bind (funcC Y.T (Y.an f)) with
    | some sf => denF C sf args S
    | none => none

/-- What a function's text comes to. -/
noncomputable def Prg.text (T : Tabs) (an : Nat → Ann) (C : CallEnv) : CallEnv := fun f args S =>
  match (T.P.funcs[f]?).bind (funcC T (an f)) with
  | some sf => denF C sf args S
  | none => none

theorem Prg.step_none {T : Tabs} {an : Nat → Ann} {ov : Over} {C : CallEnv} {f : Nat} {args : List AV} {S : Store} (h : ov f = none) : (Prg.mk T an ov).step C f args S = Prg.text T an C f args S := by
  unfold Prg.step Prg.text
  simp only [h]

noncomputable def Prg.callN (Y : Prg) : Nat → CallEnv
  | 0 => fun _ _ _ => none
  | n + 1 => Y.step (Y.callN n)

open Classical in
noncomputable def Prg.call (Y : Prg) : CallEnv := fun f args S =>
  if h : ∃ r n, Y.callN n f args S = some r then some (Classical.choose h) else none

/-- C answers at least what A answers. -/
def Le (A C : CallEnv) : Prop := ∀ f args S r, A f args S = some r → C f args S = some r

section
variable {ρ : Type}

theorem bind_some_of {α : Type} {o : Option α} {K : α → Option ρ} {r : ρ} (h : o.bind K = some r) : ∃ a, o = some a ∧ K a = some r := Option.bind_eq_some_iff.1 h

/-- Whatever C answers, all of A's from some number on answer. -/
def Lim (A : Nat → CallEnv) (C : CallEnv) : Prop := ∀ f args S r, C f args S = some r → ∃ n, ∀ m, n ≤ m → A m f args S = some r

/-- What an operation comes to, as_ one equation for whatever follows. -/
theorem ghK_fact (g : Gh) (v : AV) (S : Store) (K : AV → Store → Option ρ) (r : ρ) (h : ghK g v S K = some r) :
    ∃ v' S', K v' S' = some r ∧ ∀ {ρ' : Type} (K' : AV → Store → Option ρ'), ghK g v S K' = K' v' S' := by
  cases g <;> simp only [ghK] at * <;> obtain ⟨x, hx, hk⟩ := bind_some_of h <;> first
    | exact ⟨x.1, x.2, hk, fun K' => by simp [hx]⟩
    | exact ⟨x, S, hk, fun K' => by simp [hx]⟩

theorem evalK_fact {A : Nat → CallEnv} {C : CallEnv} (hl : Lim A C) (b : Nat) (o : SOp) (e : Env) (S : Store) : ∀ {ρ : Type} (K : AV → Store → Option ρ) (r : ρ), evalK C b o e S K = some r →
    ∃ v S', K v S' = some r ∧ (∀ {ρ' : Type} (K' : AV → Store → Option ρ'), evalK C b o e S K' = K' v S') ∧ ∃ n, ∀ m, n ≤ m → ∀ {ρ' : Type} (K' : AV → Store → Option ρ'), evalK (A m) b o e S K' = K' v S' := by
  induction o with
  | post o g ih =>
    intro ρ K r h
    simp only [evalK] at h
    obtain ⟨v, S', hk, hK, n, hn⟩ := ih _ r h
    obtain ⟨v', S'', hk', hK'⟩ := ghK_fact g v S' K r hk
    refine ⟨v', S'', hk', fun K' => ?_, n, fun m hm ρ' K' => ?_⟩
    · simp only [evalK]; rw [hK]; exact hK' K'
    · simp only [evalK]; rw [hn m hm]; exact hK' K'
  | call f args =>
    intro ρ K r h
    simp only [evalK] at *
    obtain ⟨as_, has, h⟩ := bind_some_of h
    obtain ⟨x, hx, hk⟩ := bind_some_of h
    obtain ⟨n, hn⟩ := hl _ _ _ _ hx
    exact ⟨x.1, x.2, hk, fun K' => by simp [has, hx], n, fun m hm ρ' K' => by simp [has, hn m hm]⟩
  | callP f args =>
    intro ρ K r h
    simp only [evalK] at *
    obtain ⟨as_, has, h⟩ := bind_some_of h
    obtain ⟨x, hx, hk⟩ := bind_some_of h
    obtain ⟨y, hy, hs⟩ := bind_some_of hx
    obtain ⟨n, hn⟩ := hl _ _ _ _ hy
    exact ⟨x, S, hk, fun K' => by simp [has, hy, hs], n, fun m hm ρ' K' => by simp [has, hn m hm, hs]⟩
  | callO f args av =>
    intro ρ K r h
    simp only [evalK] at *
    obtain ⟨as_, has, h⟩ := bind_some_of h
    obtain ⟨x, hx, hk⟩ := bind_some_of h
    obtain ⟨y, hy, hs⟩ := bind_some_of hx
    obtain ⟨n, hn⟩ := hl _ _ _ _ hy
    exact ⟨x.1, x.2, hk, fun K' => by simp [has, hy, hs], n, fun m hm ρ' K' => by simp [has, hn m hm, hs]⟩
  | callV fv args =>
    intro ρ K r h
    simp only [evalK] at *
    split at h
    · rename_i f caps hf
      obtain ⟨as_, has, h⟩ := bind_some_of h
      obtain ⟨x, hx, hk⟩ := bind_some_of h
      obtain ⟨n, hn⟩ := hl _ _ _ _ hx
      exact ⟨x.1, x.2, hk, fun K' => by simp [has, hx], n, fun m hm ρ' K' => by simp [has, hn m hm]⟩
    · cases h
  | storeP n t v | storeN n t v =>
    intro ρ K r h
    simp only [evalK] at *
    obtain ⟨x, hx, h⟩ := bind_some_of h
    split at h
    · rename_i hn
      exact ⟨_, _, h, fun K' => by simp [hx, hn], 0, fun m hm ρ' K' => by simp [hx, hn]⟩
    · cases h
  | fail => intro ρ K r h; simp [evalK] at h
  | _ =>
    intro ρ K r h
    simp only [evalK] at *
    first
      | exact ⟨_, _, h, fun K' => rfl, 0, fun m hm ρ' K' => rfl⟩
      | (obtain ⟨x, hx, hk⟩ := bind_some_of h
         exact ⟨_, _, hk, fun K' => by simp [hx], 0, fun m hm ρ' K' => by simp [hx]⟩)

theorem guardK_fact {g : AV} {w : Bool} {m s : Option (AV × Store)} {x : AV × Store} (h : guardK g w m s = some x) :
    (guardK g w m s = m ∧ m = some x ∧ ∀ m' s' : Option (AV × Store), guardK g w m' s' = m') ∨ (s = some x ∧ ∀ m' : Option (AV × Store), guardK g w m' s = some x) := by
  by_cases hu : g = .und
  · subst hu; exact .inr ⟨h, fun _ => h⟩
  cases g <;> simp only [guardK] at h <;> first | (cases h; done) | (exact absurd rfl hu) | skip
  rename_i b
  by_cases hb : b = w
  · left; subst hb; exact ⟨by simp [guardK], by simpa using h, fun _ _ => by simp [guardK]⟩
  · right; exact ⟨by simpa [hb] using h, fun _ => by simpa [guardK, hb] using h⟩

/-- The same of an operation with its guard: it comes to one environment and one store. -/
theorem runOp_fact {A : Nat → CallEnv} {C : CallEnv} (hl : Lim A C) (b : Nat) (o : SOper) (e : Env) (S : Store) (K : Env → Store → Option ρ) (r : ρ) (h : runOp C b o K e S = some r) :
    ∃ e' S', K e' S' = some r ∧ (∀ {ρ' : Type} (K' : Env → Store → Option ρ'), runOp C b o K' e S = K' e' S') ∧ ∃ n, ∀ m, n ≤ m → ∀ {ρ' : Type} (K' : Env → Store → Option ρ'), runOp (A m) b o K' e S = K' e' S' := by
  cases hg : o.guard with
  | none =>
    simp only [runOp, hg] at *
    obtain ⟨v, S', hk, hK, n, hn⟩ := evalK_fact hl b o.op e S _ r h
    exact ⟨_, _, hk, fun K' => hK _, n, fun m hm ρ' K' => hn m hm _⟩
  | some gw =>
    obtain ⟨g, w⟩ := gw
    simp only [runOp, hg] at *
    obtain ⟨x, hx, hk⟩ := bind_some_of h
    rcases guardK_fact hx with ⟨h1, h2, h3⟩ | ⟨h1, h2⟩
    · obtain ⟨v, S', hk', hK, n, hn⟩ := evalK_fact hl b o.op e S _ x h2
      cases hk'
      refine ⟨_, _, hk, fun K' => ?_, n, fun m hm ρ' K' => ?_⟩
      · rw [h3, hK]; rfl
      · rw [h3, hn m hm]; rfl
    · refine ⟨_, _, hk, fun K' => ?_, 0, fun m _ ρ' K' => ?_⟩ <;> rw [h2] <;> rfl

theorem runOps_fact {A : Nat → CallEnv} {C : CallEnv} (hl : Lim A C) (b : Nat) : ∀ (l : List SOper) (e : Env) (S : Store) {ρ : Type} (K : Env → Store → Option ρ) (r : ρ), runOps C b l K e S = some r →
    ∃ e' S', K e' S' = some r ∧ (∀ {ρ' : Type} (K' : Env → Store → Option ρ'), runOps C b l K' e S = K' e' S') ∧ ∃ n, ∀ m, n ≤ m → ∀ {ρ' : Type} (K' : Env → Store → Option ρ'), runOps (A m) b l K' e S = K' e' S'
  | [], e, S, _, K, r, h => ⟨e, S, h, fun _ => rfl, 0, fun _ _ _ _ => rfl⟩
  | o :: l, e, S, _, K, r, h => by
    obtain ⟨e1, S1, h1, hK1, n1, hn1⟩ := runOp_fact hl b o e S _ r h
    obtain ⟨e2, S2, h2, hK2, n2, hn2⟩ := runOps_fact hl b l e1 S1 K r h1
    refine ⟨e2, S2, h2, fun K' => ?_, max n1 n2, fun m hm ρ' K' => ?_⟩
    · simp only [runOps_nil, runOps_cons]; rw [hK1, hK2]
    · simp only [runOps_nil, runOps_cons]; rw [hn1 m (by omega), hn2 m (by omega)]

theorem iterN_congr {σ τ : Type} {f g : σ → Option (σ ⊕ τ)} (h : ∀ s x, f s = some x → g s = some x) : ∀ n s r, iterN f n s = some r → iterN g n s = some r
  | 0, s, r, hr => by simp [iterN] at hr
  | n + 1, s, r, hr => by
    simp only [iterN] at *
    obtain ⟨x, hx, hk⟩ := bind_some_of hr
    rw [h s x hx]
    cases x with
    | inl s' => exact iterN_congr h n s' r hk
    | inr t => exact hk

theorem forall_lim {α : Type} {P : Nat → α → Prop} : ∀ (l : List α), (∀ y ∈ l, ∃ n, ∀ m, n ≤ m → P m y) → ∃ n, ∀ m, n ≤ m → ∀ y ∈ l, P m y
  | [], _ => ⟨0, fun _ _ y hy => by simp at hy⟩
  | a :: l, h => by
    obtain ⟨n1, h1⟩ := h a (by simp)
    obtain ⟨n2, h2⟩ := forall_lim l fun y hy => h y (by simp [hy])
    refine ⟨max n1 n2, fun m hm y hy => ?_⟩
    rcases List.mem_cons.1 hy with rfl | hy
    · exact h1 m (by omega)
    · exact h2 m (by omega) y hy

/-- What a piece of code comes to, the calls deep enough come to. -/
theorem den_lim {A : Nat → CallEnv} {C : CallEnv} (hl : Lim A C) (b : Nat) (c : SCode) : ∀ {ρ : Type} (K : Ex → Env → Store → Option ρ) (Km : Nat → Ex → Env → Store → Option ρ),
    (∀ x e S r, K x e S = some r → ∃ n, ∀ m, n ≤ m → Km m x e S = some r) → ∀ e S r, den C b c K e S = some r → ∃ n, ∀ m, n ≤ m → den (A m) b c (Km m) e S = some r := by
  induction c with
  | skip => exact fun K Km hK e S r h => hK _ e S r h
  | exit id => exact fun K Km hK e S r h => hK _ e S r h
  | ret => exact fun K Km hK e S r h => hK _ e S r h
  | ops l =>
    intro ρ K Km hK e S r h
    obtain ⟨e', S', hk, _, n, hn⟩ := runOps_fact hl b l e S _ r h
    obtain ⟨n2, hn2⟩ := hK _ _ _ _ hk
    refine ⟨max n n2, fun m hm => ?_⟩
    rw [den_ops, hn m (by omega)]
    exact hn2 m (by omega)
  | seq a y iha ihb =>
    intro ρ K Km hK e S r h
    rw [den_seq] at h
    obtain ⟨n, hn⟩ := iha (exK (den C b y K) (fun i => K (.exit i)) (K .ret)) (fun m => exK (den (A m) b y (Km m)) (fun i => Km m (.exit i)) (Km m .ret)) (fun x e S r hx => by
      cases x with
      | normal => exact ihb K Km hK e S r hx
      | exit i => exact hK _ e S r hx
      | ret => exact hK _ e S r hx) e S r h
    exact ⟨n, fun m hm => by rw [den_seq]; exact hn m hm⟩
  | cond c a y iha ihb =>
    intro ρ K Km hK e S r h
    rw [den_cond] at h
    cases hc : c.ev e <;> simp only [hc, condK] at h <;> try (cases h; done)
    rename_i t
    cases t with
    | true =>
      obtain ⟨n, hn⟩ := iha K Km hK e S r (by simpa using h)
      exact ⟨n, fun m hm => by rw [den_cond, hc]; simpa [condK] using hn m hm⟩
    | false =>
      obtain ⟨n, hn⟩ := ihb K Km hK e S r (by simpa using h)
      exact ⟨n, fun m hm => by rw [den_cond, hc]; simpa [condK] using hn m hm⟩
  | block id y ih =>
    intro ρ K Km hK e S r h
    rw [den_block] at h
    obtain ⟨n, hn⟩ := ih _ (fun m => exK (Km m .normal) (fun i e S => bif Nat.beq i id then Km m .normal e S else Km m (.exit i) e S) (Km m .ret)) (fun x e S r hx => by
      cases x with
      | normal => exact hK _ e S r hx
      | ret => exact hK _ e S r hx
      | exit i =>
        simp only [exK_exit] at hx ⊢
        cases hi : Nat.beq i id with
        | true => rw [hi] at hx; exact hK _ e S r hx
        | false => rw [hi] at hx; exact hK _ e S r hx) e S r h
    exact ⟨n, fun m hm => by rw [den_block]; exact hn m hm⟩
  | loop live inv outs pass y ih =>
    intro ρ K Km hK e S r h
    rw [den_loop] at h
    obtain ⟨x, hx, hk⟩ := bind_some_of h
    obtain ⟨k, hkn⟩ := iter_some hx
    have key : ∀ k s x, iterN (σ := List AV × Store) (τ := Ex × List AV × Store) (fun s =>
        den C b y (exK (fun e' S' => (nextS b s.2.length (e'.gets live) S').bind fun r => some (.inl r))
            (fun i e' S' => some (.inr (.exit i, e'.gets outs, S')))
            (fun e' S' => some (.inr (.ret, e'.gets outs, S'))))
        (envOf live s.1 0 (e.only inv)) s.2) k s = some x → ∃ n, ∀ m, n ≤ m → iterN (σ := List AV × Store) (τ := Ex × List AV × Store) (fun s =>
        den (A m) b y (exK (fun e' S' => (nextS b s.2.length (e'.gets live) S').bind fun r => some (.inl r))
            (fun i e' S' => some (.inr (.exit i, e'.gets outs, S')))
            (fun e' S' => some (.inr (.ret, e'.gets outs, S'))))
        (envOf live s.1 0 (e.only inv)) s.2) k s = some x := by
      intro k
      induction k with
      | zero => intro s x h; simp [iterN] at h
      | succ k ihk =>
        intro s x h
        simp only [iterN] at h
        obtain ⟨z, hy, hyk⟩ := bind_some_of h
        obtain ⟨n1, hn1⟩ := ih _ (fun _ => _) (fun x e S r hx => ⟨0, fun _ _ => hx⟩) _ _ _ hy
        cases z with
        | inl s' =>
          obtain ⟨n2, hn2⟩ := ihk s' x hyk
          refine ⟨max n1 n2, fun m hm => ?_⟩
          simp only [iterN]
          rw [hn1 m (by omega)]
          exact hn2 m (by omega)
        | inr t =>
          refine ⟨n1, fun m hm => ?_⟩
          simp only [iterN]
          rw [hn1 m hm]
          exact hyk
    obtain ⟨n, hn⟩ := key k _ x hkn
    have hx' : ∀ m, n ≤ m → iter _ _ = some x := fun m hm => iter_of (hn m hm)
    have hkk : ∃ n2, ∀ m, n2 ≤ m → exK none (fun i => Km m (.exit i) (envOf outs x.2.1 0 (e.only pass)) x.2.2) (Km m .ret (envOf outs x.2.1 0 (e.only pass)) x.2.2) x.1 = some r := by
      cases hx1 : x.1 with
      | normal => rw [hx1] at hk; cases hk
      | exit i => rw [hx1] at hk; exact hK _ _ _ _ hk
      | ret => rw [hx1] at hk; exact hK _ _ _ _ hk
    obtain ⟨n2, hn2⟩ := hkk
    exact ⟨max n n2, fun m hm => by rw [den_loop, hx' m (by omega)]; exact hn2 m (by omega)⟩
  | range it tup ok live inv outs pass y ih =>
    intro ρ K Km hK e S r h
    rw [den_range] at h
    have key : ∀ n vs S r, rangeK (e.get it) (fun t o vs S' Kn => den C b y (exK (fun e' S'' => Kn (e'.gets live) S'')
          (fun i e' S'' => K (.exit i) (envOf outs (e'.gets outs) 0 (e.only pass)) S'')
          (fun e' S'' => K .ret (envOf outs (e'.gets outs) 0 (e.only pass)) S''))
        (((envOf live vs 0 (e.only inv)).put (some tup) t).put (some ok) o) S') n vs S = some r → ∃ N, ∀ m, N ≤ m → rangeK (e.get it) (fun t o vs S' Kn => den (A m) b y (exK (fun e' S'' => Kn (e'.gets live) S'')
          (fun i e' S'' => Km m (.exit i) (envOf outs (e'.gets outs) 0 (e.only pass)) S'')
          (fun e' S'' => Km m .ret (envOf outs (e'.gets outs) 0 (e.only pass)) S''))
        (((envOf live vs 0 (e.only inv)).put (some tup) t).put (some ok) o) S') n vs S = some r := by
      intro n
      induction n with
      | zero =>
        intro vs S r h
        simp only [rangeK] at h ⊢
        split at h
        · rename_i hs
          obtain ⟨N, hN⟩ := ih _ (fun m => exK (fun e' S'' => none)
            (fun i e' S'' => Km m (.exit i) (envOf outs (e'.gets outs) 0 (e.only pass)) S'')
            (fun e' S'' => Km m .ret (envOf outs (e'.gets outs) 0 (e.only pass)) S'')) (fun x e S r hx => by
            cases x with
            | normal => cases hx
            | exit i => exact hK _ _ _ _ hx
            | ret => exact hK _ _ _ _ hx) _ _ _ h
          exact ⟨N, hN⟩
        · cases h
      | succ n ihn =>
        intro vs S r h
        simp only [rangeK] at h ⊢
        obtain ⟨l, hl1, hl2⟩ := bind_some_of h
        obtain ⟨hne, hall⟩ := agree_some.1 hl2
        obtain ⟨N, hN⟩ := forall_lim (P := fun m c => _) l fun c hc => ih _ (fun m => exK (fun e' S'' => rangeK (e.get it) (fun t o vs S' Kn => den (A m) b y (exK (fun e' S'' => Kn (e'.gets live) S'')
              (fun i e' S'' => Km m (.exit i) (envOf outs (e'.gets outs) 0 (e.only pass)) S'')
              (fun e' S'' => Km m .ret (envOf outs (e'.gets outs) 0 (e.only pass)) S''))
            (((envOf live vs 0 (e.only inv)).put (some tup) t).put (some ok) o) S') n (e'.gets live) S'')
            (fun i e' S'' => Km m (.exit i) (envOf outs (e'.gets outs) 0 (e.only pass)) S'')
            (fun e' S'' => Km m .ret (envOf outs (e'.gets outs) 0 (e.only pass)) S'')) (fun x e S r hx => by
            cases x with
            | normal => exact ihn _ _ _ hx
            | exit i => exact hK _ _ _ _ hx
            | ret => exact hK _ _ _ _ hx) _ _ _ (hall c hc)
        refine ⟨N, fun m hm => ?_⟩
        rw [hl1]
        exact agree_some.2 ⟨hne, hN m hm⟩
    obtain ⟨N, hN⟩ := key _ _ _ _ h
    exact ⟨N, fun m hm => by rw [den_range]; exact hN m hm⟩

theorem denF_fact {A : Nat → CallEnv} {C : CallEnv} (hl : Lim A C) (f : SFunc) (args : List AV) (S : Store) (r : AV × Store) (h : denF C f args S = some r) :
    ∃ n, ∀ m, n ≤ m → denF (A m) f args S = some r :=
  den_lim hl S.length f.body _ (fun _ => _) (fun x e S r hx => ⟨0, fun _ _ => hx⟩) _ _ _ h
end

section
variable (Y : Prg)

/-- More answers below, more answers above. -/
theorem Prg.step_le {A C : CallEnv} (h : Le A C) : Le (Y.step A) (Y.step C) := by
  intro f args S r hr
  unfold Prg.step at *
  split at hr
  · exact hr
  · split at hr
    · rename_i sf _
      obtain ⟨n, hn⟩ := denF_fact (A := fun _ => C) (fun f args S r hr => ⟨0, fun _ _ => h f args S r hr⟩) sf args S r hr
      exact hn n (Nat.le_refl _)
    · cases hr

theorem Prg.callN_le (n : Nat) : Le (Y.callN n) (Y.callN (n + 1)) := by
  induction n with
  | zero => intro f args S r h; simp [Prg.callN] at h
  | succ n ih => exact Y.step_le ih

theorem Prg.callN_mono {n m : Nat} (h : n ≤ m) : Le (Y.callN n) (Y.callN m) := by
  induction m with
  | zero => obtain rfl : n = 0 := by omega
            exact fun _ _ _ _ h => h
  | succ m ih =>
    by_cases e : n = m + 1
    · subst e; exact fun _ _ _ _ h => h
    · exact fun f a S r hr => Y.callN_le m f a S r (ih (by omega) f a S r hr)

theorem Prg.call_of {n : Nat} {f : Nat} {args : List AV} {S : Store} {r : AV × Store} (h : Y.callN n f args S = some r) : Y.call f args S = some r := by
  have hx : ∃ r n, Y.callN n f args S = some r := ⟨r, n, h⟩
  unfold Prg.call
  rw [dif_pos hx]
  obtain ⟨m, hm⟩ := Classical.choose_spec hx
  have h1 := Y.callN_mono (Nat.le_max_left n m) _ _ _ _ h
  have h2 := Y.callN_mono (Nat.le_max_right n m) _ _ _ _ hm
  rw [h1] at h2
  exact h2.symm

theorem Prg.call_some {f : Nat} {args : List AV} {S : Store} {r : AV × Store} (h : Y.call f args S = some r) : ∃ n, ∀ m, n ≤ m → Y.callN m f args S = some r := by
  unfold Prg.call at h
  split at h
  · rename_i hx
    obtain ⟨n, hn⟩ := Classical.choose_spec hx
    refine ⟨n, fun m hm => Y.callN_mono hm _ _ _ _ (by rw [hn]; exact h)⟩
  · cases h

/-- ████ A function is its own text. -/
theorem Prg.call_eq (f : Nat) (args : List AV) (S : Store) : Y.call f args S = Y.step Y.call f args S := by
  cases h : Y.step Y.call f args S with
  | some r =>
    have : ∃ n, Y.step (Y.callN n) f args S = some r := by
      unfold Prg.step at *
      split at h
      · exact ⟨0, h⟩
      · split at h
        · obtain ⟨n, hn⟩ := denF_fact (A := Y.callN) (fun f args S r hr => Y.call_some hr) _ args S r h
          exact ⟨n, hn n (Nat.le_refl _)⟩
        · cases h
    obtain ⟨n, hn⟩ := this
    exact Y.call_of (n := n + 1) hn
  | none =>
    cases hc : Y.call f args S with
    | none => rfl
    | some r =>
      obtain ⟨n, hn⟩ := Y.call_some hc
      have h1 := hn (n + 1) (by omega)
      have h2 := Y.step_le (A := Y.callN n) (C := Y.call) (fun f args S r hr => Y.call_of hr) f args S r h1
      rw [h] at h2
      cases h2

end
end Go.Abs

/-
  How the words of AbsCore reckon: rules for simp.
-/
namespace Go.Abs
open Go

attribute [simp] cellsOf imm1 imms low1 lows cell1 cells1 argV argVs fieldAV fieldV indexV indexSV sliceSV lenSV extractV nilcV isShift binI binV binB unV convV eq1 eqs eqcV fillC setC buildV immRows bsliceV bound sliceTok mxFits
  loadV loadIV storeV rowsOf lenV lenMV szOK ownCellV disownV fin1 fins resV condK guardK avoidB minmaxV minmaxGo entBelow entsBelow belows Option.bind_some Option.bind_none

@[simp] theorem pick_true {a b : AV} : pickV (.bool true) a b = some a := rfl
@[simp] theorem pick_false {a b : AV} : pickV (.bool false) a b = some b := rfl
@[simp] theorem pick_bool {c : Bool} {a b : AV} : pickV (.bool c) a b = some (if c then a else b) := by cases c <;> rfl

@[simp] theorem below_int {n : Nat} {k : IntKind} {x : Int} : below n (.int k x) = true := by simp [below]
@[simp] theorem below_bool {n : Nat} {x : Bool} : below n (.bool x) = true := by simp [below]
@[simp] theorem below_str {n : Nat} {x : List UInt8} : below n (.str x) = true := by simp [below]
@[simp] theorem below_ip {n : Nat} {c : List AV} {o : Nat} : below n (.ip c o) = true := by simp [below]
@[simp] theorem below_sl_none {n : Nat} {x : List (List AV)} : below n (.sl x .none) = true := by simp [below]
@[simp] theorem below_sl_full {n : Nat} {x : List (List AV)} : below n (.sl x .full) = true := by simp [below]
@[simp] theorem below_sl_own {n i : Nat} {x : List (List AV)} : below n (.sl x (.own i)) = Nat.blt i n := by simp [below]
@[simp] theorem below_ptr {n i o : Nat} : below n (.ptr i o) = Nat.blt i n := by simp [below]
@[simp] theorem below_osl {n i o l s : Nat} : below n (.osl i o l s) = Nat.blt i n := by simp [below]
@[simp] theorem below_map {n i : Nat} : below n (.map i) = Nat.blt i n := by simp [below]
@[simp] theorem below_nilp {n : Nat} : below n .nilp = true := by simp [below]
theorem belows_all {n : Nat} {l : List AV} : belows n l = l.all (below n) := by
  induction l with
  | nil => rfl
  | cons a l ih => simp [belows, ih]
@[simp] theorem below_agg {n : Nat} {c : List AV} : below n (.agg c) = belows n c := by
  rw [below, belows_all]
  simp [List.all_eq]
@[simp] theorem below_tup {n : Nat} {c : List AV} : below n (.tup c) = belows n c := by
  rw [below, belows_all]
  simp [List.all_eq]

@[simp] theorem take_some {n : Nat} {cs : List AV} {o : Nat} : takeC (some n) cs o = if o + n ≤ cs.length then some (.agg ((cs.drop o).take n)) else none := rfl
@[simp] theorem take_none {cs : List AV} {o : Nat} : takeC none cs o = cs[o]? := rfl

/-- A number that fits is not wrapped. -/
theorem wrap_i64 {x : Int} (h1 : -9223372036854775808 ≤ x) (h2 : x ≤ 9223372036854775807) : IntKind.i64.wrap x = x := by
  unfold IntKind.wrap IntKind.bits IntKind.signed
  simp only [ge_iff_le, Bool.true_and]
  split <;> simp at * <;> omega

@[simp] theorem still_same {S : Store} {v : AV} : still S (v, S) = some v := by simp [still]

end Go.Abs

/-
  Rules for reckoning with the printed functions: results, rounds, rows.
-/
namespace Go.Abs
open Go

/-! ### The order in which simp reckons: the head first, what follows behind it -/

theorem bind_head {α β : Type} {x y : Option α} {f : α → Option β} (h : x = y) : x.bind f = y.bind f := by rw [h]
theorem condK_head {ρ : Type} {c c' : AV} {x y : Option ρ} (h : c = c') : condK c x y = condK c' x y := by rw [h]
theorem guardK_head {ρ : Type} {g g' : AV} {w : Bool} {m s : Option ρ} (h : g = g') : guardK g w m s = guardK g' w m s := by rw [h]
theorem exK_head {κ : Type} {n r : κ} {x : Nat → κ} {e e' : Ex} (h : e = e') : exK n x r e = exK n x r e' := by rw [h]
attribute [congr] bind_head condK_head guardK_head exK_head

/-! ### Numbers -/

attribute [simp] isTup wrap_i64

/-- An integer of 64 bits. -/
def In64 (n : Int) : Prop := -9223372036854775808 ≤ n ∧ n ≤ 9223372036854775807

theorem wrap_in {n : Int} (h : In64 n) : IntKind.i64.wrap n = n := wrap_i64 h.1 h.2

theorem wrap_range (n : Int) : In64 (IntKind.i64.wrap n) := by
  unfold In64 IntKind.wrap IntKind.bits IntKind.signed
  simp only [ge_iff_le, Bool.true_and]
  split <;> simp at * <;> omega

theorem tdiv_bound {x n k : Int} (h1 : -n ≤ x) (h2 : x ≤ n) (hk : 1 ≤ k) : -n ≤ x.tdiv k ∧ x.tdiv k ≤ n := by
  have h0 : 0 ≤ n := by omega
  have a1 := Int.tmod_add_mul_tdiv x k
  by_cases hx : 0 ≤ x
  · have b1 := Int.tdiv_nonneg hx (show 0 ≤ k by omega)
    have b2 := Int.tmod_nonneg k hx
    have b3 : 1 * x.tdiv k ≤ k * x.tdiv k := Int.mul_le_mul_of_nonneg_right hk b1
    omega
  · have b1 : 0 ≤ (-x).tdiv k := Int.tdiv_nonneg (by omega) (show 0 ≤ k by omega)
    rw [Int.neg_tdiv] at b1
    have b2 := Int.tmod_nonneg k (show 0 ≤ -x by omega)
    rw [Int.neg_tmod] at b2
    have b3 : 1 * (-x.tdiv k) ≤ k * (-x.tdiv k) := Int.mul_le_mul_of_nonneg_right hk b1
    simp only [Int.mul_neg, Int.one_mul] at b3
    omega

/-! ### Results -/

@[simp] theorem outV_one {v : AV} : outV [v] = v := rfl
@[simp] theorem outV_two {u v : AV} : outV [u, v] = .tup [u, v] := rfl
@[simp] theorem outV_three {u v w : AV} : outV [u, v, w] = .tup [u, v, w] := rfl
@[simp] theorem outV_four {u v w x : AV} : outV [u, v, w, x] = .tup [u, v, w, x] := rfl
@[simp] theorem outV_nil : outV [] = .tup [] := rfl

/-- What a call hands back, its results known. -/
theorem finish_eq {n : Nat} {vs vs' : List AV} {S : Store} (h : fins n S vs = some vs') (hb : belows n vs' = true) : finish false n vs S = some (outV vs', S.take n) := by
  simp [finish, h, hb]

theorem finish_keep {n : Nat} {vs : List AV} {S : Store} (hb : belows n vs = true) : finish true n vs S = some (outV vs, S.take n) := by
  simp [finish, hb]

theorem finish_up {n : Nat} {vs vs' : List AV} {S : Store} (h : fins n S vs = some vs') (hb : belows n vs' = false) (ho : noOsl n vs = true) : finish false n vs S = some (outV vs', S) := by
  simp [finish, h, hb, ho]

@[simp] theorem finish_int {S : Store} {k : IntKind} {x : Int} : finish false S.length [.int k x] S = some (.int k x, S) := by simp [finish]
@[simp] theorem finish_bool {S : Store} {x : Bool} : finish false S.length [.bool x] S = some (.bool x, S) := by simp [finish]
@[simp] theorem finish_str {S : Store} {x : List UInt8} : finish false S.length [.str x] S = some (.str x, S) := by simp [finish]
@[simp] theorem finish_two {S : Store} {k : IntKind} {x : Int} {b : Bool} : finish false S.length [.int k x, .bool b] S = some (.tup [.int k x, .bool b], S) := by simp [finish]

@[simp] theorem finish_int' {S : Store} {n : Nat} {k : IntKind} {x : Int} : finish false n [.int k x] S = some (.int k x, S.take n) := by simp [finish]
@[simp] theorem finish_bool' {S : Store} {n : Nat} {x : Bool} : finish false n [.bool x] S = some (.bool x, S.take n) := by simp [finish]
@[simp] theorem finish_str' {S : Store} {n : Nat} {x : List UInt8} : finish false n [.str x] S = some (.str x, S.take n) := by simp [finish]

theorem take_set {S : Store} {i n : Nat} {e : Ent} (h : S.length = n) : (S.set i e).take n = S.set i e := by
  rw [List.take_of_length_le]; simp [h]

/-! ### Rounds -/

section
variable {σ τ : Type}

/-- A loop whose rounds are known, up to the one that leaves it. -/
theorem iter_run {step : σ → Option (σ ⊕ τ)} (st : Nat → σ) {r : τ} : ∀ (m k : Nat), (∀ j, k ≤ j → j < k + m → step (st j) = some (.inl (st (j + 1)))) → step (st (k + m)) = some (.inr r) → iter step (st k) = some r
  | 0, k, _, h => by rw [iter_eq, show k = k + 0 from rfl, h]; rfl
  | m + 1, k, hs, h => by
    rw [iter_eq, hs k (Nat.le_refl _) (by omega)]
    exact iter_run st m (k + 1) (fun j h1 h2 => hs j (by omega) (by omega)) (by rw [show k + 1 + m = k + (m + 1) by omega]; exact h)

/-- A loop by an invariant and a measure. -/
theorem iter_inv {step : σ → Option (σ ⊕ τ)} (I : Nat → σ → Prop) (Q : τ → Prop) (h : ∀ k s, I k s → (∃ r, step s = some (.inr r) ∧ Q r) ∨ ∃ s' k', k' < k ∧ step s = some (.inl s') ∧ I k' s') :
    ∀ k s, I k s → ∃ r, iter step s = some r ∧ Q r := by
  intro k
  induction k using Nat.strongRecOn with
  | _ k ih =>
    intro s hs
    rw [iter_eq]
    rcases h k s hs with ⟨r, h1, h2⟩ | ⟨s', k', h1, h2, h3⟩
    · exact ⟨r, by rw [h1]; rfl, h2⟩
    · obtain ⟨r, h4, h5⟩ := ih k' h1 s' h3
      exact ⟨r, by rw [h2]; exact h4, h5⟩

end

/-- A loop that looks for the first k between a and n. -/
theorem iter_scan {τ : Type} {step : List AV × Store → Option ((List AV × Store) ⊕ τ)} {S : Store} (p : Nat → Bool) {rT : Nat → τ} {rE : τ} : ∀ (m a : Nat),
    (∀ k, a ≤ k → k < a + m → step ([i64 (k : Nat)], S) = if p k then some (.inr (rT k)) else some (.inl ([i64 ((k : Int) + 1)], S))) → step ([i64 ((a + m : Nat) : Int)], S) = some (.inr rE) →
    (∃ k, a ≤ k ∧ k < a + m ∧ p k = true ∧ (∀ j, a ≤ j → j < k → p j = false) ∧ iter step ([i64 (a : Nat)], S) = some (rT k)) ∨ ((∀ k, a ≤ k → k < a + m → p k = false) ∧ iter step ([i64 (a : Nat)], S) = some rE)
  | 0, a, _, h => .inr ⟨fun k h1 h2 => by omega, by rw [iter_eq]; simp only [Nat.add_zero] at h; rw [h]; rfl⟩
  | m + 1, a, hs, h => by
    have h0 := hs a (Nat.le_refl _) (by omega)
    cases hp : p a with
    | true =>
      rw [hp] at h0
      exact .inl ⟨a, Nat.le_refl _, by omega, hp, fun j h1 h2 => by omega, by rw [iter_eq, h0]; rfl⟩
    | false =>
      rw [hp] at h0
      have he : iter step ([i64 (a : Nat)], S) = iter step ([i64 ((a + 1 : Nat) : Int)], S) := by rw [iter_eq, h0]; simp
      rw [he]
      rcases iter_scan p m (a + 1) (fun k h1 h2 => hs k (by omega) (by omega)) (by rw [show a + 1 + m = a + (m + 1) by omega]; exact h) with ⟨k, h1, h2, h3, h4, h5⟩ | ⟨h1, h2⟩
      · exact .inl ⟨k, by omega, by omega, h3, fun j h6 h7 => by
          by_cases e : j = a
          · subst e; exact hp
          · exact h4 j (by omega) h7, h5⟩
      · exact .inr ⟨fun k h3 h4 => by
          by_cases e : k = a
          · subst e; exact hp
          · exact h1 k (by omega) (by omega), h2⟩

/-- The store cut back, if it may be. -/
theorem nextS_same {b : Nat} {vs : List AV} {S : Store} : nextS b S.length vs S = some (vs, S) := by
  unfold nextS; split <;> simp

theorem nextS_eq {b n : Nat} {vs : List AV} {S : Store} (h : S.length = n) : nextS b n vs S = some (vs, S) := by
  subst h; exact nextS_same

theorem blt_true {i n : Nat} (h : i < n) : Nat.blt i n = true := by simp [Nat.blt]; omega
theorem blt_false {i n : Nat} (h : n ≤ i) : Nat.blt i n = false := by rw [Bool.eq_false_iff]; simp [Nat.blt]; omega

/-! ### Rows -/

@[simp] theorem rowsOf_sl {xs : List (List AV)} {t : Tok} {S : Store} : rowsOf (.sl xs t) S = some xs := rfl

/-- A slice of numbers. -/
def ints (l : List Int) : List (List AV) := l.map fun n => [i64 n]
/-- A slice of strings. -/
def strs (l : List (List UInt8)) : List (List AV) := l.map fun s => [.str s]

@[simp] theorem ints_length {l : List Int} : (ints l).length = l.length := by simp [ints]
@[simp] theorem strs_length {l : List (List UInt8)} : (strs l).length = l.length := by simp [strs]

theorem at_nat {α : Type} (xs : List α) (i : Nat) : at? xs (i : Int) = xs[i]? := by simp [at?]

theorem at_of {α : Type} {xs : List α} {i : Int} (h0 : 0 ≤ i) (h : i.toNat < xs.length) : at? xs i = some xs[i.toNat] := by simp [at?, h0, h]

theorem at_ints {l : List Int} {v : Int} (h0 : 0 ≤ v) (h : v.toNat < l.length) : at? (ints l) v = some [i64 l[v.toNat]] := by
  rw [at_of h0 (by simpa using h)]; simp [ints]
theorem at_strs {l : List (List UInt8)} {v : Int} (h0 : 0 ≤ v) (h : v.toNat < l.length) : at? (strs l) v = some [.str l[v.toNat]] := by
  rw [at_of h0 (by simpa using h)]; simp [strs]

@[simp] theorem take_set_len {S : Store} {i : Nat} {e : Ent} : (S.set i e).take S.length = S.set i e := take_set rfl
@[simp] theorem take_app_len {S es : Store} : (S ++ es).take S.length = S := by simp
@[simp] theorem take_set_app {S es : Store} {i : Nat} {e : Ent} : (S.set i e ++ es).take S.length = S.set i e := by
  rw [List.take_append_of_le_length (by simp), take_set_len]

/-! ### The first of a list -/

/-- Where the first is that p takes (the length, if there is none). -/
def idxN {α : Type} (p : α → Bool) : List α → Nat
  | [] => 0
  | x :: l => bif p x then 0 else idxN p l + 1

def idxP {α : Type} (p : α → Bool) (l : List α) : Int := if idxN p l < l.length then (idxN p l : Int) else -1

theorem idxN_le {α : Type} (p : α → Bool) (l : List α) : idxN p l ≤ l.length := by
  induction l with
  | nil => simp [idxN]
  | cons x l ih => cases hx : p x <;> simp [idxN, hx]; exact ih

theorem idxN_before {α : Type} (p : α → Bool) (l : List α) {j : Nat} (h : j < idxN p l) (hj : j < l.length) : p l[j] = false := by
  induction l generalizing j with
  | nil => simp at hj
  | cons x l ih =>
    simp only [idxN] at h
    cases hx : p x with
    | true => rw [hx] at h; simp at h
    | false =>
      rw [hx] at h
      cases j with
      | zero => exact hx
      | succ j => exact ih (by simpa using h) (by simpa using hj)

theorem idxN_at {α : Type} (p : α → Bool) (l : List α) (h : idxN p l < l.length) : p l[idxN p l] = true := by
  induction l with
  | nil => simp at h
  | cons x l ih =>
    cases hx : p x with
    | true => simp [idxN, hx]
    | false =>
      simp only [idxN, hx, cond_false, List.length_cons] at h
      have := ih (by omega)
      simpa [idxN, hx] using this

theorem idxN_any {α : Type} (p : α → Bool) (l : List α) : (idxN p l < l.length) ↔ l.any p = true := by
  induction l with
  | nil => simp [idxN]
  | cons x l ih =>
    cases hx : p x with
    | true => simp [idxN, hx]
    | false => simp only [idxN, hx, cond_false, List.length_cons, List.any_cons, Bool.false_or, ← ih]; omega

theorem idxP_any {α : Type} (p : α → Bool) (l : List α) : decide (0 ≤ idxP p l) = l.any p := by
  unfold idxP
  by_cases h : idxN p l < l.length
  · rw [if_pos h, (idxN_any p l).1 h]; simp
  · rw [if_neg h]
    have : l.any p = false := by rw [Bool.eq_false_iff]; exact fun h2 => h ((idxN_any p l).2 h2)
    simp [this]

end Go.Abs

/-
  slices.SortFunc at rows of whole numbers, where no two elements are alike: its reading.
-/
namespace Go.Abs
open Go

/-- A row's numbers. -/
def intRow (φ : Int → Int) : List AV → Option (List Int)
  | [] => some []
  | .int .i64 n :: r => if φ n = n then (intRow φ r).bind fun l => some (n :: l) else none
  | _ => none

def intRows (φ : Int → Int) : List (List AV) → Option (List (List Int))
  | [] => some []
  | r :: l => (intRow φ r).bind fun k => (intRows φ l).bind fun m => some (k :: m)

def keyOf (ks : List Nat) (l : List Int) : List Int := ks.map fun k => l.getD k 0

def ltK : List Int → List Int → Bool
  | a :: as_, b :: bs => decide (a < b) || (a == b && ltK as_ bs)
  | _, _ => false

def insK (ks : List Nat) (r : List Int) : List (List Int) → List (List Int)
  | [] => [r]
  | x :: l => bif ltK (keyOf ks r) (keyOf ks x) then r :: x :: l else x :: insK ks r l

def sortK (ks : List Nat) : List (List Int) → List (List Int)
  | [] => []
  | r :: l => insK ks r (sortK ks l)

def incrK (ks : List Nat) : List (List Int) → Bool
  | [] => true
  | x :: l => (match l with | [] => true | y :: _ => ltK (keyOf ks x) (keyOf ks y)) && incrK ks l

def sortedBy (φ : Int → Int) (ks : List Nat) (rows : List (List AV)) : Option (List (List AV)) :=
  (intRows φ rows).bind fun l => bif incrK ks (sortK ks l) then some ((sortK ks l).map fun r => r.map fun n => .int .i64 n) else none

/-- 'ks': the places of the cells that the closure f compares, in turn · 'φ': what numbers are taken. -/
def sortG (φ : Int → Int) (sz : Nat) (ks : List Nat) (f : Nat) (args : List AV) (S : Store) : Option (AV × Store) :=
  match args with
  | [.sl [] _, .clo g []] => bif Nat.beq g f then some (.tup [], S) else none
  | [.osl i o l s, .clo g []] =>
    bif Nat.beq g f && Nat.beq s sz then
      match S[i]? with
      | some (.obj cs) => if o + l * sz ≤ cs.length ∧ l < 4611686018427387904 then (sortedBy φ ks (chunks sz (cs.drop o) l)).bind fun rows => some (.tup [], S.set i (.obj (setC cs o rows.flatten))) else none
      | _ => none
    else none
  | _ => none

def sortV (sz : Nat) (ks : List Nat) (f : Nat) : List AV → Store → Option (AV × Store) := sortG (fun n => n) sz ks f

/-! ### The order -/

theorem ltK_irrefl : ∀ a : List Int, ltK a a = false
  | [] => rfl
  | x :: a => by simp [ltK, ltK_irrefl a]

theorem ltK_trans : ∀ {a b c : List Int}, ltK a b = true → ltK b c = true → ltK a c = true
  | [], _, _, h, _ => by simp [ltK] at h
  | _ :: _, [], _, h, _ => by simp [ltK] at h
  | _ :: _, _ :: _, [], _, h => by simp [ltK] at h
  | x :: a, y :: b, z :: c, h1, h2 => by
    simp only [ltK, Bool.or_eq_true, decide_eq_true_eq, Bool.and_eq_true, beq_iff_eq] at *
    rcases h1 with h1 | ⟨rfl, h1⟩
    · rcases h2 with h2 | ⟨rfl, h2⟩ <;> (left; omega)
    · rcases h2 with h2 | ⟨rfl, h2⟩
      · left; omega
      · right; exact ⟨rfl, ltK_trans h1 h2⟩

theorem ltK_ntrans : ∀ {a b c : List Int}, a.length = b.length → b.length = c.length → ltK a b = false → ltK b c = false → ltK a c = false
  | [], _, _, _, _, _, _ => by simp [ltK]
  | _ :: _, [], _, h, _, _, _ => by simp at h
  | _ :: _, _ :: _, [], _, h, _, _ => by simp at h
  | x :: a, y :: b, z :: c, l1, l2, h1, h2 => by
    simp only [ltK, Bool.or_eq_false_iff, decide_eq_false_iff_not, Bool.and_eq_false_iff, beq_eq_false_iff_ne] at *
    refine ⟨by omega, ?_⟩
    by_cases hxz : x = z
    · subst hxz
      have hxy : x = y := by omega
      subst hxy
      right
      exact ltK_ntrans (by simpa using l1) (by simpa using l2) (by rcases h1.2 with h | h; exact absurd rfl h; exact h) (by rcases h2.2 with h | h; exact absurd rfl h; exact h)
    · exact .inl hxz

theorem keyOf_length {ks : List Nat} (l : List Int) : (keyOf ks l).length = ks.length := by simp [keyOf]

theorem insK_perm (ks : List Nat) (r : List Int) : ∀ l, (insK ks r l).Perm (r :: l)
  | [] => .refl _
  | x :: l => by
    simp only [insK]
    cases ltK (keyOf ks r) (keyOf ks x) with
    | true => exact .refl _
    | false => exact ((insK_perm ks r l).cons x).trans (.swap r x l)

theorem sortK_perm (ks : List Nat) : ∀ l, (sortK ks l).Perm l
  | [] => .refl _
  | r :: l => (insK_perm ks r _).trans ((sortK_perm ks l).cons r)

theorem incrK_pairwise (ks : List Nat) : ∀ l, incrK ks l = true → l.Pairwise fun a b => ltK (keyOf ks a) (keyOf ks b) = true
  | [], _ => .nil
  | [x], _ => by simp
  | x :: y :: l, h => by
    simp only [incrK, Bool.and_eq_true] at h
    have ih := incrK_pairwise ks (y :: l) (by simp only [incrK, Bool.and_eq_true]; exact h.2)
    refine List.Pairwise.cons (fun z hz => ?_) ih
    rcases List.mem_cons.1 hz with rfl | hz
    · exact h.1
    · exact ltK_trans h.1 ((List.pairwise_cons.1 ih).1 z hz)

/-- A list that ascends strictly is the only one of its elements that nowhere descends. -/
theorem sorted_unique {α : Type} {lt : α → α → Bool} : ∀ {s d : List α}, s.Pairwise (fun a b => lt a b = true) → d.Pairwise (fun a b => lt b a = false) → d.Perm s → d = s
  | [], d, _, _, hp => hp.eq_nil
  | a :: s, [], _, _, hp => by simpa using hp.length_eq
  | a :: s, b :: d, hs, hd, hp => by
    have hs' := List.pairwise_cons.1 hs
    have hd' := List.pairwise_cons.1 hd
    have hab : b = a := by
      have h1 : b ∈ a :: s := hp.mem_iff.1 (by simp)
      have h2 : a ∈ b :: d := hp.mem_iff.2 (by simp)
      rcases List.mem_cons.1 h1 with h1 | h1
      · exact h1
      · rcases List.mem_cons.1 h2 with h2 | h2
        · exact h2.symm
        · have e1 := hs'.1 b h1
          have e2 := hd'.1 a h2
          rw [e1] at e2; cases e2
    subst hab
    rw [sorted_unique hs'.2 hd'.2 (List.Perm.cons_inv hp)]

theorem sorted_unique' {ks : List Nat} {l d : List (List Int)} (hi : incrK ks (sortK ks l) = true) (hd : d.Pairwise fun a b => ltK (keyOf ks b) (keyOf ks a) = false) (hp : d.Perm l) : d = sortK ks l :=
  sorted_unique (lt := fun a b => ltK (keyOf ks a) (keyOf ks b)) (incrK_pairwise ks _ hi) hd (hp.trans (sortK_perm ks l).symm)

theorem intRow_spec {φ : Int → Int} : ∀ {r : List AV} {l : List Int}, intRow φ r = some l → r = l.map (fun n => AV.int .i64 n) ∧ ∀ n ∈ l, φ n = n
  | [], l, h => by simp only [intRow, Option.some.injEq] at h; subst h; simp
  | x :: r, l, h => by
    unfold intRow at h
    split at h
    · rename_i h1; cases h1
    · rename_i n r' h1
      cases h1
      split at h
      · rename_i hn
        obtain ⟨l', h2, h3⟩ := Option.bind_eq_some_iff.1 h
        cases h3
        obtain ⟨e1, e2⟩ := intRow_spec h2
        refine ⟨by rw [e1]; rfl, fun m hm => ?_⟩
        rcases List.mem_cons.1 hm with rfl | hm
        · exact hn
        · exact e2 m hm
      · cases h
    · cases h

theorem intRows_spec {φ : Int → Int} : ∀ {rs : List (List AV)} {l : List (List Int)}, intRows φ rs = some l → rs = l.map (fun r => r.map fun n => AV.int .i64 n) ∧ ∀ r ∈ l, ∀ n ∈ r, φ n = n
  | [], l, h => by simp only [intRows, Option.some.injEq] at h; subst h; simp
  | r :: rs, l, h => by
    obtain ⟨k, h1, h⟩ := Option.bind_eq_some_iff.1 h
    obtain ⟨m, h2, h⟩ := Option.bind_eq_some_iff.1 h
    cases h
    obtain ⟨e1, e2⟩ := intRow_spec h1
    obtain ⟨e3, e4⟩ := intRows_spec h2
    refine ⟨by rw [e1, e3]; rfl, fun x hx => ?_⟩
    rcases List.mem_cons.1 hx with rfl | hx
    · exact e2
    · exact e4 x hx

end Go.Abs

/-
  Elements of reports, in plain Lean.
-/
namespace Go.Abs
open Go

/-- A reading: its element and its value. -/
abbrev Rd := Int × Int

def rds (l : List Rd) : List (List AV) := l.map fun r => [i64 r.1, i64 r.2]

@[simp] theorem rds_length {l : List Rd} : (rds l).length = l.length := by simp [rds]
@[simp] theorem rds_nil : rds [] = [] := rfl
theorem rds_cons {r : Rd} {l : List Rd} : rds (r :: l) = [i64 r.1, i64 r.2] :: rds l := rfl
theorem rds_app {l m : List Rd} : rds (l ++ m) = rds l ++ rds m := by simp [rds]

theorem rds_row {l : List Rd} : ∀ x ∈ rds l, x.length = 2 ∧ imms x = some x := by
  intro x hx
  obtain ⟨r, _, rfl⟩ := List.mem_map.1 hx
  simp

def boundsL : List (Int × Int) := [(8000, 11000), (1800, 3300), (1800, 3300), (-1000, 1000), (-1000, 1000), (900, 1700), (2000, 3200), (2400, 3400), (2000, 3000), (4400, 6200), (2000, 2900)]

def lo (c : Int) : Int := (boundsL.getD (c - 1).toNat (0, 0)).1
def hi (c : Int) : Int := (boundsL.getD (c - 1).toNat (0, 0)).2
def letter (c : Int) : UInt8 := ([80, 84, 68, 69, 78, 65, 66, 70, 71, 74, 75] : List UInt8).getD (c - 1).toNat 0

/-- The error of a reading. -/
def checkP (r : Rd) : Int := if r.1 < 1 ∨ 11 < r.1 then 4 else if r.2 < lo r.1 ∨ hi r.1 < r.2 then 1 else 0

/-- Elements in order. -/
def incrR : List Rd → Bool
  | [] => true
  | x :: l => (match l with | [] => true | y :: _ => decide (x.1 < y.1)) && incrR l

/-- The error of readings. -/
def validP (l : List Rd) : Int := if l.any (fun r => checkP r == 4) then 4 else if l.any (fun r => checkP r == 1) then 1 else if incrR l then 0 else 8

/-- The value of the first reading of an element. -/
def findP (l : List Rd) (c : Int) : Option Int := (l.find? fun r => r.1 == c).map (·.2)

theorem elem_cases {c : Int} (h1 : 1 ≤ c) (h2 : c ≤ 11) : c = 1 ∨ c = 2 ∨ c = 3 ∨ c = 4 ∨ c = 5 ∨ c = 6 ∨ c = 7 ∨ c = 8 ∨ c = 9 ∨ c = 10 ∨ c = 11 := by omega

theorem incrR_iff {l : List Rd} : incrR l = true ↔ ∀ i (h : i + 1 < l.length), (l[i]).1 < (l[i + 1]).1 := by
  induction l with
  | nil => simp [incrR]
  | cons x l ih =>
    cases l with
    | nil => simp [incrR]
    | cons y l =>
      simp only [incrR, Bool.and_eq_true, decide_eq_true_eq] at ih ⊢
      constructor
      · rintro ⟨h1, h2⟩ i hi
        cases i with
        | zero => exact h1
        | succ i => exact (ih.1 h2) i (by simpa using hi)
      · intro h
        exact ⟨h 0 (by simp), ih.2 fun i hi => h (i + 1) (by simpa using hi)⟩

end Go.Abs

/-
  Reports, lines of readings, and which of them are rejected, in plain Lean.
-/
namespace Go.Abs
open Go

structure Rep where
  kind : Int
  name : List UInt8
  time : Int
  face : Int
  pa : Int
  pb : Int
  pc : Int
  rd : List Rd

def repR (r : Rep) : List AV := [i64 r.kind, .str r.name, i64 r.time, i64 r.face, i64 r.pa, i64 r.pb, i64 r.pc, .sl (rds r.rd) .none]
def reps (l : List Rep) : List (List AV) := l.map repR

@[simp] theorem reps_length {l : List Rep} : (reps l).length = l.length := by simp [reps]
@[simp] theorem repR_length {r : Rep} : (repR r).length = 8 := rfl
@[simp] theorem imms_repR {r : Rep} : imms (repR r) = some (repR r) := by simp [repR]
theorem reps_row {l : List Rep} : ∀ x ∈ reps l, x.length = 8 ∧ imms x = some x := by
  intro x hx
  obtain ⟨r, _, rfl⟩ := List.mem_map.1 hx
  simp
theorem at_reps {l : List Rep} {k : Nat} (h : k < l.length) : at? (reps l) (k : Int) = some (repR l[k]) := by
  rw [at_nat]; simp [reps, h]

/-- A report's numbers are of 64 bits; its readings are few. -/
structure Rep.Fit (r : Rep) : Prop where
  rd : r.rd.length ≤ 4611686018427387904

/-- The parameters of the quality control: the steps, the spikes, and what else there is. -/
structure Ctl where
  hops : Int
  steps : List Int
  spikes : List Int
  rest : List Int

def ctlC (k : Ctl) : List AV := i64 k.hops :: (k.steps ++ k.spikes ++ k.rest).map i64

structure Ctl.Fit (k : Ctl) : Prop where
  steps : k.steps.length = 12
  spikes : k.spikes.length = 12
  rest : k.rest.length = 16

theorem imms_i64s (l : List Int) : imms (l.map i64) = some (l.map i64) := by
  induction l with
  | nil => rfl
  | cons a l ih => simp [ih]

/-- A reading in a line: its report, its time, its value. -/
structure Pt where
  rep : Int
  time : Int
  val : Int

def ptR (p : Pt) : List AV := [i64 p.rep, i64 p.time, i64 p.val]
def pts (l : List Pt) : List (List AV) := l.map ptR
@[simp] theorem pts_length {l : List Pt} : (pts l).length = l.length := by simp [pts]
theorem at_pts {l : List Pt} {k : Nat} (h : k < l.length) : at? (pts l) (k : Int) = some (ptR l[k]) := by
  rw [at_nat]; simp [pts, h]

/-- Its numbers are those of readings that exist. -/
def Pt.Ok (p : Pt) : Prop := 0 ≤ p.time ∧ p.time ≤ 52595999 ∧ -1000 ≤ p.val ∧ p.val ≤ 11000

def sizeP (a b : Pt) : Int := max2 (a.val - b.val) (b.val - a.val)
def slowP (a b : Pt) (s : Int) : Bool := decide (sizeP a b ≤ s * ((b.time - a.time + 60 - 1).tdiv 60))

/-- The last good point when those up to i are looked at. -/
def okP (l : List Pt) (s : Int) (g i : Nat) : Bool :=
  slowP (l.getD g ⟨0, 0, 0⟩) (l.getD i ⟨0, 0, 0⟩) s || (decide (i + 1 < l.length) && slowP (l.getD i ⟨0, 0, 0⟩) (l.getD (i + 1) ⟨0, 0, 0⟩) s)

def goodP (l : List Pt) (s : Int) : Nat → Nat
  | 0 => 0
  | i + 1 => if okP l s (goodP l s i) (i + 1) = true then i + 1 else goodP l s i

theorem goodP_le (l : List Pt) (s : Int) : ∀ i, goodP l s i ≤ i
  | 0 => Nat.le_refl _
  | i + 1 => by
    have := goodP_le l s i
    unfold goodP
    split <;> omega

/-- The step rule rejects it. -/
def stepP (l : List Pt) (s : Int) (i : Nat) : Bool := !(goodP l s i == i)

theorem stepP_zero (l : List Pt) (s : Int) : stepP l s 0 = false := rfl

/-- The spike rule. -/
def spikeP (a b c : Pt) (p : Int) : Bool :=
  ((decide (b.val - a.val > p) && decide (b.val - c.val > p)) || (decide (a.val - b.val > p) && decide (c.val - b.val > p))) && decide (sizeP a c ≤ p)

def spkP (l : List Pt) (p : Int) (i : Nat) : Bool :=
  decide (0 < p) && (decide (0 < i) && (decide (i + 1 < l.length) && spikeP (l.getD (i - 1) ⟨0, 0, 0⟩) (l.getD i ⟨0, 0, 0⟩) (l.getD (i + 1) ⟨0, 0, 0⟩) p))

def rejP (l : List Pt) (s p : Int) (i : Nat) : Bool := (decide (0 < s) && stepP l s i) || spkP l p i

def inP (t : Int) : Bool := decide (0 ≤ t) && decide (t ≤ 52595999)

def possP (l : List Int) : Bool := !l.any fun n => decide (n < 0) || decide (10000 < n)

/-- The error of the first report whose readings have one. -/
def firstP : List Rep → Int
  | [] => 0
  | r :: l => if validP r.rd = 0 then firstP l else validP r.rd

/-- A name and a time (or an element). -/
abbrev Key := List UInt8 × Int

def keyR (r : Rep) : Key := (r.name, r.time)

def twiceP (l : List Rep) : Bool := !decide (l.map keyR).Nodup

def addK (ks : List Key) (x : Key) : List Key := if x ∈ ks then ks else ks ++ [x]
def seenK (l : List Key) : List Key := l.foldl addK []

theorem foldK_le : ∀ (l acc : List Key), (l.foldl addK acc).length ≤ acc.length + l.length
  | [], acc => by simp
  | x :: l, acc => by
    have := foldK_le l (addK acc x)
    have h : (addK acc x).length ≤ acc.length + 1 := by unfold addK; split <;> simp
    simp only [List.foldl_cons, List.length_cons]
    omega

theorem foldK_nodup : ∀ (l acc : List Key), acc.Nodup → ((l.foldl addK acc).length = acc.length + l.length ↔ (acc ++ l).Nodup)
  | [], acc, h => by simp [h]
  | x :: l, acc, h => by
    simp only [List.foldl_cons, List.length_cons]
    by_cases hx : x ∈ acc
    · have h1 : addK acc x = acc := by simp [addK, hx]
      rw [h1]
      have := foldK_le l acc
      constructor
      · intro h2; omega
      · intro h2
        have := (List.nodup_append.1 h2).2.2 x hx x (by simp)
        exact absurd rfl this
    · have h1 : addK acc x = acc ++ [x] := by simp [addK, hx]
      rw [h1]
      have h2 : (acc ++ [x]).Nodup := by
        rw [List.nodup_append]
        exact ⟨h, by simp, fun a ha b hb => by simp at hb; subst hb; intro e; subst e; exact hx ha⟩
      have := foldK_nodup l (acc ++ [x]) h2
      rw [List.append_assoc] at this
      rw [← show acc ++ [x] ++ l = acc ++ x :: l by simp, List.append_assoc, ← this]
      simp only [List.length_append, List.length_cons, List.length_nil]
      omega

theorem seenK_twice (l : List Rep) : decide (((seenK (l.map keyR)).length : Int) < (l.length : Int)) = twiceP l := by
  have h1 := foldK_nodup (l.map keyR) [] (by simp)
  have h2 := foldK_le (l.map keyR) []
  simp only [List.length_nil, Nat.zero_add, List.length_map, List.nil_append] at h1 h2
  unfold twiceP seenK
  by_cases h : (l.map keyR).Nodup
  · simp [h1.2 h, h]
  · have : (List.foldl addK [] (l.map keyR)).length ≠ l.length := fun e => h (h1.1 e)
    simp [h]
    omega

def kvS (x : Key) : AV := .agg [.str x.1, i64 x.2]

@[simp] theorem eqKey_kvS {x y : Key} : eqKey true [1, 0] (kvS x) (kvS y) = some (x == y) := by
  simp [eqKey, kvS, eqs, eq1]
  rfl

theorem findI_kvS (x : Key) : ∀ (es : List (AV × AV)) (ks : List Key) (i : Nat), es.map (·.1) = ks.map kvS → findI true [1, 0] (kvS x) es i = some (if x ∈ ks then some (i + ks.idxOf x) else none)
  | [], ks, i, h => by
    have : ks = [] := by cases ks with | nil => rfl | cons _ _ => simp at h
    subst this
    simp [findI]
  | e :: es, [], i, h => by simp at h
  | e :: es, k :: ks, i, h => by
    simp only [List.map_cons, List.cons.injEq] at h
    simp only [findI, h.1, eqKey_kvS, Option.bind_some]
    by_cases hk : x = k
    · subst hk; simp
    · have h1 : (x == k) = false := by simpa using hk
      rw [h1, cond_false, findI_kvS x es ks (i + 1) h.2]
      by_cases hm : x ∈ ks
      · simp [hm, List.idxOf_cons, show (k == x) = false by simpa using (fun e => hk e.symm)]
        omega
      · simp [hm, hk]

/-- The error of Check. -/
def examP (l : List Rep) (k : Ctl) : Int :=
  if possP k.steps && possP k.spikes then
    (if firstP l = 0 then (if l.all fun r => inP r.time then (if twiceP l then 5 else 0) else 1) else firstP l)
  else 1

end Go.Abs

/-
  Rules for rows in the store, for growing rows, and for walks over maps.
-/
namespace Go.Abs
open Go

/-- A loop of n rounds, by what is so of its states. -/
theorem iter_to {σ τ : Type} {step : σ → Option (σ ⊕ τ)} (I : Nat → σ → Prop) (Q : τ → Prop) (n : Nat) (h : ∀ k s, k < n → I k s → ∃ s', step s = some (.inl s') ∧ I (k + 1) s') (he : ∀ s, I n s → ∃ r, step s = some (.inr r) ∧ Q r) :
    ∀ k s, k ≤ n → I k s → ∃ r, iter step s = some r ∧ Q r := by
  have gen : ∀ m k s, k + m = n → I k s → ∃ r, iter step s = some r ∧ Q r := by
    intro m
    induction m with
    | zero =>
      intro k s hk hs
      obtain rfl : k = n := by omega
      obtain ⟨r, h1, h2⟩ := he s hs
      exact ⟨r, by rw [iter_eq, h1]; rfl, h2⟩
    | succ m ih =>
      intro k s hk hs
      obtain ⟨s', h1, h2⟩ := h k s (by omega) hs
      obtain ⟨r, h3, h4⟩ := ih (k + 1) s' (by omega) h2
      exact ⟨r, by rw [iter_eq, h1]; exact h3, h4⟩
  intro k s hk hs
  exact gen (n - k) k s (by omega) hs

theorem chunks_rows {sz : Nat} : ∀ {xs : List (List AV)}, (∀ x ∈ xs, x.length = sz) → ∀ rest, chunks sz (xs.flatten ++ rest) xs.length = xs
  | [], _, _ => rfl
  | x :: xs, h, rest => by
    have hx : x.length = sz := h x (by simp)
    simp only [List.flatten_cons, List.length_cons, chunks, List.append_assoc]
    rw [← hx, List.take_left, List.drop_left, hx, chunks_rows fun y hy => h y (by simp [hy])]

theorem flatten_length {sz : Nat} : ∀ {xs : List (List AV)}, (∀ x ∈ xs, x.length = sz) → xs.flatten.length = xs.length * sz
  | [], _ => by simp
  | x :: xs, h => by
    rw [List.flatten_cons, List.length_append, h x (by simp), flatten_length fun y hy => h y (by simp [hy]), List.length_cons, Nat.add_mul]
    omega

theorem rowsOf_flat {S : Store} {i sz : Nat} {xs : List (List AV)} (h : S[i]? = some (.obj xs.flatten)) (hw : ∀ x ∈ xs, x.length = sz) : rowsOf (.osl i 0 xs.length sz) S = some xs := by
  simp only [rowsOf, h, List.drop_zero]
  rw [if_pos (by rw [flatten_length hw]; omega)]
  have := chunks_rows hw []
  rw [List.append_nil] at this
  rw [this]

theorem immRows_self {sz : Nat} : ∀ {xs : List (List AV)}, (∀ x ∈ xs, x.length = sz ∧ imms x = some x) → immRows sz xs = some xs
  | [], _ => rfl
  | x :: xs, h => by
    obtain ⟨h1, h2⟩ := h x (by simp)
    simp only [immRows]
    rw [if_pos h1, h2, immRows_self fun y hy => h y (by simp [hy])]
    rfl

/-- A slice over an entry of the call's own, handed back. -/
theorem fin1_flat {S : Store} {n i sz : Nat} {xs : List (List AV)} (hn : n ≤ i) (h : S[i]? = some (.obj xs.flatten)) (hw : ∀ x ∈ xs, x.length = sz ∧ imms x = some x) : fin1 n S (.osl i 0 xs.length sz) = some (.sl xs .none) := by
  simp only [fin1, blt_false hn, cond_false, rowsOf_flat h fun x hx => (hw x hx).1, Option.bind_some, immRows_self hw]

/-! ### Rows of bools -/

def bools (l : List Bool) : List (List AV) := l.map fun b => [.bool b]
@[simp] theorem bools_length {l : List Bool} : (bools l).length = l.length := by simp [bools]
theorem bools_row {l : List Bool} : ∀ x ∈ bools l, x.length = 1 ∧ imms x = some x := by
  intro x hx
  obtain ⟨b, _, rfl⟩ := List.mem_map.1 hx
  simp
theorem at_bools {l : List Bool} {k : Nat} (h : k < l.length) : at? (bools l) (k : Int) = some [.bool l[k]] := by
  rw [at_nat]; simp [bools, h]
theorem bools_flat (l : List Bool) : (bools l).flatten = l.map .bool := by
  induction l with
  | nil => rfl
  | cons a l ih => simp only [bools, List.map_cons, List.flatten_cons] at *; rw [ih]; rfl
theorem zero_flat (n : Nat) : (List.replicate n [AV.bool false]).flatten = (List.replicate n false).map .bool := by
  induction n with
  | zero => rfl
  | succ n ih => rw [List.replicate_succ, List.flatten_cons, ih]; rfl

/-! ### Rows that grow -/

/-- A slice that append makes anew each time: it holds these rows; its entry lies from n on. -/
def Grow (n sz : Nat) (S : Store) (v : AV) (rows : List (List AV)) : Prop :=
  (rows = [] ∧ v = .sl [] .full) ∨ (rows ≠ [] ∧ ∃ i, n ≤ i ∧ v = .osl i 0 rows.length sz ∧ S[i]? = some (.obj rows.flatten))

theorem Grow.nil (n sz : Nat) (S : Store) : Grow n sz S (.sl [] .full) [] := .inl ⟨rfl, rfl⟩

theorem Grow.fin {n m sz : Nat} {S : Store} {v : AV} {rows : List (List AV)} (h : Grow n sz S v rows) (hm : m ≤ n) (hw : ∀ x ∈ rows, x.length = sz ∧ imms x = some x) : fin1 m S v = some (.sl rows (if rows = [] then .full else .none)) := by
  rcases h with ⟨rfl, rfl⟩ | ⟨h1, i, h2, rfl, h3⟩
  · rfl
  · rw [fin1_flat (by omega) h3 hw, if_neg h1]

/-- The slice does not lie over the entry j. -/
def NotOwn (v : AV) (j : Nat) : Prop := ∀ i o l sz, v = .osl i o l sz → j ≠ i

/-- append of one row or more: the rows grow; but for the elder row nothing turns. -/
theorem Grow.app {n sz : Nat} {S : Store} {v : AV} {rows ys : List (List AV)} {t : Tok} (h : Grow n sz S v rows) (hn : n ≤ S.length) (hw : ∀ x ∈ rows, x.length = sz) (hy : ∀ y ∈ ys, y.length = sz ∧ imms y = some y) (h0 : ys ≠ []) (hr : rows.length + ys.length ≤ room) :
    ∃ v' S', appendMV sz v (.sl ys t) S = some (v', S') ∧ Grow n sz S' v' (rows ++ ys) ∧ S.length ≤ S'.length ∧ (∀ j, j < n → S'[j]? = S[j]?) ∧ (∀ j, j < S.length → NotOwn v j → S'[j]? = S[j]?) ∧ (∀ j, j < S.length → NotOwn v' j) ∧ ∃ l, v' = .osl S.length 0 l sz := by
  have hi := immRows_self hy
  rcases h with ⟨rfl, rfl⟩ | ⟨h1, i, h2, rfl, h3⟩
  · refine ⟨.osl S.length 0 ys.length sz, S ++ [.obj ys.flatten], ?_, .inr ⟨by simpa using h0, S.length, hn, by simp, by simp⟩, by simp, fun j hj => ?_, fun j hj _ => ?_, fun j hj i o l s e => ?_, _, rfl⟩
    · have hem : ys.isEmpty = false := by cases ys with
        | nil => exact absurd rfl h0
        | cons => rfl
      simp only [appendMV, rowsOf_sl, Option.bind_some, hi]
      rw [if_pos (by simpa using hr), hem]
      rfl
    · rw [List.getElem?_append_left (by omega)]
    · rw [List.getElem?_append_left (by omega)]
    · cases e; omega
  · have hi' : i < S.length := (List.getElem?_eq_some_iff.1 h3).1
    refine ⟨.osl S.length 0 (rows.length + ys.length) sz, S.set i .dead ++ [.obj (rows ++ ys).flatten], ?_, .inr ⟨by simp [h1], S.length, hn, by simp, ?_⟩, by simp, fun j hj => ?_, fun j hj hno => ?_, fun j hj i o l s e => ?_, _, rfl⟩
    · simp only [appendMV, h3, rowsOf_sl, Option.bind_some, hi]
      have hfl := flatten_length hw
      have hpos : 0 < rows.length := List.length_pos_iff.2 h1
      rw [if_pos ⟨by trivial, hpos, by omega, hr⟩]
      rw [← hfl, List.take_length, ← List.flatten_append]
    · have : (S.set i Ent.dead).length = S.length := by simp
      rw [List.getElem?_append_right (by omega), this]
      simp
    · rw [List.getElem?_append_left (by simp; omega), List.getElem?_set_ne (by omega)]
    · have := hno _ _ _ _ rfl
      rw [List.getElem?_append_left (by simp; omega), List.getElem?_set_ne (by omega)]
    · cases e; omega

/-- A row of a slice over an entry. -/
theorem row_at {sz : Nat} : ∀ {xs : List (List AV)}, (∀ x ∈ xs, x.length = sz) → ∀ (k : Nat) (hk : k < xs.length), ((xs.flatten).drop (k * sz)).take sz = xs[k] ∧ k * sz + sz ≤ xs.flatten.length
  | [], _, k, hk => by simp at hk
  | x :: xs, h, 0, _ => by
    have hx : x.length = sz := h x (by simp)
    simp only [Nat.zero_mul, List.drop_zero, List.flatten_cons, List.getElem_cons_zero, Nat.zero_add, List.length_append]
    exact ⟨by rw [← hx, List.take_left], by omega⟩
  | x :: xs, h, k + 1, hk => by
    have hx : x.length = sz := h x (by simp)
    obtain ⟨h1, h2⟩ := row_at (xs := xs) (fun y hy => h y (by simp [hy])) k (by simpa using hk)
    simp only [List.flatten_cons, List.getElem_cons_succ, List.length_append]
    refine ⟨?_, by rw [Nat.add_mul]; omega⟩
    rw [Nat.add_mul, Nat.one_mul, Nat.add_comm (k * sz) sz, ← List.drop_drop]
    have : List.drop sz (x ++ xs.flatten) = xs.flatten := by rw [← hx, List.drop_left]
    rw [this, h1]

/-- The store turned elsewhere. -/
theorem Grow.keep {n sz : Nat} {S S' : Store} {v : AV} {rows : List (List AV)} (h : Grow n sz S v rows) (hS : ∀ j, n ≤ j → j < S.length → S'[j]? = S[j]?) : Grow n sz S' v rows := by
  rcases h with h | ⟨h1, i, h2, h3, h4⟩
  · exact .inl h
  · exact .inr ⟨h1, i, h2, h3, by rw [hS i h2 (List.getElem?_eq_some_iff.1 h4).1]; exact h4⟩

/-! ### Walks over maps -/

/-- A walk: whatever the order, what is so of n elements to go is so of one less behind a round. -/
theorem rangeK_rule {ρ : Type} {it : AV} {body : AV → AV → List AV → Store → (List AV → Store → Option ρ) → Option ρ} {r : ρ} (I : Nat → List AV → Store → Prop)
    (h0 : ∀ vs S, I 0 vs S → stepI it S = some [] ∧ body (.tup [.bool false]) (.bool false) vs (killI it S) (fun _ _ => none) = some r)
    (h1 : ∀ n vs S, I (n + 1) vs S → ∃ l, stepI it S = some l ∧ l ≠ [] ∧ ∀ c ∈ l, ∀ K : List AV → Store → Option ρ, (∀ vs' S', I n vs' S' → K vs' S' = some r) → body (.tup [.bool true, c.1, c.2.1]) (.bool true) vs c.2.2 K = some r) :
    ∀ n vs S, I n vs S → rangeK it body n vs S = some r
  | 0, vs, S, h => by
    obtain ⟨h2, h3⟩ := h0 vs S h
    simp only [rangeK, h2]
    exact h3
  | n + 1, vs, S, h => by
    obtain ⟨l, h2, h3, h4⟩ := h1 n vs S h
    simp only [rangeK, h2, Option.bind_some]
    exact agree_some.2 ⟨h3, fun c hc => h4 c hc _ fun vs' S' h' => rangeK_rule I h0 h1 n vs' S' h'⟩

/-- What a walk may meet next. -/
theorem stepI_eq {S : Store} {i m n : Nat} {seen : List Nat} {es : List (AV × AV)} (h1 : S[i]? = some (.iter m n seen)) (h2 : S[m]? = some (.map es)) (h3 : es.length = n) :
    stepI (.ptr i 0) S = some (((List.range n).filter fun j => !memN j seen).map fun j => ((es.getD j (.u, .u)).1, (es.getD j (.u, .u)).2, S.set i (.iter m n (seen ++ [j])))) := by
  simp [stepI, h1, h2, h3]

theorem memN_eq {n : Nat} {l : List Nat} : memN n l = decide (n ∈ l) := by
  induction l with
  | nil => simp [memN]
  | cons a l ih =>
    simp only [memN, ih, List.mem_cons]
    cases h : Nat.beq a n with
    | true => simp [Nat.eq_of_beq_eq_true h]
    | false =>
      have : ¬ n = a := fun e => by subst e; simp [Nat.beq_refl] at h
      simp [this]

/-- Those that are left: as_ many as_ were not met. -/
theorem left_length {n : Nat} {seen : List Nat} (hn : seen.Nodup) (hs : ∀ j ∈ seen, j < n) : ((List.range n).filter fun j => !memN j seen).length + seen.length = n := by
  have h1 : ((List.range n).filter fun j => !memN j seen).length + ((List.range n).filter fun j => memN j seen).length = n := by
    have := List.length_eq_countP_add_countP (fun j => !memN j seen) (l := List.range n)
    rw [List.countP_eq_length_filter, List.countP_eq_length_filter, List.length_range] at this
    simp only [Bool.not_eq_true', decide_not, Bool.decide_eq_false, Bool.not_not] at this
    exact this.symm
  have h2 : ((List.range n).filter fun j => memN j seen).Perm seen := by
    refine (List.perm_ext_iff_of_nodup (List.Pairwise.filter _ List.nodup_range) hn).2 fun j => ?_
    simp only [List.mem_filter, List.mem_range, memN_eq, decide_eq_true_eq]
    exact ⟨fun h => h.2, fun h => ⟨hs j h, h⟩⟩
  rw [← h2.length_eq]
  exact h1

end Go.Abs

/-
  Rules for reckoning with the printed functions step by step.
-/
namespace Go.Abs
open Go

theorem bind_of {α β : Type} {x : Option α} {f : α → Option β} {a : α} {r : Option β} (h : x = some a) (h2 : f a = r) : x.bind f = r := by rw [h]; exact h2
theorem cond_t {ρ : Type} {c : AV} {x y r : Option ρ} (h : c = .bool true) (h2 : x = r) : condK c x y = r := by rw [h]; exact h2
theorem cond_f {ρ : Type} {c : AV} {x y r : Option ρ} (h : c = .bool false) (h2 : y = r) : condK c x y = r := by rw [h]; exact h2
theorem ite_of {ρ : Type} {p : Prop} [Decidable p] {x y r : Option ρ} (h : p) (h2 : x = r) : (if p then x else y) = r := by rw [if_pos h]; exact h2
theorem guard_y {ρ : Type} {b w : Bool} {x y r : Option ρ} (hb : b = w) (h : x = r) : guardK (.bool b) w x y = r := by subst hb; cases b <;> simpa [guardK] using h
theorem guard_n {ρ : Type} {b w : Bool} {x y r : Option ρ} (hb : b ≠ w) (h : y = r) : guardK (.bool b) w x y = r := by cases b <;> cases w <;> first | exact absurd rfl hb | simpa [guardK] using h
theorem guard_u {ρ : Type} {w : Bool} {x y r : Option ρ} (h : y = r) : guardK .und w x y = r := by simpa [guardK] using h
theorem loadV_ip (n : Option Nat) (cs : List AV) (o : Nat) (S : Store) : loadV n (.ip cs o) S = takeC n cs o := rfl
end Go.Abs

/-
  Lines: the readings of a name and an element, in order of time.
-/
namespace Go.Abs
open Go

def ptI (p : Pt) : List Int := [p.rep, p.time, p.val]

theorem pts_ints (l : List Pt) : pts l = (l.map ptI).map fun r => r.map fun n => AV.int .i64 n := by simp [pts, ptR, ptI, Function.comp_def]

theorem pts_row {l : List Pt} : ∀ x ∈ pts l, x.length = 3 ∧ imms x = some x := by
  intro x hx
  obtain ⟨p, _, rfl⟩ := List.mem_map.1 hx
  simp [ptR]

theorem intRows_map (φ : Int → Int) (hφ : ∀ n, φ n = n) : ∀ l : List (List Int), intRows φ (l.map fun r => r.map fun n => AV.int .i64 n) = some l
  | [] => rfl
  | r :: l => by
    have h : ∀ r : List Int, intRow φ (r.map fun n => AV.int .i64 n) = some r := by
      intro r
      induction r with
      | nil => rfl
      | cons a r ih => simp [intRow, hφ, ih]
    simp [intRows, h, intRows_map φ hφ l]

/-! ### Sorted by time -/

def insT (p : Pt) : List Pt → List Pt
  | [] => [p]
  | x :: l => if p.time < x.time then p :: x :: l else x :: insT p l

def sortT : List Pt → List Pt
  | [] => []
  | p :: l => insT p (sortT l)

theorem insT_perm (p : Pt) : ∀ l, (insT p l).Perm (p :: l)
  | [] => .refl _
  | x :: l => by
    simp only [insT]
    split
    · exact .refl _
    · exact ((insT_perm p l).cons x).trans (.swap p x l)

theorem sortT_perm : ∀ l, (sortT l).Perm l
  | [] => .refl _
  | p :: l => (insT_perm p _).trans ((sortT_perm l).cons p)

theorem insT_sorted (p : Pt) : ∀ l : List Pt, l.Pairwise (fun a b => a.time ≤ b.time) → (insT p l).Pairwise (fun a b => a.time ≤ b.time)
  | [], _ => by simp [insT]
  | x :: l, h => by
    have h' := List.pairwise_cons.1 h
    simp only [insT]
    split
    · rename_i hlt
      refine List.Pairwise.cons (fun y hy => ?_) h
      rcases List.mem_cons.1 hy with rfl | hy
      · omega
      · have := h'.1 y hy; omega
    · rename_i hge
      refine List.Pairwise.cons (fun y hy => ?_) (insT_sorted p l h'.2)
      rcases List.mem_cons.1 ((insT_perm p l).mem_iff.1 hy) with rfl | hy
      · omega
      · exact h'.1 y hy

theorem sortT_sorted : ∀ l : List Pt, (sortT l).Pairwise (fun a b => a.time ≤ b.time)
  | [] => .nil
  | p :: l => insT_sorted p _ (sortT_sorted l)

theorem sortT_strict {l : List Pt} (h : (l.map (·.time)).Nodup) : (sortT l).Pairwise (fun a b => a.time < b.time) := by
  have h1 : ((sortT l).map (·.time)).Nodup := ((sortT_perm l).map _).nodup_iff.2 h
  have h2 := sortT_sorted l
  rw [List.Nodup, List.pairwise_map] at h1
  exact (h1.and h2).imp fun {a b} ⟨h3, h4⟩ => by omega

theorem ltK_time (a b : Pt) : ltK (Abs.keyOf [1] (ptI a)) (Abs.keyOf [1] (ptI b)) = decide (a.time < b.time) := by
  simp [Abs.keyOf, ptI, ltK]

theorem insK_time (p : Pt) : ∀ l : List Pt, insK [1] (ptI p) (l.map ptI) = (insT p l).map ptI
  | [] => rfl
  | x :: l => by
    simp only [List.map_cons, insK, insT, ltK_time]
    by_cases h : p.time < x.time
    · simp [h]
    · simp [h, insK_time p l]

theorem sortK_time : ∀ l : List Pt, sortK [1] (l.map ptI) = (sortT l).map ptI
  | [] => rfl
  | p :: l => by simp only [List.map_cons, sortK, sortT, sortK_time l, insK_time]

theorem incrK_of {ks : List Nat} : ∀ {l : List (List Int)}, l.Pairwise (fun a b => ltK (Abs.keyOf ks a) (Abs.keyOf ks b) = true) → incrK ks l = true
  | [], _ => rfl
  | [x], _ => rfl
  | x :: y :: l, h => by
    have h' := List.pairwise_cons.1 h
    simp only [incrK, Bool.and_eq_true]
    exact ⟨h'.1 y (by simp), by have := incrK_of h'.2; simpa only [incrK, Bool.and_eq_true] using this⟩

/-- The sort of a line. -/
theorem sortV_line {S : Store} {i f : Nat} {l : List Pt} (hi : S[i]? = some (.obj (pts l).flatten)) (h0 : l ≠ []) (hl : l.length ≤ 1000000) (hn : (l.map (·.time)).Nodup) :
    sortV 3 [1] f [.osl i 0 l.length 3, .clo f []] S = some (.tup [], S.set i (.obj (pts (sortT l)).flatten)) := by
  have hlen := flatten_length (sz := 3) (xs := pts l) fun x hx => (pts_row x hx).1
  have hch := chunks_rows (sz := 3) (xs := pts l) (fun x hx => (pts_row x hx).1) []
  rw [List.append_nil, pts_length] at hch
  have hs : sortedBy (fun n => n) [1] (pts l) = some (pts (sortT l)) := by
    unfold sortedBy
    rw [pts_ints, intRows_map _ (fun _ => rfl)]
    simp only [Option.bind_some, sortK_time]
    rw [incrK_of (by
      rw [List.pairwise_map]
      exact (sortT_strict hn).imp fun {a b} h => by rw [ltK_time]; simpa using h)]
    rw [pts_ints]
    rfl
  have hfl2 := flatten_length (sz := 3) (xs := pts (sortT l)) fun x hx => (pts_row x hx).1
  have hpl := (sortT_perm l).length_eq
  have hset : ∀ (cs vs : List AV), vs.length = cs.length → setC cs 0 vs = vs := by
    have gen : ∀ (vs pre cs : List AV), vs.length = cs.length → setC (pre ++ cs) pre.length vs = pre ++ vs := by
      intro vs
      induction vs with
      | nil => intro pre cs h; simp at h; simp [setC, List.eq_nil_of_length_eq_zero h.symm]
      | cons v vs ih =>
        intro pre cs h
        cases cs with
        | nil => simp at h
        | cons c cs =>
          simp only [setC]
          rw [List.set_append_right _ _ (Nat.le_refl _), Nat.sub_self, List.set_cons_zero]
          have := ih (pre ++ [v]) cs (by simpa using h)
          simpa using this
    intro cs vs h
    simpa using gen vs [] cs h
  unfold sortV sortG
  simp only [Nat.beq_refl, Bool.and_true, cond_true, hi, List.drop_zero, hch, hs, Option.bind_some]
  rw [if_pos ⟨by rw [hlen, pts_length]; omega, by omega⟩, hset _ _ (by rw [hfl2, hlen]; simp [hpl])]

/-! ### The readings of reports, each with its name and element -/

def entR (i : Nat) (r : Rep) : List (Key × Pt) := r.rd.map fun x => ((r.name, x.1), ⟨i, r.time, x.2⟩)

def allR : List Rep → Nat → List (Key × Pt)
  | [], _ => []
  | r :: l, i => entR i r ++ allR l (i + 1)

theorem allR_append : ∀ (l m : List Rep) (i : Nat), allR (l ++ m) i = allR l i ++ allR m (i + l.length)
  | [], m, i => by simp [allR]
  | r :: l, m, i => by
    simp only [List.cons_append, allR, allR_append l m (i + 1), List.append_assoc, List.length_cons]
    rw [show i + 1 + l.length = i + (l.length + 1) by omega]

theorem allR_take {l : List Rep} {k : Nat} (hk : k < l.length) : allR (l.take (k + 1)) 0 = allR (l.take k) 0 ++ entR k l[k] := by
  rw [List.take_succ_eq_append_getElem hk, allR_append]
  simp [allR, List.length_take, Nat.min_eq_left (Nat.le_of_lt hk)]

def ptsOf (d : List (Key × Pt)) (x : Key) : List Pt := (d.filter fun e => e.1 == x).map (·.2)

theorem ptsOf_append (d e : List (Key × Pt)) (x : Key) : ptsOf (d ++ e) x = ptsOf d x ++ ptsOf e x := by simp [ptsOf]

theorem ptsOf_one (y : Key) (p : Pt) (x : Key) : ptsOf [(y, p)] x = if y = x then [p] else [] := by
  simp only [ptsOf, List.filter_cons, List.filter_nil]
  by_cases h : y = x
  · simp [h]
  · simp [h]

/-- The line of a name and an element. -/
def lineP (l : List Rep) (x : Key) : List Pt := sortT (ptsOf (allR l 0) x)

theorem seenK_snoc (l : List Key) (x : Key) : seenK (l ++ [x]) = addK (seenK l) x := by simp [seenK]

theorem mem_addK {ks : List Key} {x y : Key} : y ∈ addK ks x ↔ y ∈ ks ∨ y = x := by
  unfold addK
  split
  · constructor
    · exact .inl
    · rintro (h | rfl) <;> assumption
  · simp

theorem mem_seenK {l : List Key} {x : Key} : x ∈ seenK l ↔ x ∈ l := by
  have : ∀ (l acc : List Key), x ∈ l.foldl addK acc ↔ x ∈ acc ∨ x ∈ l := by
    intro l
    induction l with
    | nil => simp
    | cons a l ih =>
      intro acc
      rw [List.foldl_cons, ih, mem_addK, List.mem_cons]
      constructor
      · rintro ((h | h) | h)
        · exact .inl h
        · exact .inr (.inl h)
        · exact .inr (.inr h)
      · rintro (h | h | h)
        · exact .inl (.inl h)
        · exact .inl (.inr h)
        · exact .inr h
  simpa [seenK] using this l []

theorem addK_nodup {ks : List Key} {x : Key} (h : ks.Nodup) : (addK ks x).Nodup := by
  unfold addK
  split
  · exact h
  · rename_i hx
    rw [List.nodup_append]
    exact ⟨h, by simp, fun a ha b hb => by simp at hb; subst hb; intro e; subst e; exact hx ha⟩

theorem seenK_nodup (l : List Key) : (seenK l).Nodup := by
  have : ∀ (l acc : List Key), acc.Nodup → (l.foldl addK acc).Nodup := by
    intro l
    induction l with
    | nil => exact fun _ h => h
    | cons a l ih => exact fun acc h => ih _ (addK_nodup h)
  exact this l [] (by simp)

end Go.Abs

/-
  The map from names and elements to lines, as_ it is made.
-/
namespace Go.Abs
open Go

def entL (d : List (Key × Pt)) (idx : Key → Nat) (x : Key) : AV × AV := (kvS x, .osl (idx x) 0 (ptsOf d x).length 3)

/-- What the store holds when the readings d are in the map of the entry n. -/
structure LinI (n : Nat) (d : List (Key × Pt)) (S : Store) (idx : Key → Nat) : Prop where
  map : S[n]? = some (.map ((seenK (d.map (·.1))).map (entL d idx)))
  obj : ∀ x ∈ seenK (d.map (·.1)), n < idx x ∧ S[idx x]? = some (.obj (pts (ptsOf d x)).flatten)
  inj : ∀ x ∈ seenK (d.map (·.1)), ∀ y ∈ seenK (d.map (·.1)), idx x = idx y → x = y

theorem ptsOf_ne {d : List (Key × Pt)} {x : Key} (h : x ∈ seenK (d.map (·.1))) : ptsOf d x ≠ [] := by
  rw [mem_seenK] at h
  obtain ⟨e, he, rfl⟩ := List.mem_map.1 h
  intro h2
  have : e.2 ∈ ptsOf d e.1 := List.mem_map.2 ⟨e, List.mem_filter.2 ⟨he, by simp⟩, rfl⟩
  rw [h2] at this
  cases this

theorem ptsOf_nil {d : List (Key × Pt)} {x : Key} (h : x ∉ seenK (d.map (·.1))) : ptsOf d x = [] := by
  rw [mem_seenK] at h
  unfold ptsOf
  rw [List.filter_eq_nil_iff.2 fun e he => ?_]
  · rfl
  · intro h2
    exact h (List.mem_map.2 ⟨e, he, by simpa using h2⟩)

theorem ptsOf_le (d : List (Key × Pt)) (x : Key) : (ptsOf d x).length ≤ d.length := by
  unfold ptsOf
  rw [List.length_map]
  exact List.length_filter_le _ _

theorem ptsOf_snoc_self (d : List (Key × Pt)) (x : Key) (p : Pt) : ptsOf (d ++ [(x, p)]) x = ptsOf d x ++ [p] := by rw [ptsOf_append, ptsOf_one, if_pos rfl]
theorem ptsOf_snoc_ne (d : List (Key × Pt)) {x y : Key} (p : Pt) (h : y ≠ x) : ptsOf (d ++ [(x, p)]) y = ptsOf d y := by rw [ptsOf_append, ptsOf_one, if_neg (fun e => h e.symm), List.append_nil]

theorem entL_ne {d : List (Key × Pt)} {idx : Key → Nat} {x y : Key} {p : Pt} {k : Nat} (h : y ≠ x) : entL (d ++ [(x, p)]) (fun z => if z = x then k else idx z) y = entL d idx y := by
  unfold entL
  rw [ptsOf_snoc_ne d p h]
  simp [h]

/-- One reading more. -/
theorem LinI.add {n : Nat} {d : List (Key × Pt)} {S : Store} {idx : Key → Nat} (h : LinI n d S idx) (x : Key) (p : Pt) (hd : d.length ≤ 1000000) :
    ∃ v0 st S1 v2 S2 S3 idx', mapEntryV (AV.sl [] .full) true [1, 0] (.map n) (kvS x) S = some (.tup [v0, st], S1) ∧ appendMV 3 v0 (.sl [ptR p] .full) S1 = some (v2, S2) ∧ entryStoreV n (.map n) st v2 S2 = some S3 ∧
      LinI n (d ++ [(x, p)]) S3 idx' ∧ S.length ≤ S3.length ∧ (∀ j, j < n → S3[j]? = S[j]?) ∧ S.length ≤ idx' x ∧ ∀ y, y ≠ x → idx' y = idx y := by
  obtain ⟨h1, h2, h3⟩ := h
  have hn : n < S.length := (List.getElem?_eq_some_iff.1 h1).1
  have hkeys : ((seenK (d.map (·.1))).map (entL d idx)).map (·.1) = (seenK (d.map (·.1))).map kvS := by simp [entL, Function.comp_def]
  have hf := findI_kvS x _ _ 0 hkeys
  have himm : immV (kvS x) = some (kvS x) := by simp [immV, kvS]
  have hrows : immRows 3 [ptR p] = some [ptR p] := by simp [immRows, ptR]
  have hb : Nat.blt n n = false := blt_false (Nat.le_refl _)
  have hsn : (d ++ [(x, p)]).map (·.1) = d.map (·.1) ++ [x] := by simp
  have hnd := seenK_nodup (d.map (·.1))
  have hidx : ∀ y ∈ seenK (d.map (·.1)), idx y < S.length := fun y hy => (List.getElem?_eq_some_iff.1 (h2 y hy).2).1
  by_cases hx : x ∈ seenK (d.map (·.1))
  · -- a line that is there
    have hi := List.idxOf_lt_length_iff.2 hx
    have hgi : (seenK (d.map (·.1)))[(seenK (d.map (·.1))).idxOf x] = x := List.getElem_idxOf hi
    obtain ⟨o1, o2⟩ := h2 x hx
    have hlen := flatten_length (sz := 3) (xs := pts (ptsOf d x)) fun y hy => (pts_row y hy).1
    rw [pts_length] at hlen
    have hpos : 0 < (ptsOf d x).length := List.length_pos_iff.2 (ptsOf_ne hx)
    have hle := ptsOf_le d x
    have hget : ((seenK (d.map (·.1))).map (entL d idx))[(seenK (d.map (·.1))).idxOf x]? = some (entL d idx x) := by
      rw [List.getElem?_map, List.getElem?_eq_getElem hi, hgi]; rfl
    refine ⟨AV.osl (idx x) 0 (ptsOf d x).length 3, i64 ((seenK (d.map (·.1))).idxOf x : Nat), S, AV.osl S.length 0 ((ptsOf d x).length + 1) 3, S.set (idx x) Ent.dead ++ [Ent.obj ((pts (ptsOf d x)).flatten ++ ptR p)],
      (S.set (idx x) Ent.dead ++ [Ent.obj ((pts (ptsOf d x)).flatten ++ ptR p)]).set n (Ent.map (((seenK (d.map (·.1))).map (entL d idx)).set ((seenK (d.map (·.1))).idxOf x) (kvS x, AV.osl S.length 0 ((ptsOf d x).length + 1) 3))),
      fun z => if z = x then S.length else idx z, ?_, ?_, ?_, ⟨?_, ?_, ?_⟩, ?_, ?_, by simp, fun y hy => by simp [hy]⟩
    · simp only [mapEntryV, h1, himm, Option.bind_some, hf, hx, if_true, Nat.zero_add, hget]
      have : ((seenK (d.map (·.1))).map (entL d idx)).set ((seenK (d.map (·.1))).idxOf x) (kvS x, (entL d idx x).2) = (seenK (d.map (·.1))).map (entL d idx) := by
        apply List.ext_getElem?
        intro j
        by_cases hj : (seenK (d.map (·.1))).idxOf x = j
        · subst hj
          rw [List.getElem?_set_self (by simpa using hi), hget]
          rfl
        · rw [List.getElem?_set_ne hj]
      rw [this]
      have : S.set n (Ent.map ((seenK (d.map (·.1))).map (entL d idx))) = S := by
        apply List.ext_getElem?
        intro j
        by_cases hj : n = j
        · subst hj; rw [List.getElem?_set_self hn, h1]
        · rw [List.getElem?_set_ne hj]
      rw [this]
      rfl
    · simp only [appendMV, o2, rowsOf_sl, Option.bind_some, hrows, List.length_cons, List.length_nil, Nat.zero_add]
      rw [if_pos ⟨by trivial, hpos, by omega, by have : room = 4294967296 := rfl; omega⟩, ← hlen, List.take_length]
      simp
    · have hne : idx x ≠ n := by omega
      have : (S.set (idx x) Ent.dead ++ [Ent.obj ((pts (ptsOf d x)).flatten ++ ptR p)])[n]? = some (Ent.map ((seenK (d.map (·.1))).map (entL d idx))) := by
        rw [List.getElem?_append_left (by simpa using hn), List.getElem?_set_ne hne, h1]
      simp only [entryStoreV, this, at_nat, hget, Option.bind_some, valM, hb, cond_false, cell1, Int.toNat_natCast]
      rfl
    · rw [List.getElem?_set_self (by simp; omega), hsn, seenK_snoc, addK, if_pos hx]
      congr 2
      apply List.ext_getElem (by simp)
      intro j j1 j2
      have hjl : j < (seenK (d.map (·.1))).length := by simpa using j1
      by_cases hj : (seenK (d.map (·.1))).idxOf x = j
      · subst hj
        rw [List.getElem_set_self, List.getElem_map, hgi]
        simp [entL, ptsOf_snoc_self]
      · rw [List.getElem_set_ne hj, List.getElem_map, List.getElem_map]
        have : (seenK (d.map (·.1)))[j] ≠ x := fun e => hj ((List.getElem_inj (h₀ := hi) (h₁ := hjl) hnd).1 (hgi.trans e.symm))
        rw [entL_ne this]
    · intro y hy
      rw [hsn, seenK_snoc, addK, if_pos hx] at hy
      by_cases hyx : y = x
      · subst hyx
        rw [if_pos rfl, List.getElem?_set_ne (by omega), ptsOf_snoc_self]
        refine ⟨hn, ?_⟩
        rw [List.getElem?_append_right (by simp)]
        simp [pts]
      · rw [if_neg hyx, ptsOf_snoc_ne d p hyx]
        obtain ⟨q1, q2⟩ := h2 y hy
        have : idx x ≠ idx y := fun e => hyx (h3 y hy x hx e.symm)
        refine ⟨q1, ?_⟩
        rw [List.getElem?_set_ne (by omega), List.getElem?_append_left (by simpa using hidx y hy), List.getElem?_set_ne this, q2]
    · intro y hy z hz hyz
      rw [hsn, seenK_snoc, addK, if_pos hx] at hy hz
      have b1 := hidx y hy
      have b2 := hidx z hz
      by_cases hyx : y = x <;> by_cases hzx : z = x <;> simp only [hyx, hzx, if_true, if_false] at hyz ⊢
      · omega
      · omega
      · exact h3 y hy z hz hyz
    · simp
    · intro j hj
      rw [List.getElem?_set_ne (by omega), List.getElem?_append_left (by simp; omega), List.getElem?_set_ne (by omega)]
  · -- a new line
    have hp0 := ptsOf_nil hx
    refine ⟨AV.sl [] .full, i64 ((seenK (d.map (·.1))).length : Nat), S.set n (Ent.map ((seenK (d.map (·.1))).map (entL d idx) ++ [(kvS x, AV.sl [] .full)])), AV.osl S.length 0 1 3,
      S.set n (Ent.map ((seenK (d.map (·.1))).map (entL d idx) ++ [(kvS x, AV.sl [] .full)])) ++ [Ent.obj (ptR p)],
      (S.set n (Ent.map ((seenK (d.map (·.1))).map (entL d idx) ++ [(kvS x, AV.sl [] .full)])) ++ [Ent.obj (ptR p)]).set n (Ent.map ((seenK (d.map (·.1))).map (entL d idx) ++ [(kvS x, AV.osl S.length 0 1 3)])),
      fun z => if z = x then S.length else idx z, ?_, ?_, ?_, ⟨?_, ?_, ?_⟩, ?_, ?_, by simp, fun y hy => by simp [hy]⟩
    · simp only [mapEntryV, h1, himm, Option.bind_some, hf, hx, if_false, List.length_map]
    · simp only [appendMV, rowsOf_sl, Option.bind_some, hrows, List.length_cons, List.length_nil, Nat.zero_add, List.length_set]
      rw [if_pos (by have : room = 4294967296 := rfl; omega)]
      simp
    · have e1 : (S.set n (Ent.map ((seenK (d.map (·.1))).map (entL d idx) ++ [(kvS x, AV.sl [] .full)])) ++ [Ent.obj (ptR p)])[n]? = some (Ent.map ((seenK (d.map (·.1))).map (entL d idx) ++ [(kvS x, AV.sl [] .full)])) := by
        rw [List.getElem?_append_left (by simpa using hn), List.getElem?_set_self hn]
      have e2 : ((seenK (d.map (·.1))).map (entL d idx) ++ [(kvS x, AV.sl [] .full)])[(seenK (d.map (·.1))).length]? = some (kvS x, AV.sl [] .full) := by
        rw [List.getElem?_append_right (by simp)]; simp
      have e3 : ((seenK (d.map (·.1))).map (entL d idx) ++ [(kvS x, AV.sl [] .full)]).set (seenK (d.map (·.1))).length (kvS x, AV.osl S.length 0 1 3) = (seenK (d.map (·.1))).map (entL d idx) ++ [(kvS x, AV.osl S.length 0 1 3)] := by
        rw [List.set_append_right _ _ (by simp)]; simp
      simp only [entryStoreV, e1, at_nat, e2, Option.bind_some, valM, hb, cond_false, cell1, Int.toNat_natCast, e3]
    · rw [List.getElem?_set_self (by simp; omega), hsn, seenK_snoc, addK, if_neg hx, List.map_append]
      congr 3
      · apply List.map_congr_left
        intro y hy
        have hyx : y ≠ x := fun e => hx (by rw [← e]; exact hy)
        rw [entL_ne hyx]
      · simp [entL, ptsOf_snoc_self, hp0]
    · intro y hy
      rw [hsn, seenK_snoc, mem_addK] at hy
      by_cases hyx : y = x
      · subst hyx
        rw [if_pos rfl, List.getElem?_set_ne (by omega), ptsOf_snoc_self, hp0]
        refine ⟨hn, ?_⟩
        rw [List.getElem?_append_right (by simp)]
        simp [pts]
      · have hy' : y ∈ seenK (d.map (·.1)) := by rcases hy with h | h; exact h; exact absurd h hyx
        rw [if_neg hyx, ptsOf_snoc_ne d p hyx]
        obtain ⟨q1, q2⟩ := h2 y hy'
        refine ⟨q1, ?_⟩
        rw [List.getElem?_set_ne (by omega), List.getElem?_append_left (by simpa using hidx y hy'), List.getElem?_set_ne (by omega), q2]
    · intro y hy z hz hyz
      rw [hsn, seenK_snoc, mem_addK] at hy hz
      by_cases hyx : y = x <;> by_cases hzx : z = x <;> simp only [hyx, hzx, if_true, if_false] at hyz ⊢
      · have hz' : z ∈ seenK (d.map (·.1)) := by rcases hz with h | h; exact h; exact absurd h hzx
        have := hidx z hz'; omega
      · have hy' : y ∈ seenK (d.map (·.1)) := by rcases hy with h | h; exact h; exact absurd h hyx
        have := hidx y hy'; omega
      · have hz' : z ∈ seenK (d.map (·.1)) := by rcases hz with h | h; exact h; exact absurd h hzx
        have hy' : y ∈ seenK (d.map (·.1)) := by rcases hy with h | h; exact h; exact absurd h hyx
        exact h3 y hy' z hz' hyz
    · simp
    · intro j hj
      rw [List.getElem?_set_ne (by omega), List.getElem?_append_left (by simp; omega), List.getElem?_set_ne (by omega)]

theorem LinI.nil (S : Store) (idx : Key → Nat) : LinI S.length [] (S ++ [.map []]) idx :=
  ⟨by simp [seenK], fun x hx => by simp [seenK] at hx, fun x hx => by simp [seenK] at hx⟩

theorem belowsM_false {n : Nat} : ∀ {l : List (AV × AV)} {e : AV × AV}, e ∈ l → below n e.2 = false → belowsM n l = false
  | [], _, h, _ => by cases h
  | a :: l, e, h, hb => by
    simp only [belowsM, Bool.and_eq_false_iff]
    rcases List.mem_cons.1 h with rfl | h
    · exact .inl hb
    · exact .inr (belowsM_false h hb)

theorem entsBelow_false {n : Nat} : ∀ {l : List Ent} {e : Ent}, e ∈ l → entBelow n e = false → entsBelow n l = false
  | [], _, h, _ => by cases h
  | a :: l, e, h, hb => by
    simp only [entsBelow, Bool.and_eq_false_iff]
    rcases List.mem_cons.1 h with rfl | h
    · exact .inl hb
    · exact .inr (entsBelow_false h hb)

/-- The store is not cut back: the map points behind. -/
theorem LinI.next {n m : Nat} {d : List (Key × Pt)} {S : Store} {idx : Key → Nat} (h : LinI n d S idx) (hm : n < m) {x : Key} (hx : x ∈ seenK (d.map (·.1))) (hi : m ≤ idx x) (vs : List AV) : nextS n m vs S = some (vs, S) := by
  have hn : n < S.length := (List.getElem?_eq_some_iff.1 h.map).1
  have hb : entsBelow m ((S.take m).drop n) = false := by
    refine entsBelow_false (e := .map ((seenK (d.map (·.1))).map (entL d idx))) ?_ ?_
    · have : ((S.take m).drop n)[0]? = some (.map ((seenK (d.map (·.1))).map (entL d idx))) := by
        rw [List.getElem?_drop, List.getElem?_take, if_pos (by omega)]
        exact h.map
      exact List.mem_of_getElem? this
    · simp only [entBelow]
      exact belowsM_false (e := entL d idx x) (List.mem_map.2 ⟨x, hx, rfl⟩) (by simp only [entL, below]; exact blt_false hi)
  simp [nextS, hb]

/-- The map with its lines in order. -/
structure LinesOf (n : Nat) (l : List Rep) (S : Store) (idx : Key → Nat) : Prop where
  map : S[n]? = some (.map ((seenK ((allR l 0).map (·.1))).map (entL (allR l 0) idx)))
  obj : ∀ x ∈ seenK ((allR l 0).map (·.1)), n < idx x ∧ S[idx x]? = some (.obj (pts (lineP l x)).flatten)

end Go.Abs

/-
  What holds of reports that are examined without an error.
-/
namespace Go.Abs
open Go

theorem checkP_zero {r : Rd} (h : checkP r = 0) : 1 ≤ r.1 ∧ r.1 ≤ 11 ∧ lo r.1 ≤ r.2 ∧ r.2 ≤ hi r.1 := by
  unfold checkP at h
  split at h
  · cases h
  · split at h
    · cases h
    · omega

theorem lo_ge {c : Int} (h1 : 1 ≤ c) (h2 : c ≤ 11) : -1000 ≤ lo c ∧ hi c ≤ 11000 ∧ lo c ≤ hi c := by
  rcases elem_cases h1 h2 with rfl | rfl | rfl | rfl | rfl | rfl | rfl | rfl | rfl | rfl | rfl <;> decide

theorem checkP_cases (r : Rd) : checkP r = 0 ∨ checkP r = 1 ∨ checkP r = 4 := by
  unfold checkP; split
  · exact .inr (.inr rfl)
  · split
    · exact .inr (.inl rfl)
    · exact .inl rfl

theorem validP_zero {l : List Rd} (h : validP l = 0) : (∀ r ∈ l, checkP r = 0) ∧ incrR l = true := by
  unfold validP at h
  split at h
  · cases h
  · rename_i h4
    split at h
    · cases h
    · rename_i h1
      split at h
      · rename_i hi
        refine ⟨fun r hr => ?_, hi⟩
        simp only [List.any_eq_true, not_exists, not_and, beq_iff_eq] at h4 h1
        rcases checkP_cases r with h | h | h
        · exact h
        · exact absurd h (h1 r hr)
        · exact absurd h (h4 r hr)
      · cases h

theorem incrR_pairwise {l : List Rd} (h : incrR l = true) : l.Pairwise fun a b => a.1 < b.1 := by
  induction l with
  | nil => exact .nil
  | cons x l ih =>
    cases l with
    | nil => simp
    | cons y l =>
      simp only [incrR, Bool.and_eq_true, decide_eq_true_eq] at h ih
      have ih := ih (by simpa using h.2)
      refine List.Pairwise.cons (fun z hz => ?_) ih
      rcases List.mem_cons.1 hz with rfl | hz
      · exact h.1
      · have := (List.pairwise_cons.1 ih).1 z hz; omega

/-- Reports without an error. -/
structure Good (l : List Rep) : Prop where
  valid : ∀ r ∈ l, validP r.rd = 0
  time : ∀ r ∈ l, 0 ≤ r.time ∧ r.time ≤ 52595999
  once : (l.map keyR).Nodup

theorem mem_allR {l : List Rep} {i : Nat} {e : Key × Pt} : e ∈ allR l i ↔ ∃ j r x, l[j]? = some r ∧ x ∈ r.rd ∧ e = ((r.name, x.1), ⟨((i + j : Nat) : Int), r.time, x.2⟩) := by
  induction l generalizing i with
  | nil => simp [allR]
  | cons a l ih =>
    simp only [allR, List.mem_append, ih, entR, List.mem_map]
    constructor
    · rintro (⟨x, hx, rfl⟩ | ⟨j, r, x, h1, h2, rfl⟩)
      · exact ⟨0, a, x, rfl, hx, rfl⟩
      · exact ⟨j + 1, r, x, by simpa using h1, h2, by rw [show i + 1 + j = i + (j + 1) by omega]⟩
    · rintro ⟨j, r, x, h1, h2, rfl⟩
      cases j with
      | zero =>
        simp only [List.getElem?_cons_zero, Option.some.injEq] at h1
        subst h1
        exact .inl ⟨x, h2, rfl⟩
      | succ j => exact .inr ⟨j, r, x, by simpa using h1, h2, by rw [show i + 1 + j = i + (j + 1) by omega]⟩

theorem mem_ptsOf {d : List (Key × Pt)} {x : Key} {p : Pt} : p ∈ ptsOf d x ↔ (x, p) ∈ d := by
  simp only [ptsOf, List.mem_map, List.mem_filter, beq_iff_eq]
  constructor
  · rintro ⟨⟨a, b⟩, ⟨h1, rfl⟩, rfl⟩; exact h1
  · intro h; exact ⟨(x, p), ⟨h, rfl⟩, rfl⟩

theorem ent_once {r : Rep} {i : Nat} {x : Key} (h : validP r.rd = 0) : (ptsOf (entR i r) x).length ≤ 1 := by
  have hp := incrR_pairwise (validP_zero h).2
  unfold entR ptsOf
  rw [List.length_map, List.filter_map, List.length_map]
  generalize r.rd = l at hp
  induction l with
  | nil => simp
  | cons a l ih =>
    have hp' := List.pairwise_cons.1 hp
    rw [List.filter_cons]
    split
    · rename_i hax
      rw [List.filter_eq_nil_iff.2 fun b hb => ?_]
      · simp
      · have := hp'.1 b hb
        simp only [Function.comp, beq_iff_eq, Prod.ext_iff] at hax ⊢
        omega
    · exact ih hp'.2

theorem times_nodup : ∀ {l : List Rep} (i : Nat), (∀ r ∈ l, validP r.rd = 0) → (l.map keyR).Nodup → ∀ x, ((ptsOf (allR l i) x).map (·.time)).Nodup
  | [], _, _, _, x => by simp [allR, ptsOf]
  | r :: l, i, hv, hn, x => by
    rw [List.map_cons, List.nodup_cons] at hn
    have ih := times_nodup (i + 1) (fun r hr => hv r (by simp [hr])) hn.2 x
    rw [allR, ptsOf_append, List.map_append, List.nodup_append]
    have h1 := ent_once (i := i) (x := x) (hv r (by simp))
    refine ⟨?_, ih, fun a ha b hb hab => ?_⟩
    · match hm : ptsOf (entR i r) x, h1 with
      | [], _ => simp
      | [p], _ => simp
      | _ :: _ :: _, h => rw [hm] at h1; simp at h1
    · obtain ⟨p, hp, rfl⟩ := List.mem_map.1 ha
      obtain ⟨p', hp', rfl⟩ := List.mem_map.1 hb
      rw [mem_ptsOf] at hp hp'
      simp only [entR, List.mem_map, Prod.mk.injEq] at hp
      obtain ⟨y, hy, hyx, rfl⟩ := hp
      obtain ⟨j, r', z, h2, h3, h4⟩ := mem_allR.1 hp'
      simp only [Prod.mk.injEq] at h4
      obtain ⟨h4, rfl⟩ := h4
      refine hn.1 (List.mem_map.2 ⟨r', List.mem_of_getElem? h2, ?_⟩)
      have : r.name = r'.name := by rw [h4] at hyx; exact (Prod.ext_iff.1 hyx).1
      unfold keyR
      rw [this]
      simp only at hab
      rw [hab]

theorem Good.times {l : List Rep} (h : Good l) (x : Key) : ((ptsOf (allR l 0) x).map (·.time)).Nodup := times_nodup 0 h.valid h.once x

theorem Good.pts {l : List Rep} (h : Good l) {x : Key} {p : Pt} (hp : p ∈ ptsOf (allR l 0) x) : p.Ok ∧ 1 ≤ x.2 ∧ x.2 ≤ 11 := by
  rw [mem_ptsOf] at hp
  obtain ⟨j, r, y, h1, h2, h3⟩ := mem_allR.1 hp
  cases h3
  have hr := List.mem_of_getElem? h1
  have ht := h.time r hr
  obtain ⟨c1, c2, c3, c4⟩ := checkP_zero ((validP_zero (h.valid r hr)).1 y h2)
  obtain ⟨b1, b2, _⟩ := lo_ge c1 c2
  exact ⟨⟨ht.1, ht.2, by simp only; omega, by simp only; omega⟩, c1, c2⟩

theorem Good.line {l : List Rep} (h : Good l) {x : Key} {p : Pt} (hp : p ∈ lineP l x) : p.Ok ∧ 1 ≤ x.2 ∧ x.2 ≤ 11 := h.pts ((sortT_perm _).mem_iff.1 hp)

theorem lineP_length (l : List Rep) (x : Key) : (lineP l x).length = (ptsOf (allR l 0) x).length := (sortT_perm _).length_eq

theorem firstP_zero {l : List Rep} : firstP l = 0 ↔ ∀ r ∈ l, validP r.rd = 0 := by
  induction l with
  | nil => simp [firstP]
  | cons a l ih =>
    unfold firstP
    by_cases h : validP a.rd = 0
    · simp [h, ih]
    · simp [h]

theorem firstP_cases (l : List Rep) : firstP l = 0 ∨ firstP l = 1 ∨ firstP l = 4 ∨ firstP l = 8 := by
  induction l with
  | nil => exact .inl rfl
  | cons a l ih =>
    unfold firstP
    split
    · exact ih
    · unfold validP
      split
      · simp
      · split
        · simp
        · split <;> simp

theorem examP_zero {l : List Rep} {k : Ctl} (h : examP l k = 0) : Good l ∧ possP k.steps = true ∧ possP k.spikes = true := by
  unfold examP at h
  split at h
  · rename_i hp
    simp only [Bool.and_eq_true] at hp
    split at h
    · rename_i hf
      split at h
      · rename_i ht
        split at h
        · cases h
        · rename_i h2
          refine ⟨⟨firstP_zero.1 hf, fun r hr => ?_, ?_⟩, hp⟩
          · have := List.all_eq_true.1 ht r hr
            simpa [inP] using this
          · simpa [twiceP] using h2
      · cases h
    · rename_i hf
      exact absurd h hf
  · cases h

theorem possP_get {l : List Int} (h : possP l = true) {n : Int} (hn : n ∈ l) : 0 ≤ n ∧ n ≤ 10000 := by
  unfold possP at h
  simp only [Bool.not_eq_true', List.any_eq_false, Bool.or_eq_true, decide_eq_true_eq, not_or] at h
  have := h n hn
  omega

end Go.Abs

/-
  Flags in order.
-/
namespace Go.Abs
open Go

theorem insK_weak {ks : List Nat} (r : List Int) : ∀ l : List (List Int), l.Pairwise (fun a b => ltK (Abs.keyOf ks b) (Abs.keyOf ks a) = false) → (insK ks r l).Pairwise (fun a b => ltK (Abs.keyOf ks b) (Abs.keyOf ks a) = false)
  | [], _ => by simp [insK]
  | x :: l, h => by
    have h' := List.pairwise_cons.1 h
    simp only [insK]
    cases hc : ltK (Abs.keyOf ks r) (Abs.keyOf ks x) with
    | true =>
      refine List.Pairwise.cons (fun y hy => ?_) h
      rw [Bool.eq_false_iff]
      intro hy2
      rcases List.mem_cons.1 hy with rfl | hy
      · have := ltK_trans hc hy2
        rw [ltK_irrefl] at this; cases this
      · have := ltK_trans hy2 hc
        rw [h'.1 y hy] at this; cases this
    | false =>
      refine List.Pairwise.cons (fun y hy => ?_) (insK_weak r l h'.2)
      rcases List.mem_cons.1 ((insK_perm ks r l).mem_iff.1 hy) with rfl | hy
      · exact hc
      · exact h'.1 y hy

theorem sortK_weak {ks : List Nat} : ∀ l : List (List Int), (sortK ks l).Pairwise (fun a b => ltK (Abs.keyOf ks b) (Abs.keyOf ks a) = false)
  | [] => .nil
  | r :: l => insK_weak r _ (sortK_weak l)

theorem sortK_eq {ks : List Nat} {l s : List (List Int)} (hs : s.Pairwise fun a b => ltK (Abs.keyOf ks a) (Abs.keyOf ks b) = true) (hp : s.Perm l) : sortK ks l = s :=
  sorted_unique (lt := fun a b => ltK (Abs.keyOf ks a) (Abs.keyOf ks b)) hs (sortK_weak l) ((sortK_perm ks l).trans hp.symm)

/-- By report, then by element. -/
def lt2 (a b : Int × Int) : Prop := a.1 < b.1 ∨ (a.1 = b.1 ∧ a.2 < b.2)

def flagI (f : Int × Int) : List Int := [f.1, f.2, 4]
def flagR (f : Int × Int) : List AV := [i64 f.1, i64 f.2, i64 4]
def flagRows (l : List (Int × Int)) : List (List AV) := l.map flagR
@[simp] theorem flagRows_length {l : List (Int × Int)} : (flagRows l).length = l.length := by simp [flagRows]
theorem flagRows_row {l : List (Int × Int)} : ∀ x ∈ flagRows l, x.length = 3 ∧ imms x = some x := by
  intro x hx
  obtain ⟨f, _, rfl⟩ := List.mem_map.1 hx
  simp [flagR]
theorem flagRows_ints (l : List (Int × Int)) : flagRows l = (l.map flagI).map fun r => r.map fun n => AV.int .i64 n := by simp [flagRows, flagR, flagI, Function.comp_def]

theorem ltK_flag {a b : Int × Int} (h : lt2 a b) : ltK (Abs.keyOf [0, 1] (flagI a)) (Abs.keyOf [0, 1] (flagI b)) = true := by
  simp only [Abs.keyOf, flagI, List.map_cons, List.map_nil, List.getD_cons_zero, List.getD_cons_succ, ltK, Bool.or_eq_true, decide_eq_true_eq, Bool.and_eq_true, beq_iff_eq, Bool.or_false, Bool.and_false, Bool.false_eq_true, and_false, or_false]
  exact h

theorem flags_sorted {R F : List (Int × Int)} (hF : F.Pairwise lt2) (hp : F.Perm R) : sortedBy (fun n => n) [0, 1] (flagRows R) = some (flagRows F) := by
  unfold sortedBy
  rw [flagRows_ints, intRows_map _ (fun _ => rfl)]
  have hs : (F.map flagI).Pairwise fun a b => ltK (Abs.keyOf [0, 1] a) (Abs.keyOf [0, 1] b) = true := by
    rw [List.pairwise_map]; exact hF.imp ltK_flag
  simp only [Option.bind_some]
  rw [sortK_eq hs (hp.map flagI), incrK_of hs, cond_true, ← flagRows_ints]

theorem setC_all : ∀ (cs vs : List AV), vs.length = cs.length → setC cs 0 vs = vs := by
  have gen : ∀ (vs pre cs : List AV), vs.length = cs.length → setC (pre ++ cs) pre.length vs = pre ++ vs := by
    intro vs
    induction vs with
    | nil => intro pre cs h; simp at h; simp [setC, List.eq_nil_of_length_eq_zero h.symm]
    | cons v vs ih =>
      intro pre cs h
      cases cs with
      | nil => simp at h
      | cons c cs =>
        simp only [setC]
        rw [List.set_append_right _ _ (Nat.le_refl _), Nat.sub_self, List.set_cons_zero]
        have := ih (pre ++ [v]) cs (by simpa using h)
        simpa using this
  intro cs vs h
  simpa using gen vs [] cs h

/-- The sort of the flags. -/
theorem sortV_flags {S : Store} {n f : Nat} {v : AV} {R F : List (Int × Int)} (hg : Grow n 3 S v (flagRows R)) (hF : F.Pairwise lt2) (hp : F.Perm R) (hl : R.length ≤ 1000000) :
    ∃ S', sortV 3 [0, 1] f [v, .clo f []] S = some (.tup [], S') ∧ Grow n 3 S' v (flagRows F) ∧ S'.length = S.length ∧ ∀ j, j < n → S'[j]? = S[j]? := by
  rcases hg with ⟨h1, rfl⟩ | ⟨h1, i, h2, rfl, h3⟩
  · have hR : R = [] := by simpa [flagRows] using h1
    subst hR
    have hF' : F = [] := hp.eq_nil
    subst hF'
    exact ⟨S, by simp [sortV, sortG, Nat.beq_refl], .inl ⟨rfl, rfl⟩, rfl, fun _ _ => rfl⟩
  · have hi : i < S.length := (List.getElem?_eq_some_iff.1 h3).1
    have hlen := flatten_length (sz := 3) (xs := flagRows R) fun x hx => (flagRows_row x hx).1
    have hlen2 := flatten_length (sz := 3) (xs := flagRows F) fun x hx => (flagRows_row x hx).1
    have hch := chunks_rows (sz := 3) (xs := flagRows R) (fun x hx => (flagRows_row x hx).1) []
    rw [List.append_nil] at hch
    have hpl := hp.length_eq
    have hF0 : flagRows F ≠ [] := by
      intro h
      have : F = [] := by simpa [flagRows] using h
      subst this
      have : R = [] := hp.symm.eq_nil
      subst this
      exact h1 rfl
    refine ⟨S.set i (.obj (flagRows F).flatten), ?_, .inr ⟨hF0, i, h2, by simp [hpl], List.getElem?_set_self hi⟩, by simp, fun j hj => List.getElem?_set_ne (by omega)⟩
    unfold sortV sortG
    simp only [Nat.beq_refl, Bool.and_true, cond_true, h3, List.drop_zero, hch, flags_sorted hF hp, Option.bind_some]
    rw [if_pos ⟨by rw [hlen]; omega, by simp; omega⟩, setC_all _ _ (by rw [hlen, hlen2]; simp [hpl])]

end Go.Abs

/-
  A line, its readings put in one after the other.
-/
namespace Go.Abs
open Go

/-- How many come ahead of a time. -/
def posT (t : Int) : List Pt → Nat
  | [] => 0
  | q :: l => if q.time < t then posT t l + 1 else 0

theorem posT_le (t : Int) : ∀ l, posT t l ≤ l.length
  | [] => Nat.le_refl _
  | q :: l => by
    have := posT_le t l
    simp only [posT, List.length_cons]
    split <;> omega

theorem posT_lt {t : Int} : ∀ {l : List Pt} {j : Nat} (_ : j < posT t l) (hj : j < l.length), (l[j]).time < t
  | [], _, _, hj => by simp at hj
  | q :: l, j, h, hj => by
    simp only [posT] at h
    split at h
    · rename_i hq
      cases j with
      | zero => exact hq
      | succ j => exact posT_lt (l := l) (by omega) (by simpa using hj)
    · omega

theorem posT_at {t : Int} : ∀ {l : List Pt} (h : posT t l < l.length), ¬ (l[posT t l]).time < t
  | [], h => by simp at h
  | q :: l, h => by
    by_cases hq : q.time < t
    · have e : posT t (q :: l) = posT t l + 1 := by simp [posT, hq]
      simp only [e] at h ⊢
      simp only [List.getElem_cons_succ]
      exact posT_at (by simpa using h)
    · have e : posT t (q :: l) = 0 := by simp [posT, hq]
      simp only [e]
      exact hq

def putIn (p : Pt) (l : List Pt) : List Pt := l.take (posT p.time l) ++ p :: l.drop (posT p.time l)

theorem putIn_perm (p : Pt) (l : List Pt) : (putIn p l).Perm (p :: l) := by
  unfold putIn
  have : (p :: l).Perm (p :: (l.take (posT p.time l) ++ l.drop (posT p.time l))) := by rw [List.take_append_drop]
  exact List.perm_middle.trans this.symm

theorem putIn_sorted {p : Pt} {l : List Pt} (h : l.Pairwise fun a b => a.time < b.time) (hp : ∀ q ∈ l, q.time ≠ p.time) : (putIn p l).Pairwise fun a b => a.time < b.time := by
  unfold putIn
  rw [List.pairwise_append]
  have hd : ∀ q ∈ l.drop (posT p.time l), p.time < q.time := by
    intro q hq
    obtain ⟨i, hi, rfl⟩ := List.getElem_of_mem hq
    have hil : posT p.time l + i < l.length := by simp at hi; omega
    rw [List.getElem_drop]
    have h0 := posT_at (t := p.time) (l := l) (by omega)
    have hne := hp _ (List.getElem_mem hil)
    by_cases hi0 : i = 0
    · subst hi0
      simp only [Nat.add_zero] at hne ⊢
      omega
    · have := (List.pairwise_iff_getElem.1 h) (posT p.time l) (posT p.time l + i) (by omega) hil (by omega)
      omega
  refine ⟨h.sublist (List.take_sublist _ _), List.Pairwise.cons hd (h.sublist (List.drop_sublist _ _)), fun a ha b hb => ?_⟩
  obtain ⟨i, hi, rfl⟩ := List.getElem_of_mem ha
  have hi' : i < posT p.time l ∧ i < l.length := by simp at hi; omega
  rw [List.getElem_take]
  have h1 := posT_lt hi'.1 hi'.2
  rcases List.mem_cons.1 hb with rfl | hb
  · exact h1
  · have := hd b hb; omega

/-- The one order by time. -/
theorem line_unique {l : List Rep} (h : Good l) {x : Key} {Q : List Pt} (hs : Q.Pairwise fun a b => a.time < b.time) (hp : Q.Perm (ptsOf (allR l 0) x)) : Q = lineP l x := by
  have h1 := sortT_strict (h.times x)
  refine (sorted_unique (lt := fun a b => decide (a.time < b.time)) (h1.imp fun {a b} h => by simpa using h) (hs.imp fun {a b} h => by simp; omega) (hp.trans (sortT_perm _).symm))

theorem ent_find {r : Rep} {i : Nat} {x : Key} (h : validP r.rd = 0) : ptsOf (entR i r) x = if r.name = x.1 then (match findP r.rd x.2 with | some v => [⟨i, r.time, v⟩] | none => []) else [] := by
  have hp := incrR_pairwise (validP_zero h).2
  unfold entR ptsOf findP
  generalize r.rd = l at hp
  by_cases hn : r.name = x.1
  · rw [if_pos hn]
    induction l with
    | nil => rfl
    | cons a l ih =>
      have hp' := List.pairwise_cons.1 hp
      by_cases ha : a.1 = x.2
      · have hrest : (l.map fun y => (((r.name, y.1) : Key), (⟨i, r.time, y.2⟩ : Pt))).filter (fun e => e.1 == x) = [] := by
          rw [List.filter_eq_nil_iff]
          intro e he
          obtain ⟨y, hy, rfl⟩ := List.mem_map.1 he
          have := hp'.1 y hy
          simp only [beq_iff_eq, Prod.ext_iff]
          omega
        simp only [List.map_cons, List.filter_cons, hrest]
        have : ((r.name, x.2) : Key) = x := by rw [hn]
        simp [this, ha]
      · have h1 : (((r.name, a.1) : Key) == x) = false := by simp [Prod.ext_iff, hn, ha]
        simp only [List.map_cons, List.filter_cons, h1, List.find?_cons]
        have h2 : (a.1 == x.2) = false := by simpa using ha
        rw [h2]
        exact ih hp'.2
  · rw [if_neg hn]
    rw [List.filter_eq_nil_iff.2]
    · rfl
    · intro e he
      obtain ⟨y, hy, rfl⟩ := List.mem_map.1 he
      simp [Prod.ext_iff, hn]

end Go.Abs

/-
  The flags of the reference, in plain Lean.
-/
namespace Go.Abs
open Go

def flagsOf (L : List Pt) (s p c : Int) (n : Nat) : List (Int × Int) := ((List.range n).filter fun i => rejP L s p i).map fun i => ((L.getD i ⟨0, 0, 0⟩).rep, c)

/-- The steps and the spikes of an element. -/
def stepOf (k : Ctl) (c : Int) : Int := k.steps.getD c.toNat 0
def spikeOf (k : Ctl) (c : Int) : Int := k.spikes.getD c.toNat 0

def keyFlags (l : List Rep) (k : Ctl) (x : Key) : List (Int × Int) := flagsOf (lineP l x) (stepOf k x.2) (spikeOf k x.2) x.2 (lineP l x).length

/-- Those of a report. -/
def ofRep (i : Nat) (F : List (Int × Int)) : List (Int × Int) := F.filter fun f => f.1 == (i : Int)

def rowFlags (l : List Rep) (k : Ctl) (i : Nat) (r : Rep) (n : Nat) : List (Int × Int) := (r.rd.take n).flatMap fun y => ofRep i (keyFlags l k (r.name, y.1))

def refFlags (l : List Rep) (k : Ctl) (n : Nat) : List (Int × Int) := (List.range n).flatMap fun i => match l[i]? with | some r => rowFlags l k i r r.rd.length | none => []

theorem refFlags_succ {l : List Rep} {k : Ctl} {n : Nat} (h : n < l.length) : refFlags l k (n + 1) = refFlags l k n ++ rowFlags l k n l[n] (l[n]).rd.length := by
  unfold refFlags
  rw [List.range_succ, List.flatMap_append]
  simp only [List.flatMap_cons, List.flatMap_nil, List.append_nil, List.getElem?_eq_getElem h]

theorem rowFlags_succ {l : List Rep} {k : Ctl} {i : Nat} {r : Rep} {n : Nat} (h : n < r.rd.length) : rowFlags l k i r (n + 1) = rowFlags l k i r n ++ ofRep i (keyFlags l k (r.name, (r.rd[n]).1)) := by
  unfold rowFlags
  rw [List.take_succ_eq_append_getElem h, List.flatMap_append]
  simp only [List.flatMap_cons, List.flatMap_nil, List.append_nil]

end Go.Abs

/-
  The reference's flags are those of all lines, in order.
-/
namespace Go.Abs
open Go

theorem reps_nodup : ∀ {l : List Rep} (i : Nat), (∀ r ∈ l, validP r.rd = 0) → ∀ x, ((ptsOf (allR l i) x).map (·.rep)).Nodup
  | [], _, _, x => by simp [allR, ptsOf]
  | r :: l, i, hv, x => by
    have ih := reps_nodup (l := l) (i + 1) (fun r' hr => hv r' (List.mem_cons_of_mem _ hr)) x
    rw [allR, ptsOf_append, List.map_append, List.nodup_append]
    have h1 := ent_once (i := i) (x := x) (hv r (by simp))
    refine ⟨?_, ih, fun a ha b hb hab => ?_⟩
    · match hm : ptsOf (entR i r) x, h1 with
      | [], _ => simp
      | [p], _ => simp
      | _ :: _ :: _, h => rw [hm] at h1; simp at h1
    · obtain ⟨p, hp, rfl⟩ := List.mem_map.1 ha
      obtain ⟨p', hp', rfl⟩ := List.mem_map.1 hb
      rw [mem_ptsOf] at hp hp'
      simp only [entR, List.mem_map, Prod.mk.injEq] at hp
      obtain ⟨y, hy, hyx, rfl⟩ := hp
      obtain ⟨j, r', z, h2, h3, h4⟩ := mem_allR.1 hp'
      simp only [Prod.mk.injEq] at h4
      obtain ⟨_, rfl⟩ := h4
      simp only at hab
      omega

theorem line_reps {l : List Rep} (h : Good l) (x : Key) : ((lineP l x).map (·.rep)).Nodup := ((sortT_perm _).map _).nodup_iff.2 (reps_nodup 0 h.valid x)

theorem keyFlags_nodup {l : List Rep} {k : Ctl} (h : Good l) (x : Key) : (keyFlags l k x).Nodup := by
  have hr := line_reps h x
  unfold keyFlags flagsOf
  rw [List.Nodup, List.pairwise_map]
  refine List.Pairwise.imp_of_mem (fun {a b} ha hb hab e => hab ?_) (List.Pairwise.filter _ List.nodup_range)
  have ha' : a < (lineP l x).length := List.mem_range.1 (List.mem_filter.1 ha).1
  have hb' : b < (lineP l x).length := List.mem_range.1 (List.mem_filter.1 hb).1
  have e' := (Prod.ext_iff.1 e).1
  simp only [List.getD_eq_getElem?_getD, List.getElem?_eq_getElem ha', List.getElem?_eq_getElem hb', Option.getD_some] at e'
  have : ((lineP l x).map (·.rep))[a]'(by simpa using ha') = ((lineP l x).map (·.rep))[b]'(by simpa using hb') := by simpa using e'
  exact (List.getElem_inj hr).1 this

theorem mem_keyFlags {l : List Rep} {k : Ctl} {x : Key} {f : Int × Int} (h : f ∈ keyFlags l k x) : ∃ (j : Nat) (r : Rep) (y : Rd), l[j]? = some r ∧ y ∈ r.rd ∧ x = (r.name, y.1) ∧ f = ((j : Int), x.2) := by
  unfold keyFlags flagsOf at h
  obtain ⟨i, hi, rfl⟩ := List.mem_map.1 h
  have hi' : i < (lineP l x).length := List.mem_range.1 (List.mem_filter.1 hi).1
  have hm : (lineP l x)[i] ∈ ptsOf (allR l 0) x := (sortT_perm _).mem_iff.1 (List.getElem_mem hi')
  rw [mem_ptsOf] at hm
  obtain ⟨j, r, y, h1, h2, h3⟩ := mem_allR.1 hm
  simp only [Prod.mk.injEq] at h3
  refine ⟨j, r, y, h1, h2, h3.1, ?_⟩
  rw [List.getD_eq_getElem?_getD, List.getElem?_eq_getElem hi', Option.getD_some, h3.2]
  simp

theorem mem_ofRep {i : Nat} {F : List (Int × Int)} {f : Int × Int} : f ∈ ofRep i F ↔ f ∈ F ∧ f.1 = (i : Int) := by
  unfold ofRep
  rw [List.mem_filter]
  simp

theorem mem_refFlags {l : List Rep} {k : Ctl} {f : Int × Int} : f ∈ refFlags l k l.length ↔ ∃ (i : Nat) (r : Rep) (y : Rd), l[i]? = some r ∧ y ∈ r.rd ∧ f ∈ keyFlags l k (r.name, y.1) ∧ f.1 = (i : Int) := by
  unfold refFlags
  rw [List.mem_flatMap]
  constructor
  · rintro ⟨i, hi, h⟩
    cases hr : l[i]? with
    | none => rw [hr] at h; cases h
    | some r =>
      rw [hr] at h
      simp only [rowFlags, List.mem_flatMap, mem_ofRep] at h
      obtain ⟨y, hy, h1, h2⟩ := h
      exact ⟨i, r, y, hr, List.mem_of_mem_take hy, h1, h2⟩
  · rintro ⟨i, r, y, hr, hy, h1, h2⟩
    refine ⟨i, List.mem_range.2 (List.getElem?_eq_some_iff.1 hr).1, ?_⟩
    rw [hr]
    simp only [rowFlags, List.mem_flatMap, mem_ofRep]
    exact ⟨y, by rw [List.take_length]; exact hy, h1, h2⟩

theorem refFlags_sorted {l : List Rep} {k : Ctl} (h : Good l) : (refFlags l k l.length).Pairwise lt2 := by
  unfold refFlags
  rw [List.pairwise_flatMap]
  refine ⟨fun i _ => ?_, ?_⟩
  · cases hr : l[i]? with
    | none => exact .nil
    | some r =>
      simp only [rowFlags]
      rw [List.pairwise_flatMap]
      refine ⟨fun y _ => ?_, ?_⟩
      · have hn := List.Pairwise.filter (fun f : Int × Int => f.1 == (i : Int)) (keyFlags_nodup (k := k) h (r.name, y.1))
        refine List.Pairwise.imp_of_mem (fun {a b} ha hb hab => ?_) hn
        have ha' := mem_ofRep.1 ha
        have hb' := mem_ofRep.1 hb
        obtain ⟨_, _, _, _, _, _, ea⟩ := mem_keyFlags ha'.1
        obtain ⟨_, _, _, _, _, _, eb⟩ := mem_keyFlags hb'.1
        exact absurd (Prod.ext (ha'.2.trans hb'.2.symm) (by rw [ea, eb])) hab
      · have hp := incrR_pairwise (validP_zero (h.valid r (List.mem_of_getElem? hr))).2
        rw [List.take_length]
        refine hp.imp fun {y z} hyz a ha b hb => ?_
        have ha' := mem_ofRep.1 ha
        have hb' := mem_ofRep.1 hb
        obtain ⟨_, _, _, _, _, _, ea⟩ := mem_keyFlags ha'.1
        obtain ⟨_, _, _, _, _, _, eb⟩ := mem_keyFlags hb'.1
        exact .inr ⟨ha'.2.trans hb'.2.symm, by rw [ea, eb]; exact hyz⟩
  · refine (List.pairwise_lt_range).imp fun {i j} hij a ha b hb => ?_
    have first : ∀ {i : Nat} {a : Int × Int}, (a ∈ match l[i]? with | some r => rowFlags l k i r r.rd.length | none => []) → a.1 = (i : Int) := fun {i a} ha => by
      cases hr : l[i]? with
      | none => rw [hr] at ha; cases ha
      | some r =>
        rw [hr] at ha
        simp only [rowFlags, List.mem_flatMap, mem_ofRep] at ha
        obtain ⟨_, _, _, h⟩ := ha
        exact h
    left
    rw [first ha, first hb]
    omega

theorem lt2_ne {a b : Int × Int} (h : lt2 a b) : a ≠ b := fun e => by
  subst e
  rcases h with h | ⟨_, h⟩ <;> omega

theorem refFlags_perm {l : List Rep} {k : Ctl} (h : Good l) : (refFlags l k l.length).Perm ((seenK ((allR l 0).map (·.1))).flatMap (keyFlags l k)) := by
  refine (List.perm_ext_iff_of_nodup ((refFlags_sorted h).imp lt2_ne) ?_).2 fun f => ?_
  · rw [List.Nodup, List.pairwise_flatMap]
    refine ⟨fun x _ => keyFlags_nodup h x, (seenK_nodup _).imp fun {x x'} hne a ha b hb e => hne ?_⟩
    subst e
    obtain ⟨j, r, y, h1, h2, h3, h4⟩ := mem_keyFlags ha
    obtain ⟨j', r', y', h1', h2', h3', h4'⟩ := mem_keyFlags hb
    rw [h4] at h4'
    have e1 := (Prod.ext_iff.1 h4').1
    have e2 := (Prod.ext_iff.1 h4').2
    simp only at e1 e2
    have : j = j' := by omega
    subst this
    rw [h1] at h1'
    cases h1'
    rw [h3, h3'] at e2 ⊢
    simp only at e2
    rw [e2]
  · rw [mem_refFlags, List.mem_flatMap]
    constructor
    · rintro ⟨i, r, y, h1, h2, h3, h4⟩
      refine ⟨_, ?_, h3⟩
      rw [mem_seenK]
      exact List.mem_map.2 ⟨_, mem_allR.2 ⟨i, r, y, h1, h2, rfl⟩, rfl⟩
    · rintro ⟨x, _, hf⟩
      obtain ⟨j, r, y, h1, h2, h3, h4⟩ := mem_keyFlags hf
      exact ⟨j, r, y, h1, h2, by rw [← h3]; exact hf, by rw [h4]⟩

end Go.Abs

/-
  Runs that end, and what is so of their ends: rules for reckoning with printed functions whose calls are known by a law alone.
-/
namespace Go.Abs
open Go

/-- The run ends, and Q is so of its end. -/
def Ev {α : Type} (m : Option α) (Q : α → Prop) : Prop := ∃ r, m = some r ∧ Q r

section
variable {α β ρ : Type}
theorem Ev.bind {m : Option α} {f : α → Option β} {P : α → Prop} {Q : β → Prop} (h : Ev m P) (h2 : ∀ a, P a → Ev (f a) Q) : Ev (m.bind f) Q := by
  obtain ⟨a, ha, hp⟩ := h
  rw [ha]; exact h2 a hp
theorem Ev.to {m : Option α} {f : α → Option β} {a : α} {Q : β → Prop} (h : m = some a) (h2 : Ev (f a) Q) : Ev (m.bind f) Q := by rw [h]; exact h2
theorem Ev.mk {a : α} {Q : α → Prop} (h : Q a) : Ev (some a) Q := ⟨a, rfl, h⟩
theorem Ev.of {m : Option α} {a : α} {Q : α → Prop} (h : m = some a) (h2 : Q a) : Ev m Q := ⟨a, h, h2⟩
theorem Ev.mono {m : Option α} {P Q : α → Prop} (h : Ev m P) (h2 : ∀ a, P a → Q a) : Ev m Q := by
  obtain ⟨a, ha, hp⟩ := h
  exact ⟨a, ha, h2 a hp⟩
theorem Ev.eq {m m' : Option α} {Q : α → Prop} (h : m = m') (h2 : Ev m' Q) : Ev m Q := by rw [h]; exact h2
theorem Ev.cond {b : Bool} {x y : Option ρ} {Q : ρ → Prop} (h1 : b = true → Ev x Q) (h2 : b = false → Ev y Q) : Ev (condK (.bool b) x y) Q := by
  cases b
  · exact h2 rfl
  · exact h1 rfl
theorem Ev.dec {p : Prop} [Decidable p] {x y : Option ρ} {Q : ρ → Prop} (h1 : p → Ev x Q) (h2 : ¬ p → Ev y Q) : Ev (condK (.bool (decide p)) x y) Q := by
  by_cases h : p
  · simpa [h] using h1 h
  · simpa [h] using h2 h
theorem Ev.beq {a b : Int} {x y : Option ρ} {Q : ρ → Prop} (h1 : a = b → Ev x Q) (h2 : a ≠ b → Ev y Q) : Ev (condK (.bool (a == b)) x y) Q := by
  by_cases h : a = b
  · subst h; simpa using h1 rfl
  · have : (a == b) = false := by simpa using h
    rw [this]; exact h2 h
theorem Ev.t {c : AV} {x y : Option ρ} {Q : ρ → Prop} (h : c = .bool true) (h2 : Ev x Q) : Ev (condK c x y) Q := by rw [h]; exact h2
theorem Ev.f {c : AV} {x y : Option ρ} {Q : ρ → Prop} (h : c = .bool false) (h2 : Ev y Q) : Ev (condK c x y) Q := by rw [h]; exact h2
theorem Ev.ite {p : Prop} [Decidable p] {x y : Option ρ} {Q : ρ → Prop} (h : p) (h2 : Ev x Q) : Ev (if p then x else y) Q := by rw [if_pos h]; exact h2
theorem Ev.guard {b w : Bool} {x y : Option ρ} {Q : ρ → Prop} (h1 : b = w → Ev x Q) (h2 : b ≠ w → Ev y Q) : Ev (guardK (.bool b) w x y) Q := by
  by_cases h : b = w
  · subst h; have := h1 rfl; cases b <;> simpa [guardK] using this
  · have := h2 h; cases b <;> cases w <;> first | exact absurd rfl h | simpa [guardK] using this

/-- A loop by an invariant and a measure. -/
theorem Ev.iter {σ τ : Type} {step : σ → Option (σ ⊕ τ)} {Q : τ → Prop} (I : Nat → σ → Prop) (h : ∀ k s, I k s → Ev (step s) fun x => match x with | .inr r => Q r | .inl s' => ∃ k', k' < k ∧ I k' s') {k : Nat} {s : σ} (hs : I k s) : Ev (Abs.iter step s) Q := by
  refine iter_inv I Q (fun k s hk => ?_) k s hs
  obtain ⟨x, h1, h2⟩ := h k s hk
  cases x with
  | inr r => exact .inl ⟨r, h1, h2⟩
  | inl s' => obtain ⟨k', h3, h4⟩ := h2; exact .inr ⟨s', k', h3, h1, h4⟩

theorem Ev.exK {n : Option α} {x : Nat → Option α} {r : Option α} {i : Nat} {Q : α → Prop} (h : Ev (x i) Q) : Ev (Abs.exK n x r (.exit i)) Q := h
theorem Ev.exR {n : Option α} {x : Nat → Option α} {r : Option α} {Q : α → Prop} (h : Ev r Q) : Ev (Abs.exK n x r .ret) Q := h
theorem Ev.iff {m : Option α} {Q : α → Prop} : Ev m Q ↔ ∃ r, m = some r ∧ Q r := Iff.rfl
theorem Ev.bif {c : Bool} {x y : Option α} {Q : α → Prop} (h : c = true) (h2 : Ev x Q) : Ev (bif c then x else y) Q := by rw [h]; exact h2
theorem Ev.bif' {c : Bool} {x y : Option α} {Q : α → Prop} (h : c = false) (h2 : Ev y Q) : Ev (bif c then x else y) Q := by rw [h]; exact h2
end

theorem setC_fore : ∀ (vs pre cs : List AV), cs.length = vs.length → setC (pre ++ cs) pre.length vs = pre ++ vs
  | [], pre, cs, h => by
    have : cs = [] := List.eq_nil_of_length_eq_zero h
    subst this; simp [setC]
  | v :: vs, pre, [], h => by simp at h
  | v :: vs, pre, c :: cs, h => by
    have h1 := setC_fore vs (pre ++ [v]) cs (by simpa using h)
    simp only [List.append_assoc, List.singleton_append, List.length_append, List.length_singleton] at h1
    simp only [setC]
    rw [List.set_append_right _ _ (Nat.le_refl _), Nat.sub_self, List.set_cons_zero, h1]

theorem setC_full {cs vs : List AV} (h : cs.length = vs.length) : setC cs 0 vs = vs := setC_fore vs [] cs h

theorem setC_left : ∀ (vs x rest : List AV) (f : Nat), f + vs.length ≤ x.length → setC (x ++ rest) f vs = setC x f vs ++ rest
  | [], _, _, _, _ => rfl
  | v :: vs, x, rest, f, h => by
    simp only [List.length_cons] at h
    simp only [setC]
    rw [List.set_append_left _ _ (by omega), setC_left vs _ rest (f + 1) (by simp; omega)]
theorem setC_right : ∀ (vs x rest : List AV) (o : Nat), setC (x ++ rest) (x.length + o) vs = x ++ setC rest o vs
  | [], _, _, _ => rfl
  | v :: vs, x, rest, o => by
    simp only [setC]
    rw [List.set_append_right _ _ (by omega), Nat.add_sub_cancel_left, Nat.add_assoc, setC_right vs x _ (o + 1)]
/-- Cells of a row turned, in the rows' flat list. -/
theorem setC_row {sz : Nat} : ∀ {xs : List (List AV)} (k : Nat) (hk : k < xs.length) (f : Nat) (vs : List AV), (∀ x ∈ xs, x.length = sz) → f + vs.length ≤ sz → setC xs.flatten (k * sz + f) vs = (xs.set k (setC xs[k] f vs)).flatten
  | [], k, hk, _, _, _, _ => by simp at hk
  | x :: xs, 0, _, f, vs, h, hf => by
    have hx : x.length = sz := h x (by simp)
    simp only [List.flatten_cons, Nat.zero_mul, Nat.zero_add, List.set_cons_zero, List.getElem_cons_zero]
    exact setC_left vs x _ f (by omega)
  | x :: xs, k + 1, hk, f, vs, h, hf => by
    have hx : x.length = sz := h x (by simp)
    have ih := setC_row (xs := xs) k (by simpa using hk) f vs (fun y hy => h y (by simp [hy])) hf
    simp only [List.flatten_cons, List.set_cons_succ, List.getElem_cons_succ]
    rw [← ih, show (k + 1) * sz + f = x.length + (k * sz + f) by rw [hx, Nat.add_mul]; omega, setC_right]

/-! ### A store whose entry i is e, with entries of the call's own behind it -/

def Stt (S : Store) (i : Nat) (e : Ent) (es : Store) : Store := S.set i e ++ es

section
variable {S : Store} {i : Nat} {e : Ent} {es : Store}
theorem Stt.length : (Stt S i e es).length = S.length + es.length := by simp [Stt]
theorem Stt.self (h : S[i]? = some e) : Stt S i e [] = S := by
  have hi := (List.getElem?_eq_some_iff.1 h).1
  simp only [Stt, List.append_nil]
  apply List.ext_getElem?
  intro j
  by_cases hj : i = j
  · subst hj; rw [List.getElem?_set_self hi, h]
  · rw [List.getElem?_set_ne hj]
theorem Stt.app {x : Store} : Stt S i e es ++ x = Stt S i e (es ++ x) := by simp [Stt, List.append_assoc]
theorem Stt.src (h : i < S.length) : (Stt S i e es)[i]? = some e := by
  rw [Stt, List.getElem?_append_left (by simpa using h), List.getElem?_set_self h]
theorem Stt.own {k : Nat} : (Stt S i e es)[S.length + k]? = es[k]? := by
  rw [Stt, List.getElem?_append_right (by simp)]; simp
theorem Stt.own0 : (Stt S i e es)[S.length]? = es[0]? := Stt.own (k := 0)
theorem Stt.old {j : Nat} (h : j < S.length) (hj : j ≠ i) : (Stt S i e es)[j]? = S[j]? := by
  rw [Stt, List.getElem?_append_left (by simpa using h), List.getElem?_set_ne (Ne.symm hj)]
theorem Stt.set_src (h : i < S.length) {e' : Ent} : (Stt S i e es).set i e' = Stt S i e' es := by
  rw [Stt, List.set_append_left _ _ (by simpa using h), List.set_set]; rfl
theorem Stt.set_own {k : Nat} {x : Ent} : (Stt S i e es).set (S.length + k) x = Stt S i e (es.set k x) := by
  rw [Stt, List.set_append_right _ _ (by simp)]; simp [Stt]
theorem Stt.set_own0 {x : Ent} : (Stt S i e es).set S.length x = Stt S i e (es.set 0 x) := Stt.set_own (k := 0)
theorem Stt.take {k : Nat} : (Stt S i e es).take (S.length + k) = Stt S i e (es.take k) := by
  rw [Stt, List.take_append, List.take_of_length_le (by simp)]; simp [Stt]
theorem Stt.take0 : (Stt S i e es).take S.length = Stt S i e [] := by
  have := Stt.take (S := S) (i := i) (e := e) (es := es) (k := 0)
  simpa using this
theorem Stt.drop : (Stt S i e es).drop S.length = es := by
  rw [Stt, List.drop_append]; simp
theorem Stt.flat (h : i < S.length) {e2 : Ent} {es2 : Store} : Stt (Stt S i e es) i e2 es2 = Stt S i e2 (es ++ es2) := by
  rw [Stt, Stt.set_src h, Stt.app]

theorem Stt.load {k o : Nat} {n : Option Nat} {cs : List AV} (h : es[k]? = some (.obj cs)) : loadV n (.ptr (S.length + k) o) (Stt S i e es) = takeC n cs o := by
  simp only [loadV, Stt.own, h]
theorem Stt.load0 {o : Nat} {n : Option Nat} {cs : List AV} (h : es[0]? = some (.obj cs)) : loadV n (.ptr S.length o) (Stt S i e es) = takeC n cs o := Stt.load (k := 0) h
theorem Stt.store {k o n : Nat} {cs vs : List AV} {v : AV} (h : es[k]? = some (.obj cs)) (hv : cells1 (cellsOf v) = some vs) (hn : (cellsOf v).length = n) (ho : o + n ≤ cs.length) :
    storeV S.length n (.ptr (S.length + k) o) v (Stt S i e es) = some (Stt S i e (es.set k (.obj (setC cs o vs)))) := by
  simp only [storeV, Stt.own, h, blt_false (Nat.le_add_right _ _), cond_false, hv, Option.bind_some]
  rw [if_pos ⟨hn, ho⟩, Stt.set_own]
theorem Stt.storeA {k n : Nat} {cs vs : List AV} (h : es[k]? = some (.obj cs)) (hv : cells1 vs = some vs) (hn : vs.length = n) (ho : cs.length = n) :
    storeV S.length n (.ptr (S.length + k) 0) (.agg vs) (Stt S i e es) = some (Stt S i e (es.set k (.obj vs))) := by
  have := Stt.store (S := S) (i := i) (e := e) (o := 0) (v := .agg vs) (vs := vs) h hv hn (by omega)
  rw [this, setC_full (by omega)]
theorem Stt.storeA0 {n : Nat} {cs vs : List AV} (h : es[0]? = some (.obj cs)) (hv : cells1 vs = some vs) (hn : vs.length = n) (ho : cs.length = n) :
    storeV S.length n (.ptr S.length 0) (.agg vs) (Stt S i e es) = some (Stt S i e (es.set 0 (.obj vs))) := Stt.storeA (k := 0) h hv hn ho
theorem Stt.loadA {k n : Nat} {cs : List AV} (h : es[k]? = some (.obj cs)) (hn : cs.length = n) : loadV (some n) (.ptr (S.length + k) 0) (Stt S i e es) = some (.agg cs) := by
  rw [Stt.load h, takeC, if_pos (by omega), List.drop_zero, List.take_of_length_le (by omega)]
theorem Stt.loadA0 {n : Nat} {cs : List AV} (h : es[0]? = some (.obj cs)) (hn : cs.length = n) : loadV (some n) (.ptr S.length 0) (Stt S i e es) = some (.agg cs) := Stt.loadA (k := 0) h hn
theorem Stt.storeB {b k o n : Nat} {cs vs : List AV} {v : AV} (hb : b ≤ S.length + k) (h : es[k]? = some (.obj cs)) (hv : cells1 (cellsOf v) = some vs) (hn : (cellsOf v).length = n) (ho : o + n ≤ cs.length) :
    storeV b n (.ptr (S.length + k) o) v (Stt S i e es) = some (Stt S i e (es.set k (.obj (setC cs o vs)))) := by
  simp only [storeV, Stt.own, h, blt_false hb, cond_false, hv, Option.bind_some]
  rw [if_pos ⟨hn, ho⟩, Stt.set_own]
theorem Stt.store0 {o n : Nat} {cs vs : List AV} {v : AV} (h : es[0]? = some (.obj cs)) (hv : cells1 (cellsOf v) = some vs) (hn : (cellsOf v).length = n) (ho : o + n ≤ cs.length) :
    storeV S.length n (.ptr S.length o) v (Stt S i e es) = some (Stt S i e (es.set 0 (.obj (setC cs o vs)))) := Stt.store (k := 0) h hv hn ho
theorem Stt.next {k : Nat} {vs : List AV} (h : (belows (S.length + k) vs && entsBelow (S.length + k) (es.take k)) = true) : nextS S.length (S.length + k) vs (Stt S i e es) = some (vs, Stt S i e (es.take k)) := by
  simp only [nextS, Stt.take, Stt.drop]
  rw [if_pos h]
theorem Stt.next0 {vs : List AV} (h : belows S.length vs = true) : nextS S.length S.length vs (Stt S i e es) = some (vs, Stt S i e []) := by
  have := Stt.next (S := S) (i := i) (e := e) (es := es) (k := 0) (vs := vs) (by simpa [entsBelow] using h)
  simpa using this
theorem Stt.stay {k : Nat} {vs : List AV} (h : es.length = k) : nextS S.length (S.length + k) vs (Stt S i e es) = some (vs, Stt S i e es) := nextS_eq (by rw [Stt.length, h])
theorem Stt.nextAny {b k : Nat} {vs : List AV} : ∃ es', nextS b (S.length + k) vs (Stt S i e es) = some (vs, Stt S i e es') ∧ (es' = es ∨ es' = es.take k) := by
  unfold nextS
  split
  · exact ⟨_, by rw [Stt.take], .inr rfl⟩
  · exact ⟨_, rfl, .inl rfl⟩
/-- The entries before k are as_ they were. -/
theorem Stt.nextKeep {b k : Nat} {vs : List AV} : ∃ es', nextS b (S.length + k) vs (Stt S i e es) = some (vs, Stt S i e es') ∧ ∀ j, j < k → es'[j]? = es[j]? := by
  obtain ⟨es', h1, h2⟩ := Stt.nextAny (S := S) (i := i) (e := e) (es := es) (b := b) (k := k) (vs := vs)
  refine ⟨es', h1, fun j hj => ?_⟩
  rcases h2 with rfl | rfl
  · rfl
  · rw [List.getElem?_take_of_lt hj]
theorem entsBelow_mem {n : Nat} : ∀ {l : List Ent} {x : Ent}, entsBelow n l = true → x ∈ l → entBelow n x = true
  | [], _, _, h => by cases h
  | y :: l, x, h, hx => by
    simp only [entsBelow, Bool.and_eq_true] at h
    rcases List.mem_cons.1 hx with rfl | hx
    · exact h.1
    · exact entsBelow_mem h.2 hx
/-- An entry points behind: nothing is cut. -/
theorem Stt.nextStay {b k j : Nat} {vs : List AV} {x : Ent} (hx : es[j]? = some x) (hj : j < k) (hb : b ≤ S.length + j) (h : entBelow (S.length + k) x = false) : nextS b (S.length + k) vs (Stt S i e es) = some (vs, Stt S i e es) := by
  unfold nextS
  rw [if_neg]
  intro hc
  simp only [Bool.and_eq_true] at hc
  have := entsBelow_mem (x := x) hc.2 (by
    have h1 : ((Stt S i e es).take (S.length + k))[S.length + j]? = some x := by
      rw [List.getElem?_take_of_lt (by omega), Stt.own, hx]
    have h2 : (((Stt S i e es).take (S.length + k)).drop b)[S.length + j - b]? = some x := by
      rw [List.getElem?_drop, ← h1]; congr 1; omega
    exact List.mem_of_getElem? h2)
  rw [h] at this; cases this
theorem Stt.finish {vs vs' : List AV} (h : fins S.length (Stt S i e es) vs = some vs') (hb : belows S.length vs' = true) : finish false S.length vs (Stt S i e es) = some (outV vs', Stt S i e []) := by
  rw [finish_eq h hb, Stt.take0]
theorem Stt.append {k n sz : Nat} {xs ys : List (List AV)} {t : Tok} (h : es[k]? = some (.tail n sz)) (hn : n = xs.length) (hy : immRows sz ys = some ys) (h0 : ys ≠ []) (hr : xs.length + ys.length ≤ room) :
    appendV sz (.sl xs (.own (S.length + k))) (.sl ys t) (Stt S i e es) = some (.sl (xs ++ ys) (.own (S.length + k)), Stt S i e (es.set k (.tail (xs.length + ys.length) sz))) := by
  cases ys with
  | nil => exact absurd rfl h0
  | cons y ys =>
    simp only [appendV, rowsOf_sl, Option.bind_some, hy, Stt.own, h]
    rw [if_pos hr, if_pos ⟨hn, trivial⟩, Stt.set_own, hn]
theorem Stt.append0 {n sz : Nat} {xs ys : List (List AV)} {t : Tok} (h : es[0]? = some (.tail n sz)) (hn : n = xs.length) (hy : immRows sz ys = some ys) (h0 : ys ≠ []) (hr : xs.length + ys.length ≤ room) :
    appendV sz (.sl xs (.own S.length)) (.sl ys t) (Stt S i e es) = some (.sl (xs ++ ys) (.own S.length), Stt S i e (es.set 0 (.tail (xs.length + ys.length) sz))) := Stt.append (k := 0) h hn hy h0 hr
theorem Stt.only {j o : Nat} {as_ : List AV} {v : AV} {e' : Ent} (h : i < S.length) (hj : j ≠ i) : onlyV (.ptr i 0 :: as_) [.ptr j o] (Stt S i e es) (v, Stt S i e' es) = some (v, Stt S i e' es) := by
  have hb : avoidB i [.ptr j o] = true := by
    have : Nat.beq j i = false := by rw [Bool.eq_false_iff]; exact fun h => hj (Nat.eq_of_beq_eq_true h)
    simp [avoidB, this]
  simp only [onlyV]
  rw [if_pos ⟨⟨e', by rw [Stt.set_src h]⟩, hb⟩]
theorem Ev.fin {vs vs' : List AV} {Q : AV × Store → Prop} (h : fins S.length (Stt S i e es) vs = some vs') (hb : belows S.length vs' = true) (hQ : Q (outV vs', Stt S i e [])) : Ev (Abs.finish false S.length vs (Stt S i e es)) Q := .of (Stt.finish h hb) hQ
end

/-! ### A store with entries of the call's own behind it -/

section
variable {S es : Store}
theorem Ap.get {k : Nat} : (S ++ es)[S.length + k]? = es[k]? := by rw [List.getElem?_append_right (by omega)]; simp
theorem Ap.store {k o n : Nat} {cs vs : List AV} {v : AV} (h : es[k]? = some (.obj cs)) (hv : cells1 (cellsOf v) = some vs) (hn : (cellsOf v).length = n) (ho : o + n ≤ cs.length) :
    storeV S.length n (.ptr (S.length + k) o) v (S ++ es) = some (S ++ es.set k (.obj (setC cs o vs))) := by
  simp only [storeV, Ap.get, h, blt_false (Nat.le_add_right _ _), cond_false, hv, Option.bind_some]
  rw [if_pos ⟨hn, ho⟩, List.set_append_right _ _ (by omega)]
  simp
theorem Ap.store0 {o n : Nat} {cs vs : List AV} {v : AV} (h : es[0]? = some (.obj cs)) (hv : cells1 (cellsOf v) = some vs) (hn : (cellsOf v).length = n) (ho : o + n ≤ cs.length) :
    storeV S.length n (.ptr S.length o) v (S ++ es) = some (S ++ es.set 0 (.obj (setC cs o vs))) := Ap.store (k := 0) h hv hn ho
theorem Ap.storeA {k n : Nat} {cs vs : List AV} (h : es[k]? = some (.obj cs)) (hv : cells1 vs = some vs) (hn : vs.length = n) (ho : cs.length = n) :
    storeV S.length n (.ptr (S.length + k) 0) (.agg vs) (S ++ es) = some (S ++ es.set k (.obj vs)) := by
  have := Ap.store (S := S) (o := 0) (v := .agg vs) (vs := vs) h hv hn (by omega)
  rw [this, setC_full (by omega)]
theorem Ap.storeA0 {n : Nat} {cs vs : List AV} (h : es[0]? = some (.obj cs)) (hv : cells1 vs = some vs) (hn : vs.length = n) (ho : cs.length = n) :
    storeV S.length n (.ptr S.length 0) (.agg vs) (S ++ es) = some (S ++ es.set 0 (.obj vs)) := Ap.storeA (k := 0) h hv hn ho
theorem Ap.load {k o : Nat} {n : Option Nat} {cs : List AV} (h : es[k]? = some (.obj cs)) : loadV n (.ptr (S.length + k) o) (S ++ es) = takeC n cs o := by
  simp only [loadV, Ap.get, h]
theorem Ap.load0 {o : Nat} {n : Option Nat} {cs : List AV} (h : es[0]? = some (.obj cs)) : loadV n (.ptr S.length o) (S ++ es) = takeC n cs o := Ap.load (k := 0) h
theorem Ap.loadA {k n : Nat} {cs : List AV} (h : es[k]? = some (.obj cs)) (hn : cs.length = n) : loadV (some n) (.ptr (S.length + k) 0) (S ++ es) = some (.agg cs) := by
  rw [Ap.load h, takeC, if_pos (by omega), List.drop_zero, List.take_of_length_le (by omega)]
theorem Ap.loadA0 {n : Nat} {cs : List AV} (h : es[0]? = some (.obj cs)) (hn : cs.length = n) : loadV (some n) (.ptr S.length 0) (S ++ es) = some (.agg cs) := Ap.loadA (k := 0) h hn
theorem Ap.finish {vs vs' : List AV} (h : fins S.length (S ++ es) vs = some vs') (hb : belows S.length vs' = true) : Abs.finish false S.length vs (S ++ es) = some (outV vs', S) := by
  rw [finish_eq h hb]; simp

/-- The end of a function whose result lies in its first entry. -/
theorem Ap.ret1 {n : Nat} {cs vs : List AV} (h : es[0]? = some (.obj cs)) (hv : cells1 vs = some vs) (hi : imms vs = some vs) (hb : belows S.length vs = true) (hn : vs.length = n) (ho : cs.length = n) :
    ((storeV S.length n (.ptr S.length 0) (.agg vs) (S ++ es)).bind fun S1 => ((loadV (some n) (.ptr S.length 0) S1).bind fun v => (some []).bind fun r => some (v :: r)).bind fun q => Abs.finish false S.length q S1) = some (.agg vs, S) := by
  have hl : 0 < es.length := by
    cases es with
    | nil => cases h
    | cons => simp
  rw [Ap.storeA0 h hv hn ho, Option.bind_some, Ap.loadA0 (cs := vs) (by simp [hl]) hn]
  simp only [Option.bind_some]
  rw [Ap.finish (vs' := [.agg vs]) (by simp [fins, fin1, hi]) (by simp [hb])]
  rfl
theorem Ap.ret2 {n : Nat} {cs vs : List AV} {x x' : AV} (h : es[0]? = some (.obj cs)) (hv : cells1 vs = some vs) (hi : imms vs = some vs) (hb : belows S.length vs = true) (hn : vs.length = n) (ho : cs.length = n) (hx : fin1 S.length (S ++ es.set 0 (.obj vs)) x = some x') (hxb : below S.length x' = true) :
    ((storeV S.length n (.ptr S.length 0) (.agg vs) (S ++ es)).bind fun S1 => ((loadV (some n) (.ptr S.length 0) S1).bind fun v => ((some []).bind fun r => some (x :: r)).bind fun r => some (v :: r)).bind fun q => Abs.finish false S.length q S1) = some (.tup [.agg vs, x'], S) := by
  have hl : 0 < es.length := by
    cases es with
    | nil => cases h
    | cons => simp
  rw [Ap.storeA0 h hv hn ho, Option.bind_some, Ap.loadA0 (cs := vs) (by simp [hl]) hn]
  simp only [Option.bind_some]
  rw [Ap.finish (vs' := [.agg vs, x']) (by rw [fins, fins, fins, hx]; simp only [fin1, hi, Option.bind_some]) (by simp [hb, hxb])]
  rfl
end
end Go.Abs

/-
  Places on the twenty faces, in plain Lean.
-/
namespace Go.Abs
open Go

structure Pl where
  face : Int
  a : Int
  b : Int
  c : Int
deriving DecidableEq

def plC (p : Pl) : List AV := [i64 p.face, i64 p.a, i64 p.b, i64 p.c]
def pls (l : List Pl) : List (List AV) := l.map plC
@[simp] theorem pls_length {l : List Pl} : (pls l).length = l.length := by simp [pls]
@[simp] theorem imms_plC {p : Pl} : imms (plC p) = some (plC p) := by simp [plC]
@[simp] theorem cells1_plC {p : Pl} : cells1 (plC p) = some (plC p) := by simp [plC]
@[simp] theorem plC_length {p : Pl} : (plC p).length = 4 := rfl

/-- The corners of the faces. -/
def cornL : List (List Int) :=
  [[0, 1, 2], [0, 2, 3], [0, 3, 4], [0, 4, 5], [0, 5, 1],
   [1, 6, 2], [2, 7, 3], [3, 8, 4], [4, 9, 5], [5, 10, 1],
   [6, 7, 2], [7, 8, 3], [8, 9, 4], [9, 10, 5], [10, 6, 1],
   [11, 7, 6], [11, 8, 7], [11, 9, 8], [11, 10, 9], [11, 6, 10]]

def corn (f : Int) : List Int := cornL.getD f.toNat [0, 0, 0]
def cor (f : Int) (k : Nat) : Nat := ((corn f).getD k 0).toNat

/-- The weights of all vertices. -/
def wts (p : Pl) : List Int := (((List.replicate 12 (0 : Int)).set (cor p.face 0) p.a).set (cor p.face 1) p.b).set (cor p.face 2) p.c

/-- The address on a face. -/
def onA (f : Int) (w : List Int) : Pl := ⟨f, w.getD (cor f 0) 0, w.getD (cor f 1) 0, w.getD (cor f 2) 0⟩
def okA (q : Pl) : Bool := q.a + q.b + q.c == 840

def addrs (p : Pl) : List Pl := ((List.range 20).map fun f => onA (f : Nat) (wts p)).filter okA

def validPl (p : Pl) : Bool :=
  decide (0 ≤ p.face) && decide (p.face < 20) && decide (0 ≤ p.a) && decide (p.a ≤ 840) && decide (0 ≤ p.b) && decide (p.b ≤ 840) && decide (0 ≤ p.c) && decide (p.c ≤ 840) && (p.a + p.b + p.c == 840)

theorem validPl_iff {p : Pl} : validPl p = true ↔ 0 ≤ p.face ∧ p.face < 20 ∧ 0 ≤ p.a ∧ p.a ≤ 840 ∧ 0 ≤ p.b ∧ p.b ≤ 840 ∧ 0 ≤ p.c ∧ p.c ≤ 840 ∧ p.a + p.b + p.c = 840 := by
  simp [validPl, and_assoc]

theorem face_cases {f : Int} (h1 : 0 ≤ f) (h2 : f < 20) : f = 0 ∨ f = 1 ∨ f = 2 ∨ f = 3 ∨ f = 4 ∨ f = 5 ∨ f = 6 ∨ f = 7 ∨ f = 8 ∨ f = 9 ∨ f = 10 ∨ f = 11 ∨ f = 12 ∨ f = 13 ∨ f = 14 ∨ f = 15 ∨ f = 16 ∨ f = 17 ∨ f = 18 ∨ f = 19 := by omega

theorem corn_lt {f : Int} (h1 : 0 ≤ f) (h2 : f < 20) : cor f 0 < 12 ∧ cor f 1 < 12 ∧ cor f 2 < 12 ∧ cor f 0 ≠ cor f 1 ∧ cor f 0 ≠ cor f 2 ∧ cor f 1 ≠ cor f 2 ∧ corn f = [(cor f 0 : Int), (cor f 1 : Int), (cor f 2 : Int)] := by
  rcases face_cases h1 h2 with rfl | rfl | rfl | rfl | rfl | rfl | rfl | rfl | rfl | rfl | rfl | rfl | rfl | rfl | rfl | rfl | rfl | rfl | rfl | rfl <;> decide

@[simp] theorem wts_length {p : Pl} : (wts p).length = 12 := by simp [wts]

theorem wts_mem {p : Pl} (h : validPl p = true) : ∀ w ∈ wts p, 0 ≤ w ∧ w ≤ 840 := by
  obtain ⟨_, _, a1, a2, b1, b2, c1, c2, _⟩ := validPl_iff.1 h
  intro w hw
  rcases List.mem_or_eq_of_mem_set hw with hw | rfl
  · rcases List.mem_or_eq_of_mem_set hw with hw | rfl
    · rcases List.mem_or_eq_of_mem_set hw with hw | rfl
      · have := List.eq_of_mem_replicate hw; omega
      · exact ⟨a1, a2⟩
    · exact ⟨b1, b2⟩
  · exact ⟨c1, c2⟩

/-- A place lies at its own address. -/
theorem onA_self {p : Pl} (h : validPl p = true) : onA p.face (wts p) = p := by
  obtain ⟨f1, f2, _⟩ := validPl_iff.1 h
  obtain ⟨h0, h1, h2, n1, n2, n3, _⟩ := corn_lt f1 f2
  cases p with
  | mk f a b c =>
    simp only [onA, wts, Pl.mk.injEq, true_and]
    simp only at h0 h1 h2 n1 n2 n3
    refine ⟨?_, ?_, ?_⟩
    · rw [List.getD_eq_getElem?_getD, List.getElem?_set_ne (Ne.symm n2), List.getElem?_set_ne (Ne.symm n1), List.getElem?_set_self (by simpa using h0)]; rfl
    · rw [List.getD_eq_getElem?_getD, List.getElem?_set_ne (Ne.symm n3), List.getElem?_set_self (by simpa using h1)]; rfl
    · rw [List.getD_eq_getElem?_getD, List.getElem?_set_self (by simpa using h2)]; rfl

theorem onA_face (f : Int) (w : List Int) : (onA f w).face = f := rfl

theorem wts_get {p : Pl} (h : validPl p = true) (k : Nat) : 0 ≤ (wts p).getD k 0 ∧ (wts p).getD k 0 ≤ 840 := by
  rw [List.getD_eq_getElem?_getD]
  cases hk : (wts p)[k]? with
  | none => simp
  | some w => exact wts_mem h w (List.mem_of_getElem? hk)

theorem mem_addrs {p q : Pl} : q ∈ addrs p ↔ (∃ f : Nat, f < 20 ∧ q = onA f (wts p)) ∧ okA q = true := by
  simp only [addrs, List.mem_filter, List.mem_map, List.mem_range]
  constructor
  · rintro ⟨⟨f, h1, rfl⟩, h2⟩; exact ⟨⟨f, h1, rfl⟩, h2⟩
  · rintro ⟨⟨f, h1, rfl⟩, h2⟩; exact ⟨⟨f, h1, rfl⟩, h2⟩

theorem self_mem {p : Pl} (h : validPl p = true) : p ∈ addrs p := by
  obtain ⟨f1, f2, _, _, _, _, _, _, hs⟩ := validPl_iff.1 h
  rw [mem_addrs]
  refine ⟨⟨p.face.toNat, by omega, ?_⟩, by simp [okA, hs]⟩
  rw [show ((p.face.toNat : Nat) : Int) = p.face by omega, onA_self h]

theorem addrs_valid {p q : Pl} (h : validPl p = true) (hq : q ∈ addrs p) : validPl q = true := by
  obtain ⟨⟨f, hf, rfl⟩, h2⟩ := mem_addrs.1 hq
  have a := wts_get h (cor f 0)
  have b := wts_get h (cor f 1)
  have c := wts_get h (cor f 2)
  have hs : (onA f (wts p)).a + (onA f (wts p)).b + (onA f (wts p)).c = 840 := by simpa [okA] using h2
  exact validPl_iff.2 ⟨by rw [onA_face]; omega, by rw [onA_face]; omega, a.1, a.2, b.1, b.2, c.1, c.2, hs⟩

theorem addrs_ne {p : Pl} (h : validPl p = true) : addrs p ≠ [] := fun e => by
  have := self_mem h
  rw [e] at this; cases this

/-- The normal place. -/
def normP (p : Pl) : Pl := (addrs p).headD p

theorem normP_mem {p : Pl} (h : validPl p = true) : normP p ∈ addrs p := by
  unfold normP
  cases ha : addrs p with
  | nil => exact absurd ha (addrs_ne h)
  | cons q l => simp

theorem normP_valid {p : Pl} (h : validPl p = true) : validPl (normP p) = true := addrs_valid h (normP_mem h)
end Go.Abs
