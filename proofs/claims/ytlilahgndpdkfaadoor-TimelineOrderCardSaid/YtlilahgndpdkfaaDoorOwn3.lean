/-
  Texts of this claim: AbsComp, AbsCall.
-/
import Derived.Still
import Derived.Test.YtlilahgndpdkfaaDoorOwn0
set_option linter.all false
/-
  The translated code, read into the terms of AbsCore: each operation with the sizes and places that the program's types give.
-/
namespace Go.Abs
open Go

structure LoopAnn where
  live : List Nat
  inv : List Nat
  outs : List Nat
  pass : List Nat

/-- What is said of a function beside its text: how its variables are to be looked at. A wrong word makes the reading fail, it makes nothing true. -/
structure Ann where
  wr : List Nat := []
  pub : List Nat := []
  pbm : List Nat := []
  own : List (Nat × Nat) := []
  ownc : List (Nat × Nat × Nat) := []
  dis : List Nat := []
  frz : List Nat := []
  mt : List Nat := []
  pur : List Nat := []
  avo : List (Nat × List Nat) := []
  lr : List (Nat × Nat) := []
  li : List Nat := []
  keep : Bool := false
  loops : List LoopAnn := []

def constCell : Value → Option AV
  | .int k n => some (.int k n)
  | .bool b => some (.bool b)
  | .string s => some (.str s.data.toList)
  | .slice none 0 0 => some (.sl [] .full)
  | .pointer none => some .nilp
  | .map none => some .nilp
  | _ => none

def constCells : List Value → Option (List AV)
  | [] => some []
  | v :: vs => (constCell v).bind fun a => (constCells vs).bind fun as_ => some (a :: as_)

def constV : Value → Option AV
  | .agg cs => (constCells cs.toList).bind fun as_ => some (.agg as_)
  | .map none => some .nilp
  | v => constCell v

structure Tabs where
  P : Program
  glob : Nat → Option (List AV)

variable (T : Tabs) (an : Ann)

def opdC : Operand → Option Opd
  | .tmp t => some (.tmp t)
  | .const v => (constV v).bind fun a => some (.const a)
  | .global g => (T.glob g).bind fun cs => some (.const (.ip cs 0))
  | .func f => some (.const (.clo f []))

def opdsC : List Operand → Option (List Opd)
  | [] => some []
  | x :: xs => (opdC T x).bind fun a => (opdsC xs).bind fun as_ => some (a :: as_)

def opdO : Option Operand → Option (Option Opd)
  | none => some none
  | some x => (opdC T x).bind fun a => some (some a)

def sizeC (t : Nat) : Option Nat := (T.P.info? t).bind fun i => some i.size
/-- The cells of a type, and whether it is a struct or an array. -/
def aggC (t : Nat) : Option Bool := (T.P.underlying t).bind fun d => match d with
  | .struct _ | .array _ _ => some true
  | _ => some false
def shapeC (t : Nat) : Option (Option Nat) := (aggC T t).bind fun b => (sizeC T t).bind fun n => some (bif b then some n else none)
def zeroC (t : Nat) : Option (List AV) := (T.P.info? t).bind fun i => i.zero.bind fun z => constCells z.cells.toList
/-- The zero value of a type that is no struct and no array. -/
def zero1C (t : Nat) : Option AV := (T.P.info? t).bind fun i => i.zero.bind fun z => constCell z
/-- An element that is not too wide: so many cells, so many bytes. -/
def elemC (t : Nat) : Option Nat := (T.P.info? t).bind fun i => i.zero.bind fun z => bif (Nat.ble 1 i.size && Nat.ble i.bytes 1024 && Nat.beq z.cells.size i.size) then some i.size else none

/-- All fields' types are known. -/
def infosOk : List Field → Bool
  | [] => true
  | f :: fs => (T.P.info? f.type).isSome && infosOk fs

def partsS (fields : Array Field) : List (Nat × Operand) → Option (List (Nat × Nat × Opd))
  | [] => some []
  | (i, x) :: r => fields[i]?.bind fun f => (sizeC T f.type).bind fun n => (opdC T x).bind fun a => (partsS fields r).bind fun r' => some ((f.offset, n, a) :: r')

def partsA (sz : Nat) : List (Nat × Operand) → Option (List (Nat × Nat × Opd))
  | [] => some []
  | (i, x) :: r => (opdC T x).bind fun a => (partsA sz r).bind fun r' => some ((i * sz, sz, a) :: r')

def elemsL (zero : List AV) (parts : List (Nat × Operand)) : (n i : Nat) → Option (List (Opd ⊕ List AV))
  | 0, _ => some []
  | n + 1, i =>
    match parts.find? (fun (p : Nat × Operand) => p.1 == i) with
    | some (_, x) => (opdC T x).bind fun a => (elemsL zero parts n (i + 1)).bind fun r => some (Sum.inl a :: r)
    | none => (elemsL zero parts n (i + 1)).bind fun r => some (Sum.inr zero :: r)

def idxOk (n : Nat) : List (Nat × Operand) → Bool
  | [] => true
  | p :: r => Nat.blt p.1 n && (r.all fun q => !Nat.beq q.1 p.1) && idxOk n r

def kindC (t : Nat) : Option Nat := match T.P.underlying t with
  | some (.int _) => some 0
  | some .string => some 1
  | some .bool => some 2
  | _ => none

def kindsS : List Field → Nat → Option (List Nat)
  | [], _ => some []
  | f :: fs, i => bif f.name != "_" && Nat.beq f.offset i then (kindC T f.type).bind fun k => (kindsS fs (i + 1)).bind fun ks => some (k :: ks) else none

/-- A type whose values are told apart cell by cell: is it a struct, and its cells' kinds. -/
def kindsC (t : Nat) : Option (Bool × List Nat) := match T.P.underlying t with
  | some (.struct fs) => bif T.P.stoodInHeld t then none else (kindsS T fs.toList 0).bind fun ks => some (true, ks)
  | _ => (kindC T t).bind fun k => some (false, [k])

def fromO {α : Type} : Option α → (α → SOp) → SOp
  | some x, f => f x
  | none, _ => .fail

def callC (dst : Option Nat) (c : Call) : Option SOp :=
  match c.callee, c.args.toList, c.argTypes.toList with
  | .value (.func f), args, _ => (opdsC T args).bind fun as_ => 
    match dst.bind fun d => an.avo.find? fun (p : Nat × List Nat) => p.1 == d with
    | some (_, av) => some (.callO f as_ av)
    | none => some (bif an.pur.contains f then .callP f as_ else .call f as_)
  | .value (.tmp t), args, _ => (opdsC T args).bind fun as_ => some (.callV (.tmp t) as_)
  | .builtin .len, [x], [t] => (opdC T x).bind fun a => (T.P.underlying t).bind fun d => match d with
    | .string => some (.lenS a)
    | .slice _ => some (.len a)
    | .map _ _ => some (.lenM a)
    | .array n _ => some (.mv (.const (i64 n)))
    | .pointer e => (T.P.underlying e).bind fun d => match d with
      | .array n _ => some (.mv (.const (i64 n)))
      | _ => none
    | _ => none
  | .builtin .append, [x, y], [t, u] => (opdC T x).bind fun a => (opdC T y).bind fun b => (T.P.underlying t).bind fun d => match d with
    | .slice e => (elemC T e).bind fun sz => (T.P.underlying u).bind fun d' => match d' with
      | .slice _ | .string => some (bif (dst.map an.wr.contains).getD false then .appendM sz a b else .append sz a b)
      | _ => none
    | _ => none
  | .builtin .min, args, _ => (opdsC T args).bind fun as_ => some (.minmax false as_)
  | .builtin .max, args, _ => (opdsC T args).bind fun as_ => some (.minmax true as_)
  | _, _, _ => none

def isNeq : BinOp → Bool
  | .neq => true
  | _ => false

def isCmp : BinOp → Bool
  | .eql | .neq => true
  | _ => false

def opC (dst : Option Nat) (op : Op) : Option SOp :=
  let wr := (dst.map an.wr.contains).getD false
  match op with
  | .move x => (opdC T x).bind fun a => some (.mv a)
  | .assign x => (opdC T x).bind fun a => some (.mv a)
  | .pick c a b => (opdC T c).bind fun c => (opdC T a).bind fun a => (opdC T b).bind fun b => some (.pick c a b)
  | .alloc t => bif (dst.map fun d => an.pub.contains d || an.pbm.contains d).getD false then (T.P.info? t).bind fun i => i.zero.bind fun z => some (.allocP z.cells.size) else (zeroC T t).bind fun z => (sizeC T t).bind fun n => bif Nat.beq z.length n then some (.alloc z) else none
  | .box t x => (opdC T x).bind fun a => (sizeC T t).bind fun _ => some (bif wr then .boxM a else .boxP a)
  | .build t parts => (zeroC T t).bind fun z => (T.P.underlying t).bind fun d => match d with
    | .struct fs => bif infosOk T fs.toList then (partsS T fs parts.toList).bind fun ps => some (.build z ps) else none
    | .array _ e => (sizeC T e).bind fun sz => (partsA T sz parts.toList).bind fun ps => some (.build z ps)
    | _ => none
  | .buildSlice t len parts => (T.P.underlying t).bind fun d => match d with
    | .slice e => (zeroC T e).bind fun z => (elemC T e).bind fun sz => bif (Nat.ble len 1000 && Nat.ble sz 1000 && Nat.beq z.length sz && idxOk len parts.toList) then
        (elemsL T z parts.toList len 0).bind fun es => some (bif wr then .bsliceM sz es else .bslice sz es) else none
    | _ => none
  | .load t a => (opdC T a).bind fun a => (shapeC T t).bind fun n => some (match dst.bind fun d => an.lr.find? fun (p : Nat × Nat) => p.1 == d with
      | some (_, r) => .loadR n a r
      | none => bif (dst.map an.li.contains).getD false then .loadI n a else .load n a)
  | .store t a v => (sizeC T t).bind fun n => (opdC T v).bind fun v => match a with
    | .tmp s => some (bif an.pub.contains s then .storeP n s v else bif an.pbm.contains s then .storeN n s v else .store n (.tmp s) v)
    | _ => none
  | .nilCheck x => (opdC T x).bind fun a => some (.nilc a)
  | .binOp o t x y _ => (opdC T x).bind fun a => (opdC T y).bind fun b => (T.P.underlying t).bind fun d => match d with
    | .struct _ => bif isCmp o then (kindsC T t).bind fun ks => some (.eqc (isNeq o) ks.2 a b) else none
    | .int _ | .string => some (.bin o a b)
    | .bool => some (.binB o a b)
    | _ => none
  | .unOp o _ x => (opdC T x).bind fun a => some (.un o a)
  | .convert s t x => (opdC T x).bind fun a => (T.P.underlying s).bind fun d => (T.P.underlying t).bind fun d' => match d, d' with
    | .int _, .int k => some (.conv k a)
    | .int _, .string => some (.ofInt a)
    | .string, .slice e => (T.P.underlying e).bind fun b => match b with
      | .int .u8 => some (.toBytes a)
      | _ => none
    | .slice e, .string => (T.P.underlying e).bind fun b => match b with
      | .int .u8 => some (.ofBytes a)
      | _ => none
    | _, _ => none
  | .makeFunc (.func f) first captured => bif first.isEmpty then (opdsC T captured.toList).bind fun cs => some (.mkclo f cs) else none
  | .makeMap _ none => some .makeMap
  | .makeSlice t l c => (T.P.underlying t).bind fun d => match d with
    | .slice e => (zeroC T e).bind fun z => (elemC T e).bind fun sz => (opdC T l).bind fun l => (opdC T c).bind fun c => bif Nat.beq z.length sz then
        (bif (dst.map an.mt.contains).getD false then (match l with | .const (.int .i64 0) => some (.mtail sz c) | _ => none) else some (.mslice z l c)) else none
    | _ => none
  | .slice t x lo hi mx => (opdC T x).bind fun a => (opdO T lo).bind fun l => (opdO T hi).bind fun h => (opdO T mx).bind fun m => (T.P.underlying t).bind fun d => match d with
    | .string => bif m.isNone then some (.sliceS a l h) else none
    | .slice e => (elemC T e).bind fun sz => bif m.isNone || h.isSome then some (.slice sz a l h m) else none
    | .array n e => bif m.isNone then (elemC T e).bind fun sz => some (.sliceA sz n a l h) else none
    | _ => none
  | .fieldAddr t x f => (opdC T x).bind fun a => (T.P.underlying t).bind fun d => match d with
    | .struct fs => fs[f]?.bind fun f => (sizeC T f.type).bind fun n => bif Nat.ble 1 n then some (.fieldA f.offset a) else none
    | _ => none
  | .field t x f => (opdC T x).bind fun a => (T.P.underlying t).bind fun d => match d with
    | .struct fs => fs[f]?.bind fun f => (shapeC T f.type).bind fun n => some (.field f.offset n a)
    | _ => none
  | .indexAddr t x i => (opdC T x).bind fun a => (opdC T i).bind fun i => (T.P.underlying t).bind fun d => match d with
    | .array n e => (elemC T e).bind fun sz => some (.indexA sz (some n) a i)
    | .slice e => (elemC T e).bind fun sz => some (.indexA sz none a i)
    | _ => none
  | .index t x i => (opdC T x).bind fun a => (opdC T i).bind fun i => (T.P.underlying t).bind fun d => match d with
    | .array n e => (elemC T e).bind fun sz => (aggC T e).bind fun b => some (.index sz n b a i)
    | .string => some (.indexS a i)
    | _ => none
  | .lookup t m k ok => (opdC T m).bind fun m => (opdC T k).bind fun k => (T.P.underlying t).bind fun d => match d with
    | .map kt e => (zero1C T e).bind fun z => (kindsC T kt).bind fun ks => some (.lookup z ks.1 ks.2 m k ok)
    | _ => none
  | .mapUpdate t m k v => (opdC T m).bind fun m => (opdC T k).bind fun k => (opdC T v).bind fun v => (T.P.underlying t).bind fun d => match d with
    | .map kt _ => (kindsC T kt).bind fun ks => some (.mapSet ks.1 ks.2 m k v)
    | _ => none
  | .mapEntry t m k => (opdC T m).bind fun m => (opdC T k).bind fun k => (T.P.underlying t).bind fun d => match d with
    | .map kt e => (zero1C T e).bind fun z => (kindsC T kt).bind fun ks => some (.mapEntry z ks.1 ks.2 m k)
    | _ => none
  | .entryStore _ m st v => (opdC T m).bind fun m => (opdC T st).bind fun st => (opdC T v).bind fun v => some (.entryStore m st v)
  | .range t m => (opdC T m).bind fun m => (T.P.underlying t).bind fun d => match d with
    | .map _ _ => some (.range m)
    | _ => none
  | .entry it => (opdC T it).bind fun it => some (.entry it)
  | .extract x i => (opdC T x).bind fun a => some (.extract a i)
  | .call c => callC T an dst c
  | _ => none

/-- An operation that this reading does not take fails where it is met. -/
def opS (dst : Option Nat) (op : Op) : SOp :=
  let o := (opC T an dst op).getD .fail
  match dst with
  | none => o
  | some d =>
    match an.own.find? fun p => p.1 == d with
    | some (_, sz) => .post o (.own sz)
    | none =>
      match an.ownc.find? fun p => p.1 == d with
      | some (_, sz, j) => .post o (.ownCell sz j)
      | none => bif an.dis.contains d then .post o .disown else bif an.frz.contains d then .post o .freeze else o

def operC (ops : Array Oper) (o : Oper) : SOper :=
  match o.guard with
  | none => { dst := o.dst, op := opS T an o.dst o.op, guard := none }
  | some (j, b) =>
    match (ops[j]?).bind (·.dst) with
    | some d => { dst := o.dst, op := opS T an o.dst o.op, guard := some (d, b) }
    | none => { dst := o.dst, op := .fail, guard := none }

/-- Does an operation leave the store alone (and does it look at it)? -/
def quietB : SOp → Bool
  | .mv _ | .pick .. | .bin .. | .binB .. | .indexS .. | .lenS _ | .sliceS .. | .eqc .. | .un .. | .conv .. | .allocP _ | .boxP _ | .build .. | .bslice .. | .loadI .. | .len _ | .storeP .. | .nilc _ | .slice .. | .fieldA .. | .field .. | .indexA .. | .index ..
  | .extract .. | .mkclo .. | .minmax .. | .ofInt _ | .fail => true
  | .post o .disown => quietB o
  | _ => false

def readB : SOp → Bool
  | .load .. | .loadR .. | .lenM _ | .ofBytes _ | .lookup .. | .sliceA .. | .entry _ | .callP .. => true
  | .post o .disown => readB o
  | o => quietB o

def loadSlot : SOp → Option Nat
  | .loadR _ _ r => some r
  | _ => none

def avoids : SOp → List Nat
  | .callO _ _ av => av
  | _ => []

def commB (a b : SOp) : Bool := quietB a || quietB b || (readB a && readB b) || ((loadSlot a).any (avoids b).contains) || ((loadSlot b).any (avoids a).contains)

def opdSlots : Opd → List Nat
  | .tmp t => [t]
  | .const _ => []

def opdsSlots (l : List Opd) : List Nat := l.flatMap opdSlots
def opdoSlots : Option Opd → List Nat
  | some x => opdSlots x
  | none => []

/-- The slots that an operation reads. -/
def sreads : SOp → List Nat
  | .mv x | .un _ x | .conv _ x | .boxP x | .boxM x | .load _ x | .loadI _ x | .nilc x | .fieldA _ x | .field _ _ x | .len x | .lenS x | .lenM x | .toBytes x | .ofBytes x | .ofInt x | .extract x _ | .mtail _ x | .range x | .entry x => opdSlots x
  | .pick c a b => opdSlots c ++ (opdSlots a ++ opdSlots b)
  | .bin _ x y | .binB _ x y | .indexS x y | .eqc _ _ x y | .store _ x y | .indexA _ _ x y | .index _ _ _ x y | .append _ x y | .appendM _ x y | .mslice _ x y | .lookup _ _ _ x y _ | .mapEntry _ _ _ x y => opdSlots x ++ opdSlots y
  | .alloc _ | .allocP _ | .makeMap | .fail => []
  | .build _ ps => ps.flatMap fun p => opdSlots p.2.2
  | .bslice _ es | .bsliceM _ es => es.flatMap fun e => match e with | .inl x => opdSlots x | .inr _ => []
  | .storeP _ t v | .storeN _ t v => t :: opdSlots v
  | .slice _ x l h m => opdSlots x ++ (opdoSlots l ++ (opdoSlots h ++ opdoSlots m))
  | .sliceS x l h => opdSlots x ++ (opdoSlots l ++ opdoSlots h)
  | .sliceA _ _ x l h => opdSlots x ++ (opdoSlots l ++ opdoSlots h)
  | .mkclo _ xs | .call _ xs | .callP _ xs | .minmax _ xs => opdsSlots xs
  | .loadR _ x r => opdSlots x ++ [r]
  | .callO _ xs av => opdsSlots xs ++ av
  | .callV f xs => opdSlots f ++ opdsSlots xs
  | .mapSet _ _ m k v | .entryStore m k v => opdSlots m ++ (opdSlots k ++ opdSlots v)
  | .post o _ => sreads o

def looksS (s : SOper) : List Nat := sreads s.op ++ (match s.guard with | some (g, _) => [g] | none => [])

def SOper.outs (x : SOper) : List Nat := x.to.toList ++ x.dst.toList

def disj (a b : List Nat) : Bool := a.all fun x => !b.contains x

def apartB (x y : SOper) : Bool := disj x.outs (looksS y) && disj x.outs y.outs && disj y.outs (looksS x)

/-- Behind which operations each one stands, directly or through others: as_ bits. -/
def behindL (ops : List Oper) (acc : List Nat) : List Nat :=
  match ops with
  | [] => acc
  | o :: r => behindL r (acc ++ [o.after.toList.foldl (fun m e => if Region.binds .any e then Nat.lor m (Nat.lor (Nat.pow 2 e.on) (acc.getD e.on 0)) else m) 0])

def freeB (ops : Array Oper) (l : List SOper) (bl : List Nat) (listed : Array Bool) (i : Nat) : Bool :=
  match ops[i]?, l[i]? with
  | some _, some si => (List.range ops.size).all fun j => j == i || listed.getD j true || match ops[j]?, l[j]? with
      | some _, some sj => (bl.getD j 0).testBit i || (apartB si sj && commB si.op sj.op)
      | _, _ => false
  | _, _ => false

def lexFromB (ops : Array Oper) (l : List SOper) (bl : List Nat) : Nat → Nat → Array Bool → Bool
  | 0, _, listed => (Region.ready .any ops listed).isEmpty
  | n + 1, k, listed => (Region.ready .any ops listed).contains k && freeB ops l bl listed k && lexFromB ops l bl n (k + 1) (listed.setIfInBounds k true)

def drawB (ops : Array Oper) (l : List SOper) : Bool := Region.noSelect ops && lexFromB ops l (behindL ops.toList []) ops.size 0 (Array.replicate ops.size false)

def isDst : Option Nat → Nat → Bool
  | some d, t => Nat.beq d t
  | none, _ => false

def hasN : Option Nat → Nat → Bool
  | some m, n => Nat.beq m n
  | none, _ => false

/-- A variable's first store stands behind its making, and nothing writes the slot between: the slots that wait, with their cells' number. -/
def pdStep (o : SOper) (pd : Nat → Option Nat) : Option (Nat → Option Nat) :=
  match o.op with
  | .allocP n => bif o.guard.isNone then some fun t => bif isDst o.dst t then some n else pd t else none
  | .storeP n t _ | .storeN n t _ => bif (hasN (pd t) n && o.guard.isNone && o.dst.isNone) then some fun s => bif Nat.beq s t then none else pd s else none
  | _ => some fun t => bif isDst o.dst t then none else pd t

def pdRun : List SOper → (Nat → Option Nat) → Bool
  | [], _ => true
  | o :: l, pd => match pdStep o pd with
    | some pd' => pdRun l pd'
    | none => false

def regionC (ops : Array Oper) (draw : Bool) : Option (List SOper) :=
  let l := ops.toList.map (operC T an ops)
  bif ((!draw || drawB ops l) && pdRun l fun _ => none) then some l else none

def writesL (l : List SOper) : List Nat := l.flatMap (·.outs)

def SCode.writes : SCode → List Nat
  | .ops l => writesL l
  | .seq a b => a.writes ++ b.writes
  | .cond _ a b => a.writes ++ b.writes
  | .block _ b => b.writes
  | .loop _ _ _ _ b => b.writes
  | .range _ tup ok _ _ _ _ b => tup :: ok :: b.writes
  | _ => []

/-- The head of a walk's round: the step, and whether it met anything. -/
def walkHead (ops : Array Oper) : Option (Nat × Nat × Nat) :=
  match ops.toList with
  | [⟨some t, .next (.tmp it) false, _, _, _, none⟩, ⟨some ok, .extract (.tmp t') 0, _, _, _, none⟩] => bif Nat.beq t t' && !Nat.beq t it && !Nat.beq ok it && !Nat.beq ok t then some (it, t, ok) else none
  | _ => none

def codeC : Code → List LoopAnn → Option (SCode × List LoopAnn)
  | .skip, ls => some (.skip, ls)
  | .region _ ops draw, ls => (regionC T an ops draw).bind fun l => some (.ops l, ls)
  | .seq a b, ls => (codeC a ls).bind fun x => (codeC b x.2).bind fun y => some (.seq x.1 y.1, y.2)
  | .cond c a b, ls => (opdC T c).bind fun c => (codeC a ls).bind fun x => (codeC b x.2).bind fun y => some (.cond c x.1 y.1, y.2)
  | .block id b, ls => (codeC b ls).bind fun x => some (.block id x.1, x.2)
  | .loop (.seq (.region id ops false) c), l :: ls =>
    match walkHead ops with
    | some (it, tup, ok) => (codeC c ls).bind fun x => let w := tup :: ok :: x.1.writes
      bif (disj l.inv w && disj l.pass w && disj [it] w) then some (.range it tup ok l.live l.inv l.outs l.pass x.1, x.2) else none
    | none => (codeC (.seq (.region id ops false) c) ls).bind fun x => bif (disj l.inv x.1.writes && disj l.pass x.1.writes) then some (.loop l.live l.inv l.outs l.pass x.1, x.2) else none
  | .loop b, l :: ls => (codeC b ls).bind fun x => bif (disj l.inv x.1.writes && disj l.pass x.1.writes) then some (.loop l.live l.inv l.outs l.pass x.1, x.2) else none
  | .exit id, ls => some (.exit id, ls)
  | .ret, ls => some (.ret, ls)
  | _, _ => none

def resC : ResultVar → Option SRes
  | .tmp t => some (.tmp t)
  | .cell a t => (shapeC T t).bind fun n => match n with
    | some 0 => none
    | n => some (.cell a (n.getD 0))

def resCs : List ResultVar → Option (List SRes)
  | [] => some []
  | r :: rs => (resC T r).bind fun a => (resCs rs).bind fun as_ => some (a :: as_)

def funcC (f : Func) : Option SFunc :=
  f.body.bind fun b => (codeC T an b an.loops).bind fun x => (resCs T f.results.toList).bind fun rs => bif (x.1.writes.all fun d => Nat.blt d f.ntmps) && Nat.ble (f.params.size + f.nfree) f.ntmps then some { nparams := f.params.size + f.nfree, body := x.1, results := rs, keep := an.keep } else none

end Go.Abs

/-
  Calls by their number: what a function comes to, as_ the limit of deeper and deeper calls; and the equation by which it is its own text.
-/
namespace Go.Abs
open Go

/-- Functions that are given otherwise than by their text. -/
abbrev Over := Nat → Option (List AV → Store → Option (AV × Store))

structure Prg where
  T : Tabs
  an : Nat → Ann
  ov : Over

noncomputable def Prg.step (Y : Prg) (C : CallEnv) : CallEnv := fun f args S =>
  match Y.ov f with
  | some g => g args S
  | none =>
    match (Y.T.P.funcs[f]?).bind (funcC Y.T (Y.an f)) with
    | some sf => denF C sf args S
    | none => none

/-- What a function's text comes to. -/
noncomputable def Prg.text (T : Tabs) (an : Nat → Ann) (C : CallEnv) : CallEnv := fun f args S =>
  match (T.P.funcs[f]?).bind (funcC T (an f)) with
  | some sf => denF C sf args S
  | none => none

theorem Prg.step_none {T : Tabs} {an : Nat → Ann} {ov : Over} {C : CallEnv} {f : Nat} {args : List AV} {S : Store} (h : ov f = none) : (Prg.mk T an ov).step C f args S = Prg.text T an C f args S := by
  unfold Prg.step Prg.text
  simp only [h]

noncomputable def Prg.callN (Y : Prg) : Nat → CallEnv
  | 0 => fun _ _ _ => none
  | n + 1 => Y.step (Y.callN n)

open Classical in
noncomputable def Prg.call (Y : Prg) : CallEnv := fun f args S =>
  if h : ∃ r n, Y.callN n f args S = some r then some (Classical.choose h) else none

/-- C answers at least what A answers. -/
def Le (A C : CallEnv) : Prop := ∀ f args S r, A f args S = some r → C f args S = some r

section
variable {ρ : Type}

theorem bind_some_of {α : Type} {o : Option α} {K : α → Option ρ} {r : ρ} (h : o.bind K = some r) : ∃ a, o = some a ∧ K a = some r := Option.bind_eq_some_iff.1 h

/-- Whatever C answers, all of A's from some number on answer. -/
def Lim (A : Nat → CallEnv) (C : CallEnv) : Prop := ∀ f args S r, C f args S = some r → ∃ n, ∀ m, n ≤ m → A m f args S = some r

/-- What an operation comes to, as_ one equation for whatever follows. -/
theorem ghK_fact (g : Gh) (v : AV) (S : Store) (K : AV → Store → Option ρ) (r : ρ) (h : ghK g v S K = some r) :
    ∃ v' S', K v' S' = some r ∧ ∀ {ρ' : Type} (K' : AV → Store → Option ρ'), ghK g v S K' = K' v' S' := by
  cases g <;> simp only [ghK] at * <;> obtain ⟨x, hx, hk⟩ := bind_some_of h <;> first
    | exact ⟨x.1, x.2, hk, fun K' => by simp [hx]⟩
    | exact ⟨x, S, hk, fun K' => by simp [hx]⟩

theorem evalK_fact {A : Nat → CallEnv} {C : CallEnv} (hl : Lim A C) (b : Nat) (o : SOp) (e : Env) (S : Store) : ∀ {ρ : Type} (K : AV → Store → Option ρ) (r : ρ), evalK C b o e S K = some r →
    ∃ v S', K v S' = some r ∧ (∀ {ρ' : Type} (K' : AV → Store → Option ρ'), evalK C b o e S K' = K' v S') ∧ ∃ n, ∀ m, n ≤ m → ∀ {ρ' : Type} (K' : AV → Store → Option ρ'), evalK (A m) b o e S K' = K' v S' := by
  induction o with
  | post o g ih =>
    intro ρ K r h
    simp only [evalK] at h
    obtain ⟨v, S', hk, hK, n, hn⟩ := ih _ r h
    obtain ⟨v', S'', hk', hK'⟩ := ghK_fact g v S' K r hk
    refine ⟨v', S'', hk', fun K' => ?_, n, fun m hm ρ' K' => ?_⟩
    · simp only [evalK]; rw [hK]; exact hK' K'
    · simp only [evalK]; rw [hn m hm]; exact hK' K'
  | call f args =>
    intro ρ K r h
    simp only [evalK] at *
    obtain ⟨as_, has, h⟩ := bind_some_of h
    obtain ⟨x, hx, hk⟩ := bind_some_of h
    obtain ⟨n, hn⟩ := hl _ _ _ _ hx
    exact ⟨x.1, x.2, hk, fun K' => by simp [has, hx], n, fun m hm ρ' K' => by simp [has, hn m hm]⟩
  | callP f args =>
    intro ρ K r h
    simp only [evalK] at *
    obtain ⟨as_, has, h⟩ := bind_some_of h
    obtain ⟨x, hx, hk⟩ := bind_some_of h
    obtain ⟨y, hy, hs⟩ := bind_some_of hx
    obtain ⟨n, hn⟩ := hl _ _ _ _ hy
    exact ⟨x, S, hk, fun K' => by simp [has, hy, hs], n, fun m hm ρ' K' => by simp [has, hn m hm, hs]⟩
  | callO f args av =>
    intro ρ K r h
    simp only [evalK] at *
    obtain ⟨as_, has, h⟩ := bind_some_of h
    obtain ⟨x, hx, hk⟩ := bind_some_of h
    obtain ⟨y, hy, hs⟩ := bind_some_of hx
    obtain ⟨n, hn⟩ := hl _ _ _ _ hy
    exact ⟨x.1, x.2, hk, fun K' => by simp [has, hy, hs], n, fun m hm ρ' K' => by simp [has, hn m hm, hs]⟩
  | callV fv args =>
    intro ρ K r h
    simp only [evalK] at *
    split at h
    · rename_i f caps hf
      obtain ⟨as_, has, h⟩ := bind_some_of h
      obtain ⟨x, hx, hk⟩ := bind_some_of h
      obtain ⟨n, hn⟩ := hl _ _ _ _ hx
      exact ⟨x.1, x.2, hk, fun K' => by simp [has, hx], n, fun m hm ρ' K' => by simp [has, hn m hm]⟩
    · cases h
  | storeP n t v | storeN n t v =>
    intro ρ K r h
    simp only [evalK] at *
    obtain ⟨x, hx, h⟩ := bind_some_of h
    split at h
    · rename_i hn
      exact ⟨_, _, h, fun K' => by simp [hx, hn], 0, fun m hm ρ' K' => by simp [hx, hn]⟩
    · cases h
  | fail => intro ρ K r h; simp [evalK] at h
  | _ =>
    intro ρ K r h
    simp only [evalK] at *
    first
      | exact ⟨_, _, h, fun K' => rfl, 0, fun m hm ρ' K' => rfl⟩
      | (obtain ⟨x, hx, hk⟩ := bind_some_of h
         exact ⟨_, _, hk, fun K' => by simp [hx], 0, fun m hm ρ' K' => by simp [hx]⟩)

theorem guardK_fact {g : AV} {w : Bool} {m s : Option (AV × Store)} {x : AV × Store} (h : guardK g w m s = some x) :
    (guardK g w m s = m ∧ m = some x ∧ ∀ m' s' : Option (AV × Store), guardK g w m' s' = m') ∨ (s = some x ∧ ∀ m' : Option (AV × Store), guardK g w m' s = some x) := by
  by_cases hu : g = .und
  · subst hu; exact .inr ⟨h, fun _ => h⟩
  cases g <;> simp only [guardK] at h <;> first | (cases h; done) | (exact absurd rfl hu) | skip
  rename_i b
  by_cases hb : b = w
  · left; subst hb; exact ⟨by simp [guardK], by simpa using h, fun _ _ => by simp [guardK]⟩
  · right; exact ⟨by simpa [hb] using h, fun _ => by simpa [guardK, hb] using h⟩

/-- The same of an operation with its guard: it comes to one environment and one store. -/
theorem runOp_fact {A : Nat → CallEnv} {C : CallEnv} (hl : Lim A C) (b : Nat) (o : SOper) (e : Env) (S : Store) (K : Env → Store → Option ρ) (r : ρ) (h : runOp C b o K e S = some r) :
    ∃ e' S', K e' S' = some r ∧ (∀ {ρ' : Type} (K' : Env → Store → Option ρ'), runOp C b o K' e S = K' e' S') ∧ ∃ n, ∀ m, n ≤ m → ∀ {ρ' : Type} (K' : Env → Store → Option ρ'), runOp (A m) b o K' e S = K' e' S' := by
  cases hg : o.guard with
  | none =>
    simp only [runOp, hg] at *
    obtain ⟨v, S', hk, hK, n, hn⟩ := evalK_fact hl b o.op e S _ r h
    exact ⟨_, _, hk, fun K' => hK _, n, fun m hm ρ' K' => hn m hm _⟩
  | some gw =>
    obtain ⟨g, w⟩ := gw
    simp only [runOp, hg] at *
    obtain ⟨x, hx, hk⟩ := bind_some_of h
    rcases guardK_fact hx with ⟨h1, h2, h3⟩ | ⟨h1, h2⟩
    · obtain ⟨v, S', hk', hK, n, hn⟩ := evalK_fact hl b o.op e S _ x h2
      cases hk'
      refine ⟨_, _, hk, fun K' => ?_, n, fun m hm ρ' K' => ?_⟩
      · rw [h3, hK]; rfl
      · rw [h3, hn m hm]; rfl
    · refine ⟨_, _, hk, fun K' => ?_, 0, fun m _ ρ' K' => ?_⟩ <;> rw [h2] <;> rfl

theorem runOps_fact {A : Nat → CallEnv} {C : CallEnv} (hl : Lim A C) (b : Nat) : ∀ (l : List SOper) (e : Env) (S : Store) {ρ : Type} (K : Env → Store → Option ρ) (r : ρ), runOps C b l K e S = some r →
    ∃ e' S', K e' S' = some r ∧ (∀ {ρ' : Type} (K' : Env → Store → Option ρ'), runOps C b l K' e S = K' e' S') ∧ ∃ n, ∀ m, n ≤ m → ∀ {ρ' : Type} (K' : Env → Store → Option ρ'), runOps (A m) b l K' e S = K' e' S'
  | [], e, S, _, K, r, h => ⟨e, S, h, fun _ => rfl, 0, fun _ _ _ _ => rfl⟩
  | o :: l, e, S, _, K, r, h => by
    obtain ⟨e1, S1, h1, hK1, n1, hn1⟩ := runOp_fact hl b o e S _ r h
    obtain ⟨e2, S2, h2, hK2, n2, hn2⟩ := runOps_fact hl b l e1 S1 K r h1
    refine ⟨e2, S2, h2, fun K' => ?_, max n1 n2, fun m hm ρ' K' => ?_⟩
    · simp only [runOps_nil, runOps_cons]; rw [hK1, hK2]
    · simp only [runOps_nil, runOps_cons]; rw [hn1 m (by omega), hn2 m (by omega)]

theorem iterN_congr {σ τ : Type} {f g : σ → Option (σ ⊕ τ)} (h : ∀ s x, f s = some x → g s = some x) : ∀ n s r, iterN f n s = some r → iterN g n s = some r
  | 0, s, r, hr => by simp [iterN] at hr
  | n + 1, s, r, hr => by
    simp only [iterN] at *
    obtain ⟨x, hx, hk⟩ := bind_some_of hr
    rw [h s x hx]
    cases x with
    | inl s' => exact iterN_congr h n s' r hk
    | inr t => exact hk

theorem forall_lim {α : Type} {P : Nat → α → Prop} : ∀ (l : List α), (∀ y ∈ l, ∃ n, ∀ m, n ≤ m → P m y) → ∃ n, ∀ m, n ≤ m → ∀ y ∈ l, P m y
  | [], _ => ⟨0, fun _ _ y hy => by simp at hy⟩
  | a :: l, h => by
    obtain ⟨n1, h1⟩ := h a (by simp)
    obtain ⟨n2, h2⟩ := forall_lim l fun y hy => h y (by simp [hy])
    refine ⟨max n1 n2, fun m hm y hy => ?_⟩
    rcases List.mem_cons.1 hy with rfl | hy
    · exact h1 m (by omega)
    · exact h2 m (by omega) y hy

/-- What a piece of code comes to, the calls deep enough come to. -/
theorem den_lim {A : Nat → CallEnv} {C : CallEnv} (hl : Lim A C) (b : Nat) (c : SCode) : ∀ {ρ : Type} (K : Ex → Env → Store → Option ρ) (Km : Nat → Ex → Env → Store → Option ρ),
    (∀ x e S r, K x e S = some r → ∃ n, ∀ m, n ≤ m → Km m x e S = some r) → ∀ e S r, den C b c K e S = some r → ∃ n, ∀ m, n ≤ m → den (A m) b c (Km m) e S = some r := by
  induction c with
  | skip => exact fun K Km hK e S r h => hK _ e S r h
  | exit id => exact fun K Km hK e S r h => hK _ e S r h
  | ret => exact fun K Km hK e S r h => hK _ e S r h
  | ops l =>
    intro ρ K Km hK e S r h
    obtain ⟨e', S', hk, _, n, hn⟩ := runOps_fact hl b l e S _ r h
    obtain ⟨n2, hn2⟩ := hK _ _ _ _ hk
    refine ⟨max n n2, fun m hm => ?_⟩
    rw [den_ops, hn m (by omega)]
    exact hn2 m (by omega)
  | seq a y iha ihb =>
    intro ρ K Km hK e S r h
    rw [den_seq] at h
    obtain ⟨n, hn⟩ := iha (exK (den C b y K) (fun i => K (.exit i)) (K .ret)) (fun m => exK (den (A m) b y (Km m)) (fun i => Km m (.exit i)) (Km m .ret)) (fun x e S r hx => by
      cases x with
      | normal => exact ihb K Km hK e S r hx
      | exit i => exact hK _ e S r hx
      | ret => exact hK _ e S r hx) e S r h
    exact ⟨n, fun m hm => by rw [den_seq]; exact hn m hm⟩
  | cond c a y iha ihb =>
    intro ρ K Km hK e S r h
    rw [den_cond] at h
    cases hc : c.ev e <;> simp only [hc, condK] at h <;> try (cases h; done)
    rename_i t
    cases t with
    | true =>
      obtain ⟨n, hn⟩ := iha K Km hK e S r (by simpa using h)
      exact ⟨n, fun m hm => by rw [den_cond, hc]; simpa [condK] using hn m hm⟩
    | false =>
      obtain ⟨n, hn⟩ := ihb K Km hK e S r (by simpa using h)
      exact ⟨n, fun m hm => by rw [den_cond, hc]; simpa [condK] using hn m hm⟩
  | block id y ih =>
    intro ρ K Km hK e S r h
    rw [den_block] at h
    obtain ⟨n, hn⟩ := ih _ (fun m => exK (Km m .normal) (fun i e S => bif Nat.beq i id then Km m .normal e S else Km m (.exit i) e S) (Km m .ret)) (fun x e S r hx => by
      cases x with
      | normal => exact hK _ e S r hx
      | ret => exact hK _ e S r hx
      | exit i =>
        simp only [exK_exit] at hx ⊢
        cases hi : Nat.beq i id with
        | true => rw [hi] at hx; exact hK _ e S r hx
        | false => rw [hi] at hx; exact hK _ e S r hx) e S r h
    exact ⟨n, fun m hm => by rw [den_block]; exact hn m hm⟩
  | loop live inv outs pass y ih =>
    intro ρ K Km hK e S r h
    rw [den_loop] at h
    obtain ⟨x, hx, hk⟩ := bind_some_of h
    obtain ⟨k, hkn⟩ := iter_some hx
    have key : ∀ k s x, iterN (σ := List AV × Store) (τ := Ex × List AV × Store) (fun s =>
        den C b y (exK (fun e' S' => (nextS b s.2.length (e'.gets live) S').bind fun r => some (.inl r))
            (fun i e' S' => some (.inr (.exit i, e'.gets outs, S')))
            (fun e' S' => some (.inr (.ret, e'.gets outs, S'))))
        (envOf live s.1 0 (e.only inv)) s.2) k s = some x → ∃ n, ∀ m, n ≤ m → iterN (σ := List AV × Store) (τ := Ex × List AV × Store) (fun s =>
        den (A m) b y (exK (fun e' S' => (nextS b s.2.length (e'.gets live) S').bind fun r => some (.inl r))
            (fun i e' S' => some (.inr (.exit i, e'.gets outs, S')))
            (fun e' S' => some (.inr (.ret, e'.gets outs, S'))))
        (envOf live s.1 0 (e.only inv)) s.2) k s = some x := by
      intro k
      induction k with
      | zero => intro s x h; simp [iterN] at h
      | succ k ihk =>
        intro s x h
        simp only [iterN] at h
        obtain ⟨z, hy, hyk⟩ := bind_some_of h
        obtain ⟨n1, hn1⟩ := ih _ (fun _ => _) (fun x e S r hx => ⟨0, fun _ _ => hx⟩) _ _ _ hy
        cases z with
        | inl s' =>
          obtain ⟨n2, hn2⟩ := ihk s' x hyk
          refine ⟨max n1 n2, fun m hm => ?_⟩
          simp only [iterN]
          rw [hn1 m (by omega)]
          exact hn2 m (by omega)
        | inr t =>
          refine ⟨n1, fun m hm => ?_⟩
          simp only [iterN]
          rw [hn1 m hm]
          exact hyk
    obtain ⟨n, hn⟩ := key k _ x hkn
    have hx' : ∀ m, n ≤ m → iter _ _ = some x := fun m hm => iter_of (hn m hm)
    have hkk : ∃ n2, ∀ m, n2 ≤ m → exK none (fun i => Km m (.exit i) (envOf outs x.2.1 0 (e.only pass)) x.2.2) (Km m .ret (envOf outs x.2.1 0 (e.only pass)) x.2.2) x.1 = some r := by
      cases hx1 : x.1 with
      | normal => rw [hx1] at hk; cases hk
      | exit i => rw [hx1] at hk; exact hK _ _ _ _ hk
      | ret => rw [hx1] at hk; exact hK _ _ _ _ hk
    obtain ⟨n2, hn2⟩ := hkk
    exact ⟨max n n2, fun m hm => by rw [den_loop, hx' m (by omega)]; exact hn2 m (by omega)⟩
  | range it tup ok live inv outs pass y ih =>
    intro ρ K Km hK e S r h
    rw [den_range] at h
    have key : ∀ n vs S r, rangeK (e.get it) (fun t o vs S' Kn => den C b y (exK (fun e' S'' => Kn (e'.gets live) S'')
          (fun i e' S'' => K (.exit i) (envOf outs (e'.gets outs) 0 (e.only pass)) S'')
          (fun e' S'' => K .ret (envOf outs (e'.gets outs) 0 (e.only pass)) S''))
        (((envOf live vs 0 (e.only inv)).put (some tup) t).put (some ok) o) S') n vs S = some r → ∃ N, ∀ m, N ≤ m → rangeK (e.get it) (fun t o vs S' Kn => den (A m) b y (exK (fun e' S'' => Kn (e'.gets live) S'')
          (fun i e' S'' => Km m (.exit i) (envOf outs (e'.gets outs) 0 (e.only pass)) S'')
          (fun e' S'' => Km m .ret (envOf outs (e'.gets outs) 0 (e.only pass)) S''))
        (((envOf live vs 0 (e.only inv)).put (some tup) t).put (some ok) o) S') n vs S = some r := by
      intro n
      induction n with
      | zero =>
        intro vs S r h
        simp only [rangeK] at h ⊢
        split at h
        · rename_i hs
          obtain ⟨N, hN⟩ := ih _ (fun m => exK (fun e' S'' => none)
            (fun i e' S'' => Km m (.exit i) (envOf outs (e'.gets outs) 0 (e.only pass)) S'')
            (fun e' S'' => Km m .ret (envOf outs (e'.gets outs) 0 (e.only pass)) S'')) (fun x e S r hx => by
            cases x with
            | normal => cases hx
            | exit i => exact hK _ _ _ _ hx
            | ret => exact hK _ _ _ _ hx) _ _ _ h
          exact ⟨N, hN⟩
        · cases h
      | succ n ihn =>
        intro vs S r h
        simp only [rangeK] at h ⊢
        obtain ⟨l, hl1, hl2⟩ := bind_some_of h
        obtain ⟨hne, hall⟩ := agree_some.1 hl2
        obtain ⟨N, hN⟩ := forall_lim (P := fun m c => _) l fun c hc => ih _ (fun m => exK (fun e' S'' => rangeK (e.get it) (fun t o vs S' Kn => den (A m) b y (exK (fun e' S'' => Kn (e'.gets live) S'')
              (fun i e' S'' => Km m (.exit i) (envOf outs (e'.gets outs) 0 (e.only pass)) S'')
              (fun e' S'' => Km m .ret (envOf outs (e'.gets outs) 0 (e.only pass)) S''))
            (((envOf live vs 0 (e.only inv)).put (some tup) t).put (some ok) o) S') n (e'.gets live) S'')
            (fun i e' S'' => Km m (.exit i) (envOf outs (e'.gets outs) 0 (e.only pass)) S'')
            (fun e' S'' => Km m .ret (envOf outs (e'.gets outs) 0 (e.only pass)) S'')) (fun x e S r hx => by
            cases x with
            | normal => exact ihn _ _ _ hx
            | exit i => exact hK _ _ _ _ hx
            | ret => exact hK _ _ _ _ hx) _ _ _ (hall c hc)
        refine ⟨N, fun m hm => ?_⟩
        rw [hl1]
        exact agree_some.2 ⟨hne, hN m hm⟩
    obtain ⟨N, hN⟩ := key _ _ _ _ h
    exact ⟨N, fun m hm => by rw [den_range]; exact hN m hm⟩

theorem denF_fact {A : Nat → CallEnv} {C : CallEnv} (hl : Lim A C) (f : SFunc) (args : List AV) (S : Store) (r : AV × Store) (h : denF C f args S = some r) :
    ∃ n, ∀ m, n ≤ m → denF (A m) f args S = some r :=
  den_lim hl S.length f.body _ (fun _ => _) (fun x e S r hx => ⟨0, fun _ _ => hx⟩) _ _ _ h
end

section
variable (Y : Prg)

/-- More answers below, more answers above. -/
theorem Prg.step_le {A C : CallEnv} (h : Le A C) : Le (Y.step A) (Y.step C) := by
  intro f args S r hr
  unfold Prg.step at *
  split at hr
  · exact hr
  · split at hr
    · rename_i sf _
      obtain ⟨n, hn⟩ := denF_fact (A := fun _ => C) (fun f args S r hr => ⟨0, fun _ _ => h f args S r hr⟩) sf args S r hr
      exact hn n (Nat.le_refl _)
    · cases hr

theorem Prg.callN_le (n : Nat) : Le (Y.callN n) (Y.callN (n + 1)) := by
  induction n with
  | zero => intro f args S r h; simp [Prg.callN] at h
  | succ n ih => exact Y.step_le ih

theorem Prg.callN_mono {n m : Nat} (h : n ≤ m) : Le (Y.callN n) (Y.callN m) := by
  induction m with
  | zero => obtain rfl : n = 0 := by omega
            exact fun _ _ _ _ h => h
  | succ m ih =>
    by_cases e : n = m + 1
    · subst e; exact fun _ _ _ _ h => h
    · exact fun f a S r hr => Y.callN_le m f a S r (ih (by omega) f a S r hr)

theorem Prg.call_of {n : Nat} {f : Nat} {args : List AV} {S : Store} {r : AV × Store} (h : Y.callN n f args S = some r) : Y.call f args S = some r := by
  have hx : ∃ r n, Y.callN n f args S = some r := ⟨r, n, h⟩
  unfold Prg.call
  rw [dif_pos hx]
  obtain ⟨m, hm⟩ := Classical.choose_spec hx
  have h1 := Y.callN_mono (Nat.le_max_left n m) _ _ _ _ h
  have h2 := Y.callN_mono (Nat.le_max_right n m) _ _ _ _ hm
  rw [h1] at h2
  exact h2.symm

theorem Prg.call_some {f : Nat} {args : List AV} {S : Store} {r : AV × Store} (h : Y.call f args S = some r) : ∃ n, ∀ m, n ≤ m → Y.callN m f args S = some r := by
  unfold Prg.call at h
  split at h
  · rename_i hx
    obtain ⟨n, hn⟩ := Classical.choose_spec hx
    refine ⟨n, fun m hm => Y.callN_mono hm _ _ _ _ (by rw [hn]; exact h)⟩
  · cases h

/-- ████ A function is its own text. -/
theorem Prg.call_eq (f : Nat) (args : List AV) (S : Store) : Y.call f args S = Y.step Y.call f args S := by
  cases h : Y.step Y.call f args S with
  | some r =>
    have : ∃ n, Y.step (Y.callN n) f args S = some r := by
      unfold Prg.step at *
      split at h
      · exact ⟨0, h⟩
      · split at h
        · obtain ⟨n, hn⟩ := denF_fact (A := Y.callN) (fun f args S r hr => Y.call_some hr) _ args S r h
          exact ⟨n, hn n (Nat.le_refl _)⟩
        · cases h
    obtain ⟨n, hn⟩ := this
    exact Y.call_of (n := n + 1) hn
  | none =>
    cases hc : Y.call f args S with
    | none => rfl
    | some r =>
      obtain ⟨n, hn⟩ := Y.call_some hc
      have h1 := hn (n + 1) (by omega)
      have h2 := Y.step_le (A := Y.callN n) (C := Y.call) (fun f args S r hr => Y.call_of hr) f args S r h1
      rw [h] at h2
      cases h2

end
end Go.Abs
