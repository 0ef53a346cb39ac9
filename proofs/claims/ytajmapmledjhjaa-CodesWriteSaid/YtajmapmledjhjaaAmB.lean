/- The abstract machine: from the program's code to its own; what each operation gives. -/
import Derived.Test.YtajmapmledjhjaaAmA
import Derived.Laws.BytesArg
namespace Go.Am
open Go Go.RowKit

/-! ### Constants and types -/
def absL : Value → Option AV
  | .bool b => some (.bool b)
  | .int k n => some (.int k n)
  | .string s => some (.str s)
  | .slice none 0 0 => some (.sl .full [])
  | .pointer none => some .nilptr
  | .nilFunc => some .nilfn
  | .map none => some .nilmap
  | .nilIface => some .niface
  | _ => none

def absAll : List Value → Option (List AV)
  | [] => some []
  | v :: vs => (absL v).bind fun x => (absAll vs).map fun xs => x :: xs

def absC (v : Value) : Option AV :=
  match v with
  | .agg cs => (absAll cs.toList).map .agg
  | v => absL v

def cOpd (N : Nat) : Operand → Option Opd
  | .tmp t => if t < N then some (.t t) else none
  | .const v => (absC v).map .c
  | .func f => some (.c (.fn f [] []))
  | .global _ => none

def cOpds (N : Nat) : List Operand → Option (List Opd)
  | [] => some []
  | x :: xs => (cOpd N x).bind fun y => (cOpds N xs).map fun ys => y :: ys

def cOpdO (N : Nat) : Option Operand → Option (Option Opd)
  | none => some none
  | some x => (cOpd N x).map some

def isAggD : TypeDesc → Bool
  | .struct _ | .array _ _ => true
  | _ => false

def szT (P : Program) (t : TypeId) : Option Nat := (P.info? t).map (·.size)
def bytesT (P : Program) (t : TypeId) : Option Nat := (P.info? t).map (·.bytes)
def zeroT (P : Program) (t : TypeId) : Option (List AV) := ((P.info? t).bind (·.zero)).bind fun z => (absC z).map AV.cells
def aggT (P : Program) (t : TypeId) : Option Bool := (P.underlying t).map isAggD

/-- A struct's or an array's parts: where each lies, how many cells it has. -/
def cParts (N : Nat) (place : Nat → Option (Nat × Nat)) : List (Nat × Operand) → Option (List (Nat × Nat × Opd))
  | [] => some []
  | (i, x) :: ps => (place i).bind fun q => (cOpd N x).bind fun y => (cParts N place ps).map fun ys => (q.1, q.2, y) :: ys

def placesOf (P : Program) (fs : List Field) : Option (List (Nat × Nat)) :=
  match fs with
  | [] => some []
  | f :: fs => (szT P f.type).bind fun n => (placesOf P fs).map fun r => (f.offset, n) :: r

/-- A slice literal's parts, each in its turn. -/
def cRow (N : Nat) : Nat → List (Nat × Operand) → Option (List Opd)
  | _, [] => some []
  | k, (i, x) :: ps => if i = k then (cOpd N x).bind fun y => (cRow N (k + 1) ps).map fun ys => y :: ys else none

/-- Whose cells may be compared one by one: whole numbers, bools, strings. -/
def plainD : TypeDesc → Option LK
  | .bool => some .b
  | .int _ => some .i
  | .string => some .s
  | _ => none

def flatF (P : Program) (rec : TypeId → Option (List LK)) : List Field → Nat → Option (List LK)
  | [], _ => some []
  | f :: fs, off => if f.name ≠ "_" ∧ f.offset = off then (rec f.type).bind fun c => if szT P f.type = some c.length then (flatF P rec fs (off + c.length)).map fun r => c ++ r else none else none

def rep (n : Nat) (c : List LK) : List LK :=
  match n with
  | 0 => []
  | n + 1 => c ++ rep n c

def flat (P : Program) : Nat → TypeId → Option (List LK)
  | 0, _ => none
  | d + 1, t =>
    match P.underlying t with
    | some (.struct fs) => if P.stoodInHeld t then none else flatF P (flat P d) fs.toList 0
    | some (.array n e) => (flat P d e).bind fun c => if szT P e = some c.length then some (rep n c) else none
    | some u => (plainD u).map fun k => [k]
    | none => none

def cOp1 (P : Program) (N : Nat) (o : Oper) : Option IOp :=
  match o.op with
  | .move x | .assign x => (cOpd N x).map .mov
  | .pick c a b => (cOpd N c).bind fun c => (cOpd N a).bind fun a => (cOpd N b).map fun b => .pick c a b
  | .alloc t => (zeroT P t).map .alloc
  | .box _ x => (cOpd N x).map .box
  | .build t ps =>
    (zeroT P t).bind fun z =>
    match P.underlying t with
    | some (.struct fs) => (placesOf P fs.toList).bind fun pl => (cParts N (pl[·]?) ps.toList).map fun qs => .build z qs
    | some (.array _ e) => (szT P e).bind fun n => (cParts N (fun i => some (i * n, n)) ps.toList).map fun qs => .build z qs
    | _ => none
  | .buildSlice t len ps =>
    match P.underlying t with
    | some (.slice e) => (szT P e).bind fun n => (zeroT P e).bind fun z =>
        (cRow N 0 ps.toList).bind fun xs => if xs.length = len ∧ 0 < n ∧ z.length = n ∧ len * n ≤ 16777216 then some (.bsl n len z ((List.range len).zip xs)) else none
    | _ => none
  | .load t a => (cOpd N a).bind fun a => (szT P t).bind fun n => (aggT P t).bind fun g => if g = true ∨ n = 1 then some (.load n g a) else none
  | .store t a x => (cOpd N a).bind fun a => (cOpd N x).bind fun x => (szT P t).map fun n => .store n a x
  | .nilCheck x => (cOpd N x).map .nilck
  | .binOp op t x y _ => (cOpd N x).bind fun x => (cOpd N y).bind fun y =>
    match P.underlying t with
    | some (.int _) | some .string => some (.bin op x y)
    | some .bool | some (.struct _) | some (.array _ _) => (flat P 60 t).bind fun n => (aggT P t).bind fun ag => if P.eqGuardType P.depth t then none else match op with
      | .eql => some (.eq n ag false x y)
      | .neq => some (.eq n ag true x y)
      | _ => none
    | some (.slice _) => match y, op with
      | .c (.sl .full []), .eql => some (.isnil false x)
      | .c (.sl .full []), .neq => some (.isnil true x)
      | _, _ => none
    | _ => none
  | .unOp op _ x => (cOpd N x).map (.un op)
  | .convert s d x => (cOpd N x).bind fun x =>
    match P.underlying s, P.underlying d with
    | some (.int _), some (.int k) => some (.conv k x)
    | some (.slice e), some .string => match P.underlying e with
      | some (.int .u8) => some (.b2s x)
      | _ => none
    | _, _ => none
  | .fieldAddr s x f =>
    match P.underlying s with
    | some (.struct fs) => (fs[f]?).bind fun fd => (szT P fd.type).bind fun n => if n = 0 then none else (cOpd N x).map (.faddr fd.offset)
    | _ => none
  | .field s x f =>
    match P.underlying s with
    | some (.struct fs) => (fs[f]?).bind fun fd => (szT P fd.type).bind fun n => (aggT P fd.type).bind fun g => if g = true ∨ n = 1 then (cOpd N x).map (.fld fd.offset n g) else none
    | _ => none
  | .indexAddr t x i => (cOpd N x).bind fun x => (cOpd N i).bind fun i =>
    match P.underlying t with
    | some (.array len e) => (szT P e).map fun n => .iaddrA len n x i
    | some (.slice e) => (szT P e).map fun n => .iaddr n x i
    | _ => none
  | .index t x i => (cOpd N x).bind fun x => (cOpd N i).bind fun i =>
    match P.underlying t with
    | some (.array len e) => (szT P e).bind fun n => (aggT P e).bind fun g => if g = true ∨ n = 1 then some (.idxA len n g x i) else none
    | some .string => some (.idxS x i)
    | _ => none
  | .slice t x lo hi mx => (cOpd N x).bind fun x => (cOpdO N lo).bind fun lo => (cOpdO N hi).bind fun hi => (cOpdO N mx).bind fun mx =>
    match P.underlying t with
    | some (.slice e) => (szT P e).map fun n => .slice n x lo hi mx
    | some .string => if mx.isSome then none else some (.sliceS x lo hi)
    | _ => none
  | .extract x n => (cOpd N x).map fun x => .ext x n
  | .makeFunc (.func f) first caps => (cOpds N first.toList).bind fun a => (cOpds N caps.toList).map fun b => .mkfn f a b
  | .makeSlice t l c =>
    match P.underlying t with
    | some (.slice e) => (szT P e).bind fun n => (bytesT P e).bind fun b => (zeroT P e).bind fun z => (cOpd N l).bind fun l => (cOpd N c).bind fun c =>
        if 0 < n ∧ z.length = n then some (.mksl n b z l c) else none
    | _ => none
  | .call { callee := .builtin .len, args, argTypes } =>
    (argTypes[0]?).bind fun t => (args[0]?).bind fun x => (cOpd N x).bind fun x =>
    match P.underlying t with
    | some .string => some (.lenS x)
    | some (.slice _) => some (.len x)
    | some (.array n _) => some (.lenA n)
    | some (.pointer a) => match P.underlying a with
      | some (.array n _) => some (.lenA n)
      | _ => none
    | _ => none
  | .call { callee := .builtin .min, args, .. } => (cOpds N args.toList).map .mn
  | .call { callee := .builtin .max, args, .. } => (cOpds N args.toList).map .mx
  | .call { callee := .builtin .append, args, argTypes } =>
    match args.toList, argTypes.toList with
    | [s, x], [t, t'] =>
      match P.underlying t, P.underlying t' with
      | some (.slice e), some (.slice _) | some (.slice e), some .string => (szT P e).bind fun n => (bytesT P e).bind fun b => (zeroT P e).bind fun z => (cOpd N s).bind fun s => (cOpd N x).bind fun x =>
          if 0 < n ∧ z.length = n ∧ 0 < b then some (.append n b s x) else none
      | _, _ => none
    | _, _ => none
  | .call { callee := .value f, args, .. } => (cOpd N f).bind fun f => (cOpds N args.toList).map fun a => .call f a
  | .makeMap _ none => some .mkmap
  | .lookup t m k ok =>
    match P.underlying t with
    | some (.map kt e) => match P.underlying kt with
      | some (.int _) => (zeroT P e).bind fun z => (aggT P e).bind fun g => (cOpd N m).bind fun m => (cOpd N k).bind fun k =>
          match g, z with
          | false, [z] => some (.lookup z m k ok)
          | _, _ => none
      | _ => none
    | _ => none
  | .mapUpdate t m k v =>
    match P.underlying t with
    | some (.map kt _) => match P.underlying kt with
      | some (.int _) => (cOpd N m).bind fun m => (cOpd N k).bind fun k => (cOpd N v).map fun v => .mapup m k v
      | _ => none
    | _ => none
  | _ => none

def dstOk (N : Nat) : Option Nat → Bool
  | none => true
  | some d => decide (d < N)

def cIns (P : Program) (N : Nat) (ops : Array Oper) (o : Oper) : Option Ins :=
  if dstOk N o.dst = true then
    match o.guard with
    | none => (cOp1 P N o).map fun i => ⟨o.dst, none, i⟩
    | some (j, b) => ((ops[j]?).bind (·.dst)).bind fun t => if t < N then (cOp1 P N o).map fun i => ⟨o.dst, some (t, b), i⟩ else none
  else none

def cInsL (P : Program) (N : Nat) (ops : Array Oper) : List Oper → Option (List Ins)
  | [] => some []
  | o :: os => (cIns P N ops o).bind fun i => (cInsL P N ops os).map fun is => i :: is

/-- An edge that binds however the order is drawn. -/
def firm (e : Edge) : Bool :=
  match e.ground with
  | .textOnly _ | .gcOnly _ => false
  | _ => true

def aftOf (ops : Array Oper) : List (List Nat) := ops.toList.map fun o => (o.after.toList.filter firm).map (·.on)

/-- All edges but the gc's own point backwards, and the gc's own order is whole. -/
def drawOk (ops : Array Oper) : Bool :=
  (ops.zipIdx.all fun (o, i) => o.after.all fun e => e.on < i || (match e.ground with | .gcOnly _ => true | _ => false)) &&
  (!Region.departs ops || (Region.linearise .gc ops 0).length == ops.size)

def cCode (P : Program) (N : Nat) : Code → Option IR
  | .skip | .label _ => some .skip
  | .region _ ops d => (cInsL P N ops ops.toList).bind fun is => if d then if drawOk ops then some (.dreg is (aftOf ops)) else none else some (.reg is)
  | .seq a b => (cCode P N a).bind fun a => (cCode P N b).map fun b => .seq a b
  | .cond c x y => (cOpd N c).bind fun c => (cCode P N x).bind fun x => (cCode P N y).map fun y => .cond c x y
  | .block id b => (cCode P N b).map (.blk id)
  | .loop b => (cCode P N b).map .loop
  | .rangeFunc f ps a b => (cOpd N f).bind fun f => (cCode P N a).bind fun a => (cCode P N b).bind fun b => if ps.all (· < N) then some (.rngf f ps.toList a b) else none
  | .exit id => some (.exit id)
  | .ret => some .ret
  | _ => none

inductive ResA where
  | t (i : Nat)
  | cell (a n : Nat) (ag : Bool)

structure FnA where
  N : Nat
  body : IR
  res : List ResA

def cRes (P : Program) (N : Nat) : List ResultVar → Option (List ResA)
  | [] => some []
  | .tmp t :: rs => if t < N then (cRes P N rs).map fun r => .t t :: r else none
  | .cell a t :: rs => if a < N then (szT P t).bind fun n => (aggT P t).bind fun g => if g = true ∨ n = 1 then (cRes P N rs).map fun r => .cell a n g :: r else none else none

def cFn (P : Program) (f : FuncId) : Option FnA :=
  (P.funcs[f]?).bind fun fn => fn.body.bind fun c => (cCode P fn.ntmps c).bind fun c => (cRes P fn.ntmps fn.results.toList).map fun r => ⟨fn.ntmps, c, r⟩

/-! ### What an operation gives -/
def fit (n : Nat) (v : AV) : Option (List AV) :=
  match v with
  | .agg cs => if cs.length = n then some cs else none
  | .undef | .tup _ => none
  | v => if n = 1 then some [v] else none

def unCells (ag : Bool) (cs : List AV) : Option AV :=
  if ag then some (.agg cs) else match cs with
    | [v] => some v
    | _ => none

def cellEq : LK → AV → AV → Option Bool
  | .i, .int k a, .int k' b => if k = k' then some (decide (a = b)) else none
  | .b, .bool a, .bool b => some (decide (a = b))
  | .s, .str a, .str b => some (decide (a = b))
  | _, _, _ => none

def cellsEq : List LK → List AV → List AV → Option Bool
  | [], [], [] => some true
  | k :: ks, x :: xs, y :: ys => (cellEq k x y).bind fun b => (cellsEq ks xs ys).map fun c => b && c
  | _, _, _ => none

def eqA (ks : List LK) (ag : Bool) (x y : AV) : Option Bool :=
  if ag then match x, y with
    | .agg xs, .agg ys => cellsEq ks xs ys
    | _, _ => none
  else match ks with
    | [k] => cellEq k x y
    | _ => none

def shAmt (k : IntKind) (b : Int) : Nat := min b.toNat k.bits

def intBin (op : BinOp) (k : IntKind) (a b : Int) : Option AV :=
  match op with
  | .add => some (.int k (k.wrap (a + b)))
  | .sub => some (.int k (k.wrap (a - b)))
  | .mul => some (.int k (k.wrap (a * b)))
  | .quo => if b = 0 then none else some (.int k (k.wrap (a.tdiv b)))
  | .rem => if b = 0 then none else some (.int k (a.tmod b))
  | .and => some (.int k (k.wrap ((BitVec.ofInt k.bits a &&& BitVec.ofInt k.bits b).toNat : Int)))
  | .or => some (.int k (k.wrap ((BitVec.ofInt k.bits a ||| BitVec.ofInt k.bits b).toNat : Int)))
  | .xor => some (.int k (k.wrap ((BitVec.ofInt k.bits a ^^^ BitVec.ofInt k.bits b).toNat : Int)))
  | .andNot => some (.int k (k.wrap ((BitVec.ofInt k.bits a &&& ~~~BitVec.ofInt k.bits b).toNat : Int)))
  | .eql => some (.bool (decide (a = b)))
  | .neq => some (.bool (!decide (a = b)))
  | .lss => some (.bool (decide (a < b)))
  | .leq => some (.bool (decide (a ≤ b)))
  | .gtr => some (.bool (decide (b < a)))
  | .geq => some (.bool (decide (b ≤ a)))
  | _ => none

def binA (op : BinOp) (x y : AV) : Option AV :=
  match op, x, y with
  | .shl, .int k a, .int _ b => if b < 0 then none else some (.int k (k.wrap (a * 2 ^ shAmt k b)))
  | .shr, .int k a, .int _ b => if b < 0 then none else some (.int k (a.fdiv (2 ^ shAmt k b)))
  | op, .int k a, .int k' b => if k = k' then intBin op k a b else none
  | .eql, .str a, .str b => some (.bool (decide (a = b)))
  | .neq, .str a, .str b => some (.bool (!decide (a = b)))
  | .add, .str a, .str b => if a.size + b.size ≤ 140737488355328 then some (.str (a ++ b)) else none
  | _, _, _ => none

def unA (op : UnOp) (x : AV) : Option AV :=
  match op, x with
  | .neg, .int k n => some (.int k (k.wrap (0 - n)))
  | .not, .bool b => some (.bool !b)
  | _, _ => none

def idxOf (v : AV) (n : Nat) : Option Nat :=
  match v with
  | .int _ i => if 0 ≤ i ∧ i < n then some i.toNat else none
  | _ => none

def bndOf (v : Option AV) (n d : Nat) : Option Nat :=
  match v with
  | none => some d
  | some (.int _ i) => if 0 ≤ i ∧ i ≤ n then some i.toNat else none
  | _ => none

def tokCut (t : Tok) (lo hi len : Nat) (mx : Option Nat) : Tok :=
  match mx with
  | some m => if m = hi then .full else .no
  | none => if hi = len then match t with
      | .full => .full
      | .own id => if lo = 0 then .own id else .no
      | .no => .no
    else .no

def byteOfA : List AV → Option Int
  | [.int .u8 n] => some n
  | _ => none
def bytesOfA : List (List AV) → Option (List Int)
  | [] => some []
  | e :: es => (byteOfA e).bind fun b => (bytesOfA es).map fun bs => b :: bs

def minA : AV → AV → Option AV
  | .int k x, .int _ y => some (.int k (if y < x then y else x))
  | _, _ => none
def maxA : AV → AV → Option AV
  | .int k x, .int _ y => some (.int k (if x < y then y else x))
  | _, _ => none
def foldA (f : AV → AV → Option AV) : AV → List AV → Option AV
  | x, [] => some x
  | x, y :: ys => (f x y).bind fun z => foldA f z ys

def fillA (z : List AV) : List (Nat × Nat × AV) → Option (List AV)
  | [] => some z
  | (off, n, v) :: ps => (fit n v).bind fun cs => if off + n ≤ z.length then fillA (z.take off ++ cs ++ z.drop (off + n)) ps else none

def rowA (n : Nat) : List AV → Option (List (List AV))
  | [] => some []
  | v :: vs => (fit n v).bind fun cs => (rowA n vs).map fun es => cs :: es

/-- What an operation gives that leaves the machine's state as it is. -/
def pv (op : IOp) (e : Opd → AV) (h : H) : Option AV :=
  match op with
  | .mov x => some (e x)
  | .pick c a b => match e c with
    | .bool t => some (if t then e a else e b)
    | _ => none
  | .build z ps => (fillA z (ps.map fun p => (p.1, p.2.1, e p.2.2))).map .agg
  | .bsl n _ _ ps => (rowA n (ps.map fun p => e p.2)).map (.sl .full)
  | .load n ag x => match e x with
    | .ptr b o => (h.bx b).bind fun cs => if b < h.bn ∧ o + n ≤ cs.length then unCells ag ((cs.drop o).take n) else none
    | .rop cs => if n ≤ cs.length then unCells ag (cs.take n) else none
    | _ => none
  | .bin op x y => binA op (e x) (e y)
  | .eq n ag neg x y => (eqA n ag (e x) (e y)).map fun b => .bool (if neg then !b else b)
  | .un op x => unA op (e x)
  | .conv k x => match e x with
    | .int _ n => some (.int k (k.wrap n))
    | _ => none
  | .b2s x => match e x with
    | .sl _ es => (bytesOfA es).map fun bs => .str (strOfNums bs)
    | _ => none
  | .faddr off x => match e x with
    | .ptr b o => some (.ptr b (o + off))
    | .rop cs => some (.rop (cs.drop off))
    | _ => none
  | .fld off n ag x => match e x with
    | .agg cs => if off + n ≤ cs.length then unCells ag ((cs.drop off).take n) else none
    | _ => none
  | .iaddr n x i => match e x with
    | .sl _ es => (idxOf (e i) es.length).bind fun j => (es[j]?).bind fun el => if el.length = n then some (.rop el) else none
    | .msl b z off len => (idxOf (e i) len).bind fun j => if z = n then some (.ptr b (off + j * n)) else none
    | _ => none
  | .iaddrA len n x i => (idxOf (e i) len).bind fun j => match e x with
    | .ptr b o => some (.ptr b (o + j * n))
    | .rop cs => some (.rop (cs.drop (j * n)))
    | _ => none
  | .idxS x i => match e x with
    | .str s => (idxOf (e i) s.size).bind fun j => (s.data[j]?).map fun c => .int .u8 c.toNat
    | _ => none
  | .idxA len n ag x i => match e x with
    | .agg cs => (idxOf (e i) len).bind fun j => if j * n + n ≤ cs.length then unCells ag ((cs.drop (j * n)).take n) else none
    | _ => none
  | .slice n x lo hi mx => match e x with
    | .sl t es => match mx with
      | none => (bndOf (hi.map e) es.length es.length).bind fun hi => (bndOf (lo.map e) hi 0).bind fun lo => if lo = 0 ∨ ∀ el ∈ es, el.length = n then some (.sl (tokCut t lo hi es.length none) ((es.take hi).drop lo)) else none
      | some mx => match hi with
        | some hi => (bndOf (some (e mx)) es.length 0).bind fun m => (bndOf (some (e hi)) m 0).bind fun h' => (bndOf (lo.map e) h' 0).bind fun lo => if lo = 0 ∨ ∀ el ∈ es, el.length = n then some (.sl (tokCut t lo h' es.length (some m)) ((es.take h').drop lo)) else none
        | none => none
    | .msl b z off len => match mx with
      | none => (bndOf (hi.map e) len len).bind fun hi => (bndOf (lo.map e) hi 0).bind fun lo => if z = n then some (if lo = hi ∧ lo ≠ 0 then .sl .no [] else .msl b z (off + lo * n) (hi - lo)) else none
      | some mx => match hi with
        | some hi => (bndOf (some (e mx)) len 0).bind fun m => (bndOf (some (e hi)) m 0).bind fun h' => (bndOf (lo.map e) h' 0).bind fun lo => if lo = h' ∧ h' = m then some (.sl .full []) else none
        | none => none
    | _ => none
  | .sliceS x lo hi => match e x with
    | .str s => (bndOf (hi.map e) s.size s.size).bind fun hi => (bndOf (lo.map e) hi 0).map fun lo => .str (s.extract lo hi)
    | _ => none
  | .ext x n => match e x with
    | .tup vs => vs[n]?
    | _ => none
  | .mkfn f first caps => some (.fn f (first.map e) (caps.map e))
  | .nilck x => match e x with
    | .ptr b o => some (.ptr b o)
    | .rop cs => some (.rop cs)
    | .fn f a b => some (.fn f a b)
    | .yld l => some (.yld l)
    | _ => none
  | .isnil neg x => match e x with
    | .sl _ [] => some .ubool
    | .sl _ (_ :: _) => some (.bool neg)
    | _ => none
  | .len x => match e x with
    | .sl _ es => some (.int .i64 es.length)
    | .msl _ _ _ n => some (.int .i64 n)
    | _ => none
  | .lenS x => match e x with
    | .str s => some (.int .i64 s.size)
    | _ => none
  | .lenA n => some (.int .i64 n)
  | .mn xs => match xs.map e with
    | v :: vs => match v with
      | .int _ _ => foldA minA v vs
      | _ => none
    | [] => none
  | .mx xs => match xs.map e with
    | v :: vs => match v with
      | .int _ _ => foldA maxA v vs
      | _ => none
    | [] => none
  | _ => none

end Go.Am
