/- The abstract machine of this work: values, its soundness against the machine of the model, forward runs; part of the proof of the claim, it holds of every program. -/
import Derived.AtR
import Derived.Below
import Derived.KernelRfl
import Derived.Laws.Append
import Derived.Laws.BytesArg
import Derived.Laws.Cells
import Derived.Laws.CopyRow
import Derived.ChangeKeysEq
import Derived.Laws.StructEq
import Derived.MapKept
/- The abstract machine: values by value, boxes, tokens of append; its reading in a world; how a world may go on. -/
namespace Go.Am
open Go Go.RowKit

inductive Tok where
  | no
  | full
  | own (id : Nat)
  deriving DecidableEq

inductive AV where
  | undef
  | skp
  | bool (b : Bool)
  | ubool
  | any1
  | int (k : IntKind) (n : Int)
  | str (s : ByteArray)
  | sl (t : Tok) (es : List (List AV))
  | msl (b z off len : Nat)
  | nilptr
  | ptr (b o : Nat)
  | rop (cs : List AV)
  | nilfn
  | fn (f : FuncId) (first caps : List AV)
  | yld (l : Nat)
  | agg (cs : List AV)
  | tup (vs : List AV)
  | nilmap
  | map (m : Nat)
  | niface
  | iface (t : TypeId) (v : AV)

def AV.cells : AV → List AV
  | .agg cs => cs
  | v => [v]

/-- What one cell may hold. -/
def ok1 : AV → Bool
  | .agg _ | .tup _ | .undef | .skp => false
  | _ => true

inductive Opd where
  | t (i : Nat)
  | c (v : AV)

abbrev Slots := Nat → AV
def su (s : Slots) (i : Nat) (v : AV) : Slots := fun j => if j = i then v else s j
theorem su_get (s : Slots) (i : Nat) (v : AV) (j : Nat) : su s i v j = if j = i then v else s j := rfl
def ev (s : Slots) : Opd → AV
  | .t i => s i
  | .c v => v

inductive LK where
  | i
  | b
  | s
  deriving DecidableEq

inductive IOp where
  | mov (x : Opd)
  | pick (c a b : Opd)
  | alloc (z : List AV)
  | box (x : Opd)
  | build (z : List AV) (ps : List (Nat × Nat × Opd))
  | bsl (sz len : Nat) (z : List AV) (ps : List (Nat × Opd))
  | load (n : Nat) (ag : Bool) (x : Opd)
  | store (n : Nat) (a x : Opd)
  | bin (op : BinOp) (x y : Opd)
  | eq (ks : List LK) (ag neg : Bool) (x y : Opd)
  | un (op : UnOp) (x : Opd)
  | conv (k : IntKind) (x : Opd)
  | b2s (x : Opd)
  | s2b (x : Opd)
  | faddr (off : Nat) (x : Opd)
  | fld (off n : Nat) (ag : Bool) (x : Opd)
  | iaddr (sz : Nat) (x i : Opd)
  | iaddrA (len sz : Nat) (x i : Opd)
  | idxS (x i : Opd)
  | idxA (len sz : Nat) (ag : Bool) (x i : Opd)
  | slice (sz : Nat) (x : Opd) (lo hi mx : Option Opd)
  | sliceS (x : Opd) (lo hi : Option Opd)
  | ext (x : Opd) (n : Nat)
  | mkfn (f : FuncId) (first caps : List Opd)
  | mksl (sz bytes : Nat) (z : List AV) (len cap : Opd)
  | nilck (x : Opd)
  | len (x : Opd)
  | cap (x : Opd)
  | lenS (x : Opd)
  | lenA (n : Nat)
  | mn (xs : List Opd)
  | mx (xs : List Opd)
  | append (sz bytes : Nat) (s x : Opd)
  | call (f : Opd) (args : List Opd)
  | mkmap
  | lookup (z : AV) (m k : Opd) (ok : Bool)
  | mapup (m k v : Opd)
  | isnil (neg : Bool) (x : Opd)
  | clear (sz : Nat) (z : List AV) (x : Opd)
  | copy (sz : Nat) (d x : Opd)

structure Ins where
  dst : Option Nat
  g : Option (Nat × Bool)
  op : IOp

inductive IR where
  | skip
  | reg (is : List Ins)
  | dreg (is : List Ins) (aft : List (List Nat))
  | seq (a b : IR)
  | cond (c : Opd) (x y : IR)
  | blk (id : Nat) (b : IR)
  | loop (b : IR)
  | scp (b : IR)
  | rngf (f : Opd) (ps : List Nat) (assign body : IR)
  | exit (id : Nat)
  | ret

structure LoopA where
  s : Slots
  ps : List Nat
  assign : IR
  body : IR
  st : LoopState
  pend : Option IR

structure H where
  bn : Nat
  bx : Nat → Option (List AV)
  tn : Nat
  tk : Nat → Nat
  ln : Nat
  lp : Nat → Option LoopA
  mn : Nat
  mp : Nat → Option (List (AV × AV))

def H.nil : H := { bn := 0, bx := fun _ => none, tn := 0, tk := fun _ => 0, ln := 0, lp := fun _ => none, mn := 0, mp := fun _ => none }

structure TokG where
  B : Nat
  o : Nat
  z : Nat
  n : Nat
  c : Nat

structure G where
  bn : Nat
  bx : Nat → Nat
  bs : Nat → Nat
  tn : Nat
  tk : Nat → TokG
  ln : Nat
  lp : Nat → Nat
  mn : Nat
  mp : Nat → Nat
  ro : Nat → Nat

/-- Cell k from the address on lies in memory that never turns. -/
def ROat (w : World) (g : G) (A : Option Addr) (k : Nat) (V : Value) : Prop :=
  ∃ B o, A = some ⟨B, o, none⟩ ∧ o + k < g.ro B ∧ w.cell? ⟨B, o + k, none⟩ = some V

def TokAt (g : G) (t : Tok) (A : Option Addr) (z n cap : Nat) : Prop :=
  match t with
  | .no => True
  | .full => cap = n
  | .own id => id < g.tn ∧ n ≤ (g.tk id).n ∧ (n = (g.tk id).n → A = some ⟨(g.tk id).B, (g.tk id).o, none⟩ ∧ cap = (g.tk id).c ∧ z = (g.tk id).z)

inductive Rep (w : World) (g : G) : AV → Value → Prop
  | undef (V : Value) : Rep w g .undef V
  | skp : Rep w g .skp Go.undef
  | bool (b : Bool) : Rep w g (.bool b) (.bool b)
  | ubool (b : Bool) : Rep w g .ubool (.bool b)
  | any1 (V : Value) : V.oneCell' = true → Rep w g .any1 V
  | int (k : IntKind) (n : Int) : Rep w g (.int k n) (.int k n)
  | str (s : ByteArray) : Rep w g (.str s) (.string s)
  | sl (t : Tok) (es : List (List AV)) (A : Option Addr) (cap z : Nat) (Vs : Nat → Value) :
      (0 < z ∧ ∀ e ∈ es, e.length = z) → es.length ≤ cap → (∀ k, k < es.flatten.length → ROat w g A k (Vs k)) →
      (∀ k (hk : k < es.flatten.length), Rep w g es.flatten[k] (Vs k)) → (∀ k (hk : k < es.flatten.length), ok1 es.flatten[k] = true) → TokAt g t A z es.length cap →
      Rep w g (.sl t es) (.slice A es.length cap)
  | msl (b z off len cap : Nat) : b < g.bn → len ≤ cap → off + cap * z ≤ g.bs b → Rep w g (.msl b z off len) (.slice (some ⟨g.bx b, off, none⟩) len cap)
  | nilptr : Rep w g .nilptr (.pointer none)
  | ptr (b o : Nat) : b < g.bn → Rep w g (.ptr b o) (.pointer (some ⟨g.bx b, o, none⟩))
  | rop (cs : List AV) (a : Addr) (Vs : Nat → Value) : (∀ k, k < cs.length → ROat w g (some a) k (Vs k)) →
      (∀ k (hk : k < cs.length), Rep w g cs[k] (Vs k)) → (∀ k (hk : k < cs.length), ok1 cs[k] = true) → Rep w g (.rop cs) (.pointer (some a))
  | nilfn : Rep w g .nilfn .nilFunc
  | fn (f : FuncId) (first caps : List AV) (F C : Array Value) (hF : first.length = F.size) (hC : caps.length = C.size) :
      (∀ k (hk : k < first.length), Rep w g first[k] F[k]) → (∀ k (hk : k < caps.length), Rep w g caps[k] C[k]) →
      Rep w g (.fn f first caps) (.func (.func f) F C)
  | yld (l : Nat) : l < g.ln → Rep w g (.yld l) (.func (.yield (g.lp l)) #[] #[])
  | agg (cs : List AV) (C : Array Value) (hC : cs.length = C.size) : (∀ k (hk : k < cs.length), Rep w g cs[k] C[k]) → (∀ k (hk : k < cs.length), ok1 cs[k] = true) → Rep w g (.agg cs) (.agg C)
  | tup (cs : List AV) (C : Array Value) (hC : cs.length = C.size) : (∀ k (hk : k < cs.length), Rep w g cs[k] C[k]) → Rep w g (.tup cs) (.tuple C)
  | nilmap : Rep w g .nilmap (.map none)
  | map (m : Nat) : m < g.mn → Rep w g (.map m) (.map (some (g.mp m)))
  | niface : Rep w g .niface .nilIface
  | iface (t : TypeId) (v : AV) (V : Value) : Rep w g v V → Rep w g (.iface t v) (.iface t V)

/-- A list of values, one by one. -/
def RepA (w : World) (g : G) (cs : List AV) (C : Array Value) : Prop := ∃ hC : cs.length = C.size, ∀ k (hk : k < cs.length), Rep w g cs[k] C[k]
/-- The first cells of a block, one by one. -/
def RepP (w : World) (g : G) (cs : List AV) (C : Array Value) : Prop := cs.length ≤ C.size ∧ ∀ (k : Nat) (v : AV), cs[k]? = some v → ∃ V : Value, C[k]? = some V ∧ Rep w g v V ∧ ok1 v = true
/-- Cells, one by one. -/
def RepC (w : World) (g : G) (cs : List AV) (C : Array Value) : Prop := RepA w g cs C ∧ ∀ k (hk : k < cs.length), ok1 cs[k] = true

/-- What the ghost keeps and the world keeps. -/
structure GExt (w : World) (g : G) (w' : World) (g' : G) : Prop where
  size : w.heap.size ≤ w'.heap.size
  ro : ∀ B k, k < g.ro B → k < g'.ro B ∧ w'.cell? ⟨B, k, none⟩ = w.cell? ⟨B, k, none⟩
  bn : g.bn ≤ g'.bn
  bx : ∀ b, b < g.bn → g'.bx b = g.bx b ∧ g'.bs b = g.bs b
  tn : g.tn ≤ g'.tn
  tk : ∀ i, i < g.tn → (g.tk i).n ≤ (g'.tk i).n ∧ ((g.tk i).n = (g'.tk i).n → g'.tk i = g.tk i)
  ln : g.ln ≤ g'.ln
  lp : ∀ l, l < g.ln → g'.lp l = g.lp l
  mn : g.mn ≤ g'.mn
  mp : ∀ m, m < g.mn → g'.mp m = g.mp m

theorem GExt.refl (w : World) (g : G) : GExt w g w g :=
  ⟨Nat.le_refl _, fun _ _ h => ⟨h, rfl⟩, Nat.le_refl _, fun _ _ => ⟨rfl, rfl⟩, Nat.le_refl _, fun _ _ => ⟨Nat.le_refl _, fun _ => rfl⟩, Nat.le_refl _, fun _ _ => rfl, Nat.le_refl _, fun _ _ => rfl⟩

theorem GExt.trans {w w1 w2 : World} {g g1 g2 : G} (h : GExt w g w1 g1) (k : GExt w1 g1 w2 g2) : GExt w g w2 g2 := by
  refine ⟨Nat.le_trans h.size k.size, fun B i hi => ?_, Nat.le_trans h.bn k.bn, fun b hb => ?_, Nat.le_trans h.tn k.tn, fun i hi => ?_, Nat.le_trans h.ln k.ln, fun l hl => ?_, Nat.le_trans h.mn k.mn, fun m hm => ?_⟩
  · have h1 := h.ro B i hi
    have h2 := k.ro B i h1.1
    exact ⟨h2.1, h2.2.trans h1.2⟩
  · exact ⟨(k.bx b (Nat.lt_of_lt_of_le hb h.bn)).1.trans (h.bx b hb).1, (k.bx b (Nat.lt_of_lt_of_le hb h.bn)).2.trans (h.bx b hb).2⟩
  · have h1 := h.tk i hi
    have h2 := k.tk i (Nat.lt_of_lt_of_le hi h.tn)
    refine ⟨Nat.le_trans h1.1 h2.1, fun e => ?_⟩
    have e1 : (g.tk i).n = (g1.tk i).n := by omega
    have e2 : (g1.tk i).n = (g2.tk i).n := by omega
    rw [h2.2 e2, h1.2 e1]
  · exact (k.lp l (Nat.lt_of_lt_of_le hl h.ln)).trans (h.lp l hl)
  · exact (k.mp m (Nat.lt_of_lt_of_le hm h.mn)).trans (h.mp m hm)

theorem ROat.mono {w w' : World} {g g' : G} {A : Option Addr} {k : Nat} {V : Value} (h : ROat w g A k V) (e : GExt w g w' g') : ROat w' g' A k V := by
  obtain ⟨B, o, hA, hr, hc⟩ := h
  have := e.ro B _ hr
  exact ⟨B, o, hA, this.1, this.2.trans hc⟩

theorem TokAt.mono {w w' : World} {g g' : G} {t : Tok} {A : Option Addr} {z n cap : Nat} (h : TokAt g t A z n cap) (e : GExt w g w' g') : TokAt g' t A z n cap := by
  cases t with
  | no => trivial
  | full => exact h
  | own id =>
    obtain ⟨h1, h2, h3⟩ := h
    have hk := e.tk id h1
    refine ⟨Nat.lt_of_lt_of_le h1 e.tn, by omega, fun hn => ?_⟩
    have e1 : (g.tk id).n = (g'.tk id).n := by omega
    rw [hk.2 e1]
    exact h3 (by omega)

theorem Rep.mono {w w' : World} {g g' : G} {v : AV} {V : Value} (h : Rep w g v V) (e : GExt w g w' g') : Rep w' g' v V := by
  induction h with
  | undef V => exact .undef V
  | skp => exact .skp
  | bool b => exact .bool b
  | ubool b => exact .ubool b
  | any1 V hV => exact .any1 V hV
  | int k n => exact .int k n
  | str s => exact .str s
  | sl t es A cap z Vs h1 h2 h3 _ h4 h5 ih => exact .sl t es A cap z Vs h1 h2 (fun k hk => (h3 k hk).mono e) ih h4 (h5.mono e)
  | msl b z off len cap hb hl hz => rw [← (e.bx b hb).1]; exact .msl b z off len cap (Nat.lt_of_lt_of_le hb e.bn) hl (by rw [(e.bx b hb).2]; exact hz)
  | nilptr => exact .nilptr
  | ptr b o hb => rw [← (e.bx b hb).1]; exact .ptr b o (Nat.lt_of_lt_of_le hb e.bn)
  | rop cs a Vs h1 _ h2 ih => exact .rop cs a Vs (fun k hk => (h1 k hk).mono e) ih h2
  | nilfn => exact .nilfn
  | fn f first caps F C hF hC _ _ ih1 ih2 => exact .fn f first caps F C hF hC ih1 ih2
  | yld l hl => rw [← e.lp l hl]; exact .yld l (Nat.lt_of_lt_of_le hl e.ln)
  | agg cs C hC _ h2 ih => exact .agg cs C hC ih h2
  | tup cs C hC _ ih => exact .tup cs C hC ih
  | nilmap => exact .nilmap
  | map m hm => rw [← e.mp m hm]; exact .map m (Nat.lt_of_lt_of_le hm e.mn)
  | niface => exact .niface
  | iface t v V _ ih => exact .iface t v V ih

theorem RepA.mono {w w' : World} {g g' : G} {cs : List AV} {C : Array Value} (h : RepA w g cs C) (e : GExt w g w' g') : RepA w' g' cs C :=
  ⟨h.1, fun k hk => (h.2 k hk).mono e⟩

theorem RepP.mono {w w' : World} {g g' : G} {cs : List AV} {C : Array Value} (h : RepP w g cs C) (e : GExt w g w' g') : RepP w' g' cs C :=
  ⟨h.1, fun k v hk => let ⟨V, h1, h2, h3⟩ := h.2 k v hk; ⟨V, h1, h2.mono e, h3⟩⟩

theorem RepC.mono {w w' : World} {g g' : G} {cs : List AV} {C : Array Value} (h : RepC w g cs C) (e : GExt w g w' g') : RepC w' g' cs C := ⟨h.1.mono e, h.2⟩

/-- The world goes on: below 'base' only blocks of W may turn. -/
structure Ext (base : Nat) (W : Nat → Prop) (w : World) (g : G) (w' : World) (g' : G) : Prop extends GExt w g w' g' where
  os : w'.os = w.os
  tape : w'.tape = w.tape
  output : w'.output = w.output
  blk : ∀ B, B < base → ¬ W B → w'.heap[B]? = w.heap[B]?
  roO : ∀ B, B < base → ¬ W B → g'.ro B = g.ro B
  obj : ∀ (B : Nat) (ds : Option (List Deferred)), w.heap[B]? = some (Obj.deferred ds) → w'.heap[B]? = some (Obj.deferred ds)

theorem Ext.refl (base : Nat) (W : Nat → Prop) (w : World) (g : G) : Ext base W w g w g :=
  ⟨GExt.refl w g, rfl, rfl, rfl, fun _ _ _ => rfl, fun _ _ _ => rfl, fun _ _ h => h⟩

theorem Ext.trans {base : Nat} {W : Nat → Prop} {w w1 w2 : World} {g g1 g2 : G} (h : Ext base W w g w1 g1) (k : Ext base W w1 g1 w2 g2) : Ext base W w g w2 g2 :=
  ⟨h.toGExt.trans k.toGExt, k.os.trans h.os, k.tape.trans h.tape, k.output.trans h.output, fun B hB hW => (k.blk B hB hW).trans (h.blk B hB hW), fun B hB hW => (k.roO B hB hW).trans (h.roO B hB hW),
    fun B ds ho => k.obj B ds (h.obj B ds ho)⟩

end Go.Am

/- The abstract machine: from the program's code to its own; what each operation gives. -/
namespace Go.Am
open Go Go.RowKit

/-! ### Constants and types -/
def absL : Value → Option AV
  | .bool b => some (.bool b)
  | .int k n => some (.int k n)
  | .string s => some (.str s)
  | .slice none 0 0 => some (.sl .full [])
  | .pointer none => some .nilptr
  | .nilFunc => some .nilfn
  | .map none => some .nilmap
  | .nilIface => some .niface
  | _ => none

def absAll : List Value → Option (List AV)
  | [] => some []
  | v :: vs => (absL v).bind fun x => (absAll vs).map fun xs => x :: xs

def absC (v : Value) : Option AV :=
  match v with
  | .agg cs => (absAll cs.toList).map .agg
  | v => absL v

def cOpd (N : Nat) : Operand → Option Opd
  | .tmp t => if t < N then some (.t t) else none
  | .const v => (absC v).map .c
  | .func f => some (.c (.fn f [] []))
  | .global _ => none

def cOpds (N : Nat) : List Operand → Option (List Opd)
  | [] => some []
  | x :: xs => (cOpd N x).bind fun y => (cOpds N xs).map fun ys => y :: ys

def cOpdO (N : Nat) : Option Operand → Option (Option Opd)
  | none => some none
  | some x => (cOpd N x).map some

def isAggD : TypeDesc → Bool
  | .struct _ | .array _ _ => true
  | _ => false

def szT (P : Program) (t : TypeId) : Option Nat := (P.info? t).map (·.size)
def bytesT (P : Program) (t : TypeId) : Option Nat := (P.info? t).map (·.bytes)
def zeroT (P : Program) (t : TypeId) : Option (List AV) := ((P.info? t).bind (·.zero)).bind fun z => (absC z).map AV.cells
def zero1 (P : Program) (t : TypeId) : Option AV := ((P.info? t).bind (·.zero)).bind absL
def aggT (P : Program) (t : TypeId) : Option Bool := (P.underlying t).map isAggD

/-- A struct's or an array's parts: where each lies, how many cells it has. -/
def cParts (N : Nat) (place : Nat → Option (Nat × Nat)) : List (Nat × Operand) → Option (List (Nat × Nat × Opd))
  | [] => some []
  | (i, x) :: ps => (place i).bind fun q => (cOpd N x).bind fun y => (cParts N place ps).map fun ys => (q.1, q.2, y) :: ys

def placesOf (P : Program) (fs : List Field) : Option (List (Nat × Nat)) :=
  match fs with
  | [] => some []
  | f :: fs => (szT P f.type).bind fun n => (placesOf P fs).map fun r => (f.offset, n) :: r

/-- A slice literal's parts, each in its turn. -/
def cRow (N : Nat) : Nat → List (Nat × Operand) → Option (List Opd)
  | _, [] => some []
  | k, (i, x) :: ps => if i = k then (cOpd N x).bind fun y => (cRow N (k + 1) ps).map fun ys => y :: ys else none

/-- Whose cells may be compared one by one: whole numbers, bools, strings. -/
def plainD : TypeDesc → Option LK
  | .bool => some .b
  | .int _ => some .i
  | .string => some .s
  | _ => none

def flatF (P : Program) (rec : TypeId → Option (List LK)) : List Field → Nat → Option (List LK)
  | [], _ => some []
  | f :: fs, off => if f.name ≠ "_" ∧ f.offset = off then (rec f.type).bind fun c => if szT P f.type = some c.length then (flatF P rec fs (off + c.length)).map fun r => c ++ r else none else none

def rep (n : Nat) (c : List LK) : List LK :=
  match n with
  | 0 => []
  | n + 1 => c ++ rep n c

def flat (P : Program) : Nat → TypeId → Option (List LK)
  | 0, _ => none
  | d + 1, t =>
    match P.underlying t with
    | some (.struct fs) => if P.stoodInHeld t then none else flatF P (flat P d) fs.toList 0
    | some (.array n e) => (flat P d e).bind fun c => if szT P e = some c.length then some (rep n c) else none
    | some u => (plainD u).map fun k => [k]
    | none => none

def cOp1 (P : Program) (N : Nat) (o : Oper) : Option IOp :=
  match o.op with
  | .move x | .assign x => (cOpd N x).map .mov
  | .pick c a b => (cOpd N c).bind fun c => (cOpd N a).bind fun a => (cOpd N b).map fun b => .pick c a b
  | .alloc t => (zeroT P t).map .alloc
  | .box _ x => (cOpd N x).map .box
  | .build t ps =>
    (zeroT P t).bind fun z =>
    match P.underlying t with
    | some (.struct fs) => (placesOf P fs.toList).bind fun pl => (cParts N (pl[·]?) ps.toList).map fun qs => .build z qs
    | some (.array _ e) => (szT P e).bind fun n => (cParts N (fun i => some (i * n, n)) ps.toList).map fun qs => .build z qs
    | _ => none
  | .buildSlice t len ps =>
    match P.underlying t with
    | some (.slice e) => (szT P e).bind fun n => (zeroT P e).bind fun z =>
        (cRow N 0 ps.toList).bind fun xs => if xs.length = len ∧ 0 < n ∧ z.length = n ∧ len * n ≤ 16777216 then some (.bsl n len z ((List.range len).zip xs)) else none
    | _ => none
  | .load t a => (cOpd N a).bind fun a => (szT P t).bind fun n => (aggT P t).bind fun g => if g = true ∨ n = 1 then some (.load n g a) else none
  | .store t a x => (cOpd N a).bind fun a => (cOpd N x).bind fun x => (szT P t).map fun n => .store n a x
  | .nilCheck x => (cOpd N x).map .nilck
  | .binOp op t x y _ => (cOpd N x).bind fun x => (cOpd N y).bind fun y =>
    match P.underlying t with
    | some (.int _) | some .string => some (.bin op x y)
    | some .bool | some (.struct _) | some (.array _ _) => (flat P 60 t).bind fun n => (aggT P t).bind fun ag => if P.eqGuardType P.depth t then none else match op with
      | .eql => some (.eq n ag false x y)
      | .neq => some (.eq n ag true x y)
      | _ => none
    | some (.slice _) => match y, op with
      | .c (.sl .full []), .eql => some (.isnil false x)
      | .c (.sl .full []), .neq => some (.isnil true x)
      | _, _ => none
    | _ => none
  | .unOp op _ x => (cOpd N x).map (.un op)
  | .convert s d x => (cOpd N x).bind fun x =>
    match P.underlying s, P.underlying d with
    | some (.int _), some (.int k) => some (.conv k x)
    | some (.slice e), some .string => match P.underlying e with
      | some (.int .u8) => some (.b2s x)
      | _ => none
    | _, _ => none
  | .fieldAddr s x f =>
    match P.underlying s with
    | some (.struct fs) => (fs[f]?).bind fun fd => (szT P fd.type).bind fun n => if n = 0 then none else (cOpd N x).map (.faddr fd.offset)
    | _ => none
  | .field s x f =>
    match P.underlying s with
    | some (.struct fs) => (fs[f]?).bind fun fd => (szT P fd.type).bind fun n => (aggT P fd.type).bind fun g => if g = true ∨ n = 1 then (cOpd N x).map (.fld fd.offset n g) else none
    | _ => none
  | .indexAddr t x i => (cOpd N x).bind fun x => (cOpd N i).bind fun i =>
    match P.underlying t with
    | some (.array len e) => (szT P e).map fun n => .iaddrA len n x i
    | some (.slice e) => (szT P e).map fun n => .iaddr n x i
    | _ => none
  | .index t x i => (cOpd N x).bind fun x => (cOpd N i).bind fun i =>
    match P.underlying t with
    | some (.array len e) => (szT P e).bind fun n => (aggT P e).bind fun g => if g = true ∨ n = 1 then some (.idxA len n g x i) else none
    | some .string => some (.idxS x i)
    | _ => none
  | .slice t x lo hi mx => (cOpd N x).bind fun x => (cOpdO N lo).bind fun lo => (cOpdO N hi).bind fun hi => (cOpdO N mx).bind fun mx =>
    match P.underlying t with
    | some (.slice e) => (szT P e).map fun n => .slice n x lo hi mx
    | some .string => if mx.isSome then none else some (.sliceS x lo hi)
    | _ => none
  | .extract x n => (cOpd N x).map fun x => .ext x n
  | .makeFunc (.func f) first caps => (cOpds N first.toList).bind fun a => (cOpds N caps.toList).map fun b => .mkfn f a b
  | .makeSlice t l c =>
    match P.underlying t with
    | some (.slice e) => (szT P e).bind fun n => (bytesT P e).bind fun b => (zeroT P e).bind fun z => (cOpd N l).bind fun l => (cOpd N c).bind fun c =>
        if 0 < n ∧ z.length = n then some (.mksl n b z l c) else none
    | _ => none
  | .call { callee := .builtin .len, args, argTypes } =>
    (argTypes[0]?).bind fun t => (args[0]?).bind fun x => (cOpd N x).bind fun x =>
    match P.underlying t with
    | some .string => some (.lenS x)
    | some (.slice _) => some (.len x)
    | some (.array n _) => some (.lenA n)
    | some (.pointer a) => match P.underlying a with
      | some (.array n _) => some (.lenA n)
      | _ => none
    | _ => none
  | .call { callee := .builtin .cap, args, argTypes } =>
    (argTypes[0]?).bind fun t => (args[0]?).bind fun x => (cOpd N x).bind fun x =>
    match P.underlying t with
    | some (.slice _) => some (.cap x)
    | _ => none
  | .call { callee := .builtin .clear, args, argTypes } =>
    (argTypes[0]?).bind fun t => (args[0]?).bind fun x => (cOpd N x).bind fun x =>
    match P.underlying t with
    | some (.slice e) => (szT P e).bind fun n => (zeroT P e).bind fun z => if 0 < n ∧ z.length = n then some (.clear n z x) else none
    | _ => none
  | .call { callee := .builtin .panic, .. } => some (.copy 0 (.c .undef) (.c .undef))
  | .call { callee := .builtin .min, args, .. } => (cOpds N args.toList).map .mn
  | .call { callee := .builtin .max, args, .. } => (cOpds N args.toList).map .mx
  | .call { callee := .builtin .append, args, argTypes } =>
    match args.toList, argTypes.toList with
    | [s, x], [t, t'] =>
      match P.underlying t, P.underlying t' with
      | some (.slice e), some (.slice _) | some (.slice e), some .string => (szT P e).bind fun n => (bytesT P e).bind fun b => (zeroT P e).bind fun z => (cOpd N s).bind fun s => (cOpd N x).bind fun x =>
          if 0 < n ∧ z.length = n ∧ 0 < b then some (.append n b s x) else none
      | _, _ => none
    | _, _ => none
  | .call { callee := .value f, args, .. } => (cOpd N f).bind fun f => (cOpds N args.toList).map fun a => .call f a
  | .panic _ => some (.copy 0 (.c .undef) (.c .undef))
  | .makeInterface _ _ => some (.copy 0 (.c .undef) (.c .undef))
  | .makeMap _ none => some .mkmap
  | .lookup t m k ok =>
    match P.underlying t with
    | some (.map kt e) => match P.underlying kt with
      | some (.int _) => (zero1 P e).bind fun z => (cOpd N m).bind fun m => (cOpd N k).map fun k => .lookup z m k ok
      | _ => none
    | _ => none
  | .mapUpdate t m k v =>
    match P.underlying t with
    | some (.map kt _) => match P.underlying kt with
      | some (.int _) => (cOpd N m).bind fun m => (cOpd N k).bind fun k => (cOpd N v).map fun v => .mapup m k v
      | _ => none
    | _ => none
  | _ => none

def dstOk (N : Nat) : Option Nat → Bool
  | none => true
  | some d => decide (d < N)

def cIns (P : Program) (N : Nat) (ops : Array Oper) (o : Oper) : Option Ins :=
  if dstOk N o.dst = true then
    match o.guard with
    | none => (cOp1 P N o).map fun i => ⟨o.dst, none, i⟩
    | some (j, b) => ((ops[j]?).bind (·.dst)).bind fun t => if t < N then (cOp1 P N o).map fun i => ⟨o.dst, some (t, b), i⟩ else none
  else none

def cInsL (P : Program) (N : Nat) (ops : Array Oper) : List Oper → Option (List Ins)
  | [] => some []
  | o :: os => (cIns P N ops o).bind fun i => (cInsL P N ops os).map fun is => i :: is

/-- An edge that binds however the order is drawn. -/
def firm (e : Edge) : Bool :=
  match e.ground with
  | .textOnly _ | .gcOnly _ => false
  | _ => true

def aftOf (ops : Array Oper) : List (List Nat) := ops.toList.map fun o => (o.after.toList.filter firm).map (·.on)

/-- All edges but the gc's own point backwards, and the gc's own order is whole. -/
def drawOk (ops : Array Oper) : Bool :=
  (ops.zipIdx.all fun (o, i) => o.after.all fun e => e.on < i || (match e.ground with | .gcOnly _ => true | _ => false)) &&
  (!Region.departs ops || (Region.linearise .gc ops 0).length == ops.size)

def cCode (P : Program) (N : Nat) : Code → Option IR
  | .skip | .label _ => some .skip
  | .region _ ops d => (cInsL P N ops ops.toList).bind fun is => if d then if drawOk ops then some (.dreg is (aftOf ops)) else none else some (.reg is)
  | .seq a b => (cCode P N a).bind fun a => (cCode P N b).map fun b => .seq a b
  | .cond c x y => (cOpd N c).bind fun c => (cCode P N x).bind fun x => (cCode P N y).map fun y => .cond c x y
  | .block id b => (cCode P N b).map (.blk id)
  | .loop b => (cCode P N b).map .loop
  | .scope b => (cCode P N b).map .scp
  | .rangeFunc f ps a b => (cOpd N f).bind fun f => (cCode P N a).bind fun a => (cCode P N b).bind fun b => if ps.all (· < N) then some (.rngf f ps.toList a b) else none
  | .exit id => some (.exit id)
  | .ret => some .ret
  | _ => none

inductive ResA where
  | t (i : Nat)
  | cell (a n : Nat) (ag : Bool)

structure FnA where
  N : Nat
  body : IR
  res : List ResA

def cRes (P : Program) (N : Nat) : List ResultVar → Option (List ResA)
  | [] => some []
  | .tmp t :: rs => if t < N then (cRes P N rs).map fun r => .t t :: r else none
  | .cell a t :: rs => if a < N then (szT P t).bind fun n => (aggT P t).bind fun g => if g = true ∨ n = 1 then (cRes P N rs).map fun r => .cell a n g :: r else none else none

def cFn (P : Program) (f : FuncId) : Option FnA :=
  (P.funcs[f]?).bind fun fn => fn.body.bind fun c => (cCode P fn.ntmps c).bind fun c => (cRes P fn.ntmps fn.results.toList).map fun r => ⟨fn.ntmps, c, r⟩

/-! ### What an operation gives -/
def fit (n : Nat) (v : AV) : Option (List AV) :=
  match v with
  | .agg cs => if cs.length = n then some cs else none
  | .undef | .tup _ | .skp => none
  | v => if n = 1 then some [v] else none

def unCells (ag : Bool) (cs : List AV) : Option AV :=
  if ag then some (.agg cs) else match cs with
    | [v] => some v
    | _ => none

def cellEq : LK → AV → AV → Option Bool
  | .i, .int k a, .int k' b => if k = k' then some (decide (a = b)) else none
  | .b, .bool a, .bool b => some (decide (a = b))
  | .s, .str a, .str b => some (decide (a = b))
  | _, _, _ => none

def cellsEq : List LK → List AV → List AV → Option Bool
  | [], [], [] => some true
  | k :: ks, x :: xs, y :: ys => (cellEq k x y).bind fun b => (cellsEq ks xs ys).map fun c => b && c
  | _, _, _ => none

def eqA (ks : List LK) (ag : Bool) (x y : AV) : Option Bool :=
  if ag then match x, y with
    | .agg xs, .agg ys => cellsEq ks xs ys
    | _, _ => none
  else match ks with
    | [k] => cellEq k x y
    | _ => none

def shAmt (k : IntKind) (b : Int) : Nat := min b.toNat k.bits

def intBin (op : BinOp) (k : IntKind) (a b : Int) : Option AV :=
  match op with
  | .add => some (.int k (k.wrap (a + b)))
  | .sub => some (.int k (k.wrap (a - b)))
  | .mul => some (.int k (k.wrap (a * b)))
  | .quo => if b = 0 then none else some (.int k (k.wrap (a.tdiv b)))
  | .rem => if b = 0 then none else some (.int k (a.tmod b))
  | .and => some (.int k (k.wrap ((BitVec.ofInt k.bits a &&& BitVec.ofInt k.bits b).toNat : Int)))
  | .or => some (.int k (k.wrap ((BitVec.ofInt k.bits a ||| BitVec.ofInt k.bits b).toNat : Int)))
  | .xor => some (.int k (k.wrap ((BitVec.ofInt k.bits a ^^^ BitVec.ofInt k.bits b).toNat : Int)))
  | .andNot => some (.int k (k.wrap ((BitVec.ofInt k.bits a &&& ~~~BitVec.ofInt k.bits b).toNat : Int)))
  | .eql => some (.bool (decide (a = b)))
  | .neq => some (.bool (!decide (a = b)))
  | .lss => some (.bool (decide (a < b)))
  | .leq => some (.bool (decide (a ≤ b)))
  | .gtr => some (.bool (decide (b < a)))
  | .geq => some (.bool (decide (b ≤ a)))
  | _ => none

def binA (op : BinOp) (x y : AV) : Option AV :=
  match op, x, y with
  | .shl, .int k a, .int _ b => if b < 0 then none else some (.int k (k.wrap (a * 2 ^ shAmt k b)))
  | .shr, .int k a, .int _ b => if b < 0 then none else some (.int k (a.fdiv (2 ^ shAmt k b)))
  | op, .int k a, .int k' b => if k = k' then intBin op k a b else none
  | .eql, .str a, .str b => some (.bool (decide (a = b)))
  | .neq, .str a, .str b => some (.bool (!decide (a = b)))
  | .add, .str a, .str b => if a.size + b.size ≤ 140737488355328 then some (.str (a ++ b)) else none
  | _, _, _ => none

def unA (op : UnOp) (x : AV) : Option AV :=
  match op, x with
  | .neg, .int k n => some (.int k (k.wrap (0 - n)))
  | .not, .bool b => some (.bool !b)
  | _, _ => none

def idxOf (v : AV) (n : Nat) : Option Nat :=
  match v with
  | .int _ i => if 0 ≤ i ∧ i < n then some i.toNat else none
  | _ => none

def bndOf (v : Option AV) (n d : Nat) : Option Nat :=
  match v with
  | none => some d
  | some (.int _ i) => if 0 ≤ i ∧ i ≤ n then some i.toNat else none
  | _ => none

def tokCut (t : Tok) (lo hi len : Nat) (mx : Option Nat) : Tok :=
  match mx with
  | some m => if m = hi then .full else .no
  | none => if hi = len then match t with
      | .full => .full
      | .own id => if lo = 0 then .own id else .no
      | .no => .no
    else .no

def byteOfA : List AV → Option Int
  | [.int .u8 n] => some n
  | _ => none
def bytesOfA : List (List AV) → Option (List Int)
  | [] => some []
  | e :: es => (byteOfA e).bind fun b => (bytesOfA es).map fun bs => b :: bs

def minA : AV → AV → Option AV
  | .int k x, .int _ y => some (.int k (if y < x then y else x))
  | _, _ => none
def maxA : AV → AV → Option AV
  | .int k x, .int _ y => some (.int k (if x < y then y else x))
  | _, _ => none
def foldA (f : AV → AV → Option AV) : AV → List AV → Option AV
  | x, [] => some x
  | x, y :: ys => (f x y).bind fun z => foldA f z ys

def fillA (z : List AV) : List (Nat × Nat × AV) → Option (List AV)
  | [] => some z
  | (off, n, v) :: ps => (fit n v).bind fun cs => if off + n ≤ z.length then fillA (z.take off ++ cs ++ z.drop (off + n)) ps else none

def rowA (n : Nat) : List AV → Option (List (List AV))
  | [] => some []
  | v :: vs => (fit n v).bind fun cs => (rowA n vs).map fun es => cs :: es

/-- A whole-number key in a map's entries: its place and what it has; none: the keys are of another kind. -/
def mapFind (kk : IntKind) (n : Int) : List (AV × AV) → Nat → Option (Option (Nat × AV))
  | [], _ => some none
  | (.int k' n', v) :: es, i => if k' = kk then (if n = n' then some (some (i, v)) else mapFind kk n es (i + 1)) else none
  | _ :: _, _ => none

/-- What an operation gives that leaves the machine's state as it is. -/
def pv (op : IOp) (e : Opd → AV) (h : H) : Option AV :=
  match op with
  | .mov x => some (e x)
  | .pick c a b => match e c with
    | .bool t => some (if t then e a else e b)
    | _ => none
  | .build z ps => (fillA z (ps.map fun p => (p.1, p.2.1, e p.2.2))).map .agg
  | .bsl n _ _ ps => (rowA n (ps.map fun p => e p.2)).map (.sl .full)
  | .load n ag x => match e x with
    | .ptr b o => (h.bx b).bind fun cs => if b < h.bn ∧ o + n ≤ cs.length then unCells ag ((cs.drop o).take n) else none
    | .rop cs => if n ≤ cs.length then unCells ag (cs.take n) else none
    | _ => none
  | .bin op x y => binA op (e x) (e y)
  | .eq n ag neg x y => (eqA n ag (e x) (e y)).map fun b => .bool (if neg then !b else b)
  | .un op x => unA op (e x)
  | .conv k x => match e x with
    | .int _ n => some (.int k (k.wrap n))
    | _ => none
  | .b2s x => match e x with
    | .sl _ es => (bytesOfA es).map fun bs => .str (strOfNums bs)
    | _ => none
  | .faddr off x => match e x with
    | .ptr b o => some (.ptr b (o + off))
    | .rop cs => some (.rop (cs.drop off))
    | _ => none
  | .fld off n ag x => match e x with
    | .agg cs => if off + n ≤ cs.length then unCells ag ((cs.drop off).take n) else none
    | _ => none
  | .iaddr n x i => match e x with
    | .sl _ es => (idxOf (e i) es.length).bind fun j => (es[j]?).bind fun el => if el.length = n then some (.rop el) else none
    | .msl b z off len => (idxOf (e i) len).bind fun j => if z = n then some (.ptr b (off + j * n)) else none
    | _ => none
  | .iaddrA len n x i => (idxOf (e i) len).bind fun j => match e x with
    | .ptr b o => some (.ptr b (o + j * n))
    | .rop cs => some (.rop (cs.drop (j * n)))
    | _ => none
  | .idxS x i => match e x with
    | .str s => (idxOf (e i) s.size).bind fun j => (s.data[j]?).map fun c => .int .u8 c.toNat
    | _ => none
  | .idxA len n ag x i => match e x with
    | .agg cs => (idxOf (e i) len).bind fun j => if j * n + n ≤ cs.length then unCells ag ((cs.drop (j * n)).take n) else none
    | _ => none
  | .slice n x lo hi mx => match e x with
    | .sl t es => match mx with
      | none => (bndOf (hi.map e) es.length es.length).bind fun hi => (bndOf (lo.map e) hi 0).bind fun lo => if lo = 0 ∨ ∀ el ∈ es, el.length = n then some (.sl (tokCut t lo hi es.length none) ((es.take hi).drop lo)) else none
      | some mx => match hi with
        | some hi => (bndOf (some (e mx)) es.length 0).bind fun m => (bndOf (some (e hi)) m 0).bind fun h' => (bndOf (lo.map e) h' 0).bind fun lo => if lo = 0 ∨ ∀ el ∈ es, el.length = n then some (.sl (tokCut t lo h' es.length (some m)) ((es.take h').drop lo)) else none
        | none => none
    | .msl b z off len => match mx with
      | none => (bndOf (hi.map e) len len).bind fun hi => (bndOf (lo.map e) hi 0).bind fun lo => if z = n then some (if lo = hi ∧ lo ≠ 0 then .sl .no [] else .msl b z (off + lo * n) (hi - lo)) else none
      | some mx => match hi with
        | some hi => (bndOf (some (e mx)) len 0).bind fun m => (bndOf (some (e hi)) m 0).bind fun h' => (bndOf (lo.map e) h' 0).bind fun lo => if lo = h' ∧ h' = m then some (.sl .full []) else none
        | none => none
    | _ => none
  | .sliceS x lo hi => match e x with
    | .str s => (bndOf (hi.map e) s.size s.size).bind fun hi => (bndOf (lo.map e) hi 0).map fun lo => .str (s.extract lo hi)
    | _ => none
  | .ext x n => match e x with
    | .tup vs => vs[n]?
    | _ => none
  | .mkfn f first caps => some (.fn f (first.map e) (caps.map e))
  | .nilck x => match e x with
    | .ptr b o => some (.ptr b o)
    | .rop cs => some (.rop cs)
    | .fn f a b => some (.fn f a b)
    | .yld l => some (.yld l)
    | _ => none
  | .isnil neg x => match e x with
    | .sl _ [] => some .ubool
    | .sl _ (_ :: _) => some (.bool neg)
    | _ => none
  | .len x => match e x with
    | .sl _ es => some (.int .i64 es.length)
    | .msl _ _ _ n => some (.int .i64 n)
    | _ => none
  | .cap x => match e x with
    | .sl .full es => some (.int .i64 es.length)
    | _ => none
  | .lookup z m k ok => match e m, e k with
    | .map m, .int kk n => if m < h.mn then (h.mp m).bind fun es => (mapFind kk n es 0).map fun r => match r with
        | some (_, v) => if ok then .tup [v, .bool true] else v
        | none => if ok then .tup [z, .bool false] else z
      else none
    | _, _ => none
  | .lenS x => match e x with
    | .str s => some (.int .i64 s.size)
    | _ => none
  | .lenA n => some (.int .i64 n)
  | .mn xs => match xs.map e with
    | v :: vs => match v with
      | .int _ _ => foldA minA v vs
      | _ => none
    | [] => none
  | .mx xs => match xs.map e with
    | v :: vs => match v with
      | .int _ _ => foldA maxA v vs
      | _ => none
    | [] => none
  | _ => none

end Go.Am

/- The abstract machine's state held against a world; how the two go on together. -/
namespace Go.Am
open Go Go.RowKit

def RepS (w : World) (g : G) (s : Slots) (tmps : Array Value) : Prop := ∀ t, Rep w g (s t) (tmps.getD t undef)

theorem RepS.mono {w w' : World} {g g' : G} {s : Slots} {tm : Array Value} (h : RepS w g s tm) (e : GExt w g w' g') : RepS w' g' s tm := fun t => (h t).mono e

/-- The pending jump of a loop over a function. -/
def PendOK : Option IR → Option Code → Prop
  | none, none => True
  | some .ret, some .ret => True
  | some (.exit i), some (.exit j) => i = j
  | _, _ => False

structure LoopOK (P : Program) (w : World) (g : G) (r : LoopA) (L : Loop) : Prop where
  asg : cCode P L.tmps.size L.assign = some r.assign
  body : cCode P L.tmps.size L.body = some r.body
  tmps : RepS w g r.s L.tmps
  params : L.params.toList = r.ps
  plt : ∀ p, p ∈ r.ps → p < L.tmps.size
  st : L.state = r.st
  pend : PendOK r.pend L.pending

theorem LoopOK.mono {P : Program} {w w' : World} {g g' : G} {r : LoopA} {L : Loop} (h : LoopOK P w g r L) (e : GExt w g w' g') : LoopOK P w' g' r L :=
  ⟨h.asg, h.body, h.tmps.mono e, h.params, h.plt, h.st, h.pend⟩

/-- A map of whole-number keys. -/
def MapOK (w : World) (g : G) (es : List (AV × AV)) (E : Array MapEntry) : Prop :=
  ∃ hl : es.length = E.size, ∀ k (hk : k < es.length), (∃ kk n, es[k].1 = .int kk n) ∧ Rep w g es[k].1 E[k].key ∧ Rep w g es[k].2 E[k].val ∧ ok1 es[k].2 = true

theorem MapOK.mono {w w' : World} {g g' : G} {es : List (AV × AV)} {E : Array MapEntry} (h : MapOK w g es E) (e : GExt w g w' g') : MapOK w' g' es E :=
  ⟨h.1, fun k hk => ⟨(h.2 k hk).1, (h.2 k hk).2.1.mono e, (h.2 k hk).2.2.1.mono e, (h.2 k hk).2.2.2⟩⟩

def Mine (base : Nat) (W : Nat → Prop) (B : Nat) : Prop := base ≤ B ∨ W B

structure Sim (P : Program) (base : Nat) (W : Nat → Prop) (w : World) (g : G) (h : H) : Prop where
  base_le : base ≤ w.heap.size
  bn : h.bn = g.bn
  tn : h.tn = g.tn
  ln : h.ln = g.ln
  mn : h.mn = g.mn
  box : ∀ b cs, b < h.bn → h.bx b = some cs → Mine base W (g.bx b) ∧ g.ro (g.bx b) = 0 ∧ ∃ C T, w.heap[g.bx b]? = some (.cells C T (0, 0)) ∧ RepP w g cs C ∧ C.size = g.bs b
  boxinj : ∀ b b', b < h.bn → b' < h.bn → (h.bx b).isSome → (h.bx b').isSome → g.bx b = g.bx b' → b = b'
  tok : ∀ i, i < h.tn → h.tk i = (g.tk i).n ∧ Mine base W (g.tk i).B ∧ 0 < (g.tk i).n * (g.tk i).z ∧ (g.tk i).n ≤ (g.tk i).c ∧ g.ro (g.tk i).B = (g.tk i).o + (g.tk i).n * (g.tk i).z ∧
    ∃ C T, w.heap[(g.tk i).B]? = some (.cells C T (0, 0)) ∧ (g.tk i).o + (g.tk i).c * (g.tk i).z ≤ C.size
  tokinj : ∀ i j, i < h.tn → j < h.tn → (g.tk i).B = (g.tk j).B → i = j
  roB : ∀ B, w.heap.size ≤ B → g.ro B = 0
  loop : ∀ l r, l < h.ln → h.lp l = some r → base ≤ g.lp l ∧ ∃ L, w.heap[g.lp l]? = some (.loop L) ∧ LoopOK P w g r L
  loopinj : ∀ l l', l < h.ln → l' < h.ln → (h.lp l).isSome → (h.lp l').isSome → g.lp l = g.lp l' → l = l'
  map : ∀ m es, m < h.mn → h.mp m = some es → base ≤ g.mp m ∧ ∃ E c, w.heap[g.mp m]? = some (.map E c) ∧ MapOK w g es E
  mapinj : ∀ m m', m < h.mn → m' < h.mn → (h.mp m).isSome → (h.mp m').isSome → g.mp m = g.mp m' → m = m'

section
variable {P : Program} {base : Nat} {W : Nat → Prop} {w : World} {g : G} {h : H}

theorem cell_lt {w : World} {B k : Nat} {V : Value} (hc : w.cell? ⟨B, k, none⟩ = some V) : B < w.heap.size := by
  unfold World.cell? at hc
  split at hc
  · rename_i c e f hb; exact (Array.getElem?_eq_some_iff.1 hb).1
  · cases hc

theorem cell_of_heap {w w' : World} {B k : Nat} (hb : w'.heap[B]? = w.heap[B]?) : w'.cell? ⟨B, k, none⟩ = w.cell? ⟨B, k, none⟩ := by
  simp only [World.cell?, hb]

theorem cell_at {w : World} {B k : Nat} {C : Array Value} {T : TypeId} {f : Nat × Nat} (hb : w.heap[B]? = some (.cells C T f)) : w.cell? ⟨B, k, none⟩ = C[k]? := by
  simp [World.cell?, hb]

theorem alloc_at {w : World} {o : Obj} {B : Nat} (hB : B < w.heap.size) : (w.alloc o).heap[B]? = w.heap[B]? := by
  show (w.heap.push o)[B]? = _
  rw [Array.getElem?_push, if_neg (by omega)]

theorem alloc_new {w : World} {o : Obj} : (w.alloc o).heap[w.heap.size]? = some o := by
  show (w.heap.push o)[w.heap.size]? = _
  rw [Array.getElem?_push, if_pos rfl]

theorem heap_lt {w : World} {B : Nat} {o : Obj} (h : w.heap[B]? = some o) : B < w.heap.size := (Array.getElem?_eq_some_iff.1 h).1

/-- A new ghost over an old one: what new blocks bear may be read only. -/
def G.addRO (g : G) (B n : Nat) : G := { g with ro := fun b => if b = B then n else g.ro b }

/-- The world goes on where no tracked thing turns: a Sim goes on. -/
theorem Sim.step (hs : Sim P base W w g h) {w' : World} {g' : G} (e : GExt w g w' g')
    (hsz : w.heap.size ≤ w'.heap.size) (hblk : ∀ B, B < w.heap.size → w'.heap[B]? = w.heap[B]?)
    (hbn : g'.bn = g.bn) (htn : g'.tn = g.tn) (hln : g'.ln = g.ln) (hmn : g'.mn = g.mn) (htk : g'.tk = g.tk)
    (hro : ∀ B, B < w.heap.size → g'.ro B = g.ro B) (hroB : ∀ B, w'.heap.size ≤ B → g'.ro B = 0) : Sim P base W w' g' h := by
  have hbx : ∀ b, b < h.bn → g'.bx b = g.bx b := fun b hb => (e.bx b (hs.bn ▸ hb)).1
  have hbs : ∀ b, b < h.bn → g'.bs b = g.bs b := fun b hb => (e.bx b (hs.bn ▸ hb)).2
  have hlp : ∀ b, b < h.ln → g'.lp b = g.lp b := fun b hb => e.lp b (hs.ln ▸ hb)
  have hmp : ∀ b, b < h.mn → g'.mp b = g.mp b := fun b hb => e.mp b (hs.mn ▸ hb)
  refine ⟨Nat.le_trans hs.base_le hsz, hs.bn.trans hbn.symm, hs.tn.trans htn.symm, hs.ln.trans hln.symm, hs.mn.trans hmn.symm, ?_, ?_, ?_, ?_, hroB, ?_, ?_, ?_, ?_⟩
  · intro b cs hb hc
    obtain ⟨h1, h2, C, T, h3, h4, h5⟩ := hs.box b cs hb hc
    rw [hbx b hb, hbs b hb]
    exact ⟨h1, (hro _ (heap_lt h3)).trans h2, C, T, (hblk _ (heap_lt h3)).trans h3, h4.mono e, h5⟩
  · intro b b' hb hb' h1 h2
    rw [hbx b hb, hbx b' hb']
    exact hs.boxinj b b' hb hb' h1 h2
  · intro i hi
    obtain ⟨h1, h2, h3, h4, h5, C, T, h6, h7⟩ := hs.tok i hi
    rw [htk]
    exact ⟨h1, h2, h3, h4, (hro _ (heap_lt h6)).trans h5, C, T, (hblk _ (heap_lt h6)).trans h6, h7⟩
  · intro i j hi hj
    rw [htk]
    exact hs.tokinj i j hi hj
  · intro l r hl hr
    obtain ⟨h1, L, h2, h3⟩ := hs.loop l r hl hr
    rw [hlp l hl]
    exact ⟨h1, L, (hblk _ (heap_lt h2)).trans h2, h3.mono e⟩
  · intro l l' hl hl' i1 i2
    rw [hlp l hl, hlp l' hl']
    exact hs.loopinj l l' hl hl' i1 i2
  · intro l r hl hr
    obtain ⟨h1, L, c, h2, h3⟩ := hs.map l r hl hr
    rw [hmp l hl]
    exact ⟨h1, L, c, (hblk _ (heap_lt h2)).trans h2, h3.mono e⟩
  · intro l l' hl hl' i1 i2
    rw [hmp l hl, hmp l' hl']
    exact hs.mapinj l l' hl hl' i1 i2

/-- Where nothing that was there turns. -/
theorem Ext.step (hs : Sim P base W w g h) {w' : World} {g' : G} (e : GExt w g w' g') (hos : w'.os = w.os) (htp : w'.tape = w.tape) (hout : w'.output = w.output)
    (hblk : ∀ B, B < w.heap.size → w'.heap[B]? = w.heap[B]?) (hro : ∀ B, B < w.heap.size → g'.ro B = g.ro B) : Ext base W w g w' g' :=
  ⟨e, hos, htp, hout, fun B hB _ => hblk B (Nat.lt_of_lt_of_le hB hs.base_le), fun B hB _ => hro B (Nat.lt_of_lt_of_le hB hs.base_le), fun B _ ho => (hblk B (heap_lt ho)).trans ho⟩

theorem GExt.of_blk {w' : World} {g' : G} (hsz : w.heap.size ≤ w'.heap.size) (hblk : ∀ B, B < w.heap.size → w'.heap[B]? = w.heap[B]?)
    (hr : ∀ B, w.heap.size ≤ B → g.ro B = 0) (hro : ∀ B, B < w.heap.size → g'.ro B = g.ro B)
    (hbn : g.bn ≤ g'.bn) (hbx : ∀ b, b < g.bn → g'.bx b = g.bx b ∧ g'.bs b = g.bs b) (htn : g.tn ≤ g'.tn) (htk : ∀ b, b < g.tn → g'.tk b = g.tk b)
    (hln : g.ln ≤ g'.ln) (hlp : ∀ b, b < g.ln → g'.lp b = g.lp b) (hmn : g.mn ≤ g'.mn) (hmp : ∀ b, b < g.mn → g'.mp b = g.mp b) : GExt w g w' g' := by
  refine ⟨hsz, fun B k hk => ?_, hbn, hbx, htn, fun i hi => ?_, hln, hlp, hmn, hmp⟩
  · have hB : B < w.heap.size := by
      rcases Nat.lt_or_ge B w.heap.size with h | h
      · exact h
      · have := hr B h; omega
    exact ⟨by rw [hro B hB]; exact hk, cell_of_heap (hblk B hB)⟩
  · rw [htk i hi]; exact ⟨Nat.le_refl _, fun _ => rfl⟩

/-- A draw. -/
theorem Sim.drew (hs : Sim P base W w g h) : Sim P base W w.drew g h ∧ Ext base W w g w.drew g := by
  have e : GExt w g w.drew g := GExt.of_blk (Nat.le_refl _) (fun _ _ => rfl) hs.roB (fun _ _ => rfl) (Nat.le_refl _) (fun _ _ => ⟨rfl, rfl⟩) (Nat.le_refl _) (fun _ _ => rfl) (Nat.le_refl _) (fun _ _ => rfl) (Nat.le_refl _) (fun _ _ => rfl)
  exact ⟨hs.step e (Nat.le_refl _) (fun _ _ => rfl) rfl rfl rfl rfl rfl (fun _ _ => rfl) (fun B hB => hs.roB B hB), Ext.step hs e rfl rfl rfl (fun _ _ => rfl) (fun _ _ => rfl)⟩

/-- A new block that nobody writes: its first n cells may be read. -/
theorem Sim.allocRO (hs : Sim P base W w g h) (o : Obj) (n : Nat) :
    Sim P base W (w.alloc o) (g.addRO w.heap.size n) h ∧ Ext base W w g (w.alloc o) (g.addRO w.heap.size n) := by
  have hro : ∀ B, B < w.heap.size → (g.addRO w.heap.size n).ro B = g.ro B := fun B hB => by
    show (if B = w.heap.size then n else g.ro B) = _
    rw [if_neg (by omega)]
  have e : GExt w g (w.alloc o) (g.addRO w.heap.size n) := GExt.of_blk (by simp) (fun B hB => alloc_at hB) hs.roB hro (Nat.le_refl _) (fun _ _ => ⟨rfl, rfl⟩) (Nat.le_refl _) (fun _ _ => rfl) (Nat.le_refl _) (fun _ _ => rfl) (Nat.le_refl _) (fun _ _ => rfl)
  refine ⟨hs.step e (by simp) (fun B hB => alloc_at hB) rfl rfl rfl rfl rfl hro (fun B hB => ?_), Ext.step hs e rfl rfl rfl (fun B hB => alloc_at hB) hro⟩
  simp only [World.size_alloc] at hB
  show (if B = w.heap.size then n else g.ro B) = 0
  rw [if_neg (by omega)]
  exact hs.roB B (by omega)

/-! ### New boxes -/
def H.alloc (h : H) (cs : List AV) : H := { h with bn := h.bn + 1, bx := fun b => if b = h.bn then some cs else h.bx b }
def G.box (g : G) (B n : Nat) : G := { g with bn := g.bn + 1, bx := fun b => if b = g.bn then B else g.bx b, bs := fun b => if b = g.bn then n else g.bs b }

theorem Sim.allocBox (hs : Sim P base W w g h) (C : Array Value) (T : TypeId) (cs : List AV) (hc : RepP w g cs C) :
    Sim P base W (w.alloc (.cells C T)) (g.box w.heap.size C.size) (h.alloc cs) ∧ Ext base W w g (w.alloc (.cells C T)) (g.box w.heap.size C.size) := by
  have hbx' : ∀ b, b < g.bn → (g.box w.heap.size C.size).bx b = g.bx b ∧ (g.box w.heap.size C.size).bs b = g.bs b := fun b hb => by
    refine ⟨?_, ?_⟩
    · show (if b = g.bn then _ else g.bx b) = _
      rw [if_neg (by omega)]
    · show (if b = g.bn then _ else g.bs b) = _
      rw [if_neg (by omega)]
  have hbx : ∀ b, b < g.bn → (g.box w.heap.size C.size).bx b = g.bx b := fun b hb => (hbx' b hb).1
  have hbs : ∀ b, b < g.bn → (g.box w.heap.size C.size).bs b = g.bs b := fun b hb => (hbx' b hb).2
  have e : GExt w g (w.alloc (.cells C T)) (g.box w.heap.size C.size) := GExt.of_blk (by simp) (fun B hB => alloc_at hB) hs.roB (fun _ _ => rfl) (Nat.le_succ _) hbx' (Nat.le_refl _) (fun _ _ => rfl) (Nat.le_refl _) (fun _ _ => rfl) (Nat.le_refl _) (fun _ _ => rfl)
  have hnew : (g.box w.heap.size C.size).bx h.bn = w.heap.size := by
    show (if h.bn = g.bn then _ else _) = _
    rw [if_pos hs.bn]
  have hnews : (g.box w.heap.size C.size).bs h.bn = C.size := by
    show (if h.bn = g.bn then _ else _) = _
    rw [if_pos hs.bn]
  have hold : ∀ b, b < h.bn → (h.alloc cs).bx b = h.bx b := fun b hb => by
    show (if b = h.bn then _ else _) = _
    rw [if_neg (by omega)]
  have hnewh : (h.alloc cs).bx h.bn = some cs := by
    show (if h.bn = h.bn then _ else _) = _
    rw [if_pos rfl]
  have hlt : ∀ b cs', b < h.bn → h.bx b = some cs' → g.bx b < w.heap.size := fun b cs' hb hc => by
    obtain ⟨_, _, C, T, h3, _⟩ := hs.box b cs' hb hc
    exact heap_lt h3
  refine ⟨⟨Nat.le_trans hs.base_le (by simp), by show h.bn + 1 = g.bn + 1; rw [hs.bn], hs.tn, hs.ln, hs.mn, ?_, ?_, ?_, hs.tokinj, ?_, ?_, hs.loopinj, ?_, hs.mapinj⟩, Ext.step hs e rfl rfl rfl (fun B hB => alloc_at hB) (fun _ _ => rfl)⟩
  · intro b cs' hb hc'
    by_cases hbn : b = h.bn
    · subst hbn
      rw [hnewh] at hc'
      cases hc'
      rw [hnew, hnews]
      exact ⟨.inl hs.base_le, hs.roB _ (Nat.le_refl _), C, T, alloc_new, hc.mono e, rfl⟩
    · have hb' : b < h.bn := by simp only [H.alloc] at hb; omega
      rw [hold b hb'] at hc'
      obtain ⟨h1, h2, C', T', h3, h4, h5⟩ := hs.box b cs' hb' hc'
      rw [hbx b (hs.bn ▸ hb'), hbs b (hs.bn ▸ hb')]
      exact ⟨h1, h2, C', T', (alloc_at (heap_lt h3)).trans h3, h4.mono e, h5⟩
  · intro b b' hb hb' h1 h2 heq
    by_cases hbn : b = h.bn <;> by_cases hbn' : b' = h.bn
    · omega
    · have hb2 : b' < h.bn := by simp only [H.alloc] at hb'; omega
      rw [hold b' hb2] at h2
      obtain ⟨cs', hcs'⟩ := Option.isSome_iff_exists.1 h2
      have := hlt b' cs' hb2 hcs'
      rw [hbn, hnew, hbx b' (hs.bn ▸ hb2)] at heq
      omega
    · have hb2 : b < h.bn := by simp only [H.alloc] at hb; omega
      rw [hold b hb2] at h1
      obtain ⟨cs', hcs'⟩ := Option.isSome_iff_exists.1 h1
      have := hlt b cs' hb2 hcs'
      rw [hbn', hnew, hbx b (hs.bn ▸ hb2)] at heq
      omega
    · have hb2 : b < h.bn := by simp only [H.alloc] at hb; omega
      have hb3 : b' < h.bn := by simp only [H.alloc] at hb'; omega
      rw [hold b hb2] at h1
      rw [hold b' hb3] at h2
      rw [hbx b (hs.bn ▸ hb2), hbx b' (hs.bn ▸ hb3)] at heq
      exact hs.boxinj b b' hb2 hb3 h1 h2 heq
  · intro i hi
    obtain ⟨h1, h2, h3, h4, h5, C', T', h6, h7⟩ := hs.tok i hi
    exact ⟨h1, h2, h3, h4, h5, C', T', (alloc_at (heap_lt h6)).trans h6, h7⟩
  · intro B hB
    simp only [World.size_alloc] at hB
    exact hs.roB B (by omega)
  · intro l r hl hr
    obtain ⟨h1, L, h2, h3⟩ := hs.loop l r hl hr
    exact ⟨h1, L, (alloc_at (heap_lt h2)).trans h2, h3.mono e⟩
  · intro l r hl hr
    obtain ⟨h1, L, c, h2, h3⟩ := hs.map l r hl hr
    exact ⟨h1, L, c, (alloc_at (heap_lt h2)).trans h2, h3.mono e⟩

/-! ### A box is written -/
def H.set (h : H) (b : Nat) (cs : List AV) : H := { h with bx := fun b' => if b' = b then some cs else h.bx b' }

theorem Sim.setBox (hs : Sim P base W w g h) {b : Nat} {cs cs' : List AV} (hb : b < h.bn) (hc : h.bx b = some cs) {C' : Array Value} {T : TypeId} {w' : World}
    (hcs' : RepP w g cs' C') (hw : w'.heap[g.bx b]? = some (.cells C' T (0, 0))) (hbs : C'.size = g.bs b) (hsz : w'.heap.size = w.heap.size) (hoth : ∀ B, B ≠ g.bx b → w'.heap[B]? = w.heap[B]?)
    (hos : w'.os = w.os) (htp : w'.tape = w.tape) (hout : w'.output = w.output) :
    Sim P base W w' g (h.set b cs') ∧ Ext base W w g w' g := by
  obtain ⟨hmine, hro0, C, T0, hC, hrep, hbs0⟩ := hs.box b cs hb hc
  have e : GExt w g w' g := by
    refine ⟨by omega, fun B k hk => ⟨hk, ?_⟩, Nat.le_refl _, fun _ _ => ⟨rfl, rfl⟩, Nat.le_refl _, fun _ _ => ⟨Nat.le_refl _, fun _ => rfl⟩, Nat.le_refl _, fun _ _ => rfl, Nat.le_refl _, fun _ _ => rfl⟩
    by_cases hB : B = g.bx b
    · subst hB; omega
    · exact cell_of_heap (hoth B hB)
  have hne_tok : ∀ i, i < h.tn → (g.tk i).B ≠ g.bx b := fun i hi heq => by
    obtain ⟨_, _, h3, _, h5, _⟩ := hs.tok i hi
    rw [heq] at h5; omega
  have hne_loop : ∀ l r, l < h.ln → h.lp l = some r → g.lp l ≠ g.bx b := fun l r hl hr heq => by
    obtain ⟨_, L, h2, _⟩ := hs.loop l r hl hr
    rw [heq, hC] at h2; cases h2
  have hne_map : ∀ l r, l < h.mn → h.mp l = some r → g.mp l ≠ g.bx b := fun l r hl hr heq => by
    obtain ⟨_, L, c, h2, _⟩ := hs.map l r hl hr
    rw [heq, hC] at h2; cases h2
  refine ⟨⟨by have := hs.base_le; omega, hs.bn, hs.tn, hs.ln, hs.mn, ?_, ?_, ?_, hs.tokinj, ?_, ?_, hs.loopinj, ?_, hs.mapinj⟩, ⟨e, hos, htp, hout, fun B hB hW => hoth B fun heq => ?_, fun _ _ _ => rfl, fun B ds ho => ?_⟩⟩
  · intro b2 cs2 hb2 hc2
    by_cases hbb : b2 = b
    · subst hbb
      have : cs' = cs2 := by simpa [H.set] using hc2
      subst this
      exact ⟨hmine, hro0, C', T, hw, hcs'.mono e, hbs⟩
    · have hc3 : h.bx b2 = some cs2 := by simpa [H.set, hbb] using hc2
      obtain ⟨h1, h2, C2, T2, h3, h4, h5⟩ := hs.box b2 cs2 hb2 hc3
      have hne : g.bx b2 ≠ g.bx b := fun heq => hbb (hs.boxinj b2 b hb2 hb (by rw [hc3]; rfl) (by rw [hc]; rfl) heq)
      exact ⟨h1, h2, C2, T2, (hoth _ hne).trans h3, h4.mono e, h5⟩
  · intro b1 b2 hb1 hb2 h1 h2 heq
    refine hs.boxinj b1 b2 hb1 hb2 ?_ ?_ heq
    · by_cases hbb : b1 = b
      · subst hbb; rw [hc]; rfl
      · simpa [H.set, hbb] using h1
    · by_cases hbb : b2 = b
      · subst hbb; rw [hc]; rfl
      · simpa [H.set, hbb] using h2
  · intro i hi
    obtain ⟨h1, h2, h3, h4, h5, C', T', h6, h7⟩ := hs.tok i hi
    exact ⟨h1, h2, h3, h4, h5, C', T', (hoth _ (hne_tok i hi)).trans h6, h7⟩
  · intro B hB
    exact hs.roB B (by omega)
  · intro l r hl hr
    obtain ⟨h1, L, h2, h3⟩ := hs.loop l r hl hr
    exact ⟨h1, L, (hoth _ (hne_loop l r hl hr)).trans h2, h3.mono e⟩
  · intro l r hl hr
    obtain ⟨h1, L, c, h2, h3⟩ := hs.map l r hl hr
    exact ⟨h1, L, c, (hoth _ (hne_map l r hl hr)).trans h2, h3.mono e⟩
  · subst heq
    rcases hmine with h1 | h1
    · omega
    · exact hW h1
  · have : B ≠ g.bx b := fun heq => by
      subst heq
      rw [hC] at ho
      cases ho
    rw [hoth B this]; exact ho

/-! ### Tokens -/
def H.newTok (h : H) (n : Nat) : H := { h with tn := h.tn + 1, tk := fun i => if i = h.tn then n else h.tk i }
def H.setTok (h : H) (i n : Nat) : H := { h with tk := fun j => if j = i then n else h.tk j }
def G.newTok (g : G) (q : TokG) : G := { g with tn := g.tn + 1, tk := fun i => if i = g.tn then q else g.tk i, ro := fun b => if b = q.B then q.o + q.n * q.z else g.ro b }
def G.setTok (g : G) (i : Nat) (q : TokG) : G := { g with tk := fun j => if j = i then q else g.tk j, ro := fun b => if b = q.B then q.o + q.n * q.z else g.ro b }

/-- A new block that a slice owns: room behind its cells. -/
theorem Sim.allocTok (hs : Sim P base W w g h) (C : Array Value) (T : TypeId) (z n c : Nat) (hnz : 0 < n * z) (hnc : n ≤ c) (hC : c * z ≤ C.size) :
    Sim P base W (w.alloc (.cells C T)) (g.newTok ⟨w.heap.size, 0, z, n, c⟩) (h.newTok n) ∧ Ext base W w g (w.alloc (.cells C T)) (g.newTok ⟨w.heap.size, 0, z, n, c⟩) := by
  have hro : ∀ B, B < w.heap.size → (g.newTok ⟨w.heap.size, 0, z, n, c⟩).ro B = g.ro B := fun B hB => by
    show (if B = w.heap.size then _ else g.ro B) = _
    rw [if_neg (by omega)]
  have htk : ∀ i, i < g.tn → (g.newTok ⟨w.heap.size, 0, z, n, c⟩).tk i = g.tk i := fun i hi => by
    show (if i = g.tn then _ else g.tk i) = _
    rw [if_neg (by omega)]
  have e : GExt w g (w.alloc (.cells C T)) (g.newTok ⟨w.heap.size, 0, z, n, c⟩) := GExt.of_blk (by simp) (fun B hB => alloc_at hB) hs.roB hro (Nat.le_refl _) (fun _ _ => ⟨rfl, rfl⟩) (Nat.le_succ _) htk (Nat.le_refl _) (fun _ _ => rfl) (Nat.le_refl _) (fun _ _ => rfl)
  refine ⟨⟨Nat.le_trans hs.base_le (by simp), hs.bn, by show h.tn + 1 = g.tn + 1; rw [hs.tn], hs.ln, hs.mn, ?_, hs.boxinj, ?_, ?_, ?_, ?_, hs.loopinj, ?_, hs.mapinj⟩, Ext.step hs e rfl rfl rfl (fun B hB => alloc_at hB) hro⟩
  · intro b cs' hb hc'
    obtain ⟨h1, h2, C', T', h3, h4, h5⟩ := hs.box b cs' hb hc'
    exact ⟨h1, (hro _ (heap_lt h3)).trans h2, C', T', (alloc_at (heap_lt h3)).trans h3, h4.mono e, h5⟩
  · intro i hi
    by_cases hin : i = h.tn
    · subst hin
      have hq : (g.newTok ⟨w.heap.size, 0, z, n, c⟩).tk h.tn = ⟨w.heap.size, 0, z, n, c⟩ := by
        show (if h.tn = g.tn then _ else _) = _
        rw [if_pos hs.tn]
      have hn : (h.newTok n).tk h.tn = n := by
        show (if h.tn = h.tn then _ else _) = _
        rw [if_pos rfl]
      rw [hq, hn]
      refine ⟨rfl, .inl hs.base_le, hnz, hnc, ?_, C, T, alloc_new, by show 0 + c * z ≤ _; omega⟩
      show (if w.heap.size = w.heap.size then _ else _) = _
      rw [if_pos rfl]
    · have hi' : i < h.tn := by simp only [H.newTok] at hi; omega
      obtain ⟨h1, h2, h3, h4, h5, C', T', h6, h7⟩ := hs.tok i hi'
      rw [htk i (hs.tn ▸ hi')]
      have hn : (h.newTok n).tk i = h.tk i := by
        show (if i = h.tn then _ else _) = _
        rw [if_neg hin]
      exact ⟨hn.trans h1, h2, h3, h4, (hro _ (heap_lt h6)).trans h5, C', T', (alloc_at (heap_lt h6)).trans h6, h7⟩
  · intro i j hi hj heq
    have hold : ∀ i, i < h.tn → ((g.newTok ⟨w.heap.size, 0, z, n, c⟩).tk i).B < w.heap.size := fun i hi => by
      obtain ⟨_, _, _, _, _, C', T', h6, _⟩ := hs.tok i hi
      rw [htk i (hs.tn ▸ hi)]; exact heap_lt h6
    have hnew : ((g.newTok ⟨w.heap.size, 0, z, n, c⟩).tk h.tn).B = w.heap.size := by
      show (if h.tn = g.tn then _ else g.tk h.tn : TokG).B = _
      rw [if_pos hs.tn]
    by_cases h1 : i = h.tn <;> by_cases h2 : j = h.tn
    · omega
    · have := hold j (by simp only [H.newTok] at hj; omega)
      rw [h1, hnew] at heq; omega
    · have := hold i (by simp only [H.newTok] at hi; omega)
      rw [h2, hnew] at heq; omega
    · have hi' : i < h.tn := by simp only [H.newTok] at hi; omega
      have hj' : j < h.tn := by simp only [H.newTok] at hj; omega
      rw [htk i (hs.tn ▸ hi'), htk j (hs.tn ▸ hj')] at heq
      exact hs.tokinj i j hi' hj' heq
  · intro B hB
    simp only [World.size_alloc] at hB
    show (if B = w.heap.size then _ else g.ro B) = 0
    rw [if_neg (by omega)]
    exact hs.roB B (by omega)
  · intro l r hl hr
    obtain ⟨h1, L, h2, h3⟩ := hs.loop l r hl hr
    exact ⟨h1, L, (alloc_at (heap_lt h2)).trans h2, h3.mono e⟩
  · intro l r hl hr
    obtain ⟨h1, L, c, h2, h3⟩ := hs.map l r hl hr
    exact ⟨h1, L, c, (alloc_at (heap_lt h2)).trans h2, h3.mono e⟩

end
end Go.Am

/- The abstract machine's state held against a world: an append in place, an append that moves, a box that is let go. -/
namespace Go.Am
open Go Go.RowKit
section
variable {P : Program} {base : Nat} {W : Nat → Prop} {w : World} {g : G} {h : H}

/-- An append in place: the token's block is written behind what may be read. -/
theorem Sim.tokIn (hs : Sim P base W w g h) {i : Nat} (hi : i < h.tn) {C C' : Array Value} {T : TypeId} {w' : World} {n' : Nat}
    (hC : w.heap[(g.tk i).B]? = some (.cells C T (0, 0))) (hw : w'.heap[(g.tk i).B]? = some (.cells C' T (0, 0))) (hCs : C'.size = C.size)
    (hkeep : ∀ k, k < (g.tk i).o + (g.tk i).n * (g.tk i).z → C'[k]? = C[k]?) (hn : (g.tk i).n < n') (hn' : n' ≤ (g.tk i).c)
    (hsz : w'.heap.size = w.heap.size) (hoth : ∀ B, B ≠ (g.tk i).B → w'.heap[B]? = w.heap[B]?) (hos : w'.os = w.os) (htp : w'.tape = w.tape) (hout : w'.output = w.output) :
    Sim P base W w' (g.setTok i { g.tk i with n := n' }) (h.setTok i n') ∧ Ext base W w g w' (g.setTok i { g.tk i with n := n' }) := by
  obtain ⟨hq1, hmine, hq3, hq4, hq5, C0, T0, hC0, hq7⟩ := hs.tok i hi
  rw [hC] at hC0
  have hCC : C = C0 := by injection hC0 with hC0; injection hC0
  subst hCC
  have hmul : (g.tk i).n * (g.tk i).z ≤ n' * (g.tk i).z := Nat.mul_le_mul_right _ (by omega)
  have hro1 : (g.setTok i { g.tk i with n := n' }).ro (g.tk i).B = (g.tk i).o + n' * (g.tk i).z := by
    show (if (g.tk i).B = (g.tk i).B then _ else _) = _
    rw [if_pos rfl]
  have hro2 : ∀ B, B ≠ (g.tk i).B → (g.setTok i { g.tk i with n := n' }).ro B = g.ro B := fun B hB => by
    show (if B = (g.tk i).B then _ else _) = _
    rw [if_neg hB]
  have htk1 : (g.setTok i { g.tk i with n := n' }).tk i = { g.tk i with n := n' } := by
    show (if i = i then _ else _) = _
    rw [if_pos rfl]
  have htk2 : ∀ j, j ≠ i → (g.setTok i { g.tk i with n := n' }).tk j = g.tk j := fun j hj => by
    show (if j = i then _ else _) = _
    rw [if_neg hj]
  have e : GExt w g w' (g.setTok i { g.tk i with n := n' }) := by
    refine ⟨by omega, fun B k hk => ?_, Nat.le_refl _, fun _ _ => ⟨rfl, rfl⟩, Nat.le_refl _, fun j hj => ?_, Nat.le_refl _, fun _ _ => rfl, Nat.le_refl _, fun _ _ => rfl⟩
    · by_cases hB : B = (g.tk i).B
      · subst hB
        rw [hq5] at hk
        exact ⟨by rw [hro1]; omega, by rw [cell_at hw, cell_at hC]; exact hkeep k hk⟩
      · exact ⟨by rw [hro2 B hB]; exact hk, cell_of_heap (hoth B hB)⟩
    · by_cases hj' : j = i
      · subst hj'
        rw [htk1]
        exact ⟨by show _ ≤ n'; omega, fun he => by have : (g.tk j).n = n' := he; omega⟩
      · rw [htk2 j hj']
        exact ⟨Nat.le_refl _, fun _ => rfl⟩
  have hne_box : ∀ b cs, b < h.bn → h.bx b = some cs → g.bx b ≠ (g.tk i).B := fun b cs hb hc heq => by
    obtain ⟨_, h2, _⟩ := hs.box b cs hb hc
    rw [heq] at h2; omega
  have hne_loop : ∀ l r, l < h.ln → h.lp l = some r → g.lp l ≠ (g.tk i).B := fun l r hl hr heq => by
    obtain ⟨_, L, h2, _⟩ := hs.loop l r hl hr
    rw [heq, hC] at h2; cases h2
  have hne_map : ∀ l r, l < h.mn → h.mp l = some r → g.mp l ≠ (g.tk i).B := fun l r hl hr heq => by
    obtain ⟨_, L, c, h2, _⟩ := hs.map l r hl hr
    rw [heq, hC] at h2; cases h2
  refine ⟨⟨by have := hs.base_le; omega, hs.bn, hs.tn, hs.ln, hs.mn, ?_, hs.boxinj, ?_, ?_, ?_, ?_, hs.loopinj, ?_, hs.mapinj⟩, ⟨e, hos, htp, hout, fun B hB hW => hoth B fun heq => ?_, fun B hB hW => hro2 B fun heq => ?_, fun B ds ho => ?_⟩⟩
  · intro b cs hb hc
    obtain ⟨h1, h2, C2, T2, h3, h4, h5⟩ := hs.box b cs hb hc
    have hne := hne_box b cs hb hc
    exact ⟨h1, (hro2 _ hne).trans h2, C2, T2, (hoth _ hne).trans h3, h4.mono e, h5⟩
  · intro j hj
    by_cases hji : j = i
    · subst hji
      rw [htk1]
      refine ⟨?_, hmine, ?_, hn', hro1, C', T, hw, by rw [hCs]; exact hq7⟩
      · show (if j = j then n' else _) = n'
        rw [if_pos rfl]
      · show 0 < n' * (g.tk j).z
        omega
    · obtain ⟨h1, h2, h3, h4, h5, C2, T2, h6, h7⟩ := hs.tok j hj
      have hne : (g.tk j).B ≠ (g.tk i).B := fun heq => hji (hs.tokinj j i hj hi heq)
      rw [htk2 j hji]
      refine ⟨?_, h2, h3, h4, (hro2 _ hne).trans h5, C2, T2, (hoth _ hne).trans h6, h7⟩
      show (if j = i then n' else _) = _
      rw [if_neg hji]; exact h1
  · intro a b ha hb heq
    have hB : ∀ j, ((g.setTok i { g.tk i with n := n' }).tk j).B = (g.tk j).B := fun j => by
      by_cases hj : j = i
      · subst hj; rw [htk1]
      · rw [htk2 j hj]
    rw [hB, hB] at heq
    exact hs.tokinj a b ha hb heq
  · intro B hB
    have : B ≠ (g.tk i).B := fun heq => by
      have := heap_lt hC
      omega
    rw [hro2 B this]
    exact hs.roB B (by omega)
  · intro l r hl hr
    obtain ⟨h1, L, h2, h3⟩ := hs.loop l r hl hr
    exact ⟨h1, L, (hoth _ (hne_loop l r hl hr)).trans h2, h3.mono e⟩
  · intro l r hl hr
    obtain ⟨h1, L, c, h2, h3⟩ := hs.map l r hl hr
    exact ⟨h1, L, c, (hoth _ (hne_map l r hl hr)).trans h2, h3.mono e⟩
  · subst heq
    rcases hmine with h1 | h1
    · omega
    · exact hW h1
  · subst heq
    rcases hmine with h1 | h1
    · omega
    · exact hW h1
  · have : B ≠ (g.tk i).B := fun heq => by
      subst heq
      rw [hC] at ho
      cases ho
    rw [hoth B this]; exact ho

/-- An append that moves: the token goes to a new block. -/
theorem Sim.tokMove (hs : Sim P base W w g h) {i : Nat} (hi : i < h.tn) (C : Array Value) (T : TypeId) (z n c : Nat) (hn : (g.tk i).n < n) (hz : 0 < n * z) (hnc : n ≤ c) (hC : c * z ≤ C.size) :
    Sim P base W (w.alloc (.cells C T)) (g.setTok i ⟨w.heap.size, 0, z, n, c⟩) (h.setTok i n) ∧ Ext base W w g (w.alloc (.cells C T)) (g.setTok i ⟨w.heap.size, 0, z, n, c⟩) := by
  have hro : ∀ B, B < w.heap.size → (g.setTok i ⟨w.heap.size, 0, z, n, c⟩).ro B = g.ro B := fun B hB => by
    show (if B = w.heap.size then _ else g.ro B) = _
    rw [if_neg (by omega)]
  have htk1 : (g.setTok i ⟨w.heap.size, 0, z, n, c⟩).tk i = ⟨w.heap.size, 0, z, n, c⟩ := by
    show (if i = i then _ else _) = _
    rw [if_pos rfl]
  have htk2 : ∀ j, j ≠ i → (g.setTok i ⟨w.heap.size, 0, z, n, c⟩).tk j = g.tk j := fun j hj => by
    show (if j = i then _ else _) = _
    rw [if_neg hj]
  have e : GExt w g (w.alloc (.cells C T)) (g.setTok i ⟨w.heap.size, 0, z, n, c⟩) := by
    refine ⟨by simp, fun B k hk => ?_, Nat.le_refl _, fun _ _ => ⟨rfl, rfl⟩, Nat.le_refl _, fun j hj => ?_, Nat.le_refl _, fun _ _ => rfl, Nat.le_refl _, fun _ _ => rfl⟩
    · have hB : B < w.heap.size := by
        rcases Nat.lt_or_ge B w.heap.size with h | h
        · exact h
        · have := hs.roB B h; omega
      exact ⟨by rw [hro B hB]; exact hk, cell_of_heap (alloc_at hB)⟩
    · by_cases hj' : j = i
      · subst hj'
        rw [htk1]
        exact ⟨by show _ ≤ n; omega, fun he => by have : (g.tk j).n = n := he; omega⟩
      · rw [htk2 j hj']
        exact ⟨Nat.le_refl _, fun _ => rfl⟩
  refine ⟨⟨Nat.le_trans hs.base_le (by simp), hs.bn, hs.tn, hs.ln, hs.mn, ?_, hs.boxinj, ?_, ?_, ?_, ?_, hs.loopinj, ?_, hs.mapinj⟩, Ext.step hs e rfl rfl rfl (fun B hB => alloc_at hB) hro⟩
  · intro b cs' hb hc'
    obtain ⟨h1, h2, C', T', h3, h4, h5⟩ := hs.box b cs' hb hc'
    exact ⟨h1, (hro _ (heap_lt h3)).trans h2, C', T', (alloc_at (heap_lt h3)).trans h3, h4.mono e, h5⟩
  · intro j hj
    by_cases hji : j = i
    · subst hji
      rw [htk1]
      refine ⟨?_, .inl hs.base_le, hz, hnc, ?_, C, T, alloc_new, by show 0 + c * z ≤ _; omega⟩
      · show (if j = j then n else _) = n
        rw [if_pos rfl]
      · show (if w.heap.size = w.heap.size then _ else _) = _
        rw [if_pos rfl]
    · obtain ⟨h1, h2, h3, h4, h5, C', T', h6, h7⟩ := hs.tok j hj
      rw [htk2 j hji]
      refine ⟨?_, h2, h3, h4, (hro _ (heap_lt h6)).trans h5, C', T', (alloc_at (heap_lt h6)).trans h6, h7⟩
      show (if j = i then n else _) = _
      rw [if_neg hji]; exact h1
  · intro a b ha hb heq
    have hold : ∀ j, j < h.tn → j ≠ i → ((g.setTok i ⟨w.heap.size, 0, z, n, c⟩).tk j).B < w.heap.size := fun j hj hji => by
      obtain ⟨_, _, _, _, _, C', T', h6, _⟩ := hs.tok j hj
      rw [htk2 j hji]; exact heap_lt h6
    by_cases h1 : a = i <;> by_cases h2 : b = i
    · omega
    · have := hold b hb h2
      rw [h1, htk1] at heq
      have : w.heap.size = ((g.setTok i ⟨w.heap.size, 0, z, n, c⟩).tk b).B := heq
      omega
    · have := hold a ha h1
      rw [h2, htk1] at heq
      have : ((g.setTok i ⟨w.heap.size, 0, z, n, c⟩).tk a).B = w.heap.size := heq
      omega
    · rw [htk2 a h1, htk2 b h2] at heq
      exact hs.tokinj a b ha hb heq
  · intro B hB
    simp only [World.size_alloc] at hB
    show (if B = w.heap.size then _ else g.ro B) = 0
    rw [if_neg (by omega)]
    exact hs.roB B (by omega)
  · intro l r hl hr
    obtain ⟨h1, L, h2, h3⟩ := hs.loop l r hl hr
    exact ⟨h1, L, (alloc_at (heap_lt h2)).trans h2, h3.mono e⟩
  · intro l r hl hr
    obtain ⟨h1, L, c, h2, h3⟩ := hs.map l r hl hr
    exact ⟨h1, L, c, (alloc_at (heap_lt h2)).trans h2, h3.mono e⟩

/-- A box is let go: its cells may be read from now on, and never turn. -/
def H.kill (h : H) (b : Nat) : H := { h with bx := fun b' => if b' = b then none else h.bx b' }

theorem Sim.kill (hs : Sim P base W w g h) {b : Nat} {cs : List AV} (hb : b < h.bn) (hc : h.bx b = some cs) :
    Sim P base W w (g.addRO (g.bx b) cs.length) (h.kill b) ∧ Ext base W w g w (g.addRO (g.bx b) cs.length) ∧
      ∀ k v, cs[k]? = some v → ∃ V, k < (g.addRO (g.bx b) cs.length).ro (g.bx b) ∧ w.cell? ⟨g.bx b, k, none⟩ = some V ∧ Rep w (g.addRO (g.bx b) cs.length) v V ∧ ok1 v = true := by
  obtain ⟨hmine, hro0, C, T0, hC, hrep, hbs0⟩ := hs.box b cs hb hc
  have hro1 : (g.addRO (g.bx b) cs.length).ro (g.bx b) = cs.length := by
    show (if g.bx b = g.bx b then _ else _) = _
    rw [if_pos rfl]
  have hro2 : ∀ B, B ≠ g.bx b → (g.addRO (g.bx b) cs.length).ro B = g.ro B := fun B hB => by
    show (if B = g.bx b then _ else _) = _
    rw [if_neg hB]
  have e : GExt w g w (g.addRO (g.bx b) cs.length) := by
    refine ⟨Nat.le_refl _, fun B k hk => ⟨?_, rfl⟩, Nat.le_refl _, fun _ _ => ⟨rfl, rfl⟩, Nat.le_refl _, fun _ _ => ⟨Nat.le_refl _, fun _ => rfl⟩, Nat.le_refl _, fun _ _ => rfl, Nat.le_refl _, fun _ _ => rfl⟩
    by_cases hB : B = g.bx b
    · subst hB; omega
    · rw [hro2 B hB]; exact hk
  refine ⟨⟨hs.base_le, hs.bn, hs.tn, hs.ln, hs.mn, ?_, ?_, ?_, hs.tokinj, ?_, ?_, hs.loopinj, ?_, hs.mapinj⟩, ⟨e, rfl, rfl, rfl, fun _ _ _ => rfl, fun B hB hW => hro2 B fun heq => ?_, fun _ _ h => h⟩, ?_⟩
  · intro b2 cs2 hb2 hc2
    by_cases hbb : b2 = b
    · subst hbb; simp [H.kill] at hc2
    · have hc3 : h.bx b2 = some cs2 := by simpa [H.kill, hbb] using hc2
      obtain ⟨h1, h2, C2, T2, h3, h4, h5⟩ := hs.box b2 cs2 hb2 hc3
      have hne : g.bx b2 ≠ g.bx b := fun heq => hbb (hs.boxinj b2 b hb2 hb (by rw [hc3]; rfl) (by rw [hc]; rfl) heq)
      exact ⟨h1, (hro2 _ hne).trans h2, C2, T2, h3, h4.mono e, h5⟩
  · intro b1 b2 hb1 hb2 h1 h2 heq
    refine hs.boxinj b1 b2 hb1 hb2 ?_ ?_ heq
    · by_cases hbb : b1 = b
      · subst hbb; rw [hc]; rfl
      · simpa [H.kill, hbb] using h1
    · by_cases hbb : b2 = b
      · subst hbb; rw [hc]; rfl
      · simpa [H.kill, hbb] using h2
  · intro i hi
    obtain ⟨h1, h2, h3, h4, h5, C', T', h6, h7⟩ := hs.tok i hi
    have hne : (g.tk i).B ≠ g.bx b := fun heq => by rw [heq] at h5; omega
    exact ⟨h1, h2, h3, h4, (hro2 _ hne).trans h5, C', T', h6, h7⟩
  · intro B hB
    have : B ≠ g.bx b := fun heq => by
      have := heap_lt hC
      omega
    rw [hro2 B this]
    exact hs.roB B hB
  · intro l r hl hr
    obtain ⟨h1, L, h2, h3⟩ := hs.loop l r hl hr
    exact ⟨h1, L, h2, h3.mono e⟩
  · intro l r hl hr
    obtain ⟨h1, L, c, h2, h3⟩ := hs.map l r hl hr
    exact ⟨h1, L, c, h2, h3.mono e⟩
  · subst heq
    rcases hmine with h1 | h1
    · omega
    · exact hW h1
  · intro k v hk
    have hkl : k < cs.length := (List.getElem?_eq_some_iff.1 hk).1
    obtain ⟨V, h1, h2, h3⟩ := hrep.2 k v hk
    exact ⟨V, by rw [hro1]; exact hkl, by rw [cell_at hC]; exact h1, h2.mono e, h3⟩

end
end Go.Am

/- What an operation of the program does, held against what the abstract machine says: operands, loads, and the operations on plain values. -/
namespace Go.Am
open Go Go.RowKit
section
variable {P : Program} {base : Nat} {W : Nat → Prop} {w : World} {g : G} {h : H}

/-! ### Inversions -/
theorem Rep.int_inv {k : IntKind} {n : Int} {V : Value} (h : Rep w g (.int k n) V) : V = .int k n := by cases h; rfl
theorem Rep.bool_inv {b : Bool} {V : Value} (h : Rep w g (.bool b) V) : V = .bool b := by cases h; rfl
theorem Rep.skp_inv {V : Value} (h : Rep w g .skp V) : V = Go.undef := by cases h; rfl
theorem Rep.str_inv {s : ByteArray} {V : Value} (h : Rep w g (.str s) V) : V = .string s := by cases h; rfl
theorem Rep.agg_inv {cs : List AV} {V : Value} (h : Rep w g (.agg cs) V) : ∃ C, V = .agg C ∧ RepC w g cs C := by
  cases h with
  | agg cs C hC h1 h2 => exact ⟨C, rfl, ⟨hC, h1⟩, h2⟩
theorem Rep.tup_inv {cs : List AV} {V : Value} (h : Rep w g (.tup cs) V) : ∃ C, V = .tuple C ∧ RepA w g cs C := by
  cases h with
  | tup cs C hC h1 => exact ⟨C, rfl, hC, h1⟩
theorem Rep.ptr_inv {b o : Nat} {V : Value} (h : Rep w g (.ptr b o) V) : b < g.bn ∧ V = .pointer (some ⟨g.bx b, o, none⟩) := by
  cases h with
  | ptr b o hb => exact ⟨hb, rfl⟩
theorem Rep.rop_inv {cs : List AV} {V : Value} (h : Rep w g (.rop cs) V) : ∃ (a : Addr) (Vs : Nat → Value), V = .pointer (some a) ∧ (∀ k, k < cs.length → ROat w g (some a) k (Vs k)) ∧ (∀ k (hk : k < cs.length), Rep w g cs[k] (Vs k)) ∧ (∀ k (hk : k < cs.length), ok1 cs[k] = true) := by
  cases h with
  | rop cs a Vs h1 h2 h3 => exact ⟨a, Vs, rfl, h1, h2, h3⟩

theorem ok1_one {v : AV} {V : Value} (h : Rep w g v V) (hv : ok1 v = true) : V.oneCell' = true := by
  cases h <;> first | rfl | assumption | simp [ok1] at hv

theorem Rep.ofAgg {cs : List AV} {C : Array Value} (h : RepC w g cs C) : Rep w g (.agg cs) (.agg C) := .agg cs C h.1.1 h.1.2 h.2

/-! ### Constants, operands -/
theorem absL_rep {v : Value} {x : AV} (hv : absL v = some x) : Rep w g x v ∧ ok1 x = true := by
  unfold absL at hv
  split at hv <;> simp only [Option.some.injEq, reduceCtorEq] at hv <;> subst hv
  · exact ⟨.bool _, rfl⟩
  · exact ⟨.int _ _, rfl⟩
  · exact ⟨.str _, rfl⟩
  · exact ⟨.sl .full [] none 0 1 (fun _ => undef) (by simp) (by simp) (by simp) (by simp) (by simp) rfl, rfl⟩
  · exact ⟨.nilptr, rfl⟩
  · exact ⟨.nilfn, rfl⟩
  · exact ⟨.nilmap, rfl⟩
  · exact ⟨.niface, rfl⟩

theorem absAll_rep {vs : List Value} : ∀ {xs : List AV}, absAll vs = some xs → ∃ hl : xs.length = vs.length, ∀ k (hk : k < xs.length), Rep w g xs[k] vs[k] ∧ ok1 xs[k] = true := by
  induction vs with
  | nil =>
    intro xs h
    simp [absAll] at h
    subst h
    exact ⟨rfl, fun k hk => by simp at hk⟩
  | cons v vs ih =>
    intro xs h
    simp only [absAll, Option.bind_eq_some_iff, Option.map_eq_some_iff] at h
    obtain ⟨x, hx, xs', hxs', rfl⟩ := h
    obtain ⟨hl, hr⟩ := ih hxs'
    refine ⟨by simp [hl], fun k hk => ?_⟩
    cases k with
    | zero => simpa using absL_rep hx
    | succ k => simpa using hr k (by simpa using hk)

theorem absC_rep {v : Value} {x : AV} (hv : absC v = some x) : Rep w g x v := by
  unfold absC at hv
  split at hv
  · rename_i cs
    simp only [Option.map_eq_some_iff] at hv
    obtain ⟨xs, hxs, rfl⟩ := hv
    obtain ⟨hl, hr⟩ := absAll_rep (w := w) (g := g) hxs
    exact .agg xs cs (by simpa using hl) (fun k hk => by simpa using (hr k hk).1) (fun k hk => (hr k hk).2)
  · exact (absL_rep hv).1

theorem nil_eval {N : Nat} (a : Act) {x : Operand} (h : cOpd N x = some (.c (.sl .full []))) : a.eval x = .slice none 0 0 := by
  cases x with
  | tmp t => simp only [cOpd] at h; split at h <;> cases h
  | const v =>
    simp only [cOpd, Option.map_eq_some_iff] at h
    obtain ⟨y, hy, h⟩ := h
    cases h
    unfold absC at hy
    split at hy
    · simp only [Option.map_eq_some_iff] at hy
      obtain ⟨_, _, h⟩ := hy
      cases h
    · unfold absL at hy
      split at hy <;> first | (cases hy; done) | skip
      rfl
  | func f => cases h
  | global g => cases h

theorem ev_rep {N : Nat} {s : Slots} {a : Act} (hr : RepS w g s a.tmps) {x : Operand} {y : Opd} (hy : cOpd N x = some y) : Rep w g (ev s y) (a.eval x) := by
  cases x with
  | tmp t =>
    simp only [cOpd] at hy
    split at hy
    · cases hy; exact hr t
    · cases hy
  | const v =>
    simp only [cOpd, Option.map_eq_some_iff] at hy
    obtain ⟨z, hz, rfl⟩ := hy
    exact absC_rep hz
  | func f =>
    simp only [cOpd, Option.some.injEq] at hy
    subst hy
    exact .fn f [] [] #[] #[] rfl rfl (fun k hk => by simp at hk) (fun k hk => by simp at hk)
  | global g => simp [cOpd] at hy

theorem evs_rep {N : Nat} {s : Slots} {a : Act} (hr : RepS w g s a.tmps) {xs : List Operand} : ∀ {ys : List Opd}, cOpds N xs = some ys →
    ∃ hl : ys.length = xs.length, ∀ k (hk : k < ys.length), Rep w g (ev s ys[k]) (a.eval xs[k]) := by
  induction xs with
  | nil =>
    intro ys h
    simp [cOpds] at h
    subst h
    exact ⟨rfl, fun k hk => by simp at hk⟩
  | cons x xs ih =>
    intro ys h
    simp only [cOpds, Option.bind_eq_some_iff, Option.map_eq_some_iff] at h
    obtain ⟨y, hy, ys', hys', rfl⟩ := h
    obtain ⟨hl, hh⟩ := ih hys'
    refine ⟨by simp [hl], fun k hk => ?_⟩
    cases k with
    | zero => exact ev_rep hr hy
    | succ k => simpa using hh k (by simpa using hk)

theorem evs_repA {N : Nat} {s : Slots} {a : Act} (hr : RepS w g s a.tmps) {xs : Array Operand} {ys : List Opd} (hy : cOpds N xs.toList = some ys) :
    RepA w g (ys.map (ev s)) (xs.map a.eval) := by
  obtain ⟨hl, hh⟩ := evs_rep hr hy
  refine ⟨by simpa using hl, fun k hk => ?_⟩
  have hk' : k < ys.length := by simpa using hk
  have := hh k hk'
  simpa using this

/-! ### Types -/
theorem run_szT {t : TypeId} {n : Nat} (h : szT P t = some n) (w : World) : (sizeOf t).run P w = .ok n w := by
  simp only [szT, Option.map_eq_some_iff] at h
  obtain ⟨i, hi, rfl⟩ := h
  simp [sizeOf, typeInfo, hi]

theorem run_aggT {t : TypeId} {b : Bool} (h : aggT P t = some b) (w : World) : (isAgg t).run P w = .ok b w := by
  simp only [aggT, Option.map_eq_some_iff] at h
  obtain ⟨d, hd, rfl⟩ := h
  simp only [isAgg, Sem.run_bind, run_underlying hd, Result.andThen_ok]
  cases d <;> rfl

theorem run_zeroT {t : TypeId} {z : List AV} (h : zeroT P t = some z) : ∃ Z, (∀ w, (zeroValue t).run P w = .ok Z w) ∧ ∀ w g, RepC w g z Z.cells := by
  simp only [zeroT, Option.bind_eq_some_iff, Option.map_eq_some_iff] at h
  obtain ⟨Z, ⟨i, hi, hz⟩, x, hx, rfl⟩ := h
  refine ⟨Z, fun w => by simp [zeroValue, typeInfo, hi, hz], fun w g => ?_⟩
  unfold absC at hx
  split at hx
  · rename_i cs
    simp only [Option.map_eq_some_iff] at hx
    obtain ⟨xs, hxs, rfl⟩ := hx
    obtain ⟨hl, hr⟩ := absAll_rep (w := w) (g := g) hxs
    exact ⟨⟨by simpa [AV.cells, Value.cells] using hl, fun k hk => (hr k hk).1⟩, fun k hk => (hr k hk).2⟩
  · rename_i hne
    obtain ⟨h1, h2⟩ := absL_rep (w := w) (g := g) hx
    have e1 : x.cells = [x] := by cases x <;> first | rfl | simp [ok1] at h2
    have e2 : Z.cells = #[Z] := by cases Z <;> first | rfl | exact absurd rfl (hne _)
    rw [e1, e2]
    refine ⟨⟨rfl, fun k hk => ?_⟩, fun k hk => ?_⟩
    · have : k = 0 := by simp at hk; omega
      subst this; exact h1
    · have : k = 0 := by simp at hk; omega
      subst this; exact h2

/-! ### Cells in and out -/
theorem cells_one {V : Value} (h : V.oneCell' = true) : V.cells = #[V] := by
  cases V <;> first | rfl | simp [Value.oneCell'] at h

theorem fit_rep {n : Nat} {v : AV} {cs : List AV} {V : Value} (hf : fit n v = some cs) (hr : Rep w g v V) : RepC w g cs V.cells ∧ cs.length = n := by
  unfold fit at hf
  split at hf
  · rename_i cs'
    split at hf
    · rename_i hn
      cases hf
      obtain ⟨C, rfl, hC⟩ := hr.agg_inv
      exact ⟨hC, hn⟩
    · cases hf
  · cases hf
  · cases hf
  · cases hf
  · rename_i hna hnu hnt hns
    split at hf
    · rename_i hn
      cases hf
      have e2 : V.cells = #[V] := by
        cases hr <;> first | rfl | exact absurd rfl (hna _) | exact absurd rfl hnu | exact absurd rfl hns | exact cells_one (by assumption)
      have hok : ok1 v = true := by
        cases v <;> first | rfl | exact absurd rfl (hna _) | exact absurd rfl (hnt _) | exact absurd rfl hnu | exact absurd rfl hns
      rw [e2]
      refine ⟨⟨⟨rfl, fun k hk => ?_⟩, fun k hk => ?_⟩, by simp [hn]⟩
      · have : k = 0 := by simp at hk; omega
        subst this; exact hr
      · have : k = 0 := by simp at hk; omega
        subst this; exact hok
    · cases hf

theorem RepC.get {cs : List AV} {C : Array Value} (h : RepC w g cs C) {k : Nat} {v : AV} (hk : cs[k]? = some v) : ∃ V, C[k]? = some V ∧ Rep w g v V ∧ ok1 v = true := by
  obtain ⟨hlt, rfl⟩ := List.getElem?_eq_some_iff.1 hk
  obtain ⟨⟨hl, hr⟩, hok⟩ := h
  exact ⟨C[k], Array.getElem?_eq_getElem (by omega), hr k hlt, hok k hlt⟩

theorem RepC.toP {cs : List AV} {C : Array Value} (h : RepC w g cs C) : RepP w g cs C := ⟨by have := h.1.1; omega, fun _ _ hk => h.get hk⟩

theorem RepC.mk {cs : List AV} {C : Array Value} (hl : cs.length = C.size) (h : ∀ (k : Nat) (v : AV), cs[k]? = some v → ∃ V : Value, C[k]? = some V ∧ Rep w g v V ∧ ok1 v = true) : RepC w g cs C := by
  refine ⟨⟨hl, fun k hk => ?_⟩, fun k hk => ?_⟩
  · obtain ⟨V, h1, h2, _⟩ := h k cs[k] (List.getElem?_eq_getElem hk)
    have : C[k] = V := by
      have := Array.getElem?_eq_some_iff.1 h1
      exact this.2
    rw [this]; exact h2
  · exact (h k cs[k] (List.getElem?_eq_getElem hk)).choose_spec.2.2

theorem RepC.allOne {cs : List AV} {C : Array Value} (h : RepC w g cs C) : ∀ v ∈ C.toList, v.oneCell' = true := by
  intro v hv
  obtain ⟨k, hk, rfl⟩ := List.getElem_of_mem hv
  obtain ⟨⟨hl, hr⟩, hok⟩ := h
  have hk' : k < cs.length := by simp at hk; omega
  have := ok1_one (hr k hk') (hok k hk')
  simpa using this

theorem run_loadVarA {t : TypeId} {n : Nat} {ag : Bool} (hn : szT P t = some n) (hg : aggT P t = some ag) {B o : Nat} {cs : List AV} {v : AV}
    (hu : unCells ag cs = some v) (hl : cs.length = n) (hc : ∀ k x, cs[k]? = some x → ∃ V, w.cell? ⟨B, o + k, none⟩ = some V ∧ Rep w g x V ∧ ok1 x = true) :
    ∃ V, (loadVar t ⟨B, o, none⟩).run P w = .ok V w ∧ Rep w g v V := by
  cases ag with
  | true =>
    simp only [unCells, if_true, Option.some.injEq] at hu
    subst hu
    let f : Nat → Value := fun j => (w.cell? ⟨B, o + j, none⟩).getD undef
    have hf : ∀ j, j < n → w.cell? ((⟨B, o, none⟩ : Addr).add j) = some (f j) := fun j hj => by
      obtain ⟨V, h1, _⟩ := hc j cs[j] (List.getElem?_eq_getElem (by omega))
      rw [Addr.add_lit]
      simp [f, h1]
    refine ⟨.agg ((List.range n).map f).toArray, ?_, ?_⟩
    · simp only [loadVar, Sem.run_bind, run_aggT hg, Result.andThen_ok, if_true, run_szT hn, run_loadCells w _ n f hf]
      rfl
    · refine Rep.ofAgg (RepC.mk (by simp [hl]) fun k x hk => ?_)
      obtain ⟨V, h1, h2, h3⟩ := hc k x hk
      have hkl : k < n := by
        have := (List.getElem?_eq_some_iff.1 hk).1
        omega
      exact ⟨V, by simp [hkl, f, h1], h2, h3⟩
  | false =>
    simp only [unCells, Bool.false_eq_true, if_false] at hu
    split at hu
    · rename_i x
      cases hu
      obtain ⟨V, h1, h2, _⟩ := hc 0 v rfl
      refine ⟨V, ?_, h2⟩
      simp only [Nat.add_zero] at h1
      simp only [loadVar, Sem.run_bind, run_aggT hg, Result.andThen_ok, Bool.false_eq_true, if_false, run_load, h1]
    · cases hu

/-- A part of a struct's or an array's value. -/
theorem run_partA {t : TypeId} {n : Nat} {ag : Bool} (hn : szT P t = some n) (hg : aggT P t = some ag) {C : Array Value} {cs : List AV} {off : Nat} {v : AV}
    (hr : RepC w g cs C) (hoff : off + n ≤ cs.length) (hu : unCells ag ((cs.drop off).take n) = some v) : ∃ V, (part t C off).run P w = .ok V w ∧ Rep w g v V := by
  cases ag with
  | true =>
    simp only [unCells, if_true, Option.some.injEq] at hu
    subst hu
    refine ⟨.agg (C.extract off (off + n)), ?_, ?_⟩
    · simp only [part, Sem.run_bind, run_aggT hg, Result.andThen_ok, if_true, run_szT hn, Sem.run_pure]
    · have hl := hr.1.1
      refine Rep.ofAgg (RepC.mk (by simp; omega) fun k x hk => ?_)
      rw [List.getElem?_take] at hk
      split at hk
      · rename_i hkn
        rw [List.getElem?_drop] at hk
        obtain ⟨V, h1, h2⟩ := hr.get hk
        refine ⟨V, ?_, h2⟩
        have hlt : off + k < C.size := by omega
        simp only [Array.getElem?_extract]
        rw [if_pos (by omega)]
        exact h1
      · cases hk
  | false =>
    simp only [unCells, Bool.false_eq_true, if_false] at hu
    split at hu
    · rename_i x hx
      cases hu
      have hk : cs[off]? = some v := by
        have : ((cs.drop off).take n)[0]? = some v := by rw [hx]; rfl
        rw [List.getElem?_take] at this
        split at this
        · simpa using this
        · cases this
      obtain ⟨V, h1, h2, _⟩ := hr.get hk
      refine ⟨V, ?_, h2⟩
      simp only [part, Sem.run_bind, run_aggT hg, Result.andThen_ok, Bool.false_eq_true, if_false, h1]
      rfl
    · cases hu

end
end Go.Am

/- The operations on plain values: arithmetic, comparisons, equality of structs. -/
namespace Go.Am
open Go Go.RowKit
section
variable {P : Program} {w : World} {g : G}

theorem bytes_beq (a b : ByteArray) : (a.toList == b.toList) = decide (a = b) := by
  rw [ByteArray.toList_eq, ByteArray.toList_eq, Bool.eq_iff_iff]
  simp only [beq_iff_eq, decide_eq_true_eq]
  constructor
  · intro h
    obtain ⟨⟨x⟩⟩ := a
    obtain ⟨⟨y⟩⟩ := b
    simpa using h
  · rintro rfl; rfl

theorem run_intBin {op : BinOp} {k : IntKind} {a b : Int} {v : AV} (hv : intBin op k a b = some v) (t : TypeId) (w : World) (g : G) :
    ∃ V, (binOp op t (.int k a) (.int k b)).run P w = .ok V w ∧ Rep w g v V := by
  cases op <;> simp only [intBin, reduceCtorEq, Option.some.injEq] at hv
  case add => subst hv; exact ⟨_, by simp [binOp, Op.intArith], .int _ _⟩
  case sub => subst hv; exact ⟨_, by simp [binOp, Op.intArith], .int _ _⟩
  case mul => subst hv; exact ⟨_, by simp [binOp, Op.intArith], .int _ _⟩
  case quo =>
    split at hv
    · cases hv
    · rename_i hb; cases hv; exact ⟨_, by simp [binOp, Op.intDiv, hb], .int _ _⟩
  case rem =>
    split at hv
    · cases hv
    · rename_i hb; cases hv; exact ⟨_, by simp [binOp, Op.intDiv, hb], .int _ _⟩
  case and => subst hv; exact ⟨_, by simp [binOp, Op.intBits], .int _ _⟩
  case or => subst hv; exact ⟨_, by simp [binOp, Op.intBits], .int _ _⟩
  case xor => subst hv; exact ⟨_, by simp [binOp, Op.intBits], .int _ _⟩
  case andNot => subst hv; exact ⟨_, by simp [binOp, Op.intBits], .int _ _⟩
  case eql => subst hv; exact ⟨.bool (a == b), by simp [binOp, Op.intCmp], by rw [show (a == b) = decide (a = b) from rfl]; exact .bool _⟩
  case neq => subst hv; exact ⟨.bool (a != b), by simp [binOp, Op.intCmp], by rw [show (a != b) = !decide (a = b) from rfl]; exact .bool _⟩
  case lss => subst hv; exact ⟨_, by simp [binOp, Op.intCmp], .bool _⟩
  case leq => subst hv; exact ⟨_, by simp [binOp, Op.intCmp], .bool _⟩
  case gtr => subst hv; exact ⟨_, by simp [binOp, Op.intCmp], .bool _⟩
  case geq => subst hv; exact ⟨_, by simp [binOp, Op.intCmp], .bool _⟩

theorem run_binA {op : BinOp} {x y v : AV} {X Y : Value} (hv : binA op x y = some v) (hx : Rep w g x X) (hy : Rep w g y Y) (t : TypeId) (p q : Operand) :
    ∃ V, (do eqGuard op t p q X Y; binOp op t X Y : Sem Value).run P w = .ok V w ∧ Rep w g v V := by
  have hg : ∀ {k k' : IntKind} {a b : Int}, (eqGuard op t p q (.int k a) (.int k' b)).run P w = .ok () w := fun {k k' a b} => by
    cases op <;> simp [eqGuard]
  have hgs : ∀ {a b : ByteArray}, (eqGuard op t p q (.string a) (.string b)).run P w = .ok () w := fun {a b} => by
    cases op <;> simp [eqGuard]
  unfold binA at hv
  split at hv
  · rename_i k a k' b
    split at hv
    · cases hv
    · rename_i hb
      cases hv
      obtain rfl := hx.int_inv
      obtain rfl := hy.int_inv
      exact ⟨_, by simp [hg, binOp, Op.shift, hb, shAmt], .int _ _⟩
  · rename_i k a k' b
    split at hv
    · cases hv
    · rename_i hb
      cases hv
      obtain rfl := hx.int_inv
      obtain rfl := hy.int_inv
      exact ⟨_, by simp [hg, binOp, Op.shift, hb, shAmt], .int _ _⟩
  · rename_i k a k' b _ _
    split at hv
    · rename_i hk
      subst hk
      obtain rfl := hx.int_inv
      obtain rfl := hy.int_inv
      obtain ⟨V, h1, h2⟩ := run_intBin (P := P) hv t w g
      exact ⟨V, by simp [hg, h1], h2⟩
    · cases hv
  · cases hv
    obtain rfl := hx.str_inv
    obtain rfl := hy.str_inv
    exact ⟨_, by simp only [Sem.run_bind, hgs, Result.andThen_ok, binOp_string_eql, bytes_beq]; rfl, .bool _⟩
  · cases hv
    obtain rfl := hx.str_inv
    obtain rfl := hy.str_inv
    exact ⟨_, by simp only [Sem.run_bind, hgs, Result.andThen_ok, binOp_string_neq, bytes_beq]; rfl, .bool _⟩
  · rename_i a b
    split at hv
    · rename_i hsz
      cases hv
      obtain rfl := hx.str_inv
      obtain rfl := hy.str_inv
      refine ⟨_, ?_, .str _⟩
      have : ¬ ((a.size + b.size : Nat) : Int) > IntKind.i64.max := by
        have : IntKind.i64.max = 9223372036854775807 := by decide
        rw [this]; omega
      simp only [Sem.run_bind, hgs, Result.andThen_ok, binOp_string_add, Op.stringOp, if_neg this]
      rfl
    · cases hv
  · cases hv

theorem run_unA {op : UnOp} {x v : AV} {X : Value} (hv : unA op x = some v) (hx : Rep w g x X) : ∃ V, (Op.unary op X).run P w = .ok V w ∧ Rep w g v V := by
  unfold unA at hv
  split at hv
  · cases hv
    obtain rfl := hx.int_inv
    exact ⟨_, by simp [Op.unary, Op.intArith], .int _ _⟩
  · cases hv
    obtain rfl := hx.bool_inv
    exact ⟨_, by simp [Op.unary], .bool _⟩
  · cases hv

/-! ### Equality of what has plain cells -/
theorem cellsEq_len : ∀ {ks : List LK} {xs ys : List AV} {b : Bool}, cellsEq ks xs ys = some b → xs.length = ks.length ∧ ys.length = ks.length
  | [], [], [], _, _ => ⟨rfl, rfl⟩
  | k :: ks, x :: xs, y :: ys, b, h => by
    simp only [cellsEq, Option.bind_eq_some_iff, Option.map_eq_some_iff] at h
    obtain ⟨c, _, d, hd, _⟩ := h
    have := cellsEq_len hd
    simp [this.1, this.2]
  | [], [], _ :: _, _, h => by simp [cellsEq] at h
  | [], _ :: _, [], _, h => by simp [cellsEq] at h
  | [], _ :: _, _ :: _, _, h => by simp [cellsEq] at h
  | _ :: _, [], _, _, h => by simp [cellsEq] at h
  | _ :: _, _ :: _, [], _, h => by simp [cellsEq] at h

theorem cellsEq_app : ∀ {ks ks' : List LK} {xs ys : List AV} {b : Bool}, cellsEq (ks ++ ks') xs ys = some b →
    ∃ b1 b2, cellsEq ks (xs.take ks.length) (ys.take ks.length) = some b1 ∧ cellsEq ks' (xs.drop ks.length) (ys.drop ks.length) = some b2 ∧ b = (b1 && b2)
  | [], ks', xs, ys, b, h => ⟨true, b, by simp [cellsEq], by simpa using h, by simp⟩
  | k :: ks, ks', [], ys, b, h => by simp [cellsEq] at h
  | k :: ks, ks', x :: xs, [], b, h => by simp [cellsEq] at h
  | k :: ks, ks', x :: xs, y :: ys, b, h => by
    simp only [List.cons_append, cellsEq, Option.bind_eq_some_iff, Option.map_eq_some_iff] at h
    obtain ⟨c, hc, d, hd, rfl⟩ := h
    obtain ⟨b1, b2, h1, h2, rfl⟩ := cellsEq_app hd
    exact ⟨c && b1, b2, by simp [cellsEq, hc, h1], by simpa using h2, by rw [Bool.and_assoc]⟩

theorem flat_agg {d : Nat} {t : TypeId} {ks : List LK} (h : flat P d t = some ks) : ∃ ag, aggT P t = some ag ∧ (ag = true ∨ ∃ k u, P.underlying t = some u ∧ plainD u = some k ∧ ks = [k]) := by
  cases d with
  | zero => simp [flat] at h
  | succ d =>
    simp only [flat] at h
    split at h
    · rename_i fs hu; exact ⟨true, by simp [aggT, hu, isAggD], .inl rfl⟩
    · rename_i m e hu; exact ⟨true, by simp [aggT, hu, isAggD], .inl rfl⟩
    · rename_i u h1 h2 hu
      simp only [Option.map_eq_some_iff] at h
      obtain ⟨k, hk, rfl⟩ := h
      refine ⟨false, ?_, .inr ⟨k, u, hu, hk, rfl⟩⟩
      rw [aggT, hu]
      cases u <;> first | rfl | simp [plainD] at hk
    · cases h

theorem run_eq_part {d : Nat} {t : TypeId} {ks : List LK} (hf : flat P d t = some ks) (hsz : szT P t = some ks.length) {ag : Bool} (hag : aggT P t = some ag) {xs ys : List AV} {X Y : Array Value} {off : Nat}
    (hX : RepC w g xs X) (hY : RepC w g ys Y) (hoff : off + ks.length ≤ xs.length) (hoff' : off + ks.length ≤ ys.length) {b : Bool} (hb : cellsEq ks ((xs.drop off).take ks.length) ((ys.drop off).take ks.length) = some b) :
    ∃ v1 V1 v2 V2, (part t X off).run P w = .ok V1 w ∧ (part t Y off).run P w = .ok V2 w ∧ Rep w g v1 V1 ∧ Rep w g v2 V2 ∧ eqA ks ag v1 v2 = some b := by
  obtain ⟨ag', hag', hor⟩ := flat_agg hf
  have : ag = ag' := by rw [hag] at hag'; exact Option.some.inj hag'
  subst this
  obtain ⟨hl1, hl2⟩ := cellsEq_len hb
  cases ag with
  | true =>
    obtain ⟨V1, p1, r1⟩ := run_partA (P := P) hsz hag hX hoff (v := .agg ((xs.drop off).take ks.length)) rfl
    obtain ⟨V2, p2, r2⟩ := run_partA (P := P) hsz hag hY hoff' (v := .agg ((ys.drop off).take ks.length)) rfl
    exact ⟨_, V1, _, V2, p1, p2, r1, r2, by simp only [eqA, if_true, hb]⟩
  | false =>
    rcases hor with h | ⟨k, u, hu, hk, rfl⟩
    · cases h
    · generalize hxs : (xs.drop off).take [k].length = l1 at hl1 hb
      generalize hys : (ys.drop off).take [k].length = l2 at hl2 hb
      match l1, l2, hl1, hl2 with
      | [a], [c], _, _ =>
        obtain ⟨V1, p1, r1⟩ := run_partA (P := P) hsz hag hX hoff (v := a) (by rw [hxs]; rfl)
        obtain ⟨V2, p2, r2⟩ := run_partA (P := P) hsz hag hY hoff' (v := c) (by rw [hys]; rfl)
        refine ⟨_, V1, _, V2, p1, p2, r1, r2, ?_⟩
        simp only [cellsEq, Option.map_some, Option.bind_eq_some_iff, Bool.and_true] at hb
        obtain ⟨q, hq, hq'⟩ := hb
        cases hq'
        simpa [eqA] using hq

abbrev EqIH (P : Program) (w : World) (g : G) (D d : Nat) : Prop := ∀ (t : TypeId) (ks : List LK) (ag : Bool), flat P d t = some ks → aggT P t = some ag → ∀ {x y : AV} {X Y : Value} {b : Bool}, Rep w g x X → Rep w g y Y → eqA ks ag x y = some b → (Op.equalIn D t X Y).run P w = .ok b w

theorem run_eqFields {D d : Nat} (IH : EqIH P w g D d) {xs ys : List AV} {X Y : Array Value} (hX : RepC w g xs X) (hY : RepC w g ys Y) :
    ∀ (fs : List Field) (off : Nat) (ks : List LK) (b : Bool), flatF P (flat P d) fs off = some ks → cellsEq ks (xs.drop off) (ys.drop off) = some b → off ≤ xs.length → off ≤ ys.length → (Op.eqFields D X Y fs).run P w = .ok b w
  | [], off, ks, b, hf, hb, _, _ => by
    simp only [flatF, Option.some.injEq] at hf
    subst hf
    obtain ⟨h1, h2⟩ := cellsEq_len hb
    have e1 : xs.drop off = [] := List.eq_nil_of_length_eq_zero h1
    have e2 : ys.drop off = [] := List.eq_nil_of_length_eq_zero h2
    simp [e1, e2, cellsEq] at hb
    subst hb
    simp [Op.eqFields]
  | f :: fs, off, ks, b, hf, hb, ho1, ho2 => by
    simp only [flatF] at hf
    split at hf
    · rename_i hfn
      obtain ⟨hname, hfo⟩ := hfn
      simp only [Option.bind_eq_some_iff] at hf
      obtain ⟨c, hc, hf⟩ := hf
      split at hf
      · rename_i hsz
        simp only [Option.map_eq_some_iff] at hf
        obtain ⟨r, hf, rfl⟩ := hf
        obtain ⟨hl1, hl2⟩ := cellsEq_len hb
        simp only [List.length_drop, List.length_append] at hl1 hl2
        obtain ⟨ag, hag, _⟩ := flat_agg hc
        obtain ⟨b1, b2, e1, e2, rfl⟩ := cellsEq_app hb
        obtain ⟨v1, V1, v2, V2, p1, p2, r1, r2, he⟩ := run_eq_part hc hsz hag hX hY (off := off) (by omega) (by omega) e1
        have h1 := IH f.type c ag hc hag r1 r2 he
        rw [← hfo] at p1 p2
        simp only [List.drop_drop] at e2
        have h2 := run_eqFields IH hX hY fs (off + c.length) r b2 hf e2 (by omega) (by omega)
        simp only [Op.eqFields, if_pos hname, Sem.run_bind, p1, p2, h1, Result.andThen_ok]
        cases b1
        · simp
        · simpa using h2
      · cases hf
    · cases hf

theorem run_eqItemsA {D d : Nat} (IH : EqIH P w g D d) {e : TypeId} {c : List LK} (hc : flat P d e = some c) (hsz : szT P e = some c.length) {xs ys : List AV} {X Y : Array Value} (hX : RepC w g xs X) (hY : RepC w g ys Y) :
    ∀ (m i : Nat) (b : Bool), cellsEq (rep m c) (xs.drop (i * c.length)) (ys.drop (i * c.length)) = some b → i * c.length ≤ xs.length → i * c.length ≤ ys.length → (Op.eqItems D e c.length X Y (List.range' i m)).run P w = .ok b w
  | 0, i, b, hb, _, _ => by
    obtain ⟨h1, h2⟩ := cellsEq_len hb
    have e1 : xs.drop (i * c.length) = [] := List.eq_nil_of_length_eq_zero h1
    have e2 : ys.drop (i * c.length) = [] := List.eq_nil_of_length_eq_zero h2
    simp [e1, e2, rep, cellsEq] at hb
    subst hb
    simp [Op.eqItems]
  | m + 1, i, b, hb, ho1, ho2 => by
    obtain ⟨hl1, hl2⟩ := cellsEq_len hb
    simp only [rep, List.length_drop, List.length_append] at hl1 hl2
    obtain ⟨ag, hag, _⟩ := flat_agg hc
    obtain ⟨b1, b2, e1, e2, rfl⟩ := cellsEq_app hb
    obtain ⟨v1, V1, v2, V2, p1, p2, r1, r2, he⟩ := run_eq_part hc hsz hag hX hY (off := i * c.length) (by omega) (by omega) e1
    have h1 := IH e c ag hc hag r1 r2 he
    simp only [List.drop_drop] at e2
    have hi : i * c.length + c.length = (i + 1) * c.length := by rw [Nat.add_mul]; omega
    rw [hi] at e2
    have h2 := run_eqItemsA IH hc hsz hX hY m (i + 1) b2 e2 (by omega) (by omega)
    simp only [List.range'_succ, Op.eqItems, Sem.run_bind, p1, p2, h1, Result.andThen_ok]
    cases b1
    · simp
    · simpa using h2

theorem cellEq_run {D : Nat} {t : TypeId} {u : TypeDesc} {k : LK} (hu : P.underlying t = some u) (hp : plainD u = some k) {x y : AV} {X Y : Value} {b : Bool} (hx : Rep w g x X) (hy : Rep w g y Y) (h : cellEq k x y = some b) :
    (Op.equalIn (D + 1) t X Y).run P w = .ok b w := by
  unfold cellEq at h
  split at h
  · rename_i q a q' c
    split at h
    · rename_i hkk
      subst hkk
      cases h
      obtain rfl := hx.int_inv
      obtain rfl := hy.int_inv
      obtain ⟨k', rfl⟩ : ∃ k', u = .int k' := by cases u <;> simp [plainD] at hp; exact ⟨_, rfl⟩
      rw [run_equalIn_int w D t q k' a c hu]; rfl
    · cases h
  · rename_i a c
    cases h
    obtain rfl := hx.bool_inv
    obtain rfl := hy.bool_inv
    obtain rfl : u = .bool := by cases u <;> simp [plainD] at hp; rfl
    rw [run_equalIn_bool' w D t a c hu]; rfl
  · rename_i a c
    cases h
    obtain rfl := hx.str_inv
    obtain rfl := hy.str_inv
    obtain rfl : u = .string := by cases u <;> simp [plainD] at hp; rfl
    rw [run_equalIn_string w D t a c hu, bytes_beq]
  · cases h

theorem run_flatEq : ∀ (d j : Nat), EqIH P w g (d + j) d
  | 0, _, _, _, _, h, _, _, _, _, _, _, _, _, _ => by simp [flat] at h
  | d + 1, j, t, ks, ag, h, hag, x, y, X, Y, b, hx, hy, hb => by
    have IH := run_flatEq d j
    have hd : d + 1 + j = (d + j) + 1 := by omega
    rw [hd]
    simp only [flat] at h
    split at h
    · rename_i fs hu
      split at h
      · cases h
      · rename_i hst
        have hst' : P.stoodInHeld t = false := by simpa using hst
        have hu' : P.underlying t = some (.struct (P.fieldsOf t)) := by simp [Program.fieldsOf, hu]
        have hfo : P.fieldsOf t = fs := by simp [Program.fieldsOf, hu]
        have : ag = true := by simpa [aggT, hu, isAggD] using hag.symm
        subst this
        simp only [eqA, if_true] at hb
        split at hb
        · rename_i xs ys
          obtain ⟨C, rfl, hC⟩ := hx.agg_inv
          obtain ⟨C', rfl, hC'⟩ := hy.agg_inv
          rw [run_equalIn_struct w (d + j) t C C' hu' hst', hfo]
          exact run_eqFields IH hC hC' fs.toList 0 ks b h (by simpa using hb) (Nat.zero_le _) (Nat.zero_le _)
        · cases hb
    · rename_i m e hu
      simp only [Option.bind_eq_some_iff] at h
      obtain ⟨c, hc, h⟩ := h
      split at h
      · rename_i hsz
        cases h
        have : ag = true := by simpa [aggT, hu, isAggD] using hag.symm
        subst this
        simp only [eqA, if_true] at hb
        split at hb
        · rename_i xs ys
          obtain ⟨C, rfl, hC⟩ := hx.agg_inv
          obtain ⟨C', rfl, hC'⟩ := hy.agg_inv
          obtain ⟨i, hi, hic⟩ := Option.map_eq_some_iff.1 hsz
          have hcell : P.cellsOf e = c.length := by simp [Program.cellsOf, hi, hic]
          rw [run_equalIn_array w (d + j) C C' hu hi, hcell, List.range_eq_range']
          exact run_eqItemsA IH hc hsz hC hC' m 0 b (by simpa using hb) (by simp) (by simp)
        · cases hb
      · cases h
    · rename_i u h1 h2 hu
      simp only [Option.map_eq_some_iff] at h
      obtain ⟨k, hk, rfl⟩ := h
      have : ag = false := by
        rw [aggT, hu] at hag
        cases u <;> first | (simpa [isAggD] using hag.symm) | simp [plainD] at hk
      subst this
      simp only [eqA, Bool.false_eq_true, if_false] at hb
      exact cellEq_run hu hk hx hy hb
    · cases h

/-- '==' and '!='. -/
theorem run_eqA {t : TypeId} {ks : List LK} {ag neg : Bool} (hf : flat P 60 t = some ks) (hag : aggT P t = some ag) (hgd : P.eqGuardType P.depth t = false) {x y : AV} {X Y : Value} {b : Bool} (hx : Rep w g x X) (hy : Rep w g y Y)
    (hb : eqA ks ag x y = some b) (hnb : ∀ u, P.underlying t = some u → (∃ fs, u = .struct fs) ∨ (∃ n e, u = .array n e) ∨ u = .bool) (p q : Operand) :
    ∃ V, (do eqGuard (if neg then .neq else .eql) t p q X Y; binOp (if neg then .neq else .eql) t X Y : Sem Value).run P w = .ok V w ∧ Rep w g (.bool (if neg then !b else b)) V := by
  have hE := run_flatEq (P := P) (w := w) (g := g) 60 9940 t ks ag hf hag hx hy hb
  refine ⟨.bool (if neg then !b else b), ?_, .bool _⟩
  cases ag with
  | true =>
    simp only [eqA, if_true] at hb
    split at hb
    · rename_i xs ys
      obtain ⟨C, rfl, hC⟩ := hx.agg_inv
      obtain ⟨C', rfl, hC'⟩ := hy.agg_inv
      cases neg
      · simp only [Bool.false_eq_true, if_false, Sem.run_bind, run_eqGuard_agg w .eql t p q C C' hgd, Result.andThen_ok, run_eql_struct, hE]
      · simp only [if_true, Sem.run_bind, run_eqGuard_agg w .neq t p q C C' hgd, Result.andThen_ok, run_neq_struct, hE]
    · cases hb
  | false =>
    obtain ⟨ag', hag', hor⟩ := flat_agg hf
    rw [hag] at hag'
    cases hag'
    rcases hor with h | ⟨k, u, hu, hk, rfl⟩
    · cases h
    · have hub : u = .bool := by
        rcases hnb u hu with ⟨fs, rfl⟩ | ⟨n, e, rfl⟩ | rfl
        · simp [plainD] at hk
        · simp [plainD] at hk
        · rfl
      subst hub
      simp only [plainD, Option.some.injEq] at hk
      subst hk
      simp only [eqA, Bool.false_eq_true, if_false] at hb
      unfold cellEq at hb
      split at hb
      · rename_i h; cases h
      · rename_i a c _
        obtain rfl := hx.bool_inv
        obtain rfl := hy.bool_inv
        have hE' : (Op.equal t (.bool a) (.bool c)).run P w = .ok b w := hE
        cases neg <;> simp [eqGuard, binOp, hE']
      · rename_i h; cases h
      · cases hb

/-- '== nil' and '!= nil' on a slice. -/
theorem run_isnil {t e : TypeId} {neg : Bool} (hu : P.underlying t = some (.slice e)) {X : Value} {v : AV} {h : H} {s : Opd → AV} {o : Opd} (hx : Rep w g (s o) X) (hv : pv (.isnil neg o) s h = some v) (p q : Operand) :
    ∃ V, (do eqGuard (if neg then .neq else .eql) t p q X (.slice none 0 0); binOp (if neg then .neq else .eql) t X (.slice none 0 0) : Sem Value).run P w = .ok V w ∧ Rep w g v V := by
  have hE : ∀ (A : Option Addr) (n c : Nat), (Op.equal t (.slice A n c) (.slice none 0 0)).run P w = .ok A.isNone w := fun A n c => by
    show (Op.equalIn (9999 + 1) t (.slice A n c) (.slice none 0 0)).run P w = _
    unfold Op.equalIn
    cases A <;> simp [run_underlying hu]
  have hg : ∀ (op : BinOp) (A : Option Addr) (n c : Nat), (eqGuard op t p q (.slice A n c) (.slice none 0 0)).run P w = .ok () w := fun op A n c => by
    cases op <;> simp [eqGuard]
  have hrun : ∀ (A : Option Addr) (n c : Nat), (do eqGuard (if neg then .neq else .eql) t p q (.slice A n c) (.slice none 0 0); binOp (if neg then .neq else .eql) t (.slice A n c) (.slice none 0 0) : Sem Value).run P w = .ok (.bool (if neg then !A.isNone else A.isNone)) w := fun A n c => by
    cases neg
    · simp only [Bool.false_eq_true, if_false, Sem.run_bind, hg, Result.andThen_ok]
      simp [binOp, hE]
    · simp only [if_true, Sem.run_bind, hg, Result.andThen_ok]
      simp [binOp, hE]
  simp only [pv] at hv
  split at hv
  · rename_i tk hso
    cases hv
    rw [hso] at hx
    cases hx with
    | sl t es A cap z Vs h1 h2 h3 h4 h5 h6 => exact ⟨_, hrun A _ cap, .ubool _⟩
  · rename_i tk e0 es0 hso
    cases hv
    rw [hso] at hx
    cases hx with
    | sl t es A cap z Vs h1 h2 h3 h4 h5 h6 =>
      refine ⟨_, hrun A _ cap, ?_⟩
      have h0 : 0 < (e0 :: es0).flatten.length := by
        have := h1.2 e0 (List.mem_cons_self ..)
        simp only [List.flatten_cons, List.length_append]; omega
      obtain ⟨B, oo, hA, _⟩ := h3 0 h0
      subst hA
      cases neg <;> exact .bool _
  · cases hv

end
end Go.Am

/- The operations that build, read parts, cut, count. -/
namespace Go.Am
open Go Go.RowKit
section
variable {P : Program} {base : Nat} {W : Nat → Prop} {w : World} {g : G} {h : H}

/-! ### Filling a struct's or an array's cells -/
theorem foldl_set_get (off : Nat) : ∀ (l : List Value) (i : Nat) (Z : Array Value) (k : Nat), off + i + l.length ≤ Z.size →
    ((l.zipIdx i).foldl (fun (cs : Array Value) (p : Value × Nat) => cs.setIfInBounds (off + p.2) p.1) Z)[k]? = if off + i ≤ k ∧ k < off + i + l.length then l[k - (off + i)]? else Z[k]?
  | [], i, Z, k, _ => by
    simp only [List.zipIdx_nil, List.foldl_nil, List.length_nil]
    rw [if_neg (by omega)]
  | v :: l, i, Z, k, hl => by
    simp only [List.length_cons] at hl
    simp only [List.zipIdx_cons, List.foldl_cons]
    rw [foldl_set_get off l (i + 1) _ k (by simp; omega)]
    simp only [List.length_cons, Array.getElem?_setIfInBounds]
    by_cases h1 : k = off + i
    · subst h1
      rw [if_neg (by omega), if_pos rfl, if_pos (by omega), if_pos (by omega)]
      simp
    · by_cases h2 : off + i ≤ k ∧ k < off + i + (l.length + 1)
      · rw [if_pos (by omega), if_pos h2]
        have : k - (off + i) = (k - (off + (i + 1))) + 1 := by omega
        rw [this, List.getElem?_cons_succ]
      · rw [if_neg (by omega), if_neg (by omega), if_neg h2]

theorem foldl_set_size (off : Nat) : ∀ (l : List Value) (i : Nat) (Z : Array Value), ((l.zipIdx i).foldl (fun (cs : Array Value) (p : Value × Nat) => cs.setIfInBounds (off + p.2) p.1) Z).size = Z.size
  | [], i, Z => rfl
  | v :: l, i, Z => by
    simp only [List.zipIdx_cons, List.foldl_cons]
    rw [foldl_set_size off l (i + 1)]
    simp

theorem splice_get {α : Type} (z cs : List α) (off n : Nat) (hn : cs.length = n) (hoff : off + n ≤ z.length) (k : Nat) :
    (z.take off ++ cs ++ z.drop (off + n))[k]? = if off ≤ k ∧ k < off + n then cs[k - off]? else z[k]? := by
  simp only [List.append_assoc, List.getElem?_append, List.length_take, List.getElem?_take, List.getElem?_drop]
  rw [Nat.min_eq_left (by omega)]
  by_cases h1 : k < off
  · rw [if_pos h1, if_pos h1, if_neg (by omega)]
  · rw [if_neg h1]
    by_cases h2 : k < off + n
    · rw [if_pos (by omega), if_pos (by omega)]
    · rw [if_neg (by omega), if_neg (by omega)]
      congr 1
      omega

theorem RepC.splice {z cs : List AV} {Z C : Array Value} {off n : Nat} (hz : RepC w g z Z) (hc : RepC w g cs C) (hn : cs.length = n) (hoff : off + n ≤ z.length) {R : Array Value} (hs : R.size = Z.size)
    (hR : ∀ k, R[k]? = if off ≤ k ∧ k < off + n then C[k - off]? else Z[k]?) : RepC w g (z.take off ++ cs ++ z.drop (off + n)) R := by
  refine RepC.mk ?_ fun k v hk => ?_
  · have := hz.1.1
    simp [hn, hs]; omega
  · rw [splice_get z cs off n hn hoff] at hk
    rw [hR]
    split at hk
    · rename_i hin
      rw [if_pos hin]
      exact hc.get hk
    · rename_i hin
      rw [if_neg hin]
      exact hz.get hk

theorem RepP.splice {z cs : List AV} {Z C : Array Value} {off n : Nat} (hz : RepP w g z Z) (hc : RepC w g cs C) (hn : cs.length = n) (hoff : off + n ≤ z.length) {R : Array Value} (hs : R.size = Z.size)
    (hR : ∀ k, R[k]? = if off ≤ k ∧ k < off + n then C[k - off]? else Z[k]?) : RepP w g (z.take off ++ cs ++ z.drop (off + n)) R := by
  refine ⟨?_, fun k v hk => ?_⟩
  · have := hz.1
    simp [hn, hs]; omega
  · rw [splice_get z cs off n hn hoff] at hk
    rw [hR]
    split at hk
    · rename_i hin
      rw [if_pos hin]
      exact hc.get hk
    · rename_i hin
      rw [if_neg hin]
      exact hz.2 k v hk

theorem fill_rep {N : Nat} {s : Slots} {a : Act} (hr : RepS w g s a.tmps) (place : Nat → Option (Nat × Nat)) :
    ∀ (ps : List (Nat × Operand)) (qs : List (Nat × Nat × Opd)) (z z' : List AV) (Z : Array Value), cParts N place ps = some qs → RepC w g z Z → fillA z (qs.map fun p => (p.1, p.2.1, ev s p.2.2)) = some z' →
      ∃ Z', Instr.fill place Z (ps.map fun (i, x) => (i, a.eval x)) = some Z' ∧ RepC w g z' Z'
  | [], qs, z, z', Z, hq, hz, hf => by
    simp only [cParts, Option.some.injEq] at hq
    subst hq
    simp only [List.map_nil, fillA, Option.some.injEq] at hf
    subst hf
    exact ⟨Z, rfl, hz⟩
  | (i, x) :: ps, qs, z, z', Z, hq, hz, hf => by
    simp only [cParts, Option.bind_eq_some_iff, Option.map_eq_some_iff] at hq
    obtain ⟨⟨off, n⟩, hp, y, hy, ys, hys, rfl⟩ := hq
    simp only [List.map_cons, fillA, Option.bind_eq_some_iff] at hf
    obtain ⟨cs, hcs, hf⟩ := hf
    split at hf
    · rename_i hoff
      obtain ⟨hrep, hlen⟩ := fit_rep hcs (ev_rep hr hy)
      have hsz : (a.eval x).cells.size = n := by rw [← hlen]; exact hrep.1.1.symm
      have hZ := hz.1.1
      obtain ⟨Z', h1, h2⟩ := fill_rep hr place ps ys _ z' _ hys (RepC.splice hz hrep hlen hoff (R := ((a.eval x).cells.toList.zipIdx 0).foldl (fun (cs : Array Value) (p : Value × Nat) => cs.setIfInBounds (off + p.2) p.1) Z)
        (foldl_set_size off _ _ _) (fun k => by
          rw [foldl_set_get off _ 0 Z k (by simp; omega)]
          simp only [Nat.add_zero, Array.length_toList, hsz, Array.getElem?_toList])) hf
      refine ⟨Z', ?_, h2⟩
      simp only [List.map_cons, Instr.fill, hp]
      rw [if_neg (by simp [hsz]; omega)]
      rw [← h1]
      congr 1
      rw [← Array.foldl_toList, Array.toList_zipIdx]
    · cases hf

theorem placesOf_ok : ∀ (fs : List Field) (pl : List (Nat × Nat)), placesOf P fs = some pl → ∀ w : World, (fs.mapM fun f => do pure (f.offset, ← sizeOf f.type) : Sem (List (Nat × Nat))).run P w = .ok pl w
  | [], pl, h, w => by
    simp only [placesOf, Option.some.injEq] at h
    subst h
    simp
  | f :: fs, pl, h, w => by
    simp only [placesOf, Option.bind_eq_some_iff, Option.map_eq_some_iff] at h
    obtain ⟨n, hn, r, hr, rfl⟩ := h
    have ih := placesOf_ok fs r hr w
    simp only [List.mapM_cons, Sem.run_bind, run_szT hn, Result.andThen_ok, Sem.run_pure, ih]

theorem run_buildA {N : Nat} {s : Slots} {a : Act} (hr : RepS w g s a.tmps) {o : Oper} {t : TypeId} {ps : Array (Nat × Operand)} (ho : o.op = .build t ps) {op : IOp} (hc : cOp1 P N o = some op) {v : AV} (hv : pv op (ev s) h = some v) :
    ∃ V, (Instr.build t (ps.map fun (i, x) => (i, a.eval x))).run P w = .ok V w ∧ Rep w g v V := by
  simp only [cOp1, ho, Option.bind_eq_some_iff] at hc
  obtain ⟨z, hz, hc⟩ := hc
  obtain ⟨Z, hZ, hzrep⟩ := run_zeroT hz
  split at hc
  · rename_i fs hu
    simp only [Option.bind_eq_some_iff, Option.map_eq_some_iff] at hc
    obtain ⟨pl, hpl, qs, hqs, rfl⟩ := hc
    simp only [pv, Option.map_eq_some_iff] at hv
    obtain ⟨cs, hcs, rfl⟩ := hv
    obtain ⟨Z', h1, h2⟩ := fill_rep hr _ ps.toList qs z cs Z.cells hqs (hzrep w g) hcs
    refine ⟨.agg Z', ?_, .ofAgg h2⟩
    have hm : (fs.mapM fun f => do pure (f.offset, ← sizeOf f.type) : Sem (Array (Nat × Nat))).run P w = .ok pl.toArray w := by
      have := placesOf_ok (P := P) fs.toList pl hpl w
      rw [Array.mapM_eq_mapM_toList, Sem.run_map, this]
      rfl
    simp only [Instr.build, Sem.run_bind, hZ, Result.andThen_ok, run_underlying hu, hm]
    have e : (fun (x : Nat) => pl.toArray[x]?) = (fun (x : Nat) => pl[x]?) := by funext x; simp
    simp only [e, Array.toList_map, h1]
    rfl
  · rename_i m e hu
    simp only [Option.bind_eq_some_iff, Option.map_eq_some_iff] at hc
    obtain ⟨n, hn, qs, hqs, rfl⟩ := hc
    simp only [pv, Option.map_eq_some_iff] at hv
    obtain ⟨cs, hcs, rfl⟩ := hv
    obtain ⟨Z', h1, h2⟩ := fill_rep hr _ ps.toList qs z cs Z.cells hqs (hzrep w g) hcs
    refine ⟨.agg Z', ?_, .ofAgg h2⟩
    simp only [Instr.build, Sem.run_bind, hZ, Result.andThen_ok, run_underlying hu, run_szT hn, Array.toList_map, h1]
    rfl
  · cases hc

/-! ### Slice literals -/
theorem flatten_get {z : Nat} : ∀ {es : List (List AV)}, (∀ e ∈ es, e.length = z) → ∀ (i j : Nat), j < z → es.flatten[i * z + j]? = (es[i]?).bind fun e => e[j]?
  | [], _, i, j, _ => by simp
  | e :: es, h, i, j, hj => by
    have he := h e (by simp)
    cases i with
    | zero => simp only [Nat.zero_mul, Nat.zero_add, List.flatten_cons, List.getElem?_cons_zero, Option.bind_some]; rw [List.getElem?_append_left (by omega)]
    | succ i =>
      have ih := flatten_get (es := es) (fun e he => h e (List.mem_cons_of_mem _ he)) i j hj
      rw [List.flatten_cons, List.getElem?_append_right (by rw [he, Nat.add_mul]; omega), List.getElem?_cons_succ, ← ih]
      congr 1
      rw [he, Nat.add_mul]; omega

theorem flatten_len {z : Nat} : ∀ {es : List (List AV)}, (∀ e ∈ es, e.length = z) → es.flatten.length = es.length * z
  | [], _ => by simp
  | e :: es, h => by
    have he := h e (by simp)
    have ih := flatten_len (fun e he => h e (by simp [he])) (es := es)
    simp only [List.flatten_cons, List.length_append, he, ih, List.length_cons, Nat.add_mul]
    omega

theorem rowA_len {n : Nat} : ∀ {vs : List AV} {es : List (List AV)}, rowA n vs = some es → es.length = vs.length
  | [], es, h => by simp [rowA] at h; subst h; rfl
  | v :: vs, es, h => by
    simp only [rowA, Option.bind_eq_some_iff, Option.map_eq_some_iff] at h
    obtain ⟨cs, _, es', he, rfl⟩ := h
    simp [rowA_len he]

/-- Parts in their turn fill the row from its head. -/
theorem fill_row {N n : Nat} {s : Slots} {a : Act} (hr : RepS w g s a.tmps) (hn : 0 < n) :
    ∀ (ps : List (Nat × Operand)) (k : Nat) (xs : List Opd) (es : List (List AV)) (done : List AV) (Z : Array Value), cRow N k ps = some xs → rowA n (xs.map (ev s)) = some es →
      done.length = k * n → Z.size = (k + ps.length) * n → (∀ (j : Nat) (v : AV), done[j]? = some v → ∃ V : Value, Z[j]? = some V ∧ Rep w g v V ∧ ok1 v = true) →
      ∃ Z', Instr.fill (fun i => some (i * n, n)) Z (ps.map fun (i, x) => (i, a.eval x)) = some Z' ∧ RepC w g (done ++ es.flatten) Z' ∧ (∀ e ∈ es, e.length = n)
  | [], k, xs, es, done, Z, hx, he, hd, hZ, hr' => by
    simp only [cRow, Option.some.injEq] at hx
    subst hx
    simp only [List.map_nil, rowA, Option.some.injEq] at he
    subst he
    refine ⟨Z, rfl, ?_, by simp⟩
    simp only [List.flatten_nil, List.append_nil]
    exact RepC.mk (by simpa [hd] using hZ.symm) hr'
  | (i, x) :: ps, k, xs, es, done, Z, hx, he, hd, hZ, hr' => by
    simp only [cRow] at hx
    split at hx
    · rename_i hik
      subst hik
      simp only [Option.bind_eq_some_iff, Option.map_eq_some_iff] at hx
      obtain ⟨y, hy, ys, hys, rfl⟩ := hx
      simp only [List.map_cons, rowA, Option.bind_eq_some_iff, Option.map_eq_some_iff] at he
      obtain ⟨cs, hcs, es', hes', rfl⟩ := he
      obtain ⟨hrep, hlen⟩ := fit_rep hcs (ev_rep hr hy)
      have hsz : (a.eval x).cells.size = n := by rw [← hlen]; exact hrep.1.1.symm
      simp only [List.length_cons] at hZ
      have hZ' : i * n + n ≤ Z.size := by
        rw [hZ]
        have : (i + (ps.length + 1)) * n = i * n + n + ps.length * n := by rw [Nat.add_mul, Nat.add_mul]; omega
        omega
      let Z1 := ((a.eval x).cells.toList.zipIdx 0).foldl (fun (cs : Array Value) (p : Value × Nat) => cs.setIfInBounds (i * n + p.2) p.1) Z
      have hZ1s : Z1.size = Z.size := foldl_set_size (i * n) _ _ _
      have hZ1g : ∀ k, Z1[k]? = if i * n ≤ k ∧ k < i * n + n then (a.eval x).cells[k - i * n]? else Z[k]? := fun k => by
        show (((a.eval x).cells.toList.zipIdx 0).foldl _ Z)[k]? = _
        rw [foldl_set_get (i * n) _ 0 Z k (by simp; omega)]
        simp only [Nat.add_zero, Array.length_toList, hsz, Array.getElem?_toList]
      obtain ⟨Z', h1, h2, h3⟩ := fill_row hr hn ps (i + 1) ys es' (done ++ cs) Z1 hys hes' (by rw [List.length_append, hd, hlen, Nat.add_mul]; omega) (by rw [hZ1s, hZ]; congr 1; omega) (fun j v hj => by
        rw [hZ1g]
        rw [List.getElem?_append] at hj
        split at hj
        · rename_i hlt
          rw [if_neg (by omega)]
          exact hr' j v hj
        · rename_i hlt
          have hjl : j - done.length < cs.length := (List.getElem?_eq_some_iff.1 hj).1
          rw [if_pos (by omega)]
          rw [hd] at hj
          exact hrep.get hj)
      refine ⟨Z', ?_, by simpa [List.append_assoc] using h2, fun e he => ?_⟩
      · simp only [List.map_cons, Instr.fill]
        rw [if_neg (by simp [hsz]; omega)]
        rw [← h1]
        congr 1
        show _ = ((a.eval x).cells.toList.zipIdx 0).foldl _ Z
        rw [← Array.foldl_toList, Array.toList_zipIdx]
      · rcases List.mem_cons.1 he with rfl | he
        · exact hlen
        · exact h3 e he
    · cases hx

/-- A row that only is read: the slice over it. -/
theorem Rep.ofRow {es : List (List AV)} {B z cap : Nat} {t : Tok} (h0 : 0 < z) (hz : ∀ e ∈ es, e.length = z) (hc : es.length ≤ cap)
    (hro : es.length * z ≤ g.ro B) (hcell : ∀ (k : Nat) (v : AV), es.flatten[k]? = some v → ∃ V : Value, w.cell? ⟨B, k, none⟩ = some V ∧ Rep w g v V ∧ ok1 v = true)
    (ht : TokAt g t (some ⟨B, 0, none⟩) z es.length cap) : Rep w g (.sl t es) (.slice (some ⟨B, 0, none⟩) es.length cap) := by
  have hl := flatten_len hz
  refine .sl t es _ cap z (fun k => (w.cell? ⟨B, k, none⟩).getD Go.undef) ⟨h0, hz⟩ hc (fun k hk => ?_) (fun k hk => ?_) (fun k hk => ?_) ht
  · obtain ⟨V, h1, _⟩ := hcell k _ (List.getElem?_eq_getElem hk)
    exact ⟨B, 0, rfl, by omega, by simp [h1]⟩
  · obtain ⟨V, h1, h2, _⟩ := hcell k _ (List.getElem?_eq_getElem hk)
    simpa [h1] using h2
  · obtain ⟨V, h1, _, h3⟩ := hcell k _ (List.getElem?_eq_getElem hk)
    exact h3

theorem run_bslA {N : Nat} {s : Slots} {a : Act} (hs : Sim P base W w g h) (hr : RepS w g s a.tmps) {o : Oper} {t : TypeId} {len : Nat} {ps : Array (Nat × Operand)} (ho : o.op = .buildSlice t len ps) {op : IOp} (hc : cOp1 P N o = some op) {v : AV} (hv : pv op (ev s) h = some v) :
    ∃ V w' g', (Instr.buildSlice t len (ps.map fun (i, x) => (i, a.eval x))).run P w = .ok V w' ∧ Rep w' g' v V ∧ Sim P base W w' g' h ∧ Ext base W w g w' g' := by
  simp only [cOp1, ho] at hc
  split at hc
  · rename_i e hu
    simp only [Option.bind_eq_some_iff] at hc
    obtain ⟨n, hn, z, hz, xs, hxs, hc⟩ := hc
    split at hc
    · rename_i hcond
      obtain ⟨hxl, hn0, hzl, hsm⟩ := hcond
      cases hc
      simp only [pv, Option.map_eq_some_iff] at hv
      obtain ⟨es, hes, rfl⟩ := hv
      obtain ⟨Z, hZ, hzrep⟩ := run_zeroT hz
      have hmap : ((List.range len).zip xs).map (fun p => ev s p.2) = xs.map (ev s) := by
        have h1 : ((List.range len).zip xs).map (fun p => ev s p.2) = (((List.range len).zip xs).map (·.2)).map (ev s) := by simp [List.map_map]
        rw [h1]
        congr 1
        rw [List.map_snd_zip]
        simp [hxl]
      rw [hmap] at hes
      have hzs : Z.cells.size = n := by have := (hzrep w g).1.1; omega
      have hpsl : ps.toList.length = len := by
        have key : ∀ (ps : List (Nat × Operand)) (k : Nat) (xs : List Opd), cRow N k ps = some xs → xs.length = ps.length := by
          intro ps
          induction ps with
          | nil => intro k xs h; simp [cRow] at h; subst h; rfl
          | cons p ps ih =>
            intro k xs h
            obtain ⟨i, x⟩ := p
            simp only [cRow] at h
            split at h
            · simp only [Option.bind_eq_some_iff, Option.map_eq_some_iff] at h
              obtain ⟨y, _, ys, hys, rfl⟩ := h
              simp [ih _ _ hys]
            · cases h
        rw [← hxl, key _ _ _ hxs]
      let Z0 : Array Value := (Array.range (len * n)).map (fun i => Z.cells[i % Z.cells.size]!)
      obtain ⟨Z', h1, h2, h3⟩ := fill_row hr hn0 ps.toList 0 xs es [] Z0 hxs hes (by simp) (by simp [Z0, ← hpsl]) (by simp)
      simp only [List.nil_append] at h2
      have hesl : es.length = len := by rw [rowA_len hes]; simp [hxl]
      obtain ⟨hS, hE⟩ := hs.allocRO (.cells Z' e) (len * n)
      refine ⟨.slice (some ⟨w.heap.size, 0, none⟩) len len, w.alloc (.cells Z' e), g.addRO w.heap.size (len * n), ?_, ?_, hS, hE⟩
      · by_cases h0 : len * n = 0
        · have hZ0 : Z0 = (Array.range (len * n)).map fun i => (#[] : Array Value)[i % (#[] : Array Value).size]! := by simp [Z0, h0]
          rw [hZ0] at h1
          have hlt : ¬ len * n > 2 ^ 24 := by omega
          have hrun : (if len * n = 0 then pure #[] else do pure (← zeroValue e).cells : Sem (Array Value)) = pure #[] := if_pos h0
          simp only [Instr.buildSlice, Sem.run_bind, run_underlying hu, Result.andThen_ok, run_szT hn, if_neg hlt, if_pos h0, Sem.run_pure, Array.toList_map, h1]
          simp [newRow]
        · simp only [Instr.buildSlice, Sem.run_bind, run_underlying hu, Result.andThen_ok, run_szT hn, if_neg (show ¬ len * n > 2 ^ 24 by omega), if_neg h0, hZ, Sem.run_pure, Array.toList_map]
          show (Sem.run P (match Instr.fill (fun i => some (i * n, n)) Z0 _ with | some cells => _ | x => _) w) = _
          rw [h1]
          simp [newRow]
      · rw [← hesl]
        have hl := flatten_len h3
        refine Rep.ofRow (z := n) hn0 h3 (Nat.le_refl _) ?_ (fun k v hk => ?_) rfl
        · show _ ≤ (if w.heap.size = w.heap.size then _ else _)
          rw [if_pos rfl, hesl]; exact Nat.le_refl _
        · obtain ⟨V, q1, q2, q3⟩ := h2.get hk
          exact ⟨V, by rw [cell_at alloc_new]; exact q1, by rw [hesl]; exact q2.mono hE.toGExt, q3⟩
    · cases hc
  · cases hc

end
end Go.Am

/- The operations on addresses, parts, slices, strings. -/
namespace Go.Am
open Go Go.RowKit
section
variable {P : Program} {base : Nat} {W : Nat → Prop} {w : World} {g : G} {h : H}

theorem lit_add (B o n : Nat) : (⟨B, o, none⟩ : Addr).add n = ⟨B, o + n, none⟩ := Addr.add_lit B o n

theorem run_loadAtA {t : TypeId} {n : Nat} {ag : Bool} (hn : szT P t = some n) (hag : aggT P t = some ag) (hor : ag = true ∨ n = 1) (hs : Sim P base W w g h) {x v : AV} {X : Value} (hx : Rep w g x X)
    {e : Opd → AV} {o : Opd} (ho : e o = x) (hv : pv (.load n ag o) e h = some v) : ∃ V, (Instr.loadAt t X).run P w = .ok V w ∧ Rep w g v V := by
  simp only [pv, ho] at hv
  split at hv
  · rename_i b off
    simp only [Option.bind_eq_some_iff] at hv
    obtain ⟨cs, hcs, hv⟩ := hv
    split at hv
    · rename_i hc
      obtain ⟨hb, hl⟩ := hc
      obtain ⟨_, rfl⟩ := hx.ptr_inv
      obtain ⟨_, _, C, T, hC, hrep, _⟩ := hs.box b cs hb hcs
      obtain ⟨V, h1, h2⟩ := run_loadVarA (P := P) (w := w) (g := g) hn hag (B := g.bx b) (o := off) hv (by simp; omega) (fun k y hk => by
        rw [List.getElem?_take] at hk
        split at hk
        · rw [List.getElem?_drop] at hk
          obtain ⟨V, q1, q2⟩ := hrep.2 _ _ hk
          exact ⟨V, by rw [cell_at hC]; exact q1, q2⟩
        · cases hk)
      exact ⟨V, by simp only [Instr.loadAt, Instr.sureAddr, Sem.run_bind, Sem.run_pure, Result.andThen_ok, h1], h2⟩
    · cases hv
  · rename_i cs
    split at hv
    · rename_i hl
      obtain ⟨a, Vs, rfl, h1, h2, h3⟩ := hx.rop_inv
      rcases Nat.eq_zero_or_pos n with hn0 | hn0
      · subst hn0
        rcases hor with rfl | h'
        · simp only [unCells, List.take_zero, if_true, Option.some.injEq] at hv
          subst hv
          refine ⟨.agg #[], ?_, .agg [] #[] rfl (fun k hk => by simp at hk) (fun k hk => by simp at hk)⟩
          simp [Instr.loadAt, Instr.sureAddr, loadVar, run_aggT hag, run_szT hn, loadCells, loadCellsFrom]
        · omega
      · obtain ⟨B, o', hA, _, _⟩ := h1 0 (by omega)
        cases hA
        obtain ⟨V, q1, q2⟩ := run_loadVarA (P := P) (w := w) (g := g) hn hag (B := B) (o := o') hv (by simp; omega) (fun k y hk => by
          rw [List.getElem?_take] at hk
          split at hk
          · obtain ⟨hlt, rfl⟩ := List.getElem?_eq_some_iff.1 hk
            obtain ⟨B', o'', hA', _, hc⟩ := h1 k hlt
            cases hA'
            exact ⟨Vs k, hc, h2 k hlt, h3 k hlt⟩
          · cases hk)
        exact ⟨V, by simp only [Instr.loadAt, Instr.sureAddr, Sem.run_bind, Sem.run_pure, Result.andThen_ok, q1], q2⟩
    · cases hv
  · cases hv

theorem setRow_at (w : World) (B : Nat) (C : Array Value) {C0 : Array Value} {T : TypeId} (h : w.heap[B]? = some (.cells C0 T (0, 0))) :
    (w.setRow B C).heap[B]? = some (.cells C T (0, 0)) ∧ (w.setRow B C).heap.size = w.heap.size ∧ (∀ B', B' ≠ B → (w.setRow B C).heap[B']? = w.heap[B']?) ∧ (w.setRow B C).os = w.os ∧ (w.setRow B C).tape = w.tape ∧ (w.setRow B C).output = w.output := by
  refine ⟨?_, ?_, fun B' hB' => ?_, rfl, rfl, rfl⟩
  · exact setRow_heap w B C0 C T (0, 0) h
  · simp [World.setRow]
  · simp only [World.setRow, Array.getElem?_modify]
    rw [if_neg (by omega)]

/-- A store into a box. -/
theorem run_storeAtA {t : TypeId} {n : Nat} (hn : szT P t = some n) (hs : Sim P base W w g h) {b o : Nat} {x : AV} {X A : Value} {cs xs : List AV} (ha : Rep w g (.ptr b o) A) (hx : Rep w g x X)
    (hb : b < h.bn) (hc : h.bx b = some cs) (hf : fit n x = some xs) (ho : o + n ≤ cs.length) :
    ∃ w', (Instr.storeAt t A X).run P w = .ok () w' ∧ Sim P base W w' g (h.set b (cs.take o ++ xs ++ cs.drop (o + n))) ∧ Ext base W w g w' g := by
  obtain ⟨_, rfl⟩ := ha.ptr_inv
  obtain ⟨hxr, hxl⟩ := fit_rep hf hx
  obtain ⟨_, _, C, T, hC, hrep, hbs⟩ := hs.box b cs hb hc
  have hCl := hrep.1
  have hXs : X.cells.size = n := by rw [← hxl]; exact hxr.1.1.symm
  have hrun := run_storeCells_at P (g.bx b) o T X.cells.toList 0 C w hC (by simp; omega) hxr.allOne
  simp only [Nat.add_zero, Array.length_toList] at hrun
  obtain ⟨q1, q2, q3, q4, q5, q6⟩ := setRow_at w (g.bx b) (C.toList.take o ++ X.cells.toList ++ C.toList.drop (o + X.cells.size)).toArray hC
  obtain ⟨hS, hE⟩ := hs.setBox hb hc (cs' := cs.take o ++ xs ++ cs.drop (o + n)) (C' := (C.toList.take o ++ X.cells.toList ++ C.toList.drop (o + X.cells.size)).toArray) (T := T) (by
    refine RepP.splice hrep hxr hxl ho ?_ fun k => ?_
    · simp; omega
    · rw [List.getElem?_toArray, hXs, splice_get _ _ o n (by simp [hXs]) (by simp; omega)]
      simp) q1 (by simp; omega) q2 q3 q4 q5 q6
  refine ⟨_, ?_, hS, hE⟩
  simp only [Instr.storeAt, Instr.sureAddr, Sem.run_bind, Sem.run_pure, Result.andThen_ok, storeVar, run_szT hn, hXs, ne_eq, not_true_eq_false, if_false]
  rw [hrun, hXs]

theorem run_faddrA {s : TypeId} {fs : Array Field} {f : Nat} {fd : Field} {n : Nat} (hu : P.underlying s = some (.struct fs)) (hf : fs[f]? = some fd) (hn : szT P fd.type = some n) (hn0 : n ≠ 0) {x v : AV} {X : Value} (hx : Rep w g x X)
    {e : Opd → AV} {o : Opd} (ho : e o = x) (hv : pv (.faddr fd.offset o) e h = some v) : ∃ V, (Instr.fieldAt s X f).run P w = .ok V w ∧ Rep w g v V := by
  have hfp : ∀ a : Addr, (fieldPlace a fd).run P w = .ok (a.add fd.offset) w := fun a => by
    simp only [fieldPlace, Sem.run_bind, run_szT hn, Result.andThen_ok, if_neg hn0, Sem.run_pure]
  simp only [pv, ho] at hv
  split at hv
  · cases hv
    rename_i b off
    obtain ⟨hb, rfl⟩ := hx.ptr_inv
    exact ⟨_, by simp only [Instr.fieldAt, Sem.run_bind, run_underlying hu, Result.andThen_ok, hf, Instr.sureAddr, Sem.run_pure, hfp, lit_add], .ptr b (off + fd.offset) hb⟩
  · cases hv
    rename_i cs
    obtain ⟨a, Vs, rfl, h1, h2, h3⟩ := hx.rop_inv
    refine ⟨.pointer (some (a.add fd.offset)), by simp only [Instr.fieldAt, Sem.run_bind, run_underlying hu, Result.andThen_ok, hf, Instr.sureAddr, Sem.run_pure, hfp], ?_⟩
    refine .rop _ _ (fun k => Vs (fd.offset + k)) (fun k hk => ?_) (fun k hk => ?_) (fun k hk => ?_)
    · have hk' : fd.offset + k < cs.length := by simp at hk; omega
      obtain ⟨B, o', hA, hr, hc⟩ := h1 _ hk'
      cases hA
      exact ⟨B, o' + fd.offset, by rw [lit_add], by omega, by rw [Nat.add_assoc]; exact hc⟩
    · have hk' : fd.offset + k < cs.length := by simp at hk; omega
      rw [List.getElem_drop]; exact h2 _ hk'
    · have hk' : fd.offset + k < cs.length := by simp at hk; omega
      rw [List.getElem_drop]; exact h3 _ hk'
  · cases hv

theorem idxOf_inv {v : AV} {n j : Nat} (h : idxOf v n = some j) {V : Value} (hr : Rep w g v V) : ∃ k i, V = .int k i ∧ 0 ≤ i ∧ i < n ∧ j = i.toNat ∧ j < n := by
  unfold idxOf at h
  split at h
  · rename_i k i
    split at h
    · rename_i hi
      cases h
      obtain rfl := hr.int_inv
      exact ⟨k, i, rfl, hi.1, hi.2, rfl, by omega⟩
    · cases h
  · cases h

theorem Rep.sl_inv {t : Tok} {es : List (List AV)} {V : Value} (h : Rep w g (.sl t es) V) : ∃ (A : Option Addr) (cap z : Nat) (Vs : Nat → Value), V = .slice A es.length cap ∧ 0 < z ∧ (∀ e ∈ es, e.length = z) ∧ es.length ≤ cap ∧
    (∀ k, k < es.flatten.length → ROat w g A k (Vs k)) ∧ (∀ k (hk : k < es.flatten.length), Rep w g es.flatten[k] (Vs k)) ∧ (∀ k (hk : k < es.flatten.length), ok1 es.flatten[k] = true) ∧ TokAt g t A z es.length cap := by
  cases h with
  | sl t es A cap z Vs h1 h2 h3 h4 h5 h6 => exact ⟨A, cap, z, Vs, rfl, h1.1, h1.2, h2, h3, h4, h5, h6⟩

theorem Rep.msl_inv {b z off len : Nat} {V : Value} (h : Rep w g (.msl b z off len) V) : ∃ cap, V = .slice (some ⟨g.bx b, off, none⟩) len cap ∧ b < g.bn ∧ len ≤ cap ∧ off + cap * z ≤ g.bs b := by
  cases h with
  | msl b z off len cap h1 h2 h3 => exact ⟨cap, rfl, h1, h2, h3⟩

theorem flat_at {es : List (List AV)} {z i j : Nat} (hz : ∀ e ∈ es, e.length = z) (hi : i < es.length) (hj : j < z) : ∃ hlt : i * z + j < es.flatten.length, ∃ hj' : j < es[i].length, es.flatten[i * z + j] = es[i][j] := by
  have hei : es[i].length = z := hz _ (List.getElem_mem hi)
  have := flatten_get hz i j hj
  have hj' : j < es[i].length := by omega
  rw [List.getElem?_eq_getElem hi, Option.bind_some, List.getElem?_eq_getElem hj'] at this
  obtain ⟨h1, h2⟩ := List.getElem?_eq_some_iff.1 this
  exact ⟨h1, hj', h2⟩

theorem run_iaddrA {t e' : TypeId} {n : Nat} (hu : P.underlying t = some (.slice e')) (hn : szT P e' = some n) {x i v : AV} {X I : Value} (hx : Rep w g x X) (hi : Rep w g i I)
    {e : Opd → AV} {o q : Opd} (ho : e o = x) (hq : e q = i) (hv : pv (.iaddr n o q) e h = some v) : ∃ V, (Instr.indexAt t X I).run P w = .ok V w ∧ Rep w g v V := by
  simp only [pv, ho, hq] at hv
  split at hv
  · rename_i tk es
    simp only [Option.bind_eq_some_iff] at hv
    obtain ⟨j, hj, el, hel, hv⟩ := hv
    split at hv
    · rename_i heln
      cases hv
      obtain ⟨k, ii, rfl, h0, h1, rfl, hlt⟩ := idxOf_inv hj hi
      obtain ⟨A, cap, z, Vs, rfl, hz0, hz, hcap, hro, hrep, hok, htok⟩ := hx.sl_inv
      have hes : es[ii.toNat] = el := (List.getElem?_eq_some_iff.1 hel).2
      have hzn : z = n := by rw [← heln, ← hes]; exact (hz _ (List.getElem_mem hlt)).symm
      subst hzn
      have hA : ∃ a, A = some a := by
        rcases A with _ | a
        · exfalso
          obtain ⟨hlt', _, _⟩ := flat_at hz hlt hz0
          obtain ⟨B, o', hA, _⟩ := hro _ hlt'
          cases hA
        · exact ⟨a, rfl⟩
      obtain ⟨a, rfl⟩ := hA
      refine ⟨.pointer (some (a.add (ii.toNat * z))), ?_, ?_⟩
      · simp only [Instr.indexAt, asIntOf, Sem.run_bind, Sem.run_pure, Result.andThen_ok, run_underlying hu]
        rw [if_pos ⟨h0, h1⟩]
        simp only [Sem.run_bind, run_szT hn, Result.andThen_ok, Sem.run_pure]
      · refine .rop _ _ (fun j => Vs (ii.toNat * z + j)) (fun j hj => ?_) (fun j hj => ?_) (fun j hj => ?_)
        · obtain ⟨hlt', _, he⟩ := flat_at hz hlt (show j < z by omega)
          obtain ⟨B, o', hA, hr, hc⟩ := hro _ hlt'
          cases hA
          exact ⟨B, o' + ii.toNat * z, by rw [lit_add], by omega, by rw [Nat.add_assoc]; exact hc⟩
        · obtain ⟨hlt', _, he⟩ := flat_at hz hlt (show j < z by omega)
          have := hrep _ hlt'
          rw [he] at this
          simpa [hes] using this
        · obtain ⟨hlt', _, he⟩ := flat_at hz hlt (show j < z by omega)
          have := hok _ hlt'
          rw [he] at this
          simpa [hes] using this
    · cases hv
  · rename_i b z off len
    simp only [Option.bind_eq_some_iff] at hv
    obtain ⟨j, hj, hv⟩ := hv
    split at hv
    case isFalse => cases hv
    cases hv
    obtain ⟨k, ii, rfl, h0, h1, rfl, hlt⟩ := idxOf_inv hj hi
    obtain ⟨cap, rfl, hb, hcap, hbs⟩ := hx.msl_inv
    refine ⟨.pointer (some ⟨g.bx b, off + ii.toNat * n, none⟩), ?_, .ptr b _ hb⟩
    simp only [Instr.indexAt, asIntOf, Sem.run_bind, Sem.run_pure, Result.andThen_ok, run_underlying hu]
    rw [if_pos ⟨h0, h1⟩]
    simp only [Sem.run_bind, run_szT hn, Result.andThen_ok, Sem.run_pure, lit_add]
  · cases hv

end
end Go.Am

/- The operations on slices, strings, arrays, tuples, lengths, least and greatest. -/
namespace Go.Am
open Go Go.RowKit
section
variable {P : Program} {base : Nat} {W : Nat → Prop} {w : World} {g : G} {h : H}

theorem run_iaddrAA {t e' : TypeId} {len n : Nat} (hu : P.underlying t = some (.array len e')) (hn : szT P e' = some n) {x i v : AV} {X I : Value} (hx : Rep w g x X) (hi : Rep w g i I)
    {e : Opd → AV} {o q : Opd} (ho : e o = x) (hq : e q = i) (hv : pv (.iaddrA len n o q) e h = some v) : ∃ V, (Instr.indexAt t X I).run P w = .ok V w ∧ Rep w g v V := by
  simp only [pv, ho, hq, Option.bind_eq_some_iff] at hv
  obtain ⟨j, hj, hv⟩ := hv
  obtain ⟨k, ii, rfl, h0, h1, rfl, hlt⟩ := idxOf_inv hj hi
  split at hv
  · cases hv
    rename_i b off
    obtain ⟨hb, rfl⟩ := hx.ptr_inv
    refine ⟨.pointer (some ⟨g.bx b, off + ii.toNat * n, none⟩), ?_, .ptr b _ hb⟩
    simp only [Instr.indexAt, asIntOf, Sem.run_bind, Sem.run_pure, Result.andThen_ok, run_underlying hu, Instr.sureAddr]
    rw [if_pos ⟨h0, h1⟩]
    simp only [Sem.run_bind, run_szT hn, Result.andThen_ok, Sem.run_pure, lit_add]
  · cases hv
    rename_i cs
    obtain ⟨a, Vs, rfl, q1, q2, q3⟩ := hx.rop_inv
    refine ⟨.pointer (some (a.add (ii.toNat * n))), ?_, ?_⟩
    · simp only [Instr.indexAt, asIntOf, Sem.run_bind, Sem.run_pure, Result.andThen_ok, run_underlying hu, Instr.sureAddr]
      rw [if_pos ⟨h0, h1⟩]
      simp only [Sem.run_bind, run_szT hn, Result.andThen_ok, Sem.run_pure]
    · refine .rop _ _ (fun k => Vs (ii.toNat * n + k)) (fun k hk => ?_) (fun k hk => ?_) (fun k hk => ?_)
      · have hk' : ii.toNat * n + k < cs.length := by simp at hk; omega
        obtain ⟨B, o', hA, hr, hc⟩ := q1 _ hk'
        cases hA
        exact ⟨B, o' + ii.toNat * n, by rw [lit_add], by omega, by rw [Nat.add_assoc]; exact hc⟩
      · have hk' : ii.toNat * n + k < cs.length := by simp at hk; omega
        rw [List.getElem_drop]; exact q2 _ hk'
      · have hk' : ii.toNat * n + k < cs.length := by simp at hk; omega
        rw [List.getElem_drop]; exact q3 _ hk'
  · cases hv

theorem run_fldA {s : TypeId} {fs : Array Field} {f : Nat} {fd : Field} {n : Nat} {ag : Bool} (hu : P.underlying s = some (.struct fs)) (hf : fs[f]? = some fd) (hn : szT P fd.type = some n) (hag : aggT P fd.type = some ag) {x v : AV} {X : Value} (hx : Rep w g x X)
    {e : Opd → AV} {o : Opd} (ho : e o = x) (hv : pv (.fld fd.offset n ag o) e h = some v) : ∃ V, (Instr.field s X f).run P w = .ok V w ∧ Rep w g v V := by
  simp only [pv, ho] at hv
  split at hv
  · split at hv
    · rename_i hl
      obtain ⟨C, rfl, hC⟩ := hx.agg_inv
      obtain ⟨V, h1, h2⟩ := run_partA (P := P) hn hag hC hl hv
      exact ⟨V, by simp only [Instr.field, Sem.run_bind, run_underlying hu, Result.andThen_ok, hf, asAgg, Sem.run_pure, h1], h2⟩
    · cases hv
  · cases hv

theorem run_idxAA {t e' : TypeId} {len n : Nat} {ag : Bool} (hu : P.underlying t = some (.array len e')) (hn : szT P e' = some n) (hag : aggT P e' = some ag) {x i v : AV} {X I : Value} (hx : Rep w g x X) (hi : Rep w g i I)
    {e : Opd → AV} {o q : Opd} (ho : e o = x) (hq : e q = i) (hv : pv (.idxA len n ag o q) e h = some v) : ∃ V, (Instr.index t X I).run P w = .ok V w ∧ Rep w g v V := by
  simp only [pv, ho, hq] at hv
  split at hv
  · simp only [Option.bind_eq_some_iff] at hv
    obtain ⟨j, hj, hv⟩ := hv
    split at hv
    · rename_i hl
      obtain ⟨k, ii, rfl, h0, h1, rfl, hlt⟩ := idxOf_inv hj hi
      obtain ⟨C, rfl, hC⟩ := hx.agg_inv
      obtain ⟨V, q1, q2⟩ := run_partA (P := P) hn hag hC hl hv
      refine ⟨V, ?_, q2⟩
      simp only [Instr.index, asIntOf, Sem.run_bind, Sem.run_pure, Result.andThen_ok, run_underlying hu]
      rw [if_pos ⟨h0, h1⟩]
      simp only [Sem.run_bind, run_szT hn, Result.andThen_ok, q1]
    · cases hv
  · cases hv

theorem run_idxSA {t : TypeId} (hu : P.underlying t = some .string) {x i v : AV} {X I : Value} (hx : Rep w g x X) (hi : Rep w g i I)
    {e : Opd → AV} {o q : Opd} (ho : e o = x) (hq : e q = i) (hv : pv (.idxS o q) e h = some v) : ∃ V, (Instr.index t X I).run P w = .ok V w ∧ Rep w g v V := by
  simp only [pv, ho, hq] at hv
  split at hv
  · rename_i s
    simp only [Option.bind_eq_some_iff, Option.map_eq_some_iff] at hv
    obtain ⟨j, hj, c, hc, rfl⟩ := hv
    obtain ⟨k, ii, rfl, h0, h1, rfl, hlt⟩ := idxOf_inv hj hi
    obtain rfl := hx.str_inv
    refine ⟨_, ?_, .int _ _⟩
    have hb : s[ii.toNat]? = some c := by
      obtain ⟨hl, rfl⟩ := Array.getElem?_eq_some_iff.1 hc
      rw [getElem?_pos s ii.toNat (by exact hl)]
      rfl
    simp only [Instr.index, asIntOf, Sem.run_bind, Sem.run_pure, Result.andThen_ok, run_underlying hu, if_pos h0, hb]
  · cases hv


/-! ### Cuts -/
def RepO (w : World) (g : G) : Option AV → Option Value → Prop
  | none, none => True
  | some x, some X => Rep w g x X
  | _, _ => False

theorem evO_rep {N : Nat} {s : Slots} {a : Act} (hr : RepS w g s a.tmps) {x : Option Operand} {y : Option Opd} (hy : cOpdO N x = some y) : RepO w g (y.map (ev s)) (x.map a.eval) := by
  cases x with
  | none => simp only [cOpdO, Option.some.injEq] at hy; subst hy; trivial
  | some x =>
    simp only [cOpdO, Option.map_eq_some_iff] at hy
    obtain ⟨z, hz, rfl⟩ := hy
    exact ev_rep hr hz

theorem run_bound {v : AV} {V : Value} {n d j y : Nat} (h : bndOf (some v) n d = some j) (hr : Rep w g v V) (hny : n ≤ y) (code : BoundsCode) : (Instr.sliceBound V y code).run P w = .ok j w ∧ j ≤ n := by
  unfold bndOf at h
  split at h
  · rename_i hh; cases hh
  · rename_i k i hh
    cases hh
    split at h
    · rename_i hi
      cases h
      obtain rfl := hr.int_inv
      refine ⟨?_, by omega⟩
      simp only [Instr.sliceBound, asIntOf, Sem.run_bind, Sem.run_pure, Result.andThen_ok]
      rw [if_pos ⟨hi.1, by omega⟩]
      rfl
    · cases h
  · cases h

/-- The bounds of a cut without a third. -/
theorem run_bounds2 {isS : Bool} {lo hi : Option AV} {Lo Hi : Option Value} {len cap l h' : Nat} (hLo : RepO w g lo Lo) (hHi : RepO w g hi Hi) (hc : len ≤ cap)
    (hh : bndOf hi len len = some h') (hl : bndOf lo h' 0 = some l) : (Instr.sliceBounds isS len cap Lo Hi none).run P w = .ok (l, h', cap) w ∧ l ≤ h' ∧ h' ≤ len := by
  cases lo <;> cases Lo <;> simp only [RepO] at hLo <;> cases hi <;> cases Hi <;> simp only [RepO] at hHi
  · simp only [bndOf, Option.some.injEq] at hh hl
    subst hh hl
    exact ⟨rfl, Nat.zero_le _, Nat.le_refl _⟩
  · simp only [bndOf, Option.some.injEq] at hl
    subst hl
    obtain ⟨h1, h2⟩ := run_bound (P := P) hh hHi hc (if isS then .sliceAcap else .sliceAlen)
    refine ⟨?_, Nat.zero_le _, h2⟩
    simp only [Instr.sliceBounds, Sem.run_bind, Sem.run_pure, Result.andThen_ok, h1]
  · simp only [bndOf, Option.some.injEq] at hh
    subst hh
    obtain ⟨h1, h2⟩ := run_bound (P := P) hl hLo (Nat.le_refl _) .sliceB
    refine ⟨?_, h2, Nat.le_refl _⟩
    simp only [Instr.sliceBounds, Sem.run_bind, Sem.run_pure, Result.andThen_ok, Option.isSome_none, Bool.false_eq_true, if_false, h1]
  · obtain ⟨h1, h2⟩ := run_bound (P := P) hh hHi hc (if isS then .sliceAcap else .sliceAlen)
    obtain ⟨h3, h4⟩ := run_bound (P := P) hl hLo (Nat.le_refl _) .sliceB
    refine ⟨?_, h4, h2⟩
    simp only [Instr.sliceBounds, Sem.run_bind, Sem.run_pure, Result.andThen_ok, Option.isSome_none, Bool.false_eq_true, if_false, h1, h3]

/-- The bounds of a cut with a third. -/
theorem run_bounds3 {isS : Bool} {lo : Option AV} {hi mx : AV} {Lo : Option Value} {Hi Mx : Value} {len cap l h' m d d' : Nat} (hLo : RepO w g lo Lo) (hHi : Rep w g hi Hi) (hMx : Rep w g mx Mx) (hc : len ≤ cap)
    (hm : bndOf (some mx) len d = some m) (hh : bndOf (some hi) m d' = some h') (hl : bndOf lo h' 0 = some l) : (Instr.sliceBounds isS len cap Lo (some Hi) (some Mx)).run P w = .ok (l, h', m) w ∧ l ≤ h' ∧ h' ≤ m ∧ m ≤ len := by
  obtain ⟨h1, h2⟩ := run_bound (P := P) hm hMx hc (if isS then .slice3Acap else .slice3Alen)
  obtain ⟨h3, h4⟩ := run_bound (P := P) hh hHi (Nat.le_refl _) .slice3B
  cases lo <;> cases Lo <;> simp only [RepO] at hLo
  · simp only [bndOf, Option.some.injEq] at hl
    subst hl
    refine ⟨?_, Nat.zero_le _, h4, h2⟩
    simp only [Instr.sliceBounds, Sem.run_bind, Result.andThen_ok, h1, h3, Sem.run_pure]
  · obtain ⟨h5, h6⟩ := run_bound (P := P) hl hLo (Nat.le_refl _) .slice3C
    refine ⟨?_, h6, h4, h2⟩
    simp only [Instr.sliceBounds, Sem.run_bind, Result.andThen_ok, h1, h3, Option.isSome_some, if_true, h5, Sem.run_pure]

/-- A part of a slice that is read. -/
theorem Rep.cut {es : List (List AV)} {A : Option Addr} {z : Nat} {Vs : Nat → Value} (h0 : 0 < z) (hz : ∀ e ∈ es, e.length = z)
    (hro : ∀ k, k < es.flatten.length → ROat w g A k (Vs k)) (hrep : ∀ k (hk : k < es.flatten.length), Rep w g es.flatten[k] (Vs k)) (hok : ∀ k (hk : k < es.flatten.length), ok1 es.flatten[k] = true)
    {l h' m : Nat} (hl : l ≤ h') (hh : h' ≤ es.length) (hm : h' ≤ m) {t : Tok} (ht : TokAt g t (if m = l then A else A.map (·.add (l * z))) z (h' - l) (m - l)) :
    Rep w g (.sl t ((es.take h').drop l)) (.slice (if m = l then A else A.map (·.add (l * z))) (h' - l) (m - l)) := by
  have hlen : ((es.take h').drop l).length = h' - l := by simp; omega
  have hz' : ∀ e ∈ (es.take h').drop l, e.length = z := fun e he => hz e (List.mem_of_mem_take (List.mem_of_mem_drop he))
  have hfl := flatten_len hz'
  have key : ∀ k, k < ((es.take h').drop l).flatten.length → ∃ hk' : l * z + k < es.flatten.length, ((es.take h').drop l).flatten[k]? = some es.flatten[l * z + k] := by
    intro k hk
    have hi : k / z < h' - l := by
      rw [hfl, hlen] at hk
      exact Nat.div_lt_of_lt_mul (by rw [Nat.mul_comm]; exact hk)
    have hj : k % z < z := Nat.mod_lt _ h0
    have hkk : k / z * z + k % z = k := by rw [Nat.mul_comm]; exact Nat.div_add_mod k z
    obtain ⟨p1, p2, p3⟩ := flat_at hz (show l + k / z < es.length by omega) hj
    have e1 : (l + k / z) * z + k % z = l * z + k := by rw [Nat.add_mul]; omega
    have q := flatten_get hz' (k / z) (k % z) hj
    rw [hkk] at q
    simp only [e1] at p1 p3
    refine ⟨p1, ?_⟩
    rw [q, List.getElem?_drop, List.getElem?_take, if_pos (by omega), List.getElem?_eq_getElem (by omega), Option.bind_some, List.getElem?_eq_getElem p2, p3]
  rw [← hlen]
  refine .sl t _ _ _ z (fun k => Vs (l * z + k)) ⟨h0, hz'⟩ (by omega) (fun k hk => ?_) (fun k hk => ?_) (fun k hk => ?_) (by rw [hlen]; exact ht)
  · obtain ⟨hk', _⟩ := key k hk
    obtain ⟨B, o', hA, hr, hc⟩ := hro _ hk'
    subst hA
    have hml : m ≠ l := by
      intro hml
      have : h' - l = 0 := by omega
      rw [hfl, hlen, this] at hk
      omega
    rw [if_neg hml]
    exact ⟨B, o' + l * z, by simp only [Option.map_some, lit_add], by omega, by rw [Nat.add_assoc]; exact hc⟩
  · obtain ⟨hk', he⟩ := key k hk
    have : ((es.take h').drop l).flatten[k] = es.flatten[l * z + k] := (List.getElem?_eq_some_iff.1 he).2
    rw [this]; exact hrep _ hk'
  · obtain ⟨hk', he⟩ := key k hk
    have : ((es.take h').drop l).flatten[k] = es.flatten[l * z + k] := (List.getElem?_eq_some_iff.1 he).2
    rw [this]; exact hok _ hk'

theorem run_sliceA {t e' : TypeId} {n : Nat} (hu : P.underlying t = some (.slice e')) (hn : szT P e' = some n) {x v : AV} {X : Value} (hx : Rep w g x X)
    {e : Opd → AV} {o : Opd} {lo hi mx : Option Opd} {Lo Hi Mx : Option Value} (ho : e o = x) (hLo : RepO w g (lo.map e) Lo) (hHi : RepO w g (hi.map e) Hi) (hMx : RepO w g (mx.map e) Mx)
    (hv : pv (.slice n o lo hi mx) e h = some v) : ∃ V, (Instr.sliceAt t X Lo Hi Mx).run P w = .ok V w ∧ Rep w g v V := by
  have hat : ∀ {A : Option Addr} {len cap : Nat}, (Instr.sliceAt t (.slice A len cap) Lo Hi Mx).run P w = ((Instr.sliceBounds true len cap Lo Hi Mx).run P w).andThen fun q w' => .ok (.slice (if q.2.2 = q.1 then A else A.map (·.add (q.1 * n))) (q.2.1 - q.1) (q.2.2 - q.1)) w' := fun {A len cap} => by
    simp only [Instr.sliceAt, Instr.slice, Sem.run_bind, run_underlying hu, Result.andThen_ok]
    cases (Instr.sliceBounds true len cap Lo Hi Mx).run P w with
    | ok q w' => simp only [Result.andThen_ok, run_szT hn, Sem.run_pure]
    | halt q w' => rfl
  have hnil : ∀ (A : Option Addr) (c : Nat) (t : Tok), (t = .no ∨ (t = .full ∧ c = 0)) → Rep w g (.sl t []) (.slice A 0 c) := fun A c t ht =>
    .sl t [] A c 1 (fun _ => Go.undef) ⟨by omega, by simp⟩ (by simp) (by simp) (by simp) (by simp) (by rcases ht with rfl | ⟨rfl, rfl⟩; exact trivial; rfl)
  simp only [pv, ho] at hv
  split at hv
  · rename_i tk es
    obtain ⟨A, cap, z, Vs, rfl, hz0, hz, hcap, hro, hrep, hok, htok⟩ := hx.sl_inv
    have hadd : ∀ l, (l = 0 ∨ ∀ el ∈ es, el.length = n) → (∀ h', h' ≤ es.length → l < h' → l * n = l * z) := fun l hc h' hh hl => by
      rcases hc with rfl | hc
      · simp
      · have hlt : 0 < es.length := by omega
        have e1 := hc es[0] (List.getElem_mem hlt)
        have e2 := hz es[0] (List.getElem_mem hlt)
        rw [← e1, ← e2]
    cases mx with
    | none =>
      cases Mx with
      | some _ => simp [RepO] at hMx
      | none =>
        simp only [Option.bind_eq_some_iff] at hv
        obtain ⟨h', hh, l, hl, hv⟩ := hv
        split at hv
        · rename_i hc
          cases hv
          obtain ⟨q1, q2, q3⟩ := run_bounds2 (P := P) (isS := true) hLo hHi hcap hh hl
          refine ⟨_, by rw [hat, q1]; rfl, ?_⟩
          by_cases hlh : l = h'
          · -- nothing is left
            subst hlh
            have e0 : (es.take l).drop l = [] := by simp
            rw [e0]
            simp only [Nat.sub_self]
            have htk : tokCut tk l l es.length none = .no ∨ (tokCut tk l l es.length none = .full ∧ cap - l = 0) ∨ (∃ id, tokCut tk l l es.length none = .own id ∧ tk = .own id ∧ l = 0 ∧ l = es.length) := by
              unfold tokCut
              simp only
              split
              · rename_i hle
                split
                · right; left; exact ⟨rfl, by have : cap = es.length := htok; omega⟩
                · rename_i id
                  split
                  · right; right; exact ⟨id, rfl, rfl, by assumption, hle⟩
                  · left; rfl
                · left; rfl
              · left; rfl
            rcases htk with h1 | ⟨h1, h2⟩ | ⟨id, h1, rfl, h2, h3⟩
            · rw [h1]; exact hnil _ _ _ (.inl rfl)
            · rw [h1, h2]; exact hnil _ _ _ (.inr ⟨rfl, rfl⟩)
            · rw [h1]
              subst h2
              have hes : es = [] := List.eq_nil_of_length_eq_zero h3.symm
              subst hes
              have : (if cap = 0 then A else A.map (·.add (0 * n))) = A := by
                split
                · rfl
                · cases A <;> simp [Addr.add]
              simp only [Nat.sub_zero, this]
              exact hx
          · have hml : ¬ cap = l := by omega
            have := Rep.cut hz0 hz hro hrep hok q2 q3 (m := cap) (by omega) (t := tokCut tk l h' es.length none) (by
              rw [if_neg hml]
              unfold tokCut
              simp only
              split
              · rename_i hle
                split
                · have : cap = es.length := htok
                  show cap - l = h' - l
                  omega
                · rename_i id
                  split
                  · rename_i hl0
                    subst hl0 hle
                    have e1 : A.map (·.add (0 * z)) = A := by cases A <;> simp [Addr.add]
                    rw [e1]
                    exact htok
                  · trivial
                · trivial
              · trivial)
            rw [hadd l hc h' q3 (by omega)]
            exact this
        · cases hv
    | some mx =>
      cases Mx with
      | none => simp [RepO] at hMx
      | some Mx =>
        cases hi with
        | none => simp at hv
        | some hi =>
          cases Hi with
          | none => simp [RepO] at hHi
          | some Hi =>
            simp only [Option.bind_eq_some_iff] at hv
            obtain ⟨m, hm, h', hh, l, hl, hv⟩ := hv
            split at hv
            · rename_i hc
              cases hv
              obtain ⟨q1, q2, q3, q4⟩ := run_bounds3 (P := P) (isS := true) hLo hHi hMx hcap hm hh hl
              refine ⟨_, by rw [hat, q1]; rfl, ?_⟩
              have hfull : ∀ (z' : Nat) (A' : Option Addr), TokAt g (tokCut tk l h' es.length (some m)) A' z' (h' - l) (m - l) := fun z' A' => by
                unfold tokCut
                simp only
                split
                · show m - l = h' - l
                  omega
                · trivial
              by_cases hlh : l = h'
              · subst hlh
                have e0 : (es.take l).drop l = [] := by simp
                rw [e0]
                simp only [Nat.sub_self]
                refine .sl _ [] _ _ 1 (fun _ => Go.undef) ⟨by omega, by simp⟩ (by simp) (by simp) (by simp) (by simp) ?_
                have := hfull 1 (if m = l then A else Option.map (fun x => x.add (l * n)) A)
                simpa using this
              · have hml : ¬ m = l := by omega
                have := Rep.cut hz0 hz hro hrep hok q2 (by omega) (m := m) q3 (hfull z _)
                rw [hadd l hc h' (by omega) (by omega)]
                exact this
            · cases hv
  · rename_i b z off len
    obtain ⟨cap, rfl, hb, hcap, hbs⟩ := hx.msl_inv
    cases mx with
    | none =>
      cases Mx with
      | some _ => simp [RepO] at hMx
      | none =>
        simp only [Option.bind_eq_some_iff] at hv
        obtain ⟨h', hh, l, hl, hv⟩ := hv
        split at hv
        case isFalse => cases hv
        rename_i hzn
        subst hzn
        cases hv
        obtain ⟨q1, q2, q3⟩ := run_bounds2 (P := P) (isS := true) hLo hHi hcap hh hl
        refine ⟨_, by rw [hat, q1]; rfl, ?_⟩
        split
        · rename_i hlh
          obtain ⟨hlh, _⟩ := hlh
          subst hlh
          simp only [Nat.sub_self]
          exact hnil _ _ _ (.inl rfl)
        · rename_i hlh
          have haddr : (if cap = l then some (⟨g.bx b, off, none⟩ : Addr) else Option.map (fun (x : Addr) => x.add (l * z)) (some ⟨g.bx b, off, none⟩)) = some ⟨g.bx b, off + l * z, none⟩ := by
            split
            · rename_i hcl
              have : l = 0 := by
                rcases Nat.eq_zero_or_pos l with h | h
                · exact h
                · exact absurd ⟨by omega, by omega⟩ hlh
              subst this
              simp
            · simp only [Option.map_some, lit_add]
          simp only [haddr]
          refine .msl b _ _ _ _ hb (by omega) ?_
          have : l * z + (cap - l) * z = cap * z := by rw [← Nat.add_mul]; congr 1; omega
          omega
    | some mx =>
      cases Mx with
      | none => simp [RepO] at hMx
      | some Mx =>
        cases hi with
        | none => simp at hv
        | some hi =>
          cases Hi with
          | none => simp [RepO] at hHi
          | some Hi =>
            simp only [Option.bind_eq_some_iff] at hv
            obtain ⟨m, hm, h', hh, l, hl, hv⟩ := hv
            split at hv
            · rename_i hc
              cases hv
              obtain ⟨rfl, rfl⟩ := hc
              obtain ⟨q1, q2, q3, q4⟩ := run_bounds3 (P := P) (isS := true) hLo hHi hMx hcap hm hh hl
              refine ⟨_, by rw [hat, q1]; rfl, ?_⟩
              simp only [Nat.sub_self]
              exact hnil _ _ _ (.inr ⟨rfl, rfl⟩)
            · cases hv
  · cases hv

theorem run_sliceSA {t : TypeId} (hu : P.underlying t = some .string) {x v : AV} {X : Value} (hx : Rep w g x X)
    {e : Opd → AV} {o : Opd} {lo hi : Option Opd} {Lo Hi : Option Value} (ho : e o = x) (hLo : RepO w g (lo.map e) Lo) (hHi : RepO w g (hi.map e) Hi)
    (hv : pv (.sliceS o lo hi) e h = some v) : ∃ V, (Instr.sliceAt t X Lo Hi none).run P w = .ok V w ∧ Rep w g v V := by
  simp only [pv, ho] at hv
  split at hv
  · rename_i s
    simp only [Option.bind_eq_some_iff, Option.map_eq_some_iff] at hv
    obtain ⟨h', hh, l, hl, rfl⟩ := hv
    obtain rfl := hx.str_inv
    obtain ⟨q1, q2, q3⟩ := run_bounds2 (P := P) (isS := false) hLo hHi (Nat.le_refl _) hh hl
    refine ⟨_, ?_, .str _⟩
    simp only [Instr.sliceAt, Instr.slice, Sem.run_bind, run_underlying hu, Result.andThen_ok, Option.isSome_none, Bool.false_eq_true, if_false, q1, Sem.run_pure]
  · cases hv

end
end Go.Am

/- Maps of whole-number keys: what is found. -/
namespace Go.Am
open Go Go.RowKit
section
variable {P : Program} {base : Nat} {W : Nat → Prop} {w : World} {g : G} {h : H}

theorem mapFind_rep {kk k0 : IntKind} {n : Int} : ∀ {es : List (AV × AV)} {E : List MapEntry} {i : Nat} {r : Option (Nat × AV)}, es.length = E.length →
    (∀ (j : Nat) (e : AV × AV) (x : MapEntry), es[j]? = some e → E[j]? = some x → Rep w g e.1 x.key ∧ Rep w g e.2 x.val) → mapFind kk n es i = some r →
    (r = none ∧ Instr.findNow (.int k0) (.int kk n) E i = some none) ∨
    ∃ j v x, r = some (i + j, v) ∧ Instr.findNow (.int k0) (.int kk n) E i = some (some (i + j, x.val)) ∧ es[j]? = some (.int kk n, v) ∧ E[j]? = some x ∧ x.key = .int kk n ∧ Rep w g v x.val
  | [], [], i, r, _, _, hf => by
    simp only [mapFind, Option.some.injEq] at hf
    subst hf
    exact .inl ⟨rfl, rfl⟩
  | [], _ :: _, _, _, hl, _, _ => by simp at hl
  | _ :: _, [], _, _, hl, _, _ => by simp at hl
  | (a, v) :: es, x :: E, i, r, hl, hrep, hf => by
    obtain ⟨h1, h2⟩ := hrep 0 (a, v) x rfl rfl
    cases a with
    | int k' n' =>
      simp only [mapFind] at hf
      split at hf
      · rename_i hk
        subst hk
        have hkey : x.key = .int k' n' := h1.int_inv
        split at hf
        · rename_i hn
          subst hn
          simp only [Option.some.injEq] at hf
          subst hf
          refine .inr ⟨0, v, x, by simp, ?_, rfl, rfl, hkey, h2⟩
          simp [Instr.findNow, hkey, Instr.sameNow]
        · rename_i hn
          have hst : Instr.findNow (.int k0) (.int k' n) (x :: E) i = Instr.findNow (.int k0) (.int k' n) E (i + 1) := by
            have hb : (n == n') = false := by simp [hn]
            simp [Instr.findNow, hkey, Instr.sameNow, hb]
          rcases mapFind_rep (k0 := k0) (es := es) (E := E) (i := i + 1) (by simpa using hl) (fun j e y he hy => hrep (j + 1) e y (by simpa using he) (by simpa using hy)) hf with ⟨q1, q2⟩ | ⟨j, v', y, q1, q2, q3, q4, q5, q6⟩
          · exact .inl ⟨q1, by rw [hst]; exact q2⟩
          · refine .inr ⟨j + 1, v', y, by rw [q1]; congr 2; omega, by rw [hst, q2]; congr 3; omega, by simpa using q3, by simpa using q4, q5, q6⟩
      · cases hf
    | _ => simp [mapFind] at hf

theorem MapOK.pairs {es : List (AV × AV)} {E : Array MapEntry} (h : MapOK w g es E) : es.length = E.toList.length ∧ ∀ (j : Nat) (e : AV × AV) (x : MapEntry), es[j]? = some e → E.toList[j]? = some x → Rep w g e.1 x.key ∧ Rep w g e.2 x.val := by
  obtain ⟨hl, h2⟩ := h
  refine ⟨by simpa using hl, fun j e x he hx => ?_⟩
  obtain ⟨hj, rfl⟩ := List.getElem?_eq_some_iff.1 he
  have hx' : E[j]? = some x := by simpa using hx
  obtain ⟨hj', rfl⟩ := Array.getElem?_eq_some_iff.1 hx'
  obtain ⟨_, q2, q3, _⟩ := h2 j hj
  exact ⟨q2, q3⟩

theorem run_checkInt {kt : TypeId} {kd kk : IntKind} {n : Int} (hd : P.underlying kt = some (.int kd)) (e : Bool) (d : Nat) : (Instr.checkKey e (d + 1) kt (.int kk n)).run P w = .ok () w := by
  unfold Instr.checkKey
  simp only [Sem.run_bind, run_underlying hd, Result.andThen]
  rfl

/-- What is looked up in a map. -/
theorem run_lookupA {t kt e : TypeId} {kd : IntKind} (hu : P.underlying t = some (.map kt e)) (hkd : P.underlying kt = some (.int kd)) {z : AV} (hz : zero1 P e = some z) (hs : Sim P base W w g h) {s : Slots} {m k : Opd} {M K : Value}
    (hm : Rep w g (ev s m) M) (hk : Rep w g (ev s k) K) {ok : Bool} {v : AV} (hv : pv (.lookup z m k ok) (ev s) h = some v) : ∃ V, (Instr.lookup t M K ok).run P w = .ok V w ∧ Rep w g v V := by
  simp only [pv] at hv
  split at hv
  · rename_i mi kk n h1 h2
    split at hv
    · rename_i hmi
      rw [h1] at hm
      rw [h2] at hk
      cases hk
      cases hm
      simp only [Option.bind_eq_some_iff, Option.map_eq_some_iff] at hv
      obtain ⟨es, hes, r, hr, rfl⟩ := hv
      obtain ⟨_, E, c, hb, hok⟩ := hs.map mi es hmi hes
      obtain ⟨q1, q2⟩ := hok.pairs
      simp only [zero1, Option.bind_eq_some_iff] at hz
      obtain ⟨Z, ⟨i, hi, hzz⟩, hZ⟩ := hz
      have hZr := (absL_rep (w := w) (g := g) hZ).1
      have hzv : (zeroValue e).run P w = .ok Z w := by simp [zeroValue, typeInfo, hi, hzz]
      rcases mapFind_rep (k0 := kd) q1 q2 hr with ⟨rfl, hf⟩ | ⟨j, v, x, rfl, hf, _, _, _, hrep⟩
      · cases ok
        · exact ⟨Z, by simp [Instr.lookup, run_underlying hu, MapKept.run_getObj_map hb, run_checkInt hkd, MapKept.run_findKey hkd hf, hzv, Result.andThen], by simpa using hZr⟩
        · refine ⟨.tuple #[Z, .bool false], by simp [Instr.lookup, run_underlying hu, MapKept.run_getObj_map hb, run_checkInt hkd, MapKept.run_findKey hkd hf, hzv, Result.andThen], ?_⟩
          refine .tup _ _ rfl fun k hk => ?_
          have : k = 0 ∨ k = 1 := by simp at hk; omega
          rcases this with rfl | rfl
          · exact hZr
          · exact .bool _
      · cases ok
        · exact ⟨x.val, by simp [Instr.lookup, run_underlying hu, MapKept.run_getObj_map hb, run_checkInt hkd, MapKept.run_findKey hkd hf, Result.andThen], by simpa using hrep⟩
        · refine ⟨.tuple #[x.val, .bool true], by simp [Instr.lookup, run_underlying hu, MapKept.run_getObj_map hb, run_checkInt hkd, MapKept.run_findKey hkd hf, Result.andThen], ?_⟩
          refine .tup _ _ rfl fun k hk => ?_
          have : k = 0 ∨ k = 1 := by simp at hk; omega
          rcases this with rfl | rfl
          · exact hrep
          · exact .bool _
    · cases hv
  · cases hv

/-! ### A map is made; an entry is put -/
def mapPut (kk : IntKind) (n : Int) (v : AV) (es : List (AV × AV)) : Option (List (AV × AV)) :=
  (mapFind kk n es 0).map fun r => match r with
    | some (i, _) => es.modify i fun e => (e.1, v)
    | none => es ++ [(.int kk n, v)]

theorem run_mapupA {t kt e : TypeId} {kd : IntKind} (hu : P.underlying t = some (.map kt e)) (hkd : P.underlying kt = some (.int kd)) {r : Nat} {E : Array MapEntry} {c : Nat} (hb : w.heap[r]? = some (.map E c)) {es es' : List (AV × AV)} (hok : MapOK w g es E)
    {kk : IntKind} {n : Int} {v : AV} {V : Value} (hv : Rep w g v V) (h1 : ok1 v = true) (hp : mapPut kk n v es = some es') :
    ∃ E' c', (Instr.mapUpdate t (.map (some r)) (.int kk n) V).run P w = .ok () { w with heap := w.heap.setIfInBounds r (.map E' c') } ∧ MapOK w g es' E' := by
  simp only [mapPut, Option.map_eq_some_iff] at hp
  obtain ⟨q, hq, rfl⟩ := hp
  obtain ⟨q1, q2⟩ := hok.pairs
  obtain ⟨hl, hall⟩ := hok
  rcases mapFind_rep (k0 := kd) q1 q2 hq with ⟨rfl, hf⟩ | ⟨j, v0, x, rfl, hf, he, hE, hkey, _⟩
  · refine ⟨E.push { key := .int kk n, val := V, born := c }, c + 1, by simp [Instr.mapUpdate, run_underlying hu, MapKept.run_getObj_map hb, run_checkInt hkd, MapKept.run_findKey hkd hf, MapKept.run_setObj_map _ hb, Result.andThen], ?_⟩
    refine ⟨by simp [hl], fun k hk => ?_⟩
    by_cases hlt : k < es.length
    · have hlt' : k < E.size := by omega
      simp only [List.getElem_append_left hlt, Array.getElem_push_lt hlt']
      exact hall k hlt
    · have : k = es.length := by simp at hk; omega
      subst this
      have e1 : (es ++ [(AV.int kk n, v)])[es.length]'hk = (AV.int kk n, v) := by simp
      have e2 : (E.push { key := Value.int kk n, val := V, born := c })[es.length]'(by simp; omega) = { key := .int kk n, val := V, born := c } := by
        simp only [hl, Array.getElem_push_eq]
      rw [e1, e2]
      exact ⟨⟨_, _, rfl⟩, .int _ _, hv, h1⟩
  · have hj : E[j]? = some x := by simpa using hE
    simp only [Nat.zero_add] at hf
    refine ⟨E.modify j (fun e => { e with key := .int kk n, val := V }), c, by simp [Instr.mapUpdate, run_underlying hu, MapKept.run_getObj_map hb, run_checkInt hkd, MapKept.run_findKey hkd hf, hj, hkey, MapKept.run_keyThatStays (d := .int kk) (k := .int kk n) rfl, MapKept.run_setObj_map _ hb, Result.andThen], ?_⟩
    refine ⟨by simp [hl], fun k hk => ?_⟩
    have hk' : k < es.length := by simpa using hk
    simp only [Nat.zero_add, List.getElem_modify, Array.getElem_modify]
    by_cases hkj : j = k
    · subst hkj
      obtain ⟨hj', hx⟩ := Array.getElem?_eq_some_iff.1 hj
      obtain ⟨p1, p2, p3, p4⟩ := hall j hk'
      simp only [if_pos]
      refine ⟨p1, ?_, hv, h1⟩
      rw [hx, hkey] at p2
      exact p2
    · simp only [if_neg hkj]
      exact hall k hk'

theorem mapSet_at (w : World) (B : Nat) (o : Obj) {o' : Obj} (h : w.heap[B]? = some o') :
    ({ w with heap := w.heap.setIfInBounds B o } : World).heap[B]? = some o ∧ ({ w with heap := w.heap.setIfInBounds B o } : World).heap.size = w.heap.size ∧ ∀ B', B' ≠ B → ({ w with heap := w.heap.setIfInBounds B o } : World).heap[B']? = w.heap[B']? := by
  have hlt := heap_lt h
  refine ⟨?_, by simp, fun B' hB' => ?_⟩
  · simp [hlt]
  · simp only [Array.getElem?_setIfInBounds]
    rw [if_neg (fun h => hB' h.symm)]

def H.newMap (h : H) : H := { h with mn := h.mn + 1, mp := fun m => if m = h.mn then some [] else h.mp m }
def H.setMap (h : H) (m : Nat) (es : List (AV × AV)) : H := { h with mp := fun m' => if m' = m then some es else h.mp m' }
def G.newMap (g : G) (B : Nat) : G := { g with mn := g.mn + 1, mp := fun m => if m = g.mn then B else g.mp m }

theorem Sim.allocMap (hs : Sim P base W w g h) (c : Nat) :
    Sim P base W (w.alloc (.map #[] c)) (g.newMap w.heap.size) h.newMap ∧ Ext base W w g (w.alloc (.map #[] c)) (g.newMap w.heap.size) := by
  have hmp : ∀ b, b < g.mn → (g.newMap w.heap.size).mp b = g.mp b := fun b hb => by
    show (if b = g.mn then _ else g.mp b) = _
    rw [if_neg (by omega)]
  have e : GExt w g (w.alloc (.map #[] c)) (g.newMap w.heap.size) := GExt.of_blk (by simp) (fun B hB => alloc_at hB) hs.roB (fun _ _ => rfl) (Nat.le_refl _) (fun _ _ => ⟨rfl, rfl⟩) (Nat.le_refl _) (fun _ _ => rfl) (Nat.le_refl _) (fun _ _ => rfl) (Nat.le_succ _) hmp
  have hnew : (g.newMap w.heap.size).mp h.mn = w.heap.size := by
    show (if h.mn = g.mn then _ else _) = _
    rw [if_pos hs.mn]
  have hlt : ∀ l r, l < h.mn → h.mp l = some r → g.mp l < w.heap.size := fun l r hl hr => by
    obtain ⟨_, _, _, h2, _⟩ := hs.map l r hl hr
    exact heap_lt h2
  refine ⟨⟨Nat.le_trans hs.base_le (by simp), hs.bn, hs.tn, hs.ln, by show h.mn + 1 = g.mn + 1; rw [hs.mn], ?_, hs.boxinj, ?_, hs.tokinj, ?_, ?_, hs.loopinj, ?_, ?_⟩, Ext.step hs e rfl rfl rfl (fun B hB => alloc_at hB) (fun _ _ => rfl)⟩
  · intro b cs' hb hc'
    obtain ⟨h1, h2, C', T', h3, h4, h5⟩ := hs.box b cs' hb hc'
    exact ⟨h1, h2, C', T', (alloc_at (heap_lt h3)).trans h3, h4.mono e, h5⟩
  · intro i hi
    obtain ⟨h1, h2, h3, h4, h5, C', T', h6, h7⟩ := hs.tok i hi
    exact ⟨h1, h2, h3, h4, h5, C', T', (alloc_at (heap_lt h6)).trans h6, h7⟩
  · intro B hB
    simp only [World.size_alloc] at hB
    exact hs.roB B (by omega)
  · intro l r' hl hr
    obtain ⟨h1, L', h2, h3⟩ := hs.loop l r' hl hr
    exact ⟨h1, L', (alloc_at (heap_lt h2)).trans h2, h3.mono e⟩
  · intro l r' hl hr
    by_cases hln : l = h.mn
    · subst hln
      have : r' = [] := by simpa [H.newMap, eq_comm] using hr
      subst this
      rw [hnew]
      exact ⟨hs.base_le, #[], c, alloc_new, rfl, fun k hk => by simp at hk⟩
    · have hl' : l < h.mn := by simp only [H.newMap] at hl; omega
      have hr' : h.mp l = some r' := by simpa [H.newMap, hln] using hr
      obtain ⟨h1, E', c', h2, h3⟩ := hs.map l r' hl' hr'
      rw [hmp l (hs.mn ▸ hl')]
      exact ⟨h1, E', c', (alloc_at (heap_lt h2)).trans h2, h3.mono e⟩
  · intro l l' hl hl' i1 i2 heq
    have hold : ∀ l, l < h.mn + 1 → (h.newMap.mp l).isSome = true → l ≠ h.mn → l < h.mn ∧ (h.mp l).isSome = true ∧ (g.newMap w.heap.size).mp l = g.mp l ∧ g.mp l < w.heap.size := fun l hl i hne => by
      have hl' : l < h.mn := by omega
      have i' : (h.mp l).isSome = true := by simpa [H.newMap, hne] using i
      obtain ⟨r', hr'⟩ := Option.isSome_iff_exists.1 i'
      exact ⟨hl', i', hmp l (hs.mn ▸ hl'), hlt l r' hl' hr'⟩
    by_cases h1 : l = h.mn <;> by_cases h2 : l' = h.mn
    · omega
    · obtain ⟨_, _, q1, q2⟩ := hold l' hl' i2 h2
      rw [h1, hnew, q1] at heq; omega
    · obtain ⟨_, _, q1, q2⟩ := hold l hl i1 h1
      rw [h2, hnew, q1] at heq; omega
    · obtain ⟨p1, p2, p3, _⟩ := hold l hl i1 h1
      obtain ⟨q1, q2, q3, _⟩ := hold l' hl' i2 h2
      rw [p3, q3] at heq
      exact hs.mapinj l l' p1 q1 p2 q2 heq

/-- A map's entries turn. -/
theorem Sim.setMap (hs : Sim P base W w g h) {m : Nat} {es : List (AV × AV)} (hm : m < h.mn) (hr : h.mp m = some es) {E' : Array MapEntry} {c' : Nat} {es' : List (AV × AV)} {w' : World}
    (hE : MapOK w g es' E') (hw : w'.heap[g.mp m]? = some (.map E' c')) (hsz : w'.heap.size = w.heap.size) (hoth : ∀ B, B ≠ g.mp m → w'.heap[B]? = w.heap[B]?)
    (hos : w'.os = w.os) (htp : w'.tape = w.tape) (hout : w'.output = w.output) : Sim P base W w' g (h.setMap m es') ∧ Ext base W w g w' g := by
  obtain ⟨hb, E, c, h2, _⟩ := hs.map m es hm hr
  have e : GExt w g w' g := by
    refine ⟨by omega, fun B k hk => ⟨hk, ?_⟩, Nat.le_refl _, fun _ _ => ⟨rfl, rfl⟩, Nat.le_refl _, fun _ _ => ⟨Nat.le_refl _, fun _ => rfl⟩, Nat.le_refl _, fun _ _ => rfl, Nat.le_refl _, fun _ _ => rfl⟩
    by_cases hB : B = g.mp m
    · subst hB
      simp only [World.cell?, hw, h2]
    · exact cell_of_heap (hoth B hB)
  refine ⟨⟨by have := hs.base_le; omega, hs.bn, hs.tn, hs.ln, hs.mn, ?_, hs.boxinj, ?_, hs.tokinj, ?_, ?_, hs.loopinj, ?_, ?_⟩, ⟨e, hos, htp, hout, fun B hB hW => hoth B fun heq => ?_, fun _ _ _ => rfl, fun B ds ho => ?_⟩⟩
  · intro b cs hb hc
    obtain ⟨h1, h2', C', T', h3, h4, h5⟩ := hs.box b cs hb hc
    have hne : g.bx b ≠ g.mp m := fun heq => by rw [heq, h2] at h3; cases h3
    exact ⟨h1, h2', C', T', (hoth _ hne).trans h3, h4.mono e, h5⟩
  · intro i hi
    obtain ⟨h1, h2', h3, h4, h5, C', T', h6, h7⟩ := hs.tok i hi
    have hne : (g.tk i).B ≠ g.mp m := fun heq => by rw [heq, h2] at h6; cases h6
    exact ⟨h1, h2', h3, h4, h5, C', T', (hoth _ hne).trans h6, h7⟩
  · intro B hB
    exact hs.roB B (by omega)
  · intro l2 q hl2 hq
    obtain ⟨h1, L2, h3, h4⟩ := hs.loop l2 q hl2 hq
    have hne : g.lp l2 ≠ g.mp m := fun heq => by rw [heq, h2] at h3; cases h3
    exact ⟨h1, L2, (hoth _ hne).trans h3, h4.mono e⟩
  · intro l2 q hl2 hq
    by_cases hll : l2 = m
    · subst hll
      have hq' : es' = q := by simpa [H.setMap] using hq
      subst hq'
      exact ⟨hb, E', c', hw, hE.mono e⟩
    · have hq' : h.mp l2 = some q := by simpa [H.setMap, hll] using hq
      obtain ⟨h1, L2, c2, h3, h4⟩ := hs.map l2 q hl2 hq'
      have hne : g.mp l2 ≠ g.mp m := fun heq => hll (hs.mapinj l2 m hl2 hm (by rw [hq']; rfl) (by rw [hr]; rfl) heq)
      exact ⟨h1, L2, c2, (hoth _ hne).trans h3, h4.mono e⟩
  · intro l1 l2 hl1 hl2 i1 i2 heq
    have key : ∀ l2, l2 < h.mn → ((h.setMap m es').mp l2).isSome = true → (h.mp l2).isSome = true := fun l2 _ i => by
      by_cases hll : l2 = m
      · subst hll; rw [hr]; rfl
      · simpa [H.setMap, hll] using i
    exact hs.mapinj l1 l2 hl1 hl2 (key l1 hl1 i1) (key l2 hl2 i2) heq
  · subst heq; omega
  · have : B ≠ g.mp m := fun heq => by
      subst heq
      rw [h2] at ho
      cases ho
    rw [hoth B this]; exact ho

end
end Go.Am
