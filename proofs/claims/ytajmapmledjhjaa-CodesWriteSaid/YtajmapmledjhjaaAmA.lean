/- The abstract machine: values by value, boxes, tokens of append; its reading in a world; how a world may go on. -/
import Derived.AtR
import Derived.Below
import Derived.KernelRfl
import Derived.Laws.Append
namespace Go.Am
open Go Go.RowKit

inductive Tok where
  | no
  | full
  | own (id : Nat)
  deriving DecidableEq

inductive AV where
  | undef
  | bool (b : Bool)
  | ubool
  | int (k : IntKind) (n : Int)
  | str (s : ByteArray)
  | sl (t : Tok) (es : List (List AV))
  | msl (b z off len : Nat)
  | nilptr
  | ptr (b o : Nat)
  | rop (cs : List AV)
  | nilfn
  | fn (f : FuncId) (first caps : List AV)
  | yld (l : Nat)
  | agg (cs : List AV)
  | tup (vs : List AV)
  | nilmap
  | map (m : Nat)
  | niface
  | iface (t : TypeId) (v : AV)

def AV.cells : AV → List AV
  | .agg cs => cs
  | v => [v]

/-- What one cell may hold. -/
def ok1 : AV → Bool
  | .agg _ | .tup _ | .undef => false
  | _ => true

inductive Opd where
  | t (i : Nat)
  | c (v : AV)

abbrev Slots := Nat → AV
def su (s : Slots) (i : Nat) (v : AV) : Slots := fun j => if j = i then v else s j
theorem su_get (s : Slots) (i : Nat) (v : AV) (j : Nat) : su s i v j = if j = i then v else s j := rfl
def ev (s : Slots) : Opd → AV
  | .t i => s i
  | .c v => v

inductive LK where
  | i
  | b
  | s
  deriving DecidableEq

inductive IOp where
  | mov (x : Opd)
  | pick (c a b : Opd)
  | alloc (z : List AV)
  | box (x : Opd)
  | build (z : List AV) (ps : List (Nat × Nat × Opd))
  | bsl (sz len : Nat) (z : List AV) (ps : List (Nat × Opd))
  | load (n : Nat) (ag : Bool) (x : Opd)
  | store (n : Nat) (a x : Opd)
  | bin (op : BinOp) (x y : Opd)
  | eq (ks : List LK) (ag neg : Bool) (x y : Opd)
  | un (op : UnOp) (x : Opd)
  | conv (k : IntKind) (x : Opd)
  | b2s (x : Opd)
  | s2b (x : Opd)
  | faddr (off : Nat) (x : Opd)
  | fld (off n : Nat) (ag : Bool) (x : Opd)
  | iaddr (sz : Nat) (x i : Opd)
  | iaddrA (len sz : Nat) (x i : Opd)
  | idxS (x i : Opd)
  | idxA (len sz : Nat) (ag : Bool) (x i : Opd)
  | slice (sz : Nat) (x : Opd) (lo hi mx : Option Opd)
  | sliceS (x : Opd) (lo hi : Option Opd)
  | ext (x : Opd) (n : Nat)
  | mkfn (f : FuncId) (first caps : List Opd)
  | mksl (sz bytes : Nat) (z : List AV) (len cap : Opd)
  | nilck (x : Opd)
  | len (x : Opd)
  | lenS (x : Opd)
  | lenA (n : Nat)
  | mn (xs : List Opd)
  | mx (xs : List Opd)
  | append (sz bytes : Nat) (s x : Opd)
  | call (f : Opd) (args : List Opd)
  | mkmap
  | lookup (z : AV) (m k : Opd) (ok : Bool)
  | mapup (m k v : Opd)
  | isnil (neg : Bool) (x : Opd)
  | clear (sz : Nat) (z : List AV) (x : Opd)
  | copy (sz : Nat) (d x : Opd)

structure Ins where
  dst : Option Nat
  g : Option (Nat × Bool)
  op : IOp

inductive IR where
  | skip
  | reg (is : List Ins)
  | dreg (is : List Ins) (aft : List (List Nat))
  | seq (a b : IR)
  | cond (c : Opd) (x y : IR)
  | blk (id : Nat) (b : IR)
  | loop (b : IR)
  | rngf (f : Opd) (ps : List Nat) (assign body : IR)
  | exit (id : Nat)
  | ret

structure LoopA where
  s : Slots
  ps : List Nat
  assign : IR
  body : IR
  st : LoopState
  pend : Option IR

structure H where
  bn : Nat
  bx : Nat → Option (List AV)
  tn : Nat
  tk : Nat → Nat
  ln : Nat
  lp : Nat → Option LoopA
  mn : Nat
  mp : Nat → Option (List (AV × AV))

def H.nil : H := { bn := 0, bx := fun _ => none, tn := 0, tk := fun _ => 0, ln := 0, lp := fun _ => none, mn := 0, mp := fun _ => none }

structure TokG where
  B : Nat
  o : Nat
  z : Nat
  n : Nat
  c : Nat

structure G where
  bn : Nat
  bx : Nat → Nat
  bs : Nat → Nat
  tn : Nat
  tk : Nat → TokG
  ln : Nat
  lp : Nat → Nat
  mn : Nat
  mp : Nat → Nat
  ro : Nat → Nat

/-- Cell k from the address on lies in memory that never turns. -/
def ROat (w : World) (g : G) (A : Option Addr) (k : Nat) (V : Value) : Prop :=
  ∃ B o, A = some ⟨B, o, none⟩ ∧ o + k < g.ro B ∧ w.cell? ⟨B, o + k, none⟩ = some V

def TokAt (g : G) (t : Tok) (A : Option Addr) (z n cap : Nat) : Prop :=
  match t with
  | .no => True
  | .full => cap = n
  | .own id => id < g.tn ∧ n ≤ (g.tk id).n ∧ (n = (g.tk id).n → A = some ⟨(g.tk id).B, (g.tk id).o, none⟩ ∧ cap = (g.tk id).c ∧ z = (g.tk id).z)

inductive Rep (w : World) (g : G) : AV → Value → Prop
  | undef (V : Value) : Rep w g .undef V
  | bool (b : Bool) : Rep w g (.bool b) (.bool b)
  | ubool (b : Bool) : Rep w g .ubool (.bool b)
  | int (k : IntKind) (n : Int) : Rep w g (.int k n) (.int k n)
  | str (s : ByteArray) : Rep w g (.str s) (.string s)
  | sl (t : Tok) (es : List (List AV)) (A : Option Addr) (cap z : Nat) (Vs : Nat → Value) :
      (0 < z ∧ ∀ e ∈ es, e.length = z) → es.length ≤ cap → (∀ k, k < es.flatten.length → ROat w g A k (Vs k)) →
      (∀ k (hk : k < es.flatten.length), Rep w g es.flatten[k] (Vs k)) → (∀ k (hk : k < es.flatten.length), ok1 es.flatten[k] = true) → TokAt g t A z es.length cap →
      Rep w g (.sl t es) (.slice A es.length cap)
  | msl (b z off len cap : Nat) : b < g.bn → len ≤ cap → off + cap * z ≤ g.bs b → Rep w g (.msl b z off len) (.slice (some ⟨g.bx b, off, none⟩) len cap)
  | nilptr : Rep w g .nilptr (.pointer none)
  | ptr (b o : Nat) : b < g.bn → Rep w g (.ptr b o) (.pointer (some ⟨g.bx b, o, none⟩))
  | rop (cs : List AV) (a : Addr) (Vs : Nat → Value) : (∀ k, k < cs.length → ROat w g (some a) k (Vs k)) →
      (∀ k (hk : k < cs.length), Rep w g cs[k] (Vs k)) → (∀ k (hk : k < cs.length), ok1 cs[k] = true) → Rep w g (.rop cs) (.pointer (some a))
  | nilfn : Rep w g .nilfn .nilFunc
  | fn (f : FuncId) (first caps : List AV) (F C : Array Value) (hF : first.length = F.size) (hC : caps.length = C.size) :
      (∀ k (hk : k < first.length), Rep w g first[k] F[k]) → (∀ k (hk : k < caps.length), Rep w g caps[k] C[k]) →
      Rep w g (.fn f first caps) (.func (.func f) F C)
  | yld (l : Nat) : l < g.ln → Rep w g (.yld l) (.func (.yield (g.lp l)) #[] #[])
  | agg (cs : List AV) (C : Array Value) (hC : cs.length = C.size) : (∀ k (hk : k < cs.length), Rep w g cs[k] C[k]) → (∀ k (hk : k < cs.length), ok1 cs[k] = true) → Rep w g (.agg cs) (.agg C)
  | tup (cs : List AV) (C : Array Value) (hC : cs.length = C.size) : (∀ k (hk : k < cs.length), Rep w g cs[k] C[k]) → Rep w g (.tup cs) (.tuple C)
  | nilmap : Rep w g .nilmap (.map none)
  | map (m : Nat) : m < g.mn → Rep w g (.map m) (.map (some (g.mp m)))
  | niface : Rep w g .niface .nilIface
  | iface (t : TypeId) (v : AV) (V : Value) : Rep w g v V → Rep w g (.iface t v) (.iface t V)

/-- A list of values, one by one. -/
def RepA (w : World) (g : G) (cs : List AV) (C : Array Value) : Prop := ∃ hC : cs.length = C.size, ∀ k (hk : k < cs.length), Rep w g cs[k] C[k]
/-- The first cells of a block, one by one. -/
def RepP (w : World) (g : G) (cs : List AV) (C : Array Value) : Prop := cs.length ≤ C.size ∧ ∀ (k : Nat) (v : AV), cs[k]? = some v → ∃ V : Value, C[k]? = some V ∧ Rep w g v V ∧ ok1 v = true
/-- Cells, one by one. -/
def RepC (w : World) (g : G) (cs : List AV) (C : Array Value) : Prop := RepA w g cs C ∧ ∀ k (hk : k < cs.length), ok1 cs[k] = true

/-- What the ghost keeps and the world keeps. -/
structure GExt (w : World) (g : G) (w' : World) (g' : G) : Prop where
  size : w.heap.size ≤ w'.heap.size
  ro : ∀ B k, k < g.ro B → k < g'.ro B ∧ w'.cell? ⟨B, k, none⟩ = w.cell? ⟨B, k, none⟩
  bn : g.bn ≤ g'.bn
  bx : ∀ b, b < g.bn → g'.bx b = g.bx b ∧ g'.bs b = g.bs b
  tn : g.tn ≤ g'.tn
  tk : ∀ i, i < g.tn → (g.tk i).n ≤ (g'.tk i).n ∧ ((g.tk i).n = (g'.tk i).n → g'.tk i = g.tk i)
  ln : g.ln ≤ g'.ln
  lp : ∀ l, l < g.ln → g'.lp l = g.lp l
  mn : g.mn ≤ g'.mn
  mp : ∀ m, m < g.mn → g'.mp m = g.mp m

theorem GExt.refl (w : World) (g : G) : GExt w g w g :=
  ⟨Nat.le_refl _, fun _ _ h => ⟨h, rfl⟩, Nat.le_refl _, fun _ _ => ⟨rfl, rfl⟩, Nat.le_refl _, fun _ _ => ⟨Nat.le_refl _, fun _ => rfl⟩, Nat.le_refl _, fun _ _ => rfl, Nat.le_refl _, fun _ _ => rfl⟩

theorem GExt.trans {w w1 w2 : World} {g g1 g2 : G} (h : GExt w g w1 g1) (k : GExt w1 g1 w2 g2) : GExt w g w2 g2 := by
  refine ⟨Nat.le_trans h.size k.size, fun B i hi => ?_, Nat.le_trans h.bn k.bn, fun b hb => ?_, Nat.le_trans h.tn k.tn, fun i hi => ?_, Nat.le_trans h.ln k.ln, fun l hl => ?_, Nat.le_trans h.mn k.mn, fun m hm => ?_⟩
  · have h1 := h.ro B i hi
    have h2 := k.ro B i h1.1
    exact ⟨h2.1, h2.2.trans h1.2⟩
  · exact ⟨(k.bx b (Nat.lt_of_lt_of_le hb h.bn)).1.trans (h.bx b hb).1, (k.bx b (Nat.lt_of_lt_of_le hb h.bn)).2.trans (h.bx b hb).2⟩
  · have h1 := h.tk i hi
    have h2 := k.tk i (Nat.lt_of_lt_of_le hi h.tn)
    refine ⟨Nat.le_trans h1.1 h2.1, fun e => ?_⟩
    have e1 : (g.tk i).n = (g1.tk i).n := by omega
    have e2 : (g1.tk i).n = (g2.tk i).n := by omega
    rw [h2.2 e2, h1.2 e1]
  · exact (k.lp l (Nat.lt_of_lt_of_le hl h.ln)).trans (h.lp l hl)
  · exact (k.mp m (Nat.lt_of_lt_of_le hm h.mn)).trans (h.mp m hm)

theorem ROat.mono {w w' : World} {g g' : G} {A : Option Addr} {k : Nat} {V : Value} (h : ROat w g A k V) (e : GExt w g w' g') : ROat w' g' A k V := by
  obtain ⟨B, o, hA, hr, hc⟩ := h
  have := e.ro B _ hr
  exact ⟨B, o, hA, this.1, this.2.trans hc⟩

theorem TokAt.mono {w w' : World} {g g' : G} {t : Tok} {A : Option Addr} {z n cap : Nat} (h : TokAt g t A z n cap) (e : GExt w g w' g') : TokAt g' t A z n cap := by
  cases t with
  | no => trivial
  | full => exact h
  | own id =>
    obtain ⟨h1, h2, h3⟩ := h
    have hk := e.tk id h1
    refine ⟨Nat.lt_of_lt_of_le h1 e.tn, by omega, fun hn => ?_⟩
    have e1 : (g.tk id).n = (g'.tk id).n := by omega
    rw [hk.2 e1]
    exact h3 (by omega)

theorem Rep.mono {w w' : World} {g g' : G} {v : AV} {V : Value} (h : Rep w g v V) (e : GExt w g w' g') : Rep w' g' v V := by
  induction h with
  | undef V => exact .undef V
  | bool b => exact .bool b
  | ubool b => exact .ubool b
  | int k n => exact .int k n
  | str s => exact .str s
  | sl t es A cap z Vs h1 h2 h3 _ h4 h5 ih => exact .sl t es A cap z Vs h1 h2 (fun k hk => (h3 k hk).mono e) ih h4 (h5.mono e)
  | msl b z off len cap hb hl hz => rw [← (e.bx b hb).1]; exact .msl b z off len cap (Nat.lt_of_lt_of_le hb e.bn) hl (by rw [(e.bx b hb).2]; exact hz)
  | nilptr => exact .nilptr
  | ptr b o hb => rw [← (e.bx b hb).1]; exact .ptr b o (Nat.lt_of_lt_of_le hb e.bn)
  | rop cs a Vs h1 _ h2 ih => exact .rop cs a Vs (fun k hk => (h1 k hk).mono e) ih h2
  | nilfn => exact .nilfn
  | fn f first caps F C hF hC _ _ ih1 ih2 => exact .fn f first caps F C hF hC ih1 ih2
  | yld l hl => rw [← e.lp l hl]; exact .yld l (Nat.lt_of_lt_of_le hl e.ln)
  | agg cs C hC _ h2 ih => exact .agg cs C hC ih h2
  | tup cs C hC _ ih => exact .tup cs C hC ih
  | nilmap => exact .nilmap
  | map m hm => rw [← e.mp m hm]; exact .map m (Nat.lt_of_lt_of_le hm e.mn)
  | niface => exact .niface
  | iface t v V _ ih => exact .iface t v V ih

theorem RepA.mono {w w' : World} {g g' : G} {cs : List AV} {C : Array Value} (h : RepA w g cs C) (e : GExt w g w' g') : RepA w' g' cs C :=
  ⟨h.1, fun k hk => (h.2 k hk).mono e⟩

theorem RepP.mono {w w' : World} {g g' : G} {cs : List AV} {C : Array Value} (h : RepP w g cs C) (e : GExt w g w' g') : RepP w' g' cs C :=
  ⟨h.1, fun k v hk => let ⟨V, h1, h2, h3⟩ := h.2 k v hk; ⟨V, h1, h2.mono e, h3⟩⟩

theorem RepC.mono {w w' : World} {g g' : G} {cs : List AV} {C : Array Value} (h : RepC w g cs C) (e : GExt w g w' g') : RepC w' g' cs C := ⟨h.1.mono e, h.2⟩

/-- The world goes on: below 'base' only blocks of W may turn. -/
structure Ext (base : Nat) (W : Nat → Prop) (w : World) (g : G) (w' : World) (g' : G) : Prop extends GExt w g w' g' where
  os : w'.os = w.os
  tape : w'.tape = w.tape
  output : w'.output = w.output
  blk : ∀ B, B < base → ¬ W B → w'.heap[B]? = w.heap[B]?
  roO : ∀ B, B < base → ¬ W B → g'.ro B = g.ro B
  obj : ∀ (B : Nat) (ds : Option (List Deferred)), w.heap[B]? = some (Obj.deferred ds) → w'.heap[B]? = some (Obj.deferred ds)

theorem Ext.refl (base : Nat) (W : Nat → Prop) (w : World) (g : G) : Ext base W w g w g :=
  ⟨GExt.refl w g, rfl, rfl, rfl, fun _ _ _ => rfl, fun _ _ _ => rfl, fun _ _ h => h⟩

theorem Ext.trans {base : Nat} {W : Nat → Prop} {w w1 w2 : World} {g g1 g2 : G} (h : Ext base W w g w1 g1) (k : Ext base W w1 g1 w2 g2) : Ext base W w g w2 g2 :=
  ⟨h.toGExt.trans k.toGExt, k.os.trans h.os, k.tape.trans h.tape, k.output.trans h.output, fun B hB hW => (k.blk B hB hW).trans (h.blk B hB hW), fun B hB hW => (k.roO B hB hW).trans (h.roO B hB hW),
    fun B ds ho => k.obj B ds (h.obj B ds ho)⟩

end Go.Am
