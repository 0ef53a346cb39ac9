/- What the functions that the statement reaches do: their contracts; and what follows of it. -/
import Derived.Test.YtaepkklbckgbhaaDoorSProgWords3
import Derived.Test.YtaepkklbckgbhaaDoorK4
import Derived.Test.YtaepkklbckgbhaaDoorSProgWords1
/- PRINTED BY types.py, a program of this work: the program's types as Lean structures; their cells. -/
namespace Go.Proofs
open Go Go.RowKit Go.Am

def encN (n : Int) : List AV := [.int .i64 n]
theorem encN_len (n : Int) : (encN n).length = 1 := rfl
@[simp] theorem wk_encN (n : Int) : List.map wk (encN n) = encN n := by simp [encN]
@[simp] theorem wk_encN' : List.map wk ∘ encN = encN := by funext x; simp
theorem pure_encN (n : Int) : ∀ v ∈ encN n, PureV v := pures1 (.int _ _)
theorem pure_w64' (n : Nat) : ∀ v ∈ w64 n, PureV v := pures1 (.int _ _)
theorem pure_arr (l : List Int) : ∀ v ∈ l.map (AV.int .i64), PureV v := fun v hv => by
  obtain ⟨n, _, rfl⟩ := List.mem_map.1 hv
  exact .int _ _
theorem pures_app {a b : List AV} (ha : ∀ v ∈ a, PureV v) (hb : ∀ v ∈ b, PureV v) : ∀ v ∈ a ++ b, PureV v := fun v hv => by
  rcases List.mem_append.1 hv with h | h
  · exact ha v h
  · exact hb v h
theorem pure_sl {α : Type} {f : α → List AV} (hf : ∀ x, ∀ v ∈ f x, PureV v) (l : List α) : PureV (.sl .no (l.map f)) := .sl (fun i h => by cases h) fun e he v hv => by
  obtain ⟨x, _, rfl⟩ := List.mem_map.1 he
  exact hf x v hv
@[simp] theorem wk_arr (l : List Int) : List.map wk (l.map (AV.int .i64)) = l.map (AV.int .i64) := by
  rw [List.map_map]; apply List.map_congr_left; intro x _; simp
@[simp] theorem wk_arr' : wk ∘ AV.int .i64 = AV.int .i64 := by funext x; simp
theorem lens_map {α : Type} {f : α → List AV} {n : Nat} (hf : ∀ x, (f x).length = n) (l : List α) : ∀ e ∈ l.map f, e.length = n := fun e he => by
  obtain ⟨x, _, rfl⟩ := List.mem_map.1 he
  exact hf x

/-! ### Shapes -/
theorem sh_int {v : AV} (h : (Sh.int .i64).is v) : ∃ n, v = .int .i64 n ∧ inI n := by
  obtain ⟨n, rfl, hw⟩ := h
  refine ⟨n, rfl, ?_⟩
  simp [Lit.wf, IntKind.min, IntKind.max, IntKind.signed, IntKind.bits] at hw
  exact ⟨by omega, by omega⟩
theorem sh_word {v : AV} (h : (Sh.int .u64).is v) : ∃ n : Nat, v = .int .u64 n ∧ n < 18446744073709551616 := by
  obtain ⟨n, rfl, hw⟩ := h
  simp [Lit.wf, IntKind.min, IntKind.max, IntKind.signed, IntKind.bits] at hw
  refine ⟨n.toNat, ?_, by omega⟩
  congr 1
  omega
theorem sh_list {α : Type} {f : α → List AV} {sh : List Sh} {wf : α → Prop} (hf : ∀ vs, isL sh vs → ∃ x, vs = f x ∧ wf x) : ∀ {es : List (List AV)}, (∀ e ∈ es, isL sh e) → ∃ l : List α, es = l.map f ∧ ∀ x ∈ l, wf x
  | [], _ => ⟨[], rfl, fun x hx => by cases hx⟩
  | e :: es, h => by
    obtain ⟨l, rfl, hl⟩ := sh_list hf (es := es) fun e he => h e (List.mem_cons_of_mem _ he)
    obtain ⟨x, rfl, hx⟩ := hf e (h e (List.mem_cons_self ..))
    exact ⟨x :: l, rfl, fun y hy => by
      rcases List.mem_cons.1 hy with rfl | hy
      · exact hx
      · exact hl y hy⟩
theorem isL_app : ∀ {a b : List Sh} {vs : List AV}, isL (a ++ b) vs → ∃ x y, vs = x ++ y ∧ isL a x ∧ isL b y
  | [], b, vs, h => ⟨[], vs, rfl, rfl, h⟩
  | s :: a, b, vs, h => by
    simp only [List.cons_append, isL] at h
    obtain ⟨v, r, rfl, h1, h2⟩ := h
    obtain ⟨x, y, rfl, h3, h4⟩ := isL_app h2
    refine ⟨v :: x, y, rfl, ?_, h4⟩
    simp only [isL]
    exact ⟨v, x, rfl, h1, h3⟩
theorem isL_one {s : Sh} {vs : List AV} (h : isL [s] vs) : ∃ v, vs = [v] ∧ s.is v := by
  simp only [isL] at h
  obtain ⟨v, r, rfl, h1, rfl⟩ := h
  exact ⟨v, rfl, h1⟩
theorem isL_encN {vs : List AV} (h : isL [.int .i64] vs) : ∃ n, vs = encN n ∧ inI n := by
  obtain ⟨v, rfl, h1⟩ := isL_one h
  obtain ⟨n, rfl, hn⟩ := sh_int h1
  exact ⟨n, rfl, hn⟩
theorem isL_w64 {vs : List AV} (h : isL [.int .u64] vs) : ∃ n, vs = w64 n ∧ n < 18446744073709551616 := by
  obtain ⟨v, rfl, h1⟩ := isL_one h
  obtain ⟨n, rfl, hn⟩ := sh_word h1
  exact ⟨n, rfl, hn⟩
theorem isL_arr : ∀ {n : Nat} {vs : List AV}, isL (List.replicate n (.int .i64)) vs → ∃ l : List Int, vs = l.map (AV.int .i64) ∧ l.length = n ∧ ∀ x ∈ l, inI x
  | 0, vs, h => by
    simp only [List.replicate, isL] at h
    exact ⟨[], h, rfl, fun x hx => by cases hx⟩
  | n + 1, vs, h => by
    simp only [List.replicate, isL] at h
    obtain ⟨v, r, rfl, h1, h2⟩ := h
    obtain ⟨l, rfl, h3, h4⟩ := isL_arr h2
    obtain ⟨x, rfl, hx⟩ := sh_int h1
    exact ⟨x :: l, rfl, by simp [h3], fun y hy => by
      rcases List.mem_cons.1 hy with rfl | hy
      · exact hx
      · exact h4 y hy⟩
theorem isL_sl {α : Type} {f : α → List AV} {sh : List Sh} {wf : α → Prop} (hf : ∀ vs, isL sh vs → ∃ x, vs = f x ∧ wf x) {vs : List AV} (h : isL [.sl sh] vs) : ∃ l : List α, vs = [.sl .no (l.map f)] ∧ l.length ≤ maxLen ∧ ∀ x ∈ l, wf x := by
  obtain ⟨v, rfl, h1⟩ := isL_one h
  simp only [Sh.is] at h1
  obtain ⟨es, rfl, h2, h3⟩ := h1
  obtain ⟨l, rfl, h4⟩ := sh_list hf h3
  exact ⟨l, rfl, by simpa using h2, h4⟩

/-! ### KeyT -/
structure KeyT where
  arg : Int
  base : Int
  deriving DecidableEq

def encKeyT (x : KeyT) : List AV := [.int .i64 x.arg, .int .i64 x.base]
def KeyT.wf (x : KeyT) : Prop := inI x.arg ∧ inI x.base
@[simp] theorem encKeyT_len (x : KeyT) : (encKeyT x).length = 2 := rfl
@[simp] theorem wk_encKeyT (x : KeyT) : List.map wk (encKeyT x) = encKeyT x := by simp [encKeyT]
@[simp] theorem wk_encKeyT' : List.map wk ∘ encKeyT = encKeyT := by funext x; simp
theorem pure_encKeyT (x : KeyT) : ∀ v ∈ encKeyT x, PureV v := (pures_cons (.int _ _) (pures_cons (.int _ _) pures_nil))
def shKeyT : List Sh := [.int .i64] ++ [.int .i64]
theorem isL_encKeyT {vs : List AV} (h : isL shKeyT vs) : ∃ x : KeyT, vs = encKeyT x ∧ x.wf := by
  unfold shKeyT at h
  obtain ⟨vs, v1, rfl, h, h1⟩ := isL_app h
  have h0 := h
  obtain ⟨u0, rfl, w0⟩ := isL_encN h0
  obtain ⟨u1, rfl, w1⟩ := isL_encN h1
  refine ⟨⟨u0, u1⟩, ?_, ⟨w0, w1⟩⟩
  simp [encKeyT, encN]

/-! ### Inst -/
structure Inst where
  op : Int
  a : Int
  b : Int
  c : Int
  k : KeyT
  l : KeyT
  x : Int
  deriving DecidableEq

def encInst (x : Inst) : List AV := [.int .i64 x.op, .int .i64 x.a, .int .i64 x.b, .int .i64 x.c, .int .i64 x.k.arg, .int .i64 x.k.base, .int .i64 x.l.arg, .int .i64 x.l.base, .int .i64 x.x]
def Inst.wf (x : Inst) : Prop := inI x.op ∧ inI x.a ∧ inI x.b ∧ inI x.c ∧ x.k.wf ∧ x.l.wf ∧ inI x.x
@[simp] theorem encInst_len (x : Inst) : (encInst x).length = 9 := rfl
@[simp] theorem wk_encInst (x : Inst) : List.map wk (encInst x) = encInst x := by simp [encInst]
@[simp] theorem wk_encInst' : List.map wk ∘ encInst = encInst := by funext x; simp
theorem pure_encInst (x : Inst) : ∀ v ∈ encInst x, PureV v := (pures_cons (.int _ _) (pures_cons (.int _ _) (pures_cons (.int _ _) (pures_cons (.int _ _) (pures_cons (.int _ _) (pures_cons (.int _ _) (pures_cons (.int _ _) (pures_cons (.int _ _) (pures_cons (.int _ _) pures_nil)))))))))
def shInst : List Sh := [.int .i64] ++ [.int .i64] ++ [.int .i64] ++ [.int .i64] ++ shKeyT ++ shKeyT ++ [.int .i64]
theorem isL_encInst {vs : List AV} (h : isL shInst vs) : ∃ x : Inst, vs = encInst x ∧ x.wf := by
  unfold shInst at h
  obtain ⟨vs, v6, rfl, h, h6⟩ := isL_app h
  obtain ⟨vs, v5, rfl, h, h5⟩ := isL_app h
  obtain ⟨vs, v4, rfl, h, h4⟩ := isL_app h
  obtain ⟨vs, v3, rfl, h, h3⟩ := isL_app h
  obtain ⟨vs, v2, rfl, h, h2⟩ := isL_app h
  obtain ⟨vs, v1, rfl, h, h1⟩ := isL_app h
  have h0 := h
  obtain ⟨u0, rfl, w0⟩ := isL_encN h0
  obtain ⟨u1, rfl, w1⟩ := isL_encN h1
  obtain ⟨u2, rfl, w2⟩ := isL_encN h2
  obtain ⟨u3, rfl, w3⟩ := isL_encN h3
  obtain ⟨u4, rfl, w4⟩ := isL_encKeyT h4
  obtain ⟨u5, rfl, w5⟩ := isL_encKeyT h5
  obtain ⟨u6, rfl, w6⟩ := isL_encN h6
  refine ⟨⟨u0, u1, u2, u3, u4, u5, u6⟩, ?_, ⟨w0, w1, w2, w3, w4, w5, w6⟩⟩
  simp [encInst, encN, encKeyT]

/-! ### SpanT -/
structure SpanT where
  lo : KeyT
  hi : KeyT
  write : Bool
  deriving DecidableEq

def encSpanT (x : SpanT) : List AV := [.int .i64 x.lo.arg, .int .i64 x.lo.base, .int .i64 x.hi.arg, .int .i64 x.hi.base, .bool x.write]
def SpanT.wf (x : SpanT) : Prop := x.lo.wf ∧ x.hi.wf
@[simp] theorem encSpanT_len (x : SpanT) : (encSpanT x).length = 5 := rfl
@[simp] theorem wk_encSpanT (x : SpanT) : List.map wk (encSpanT x) = encSpanT x := by simp [encSpanT]
@[simp] theorem wk_encSpanT' : List.map wk ∘ encSpanT = encSpanT := by funext x; simp
theorem pure_encSpanT (x : SpanT) : ∀ v ∈ encSpanT x, PureV v := (pures_cons (.int _ _) (pures_cons (.int _ _) (pures_cons (.int _ _) (pures_cons (.int _ _) (pures_cons (.bool _) pures_nil)))))
def shSpanT : List Sh := shKeyT ++ shKeyT ++ [.bool]
theorem isL_encSpanT {vs : List AV} (h : isL shSpanT vs) : ∃ x : SpanT, vs = encSpanT x ∧ x.wf := by
  unfold shSpanT at h
  obtain ⟨vs, v2, rfl, h, h2⟩ := isL_app h
  obtain ⟨vs, v1, rfl, h, h1⟩ := isL_app h
  have h0 := h
  obtain ⟨u0, rfl, w0⟩ := isL_encKeyT h0
  obtain ⟨u1, rfl, w1⟩ := isL_encKeyT h1
  obtain ⟨_, rfl, u2, rfl⟩ := isL_one h2
  refine ⟨⟨u0, u1, u2⟩, ?_, ⟨w0, w1⟩⟩
  simp [encSpanT, encKeyT]

/-! ### Stp -/
structure Stp where
  code : List Inst
  foot : List SpanT
  deriving DecidableEq

def encStp (x : Stp) : List AV := [.sl .no (x.code.map encInst), .sl .no (x.foot.map encSpanT)]
def Stp.wf (x : Stp) : Prop := (x.code.length ≤ maxLen ∧ ∀ y ∈ x.code, y.wf) ∧ (x.foot.length ≤ maxLen ∧ ∀ y ∈ x.foot, y.wf)
@[simp] theorem encStp_len (x : Stp) : (encStp x).length = 2 := rfl
@[simp] theorem wk_encStp (x : Stp) : List.map wk (encStp x) = encStp x := by simp [encStp]
@[simp] theorem wk_encStp' : List.map wk ∘ encStp = encStp := by funext x; simp
theorem pure_encStp (x : Stp) : ∀ v ∈ encStp x, PureV v := (pures_cons (pure_sl pure_encInst _) (pures_cons (pure_sl pure_encSpanT _) pures_nil))
def shStp : List Sh := [.sl shInst] ++ [.sl shSpanT]
theorem isL_encStp {vs : List AV} (h : isL shStp vs) : ∃ x : Stp, vs = encStp x ∧ x.wf := by
  unfold shStp at h
  obtain ⟨vs, v1, rfl, h, h1⟩ := isL_app h
  have h0 := h
  obtain ⟨u0, rfl, w0⟩ := isL_sl (fun vs h => isL_encInst h) h0
  obtain ⟨u1, rfl, w1⟩ := isL_sl (fun vs h => isL_encSpanT h) h1
  refine ⟨⟨u0, u1⟩, ?_, ⟨w0, w1⟩⟩
  simp [encStp]

/-! ### Cls -/
structure Cls where
  name : ByteArray
  args : Int
  steps : List Stp
  comps : List Stp
  resume : Bool
  deriving DecidableEq

def encCls (x : Cls) : List AV := [.str x.name, .int .i64 x.args, .sl .no (x.steps.map encStp), .sl .no (x.comps.map encStp), .bool x.resume]
def Cls.wf (x : Cls) : Prop := x.name.size ≤ maxLen ∧ inI x.args ∧ (x.steps.length ≤ maxLen ∧ ∀ y ∈ x.steps, y.wf) ∧ (x.comps.length ≤ maxLen ∧ ∀ y ∈ x.comps, y.wf)
@[simp] theorem encCls_len (x : Cls) : (encCls x).length = 5 := rfl
@[simp] theorem wk_encCls (x : Cls) : List.map wk (encCls x) = encCls x := by simp [encCls]
@[simp] theorem wk_encCls' : List.map wk ∘ encCls = encCls := by funext x; simp
theorem pure_encCls (x : Cls) : ∀ v ∈ encCls x, PureV v := (pures_cons (.str _) (pures_cons (.int _ _) (pures_cons (pure_sl pure_encStp _) (pures_cons (pure_sl pure_encStp _) (pures_cons (.bool _) pures_nil)))))
def shCls : List Sh := [.str] ++ [.int .i64] ++ [.sl shStp] ++ [.sl shStp] ++ [.bool]
theorem isL_encCls {vs : List AV} (h : isL shCls vs) : ∃ x : Cls, vs = encCls x ∧ x.wf := by
  unfold shCls at h
  obtain ⟨vs, v4, rfl, h, h4⟩ := isL_app h
  obtain ⟨vs, v3, rfl, h, h3⟩ := isL_app h
  obtain ⟨vs, v2, rfl, h, h2⟩ := isL_app h
  obtain ⟨vs, v1, rfl, h, h1⟩ := isL_app h
  have h0 := h
  obtain ⟨_, rfl, u0, rfl, w0⟩ := isL_one h0
  obtain ⟨u1, rfl, w1⟩ := isL_encN h1
  obtain ⟨u2, rfl, w2⟩ := isL_sl (fun vs h => isL_encStp h) h2
  obtain ⟨u3, rfl, w3⟩ := isL_sl (fun vs h => isL_encStp h) h3
  obtain ⟨_, rfl, u4, rfl⟩ := isL_one h4
  refine ⟨⟨u0, u1, u2, u3, u4⟩, ?_, ⟨w0, w1, w2, w3⟩⟩
  simp [encCls, encN]

/-! ### Ctlg -/
structure Ctlg where
  classes : List Cls
  breaks : List Int
  deriving DecidableEq

def encCtlg (x : Ctlg) : List AV := [.sl .no (x.classes.map encCls)] ++ x.breaks.map (AV.int .i64)
def Ctlg.wf (x : Ctlg) : Prop := (x.classes.length ≤ maxLen ∧ ∀ y ∈ x.classes, y.wf) ∧ (x.breaks.length = 16 ∧ ∀ y ∈ x.breaks, inI y)
theorem encCtlg_len {x : Ctlg} (h : x.wf) : (encCtlg x).length = 17 := by
  simp only [Ctlg.wf] at h
  simp [encCtlg, h]
@[simp] theorem wk_encCtlg (x : Ctlg) : List.map wk (encCtlg x) = encCtlg x := by simp [encCtlg]
@[simp] theorem wk_encCtlg' : List.map wk ∘ encCtlg = encCtlg := by funext x; simp
theorem pure_encCtlg (x : Ctlg) : ∀ v ∈ encCtlg x, PureV v := (pures_app (pures_cons (pure_sl pure_encCls _) pures_nil) (pure_arr _))
def shCtlg : List Sh := [.sl shCls] ++ List.replicate 16 (.int .i64)
theorem isL_encCtlg {vs : List AV} (h : isL shCtlg vs) : ∃ x : Ctlg, vs = encCtlg x ∧ x.wf := by
  unfold shCtlg at h
  obtain ⟨vs, v1, rfl, h, h1⟩ := isL_app h
  have h0 := h
  obtain ⟨u0, rfl, w0⟩ := isL_sl (fun vs h => isL_encCls h) h0
  obtain ⟨u1, rfl, w1⟩ := isL_arr h1
  refine ⟨⟨u0, u1⟩, ?_, ⟨w0, w1⟩⟩
  simp [encCtlg]

/-! ### Spn -/
structure Spn where
  lo : Int
  hi : Int
  deriving DecidableEq

def encSpn (x : Spn) : List AV := [.int .i64 x.lo, .int .i64 x.hi]
def Spn.wf (x : Spn) : Prop := inI x.lo ∧ inI x.hi
@[simp] theorem encSpn_len (x : Spn) : (encSpn x).length = 2 := rfl
@[simp] theorem wk_encSpn (x : Spn) : List.map wk (encSpn x) = encSpn x := by simp [encSpn]
@[simp] theorem wk_encSpn' : List.map wk ∘ encSpn = encSpn := by funext x; simp
theorem pure_encSpn (x : Spn) : ∀ v ∈ encSpn x, PureV v := (pures_cons (.int _ _) (pures_cons (.int _ _) pures_nil))
def shSpn : List Sh := [.int .i64] ++ [.int .i64]
theorem isL_encSpn {vs : List AV} (h : isL shSpn vs) : ∃ x : Spn, vs = encSpn x ∧ x.wf := by
  unfold shSpn at h
  obtain ⟨vs, v1, rfl, h, h1⟩ := isL_app h
  have h0 := h
  obtain ⟨u0, rfl, w0⟩ := isL_encN h0
  obtain ⟨u1, rfl, w1⟩ := isL_encN h1
  refine ⟨⟨u0, u1⟩, ?_, ⟨w0, w1⟩⟩
  simp [encSpn, encN]

/-! ### Nod -/
structure Nod where
  saga : Int
  cls : Int
  step : Int
  back : Bool
  reads : List Spn
  writes : List Spn
  deriving DecidableEq

def encNod (x : Nod) : List AV := [.int .i64 x.saga, .int .i64 x.cls, .int .i64 x.step, .bool x.back, .sl .no (x.reads.map encSpn), .sl .no (x.writes.map encSpn)]
def Nod.wf (x : Nod) : Prop := inI x.saga ∧ inI x.cls ∧ inI x.step ∧ (x.reads.length ≤ maxLen ∧ ∀ y ∈ x.reads, y.wf) ∧ (x.writes.length ≤ maxLen ∧ ∀ y ∈ x.writes, y.wf)
@[simp] theorem encNod_len (x : Nod) : (encNod x).length = 6 := rfl
@[simp] theorem wk_encNod (x : Nod) : List.map wk (encNod x) = encNod x := by simp [encNod]
@[simp] theorem wk_encNod' : List.map wk ∘ encNod = encNod := by funext x; simp
theorem pure_encNod (x : Nod) : ∀ v ∈ encNod x, PureV v := (pures_cons (.int _ _) (pures_cons (.int _ _) (pures_cons (.int _ _) (pures_cons (.bool _) (pures_cons (pure_sl pure_encSpn _) (pures_cons (pure_sl pure_encSpn _) pures_nil))))))
def shNod : List Sh := [.int .i64] ++ [.int .i64] ++ [.int .i64] ++ [.bool] ++ [.sl shSpn] ++ [.sl shSpn]
theorem isL_encNod {vs : List AV} (h : isL shNod vs) : ∃ x : Nod, vs = encNod x ∧ x.wf := by
  unfold shNod at h
  obtain ⟨vs, v5, rfl, h, h5⟩ := isL_app h
  obtain ⟨vs, v4, rfl, h, h4⟩ := isL_app h
  obtain ⟨vs, v3, rfl, h, h3⟩ := isL_app h
  obtain ⟨vs, v2, rfl, h, h2⟩ := isL_app h
  obtain ⟨vs, v1, rfl, h, h1⟩ := isL_app h
  have h0 := h
  obtain ⟨u0, rfl, w0⟩ := isL_encN h0
  obtain ⟨u1, rfl, w1⟩ := isL_encN h1
  obtain ⟨u2, rfl, w2⟩ := isL_encN h2
  obtain ⟨_, rfl, u3, rfl⟩ := isL_one h3
  obtain ⟨u4, rfl, w4⟩ := isL_sl (fun vs h => isL_encSpn h) h4
  obtain ⟨u5, rfl, w5⟩ := isL_sl (fun vs h => isL_encSpn h) h5
  refine ⟨⟨u0, u1, u2, u3, u4, u5⟩, ?_, ⟨w0, w1, w2, w4, w5⟩⟩
  simp [encNod, encN]

/-! ### Chg -/
structure Chg where
  key : Int
  gone : Bool
  value : Int
  deriving DecidableEq

def encChg (x : Chg) : List AV := [.int .i64 x.key, .bool x.gone, .int .i64 x.value]
def Chg.wf (x : Chg) : Prop := inI x.key ∧ inI x.value
@[simp] theorem encChg_len (x : Chg) : (encChg x).length = 3 := rfl
@[simp] theorem wk_encChg (x : Chg) : List.map wk (encChg x) = encChg x := by simp [encChg]
@[simp] theorem wk_encChg' : List.map wk ∘ encChg = encChg := by funext x; simp
theorem pure_encChg (x : Chg) : ∀ v ∈ encChg x, PureV v := (pures_cons (.int _ _) (pures_cons (.bool _) (pures_cons (.int _ _) pures_nil)))
def shChg : List Sh := [.int .i64] ++ [.bool] ++ [.int .i64]
theorem isL_encChg {vs : List AV} (h : isL shChg vs) : ∃ x : Chg, vs = encChg x ∧ x.wf := by
  unfold shChg at h
  obtain ⟨vs, v2, rfl, h, h2⟩ := isL_app h
  obtain ⟨vs, v1, rfl, h, h1⟩ := isL_app h
  have h0 := h
  obtain ⟨u0, rfl, w0⟩ := isL_encN h0
  obtain ⟨_, rfl, u1, rfl⟩ := isL_one h1
  obtain ⟨u2, rfl, w2⟩ := isL_encN h2
  refine ⟨⟨u0, u1, u2⟩, ?_, ⟨w0, w2⟩⟩
  simp [encChg, encN]

/-! ### Recd -/
structure Recd where
  kind : Int
  saga : Int
  cls : Int
  args : List Int
  why : Int
  node : Nod
  regs : List Int
  changes : List Chg
  deriving DecidableEq

def encRecd (x : Recd) : List AV := [.int .i64 x.kind, .int .i64 x.saga, .int .i64 x.cls, .sl .no (x.args.map encN), .int .i64 x.why, .int .i64 x.node.saga, .int .i64 x.node.cls, .int .i64 x.node.step, .bool x.node.back, .sl .no (x.node.reads.map encSpn), .sl .no (x.node.writes.map encSpn)] ++ x.regs.map (AV.int .i64) ++ [.sl .no (x.changes.map encChg)]
def Recd.wf (x : Recd) : Prop := inI x.kind ∧ inI x.saga ∧ inI x.cls ∧ (x.args.length ≤ maxLen ∧ ∀ y ∈ x.args, inI y) ∧ inI x.why ∧ x.node.wf ∧ (x.regs.length = 4 ∧ ∀ y ∈ x.regs, inI y) ∧ (x.changes.length ≤ maxLen ∧ ∀ y ∈ x.changes, y.wf)
theorem encRecd_len {x : Recd} (h : x.wf) : (encRecd x).length = 16 := by
  simp only [Recd.wf] at h
  simp [encRecd, h]
@[simp] theorem wk_encRecd (x : Recd) : List.map wk (encRecd x) = encRecd x := by simp [encRecd]
@[simp] theorem wk_encRecd' : List.map wk ∘ encRecd = encRecd := by funext x; simp
theorem pure_encRecd (x : Recd) : ∀ v ∈ encRecd x, PureV v := (pures_app (pures_app (pures_cons (.int _ _) (pures_cons (.int _ _) (pures_cons (.int _ _) (pures_cons (pure_sl pure_encN _) (pures_cons (.int _ _) (pures_cons (.int _ _) (pures_cons (.int _ _) (pures_cons (.int _ _) (pures_cons (.bool _) (pures_cons (pure_sl pure_encSpn _) (pures_cons (pure_sl pure_encSpn _) pures_nil))))))))))) (pure_arr _)) (pures_cons (pure_sl pure_encChg _) pures_nil))
def shRecd : List Sh := [.int .i64] ++ [.int .i64] ++ [.int .i64] ++ [.sl [.int .i64]] ++ [.int .i64] ++ shNod ++ List.replicate 4 (.int .i64) ++ [.sl shChg]
theorem isL_encRecd {vs : List AV} (h : isL shRecd vs) : ∃ x : Recd, vs = encRecd x ∧ x.wf := by
  unfold shRecd at h
  obtain ⟨vs, v7, rfl, h, h7⟩ := isL_app h
  obtain ⟨vs, v6, rfl, h, h6⟩ := isL_app h
  obtain ⟨vs, v5, rfl, h, h5⟩ := isL_app h
  obtain ⟨vs, v4, rfl, h, h4⟩ := isL_app h
  obtain ⟨vs, v3, rfl, h, h3⟩ := isL_app h
  obtain ⟨vs, v2, rfl, h, h2⟩ := isL_app h
  obtain ⟨vs, v1, rfl, h, h1⟩ := isL_app h
  have h0 := h
  obtain ⟨u0, rfl, w0⟩ := isL_encN h0
  obtain ⟨u1, rfl, w1⟩ := isL_encN h1
  obtain ⟨u2, rfl, w2⟩ := isL_encN h2
  obtain ⟨u3, rfl, w3⟩ := isL_sl (fun vs h => isL_encN h) h3
  obtain ⟨u4, rfl, w4⟩ := isL_encN h4
  obtain ⟨u5, rfl, w5⟩ := isL_encNod h5
  obtain ⟨u6, rfl, w6⟩ := isL_arr h6
  obtain ⟨u7, rfl, w7⟩ := isL_sl (fun vs h => isL_encChg h) h7
  refine ⟨⟨u0, u1, u2, u3, u4, u5, u6, u7⟩, ?_, ⟨w0, w1, w2, w3, w4, w5, w6, w7⟩⟩
  simp [encRecd, encN, encNod]

/-! ### Frm -/
structure Frm where
  kind : Int
  words : List Nat
  deriving DecidableEq

def encFrm (x : Frm) : List AV := [.int .i64 x.kind, .sl .no (x.words.map w64)]
def Frm.wf (x : Frm) : Prop := inI x.kind ∧ (x.words.length ≤ maxLen ∧ ∀ y ∈ x.words, y < 18446744073709551616)
@[simp] theorem encFrm_len (x : Frm) : (encFrm x).length = 2 := rfl
@[simp] theorem wk_encFrm (x : Frm) : List.map wk (encFrm x) = encFrm x := by simp [encFrm]
@[simp] theorem wk_encFrm' : List.map wk ∘ encFrm = encFrm := by funext x; simp
theorem pure_encFrm (x : Frm) : ∀ v ∈ encFrm x, PureV v := (pures_cons (.int _ _) (pures_cons (pure_sl pure_w64' _) pures_nil))
def shFrm : List Sh := [.int .i64] ++ [.sl [.int .u64]]
theorem isL_encFrm {vs : List AV} (h : isL shFrm vs) : ∃ x : Frm, vs = encFrm x ∧ x.wf := by
  unfold shFrm at h
  obtain ⟨vs, v1, rfl, h, h1⟩ := isL_app h
  have h0 := h
  obtain ⟨u0, rfl, w0⟩ := isL_encN h0
  obtain ⟨u1, rfl, w1⟩ := isL_sl (fun vs h => isL_w64 h) h1
  refine ⟨⟨u0, u1⟩, ?_, ⟨w0, w1⟩⟩
  simp [encFrm, encN]

/-! ### Par -/
structure Par where
  key : Int
  value : Int
  deriving DecidableEq

def encPar (x : Par) : List AV := [.int .i64 x.key, .int .i64 x.value]
def Par.wf (x : Par) : Prop := inI x.key ∧ inI x.value
@[simp] theorem encPar_len (x : Par) : (encPar x).length = 2 := rfl
@[simp] theorem wk_encPar (x : Par) : List.map wk (encPar x) = encPar x := by simp [encPar]
@[simp] theorem wk_encPar' : List.map wk ∘ encPar = encPar := by funext x; simp
theorem pure_encPar (x : Par) : ∀ v ∈ encPar x, PureV v := (pures_cons (.int _ _) (pures_cons (.int _ _) pures_nil))
def shPar : List Sh := [.int .i64] ++ [.int .i64]
theorem isL_encPar {vs : List AV} (h : isL shPar vs) : ∃ x : Par, vs = encPar x ∧ x.wf := by
  unfold shPar at h
  obtain ⟨vs, v1, rfl, h, h1⟩ := isL_app h
  have h0 := h
  obtain ⟨u0, rfl, w0⟩ := isL_encN h0
  obtain ⟨u1, rfl, w1⟩ := isL_encN h1
  refine ⟨⟨u0, u1⟩, ?_, ⟨w0, w1⟩⟩
  simp [encPar, encN]

/-! ### Rept -/
structure Rept where
  committed : Int
  compensated : Int
  opn : Int
  steps : Int
  backs : Int
  aborts : List Int
  keys : Int
  deriving DecidableEq

def encRept (x : Rept) : List AV := [.int .i64 x.committed, .int .i64 x.compensated, .int .i64 x.opn, .int .i64 x.steps, .int .i64 x.backs] ++ x.aborts.map (AV.int .i64) ++ [.int .i64 x.keys]
def Rept.wf (x : Rept) : Prop := inI x.committed ∧ inI x.compensated ∧ inI x.opn ∧ inI x.steps ∧ inI x.backs ∧ (x.aborts.length = 16 ∧ ∀ y ∈ x.aborts, inI y) ∧ inI x.keys
theorem encRept_len {x : Rept} (h : x.wf) : (encRept x).length = 22 := by
  simp only [Rept.wf] at h
  simp [encRept, h]
@[simp] theorem wk_encRept (x : Rept) : List.map wk (encRept x) = encRept x := by simp [encRept]
@[simp] theorem wk_encRept' : List.map wk ∘ encRept = encRept := by funext x; simp
theorem pure_encRept (x : Rept) : ∀ v ∈ encRept x, PureV v := (pures_app (pures_app (pures_cons (.int _ _) (pures_cons (.int _ _) (pures_cons (.int _ _) (pures_cons (.int _ _) (pures_cons (.int _ _) pures_nil))))) (pure_arr _)) (pures_cons (.int _ _) pures_nil))
def shRept : List Sh := [.int .i64] ++ [.int .i64] ++ [.int .i64] ++ [.int .i64] ++ [.int .i64] ++ List.replicate 16 (.int .i64) ++ [.int .i64]
theorem isL_encRept {vs : List AV} (h : isL shRept vs) : ∃ x : Rept, vs = encRept x ∧ x.wf := by
  unfold shRept at h
  obtain ⟨vs, v6, rfl, h, h6⟩ := isL_app h
  obtain ⟨vs, v5, rfl, h, h5⟩ := isL_app h
  obtain ⟨vs, v4, rfl, h, h4⟩ := isL_app h
  obtain ⟨vs, v3, rfl, h, h3⟩ := isL_app h
  obtain ⟨vs, v2, rfl, h, h2⟩ := isL_app h
  obtain ⟨vs, v1, rfl, h, h1⟩ := isL_app h
  have h0 := h
  obtain ⟨u0, rfl, w0⟩ := isL_encN h0
  obtain ⟨u1, rfl, w1⟩ := isL_encN h1
  obtain ⟨u2, rfl, w2⟩ := isL_encN h2
  obtain ⟨u3, rfl, w3⟩ := isL_encN h3
  obtain ⟨u4, rfl, w4⟩ := isL_encN h4
  obtain ⟨u5, rfl, w5⟩ := isL_arr h5
  obtain ⟨u6, rfl, w6⟩ := isL_encN h6
  refine ⟨⟨u0, u1, u2, u3, u4, u5, u6⟩, ?_, ⟨w0, w1, w2, w3, w4, w5, w6⟩⟩
  simp [encRept, encN]

end Go.Proofs

/- The document's example of an instruction's text. -/
namespace Go.Proofs
open Go Go.RowKit Go.Am

theorem itoa_ok (i : Nat) (hi : i < 100) : PCall Tryd.prog 47 [.int .i64 i] (.str ⟨(Lib.decDigits i).toArray⟩) := num_call Tryd.hbItoa i fun w => Tryd.itoaAt i w hi
theorem format_ok (i : Nat) (hi : i < 100) : PCall Tryd.prog 48 [.int .i64 i, .int .i64 10] (.str ⟨(Lib.decDigits i).toArray⟩) := num2_call Tryd.hbFormat i 10 fun w => Tryd.formatAt i w hi
theorem dig0 : Lib.decDigits 0 = [48] := by unfold Lib.decDigits; rfl
theorem dig2 : Lib.decDigits 2 = [50] := by unfold Lib.decDigits; rfl
theorem dig5 : Lib.decDigits 5 = [53] := by unfold Lib.decDigits; rfl

theorem textR_ok : PCall Tryd.prog 46 [.int .i64 2] (.str ⟨#[114, 50]⟩) := by
  refine PCall.run hb46 ok46 (by simp) (pures1 (.int _ _)) (.str _) ?_
  have h := itoa_ok 2 (by omega)
  rw [dig2] at h
  have s1 : (⟨#[114]⟩ : ByteArray).size = 1 := rfl
  have s2 : (⟨#[50]⟩ : ByteArray).size = 1 := rfl
  have e : (⟨#[114]⟩ : ByteArray) ++ ⟨#[50]⟩ = ⟨#[114, 50]⟩ := by decide
  simp -implicitDefEqProofs []
  refine callQ_p h (by simp) ?_
  simp -implicitDefEqProofs [s1, s2, e]
theorem keyT_ok : PCall Tryd.prog 50 [.agg (encKeyT ⟨0, 5⟩)] (.str ⟨#[53, 43, 97, 48]⟩) := by
  refine PCall.run hb50 ok50 (by simp) (pures1 (.agg (pure_encKeyT _))) (.str _) ?_
  have h5 := itoa_ok 5 (by omega)
  have h0 := itoa_ok 0 (by omega)
  rw [dig5] at h5
  rw [dig0] at h0
  have s1 : (⟨#[43, 97]⟩ : ByteArray).size = 2 := rfl
  have s2 : (⟨#[48]⟩ : ByteArray).size = 1 := rfl
  have s3 : (⟨#[43, 97, 48]⟩ : ByteArray).size = 3 := rfl
  have s4 : (⟨#[53]⟩ : ByteArray).size = 1 := rfl
  have e1 : (⟨#[43, 97]⟩ : ByteArray) ++ ⟨#[48]⟩ = ⟨#[43, 97, 48]⟩ := by decide
  have e2 : (⟨#[53]⟩ : ByteArray) ++ ⟨#[43, 97, 48]⟩ = ⟨#[53, 43, 97, 48]⟩ := by decide
  simp -implicitDefEqProofs [encKeyT, H.nil]
  refine callQ_p h5 (by simp) ?_
  simp -implicitDefEqProofs []
  refine callQ_p h0 (by simp) ?_
  simp -implicitDefEqProofs [s1, s2, s3, s4, e1, e2]
theorem words_get : PCall Tryd.prog 49 [.sl .no [[.str ⟨#[103, 101, 116]⟩], [.str ⟨#[114, 50]⟩], [.str ⟨#[53, 43, 97, 48]⟩]]] (.str ⟨#[103, 101, 116, 32, 114, 50, 32, 53, 43, 97, 48]⟩) := by
  refine PCall.run hb49 ok49 (by simp) (pures1 (.sl (fun _ e => by cases e) (by simp [PureV.str]))) (.str _) ?_
  have hj := join_call Tryd.hbJoin Tryd.joinsAt [⟨#[103, 101, 116]⟩, ⟨#[114, 50]⟩, ⟨#[53, 43, 97, 48]⟩] ⟨#[32]⟩ (by simp) (by simp) (by decide)
  have e : (⟨(Lib.join (([⟨#[103, 101, 116]⟩, ⟨#[114, 50]⟩, ⟨#[53, 43, 97, 48]⟩] : List ByteArray).map (·.data.toList)) (⟨#[32]⟩ : ByteArray).data.toList).toArray⟩ : ByteArray) = ⟨#[103, 101, 116, 32, 114, 50, 32, 53, 43, 97, 48]⟩ := by decide
  rw [e] at hj
  simp -implicitDefEqProofs []
  refine callQ_p hj (by simp) ?_
  simp -implicitDefEqProofs []

theorem alive9_ok : PCall Tryd.prog 7 [] (.bool true) := by
  have ht : PCall Tryd.prog 26 [.agg (encInst ⟨1, 2, 0, 0, ⟨0, 5⟩, ⟨0, 0⟩, 0⟩)] (.str ⟨#[103, 101, 116, 32, 114, 50, 32, 53, 43, 97, 48]⟩) := by
    refine PCall.run hb26 ok26 (by simp) (pures1 (.agg (pure_encInst _))) (.str _) ?_
    have h0 := format_ok 0 (by omega)
    simp -implicitDefEqProofs [encInst, H.nil]
    refine callQ_p h0 (by simp) ?_
    simp -implicitDefEqProofs []
    refine run_dreg c26_d6 ?_
    simp -implicitDefEqProofs []
    refine callD_p textR_ok (by simp) ?_
    simp -implicitDefEqProofs []
    refine lcallQ_p keyT_ok (by simp [encKeyT]) ?_
    simp -implicitDefEqProofs []
    refine lcallQ_p words_get (by simp) ?_
    simp -implicitDefEqProofs []
  refine PCall.run hb7 ok7 (by simp) (fun v hv => by cases hv) (.bool _) ?_
  simp -implicitDefEqProofs []
  refine callQ_p ht (by simp [encInst]) ?_
  simp -implicitDefEqProofs []
end Go.Proofs

/- Reading of codes, as lists: what is read of words; a text's bytes in words. -/
namespace Go.Proofs
open Go Go.RowKit Go.Am

def numF (f : Nat → Nat) (a : Nat) : Nat → Nat
  | 0 => 0
  | k + 1 => f a + 256 * numF f (a + 1) k

theorem num_numF (s : ByteArray) : ∀ (k a : Nat), num s a k = numF (byteAt s) a k
  | 0, _ => rfl
  | k + 1, a => by simp only [num, numF, num_numF s k (a + 1)]

theorem numF_congr {f g : Nat → Nat} : ∀ {k a : Nat}, (∀ j, a ≤ j → j < a + k → f j = g j) → numF f a k = numF g a k
  | 0, _, _ => rfl
  | k + 1, a, h => by
    simp only [numF]
    rw [h a (by omega) (by omega), numF_congr (k := k) (a := a + 1) fun j h1 h2 => h j (by omega) (by omega)]

theorem numF_inj {f g : Nat → Nat} (hf : ∀ j, f j < 256) (hg : ∀ j, g j < 256) : ∀ {k a : Nat}, numF f a k = numF g a k → ∀ j, a ≤ j → j < a + k → f j = g j
  | 0, a, _, j, h1, h2 => by omega
  | k + 1, a, h, j, h1, h2 => by
    simp only [numF] at h
    have hfa := hf a
    have hga := hg a
    by_cases hj : j = a
    · subst hj; omega
    · exact numF_inj hf hg (k := k) (a := a + 1) (by omega) j (by omega) (by omega)

theorem numF_digit {f : Nat → Nat} (hf : ∀ j, f j < 256) : ∀ {i k a : Nat}, i < k → numF f a k / 256 ^ i % 256 = f (a + i)
  | _, 0, _, h => by omega
  | 0, k + 1, a, _ => by
    have := hf a
    simp only [numF, Nat.pow_zero, Nat.div_one, Nat.add_zero]
    omega
  | i + 1, k + 1, a, h => by
    have h1 := hf a
    have e : numF f a (k + 1) / 256 ^ (i + 1) = numF f (a + 1) k / 256 ^ i := by
      rw [Nat.pow_succ, Nat.mul_comm, ← Nat.div_div_eq_div_mul]
      congr 1
      simp only [numF]
      omega
    rw [e, numF_digit hf (i := i) (k := k) (a := a + 1) (by omega)]
    congr 1
    omega

theorem numF_whole {f : Nat → Nat} : ∀ {k w a : Nat}, w < 256 ^ k → (∀ j, j < k → f (a + j) = w / 256 ^ j % 256) → numF f a k = w
  | 0, w, _, h, _ => by simp only [Nat.pow_zero] at h; simp only [numF]; omega
  | k + 1, w, a, h, hf => by
    have h0 := hf 0 (by omega)
    have ih := numF_whole (f := f) (k := k) (w := w / 256) (a := a + 1) (by rw [Nat.pow_succ] at h; omega) fun j hj => by
      have := hf (j + 1) (by omega)
      rw [show a + 1 + j = a + (j + 1) by omega, this, Nat.pow_succ, Nat.mul_comm, ← Nat.div_div_eq_div_mul]
    simp only [Nat.add_zero, Nat.pow_zero, Nat.div_one] at h0
    simp only [numF, ih, h0]
    omega

/-- The byte at a place of words. -/
def wbyte (ws : List Nat) (j : Nat) : Nat := ws.getD (j / 8) 0 / 256 ^ (j % 8) % 256
theorem wbyte_lt (ws : List Nat) (j : Nat) : wbyte ws j < 256 := Nat.mod_lt _ (by omega)
def unpack (n : Nat) (ws : List Nat) : ByteArray := ⟨((List.range n).map fun j => UInt8.ofNat (wbyte ws j)).toArray⟩
theorem unpack_size (n : Nat) (ws : List Nat) : (unpack n ws).size = n := by
  show (unpack n ws).data.size = n
  simp [unpack]
theorem byteAt_unpack (n : Nat) (ws : List Nat) (j : Nat) : byteAt (unpack n ws) j = if j < n then wbyte ws j else 0 := by
  by_cases h : j < n
  · have h' : (unpack n ws).data[j]? = some (UInt8.ofNat (wbyte ws j)) := by simp [unpack, h]
    have := wbyte_lt ws j
    simp only [byteAt, h', if_pos h, UInt8.toNat_ofNat']
    omega
  · rw [byteAt_out (by rw [unpack_size]; exact h), if_neg h]

theorem wbyte_word {ws : List Nat} (hw : ∀ w ∈ ws, w < 18446744073709551616) (i : Nat) : numF (wbyte ws) (8 * i) 8 = ws.getD i 0 := by
  refine numF_whole (k := 8) ?_ fun j hj => ?_
  · by_cases h : i < ws.length
    · rw [List.getD_eq_getElem?_getD, List.getElem?_eq_getElem h]
      exact hw _ (List.getElem_mem h)
    · rw [List.getD_eq_getElem?_getD, List.getElem?_eq_none (by omega)]
      simp
  · unfold wbyte
    rw [show (8 * i + j) / 8 = i by omega, show (8 * i + j) % 8 = j by omega]

/-- Words that are a text's: what is behind its bytes is 0. -/
theorem packed_unpack {n : Nat} {ws : List Nat} (hl : ws.length = (n + 7) / 8) (hw : ∀ w ∈ ws, w < 18446744073709551616) : packed (unpack n ws) = ws ↔ ∀ j, n ≤ j → j < 8 * ws.length → wbyte ws j = 0 := by
  have hlen : (packed (unpack n ws)).length = ws.length := by rw [packed_len, unpack_size, hl]
  have hat : ∀ i, i < ws.length → (packed (unpack n ws)).getD i 0 = numF (byteAt (unpack n ws)) (8 * i) 8 := fun i hi => by
    rw [List.getD_eq_getElem?_getD, packed]
    rw [unpack_size, ← hl]
    simp only [List.getElem?_map, List.getElem?_range hi, Option.map_some, Option.getD_some, num_numF]
  constructor
  · intro h j h1 h2
    have e := hat (j / 8) (by omega)
    rw [h, ← wbyte_word hw] at e
    have := numF_inj (wbyte_lt ws) (fun j => byteAt_lt _ j) e j (by omega) (by omega)
    rw [this, byteAt_unpack, if_neg (by omega)]
  · intro h
    refine List.ext_getElem hlen fun i h1 h2 => ?_
    have e := hat i h2
    rw [List.getD_eq_getElem?_getD, List.getElem?_eq_getElem h1] at e
    have e2 := wbyte_word hw i
    rw [List.getD_eq_getElem?_getD, List.getElem?_eq_getElem h2] at e2
    simp only [Option.getD_some] at e e2
    rw [e, ← e2]
    refine numF_congr fun j h3 h4 => ?_
    rw [byteAt_unpack]
    split
    · rfl
    · exact (h j (by omega) (by omega)).symm

theorem bytes_ext {s t : ByteArray} (hs : s.size = t.size) (h : ∀ j, j < s.size → byteAt s j = byteAt t j) : s = t := by
  have : s.data = t.data := by
    refine Array.ext hs fun j h1 h2 => ?_
    have := h j h1
    simp only [byteAt, Array.getElem?_eq_getElem h1, Array.getElem?_eq_getElem h2] at this
    exact UInt8.toNat_inj.1 this
  cases s; cases t; simp_all

theorem wbyte_packed (s : ByteArray) {j : Nat} (h : j < 8 * ((s.size + 7) / 8)) : wbyte (packed s) j = byteAt s j := by
  have e : (packed s).getD (j / 8) 0 = numF (byteAt s) (8 * (j / 8)) 8 := by
    rw [List.getD_eq_getElem?_getD, packed]
    have hi : j / 8 < (s.size + 7) / 8 := by omega
    simp only [List.getElem?_map, List.getElem?_range hi, Option.map_some, Option.getD_some, num_numF]
  unfold wbyte
  rw [e, numF_digit (byteAt_lt s) (by omega)]
  congr 1
  omega

theorem unpack_packed (s : ByteArray) : unpack s.size (packed s) = s := by
  refine bytes_ext (unpack_size _ _) fun j hj => ?_
  rw [unpack_size] at hj
  rw [byteAt_unpack, if_pos hj, wbyte_packed s (by omega)]

theorem packed_lt (s : ByteArray) : ∀ w ∈ packed s, w < 18446744073709551616 := fun w hw => by
  obtain ⟨i, _, rfl⟩ := List.mem_map.1 hw
  exact num8_lt s _

/-! ### What is read -/
def backI (w : Nat) : Int := if w % 2 = 0 then ((w / 2 : Nat) : Int) else -((w / 2 : Nat) : Int) - 1
theorem backI_signed (x : Int) : backI (signed x) = x := by
  unfold backI signed
  split <;> split <;> omega
theorem backI_in {w : Nat} (h : w < 18446744073709551616) : -9223372036854775808 ≤ backI w ∧ backI w ≤ 9223372036854775807 := by
  unfold backI
  split <;> omega
theorem signed_lt {x : Int} (h1 : -9223372036854775808 ≤ x) (h2 : x ≤ 9223372036854775807) : signed x < 18446744073709551616 := by
  unfold signed
  split <;> omega

/-- What is read of words: a value, and what is left. -/
abbrev Rd (α : Type) := List Nat → Option (α × List Nat)
def rdCount (most : Int) : Rd Int
  | [] => none
  | w :: l => if 0 ≤ most ∧ (w : Int) ≤ most then some ((w : Int), l) else none
def rdSigned : Rd Int
  | [] => none
  | w :: l => some (backI w, l)
def rdFlag : Rd Bool := fun l => (rdCount 1 l).map fun p => (decide (p.1 = 1), p.2)
def rdTake (n : Nat) : Rd (List Nat) := fun l => if n ≤ l.length then some (l.take n, l.drop n) else none
def rdWords (most : Int) : Rd (List Nat) := fun l => (rdCount most l).bind fun p => rdTake p.1.toNat p.2
def rdText : Rd ByteArray := fun l => (rdCount 64 l).bind fun p => (rdTake ((p.1.toNat + 7) / 8) p.2).bind fun q => if packed (unpack p.1.toNat q.1) = q.1 then some (unpack p.1.toNat q.1, q.2) else none

theorem rdText_write (s : ByteArray) (l : List Nat) : rdText (textW s ++ l) = some (cut64 s, l) := by
  have h := cut64_size s
  have hl := packed_len (cut64 s)
  have e1 : rdCount 64 (textW s ++ l) = some (((cut64 s).size : Int), packed (cut64 s) ++ l) := by
    simp only [textW, rdCount, List.cons_append]
    rw [if_pos (by omega)]
  simp only [rdText, e1, Option.bind_some, Int.toNat_natCast]
  have e2 : rdTake (((cut64 s).size + 7) / 8) (packed (cut64 s) ++ l) = some (packed (cut64 s), l) := by
    unfold rdTake
    rw [if_pos (by rw [List.length_append, hl]; omega), ← hl, List.take_left, List.drop_left]
  rw [e2]
  simp only [Option.bind_some, unpack_packed, if_true]
end Go.Proofs
