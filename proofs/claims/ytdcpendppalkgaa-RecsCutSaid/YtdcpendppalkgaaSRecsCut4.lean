/- What the functions that the statement reaches do: their contracts; and what follows of it. -/
import Derived.Test.YtdcpendppalkgaaSRecsCut3
import Derived.Test.YtdcpendppalkgaaK4
/- PRINTED BY types.py, a program of this work: the program's types as Lean structures; their cells. -/
namespace Go.Proofs
open Go Go.RowKit Go.Am

def encN (n : Int) : List AV := [.int .i64 n]
@[simp] theorem wk_encN (n : Int) : List.map wk (encN n) = encN n := by simp [encN]
@[simp] theorem wk_encN' : List.map wk ∘ encN = encN := by funext x; simp
theorem pure_encN (n : Int) : ∀ v ∈ encN n, PureV v := pures1 (.int _ _)
theorem pure_w64' (n : Nat) : ∀ v ∈ w64 n, PureV v := pures1 (.int _ _)
theorem pure_arr (l : List Int) : ∀ v ∈ l.map (AV.int .i64), PureV v := fun v hv => by
  obtain ⟨n, _, rfl⟩ := List.mem_map.1 hv
  exact .int _ _
theorem pures_app {a b : List AV} (ha : ∀ v ∈ a, PureV v) (hb : ∀ v ∈ b, PureV v) : ∀ v ∈ a ++ b, PureV v := fun v hv => by
  rcases List.mem_append.1 hv with h | h
  · exact ha v h
  · exact hb v h
theorem pure_sl {α : Type} {f : α → List AV} (hf : ∀ x, ∀ v ∈ f x, PureV v) (l : List α) : PureV (.sl .no (l.map f)) := .sl (fun i h => by cases h) fun e he v hv => by
  obtain ⟨x, _, rfl⟩ := List.mem_map.1 he
  exact hf x v hv
@[simp] theorem wk_arr (l : List Int) : List.map wk (l.map (AV.int .i64)) = l.map (AV.int .i64) := by
  rw [List.map_map]; apply List.map_congr_left; intro x _; simp
@[simp] theorem wk_arr' : wk ∘ AV.int .i64 = AV.int .i64 := by funext x; simp
/-! ### Shapes -/
theorem sh_int {v : AV} (h : (Sh.int .i64).is v) : ∃ n, v = .int .i64 n ∧ inI n := by
  obtain ⟨n, rfl, hw⟩ := h
  refine ⟨n, rfl, ?_⟩
  simp [Lit.wf, IntKind.min, IntKind.max, IntKind.signed, IntKind.bits] at hw
  exact ⟨by omega, by omega⟩
theorem sh_word {v : AV} (h : (Sh.int .u64).is v) : ∃ n : Nat, v = .int .u64 n ∧ n < 18446744073709551616 := by
  obtain ⟨n, rfl, hw⟩ := h
  simp [Lit.wf, IntKind.min, IntKind.max, IntKind.signed, IntKind.bits] at hw
  refine ⟨n.toNat, ?_, by omega⟩
  congr 1
  omega
theorem sh_list {α : Type} {f : α → List AV} {sh : List Sh} {wf : α → Prop} (hf : ∀ vs, isL sh vs → ∃ x, vs = f x ∧ wf x) : ∀ {es : List (List AV)}, (∀ e ∈ es, isL sh e) → ∃ l : List α, es = l.map f ∧ ∀ x ∈ l, wf x
  | [], _ => ⟨[], rfl, fun x hx => by cases hx⟩
  | e :: es, h => by
    obtain ⟨l, rfl, hl⟩ := sh_list hf (es := es) fun e he => h e (List.mem_cons_of_mem _ he)
    obtain ⟨x, rfl, hx⟩ := hf e (h e (List.mem_cons_self ..))
    exact ⟨x :: l, rfl, fun y hy => by
      rcases List.mem_cons.1 hy with rfl | hy
      · exact hx
      · exact hl y hy⟩
theorem isL_app : ∀ {a b : List Sh} {vs : List AV}, isL (a ++ b) vs → ∃ x y, vs = x ++ y ∧ isL a x ∧ isL b y
  | [], b, vs, h => ⟨[], vs, rfl, rfl, h⟩
  | s :: a, b, vs, h => by
    simp only [List.cons_append, isL] at h
    obtain ⟨v, r, rfl, h1, h2⟩ := h
    obtain ⟨x, y, rfl, h3, h4⟩ := isL_app h2
    refine ⟨v :: x, y, rfl, ?_, h4⟩
    simp only [isL]
    exact ⟨v, x, rfl, h1, h3⟩
theorem isL_one {s : Sh} {vs : List AV} (h : isL [s] vs) : ∃ v, vs = [v] ∧ s.is v := by
  simp only [isL] at h
  obtain ⟨v, r, rfl, h1, rfl⟩ := h
  exact ⟨v, rfl, h1⟩
theorem isL_encN {vs : List AV} (h : isL [.int .i64] vs) : ∃ n, vs = encN n ∧ inI n := by
  obtain ⟨v, rfl, h1⟩ := isL_one h
  obtain ⟨n, rfl, hn⟩ := sh_int h1
  exact ⟨n, rfl, hn⟩
theorem isL_w64 {vs : List AV} (h : isL [.int .u64] vs) : ∃ n, vs = w64 n ∧ n < 18446744073709551616 := by
  obtain ⟨v, rfl, h1⟩ := isL_one h
  obtain ⟨n, rfl, hn⟩ := sh_word h1
  exact ⟨n, rfl, hn⟩
theorem isL_arr : ∀ {n : Nat} {vs : List AV}, isL (List.replicate n (.int .i64)) vs → ∃ l : List Int, vs = l.map (AV.int .i64) ∧ l.length = n ∧ ∀ x ∈ l, inI x
  | 0, vs, h => by
    simp only [List.replicate, isL] at h
    exact ⟨[], h, rfl, fun x hx => by cases hx⟩
  | n + 1, vs, h => by
    simp only [List.replicate, isL] at h
    obtain ⟨v, r, rfl, h1, h2⟩ := h
    obtain ⟨l, rfl, h3, h4⟩ := isL_arr h2
    obtain ⟨x, rfl, hx⟩ := sh_int h1
    exact ⟨x :: l, rfl, by simp [h3], fun y hy => by
      rcases List.mem_cons.1 hy with rfl | hy
      · exact hx
      · exact h4 y hy⟩
theorem isL_sl {α : Type} {f : α → List AV} {sh : List Sh} {wf : α → Prop} (hf : ∀ vs, isL sh vs → ∃ x, vs = f x ∧ wf x) {vs : List AV} (h : isL [.sl sh] vs) : ∃ l : List α, vs = [.sl .no (l.map f)] ∧ l.length ≤ maxLen ∧ ∀ x ∈ l, wf x := by
  obtain ⟨v, rfl, h1⟩ := isL_one h
  simp only [Sh.is] at h1
  obtain ⟨es, rfl, h2, h3⟩ := h1
  obtain ⟨l, rfl, h4⟩ := sh_list hf h3
  exact ⟨l, rfl, by simpa using h2, h4⟩

/-! ### KeyT -/
structure KeyT where
  arg : Int
  base : Int
  deriving DecidableEq

def encKeyT (x : KeyT) : List AV := [.int .i64 x.arg, .int .i64 x.base]
def KeyT.wf (x : KeyT) : Prop := inI x.arg ∧ inI x.base
@[simp] theorem encKeyT_len (x : KeyT) : (encKeyT x).length = 2 := rfl
@[simp] theorem wk_encKeyT (x : KeyT) : List.map wk (encKeyT x) = encKeyT x := by simp [encKeyT]
@[simp] theorem wk_encKeyT' : List.map wk ∘ encKeyT = encKeyT := by funext x; simp
/-! ### Inst -/
structure Inst where
  op : Int
  a : Int
  b : Int
  c : Int
  k : KeyT
  l : KeyT
  x : Int
  deriving DecidableEq

def encInst (x : Inst) : List AV := [.int .i64 x.op, .int .i64 x.a, .int .i64 x.b, .int .i64 x.c, .int .i64 x.k.arg, .int .i64 x.k.base, .int .i64 x.l.arg, .int .i64 x.l.base, .int .i64 x.x]
def Inst.wf (x : Inst) : Prop := inI x.op ∧ inI x.a ∧ inI x.b ∧ inI x.c ∧ x.k.wf ∧ x.l.wf ∧ inI x.x
@[simp] theorem encInst_len (x : Inst) : (encInst x).length = 9 := rfl
@[simp] theorem wk_encInst (x : Inst) : List.map wk (encInst x) = encInst x := by simp [encInst]
@[simp] theorem wk_encInst' : List.map wk ∘ encInst = encInst := by funext x; simp
/-! ### SpanT -/
structure SpanT where
  lo : KeyT
  hi : KeyT
  write : Bool
  deriving DecidableEq

def encSpanT (x : SpanT) : List AV := [.int .i64 x.lo.arg, .int .i64 x.lo.base, .int .i64 x.hi.arg, .int .i64 x.hi.base, .bool x.write]
def SpanT.wf (x : SpanT) : Prop := x.lo.wf ∧ x.hi.wf
@[simp] theorem encSpanT_len (x : SpanT) : (encSpanT x).length = 5 := rfl
@[simp] theorem wk_encSpanT (x : SpanT) : List.map wk (encSpanT x) = encSpanT x := by simp [encSpanT]
@[simp] theorem wk_encSpanT' : List.map wk ∘ encSpanT = encSpanT := by funext x; simp
/-! ### Stp -/
structure Stp where
  code : List Inst
  foot : List SpanT
  deriving DecidableEq

def encStp (x : Stp) : List AV := [.sl .no (x.code.map encInst), .sl .no (x.foot.map encSpanT)]
def Stp.wf (x : Stp) : Prop := (x.code.length ≤ maxLen ∧ ∀ y ∈ x.code, y.wf) ∧ (x.foot.length ≤ maxLen ∧ ∀ y ∈ x.foot, y.wf)
@[simp] theorem encStp_len (x : Stp) : (encStp x).length = 2 := rfl
@[simp] theorem wk_encStp (x : Stp) : List.map wk (encStp x) = encStp x := by simp [encStp]
@[simp] theorem wk_encStp' : List.map wk ∘ encStp = encStp := by funext x; simp
/-! ### Cls -/
structure Cls where
  name : ByteArray
  args : Int
  steps : List Stp
  comps : List Stp
  resume : Bool
  deriving DecidableEq

def encCls (x : Cls) : List AV := [.str x.name, .int .i64 x.args, .sl .no (x.steps.map encStp), .sl .no (x.comps.map encStp), .bool x.resume]
def Cls.wf (x : Cls) : Prop := x.name.size ≤ maxLen ∧ inI x.args ∧ (x.steps.length ≤ maxLen ∧ ∀ y ∈ x.steps, y.wf) ∧ (x.comps.length ≤ maxLen ∧ ∀ y ∈ x.comps, y.wf)
@[simp] theorem encCls_len (x : Cls) : (encCls x).length = 5 := rfl
@[simp] theorem wk_encCls (x : Cls) : List.map wk (encCls x) = encCls x := by simp [encCls]
@[simp] theorem wk_encCls' : List.map wk ∘ encCls = encCls := by funext x; simp
/-! ### Ctlg -/
structure Ctlg where
  classes : List Cls
  breaks : List Int
  deriving DecidableEq

def encCtlg (x : Ctlg) : List AV := [.sl .no (x.classes.map encCls)] ++ x.breaks.map (AV.int .i64)
def Ctlg.wf (x : Ctlg) : Prop := (x.classes.length ≤ maxLen ∧ ∀ y ∈ x.classes, y.wf) ∧ (x.breaks.length = 16 ∧ ∀ y ∈ x.breaks, inI y)
@[simp] theorem wk_encCtlg (x : Ctlg) : List.map wk (encCtlg x) = encCtlg x := by simp [encCtlg]
@[simp] theorem wk_encCtlg' : List.map wk ∘ encCtlg = encCtlg := by funext x; simp
/-! ### Spn -/
structure Spn where
  lo : Int
  hi : Int
  deriving DecidableEq

def encSpn (x : Spn) : List AV := [.int .i64 x.lo, .int .i64 x.hi]
def Spn.wf (x : Spn) : Prop := inI x.lo ∧ inI x.hi
@[simp] theorem encSpn_len (x : Spn) : (encSpn x).length = 2 := rfl
@[simp] theorem wk_encSpn (x : Spn) : List.map wk (encSpn x) = encSpn x := by simp [encSpn]
@[simp] theorem wk_encSpn' : List.map wk ∘ encSpn = encSpn := by funext x; simp
theorem pure_encSpn (x : Spn) : ∀ v ∈ encSpn x, PureV v := (pures_cons (.int _ _) (pures_cons (.int _ _) pures_nil))
def shSpn : List Sh := [.int .i64] ++ [.int .i64]
theorem isL_encSpn {vs : List AV} (h : isL shSpn vs) : ∃ x : Spn, vs = encSpn x ∧ x.wf := by
  unfold shSpn at h
  obtain ⟨vs, v1, rfl, h, h1⟩ := isL_app h
  have h0 := h
  obtain ⟨u0, rfl, w0⟩ := isL_encN h0
  obtain ⟨u1, rfl, w1⟩ := isL_encN h1
  refine ⟨⟨u0, u1⟩, ?_, ⟨w0, w1⟩⟩
  simp [encSpn, encN]

/-! ### Nod -/
structure Nod where
  saga : Int
  cls : Int
  step : Int
  back : Bool
  reads : List Spn
  writes : List Spn
  deriving DecidableEq

def encNod (x : Nod) : List AV := [.int .i64 x.saga, .int .i64 x.cls, .int .i64 x.step, .bool x.back, .sl .no (x.reads.map encSpn), .sl .no (x.writes.map encSpn)]
def Nod.wf (x : Nod) : Prop := inI x.saga ∧ inI x.cls ∧ inI x.step ∧ (x.reads.length ≤ maxLen ∧ ∀ y ∈ x.reads, y.wf) ∧ (x.writes.length ≤ maxLen ∧ ∀ y ∈ x.writes, y.wf)
@[simp] theorem encNod_len (x : Nod) : (encNod x).length = 6 := rfl
@[simp] theorem wk_encNod (x : Nod) : List.map wk (encNod x) = encNod x := by simp [encNod]
@[simp] theorem wk_encNod' : List.map wk ∘ encNod = encNod := by funext x; simp
theorem pure_encNod (x : Nod) : ∀ v ∈ encNod x, PureV v := (pures_cons (.int _ _) (pures_cons (.int _ _) (pures_cons (.int _ _) (pures_cons (.bool _) (pures_cons (pure_sl pure_encSpn _) (pures_cons (pure_sl pure_encSpn _) pures_nil))))))
def shNod : List Sh := [.int .i64] ++ [.int .i64] ++ [.int .i64] ++ [.bool] ++ [.sl shSpn] ++ [.sl shSpn]
theorem isL_encNod {vs : List AV} (h : isL shNod vs) : ∃ x : Nod, vs = encNod x ∧ x.wf := by
  unfold shNod at h
  obtain ⟨vs, v5, rfl, h, h5⟩ := isL_app h
  obtain ⟨vs, v4, rfl, h, h4⟩ := isL_app h
  obtain ⟨vs, v3, rfl, h, h3⟩ := isL_app h
  obtain ⟨vs, v2, rfl, h, h2⟩ := isL_app h
  obtain ⟨vs, v1, rfl, h, h1⟩ := isL_app h
  have h0 := h
  obtain ⟨u0, rfl, w0⟩ := isL_encN h0
  obtain ⟨u1, rfl, w1⟩ := isL_encN h1
  obtain ⟨u2, rfl, w2⟩ := isL_encN h2
  obtain ⟨_, rfl, u3, rfl⟩ := isL_one h3
  obtain ⟨u4, rfl, w4⟩ := isL_sl (fun vs h => isL_encSpn h) h4
  obtain ⟨u5, rfl, w5⟩ := isL_sl (fun vs h => isL_encSpn h) h5
  refine ⟨⟨u0, u1, u2, u3, u4, u5⟩, ?_, ⟨w0, w1, w2, w4, w5⟩⟩
  simp [encNod, encN]

/-! ### Chg -/
structure Chg where
  key : Int
  gone : Bool
  value : Int
  deriving DecidableEq

def encChg (x : Chg) : List AV := [.int .i64 x.key, .bool x.gone, .int .i64 x.value]
def Chg.wf (x : Chg) : Prop := inI x.key ∧ inI x.value
@[simp] theorem encChg_len (x : Chg) : (encChg x).length = 3 := rfl
@[simp] theorem wk_encChg (x : Chg) : List.map wk (encChg x) = encChg x := by simp [encChg]
@[simp] theorem wk_encChg' : List.map wk ∘ encChg = encChg := by funext x; simp
theorem pure_encChg (x : Chg) : ∀ v ∈ encChg x, PureV v := (pures_cons (.int _ _) (pures_cons (.bool _) (pures_cons (.int _ _) pures_nil)))
def shChg : List Sh := [.int .i64] ++ [.bool] ++ [.int .i64]
theorem isL_encChg {vs : List AV} (h : isL shChg vs) : ∃ x : Chg, vs = encChg x ∧ x.wf := by
  unfold shChg at h
  obtain ⟨vs, v2, rfl, h, h2⟩ := isL_app h
  obtain ⟨vs, v1, rfl, h, h1⟩ := isL_app h
  have h0 := h
  obtain ⟨u0, rfl, w0⟩ := isL_encN h0
  obtain ⟨_, rfl, u1, rfl⟩ := isL_one h1
  obtain ⟨u2, rfl, w2⟩ := isL_encN h2
  refine ⟨⟨u0, u1, u2⟩, ?_, ⟨w0, w2⟩⟩
  simp [encChg, encN]

/-! ### Recd -/
structure Recd where
  kind : Int
  saga : Int
  cls : Int
  args : List Int
  why : Int
  node : Nod
  regs : List Int
  changes : List Chg
  deriving DecidableEq

def encRecd (x : Recd) : List AV := [.int .i64 x.kind, .int .i64 x.saga, .int .i64 x.cls, .sl .no (x.args.map encN), .int .i64 x.why, .int .i64 x.node.saga, .int .i64 x.node.cls, .int .i64 x.node.step, .bool x.node.back, .sl .no (x.node.reads.map encSpn), .sl .no (x.node.writes.map encSpn)] ++ x.regs.map (AV.int .i64) ++ [.sl .no (x.changes.map encChg)]
def Recd.wf (x : Recd) : Prop := inI x.kind ∧ inI x.saga ∧ inI x.cls ∧ (x.args.length ≤ maxLen ∧ ∀ y ∈ x.args, inI y) ∧ inI x.why ∧ x.node.wf ∧ (x.regs.length = 4 ∧ ∀ y ∈ x.regs, inI y) ∧ (x.changes.length ≤ maxLen ∧ ∀ y ∈ x.changes, y.wf)
theorem encRecd_len {x : Recd} (h : x.wf) : (encRecd x).length = 16 := by
  simp only [Recd.wf] at h
  simp [encRecd, h]
@[simp] theorem wk_encRecd (x : Recd) : List.map wk (encRecd x) = encRecd x := by simp [encRecd]
@[simp] theorem wk_encRecd' : List.map wk ∘ encRecd = encRecd := by funext x; simp
theorem pure_encRecd (x : Recd) : ∀ v ∈ encRecd x, PureV v := (pures_app (pures_app (pures_cons (.int _ _) (pures_cons (.int _ _) (pures_cons (.int _ _) (pures_cons (pure_sl pure_encN _) (pures_cons (.int _ _) (pures_cons (.int _ _) (pures_cons (.int _ _) (pures_cons (.int _ _) (pures_cons (.bool _) (pures_cons (pure_sl pure_encSpn _) (pures_cons (pure_sl pure_encSpn _) pures_nil))))))))))) (pure_arr _)) (pures_cons (pure_sl pure_encChg _) pures_nil))
def shRecd : List Sh := [.int .i64] ++ [.int .i64] ++ [.int .i64] ++ [.sl [.int .i64]] ++ [.int .i64] ++ shNod ++ List.replicate 4 (.int .i64) ++ [.sl shChg]
theorem isL_encRecd {vs : List AV} (h : isL shRecd vs) : ∃ x : Recd, vs = encRecd x ∧ x.wf := by
  unfold shRecd at h
  obtain ⟨vs, v7, rfl, h, h7⟩ := isL_app h
  obtain ⟨vs, v6, rfl, h, h6⟩ := isL_app h
  obtain ⟨vs, v5, rfl, h, h5⟩ := isL_app h
  obtain ⟨vs, v4, rfl, h, h4⟩ := isL_app h
  obtain ⟨vs, v3, rfl, h, h3⟩ := isL_app h
  obtain ⟨vs, v2, rfl, h, h2⟩ := isL_app h
  obtain ⟨vs, v1, rfl, h, h1⟩ := isL_app h
  have h0 := h
  obtain ⟨u0, rfl, w0⟩ := isL_encN h0
  obtain ⟨u1, rfl, w1⟩ := isL_encN h1
  obtain ⟨u2, rfl, w2⟩ := isL_encN h2
  obtain ⟨u3, rfl, w3⟩ := isL_sl (fun vs h => isL_encN h) h3
  obtain ⟨u4, rfl, w4⟩ := isL_encN h4
  obtain ⟨u5, rfl, w5⟩ := isL_encNod h5
  obtain ⟨u6, rfl, w6⟩ := isL_arr h6
  obtain ⟨u7, rfl, w7⟩ := isL_sl (fun vs h => isL_encChg h) h7
  refine ⟨⟨u0, u1, u2, u3, u4, u5, u6, u7⟩, ?_, ⟨w0, w1, w2, w3, w4, w5, w6, w7⟩⟩
  simp [encRecd, encN, encNod]

/-! ### Frm -/
structure Frm where
  kind : Int
  words : List Nat
  deriving DecidableEq

def encFrm (x : Frm) : List AV := [.int .i64 x.kind, .sl .no (x.words.map w64)]
def Frm.wf (x : Frm) : Prop := inI x.kind ∧ (x.words.length ≤ maxLen ∧ ∀ y ∈ x.words, y < 18446744073709551616)
@[simp] theorem encFrm_len (x : Frm) : (encFrm x).length = 2 := rfl
@[simp] theorem wk_encFrm (x : Frm) : List.map wk (encFrm x) = encFrm x := by simp [encFrm]
@[simp] theorem wk_encFrm' : List.map wk ∘ encFrm = encFrm := by funext x; simp
theorem pure_encFrm (x : Frm) : ∀ v ∈ encFrm x, PureV v := (pures_cons (.int _ _) (pures_cons (pure_sl pure_w64' _) pures_nil))
/-! ### Par -/
structure Par where
  key : Int
  value : Int
  deriving DecidableEq

def encPar (x : Par) : List AV := [.int .i64 x.key, .int .i64 x.value]
def Par.wf (x : Par) : Prop := inI x.key ∧ inI x.value
@[simp] theorem encPar_len (x : Par) : (encPar x).length = 2 := rfl
@[simp] theorem wk_encPar (x : Par) : List.map wk (encPar x) = encPar x := by simp [encPar]
@[simp] theorem wk_encPar' : List.map wk ∘ encPar = encPar := by funext x; simp
/-! ### Rept -/
structure Rept where
  committed : Int
  compensated : Int
  opn : Int
  steps : Int
  backs : Int
  aborts : List Int
  keys : Int
  deriving DecidableEq

def encRept (x : Rept) : List AV := [.int .i64 x.committed, .int .i64 x.compensated, .int .i64 x.opn, .int .i64 x.steps, .int .i64 x.backs] ++ x.aborts.map (AV.int .i64) ++ [.int .i64 x.keys]
def Rept.wf (x : Rept) : Prop := inI x.committed ∧ inI x.compensated ∧ inI x.opn ∧ inI x.steps ∧ inI x.backs ∧ (x.aborts.length = 16 ∧ ∀ y ∈ x.aborts, inI y) ∧ inI x.keys
@[simp] theorem wk_encRept (x : Rept) : List.map wk (encRept x) = encRept x := by simp [encRept]
@[simp] theorem wk_encRept' : List.map wk ∘ encRept = encRept := by funext x; simp
end Go.Proofs

/- The program's sets of keys: what isn't there, how many, all of them. -/
namespace Go.Proofs
open Go Go.RowKit Go.Am

def keysTo (lo k : Int) : List Int := (List.range (k - lo).toNat).map fun i => lo + (i : Nat)
theorem keysTo_succ {lo k : Int} (h : lo ≤ k) : keysTo lo (k + 1) = keysTo lo k ++ [k] := by
  have e : (k + 1 - lo).toNat = (k - lo).toNat + 1 := by omega
  simp only [keysTo, e, List.range_succ, List.map_append, List.map_cons, List.map_nil]
  congr 2
  omega
theorem keysTo_all (s : Sp) : keysTo s.1 (s.2 + 1) = keysS s := by
  have e : (s.2 + 1 - s.1).toNat = (s.2 - s.1 + 1).toNat := by omega
  simp only [keysTo, keysS, e]
theorem encN_len1 (l : List Int) : ∀ e ∈ l.map encN, e.length = 1 := fun e he => by
  obtain ⟨n, _, rfl⟩ := List.mem_map.1 he
  rfl

set_option maxHeartbeats 1000000 in
theorem keysAll_ok (l : List Sp) (hl : l.length ≤ 1000000) : PCall Try.prog 126 [encL l] (.sl .no ((allL (plainL l)).map encN)) := by
  refine PCall.run hb126 ok126 (by simp) (pures1 (pure_encL l)) (pure_sl pure_encN _) ?_
  simp -implicitDefEqProofs []
  refine callQ_p (plainA_ok l hl) (by simp [wk_encL]) ?_
  have hp := plainL_isPlain l
  have hpl := plainL_len l
  generalize plainL l = p at hp hpl ⊢
  simp -implicitDefEqProofs [encL]
  refine run_loop (fun n s h => ∃ (j : Nat) (t : Tok) (d : List Int), n = p.length - j ∧ j ≤ p.length ∧ s 9 = encL p ∧ s 10 = .int .i64 p.length ∧ s 11 = .int .i64 j ∧ d = allL (p.take j) ∧ d.length ≤ j * 1000 ∧ s 3 = .sl t (d.map encN) ∧ TLive h t d.length) ?_ p.length ?_
  rotate_left
  · exact ⟨0, .full, [], by simp [encL, allL, TLive]⟩
  rintro n s h ⟨j, t, d, hn, hj, s9, s10, s11, hd, hdl, s3, ht⟩ ih
  rw [encL] at s9
  by_cases hlt : j < p.length
  · have i1 := idxOf_nat (k := .i64) hlt
    have ms := mayS_iff.1 (hp.1 _ (List.getElem_mem hlt))
    simp -implicitDefEqProofs [s9, s10, s11, hlt, avP]
    refine run_loop (fun n s h2 => ∃ (k : Int) (t : Tok) (e : List Int), n = (p[j].2 + 1 - k).toNat ∧ p[j].1 ≤ k ∧ k ≤ p[j].2 + 1 ∧ s 9 = encL p ∧ s 10 = .int .i64 p.length ∧ s 11 = .int .i64 j ∧ s 6 = .int .i64 k ∧ s 5 = .ptr h.bn 0 ∧ h.bn < h2.bn ∧ h2.bx h.bn = some (avP p[j]) ∧ e = d ++ keysTo p[j].1 k ∧ s 3 = .sl t (e.map encN) ∧ TLive h2 t e.length) ?_ (p[j].2 + 1 - p[j].1).toNat ?_
    rotate_left
    · exact ⟨p[j].1, t, d, by simp [s3, s9, s10, s11, encL, avP, keysTo, ht]; omega⟩
    rintro n s h2 ⟨k, t, e, hn, hk1, hk2, s9, s10, s11, s6, s5, hb5, hc5, he, s3, ht⟩ ih2
    rw [avP] at hc5
    have hel : e.length ≤ 600000 := by
      rw [he, List.length_append]
      simp only [keysTo, List.length_map, List.length_range]
      omega
    by_cases hle : k ≤ p[j].2
    · have w1 : IntKind.i64.wrap (k + 1) = k + 1 := wrap_i64 (by omega) (by omega)
      simp -implicitDefEqProofs [s3, s5, s6, hb5, hc5, hle]
      refine appQ_tok (es2 := [encN k]) (by simpa using ht) (encN_len1 e) (by simp [srcA, encN]) (by simp; omega) fun t' h' q1 q2 q3 q4 => ?_
      have hb' := q3.bx h.bn hb5 (fun e => e)
      simp -implicitDefEqProofs [s6, w1]
      refine ih2 (p[j].2 + 1 - (k + 1)).toNat _ _ (by omega) ⟨k + 1, t', e ++ [k], rfl, by omega, by omega, by simp [s9], by simp [s10], by simp [s11], by simp, by simp [s5], by omega, by rw [hb', hc5]; rfl, by rw [keysTo_succ hk1, he, List.append_assoc], by simp, by simpa using q1⟩
    · obtain rfl : k = p[j].2 + 1 := by omega
      rw [keysTo_all] at he
      have hd2 : e = allL (p.take (j + 1)) := by rw [he, hd, List.take_succ_eq_append_getElem hlt, allL_app, allL_one]
      have hks := keysS_len p[j] (by omega)
      have hel2 : e.length ≤ (j + 1) * 1000 := by rw [he, List.length_append]; omega
      simp -implicitDefEqProofs [s5, s6, s11, hb5, hc5, hle, inc_i64 hlt (by omega), -Int.natCast_add]
      exact ih (p.length - (j + 1)) _ _ (by omega) ⟨j + 1, t, e, rfl, by omega, by simp [s9], by simp [s10], by simp, hd2, hel2, by simp [s3], ht⟩
  · obtain rfl : j = p.length := by omega
    rw [List.take_length] at hd
    simp -implicitDefEqProofs [s3, s10, s11, hd]
end Go.Proofs

/- The program's sets of keys: in common, without; do they meet, is the one inside the other? -/
namespace Go.Proofs
open Go Go.RowKit Go.Am

end Go.Proofs

/- The document's example of sets of keys; the statement KeysSets: its function hands back true. -/
namespace Go.Proofs
open Go Go.RowKit Go.Am

def spP (s : Spn) : Sp := (s.lo, s.hi)
theorem encL_spn (l : List Spn) : AV.sl .no (l.map encSpn) = encL (l.map spP) := by
  rw [encL, List.map_map]; rfl

end Go.Proofs

/- The statements KeysParts, KeysTwo: their functions hand back true. -/
namespace Go.Proofs
open Go Go.RowKit Go.Am

theorem pures3 {a b c : AV} (ha : PureV a) (hb : PureV b) (hc : PureV c) : ∀ v ∈ [a, b, c], PureV v := pures_cons ha (pures2 hb hc)
end Go.Proofs

/- Numbers, spans, changes: are two lists the same? -/
namespace Go.Proofs
open Go Go.RowKit Go.Am

theorem elOK_C : ElOK encChg 3 true := ⟨fun _ => rfl, (fun h => by cases h), pure_encChg, fun x => by simp [encChg]⟩
theorem elOK_I : ElOK encN 1 false := ⟨fun _ => rfl, (fun _ => rfl), pure_encN, fun x => by simp [encN]⟩
theorem cellsEq_P (a b : Sp) : cellsEq [.i, .i] (avP a) (avP b) = some (decide (a = b)) := by
  obtain ⟨a1, a2⟩ := a
  obtain ⟨b1, b2⟩ := b
  simp only [avP, cellsEq, cellEq, if_true, Option.bind_some, Option.map_some, Option.some.injEq]
  rw [Bool.eq_iff_iff]
  simp only [Bool.and_eq_true, decide_eq_true_eq, Prod.mk.injEq, and_true]
theorem take_P (x : Sp) : List.take 2 (avP x) = avP x := rfl
theorem avP_len2 (x : Sp) : (avP x).length = 2 := rfl

set_option maxHeartbeats 1000000 in
theorem eqSpan_ok (a b : List Sp) (ha : a.length ≤ 9223372036854775807) (hb : b.length ≤ 9223372036854775807) : PCall Try.prog 110 [.sl .no (a.map avP), .sl .no (b.map avP)] (.bool (decide (a = b))) := by
  refine PCall.run hb110 ok110 (by simp) (pures_cons (elOK_P.pureL a) (pures1 (elOK_P.pureL b))) (.bool _) ?_
  by_cases hl : a.length = b.length
  · simp -implicitDefEqProofs [hl]
    refine run_loop (fun n s h => ∃ j : Nat, n = b.length - j ∧ j ≤ b.length ∧ s 0 = .sl .no (a.map avP) ∧ s 1 = .sl .no (b.map avP) ∧ s 11 = .sl .no (a.map avP) ∧ s 12 = .int .i64 b.length ∧ s 13 = .int .i64 j ∧ a.take j = b.take j) ?_ b.length ?_
    rotate_left
    · exact ⟨0, by simp []⟩
    rintro n s h ⟨j, hn, hj, s0, s1, s11, s12, s13, he⟩ ih
    by_cases hlt : j < b.length
    · have hlt' : j < a.length := by omega
      have i1 := idxOf_nat (k := .i64) hlt
      have i2 := idxOf_nat (k := .i64) hlt'
      have hs : a.take (j + 1) = b.take (j + 1) ↔ a[j] = b[j] := by
        rw [List.take_succ_eq_append_getElem (l := b) hlt, List.take_succ_eq_append_getElem (l := a) hlt', he]
        simp only [List.append_cancel_left_eq, List.cons.injEq, and_true]
      have hx : a[j] ≠ b[j] → a ≠ b := fun h e => by subst e; exact h rfl
      have hce := cellsEq_P a[j] b[j]
      have t1 := take_P a[j]
      have t2 := take_P b[j]
      simp -implicitDefEqProofs [s12, s13, hlt]
      refine run_dregL c110_d7 rfl ?_
      by_cases h1 : a[j] = b[j]
      · rw [decide_eq_true h1] at hce
        simp -implicitDefEqProofs [s0, s1, s13, hl, hlt, t1, t2, avP_len2, hce, -cellsEq, inc_i64 hlt (by omega), -Int.natCast_add]
        exact ih (b.length - (j + 1)) _ _ (by omega) ⟨j + 1, rfl, by omega, by simp [s0], by simp [s1], by simp [s11], by simp [s12], by simp, hs.2 h1⟩
      · have hne := hx h1
        rw [decide_eq_false h1] at hce
        simp -implicitDefEqProofs [s0, s1, hl, hlt, t1, t2, avP_len2, hce, -cellsEq, hne]
    · obtain rfl : j = b.length := by omega
      rw [List.take_length, List.take_of_length_le (by omega)] at he
      simp -implicitDefEqProofs [s12, s13, he]
  · have hne : a ≠ b := fun e => hl (by rw [e])
    simp -implicitDefEqProofs [hl, hne]

set_option maxHeartbeats 1000000 in
theorem eqInt_ok (a b : List Int) (ha : a.length ≤ 9223372036854775807) (hb : b.length ≤ 9223372036854775807) : PCall Try.prog 63 [.sl .no (a.map encN), .sl .no (b.map encN)] (.bool (decide (a = b))) := by
  refine PCall.run hb63 ok63 (by simp) (pures_cons (elOK_I.pureL a) (pures1 (elOK_I.pureL b))) (.bool _) ?_
  by_cases hl : a.length = b.length
  · simp -implicitDefEqProofs [hl]
    refine run_loop (fun n s h => ∃ j : Nat, n = b.length - j ∧ j ≤ b.length ∧ s 0 = .sl .no (a.map encN) ∧ s 1 = .sl .no (b.map encN) ∧ s 11 = .sl .no (a.map encN) ∧ s 12 = .int .i64 b.length ∧ s 13 = .int .i64 j ∧ a.take j = b.take j) ?_ b.length ?_
    rotate_left
    · exact ⟨0, by simp []⟩
    rintro n s h ⟨j, hn, hj, s0, s1, s11, s12, s13, he⟩ ih
    by_cases hlt : j < b.length
    · have hlt' : j < a.length := by omega
      have i1 := idxOf_nat (k := .i64) hlt
      have i2 := idxOf_nat (k := .i64) hlt'
      have hs : a.take (j + 1) = b.take (j + 1) ↔ a[j] = b[j] := by
        rw [List.take_succ_eq_append_getElem (l := b) hlt, List.take_succ_eq_append_getElem (l := a) hlt', he]
        simp only [List.append_cancel_left_eq, List.cons.injEq, and_true]
      have hx : a[j] ≠ b[j] → a ≠ b := fun h e => by subst e; exact h rfl
      simp -implicitDefEqProofs [s12, s13, hlt]
      refine run_dregL c63_d7 rfl ?_
      by_cases h1 : a[j] = b[j]
      · simp -implicitDefEqProofs [s0, s1, s13, hl, hlt, encN, h1, inc_i64 hlt (by omega), -Int.natCast_add]
        exact ih (b.length - (j + 1)) _ _ (by omega) ⟨j + 1, rfl, by omega, by simp [s0], by simp [s1], by simp [s11], by simp [s12], by simp, hs.2 h1⟩
      · have hne := hx h1
        simp -implicitDefEqProofs [s0, s1, hl, hlt, encN, h1, hne]
    · obtain rfl : j = b.length := by omega
      rw [List.take_length, List.take_of_length_le (by omega)] at he
      simp -implicitDefEqProofs [s12, s13, he]
  · have hne : a ≠ b := fun e => hl (by rw [e])
    simp -implicitDefEqProofs [hl, hne]

end Go.Proofs

/- Nodes, records: are they the same? -/
namespace Go.Proofs
open Go Go.RowKit Go.Am

end Go.Proofs

/- Records: are they the same? -/
namespace Go.Proofs
open Go Go.RowKit Go.Am

theorem regs_four {l : List Int} (h : l.length = 4) : ∃ a b c d, l = [a, b, c, d] := by
  match l, h with
  | [a, b, c, d], _ => exact ⟨a, b, c, d, rfl⟩
/-- A record's cells, with its registers one by one. -/
def cellsR (x : Recd) (r0 r1 r2 r3 : Int) : List AV := [.int .i64 x.kind, .int .i64 x.saga, .int .i64 x.cls, .sl .no (x.args.map encN), .int .i64 x.why, .int .i64 x.node.saga, .int .i64 x.node.cls, .int .i64 x.node.step, .bool x.node.back, .sl .no (x.node.reads.map encSpn), .sl .no (x.node.writes.map encSpn), .int .i64 r0, .int .i64 r1, .int .i64 r2, .int .i64 r3, .sl .no (x.changes.map encChg)]
theorem encRecd_cells {x : Recd} {r0 r1 r2 r3 : Int} (h : x.regs = [r0, r1, r2, r3]) : encRecd x = cellsR x r0 r1 r2 r3 := by
  rw [encRecd, h]; rfl

end Go.Proofs

/- The statement KeysTwo: its function hands back true. -/
namespace Go.Proofs
open Go Go.RowKit Go.Am

end Go.Proofs

/- Arguments of a law: from their readings to values. -/
namespace Go.Proofs
open Go Go.RowKit Go.Am

theorem sh_one {s : Sh} {a : AV} (h : s.is a) : isL [s] [a] := by
  simp only [isL]
  exact ⟨a, [], rfl, h, rfl⟩
theorem sl_is {α : Type} {f : α → List AV} {sh : List Sh} {wf : α → Prop} (hf : ∀ vs, isL sh vs → ∃ x, vs = f x ∧ wf x) {v : AV} (h : (Sh.sl sh).is v) : ∃ l : List α, v = .sl .no (l.map f) ∧ l.length ≤ maxLen ∧ ∀ x ∈ l, wf x := by
  obtain ⟨l, e, h1, h2⟩ := isL_sl hf (sh_one h)
  simp at e
  exact ⟨l, e, h1, h2⟩
def Item.wf (x : Item) : Prop := inI x.kind ∧ inI x.n ∧ inI x.most ∧ inI x.x ∧ x.s.size ≤ maxLen ∧ x.l.length ≤ maxLen ∧ ∀ w ∈ x.l, w < 18446744073709551616
section
variable {H : Type} {enc : TypeId × Value → H} {P : Program} {w : World} {spare : Nat → Bool} {held : Bool}
/-- An argument of several cells. -/
theorem ent_agg {t : TypeId} {C : Array Value} {x : DataW H} {ps : List MemPlace} {d : Nat} {sh : List Sh} (h : DataW.Trod enc P w 0 spare held t (.agg C) x ps) (hc : shT P d t = some sh) : ∃ vs, isL sh vs ∧ Rep w (G.bare (roW w)) (.agg vs) (.agg C) := by
  obtain ⟨fuel, h⟩ := h
  obtain ⟨vs, h1, h2⟩ := ent fuel d t _ _ _ h hc
  refine ⟨vs, h1, Rep.ofAgg (RepC.mk (by simpa [Value.cells] using h2.1) fun k v hk => ?_)⟩
  obtain ⟨V, q1, q2, q3⟩ := h2.2 k v hk
  exact ⟨V, by simpa [Value.cells] using q1, q2, q3⟩
inductive RepV (w : World) (g : G) : List AV → List Value → Prop where
  | nil : RepV w g [] []
  | cons {a : AV} {v : Value} {l : List AV} {vs : List Value} : Rep w g a v → RepV w g l vs → RepV w g (a :: l) (v :: vs)
theorem RepV.get {w : World} {g : G} {l : List AV} {vs : List Value} (h : RepV w g l vs) : ∃ hl : l.length = vs.length, ∀ k (hk : k < l.length), Rep w g l[k] (vs[k]'(by omega)) := by
  induction h with
  | nil => exact ⟨rfl, fun k hk => by simp at hk⟩
  | cons hv _ ih =>
    obtain ⟨hl, ih⟩ := ih
    refine ⟨by simp [hl], fun k hk => ?_⟩
    cases k with
    | zero => exact hv
    | succ k => exact ih k (by simpa using hk)
theorem RepV.toA {w : World} {g : G} {l : List AV} {vs : List Value} (h : RepV w g l vs) : RepA w g l vs.toArray := by
  obtain ⟨hl, h⟩ := h.get
  exact ⟨by simpa using hl, fun k hk => by simpa using h k hk⟩
end
end Go.Proofs

/- Which programs, footprints, classes and catalogues there may be: the document's answer. -/
namespace Go.Proofs
open Go Go.RowKit Go.Am

end Go.Proofs
