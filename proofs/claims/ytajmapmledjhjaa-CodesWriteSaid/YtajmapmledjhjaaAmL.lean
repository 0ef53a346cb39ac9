/- One operation, a region of operations: what the machine does is what the abstract machine says. -/
import Derived.Test.YtajmapmledjhjaaAmK
import Derived.IntWalk
namespace Go.Am
open Go Go.RowKit

/-- What is asked where a call has returned. -/
def Post (P : Program) (base : Nat) (W : Nat → Prop) (w : World) (g : G) (r : AV) (h' : H) (e : Ending) (w' : World) : Prop :=
  ∃ R g', e = .returned R ∧ Rep w' g' r R ∧ Sim P base W w' g' h' ∧ Ext base W w g w' g'

/-- The function's contract: called on these values in this state it hands back r, and leaves that state. -/
def SCall (P : Program) (f : FuncId) (args : List AV) (h : H) (r : AV) (h' : H) : Prop :=
  (∃ fn, P.funcs[f]? = some fn ∧ (fn.name == "runtime.NumGoroutine") = false ∧ fn.body.isNone = false) ∧ ∀ base W w g Args, Sim P base W w g h → RepA w g args Args → Calls P f Args w (Post P base W w g r h')

/-- A round of a loop over a function. -/
def SYld (P : Program) (l : Nat) (args : List AV) (h : H) (r : AV) (h' : H) : Prop :=
  l < h.ln ∧ ∀ base W w g Args (c : Frame) (cs : List Frame), Sim P base W w g h → RepA w g args Args →
    ∃ F tmps assign body, (Instr.yield (g.lp l) Args).run P w = .ok (.round (g.lp l) F tmps assign body) w ∧
      ∃ R w' g', Steps P (lone (Frame.round (g.lp l) F tmps assign body .normal) (c :: cs) w) (lone (c.finish R) cs w') ∧ Rep w' g' r R ∧ Sim P base W w' g' h' ∧ Ext base W w g w' g'

def boxCells : AV → Option (List AV)
  | .agg cs => some cs
  | .undef | .tup _ => none
  | v => some [v]

inductive InsR (P : Program) (e : Opd → AV) (h : H) : IOp → AV → H → Prop where
  | pure (op : IOp) (v : AV) : pv op e h = some v → InsR P e h op v h
  | alloc (z : List AV) : InsR P e h (.alloc z) (.ptr h.bn 0) (h.alloc z)
  | box (x : Opd) (cs : List AV) : boxCells (e x) = some cs → InsR P e h (.box x) (.ptr h.bn 0) (h.alloc cs)
  | store (n : Nat) (a x : Opd) (b o : Nat) (cs xs : List AV) : e a = .ptr b o → b < h.bn → h.bx b = some cs → fit n (e x) = some xs → o + n ≤ cs.length →
      InsR P e h (.store n a x) .undef (h.set b (cs.take o ++ xs ++ cs.drop (o + n)))
  | append (sz bytes : Nat) (s x : Opd) (v : AV) (h' : H) : AppR h sz bytes (e s) (e x) v h' → InsR P e h (.append sz bytes s x) v h'
  | mkval (sz bytes : Nat) (z : List AV) (l c : Opd) (k k' : IntKind) (n : Nat) : e l = .int k n → e c = .int k' n → n * bytes ≤ 140737488355328 → n ≤ 9223372036854775807 → InsR P e h (.mksl sz bytes z l c) (.sl .full (List.replicate n z)) h
  | mkbox (sz bytes : Nat) (z : List AV) (l c : Opd) (k k' : IntKind) (n : Nat) : e l = .int k n → e c = .int k' n → n * bytes ≤ 140737488355328 → n ≤ 9223372036854775807 →
      InsR P e h (.mksl sz bytes z l c) (.msl h.bn sz 0 n) (h.alloc (List.replicate n z).flatten)
  | callF (f : Opd) (args : List Opd) (F : FuncId) (first caps : List AV) (r : AV) (h' : H) : e f = .fn F first caps → SCall P F (first ++ args.map e ++ caps) h r h' → InsR P e h (.call f args) r h'
  | callY (f : Opd) (args : List Opd) (l : Nat) (r : AV) (h' : H) : e f = .yld l → SYld P l (args.map e) h r h' → InsR P e h (.call f args) r h'

def put (s : Slots) (d : Option Nat) (v : AV) : Slots :=
  match d with
  | some d => su s d v
  | none => s

inductive OpsR (P : Program) : List Ins → Slots → H → Slots → H → Prop where
  | nil (s : Slots) (h : H) : OpsR P [] s h s h
  | skip (i : Ins) (is : List Ins) (s : Slots) (h : H) (s' : Slots) (h' : H) (t : Nat) (b : Bool) : i.g = some (t, b) → s t = .bool (!b) → OpsR P is (put s i.dst .undef) h s' h' → OpsR P (i :: is) s h s' h'
  | step (i : Ins) (is : List Ins) (s : Slots) (h : H) (v : AV) (h1 : H) (s' : Slots) (h' : H) : (∀ t b, i.g = some (t, b) → s t = .bool b) → InsR P (ev s) h i.op v h1 → OpsR P is (put s i.dst v) h1 s' h' → OpsR P (i :: is) s h s' h'

section
variable {P : Program} {base : Nat} {W : Nat → Prop}

theorem RepS.put {w : World} {g : G} {s : Slots} {a : Act} {N : Nat} (hr : RepS w g s a.tmps) (hN : a.tmps.size = N) {d : Option Nat} (hd : ∀ t, d = some t → t < N) {v : AV} {V : Value} (hv : Rep w g v V) :
    RepS w g (put s d v) (a.put d V).tmps ∧ (a.put d V).tmps.size = N ∧ (a.put d V).defers = a.defers := by
  cases d with
  | none => exact ⟨hr, hN, rfl⟩
  | some t =>
    refine ⟨fun j => ?_, by simp [Act.put, hN], rfl⟩
    show Rep w g (if j = t then v else s j) ((a.tmps.setIfInBounds t V).getD j undef)
    by_cases hj : j = t
    · subst hj
      rw [if_pos rfl]
      have := hd j rfl
      simp [hN, this]
      exact hv
    · rw [if_neg hj]
      have := hr j
      simp only [Array.getD_eq_getD_getElem?, Array.getElem?_setIfInBounds] at this ⊢
      rw [if_neg (fun h => hj h.symm)]
      exact this

section steps
variable {b : Frame} {a : Act} {k : List Item} {cs : List Frame} {w w' : World} {ops : Array Oper} {i : Nat} {rest : List Nat} {o : Oper}

theorem stepR_value (ho : ops[i]? = some o) (hw : Region.wanted o (yielded ops a.tmps) = true) (hd : ∀ c, o.op ≠ .defer c) {V : Value} (hr : (execOp a.eval o).run P w = .ok (.value V) w') :
    step P (lone (b.atR a (.inRegion ops (i :: rest) :: k)) cs w) = .next (lone (b.atR (a.put o.dst V) (.inRegion ops rest :: k)) cs w') := by
  have hfin : (b.atR a (.inRegion ops (i :: rest) :: k)).finish V = b.atR (a.put o.dst V) (.inRegion ops rest :: k) := by rw [Frame.finish_atR, ho]; rfl
  refine step_lone_go ?_
  rw [stepGR_op ho hw, Oper.semAt_eq _ _ _ hd, ← hfin]
  simp [stepG.apply, hr]

theorem stepR_skipRes (ho : ops[i]? = some o) (hw : Region.wanted o (yielded ops a.tmps) = true) (hd : ∀ c, o.op ≠ .defer c) (hr : (execOp a.eval o).run P w = .ok .skip w') :
    step P (lone (b.atR a (.inRegion ops (i :: rest) :: k)) cs w) = .next (lone (b.atR (a.put o.dst undef) (.inRegion ops rest :: k)) cs w') := by
  have hfin : (b.atR a (.inRegion ops (i :: rest) :: k)).finish undef = b.atR (a.put o.dst undef) (.inRegion ops rest :: k) := by rw [Frame.finish_atR, ho]; rfl
  refine step_lone_go ?_
  rw [stepGR_op ho hw, Oper.semAt_eq _ _ _ hd, ← hfin]
  simp [stepG.apply, hr]

theorem stepR_enter (ho : ops[i]? = some o) (hw : Region.wanted o (yielded ops a.tmps) = true) (hd : ∀ c, o.op ≠ .defer c) {f : FuncId} {args : Array Value} (hr : (execOp a.eval o).run P w = .ok (.enter f args) w') :
    step P (lone (b.atR a (.inRegion ops (i :: rest) :: k)) cs w) = .next (lone (Frame.enter P f args .normal) (b.atR a (.inRegion ops (i :: rest) :: k) :: cs) w') := by
  refine step_lone_go ?_
  rw [stepGR_op ho hw, Oper.semAt_eq _ _ _ hd]
  simp [stepG.apply, hr, Frame.atR]

theorem stepR_round (ho : ops[i]? = some o) (hw : Region.wanted o (yielded ops a.tmps) = true) (hd : ∀ c, o.op ≠ .defer c) {l : Nat} {f : FuncId} {tmps : Array Value} {x y : Code} (hr : (execOp a.eval o).run P w = .ok (.round l f tmps x y) w') :
    step P (lone (b.atR a (.inRegion ops (i :: rest) :: k)) cs w) = .next (lone (Frame.round l f tmps x y .normal) (b.atR a (.inRegion ops (i :: rest) :: k) :: cs) w') := by
  refine step_lone_go ?_
  rw [stepGR_op ho hw, Oper.semAt_eq _ _ _ hd]
  simp [stepG.apply, hr, Frame.atR]
end steps

/-! ### What an operation was, read off its translation -/
def IOp.kind : IOp → Nat
  | .alloc _ => 1
  | .box _ => 2
  | .store .. => 3
  | .append .. => 4
  | .mksl .. => 5
  | .call .. => 6
  | .mkmap => 7
  | .mapup .. => 8
  | _ => 0

def calleeKind : Callee → Nat
  | .builtin .append => 4
  | .value _ => 6
  | _ => 0
theorem calleeKind_is (c : Callee) : calleeKind c = 0 ∨ (calleeKind c = 4 ∧ c = .builtin .append) ∨ (calleeKind c = 6 ∧ ∃ f, c = .value f) := by
  cases c with
  | value f => exact .inr (.inr ⟨rfl, f, rfl⟩)
  | invoke r m => exact .inl rfl
  | builtin b => cases b <;> first | exact .inl rfl | exact .inr (.inl ⟨rfl, rfl⟩)

def opKind : Op → Nat
  | .alloc _ => 1
  | .box .. => 2
  | .store .. => 3
  | .makeSlice .. => 5
  | .call c => calleeKind c.callee
  | .makeMap .. => 7
  | .mapUpdate .. => 8
  | _ => 0

theorem cOp1_kind {N : Nat} {o : Oper} {op : IOp} (hc : cOp1 P N o = some op) : op.kind = opKind o.op := by
  cases hop : o.op with
  | move x => simp only [cOp1, hop, Option.map_eq_some_iff] at hc; obtain ⟨_, _, rfl⟩ := hc; rfl
  | assign x => simp only [cOp1, hop, Option.map_eq_some_iff] at hc; obtain ⟨_, _, rfl⟩ := hc; rfl
  | pick c x y => simp only [cOp1, hop, Option.map_eq_some_iff, Option.bind_eq_some_iff] at hc; obtain ⟨_, _, _, _, _, _, rfl⟩ := hc; rfl
  | alloc t => simp only [cOp1, hop, Option.map_eq_some_iff] at hc; obtain ⟨_, _, rfl⟩ := hc; rfl
  | box t x => simp only [cOp1, hop, Option.map_eq_some_iff] at hc; obtain ⟨_, _, rfl⟩ := hc; rfl
  | build t ps =>
    simp only [cOp1, hop, Option.bind_eq_some_iff] at hc
    obtain ⟨z, _, hc⟩ := hc
    split at hc
    · simp only [Option.map_eq_some_iff, Option.bind_eq_some_iff] at hc; obtain ⟨_, _, _, _, rfl⟩ := hc; rfl
    · simp only [Option.map_eq_some_iff, Option.bind_eq_some_iff] at hc; obtain ⟨_, _, _, _, rfl⟩ := hc; rfl
    · cases hc
  | buildSlice t l ps =>
    simp only [cOp1, hop] at hc
    split at hc
    · simp only [Option.bind_eq_some_iff] at hc
      obtain ⟨_, _, _, _, _, _, hc⟩ := hc
      split at hc
      · cases hc; rfl
      · cases hc
    · cases hc
  | load t x =>
    simp only [cOp1, hop, Option.bind_eq_some_iff] at hc
    obtain ⟨_, _, _, _, _, _, hc⟩ := hc
    split at hc
    · cases hc; rfl
    · cases hc
  | store t x y => simp only [cOp1, hop, Option.map_eq_some_iff, Option.bind_eq_some_iff] at hc; obtain ⟨_, _, _, _, _, _, rfl⟩ := hc; rfl
  | nilCheck x => simp only [cOp1, hop, Option.map_eq_some_iff] at hc; obtain ⟨_, _, rfl⟩ := hc; rfl
  | binOp op' t x y yt =>
    simp only [cOp1, hop, Option.bind_eq_some_iff] at hc
    obtain ⟨x', hx', y', hy', hc⟩ := hc
    have he : ((flat P 60 t).bind fun n => (aggT P t).bind fun ag => if P.eqGuardType P.depth t then none else match op' with
        | .eql => some (IOp.eq n ag false x' y')
        | .neq => some (.eq n ag true x' y')
        | _ => none) = some op → op.kind = 0 := fun hc => by
      simp only [Option.bind_eq_some_iff] at hc
      obtain ⟨_, _, _, _, hc⟩ := hc
      split at hc
      · cases hc
      · split at hc
        · cases hc; rfl
        · cases hc; rfl
        · cases hc
    split at hc
    · cases hc; rfl
    · cases hc; rfl
    · exact he hc
    · exact he hc
    · exact he hc
    · split at hc
      · cases hc; rfl
      · cases hc; rfl
      · cases hc
    · cases hc
  | unOp op' t x => simp only [cOp1, hop, Option.map_eq_some_iff] at hc; obtain ⟨_, _, rfl⟩ := hc; rfl
  | convert sT d x =>
    simp only [cOp1, hop, Option.bind_eq_some_iff] at hc
    obtain ⟨_, _, hc⟩ := hc
    split at hc
    · cases hc; rfl
    · split at hc
      · cases hc; rfl
      · cases hc
    · cases hc
  | fieldAddr sT x f =>
    simp only [cOp1, hop] at hc
    split at hc
    · simp only [Option.bind_eq_some_iff] at hc
      obtain ⟨_, _, _, _, hc⟩ := hc
      split at hc
      · cases hc
      · simp only [Option.map_eq_some_iff] at hc; obtain ⟨_, _, rfl⟩ := hc; rfl
    · cases hc
  | field sT x f =>
    simp only [cOp1, hop] at hc
    split at hc
    · simp only [Option.bind_eq_some_iff] at hc
      obtain ⟨_, _, _, _, _, _, hc⟩ := hc
      split at hc
      · simp only [Option.map_eq_some_iff] at hc; obtain ⟨_, _, rfl⟩ := hc; rfl
      · cases hc
    · cases hc
  | indexAddr t x i =>
    simp only [cOp1, hop, Option.bind_eq_some_iff] at hc
    obtain ⟨_, _, _, _, hc⟩ := hc
    split at hc
    · simp only [Option.map_eq_some_iff] at hc; obtain ⟨_, _, rfl⟩ := hc; rfl
    · simp only [Option.map_eq_some_iff] at hc; obtain ⟨_, _, rfl⟩ := hc; rfl
    · cases hc
  | index t x i =>
    simp only [cOp1, hop, Option.bind_eq_some_iff] at hc
    obtain ⟨_, _, _, _, hc⟩ := hc
    split at hc
    · simp only [Option.bind_eq_some_iff] at hc
      obtain ⟨_, _, _, _, hc⟩ := hc
      split at hc
      · cases hc; rfl
      · cases hc
    · cases hc; rfl
    · cases hc
  | slice t x lo hi mx =>
    simp only [cOp1, hop, Option.bind_eq_some_iff] at hc
    obtain ⟨_, _, _, _, _, _, _, _, hc⟩ := hc
    split at hc
    · simp only [Option.map_eq_some_iff] at hc; obtain ⟨_, _, rfl⟩ := hc; rfl
    · split at hc
      · cases hc
      · cases hc; rfl
    · cases hc
  | extract x n => simp only [cOp1, hop, Option.map_eq_some_iff] at hc; obtain ⟨_, _, rfl⟩ := hc; rfl
  | makeFunc fn first caps =>
    cases fn with
    | func f => simp only [cOp1, hop, Option.bind_eq_some_iff, Option.map_eq_some_iff] at hc; obtain ⟨_, _, _, _, rfl⟩ := hc; rfl
    | method n => simp [cOp1, hop] at hc
    | methodOf t n => simp [cOp1, hop] at hc
    | via t p f q => simp [cOp1, hop] at hc
    | yield l => simp [cOp1, hop] at hc
  | makeSlice t l c =>
    simp only [cOp1, hop] at hc
    split at hc
    · simp only [Option.bind_eq_some_iff] at hc
      obtain ⟨_, _, _, _, _, _, _, _, _, _, hc⟩ := hc
      split at hc
      · cases hc; rfl
      · cases hc
    · cases hc
  | call c =>
    obtain ⟨callee, args, argTypes⟩ := c
    cases callee with
    | value f => simp only [cOp1, hop, Option.bind_eq_some_iff, Option.map_eq_some_iff] at hc; obtain ⟨_, _, _, _, rfl⟩ := hc; rfl
    | invoke r m => simp [cOp1, hop] at hc
    | builtin b =>
      cases b with
      | len =>
        simp only [cOp1, hop, Option.bind_eq_some_iff] at hc
        obtain ⟨_, _, _, _, _, _, hc⟩ := hc
        split at hc
        · cases hc; rfl
        · cases hc; rfl
        · cases hc; rfl
        · split at hc
          · cases hc; rfl
          · cases hc
        · cases hc
      | min => simp only [cOp1, hop, Option.map_eq_some_iff] at hc; obtain ⟨_, _, rfl⟩ := hc; rfl
      | max => simp only [cOp1, hop, Option.map_eq_some_iff] at hc; obtain ⟨_, _, rfl⟩ := hc; rfl
      | append =>
        simp only [cOp1, hop] at hc
        split at hc
        · split at hc
          · simp only [Option.bind_eq_some_iff] at hc
            obtain ⟨_, _, _, _, _, _, _, _, _, _, hc⟩ := hc
            split at hc
            · cases hc; rfl
            · cases hc
          · simp only [Option.bind_eq_some_iff] at hc
            obtain ⟨_, _, _, _, _, _, _, _, _, _, hc⟩ := hc
            split at hc
            · cases hc; rfl
            · cases hc
          · cases hc
        · cases hc
      | _ => simp [cOp1, hop] at hc
  | makeMap t r =>
    cases r with
    | none => simp only [cOp1, hop, Option.some.injEq] at hc; subst hc; rfl
    | some r => simp [cOp1, hop] at hc
  | lookup t m k ok =>
    simp only [cOp1, hop] at hc
    split at hc
    · split at hc
      · simp only [Option.bind_eq_some_iff] at hc
        obtain ⟨_, _, _, _, _, _, _, _, hc⟩ := hc
        split at hc
        · cases hc; rfl
        · cases hc
      · cases hc
    · cases hc
  | mapUpdate t m k v' =>
    simp only [cOp1, hop] at hc
    split at hc
    · split at hc
      · simp only [Option.bind_eq_some_iff, Option.map_eq_some_iff] at hc
        obtain ⟨_, _, _, _, _, _, rfl⟩ := hc
        rfl
      · cases hc
    · cases hc
  | _ => simp [cOp1, hop] at hc

theorem boxCells_rep {w : World} {g : G} {v : AV} {cs : List AV} {V : Value} (hf : boxCells v = some cs) (hr : Rep w g v V) : RepC w g cs V.cells := by
  cases v with
  | agg c =>
    simp only [boxCells, Option.some.injEq] at hf
    subst hf
    obtain ⟨C, rfl, hC⟩ := hr.agg_inv
    exact hC
  | undef => simp [boxCells] at hf
  | tup c => simp [boxCells] at hf
  | _ =>
    simp only [boxCells, Option.some.injEq] at hf
    subst hf
    exact (fit_rep (n := 1) (by simp [fit]) hr).1

theorem RepA.app {w : World} {g : G} {xs ys : List AV} {X Y : Array Value} (h1 : RepA w g xs X) (h2 : RepA w g ys Y) : RepA w g (xs ++ ys) (X ++ Y) := by
  obtain ⟨l1, r1⟩ := h1
  obtain ⟨l2, r2⟩ := h2
  refine ⟨by simp [l1, l2], fun k hk => ?_⟩
  by_cases hlt : k < xs.length
  · rw [List.getElem_append_left hlt, Array.getElem_append_left (by omega)]
    exact r1 k hlt
  · have hk' : k - xs.length < ys.length := by simp at hk; omega
    rw [List.getElem_append_right (by omega), Array.getElem_append_right (by omega)]
    have := r2 (k - xs.length) hk'
    simpa [l1] using this

theorem run_value' {a : Act} {o : Oper} {t : TypeId} {l c : Operand} {w w' : World} {V : Value} (ho : o.op = .makeSlice t l c) (h : (Instr.makeSlice t (a.eval l) (a.eval c)).run P w = .ok V w') : (execOp a.eval o).run P w = .ok (.value V) w' := by
  simp only [execOp, ho]
  exact run_value h

theorem run_mkslA {N : Nat} {s : Slots} {a : Act} {w : World} {g : G} {h : H} (_hs : Sim P base W w g h) (hr : RepS w g s a.tmps) {o : Oper} {t : TypeId} {l' c' : Operand} (ho : o.op = .makeSlice t l' c') {sz bytes : Nat} {z : List AV} {l c : Opd}
    (hc : cOp1 P N o = some (.mksl sz bytes z l c)) {k k' : IntKind} {n : Nat} (hl : ev s l = .int k n) (hcap : ev s c = .int k' n) (hbnd : n * bytes ≤ 140737488355328) (hn : n ≤ 9223372036854775807) :
    ∃ e' K, (Instr.makeSlice t (a.eval l') (a.eval c')).run P w = .ok (.slice (some ⟨w.heap.size, 0, none⟩) n n) (w.alloc (.cells K e')) ∧ 0 < sz ∧ z.length = sz ∧ K.size = n * sz ∧ ∀ w g, RepC w g (List.replicate n z).flatten K := by
  simp only [cOp1, ho] at hc
  split at hc
  · rename_i e' hu
    simp only [Option.bind_eq_some_iff] at hc
    obtain ⟨m, hm, by', hby, z', hz, p, hp, q, hq, hc⟩ := hc
    split at hc
    · rename_i hcond
      obtain ⟨hm0, hzl⟩ := hcond
      cases hc
      obtain ⟨Z, hZ, hzrep⟩ := run_zeroT hz
      have hZs : Z.cells.size = sz := by have := (hzrep w g).1.1; omega
      have hL := ev_rep hr hp
      have hC := ev_rep hr hq
      rw [hl] at hL
      rw [hcap] at hC
      have hL' := hL.int_inv
      have hC' := hC.int_inv
      obtain ⟨i, hi, hib⟩ := Option.map_eq_some_iff.1 hby
      have hti : ∀ w, (typeInfo e').run P w = .ok i w := fun w => by simp [typeInfo, hi]
      have hwrap : IntKind.i64.wrap (n : Int) = n := IntWalk.i64_in n ⟨by omega, by omega⟩
      have hmulI : ((bytes : Int) * (n : Int)) ≤ 140737488355328 := by
        have h1 : ((n * bytes : Nat) : Int) ≤ ((140737488355328 : Nat) : Int) := Int.ofNat_le.2 hbnd
        rw [Int.natCast_mul, Int.mul_comm] at h1
        exact h1
      have hlim : (2 : Int) ^ 48 = 281474976710656 := by decide
      refine ⟨e', (Array.range (n * sz)).map (fun x => Z.cells[x % Z.cells.size]!), ?_, hm0, hzl, by simp, fun w2 g2 => ?_⟩
      · simp only [Instr.makeSlice, Sem.run_bind, run_underlying hu, Result.andThen_ok, hL', hC', asInt, asIntOf, Sem.run_pure, hti, hwrap, hib, hlim]
        have c1 : decide ((n : Int) < 0) = false := decide_eq_false (by omega)
        have c2 : decide ((bytes : Int) * (n : Int) > 281474976710656) = false := decide_eq_false (by omega)
        have c3 : decide ((n : Int) > (n : Int)) = false := decide_eq_false (by omega)
        simp only [c1, c2, c3, Bool.or_self, Bool.false_eq_true, if_false, run_askRoom, Result.andThen_ok, Sem.run_bind, Int.toNat_natCast, run_szT hm]
        by_cases h0 : n * sz = 0
        · have hz0 : (Array.range (n * sz)).map (fun x => (#[] : Array Value)[x % (#[] : Array Value).size]!) = (Array.range (n * sz)).map (fun x => Z.cells[x % Z.cells.size]!) := by rw [h0]; simp
          simp only [if_pos h0, Sem.run_pure, Result.andThen_ok, newRow, Sem.run_bind, run_newObj, hz0]
          rfl
        · simp only [if_neg h0, Sem.run_bind, hZ, Sem.run_pure, Result.andThen_ok, newRow, run_newObj]
          rfl
      · have hfl : (List.replicate n z).flatten.length = n * sz := by
          have := flatten_len (z := sz) (es := List.replicate n z) (fun e he => by rw [(List.mem_replicate.1 he).2]; exact hzl)
          simpa using this
        refine RepC.mk (by simp [hfl]) fun k v hk => ?_
        have hkl : k < n * sz := by rw [← hfl]; exact (List.getElem?_eq_some_iff.1 hk).1
        have hdm : k / sz * sz + k % sz = k := by rw [Nat.mul_comm]; exact Nat.div_add_mod k sz
        have hmod : k % sz < sz := Nat.mod_lt _ hm0
        have hdiv : k / sz < n := Nat.div_lt_of_lt_mul (by rw [Nat.mul_comm]; exact hkl)
        have hget := flatten_get (z := sz) (es := List.replicate n z) (fun e he => by rw [(List.mem_replicate.1 he).2]; exact hzl) (k / sz) (k % sz) hmod
        rw [hdm, hk, List.getElem?_replicate, if_pos hdiv, Option.bind_some] at hget
        obtain ⟨V, r1, r2⟩ := (hzrep w2 g2).get hget.symm
        refine ⟨V, ?_, r2⟩
        have hlt : k % sz < Z.cells.size := by omega
        have hk1 : (Array.range (n * sz))[k]? = some k := by simp [hkl]
        rw [Array.getElem?_map, hk1, Option.map_some, hZs, getElem!_pos Z.cells (k % sz) hlt]
        exact congrArg some (Array.getElem?_eq_some_iff.1 r1).2
    · cases hc
  · cases hc

/-- One operation in a region. -/
theorem ins_sound {N : Nat} {s : Slots} {a : Act} {w : World} {g : G} {h h' : H} (hs : Sim P base W w g h) (hr : RepS w g s a.tmps) {o : Oper} {op : IOp} (hc : cOp1 P N o = some op) {v : AV} (hi : InsR P (ev s) h op v h') :
    (Done P base W w g h' v ((execOp a.eval o).run P w)) ∨
    (∃ w' g', (execOp a.eval o).run P w = .ok .skip w' ∧ v = .undef ∧ Sim P base W w' g' h' ∧ Ext base W w g w' g') ∨
    (∃ F Args, (execOp a.eval o).run P w = .ok (.enter F Args) w ∧ Calls P F Args w (Post P base W w g v h')) ∨
    (∃ l F tmps x y, (execOp a.eval o).run P w = .ok (.round l F tmps x y) w ∧ ∀ (c : Frame) (cs : List Frame), ∃ R w' g', Steps P (lone (Frame.round l F tmps x y .normal) (c :: cs) w) (lone (c.finish R) cs w') ∧ Rep w' g' v R ∧ Sim P base W w' g' h' ∧ Ext base W w g w' g') := by
  have hk := cOp1_kind hc
  have hbox : ∀ (K : Array Value) , (g.box w.heap.size K.size).bx h.bn = w.heap.size ∧ (g.box w.heap.size K.size).bs h.bn = K.size := fun K => by
    refine ⟨?_, ?_⟩
    · show (if h.bn = g.bn then _ else _) = _
      rw [if_pos hs.bn]
    · show (if h.bn = g.bn then _ else _) = _
      rw [if_pos hs.bn]
  have hptr : ∀ (K : Array Value) (w' : World), Rep w' (g.box w.heap.size K.size) (.ptr h.bn 0) (.pointer (some ⟨w.heap.size, 0, none⟩)) := fun K w' => by
    have := Rep.ptr (w := w') (g := g.box w.heap.size K.size) h.bn 0 (by show h.bn < g.bn + 1; rw [hs.bn]; omega)
    rw [(hbox K).1] at this
    exact this
  cases hi with
  | pure op v hv => exact .inl (pv_sound hs hr hc hv)
  | alloc z =>
    left
    cases hop : o.op <;> rw [hop] at hk <;> simp only [IOp.kind, opKind] at hk <;> try omega
    case alloc t =>
      simp only [cOp1, hop, Option.map_eq_some_iff] at hc
      obtain ⟨z', hz, hzz⟩ := hc
      cases hzz
      obtain ⟨Z, hZ, hzrep⟩ := run_zeroT hz
      obtain ⟨hS, hE⟩ := hs.allocBox Z.cells t z (hzrep w g).toP
      refine ⟨_, _, _, ?_, hptr Z.cells _, hS, hE⟩
      simp only [execOp, hop]
      exact run_value (by simp only [Instr.alloc, Sem.run_bind, hZ, Result.andThen_ok, newVar, newRow, run_newObj, Sem.run_pure]; rfl)
    case call c => rcases calleeKind_is c.callee with h1 | ⟨h1, _⟩ | ⟨h1, _⟩ <;> omega
  | box x cs hx =>
    left
    cases hop : o.op <;> rw [hop] at hk <;> simp only [IOp.kind, opKind] at hk <;> try omega
    case box t y =>
      simp only [cOp1, hop, Option.map_eq_some_iff] at hc
      obtain ⟨x', hx', hxx⟩ := hc
      cases hxx
      have hrep := boxCells_rep hx (ev_rep hr hx')
      obtain ⟨hS, hE⟩ := hs.allocBox (a.eval y).cells t cs hrep.toP
      refine ⟨_, _, _, ?_, hptr (a.eval y).cells _, hS, hE⟩
      simp only [execOp, hop]
      exact run_value (by simp only [Instr.box, newVar, newRow, Sem.run_bind, run_newObj, Result.andThen_ok, Sem.run_pure]; rfl)
    case call c => rcases calleeKind_is c.callee with h1 | ⟨h1, _⟩ | ⟨h1, _⟩ <;> omega
  | store n x y b' o' cs xs hx hb hbx hf hl =>
    right; left
    cases hop : o.op <;> rw [hop] at hk <;> simp only [IOp.kind, opKind] at hk <;> try omega
    case store t x' y' =>
      simp only [cOp1, hop, Option.map_eq_some_iff, Option.bind_eq_some_iff] at hc
      obtain ⟨p, hp, q, hq, m, hm, hee⟩ := hc
      cases hee
      have ha := ev_rep hr hp
      rw [hx] at ha
      obtain ⟨w', h1, h2, h3⟩ := run_storeAtA hm hs ha (ev_rep hr hq) hb hbx hf hl
      exact ⟨w', g, by simp only [execOp, hop, Sem.run_bind, h1, Result.andThen_ok, Sem.run_pure], rfl, h2, h3⟩
    case call c => rcases calleeKind_is c.callee with h1 | ⟨h1, _⟩ | ⟨h1, _⟩ <;> omega
  | append sz bytes x y v h' ha =>
    left
    cases hop : o.op <;> rw [hop] at hk <;> simp only [IOp.kind, opKind] at hk <;> try omega
    case call c =>
      obtain ⟨callee, args, argTypes⟩ := c
      have hk : 4 = calleeKind callee := hk
      rcases calleeKind_is callee with h1 | ⟨h1, hcall⟩ | ⟨h1, _⟩
      · omega
      · subst hcall
        simp only [cOp1, hop] at hc
        split at hc
        · rename_i s' x' t t' hargs hats
          have hargs' : args = #[s', x'] := by apply Array.ext'; simpa using hargs
          have hats' : argTypes = #[t, t'] := by apply Array.ext'; simpa using hats
          subst hargs' hats'
          have hexec : (execOp a.eval o).run P w = (do pure (.value (← Builtin.append_ #[t, t'] o.type #[a.eval s', a.eval x'])) : Sem Next).run P w := by
            have hm : (#[s', x'] : Array Operand).map a.eval = #[a.eval s', a.eval x'] := by simp
            simp only [execOp, hop, resolve, Sem.run_bind, Sem.run_pure, Result.andThen_ok, invoke, builtin, hm]
          split at hc
          · rename_i e' e2 hu hu'
            simp only [Option.bind_eq_some_iff] at hc
            obtain ⟨n, hn, by', hby, z, hz, p, hp, q, hq, hc⟩ := hc
            split at hc
            · rename_i hcond
              cases hc
              rw [hexec]
              exact app_sound t t' o.type e' hu hu' (by simp) hn hcond.1 hby hcond.2.2 hz hcond.2.1 hs (ev_rep hr hp) (ev_rep hr hq) ha
            · cases hc
          · rename_i e' hu hu'
            simp only [Option.bind_eq_some_iff] at hc
            obtain ⟨n, hn, by', hby, z, hz, p, hp, q, hq, hc⟩ := hc
            split at hc
            · rename_i hcond
              cases hc
              rw [hexec]
              exact app_sound t t' o.type e' hu hu' (by simp) hn hcond.1 hby hcond.2.2 hz hcond.2.1 hs (ev_rep hr hp) (ev_rep hr hq) ha
            · cases hc
          · cases hc
        · cases hc
      · omega
  | mkval sz bytes z l c k k' n hl hcap hbnd hn =>
    left
    cases hop : o.op <;> rw [hop] at hk <;> simp only [IOp.kind, opKind] at hk <;> try omega
    case makeSlice t l' c' =>
      obtain ⟨e', K, q1, q2, q3, q4, q5⟩ := run_mkslA hs hr hop hc hl hcap hbnd hn
      obtain ⟨hS, hE⟩ := hs.allocRO (.cells K e') (n * sz)
      refine ⟨_, _, _, run_value' hop q1, ?_, hS, hE⟩
      have := Rep.ofRowAt (w := w.alloc (.cells K e')) (g := g.addRO w.heap.size (n * sz)) (es := List.replicate n z) (B := w.heap.size) (o := 0) (z := sz) (cap := n) (len := n) (t := .full) (by simp) q2 (fun e he => by rw [(List.mem_replicate.1 he).2]; exact q3) (Nat.le_refl _) (by
        show _ ≤ (if w.heap.size = w.heap.size then _ else _)
        rw [if_pos rfl]; omega) (fun k v hk => by
        obtain ⟨V, r1, r2, r3⟩ := (q5 w g).get hk
        exact ⟨V, by rw [Nat.zero_add, cell_at alloc_new]; exact r1, r2.mono hE.toGExt, r3⟩) rfl
      exact this
    case call c => rcases calleeKind_is c.callee with h1 | ⟨h1, _⟩ | ⟨h1, _⟩ <;> omega
  | mkbox sz bytes z l c k k' n hl hcap hbnd hn =>
    left
    cases hop : o.op <;> rw [hop] at hk <;> simp only [IOp.kind, opKind] at hk <;> try omega
    case makeSlice t l' c' =>
      obtain ⟨e', K, q1, q2, q3, q4, q5⟩ := run_mkslA hs hr hop hc hl hcap hbnd hn
      obtain ⟨hS, hE⟩ := hs.allocBox K e' _ (q5 w g).toP
      refine ⟨_, _, _, run_value' hop q1, ?_, hS, hE⟩
      have := Rep.msl (w := w.alloc (.cells K e')) (g := g.box w.heap.size K.size) h.bn sz 0 n n (by show h.bn < g.bn + 1; rw [hs.bn]; omega) (Nat.le_refl _) (by rw [(hbox K).2]; omega)
      rw [(hbox K).1] at this
      exact this
    case call c => rcases calleeKind_is c.callee with h1 | ⟨h1, _⟩ | ⟨h1, _⟩ <;> omega
  | callF f args F first caps r h' hf hcall =>
    right; right; left
    cases hop : o.op <;> rw [hop] at hk <;> simp only [IOp.kind, opKind] at hk <;> try omega
    case call c =>
      obtain ⟨callee, args0, argTypes⟩ := c
      have hk : 6 = calleeKind callee := hk
      rcases calleeKind_is callee with h1 | ⟨h1, _⟩ | ⟨h1, f0, hcallee⟩
      · omega
      · omega
      · subst hcallee
        simp only [cOp1, hop, Option.bind_eq_some_iff, Option.map_eq_some_iff] at hc
        obtain ⟨p, hp, q, hq, hee⟩ := hc
        cases hee
        have hF := ev_rep hr hp
        rw [hf] at hF
        obtain ⟨Fi, Ca, hX, hFi, hCa⟩ : ∃ Fi Ca, a.eval f0 = .func (.func F) Fi Ca ∧ RepA w g first Fi ∧ RepA w g caps Ca := by
          generalize a.eval f0 = X at hF
          cases hF with
          | fn f first caps Fi Ca h1 h2 h3 h4 => exact ⟨Fi, Ca, rfl, ⟨h1, h3⟩, ⟨h2, h4⟩⟩
        have hA := RepA.app (RepA.app hFi (evs_repA hr hq)) hCa
        have hcalls := hcall.2 base W w g _ hs hA
        refine ⟨F, Fi ++ args0.map a.eval ++ Ca, ?_, hcalls⟩
        obtain ⟨fn, hfn, hbody⟩ := hcall.1
        simp only [execOp, hop, resolve, hX, Deferred.ofValue, Sem.run_bind, Sem.run_pure, Result.andThen_ok, invoke, callFunc, run_program, hfn]
        simp only [hbody.1, hbody.2, Bool.false_eq_true, if_false]
        rfl
  | callY f args l r h' hf hcall =>
    right; right; right
    cases hop : o.op <;> rw [hop] at hk <;> simp only [IOp.kind, opKind] at hk <;> try omega
    case call c =>
      obtain ⟨callee, args0, argTypes⟩ := c
      have hk : 6 = calleeKind callee := hk
      rcases calleeKind_is callee with h1 | ⟨h1, _⟩ | ⟨h1, f0, hcallee⟩
      · omega
      · omega
      · subst hcallee
        simp only [cOp1, hop, Option.bind_eq_some_iff, Option.map_eq_some_iff] at hc
        obtain ⟨p, hp, q, hq, hee⟩ := hc
        cases hee
        have hF := ev_rep hr hp
        rw [hf] at hF
        have hX : a.eval f0 = .func (.yield (g.lp l)) #[] #[] := by
          generalize a.eval f0 = X at hF
          cases hF with
          | yld l hl => rfl
        obtain ⟨hl, hy⟩ := hcall
        obtain ⟨F, tmps, x, y, hrun, _⟩ := hy base W w g _ (default : Frame) [] hs (evs_repA hr hq)
        refine ⟨g.lp l, F, tmps, x, y, ?_, fun c cs => ?_⟩
        · simp only [execOp, hop, resolve, hX, Deferred.ofValue, Sem.run_bind, Sem.run_pure, Result.andThen_ok, invoke, Array.empty_append, hrun]
        · obtain ⟨F', tmps', x', y', hrun', q⟩ := hy base W w g _ c cs hs (evs_repA hr hq)
          rw [hrun] at hrun'
          cases hrun'
          exact q

end
end Go.Am
