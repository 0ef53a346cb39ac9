/- Functions: a contract out of a run; how a contract proved in a small state serves in a greater one. -/
import Derived.Test.YtajmapmledjhjaaAmQ
namespace Go.Am
open Go Go.RowKit

def slots0 (args : List AV) : Slots := fun i => args.getD i .undef

def resA (s : Slots) (h : H) : List ResA → Option (List AV)
  | [] => some []
  | .t i :: rs => (resA s h rs).map fun vs => s i :: vs
  | .cell a n ag :: rs => (pv (.load n ag (.t a)) (ev s) h).bind fun v => (resA s h rs).map fun vs => v :: vs

def tupA : List AV → AV
  | [v] => v
  | vs => .tup vs

/-- What the ghost may do where a function ends: a value says less; a box that it leads to is let go. -/
inductive Gh : H → AV → H → AV → Prop where
  | refl (h : H) (r : AV) : Gh h r h r
  | weak {h : H} {r r1 : AV} {h' : H} {r' : AV} : (∀ w g V, Rep w g r V → Rep w g r1 V) → Gh h r1 h' r' → Gh h r h' r'
  | frz {h : H} {r r1 : AV} {h' : H} {r' : AV} (b : Nat) (cs : List AV) : b < h.bn → h.bx b = some cs →
      (∀ w g V, (∀ k v, cs[k]? = some v → ∃ U, k < g.ro (g.bx b) ∧ w.cell? ⟨g.bx b, k, none⟩ = some U ∧ Rep w g v U ∧ ok1 v = true) → Rep w g r V → Rep w g r1 V) → Gh (h.kill b) r1 h' r' → Gh h r h' r'

def resOne (tmps : Array Value) : ResultVar → Sem Value
  | .tmp t => pure (tmps.getD t undef)
  | .cell a t => do loadVar t (← asAddr (tmps.getD a undef))

section
variable {P : Program} {base : Nat} {W : Nat → Prop} {w : World} {g : G} {h : H}

theorem run_resA {N : Nat} {s : Slots} {tmps : Array Value} (hs : Sim P base W w g h) (hr : RepS w g s tmps) : ∀ {rvs : List ResultVar} {ras : List ResA} {vs : List AV}, cRes P N rvs = some ras → resA s h ras = some vs →
    ∃ Vs : List Value, (rvs.mapM (resOne tmps) : Sem (List Value)).run P w = .ok Vs w ∧ ∃ hl : vs.length = Vs.length, ∀ k (hk : k < vs.length), Rep w g vs[k] Vs[k]
  | [], ras, vs, hc, hv => by
    simp only [cRes, Option.some.injEq] at hc
    subst hc
    simp only [resA, Option.some.injEq] at hv
    subst hv
    exact ⟨[], by simp, rfl, fun k hk => by simp at hk⟩
  | .tmp t :: rvs, ras, vs, hc, hv => by
    simp only [cRes] at hc
    split at hc
    · simp only [Option.map_eq_some_iff] at hc
      obtain ⟨r, hr', rfl⟩ := hc
      simp only [resA, Option.map_eq_some_iff] at hv
      obtain ⟨us, hus, rfl⟩ := hv
      obtain ⟨Vs, h1, hl, h2⟩ := run_resA hs hr hr' hus
      refine ⟨tmps.getD t undef :: Vs, ?_, by simp [hl], fun k hk => ?_⟩
      · simp only [List.mapM_cons, Sem.run_bind, resOne, Sem.run_pure, Result.andThen_ok, h1]
      · cases k with
        | zero => exact hr t
        | succ k => exact h2 k (by simpa using hk)
    · cases hc
  | .cell a t :: rvs, ras, vs, hc, hv => by
    simp only [cRes] at hc
    split at hc
    · simp only [Option.bind_eq_some_iff] at hc
      obtain ⟨n, hn, ag, hag, hc⟩ := hc
      split at hc
      · rename_i hor
        simp only [Option.map_eq_some_iff] at hc
        obtain ⟨r, hr', rfl⟩ := hc
        simp only [resA, Option.bind_eq_some_iff, Option.map_eq_some_iff] at hv
        obtain ⟨v, hv1, us, hus, rfl⟩ := hv
        obtain ⟨Vs, h1, hl, h2⟩ := run_resA hs hr hr' hus
        obtain ⟨V, q1, q2⟩ := run_loadAtA hn hag hor hs (hr a) (e := ev s) (o := .t a) rfl hv1
        have hp : ∃ ad, tmps.getD a undef = .pointer (some ad) := by
          generalize hX : tmps.getD a undef = X at q1
          cases X with
          | pointer p =>
            cases p with
            | some ad => exact ⟨ad, rfl⟩
            | none => simp [Instr.loadAt, Instr.sureAddr] at q1
          | _ => simp [Instr.loadAt, Instr.sureAddr] at q1
        obtain ⟨ad, hX⟩ := hp
        rw [hX] at q1
        have q1' : (loadVar t ad).run P w = .ok V w := by simpa [Instr.loadAt, Instr.sureAddr] using q1
        refine ⟨V :: Vs, ?_, by simp [hl], fun k hk => ?_⟩
        · have hone : (resOne tmps (.cell a t)).run P w = .ok V w := by
            simp only [resOne, hX, asAddr, Sem.run_bind, Sem.run_pure, Result.andThen_ok, q1']
          simp only [List.mapM_cons, Sem.run_bind, hone, Sem.run_pure, Result.andThen_ok, h1]
        · cases k with
          | zero => exact q2
          | succ k => exact h2 k (by simpa using hk)
      · cases hc
    · cases hc

theorem Gh.sound {h h' : H} {r r' : AV} (hg : Gh h r h' r') : ∀ {g : G} {V : Value}, Sim P base W w g h → Rep w g r V → ∃ g', Rep w g' r' V ∧ Sim P base W w g' h' ∧ Ext base W w g w g' := by
  induction hg with
  | refl h r => intro g V hs hr; exact ⟨g, hr, hs, Ext.refl base W w g⟩
  | weak hw _ ih => intro g V hs hr; exact ih hs (hw w g V hr)
  | frz b cs hb hc hf _ ih =>
    intro g V hs hr
    obtain ⟨hS, hE, hcells⟩ := hs.kill hb hc
    obtain ⟨g', q1, q2, q3⟩ := ih hS (hf w _ V hcells (hr.mono hE.toGExt))
    exact ⟨g', q1, q2, hE.trans q3⟩

/-- A mark's block is emptied. -/
theorem Sim.emptied (hs : Sim P base W w g h) {r : Nat} (hr : w.heap[r]? = some (.deferred (some []))) {n : Nat} (hn : n ≤ r) (hbn : base ≤ n) {w0 : World} {g0 : G} (hE : Ext base W w0 g0 w g) (hw0 : w0.heap.size ≤ n) :
    let w' : World := { w with heap := w.heap.setIfInBounds r (.deferred none) }
    Sim P base W w' g h ∧ GExt w g w' g ∧ Ext base W w0 g0 w' g ∧ ∀ r', r' ≠ r → w'.heap[r']? = w.heap[r']? := by
  intro w'
  obtain ⟨p1, p2, p3⟩ := setObj_at w r (.deferred none) hr
  have hcell : ∀ B k, w'.cell? ⟨B, k, none⟩ = w.cell? ⟨B, k, none⟩ := fun B k => by
    by_cases hB : B = r
    · subst hB
      simp only [World.cell?, w', p1, hr]
    · exact cell_of_heap (p3 B hB)
  have e : GExt w g w' g := ⟨by show _ ≤ w'.heap.size; rw [show w'.heap.size = w.heap.size from p2]; exact Nat.le_refl _, fun B k hk => ⟨hk, hcell B k⟩, Nat.le_refl _, fun _ _ => ⟨rfl, rfl⟩, Nat.le_refl _, fun _ _ => ⟨Nat.le_refl _, fun _ => rfl⟩, Nat.le_refl _, fun _ _ => rfl, Nat.le_refl _, fun _ _ => rfl⟩
  have hsz : w'.heap.size = w.heap.size := p2
  refine ⟨⟨by rw [hsz]; exact hs.base_le, hs.bn, hs.tn, hs.ln, hs.mn, ?_, hs.boxinj, ?_, hs.tokinj, by rw [hsz]; exact hs.roB, ?_, hs.loopinj, ?_, hs.mapinj⟩, e, ⟨hE.toGExt.trans e, hE.os, hE.tape, hE.output, fun B hB hW => ?_, hE.roO, fun B ds hd => ?_⟩, p3⟩
  · intro b cs hb hc
    obtain ⟨h1, h2, C, T, h3, h4, h5⟩ := hs.box b cs hb hc
    have hne : g.bx b ≠ r := fun heq => by rw [heq, hr] at h3; cases h3
    exact ⟨h1, h2, C, T, (p3 _ hne).trans h3, h4.mono e, h5⟩
  · intro i hi
    obtain ⟨h1, h2, h3, h4, h5, C, T, h6, h7⟩ := hs.tok i hi
    have hne : (g.tk i).B ≠ r := fun heq => by rw [heq, hr] at h6; cases h6
    exact ⟨h1, h2, h3, h4, h5, C, T, (p3 _ hne).trans h6, h7⟩
  · intro l q hl hq
    obtain ⟨h1, L, h3, h4⟩ := hs.loop l q hl hq
    have hne : g.lp l ≠ r := fun heq => by rw [heq, hr] at h3; cases h3
    exact ⟨h1, L, (p3 _ hne).trans h3, h4.mono e⟩
  · intro m es hm hes
    obtain ⟨h1, E, c, h3, h4⟩ := hs.map m es hm hes
    have hne : g.mp m ≠ r := fun heq => by rw [heq, hr] at h3; cases h3
    exact ⟨h1, E, c, (p3 _ hne).trans h3, h4.mono e⟩
  · have hne : B ≠ r := by omega
    rw [p3 B hne]
    exact hE.blk B hB hW
  · have hB := heap_lt hd
    have hne : B ≠ r := by omega
    rw [p3 B hne]
    exact hE.obj B ds hd

/-- The frame gives up its marks. -/
theorem unwind_marks {b : Frame} {cs : List Frame} {todo : List Item} {tm : Array Value} (hb : b.kind = .normal) : ∀ (rs : List Nat) {w : World} {g : G} {w0 : World} {g0 : G}, MarksOK w0.heap.size w rs → base ≤ w0.heap.size → Sim P base W w g h → Ext base W w0 g0 w g →
    ∃ w', Steps P (lone { b.atR { tmps := tm, defers := rs.map markOf } todo with mode := .returning } cs w) (lone { b.atR { tmps := tm, defers := [] } todo with mode := .returning } cs w') ∧ Sim P base W w' g h ∧ GExt w g w' g ∧ Ext base W w0 g0 w' g
  | [], w, g, w0, g0, _, _, hs, hE => ⟨w, .refl _ _, hs, GExt.refl w g, hE⟩
  | r :: rs, w, g, w0, g0, hm, hbase, hs, hE => by
    obtain ⟨hnd, hall⟩ := hm
    obtain ⟨hr1, hr2⟩ := hall r (List.mem_cons_self ..)
    obtain ⟨q1, q2, q3, q4⟩ := hs.emptied hr2 hr1 hbase hE (Nat.le_refl _)
    have hnd' := List.nodup_cons.1 hnd
    obtain ⟨w', s1, s2, s3, s4⟩ := unwind_marks hb rs (w := { w with heap := w.heap.setIfInBounds r (.deferred none) }) (g := g) (w0 := w0) (g0 := g0) ⟨hnd'.2, fun r' hr' => by
      have hne : r' ≠ r := fun h => hnd'.1 (h ▸ hr')
      have := hall r' (List.mem_cons_of_mem _ hr')
      exact ⟨this.1, by rw [q4 r' hne]; exact this.2⟩⟩ hbase q1 q3
    refine ⟨w', .head (step_lone_go ?_) s1, s2, q2.trans s3, s4⟩
    have htake : (Instr.takeDeferred r).run P w = .ok [] { w with heap := w.heap.setIfInBounds r (.deferred none) } := by
      simp only [Instr.takeDeferred, getObj, Sem.run_bind, Sem.run, hr2, Result.andThen_ok]
      simp only [setObj, Sem.run, hr2, Result.andThen_ok]
      simp
    simp [stepG, unwind, Frame.atR, markOf, Sem.runT_eq, htake]

theorem results_eq (fn : Func) (tmps : Array Value) : results fn tmps = (do let vs ← fn.results.mapM (resOne tmps); pure (if h : vs.size = 1 then vs[0] else .tuple vs)) := by
  have hf : ∀ x : ResultVar, (match x with | .tmp t => pure (tmps.getD t undef) | .cell a t => do loadVar t (← asAddr (tmps.getD a undef)) : Sem Value) = resOne tmps x := fun x => by cases x <;> rfl
  unfold results
  exact congrArg (fun (f : ResultVar → Sem Value) => (Array.mapM f fn.results >>= fun (vs : Array Value) => (pure (if h : vs.size = 1 then vs[0] else Value.tuple vs) : Sem Value))) (funext hf)

/-- Called by name: the function's table has it, with a body. -/
def HasBody (P : Program) (f : FuncId) : Prop := ∃ fn, P.funcs[f]? = some fn ∧ (fn.name == "runtime.NumGoroutine") = false ∧ fn.body.isNone = false

/-- **A function's contract out of a run of its body.** -/
theorem SCall.body {f : FuncId} {F : FnA} {args : List AV} {h h1 h' : H} {ex : Res} {s1 : Slots} {vs : List AV} {r : AV} (hb : HasBody P f) (hf : cFn P f = some F) (hargs : args.length ≤ F.N)
    (hk : KRun P false [.c F.body] (slots0 args) h ex s1 h1) (hex : ∀ id, ex ≠ .exit id) (hv : resA s1 h1 F.res = some vs) (hg : Gh h1 (tupA vs) h' r) : SCall P f args h r h' := by
  refine ⟨hb, fun base W w g Args hs hA cs => ?_⟩
  simp only [cFn, Option.bind_eq_some_iff, Option.map_eq_some_iff] at hf
  obtain ⟨fn, hfn, c, hc, ir, hir, ras, hras, rfl⟩ := hf
  let b : Frame := { (default : Frame) with fn := f, kind := .normal }
  let a : Act := { tmps := Args ++ Array.replicate (fn.ntmps - Args.size) undef, defers := [] }
  have henter : Frame.enter P f Args .normal = b.atR a [.code c] := by
    simp [Frame.enter, Frame.atR, hfn, hc, b, a]
    rfl
  have hAl := hA.1
  have hN : a.tmps.size = fn.ntmps := by
    have hle : args.length ≤ fn.ntmps := hargs
    simp [a]; omega
  have hr : RepS w g (slots0 args) a.tmps := fun t => by
    show Rep w g (args.getD t .undef) _
    by_cases ht : t < args.length
    · have e1 : a.tmps.getD t undef = Args[t]'(by omega) := by
        have hlt : t < a.tmps.size := by simp [a]; omega
        rw [Array.getD_eq_getD_getElem?, Array.getElem?_eq_getElem hlt]
        simp only [Option.getD_some, a]
        rw [Array.getElem_append_left (by omega)]
      rw [e1, List.getD_eq_getElem?_getD, List.getElem?_eq_getElem ht]
      exact hA.2 t ht
    · rw [List.getD_eq_getElem?_getD, List.getElem?_eq_none (by omega)]
      exact .undef _
  obtain ⟨a', w', g', todo', rs, q1, q2, q3, q4, q5, q6, q7, q8, q9⟩ := krun_sound hk (b := b) (a := a) (w := w) (g := g) (todo := [.code c]) (cs := cs) (fun _ => rfl) ⟨hir, trivial⟩ hs hr hN
  have q5' : a'.defers = rs.map markOf := by rw [q5]; simp [a]
  have ha' : a' = { tmps := a'.tmps, defers := rs.map markOf } := by rw [← q5']
  -- the frame returns
  have hret : Steps P (lone (b.atR a' todo') cs w') (lone { b.atR { tmps := a'.tmps, defers := rs.map markOf } todo' with mode := .returning } cs w') := by
    rw [← ha']
    cases ex with
    | norm =>
      have : todo' = [] := q2
      subst this
      exact .one (stepR_end rfl)
    | ret =>
      obtain ⟨k, rfl⟩ := q2
      exact .one (stepR_ret rfl)
    | exit id => exact absurd rfl (hex id)
  obtain ⟨w2, u1, u2, u3, u4⟩ := unwind_marks (base := base) (b := b) (cs := cs) (todo := todo') (tm := a'.tmps) rfl rs q6 hs.base_le q8 q9
  obtain ⟨Vs, r1, hl, r2⟩ := run_resA u2 (q3.mono u3) hras hv
  have hres : (results fn a'.tmps).run P w2 = .ok (if h : Vs.toArray.size = 1 then Vs.toArray[0] else .tuple Vs.toArray) w2 := by
    have hm : (fn.results.mapM (resOne a'.tmps) : Sem (Array Value)).run P w2 = .ok Vs.toArray w2 := by
      rw [Array.mapM_eq_mapM_toList, Sem.run_map, r1]
      rfl
    rw [results_eq, Sem.run_bind, hm]
    simp only [Result.andThen_ok, Sem.run_pure]
  have hval : Rep w2 g' (tupA vs) (if h : Vs.toArray.size = 1 then Vs.toArray[0] else .tuple Vs.toArray) := by
    match vs, Vs, hl, r2 with
    | [v], [V], _, r2 => exact r2 0 (by simp)
    | [], [], _, r2 => exact .tup [] _ rfl (fun k hk => by simp at hk)
    | v :: v' :: vs, V :: V' :: Vs, hl, r2 =>
      have hne : ¬ (V :: V' :: Vs).toArray.size = 1 := by simp
      rw [dif_neg hne]
      exact .tup _ _ (by simpa using hl) (fun k hk => by simpa using r2 k hk)
  obtain ⟨g2, t1, t2, t3⟩ := hg.sound u2 hval
  refine ⟨.returned _, w2, { b.atR { tmps := a'.tmps, defers := [] } todo' with mode := .returning }, ⟨_, g2, rfl, t1, t2, u4.trans t3⟩, ?_, rfl, rfl, rfl, rfl, fn, hfn, hres⟩
  rw [henter]
  exact q1.trans (hret.trans u1)

/-! ### Pure values: no ghost number in them -/
def PureV (v : AV) : Prop := ∀ (w : World) (g g' : G) (V : Value), g'.ro = g.ro → Rep w g v V → Rep w g' v V

theorem PureV.bool (b : Bool) : PureV (.bool b) := fun _ _ _ _ _ h => by cases h; exact .bool b
theorem PureV.ubool : PureV .ubool := fun _ _ _ _ _ h => by cases h; exact .ubool _
theorem PureV.int (k : IntKind) (n : Int) : PureV (.int k n) := fun _ _ _ _ _ h => by cases h; exact .int k n
theorem PureV.str (s : ByteArray) : PureV (.str s) := fun _ _ _ _ _ h => by cases h; exact .str s
theorem PureV.undef : PureV .undef := fun _ _ _ _ _ _ => .undef _
theorem PureV.nilptr : PureV .nilptr := fun _ _ _ _ _ h => by cases h; exact .nilptr
theorem PureV.nilfn : PureV .nilfn := fun _ _ _ _ _ h => by cases h; exact .nilfn
theorem PureV.niface : PureV .niface := fun _ _ _ _ _ h => by cases h; exact .niface
theorem PureV.nilmap : PureV .nilmap := fun _ _ _ _ _ h => by cases h; exact .nilmap
theorem PureV.iface {t : TypeId} {v : AV} (hv : PureV v) : PureV (.iface t v) := fun w g g' V e h => by
  cases h with
  | iface t v V h => exact .iface t v V (hv w g g' V e h)
theorem PureV.agg {cs : List AV} (h : ∀ v ∈ cs, PureV v) : PureV (.agg cs) := fun w g g' V e hr => by
  cases hr with
  | agg cs C hC h1 h2 => exact .agg cs C hC (fun k hk => h _ (List.getElem_mem hk) w g g' _ e (h1 k hk)) h2
theorem PureV.tup {cs : List AV} (h : ∀ v ∈ cs, PureV v) : PureV (.tup cs) := fun w g g' V e hr => by
  cases hr with
  | tup cs C hC h1 => exact .tup cs C hC (fun k hk => h _ (List.getElem_mem hk) w g g' _ e (h1 k hk))
theorem PureV.sl {t : Tok} {es : List (List AV)} (ht : ∀ i, t ≠ .own i) (h : ∀ e ∈ es, ∀ v ∈ e, PureV v) : PureV (.sl t es) := fun w g g' V e hr => by
  cases hr with
  | sl t es A cap z Vs h1 h2 h3 h4 h5 h6 =>
    refine .sl t es A cap z Vs h1 h2 (fun k hk => ?_) (fun k hk => ?_) h5 ?_
    · obtain ⟨B, o, hA, hro, hc⟩ := h3 k hk
      exact ⟨B, o, hA, by rw [e]; exact hro, hc⟩
    · have hm : es.flatten[k] ∈ es.flatten := List.getElem_mem hk
      obtain ⟨el, he1, he2⟩ := List.mem_flatten.1 hm
      exact h el he1 _ he2 w g g' _ e (h4 k hk)
    · cases t with
      | no => trivial
      | full => exact h6
      | own i => exact absurd rfl (ht i)
theorem PureV.fn {f : FuncId} {first caps : List AV} (h1 : ∀ v ∈ first, PureV v) (h2 : ∀ v ∈ caps, PureV v) : PureV (.fn f first caps) := fun w g g' V e hr => by
  cases hr with
  | fn f first caps F C hF hC q1 q2 => exact .fn f first caps F C hF hC (fun k hk => h1 _ (List.getElem_mem hk) w g g' _ e (q1 k hk)) (fun k hk => h2 _ (List.getElem_mem hk) w g g' _ e (q2 k hk))
theorem PureV.rop {cs : List AV} (h : ∀ v ∈ cs, PureV v) : PureV (.rop cs) := fun w g g' V e hr => by
  cases hr with
  | rop cs a Vs h1 h2 h3 =>
    refine .rop cs a Vs (fun k hk => ?_) (fun k hk => h _ (List.getElem_mem hk) w g g' _ e (h2 k hk)) h3
    obtain ⟨B, o, hA, hro, hc⟩ := h1 k hk
    exact ⟨B, o, hA, by rw [e]; exact hro, hc⟩

theorem RepA.pure {args : List AV} {Args : Array Value} {g' : G} (hp : ∀ v ∈ args, PureV v) (e : g'.ro = g.ro) (h : RepA w g args Args) : RepA w g' args Args :=
  ⟨h.1, fun k hk => hp _ (List.getElem_mem hk) w g g' _ e (h.2 k hk)⟩

def G.bare (ro : Nat → Nat) : G := { bn := 0, bx := fun _ => 0, bs := fun _ => 0, tn := 0, tk := fun _ => ⟨0, 0, 0, 0, 0⟩, ln := 0, lp := fun _ => 0, mn := 0, mp := fun _ => 0, ro := ro }

theorem Sim.bare (hs : Sim P base W w g h) : Sim P w.heap.size (fun _ => False) w (G.bare g.ro) H.nil :=
  ⟨Nat.le_refl _, rfl, rfl, rfl, rfl, fun b _ hb => by simp [H.nil] at hb, fun b _ hb => by simp [H.nil] at hb, fun i hi => by simp [H.nil] at hi, fun i _ hi => by simp [H.nil] at hi, hs.roB,
    fun l _ hl => by simp [H.nil] at hl, fun l _ hl => by simp [H.nil] at hl, fun l _ hl => by simp [H.nil] at hl, fun l _ hl => by simp [H.nil] at hl⟩

/-- What an inner run, that may write nothing that was there, leaves of an outer state. -/
theorem Sim.outer (hs : Sim P base W w g h) {w' : World} {g0 g1 : G} {h1 : H} {base1 : Nat} {W1 : Nat → Prop} (e : Ext w.heap.size (fun _ => False) w g0 w' g1) (h0 : g0.ro = g.ro) (hs1 : Sim P base1 W1 w' g1 h1) :
    Sim P base W w' { g with ro := g1.ro } h ∧ Ext base W w g w' { g with ro := g1.ro } := by
  have hblk : ∀ B, B < w.heap.size → w'.heap[B]? = w.heap[B]? := fun B hB => e.blk B hB (fun h => h)
  have hro : ∀ B, B < w.heap.size → g1.ro B = g.ro B := fun B hB => by rw [e.roO B hB (fun h => h), h0]
  have e' : GExt w g w' { g with ro := g1.ro } := GExt.of_blk e.size hblk hs.roB hro (Nat.le_refl _) (fun _ _ => ⟨rfl, rfl⟩) (Nat.le_refl _) (fun _ _ => rfl) (Nat.le_refl _) (fun _ _ => rfl) (Nat.le_refl _) (fun _ _ => rfl)
  exact ⟨hs.step e' e.size hblk rfl rfl rfl rfl rfl hro hs1.roB, Ext.step hs e' e.os e.tape e.output hblk hro⟩

/-- **A function of plain values alone: proved in the empty state, it serves in every state.** -/
theorem SCall.pure {f : FuncId} {args : List AV} {r : AV} {h0 : H} (hc : SCall P f args H.nil r h0) (hp : ∀ v ∈ args, PureV v) (hr : PureV r) (h : H) : SCall P f args h r h := by
  refine ⟨hc.1, fun base W w g Args hs hA => ?_⟩
  refine (hc.2 w.heap.size (fun _ => False) w (G.bare g.ro) Args hs.bare (RepA.pure (g := g) (g' := G.bare g.ro) hp rfl hA)).mono ?_
  rintro e w' ⟨R, g1, rfl, q1, q2, q3⟩
  obtain ⟨s1, s2⟩ := hs.outer q3 rfl q2
  exact ⟨R, { g with ro := g1.ro }, rfl, hr w' g1 _ R rfl q1, s1, s2⟩


end
end Go.Am
