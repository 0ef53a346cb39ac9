/- The abstract machine's state held against a world; how the two go on together. -/
import Derived.Test.YtajmapmledjhjaaAmB
namespace Go.Am
open Go Go.RowKit

def RepS (w : World) (g : G) (s : Slots) (tmps : Array Value) : Prop := ∀ t, Rep w g (s t) (tmps.getD t undef)

theorem RepS.mono {w w' : World} {g g' : G} {s : Slots} {tm : Array Value} (h : RepS w g s tm) (e : GExt w g w' g') : RepS w' g' s tm := fun t => (h t).mono e

/-- The pending jump of a loop over a function. -/
def PendOK : Option IR → Option Code → Prop
  | none, none => True
  | some .ret, some .ret => True
  | some (.exit i), some (.exit j) => i = j
  | _, _ => False

structure LoopOK (P : Program) (w : World) (g : G) (r : LoopA) (L : Loop) : Prop where
  asg : cCode P L.tmps.size L.assign = some r.assign
  body : cCode P L.tmps.size L.body = some r.body
  tmps : RepS w g r.s L.tmps
  params : L.params.toList = r.ps
  plt : ∀ p, p ∈ r.ps → p < L.tmps.size
  st : L.state = r.st
  pend : PendOK r.pend L.pending

theorem LoopOK.mono {P : Program} {w w' : World} {g g' : G} {r : LoopA} {L : Loop} (h : LoopOK P w g r L) (e : GExt w g w' g') : LoopOK P w' g' r L :=
  ⟨h.asg, h.body, h.tmps.mono e, h.params, h.plt, h.st, h.pend⟩

/-- A map of whole-number keys. -/
def MapOK (w : World) (g : G) (es : List (AV × AV)) (E : Array MapEntry) : Prop :=
  ∃ hl : es.length = E.size, ∀ k (hk : k < es.length), (∃ kk n, es[k].1 = .int kk n) ∧ Rep w g es[k].1 E[k].key ∧ Rep w g es[k].2 E[k].val ∧ ok1 es[k].2 = true

theorem MapOK.mono {w w' : World} {g g' : G} {es : List (AV × AV)} {E : Array MapEntry} (h : MapOK w g es E) (e : GExt w g w' g') : MapOK w' g' es E :=
  ⟨h.1, fun k hk => ⟨(h.2 k hk).1, (h.2 k hk).2.1.mono e, (h.2 k hk).2.2.1.mono e, (h.2 k hk).2.2.2⟩⟩

def Mine (base : Nat) (W : Nat → Prop) (B : Nat) : Prop := base ≤ B ∨ W B

structure Sim (P : Program) (base : Nat) (W : Nat → Prop) (w : World) (g : G) (h : H) : Prop where
  base_le : base ≤ w.heap.size
  bn : h.bn = g.bn
  tn : h.tn = g.tn
  ln : h.ln = g.ln
  mn : h.mn = g.mn
  box : ∀ b cs, b < h.bn → h.bx b = some cs → Mine base W (g.bx b) ∧ g.ro (g.bx b) = 0 ∧ ∃ C T, w.heap[g.bx b]? = some (.cells C T (0, 0)) ∧ RepP w g cs C ∧ C.size = g.bs b
  boxinj : ∀ b b', b < h.bn → b' < h.bn → (h.bx b).isSome → (h.bx b').isSome → g.bx b = g.bx b' → b = b'
  tok : ∀ i, i < h.tn → h.tk i = (g.tk i).n ∧ Mine base W (g.tk i).B ∧ 0 < (g.tk i).n * (g.tk i).z ∧ (g.tk i).n ≤ (g.tk i).c ∧ g.ro (g.tk i).B = (g.tk i).o + (g.tk i).n * (g.tk i).z ∧
    ∃ C T, w.heap[(g.tk i).B]? = some (.cells C T (0, 0)) ∧ (g.tk i).o + (g.tk i).c * (g.tk i).z ≤ C.size
  tokinj : ∀ i j, i < h.tn → j < h.tn → (g.tk i).B = (g.tk j).B → i = j
  roB : ∀ B, w.heap.size ≤ B → g.ro B = 0
  loop : ∀ l r, l < h.ln → h.lp l = some r → base ≤ g.lp l ∧ ∃ L, w.heap[g.lp l]? = some (.loop L) ∧ LoopOK P w g r L
  loopinj : ∀ l l', l < h.ln → l' < h.ln → (h.lp l).isSome → (h.lp l').isSome → g.lp l = g.lp l' → l = l'
  map : ∀ m es, m < h.mn → h.mp m = some es → base ≤ g.mp m ∧ ∃ E c, w.heap[g.mp m]? = some (.map E c) ∧ MapOK w g es E
  mapinj : ∀ m m', m < h.mn → m' < h.mn → (h.mp m).isSome → (h.mp m').isSome → g.mp m = g.mp m' → m = m'

section
variable {P : Program} {base : Nat} {W : Nat → Prop} {w : World} {g : G} {h : H}

theorem cell_lt {w : World} {B k : Nat} {V : Value} (hc : w.cell? ⟨B, k, none⟩ = some V) : B < w.heap.size := by
  unfold World.cell? at hc
  split at hc
  · rename_i c e f hb; exact (Array.getElem?_eq_some_iff.1 hb).1
  · cases hc

theorem cell_of_heap {w w' : World} {B k : Nat} (hb : w'.heap[B]? = w.heap[B]?) : w'.cell? ⟨B, k, none⟩ = w.cell? ⟨B, k, none⟩ := by
  simp only [World.cell?, hb]

theorem cell_at {w : World} {B k : Nat} {C : Array Value} {T : TypeId} {f : Nat × Nat} (hb : w.heap[B]? = some (.cells C T f)) : w.cell? ⟨B, k, none⟩ = C[k]? := by
  simp [World.cell?, hb]

theorem alloc_at {w : World} {o : Obj} {B : Nat} (hB : B < w.heap.size) : (w.alloc o).heap[B]? = w.heap[B]? := by
  show (w.heap.push o)[B]? = _
  rw [Array.getElem?_push, if_neg (by omega)]

theorem alloc_new {w : World} {o : Obj} : (w.alloc o).heap[w.heap.size]? = some o := by
  show (w.heap.push o)[w.heap.size]? = _
  rw [Array.getElem?_push, if_pos rfl]

theorem heap_lt {w : World} {B : Nat} {o : Obj} (h : w.heap[B]? = some o) : B < w.heap.size := (Array.getElem?_eq_some_iff.1 h).1

/-- A new ghost over an old one: what new blocks bear may be read only. -/
def G.addRO (g : G) (B n : Nat) : G := { g with ro := fun b => if b = B then n else g.ro b }

/-- The world goes on where no tracked thing turns: a Sim goes on. -/
theorem Sim.step (hs : Sim P base W w g h) {w' : World} {g' : G} (e : GExt w g w' g')
    (hsz : w.heap.size ≤ w'.heap.size) (hblk : ∀ B, B < w.heap.size → w'.heap[B]? = w.heap[B]?)
    (hbn : g'.bn = g.bn) (htn : g'.tn = g.tn) (hln : g'.ln = g.ln) (hmn : g'.mn = g.mn) (htk : g'.tk = g.tk)
    (hro : ∀ B, B < w.heap.size → g'.ro B = g.ro B) (hroB : ∀ B, w'.heap.size ≤ B → g'.ro B = 0) : Sim P base W w' g' h := by
  have hbx : ∀ b, b < h.bn → g'.bx b = g.bx b := fun b hb => (e.bx b (hs.bn ▸ hb)).1
  have hbs : ∀ b, b < h.bn → g'.bs b = g.bs b := fun b hb => (e.bx b (hs.bn ▸ hb)).2
  have hlp : ∀ b, b < h.ln → g'.lp b = g.lp b := fun b hb => e.lp b (hs.ln ▸ hb)
  have hmp : ∀ b, b < h.mn → g'.mp b = g.mp b := fun b hb => e.mp b (hs.mn ▸ hb)
  refine ⟨Nat.le_trans hs.base_le hsz, hs.bn.trans hbn.symm, hs.tn.trans htn.symm, hs.ln.trans hln.symm, hs.mn.trans hmn.symm, ?_, ?_, ?_, ?_, hroB, ?_, ?_, ?_, ?_⟩
  · intro b cs hb hc
    obtain ⟨h1, h2, C, T, h3, h4, h5⟩ := hs.box b cs hb hc
    rw [hbx b hb, hbs b hb]
    exact ⟨h1, (hro _ (heap_lt h3)).trans h2, C, T, (hblk _ (heap_lt h3)).trans h3, h4.mono e, h5⟩
  · intro b b' hb hb' h1 h2
    rw [hbx b hb, hbx b' hb']
    exact hs.boxinj b b' hb hb' h1 h2
  · intro i hi
    obtain ⟨h1, h2, h3, h4, h5, C, T, h6, h7⟩ := hs.tok i hi
    rw [htk]
    exact ⟨h1, h2, h3, h4, (hro _ (heap_lt h6)).trans h5, C, T, (hblk _ (heap_lt h6)).trans h6, h7⟩
  · intro i j hi hj
    rw [htk]
    exact hs.tokinj i j hi hj
  · intro l r hl hr
    obtain ⟨h1, L, h2, h3⟩ := hs.loop l r hl hr
    rw [hlp l hl]
    exact ⟨h1, L, (hblk _ (heap_lt h2)).trans h2, h3.mono e⟩
  · intro l l' hl hl' i1 i2
    rw [hlp l hl, hlp l' hl']
    exact hs.loopinj l l' hl hl' i1 i2
  · intro l r hl hr
    obtain ⟨h1, L, c, h2, h3⟩ := hs.map l r hl hr
    rw [hmp l hl]
    exact ⟨h1, L, c, (hblk _ (heap_lt h2)).trans h2, h3.mono e⟩
  · intro l l' hl hl' i1 i2
    rw [hmp l hl, hmp l' hl']
    exact hs.mapinj l l' hl hl' i1 i2

/-- Where nothing that was there turns. -/
theorem Ext.step (hs : Sim P base W w g h) {w' : World} {g' : G} (e : GExt w g w' g') (hos : w'.os = w.os) (htp : w'.tape = w.tape) (hout : w'.output = w.output)
    (hblk : ∀ B, B < w.heap.size → w'.heap[B]? = w.heap[B]?) (hro : ∀ B, B < w.heap.size → g'.ro B = g.ro B) : Ext base W w g w' g' :=
  ⟨e, hos, htp, hout, fun B hB _ => hblk B (Nat.lt_of_lt_of_le hB hs.base_le), fun B hB _ => hro B (Nat.lt_of_lt_of_le hB hs.base_le), fun B _ ho => (hblk B (heap_lt ho)).trans ho⟩

theorem GExt.of_blk {w' : World} {g' : G} (hsz : w.heap.size ≤ w'.heap.size) (hblk : ∀ B, B < w.heap.size → w'.heap[B]? = w.heap[B]?)
    (hr : ∀ B, w.heap.size ≤ B → g.ro B = 0) (hro : ∀ B, B < w.heap.size → g'.ro B = g.ro B)
    (hbn : g.bn ≤ g'.bn) (hbx : ∀ b, b < g.bn → g'.bx b = g.bx b ∧ g'.bs b = g.bs b) (htn : g.tn ≤ g'.tn) (htk : ∀ b, b < g.tn → g'.tk b = g.tk b)
    (hln : g.ln ≤ g'.ln) (hlp : ∀ b, b < g.ln → g'.lp b = g.lp b) (hmn : g.mn ≤ g'.mn) (hmp : ∀ b, b < g.mn → g'.mp b = g.mp b) : GExt w g w' g' := by
  refine ⟨hsz, fun B k hk => ?_, hbn, hbx, htn, fun i hi => ?_, hln, hlp, hmn, hmp⟩
  · have hB : B < w.heap.size := by
      rcases Nat.lt_or_ge B w.heap.size with h | h
      · exact h
      · have := hr B h; omega
    exact ⟨by rw [hro B hB]; exact hk, cell_of_heap (hblk B hB)⟩
  · rw [htk i hi]; exact ⟨Nat.le_refl _, fun _ => rfl⟩

/-- A draw. -/
theorem Sim.drew (hs : Sim P base W w g h) : Sim P base W w.drew g h ∧ Ext base W w g w.drew g := by
  have e : GExt w g w.drew g := GExt.of_blk (Nat.le_refl _) (fun _ _ => rfl) hs.roB (fun _ _ => rfl) (Nat.le_refl _) (fun _ _ => ⟨rfl, rfl⟩) (Nat.le_refl _) (fun _ _ => rfl) (Nat.le_refl _) (fun _ _ => rfl) (Nat.le_refl _) (fun _ _ => rfl)
  exact ⟨hs.step e (Nat.le_refl _) (fun _ _ => rfl) rfl rfl rfl rfl rfl (fun _ _ => rfl) (fun B hB => hs.roB B hB), Ext.step hs e rfl rfl rfl (fun _ _ => rfl) (fun _ _ => rfl)⟩

/-- A new block that nobody writes: its first n cells may be read. -/
theorem Sim.allocRO (hs : Sim P base W w g h) (o : Obj) (n : Nat) :
    Sim P base W (w.alloc o) (g.addRO w.heap.size n) h ∧ Ext base W w g (w.alloc o) (g.addRO w.heap.size n) := by
  have hro : ∀ B, B < w.heap.size → (g.addRO w.heap.size n).ro B = g.ro B := fun B hB => by
    show (if B = w.heap.size then n else g.ro B) = _
    rw [if_neg (by omega)]
  have e : GExt w g (w.alloc o) (g.addRO w.heap.size n) := GExt.of_blk (by simp) (fun B hB => alloc_at hB) hs.roB hro (Nat.le_refl _) (fun _ _ => ⟨rfl, rfl⟩) (Nat.le_refl _) (fun _ _ => rfl) (Nat.le_refl _) (fun _ _ => rfl) (Nat.le_refl _) (fun _ _ => rfl)
  refine ⟨hs.step e (by simp) (fun B hB => alloc_at hB) rfl rfl rfl rfl rfl hro (fun B hB => ?_), Ext.step hs e rfl rfl rfl (fun B hB => alloc_at hB) hro⟩
  simp only [World.size_alloc] at hB
  show (if B = w.heap.size then n else g.ro B) = 0
  rw [if_neg (by omega)]
  exact hs.roB B (by omega)

/-! ### New boxes -/
def H.alloc (h : H) (cs : List AV) : H := { h with bn := h.bn + 1, bx := fun b => if b = h.bn then some cs else h.bx b }
def G.box (g : G) (B n : Nat) : G := { g with bn := g.bn + 1, bx := fun b => if b = g.bn then B else g.bx b, bs := fun b => if b = g.bn then n else g.bs b }

theorem Sim.allocBox (hs : Sim P base W w g h) (C : Array Value) (T : TypeId) (cs : List AV) (hc : RepP w g cs C) :
    Sim P base W (w.alloc (.cells C T)) (g.box w.heap.size C.size) (h.alloc cs) ∧ Ext base W w g (w.alloc (.cells C T)) (g.box w.heap.size C.size) := by
  have hbx' : ∀ b, b < g.bn → (g.box w.heap.size C.size).bx b = g.bx b ∧ (g.box w.heap.size C.size).bs b = g.bs b := fun b hb => by
    refine ⟨?_, ?_⟩
    · show (if b = g.bn then _ else g.bx b) = _
      rw [if_neg (by omega)]
    · show (if b = g.bn then _ else g.bs b) = _
      rw [if_neg (by omega)]
  have hbx : ∀ b, b < g.bn → (g.box w.heap.size C.size).bx b = g.bx b := fun b hb => (hbx' b hb).1
  have hbs : ∀ b, b < g.bn → (g.box w.heap.size C.size).bs b = g.bs b := fun b hb => (hbx' b hb).2
  have e : GExt w g (w.alloc (.cells C T)) (g.box w.heap.size C.size) := GExt.of_blk (by simp) (fun B hB => alloc_at hB) hs.roB (fun _ _ => rfl) (Nat.le_succ _) hbx' (Nat.le_refl _) (fun _ _ => rfl) (Nat.le_refl _) (fun _ _ => rfl) (Nat.le_refl _) (fun _ _ => rfl)
  have hnew : (g.box w.heap.size C.size).bx h.bn = w.heap.size := by
    show (if h.bn = g.bn then _ else _) = _
    rw [if_pos hs.bn]
  have hnews : (g.box w.heap.size C.size).bs h.bn = C.size := by
    show (if h.bn = g.bn then _ else _) = _
    rw [if_pos hs.bn]
  have hold : ∀ b, b < h.bn → (h.alloc cs).bx b = h.bx b := fun b hb => by
    show (if b = h.bn then _ else _) = _
    rw [if_neg (by omega)]
  have hnewh : (h.alloc cs).bx h.bn = some cs := by
    show (if h.bn = h.bn then _ else _) = _
    rw [if_pos rfl]
  have hlt : ∀ b cs', b < h.bn → h.bx b = some cs' → g.bx b < w.heap.size := fun b cs' hb hc => by
    obtain ⟨_, _, C, T, h3, _⟩ := hs.box b cs' hb hc
    exact heap_lt h3
  refine ⟨⟨Nat.le_trans hs.base_le (by simp), by show h.bn + 1 = g.bn + 1; rw [hs.bn], hs.tn, hs.ln, hs.mn, ?_, ?_, ?_, hs.tokinj, ?_, ?_, hs.loopinj, ?_, hs.mapinj⟩, Ext.step hs e rfl rfl rfl (fun B hB => alloc_at hB) (fun _ _ => rfl)⟩
  · intro b cs' hb hc'
    by_cases hbn : b = h.bn
    · subst hbn
      rw [hnewh] at hc'
      cases hc'
      rw [hnew, hnews]
      exact ⟨.inl hs.base_le, hs.roB _ (Nat.le_refl _), C, T, alloc_new, hc.mono e, rfl⟩
    · have hb' : b < h.bn := by simp only [H.alloc] at hb; omega
      rw [hold b hb'] at hc'
      obtain ⟨h1, h2, C', T', h3, h4, h5⟩ := hs.box b cs' hb' hc'
      rw [hbx b (hs.bn ▸ hb'), hbs b (hs.bn ▸ hb')]
      exact ⟨h1, h2, C', T', (alloc_at (heap_lt h3)).trans h3, h4.mono e, h5⟩
  · intro b b' hb hb' h1 h2 heq
    by_cases hbn : b = h.bn <;> by_cases hbn' : b' = h.bn
    · omega
    · have hb2 : b' < h.bn := by simp only [H.alloc] at hb'; omega
      rw [hold b' hb2] at h2
      obtain ⟨cs', hcs'⟩ := Option.isSome_iff_exists.1 h2
      have := hlt b' cs' hb2 hcs'
      rw [hbn, hnew, hbx b' (hs.bn ▸ hb2)] at heq
      omega
    · have hb2 : b < h.bn := by simp only [H.alloc] at hb; omega
      rw [hold b hb2] at h1
      obtain ⟨cs', hcs'⟩ := Option.isSome_iff_exists.1 h1
      have := hlt b cs' hb2 hcs'
      rw [hbn', hnew, hbx b (hs.bn ▸ hb2)] at heq
      omega
    · have hb2 : b < h.bn := by simp only [H.alloc] at hb; omega
      have hb3 : b' < h.bn := by simp only [H.alloc] at hb'; omega
      rw [hold b hb2] at h1
      rw [hold b' hb3] at h2
      rw [hbx b (hs.bn ▸ hb2), hbx b' (hs.bn ▸ hb3)] at heq
      exact hs.boxinj b b' hb2 hb3 h1 h2 heq
  · intro i hi
    obtain ⟨h1, h2, h3, h4, h5, C', T', h6, h7⟩ := hs.tok i hi
    exact ⟨h1, h2, h3, h4, h5, C', T', (alloc_at (heap_lt h6)).trans h6, h7⟩
  · intro B hB
    simp only [World.size_alloc] at hB
    exact hs.roB B (by omega)
  · intro l r hl hr
    obtain ⟨h1, L, h2, h3⟩ := hs.loop l r hl hr
    exact ⟨h1, L, (alloc_at (heap_lt h2)).trans h2, h3.mono e⟩
  · intro l r hl hr
    obtain ⟨h1, L, c, h2, h3⟩ := hs.map l r hl hr
    exact ⟨h1, L, c, (alloc_at (heap_lt h2)).trans h2, h3.mono e⟩

/-! ### A box is written -/
def H.set (h : H) (b : Nat) (cs : List AV) : H := { h with bx := fun b' => if b' = b then some cs else h.bx b' }

theorem Sim.setBox (hs : Sim P base W w g h) {b : Nat} {cs cs' : List AV} (hb : b < h.bn) (hc : h.bx b = some cs) {C' : Array Value} {T : TypeId} {w' : World}
    (hcs' : RepP w g cs' C') (hw : w'.heap[g.bx b]? = some (.cells C' T (0, 0))) (hbs : C'.size = g.bs b) (hsz : w'.heap.size = w.heap.size) (hoth : ∀ B, B ≠ g.bx b → w'.heap[B]? = w.heap[B]?)
    (hos : w'.os = w.os) (htp : w'.tape = w.tape) (hout : w'.output = w.output) :
    Sim P base W w' g (h.set b cs') ∧ Ext base W w g w' g := by
  obtain ⟨hmine, hro0, C, T0, hC, hrep, hbs0⟩ := hs.box b cs hb hc
  have e : GExt w g w' g := by
    refine ⟨by omega, fun B k hk => ⟨hk, ?_⟩, Nat.le_refl _, fun _ _ => ⟨rfl, rfl⟩, Nat.le_refl _, fun _ _ => ⟨Nat.le_refl _, fun _ => rfl⟩, Nat.le_refl _, fun _ _ => rfl, Nat.le_refl _, fun _ _ => rfl⟩
    by_cases hB : B = g.bx b
    · subst hB; omega
    · exact cell_of_heap (hoth B hB)
  have hne_tok : ∀ i, i < h.tn → (g.tk i).B ≠ g.bx b := fun i hi heq => by
    obtain ⟨_, _, h3, _, h5, _⟩ := hs.tok i hi
    rw [heq] at h5; omega
  have hne_loop : ∀ l r, l < h.ln → h.lp l = some r → g.lp l ≠ g.bx b := fun l r hl hr heq => by
    obtain ⟨_, L, h2, _⟩ := hs.loop l r hl hr
    rw [heq, hC] at h2; cases h2
  have hne_map : ∀ l r, l < h.mn → h.mp l = some r → g.mp l ≠ g.bx b := fun l r hl hr heq => by
    obtain ⟨_, L, c, h2, _⟩ := hs.map l r hl hr
    rw [heq, hC] at h2; cases h2
  refine ⟨⟨by have := hs.base_le; omega, hs.bn, hs.tn, hs.ln, hs.mn, ?_, ?_, ?_, hs.tokinj, ?_, ?_, hs.loopinj, ?_, hs.mapinj⟩, ⟨e, hos, htp, hout, fun B hB hW => hoth B fun heq => ?_, fun _ _ _ => rfl, fun B ds ho => ?_⟩⟩
  · intro b2 cs2 hb2 hc2
    by_cases hbb : b2 = b
    · subst hbb
      have : cs' = cs2 := by simpa [H.set] using hc2
      subst this
      exact ⟨hmine, hro0, C', T, hw, hcs'.mono e, hbs⟩
    · have hc3 : h.bx b2 = some cs2 := by simpa [H.set, hbb] using hc2
      obtain ⟨h1, h2, C2, T2, h3, h4, h5⟩ := hs.box b2 cs2 hb2 hc3
      have hne : g.bx b2 ≠ g.bx b := fun heq => hbb (hs.boxinj b2 b hb2 hb (by rw [hc3]; rfl) (by rw [hc]; rfl) heq)
      exact ⟨h1, h2, C2, T2, (hoth _ hne).trans h3, h4.mono e, h5⟩
  · intro b1 b2 hb1 hb2 h1 h2 heq
    refine hs.boxinj b1 b2 hb1 hb2 ?_ ?_ heq
    · by_cases hbb : b1 = b
      · subst hbb; rw [hc]; rfl
      · simpa [H.set, hbb] using h1
    · by_cases hbb : b2 = b
      · subst hbb; rw [hc]; rfl
      · simpa [H.set, hbb] using h2
  · intro i hi
    obtain ⟨h1, h2, h3, h4, h5, C', T', h6, h7⟩ := hs.tok i hi
    exact ⟨h1, h2, h3, h4, h5, C', T', (hoth _ (hne_tok i hi)).trans h6, h7⟩
  · intro B hB
    exact hs.roB B (by omega)
  · intro l r hl hr
    obtain ⟨h1, L, h2, h3⟩ := hs.loop l r hl hr
    exact ⟨h1, L, (hoth _ (hne_loop l r hl hr)).trans h2, h3.mono e⟩
  · intro l r hl hr
    obtain ⟨h1, L, c, h2, h3⟩ := hs.map l r hl hr
    exact ⟨h1, L, c, (hoth _ (hne_map l r hl hr)).trans h2, h3.mono e⟩
  · subst heq
    rcases hmine with h1 | h1
    · omega
    · exact hW h1
  · have : B ≠ g.bx b := fun heq => by
      subst heq
      rw [hC] at ho
      cases ho
    rw [hoth B this]; exact ho

/-! ### Tokens -/
def H.newTok (h : H) (n : Nat) : H := { h with tn := h.tn + 1, tk := fun i => if i = h.tn then n else h.tk i }
def H.setTok (h : H) (i n : Nat) : H := { h with tk := fun j => if j = i then n else h.tk j }
def G.newTok (g : G) (q : TokG) : G := { g with tn := g.tn + 1, tk := fun i => if i = g.tn then q else g.tk i, ro := fun b => if b = q.B then q.o + q.n * q.z else g.ro b }
def G.setTok (g : G) (i : Nat) (q : TokG) : G := { g with tk := fun j => if j = i then q else g.tk j, ro := fun b => if b = q.B then q.o + q.n * q.z else g.ro b }

/-- A new block that a slice owns: room behind its cells. -/
theorem Sim.allocTok (hs : Sim P base W w g h) (C : Array Value) (T : TypeId) (z n c : Nat) (hnz : 0 < n * z) (hnc : n ≤ c) (hC : c * z ≤ C.size) :
    Sim P base W (w.alloc (.cells C T)) (g.newTok ⟨w.heap.size, 0, z, n, c⟩) (h.newTok n) ∧ Ext base W w g (w.alloc (.cells C T)) (g.newTok ⟨w.heap.size, 0, z, n, c⟩) := by
  have hro : ∀ B, B < w.heap.size → (g.newTok ⟨w.heap.size, 0, z, n, c⟩).ro B = g.ro B := fun B hB => by
    show (if B = w.heap.size then _ else g.ro B) = _
    rw [if_neg (by omega)]
  have htk : ∀ i, i < g.tn → (g.newTok ⟨w.heap.size, 0, z, n, c⟩).tk i = g.tk i := fun i hi => by
    show (if i = g.tn then _ else g.tk i) = _
    rw [if_neg (by omega)]
  have e : GExt w g (w.alloc (.cells C T)) (g.newTok ⟨w.heap.size, 0, z, n, c⟩) := GExt.of_blk (by simp) (fun B hB => alloc_at hB) hs.roB hro (Nat.le_refl _) (fun _ _ => ⟨rfl, rfl⟩) (Nat.le_succ _) htk (Nat.le_refl _) (fun _ _ => rfl) (Nat.le_refl _) (fun _ _ => rfl)
  refine ⟨⟨Nat.le_trans hs.base_le (by simp), hs.bn, by show h.tn + 1 = g.tn + 1; rw [hs.tn], hs.ln, hs.mn, ?_, hs.boxinj, ?_, ?_, ?_, ?_, hs.loopinj, ?_, hs.mapinj⟩, Ext.step hs e rfl rfl rfl (fun B hB => alloc_at hB) hro⟩
  · intro b cs' hb hc'
    obtain ⟨h1, h2, C', T', h3, h4, h5⟩ := hs.box b cs' hb hc'
    exact ⟨h1, (hro _ (heap_lt h3)).trans h2, C', T', (alloc_at (heap_lt h3)).trans h3, h4.mono e, h5⟩
  · intro i hi
    by_cases hin : i = h.tn
    · subst hin
      have hq : (g.newTok ⟨w.heap.size, 0, z, n, c⟩).tk h.tn = ⟨w.heap.size, 0, z, n, c⟩ := by
        show (if h.tn = g.tn then _ else _) = _
        rw [if_pos hs.tn]
      have hn : (h.newTok n).tk h.tn = n := by
        show (if h.tn = h.tn then _ else _) = _
        rw [if_pos rfl]
      rw [hq, hn]
      refine ⟨rfl, .inl hs.base_le, hnz, hnc, ?_, C, T, alloc_new, by show 0 + c * z ≤ _; omega⟩
      show (if w.heap.size = w.heap.size then _ else _) = _
      rw [if_pos rfl]
    · have hi' : i < h.tn := by simp only [H.newTok] at hi; omega
      obtain ⟨h1, h2, h3, h4, h5, C', T', h6, h7⟩ := hs.tok i hi'
      rw [htk i (hs.tn ▸ hi')]
      have hn : (h.newTok n).tk i = h.tk i := by
        show (if i = h.tn then _ else _) = _
        rw [if_neg hin]
      exact ⟨hn.trans h1, h2, h3, h4, (hro _ (heap_lt h6)).trans h5, C', T', (alloc_at (heap_lt h6)).trans h6, h7⟩
  · intro i j hi hj heq
    have hold : ∀ i, i < h.tn → ((g.newTok ⟨w.heap.size, 0, z, n, c⟩).tk i).B < w.heap.size := fun i hi => by
      obtain ⟨_, _, _, _, _, C', T', h6, _⟩ := hs.tok i hi
      rw [htk i (hs.tn ▸ hi)]; exact heap_lt h6
    have hnew : ((g.newTok ⟨w.heap.size, 0, z, n, c⟩).tk h.tn).B = w.heap.size := by
      show (if h.tn = g.tn then _ else g.tk h.tn : TokG).B = _
      rw [if_pos hs.tn]
    by_cases h1 : i = h.tn <;> by_cases h2 : j = h.tn
    · omega
    · have := hold j (by simp only [H.newTok] at hj; omega)
      rw [h1, hnew] at heq; omega
    · have := hold i (by simp only [H.newTok] at hi; omega)
      rw [h2, hnew] at heq; omega
    · have hi' : i < h.tn := by simp only [H.newTok] at hi; omega
      have hj' : j < h.tn := by simp only [H.newTok] at hj; omega
      rw [htk i (hs.tn ▸ hi'), htk j (hs.tn ▸ hj')] at heq
      exact hs.tokinj i j hi' hj' heq
  · intro B hB
    simp only [World.size_alloc] at hB
    show (if B = w.heap.size then _ else g.ro B) = 0
    rw [if_neg (by omega)]
    exact hs.roB B (by omega)
  · intro l r hl hr
    obtain ⟨h1, L, h2, h3⟩ := hs.loop l r hl hr
    exact ⟨h1, L, (alloc_at (heap_lt h2)).trans h2, h3.mono e⟩
  · intro l r hl hr
    obtain ⟨h1, L, c, h2, h3⟩ := hs.map l r hl hr
    exact ⟨h1, L, c, (alloc_at (heap_lt h2)).trans h2, h3.mono e⟩

end
end Go.Am
