/- What the functions that the statement reaches do: their contracts; and what follows of it. -/
import Derived.Test.YtdcpendppalkgaaGreatSLintAdvice6
import Derived.Test.YtdcpendppalkgaaGreatSLintAdvice5
/- Breakpoints that are counted; a catalogue's breakpoints that may be: plain laws. -/
namespace Go.Proofs
open Go Go.RowKit Go.Am

def Ctlg.one (x : Ctlg) (c d i : Nat) : Nat := if x.brkAt c d i = true then 1 else 0

theorem with_may {x : Ctlg} (h : catMay x = true) {l : List Int} (hl : ∀ c d, c < 4 → d < 4 → (x.with l).brkOK c d = true) : catMay (x.with l) = true := by
  simp only [catMay, Bool.and_eq_true] at h ⊢
  refine ⟨h.1, ?_⟩
  rw [List.all_eq_true]
  intro c hc
  rw [List.all_eq_true]
  intro d hd
  exact hl c d (List.mem_range.1 hc) (List.mem_range.1 hd)

theorem turnL_at {n : Nat} (n4 : n ≤ 4) (t : Nat → Nat → Int) {c d : Nat} (hc : c < 4) (hd : d < 4) : ((turnL n t (n * n))[4 * c + d]?).getD 0 = if c < n ∧ d < n then t c d else 0 := by
  have hlt : 4 * c + d < (turnL n t (n * n)).length := by rw [turnL_len]; omega
  rw [List.getElem?_eq_getElem hlt, Option.getD_some, turnL_get, show (4 * c + d) / 4 = c by omega, show (4 * c + d) % 4 = d by omega]
  by_cases h : c < n ∧ d < n
  · have := Nat.mul_le_mul_right n (show c + 1 ≤ n by omega)
    rw [Nat.add_mul] at this
    rw [if_pos h, if_pos ⟨h.1, h.2, by omega⟩]
  · rw [if_neg h, if_neg fun q => h ⟨q.1, q.2.1⟩]

theorem open_may {x : Ctlg} (hw : x.wf) (h : catMay x = true) : catMay (openOf x) = true := by
  obtain ⟨hs, hg⟩ := catMay_small hw h
  refine with_may h fun c d hc hd => ?_
  have hb : (openOf x).brk c d = if c < x.classes.length ∧ d < x.classes.length then openT x c d else 0 := turnL_at hs.2.1 _ hc hd
  show (openOf x).brkOK c d = true
  simp only [Ctlg.brkOK, Bool.and_eq_true, Bool.not_eq_true', decide_eq_false_iff_not, hb]
  have hm : (openOf x).mostB c d = x.mostB c d := rfl
  rw [hm, Ctlg.mostB]
  by_cases hcd : c < x.classes.length ∧ d < x.classes.length
  · rw [if_pos hcd, if_pos hcd, openT, dif_pos hcd.1, Ctlg.stepsN_of hcd.1, Cls.all]
    obtain ⟨s0, s4, _⟩ := hs.2.2.1 _ (List.getElem_mem hcd.1)
    have : x.classes[c].steps.length - 1 = 0 ∨ x.classes[c].steps.length - 1 = 1 ∨ x.classes[c].steps.length - 1 = 2 ∨ x.classes[c].steps.length - 1 = 3 := by omega
    rcases this with e | e | e | e <;> rw [e] <;> decide
  · rw [if_neg hcd, if_neg hcd]; decide
theorem brk_open {x : Ctlg} (hs : x.small) {c d i : Int} (h : x.brkAt c d i = true) : (openOf x).brkAt c d i = true := by
  have h0 := h
  simp only [Ctlg.brkAt, Ctlg.inn, Bool.and_eq_true, decide_eq_true_eq] at h
  obtain ⟨⟨⟨⟨⟨⟨a1, a2⟩, _⟩, ⟨b1, b2⟩, _⟩, i1⟩, i2⟩, _⟩ := h
  obtain ⟨c, rfl⟩ := Int.eq_ofNat_of_zero_le a1
  obtain ⟨d, rfl⟩ := Int.eq_ofNat_of_zero_le b1
  obtain ⟨i, rfl⟩ := Int.eq_ofNat_of_zero_le i1
  have hc : c < x.classes.length := by omega
  rw [open_at hs hc (by omega), decide_eq_true_eq]
  rw [Int.toNat_natCast, Ctlg.stepsN_of hc] at i2
  omega
/-- What is compared where a catalogue may be: each breakpoint with its own low bits. -/
def mayT (x : Ctlg) (c d : Nat) : Int := x.brk c d % 2 ^ (x.stepsN c - 1)
theorem may_turn {x : Ctlg} (n4 : x.classes.length ≤ 4) (hb : x.breaks.length = 16) : decide (x.breaks = turnL x.classes.length (mayT x) (x.classes.length * x.classes.length)) = (List.range 4).all fun c => (List.range 4).all (x.brkOK c) := by
  have hp : ∀ k : Nat, (0 : Int) < 2 ^ k := fun k => Int.pow_pos (by decide)
  rw [Bool.eq_iff_iff, decide_eq_true_eq, List.all_eq_true]
  constructor
  · intro h c hc
    rw [List.all_eq_true]
    intro d hd
    have hc := List.mem_range.1 hc
    have hd := List.mem_range.1 hd
    have hv : x.brk c d = if c < x.classes.length ∧ d < x.classes.length then mayT x c d else 0 := by
      have e : x.brk c d = ((turnL x.classes.length (mayT x) (x.classes.length * x.classes.length))[4 * c + d]?).getD 0 := by rw [Ctlg.brk, ← h]
      rw [e]; exact turnL_at n4 _ hc hd
    simp only [Ctlg.brkOK, Bool.and_eq_true, Bool.not_eq_true', decide_eq_false_iff_not]
    by_cases hcd : c < x.classes.length ∧ d < x.classes.length
    · have hmo : x.mostB c d = 2 ^ (x.stepsN c - 1) := if_pos hcd
      rw [if_pos hcd] at hv
      rw [mayT] at hv
      have := Int.emod_nonneg (x.brk c d) (b := 2 ^ (x.stepsN c - 1)) (by have := hp (x.stepsN c - 1); omega)
      have := Int.emod_lt_of_pos (x.brk c d) (hp (x.stepsN c - 1))
      omega
    · have hmo : x.mostB c d = 1 := if_neg hcd
      rw [if_neg hcd] at hv
      omega
  · intro h
    apply List.ext_getElem
    · rw [hb, turnL_len]
    intro i h1 h2
    have hc : i / 4 < 4 := by omega
    have hd : i % 4 < 4 := by omega
    have hh := h (i / 4) (List.mem_range.2 hc)
    rw [List.all_eq_true] at hh
    have hh := hh (i % 4) (List.mem_range.2 hd)
    simp only [Ctlg.brkOK, Bool.and_eq_true, Bool.not_eq_true', decide_eq_false_iff_not] at hh
    have hi : 4 * (i / 4) + i % 4 = i := by omega
    have ht := turnL_at n4 (mayT x) hc hd
    rw [hi, List.getElem?_eq_getElem h2, Option.getD_some] at ht
    have hx : x.brk (i / 4) (i % 4) = x.breaks[i] := by rw [Ctlg.brk_of hb hc hd]; simp only [hi]
    rw [ht, ← hx]
    by_cases hcd : i / 4 < x.classes.length ∧ i % 4 < x.classes.length
    · have hmo : x.mostB (i / 4) (i % 4) = 2 ^ (x.stepsN (i / 4) - 1) := if_pos hcd
      rw [if_pos hcd, mayT, Int.emod_eq_of_lt] <;> omega
    · have hmo : x.mostB (i / 4) (i % 4) = 1 := if_neg hcd
      rw [if_neg hcd]
      omega

theorem cells_ints : ∀ (l m : List Int), l.length = m.length → cellsEq (List.replicate l.length LK.i) (l.map (AV.int .i64)) (m.map (AV.int .i64)) = some (decide (l = m))
  | [], [], _ => rfl
  | a :: l, b :: m, h => by
    have ih := cells_ints l m (by simpa using h)
    rw [List.length_cons, List.replicate_succ, List.map_cons, List.map_cons]
    simp only [cellsEq, cellEq, if_true, Option.bind_some, ih, Option.map_some]
    congr 1
    rw [Bool.eq_iff_iff]
    simp
  | [], _ :: _, h => by simp at h
  | _ :: _, [], h => by simp at h
end Go.Proofs

/- Clashes of steps and classes: the program's answer is the document's (plain laws). -/
namespace Go.Proofs
open Go Go.RowKit Go.Am

/-- What a footprint may read, and write: the program's lists. -/
def mayW (n : Int) (p : List Sp × List Sp) (s : SpanT) : List Sp × List Sp := (plainL (p.1 ++ spanL s n), if s.write = true then plainL (p.2 ++ spanL s n) else p.2)
def mayR (l : List SpanT) (n : Int) : List Sp × List Sp := l.foldl (mayW n) ([], [])
theorem mayR_next {l : List SpanT} {n : Int} {i : Nat} (h : i < l.length) : mayR (l.take (i + 1)) n = mayW n (mayR (l.take i) n) l[i] := by
  rw [List.take_succ_eq_append_getElem h, mayR, List.foldl_append]
  rfl
theorem mayR_has (n : Int) (k : Int) : ∀ l : List SpanT, hasK (mayR l n).1 k = (l.any fun s => hasK (spanL s n) k) ∧ hasK (mayR l n).2 k = l.any fun s => s.write && hasK (spanL s n) k := by
  have key : ∀ (l : List SpanT) (p : List Sp × List Sp), hasK (l.foldl (mayW n) p).1 k = (hasK p.1 k || l.any fun s => hasK (spanL s n) k) ∧ hasK (l.foldl (mayW n) p).2 k = (hasK p.2 k || l.any fun s => s.write && hasK (spanL s n) k) := fun l => by
    induction l with
    | nil => intro p; simp
    | cons s l ih =>
      intro p
      obtain ⟨h1, h2⟩ := ih (mayW n p s)
      rw [List.foldl_cons, h1, h2]
      refine ⟨?_, ?_⟩
      · simp only [mayW, plainL_has, hasK_app, List.any_cons, Bool.or_assoc]
      · cases hw : s.write
        · simp [mayW, hw]
        · simp only [mayW, hw, if_true, plainL_has, hasK_app, List.any_cons, Bool.or_assoc, Bool.true_and]
  intro l
  obtain ⟨h1, h2⟩ := key l ([], [])
  exact ⟨by rw [mayR, h1]; rfl, by rw [mayR, h2]; rfl⟩
theorem mayR_len (n : Int) (l : List SpanT) : (mayR l n).1.length ≤ 500 ∧ (mayR l n).2.length ≤ 500 := by
  have key : ∀ (l : List SpanT) (p : List Sp × List Sp), p.1.length ≤ 500 ∧ p.2.length ≤ 500 → (l.foldl (mayW n) p).1.length ≤ 500 ∧ (l.foldl (mayW n) p).2.length ≤ 500 := fun l => by
    induction l with
    | nil => exact fun p h => h
    | cons s l ih =>
      intro p h
      refine ih _ ⟨plainL_len _, ?_⟩
      unfold mayW
      simp only
      split
      · exact plainL_len _
      · exact h.2
  exact key l _ ⟨by simp, by simp⟩
/-- May two footprints clash? -/
def clash2 (a : List SpanT) (m : Int) (b : List SpanT) (n : Int) : Bool := meetL (mayR a m).2 (mayR b n).1 || meetL (mayR a m).1 (mayR b n).2
/-- The document's sets. -/
def someF (l : List SpanT) (w : Bool) (k : Nat) : Bool := l.any fun s => (s.write || !w) && accF s 100 0 k
def clashF (a b : List SpanT) : Bool := meetB (someF a true) (someF b false) || meetB (someF a false) (someF b true)
theorem footMay_one {l : List SpanT} {n : Int} (h : footMay l n = true) : ∀ s ∈ l, footMay [s] n = true := fun s hs => by
  simp only [footMay, Bool.and_eq_true, Bool.not_eq_true', decide_eq_false_iff_not, List.all_eq_true] at h ⊢
  refine ⟨⟨h.1.1, by simp⟩, fun t ht => ?_⟩
  rw [List.mem_singleton.1 ht]
  exact h.2 s hs
theorem someF_may {l : List SpanT} {n : Int} (h : footMay l n = true) {k : Nat} (hk : k < 1000) : someF l false k = hasK (mayR l n).1 k ∧ someF l true k = hasK (mayR l n).2 k := by
  obtain ⟨h1, h2⟩ := mayR_has n k l
  rw [h1, h2]
  have hone := footMay_one h
  have e : ∀ s ∈ l, accF s 100 0 k = hasK (spanL s n) k := fun s hs => accF_all (hone s hs) k hk
  refine ⟨?_, ?_⟩
  · rw [Bool.eq_iff_iff]
    simp only [someF, List.any_eq_true, Bool.not_false, Bool.or_true, Bool.true_and]
    exact ⟨fun ⟨s, hs, q⟩ => ⟨s, hs, by rw [← e s hs]; exact q⟩, fun ⟨s, hs, q⟩ => ⟨s, hs, by rw [e s hs]; exact q⟩⟩
  · rw [Bool.eq_iff_iff]
    simp only [someF, List.any_eq_true, Bool.not_true, Bool.or_false, Bool.and_eq_true]
    exact ⟨fun ⟨s, hs, w, q⟩ => ⟨s, hs, w, by rw [← e s hs]; exact q⟩, fun ⟨s, hs, w, q⟩ => ⟨s, hs, w, by rw [e s hs]; exact q⟩⟩
theorem meet_may {f g : Nat → Bool} {a b : List Sp} (hf : ∀ k, k < 1000 → f k = hasK a k) (hg : ∀ k, k < 1000 → g k = hasK b k) : meetB f g = meetL a b := by
  rw [Bool.eq_iff_iff, meetB_iff, meetL_iff]
  exact ⟨fun ⟨k, hk, p, q⟩ => ⟨k, hk, by rw [← hf k hk]; exact p, by rw [← hg k hk]; exact q⟩, fun ⟨k, hk, p, q⟩ => ⟨k, hk, by rw [hf k hk]; exact p, by rw [hg k hk]; exact q⟩⟩
theorem clashF_may {a b : List SpanT} {m n : Int} (ha : footMay a m = true) (hb : footMay b n = true) : clashF a b = clash2 a m b n := by
  unfold clashF clash2
  rw [meet_may (fun k hk => (someF_may ha hk).2) (fun k hk => (someF_may hb hk).1), meet_may (fun k hk => (someF_may ha hk).1) (fun k hk => (someF_may hb hk).2)]

theorem someF_flat (l : List Stp) (w : Bool) (k : Nat) : someF (l.flatMap (·.foot)) w k = l.any fun s => someF s.foot w k := by
  simp only [someF, List.any_flatMap]
theorem meetB_any (l m : List Stp) (w v : Bool) : meetB (someF (l.flatMap (·.foot)) w) (someF (m.flatMap (·.foot)) v) = l.any fun s => m.any fun t => meetB (someF s.foot w) (someF t.foot v) := by
  rw [Bool.eq_iff_iff]
  simp only [meetB_iff, someF_flat, List.any_eq_true]
  constructor
  · rintro ⟨k, hk, ⟨s, hs, p⟩, t, ht, q⟩
    exact ⟨s, hs, t, ht, k, hk, p, q⟩
  · rintro ⟨s, hs, t, ht, k, hk, p, q⟩
    exact ⟨k, hk, ⟨s, hs, p⟩, t, ht, q⟩
/-- The document's answer for two classes. -/
def clsF (c d : Cls) : Bool := clashF (c.steps.flatMap (·.foot)) (d.steps.flatMap (·.foot))
theorem clsF_any (c d : Cls) : clsF c d = c.steps.any fun s => d.steps.any fun t => clashF s.foot t.foot := by
  unfold clsF clashF
  rw [meetB_any, meetB_any, Bool.eq_iff_iff]
  simp only [Bool.or_eq_true, List.any_eq_true]
  constructor
  · rintro (⟨s, hs, t, ht, h⟩ | ⟨s, hs, t, ht, h⟩)
    · exact ⟨s, hs, t, ht, .inl h⟩
    · exact ⟨s, hs, t, ht, .inr h⟩
  · rintro ⟨s, hs, t, ht, h | h⟩
    · exact .inl ⟨s, hs, t, ht, h⟩
    · exact .inr ⟨s, hs, t, ht, h⟩
theorem cls_foot {c : Cls} (h : clsMay c = true) : ∀ s ∈ c.steps, footMay s.foot c.args = true := fun s hs => by
  simp only [clsMay, Bool.and_eq_true, decide_eq_true_eq, List.all_eq_true] at h
  obtain ⟨⟨_, hl⟩, hz⟩ := h
  obtain ⟨i, hi, rfl⟩ := List.getElem_of_mem hs
  have := hz (c.steps[i], c.comps[i]'(by omega)) (by
    have : (c.steps.zip c.comps)[i]'(by simp; omega) ∈ c.steps.zip c.comps := List.getElem_mem _
    simpa using this)
  simp only [stepMay, Bool.and_eq_true] at this
  exact this.1.1.2
/-- The program's answer for two steps of two classes that may be. -/
def clashC (c : Cls) (i : Nat) (d : Cls) (k : Nat) : Bool := match c.steps[i]?, d.steps[k]? with
  | some s, some t => clash2 s.foot c.args t.foot d.args
  | _, _ => false
theorem clashC_of {c d : Cls} {i k : Nat} (hi : i < c.steps.length) (hk : k < d.steps.length) : clashC c i d k = clash2 c.steps[i].foot c.args d.steps[k].foot d.args := by
  unfold clashC
  rw [List.getElem?_eq_getElem hi, List.getElem?_eq_getElem hk]
theorem clsF_prog {c d : Cls} (hc : clsMay c = true) (hd : clsMay d = true) : clsF c d = (List.range c.steps.length).any fun i => (List.range d.steps.length).any fun k => clashC c i d k := by
  rw [clsF_any, Bool.eq_iff_iff]
  simp only [List.any_eq_true, List.mem_range]
  constructor
  · rintro ⟨s, hs, t, ht, h⟩
    obtain ⟨i, hi, rfl⟩ := List.getElem_of_mem hs
    obtain ⟨k, hk, rfl⟩ := List.getElem_of_mem ht
    refine ⟨i, hi, k, hk, ?_⟩
    rw [clashC_of hi hk, ← clashF_may (cls_foot hc _ hs) (cls_foot hd _ ht)]
    exact h
  · rintro ⟨i, hi, k, hk, h⟩
    refine ⟨c.steps[i], List.getElem_mem hi, d.steps[k], List.getElem_mem hk, ?_⟩
    rw [clashC_of hi hk, ← clashF_may (cls_foot hc _ (List.getElem_mem hi)) (cls_foot hd _ (List.getElem_mem hk))] at h
    exact h

/-- The breakpoints with the advice. -/
def clashX (x : Ctlg) (c d : Nat) : Bool := match x.classes[c]?, x.classes[d]? with
  | some a, some b => clsF a b
  | _, _ => true
/-- The breakpoints where only the first rows, and of the next the first, have been turned. -/
def advL (x : Ctlg) (k : Nat) : List Int := (List.range 16).map fun i => if i / 4 < x.classes.length ∧ i % 4 < x.classes.length ∧ i / 4 * x.classes.length + i % 4 < k ∧ clashX x (i / 4) (i % 4) = false then openT x (i / 4) (i % 4) else (x.breaks[i]?).getD 0
theorem advL_len (x : Ctlg) (k : Nat) : (advL x k).length = 16 := by simp [advL]
theorem advL_zero (x : Ctlg) (h : x.breaks.length = 16) : advL x 0 = x.breaks := by
  apply List.ext_getElem
  · rw [advL_len, h]
  intro i h1 h2
  simp only [advL, List.getElem_map, List.getElem_range]
  rw [if_neg (by omega), List.getElem?_eq_getElem h2]
  rfl
theorem advL_get (x : Ctlg) (k : Nat) {i : Nat} (hi : i < (advL x k).length) : (advL x k)[i] = if i / 4 < x.classes.length ∧ i % 4 < x.classes.length ∧ i / 4 * x.classes.length + i % 4 < k ∧ clashX x (i / 4) (i % 4) = false then openT x (i / 4) (i % 4) else (x.breaks[i]?).getD 0 := by
  simp [advL]
theorem adv_idx {n c d i : Nat} (hc : c < n) (hd : d < n) (ha : i / 4 < n) (hb : i % 4 < n) (hd4 : d < 4) (h : ¬ c * 4 + d = i) : i / 4 * n + i % 4 ≠ c * n + d := fun he => by
  have q1 : i / 4 = c := by
    rcases Nat.lt_trichotomy (i / 4) c with q | q | q
    · have := Nat.mul_le_mul_right n (show i / 4 + 1 ≤ c by omega)
      rw [Nat.add_mul] at this; omega
    · exact q
    · have := Nat.mul_le_mul_right n (show c + 1 ≤ i / 4 by omega)
      rw [Nat.add_mul] at this; omega
  rw [q1] at he
  omega
theorem advL_same {x : Ctlg} (n4 : x.classes.length ≤ 4) {c d : Nat} (hc : c < x.classes.length) (hd : d < x.classes.length) (h : clashX x c d = true) : advL x (c * x.classes.length + d + 1) = advL x (c * x.classes.length + d) := by
  apply List.ext_getElem
  · rw [advL_len, advL_len]
  intro i h1 h2
  rw [advL_get, advL_get]
  by_cases hi : c * 4 + d = i
  · subst hi
    have e1 : (c * 4 + d) / 4 = c := by omega
    have e2 : (c * 4 + d) % 4 = d := by omega
    rw [e1, e2, h]
    simp
  · by_cases hr : i / 4 < x.classes.length ∧ i % 4 < x.classes.length
    · have := adv_idx hc hd hr.1 hr.2 (by omega) hi
      have e : (i / 4 * x.classes.length + i % 4 < c * x.classes.length + d + 1) ↔ (i / 4 * x.classes.length + i % 4 < c * x.classes.length + d) := by omega
      simp only [e]
    · rw [if_neg fun q => hr ⟨q.1, q.2.1⟩, if_neg fun q => hr ⟨q.1, q.2.1⟩]
theorem advL_step {x : Ctlg} (n4 : x.classes.length ≤ 4) {c d : Nat} (hc : c < x.classes.length) (hd : d < x.classes.length) (h : clashX x c d = false) : List.take (c * 4 + d) ((advL x (c * x.classes.length + d)).map (AV.int .i64)) ++ AV.int .i64 (openT x c d) :: List.drop (c * 4 + d + 1) ((advL x (c * x.classes.length + d)).map (AV.int .i64)) = (advL x (c * x.classes.length + d + 1)).map (AV.int .i64) := by
  have hl := advL_len x (c * x.classes.length + d)
  have hl2 := advL_len x (c * x.classes.length + d + 1)
  have key : advL x (c * x.classes.length + d + 1) = (advL x (c * x.classes.length + d)).set (c * 4 + d) (openT x c d) := by
    apply List.ext_getElem
    · simp [hl, hl2]
    intro i h1 h2
    rw [List.getElem_set, advL_get]
    by_cases hi : c * 4 + d = i
    · subst hi
      have e1 : (c * 4 + d) / 4 = c := by omega
      have e2 : (c * 4 + d) % 4 = d := by omega
      rw [e1, e2, if_pos ⟨hc, hd, by omega, h⟩, if_pos rfl]
    · rw [if_neg hi, advL_get]
      by_cases hr : i / 4 < x.classes.length ∧ i % 4 < x.classes.length
      · have := adv_idx hc hd hr.1 hr.2 (by omega) hi
        have e : (i / 4 * x.classes.length + i % 4 < c * x.classes.length + d + 1) ↔ (i / 4 * x.classes.length + i % 4 < c * x.classes.length + d) := by omega
        simp only [e]
      · rw [if_neg fun q => hr ⟨q.1, q.2.1⟩, if_neg fun q => hr ⟨q.1, q.2.1⟩]
  rw [key, List.map_set, List.set_eq_take_append_cons_drop, if_pos (by simp [hl]; omega)]
/-- A catalogue with the advice. -/
def advOf (x : Ctlg) : Ctlg := x.with (advL x (x.classes.length * x.classes.length))
theorem adv_may {x : Ctlg} (hw : x.wf) (h : catMay x = true) : catMay (advOf x) = true := by
  obtain ⟨hs, hg⟩ := catMay_small hw h
  refine with_may h fun c d hc hd => ?_
  show (advOf x).brkOK c d = true
  have ho : (openOf x).brkOK c d = true := by
    have := open_may hw h
    simp only [catMay, Bool.and_eq_true, List.all_eq_true] at this
    exact this.2 c (List.mem_range.2 hc) d (List.mem_range.2 hd)
  have hx : x.brkOK c d = true := by
    have := h
    simp only [catMay, Bool.and_eq_true, List.all_eq_true] at this
    exact this.2 c (List.mem_range.2 hc) d (List.mem_range.2 hd)
  have hob : (openOf x).brk c d = if c < x.classes.length ∧ d < x.classes.length then openT x c d else 0 := turnL_at hs.2.1 _ hc hd
  have hb : (advOf x).brk c d = x.brk c d ∨ (advOf x).brk c d = (openOf x).brk c d := by
    rw [hob]
    have hlt : 4 * c + d < (advL x (x.classes.length * x.classes.length)).length := by rw [advL_len]; omega
    have e : (advOf x).brk c d = (advL x (x.classes.length * x.classes.length))[4 * c + d] := by
      show ((advL x (x.classes.length * x.classes.length))[4 * c + d]?).getD 0 = _
      rw [List.getElem?_eq_getElem hlt]; rfl
    rw [e, advL_get, show (4 * c + d) / 4 = c by omega, show (4 * c + d) % 4 = d by omega]
    split
    · rename_i q
      rw [if_pos ⟨q.1, q.2.1⟩]
      exact .inr rfl
    · exact .inl rfl
  have hm1 : (advOf x).mostB c d = x.mostB c d := rfl
  have hm2 : (openOf x).mostB c d = x.mostB c d := rfl
  rw [Ctlg.brkOK, hm1]
  rcases hb with hb | hb
  · rw [hb]; exact hx
  · rw [hb, ← hm2]; exact ho
end Go.Proofs

/- The laws of units: parts and bounds. -/
namespace Go.Proofs
open Go Go.RowKit Go.Am

end Go.Proofs

/- The law of units: bounds. -/
namespace Go.Proofs
open Go Go.RowKit Go.Am

end Go.Proofs

/- Spans of a node; what is more than the statements look at. -/
namespace Go.Proofs
open Go Go.RowKit Go.Am

def spnOK (s : Spn) : Bool := decide (0 ≤ s.lo) && decide (s.lo ≤ s.hi) && decide (s.hi ≤ 999)
def spansOK (l : List Spn) : Bool := decide (l.length ≤ 40) && l.all spnOK

theorem refSpans_ok (l : List Spn) (hl : l.length ≤ 9223372036854775807) : PCall Tryz.prog 55 [.sl .no (l.map encSpn)] (.bool (spansOK l)) := by
  refine PCall.run hb55 ok55 (by simp) (pures1 (elOK_Spn.pureL l)) (.bool _) ?_
  simp -implicitDefEqProofs []
  refine run_loop (fun n s h => ∃ j : Nat, n = l.length - j ∧ j ≤ l.length ∧ s 0 = .sl .no (l.map encSpn) ∧ s 3 = .int .i64 j ∧ ∀ i (hi : i < l.length), i < j → spnOK l[i] = true) ?_ l.length ?_
  rotate_left
  · exact ⟨0, by simp⟩
  rintro n s h ⟨j, hn, hj, s0, s3, hall⟩ ih
  by_cases hlt : j < l.length
  · have hno : spnOK l[j] = false → spansOK l = false := fun h => by
      rw [spansOK, all_take_false hlt h]; simp
    have hyes : spnOK l[j] = true → ∀ i (hi : i < l.length), i < j + 1 → spnOK l[i] = true := fun h i hi hij => by
      by_cases e : i = j
      · subst e; exact h
      · exact hall i hi (by omega)
    simp -implicitDefEqProofs [s0, s3, hlt]
    refine run_dregL c55_d4 rfl ?_
    by_cases h1 : l[j].lo < 0
    · have := hno (by simp [spnOK, show ¬ 0 ≤ l[j].lo by omega])
      simp -implicitDefEqProofs [s0, s3, hlt, encSpn, h1, this]
    by_cases h2 : l[j].hi < l[j].lo
    · have := hno (by simp [spnOK, show ¬ l[j].lo ≤ l[j].hi by omega])
      simp -implicitDefEqProofs [s0, s3, hlt, encSpn, h1, h2, this]
    by_cases h3 : 999 < l[j].hi
    · have := hno (by simp [spnOK, show ¬ l[j].hi ≤ 999 by omega])
      simp -implicitDefEqProofs [s0, s3, hlt, encSpn, h1, h2, h3, this]
    have hy := hyes (by simp [spnOK]; omega)
    simp -implicitDefEqProofs [s0, s3, hlt, encSpn, h1, h2, h3, inc_i64 hlt hl, -Int.natCast_add]
    exact ih (l.length - (j + 1)) _ _ (by omega) ⟨j + 1, rfl, by omega, by simp [s0], by simp, hy⟩
  · have hw : l.all spnOK = true := all_whole (by omega) hall
    have hc : decide ((l.length : Int) ≤ 40) = decide (l.length ≤ 40) := by rw [Bool.eq_iff_iff]; simp; omega
    simp -implicitDefEqProofs [s0, s3, hlt, spansOK, hw, hc]

/-! ### More than the statements look at -/
theorem any_at {α : Type} {l : List α} {p : α → Bool} {j : Nat} (hj : j < l.length) (h : p l[j] = true) : l.any p = true := by
  rw [List.any_eq_true]; exact ⟨_, List.getElem_mem hj, h⟩
theorem any_none {α : Type} {l : List α} {p : α → Bool} {j : Nat} (hj : l.length ≤ j) (h : ∀ i (hi : i < l.length), i < j → p l[i] = false) : l.any p = false := by
  rw [List.any_eq_false]
  intro y hy
  obtain ⟨i, hi, rfl⟩ := List.mem_iff_getElem.1 hy
  simp [h i hi (by omega)]
def bigS (s : Stp) : Bool := decide (40 < s.code.length) || decide (40 < s.foot.length)
def bigC (c : Cls) : Bool := decide (300 < c.name.size) || decide (20 < c.steps.length) || decide (20 < c.comps.length) || (c.steps ++ c.comps).any bigS
def bigX (x : Ctlg) : Bool := x.classes.any bigC || decide (12 < x.classes.length)
def bigN (n : Nod) : Bool := decide (60 < n.reads.length) || decide (60 < n.writes.length)
def bigH (x : Ctlg) (l : List Nod) : Bool := l.any bigN || (bigX x || decide (110 < l.length))

theorem great11_ok (c : Cls) (hc : c.wf) : PCall Tryz.prog 21 [.agg (encCls c)] (.bool (bigC c)) := by
  refine PCall.run hb21 ok21 (by simp) (pures1 (.agg (pure_encCls c))) (.bool _) ?_
  by_cases h1 : (300 : Int) < c.name.size
  · have hb : bigC c = true := by simp [bigC, show 300 < c.name.size by omega]
    simp -implicitDefEqProofs [encCls, H.nil, h1, hb]
  by_cases h2 : (20 : Int) < c.steps.length
  · have hb : bigC c = true := by simp [bigC, show 20 < c.steps.length by omega]
    simp -implicitDefEqProofs [encCls, H.nil, h1, h2, hb]
  by_cases h3 : (20 : Int) < c.comps.length
  · have hb : bigC c = true := by simp [bigC, show 20 < c.comps.length by omega]
    simp -implicitDefEqProofs [encCls, H.nil, h1, h2, h3, hb]
  have hb : bigC c = (c.steps ++ c.comps).any bigS := by simp [bigC, show ¬ 20 < c.comps.length by omega, show ¬ 20 < c.steps.length by omega, show ¬ 300 < c.name.size by omega]
  have hlen : (c.steps ++ c.comps).length ≤ 40 := by simp; omega
  generalize hL : c.steps ++ c.comps = L at hb hlen
  simp -implicitDefEqProofs [encCls, H.nil, h1, h2, h3]
  refine run_dreg c21_d4 ?_
  simp -implicitDefEqProofs []
  refine appQ_tok (t := .full) (es := []) trivial (by simp) (es2 := c.steps.map encStp) (by simp [srcA, encStp]) (by simp; omega) fun t' h' q1 q2 q3 q4 => ?_
  have hb0 : h'.bx 0 = some (encCls c) := by rw [q3.bx 0 (by simp) (fun h => h)]; simp [encCls]
  rw [encCls] at hb0
  have hn0 : 0 < h'.bn := by rw [q4]; simp
  simp -implicitDefEqProofs [hb0, hn0]
  refine appQ_tok (t := t') (es := c.steps.map encStp) (by simpa using q1) (by simp [encStp]) (es2 := c.comps.map encStp) (by simp [srcA, encStp]) (by simp; omega) fun t2 h2 r1 r2 r3 r4 => ?_
  have hb1 : h2.bx 0 = some (encCls c) := by rw [r3.bx 0 hn0 (fun h => h), hb0]; rfl
  rw [encCls] at hb1
  have hn1 : 0 < h2.bn := by rw [r4]; exact hn0
  rw [← List.map_append, hL]
  simp -implicitDefEqProofs [hb0, hn0]
  refine run_loop (fun n s h => ∃ j : Nat, n = L.length - j ∧ j ≤ L.length ∧ s 3 = .sl t2 (L.map encStp) ∧ s 4 = .int .i64 j ∧ ∀ i (hi : i < L.length), i < j → bigS L[i] = false) ?_ L.length ?_
  rotate_left
  · exact ⟨0, by simp⟩
  rintro n s h ⟨j, hn, hj, s3, s4, hall⟩ ih
  by_cases hlt : j < L.length
  · have hyes : bigS L[j] = true → bigC c = true := fun h => hb.trans (any_at hlt h)
    have hno : bigS L[j] = false → ∀ i (hi : i < L.length), i < j + 1 → bigS L[i] = false := fun h i hi hij => by
      by_cases e : i = j
      · subst e; exact h
      · exact hall i hi (by omega)
    by_cases g1 : (40 : Int) < L[j].code.length
    · have := hyes (by simp [bigS, show 40 < L[j].code.length by omega])
      simp -implicitDefEqProofs [s3, s4, hlt, encStp, g1, this]
    by_cases g2 : (40 : Int) < L[j].foot.length
    · have := hyes (by simp [bigS, show 40 < L[j].foot.length by omega])
      simp -implicitDefEqProofs [s3, s4, hlt, encStp, g1, g2, this]
    have hq := hno (by simp [bigS]; omega)
    simp -implicitDefEqProofs [s3, s4, hlt, encStp, g1, g2, inc_i64 hlt (by omega), -Int.natCast_add]
    exact ih (L.length - (j + 1)) _ _ (by omega) ⟨j + 1, rfl, by omega, by simp [s3], by simp, hq⟩
  · have := hb.trans (any_none (by omega) hall)
    simp -implicitDefEqProofs [s3, s4, hlt, this]

theorem great12_ok (x : Ctlg) (hx : x.wf) : PCall Tryz.prog 6 [.agg (encCtlg x)] (.bool (bigX x)) := by
  refine PCall.run hb6 ok6 (by simp) (pures1 (.agg (pure_encCtlg x))) (.bool _) ?_
  obtain ⟨⟨hcl, hcw⟩, hbl, hbw⟩ := hx
  simp -implicitDefEqProofs [encCtlg, H.nil]
  refine run_loop (fun n s h => ∃ j : Nat, n = x.classes.length - j ∧ j ≤ x.classes.length ∧ s 1 = .ptr 0 0 ∧ 0 < h.bn ∧ h.bx 0 = some (.sl .no (x.classes.map encCls) :: x.breaks.map (AV.int .i64)) ∧ s 3 = .int .i64 j ∧ ∀ i (hi : i < x.classes.length), i < j → bigC x.classes[i] = false) ?_ x.classes.length ?_
  rotate_left
  · exact ⟨0, by simp⟩
  rintro n s h ⟨j, hn, hj, s1, b0, b1, s3, hall⟩ ih
  by_cases hlt : j < x.classes.length
  · simp -implicitDefEqProofs [s1, b0, b1, s3, hlt]
    refine callQ_p (great11_ok x.classes[j] (hcw _ (List.getElem_mem hlt))) (by simp) ?_
    cases hg : bigC x.classes[j]
    · simp -implicitDefEqProofs [s3, inc_i64 hlt hcl, -Int.natCast_add]
      exact ih (x.classes.length - (j + 1)) _ _ (by omega) ⟨j + 1, rfl, by omega, by simp [s1], by simpa using b0, by simp [b1], by simp, fun i hi hij => by
        by_cases e : i = j
        · subst e; exact hg
        · exact hall i hi (by omega)⟩
    · have : bigX x = true := by simp only [bigX, any_at hlt hg, Bool.true_or]
      simp -implicitDefEqProofs [this]
  · have ha : x.classes.any bigC = false := any_none (by omega) hall
    have hc : decide ((12 : Int) < (x.classes.length : Int)) = decide (12 < x.classes.length) := by rw [Bool.eq_iff_iff]; simp; omega
    simp -implicitDefEqProofs [s1, b0, b1, s3, hlt, bigX, ha, hc]

theorem great14_ok (x : Ctlg) (hx : x.wf) (l : List Nod) (hl : l.length ≤ 9223372036854775807) : PCall Tryz.prog 16 [.agg (encCtlg x), .sl .no (l.map encNod)] (.bool (bigH x l)) := by
  refine PCall.run hb16 ok16 (by simp) (pures_cons (.agg (pure_encCtlg x)) (pures1 (elOK_Nod.pureL l))) (.bool _) ?_
  have htk := x.take16 hx.2.1
  have hbl := hx.2.1
  simp -implicitDefEqProofs [encCtlg, H.nil]
  refine run_loop (fun n s h => ∃ j : Nat, n = l.length - j ∧ j ≤ l.length ∧ s 2 = .ptr 0 0 ∧ 0 < h.bn ∧ h.bx 0 = some (.sl .no (x.classes.map encCls) :: x.breaks.map (AV.int .i64)) ∧ s 1 = .sl .no (l.map encNod) ∧ s 5 = .int .i64 j ∧ ∀ i (hi : i < l.length), i < j → bigN l[i] = false) ?_ l.length ?_
  rotate_left
  · exact ⟨0, by simp⟩
  rintro n s h ⟨j, hn, hj, s2, b0, b1, s1, s5, hall⟩ ih
  by_cases hlt : j < l.length
  · have hyes : bigN l[j] = true → bigH x l = true := fun h => by simp only [bigH, any_at hlt h, Bool.true_or]
    have hno : bigN l[j] = false → ∀ i (hi : i < l.length), i < j + 1 → bigN l[i] = false := fun h i hi hij => by
      by_cases e : i = j
      · subst e; exact h
      · exact hall i hi (by omega)
    by_cases g1 : (60 : Int) < l[j].reads.length
    · have := hyes (by simp [bigN, show 60 < l[j].reads.length by omega])
      simp -implicitDefEqProofs [s1, s5, hlt, encNod, g1, this]
    by_cases g2 : (60 : Int) < l[j].writes.length
    · have := hyes (by simp [bigN, show 60 < l[j].writes.length by omega])
      simp -implicitDefEqProofs [s1, s5, hlt, encNod, g1, g2, this]
    have hq := hno (by simp [bigN]; omega)
    simp -implicitDefEqProofs [s1, s5, hlt, encNod, g1, g2, inc_i64 hlt hl, -Int.natCast_add]
    exact ih (l.length - (j + 1)) _ _ (by omega) ⟨j + 1, rfl, by omega, by simp [s2], by simpa using b0, by simp [b1], by simp [s1], by simp, hq⟩
  · have ha : l.any bigN = false := any_none (by omega) hall
    have hc : decide ((110 : Int) < (l.length : Int)) = decide (110 < l.length) := by rw [Bool.eq_iff_iff]; simp; omega
    simp -implicitDefEqProofs [s1, s2, b0, b1, s5, hlt, htk, hbl]
    refine callQ_p (great12_ok x hx) (by simp [encCtlg]) ?_
    cases hg : bigX x
    · simp -implicitDefEqProofs [s1, bigH, ha, hg, hc]
    · simp -implicitDefEqProofs [bigH, ha, hg]
end Go.Proofs

/- Which nodes may follow which: plain laws, and the program's answer. -/
namespace Go.Proofs
open Go Go.RowKit Go.Am

def ownOf (l : List Nod) (s : Int) : List Nod := l.filter fun n => decide (n.saga = s)
def aftP (m n : Nod) (steps : Int) : Bool :=
  decide (n.cls = m.cls) && (if n.back = false then !m.back && decide (n.step = m.step + 1) && decide (n.step < steps) else if m.back = false then decide (n.step = m.step) else decide (n.step = m.step - 1))
def nextP (own : List Nod) (n : Nod) (steps : Int) : Bool :=
  match own.getLast? with
  | none => !n.back && decide (n.step = 0)
  | some m => aftP m n steps
def nodeOK (x : Ctlg) (l : List Nod) (n : Nod) : Bool := decide (0 ≤ n.saga) && x.inn n.cls && decide (0 ≤ n.step) && spansOK n.reads && spansOK n.writes && nextP (ownOf l n.saga) n (x.stepsN n.cls.toNat)
def nodeAt (x : Ctlg) (h : List Nod) (i : Nat) : Bool := (h[i]?.map (nodeOK x (h.take i))).getD false
def histMay (x : Ctlg) (h : List Nod) : Bool := catMay x && decide (h.length ≤ 100) && (List.range h.length).all (nodeAt x h)

theorem nodeAt_of (x : Ctlg) {h : List Nod} {i : Nat} (hi : i < h.length) : nodeAt x h i = nodeOK x (h.take i) h[i] := by simp [nodeAt, hi]
theorem ownOf_snoc (l : List Nod) (n : Nod) (s : Int) : ownOf (l ++ [n]) s = ownOf l s ++ if n.saga = s then [n] else [] := by
  simp only [ownOf, List.filter_append]
  congr 1
  by_cases h : n.saga = s <;> simp [h]
theorem take_snoc {h : List Nod} {i : Nat} (hi : i < h.length) : h.take (i + 1) = h.take i ++ [h[i]] := by rw [List.take_succ_eq_append_getElem hi]

/-- What went before is within its class. -/
def within (x : Ctlg) (n : Nod) : Prop := x.inn n.cls = true ∧ 0 ≤ n.step ∧ n.step < x.stepsN n.cls.toNat
theorem nodes_within {x : Ctlg} (hx : x.small) (l : List Nod) (hl : ∀ m ∈ l, within x m) {n : Nod} (h : nodeOK x l n = true) : within x n := by
  simp only [nodeOK, Bool.and_eq_true, decide_eq_true_eq] at h
  obtain ⟨⟨⟨⟨⟨_, h2⟩, h3⟩, _⟩, _⟩, h6⟩ := h
  refine ⟨h2, h3, ?_⟩
  have hpos : 0 < x.stepsN n.cls.toNat := by
    simp only [Ctlg.inn, Bool.and_eq_true, decide_eq_true_eq] at h2
    have hc : n.cls.toNat < x.classes.length := by omega
    rw [Ctlg.stepsN_of hc]
    exact (hx.2.2.1 _ (List.getElem_mem hc)).1
  unfold nextP at h6
  split at h6
  · simp only [Bool.and_eq_true, decide_eq_true_eq] at h6
    omega
  · rename_i m hm
    have hmem : m ∈ l := (List.mem_filter.1 (List.mem_of_getLast? hm)).1
    obtain ⟨_, w2, w3⟩ := hl m hmem
    simp only [aftP, Bool.and_eq_true, decide_eq_true_eq] at h6
    obtain ⟨q1, q2⟩ := h6
    rw [← q1] at w3
    split at q2
    · simp only [Bool.and_eq_true, decide_eq_true_eq] at q2
      exact q2.2
    · split at q2
      · have := of_decide_eq_true q2; omega
      · have := of_decide_eq_true q2; omega
theorem take_within {x : Ctlg} (hx : x.small) {h : List Nod} : ∀ (i : Nat), i ≤ h.length → (∀ j, j < i → nodeAt x h j = true) → ∀ m ∈ h.take i, within x m
  | 0, _, _ => fun m hm => by simp at hm
  | i + 1, hi, hall => fun m hm => by
    have ih := take_within hx i (by omega) fun j hj => hall j (by omega)
    rw [take_snoc (show i < h.length by omega), List.mem_append] at hm
    rcases hm with hm | hm
    · exact ih m hm
    · rw [List.mem_singleton] at hm
      subst hm
      have := hall i (by omega)
      rw [nodeAt_of x (show i < h.length by omega)] at this
      exact nodes_within hx _ ih this
theorem small4 {x : Ctlg} (hx : x.small) (c : Nat) : x.stepsN c ≤ 4 := by
  by_cases hc : c < x.classes.length
  · rw [Ctlg.stepsN_of hc]; exact (hx.2.2.1 _ (List.getElem_mem hc)).2.1
  · simp [Ctlg.stepsN, List.getElem?_eq_none (show x.classes.length ≤ c by omega)]

end Go.Proofs

/- Which histories there may be: the document's answer. -/
namespace Go.Proofs
open Go Go.RowKit Go.Am

def lastN (l : List Nod) (s : Int) : Nat → Option Nat
  | 0 => none
  | k + 1 => if l[k]?.map (·.saga) = some s then some k else lastN l s k
def lastV : Option Nat → Int
  | none => -1
  | some j => j
theorem lastN_lt (l : List Nod) (s : Int) : ∀ (k q : Nat), lastN l s k = some q → q < k
  | 0, q, h => by cases h
  | k + 1, q, h => by
    simp only [lastN] at h
    split at h
    · cases h; omega
    · have := lastN_lt l s k q h; omega
theorem own_last (l : List Nod) (s : Int) : ∀ k, k ≤ l.length → (ownOf (l.take k) s).getLast? = (lastN l s k).bind fun q => l[q]?
  | 0, _ => by simp [ownOf, lastN]
  | k + 1, hk => by
    have hk' : k < l.length := by omega
    rw [take_snoc hk', ownOf_snoc, lastN]
    by_cases h : l[k].saga = s
    · simp [h, hk']
    · have h2 : ¬ (l[k]?.map (·.saga) = some s) := by simp [hk', h]
      rw [if_neg h, if_neg h2, List.append_nil]
      exact own_last l s k (by omega)

set_option maxHeartbeats 1000000 in
set_option maxRecDepth 4000 in
theorem refHistMay_ok (x : Ctlg) (hx : x.wf) (l : List Nod) (hl : l.length ≤ 9223372036854775807) (hw : ∀ n ∈ l, n.wf) : PCall Tryz.prog 33 [.agg (encCtlg x), .sl .no (l.map encNod)] (.bool (histMay x l)) := by
  refine PCall.run hb33 ok33 (by simp) (pures_cons (.agg (pure_encCtlg x)) (pures1 (elOK_Nod.pureL l))) (.bool _) ?_
  have htk := x.take16 hx.2.1
  have hbl := hx.2.1
  simp -implicitDefEqProofs [encCtlg, H.nil]
  simp -implicitDefEqProofs [htk, hbl]
  refine callQ_p (refCatMay_ok x hx) (by simp [encCtlg]) ?_
  cases hm : catMay x
  · simp -implicitDefEqProofs [histMay, hm]
  by_cases h100 : (100 : Int) < l.length
  · have hf : histMay x l = false := by simp [histMay, show ¬ l.length ≤ 100 by omega]
    simp -implicitDefEqProofs [h100, hf]
  have hms : histMay x l = (List.range l.length).all (nodeAt x l) := by simp [histMay, hm, show l.length ≤ 100 by omega]
  obtain ⟨hs, hg⟩ := catMay_small hx hm
  have n4 := hs.2.1
  simp -implicitDefEqProofs [h100]
  refine run_loop (fun n s h => ∃ j : Nat, n = l.length - j ∧ j ≤ l.length ∧ s 2 = .ptr 0 0 ∧ s 1 = .sl .no (l.map encNod) ∧ s 5 = .int .i64 j ∧ 0 < h.bn ∧ h.bx 0 = some (.sl .no (x.classes.map encCls) :: x.breaks.map (AV.int .i64)) ∧ ∀ i, i < j → nodeAt x l i = true) ?_ l.length ?_
  rotate_left
  · exact ⟨0, by simp⟩
  rintro n s h ⟨j, hn, hj, s2, s1, s5, b0, b1, hall⟩ ih
  by_cases hlt : j < l.length
  rotate_left
  · have hwh := allR_true (n := l.length) (by omega) hall
    simp -implicitDefEqProofs [s1, s5, hlt, hms, hwh]
  have hno : nodeAt x l j = false → histMay x l = false := fun h => hms.trans (allR_false hlt h)
  rw [nodeAt_of x hlt] at hno
  have hyes : nodeOK x (l.take j) l[j] = true → ∀ i, i < j + 1 → nodeAt x l i = true := fun h i hij => by
    by_cases e : i = j
    · subst e; rw [nodeAt_of x hlt]; exact h
    · exact hall i (by omega)
  have hwn := hw _ (List.getElem_mem hlt)
  have hpre := take_within hs j hj hall
  have hown := own_last l l[j].saga j hj
  generalize hnd : l[j] = nd at hno hyes hwn hown
  have z0 : ¬ 0 = h.bn := by omega
  have c0 : 0 < h.bn + 1 := by omega
  simp -implicitDefEqProofs [s1, s5, hlt, hnd, encNod]
  refine run_dregL c33_d7 rfl ?_
  by_cases g1 : nd.saga < 0
  · have := hno (by simp [nodeOK, show ¬ 0 ≤ nd.saga by omega])
    simp -implicitDefEqProofs [g1, this]
  simp -implicitDefEqProofs [s2, b1, z0, c0, g1, htk, hbl]
  refine callC_p (refThere_ok x hx hwn.2.1) (by simp [encCtlg]) ?_
  have hinn : (decide (0 ≤ nd.cls) && decide (nd.cls < (x.classes.length : Int))) = x.inn nd.cls := by
    rw [Ctlg.inn, Bool.eq_iff_iff]
    simp
    omega
  rw [hinn]
  cases g2 : x.inn nd.cls
  · have := hno (by simp [nodeOK, g2])
    simp -implicitDefEqProofs [this]
  simp -implicitDefEqProofs []
  refine callC_p (refSpans_ok nd.reads hwn.2.2.2.1.1) (by simp) ?_
  cases g4 : spansOK nd.reads
  · have := hno (by simp [nodeOK, g4])
    simp -implicitDefEqProofs [this]
  simp -implicitDefEqProofs []
  refine callC_p (refSpans_ok nd.writes hwn.2.2.2.2.1) (by simp) ?_
  cases g5 : spansOK nd.writes
  · have := hno (by simp [nodeOK, g5])
    simp -implicitDefEqProofs [this]
  by_cases g3 : nd.step < 0
  · have := hno (by simp [nodeOK, show ¬ 0 ≤ nd.step by omega])
    simp -implicitDefEqProofs [g3, this]
  obtain ⟨c, hc, hcl⟩ : ∃ c : Nat, c < x.classes.length ∧ nd.cls = c := by
    simp only [Ctlg.inn, Bool.and_eq_true, decide_eq_true_eq] at g2
    exact ⟨nd.cls.toNat, by omega, by omega⟩
  have hst : x.stepsN nd.cls.toNat = x.classes[c].steps.length := by rw [hcl, Int.toNat_natCast, Ctlg.stepsN_of hc]
  have hsl4 := small4 hs c
  rw [Ctlg.stepsN_of hc] at hsl4
  by_cases g6 : (x.classes[c].steps.length : Int) ≤ nd.step
  · have := hno (by
      cases hq : nodeOK x (l.take j) nd
      · rfl
      · have := (nodes_within hs _ hpre hq).2.2
        rw [hst] at this
        omega)
    simp -implicitDefEqProofs [s2, b1, z0, c0, g3, hcl, hc, encCls, g6, this]
  have hok : nodeOK x (l.take j) nd = nextP (ownOf (l.take j) nd.saga) nd x.classes[c].steps.length := by
    simp [nodeOK, g2, g4, g5, show 0 ≤ nd.saga by omega, show 0 ≤ nd.step by omega, hst]
  rw [hok, nextP, hown] at hno hyes
  simp -implicitDefEqProofs [s2, b1, z0, c0, g3, hcl, hc, encCls, g6]
  refine run_loop (fun n s h' => ∃ k : Nat, n = j - k ∧ k ≤ j ∧ s 2 = .ptr 0 0 ∧ s 1 = .sl .no (l.map encNod) ∧ s 5 = .int .i64 j ∧ s 6 = .ptr h.bn 0 ∧ s 7 = .int .i64 (lastV (lastN l nd.saga k)) ∧ s 8 = .int .i64 k ∧ h.bn < h'.bn ∧ h'.bx 0 = some (.sl .no (x.classes.map encCls) :: x.breaks.map (AV.int .i64)) ∧ h'.bx h.bn = some [.int .i64 nd.saga, .int .i64 c, .int .i64 nd.step, .bool nd.back, .sl .no (nd.reads.map encSpn), .sl .no (nd.writes.map encSpn)]) ?_ j ?_
  rotate_left
  · exact ⟨0, by simp [s1, s2, s5, b1, z0, lastN, lastV]⟩
  rintro n s h' ⟨k, hn, hk, s2, s1, s5, s6, s7, s8, b0, b1, b2⟩ ih2
  by_cases hlk : k < j
  · have hlk2 : k < l.length := by omega
    simp -implicitDefEqProofs [s5, s8, hlk]
    refine run_dregL c33_d12 rfl ?_
    by_cases he : l[k].saga = nd.saga
    · have e1 : lastN l nd.saga (k + 1) = some k := by rw [lastN, if_pos (by simp [hlk2, he])]
      simp -implicitDefEqProofs [s1, s6, s8, hlk2, b0, b2, encNod, he, inc_i64 hlk (by omega), -Int.natCast_add]
      exact ih2 (j - (k + 1)) _ _ (by omega) ⟨k + 1, rfl, by omega, by simp [s2], by simp [s1], by simp [s5], by simp [s6], by simp [e1, lastV], by simp, by simpa using b0, by simp [b1], by simp [b2]⟩
    · have e1 : lastN l nd.saga (k + 1) = lastN l nd.saga k := by rw [lastN, if_neg (by simp [hlk2, he])]
      simp -implicitDefEqProofs [s1, s6, s8, hlk2, b0, b2, encNod, he, inc_i64 hlk (by omega), -Int.natCast_add]
      exact ih2 (j - (k + 1)) _ _ (by omega) ⟨k + 1, rfl, by omega, by simp [s2], by simp [s1], by simp [s5], by simp [s6], by simp [e1, s7], by simp, by simpa using b0, by simp [b1], by simp [b2]⟩
  obtain rfl : k = j := by omega
  have b3 : 0 < h'.bn := by omega
  cases hla : lastN l nd.saga k with
  | none =>
    rw [hla] at s7 hno hyes
    simp only [lastV] at s7
    simp only [Option.bind_none] at hno hyes
    by_cases hbad : nd.back = true ∨ ¬ nd.step = 0
    · have := hno (by
        rcases hbad with h | h
        · simp [h]
        · simp [h])
      cases hb : nd.back
      · have hs0 : ¬ nd.step = 0 := by rcases hbad with h | h; rw [hb] at h; cases h; exact h
        simp -implicitDefEqProofs [s5, s6, s7, s8, b0, b2, hb, hs0, this]
      · simp -implicitDefEqProofs [s5, s6, s7, s8, b0, b2, hb, this]
    · have hb : nd.back = false := by
        cases h : nd.back
        · rfl
        · exact absurd (.inl h) hbad
      have hs0 : nd.step = 0 := Classical.byContradiction fun h => hbad (.inr h)
      have hy := hyes (by simp [hb, hs0])
      simp -implicitDefEqProofs [s5, s6, s7, s8, b0, b2, hb, hs0, inc_i64 hlt hl, -Int.natCast_add]
      exact ih (l.length - (k + 1)) _ _ (by omega) ⟨k + 1, rfl, by omega, by simp [s2], by simp [s1], by simp, by simpa using b3, by simp [b1], hy⟩
  | some q =>
    have hqk := lastN_lt _ _ _ _ hla
    have hql : q < l.length := by omega
    rw [hla] at s7 hno hyes
    simp only [lastV] at s7
    have hq2 : l[q]? = some l[q] := by simp [hql]
    simp only [Option.bind_some, hq2] at hno hyes
    have hqm : l[q] ∈ l.take k := List.mem_iff_getElem.2 ⟨q, by rw [List.length_take]; omega, by rw [List.getElem_take]⟩
    obtain ⟨_, w2, w3⟩ := hpre _ hqm
    have w4 := small4 hs l[q].cls.toNat
    generalize hmq : l[q] = m at hno hyes w2 w3 w4
    have hw1 : IntKind.i64.wrap (m.step + 1) = m.step + 1 := wrap_i64 (by omega) (by omega)
    have hw2 : IntKind.i64.wrap (m.step - 1) = m.step - 1 := wrap_i64 (by omega) (by omega)
    have z4 : ¬ h.bn = h'.bn := by omega
    have z5 : ¬ 0 = h'.bn := by omega
    have z6 : h.bn < h'.bn + 1 := by omega
    have z7 : ¬ (q : Int) < 0 := by omega
    rw [aftP, hcl] at hno hyes
    cases hb : nd.back
    · by_cases hc2 : (c : Int) = m.cls
      rotate_left
      · have := hno (by simp [hc2])
        simp -implicitDefEqProofs [s1, s5, s6, s7, s8, b2, hql, hmq, encNod, z4, z6, z7, hb, hw1, hc2, this]
      by_cases hs2 : nd.step = m.step + 1
      rotate_left
      · have := hno (by simp [hb, hs2])
        simp -implicitDefEqProofs [s1, s5, s6, s7, s8, b2, hql, hmq, encNod, z4, z6, z7, hb, hw1, hc2, hs2, this]
      cases hmb : m.back
      rotate_left
      · have := hno (by simp [hb, hmb])
        simp -implicitDefEqProofs [s1, s5, s6, s7, s8, b2, hql, hmq, encNod, z4, z6, z7, hb, hw1, hc2, hs2, hmb, this]
      have hy := hyes (by simp [hc2, hb, hs2, hmb]; omega)
      simp -implicitDefEqProofs [s1, s5, s6, s7, s8, b2, hql, hmq, encNod, z4, z6, z7, hb, hw1, hc2, hs2, hmb, inc_i64 hlt hl, -Int.natCast_add]
      exact ih (l.length - (k + 1)) _ _ (by omega) ⟨k + 1, rfl, by omega, by simp [s2], by simp [s1], by simp, by simp, by simp [b1, z5], hy⟩
    · by_cases hc2 : (c : Int) = m.cls
      rotate_left
      · have := hno (by simp [hc2])
        cases hmb : m.back
        · simp -implicitDefEqProofs [s1, s5, s6, s7, s8, b2, hql, hmq, encNod, z4, z6, z7, hb, hw1, hc2, hmb, this]
        · simp -implicitDefEqProofs [s1, s5, s6, s7, s8, b2, hql, hmq, encNod, z4, z6, z7, hb, hw1, hw2, hc2, hmb, this]
      cases hmb : m.back
      · by_cases hs2 : nd.step = m.step
        rotate_left
        · have := hno (by simp [hb, hmb, hs2])
          simp -implicitDefEqProofs [s1, s5, s6, s7, s8, b2, hql, hmq, encNod, z4, z6, z7, hb, hw1, hc2, hs2, hmb, this]
        have hy := hyes (by simp [hc2, hb, hs2, hmb])
        simp -implicitDefEqProofs [s1, s5, s6, s7, s8, b2, hql, hmq, encNod, z4, z6, z7, hb, hw1, hc2, hs2, hmb, inc_i64 hlt hl, -Int.natCast_add]
        exact ih (l.length - (k + 1)) _ _ (by omega) ⟨k + 1, rfl, by omega, by simp [s2], by simp [s1], by simp, by simp, by simp [b1, z5], hy⟩
      · by_cases hs2 : nd.step = m.step - 1
        rotate_left
        · have := hno (by simp [hb, hmb, hs2])
          simp -implicitDefEqProofs [s1, s5, s6, s7, s8, b2, hql, hmq, encNod, z4, z6, z7, hb, hw1, hw2, hc2, hs2, hmb, this]
        have hy := hyes (by simp [hc2, hb, hs2, hmb])
        simp -implicitDefEqProofs [s1, s5, s6, s7, s8, b2, hql, hmq, encNod, z4, z6, z7, hb, hw1, hw2, hc2, hs2, hmb, inc_i64 hlt hl, -Int.natCast_add]
        exact ih (l.length - (k + 1)) _ _ (by omega) ⟨k + 1, rfl, by omega, by simp [s2], by simp [s1], by simp, by simp, by simp [b1, z5], hy⟩
end Go.Proofs
