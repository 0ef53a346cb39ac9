/- What the functions that the statement reaches do: their contracts; and what follows of it. -/
import Derived.Test.YtdcpendppalkgaaGreatSLintClash6
import Derived.Test.YtdcpendppalkgaaGreatSLintClash5
import Derived.Test.YtdcpendppalkgaaGreatK4
/- Breakpoints that are counted; a catalogue's breakpoints that may be: plain laws. -/
namespace Go.Proofs
open Go Go.RowKit Go.Am

def Ctlg.one (x : Ctlg) (c d i : Nat) : Nat := if x.brkAt c d i = true then 1 else 0

theorem with_may {x : Ctlg} (h : catMay x = true) {l : List Int} (hl : ∀ c d, c < 4 → d < 4 → (x.with l).brkOK c d = true) : catMay (x.with l) = true := by
  simp only [catMay, Bool.and_eq_true] at h ⊢
  refine ⟨h.1, ?_⟩
  rw [List.all_eq_true]
  intro c hc
  rw [List.all_eq_true]
  intro d hd
  exact hl c d (List.mem_range.1 hc) (List.mem_range.1 hd)

theorem turnL_at {n : Nat} (n4 : n ≤ 4) (t : Nat → Nat → Int) {c d : Nat} (hc : c < 4) (hd : d < 4) : ((turnL n t (n * n))[4 * c + d]?).getD 0 = if c < n ∧ d < n then t c d else 0 := by
  have hlt : 4 * c + d < (turnL n t (n * n)).length := by rw [turnL_len]; omega
  rw [List.getElem?_eq_getElem hlt, Option.getD_some, turnL_get, show (4 * c + d) / 4 = c by omega, show (4 * c + d) % 4 = d by omega]
  by_cases h : c < n ∧ d < n
  · have := Nat.mul_le_mul_right n (show c + 1 ≤ n by omega)
    rw [Nat.add_mul] at this
    rw [if_pos h, if_pos ⟨h.1, h.2, by omega⟩]
  · rw [if_neg h, if_neg fun q => h ⟨q.1, q.2.1⟩]

theorem open_may {x : Ctlg} (hw : x.wf) (h : catMay x = true) : catMay (openOf x) = true := by
  obtain ⟨hs, hg⟩ := catMay_small hw h
  refine with_may h fun c d hc hd => ?_
  have hb : (openOf x).brk c d = if c < x.classes.length ∧ d < x.classes.length then openT x c d else 0 := turnL_at hs.2.1 _ hc hd
  show (openOf x).brkOK c d = true
  simp only [Ctlg.brkOK, Bool.and_eq_true, Bool.not_eq_true', decide_eq_false_iff_not, hb]
  have hm : (openOf x).mostB c d = x.mostB c d := rfl
  rw [hm, Ctlg.mostB]
  by_cases hcd : c < x.classes.length ∧ d < x.classes.length
  · rw [if_pos hcd, if_pos hcd, openT, dif_pos hcd.1, Ctlg.stepsN_of hcd.1, Cls.all]
    obtain ⟨s0, s4, _⟩ := hs.2.2.1 _ (List.getElem_mem hcd.1)
    have : x.classes[c].steps.length - 1 = 0 ∨ x.classes[c].steps.length - 1 = 1 ∨ x.classes[c].steps.length - 1 = 2 ∨ x.classes[c].steps.length - 1 = 3 := by omega
    rcases this with e | e | e | e <;> rw [e] <;> decide
  · rw [if_neg hcd, if_neg hcd]; decide
/-- What is compared where a catalogue may be: each breakpoint with its own low bits. -/
def mayT (x : Ctlg) (c d : Nat) : Int := x.brk c d % 2 ^ (x.stepsN c - 1)
theorem may_turn {x : Ctlg} (n4 : x.classes.length ≤ 4) (hb : x.breaks.length = 16) : decide (x.breaks = turnL x.classes.length (mayT x) (x.classes.length * x.classes.length)) = (List.range 4).all fun c => (List.range 4).all (x.brkOK c) := by
  have hp : ∀ k : Nat, (0 : Int) < 2 ^ k := fun k => Int.pow_pos (by decide)
  rw [Bool.eq_iff_iff, decide_eq_true_eq, List.all_eq_true]
  constructor
  · intro h c hc
    rw [List.all_eq_true]
    intro d hd
    have hc := List.mem_range.1 hc
    have hd := List.mem_range.1 hd
    have hv : x.brk c d = if c < x.classes.length ∧ d < x.classes.length then mayT x c d else 0 := by
      have e : x.brk c d = ((turnL x.classes.length (mayT x) (x.classes.length * x.classes.length))[4 * c + d]?).getD 0 := by rw [Ctlg.brk, ← h]
      rw [e]; exact turnL_at n4 _ hc hd
    simp only [Ctlg.brkOK, Bool.and_eq_true, Bool.not_eq_true', decide_eq_false_iff_not]
    by_cases hcd : c < x.classes.length ∧ d < x.classes.length
    · have hmo : x.mostB c d = 2 ^ (x.stepsN c - 1) := if_pos hcd
      rw [if_pos hcd] at hv
      rw [mayT] at hv
      have := Int.emod_nonneg (x.brk c d) (b := 2 ^ (x.stepsN c - 1)) (by have := hp (x.stepsN c - 1); omega)
      have := Int.emod_lt_of_pos (x.brk c d) (hp (x.stepsN c - 1))
      omega
    · have hmo : x.mostB c d = 1 := if_neg hcd
      rw [if_neg hcd] at hv
      omega
  · intro h
    apply List.ext_getElem
    · rw [hb, turnL_len]
    intro i h1 h2
    have hc : i / 4 < 4 := by omega
    have hd : i % 4 < 4 := by omega
    have hh := h (i / 4) (List.mem_range.2 hc)
    rw [List.all_eq_true] at hh
    have hh := hh (i % 4) (List.mem_range.2 hd)
    simp only [Ctlg.brkOK, Bool.and_eq_true, Bool.not_eq_true', decide_eq_false_iff_not] at hh
    have hi : 4 * (i / 4) + i % 4 = i := by omega
    have ht := turnL_at n4 (mayT x) hc hd
    rw [hi, List.getElem?_eq_getElem h2, Option.getD_some] at ht
    have hx : x.brk (i / 4) (i % 4) = x.breaks[i] := by rw [Ctlg.brk_of hb hc hd]; simp only [hi]
    rw [ht, ← hx]
    by_cases hcd : i / 4 < x.classes.length ∧ i % 4 < x.classes.length
    · have hmo : x.mostB (i / 4) (i % 4) = 2 ^ (x.stepsN (i / 4) - 1) := if_pos hcd
      rw [if_pos hcd, mayT, Int.emod_eq_of_lt] <;> omega
    · have hmo : x.mostB (i / 4) (i % 4) = 1 := if_neg hcd
      rw [if_neg hcd]
      omega

theorem cells_ints : ∀ (l m : List Int), l.length = m.length → cellsEq (List.replicate l.length LK.i) (l.map (AV.int .i64)) (m.map (AV.int .i64)) = some (decide (l = m))
  | [], [], _ => rfl
  | a :: l, b :: m, h => by
    have ih := cells_ints l m (by simpa using h)
    rw [List.length_cons, List.replicate_succ, List.map_cons, List.map_cons]
    simp only [cellsEq, cellEq, if_true, Option.bind_some, ih, Option.map_some]
    congr 1
    rw [Bool.eq_iff_iff]
    simp
  | [], _ :: _, h => by simp at h
  | _ :: _, [], h => by simp at h
end Go.Proofs

/- Clashes of steps and classes: the program's answer is the document's (plain laws). -/
namespace Go.Proofs
open Go Go.RowKit Go.Am

/-- What a footprint may read, and write: the program's lists. -/
def mayW (n : Int) (p : List Sp × List Sp) (s : SpanT) : List Sp × List Sp := (plainL (p.1 ++ spanL s n), if s.write = true then plainL (p.2 ++ spanL s n) else p.2)
def mayR (l : List SpanT) (n : Int) : List Sp × List Sp := l.foldl (mayW n) ([], [])
theorem mayR_next {l : List SpanT} {n : Int} {i : Nat} (h : i < l.length) : mayR (l.take (i + 1)) n = mayW n (mayR (l.take i) n) l[i] := by
  rw [List.take_succ_eq_append_getElem h, mayR, List.foldl_append]
  rfl
theorem mayR_has (n : Int) (k : Int) : ∀ l : List SpanT, hasK (mayR l n).1 k = (l.any fun s => hasK (spanL s n) k) ∧ hasK (mayR l n).2 k = l.any fun s => s.write && hasK (spanL s n) k := by
  have key : ∀ (l : List SpanT) (p : List Sp × List Sp), hasK (l.foldl (mayW n) p).1 k = (hasK p.1 k || l.any fun s => hasK (spanL s n) k) ∧ hasK (l.foldl (mayW n) p).2 k = (hasK p.2 k || l.any fun s => s.write && hasK (spanL s n) k) := fun l => by
    induction l with
    | nil => intro p; simp
    | cons s l ih =>
      intro p
      obtain ⟨h1, h2⟩ := ih (mayW n p s)
      rw [List.foldl_cons, h1, h2]
      refine ⟨?_, ?_⟩
      · simp only [mayW, plainL_has, hasK_app, List.any_cons, Bool.or_assoc]
      · cases hw : s.write
        · simp [mayW, hw]
        · simp only [mayW, hw, if_true, plainL_has, hasK_app, List.any_cons, Bool.or_assoc, Bool.true_and]
  intro l
  obtain ⟨h1, h2⟩ := key l ([], [])
  exact ⟨by rw [mayR, h1]; rfl, by rw [mayR, h2]; rfl⟩
theorem mayR_len (n : Int) (l : List SpanT) : (mayR l n).1.length ≤ 500 ∧ (mayR l n).2.length ≤ 500 := by
  have key : ∀ (l : List SpanT) (p : List Sp × List Sp), p.1.length ≤ 500 ∧ p.2.length ≤ 500 → (l.foldl (mayW n) p).1.length ≤ 500 ∧ (l.foldl (mayW n) p).2.length ≤ 500 := fun l => by
    induction l with
    | nil => exact fun p h => h
    | cons s l ih =>
      intro p h
      refine ih _ ⟨plainL_len _, ?_⟩
      unfold mayW
      simp only
      split
      · exact plainL_len _
      · exact h.2
  exact key l _ ⟨by simp, by simp⟩
/-- May two footprints clash? -/
def clash2 (a : List SpanT) (m : Int) (b : List SpanT) (n : Int) : Bool := meetL (mayR a m).2 (mayR b n).1 || meetL (mayR a m).1 (mayR b n).2
/-- The document's sets. -/
def someF (l : List SpanT) (w : Bool) (k : Nat) : Bool := l.any fun s => (s.write || !w) && accF s 100 0 k
def clashF (a b : List SpanT) : Bool := meetB (someF a true) (someF b false) || meetB (someF a false) (someF b true)
theorem footMay_one {l : List SpanT} {n : Int} (h : footMay l n = true) : ∀ s ∈ l, footMay [s] n = true := fun s hs => by
  simp only [footMay, Bool.and_eq_true, Bool.not_eq_true', decide_eq_false_iff_not, List.all_eq_true] at h ⊢
  refine ⟨⟨h.1.1, by simp⟩, fun t ht => ?_⟩
  rw [List.mem_singleton.1 ht]
  exact h.2 s hs
theorem someF_may {l : List SpanT} {n : Int} (h : footMay l n = true) {k : Nat} (hk : k < 1000) : someF l false k = hasK (mayR l n).1 k ∧ someF l true k = hasK (mayR l n).2 k := by
  obtain ⟨h1, h2⟩ := mayR_has n k l
  rw [h1, h2]
  have hone := footMay_one h
  have e : ∀ s ∈ l, accF s 100 0 k = hasK (spanL s n) k := fun s hs => accF_all (hone s hs) k hk
  refine ⟨?_, ?_⟩
  · rw [Bool.eq_iff_iff]
    simp only [someF, List.any_eq_true, Bool.not_false, Bool.or_true, Bool.true_and]
    exact ⟨fun ⟨s, hs, q⟩ => ⟨s, hs, by rw [← e s hs]; exact q⟩, fun ⟨s, hs, q⟩ => ⟨s, hs, by rw [e s hs]; exact q⟩⟩
  · rw [Bool.eq_iff_iff]
    simp only [someF, List.any_eq_true, Bool.not_true, Bool.or_false, Bool.and_eq_true]
    exact ⟨fun ⟨s, hs, w, q⟩ => ⟨s, hs, w, by rw [← e s hs]; exact q⟩, fun ⟨s, hs, w, q⟩ => ⟨s, hs, w, by rw [e s hs]; exact q⟩⟩
theorem meet_may {f g : Nat → Bool} {a b : List Sp} (hf : ∀ k, k < 1000 → f k = hasK a k) (hg : ∀ k, k < 1000 → g k = hasK b k) : meetB f g = meetL a b := by
  rw [Bool.eq_iff_iff, meetB_iff, meetL_iff]
  exact ⟨fun ⟨k, hk, p, q⟩ => ⟨k, hk, by rw [← hf k hk]; exact p, by rw [← hg k hk]; exact q⟩, fun ⟨k, hk, p, q⟩ => ⟨k, hk, by rw [hf k hk]; exact p, by rw [hg k hk]; exact q⟩⟩
theorem clashF_may {a b : List SpanT} {m n : Int} (ha : footMay a m = true) (hb : footMay b n = true) : clashF a b = clash2 a m b n := by
  unfold clashF clash2
  rw [meet_may (fun k hk => (someF_may ha hk).2) (fun k hk => (someF_may hb hk).1), meet_may (fun k hk => (someF_may ha hk).1) (fun k hk => (someF_may hb hk).2)]

theorem someF_flat (l : List Stp) (w : Bool) (k : Nat) : someF (l.flatMap (·.foot)) w k = l.any fun s => someF s.foot w k := by
  simp only [someF, List.any_flatMap]
theorem meetB_any (l m : List Stp) (w v : Bool) : meetB (someF (l.flatMap (·.foot)) w) (someF (m.flatMap (·.foot)) v) = l.any fun s => m.any fun t => meetB (someF s.foot w) (someF t.foot v) := by
  rw [Bool.eq_iff_iff]
  simp only [meetB_iff, someF_flat, List.any_eq_true]
  constructor
  · rintro ⟨k, hk, ⟨s, hs, p⟩, t, ht, q⟩
    exact ⟨s, hs, t, ht, k, hk, p, q⟩
  · rintro ⟨s, hs, t, ht, k, hk, p, q⟩
    exact ⟨k, hk, ⟨s, hs, p⟩, t, ht, q⟩
/-- The document's answer for two classes. -/
def clsF (c d : Cls) : Bool := clashF (c.steps.flatMap (·.foot)) (d.steps.flatMap (·.foot))
theorem clsF_any (c d : Cls) : clsF c d = c.steps.any fun s => d.steps.any fun t => clashF s.foot t.foot := by
  unfold clsF clashF
  rw [meetB_any, meetB_any, Bool.eq_iff_iff]
  simp only [Bool.or_eq_true, List.any_eq_true]
  constructor
  · rintro (⟨s, hs, t, ht, h⟩ | ⟨s, hs, t, ht, h⟩)
    · exact ⟨s, hs, t, ht, .inl h⟩
    · exact ⟨s, hs, t, ht, .inr h⟩
  · rintro ⟨s, hs, t, ht, h | h⟩
    · exact .inl ⟨s, hs, t, ht, h⟩
    · exact .inr ⟨s, hs, t, ht, h⟩
theorem cls_foot {c : Cls} (h : clsMay c = true) : ∀ s ∈ c.steps, footMay s.foot c.args = true := fun s hs => by
  simp only [clsMay, Bool.and_eq_true, decide_eq_true_eq, List.all_eq_true] at h
  obtain ⟨⟨_, hl⟩, hz⟩ := h
  obtain ⟨i, hi, rfl⟩ := List.getElem_of_mem hs
  have := hz (c.steps[i], c.comps[i]'(by omega)) (by
    have : (c.steps.zip c.comps)[i]'(by simp; omega) ∈ c.steps.zip c.comps := List.getElem_mem _
    simpa using this)
  simp only [stepMay, Bool.and_eq_true] at this
  exact this.1.1.2
/-- The program's answer for two steps of two classes that may be. -/
def clashC (c : Cls) (i : Nat) (d : Cls) (k : Nat) : Bool := match c.steps[i]?, d.steps[k]? with
  | some s, some t => clash2 s.foot c.args t.foot d.args
  | _, _ => false
theorem clashC_of {c d : Cls} {i k : Nat} (hi : i < c.steps.length) (hk : k < d.steps.length) : clashC c i d k = clash2 c.steps[i].foot c.args d.steps[k].foot d.args := by
  unfold clashC
  rw [List.getElem?_eq_getElem hi, List.getElem?_eq_getElem hk]
theorem clsF_prog {c d : Cls} (hc : clsMay c = true) (hd : clsMay d = true) : clsF c d = (List.range c.steps.length).any fun i => (List.range d.steps.length).any fun k => clashC c i d k := by
  rw [clsF_any, Bool.eq_iff_iff]
  simp only [List.any_eq_true, List.mem_range]
  constructor
  · rintro ⟨s, hs, t, ht, h⟩
    obtain ⟨i, hi, rfl⟩ := List.getElem_of_mem hs
    obtain ⟨k, hk, rfl⟩ := List.getElem_of_mem ht
    refine ⟨i, hi, k, hk, ?_⟩
    rw [clashC_of hi hk, ← clashF_may (cls_foot hc _ hs) (cls_foot hd _ ht)]
    exact h
  · rintro ⟨i, hi, k, hk, h⟩
    refine ⟨c.steps[i], List.getElem_mem hi, d.steps[k], List.getElem_mem hk, ?_⟩
    rw [clashC_of hi hk, ← clashF_may (cls_foot hc _ (List.getElem_mem hi)) (cls_foot hd _ (List.getElem_mem hk))] at h
    exact h

/-- The breakpoints with the advice. -/
def clashX (x : Ctlg) (c d : Nat) : Bool := match x.classes[c]?, x.classes[d]? with
  | some a, some b => clsF a b
  | _, _ => true
/-- The breakpoints where only the first rows, and of the next the first, have been turned. -/
def advL (x : Ctlg) (k : Nat) : List Int := (List.range 16).map fun i => if i / 4 < x.classes.length ∧ i % 4 < x.classes.length ∧ i / 4 * x.classes.length + i % 4 < k ∧ clashX x (i / 4) (i % 4) = false then openT x (i / 4) (i % 4) else (x.breaks[i]?).getD 0
theorem advL_len (x : Ctlg) (k : Nat) : (advL x k).length = 16 := by simp [advL]
theorem advL_zero (x : Ctlg) (h : x.breaks.length = 16) : advL x 0 = x.breaks := by
  apply List.ext_getElem
  · rw [advL_len, h]
  intro i h1 h2
  simp only [advL, List.getElem_map, List.getElem_range]
  rw [if_neg (by omega), List.getElem?_eq_getElem h2]
  rfl
theorem advL_get (x : Ctlg) (k : Nat) {i : Nat} (hi : i < (advL x k).length) : (advL x k)[i] = if i / 4 < x.classes.length ∧ i % 4 < x.classes.length ∧ i / 4 * x.classes.length + i % 4 < k ∧ clashX x (i / 4) (i % 4) = false then openT x (i / 4) (i % 4) else (x.breaks[i]?).getD 0 := by
  simp [advL]
theorem adv_idx {n c d i : Nat} (hc : c < n) (hd : d < n) (ha : i / 4 < n) (hb : i % 4 < n) (hd4 : d < 4) (h : ¬ c * 4 + d = i) : i / 4 * n + i % 4 ≠ c * n + d := fun he => by
  have q1 : i / 4 = c := by
    rcases Nat.lt_trichotomy (i / 4) c with q | q | q
    · have := Nat.mul_le_mul_right n (show i / 4 + 1 ≤ c by omega)
      rw [Nat.add_mul] at this; omega
    · exact q
    · have := Nat.mul_le_mul_right n (show c + 1 ≤ i / 4 by omega)
      rw [Nat.add_mul] at this; omega
  rw [q1] at he
  omega
theorem advL_same {x : Ctlg} (n4 : x.classes.length ≤ 4) {c d : Nat} (hc : c < x.classes.length) (hd : d < x.classes.length) (h : clashX x c d = true) : advL x (c * x.classes.length + d + 1) = advL x (c * x.classes.length + d) := by
  apply List.ext_getElem
  · rw [advL_len, advL_len]
  intro i h1 h2
  rw [advL_get, advL_get]
  by_cases hi : c * 4 + d = i
  · subst hi
    have e1 : (c * 4 + d) / 4 = c := by omega
    have e2 : (c * 4 + d) % 4 = d := by omega
    rw [e1, e2, h]
    simp
  · by_cases hr : i / 4 < x.classes.length ∧ i % 4 < x.classes.length
    · have := adv_idx hc hd hr.1 hr.2 (by omega) hi
      have e : (i / 4 * x.classes.length + i % 4 < c * x.classes.length + d + 1) ↔ (i / 4 * x.classes.length + i % 4 < c * x.classes.length + d) := by omega
      simp only [e]
    · rw [if_neg fun q => hr ⟨q.1, q.2.1⟩, if_neg fun q => hr ⟨q.1, q.2.1⟩]
theorem advL_step {x : Ctlg} (n4 : x.classes.length ≤ 4) {c d : Nat} (hc : c < x.classes.length) (hd : d < x.classes.length) (h : clashX x c d = false) : List.take (c * 4 + d) ((advL x (c * x.classes.length + d)).map (AV.int .i64)) ++ AV.int .i64 (openT x c d) :: List.drop (c * 4 + d + 1) ((advL x (c * x.classes.length + d)).map (AV.int .i64)) = (advL x (c * x.classes.length + d + 1)).map (AV.int .i64) := by
  have hl := advL_len x (c * x.classes.length + d)
  have hl2 := advL_len x (c * x.classes.length + d + 1)
  have key : advL x (c * x.classes.length + d + 1) = (advL x (c * x.classes.length + d)).set (c * 4 + d) (openT x c d) := by
    apply List.ext_getElem
    · simp [hl, hl2]
    intro i h1 h2
    rw [List.getElem_set, advL_get]
    by_cases hi : c * 4 + d = i
    · subst hi
      have e1 : (c * 4 + d) / 4 = c := by omega
      have e2 : (c * 4 + d) % 4 = d := by omega
      rw [e1, e2, if_pos ⟨hc, hd, by omega, h⟩, if_pos rfl]
    · rw [if_neg hi, advL_get]
      by_cases hr : i / 4 < x.classes.length ∧ i % 4 < x.classes.length
      · have := adv_idx hc hd hr.1 hr.2 (by omega) hi
        have e : (i / 4 * x.classes.length + i % 4 < c * x.classes.length + d + 1) ↔ (i / 4 * x.classes.length + i % 4 < c * x.classes.length + d) := by omega
        simp only [e]
      · rw [if_neg fun q => hr ⟨q.1, q.2.1⟩, if_neg fun q => hr ⟨q.1, q.2.1⟩]
  rw [key, List.map_set, List.set_eq_take_append_cons_drop, if_pos (by simp [hl]; omega)]
/-- A catalogue with the advice. -/
def advOf (x : Ctlg) : Ctlg := x.with (advL x (x.classes.length * x.classes.length))
theorem adv_may {x : Ctlg} (hw : x.wf) (h : catMay x = true) : catMay (advOf x) = true := by
  obtain ⟨hs, hg⟩ := catMay_small hw h
  refine with_may h fun c d hc hd => ?_
  show (advOf x).brkOK c d = true
  have ho : (openOf x).brkOK c d = true := by
    have := open_may hw h
    simp only [catMay, Bool.and_eq_true, List.all_eq_true] at this
    exact this.2 c (List.mem_range.2 hc) d (List.mem_range.2 hd)
  have hx : x.brkOK c d = true := by
    have := h
    simp only [catMay, Bool.and_eq_true, List.all_eq_true] at this
    exact this.2 c (List.mem_range.2 hc) d (List.mem_range.2 hd)
  have hob : (openOf x).brk c d = if c < x.classes.length ∧ d < x.classes.length then openT x c d else 0 := turnL_at hs.2.1 _ hc hd
  have hb : (advOf x).brk c d = x.brk c d ∨ (advOf x).brk c d = (openOf x).brk c d := by
    rw [hob]
    have hlt : 4 * c + d < (advL x (x.classes.length * x.classes.length)).length := by rw [advL_len]; omega
    have e : (advOf x).brk c d = (advL x (x.classes.length * x.classes.length))[4 * c + d] := by
      show ((advL x (x.classes.length * x.classes.length))[4 * c + d]?).getD 0 = _
      rw [List.getElem?_eq_getElem hlt]; rfl
    rw [e, advL_get, show (4 * c + d) / 4 = c by omega, show (4 * c + d) % 4 = d by omega]
    split
    · rename_i q
      rw [if_pos ⟨q.1, q.2.1⟩]
      exact .inr rfl
    · exact .inl rfl
  have hm1 : (advOf x).mostB c d = x.mostB c d := rfl
  have hm2 : (openOf x).mostB c d = x.mostB c d := rfl
  rw [Ctlg.brkOK, hm1]
  rcases hb with hb | hb
  · rw [hb]; exact hx
  · rw [hb, ← hm2]; exact ho
end Go.Proofs

/- The document's answer: may two steps, two classes clash? -/
namespace Go.Proofs
open Go Go.RowKit Go.Am

def rowS (l : List SpanT) (w : Bool) (j : Nat) (g : Nat → Bool) (c k : Nat) : Bool := someF (l.take j) w k || (decide (k < c) && g k)
theorem someF_next {l : List SpanT} {w : Bool} {j : Nat} (h : j < l.length) (k : Nat) : someF (l.take (j + 1)) w k = (someF (l.take j) w k || ((l[j].write || !w) && accF l[j] 100 0 k)) := by
  rw [List.take_succ_eq_append_getElem h, someF, List.any_append]
  simp [someF]
def someB : IR := .seq (.reg c29_r6) (.seq (.reg c29_r7) (.blk 2 (.loop c29_l11)))
theorem bodySome : c29_l13 = .seq (.seq (.reg c29_r4) (.cond (.t 12) (.skip) (.exit 0))) (.seq (.blk 1 (.seq (.seq (.reg c29_r5) (.cond (.t 23) (.exit 1) (.skip))) someB)) (.reg c29_r12)) := rfl
set_option maxHeartbeats 1000000 in
theorem refSome_ok (l : List SpanT) (w : Bool) (hl : l.length ≤ 1000) (hm : ∀ s ∈ l, ∃ n, footMay [s] n = true) : PCall Tryz.prog 29 [.sl .no (l.map encSpanT), .bool w] (setP (someF l w)) := by
  refine PCall.run' hb29 ok29 (by simp) (pures2 (elOK_SpanT.pureL l) (.bool _)) (pure_setP _) (wk_setP _) ?_
  simp -implicitDefEqProofs [-List.reduceReplicate, setA_zero, H.nil]
  refine run_loop (fun m S h => ∃ j : Nat, m = l.length - j ∧ j ≤ l.length ∧ S 0 = .sl .no (l.map encSpanT) ∧ S 1 = .bool w ∧ S 5 = .ptr 0 0 ∧ S 6 = .int .i64 j ∧ 0 < h.bn ∧ h.bx 0 = some (setA (someF (l.take j) w))) ?_ l.length ?_
  rotate_left
  · exact ⟨0, by simp; rfl⟩
  rintro m S h ⟨j, hmm, hj, t0, t1, t5, t6, lb, b0⟩ ih
  rw [bodySome]
  by_cases hlt : j < l.length
  · have i1 := idxOf_nat (k := .i64) hlt
    have hskip : (l[j].write || !w) = false → setA (someF (l.take (j + 1)) w) = setA (someF (l.take j) w) := fun e => setA_congr fun k _ => by rw [someF_next hlt, e]; simp
    by_cases hs : (l[j].write || !w) = false
    · have hw : w = true := by cases w <;> simp_all
      have hlw : l[j].write = false := by cases hq : l[j].write <;> simp_all
      subst hw
      simp -implicitDefEqProofs [t0, t1, t6, hlt, encSpanT, hlw, inc_i64 hlt (by omega), -Int.natCast_add]
      exact ih (l.length - (j + 1)) _ _ (by omega) ⟨j + 1, rfl, by omega, by simp [t0], by simp [t1], by simp [t5], by simp, lb, by rw [hskip hs]; exact b0⟩
    · have hs : (l[j].write || !w) = true := by revert hs; cases (l[j].write || !w) <;> simp
      obtain ⟨n, hn⟩ := hm _ (List.getElem_mem hlt)
      have hkeys := refKeys_ok l[j] n hn
      generalize hg : accF l[j] 100 0 = g at hkeys
      have hnext : ∀ k, someF (l.take (j + 1)) w k = (someF (l.take j) w k || g k) := fun k => by rw [someF_next hlt, hs, ← hg]; simp
      have hbody : ∀ (S1 : Slots), S1 0 = .sl .no (l.map encSpanT) → S1 1 = .bool w → S1 5 = .ptr 0 0 → S1 6 = .int .i64 j → Run Tryz.prog false (.c someB :: .blk 1 :: .c (.reg c29_r12) :: .lp c29_l13 :: .blk 0 :: .c (.seq (.reg c29_r14) .ret) :: []) (retQ [.t 4] fun r' h1 => ∃ h', Gh h1 r' h' (setP (someF l w))) S1 h := fun S1 t0 t1 t5 t6 => by
        unfold someB
        simp -implicitDefEqProofs [t0, t6, hlt, encSpanT]
        refine callQ_p hkeys (by simp [encSpanT]) ?_
        simp -implicitDefEqProofs []
        refine run_loop (fun m S h => ∃ c : Nat, m = 1000 - c ∧ c ≤ 1000 ∧ S 0 = .sl .no (l.map encSpanT) ∧ S 1 = .bool w ∧ S 5 = .ptr 0 0 ∧ S 6 = .int .i64 j ∧ S 7 = setP g ∧ S 8 = .int .i64 c ∧ 0 < h.bn ∧ h.bx 0 = some (setA (rowS l w j g c))) ?_ 1000 ?_
        rotate_left
        · refine ⟨0, rfl, by omega, by simp [t0], by simp [t1], by simp [t5], by simp [t6], by simp, by simp, lb, ?_⟩
          rw [b0]
          exact congrArg some (setA_congr fun k _ => by simp [rowS])
        rintro m S h ⟨c, hmm, hc, t0, t1, t5, t6, t7, t8, lb, b0⟩ ih2
        by_cases hlc : c < 1000
        · have i2 := idxOf_nat (k := .i64) hlc
          have ki : (c : Int) < 1000 := by omega
          have g1 := setA_at (rowS l w j g c) hlc
          have g2 := setA_at g hlc
          have hput := setA_put (rowS l w j g c) hlc (rowS l w j g c c || g c)
          have hrow : setA (fun i => if i = c then (rowS l w j g c c || g c) else rowS l w j g c i) = setA (rowS l w j g (c + 1)) := setA_congr fun k _ => by
            by_cases hk : k = c
            · subst hk
              rw [if_pos rfl]
              simp [rowS]
            · rw [if_neg hk]
              simp only [rowS]
              rw [show decide (k < c + 1) = decide (k < c) by rw [decide_eq_decide]; omega]
          cases hr : rowS l w j g c c
          · rw [hr] at g1
            rw [hr, Bool.false_or] at hput hrow
            cases hgc : g c
            · rw [hgc] at g2 hput hrow
              simp -implicitDefEqProofs [t5, t7, t8, ki, b0, lb, g1, g2, setP, show 1 ≤ 1000 - c by omega, show c + 1 ≤ 1000 by omega, inc_i64 hlc (by omega), -Int.natCast_add]
              rw [hput, hrow]
              exact ih2 (1000 - (c + 1)) _ _ (by omega) ⟨c + 1, rfl, by omega, by simp [t0], by simp [t1], by simp [t5], by simp [t6], by simp [t7, setP], by simp, by simpa using lb, by simp⟩
            · rw [hgc] at g2 hput hrow
              simp -implicitDefEqProofs [t5, t7, t8, ki, b0, lb, g1, g2, setP, show 1 ≤ 1000 - c by omega, show c + 1 ≤ 1000 by omega, inc_i64 hlc (by omega), -Int.natCast_add]
              rw [hput, hrow]
              exact ih2 (1000 - (c + 1)) _ _ (by omega) ⟨c + 1, rfl, by omega, by simp [t0], by simp [t1], by simp [t5], by simp [t6], by simp [t7, setP], by simp, by simpa using lb, by simp⟩
          · rw [hr] at g1
            rw [hr, Bool.true_or] at hput hrow
            simp -implicitDefEqProofs [t5, t8, ki, b0, lb, g1, show c + 1 ≤ 1000 by omega, inc_i64 hlc (by omega), -Int.natCast_add]
            rw [hput, hrow]
            exact ih2 (1000 - (c + 1)) _ _ (by omega) ⟨c + 1, rfl, by omega, by simp [t0], by simp [t1], by simp [t5], by simp [t6], by simp [t7], by simp, by simpa using lb, by simp⟩
        · obtain rfl : c = 1000 := by omega
          simp -implicitDefEqProofs [t6, t8, inc_i64 hlt (by omega), -Int.natCast_add]
          refine ih (l.length - (j + 1)) _ _ (by omega) ⟨j + 1, rfl, by omega, by simp [t0], by simp [t1], by simp [t5], by simp, lb, ?_⟩
          rw [b0]
          exact congrArg some (setA_congr fun k hk => by rw [hnext, rowS, decide_eq_true hk, Bool.true_and])
      cases w with
      | false =>
        simp -implicitDefEqProofs [t0, t1, t6, hlt]
        exact hbody _ (by simp [t0]) (by simp [t1]) (by simp [t5]) (by simp [t6])
      | true =>
        have hlw : l[j].write = true := by simpa using hs
        simp -implicitDefEqProofs [t0, t1, t6, hlt, encSpanT, hlw]
        exact hbody _ (by simp [t0]) (by simp [t1]) (by simp [t5]) (by simp [t6])
  · obtain rfl : j = l.length := by omega
    rw [List.take_length] at b0
    simp -implicitDefEqProofs [t0, t5, t6]
    exact ⟨_, Gh.rop lb b0⟩
end Go.Proofs

/- The steps of a class, over which one ranges; which classes there may be: the program's answer. -/
namespace Go.Proofs
open Go Go.RowKit Go.Am

theorem each_ok (c : Cls) (h : H) : SCall Tryz.prog 48 [.agg (encCls c)] h (.fn 69 [] [.ptr h.bn 0]) (h.alloc (encCls c)) := by
  refine SCall.newG (fun b => .fn 69 [] [.ptr b 0]) (fun _ _ _ _ _ _ _ h1 h2 => Low.fn1 (Low.ptr h1 h2)) (CallP.run hb48 ok48 (by simp) ?_) (pure_encCls c)
  simp -implicitDefEqProofs [encCls]
  exact ⟨HF.alloc _ _ _ _, WkL.refl _⟩

/-- One round after the other, as long as one goes on. -/
theorem each1_ok (c : Cls) (hl : c.comps.length = c.steps.length) (hm : c.steps.length ≤ 9223372036854775807) {l b : Nat} {h : H} (I : Nat → H → Prop) (J : H → Prop) (hI : ∀ k h', I k h' → b < h'.bn ∧ h'.bx b = some (encCls c)) (hJ : ∀ h', J h' → b < h'.bn ∧ h'.bx b = some (encCls c))
    (hr : ∀ k h' (h1 : k < c.steps.length) (h2 : k < c.comps.length), I k h' → ∃ r h'', SYld Tryz.prog l [.agg (encStp c.steps[k]), .agg (encStp c.comps[k])] h' (.bool r) h'' ∧ (r = true → I (k + 1) h'') ∧ (r = false → J h''))
    (h0 : I 0 h) : CallP Tryz.prog 69 [.yld l, .ptr b 0] h fun _ h1 => I c.steps.length h1 ∨ J h1 := by
  refine CallP.run hb69 ok69 (by simp) ?_
  obtain ⟨b1, b2⟩ := hI _ _ h0
  simp -implicitDefEqProofs [b1, b2, encCls, hl]
  refine run_loop (fun m s h1 => ∃ j : Nat, m = c.steps.length - j ∧ j ≤ c.steps.length ∧ s 0 = .yld l ∧ s 1 = .ptr b 0 ∧ s 10 = .int .i64 c.steps.length ∧ s 11 = .int .i64 j ∧ I j h1) ?_ c.steps.length ?_
  rotate_left
  · exact ⟨0, by simpa using h0⟩
  rintro m s h1 ⟨j, hn, hj, s0, s1, s10, s11, hi⟩ ih
  by_cases hlt : j < c.steps.length
  · have hlt2 : j < c.comps.length := by omega
    obtain ⟨b1, b2⟩ := hI _ _ hi
    rw [encCls] at b2
    simp -implicitDefEqProofs [s10, s11, hlt]
    refine run_dreg c69_d4 ?_
    simp -implicitDefEqProofs [s0, s1, b1, b2, hlt, hlt2, encStp]
    obtain ⟨r, h2, q1, q2, q3⟩ := hr j h1 hlt hlt2 hi
    refine callD_y q1 (by simp [encStp]) ?_
    cases r
    · obtain ⟨b3, b4⟩ := hJ _ (q3 rfl)
      rw [encCls] at b4
      simp -implicitDefEqProofs [b1, b2, b3, b4]
      exact Or.inr (q3 rfl)
    · obtain ⟨b3, b4⟩ := hI _ _ (q2 rfl)
      rw [encCls] at b4
      simp -implicitDefEqProofs [b1, b2, b3, b4, s11, inc_i64 hlt hm, -Int.natCast_add]
      exact ih (c.steps.length - (j + 1)) _ _ (by omega) ⟨j + 1, rfl, by omega, by simp [s0], by simp [s1], by simp [s10], by simp, q2 rfl⟩
  · obtain rfl : j = c.steps.length := by omega
    simp -implicitDefEqProofs [s10, s11]
    exact Or.inl hi
end Go.Proofs

/- Which classes there may be: the program's answer. -/
namespace Go.Proofs
open Go Go.RowKit Go.Am

theorem stepMay_parts (a : Int) (s u : Stp) : stepMay a (s, u) = (progMay s.code a && footMay s.foot a && compMay u a) := by
  rw [comp_back, stepMay]
  cases progMay s.code a <;> cases footMay s.foot a <;> cases footMay u.foot a <;> cases backMay u a <;> rfl

set_option maxHeartbeats 1000000 in
theorem classMay_ok (c : Cls) (hc : c.wf) : PCall Tryz.prog 30 [.agg (encCls c)] (.bool (clsMay c)) := by
  refine PCall.run hb30 ok30 (by simp) (pures1 (.agg (pure_encCls c))) (.bool _) ?_
  obtain ⟨hwn, hwa, ⟨hsl, hsw⟩, hcl, hcw⟩ := hc
  by_cases bad : (((((((c.name.size : Int) < 1 ∨ (16 : Int) < (c.name.size : Int)) ∨ c.args < 0) ∨ 3 < c.args) ∨ (c.steps.length : Int) < 1) ∨ (4 : Int) < (c.steps.length : Int)) ∨ ¬ c.comps.length = c.steps.length)
  · have hf : clsMay c = false := by
      simp only [clsMay, Bool.and_eq_false_iff, Bool.not_eq_false', decide_eq_true_eq, decide_eq_false_iff_not]
      omega
    simp (maxSteps := 2000000) +contextual -implicitDefEqProofs [↓gdL_T, ↓gdL_F, ↓condQ_b, -Int.not_lt, -Int.not_le, -Nat.not_lt, -Nat.not_le, hf, encCls, H.nil]
    all_goals (intros; omega)
  have hm : clsMay c = (c.steps.zip c.comps).all (stepMay c.args) := by
    simp only [clsMay, show ¬ c.name.size < 1 by omega, show ¬ 16 < c.name.size by omega, show ¬ c.args < 0 by omega, show ¬ 3 < c.args by omega, show ¬ c.steps.length < 1 by omega, show ¬ 4 < c.steps.length by omega, show c.comps.length = c.steps.length by omega]
    simp
  have hcs : c.comps.length = c.steps.length := by omega
  have e1 : ¬ (c.name.size : Int) < 1 := by omega
  have e2 : ¬ (16 : Int) < (c.name.size : Int) := by omega
  have e3 : ¬ c.args < 0 := by omega
  have e4 : ¬ 3 < c.args := by omega
  have e5 : ¬ (c.steps.length : Int) < 1 := by omega
  have e6 : ¬ (4 : Int) < (c.steps.length : Int) := by omega
  simp -implicitDefEqProofs [encCls, H.nil, e1, e2, e3, e4, e5, e6, hcs]
  refine callQ_s (each_ok c _) (by simp [encCls]) ?_
  simp -implicitDefEqProofs []
  generalize hS : (su _ 45 _ : Slots) = S
  have s1 : S 1 = .ptr 0 0 := by rw [← hS]; simp
  have s2 : S 2 = .ptr 1 0 := by rw [← hS]; simp
  have s45 : S 45 = .fn 69 [] [.ptr 2 0] := by rw [← hS]; simp
  clear hS
  have hzl : (c.steps.zip c.comps).length = c.steps.length := by simp [hcs]
  let q0 : LoopA := ⟨S, [46, 47], c30_x10, c30_y11, .ready, none⟩
  let qE : LoopA := ⟨S, [46, 47], c30_x10, c30_y11, .done, some .ret⟩
  let I : Nat → H → Prop := fun k h1 => 0 < h1.ln ∧ h1.lp 0 = some q0 ∧ 3 ≤ h1.bn ∧ h1.bx 0 = some (encCls c) ∧ h1.bx 1 = some [.bool false] ∧ h1.bx 2 = some (encCls c) ∧ ∀ i (hi : i < (c.steps.zip c.comps).length), i < k → stepMay c.args (c.steps.zip c.comps)[i] = true
  let J : H → Prop := fun h1 => 0 < h1.ln ∧ h1.lp 0 = some qE ∧ 3 ≤ h1.bn ∧ h1.bx 1 = some [.bool false] ∧ h1.bx 2 = some (encCls c) ∧ (c.steps.zip c.comps).all (stepMay c.args) = false
  refine .rngf (Z := fun _ h1 => I c.steps.length h1 ∨ J h1) (F := 69) (first := []) (caps := [.ptr 2 0]) rfl (by simpa using s45) (each1_ok c hcs hsl I J (fun k h' ⟨_, _, q1, _, _, q2, _⟩ => ⟨by omega, q2⟩) (fun h' ⟨_, _, q1, _, q2, _⟩ => ⟨by omega, q2⟩) ?_ ?_) ?_ ?_
  · rintro k h' k1 k2 ⟨j1, j2, j3, j4, j5, j6, j7⟩
    have hws := hsw _ (List.getElem_mem k1)
    have hwc := hcw _ (List.getElem_mem k2)
    have hp1 := hws.1.1
    have hp2 := hws.2.1
    have hlz : k < (c.steps.zip c.comps).length := by omega
    have j4' := j4
    rw [encCls] at j4
    have b1 : 0 < h'.bn := by omega
    have hbad : stepMay c.args (c.steps[k], c.comps[k]) = false → Run Tryz.prog true [.c c30_x10, .beg 0, .c c30_y11] (roundQ 0 fun r1 h1 => r1 = .bool false ∧ h1.lp 0 = some qE ∧ HF h' (h1.setLoop 0 (some q0)) (fun _ => False) (fun _ => False)) (slotsP S [46, 47] [.agg (encStp c.steps[k]), .agg (encStp c.comps[k])]) h' → ∃ r h'', SYld Tryz.prog 0 [.agg (encStp c.steps[k]), .agg (encStp c.comps[k])] h' (.bool r) h'' ∧ (r = true → I (k + 1) h'') ∧ (r = false → J h'') := fun hn hrun => by
      refine ⟨false, _, SYld.ro (q := q0) (q' := qE) j1 j2 rfl rfl (.bool _) hrun, (fun h => by cases h), fun _ => ⟨by simpa using j1, by simp, by simpa using j3, by simpa using j5, by simpa using j6, ?_⟩⟩
      exact all_take_false hlz (by rw [List.getElem_zip]; exact hn)
    have hgood : stepMay c.args (c.steps[k], c.comps[k]) = true → Run Tryz.prog true [.c c30_x10, .beg 0, .c c30_y11] (roundQ 0 fun r1 h1 => r1 = .bool true ∧ h1.lp 0 = some q0 ∧ HF h' (h1.setLoop 0 (some q0)) (fun _ => False) (fun _ => False)) (slotsP S [46, 47] [.agg (encStp c.steps[k]), .agg (encStp c.comps[k])]) h' → ∃ r h'', SYld Tryz.prog 0 [.agg (encStp c.steps[k]), .agg (encStp c.comps[k])] h' (.bool r) h'' ∧ (r = true → I (k + 1) h'') ∧ (r = false → J h'') := fun hn hrun => by
      refine ⟨true, _, SYld.ro (q := q0) (q' := q0) j1 j2 rfl rfl (.bool _) hrun, fun _ => ⟨by simpa using j1, by simp, by simpa using j3, by simpa using j4', by simpa using j5, by simpa using j6, fun i hi hij => ?_⟩, fun h => by cases h⟩
      by_cases h : i = k
      · subst h; rw [List.getElem_zip]; exact hn
      · exact j7 i hi (by omega)
    rw [stepMay_parts] at hbad hgood
    have z0 : ¬ 0 = h'.bn := by omega
    have z1 : ¬ 0 = h'.bn + 1 := by omega
    have z2 : ¬ 1 = h'.bn := by omega
    have z3 : ¬ 1 = h'.bn + 1 := by omega
    have z4 : ¬ h'.bn = 0 := by omega
    have b2 : 1 < h'.bn := by omega
    have c0 : 0 < h'.bn + 1 + 1 := by omega
    have c1 : 1 < h'.bn + 1 + 1 := by omega
    cases hp : progMay c.steps[k].code c.args
    · refine hbad (by simp [hp]) ?_
      simp -implicitDefEqProofs [slotsP, s1, j1, j2, j4, z0, z4, c0, q0, encStp]
      refine callQ_p (progMay_ok c.steps[k].code c.args hp1) (by simp) ?_
      simp -implicitDefEqProofs [slotsP, s2, j1, j5, z2, z4, c1, q0, roundQ, encStp, hp]
      refine ⟨rfl, by simp; omega, fun b hb hn => ?_, by simp, by simp, by simp, fun l hl => ?_, by simp, by simp⟩
      · by_cases h1 : b = 1
        · subst h1; simp [j5]
        · simp [show ¬ b = h'.bn by omega, show ¬ b = h'.bn + 1 by omega, h1]
      · by_cases h0 : l = 0
        · subst h0; simp [j2, q0]
        · simp [h0]
    cases hq : footMay c.steps[k].foot c.args
    · refine hbad (by simp [hp, hq]) ?_
      simp -implicitDefEqProofs [slotsP, s1, j1, j2, j4, z0, z4, c0, q0, encStp]
      refine callQ_p (progMay_ok c.steps[k].code c.args hp1) (by simp) ?_
      simp -implicitDefEqProofs [slotsP, s1, j4, z0, z4, c0, encStp, hp]
      refine callQ_p (footMay_ok c.steps[k].foot c.args hp2) (by simp) ?_
      simp -implicitDefEqProofs [slotsP, s2, j1, j5, z2, z4, c1, q0, roundQ, encStp, hq]
      refine ⟨rfl, by simp; omega, fun b hb hn => ?_, by simp, by simp, by simp, fun l hl => ?_, by simp, by simp⟩
      · by_cases h1 : b = 1
        · subst h1; simp [j5]
        · simp [show ¬ b = h'.bn by omega, show ¬ b = h'.bn + 1 by omega, h1]
      · by_cases h0 : l = 0
        · subst h0; simp [j2, q0]
        · simp [h0]
    cases hr : compMay c.comps[k] c.args
    · refine hbad (by simp [hp, hq, hr]) ?_
      simp -implicitDefEqProofs [slotsP, s1, j1, j2, j4, z0, z4, c0, q0, encStp]
      refine callQ_p (progMay_ok c.steps[k].code c.args hp1) (by simp) ?_
      simp -implicitDefEqProofs [slotsP, s1, j4, z0, z4, c0, encStp, hp]
      refine callQ_p (footMay_ok c.steps[k].foot c.args hp2) (by simp) ?_
      simp -implicitDefEqProofs [slotsP, s1, j4, z0, z4, c0, encStp, hq]
      refine callQ_p (mayComp_ok c.comps[k] c.args hwc) (by simp [encStp]) ?_
      simp -implicitDefEqProofs [slotsP, s2, j1, j5, z2, z4, c1, q0, roundQ, encStp, hr]
      refine ⟨rfl, by simp; omega, fun b hb hn => ?_, by simp, by simp, by simp, fun l hl => ?_, by simp, by simp⟩
      · by_cases h1 : b = 1
        · subst h1; simp [j5]
        · simp [show ¬ b = h'.bn by omega, show ¬ b = h'.bn + 1 by omega, h1]
      · by_cases h0 : l = 0
        · subst h0; simp [j2, q0]
        · simp [h0]
    · refine hgood (by simp [hp, hq, hr]) ?_
      simp -implicitDefEqProofs [slotsP, s1, j1, j2, j4, z0, z4, c0, q0, encStp]
      refine callQ_p (progMay_ok c.steps[k].code c.args hp1) (by simp) ?_
      simp -implicitDefEqProofs [slotsP, s1, j4, z0, z4, c0, encStp, hp]
      refine callQ_p (footMay_ok c.steps[k].foot c.args hp2) (by simp) ?_
      simp -implicitDefEqProofs [slotsP, s1, j4, z0, z4, c0, encStp, hq]
      refine callQ_p (mayComp_ok c.comps[k] c.args hwc) (by simp [encStp]) ?_
      simp -implicitDefEqProofs [slotsP, j1, q0, roundQ, encStp, hr]
      refine ⟨by simp; omega, fun b hb hn => ?_, by simp, by simp, by simp, fun l hl => ?_, by simp, by simp⟩
      · by_cases h1 : b = 1
        · subst h1; simp [j5, z2, z4]
        · simp [show ¬ b = h'.bn by omega, show ¬ b = h'.bn + 1 by omega]
      · by_cases h0 : l = 0
        · subst h0; simp [j2, q0]
        · simp [h0]
  · exact ⟨by simp, by simp [q0], by simp, by simp [encCls], by simp, by simp [encCls], fun i hi hij => absurd hij (by omega)⟩
  · rintro v h2 (⟨j1, j2, _⟩ | ⟨j1, j2, _⟩)
    · exact ⟨j1, _, j2, by simp [q0]⟩
    · exact ⟨j1, _, j2, by simp [qE]⟩
  · rintro v h2 q (⟨j1, j2, j3, j4, j5, j6, j7⟩ | ⟨j1, j2, j3, j5, j6, j7⟩) hq
    · have hw := all_whole (p := stepMay c.args) (l := c.steps.zip c.comps) (j := c.steps.length) (by omega) j7
      replace hq : h2.lp 0 = some q := hq
      rw [j2] at hq
      cases hq
      simp -implicitDefEqProofs [pendK, q0, s2, j5, show 1 < h2.bn by omega, hm, hw]
    · replace hq : h2.lp 0 = some q := hq
      rw [j2] at hq
      cases hq
      simp -implicitDefEqProofs [pendK, qE, s2, j5, show 1 < h2.bn by omega, hm, j7]
end Go.Proofs
