/- What the functions that the statement reaches do: their contracts; and what follows of it. -/
import Derived.Test.YtdcpendppalkgaaSClassReads8
import Derived.Test.YtdcpendppalkgaaK4
import Derived.Test.YtdcpendppalkgaaSClassReads6
/- Units: the law's own first look; catalogues that are opened and closed. -/
namespace Go.Proofs
open Go Go.RowKit Go.Am

def aliveC : Ctlg := ⟨[⟨⟨#[97]⟩, 0, List.replicate 3 ⟨[⟨5, 0, 0, 0, ⟨0, 0⟩, ⟨0, 0⟩, 0⟩], []⟩, List.replicate 3 ⟨[], []⟩, false⟩], 2 :: List.replicate 15 0⟩
theorem aliveC_good : aliveC.good where
  wf := by
    refine ⟨⟨by decide, ?_⟩, by decide, ?_⟩
    · intro y hy
      simp only [aliveC, List.mem_singleton] at hy
      subst hy
      refine ⟨by decide, by simp [inI], ⟨by decide, ?_⟩, by decide, ?_⟩
      · intro y hy
        obtain rfl := List.eq_of_mem_replicate hy
        refine ⟨⟨by decide, ?_⟩, by decide, by simp⟩
        intro y hy
        simp only [List.mem_singleton] at hy
        subst hy
        simp [Inst.wf, KeyT.wf, inI]
      · intro y hy
        obtain rfl := List.eq_of_mem_replicate hy
        exact ⟨⟨by decide, by simp⟩, by decide, by simp⟩
    · intro y hy
      simp only [aliveC, List.mem_cons, List.mem_replicate] at hy
      rcases hy with rfl | ⟨_, rfl⟩ <;> simp [inI]
  n4 := by decide
  s4 := by
    intro c h
    simp [aliveC] at h
    subst h
    simp [aliveC]
  nn := by
    intro c d
    have : ∀ k : Nat, 0 ≤ (aliveC.breaks[k]?).getD 0 := by
      intro k
      rcases h : aliveC.breaks[k]? with _ | v
      · simp
      · have := List.mem_of_getElem? h
        simp only [aliveC, List.mem_cons, List.mem_replicate] at this
        rcases this with rfl | ⟨_, rfl⟩ <;> simp
    exact this (4 * c + d)

end Go.Proofs

/- Catalogues that are copied. -/
namespace Go.Proofs
open Go Go.RowKit Go.Am

section
variable {α : Type} {enc : α → List AV} {z : Nat}
theorem flatM_len (he : ∀ x, (enc x).length = z) (l : List α) : (l.map enc).flatten.length = l.length * z := by
  rw [flatten_len (z := z) (by simp [he]), List.length_map]
theorem chunks_of (he : ∀ x, (enc x).length = z) : ∀ (l : List α) (r : List AV), chunks z l.length ((l.map enc).flatten ++ r) = l.map enc
  | [], _ => rfl
  | x :: l, r => by
    have e1 : (enc x).length = z := he x
    simp only [List.map_cons, List.flatten_cons, List.length_cons, chunks, List.append_assoc]
    rw [List.take_left' e1, List.drop_left' e1, chunks_of he l]
theorem flat_take (he : ∀ x, (enc x).length = z) : ∀ (l : List α) (j : Nat) (h : j < l.length), List.take z (List.drop (j * z) (l.map enc).flatten) = enc l[j]
  | x :: l, 0, _ => by simp [List.take_left' (he x)]
  | x :: l, j + 1, h => by
    rw [List.map_cons, List.flatten_cons, show (j + 1) * z = (enc x).length + j * z by rw [he x, Nat.add_mul]; omega, ← List.drop_drop, List.drop_left' rfl, flat_take he l j (by simpa using h)]
    rfl
theorem flat_set (he : ∀ x, (enc x).length = z) : ∀ (l : List α) (j : Nat) (y : α), j < l.length → List.take (j * z) (l.map enc).flatten ++ (enc y ++ List.drop (j * z + z) (l.map enc).flatten) = ((l.set j y).map enc).flatten
  | x :: l, 0, y, _ => by simp [List.drop_left' (he x)]
  | x :: l, j + 1, y, h => by
    have ih := flat_set he l j y (by simpa using h)
    rw [List.map_cons, List.flatten_cons, show (j + 1) * z = (enc x).length + j * z by rw [he x, Nat.add_mul]; omega, List.take_length_add_append, Nat.add_assoc, ← List.drop_drop, List.drop_left' rfl, List.append_assoc, ih]
    rfl
end

def Stp.small (s : Stp) : Prop := s.code.length ≤ 8 ∧ s.foot.length ≤ 4

def Cls.small (c : Cls) : Prop := 0 < c.steps.length ∧ c.steps.length ≤ 4 ∧ c.comps.length = c.steps.length ∧ (∀ s ∈ c.steps, s.small) ∧ ∀ s ∈ c.comps, s.small
def Ctlg.small (x : Ctlg) : Prop := 0 < x.classes.length ∧ x.classes.length ≤ 4 ∧ (∀ c ∈ x.classes, c.small) ∧ x.breaks.length = 16

theorem put_same {F : List AV} {k : Nat} {v : AV} (h : F[k]? = some v) : List.take k F ++ v :: List.drop (k + 1) F = F := by
  obtain ⟨hk, rfl⟩ := List.getElem?_eq_some_iff.1 h
  rw [← List.drop_eq_getElem_cons hk, List.take_append_drop]
theorem flatC_get (l : List Cls) {j k : Nat} (hj : j < l.length) (hk : k < 5) : (l.map encCls).flatten[j * 5 + k]? = some ((encCls l[j])[k]'(by simpa using hk)) := by
  rw [flatten_get (z := 5) (by simp) j k hk, List.getElem?_map, List.getElem?_eq_getElem hj]
  simp []

/-- A catalogue with other breakpoints. -/
def Ctlg.with (x : Ctlg) (l : List Int) : Ctlg := ⟨x.classes, l⟩
def closedOf (x : Ctlg) : Ctlg := x.with (List.replicate 16 0)

def Cls.all (c : Cls) : Int := 2 ^ (c.steps.length - 1) - 1
end Go.Proofs

/- Pairs of classes, by a function over which one ranges; a catalogue that is opened. -/
namespace Go.Proofs
open Go Go.RowKit Go.Am

/-- The breakpoints that are turned, after so many pairs. -/
def turnL (n : Nat) (t : Nat → Nat → Int) (k : Nat) : List Int := (List.range 16).map fun i => if i / 4 < n ∧ i % 4 < n ∧ i / 4 * n + i % 4 < k then t (i / 4) (i % 4) else 0

theorem turnL_len (n : Nat) (t : Nat → Nat → Int) (k : Nat) : (turnL n t k).length = 16 := by simp [turnL]
theorem turnL_get (n : Nat) (t : Nat → Nat → Int) (k : Nat) {i : Nat} (hi : i < (turnL n t k).length) : (turnL n t k)[i] = if i / 4 < n ∧ i % 4 < n ∧ i / 4 * n + i % 4 < k then t (i / 4) (i % 4) else 0 := by
  simp [turnL]
theorem turnL_step {n : Nat} (n4 : n ≤ 4) (t : Nat → Nat → Int) {c d : Nat} (hc : c < n) (hd : d < n) : List.take (c * 4 + d) ((turnL n t (c * n + d)).map (AV.int .i64)) ++ AV.int .i64 (t c d) :: List.drop (c * 4 + d + 1) ((turnL n t (c * n + d)).map (AV.int .i64)) = (turnL n t (c * n + d + 1)).map (AV.int .i64) := by
  have hl := turnL_len n t (c * n + d)
  have hl2 := turnL_len n t (c * n + d + 1)
  have key : turnL n t (c * n + d + 1) = (turnL n t (c * n + d)).set (c * 4 + d) (t c d) := by
    apply List.ext_getElem
    · simp [hl, hl2]
    intro i h1 h2
    rw [List.getElem_set, turnL_get]
    by_cases h : c * 4 + d = i
    · subst h
      have e1 : (c * 4 + d) / 4 = c := by omega
      have e2 : (c * 4 + d) % 4 = d := by omega
      rw [e1, e2, if_pos ⟨hc, hd, by omega⟩, if_pos rfl]
    · rw [if_neg h, turnL_get]
      have e : (i / 4 < n ∧ i % 4 < n ∧ i / 4 * n + i % 4 < c * n + d + 1) ↔ (i / 4 < n ∧ i % 4 < n ∧ i / 4 * n + i % 4 < c * n + d) := by
        constructor
        · rintro ⟨a, b, e⟩
          refine ⟨a, b, ?_⟩
          have hne : i / 4 * n + i % 4 ≠ c * n + d := fun he => by
            have q1 : i / 4 = c := by
              rcases Nat.lt_trichotomy (i / 4) c with q | q | q
              · have := Nat.mul_le_mul_right n (show i / 4 + 1 ≤ c by omega)
                rw [Nat.add_mul] at this; omega
              · exact q
              · have := Nat.mul_le_mul_right n (show c + 1 ≤ i / 4 by omega)
                rw [Nat.add_mul] at this; omega
            rw [q1] at he
            omega
          omega
        · rintro ⟨a, b, e⟩
          exact ⟨a, b, by omega⟩
      simp only [e]
  rw [key, List.map_set, List.set_eq_take_append_cons_drop, if_pos (by simp [hl]; omega)]

def openT (x : Ctlg) (c _ : Nat) : Int := if h : c < x.classes.length then x.classes[c].all else 0
def openOf (x : Ctlg) : Ctlg := x.with (turnL x.classes.length (openT x) (x.classes.length * x.classes.length))

theorem Ctlg.with_len (x : Ctlg) (l : List Int) : (x.with l).classes = x.classes := rfl
end Go.Proofs

/- What a catalogue that may be is; its opened and its closed one. -/
namespace Go.Proofs
open Go Go.RowKit Go.Am

theorem progMay_len {l : List Inst} {a : Int} (h : progMay l a = true) : l.length ≤ 8 := by
  simp only [progMay, Bool.and_eq_true, Bool.not_eq_true', decide_eq_false_iff_not] at h
  omega
theorem footMay_len {l : List SpanT} {a : Int} (h : footMay l a = true) : l.length ≤ 4 := by
  simp only [footMay, Bool.and_eq_true, Bool.not_eq_true', decide_eq_false_iff_not] at h
  omega
theorem stepMay_small {a : Int} {p : Stp × Stp} (h : stepMay a p = true) : p.1.small ∧ p.2.small := by
  simp only [stepMay, backMay, Bool.and_eq_true, Bool.or_eq_true, Bool.not_eq_true', decide_eq_false_iff_not] at h
  obtain ⟨⟨⟨h1, h2⟩, h3⟩, h4, _⟩ := h
  refine ⟨⟨progMay_len h1, footMay_len h2⟩, ?_, footMay_len h3⟩
  rcases h4 with h | h
  · omega
  · exact progMay_len h
theorem clsMay_small {c : Cls} (h : clsMay c = true) : c.small := by
  simp only [clsMay, Bool.and_eq_true, Bool.not_eq_true', decide_eq_false_iff_not, decide_eq_true_eq] at h
  obtain ⟨⟨⟨_, h5⟩, h6⟩, h7⟩ := h
  have key : ∀ j (h1 : j < c.steps.length) (h2 : j < c.comps.length), c.steps[j].small ∧ c.comps[j].small := fun j h1 h2 => by
    rw [List.all_eq_true] at h7
    have hz : j < (c.steps.zip c.comps).length := by rw [List.length_zip]; omega
    have := stepMay_small (h7 _ (List.getElem_mem hz))
    rwa [List.getElem_zip] at this
  refine ⟨by omega, by omega, h6, fun s hs => ?_, fun s hs => ?_⟩
  · obtain ⟨j, hj, rfl⟩ := List.mem_iff_getElem.1 hs
    exact (key j hj (by omega)).1
  · obtain ⟨j, hj, rfl⟩ := List.mem_iff_getElem.1 hs
    exact (key j (by omega) hj).2
theorem catMay_small {x : Ctlg} (hw : x.wf) (h : catMay x = true) : x.small ∧ x.good := by
  simp only [catMay, Bool.and_eq_true, Bool.not_eq_true', decide_eq_false_iff_not] at h
  obtain ⟨⟨⟨h1, h2⟩, h3⟩, h4⟩ := h
  have hc : ∀ c (h : c < x.classes.length), x.classes[c].small := fun c h => by
    rw [List.all_eq_true] at h3
    have := h3 c (List.mem_range.2 h)
    rw [Bool.and_eq_true, Ctlg.clsOK_of h] at this
    exact clsMay_small this.1
  refine ⟨⟨by omega, by omega, fun c hc' => ?_, hw.2.1⟩, hw, by omega, fun c h => (hc c h).2.1, fun c d => ?_⟩
  · obtain ⟨j, hj, rfl⟩ := List.mem_iff_getElem.1 hc'
    exact hc j hj
  · have hk : ∀ k : Nat, 0 ≤ (x.breaks[k]?).getD 0 := fun k => by
      by_cases hk : k < 16
      · rw [List.all_eq_true] at h4
        have := h4 (k / 4) (List.mem_range.2 (by omega))
        rw [List.all_eq_true] at this
        have := this (k % 4) (List.mem_range.2 (by omega))
        simp only [Ctlg.brkOK, Bool.and_eq_true, Bool.not_eq_true', decide_eq_false_iff_not] at this
        have e : x.brk (k / 4) (k % 4) = (x.breaks[k]?).getD 0 := by rw [Ctlg.brk, show 4 * (k / 4) + k % 4 = k by omega]
        omega
      · rw [List.getElem?_eq_none (by have := hw.2.1; omega)]
        simp
    exact hk _

theorem all_le (c : Cls) (h : c.small) : 0 ≤ c.all ∧ c.all ≤ 7 := by
  obtain ⟨h0, h4, _⟩ := h
  have hl : c.steps.length = 1 ∨ c.steps.length = 2 ∨ c.steps.length = 3 ∨ c.steps.length = 4 := by omega
  rcases hl with hl | hl | hl | hl <;> simp [Cls.all, hl]
theorem openT_le {x : Ctlg} (hx : x.small) (c d : Nat) : 0 ≤ openT x c d ∧ openT x c d ≤ 7 := by
  unfold openT
  split
  · exact all_le _ (hx.2.2.1 _ (List.getElem_mem _))
  · omega
theorem turnL_all {n : Nat} {t : Nat → Nat → Int} {k : Nat} {Q : Int → Prop} (h0 : Q 0) (ht : ∀ c d, Q (t c d)) : ∀ y ∈ turnL n t k, Q y := fun y hy => by
  obtain ⟨j, hj, rfl⟩ := List.mem_iff_getElem.1 hy
  rw [turnL_get]
  split
  · exact ht _ _
  · exact h0
theorem with_good {x : Ctlg} (_ : x.small) (hg : x.good) {l : List Int} (hl : l.length = 16) (h : ∀ y ∈ l, 0 ≤ y ∧ y ≤ 7) : (x.with l).good where
  wf := ⟨hg.wf.1, hl, fun y hy => by have := h y hy; simp only [inI]; omega⟩
  n4 := hg.n4
  s4 := hg.s4
  nn := fun c d => by
    unfold Ctlg.brk
    rcases h2 : (x.with l).breaks[4 * c + d]? with _ | v
    · simp
    · exact (h v (List.mem_of_getElem? h2)).1
theorem open_good {x : Ctlg} (hx : x.small) (hg : x.good) : (openOf x).good := with_good hx hg (turnL_len _ _ _) (turnL_all (by omega) (openT_le hx))
theorem closed_good {x : Ctlg} (hx : x.small) (hg : x.good) : (closedOf x).good := with_good hx hg (by simp) (fun y hy => by rw [List.eq_of_mem_replicate hy]; omega)

theorem open_at {x : Ctlg} (hx : x.small) {c d : Nat} (hc : c < x.classes.length) (hd : d < x.classes.length) (j : Nat) : (openOf x).brkAt c d j = decide (j + 1 < x.classes[c].steps.length) := by
  have hn := hx.2.1
  have hcl : (openOf x).classes = x.classes := rfl
  have hb : (openOf x).brk c d = x.classes[c].all := by
    rw [Ctlg.brk_of (turnL_len _ _ _) (by omega) (by omega)]
    show (turnL x.classes.length (openT x) (x.classes.length * x.classes.length))[4 * c + d]'(by rw [turnL_len]; omega) = _
    rw [turnL_get, show (4 * c + d) / 4 = c by omega, show (4 * c + d) % 4 = d by omega, if_pos]
    · simp [openT, hc]
    · refine ⟨hc, hd, ?_⟩
      have := Nat.mul_le_mul_right x.classes.length (show c + 1 ≤ x.classes.length by omega)
      rw [Nat.add_mul] at this
      omega
  have hs : (openOf x).stepsN c = x.classes[c].steps.length := Ctlg.stepsN_of (x := openOf x) hc
  have hi : ∀ k : Nat, k < x.classes.length → (openOf x).inn k = true := fun k hk => by
    simp only [Ctlg.inn, hcl, Bool.and_eq_true, decide_eq_true_eq]
    omega
  simp only [Ctlg.brkAt, hi c hc, hi d hd, Int.toNat_natCast, hs, hb, Bool.true_and]
  have hsm := hx.2.2.1 _ (List.getElem_mem hc)
  obtain ⟨h0, h4, _⟩ := hsm
  by_cases hj : j + 1 < x.classes[c].steps.length
  · have hl : x.classes[c].steps.length = 2 ∨ x.classes[c].steps.length = 3 ∨ x.classes[c].steps.length = 4 := by omega
    have hj3 : j = 0 ∨ j = 1 ∨ j = 2 := by omega
    have e1 : decide ((0 : Int) ≤ (j : Nat)) = true := by simp
    have e2 : decide ((j : Int) + 1 < x.classes[c].steps.length) = true := by simp; omega
    rw [e1, e2, decide_eq_true hj]
    rcases hl with hl | hl | hl <;> rcases hj3 with rfl | rfl | rfl <;> first | omega | (simp [Cls.all, hl, bitN])
  · have e2 : decide ((j : Int) + 1 < x.classes[c].steps.length) = false := by simp; omega
    rw [e2, decide_eq_false hj]
    simp
theorem closed_at (x : Ctlg) (c d : Int) (j : Nat) : (closedOf x).brkAt c d j = false := by
  have hb : ∀ c d, (closedOf x).brk c d = 0 := fun c d => by
    unfold Ctlg.brk closedOf Ctlg.with
    rcases h2 : (List.replicate 16 (0 : Int))[4 * c + d]? with _ | v
    · simp []
    · have := List.eq_of_mem_replicate (List.mem_of_getElem? h2)
      simp [this]
  simp [Ctlg.brkAt, hb, bitN]
end Go.Proofs

/- Breakpoints that are counted; a catalogue's breakpoints that may be: plain laws. -/
namespace Go.Proofs
open Go Go.RowKit Go.Am

def sumN (f : Nat → Nat) : Nat → Nat
  | 0 => 0
  | k + 1 => sumN f k + f k
theorem sumN_le {f g : Nat → Nat} : ∀ k : Nat, (∀ j, j < k → f j ≤ g j) → sumN f k ≤ sumN g k
  | 0, _ => Nat.le_refl _
  | k + 1, h => Nat.add_le_add (sumN_le k fun j hj => h j (by omega)) (h k (by omega))
theorem sumN_congr {f g : Nat → Nat} : ∀ k : Nat, (∀ j, j < k → f j = g j) → sumN f k = sumN g k
  | 0, _ => rfl
  | k + 1, h => by rw [sumN, sumN, sumN_congr k fun j hj => h j (by omega), h k (by omega)]
theorem sumN_bound {f : Nat → Nat} {m : Nat} (hf : ∀ j, f j ≤ m) : ∀ k : Nat, sumN f k ≤ m * k
  | 0 => Nat.zero_le _
  | k + 1 => by
    have := sumN_bound hf k
    have := hf k
    rw [sumN, Nat.mul_add]; omega
theorem sumN_zero {f : Nat → Nat} (k : Nat) (h : ∀ j, j < k → f j = 0) : sumN f k = 0 := by
  have := sumN_congr (g := fun _ => 0) k h
  rw [this]
  have : ∀ k, sumN (fun _ => 0) k = 0 := fun k => by
    induction k with
    | zero => rfl
    | succ k ih => rw [sumN, ih]
  exact this k

def popc (v : Nat) : Nat := v % 2 + v / 2 % 2 + v / 4 % 2
theorem popc_le (v : Nat) : popc v ≤ 3 := by simp only [popc]; omega
def Ctlg.pcB (x : Ctlg) (c d : Nat) : Nat := popc (x.brk c d).toNat
def Ctlg.cntB (x : Ctlg) : Nat := sumN (fun c => sumN (fun d => x.pcB c d) x.classes.length) x.classes.length
def Ctlg.one (x : Ctlg) (c d i : Nat) : Nat := if x.brkAt c d i = true then 1 else 0

theorem may_brk {x : Ctlg} (h : catMay x = true) (c d : Nat) (hc : c < 4) (hd : d < 4) : 0 ≤ x.brk c d ∧ x.brk c d < x.mostB c d := by
  simp only [catMay, Bool.and_eq_true, Bool.not_eq_true', decide_eq_false_iff_not] at h
  obtain ⟨_, h4⟩ := h
  rw [List.all_eq_true] at h4
  have := h4 c (List.mem_range.2 hc)
  rw [List.all_eq_true] at this
  have := this d (List.mem_range.2 hd)
  simp only [Ctlg.brkOK, Bool.and_eq_true, Bool.not_eq_true', decide_eq_false_iff_not] at this
  omega

theorem bits_cnt : ∀ s : Fin 4, ∀ v : Fin 8, v.1 < 2 ^ s.1 → popc v = (if bitN v 0 = true ∧ 1 < s.1 + 1 then 1 else 0) + (if bitN v 1 = true ∧ 2 < s.1 + 1 then 1 else 0) + (if bitN v 2 = true ∧ 3 < s.1 + 1 then 1 else 0) := by decide

theorem pc_one {x : Ctlg} (hw : x.wf) (h : catMay x = true) {c d : Nat} (hc : c < x.classes.length) (hd : d < x.classes.length) : sumN (x.one c d) 4 = x.pcB c d := by
  obtain ⟨hs, hg⟩ := catMay_small hw h
  have h4 := hs.2.1
  obtain ⟨b0, b1⟩ := may_brk h c d (by omega) (by omega)
  obtain ⟨v, hv⟩ := Int.eq_ofNat_of_zero_le b0
  have hst : x.stepsN c = x.classes[c].steps.length := Ctlg.stepsN_of hc
  obtain ⟨s0, s4, _⟩ := hs.2.2.1 _ (List.getElem_mem hc)
  obtain ⟨s, hss⟩ : ∃ s, x.classes[c].steps.length = s + 1 := ⟨x.classes[c].steps.length - 1, by omega⟩
  rw [Ctlg.mostB, if_pos ⟨hc, hd⟩, hst, hss, hv] at b1
  have hv2 : v < 2 ^ s := by
    have e : s + 1 - 1 = s := by omega
    rw [e] at b1
    exact_mod_cast b1
  have hv8 : v < 8 := Nat.lt_of_lt_of_le hv2 (by
    have : (2 : Nat) ^ s ≤ 2 ^ 3 := Nat.pow_le_pow_right (by omega) (by omega)
    simpa using this)
  have hin : ∀ k : Nat, k < x.classes.length → x.inn k = true := fun k hk => by
    simp only [Ctlg.inn, Bool.and_eq_true, decide_eq_true_eq]; omega
  have hat : ∀ i : Nat, x.brkAt c d i = (decide (i + 1 < s + 1) && bitN v i) := fun i => by
    simp only [Ctlg.brkAt, hin c hc, hin d hd, Int.toNat_natCast, hst, hss, hv, Bool.true_and]
    congr 1
    rw [Bool.eq_iff_iff]
    simp
  have key := bits_cnt ⟨s, by omega⟩ ⟨v, hv8⟩ hv2
  simp only [Ctlg.pcB, hv, Int.toNat_natCast]
  rw [key]
  simp only [sumN, Ctlg.one, hat]
  have e3 : (decide (3 + 1 < s + 1) && bitN v 3) = false := by
    rw [Bool.and_eq_false_iff]; left; simp; omega
  rw [e3]
  simp only [Bool.and_eq_true, decide_eq_true_eq]
  simp only [and_comm]
  simp

theorem cnt_one {x : Ctlg} (hw : x.wf) (h : catMay x = true) : x.cntB = sumN (fun c => sumN (fun d => sumN (x.one c d) 4) x.classes.length) x.classes.length :=
  sumN_congr _ fun _ hc => sumN_congr _ fun _ hd => (pc_one hw h hc hd).symm

theorem with_may {x : Ctlg} (h : catMay x = true) {l : List Int} (hl : ∀ c d, c < 4 → d < 4 → (x.with l).brkOK c d = true) : catMay (x.with l) = true := by
  simp only [catMay, Bool.and_eq_true] at h ⊢
  refine ⟨h.1, ?_⟩
  rw [List.all_eq_true]
  intro c hc
  rw [List.all_eq_true]
  intro d hd
  exact hl c d (List.mem_range.1 hc) (List.mem_range.1 hd)

theorem turnL_at {n : Nat} (n4 : n ≤ 4) (t : Nat → Nat → Int) {c d : Nat} (hc : c < 4) (hd : d < 4) : ((turnL n t (n * n))[4 * c + d]?).getD 0 = if c < n ∧ d < n then t c d else 0 := by
  have hlt : 4 * c + d < (turnL n t (n * n)).length := by rw [turnL_len]; omega
  rw [List.getElem?_eq_getElem hlt, Option.getD_some, turnL_get, show (4 * c + d) / 4 = c by omega, show (4 * c + d) % 4 = d by omega]
  by_cases h : c < n ∧ d < n
  · have := Nat.mul_le_mul_right n (show c + 1 ≤ n by omega)
    rw [Nat.add_mul] at this
    rw [if_pos h, if_pos ⟨h.1, h.2, by omega⟩]
  · rw [if_neg h, if_neg fun q => h ⟨q.1, q.2.1⟩]

theorem open_may {x : Ctlg} (hw : x.wf) (h : catMay x = true) : catMay (openOf x) = true := by
  obtain ⟨hs, hg⟩ := catMay_small hw h
  refine with_may h fun c d hc hd => ?_
  have hb : (openOf x).brk c d = if c < x.classes.length ∧ d < x.classes.length then openT x c d else 0 := turnL_at hs.2.1 _ hc hd
  show (openOf x).brkOK c d = true
  simp only [Ctlg.brkOK, Bool.and_eq_true, Bool.not_eq_true', decide_eq_false_iff_not, hb]
  have hm : (openOf x).mostB c d = x.mostB c d := rfl
  rw [hm, Ctlg.mostB]
  by_cases hcd : c < x.classes.length ∧ d < x.classes.length
  · rw [if_pos hcd, if_pos hcd, openT, dif_pos hcd.1, Ctlg.stepsN_of hcd.1, Cls.all]
    obtain ⟨s0, s4, _⟩ := hs.2.2.1 _ (List.getElem_mem hcd.1)
    have : x.classes[c].steps.length - 1 = 0 ∨ x.classes[c].steps.length - 1 = 1 ∨ x.classes[c].steps.length - 1 = 2 ∨ x.classes[c].steps.length - 1 = 3 := by omega
    rcases this with e | e | e | e <;> rw [e] <;> decide
  · rw [if_neg hcd, if_neg hcd]; decide
theorem closed_brk (x : Ctlg) (c d : Nat) : (closedOf x).brk c d = 0 := by
  unfold Ctlg.brk closedOf Ctlg.with
  rcases h2 : (List.replicate 16 (0 : Int))[4 * c + d]? with _ | v
  · simp
  · have := List.eq_of_mem_replicate (List.mem_of_getElem? h2)
    simp [this]
theorem closed_may {x : Ctlg} (h : catMay x = true) : catMay (closedOf x) = true := by
  refine with_may h fun c d hc hd => ?_
  show (closedOf x).brkOK c d = true
  have hm : 1 ≤ (closedOf x).mostB c d := by
    rw [Ctlg.mostB]
    split
    · have : (0 : Int) < 2 ^ ((closedOf x).stepsN c - 1) := Int.pow_pos (by decide)
      omega
    · exact Int.le_refl _
  simp only [Ctlg.brkOK, Bool.and_eq_true, Bool.not_eq_true', decide_eq_false_iff_not, closed_brk]
  omega
theorem closed_cnt (x : Ctlg) : (closedOf x).cntB = 0 :=
  sumN_zero _ fun c _ => sumN_zero _ fun d _ => by rw [Ctlg.pcB, closed_brk]; rfl
theorem open_wf {x : Ctlg} (hw : x.wf) (h : catMay x = true) : (openOf x).wf := (open_good (catMay_small hw h).1 (catMay_small hw h).2).wf
theorem closed_wf {x : Ctlg} (hw : x.wf) (h : catMay x = true) : (closedOf x).wf := (closed_good (catMay_small hw h).1 (catMay_small hw h).2).wf
theorem brk_open {x : Ctlg} (hs : x.small) {c d i : Int} (h : x.brkAt c d i = true) : (openOf x).brkAt c d i = true := by
  have h0 := h
  simp only [Ctlg.brkAt, Ctlg.inn, Bool.and_eq_true, decide_eq_true_eq] at h
  obtain ⟨⟨⟨⟨⟨⟨a1, a2⟩, _⟩, ⟨b1, b2⟩, _⟩, i1⟩, i2⟩, _⟩ := h
  obtain ⟨c, rfl⟩ := Int.eq_ofNat_of_zero_le a1
  obtain ⟨d, rfl⟩ := Int.eq_ofNat_of_zero_le b1
  obtain ⟨i, rfl⟩ := Int.eq_ofNat_of_zero_le i1
  have hc : c < x.classes.length := by omega
  rw [open_at hs hc (by omega), decide_eq_true_eq]
  rw [Int.toNat_natCast, Ctlg.stepsN_of hc] at i2
  omega
theorem cnt_open {x : Ctlg} (hw : x.wf) (h : catMay x = true) : x.cntB ≤ (openOf x).cntB := by
  obtain ⟨hs, _⟩ := catMay_small hw h
  rw [cnt_one hw h, cnt_one (open_wf hw h) (open_may hw h)]
  refine sumN_le _ fun c _ => sumN_le _ fun d _ => sumN_le _ fun i _ => ?_
  simp only [Ctlg.one]
  by_cases hb : x.brkAt c d i = true
  · rw [if_pos hb, if_pos (brk_open hs hb)]; exact Nat.le_refl _
  · rw [if_neg hb]; exact Nat.zero_le _
theorem closed_none (x : Ctlg) (c d i : Int) : (closedOf x).brkAt c d i = false := by
  simp [Ctlg.brkAt, closed_brk, bitN]

/-- What is compared where a catalogue may be: each breakpoint with its own low bits. -/
def mayT (x : Ctlg) (c d : Nat) : Int := x.brk c d % 2 ^ (x.stepsN c - 1)
theorem may_turn {x : Ctlg} (n4 : x.classes.length ≤ 4) (hb : x.breaks.length = 16) : decide (x.breaks = turnL x.classes.length (mayT x) (x.classes.length * x.classes.length)) = (List.range 4).all fun c => (List.range 4).all (x.brkOK c) := by
  have hp : ∀ k : Nat, (0 : Int) < 2 ^ k := fun k => Int.pow_pos (by decide)
  rw [Bool.eq_iff_iff, decide_eq_true_eq, List.all_eq_true]
  constructor
  · intro h c hc
    rw [List.all_eq_true]
    intro d hd
    have hc := List.mem_range.1 hc
    have hd := List.mem_range.1 hd
    have hv : x.brk c d = if c < x.classes.length ∧ d < x.classes.length then mayT x c d else 0 := by
      have e : x.brk c d = ((turnL x.classes.length (mayT x) (x.classes.length * x.classes.length))[4 * c + d]?).getD 0 := by rw [Ctlg.brk, ← h]
      rw [e]; exact turnL_at n4 _ hc hd
    simp only [Ctlg.brkOK, Bool.and_eq_true, Bool.not_eq_true', decide_eq_false_iff_not]
    by_cases hcd : c < x.classes.length ∧ d < x.classes.length
    · have hmo : x.mostB c d = 2 ^ (x.stepsN c - 1) := if_pos hcd
      rw [if_pos hcd] at hv
      rw [mayT] at hv
      have := Int.emod_nonneg (x.brk c d) (b := 2 ^ (x.stepsN c - 1)) (by have := hp (x.stepsN c - 1); omega)
      have := Int.emod_lt_of_pos (x.brk c d) (hp (x.stepsN c - 1))
      omega
    · have hmo : x.mostB c d = 1 := if_neg hcd
      rw [if_neg hcd] at hv
      omega
  · intro h
    apply List.ext_getElem
    · rw [hb, turnL_len]
    intro i h1 h2
    have hc : i / 4 < 4 := by omega
    have hd : i % 4 < 4 := by omega
    have hh := h (i / 4) (List.mem_range.2 hc)
    rw [List.all_eq_true] at hh
    have hh := hh (i % 4) (List.mem_range.2 hd)
    simp only [Ctlg.brkOK, Bool.and_eq_true, Bool.not_eq_true', decide_eq_false_iff_not] at hh
    have hi : 4 * (i / 4) + i % 4 = i := by omega
    have ht := turnL_at n4 (mayT x) hc hd
    rw [hi, List.getElem?_eq_getElem h2, Option.getD_some] at ht
    have hx : x.brk (i / 4) (i % 4) = x.breaks[i] := by rw [Ctlg.brk_of hb hc hd]; simp only [hi]
    rw [ht, ← hx]
    by_cases hcd : i / 4 < x.classes.length ∧ i % 4 < x.classes.length
    · have hmo : x.mostB (i / 4) (i % 4) = 2 ^ (x.stepsN (i / 4) - 1) := if_pos hcd
      rw [if_pos hcd, mayT, Int.emod_eq_of_lt] <;> omega
    · have hmo : x.mostB (i / 4) (i % 4) = 1 := if_neg hcd
      rw [if_neg hcd]
      omega

theorem cells_ints : ∀ (l m : List Int), l.length = m.length → cellsEq (List.replicate l.length LK.i) (l.map (AV.int .i64)) (m.map (AV.int .i64)) = some (decide (l = m))
  | [], [], _ => rfl
  | a :: l, b :: m, h => by
    have ih := cells_ints l m (by simpa using h)
    rw [List.length_cons, List.replicate_succ, List.map_cons, List.map_cons]
    simp only [cellsEq, cellEq, if_true, Option.bind_some, ih, Option.map_some]
    congr 1
    rw [Bool.eq_iff_iff]
    simp
  | [], _ :: _, h => by simp at h
  | _ :: _, [], h => by simp at h
end Go.Proofs

/- What is the same as itself: the document's answer. -/
namespace Go.Proofs
open Go Go.RowKit Go.Am

theorem same09_ok (l : List Inst) (hl : l.length ≤ 9223372036854775807) : PCall Try.prog 99 [.sl .no (l.map encInst), .sl .no (l.map encInst)] (.bool true) := by
  refine PCall.run hb99 ok99 (by simp) (pures_cons (elOK_Inst.pureL l) (pures1 (elOK_Inst.pureL l))) (.bool _) ?_
  simp -implicitDefEqProofs []
  refine run_loop (fun n s h => ∃ j : Nat, n = l.length - j ∧ j ≤ l.length ∧ s 0 = .sl .no (l.map encInst) ∧ s 1 = .sl .no (l.map encInst) ∧ s 5 = .int .i64 j) ?_ l.length ?_
  rotate_left
  · exact ⟨0, by simp⟩
  rintro n s h ⟨j, hn, hj, s0, s1, s5⟩ ih
  by_cases hlt : j < l.length
  · simp -implicitDefEqProofs [s0, s5, hlt]
    refine run_dregL c99_d6 rfl ?_
    simp -implicitDefEqProofs [s0, s1, s5, hlt, encInst, inc_i64 hlt hl, -Int.natCast_add]
    exact ih (l.length - (j + 1)) _ _ (by omega) ⟨j + 1, rfl, by omega, by simp [s0], by simp [s1], by simp⟩
  · simp -implicitDefEqProofs [s0, s5, hlt]

theorem same10_ok (l : List SpanT) (hl : l.length ≤ 9223372036854775807) : PCall Try.prog 100 [.sl .no (l.map encSpanT), .sl .no (l.map encSpanT)] (.bool true) := by
  refine PCall.run hb100 ok100 (by simp) (pures_cons (elOK_SpanT.pureL l) (pures1 (elOK_SpanT.pureL l))) (.bool _) ?_
  simp -implicitDefEqProofs []
  refine run_loop (fun n s h => ∃ j : Nat, n = l.length - j ∧ j ≤ l.length ∧ s 0 = .sl .no (l.map encSpanT) ∧ s 1 = .sl .no (l.map encSpanT) ∧ s 5 = .int .i64 j) ?_ l.length ?_
  rotate_left
  · exact ⟨0, by simp⟩
  rintro n s h ⟨j, hn, hj, s0, s1, s5⟩ ih
  by_cases hlt : j < l.length
  · simp -implicitDefEqProofs [s0, s5, hlt]
    refine run_dregL c100_d6 rfl ?_
    simp -implicitDefEqProofs [s0, s1, s5, hlt, encSpanT, inc_i64 hlt hl, -Int.natCast_add]
    exact ih (l.length - (j + 1)) _ _ (by omega) ⟨j + 1, rfl, by omega, by simp [s0], by simp [s1], by simp⟩
  · simp -implicitDefEqProofs [s0, s5, hlt]

theorem sameSteps_ok (l : List Stp) (hl : l.length ≤ 9223372036854775807) (hw : ∀ s ∈ l, s.code.length ≤ 9223372036854775807 ∧ s.foot.length ≤ 9223372036854775807) : PCall Try.prog 42 [.sl .no (l.map encStp), .sl .no (l.map encStp)] (.bool true) := by
  refine PCall.run hb42 ok42 (by simp) (pures_cons (elOK_Stp.pureL l) (pures1 (elOK_Stp.pureL l))) (.bool _) ?_
  simp -implicitDefEqProofs []
  refine run_loop (fun n s h => ∃ j : Nat, n = l.length - j ∧ j ≤ l.length ∧ s 0 = .sl .no (l.map encStp) ∧ s 1 = .sl .no (l.map encStp) ∧ s 5 = .int .i64 j) ?_ l.length ?_
  rotate_left
  · exact ⟨0, by simp⟩
  rintro n s h ⟨j, hn, hj, s0, s1, s5⟩ ih
  by_cases hlt : j < l.length
  · obtain ⟨w1, w2⟩ := hw _ (List.getElem_mem hlt)
    simp -implicitDefEqProofs [s0, s5, hlt]
    refine run_dregL c42_d6 rfl ?_
    simp -implicitDefEqProofs [s0, s1, s5, hlt, encStp]
    refine callC_p (same09_ok l[j].code w1) (by simp) ?_
    simp -implicitDefEqProofs [s0, s1, s5, hlt, encStp]
    refine callC_p (same10_ok l[j].foot w2) (by simp) ?_
    simp -implicitDefEqProofs [s5, inc_i64 hlt hl, -Int.natCast_add]
    exact ih (l.length - (j + 1)) _ _ (by omega) ⟨j + 1, rfl, by omega, by simp [s0], by simp [s1], by simp⟩
  · simp -implicitDefEqProofs [s0, s5, hlt]

theorem same11_ok (c : Cls) (hc : c.wf) : PCall Try.prog 13 [.agg (encCls c), .agg (encCls c)] (.bool true) := by
  refine PCall.run hb13 ok13 (by simp) (pures_cons (.agg (pure_encCls c)) (pures1 (.agg (pure_encCls c)))) (.bool _) ?_
  obtain ⟨hwn, hwa, ⟨hsl, hsw⟩, hcl, hcw⟩ := hc
  have h1 : ∀ s : Stp, s.wf → s.code.length ≤ 9223372036854775807 ∧ s.foot.length ≤ 9223372036854775807 := fun s hs => ⟨hs.1.1, hs.2.1⟩
  simp -implicitDefEqProofs [encCls]
  refine callQ_p (sameSteps_ok c.steps hsl fun s hs => h1 s (hsw s hs)) (by simp) ?_
  simp -implicitDefEqProofs []
  refine callQ_p (sameSteps_ok c.comps hcl fun s hs => h1 s (hcw s hs)) (by simp) ?_
  simp -implicitDefEqProofs []

end Go.Proofs

/- The law of what is read as a class. -/
namespace Go.Proofs
open Go Go.RowKit Go.Am

def aliveK : Cls := ⟨⟨#[97]⟩, 0, [⟨[⟨5, 0, 0, 0, ⟨0, 0⟩, ⟨0, 0⟩, 0⟩], []⟩], [⟨[], []⟩], false⟩
theorem aliveK_wf : aliveK.wf := by
  refine ⟨by decide, by simp [inI, aliveK], ⟨by decide, ?_⟩, by decide, ?_⟩
  · intro y hy
    simp only [aliveK, List.mem_singleton] at hy
    subst hy
    refine ⟨⟨by decide, ?_⟩, by decide, by simp⟩
    intro y hy
    simp only [List.mem_singleton] at hy
    subst hy
    simp [Inst.wf, KeyT.wf, inI]
  · intro y hy
    simp only [aliveK, List.mem_singleton] at hy
    subst hy
    exact ⟨⟨by decide, by simp⟩, by decide, by simp⟩
theorem alive11_ok : PCall Try.prog 9 [] (.bool true) := by
  refine PCall.run hb9 ok9 (by simp) (by simp) (.bool _) ?_
  have hm : clsMay aliveK = true := by decide
  simp -implicitDefEqProofs []
  refine callQ_p (classMay_ok aliveK aliveK_wf) (by simp [encCls, aliveK, encStp, encInst]) ?_
  simp -implicitDefEqProofs [hm]

theorem clsR_wf {s : RS} (hs : Bd s) {c : Cls} {l : List Nat} (h : clsR s = some (c, l)) : c.wf := by
  simp only [clsR, Option.bind_eq_some_iff] at h
  obtain ⟨x, ⟨l0, h1, h2⟩, h3⟩ := h
  split at h3
  · cases h3
    exact rdCls_all l0 c l (hs l0 h1).2 h2
  · cases h3
theorem cls0_wf : cls0.wf := ⟨by decide, by simp [inI, cls0], ⟨by decide, by simp [cls0]⟩, by decide, by simp [cls0]⟩

set_option maxRecDepth 4000 in
theorem classReads_ok (ws : List Nat) (hw : ws.length ≤ 9223372036854775807 ∧ ∀ w ∈ ws, w < 18446744073709551616) : PCall Try.prog 3 [encW ws] (.bool true) := by
  refine PCall.run hb3 ok3 (by simp) (pures1 (pure_w64 ws)) (.bool _) ?_
  simp -implicitDefEqProofs [H.nil]
  refine callQ_p alive11_ok (by simp) ?_
  by_cases h800 : (800 : Int) < ws.length
  · simp -implicitDefEqProofs [h800]
  have hbd : Bd (some ws) := fun l e => by cases e; exact ⟨by omega, hw.2⟩
  simp -implicitDefEqProofs [h800]
  refine callQ_s (newReader_ok ws _) (by simp) ?_
  simp -implicitDefEqProofs [encRS]
  have r0 : RIs (((⟨0, fun _ => none, 0, fun _ => 0, 0, fun _ => none, 0, fun _ => none⟩ : H).alloc [.sl .no (ws.map w64), .bool false]).alloc [.sl .no (ws.map w64), .bool false]) 0 (some ws) := ⟨by simp, by simp [encRS], hbd⟩
  have g1 := classGet_rd r0
  refine callQ_s g1.call (by simp) ?_
  obtain ⟨c, is, s', hv, hs, hcw, his⟩ : ∃ c is s', clsRV (some ws) = .tup [.agg (encCls c), .bool is] ∧ clsRS (some ws) = s' ∧ c.wf ∧ is = s'.isSome := by
    cases hq : clsR (some ws) with
    | none => exact ⟨cls0, false, none, by simp [clsRV, hq], by simp [clsRS, hq], cls0_wf, rfl⟩
    | some x => exact ⟨x.1, true, some x.2, by simp [clsRV, hq], by simp [clsRS, hq], clsR_wf hbd hq, rfl⟩
  have b0 := g1.to.is.bd
  rw [hs] at b0
  have lc : (encCls c).length = 5 := rfl
  have tc : List.take 5 (encCls c) = encCls c := rfl
  simp -implicitDefEqProofs [hv, hs, lc]
  have g2 := fun (X : H) (r1 : RIs X 1 (some ws)) => refClassGet_rd r1
  refine callQ_s (g2 _ ⟨by simp, by simp [encRS], hbd⟩).call (by simp) ?_
  rw [hv, hs]
  simp -implicitDefEqProofs [lc]
  generalize hX : (H.set _ 3 _ : H) = X
  have e0 : X.bx 0 = some (encRS s') := by rw [← hX]; simp
  have e1 : X.bx 1 = some (encRS s') := by rw [← hX]; simp
  have e2 : X.bx 2 = some (encCls c) := by rw [← hX]; simp
  have e3 : X.bx 3 = some (encCls c) := by rw [← hX]; simp
  have n0 : 4 ≤ X.bn := by rw [← hX]; simp
  clear hX
  have ri : RIs X 0 s' := ⟨by omega, e0, b0⟩
  have m0 : 0 < X.bn := by omega
  have m1 : 1 < X.bn := by omega
  have m2 : 2 < X.bn := by omega
  have m3 : 3 < X.bn := by omega
  refine run_dreg c3_d9 ?_
  simp -implicitDefEqProofs [e2, e3, m2, m3, lc, tc]
  refine lcallQ_p (same11_ok c hcw) (by simp) ?_
  cases s' with
  | none =>
    rw [encRS] at e0 e1
    simp -implicitDefEqProofs []
    refine callD_s (rOk_ok ri) (by simp) ?_
    simp -implicitDefEqProofs [e1, m1]
    refine callD_s (rEnd_ok ri) (by simp) ?_
    simp -implicitDefEqProofs [e1, e2, e3, m1, m2, m3, lc, tc, endS]
  | some l =>
    rw [encRS] at e0 e1
    simp -implicitDefEqProofs []
    refine callD_s (rOk_ok ri) (by simp) ?_
    simp -implicitDefEqProofs [e1, m1]
    refine callD_s (rEnd_ok ri) (by simp) ?_
    cases l with
    | nil => simp -implicitDefEqProofs [e1, e2, e3, m1, m2, m3, lc, tc, endS]
    | cons w l => simp -implicitDefEqProofs [e1, e2, e3, m1, m2, m3, lc, tc, endS, show ¬ (l.length : Int) + 1 = 0 by omega]
end Go.Proofs
