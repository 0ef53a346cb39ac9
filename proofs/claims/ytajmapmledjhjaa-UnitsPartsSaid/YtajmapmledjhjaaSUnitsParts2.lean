/- What the functions that the statement reaches do: their contracts; and what follows of it. -/
import Derived.Test.YtajmapmledjhjaaSUnitsParts1
/- What a catalogue that may be is; its opened and its closed one. -/
namespace Go.Proofs
open Go Go.RowKit Go.Am

theorem progMay_len {l : List Inst} {a : Int} (h : progMay l a = true) : l.length ≤ 8 := by
  simp only [progMay, Bool.and_eq_true, Bool.not_eq_true', decide_eq_false_iff_not] at h
  omega
theorem footMay_len {l : List SpanT} {a : Int} (h : footMay l a = true) : l.length ≤ 4 := by
  simp only [footMay, Bool.and_eq_true, Bool.not_eq_true', decide_eq_false_iff_not] at h
  omega
theorem stepMay_small {a : Int} {p : Stp × Stp} (h : stepMay a p = true) : p.1.small ∧ p.2.small := by
  simp only [stepMay, backMay, Bool.and_eq_true, Bool.or_eq_true, Bool.not_eq_true', decide_eq_false_iff_not] at h
  obtain ⟨⟨⟨h1, h2⟩, h3⟩, h4, _⟩ := h
  refine ⟨⟨progMay_len h1, footMay_len h2⟩, ?_, footMay_len h3⟩
  rcases h4 with h | h
  · omega
  · exact progMay_len h
theorem clsMay_small {c : Cls} (h : clsMay c = true) : c.small := by
  simp only [clsMay, Bool.and_eq_true, Bool.not_eq_true', decide_eq_false_iff_not, decide_eq_true_eq] at h
  obtain ⟨⟨⟨_, h5⟩, h6⟩, h7⟩ := h
  have key : ∀ j (h1 : j < c.steps.length) (h2 : j < c.comps.length), c.steps[j].small ∧ c.comps[j].small := fun j h1 h2 => by
    rw [List.all_eq_true] at h7
    have hz : j < (c.steps.zip c.comps).length := by rw [List.length_zip]; omega
    have := stepMay_small (h7 _ (List.getElem_mem hz))
    rwa [List.getElem_zip] at this
  refine ⟨by omega, by omega, h6, fun s hs => ?_, fun s hs => ?_⟩
  · obtain ⟨j, hj, rfl⟩ := List.mem_iff_getElem.1 hs
    exact (key j hj (by omega)).1
  · obtain ⟨j, hj, rfl⟩ := List.mem_iff_getElem.1 hs
    exact (key j (by omega) hj).2
theorem catMay_small {x : Ctlg} (hw : x.wf) (h : catMay x = true) : x.small ∧ x.good := by
  simp only [catMay, Bool.and_eq_true, Bool.not_eq_true', decide_eq_false_iff_not] at h
  obtain ⟨⟨⟨h1, h2⟩, h3⟩, h4⟩ := h
  have hc : ∀ c (h : c < x.classes.length), x.classes[c].small := fun c h => by
    rw [List.all_eq_true] at h3
    have := h3 c (List.mem_range.2 h)
    rw [Bool.and_eq_true, Ctlg.clsOK_of h] at this
    exact clsMay_small this.1
  refine ⟨⟨by omega, by omega, fun c hc' => ?_, hw.2.1⟩, hw, by omega, fun c h => (hc c h).2.1, fun c d => ?_⟩
  · obtain ⟨j, hj, rfl⟩ := List.mem_iff_getElem.1 hc'
    exact hc j hj
  · have hk : ∀ k : Nat, 0 ≤ (x.breaks[k]?).getD 0 := fun k => by
      by_cases hk : k < 16
      · rw [List.all_eq_true] at h4
        have := h4 (k / 4) (List.mem_range.2 (by omega))
        rw [List.all_eq_true] at this
        have := this (k % 4) (List.mem_range.2 (by omega))
        simp only [Ctlg.brkOK, Bool.and_eq_true, Bool.not_eq_true', decide_eq_false_iff_not] at this
        have e : x.brk (k / 4) (k % 4) = (x.breaks[k]?).getD 0 := by rw [Ctlg.brk, show 4 * (k / 4) + k % 4 = k by omega]
        omega
      · rw [List.getElem?_eq_none (by have := hw.2.1; omega)]
        simp
    exact hk _

theorem all_le (c : Cls) (h : c.small) : 0 ≤ c.all ∧ c.all ≤ 7 := by
  obtain ⟨h0, h4, _⟩ := h
  have hl : c.steps.length = 1 ∨ c.steps.length = 2 ∨ c.steps.length = 3 ∨ c.steps.length = 4 := by omega
  rcases hl with hl | hl | hl | hl <;> simp [Cls.all, hl]
theorem openT_le {x : Ctlg} (hx : x.small) (c d : Nat) : 0 ≤ openT x c d ∧ openT x c d ≤ 7 := by
  unfold openT
  split
  · exact all_le _ (hx.2.2.1 _ (List.getElem_mem _))
  · omega
theorem turnL_all {n : Nat} {t : Nat → Nat → Int} {k : Nat} {Q : Int → Prop} (h0 : Q 0) (ht : ∀ c d, Q (t c d)) : ∀ y ∈ turnL n t k, Q y := fun y hy => by
  obtain ⟨j, hj, rfl⟩ := List.mem_iff_getElem.1 hy
  rw [turnL_get]
  split
  · exact ht _ _
  · exact h0
theorem with_good {x : Ctlg} (hx : x.small) (hg : x.good) {l : List Int} (hl : l.length = 16) (h : ∀ y ∈ l, 0 ≤ y ∧ y ≤ 7) : (x.with l).good where
  wf := ⟨hg.wf.1, hl, fun y hy => by have := h y hy; simp only [inI]; omega⟩
  n4 := hg.n4
  s4 := hg.s4
  nn := fun c d => by
    unfold Ctlg.brk
    rcases h2 : (x.with l).breaks[4 * c + d]? with _ | v
    · simp
    · exact (h v (List.mem_of_getElem? h2)).1
theorem open_good {x : Ctlg} (hx : x.small) (hg : x.good) : (openOf x).good := with_good hx hg (turnL_len _ _ _) (turnL_all (by omega) (openT_le hx))
theorem closed_good {x : Ctlg} (hx : x.small) (hg : x.good) : (closedOf x).good := with_good hx hg (by simp) (fun y hy => by rw [List.eq_of_mem_replicate hy]; omega)

theorem open_at {x : Ctlg} (hx : x.small) {c d : Nat} (hc : c < x.classes.length) (hd : d < x.classes.length) (j : Nat) : (openOf x).brkAt c d j = decide (j + 1 < x.classes[c].steps.length) := by
  have hn := hx.2.1
  have hcl : (openOf x).classes = x.classes := rfl
  have hb : (openOf x).brk c d = x.classes[c].all := by
    rw [Ctlg.brk_of (turnL_len _ _ _) (by omega) (by omega)]
    show (turnL x.classes.length (openT x) (x.classes.length * x.classes.length))[4 * c + d]'(by rw [turnL_len]; omega) = _
    rw [turnL_get, show (4 * c + d) / 4 = c by omega, show (4 * c + d) % 4 = d by omega, if_pos]
    · simp [openT, hc]
    · refine ⟨hc, hd, ?_⟩
      have := Nat.mul_le_mul_right x.classes.length (show c + 1 ≤ x.classes.length by omega)
      rw [Nat.add_mul] at this
      omega
  have hs : (openOf x).stepsN c = x.classes[c].steps.length := Ctlg.stepsN_of (x := openOf x) hc
  have hi : ∀ k : Nat, k < x.classes.length → (openOf x).inn k = true := fun k hk => by
    simp only [Ctlg.inn, hcl, Bool.and_eq_true, decide_eq_true_eq]
    omega
  simp only [Ctlg.brkAt, hi c hc, hi d hd, Int.toNat_natCast, hs, hb, Bool.true_and]
  have hsm := hx.2.2.1 _ (List.getElem_mem hc)
  obtain ⟨h0, h4, _⟩ := hsm
  by_cases hj : j + 1 < x.classes[c].steps.length
  · have hl : x.classes[c].steps.length = 2 ∨ x.classes[c].steps.length = 3 ∨ x.classes[c].steps.length = 4 := by omega
    have hj3 : j = 0 ∨ j = 1 ∨ j = 2 := by omega
    have e1 : decide ((0 : Int) ≤ (j : Nat)) = true := by simp
    have e2 : decide ((j : Int) + 1 < x.classes[c].steps.length) = true := by simp; omega
    rw [e1, e2, decide_eq_true hj]
    rcases hl with hl | hl | hl <;> rcases hj3 with rfl | rfl | rfl <;> first | omega | (simp [Cls.all, hl, bitN])
  · have e2 : decide ((j : Int) + 1 < x.classes[c].steps.length) = false := by simp; omega
    rw [e2, decide_eq_false hj]
    simp
theorem closed_at (x : Ctlg) (c d : Int) (j : Nat) : (closedOf x).brkAt c d j = false := by
  have hb : ∀ c d, (closedOf x).brk c d = 0 := fun c d => by
    unfold Ctlg.brk closedOf Ctlg.with
    rcases h2 : (List.replicate 16 (0 : Int))[4 * c + d]? with _ | v
    · simp [h2]
    · have := List.eq_of_mem_replicate (List.mem_of_getElem? h2)
      simp [h2, this]
  simp [Ctlg.brkAt, hb, bitN]
end Go.Proofs

/- The laws of units: parts and bounds. -/
namespace Go.Proofs
open Go Go.RowKit Go.Am

theorem lohi_same (p : Nat → Bool) {n i j : Nat} (hi : i < n) (hj1 : loF p i ≤ j) (hj2 : j ≤ hiF p (n - 1 - i) i) : loF p j = loF p i ∧ hiF p (n - 1 - j) j = hiF p (n - 1 - i) i := by
  have g1 := hiF_ge p (n - 1 - i) i
  have l1 := loF_le p i
  have hjn : j < n := by omega
  have gj := hiF_ge p (n - 1 - j) j
  have lj := loF_le p j
  have hcnt := (cntF_iff p hi hjn).2 ⟨hj1, hj2⟩
  have key : ∀ k, k < n → (loF p j ≤ k ∧ k ≤ hiF p (n - 1 - j) j ↔ loF p i ≤ k ∧ k ≤ hiF p (n - 1 - i) i) := fun k hk => by
    rw [← cntF_iff p hjn hk, ← cntF_iff p hi hk, hcnt]
  have a := (key (loF p j) (by omega)).1 ⟨by omega, by omega⟩
  have b := (key (loF p i) (by omega)).2 ⟨by omega, by omega⟩
  have c := (key (hiF p (n - 1 - j) j) (by omega)).1 ⟨by omega, by omega⟩
  have d := (key (hiF p (n - 1 - i) i) (by omega)).2 ⟨by omega, by omega⟩
  omega
theorem loF_start (p : Nat → Bool) {i : Nat} (h : i = 0 ∨ p (i - 1) = true) : loF p i = i := by
  cases i with
  | zero => rfl
  | succ i => simp at h; simp [loF, h]
theorem loF_all {p : Nat → Bool} {n i : Nat} (hi : i < n) (h : ∀ j, p j = decide (j + 1 < n)) : loF p i = i := by
  refine loF_start p ?_
  by_cases h0 : i = 0
  · exact .inl h0
  · right; rw [h]; simp; omega
theorem hiF_all {p : Nat → Bool} {n i : Nat} (hi : i < n) (h : ∀ j, p j = decide (j + 1 < n)) : hiF p (n - 1 - i) i = i := by
  by_cases h0 : i + 1 < n
  · obtain ⟨m, hm⟩ : ∃ m, n - 1 - i = m + 1 := ⟨n - 1 - i - 1, by omega⟩
    rw [hm, hiF, h i, if_pos (by simpa using h0)]
  · rw [show n - 1 - i = 0 by omega]; rfl
theorem loF_none {p : Nat → Bool} (h : ∀ j, p j = false) (i : Nat) : loF p i = 0 := by
  induction i with
  | zero => rfl
  | succ i ih => simp [loF, h, ih]
theorem hiF_none {p : Nat → Bool} (h : ∀ j, p j = false) (k i : Nat) : hiF p k i = i + k := by
  induction k generalizing i with
  | zero => rfl
  | succ k ih => simp only [hiF, h, Bool.false_eq_true, if_false]; rw [ih]; omega

section
variable {x : Ctlg} (hx : x.small) (hg : x.good) {c d : Nat} (hc : c < x.classes.length) (hd : d < x.classes.length)
include hx hc
theorem inn_of : x.inn c = true := by
  have := hx.2.1
  simp only [Ctlg.inn, Bool.and_eq_true, decide_eq_true_eq]
  omega
theorem stN : x.stepsN (c : Int).toNat = x.classes[c].steps.length := by rw [Int.toNat_natCast]; exact Ctlg.stepsN_of hc
include hd
theorem bndV_of {j : Nat} (hj : j < x.classes[c].steps.length) : bndV x c d j = .tup [.int .i64 (x.lo c d j), .int .i64 (x.hi c d j), .bool true] := by
  have h1 : x.inb c d j = true := by
    simp only [Ctlg.inb, inn_of hx hc, inn_of hx hd, stN hx hc, Bool.and_eq_true, decide_eq_true_eq]
    refine ⟨⟨⟨?_, ?_⟩, ?_⟩, ?_⟩ <;> first | trivial | omega
  rw [bndV, if_pos h1, Int.toNat_natCast]
theorem bndV_open {j : Nat} (hj : j < x.classes[c].steps.length) : bndV (openOf x) c d j = .tup [.int .i64 j, .int .i64 j, .bool true] := by
  have ho : (openOf x).small := ⟨hx.1, hx.2.1, hx.2.2.1, turnL_len _ _ _⟩
  rw [bndV_of (x := openOf x) ho hc hd hj]
  have h := open_at hx hc hd
  have e1 : (openOf x).lo c d j = j := loF_all hj h
  have e2 : (openOf x).hi c d j = j := by
    unfold Ctlg.hi
    rw [stN (x := openOf x) ho hc]
    exact hiF_all hj h
  rw [e1, e2]
theorem bndV_closed {j : Nat} (hj : j < x.classes[c].steps.length) : bndV (closedOf x) c d j = .tup [.int .i64 0, .int .i64 (x.classes[c].steps.length - 1 : Nat), .bool true] := by
  have ho : (closedOf x).small := ⟨hx.1, hx.2.1, hx.2.2.1, by simp [closedOf, Ctlg.with]⟩
  rw [bndV_of (x := closedOf x) ho hc hd hj]
  have h := fun j => closed_at x c d j
  have e1 : (closedOf x).lo c d j = 0 := loF_none h j
  have e2 : (closedOf x).hi c d j = x.classes[c].steps.length - 1 := by
    unfold Ctlg.hi
    rw [stN (x := closedOf x) ho hc, hiF_none h]
    show j + (x.classes[c].steps.length - 1 - j) = x.classes[c].steps.length - 1
    omega
  rw [e1, e2]; rfl
omit hd in
theorem lohi_of {i j : Nat} (hi : i < x.classes[c].steps.length) (h1 : x.lo c d i ≤ j) (h2 : j ≤ x.hi c d i) : x.lo c d j = x.lo c d i ∧ x.hi c d j = x.hi c d i := by
  unfold Ctlg.lo Ctlg.hi at *
  rw [stN hx hc] at *
  exact lohi_same _ hi h1 h2
omit hd in
theorem hi_lt {i : Nat} (hi : i < x.classes[c].steps.length) : i ≤ x.hi c d i ∧ x.hi c d i < x.classes[c].steps.length := by
  unfold Ctlg.hi
  rw [stN hx hc]
  have := hiF_ge (fun j : Nat => x.brkAt c d j) (x.classes[c].steps.length - 1 - i) i
  omega
omit hd in
theorem lo_next {i : Nat} (hi : i < x.classes[c].steps.length) (hn : x.hi c d i + 1 < x.classes[c].steps.length) : x.lo c d (x.hi c d i + 1) = x.hi c d i + 1 := by
  have h := hiF_at (fun j : Nat => x.brkAt c d j) (x.classes[c].steps.length - 1 - i) i
  have e : x.hi c d i = hiF (fun j : Nat => x.brkAt c d j) (x.classes[c].steps.length - 1 - i) i := by
    unfold Ctlg.hi; rw [stN hx hc]
  rw [← e] at h
  refine loF_start _ ?_
  rcases h with h | h
  · omega
  · right; simpa using h
end

theorem unitsParts_ok (x : Ctlg) (c d : Int) (hx : x.wf) (hc : inI c) (hd : inI d) : PCall Try.prog 4 [.agg (encCtlg x), .int .i64 c, .int .i64 d] (.bool true) := by
  refine PCall.run hb4 ok4 (by simp) (pures_cons (.agg (pure_encCtlg x)) (pures_cons (.int _ _) (pures1 (.int _ _)))) (.bool _) ?_
  have htk := x.take16 hx.2.1
  have hbl := hx.2.1
  simp -implicitDefEqProofs [encCtlg, htk, hbl]
  refine callQ_p alive14_ok (by simp) ?_
  simp -implicitDefEqProofs [encCtlg, htk, hbl]
  refine callQ_p (refCatMay_ok x hx) (by simp [encCtlg, htk]) ?_
  cases hm : catMay x
  · simp -implicitDefEqProofs []
  obtain ⟨hs, hg⟩ := catMay_small hx hm
  simp -implicitDefEqProofs [htk, hbl]
  refine callQ_p (refThere_ok x hx hc) (by simp [encCtlg, htk]) ?_
  by_cases a1 : 0 ≤ c
  rotate_left
  · simp -implicitDefEqProofs [a1]
  obtain ⟨c, rfl⟩ := Int.eq_ofNat_of_zero_le a1
  by_cases a2 : c < x.classes.length
  rotate_left
  · simp -implicitDefEqProofs [a2]
  simp -implicitDefEqProofs [a2, htk, hbl]
  refine callQ_p (refThere_ok x hx hd) (by simp [encCtlg, htk]) ?_
  by_cases b1 : 0 ≤ d
  rotate_left
  · simp -implicitDefEqProofs [b1]
  obtain ⟨d, rfl⟩ := Int.eq_ofNat_of_zero_le b1
  by_cases b2 : d < x.classes.length
  rotate_left
  · simp -implicitDefEqProofs [b2]
  simp -implicitDefEqProofs [b2, H.nil]
  have hsl := hg.s4 c a2
  refine run_loop (fun n s h => ∃ i : Nat, n = x.classes[c].steps.length - i ∧ i ≤ x.classes[c].steps.length ∧ (i < x.classes[c].steps.length → x.lo c d i = i) ∧ s 3 = .ptr 0 0 ∧ 0 < h.bn ∧ h.bx 0 = some ([.sl .no (x.classes.map encCls)] ++ x.breaks.map (AV.int .i64)) ∧ s 1 = .int .i64 c ∧ s 2 = .int .i64 d ∧ s 7 = .int .i64 i) ?_ x.classes[c].steps.length ?_
  rotate_left
  · exact ⟨0, by simp [Ctlg.lo, loF]⟩
  rintro n s h ⟨i, hn, hi, hlo, s3, h0, hb, s1, s2, s7⟩ ih
  by_cases hlt : i < x.classes[c].steps.length
  · have hlo := hlo hlt
    have hhi := hi_lt (d := d) hs a2 hlt
    simp -implicitDefEqProofs [s3, h0, hb, s1, s2, s7, hlt, a2, idxOf_nat a2, encCls, hbl]
    refine callQ_p (bounds_ok x hg (c := c) (d := d) (i := i) hc hd (by simp only [inI]; omega)) (by simp [encCtlg, htk]) ?_
    have hbv := bndV_of hs a2 b2 hlt
    rw [hlo] at hbv
    generalize hhe : x.hi c d i = hh at *
    simp -implicitDefEqProofs [hbv, s7, show ¬ (hh : Int) < i by omega]
    refine run_loop (fun n s h => ∃ j : Nat, n = hh + 1 - j ∧ i ≤ j ∧ j ≤ hh + 1 ∧ s 3 = .ptr 0 0 ∧ 0 < h.bn ∧ h.bx 0 = some ([.sl .no (x.classes.map encCls)] ++ x.breaks.map (AV.int .i64)) ∧ s 1 = .int .i64 c ∧ s 2 = .int .i64 d ∧ s 7 = .int .i64 i ∧ s 8 = .int .i64 i ∧ s 9 = .int .i64 hh ∧ s 11 = .int .i64 j) ?_ (hh + 1 - i) ?_
    rotate_left
    · exact ⟨i, by simp [s3, h0, hb, s1, s2, s7]; omega⟩
    rintro n s h ⟨j, hn, hj1, hj2, s3, h0, hb, s1, s2, s7, s8, s9, s11⟩ ih2
    by_cases hlj : j ≤ hh
    · have hjs : j < x.classes[c].steps.length := by omega
      obtain ⟨e1, e2⟩ := lohi_of (d := d) hs a2 hlt (j := j) (by omega) (by omega)
      have hbj := bndV_of hs a2 b2 hjs
      rw [e1, e2, hlo, hhe] at hbj
      have hbo := bndV_open hs a2 b2 hjs
      simp -implicitDefEqProofs [s3, h0, hb, s1, s2, s7, s8, s9, s11, hlj, hbl]
      refine callQ_p (bounds_ok x hg (c := c) (d := d) (i := j) hc hd (by simp only [inI]; omega)) (by simp [encCtlg, htk]) ?_
      simp -implicitDefEqProofs [hbj, s3, h0, hb, s1, s2, s7, s8, s9, s11, hbl]
      refine callQ_p (opened_ok x hs) (by simp [encCtlg, htk]) ?_
      simp -implicitDefEqProofs [s3, h0, hb, s1, s2, s7, s8, s9, s11, hbl]
      refine callQ_p (bounds_ok (openOf x) (open_good hs hg) (c := c) (d := d) (i := j) hc hd (by simp only [inI]; omega)) (by simp) ?_
      simp -implicitDefEqProofs [hbo, s3, h0, hb, s1, s2, s7, s8, s9, s11, hbl, show ¬ (j : Int) < i by omega, show ¬ (hh : Int) < j by omega, inc_i64 (show j < hh + 1 by omega) (by omega), -Int.natCast_add, show ¬ j < i by omega, show ¬ hh < j by omega]
      exact ih2 (hh + 1 - (j + 1)) _ _ (by omega) ⟨j + 1, rfl, by omega, by omega, by simp [s3], by simpa using h0, by simp [hb], by simp [s1], by simp [s2], by simp [s7], by simp [s8], by simp [s9], by simp⟩
    · simp -implicitDefEqProofs [s3, h0, hb, s1, s2, s7, s8, s9, s11, hlj, inc_i64 (show hh < x.classes[c].steps.length by omega) (by omega), -Int.natCast_add]
      exact ih (x.classes[c].steps.length - (hh + 1)) _ _ (by omega) ⟨hh + 1, rfl, by omega, fun hl => by rw [← hhe]; exact lo_next (d := d) hs a2 hlt (by omega), by simp [s3], by simpa using h0, by simp [hb], by simp [s1], by simp [s2], by simp⟩
  · obtain rfl : i = x.classes[c].steps.length := by omega
    simp -implicitDefEqProofs [s3, h0, hb, s1, s2, s7, a2, idxOf_nat a2, encCls, hbl]
end Go.Proofs
