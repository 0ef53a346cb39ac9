/- What the functions that the statement reaches do: their contracts; and what follows of it. -/
import Derived.Test.YtdcpendppalkgaaGreatSLintAdvice3
import Derived.Test.YtdcpendppalkgaaGreatSLintAdvice5
import Derived.Test.YtdcpendppalkgaaGreatK4
/- The keys that a span may have. -/
namespace Go.Proofs
open Go Go.RowKit Go.Am

def mostV (k : KeyT) : Int := if k.arg < 0 then k.base else k.base + 99
theorem oneF_keys {s : SpanT} {n : Int} (h : footMay [s] n = true) : mayKey s.lo n = true ∧ mayKey s.hi n = true := by
  simp only [footMay, Bool.and_eq_true, List.all_eq_true] at h
  have := h.2 s (by simp)
  exact this
theorem mayKey_iff2 {k : KeyT} {n : Int} : mayKey k n = true ↔ -1 ≤ k.arg ∧ k.arg < n ∧ 0 ≤ k.base ∧ k.base ≤ 900 := by
  simp only [mayKey, Bool.and_eq_true, decide_eq_true_eq, and_assoc]
/-- What the program says. -/
def spanL (s : SpanT) (n : Int) : List Sp := if footMay [s] n = true then (if s.lo.arg = s.hi.arg ∧ s.hi.base < s.lo.base then [] else plainL [(s.lo.base, mostV s.hi)]) else []

theorem most_ok (k : KeyT) (hk : 0 ≤ k.base ∧ k.base ≤ 900) : PCall Tryz.prog 37 [.agg (encKeyT k)] (.int .i64 (mostV k)) := by
  refine PCall.run hb37 ok37 (by simp) (pures1 (.agg (pure_encKeyT k))) (.int _ _) ?_
  have w : IntKind.i64.wrap (k.base + 99) = k.base + 99 := wrap_i64 (by omega) (by omega)
  by_cases h : k.arg < 0
  · simp -implicitDefEqProofs [encKeyT, H.nil, mostV, h]
  · simp -implicitDefEqProofs [encKeyT, H.nil, mostV, h, w]

theorem lintSpan_ok (s : SpanT) (n : Int) : PCall Tryz.prog 19 [.agg (encSpanT s), .int .i64 n] (encL (spanL s n)) := by
  refine PCall.run hb19 ok19 (by simp) (pures2 (.agg (pure_encSpanT s)) (.int _ _)) (pure_encL _) ?_
  simp -implicitDefEqProofs [encSpanT, H.nil]
  refine callQ_p (footMay_ok [s] n (by simp)) (by simp [encSpanT]) ?_
  cases hm : footMay [s] n
  · simp -implicitDefEqProofs [spanL, hm, encL]
  · obtain ⟨k1, k2⟩ := oneF_keys hm
    have b1 := mayKey_iff2.1 k1
    have b2 := mayKey_iff2.1 k2
    by_cases ha : s.lo.arg = s.hi.arg
    · by_cases hb : s.hi.base < s.lo.base
      · simp -implicitDefEqProofs [spanL, hm, ha, hb, encL]
      · simp -implicitDefEqProofs [ha, hb]
        refine run_dreg c19_d6 ?_
        simp -implicitDefEqProofs []
        refine lcallQ_p (most_ok s.hi ⟨by omega, by omega⟩) (by simp [encKeyT]) ?_
        simp -implicitDefEqProofs []
        refine lcallQ_p (keysPlain_ok [(s.lo.base, mostV s.hi)] (by simp)) (by simp [encL, avP]) ?_
        simp -implicitDefEqProofs [spanL, hm, ha, hb, wk_encL]
    · simp -implicitDefEqProofs [ha]
      refine run_dreg c19_d6 ?_
      simp -implicitDefEqProofs []
      refine lcallQ_p (most_ok s.hi ⟨by omega, by omega⟩) (by simp [encKeyT]) ?_
      simp -implicitDefEqProofs []
      refine lcallQ_p (keysPlain_ok [(s.lo.base, mostV s.hi)] (by simp)) (by simp [encL, avP]) ?_
      simp -implicitDefEqProofs [spanL, hm, ha, wk_encL]

/-! ### The document's -/
def loE (s : SpanT) (a : Int) : Int := if 0 ≤ s.lo.arg then s.lo.base + a else s.lo.base
def hiE (s : SpanT) (a b : Int) : Int := if 0 ≤ s.hi.arg then (if s.hi.arg = s.lo.arg then s.hi.base + a else s.hi.base + b) else s.hi.base
def inR (s : SpanT) (a b : Int) (k : Nat) : Bool := decide (loE s a ≤ k) && decide ((k : Int) ≤ hiE s a b)
def accF (s : SpanT) (a bi : Nat) (k : Nat) : Bool := (List.range a).any (fun x => inR s x 0 k || inR s x 99 k) || (decide (1 ≤ bi) && inR s a 0 k) || (decide (2 ≤ bi) && inR s a 99 k)
theorem accF_all {s : SpanT} {n : Int} (h : footMay [s] n = true) (k : Nat) (hk : k < 1000) : accF s 100 0 k = hasK (spanL s n) k := by
  obtain ⟨k1, k2⟩ := oneF_keys h
  have b1 := mayKey_iff2.1 k1
  have b2 := mayKey_iff2.1 k2
  have e : accF s 100 0 k = (List.range 100).any fun x => inR s x 0 k || inR s x 99 k := by simp [accF]
  rw [e, Bool.eq_iff_iff, List.any_eq_true, spanL, if_pos h]
  simp only [List.mem_range, Bool.or_eq_true, inR, Bool.and_eq_true, decide_eq_true_eq]
  by_cases hx : s.lo.arg = s.hi.arg ∧ s.hi.base < s.lo.base
  · rw [if_pos hx, hasK_nil]
    refine ⟨fun ⟨x, hx1, hx2⟩ => ?_, fun h => by cases h⟩
    exfalso
    obtain ⟨ha, hb⟩ := hx
    simp only [loE, hiE, ha] at hx2
    by_cases h0 : 0 ≤ s.hi.arg
    · simp only [h0, if_true] at hx2; omega
    · simp only [h0, if_false] at hx2; omega
  · rw [if_neg hx, plainL_has, hasK_cons, hasK_nil, Bool.or_false, inS_iff, mayS_iff]
    simp only [mostV, loE, hiE]
    constructor
    · rintro ⟨x, hx1, hx2⟩
      by_cases h0 : 0 ≤ s.hi.arg <;> by_cases h1 : 0 ≤ s.lo.arg <;> by_cases h2 : s.hi.arg = s.lo.arg <;> simp only [h0, h1, h2, if_true, if_false, show (s.hi.arg < 0) = ¬ (0 ≤ s.hi.arg) from propext ⟨fun h => by omega, fun h => by omega⟩, not_true_eq_false, not_false_eq_true] at hx2 ⊢ <;> omega
    · rintro ⟨⟨h3, h4, h5⟩, h6, h7⟩
      by_cases h0 : 0 ≤ s.hi.arg
      · rw [if_neg (show ¬ s.hi.arg < 0 by omega)] at h4 h5 h7
        by_cases h2 : s.hi.arg = s.lo.arg
        · have hle : s.lo.base ≤ s.hi.base := by
            by_cases h : s.hi.base < s.lo.base
            · exact absurd ⟨h2.symm, h⟩ hx
            · omega
          have h1 : 0 ≤ s.lo.arg := by omega
          by_cases hkh : (k : Int) ≤ s.hi.base
          · exact ⟨0, by omega, .inl (by rw [if_pos h1, if_pos h0, if_pos h2]; simp; omega)⟩
          · exact ⟨((k : Int) - s.hi.base).toNat, by omega, .inl (by rw [if_pos h1, if_pos h0, if_pos h2]; omega)⟩
        · refine ⟨0, by omega, .inr ?_⟩
          rw [if_pos h0, if_neg h2]
          by_cases h1 : 0 ≤ s.lo.arg
          · rw [if_pos h1]; simp; omega
          · rw [if_neg h1]; omega
      · rw [if_pos (show s.hi.arg < 0 by omega)] at h4 h5 h7
        refine ⟨0, by omega, .inl ?_⟩
        rw [if_neg h0]
        by_cases h1 : 0 ≤ s.lo.arg
        · rw [if_pos h1]; simp; omega
        · rw [if_neg h1]; omega
end Go.Proofs

/- The statement LintSpans: its function hands back true. -/
namespace Go.Proofs
open Go Go.RowKit Go.Am

theorem alive27f_ok (x y : Int) : PCall Tryz.prog 18 [.int .i64 x, .int .i64 y] (.agg (encKeyT ⟨x, y⟩)) := by
  refine PCall.run hb18 ok18 (by simp) (pures2 (.int _ _) (.int _ _)) (.agg (pure_encKeyT _)) ?_
  simp -implicitDefEqProofs [H.nil, encKeyT]

theorem alive27_ok : PCall Tryz.prog 5 [] (.bool true) := by
  refine PCall.run hb5 ok5 (by simp) (fun v hv => by cases hv) (.bool _) ?_
  have hp : ∀ x y : Int, mayS (x, y) = true → plainL [(x, y)] = [(x, y)] := fun x y h => plainL_plain ⟨fun s hs => by rw [List.mem_singleton.1 hs]; exact h, List.pairwise_singleton _ _⟩
  have e1 : spanL ⟨⟨0, 5⟩, ⟨0, 7⟩, false⟩ 1 = [(5, 106)] := by
    rw [spanL, if_pos (by decide), if_neg (by decide)]
    exact hp 5 106 (by decide)
  have e2 : spanL ⟨⟨0, 5⟩, ⟨-1, 7⟩, false⟩ 1 = [(5, 7)] := by
    rw [spanL, if_pos (by decide), if_neg (by decide)]
    exact hp 5 7 (by decide)
  simp -implicitDefEqProofs []
  refine callQ_p (alive27f_ok 0 5) (by simp) ?_
  simp -implicitDefEqProofs []
  refine callQ_p (alive27f_ok 0 7) (by simp) ?_
  simp -implicitDefEqProofs [encKeyT]
  refine callQ_p (lintSpan_ok ⟨⟨0, 5⟩, ⟨0, 7⟩, false⟩ 1) (by simp [encSpanT]) ?_
  rw [e1]
  simp -implicitDefEqProofs []
  refine callQ_p (alive27f_ok 0 5) (by simp) ?_
  simp -implicitDefEqProofs []
  refine callQ_p (alive27f_ok (-1) 7) (by simp) ?_
  simp -implicitDefEqProofs [encKeyT]
  refine callQ_p (lintSpan_ok ⟨⟨0, 5⟩, ⟨-1, 7⟩, false⟩ 1) (by simp [encSpanT]) ?_
  rw [e2]
  simp -implicitDefEqProofs []
  refine callQ_p (refSame_ok [(5, 106)] [(5, 106)] (by simp) (by simp)) (by simp [encL, avP]) ?_
  simp -implicitDefEqProofs []
  refine callQ_p (refSame_ok [(5, 7)] [(5, 7)] (by simp) (by simp)) (by simp [encL, avP]) ?_
  simp -implicitDefEqProofs []

end Go.Proofs

/- Breakpoints: the document's answer and the program's. -/
namespace Go.Proofs
open Go Go.RowKit Go.Am

def bitN (b i : Nat) : Bool := decide (b / 2 ^ i % 2 = 1)
def Ctlg.inn (x : Ctlg) (c : Int) : Bool := decide (0 ≤ c) && decide (c < (x.classes.length : Int)) && decide (c < 4)
def Ctlg.brkAt (x : Ctlg) (c d i : Int) : Bool := x.inn c && x.inn d && decide (0 ≤ i) && decide (i + 1 < (x.stepsN c.toNat : Int)) && bitN (x.brk c.toNat d.toNat).toNat i.toNat

theorem refBit_ok (b : Nat) (i : Nat) (hb : b < 9223372036854775808) (hi : i < 9223372036854775808) : PCall Tryz.prog 125 [.int .i64 b, .int .i64 i] (.bool (bitN b i)) := by
  refine PCall.run hb125 ok125 (by simp) (pures_cons (.int _ _) (pures1 (.int _ _))) (.bool _) ?_
  simp -implicitDefEqProofs []
  refine run_loop (fun n s h => ∃ j m : Nat, n = i - j ∧ j ≤ i ∧ m = b / 2 ^ j ∧ s 0 = .int .i64 m ∧ s 1 = .int .i64 i ∧ s 5 = .int .i64 j) ?_ i ?_
  · rintro n s h ⟨j, m, hn, hj, hm, h0, h1, h5⟩ ih
    have hd : m ≤ b := hm ▸ Nat.div_le_self _ _
    by_cases hlt : j < i
    · have hq : IntKind.i64.wrap ((m : Int).tdiv 2) = ((m / 2 : Nat) : Int) := by
        rw [Int.tdiv_eq_ediv_of_nonneg (by omega), wrap_i64] <;> omega
      have hq2 : IntKind.i64.wrap ((m : Int) / 2) = (m : Int) / 2 := by
        rw [wrap_i64] <;> omega
      simp -implicitDefEqProofs [h0, h1, h5, hlt, -Int.natCast_ediv, inc_i64 hlt (by omega), -Int.natCast_add]
      exact ih (i - (j + 1)) _ _ (by omega) ⟨j + 1, m / 2, rfl, by omega, by rw [hm, Nat.div_div_eq_div_mul, Nat.pow_succ], by simp [hq2], by simp [h1], by simp⟩
    · obtain rfl : j = i := by omega
      have hr : IntKind.i64.wrap ((m : Int).tmod 2) = ((m % 2 : Nat) : Int) := by
        rw [Int.tmod_eq_emod_of_nonneg (by omega), wrap_i64] <;> omega
      have hr2 : (m : Int).tmod 2 = ((m % 2 : Nat) : Int) := by
        rw [Int.tmod_eq_emod_of_nonneg (by omega)]; omega
      have he : ((m % 2 : Nat) : Int) = 1 ↔ m % 2 = 1 := by omega
      simp -implicitDefEqProofs [h0, h1, h5, hr2, he, -Int.natCast_emod]
      simp [bitN, hm]
  · exact ⟨0, b, by simp⟩

theorem Ctlg.take16 (x : Ctlg) (hb : x.breaks.length = 16) : List.take 16 (x.breaks.map (AV.int .i64)) = x.breaks.map (AV.int .i64) := List.take_of_length_le (by simp [hb])

theorem refBreak_ok (x : Ctlg) (hx : x.wf) (hp : ∀ c d, 0 ≤ x.brk c d) {c d i : Int} (hc : inI c) (hd : inI d) (hi : inI i) : PCall Tryz.prog 123 [.agg (encCtlg x), .int .i64 c, .int .i64 d, .int .i64 i] (.bool (x.brkAt c d i)) := by
  refine PCall.run hb123 ok123 (by simp) (pures_cons (.agg (pure_encCtlg x)) (pures_cons (.int _ _) (pures_cons (.int _ _) (pures1 (.int _ _))))) (.bool _) ?_
  obtain ⟨⟨hcl, hcw⟩, hbl, hbw⟩ := hx
  by_cases a1 : 0 ≤ c
  rotate_left
  · simp -implicitDefEqProofs [encCtlg, Ctlg.brkAt, Ctlg.inn, a1]
  obtain ⟨c, rfl⟩ := Int.eq_ofNat_of_zero_le a1
  by_cases a2 : c < x.classes.length
  rotate_left
  · simp -implicitDefEqProofs [encCtlg, Ctlg.brkAt, Ctlg.inn, a2]
  by_cases a3 : (c : Int) < 4
  rotate_left
  · simp -implicitDefEqProofs [encCtlg, Ctlg.brkAt, Ctlg.inn, a2, a3]
  by_cases b1 : 0 ≤ d
  rotate_left
  · simp -implicitDefEqProofs [encCtlg, Ctlg.brkAt, Ctlg.inn, a2, a3, b1]
  obtain ⟨d, rfl⟩ := Int.eq_ofNat_of_zero_le b1
  by_cases b2 : d < x.classes.length
  rotate_left
  · simp -implicitDefEqProofs [encCtlg, Ctlg.brkAt, Ctlg.inn, a2, a3, b2]
  by_cases b3 : (d : Int) < 4
  rotate_left
  · simp -implicitDefEqProofs [encCtlg, Ctlg.brkAt, Ctlg.inn, a2, a3, b2, b3]
  by_cases i1 : 0 ≤ i
  rotate_left
  · simp -implicitDefEqProofs [encCtlg, Ctlg.brkAt, Ctlg.inn, a2, a3, b2, b3, i1]
  obtain ⟨i, rfl⟩ := Int.eq_ofNat_of_zero_le i1
  have hbk := Ctlg.brk_load (x := x) (.sl .no (x.classes.map encCls)) hbl (show c < 4 by omega) (show d < 4 by omega)
  obtain ⟨b, hbe⟩ := Int.eq_ofNat_of_zero_le (hp c d)
  have hbi : inI (x.brk c d) := by
    rw [Ctlg.brk_of hbl (show c < 4 by omega) (show d < 4 by omega)]
    exact hbw _ (List.getElem_mem _)
  simp only [inI] at hbi hi hbe
  rw [hbe] at hbk hbi
  have hsl := (hcw _ (List.getElem_mem a2)).2.2.1.1
  simp only [maxLen] at hsl
  by_cases i2 : (i : Int) + 1 < x.classes[c].steps.length
  · simp -implicitDefEqProofs [encCtlg, a2, a3, b2, b3, encCls, hbl, hbk, show 1 + c * 4 + d + 1 ≤ 16 + 1 by omega, wrap_i64 (show -9223372036854775808 ≤ (i : Int) + 1 by omega) (by omega), i2]
    refine callQ_p (refBit_ok b i (by omega) (by omega)) (by simp) ?_
    simp -implicitDefEqProofs [Ctlg.brkAt, Ctlg.inn, a2, a3, b2, b3, hbe, Ctlg.stepsN_of a2, i2]
  by_cases i3 : (i : Int) = 9223372036854775807
  · simp -implicitDefEqProofs [encCtlg, a2, a3, b2, b3, encCls, hbl, hbk, show 1 + c * 4 + d + 1 ≤ 16 + 1 by omega, show IntKind.i64.wrap ((i : Int) + 1) = -9223372036854775808 by rw [i3]; decide, show (-9223372036854775808 : Int) < x.classes[c].steps.length by omega]
    refine callQ_p (refBit_ok b i (by omega) (by omega)) (by simp) ?_
    have hz : bitN b i = false := by
      have hb2 : b < 2 ^ i := by
        have h63 : (2 : Nat) ^ 63 ≤ 2 ^ i := Nat.pow_le_pow_right (by omega) (by omega)
        have h64 : (2 : Nat) ^ 63 = 9223372036854775808 := by decide
        rw [h64] at h63
        exact Nat.lt_of_lt_of_le (by omega) h63
      simp [bitN, Nat.div_eq_of_lt hb2]
    simp -implicitDefEqProofs [Ctlg.brkAt, Ctlg.inn, a2, a3, b2, b3, hbe, Ctlg.stepsN_of a2, i2, hz]
  · simp -implicitDefEqProofs [encCtlg, a2, a3, b2, b3, encCls, hbl, wrap_i64 (show -9223372036854775808 ≤ (i : Int) + 1 by omega) (by omega), i2, Ctlg.brkAt, Ctlg.inn, Ctlg.stepsN_of a2]

theorem refThere_ok (x : Ctlg) (_ : x.wf) {c : Int} (_ : inI c) : PCall Tryz.prog 54 [.agg (encCtlg x), .int .i64 c] (.bool (decide (0 ≤ c) && decide (c < (x.classes.length : Int)))) := by
  refine PCall.run hb54 ok54 (by simp) (pures_cons (.agg (pure_encCtlg x)) (pures1 (.int _ _))) (.bool _) ?_
  by_cases a1 : 0 ≤ c
  · simp -implicitDefEqProofs [encCtlg, a1]
  · simp -implicitDefEqProofs [encCtlg, a1]

/-- The unit of a step, as the document counts: how many breakpoints there are before it. -/
def Ctlg.unitN (x : Ctlg) (c d : Int) (i : Nat) : Nat := ((List.range i).filter fun j : Nat => x.brkAt c d j).length

theorem refUnit_ok (x : Ctlg) (hx : x.wf) (hp : ∀ c d, 0 ≤ x.brk c d) {c d : Int} (hc : inI c) (hd : inI d) {i : Nat} (hi : i < 9223372036854775808) : PCall Tryz.prog 116 [.agg (encCtlg x), .int .i64 c, .int .i64 d, .int .i64 i] (.int .i64 (x.unitN c d i)) := by
  refine PCall.run hb116 ok116 (by simp) (pures_cons (.agg (pure_encCtlg x)) (pures_cons (.int _ _) (pures_cons (.int _ _) (pures1 (.int _ _))))) (.int _ _) ?_
  simp -implicitDefEqProofs [encCtlg]
  refine run_loop (fun n s h => ∃ j : Nat, n = i - j ∧ j ≤ i ∧ s 4 = .ptr 0 0 ∧ 0 < h.bn ∧ h.bx 0 = some ([.sl .no (x.classes.map encCls)] ++ x.breaks.map (AV.int .i64)) ∧ s 1 = .int .i64 c ∧ s 2 = .int .i64 d ∧ s 3 = .int .i64 i ∧ s 10 = .int .i64 j ∧ s 9 = .int .i64 (x.unitN c d j)) ?_ i ?_
  · rintro n s h ⟨j, hn, hj, h4, h0, hb, h1, h2, h3, h10, h9⟩ ih
    by_cases hlt : j < i
    · have hle : x.unitN c d j ≤ j := Nat.le_trans (List.length_filter_le _ _) (by simp)
      have hsu : x.unitN c d (j + 1) = x.unitN c d j + (if x.brkAt c d j then 1 else 0) := by
        unfold Ctlg.unitN
        rw [List.range_succ, List.filter_append, List.length_append]
        by_cases h : x.brkAt c d j <;> simp [h]
      simp -implicitDefEqProofs [h4, h0, hb, h1, h2, h3, h10, hlt, hx.2.1]
      refine callQ_p (refBreak_ok x hx hp hc hd (i := j) (by simp only [inI]; omega)) (by simp [encCtlg, x.take16 hx.2.1]) ?_
      cases hbr : x.brkAt c d j
      · simp -implicitDefEqProofs [h10, inc_i64 hlt (by omega), -Int.natCast_add]
        exact ih (i - (j + 1)) _ _ (by omega) ⟨j + 1, rfl, by omega, by simp [h4], by simpa using h0, by simp [hb], by simp [h1], by simp [h2], by simp [h3], by simp, by simp [h9, hsu, hbr]⟩
      · simp -implicitDefEqProofs [h9, h10, inc_i64 hlt (by omega), inc_i64 (show x.unitN c d j < i by omega) (by omega), -Int.natCast_add]
        exact ih (i - (j + 1)) _ _ (by omega) ⟨j + 1, rfl, by omega, by simp [h4], by simpa using h0, by simp [hb], by simp [h1], by simp [h2], by simp [h3], by simp, by simp [hsu, hbr]⟩
    · obtain rfl : j = i := by omega
      simp -implicitDefEqProofs [h3, h10, h9]
  · exact ⟨0, by simp [H.nil, Ctlg.unitN]⟩
end Go.Proofs

/- Units: their bounds, the document's and the program's. -/
namespace Go.Proofs
open Go Go.RowKit Go.Am

/-! ### The plain law -/
def loF (p : Nat → Bool) : Nat → Nat
  | 0 => 0
  | i + 1 => if p i then i + 1 else loF p i
def hiF (p : Nat → Bool) : Nat → Nat → Nat
  | 0, i => i
  | k + 1, i => if p i then i else hiF p k (i + 1)

def Ctlg.lo (x : Ctlg) (c d : Int) (i : Nat) : Nat := loF (fun j : Nat => x.brkAt c d j) i
def Ctlg.hi (x : Ctlg) (c d : Int) (i : Nat) : Nat := hiF (fun j : Nat => x.brkAt c d j) (x.stepsN c.toNat - 1 - i) i
/-! ### The document's -/
/-! ### The program's -/
structure Ctlg.good (x : Ctlg) : Prop where
  wf : x.wf
  n4 : x.classes.length ≤ 4
  s4 : ∀ c (h : c < x.classes.length), x.classes[c].steps.length ≤ 4
  nn : ∀ c d, 0 ≤ x.brk c d

end Go.Proofs

/- Units: their bounds, the program's; whether a place is open. -/
namespace Go.Proofs
open Go Go.RowKit Go.Am

end Go.Proofs

/- Units: the law's own first look; catalogues that are opened and closed. -/
namespace Go.Proofs
open Go Go.RowKit Go.Am

end Go.Proofs

/- Catalogues that are copied. -/
namespace Go.Proofs
open Go Go.RowKit Go.Am

section
variable {α : Type} {enc : α → List AV} {z : Nat}
theorem flatM_len (he : ∀ x, (enc x).length = z) (l : List α) : (l.map enc).flatten.length = l.length * z := by
  rw [flatten_len (z := z) (by simp [he]), List.length_map]
theorem chunks_of (he : ∀ x, (enc x).length = z) : ∀ (l : List α) (r : List AV), chunks z l.length ((l.map enc).flatten ++ r) = l.map enc
  | [], _ => rfl
  | x :: l, r => by
    have e1 : (enc x).length = z := he x
    simp only [List.map_cons, List.flatten_cons, List.length_cons, chunks, List.append_assoc]
    rw [List.take_left' e1, List.drop_left' e1, chunks_of he l]
theorem flat_take (he : ∀ x, (enc x).length = z) : ∀ (l : List α) (j : Nat) (h : j < l.length), List.take z (List.drop (j * z) (l.map enc).flatten) = enc l[j]
  | x :: l, 0, _ => by simp [List.take_left' (he x)]
  | x :: l, j + 1, h => by
    rw [List.map_cons, List.flatten_cons, show (j + 1) * z = (enc x).length + j * z by rw [he x, Nat.add_mul]; omega, ← List.drop_drop, List.drop_left' rfl, flat_take he l j (by simpa using h)]
    rfl
theorem flat_set (he : ∀ x, (enc x).length = z) : ∀ (l : List α) (j : Nat) (y : α), j < l.length → List.take (j * z) (l.map enc).flatten ++ (enc y ++ List.drop (j * z + z) (l.map enc).flatten) = ((l.set j y).map enc).flatten
  | x :: l, 0, y, _ => by simp [List.drop_left' (he x)]
  | x :: l, j + 1, y, h => by
    have ih := flat_set he l j y (by simpa using h)
    rw [List.map_cons, List.flatten_cons, show (j + 1) * z = (enc x).length + j * z by rw [he x, Nat.add_mul]; omega, List.take_length_add_append, Nat.add_assoc, ← List.drop_drop, List.drop_left' rfl, List.append_assoc, ih]
    rfl
end

def Stp.small (s : Stp) : Prop := s.code.length ≤ 8 ∧ s.foot.length ≤ 4

theorem cloneInst_ok (l : List Inst) (hl : l.length ≤ 1000) : PCall Tryz.prog 87 [.sl .no (l.map encInst)] (.sl .no (l.map encInst)) :=
  clone_gen hb87 ok87 _ (by simp) (elOK_Inst.pureL l) (by simp) (by simp; omega)
theorem cloneSpanT_ok (l : List SpanT) (hl : l.length ≤ 1000) : PCall Tryz.prog 88 [.sl .no (l.map encSpanT)] (.sl .no (l.map encSpanT)) :=
  clone_gen hb88 ok88 _ (by simp) (elOK_SpanT.pureL l) (by simp) (by simp; omega)

theorem steps_ok (l : List Stp) (h0 : 0 < l.length) (h4 : l.length ≤ 4) (hs : ∀ s ∈ l, s.small) : PCall Tryz.prog 64 [.sl .no (l.map encStp)] (.sl .no (l.map encStp)) := by
  refine PCall.run' hb64 ok64 (by simp) (pures1 (pure_sl pure_encStp _)) (pure_sl pure_encStp _) (by simp) ?_
  simp -implicitDefEqProofs []
  refine callQ_s (clone_box hb86 ok86 (h := H.nil) (l.map encStp) (by simpa using h0) (by simp) (by
    intro v hv
    simp only [List.mem_flatten, List.mem_map] at hv
    obtain ⟨_, ⟨s, _, rfl⟩, hv⟩ := hv
    exact pure_encStp s v hv) (by simp; omega)) (by simp) ?_
  simp -implicitDefEqProofs [H.nil]
  have hfl : (l.map encStp).flatten.length = l.length * 2 := flatM_len (by simp) l
  refine run_loop (fun n s h => ∃ j : Nat, n = l.length - j ∧ j ≤ l.length ∧ s 3 = .msl 0 2 0 l.length ∧ s 8 = .msl 0 2 0 l.length ∧ 0 < h.bn ∧ h.bx 0 = some (l.map encStp).flatten ∧ s 9 = .int .i64 l.length ∧ s 10 = .int .i64 j) ?_ l.length ?_
  rotate_left
  · exact ⟨0, by simp⟩
  rintro n s h ⟨j, hn, hj, h3, h8, h0, hb, h9, h10⟩ ih
  by_cases hlt : j < l.length
  · have htk := flat_take (z := 2) (enc := encStp) (by simp) l j hlt
    have hle : j * 2 + 2 ≤ l.length * 2 := by omega
    have hsm := hs _ (List.getElem_mem hlt)
    have hset := flat_set (z := 2) (enc := encStp) (by simp) l j l[j] hlt
    rw [List.set_getElem_self] at hset
    simp only [encStp, List.cons_append, List.nil_append] at hset htk
    simp -implicitDefEqProofs [h8, h0, hb, h9, h10, hlt, hfl, hle, htk]
    refine run_dreg c64_d6 ?_
    simp -implicitDefEqProofs [h3]
    refine lcallQ_p (cloneInst_ok l[j].code (by have := hsm.1; omega)) (by simp) ?_
    simp -implicitDefEqProofs []
    refine lcallQ_p (cloneSpanT_ok l[j].foot (by have := hsm.2; omega)) (by simp) ?_
    simp -implicitDefEqProofs [hb, h10, hlt, hfl, hle, hset, show ¬ 0 = h.bn by omega, inc_i64 hlt (by omega), -Int.natCast_add]
    exact ih (l.length - (j + 1)) _ _ (by omega) ⟨j + 1, rfl, by omega, by simp [h3], by simp [h8], by simp, by simp, by simp [h9], by simp⟩
  · simp -implicitDefEqProofs [h3, h9, h10, hlt]
    have := Gh.msl (z := 2) (n := l.length) h0 hb (by omega) (by omega)
    have e := chunks_of (z := 2) (enc := encStp) (by simp) l []
    rw [List.append_nil] at e
    rw [e] at this
    exact ⟨_, this⟩

def Cls.small (c : Cls) : Prop := 0 < c.steps.length ∧ c.steps.length ≤ 4 ∧ c.comps.length = c.steps.length ∧ (∀ s ∈ c.steps, s.small) ∧ ∀ s ∈ c.comps, s.small
def Ctlg.small (x : Ctlg) : Prop := 0 < x.classes.length ∧ x.classes.length ≤ 4 ∧ (∀ c ∈ x.classes, c.small) ∧ x.breaks.length = 16

theorem put_same {F : List AV} {k : Nat} {v : AV} (h : F[k]? = some v) : List.take k F ++ v :: List.drop (k + 1) F = F := by
  obtain ⟨hk, rfl⟩ := List.getElem?_eq_some_iff.1 h
  rw [← List.drop_eq_getElem_cons hk, List.take_append_drop]
theorem flatC_get (l : List Cls) {j k : Nat} (hj : j < l.length) (hk : k < 5) : (l.map encCls).flatten[j * 5 + k]? = some ((encCls l[j])[k]'(by simpa using hk)) := by
  rw [flatten_get (z := 5) (by simp) j k hk, List.getElem?_map, List.getElem?_eq_getElem hj]
  simp []

theorem copied_ok (x : Ctlg) (hx : x.small) : PCall Tryz.prog 42 [.agg (encCtlg x)] (.agg (encCtlg x)) := by
  refine PCall.run' hb42 ok42 (by simp) (pures1 (.agg (pure_encCtlg x))) (.agg (pure_encCtlg x)) (by simp) ?_
  obtain ⟨hn0, hn4, hcs, hbl⟩ := hx
  have htk := x.take16 hbl
  simp -implicitDefEqProofs [encCtlg, hbl]
  refine callQ_s (clone_box hb63 ok63 (x.classes.map encCls) (by simpa using hn0) (by simp) (by
    intro v hv
    simp only [List.mem_flatten, List.mem_map] at hv
    obtain ⟨_, ⟨s, _, rfl⟩, hv⟩ := hv
    exact pure_encCls s v hv) (by simp; omega)) (by simp) ?_
  simp -implicitDefEqProofs [H.nil, hbl]
  have hfl : (x.classes.map encCls).flatten.length = x.classes.length * 5 := flatM_len (by simp) x.classes
  refine run_loop (fun n s h => ∃ j : Nat, n = x.classes.length - j ∧ j ≤ x.classes.length ∧ s 1 = .ptr 0 0 ∧ s 2 = .ptr 1 0 ∧ s 10 = .msl 2 5 0 x.classes.length ∧ 2 < h.bn ∧ h.bx 0 = some (.msl 2 5 0 x.classes.length :: x.breaks.map (AV.int .i64)) ∧ (∃ cs, h.bx 1 = some cs ∧ cs.length = 17) ∧ h.bx 2 = some (x.classes.map encCls).flatten ∧ s 11 = .int .i64 x.classes.length ∧ s 12 = .int .i64 j) ?_ x.classes.length ?_
  rotate_left
  · exact ⟨0, by simp⟩
  rintro n s h ⟨j, hn, hj, h1, h2, h10, h0, hb0, ⟨cs, hb1, hcl⟩, hb2, h11, h12⟩ ih
  by_cases hlt : j < x.classes.length
  · have htk := flat_take (z := 5) (enc := encCls) (by simp) x.classes j hlt
    have hle : j * 5 + 5 ≤ x.classes.length * 5 := by omega
    have hsm := hcs _ (List.getElem_mem hlt)
    have hset := flat_set (z := 5) (enc := encCls) (by simp) x.classes j x.classes[j] hlt
    rw [List.set_getElem_self] at hset
    simp -implicitDefEqProofs [h10, h0, hb2, h11, h12, hlt, hfl, hle, htk]
    refine run_dreg c42_d6 ?_
    simp -implicitDefEqProofs [h1, hb0, show ¬ 0 = h.bn by omega, encCls, show 0 < h.bn + 1 by omega]
    have hst : x.classes[j].steps.length ≤ 4 := hsm.2.1
    refine lcallQ_p (steps_ok x.classes[j].steps hsm.1 hst hsm.2.2.2.1) (by simp) ?_
    simp -implicitDefEqProofs []
    refine lcallQ_p (steps_ok x.classes[j].comps (by rw [hsm.2.2.1]; exact hsm.1) (by rw [hsm.2.2.1]; exact hst) hsm.2.2.2.2) (by simp) ?_
    have hp2 := put_same (flatC_get x.classes hlt (k := 2) (by omega))
    have hp3 := put_same (flatC_get x.classes hlt (k := 3) (by omega))
    simp only [encCls, List.getElem_cons_succ, List.getElem_cons_zero] at hp2 hp3
    simp -implicitDefEqProofs [hb0, hb2, h12, hlt, hfl, show ¬ 2 = h.bn by omega, show ¬ 0 = h.bn by omega, hp2, hp3, inc_i64 hlt (by omega), -Int.natCast_add, show j * 5 + 2 + 1 ≤ x.classes.length * 5 by omega, show 2 < h.bn + 1 by omega, show ¬ h.bn = 2 by omega, encCls]
    refine ⟨by omega, ?_⟩
    exact ih (x.classes.length - (j + 1)) _ _ (by omega) ⟨j + 1, rfl, by omega, by simp [h1], by simp [h2], by simp [h10], by simp; omega, by simp [hb0, show ¬ 0 = h.bn by omega], ⟨cs, by simp [hb1, show ¬ 1 = h.bn by omega], hcl⟩, by simp, by simp [h11], by simp⟩
  · simp -implicitDefEqProofs [h1, h2, hb0, hb1, h11, h12, hlt, hbl, htk, hcl, show 0 < h.bn by omega, show 1 < h.bn by omega]
    have := Gh.aggMsl (z := 5) (n := x.classes.length) (h := h.set 1 (.msl 2 5 0 x.classes.length :: (x.breaks.map (AV.int .i64) ++ List.drop 17 cs))) (b := 2) (cs := (x.classes.map encCls).flatten) (rest := x.breaks.map (AV.int .i64)) (by simpa using h0) (by simp [hb2]) (by omega) (by omega)
    have e := chunks_of (z := 5) (enc := encCls) (by simp) x.classes []
    rw [List.append_nil] at e
    rw [e] at this
    exact ⟨_, this⟩

/-- A catalogue with other breakpoints. -/
def Ctlg.with (x : Ctlg) (l : List Int) : Ctlg := ⟨x.classes, l⟩
def Cls.all (c : Cls) : Int := 2 ^ (c.steps.length - 1) - 1
theorem all_ok (c : Cls) (hc : c.small) : PCall Tryz.prog 41 [.agg (encCls c)] (.int .i64 c.all) := by
  refine PCall.run hb41 ok41 (by simp) (pures1 (.agg (pure_encCls c))) (.int _ _) ?_
  have h := hc
  obtain ⟨h0, h4, _⟩ := h
  have w0 : ∀ k : Nat, k ≤ 15 → IntKind.i64.wrap (k : Int) = k := fun k hk => wrap_i64 (by omega) (by omega)
  have wa := w0 0 (by omega)
  have wb := w0 1 (by omega)
  have wc := w0 2 (by omega)
  have wd := w0 3 (by omega)
  have we := w0 4 (by omega)
  have wf := w0 7 (by omega)
  have wg := w0 8 (by omega)
  simp only [Int.cast_ofNat_Int] at wa wb wc wd we wf wg
  have hl : c.steps.length = 1 ∨ c.steps.length = 2 ∨ c.steps.length = 3 ∨ c.steps.length = 4 := by omega
  rcases hl with hl | hl | hl | hl <;> simp -implicitDefEqProofs [encCls, hl, wa, wb, wc, wd, we, wf, wg, shAmt, IntKind.bits, Cls.all]
end Go.Proofs

/- Pairs of classes, by a function over which one ranges; a catalogue that is opened. -/
namespace Go.Proofs
open Go Go.RowKit Go.Am

theorem pairs_ok (x : Ctlg) (hw : x.breaks.length = 16) (h : H) : SCall Tryz.prog 62 [.agg (encCtlg x)] h (.fn 85 [] [.ptr h.bn 0]) (h.alloc (encCtlg x)) := by
  refine SCall.newG (fun b => .fn 85 [] [.ptr b 0]) (fun _ _ _ _ _ _ _ h1 h2 => Low.fn1 (Low.ptr h1 h2)) (CallP.run hb62 ok62 (by simp) ?_) (pure_encCtlg x)
  have htk := x.take16 hw
  simp -implicitDefEqProofs [encCtlg]
  exact ⟨HF.alloc _ _ _ _, WkL.refl _⟩

/-- One round after the other. -/
theorem pairs1_ok (x : Ctlg) (n4 : x.classes.length ≤ 4) {l b : Nat} {h : H} (I : Nat → H → Prop) (hI : ∀ k h', I k h' → b < h'.bn ∧ h'.bx b = some (encCtlg x))
    (hr : ∀ c d h', c < x.classes.length → d < x.classes.length → I (c * x.classes.length + d) h' → ∀ K : AV → H → Prop, (∀ h'', I (c * x.classes.length + d + 1) h'' → K (.bool true) h'') → callQ Tryz.prog (.yld l) [.int .i64 c, .int .i64 d] h' K)
    (h0 : I 0 h) : CallP Tryz.prog 85 [.yld l, .ptr b 0] h fun _ h1 => I (x.classes.length * x.classes.length) h1 := by
  refine CallP.run hb85 ok85 (by simp) ?_
  obtain ⟨b1, b2⟩ := hI _ _ h0
  have hmn : ¬ (4 : Int) < x.classes.length := by omega
  simp -implicitDefEqProofs [b1, b2, encCtlg, hmn]
  refine run_loop (fun m s h1 => ∃ c : Nat, m = x.classes.length - c ∧ c ≤ x.classes.length ∧ s 0 = .yld l ∧ s 3 = .int .i64 x.classes.length ∧ s 10 = .int .i64 x.classes.length ∧ s 11 = .int .i64 c ∧ I (c * x.classes.length) h1) ?_ x.classes.length ?_
  rotate_left
  · exact ⟨0, by simpa using h0⟩
  rintro m s h1 ⟨c, hn, hc, s0, s3, s10, s11, hi⟩ ih
  by_cases hlc : c < x.classes.length
  · simp -implicitDefEqProofs [s3, s10, s11, hlc]
    refine run_loop (fun m s h1 => ∃ d : Nat, m = x.classes.length - d ∧ d ≤ x.classes.length ∧ s 0 = .yld l ∧ s 3 = .int .i64 x.classes.length ∧ s 10 = .int .i64 x.classes.length ∧ s 11 = .int .i64 c ∧ s 4 = .int .i64 c ∧ s 14 = .int .i64 x.classes.length ∧ s 15 = .int .i64 d ∧ I (c * x.classes.length + d) h1) ?_ x.classes.length ?_
    rotate_left
    · exact ⟨0, by simp [s0, s3, s10, s11, hi]⟩
    rintro m s h1 ⟨d, hn, hd, s0, s3, s10, s11, s4, s14, s15, hi⟩ ih2
    by_cases hld : d < x.classes.length
    · simp -implicitDefEqProofs [s0, s4, s14, s15, hld]
      refine hr c d _ hlc hld hi _ fun h2 hi2 => ?_
      simp -implicitDefEqProofs [s15, inc_i64 hld (by omega), -Int.natCast_add]
      exact ih2 (x.classes.length - (d + 1)) _ _ (by omega) ⟨d + 1, rfl, by omega, by simp [s0], by simp [s3], by simp [s10], by simp [s11], by simp [s4], by simp [s14], by simp, hi2⟩
    · obtain rfl : d = x.classes.length := by omega
      simp -implicitDefEqProofs [s11, s14, s15, inc_i64 hlc (by omega), -Int.natCast_add]
      exact ih (x.classes.length - (c + 1)) _ _ (by omega) ⟨c + 1, rfl, by omega, by simp [s0], by simp [s3], by simp [s10], by simp, by rw [Nat.add_mul, Nat.one_mul]; exact hi⟩
  · obtain rfl : c = x.classes.length := by omega
    simp -implicitDefEqProofs [s10, s11]
    exact hi

/-- The breakpoints that are turned, after so many pairs. -/
def turnL (n : Nat) (t : Nat → Nat → Int) (k : Nat) : List Int := (List.range 16).map fun i => if i / 4 < n ∧ i % 4 < n ∧ i / 4 * n + i % 4 < k then t (i / 4) (i % 4) else 0

theorem turnL_len (n : Nat) (t : Nat → Nat → Int) (k : Nat) : (turnL n t k).length = 16 := by simp [turnL]
theorem turnL_get (n : Nat) (t : Nat → Nat → Int) (k : Nat) {i : Nat} (hi : i < (turnL n t k).length) : (turnL n t k)[i] = if i / 4 < n ∧ i % 4 < n ∧ i / 4 * n + i % 4 < k then t (i / 4) (i % 4) else 0 := by
  simp [turnL]
theorem turnL_step {n : Nat} (n4 : n ≤ 4) (t : Nat → Nat → Int) {c d : Nat} (hc : c < n) (hd : d < n) : List.take (c * 4 + d) ((turnL n t (c * n + d)).map (AV.int .i64)) ++ AV.int .i64 (t c d) :: List.drop (c * 4 + d + 1) ((turnL n t (c * n + d)).map (AV.int .i64)) = (turnL n t (c * n + d + 1)).map (AV.int .i64) := by
  have hl := turnL_len n t (c * n + d)
  have hl2 := turnL_len n t (c * n + d + 1)
  have key : turnL n t (c * n + d + 1) = (turnL n t (c * n + d)).set (c * 4 + d) (t c d) := by
    apply List.ext_getElem
    · simp [hl, hl2]
    intro i h1 h2
    rw [List.getElem_set, turnL_get]
    by_cases h : c * 4 + d = i
    · subst h
      have e1 : (c * 4 + d) / 4 = c := by omega
      have e2 : (c * 4 + d) % 4 = d := by omega
      rw [e1, e2, if_pos ⟨hc, hd, by omega⟩, if_pos rfl]
    · rw [if_neg h, turnL_get]
      have e : (i / 4 < n ∧ i % 4 < n ∧ i / 4 * n + i % 4 < c * n + d + 1) ↔ (i / 4 < n ∧ i % 4 < n ∧ i / 4 * n + i % 4 < c * n + d) := by
        constructor
        · rintro ⟨a, b, e⟩
          refine ⟨a, b, ?_⟩
          have hne : i / 4 * n + i % 4 ≠ c * n + d := fun he => by
            have q1 : i / 4 = c := by
              rcases Nat.lt_trichotomy (i / 4) c with q | q | q
              · have := Nat.mul_le_mul_right n (show i / 4 + 1 ≤ c by omega)
                rw [Nat.add_mul] at this; omega
              · exact q
              · have := Nat.mul_le_mul_right n (show c + 1 ≤ i / 4 by omega)
                rw [Nat.add_mul] at this; omega
            rw [q1] at he
            omega
          omega
        · rintro ⟨a, b, e⟩
          exact ⟨a, b, by omega⟩
      simp only [e]
  rw [key, List.map_set, List.set_eq_take_append_cons_drop, if_pos (by simp [hl]; omega)]

theorem turned_run (x : Ctlg) (n4 : x.classes.length ≤ 4) {h : H} {G : FuncId} {first caps : List AV} (hf : first.map wk = first) (hcp : caps.map wk = caps) (t : Nat → Nat → Int)
    (ht : ∀ c d h', c < x.classes.length → d < x.classes.length → HF h h' (fun _ => False) (fun _ => False) → SCall Tryz.prog G (first ++ [.int .i64 c, .int .i64 d] ++ caps) h' (.int .i64 (t c d)) h')
    {S : Slots} {h5 : H} {Q : Res → Slots → H → Prop} {k : List It} (s3 : S 3 = .ptr (h.bn + 1) 0) (_ : S 4 = .ptr (h.bn + 2) 0) (s5 : S 5 = .ptr (h.bn + 3) 0) (s9 : S 9 = .fn 85 [] [.ptr (h.bn + 4) 0])
    (hln : h5.ln = h.ln) (hbn : h5.bn = h.bn + 5) (b1 : h5.bx (h.bn + 1) = some [.fn G first caps]) (b2 : ∃ cs, h5.bx (h.bn + 2) = some cs ∧ cs.length = 16) (b3 : h5.bx (h.bn + 3) = some ((turnL x.classes.length t 0).map (AV.int .i64))) (b4 : h5.bx (h.bn + 4) = some (encCtlg x)) (hhf : HF h h5 (fun _ => False) (fun _ => False))
    (hk : ∀ h', h.bn + 5 ≤ h'.bn → (∃ cs, h'.bx (h.bn + 2) = some cs ∧ cs.length = 16) → h'.bx (h.bn + 3) = some ((turnL x.classes.length t (x.classes.length * x.classes.length)).map (AV.int .i64)) → HF h h' (fun _ => False) (fun _ => False) → Run Tryz.prog false k Q S h') :
    Run Tryz.prog false (.c (.rngf (.t 9) [10, 11] c39_x7 c39_y8) :: k) Q S h5 := by
  let J : Nat → H → Prop := fun k h' => h.ln < h'.ln ∧ h'.lp h.ln = some ⟨S, [10, 11], c39_x7, c39_y8, .ready, none⟩ ∧ h.bn + 5 ≤ h'.bn ∧ h'.bx (h.bn + 1) = some [.fn G first caps] ∧ (∃ cs, h'.bx (h.bn + 2) = some cs ∧ cs.length = 16) ∧ h'.bx (h.bn + 3) = some ((turnL x.classes.length t k).map (AV.int .i64)) ∧ h'.bx (h.bn + 4) = some (encCtlg x) ∧ HF h h' (fun _ => False) (fun _ => False)
  refine .rngf (Z := fun _ h1 => J (x.classes.length * x.classes.length) h1) (F := 85) (first := []) (caps := [.ptr (h.bn + 4) 0]) rfl (by simpa using s9) (pairs1_ok x n4 J (fun k h' ⟨_, _, q1, _, _, _, q2, _⟩ => ⟨by omega, q2⟩) ?_ ?_) ?_ ?_
  · rintro c d h' hc hd ⟨j1, j2, j3, j4, ⟨cs, j5, j5'⟩, j6, j7, j8⟩ K hK
    rw [hln]
    refine callQ_y (q := ⟨S, [10, 11], c39_x7, c39_y8, .ready, none⟩) j1 j2 rfl ?_
    have hst := turnL_step n4 t hc hd
    have hl := turnL_len x.classes.length t (c * x.classes.length + d)
    simp -implicitDefEqProofs [slotsP, j1, j2]
    refine run_dreg c39_d6 ?_
    simp -implicitDefEqProofs [s3, j4, show h.bn + 1 < h'.bn by omega]
    refine callD_s (ht c d (h'.setLoop h.ln _) hc hd ⟨j8.bn, j8.bx, j8.tn, j8.tk, j8.ln, fun l hl => by simp [show l ≠ h.ln by omega]; exact j8.lp l hl, j8.mn, j8.mp⟩) (by simp [hf, hcp]) ?_
    simp -implicitDefEqProofs [s3, s5, j1, j4, j6, show (c : Int) < 4 by omega, show (d : Int) < 4 by omega, hst, hl, show h.bn + 3 < h'.bn by omega, show c * 4 + d + 1 ≤ 16 by omega, roundQ]
    refine ⟨by omega, hK _ ⟨by simpa using j1, by simp, by simpa using j3, by simp [j4], ⟨cs, by simp [j5], j5'⟩, by simp, by simp [j7], ⟨by simpa using j8.bn, fun b hb hn => by simp [show b ≠ h.bn + 3 by omega]; exact j8.bx b hb hn, j8.tn, j8.tk, j8.ln, fun l hl => ?_, j8.mn, j8.mp⟩⟩⟩
    have : l ≠ h.ln := by omega
    simpa [this] using j8.lp l hl
  · exact ⟨by simp [hln], by simp [hln], by simp [hbn], by simpa using b1, by simpa using b2, by simpa using b3, by simpa using b4, ⟨by simpa using hhf.bn, hhf.bx, hhf.tn, hhf.tk, by simp [hln], fun l hl => by simp [hln, show l ≠ h.ln by omega]; exact hhf.lp l hl, hhf.mn, hhf.mp⟩⟩
  · rintro v h2 ⟨j1, j2, j3, j4, j5, j6, j7, j8⟩
    rw [hln]
    exact ⟨j1, _, j2, by simp⟩
  · rintro v h2 q ⟨j1, j2, j3, j4, j5, j6, j7, j8⟩ hq
    rw [hln] at hq ⊢
    rw [j2] at hq
    cases hq
    exact hk _ (by simpa using j3) (by simpa using j5) (by simpa using j6) ⟨j8.bn, j8.bx, j8.tn, j8.tk, j8.ln, fun l hl => by simp [show l ≠ h.ln by omega]; exact j8.lp l hl, j8.mn, j8.mp⟩

theorem turned_ok (x : Ctlg) (hw : x.breaks.length = 16) (n4 : x.classes.length ≤ 4) {h : H} {G : FuncId} {first caps : List AV} (hf : first.map wk = first) (hcp : caps.map wk = caps) (t : Nat → Nat → Int)
    (ht : ∀ c d h', c < x.classes.length → d < x.classes.length → HF h h' (fun _ => False) (fun _ => False) → SCall Tryz.prog G (first ++ [.int .i64 c, .int .i64 d] ++ caps) h' (.int .i64 (t c d)) h') :
    SCall Tryz.prog 39 [.agg (encCtlg x), .fn G first caps] h (.agg ((turnL x.classes.length t (x.classes.length * x.classes.length)).map (AV.int .i64))) h := by
  refine SCall.ro (CallP.run hb39 ok39 (by simp) ?_) (.agg (pure_arr _))
  have htk := x.take16 hw
  simp -implicitDefEqProofs [encCtlg, htk, hw]
  refine callQ_s (pairs_ok x hw _) (by simp [encCtlg]) ?_
  simp -implicitDefEqProofs []
  have hz : turnL x.classes.length t 0 = List.replicate 16 0 := by simp [turnL, List.replicate, List.range, List.range.loop]
  refine turned_run x n4 (h := h) hf hcp t ht (by simp) (by simp) (by simp) (by simp) (by simp) (by simp) (by simp) (by simp) (by simp [hz, List.replicate]) (by simp [encCtlg]) ((((HF.alloc _ _ _ _).trans (HF.alloc _ _ _ _)).trans (HF.alloc _ _ _ _)).trans ((HF.alloc _ _ _ _).trans (HF.alloc _ _ _ _))) ?_
  rintro h' q1 ⟨cs, q2, q2'⟩ q3 q4
  have hl := turnL_len x.classes.length t (x.classes.length * x.classes.length)
  have htk2 : List.take 16 ((turnL x.classes.length t (x.classes.length * x.classes.length)).map (AV.int .i64)) = (turnL x.classes.length t (x.classes.length * x.classes.length)).map (AV.int .i64) := List.take_of_length_le (by simp [hl])
  simp -implicitDefEqProofs [q2, q3, hl, htk2, q2', show h.bn + 1 + 1 + 1 < h'.bn by omega, show h.bn + 1 + 1 < h'.bn by omega]
  exact q4.trans' (HF.set (B := (· = h.bn + 1 + 1)) _ rfl) (fun b hb e => by have e : b = h.bn + 1 + 1 := e; omega) (fun _ _ h => h)

def openT (x : Ctlg) (c _ : Nat) : Int := if h : c < x.classes.length then x.classes[c].all else 0
def openOf (x : Ctlg) : Ctlg := x.with (turnL x.classes.length (openT x) (x.classes.length * x.classes.length))

theorem open1_ok (x : Ctlg) (hx : x.small) {h : H} {b c d : Nat} (hb : b < h.bn) (hbx : h.bx b = some (encCtlg x)) (hc : c < x.classes.length) : SCall Tryz.prog 43 [.int .i64 c, .int .i64 d, .ptr b 0] h (.int .i64 (openT x c d)) h := by
  refine SCall.ro (CallP.run hb43 ok43 (by simp) ?_) (.int _ _)
  rw [encCtlg] at hbx
  simp -implicitDefEqProofs [hb, hbx, hc]
  refine callQ_p (all_ok x.classes[c] (hx.2.2.1 _ (List.getElem_mem hc))) (by simp) ?_
  simp -implicitDefEqProofs [openT, hc]
  exact HF.refl _ _ _

theorem opened_ok (x : Ctlg) (hx : x.small) : PCall Tryz.prog 25 [.agg (encCtlg x)] (.agg (encCtlg (openOf x))) := by
  refine PCall.run hb25 ok25 (by simp) (pures1 (.agg (pure_encCtlg x))) (.agg (pure_encCtlg _)) ?_
  have htk := x.take16 hx.2.2.2
  have hbl := hx.2.2.2
  simp -implicitDefEqProofs [encCtlg, htk, hbl]
  refine callQ_p (copied_ok x hx) (by simp [encCtlg]) ?_
  simp -implicitDefEqProofs [encCtlg, hbl, H.nil]
  refine callQ_s (turned_ok x hbl hx.2.1 (first := []) (caps := [.ptr 0 0]) rfl (by simp) (openT x) fun c d h' hc hd hf => open1_ok x hx ?_ ?_ hc) (by simp [encCtlg]) ?_
  · have := hf.bn
    simp at this
    omega
  · rw [hf.bx 0 (by simp) (fun h => h)]
    simp [encCtlg, hbl]
  have hl := turnL_len x.classes.length (openT x) (x.classes.length * x.classes.length)
  have hdr : List.drop 16 (x.breaks.map (AV.int .i64)) = [] := by simp [hbl]
  simp -implicitDefEqProofs [hbl, hl, hdr, H.nil]
  exact ⟨rfl, by rw [List.take_of_length_le (by simp [hl]), List.take_of_length_le (by simp [hl])]; rfl⟩
end Go.Proofs

/- What a catalogue that may be is; its opened and its closed one. -/
namespace Go.Proofs
open Go Go.RowKit Go.Am

theorem progMay_len {l : List Inst} {a : Int} (h : progMay l a = true) : l.length ≤ 8 := by
  simp only [progMay, Bool.and_eq_true, Bool.not_eq_true', decide_eq_false_iff_not] at h
  omega
theorem footMay_len {l : List SpanT} {a : Int} (h : footMay l a = true) : l.length ≤ 4 := by
  simp only [footMay, Bool.and_eq_true, Bool.not_eq_true', decide_eq_false_iff_not] at h
  omega
theorem stepMay_small {a : Int} {p : Stp × Stp} (h : stepMay a p = true) : p.1.small ∧ p.2.small := by
  simp only [stepMay, backMay, Bool.and_eq_true, Bool.or_eq_true, Bool.not_eq_true', decide_eq_false_iff_not] at h
  obtain ⟨⟨⟨h1, h2⟩, h3⟩, h4, _⟩ := h
  refine ⟨⟨progMay_len h1, footMay_len h2⟩, ?_, footMay_len h3⟩
  rcases h4 with h | h
  · omega
  · exact progMay_len h
theorem clsMay_small {c : Cls} (h : clsMay c = true) : c.small := by
  simp only [clsMay, Bool.and_eq_true, Bool.not_eq_true', decide_eq_false_iff_not, decide_eq_true_eq] at h
  obtain ⟨⟨⟨_, h5⟩, h6⟩, h7⟩ := h
  have key : ∀ j (h1 : j < c.steps.length) (h2 : j < c.comps.length), c.steps[j].small ∧ c.comps[j].small := fun j h1 h2 => by
    rw [List.all_eq_true] at h7
    have hz : j < (c.steps.zip c.comps).length := by rw [List.length_zip]; omega
    have := stepMay_small (h7 _ (List.getElem_mem hz))
    rwa [List.getElem_zip] at this
  refine ⟨by omega, by omega, h6, fun s hs => ?_, fun s hs => ?_⟩
  · obtain ⟨j, hj, rfl⟩ := List.mem_iff_getElem.1 hs
    exact (key j hj (by omega)).1
  · obtain ⟨j, hj, rfl⟩ := List.mem_iff_getElem.1 hs
    exact (key j (by omega) hj).2
theorem catMay_small {x : Ctlg} (hw : x.wf) (h : catMay x = true) : x.small ∧ x.good := by
  simp only [catMay, Bool.and_eq_true, Bool.not_eq_true', decide_eq_false_iff_not] at h
  obtain ⟨⟨⟨h1, h2⟩, h3⟩, h4⟩ := h
  have hc : ∀ c (h : c < x.classes.length), x.classes[c].small := fun c h => by
    rw [List.all_eq_true] at h3
    have := h3 c (List.mem_range.2 h)
    rw [Bool.and_eq_true, Ctlg.clsOK_of h] at this
    exact clsMay_small this.1
  refine ⟨⟨by omega, by omega, fun c hc' => ?_, hw.2.1⟩, hw, by omega, fun c h => (hc c h).2.1, fun c d => ?_⟩
  · obtain ⟨j, hj, rfl⟩ := List.mem_iff_getElem.1 hc'
    exact hc j hj
  · have hk : ∀ k : Nat, 0 ≤ (x.breaks[k]?).getD 0 := fun k => by
      by_cases hk : k < 16
      · rw [List.all_eq_true] at h4
        have := h4 (k / 4) (List.mem_range.2 (by omega))
        rw [List.all_eq_true] at this
        have := this (k % 4) (List.mem_range.2 (by omega))
        simp only [Ctlg.brkOK, Bool.and_eq_true, Bool.not_eq_true', decide_eq_false_iff_not] at this
        have e : x.brk (k / 4) (k % 4) = (x.breaks[k]?).getD 0 := by rw [Ctlg.brk, show 4 * (k / 4) + k % 4 = k by omega]
        omega
      · rw [List.getElem?_eq_none (by have := hw.2.1; omega)]
        simp
    exact hk _

theorem all_le (c : Cls) (h : c.small) : 0 ≤ c.all ∧ c.all ≤ 7 := by
  obtain ⟨h0, h4, _⟩ := h
  have hl : c.steps.length = 1 ∨ c.steps.length = 2 ∨ c.steps.length = 3 ∨ c.steps.length = 4 := by omega
  rcases hl with hl | hl | hl | hl <;> simp [Cls.all, hl]
theorem openT_le {x : Ctlg} (hx : x.small) (c d : Nat) : 0 ≤ openT x c d ∧ openT x c d ≤ 7 := by
  unfold openT
  split
  · exact all_le _ (hx.2.2.1 _ (List.getElem_mem _))
  · omega
theorem open_at {x : Ctlg} (hx : x.small) {c d : Nat} (hc : c < x.classes.length) (hd : d < x.classes.length) (j : Nat) : (openOf x).brkAt c d j = decide (j + 1 < x.classes[c].steps.length) := by
  have hn := hx.2.1
  have hcl : (openOf x).classes = x.classes := rfl
  have hb : (openOf x).brk c d = x.classes[c].all := by
    rw [Ctlg.brk_of (turnL_len _ _ _) (by omega) (by omega)]
    show (turnL x.classes.length (openT x) (x.classes.length * x.classes.length))[4 * c + d]'(by rw [turnL_len]; omega) = _
    rw [turnL_get, show (4 * c + d) / 4 = c by omega, show (4 * c + d) % 4 = d by omega, if_pos]
    · simp [openT, hc]
    · refine ⟨hc, hd, ?_⟩
      have := Nat.mul_le_mul_right x.classes.length (show c + 1 ≤ x.classes.length by omega)
      rw [Nat.add_mul] at this
      omega
  have hs : (openOf x).stepsN c = x.classes[c].steps.length := Ctlg.stepsN_of (x := openOf x) hc
  have hi : ∀ k : Nat, k < x.classes.length → (openOf x).inn k = true := fun k hk => by
    simp only [Ctlg.inn, hcl, Bool.and_eq_true, decide_eq_true_eq]
    omega
  simp only [Ctlg.brkAt, hi c hc, hi d hd, Int.toNat_natCast, hs, hb, Bool.true_and]
  have hsm := hx.2.2.1 _ (List.getElem_mem hc)
  obtain ⟨h0, h4, _⟩ := hsm
  by_cases hj : j + 1 < x.classes[c].steps.length
  · have hl : x.classes[c].steps.length = 2 ∨ x.classes[c].steps.length = 3 ∨ x.classes[c].steps.length = 4 := by omega
    have hj3 : j = 0 ∨ j = 1 ∨ j = 2 := by omega
    have e1 : decide ((0 : Int) ≤ (j : Nat)) = true := by simp
    have e2 : decide ((j : Int) + 1 < x.classes[c].steps.length) = true := by simp; omega
    rw [e1, e2, decide_eq_true hj]
    rcases hl with hl | hl | hl <;> rcases hj3 with rfl | rfl | rfl <;> first | omega | (simp [Cls.all, hl, bitN])
  · have e2 : decide ((j : Int) + 1 < x.classes[c].steps.length) = false := by simp; omega
    rw [e2, decide_eq_false hj]
    simp
end Go.Proofs
