/- What the functions that the statement reaches do: their contracts; and what follows of it. -/
import Derived.Test.YtedmjhckiiponaaSUnitsNodes4
import Derived.Test.YtedmjhckiiponaaK4
/- Units: their bounds, the document's and the program's. -/
namespace Go.Proofs
open Go Go.RowKit Go.Am

/-! ### The plain law -/
def loF (p : Nat → Bool) : Nat → Nat
  | 0 => 0
  | i + 1 => if p i then i + 1 else loF p i
def hiF (p : Nat → Bool) : Nat → Nat → Nat
  | 0, i => i
  | k + 1, i => if p i then i else hiF p k (i + 1)

theorem loF_le (p : Nat → Bool) (i : Nat) : loF p i ≤ i := by
  induction i with
  | zero => simp [loF]
  | succ i ih => simp only [loF]; split <;> omega
theorem loF_no (p : Nat → Bool) (i : Nat) : ∀ j, loF p i ≤ j → j < i → p j = false := by
  induction i with
  | zero => intro j _ h; omega
  | succ i ih =>
    intro j h1 h2
    simp only [loF] at h1
    split at h1
    · omega
    · by_cases h : j = i
      · subst h; simp_all
      · exact ih j h1 (by omega)
theorem loF_at (p : Nat → Bool) (i : Nat) : loF p i = 0 ∨ p (loF p i - 1) = true := by
  induction i with
  | zero => simp [loF]
  | succ i ih =>
    simp only [loF]
    split
    · right; simpa
    · exact ih
theorem hiF_ge (p : Nat → Bool) (k i : Nat) : i ≤ hiF p k i ∧ hiF p k i ≤ i + k := by
  induction k generalizing i with
  | zero => simp [hiF]
  | succ k ih =>
    simp only [hiF]
    have := ih (i + 1)
    split <;> omega
theorem hiF_no (p : Nat → Bool) (k i : Nat) : ∀ j, i ≤ j → j < hiF p k i → p j = false := by
  induction k generalizing i with
  | zero => intro j h1 h2; simp only [hiF] at h2; omega
  | succ k ih =>
    intro j h1 h2
    simp only [hiF] at h2
    split at h2
    · omega
    · by_cases h : j = i
      · subst h; simp_all
      · exact ih (i + 1) j (by omega) h2
theorem hiF_at (p : Nat → Bool) (k i : Nat) : hiF p k i = i + k ∨ p (hiF p k i) = true := by
  induction k generalizing i with
  | zero => simp [hiF]
  | succ k ih =>
    simp only [hiF]
    split
    · right; assumption
    · rcases ih (i + 1) with h | h
      · left; omega
      · right; exact h

/-- How many there are below. -/
def cntF (p : Nat → Bool) : Nat → Nat
  | 0 => 0
  | j + 1 => cntF p j + if p j then 1 else 0
theorem cntF_mono (p : Nat → Bool) {a b : Nat} (h : a ≤ b) : cntF p a ≤ cntF p b := by
  induction b with
  | zero => have : a = 0 := by omega
            subst this; exact Nat.le_refl _
  | succ b ih =>
    by_cases hb : a = b + 1
    · subst hb; exact Nat.le_refl _
    · have := ih (by omega)
      simp only [cntF]; omega
theorem cntF_same (p : Nat → Bool) {a b : Nat} (h : a ≤ b) (hn : ∀ j, a ≤ j → j < b → p j = false) : cntF p a = cntF p b := by
  induction b with
  | zero => have : a = 0 := by omega
            subst this; rfl
  | succ b ih =>
    by_cases hb : a = b + 1
    · subst hb; rfl
    · have h1 := ih (by omega) fun j h1 h2 => hn j h1 (by omega)
      have h2 := hn b (by omega) (by omega)
      simp [cntF, h1, h2]
theorem cntF_iff (p : Nat → Bool) {n i k : Nat} (hi : i < n) (hk : k < n) : cntF p k = cntF p i ↔ loF p i ≤ k ∧ k ≤ hiF p (n - 1 - i) i := by
  have l1 := loF_le p i
  have l2 := loF_no p i
  have l3 := loF_at p i
  have g1 := hiF_ge p (n - 1 - i) i
  have g2 := hiF_no p (n - 1 - i) i
  have g3 := hiF_at p (n - 1 - i) i
  generalize loF p i = lo at *
  generalize hiF p (n - 1 - i) i = hh at *
  constructor
  · intro he
    constructor
    · apply Nat.le_of_not_lt
      intro hlt
      rcases l3 with h | h
      · omega
      · have a1 := cntF_mono p (show k ≤ lo - 1 by omega)
        have a2 : cntF p (lo - 1 + 1) = cntF p (lo - 1) + 1 := by simp [cntF, h]
        have a3 := cntF_mono p (show lo - 1 + 1 ≤ i by omega)
        omega
    · apply Nat.le_of_not_lt
      intro hlt
      rcases g3 with h | h
      · omega
      · have a1 := cntF_mono p (show i ≤ hh by omega)
        have a2 : cntF p (hh + 1) = cntF p hh + 1 := by simp [cntF, h]
        have a3 := cntF_mono p (show hh + 1 ≤ k by omega)
        omega
  · rintro ⟨h1, h2⟩
    by_cases hki : k ≤ i
    · exact cntF_same p hki fun j q1 q2 => l2 j (by omega) q2
    · exact (cntF_same p (show i ≤ k by omega) fun j q1 q2 => g2 j q1 (by omega)).symm

theorem Ctlg.unitN_cnt (x : Ctlg) (c d : Int) (i : Nat) : x.unitN c d i = cntF (fun j : Nat => x.brkAt c d j) i := by
  induction i with
  | zero => simp [unitN, cntF]
  | succ i ih =>
    unfold unitN at ih ⊢
    rw [List.range_succ, List.filter_append, List.length_append, ih]
    by_cases h : x.brkAt c d i <;> simp [cntF, h]

def Ctlg.lo (x : Ctlg) (c d : Int) (i : Nat) : Nat := loF (fun j : Nat => x.brkAt c d j) i
def Ctlg.hi (x : Ctlg) (c d : Int) (i : Nat) : Nat := hiF (fun j : Nat => x.brkAt c d j) (x.stepsN c.toNat - 1 - i) i
def Ctlg.inb (x : Ctlg) (c d i : Int) : Bool := x.inn c && x.inn d && decide (0 ≤ i) && decide (i < (x.stepsN c.toNat : Int))
def bndV (x : Ctlg) (c d i : Int) : AV := if x.inb c d i then .tup [.int .i64 (x.lo c d i.toNat), .int .i64 (x.hi c d i.toNat), .bool true] else .tup [.int .i64 0, .int .i64 0, .bool false]

theorem pure_bndV (x : Ctlg) (c d i : Int) : PureV (bndV x c d i) := by
  unfold bndV
  split
  · exact .tup (pures_cons (.int _ _) (pures_cons (.int _ _) (pures1 (.bool _))))
  · exact .tup (pures_cons (.int _ _) (pures_cons (.int _ _) (pures1 (.bool _))))

/-! ### The document's -/
theorem refBounds_ok (x : Ctlg) (hx : x.wf) (hp : ∀ c d, 0 ≤ x.brk c d) (h4 : x.classes.length ≤ 4) {c d i : Int} (hc : inI c) (hd : inI d) (hi : inI i) : PCall Try.prog 30 [.agg (encCtlg x), .int .i64 c, .int .i64 d, .int .i64 i] (bndV x c d i) := by
  refine PCall.run hb30 ok30 (by simp) (pures_cons (.agg (pure_encCtlg x)) (pures_cons (.int _ _) (pures_cons (.int _ _) (pures1 (.int _ _))))) (pure_bndV _ _ _ _) ?_
  have htk := x.take16 hx.2.1
  have hx' := hx
  obtain ⟨⟨hcl, hcw⟩, hbl, hbw⟩ := hx'
  simp -implicitDefEqProofs [encCtlg, htk, hbl]
  refine callQ_p (refThere_ok x hx hc) (by simp [encCtlg]) ?_
  by_cases a1 : 0 ≤ c
  rotate_left
  · simp -implicitDefEqProofs [bndV, Ctlg.inb, Ctlg.inn, a1]
  obtain ⟨c, rfl⟩ := Int.eq_ofNat_of_zero_le a1
  by_cases a2 : c < x.classes.length
  rotate_left
  · simp -implicitDefEqProofs [bndV, Ctlg.inb, Ctlg.inn, a2]
  simp -implicitDefEqProofs [a2, htk, hbl]
  refine callQ_p (refThere_ok x hx hd) (by simp [encCtlg]) ?_
  by_cases b1 : 0 ≤ d
  rotate_left
  · simp -implicitDefEqProofs [bndV, Ctlg.inb, Ctlg.inn, a2, b1]
  obtain ⟨d, rfl⟩ := Int.eq_ofNat_of_zero_le b1
  by_cases b2 : d < x.classes.length
  rotate_left
  · simp -implicitDefEqProofs [bndV, Ctlg.inb, Ctlg.inn, a2, b2]
  by_cases i1 : 0 ≤ i
  rotate_left
  · simp -implicitDefEqProofs [bndV, Ctlg.inb, Ctlg.inn, a2, b2, i1, show i < 0 by omega]
  obtain ⟨i, rfl⟩ := Int.eq_ofNat_of_zero_le i1
  by_cases i2 : i < x.classes[c].steps.length
  rotate_left
  · simp -implicitDefEqProofs [bndV, Ctlg.inb, Ctlg.inn, a2, b2, i2, encCls, Ctlg.stepsN_of a2, show ¬ (i : Int) < 0 by omega, show x.classes[c].steps.length ≤ i by omega]
  have hin : x.inb c d i = true := by
    simp [Ctlg.inb, Ctlg.inn, a2, b2, i2, Ctlg.stepsN_of a2]
    omega
  simp -implicitDefEqProofs [a2, b2, encCls, show ¬ (i : Int) < 0 by omega, show ¬ x.classes[c].steps.length ≤ i by omega, bndV, hin]
  have hsl := (hcw _ (List.getElem_mem a2)).2.2.1.1
  simp only [maxLen] at hsl
  have hlo : x.lo c d i ≤ i := loF_le _ _
  have hhi := hiF_ge (fun j : Nat => x.brkAt c d j) (x.stepsN (c : Int).toNat - 1 - i) i
  have hiff : ∀ k, k < x.classes[c].steps.length → (x.unitN c d k = x.unitN c d i ↔ x.lo c d i ≤ k ∧ k ≤ x.hi c d i) := fun k hk => by
    rw [Ctlg.unitN_cnt, Ctlg.unitN_cnt]
    have := cntF_iff (fun j : Nat => x.brkAt c d j) i2 hk
    simpa [Ctlg.lo, Ctlg.hi, Ctlg.stepsN_of a2] using this
  change i ≤ x.hi c d i ∧ x.hi c d i ≤ _ at hhi
  rw [Int.toNat_natCast, Ctlg.stepsN_of a2] at hhi
  generalize x.lo c d i = lo at *
  generalize x.hi c d i = hh at *
  refine run_loop (fun n s h => ∃ j : Nat, n = x.classes[c].steps.length - j ∧ j ≤ x.classes[c].steps.length ∧ s 4 = .ptr 0 0 ∧ 0 < h.bn ∧ h.bx 0 = some ([.sl .no (x.classes.map encCls)] ++ x.breaks.map (AV.int .i64)) ∧ s 1 = .int .i64 c ∧ s 2 = .int .i64 d ∧ s 3 = .int .i64 i ∧ s 13 = .int .i64 j ∧ s 11 = .int .i64 (if j ≤ lo then -1 else lo) ∧ s 12 = .int .i64 (if j ≤ lo then -1 else if hh < j then hh else j - 1)) ?_ x.classes[c].steps.length ?_
  · rintro n s h ⟨j, hn, hj, h4, h0, hb, h1, h2, h3, h13, h11, h12⟩ ih
    by_cases hlt : j < x.classes[c].steps.length
    · simp -implicitDefEqProofs [h4, h0, hb, h1, h13, hlt, a2, encCls]
      refine run_dregL c30_d7 rfl ?_
      simp -implicitDefEqProofs [h4, h0, hb, h1, h2, h13, hbl]
      refine callC_p (refUnit_ok x hx hp (c := c) (d := d) hc hd (i := j) (by omega)) (by simp [encCtlg, htk]) ?_
      simp -implicitDefEqProofs [h4, h0, hb, h1, h2, h3, hbl]
      refine callC_p (refUnit_ok x hx hp (c := c) (d := d) hc hd (i := i) (by omega)) (by simp [encCtlg, htk]) ?_
      have hif := hiff j hlt
      by_cases hu : x.unitN c d j = x.unitN c d i
      · have hj2 := hif.1 hu
        by_cases hlo2 : j ≤ lo
        · obtain rfl : j = lo := by omega
          simp -implicitDefEqProofs [h13, h11, hu, inc_i64 hlt hsl, -Int.natCast_add]
          exact ih (x.classes[c].steps.length - (j + 1)) _ _ (by omega) ⟨j + 1, rfl, by omega, by simp [h4], by simpa using h0, by simp [hb], by simp [h1], by simp [h2], by simp [h3], by simp, by simp, by
            simp
            omega⟩
        · simp -implicitDefEqProofs [h13, h11, hu, hlo2, show ¬ (lo : Int) < 0 by omega, inc_i64 hlt hsl, -Int.natCast_add]
          exact ih (x.classes[c].steps.length - (j + 1)) _ _ (by omega) ⟨j + 1, rfl, by omega, by simp [h4], by simpa using h0, by simp [hb], by simp [h1], by simp [h2], by simp [h3], by simp, by simp [h11, hlo2, show ¬ j + 1 ≤ lo by omega], by
            simp [show ¬ j + 1 ≤ lo by omega]
            omega⟩
      · have hj2 : ¬ (lo ≤ j ∧ j ≤ hh) := fun h => hu (hif.2 h)
        simp -implicitDefEqProofs [h13, hu, inc_i64 hlt hsl, -Int.natCast_add]
        exact ih (x.classes[c].steps.length - (j + 1)) _ _ (by omega) ⟨j + 1, rfl, by omega, by simp [h4], by simpa using h0, by simp [hb], by simp [h1], by simp [h2], by simp [h3], by simp, by
          simp [h11]
          split <;> split <;> omega, by
          simp [h12]
          (repeat' split) <;> omega⟩
    · obtain rfl : j = x.classes[c].steps.length := by omega
      simp -implicitDefEqProofs [h4, h0, hb, h1, h13, h11, h12, a2, encCls]
      exact ⟨by omega, by rw [if_neg (by omega), if_pos (by omega)]⟩
  · exact ⟨0, by simp [H.nil]⟩

/-! ### The program's -/
theorem break1_ok (x : Ctlg) {h : H} {b : Nat} (hb : b < h.bn) (hx : h.bx b = some (encCtlg x)) {c : Int} : SCall Try.prog 78 [.int .i64 c, .ptr b 0] h (.bool (x.inn c)) h := by
  refine SCall.ro (CallP.run hb78 ok78 (by simp) ?_) (.bool _)
  simp only [encCtlg] at hx
  by_cases a1 : 0 ≤ c
  · simp -implicitDefEqProofs [hb, hx, a1, Ctlg.inn]
    exact ⟨by rw [Bool.eq_iff_iff]; simp; split <;> omega, HF.refl _ _ _⟩
  · simp -implicitDefEqProofs [a1, Ctlg.inn]
    exact HF.refl _ _ _

theorem bit_and {b i : Nat} (hb : b < 9223372036854775808) (hi : i ≤ 64) : IntKind.i64.wrap (((((b : Int).fdiv (2 ^ shAmt IntKind.i64 i) % 2 ^ IntKind.i64.bits).toNat &&& ((1 : Int) % 2 ^ IntKind.i64.bits).toNat : Nat)) : Int) = ((b / 2 ^ i % 2 : Nat) : Int) := by
  have e1 : shAmt IntKind.i64 (i : Int) = i := by simp only [shAmt, Int.toNat_natCast]; exact Nat.min_eq_left hi
  have e2 : (b : Int).fdiv (2 ^ i) = ((b / 2 ^ i : Nat) : Int) := by
    rw [Int.fdiv_eq_ediv_of_nonneg _ (by exact Int.pow_nonneg (by omega))]
    push_cast
    rfl
  have e3 : IntKind.i64.bits = 64 := rfl
  have hq : b / 2 ^ i ≤ b := Nat.div_le_self _ _
  rw [e1, e2, e3]
  generalize b / 2 ^ i = q at hq ⊢
  have e5 : ((q : Int) % 2 ^ 64).toNat = q := by omega
  have e6 : ((1 : Int) % 2 ^ 64).toNat = 1 := by decide
  rw [e5, e6, Nat.and_one_is_mod, wrap_i64] <;> omega

structure Ctlg.good (x : Ctlg) : Prop where
  wf : x.wf
  n4 : x.classes.length ≤ 4
  s4 : ∀ c (h : c < x.classes.length), x.classes[c].steps.length ≤ 4
  nn : ∀ c d, 0 ≤ x.brk c d

theorem break_ok (x : Ctlg) (hx : x.good) {c d i : Int} (hc : inI c) (hd : inI d) (hi : inI i) : PCall Try.prog 37 [.agg (encCtlg x), .int .i64 c, .int .i64 d, .int .i64 i] (.bool (x.brkAt c d i)) := by
  refine PCall.run hb37 ok37 (by simp) (pures_cons (.agg (pure_encCtlg x)) (pures_cons (.int _ _) (pures_cons (.int _ _) (pures1 (.int _ _))))) (.bool _) ?_
  obtain ⟨hw, h4, hs4, hnn⟩ := hx
  have htk := x.take16 hw.2.1
  have hbl := hw.2.1
  have hcw := hw.1.2
  simp -implicitDefEqProofs [encCtlg]
  refine callQ_s (break1_ok x (c := c) (b := 0) (by simp [H.nil]) (by simp [H.nil, encCtlg])) (by simp [H.nil]) ?_
  cases ec : x.inn c
  · simp -implicitDefEqProofs [Ctlg.brkAt, ec]
  simp -implicitDefEqProofs []
  refine callQ_s (break1_ok x (c := d) (b := 0) (by simp [H.nil]) (by simp [H.nil, encCtlg])) (by simp [H.nil]) ?_
  cases ed : x.inn d
  · simp -implicitDefEqProofs [Ctlg.brkAt, ec, ed]
  simp only [Ctlg.inn, Bool.and_eq_true, decide_eq_true_eq] at ec ed
  obtain ⟨⟨a1, a2⟩, a3⟩ := ec
  obtain ⟨⟨b1, b2⟩, b3⟩ := ed
  obtain ⟨c, rfl⟩ := Int.eq_ofNat_of_zero_le a1
  obtain ⟨d, rfl⟩ := Int.eq_ofNat_of_zero_le b1
  have a2 : c < x.classes.length := by omega
  have b2 : d < x.classes.length := by omega
  by_cases i1 : 0 ≤ i
  rotate_left
  · simp -implicitDefEqProofs [Ctlg.brkAt, i1, show i < 0 by omega]
  obtain ⟨i, rfl⟩ := Int.eq_ofNat_of_zero_le i1
  have hsl := hs4 c a2
  have hw1 : IntKind.i64.wrap ((x.classes[c].steps.length : Int) - 1) = (x.classes[c].steps.length : Int) - 1 := wrap_i64 (by omega) (by omega)
  by_cases i2 : i + 1 < x.classes[c].steps.length
  rotate_left
  · simp -implicitDefEqProofs [Ctlg.brkAt, a2, encCls, Ctlg.stepsN_of a2, hw1, show ¬ (i : Int) < 0 by omega, show (x.classes[c].steps.length : Int) - 1 ≤ i by omega, show ¬ (i : Int) + 1 < x.classes[c].steps.length by omega]
  have hbk := Ctlg.brk_load (x := x) (.sl .no (x.classes.map encCls)) hbl (show c < 4 by omega) (show d < 4 by omega)
  obtain ⟨b, hbe⟩ := Int.eq_ofNat_of_zero_le (hnn c d)
  simp -implicitDefEqProofs [a2, a3, b3, encCls, hw1, show ¬ (i : Int) < 0 by omega, show ¬ (x.classes[c].steps.length : Int) - 1 ≤ i by omega, hbk, hbl, show 1 + c * 4 + d + 1 ≤ 16 + 1 by omega, hbe, H.nil]
  have hbb : b < 9223372036854775808 := by
    have hbi : inI (x.brk c d) := by
      rw [Ctlg.brk_of hbl (show c < 4 by omega) (show d < 4 by omega)]
      exact hw.2.2 _ (List.getElem_mem _)
    rw [hbe] at hbi
    simp only [inI] at hbi
    omega
  have hand := bit_and (i := i) hbb (by omega)
  rw [hand]
  have he : ((b / 2 ^ i % 2 : Nat) : Int) = 1 ↔ b / 2 ^ i % 2 = 1 := by omega
  simp only [he]
  simp [Ctlg.brkAt, Ctlg.inn, a2, b2, a3, b3, Ctlg.stepsN_of a2, hbe, bitN, show (i : Int) + 1 < x.classes[c].steps.length by omega]
end Go.Proofs

/- Units: their bounds, the program's; whether a place is open. -/
namespace Go.Proofs
open Go Go.RowKit Go.Am

theorem bounds_ok (x : Ctlg) (hx : x.good) {c d i : Int} (hc : inI c) (hd : inI d) (hi : inI i) : PCall Try.prog 23 [.agg (encCtlg x), .int .i64 c, .int .i64 d, .int .i64 i] (bndV x c d i) := by
  refine PCall.run hb23 ok23 (by simp) (pures_cons (.agg (pure_encCtlg x)) (pures_cons (.int _ _) (pures_cons (.int _ _) (pures1 (.int _ _))))) (pure_bndV _ _ _ _) ?_
  have hx' := hx
  obtain ⟨hw, h4, hs4, hnn⟩ := hx'
  have htk := x.take16 hw.2.1
  have hbl := hw.2.1
  simp -implicitDefEqProofs [encCtlg, htk, hbl]
  refine callQ_p (there_ok x hw hc) (by simp [encCtlg]) ?_
  cases ec : x.inn c
  · simp -implicitDefEqProofs [bndV, Ctlg.inb, ec]
  simp -implicitDefEqProofs [htk, hbl]
  refine callQ_p (there_ok x hw hd) (by simp [encCtlg]) ?_
  cases ed : x.inn d
  · simp -implicitDefEqProofs [bndV, Ctlg.inb, ec, ed]
  have ec' := ec
  simp only [Ctlg.inn, Bool.and_eq_true, decide_eq_true_eq] at ec'
  obtain ⟨⟨a1, a2⟩, a3⟩ := ec'
  obtain ⟨c, rfl⟩ := Int.eq_ofNat_of_zero_le a1
  have a2 : c < x.classes.length := by omega
  by_cases i1 : 0 ≤ i
  rotate_left
  · simp -implicitDefEqProofs [bndV, Ctlg.inb, i1, show i < 0 by omega]
  obtain ⟨i, rfl⟩ := Int.eq_ofNat_of_zero_le i1
  have hsl := hs4 c a2
  by_cases i2 : i < x.classes[c].steps.length
  rotate_left
  · simp -implicitDefEqProofs [bndV, Ctlg.inb, a2, i2, encCls, Ctlg.stepsN_of a2, show ¬ (i : Int) < 0 by omega, show x.classes[c].steps.length ≤ i by omega]
  have hin : x.inb c d i = true := by
    simp [Ctlg.inb, ec, ed, i2, Ctlg.stepsN_of a2]
  simp -implicitDefEqProofs [a2, encCls, show ¬ (i : Int) < 0 by omega, show ¬ x.classes[c].steps.length ≤ i by omega, bndV, hin]
  refine run_loop (fun n s h => ∃ j : Nat, n = j ∧ j ≤ i ∧ s 4 = .ptr 0 0 ∧ 0 < h.bn ∧ h.bx 0 = some ([.sl .no (x.classes.map encCls)] ++ x.breaks.map (AV.int .i64)) ∧ s 1 = .int .i64 c ∧ s 2 = .int .i64 d ∧ s 12 = .int .i64 i ∧ s 11 = .int .i64 j ∧ x.lo c d i = x.lo c d j) ?_ i ?_
  rotate_left
  · exact ⟨i, by simp [H.nil]⟩
  rintro n s h ⟨j, hn, hj, h4, h0, hb, h1, h2, h12, h11, hlo⟩ ih
  by_cases hj0 : j = 0
  focus
    subst hj0
    have h11' : s 11 = .int .i64 (x.lo c d i) := by rw [h11, hlo]; simp [Ctlg.lo, loF]
    simp -implicitDefEqProofs [h11]
  rotate_left
  focus
    obtain ⟨k, hjk⟩ : ∃ k, j = k + 1 := ⟨j - 1, by omega⟩
    have hw1 : IntKind.i64.wrap ((j : Int) - 1) = (k : Int) := by rw [wrap_i64] <;> omega
    simp -implicitDefEqProofs [h4, h0, hb, h1, h2, h11, hbl, hw1, show 0 < j by omega]
    refine callQ_p (break_ok x hx (c := c) (d := d) hc hd (i := k) (by simp only [inI]; omega)) (by simp [encCtlg, htk]) ?_
    rw [hjk] at hlo
    cases hbr : x.brkAt c d k
    · simp -implicitDefEqProofs [h11, hw1]
      exact ih k _ _ (by omega) ⟨k, rfl, by omega, by simp [h4], by simpa using h0, by simp [hb], by simp [h1], by simp [h2], by simp [h12], by simp, by
        rw [hlo]
        simp [Ctlg.lo, loF, hbr]⟩
    have h11' : s 11 = .int .i64 (x.lo c d i) := by rw [h11, hlo, hjk]; simp [Ctlg.lo, loF, hbr]
    simp -implicitDefEqProofs []
  all_goals
    have hlo2 : x.lo c d i ≤ i := loF_le _ _
    refine run_loop (fun n s h => ∃ j : Nat, n = x.classes[c].steps.length - j ∧ j < x.classes[c].steps.length ∧ s 4 = .ptr 0 0 ∧ 0 < h.bn ∧ h.bx 0 = some ([.sl .no (x.classes.map encCls)] ++ x.breaks.map (AV.int .i64)) ∧ s 1 = .int .i64 c ∧ s 2 = .int .i64 d ∧ s 11 = .int .i64 (x.lo c d i) ∧ s 12 = .int .i64 j ∧ x.hi c d i = x.hi c d j) ?_ (x.classes[c].steps.length - i) ?_
    rotate_left
    · exact ⟨i, by simp [h4, h0, hb, h1, h2, h11', h12, i2]⟩
    clear ih h4 h0 hb h1 h2 h11 h12 h11' hlo
    rintro n s h ⟨j, hn, hj, h4, h0, hb, h1, h2, h11, h12, hhi⟩ ih
    have hw1 : IntKind.i64.wrap ((j : Int) + 1) = ((j + 1 : Nat) : Int) := by rw [wrap_i64] <;> omega
    by_cases hj0 : j + 1 < x.classes[c].steps.length
    · simp -implicitDefEqProofs [h4, h0, hb, h1, h2, h12, hbl, hw1, hj0, a2, encCls, -Int.natCast_add]
      refine callQ_p (break_ok x hx (c := c) (d := d) hc hd (i := j) (by simp only [inI]; omega)) (by simp [encCtlg, htk]) ?_
      have hhj : x.hi c d j = if x.brkAt c d j then j else x.hi c d (j + 1) := by
        unfold Ctlg.hi
        simp only [Int.toNat_natCast, Ctlg.stepsN_of a2]
        obtain ⟨m, hm⟩ : ∃ m, x.classes[c].steps.length - 1 - j = m + 1 := ⟨x.classes[c].steps.length - 1 - j - 1, by omega⟩
        rw [hm, show x.classes[c].steps.length - 1 - (j + 1) = m by omega]
        rfl
      cases hbr : x.brkAt c d j
      · simp -implicitDefEqProofs [h12, hw1, -Int.natCast_add]
        exact ih (x.classes[c].steps.length - (j + 1)) _ _ (by omega) ⟨j + 1, rfl, by omega, by simp [h4], by simpa using h0, by simp [hb], by simp [h1], by simp [h2], by simp [h11], by simp, by
          rw [hhi, hhj, hbr]; rfl⟩
      · have : x.hi c d i = j := by rw [hhi, hhj, hbr]; rfl
        simp -implicitDefEqProofs [h11, h12, this]
    · have : x.hi c d i = j := by
        rw [hhi]
        unfold Ctlg.hi
        simp only [Int.toNat_natCast, Ctlg.stepsN_of a2]
        rw [show x.classes[c].steps.length - 1 - j = 0 by omega]
        rfl
      simp -implicitDefEqProofs [h4, h0, hb, h1, h11, h12, hbl, hw1, hj0, a2, encCls, this, -Int.natCast_add]

/-- Is the place before a step open? -/
def Ctlg.openAt (x : Ctlg) (c d i : Int) : Bool := x.inb c d (i - 1) && decide (i - 1 < (x.hi c d (i - 1).toNat : Int))
theorem open_ok (x : Ctlg) (hx : x.good) {c d i : Int} (hc : inI c) (hd : inI d) (hi : inI i) : PCall Try.prog 31 [.agg (encCtlg x), .int .i64 c, .int .i64 d, .int .i64 i] (.bool (x.openAt c d i)) := by
  refine PCall.run hb31 ok31 (by simp) (pures_cons (.agg (pure_encCtlg x)) (pures_cons (.int _ _) (pures_cons (.int _ _) (pures1 (.int _ _))))) (.bool _) ?_
  have htk := x.take16 hx.wf.2.1
  have hbl := hx.wf.2.1
  have hdec : decide (i - 1 < (x.hi c d (i - 1).toNat : Int)) = decide (i - 1 < (x.hi c d (i - 1).toNat : Int)) := rfl
  by_cases him : i = -9223372036854775808
  · have hw : IntKind.i64.wrap (i - 1) = 9223372036854775807 := by rw [him]; decide
    simp -implicitDefEqProofs [encCtlg, htk, hbl, hw]
    refine callQ_p (bounds_ok x hx hc hd (i := 9223372036854775807) (by simp only [inI]; omega)) (by simp [encCtlg]) ?_
    have hno : x.inb c d 9223372036854775807 = false := by
      simp only [Ctlg.inb, Ctlg.inn]
      by_cases a1 : 0 ≤ c
      · obtain ⟨c, rfl⟩ := Int.eq_ofNat_of_zero_le a1
        by_cases a2 : c < x.classes.length
        · have := hx.s4 c a2
          simp [Ctlg.stepsN_of a2]
          omega
        · simp [a2]
      · simp [a1]
    have hbv : bndV x c d 9223372036854775807 = .tup [.int .i64 0, .int .i64 0, .bool false] := by simp [bndV, hno]
    simp -implicitDefEqProofs [hbv, Ctlg.openAt, Ctlg.inb, show ¬ 1 ≤ i by omega]
  · have hw : IntKind.i64.wrap (i - 1) = i - 1 := wrap_i64 (by simp only [inI] at hi; omega) (by simp only [inI] at hi; omega)
    simp -implicitDefEqProofs [encCtlg, htk, hbl, hw]
    refine callQ_p (bounds_ok x hx hc hd (i := i - 1) (by simp only [inI] at hi ⊢; omega)) (by simp [encCtlg]) ?_
    cases hin : x.inb c d (i - 1)
    · simp -implicitDefEqProofs [bndV, hin, Ctlg.openAt]
    · simp -implicitDefEqProofs [bndV, hin, Ctlg.openAt, hw]
end Go.Proofs

/- Units: the law's own first look; catalogues that are opened and closed. -/
namespace Go.Proofs
open Go Go.RowKit Go.Am

def aliveC : Ctlg := ⟨[⟨⟨#[97]⟩, 0, List.replicate 3 ⟨[⟨5, 0, 0, 0, ⟨0, 0⟩, ⟨0, 0⟩, 0⟩], []⟩, List.replicate 3 ⟨[], []⟩, false⟩], 2 :: List.replicate 15 0⟩
theorem aliveC_good : aliveC.good where
  wf := by
    refine ⟨⟨by decide, ?_⟩, by decide, ?_⟩
    · intro y hy
      simp only [aliveC, List.mem_singleton] at hy
      subst hy
      refine ⟨by decide, by simp [inI], ⟨by decide, ?_⟩, by decide, ?_⟩
      · intro y hy
        obtain rfl := List.eq_of_mem_replicate hy
        refine ⟨⟨by decide, ?_⟩, by decide, by simp⟩
        intro y hy
        simp only [List.mem_singleton] at hy
        subst hy
        simp [Inst.wf, KeyT.wf, inI]
      · intro y hy
        obtain rfl := List.eq_of_mem_replicate hy
        exact ⟨⟨by decide, by simp⟩, by decide, by simp⟩
    · intro y hy
      simp only [aliveC, List.mem_cons, List.mem_replicate] at hy
      rcases hy with rfl | ⟨_, rfl⟩ <;> simp [inI]
  n4 := by decide
  s4 := by
    intro c h
    simp [aliveC] at h
    subst h
    simp [aliveC]
  nn := by
    intro c d
    have : ∀ k : Nat, 0 ≤ (aliveC.breaks[k]?).getD 0 := by
      intro k
      rcases h : aliveC.breaks[k]? with _ | v
      · simp
      · have := List.mem_of_getElem? h
        simp only [aliveC, List.mem_cons, List.mem_replicate] at this
        rcases this with rfl | ⟨_, rfl⟩ <;> simp
    exact this (4 * c + d)

theorem alive14_ok : PCall Try.prog 20 [] (.bool true) := by
  refine PCall.run hb20 ok20 (by simp) (by simp) (.bool _) ?_
  simp -implicitDefEqProofs []
  refine run_dreg c20_d3 ?_
  simp -implicitDefEqProofs []
  refine ⟨.sl .full (List.replicate 3 [.sl .full [], .sl .full []]), fun h => .mkval 2 48 _ _ _ .i64 .i64 3 rfl rfl (by omega) (by omega), ?_⟩
  simp -implicitDefEqProofs [H.nil]
  have hb : bndV aliveC 0 0 0 = .tup [.int .i64 0, .int .i64 1, .bool true] := by
    have h1 : aliveC.inb 0 0 0 = true := by decide
    have h2 : aliveC.lo 0 0 (0 : Int).toNat = 0 := by decide
    have h3 : aliveC.hi 0 0 (0 : Int).toNat = 1 := by decide
    rw [bndV, if_pos h1, h2, h3]; rfl
  refine callQ_p (bounds_ok aliveC aliveC_good (c := 0) (d := 0) (i := 0) (by simp [inI]) (by simp [inI]) (by simp [inI])) (by simp [encCtlg, aliveC, encCls, encStp, encInst]) ?_
  simp -implicitDefEqProofs [hb]
end Go.Proofs

/- Catalogues that are copied. -/
namespace Go.Proofs
open Go Go.RowKit Go.Am

section
variable {α : Type} {enc : α → List AV} {z : Nat}
theorem flatM_len (he : ∀ x, (enc x).length = z) (l : List α) : (l.map enc).flatten.length = l.length * z := by
  rw [flatten_len (z := z) (by simp [he]), List.length_map]
theorem chunks_of (he : ∀ x, (enc x).length = z) : ∀ (l : List α) (r : List AV), chunks z l.length ((l.map enc).flatten ++ r) = l.map enc
  | [], _ => rfl
  | x :: l, r => by
    have e1 : (enc x).length = z := he x
    simp only [List.map_cons, List.flatten_cons, List.length_cons, chunks, List.append_assoc]
    rw [List.take_left' e1, List.drop_left' e1, chunks_of he l]
theorem flat_take (he : ∀ x, (enc x).length = z) : ∀ (l : List α) (j : Nat) (h : j < l.length), List.take z (List.drop (j * z) (l.map enc).flatten) = enc l[j]
  | x :: l, 0, _ => by simp [List.take_left' (he x)]
  | x :: l, j + 1, h => by
    rw [List.map_cons, List.flatten_cons, show (j + 1) * z = (enc x).length + j * z by rw [he x, Nat.add_mul]; omega, ← List.drop_drop, List.drop_left' rfl, flat_take he l j (by simpa using h)]
    rfl
theorem flat_set (he : ∀ x, (enc x).length = z) : ∀ (l : List α) (j : Nat) (y : α), j < l.length → List.take (j * z) (l.map enc).flatten ++ (enc y ++ List.drop (j * z + z) (l.map enc).flatten) = ((l.set j y).map enc).flatten
  | x :: l, 0, y, _ => by simp [List.drop_left' (he x)]
  | x :: l, j + 1, y, h => by
    have ih := flat_set he l j y (by simpa using h)
    rw [List.map_cons, List.flatten_cons, show (j + 1) * z = (enc x).length + j * z by rw [he x, Nat.add_mul]; omega, List.take_length_add_append, Nat.add_assoc, ← List.drop_drop, List.drop_left' rfl, List.append_assoc, ih]
    rfl
end

def Stp.small (s : Stp) : Prop := s.code.length ≤ 8 ∧ s.foot.length ≤ 4

theorem cloneInst_ok (l : List Inst) (hl : l.length ≤ 1000) : PCall Try.prog 138 [.sl .no (l.map encInst)] (.sl .no (l.map encInst)) :=
  clone_gen hb138 ok138 _ (by simp) (elOK_Inst.pureL l) (by simp) (by simp; omega)
theorem cloneSpanT_ok (l : List SpanT) (hl : l.length ≤ 1000) : PCall Try.prog 139 [.sl .no (l.map encSpanT)] (.sl .no (l.map encSpanT)) :=
  clone_gen hb139 ok139 _ (by simp) (elOK_SpanT.pureL l) (by simp) (by simp; omega)

theorem steps_ok (l : List Stp) (h0 : 0 < l.length) (h4 : l.length ≤ 4) (hs : ∀ s ∈ l, s.small) : PCall Try.prog 104 [.sl .no (l.map encStp)] (.sl .no (l.map encStp)) := by
  refine PCall.run' hb104 ok104 (by simp) (pures1 (pure_sl pure_encStp _)) (pure_sl pure_encStp _) (by simp) ?_
  simp -implicitDefEqProofs []
  refine callQ_s (clone_box hb137 ok137 (h := H.nil) (l.map encStp) (by simpa using h0) (by simp) (by
    intro v hv
    simp only [List.mem_flatten, List.mem_map] at hv
    obtain ⟨_, ⟨s, _, rfl⟩, hv⟩ := hv
    exact pure_encStp s v hv) (by simp; omega)) (by simp) ?_
  simp -implicitDefEqProofs [H.nil]
  have hfl : (l.map encStp).flatten.length = l.length * 2 := flatM_len (by simp) l
  refine run_loop (fun n s h => ∃ j : Nat, n = l.length - j ∧ j ≤ l.length ∧ s 3 = .msl 0 2 0 l.length ∧ s 8 = .msl 0 2 0 l.length ∧ 0 < h.bn ∧ h.bx 0 = some (l.map encStp).flatten ∧ s 9 = .int .i64 l.length ∧ s 10 = .int .i64 j) ?_ l.length ?_
  rotate_left
  · exact ⟨0, by simp⟩
  rintro n s h ⟨j, hn, hj, h3, h8, h0, hb, h9, h10⟩ ih
  by_cases hlt : j < l.length
  · have htk := flat_take (z := 2) (enc := encStp) (by simp) l j hlt
    have hle : j * 2 + 2 ≤ l.length * 2 := by omega
    have hsm := hs _ (List.getElem_mem hlt)
    have hset := flat_set (z := 2) (enc := encStp) (by simp) l j l[j] hlt
    rw [List.set_getElem_self] at hset
    simp only [encStp, List.cons_append, List.nil_append] at hset htk
    simp -implicitDefEqProofs [h8, h0, hb, h9, h10, hlt, hfl, hle, htk]
    refine run_dreg c104_d6 ?_
    simp -implicitDefEqProofs [h3]
    refine lcallQ_p (cloneInst_ok l[j].code (by have := hsm.1; omega)) (by simp) ?_
    simp -implicitDefEqProofs []
    refine lcallQ_p (cloneSpanT_ok l[j].foot (by have := hsm.2; omega)) (by simp) ?_
    simp -implicitDefEqProofs [hb, h10, hlt, hfl, hle, hset, show ¬ 0 = h.bn by omega, inc_i64 hlt (by omega), -Int.natCast_add]
    exact ih (l.length - (j + 1)) _ _ (by omega) ⟨j + 1, rfl, by omega, by simp [h3], by simp [h8], by simp, by simp, by simp [h9], by simp⟩
  · simp -implicitDefEqProofs [h3, h9, h10, hlt]
    have := Gh.msl (z := 2) (n := l.length) h0 hb (by omega) (by omega)
    have e := chunks_of (z := 2) (enc := encStp) (by simp) l []
    rw [List.append_nil] at e
    rw [e] at this
    exact ⟨_, this⟩

def Cls.small (c : Cls) : Prop := 0 < c.steps.length ∧ c.steps.length ≤ 4 ∧ c.comps.length = c.steps.length ∧ (∀ s ∈ c.steps, s.small) ∧ ∀ s ∈ c.comps, s.small
def Ctlg.small (x : Ctlg) : Prop := 0 < x.classes.length ∧ x.classes.length ≤ 4 ∧ (∀ c ∈ x.classes, c.small) ∧ x.breaks.length = 16

theorem put_same {F : List AV} {k : Nat} {v : AV} (h : F[k]? = some v) : List.take k F ++ v :: List.drop (k + 1) F = F := by
  obtain ⟨hk, rfl⟩ := List.getElem?_eq_some_iff.1 h
  rw [← List.drop_eq_getElem_cons hk, List.take_append_drop]
theorem flatC_get (l : List Cls) {j k : Nat} (hj : j < l.length) (hk : k < 5) : (l.map encCls).flatten[j * 5 + k]? = some ((encCls l[j])[k]'(by simpa using hk)) := by
  rw [flatten_get (z := 5) (by simp) j k hk, List.getElem?_map, List.getElem?_eq_getElem hj]
  simp []

theorem copied_ok (x : Ctlg) (hx : x.small) : PCall Try.prog 63 [.agg (encCtlg x)] (.agg (encCtlg x)) := by
  refine PCall.run' hb63 ok63 (by simp) (pures1 (.agg (pure_encCtlg x))) (.agg (pure_encCtlg x)) (by simp) ?_
  obtain ⟨hn0, hn4, hcs, hbl⟩ := hx
  have htk := x.take16 hbl
  simp -implicitDefEqProofs [encCtlg, hbl]
  refine callQ_s (clone_box hb103 ok103 (x.classes.map encCls) (by simpa using hn0) (by simp) (by
    intro v hv
    simp only [List.mem_flatten, List.mem_map] at hv
    obtain ⟨_, ⟨s, _, rfl⟩, hv⟩ := hv
    exact pure_encCls s v hv) (by simp; omega)) (by simp) ?_
  simp -implicitDefEqProofs [H.nil, hbl]
  have hfl : (x.classes.map encCls).flatten.length = x.classes.length * 5 := flatM_len (by simp) x.classes
  refine run_loop (fun n s h => ∃ j : Nat, n = x.classes.length - j ∧ j ≤ x.classes.length ∧ s 1 = .ptr 0 0 ∧ s 2 = .ptr 1 0 ∧ s 10 = .msl 2 5 0 x.classes.length ∧ 2 < h.bn ∧ h.bx 0 = some (.msl 2 5 0 x.classes.length :: x.breaks.map (AV.int .i64)) ∧ (∃ cs, h.bx 1 = some cs ∧ cs.length = 17) ∧ h.bx 2 = some (x.classes.map encCls).flatten ∧ s 11 = .int .i64 x.classes.length ∧ s 12 = .int .i64 j) ?_ x.classes.length ?_
  rotate_left
  · exact ⟨0, by simp⟩
  rintro n s h ⟨j, hn, hj, h1, h2, h10, h0, hb0, ⟨cs, hb1, hcl⟩, hb2, h11, h12⟩ ih
  by_cases hlt : j < x.classes.length
  · have htk := flat_take (z := 5) (enc := encCls) (by simp) x.classes j hlt
    have hle : j * 5 + 5 ≤ x.classes.length * 5 := by omega
    have hsm := hcs _ (List.getElem_mem hlt)
    have hset := flat_set (z := 5) (enc := encCls) (by simp) x.classes j x.classes[j] hlt
    rw [List.set_getElem_self] at hset
    simp -implicitDefEqProofs [h10, h0, hb2, h11, h12, hlt, hfl, hle, htk]
    refine run_dreg c63_d6 ?_
    simp -implicitDefEqProofs [h1, hb0, show ¬ 0 = h.bn by omega, encCls, show 0 < h.bn + 1 by omega]
    have hst : x.classes[j].steps.length ≤ 4 := hsm.2.1
    refine lcallQ_p (steps_ok x.classes[j].steps hsm.1 hst hsm.2.2.2.1) (by simp) ?_
    simp -implicitDefEqProofs []
    refine lcallQ_p (steps_ok x.classes[j].comps (by rw [hsm.2.2.1]; exact hsm.1) (by rw [hsm.2.2.1]; exact hst) hsm.2.2.2.2) (by simp) ?_
    have hp2 := put_same (flatC_get x.classes hlt (k := 2) (by omega))
    have hp3 := put_same (flatC_get x.classes hlt (k := 3) (by omega))
    simp only [encCls, List.getElem_cons_succ, List.getElem_cons_zero] at hp2 hp3
    simp -implicitDefEqProofs [hb0, hb2, h12, hlt, hfl, show ¬ 2 = h.bn by omega, show ¬ 0 = h.bn by omega, hp2, hp3, inc_i64 hlt (by omega), -Int.natCast_add, show j * 5 + 2 + 1 ≤ x.classes.length * 5 by omega, show 2 < h.bn + 1 by omega, show ¬ h.bn = 2 by omega, encCls]
    refine ⟨by omega, ?_⟩
    exact ih (x.classes.length - (j + 1)) _ _ (by omega) ⟨j + 1, rfl, by omega, by simp [h1], by simp [h2], by simp [h10], by simp; omega, by simp [hb0, show ¬ 0 = h.bn by omega], ⟨cs, by simp [hb1, show ¬ 1 = h.bn by omega], hcl⟩, by simp, by simp [h11], by simp⟩
  · simp -implicitDefEqProofs [h1, h2, hb0, hb1, h11, h12, hlt, hbl, htk, hcl, show 0 < h.bn by omega, show 1 < h.bn by omega]
    have := Gh.aggMsl (z := 5) (n := x.classes.length) (h := h.set 1 (.msl 2 5 0 x.classes.length :: (x.breaks.map (AV.int .i64) ++ List.drop 17 cs))) (b := 2) (cs := (x.classes.map encCls).flatten) (rest := x.breaks.map (AV.int .i64)) (by simpa using h0) (by simp [hb2]) (by omega) (by omega)
    have e := chunks_of (z := 5) (enc := encCls) (by simp) x.classes []
    rw [List.append_nil] at e
    rw [e] at this
    exact ⟨_, this⟩

/-- A catalogue with other breakpoints. -/
def Ctlg.with (x : Ctlg) (l : List Int) : Ctlg := ⟨x.classes, l⟩
def closedOf (x : Ctlg) : Ctlg := x.with (List.replicate 16 0)

theorem closed_ok (x : Ctlg) (hx : x.small) : PCall Try.prog 32 [.agg (encCtlg x)] (.agg (encCtlg (closedOf x))) := by
  refine PCall.run hb32 ok32 (by simp) (pures1 (.agg (pure_encCtlg x))) (.agg (pure_encCtlg _)) ?_
  have htk := x.take16 hx.2.2.2
  have hbl := hx.2.2.2
  simp -implicitDefEqProofs [encCtlg, htk, hbl]
  refine callQ_p (copied_ok x hx) (by simp [encCtlg]) ?_
  simp -implicitDefEqProofs [encCtlg, hbl, H.nil]
  exact ⟨rfl, rfl⟩

def Cls.all (c : Cls) : Int := 2 ^ (c.steps.length - 1) - 1
theorem all_ok (c : Cls) (hc : c.small) : PCall Try.prog 66 [.agg (encCls c)] (.int .i64 c.all) := by
  refine PCall.run hb66 ok66 (by simp) (pures1 (.agg (pure_encCls c))) (.int _ _) ?_
  have h := hc
  obtain ⟨h0, h4, _⟩ := h
  have w0 : ∀ k : Nat, k ≤ 15 → IntKind.i64.wrap (k : Int) = k := fun k hk => wrap_i64 (by omega) (by omega)
  have wa := w0 0 (by omega)
  have wb := w0 1 (by omega)
  have wc := w0 2 (by omega)
  have wd := w0 3 (by omega)
  have we := w0 4 (by omega)
  have wf := w0 7 (by omega)
  have wg := w0 8 (by omega)
  simp only [Int.cast_ofNat_Int] at wa wb wc wd we wf wg
  have hl : c.steps.length = 1 ∨ c.steps.length = 2 ∨ c.steps.length = 3 ∨ c.steps.length = 4 := by omega
  rcases hl with hl | hl | hl | hl <;> simp -implicitDefEqProofs [encCls, hl, wa, wb, wc, wd, we, wf, wg, shAmt, IntKind.bits, Cls.all]
end Go.Proofs
