/- What the functions that the statement reaches do: their contracts; and what follows of it. -/
import Derived.Test.YtedmjhckiiponaaSUnitsNodes6
import Derived.Test.YtedmjhckiiponaaSUnitsNodes4
import Derived.Test.YtedmjhckiiponaaK4
/- Which programs and footprints there may be: the program's answer is the document's. -/
namespace Go.Proofs
open Go Go.RowKit Go.Am

theorem isReg_iff (n : Int) : isReg n = true ↔ 0 ≤ n ∧ n ≤ 3 := by simp [isReg]
theorem mayI_one (x : Inst) (args : Int) : mayI x args = oneInst x args := by
  rcases x with ⟨op, a, b, c, ⟨ka, kb⟩, ⟨la, lb⟩, y⟩
  have z0 : isReg 0 = true := by decide
  by_cases h1 : op = 1 ∨ op = 2
  · have h2 : op = 1 ∨ op = 2 ∨ op = 3 := by omega
    simp only [mayI, oneInst, onlyI, keysI, if_pos h1, if_pos h2, zeroK, keyNone]
    rw [Bool.eq_iff_iff]
    simp
    intro hk
    constructor
    · rintro ⟨⟨⟨⟨rfl, rfl, ⟨rfl, rfl⟩, rfl⟩, ha⟩, hb⟩, hc⟩
      simp [ha]
    · rintro ⟨⟨⟨⟨ha, rfl⟩, rfl⟩, rfl⟩, rfl, rfl⟩
      simp [ha, z0]
  by_cases h3 : op = 3
  · have h2 : op = 1 ∨ op = 2 ∨ op = 3 := by omega
    simp only [mayI, oneInst, onlyI, keysI, if_neg h1, if_pos h3, if_pos h2, zeroK, keyNone]
    rw [Bool.eq_iff_iff]
    simp
    intro hk
    constructor
    · rintro ⟨⟨⟨⟨rfl, rfl, rfl, ⟨rfl, rfl⟩, rfl⟩, ha⟩, hb⟩, hc⟩
      simp
    · rintro ⟨⟨⟨⟨rfl, rfl⟩, rfl⟩, rfl⟩, rfl, rfl⟩
      simp [z0]
  have h2 : ¬ (op = 1 ∨ op = 2 ∨ op = 3) := by omega
  by_cases h4 : op = 4
  · simp only [mayI, oneInst, onlyI, keysI, if_neg h1, if_neg h3, if_pos h4, if_neg h2, zeroK, keyNone]
    rw [Bool.eq_iff_iff]
    simp
    constructor
    · rintro ⟨⟨⟨⟨⟨rfl, rfl, rfl⟩, ha⟩, hb⟩, hc⟩, hk, hl⟩
      simp [ha, hk, hl]
    · rintro ⟨⟨⟨⟨⟨ha, rfl⟩, rfl⟩, rfl⟩, hk⟩, hl⟩
      simp [ha, hk, hl, z0]
  by_cases h5 : op = 5 ∨ op = 8
  · simp only [mayI, oneInst, onlyI, keysI, if_neg h1, if_neg h3, if_neg h4, if_neg h2, if_pos h5, zeroK, keyNone]
    rw [Bool.eq_iff_iff]
    simp
    constructor
    · rintro ⟨⟨⟨⟨rfl, rfl, ⟨rfl, rfl⟩, ⟨rfl, rfl⟩⟩, ha⟩, hb⟩, hc⟩
      simp [ha]
    · rintro ⟨⟨⟨⟨ha, rfl⟩, rfl⟩, rfl, rfl⟩, rfl, rfl⟩
      simp [ha, z0]
  by_cases h6 : op = 6 ∨ op = 7
  · simp only [mayI, oneInst, onlyI, keysI, if_neg h1, if_neg h3, if_neg h4, if_neg h2, if_neg h5, if_pos h6, zeroK, keyNone]
    rw [Bool.eq_iff_iff]
    simp
    constructor
    · rintro ⟨⟨⟨⟨⟨rfl, rfl⟩, ⟨rfl, rfl⟩, rfl⟩, ha⟩, hb⟩, hc⟩
      simp [ha, hb, hc]
    · rintro ⟨⟨⟨⟨⟨ha, rfl⟩, hb⟩, hc⟩, rfl, rfl⟩, rfl, rfl⟩
      simp [ha, hb, hc]
  simp only [mayI, oneInst, onlyI, keysI, if_neg h1, if_neg h3, if_neg h4, if_neg h2, if_neg h5, if_neg h6]
  simp

theorem May1_ok (x : Inst) (args : Int) {h : H} {b : Nat} (hb : b < h.bn) (hbx : h.bx b = some [.int .i64 args]) : SCall Try.prog 143 [.agg (encInst x), .ptr b 0] h (.bool (!oneInst x args)) h := by
  refine SCall.ro (CallP.run hb143 ok143 (by simp) ?_) (.bool _)
  simp -implicitDefEqProofs [hbx, encInst, show ¬ b = h.bn by omega, show b < h.bn + 1 by omega]
  refine callQ_p (may_ok x args) (by simp [encInst]) ?_
  simp -implicitDefEqProofs [mayI_one]
  exact HF.alloc _ _ _ _

theorem any_not {α : Type} (l : List α) (p : α → Bool) : (!l.any fun x => !p x) = l.all p := by
  rw [Bool.eq_iff_iff]; simp

theorem progMay_ok (l : List Inst) (args : Int) (hl : l.length ≤ 9223372036854775807) : PCall Try.prog 119 [.sl .no (l.map encInst), .int .i64 args] (.bool (progMay l args)) := by
  refine PCall.run hb119 ok119 (by simp) (pures_cons (elOK_Inst.pureL l) (pures1 (.int _ _))) (.bool _) ?_
  by_cases bad : ((args < 0 ∨ 3 < args) ∨ (l.length : Int) < 1) ∨ (8 : Int) < (l.length : Int)
  · have hf : progMay l args = false := by
      simp only [progMay, Bool.and_eq_false_iff, Bool.not_eq_false', decide_eq_true_eq]
      omega
    simp (maxSteps := 2000000) +contextual -implicitDefEqProofs [↓gdL_T, ↓gdL_F, ↓condQ_b, -Int.not_lt, -Int.not_le, -Nat.not_lt, -Nat.not_le, hf, H.nil]
    all_goals (intros; omega)
  · have hm : progMay l args = l.all fun x => oneInst x args := by
      simp only [progMay, show ¬ args < 0 by omega, show ¬ 3 < args by omega, show ¬ l.length < 1 by omega, show ¬ 8 < l.length by omega]
      simp
    simp -implicitDefEqProofs [H.nil, show ¬ args < 0 by omega, show ¬ 3 < args by omega, show ¬ (l.length : Int) < 1 by omega, show ¬ (8 : Int) < (l.length : Int) by omega, hm]
    refine callQ_s (contains_gen hb142 ok142 hb153 ok153 elOK_Inst l hl (first := []) (caps := [.ptr 0 0]) (p := fun x => !oneInst x args) rfl (by simp) (fun x _ => May1_ok x args (by simp) (by simp))) (by simp) ?_
    simp -implicitDefEqProofs [any_not]

def sureI (x : Inst) : Bool := !(decide (x.op = 6) || decide (x.op = 7) || decide (x.op = 8))
theorem Sure1_ok (x : Inst) : PCall Try.prog 161 [.agg (encInst x)] (.bool (!sureI x)) := by
  refine PCall.run hb161 ok161 (by simp) (pures1 (pureInst x)) (.bool _) ?_
  by_cases h6 : x.op = 6
  · simp -implicitDefEqProofs [encInst, sureI, h6]
  by_cases h7 : x.op = 7
  · simp -implicitDefEqProofs [encInst, sureI, h7]
  simp -implicitDefEqProofs [encInst, sureI, h6, h7]
theorem sure_ok (l : List Inst) (hl : l.length ≤ 9223372036854775807) : PCall Try.prog 148 [.sl .no (l.map encInst)] (.bool (l.all sureI)) := by
  refine PCall.run hb148 ok148 (by simp) (pures1 (elOK_Inst.pureL l)) (.bool _) ?_
  simp -implicitDefEqProofs []
  refine callQ_s (contains_gen hb142 ok142 hb153 ok153 elOK_Inst l hl (first := []) (caps := []) (p := fun x => !sureI x) rfl rfl (fun x _ => Sure1_ok x _)) (by simp) ?_
  simp -implicitDefEqProofs [any_not]

theorem reads_ok (k : KeyT) : PCall Try.prog 146 [.agg (encKeyT k)] (.sl .no ([(⟨1, 0, 0, 0, k, zeroK, 0⟩ : Inst)].map encInst)) := by
  refine PCall.run hb146 ok146 (by simp) (pures1 (pureKey k)) (elOK_Inst.pureL _) ?_
  simp -implicitDefEqProofs [encKeyT, encInst, zeroK, H.nil]
theorem progMay_reads (k : KeyT) {args : Int} (h0 : 0 ≤ args) (h3 : args ≤ 3) : progMay [(⟨1, 0, 0, 0, k, zeroK, 0⟩ : Inst)] args = mayKey k args := by
  have z0 : isReg 0 = true := by decide
  simp [progMay, oneInst, z0, zeroK, keyNone]
  intro; omega
end Go.Proofs

/- Spans of a node; what is more than the statements look at. -/
namespace Go.Proofs
open Go Go.RowKit Go.Am

def spnOK (s : Spn) : Bool := decide (0 ≤ s.lo) && decide (s.lo ≤ s.hi) && decide (s.hi ≤ 999)
def spansOK (l : List Spn) : Bool := decide (l.length ≤ 40) && l.all spnOK

theorem keyMay_ok (s : Spn) : PCall Try.prog 113 [.agg (encSpn s)] (.bool (spnOK s)) := by
  refine PCall.run hb113 ok113 (by simp) (pures1 (.agg (pure_encSpn s))) (.bool _) ?_
  by_cases h1 : 0 ≤ s.lo
  rotate_left
  · simp -implicitDefEqProofs [encSpn, H.nil, spnOK, h1]
  by_cases h2 : s.lo ≤ s.hi
  rotate_left
  · simp -implicitDefEqProofs [encSpn, H.nil, spnOK, h1, h2]
  simp -implicitDefEqProofs [encSpn, H.nil, spnOK, h1, h2]

theorem spans1_ok (s : Spn) : PCall Try.prog 112 [.agg (encSpn s)] (.bool (!spnOK s)) := by
  refine PCall.run hb112 ok112 (by simp) (pures1 (.agg (pure_encSpn s))) (.bool _) ?_
  simp -implicitDefEqProofs [encSpn, H.nil]
  refine callQ_p (keyMay_ok s) (by simp [encSpn]) ?_
  simp -implicitDefEqProofs []

theorem spans_ok (l : List Spn) (hl : l.length ≤ 9223372036854775807) : PCall Try.prog 75 [.sl .no (l.map encSpn)] (.bool (spansOK l)) := by
  refine PCall.run hb75 ok75 (by simp) (pures1 (elOK_Spn.pureL l)) (.bool _) ?_
  by_cases h4 : (l.length : Int) ≤ 40
  rotate_left
  · simp -implicitDefEqProofs [h4, spansOK, show ¬ l.length ≤ 40 by omega]
  simp -implicitDefEqProofs [h4]
  refine callQ_s (contains_gen hb111 ok111 hb140 ok140 elOK_Spn l hl (first := []) (caps := []) (p := fun x => !spnOK x) rfl rfl (fun x _ => spans1_ok x _)) (by simp) ?_
  have ha := any_not l spnOK
  simp -implicitDefEqProofs [spansOK, show l.length ≤ 40 by omega]
  rw [← ha, Bool.not_not]

theorem refSpans_ok (l : List Spn) (hl : l.length ≤ 9223372036854775807) : PCall Try.prog 77 [.sl .no (l.map encSpn)] (.bool (spansOK l)) := by
  refine PCall.run hb77 ok77 (by simp) (pures1 (elOK_Spn.pureL l)) (.bool _) ?_
  simp -implicitDefEqProofs []
  refine run_loop (fun n s h => ∃ j : Nat, n = l.length - j ∧ j ≤ l.length ∧ s 0 = .sl .no (l.map encSpn) ∧ s 3 = .int .i64 j ∧ ∀ i (hi : i < l.length), i < j → spnOK l[i] = true) ?_ l.length ?_
  rotate_left
  · exact ⟨0, by simp⟩
  rintro n s h ⟨j, hn, hj, s0, s3, hall⟩ ih
  by_cases hlt : j < l.length
  · have hno : spnOK l[j] = false → spansOK l = false := fun h => by
      rw [spansOK, all_take_false hlt h]; simp
    have hyes : spnOK l[j] = true → ∀ i (hi : i < l.length), i < j + 1 → spnOK l[i] = true := fun h i hi hij => by
      by_cases e : i = j
      · subst e; exact h
      · exact hall i hi (by omega)
    simp -implicitDefEqProofs [s0, s3, hlt]
    refine run_dregL c77_d4 rfl ?_
    by_cases h1 : l[j].lo < 0
    · have := hno (by simp [spnOK, show ¬ 0 ≤ l[j].lo by omega])
      simp -implicitDefEqProofs [s0, s3, hlt, encSpn, h1, this]
    by_cases h2 : l[j].hi < l[j].lo
    · have := hno (by simp [spnOK, show ¬ l[j].lo ≤ l[j].hi by omega])
      simp -implicitDefEqProofs [s0, s3, hlt, encSpn, h1, h2, this]
    by_cases h3 : 999 < l[j].hi
    · have := hno (by simp [spnOK, show ¬ l[j].hi ≤ 999 by omega])
      simp -implicitDefEqProofs [s0, s3, hlt, encSpn, h1, h2, h3, this]
    have hy := hyes (by simp [spnOK]; omega)
    simp -implicitDefEqProofs [s0, s3, hlt, encSpn, h1, h2, h3, inc_i64 hlt hl, -Int.natCast_add]
    exact ih (l.length - (j + 1)) _ _ (by omega) ⟨j + 1, rfl, by omega, by simp [s0], by simp, hy⟩
  · have hw : l.all spnOK = true := all_whole (by omega) hall
    have hc : decide ((l.length : Int) ≤ 40) = decide (l.length ≤ 40) := by rw [Bool.eq_iff_iff]; simp; omega
    simp -implicitDefEqProofs [s0, s3, hlt, spansOK, hw, hc]

/-! ### More than the statements look at -/
theorem any_at {α : Type} {l : List α} {p : α → Bool} {j : Nat} (hj : j < l.length) (h : p l[j] = true) : l.any p = true := by
  rw [List.any_eq_true]; exact ⟨_, List.getElem_mem hj, h⟩
theorem any_none {α : Type} {l : List α} {p : α → Bool} {j : Nat} (hj : l.length ≤ j) (h : ∀ i (hi : i < l.length), i < j → p l[i] = false) : l.any p = false := by
  rw [List.any_eq_false]
  intro y hy
  obtain ⟨i, hi, rfl⟩ := List.mem_iff_getElem.1 hy
  simp [h i hi (by omega)]
def bigS (s : Stp) : Bool := decide (40 < s.code.length) || decide (40 < s.foot.length)
def bigC (c : Cls) : Bool := decide (300 < c.name.size) || decide (20 < c.steps.length) || decide (20 < c.comps.length) || (c.steps ++ c.comps).any bigS
def bigX (x : Ctlg) : Bool := x.classes.any bigC || decide (12 < x.classes.length)
def bigN (n : Nod) : Bool := decide (60 < n.reads.length) || decide (60 < n.writes.length)
def bigH (x : Ctlg) (l : List Nod) : Bool := l.any bigN || (bigX x || decide (110 < l.length))

theorem great11_ok (c : Cls) (hc : c.wf) : PCall Try.prog 110 [.agg (encCls c)] (.bool (bigC c)) := by
  refine PCall.run hb110 ok110 (by simp) (pures1 (.agg (pure_encCls c))) (.bool _) ?_
  by_cases h1 : (300 : Int) < c.name.size
  · have hb : bigC c = true := by simp [bigC, show 300 < c.name.size by omega]
    simp -implicitDefEqProofs [encCls, H.nil, h1, hb]
  by_cases h2 : (20 : Int) < c.steps.length
  · have hb : bigC c = true := by simp [bigC, show 20 < c.steps.length by omega]
    simp -implicitDefEqProofs [encCls, H.nil, h1, h2, hb]
  by_cases h3 : (20 : Int) < c.comps.length
  · have hb : bigC c = true := by simp [bigC, show 20 < c.comps.length by omega]
    simp -implicitDefEqProofs [encCls, H.nil, h1, h2, h3, hb]
  have hb : bigC c = (c.steps ++ c.comps).any bigS := by simp [bigC, show ¬ 20 < c.comps.length by omega, show ¬ 20 < c.steps.length by omega, show ¬ 300 < c.name.size by omega]
  have hlen : (c.steps ++ c.comps).length ≤ 40 := by simp; omega
  generalize hL : c.steps ++ c.comps = L at hb hlen
  simp -implicitDefEqProofs [encCls, H.nil, h1, h2, h3]
  refine run_dreg c110_d4 ?_
  simp -implicitDefEqProofs []
  refine appQ_tok (t := .full) (es := []) trivial (by simp) (es2 := c.steps.map encStp) (by simp [srcA, encStp]) (by simp; omega) fun t' h' q1 q2 q3 q4 => ?_
  have hb0 : h'.bx 0 = some (encCls c) := by rw [q3.bx 0 (by simp) (fun h => h)]; simp [encCls]
  rw [encCls] at hb0
  have hn0 : 0 < h'.bn := by rw [q4]; simp
  simp -implicitDefEqProofs [hb0, hn0]
  refine appQ_tok (t := t') (es := c.steps.map encStp) (by simpa using q1) (by simp [encStp]) (es2 := c.comps.map encStp) (by simp [srcA, encStp]) (by simp; omega) fun t2 h2 r1 r2 r3 r4 => ?_
  have hb1 : h2.bx 0 = some (encCls c) := by rw [r3.bx 0 hn0 (fun h => h), hb0]; rfl
  rw [encCls] at hb1
  have hn1 : 0 < h2.bn := by rw [r4]; exact hn0
  rw [← List.map_append, hL]
  simp -implicitDefEqProofs [hb0, hn0]
  refine run_loop (fun n s h => ∃ j : Nat, n = L.length - j ∧ j ≤ L.length ∧ s 3 = .sl t2 (L.map encStp) ∧ s 4 = .int .i64 j ∧ ∀ i (hi : i < L.length), i < j → bigS L[i] = false) ?_ L.length ?_
  rotate_left
  · exact ⟨0, by simp⟩
  rintro n s h ⟨j, hn, hj, s3, s4, hall⟩ ih
  by_cases hlt : j < L.length
  · have hyes : bigS L[j] = true → bigC c = true := fun h => hb.trans (any_at hlt h)
    have hno : bigS L[j] = false → ∀ i (hi : i < L.length), i < j + 1 → bigS L[i] = false := fun h i hi hij => by
      by_cases e : i = j
      · subst e; exact h
      · exact hall i hi (by omega)
    by_cases g1 : (40 : Int) < L[j].code.length
    · have := hyes (by simp [bigS, show 40 < L[j].code.length by omega])
      simp -implicitDefEqProofs [s3, s4, hlt, encStp, g1, this]
    by_cases g2 : (40 : Int) < L[j].foot.length
    · have := hyes (by simp [bigS, show 40 < L[j].foot.length by omega])
      simp -implicitDefEqProofs [s3, s4, hlt, encStp, g1, g2, this]
    have hq := hno (by simp [bigS]; omega)
    simp -implicitDefEqProofs [s3, s4, hlt, encStp, g1, g2, inc_i64 hlt (by omega), -Int.natCast_add]
    exact ih (L.length - (j + 1)) _ _ (by omega) ⟨j + 1, rfl, by omega, by simp [s3], by simp, hq⟩
  · have := hb.trans (any_none (by omega) hall)
    simp -implicitDefEqProofs [s3, s4, hlt, this]

theorem great12_ok (x : Ctlg) (hx : x.wf) : PCall Try.prog 74 [.agg (encCtlg x)] (.bool (bigX x)) := by
  refine PCall.run hb74 ok74 (by simp) (pures1 (.agg (pure_encCtlg x))) (.bool _) ?_
  obtain ⟨⟨hcl, hcw⟩, hbl, hbw⟩ := hx
  simp -implicitDefEqProofs [encCtlg, H.nil]
  refine run_loop (fun n s h => ∃ j : Nat, n = x.classes.length - j ∧ j ≤ x.classes.length ∧ s 1 = .ptr 0 0 ∧ 0 < h.bn ∧ h.bx 0 = some (.sl .no (x.classes.map encCls) :: x.breaks.map (AV.int .i64)) ∧ s 3 = .int .i64 j ∧ ∀ i (hi : i < x.classes.length), i < j → bigC x.classes[i] = false) ?_ x.classes.length ?_
  rotate_left
  · exact ⟨0, by simp⟩
  rintro n s h ⟨j, hn, hj, s1, b0, b1, s3, hall⟩ ih
  by_cases hlt : j < x.classes.length
  · simp -implicitDefEqProofs [s1, b0, b1, s3, hlt]
    refine callQ_p (great11_ok x.classes[j] (hcw _ (List.getElem_mem hlt))) (by simp) ?_
    cases hg : bigC x.classes[j]
    · simp -implicitDefEqProofs [s3, inc_i64 hlt hcl, -Int.natCast_add]
      exact ih (x.classes.length - (j + 1)) _ _ (by omega) ⟨j + 1, rfl, by omega, by simp [s1], by simpa using b0, by simp [b1], by simp, fun i hi hij => by
        by_cases e : i = j
        · subst e; exact hg
        · exact hall i hi (by omega)⟩
    · have : bigX x = true := by simp only [bigX, any_at hlt hg, Bool.true_or]
      simp -implicitDefEqProofs [this]
  · have ha : x.classes.any bigC = false := any_none (by omega) hall
    have hc : decide ((12 : Int) < (x.classes.length : Int)) = decide (12 < x.classes.length) := by rw [Bool.eq_iff_iff]; simp; omega
    simp -implicitDefEqProofs [s1, b0, b1, s3, hlt, bigX, ha, hc]

theorem great14_ok (x : Ctlg) (hx : x.wf) (l : List Nod) (hl : l.length ≤ 9223372036854775807) : PCall Try.prog 33 [.agg (encCtlg x), .sl .no (l.map encNod)] (.bool (bigH x l)) := by
  refine PCall.run hb33 ok33 (by simp) (pures_cons (.agg (pure_encCtlg x)) (pures1 (elOK_Nod.pureL l))) (.bool _) ?_
  have htk := x.take16 hx.2.1
  have hbl := hx.2.1
  simp -implicitDefEqProofs [encCtlg, H.nil]
  refine run_loop (fun n s h => ∃ j : Nat, n = l.length - j ∧ j ≤ l.length ∧ s 2 = .ptr 0 0 ∧ 0 < h.bn ∧ h.bx 0 = some (.sl .no (x.classes.map encCls) :: x.breaks.map (AV.int .i64)) ∧ s 1 = .sl .no (l.map encNod) ∧ s 5 = .int .i64 j ∧ ∀ i (hi : i < l.length), i < j → bigN l[i] = false) ?_ l.length ?_
  rotate_left
  · exact ⟨0, by simp⟩
  rintro n s h ⟨j, hn, hj, s2, b0, b1, s1, s5, hall⟩ ih
  by_cases hlt : j < l.length
  · have hyes : bigN l[j] = true → bigH x l = true := fun h => by simp only [bigH, any_at hlt h, Bool.true_or]
    have hno : bigN l[j] = false → ∀ i (hi : i < l.length), i < j + 1 → bigN l[i] = false := fun h i hi hij => by
      by_cases e : i = j
      · subst e; exact h
      · exact hall i hi (by omega)
    by_cases g1 : (60 : Int) < l[j].reads.length
    · have := hyes (by simp [bigN, show 60 < l[j].reads.length by omega])
      simp -implicitDefEqProofs [s1, s5, hlt, encNod, g1, this]
    by_cases g2 : (60 : Int) < l[j].writes.length
    · have := hyes (by simp [bigN, show 60 < l[j].writes.length by omega])
      simp -implicitDefEqProofs [s1, s5, hlt, encNod, g1, g2, this]
    have hq := hno (by simp [bigN]; omega)
    simp -implicitDefEqProofs [s1, s5, hlt, encNod, g1, g2, inc_i64 hlt hl, -Int.natCast_add]
    exact ih (l.length - (j + 1)) _ _ (by omega) ⟨j + 1, rfl, by omega, by simp [s2], by simpa using b0, by simp [b1], by simp [s1], by simp, hq⟩
  · have ha : l.any bigN = false := any_none (by omega) hall
    have hc : decide ((110 : Int) < (l.length : Int)) = decide (110 < l.length) := by rw [Bool.eq_iff_iff]; simp; omega
    simp -implicitDefEqProofs [s1, s2, b0, b1, s5, hlt, htk, hbl]
    refine callQ_p (great12_ok x hx) (by simp [encCtlg]) ?_
    cases hg : bigX x
    · simp -implicitDefEqProofs [s1, bigH, ha, hg, hc]
    · simp -implicitDefEqProofs [bigH, ha, hg]
end Go.Proofs

/- Which nodes may follow which: plain laws, and the program's answer. -/
namespace Go.Proofs
open Go Go.RowKit Go.Am

def ownOf (l : List Nod) (s : Int) : List Nod := l.filter fun n => decide (n.saga = s)
def aftP (m n : Nod) (steps : Int) : Bool :=
  decide (n.cls = m.cls) && (if n.back = false then !m.back && decide (n.step = m.step + 1) && decide (n.step < steps) else if m.back = false then decide (n.step = m.step) else decide (n.step = m.step - 1))
def nextP (own : List Nod) (n : Nod) (steps : Int) : Bool :=
  match own.getLast? with
  | none => !n.back && decide (n.step = 0)
  | some m => aftP m n steps
def nodeOK (x : Ctlg) (l : List Nod) (n : Nod) : Bool := decide (0 ≤ n.saga) && x.inn n.cls && decide (0 ≤ n.step) && spansOK n.reads && spansOK n.writes && nextP (ownOf l n.saga) n (x.stepsN n.cls.toNat)
def nodeAt (x : Ctlg) (h : List Nod) (i : Nat) : Bool := (h[i]?.map (nodeOK x (h.take i))).getD false
def histMay (x : Ctlg) (h : List Nod) : Bool := catMay x && decide (h.length ≤ 100) && (List.range h.length).all (nodeAt x h)

theorem nodeAt_of (x : Ctlg) {h : List Nod} {i : Nat} (hi : i < h.length) : nodeAt x h i = nodeOK x (h.take i) h[i] := by simp [nodeAt, hi]
theorem ownOf_snoc (l : List Nod) (n : Nod) (s : Int) : ownOf (l ++ [n]) s = ownOf l s ++ if n.saga = s then [n] else [] := by
  simp only [ownOf, List.filter_append]
  congr 1
  by_cases h : n.saga = s <;> simp [h]
theorem take_snoc {h : List Nod} {i : Nat} (hi : i < h.length) : h.take (i + 1) = h.take i ++ [h[i]] := by rw [List.take_succ_eq_append_getElem hi]

/-- What went before is within its class. -/
def within (x : Ctlg) (n : Nod) : Prop := x.inn n.cls = true ∧ 0 ≤ n.step ∧ n.step < x.stepsN n.cls.toNat
theorem nodes_within {x : Ctlg} (hx : x.small) (l : List Nod) (hl : ∀ m ∈ l, within x m) {n : Nod} (h : nodeOK x l n = true) : within x n := by
  simp only [nodeOK, Bool.and_eq_true, decide_eq_true_eq] at h
  obtain ⟨⟨⟨⟨⟨_, h2⟩, h3⟩, _⟩, _⟩, h6⟩ := h
  refine ⟨h2, h3, ?_⟩
  have hpos : 0 < x.stepsN n.cls.toNat := by
    simp only [Ctlg.inn, Bool.and_eq_true, decide_eq_true_eq] at h2
    have hc : n.cls.toNat < x.classes.length := by omega
    rw [Ctlg.stepsN_of hc]
    exact (hx.2.2.1 _ (List.getElem_mem hc)).1
  unfold nextP at h6
  split at h6
  · simp only [Bool.and_eq_true, decide_eq_true_eq] at h6
    omega
  · rename_i m hm
    have hmem : m ∈ l := (List.mem_filter.1 (List.mem_of_getLast? hm)).1
    obtain ⟨_, w2, w3⟩ := hl m hmem
    simp only [aftP, Bool.and_eq_true, decide_eq_true_eq] at h6
    obtain ⟨q1, q2⟩ := h6
    rw [← q1] at w3
    split at q2
    · simp only [Bool.and_eq_true, decide_eq_true_eq] at q2
      exact q2.2
    · split at q2
      · have := of_decide_eq_true q2; omega
      · have := of_decide_eq_true q2; omega
theorem take_within {x : Ctlg} (hx : x.small) {h : List Nod} : ∀ (i : Nat), i ≤ h.length → (∀ j, j < i → nodeAt x h j = true) → ∀ m ∈ h.take i, within x m
  | 0, _, _ => fun m hm => by simp at hm
  | i + 1, hi, hall => fun m hm => by
    have ih := take_within hx i (by omega) fun j hj => hall j (by omega)
    rw [take_snoc (show i < h.length by omega), List.mem_append] at hm
    rcases hm with hm | hm
    · exact ih m hm
    · rw [List.mem_singleton] at hm
      subst hm
      have := hall i (by omega)
      rw [nodeAt_of x (show i < h.length by omega)] at this
      exact nodes_within hx _ ih this
theorem small4 {x : Ctlg} (hx : x.small) (c : Nat) : x.stepsN c ≤ 4 := by
  by_cases hc : c < x.classes.length
  · rw [Ctlg.stepsN_of hc]; exact (hx.2.2.1 _ (List.getElem_mem hc)).2.1
  · simp [Ctlg.stepsN, List.getElem?_eq_none (show x.classes.length ≤ c by omega)]

theorem next_ok (own : List Nod) (n : Nod) {steps : Int} (hl : own.length ≤ 1000) (hm : ∀ m ∈ own, 0 ≤ m.step ∧ m.step ≤ 1000) : PCall Try.prog 76 [.sl .no (own.map encNod), .agg (encNod n), .int .i64 steps] (.bool (nextP own n steps)) := by
  refine PCall.run hb76 ok76 (by simp) (pures_cons (elOK_Nod.pureL own) (pures_cons (.agg (pure_encNod n)) (pures1 (.int _ _)))) (.bool _) ?_
  by_cases h0 : own.length = 0
  · have he : own = [] := List.length_eq_zero_iff.1 h0
    subst he
    cases hb : n.back
    · simp -implicitDefEqProofs [encNod, H.nil, nextP, hb]
    · simp -implicitDefEqProofs [encNod, H.nil, nextP, hb]
  obtain ⟨k, hk⟩ : ∃ k, own.length = k + 1 := ⟨own.length - 1, by omega⟩
  have hkl : k < own.length := by omega
  have hlast : own.getLast? = some own[k] := by
    rw [List.getLast?_eq_getElem?, hk]
    simp [hkl]
  obtain ⟨m0, m1⟩ := hm _ (List.getElem_mem hkl)
  have hw : IntKind.i64.wrap (((own.length : Nat) : Int) - 1) = (k : Int) := by rw [wrap_i64] <;> omega
  have hw1 : IntKind.i64.wrap (own[k].step + 1) = own[k].step + 1 := wrap_i64 (by omega) (by omega)
  have hw2 : IntKind.i64.wrap (own[k].step - 1) = own[k].step - 1 := wrap_i64 (by omega) (by omega)
  have hn : nextP own n steps = aftP own[k] n steps := by simp only [nextP, hlast]
  rw [hn]
  generalize hmk : own[k] = m at hw1 hw2
  have e6 : (own.map encNod)[k]'(by simpa using hkl) = encNod m := by simp [hmk]
  simp -implicitDefEqProofs [H.nil, h0]
  simp -implicitDefEqProofs [hw, hkl, hmk, encNod]
  by_cases hc : n.cls = m.cls
  rotate_left
  · simp -implicitDefEqProofs [encNod, hc, aftP]
  cases hb : n.back
  · cases hmb : m.back
    · by_cases hs : n.step = m.step + 1
      · simp -implicitDefEqProofs [encNod, hc, aftP, hb, hmb, hw1, hs]
      · simp -implicitDefEqProofs [encNod, hc, aftP, hb, hmb, hw1, hs]
    · simp -implicitDefEqProofs [encNod, hc, aftP, hb, hmb]
  · cases hmb : m.back
    · simp -implicitDefEqProofs [encNod, hc, aftP, hb, hmb]
    · simp -implicitDefEqProofs [encNod, hc, aftP, hb, hmb, hw2]
end Go.Proofs

/- Which footprints there may be: the program's answer; what may compensate. -/
namespace Go.Proofs
open Go Go.RowKit Go.Am

theorem footMay1_ok (x : SpanT) {args : Int} (a0 : 0 ≤ args) (a3 : args ≤ 3) {h : H} {b : Nat} (hb : b < h.bn) (hbx : h.bx b = some [.int .i64 args]) : SCall Try.prog 145 [.agg (encSpanT x), .ptr b 0] h (.bool (!(mayKey x.lo args && mayKey x.hi args))) h := by
  refine SCall.ro (CallP.run hb145 ok145 (by simp) ?_) (.bool _)
  simp -implicitDefEqProofs [encSpanT]
  refine run_dregL c145_d2 rfl ?_
  simp -implicitDefEqProofs []
  refine callC_p (reads_ok x.lo) (by simp [encKeyT]) ?_
  simp -implicitDefEqProofs [hbx, show ¬ b = h.bn by omega, show b < h.bn + 1 by omega]
  refine callC_p (progMay_ok [(⟨1, 0, 0, 0, x.lo, zeroK, 0⟩ : Inst)] args (by simp)) (by simp [encInst]) ?_
  rw [progMay_reads x.lo a0 a3]
  cases e : mayKey x.lo args
  · simp -implicitDefEqProofs []
    exact HF.alloc _ _ _ _
  simp -implicitDefEqProofs []
  refine callC_p (reads_ok x.hi) (by simp [encKeyT]) ?_
  simp -implicitDefEqProofs [hbx, show ¬ b = h.bn by omega, show b < h.bn + 1 by omega]
  refine callC_p (progMay_ok [(⟨1, 0, 0, 0, x.hi, zeroK, 0⟩ : Inst)] args (by simp)) (by simp [encInst]) ?_
  rw [progMay_reads x.hi a0 a3]
  simp -implicitDefEqProofs []
  exact HF.alloc _ _ _ _

theorem footMay_ok (l : List SpanT) (args : Int) (hl : l.length ≤ 9223372036854775807) : PCall Try.prog 120 [.sl .no (l.map encSpanT), .int .i64 args] (.bool (footMay l args)) := by
  refine PCall.run hb120 ok120 (by simp) (pures_cons (elOK_SpanT.pureL l) (pures1 (.int _ _))) (.bool _) ?_
  by_cases a0 : 0 ≤ args
  rotate_left
  · simp -implicitDefEqProofs [H.nil, a0, footMay, show args < 0 by omega]
  by_cases a3 : args ≤ 3
  rotate_left
  · simp -implicitDefEqProofs [H.nil, a0, a3, footMay, show 3 < args by omega]
  by_cases a4 : (l.length : Int) ≤ 4
  rotate_left
  · simp -implicitDefEqProofs [H.nil, a0, a3, a4, footMay, show 4 < l.length by omega]
  have hm : footMay l args = l.all fun s => mayKey s.lo args && mayKey s.hi args := by
    simp only [footMay, show ¬ args < 0 by omega, show ¬ 3 < args by omega, show ¬ 4 < l.length by omega]
    simp
  simp -implicitDefEqProofs [H.nil, a0, a3, a4]
  refine callQ_s (contains_gen hb147 ok147 hb160 ok160 elOK_SpanT l hl (first := []) (caps := [.ptr 0 0]) (p := fun x => !(mayKey x.lo args && mayKey x.hi args)) rfl (by simp) (fun x _ => footMay1_ok x a0 a3 (by simp) (by simp))) (by simp) ?_
  have ha := any_not l fun x : SpanT => mayKey x.lo args && mayKey x.hi args
  rw [hm]
  simp -implicitDefEqProofs []
  rw [← ha, Bool.not_not]
  congr 1
  funext x
  simp

def compMay (c : Stp) (args : Int) : Bool := (decide (c.code.length = 0) || (progMay c.code args && c.code.all sureI)) && footMay c.foot args
theorem mayComp_ok (c : Stp) (args : Int) (hc : c.wf) : PCall Try.prog 121 [.agg (encStp c), .int .i64 args] (.bool (compMay c args)) := by
  refine PCall.run hb121 ok121 (by simp) (pures_cons (.agg (pure_encStp c)) (pures1 (.int _ _))) (.bool _) ?_
  have h1 := hc.1.1
  have h2 := hc.2.1
  simp only [maxLen] at h1 h2
  by_cases e : c.code.length = 0
  · simp -implicitDefEqProofs [encStp, H.nil, e]
    refine callQ_p (footMay_ok c.foot args h2) (by simp) ?_
    simp -implicitDefEqProofs [compMay, e]
  · simp -implicitDefEqProofs [encStp, H.nil, e]
    refine callQ_p (progMay_ok c.code args h1) (by simp) ?_
    cases hp : progMay c.code args
    · simp -implicitDefEqProofs [compMay, e, hp]
    simp -implicitDefEqProofs []
    refine callQ_p (sure_ok c.code h1) (by simp) ?_
    cases hs : c.code.all sureI
    · simp -implicitDefEqProofs [compMay, e, hp, hs]
    simp -implicitDefEqProofs []
    refine callQ_p (footMay_ok c.foot args h2) (by simp) ?_
    simp -implicitDefEqProofs [compMay, e, hp, hs]

theorem one_ops {x : Inst} {args : Int} (h : oneInst x args = true) : decide (x.op < 6) = sureI x := by
  have : 1 ≤ x.op ∧ x.op ≤ 8 := by
    by_cases hq : 1 ≤ x.op ∧ x.op ≤ 8
    · exact hq
    · simp only [oneInst] at h
      rw [if_neg (by omega), if_neg (by omega), if_neg (by omega), if_neg (by omega), if_neg (by omega)] at h
      cases h
  rw [Bool.eq_iff_iff]
  simp [sureI]
  omega
theorem comp_back (c : Stp) (args : Int) : compMay c args = (footMay c.foot args && backMay c args) := by
  rw [compMay, backMay, Bool.and_comm]
  congr 1
  by_cases h0 : c.code.length = 0
  · have : c.code = [] := List.length_eq_zero_iff.1 h0
    simp [this]
  · have h1 : 0 < c.code.length := by omega
    simp only [h0, h1, decide_false, decide_true, Bool.false_or, Bool.not_true]
    cases hp : progMay c.code args
    · rfl
    · simp only [Bool.true_and]
      simp only [progMay, Bool.and_eq_true] at hp
      have ho := hp.2
      rw [List.all_eq_true] at ho
      rw [Bool.eq_iff_iff, List.all_eq_true, List.all_eq_true]
      constructor
      · intro h x hx; rw [one_ops (ho x hx)]; exact h x hx
      · intro h x hx; rw [← one_ops (ho x hx)]; exact h x hx
end Go.Proofs

/- The steps of a class, over which one ranges; which classes there may be: the program's answer. -/
namespace Go.Proofs
open Go Go.RowKit Go.Am

theorem each_ok (c : Cls) (h : H) : SCall Try.prog 95 [.agg (encCls c)] h (.fn 131 [] [.ptr h.bn 0]) (h.alloc (encCls c)) := by
  refine SCall.newG (fun b => .fn 131 [] [.ptr b 0]) (fun _ _ _ _ _ _ _ h1 h2 => Low.fn1 (Low.ptr h1 h2)) (CallP.run hb95 ok95 (by simp) ?_) (pure_encCls c)
  simp -implicitDefEqProofs [encCls]
  exact ⟨HF.alloc _ _ _ _, WkL.refl _⟩

/-- One round after the other, as long as one goes on. -/
theorem each1_ok (c : Cls) (hl : c.comps.length = c.steps.length) (hm : c.steps.length ≤ 9223372036854775807) {l b : Nat} {h : H} (I : Nat → H → Prop) (J : H → Prop) (hI : ∀ k h', I k h' → b < h'.bn ∧ h'.bx b = some (encCls c)) (hJ : ∀ h', J h' → b < h'.bn ∧ h'.bx b = some (encCls c))
    (hr : ∀ k h' (h1 : k < c.steps.length) (h2 : k < c.comps.length), I k h' → ∃ r h'', SYld Try.prog l [.agg (encStp c.steps[k]), .agg (encStp c.comps[k])] h' (.bool r) h'' ∧ (r = true → I (k + 1) h'') ∧ (r = false → J h''))
    (h0 : I 0 h) : CallP Try.prog 131 [.yld l, .ptr b 0] h fun _ h1 => I c.steps.length h1 ∨ J h1 := by
  refine CallP.run hb131 ok131 (by simp) ?_
  obtain ⟨b1, b2⟩ := hI _ _ h0
  simp -implicitDefEqProofs [b1, b2, encCls, hl]
  refine run_loop (fun m s h1 => ∃ j : Nat, m = c.steps.length - j ∧ j ≤ c.steps.length ∧ s 0 = .yld l ∧ s 1 = .ptr b 0 ∧ s 10 = .int .i64 c.steps.length ∧ s 11 = .int .i64 j ∧ I j h1) ?_ c.steps.length ?_
  rotate_left
  · exact ⟨0, by simpa using h0⟩
  rintro m s h1 ⟨j, hn, hj, s0, s1, s10, s11, hi⟩ ih
  by_cases hlt : j < c.steps.length
  · have hlt2 : j < c.comps.length := by omega
    obtain ⟨b1, b2⟩ := hI _ _ hi
    rw [encCls] at b2
    simp -implicitDefEqProofs [s10, s11, hlt]
    refine run_dreg c131_d4 ?_
    simp -implicitDefEqProofs [s0, s1, b1, b2, hlt, hlt2, encStp]
    obtain ⟨r, h2, q1, q2, q3⟩ := hr j h1 hlt hlt2 hi
    refine callD_y q1 (by simp [encStp]) ?_
    cases r
    · obtain ⟨b3, b4⟩ := hJ _ (q3 rfl)
      rw [encCls] at b4
      simp -implicitDefEqProofs [b1, b2, b3, b4]
      exact Or.inr (q3 rfl)
    · obtain ⟨b3, b4⟩ := hI _ _ (q2 rfl)
      rw [encCls] at b4
      simp -implicitDefEqProofs [b1, b2, b3, b4, s11, inc_i64 hlt hm, -Int.natCast_add]
      exact ih (c.steps.length - (j + 1)) _ _ (by omega) ⟨j + 1, rfl, by omega, by simp [s0], by simp [s1], by simp [s10], by simp, q2 rfl⟩
  · obtain rfl : j = c.steps.length := by omega
    simp -implicitDefEqProofs [s10, s11]
    exact Or.inl hi
end Go.Proofs

/- Which classes there may be: the program's answer. -/
namespace Go.Proofs
open Go Go.RowKit Go.Am

theorem stepMay_parts (a : Int) (s u : Stp) : stepMay a (s, u) = (progMay s.code a && footMay s.foot a && compMay u a) := by
  rw [comp_back, stepMay]
  cases progMay s.code a <;> cases footMay s.foot a <;> cases footMay u.foot a <;> cases backMay u a <;> rfl

set_option maxHeartbeats 1000000 in
theorem classMay_ok (c : Cls) (hc : c.wf) : PCall Try.prog 84 [.agg (encCls c)] (.bool (clsMay c)) := by
  refine PCall.run hb84 ok84 (by simp) (pures1 (.agg (pure_encCls c))) (.bool _) ?_
  obtain ⟨hwn, hwa, ⟨hsl, hsw⟩, hcl, hcw⟩ := hc
  by_cases bad : (((((((c.name.size : Int) < 1 ∨ (16 : Int) < (c.name.size : Int)) ∨ c.args < 0) ∨ 3 < c.args) ∨ (c.steps.length : Int) < 1) ∨ (4 : Int) < (c.steps.length : Int)) ∨ ¬ c.comps.length = c.steps.length)
  · have hf : clsMay c = false := by
      simp only [clsMay, Bool.and_eq_false_iff, Bool.not_eq_false', decide_eq_true_eq, decide_eq_false_iff_not]
      omega
    simp (maxSteps := 2000000) +contextual -implicitDefEqProofs [↓gdL_T, ↓gdL_F, ↓condQ_b, -Int.not_lt, -Int.not_le, -Nat.not_lt, -Nat.not_le, hf, encCls, H.nil]
    all_goals (intros; omega)
  have hm : clsMay c = (c.steps.zip c.comps).all (stepMay c.args) := by
    simp only [clsMay, show ¬ c.name.size < 1 by omega, show ¬ 16 < c.name.size by omega, show ¬ c.args < 0 by omega, show ¬ 3 < c.args by omega, show ¬ c.steps.length < 1 by omega, show ¬ 4 < c.steps.length by omega, show c.comps.length = c.steps.length by omega]
    simp
  have hcs : c.comps.length = c.steps.length := by omega
  have e1 : ¬ (c.name.size : Int) < 1 := by omega
  have e2 : ¬ (16 : Int) < (c.name.size : Int) := by omega
  have e3 : ¬ c.args < 0 := by omega
  have e4 : ¬ 3 < c.args := by omega
  have e5 : ¬ (c.steps.length : Int) < 1 := by omega
  have e6 : ¬ (4 : Int) < (c.steps.length : Int) := by omega
  simp -implicitDefEqProofs [encCls, H.nil, e1, e2, e3, e4, e5, e6, hcs]
  refine callQ_s (each_ok c _) (by simp [encCls]) ?_
  simp -implicitDefEqProofs []
  generalize hS : (su _ 45 _ : Slots) = S
  have s1 : S 1 = .ptr 0 0 := by rw [← hS]; simp
  have s2 : S 2 = .ptr 1 0 := by rw [← hS]; simp
  have s45 : S 45 = .fn 131 [] [.ptr 2 0] := by rw [← hS]; simp
  clear hS
  have hzl : (c.steps.zip c.comps).length = c.steps.length := by simp [hcs]
  let q0 : LoopA := ⟨S, [46, 47], c84_x10, c84_y11, .ready, none⟩
  let qE : LoopA := ⟨S, [46, 47], c84_x10, c84_y11, .done, some .ret⟩
  let I : Nat → H → Prop := fun k h1 => 0 < h1.ln ∧ h1.lp 0 = some q0 ∧ 3 ≤ h1.bn ∧ h1.bx 0 = some (encCls c) ∧ h1.bx 1 = some [.bool false] ∧ h1.bx 2 = some (encCls c) ∧ ∀ i (hi : i < (c.steps.zip c.comps).length), i < k → stepMay c.args (c.steps.zip c.comps)[i] = true
  let J : H → Prop := fun h1 => 0 < h1.ln ∧ h1.lp 0 = some qE ∧ 3 ≤ h1.bn ∧ h1.bx 1 = some [.bool false] ∧ h1.bx 2 = some (encCls c) ∧ (c.steps.zip c.comps).all (stepMay c.args) = false
  refine .rngf (Z := fun _ h1 => I c.steps.length h1 ∨ J h1) (F := 131) (first := []) (caps := [.ptr 2 0]) rfl (by simpa using s45) (each1_ok c hcs hsl I J (fun k h' ⟨_, _, q1, _, _, q2, _⟩ => ⟨by omega, q2⟩) (fun h' ⟨_, _, q1, _, q2, _⟩ => ⟨by omega, q2⟩) ?_ ?_) ?_ ?_
  · rintro k h' k1 k2 ⟨j1, j2, j3, j4, j5, j6, j7⟩
    have hws := hsw _ (List.getElem_mem k1)
    have hwc := hcw _ (List.getElem_mem k2)
    have hp1 := hws.1.1
    have hp2 := hws.2.1
    have hlz : k < (c.steps.zip c.comps).length := by omega
    have j4' := j4
    rw [encCls] at j4
    have b1 : 0 < h'.bn := by omega
    have hbad : stepMay c.args (c.steps[k], c.comps[k]) = false → Run Try.prog true [.c c84_x10, .beg 0, .c c84_y11] (roundQ 0 fun r1 h1 => r1 = .bool false ∧ h1.lp 0 = some qE ∧ HF h' (h1.setLoop 0 (some q0)) (fun _ => False) (fun _ => False)) (slotsP S [46, 47] [.agg (encStp c.steps[k]), .agg (encStp c.comps[k])]) h' → ∃ r h'', SYld Try.prog 0 [.agg (encStp c.steps[k]), .agg (encStp c.comps[k])] h' (.bool r) h'' ∧ (r = true → I (k + 1) h'') ∧ (r = false → J h'') := fun hn hrun => by
      refine ⟨false, _, SYld.ro (q := q0) (q' := qE) j1 j2 rfl rfl (.bool _) hrun, (fun h => by cases h), fun _ => ⟨by simpa using j1, by simp, by simpa using j3, by simpa using j5, by simpa using j6, ?_⟩⟩
      exact all_take_false hlz (by rw [List.getElem_zip]; exact hn)
    have hgood : stepMay c.args (c.steps[k], c.comps[k]) = true → Run Try.prog true [.c c84_x10, .beg 0, .c c84_y11] (roundQ 0 fun r1 h1 => r1 = .bool true ∧ h1.lp 0 = some q0 ∧ HF h' (h1.setLoop 0 (some q0)) (fun _ => False) (fun _ => False)) (slotsP S [46, 47] [.agg (encStp c.steps[k]), .agg (encStp c.comps[k])]) h' → ∃ r h'', SYld Try.prog 0 [.agg (encStp c.steps[k]), .agg (encStp c.comps[k])] h' (.bool r) h'' ∧ (r = true → I (k + 1) h'') ∧ (r = false → J h'') := fun hn hrun => by
      refine ⟨true, _, SYld.ro (q := q0) (q' := q0) j1 j2 rfl rfl (.bool _) hrun, fun _ => ⟨by simpa using j1, by simp, by simpa using j3, by simpa using j4', by simpa using j5, by simpa using j6, fun i hi hij => ?_⟩, fun h => by cases h⟩
      by_cases h : i = k
      · subst h; rw [List.getElem_zip]; exact hn
      · exact j7 i hi (by omega)
    rw [stepMay_parts] at hbad hgood
    have z0 : ¬ 0 = h'.bn := by omega
    have z1 : ¬ 0 = h'.bn + 1 := by omega
    have z2 : ¬ 1 = h'.bn := by omega
    have z3 : ¬ 1 = h'.bn + 1 := by omega
    have z4 : ¬ h'.bn = 0 := by omega
    have b2 : 1 < h'.bn := by omega
    have c0 : 0 < h'.bn + 1 + 1 := by omega
    have c1 : 1 < h'.bn + 1 + 1 := by omega
    cases hp : progMay c.steps[k].code c.args
    · refine hbad (by simp [hp]) ?_
      simp -implicitDefEqProofs [slotsP, s1, j1, j2, j4, z0, z4, c0, q0, encStp]
      refine callQ_p (progMay_ok c.steps[k].code c.args hp1) (by simp) ?_
      simp -implicitDefEqProofs [slotsP, s2, j1, j5, z2, z4, c1, q0, roundQ, encStp, hp]
      refine ⟨rfl, by simp; omega, fun b hb hn => ?_, by simp, by simp, by simp, fun l hl => ?_, by simp, by simp⟩
      · by_cases h1 : b = 1
        · subst h1; simp [j5]
        · simp [show ¬ b = h'.bn by omega, show ¬ b = h'.bn + 1 by omega, h1]
      · by_cases h0 : l = 0
        · subst h0; simp [j2, q0]
        · simp [h0]
    cases hq : footMay c.steps[k].foot c.args
    · refine hbad (by simp [hp, hq]) ?_
      simp -implicitDefEqProofs [slotsP, s1, j1, j2, j4, z0, z4, c0, q0, encStp]
      refine callQ_p (progMay_ok c.steps[k].code c.args hp1) (by simp) ?_
      simp -implicitDefEqProofs [slotsP, s1, j4, z0, z4, c0, encStp, hp]
      refine callQ_p (footMay_ok c.steps[k].foot c.args hp2) (by simp) ?_
      simp -implicitDefEqProofs [slotsP, s2, j1, j5, z2, z4, c1, q0, roundQ, encStp, hq]
      refine ⟨rfl, by simp; omega, fun b hb hn => ?_, by simp, by simp, by simp, fun l hl => ?_, by simp, by simp⟩
      · by_cases h1 : b = 1
        · subst h1; simp [j5]
        · simp [show ¬ b = h'.bn by omega, show ¬ b = h'.bn + 1 by omega, h1]
      · by_cases h0 : l = 0
        · subst h0; simp [j2, q0]
        · simp [h0]
    cases hr : compMay c.comps[k] c.args
    · refine hbad (by simp [hp, hq, hr]) ?_
      simp -implicitDefEqProofs [slotsP, s1, j1, j2, j4, z0, z4, c0, q0, encStp]
      refine callQ_p (progMay_ok c.steps[k].code c.args hp1) (by simp) ?_
      simp -implicitDefEqProofs [slotsP, s1, j4, z0, z4, c0, encStp, hp]
      refine callQ_p (footMay_ok c.steps[k].foot c.args hp2) (by simp) ?_
      simp -implicitDefEqProofs [slotsP, s1, j4, z0, z4, c0, encStp, hq]
      refine callQ_p (mayComp_ok c.comps[k] c.args hwc) (by simp [encStp]) ?_
      simp -implicitDefEqProofs [slotsP, s2, j1, j5, z2, z4, c1, q0, roundQ, encStp, hr]
      refine ⟨rfl, by simp; omega, fun b hb hn => ?_, by simp, by simp, by simp, fun l hl => ?_, by simp, by simp⟩
      · by_cases h1 : b = 1
        · subst h1; simp [j5]
        · simp [show ¬ b = h'.bn by omega, show ¬ b = h'.bn + 1 by omega, h1]
      · by_cases h0 : l = 0
        · subst h0; simp [j2, q0]
        · simp [h0]
    · refine hgood (by simp [hp, hq, hr]) ?_
      simp -implicitDefEqProofs [slotsP, s1, j1, j2, j4, z0, z4, c0, q0, encStp]
      refine callQ_p (progMay_ok c.steps[k].code c.args hp1) (by simp) ?_
      simp -implicitDefEqProofs [slotsP, s1, j4, z0, z4, c0, encStp, hp]
      refine callQ_p (footMay_ok c.steps[k].foot c.args hp2) (by simp) ?_
      simp -implicitDefEqProofs [slotsP, s1, j4, z0, z4, c0, encStp, hq]
      refine callQ_p (mayComp_ok c.comps[k] c.args hwc) (by simp [encStp]) ?_
      simp -implicitDefEqProofs [slotsP, j1, q0, roundQ, encStp, hr]
      refine ⟨by simp; omega, fun b hb hn => ?_, by simp, by simp, by simp, fun l hl => ?_, by simp, by simp⟩
      · by_cases h1 : b = 1
        · subst h1; simp [j5, z2, z4]
        · simp [show ¬ b = h'.bn by omega, show ¬ b = h'.bn + 1 by omega]
      · by_cases h0 : l = 0
        · subst h0; simp [j2, q0]
        · simp [h0]
  · exact ⟨by simp, by simp [q0], by simp, by simp [encCls], by simp, by simp [encCls], fun i hi hij => absurd hij (by omega)⟩
  · rintro v h2 (⟨j1, j2, _⟩ | ⟨j1, j2, _⟩)
    · exact ⟨j1, _, j2, by simp [q0]⟩
    · exact ⟨j1, _, j2, by simp [qE]⟩
  · rintro v h2 q (⟨j1, j2, j3, j4, j5, j6, j7⟩ | ⟨j1, j2, j3, j5, j6, j7⟩) hq
    · have hw := all_whole (p := stepMay c.args) (l := c.steps.zip c.comps) (j := c.steps.length) (by omega) j7
      replace hq : h2.lp 0 = some q := hq
      rw [j2] at hq
      cases hq
      simp -implicitDefEqProofs [pendK, q0, s2, j5, show 1 < h2.bn by omega, hm, hw]
    · replace hq : h2.lp 0 = some q := hq
      rw [j2] at hq
      cases hq
      simp -implicitDefEqProofs [pendK, qE, s2, j5, show 1 < h2.bn by omega, hm, j7]
end Go.Proofs
