/- What the functions that the statement reaches do: their contracts; and what follows of it. -/
import Derived.Test.YtedmjhckiiponaaSClassWords4
import Derived.Test.YtedmjhckiiponaaK4
/- Which programs there may be: the program's answer, joined. -/
namespace Go.Proofs
open Go Go.RowKit Go.Am

def mayI (x : Inst) (args : Int) : Bool := (onlyI x).2 && decide (x = (onlyI x).1) && isReg x.a && isReg x.b && isReg x.c && !(keysI x).any fun k => !mayKey k args

theorem may1_ok (k : KeyT) (args : Int) {h : H} {b : Nat} (hb : b < h.bn) (hbx : h.bx b = some [.int .i64 args]) : SCall Try.prog 155 [.agg (encKeyT k), .ptr b 0] h (.bool (!mayKey k args)) h := by
  refine SCall.ro (CallP.run hb155 ok155 (by simp) ?_) (.bool _)
  simp -implicitDefEqProofs [hbx, encKeyT, show ¬ b = h.bn by omega, show b < h.bn + 1 by omega]
  refine callQ_p (mayKey_ok k args) (by simp [encKeyT]) ?_
  simp -implicitDefEqProofs []
  exact HF.alloc _ _ _ _

theorem eqInst_f {x y : Inst} (h : x ≠ y) : (decide (x.op = y.op) && (decide (x.a = y.a) && (decide (x.b = y.b) && (decide (x.c = y.c) && (decide (x.k.arg = y.k.arg) && (decide (x.k.base = y.k.base) && (decide (x.l.arg = y.l.arg) && (decide (x.l.base = y.l.base) && decide (x.x = y.x))))))))) = false := by
  rw [Bool.eq_false_iff]
  intro hc
  apply h
  simp only [Bool.and_eq_true, decide_eq_true_eq] at hc
  rcases x with ⟨a, b, c, d, ⟨e, f⟩, ⟨g, i⟩, j⟩
  rcases y with ⟨a', b', c', d', ⟨e', f'⟩, ⟨g', i'⟩, j'⟩
  simp_all

theorem may_ok (x : Inst) (args : Int) : PCall Try.prog 144 [.agg (encInst x), .int .i64 args] (.bool (mayI x args)) := by
  refine PCall.run hb144 ok144 (by simp) (pures_cons (pureInst x) (pures1 (.int _ _))) (.bool _) ?_
  simp -implicitDefEqProofs [encInst, H.nil]
  refine callQ_p (only_ok x) (by simp [encInst]) ?_
  cases e : (onlyI x).2
  · simp -implicitDefEqProofs [encInst, mayI, e]
  simp -implicitDefEqProofs [encInst]
  by_cases hq : x = (onlyI x).1
  rotate_left
  · have hch := eqInst_f hq
    rw [hch]
    simp -implicitDefEqProofs [mayI, hq]
  have hq' : (onlyI x).1 = x := hq.symm
  simp -implicitDefEqProofs [hq']
  refine callQ_p (register_ok x.a) (by simp) ?_
  cases ra : isReg x.a
  · simp -implicitDefEqProofs [mayI, ra, hq']
  simp -implicitDefEqProofs [hq']
  refine callQ_p (register_ok x.b) (by simp) ?_
  cases rb : isReg x.b
  · simp -implicitDefEqProofs [mayI, rb, hq']
  simp -implicitDefEqProofs [hq']
  refine callQ_p (register_ok x.c) (by simp) ?_
  cases rc : isReg x.c
  · simp -implicitDefEqProofs [mayI, rc, hq']
  simp -implicitDefEqProofs [hq']
  refine callQ_p (keys_ok x) (by simp [encInst]) ?_
  simp -implicitDefEqProofs [hq']
  refine callQ_s (contains_gen hb158 ok158 hb162 ok162 elOK_KeyT (keysI x) (by unfold keysI; split; simp; split <;> simp) (first := []) (caps := [.ptr 1 0]) (p := fun k => !mayKey k args) rfl (by simp) (fun k _ => may1_ok k args (by simp) (by simp))) (by simp) ?_
  simp -implicitDefEqProofs [mayI, e, hq', ra, rb, rc]
end Go.Proofs

/- Which programs and footprints there may be: the program's answer is the document's. -/
namespace Go.Proofs
open Go Go.RowKit Go.Am

theorem isReg_iff (n : Int) : isReg n = true ↔ 0 ≤ n ∧ n ≤ 3 := by simp [isReg]
theorem mayI_one (x : Inst) (args : Int) : mayI x args = oneInst x args := by
  rcases x with ⟨op, a, b, c, ⟨ka, kb⟩, ⟨la, lb⟩, y⟩
  have z0 : isReg 0 = true := by decide
  by_cases h1 : op = 1 ∨ op = 2
  · have h2 : op = 1 ∨ op = 2 ∨ op = 3 := by omega
    simp only [mayI, oneInst, onlyI, keysI, if_pos h1, if_pos h2, zeroK, keyNone]
    rw [Bool.eq_iff_iff]
    simp
    intro hk
    constructor
    · rintro ⟨⟨⟨⟨rfl, rfl, ⟨rfl, rfl⟩, rfl⟩, ha⟩, hb⟩, hc⟩
      simp [ha]
    · rintro ⟨⟨⟨⟨ha, rfl⟩, rfl⟩, rfl⟩, rfl, rfl⟩
      simp [ha, z0]
  by_cases h3 : op = 3
  · have h2 : op = 1 ∨ op = 2 ∨ op = 3 := by omega
    simp only [mayI, oneInst, onlyI, keysI, if_neg h1, if_pos h3, if_pos h2, zeroK, keyNone]
    rw [Bool.eq_iff_iff]
    simp
    intro hk
    constructor
    · rintro ⟨⟨⟨⟨rfl, rfl, rfl, ⟨rfl, rfl⟩, rfl⟩, ha⟩, hb⟩, hc⟩
      simp
    · rintro ⟨⟨⟨⟨rfl, rfl⟩, rfl⟩, rfl⟩, rfl, rfl⟩
      simp [z0]
  have h2 : ¬ (op = 1 ∨ op = 2 ∨ op = 3) := by omega
  by_cases h4 : op = 4
  · simp only [mayI, oneInst, onlyI, keysI, if_neg h1, if_neg h3, if_pos h4, if_neg h2, zeroK, keyNone]
    rw [Bool.eq_iff_iff]
    simp
    constructor
    · rintro ⟨⟨⟨⟨⟨rfl, rfl, rfl⟩, ha⟩, hb⟩, hc⟩, hk, hl⟩
      simp [ha, hk, hl]
    · rintro ⟨⟨⟨⟨⟨ha, rfl⟩, rfl⟩, rfl⟩, hk⟩, hl⟩
      simp [ha, hk, hl, z0]
  by_cases h5 : op = 5 ∨ op = 8
  · simp only [mayI, oneInst, onlyI, keysI, if_neg h1, if_neg h3, if_neg h4, if_neg h2, if_pos h5, zeroK, keyNone]
    rw [Bool.eq_iff_iff]
    simp
    constructor
    · rintro ⟨⟨⟨⟨rfl, rfl, ⟨rfl, rfl⟩, ⟨rfl, rfl⟩⟩, ha⟩, hb⟩, hc⟩
      simp [ha]
    · rintro ⟨⟨⟨⟨ha, rfl⟩, rfl⟩, rfl, rfl⟩, rfl, rfl⟩
      simp [ha, z0]
  by_cases h6 : op = 6 ∨ op = 7
  · simp only [mayI, oneInst, onlyI, keysI, if_neg h1, if_neg h3, if_neg h4, if_neg h2, if_neg h5, if_pos h6, zeroK, keyNone]
    rw [Bool.eq_iff_iff]
    simp
    constructor
    · rintro ⟨⟨⟨⟨⟨rfl, rfl⟩, ⟨rfl, rfl⟩, rfl⟩, ha⟩, hb⟩, hc⟩
      simp [ha, hb, hc]
    · rintro ⟨⟨⟨⟨⟨ha, rfl⟩, hb⟩, hc⟩, rfl, rfl⟩, rfl, rfl⟩
      simp [ha, hb, hc]
  simp only [mayI, oneInst, onlyI, keysI, if_neg h1, if_neg h3, if_neg h4, if_neg h2, if_neg h5, if_neg h6]
  simp

theorem May1_ok (x : Inst) (args : Int) {h : H} {b : Nat} (hb : b < h.bn) (hbx : h.bx b = some [.int .i64 args]) : SCall Try.prog 143 [.agg (encInst x), .ptr b 0] h (.bool (!oneInst x args)) h := by
  refine SCall.ro (CallP.run hb143 ok143 (by simp) ?_) (.bool _)
  simp -implicitDefEqProofs [hbx, encInst, show ¬ b = h.bn by omega, show b < h.bn + 1 by omega]
  refine callQ_p (may_ok x args) (by simp [encInst]) ?_
  simp -implicitDefEqProofs [mayI_one]
  exact HF.alloc _ _ _ _

theorem any_not {α : Type} (l : List α) (p : α → Bool) : (!l.any fun x => !p x) = l.all p := by
  rw [Bool.eq_iff_iff]; simp

theorem progMay_ok (l : List Inst) (args : Int) (hl : l.length ≤ 9223372036854775807) : PCall Try.prog 119 [.sl .no (l.map encInst), .int .i64 args] (.bool (progMay l args)) := by
  refine PCall.run hb119 ok119 (by simp) (pures_cons (elOK_Inst.pureL l) (pures1 (.int _ _))) (.bool _) ?_
  by_cases bad : ((args < 0 ∨ 3 < args) ∨ (l.length : Int) < 1) ∨ (8 : Int) < (l.length : Int)
  · have hf : progMay l args = false := by
      simp only [progMay, Bool.and_eq_false_iff, Bool.not_eq_false', decide_eq_true_eq]
      omega
    simp (maxSteps := 2000000) +contextual -implicitDefEqProofs [↓gdL_T, ↓gdL_F, ↓condQ_b, -Int.not_lt, -Int.not_le, -Nat.not_lt, -Nat.not_le, hf, H.nil]
    all_goals (intros; omega)
  · have hm : progMay l args = l.all fun x => oneInst x args := by
      simp only [progMay, show ¬ args < 0 by omega, show ¬ 3 < args by omega, show ¬ l.length < 1 by omega, show ¬ 8 < l.length by omega]
      simp
    simp -implicitDefEqProofs [H.nil, show ¬ args < 0 by omega, show ¬ 3 < args by omega, show ¬ (l.length : Int) < 1 by omega, show ¬ (8 : Int) < (l.length : Int) by omega, hm]
    refine callQ_s (contains_gen hb142 ok142 hb153 ok153 elOK_Inst l hl (first := []) (caps := [.ptr 0 0]) (p := fun x => !oneInst x args) rfl (by simp) (fun x _ => May1_ok x args (by simp) (by simp))) (by simp) ?_
    simp -implicitDefEqProofs [any_not]

def sureI (x : Inst) : Bool := !(decide (x.op = 6) || decide (x.op = 7) || decide (x.op = 8))
theorem Sure1_ok (x : Inst) : PCall Try.prog 161 [.agg (encInst x)] (.bool (!sureI x)) := by
  refine PCall.run hb161 ok161 (by simp) (pures1 (pureInst x)) (.bool _) ?_
  by_cases h6 : x.op = 6
  · simp -implicitDefEqProofs [encInst, sureI, h6]
  by_cases h7 : x.op = 7
  · simp -implicitDefEqProofs [encInst, sureI, h7]
  simp -implicitDefEqProofs [encInst, sureI, h6, h7]
theorem sure_ok (l : List Inst) (hl : l.length ≤ 9223372036854775807) : PCall Try.prog 148 [.sl .no (l.map encInst)] (.bool (l.all sureI)) := by
  refine PCall.run hb148 ok148 (by simp) (pures1 (elOK_Inst.pureL l)) (.bool _) ?_
  simp -implicitDefEqProofs []
  refine callQ_s (contains_gen hb142 ok142 hb153 ok153 elOK_Inst l hl (first := []) (caps := []) (p := fun x => !sureI x) rfl rfl (fun x _ => Sure1_ok x _)) (by simp) ?_
  simp -implicitDefEqProofs [any_not]

theorem reads_ok (k : KeyT) : PCall Try.prog 146 [.agg (encKeyT k)] (.sl .no ([(⟨1, 0, 0, 0, k, zeroK, 0⟩ : Inst)].map encInst)) := by
  refine PCall.run hb146 ok146 (by simp) (pures1 (pureKey k)) (elOK_Inst.pureL _) ?_
  simp -implicitDefEqProofs [encKeyT, encInst, zeroK, H.nil]
theorem progMay_reads (k : KeyT) {args : Int} (h0 : 0 ≤ args) (h3 : args ≤ 3) : progMay [(⟨1, 0, 0, 0, k, zeroK, 0⟩ : Inst)] args = mayKey k args := by
  have z0 : isReg 0 = true := by decide
  simp [progMay, oneInst, z0, zeroK, keyNone]
  intro; omega
end Go.Proofs

/- Which footprints there may be: the program's answer; what may compensate. -/
namespace Go.Proofs
open Go Go.RowKit Go.Am

theorem footMay1_ok (x : SpanT) {args : Int} (a0 : 0 ≤ args) (a3 : args ≤ 3) {h : H} {b : Nat} (hb : b < h.bn) (hbx : h.bx b = some [.int .i64 args]) : SCall Try.prog 145 [.agg (encSpanT x), .ptr b 0] h (.bool (!(mayKey x.lo args && mayKey x.hi args))) h := by
  refine SCall.ro (CallP.run hb145 ok145 (by simp) ?_) (.bool _)
  simp -implicitDefEqProofs [encSpanT]
  refine run_dregL c145_d2 rfl ?_
  simp -implicitDefEqProofs []
  refine callC_p (reads_ok x.lo) (by simp [encKeyT]) ?_
  simp -implicitDefEqProofs [hbx, show ¬ b = h.bn by omega, show b < h.bn + 1 by omega]
  refine callC_p (progMay_ok [(⟨1, 0, 0, 0, x.lo, zeroK, 0⟩ : Inst)] args (by simp)) (by simp [encInst]) ?_
  rw [progMay_reads x.lo a0 a3]
  cases e : mayKey x.lo args
  · simp -implicitDefEqProofs []
    exact HF.alloc _ _ _ _
  simp -implicitDefEqProofs []
  refine callC_p (reads_ok x.hi) (by simp [encKeyT]) ?_
  simp -implicitDefEqProofs [hbx, show ¬ b = h.bn by omega, show b < h.bn + 1 by omega]
  refine callC_p (progMay_ok [(⟨1, 0, 0, 0, x.hi, zeroK, 0⟩ : Inst)] args (by simp)) (by simp [encInst]) ?_
  rw [progMay_reads x.hi a0 a3]
  simp -implicitDefEqProofs []
  exact HF.alloc _ _ _ _

theorem footMay_ok (l : List SpanT) (args : Int) (hl : l.length ≤ 9223372036854775807) : PCall Try.prog 120 [.sl .no (l.map encSpanT), .int .i64 args] (.bool (footMay l args)) := by
  refine PCall.run hb120 ok120 (by simp) (pures_cons (elOK_SpanT.pureL l) (pures1 (.int _ _))) (.bool _) ?_
  by_cases a0 : 0 ≤ args
  rotate_left
  · simp -implicitDefEqProofs [H.nil, a0, footMay, show args < 0 by omega]
  by_cases a3 : args ≤ 3
  rotate_left
  · simp -implicitDefEqProofs [H.nil, a0, a3, footMay, show 3 < args by omega]
  by_cases a4 : (l.length : Int) ≤ 4
  rotate_left
  · simp -implicitDefEqProofs [H.nil, a0, a3, a4, footMay, show 4 < l.length by omega]
  have hm : footMay l args = l.all fun s => mayKey s.lo args && mayKey s.hi args := by
    simp only [footMay, show ¬ args < 0 by omega, show ¬ 3 < args by omega, show ¬ 4 < l.length by omega]
    simp
  simp -implicitDefEqProofs [H.nil, a0, a3, a4]
  refine callQ_s (contains_gen hb147 ok147 hb160 ok160 elOK_SpanT l hl (first := []) (caps := [.ptr 0 0]) (p := fun x => !(mayKey x.lo args && mayKey x.hi args)) rfl (by simp) (fun x _ => footMay1_ok x a0 a3 (by simp) (by simp))) (by simp) ?_
  have ha := any_not l fun x : SpanT => mayKey x.lo args && mayKey x.hi args
  rw [hm]
  simp -implicitDefEqProofs []
  rw [← ha, Bool.not_not]
  congr 1
  funext x
  simp

def compMay (c : Stp) (args : Int) : Bool := (decide (c.code.length = 0) || (progMay c.code args && c.code.all sureI)) && footMay c.foot args
theorem mayComp_ok (c : Stp) (args : Int) (hc : c.wf) : PCall Try.prog 121 [.agg (encStp c), .int .i64 args] (.bool (compMay c args)) := by
  refine PCall.run hb121 ok121 (by simp) (pures_cons (.agg (pure_encStp c)) (pures1 (.int _ _))) (.bool _) ?_
  have h1 := hc.1.1
  have h2 := hc.2.1
  simp only [maxLen] at h1 h2
  by_cases e : c.code.length = 0
  · simp -implicitDefEqProofs [encStp, H.nil, e]
    refine callQ_p (footMay_ok c.foot args h2) (by simp) ?_
    simp -implicitDefEqProofs [compMay, e]
  · simp -implicitDefEqProofs [encStp, H.nil, e]
    refine callQ_p (progMay_ok c.code args h1) (by simp) ?_
    cases hp : progMay c.code args
    · simp -implicitDefEqProofs [compMay, e, hp]
    simp -implicitDefEqProofs []
    refine callQ_p (sure_ok c.code h1) (by simp) ?_
    cases hs : c.code.all sureI
    · simp -implicitDefEqProofs [compMay, e, hp, hs]
    simp -implicitDefEqProofs []
    refine callQ_p (footMay_ok c.foot args h2) (by simp) ?_
    simp -implicitDefEqProofs [compMay, e, hp, hs]

theorem one_ops {x : Inst} {args : Int} (h : oneInst x args = true) : decide (x.op < 6) = sureI x := by
  have : 1 ≤ x.op ∧ x.op ≤ 8 := by
    by_cases hq : 1 ≤ x.op ∧ x.op ≤ 8
    · exact hq
    · simp only [oneInst] at h
      rw [if_neg (by omega), if_neg (by omega), if_neg (by omega), if_neg (by omega), if_neg (by omega)] at h
      cases h
  rw [Bool.eq_iff_iff]
  simp [sureI]
  omega
theorem comp_back (c : Stp) (args : Int) : compMay c args = (footMay c.foot args && backMay c args) := by
  rw [compMay, backMay, Bool.and_comm]
  congr 1
  by_cases h0 : c.code.length = 0
  · have : c.code = [] := List.length_eq_zero_iff.1 h0
    simp [this]
  · have h1 : 0 < c.code.length := by omega
    simp only [h0, h1, decide_false, decide_true, Bool.false_or, Bool.not_true]
    cases hp : progMay c.code args
    · rfl
    · simp only [Bool.true_and]
      simp only [progMay, Bool.and_eq_true] at hp
      have ho := hp.2
      rw [List.all_eq_true] at ho
      rw [Bool.eq_iff_iff, List.all_eq_true, List.all_eq_true]
      constructor
      · intro h x hx; rw [one_ops (ho x hx)]; exact h x hx
      · intro h x hx; rw [← one_ops (ho x hx)]; exact h x hx
end Go.Proofs

/- The steps of a class, over which one ranges; which classes there may be: the program's answer. -/
namespace Go.Proofs
open Go Go.RowKit Go.Am

theorem each_ok (c : Cls) (h : H) : SCall Try.prog 95 [.agg (encCls c)] h (.fn 131 [] [.ptr h.bn 0]) (h.alloc (encCls c)) := by
  refine SCall.newG (fun b => .fn 131 [] [.ptr b 0]) (fun _ _ _ _ _ _ _ h1 h2 => Low.fn1 (Low.ptr h1 h2)) (CallP.run hb95 ok95 (by simp) ?_) (pure_encCls c)
  simp -implicitDefEqProofs [encCls]
  exact ⟨HF.alloc _ _ _ _, WkL.refl _⟩

/-- One round after the other, as long as one goes on. -/
theorem each1_ok (c : Cls) (hl : c.comps.length = c.steps.length) (hm : c.steps.length ≤ 9223372036854775807) {l b : Nat} {h : H} (I : Nat → H → Prop) (J : H → Prop) (hI : ∀ k h', I k h' → b < h'.bn ∧ h'.bx b = some (encCls c)) (hJ : ∀ h', J h' → b < h'.bn ∧ h'.bx b = some (encCls c))
    (hr : ∀ k h' (h1 : k < c.steps.length) (h2 : k < c.comps.length), I k h' → ∃ r h'', SYld Try.prog l [.agg (encStp c.steps[k]), .agg (encStp c.comps[k])] h' (.bool r) h'' ∧ (r = true → I (k + 1) h'') ∧ (r = false → J h''))
    (h0 : I 0 h) : CallP Try.prog 131 [.yld l, .ptr b 0] h fun _ h1 => I c.steps.length h1 ∨ J h1 := by
  refine CallP.run hb131 ok131 (by simp) ?_
  obtain ⟨b1, b2⟩ := hI _ _ h0
  simp -implicitDefEqProofs [b1, b2, encCls, hl]
  refine run_loop (fun m s h1 => ∃ j : Nat, m = c.steps.length - j ∧ j ≤ c.steps.length ∧ s 0 = .yld l ∧ s 1 = .ptr b 0 ∧ s 10 = .int .i64 c.steps.length ∧ s 11 = .int .i64 j ∧ I j h1) ?_ c.steps.length ?_
  rotate_left
  · exact ⟨0, by simpa using h0⟩
  rintro m s h1 ⟨j, hn, hj, s0, s1, s10, s11, hi⟩ ih
  by_cases hlt : j < c.steps.length
  · have hlt2 : j < c.comps.length := by omega
    obtain ⟨b1, b2⟩ := hI _ _ hi
    rw [encCls] at b2
    simp -implicitDefEqProofs [s10, s11, hlt]
    refine run_dreg c131_d4 ?_
    simp -implicitDefEqProofs [s0, s1, b1, b2, hlt, hlt2, encStp]
    obtain ⟨r, h2, q1, q2, q3⟩ := hr j h1 hlt hlt2 hi
    refine callD_y q1 (by simp [encStp]) ?_
    cases r
    · obtain ⟨b3, b4⟩ := hJ _ (q3 rfl)
      rw [encCls] at b4
      simp -implicitDefEqProofs [b1, b2, b3, b4]
      exact Or.inr (q3 rfl)
    · obtain ⟨b3, b4⟩ := hI _ _ (q2 rfl)
      rw [encCls] at b4
      simp -implicitDefEqProofs [b1, b2, b3, b4, s11, inc_i64 hlt hm, -Int.natCast_add]
      exact ih (c.steps.length - (j + 1)) _ _ (by omega) ⟨j + 1, rfl, by omega, by simp [s0], by simp [s1], by simp [s10], by simp, q2 rfl⟩
  · obtain rfl : j = c.steps.length := by omega
    simp -implicitDefEqProofs [s10, s11]
    exact Or.inl hi
end Go.Proofs

/- The steps of a class, over which one ranges, whatever a round does. -/
namespace Go.Proofs
open Go Go.RowKit Go.Am

set_option maxHeartbeats 1000000 in
theorem each4_run (c : Cls) {l b j : Nat} {s : Slots} {h : H} (hlt : j < c.steps.length) (hlt2 : j < c.comps.length) (s0 : s 0 = .yld l) (s1 : s 1 = .ptr b 0) (s3 : s 3 = .int .i64 j) (b1 : b < h.bn) (b2 : h.bx b = some (encCls c))
    {G B : H → Prop} (hr : ∀ K : AV → H → Prop, (∀ h', G h' → K (.bool true) h') → (∀ h', B h' → K (.bool false) h') → callQ Try.prog (.yld l) [.agg (encStp c.steps[j]), .agg (encStp c.comps[j])] h K)
    {inr : Bool} {k : List It} {Q : Res → Slots → H → Prop} (hk : ∀ S h' r, S 26 = .bool (!r) → (∀ y, y < 14 → S y = s y) → (r = true → G h') → (r = false → B h') → Run Try.prog inr k Q S h') :
    Run Try.prog inr (.c (.dreg c131_r4 c131_a4) :: k) Q s h := by
  let V : Nat → AV := fun i => match i with
    | 0 => .yld l | 1 => .ptr b 2 | 2 => .sl .no (c.steps.map encStp) | 3 => .int .i64 j | 4 => .rop (encStp c.steps[j]) | 5 => .agg (encStp c.steps[j])
    | 6 => .ptr b 3 | 7 => .sl .no (c.comps.map encStp) | 8 => .int .i64 j | 9 => .rop (encStp c.comps[j]) | _ => .agg (encStp c.comps[j])
  let Inv : List Nat → Slots → H → Prop := fun done S h' => (∀ i ∈ done, i < 13) ∧ (∀ i ∈ done, ∀ q ∈ c131_a4.getD i [], q ∈ done) ∧ (∀ y, y < 14 → S y = s y) ∧ (∀ i ∈ done, i < 11 → S (14 + i) = V i) ∧
    (11 ∉ done → h' = h) ∧ (11 ∈ done → ∃ r, S 25 = .bool r ∧ (12 ∈ done → S 26 = .bool (!r)) ∧ (r = true → G h') ∧ (r = false → B h'))
  rw [encCls] at b2
  refine run_topoQ (Inv := Inv) ?_ ⟨(fun i hi => absurd hi List.not_mem_nil), (fun i hi => absurd hi List.not_mem_nil), fun _ _ => rfl, (fun i hi => absurd hi List.not_mem_nil), fun _ => rfl, (fun hi => absurd hi List.not_mem_nil)⟩ ?_
  · rintro i x done S h' hx hnd haft ⟨d0, d1, d2, d3, d4, d5⟩
    have hi : i < 13 := (List.getElem?_eq_some_iff.1 hx).1
    have cl : ∀ m ∈ i :: done, ∀ q ∈ c131_a4.getD m [], q ∈ i :: done := fun m hm q hq => by
      rcases List.mem_cons.1 hm with rfl | hm
      · exact List.mem_cons_of_mem _ (haft q hq)
      · exact List.mem_cons_of_mem _ (d1 m hm q hq)
    have lt : ∀ m ∈ i :: done, m < 13 := fun m hm => by rcases List.mem_cons.1 hm with rfl | hm; exact hi; exact d0 m hm
    -- what stands before the call
    have anc : 11 ∈ done → ∀ q, q < 11 → q ∈ done := fun h11 q hq => by
      have m0 := d1 11 h11 0 (by decide)
      have m5 := d1 11 h11 5 (by decide)
      have m10 := d1 11 h11 10 (by decide)
      have m4 := d1 5 m5 4 (by decide)
      have m2 := d1 4 m4 2 (by decide)
      have m3 := d1 4 m4 3 (by decide)
      have m1 := d1 2 m2 1 (by decide)
      have m9 := d1 10 m10 9 (by decide)
      have m7 := d1 9 m9 7 (by decide)
      have m8 := d1 9 m9 8 (by decide)
      have m6 := d1 7 m7 6 (by decide)
      have : q = 0 ∨ q = 1 ∨ q = 2 ∨ q = 3 ∨ q = 4 ∨ q = 5 ∨ q = 6 ∨ q = 7 ∨ q = 8 ∨ q = 9 ∨ q = 10 := by omega
      rcases this with rfl | rfl | rfl | rfl | rfl | rfl | rfl | rfl | rfl | rfl | rfl <;> assumption
    have light : ∀ (hi11 : i < 11), (11 ∉ done → pv x.op (ev S) h = some (V i)) → x.dst = some (14 + i) → x.g = none → (∀ K : AV → H → Prop, ob (pv x.op (ev S) h') (fun v => K v h') → wpI Try.prog x.op (ev S) h' K) → x.g = none ∧ wpI Try.prog x.op (ev S) h' fun v h1 => Inv (i :: done) (put S x.dst v) h1 := fun hi11 hv hd hg hw => by
      have h11 : 11 ∉ done := fun h => hnd (anc h i hi11)
      refine ⟨hg, hw _ ?_⟩
      obtain rfl := d4 h11
      rw [hv h11]
      refine ⟨lt, cl, fun y hy => ?_, fun m hm hm11 => ?_, fun _ => rfl, fun h => ?_⟩
      · rw [hd]
        show su S (14 + i) _ y = _
        rw [su_ne (by omega)]
        exact d2 y hy
      · rw [hd]
        show su S (14 + i) _ (14 + m) = _
        by_cases e : m = i
        · subst e; exact su_eq
        · rw [su_ne (by omega)]
          exact d3 m (by rcases List.mem_cons.1 hm with h | h; exact absurd h e; exact h) hm11
      · rcases List.mem_cons.1 h with h | h
        · omega
        · exact absurd h h11
    have t0 : S 0 = .yld l := by rw [d2 0 (by decide)]; exact s0
    have t1 : S 1 = .ptr b 0 := by rw [d2 1 (by decide)]; exact s1
    have t3 : S 3 = .int .i64 j := by rw [d2 3 (by decide)]; exact s3
    have h13 : i = 0 ∨ i = 1 ∨ i = 2 ∨ i = 3 ∨ i = 4 ∨ i = 5 ∨ i = 6 ∨ i = 7 ∨ i = 8 ∨ i = 9 ∨ i = 10 ∨ i = 11 ∨ i = 12 := by omega
    rcases h13 with rfl | rfl | rfl | rfl | rfl | rfl | rfl | rfl | rfl | rfl | rfl | rfl | rfl
    · cases hx; exact light (by decide) (fun _ => by simp [t0, V]) rfl rfl fun K hK => hK
    · cases hx; exact light (by decide) (fun _ => by simp [t1, V]) rfl rfl fun K hK => hK
    · cases hx
      have e1 := d3 1 (haft 1 (by decide)) (by decide)
      exact light (by decide) (fun _ => by simp [e1, V, b1, b2]) rfl rfl fun K hK => hK
    · cases hx; exact light (by decide) (fun _ => by simp [t3, V]) rfl rfl fun K hK => hK
    · cases hx
      have e1 := d3 2 (haft 2 (by decide)) (by decide)
      have e2 := d3 3 (haft 3 (by decide)) (by decide)
      exact light (by decide) (fun _ => by simp [e1, e2, V, hlt, encStp]) rfl rfl fun K hK => hK
    · cases hx
      have e1 := d3 4 (haft 4 (by decide)) (by decide)
      exact light (by decide) (fun _ => by simp [e1, V, encStp]) rfl rfl fun K hK => hK
    · cases hx; exact light (by decide) (fun _ => by simp [t1, V]) rfl rfl fun K hK => hK
    · cases hx
      have e1 := d3 6 (haft 6 (by decide)) (by decide)
      exact light (by decide) (fun _ => by simp [e1, V, b1, b2]) rfl rfl fun K hK => hK
    · cases hx; exact light (by decide) (fun _ => by simp [t3, V]) rfl rfl fun K hK => hK
    · cases hx
      have e1 := d3 7 (haft 7 (by decide)) (by decide)
      have e2 := d3 8 (haft 8 (by decide)) (by decide)
      exact light (by decide) (fun _ => by simp [e1, e2, V, hlt2, encStp]) rfl rfl fun K hK => hK
    · cases hx
      have e1 := d3 9 (haft 9 (by decide)) (by decide)
      exact light (by decide) (fun _ => by simp [e1, V, encStp]) rfl rfl fun K hK => hK
    · cases hx
      obtain rfl := d4 hnd
      have e1 : S 14 = _ := d3 0 (haft 0 (by decide)) (by decide)
      have e2 : S 19 = _ := d3 5 (haft 5 (by decide)) (by decide)
      have e3 : S 24 = _ := d3 10 (haft 10 (by decide)) (by decide)
      have hn12 : 12 ∉ done := fun h => hnd (d1 12 h 11 (by decide))
      refine ⟨rfl, ?_⟩
      show callQ Try.prog (S 14) [S 19, S 24] h' _
      rw [e1, e2, e3]
      have fin : ∀ (r : Bool) (h2 : H), (r = true → G h2) → (r = false → B h2) → Inv (11 :: done) (put S (some 25) (.bool r)) h2 := fun r h2 g1 g2 => by
        refine ⟨lt, cl, fun y hy => ?_, fun m hm hm11 => ?_, fun h => absurd (List.mem_cons_self ..) h, fun _ => ⟨r, su_eq, fun h => ?_, g1, g2⟩⟩
        · show su S 25 _ y = _
          rw [su_ne (by omega)]; exact d2 y hy
        · show su S 25 _ (14 + m) = _
          rw [su_ne (by omega)]
          exact d3 m (by rcases List.mem_cons.1 hm with h | h; omega; exact h) hm11
        · rcases List.mem_cons.1 h with h | h
          · cases h
          · exact absurd h hn12
      exact hr _ (fun h2 g => fin true h2 (fun _ => g) (fun h => by cases h)) (fun h2 g => fin false h2 (fun h => by cases h) (fun _ => g))
    · cases hx
      obtain ⟨r, r1, r2, r3, r4⟩ := d5 (haft 11 (by decide))
      refine ⟨rfl, ?_⟩
      show ob (unA .not (S 25)) _
      rw [r1]
      refine ⟨lt, cl, fun y hy => ?_, fun m hm hm11 => ?_, fun h => absurd (List.mem_cons_of_mem _ (haft 11 (by decide))) h, fun _ => ⟨r, ?_, fun _ => su_eq, r3, r4⟩⟩
      · show su S 26 _ y = _
        rw [su_ne (by omega)]; exact d2 y hy
      · show su S 26 _ (14 + m) = _
        rw [su_ne (by omega)]
        exact d3 m (by rcases List.mem_cons.1 hm with h | h; omega; exact h) hm11
      · show su S 26 _ 25 = _
        rw [su_ne (by decide)]; exact r1
  · rintro done S h' hall ⟨d0, d1, d2, d3, d4, d5⟩
    obtain ⟨r, r1, r2, r3, r4⟩ := d5 (hall 11 (by decide))
    exact hk S h' r (r2 (hall 12 (by decide))) d2 r3 r4

theorem each1Q_ok (c : Cls) (hl : c.comps.length = c.steps.length) (hm : c.steps.length ≤ 9223372036854775807) {l b : Nat} {h : H} (I : Nat → H → Prop) (J : H → Prop) (hI : ∀ k h', I k h' → b < h'.bn ∧ h'.bx b = some (encCls c))
    (hr : ∀ k h' (h1 : k < c.steps.length) (h2 : k < c.comps.length), I k h' → ∀ K : AV → H → Prop, (∀ h'', I (k + 1) h'' → K (.bool true) h'') → (∀ h'', J h'' → K (.bool false) h'') → callQ Try.prog (.yld l) [.agg (encStp c.steps[k]), .agg (encStp c.comps[k])] h' K)
    (h0 : I 0 h) : CallP Try.prog 131 [.yld l, .ptr b 0] h fun _ h1 => I c.steps.length h1 ∨ J h1 := by
  refine CallP.run hb131 ok131 (by simp) ?_
  obtain ⟨b1, b2⟩ := hI _ _ h0
  simp -implicitDefEqProofs [b1, b2, encCls, hl]
  refine run_loop (fun m s h1 => ∃ j : Nat, m = c.steps.length - j ∧ j ≤ c.steps.length ∧ s 0 = .yld l ∧ s 1 = .ptr b 0 ∧ s 10 = .int .i64 c.steps.length ∧ s 11 = .int .i64 j ∧ I j h1) ?_ c.steps.length ?_
  rotate_left
  · exact ⟨0, by simpa using h0⟩
  rintro m s h1 ⟨j, hn, hj, s0, s1, s10, s11, hi⟩ ih
  by_cases hlt : j < c.steps.length
  · have hlt2 : j < c.comps.length := by omega
    obtain ⟨b1, b2⟩ := hI _ _ hi
    simp -implicitDefEqProofs [s10, s11, hlt]
    refine each4_run c hlt hlt2 (by simp [s0]) (by simp [s1]) (by simp) b1 b2 (G := I (j + 1)) (B := J) (hr j h1 hlt hlt2 hi) ?_
    intro S h2 r t26 tS g1 g2
    have t0 : S 0 = .yld l := by rw [tS 0 (by decide)]; simp [s0]
    have t1 : S 1 = .ptr b 0 := by rw [tS 1 (by decide)]; simp [s1]
    have t10 : S 10 = .int .i64 c.steps.length := by rw [tS 10 (by decide)]; simp [s10]
    have t11 : S 11 = .int .i64 j := by rw [tS 11 (by decide)]; simp [s11]
    cases r
    · simp -implicitDefEqProofs [t26]
      exact Or.inr (g2 rfl)
    · simp -implicitDefEqProofs [t26, t11, inc_i64 hlt hm, -Int.natCast_add]
      exact ih (c.steps.length - (j + 1)) _ _ (by omega) ⟨j + 1, rfl, by omega, by simp [t0], by simp [t1], by simp [t10], by simp, g1 rfl⟩
  · obtain rfl : j = c.steps.length := by omega
    simp -implicitDefEqProofs [s10, s11]
    exact Or.inl hi
end Go.Proofs

/- Breakpoints: the document's answer and the program's. -/
namespace Go.Proofs
open Go Go.RowKit Go.Am

def bitN (b i : Nat) : Bool := decide (b / 2 ^ i % 2 = 1)
def Ctlg.inn (x : Ctlg) (c : Int) : Bool := decide (0 ≤ c) && decide (c < (x.classes.length : Int)) && decide (c < 4)
def Ctlg.brkAt (x : Ctlg) (c d i : Int) : Bool := x.inn c && x.inn d && decide (0 ≤ i) && decide (i + 1 < (x.stepsN c.toNat : Int)) && bitN (x.brk c.toNat d.toNat).toNat i.toNat

theorem refBit_ok (b : Nat) (i : Nat) (hb : b < 9223372036854775808) (hi : i < 9223372036854775808) : PCall Try.prog 79 [.int .i64 b, .int .i64 i] (.bool (bitN b i)) := by
  refine PCall.run hb79 ok79 (by simp) (pures_cons (.int _ _) (pures1 (.int _ _))) (.bool _) ?_
  simp -implicitDefEqProofs []
  refine run_loop (fun n s h => ∃ j m : Nat, n = i - j ∧ j ≤ i ∧ m = b / 2 ^ j ∧ s 0 = .int .i64 m ∧ s 1 = .int .i64 i ∧ s 5 = .int .i64 j) ?_ i ?_
  · rintro n s h ⟨j, m, hn, hj, hm, h0, h1, h5⟩ ih
    have hd : m ≤ b := hm ▸ Nat.div_le_self _ _
    by_cases hlt : j < i
    · have hq : IntKind.i64.wrap ((m : Int).tdiv 2) = ((m / 2 : Nat) : Int) := by
        rw [Int.tdiv_eq_ediv_of_nonneg (by omega), wrap_i64] <;> omega
      have hq2 : IntKind.i64.wrap ((m : Int) / 2) = (m : Int) / 2 := by
        rw [wrap_i64] <;> omega
      simp -implicitDefEqProofs [h0, h1, h5, hlt, -Int.natCast_ediv, inc_i64 hlt (by omega), -Int.natCast_add]
      exact ih (i - (j + 1)) _ _ (by omega) ⟨j + 1, m / 2, rfl, by omega, by rw [hm, Nat.div_div_eq_div_mul, Nat.pow_succ], by simp [hq2], by simp [h1], by simp⟩
    · obtain rfl : j = i := by omega
      have hr : IntKind.i64.wrap ((m : Int).tmod 2) = ((m % 2 : Nat) : Int) := by
        rw [Int.tmod_eq_emod_of_nonneg (by omega), wrap_i64] <;> omega
      have hr2 : (m : Int).tmod 2 = ((m % 2 : Nat) : Int) := by
        rw [Int.tmod_eq_emod_of_nonneg (by omega)]; omega
      have he : ((m % 2 : Nat) : Int) = 1 ↔ m % 2 = 1 := by omega
      simp -implicitDefEqProofs [h0, h1, h5, hr2, he, -Int.natCast_emod]
      simp [bitN, hm]
  · exact ⟨0, b, by simp⟩

theorem Ctlg.take16 (x : Ctlg) (hb : x.breaks.length = 16) : List.take 16 (x.breaks.map (AV.int .i64)) = x.breaks.map (AV.int .i64) := List.take_of_length_le (by simp [hb])

theorem refBreak_ok (x : Ctlg) (hx : x.wf) (hp : ∀ c d, 0 ≤ x.brk c d) {c d i : Int} (hc : inI c) (hd : inI d) (hi : inI i) : PCall Try.prog 38 [.agg (encCtlg x), .int .i64 c, .int .i64 d, .int .i64 i] (.bool (x.brkAt c d i)) := by
  refine PCall.run hb38 ok38 (by simp) (pures_cons (.agg (pure_encCtlg x)) (pures_cons (.int _ _) (pures_cons (.int _ _) (pures1 (.int _ _))))) (.bool _) ?_
  obtain ⟨⟨hcl, hcw⟩, hbl, hbw⟩ := hx
  by_cases a1 : 0 ≤ c
  rotate_left
  · simp -implicitDefEqProofs [encCtlg, Ctlg.brkAt, Ctlg.inn, a1]
  obtain ⟨c, rfl⟩ := Int.eq_ofNat_of_zero_le a1
  by_cases a2 : c < x.classes.length
  rotate_left
  · simp -implicitDefEqProofs [encCtlg, Ctlg.brkAt, Ctlg.inn, a2]
  by_cases a3 : (c : Int) < 4
  rotate_left
  · simp -implicitDefEqProofs [encCtlg, Ctlg.brkAt, Ctlg.inn, a2, a3]
  by_cases b1 : 0 ≤ d
  rotate_left
  · simp -implicitDefEqProofs [encCtlg, Ctlg.brkAt, Ctlg.inn, a2, a3, b1]
  obtain ⟨d, rfl⟩ := Int.eq_ofNat_of_zero_le b1
  by_cases b2 : d < x.classes.length
  rotate_left
  · simp -implicitDefEqProofs [encCtlg, Ctlg.brkAt, Ctlg.inn, a2, a3, b2]
  by_cases b3 : (d : Int) < 4
  rotate_left
  · simp -implicitDefEqProofs [encCtlg, Ctlg.brkAt, Ctlg.inn, a2, a3, b2, b3]
  by_cases i1 : 0 ≤ i
  rotate_left
  · simp -implicitDefEqProofs [encCtlg, Ctlg.brkAt, Ctlg.inn, a2, a3, b2, b3, i1]
  obtain ⟨i, rfl⟩ := Int.eq_ofNat_of_zero_le i1
  have hbk := Ctlg.brk_load (x := x) (.sl .no (x.classes.map encCls)) hbl (show c < 4 by omega) (show d < 4 by omega)
  obtain ⟨b, hbe⟩ := Int.eq_ofNat_of_zero_le (hp c d)
  have hbi : inI (x.brk c d) := by
    rw [Ctlg.brk_of hbl (show c < 4 by omega) (show d < 4 by omega)]
    exact hbw _ (List.getElem_mem _)
  simp only [inI] at hbi hi hbe
  rw [hbe] at hbk hbi
  have hsl := (hcw _ (List.getElem_mem a2)).2.2.1.1
  simp only [maxLen] at hsl
  by_cases i2 : (i : Int) + 1 < x.classes[c].steps.length
  · simp -implicitDefEqProofs [encCtlg, a2, a3, b2, b3, encCls, hbl, hbk, show 1 + c * 4 + d + 1 ≤ 16 + 1 by omega, wrap_i64 (show -9223372036854775808 ≤ (i : Int) + 1 by omega) (by omega), i2]
    refine callQ_p (refBit_ok b i (by omega) (by omega)) (by simp) ?_
    simp -implicitDefEqProofs [Ctlg.brkAt, Ctlg.inn, a2, a3, b2, b3, hbe, Ctlg.stepsN_of a2, i2]
  by_cases i3 : (i : Int) = 9223372036854775807
  · simp -implicitDefEqProofs [encCtlg, a2, a3, b2, b3, encCls, hbl, hbk, show 1 + c * 4 + d + 1 ≤ 16 + 1 by omega, show IntKind.i64.wrap ((i : Int) + 1) = -9223372036854775808 by rw [i3]; decide, show (-9223372036854775808 : Int) < x.classes[c].steps.length by omega]
    refine callQ_p (refBit_ok b i (by omega) (by omega)) (by simp) ?_
    have hz : bitN b i = false := by
      have hb2 : b < 2 ^ i := by
        have h63 : (2 : Nat) ^ 63 ≤ 2 ^ i := Nat.pow_le_pow_right (by omega) (by omega)
        have h64 : (2 : Nat) ^ 63 = 9223372036854775808 := by decide
        rw [h64] at h63
        exact Nat.lt_of_lt_of_le (by omega) h63
      simp [bitN, Nat.div_eq_of_lt hb2]
    simp -implicitDefEqProofs [Ctlg.brkAt, Ctlg.inn, a2, a3, b2, b3, hbe, Ctlg.stepsN_of a2, i2, hz]
  · simp -implicitDefEqProofs [encCtlg, a2, a3, b2, b3, encCls, hbl, wrap_i64 (show -9223372036854775808 ≤ (i : Int) + 1 by omega) (by omega), i2, Ctlg.brkAt, Ctlg.inn, Ctlg.stepsN_of a2]

theorem refThere_ok (x : Ctlg) (_ : x.wf) {c : Int} (_ : inI c) : PCall Try.prog 22 [.agg (encCtlg x), .int .i64 c] (.bool (decide (0 ≤ c) && decide (c < (x.classes.length : Int)))) := by
  refine PCall.run hb22 ok22 (by simp) (pures_cons (.agg (pure_encCtlg x)) (pures1 (.int _ _))) (.bool _) ?_
  by_cases a1 : 0 ≤ c
  · simp -implicitDefEqProofs [encCtlg, a1]
  · simp -implicitDefEqProofs [encCtlg, a1]

theorem there_ok (x : Ctlg) (_ : x.wf) {c : Int} (_ : inI c) : PCall Try.prog 62 [.agg (encCtlg x), .int .i64 c] (.bool (x.inn c)) := by
  refine PCall.run hb62 ok62 (by simp) (pures_cons (.agg (pure_encCtlg x)) (pures1 (.int _ _))) (.bool _) ?_
  by_cases a1 : 0 ≤ c
  · by_cases a2 : c < (x.classes.length : Int)
    · simp -implicitDefEqProofs [encCtlg, a1, a2, Ctlg.inn]
    · simp -implicitDefEqProofs [encCtlg, a1, a2, Ctlg.inn]
  · simp -implicitDefEqProofs [encCtlg, a1, Ctlg.inn]

/-- The unit of a step, as the document counts: how many breakpoints there are before it. -/
def Ctlg.unitN (x : Ctlg) (c d : Int) (i : Nat) : Nat := ((List.range i).filter fun j : Nat => x.brkAt c d j).length

theorem refUnit_ok (x : Ctlg) (hx : x.wf) (hp : ∀ c d, 0 ≤ x.brk c d) {c d : Int} (hc : inI c) (hd : inI d) {i : Nat} (hi : i < 9223372036854775808) : PCall Try.prog 73 [.agg (encCtlg x), .int .i64 c, .int .i64 d, .int .i64 i] (.int .i64 (x.unitN c d i)) := by
  refine PCall.run hb73 ok73 (by simp) (pures_cons (.agg (pure_encCtlg x)) (pures_cons (.int _ _) (pures_cons (.int _ _) (pures1 (.int _ _))))) (.int _ _) ?_
  simp -implicitDefEqProofs [encCtlg]
  refine run_loop (fun n s h => ∃ j : Nat, n = i - j ∧ j ≤ i ∧ s 4 = .ptr 0 0 ∧ 0 < h.bn ∧ h.bx 0 = some ([.sl .no (x.classes.map encCls)] ++ x.breaks.map (AV.int .i64)) ∧ s 1 = .int .i64 c ∧ s 2 = .int .i64 d ∧ s 3 = .int .i64 i ∧ s 10 = .int .i64 j ∧ s 9 = .int .i64 (x.unitN c d j)) ?_ i ?_
  · rintro n s h ⟨j, hn, hj, h4, h0, hb, h1, h2, h3, h10, h9⟩ ih
    by_cases hlt : j < i
    · have hle : x.unitN c d j ≤ j := Nat.le_trans (List.length_filter_le _ _) (by simp)
      have hsu : x.unitN c d (j + 1) = x.unitN c d j + (if x.brkAt c d j then 1 else 0) := by
        unfold Ctlg.unitN
        rw [List.range_succ, List.filter_append, List.length_append]
        by_cases h : x.brkAt c d j <;> simp [h]
      simp -implicitDefEqProofs [h4, h0, hb, h1, h2, h3, h10, hlt, hx.2.1]
      refine callQ_p (refBreak_ok x hx hp hc hd (i := j) (by simp only [inI]; omega)) (by simp [encCtlg, x.take16 hx.2.1]) ?_
      cases hbr : x.brkAt c d j
      · simp -implicitDefEqProofs [h10, inc_i64 hlt (by omega), -Int.natCast_add]
        exact ih (i - (j + 1)) _ _ (by omega) ⟨j + 1, rfl, by omega, by simp [h4], by simpa using h0, by simp [hb], by simp [h1], by simp [h2], by simp [h3], by simp, by simp [h9, hsu, hbr]⟩
      · simp -implicitDefEqProofs [h9, h10, inc_i64 hlt (by omega), inc_i64 (show x.unitN c d j < i by omega) (by omega), -Int.natCast_add]
        exact ih (i - (j + 1)) _ _ (by omega) ⟨j + 1, rfl, by omega, by simp [h4], by simpa using h0, by simp [hb], by simp [h1], by simp [h2], by simp [h3], by simp, by simp [hsu, hbr]⟩
    · obtain rfl : j = i := by omega
      simp -implicitDefEqProofs [h3, h10, h9]
  · exact ⟨0, by simp [H.nil, Ctlg.unitN]⟩
end Go.Proofs
