/- What the functions that the statement reaches do: their contracts; and what follows of it. -/
import Derived.Test.YtdcpendppalkgaaGreatSLintAdvice4
import Derived.Test.YtdcpendppalkgaaGreatK4
/- Which programs, footprints, classes and catalogues there may be: the document's answer. -/
namespace Go.Proofs
open Go Go.RowKit Go.Am

theorem elOK_Inst : ElOK encInst 9 true := ⟨fun _ => rfl, (fun h => by cases h), pure_encInst, wk_encInst⟩
theorem elOK_SpanT : ElOK encSpanT 5 true := ⟨fun _ => rfl, (fun h => by cases h), pure_encSpanT, wk_encSpanT⟩
theorem elOK_Cls : ElOK encCls 5 true := ⟨fun _ => rfl, (fun h => by cases h), pure_encCls, wk_encCls⟩
theorem elOK_Spn : ElOK encSpn 2 true := ⟨fun _ => rfl, (fun h => by cases h), pure_encSpn, wk_encSpn⟩
theorem elOK_Nod : ElOK encNod 6 true := ⟨fun _ => rfl, (fun h => by cases h), pure_encNod, wk_encNod⟩
theorem elOK_KeyT : ElOK encKeyT 2 true := ⟨fun _ => rfl, (fun h => by cases h), pure_encKeyT, wk_encKeyT⟩

def progMay (l : List Inst) (args : Int) : Bool := !decide (args < 0) && !decide (3 < args) && !decide (l.length < 1) && !decide (8 < l.length) && l.all fun x => oneInst x args
def footMay (l : List SpanT) (args : Int) : Bool := !decide (args < 0) && !decide (3 < args) && !decide (4 < l.length) && l.all fun s => mayKey s.lo args && mayKey s.hi args

theorem all_take_false {α : Type} {p : α → Bool} {l : List α} {j : Nat} (hj : j < l.length) (h : p l[j] = false) : l.all p = false := by
  rw [List.all_eq_false]
  exact ⟨l[j], List.getElem_mem hj, by simp [h]⟩
theorem all_whole {α : Type} {p : α → Bool} {l : List α} {j : Nat} (hj : l.length ≤ j) (h : ∀ i (hi : i < l.length), i < j → p l[i] = true) : l.all p = true := by
  rw [List.all_eq_true]
  intro x hx
  obtain ⟨i, hi, rfl⟩ := List.mem_iff_getElem.1 hx
  exact h i hi (by omega)

theorem refProgMay_ok (l : List Inst) (args : Int) (hl : l.length ≤ 9223372036854775807) : PCall Tryz.prog 44 [.sl .no (l.map encInst), .int .i64 args] (.bool (progMay l args)) := by
  refine PCall.run hb44 ok44 (by simp) (pures_cons (elOK_Inst.pureL l) (pures1 (.int _ _))) (.bool _) ?_
  by_cases bad : ((args < 0 ∨ 3 < args) ∨ (l.length : Int) < 1) ∨ (8 : Int) < (l.length : Int)
  · have hf : progMay l args = false := by
      simp only [progMay, Bool.and_eq_false_iff, Bool.not_eq_false', decide_eq_true_eq]
      omega
    simp (maxSteps := 2000000) +contextual -implicitDefEqProofs [↓gdL_F, ↓condQ_b, -Int.not_lt, -Int.not_le, -Nat.not_lt, -Nat.not_le, hf]
    all_goals (intros; omega)
  · have hm : progMay l args = l.all fun x => oneInst x args := by
      simp only [progMay, show ¬ args < 0 by omega, show ¬ 3 < args by omega, show ¬ l.length < 1 by omega, show ¬ 8 < l.length by omega]
      simp
    simp (maxSteps := 2000000) +contextual -implicitDefEqProofs [↓gdL_F, ↓condQ_b, -Int.not_lt, -Int.not_le, -Nat.not_lt, -Nat.not_le, show ¬ args < 0 by omega, show ¬ 3 < args by omega, show ¬ (l.length : Int) < 1 by omega, show ¬ (8 : Int) < (l.length : Int) by omega, hm]
    refine run_loop (fun n s h => ∃ j : Nat, n = l.length - j ∧ j ≤ l.length ∧ s 0 = .sl .no (l.map encInst) ∧ s 1 = .int .i64 args ∧ s 5 = .int .i64 j ∧ ∀ i (hi : i < l.length), i < j → oneInst l[i] args = true) ?_ l.length ?_
    · rintro n s h ⟨j, hn, hj, h0, h1, h5, hall⟩ ih
      by_cases hlt : j < l.length
      · simp -implicitDefEqProofs [h0, h1, h5, hlt, elOK_Inst.un, -unCells]
        refine callQ_p (refOne_ok l[j] args) (by simp [elV]) ?_
        cases hp : oneInst l[j] args
        · simp -implicitDefEqProofs [all_take_false (p := fun x => oneInst x args) hlt hp]
        · simp -implicitDefEqProofs [h5, inc_i64 hlt hl, -Int.natCast_add]
          exact ih (l.length - (j + 1)) _ _ (by omega) ⟨j + 1, rfl, by omega, by simp [h0], by simp [h1], by simp, fun i hi hij => by
            by_cases h : i = j
            · subst h; exact hp
            · exact hall i hi (by omega)⟩
      · simp -implicitDefEqProofs [h0, h5, hlt, all_whole (p := fun x => oneInst x args) (by omega) hall]
    · exact ⟨0, by simp⟩

theorem refFootMay_ok (l : List SpanT) (args : Int) (hl : l.length ≤ 9223372036854775807) : PCall Tryz.prog 45 [.sl .no (l.map encSpanT), .int .i64 args] (.bool (footMay l args)) := by
  refine PCall.run hb45 ok45 (by simp) (pures_cons (elOK_SpanT.pureL l) (pures1 (.int _ _))) (.bool _) ?_
  by_cases bad : (args < 0 ∨ 3 < args) ∨ (4 : Int) < (l.length : Int)
  · have hf : footMay l args = false := by
      simp only [footMay, Bool.and_eq_false_iff, Bool.not_eq_false', decide_eq_true_eq]
      omega
    simp (maxSteps := 2000000) +contextual -implicitDefEqProofs [↓gdL_F, ↓condQ_b, -Int.not_lt, -Int.not_le, -Nat.not_lt, -Nat.not_le, hf]
    all_goals (intros; omega)
  · have hm : footMay l args = l.all fun s => mayKey s.lo args && mayKey s.hi args := by
      simp only [footMay, show ¬ args < 0 by omega, show ¬ 3 < args by omega, show ¬ 4 < l.length by omega]
      simp
    simp (maxSteps := 2000000) +contextual -implicitDefEqProofs [↓gdL_F, ↓condQ_b, -Int.not_lt, -Int.not_le, -Nat.not_lt, -Nat.not_le, show ¬ args < 0 by omega, show ¬ 3 < args by omega, show ¬ (4 : Int) < (l.length : Int) by omega, hm]
    refine run_loop (fun n s h => ∃ j : Nat, n = l.length - j ∧ j ≤ l.length ∧ s 0 = .sl .no (l.map encSpanT) ∧ s 1 = .int .i64 args ∧ s 5 = .int .i64 j ∧ ∀ i (hi : i < l.length), i < j → (mayKey l[i].lo args && mayKey l[i].hi args) = true) ?_ l.length ?_
    · rintro n s h ⟨j, hn, hj, h0, h1, h5, hall⟩ ih
      by_cases hlt : j < l.length
      · simp -implicitDefEqProofs [h0, h1, h5, hlt, encSpanT]
        refine callQ_p (refMayKey_ok l[j].lo args) (by simp [encKeyT]) ?_
        cases hp : mayKey l[j].lo args
        · simp -implicitDefEqProofs [all_take_false (p := fun s => mayKey s.lo args && mayKey s.hi args) hlt (by simp [hp])]
        · simp -implicitDefEqProofs [h0, h1, h5, hlt, encSpanT]
          refine callQ_p (refMayKey_ok l[j].hi args) (by simp [encKeyT]) ?_
          cases hq : mayKey l[j].hi args
          · simp -implicitDefEqProofs [all_take_false (p := fun s => mayKey s.lo args && mayKey s.hi args) hlt (by simp [hp, hq])]
          · simp -implicitDefEqProofs [h5, inc_i64 hlt hl, -Int.natCast_add]
            exact ih (l.length - (j + 1)) _ _ (by omega) ⟨j + 1, rfl, by omega, by simp [h0], by simp [h1], by simp, fun i hi hij => by
              by_cases h : i = j
              · subst h; simp [hp, hq]
              · exact hall i hi (by omega)⟩
      · have hw := all_whole (p := fun s : SpanT => mayKey s.lo args && mayKey s.hi args) (by omega) hall
        simp -implicitDefEqProofs [h0, h5, hlt, hw]
    · exact ⟨0, by simp⟩
end Go.Proofs

/- Which programs there may be: the program's answer. -/
namespace Go.Proofs
open Go Go.RowKit Go.Am

theorem mayKey_ok (k : KeyT) (args : Int) : PCall Tryz.prog 92 [.agg (encKeyT k), .int .i64 args] (.bool (mayKey k args)) := by
  refine PCall.run hb92 ok92 (by simp) (pures_cons (pureKey k) (pures1 (.int _ _))) (.bool _) ?_
  simp (maxSteps := 2000000) +contextual -implicitDefEqProofs [↓gdL_T, ↓gdL_F, ↓condQ_b, -Int.not_lt, -Int.not_le, -Nat.not_lt, -Nat.not_le, encKeyT, mayKey]

theorem register_ok (n : Int) : PCall Tryz.prog 93 [.int .i64 n] (.bool (isReg n)) := by
  refine PCall.run hb93 ok93 (by simp) (pures1 (.int _ _)) (.bool _) ?_
  by_cases h : 0 ≤ n
  · simp -implicitDefEqProofs [isReg, h]
    rw [Bool.eq_iff_iff]; simp; omega
  · simp -implicitDefEqProofs [isReg, h]

def keysI (x : Inst) : List KeyT := if x.op = 1 ∨ x.op = 2 ∨ x.op = 3 then [x.k] else if x.op = 4 then [x.k, x.l] else []
theorem keys_ok (x : Inst) : PCall Tryz.prog 95 [.agg (encInst x)] (.sl .no ((keysI x).map encKeyT)) := by
  refine PCall.run hb95 ok95 (by simp) (pures1 (pureInst x)) (pure_sl pure_encKeyT _) ?_
  by_cases h1 : x.op = 1
  · simp -implicitDefEqProofs [encInst, h1, keysI, encKeyT]
  by_cases h2 : x.op = 2
  · simp -implicitDefEqProofs [encInst, h2, keysI, encKeyT]
  by_cases h3 : x.op = 3
  · simp -implicitDefEqProofs [encInst, h3, keysI, encKeyT]
  by_cases h4 : x.op = 4
  · simp -implicitDefEqProofs [encInst, h4, keysI, encKeyT]
  simp -implicitDefEqProofs [encInst, h1, h2, h3, h4, keysI]

def zeroK : KeyT := ⟨0, 0⟩
def onlyI (x : Inst) : Inst × Bool :=
  if x.op = 1 ∨ x.op = 2 then (⟨x.op, x.a, 0, 0, x.k, zeroK, 0⟩, true)
  else if x.op = 3 then (⟨x.op, 0, 0, 0, x.k, zeroK, 0⟩, true)
  else if x.op = 4 then (⟨x.op, x.a, 0, 0, x.k, x.l, 0⟩, true)
  else if x.op = 5 ∨ x.op = 8 then (⟨x.op, x.a, 0, 0, zeroK, zeroK, x.x⟩, true)
  else if x.op = 6 ∨ x.op = 7 then (⟨x.op, x.a, x.b, x.c, zeroK, zeroK, 0⟩, true)
  else (⟨x.op, x.a, 0, 0, zeroK, zeroK, 0⟩, false)

theorem only_ok (x : Inst) : PCall Tryz.prog 90 [.agg (encInst x)] (.tup [.agg (encInst (onlyI x).1), .bool (onlyI x).2]) := by
  refine PCall.run hb90 ok90 (by simp) (pures1 (pureInst x)) (.tup (pures_cons (pureInst _) (pures1 (.bool _)))) ?_
  by_cases h1 : x.op = 1
  · simp -implicitDefEqProofs [encInst, h1, onlyI, H.nil, zeroK]
  by_cases h2 : x.op = 2
  · simp -implicitDefEqProofs [encInst, h2, onlyI, H.nil, zeroK]
  by_cases h3 : x.op = 3
  · simp -implicitDefEqProofs [encInst, h3, H.nil]
    refine run_dreg c90_d8 ?_
    simp -implicitDefEqProofs [onlyI, zeroK, h3]
  by_cases h4 : x.op = 4
  · simp -implicitDefEqProofs [encInst, h4, H.nil]
    refine run_dreg c90_d10 ?_
    simp -implicitDefEqProofs [onlyI, h4]
  by_cases h5 : x.op = 5
  · simp -implicitDefEqProofs [encInst, h5, onlyI, H.nil, zeroK]
  by_cases h8 : x.op = 8
  · simp -implicitDefEqProofs [encInst, h8, onlyI, H.nil, zeroK]
  by_cases h6 : x.op = 6
  · simp -implicitDefEqProofs [encInst, h6, H.nil]
    refine run_dreg c90_d16 ?_
    simp -implicitDefEqProofs [onlyI, zeroK, h6]
  by_cases h7 : x.op = 7
  · simp -implicitDefEqProofs [encInst, h7, H.nil]
    refine run_dreg c90_d16 ?_
    simp -implicitDefEqProofs [onlyI, zeroK, h7]
  simp -implicitDefEqProofs [encInst, h1, h2, h3, h4, h5, h6, h7, h8, onlyI, H.nil, zeroK]
end Go.Proofs

/- Which programs there may be: the program's answer, joined. -/
namespace Go.Proofs
open Go Go.RowKit Go.Am

def mayI (x : Inst) (args : Int) : Bool := (onlyI x).2 && decide (x = (onlyI x).1) && isReg x.a && isReg x.b && isReg x.c && !(keysI x).any fun k => !mayKey k args

theorem may1_ok (k : KeyT) (args : Int) {h : H} {b : Nat} (hb : b < h.bn) (hbx : h.bx b = some [.int .i64 args]) : SCall Tryz.prog 91 [.agg (encKeyT k), .ptr b 0] h (.bool (!mayKey k args)) h := by
  refine SCall.ro (CallP.run hb91 ok91 (by simp) ?_) (.bool _)
  simp -implicitDefEqProofs [hbx, encKeyT, show ¬ b = h.bn by omega, show b < h.bn + 1 by omega]
  refine callQ_p (mayKey_ok k args) (by simp [encKeyT]) ?_
  simp -implicitDefEqProofs []
  exact HF.alloc _ _ _ _

theorem eqInst_f {x y : Inst} (h : x ≠ y) : (decide (x.op = y.op) && (decide (x.a = y.a) && (decide (x.b = y.b) && (decide (x.c = y.c) && (decide (x.k.arg = y.k.arg) && (decide (x.k.base = y.k.base) && (decide (x.l.arg = y.l.arg) && (decide (x.l.base = y.l.base) && decide (x.x = y.x))))))))) = false := by
  rw [Bool.eq_false_iff]
  intro hc
  apply h
  simp only [Bool.and_eq_true, decide_eq_true_eq] at hc
  rcases x with ⟨a, b, c, d, ⟨e, f⟩, ⟨g, i⟩, j⟩
  rcases y with ⟨a', b', c', d', ⟨e', f'⟩, ⟨g', i'⟩, j'⟩
  simp_all

theorem may_ok (x : Inst) (args : Int) : PCall Tryz.prog 72 [.agg (encInst x), .int .i64 args] (.bool (mayI x args)) := by
  refine PCall.run hb72 ok72 (by simp) (pures_cons (pureInst x) (pures1 (.int _ _))) (.bool _) ?_
  simp -implicitDefEqProofs [encInst, H.nil]
  refine callQ_p (only_ok x) (by simp [encInst]) ?_
  cases e : (onlyI x).2
  · simp -implicitDefEqProofs [encInst, mayI, e]
  simp -implicitDefEqProofs [encInst]
  by_cases hq : x = (onlyI x).1
  rotate_left
  · have hch := eqInst_f hq
    rw [hch]
    simp -implicitDefEqProofs [mayI, hq]
  have hq' : (onlyI x).1 = x := hq.symm
  simp -implicitDefEqProofs [hq']
  refine callQ_p (register_ok x.a) (by simp) ?_
  cases ra : isReg x.a
  · simp -implicitDefEqProofs [mayI, ra, hq']
  simp -implicitDefEqProofs [hq']
  refine callQ_p (register_ok x.b) (by simp) ?_
  cases rb : isReg x.b
  · simp -implicitDefEqProofs [mayI, rb, hq']
  simp -implicitDefEqProofs [hq']
  refine callQ_p (register_ok x.c) (by simp) ?_
  cases rc : isReg x.c
  · simp -implicitDefEqProofs [mayI, rc, hq']
  simp -implicitDefEqProofs [hq']
  refine callQ_p (keys_ok x) (by simp [encInst]) ?_
  simp -implicitDefEqProofs [hq']
  refine callQ_s (contains_gen hb94 ok94 hb104 ok104 elOK_KeyT (keysI x) (by unfold keysI; split; simp; split <;> simp) (first := []) (caps := [.ptr 1 0]) (p := fun k => !mayKey k args) rfl (by simp) (fun k _ => may1_ok k args (by simp) (by simp))) (by simp) ?_
  simp -implicitDefEqProofs [mayI, e, hq', ra, rb, rc]
end Go.Proofs

/- Which programs and footprints there may be: the program's answer is the document's. -/
namespace Go.Proofs
open Go Go.RowKit Go.Am

theorem mayI_one (x : Inst) (args : Int) : mayI x args = oneInst x args := by
  rcases x with ⟨op, a, b, c, ⟨ka, kb⟩, ⟨la, lb⟩, y⟩
  have z0 : isReg 0 = true := by decide
  by_cases h1 : op = 1 ∨ op = 2
  · have h2 : op = 1 ∨ op = 2 ∨ op = 3 := by omega
    simp only [mayI, oneInst, onlyI, keysI, if_pos h1, if_pos h2, zeroK, keyNone]
    rw [Bool.eq_iff_iff]
    simp
    intro hk
    constructor
    · rintro ⟨⟨⟨⟨rfl, rfl, ⟨rfl, rfl⟩, rfl⟩, ha⟩, hb⟩, hc⟩
      simp [ha]
    · rintro ⟨⟨⟨⟨ha, rfl⟩, rfl⟩, rfl⟩, rfl, rfl⟩
      simp [ha, z0]
  by_cases h3 : op = 3
  · have h2 : op = 1 ∨ op = 2 ∨ op = 3 := by omega
    simp only [mayI, oneInst, onlyI, keysI, if_neg h1, if_pos h3, if_pos h2, zeroK, keyNone]
    rw [Bool.eq_iff_iff]
    simp
    intro hk
    constructor
    · rintro ⟨⟨⟨⟨rfl, rfl, rfl, ⟨rfl, rfl⟩, rfl⟩, ha⟩, hb⟩, hc⟩
      simp
    · rintro ⟨⟨⟨⟨rfl, rfl⟩, rfl⟩, rfl⟩, rfl, rfl⟩
      simp [z0]
  have h2 : ¬ (op = 1 ∨ op = 2 ∨ op = 3) := by omega
  by_cases h4 : op = 4
  · simp only [mayI, oneInst, onlyI, keysI, if_neg h1, if_neg h3, if_pos h4, if_neg h2, zeroK, keyNone]
    rw [Bool.eq_iff_iff]
    simp
    constructor
    · rintro ⟨⟨⟨⟨⟨rfl, rfl, rfl⟩, ha⟩, hb⟩, hc⟩, hk, hl⟩
      simp [ha, hk, hl]
    · rintro ⟨⟨⟨⟨⟨ha, rfl⟩, rfl⟩, rfl⟩, hk⟩, hl⟩
      simp [ha, hk, hl, z0]
  by_cases h5 : op = 5 ∨ op = 8
  · simp only [mayI, oneInst, onlyI, keysI, if_neg h1, if_neg h3, if_neg h4, if_neg h2, if_pos h5, zeroK, keyNone]
    rw [Bool.eq_iff_iff]
    simp
    constructor
    · rintro ⟨⟨⟨⟨rfl, rfl, ⟨rfl, rfl⟩, ⟨rfl, rfl⟩⟩, ha⟩, hb⟩, hc⟩
      simp [ha]
    · rintro ⟨⟨⟨⟨ha, rfl⟩, rfl⟩, rfl, rfl⟩, rfl, rfl⟩
      simp [ha, z0]
  by_cases h6 : op = 6 ∨ op = 7
  · simp only [mayI, oneInst, onlyI, keysI, if_neg h1, if_neg h3, if_neg h4, if_neg h2, if_neg h5, if_pos h6, zeroK, keyNone]
    rw [Bool.eq_iff_iff]
    simp
    constructor
    · rintro ⟨⟨⟨⟨⟨rfl, rfl⟩, ⟨rfl, rfl⟩, rfl⟩, ha⟩, hb⟩, hc⟩
      simp [ha, hb, hc]
    · rintro ⟨⟨⟨⟨⟨ha, rfl⟩, hb⟩, hc⟩, rfl, rfl⟩, rfl, rfl⟩
      simp [ha, hb, hc]
  simp only [mayI, oneInst, onlyI, keysI, if_neg h1, if_neg h3, if_neg h4, if_neg h2, if_neg h5, if_neg h6]
  simp

theorem May1_ok (x : Inst) (args : Int) {h : H} {b : Nat} (hb : b < h.bn) (hbx : h.bx b = some [.int .i64 args]) : SCall Tryz.prog 71 [.agg (encInst x), .ptr b 0] h (.bool (!oneInst x args)) h := by
  refine SCall.ro (CallP.run hb71 ok71 (by simp) ?_) (.bool _)
  simp -implicitDefEqProofs [hbx, encInst, show ¬ b = h.bn by omega, show b < h.bn + 1 by omega]
  refine callQ_p (may_ok x args) (by simp [encInst]) ?_
  simp -implicitDefEqProofs [mayI_one]
  exact HF.alloc _ _ _ _

theorem any_not {α : Type} (l : List α) (p : α → Bool) : (!l.any fun x => !p x) = l.all p := by
  rw [Bool.eq_iff_iff]; simp

theorem progMay_ok (l : List Inst) (args : Int) (hl : l.length ≤ 9223372036854775807) : PCall Tryz.prog 49 [.sl .no (l.map encInst), .int .i64 args] (.bool (progMay l args)) := by
  refine PCall.run hb49 ok49 (by simp) (pures_cons (elOK_Inst.pureL l) (pures1 (.int _ _))) (.bool _) ?_
  by_cases bad : ((args < 0 ∨ 3 < args) ∨ (l.length : Int) < 1) ∨ (8 : Int) < (l.length : Int)
  · have hf : progMay l args = false := by
      simp only [progMay, Bool.and_eq_false_iff, Bool.not_eq_false', decide_eq_true_eq]
      omega
    simp (maxSteps := 2000000) +contextual -implicitDefEqProofs [↓gdL_T, ↓gdL_F, ↓condQ_b, -Int.not_lt, -Int.not_le, -Nat.not_lt, -Nat.not_le, hf, H.nil]
    all_goals (intros; omega)
  · have hm : progMay l args = l.all fun x => oneInst x args := by
      simp only [progMay, show ¬ args < 0 by omega, show ¬ 3 < args by omega, show ¬ l.length < 1 by omega, show ¬ 8 < l.length by omega]
      simp
    simp -implicitDefEqProofs [H.nil, show ¬ args < 0 by omega, show ¬ 3 < args by omega, show ¬ (l.length : Int) < 1 by omega, show ¬ (8 : Int) < (l.length : Int) by omega, hm]
    refine callQ_s (contains_gen hb70 ok70 hb89 ok89 elOK_Inst l hl (first := []) (caps := [.ptr 0 0]) (p := fun x => !oneInst x args) rfl (by simp) (fun x _ => May1_ok x args (by simp) (by simp))) (by simp) ?_
    simp -implicitDefEqProofs [any_not]

def sureI (x : Inst) : Bool := !(decide (x.op = 6) || decide (x.op = 7) || decide (x.op = 8))
theorem Sure1_ok (x : Inst) : PCall Tryz.prog 96 [.agg (encInst x)] (.bool (!sureI x)) := by
  refine PCall.run hb96 ok96 (by simp) (pures1 (pureInst x)) (.bool _) ?_
  by_cases h6 : x.op = 6
  · simp -implicitDefEqProofs [encInst, sureI, h6]
  by_cases h7 : x.op = 7
  · simp -implicitDefEqProofs [encInst, sureI, h7]
  simp -implicitDefEqProofs [encInst, sureI, h6, h7]
theorem sure_ok (l : List Inst) (hl : l.length ≤ 9223372036854775807) : PCall Tryz.prog 73 [.sl .no (l.map encInst)] (.bool (l.all sureI)) := by
  refine PCall.run hb73 ok73 (by simp) (pures1 (elOK_Inst.pureL l)) (.bool _) ?_
  simp -implicitDefEqProofs []
  refine callQ_s (contains_gen hb70 ok70 hb89 ok89 elOK_Inst l hl (first := []) (caps := []) (p := fun x => !sureI x) rfl rfl (fun x _ => Sure1_ok x _)) (by simp) ?_
  simp -implicitDefEqProofs [any_not]

theorem reads_ok (k : KeyT) : PCall Tryz.prog 58 [.agg (encKeyT k)] (.sl .no ([(⟨1, 0, 0, 0, k, zeroK, 0⟩ : Inst)].map encInst)) := by
  refine PCall.run hb58 ok58 (by simp) (pures1 (pureKey k)) (elOK_Inst.pureL _) ?_
  simp -implicitDefEqProofs [encKeyT, encInst, zeroK, H.nil]
theorem progMay_reads (k : KeyT) {args : Int} (h0 : 0 ≤ args) (h3 : args ≤ 3) : progMay [(⟨1, 0, 0, 0, k, zeroK, 0⟩ : Inst)] args = mayKey k args := by
  have z0 : isReg 0 = true := by decide
  simp [progMay, oneInst, z0, zeroK, keyNone]
  intro; omega
end Go.Proofs

/- Which classes and catalogues there may be: the document's answer. -/
namespace Go.Proofs
open Go Go.RowKit Go.Am

def backMay (c : Stp) (args : Int) : Bool := (!decide (0 < c.code.length) || progMay c.code args) && c.code.all fun x => decide (x.op < 6)
def stepMay (args : Int) (p : Stp × Stp) : Bool := progMay p.1.code args && footMay p.1.foot args && footMay p.2.foot args && backMay p.2 args
def clsMay (x : Cls) : Bool :=
  !decide (x.name.size < 1) && !decide (16 < x.name.size) && !decide (x.args < 0) && !decide (3 < x.args) && !decide (x.steps.length < 1) && !decide (4 < x.steps.length) && decide (x.comps.length = x.steps.length) &&
    (x.steps.zip x.comps).all (stepMay x.args)

theorem refClsMay_ok (x : Cls) (hx : x.wf) : PCall Tryz.prog 26 [.agg (encCls x)] (.bool (clsMay x)) := by
  refine PCall.run hb26 ok26 (by simp) (pures1 (.agg (pure_encCls x))) (.bool _) ?_
  obtain ⟨hwn, hwa, ⟨hsl, hsw⟩, hcl, hcw⟩ := hx
  by_cases bad : x.name.size < 1 ∨ 16 < x.name.size ∨ x.args < 0 ∨ 3 < x.args ∨ x.steps.length < 1 ∨ 4 < x.steps.length ∨ x.comps.length ≠ x.steps.length
  · have hf : clsMay x = false := by
      simp only [clsMay, Bool.and_eq_false_iff, Bool.not_eq_false', decide_eq_true_eq, decide_eq_false_iff_not]
      omega
    simp (maxSteps := 2000000) +contextual -implicitDefEqProofs [↓gdL_F, ↓condQ_b, -Int.not_lt, -Int.not_le, -Nat.not_lt, -Nat.not_le, hf, encCls]
    all_goals (intros; omega)
  · have hm : clsMay x = (x.steps.zip x.comps).all (stepMay x.args) := by
      simp only [clsMay, show ¬ x.name.size < 1 by omega, show ¬ 16 < x.name.size by omega, show ¬ x.args < 0 by omega, show ¬ 3 < x.args by omega, show ¬ x.steps.length < 1 by omega, show ¬ 4 < x.steps.length by omega, show x.comps.length = x.steps.length by omega]
      simp
    have hcs : x.comps.length = x.steps.length := by omega
    have hzl : (x.steps.zip x.comps).length = x.steps.length := by simp [hcs]
    have e1 : ¬ (x.name.size : Int) < 1 := by omega
    have e2 : ¬ (16 : Int) < (x.name.size : Int) := by omega
    have e5 : ¬ (x.steps.length : Int) < 1 := by omega
    have e6 : ¬ (4 : Int) < (x.steps.length : Int) := by omega
    simp -implicitDefEqProofs [encCls, e1, e2, show ¬ x.args < 0 by omega, show ¬ 3 < x.args by omega, e5, e6, hcs, hm]
    refine run_loop (fun n s h => ∃ j : Nat, n = x.steps.length - j ∧ j ≤ x.steps.length ∧ s 1 = .ptr 0 0 ∧ 0 < h.bn ∧ h.bx 0 = some [.str x.name, .int .i64 x.args, .sl .no (x.steps.map encStp), .sl .no (x.comps.map encStp), .bool x.resume] ∧ s 3 = .int .i64 x.steps.length ∧ s 4 = .int .i64 j ∧ ∀ i (hi : i < (x.steps.zip x.comps).length), i < j → stepMay x.args (x.steps.zip x.comps)[i] = true) ?_ x.steps.length ?_
    · rintro n s h ⟨j, hn, hj, h1, h0, hb, h3, h4, hall⟩ ih
      by_cases hlt : j < x.steps.length
      · have hlt2 : j < x.comps.length := by omega
        have hlz : j < (x.steps.zip x.comps).length := by omega
        have hws := hsw _ (List.getElem_mem hlt)
        have hwc := hcw _ (List.getElem_mem hlt2)
        have hno : stepMay x.args (x.steps.zip x.comps)[j] = false → (x.steps.zip x.comps).all (stepMay x.args) = false := all_take_false hlz
        rw [List.getElem_zip] at hno
        simp -implicitDefEqProofs [h3, h4, hlt]
        refine run_dregL c26_d7 rfl ?_
        simp -implicitDefEqProofs [h1, h0, hb, h4, hlt, encStp]
        refine callC_p (refProgMay_ok x.steps[j].code x.args hws.1.1) (by simp) ?_
        cases hp : progMay x.steps[j].code x.args
        · have := hno (by simp [stepMay, hp])
          simp -implicitDefEqProofs [this]
        simp -implicitDefEqProofs [h1, h0, hb, h4, hlt, encStp]
        refine callC_p (refFootMay_ok x.steps[j].foot x.args hws.2.1) (by simp) ?_
        cases hq : footMay x.steps[j].foot x.args
        · have := hno (by simp [stepMay, hp, hq])
          simp -implicitDefEqProofs [this]
        simp -implicitDefEqProofs [h1, h0, hb, h4, hlt2, encStp]
        refine callC_p (refFootMay_ok x.comps[j].foot x.args hwc.2.1) (by simp) ?_
        cases hr : footMay x.comps[j].foot x.args
        · have := hno (by simp [stepMay, hp, hq, hr])
          simp -implicitDefEqProofs [this]
        simp -implicitDefEqProofs [h1, h0, hb, h4, hlt2, encStp]
        have hb2 : backMay x.comps[j] x.args = false → (x.steps.zip x.comps).all (stepMay x.args) = false := fun h => hno (by simp [stepMay, h])
        have hb3 : backMay x.comps[j] x.args = true → stepMay x.args (x.steps[j], x.comps[j]) = true := fun h => by simp [stepMay, hp, hq, hr, h]
        clear hno
        have hend : ∀ i (hi : i < (x.steps.zip x.comps).length), backMay x.comps[j] x.args = true → i < j + 1 → stepMay x.args (x.steps.zip x.comps)[i] = true := fun i hi hbm hij => by
          by_cases h : i = j
          · subst h; rw [List.getElem_zip]; exact hb3 hbm
          · exact hall i hi (by omega)
        by_cases hc : 0 < x.comps[j].code.length
        focus
          simp -implicitDefEqProofs [hc, h1, h0, hb]
          refine callQ_p (refProgMay_ok x.comps[j].code x.args hwc.1.1) (by simp) ?_
          cases hs : progMay x.comps[j].code x.args
          · have := hb2 (by simp [backMay, hc, hs])
            simp -implicitDefEqProofs [this, hc]
          simp -implicitDefEqProofs [hc]
          have hcode : (!decide (0 < x.comps[j].code.length) || progMay x.comps[j].code x.args) = true := by simp [hs]
        rotate_left
        focus
          simp -implicitDefEqProofs [hc]
          have hcode : (!decide (0 < x.comps[j].code.length) || progMay x.comps[j].code x.args) = true := by simp [hc]
        all_goals
          have hbm : backMay x.comps[j] x.args = x.comps[j].code.all fun x => decide (x.op < 6) := by simp [backMay, hcode]
          refine run_loop (fun n s h => ∃ k : Nat, n = x.comps[j].code.length - k ∧ k ≤ x.comps[j].code.length ∧ s 1 = .ptr 0 0 ∧ 0 < h.bn ∧ h.bx 0 = some [.str x.name, .int .i64 x.args, .sl .no (x.steps.map encStp), .sl .no (x.comps.map encStp), .bool x.resume] ∧ s 3 = .int .i64 x.steps.length ∧ s 4 = .int .i64 j ∧ s 5 = .sl .no (x.comps[j].code.map encInst) ∧ s 6 = .int .i64 k ∧ ∀ i (hi : i < x.comps[j].code.length), i < k → decide (x.comps[j].code[i].op < 6) = true) ?_ x.comps[j].code.length ?_
          · rintro n s h ⟨k, hn, hk, h1, h0, hb, h3, h4, h5, h6, hal⟩ ih2
            by_cases hlk : k < x.comps[j].code.length
            · by_cases ho : x.comps[j].code[k].op < 6
              · simp -implicitDefEqProofs [h5, h6, hlk, encInst, show ¬ 6 ≤ x.comps[j].code[k].op by omega, inc_i64 hlk hwc.1.1, -Int.natCast_add]
                exact ih2 (x.comps[j].code.length - (k + 1)) _ _ (by omega) ⟨k + 1, rfl, by omega, by simp [h1], by simpa using h0, by simp [hb], by simp [h3], by simp [h4], by simp [h5], by simp, fun i hi hij => by
                  by_cases h : i = k
                  · subst h; simpa using ho
                  · exact hal i hi (by omega)⟩
              · have := hb2 (hbm ▸ all_take_false (p := fun x : Inst => decide (x.op < 6)) hlk (by simpa using ho))
                simp -implicitDefEqProofs [h5, h6, hlk, encInst, show 6 ≤ x.comps[j].code[k].op by omega, this]
            · have hbt := hbm.trans (all_whole (p := fun x : Inst => decide (x.op < 6)) (by omega) hal)
              simp -implicitDefEqProofs [h4, h5, h6, hlk, inc_i64 hlt hsl, -Int.natCast_add]
              exact ih (x.steps.length - (j + 1)) _ _ (by omega) ⟨j + 1, rfl, by omega, by simp [h1], by simpa using h0, by simp [hb], by simp [h3], by simp, fun i hi hij => hend i hi hbt hij⟩
          · exact ⟨0, by simp [h1, h0, hb, h3, h4]⟩
      · have hw := all_whole (p := stepMay x.args) (by omega) hall
        simp -implicitDefEqProofs [h3, h4, hlt, hw]
    · exact ⟨0, by simp [H.nil]⟩
end Go.Proofs

/- Which catalogues there may be: the document's answer. -/
namespace Go.Proofs
open Go Go.RowKit Go.Am

def Ctlg.nameAt (x : Ctlg) (i : Nat) : ByteArray := (x.classes[i]?.map (·.name)).getD ByteArray.empty
def Ctlg.stepsN (x : Ctlg) (i : Nat) : Nat := (x.classes[i]?.map (·.steps.length)).getD 0
def Ctlg.brk (x : Ctlg) (c d : Nat) : Int := (x.breaks[4 * c + d]?).getD 0
def Ctlg.mostB (x : Ctlg) (c d : Nat) : Int := if c < x.classes.length ∧ d < x.classes.length then 2 ^ (x.stepsN c - 1) else 1
def Ctlg.brkOK (x : Ctlg) (c d : Nat) : Bool := !decide (x.brk c d < 0) && !decide (x.mostB c d ≤ x.brk c d)
def Ctlg.namesOK (x : Ctlg) (i : Nat) : Bool := (List.range i).all fun j => !decide (x.nameAt j = x.nameAt i)
def Ctlg.clsOK (x : Ctlg) (i : Nat) : Bool := (x.classes[i]?.map clsMay).getD false
def catMay (x : Ctlg) : Bool :=
  !decide (x.classes.length < 1) && !decide (4 < x.classes.length) && ((List.range x.classes.length).all fun i => x.clsOK i && x.namesOK i) && (List.range 4).all fun c => (List.range 4).all (x.brkOK c)

theorem allR_false {p : Nat → Bool} {n j : Nat} (hj : j < n) (h : p j = false) : (List.range n).all p = false := by
  rw [List.all_eq_false]
  exact ⟨j, List.mem_range.2 hj, by simp [h]⟩
theorem allR_true {p : Nat → Bool} {n j : Nat} (hj : n ≤ j) (h : ∀ i, i < j → p i = true) : (List.range n).all p = true := by
  rw [List.all_eq_true]
  intro x hx
  exact h x (by have := List.mem_range.1 hx; omega)
@[simp] theorem take_encCls (y : Cls) : List.take 5 (encCls y) = encCls y := rfl
theorem Ctlg.brk_of {x : Ctlg} {c d : Nat} (hb : x.breaks.length = 16) (hc : c < 4) (hd : d < 4) : x.brk c d = x.breaks[4 * c + d] := by simp [brk, show 4 * c + d < x.breaks.length by omega]
theorem Ctlg.brk_load {x : Ctlg} (v : AV) {c d : Nat} (hb : x.breaks.length = 16) (hc : c < 4) (hd : d < 4) : List.take 1 (List.drop (1 + c * 4 + d) (v :: x.breaks.map (AV.int .i64))) = [.int .i64 (x.brk c d)] := by
  rw [show 1 + c * 4 + d = (4 * c + d) + 1 by omega, List.drop_succ_cons, brk_of hb hc hd, List.drop_eq_getElem_cons (by simp; omega)]
  simp
theorem Ctlg.nameAt_of {x : Ctlg} {i : Nat} (h : i < x.classes.length) : x.nameAt i = x.classes[i].name := by simp [nameAt, h]
theorem Ctlg.stepsN_of {x : Ctlg} {i : Nat} (h : i < x.classes.length) : x.stepsN i = x.classes[i].steps.length := by simp [stepsN, h]
theorem Ctlg.clsOK_of {x : Ctlg} {i : Nat} (h : i < x.classes.length) : x.clsOK i = clsMay x.classes[i] := by simp [clsOK, h]

set_option maxHeartbeats 1000000 in
theorem refCatMay_ok (x : Ctlg) (hx : x.wf) : PCall Tryz.prog 9 [.agg (encCtlg x)] (.bool (catMay x)) := by
  refine PCall.run hb9 ok9 (by simp) (pures1 (.agg (pure_encCtlg x))) (.bool _) ?_
  obtain ⟨⟨hcl, hcw⟩, hbl, hbw⟩ := hx
  by_cases bad : x.classes.length < 1 ∨ 4 < x.classes.length
  · have hf : catMay x = false := by
      simp only [catMay, Bool.and_eq_false_iff, Bool.not_eq_false', decide_eq_true_eq]
      omega
    simp (maxSteps := 2000000) +contextual -implicitDefEqProofs [↓gdL_F, ↓condQ_b, -Int.not_lt, -Int.not_le, -Nat.not_lt, -Nat.not_le, hf, encCtlg]
    all_goals (intros; omega)
  · have hm : catMay x = (((List.range x.classes.length).all fun i => x.clsOK i && x.namesOK i) && (List.range 4).all fun c => (List.range 4).all (x.brkOK c)) := by
      simp only [catMay, show ¬ x.classes.length < 1 by omega, show ¬ 4 < x.classes.length by omega]
      simp
    have e5 : ¬ (x.classes.length : Int) < 1 := by omega
    have e6 : ¬ (4 : Int) < (x.classes.length : Int) := by omega
    simp -implicitDefEqProofs [encCtlg, e5, e6, hm]
    refine run_loop (fun n s h => ∃ j : Nat, n = x.classes.length - j ∧ j ≤ x.classes.length ∧ s 1 = .ptr 0 0 ∧ 0 < h.bn ∧ h.bx 0 = some ([.sl .no (x.classes.map encCls)] ++ x.breaks.map (AV.int .i64)) ∧ s 3 = .int .i64 x.classes.length ∧ s 4 = .int .i64 j ∧ ∀ i, i < j → (x.clsOK i && x.namesOK i) = true) ?_ x.classes.length ?_
    · rintro n s h ⟨j, hn, hj, h1, h0, hb, h3, h4, hall⟩ ih
      by_cases hlt : j < x.classes.length
      · have hno : (x.clsOK j && x.namesOK j) = false → ((List.range x.classes.length).all fun i => x.clsOK i && x.namesOK i) = false := allR_false (p := fun i => x.clsOK i && x.namesOK i) hlt
        simp -implicitDefEqProofs [h1, h0, hb, h3, h4, hlt]
        refine callQ_p (refClsMay_ok x.classes[j] (hcw _ (List.getElem_mem hlt))) (by simp) ?_
        cases hp : clsMay x.classes[j]
        · have := hno (by simp [Ctlg.clsOK_of hlt, hp])
          simp -implicitDefEqProofs [this]
        simp -implicitDefEqProofs []
        refine run_loop (fun n s h => ∃ k : Nat, n = j - k ∧ k ≤ j ∧ s 1 = .ptr 0 0 ∧ 0 < h.bn ∧ h.bx 0 = some ([.sl .no (x.classes.map encCls)] ++ x.breaks.map (AV.int .i64)) ∧ s 3 = .int .i64 x.classes.length ∧ s 4 = .int .i64 j ∧ s 5 = .int .i64 k ∧ ∀ i, i < k → (!decide (x.nameAt i = x.nameAt j)) = true) ?_ j ?_
        · rintro n s h ⟨k, hn, hk, h1, h0, hb, h3, h4, h5, hal⟩ ih2
          by_cases hlk : k < j
          · have hlk2 : k < x.classes.length := by omega
            simp -implicitDefEqProofs [h4, h5, hlk]
            refine run_dregL c9_d11 rfl ?_
            simp -implicitDefEqProofs [h1, h0, hb, h4, h5, hlk2, hlt, encCls]
            by_cases he : x.classes[k].name = x.classes[j].name
            · have := hno (by
                rw [allR_false (n := j) hlk (p := fun k => !decide (x.nameAt k = x.nameAt j)) (by simp [Ctlg.nameAt_of hlk2, Ctlg.nameAt_of hlt, he]) |> (show x.namesOK j = false from ·)]
                simp)
              simp -implicitDefEqProofs [he, this]
            · simp -implicitDefEqProofs [he, h5, inc_i64 hlk (by omega), -Int.natCast_add]
              exact ih2 (j - (k + 1)) _ _ (by omega) ⟨k + 1, rfl, by omega, by simp [h1], by simpa using h0, by simp [hb], by simp [h3], by simp [h4], by simp, fun i hij => by
                by_cases h : i = k
                · subst h; simpa [Ctlg.nameAt_of hlk2, Ctlg.nameAt_of hlt] using he
                · exact hal i (by omega)⟩
          · have hn : x.namesOK j = true := allR_true (by omega) hal
            simp -implicitDefEqProofs [h4, h5, hlk, inc_i64 hlt hcl, -Int.natCast_add]
            exact ih (x.classes.length - (j + 1)) _ _ (by omega) ⟨j + 1, rfl, by omega, by simp [h1], by simpa using h0, by simp [hb], by simp [h3], by simp, fun i hij => by
              by_cases h : i = j
              · subst h; simp [Ctlg.clsOK_of hlt, hp, hn]
              · exact hall i (by omega)⟩
        · exact ⟨0, by simp [h1, h0, hb, h3, h4]⟩
      · have hw : ((List.range x.classes.length).all fun i => x.clsOK i && x.namesOK i) = true := allR_true (by omega) hall
        have hst : ∀ c, c < x.classes.length → x.stepsN c ≤ 4 := fun c hc => by
          have h := hall c (by omega)
          rw [Bool.and_eq_true, Ctlg.clsOK_of hc] at h
          have h := h.1
          simp only [clsMay, Bool.and_eq_true, Bool.not_eq_true', decide_eq_false_iff_not] at h
          rw [Ctlg.stepsN_of hc]
          omega
        simp -implicitDefEqProofs [h3, h4, hlt, hw]
        clear ih hall hw hm
        refine run_loop (fun n s h => ∃ c : Nat, n = 4 - c ∧ c ≤ 4 ∧ s 1 = .ptr 0 0 ∧ 0 < h.bn ∧ h.bx 0 = some ([.sl .no (x.classes.map encCls)] ++ x.breaks.map (AV.int .i64)) ∧ s 3 = .int .i64 x.classes.length ∧ s 6 = .int .i64 c ∧ ∀ i, i < c → (List.range 4).all (x.brkOK i) = true) ?_ 4 ?_
        · rintro n s h ⟨c, hn, hc, h1, h0, hb, h3, h6, hal⟩ ih
          by_cases hlc : c < 4
          · have hno : (List.range 4).all (x.brkOK c) = false → ((List.range 4).all fun c => (List.range 4).all (x.brkOK c)) = false := allR_false (p := fun c => (List.range 4).all (x.brkOK c)) hlc
            simp -implicitDefEqProofs [h6, show (c : Int) < 4 by omega]
            refine run_loop (fun n s h => ∃ d : Nat, n = 4 - d ∧ d ≤ 4 ∧ s 1 = .ptr 0 0 ∧ 0 < h.bn ∧ h.bx 0 = some ([.sl .no (x.classes.map encCls)] ++ x.breaks.map (AV.int .i64)) ∧ s 3 = .int .i64 x.classes.length ∧ s 6 = .int .i64 c ∧ s 7 = .int .i64 d ∧ ∀ i, i < d → x.brkOK c i = true) ?_ 4 ?_
            · rintro n s h ⟨d, hn, hd, h1, h0, hb, h3, h6, h7, hal2⟩ ih2
              by_cases hld : d < 4
              · have hno2 : x.brkOK c d = false → ((List.range 4).all fun c => (List.range 4).all (x.brkOK c)) = false := fun h => hno (allR_false hld h)
                simp -implicitDefEqProofs [h3, h6, h7, show (d : Int) < 4 by omega]
                by_cases hb2 : c < x.classes.length ∧ d < x.classes.length
                focus
                  obtain ⟨hc2, hd2⟩ := hb2
                  have hms : x.mostB c d = 2 ^ (x.stepsN c - 1) := if_pos ⟨hc2, hd2⟩
                  have h4 := hst c hc2
                  rw [Ctlg.stepsN_of hc2] at hms h4
                  simp -implicitDefEqProofs [h3, h7, hc2, hd2]
                  refine run_loop (fun n s h => ∃ k : Nat, n = 5 - k ∧ 1 ≤ k ∧ (k = 1 ∨ k ≤ x.classes[c].steps.length) ∧ s 1 = .ptr 0 0 ∧ 0 < h.bn ∧ h.bx 0 = some ([.sl .no (x.classes.map encCls)] ++ x.breaks.map (AV.int .i64)) ∧ s 3 = .int .i64 x.classes.length ∧ s 6 = .int .i64 c ∧ s 7 = .int .i64 d ∧ s 9 = .int .i64 k ∧ s 8 = .int .i64 (2 ^ (k - 1))) ?_ 4 ?_
                  rotate_left
                  · exact ⟨1, by simp [h1, h0, hb, h3, h6, h7]⟩
                  rintro n s h ⟨k, hn, hk1, hk, h1, h0, hb, h3, h6, h7, h9, h8⟩ ih3
                  by_cases hlk : k < x.classes[c].steps.length
                  · have hk4 : k = 1 ∨ k = 2 ∨ k = 3 := by omega
                    have hw8 : IntKind.i64.wrap (2 * 2 ^ (k - 1)) = 2 ^ (k + 1 - 1) := by
                      rcases hk4 with rfl | rfl | rfl <;> decide
                    simp -implicitDefEqProofs [h1, h0, hb, h6, h8, h9, hc2, hlk, encCls, inc_i64 hlk (by omega), -Int.natCast_add, hw8]
                    exact ih3 (5 - (k + 1)) _ _ (by omega) ⟨k + 1, rfl, by omega, by omega, by simp [h1], by simpa using h0, by simp [hb], by simp [h3], by simp [h6], by simp [h7], by simp, by simp⟩
                  have hms2 : (2 : Int) ^ (k - 1) = x.mostB c d := by
                    rw [hms]; congr 1; omega
                  rw [hms2] at h8
                  simp -implicitDefEqProofs [h1, h0, hb, h6, h7, h9, hc2, hlk, encCls]
                rotate_left
                focus
                  have hms : x.mostB c d = 1 := if_neg hb2
                  by_cases hc2 : c < x.classes.length
                  focus
                    simp -implicitDefEqProofs [h1, h3, h6, h7, hc2, show ¬ d < x.classes.length from fun h => hb2 ⟨hc2, h⟩]
                    rw [← hms]
                    have h8 := hc
                  rotate_left
                  focus
                    simp -implicitDefEqProofs [h1, h6, h7, hc2]
                    rw [← hms]
                    have h8 := hc
                all_goals
                  have hbk := Ctlg.brk_load (x := x) (.sl .no (x.classes.map encCls)) hbl hlc hld
                  by_cases hneg : x.brk c d < 0 ∨ x.mostB c d ≤ x.brk c d
                  · have hf : x.brkOK c d = false := by
                      simp only [Ctlg.brkOK, Bool.and_eq_false_iff, Bool.not_eq_false', decide_eq_true_eq]
                      exact hneg
                    simp (maxSteps := 2000000) +contextual -implicitDefEqProofs [↓gdL_F, ↓condQ_b, -Int.not_lt, -Int.not_le, -Nat.not_lt, -Nat.not_le, h1, h0, hb, h6, h7, h8, show (c : Int) < 4 by omega, show (d : Int) < 4 by omega, hbk, hbl, show 1 + c * 4 + d + 1 ≤ 16 + 1 by omega, hno2 hf]
                    all_goals (intros; omega)
                  · have hf : x.brkOK c d = true := by
                      simp only [Ctlg.brkOK, Bool.and_eq_true, Bool.not_eq_true', decide_eq_false_iff_not]
                      omega
                    simp -implicitDefEqProofs [h1, h0, hb, h6, h7, h8, show (c : Int) < 4 by omega, show (d : Int) < 4 by omega, hbk, hbl, show 1 + c * 4 + d + 1 ≤ 16 + 1 by omega, show ¬ x.brk c d < 0 by omega, show ¬ x.mostB c d ≤ x.brk c d by omega, inc_i64 hld (show 4 ≤ _ by omega), -Int.natCast_add]
                    exact ih2 (4 - (d + 1)) _ _ (by omega) ⟨d + 1, rfl, by omega, by simp [h1], by simpa using h0, by simp [hb], by simp [h3], by simp [h6], by simp, fun i hij => by
                      by_cases h : i = d
                      · subst h; exact hf
                      · exact hal2 i (by omega)⟩
              · have hw : (List.range 4).all (x.brkOK c) = true := allR_true (by omega) hal2
                simp -implicitDefEqProofs [h6, h7, show ¬ (d : Int) < 4 by omega]
                simp -implicitDefEqProofs [inc_i64 hlc (show 4 ≤ _ by omega), -Int.natCast_add]
                exact ih (4 - (c + 1)) _ _ (by omega) ⟨c + 1, rfl, by omega, by simp [h1], by simpa using h0, by simp [hb], by simp [h3], by simp, fun i hij => by
                  by_cases h : i = c
                  · subst h; exact hw
                  · exact hal i (by omega)⟩
            · exact ⟨0, by simp [h1, h0, hb, h3, h6]⟩
          · have hw : ((List.range 4).all fun c => (List.range 4).all (x.brkOK c)) = true := allR_true (by omega) hal
            simp -implicitDefEqProofs [h6, show ¬ (c : Int) < 4 by omega, hw]
        · exact ⟨0, by simp [h1, h0, hb, h3]⟩
    · exact ⟨0, by simp [H.nil]⟩
end Go.Proofs

/- Which footprints there may be: the program's answer; what may compensate. -/
namespace Go.Proofs
open Go Go.RowKit Go.Am

theorem footMay1_ok (x : SpanT) {args : Int} (a0 : 0 ≤ args) (a3 : args ≤ 3) {h : H} {b : Nat} (hb : b < h.bn) (hbx : h.bx b = some [.int .i64 args]) : SCall Tryz.prog 57 [.agg (encSpanT x), .ptr b 0] h (.bool (!(mayKey x.lo args && mayKey x.hi args))) h := by
  refine SCall.ro (CallP.run hb57 ok57 (by simp) ?_) (.bool _)
  simp -implicitDefEqProofs [encSpanT]
  refine run_dregL c57_d2 rfl ?_
  simp -implicitDefEqProofs []
  refine callC_p (reads_ok x.lo) (by simp [encKeyT]) ?_
  simp -implicitDefEqProofs [hbx, show ¬ b = h.bn by omega, show b < h.bn + 1 by omega]
  refine callC_p (progMay_ok [(⟨1, 0, 0, 0, x.lo, zeroK, 0⟩ : Inst)] args (by simp)) (by simp [encInst]) ?_
  rw [progMay_reads x.lo a0 a3]
  cases e : mayKey x.lo args
  · simp -implicitDefEqProofs []
    exact HF.alloc _ _ _ _
  simp -implicitDefEqProofs []
  refine callC_p (reads_ok x.hi) (by simp [encKeyT]) ?_
  simp -implicitDefEqProofs [hbx, show ¬ b = h.bn by omega, show b < h.bn + 1 by omega]
  refine callC_p (progMay_ok [(⟨1, 0, 0, 0, x.hi, zeroK, 0⟩ : Inst)] args (by simp)) (by simp [encInst]) ?_
  rw [progMay_reads x.hi a0 a3]
  simp -implicitDefEqProofs []
  exact HF.alloc _ _ _ _

theorem footMay_ok (l : List SpanT) (args : Int) (hl : l.length ≤ 9223372036854775807) : PCall Tryz.prog 35 [.sl .no (l.map encSpanT), .int .i64 args] (.bool (footMay l args)) := by
  refine PCall.run hb35 ok35 (by simp) (pures_cons (elOK_SpanT.pureL l) (pures1 (.int _ _))) (.bool _) ?_
  by_cases a0 : 0 ≤ args
  rotate_left
  · simp -implicitDefEqProofs [H.nil, a0, footMay, show args < 0 by omega]
  by_cases a3 : args ≤ 3
  rotate_left
  · simp -implicitDefEqProofs [H.nil, a0, a3, footMay, show 3 < args by omega]
  by_cases a4 : (l.length : Int) ≤ 4
  rotate_left
  · simp -implicitDefEqProofs [H.nil, a0, a3, a4, footMay, show 4 < l.length by omega]
  have hm : footMay l args = l.all fun s => mayKey s.lo args && mayKey s.hi args := by
    simp only [footMay, show ¬ args < 0 by omega, show ¬ 3 < args by omega, show ¬ 4 < l.length by omega]
    simp
  simp -implicitDefEqProofs [H.nil, a0, a3, a4]
  refine callQ_s (contains_gen hb59 ok59 hb83 ok83 elOK_SpanT l hl (first := []) (caps := [.ptr 0 0]) (p := fun x => !(mayKey x.lo args && mayKey x.hi args)) rfl (by simp) (fun x _ => footMay1_ok x a0 a3 (by simp) (by simp))) (by simp) ?_
  have ha := any_not l fun x : SpanT => mayKey x.lo args && mayKey x.hi args
  rw [hm]
  simp -implicitDefEqProofs []
  rw [← ha, Bool.not_not]
  congr 1
  funext x
  simp

def compMay (c : Stp) (args : Int) : Bool := (decide (c.code.length = 0) || (progMay c.code args && c.code.all sureI)) && footMay c.foot args
theorem mayComp_ok (c : Stp) (args : Int) (hc : c.wf) : PCall Tryz.prog 50 [.agg (encStp c), .int .i64 args] (.bool (compMay c args)) := by
  refine PCall.run hb50 ok50 (by simp) (pures_cons (.agg (pure_encStp c)) (pures1 (.int _ _))) (.bool _) ?_
  have h1 := hc.1.1
  have h2 := hc.2.1
  simp only [maxLen] at h1 h2
  by_cases e : c.code.length = 0
  · simp -implicitDefEqProofs [encStp, H.nil, e]
    refine callQ_p (footMay_ok c.foot args h2) (by simp) ?_
    simp -implicitDefEqProofs [compMay, e]
  · simp -implicitDefEqProofs [encStp, H.nil, e]
    refine callQ_p (progMay_ok c.code args h1) (by simp) ?_
    cases hp : progMay c.code args
    · simp -implicitDefEqProofs [compMay, e, hp]
    simp -implicitDefEqProofs []
    refine callQ_p (sure_ok c.code h1) (by simp) ?_
    cases hs : c.code.all sureI
    · simp -implicitDefEqProofs [compMay, e, hp, hs]
    simp -implicitDefEqProofs []
    refine callQ_p (footMay_ok c.foot args h2) (by simp) ?_
    simp -implicitDefEqProofs [compMay, e, hp, hs]

theorem one_ops {x : Inst} {args : Int} (h : oneInst x args = true) : decide (x.op < 6) = sureI x := by
  have : 1 ≤ x.op ∧ x.op ≤ 8 := by
    by_cases hq : 1 ≤ x.op ∧ x.op ≤ 8
    · exact hq
    · simp only [oneInst] at h
      rw [if_neg (by omega), if_neg (by omega), if_neg (by omega), if_neg (by omega), if_neg (by omega)] at h
      cases h
  rw [Bool.eq_iff_iff]
  simp [sureI]
  omega
theorem comp_back (c : Stp) (args : Int) : compMay c args = (footMay c.foot args && backMay c args) := by
  rw [compMay, backMay, Bool.and_comm]
  congr 1
  by_cases h0 : c.code.length = 0
  · have : c.code = [] := List.length_eq_zero_iff.1 h0
    simp [this]
  · have h1 : 0 < c.code.length := by omega
    simp only [h0, h1, decide_false, decide_true, Bool.false_or, Bool.not_true]
    cases hp : progMay c.code args
    · rfl
    · simp only [Bool.true_and]
      simp only [progMay, Bool.and_eq_true] at hp
      have ho := hp.2
      rw [List.all_eq_true] at ho
      rw [Bool.eq_iff_iff, List.all_eq_true, List.all_eq_true]
      constructor
      · intro h x hx; rw [one_ops (ho x hx)]; exact h x hx
      · intro h x hx; rw [← one_ops (ho x hx)]; exact h x hx
end Go.Proofs
