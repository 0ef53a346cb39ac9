/- What the functions that the statement reaches do: their contracts; and what follows of it. -/
import Derived.Test.YtdcpendppalkgaaSLintSure4
import Derived.Test.YtdcpendppalkgaaK4
import Derived.Test.YtdcpendppalkgaaSLintSure3
/- Which programs, footprints, classes and catalogues there may be: the document's answer. -/
namespace Go.Proofs
open Go Go.RowKit Go.Am

theorem elOK_Inst : ElOK encInst 9 true := ⟨fun _ => rfl, (fun h => by cases h), pure_encInst, wk_encInst⟩
theorem elOK_SpanT : ElOK encSpanT 5 true := ⟨fun _ => rfl, (fun h => by cases h), pure_encSpanT, wk_encSpanT⟩
theorem elOK_Spn : ElOK encSpn 2 true := ⟨fun _ => rfl, (fun h => by cases h), pure_encSpn, wk_encSpn⟩
theorem elOK_Chg : ElOK encChg 3 true := ⟨fun _ => rfl, (fun h => by cases h), pure_encChg, wk_encChg⟩
theorem elOK_KeyT : ElOK encKeyT 2 true := ⟨fun _ => rfl, (fun h => by cases h), pure_encKeyT, wk_encKeyT⟩

def progMay (l : List Inst) (args : Int) : Bool := !decide (args < 0) && !decide (3 < args) && !decide (l.length < 1) && !decide (8 < l.length) && l.all fun x => oneInst x args
def footMay (l : List SpanT) (args : Int) : Bool := !decide (args < 0) && !decide (3 < args) && !decide (4 < l.length) && l.all fun s => mayKey s.lo args && mayKey s.hi args

theorem all_take_false {α : Type} {p : α → Bool} {l : List α} {j : Nat} (hj : j < l.length) (h : p l[j] = false) : l.all p = false := by
  rw [List.all_eq_false]
  exact ⟨l[j], List.getElem_mem hj, by simp [h]⟩
theorem all_whole {α : Type} {p : α → Bool} {l : List α} {j : Nat} (hj : l.length ≤ j) (h : ∀ i (hi : i < l.length), i < j → p l[i] = true) : l.all p = true := by
  rw [List.all_eq_true]
  intro x hx
  obtain ⟨i, hi, rfl⟩ := List.mem_iff_getElem.1 hx
  exact h i hi (by omega)

theorem refProgMay_ok (l : List Inst) (args : Int) (hl : l.length ≤ 9223372036854775807) : PCall Try.prog 97 [.sl .no (l.map encInst), .int .i64 args] (.bool (progMay l args)) := by
  refine PCall.run hb97 ok97 (by simp) (pures_cons (elOK_Inst.pureL l) (pures1 (.int _ _))) (.bool _) ?_
  by_cases bad : ((args < 0 ∨ 3 < args) ∨ (l.length : Int) < 1) ∨ (8 : Int) < (l.length : Int)
  · have hf : progMay l args = false := by
      simp only [progMay, Bool.and_eq_false_iff, Bool.not_eq_false', decide_eq_true_eq]
      omega
    simp (maxSteps := 2000000) +contextual -implicitDefEqProofs [↓gdL_F, ↓condQ_b, -Int.not_lt, -Int.not_le, -Nat.not_lt, -Nat.not_le, hf]
    all_goals (intros; omega)
  · have hm : progMay l args = l.all fun x => oneInst x args := by
      simp only [progMay, show ¬ args < 0 by omega, show ¬ 3 < args by omega, show ¬ l.length < 1 by omega, show ¬ 8 < l.length by omega]
      simp
    simp (maxSteps := 2000000) +contextual -implicitDefEqProofs [↓gdL_F, ↓condQ_b, -Int.not_lt, -Int.not_le, -Nat.not_lt, -Nat.not_le, show ¬ args < 0 by omega, show ¬ 3 < args by omega, show ¬ (l.length : Int) < 1 by omega, show ¬ (8 : Int) < (l.length : Int) by omega, hm]
    refine run_loop (fun n s h => ∃ j : Nat, n = l.length - j ∧ j ≤ l.length ∧ s 0 = .sl .no (l.map encInst) ∧ s 1 = .int .i64 args ∧ s 5 = .int .i64 j ∧ ∀ i (hi : i < l.length), i < j → oneInst l[i] args = true) ?_ l.length ?_
    · rintro n s h ⟨j, hn, hj, h0, h1, h5, hall⟩ ih
      by_cases hlt : j < l.length
      · simp -implicitDefEqProofs [h0, h1, h5, hlt, elOK_Inst.un, -unCells]
        refine callQ_p (refOne_ok l[j] args) (by simp [elV]) ?_
        cases hp : oneInst l[j] args
        · simp -implicitDefEqProofs [all_take_false (p := fun x => oneInst x args) hlt hp]
        · simp -implicitDefEqProofs [h5, inc_i64 hlt hl, -Int.natCast_add]
          exact ih (l.length - (j + 1)) _ _ (by omega) ⟨j + 1, rfl, by omega, by simp [h0], by simp [h1], by simp, fun i hi hij => by
            by_cases h : i = j
            · subst h; exact hp
            · exact hall i hi (by omega)⟩
      · simp -implicitDefEqProofs [h0, h5, hlt, all_whole (p := fun x => oneInst x args) (by omega) hall]
    · exact ⟨0, by simp⟩

theorem refFootMay_ok (l : List SpanT) (args : Int) (hl : l.length ≤ 9223372036854775807) : PCall Try.prog 98 [.sl .no (l.map encSpanT), .int .i64 args] (.bool (footMay l args)) := by
  refine PCall.run hb98 ok98 (by simp) (pures_cons (elOK_SpanT.pureL l) (pures1 (.int _ _))) (.bool _) ?_
  by_cases bad : (args < 0 ∨ 3 < args) ∨ (4 : Int) < (l.length : Int)
  · have hf : footMay l args = false := by
      simp only [footMay, Bool.and_eq_false_iff, Bool.not_eq_false', decide_eq_true_eq]
      omega
    simp (maxSteps := 2000000) +contextual -implicitDefEqProofs [↓gdL_F, ↓condQ_b, -Int.not_lt, -Int.not_le, -Nat.not_lt, -Nat.not_le, hf]
    all_goals (intros; omega)
  · have hm : footMay l args = l.all fun s => mayKey s.lo args && mayKey s.hi args := by
      simp only [footMay, show ¬ args < 0 by omega, show ¬ 3 < args by omega, show ¬ 4 < l.length by omega]
      simp
    simp (maxSteps := 2000000) +contextual -implicitDefEqProofs [↓gdL_F, ↓condQ_b, -Int.not_lt, -Int.not_le, -Nat.not_lt, -Nat.not_le, show ¬ args < 0 by omega, show ¬ 3 < args by omega, show ¬ (4 : Int) < (l.length : Int) by omega, hm]
    refine run_loop (fun n s h => ∃ j : Nat, n = l.length - j ∧ j ≤ l.length ∧ s 0 = .sl .no (l.map encSpanT) ∧ s 1 = .int .i64 args ∧ s 5 = .int .i64 j ∧ ∀ i (hi : i < l.length), i < j → (mayKey l[i].lo args && mayKey l[i].hi args) = true) ?_ l.length ?_
    · rintro n s h ⟨j, hn, hj, h0, h1, h5, hall⟩ ih
      by_cases hlt : j < l.length
      · simp -implicitDefEqProofs [h0, h1, h5, hlt, encSpanT]
        refine callQ_p (refMayKey_ok l[j].lo args) (by simp [encKeyT]) ?_
        cases hp : mayKey l[j].lo args
        · simp -implicitDefEqProofs [all_take_false (p := fun s => mayKey s.lo args && mayKey s.hi args) hlt (by simp [hp])]
        · simp -implicitDefEqProofs [h0, h1, h5, hlt, encSpanT]
          refine callQ_p (refMayKey_ok l[j].hi args) (by simp [encKeyT]) ?_
          cases hq : mayKey l[j].hi args
          · simp -implicitDefEqProofs [all_take_false (p := fun s => mayKey s.lo args && mayKey s.hi args) hlt (by simp [hp, hq])]
          · simp -implicitDefEqProofs [h5, inc_i64 hlt hl, -Int.natCast_add]
            exact ih (l.length - (j + 1)) _ _ (by omega) ⟨j + 1, rfl, by omega, by simp [h0], by simp [h1], by simp, fun i hi hij => by
              by_cases h : i = j
              · subst h; simp [hp, hq]
              · exact hall i hi (by omega)⟩
      · have hw := all_whole (p := fun s : SpanT => mayKey s.lo args && mayKey s.hi args) (by omega) hall
        simp -implicitDefEqProofs [h0, h5, hlt, hw]
    · exact ⟨0, by simp⟩
end Go.Proofs

/- Which programs there may be: the program's answer. -/
namespace Go.Proofs
open Go Go.RowKit Go.Am

theorem mayKey_ok (k : KeyT) (args : Int) : PCall Try.prog 137 [.agg (encKeyT k), .int .i64 args] (.bool (mayKey k args)) := by
  refine PCall.run hb137 ok137 (by simp) (pures_cons (pureKey k) (pures1 (.int _ _))) (.bool _) ?_
  simp (maxSteps := 2000000) +contextual -implicitDefEqProofs [↓gdL_T, ↓gdL_F, ↓condQ_b, -Int.not_lt, -Int.not_le, -Nat.not_lt, -Nat.not_le, encKeyT, mayKey]

theorem register_ok (n : Int) : PCall Try.prog 138 [.int .i64 n] (.bool (isReg n)) := by
  refine PCall.run hb138 ok138 (by simp) (pures1 (.int _ _)) (.bool _) ?_
  by_cases h : 0 ≤ n
  · simp -implicitDefEqProofs [isReg, h]
    rw [Bool.eq_iff_iff]; simp; omega
  · simp -implicitDefEqProofs [isReg, h]

def keysI (x : Inst) : List KeyT := if x.op = 1 ∨ x.op = 2 ∨ x.op = 3 then [x.k] else if x.op = 4 then [x.k, x.l] else []
theorem keys_ok (x : Inst) : PCall Try.prog 140 [.agg (encInst x)] (.sl .no ((keysI x).map encKeyT)) := by
  refine PCall.run hb140 ok140 (by simp) (pures1 (pureInst x)) (pure_sl pure_encKeyT _) ?_
  by_cases h1 : x.op = 1
  · simp -implicitDefEqProofs [encInst, h1, keysI, encKeyT]
  by_cases h2 : x.op = 2
  · simp -implicitDefEqProofs [encInst, h2, keysI, encKeyT]
  by_cases h3 : x.op = 3
  · simp -implicitDefEqProofs [encInst, h3, keysI, encKeyT]
  by_cases h4 : x.op = 4
  · simp -implicitDefEqProofs [encInst, h4, keysI, encKeyT]
  simp -implicitDefEqProofs [encInst, h1, h2, h3, h4, keysI]

def zeroK : KeyT := ⟨0, 0⟩
def onlyI (x : Inst) : Inst × Bool :=
  if x.op = 1 ∨ x.op = 2 then (⟨x.op, x.a, 0, 0, x.k, zeroK, 0⟩, true)
  else if x.op = 3 then (⟨x.op, 0, 0, 0, x.k, zeroK, 0⟩, true)
  else if x.op = 4 then (⟨x.op, x.a, 0, 0, x.k, x.l, 0⟩, true)
  else if x.op = 5 ∨ x.op = 8 then (⟨x.op, x.a, 0, 0, zeroK, zeroK, x.x⟩, true)
  else if x.op = 6 ∨ x.op = 7 then (⟨x.op, x.a, x.b, x.c, zeroK, zeroK, 0⟩, true)
  else (⟨x.op, x.a, 0, 0, zeroK, zeroK, 0⟩, false)

theorem only_ok (x : Inst) : PCall Try.prog 135 [.agg (encInst x)] (.tup [.agg (encInst (onlyI x).1), .bool (onlyI x).2]) := by
  refine PCall.run hb135 ok135 (by simp) (pures1 (pureInst x)) (.tup (pures_cons (pureInst _) (pures1 (.bool _)))) ?_
  by_cases h1 : x.op = 1
  · simp -implicitDefEqProofs [encInst, h1, onlyI, H.nil, zeroK]
  by_cases h2 : x.op = 2
  · simp -implicitDefEqProofs [encInst, h2, onlyI, H.nil, zeroK]
  by_cases h3 : x.op = 3
  · simp -implicitDefEqProofs [encInst, h3, H.nil]
    refine run_dreg c135_d8 ?_
    simp -implicitDefEqProofs [onlyI, zeroK, h3]
  by_cases h4 : x.op = 4
  · simp -implicitDefEqProofs [encInst, h4, H.nil]
    refine run_dreg c135_d10 ?_
    simp -implicitDefEqProofs [onlyI, h4]
  by_cases h5 : x.op = 5
  · simp -implicitDefEqProofs [encInst, h5, onlyI, H.nil, zeroK]
  by_cases h8 : x.op = 8
  · simp -implicitDefEqProofs [encInst, h8, onlyI, H.nil, zeroK]
  by_cases h6 : x.op = 6
  · simp -implicitDefEqProofs [encInst, h6, H.nil]
    refine run_dreg c135_d16 ?_
    simp -implicitDefEqProofs [onlyI, zeroK, h6]
  by_cases h7 : x.op = 7
  · simp -implicitDefEqProofs [encInst, h7, H.nil]
    refine run_dreg c135_d16 ?_
    simp -implicitDefEqProofs [onlyI, zeroK, h7]
  simp -implicitDefEqProofs [encInst, h1, h2, h3, h4, h5, h6, h7, h8, onlyI, H.nil, zeroK]
end Go.Proofs

/- Which programs there may be: the program's answer, joined. -/
namespace Go.Proofs
open Go Go.RowKit Go.Am

def mayI (x : Inst) (args : Int) : Bool := (onlyI x).2 && decide (x = (onlyI x).1) && isReg x.a && isReg x.b && isReg x.c && !(keysI x).any fun k => !mayKey k args

theorem may1_ok (k : KeyT) (args : Int) {h : H} {b : Nat} (hb : b < h.bn) (hbx : h.bx b = some [.int .i64 args]) : SCall Try.prog 136 [.agg (encKeyT k), .ptr b 0] h (.bool (!mayKey k args)) h := by
  refine SCall.ro (CallP.run hb136 ok136 (by simp) ?_) (.bool _)
  simp -implicitDefEqProofs [hbx, encKeyT, show ¬ b = h.bn by omega, show b < h.bn + 1 by omega]
  refine callQ_p (mayKey_ok k args) (by simp [encKeyT]) ?_
  simp -implicitDefEqProofs []
  exact HF.alloc _ _ _ _

theorem eqInst_f {x y : Inst} (h : x ≠ y) : (decide (x.op = y.op) && (decide (x.a = y.a) && (decide (x.b = y.b) && (decide (x.c = y.c) && (decide (x.k.arg = y.k.arg) && (decide (x.k.base = y.k.base) && (decide (x.l.arg = y.l.arg) && (decide (x.l.base = y.l.base) && decide (x.x = y.x))))))))) = false := by
  rw [Bool.eq_false_iff]
  intro hc
  apply h
  simp only [Bool.and_eq_true, decide_eq_true_eq] at hc
  rcases x with ⟨a, b, c, d, ⟨e, f⟩, ⟨g, i⟩, j⟩
  rcases y with ⟨a', b', c', d', ⟨e', f'⟩, ⟨g', i'⟩, j'⟩
  simp_all

theorem may_ok (x : Inst) (args : Int) : PCall Try.prog 104 [.agg (encInst x), .int .i64 args] (.bool (mayI x args)) := by
  refine PCall.run hb104 ok104 (by simp) (pures_cons (pureInst x) (pures1 (.int _ _))) (.bool _) ?_
  simp -implicitDefEqProofs [encInst, H.nil]
  refine callQ_p (only_ok x) (by simp [encInst]) ?_
  cases e : (onlyI x).2
  · simp -implicitDefEqProofs [encInst, mayI, e]
  simp -implicitDefEqProofs [encInst]
  by_cases hq : x = (onlyI x).1
  rotate_left
  · have hch := eqInst_f hq
    rw [hch]
    simp -implicitDefEqProofs [mayI, hq]
  have hq' : (onlyI x).1 = x := hq.symm
  simp -implicitDefEqProofs [hq']
  refine callQ_p (register_ok x.a) (by simp) ?_
  cases ra : isReg x.a
  · simp -implicitDefEqProofs [mayI, ra, hq']
  simp -implicitDefEqProofs [hq']
  refine callQ_p (register_ok x.b) (by simp) ?_
  cases rb : isReg x.b
  · simp -implicitDefEqProofs [mayI, rb, hq']
  simp -implicitDefEqProofs [hq']
  refine callQ_p (register_ok x.c) (by simp) ?_
  cases rc : isReg x.c
  · simp -implicitDefEqProofs [mayI, rc, hq']
  simp -implicitDefEqProofs [hq']
  refine callQ_p (keys_ok x) (by simp [encInst]) ?_
  simp -implicitDefEqProofs [hq']
  refine callQ_s (contains_gen hb139 ok139 hb152 ok152 elOK_KeyT (keysI x) (by unfold keysI; split; simp; split <;> simp) (first := []) (caps := [.ptr 1 0]) (p := fun k => !mayKey k args) rfl (by simp) (fun k _ => may1_ok k args (by simp) (by simp))) (by simp) ?_
  simp -implicitDefEqProofs [mayI, e, hq', ra, rb, rc]
end Go.Proofs

/- Which programs and footprints there may be: the program's answer is the document's. -/
namespace Go.Proofs
open Go Go.RowKit Go.Am

theorem isReg_iff (n : Int) : isReg n = true ↔ 0 ≤ n ∧ n ≤ 3 := by simp [isReg]
theorem mayI_one (x : Inst) (args : Int) : mayI x args = oneInst x args := by
  rcases x with ⟨op, a, b, c, ⟨ka, kb⟩, ⟨la, lb⟩, y⟩
  have z0 : isReg 0 = true := by decide
  by_cases h1 : op = 1 ∨ op = 2
  · have h2 : op = 1 ∨ op = 2 ∨ op = 3 := by omega
    simp only [mayI, oneInst, onlyI, keysI, if_pos h1, if_pos h2, zeroK, keyNone]
    rw [Bool.eq_iff_iff]
    simp
    intro hk
    constructor
    · rintro ⟨⟨⟨⟨rfl, rfl, ⟨rfl, rfl⟩, rfl⟩, ha⟩, hb⟩, hc⟩
      simp [ha]
    · rintro ⟨⟨⟨⟨ha, rfl⟩, rfl⟩, rfl⟩, rfl, rfl⟩
      simp [ha, z0]
  by_cases h3 : op = 3
  · have h2 : op = 1 ∨ op = 2 ∨ op = 3 := by omega
    simp only [mayI, oneInst, onlyI, keysI, if_neg h1, if_pos h3, if_pos h2, zeroK, keyNone]
    rw [Bool.eq_iff_iff]
    simp
    intro hk
    constructor
    · rintro ⟨⟨⟨⟨rfl, rfl, rfl, ⟨rfl, rfl⟩, rfl⟩, ha⟩, hb⟩, hc⟩
      simp
    · rintro ⟨⟨⟨⟨rfl, rfl⟩, rfl⟩, rfl⟩, rfl, rfl⟩
      simp [z0]
  have h2 : ¬ (op = 1 ∨ op = 2 ∨ op = 3) := by omega
  by_cases h4 : op = 4
  · simp only [mayI, oneInst, onlyI, keysI, if_neg h1, if_neg h3, if_pos h4, if_neg h2, zeroK, keyNone]
    rw [Bool.eq_iff_iff]
    simp
    constructor
    · rintro ⟨⟨⟨⟨⟨rfl, rfl, rfl⟩, ha⟩, hb⟩, hc⟩, hk, hl⟩
      simp [ha, hk, hl]
    · rintro ⟨⟨⟨⟨⟨ha, rfl⟩, rfl⟩, rfl⟩, hk⟩, hl⟩
      simp [ha, hk, hl, z0]
  by_cases h5 : op = 5 ∨ op = 8
  · simp only [mayI, oneInst, onlyI, keysI, if_neg h1, if_neg h3, if_neg h4, if_neg h2, if_pos h5, zeroK, keyNone]
    rw [Bool.eq_iff_iff]
    simp
    constructor
    · rintro ⟨⟨⟨⟨rfl, rfl, ⟨rfl, rfl⟩, ⟨rfl, rfl⟩⟩, ha⟩, hb⟩, hc⟩
      simp [ha]
    · rintro ⟨⟨⟨⟨ha, rfl⟩, rfl⟩, rfl, rfl⟩, rfl, rfl⟩
      simp [ha, z0]
  by_cases h6 : op = 6 ∨ op = 7
  · simp only [mayI, oneInst, onlyI, keysI, if_neg h1, if_neg h3, if_neg h4, if_neg h2, if_neg h5, if_pos h6, zeroK, keyNone]
    rw [Bool.eq_iff_iff]
    simp
    constructor
    · rintro ⟨⟨⟨⟨⟨rfl, rfl⟩, ⟨rfl, rfl⟩, rfl⟩, ha⟩, hb⟩, hc⟩
      simp [ha, hb, hc]
    · rintro ⟨⟨⟨⟨⟨ha, rfl⟩, hb⟩, hc⟩, rfl, rfl⟩, rfl, rfl⟩
      simp [ha, hb, hc]
  simp only [mayI, oneInst, onlyI, keysI, if_neg h1, if_neg h3, if_neg h4, if_neg h2, if_neg h5, if_neg h6]
  simp

theorem May1_ok (x : Inst) (args : Int) {h : H} {b : Nat} (hb : b < h.bn) (hbx : h.bx b = some [.int .i64 args]) : SCall Try.prog 103 [.agg (encInst x), .ptr b 0] h (.bool (!oneInst x args)) h := by
  refine SCall.ro (CallP.run hb103 ok103 (by simp) ?_) (.bool _)
  simp -implicitDefEqProofs [hbx, encInst, show ¬ b = h.bn by omega, show b < h.bn + 1 by omega]
  refine callQ_p (may_ok x args) (by simp [encInst]) ?_
  simp -implicitDefEqProofs [mayI_one]
  exact HF.alloc _ _ _ _

theorem any_not {α : Type} (l : List α) (p : α → Bool) : (!l.any fun x => !p x) = l.all p := by
  rw [Bool.eq_iff_iff]; simp

theorem progMay_ok (l : List Inst) (args : Int) (hl : l.length ≤ 9223372036854775807) : PCall Try.prog 46 [.sl .no (l.map encInst), .int .i64 args] (.bool (progMay l args)) := by
  refine PCall.run hb46 ok46 (by simp) (pures_cons (elOK_Inst.pureL l) (pures1 (.int _ _))) (.bool _) ?_
  by_cases bad : ((args < 0 ∨ 3 < args) ∨ (l.length : Int) < 1) ∨ (8 : Int) < (l.length : Int)
  · have hf : progMay l args = false := by
      simp only [progMay, Bool.and_eq_false_iff, Bool.not_eq_false', decide_eq_true_eq]
      omega
    simp (maxSteps := 2000000) +contextual -implicitDefEqProofs [↓gdL_T, ↓gdL_F, ↓condQ_b, -Int.not_lt, -Int.not_le, -Nat.not_lt, -Nat.not_le, hf, H.nil]
    all_goals (intros; omega)
  · have hm : progMay l args = l.all fun x => oneInst x args := by
      simp only [progMay, show ¬ args < 0 by omega, show ¬ 3 < args by omega, show ¬ l.length < 1 by omega, show ¬ 8 < l.length by omega]
      simp
    simp -implicitDefEqProofs [H.nil, show ¬ args < 0 by omega, show ¬ 3 < args by omega, show ¬ (l.length : Int) < 1 by omega, show ¬ (8 : Int) < (l.length : Int) by omega, hm]
    refine callQ_s (contains_gen hb53 ok53 hb108 ok108 elOK_Inst l hl (first := []) (caps := [.ptr 0 0]) (p := fun x => !oneInst x args) rfl (by simp) (fun x _ => May1_ok x args (by simp) (by simp))) (by simp) ?_
    simp -implicitDefEqProofs [any_not]

theorem reads_ok (k : KeyT) : PCall Try.prog 106 [.agg (encKeyT k)] (.sl .no ([(⟨1, 0, 0, 0, k, zeroK, 0⟩ : Inst)].map encInst)) := by
  refine PCall.run hb106 ok106 (by simp) (pures1 (pureKey k)) (elOK_Inst.pureL _) ?_
  simp -implicitDefEqProofs [encKeyT, encInst, zeroK, H.nil]
theorem progMay_reads (k : KeyT) {args : Int} (h0 : 0 ≤ args) (h3 : args ≤ 3) : progMay [(⟨1, 0, 0, 0, k, zeroK, 0⟩ : Inst)] args = mayKey k args := by
  have z0 : isReg 0 = true := by decide
  simp [progMay, oneInst, z0, zeroK, keyNone]
  intro; omega
end Go.Proofs

/- Which classes and catalogues there may be: the document's answer. -/
namespace Go.Proofs
open Go Go.RowKit Go.Am

end Go.Proofs

/- Which catalogues there may be: the document's answer. -/
namespace Go.Proofs
open Go Go.RowKit Go.Am

@[simp] theorem take_encCls (y : Cls) : List.take 5 (encCls y) = encCls y := rfl
end Go.Proofs

/- Which footprints there may be: the program's answer; what may compensate. -/
namespace Go.Proofs
open Go Go.RowKit Go.Am

theorem footMay1_ok (x : SpanT) {args : Int} (a0 : 0 ≤ args) (a3 : args ≤ 3) {h : H} {b : Nat} (hb : b < h.bn) (hbx : h.bx b = some [.int .i64 args]) : SCall Try.prog 105 [.agg (encSpanT x), .ptr b 0] h (.bool (!(mayKey x.lo args && mayKey x.hi args))) h := by
  refine SCall.ro (CallP.run hb105 ok105 (by simp) ?_) (.bool _)
  simp -implicitDefEqProofs [encSpanT]
  refine run_dregL c105_d2 rfl ?_
  simp -implicitDefEqProofs []
  refine callC_p (reads_ok x.lo) (by simp [encKeyT]) ?_
  simp -implicitDefEqProofs [hbx, show ¬ b = h.bn by omega, show b < h.bn + 1 by omega]
  refine callC_p (progMay_ok [(⟨1, 0, 0, 0, x.lo, zeroK, 0⟩ : Inst)] args (by simp)) (by simp [encInst]) ?_
  rw [progMay_reads x.lo a0 a3]
  cases e : mayKey x.lo args
  · simp -implicitDefEqProofs []
    exact HF.alloc _ _ _ _
  simp -implicitDefEqProofs []
  refine callC_p (reads_ok x.hi) (by simp [encKeyT]) ?_
  simp -implicitDefEqProofs [hbx, show ¬ b = h.bn by omega, show b < h.bn + 1 by omega]
  refine callC_p (progMay_ok [(⟨1, 0, 0, 0, x.hi, zeroK, 0⟩ : Inst)] args (by simp)) (by simp [encInst]) ?_
  rw [progMay_reads x.hi a0 a3]
  simp -implicitDefEqProofs []
  exact HF.alloc _ _ _ _

theorem footMay_ok (l : List SpanT) (args : Int) (hl : l.length ≤ 9223372036854775807) : PCall Try.prog 47 [.sl .no (l.map encSpanT), .int .i64 args] (.bool (footMay l args)) := by
  refine PCall.run hb47 ok47 (by simp) (pures_cons (elOK_SpanT.pureL l) (pures1 (.int _ _))) (.bool _) ?_
  by_cases a0 : 0 ≤ args
  rotate_left
  · simp -implicitDefEqProofs [H.nil, a0, footMay, show args < 0 by omega]
  by_cases a3 : args ≤ 3
  rotate_left
  · simp -implicitDefEqProofs [H.nil, a0, a3, footMay, show 3 < args by omega]
  by_cases a4 : (l.length : Int) ≤ 4
  rotate_left
  · simp -implicitDefEqProofs [H.nil, a0, a3, a4, footMay, show 4 < l.length by omega]
  have hm : footMay l args = l.all fun s => mayKey s.lo args && mayKey s.hi args := by
    simp only [footMay, show ¬ args < 0 by omega, show ¬ 3 < args by omega, show ¬ 4 < l.length by omega]
    simp
  simp -implicitDefEqProofs [H.nil, a0, a3, a4]
  refine callQ_s (contains_gen hb50 ok50 hb107 ok107 elOK_SpanT l hl (first := []) (caps := [.ptr 0 0]) (p := fun x => !(mayKey x.lo args && mayKey x.hi args)) rfl (by simp) (fun x _ => footMay1_ok x a0 a3 (by simp) (by simp))) (by simp) ?_
  have ha := any_not l fun x : SpanT => mayKey x.lo args && mayKey x.hi args
  rw [hm]
  simp -implicitDefEqProofs []
  rw [← ha, Bool.not_not]
  congr 1
  funext x
  simp

end Go.Proofs

/- Keys of templates, for arguments; which arguments there may be. -/
namespace Go.Proofs
open Go Go.RowKit Go.Am

def encA (a : List Int) : AV := .sl .no (a.map encN)
theorem pure_encA (a : List Int) : PureV (encA a) := pure_sl pure_encN a
theorem wk_encA (a : List Int) : Am.wk (encA a) = encA a := by simp [encA]
def argOK (x : Int) : Bool := decide (0 ≤ x) && decide (x ≤ 99)
/-- Which arguments may be. -/
def argsOK (a : List Int) : Bool := decide (a.length ≤ 3) && a.all argOK
def argV (a : List Int) (k : Int) : Int := a[k.toNat]?.getD 0
/-- The key of a template. -/
def keyV (k : KeyT) (a : List Int) : Int := if k.arg < 0 then k.base else k.base + argV a k.arg
def keyOKs (k : KeyT) (a : List Int) : Bool := mayKey k a.length && argsOK a
theorem mayKey_iff {k : KeyT} {n : Int} : mayKey k n = true ↔ -1 ≤ k.arg ∧ k.arg < n ∧ 0 ≤ k.base ∧ k.base ≤ 900 := by
  simp only [mayKey, Bool.and_eq_true, decide_eq_true_eq, and_assoc]
theorem argOK_iff {x : Int} : argOK x = true ↔ 0 ≤ x ∧ x ≤ 99 := by
  simp only [argOK, Bool.and_eq_true, decide_eq_true_eq]
theorem argsOK_iff {a : List Int} : argsOK a = true ↔ a.length ≤ 3 ∧ ∀ x ∈ a, 0 ≤ x ∧ x ≤ 99 := by
  simp only [argsOK, Bool.and_eq_true, decide_eq_true_eq, List.all_eq_true, argOK_iff]
theorem key_at {k : KeyT} {a : List Int} (h : keyOKs k a = true) (hk : 0 ≤ k.arg) : ∃ j : Nat, k.arg = j ∧ ∃ hj : j < a.length, argV a k.arg = a[j] ∧ 0 ≤ a[j] ∧ a[j] ≤ 99 := by
  rw [keyOKs, Bool.and_eq_true, mayKey_iff, argsOK_iff] at h
  obtain ⟨⟨h1, h2, h3, h4⟩, h5, h6⟩ := h
  obtain ⟨j, hj⟩ : ∃ j : Nat, k.arg = j := ⟨k.arg.toNat, by omega⟩
  have hja : j < a.length := by omega
  refine ⟨j, hj, hja, ?_, h6 _ (List.getElem_mem hja)⟩
  rw [argV, hj]
  simp [hja]

theorem refKey_ok (k : KeyT) (a : List Int) (h : keyOKs k a = true) : PCall Try.prog 57 [.agg (encKeyT k), encA a] (.int .i64 (keyV k a)) := by
  refine PCall.run hb57 ok57 (by simp) (pures2 (.agg (pure_encKeyT k)) (pure_encA a)) (.int _ _) ?_
  by_cases hk : k.arg < 0
  · simp -implicitDefEqProofs [H.nil, encKeyT, hk, keyV]
  · obtain ⟨j, hj, hja, e1, e2, e3⟩ := key_at h (by omega)
    have hm := h
    rw [keyOKs, Bool.and_eq_true] at hm
    have hb := (mayKey_iff.1 hm.1)
    have i1 := idxOf_nat (k := .i64) hja
    have w : IntKind.i64.wrap (k.base + a[j]) = k.base + a[j] := wrap_i64 (by omega) (by omega)
    simp -implicitDefEqProofs [H.nil, encKeyT, hk]
    refine run_dreg c57_d4 ?_
    rw [hj] at hk e1
    simp -implicitDefEqProofs [hj, hk, hja, encA, encN, keyV, e1, w]

theorem refArgs_ok (a : List Int) (hl : a.length ≤ 1000000) : PCall Try.prog 18 [encA a] (.bool (argsOK a)) := by
  refine PCall.run hb18 ok18 (by simp) (pures1 (pure_encA a)) (.bool _) ?_
  simp -implicitDefEqProofs [encA]
  refine run_loop (fun n s h => ∃ j : Nat, n = a.length - j ∧ j ≤ a.length ∧ s 0 = encA a ∧ s 3 = .int .i64 j ∧ ∀ i (hi : i < a.length), i < j → argOK a[i] = true) ?_ a.length ?_
  rotate_left
  · exact ⟨0, by simp [encA]⟩
  rintro n s h ⟨j, hn, hj, s0, s3, hall⟩ ih
  rw [encA] at s0
  by_cases hlt : j < a.length
  · have i1 := idxOf_nat (k := .i64) hlt
    have hbad : argOK a[j] = false → argsOK a = false := fun e => by
      rw [Bool.eq_false_iff]; intro h
      have := (argsOK_iff.1 h).2 a[j] (List.getElem_mem hlt)
      rw [← argOK_iff, e] at this
      cases this
    by_cases h0 : a[j] < 0
    · have hb := hbad (by rw [Bool.eq_false_iff]; intro e; have := argOK_iff.1 e; omega)
      simp -implicitDefEqProofs [s0, s3, hlt, encN, h0, hb]
    · by_cases h9 : 99 < a[j]
      · have hb := hbad (by rw [Bool.eq_false_iff]; intro e; have := argOK_iff.1 e; omega)
        simp -implicitDefEqProofs [s0, s3, hlt, encN, h0, h9, hb]
      · simp -implicitDefEqProofs [s0, s3, hlt, encN, h0, h9, inc_i64 hlt (by omega), -Int.natCast_add]
        exact ih (a.length - (j + 1)) _ _ (by omega) ⟨j + 1, rfl, by omega, by simp [s0, encA], by simp, fun i hi hij => by
          by_cases h : i = j
          · subst h; exact argOK_iff.2 ⟨by omega, by omega⟩
          · exact hall i hi (by omega)⟩
  · have hw : a.all argOK = true := List.all_eq_true.2 fun x hx => by
      obtain ⟨i, hi, rfl⟩ := List.mem_iff_getElem.1 hx
      exact hall i hi (by omega)
    have e : argsOK a = decide ((a.length : Int) ≤ 3) := by
      rw [argsOK, hw, Bool.and_true, Bool.eq_iff_iff, decide_eq_true_eq, decide_eq_true_eq]; omega
    simp -implicitDefEqProofs [s0, s3, hlt, e]

/-- May a footprint be, for arguments? -/
def rightB (l : List SpanT) (a : List Int) : Bool := argsOK a && footMay l a.length
end Go.Proofs

/- What a footprint reads and writes, for arguments; does it cover keys? -/
namespace Go.Proofs
open Go Go.RowKit Go.Am

def spanV (a : List Int) (s : SpanT) : Sp := (keyV s.lo a, keyV s.hi a)
theorem right_len {l : List SpanT} {a : List Int} (h : rightB l a = true) : l.length ≤ 4 ∧ a.length ≤ 3 := by
  rw [rightB, Bool.and_eq_true] at h
  have h1 := (argsOK_iff.1 h.1).1
  have h2 := h.2
  simp only [footMay, Bool.and_eq_true, Bool.not_eq_true', decide_eq_false_iff_not] at h2
  omega
theorem right_keys {l : List SpanT} {a : List Int} (h : rightB l a = true) : ∀ s ∈ l, keyOKs s.lo a = true ∧ keyOKs s.hi a = true := by
  rw [rightB, Bool.and_eq_true] at h
  intro s hs
  have h2 := h.2
  simp only [footMay, Bool.and_eq_true, List.all_eq_true] at h2
  have := h2.2 s hs
  exact ⟨by rw [keyOKs, this.1, h.1]; rfl, by rw [keyOKs, this.2, h.1]; rfl⟩

/-- The spans that are read (all), or written. -/
def spansF (l : List SpanT) (a : List Int) (w : Bool) : List Sp := (l.filter fun s => s.write || !w).map (spanV a)
end Go.Proofs

/- Steps that are tight: plain laws. -/
namespace Go.Proofs
open Go Go.RowKit Go.Am

/-- The last key's template of an instruction that asks for keys. -/
def lastI (x : Inst) : KeyT := if x.op = 4 then x.l else x.k
/-- Is an instruction inside a span? -/
def insideI (x : Inst) (s : SpanT) : Bool :=
  if (x.op = 2 ∨ x.op = 3) ∧ s.write = false then false
  else decide ((lastI x).arg = x.k.arg) && decide (s.lo.arg = x.k.arg) && decide (s.hi.arg = x.k.arg) && decide (s.lo.base ≤ x.k.base) && decide ((lastI x).base ≤ s.hi.base)
def asksI (x : Inst) : Bool := decide (1 ≤ x.op) && decide (x.op ≤ 4)
def wildI (s : Stp) (x : Inst) : Bool := asksI x && !s.foot.any fun t => insideI x t
def stpB (s : Stp) (n : Int) : Bool := (decide (s.code.length = 0) || progMay s.code n) && footMay s.foot n
def tightB (s : Stp) (n : Int) : Bool := stpB s n && !s.code.any (wildI s)

theorem tight_in {s : Stp} {n : Int} (h : tightB s n = true) {x : Inst} (hx : x ∈ s.code) (h1 : 1 ≤ x.op) (h4 : x.op ≤ 4) : ∃ t ∈ s.foot, insideI x t = true := by
  simp only [tightB, Bool.and_eq_true, Bool.not_eq_true', List.any_eq_false] at h
  have := h.2 x hx
  simp only [wildI, asksI, decide_eq_true h1, decide_eq_true h4, Bool.true_and, Bool.and_self, Bool.not_eq_true', Bool.not_eq_false, List.any_eq_true] at this
  simpa using this
theorem tight_key {s : Stp} {a : List Int} (hr : rightB s.foot a = true) {x : Inst} {t : SpanT} (ht : t ∈ s.foot) (hi : insideI x t = true) {w : Bool} (hw : w = true → x.op = 2 ∨ x.op = 3) {q : Int} (h1 : keyV x.k a ≤ q) (h2 : q ≤ keyV (lastI x) a) : hasK (spansF s.foot a w) q = true := by
  obtain ⟨o1, o2⟩ := right_keys hr t ht
  unfold insideI at hi
  split at hi
  · cases hi
  · rename_i hwr
    simp only [Bool.and_eq_true, decide_eq_true_eq] at hi
    obtain ⟨⟨⟨⟨e1, e2⟩, e3⟩, e4⟩, e5⟩ := hi
    have hmem : spanV a t ∈ spansF s.foot a w := by
      unfold spansF
      refine List.mem_map_of_mem (List.mem_filter.2 ⟨ht, ?_⟩)
      cases w with
      | false => simp
      | true =>
        have := hw rfl
        cases hwt : t.write with
        | true => rfl
        | false => exact absurd ⟨this, hwt⟩ hwr
    have hb : ∀ k : KeyT, keyOKs k a = true → 0 ≤ keyV k a ∧ keyV k a ≤ 999 := fun k hk => by
      have hm := mayKey_iff.1 (by simp only [keyOKs, Bool.and_eq_true] at hk; exact hk.1)
      unfold keyV
      split
      · omega
      · obtain ⟨j, _, _, e, b1, b2⟩ := key_at hk (by omega)
        omega
    have b1 := hb _ o1
    have b2 := hb _ o2
    have le1 : keyV t.lo a ≤ keyV x.k a := by
      unfold keyV
      rw [e2]
      split <;> omega
    have le2 : keyV (lastI x) a ≤ keyV t.hi a := by
      unfold keyV
      rw [e3, e1]
      split <;> omega
    unfold hasK
    rw [List.any_eq_true]
    refine ⟨_, hmem, ?_⟩
    have f1 : (spanV a t).1 = keyV t.lo a := rfl
    have f2 : (spanV a t).2 = keyV t.hi a := rfl
    simp only [inS, mayS, Bool.and_eq_true, decide_eq_true_eq]
    omega
end Go.Proofs

/- Steps that are tight: the program's answer. -/
namespace Go.Proofs
open Go Go.RowKit Go.Am

theorem pure_encStp1 (s : Stp) : PureV (.agg (encStp s)) := .agg (pure_encStp s)
theorem asks_ok (x : Inst) : PCall Try.prog 49 [.agg (encInst x)] (.bool (asksI x)) := by
  refine PCall.run hb49 ok49 (by simp) (pures1 (pureInst x)) (.bool _) ?_
  by_cases h1 : 1 ≤ x.op
  · simp -implicitDefEqProofs [encInst, asksI, h1, H.nil]
  · simp -implicitDefEqProofs [encInst, asksI, h1, H.nil]

set_option maxHeartbeats 1000000 in
theorem inside_ok (x : Inst) (s : SpanT) : PCall Try.prog 52 [.agg (encInst x), .agg (encSpanT s)] (.bool (insideI x s)) := by
  refine PCall.run hb52 ok52 (by simp) (pures2 (pureInst x) (.agg (pure_encSpanT s))) (.bool _) ?_
  by_cases h2 : x.op = 2
  · cases hw : s.write
    · simp -implicitDefEqProofs [encInst, encSpanT, insideI, h2, hw, H.nil]
    by_cases c2 : s.lo.arg = x.k.arg
    rotate_left
    · simp -implicitDefEqProofs [encInst, encSpanT, insideI, lastI, h2, hw, H.nil, c2]
    by_cases c3 : s.hi.arg = x.k.arg
    rotate_left
    · simp -implicitDefEqProofs [encInst, encSpanT, insideI, lastI, h2, hw, H.nil, c2, c3]
    by_cases c4 : s.lo.base ≤ x.k.base
    rotate_left
    · simp -implicitDefEqProofs [encInst, encSpanT, insideI, lastI, h2, hw, H.nil, c2, c3, c4]
    · simp -implicitDefEqProofs [encInst, encSpanT, insideI, lastI, h2, hw, H.nil, c2, c3, c4]
  by_cases h3 : x.op = 3
  · cases hw : s.write
    · simp -implicitDefEqProofs [encInst, encSpanT, insideI, h3, hw, H.nil]
    by_cases c2 : s.lo.arg = x.k.arg
    rotate_left
    · simp -implicitDefEqProofs [encInst, encSpanT, insideI, lastI, h3, hw, H.nil, c2]
    by_cases c3 : s.hi.arg = x.k.arg
    rotate_left
    · simp -implicitDefEqProofs [encInst, encSpanT, insideI, lastI, h3, hw, H.nil, c2, c3]
    by_cases c4 : s.lo.base ≤ x.k.base
    rotate_left
    · simp -implicitDefEqProofs [encInst, encSpanT, insideI, lastI, h3, hw, H.nil, c2, c3, c4]
    · simp -implicitDefEqProofs [encInst, encSpanT, insideI, lastI, h3, hw, H.nil, c2, c3, c4]
  by_cases h4 : x.op = 4
  · by_cases c1 : x.l.arg = x.k.arg
    rotate_left
    · simp -implicitDefEqProofs [encInst, encSpanT, insideI, lastI, h4, H.nil, c1, Ne.symm c1]
    by_cases c2 : s.lo.arg = x.k.arg
    rotate_left
    · simp -implicitDefEqProofs [encInst, encSpanT, insideI, lastI, h4, H.nil, c1, c2]
    by_cases c3 : s.hi.arg = x.k.arg
    rotate_left
    · simp -implicitDefEqProofs [encInst, encSpanT, insideI, lastI, h4, H.nil, c1, c2, c3]
    by_cases c4 : s.lo.base ≤ x.k.base
    rotate_left
    · simp -implicitDefEqProofs [encInst, encSpanT, insideI, lastI, h4, H.nil, c1, c2, c3, c4]
    · simp -implicitDefEqProofs [encInst, encSpanT, insideI, lastI, h4, H.nil, c1, c2, c3, c4]
  by_cases c2 : s.lo.arg = x.k.arg
  rotate_left
  · simp -implicitDefEqProofs [encInst, encSpanT, insideI, lastI, h2, h3, h4, H.nil, c2]
  by_cases c3 : s.hi.arg = x.k.arg
  rotate_left
  · simp -implicitDefEqProofs [encInst, encSpanT, insideI, lastI, h2, h3, h4, H.nil, c2, c3]
  by_cases c4 : s.lo.base ≤ x.k.base
  rotate_left
  · simp -implicitDefEqProofs [encInst, encSpanT, insideI, lastI, h2, h3, h4, H.nil, c2, c3, c4]
  · simp -implicitDefEqProofs [encInst, encSpanT, insideI, lastI, h2, h3, h4, H.nil, c2, c3, c4]

theorem tight11_ok (x : Inst) (t : SpanT) {h : H} {b : Nat} (hb : b < h.bn) (hbx : h.bx b = some (encInst x)) : SCall Try.prog 51 [.agg (encSpanT t), .ptr b 0] h (.bool (insideI x t)) h := by
  refine SCall.ro (CallP.run hb51 ok51 (by simp) ?_) (.bool _)
  rw [encInst] at hbx
  simp -implicitDefEqProofs [hbx, encSpanT, show ¬ b = h.bn by omega, show b < h.bn + 1 by omega]
  refine callQ_p (inside_ok x t) (by simp [encSpanT, encInst]) ?_
  simp -implicitDefEqProofs []
  exact HF.alloc _ _ _ _
theorem tight1_ok (s : Stp) (hf : s.foot.length ≤ 9223372036854775807) (x : Inst) {h : H} {b : Nat} (hb : b < h.bn) (hbx : h.bx b = some (encStp s)) : SCall Try.prog 48 [.agg (encInst x), .ptr b 0] h (.bool (wildI s x)) h := by
  refine SCall.ro (CallP.run hb48 ok48 (by simp) ?_) (.bool _)
  rw [encStp] at hbx
  simp -implicitDefEqProofs [encInst]
  refine callQ_p (asks_ok x) (by simp [encInst]) ?_
  cases ha : asksI x
  · simp -implicitDefEqProofs [wildI, ha]
    exact HF.alloc _ _ _ _
  simp -implicitDefEqProofs [hbx, show ¬ b = h.bn by omega, show b < h.bn + 1 by omega]
  refine callQ_s (contains_gen hb50 ok50 hb107 ok107 elOK_SpanT s.foot hf (first := []) (caps := [.ptr h.bn 0]) (p := fun t => insideI x t) rfl (by simp) (fun t _ => tight11_ok x t (by simp) (by simp [encInst]))) (by simp) ?_
  simp -implicitDefEqProofs [wildI, ha]
  exact HF.alloc _ _ _ _

theorem tight_ok (s : Stp) (n : Int) (hc : s.code.length ≤ 9223372036854775807) (hf : s.foot.length ≤ 9223372036854775807) : PCall Try.prog 17 [.agg (encStp s), .int .i64 n] (.bool (tightB s n)) := by
  refine PCall.run hb17 ok17 (by simp) (pures2 (pure_encStp1 s) (.int _ _)) (.bool _) ?_
  have hgo : stpB s n = true → ∀ K : AV → H → Prop, ∀ h : H, 0 < h.bn → h.bx 0 = some (encStp s) → K (.bool (s.code.any (wildI s))) h → callQ Try.prog (.fn 53 [] []) [.sl .no (s.code.map encInst), .fn 48 [] [.ptr 0 0]] h K := fun _ K h h0 hx hk =>
    callQ_s (contains_gen hb53 ok53 hb108 ok108 elOK_Inst s.code hc (first := []) (caps := [.ptr 0 0]) (p := wildI s) rfl (by simp) (fun x _ => tight1_ok s hf x h0 hx)) (by simp) hk
  by_cases e : s.code.length = 0
  · have hs : stpB s n = footMay s.foot n := by simp [stpB, e]
    simp -implicitDefEqProofs [encStp, H.nil, e]
    refine callQ_p (footMay_ok s.foot n hf) (by simp) ?_
    cases hm : footMay s.foot n
    · rw [hm] at hs
      simp -implicitDefEqProofs [tightB, hs]
    rw [hm] at hs
    simp -implicitDefEqProofs []
    refine hgo hs _ _ (by simp) (by simp [encStp]) ?_
    simp -implicitDefEqProofs [tightB, hs]
  · have e1 : 0 < s.code.length := by omega
    simp -implicitDefEqProofs [encStp, H.nil, e1]
    refine callQ_p (progMay_ok s.code n hc) (by simp) ?_
    cases hp : progMay s.code n
    · have hs : stpB s n = false := by simp [stpB, e, hp]
      simp -implicitDefEqProofs [tightB, hs]
    have hs : stpB s n = footMay s.foot n := by simp [stpB, hp]
    simp -implicitDefEqProofs []
    refine callQ_p (footMay_ok s.foot n hf) (by simp) ?_
    cases hm : footMay s.foot n
    · rw [hm] at hs
      simp -implicitDefEqProofs [tightB, hs]
    rw [hm] at hs
    simp -implicitDefEqProofs []
    refine hgo hs _ _ (by simp) (by simp [encStp]) ?_
    simp -implicitDefEqProofs [tightB, hs]
end Go.Proofs

/- What a footprint reads and writes: the document's answer. -/
namespace Go.Proofs
open Go Go.RowKit Go.Am

set_option maxHeartbeats 1000000 in
theorem refSet_ok (l : List SpanT) (a : List Int) (w : Bool) (hr : rightB l a = true) : PCall Try.prog 55 [.sl .no (l.map encSpanT), encA a, .bool w] (setP fun k => hasK (spansF l a w) k) := by
  refine PCall.run hb55 ok55 (by simp) (pures3 (elOK_SpanT.pureL l) (pure_encA a) (.bool _)) (pure_setP _) ?_
  obtain ⟨hl4, ha3⟩ := right_len hr
  simp -implicitDefEqProofs []
  refine run_loop (fun n s h => ∃ (j : Nat) (t : Tok) (d : List Sp), n = l.length - j ∧ j ≤ l.length ∧ s 0 = .sl .no (l.map encSpanT) ∧ s 1 = encA a ∧ s 2 = .bool w ∧ s 8 = .int .i64 j ∧ d = spansF (l.take j) a w ∧ s 7 = .sl t (d.map avP) ∧ TLive h t d.length) ?_ l.length ?_
  rotate_left
  · exact ⟨0, .full, [], by simp [TLive, spansF]⟩
  rintro n s h ⟨j, t, d, hn, hj, s0, s1, s2, s8, hd, s7, ht⟩ ih
  have hdl : d.length ≤ 4 := by
    rw [hd, spansF, List.length_map]
    exact Nat.le_trans (List.length_filter_le _ _) (by rw [List.length_take]; omega)
  by_cases hlt : j < l.length
  · have i1 := idxOf_nat (k := .i64) hlt
    obtain ⟨k1, k2⟩ := right_keys hr _ (List.getElem_mem hlt)
    have hdn : spansF (l.take (j + 1)) a w = d ++ if (l[j].write || !w) = true then [spanV a l[j]] else [] := by
      rw [List.take_succ_eq_append_getElem hlt, spansF, List.filter_append, List.map_append, hd, spansF]
      cases hc : (l[j].write || !w) <;> simp [hc]
    cases hw : l[j].write <;> cases w <;> simp only [hw, Bool.not_true, Bool.not_false, Bool.or_true, Bool.or_false, if_true, if_false, Bool.false_eq_true, List.append_nil] at hdn
    · simp -implicitDefEqProofs [s0, s2, s8, hlt, encSpanT, hw]
      refine run_dreg c55_d6 ?_
      simp -implicitDefEqProofs [s0, s1, s7, s8, hlt, encSpanT]
      refine lcallQ_p (refKey_ok l[j].lo a k1) (by simp [encKeyT, wk_encA]) ?_
      simp -implicitDefEqProofs [s0, s1, s8, hlt, encSpanT]
      refine lcallQ_p (refKey_ok l[j].hi a k2) (by simp [encKeyT, wk_encA]) ?_
      simp -implicitDefEqProofs []
      refine appQ_tok (es2 := [avP (spanV a l[j])]) (by rw [List.length_map]; cases t <;> exact ht) (P_len d) (by simp [srcA, avP, spanV]) (by simp; omega) fun t' h' q1 q2 q3 q4 => ?_
      simp -implicitDefEqProofs [s8, inc_i64 hlt (by omega), -Int.natCast_add]
      exact ih (l.length - (j + 1)) _ _ (by omega) ⟨j + 1, t', d ++ [spanV a l[j]], rfl, by omega, by simp [s0], by simp [s1], by simp [s2], by simp, hdn.symm, by simp, by simpa using q1⟩
    · simp -implicitDefEqProofs [s0, s2, s8, hlt, encSpanT, hw, inc_i64 hlt (by omega), -Int.natCast_add]
      exact ih (l.length - (j + 1)) _ _ (by omega) ⟨j + 1, t, d, rfl, by omega, by simp [s0], by simp [s1], by simp [s2], by simp, hdn.symm, by simp [s7], ht⟩
    · simp -implicitDefEqProofs [s0, s8, hlt, encSpanT, hw]
      refine run_dreg c55_d6 ?_
      simp -implicitDefEqProofs [s0, s1, s7, s8, hlt, encSpanT]
      refine lcallQ_p (refKey_ok l[j].lo a k1) (by simp [encKeyT, wk_encA]) ?_
      simp -implicitDefEqProofs [s0, s1, s8, hlt, encSpanT]
      refine lcallQ_p (refKey_ok l[j].hi a k2) (by simp [encKeyT, wk_encA]) ?_
      simp -implicitDefEqProofs []
      refine appQ_tok (es2 := [avP (spanV a l[j])]) (by rw [List.length_map]; cases t <;> exact ht) (P_len d) (by simp [srcA, avP, spanV]) (by simp; omega) fun t' h' q1 q2 q3 q4 => ?_
      simp -implicitDefEqProofs [s8, inc_i64 hlt (by omega), -Int.natCast_add]
      exact ih (l.length - (j + 1)) _ _ (by omega) ⟨j + 1, t', d ++ [spanV a l[j]], rfl, by omega, by simp [s0], by simp [s1], by simp [s2], by simp, hdn.symm, by simp, by simpa using q1⟩
    · simp -implicitDefEqProofs [s0, s8, hlt, encSpanT, hw]
      refine run_dreg c55_d6 ?_
      simp -implicitDefEqProofs [s0, s1, s7, s8, hlt, encSpanT]
      refine lcallQ_p (refKey_ok l[j].lo a k1) (by simp [encKeyT, wk_encA]) ?_
      simp -implicitDefEqProofs [s0, s1, s8, hlt, encSpanT]
      refine lcallQ_p (refKey_ok l[j].hi a k2) (by simp [encKeyT, wk_encA]) ?_
      simp -implicitDefEqProofs []
      refine appQ_tok (es2 := [avP (spanV a l[j])]) (by rw [List.length_map]; cases t <;> exact ht) (P_len d) (by simp [srcA, avP, spanV]) (by simp; omega) fun t' h' q1 q2 q3 q4 => ?_
      simp -implicitDefEqProofs [s8, inc_i64 hlt (by omega), -Int.natCast_add]
      exact ih (l.length - (j + 1)) _ _ (by omega) ⟨j + 1, t', d ++ [spanV a l[j]], rfl, by omega, by simp [s0], by simp [s1], by simp [s2], by simp, hdn.symm, by simp, by simpa using q1⟩
  · obtain rfl : j = l.length := by omega
    rw [List.take_length] at hd
    simp -implicitDefEqProofs [s0, s7, s8]
    refine callQ_p (refOf_ok d (by omega)) (by simp [encL, avP]) ?_
    rw [hd]
    simp -implicitDefEqProofs [wk_setP]

end Go.Proofs
