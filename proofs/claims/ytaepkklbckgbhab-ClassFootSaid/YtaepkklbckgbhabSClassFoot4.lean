/- What the functions that the statement reaches do: their contracts; and what follows of it. -/
import Derived.Test.YtaepkklbckgbhabSClassFoot3
import Derived.Test.YtaepkklbckgbhabK4
/- Which programs, footprints, classes and catalogues there may be: the document's answer. -/
namespace Go.Proofs
open Go Go.RowKit Go.Am

theorem elOK_Inst : ElOK encInst 9 true := ⟨fun _ => rfl, (fun h => by cases h), pure_encInst, wk_encInst⟩
theorem elOK_SpanT : ElOK encSpanT 5 true := ⟨fun _ => rfl, (fun h => by cases h), pure_encSpanT, wk_encSpanT⟩
theorem elOK_Stp : ElOK encStp 2 true := ⟨fun _ => rfl, (fun h => by cases h), pure_encStp, wk_encStp⟩
theorem elOK_Cls : ElOK encCls 5 true := ⟨fun _ => rfl, (fun h => by cases h), pure_encCls, wk_encCls⟩
theorem elOK_Spn : ElOK encSpn 2 true := ⟨fun _ => rfl, (fun h => by cases h), pure_encSpn, wk_encSpn⟩
theorem elOK_Nod : ElOK encNod 6 true := ⟨fun _ => rfl, (fun h => by cases h), pure_encNod, wk_encNod⟩
theorem elOK_Chg : ElOK encChg 3 true := ⟨fun _ => rfl, (fun h => by cases h), pure_encChg, wk_encChg⟩
theorem elOK_KeyT : ElOK encKeyT 2 true := ⟨fun _ => rfl, (fun h => by cases h), pure_encKeyT, wk_encKeyT⟩

def progMay (l : List Inst) (args : Int) : Bool := !decide (args < 0) && !decide (3 < args) && !decide (l.length < 1) && !decide (8 < l.length) && l.all fun x => oneInst x args
def footMay (l : List SpanT) (args : Int) : Bool := !decide (args < 0) && !decide (3 < args) && !decide (4 < l.length) && l.all fun s => mayKey s.lo args && mayKey s.hi args

theorem all_take_false {α : Type} {p : α → Bool} {l : List α} {j : Nat} (hj : j < l.length) (h : p l[j] = false) : l.all p = false := by
  rw [List.all_eq_false]
  exact ⟨l[j], List.getElem_mem hj, by simp [h]⟩
theorem all_whole {α : Type} {p : α → Bool} {l : List α} {j : Nat} (hj : l.length ≤ j) (h : ∀ i (hi : i < l.length), i < j → p l[i] = true) : l.all p = true := by
  rw [List.all_eq_true]
  intro x hx
  obtain ⟨i, hi, rfl⟩ := List.mem_iff_getElem.1 hx
  exact h i hi (by omega)

theorem refProgMay_ok (l : List Inst) (args : Int) (hl : l.length ≤ 9223372036854775807) : PCall Try.prog 43 [.sl .no (l.map encInst), .int .i64 args] (.bool (progMay l args)) := by
  refine PCall.run hb43 ok43 (by simp) (pures_cons (elOK_Inst.pureL l) (pures1 (.int _ _))) (.bool _) ?_
  by_cases bad : ((args < 0 ∨ 3 < args) ∨ (l.length : Int) < 1) ∨ (8 : Int) < (l.length : Int)
  · have hf : progMay l args = false := by
      simp only [progMay, Bool.and_eq_false_iff, Bool.not_eq_false', decide_eq_true_eq]
      omega
    simp (maxSteps := 2000000) +contextual -implicitDefEqProofs [↓gdL_F, ↓condQ_b, -Int.not_lt, -Int.not_le, -Nat.not_lt, -Nat.not_le, hf]
    all_goals (intros; omega)
  · have hm : progMay l args = l.all fun x => oneInst x args := by
      simp only [progMay, show ¬ args < 0 by omega, show ¬ 3 < args by omega, show ¬ l.length < 1 by omega, show ¬ 8 < l.length by omega]
      simp
    simp (maxSteps := 2000000) +contextual -implicitDefEqProofs [↓gdL_F, ↓condQ_b, -Int.not_lt, -Int.not_le, -Nat.not_lt, -Nat.not_le, show ¬ args < 0 by omega, show ¬ 3 < args by omega, show ¬ (l.length : Int) < 1 by omega, show ¬ (8 : Int) < (l.length : Int) by omega, hm]
    refine run_loop (fun n s h => ∃ j : Nat, n = l.length - j ∧ j ≤ l.length ∧ s 0 = .sl .no (l.map encInst) ∧ s 1 = .int .i64 args ∧ s 5 = .int .i64 j ∧ ∀ i (hi : i < l.length), i < j → oneInst l[i] args = true) ?_ l.length ?_
    · rintro n s h ⟨j, hn, hj, h0, h1, h5, hall⟩ ih
      by_cases hlt : j < l.length
      · simp -implicitDefEqProofs [h0, h1, h5, hlt, elOK_Inst.un, -unCells]
        refine callQ_p (refOne_ok l[j] args) (by simp [elV]) ?_
        cases hp : oneInst l[j] args
        · simp -implicitDefEqProofs [all_take_false (p := fun x => oneInst x args) hlt hp]
        · simp -implicitDefEqProofs [h5, inc_i64 hlt hl, -Int.natCast_add]
          exact ih (l.length - (j + 1)) _ _ (by omega) ⟨j + 1, rfl, by omega, by simp [h0], by simp [h1], by simp, fun i hi hij => by
            by_cases h : i = j
            · subst h; exact hp
            · exact hall i hi (by omega)⟩
      · simp -implicitDefEqProofs [h0, h5, hlt, all_whole (p := fun x => oneInst x args) (by omega) hall]
    · exact ⟨0, by simp⟩

theorem refFootMay_ok (l : List SpanT) (args : Int) (hl : l.length ≤ 9223372036854775807) : PCall Try.prog 26 [.sl .no (l.map encSpanT), .int .i64 args] (.bool (footMay l args)) := by
  refine PCall.run hb26 ok26 (by simp) (pures_cons (elOK_SpanT.pureL l) (pures1 (.int _ _))) (.bool _) ?_
  by_cases bad : (args < 0 ∨ 3 < args) ∨ (4 : Int) < (l.length : Int)
  · have hf : footMay l args = false := by
      simp only [footMay, Bool.and_eq_false_iff, Bool.not_eq_false', decide_eq_true_eq]
      omega
    simp (maxSteps := 2000000) +contextual -implicitDefEqProofs [↓gdL_F, ↓condQ_b, -Int.not_lt, -Int.not_le, -Nat.not_lt, -Nat.not_le, hf]
    all_goals (intros; omega)
  · have hm : footMay l args = l.all fun s => mayKey s.lo args && mayKey s.hi args := by
      simp only [footMay, show ¬ args < 0 by omega, show ¬ 3 < args by omega, show ¬ 4 < l.length by omega]
      simp
    simp (maxSteps := 2000000) +contextual -implicitDefEqProofs [↓gdL_F, ↓condQ_b, -Int.not_lt, -Int.not_le, -Nat.not_lt, -Nat.not_le, show ¬ args < 0 by omega, show ¬ 3 < args by omega, show ¬ (4 : Int) < (l.length : Int) by omega, hm]
    refine run_loop (fun n s h => ∃ j : Nat, n = l.length - j ∧ j ≤ l.length ∧ s 0 = .sl .no (l.map encSpanT) ∧ s 1 = .int .i64 args ∧ s 5 = .int .i64 j ∧ ∀ i (hi : i < l.length), i < j → (mayKey l[i].lo args && mayKey l[i].hi args) = true) ?_ l.length ?_
    · rintro n s h ⟨j, hn, hj, h0, h1, h5, hall⟩ ih
      by_cases hlt : j < l.length
      · simp -implicitDefEqProofs [h0, h1, h5, hlt, encSpanT]
        refine callQ_p (refMayKey_ok l[j].lo args) (by simp [encKeyT]) ?_
        cases hp : mayKey l[j].lo args
        · simp -implicitDefEqProofs [all_take_false (p := fun s => mayKey s.lo args && mayKey s.hi args) hlt (by simp [hp])]
        · simp -implicitDefEqProofs [h0, h1, h5, hlt, encSpanT]
          refine callQ_p (refMayKey_ok l[j].hi args) (by simp [encKeyT]) ?_
          cases hq : mayKey l[j].hi args
          · simp -implicitDefEqProofs [all_take_false (p := fun s => mayKey s.lo args && mayKey s.hi args) hlt (by simp [hp, hq])]
          · simp -implicitDefEqProofs [h5, inc_i64 hlt hl, -Int.natCast_add]
            exact ih (l.length - (j + 1)) _ _ (by omega) ⟨j + 1, rfl, by omega, by simp [h0], by simp [h1], by simp, fun i hi hij => by
              by_cases h : i = j
              · subst h; simp [hp, hq]
              · exact hall i hi (by omega)⟩
      · have hw := all_whole (p := fun s : SpanT => mayKey s.lo args && mayKey s.hi args) (by omega) hall
        simp -implicitDefEqProofs [h0, h5, hlt, hw]
    · exact ⟨0, by simp⟩
end Go.Proofs

/- Which programs there may be: the program's answer. -/
namespace Go.Proofs
open Go Go.RowKit Go.Am

theorem mayKey_ok (k : KeyT) (args : Int) : PCall Try.prog 97 [.agg (encKeyT k), .int .i64 args] (.bool (mayKey k args)) := by
  refine PCall.run hb97 ok97 (by simp) (pures_cons (pureKey k) (pures1 (.int _ _))) (.bool _) ?_
  simp (maxSteps := 2000000) +contextual -implicitDefEqProofs [↓gdL_T, ↓gdL_F, ↓condQ_b, -Int.not_lt, -Int.not_le, -Nat.not_lt, -Nat.not_le, encKeyT, mayKey]

theorem register_ok (n : Int) : PCall Try.prog 104 [.int .i64 n] (.bool (isReg n)) := by
  refine PCall.run hb104 ok104 (by simp) (pures1 (.int _ _)) (.bool _) ?_
  by_cases h : 0 ≤ n
  · simp -implicitDefEqProofs [isReg, h]
    rw [Bool.eq_iff_iff]; simp; omega
  · simp -implicitDefEqProofs [isReg, h]

def keysI (x : Inst) : List KeyT := if x.op = 1 ∨ x.op = 2 ∨ x.op = 3 then [x.k] else if x.op = 4 then [x.k, x.l] else []
theorem keys_ok (x : Inst) : PCall Try.prog 106 [.agg (encInst x)] (.sl .no ((keysI x).map encKeyT)) := by
  refine PCall.run hb106 ok106 (by simp) (pures1 (pureInst x)) (pure_sl pure_encKeyT _) ?_
  by_cases h1 : x.op = 1
  · simp -implicitDefEqProofs [encInst, h1, keysI, encKeyT]
  by_cases h2 : x.op = 2
  · simp -implicitDefEqProofs [encInst, h2, keysI, encKeyT]
  by_cases h3 : x.op = 3
  · simp -implicitDefEqProofs [encInst, h3, keysI, encKeyT]
  by_cases h4 : x.op = 4
  · simp -implicitDefEqProofs [encInst, h4, keysI, encKeyT]
  simp -implicitDefEqProofs [encInst, h1, h2, h3, h4, keysI]

def zeroK : KeyT := ⟨0, 0⟩
def onlyI (x : Inst) : Inst × Bool :=
  if x.op = 1 ∨ x.op = 2 then (⟨x.op, x.a, 0, 0, x.k, zeroK, 0⟩, true)
  else if x.op = 3 then (⟨x.op, 0, 0, 0, x.k, zeroK, 0⟩, true)
  else if x.op = 4 then (⟨x.op, x.a, 0, 0, x.k, x.l, 0⟩, true)
  else if x.op = 5 ∨ x.op = 8 then (⟨x.op, x.a, 0, 0, zeroK, zeroK, x.x⟩, true)
  else if x.op = 6 ∨ x.op = 7 then (⟨x.op, x.a, x.b, x.c, zeroK, zeroK, 0⟩, true)
  else (⟨x.op, x.a, 0, 0, zeroK, zeroK, 0⟩, false)

theorem only_ok (x : Inst) : PCall Try.prog 102 [.agg (encInst x)] (.tup [.agg (encInst (onlyI x).1), .bool (onlyI x).2]) := by
  refine PCall.run hb102 ok102 (by simp) (pures1 (pureInst x)) (.tup (pures_cons (pureInst _) (pures1 (.bool _)))) ?_
  by_cases h1 : x.op = 1
  · simp -implicitDefEqProofs [encInst, h1, onlyI, H.nil, zeroK]
  by_cases h2 : x.op = 2
  · simp -implicitDefEqProofs [encInst, h2, onlyI, H.nil, zeroK]
  by_cases h3 : x.op = 3
  · simp -implicitDefEqProofs [encInst, h3, H.nil]
    refine run_dreg c102_d8 ?_
    simp -implicitDefEqProofs [onlyI, zeroK, h3]
  by_cases h4 : x.op = 4
  · simp -implicitDefEqProofs [encInst, h4, H.nil]
    refine run_dreg c102_d10 ?_
    simp -implicitDefEqProofs [onlyI, h4]
  by_cases h5 : x.op = 5
  · simp -implicitDefEqProofs [encInst, h5, onlyI, H.nil, zeroK]
  by_cases h8 : x.op = 8
  · simp -implicitDefEqProofs [encInst, h8, onlyI, H.nil, zeroK]
  by_cases h6 : x.op = 6
  · simp -implicitDefEqProofs [encInst, h6, H.nil]
    refine run_dreg c102_d16 ?_
    simp -implicitDefEqProofs [onlyI, zeroK, h6]
  by_cases h7 : x.op = 7
  · simp -implicitDefEqProofs [encInst, h7, H.nil]
    refine run_dreg c102_d16 ?_
    simp -implicitDefEqProofs [onlyI, zeroK, h7]
  simp -implicitDefEqProofs [encInst, h1, h2, h3, h4, h5, h6, h7, h8, onlyI, H.nil, zeroK]
end Go.Proofs

/- Which programs there may be: the program's answer, joined. -/
namespace Go.Proofs
open Go Go.RowKit Go.Am

def mayI (x : Inst) (args : Int) : Bool := (onlyI x).2 && decide (x = (onlyI x).1) && isReg x.a && isReg x.b && isReg x.c && !(keysI x).any fun k => !mayKey k args

theorem may1_ok (k : KeyT) (args : Int) {h : H} {b : Nat} (hb : b < h.bn) (hbx : h.bx b = some [.int .i64 args]) : SCall Try.prog 103 [.agg (encKeyT k), .ptr b 0] h (.bool (!mayKey k args)) h := by
  refine SCall.ro (CallP.run hb103 ok103 (by simp) ?_) (.bool _)
  simp -implicitDefEqProofs [hbx, encKeyT, show ¬ b = h.bn by omega, show b < h.bn + 1 by omega]
  refine callQ_p (mayKey_ok k args) (by simp [encKeyT]) ?_
  simp -implicitDefEqProofs []
  exact HF.alloc _ _ _ _

theorem eqInst_f {x y : Inst} (h : x ≠ y) : (decide (x.op = y.op) && (decide (x.a = y.a) && (decide (x.b = y.b) && (decide (x.c = y.c) && (decide (x.k.arg = y.k.arg) && (decide (x.k.base = y.k.base) && (decide (x.l.arg = y.l.arg) && (decide (x.l.base = y.l.base) && decide (x.x = y.x))))))))) = false := by
  rw [Bool.eq_false_iff]
  intro hc
  apply h
  simp only [Bool.and_eq_true, decide_eq_true_eq] at hc
  rcases x with ⟨a, b, c, d, ⟨e, f⟩, ⟨g, i⟩, j⟩
  rcases y with ⟨a', b', c', d', ⟨e', f'⟩, ⟨g', i'⟩, j'⟩
  simp_all

theorem may_ok (x : Inst) (args : Int) : PCall Try.prog 84 [.agg (encInst x), .int .i64 args] (.bool (mayI x args)) := by
  refine PCall.run hb84 ok84 (by simp) (pures_cons (pureInst x) (pures1 (.int _ _))) (.bool _) ?_
  simp -implicitDefEqProofs [encInst, H.nil]
  refine callQ_p (only_ok x) (by simp [encInst]) ?_
  cases e : (onlyI x).2
  · simp -implicitDefEqProofs [encInst, mayI, e]
  simp -implicitDefEqProofs [encInst]
  by_cases hq : x = (onlyI x).1
  rotate_left
  · have hch := eqInst_f hq
    rw [hch]
    simp -implicitDefEqProofs [mayI, hq]
  have hq' : (onlyI x).1 = x := hq.symm
  simp -implicitDefEqProofs [hq']
  refine callQ_p (register_ok x.a) (by simp) ?_
  cases ra : isReg x.a
  · simp -implicitDefEqProofs [mayI, ra, hq']
  simp -implicitDefEqProofs [hq']
  refine callQ_p (register_ok x.b) (by simp) ?_
  cases rb : isReg x.b
  · simp -implicitDefEqProofs [mayI, rb, hq']
  simp -implicitDefEqProofs [hq']
  refine callQ_p (register_ok x.c) (by simp) ?_
  cases rc : isReg x.c
  · simp -implicitDefEqProofs [mayI, rc, hq']
  simp -implicitDefEqProofs [hq']
  refine callQ_p (keys_ok x) (by simp [encInst]) ?_
  simp -implicitDefEqProofs [hq']
  refine callQ_s (contains_gen hb105 ok105 hb117 ok117 elOK_KeyT (keysI x) (by unfold keysI; split; simp; split <;> simp) (first := []) (caps := [.ptr 1 0]) (p := fun k => !mayKey k args) rfl (by simp) (fun k _ => may1_ok k args (by simp) (by simp))) (by simp) ?_
  simp -implicitDefEqProofs [mayI, e, hq', ra, rb, rc]
end Go.Proofs

/- Which programs and footprints there may be: the program's answer is the document's. -/
namespace Go.Proofs
open Go Go.RowKit Go.Am

theorem isReg_iff (n : Int) : isReg n = true ↔ 0 ≤ n ∧ n ≤ 3 := by simp [isReg]
theorem mayI_one (x : Inst) (args : Int) : mayI x args = oneInst x args := by
  rcases x with ⟨op, a, b, c, ⟨ka, kb⟩, ⟨la, lb⟩, y⟩
  have z0 : isReg 0 = true := by decide
  by_cases h1 : op = 1 ∨ op = 2
  · have h2 : op = 1 ∨ op = 2 ∨ op = 3 := by omega
    simp only [mayI, oneInst, onlyI, keysI, if_pos h1, if_pos h2, zeroK, keyNone]
    rw [Bool.eq_iff_iff]
    simp
    intro hk
    constructor
    · rintro ⟨⟨⟨⟨rfl, rfl, ⟨rfl, rfl⟩, rfl⟩, ha⟩, hb⟩, hc⟩
      simp [ha]
    · rintro ⟨⟨⟨⟨ha, rfl⟩, rfl⟩, rfl⟩, rfl, rfl⟩
      simp [ha, z0]
  by_cases h3 : op = 3
  · have h2 : op = 1 ∨ op = 2 ∨ op = 3 := by omega
    simp only [mayI, oneInst, onlyI, keysI, if_neg h1, if_pos h3, if_pos h2, zeroK, keyNone]
    rw [Bool.eq_iff_iff]
    simp
    intro hk
    constructor
    · rintro ⟨⟨⟨⟨rfl, rfl, rfl, ⟨rfl, rfl⟩, rfl⟩, ha⟩, hb⟩, hc⟩
      simp
    · rintro ⟨⟨⟨⟨rfl, rfl⟩, rfl⟩, rfl⟩, rfl, rfl⟩
      simp [z0]
  have h2 : ¬ (op = 1 ∨ op = 2 ∨ op = 3) := by omega
  by_cases h4 : op = 4
  · simp only [mayI, oneInst, onlyI, keysI, if_neg h1, if_neg h3, if_pos h4, if_neg h2, zeroK, keyNone]
    rw [Bool.eq_iff_iff]
    simp
    constructor
    · rintro ⟨⟨⟨⟨⟨rfl, rfl, rfl⟩, ha⟩, hb⟩, hc⟩, hk, hl⟩
      simp [ha, hk, hl]
    · rintro ⟨⟨⟨⟨⟨ha, rfl⟩, rfl⟩, rfl⟩, hk⟩, hl⟩
      simp [ha, hk, hl, z0]
  by_cases h5 : op = 5 ∨ op = 8
  · simp only [mayI, oneInst, onlyI, keysI, if_neg h1, if_neg h3, if_neg h4, if_neg h2, if_pos h5, zeroK, keyNone]
    rw [Bool.eq_iff_iff]
    simp
    constructor
    · rintro ⟨⟨⟨⟨rfl, rfl, ⟨rfl, rfl⟩, ⟨rfl, rfl⟩⟩, ha⟩, hb⟩, hc⟩
      simp [ha]
    · rintro ⟨⟨⟨⟨ha, rfl⟩, rfl⟩, rfl, rfl⟩, rfl, rfl⟩
      simp [ha, z0]
  by_cases h6 : op = 6 ∨ op = 7
  · simp only [mayI, oneInst, onlyI, keysI, if_neg h1, if_neg h3, if_neg h4, if_neg h2, if_neg h5, if_pos h6, zeroK, keyNone]
    rw [Bool.eq_iff_iff]
    simp
    constructor
    · rintro ⟨⟨⟨⟨⟨rfl, rfl⟩, ⟨rfl, rfl⟩, rfl⟩, ha⟩, hb⟩, hc⟩
      simp [ha, hb, hc]
    · rintro ⟨⟨⟨⟨⟨ha, rfl⟩, hb⟩, hc⟩, rfl, rfl⟩, rfl, rfl⟩
      simp [ha, hb, hc]
  simp only [mayI, oneInst, onlyI, keysI, if_neg h1, if_neg h3, if_neg h4, if_neg h2, if_neg h5, if_neg h6]
  simp

theorem May1_ok (x : Inst) (args : Int) {h : H} {b : Nat} (hb : b < h.bn) (hbx : h.bx b = some [.int .i64 args]) : SCall Try.prog 83 [.agg (encInst x), .ptr b 0] h (.bool (!oneInst x args)) h := by
  refine SCall.ro (CallP.run hb83 ok83 (by simp) ?_) (.bool _)
  simp -implicitDefEqProofs [hbx, encInst, show ¬ b = h.bn by omega, show b < h.bn + 1 by omega]
  refine callQ_p (may_ok x args) (by simp [encInst]) ?_
  simp -implicitDefEqProofs [mayI_one]
  exact HF.alloc _ _ _ _

theorem any_not {α : Type} (l : List α) (p : α → Bool) : (!l.any fun x => !p x) = l.all p := by
  rw [Bool.eq_iff_iff]; simp

theorem progMay_ok (l : List Inst) (args : Int) (hl : l.length ≤ 9223372036854775807) : PCall Try.prog 61 [.sl .no (l.map encInst), .int .i64 args] (.bool (progMay l args)) := by
  refine PCall.run hb61 ok61 (by simp) (pures_cons (elOK_Inst.pureL l) (pures1 (.int _ _))) (.bool _) ?_
  by_cases bad : ((args < 0 ∨ 3 < args) ∨ (l.length : Int) < 1) ∨ (8 : Int) < (l.length : Int)
  · have hf : progMay l args = false := by
      simp only [progMay, Bool.and_eq_false_iff, Bool.not_eq_false', decide_eq_true_eq]
      omega
    simp (maxSteps := 2000000) +contextual -implicitDefEqProofs [↓gdL_T, ↓gdL_F, ↓condQ_b, -Int.not_lt, -Int.not_le, -Nat.not_lt, -Nat.not_le, hf, H.nil]
    all_goals (intros; omega)
  · have hm : progMay l args = l.all fun x => oneInst x args := by
      simp only [progMay, show ¬ args < 0 by omega, show ¬ 3 < args by omega, show ¬ l.length < 1 by omega, show ¬ 8 < l.length by omega]
      simp
    simp -implicitDefEqProofs [H.nil, show ¬ args < 0 by omega, show ¬ 3 < args by omega, show ¬ (l.length : Int) < 1 by omega, show ¬ (8 : Int) < (l.length : Int) by omega, hm]
    refine callQ_s (contains_gen hb82 ok82 hb101 ok101 elOK_Inst l hl (first := []) (caps := [.ptr 0 0]) (p := fun x => !oneInst x args) rfl (by simp) (fun x _ => May1_ok x args (by simp) (by simp))) (by simp) ?_
    simp -implicitDefEqProofs [any_not]

def sureI (x : Inst) : Bool := !(decide (x.op = 6) || decide (x.op = 7) || decide (x.op = 8))
theorem Sure1_ok (x : Inst) : PCall Try.prog 108 [.agg (encInst x)] (.bool (!sureI x)) := by
  refine PCall.run hb108 ok108 (by simp) (pures1 (pureInst x)) (.bool _) ?_
  by_cases h6 : x.op = 6
  · simp -implicitDefEqProofs [encInst, sureI, h6]
  by_cases h7 : x.op = 7
  · simp -implicitDefEqProofs [encInst, sureI, h7]
  simp -implicitDefEqProofs [encInst, sureI, h6, h7]
theorem sure_ok (l : List Inst) (hl : l.length ≤ 9223372036854775807) : PCall Try.prog 88 [.sl .no (l.map encInst)] (.bool (l.all sureI)) := by
  refine PCall.run hb88 ok88 (by simp) (pures1 (elOK_Inst.pureL l)) (.bool _) ?_
  simp -implicitDefEqProofs []
  refine callQ_s (contains_gen hb82 ok82 hb101 ok101 elOK_Inst l hl (first := []) (caps := []) (p := fun x => !sureI x) rfl rfl (fun x _ => Sure1_ok x _)) (by simp) ?_
  simp -implicitDefEqProofs [any_not]

theorem reads_ok (k : KeyT) : PCall Try.prog 86 [.agg (encKeyT k)] (.sl .no ([(⟨1, 0, 0, 0, k, zeroK, 0⟩ : Inst)].map encInst)) := by
  refine PCall.run hb86 ok86 (by simp) (pures1 (pureKey k)) (elOK_Inst.pureL _) ?_
  simp -implicitDefEqProofs [encKeyT, encInst, zeroK, H.nil]
theorem progMay_reads (k : KeyT) {args : Int} (h0 : 0 ≤ args) (h3 : args ≤ 3) : progMay [(⟨1, 0, 0, 0, k, zeroK, 0⟩ : Inst)] args = mayKey k args := by
  have z0 : isReg 0 = true := by decide
  simp [progMay, oneInst, z0, zeroK, keyNone]
  intro; omega
end Go.Proofs

/- Which classes and catalogues there may be: the document's answer. -/
namespace Go.Proofs
open Go Go.RowKit Go.Am

def backMay (c : Stp) (args : Int) : Bool := (!decide (0 < c.code.length) || progMay c.code args) && c.code.all fun x => decide (x.op < 6)
def stepMay (args : Int) (p : Stp × Stp) : Bool := progMay p.1.code args && footMay p.1.foot args && footMay p.2.foot args && backMay p.2 args
def clsMay (x : Cls) : Bool :=
  !decide (x.name.size < 1) && !decide (16 < x.name.size) && !decide (x.args < 0) && !decide (3 < x.args) && !decide (x.steps.length < 1) && !decide (4 < x.steps.length) && decide (x.comps.length = x.steps.length) &&
    (x.steps.zip x.comps).all (stepMay x.args)

theorem refClsMay_ok (x : Cls) (hx : x.wf) : PCall Try.prog 21 [.agg (encCls x)] (.bool (clsMay x)) := by
  refine PCall.run hb21 ok21 (by simp) (pures1 (.agg (pure_encCls x))) (.bool _) ?_
  obtain ⟨hwn, hwa, ⟨hsl, hsw⟩, hcl, hcw⟩ := hx
  by_cases bad : x.name.size < 1 ∨ 16 < x.name.size ∨ x.args < 0 ∨ 3 < x.args ∨ x.steps.length < 1 ∨ 4 < x.steps.length ∨ x.comps.length ≠ x.steps.length
  · have hf : clsMay x = false := by
      simp only [clsMay, Bool.and_eq_false_iff, Bool.not_eq_false', decide_eq_true_eq, decide_eq_false_iff_not]
      omega
    simp (maxSteps := 2000000) +contextual -implicitDefEqProofs [↓gdL_F, ↓condQ_b, -Int.not_lt, -Int.not_le, -Nat.not_lt, -Nat.not_le, hf, encCls]
    all_goals (intros; omega)
  · have hm : clsMay x = (x.steps.zip x.comps).all (stepMay x.args) := by
      simp only [clsMay, show ¬ x.name.size < 1 by omega, show ¬ 16 < x.name.size by omega, show ¬ x.args < 0 by omega, show ¬ 3 < x.args by omega, show ¬ x.steps.length < 1 by omega, show ¬ 4 < x.steps.length by omega, show x.comps.length = x.steps.length by omega]
      simp
    have hcs : x.comps.length = x.steps.length := by omega
    have hzl : (x.steps.zip x.comps).length = x.steps.length := by simp [hcs]
    have e1 : ¬ (x.name.size : Int) < 1 := by omega
    have e2 : ¬ (16 : Int) < (x.name.size : Int) := by omega
    have e5 : ¬ (x.steps.length : Int) < 1 := by omega
    have e6 : ¬ (4 : Int) < (x.steps.length : Int) := by omega
    simp -implicitDefEqProofs [encCls, e1, e2, show ¬ x.args < 0 by omega, show ¬ 3 < x.args by omega, e5, e6, hcs, hm]
    refine run_loop (fun n s h => ∃ j : Nat, n = x.steps.length - j ∧ j ≤ x.steps.length ∧ s 1 = .ptr 0 0 ∧ 0 < h.bn ∧ h.bx 0 = some [.str x.name, .int .i64 x.args, .sl .no (x.steps.map encStp), .sl .no (x.comps.map encStp), .bool x.resume] ∧ s 3 = .int .i64 x.steps.length ∧ s 4 = .int .i64 j ∧ ∀ i (hi : i < (x.steps.zip x.comps).length), i < j → stepMay x.args (x.steps.zip x.comps)[i] = true) ?_ x.steps.length ?_
    · rintro n s h ⟨j, hn, hj, h1, h0, hb, h3, h4, hall⟩ ih
      by_cases hlt : j < x.steps.length
      · have hlt2 : j < x.comps.length := by omega
        have hlz : j < (x.steps.zip x.comps).length := by omega
        have hws := hsw _ (List.getElem_mem hlt)
        have hwc := hcw _ (List.getElem_mem hlt2)
        have hno : stepMay x.args (x.steps.zip x.comps)[j] = false → (x.steps.zip x.comps).all (stepMay x.args) = false := all_take_false hlz
        rw [List.getElem_zip] at hno
        simp -implicitDefEqProofs [h3, h4, hlt]
        refine run_dregL c21_d7 rfl ?_
        simp -implicitDefEqProofs [h1, h0, hb, h4, hlt, encStp]
        refine callC_p (refProgMay_ok x.steps[j].code x.args hws.1.1) (by simp) ?_
        cases hp : progMay x.steps[j].code x.args
        · have := hno (by simp [stepMay, hp])
          simp -implicitDefEqProofs [this]
        simp -implicitDefEqProofs [h1, h0, hb, h4, hlt, encStp]
        refine callC_p (refFootMay_ok x.steps[j].foot x.args hws.2.1) (by simp) ?_
        cases hq : footMay x.steps[j].foot x.args
        · have := hno (by simp [stepMay, hp, hq])
          simp -implicitDefEqProofs [this]
        simp -implicitDefEqProofs [h1, h0, hb, h4, hlt2, encStp]
        refine callC_p (refFootMay_ok x.comps[j].foot x.args hwc.2.1) (by simp) ?_
        cases hr : footMay x.comps[j].foot x.args
        · have := hno (by simp [stepMay, hp, hq, hr])
          simp -implicitDefEqProofs [this]
        simp -implicitDefEqProofs [h1, h0, hb, h4, hlt2, encStp]
        have hb2 : backMay x.comps[j] x.args = false → (x.steps.zip x.comps).all (stepMay x.args) = false := fun h => hno (by simp [stepMay, h])
        have hb3 : backMay x.comps[j] x.args = true → stepMay x.args (x.steps[j], x.comps[j]) = true := fun h => by simp [stepMay, hp, hq, hr, h]
        clear hno
        have hend : ∀ i (hi : i < (x.steps.zip x.comps).length), backMay x.comps[j] x.args = true → i < j + 1 → stepMay x.args (x.steps.zip x.comps)[i] = true := fun i hi hbm hij => by
          by_cases h : i = j
          · subst h; rw [List.getElem_zip]; exact hb3 hbm
          · exact hall i hi (by omega)
        by_cases hc : 0 < x.comps[j].code.length
        focus
          simp -implicitDefEqProofs [hc, h1, h0, hb]
          refine callQ_p (refProgMay_ok x.comps[j].code x.args hwc.1.1) (by simp) ?_
          cases hs : progMay x.comps[j].code x.args
          · have := hb2 (by simp [backMay, hc, hs])
            simp -implicitDefEqProofs [this, hc]
          simp -implicitDefEqProofs [hc]
          have hcode : (!decide (0 < x.comps[j].code.length) || progMay x.comps[j].code x.args) = true := by simp [hs]
        rotate_left
        focus
          simp -implicitDefEqProofs [hc]
          have hcode : (!decide (0 < x.comps[j].code.length) || progMay x.comps[j].code x.args) = true := by simp [hc]
        all_goals
          have hbm : backMay x.comps[j] x.args = x.comps[j].code.all fun x => decide (x.op < 6) := by simp [backMay, hcode]
          refine run_loop (fun n s h => ∃ k : Nat, n = x.comps[j].code.length - k ∧ k ≤ x.comps[j].code.length ∧ s 1 = .ptr 0 0 ∧ 0 < h.bn ∧ h.bx 0 = some [.str x.name, .int .i64 x.args, .sl .no (x.steps.map encStp), .sl .no (x.comps.map encStp), .bool x.resume] ∧ s 3 = .int .i64 x.steps.length ∧ s 4 = .int .i64 j ∧ s 5 = .sl .no (x.comps[j].code.map encInst) ∧ s 6 = .int .i64 k ∧ ∀ i (hi : i < x.comps[j].code.length), i < k → decide (x.comps[j].code[i].op < 6) = true) ?_ x.comps[j].code.length ?_
          · rintro n s h ⟨k, hn, hk, h1, h0, hb, h3, h4, h5, h6, hal⟩ ih2
            by_cases hlk : k < x.comps[j].code.length
            · by_cases ho : x.comps[j].code[k].op < 6
              · simp -implicitDefEqProofs [h5, h6, hlk, encInst, show ¬ 6 ≤ x.comps[j].code[k].op by omega, inc_i64 hlk hwc.1.1, -Int.natCast_add]
                exact ih2 (x.comps[j].code.length - (k + 1)) _ _ (by omega) ⟨k + 1, rfl, by omega, by simp [h1], by simpa using h0, by simp [hb], by simp [h3], by simp [h4], by simp [h5], by simp, fun i hi hij => by
                  by_cases h : i = k
                  · subst h; simpa using ho
                  · exact hal i hi (by omega)⟩
              · have := hb2 (hbm ▸ all_take_false (p := fun x : Inst => decide (x.op < 6)) hlk (by simpa using ho))
                simp -implicitDefEqProofs [h5, h6, hlk, encInst, show 6 ≤ x.comps[j].code[k].op by omega, this]
            · have hbt := hbm.trans (all_whole (p := fun x : Inst => decide (x.op < 6)) (by omega) hal)
              simp -implicitDefEqProofs [h4, h5, h6, hlk, inc_i64 hlt hsl, -Int.natCast_add]
              exact ih (x.steps.length - (j + 1)) _ _ (by omega) ⟨j + 1, rfl, by omega, by simp [h1], by simpa using h0, by simp [hb], by simp [h3], by simp, fun i hi hij => hend i hi hbt hij⟩
          · exact ⟨0, by simp [h1, h0, hb, h3, h4]⟩
      · have hw := all_whole (p := stepMay x.args) (by omega) hall
        simp -implicitDefEqProofs [h3, h4, hlt, hw]
    · exact ⟨0, by simp [H.nil]⟩
end Go.Proofs

/- Which catalogues there may be: the document's answer. -/
namespace Go.Proofs
open Go Go.RowKit Go.Am

def Ctlg.nameAt (x : Ctlg) (i : Nat) : ByteArray := (x.classes[i]?.map (·.name)).getD ByteArray.empty
def Ctlg.stepsN (x : Ctlg) (i : Nat) : Nat := (x.classes[i]?.map (·.steps.length)).getD 0
def Ctlg.brk (x : Ctlg) (c d : Nat) : Int := (x.breaks[4 * c + d]?).getD 0
def Ctlg.mostB (x : Ctlg) (c d : Nat) : Int := if c < x.classes.length ∧ d < x.classes.length then 2 ^ (x.stepsN c - 1) else 1
def Ctlg.brkOK (x : Ctlg) (c d : Nat) : Bool := !decide (x.brk c d < 0) && !decide (x.mostB c d ≤ x.brk c d)
def Ctlg.namesOK (x : Ctlg) (i : Nat) : Bool := (List.range i).all fun j => !decide (x.nameAt j = x.nameAt i)
def Ctlg.clsOK (x : Ctlg) (i : Nat) : Bool := (x.classes[i]?.map clsMay).getD false
def catMay (x : Ctlg) : Bool :=
  !decide (x.classes.length < 1) && !decide (4 < x.classes.length) && ((List.range x.classes.length).all fun i => x.clsOK i && x.namesOK i) && (List.range 4).all fun c => (List.range 4).all (x.brkOK c)

theorem allR_false {p : Nat → Bool} {n j : Nat} (hj : j < n) (h : p j = false) : (List.range n).all p = false := by
  rw [List.all_eq_false]
  exact ⟨j, List.mem_range.2 hj, by simp [h]⟩
theorem allR_true {p : Nat → Bool} {n j : Nat} (hj : n ≤ j) (h : ∀ i, i < j → p i = true) : (List.range n).all p = true := by
  rw [List.all_eq_true]
  intro x hx
  exact h x (by have := List.mem_range.1 hx; omega)
@[simp] theorem take_encCls (y : Cls) : List.take 5 (encCls y) = encCls y := rfl
theorem Ctlg.brk_of {x : Ctlg} {c d : Nat} (hb : x.breaks.length = 16) (hc : c < 4) (hd : d < 4) : x.brk c d = x.breaks[4 * c + d] := by simp [brk, show 4 * c + d < x.breaks.length by omega]
theorem Ctlg.brk_load {x : Ctlg} (v : AV) {c d : Nat} (hb : x.breaks.length = 16) (hc : c < 4) (hd : d < 4) : List.take 1 (List.drop (1 + c * 4 + d) (v :: x.breaks.map (AV.int .i64))) = [.int .i64 (x.brk c d)] := by
  rw [show 1 + c * 4 + d = (4 * c + d) + 1 by omega, List.drop_succ_cons, brk_of hb hc hd, List.drop_eq_getElem_cons (by simp; omega)]
  simp
theorem Ctlg.nameAt_of {x : Ctlg} {i : Nat} (h : i < x.classes.length) : x.nameAt i = x.classes[i].name := by simp [nameAt, h]
theorem Ctlg.stepsN_of {x : Ctlg} {i : Nat} (h : i < x.classes.length) : x.stepsN i = x.classes[i].steps.length := by simp [stepsN, h]
theorem Ctlg.clsOK_of {x : Ctlg} {i : Nat} (h : i < x.classes.length) : x.clsOK i = clsMay x.classes[i] := by simp [clsOK, h]

end Go.Proofs

/- Which footprints there may be: the program's answer; what may compensate. -/
namespace Go.Proofs
open Go Go.RowKit Go.Am

theorem footMay1_ok (x : SpanT) {args : Int} (a0 : 0 ≤ args) (a3 : args ≤ 3) {h : H} {b : Nat} (hb : b < h.bn) (hbx : h.bx b = some [.int .i64 args]) : SCall Try.prog 85 [.agg (encSpanT x), .ptr b 0] h (.bool (!(mayKey x.lo args && mayKey x.hi args))) h := by
  refine SCall.ro (CallP.run hb85 ok85 (by simp) ?_) (.bool _)
  simp -implicitDefEqProofs [encSpanT]
  refine run_dregL c85_d2 rfl ?_
  simp -implicitDefEqProofs []
  refine callC_p (reads_ok x.lo) (by simp [encKeyT]) ?_
  simp -implicitDefEqProofs [hbx, show ¬ b = h.bn by omega, show b < h.bn + 1 by omega]
  refine callC_p (progMay_ok [(⟨1, 0, 0, 0, x.lo, zeroK, 0⟩ : Inst)] args (by simp)) (by simp [encInst]) ?_
  rw [progMay_reads x.lo a0 a3]
  cases e : mayKey x.lo args
  · simp -implicitDefEqProofs []
    exact HF.alloc _ _ _ _
  simp -implicitDefEqProofs []
  refine callC_p (reads_ok x.hi) (by simp [encKeyT]) ?_
  simp -implicitDefEqProofs [hbx, show ¬ b = h.bn by omega, show b < h.bn + 1 by omega]
  refine callC_p (progMay_ok [(⟨1, 0, 0, 0, x.hi, zeroK, 0⟩ : Inst)] args (by simp)) (by simp [encInst]) ?_
  rw [progMay_reads x.hi a0 a3]
  simp -implicitDefEqProofs []
  exact HF.alloc _ _ _ _

theorem footMay_ok (l : List SpanT) (args : Int) (hl : l.length ≤ 9223372036854775807) : PCall Try.prog 62 [.sl .no (l.map encSpanT), .int .i64 args] (.bool (footMay l args)) := by
  refine PCall.run hb62 ok62 (by simp) (pures_cons (elOK_SpanT.pureL l) (pures1 (.int _ _))) (.bool _) ?_
  by_cases a0 : 0 ≤ args
  rotate_left
  · simp -implicitDefEqProofs [H.nil, a0, footMay, show args < 0 by omega]
  by_cases a3 : args ≤ 3
  rotate_left
  · simp -implicitDefEqProofs [H.nil, a0, a3, footMay, show 3 < args by omega]
  by_cases a4 : (l.length : Int) ≤ 4
  rotate_left
  · simp -implicitDefEqProofs [H.nil, a0, a3, a4, footMay, show 4 < l.length by omega]
  have hm : footMay l args = l.all fun s => mayKey s.lo args && mayKey s.hi args := by
    simp only [footMay, show ¬ args < 0 by omega, show ¬ 3 < args by omega, show ¬ 4 < l.length by omega]
    simp
  simp -implicitDefEqProofs [H.nil, a0, a3, a4]
  refine callQ_s (contains_gen hb87 ok87 hb107 ok107 elOK_SpanT l hl (first := []) (caps := [.ptr 0 0]) (p := fun x => !(mayKey x.lo args && mayKey x.hi args)) rfl (by simp) (fun x _ => footMay1_ok x a0 a3 (by simp) (by simp))) (by simp) ?_
  have ha := any_not l fun x : SpanT => mayKey x.lo args && mayKey x.hi args
  rw [hm]
  simp -implicitDefEqProofs []
  rw [← ha, Bool.not_not]
  congr 1
  funext x
  simp

def compMay (c : Stp) (args : Int) : Bool := (decide (c.code.length = 0) || (progMay c.code args && c.code.all sureI)) && footMay c.foot args
theorem mayComp_ok (c : Stp) (args : Int) (hc : c.wf) : PCall Try.prog 63 [.agg (encStp c), .int .i64 args] (.bool (compMay c args)) := by
  refine PCall.run hb63 ok63 (by simp) (pures_cons (.agg (pure_encStp c)) (pures1 (.int _ _))) (.bool _) ?_
  have h1 := hc.1.1
  have h2 := hc.2.1
  simp only [maxLen] at h1 h2
  by_cases e : c.code.length = 0
  · simp -implicitDefEqProofs [encStp, H.nil, e]
    refine callQ_p (footMay_ok c.foot args h2) (by simp) ?_
    simp -implicitDefEqProofs [compMay, e]
  · simp -implicitDefEqProofs [encStp, H.nil, e]
    refine callQ_p (progMay_ok c.code args h1) (by simp) ?_
    cases hp : progMay c.code args
    · simp -implicitDefEqProofs [compMay, e, hp]
    simp -implicitDefEqProofs []
    refine callQ_p (sure_ok c.code h1) (by simp) ?_
    cases hs : c.code.all sureI
    · simp -implicitDefEqProofs [compMay, e, hp, hs]
    simp -implicitDefEqProofs []
    refine callQ_p (footMay_ok c.foot args h2) (by simp) ?_
    simp -implicitDefEqProofs [compMay, e, hp, hs]

theorem one_ops {x : Inst} {args : Int} (h : oneInst x args = true) : decide (x.op < 6) = sureI x := by
  have : 1 ≤ x.op ∧ x.op ≤ 8 := by
    by_cases hq : 1 ≤ x.op ∧ x.op ≤ 8
    · exact hq
    · simp only [oneInst] at h
      rw [if_neg (by omega), if_neg (by omega), if_neg (by omega), if_neg (by omega), if_neg (by omega)] at h
      cases h
  rw [Bool.eq_iff_iff]
  simp [sureI]
  omega
theorem comp_back (c : Stp) (args : Int) : compMay c args = (footMay c.foot args && backMay c args) := by
  rw [compMay, backMay, Bool.and_comm]
  congr 1
  by_cases h0 : c.code.length = 0
  · have : c.code = [] := List.length_eq_zero_iff.1 h0
    simp [this]
  · have h1 : 0 < c.code.length := by omega
    simp only [h0, h1, decide_false, decide_true, Bool.false_or, Bool.not_true]
    cases hp : progMay c.code args
    · rfl
    · simp only [Bool.true_and]
      simp only [progMay, Bool.and_eq_true] at hp
      have ho := hp.2
      rw [List.all_eq_true] at ho
      rw [Bool.eq_iff_iff, List.all_eq_true, List.all_eq_true]
      constructor
      · intro h x hx; rw [one_ops (ho x hx)]; exact h x hx
      · intro h x hx; rw [← one_ops (ho x hx)]; exact h x hx
end Go.Proofs

/- The steps of a class, over which one ranges; which classes there may be: the program's answer. -/
namespace Go.Proofs
open Go Go.RowKit Go.Am

theorem each_ok (c : Cls) (h : H) : SCall Try.prog 60 [.agg (encCls c)] h (.fn 81 [] [.ptr h.bn 0]) (h.alloc (encCls c)) := by
  refine SCall.newG (fun b => .fn 81 [] [.ptr b 0]) (fun _ _ _ _ _ _ _ h1 h2 => Low.fn1 (Low.ptr h1 h2)) (CallP.run hb60 ok60 (by simp) ?_) (pure_encCls c)
  simp -implicitDefEqProofs [encCls]
  exact ⟨HF.alloc _ _ _ _, WkL.refl _⟩

/-- One round after the other, as long as one goes on. -/
theorem each1_ok (c : Cls) (hl : c.comps.length = c.steps.length) (hm : c.steps.length ≤ 9223372036854775807) {l b : Nat} {h : H} (I : Nat → H → Prop) (J : H → Prop) (hI : ∀ k h', I k h' → b < h'.bn ∧ h'.bx b = some (encCls c)) (hJ : ∀ h', J h' → b < h'.bn ∧ h'.bx b = some (encCls c))
    (hr : ∀ k h' (h1 : k < c.steps.length) (h2 : k < c.comps.length), I k h' → ∃ r h'', SYld Try.prog l [.agg (encStp c.steps[k]), .agg (encStp c.comps[k])] h' (.bool r) h'' ∧ (r = true → I (k + 1) h'') ∧ (r = false → J h''))
    (h0 : I 0 h) : CallP Try.prog 81 [.yld l, .ptr b 0] h fun _ h1 => I c.steps.length h1 ∨ J h1 := by
  refine CallP.run hb81 ok81 (by simp) ?_
  obtain ⟨b1, b2⟩ := hI _ _ h0
  simp -implicitDefEqProofs [b1, b2, encCls, hl]
  refine run_loop (fun m s h1 => ∃ j : Nat, m = c.steps.length - j ∧ j ≤ c.steps.length ∧ s 0 = .yld l ∧ s 1 = .ptr b 0 ∧ s 10 = .int .i64 c.steps.length ∧ s 11 = .int .i64 j ∧ I j h1) ?_ c.steps.length ?_
  rotate_left
  · exact ⟨0, by simpa using h0⟩
  rintro m s h1 ⟨j, hn, hj, s0, s1, s10, s11, hi⟩ ih
  by_cases hlt : j < c.steps.length
  · have hlt2 : j < c.comps.length := by omega
    obtain ⟨b1, b2⟩ := hI _ _ hi
    rw [encCls] at b2
    simp -implicitDefEqProofs [s10, s11, hlt]
    refine run_dreg c81_d4 ?_
    simp -implicitDefEqProofs [s0, s1, b1, b2, hlt, hlt2, encStp]
    obtain ⟨r, h2, q1, q2, q3⟩ := hr j h1 hlt hlt2 hi
    refine callD_y q1 (by simp [encStp]) ?_
    cases r
    · obtain ⟨b3, b4⟩ := hJ _ (q3 rfl)
      rw [encCls] at b4
      simp -implicitDefEqProofs [b1, b2, b3, b4]
      exact Or.inr (q3 rfl)
    · obtain ⟨b3, b4⟩ := hI _ _ (q2 rfl)
      rw [encCls] at b4
      simp -implicitDefEqProofs [b1, b2, b3, b4, s11, inc_i64 hlt hm, -Int.natCast_add]
      exact ih (c.steps.length - (j + 1)) _ _ (by omega) ⟨j + 1, rfl, by omega, by simp [s0], by simp [s1], by simp [s10], by simp, q2 rfl⟩
  · obtain rfl : j = c.steps.length := by omega
    simp -implicitDefEqProofs [s10, s11]
    exact Or.inl hi
end Go.Proofs

/- Which classes there may be: the program's answer. -/
namespace Go.Proofs
open Go Go.RowKit Go.Am

theorem stepMay_parts (a : Int) (s u : Stp) : stepMay a (s, u) = (progMay s.code a && footMay s.foot a && compMay u a) := by
  rw [comp_back, stepMay]
  cases progMay s.code a <;> cases footMay s.foot a <;> cases footMay u.foot a <;> cases backMay u a <;> rfl

set_option maxHeartbeats 1000000 in
theorem classMay_ok (c : Cls) (hc : c.wf) : PCall Try.prog 38 [.agg (encCls c)] (.bool (clsMay c)) := by
  refine PCall.run hb38 ok38 (by simp) (pures1 (.agg (pure_encCls c))) (.bool _) ?_
  obtain ⟨hwn, hwa, ⟨hsl, hsw⟩, hcl, hcw⟩ := hc
  by_cases bad : (((((((c.name.size : Int) < 1 ∨ (16 : Int) < (c.name.size : Int)) ∨ c.args < 0) ∨ 3 < c.args) ∨ (c.steps.length : Int) < 1) ∨ (4 : Int) < (c.steps.length : Int)) ∨ ¬ c.comps.length = c.steps.length)
  · have hf : clsMay c = false := by
      simp only [clsMay, Bool.and_eq_false_iff, Bool.not_eq_false', decide_eq_true_eq, decide_eq_false_iff_not]
      omega
    simp (maxSteps := 2000000) +contextual -implicitDefEqProofs [↓gdL_T, ↓gdL_F, ↓condQ_b, -Int.not_lt, -Int.not_le, -Nat.not_lt, -Nat.not_le, hf, encCls, H.nil]
    all_goals (intros; omega)
  have hm : clsMay c = (c.steps.zip c.comps).all (stepMay c.args) := by
    simp only [clsMay, show ¬ c.name.size < 1 by omega, show ¬ 16 < c.name.size by omega, show ¬ c.args < 0 by omega, show ¬ 3 < c.args by omega, show ¬ c.steps.length < 1 by omega, show ¬ 4 < c.steps.length by omega, show c.comps.length = c.steps.length by omega]
    simp
  have hcs : c.comps.length = c.steps.length := by omega
  have e1 : ¬ (c.name.size : Int) < 1 := by omega
  have e2 : ¬ (16 : Int) < (c.name.size : Int) := by omega
  have e3 : ¬ c.args < 0 := by omega
  have e4 : ¬ 3 < c.args := by omega
  have e5 : ¬ (c.steps.length : Int) < 1 := by omega
  have e6 : ¬ (4 : Int) < (c.steps.length : Int) := by omega
  simp -implicitDefEqProofs [encCls, H.nil, e1, e2, e3, e4, e5, e6, hcs]
  refine callQ_s (each_ok c _) (by simp [encCls]) ?_
  simp -implicitDefEqProofs []
  generalize hS : (su _ 45 _ : Slots) = S
  have s1 : S 1 = .ptr 0 0 := by rw [← hS]; simp
  have s2 : S 2 = .ptr 1 0 := by rw [← hS]; simp
  have s45 : S 45 = .fn 81 [] [.ptr 2 0] := by rw [← hS]; simp
  clear hS
  have hzl : (c.steps.zip c.comps).length = c.steps.length := by simp [hcs]
  let q0 : LoopA := ⟨S, [46, 47], c38_x10, c38_y11, .ready, none⟩
  let qE : LoopA := ⟨S, [46, 47], c38_x10, c38_y11, .done, some .ret⟩
  let I : Nat → H → Prop := fun k h1 => 0 < h1.ln ∧ h1.lp 0 = some q0 ∧ 3 ≤ h1.bn ∧ h1.bx 0 = some (encCls c) ∧ h1.bx 1 = some [.bool false] ∧ h1.bx 2 = some (encCls c) ∧ ∀ i (hi : i < (c.steps.zip c.comps).length), i < k → stepMay c.args (c.steps.zip c.comps)[i] = true
  let J : H → Prop := fun h1 => 0 < h1.ln ∧ h1.lp 0 = some qE ∧ 3 ≤ h1.bn ∧ h1.bx 1 = some [.bool false] ∧ h1.bx 2 = some (encCls c) ∧ (c.steps.zip c.comps).all (stepMay c.args) = false
  refine .rngf (Z := fun _ h1 => I c.steps.length h1 ∨ J h1) (F := 81) (first := []) (caps := [.ptr 2 0]) rfl (by simpa using s45) (each1_ok c hcs hsl I J (fun k h' ⟨_, _, q1, _, _, q2, _⟩ => ⟨by omega, q2⟩) (fun h' ⟨_, _, q1, _, q2, _⟩ => ⟨by omega, q2⟩) ?_ ?_) ?_ ?_
  · rintro k h' k1 k2 ⟨j1, j2, j3, j4, j5, j6, j7⟩
    have hws := hsw _ (List.getElem_mem k1)
    have hwc := hcw _ (List.getElem_mem k2)
    have hp1 := hws.1.1
    have hp2 := hws.2.1
    have hlz : k < (c.steps.zip c.comps).length := by omega
    have j4' := j4
    rw [encCls] at j4
    have b1 : 0 < h'.bn := by omega
    have hbad : stepMay c.args (c.steps[k], c.comps[k]) = false → Run Try.prog true [.c c38_x10, .beg 0, .c c38_y11] (roundQ 0 fun r1 h1 => r1 = .bool false ∧ h1.lp 0 = some qE ∧ HF h' (h1.setLoop 0 (some q0)) (fun _ => False) (fun _ => False)) (slotsP S [46, 47] [.agg (encStp c.steps[k]), .agg (encStp c.comps[k])]) h' → ∃ r h'', SYld Try.prog 0 [.agg (encStp c.steps[k]), .agg (encStp c.comps[k])] h' (.bool r) h'' ∧ (r = true → I (k + 1) h'') ∧ (r = false → J h'') := fun hn hrun => by
      refine ⟨false, _, SYld.ro (q := q0) (q' := qE) j1 j2 rfl rfl (.bool _) hrun, (fun h => by cases h), fun _ => ⟨by simpa using j1, by simp, by simpa using j3, by simpa using j5, by simpa using j6, ?_⟩⟩
      exact all_take_false hlz (by rw [List.getElem_zip]; exact hn)
    have hgood : stepMay c.args (c.steps[k], c.comps[k]) = true → Run Try.prog true [.c c38_x10, .beg 0, .c c38_y11] (roundQ 0 fun r1 h1 => r1 = .bool true ∧ h1.lp 0 = some q0 ∧ HF h' (h1.setLoop 0 (some q0)) (fun _ => False) (fun _ => False)) (slotsP S [46, 47] [.agg (encStp c.steps[k]), .agg (encStp c.comps[k])]) h' → ∃ r h'', SYld Try.prog 0 [.agg (encStp c.steps[k]), .agg (encStp c.comps[k])] h' (.bool r) h'' ∧ (r = true → I (k + 1) h'') ∧ (r = false → J h'') := fun hn hrun => by
      refine ⟨true, _, SYld.ro (q := q0) (q' := q0) j1 j2 rfl rfl (.bool _) hrun, fun _ => ⟨by simpa using j1, by simp, by simpa using j3, by simpa using j4', by simpa using j5, by simpa using j6, fun i hi hij => ?_⟩, fun h => by cases h⟩
      by_cases h : i = k
      · subst h; rw [List.getElem_zip]; exact hn
      · exact j7 i hi (by omega)
    rw [stepMay_parts] at hbad hgood
    have z0 : ¬ 0 = h'.bn := by omega
    have z1 : ¬ 0 = h'.bn + 1 := by omega
    have z2 : ¬ 1 = h'.bn := by omega
    have z3 : ¬ 1 = h'.bn + 1 := by omega
    have z4 : ¬ h'.bn = 0 := by omega
    have b2 : 1 < h'.bn := by omega
    have c0 : 0 < h'.bn + 1 + 1 := by omega
    have c1 : 1 < h'.bn + 1 + 1 := by omega
    cases hp : progMay c.steps[k].code c.args
    · refine hbad (by simp [hp]) ?_
      simp -implicitDefEqProofs [slotsP, s1, j1, j2, j4, z0, z4, c0, q0, encStp]
      refine callQ_p (progMay_ok c.steps[k].code c.args hp1) (by simp) ?_
      simp -implicitDefEqProofs [slotsP, s2, j1, j5, z2, z4, c1, q0, roundQ, encStp, hp]
      refine ⟨rfl, by simp; omega, fun b hb hn => ?_, by simp, by simp, by simp, fun l hl => ?_, by simp, by simp⟩
      · by_cases h1 : b = 1
        · subst h1; simp [j5]
        · simp [show ¬ b = h'.bn by omega, show ¬ b = h'.bn + 1 by omega, h1]
      · by_cases h0 : l = 0
        · subst h0; simp [j2, q0]
        · simp [h0]
    cases hq : footMay c.steps[k].foot c.args
    · refine hbad (by simp [hp, hq]) ?_
      simp -implicitDefEqProofs [slotsP, s1, j1, j2, j4, z0, z4, c0, q0, encStp]
      refine callQ_p (progMay_ok c.steps[k].code c.args hp1) (by simp) ?_
      simp -implicitDefEqProofs [slotsP, s1, j4, z0, z4, c0, encStp, hp]
      refine callQ_p (footMay_ok c.steps[k].foot c.args hp2) (by simp) ?_
      simp -implicitDefEqProofs [slotsP, s2, j1, j5, z2, z4, c1, q0, roundQ, encStp, hq]
      refine ⟨rfl, by simp; omega, fun b hb hn => ?_, by simp, by simp, by simp, fun l hl => ?_, by simp, by simp⟩
      · by_cases h1 : b = 1
        · subst h1; simp [j5]
        · simp [show ¬ b = h'.bn by omega, show ¬ b = h'.bn + 1 by omega, h1]
      · by_cases h0 : l = 0
        · subst h0; simp [j2, q0]
        · simp [h0]
    cases hr : compMay c.comps[k] c.args
    · refine hbad (by simp [hp, hq, hr]) ?_
      simp -implicitDefEqProofs [slotsP, s1, j1, j2, j4, z0, z4, c0, q0, encStp]
      refine callQ_p (progMay_ok c.steps[k].code c.args hp1) (by simp) ?_
      simp -implicitDefEqProofs [slotsP, s1, j4, z0, z4, c0, encStp, hp]
      refine callQ_p (footMay_ok c.steps[k].foot c.args hp2) (by simp) ?_
      simp -implicitDefEqProofs [slotsP, s1, j4, z0, z4, c0, encStp, hq]
      refine callQ_p (mayComp_ok c.comps[k] c.args hwc) (by simp [encStp]) ?_
      simp -implicitDefEqProofs [slotsP, s2, j1, j5, z2, z4, c1, q0, roundQ, encStp, hr]
      refine ⟨rfl, by simp; omega, fun b hb hn => ?_, by simp, by simp, by simp, fun l hl => ?_, by simp, by simp⟩
      · by_cases h1 : b = 1
        · subst h1; simp [j5]
        · simp [show ¬ b = h'.bn by omega, show ¬ b = h'.bn + 1 by omega, h1]
      · by_cases h0 : l = 0
        · subst h0; simp [j2, q0]
        · simp [h0]
    · refine hgood (by simp [hp, hq, hr]) ?_
      simp -implicitDefEqProofs [slotsP, s1, j1, j2, j4, z0, z4, c0, q0, encStp]
      refine callQ_p (progMay_ok c.steps[k].code c.args hp1) (by simp) ?_
      simp -implicitDefEqProofs [slotsP, s1, j4, z0, z4, c0, encStp, hp]
      refine callQ_p (footMay_ok c.steps[k].foot c.args hp2) (by simp) ?_
      simp -implicitDefEqProofs [slotsP, s1, j4, z0, z4, c0, encStp, hq]
      refine callQ_p (mayComp_ok c.comps[k] c.args hwc) (by simp [encStp]) ?_
      simp -implicitDefEqProofs [slotsP, j1, q0, roundQ, encStp, hr]
      refine ⟨by simp; omega, fun b hb hn => ?_, by simp, by simp, by simp, fun l hl => ?_, by simp, by simp⟩
      · by_cases h1 : b = 1
        · subst h1; simp [j5, z2, z4]
        · simp [show ¬ b = h'.bn by omega, show ¬ b = h'.bn + 1 by omega]
      · by_cases h0 : l = 0
        · subst h0; simp [j2, q0]
        · simp [h0]
  · exact ⟨by simp, by simp [q0], by simp, by simp [encCls], by simp, by simp [encCls], fun i hi hij => absurd hij (by omega)⟩
  · rintro v h2 (⟨j1, j2, _⟩ | ⟨j1, j2, _⟩)
    · exact ⟨j1, _, j2, by simp [q0]⟩
    · exact ⟨j1, _, j2, by simp [qE]⟩
  · rintro v h2 q (⟨j1, j2, j3, j4, j5, j6, j7⟩ | ⟨j1, j2, j3, j5, j6, j7⟩) hq
    · have hw := all_whole (p := stepMay c.args) (l := c.steps.zip c.comps) (j := c.steps.length) (by omega) j7
      replace hq : h2.lp 0 = some q := hq
      rw [j2] at hq
      cases hq
      simp -implicitDefEqProofs [pendK, q0, s2, j5, show 1 < h2.bn by omega, hm, hw]
    · replace hq : h2.lp 0 = some q := hq
      rw [j2] at hq
      cases hq
      simp -implicitDefEqProofs [pendK, qE, s2, j5, show 1 < h2.bn by omega, hm, j7]
end Go.Proofs
