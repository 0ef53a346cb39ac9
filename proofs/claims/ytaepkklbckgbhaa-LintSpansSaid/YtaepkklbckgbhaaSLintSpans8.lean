/- What the functions that the statement reaches do: their contracts; and what follows of it. -/
import Derived.Test.YtaepkklbckgbhaaSLintSpans7
import Derived.Test.YtaepkklbckgbhaaK4
import Derived.Test.YtaepkklbckgbhaaSLintSpans6
/- Which programs, footprints, classes and catalogues there may be: the document's answer. -/
namespace Go.Proofs
open Go Go.RowKit Go.Am

theorem elOK_Inst : ElOK encInst 9 true := ⟨fun _ => rfl, (fun h => by cases h), pure_encInst, wk_encInst⟩
theorem elOK_SpanT : ElOK encSpanT 5 true := ⟨fun _ => rfl, (fun h => by cases h), pure_encSpanT, wk_encSpanT⟩
theorem elOK_Stp : ElOK encStp 2 true := ⟨fun _ => rfl, (fun h => by cases h), pure_encStp, wk_encStp⟩
theorem elOK_Cls : ElOK encCls 5 true := ⟨fun _ => rfl, (fun h => by cases h), pure_encCls, wk_encCls⟩
theorem elOK_Spn : ElOK encSpn 2 true := ⟨fun _ => rfl, (fun h => by cases h), pure_encSpn, wk_encSpn⟩
theorem elOK_Nod : ElOK encNod 6 true := ⟨fun _ => rfl, (fun h => by cases h), pure_encNod, wk_encNod⟩
theorem elOK_Chg : ElOK encChg 3 true := ⟨fun _ => rfl, (fun h => by cases h), pure_encChg, wk_encChg⟩
theorem elOK_KeyT : ElOK encKeyT 2 true := ⟨fun _ => rfl, (fun h => by cases h), pure_encKeyT, wk_encKeyT⟩

def progMay (l : List Inst) (args : Int) : Bool := !decide (args < 0) && !decide (3 < args) && !decide (l.length < 1) && !decide (8 < l.length) && l.all fun x => oneInst x args
def footMay (l : List SpanT) (args : Int) : Bool := !decide (args < 0) && !decide (3 < args) && !decide (4 < l.length) && l.all fun s => mayKey s.lo args && mayKey s.hi args

theorem all_take_false {α : Type} {p : α → Bool} {l : List α} {j : Nat} (hj : j < l.length) (h : p l[j] = false) : l.all p = false := by
  rw [List.all_eq_false]
  exact ⟨l[j], List.getElem_mem hj, by simp [h]⟩
theorem all_whole {α : Type} {p : α → Bool} {l : List α} {j : Nat} (hj : l.length ≤ j) (h : ∀ i (hi : i < l.length), i < j → p l[i] = true) : l.all p = true := by
  rw [List.all_eq_true]
  intro x hx
  obtain ⟨i, hi, rfl⟩ := List.mem_iff_getElem.1 hx
  exact h i hi (by omega)

theorem refFootMay_ok (l : List SpanT) (args : Int) (hl : l.length ≤ 9223372036854775807) : PCall Try.prog 32 [.sl .no (l.map encSpanT), .int .i64 args] (.bool (footMay l args)) := by
  refine PCall.run hb32 ok32 (by simp) (pures_cons (elOK_SpanT.pureL l) (pures1 (.int _ _))) (.bool _) ?_
  by_cases bad : (args < 0 ∨ 3 < args) ∨ (4 : Int) < (l.length : Int)
  · have hf : footMay l args = false := by
      simp only [footMay, Bool.and_eq_false_iff, Bool.not_eq_false', decide_eq_true_eq]
      omega
    simp (maxSteps := 2000000) +contextual -implicitDefEqProofs [↓gdL_F, ↓condQ_b, -Int.not_lt, -Int.not_le, -Nat.not_lt, -Nat.not_le, hf]
    all_goals (intros; omega)
  · have hm : footMay l args = l.all fun s => mayKey s.lo args && mayKey s.hi args := by
      simp only [footMay, show ¬ args < 0 by omega, show ¬ 3 < args by omega, show ¬ 4 < l.length by omega]
      simp
    simp (maxSteps := 2000000) +contextual -implicitDefEqProofs [↓gdL_F, ↓condQ_b, -Int.not_lt, -Int.not_le, -Nat.not_lt, -Nat.not_le, show ¬ args < 0 by omega, show ¬ 3 < args by omega, show ¬ (4 : Int) < (l.length : Int) by omega, hm]
    refine run_loop (fun n s h => ∃ j : Nat, n = l.length - j ∧ j ≤ l.length ∧ s 0 = .sl .no (l.map encSpanT) ∧ s 1 = .int .i64 args ∧ s 5 = .int .i64 j ∧ ∀ i (hi : i < l.length), i < j → (mayKey l[i].lo args && mayKey l[i].hi args) = true) ?_ l.length ?_
    · rintro n s h ⟨j, hn, hj, h0, h1, h5, hall⟩ ih
      by_cases hlt : j < l.length
      · simp -implicitDefEqProofs [h0, h1, h5, hlt, encSpanT]
        refine callQ_p (refMayKey_ok l[j].lo args) (by simp [encKeyT]) ?_
        cases hp : mayKey l[j].lo args
        · simp -implicitDefEqProofs [all_take_false (p := fun s => mayKey s.lo args && mayKey s.hi args) hlt (by simp [hp])]
        · simp -implicitDefEqProofs [h0, h1, h5, hlt, encSpanT]
          refine callQ_p (refMayKey_ok l[j].hi args) (by simp [encKeyT]) ?_
          cases hq : mayKey l[j].hi args
          · simp -implicitDefEqProofs [all_take_false (p := fun s => mayKey s.lo args && mayKey s.hi args) hlt (by simp [hp, hq])]
          · simp -implicitDefEqProofs [h5, inc_i64 hlt hl, -Int.natCast_add]
            exact ih (l.length - (j + 1)) _ _ (by omega) ⟨j + 1, rfl, by omega, by simp [h0], by simp [h1], by simp, fun i hi hij => by
              by_cases h : i = j
              · subst h; simp [hp, hq]
              · exact hall i hi (by omega)⟩
      · have hw := all_whole (p := fun s : SpanT => mayKey s.lo args && mayKey s.hi args) (by omega) hall
        simp -implicitDefEqProofs [h0, h5, hlt, hw]
    · exact ⟨0, by simp⟩
end Go.Proofs

/- Which programs there may be: the program's answer. -/
namespace Go.Proofs
open Go Go.RowKit Go.Am

theorem mayKey_ok (k : KeyT) (args : Int) : PCall Try.prog 83 [.agg (encKeyT k), .int .i64 args] (.bool (mayKey k args)) := by
  refine PCall.run hb83 ok83 (by simp) (pures_cons (pureKey k) (pures1 (.int _ _))) (.bool _) ?_
  simp (maxSteps := 2000000) +contextual -implicitDefEqProofs [↓gdL_T, ↓gdL_F, ↓condQ_b, -Int.not_lt, -Int.not_le, -Nat.not_lt, -Nat.not_le, encKeyT, mayKey]

theorem register_ok (n : Int) : PCall Try.prog 88 [.int .i64 n] (.bool (isReg n)) := by
  refine PCall.run hb88 ok88 (by simp) (pures1 (.int _ _)) (.bool _) ?_
  by_cases h : 0 ≤ n
  · simp -implicitDefEqProofs [isReg, h]
    rw [Bool.eq_iff_iff]; simp; omega
  · simp -implicitDefEqProofs [isReg, h]

def keysI (x : Inst) : List KeyT := if x.op = 1 ∨ x.op = 2 ∨ x.op = 3 then [x.k] else if x.op = 4 then [x.k, x.l] else []
theorem keys_ok (x : Inst) : PCall Try.prog 90 [.agg (encInst x)] (.sl .no ((keysI x).map encKeyT)) := by
  refine PCall.run hb90 ok90 (by simp) (pures1 (pureInst x)) (pure_sl pure_encKeyT _) ?_
  by_cases h1 : x.op = 1
  · simp -implicitDefEqProofs [encInst, h1, keysI, encKeyT]
  by_cases h2 : x.op = 2
  · simp -implicitDefEqProofs [encInst, h2, keysI, encKeyT]
  by_cases h3 : x.op = 3
  · simp -implicitDefEqProofs [encInst, h3, keysI, encKeyT]
  by_cases h4 : x.op = 4
  · simp -implicitDefEqProofs [encInst, h4, keysI, encKeyT]
  simp -implicitDefEqProofs [encInst, h1, h2, h3, h4, keysI]

def zeroK : KeyT := ⟨0, 0⟩
def onlyI (x : Inst) : Inst × Bool :=
  if x.op = 1 ∨ x.op = 2 then (⟨x.op, x.a, 0, 0, x.k, zeroK, 0⟩, true)
  else if x.op = 3 then (⟨x.op, 0, 0, 0, x.k, zeroK, 0⟩, true)
  else if x.op = 4 then (⟨x.op, x.a, 0, 0, x.k, x.l, 0⟩, true)
  else if x.op = 5 ∨ x.op = 8 then (⟨x.op, x.a, 0, 0, zeroK, zeroK, x.x⟩, true)
  else if x.op = 6 ∨ x.op = 7 then (⟨x.op, x.a, x.b, x.c, zeroK, zeroK, 0⟩, true)
  else (⟨x.op, x.a, 0, 0, zeroK, zeroK, 0⟩, false)

theorem only_ok (x : Inst) : PCall Try.prog 86 [.agg (encInst x)] (.tup [.agg (encInst (onlyI x).1), .bool (onlyI x).2]) := by
  refine PCall.run hb86 ok86 (by simp) (pures1 (pureInst x)) (.tup (pures_cons (pureInst _) (pures1 (.bool _)))) ?_
  by_cases h1 : x.op = 1
  · simp -implicitDefEqProofs [encInst, h1, onlyI, H.nil, zeroK]
  by_cases h2 : x.op = 2
  · simp -implicitDefEqProofs [encInst, h2, onlyI, H.nil, zeroK]
  by_cases h3 : x.op = 3
  · simp -implicitDefEqProofs [encInst, h3, H.nil]
    refine run_dreg c86_d8 ?_
    simp -implicitDefEqProofs [onlyI, zeroK, h3]
  by_cases h4 : x.op = 4
  · simp -implicitDefEqProofs [encInst, h4, H.nil]
    refine run_dreg c86_d10 ?_
    simp -implicitDefEqProofs [onlyI, h4]
  by_cases h5 : x.op = 5
  · simp -implicitDefEqProofs [encInst, h5, onlyI, H.nil, zeroK]
  by_cases h8 : x.op = 8
  · simp -implicitDefEqProofs [encInst, h8, onlyI, H.nil, zeroK]
  by_cases h6 : x.op = 6
  · simp -implicitDefEqProofs [encInst, h6, H.nil]
    refine run_dreg c86_d16 ?_
    simp -implicitDefEqProofs [onlyI, zeroK, h6]
  by_cases h7 : x.op = 7
  · simp -implicitDefEqProofs [encInst, h7, H.nil]
    refine run_dreg c86_d16 ?_
    simp -implicitDefEqProofs [onlyI, zeroK, h7]
  simp -implicitDefEqProofs [encInst, h1, h2, h3, h4, h5, h6, h7, h8, onlyI, H.nil, zeroK]
end Go.Proofs

/- Which programs there may be: the program's answer, joined. -/
namespace Go.Proofs
open Go Go.RowKit Go.Am

def mayI (x : Inst) (args : Int) : Bool := (onlyI x).2 && decide (x = (onlyI x).1) && isReg x.a && isReg x.b && isReg x.c && !(keysI x).any fun k => !mayKey k args

theorem may1_ok (k : KeyT) (args : Int) {h : H} {b : Nat} (hb : b < h.bn) (hbx : h.bx b = some [.int .i64 args]) : SCall Try.prog 87 [.agg (encKeyT k), .ptr b 0] h (.bool (!mayKey k args)) h := by
  refine SCall.ro (CallP.run hb87 ok87 (by simp) ?_) (.bool _)
  simp -implicitDefEqProofs [hbx, encKeyT, show ¬ b = h.bn by omega, show b < h.bn + 1 by omega]
  refine callQ_p (mayKey_ok k args) (by simp [encKeyT]) ?_
  simp -implicitDefEqProofs []
  exact HF.alloc _ _ _ _

theorem eqInst_f {x y : Inst} (h : x ≠ y) : (decide (x.op = y.op) && (decide (x.a = y.a) && (decide (x.b = y.b) && (decide (x.c = y.c) && (decide (x.k.arg = y.k.arg) && (decide (x.k.base = y.k.base) && (decide (x.l.arg = y.l.arg) && (decide (x.l.base = y.l.base) && decide (x.x = y.x))))))))) = false := by
  rw [Bool.eq_false_iff]
  intro hc
  apply h
  simp only [Bool.and_eq_true, decide_eq_true_eq] at hc
  rcases x with ⟨a, b, c, d, ⟨e, f⟩, ⟨g, i⟩, j⟩
  rcases y with ⟨a', b', c', d', ⟨e', f'⟩, ⟨g', i'⟩, j'⟩
  simp_all

theorem may_ok (x : Inst) (args : Int) : PCall Try.prog 75 [.agg (encInst x), .int .i64 args] (.bool (mayI x args)) := by
  refine PCall.run hb75 ok75 (by simp) (pures_cons (pureInst x) (pures1 (.int _ _))) (.bool _) ?_
  simp -implicitDefEqProofs [encInst, H.nil]
  refine callQ_p (only_ok x) (by simp [encInst]) ?_
  cases e : (onlyI x).2
  · simp -implicitDefEqProofs [encInst, mayI, e]
  simp -implicitDefEqProofs [encInst]
  by_cases hq : x = (onlyI x).1
  rotate_left
  · have hch := eqInst_f hq
    rw [hch]
    simp -implicitDefEqProofs [mayI, hq]
  have hq' : (onlyI x).1 = x := hq.symm
  simp -implicitDefEqProofs [hq']
  refine callQ_p (register_ok x.a) (by simp) ?_
  cases ra : isReg x.a
  · simp -implicitDefEqProofs [mayI, ra, hq']
  simp -implicitDefEqProofs [hq']
  refine callQ_p (register_ok x.b) (by simp) ?_
  cases rb : isReg x.b
  · simp -implicitDefEqProofs [mayI, rb, hq']
  simp -implicitDefEqProofs [hq']
  refine callQ_p (register_ok x.c) (by simp) ?_
  cases rc : isReg x.c
  · simp -implicitDefEqProofs [mayI, rc, hq']
  simp -implicitDefEqProofs [hq']
  refine callQ_p (keys_ok x) (by simp [encInst]) ?_
  simp -implicitDefEqProofs [hq']
  refine callQ_s (contains_gen hb89 ok89 hb102 ok102 elOK_KeyT (keysI x) (by unfold keysI; split; simp; split <;> simp) (first := []) (caps := [.ptr 1 0]) (p := fun k => !mayKey k args) rfl (by simp) (fun k _ => may1_ok k args (by simp) (by simp))) (by simp) ?_
  simp -implicitDefEqProofs [mayI, e, hq', ra, rb, rc]
end Go.Proofs

/- Which programs and footprints there may be: the program's answer is the document's. -/
namespace Go.Proofs
open Go Go.RowKit Go.Am

theorem isReg_iff (n : Int) : isReg n = true ↔ 0 ≤ n ∧ n ≤ 3 := by simp [isReg]
theorem mayI_one (x : Inst) (args : Int) : mayI x args = oneInst x args := by
  rcases x with ⟨op, a, b, c, ⟨ka, kb⟩, ⟨la, lb⟩, y⟩
  have z0 : isReg 0 = true := by decide
  by_cases h1 : op = 1 ∨ op = 2
  · have h2 : op = 1 ∨ op = 2 ∨ op = 3 := by omega
    simp only [mayI, oneInst, onlyI, keysI, if_pos h1, if_pos h2, zeroK, keyNone]
    rw [Bool.eq_iff_iff]
    simp
    intro hk
    constructor
    · rintro ⟨⟨⟨⟨rfl, rfl, ⟨rfl, rfl⟩, rfl⟩, ha⟩, hb⟩, hc⟩
      simp [ha]
    · rintro ⟨⟨⟨⟨ha, rfl⟩, rfl⟩, rfl⟩, rfl, rfl⟩
      simp [ha, z0]
  by_cases h3 : op = 3
  · have h2 : op = 1 ∨ op = 2 ∨ op = 3 := by omega
    simp only [mayI, oneInst, onlyI, keysI, if_neg h1, if_pos h3, if_pos h2, zeroK, keyNone]
    rw [Bool.eq_iff_iff]
    simp
    intro hk
    constructor
    · rintro ⟨⟨⟨⟨rfl, rfl, rfl, ⟨rfl, rfl⟩, rfl⟩, ha⟩, hb⟩, hc⟩
      simp
    · rintro ⟨⟨⟨⟨rfl, rfl⟩, rfl⟩, rfl⟩, rfl, rfl⟩
      simp [z0]
  have h2 : ¬ (op = 1 ∨ op = 2 ∨ op = 3) := by omega
  by_cases h4 : op = 4
  · simp only [mayI, oneInst, onlyI, keysI, if_neg h1, if_neg h3, if_pos h4, if_neg h2, zeroK, keyNone]
    rw [Bool.eq_iff_iff]
    simp
    constructor
    · rintro ⟨⟨⟨⟨⟨rfl, rfl, rfl⟩, ha⟩, hb⟩, hc⟩, hk, hl⟩
      simp [ha, hk, hl]
    · rintro ⟨⟨⟨⟨⟨ha, rfl⟩, rfl⟩, rfl⟩, hk⟩, hl⟩
      simp [ha, hk, hl, z0]
  by_cases h5 : op = 5 ∨ op = 8
  · simp only [mayI, oneInst, onlyI, keysI, if_neg h1, if_neg h3, if_neg h4, if_neg h2, if_pos h5, zeroK, keyNone]
    rw [Bool.eq_iff_iff]
    simp
    constructor
    · rintro ⟨⟨⟨⟨rfl, rfl, ⟨rfl, rfl⟩, ⟨rfl, rfl⟩⟩, ha⟩, hb⟩, hc⟩
      simp [ha]
    · rintro ⟨⟨⟨⟨ha, rfl⟩, rfl⟩, rfl, rfl⟩, rfl, rfl⟩
      simp [ha, z0]
  by_cases h6 : op = 6 ∨ op = 7
  · simp only [mayI, oneInst, onlyI, keysI, if_neg h1, if_neg h3, if_neg h4, if_neg h2, if_neg h5, if_pos h6, zeroK, keyNone]
    rw [Bool.eq_iff_iff]
    simp
    constructor
    · rintro ⟨⟨⟨⟨⟨rfl, rfl⟩, ⟨rfl, rfl⟩, rfl⟩, ha⟩, hb⟩, hc⟩
      simp [ha, hb, hc]
    · rintro ⟨⟨⟨⟨⟨ha, rfl⟩, hb⟩, hc⟩, rfl, rfl⟩, rfl, rfl⟩
      simp [ha, hb, hc]
  simp only [mayI, oneInst, onlyI, keysI, if_neg h1, if_neg h3, if_neg h4, if_neg h2, if_neg h5, if_neg h6]
  simp

theorem May1_ok (x : Inst) (args : Int) {h : H} {b : Nat} (hb : b < h.bn) (hbx : h.bx b = some [.int .i64 args]) : SCall Try.prog 74 [.agg (encInst x), .ptr b 0] h (.bool (!oneInst x args)) h := by
  refine SCall.ro (CallP.run hb74 ok74 (by simp) ?_) (.bool _)
  simp -implicitDefEqProofs [hbx, encInst, show ¬ b = h.bn by omega, show b < h.bn + 1 by omega]
  refine callQ_p (may_ok x args) (by simp [encInst]) ?_
  simp -implicitDefEqProofs [mayI_one]
  exact HF.alloc _ _ _ _

theorem any_not {α : Type} (l : List α) (p : α → Bool) : (!l.any fun x => !p x) = l.all p := by
  rw [Bool.eq_iff_iff]; simp

theorem progMay_ok (l : List Inst) (args : Int) (hl : l.length ≤ 9223372036854775807) : PCall Try.prog 56 [.sl .no (l.map encInst), .int .i64 args] (.bool (progMay l args)) := by
  refine PCall.run hb56 ok56 (by simp) (pures_cons (elOK_Inst.pureL l) (pures1 (.int _ _))) (.bool _) ?_
  by_cases bad : ((args < 0 ∨ 3 < args) ∨ (l.length : Int) < 1) ∨ (8 : Int) < (l.length : Int)
  · have hf : progMay l args = false := by
      simp only [progMay, Bool.and_eq_false_iff, Bool.not_eq_false', decide_eq_true_eq]
      omega
    simp (maxSteps := 2000000) +contextual -implicitDefEqProofs [↓gdL_T, ↓gdL_F, ↓condQ_b, -Int.not_lt, -Int.not_le, -Nat.not_lt, -Nat.not_le, hf, H.nil]
    all_goals (intros; omega)
  · have hm : progMay l args = l.all fun x => oneInst x args := by
      simp only [progMay, show ¬ args < 0 by omega, show ¬ 3 < args by omega, show ¬ l.length < 1 by omega, show ¬ 8 < l.length by omega]
      simp
    simp -implicitDefEqProofs [H.nil, show ¬ args < 0 by omega, show ¬ 3 < args by omega, show ¬ (l.length : Int) < 1 by omega, show ¬ (8 : Int) < (l.length : Int) by omega, hm]
    refine callQ_s (contains_gen hb73 ok73 hb85 ok85 elOK_Inst l hl (first := []) (caps := [.ptr 0 0]) (p := fun x => !oneInst x args) rfl (by simp) (fun x _ => May1_ok x args (by simp) (by simp))) (by simp) ?_
    simp -implicitDefEqProofs [any_not]

def sureI (x : Inst) : Bool := !(decide (x.op = 6) || decide (x.op = 7) || decide (x.op = 8))
theorem reads_ok (k : KeyT) : PCall Try.prog 57 [.agg (encKeyT k)] (.sl .no ([(⟨1, 0, 0, 0, k, zeroK, 0⟩ : Inst)].map encInst)) := by
  refine PCall.run hb57 ok57 (by simp) (pures1 (pureKey k)) (elOK_Inst.pureL _) ?_
  simp -implicitDefEqProofs [encKeyT, encInst, zeroK, H.nil]
theorem progMay_reads (k : KeyT) {args : Int} (h0 : 0 ≤ args) (h3 : args ≤ 3) : progMay [(⟨1, 0, 0, 0, k, zeroK, 0⟩ : Inst)] args = mayKey k args := by
  have z0 : isReg 0 = true := by decide
  simp [progMay, oneInst, z0, zeroK, keyNone]
  intro; omega
end Go.Proofs

/- Which classes and catalogues there may be: the document's answer. -/
namespace Go.Proofs
open Go Go.RowKit Go.Am

def backMay (c : Stp) (args : Int) : Bool := (!decide (0 < c.code.length) || progMay c.code args) && c.code.all fun x => decide (x.op < 6)
def stepMay (args : Int) (p : Stp × Stp) : Bool := progMay p.1.code args && footMay p.1.foot args && footMay p.2.foot args && backMay p.2 args
def clsMay (x : Cls) : Bool :=
  !decide (x.name.size < 1) && !decide (16 < x.name.size) && !decide (x.args < 0) && !decide (3 < x.args) && !decide (x.steps.length < 1) && !decide (4 < x.steps.length) && decide (x.comps.length = x.steps.length) &&
    (x.steps.zip x.comps).all (stepMay x.args)

end Go.Proofs

/- Which catalogues there may be: the document's answer. -/
namespace Go.Proofs
open Go Go.RowKit Go.Am

def Ctlg.nameAt (x : Ctlg) (i : Nat) : ByteArray := (x.classes[i]?.map (·.name)).getD ByteArray.empty
def Ctlg.stepsN (x : Ctlg) (i : Nat) : Nat := (x.classes[i]?.map (·.steps.length)).getD 0
def Ctlg.brk (x : Ctlg) (c d : Nat) : Int := (x.breaks[4 * c + d]?).getD 0
def Ctlg.mostB (x : Ctlg) (c d : Nat) : Int := if c < x.classes.length ∧ d < x.classes.length then 2 ^ (x.stepsN c - 1) else 1
def Ctlg.brkOK (x : Ctlg) (c d : Nat) : Bool := !decide (x.brk c d < 0) && !decide (x.mostB c d ≤ x.brk c d)
def Ctlg.namesOK (x : Ctlg) (i : Nat) : Bool := (List.range i).all fun j => !decide (x.nameAt j = x.nameAt i)
def Ctlg.clsOK (x : Ctlg) (i : Nat) : Bool := (x.classes[i]?.map clsMay).getD false
def catMay (x : Ctlg) : Bool :=
  !decide (x.classes.length < 1) && !decide (4 < x.classes.length) && ((List.range x.classes.length).all fun i => x.clsOK i && x.namesOK i) && (List.range 4).all fun c => (List.range 4).all (x.brkOK c)

theorem allR_false {p : Nat → Bool} {n j : Nat} (hj : j < n) (h : p j = false) : (List.range n).all p = false := by
  rw [List.all_eq_false]
  exact ⟨j, List.mem_range.2 hj, by simp [h]⟩
theorem allR_true {p : Nat → Bool} {n j : Nat} (hj : n ≤ j) (h : ∀ i, i < j → p i = true) : (List.range n).all p = true := by
  rw [List.all_eq_true]
  intro x hx
  exact h x (by have := List.mem_range.1 hx; omega)
@[simp] theorem take_encCls (y : Cls) : List.take 5 (encCls y) = encCls y := rfl
theorem Ctlg.brk_of {x : Ctlg} {c d : Nat} (hb : x.breaks.length = 16) (hc : c < 4) (hd : d < 4) : x.brk c d = x.breaks[4 * c + d] := by simp [brk, show 4 * c + d < x.breaks.length by omega]
theorem Ctlg.brk_load {x : Ctlg} (v : AV) {c d : Nat} (hb : x.breaks.length = 16) (hc : c < 4) (hd : d < 4) : List.take 1 (List.drop (1 + c * 4 + d) (v :: x.breaks.map (AV.int .i64))) = [.int .i64 (x.brk c d)] := by
  rw [show 1 + c * 4 + d = (4 * c + d) + 1 by omega, List.drop_succ_cons, brk_of hb hc hd, List.drop_eq_getElem_cons (by simp; omega)]
  simp
theorem Ctlg.nameAt_of {x : Ctlg} {i : Nat} (h : i < x.classes.length) : x.nameAt i = x.classes[i].name := by simp [nameAt, h]
theorem Ctlg.stepsN_of {x : Ctlg} {i : Nat} (h : i < x.classes.length) : x.stepsN i = x.classes[i].steps.length := by simp [stepsN, h]
theorem Ctlg.clsOK_of {x : Ctlg} {i : Nat} (h : i < x.classes.length) : x.clsOK i = clsMay x.classes[i] := by simp [clsOK, h]

end Go.Proofs

/- Which footprints there may be: the program's answer; what may compensate. -/
namespace Go.Proofs
open Go Go.RowKit Go.Am

theorem footMay1_ok (x : SpanT) {args : Int} (a0 : 0 ≤ args) (a3 : args ≤ 3) {h : H} {b : Nat} (hb : b < h.bn) (hbx : h.bx b = some [.int .i64 args]) : SCall Try.prog 55 [.agg (encSpanT x), .ptr b 0] h (.bool (!(mayKey x.lo args && mayKey x.hi args))) h := by
  refine SCall.ro (CallP.run hb55 ok55 (by simp) ?_) (.bool _)
  simp -implicitDefEqProofs [encSpanT]
  refine run_dregL c55_d2 rfl ?_
  simp -implicitDefEqProofs []
  refine callC_p (reads_ok x.lo) (by simp [encKeyT]) ?_
  simp -implicitDefEqProofs [hbx, show ¬ b = h.bn by omega, show b < h.bn + 1 by omega]
  refine callC_p (progMay_ok [(⟨1, 0, 0, 0, x.lo, zeroK, 0⟩ : Inst)] args (by simp)) (by simp [encInst]) ?_
  rw [progMay_reads x.lo a0 a3]
  cases e : mayKey x.lo args
  · simp -implicitDefEqProofs []
    exact HF.alloc _ _ _ _
  simp -implicitDefEqProofs []
  refine callC_p (reads_ok x.hi) (by simp [encKeyT]) ?_
  simp -implicitDefEqProofs [hbx, show ¬ b = h.bn by omega, show b < h.bn + 1 by omega]
  refine callC_p (progMay_ok [(⟨1, 0, 0, 0, x.hi, zeroK, 0⟩ : Inst)] args (by simp)) (by simp [encInst]) ?_
  rw [progMay_reads x.hi a0 a3]
  simp -implicitDefEqProofs []
  exact HF.alloc _ _ _ _

theorem footMay_ok (l : List SpanT) (args : Int) (hl : l.length ≤ 9223372036854775807) : PCall Try.prog 36 [.sl .no (l.map encSpanT), .int .i64 args] (.bool (footMay l args)) := by
  refine PCall.run hb36 ok36 (by simp) (pures_cons (elOK_SpanT.pureL l) (pures1 (.int _ _))) (.bool _) ?_
  by_cases a0 : 0 ≤ args
  rotate_left
  · simp -implicitDefEqProofs [H.nil, a0, footMay, show args < 0 by omega]
  by_cases a3 : args ≤ 3
  rotate_left
  · simp -implicitDefEqProofs [H.nil, a0, a3, footMay, show 3 < args by omega]
  by_cases a4 : (l.length : Int) ≤ 4
  rotate_left
  · simp -implicitDefEqProofs [H.nil, a0, a3, a4, footMay, show 4 < l.length by omega]
  have hm : footMay l args = l.all fun s => mayKey s.lo args && mayKey s.hi args := by
    simp only [footMay, show ¬ args < 0 by omega, show ¬ 3 < args by omega, show ¬ 4 < l.length by omega]
    simp
  simp -implicitDefEqProofs [H.nil, a0, a3, a4]
  refine callQ_s (contains_gen hb58 ok58 hb76 ok76 elOK_SpanT l hl (first := []) (caps := [.ptr 0 0]) (p := fun x => !(mayKey x.lo args && mayKey x.hi args)) rfl (by simp) (fun x _ => footMay1_ok x a0 a3 (by simp) (by simp))) (by simp) ?_
  have ha := any_not l fun x : SpanT => mayKey x.lo args && mayKey x.hi args
  rw [hm]
  simp -implicitDefEqProofs []
  rw [← ha, Bool.not_not]
  congr 1
  funext x
  simp

def compMay (c : Stp) (args : Int) : Bool := (decide (c.code.length = 0) || (progMay c.code args && c.code.all sureI)) && footMay c.foot args
theorem one_ops {x : Inst} {args : Int} (h : oneInst x args = true) : decide (x.op < 6) = sureI x := by
  have : 1 ≤ x.op ∧ x.op ≤ 8 := by
    by_cases hq : 1 ≤ x.op ∧ x.op ≤ 8
    · exact hq
    · simp only [oneInst] at h
      rw [if_neg (by omega), if_neg (by omega), if_neg (by omega), if_neg (by omega), if_neg (by omega)] at h
      cases h
  rw [Bool.eq_iff_iff]
  simp [sureI]
  omega
theorem comp_back (c : Stp) (args : Int) : compMay c args = (footMay c.foot args && backMay c args) := by
  rw [compMay, backMay, Bool.and_comm]
  congr 1
  by_cases h0 : c.code.length = 0
  · have : c.code = [] := List.length_eq_zero_iff.1 h0
    simp [this]
  · have h1 : 0 < c.code.length := by omega
    simp only [h0, h1, decide_false, decide_true, Bool.false_or, Bool.not_true]
    cases hp : progMay c.code args
    · rfl
    · simp only [Bool.true_and]
      simp only [progMay, Bool.and_eq_true] at hp
      have ho := hp.2
      rw [List.all_eq_true] at ho
      rw [Bool.eq_iff_iff, List.all_eq_true, List.all_eq_true]
      constructor
      · intro h x hx; rw [one_ops (ho x hx)]; exact h x hx
      · intro h x hx; rw [← one_ops (ho x hx)]; exact h x hx
end Go.Proofs

/- The keys that a span may have. -/
namespace Go.Proofs
open Go Go.RowKit Go.Am

def mostV (k : KeyT) : Int := if k.arg < 0 then k.base else k.base + 99
def oneF (s : SpanT) (n : Int) : Bool := footMay [s] n
theorem oneF_keys {s : SpanT} {n : Int} (h : footMay [s] n = true) : mayKey s.lo n = true ∧ mayKey s.hi n = true := by
  simp only [footMay, Bool.and_eq_true, List.all_eq_true] at h
  have := h.2 s (by simp)
  exact this
theorem mayKey_iff2 {k : KeyT} {n : Int} : mayKey k n = true ↔ -1 ≤ k.arg ∧ k.arg < n ∧ 0 ≤ k.base ∧ k.base ≤ 900 := by
  simp only [mayKey, Bool.and_eq_true, decide_eq_true_eq, and_assoc]
/-- What the program says. -/
def spanL (s : SpanT) (n : Int) : List Sp := if footMay [s] n = true then (if s.lo.arg = s.hi.arg ∧ s.hi.base < s.lo.base then [] else plainL [(s.lo.base, mostV s.hi)]) else []

theorem most_ok (k : KeyT) (hk : 0 ≤ k.base ∧ k.base ≤ 900) : PCall Try.prog 49 [.agg (encKeyT k)] (.int .i64 (mostV k)) := by
  refine PCall.run hb49 ok49 (by simp) (pures1 (.agg (pure_encKeyT k))) (.int _ _) ?_
  have w : IntKind.i64.wrap (k.base + 99) = k.base + 99 := wrap_i64 (by omega) (by omega)
  by_cases h : k.arg < 0
  · simp -implicitDefEqProofs [encKeyT, H.nil, mostV, h]
  · simp -implicitDefEqProofs [encKeyT, H.nil, mostV, h, w]

theorem lintSpan_ok (s : SpanT) (n : Int) : PCall Try.prog 31 [.agg (encSpanT s), .int .i64 n] (encL (spanL s n)) := by
  refine PCall.run hb31 ok31 (by simp) (pures2 (.agg (pure_encSpanT s)) (.int _ _)) (pure_encL _) ?_
  simp -implicitDefEqProofs [encSpanT, H.nil]
  refine callQ_p (footMay_ok [s] n (by simp)) (by simp [encSpanT]) ?_
  cases hm : footMay [s] n
  · simp -implicitDefEqProofs [spanL, hm, encL]
  · obtain ⟨k1, k2⟩ := oneF_keys hm
    have b1 := mayKey_iff2.1 k1
    have b2 := mayKey_iff2.1 k2
    by_cases ha : s.lo.arg = s.hi.arg
    · by_cases hb : s.hi.base < s.lo.base
      · simp -implicitDefEqProofs [spanL, hm, ha, hb, encL]
      · simp -implicitDefEqProofs [ha, hb]
        refine run_dreg c31_d6 ?_
        simp -implicitDefEqProofs []
        refine lcallQ_p (most_ok s.hi ⟨by omega, by omega⟩) (by simp [encKeyT]) ?_
        simp -implicitDefEqProofs []
        refine lcallQ_p (keysPlain_ok [(s.lo.base, mostV s.hi)] (by simp)) (by simp [encL, avP]) ?_
        simp -implicitDefEqProofs [spanL, hm, ha, hb, wk_encL]
    · simp -implicitDefEqProofs [ha]
      refine run_dreg c31_d6 ?_
      simp -implicitDefEqProofs []
      refine lcallQ_p (most_ok s.hi ⟨by omega, by omega⟩) (by simp [encKeyT]) ?_
      simp -implicitDefEqProofs []
      refine lcallQ_p (keysPlain_ok [(s.lo.base, mostV s.hi)] (by simp)) (by simp [encL, avP]) ?_
      simp -implicitDefEqProofs [spanL, hm, ha, wk_encL]

/-! ### The document's -/
def loE (s : SpanT) (a : Int) : Int := if 0 ≤ s.lo.arg then s.lo.base + a else s.lo.base
def hiE (s : SpanT) (a b : Int) : Int := if 0 ≤ s.hi.arg then (if s.hi.arg = s.lo.arg then s.hi.base + a else s.hi.base + b) else s.hi.base
def inR (s : SpanT) (a b : Int) (k : Nat) : Bool := decide (loE s a ≤ k) && decide ((k : Int) ≤ hiE s a b)
def accF (s : SpanT) (a bi : Nat) (k : Nat) : Bool := (List.range a).any (fun x => inR s x 0 k || inR s x 99 k) || (decide (1 ≤ bi) && inR s a 0 k) || (decide (2 ≤ bi) && inR s a 99 k)
theorem accF_next (s : SpanT) (a k : Nat) : accF s a 2 k = accF s (a + 1) 0 k := by
  simp [accF, List.range_succ, Bool.or_assoc]
theorem accF_b (s : SpanT) (a : Nat) {bi : Nat} (hb : bi < 2) (k : Nat) : accF s a (bi + 1) k = (accF s a bi k || inR s a (99 * bi : Nat) k) := by
  have : bi = 0 ∨ bi = 1 := by omega
  rcases this with rfl | rfl <;> simp [accF, Bool.or_assoc]
theorem accF_all {s : SpanT} {n : Int} (h : footMay [s] n = true) (k : Nat) (hk : k < 1000) : accF s 100 0 k = hasK (spanL s n) k := by
  obtain ⟨k1, k2⟩ := oneF_keys h
  have b1 := mayKey_iff2.1 k1
  have b2 := mayKey_iff2.1 k2
  have e : accF s 100 0 k = (List.range 100).any fun x => inR s x 0 k || inR s x 99 k := by simp [accF]
  rw [e, Bool.eq_iff_iff, List.any_eq_true, spanL, if_pos h]
  simp only [List.mem_range, Bool.or_eq_true, inR, Bool.and_eq_true, decide_eq_true_eq]
  by_cases hx : s.lo.arg = s.hi.arg ∧ s.hi.base < s.lo.base
  · rw [if_pos hx, hasK_nil]
    refine ⟨fun ⟨x, hx1, hx2⟩ => ?_, fun h => by cases h⟩
    exfalso
    obtain ⟨ha, hb⟩ := hx
    simp only [loE, hiE, ha] at hx2
    by_cases h0 : 0 ≤ s.hi.arg
    · simp only [h0, if_true] at hx2; omega
    · simp only [h0, if_false] at hx2; omega
  · rw [if_neg hx, plainL_has, hasK_cons, hasK_nil, Bool.or_false, inS_iff, mayS_iff]
    simp only [mostV, loE, hiE]
    constructor
    · rintro ⟨x, hx1, hx2⟩
      by_cases h0 : 0 ≤ s.hi.arg <;> by_cases h1 : 0 ≤ s.lo.arg <;> by_cases h2 : s.hi.arg = s.lo.arg <;> simp only [h0, h1, h2, if_true, if_false, show (s.hi.arg < 0) = ¬ (0 ≤ s.hi.arg) from propext ⟨fun h => by omega, fun h => by omega⟩, not_true_eq_false, not_false_eq_true] at hx2 ⊢ <;> omega
    · rintro ⟨⟨h3, h4, h5⟩, h6, h7⟩
      by_cases h0 : 0 ≤ s.hi.arg
      · rw [if_neg (show ¬ s.hi.arg < 0 by omega)] at h4 h5 h7
        by_cases h2 : s.hi.arg = s.lo.arg
        · have hle : s.lo.base ≤ s.hi.base := by
            by_cases h : s.hi.base < s.lo.base
            · exact absurd ⟨h2.symm, h⟩ hx
            · omega
          have h1 : 0 ≤ s.lo.arg := by omega
          by_cases hkh : (k : Int) ≤ s.hi.base
          · exact ⟨0, by omega, .inl (by rw [if_pos h1, if_pos h0, if_pos h2]; simp; omega)⟩
          · exact ⟨((k : Int) - s.hi.base).toNat, by omega, .inl (by rw [if_pos h1, if_pos h0, if_pos h2]; omega)⟩
        · refine ⟨0, by omega, .inr ?_⟩
          rw [if_pos h0, if_neg h2]
          by_cases h1 : 0 ≤ s.lo.arg
          · rw [if_pos h1]; simp; omega
          · rw [if_neg h1]; omega
      · rw [if_pos (show s.hi.arg < 0 by omega)] at h4 h5 h7
        refine ⟨0, by omega, .inl ?_⟩
        rw [if_neg h0]
        by_cases h1 : 0 ≤ s.lo.arg
        · rw [if_pos h1]; simp; omega
        · rw [if_neg h1]; omega
end Go.Proofs

/- The statement LintSpans: its function hands back true. -/
namespace Go.Proofs
open Go Go.RowKit Go.Am

def rowF (s : SpanT) (a bi : Nat) (lo kk : Int) (k : Nat) : Bool := accF s a bi k || (decide (lo ≤ k) && decide ((k : Int) < kk))

set_option maxHeartbeats 4000000 in
theorem refKeys_ok (s : SpanT) (n : Int) (hm : footMay [s] n = true) : PCall Try.prog 33 [.agg (encSpanT s)] (setP (accF s 100 0)) := by
  refine PCall.run' hb33 ok33 (by simp) (pures1 (.agg (pure_encSpanT s))) (pure_setP _) (wk_setP _) ?_
  obtain ⟨k1, k2⟩ := oneF_keys hm
  have m1 := mayKey_iff2.1 k1
  have m2 := mayKey_iff2.1 k2
  simp -implicitDefEqProofs [-List.reduceReplicate, setA_zero, H.nil, encSpanT]
  refine run_loop (fun n s1 h => ∃ a : Nat, n = 100 - a ∧ a ≤ 100 ∧ s1 1 = .ptr 0 0 ∧ s1 3 = .ptr 1 0 ∧ s1 4 = .int .i64 a ∧ 1 < h.bn ∧ h.bx 0 = some (encSpanT s) ∧ h.bx 1 = some (setA (accF s a 0))) ?_ 100 ?_
  rotate_left
  · refine ⟨0, by simp [encSpanT]; exact setA_congr fun k _ => by simp [accF]⟩
  rintro n s1 h ⟨a, hn, ha, q1, q3, q4, b1, c0, c1⟩ ih
  by_cases hlt : a < 100
  · have hai : (a : Int) < 100 := by omega
    simp -implicitDefEqProofs [q4, hai]
    refine run_loop (fun n s1 h => ∃ bi : Nat, n = 2 - bi ∧ bi ≤ 2 ∧ s1 1 = .ptr 0 0 ∧ s1 3 = .ptr 1 0 ∧ s1 4 = .int .i64 a ∧ s1 5 = .int .i64 (99 * bi : Nat) ∧ 1 < h.bn ∧ h.bx 0 = some (encSpanT s) ∧ h.bx 1 = some (setA (accF s a bi))) ?_ 2 ?_
    rotate_left
    · exact ⟨0, by simp [q1, q3, q4, b1, c0, c1]⟩
    rintro n s1 h ⟨bi, hn, hb, q1, q3, q4, q5, b1, c0, c1⟩ ih2
    have b0 : 0 < h.bn := by omega
    by_cases hb2 : bi < 2
    · have hbi : ((99 * bi : Nat) : Int) < 100 := by omega
      generalize hv : (99 * bi : Nat) = v at q5 hbi
      have hv99 : v ≤ 99 := by omega
      rw [encSpanT] at c0
      have w1 : IntKind.i64.wrap (s.lo.base + a) = s.lo.base + a := wrap_i64 (by omega) (by omega)
      have w2 : IntKind.i64.wrap (s.hi.base + a) = s.hi.base + a := wrap_i64 (by omega) (by omega)
      have w3 : IntKind.i64.wrap (s.hi.base + v) = s.hi.base + v := wrap_i64 (by omega) (by omega)
      have w4 : IntKind.i64.wrap ((v : Int) + 99) = ((99 * (bi + 1) : Nat) : Int) := by rw [wrap_i64 (by omega) (by omega)]; omega
      have hacc := accF_b s a hb2
      rw [hv] at hacc
      have hin : ∀ (s2 : Slots) (lo hi : Int), lo = loE s a → hi = hiE s a v → s2 1 = .ptr 0 0 → s2 3 = .ptr 1 0 → s2 4 = .int .i64 a → s2 5 = .int .i64 v → s2 7 = .int .i64 hi → s2 8 = .int .i64 lo → Run Try.prog false (.c (.loop c33_l18) :: .blk 4 :: .blk 3 :: .c (.reg c33_r19) :: .lp c33_l20 :: .blk 2 :: .blk 1 :: .c (.reg c33_r21) :: .lp c33_l22 :: .blk 0 :: [.c (.seq (.reg c33_r23) .ret)]) (retQ [.t 2] fun r' h1 => ∃ h', Gh h1 r' h' (setP (accF s 100 0))) s2 h := by
        intro s2 lo hi hlo hhi e1 e3 e4 e5 e7 e8
        have hlo0 : 0 ≤ lo := by rw [hlo, loE]; split <;> omega
        have hhi9 : hi ≤ 999 := by rw [hhi, hiE]; repeat' split <;> omega
        refine run_loop (fun n s2 h => ∃ kk : Int, n = (hi + 1 - kk).toNat ∧ lo ≤ kk ∧ (kk ≤ hi + 1 ∨ kk = lo) ∧ s2 1 = .ptr 0 0 ∧ s2 3 = .ptr 1 0 ∧ s2 4 = .int .i64 a ∧ s2 5 = .int .i64 v ∧ s2 7 = .int .i64 hi ∧ s2 8 = .int .i64 kk ∧ 1 < h.bn ∧ h.bx 0 = some (encSpanT s) ∧ h.bx 1 = some (setA (rowF s a bi lo kk))) ?_ (hi + 1 - lo).toNat ?_
        rotate_left
        · refine ⟨lo, rfl, Int.le_refl _, .inr rfl, e1, e3, e4, e5, e7, e8, b1, by rw [c0, encSpanT], ?_⟩
          rw [c1]
          refine congrArg some (setA_congr fun k _ => ?_)
          simp [rowF]
          intro h1 h2
          omega
        rintro n s2 h ⟨kk, hn, hk1, hk2, e1, e3, e4, e5, e7, e8, b1, c0, c1⟩ ih3
        by_cases hle : kk ≤ hi
        · obtain ⟨m, rfl⟩ : ∃ m : Nat, kk = m := ⟨kk.toNat, by omega⟩
          have hm : m < 1000 := by omega
          have i2 := idxOf_nat (k := .i64) hm
          have hp := setA_put (rowF s a bi lo m) hm true
          simp -implicitDefEqProofs [e3, e7, e8, hle, b1, c1, hp, show m + 1 ≤ 1000 by omega, show (m : Int) < 1000 by omega, inc_i64 hm (by omega), -Int.natCast_add]
          refine ih3 (hi + 1 - ((m + 1 : Nat) : Int)).toNat _ _ (by omega) ⟨((m + 1 : Nat) : Int), rfl, by omega, .inl (by omega), by simp [e1], by simp [e3], by simp [e4], by simp [e5], by simp [e7], by simp, by simpa using b1, by simp [c0], ?_⟩
          simp only [set_bx, if_true]
          refine congrArg some (setA_congr fun j _ => ?_)
          by_cases hj : j = m
          · subst hj
            simp only [rowF]
            rw [show decide (lo ≤ (j : Int)) = true from decide_eq_true (by omega), show decide ((j : Int) < ((j + 1 : Nat) : Int)) = true from decide_eq_true (by omega)]
            simp
          · simp only [rowF]
            have e : decide ((j : Int) < ((m + 1 : Nat) : Int)) = decide ((j : Int) < (m : Int)) := by
              rw [Bool.eq_iff_iff, decide_eq_true_eq, decide_eq_true_eq]
              omega
            rw [e, show decide (j = m) = false from decide_eq_false hj, Bool.false_or]
        · simp -implicitDefEqProofs [e5, e7, e8, hle, w4]
          refine ih2 (2 - (bi + 1)) _ _ (by omega) ⟨bi + 1, rfl, by omega, by simp [e1], by simp [e3], by simp [e4], by simp, b1, c0, ?_⟩
          rw [c1]
          refine congrArg some (setA_congr fun j _ => ?_)
          rw [hacc, rowF, inR, ← hlo, ← hhi]
          congr 1
          rw [Bool.eq_iff_iff, Bool.and_eq_true, Bool.and_eq_true, decide_eq_true_eq, decide_eq_true_eq, decide_eq_true_eq]
          omega
      simp -implicitDefEqProofs [q5, hbi]
      refine run_dreg c33_d7 ?_
      simp -implicitDefEqProofs [q1, b0, c0]
      by_cases h0 : 0 ≤ s.lo.arg
      · by_cases h1 : 0 ≤ s.hi.arg
        · by_cases h2 : s.hi.arg = s.lo.arg
          · simp -implicitDefEqProofs [q1, q4, b0, c0, h0, w1, w2, h2]
            exact hin _ (s.lo.base + a) (s.hi.base + a) (by rw [loE, if_pos h0]) (by rw [hiE, if_pos h1, if_pos h2]) (by simp [q1]) (by simp [q3]) (by simp [q4]) (by simp [q5]) (by simp) (by simp)
          · simp -implicitDefEqProofs [q1, q4, q5, b0, c0, h0, h1, w1, w3, h2]
            exact hin _ (s.lo.base + a) (s.hi.base + v) (by rw [loE, if_pos h0]) (by rw [hiE, if_pos h1, if_neg h2]) (by simp [q1]) (by simp [q3]) (by simp [q4]) (by simp [q5]) (by simp) (by simp)
        · simp -implicitDefEqProofs [q1, q4, b0, c0, h0, h1, w1]
          exact hin _ (s.lo.base + a) (s.hi.base) (by rw [loE, if_pos h0]) (by rw [hiE, if_neg h1]) (by simp [q1]) (by simp [q3]) (by simp [q4]) (by simp [q5]) (by simp) (by simp)
      · by_cases h1 : 0 ≤ s.hi.arg
        · by_cases h2 : s.hi.arg = s.lo.arg
          · exact absurd h1 (by omega)
          · simp -implicitDefEqProofs [q1, q5, b0, c0, h0, h1, w3, h2]
            exact hin _ (s.lo.base) (s.hi.base + v) (by rw [loE, if_neg h0]) (by rw [hiE, if_pos h1, if_neg h2]) (by simp [q1]) (by simp [q3]) (by simp [q4]) (by simp [q5]) (by simp) (by simp)
        · simp -implicitDefEqProofs [q1, b0, c0, h0, h1]
          exact hin _ (s.lo.base) (s.hi.base) (by rw [loE, if_neg h0]) (by rw [hiE, if_neg h1]) (by simp [q1]) (by simp [q3]) (by simp [q4]) (by simp [q5]) (by simp) (by simp)
    · obtain rfl : bi = 2 := by omega
      simp -implicitDefEqProofs [q4, q5, inc_i64 hlt (by omega), -Int.natCast_add]
      refine ih (100 - (a + 1)) _ _ (by omega) ⟨a + 1, rfl, by omega, by simp [q1], by simp [q3], by simp, b1, c0, ?_⟩
      rw [c1]
      exact congrArg some (setA_congr fun j _ => accF_next s a j)
  · obtain rfl : a = 100 := by omega
    simp -implicitDefEqProofs [q3, q4]
    exact ⟨_, Gh.rop b1 c1⟩

theorem alive27f_ok (x y : Int) : PCall Try.prog 48 [.int .i64 x, .int .i64 y] (.agg (encKeyT ⟨x, y⟩)) := by
  refine PCall.run hb48 ok48 (by simp) (pures2 (.int _ _) (.int _ _)) (.agg (pure_encKeyT _)) ?_
  simp -implicitDefEqProofs [H.nil, encKeyT]

theorem alive27_ok : PCall Try.prog 30 [] (.bool true) := by
  refine PCall.run hb30 ok30 (by simp) (fun v hv => by cases hv) (.bool _) ?_
  have hp : ∀ x y : Int, mayS (x, y) = true → plainL [(x, y)] = [(x, y)] := fun x y h => plainL_plain ⟨fun s hs => by rw [List.mem_singleton.1 hs]; exact h, List.pairwise_singleton _ _⟩
  have e1 : spanL ⟨⟨0, 5⟩, ⟨0, 7⟩, false⟩ 1 = [(5, 106)] := by
    rw [spanL, if_pos (by decide), if_neg (by decide)]
    exact hp 5 106 (by decide)
  have e2 : spanL ⟨⟨0, 5⟩, ⟨-1, 7⟩, false⟩ 1 = [(5, 7)] := by
    rw [spanL, if_pos (by decide), if_neg (by decide)]
    exact hp 5 7 (by decide)
  simp -implicitDefEqProofs []
  refine callQ_p (alive27f_ok 0 5) (by simp) ?_
  simp -implicitDefEqProofs []
  refine callQ_p (alive27f_ok 0 7) (by simp) ?_
  simp -implicitDefEqProofs [encKeyT]
  refine callQ_p (lintSpan_ok ⟨⟨0, 5⟩, ⟨0, 7⟩, false⟩ 1) (by simp [encSpanT]) ?_
  rw [e1]
  simp -implicitDefEqProofs []
  refine callQ_p (alive27f_ok 0 5) (by simp) ?_
  simp -implicitDefEqProofs []
  refine callQ_p (alive27f_ok (-1) 7) (by simp) ?_
  simp -implicitDefEqProofs [encKeyT]
  refine callQ_p (lintSpan_ok ⟨⟨0, 5⟩, ⟨-1, 7⟩, false⟩ 1) (by simp [encSpanT]) ?_
  rw [e2]
  simp -implicitDefEqProofs []
  refine callQ_p (refSame_ok [(5, 106)] [(5, 106)] (by simp) (by simp)) (by simp [encL, avP]) ?_
  simp -implicitDefEqProofs []
  refine callQ_p (refSame_ok [(5, 7)] [(5, 7)] (by simp) (by simp)) (by simp [encL, avP]) ?_
  simp -implicitDefEqProofs []

theorem lintSpans_ok (s : SpanT) (n : Int) : PCall Try.prog 8 [.agg (encSpanT s), .int .i64 n] (.bool true) := by
  refine PCall.run hb8 ok8 (by simp) (pures2 (.agg (pure_encSpanT s)) (.int _ _)) (.bool _) ?_
  simp -implicitDefEqProofs [encSpanT, H.nil]
  refine callQ_p alive27_ok (by simp) ?_
  simp -implicitDefEqProofs []
  refine callQ_p (lintSpan_ok s n) (by simp [encSpanT]) ?_
  simp -implicitDefEqProofs []
  refine callQ_p (refFootMay_ok [s] n (by simp)) (by simp [encSpanT]) ?_
  cases hm : footMay [s] n
  · have e : spanL s n = [] := by rw [spanL, hm]; rfl
    simp -implicitDefEqProofs [e, encL]
  · have hl : (spanL s n).length ≤ 500 := by
      rw [spanL, if_pos hm]
      split
      · simp
      · exact plainL_len _
    have e : plainOf (accF s 100 0) = spanL s n := by
      symm
      refine plainOf_of ?_ fun k hk => (accF_all hm k hk).symm
      rw [spanL, if_pos hm]
      split
      · exact ⟨fun s hs => (by cases hs), List.Pairwise.nil⟩
      · exact plainL_isPlain _
    simp -implicitDefEqProofs []
    refine callQ_p (refKeys_ok s n hm) (by simp [encSpanT]) ?_
    simp -implicitDefEqProofs []
    refine callQ_p (refPlain_ok (accF s 100 0)) (by simp [wk_setP]) ?_
    rw [e]
    simp -implicitDefEqProofs []
    refine callQ_p (refSame_ok (spanL s n) (spanL s n) (by omega) (by omega)) (by simp [wk_encL]) ?_
    simp -implicitDefEqProofs []
end Go.Proofs
