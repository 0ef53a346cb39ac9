/- What the functions that the statement reaches do: their contracts; and what follows of it. -/
import Derived.Test.YtaepkklbckgbhaaDoorSProgSure5
import Derived.Test.YtaepkklbckgbhaaDoorK4
import Derived.Test.YtaepkklbckgbhaaDoorSProgSure4
/- Which programs, footprints, classes and catalogues there may be: the document's answer. -/
namespace Go.Proofs
open Go Go.RowKit Go.Am

theorem elOK_Inst : ElOK encInst 9 true := ⟨fun _ => rfl, (fun h => by cases h), pure_encInst, wk_encInst⟩
theorem elOK_SpanT : ElOK encSpanT 5 true := ⟨fun _ => rfl, (fun h => by cases h), pure_encSpanT, wk_encSpanT⟩
theorem elOK_Stp : ElOK encStp 2 true := ⟨fun _ => rfl, (fun h => by cases h), pure_encStp, wk_encStp⟩
theorem elOK_Cls : ElOK encCls 5 true := ⟨fun _ => rfl, (fun h => by cases h), pure_encCls, wk_encCls⟩
theorem elOK_Spn : ElOK encSpn 2 true := ⟨fun _ => rfl, (fun h => by cases h), pure_encSpn, wk_encSpn⟩
theorem elOK_Nod : ElOK encNod 6 true := ⟨fun _ => rfl, (fun h => by cases h), pure_encNod, wk_encNod⟩
theorem elOK_Chg : ElOK encChg 3 true := ⟨fun _ => rfl, (fun h => by cases h), pure_encChg, wk_encChg⟩
theorem elOK_KeyT : ElOK encKeyT 2 true := ⟨fun _ => rfl, (fun h => by cases h), pure_encKeyT, wk_encKeyT⟩

def progMay (l : List Inst) (args : Int) : Bool := !decide (args < 0) && !decide (3 < args) && !decide (l.length < 1) && !decide (8 < l.length) && l.all fun x => oneInst x args
def footMay (l : List SpanT) (args : Int) : Bool := !decide (args < 0) && !decide (3 < args) && !decide (4 < l.length) && l.all fun s => mayKey s.lo args && mayKey s.hi args

theorem all_take_false {α : Type} {p : α → Bool} {l : List α} {j : Nat} (hj : j < l.length) (h : p l[j] = false) : l.all p = false := by
  rw [List.all_eq_false]
  exact ⟨l[j], List.getElem_mem hj, by simp [h]⟩
theorem all_whole {α : Type} {p : α → Bool} {l : List α} {j : Nat} (hj : l.length ≤ j) (h : ∀ i (hi : i < l.length), i < j → p l[i] = true) : l.all p = true := by
  rw [List.all_eq_true]
  intro x hx
  obtain ⟨i, hi, rfl⟩ := List.mem_iff_getElem.1 hx
  exact h i hi (by omega)

theorem refProgMay_ok (l : List Inst) (args : Int) (hl : l.length ≤ 9223372036854775807) : PCall Tryd.prog 19 [.sl .no (l.map encInst), .int .i64 args] (.bool (progMay l args)) := by
  refine PCall.run hb19 ok19 (by simp) (pures_cons (elOK_Inst.pureL l) (pures1 (.int _ _))) (.bool _) ?_
  by_cases bad : ((args < 0 ∨ 3 < args) ∨ (l.length : Int) < 1) ∨ (8 : Int) < (l.length : Int)
  · have hf : progMay l args = false := by
      simp only [progMay, Bool.and_eq_false_iff, Bool.not_eq_false', decide_eq_true_eq]
      omega
    simp (maxSteps := 2000000) +contextual -implicitDefEqProofs [↓gdL_F, ↓condQ_b, -Int.not_lt, -Int.not_le, -Nat.not_lt, -Nat.not_le, hf]
    all_goals (intros; omega)
  · have hm : progMay l args = l.all fun x => oneInst x args := by
      simp only [progMay, show ¬ args < 0 by omega, show ¬ 3 < args by omega, show ¬ l.length < 1 by omega, show ¬ 8 < l.length by omega]
      simp
    simp (maxSteps := 2000000) +contextual -implicitDefEqProofs [↓gdL_F, ↓condQ_b, -Int.not_lt, -Int.not_le, -Nat.not_lt, -Nat.not_le, show ¬ args < 0 by omega, show ¬ 3 < args by omega, show ¬ (l.length : Int) < 1 by omega, show ¬ (8 : Int) < (l.length : Int) by omega, hm]
    refine run_loop (fun n s h => ∃ j : Nat, n = l.length - j ∧ j ≤ l.length ∧ s 0 = .sl .no (l.map encInst) ∧ s 1 = .int .i64 args ∧ s 5 = .int .i64 j ∧ ∀ i (hi : i < l.length), i < j → oneInst l[i] args = true) ?_ l.length ?_
    · rintro n s h ⟨j, hn, hj, h0, h1, h5, hall⟩ ih
      by_cases hlt : j < l.length
      · simp -implicitDefEqProofs [h0, h1, h5, hlt, elOK_Inst.un, -unCells]
        refine callQ_p (refOne_ok l[j] args) (by simp [elV]) ?_
        cases hp : oneInst l[j] args
        · simp -implicitDefEqProofs [all_take_false (p := fun x => oneInst x args) hlt hp]
        · simp -implicitDefEqProofs [h5, inc_i64 hlt hl, -Int.natCast_add]
          exact ih (l.length - (j + 1)) _ _ (by omega) ⟨j + 1, rfl, by omega, by simp [h0], by simp [h1], by simp, fun i hi hij => by
            by_cases h : i = j
            · subst h; exact hp
            · exact hall i hi (by omega)⟩
      · simp -implicitDefEqProofs [h0, h5, hlt, all_whole (p := fun x => oneInst x args) (by omega) hall]
    · exact ⟨0, by simp⟩

end Go.Proofs

/- Which programs there may be: the program's answer. -/
namespace Go.Proofs
open Go Go.RowKit Go.Am

theorem mayKey_ok (k : KeyT) (args : Int) : PCall Tryd.prog 37 [.agg (encKeyT k), .int .i64 args] (.bool (mayKey k args)) := by
  refine PCall.run hb37 ok37 (by simp) (pures_cons (pureKey k) (pures1 (.int _ _))) (.bool _) ?_
  simp (maxSteps := 2000000) +contextual -implicitDefEqProofs [↓gdL_T, ↓gdL_F, ↓condQ_b, -Int.not_lt, -Int.not_le, -Nat.not_lt, -Nat.not_le, encKeyT, mayKey]

theorem register_ok (n : Int) : PCall Tryd.prog 58 [.int .i64 n] (.bool (isReg n)) := by
  refine PCall.run hb58 ok58 (by simp) (pures1 (.int _ _)) (.bool _) ?_
  by_cases h : 0 ≤ n
  · simp -implicitDefEqProofs [isReg, h]
    rw [Bool.eq_iff_iff]; simp; omega
  · simp -implicitDefEqProofs [isReg, h]

def keysI (x : Inst) : List KeyT := if x.op = 1 ∨ x.op = 2 ∨ x.op = 3 then [x.k] else if x.op = 4 then [x.k, x.l] else []
theorem keys_ok (x : Inst) : PCall Tryd.prog 60 [.agg (encInst x)] (.sl .no ((keysI x).map encKeyT)) := by
  refine PCall.run hb60 ok60 (by simp) (pures1 (pureInst x)) (pure_sl pure_encKeyT _) ?_
  by_cases h1 : x.op = 1
  · simp -implicitDefEqProofs [encInst, h1, keysI, encKeyT]
  by_cases h2 : x.op = 2
  · simp -implicitDefEqProofs [encInst, h2, keysI, encKeyT]
  by_cases h3 : x.op = 3
  · simp -implicitDefEqProofs [encInst, h3, keysI, encKeyT]
  by_cases h4 : x.op = 4
  · simp -implicitDefEqProofs [encInst, h4, keysI, encKeyT]
  simp -implicitDefEqProofs [encInst, h1, h2, h3, h4, keysI]

def zeroK : KeyT := ⟨0, 0⟩
def onlyI (x : Inst) : Inst × Bool :=
  if x.op = 1 ∨ x.op = 2 then (⟨x.op, x.a, 0, 0, x.k, zeroK, 0⟩, true)
  else if x.op = 3 then (⟨x.op, 0, 0, 0, x.k, zeroK, 0⟩, true)
  else if x.op = 4 then (⟨x.op, x.a, 0, 0, x.k, x.l, 0⟩, true)
  else if x.op = 5 ∨ x.op = 8 then (⟨x.op, x.a, 0, 0, zeroK, zeroK, x.x⟩, true)
  else if x.op = 6 ∨ x.op = 7 then (⟨x.op, x.a, x.b, x.c, zeroK, zeroK, 0⟩, true)
  else (⟨x.op, x.a, 0, 0, zeroK, zeroK, 0⟩, false)

theorem only_ok (x : Inst) : PCall Tryd.prog 56 [.agg (encInst x)] (.tup [.agg (encInst (onlyI x).1), .bool (onlyI x).2]) := by
  refine PCall.run hb56 ok56 (by simp) (pures1 (pureInst x)) (.tup (pures_cons (pureInst _) (pures1 (.bool _)))) ?_
  by_cases h1 : x.op = 1
  · simp -implicitDefEqProofs [encInst, h1, onlyI, H.nil, zeroK]
  by_cases h2 : x.op = 2
  · simp -implicitDefEqProofs [encInst, h2, onlyI, H.nil, zeroK]
  by_cases h3 : x.op = 3
  · simp -implicitDefEqProofs [encInst, h3, H.nil]
    refine run_dreg c56_d8 ?_
    simp -implicitDefEqProofs [onlyI, zeroK, h3]
  by_cases h4 : x.op = 4
  · simp -implicitDefEqProofs [encInst, h4, H.nil]
    refine run_dreg c56_d10 ?_
    simp -implicitDefEqProofs [onlyI, h4]
  by_cases h5 : x.op = 5
  · simp -implicitDefEqProofs [encInst, h5, onlyI, H.nil, zeroK]
  by_cases h8 : x.op = 8
  · simp -implicitDefEqProofs [encInst, h8, onlyI, H.nil, zeroK]
  by_cases h6 : x.op = 6
  · simp -implicitDefEqProofs [encInst, h6, H.nil]
    refine run_dreg c56_d16 ?_
    simp -implicitDefEqProofs [onlyI, zeroK, h6]
  by_cases h7 : x.op = 7
  · simp -implicitDefEqProofs [encInst, h7, H.nil]
    refine run_dreg c56_d16 ?_
    simp -implicitDefEqProofs [onlyI, zeroK, h7]
  simp -implicitDefEqProofs [encInst, h1, h2, h3, h4, h5, h6, h7, h8, onlyI, H.nil, zeroK]
end Go.Proofs

/- Which programs there may be: the program's answer, joined. -/
namespace Go.Proofs
open Go Go.RowKit Go.Am

def mayI (x : Inst) (args : Int) : Bool := (onlyI x).2 && decide (x = (onlyI x).1) && isReg x.a && isReg x.b && isReg x.c && !(keysI x).any fun k => !mayKey k args

theorem may1_ok (k : KeyT) (args : Int) {h : H} {b : Nat} (hb : b < h.bn) (hbx : h.bx b = some [.int .i64 args]) : SCall Tryd.prog 57 [.agg (encKeyT k), .ptr b 0] h (.bool (!mayKey k args)) h := by
  refine SCall.ro (CallP.run hb57 ok57 (by simp) ?_) (.bool _)
  simp -implicitDefEqProofs [hbx, encKeyT, show ¬ b = h.bn by omega, show b < h.bn + 1 by omega]
  refine callQ_p (mayKey_ok k args) (by simp [encKeyT]) ?_
  simp -implicitDefEqProofs []
  exact HF.alloc _ _ _ _

theorem eqInst_f {x y : Inst} (h : x ≠ y) : (decide (x.op = y.op) && (decide (x.a = y.a) && (decide (x.b = y.b) && (decide (x.c = y.c) && (decide (x.k.arg = y.k.arg) && (decide (x.k.base = y.k.base) && (decide (x.l.arg = y.l.arg) && (decide (x.l.base = y.l.base) && decide (x.x = y.x))))))))) = false := by
  rw [Bool.eq_false_iff]
  intro hc
  apply h
  simp only [Bool.and_eq_true, decide_eq_true_eq] at hc
  rcases x with ⟨a, b, c, d, ⟨e, f⟩, ⟨g, i⟩, j⟩
  rcases y with ⟨a', b', c', d', ⟨e', f'⟩, ⟨g', i'⟩, j'⟩
  simp_all

theorem may_ok (x : Inst) (args : Int) : PCall Tryd.prog 34 [.agg (encInst x), .int .i64 args] (.bool (mayI x args)) := by
  refine PCall.run hb34 ok34 (by simp) (pures_cons (pureInst x) (pures1 (.int _ _))) (.bool _) ?_
  simp -implicitDefEqProofs [encInst, H.nil]
  refine callQ_p (only_ok x) (by simp [encInst]) ?_
  cases e : (onlyI x).2
  · simp -implicitDefEqProofs [encInst, mayI, e]
  simp -implicitDefEqProofs [encInst]
  by_cases hq : x = (onlyI x).1
  rotate_left
  · have hch := eqInst_f hq
    rw [hch]
    simp -implicitDefEqProofs [mayI, hq]
  have hq' : (onlyI x).1 = x := hq.symm
  simp -implicitDefEqProofs [hq']
  refine callQ_p (register_ok x.a) (by simp) ?_
  cases ra : isReg x.a
  · simp -implicitDefEqProofs [mayI, ra, hq']
  simp -implicitDefEqProofs [hq']
  refine callQ_p (register_ok x.b) (by simp) ?_
  cases rb : isReg x.b
  · simp -implicitDefEqProofs [mayI, rb, hq']
  simp -implicitDefEqProofs [hq']
  refine callQ_p (register_ok x.c) (by simp) ?_
  cases rc : isReg x.c
  · simp -implicitDefEqProofs [mayI, rc, hq']
  simp -implicitDefEqProofs [hq']
  refine callQ_p (keys_ok x) (by simp [encInst]) ?_
  simp -implicitDefEqProofs [hq']
  refine callQ_s (contains_gen hb59 ok59 hb69 ok69 elOK_KeyT (keysI x) (by unfold keysI; split; simp; split <;> simp) (first := []) (caps := [.ptr 1 0]) (p := fun k => !mayKey k args) rfl (by simp) (fun k _ => may1_ok k args (by simp) (by simp))) (by simp) ?_
  simp -implicitDefEqProofs [mayI, e, hq', ra, rb, rc]
end Go.Proofs

/- Which programs and footprints there may be: the program's answer is the document's. -/
namespace Go.Proofs
open Go Go.RowKit Go.Am

theorem isReg_iff (n : Int) : isReg n = true ↔ 0 ≤ n ∧ n ≤ 3 := by simp [isReg]
theorem mayI_one (x : Inst) (args : Int) : mayI x args = oneInst x args := by
  rcases x with ⟨op, a, b, c, ⟨ka, kb⟩, ⟨la, lb⟩, y⟩
  have z0 : isReg 0 = true := by decide
  by_cases h1 : op = 1 ∨ op = 2
  · have h2 : op = 1 ∨ op = 2 ∨ op = 3 := by omega
    simp only [mayI, oneInst, onlyI, keysI, if_pos h1, if_pos h2, zeroK, keyNone]
    rw [Bool.eq_iff_iff]
    simp
    intro hk
    constructor
    · rintro ⟨⟨⟨⟨rfl, rfl, ⟨rfl, rfl⟩, rfl⟩, ha⟩, hb⟩, hc⟩
      simp [ha]
    · rintro ⟨⟨⟨⟨ha, rfl⟩, rfl⟩, rfl⟩, rfl, rfl⟩
      simp [ha, z0]
  by_cases h3 : op = 3
  · have h2 : op = 1 ∨ op = 2 ∨ op = 3 := by omega
    simp only [mayI, oneInst, onlyI, keysI, if_neg h1, if_pos h3, if_pos h2, zeroK, keyNone]
    rw [Bool.eq_iff_iff]
    simp
    intro hk
    constructor
    · rintro ⟨⟨⟨⟨rfl, rfl, rfl, ⟨rfl, rfl⟩, rfl⟩, ha⟩, hb⟩, hc⟩
      simp
    · rintro ⟨⟨⟨⟨rfl, rfl⟩, rfl⟩, rfl⟩, rfl, rfl⟩
      simp [z0]
  have h2 : ¬ (op = 1 ∨ op = 2 ∨ op = 3) := by omega
  by_cases h4 : op = 4
  · simp only [mayI, oneInst, onlyI, keysI, if_neg h1, if_neg h3, if_pos h4, if_neg h2, zeroK, keyNone]
    rw [Bool.eq_iff_iff]
    simp
    constructor
    · rintro ⟨⟨⟨⟨⟨rfl, rfl, rfl⟩, ha⟩, hb⟩, hc⟩, hk, hl⟩
      simp [ha, hk, hl]
    · rintro ⟨⟨⟨⟨⟨ha, rfl⟩, rfl⟩, rfl⟩, hk⟩, hl⟩
      simp [ha, hk, hl, z0]
  by_cases h5 : op = 5 ∨ op = 8
  · simp only [mayI, oneInst, onlyI, keysI, if_neg h1, if_neg h3, if_neg h4, if_neg h2, if_pos h5, zeroK, keyNone]
    rw [Bool.eq_iff_iff]
    simp
    constructor
    · rintro ⟨⟨⟨⟨rfl, rfl, ⟨rfl, rfl⟩, ⟨rfl, rfl⟩⟩, ha⟩, hb⟩, hc⟩
      simp [ha]
    · rintro ⟨⟨⟨⟨ha, rfl⟩, rfl⟩, rfl, rfl⟩, rfl, rfl⟩
      simp [ha, z0]
  by_cases h6 : op = 6 ∨ op = 7
  · simp only [mayI, oneInst, onlyI, keysI, if_neg h1, if_neg h3, if_neg h4, if_neg h2, if_neg h5, if_pos h6, zeroK, keyNone]
    rw [Bool.eq_iff_iff]
    simp
    constructor
    · rintro ⟨⟨⟨⟨⟨rfl, rfl⟩, ⟨rfl, rfl⟩, rfl⟩, ha⟩, hb⟩, hc⟩
      simp [ha, hb, hc]
    · rintro ⟨⟨⟨⟨⟨ha, rfl⟩, hb⟩, hc⟩, rfl, rfl⟩, rfl, rfl⟩
      simp [ha, hb, hc]
  simp only [mayI, oneInst, onlyI, keysI, if_neg h1, if_neg h3, if_neg h4, if_neg h2, if_neg h5, if_neg h6]
  simp

theorem May1_ok (x : Inst) (args : Int) {h : H} {b : Nat} (hb : b < h.bn) (hbx : h.bx b = some [.int .i64 args]) : SCall Tryd.prog 33 [.agg (encInst x), .ptr b 0] h (.bool (!oneInst x args)) h := by
  refine SCall.ro (CallP.run hb33 ok33 (by simp) ?_) (.bool _)
  simp -implicitDefEqProofs [hbx, encInst, show ¬ b = h.bn by omega, show b < h.bn + 1 by omega]
  refine callQ_p (may_ok x args) (by simp [encInst]) ?_
  simp -implicitDefEqProofs [mayI_one]
  exact HF.alloc _ _ _ _

theorem any_not {α : Type} (l : List α) (p : α → Bool) : (!l.any fun x => !p x) = l.all p := by
  rw [Bool.eq_iff_iff]; simp

theorem progMay_ok (l : List Inst) (args : Int) (hl : l.length ≤ 9223372036854775807) : PCall Tryd.prog 14 [.sl .no (l.map encInst), .int .i64 args] (.bool (progMay l args)) := by
  refine PCall.run hb14 ok14 (by simp) (pures_cons (elOK_Inst.pureL l) (pures1 (.int _ _))) (.bool _) ?_
  by_cases bad : ((args < 0 ∨ 3 < args) ∨ (l.length : Int) < 1) ∨ (8 : Int) < (l.length : Int)
  · have hf : progMay l args = false := by
      simp only [progMay, Bool.and_eq_false_iff, Bool.not_eq_false', decide_eq_true_eq]
      omega
    simp (maxSteps := 2000000) +contextual -implicitDefEqProofs [↓gdL_T, ↓gdL_F, ↓condQ_b, -Int.not_lt, -Int.not_le, -Nat.not_lt, -Nat.not_le, hf, H.nil]
    all_goals (intros; omega)
  · have hm : progMay l args = l.all fun x => oneInst x args := by
      simp only [progMay, show ¬ args < 0 by omega, show ¬ 3 < args by omega, show ¬ l.length < 1 by omega, show ¬ 8 < l.length by omega]
      simp
    simp -implicitDefEqProofs [H.nil, show ¬ args < 0 by omega, show ¬ 3 < args by omega, show ¬ (l.length : Int) < 1 by omega, show ¬ (8 : Int) < (l.length : Int) by omega, hm]
    refine callQ_s (contains_gen hb32 ok32 hb55 ok55 elOK_Inst l hl (first := []) (caps := [.ptr 0 0]) (p := fun x => !oneInst x args) rfl (by simp) (fun x _ => May1_ok x args (by simp) (by simp))) (by simp) ?_
    simp -implicitDefEqProofs [any_not]

def sureI (x : Inst) : Bool := !(decide (x.op = 6) || decide (x.op = 7) || decide (x.op = 8))
theorem Sure1_ok (x : Inst) : PCall Tryd.prog 35 [.agg (encInst x)] (.bool (!sureI x)) := by
  refine PCall.run hb35 ok35 (by simp) (pures1 (pureInst x)) (.bool _) ?_
  by_cases h6 : x.op = 6
  · simp -implicitDefEqProofs [encInst, sureI, h6]
  by_cases h7 : x.op = 7
  · simp -implicitDefEqProofs [encInst, sureI, h7]
  simp -implicitDefEqProofs [encInst, sureI, h6, h7]
theorem sure_ok (l : List Inst) (hl : l.length ≤ 9223372036854775807) : PCall Tryd.prog 15 [.sl .no (l.map encInst)] (.bool (l.all sureI)) := by
  refine PCall.run hb15 ok15 (by simp) (pures1 (elOK_Inst.pureL l)) (.bool _) ?_
  simp -implicitDefEqProofs []
  refine callQ_s (contains_gen hb32 ok32 hb55 ok55 elOK_Inst l hl (first := []) (caps := []) (p := fun x => !sureI x) rfl rfl (fun x _ => Sure1_ok x _)) (by simp) ?_
  simp -implicitDefEqProofs [any_not]

theorem progMay_reads (k : KeyT) {args : Int} (h0 : 0 ≤ args) (h3 : args ≤ 3) : progMay [(⟨1, 0, 0, 0, k, zeroK, 0⟩ : Inst)] args = mayKey k args := by
  have z0 : isReg 0 = true := by decide
  simp [progMay, oneInst, z0, zeroK, keyNone]
  intro; omega
end Go.Proofs

/- Which classes and catalogues there may be: the document's answer. -/
namespace Go.Proofs
open Go Go.RowKit Go.Am

def backMay (c : Stp) (args : Int) : Bool := (!decide (0 < c.code.length) || progMay c.code args) && c.code.all fun x => decide (x.op < 6)
def stepMay (args : Int) (p : Stp × Stp) : Bool := progMay p.1.code args && footMay p.1.foot args && footMay p.2.foot args && backMay p.2 args
def clsMay (x : Cls) : Bool :=
  !decide (x.name.size < 1) && !decide (16 < x.name.size) && !decide (x.args < 0) && !decide (3 < x.args) && !decide (x.steps.length < 1) && !decide (4 < x.steps.length) && decide (x.comps.length = x.steps.length) &&
    (x.steps.zip x.comps).all (stepMay x.args)

end Go.Proofs

/- Which catalogues there may be: the document's answer. -/
namespace Go.Proofs
open Go Go.RowKit Go.Am

def Ctlg.nameAt (x : Ctlg) (i : Nat) : ByteArray := (x.classes[i]?.map (·.name)).getD ByteArray.empty
def Ctlg.stepsN (x : Ctlg) (i : Nat) : Nat := (x.classes[i]?.map (·.steps.length)).getD 0
def Ctlg.brk (x : Ctlg) (c d : Nat) : Int := (x.breaks[4 * c + d]?).getD 0
def Ctlg.mostB (x : Ctlg) (c d : Nat) : Int := if c < x.classes.length ∧ d < x.classes.length then 2 ^ (x.stepsN c - 1) else 1
def Ctlg.brkOK (x : Ctlg) (c d : Nat) : Bool := !decide (x.brk c d < 0) && !decide (x.mostB c d ≤ x.brk c d)
def Ctlg.namesOK (x : Ctlg) (i : Nat) : Bool := (List.range i).all fun j => !decide (x.nameAt j = x.nameAt i)
def Ctlg.clsOK (x : Ctlg) (i : Nat) : Bool := (x.classes[i]?.map clsMay).getD false
def catMay (x : Ctlg) : Bool :=
  !decide (x.classes.length < 1) && !decide (4 < x.classes.length) && ((List.range x.classes.length).all fun i => x.clsOK i && x.namesOK i) && (List.range 4).all fun c => (List.range 4).all (x.brkOK c)

theorem allR_false {p : Nat → Bool} {n j : Nat} (hj : j < n) (h : p j = false) : (List.range n).all p = false := by
  rw [List.all_eq_false]
  exact ⟨j, List.mem_range.2 hj, by simp [h]⟩
theorem allR_true {p : Nat → Bool} {n j : Nat} (hj : n ≤ j) (h : ∀ i, i < j → p i = true) : (List.range n).all p = true := by
  rw [List.all_eq_true]
  intro x hx
  exact h x (by have := List.mem_range.1 hx; omega)
@[simp] theorem take_encCls (y : Cls) : List.take 5 (encCls y) = encCls y := rfl
theorem Ctlg.brk_of {x : Ctlg} {c d : Nat} (hb : x.breaks.length = 16) (hc : c < 4) (hd : d < 4) : x.brk c d = x.breaks[4 * c + d] := by simp [brk, show 4 * c + d < x.breaks.length by omega]
theorem Ctlg.brk_load {x : Ctlg} (v : AV) {c d : Nat} (hb : x.breaks.length = 16) (hc : c < 4) (hd : d < 4) : List.take 1 (List.drop (1 + c * 4 + d) (v :: x.breaks.map (AV.int .i64))) = [.int .i64 (x.brk c d)] := by
  rw [show 1 + c * 4 + d = (4 * c + d) + 1 by omega, List.drop_succ_cons, brk_of hb hc hd, List.drop_eq_getElem_cons (by simp; omega)]
  simp
theorem Ctlg.nameAt_of {x : Ctlg} {i : Nat} (h : i < x.classes.length) : x.nameAt i = x.classes[i].name := by simp [nameAt, h]
theorem Ctlg.stepsN_of {x : Ctlg} {i : Nat} (h : i < x.classes.length) : x.stepsN i = x.classes[i].steps.length := by simp [stepsN, h]
theorem Ctlg.clsOK_of {x : Ctlg} {i : Nat} (h : i < x.classes.length) : x.clsOK i = clsMay x.classes[i] := by simp [clsOK, h]

end Go.Proofs

/- Which footprints there may be: the program's answer; what may compensate. -/
namespace Go.Proofs
open Go Go.RowKit Go.Am

def compMay (c : Stp) (args : Int) : Bool := (decide (c.code.length = 0) || (progMay c.code args && c.code.all sureI)) && footMay c.foot args
theorem one_ops {x : Inst} {args : Int} (h : oneInst x args = true) : decide (x.op < 6) = sureI x := by
  have : 1 ≤ x.op ∧ x.op ≤ 8 := by
    by_cases hq : 1 ≤ x.op ∧ x.op ≤ 8
    · exact hq
    · simp only [oneInst] at h
      rw [if_neg (by omega), if_neg (by omega), if_neg (by omega), if_neg (by omega), if_neg (by omega)] at h
      cases h
  rw [Bool.eq_iff_iff]
  simp [sureI]
  omega
theorem comp_back (c : Stp) (args : Int) : compMay c args = (footMay c.foot args && backMay c args) := by
  rw [compMay, backMay, Bool.and_comm]
  congr 1
  by_cases h0 : c.code.length = 0
  · have : c.code = [] := List.length_eq_zero_iff.1 h0
    simp [this]
  · have h1 : 0 < c.code.length := by omega
    simp only [h0, h1, decide_false, decide_true, Bool.false_or, Bool.not_true]
    cases hp : progMay c.code args
    · rfl
    · simp only [Bool.true_and]
      simp only [progMay, Bool.and_eq_true] at hp
      have ho := hp.2
      rw [List.all_eq_true] at ho
      rw [Bool.eq_iff_iff, List.all_eq_true, List.all_eq_true]
      constructor
      · intro h x hx; rw [one_ops (ho x hx)]; exact h x hx
      · intro h x hx; rw [← one_ops (ho x hx)]; exact h x hx
end Go.Proofs

/- Keys of templates, for arguments; which arguments there may be. -/
namespace Go.Proofs
open Go Go.RowKit Go.Am

def encA (a : List Int) : AV := .sl .no (a.map encN)
theorem pure_encA (a : List Int) : PureV (encA a) := pure_sl pure_encN a
theorem wk_encA (a : List Int) : Am.wk (encA a) = encA a := by simp [encA]
theorem elOK_N : ElOK encN 1 false := ⟨fun _ => rfl, (fun _ => rfl), pure_encN, fun x => by simp [encN]⟩
def argOK (x : Int) : Bool := decide (0 ≤ x) && decide (x ≤ 99)
/-- Which arguments may be. -/
def argsOK (a : List Int) : Bool := decide (a.length ≤ 3) && a.all argOK
def argV (a : List Int) (k : Int) : Int := a[k.toNat]?.getD 0
/-- The key of a template. -/
def keyV (k : KeyT) (a : List Int) : Int := if k.arg < 0 then k.base else k.base + argV a k.arg
def keyOKs (k : KeyT) (a : List Int) : Bool := mayKey k a.length && argsOK a
theorem mayKey_iff {k : KeyT} {n : Int} : mayKey k n = true ↔ -1 ≤ k.arg ∧ k.arg < n ∧ 0 ≤ k.base ∧ k.base ≤ 900 := by
  simp only [mayKey, Bool.and_eq_true, decide_eq_true_eq, and_assoc]
theorem argOK_iff {x : Int} : argOK x = true ↔ 0 ≤ x ∧ x ≤ 99 := by
  simp only [argOK, Bool.and_eq_true, decide_eq_true_eq]
theorem argsOK_iff {a : List Int} : argsOK a = true ↔ a.length ≤ 3 ∧ ∀ x ∈ a, 0 ≤ x ∧ x ≤ 99 := by
  simp only [argsOK, Bool.and_eq_true, decide_eq_true_eq, List.all_eq_true, argOK_iff]
theorem key_at {k : KeyT} {a : List Int} (h : keyOKs k a = true) (hk : 0 ≤ k.arg) : ∃ j : Nat, k.arg = j ∧ ∃ hj : j < a.length, argV a k.arg = a[j] ∧ 0 ≤ a[j] ∧ a[j] ≤ 99 := by
  rw [keyOKs, Bool.and_eq_true, mayKey_iff, argsOK_iff] at h
  obtain ⟨⟨h1, h2, h3, h4⟩, h5, h6⟩ := h
  obtain ⟨j, hj⟩ : ∃ j : Nat, k.arg = j := ⟨k.arg.toNat, by omega⟩
  have hja : j < a.length := by omega
  refine ⟨j, hj, hja, ?_, h6 _ (List.getElem_mem hja)⟩
  rw [argV, hj]
  simp [hja]

theorem key1_ok (x : Int) : PCall Tryd.prog 36 [.int .i64 x] (.bool (!argOK x)) := by
  refine PCall.run hb36 ok36 (by simp) (pures1 (.int _ _)) (.bool _) ?_
  by_cases h : x < 0
  · simp -implicitDefEqProofs [h, argOK, show ¬ 0 ≤ x by omega]
  · by_cases h9 : 99 < x
    · simp -implicitDefEqProofs [h, h9, argOK, show ¬ x ≤ 99 by omega]
    · simp -implicitDefEqProofs [h, h9, argOK, show 0 ≤ x by omega, show x ≤ 99 by omega]

theorem progKey_ok (k : KeyT) (a : List Int) (hl : a.length ≤ 1000000) : PCall Tryd.prog 16 [.agg (encKeyT k), encA a] (.tup [.int .i64 (if keyOKs k a = true then keyV k a else 0), .bool (keyOKs k a)]) := by
  refine PCall.run hb16 ok16 (by simp) (pures2 (.agg (pure_encKeyT k)) (pure_encA a)) (.tup fun v hv => by
    simp only [List.mem_cons, List.not_mem_nil, or_false] at hv
    rcases hv with rfl | rfl
    · exact .int _ _
    · exact .bool _) ?_
  simp -implicitDefEqProofs [H.nil, encKeyT, encA]
  refine callQ_p (mayKey_ok k a.length) (by simp [encKeyT]) ?_
  cases hm : mayKey k a.length
  · simp -implicitDefEqProofs [keyOKs, hm]
  by_cases h3 : (3 : Int) < a.length
  · have : argsOK a = false := by rw [Bool.eq_false_iff]; intro e; have := (argsOK_iff.1 e).1; omega
    simp -implicitDefEqProofs [keyOKs, hm, h3, this]
  simp -implicitDefEqProofs [h3]
  have hn := any_not a argOK
  refine callQ_s (contains_gen (F := 36) hb38 ok38 hb61 ok61 elOK_N a (by omega) (first := []) (caps := []) (p := fun x => !argOK x) rfl rfl (fun x _ => (key1_ok x) _)) (by simp []) ?_
  have hok : keyOKs k a = a.all argOK := by
    rw [keyOKs, hm, argsOK, show decide (a.length ≤ 3) = true from decide_eq_true (by omega)]; rfl
  have ha : (a.any fun x => !argOK x) = !(a.all argOK) := by rw [← hn, Bool.not_not]
  rw [ha, hok]
  cases hall : a.all argOK
  · simp -implicitDefEqProofs []
  · rw [hall] at hok
    by_cases hk : k.arg < 0
    · simp -implicitDefEqProofs [hk, keyV]
    · obtain ⟨j, hj, hja, e1, e2, e3⟩ := key_at hok (by omega)
      have hb := (mayKey_iff.1 hm)
      have i1 := idxOf_nat (k := .i64) hja
      have w : IntKind.i64.wrap (k.base + a[j]) = k.base + a[j] := wrap_i64 (by omega) (by omega)
      simp -implicitDefEqProofs [hk]
      refine run_dreg c16_d7 ?_
      rw [hj] at hk e1
      simp -implicitDefEqProofs [hj, hk, hja, encN, keyV, e1, w]

theorem refKey_ok (k : KeyT) (a : List Int) (h : keyOKs k a = true) : PCall Tryd.prog 20 [.agg (encKeyT k), encA a] (.int .i64 (keyV k a)) := by
  refine PCall.run hb20 ok20 (by simp) (pures2 (.agg (pure_encKeyT k)) (pure_encA a)) (.int _ _) ?_
  by_cases hk : k.arg < 0
  · simp -implicitDefEqProofs [H.nil, encKeyT, hk, keyV]
  · obtain ⟨j, hj, hja, e1, e2, e3⟩ := key_at h (by omega)
    have hm := h
    rw [keyOKs, Bool.and_eq_true] at hm
    have hb := (mayKey_iff.1 hm.1)
    have i1 := idxOf_nat (k := .i64) hja
    have w : IntKind.i64.wrap (k.base + a[j]) = k.base + a[j] := wrap_i64 (by omega) (by omega)
    simp -implicitDefEqProofs [H.nil, encKeyT, hk]
    refine run_dreg c20_d4 ?_
    rw [hj] at hk e1
    simp -implicitDefEqProofs [hj, hk, hja, encA, encN, keyV, e1, w]

theorem refArgs_ok (a : List Int) (hl : a.length ≤ 1000000) : PCall Tryd.prog 17 [encA a] (.bool (argsOK a)) := by
  refine PCall.run hb17 ok17 (by simp) (pures1 (pure_encA a)) (.bool _) ?_
  simp -implicitDefEqProofs [encA]
  refine run_loop (fun n s h => ∃ j : Nat, n = a.length - j ∧ j ≤ a.length ∧ s 0 = encA a ∧ s 3 = .int .i64 j ∧ ∀ i (hi : i < a.length), i < j → argOK a[i] = true) ?_ a.length ?_
  rotate_left
  · exact ⟨0, by simp [encA]⟩
  rintro n s h ⟨j, hn, hj, s0, s3, hall⟩ ih
  rw [encA] at s0
  by_cases hlt : j < a.length
  · have i1 := idxOf_nat (k := .i64) hlt
    have hbad : argOK a[j] = false → argsOK a = false := fun e => by
      rw [Bool.eq_false_iff]; intro h
      have := (argsOK_iff.1 h).2 a[j] (List.getElem_mem hlt)
      rw [← argOK_iff, e] at this
      cases this
    by_cases h0 : a[j] < 0
    · have hb := hbad (by rw [Bool.eq_false_iff]; intro e; have := argOK_iff.1 e; omega)
      simp -implicitDefEqProofs [s0, s3, hlt, encN, h0, hb]
    · by_cases h9 : 99 < a[j]
      · have hb := hbad (by rw [Bool.eq_false_iff]; intro e; have := argOK_iff.1 e; omega)
        simp -implicitDefEqProofs [s0, s3, hlt, encN, h0, h9, hb]
      · simp -implicitDefEqProofs [s0, s3, hlt, encN, h0, h9, inc_i64 hlt (by omega), -Int.natCast_add]
        exact ih (a.length - (j + 1)) _ _ (by omega) ⟨j + 1, rfl, by omega, by simp [s0, encA], by simp, fun i hi hij => by
          by_cases h : i = j
          · subst h; exact argOK_iff.2 ⟨by omega, by omega⟩
          · exact hall i hi (by omega)⟩
  · have hw : a.all argOK = true := List.all_eq_true.2 fun x hx => by
      obtain ⟨i, hi, rfl⟩ := List.mem_iff_getElem.1 hx
      exact hall i hi (by omega)
    have e : argsOK a = decide ((a.length : Int) ≤ 3) := by
      rw [argsOK, hw, Bool.and_true, Bool.eq_iff_iff, decide_eq_true_eq, decide_eq_true_eq]; omega
    simp -implicitDefEqProofs [s0, s3, hlt, e]

/-- May a footprint be, for arguments? -/
def rightB (l : List SpanT) (a : List Int) : Bool := argsOK a && footMay l a.length
end Go.Proofs

/- The statements ProgMay, ProgSure: their functions hand back true. -/
namespace Go.Proofs
open Go Go.RowKit Go.Am

theorem pures4 {a b c d : AV} (ha : PureV a) (hb : PureV b) (hc : PureV c) (hd : PureV d) : ∀ v ∈ [a, b, c, d], PureV v := pures_cons ha (pures_cons hb (pures_cons hc (pures1 hd)))
theorem keyOKs_comm (k : KeyT) (a : List Int) : (argsOK a && mayKey k a.length) = keyOKs k a := by rw [keyOKs, Bool.and_comm]
theorem keyV_range {k : KeyT} {a : List Int} (h : keyOKs k a = true) : 0 ≤ keyV k a ∧ keyV k a ≤ 999 := by
  have hm := h
  rw [keyOKs, Bool.and_eq_true, mayKey_iff] at hm
  rw [keyV]
  split
  · omega
  · obtain ⟨j, _, hj, e, h1, h2⟩ := key_at h (by omega)
    rw [e]; omega
theorem sureI_iff (x : Inst) : sureI x = (decide (x.op ≠ 6) && decide (x.op ≠ 7) && decide (x.op ≠ 8)) := by
  simp [sureI, Bool.not_or]

set_option maxHeartbeats 2000000 in
theorem progMayL_ok (l : List Inst) (n : Int) (k : KeyT) (a : List Int) : PCall Tryd.prog 5 [.sl .no (l.map encInst), .int .i64 n, .agg (encKeyT k), .sl .no (a.map encN)] (.bool true) := by
  refine PCall.run hb5 ok5 (by simp) (pures4 (elOK_Inst.pureL l) (.int _ _) (.agg (pure_encKeyT k)) (pure_encA a)) (.bool _) ?_
  simp -implicitDefEqProofs [encKeyT, H.nil]
  refine callQ_p alive9_ok (by simp) ?_
  by_cases hl : (20 : Int) < l.length
  · simp -implicitDefEqProofs [hl]
  by_cases ha : (10 : Int) < a.length
  · simp -implicitDefEqProofs [hl, ha]
  have hl2 : l.length ≤ 20 := by omega
  have ha2 : a.length ≤ 10 := by omega
  simp -implicitDefEqProofs [hl, ha]
  refine run_loop (fun m s h => ∃ j : Nat, m = l.length - j ∧ j ≤ l.length ∧ s 0 = .sl .no (l.map encInst) ∧ s 1 = .int .i64 n ∧ s 3 = encA a ∧ s 6 = .ptr 0 0 ∧ s 9 = .bool ((l.take j).all sureI) ∧ s 10 = .int .i64 j ∧ 0 < h.bn ∧ h.bx 0 = some (encKeyT k)) ?_ l.length ?_
  rotate_left
  · exact ⟨0, by simp [encA, encKeyT]⟩
  rintro m s h ⟨j, hn, hj, s0, s1, s3, s6, s9, s10, hb, hc⟩ ih
  by_cases hlt : j < l.length
  · have i1 := idxOf_nat (k := .i64) hlt
    have hs : (l.take (j + 1)).all sureI = ((l.take j).all sureI && sureI l[j]) := by
      rw [List.take_succ_eq_append_getElem hlt, List.all_append]; simp
    cases hsj : (l.take j).all sureI
    · rw [hsj] at hs s9
      simp -implicitDefEqProofs [s0, s9, s10, hlt, inc_i64 hlt (by omega), -Int.natCast_add]
      exact ih (l.length - (j + 1)) _ _ (by omega) ⟨j + 1, rfl, by omega, by simp [s0], by simp [s1], by simp [s3], by simp [s6], by simp [hs], by simp, hb, hc⟩
    · rw [hsj, Bool.true_and, sureI_iff] at hs
      rw [hsj] at s9
      by_cases h6 : l[j].op = 6
      · simp -implicitDefEqProofs [s0, s9, s10, hlt, encInst, h6, inc_i64 hlt (by omega), -Int.natCast_add]
        exact ih (l.length - (j + 1)) _ _ (by omega) ⟨j + 1, rfl, by omega, by simp [s0], by simp [s1], by simp [s3], by simp [s6], by simp [hs, h6], by simp, hb, hc⟩
      by_cases h7 : l[j].op = 7
      · simp -implicitDefEqProofs [s0, s9, s10, hlt, encInst, h7, inc_i64 hlt (by omega), -Int.natCast_add]
        exact ih (l.length - (j + 1)) _ _ (by omega) ⟨j + 1, rfl, by omega, by simp [s0], by simp [s1], by simp [s3], by simp [s6], by simp [hs, h7], by simp, hb, hc⟩
      by_cases h8 : l[j].op = 8
      · simp -implicitDefEqProofs [s0, s9, s10, hlt, encInst, h8, inc_i64 hlt (by omega), -Int.natCast_add]
        exact ih (l.length - (j + 1)) _ _ (by omega) ⟨j + 1, rfl, by omega, by simp [s0], by simp [s1], by simp [s3], by simp [s6], by simp [hs, h8], by simp, hb, hc⟩
      · simp -implicitDefEqProofs [s0, s9, s10, hlt, encInst, h6, h7, h8, inc_i64 hlt (by omega), -Int.natCast_add]
        exact ih (l.length - (j + 1)) _ _ (by omega) ⟨j + 1, rfl, by omega, by simp [s0], by simp [s1], by simp [s3], by simp [s6], by simp [hs, h6, h7, h8], by simp, hb, hc⟩
  · obtain rfl : j = l.length := by omega
    rw [List.take_length] at s9
    rw [encKeyT] at hc
    simp -implicitDefEqProofs [s0, s3, s6, s10, hb, hc]
    refine callQ_p (progKey_ok k a (by omega)) (by simp [encKeyT, wk_encA]) ?_
    simp -implicitDefEqProofs [s3]
    refine callQ_p (refArgs_ok a (by omega)) (by simp [wk_encA]) ?_
    have hcm := keyOKs_comm k a
    cases hg : argsOK a
    · rw [hg, Bool.false_and] at hcm
      simp -implicitDefEqProofs [s0, s1]
      refine callQ_p (progMay_ok l n (by omega)) (by simp) ?_
      simp -implicitDefEqProofs [s0, s1]
      refine callQ_p (refProgMay_ok l n (by omega)) (by simp) ?_
      simp -implicitDefEqProofs [s0]
      refine callQ_p (sure_ok l (by omega)) (by simp) ?_
      simp -implicitDefEqProofs [s9, ← hcm]
    · rw [hg, Bool.true_and] at hcm
      simp -implicitDefEqProofs [s3, s6, hb, hc, encA]
      refine callQ_p (refMayKey_ok k a.length) (by simp [encKeyT]) ?_
      rw [hcm]
      simp -implicitDefEqProofs [s0, s1]
      refine callQ_p (progMay_ok l n (by omega)) (by simp) ?_
      simp -implicitDefEqProofs [s0, s1]
      refine callQ_p (refProgMay_ok l n (by omega)) (by simp) ?_
      simp -implicitDefEqProofs [s0]
      refine callQ_p (sure_ok l (by omega)) (by simp) ?_
      cases hk : keyOKs k a
      · simp -implicitDefEqProofs [s9]
      · obtain ⟨v1, v2⟩ := keyV_range hk
        simp -implicitDefEqProofs [s9, s3, s6, hb, hc]
        refine callQ_p (refKey_ok k a hk) (by simp [encKeyT, wk_encA]) ?_
        simp -implicitDefEqProofs [v1, v2]
end Go.Proofs

/- The statement ProgSure: its function hands back true. -/
namespace Go.Proofs
open Go Go.RowKit Go.Am

theorem sh_u8 {v : AV} (h : Sh.is (.int .u8) v) : ∃ n : Int, v = .int .u8 n ∧ (0 ≤ n ∧ n ≤ 255) := by
  obtain ⟨n, rfl, h⟩ := h
  refine ⟨n, rfl, ?_⟩
  simp [Lit.wf, IntKind.min, IntKind.max, IntKind.signed, IntKind.bits] at h
  omega
theorem mayKey_more {k : KeyT} {n m : Int} (hn : n ≤ m) (h : mayKey k n = true) : mayKey k m = true := by
  rw [mayKey_iff] at h ⊢
  omega
theorem oneInst_more {x : Inst} {n m : Int} (hn : n ≤ m) (h : oneInst x n = true) : oneInst x m = true := by
  unfold oneInst at h ⊢
  split
  · rename_i c; rw [if_pos c, Bool.and_eq_true] at h; rw [h.1, mayKey_more hn h.2]; rfl
  · rename_i c; rw [if_neg c] at h
    split
    · rename_i c; rw [if_pos c, Bool.and_eq_true] at h; rw [h.1, mayKey_more hn h.2]; rfl
    · rename_i c; rw [if_neg c] at h
      split
      · rename_i c; rw [if_pos c, Bool.and_eq_true, Bool.and_eq_true] at h; rw [h.1.1, mayKey_more hn h.1.2, mayKey_more hn h.2]; rfl
      · rename_i c; rw [if_neg c] at h; exact h
theorem progMay_more {l : List Inst} {n : Int} (h3 : n < 3) (h : progMay l n = true) : progMay l (n + 1) = true := by
  simp only [progMay, Bool.and_eq_true, Bool.not_eq_true', decide_eq_false_iff_not, List.all_eq_true] at h ⊢
  exact ⟨⟨⟨⟨by omega, by omega⟩, h.1.1.2⟩, h.1.2⟩, fun x hx => oneInst_more (by omega) (h.2 x hx)⟩

set_option maxHeartbeats 2000000 in
theorem progSure_ok (l : List Inst) (n : Int) (hn : 0 ≤ n ∧ n ≤ 255) : PCall Tryd.prog 4 [.sl .no (l.map encInst), .int .u8 n] (.bool true) := by
  refine PCall.run hb4 ok4 (by simp) (pures2 (elOK_Inst.pureL l) (.int _ _)) (.bool _) ?_
  simp -implicitDefEqProofs []
  refine callQ_p alive9_ok (by simp) ?_
  by_cases hl : (20 : Int) < l.length
  · simp -implicitDefEqProofs [hl]
  have hl2 : l.length ≤ 20 := by omega
  obtain ⟨k, hk, hk0, hk3⟩ : ∃ k : Int, IntKind.i64.wrap (n.tmod 4) = k ∧ 0 ≤ k ∧ k ≤ 3 := by
    have : n.tmod 4 = n % 4 := Int.tmod_eq_emod_of_nonneg hn.1
    exact ⟨n % 4, by rw [this, wrap_i64 (by omega) (by omega)], by omega, by omega⟩
  have w1 : IntKind.i64.wrap (k + 1) = k + 1 := wrap_i64 (by omega) (by omega)
  have hloop : ∀ (s : Slots) (h : H), s 0 = .sl .no (l.map encInst) → s 6 = .int .i64 0 → Run Tryd.prog false [.c (.loop c4_l14), .blk 0, .c (.seq (.reg c4_r15) .ret)] (retQ [.t 4] fun r' _ => Am.wk r' = .bool true) s h := by
    intro s h q0 q6
    refine run_loop (fun m s h => ∃ j : Nat, m = l.length - j ∧ j ≤ l.length ∧ s 0 = .sl .no (l.map encInst) ∧ s 6 = .int .i64 j) ?_ l.length ?_
    rotate_left
    · exact ⟨0, by simp [q0, q6]⟩
    rintro m s h ⟨j, hm, hj, s0, s6⟩ ih
    by_cases hlt : j < l.length
    · simp -implicitDefEqProofs [s0, s6, hlt]
      refine callQ_p (sure_ok l (by omega)) (by simp) ?_
      cases hs : l.all sureI
      · simp -implicitDefEqProofs []
      · have h1 : ((l.map encInst).take (j + 1)).drop j = [l[j]].map encInst := by
          rw [← List.map_take, ← List.map_drop, List.take_succ_eq_append_getElem hlt, List.drop_append_of_le_length (by rw [List.length_take]; omega), List.drop_eq_nil_of_le (by rw [List.length_take]; omega), List.nil_append]
        have h2 : (l.map encInst).take j = (l.take j).map encInst := by rw [List.map_take]
        have a1 : [l[j]].all sureI = true := by
          rw [List.all_eq_true] at hs ⊢
          intro x hx
          rw [List.mem_singleton.1 hx]; exact hs _ (List.getElem_mem hlt)
        have a2 : (l.take j).all sureI = true := by
          rw [List.all_eq_true] at hs ⊢
          exact fun x hx => hs x (List.mem_of_mem_take hx)
        have c1 := sure_ok [l[j]] (by simp)
        have c2 := sure_ok (l.take j) (by rw [List.length_take]; omega)
        rw [a1] at c1
        rw [a2] at c2
        simp -implicitDefEqProofs [s0, s6, inc_i64 hlt (by omega), -Int.natCast_add, show j + 1 ≤ l.length by omega]
        rw [h1]
        refine callQ_p c1 (by simp) ?_
        simp -implicitDefEqProofs [s0, s6, show j ≤ l.length by omega]
        rw [h2]
        refine callQ_p c2 (by simp) ?_
        simp -implicitDefEqProofs [s6, inc_i64 hlt (by omega), -Int.natCast_add]
        exact ih (l.length - (j + 1)) _ _ (by omega) ⟨j + 1, rfl, by omega, by simp [s0], by simp⟩
    · simp -implicitDefEqProofs [s0, s6, hlt]
  simp -implicitDefEqProofs [hl, hk]
  refine callQ_p (progMay_ok l k (by omega)) (by simp) ?_
  cases hm : progMay l k
  · simp -implicitDefEqProofs []
    exact hloop _ _ (by simp) (by simp)
  · by_cases h3 : k < 3
    · simp -implicitDefEqProofs [hk, h3, w1]
      refine callQ_p (progMay_ok l (k + 1) (by omega)) (by simp) ?_
      rw [progMay_more h3 hm]
      simp -implicitDefEqProofs []
      exact hloop _ _ (by simp) (by simp)
    · simp -implicitDefEqProofs [hk, h3]
      exact hloop _ _ (by simp) (by simp)
end Go.Proofs
