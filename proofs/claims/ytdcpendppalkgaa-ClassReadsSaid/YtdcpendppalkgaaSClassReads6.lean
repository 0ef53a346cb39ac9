/- What the functions that the statement reaches do: their contracts; and what follows of it. -/
import Derived.Test.YtdcpendppalkgaaSClassReads5
import Derived.Test.YtdcpendppalkgaaSClassReads3
/- Which programs, footprints, classes and catalogues there may be: the document's answer. -/
namespace Go.Proofs
open Go Go.RowKit Go.Am

theorem elOK_Inst : ElOK encInst 9 true := ⟨fun _ => rfl, (fun h => by cases h), pure_encInst, wk_encInst⟩
theorem elOK_SpanT : ElOK encSpanT 5 true := ⟨fun _ => rfl, (fun h => by cases h), pure_encSpanT, wk_encSpanT⟩
theorem elOK_Stp : ElOK encStp 2 true := ⟨fun _ => rfl, (fun h => by cases h), pure_encStp, wk_encStp⟩
theorem elOK_Cls : ElOK encCls 5 true := ⟨fun _ => rfl, (fun h => by cases h), pure_encCls, wk_encCls⟩
theorem elOK_Spn : ElOK encSpn 2 true := ⟨fun _ => rfl, (fun h => by cases h), pure_encSpn, wk_encSpn⟩
theorem elOK_Nod : ElOK encNod 6 true := ⟨fun _ => rfl, (fun h => by cases h), pure_encNod, wk_encNod⟩
theorem elOK_Chg : ElOK encChg 3 true := ⟨fun _ => rfl, (fun h => by cases h), pure_encChg, wk_encChg⟩
theorem elOK_KeyT : ElOK encKeyT 2 true := ⟨fun _ => rfl, (fun h => by cases h), pure_encKeyT, wk_encKeyT⟩

def progMay (l : List Inst) (args : Int) : Bool := !decide (args < 0) && !decide (3 < args) && !decide (l.length < 1) && !decide (8 < l.length) && l.all fun x => oneInst x args
def footMay (l : List SpanT) (args : Int) : Bool := !decide (args < 0) && !decide (3 < args) && !decide (4 < l.length) && l.all fun s => mayKey s.lo args && mayKey s.hi args

theorem all_take_false {α : Type} {p : α → Bool} {l : List α} {j : Nat} (hj : j < l.length) (h : p l[j] = false) : l.all p = false := by
  rw [List.all_eq_false]
  exact ⟨l[j], List.getElem_mem hj, by simp [h]⟩
theorem all_whole {α : Type} {p : α → Bool} {l : List α} {j : Nat} (hj : l.length ≤ j) (h : ∀ i (hi : i < l.length), i < j → p l[i] = true) : l.all p = true := by
  rw [List.all_eq_true]
  intro x hx
  obtain ⟨i, hi, rfl⟩ := List.mem_iff_getElem.1 hx
  exact h i hi (by omega)

theorem refProgMay_ok (l : List Inst) (args : Int) (hl : l.length ≤ 9223372036854775807) : PCall Try.prog 97 [.sl .no (l.map encInst), .int .i64 args] (.bool (progMay l args)) := by
  refine PCall.run hb97 ok97 (by simp) (pures_cons (elOK_Inst.pureL l) (pures1 (.int _ _))) (.bool _) ?_
  by_cases bad : ((args < 0 ∨ 3 < args) ∨ (l.length : Int) < 1) ∨ (8 : Int) < (l.length : Int)
  · have hf : progMay l args = false := by
      simp only [progMay, Bool.and_eq_false_iff, Bool.not_eq_false', decide_eq_true_eq]
      omega
    simp (maxSteps := 2000000) +contextual -implicitDefEqProofs [↓gdL_F, ↓condQ_b, -Int.not_lt, -Int.not_le, -Nat.not_lt, -Nat.not_le, hf]
    all_goals (intros; omega)
  · have hm : progMay l args = l.all fun x => oneInst x args := by
      simp only [progMay, show ¬ args < 0 by omega, show ¬ 3 < args by omega, show ¬ l.length < 1 by omega, show ¬ 8 < l.length by omega]
      simp
    simp (maxSteps := 2000000) +contextual -implicitDefEqProofs [↓gdL_F, ↓condQ_b, -Int.not_lt, -Int.not_le, -Nat.not_lt, -Nat.not_le, show ¬ args < 0 by omega, show ¬ 3 < args by omega, show ¬ (l.length : Int) < 1 by omega, show ¬ (8 : Int) < (l.length : Int) by omega, hm]
    refine run_loop (fun n s h => ∃ j : Nat, n = l.length - j ∧ j ≤ l.length ∧ s 0 = .sl .no (l.map encInst) ∧ s 1 = .int .i64 args ∧ s 5 = .int .i64 j ∧ ∀ i (hi : i < l.length), i < j → oneInst l[i] args = true) ?_ l.length ?_
    · rintro n s h ⟨j, hn, hj, h0, h1, h5, hall⟩ ih
      by_cases hlt : j < l.length
      · simp -implicitDefEqProofs [h0, h1, h5, hlt, elOK_Inst.un, -unCells]
        refine callQ_p (refOne_ok l[j] args) (by simp [elV]) ?_
        cases hp : oneInst l[j] args
        · simp -implicitDefEqProofs [all_take_false (p := fun x => oneInst x args) hlt hp]
        · simp -implicitDefEqProofs [h5, inc_i64 hlt hl, -Int.natCast_add]
          exact ih (l.length - (j + 1)) _ _ (by omega) ⟨j + 1, rfl, by omega, by simp [h0], by simp [h1], by simp, fun i hi hij => by
            by_cases h : i = j
            · subst h; exact hp
            · exact hall i hi (by omega)⟩
      · simp -implicitDefEqProofs [h0, h5, hlt, all_whole (p := fun x => oneInst x args) (by omega) hall]
    · exact ⟨0, by simp⟩

theorem refFootMay_ok (l : List SpanT) (args : Int) (hl : l.length ≤ 9223372036854775807) : PCall Try.prog 98 [.sl .no (l.map encSpanT), .int .i64 args] (.bool (footMay l args)) := by
  refine PCall.run hb98 ok98 (by simp) (pures_cons (elOK_SpanT.pureL l) (pures1 (.int _ _))) (.bool _) ?_
  by_cases bad : (args < 0 ∨ 3 < args) ∨ (4 : Int) < (l.length : Int)
  · have hf : footMay l args = false := by
      simp only [footMay, Bool.and_eq_false_iff, Bool.not_eq_false', decide_eq_true_eq]
      omega
    simp (maxSteps := 2000000) +contextual -implicitDefEqProofs [↓gdL_F, ↓condQ_b, -Int.not_lt, -Int.not_le, -Nat.not_lt, -Nat.not_le, hf]
    all_goals (intros; omega)
  · have hm : footMay l args = l.all fun s => mayKey s.lo args && mayKey s.hi args := by
      simp only [footMay, show ¬ args < 0 by omega, show ¬ 3 < args by omega, show ¬ 4 < l.length by omega]
      simp
    simp (maxSteps := 2000000) +contextual -implicitDefEqProofs [↓gdL_F, ↓condQ_b, -Int.not_lt, -Int.not_le, -Nat.not_lt, -Nat.not_le, show ¬ args < 0 by omega, show ¬ 3 < args by omega, show ¬ (4 : Int) < (l.length : Int) by omega, hm]
    refine run_loop (fun n s h => ∃ j : Nat, n = l.length - j ∧ j ≤ l.length ∧ s 0 = .sl .no (l.map encSpanT) ∧ s 1 = .int .i64 args ∧ s 5 = .int .i64 j ∧ ∀ i (hi : i < l.length), i < j → (mayKey l[i].lo args && mayKey l[i].hi args) = true) ?_ l.length ?_
    · rintro n s h ⟨j, hn, hj, h0, h1, h5, hall⟩ ih
      by_cases hlt : j < l.length
      · simp -implicitDefEqProofs [h0, h1, h5, hlt, encSpanT]
        refine callQ_p (refMayKey_ok l[j].lo args) (by simp [encKeyT]) ?_
        cases hp : mayKey l[j].lo args
        · simp -implicitDefEqProofs [all_take_false (p := fun s => mayKey s.lo args && mayKey s.hi args) hlt (by simp [hp])]
        · simp -implicitDefEqProofs [h0, h1, h5, hlt, encSpanT]
          refine callQ_p (refMayKey_ok l[j].hi args) (by simp [encKeyT]) ?_
          cases hq : mayKey l[j].hi args
          · simp -implicitDefEqProofs [all_take_false (p := fun s => mayKey s.lo args && mayKey s.hi args) hlt (by simp [hp, hq])]
          · simp -implicitDefEqProofs [h5, inc_i64 hlt hl, -Int.natCast_add]
            exact ih (l.length - (j + 1)) _ _ (by omega) ⟨j + 1, rfl, by omega, by simp [h0], by simp [h1], by simp, fun i hi hij => by
              by_cases h : i = j
              · subst h; simp [hp, hq]
              · exact hall i hi (by omega)⟩
      · have hw := all_whole (p := fun s : SpanT => mayKey s.lo args && mayKey s.hi args) (by omega) hall
        simp -implicitDefEqProofs [h0, h5, hlt, hw]
    · exact ⟨0, by simp⟩
end Go.Proofs

/- Which classes and catalogues there may be: the document's answer. -/
namespace Go.Proofs
open Go Go.RowKit Go.Am

def backMay (c : Stp) (args : Int) : Bool := (!decide (0 < c.code.length) || progMay c.code args) && c.code.all fun x => decide (x.op < 6)
def stepMay (args : Int) (p : Stp × Stp) : Bool := progMay p.1.code args && footMay p.1.foot args && footMay p.2.foot args && backMay p.2 args
def clsMay (x : Cls) : Bool :=
  !decide (x.name.size < 1) && !decide (16 < x.name.size) && !decide (x.args < 0) && !decide (3 < x.args) && !decide (x.steps.length < 1) && !decide (4 < x.steps.length) && decide (x.comps.length = x.steps.length) &&
    (x.steps.zip x.comps).all (stepMay x.args)

theorem refClsMay_ok (x : Cls) (hx : x.wf) : PCall Try.prog 41 [.agg (encCls x)] (.bool (clsMay x)) := by
  refine PCall.run hb41 ok41 (by simp) (pures1 (.agg (pure_encCls x))) (.bool _) ?_
  obtain ⟨hwn, hwa, ⟨hsl, hsw⟩, hcl, hcw⟩ := hx
  by_cases bad : x.name.size < 1 ∨ 16 < x.name.size ∨ x.args < 0 ∨ 3 < x.args ∨ x.steps.length < 1 ∨ 4 < x.steps.length ∨ x.comps.length ≠ x.steps.length
  · have hf : clsMay x = false := by
      simp only [clsMay, Bool.and_eq_false_iff, Bool.not_eq_false', decide_eq_true_eq, decide_eq_false_iff_not]
      omega
    simp (maxSteps := 2000000) +contextual -implicitDefEqProofs [↓gdL_F, ↓condQ_b, -Int.not_lt, -Int.not_le, -Nat.not_lt, -Nat.not_le, hf, encCls]
    all_goals (intros; omega)
  · have hm : clsMay x = (x.steps.zip x.comps).all (stepMay x.args) := by
      simp only [clsMay, show ¬ x.name.size < 1 by omega, show ¬ 16 < x.name.size by omega, show ¬ x.args < 0 by omega, show ¬ 3 < x.args by omega, show ¬ x.steps.length < 1 by omega, show ¬ 4 < x.steps.length by omega, show x.comps.length = x.steps.length by omega]
      simp
    have hcs : x.comps.length = x.steps.length := by omega
    have hzl : (x.steps.zip x.comps).length = x.steps.length := by simp [hcs]
    have e1 : ¬ (x.name.size : Int) < 1 := by omega
    have e2 : ¬ (16 : Int) < (x.name.size : Int) := by omega
    have e5 : ¬ (x.steps.length : Int) < 1 := by omega
    have e6 : ¬ (4 : Int) < (x.steps.length : Int) := by omega
    simp -implicitDefEqProofs [encCls, e1, e2, show ¬ x.args < 0 by omega, show ¬ 3 < x.args by omega, e5, e6, hcs, hm]
    refine run_loop (fun n s h => ∃ j : Nat, n = x.steps.length - j ∧ j ≤ x.steps.length ∧ s 1 = .ptr 0 0 ∧ 0 < h.bn ∧ h.bx 0 = some [.str x.name, .int .i64 x.args, .sl .no (x.steps.map encStp), .sl .no (x.comps.map encStp), .bool x.resume] ∧ s 3 = .int .i64 x.steps.length ∧ s 4 = .int .i64 j ∧ ∀ i (hi : i < (x.steps.zip x.comps).length), i < j → stepMay x.args (x.steps.zip x.comps)[i] = true) ?_ x.steps.length ?_
    · rintro n s h ⟨j, hn, hj, h1, h0, hb, h3, h4, hall⟩ ih
      by_cases hlt : j < x.steps.length
      · have hlt2 : j < x.comps.length := by omega
        have hlz : j < (x.steps.zip x.comps).length := by omega
        have hws := hsw _ (List.getElem_mem hlt)
        have hwc := hcw _ (List.getElem_mem hlt2)
        have hno : stepMay x.args (x.steps.zip x.comps)[j] = false → (x.steps.zip x.comps).all (stepMay x.args) = false := all_take_false hlz
        rw [List.getElem_zip] at hno
        simp -implicitDefEqProofs [h3, h4, hlt]
        refine run_dregL c41_d7 rfl ?_
        simp -implicitDefEqProofs [h1, h0, hb, h4, hlt, encStp]
        refine callC_p (refProgMay_ok x.steps[j].code x.args hws.1.1) (by simp) ?_
        cases hp : progMay x.steps[j].code x.args
        · have := hno (by simp [stepMay, hp])
          simp -implicitDefEqProofs [this]
        simp -implicitDefEqProofs [h1, h0, hb, h4, hlt, encStp]
        refine callC_p (refFootMay_ok x.steps[j].foot x.args hws.2.1) (by simp) ?_
        cases hq : footMay x.steps[j].foot x.args
        · have := hno (by simp [stepMay, hp, hq])
          simp -implicitDefEqProofs [this]
        simp -implicitDefEqProofs [h1, h0, hb, h4, hlt2, encStp]
        refine callC_p (refFootMay_ok x.comps[j].foot x.args hwc.2.1) (by simp) ?_
        cases hr : footMay x.comps[j].foot x.args
        · have := hno (by simp [stepMay, hp, hq, hr])
          simp -implicitDefEqProofs [this]
        simp -implicitDefEqProofs [h1, h0, hb, h4, hlt2, encStp]
        have hb2 : backMay x.comps[j] x.args = false → (x.steps.zip x.comps).all (stepMay x.args) = false := fun h => hno (by simp [stepMay, h])
        have hb3 : backMay x.comps[j] x.args = true → stepMay x.args (x.steps[j], x.comps[j]) = true := fun h => by simp [stepMay, hp, hq, hr, h]
        clear hno
        have hend : ∀ i (hi : i < (x.steps.zip x.comps).length), backMay x.comps[j] x.args = true → i < j + 1 → stepMay x.args (x.steps.zip x.comps)[i] = true := fun i hi hbm hij => by
          by_cases h : i = j
          · subst h; rw [List.getElem_zip]; exact hb3 hbm
          · exact hall i hi (by omega)
        by_cases hc : 0 < x.comps[j].code.length
        focus
          simp -implicitDefEqProofs [hc, h1, h0, hb]
          refine callQ_p (refProgMay_ok x.comps[j].code x.args hwc.1.1) (by simp) ?_
          cases hs : progMay x.comps[j].code x.args
          · have := hb2 (by simp [backMay, hc, hs])
            simp -implicitDefEqProofs [this, hc]
          simp -implicitDefEqProofs [hc]
          have hcode : (!decide (0 < x.comps[j].code.length) || progMay x.comps[j].code x.args) = true := by simp [hs]
        rotate_left
        focus
          simp -implicitDefEqProofs [hc]
          have hcode : (!decide (0 < x.comps[j].code.length) || progMay x.comps[j].code x.args) = true := by simp [hc]
        all_goals
          have hbm : backMay x.comps[j] x.args = x.comps[j].code.all fun x => decide (x.op < 6) := by simp [backMay, hcode]
          refine run_loop (fun n s h => ∃ k : Nat, n = x.comps[j].code.length - k ∧ k ≤ x.comps[j].code.length ∧ s 1 = .ptr 0 0 ∧ 0 < h.bn ∧ h.bx 0 = some [.str x.name, .int .i64 x.args, .sl .no (x.steps.map encStp), .sl .no (x.comps.map encStp), .bool x.resume] ∧ s 3 = .int .i64 x.steps.length ∧ s 4 = .int .i64 j ∧ s 5 = .sl .no (x.comps[j].code.map encInst) ∧ s 6 = .int .i64 k ∧ ∀ i (hi : i < x.comps[j].code.length), i < k → decide (x.comps[j].code[i].op < 6) = true) ?_ x.comps[j].code.length ?_
          · rintro n s h ⟨k, hn, hk, h1, h0, hb, h3, h4, h5, h6, hal⟩ ih2
            by_cases hlk : k < x.comps[j].code.length
            · by_cases ho : x.comps[j].code[k].op < 6
              · simp -implicitDefEqProofs [h5, h6, hlk, encInst, show ¬ 6 ≤ x.comps[j].code[k].op by omega, inc_i64 hlk hwc.1.1, -Int.natCast_add]
                exact ih2 (x.comps[j].code.length - (k + 1)) _ _ (by omega) ⟨k + 1, rfl, by omega, by simp [h1], by simpa using h0, by simp [hb], by simp [h3], by simp [h4], by simp [h5], by simp, fun i hi hij => by
                  by_cases h : i = k
                  · subst h; simpa using ho
                  · exact hal i hi (by omega)⟩
              · have := hb2 (hbm ▸ all_take_false (p := fun x : Inst => decide (x.op < 6)) hlk (by simpa using ho))
                simp -implicitDefEqProofs [h5, h6, hlk, encInst, show 6 ≤ x.comps[j].code[k].op by omega, this]
            · have hbt := hbm.trans (all_whole (p := fun x : Inst => decide (x.op < 6)) (by omega) hal)
              simp -implicitDefEqProofs [h4, h5, h6, hlk, inc_i64 hlt hsl, -Int.natCast_add]
              exact ih (x.steps.length - (j + 1)) _ _ (by omega) ⟨j + 1, rfl, by omega, by simp [h1], by simpa using h0, by simp [hb], by simp [h3], by simp, fun i hi hij => hend i hi hbt hij⟩
          · exact ⟨0, by simp [h1, h0, hb, h3, h4]⟩
      · have hw := all_whole (p := stepMay x.args) (by omega) hall
        simp -implicitDefEqProofs [h3, h4, hlt, hw]
    · exact ⟨0, by simp [H.nil]⟩
end Go.Proofs

/- Which catalogues there may be: the document's answer. -/
namespace Go.Proofs
open Go Go.RowKit Go.Am

def Ctlg.nameAt (x : Ctlg) (i : Nat) : ByteArray := (x.classes[i]?.map (·.name)).getD ByteArray.empty
def Ctlg.stepsN (x : Ctlg) (i : Nat) : Nat := (x.classes[i]?.map (·.steps.length)).getD 0
def Ctlg.brk (x : Ctlg) (c d : Nat) : Int := (x.breaks[4 * c + d]?).getD 0
def Ctlg.mostB (x : Ctlg) (c d : Nat) : Int := if c < x.classes.length ∧ d < x.classes.length then 2 ^ (x.stepsN c - 1) else 1
def Ctlg.brkOK (x : Ctlg) (c d : Nat) : Bool := !decide (x.brk c d < 0) && !decide (x.mostB c d ≤ x.brk c d)
def Ctlg.namesOK (x : Ctlg) (i : Nat) : Bool := (List.range i).all fun j => !decide (x.nameAt j = x.nameAt i)
def Ctlg.clsOK (x : Ctlg) (i : Nat) : Bool := (x.classes[i]?.map clsMay).getD false
def catMay (x : Ctlg) : Bool :=
  !decide (x.classes.length < 1) && !decide (4 < x.classes.length) && ((List.range x.classes.length).all fun i => x.clsOK i && x.namesOK i) && (List.range 4).all fun c => (List.range 4).all (x.brkOK c)

theorem allR_false {p : Nat → Bool} {n j : Nat} (hj : j < n) (h : p j = false) : (List.range n).all p = false := by
  rw [List.all_eq_false]
  exact ⟨j, List.mem_range.2 hj, by simp [h]⟩
theorem allR_true {p : Nat → Bool} {n j : Nat} (hj : n ≤ j) (h : ∀ i, i < j → p i = true) : (List.range n).all p = true := by
  rw [List.all_eq_true]
  intro x hx
  exact h x (by have := List.mem_range.1 hx; omega)
@[simp] theorem take_encCls (y : Cls) : List.take 5 (encCls y) = encCls y := rfl
theorem Ctlg.brk_of {x : Ctlg} {c d : Nat} (hb : x.breaks.length = 16) (hc : c < 4) (hd : d < 4) : x.brk c d = x.breaks[4 * c + d] := by simp [brk, show 4 * c + d < x.breaks.length by omega]
theorem Ctlg.brk_load {x : Ctlg} (v : AV) {c d : Nat} (hb : x.breaks.length = 16) (hc : c < 4) (hd : d < 4) : List.take 1 (List.drop (1 + c * 4 + d) (v :: x.breaks.map (AV.int .i64))) = [.int .i64 (x.brk c d)] := by
  rw [show 1 + c * 4 + d = (4 * c + d) + 1 by omega, List.drop_succ_cons, brk_of hb hc hd, List.drop_eq_getElem_cons (by simp; omega)]
  simp
theorem Ctlg.nameAt_of {x : Ctlg} {i : Nat} (h : i < x.classes.length) : x.nameAt i = x.classes[i].name := by simp [nameAt, h]
theorem Ctlg.stepsN_of {x : Ctlg} {i : Nat} (h : i < x.classes.length) : x.stepsN i = x.classes[i].steps.length := by simp [stepsN, h]
theorem Ctlg.clsOK_of {x : Ctlg} {i : Nat} (h : i < x.classes.length) : x.clsOK i = clsMay x.classes[i] := by simp [clsOK, h]

end Go.Proofs

/- What is read as a template, an instruction, a span, a program, a footprint, a class: plain laws; contracts of readers. -/
namespace Go.Proofs
open Go Go.RowKit Go.Am

def Rd.none {α : Type} : Rd α := fun _ => Option.none
def Rd.rep {α : Type} (p : Rd α) : Nat → Rd (List α)
  | 0 => Rd.pure []
  | k + 1 => (Rd.rep p k).bind fun L => p.bind fun a => Rd.pure (L ++ [a])
def rdKey : Rd KeyT := rdSigned.bind fun a => if a < -1 ∨ 255 < a then Rd.none else (rdCount 999).bind fun n => Rd.pure ⟨a, n⟩
def rdInst : Rd Inst := (rdCount 255).bind fun op => (rdCount 255).bind fun a => (rdCount 255).bind fun b => (rdCount 255).bind fun c => rdKey.bind fun k => rdKey.bind fun l => rdSigned.bind fun x => Rd.pure ⟨op, a, b, c, k, l, x⟩
def rdSpanT : Rd SpanT := rdKey.bind fun lo => rdKey.bind fun hi => rdFlag.bind fun w => Rd.pure ⟨lo, hi, w⟩
def rdProg : Rd (List Inst) := (rdCount 8).bind fun n => Rd.rep rdInst n.toNat
def rdFoot : Rd (List SpanT) := (rdCount 4).bind fun n => Rd.rep rdSpanT n.toNat
def rdStp : Rd Stp := rdProg.bind fun c => rdFoot.bind fun f => Rd.pure ⟨c, f⟩
def rdPair : Rd (Stp × Stp) := rdStp.bind fun s => rdStp.bind fun u => Rd.pure (s, u)
def rdCls : Rd Cls := rdText.bind fun name => (rdCount 3).bind fun args => (rdCount 4).bind fun n => (Rd.rep rdPair n.toNat).bind fun l => rdFlag.bind fun r => Rd.pure ⟨name, args, l.map (·.1), l.map (·.2), r⟩

theorem Got.fail {α : Type} (s : RS) (a : α) : Got (Rd.none) s a none := by cases s <;> simp [Got, Rd.none]
theorem Got.bad {α : Type} {p : Rd α} {s' : RS} {a : α} (h : Got p none a s') : s' = none := h
/-- Where it isn't right, the value doesn't count. -/
theorem Got.any {α : Type} {p : Rd α} {s : RS} {a : α} (h : Got p s a none) (b : α) : Got p s b none := by
  unfold Got at h ⊢
  cases hp : s.bind p with
  | none => rfl
  | some x => rw [hp] at h; obtain ⟨_, h2⟩ := h; cases h2
theorem Got.eq {α : Type} {p : Rd α} {s : RS} {a : α} {l' : List Nat} (h : Got p s a (some l')) (d : α) : Proofs.runS p d s = (a, some l') := by
  unfold Got at h
  unfold Proofs.runS
  cases hp : s.bind p with
  | none => rw [hp] at h; cases h
  | some x => rw [hp] at h; obtain ⟨rfl, h2⟩ := h; cases h2; rfl
theorem Got.none_eq {α : Type} {p : Rd α} {s : RS} {a : α} (h : Got p s a none) (d : α) : Proofs.runS p d s = (d, none) := by
  unfold Got at h
  unfold Proofs.runS
  cases hp : s.bind p with
  | none => rfl
  | some x => rw [hp] at h; obtain ⟨_, h2⟩ := h; cases h2

theorem RdOK.none {α : Type} : RdOK (Rd.none (α := α)) := fun l a l' h => by cases h
theorem RdOK.rep {α : Type} {p : Rd α} (hp : RdOK p) : ∀ k, RdOK (Rd.rep p k)
  | 0 => RdOK.pure _
  | k + 1 => (RdOK.rep hp k).bind fun _ => hp.bind fun _ => RdOK.pure _
theorem rdKey_ok : RdOK rdKey := (rdSigned_ok).bind fun a => by
  split
  · exact RdOK.none
  · exact (rdCount_ok _).bind fun _ => RdOK.pure _
theorem rdInst_ok : RdOK rdInst := (rdCount_ok _).bind fun _ => (rdCount_ok _).bind fun _ => (rdCount_ok _).bind fun _ => (rdCount_ok _).bind fun _ => rdKey_ok.bind fun _ => rdKey_ok.bind fun _ => rdSigned_ok.bind fun _ => RdOK.pure _
theorem rdSpanT_ok : RdOK rdSpanT := rdKey_ok.bind fun _ => rdKey_ok.bind fun _ => rdFlag_ok.bind fun _ => RdOK.pure _
theorem rdProg_ok : RdOK rdProg := (rdCount_ok _).bind fun _ => rdInst_ok.rep _
theorem rdFoot_ok : RdOK rdFoot := (rdCount_ok _).bind fun _ => rdSpanT_ok.rep _
theorem rdStp_ok : RdOK rdStp := rdProg_ok.bind fun _ => rdFoot_ok.bind fun _ => RdOK.pure _
theorem rdPair_ok : RdOK rdPair := rdStp_ok.bind fun _ => rdStp_ok.bind fun _ => RdOK.pure _
theorem rdCls_ok : RdOK rdCls := rdText_ok.bind fun _ => (rdCount_ok _).bind fun _ => (rdCount_ok _).bind fun _ => (rdPair_ok.rep _).bind fun _ => rdFlag_ok.bind fun _ => RdOK.pure _

theorem CutOK.upd {P : Program} {h h1 : H} {b : Nat} {cs cs1 : List AV} {r1 r : AV} (hb : b < h.bn) (e : wk r1 = r) (hf : HF h h1 (· = b) (fun _ => False)) (hb1 : h1.bx b = some cs1) (hcs1 : WkL cs1 cs) (hr : PureV r) (hcs : ∀ v ∈ cs, PureV v) : CutOK h h1 (h.set b cs) id r1 r := by
  refine ⟨Nat.le_refl _, fun _ _ => rfl, fun b hb => Nat.lt_of_lt_of_le hb hf.bn, fun _ _ _ _ h => h, fun b' cs' hb' hcs' => ?_, ⟨Nat.le_refl _, hf.tn⟩, fun i hi => (hf.tk i hi fun h => h).symm, ⟨rfl, hf.ln⟩,
    fun l q hl hq => ⟨(hf.lp l hl).trans hq, q, hq, rfl⟩, ⟨rfl, hf.mn⟩, fun m es hm hes => ⟨(hf.mp m hm).trans hes, hes⟩, Low.weak' ?_⟩
  · by_cases hbb : b' = b
    · subst hbb
      have : cs = cs' := by simpa [H.set] using hcs'
      subst this
      exact .inr ⟨cs1, hb1, hcs1, fun v hv => (hcs v hv).low _ _ _ _ _⟩
    · have : h.bx b' = some cs' := by simpa [H.set, hbb] using hcs'
      exact .inl ⟨hb', (hf.bx b' hb' hbb).trans this, this⟩
  · rw [e]
    exact hr.low _ _ _ _ _

/-- A piece of reading, whatever it hands back where it isn't right. -/
def RdQ {α : Type} (f : FuncId) (args : List AV) (h : H) (b : Nat) (s : RS) (p : Rd α) (enc : α → AV) : Prop :=
  CallP Try.prog f args h fun r h1 => ∃ a s', r = enc a ∧ h1 = h.set b (encRS s') ∧ RTo h b h1 s' ∧ Got p s a s'
theorem RdQ.mk' {α : Type} {f : FuncId} {args : List AV} {h : H} {b : Nat} {s : RS} {p : Rd α} {enc : α → AV} (hr : RIs h b s) (hv : ∀ a, PureV (enc a))
    (hc : CallP Try.prog f args h fun r h1 => ∃ a s', wk r = enc a ∧ RFin h b h1 s' ∧ Bd s' ∧ Got p s a s') : RdQ f args h b s p enc :=
  hc.cut fun r h1 ⟨a, s', e, ⟨hf, cs1, hb1, hcs1⟩, hbd, hg⟩ => ⟨h.set b (encRS s'), id, enc a, CutOK.upd (P := Try.prog) hr.blt e hf hb1 hcs1 (hv a) (pure_encRS _), a, s', rfl, rfl, RTo.set hr hbd, hg⟩
theorem RdS.q {α : Type} {f : FuncId} {args : List AV} {h : H} {b : Nat} {s : RS} {p : Rd α} {d : α} {enc : α → AV} (hc : RdS f args h b s p d enc) : RdQ f args h b s p enc :=
  hc.call.callP ⟨_, _, rfl, rfl, hc.to, Got.runS p d s⟩
theorem callQ_r {α : Type} {f : FuncId} {first caps args as' : List AV} {h : H} {b : Nat} {s : RS} {p : Rd α} {enc : α → AV} {K : AV → H → Prop} (hc : RdQ f as' h b s p enc) (ha : (first ++ args ++ caps).map wk = as')
    (hk : ∀ a s', RTo h b (h.set b (encRS s')) s' → Got p s a s' → K (enc a) (h.set b (encRS s'))) : callQ Try.prog (.fn f first caps) args h K :=
  callQ_c hc ha fun r h1 ⟨a, s', e1, e2, q1, q2⟩ => by subst e1; subst e2; exact hk a s' q1 q2
/-- What is read whole, or nothing. -/
theorem RdS.of {α : Type} {f : FuncId} {args : List AV} {h : H} {b : Nat} {s : RS} {p : Rd α} {d : α} {enc : α → AV} (hr : RIs h b s) (hp : RdOK p) (hv : ∀ a, PureV (enc a))
    (hc : CallP Try.prog f args h fun r h1 => ∃ a s', wk r = enc a ∧ RFin h b h1 s' ∧ Got p s a s' ∧ (s' = none → a = d)) : RdS f args h b s p d enc :=
  RdS.mk' hr hp hv (hc.mono fun r h1 ⟨a, s', q1, q2, q3, q4⟩ => by
    cases s' with
    | none =>
      rw [Got.none_eq q3 d, ← q4 rfl]
      exact ⟨q1, q2⟩
    | some l =>
      rw [Got.eq q3 d]
      exact ⟨q1, q2⟩)

/-- A slice that was made since. -/
def TNew (h : H) (t : Tok) : Prop := ∀ i, i < h.tn → ¬ TOwn t i
theorem TNew.full (h : H) : TNew h .full := fun i _ h => by cases h
theorem TNew.next {h h1 : H} {t t' : Tok} {B T : Nat → Prop} (a : TNew h t) (e : HF h h1 B T) (n : TNext h1 t t') : TNew h t' := fun i hi ho => by
  rcases n with rfl | ⟨j, rfl, hj⟩
  · exact a i hi ho
  · cases ho
    have := e.tn
    omega
theorem RTo.app {h h1 h2 : H} {b : Nat} {s : RS} {t : Tok} (a : RTo h b h1 s) (ht : TNew h t) (e : HF h1 h2 (fun _ => False) (TOwn t)) : RTo h b h2 s :=
  ⟨a.keep.trans' e (fun _ _ h => h.elim) (fun i hi h => ht i hi h), a.is.keep e fun h => h⟩
theorem RTo.al {h h1 : H} {b : Nat} {s : RS} (a : RTo h b h1 s) (cs : List AV) : RTo h b (h1.alloc cs) s := ⟨a.keep.trans (HF.alloc _ _ _ _), a.is.alloc _⟩
theorem RTo.so {h h1 : H} {b b' : Nat} {s : RS} (a : RTo h b h1 s) (hn : h.bn ≤ b') (hb : b < h.bn) (cs : List AV) : RTo h b (h1.set b' cs) s :=
  ⟨a.keep.trans' (HF.set (B := (· = b')) _ rfl) (fun x hx e => by have e : x = b' := e; omega) (fun _ _ h => h), a.is.setO (by omega)⟩
theorem RFin.so {h h1 : H} {b b' : Nat} {s : RS} (a : RFin h b h1 s) (hn : h.bn ≤ b') (hb : b < h.bn) (cs : List AV) : RFin h b (h1.set b' cs) s := by
  obtain ⟨q1, cs1, q2, q3⟩ := a
  exact ⟨q1.trans' (HF.set (B := (· = b')) _ rfl) (fun x hx e => by have e : x = b' := e; omega) (fun _ _ h => h), cs1, by simp [show ¬ b = b' by omega, q2], q3⟩
end Go.Proofs

/- The program's readers of programs and footprints. -/
namespace Go.Proofs
open Go Go.RowKit Go.Am

theorem pure_encKeyT' (k : KeyT) : PureV (.agg (encKeyT k)) := .agg (pures_cons (.int _ _) (pures1 (.int _ _)))

theorem getKey_rd {h : H} {b : Nat} {s : RS} (hr : RIs h b s) : RdQ 129 [.ptr b 0] h b s rdKey (fun k => .agg (encKeyT k)) := by
  refine RdQ.mk' hr pure_encKeyT' (CallP.run hb129 ok129 (by simp) ?_)
  have hb := hr.blt
  have z : ¬ b = h.bn := by omega
  have z' : ¬ h.bn = b := by omega
  simp -implicitDefEqProofs []
  refine callQ_r (signed_rd (hr.alloc _)).q (by simp) fun a s1 q1 g1 => ?_
  by_cases h1 : a < -1
  · simp -implicitDefEqProofs [h1]
    refine callQ_r (count_rd (most := -1) q1.is (by simp [inI])).q (by simp) fun n s2 q2 g2 => ?_
    have hs2 : s2 = none := by
      have := g2
      unfold Got at this
      cases s1 with
      | none => exact this
      | some l => cases l <;> simpa [rdCount] using this
    subst hs2
    simp -implicitDefEqProofs [z']
    refine ⟨⟨0, 0⟩, rfl, none, ((((RTo.refl hr).al _).trans (q1.trans q2)).so (Nat.le_refl _) hb _).fin, (fun l h => by cases h), ?_⟩
    exact g1.bind (by rw [if_pos (.inl h1)]; exact Got.fail _ _)
  by_cases h2 : 255 < a
  · simp -implicitDefEqProofs [h1, h2]
    refine callQ_r (count_rd (most := -1) q1.is (by simp [inI])).q (by simp) fun n s2 q2 g2 => ?_
    have hs2 : s2 = none := by
      have := g2
      unfold Got at this
      cases s1 with
      | none => exact this
      | some l => cases l <;> simpa [rdCount] using this
    subst hs2
    simp -implicitDefEqProofs [z']
    refine ⟨⟨0, 0⟩, rfl, none, ((((RTo.refl hr).al _).trans (q1.trans q2)).so (Nat.le_refl _) hb _).fin, (fun l h => by cases h), ?_⟩
    exact g1.bind (by rw [if_pos (.inr h2)]; exact Got.fail _ _)
  simp -implicitDefEqProofs [h1, h2]
  refine callQ_r (count_rd (most := 999) q1.is (by simp [inI])).q (by simp) fun n s2 q2 g2 => ?_
  simp -implicitDefEqProofs [z']
  refine ⟨⟨a, n⟩, rfl, s2, ((((RTo.refl hr).al _).trans (q1.trans q2)).so (Nat.le_refl _) hb _).fin, q2.is.bd, ?_⟩
  exact g1.bind (by rw [if_neg (by omega)]; exact g2.bind (Got.pure _ _))

theorem template_rd {h : H} {b : Nat} {s : RS} (hr : RIs h b s) : RdQ 130 [.ptr b 0] h b s rdKey (fun k => .agg (encKeyT k)) := by
  refine RdQ.mk' hr pure_encKeyT' (CallP.run hb130 ok130 (by simp) ?_)
  have hb := hr.blt
  have z : ¬ b = h.bn := by omega
  have z' : ¬ h.bn = b := by omega
  simp -implicitDefEqProofs []
  refine callQ_r (signed_rd (hr.alloc _)).q (by simp) fun a s1 q1 g1 => ?_
  by_cases h1 : a < -1 ∨ 255 < a
  · have hgo : ∀ {K : AV → H → Prop}, (∀ n, K (.int .i64 n) (((h.alloc [.int .i64 0, .int .i64 0]).set b (encRS s1)).set b (encRS none))) → callQ Try.prog (.fn 35 [] []) [.ptr b 0, .int .i64 (-1)] ((h.alloc [.int .i64 0, .int .i64 0]).set b (encRS s1)) K := fun {K} hk => by
      refine callQ_r (count_rd (most := -1) q1.is (by simp [inI])).q (by simp) fun n s2 q2 g2 => ?_
      have hs2 : s2 = none := by
        have := g2
        unfold Got at this
        cases s1 with
        | none => exact this
        | some l => cases l <;> simpa [rdCount] using this
      subst hs2
      exact hk n
    have q2 : RTo (h.alloc [.int .i64 0, .int .i64 0]) b (((h.alloc [.int .i64 0, .int .i64 0]).set b (encRS s1)).set b (encRS none)) none := q1.trans (RTo.set q1.is (fun l h => by cases h))
    by_cases h2 : a < -1
    focus
      simp -implicitDefEqProofs [h2]
    rotate_left
    focus
      have h3 : 255 < a := h1.resolve_left h2
      simp -implicitDefEqProofs [h2, h3]
    all_goals
      refine hgo fun n => ?_
      simp -implicitDefEqProofs []
      refine callQ_r (count_rd (most := 999) q2.is (by simp [inI])).q (by simp) fun n s3 q3 g3 => ?_
      have hs3 : s3 = none := g3
      subst hs3
      simp -implicitDefEqProofs [z']
      refine ⟨⟨a, n⟩, rfl, none, ((((RTo.refl hr).al _).trans (q2.trans q3)).so (Nat.le_refl _) hb _).fin, (fun l h => by cases h), ?_⟩
      exact g1.bind (by rw [if_pos h1]; exact Got.fail _ _)
  have h2 : ¬ a < -1 := fun h => h1 (.inl h)
  have h3 : ¬ 255 < a := fun h => h1 (.inr h)
  simp -implicitDefEqProofs [h2, h3]
  refine callQ_r (count_rd (most := 999) q1.is (by simp [inI])).q (by simp) fun n s2 q2 g2 => ?_
  simp -implicitDefEqProofs [z']
  refine ⟨⟨a, n⟩, rfl, s2, ((((RTo.refl hr).al _).trans (q1.trans q2)).so (Nat.le_refl _) hb _).fin, q2.is.bd, ?_⟩
  exact g1.bind (by rw [if_neg h1]; exact g2.bind (Got.pure _ _))
end Go.Proofs

/- The program's readers of programs and footprints, whole. -/
namespace Go.Proofs
open Go Go.RowKit Go.Am

/-- What a loop of reading has done. -/
structure RLoop {α : Type} (h : H) (b : Nat) (s1 : RS) (p : Rd α) (j : Nat) (h1 : H) (sj : RS) (L : List α) (t : Tok) : Prop where
  to : RTo h b h1 sj
  got : Got (Rd.rep p j) s1 L sj
  len : L.length = j
  live : TLive h1 t j
  new : TNew h t
theorem RLoop.start {α : Type} {h h1 : H} {b : Nat} {s1 : RS} {p : Rd α} (a : RTo h b h1 s1) : RLoop h b s1 p 0 h1 s1 [] .full := ⟨a, Got.pure _ _, rfl, trivial, TNew.full _⟩
theorem RLoop.next {α : Type} {h h1 h2 h3 : H} {b : Nat} {s1 sj s' : RS} {p : Rd α} {j : Nat} {L : List α} {t t' : Tok} {a : α} (r : RLoop h b s1 p j h1 sj L t) (g : Got p sj a s') (to : RTo h b h2 s')
    (hl : TLive h3 t' (j + 1)) (hn : TNext h2 t t') (hf : HF h2 h3 (fun _ => False) (TOwn t)) : RLoop h b s1 p (j + 1) h3 s' (L ++ [a]) t' :=
  ⟨to.app r.new hf, r.got.bind (g.bind (Got.pure _ _)), by rw [List.length_append, r.len]; rfl, hl, r.new.next to.keep hn⟩

set_option maxHeartbeats 1000000 in
theorem progGet_rd {h : H} {b : Nat} {s : RS} (hr : RIs h b s) : RdS 93 [.ptr b 0] h b s rdProg [] (fun l => .sl .no (l.map encInst)) := by
  refine RdS.of hr rdProg_ok (fun l => elOK_Inst.pureL l) (CallP.run hb93 ok93 (by simp) ?_)
  have hb := hr.blt
  simp -implicitDefEqProofs []
  have hn := count_rd hr (most := 8) (by simp [inI])
  refine callQ_s hn.call (by simp) ?_
  have q := hn.to
  have g := Got.runS (rdCount 8) 0 s
  have hin := rdCount_in (most := 8) (by simp [inI]) s
  clear hn
  generalize runS (rdCount 8) 0 s = x at q g hin ⊢
  obtain ⟨n, s1⟩ := x
  simp only at q g hin
  obtain ⟨N, rfl⟩ := Int.eq_ofNat_of_zero_le hin.1
  have hN : N ≤ 8 := by omega
  simp -implicitDefEqProofs []
  refine run_loop (fun m S h1 => ∃ (j : Nat) (sj : RS) (L : List Inst) (t : Tok), m = N - j ∧ j ≤ N ∧ S 0 = .ptr b 0 ∧ S 3 = .sl t (L.map encInst) ∧ S 7 = .int .i64 N ∧ S 8 = .int .i64 j ∧ RLoop h b s1 rdInst j h1 sj L t) ?_ N ?_
  rotate_left
  · exact ⟨0, s1, [], .full, rfl, Nat.zero_le _, by simp, by simp, by simp, by simp, RLoop.start q⟩
  rintro m S h1 ⟨j, sj, L, t, hm, hj, t0, t3, t7, t8, hL⟩ ih
  have hbn : h.bn ≤ h1.bn := hL.to.keep.bn
  have z0 : ¬ b = h1.bn := by omega
  have z1 : ¬ h1.bn = b := by omega
  by_cases hlt : j < N
  · simp -implicitDefEqProofs [t0, t7, t8, hlt]
    refine callQ_r (count_rd (most := 255) hL.to.is (by simp [inI])).q (by simp) fun v1 u1 q1 g1 => ?_
    simp -implicitDefEqProofs []
    refine callQ_r (count_rd (most := 255) q1.is (by simp [inI])).q (by simp) fun v2 u2 q2 g2 => ?_
    simp -implicitDefEqProofs []
    refine callQ_r (count_rd (most := 255) q2.is (by simp [inI])).q (by simp) fun v3 u3 q3 g3 => ?_
    simp -implicitDefEqProofs []
    refine callQ_r (count_rd (most := 255) q3.is (by simp [inI])).q (by simp) fun v4 u4 q4 g4 => ?_
    simp -implicitDefEqProofs [t0]
    have hb1 : b < h1.bn := by omega
    have k4 := q1.trans (q2.trans (q3.trans q4))
    refine callQ_r (getKey_rd (RTo.is (RTo.so (RTo.al k4 _) (b' := h1.bn) (Nat.le_refl _) hb1 _))) (by simp) fun v5 u5 q5 g5 => ?_
    have k5 := (RTo.so (RTo.al k4 _) (b' := h1.bn) (Nat.le_refl _) hb1 _).trans q5
    simp -implicitDefEqProofs [t0]
    refine callQ_r (getKey_rd k5.is) (by simp) fun v6 u6 q6 g6 => ?_
    have k6 := k5.trans q6
    simp -implicitDefEqProofs [t0, z1, encKeyT]
    refine callQ_r (signed_rd (RTo.is (RTo.so (RTo.so k6 (b' := h1.bn) (Nat.le_refl _) hb1 _) (b' := h1.bn) (Nat.le_refl _) hb1 _))).q (by simp) fun v7 u7 q7 g7 => ?_
    have k7 := (RTo.so (RTo.so k6 (b' := h1.bn) (Nat.le_refl _) hb1 _) (b' := h1.bn) (Nat.le_refl _) hb1 _).trans q7
    simp -implicitDefEqProofs [t3, z1]
    have k8 := RTo.so k7 (b' := h1.bn) (Nat.le_refl _) hb1 [.int .i64 v1, .int .i64 v2, .int .i64 v3, .int .i64 v4, .int .i64 v5.arg, .int .i64 v5.base, .int .i64 v6.arg, .int .i64 v6.base, .int .i64 v7]
    refine appQ_tok (t := t) (es := L.map encInst) (es2 := [encInst ⟨v1, v2, v3, v4, v5, v6, v7⟩]) (by simpa [hL.len] using hL.live) (by simp [encInst]) (by simp [srcA, encInst]) (by simp [hL.len]; omega) fun t' h3 p1 p2 p3 p4 => ?_
    have hg : Got rdInst sj ⟨v1, v2, v3, v4, v5, v6, v7⟩ u7 := g1.bind (g2.bind (g3.bind (g4.bind (g5.bind (g6.bind (g7.bind (Got.pure _ _)))))))
    have hl2 := hL.next hg (h2 := _) (h3 := h3) (t' := t') (hL.to.trans k8) (by simpa [hL.len] using p1) p2 p3
    simp -implicitDefEqProofs [t8, inc_i64 hlt (show N ≤ _ by omega), -Int.natCast_add]
    exact ih (N - (j + 1)) _ _ (by omega) ⟨j + 1, u7, _, t', rfl, by omega, by simp [t0], by simp, by simp [t7], by simp, hl2⟩
  · obtain rfl : j = N := by omega
    simp -implicitDefEqProofs [t0, t7, t8]
    refine callQ_s (rOk_ok hL.to.is) (by simp) ?_
    have hgp : Got rdProg s L sj := g.bind (by rw [Int.toNat_natCast]; exact hL.got)
    cases sj with
    | none =>
      simp -implicitDefEqProofs []
      exact ⟨none, hL.to.fin, Got.any hgp _⟩
    | some l =>
      simp -implicitDefEqProofs [t3]
      exact ⟨L, rfl, some l, hL.to.fin, hgp, (fun h => by cases h)⟩
end Go.Proofs

/- The program's reader of footprints and steps. -/
namespace Go.Proofs
open Go Go.RowKit Go.Am

set_option maxHeartbeats 1000000 in
theorem footGet_rd {h : H} {b : Nat} {s : RS} (hr : RIs h b s) : RdS 94 [.ptr b 0] h b s rdFoot [] (fun l => .sl .no (l.map encSpanT)) := by
  refine RdS.of hr rdFoot_ok (fun l => elOK_SpanT.pureL l) (CallP.run hb94 ok94 (by simp) ?_)
  have hb := hr.blt
  simp -implicitDefEqProofs []
  have hn := count_rd hr (most := 4) (by simp [inI])
  refine callQ_s hn.call (by simp) ?_
  have q := hn.to
  have g := Got.runS (rdCount 4) 0 s
  have hin := rdCount_in (most := 4) (by simp [inI]) s
  clear hn
  generalize runS (rdCount 4) 0 s = x at q g hin ⊢
  obtain ⟨n, s1⟩ := x
  simp only at q g hin
  obtain ⟨N, rfl⟩ := Int.eq_ofNat_of_zero_le hin.1
  have hN : N ≤ 4 := by omega
  simp -implicitDefEqProofs []
  refine run_loop (fun m S h1 => ∃ (j : Nat) (sj : RS) (L : List SpanT) (t : Tok), m = N - j ∧ j ≤ N ∧ S 0 = .ptr b 0 ∧ S 3 = .sl t (L.map encSpanT) ∧ S 7 = .int .i64 N ∧ S 8 = .int .i64 j ∧ RLoop h b s1 rdSpanT j h1 sj L t) ?_ N ?_
  rotate_left
  · exact ⟨0, s1, [], .full, rfl, Nat.zero_le _, by simp, by simp, by simp, by simp, RLoop.start q⟩
  rintro m S h1 ⟨j, sj, L, t, hm, hj, t0, t3, t7, t8, hL⟩ ih
  have hbn : h.bn ≤ h1.bn := hL.to.keep.bn
  have hb1 : b < h1.bn := by omega
  have z0 : ¬ b = h1.bn := by omega
  have z1 : ¬ h1.bn = b := by omega
  have z2 : ¬ h1.bn + 1 = b := by omega
  have z3 : ¬ b = h1.bn + 1 := by omega
  by_cases hlt : j < N
  · simp -implicitDefEqProofs [t0, t7, t8, hlt]
    refine callQ_r (template_rd hL.to.is) (by simp) fun v1 u1 q1 g1 => ?_
    simp -implicitDefEqProofs [t0]
    refine callQ_r (template_rd q1.is) (by simp) fun v2 u2 q2 g2 => ?_
    have k2 := q1.trans q2
    simp -implicitDefEqProofs [encKeyT]
    have k3 := RTo.so (RTo.so (RTo.al (RTo.al k2 [.int .i64 0, .int .i64 0]) [.int .i64 0, .int .i64 0]) (b' := h1.bn) (Nat.le_refl _) hb1 [.int .i64 v1.arg, .int .i64 v1.base]) (b' := h1.bn + 1) (Nat.le_succ _) hb1 [.int .i64 v2.arg, .int .i64 v2.base]
    have hf := flag_rd k3.is
    have g3 := Got.runS rdFlag false u2
    have q3 := hf.to
    generalize hx : runS rdFlag false u2 = x at g3 q3
    obtain ⟨v3, u3⟩ := x
    simp only at q3 g3
    have k4 := k3.trans q3
    refine run_dreg c94_d6 ?_
    simp -implicitDefEqProofs [t0, t3]
    refine callD_s hf.call (by simp) ?_
    rw [hx]
    simp -implicitDefEqProofs []
    refine appQ_tok (t := t) (es := L.map encSpanT) (es2 := [encSpanT ⟨v1, v2, v3⟩]) (by simpa [hL.len] using hL.live) (by simp [encSpanT]) (by simp [srcA, encSpanT]) (by simp [hL.len]; omega) fun t' h3 p1 p2 p3 p4 => ?_
    have hg : Got rdSpanT sj ⟨v1, v2, v3⟩ u3 := g1.bind (g2.bind (g3.bind (Got.pure _ _)))
    have hl2 := hL.next hg (h2 := _) (h3 := h3) (t' := t') (hL.to.trans k4) (by simpa [hL.len] using p1) p2 p3
    have f1 : h3.bx h1.bn = some [.int .i64 v1.arg, .int .i64 v1.base] := by rw [p3.bx _ (by simp) (fun h => h)]; simp [z1]
    have f2 : h3.bx (h1.bn + 1) = some [.int .i64 v2.arg, .int .i64 v2.base] := by rw [p3.bx _ (by simp) (fun h => h)]; simp [z2]
    have f3 : h1.bn + 1 < h3.bn := by rw [p4]; simp
    have f4 : h1.bn < h3.bn := by omega
    simp -implicitDefEqProofs [t8, z1, z2, f1, f2, f3, f4, inc_i64 hlt (show N ≤ _ by omega), -Int.natCast_add]
    exact ih (N - (j + 1)) _ _ (by omega) ⟨j + 1, u3, _, t', rfl, by omega, by simp [t0], by simp, by simp [t7], by simp, hl2⟩
  · obtain rfl : j = N := by omega
    simp -implicitDefEqProofs [t0, t7, t8]
    refine callQ_s (rOk_ok hL.to.is) (by simp) ?_
    have hgp : Got rdFoot s L sj := g.bind (by rw [Int.toNat_natCast]; exact hL.got)
    cases sj with
    | none =>
      simp -implicitDefEqProofs []
      exact ⟨none, hL.to.fin, Got.any hgp _⟩
    | some l =>
      simp -implicitDefEqProofs [t3]
      exact ⟨L, rfl, some l, hL.to.fin, hgp, (fun h => by cases h)⟩

/-- A step that is read: definite, also where it isn't right. -/
def stpV (s : RS) : Stp := ⟨(runS rdProg [] s).1, (runS rdFoot [] (runS rdProg [] s).2).1⟩
def stpS (s : RS) : RS := (runS rdFoot [] (runS rdProg [] s).2).2
theorem stp_got (s : RS) : Got rdStp s (stpV s) (stpS s) := (Got.runS rdProg [] s).bind ((Got.runS rdFoot [] _).bind (Got.pure _ _))
theorem step_rd {h : H} {b : Nat} {s : RS} (hr : RIs h b s) : RdX 36 [.ptr b 0] h b (.agg (encStp (stpV s))) (stpS s) := by
  refine RdX.mk' hr (rdFoot_ok.bd _ (rdProg_ok.bd _ hr.bd)) (.agg (pure_encStp _)) (CallP.run hb36 ok36 (by simp) ?_)
  have hb := hr.blt
  have z1 : ¬ h.bn = b := by omega
  simp -implicitDefEqProofs []
  have h1 := progGet_rd (hr.alloc [.sl .full [], .sl .full []])
  refine callQ_s h1.call (by simp) ?_
  have q1 := h1.to
  simp -implicitDefEqProofs []
  have h2 := footGet_rd q1.is
  refine callQ_s h2.call (by simp) ?_
  have q2 := h2.to
  simp -implicitDefEqProofs [z1, encStp, stpV, stpS]
  exact ((((RTo.refl hr).al _).trans (q1.trans q2)).so (Nat.le_refl _) hb _).fin
end Go.Proofs

/- The document's reader: items, templates, programs, footprints. -/
namespace Go.Proofs
open Go Go.RowKit Go.Am

def item00 : Item := ⟨0, 0, 0, 0, ⟨#[]⟩, []⟩
theorem item_rd {h : H} {b : Nat} {s : RS} (hr : RIs h b s) (kind : Int) {most : Int} (hm : inI most) : RdX 38 [.ptr b 0, .int .i64 kind, .int .i64 most] h b (.agg (encItm (runS (refRead kind most) item00 s).1)) (runS (refRead kind most) item00 s).2 := by
  have hbd : Bd (runS (refRead kind most) item00 s).2 := by
    intro l' e
    cases s with
    | none => cases e
    | some l =>
      cases hq : refRead kind most l with
      | none => simp [runS, hq] at e
      | some x =>
        simp [runS, hq] at e
        subst e
        exact (refRead_bd hr.bd hq).1 _ rfl
  refine RdX.mk' hr hbd (.agg (pure_encI _)) (CallP.run hb38 ok38 (by simp) ?_)
  have hb := hr.blt
  have hx := hr.bx
  have z0 : ¬ b = h.bn := by omega
  have z1 : ¬ h.bn = b := by omega
  have z2 : b < h.bn + 1 := by omega
  have z3 : b < h.bn + 1 + 1 := by omega
  have z4 : ¬ b = h.bn + 1 := by omega
  have z5 : ¬ h.bn + 1 = b := by omega
  cases s with
  | none =>
    rw [encRS] at hx
    simp -implicitDefEqProofs [hx, z0, z2, runS, encItm, item00]
    refine ⟨?_, _, ?_, WkL.refl _⟩
    · exact (HF.alloc _ _ _ _).trans' (HF.set (B := (· = h.bn)) _ rfl) (fun x hx e => by have e : x = h.bn := e; omega) (fun _ _ h => h)
    · simp [z0, hx, encRS]
  | some l =>
    rw [encRS] at hx
    simp -implicitDefEqProofs [hx, z0, z2]
    refine callQ_p (refRead_ok hr.bd kind hm) (by simp) ?_
    cases hq : refRead kind most l with
    | none =>
      simp -implicitDefEqProofs [encRead, hx, z0, z1, z3, z4, runS, encItm, item00, hq]
      refine RFin.so (RFin.bad (v := encW l) ?_ (by simp)) (Nat.le_refl _) hb _
      refine HF.trans ?_ (HF.set (B := (· = b)) _ rfl)
      exact ((HF.alloc _ _ _ _).trans (HF.alloc _ _ _ _)).trans' (HF.set (B := (· = h.bn + 1)) _ rfl) (fun x hx e => by have e : x = h.bn + 1 := e; omega) (fun _ _ h => h)
    | some x =>
      obtain ⟨y, l'⟩ := x
      simp -implicitDefEqProofs [encRead, hx, z0, z1, z3, z4, z5, runS, encItm, hq]
      refine RFin.so (RFin.ok ?_ (by simp [encRS])) (Nat.le_refl _) hb _
      exact ((HF.alloc _ _ _ _).trans (HF.alloc _ _ _ _)).trans' (HF.set (B := (· = h.bn + 1)) _ rfl) (fun x hx e => by have e : x = h.bn + 1 := e; omega) (fun _ _ h => h)

theorem runS_map {α β : Type} {p : Rd α} {q : Rd β} {d : α} {d' : β} {f : α → β} (g : β → α) (hd : g d' = d) (hg : ∀ a, g (f a) = a) (hq : ∀ l, q l = (p l).map fun x => (f x.1, x.2)) (s : RS) : g (runS q d' s).1 = (runS p d s).1 ∧ (runS q d' s).2 = (runS p d s).2 := by
  unfold runS
  cases s with
  | none => exact ⟨hd, rfl⟩
  | some l =>
    simp only [Option.bind_some, hq]
    cases p l with
    | none => exact ⟨hd, rfl⟩
    | some x => exact ⟨hg _, rfl⟩
theorem item_count (most : Int) (s : RS) : (runS (refRead 0 most) item00 s).1.n = (runS (rdCount most) 0 s).1 ∧ (runS (refRead 0 most) item00 s).2 = (runS (rdCount most) 0 s).2 :=
  runS_map (f := fun n => (⟨0, n, most, 0, ⟨#[]⟩, []⟩ : Item)) (·.n) rfl (fun _ => rfl) (fun l => by simp [refRead]) s
theorem item_signed (s : RS) : (runS (refRead 1 0) item00 s).1.x = (runS rdSigned 0 s).1 ∧ (runS (refRead 1 0) item00 s).2 = (runS rdSigned 0 s).2 :=
  runS_map (f := fun n => (⟨1, 0, 0, n, ⟨#[]⟩, []⟩ : Item)) (·.x) rfl (fun _ => rfl) (fun l => by simp [refRead]) s
theorem item_flag (s : RS) : decide ((runS (refRead 2 0) item00 s).1.n = 1) = (runS rdFlag false s).1 ∧ (runS (refRead 2 0) item00 s).2 = (runS rdFlag false s).2 := by
  have h := runS_map (p := rdCount 1) (q := refRead 2 0) (d := 0) (d' := item00) (f := fun n => (⟨2, n, 0, 0, ⟨#[]⟩, []⟩ : Item)) (·.n) rfl (fun _ => rfl) (fun l => by simp [refRead]) s
  have h1 : (runS (refRead 2 0) item00 s).1.n = (runS (rdCount 1) 0 s).1 := h.1
  have h2 : ((runS rdFlag false s).1 = true ↔ (runS (rdCount 1) 0 s).1 = 1) ∧ (runS rdFlag false s).2 = (runS (rdCount 1) 0 s).2 := by
    unfold runS rdFlag
    cases s with
    | none => simp
    | some l =>
      simp only [Option.bind_some]
      cases hq : rdCount 1 l <;> simp
  refine ⟨?_, h.2.trans h2.2.symm⟩
  rw [Bool.eq_iff_iff, decide_eq_true_eq, h1]
  exact h2.1.symm
theorem item_text (s : RS) : (runS (refRead 3 0) item00 s).1.s = (runS rdText ⟨#[]⟩ s).1 ∧ (runS (refRead 3 0) item00 s).2 = (runS rdText ⟨#[]⟩ s).2 := by
  have h := runS_map (p := rdTextW) (q := refRead 3 0) (d := (⟨#[]⟩, [])) (d' := item00) (f := fun n => (⟨3, 0, 0, 0, n.1, n.2⟩ : Item)) (fun y => (y.s, y.l)) rfl (fun _ => rfl) (fun l => by simp [refRead]) s
  have h1 : (runS (refRead 3 0) item00 s).1.s = (runS rdTextW (⟨#[]⟩, []) s).1.1 := congrArg Prod.fst h.1
  rw [h1, h.2]
  unfold runS
  cases s with
  | none => exact ⟨rfl, rfl⟩
  | some l =>
    simp only [Option.bind_some, rdText_W]
    cases rdTextW l with
    | none => exact ⟨rfl, rfl⟩
    | some x => exact ⟨rfl, rfl⟩

/-- An item's call: what is taken of it, as a piece of reading. -/
theorem callQ_item {α : Type} {h : H} {b : Nat} {s : RS} {kind most : Int} {K : AV → H → Prop} (p : Rd α) (d : α) (g : Item → α) {first caps args : List AV} (hm : inI most) (hr : RIs h b s)
    (hg : g (runS (refRead kind most) item00 s).1 = (runS p d s).1 ∧ (runS (refRead kind most) item00 s).2 = (runS p d s).2) (ha : (first ++ args ++ caps).map wk = [.ptr b 0, .int .i64 kind, .int .i64 most])
    (hk : ∀ (y : Item) (s' : RS), g y = (runS p d s).1 → s' = (runS p d s).2 → RTo h b (h.set b (encRS s')) s' → Got p s (g y) s' → K (.agg (encItm y)) (h.set b (encRS s'))) : callQ Try.prog (.fn 38 first caps) args h K := by
  have hx := item_rd hr kind hm
  refine callQ_s hx.call ha (hk _ _ hg.1 hg.2 hx.to ?_)
  have := Got.runS p d s
  rw [← hg.1, ← hg.2] at this
  exact this
end Go.Proofs
