/- What the functions that the statement reaches do: their contracts; and what follows of it. -/
import Derived.Test.YtedmjhckiiponaaSUnitsNodes3
/- Which programs, footprints, classes and catalogues there may be: the document's answer. -/
namespace Go.Proofs
open Go Go.RowKit Go.Am

theorem elOK_Inst : ElOK encInst 9 true := ⟨fun _ => rfl, (fun h => by cases h), pure_encInst, wk_encInst⟩
theorem elOK_SpanT : ElOK encSpanT 5 true := ⟨fun _ => rfl, (fun h => by cases h), pure_encSpanT, wk_encSpanT⟩
theorem elOK_Stp : ElOK encStp 2 true := ⟨fun _ => rfl, (fun h => by cases h), pure_encStp, wk_encStp⟩
theorem elOK_Cls : ElOK encCls 5 true := ⟨fun _ => rfl, (fun h => by cases h), pure_encCls, wk_encCls⟩
theorem elOK_Spn : ElOK encSpn 2 true := ⟨fun _ => rfl, (fun h => by cases h), pure_encSpn, wk_encSpn⟩
theorem elOK_Nod : ElOK encNod 6 true := ⟨fun _ => rfl, (fun h => by cases h), pure_encNod, wk_encNod⟩
theorem elOK_Chg : ElOK encChg 3 true := ⟨fun _ => rfl, (fun h => by cases h), pure_encChg, wk_encChg⟩
theorem elOK_KeyT : ElOK encKeyT 2 true := ⟨fun _ => rfl, (fun h => by cases h), pure_encKeyT, wk_encKeyT⟩

def progMay (l : List Inst) (args : Int) : Bool := !decide (args < 0) && !decide (3 < args) && !decide (l.length < 1) && !decide (8 < l.length) && l.all fun x => oneInst x args
def footMay (l : List SpanT) (args : Int) : Bool := !decide (args < 0) && !decide (3 < args) && !decide (4 < l.length) && l.all fun s => mayKey s.lo args && mayKey s.hi args

theorem all_take_false {α : Type} {p : α → Bool} {l : List α} {j : Nat} (hj : j < l.length) (h : p l[j] = false) : l.all p = false := by
  rw [List.all_eq_false]
  exact ⟨l[j], List.getElem_mem hj, by simp [h]⟩
theorem all_whole {α : Type} {p : α → Bool} {l : List α} {j : Nat} (hj : l.length ≤ j) (h : ∀ i (hi : i < l.length), i < j → p l[i] = true) : l.all p = true := by
  rw [List.all_eq_true]
  intro x hx
  obtain ⟨i, hi, rfl⟩ := List.mem_iff_getElem.1 hx
  exact h i hi (by omega)

theorem refProgMay_ok (l : List Inst) (args : Int) (hl : l.length ≤ 9223372036854775807) : PCall Try.prog 93 [.sl .no (l.map encInst), .int .i64 args] (.bool (progMay l args)) := by
  refine PCall.run hb93 ok93 (by simp) (pures_cons (elOK_Inst.pureL l) (pures1 (.int _ _))) (.bool _) ?_
  by_cases bad : ((args < 0 ∨ 3 < args) ∨ (l.length : Int) < 1) ∨ (8 : Int) < (l.length : Int)
  · have hf : progMay l args = false := by
      simp only [progMay, Bool.and_eq_false_iff, Bool.not_eq_false', decide_eq_true_eq]
      omega
    simp (maxSteps := 2000000) +contextual -implicitDefEqProofs [↓gdL_F, ↓condQ_b, -Int.not_lt, -Int.not_le, -Nat.not_lt, -Nat.not_le, hf]
    all_goals (intros; omega)
  · have hm : progMay l args = l.all fun x => oneInst x args := by
      simp only [progMay, show ¬ args < 0 by omega, show ¬ 3 < args by omega, show ¬ l.length < 1 by omega, show ¬ 8 < l.length by omega]
      simp
    simp (maxSteps := 2000000) +contextual -implicitDefEqProofs [↓gdL_F, ↓condQ_b, -Int.not_lt, -Int.not_le, -Nat.not_lt, -Nat.not_le, show ¬ args < 0 by omega, show ¬ 3 < args by omega, show ¬ (l.length : Int) < 1 by omega, show ¬ (8 : Int) < (l.length : Int) by omega, hm]
    refine run_loop (fun n s h => ∃ j : Nat, n = l.length - j ∧ j ≤ l.length ∧ s 0 = .sl .no (l.map encInst) ∧ s 1 = .int .i64 args ∧ s 5 = .int .i64 j ∧ ∀ i (hi : i < l.length), i < j → oneInst l[i] args = true) ?_ l.length ?_
    · rintro n s h ⟨j, hn, hj, h0, h1, h5, hall⟩ ih
      by_cases hlt : j < l.length
      · simp -implicitDefEqProofs [h0, h1, h5, hlt, elOK_Inst.un, -unCells]
        refine callQ_p (refOne_ok l[j] args) (by simp [elV]) ?_
        cases hp : oneInst l[j] args
        · simp -implicitDefEqProofs [all_take_false (p := fun x => oneInst x args) hlt hp]
        · simp -implicitDefEqProofs [h5, inc_i64 hlt hl, -Int.natCast_add]
          exact ih (l.length - (j + 1)) _ _ (by omega) ⟨j + 1, rfl, by omega, by simp [h0], by simp [h1], by simp, fun i hi hij => by
            by_cases h : i = j
            · subst h; exact hp
            · exact hall i hi (by omega)⟩
      · simp -implicitDefEqProofs [h0, h5, hlt, all_whole (p := fun x => oneInst x args) (by omega) hall]
    · exact ⟨0, by simp⟩

theorem refFootMay_ok (l : List SpanT) (args : Int) (hl : l.length ≤ 9223372036854775807) : PCall Try.prog 94 [.sl .no (l.map encSpanT), .int .i64 args] (.bool (footMay l args)) := by
  refine PCall.run hb94 ok94 (by simp) (pures_cons (elOK_SpanT.pureL l) (pures1 (.int _ _))) (.bool _) ?_
  by_cases bad : (args < 0 ∨ 3 < args) ∨ (4 : Int) < (l.length : Int)
  · have hf : footMay l args = false := by
      simp only [footMay, Bool.and_eq_false_iff, Bool.not_eq_false', decide_eq_true_eq]
      omega
    simp (maxSteps := 2000000) +contextual -implicitDefEqProofs [↓gdL_F, ↓condQ_b, -Int.not_lt, -Int.not_le, -Nat.not_lt, -Nat.not_le, hf]
    all_goals (intros; omega)
  · have hm : footMay l args = l.all fun s => mayKey s.lo args && mayKey s.hi args := by
      simp only [footMay, show ¬ args < 0 by omega, show ¬ 3 < args by omega, show ¬ 4 < l.length by omega]
      simp
    simp (maxSteps := 2000000) +contextual -implicitDefEqProofs [↓gdL_F, ↓condQ_b, -Int.not_lt, -Int.not_le, -Nat.not_lt, -Nat.not_le, show ¬ args < 0 by omega, show ¬ 3 < args by omega, show ¬ (4 : Int) < (l.length : Int) by omega, hm]
    refine run_loop (fun n s h => ∃ j : Nat, n = l.length - j ∧ j ≤ l.length ∧ s 0 = .sl .no (l.map encSpanT) ∧ s 1 = .int .i64 args ∧ s 5 = .int .i64 j ∧ ∀ i (hi : i < l.length), i < j → (mayKey l[i].lo args && mayKey l[i].hi args) = true) ?_ l.length ?_
    · rintro n s h ⟨j, hn, hj, h0, h1, h5, hall⟩ ih
      by_cases hlt : j < l.length
      · simp -implicitDefEqProofs [h0, h1, h5, hlt, encSpanT]
        refine callQ_p (refMayKey_ok l[j].lo args) (by simp [encKeyT]) ?_
        cases hp : mayKey l[j].lo args
        · simp -implicitDefEqProofs [all_take_false (p := fun s => mayKey s.lo args && mayKey s.hi args) hlt (by simp [hp])]
        · simp -implicitDefEqProofs [h0, h1, h5, hlt, encSpanT]
          refine callQ_p (refMayKey_ok l[j].hi args) (by simp [encKeyT]) ?_
          cases hq : mayKey l[j].hi args
          · simp -implicitDefEqProofs [all_take_false (p := fun s => mayKey s.lo args && mayKey s.hi args) hlt (by simp [hp, hq])]
          · simp -implicitDefEqProofs [h5, inc_i64 hlt hl, -Int.natCast_add]
            exact ih (l.length - (j + 1)) _ _ (by omega) ⟨j + 1, rfl, by omega, by simp [h0], by simp [h1], by simp, fun i hi hij => by
              by_cases h : i = j
              · subst h; simp [hp, hq]
              · exact hall i hi (by omega)⟩
      · have hw := all_whole (p := fun s : SpanT => mayKey s.lo args && mayKey s.hi args) (by omega) hall
        simp -implicitDefEqProofs [h0, h5, hlt, hw]
    · exact ⟨0, by simp⟩
end Go.Proofs

/- Which classes and catalogues there may be: the document's answer. -/
namespace Go.Proofs
open Go Go.RowKit Go.Am

def backMay (c : Stp) (args : Int) : Bool := (!decide (0 < c.code.length) || progMay c.code args) && c.code.all fun x => decide (x.op < 6)
def stepMay (args : Int) (p : Stp × Stp) : Bool := progMay p.1.code args && footMay p.1.foot args && footMay p.2.foot args && backMay p.2 args
def clsMay (x : Cls) : Bool :=
  !decide (x.name.size < 1) && !decide (16 < x.name.size) && !decide (x.args < 0) && !decide (3 < x.args) && !decide (x.steps.length < 1) && !decide (4 < x.steps.length) && decide (x.comps.length = x.steps.length) &&
    (x.steps.zip x.comps).all (stepMay x.args)

theorem refClsMay_ok (x : Cls) (hx : x.wf) : PCall Try.prog 49 [.agg (encCls x)] (.bool (clsMay x)) := by
  refine PCall.run hb49 ok49 (by simp) (pures1 (.agg (pure_encCls x))) (.bool _) ?_
  obtain ⟨hwn, hwa, ⟨hsl, hsw⟩, hcl, hcw⟩ := hx
  by_cases bad : x.name.size < 1 ∨ 16 < x.name.size ∨ x.args < 0 ∨ 3 < x.args ∨ x.steps.length < 1 ∨ 4 < x.steps.length ∨ x.comps.length ≠ x.steps.length
  · have hf : clsMay x = false := by
      simp only [clsMay, Bool.and_eq_false_iff, Bool.not_eq_false', decide_eq_true_eq, decide_eq_false_iff_not]
      omega
    simp (maxSteps := 2000000) +contextual -implicitDefEqProofs [↓gdL_F, ↓condQ_b, -Int.not_lt, -Int.not_le, -Nat.not_lt, -Nat.not_le, hf, encCls]
    all_goals (intros; omega)
  · have hm : clsMay x = (x.steps.zip x.comps).all (stepMay x.args) := by
      simp only [clsMay, show ¬ x.name.size < 1 by omega, show ¬ 16 < x.name.size by omega, show ¬ x.args < 0 by omega, show ¬ 3 < x.args by omega, show ¬ x.steps.length < 1 by omega, show ¬ 4 < x.steps.length by omega, show x.comps.length = x.steps.length by omega]
      simp
    have hcs : x.comps.length = x.steps.length := by omega
    have hzl : (x.steps.zip x.comps).length = x.steps.length := by simp [hcs]
    have e1 : ¬ (x.name.size : Int) < 1 := by omega
    have e2 : ¬ (16 : Int) < (x.name.size : Int) := by omega
    have e5 : ¬ (x.steps.length : Int) < 1 := by omega
    have e6 : ¬ (4 : Int) < (x.steps.length : Int) := by omega
    simp -implicitDefEqProofs [encCls, e1, e2, show ¬ x.args < 0 by omega, show ¬ 3 < x.args by omega, e5, e6, hcs, hm]
    refine run_loop (fun n s h => ∃ j : Nat, n = x.steps.length - j ∧ j ≤ x.steps.length ∧ s 1 = .ptr 0 0 ∧ 0 < h.bn ∧ h.bx 0 = some [.str x.name, .int .i64 x.args, .sl .no (x.steps.map encStp), .sl .no (x.comps.map encStp), .bool x.resume] ∧ s 3 = .int .i64 x.steps.length ∧ s 4 = .int .i64 j ∧ ∀ i (hi : i < (x.steps.zip x.comps).length), i < j → stepMay x.args (x.steps.zip x.comps)[i] = true) ?_ x.steps.length ?_
    · rintro n s h ⟨j, hn, hj, h1, h0, hb, h3, h4, hall⟩ ih
      by_cases hlt : j < x.steps.length
      · have hlt2 : j < x.comps.length := by omega
        have hlz : j < (x.steps.zip x.comps).length := by omega
        have hws := hsw _ (List.getElem_mem hlt)
        have hwc := hcw _ (List.getElem_mem hlt2)
        have hno : stepMay x.args (x.steps.zip x.comps)[j] = false → (x.steps.zip x.comps).all (stepMay x.args) = false := all_take_false hlz
        rw [List.getElem_zip] at hno
        simp -implicitDefEqProofs [h3, h4, hlt]
        refine run_dregL c49_d7 rfl ?_
        simp -implicitDefEqProofs [h1, h0, hb, h4, hlt, encStp]
        refine callC_p (refProgMay_ok x.steps[j].code x.args hws.1.1) (by simp) ?_
        cases hp : progMay x.steps[j].code x.args
        · have := hno (by simp [stepMay, hp])
          simp -implicitDefEqProofs [this]
        simp -implicitDefEqProofs [h1, h0, hb, h4, hlt, encStp]
        refine callC_p (refFootMay_ok x.steps[j].foot x.args hws.2.1) (by simp) ?_
        cases hq : footMay x.steps[j].foot x.args
        · have := hno (by simp [stepMay, hp, hq])
          simp -implicitDefEqProofs [this]
        simp -implicitDefEqProofs [h1, h0, hb, h4, hlt2, encStp]
        refine callC_p (refFootMay_ok x.comps[j].foot x.args hwc.2.1) (by simp) ?_
        cases hr : footMay x.comps[j].foot x.args
        · have := hno (by simp [stepMay, hp, hq, hr])
          simp -implicitDefEqProofs [this]
        simp -implicitDefEqProofs [h1, h0, hb, h4, hlt2, encStp]
        have hb2 : backMay x.comps[j] x.args = false → (x.steps.zip x.comps).all (stepMay x.args) = false := fun h => hno (by simp [stepMay, h])
        have hb3 : backMay x.comps[j] x.args = true → stepMay x.args (x.steps[j], x.comps[j]) = true := fun h => by simp [stepMay, hp, hq, hr, h]
        clear hno
        have hend : ∀ i (hi : i < (x.steps.zip x.comps).length), backMay x.comps[j] x.args = true → i < j + 1 → stepMay x.args (x.steps.zip x.comps)[i] = true := fun i hi hbm hij => by
          by_cases h : i = j
          · subst h; rw [List.getElem_zip]; exact hb3 hbm
          · exact hall i hi (by omega)
        by_cases hc : 0 < x.comps[j].code.length
        focus
          simp -implicitDefEqProofs [hc, h1, h0, hb]
          refine callQ_p (refProgMay_ok x.comps[j].code x.args hwc.1.1) (by simp) ?_
          cases hs : progMay x.comps[j].code x.args
          · have := hb2 (by simp [backMay, hc, hs])
            simp -implicitDefEqProofs [this, hc]
          simp -implicitDefEqProofs [hc]
          have hcode : (!decide (0 < x.comps[j].code.length) || progMay x.comps[j].code x.args) = true := by simp [hs]
        rotate_left
        focus
          simp -implicitDefEqProofs [hc]
          have hcode : (!decide (0 < x.comps[j].code.length) || progMay x.comps[j].code x.args) = true := by simp [hc]
        all_goals
          have hbm : backMay x.comps[j] x.args = x.comps[j].code.all fun x => decide (x.op < 6) := by simp [backMay, hcode]
          refine run_loop (fun n s h => ∃ k : Nat, n = x.comps[j].code.length - k ∧ k ≤ x.comps[j].code.length ∧ s 1 = .ptr 0 0 ∧ 0 < h.bn ∧ h.bx 0 = some [.str x.name, .int .i64 x.args, .sl .no (x.steps.map encStp), .sl .no (x.comps.map encStp), .bool x.resume] ∧ s 3 = .int .i64 x.steps.length ∧ s 4 = .int .i64 j ∧ s 5 = .sl .no (x.comps[j].code.map encInst) ∧ s 6 = .int .i64 k ∧ ∀ i (hi : i < x.comps[j].code.length), i < k → decide (x.comps[j].code[i].op < 6) = true) ?_ x.comps[j].code.length ?_
          · rintro n s h ⟨k, hn, hk, h1, h0, hb, h3, h4, h5, h6, hal⟩ ih2
            by_cases hlk : k < x.comps[j].code.length
            · by_cases ho : x.comps[j].code[k].op < 6
              · simp -implicitDefEqProofs [h5, h6, hlk, encInst, show ¬ 6 ≤ x.comps[j].code[k].op by omega, inc_i64 hlk hwc.1.1, -Int.natCast_add]
                exact ih2 (x.comps[j].code.length - (k + 1)) _ _ (by omega) ⟨k + 1, rfl, by omega, by simp [h1], by simpa using h0, by simp [hb], by simp [h3], by simp [h4], by simp [h5], by simp, fun i hi hij => by
                  by_cases h : i = k
                  · subst h; simpa using ho
                  · exact hal i hi (by omega)⟩
              · have := hb2 (hbm ▸ all_take_false (p := fun x : Inst => decide (x.op < 6)) hlk (by simpa using ho))
                simp -implicitDefEqProofs [h5, h6, hlk, encInst, show 6 ≤ x.comps[j].code[k].op by omega, this]
            · have hbt := hbm.trans (all_whole (p := fun x : Inst => decide (x.op < 6)) (by omega) hal)
              simp -implicitDefEqProofs [h4, h5, h6, hlk, inc_i64 hlt hsl, -Int.natCast_add]
              exact ih (x.steps.length - (j + 1)) _ _ (by omega) ⟨j + 1, rfl, by omega, by simp [h1], by simpa using h0, by simp [hb], by simp [h3], by simp, fun i hi hij => hend i hi hbt hij⟩
          · exact ⟨0, by simp [h1, h0, hb, h3, h4]⟩
      · have hw := all_whole (p := stepMay x.args) (by omega) hall
        simp -implicitDefEqProofs [h3, h4, hlt, hw]
    · exact ⟨0, by simp [H.nil]⟩
end Go.Proofs

/- Which catalogues there may be: the document's answer. -/
namespace Go.Proofs
open Go Go.RowKit Go.Am

def Ctlg.nameAt (x : Ctlg) (i : Nat) : ByteArray := (x.classes[i]?.map (·.name)).getD ByteArray.empty
def Ctlg.stepsN (x : Ctlg) (i : Nat) : Nat := (x.classes[i]?.map (·.steps.length)).getD 0
def Ctlg.brk (x : Ctlg) (c d : Nat) : Int := (x.breaks[4 * c + d]?).getD 0
def Ctlg.mostB (x : Ctlg) (c d : Nat) : Int := if c < x.classes.length ∧ d < x.classes.length then 2 ^ (x.stepsN c - 1) else 1
def Ctlg.brkOK (x : Ctlg) (c d : Nat) : Bool := !decide (x.brk c d < 0) && !decide (x.mostB c d ≤ x.brk c d)
def Ctlg.namesOK (x : Ctlg) (i : Nat) : Bool := (List.range i).all fun j => !decide (x.nameAt j = x.nameAt i)
def Ctlg.clsOK (x : Ctlg) (i : Nat) : Bool := (x.classes[i]?.map clsMay).getD false
def catMay (x : Ctlg) : Bool :=
  !decide (x.classes.length < 1) && !decide (4 < x.classes.length) && ((List.range x.classes.length).all fun i => x.clsOK i && x.namesOK i) && (List.range 4).all fun c => (List.range 4).all (x.brkOK c)

theorem allR_false {p : Nat → Bool} {n j : Nat} (hj : j < n) (h : p j = false) : (List.range n).all p = false := by
  rw [List.all_eq_false]
  exact ⟨j, List.mem_range.2 hj, by simp [h]⟩
theorem allR_true {p : Nat → Bool} {n j : Nat} (hj : n ≤ j) (h : ∀ i, i < j → p i = true) : (List.range n).all p = true := by
  rw [List.all_eq_true]
  intro x hx
  exact h x (by have := List.mem_range.1 hx; omega)
@[simp] theorem take_encCls (y : Cls) : List.take 5 (encCls y) = encCls y := rfl
theorem Ctlg.brk_of {x : Ctlg} {c d : Nat} (hb : x.breaks.length = 16) (hc : c < 4) (hd : d < 4) : x.brk c d = x.breaks[4 * c + d] := by simp [brk, show 4 * c + d < x.breaks.length by omega]
theorem Ctlg.brk_load {x : Ctlg} (v : AV) {c d : Nat} (hb : x.breaks.length = 16) (hc : c < 4) (hd : d < 4) : List.take 1 (List.drop (1 + c * 4 + d) (v :: x.breaks.map (AV.int .i64))) = [.int .i64 (x.brk c d)] := by
  rw [show 1 + c * 4 + d = (4 * c + d) + 1 by omega, List.drop_succ_cons, brk_of hb hc hd, List.drop_eq_getElem_cons (by simp; omega)]
  simp
theorem Ctlg.nameAt_of {x : Ctlg} {i : Nat} (h : i < x.classes.length) : x.nameAt i = x.classes[i].name := by simp [nameAt, h]
theorem Ctlg.stepsN_of {x : Ctlg} {i : Nat} (h : i < x.classes.length) : x.stepsN i = x.classes[i].steps.length := by simp [stepsN, h]
theorem Ctlg.clsOK_of {x : Ctlg} {i : Nat} (h : i < x.classes.length) : x.clsOK i = clsMay x.classes[i] := by simp [clsOK, h]

set_option maxHeartbeats 1000000 in
theorem refCatMay_ok (x : Ctlg) (hx : x.wf) : PCall Try.prog 21 [.agg (encCtlg x)] (.bool (catMay x)) := by
  refine PCall.run hb21 ok21 (by simp) (pures1 (.agg (pure_encCtlg x))) (.bool _) ?_
  obtain ⟨⟨hcl, hcw⟩, hbl, hbw⟩ := hx
  by_cases bad : x.classes.length < 1 ∨ 4 < x.classes.length
  · have hf : catMay x = false := by
      simp only [catMay, Bool.and_eq_false_iff, Bool.not_eq_false', decide_eq_true_eq]
      omega
    simp (maxSteps := 2000000) +contextual -implicitDefEqProofs [↓gdL_F, ↓condQ_b, -Int.not_lt, -Int.not_le, -Nat.not_lt, -Nat.not_le, hf, encCtlg]
    all_goals (intros; omega)
  · have hm : catMay x = (((List.range x.classes.length).all fun i => x.clsOK i && x.namesOK i) && (List.range 4).all fun c => (List.range 4).all (x.brkOK c)) := by
      simp only [catMay, show ¬ x.classes.length < 1 by omega, show ¬ 4 < x.classes.length by omega]
      simp
    have e5 : ¬ (x.classes.length : Int) < 1 := by omega
    have e6 : ¬ (4 : Int) < (x.classes.length : Int) := by omega
    simp -implicitDefEqProofs [encCtlg, e5, e6, hm]
    refine run_loop (fun n s h => ∃ j : Nat, n = x.classes.length - j ∧ j ≤ x.classes.length ∧ s 1 = .ptr 0 0 ∧ 0 < h.bn ∧ h.bx 0 = some ([.sl .no (x.classes.map encCls)] ++ x.breaks.map (AV.int .i64)) ∧ s 3 = .int .i64 x.classes.length ∧ s 4 = .int .i64 j ∧ ∀ i, i < j → (x.clsOK i && x.namesOK i) = true) ?_ x.classes.length ?_
    · rintro n s h ⟨j, hn, hj, h1, h0, hb, h3, h4, hall⟩ ih
      by_cases hlt : j < x.classes.length
      · have hno : (x.clsOK j && x.namesOK j) = false → ((List.range x.classes.length).all fun i => x.clsOK i && x.namesOK i) = false := allR_false (p := fun i => x.clsOK i && x.namesOK i) hlt
        simp -implicitDefEqProofs [h1, h0, hb, h3, h4, hlt]
        refine callQ_p (refClsMay_ok x.classes[j] (hcw _ (List.getElem_mem hlt))) (by simp) ?_
        cases hp : clsMay x.classes[j]
        · have := hno (by simp [Ctlg.clsOK_of hlt, hp])
          simp -implicitDefEqProofs [this]
        simp -implicitDefEqProofs []
        refine run_loop (fun n s h => ∃ k : Nat, n = j - k ∧ k ≤ j ∧ s 1 = .ptr 0 0 ∧ 0 < h.bn ∧ h.bx 0 = some ([.sl .no (x.classes.map encCls)] ++ x.breaks.map (AV.int .i64)) ∧ s 3 = .int .i64 x.classes.length ∧ s 4 = .int .i64 j ∧ s 5 = .int .i64 k ∧ ∀ i, i < k → (!decide (x.nameAt i = x.nameAt j)) = true) ?_ j ?_
        · rintro n s h ⟨k, hn, hk, h1, h0, hb, h3, h4, h5, hal⟩ ih2
          by_cases hlk : k < j
          · have hlk2 : k < x.classes.length := by omega
            simp -implicitDefEqProofs [h4, h5, hlk]
            refine run_dregL c21_d11 rfl ?_
            simp -implicitDefEqProofs [h1, h0, hb, h4, h5, hlk2, hlt, encCls]
            by_cases he : x.classes[k].name = x.classes[j].name
            · have := hno (by
                rw [allR_false (n := j) hlk (p := fun k => !decide (x.nameAt k = x.nameAt j)) (by simp [Ctlg.nameAt_of hlk2, Ctlg.nameAt_of hlt, he]) |> (show x.namesOK j = false from ·)]
                simp)
              simp -implicitDefEqProofs [he, this]
            · simp -implicitDefEqProofs [he, h5, inc_i64 hlk (by omega), -Int.natCast_add]
              exact ih2 (j - (k + 1)) _ _ (by omega) ⟨k + 1, rfl, by omega, by simp [h1], by simpa using h0, by simp [hb], by simp [h3], by simp [h4], by simp, fun i hij => by
                by_cases h : i = k
                · subst h; simpa [Ctlg.nameAt_of hlk2, Ctlg.nameAt_of hlt] using he
                · exact hal i (by omega)⟩
          · have hn : x.namesOK j = true := allR_true (by omega) hal
            simp -implicitDefEqProofs [h4, h5, hlk, inc_i64 hlt hcl, -Int.natCast_add]
            exact ih (x.classes.length - (j + 1)) _ _ (by omega) ⟨j + 1, rfl, by omega, by simp [h1], by simpa using h0, by simp [hb], by simp [h3], by simp, fun i hij => by
              by_cases h : i = j
              · subst h; simp [Ctlg.clsOK_of hlt, hp, hn]
              · exact hall i (by omega)⟩
        · exact ⟨0, by simp [h1, h0, hb, h3, h4]⟩
      · have hw : ((List.range x.classes.length).all fun i => x.clsOK i && x.namesOK i) = true := allR_true (by omega) hall
        have hst : ∀ c, c < x.classes.length → x.stepsN c ≤ 4 := fun c hc => by
          have h := hall c (by omega)
          rw [Bool.and_eq_true, Ctlg.clsOK_of hc] at h
          have h := h.1
          simp only [clsMay, Bool.and_eq_true, Bool.not_eq_true', decide_eq_false_iff_not] at h
          rw [Ctlg.stepsN_of hc]
          omega
        simp -implicitDefEqProofs [h3, h4, hlt, hw]
        clear ih hall hw hm
        refine run_loop (fun n s h => ∃ c : Nat, n = 4 - c ∧ c ≤ 4 ∧ s 1 = .ptr 0 0 ∧ 0 < h.bn ∧ h.bx 0 = some ([.sl .no (x.classes.map encCls)] ++ x.breaks.map (AV.int .i64)) ∧ s 3 = .int .i64 x.classes.length ∧ s 6 = .int .i64 c ∧ ∀ i, i < c → (List.range 4).all (x.brkOK i) = true) ?_ 4 ?_
        · rintro n s h ⟨c, hn, hc, h1, h0, hb, h3, h6, hal⟩ ih
          by_cases hlc : c < 4
          · have hno : (List.range 4).all (x.brkOK c) = false → ((List.range 4).all fun c => (List.range 4).all (x.brkOK c)) = false := allR_false (p := fun c => (List.range 4).all (x.brkOK c)) hlc
            simp -implicitDefEqProofs [h6, show (c : Int) < 4 by omega]
            refine run_loop (fun n s h => ∃ d : Nat, n = 4 - d ∧ d ≤ 4 ∧ s 1 = .ptr 0 0 ∧ 0 < h.bn ∧ h.bx 0 = some ([.sl .no (x.classes.map encCls)] ++ x.breaks.map (AV.int .i64)) ∧ s 3 = .int .i64 x.classes.length ∧ s 6 = .int .i64 c ∧ s 7 = .int .i64 d ∧ ∀ i, i < d → x.brkOK c i = true) ?_ 4 ?_
            · rintro n s h ⟨d, hn, hd, h1, h0, hb, h3, h6, h7, hal2⟩ ih2
              by_cases hld : d < 4
              · have hno2 : x.brkOK c d = false → ((List.range 4).all fun c => (List.range 4).all (x.brkOK c)) = false := fun h => hno (allR_false hld h)
                simp -implicitDefEqProofs [h3, h6, h7, show (d : Int) < 4 by omega]
                by_cases hb2 : c < x.classes.length ∧ d < x.classes.length
                focus
                  obtain ⟨hc2, hd2⟩ := hb2
                  have hms : x.mostB c d = 2 ^ (x.stepsN c - 1) := if_pos ⟨hc2, hd2⟩
                  have h4 := hst c hc2
                  rw [Ctlg.stepsN_of hc2] at hms h4
                  simp -implicitDefEqProofs [h3, h7, hc2, hd2]
                  refine run_loop (fun n s h => ∃ k : Nat, n = 5 - k ∧ 1 ≤ k ∧ (k = 1 ∨ k ≤ x.classes[c].steps.length) ∧ s 1 = .ptr 0 0 ∧ 0 < h.bn ∧ h.bx 0 = some ([.sl .no (x.classes.map encCls)] ++ x.breaks.map (AV.int .i64)) ∧ s 3 = .int .i64 x.classes.length ∧ s 6 = .int .i64 c ∧ s 7 = .int .i64 d ∧ s 9 = .int .i64 k ∧ s 8 = .int .i64 (2 ^ (k - 1))) ?_ 4 ?_
                  rotate_left
                  · exact ⟨1, by simp [h1, h0, hb, h3, h6, h7]⟩
                  rintro n s h ⟨k, hn, hk1, hk, h1, h0, hb, h3, h6, h7, h9, h8⟩ ih3
                  by_cases hlk : k < x.classes[c].steps.length
                  · have hk4 : k = 1 ∨ k = 2 ∨ k = 3 := by omega
                    have hw8 : IntKind.i64.wrap (2 * 2 ^ (k - 1)) = 2 ^ (k + 1 - 1) := by
                      rcases hk4 with rfl | rfl | rfl <;> decide
                    simp -implicitDefEqProofs [h1, h0, hb, h6, h8, h9, hc2, hlk, encCls, inc_i64 hlk (by omega), -Int.natCast_add, hw8]
                    exact ih3 (5 - (k + 1)) _ _ (by omega) ⟨k + 1, rfl, by omega, by omega, by simp [h1], by simpa using h0, by simp [hb], by simp [h3], by simp [h6], by simp [h7], by simp, by simp⟩
                  have hms2 : (2 : Int) ^ (k - 1) = x.mostB c d := by
                    rw [hms]; congr 1; omega
                  rw [hms2] at h8
                  simp -implicitDefEqProofs [h1, h0, hb, h6, h7, h9, hc2, hlk, encCls]
                rotate_left
                focus
                  have hms : x.mostB c d = 1 := if_neg hb2
                  by_cases hc2 : c < x.classes.length
                  focus
                    simp -implicitDefEqProofs [h1, h3, h6, h7, hc2, show ¬ d < x.classes.length from fun h => hb2 ⟨hc2, h⟩]
                    rw [← hms]
                    have h8 := hc
                  rotate_left
                  focus
                    simp -implicitDefEqProofs [h1, h6, h7, hc2]
                    rw [← hms]
                    have h8 := hc
                all_goals
                  have hbk := Ctlg.brk_load (x := x) (.sl .no (x.classes.map encCls)) hbl hlc hld
                  by_cases hneg : x.brk c d < 0 ∨ x.mostB c d ≤ x.brk c d
                  · have hf : x.brkOK c d = false := by
                      simp only [Ctlg.brkOK, Bool.and_eq_false_iff, Bool.not_eq_false', decide_eq_true_eq]
                      exact hneg
                    simp (maxSteps := 2000000) +contextual -implicitDefEqProofs [↓gdL_F, ↓condQ_b, -Int.not_lt, -Int.not_le, -Nat.not_lt, -Nat.not_le, h1, h0, hb, h6, h7, h8, show (c : Int) < 4 by omega, show (d : Int) < 4 by omega, hbk, hbl, show 1 + c * 4 + d + 1 ≤ 16 + 1 by omega, hno2 hf]
                    all_goals (intros; omega)
                  · have hf : x.brkOK c d = true := by
                      simp only [Ctlg.brkOK, Bool.and_eq_true, Bool.not_eq_true', decide_eq_false_iff_not]
                      omega
                    simp -implicitDefEqProofs [h1, h0, hb, h6, h7, h8, show (c : Int) < 4 by omega, show (d : Int) < 4 by omega, hbk, hbl, show 1 + c * 4 + d + 1 ≤ 16 + 1 by omega, show ¬ x.brk c d < 0 by omega, show ¬ x.mostB c d ≤ x.brk c d by omega, inc_i64 hld (show 4 ≤ _ by omega), -Int.natCast_add]
                    exact ih2 (4 - (d + 1)) _ _ (by omega) ⟨d + 1, rfl, by omega, by simp [h1], by simpa using h0, by simp [hb], by simp [h3], by simp [h6], by simp, fun i hij => by
                      by_cases h : i = d
                      · subst h; exact hf
                      · exact hal2 i (by omega)⟩
              · have hw : (List.range 4).all (x.brkOK c) = true := allR_true (by omega) hal2
                simp -implicitDefEqProofs [h6, h7, show ¬ (d : Int) < 4 by omega]
                simp -implicitDefEqProofs [inc_i64 hlc (show 4 ≤ _ by omega), -Int.natCast_add]
                exact ih (4 - (c + 1)) _ _ (by omega) ⟨c + 1, rfl, by omega, by simp [h1], by simpa using h0, by simp [hb], by simp [h3], by simp, fun i hij => by
                  by_cases h : i = c
                  · subst h; exact hw
                  · exact hal i (by omega)⟩
            · exact ⟨0, by simp [h1, h0, hb, h3, h6]⟩
          · have hw : ((List.range 4).all fun c => (List.range 4).all (x.brkOK c)) = true := allR_true (by omega) hal
            simp -implicitDefEqProofs [h6, show ¬ (c : Int) < 4 by omega, hw]
        · exact ⟨0, by simp [h1, h0, hb, h3]⟩
    · exact ⟨0, by simp [H.nil]⟩
end Go.Proofs

/- Breakpoints: the document's answer and the program's. -/
namespace Go.Proofs
open Go Go.RowKit Go.Am

def bitN (b i : Nat) : Bool := decide (b / 2 ^ i % 2 = 1)
def Ctlg.inn (x : Ctlg) (c : Int) : Bool := decide (0 ≤ c) && decide (c < (x.classes.length : Int)) && decide (c < 4)
def Ctlg.brkAt (x : Ctlg) (c d i : Int) : Bool := x.inn c && x.inn d && decide (0 ≤ i) && decide (i + 1 < (x.stepsN c.toNat : Int)) && bitN (x.brk c.toNat d.toNat).toNat i.toNat

theorem refBit_ok (b : Nat) (i : Nat) (hb : b < 9223372036854775808) (hi : i < 9223372036854775808) : PCall Try.prog 79 [.int .i64 b, .int .i64 i] (.bool (bitN b i)) := by
  refine PCall.run hb79 ok79 (by simp) (pures_cons (.int _ _) (pures1 (.int _ _))) (.bool _) ?_
  simp -implicitDefEqProofs []
  refine run_loop (fun n s h => ∃ j m : Nat, n = i - j ∧ j ≤ i ∧ m = b / 2 ^ j ∧ s 0 = .int .i64 m ∧ s 1 = .int .i64 i ∧ s 5 = .int .i64 j) ?_ i ?_
  · rintro n s h ⟨j, m, hn, hj, hm, h0, h1, h5⟩ ih
    have hd : m ≤ b := hm ▸ Nat.div_le_self _ _
    by_cases hlt : j < i
    · have hq : IntKind.i64.wrap ((m : Int).tdiv 2) = ((m / 2 : Nat) : Int) := by
        rw [Int.tdiv_eq_ediv_of_nonneg (by omega), wrap_i64] <;> omega
      have hq2 : IntKind.i64.wrap ((m : Int) / 2) = (m : Int) / 2 := by
        rw [wrap_i64] <;> omega
      simp -implicitDefEqProofs [h0, h1, h5, hlt, -Int.natCast_ediv, inc_i64 hlt (by omega), -Int.natCast_add]
      exact ih (i - (j + 1)) _ _ (by omega) ⟨j + 1, m / 2, rfl, by omega, by rw [hm, Nat.div_div_eq_div_mul, Nat.pow_succ], by simp [hq2], by simp [h1], by simp⟩
    · obtain rfl : j = i := by omega
      have hr : IntKind.i64.wrap ((m : Int).tmod 2) = ((m % 2 : Nat) : Int) := by
        rw [Int.tmod_eq_emod_of_nonneg (by omega), wrap_i64] <;> omega
      have hr2 : (m : Int).tmod 2 = ((m % 2 : Nat) : Int) := by
        rw [Int.tmod_eq_emod_of_nonneg (by omega)]; omega
      have he : ((m % 2 : Nat) : Int) = 1 ↔ m % 2 = 1 := by omega
      simp -implicitDefEqProofs [h0, h1, h5, hr2, he, -Int.natCast_emod]
      simp [bitN, hm]
  · exact ⟨0, b, by simp⟩

theorem Ctlg.take16 (x : Ctlg) (hb : x.breaks.length = 16) : List.take 16 (x.breaks.map (AV.int .i64)) = x.breaks.map (AV.int .i64) := List.take_of_length_le (by simp [hb])

theorem refBreak_ok (x : Ctlg) (hx : x.wf) (hp : ∀ c d, 0 ≤ x.brk c d) {c d i : Int} (hc : inI c) (hd : inI d) (hi : inI i) : PCall Try.prog 38 [.agg (encCtlg x), .int .i64 c, .int .i64 d, .int .i64 i] (.bool (x.brkAt c d i)) := by
  refine PCall.run hb38 ok38 (by simp) (pures_cons (.agg (pure_encCtlg x)) (pures_cons (.int _ _) (pures_cons (.int _ _) (pures1 (.int _ _))))) (.bool _) ?_
  obtain ⟨⟨hcl, hcw⟩, hbl, hbw⟩ := hx
  by_cases a1 : 0 ≤ c
  rotate_left
  · simp -implicitDefEqProofs [encCtlg, Ctlg.brkAt, Ctlg.inn, a1]
  obtain ⟨c, rfl⟩ := Int.eq_ofNat_of_zero_le a1
  by_cases a2 : c < x.classes.length
  rotate_left
  · simp -implicitDefEqProofs [encCtlg, Ctlg.brkAt, Ctlg.inn, a2]
  by_cases a3 : (c : Int) < 4
  rotate_left
  · simp -implicitDefEqProofs [encCtlg, Ctlg.brkAt, Ctlg.inn, a2, a3]
  by_cases b1 : 0 ≤ d
  rotate_left
  · simp -implicitDefEqProofs [encCtlg, Ctlg.brkAt, Ctlg.inn, a2, a3, b1]
  obtain ⟨d, rfl⟩ := Int.eq_ofNat_of_zero_le b1
  by_cases b2 : d < x.classes.length
  rotate_left
  · simp -implicitDefEqProofs [encCtlg, Ctlg.brkAt, Ctlg.inn, a2, a3, b2]
  by_cases b3 : (d : Int) < 4
  rotate_left
  · simp -implicitDefEqProofs [encCtlg, Ctlg.brkAt, Ctlg.inn, a2, a3, b2, b3]
  by_cases i1 : 0 ≤ i
  rotate_left
  · simp -implicitDefEqProofs [encCtlg, Ctlg.brkAt, Ctlg.inn, a2, a3, b2, b3, i1]
  obtain ⟨i, rfl⟩ := Int.eq_ofNat_of_zero_le i1
  have hbk := Ctlg.brk_load (x := x) (.sl .no (x.classes.map encCls)) hbl (show c < 4 by omega) (show d < 4 by omega)
  obtain ⟨b, hbe⟩ := Int.eq_ofNat_of_zero_le (hp c d)
  have hbi : inI (x.brk c d) := by
    rw [Ctlg.brk_of hbl (show c < 4 by omega) (show d < 4 by omega)]
    exact hbw _ (List.getElem_mem _)
  simp only [inI] at hbi hi hbe
  rw [hbe] at hbk hbi
  have hsl := (hcw _ (List.getElem_mem a2)).2.2.1.1
  simp only [maxLen] at hsl
  by_cases i2 : (i : Int) + 1 < x.classes[c].steps.length
  · simp -implicitDefEqProofs [encCtlg, a2, a3, b2, b3, encCls, hbl, hbk, show 1 + c * 4 + d + 1 ≤ 16 + 1 by omega, wrap_i64 (show -9223372036854775808 ≤ (i : Int) + 1 by omega) (by omega), i2]
    refine callQ_p (refBit_ok b i (by omega) (by omega)) (by simp) ?_
    simp -implicitDefEqProofs [Ctlg.brkAt, Ctlg.inn, a2, a3, b2, b3, hbe, Ctlg.stepsN_of a2, i2]
  by_cases i3 : (i : Int) = 9223372036854775807
  · simp -implicitDefEqProofs [encCtlg, a2, a3, b2, b3, encCls, hbl, hbk, show 1 + c * 4 + d + 1 ≤ 16 + 1 by omega, show IntKind.i64.wrap ((i : Int) + 1) = -9223372036854775808 by rw [i3]; decide, show (-9223372036854775808 : Int) < x.classes[c].steps.length by omega]
    refine callQ_p (refBit_ok b i (by omega) (by omega)) (by simp) ?_
    have hz : bitN b i = false := by
      have hb2 : b < 2 ^ i := by
        have h63 : (2 : Nat) ^ 63 ≤ 2 ^ i := Nat.pow_le_pow_right (by omega) (by omega)
        have h64 : (2 : Nat) ^ 63 = 9223372036854775808 := by decide
        rw [h64] at h63
        exact Nat.lt_of_lt_of_le (by omega) h63
      simp [bitN, Nat.div_eq_of_lt hb2]
    simp -implicitDefEqProofs [Ctlg.brkAt, Ctlg.inn, a2, a3, b2, b3, hbe, Ctlg.stepsN_of a2, i2, hz]
  · simp -implicitDefEqProofs [encCtlg, a2, a3, b2, b3, encCls, hbl, wrap_i64 (show -9223372036854775808 ≤ (i : Int) + 1 by omega) (by omega), i2, Ctlg.brkAt, Ctlg.inn, Ctlg.stepsN_of a2]

theorem refThere_ok (x : Ctlg) (_ : x.wf) {c : Int} (_ : inI c) : PCall Try.prog 22 [.agg (encCtlg x), .int .i64 c] (.bool (decide (0 ≤ c) && decide (c < (x.classes.length : Int)))) := by
  refine PCall.run hb22 ok22 (by simp) (pures_cons (.agg (pure_encCtlg x)) (pures1 (.int _ _))) (.bool _) ?_
  by_cases a1 : 0 ≤ c
  · simp -implicitDefEqProofs [encCtlg, a1]
  · simp -implicitDefEqProofs [encCtlg, a1]

theorem there_ok (x : Ctlg) (_ : x.wf) {c : Int} (_ : inI c) : PCall Try.prog 62 [.agg (encCtlg x), .int .i64 c] (.bool (x.inn c)) := by
  refine PCall.run hb62 ok62 (by simp) (pures_cons (.agg (pure_encCtlg x)) (pures1 (.int _ _))) (.bool _) ?_
  by_cases a1 : 0 ≤ c
  · by_cases a2 : c < (x.classes.length : Int)
    · simp -implicitDefEqProofs [encCtlg, a1, a2, Ctlg.inn]
    · simp -implicitDefEqProofs [encCtlg, a1, a2, Ctlg.inn]
  · simp -implicitDefEqProofs [encCtlg, a1, Ctlg.inn]

/-- The unit of a step, as the document counts: how many breakpoints there are before it. -/
def Ctlg.unitN (x : Ctlg) (c d : Int) (i : Nat) : Nat := ((List.range i).filter fun j : Nat => x.brkAt c d j).length

theorem refUnit_ok (x : Ctlg) (hx : x.wf) (hp : ∀ c d, 0 ≤ x.brk c d) {c d : Int} (hc : inI c) (hd : inI d) {i : Nat} (hi : i < 9223372036854775808) : PCall Try.prog 73 [.agg (encCtlg x), .int .i64 c, .int .i64 d, .int .i64 i] (.int .i64 (x.unitN c d i)) := by
  refine PCall.run hb73 ok73 (by simp) (pures_cons (.agg (pure_encCtlg x)) (pures_cons (.int _ _) (pures_cons (.int _ _) (pures1 (.int _ _))))) (.int _ _) ?_
  simp -implicitDefEqProofs [encCtlg]
  refine run_loop (fun n s h => ∃ j : Nat, n = i - j ∧ j ≤ i ∧ s 4 = .ptr 0 0 ∧ 0 < h.bn ∧ h.bx 0 = some ([.sl .no (x.classes.map encCls)] ++ x.breaks.map (AV.int .i64)) ∧ s 1 = .int .i64 c ∧ s 2 = .int .i64 d ∧ s 3 = .int .i64 i ∧ s 10 = .int .i64 j ∧ s 9 = .int .i64 (x.unitN c d j)) ?_ i ?_
  · rintro n s h ⟨j, hn, hj, h4, h0, hb, h1, h2, h3, h10, h9⟩ ih
    by_cases hlt : j < i
    · have hle : x.unitN c d j ≤ j := Nat.le_trans (List.length_filter_le _ _) (by simp)
      have hsu : x.unitN c d (j + 1) = x.unitN c d j + (if x.brkAt c d j then 1 else 0) := by
        unfold Ctlg.unitN
        rw [List.range_succ, List.filter_append, List.length_append]
        by_cases h : x.brkAt c d j <;> simp [h]
      simp -implicitDefEqProofs [h4, h0, hb, h1, h2, h3, h10, hlt, hx.2.1]
      refine callQ_p (refBreak_ok x hx hp hc hd (i := j) (by simp only [inI]; omega)) (by simp [encCtlg, x.take16 hx.2.1]) ?_
      cases hbr : x.brkAt c d j
      · simp -implicitDefEqProofs [h10, inc_i64 hlt (by omega), -Int.natCast_add]
        exact ih (i - (j + 1)) _ _ (by omega) ⟨j + 1, rfl, by omega, by simp [h4], by simpa using h0, by simp [hb], by simp [h1], by simp [h2], by simp [h3], by simp, by simp [h9, hsu, hbr]⟩
      · simp -implicitDefEqProofs [h9, h10, inc_i64 hlt (by omega), inc_i64 (show x.unitN c d j < i by omega) (by omega), -Int.natCast_add]
        exact ih (i - (j + 1)) _ _ (by omega) ⟨j + 1, rfl, by omega, by simp [h4], by simpa using h0, by simp [hb], by simp [h1], by simp [h2], by simp [h3], by simp, by simp [hsu, hbr]⟩
    · obtain rfl : j = i := by omega
      simp -implicitDefEqProofs [h3, h10, h9]
  · exact ⟨0, by simp [H.nil, Ctlg.unitN]⟩
end Go.Proofs
