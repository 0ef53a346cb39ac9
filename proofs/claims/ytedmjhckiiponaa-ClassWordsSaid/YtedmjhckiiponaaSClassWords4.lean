/- What the functions that the statement reaches do: their contracts; and what follows of it. -/
import Derived.Test.YtedmjhckiiponaaSClassWords3
import Derived.Test.YtedmjhckiiponaaSClassWords1
import Derived.Test.YtedmjhckiiponaaK4
/- Which programs, footprints, classes and catalogues there may be: the document's answer. -/
namespace Go.Proofs
open Go Go.RowKit Go.Am

theorem elOK_Inst : ElOK encInst 9 true := ⟨fun _ => rfl, (fun h => by cases h), pure_encInst, wk_encInst⟩
theorem elOK_SpanT : ElOK encSpanT 5 true := ⟨fun _ => rfl, (fun h => by cases h), pure_encSpanT, wk_encSpanT⟩
theorem elOK_Stp : ElOK encStp 2 true := ⟨fun _ => rfl, (fun h => by cases h), pure_encStp, wk_encStp⟩
theorem elOK_Cls : ElOK encCls 5 true := ⟨fun _ => rfl, (fun h => by cases h), pure_encCls, wk_encCls⟩
theorem elOK_Spn : ElOK encSpn 2 true := ⟨fun _ => rfl, (fun h => by cases h), pure_encSpn, wk_encSpn⟩
theorem elOK_Nod : ElOK encNod 6 true := ⟨fun _ => rfl, (fun h => by cases h), pure_encNod, wk_encNod⟩
theorem elOK_Chg : ElOK encChg 3 true := ⟨fun _ => rfl, (fun h => by cases h), pure_encChg, wk_encChg⟩
theorem elOK_KeyT : ElOK encKeyT 2 true := ⟨fun _ => rfl, (fun h => by cases h), pure_encKeyT, wk_encKeyT⟩

def progMay (l : List Inst) (args : Int) : Bool := !decide (args < 0) && !decide (3 < args) && !decide (l.length < 1) && !decide (8 < l.length) && l.all fun x => oneInst x args
def footMay (l : List SpanT) (args : Int) : Bool := !decide (args < 0) && !decide (3 < args) && !decide (4 < l.length) && l.all fun s => mayKey s.lo args && mayKey s.hi args

theorem all_take_false {α : Type} {p : α → Bool} {l : List α} {j : Nat} (hj : j < l.length) (h : p l[j] = false) : l.all p = false := by
  rw [List.all_eq_false]
  exact ⟨l[j], List.getElem_mem hj, by simp [h]⟩
theorem all_whole {α : Type} {p : α → Bool} {l : List α} {j : Nat} (hj : l.length ≤ j) (h : ∀ i (hi : i < l.length), i < j → p l[i] = true) : l.all p = true := by
  rw [List.all_eq_true]
  intro x hx
  obtain ⟨i, hi, rfl⟩ := List.mem_iff_getElem.1 hx
  exact h i hi (by omega)

theorem refProgMay_ok (l : List Inst) (args : Int) (hl : l.length ≤ 9223372036854775807) : PCall Try.prog 93 [.sl .no (l.map encInst), .int .i64 args] (.bool (progMay l args)) := by
  refine PCall.run hb93 ok93 (by simp) (pures_cons (elOK_Inst.pureL l) (pures1 (.int _ _))) (.bool _) ?_
  by_cases bad : ((args < 0 ∨ 3 < args) ∨ (l.length : Int) < 1) ∨ (8 : Int) < (l.length : Int)
  · have hf : progMay l args = false := by
      simp only [progMay, Bool.and_eq_false_iff, Bool.not_eq_false', decide_eq_true_eq]
      omega
    simp (maxSteps := 2000000) +contextual -implicitDefEqProofs [↓gdL_F, ↓condQ_b, -Int.not_lt, -Int.not_le, -Nat.not_lt, -Nat.not_le, hf]
    all_goals (intros; omega)
  · have hm : progMay l args = l.all fun x => oneInst x args := by
      simp only [progMay, show ¬ args < 0 by omega, show ¬ 3 < args by omega, show ¬ l.length < 1 by omega, show ¬ 8 < l.length by omega]
      simp
    simp (maxSteps := 2000000) +contextual -implicitDefEqProofs [↓gdL_F, ↓condQ_b, -Int.not_lt, -Int.not_le, -Nat.not_lt, -Nat.not_le, show ¬ args < 0 by omega, show ¬ 3 < args by omega, show ¬ (l.length : Int) < 1 by omega, show ¬ (8 : Int) < (l.length : Int) by omega, hm]
    refine run_loop (fun n s h => ∃ j : Nat, n = l.length - j ∧ j ≤ l.length ∧ s 0 = .sl .no (l.map encInst) ∧ s 1 = .int .i64 args ∧ s 5 = .int .i64 j ∧ ∀ i (hi : i < l.length), i < j → oneInst l[i] args = true) ?_ l.length ?_
    · rintro n s h ⟨j, hn, hj, h0, h1, h5, hall⟩ ih
      by_cases hlt : j < l.length
      · simp -implicitDefEqProofs [h0, h1, h5, hlt, elOK_Inst.un, -unCells]
        refine callQ_p (refOne_ok l[j] args) (by simp [elV]) ?_
        cases hp : oneInst l[j] args
        · simp -implicitDefEqProofs [all_take_false (p := fun x => oneInst x args) hlt hp]
        · simp -implicitDefEqProofs [h5, inc_i64 hlt hl, -Int.natCast_add]
          exact ih (l.length - (j + 1)) _ _ (by omega) ⟨j + 1, rfl, by omega, by simp [h0], by simp [h1], by simp, fun i hi hij => by
            by_cases h : i = j
            · subst h; exact hp
            · exact hall i hi (by omega)⟩
      · simp -implicitDefEqProofs [h0, h5, hlt, all_whole (p := fun x => oneInst x args) (by omega) hall]
    · exact ⟨0, by simp⟩

theorem refFootMay_ok (l : List SpanT) (args : Int) (hl : l.length ≤ 9223372036854775807) : PCall Try.prog 94 [.sl .no (l.map encSpanT), .int .i64 args] (.bool (footMay l args)) := by
  refine PCall.run hb94 ok94 (by simp) (pures_cons (elOK_SpanT.pureL l) (pures1 (.int _ _))) (.bool _) ?_
  by_cases bad : (args < 0 ∨ 3 < args) ∨ (4 : Int) < (l.length : Int)
  · have hf : footMay l args = false := by
      simp only [footMay, Bool.and_eq_false_iff, Bool.not_eq_false', decide_eq_true_eq]
      omega
    simp (maxSteps := 2000000) +contextual -implicitDefEqProofs [↓gdL_F, ↓condQ_b, -Int.not_lt, -Int.not_le, -Nat.not_lt, -Nat.not_le, hf]
    all_goals (intros; omega)
  · have hm : footMay l args = l.all fun s => mayKey s.lo args && mayKey s.hi args := by
      simp only [footMay, show ¬ args < 0 by omega, show ¬ 3 < args by omega, show ¬ 4 < l.length by omega]
      simp
    simp (maxSteps := 2000000) +contextual -implicitDefEqProofs [↓gdL_F, ↓condQ_b, -Int.not_lt, -Int.not_le, -Nat.not_lt, -Nat.not_le, show ¬ args < 0 by omega, show ¬ 3 < args by omega, show ¬ (4 : Int) < (l.length : Int) by omega, hm]
    refine run_loop (fun n s h => ∃ j : Nat, n = l.length - j ∧ j ≤ l.length ∧ s 0 = .sl .no (l.map encSpanT) ∧ s 1 = .int .i64 args ∧ s 5 = .int .i64 j ∧ ∀ i (hi : i < l.length), i < j → (mayKey l[i].lo args && mayKey l[i].hi args) = true) ?_ l.length ?_
    · rintro n s h ⟨j, hn, hj, h0, h1, h5, hall⟩ ih
      by_cases hlt : j < l.length
      · simp -implicitDefEqProofs [h0, h1, h5, hlt, encSpanT]
        refine callQ_p (refMayKey_ok l[j].lo args) (by simp [encKeyT]) ?_
        cases hp : mayKey l[j].lo args
        · simp -implicitDefEqProofs [all_take_false (p := fun s => mayKey s.lo args && mayKey s.hi args) hlt (by simp [hp])]
        · simp -implicitDefEqProofs [h0, h1, h5, hlt, encSpanT]
          refine callQ_p (refMayKey_ok l[j].hi args) (by simp [encKeyT]) ?_
          cases hq : mayKey l[j].hi args
          · simp -implicitDefEqProofs [all_take_false (p := fun s => mayKey s.lo args && mayKey s.hi args) hlt (by simp [hp, hq])]
          · simp -implicitDefEqProofs [h5, inc_i64 hlt hl, -Int.natCast_add]
            exact ih (l.length - (j + 1)) _ _ (by omega) ⟨j + 1, rfl, by omega, by simp [h0], by simp [h1], by simp, fun i hi hij => by
              by_cases h : i = j
              · subst h; simp [hp, hq]
              · exact hall i hi (by omega)⟩
      · have hw := all_whole (p := fun s : SpanT => mayKey s.lo args && mayKey s.hi args) (by omega) hall
        simp -implicitDefEqProofs [h0, h5, hlt, hw]
    · exact ⟨0, by simp⟩
end Go.Proofs

/- Which classes and catalogues there may be: the document's answer. -/
namespace Go.Proofs
open Go Go.RowKit Go.Am

def backMay (c : Stp) (args : Int) : Bool := (!decide (0 < c.code.length) || progMay c.code args) && c.code.all fun x => decide (x.op < 6)
def stepMay (args : Int) (p : Stp × Stp) : Bool := progMay p.1.code args && footMay p.1.foot args && footMay p.2.foot args && backMay p.2 args
def clsMay (x : Cls) : Bool :=
  !decide (x.name.size < 1) && !decide (16 < x.name.size) && !decide (x.args < 0) && !decide (3 < x.args) && !decide (x.steps.length < 1) && !decide (4 < x.steps.length) && decide (x.comps.length = x.steps.length) &&
    (x.steps.zip x.comps).all (stepMay x.args)

theorem refClsMay_ok (x : Cls) (hx : x.wf) : PCall Try.prog 49 [.agg (encCls x)] (.bool (clsMay x)) := by
  refine PCall.run hb49 ok49 (by simp) (pures1 (.agg (pure_encCls x))) (.bool _) ?_
  obtain ⟨hwn, hwa, ⟨hsl, hsw⟩, hcl, hcw⟩ := hx
  by_cases bad : x.name.size < 1 ∨ 16 < x.name.size ∨ x.args < 0 ∨ 3 < x.args ∨ x.steps.length < 1 ∨ 4 < x.steps.length ∨ x.comps.length ≠ x.steps.length
  · have hf : clsMay x = false := by
      simp only [clsMay, Bool.and_eq_false_iff, Bool.not_eq_false', decide_eq_true_eq, decide_eq_false_iff_not]
      omega
    simp (maxSteps := 2000000) +contextual -implicitDefEqProofs [↓gdL_F, ↓condQ_b, -Int.not_lt, -Int.not_le, -Nat.not_lt, -Nat.not_le, hf, encCls]
    all_goals (intros; omega)
  · have hm : clsMay x = (x.steps.zip x.comps).all (stepMay x.args) := by
      simp only [clsMay, show ¬ x.name.size < 1 by omega, show ¬ 16 < x.name.size by omega, show ¬ x.args < 0 by omega, show ¬ 3 < x.args by omega, show ¬ x.steps.length < 1 by omega, show ¬ 4 < x.steps.length by omega, show x.comps.length = x.steps.length by omega]
      simp
    have hcs : x.comps.length = x.steps.length := by omega
    have hzl : (x.steps.zip x.comps).length = x.steps.length := by simp [hcs]
    have e1 : ¬ (x.name.size : Int) < 1 := by omega
    have e2 : ¬ (16 : Int) < (x.name.size : Int) := by omega
    have e5 : ¬ (x.steps.length : Int) < 1 := by omega
    have e6 : ¬ (4 : Int) < (x.steps.length : Int) := by omega
    simp -implicitDefEqProofs [encCls, e1, e2, show ¬ x.args < 0 by omega, show ¬ 3 < x.args by omega, e5, e6, hcs, hm]
    refine run_loop (fun n s h => ∃ j : Nat, n = x.steps.length - j ∧ j ≤ x.steps.length ∧ s 1 = .ptr 0 0 ∧ 0 < h.bn ∧ h.bx 0 = some [.str x.name, .int .i64 x.args, .sl .no (x.steps.map encStp), .sl .no (x.comps.map encStp), .bool x.resume] ∧ s 3 = .int .i64 x.steps.length ∧ s 4 = .int .i64 j ∧ ∀ i (hi : i < (x.steps.zip x.comps).length), i < j → stepMay x.args (x.steps.zip x.comps)[i] = true) ?_ x.steps.length ?_
    · rintro n s h ⟨j, hn, hj, h1, h0, hb, h3, h4, hall⟩ ih
      by_cases hlt : j < x.steps.length
      · have hlt2 : j < x.comps.length := by omega
        have hlz : j < (x.steps.zip x.comps).length := by omega
        have hws := hsw _ (List.getElem_mem hlt)
        have hwc := hcw _ (List.getElem_mem hlt2)
        have hno : stepMay x.args (x.steps.zip x.comps)[j] = false → (x.steps.zip x.comps).all (stepMay x.args) = false := all_take_false hlz
        rw [List.getElem_zip] at hno
        simp -implicitDefEqProofs [h3, h4, hlt]
        refine run_dregL c49_d7 rfl ?_
        simp -implicitDefEqProofs [h1, h0, hb, h4, hlt, encStp]
        refine callC_p (refProgMay_ok x.steps[j].code x.args hws.1.1) (by simp) ?_
        cases hp : progMay x.steps[j].code x.args
        · have := hno (by simp [stepMay, hp])
          simp -implicitDefEqProofs [this]
        simp -implicitDefEqProofs [h1, h0, hb, h4, hlt, encStp]
        refine callC_p (refFootMay_ok x.steps[j].foot x.args hws.2.1) (by simp) ?_
        cases hq : footMay x.steps[j].foot x.args
        · have := hno (by simp [stepMay, hp, hq])
          simp -implicitDefEqProofs [this]
        simp -implicitDefEqProofs [h1, h0, hb, h4, hlt2, encStp]
        refine callC_p (refFootMay_ok x.comps[j].foot x.args hwc.2.1) (by simp) ?_
        cases hr : footMay x.comps[j].foot x.args
        · have := hno (by simp [stepMay, hp, hq, hr])
          simp -implicitDefEqProofs [this]
        simp -implicitDefEqProofs [h1, h0, hb, h4, hlt2, encStp]
        have hb2 : backMay x.comps[j] x.args = false → (x.steps.zip x.comps).all (stepMay x.args) = false := fun h => hno (by simp [stepMay, h])
        have hb3 : backMay x.comps[j] x.args = true → stepMay x.args (x.steps[j], x.comps[j]) = true := fun h => by simp [stepMay, hp, hq, hr, h]
        clear hno
        have hend : ∀ i (hi : i < (x.steps.zip x.comps).length), backMay x.comps[j] x.args = true → i < j + 1 → stepMay x.args (x.steps.zip x.comps)[i] = true := fun i hi hbm hij => by
          by_cases h : i = j
          · subst h; rw [List.getElem_zip]; exact hb3 hbm
          · exact hall i hi (by omega)
        by_cases hc : 0 < x.comps[j].code.length
        focus
          simp -implicitDefEqProofs [hc, h1, h0, hb]
          refine callQ_p (refProgMay_ok x.comps[j].code x.args hwc.1.1) (by simp) ?_
          cases hs : progMay x.comps[j].code x.args
          · have := hb2 (by simp [backMay, hc, hs])
            simp -implicitDefEqProofs [this, hc]
          simp -implicitDefEqProofs [hc]
          have hcode : (!decide (0 < x.comps[j].code.length) || progMay x.comps[j].code x.args) = true := by simp [hs]
        rotate_left
        focus
          simp -implicitDefEqProofs [hc]
          have hcode : (!decide (0 < x.comps[j].code.length) || progMay x.comps[j].code x.args) = true := by simp [hc]
        all_goals
          have hbm : backMay x.comps[j] x.args = x.comps[j].code.all fun x => decide (x.op < 6) := by simp [backMay, hcode]
          refine run_loop (fun n s h => ∃ k : Nat, n = x.comps[j].code.length - k ∧ k ≤ x.comps[j].code.length ∧ s 1 = .ptr 0 0 ∧ 0 < h.bn ∧ h.bx 0 = some [.str x.name, .int .i64 x.args, .sl .no (x.steps.map encStp), .sl .no (x.comps.map encStp), .bool x.resume] ∧ s 3 = .int .i64 x.steps.length ∧ s 4 = .int .i64 j ∧ s 5 = .sl .no (x.comps[j].code.map encInst) ∧ s 6 = .int .i64 k ∧ ∀ i (hi : i < x.comps[j].code.length), i < k → decide (x.comps[j].code[i].op < 6) = true) ?_ x.comps[j].code.length ?_
          · rintro n s h ⟨k, hn, hk, h1, h0, hb, h3, h4, h5, h6, hal⟩ ih2
            by_cases hlk : k < x.comps[j].code.length
            · by_cases ho : x.comps[j].code[k].op < 6
              · simp -implicitDefEqProofs [h5, h6, hlk, encInst, show ¬ 6 ≤ x.comps[j].code[k].op by omega, inc_i64 hlk hwc.1.1, -Int.natCast_add]
                exact ih2 (x.comps[j].code.length - (k + 1)) _ _ (by omega) ⟨k + 1, rfl, by omega, by simp [h1], by simpa using h0, by simp [hb], by simp [h3], by simp [h4], by simp [h5], by simp, fun i hi hij => by
                  by_cases h : i = k
                  · subst h; simpa using ho
                  · exact hal i hi (by omega)⟩
              · have := hb2 (hbm ▸ all_take_false (p := fun x : Inst => decide (x.op < 6)) hlk (by simpa using ho))
                simp -implicitDefEqProofs [h5, h6, hlk, encInst, show 6 ≤ x.comps[j].code[k].op by omega, this]
            · have hbt := hbm.trans (all_whole (p := fun x : Inst => decide (x.op < 6)) (by omega) hal)
              simp -implicitDefEqProofs [h4, h5, h6, hlk, inc_i64 hlt hsl, -Int.natCast_add]
              exact ih (x.steps.length - (j + 1)) _ _ (by omega) ⟨j + 1, rfl, by omega, by simp [h1], by simpa using h0, by simp [hb], by simp [h3], by simp, fun i hi hij => hend i hi hbt hij⟩
          · exact ⟨0, by simp [h1, h0, hb, h3, h4]⟩
      · have hw := all_whole (p := stepMay x.args) (by omega) hall
        simp -implicitDefEqProofs [h3, h4, hlt, hw]
    · exact ⟨0, by simp [H.nil]⟩
end Go.Proofs

/- Which catalogues there may be: the document's answer. -/
namespace Go.Proofs
open Go Go.RowKit Go.Am

def Ctlg.nameAt (x : Ctlg) (i : Nat) : ByteArray := (x.classes[i]?.map (·.name)).getD ByteArray.empty
def Ctlg.stepsN (x : Ctlg) (i : Nat) : Nat := (x.classes[i]?.map (·.steps.length)).getD 0
def Ctlg.brk (x : Ctlg) (c d : Nat) : Int := (x.breaks[4 * c + d]?).getD 0
def Ctlg.mostB (x : Ctlg) (c d : Nat) : Int := if c < x.classes.length ∧ d < x.classes.length then 2 ^ (x.stepsN c - 1) else 1
def Ctlg.brkOK (x : Ctlg) (c d : Nat) : Bool := !decide (x.brk c d < 0) && !decide (x.mostB c d ≤ x.brk c d)
def Ctlg.namesOK (x : Ctlg) (i : Nat) : Bool := (List.range i).all fun j => !decide (x.nameAt j = x.nameAt i)
def Ctlg.clsOK (x : Ctlg) (i : Nat) : Bool := (x.classes[i]?.map clsMay).getD false
def catMay (x : Ctlg) : Bool :=
  !decide (x.classes.length < 1) && !decide (4 < x.classes.length) && ((List.range x.classes.length).all fun i => x.clsOK i && x.namesOK i) && (List.range 4).all fun c => (List.range 4).all (x.brkOK c)

theorem allR_false {p : Nat → Bool} {n j : Nat} (hj : j < n) (h : p j = false) : (List.range n).all p = false := by
  rw [List.all_eq_false]
  exact ⟨j, List.mem_range.2 hj, by simp [h]⟩
theorem allR_true {p : Nat → Bool} {n j : Nat} (hj : n ≤ j) (h : ∀ i, i < j → p i = true) : (List.range n).all p = true := by
  rw [List.all_eq_true]
  intro x hx
  exact h x (by have := List.mem_range.1 hx; omega)
@[simp] theorem take_encCls (y : Cls) : List.take 5 (encCls y) = encCls y := rfl
theorem Ctlg.brk_of {x : Ctlg} {c d : Nat} (hb : x.breaks.length = 16) (hc : c < 4) (hd : d < 4) : x.brk c d = x.breaks[4 * c + d] := by simp [brk, show 4 * c + d < x.breaks.length by omega]
theorem Ctlg.brk_load {x : Ctlg} (v : AV) {c d : Nat} (hb : x.breaks.length = 16) (hc : c < 4) (hd : d < 4) : List.take 1 (List.drop (1 + c * 4 + d) (v :: x.breaks.map (AV.int .i64))) = [.int .i64 (x.brk c d)] := by
  rw [show 1 + c * 4 + d = (4 * c + d) + 1 by omega, List.drop_succ_cons, brk_of hb hc hd, List.drop_eq_getElem_cons (by simp; omega)]
  simp
theorem Ctlg.nameAt_of {x : Ctlg} {i : Nat} (h : i < x.classes.length) : x.nameAt i = x.classes[i].name := by simp [nameAt, h]
theorem Ctlg.stepsN_of {x : Ctlg} {i : Nat} (h : i < x.classes.length) : x.stepsN i = x.classes[i].steps.length := by simp [stepsN, h]
theorem Ctlg.clsOK_of {x : Ctlg} {i : Nat} (h : i < x.classes.length) : x.clsOK i = clsMay x.classes[i] := by simp [clsOK, h]

set_option maxHeartbeats 1000000 in
theorem refCatMay_ok (x : Ctlg) (hx : x.wf) : PCall Try.prog 21 [.agg (encCtlg x)] (.bool (catMay x)) := by
  refine PCall.run hb21 ok21 (by simp) (pures1 (.agg (pure_encCtlg x))) (.bool _) ?_
  obtain ⟨⟨hcl, hcw⟩, hbl, hbw⟩ := hx
  by_cases bad : x.classes.length < 1 ∨ 4 < x.classes.length
  · have hf : catMay x = false := by
      simp only [catMay, Bool.and_eq_false_iff, Bool.not_eq_false', decide_eq_true_eq]
      omega
    simp (maxSteps := 2000000) +contextual -implicitDefEqProofs [↓gdL_F, ↓condQ_b, -Int.not_lt, -Int.not_le, -Nat.not_lt, -Nat.not_le, hf, encCtlg]
    all_goals (intros; omega)
  · have hm : catMay x = (((List.range x.classes.length).all fun i => x.clsOK i && x.namesOK i) && (List.range 4).all fun c => (List.range 4).all (x.brkOK c)) := by
      simp only [catMay, show ¬ x.classes.length < 1 by omega, show ¬ 4 < x.classes.length by omega]
      simp
    have e5 : ¬ (x.classes.length : Int) < 1 := by omega
    have e6 : ¬ (4 : Int) < (x.classes.length : Int) := by omega
    simp -implicitDefEqProofs [encCtlg, e5, e6, hm]
    refine run_loop (fun n s h => ∃ j : Nat, n = x.classes.length - j ∧ j ≤ x.classes.length ∧ s 1 = .ptr 0 0 ∧ 0 < h.bn ∧ h.bx 0 = some ([.sl .no (x.classes.map encCls)] ++ x.breaks.map (AV.int .i64)) ∧ s 3 = .int .i64 x.classes.length ∧ s 4 = .int .i64 j ∧ ∀ i, i < j → (x.clsOK i && x.namesOK i) = true) ?_ x.classes.length ?_
    · rintro n s h ⟨j, hn, hj, h1, h0, hb, h3, h4, hall⟩ ih
      by_cases hlt : j < x.classes.length
      · have hno : (x.clsOK j && x.namesOK j) = false → ((List.range x.classes.length).all fun i => x.clsOK i && x.namesOK i) = false := allR_false (p := fun i => x.clsOK i && x.namesOK i) hlt
        simp -implicitDefEqProofs [h1, h0, hb, h3, h4, hlt]
        refine callQ_p (refClsMay_ok x.classes[j] (hcw _ (List.getElem_mem hlt))) (by simp) ?_
        cases hp : clsMay x.classes[j]
        · have := hno (by simp [Ctlg.clsOK_of hlt, hp])
          simp -implicitDefEqProofs [this]
        simp -implicitDefEqProofs []
        refine run_loop (fun n s h => ∃ k : Nat, n = j - k ∧ k ≤ j ∧ s 1 = .ptr 0 0 ∧ 0 < h.bn ∧ h.bx 0 = some ([.sl .no (x.classes.map encCls)] ++ x.breaks.map (AV.int .i64)) ∧ s 3 = .int .i64 x.classes.length ∧ s 4 = .int .i64 j ∧ s 5 = .int .i64 k ∧ ∀ i, i < k → (!decide (x.nameAt i = x.nameAt j)) = true) ?_ j ?_
        · rintro n s h ⟨k, hn, hk, h1, h0, hb, h3, h4, h5, hal⟩ ih2
          by_cases hlk : k < j
          · have hlk2 : k < x.classes.length := by omega
            simp -implicitDefEqProofs [h4, h5, hlk]
            refine run_dregL c21_d11 rfl ?_
            simp -implicitDefEqProofs [h1, h0, hb, h4, h5, hlk2, hlt, encCls]
            by_cases he : x.classes[k].name = x.classes[j].name
            · have := hno (by
                rw [allR_false (n := j) hlk (p := fun k => !decide (x.nameAt k = x.nameAt j)) (by simp [Ctlg.nameAt_of hlk2, Ctlg.nameAt_of hlt, he]) |> (show x.namesOK j = false from ·)]
                simp)
              simp -implicitDefEqProofs [he, this]
            · simp -implicitDefEqProofs [he, h5, inc_i64 hlk (by omega), -Int.natCast_add]
              exact ih2 (j - (k + 1)) _ _ (by omega) ⟨k + 1, rfl, by omega, by simp [h1], by simpa using h0, by simp [hb], by simp [h3], by simp [h4], by simp, fun i hij => by
                by_cases h : i = k
                · subst h; simpa [Ctlg.nameAt_of hlk2, Ctlg.nameAt_of hlt] using he
                · exact hal i (by omega)⟩
          · have hn : x.namesOK j = true := allR_true (by omega) hal
            simp -implicitDefEqProofs [h4, h5, hlk, inc_i64 hlt hcl, -Int.natCast_add]
            exact ih (x.classes.length - (j + 1)) _ _ (by omega) ⟨j + 1, rfl, by omega, by simp [h1], by simpa using h0, by simp [hb], by simp [h3], by simp, fun i hij => by
              by_cases h : i = j
              · subst h; simp [Ctlg.clsOK_of hlt, hp, hn]
              · exact hall i (by omega)⟩
        · exact ⟨0, by simp [h1, h0, hb, h3, h4]⟩
      · have hw : ((List.range x.classes.length).all fun i => x.clsOK i && x.namesOK i) = true := allR_true (by omega) hall
        have hst : ∀ c, c < x.classes.length → x.stepsN c ≤ 4 := fun c hc => by
          have h := hall c (by omega)
          rw [Bool.and_eq_true, Ctlg.clsOK_of hc] at h
          have h := h.1
          simp only [clsMay, Bool.and_eq_true, Bool.not_eq_true', decide_eq_false_iff_not] at h
          rw [Ctlg.stepsN_of hc]
          omega
        simp -implicitDefEqProofs [h3, h4, hlt, hw]
        clear ih hall hw hm
        refine run_loop (fun n s h => ∃ c : Nat, n = 4 - c ∧ c ≤ 4 ∧ s 1 = .ptr 0 0 ∧ 0 < h.bn ∧ h.bx 0 = some ([.sl .no (x.classes.map encCls)] ++ x.breaks.map (AV.int .i64)) ∧ s 3 = .int .i64 x.classes.length ∧ s 6 = .int .i64 c ∧ ∀ i, i < c → (List.range 4).all (x.brkOK i) = true) ?_ 4 ?_
        · rintro n s h ⟨c, hn, hc, h1, h0, hb, h3, h6, hal⟩ ih
          by_cases hlc : c < 4
          · have hno : (List.range 4).all (x.brkOK c) = false → ((List.range 4).all fun c => (List.range 4).all (x.brkOK c)) = false := allR_false (p := fun c => (List.range 4).all (x.brkOK c)) hlc
            simp -implicitDefEqProofs [h6, show (c : Int) < 4 by omega]
            refine run_loop (fun n s h => ∃ d : Nat, n = 4 - d ∧ d ≤ 4 ∧ s 1 = .ptr 0 0 ∧ 0 < h.bn ∧ h.bx 0 = some ([.sl .no (x.classes.map encCls)] ++ x.breaks.map (AV.int .i64)) ∧ s 3 = .int .i64 x.classes.length ∧ s 6 = .int .i64 c ∧ s 7 = .int .i64 d ∧ ∀ i, i < d → x.brkOK c i = true) ?_ 4 ?_
            · rintro n s h ⟨d, hn, hd, h1, h0, hb, h3, h6, h7, hal2⟩ ih2
              by_cases hld : d < 4
              · have hno2 : x.brkOK c d = false → ((List.range 4).all fun c => (List.range 4).all (x.brkOK c)) = false := fun h => hno (allR_false hld h)
                simp -implicitDefEqProofs [h3, h6, h7, show (d : Int) < 4 by omega]
                by_cases hb2 : c < x.classes.length ∧ d < x.classes.length
                focus
                  obtain ⟨hc2, hd2⟩ := hb2
                  have hms : x.mostB c d = 2 ^ (x.stepsN c - 1) := if_pos ⟨hc2, hd2⟩
                  have h4 := hst c hc2
                  rw [Ctlg.stepsN_of hc2] at hms h4
                  simp -implicitDefEqProofs [h3, h7, hc2, hd2]
                  refine run_loop (fun n s h => ∃ k : Nat, n = 5 - k ∧ 1 ≤ k ∧ (k = 1 ∨ k ≤ x.classes[c].steps.length) ∧ s 1 = .ptr 0 0 ∧ 0 < h.bn ∧ h.bx 0 = some ([.sl .no (x.classes.map encCls)] ++ x.breaks.map (AV.int .i64)) ∧ s 3 = .int .i64 x.classes.length ∧ s 6 = .int .i64 c ∧ s 7 = .int .i64 d ∧ s 9 = .int .i64 k ∧ s 8 = .int .i64 (2 ^ (k - 1))) ?_ 4 ?_
                  rotate_left
                  · exact ⟨1, by simp [h1, h0, hb, h3, h6, h7]⟩
                  rintro n s h ⟨k, hn, hk1, hk, h1, h0, hb, h3, h6, h7, h9, h8⟩ ih3
                  by_cases hlk : k < x.classes[c].steps.length
                  · have hk4 : k = 1 ∨ k = 2 ∨ k = 3 := by omega
                    have hw8 : IntKind.i64.wrap (2 * 2 ^ (k - 1)) = 2 ^ (k + 1 - 1) := by
                      rcases hk4 with rfl | rfl | rfl <;> decide
                    simp -implicitDefEqProofs [h1, h0, hb, h6, h8, h9, hc2, hlk, encCls, inc_i64 hlk (by omega), -Int.natCast_add, hw8]
                    exact ih3 (5 - (k + 1)) _ _ (by omega) ⟨k + 1, rfl, by omega, by omega, by simp [h1], by simpa using h0, by simp [hb], by simp [h3], by simp [h6], by simp [h7], by simp, by simp⟩
                  have hms2 : (2 : Int) ^ (k - 1) = x.mostB c d := by
                    rw [hms]; congr 1; omega
                  rw [hms2] at h8
                  simp -implicitDefEqProofs [h1, h0, hb, h6, h7, h9, hc2, hlk, encCls]
                rotate_left
                focus
                  have hms : x.mostB c d = 1 := if_neg hb2
                  by_cases hc2 : c < x.classes.length
                  focus
                    simp -implicitDefEqProofs [h1, h3, h6, h7, hc2, show ¬ d < x.classes.length from fun h => hb2 ⟨hc2, h⟩]
                    rw [← hms]
                    have h8 := hc
                  rotate_left
                  focus
                    simp -implicitDefEqProofs [h1, h6, h7, hc2]
                    rw [← hms]
                    have h8 := hc
                all_goals
                  have hbk := Ctlg.brk_load (x := x) (.sl .no (x.classes.map encCls)) hbl hlc hld
                  by_cases hneg : x.brk c d < 0 ∨ x.mostB c d ≤ x.brk c d
                  · have hf : x.brkOK c d = false := by
                      simp only [Ctlg.brkOK, Bool.and_eq_false_iff, Bool.not_eq_false', decide_eq_true_eq]
                      exact hneg
                    simp (maxSteps := 2000000) +contextual -implicitDefEqProofs [↓gdL_F, ↓condQ_b, -Int.not_lt, -Int.not_le, -Nat.not_lt, -Nat.not_le, h1, h0, hb, h6, h7, h8, show (c : Int) < 4 by omega, show (d : Int) < 4 by omega, hbk, hbl, show 1 + c * 4 + d + 1 ≤ 16 + 1 by omega, hno2 hf]
                    all_goals (intros; omega)
                  · have hf : x.brkOK c d = true := by
                      simp only [Ctlg.brkOK, Bool.and_eq_true, Bool.not_eq_true', decide_eq_false_iff_not]
                      omega
                    simp -implicitDefEqProofs [h1, h0, hb, h6, h7, h8, show (c : Int) < 4 by omega, show (d : Int) < 4 by omega, hbk, hbl, show 1 + c * 4 + d + 1 ≤ 16 + 1 by omega, show ¬ x.brk c d < 0 by omega, show ¬ x.mostB c d ≤ x.brk c d by omega, inc_i64 hld (show 4 ≤ _ by omega), -Int.natCast_add]
                    exact ih2 (4 - (d + 1)) _ _ (by omega) ⟨d + 1, rfl, by omega, by simp [h1], by simpa using h0, by simp [hb], by simp [h3], by simp [h6], by simp, fun i hij => by
                      by_cases h : i = d
                      · subst h; exact hf
                      · exact hal2 i (by omega)⟩
              · have hw : (List.range 4).all (x.brkOK c) = true := allR_true (by omega) hal2
                simp -implicitDefEqProofs [h6, h7, show ¬ (d : Int) < 4 by omega]
                simp -implicitDefEqProofs [inc_i64 hlc (show 4 ≤ _ by omega), -Int.natCast_add]
                exact ih (4 - (c + 1)) _ _ (by omega) ⟨c + 1, rfl, by omega, by simp [h1], by simpa using h0, by simp [hb], by simp [h3], by simp, fun i hij => by
                  by_cases h : i = c
                  · subst h; exact hw
                  · exact hal i (by omega)⟩
            · exact ⟨0, by simp [h1, h0, hb, h3, h6]⟩
          · have hw : ((List.range 4).all fun c => (List.range 4).all (x.brkOK c)) = true := allR_true (by omega) hal
            simp -implicitDefEqProofs [h6, show ¬ (c : Int) < 4 by omega, hw]
        · exact ⟨0, by simp [h1, h0, hb, h3]⟩
    · exact ⟨0, by simp [H.nil]⟩
end Go.Proofs

/- What is written of a template, an instruction, a span, a program, a footprint, a class, as items; the program's writers. -/
namespace Go.Proofs
open Go Go.RowKit Go.Am

def iN (n most : Int) : Item := ⟨0, n, most, 0, ⟨#[]⟩, []⟩
def iX (x : Int) : Item := ⟨1, 0, 0, x, ⟨#[]⟩, []⟩
def iF (r : Bool) : Item := ⟨2, if r then 1 else 0, 0, 0, ⟨#[]⟩, []⟩
def iS (s : ByteArray) : Item := ⟨3, 0, 0, 0, s, []⟩
def keyItems (k : KeyT) : List Item := [iX k.arg, iN k.base 999]
def instItems (x : Inst) : List Item := [iN x.op 255, iN x.a 255, iN x.b 255, iN x.c 255] ++ (keyItems x.k ++ keyItems x.l) ++ [iX x.x]
def progItems (l : List Inst) : List Item := iN l.length 8 :: l.flatMap instItems
def spanItems (s : SpanT) : List Item := (keyItems s.lo ++ keyItems s.hi) ++ [iF s.write]
def footItems (l : List SpanT) : List Item := iN l.length 4 :: l.flatMap spanItems
def stpItems (s : Stp) : List Item := progItems s.code ++ footItems s.foot
def clsItems (c : Cls) : List Item := [iS c.name, iN c.args 3, iN c.steps.length 4] ++ ((c.steps.zip c.comps).flatMap fun p => stpItems p.1 ++ stpItems p.2) ++ [iF c.resume]

theorem writeAll_app (a b : List Item) : writeAll (a ++ b) = writeAll a ++ writeAll b := by simp [writeAll]
theorem w_iN (n most : Int) : writeW (iN n most) = [n.toNat] := rfl
theorem w_iX (x : Int) : writeW (iX x) = [signed x] := rfl
theorem w_iF (r : Bool) : writeW (iF r) = [if r then 1 else 0] := by cases r <;> rfl
theorem w_iS (s : ByteArray) : writeW (iS s) = textW s := rfl
theorem w_keys (k l : KeyT) : writeAll (keyItems k ++ keyItems l) = [k, l].flatMap fun k => [signed k.arg, k.base.toNat] := rfl
theorem w_inst (x : Inst) : writeAll (instItems x) = [x.op, x.a, x.b, x.c].map Int.toNat ++ ([x.k, x.l].flatMap fun k => [signed k.arg, k.base.toNat]) ++ [signed x.x] := rfl
theorem w_span (s : SpanT) : writeAll (spanItems s) = ([s.lo, s.hi].flatMap fun k => [signed k.arg, k.base.toNat]) ++ [if s.write then 1 else 0] := by
  rw [spanItems, writeAll_app, w_keys]; simp [writeAll, w_iF]
theorem w_instLen (x : Inst) : (writeAll (instItems x)).length = 9 := rfl
theorem w_spanLen (s : SpanT) : (writeAll (spanItems s)).length = 5 := by rw [w_span]; rfl
theorem writeAll_flat {α : Type} (f : α → List Item) (l : List α) : writeAll (l.flatMap f) = l.flatMap fun x => writeAll (f x) := by
  simp [writeAll, List.flatMap_assoc]
theorem flat_snoc {α β : Type} (f : α → List β) {l : List α} {j : Nat} (hj : j < l.length) : (l.take (j + 1)).flatMap f = (l.take j).flatMap f ++ f l[j] := by
  rw [List.take_succ_eq_append_getElem hj, List.flatMap_append]; simp
theorem flat_len {α β : Type} (f : α → List β) (n : Nat) (hf : ∀ x, (f x).length = n) (l : List α) : (l.flatMap f).length = n * l.length := by
  induction l with
  | nil => rfl
  | cons x l ih => rw [List.flatMap_cons, List.length_append, hf, ih, List.length_cons, Nat.mul_add]; omega

theorem WTo.refl {h : H} {b : Nat} {t : Tok} {ws : List Nat} (hw : WB h b t ws) : WTo h b t ws h t := ⟨hw, .inl rfl, HF.refl _ _ _⟩
theorem WTo.al {h h1 : H} {b : Nat} {t t1 : Tok} {ws : List Nat} (a : WTo h b t ws h1 t1) (cs : List AV) : WTo h b t ws (h1.alloc cs) t1 := ⟨a.wb.alloc cs, a.next, a.keep.trans (HF.alloc _ _ _ _)⟩
theorem WTo.so {h h1 : H} {b b' : Nat} {t t1 : Tok} {ws : List Nat} (a : WTo h b t ws h1 t1) (hn : h.bn ≤ b') (hb : b < h.bn) (cs : List AV) : WTo h b t ws (h1.set b' cs) t1 :=
  ⟨⟨by simpa using a.wb.lt, by simp [show ¬ b = b' by omega, a.wb.bx], by simpa using a.wb.live⟩, a.next, a.keep.trans' (HF.set (B := (· = b')) _ rfl) (fun x hx e => by have e : x = b' := e; omega) (fun _ _ h => h)⟩

theorem counts_ok {h : H} {b : Nat} {t : Tok} {ws : List Nat} (hw : WB h b t ws) (ns : List Int) (hn : ∀ n ∈ ns, n ≤ 9223372036854775807) (hl : ws.length + ns.length ≤ 900000) : WAdd 151 [.ptr b 0, .sl .no (ns.map encN)] h b t (ws ++ ns.map Int.toNat) := by
  refine CallP.run hb151 ok151 (by simp) ?_
  simp -implicitDefEqProofs []
  refine run_loop (fun m S h1 => ∃ (j : Nat) (t1 : Tok), m = ns.length - j ∧ j ≤ ns.length ∧ S 0 = .ptr b 0 ∧ S 6 = .sl .no (ns.map encN) ∧ S 7 = .int .i64 ns.length ∧ S 8 = .int .i64 j ∧ WTo h b t (ws ++ (ns.take j).map Int.toNat) h1 t1) ?_ ns.length ?_
  rotate_left
  · exact ⟨0, t, by simpa using WTo.refl hw⟩
  rintro m S h1 ⟨j, t1, hm, hj, s0, s6, s7, s8, hq⟩ ih
  by_cases hlt : j < ns.length
  · have he : ns.take (j + 1) = ns.take j ++ [ns[j]] := by rw [List.take_succ_eq_append_getElem hlt]
    simp -implicitDefEqProofs [s0, s6, s7, s8, hlt, encN]
    refine callW (count_ok hq.wb ns[j] (hn _ (List.getElem_mem hlt)) (by simp; omega)) (by simp) fun r h2 t2 q2 => ?_
    have q3 := hq.trans q2
    rw [List.append_assoc, show (ns.take j).map Int.toNat ++ [ns[j].toNat] = (ns.take (j + 1)).map Int.toNat by rw [he, List.map_append]; rfl] at q3
    simp -implicitDefEqProofs [s8, inc_i64 hlt (show ns.length ≤ _ by omega), -Int.natCast_add]
    exact ih (ns.length - (j + 1)) _ _ (by omega) ⟨j + 1, t2, rfl, by omega, by simp [s0], by simp [s6], by simp [s7], by simp, q3⟩
  · obtain rfl : j = ns.length := by omega
    rw [List.take_length] at hq
    simp -implicitDefEqProofs [s7, s8]
    exact ⟨t1, hq⟩

theorem templates_ok {h : H} {b : Nat} {t : Tok} {ws : List Nat} (hw : WB h b t ws) (ks : List KeyT) (hk : ∀ k ∈ ks, k.wf) (hl : ws.length + 2 * ks.length ≤ 900000) : WAdd 152 [.ptr b 0, .sl .no (ks.map encKeyT)] h b t (ws ++ ks.flatMap fun k => [signed k.arg, k.base.toNat]) := by
  refine CallP.run hb152 ok152 (by simp) ?_
  have hb := hw.lt
  simp -implicitDefEqProofs []
  refine run_loop (fun m S h1 => ∃ (j : Nat) (t1 : Tok), m = ks.length - j ∧ j ≤ ks.length ∧ S 0 = .ptr b 0 ∧ S 6 = .sl .no (ks.map encKeyT) ∧ S 7 = .int .i64 ks.length ∧ S 8 = .int .i64 j ∧ WTo h b t (ws ++ (ks.take j).flatMap fun k => [signed k.arg, k.base.toNat]) h1 t1) ?_ ks.length ?_
  rotate_left
  · exact ⟨0, t, by simpa using WTo.refl hw⟩
  rintro m S h1 ⟨j, t1, hm, hj, s0, s6, s7, s8, hq⟩ ih
  by_cases hlt : j < ks.length
  · have he := flat_snoc (fun k : KeyT => [signed k.arg, k.base.toNat]) hlt
    have hfl := flat_len (fun k : KeyT => [signed k.arg, k.base.toNat]) 2 (fun _ => rfl) (ks.take j)
    rw [List.length_take] at hfl
    obtain ⟨⟨a1, a2⟩, b1, b2⟩ := hk _ (List.getElem_mem hlt)
    have hbn := hq.keep.bn
    have z : ¬ b = h1.bn := by omega
    simp -implicitDefEqProofs [s0, s6, s7, s8, hlt, encKeyT]
    have k1 := (hq.al [.int .i64 0, .int .i64 0]).so (b' := h1.bn) hbn hb [.int .i64 ks[j].arg, .int .i64 ks[j].base]
    refine callW (wsigned_ok k1.wb ks[j].arg a1 a2 (by rw [List.length_append, hfl]; omega)) (by simp) fun r h2 t2 q2 => ?_
    have k2 := k1.trans q2
    have f2 : h2.bx h1.bn = some [.int .i64 ks[j].arg, .int .i64 ks[j].base] := by rw [q2.keep.bx _ (by simp) (fun e => z e.symm)]; simp
    have n2 : h1.bn < h2.bn := Nat.lt_of_lt_of_le (by simp) q2.keep.bn
    simp -implicitDefEqProofs [s0, f2, n2]
    refine callW (count_ok q2.wb ks[j].base b2 (by rw [List.length_append, List.length_append, hfl]; simp; omega)) (by simp) fun r h3 t3 q3 => ?_
    have k3 := k2.trans q3
    rw [List.append_assoc, List.append_assoc, show [signed ks[j].arg] ++ [ks[j].base.toNat] = [signed ks[j].arg, ks[j].base.toNat] from rfl, ← he] at k3
    simp -implicitDefEqProofs [s8, inc_i64 hlt (show ks.length ≤ _ by omega), -Int.natCast_add]
    exact ih (ks.length - (j + 1)) _ _ (by omega) ⟨j + 1, t3, rfl, by omega, by simp [s0], by simp [s6], by simp [s7], by simp, k3⟩
  · obtain rfl : j = ks.length := by omega
    rw [List.take_length] at hq
    simp -implicitDefEqProofs [s7, s8]
    exact ⟨t1, hq⟩
end Go.Proofs

/- The program's writers of programs and footprints. -/
namespace Go.Proofs
open Go Go.RowKit Go.Am

theorem progW_len (l : List Inst) : (writeAll (l.flatMap instItems)).length = 9 * l.length := by
  rw [writeAll_flat]; exact flat_len _ 9 w_instLen l
theorem footW_len (l : List SpanT) : (writeAll (l.flatMap spanItems)).length = 5 * l.length := by
  rw [writeAll_flat]; exact flat_len _ 5 w_spanLen l
theorem writeAll_cons (x : Item) (l : List Item) : writeAll (x :: l) = writeW x ++ writeAll l := by simp [writeAll]

set_option maxHeartbeats 1000000 in
theorem progPut_ok {h : H} {b : Nat} {t : Tok} {ws : List Nat} (hw : WB h b t ws) (l : List Inst) (h8 : l.length ≤ 8) (hx : ∀ x ∈ l, x.wf) (hl : ws.length ≤ 800000) : WAdd 132 [.ptr b 0, .sl .no (l.map encInst)] h b t (ws ++ writeAll (progItems l)) := by
  refine CallP.run hb132 ok132 (by simp) ?_
  have hb := hw.lt
  simp -implicitDefEqProofs []
  refine callW (count_ok hw (l.length : Int) (by omega) (by omega)) (by simp) fun r h0 t0 q0 => ?_
  rw [Int.toNat_natCast] at q0
  simp -implicitDefEqProofs []
  refine run_loop (fun m S h1 => ∃ (j : Nat) (t1 : Tok), m = l.length - j ∧ j ≤ l.length ∧ S 0 = .ptr b 0 ∧ S 12 = .sl .no (l.map encInst) ∧ S 13 = .int .i64 l.length ∧ S 14 = .int .i64 j ∧ WTo h b t (ws ++ [l.length] ++ writeAll ((l.take j).flatMap instItems)) h1 t1) ?_ l.length ?_
  rotate_left
  · exact ⟨0, t0, rfl, Nat.zero_le _, by simp, by simp, by simp, by simp, by simpa [writeAll] using q0⟩
  rintro m S h1 ⟨j, t1, hm, hj, s0, s12, s13, s14, hq⟩ ih
  by_cases hlt : j < l.length
  · have he := flat_snoc instItems hlt
    have hlen := progW_len (l.take j)
    rw [List.length_take] at hlen
    have hws : (ws ++ [l.length] ++ writeAll ((l.take j).flatMap instItems)).length ≤ 800100 := by rw [List.length_append, List.length_append, hlen]; simp; omega
    obtain ⟨x1, x2, x3, x4, x5, x6, x7⟩ := hx _ (List.getElem_mem hlt)
    generalize hxe : l[j] = x at he x1 x2 x3 x4 x5 x6 x7
    have hbn := hq.keep.bn
    have z : ¬ b = h1.bn := by omega
    have z' : ¬ h1.bn = b := by omega
    simp -implicitDefEqProofs [s0, s12, s13, s14, hlt, hxe, encInst]
    have k1 := (hq.al [.int .i64 0, .int .i64 0, .int .i64 0, .int .i64 0, .int .i64 0, .int .i64 0, .int .i64 0, .int .i64 0, .int .i64 0]).so (b' := h1.bn) hbn hb (encInst x)
    rw [encInst] at k1
    refine callW (counts_ok k1.wb [x.op, x.a, x.b, x.c] (by intro n hn; simp only [List.mem_cons, List.not_mem_nil, or_false] at hn; have y1 := x1.2; have y2 := x2.2; have y3 := x3.2; have y4 := x4.2; rcases hn with rfl | rfl | rfl | rfl <;> assumption) (by simp only [List.length_cons, List.length_nil]; omega)) (by simp [encN]) fun r h2 t2 q2 => ?_
    have k2 := k1.trans q2
    have f2 : h2.bx h1.bn = some (encInst x) := by rw [q2.keep.bx _ (by simp) (fun e => z e.symm)]; simp [encInst]
    rw [encInst] at f2
    have n2 : h1.bn < h2.bn := Nat.lt_of_lt_of_le (by simp) q2.keep.bn
    have hws3 : (ws ++ [l.length] ++ writeAll ((l.take j).flatMap instItems) ++ [x.op, x.a, x.b, x.c].map Int.toNat).length ≤ 800200 := by
      rw [List.length_append]; simp only [List.length_map, List.length_cons, List.length_nil]; omega
    obtain ⟨⟨ka1, ka2⟩, kb1, kb2⟩ := x5
    obtain ⟨⟨la1, la2⟩, lb1, lb2⟩ := x6
    have w01 : IntKind.i64.wrap 1 = 1 := by decide
    have w12 : IntKind.i64.wrap 2 = 2 := by decide
    simp -implicitDefEqProofs [f2, n2]
    refine .loop ?_
    have y1 : ¬ b = h2.bn := by have := q2.wb.lt; omega
    have y2 : ¬ h1.bn = h2.bn := by omega
    have k3 := (k2.al [.int .i64 0, .int .i64 0]).so (b' := h2.bn) (by omega) hb [.int .i64 x.k.arg, .int .i64 x.k.base]
    simp -implicitDefEqProofs [s0]
    refine callW (wsigned_ok k3.wb x.k.arg ka1 ka2 (by omega)) (by simp) fun r h3 t3 q3 => ?_
    have k4 := k3.trans q3
    have f3 : h3.bx h2.bn = some [.int .i64 x.k.arg, .int .i64 x.k.base] := by rw [q3.keep.bx _ (by simp) (fun e => y1 e.symm)]; simp
    have g3 : h3.bx h1.bn = some (encInst x) := by rw [q3.keep.bx _ (by simp; omega) (fun e => z e.symm)]; simp [y2, f2, encInst]
    have n3 : h2.bn < h3.bn := Nat.lt_of_lt_of_le (by simp) q3.keep.bn
    simp -implicitDefEqProofs [s0, f3, n3]
    refine callW (count_ok k4.wb x.k.base kb2 (by simp only [List.length_append, List.length_cons, List.length_nil] at hws3 ⊢; omega)) (by simp) fun r h4 t4 q4 => ?_
    have k5 := k4.trans q4
    have hb3 : b < h3.bn := q3.wb.lt
    have g4 : h4.bx h1.bn = some (encInst x) := by rw [q4.keep.bx _ (by omega) (fun e => z e.symm)]; exact g3
    have n4 : h3.bn ≤ h4.bn := q4.keep.bn
    have v1 : ¬ b = h4.bn := by omega
    have v2 : ¬ h1.bn = h4.bn := by omega
    have k6 := (k5.al [.int .i64 0, .int .i64 0]).so (b' := h4.bn) (by omega) hb [.int .i64 x.l.arg, .int .i64 x.l.base]
    simp -implicitDefEqProofs [w01]
    refine .lp ?_
    simp -implicitDefEqProofs [s0]
    refine callW (wsigned_ok k6.wb x.l.arg la1 la2 (by simp only [List.length_append, List.length_cons, List.length_nil] at hws3 ⊢; omega)) (by simp) fun r h5 t5 q5 => ?_
    have k7 := k6.trans q5
    have f5 : h5.bx h4.bn = some [.int .i64 x.l.arg, .int .i64 x.l.base] := by rw [q5.keep.bx _ (by simp) (fun e => v1 e.symm)]; simp
    have g5 : h5.bx h1.bn = some (encInst x) := by rw [q5.keep.bx _ (by simp; omega) (fun e => z e.symm)]; simp [v2, g4, encInst]
    have n5 : h4.bn < h5.bn := Nat.lt_of_lt_of_le (by simp) q5.keep.bn
    simp -implicitDefEqProofs [s0, f5, n5]
    refine callW (count_ok k7.wb x.l.base lb2 (by simp only [List.length_append, List.length_cons, List.length_nil] at hws3 ⊢; omega)) (by simp) fun r h6 t6 q6 => ?_
    have k8 := k7.trans q6
    have g6 : h6.bx h1.bn = some (encInst x) := by rw [q6.keep.bx _ (by omega) (fun e => z e.symm)]; exact g5
    have n6 : h5.bn ≤ h6.bn := q6.keep.bn
    rw [encInst] at g6
    simp -implicitDefEqProofs [w12]
    refine .lp ?_
    simp -implicitDefEqProofs [s0, g6, show h1.bn < h6.bn by omega]
    refine callW (wsigned_ok k8.wb x.x x7.1 x7.2 (by simp only [List.length_append, List.length_cons, List.length_nil] at hws3 ⊢; omega)) (by simp) fun r h7 t7 q7 => ?_
    have k9 := k8.trans q7
    have hw9 : ws ++ [l.length] ++ writeAll ((l.take j).flatMap instItems) ++ [x.op, x.a, x.b, x.c].map Int.toNat ++ [signed x.k.arg] ++ [x.k.base.toNat] ++ [signed x.l.arg] ++ [x.l.base.toNat] ++ [signed x.x] = ws ++ [l.length] ++ writeAll ((l.take (j + 1)).flatMap instItems) := by
      rw [he, writeAll_app, w_inst]; simp
    rw [hw9] at k9
    simp -implicitDefEqProofs [s14, inc_i64 hlt (show l.length ≤ _ by omega), -Int.natCast_add]
    exact ih (l.length - (j + 1)) _ _ (by omega) ⟨j + 1, t7, rfl, by omega, by simp [s0], by simp [s12], by simp [s13], by simp, k9⟩
  · obtain rfl : j = l.length := by omega
    rw [List.take_length] at hq
    simp -implicitDefEqProofs [s13, s14]
    refine ⟨t1, ?_⟩
    rw [progItems, writeAll_cons, w_iN, Int.toNat_natCast, ← List.append_assoc]
    exact hq
end Go.Proofs

/- Which programs there may be: the program's answer. -/
namespace Go.Proofs
open Go Go.RowKit Go.Am

theorem mayKey_ok (k : KeyT) (args : Int) : PCall Try.prog 156 [.agg (encKeyT k), .int .i64 args] (.bool (mayKey k args)) := by
  refine PCall.run hb156 ok156 (by simp) (pures_cons (pureKey k) (pures1 (.int _ _))) (.bool _) ?_
  simp (maxSteps := 2000000) +contextual -implicitDefEqProofs [↓gdL_T, ↓gdL_F, ↓condQ_b, -Int.not_lt, -Int.not_le, -Nat.not_lt, -Nat.not_le, encKeyT, mayKey]

theorem register_ok (n : Int) : PCall Try.prog 157 [.int .i64 n] (.bool (isReg n)) := by
  refine PCall.run hb157 ok157 (by simp) (pures1 (.int _ _)) (.bool _) ?_
  by_cases h : 0 ≤ n
  · simp -implicitDefEqProofs [isReg, h]
    rw [Bool.eq_iff_iff]; simp; omega
  · simp -implicitDefEqProofs [isReg, h]

def keysI (x : Inst) : List KeyT := if x.op = 1 ∨ x.op = 2 ∨ x.op = 3 then [x.k] else if x.op = 4 then [x.k, x.l] else []
theorem keys_ok (x : Inst) : PCall Try.prog 159 [.agg (encInst x)] (.sl .no ((keysI x).map encKeyT)) := by
  refine PCall.run hb159 ok159 (by simp) (pures1 (pureInst x)) (pure_sl pure_encKeyT _) ?_
  by_cases h1 : x.op = 1
  · simp -implicitDefEqProofs [encInst, h1, keysI, encKeyT]
  by_cases h2 : x.op = 2
  · simp -implicitDefEqProofs [encInst, h2, keysI, encKeyT]
  by_cases h3 : x.op = 3
  · simp -implicitDefEqProofs [encInst, h3, keysI, encKeyT]
  by_cases h4 : x.op = 4
  · simp -implicitDefEqProofs [encInst, h4, keysI, encKeyT]
  simp -implicitDefEqProofs [encInst, h1, h2, h3, h4, keysI]

def zeroK : KeyT := ⟨0, 0⟩
def onlyI (x : Inst) : Inst × Bool :=
  if x.op = 1 ∨ x.op = 2 then (⟨x.op, x.a, 0, 0, x.k, zeroK, 0⟩, true)
  else if x.op = 3 then (⟨x.op, 0, 0, 0, x.k, zeroK, 0⟩, true)
  else if x.op = 4 then (⟨x.op, x.a, 0, 0, x.k, x.l, 0⟩, true)
  else if x.op = 5 ∨ x.op = 8 then (⟨x.op, x.a, 0, 0, zeroK, zeroK, x.x⟩, true)
  else if x.op = 6 ∨ x.op = 7 then (⟨x.op, x.a, x.b, x.c, zeroK, zeroK, 0⟩, true)
  else (⟨x.op, x.a, 0, 0, zeroK, zeroK, 0⟩, false)

theorem only_ok (x : Inst) : PCall Try.prog 154 [.agg (encInst x)] (.tup [.agg (encInst (onlyI x).1), .bool (onlyI x).2]) := by
  refine PCall.run hb154 ok154 (by simp) (pures1 (pureInst x)) (.tup (pures_cons (pureInst _) (pures1 (.bool _)))) ?_
  by_cases h1 : x.op = 1
  · simp -implicitDefEqProofs [encInst, h1, onlyI, H.nil, zeroK]
  by_cases h2 : x.op = 2
  · simp -implicitDefEqProofs [encInst, h2, onlyI, H.nil, zeroK]
  by_cases h3 : x.op = 3
  · simp -implicitDefEqProofs [encInst, h3, H.nil]
    refine run_dreg c154_d8 ?_
    simp -implicitDefEqProofs [onlyI, zeroK, h3]
  by_cases h4 : x.op = 4
  · simp -implicitDefEqProofs [encInst, h4, H.nil]
    refine run_dreg c154_d10 ?_
    simp -implicitDefEqProofs [onlyI, h4]
  by_cases h5 : x.op = 5
  · simp -implicitDefEqProofs [encInst, h5, onlyI, H.nil, zeroK]
  by_cases h8 : x.op = 8
  · simp -implicitDefEqProofs [encInst, h8, onlyI, H.nil, zeroK]
  by_cases h6 : x.op = 6
  · simp -implicitDefEqProofs [encInst, h6, H.nil]
    refine run_dreg c154_d16 ?_
    simp -implicitDefEqProofs [onlyI, zeroK, h6]
  by_cases h7 : x.op = 7
  · simp -implicitDefEqProofs [encInst, h7, H.nil]
    refine run_dreg c154_d16 ?_
    simp -implicitDefEqProofs [onlyI, zeroK, h7]
  simp -implicitDefEqProofs [encInst, h1, h2, h3, h4, h5, h6, h7, h8, onlyI, H.nil, zeroK]
end Go.Proofs
