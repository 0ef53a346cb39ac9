/- What the functions that the statement reaches do: their contracts; and what follows of it. -/
import Derived.Test.YtaepkklbckgbhaaDoorSProgWords7
import Derived.Test.YtaepkklbckgbhaaDoorSProgWords6
import Derived.Test.YtaepkklbckgbhaaDoorK4
/- Which programs, footprints, classes and catalogues there may be: the document's answer. -/
namespace Go.Proofs
open Go Go.RowKit Go.Am

theorem elOK_Inst : ElOK encInst 9 true := ⟨fun _ => rfl, (fun h => by cases h), pure_encInst, wk_encInst⟩
theorem elOK_SpanT : ElOK encSpanT 5 true := ⟨fun _ => rfl, (fun h => by cases h), pure_encSpanT, wk_encSpanT⟩
theorem elOK_Stp : ElOK encStp 2 true := ⟨fun _ => rfl, (fun h => by cases h), pure_encStp, wk_encStp⟩
theorem elOK_Cls : ElOK encCls 5 true := ⟨fun _ => rfl, (fun h => by cases h), pure_encCls, wk_encCls⟩
theorem elOK_Spn : ElOK encSpn 2 true := ⟨fun _ => rfl, (fun h => by cases h), pure_encSpn, wk_encSpn⟩
theorem elOK_Nod : ElOK encNod 6 true := ⟨fun _ => rfl, (fun h => by cases h), pure_encNod, wk_encNod⟩
theorem elOK_Chg : ElOK encChg 3 true := ⟨fun _ => rfl, (fun h => by cases h), pure_encChg, wk_encChg⟩
theorem elOK_KeyT : ElOK encKeyT 2 true := ⟨fun _ => rfl, (fun h => by cases h), pure_encKeyT, wk_encKeyT⟩

def progMay (l : List Inst) (args : Int) : Bool := !decide (args < 0) && !decide (3 < args) && !decide (l.length < 1) && !decide (8 < l.length) && l.all fun x => oneInst x args
def footMay (l : List SpanT) (args : Int) : Bool := !decide (args < 0) && !decide (3 < args) && !decide (4 < l.length) && l.all fun s => mayKey s.lo args && mayKey s.hi args

theorem all_take_false {α : Type} {p : α → Bool} {l : List α} {j : Nat} (hj : j < l.length) (h : p l[j] = false) : l.all p = false := by
  rw [List.all_eq_false]
  exact ⟨l[j], List.getElem_mem hj, by simp [h]⟩
theorem all_whole {α : Type} {p : α → Bool} {l : List α} {j : Nat} (hj : l.length ≤ j) (h : ∀ i (hi : i < l.length), i < j → p l[i] = true) : l.all p = true := by
  rw [List.all_eq_true]
  intro x hx
  obtain ⟨i, hi, rfl⟩ := List.mem_iff_getElem.1 hx
  exact h i hi (by omega)

theorem refProgMay_ok (l : List Inst) (args : Int) (hl : l.length ≤ 9223372036854775807) : PCall Tryd.prog 19 [.sl .no (l.map encInst), .int .i64 args] (.bool (progMay l args)) := by
  refine PCall.run hb19 ok19 (by simp) (pures_cons (elOK_Inst.pureL l) (pures1 (.int _ _))) (.bool _) ?_
  by_cases bad : ((args < 0 ∨ 3 < args) ∨ (l.length : Int) < 1) ∨ (8 : Int) < (l.length : Int)
  · have hf : progMay l args = false := by
      simp only [progMay, Bool.and_eq_false_iff, Bool.not_eq_false', decide_eq_true_eq]
      omega
    simp (maxSteps := 2000000) +contextual -implicitDefEqProofs [↓gdL_F, ↓condQ_b, -Int.not_lt, -Int.not_le, -Nat.not_lt, -Nat.not_le, hf]
    all_goals (intros; omega)
  · have hm : progMay l args = l.all fun x => oneInst x args := by
      simp only [progMay, show ¬ args < 0 by omega, show ¬ 3 < args by omega, show ¬ l.length < 1 by omega, show ¬ 8 < l.length by omega]
      simp
    simp (maxSteps := 2000000) +contextual -implicitDefEqProofs [↓gdL_F, ↓condQ_b, -Int.not_lt, -Int.not_le, -Nat.not_lt, -Nat.not_le, show ¬ args < 0 by omega, show ¬ 3 < args by omega, show ¬ (l.length : Int) < 1 by omega, show ¬ (8 : Int) < (l.length : Int) by omega, hm]
    refine run_loop (fun n s h => ∃ j : Nat, n = l.length - j ∧ j ≤ l.length ∧ s 0 = .sl .no (l.map encInst) ∧ s 1 = .int .i64 args ∧ s 5 = .int .i64 j ∧ ∀ i (hi : i < l.length), i < j → oneInst l[i] args = true) ?_ l.length ?_
    · rintro n s h ⟨j, hn, hj, h0, h1, h5, hall⟩ ih
      by_cases hlt : j < l.length
      · simp -implicitDefEqProofs [h0, h1, h5, hlt, elOK_Inst.un, -unCells]
        refine callQ_p (refOne_ok l[j] args) (by simp [elV]) ?_
        cases hp : oneInst l[j] args
        · simp -implicitDefEqProofs [all_take_false (p := fun x => oneInst x args) hlt hp]
        · simp -implicitDefEqProofs [h5, inc_i64 hlt hl, -Int.natCast_add]
          exact ih (l.length - (j + 1)) _ _ (by omega) ⟨j + 1, rfl, by omega, by simp [h0], by simp [h1], by simp, fun i hi hij => by
            by_cases h : i = j
            · subst h; exact hp
            · exact hall i hi (by omega)⟩
      · simp -implicitDefEqProofs [h0, h5, hlt, all_whole (p := fun x => oneInst x args) (by omega) hall]
    · exact ⟨0, by simp⟩

end Go.Proofs

/- Which classes and catalogues there may be: the document's answer. -/
namespace Go.Proofs
open Go Go.RowKit Go.Am

def backMay (c : Stp) (args : Int) : Bool := (!decide (0 < c.code.length) || progMay c.code args) && c.code.all fun x => decide (x.op < 6)
def stepMay (args : Int) (p : Stp × Stp) : Bool := progMay p.1.code args && footMay p.1.foot args && footMay p.2.foot args && backMay p.2 args
def clsMay (x : Cls) : Bool :=
  !decide (x.name.size < 1) && !decide (16 < x.name.size) && !decide (x.args < 0) && !decide (3 < x.args) && !decide (x.steps.length < 1) && !decide (4 < x.steps.length) && decide (x.comps.length = x.steps.length) &&
    (x.steps.zip x.comps).all (stepMay x.args)

end Go.Proofs

/- Which catalogues there may be: the document's answer. -/
namespace Go.Proofs
open Go Go.RowKit Go.Am

def Ctlg.nameAt (x : Ctlg) (i : Nat) : ByteArray := (x.classes[i]?.map (·.name)).getD ByteArray.empty
def Ctlg.stepsN (x : Ctlg) (i : Nat) : Nat := (x.classes[i]?.map (·.steps.length)).getD 0
def Ctlg.brk (x : Ctlg) (c d : Nat) : Int := (x.breaks[4 * c + d]?).getD 0
def Ctlg.mostB (x : Ctlg) (c d : Nat) : Int := if c < x.classes.length ∧ d < x.classes.length then 2 ^ (x.stepsN c - 1) else 1
def Ctlg.brkOK (x : Ctlg) (c d : Nat) : Bool := !decide (x.brk c d < 0) && !decide (x.mostB c d ≤ x.brk c d)
def Ctlg.namesOK (x : Ctlg) (i : Nat) : Bool := (List.range i).all fun j => !decide (x.nameAt j = x.nameAt i)
def Ctlg.clsOK (x : Ctlg) (i : Nat) : Bool := (x.classes[i]?.map clsMay).getD false
def catMay (x : Ctlg) : Bool :=
  !decide (x.classes.length < 1) && !decide (4 < x.classes.length) && ((List.range x.classes.length).all fun i => x.clsOK i && x.namesOK i) && (List.range 4).all fun c => (List.range 4).all (x.brkOK c)

theorem allR_false {p : Nat → Bool} {n j : Nat} (hj : j < n) (h : p j = false) : (List.range n).all p = false := by
  rw [List.all_eq_false]
  exact ⟨j, List.mem_range.2 hj, by simp [h]⟩
theorem allR_true {p : Nat → Bool} {n j : Nat} (hj : n ≤ j) (h : ∀ i, i < j → p i = true) : (List.range n).all p = true := by
  rw [List.all_eq_true]
  intro x hx
  exact h x (by have := List.mem_range.1 hx; omega)
@[simp] theorem take_encCls (y : Cls) : List.take 5 (encCls y) = encCls y := rfl
theorem Ctlg.brk_of {x : Ctlg} {c d : Nat} (hb : x.breaks.length = 16) (hc : c < 4) (hd : d < 4) : x.brk c d = x.breaks[4 * c + d] := by simp [brk, show 4 * c + d < x.breaks.length by omega]
theorem Ctlg.brk_load {x : Ctlg} (v : AV) {c d : Nat} (hb : x.breaks.length = 16) (hc : c < 4) (hd : d < 4) : List.take 1 (List.drop (1 + c * 4 + d) (v :: x.breaks.map (AV.int .i64))) = [.int .i64 (x.brk c d)] := by
  rw [show 1 + c * 4 + d = (4 * c + d) + 1 by omega, List.drop_succ_cons, brk_of hb hc hd, List.drop_eq_getElem_cons (by simp; omega)]
  simp
theorem Ctlg.nameAt_of {x : Ctlg} {i : Nat} (h : i < x.classes.length) : x.nameAt i = x.classes[i].name := by simp [nameAt, h]
theorem Ctlg.stepsN_of {x : Ctlg} {i : Nat} (h : i < x.classes.length) : x.stepsN i = x.classes[i].steps.length := by simp [stepsN, h]
theorem Ctlg.clsOK_of {x : Ctlg} {i : Nat} (h : i < x.classes.length) : x.clsOK i = clsMay x.classes[i] := by simp [clsOK, h]

end Go.Proofs

/- What is read as a template, an instruction, a span, a program, a footprint, a class: plain laws; contracts of readers. -/
namespace Go.Proofs
open Go Go.RowKit Go.Am

def Rd.none {α : Type} : Rd α := fun _ => Option.none
def Rd.rep {α : Type} (p : Rd α) : Nat → Rd (List α)
  | 0 => Rd.pure []
  | k + 1 => (Rd.rep p k).bind fun L => p.bind fun a => Rd.pure (L ++ [a])
def rdKey : Rd KeyT := rdSigned.bind fun a => if a < -1 ∨ 255 < a then Rd.none else (rdCount 999).bind fun n => Rd.pure ⟨a, n⟩
def rdInst : Rd Inst := (rdCount 255).bind fun op => (rdCount 255).bind fun a => (rdCount 255).bind fun b => (rdCount 255).bind fun c => rdKey.bind fun k => rdKey.bind fun l => rdSigned.bind fun x => Rd.pure ⟨op, a, b, c, k, l, x⟩
def rdSpanT : Rd SpanT := rdKey.bind fun lo => rdKey.bind fun hi => rdFlag.bind fun w => Rd.pure ⟨lo, hi, w⟩
def rdProg : Rd (List Inst) := (rdCount 8).bind fun n => Rd.rep rdInst n.toNat
def rdFoot : Rd (List SpanT) := (rdCount 4).bind fun n => Rd.rep rdSpanT n.toNat
def rdStp : Rd Stp := rdProg.bind fun c => rdFoot.bind fun f => Rd.pure ⟨c, f⟩
def rdPair : Rd (Stp × Stp) := rdStp.bind fun s => rdStp.bind fun u => Rd.pure (s, u)
def rdCls : Rd Cls := rdText.bind fun name => (rdCount 3).bind fun args => (rdCount 4).bind fun n => (Rd.rep rdPair n.toNat).bind fun l => rdFlag.bind fun r => Rd.pure ⟨name, args, l.map (·.1), l.map (·.2), r⟩

theorem Got.fail {α : Type} (s : RS) (a : α) : Got (Rd.none) s a none := by cases s <;> simp [Got, Rd.none]
theorem Got.bad {α : Type} {p : Rd α} {s' : RS} {a : α} (h : Got p none a s') : s' = none := h
/-- Where it isn't right, the value doesn't count. -/
theorem Got.any {α : Type} {p : Rd α} {s : RS} {a : α} (h : Got p s a none) (b : α) : Got p s b none := by
  unfold Got at h ⊢
  cases hp : s.bind p with
  | none => rfl
  | some x => rw [hp] at h; obtain ⟨_, h2⟩ := h; cases h2
theorem Got.eq {α : Type} {p : Rd α} {s : RS} {a : α} {l' : List Nat} (h : Got p s a (some l')) (d : α) : Proofs.runS p d s = (a, some l') := by
  unfold Got at h
  unfold Proofs.runS
  cases hp : s.bind p with
  | none => rw [hp] at h; cases h
  | some x => rw [hp] at h; obtain ⟨rfl, h2⟩ := h; cases h2; rfl
theorem Got.none_eq {α : Type} {p : Rd α} {s : RS} {a : α} (h : Got p s a none) (d : α) : Proofs.runS p d s = (d, none) := by
  unfold Got at h
  unfold Proofs.runS
  cases hp : s.bind p with
  | none => rfl
  | some x => rw [hp] at h; obtain ⟨_, h2⟩ := h; cases h2

theorem RdOK.none {α : Type} : RdOK (Rd.none (α := α)) := fun l a l' h => by cases h
theorem RdOK.rep {α : Type} {p : Rd α} (hp : RdOK p) : ∀ k, RdOK (Rd.rep p k)
  | 0 => RdOK.pure _
  | k + 1 => (RdOK.rep hp k).bind fun _ => hp.bind fun _ => RdOK.pure _
theorem rdKey_ok : RdOK rdKey := (rdSigned_ok).bind fun a => by
  split
  · exact RdOK.none
  · exact (rdCount_ok _).bind fun _ => RdOK.pure _
theorem rdInst_ok : RdOK rdInst := (rdCount_ok _).bind fun _ => (rdCount_ok _).bind fun _ => (rdCount_ok _).bind fun _ => (rdCount_ok _).bind fun _ => rdKey_ok.bind fun _ => rdKey_ok.bind fun _ => rdSigned_ok.bind fun _ => RdOK.pure _
theorem rdSpanT_ok : RdOK rdSpanT := rdKey_ok.bind fun _ => rdKey_ok.bind fun _ => rdFlag_ok.bind fun _ => RdOK.pure _
theorem rdProg_ok : RdOK rdProg := (rdCount_ok _).bind fun _ => rdInst_ok.rep _
theorem rdFoot_ok : RdOK rdFoot := (rdCount_ok _).bind fun _ => rdSpanT_ok.rep _
theorem rdStp_ok : RdOK rdStp := rdProg_ok.bind fun _ => rdFoot_ok.bind fun _ => RdOK.pure _
theorem rdPair_ok : RdOK rdPair := rdStp_ok.bind fun _ => rdStp_ok.bind fun _ => RdOK.pure _
theorem rdCls_ok : RdOK rdCls := rdText_ok.bind fun _ => (rdCount_ok _).bind fun _ => (rdCount_ok _).bind fun _ => (rdPair_ok.rep _).bind fun _ => rdFlag_ok.bind fun _ => RdOK.pure _

theorem CutOK.upd {P : Program} {h h1 : H} {b : Nat} {cs cs1 : List AV} {r1 r : AV} (hb : b < h.bn) (e : wk r1 = r) (hf : HF h h1 (· = b) (fun _ => False)) (hb1 : h1.bx b = some cs1) (hcs1 : WkL cs1 cs) (hr : PureV r) (hcs : ∀ v ∈ cs, PureV v) : CutOK h h1 (h.set b cs) id r1 r := by
  refine ⟨Nat.le_refl _, fun _ _ => rfl, fun b hb => Nat.lt_of_lt_of_le hb hf.bn, fun _ _ _ _ h => h, fun b' cs' hb' hcs' => ?_, ⟨Nat.le_refl _, hf.tn⟩, fun i hi => (hf.tk i hi fun h => h).symm, ⟨rfl, hf.ln⟩,
    fun l q hl hq => ⟨(hf.lp l hl).trans hq, q, hq, rfl⟩, ⟨rfl, hf.mn⟩, fun m es hm hes => ⟨(hf.mp m hm).trans hes, hes⟩, Low.weak' ?_⟩
  · by_cases hbb : b' = b
    · subst hbb
      have : cs = cs' := by simpa [H.set] using hcs'
      subst this
      exact .inr ⟨cs1, hb1, hcs1, fun v hv => (hcs v hv).low _ _ _ _ _⟩
    · have : h.bx b' = some cs' := by simpa [H.set, hbb] using hcs'
      exact .inl ⟨hb', (hf.bx b' hb' hbb).trans this, this⟩
  · rw [e]
    exact hr.low _ _ _ _ _

/-- A piece of reading, whatever it hands back where it isn't right. -/
def RdQ {α : Type} (f : FuncId) (args : List AV) (h : H) (b : Nat) (s : RS) (p : Rd α) (enc : α → AV) : Prop :=
  CallP Tryd.prog f args h fun r h1 => ∃ a s', r = enc a ∧ h1 = h.set b (encRS s') ∧ RTo h b h1 s' ∧ Got p s a s'
theorem RdQ.mk' {α : Type} {f : FuncId} {args : List AV} {h : H} {b : Nat} {s : RS} {p : Rd α} {enc : α → AV} (hr : RIs h b s) (hv : ∀ a, PureV (enc a))
    (hc : CallP Tryd.prog f args h fun r h1 => ∃ a s', wk r = enc a ∧ RFin h b h1 s' ∧ Bd s' ∧ Got p s a s') : RdQ f args h b s p enc :=
  hc.cut fun r h1 ⟨a, s', e, ⟨hf, cs1, hb1, hcs1⟩, hbd, hg⟩ => ⟨h.set b (encRS s'), id, enc a, CutOK.upd (P := Tryd.prog) hr.blt e hf hb1 hcs1 (hv a) (pure_encRS _), a, s', rfl, rfl, RTo.set hr hbd, hg⟩
theorem RdS.q {α : Type} {f : FuncId} {args : List AV} {h : H} {b : Nat} {s : RS} {p : Rd α} {d : α} {enc : α → AV} (hc : RdS f args h b s p d enc) : RdQ f args h b s p enc :=
  hc.call.callP ⟨_, _, rfl, rfl, hc.to, Got.runS p d s⟩
theorem callQ_r {α : Type} {f : FuncId} {first caps args as' : List AV} {h : H} {b : Nat} {s : RS} {p : Rd α} {enc : α → AV} {K : AV → H → Prop} (hc : RdQ f as' h b s p enc) (ha : (first ++ args ++ caps).map wk = as')
    (hk : ∀ a s', RTo h b (h.set b (encRS s')) s' → Got p s a s' → K (enc a) (h.set b (encRS s'))) : callQ Tryd.prog (.fn f first caps) args h K :=
  callQ_c hc ha fun r h1 ⟨a, s', e1, e2, q1, q2⟩ => by subst e1; subst e2; exact hk a s' q1 q2
/-- What is read whole, or nothing. -/
theorem RdS.of {α : Type} {f : FuncId} {args : List AV} {h : H} {b : Nat} {s : RS} {p : Rd α} {d : α} {enc : α → AV} (hr : RIs h b s) (hp : RdOK p) (hv : ∀ a, PureV (enc a))
    (hc : CallP Tryd.prog f args h fun r h1 => ∃ a s', wk r = enc a ∧ RFin h b h1 s' ∧ Got p s a s' ∧ (s' = none → a = d)) : RdS f args h b s p d enc :=
  RdS.mk' hr hp hv (hc.mono fun r h1 ⟨a, s', q1, q2, q3, q4⟩ => by
    cases s' with
    | none =>
      rw [Got.none_eq q3 d, ← q4 rfl]
      exact ⟨q1, q2⟩
    | some l =>
      rw [Got.eq q3 d]
      exact ⟨q1, q2⟩)

/-- A slice that was made since. -/
def TNew (h : H) (t : Tok) : Prop := ∀ i, i < h.tn → ¬ TOwn t i
theorem TNew.full (h : H) : TNew h .full := fun i _ h => by cases h
theorem TNew.next {h h1 : H} {t t' : Tok} {B T : Nat → Prop} (a : TNew h t) (e : HF h h1 B T) (n : TNext h1 t t') : TNew h t' := fun i hi ho => by
  rcases n with rfl | ⟨j, rfl, hj⟩
  · exact a i hi ho
  · cases ho
    have := e.tn
    omega
theorem RTo.app {h h1 h2 : H} {b : Nat} {s : RS} {t : Tok} (a : RTo h b h1 s) (ht : TNew h t) (e : HF h1 h2 (fun _ => False) (TOwn t)) : RTo h b h2 s :=
  ⟨a.keep.trans' e (fun _ _ h => h.elim) (fun i hi h => ht i hi h), a.is.keep e fun h => h⟩
theorem RTo.al {h h1 : H} {b : Nat} {s : RS} (a : RTo h b h1 s) (cs : List AV) : RTo h b (h1.alloc cs) s := ⟨a.keep.trans (HF.alloc _ _ _ _), a.is.alloc _⟩
theorem RTo.so {h h1 : H} {b b' : Nat} {s : RS} (a : RTo h b h1 s) (hn : h.bn ≤ b') (hb : b < h.bn) (cs : List AV) : RTo h b (h1.set b' cs) s :=
  ⟨a.keep.trans' (HF.set (B := (· = b')) _ rfl) (fun x hx e => by have e : x = b' := e; omega) (fun _ _ h => h), a.is.setO (by omega)⟩
theorem RFin.so {h h1 : H} {b b' : Nat} {s : RS} (a : RFin h b h1 s) (hn : h.bn ≤ b') (hb : b < h.bn) (cs : List AV) : RFin h b (h1.set b' cs) s := by
  obtain ⟨q1, cs1, q2, q3⟩ := a
  exact ⟨q1.trans' (HF.set (B := (· = b')) _ rfl) (fun x hx e => by have e : x = b' := e; omega) (fun _ _ h => h), cs1, by simp [show ¬ b = b' by omega, q2], q3⟩
end Go.Proofs

/- The program's readers of programs and footprints. -/
namespace Go.Proofs
open Go Go.RowKit Go.Am

theorem pure_encKeyT' (k : KeyT) : PureV (.agg (encKeyT k)) := .agg (pures_cons (.int _ _) (pures1 (.int _ _)))

theorem getKey_rd {h : H} {b : Nat} {s : RS} (hr : RIs h b s) : RdQ 28 [.ptr b 0] h b s rdKey (fun k => .agg (encKeyT k)) := by
  refine RdQ.mk' hr pure_encKeyT' (CallP.run hb28 ok28 (by simp) ?_)
  have hb := hr.blt
  have z : ¬ b = h.bn := by omega
  have z' : ¬ h.bn = b := by omega
  simp -implicitDefEqProofs []
  refine callQ_r (signed_rd (hr.alloc _)).q (by simp) fun a s1 q1 g1 => ?_
  by_cases h1 : a < -1
  · simp -implicitDefEqProofs [h1]
    refine callQ_r (count_rd (most := -1) q1.is (by simp [inI])).q (by simp) fun n s2 q2 g2 => ?_
    have hs2 : s2 = none := by
      have := g2
      unfold Got at this
      cases s1 with
      | none => exact this
      | some l => cases l <;> simpa [rdCount] using this
    subst hs2
    simp -implicitDefEqProofs [z']
    refine ⟨⟨0, 0⟩, rfl, none, ((((RTo.refl hr).al _).trans (q1.trans q2)).so (Nat.le_refl _) hb _).fin, (fun l h => by cases h), ?_⟩
    exact g1.bind (by rw [if_pos (.inl h1)]; exact Got.fail _ _)
  by_cases h2 : 255 < a
  · simp -implicitDefEqProofs [h1, h2]
    refine callQ_r (count_rd (most := -1) q1.is (by simp [inI])).q (by simp) fun n s2 q2 g2 => ?_
    have hs2 : s2 = none := by
      have := g2
      unfold Got at this
      cases s1 with
      | none => exact this
      | some l => cases l <;> simpa [rdCount] using this
    subst hs2
    simp -implicitDefEqProofs [z']
    refine ⟨⟨0, 0⟩, rfl, none, ((((RTo.refl hr).al _).trans (q1.trans q2)).so (Nat.le_refl _) hb _).fin, (fun l h => by cases h), ?_⟩
    exact g1.bind (by rw [if_pos (.inr h2)]; exact Got.fail _ _)
  simp -implicitDefEqProofs [h1, h2]
  refine callQ_r (count_rd (most := 999) q1.is (by simp [inI])).q (by simp) fun n s2 q2 g2 => ?_
  simp -implicitDefEqProofs [z']
  refine ⟨⟨a, n⟩, rfl, s2, ((((RTo.refl hr).al _).trans (q1.trans q2)).so (Nat.le_refl _) hb _).fin, q2.is.bd, ?_⟩
  exact g1.bind (by rw [if_neg (by omega)]; exact g2.bind (Got.pure _ _))

end Go.Proofs

/- The program's readers of programs and footprints, whole. -/
namespace Go.Proofs
open Go Go.RowKit Go.Am

/-- What a loop of reading has done. -/
structure RLoop {α : Type} (h : H) (b : Nat) (s1 : RS) (p : Rd α) (j : Nat) (h1 : H) (sj : RS) (L : List α) (t : Tok) : Prop where
  to : RTo h b h1 sj
  got : Got (Rd.rep p j) s1 L sj
  len : L.length = j
  live : TLive h1 t j
  new : TNew h t
theorem RLoop.start {α : Type} {h h1 : H} {b : Nat} {s1 : RS} {p : Rd α} (a : RTo h b h1 s1) : RLoop h b s1 p 0 h1 s1 [] .full := ⟨a, Got.pure _ _, rfl, trivial, TNew.full _⟩
theorem RLoop.next {α : Type} {h h1 h2 h3 : H} {b : Nat} {s1 sj s' : RS} {p : Rd α} {j : Nat} {L : List α} {t t' : Tok} {a : α} (r : RLoop h b s1 p j h1 sj L t) (g : Got p sj a s') (to : RTo h b h2 s')
    (hl : TLive h3 t' (j + 1)) (hn : TNext h2 t t') (hf : HF h2 h3 (fun _ => False) (TOwn t)) : RLoop h b s1 p (j + 1) h3 s' (L ++ [a]) t' :=
  ⟨to.app r.new hf, r.got.bind (g.bind (Got.pure _ _)), by rw [List.length_append, r.len]; rfl, hl, r.new.next to.keep hn⟩

set_option maxHeartbeats 1000000 in
theorem progGet_rd {h : H} {b : Nat} {s : RS} (hr : RIs h b s) : RdS 9 [.ptr b 0] h b s rdProg [] (fun l => .sl .no (l.map encInst)) := by
  refine RdS.of hr rdProg_ok (fun l => elOK_Inst.pureL l) (CallP.run hb9 ok9 (by simp) ?_)
  have hb := hr.blt
  simp -implicitDefEqProofs []
  have hn := count_rd hr (most := 8) (by simp [inI])
  refine callQ_s hn.call (by simp) ?_
  have q := hn.to
  have g := Got.runS (rdCount 8) 0 s
  have hin := rdCount_in (most := 8) (by simp [inI]) s
  clear hn
  generalize runS (rdCount 8) 0 s = x at q g hin ⊢
  obtain ⟨n, s1⟩ := x
  simp only at q g hin
  obtain ⟨N, rfl⟩ := Int.eq_ofNat_of_zero_le hin.1
  have hN : N ≤ 8 := by omega
  simp -implicitDefEqProofs []
  refine run_loop (fun m S h1 => ∃ (j : Nat) (sj : RS) (L : List Inst) (t : Tok), m = N - j ∧ j ≤ N ∧ S 0 = .ptr b 0 ∧ S 3 = .sl t (L.map encInst) ∧ S 7 = .int .i64 N ∧ S 8 = .int .i64 j ∧ RLoop h b s1 rdInst j h1 sj L t) ?_ N ?_
  rotate_left
  · exact ⟨0, s1, [], .full, rfl, Nat.zero_le _, by simp, by simp, by simp, by simp, RLoop.start q⟩
  rintro m S h1 ⟨j, sj, L, t, hm, hj, t0, t3, t7, t8, hL⟩ ih
  have hbn : h.bn ≤ h1.bn := hL.to.keep.bn
  have z0 : ¬ b = h1.bn := by omega
  have z1 : ¬ h1.bn = b := by omega
  by_cases hlt : j < N
  · simp -implicitDefEqProofs [t0, t7, t8, hlt]
    refine callQ_r (count_rd (most := 255) hL.to.is (by simp [inI])).q (by simp) fun v1 u1 q1 g1 => ?_
    simp -implicitDefEqProofs []
    refine callQ_r (count_rd (most := 255) q1.is (by simp [inI])).q (by simp) fun v2 u2 q2 g2 => ?_
    simp -implicitDefEqProofs []
    refine callQ_r (count_rd (most := 255) q2.is (by simp [inI])).q (by simp) fun v3 u3 q3 g3 => ?_
    simp -implicitDefEqProofs []
    refine callQ_r (count_rd (most := 255) q3.is (by simp [inI])).q (by simp) fun v4 u4 q4 g4 => ?_
    simp -implicitDefEqProofs [t0]
    have hb1 : b < h1.bn := by omega
    have k4 := q1.trans (q2.trans (q3.trans q4))
    refine callQ_r (getKey_rd (RTo.is (RTo.so (RTo.al k4 _) (b' := h1.bn) (Nat.le_refl _) hb1 _))) (by simp) fun v5 u5 q5 g5 => ?_
    have k5 := (RTo.so (RTo.al k4 _) (b' := h1.bn) (Nat.le_refl _) hb1 _).trans q5
    simp -implicitDefEqProofs [t0]
    refine callQ_r (getKey_rd k5.is) (by simp) fun v6 u6 q6 g6 => ?_
    have k6 := k5.trans q6
    simp -implicitDefEqProofs [t0, z1, encKeyT]
    refine callQ_r (signed_rd (RTo.is (RTo.so (RTo.so k6 (b' := h1.bn) (Nat.le_refl _) hb1 _) (b' := h1.bn) (Nat.le_refl _) hb1 _))).q (by simp) fun v7 u7 q7 g7 => ?_
    have k7 := (RTo.so (RTo.so k6 (b' := h1.bn) (Nat.le_refl _) hb1 _) (b' := h1.bn) (Nat.le_refl _) hb1 _).trans q7
    simp -implicitDefEqProofs [t3, z1]
    have k8 := RTo.so k7 (b' := h1.bn) (Nat.le_refl _) hb1 [.int .i64 v1, .int .i64 v2, .int .i64 v3, .int .i64 v4, .int .i64 v5.arg, .int .i64 v5.base, .int .i64 v6.arg, .int .i64 v6.base, .int .i64 v7]
    refine appQ_tok (t := t) (es := L.map encInst) (es2 := [encInst ⟨v1, v2, v3, v4, v5, v6, v7⟩]) (by simpa [hL.len] using hL.live) (by simp [encInst]) (by simp [srcA, encInst]) (by simp [hL.len]; omega) fun t' h3 p1 p2 p3 p4 => ?_
    have hg : Got rdInst sj ⟨v1, v2, v3, v4, v5, v6, v7⟩ u7 := g1.bind (g2.bind (g3.bind (g4.bind (g5.bind (g6.bind (g7.bind (Got.pure _ _)))))))
    have hl2 := hL.next hg (h2 := _) (h3 := h3) (t' := t') (hL.to.trans k8) (by simpa [hL.len] using p1) p2 p3
    simp -implicitDefEqProofs [t8, inc_i64 hlt (show N ≤ _ by omega), -Int.natCast_add]
    exact ih (N - (j + 1)) _ _ (by omega) ⟨j + 1, u7, _, t', rfl, by omega, by simp [t0], by simp, by simp [t7], by simp, hl2⟩
  · obtain rfl : j = N := by omega
    simp -implicitDefEqProofs [t0, t7, t8]
    refine callQ_s (rOk_ok hL.to.is) (by simp) ?_
    have hgp : Got rdProg s L sj := g.bind (by rw [Int.toNat_natCast]; exact hL.got)
    cases sj with
    | none =>
      simp -implicitDefEqProofs []
      exact ⟨none, hL.to.fin, Got.any hgp _⟩
    | some l =>
      simp -implicitDefEqProofs [t3]
      exact ⟨L, rfl, some l, hL.to.fin, hgp, (fun h => by cases h)⟩
end Go.Proofs

/- The program's reader of footprints and steps. -/
namespace Go.Proofs
open Go Go.RowKit Go.Am

/-- A step that is read: definite, also where it isn't right. -/
def stpV (s : RS) : Stp := ⟨(runS rdProg [] s).1, (runS rdFoot [] (runS rdProg [] s).2).1⟩
def stpS (s : RS) : RS := (runS rdFoot [] (runS rdProg [] s).2).2
theorem stp_got (s : RS) : Got rdStp s (stpV s) (stpS s) := (Got.runS rdProg [] s).bind ((Got.runS rdFoot [] _).bind (Got.pure _ _))
end Go.Proofs

/- Which programs there may be: the program's answer. -/
namespace Go.Proofs
open Go Go.RowKit Go.Am

theorem mayKey_ok (k : KeyT) (args : Int) : PCall Tryd.prog 37 [.agg (encKeyT k), .int .i64 args] (.bool (mayKey k args)) := by
  refine PCall.run hb37 ok37 (by simp) (pures_cons (pureKey k) (pures1 (.int _ _))) (.bool _) ?_
  simp (maxSteps := 2000000) +contextual -implicitDefEqProofs [↓gdL_T, ↓gdL_F, ↓condQ_b, -Int.not_lt, -Int.not_le, -Nat.not_lt, -Nat.not_le, encKeyT, mayKey]

theorem register_ok (n : Int) : PCall Tryd.prog 58 [.int .i64 n] (.bool (isReg n)) := by
  refine PCall.run hb58 ok58 (by simp) (pures1 (.int _ _)) (.bool _) ?_
  by_cases h : 0 ≤ n
  · simp -implicitDefEqProofs [isReg, h]
    rw [Bool.eq_iff_iff]; simp; omega
  · simp -implicitDefEqProofs [isReg, h]

def keysI (x : Inst) : List KeyT := if x.op = 1 ∨ x.op = 2 ∨ x.op = 3 then [x.k] else if x.op = 4 then [x.k, x.l] else []
theorem keys_ok (x : Inst) : PCall Tryd.prog 60 [.agg (encInst x)] (.sl .no ((keysI x).map encKeyT)) := by
  refine PCall.run hb60 ok60 (by simp) (pures1 (pureInst x)) (pure_sl pure_encKeyT _) ?_
  by_cases h1 : x.op = 1
  · simp -implicitDefEqProofs [encInst, h1, keysI, encKeyT]
  by_cases h2 : x.op = 2
  · simp -implicitDefEqProofs [encInst, h2, keysI, encKeyT]
  by_cases h3 : x.op = 3
  · simp -implicitDefEqProofs [encInst, h3, keysI, encKeyT]
  by_cases h4 : x.op = 4
  · simp -implicitDefEqProofs [encInst, h4, keysI, encKeyT]
  simp -implicitDefEqProofs [encInst, h1, h2, h3, h4, keysI]

def zeroK : KeyT := ⟨0, 0⟩
def onlyI (x : Inst) : Inst × Bool :=
  if x.op = 1 ∨ x.op = 2 then (⟨x.op, x.a, 0, 0, x.k, zeroK, 0⟩, true)
  else if x.op = 3 then (⟨x.op, 0, 0, 0, x.k, zeroK, 0⟩, true)
  else if x.op = 4 then (⟨x.op, x.a, 0, 0, x.k, x.l, 0⟩, true)
  else if x.op = 5 ∨ x.op = 8 then (⟨x.op, x.a, 0, 0, zeroK, zeroK, x.x⟩, true)
  else if x.op = 6 ∨ x.op = 7 then (⟨x.op, x.a, x.b, x.c, zeroK, zeroK, 0⟩, true)
  else (⟨x.op, x.a, 0, 0, zeroK, zeroK, 0⟩, false)

theorem only_ok (x : Inst) : PCall Tryd.prog 56 [.agg (encInst x)] (.tup [.agg (encInst (onlyI x).1), .bool (onlyI x).2]) := by
  refine PCall.run hb56 ok56 (by simp) (pures1 (pureInst x)) (.tup (pures_cons (pureInst _) (pures1 (.bool _)))) ?_
  by_cases h1 : x.op = 1
  · simp -implicitDefEqProofs [encInst, h1, onlyI, H.nil, zeroK]
  by_cases h2 : x.op = 2
  · simp -implicitDefEqProofs [encInst, h2, onlyI, H.nil, zeroK]
  by_cases h3 : x.op = 3
  · simp -implicitDefEqProofs [encInst, h3, H.nil]
    refine run_dreg c56_d8 ?_
    simp -implicitDefEqProofs [onlyI, zeroK, h3]
  by_cases h4 : x.op = 4
  · simp -implicitDefEqProofs [encInst, h4, H.nil]
    refine run_dreg c56_d10 ?_
    simp -implicitDefEqProofs [onlyI, h4]
  by_cases h5 : x.op = 5
  · simp -implicitDefEqProofs [encInst, h5, onlyI, H.nil, zeroK]
  by_cases h8 : x.op = 8
  · simp -implicitDefEqProofs [encInst, h8, onlyI, H.nil, zeroK]
  by_cases h6 : x.op = 6
  · simp -implicitDefEqProofs [encInst, h6, H.nil]
    refine run_dreg c56_d16 ?_
    simp -implicitDefEqProofs [onlyI, zeroK, h6]
  by_cases h7 : x.op = 7
  · simp -implicitDefEqProofs [encInst, h7, H.nil]
    refine run_dreg c56_d16 ?_
    simp -implicitDefEqProofs [onlyI, zeroK, h7]
  simp -implicitDefEqProofs [encInst, h1, h2, h3, h4, h5, h6, h7, h8, onlyI, H.nil, zeroK]
end Go.Proofs

/- Which programs there may be: the program's answer, joined. -/
namespace Go.Proofs
open Go Go.RowKit Go.Am

def mayI (x : Inst) (args : Int) : Bool := (onlyI x).2 && decide (x = (onlyI x).1) && isReg x.a && isReg x.b && isReg x.c && !(keysI x).any fun k => !mayKey k args

theorem may1_ok (k : KeyT) (args : Int) {h : H} {b : Nat} (hb : b < h.bn) (hbx : h.bx b = some [.int .i64 args]) : SCall Tryd.prog 57 [.agg (encKeyT k), .ptr b 0] h (.bool (!mayKey k args)) h := by
  refine SCall.ro (CallP.run hb57 ok57 (by simp) ?_) (.bool _)
  simp -implicitDefEqProofs [hbx, encKeyT, show ¬ b = h.bn by omega, show b < h.bn + 1 by omega]
  refine callQ_p (mayKey_ok k args) (by simp [encKeyT]) ?_
  simp -implicitDefEqProofs []
  exact HF.alloc _ _ _ _

theorem eqInst_f {x y : Inst} (h : x ≠ y) : (decide (x.op = y.op) && (decide (x.a = y.a) && (decide (x.b = y.b) && (decide (x.c = y.c) && (decide (x.k.arg = y.k.arg) && (decide (x.k.base = y.k.base) && (decide (x.l.arg = y.l.arg) && (decide (x.l.base = y.l.base) && decide (x.x = y.x))))))))) = false := by
  rw [Bool.eq_false_iff]
  intro hc
  apply h
  simp only [Bool.and_eq_true, decide_eq_true_eq] at hc
  rcases x with ⟨a, b, c, d, ⟨e, f⟩, ⟨g, i⟩, j⟩
  rcases y with ⟨a', b', c', d', ⟨e', f'⟩, ⟨g', i'⟩, j'⟩
  simp_all

theorem may_ok (x : Inst) (args : Int) : PCall Tryd.prog 34 [.agg (encInst x), .int .i64 args] (.bool (mayI x args)) := by
  refine PCall.run hb34 ok34 (by simp) (pures_cons (pureInst x) (pures1 (.int _ _))) (.bool _) ?_
  simp -implicitDefEqProofs [encInst, H.nil]
  refine callQ_p (only_ok x) (by simp [encInst]) ?_
  cases e : (onlyI x).2
  · simp -implicitDefEqProofs [encInst, mayI, e]
  simp -implicitDefEqProofs [encInst]
  by_cases hq : x = (onlyI x).1
  rotate_left
  · have hch := eqInst_f hq
    rw [hch]
    simp -implicitDefEqProofs [mayI, hq]
  have hq' : (onlyI x).1 = x := hq.symm
  simp -implicitDefEqProofs [hq']
  refine callQ_p (register_ok x.a) (by simp) ?_
  cases ra : isReg x.a
  · simp -implicitDefEqProofs [mayI, ra, hq']
  simp -implicitDefEqProofs [hq']
  refine callQ_p (register_ok x.b) (by simp) ?_
  cases rb : isReg x.b
  · simp -implicitDefEqProofs [mayI, rb, hq']
  simp -implicitDefEqProofs [hq']
  refine callQ_p (register_ok x.c) (by simp) ?_
  cases rc : isReg x.c
  · simp -implicitDefEqProofs [mayI, rc, hq']
  simp -implicitDefEqProofs [hq']
  refine callQ_p (keys_ok x) (by simp [encInst]) ?_
  simp -implicitDefEqProofs [hq']
  refine callQ_s (contains_gen hb59 ok59 hb69 ok69 elOK_KeyT (keysI x) (by unfold keysI; split; simp; split <;> simp) (first := []) (caps := [.ptr 1 0]) (p := fun k => !mayKey k args) rfl (by simp) (fun k _ => may1_ok k args (by simp) (by simp))) (by simp) ?_
  simp -implicitDefEqProofs [mayI, e, hq', ra, rb, rc]
end Go.Proofs

/- Which programs and footprints there may be: the program's answer is the document's. -/
namespace Go.Proofs
open Go Go.RowKit Go.Am

theorem isReg_iff (n : Int) : isReg n = true ↔ 0 ≤ n ∧ n ≤ 3 := by simp [isReg]
theorem mayI_one (x : Inst) (args : Int) : mayI x args = oneInst x args := by
  rcases x with ⟨op, a, b, c, ⟨ka, kb⟩, ⟨la, lb⟩, y⟩
  have z0 : isReg 0 = true := by decide
  by_cases h1 : op = 1 ∨ op = 2
  · have h2 : op = 1 ∨ op = 2 ∨ op = 3 := by omega
    simp only [mayI, oneInst, onlyI, keysI, if_pos h1, if_pos h2, zeroK, keyNone]
    rw [Bool.eq_iff_iff]
    simp
    intro hk
    constructor
    · rintro ⟨⟨⟨⟨rfl, rfl, ⟨rfl, rfl⟩, rfl⟩, ha⟩, hb⟩, hc⟩
      simp [ha]
    · rintro ⟨⟨⟨⟨ha, rfl⟩, rfl⟩, rfl⟩, rfl, rfl⟩
      simp [ha, z0]
  by_cases h3 : op = 3
  · have h2 : op = 1 ∨ op = 2 ∨ op = 3 := by omega
    simp only [mayI, oneInst, onlyI, keysI, if_neg h1, if_pos h3, if_pos h2, zeroK, keyNone]
    rw [Bool.eq_iff_iff]
    simp
    intro hk
    constructor
    · rintro ⟨⟨⟨⟨rfl, rfl, rfl, ⟨rfl, rfl⟩, rfl⟩, ha⟩, hb⟩, hc⟩
      simp
    · rintro ⟨⟨⟨⟨rfl, rfl⟩, rfl⟩, rfl⟩, rfl, rfl⟩
      simp [z0]
  have h2 : ¬ (op = 1 ∨ op = 2 ∨ op = 3) := by omega
  by_cases h4 : op = 4
  · simp only [mayI, oneInst, onlyI, keysI, if_neg h1, if_neg h3, if_pos h4, if_neg h2, zeroK, keyNone]
    rw [Bool.eq_iff_iff]
    simp
    constructor
    · rintro ⟨⟨⟨⟨⟨rfl, rfl, rfl⟩, ha⟩, hb⟩, hc⟩, hk, hl⟩
      simp [ha, hk, hl]
    · rintro ⟨⟨⟨⟨⟨ha, rfl⟩, rfl⟩, rfl⟩, hk⟩, hl⟩
      simp [ha, hk, hl, z0]
  by_cases h5 : op = 5 ∨ op = 8
  · simp only [mayI, oneInst, onlyI, keysI, if_neg h1, if_neg h3, if_neg h4, if_neg h2, if_pos h5, zeroK, keyNone]
    rw [Bool.eq_iff_iff]
    simp
    constructor
    · rintro ⟨⟨⟨⟨rfl, rfl, ⟨rfl, rfl⟩, ⟨rfl, rfl⟩⟩, ha⟩, hb⟩, hc⟩
      simp [ha]
    · rintro ⟨⟨⟨⟨ha, rfl⟩, rfl⟩, rfl, rfl⟩, rfl, rfl⟩
      simp [ha, z0]
  by_cases h6 : op = 6 ∨ op = 7
  · simp only [mayI, oneInst, onlyI, keysI, if_neg h1, if_neg h3, if_neg h4, if_neg h2, if_neg h5, if_pos h6, zeroK, keyNone]
    rw [Bool.eq_iff_iff]
    simp
    constructor
    · rintro ⟨⟨⟨⟨⟨rfl, rfl⟩, ⟨rfl, rfl⟩, rfl⟩, ha⟩, hb⟩, hc⟩
      simp [ha, hb, hc]
    · rintro ⟨⟨⟨⟨⟨ha, rfl⟩, hb⟩, hc⟩, rfl, rfl⟩, rfl, rfl⟩
      simp [ha, hb, hc]
  simp only [mayI, oneInst, onlyI, keysI, if_neg h1, if_neg h3, if_neg h4, if_neg h2, if_neg h5, if_neg h6]
  simp

theorem May1_ok (x : Inst) (args : Int) {h : H} {b : Nat} (hb : b < h.bn) (hbx : h.bx b = some [.int .i64 args]) : SCall Tryd.prog 33 [.agg (encInst x), .ptr b 0] h (.bool (!oneInst x args)) h := by
  refine SCall.ro (CallP.run hb33 ok33 (by simp) ?_) (.bool _)
  simp -implicitDefEqProofs [hbx, encInst, show ¬ b = h.bn by omega, show b < h.bn + 1 by omega]
  refine callQ_p (may_ok x args) (by simp [encInst]) ?_
  simp -implicitDefEqProofs [mayI_one]
  exact HF.alloc _ _ _ _

theorem any_not {α : Type} (l : List α) (p : α → Bool) : (!l.any fun x => !p x) = l.all p := by
  rw [Bool.eq_iff_iff]; simp

theorem progMay_ok (l : List Inst) (args : Int) (hl : l.length ≤ 9223372036854775807) : PCall Tryd.prog 14 [.sl .no (l.map encInst), .int .i64 args] (.bool (progMay l args)) := by
  refine PCall.run hb14 ok14 (by simp) (pures_cons (elOK_Inst.pureL l) (pures1 (.int _ _))) (.bool _) ?_
  by_cases bad : ((args < 0 ∨ 3 < args) ∨ (l.length : Int) < 1) ∨ (8 : Int) < (l.length : Int)
  · have hf : progMay l args = false := by
      simp only [progMay, Bool.and_eq_false_iff, Bool.not_eq_false', decide_eq_true_eq]
      omega
    simp (maxSteps := 2000000) +contextual -implicitDefEqProofs [↓gdL_T, ↓gdL_F, ↓condQ_b, -Int.not_lt, -Int.not_le, -Nat.not_lt, -Nat.not_le, hf, H.nil]
    all_goals (intros; omega)
  · have hm : progMay l args = l.all fun x => oneInst x args := by
      simp only [progMay, show ¬ args < 0 by omega, show ¬ 3 < args by omega, show ¬ l.length < 1 by omega, show ¬ 8 < l.length by omega]
      simp
    simp -implicitDefEqProofs [H.nil, show ¬ args < 0 by omega, show ¬ 3 < args by omega, show ¬ (l.length : Int) < 1 by omega, show ¬ (8 : Int) < (l.length : Int) by omega, hm]
    refine callQ_s (contains_gen hb32 ok32 hb55 ok55 elOK_Inst l hl (first := []) (caps := [.ptr 0 0]) (p := fun x => !oneInst x args) rfl (by simp) (fun x _ => May1_ok x args (by simp) (by simp))) (by simp) ?_
    simp -implicitDefEqProofs [any_not]

def sureI (x : Inst) : Bool := !(decide (x.op = 6) || decide (x.op = 7) || decide (x.op = 8))
theorem Sure1_ok (x : Inst) : PCall Tryd.prog 35 [.agg (encInst x)] (.bool (!sureI x)) := by
  refine PCall.run hb35 ok35 (by simp) (pures1 (pureInst x)) (.bool _) ?_
  by_cases h6 : x.op = 6
  · simp -implicitDefEqProofs [encInst, sureI, h6]
  by_cases h7 : x.op = 7
  · simp -implicitDefEqProofs [encInst, sureI, h7]
  simp -implicitDefEqProofs [encInst, sureI, h6, h7]
theorem sure_ok (l : List Inst) (hl : l.length ≤ 9223372036854775807) : PCall Tryd.prog 15 [.sl .no (l.map encInst)] (.bool (l.all sureI)) := by
  refine PCall.run hb15 ok15 (by simp) (pures1 (elOK_Inst.pureL l)) (.bool _) ?_
  simp -implicitDefEqProofs []
  refine callQ_s (contains_gen hb32 ok32 hb55 ok55 elOK_Inst l hl (first := []) (caps := []) (p := fun x => !sureI x) rfl rfl (fun x _ => Sure1_ok x _)) (by simp) ?_
  simp -implicitDefEqProofs [any_not]

theorem progMay_reads (k : KeyT) {args : Int} (h0 : 0 ≤ args) (h3 : args ≤ 3) : progMay [(⟨1, 0, 0, 0, k, zeroK, 0⟩ : Inst)] args = mayKey k args := by
  have z0 : isReg 0 = true := by decide
  simp [progMay, oneInst, z0, zeroK, keyNone]
  intro; omega
end Go.Proofs

/- Which footprints there may be: the program's answer; what may compensate. -/
namespace Go.Proofs
open Go Go.RowKit Go.Am

def compMay (c : Stp) (args : Int) : Bool := (decide (c.code.length = 0) || (progMay c.code args && c.code.all sureI)) && footMay c.foot args
theorem one_ops {x : Inst} {args : Int} (h : oneInst x args = true) : decide (x.op < 6) = sureI x := by
  have : 1 ≤ x.op ∧ x.op ≤ 8 := by
    by_cases hq : 1 ≤ x.op ∧ x.op ≤ 8
    · exact hq
    · simp only [oneInst] at h
      rw [if_neg (by omega), if_neg (by omega), if_neg (by omega), if_neg (by omega), if_neg (by omega)] at h
      cases h
  rw [Bool.eq_iff_iff]
  simp [sureI]
  omega
theorem comp_back (c : Stp) (args : Int) : compMay c args = (footMay c.foot args && backMay c args) := by
  rw [compMay, backMay, Bool.and_comm]
  congr 1
  by_cases h0 : c.code.length = 0
  · have : c.code = [] := List.length_eq_zero_iff.1 h0
    simp [this]
  · have h1 : 0 < c.code.length := by omega
    simp only [h0, h1, decide_false, decide_true, Bool.false_or, Bool.not_true]
    cases hp : progMay c.code args
    · rfl
    · simp only [Bool.true_and]
      simp only [progMay, Bool.and_eq_true] at hp
      have ho := hp.2
      rw [List.all_eq_true] at ho
      rw [Bool.eq_iff_iff, List.all_eq_true, List.all_eq_true]
      constructor
      · intro h x hx; rw [one_ops (ho x hx)]; exact h x hx
      · intro h x hx; rw [← one_ops (ho x hx)]; exact h x hx
end Go.Proofs

/- The steps of a class, over which one ranges; which classes there may be: the program's answer. -/
namespace Go.Proofs
open Go Go.RowKit Go.Am

end Go.Proofs

/- Which classes there may be: the program's answer. -/
namespace Go.Proofs
open Go Go.RowKit Go.Am

theorem stepMay_parts (a : Int) (s u : Stp) : stepMay a (s, u) = (progMay s.code a && footMay s.foot a && compMay u a) := by
  rw [comp_back, stepMay]
  cases progMay s.code a <;> cases footMay s.foot a <;> cases footMay u.foot a <;> cases backMay u a <;> rfl

end Go.Proofs

/- What is read as a class: plain laws. -/
namespace Go.Proofs
open Go Go.RowKit Go.Am

/-- All that is read is such. -/
def RdAll {α : Type} (p : Rd α) (Q : α → Prop) : Prop := ∀ l a l', (∀ w ∈ l, w < 18446744073709551616) → p l = some (a, l') → Q a
theorem RdAll.bind {α β : Type} {p : Rd α} {q : α → Rd β} {R : α → Prop} {Q : β → Prop} (hp : RdAll p R) (ho : RdOK p) (hq : ∀ a, R a → RdAll (q a) Q) : RdAll (p.bind q) Q := fun l b l' hw h => by
  simp only [Rd.bind, Option.bind_eq_some_iff] at h
  obtain ⟨⟨a, l1⟩, h1, h2⟩ := h
  exact hq a (hp l a l1 hw h1) l1 b l' (fun w hm => hw w ((ho l a l1 h1).2 w hm)) h2
theorem RdAll.pure {α : Type} {a : α} {Q : α → Prop} (h : Q a) : RdAll (Rd.pure a) Q := fun l b l' _ e => by
  simp only [Rd.pure, Option.some.injEq, Prod.mk.injEq] at e
  obtain ⟨rfl, _⟩ := e
  exact h
theorem RdAll.none {α : Type} {Q : α → Prop} : RdAll (Rd.none) Q := fun l b l' _ e => by cases e
theorem RdAll.rep {α : Type} {p : Rd α} {Q : α → Prop} (hp : RdAll p Q) (ho : RdOK p) : ∀ k, RdAll (Rd.rep p k) fun L => L.length = k ∧ ∀ a ∈ L, Q a
  | 0 => RdAll.pure ⟨rfl, fun a h => by cases h⟩
  | k + 1 => (RdAll.rep hp ho k).bind (ho.rep k) fun L ⟨h1, h2⟩ => hp.bind ho fun a ha => RdAll.pure ⟨by rw [List.length_append, h1]; rfl, fun x hx => by
    rcases List.mem_append.1 hx with h | h
    · exact h2 x h
    · rw [List.mem_singleton.1 h]; exact ha⟩
theorem rdCount_all (most : Int) : RdAll (rdCount most) fun n => 0 ≤ n ∧ n ≤ most := fun l a l' _ h => by
  cases l with
  | nil => cases h
  | cons w l =>
    simp only [rdCount] at h
    split at h
    · cases h; omega
    · cases h
theorem rdSigned_all : RdAll rdSigned inI := fun l a l' hw h => by
  cases l with
  | nil => cases h
  | cons w l =>
    simp only [rdSigned, Option.some.injEq, Prod.mk.injEq] at h
    obtain ⟨rfl, _⟩ := h
    exact backI_in (hw w (List.mem_cons_self ..))
theorem rdText_all : RdAll rdText fun s => s.size ≤ 64 := fun l a l' hw h => by
  simp only [rdText, Option.bind_eq_some_iff] at h
  obtain ⟨⟨n, l1⟩, h1, ⟨ws, l2⟩, h2, h3⟩ := h
  have := rdCount_all 64 l n l1 hw h1
  simp only at h3
  split at h3
  · simp only [Option.some.injEq, Prod.mk.injEq] at h3
    obtain ⟨rfl, _⟩ := h3
    rw [unpack_size]; omega
  · cases h3
theorem rdFlag_all : RdAll rdFlag fun _ => True := fun _ _ _ _ _ => trivial
theorem rdKey_all : RdAll rdKey KeyT.wf := rdSigned_all.bind rdSigned_ok fun a ha => by
  split
  · exact RdAll.none
  · exact (rdCount_all 999).bind (rdCount_ok _) fun n hn => RdAll.pure ⟨ha, by simp only [inI]; omega⟩
theorem rdInst_all : RdAll rdInst Inst.wf :=
  (rdCount_all 255).bind (rdCount_ok _) fun a1 h1 => (rdCount_all 255).bind (rdCount_ok _) fun a2 h2 => (rdCount_all 255).bind (rdCount_ok _) fun a3 h3 => (rdCount_all 255).bind (rdCount_ok _) fun a4 h4 =>
    rdKey_all.bind rdKey_ok fun k hk => rdKey_all.bind rdKey_ok fun l hl => rdSigned_all.bind rdSigned_ok fun x hx => RdAll.pure ⟨by simp only [inI]; omega, by simp only [inI]; omega, by simp only [inI]; omega, by simp only [inI]; omega, hk, hl, hx⟩
theorem rdSpanT_all : RdAll rdSpanT SpanT.wf := rdKey_all.bind rdKey_ok fun k hk => rdKey_all.bind rdKey_ok fun l hl => rdFlag_all.bind rdFlag_ok fun _ _ => RdAll.pure ⟨hk, hl⟩
theorem rdProg_all : RdAll rdProg fun l => l.length ≤ 8 ∧ ∀ x ∈ l, x.wf := (rdCount_all 8).bind (rdCount_ok _) fun n hn => fun l a l' hw h => by
  obtain ⟨h1, h2⟩ := rdInst_all.rep rdInst_ok n.toNat l a l' hw h
  exact ⟨by omega, h2⟩
theorem rdFoot_all : RdAll rdFoot fun l => l.length ≤ 4 ∧ ∀ x ∈ l, x.wf := (rdCount_all 4).bind (rdCount_ok _) fun n hn => fun l a l' hw h => by
  obtain ⟨h1, h2⟩ := rdSpanT_all.rep rdSpanT_ok n.toNat l a l' hw h
  exact ⟨by omega, h2⟩
theorem rdStp_all : RdAll rdStp Stp.wf := rdProg_all.bind rdProg_ok fun c hc => rdFoot_all.bind rdFoot_ok fun f hf => RdAll.pure ⟨⟨by simp only [maxLen]; omega, hc.2⟩, by simp only [maxLen]; omega, hf.2⟩
theorem rdPair_all : RdAll rdPair fun p => p.1.wf ∧ p.2.wf := rdStp_all.bind rdStp_ok fun s hs => rdStp_all.bind rdStp_ok fun u hu => RdAll.pure ⟨hs, hu⟩
theorem rdCls_all : RdAll rdCls Cls.wf := rdText_all.bind rdText_ok fun name hname => (rdCount_all 3).bind (rdCount_ok _) fun args hargs => (rdCount_all 4).bind (rdCount_ok _) fun n hn =>
  (rdPair_all.rep rdPair_ok n.toNat).bind (rdPair_ok.rep _) fun L hL => rdFlag_all.bind rdFlag_ok fun r _ => RdAll.pure ⟨by simp only [maxLen]; omega, by simp only [inI]; omega,
    ⟨by simp only [maxLen, List.length_map]; omega, fun y hy => by obtain ⟨p, hp, rfl⟩ := List.mem_map.1 hy; exact (hL.2 p hp).1⟩,
    by simp only [maxLen, List.length_map]; omega, fun y hy => by obtain ⟨p, hp, rfl⟩ := List.mem_map.1 hy; exact (hL.2 p hp).2⟩

theorem Got.all {α : Type} {p : Rd α} {Q : α → Prop} (hp : RdAll p Q) {s : RS} (hs : Bd s) {a : α} {l : List Nat} (h : Got p s a (some l)) : Q a := by
  unfold Got at h
  cases s with
  | none => simp at h
  | some l0 =>
    simp only [Option.bind_some] at h
    cases hq : p l0 with
    | none => rw [hq] at h; cases h
    | some x => rw [hq] at h; obtain ⟨rfl, _⟩ := h; exact hp l0 x.1 x.2 (hs l0 rfl).2 hq

def cls0 : Cls := ⟨⟨#[]⟩, 0, [], [], false⟩
/-- What a class is read as: none, it isn't right. -/
def clsR (s : RS) : Option (Cls × List Nat) := (s.bind rdCls).bind fun x => if clsMay x.1 = true then some x else none
def clsRV (s : RS) : AV := match clsR s with
  | some (c, _) => .tup [.agg (encCls c), .bool true]
  | none => .tup [.agg (encCls cls0), .bool false]
def clsRS (s : RS) : RS := (clsR s).map (·.2)
theorem pure_clsRV (s : RS) : PureV (clsRV s) := by
  unfold clsRV
  split <;> exact .tup (pures_cons (.agg (pure_encCls _)) (pures1 (.bool _)))
theorem clsRS_bd {s : RS} (hs : Bd s) : Bd (clsRS s) := fun l h => by
  simp only [clsRS, clsR, Option.map_eq_some_iff, Option.bind_eq_some_iff] at h
  obtain ⟨x, ⟨y, ⟨l0, h1, h2⟩, h3⟩, h4⟩ := h
  split at h3
  · cases h3
    have := rdCls_ok l0 x.1 x.2 h2
    rw [h4] at this
    exact ⟨Nat.le_trans this.1 (hs l0 h1).1, fun w hw => (hs l0 h1).2 w (this.2 w hw)⟩
  · cases h3
theorem clsR_none {s : RS} {c : Cls} (h : Got rdCls s c none) : clsR s = none := by
  unfold Got at h
  unfold clsR
  cases hp : s.bind rdCls with
  | none => rfl
  | some x => rw [hp] at h; obtain ⟨_, h2⟩ := h; cases h2
theorem clsR_some {s : RS} {c : Cls} {l : List Nat} (h : Got rdCls s c (some l)) : clsR s = if clsMay c = true then some (c, l) else none := by
  unfold Got at h
  unfold clsR
  cases hp : s.bind rdCls with
  | none => rw [hp] at h; cases h
  | some x => rw [hp] at h; obtain ⟨rfl, h2⟩ := h; cases h2; rfl
end Go.Proofs
