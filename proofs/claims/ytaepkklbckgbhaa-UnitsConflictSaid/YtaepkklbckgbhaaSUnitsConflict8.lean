/- What the functions that the statement reaches do: their contracts; and what follows of it. -/
import Derived.Test.YtaepkklbckgbhaaSUnitsConflict7
import Derived.Test.YtaepkklbckgbhaaSUnitsConflict6
/- Which programs, footprints, classes and catalogues there may be: the document's answer. -/
namespace Go.Proofs
open Go Go.RowKit Go.Am

theorem elOK_Inst : ElOK encInst 9 true := ⟨fun _ => rfl, (fun h => by cases h), pure_encInst, wk_encInst⟩
theorem elOK_SpanT : ElOK encSpanT 5 true := ⟨fun _ => rfl, (fun h => by cases h), pure_encSpanT, wk_encSpanT⟩
theorem elOK_Stp : ElOK encStp 2 true := ⟨fun _ => rfl, (fun h => by cases h), pure_encStp, wk_encStp⟩
theorem elOK_Cls : ElOK encCls 5 true := ⟨fun _ => rfl, (fun h => by cases h), pure_encCls, wk_encCls⟩
theorem elOK_Spn : ElOK encSpn 2 true := ⟨fun _ => rfl, (fun h => by cases h), pure_encSpn, wk_encSpn⟩
theorem elOK_Nod : ElOK encNod 6 true := ⟨fun _ => rfl, (fun h => by cases h), pure_encNod, wk_encNod⟩
theorem elOK_Chg : ElOK encChg 3 true := ⟨fun _ => rfl, (fun h => by cases h), pure_encChg, wk_encChg⟩
theorem elOK_KeyT : ElOK encKeyT 2 true := ⟨fun _ => rfl, (fun h => by cases h), pure_encKeyT, wk_encKeyT⟩

def progMay (l : List Inst) (args : Int) : Bool := !decide (args < 0) && !decide (3 < args) && !decide (l.length < 1) && !decide (8 < l.length) && l.all fun x => oneInst x args
def footMay (l : List SpanT) (args : Int) : Bool := !decide (args < 0) && !decide (3 < args) && !decide (4 < l.length) && l.all fun s => mayKey s.lo args && mayKey s.hi args

theorem all_take_false {α : Type} {p : α → Bool} {l : List α} {j : Nat} (hj : j < l.length) (h : p l[j] = false) : l.all p = false := by
  rw [List.all_eq_false]
  exact ⟨l[j], List.getElem_mem hj, by simp [h]⟩
theorem all_whole {α : Type} {p : α → Bool} {l : List α} {j : Nat} (hj : l.length ≤ j) (h : ∀ i (hi : i < l.length), i < j → p l[i] = true) : l.all p = true := by
  rw [List.all_eq_true]
  intro x hx
  obtain ⟨i, hi, rfl⟩ := List.mem_iff_getElem.1 hx
  exact h i hi (by omega)

theorem refFootMay_ok (l : List SpanT) (args : Int) (hl : l.length ≤ 9223372036854775807) : PCall Try.prog 32 [.sl .no (l.map encSpanT), .int .i64 args] (.bool (footMay l args)) := by
  refine PCall.run hb32 ok32 (by simp) (pures_cons (elOK_SpanT.pureL l) (pures1 (.int _ _))) (.bool _) ?_
  by_cases bad : (args < 0 ∨ 3 < args) ∨ (4 : Int) < (l.length : Int)
  · have hf : footMay l args = false := by
      simp only [footMay, Bool.and_eq_false_iff, Bool.not_eq_false', decide_eq_true_eq]
      omega
    simp (maxSteps := 2000000) +contextual -implicitDefEqProofs [↓gdL_F, ↓condQ_b, -Int.not_lt, -Int.not_le, -Nat.not_lt, -Nat.not_le, hf]
    all_goals (intros; omega)
  · have hm : footMay l args = l.all fun s => mayKey s.lo args && mayKey s.hi args := by
      simp only [footMay, show ¬ args < 0 by omega, show ¬ 3 < args by omega, show ¬ 4 < l.length by omega]
      simp
    simp (maxSteps := 2000000) +contextual -implicitDefEqProofs [↓gdL_F, ↓condQ_b, -Int.not_lt, -Int.not_le, -Nat.not_lt, -Nat.not_le, show ¬ args < 0 by omega, show ¬ 3 < args by omega, show ¬ (4 : Int) < (l.length : Int) by omega, hm]
    refine run_loop (fun n s h => ∃ j : Nat, n = l.length - j ∧ j ≤ l.length ∧ s 0 = .sl .no (l.map encSpanT) ∧ s 1 = .int .i64 args ∧ s 5 = .int .i64 j ∧ ∀ i (hi : i < l.length), i < j → (mayKey l[i].lo args && mayKey l[i].hi args) = true) ?_ l.length ?_
    · rintro n s h ⟨j, hn, hj, h0, h1, h5, hall⟩ ih
      by_cases hlt : j < l.length
      · simp -implicitDefEqProofs [h0, h1, h5, hlt, encSpanT]
        refine callQ_p (refMayKey_ok l[j].lo args) (by simp [encKeyT]) ?_
        cases hp : mayKey l[j].lo args
        · simp -implicitDefEqProofs [all_take_false (p := fun s => mayKey s.lo args && mayKey s.hi args) hlt (by simp [hp])]
        · simp -implicitDefEqProofs [h0, h1, h5, hlt, encSpanT]
          refine callQ_p (refMayKey_ok l[j].hi args) (by simp [encKeyT]) ?_
          cases hq : mayKey l[j].hi args
          · simp -implicitDefEqProofs [all_take_false (p := fun s => mayKey s.lo args && mayKey s.hi args) hlt (by simp [hp, hq])]
          · simp -implicitDefEqProofs [h5, inc_i64 hlt hl, -Int.natCast_add]
            exact ih (l.length - (j + 1)) _ _ (by omega) ⟨j + 1, rfl, by omega, by simp [h0], by simp [h1], by simp, fun i hi hij => by
              by_cases h : i = j
              · subst h; simp [hp, hq]
              · exact hall i hi (by omega)⟩
      · have hw := all_whole (p := fun s : SpanT => mayKey s.lo args && mayKey s.hi args) (by omega) hall
        simp -implicitDefEqProofs [h0, h5, hlt, hw]
    · exact ⟨0, by simp⟩
end Go.Proofs

/- Which classes and catalogues there may be: the document's answer. -/
namespace Go.Proofs
open Go Go.RowKit Go.Am

def backMay (c : Stp) (args : Int) : Bool := (!decide (0 < c.code.length) || progMay c.code args) && c.code.all fun x => decide (x.op < 6)
def stepMay (args : Int) (p : Stp × Stp) : Bool := progMay p.1.code args && footMay p.1.foot args && footMay p.2.foot args && backMay p.2 args
def clsMay (x : Cls) : Bool :=
  !decide (x.name.size < 1) && !decide (16 < x.name.size) && !decide (x.args < 0) && !decide (3 < x.args) && !decide (x.steps.length < 1) && !decide (4 < x.steps.length) && decide (x.comps.length = x.steps.length) &&
    (x.steps.zip x.comps).all (stepMay x.args)

end Go.Proofs

/- Which catalogues there may be: the document's answer. -/
namespace Go.Proofs
open Go Go.RowKit Go.Am

def Ctlg.nameAt (x : Ctlg) (i : Nat) : ByteArray := (x.classes[i]?.map (·.name)).getD ByteArray.empty
def Ctlg.stepsN (x : Ctlg) (i : Nat) : Nat := (x.classes[i]?.map (·.steps.length)).getD 0
def Ctlg.brk (x : Ctlg) (c d : Nat) : Int := (x.breaks[4 * c + d]?).getD 0
def Ctlg.mostB (x : Ctlg) (c d : Nat) : Int := if c < x.classes.length ∧ d < x.classes.length then 2 ^ (x.stepsN c - 1) else 1
def Ctlg.brkOK (x : Ctlg) (c d : Nat) : Bool := !decide (x.brk c d < 0) && !decide (x.mostB c d ≤ x.brk c d)
def Ctlg.namesOK (x : Ctlg) (i : Nat) : Bool := (List.range i).all fun j => !decide (x.nameAt j = x.nameAt i)
def Ctlg.clsOK (x : Ctlg) (i : Nat) : Bool := (x.classes[i]?.map clsMay).getD false
def catMay (x : Ctlg) : Bool :=
  !decide (x.classes.length < 1) && !decide (4 < x.classes.length) && ((List.range x.classes.length).all fun i => x.clsOK i && x.namesOK i) && (List.range 4).all fun c => (List.range 4).all (x.brkOK c)

theorem allR_false {p : Nat → Bool} {n j : Nat} (hj : j < n) (h : p j = false) : (List.range n).all p = false := by
  rw [List.all_eq_false]
  exact ⟨j, List.mem_range.2 hj, by simp [h]⟩
theorem allR_true {p : Nat → Bool} {n j : Nat} (hj : n ≤ j) (h : ∀ i, i < j → p i = true) : (List.range n).all p = true := by
  rw [List.all_eq_true]
  intro x hx
  exact h x (by have := List.mem_range.1 hx; omega)
@[simp] theorem take_encCls (y : Cls) : List.take 5 (encCls y) = encCls y := rfl
theorem Ctlg.brk_of {x : Ctlg} {c d : Nat} (hb : x.breaks.length = 16) (hc : c < 4) (hd : d < 4) : x.brk c d = x.breaks[4 * c + d] := by simp [brk, show 4 * c + d < x.breaks.length by omega]
theorem Ctlg.brk_load {x : Ctlg} (v : AV) {c d : Nat} (hb : x.breaks.length = 16) (hc : c < 4) (hd : d < 4) : List.take 1 (List.drop (1 + c * 4 + d) (v :: x.breaks.map (AV.int .i64))) = [.int .i64 (x.brk c d)] := by
  rw [show 1 + c * 4 + d = (4 * c + d) + 1 by omega, List.drop_succ_cons, brk_of hb hc hd, List.drop_eq_getElem_cons (by simp; omega)]
  simp
theorem Ctlg.nameAt_of {x : Ctlg} {i : Nat} (h : i < x.classes.length) : x.nameAt i = x.classes[i].name := by simp [nameAt, h]
theorem Ctlg.stepsN_of {x : Ctlg} {i : Nat} (h : i < x.classes.length) : x.stepsN i = x.classes[i].steps.length := by simp [stepsN, h]
theorem Ctlg.clsOK_of {x : Ctlg} {i : Nat} (h : i < x.classes.length) : x.clsOK i = clsMay x.classes[i] := by simp [clsOK, h]

end Go.Proofs

/- Breakpoints: the document's answer and the program's. -/
namespace Go.Proofs
open Go Go.RowKit Go.Am

def bitN (b i : Nat) : Bool := decide (b / 2 ^ i % 2 = 1)
def Ctlg.inn (x : Ctlg) (c : Int) : Bool := decide (0 ≤ c) && decide (c < (x.classes.length : Int)) && decide (c < 4)
def Ctlg.brkAt (x : Ctlg) (c d i : Int) : Bool := x.inn c && x.inn d && decide (0 ≤ i) && decide (i + 1 < (x.stepsN c.toNat : Int)) && bitN (x.brk c.toNat d.toNat).toNat i.toNat

theorem Ctlg.take16 (x : Ctlg) (hb : x.breaks.length = 16) : List.take 16 (x.breaks.map (AV.int .i64)) = x.breaks.map (AV.int .i64) := List.take_of_length_le (by simp [hb])

theorem there_ok (x : Ctlg) (_ : x.wf) {c : Int} (_ : inI c) : PCall Try.prog 69 [.agg (encCtlg x), .int .i64 c] (.bool (x.inn c)) := by
  refine PCall.run hb69 ok69 (by simp) (pures_cons (.agg (pure_encCtlg x)) (pures1 (.int _ _))) (.bool _) ?_
  by_cases a1 : 0 ≤ c
  · by_cases a2 : c < (x.classes.length : Int)
    · simp -implicitDefEqProofs [encCtlg, a1, a2, Ctlg.inn]
    · simp -implicitDefEqProofs [encCtlg, a1, a2, Ctlg.inn]
  · simp -implicitDefEqProofs [encCtlg, a1, Ctlg.inn]

/-- The unit of a step, as the document counts: how many breakpoints there are before it. -/
def Ctlg.unitN (x : Ctlg) (c d : Int) (i : Nat) : Nat := ((List.range i).filter fun j : Nat => x.brkAt c d j).length

end Go.Proofs

/- Units: their bounds, the document's and the program's. -/
namespace Go.Proofs
open Go Go.RowKit Go.Am

/-! ### The plain law -/
def loF (p : Nat → Bool) : Nat → Nat
  | 0 => 0
  | i + 1 => if p i then i + 1 else loF p i
def hiF (p : Nat → Bool) : Nat → Nat → Nat
  | 0, i => i
  | k + 1, i => if p i then i else hiF p k (i + 1)

theorem loF_le (p : Nat → Bool) (i : Nat) : loF p i ≤ i := by
  induction i with
  | zero => simp [loF]
  | succ i ih => simp only [loF]; split <;> omega
theorem loF_no (p : Nat → Bool) (i : Nat) : ∀ j, loF p i ≤ j → j < i → p j = false := by
  induction i with
  | zero => intro j _ h; omega
  | succ i ih =>
    intro j h1 h2
    simp only [loF] at h1
    split at h1
    · omega
    · by_cases h : j = i
      · subst h; simp_all
      · exact ih j h1 (by omega)
theorem loF_at (p : Nat → Bool) (i : Nat) : loF p i = 0 ∨ p (loF p i - 1) = true := by
  induction i with
  | zero => simp [loF]
  | succ i ih =>
    simp only [loF]
    split
    · right; simpa
    · exact ih
theorem hiF_ge (p : Nat → Bool) (k i : Nat) : i ≤ hiF p k i ∧ hiF p k i ≤ i + k := by
  induction k generalizing i with
  | zero => simp [hiF]
  | succ k ih =>
    simp only [hiF]
    have := ih (i + 1)
    split <;> omega
theorem hiF_no (p : Nat → Bool) (k i : Nat) : ∀ j, i ≤ j → j < hiF p k i → p j = false := by
  induction k generalizing i with
  | zero => intro j h1 h2; simp only [hiF] at h2; omega
  | succ k ih =>
    intro j h1 h2
    simp only [hiF] at h2
    split at h2
    · omega
    · by_cases h : j = i
      · subst h; simp_all
      · exact ih (i + 1) j (by omega) h2
theorem hiF_at (p : Nat → Bool) (k i : Nat) : hiF p k i = i + k ∨ p (hiF p k i) = true := by
  induction k generalizing i with
  | zero => simp [hiF]
  | succ k ih =>
    simp only [hiF]
    split
    · right; assumption
    · rcases ih (i + 1) with h | h
      · left; omega
      · right; exact h

/-- How many there are below. -/
def cntF (p : Nat → Bool) : Nat → Nat
  | 0 => 0
  | j + 1 => cntF p j + if p j then 1 else 0
theorem cntF_mono (p : Nat → Bool) {a b : Nat} (h : a ≤ b) : cntF p a ≤ cntF p b := by
  induction b with
  | zero => have : a = 0 := by omega
            subst this; exact Nat.le_refl _
  | succ b ih =>
    by_cases hb : a = b + 1
    · subst hb; exact Nat.le_refl _
    · have := ih (by omega)
      simp only [cntF]; omega
theorem cntF_same (p : Nat → Bool) {a b : Nat} (h : a ≤ b) (hn : ∀ j, a ≤ j → j < b → p j = false) : cntF p a = cntF p b := by
  induction b with
  | zero => have : a = 0 := by omega
            subst this; rfl
  | succ b ih =>
    by_cases hb : a = b + 1
    · subst hb; rfl
    · have h1 := ih (by omega) fun j h1 h2 => hn j h1 (by omega)
      have h2 := hn b (by omega) (by omega)
      simp [cntF, h1, h2]
theorem cntF_iff (p : Nat → Bool) {n i k : Nat} (hi : i < n) (hk : k < n) : cntF p k = cntF p i ↔ loF p i ≤ k ∧ k ≤ hiF p (n - 1 - i) i := by
  have l1 := loF_le p i
  have l2 := loF_no p i
  have l3 := loF_at p i
  have g1 := hiF_ge p (n - 1 - i) i
  have g2 := hiF_no p (n - 1 - i) i
  have g3 := hiF_at p (n - 1 - i) i
  generalize loF p i = lo at *
  generalize hiF p (n - 1 - i) i = hh at *
  constructor
  · intro he
    constructor
    · apply Nat.le_of_not_lt
      intro hlt
      rcases l3 with h | h
      · omega
      · have a1 := cntF_mono p (show k ≤ lo - 1 by omega)
        have a2 : cntF p (lo - 1 + 1) = cntF p (lo - 1) + 1 := by simp [cntF, h]
        have a3 := cntF_mono p (show lo - 1 + 1 ≤ i by omega)
        omega
    · apply Nat.le_of_not_lt
      intro hlt
      rcases g3 with h | h
      · omega
      · have a1 := cntF_mono p (show i ≤ hh by omega)
        have a2 : cntF p (hh + 1) = cntF p hh + 1 := by simp [cntF, h]
        have a3 := cntF_mono p (show hh + 1 ≤ k by omega)
        omega
  · rintro ⟨h1, h2⟩
    by_cases hki : k ≤ i
    · exact cntF_same p hki fun j q1 q2 => l2 j (by omega) q2
    · exact (cntF_same p (show i ≤ k by omega) fun j q1 q2 => g2 j q1 (by omega)).symm

theorem Ctlg.unitN_cnt (x : Ctlg) (c d : Int) (i : Nat) : x.unitN c d i = cntF (fun j : Nat => x.brkAt c d j) i := by
  induction i with
  | zero => simp [unitN, cntF]
  | succ i ih =>
    unfold unitN at ih ⊢
    rw [List.range_succ, List.filter_append, List.length_append, ih]
    by_cases h : x.brkAt c d i <;> simp [cntF, h]

def Ctlg.lo (x : Ctlg) (c d : Int) (i : Nat) : Nat := loF (fun j : Nat => x.brkAt c d j) i
def Ctlg.hi (x : Ctlg) (c d : Int) (i : Nat) : Nat := hiF (fun j : Nat => x.brkAt c d j) (x.stepsN c.toNat - 1 - i) i
def Ctlg.inb (x : Ctlg) (c d i : Int) : Bool := x.inn c && x.inn d && decide (0 ≤ i) && decide (i < (x.stepsN c.toNat : Int))
def bndV (x : Ctlg) (c d i : Int) : AV := if x.inb c d i then .tup [.int .i64 (x.lo c d i.toNat), .int .i64 (x.hi c d i.toNat), .bool true] else .tup [.int .i64 0, .int .i64 0, .bool false]

theorem pure_bndV (x : Ctlg) (c d i : Int) : PureV (bndV x c d i) := by
  unfold bndV
  split
  · exact .tup (pures_cons (.int _ _) (pures_cons (.int _ _) (pures1 (.bool _))))
  · exact .tup (pures_cons (.int _ _) (pures_cons (.int _ _) (pures1 (.bool _))))

/-! ### The document's -/
/-! ### The program's -/
theorem break1_ok (x : Ctlg) {h : H} {b : Nat} (hb : b < h.bn) (hx : h.bx b = some (encCtlg x)) {c : Int} : SCall Try.prog 81 [.int .i64 c, .ptr b 0] h (.bool (x.inn c)) h := by
  refine SCall.ro (CallP.run hb81 ok81 (by simp) ?_) (.bool _)
  simp only [encCtlg] at hx
  by_cases a1 : 0 ≤ c
  · simp -implicitDefEqProofs [hb, hx, a1, Ctlg.inn]
    exact ⟨by rw [Bool.eq_iff_iff]; simp; split <;> omega, HF.refl _ _ _⟩
  · simp -implicitDefEqProofs [a1, Ctlg.inn]
    exact HF.refl _ _ _

theorem bit_and {b i : Nat} (hb : b < 9223372036854775808) (hi : i ≤ 64) : IntKind.i64.wrap (((((b : Int).fdiv (2 ^ shAmt IntKind.i64 i) % 2 ^ IntKind.i64.bits).toNat &&& ((1 : Int) % 2 ^ IntKind.i64.bits).toNat : Nat)) : Int) = ((b / 2 ^ i % 2 : Nat) : Int) := by
  have e1 : shAmt IntKind.i64 (i : Int) = i := by simp only [shAmt, Int.toNat_natCast]; exact Nat.min_eq_left hi
  have e2 : (b : Int).fdiv (2 ^ i) = ((b / 2 ^ i : Nat) : Int) := by
    rw [Int.fdiv_eq_ediv_of_nonneg _ (by exact Int.pow_nonneg (by omega))]
    push_cast
    rfl
  have e3 : IntKind.i64.bits = 64 := rfl
  have hq : b / 2 ^ i ≤ b := Nat.div_le_self _ _
  rw [e1, e2, e3]
  generalize b / 2 ^ i = q at hq ⊢
  have e5 : ((q : Int) % 2 ^ 64).toNat = q := by omega
  have e6 : ((1 : Int) % 2 ^ 64).toNat = 1 := by decide
  rw [e5, e6, Nat.and_one_is_mod, wrap_i64] <;> omega

structure Ctlg.good (x : Ctlg) : Prop where
  wf : x.wf
  n4 : x.classes.length ≤ 4
  s4 : ∀ c (h : c < x.classes.length), x.classes[c].steps.length ≤ 4
  nn : ∀ c d, 0 ≤ x.brk c d

theorem break_ok (x : Ctlg) (hx : x.good) {c d i : Int} (hc : inI c) (hd : inI d) (hi : inI i) : PCall Try.prog 70 [.agg (encCtlg x), .int .i64 c, .int .i64 d, .int .i64 i] (.bool (x.brkAt c d i)) := by
  refine PCall.run hb70 ok70 (by simp) (pures_cons (.agg (pure_encCtlg x)) (pures_cons (.int _ _) (pures_cons (.int _ _) (pures1 (.int _ _))))) (.bool _) ?_
  obtain ⟨hw, h4, hs4, hnn⟩ := hx
  have htk := x.take16 hw.2.1
  have hbl := hw.2.1
  have hcw := hw.1.2
  simp -implicitDefEqProofs [encCtlg]
  refine callQ_s (break1_ok x (c := c) (b := 0) (by simp [H.nil]) (by simp [H.nil, encCtlg])) (by simp [H.nil]) ?_
  cases ec : x.inn c
  · simp -implicitDefEqProofs [Ctlg.brkAt, ec]
  simp -implicitDefEqProofs []
  refine callQ_s (break1_ok x (c := d) (b := 0) (by simp [H.nil]) (by simp [H.nil, encCtlg])) (by simp [H.nil]) ?_
  cases ed : x.inn d
  · simp -implicitDefEqProofs [Ctlg.brkAt, ec, ed]
  simp only [Ctlg.inn, Bool.and_eq_true, decide_eq_true_eq] at ec ed
  obtain ⟨⟨a1, a2⟩, a3⟩ := ec
  obtain ⟨⟨b1, b2⟩, b3⟩ := ed
  obtain ⟨c, rfl⟩ := Int.eq_ofNat_of_zero_le a1
  obtain ⟨d, rfl⟩ := Int.eq_ofNat_of_zero_le b1
  have a2 : c < x.classes.length := by omega
  have b2 : d < x.classes.length := by omega
  by_cases i1 : 0 ≤ i
  rotate_left
  · simp -implicitDefEqProofs [Ctlg.brkAt, i1, show i < 0 by omega]
  obtain ⟨i, rfl⟩ := Int.eq_ofNat_of_zero_le i1
  have hsl := hs4 c a2
  have hw1 : IntKind.i64.wrap ((x.classes[c].steps.length : Int) - 1) = (x.classes[c].steps.length : Int) - 1 := wrap_i64 (by omega) (by omega)
  by_cases i2 : i + 1 < x.classes[c].steps.length
  rotate_left
  · simp -implicitDefEqProofs [Ctlg.brkAt, a2, encCls, Ctlg.stepsN_of a2, hw1, show ¬ (i : Int) < 0 by omega, show (x.classes[c].steps.length : Int) - 1 ≤ i by omega, show ¬ (i : Int) + 1 < x.classes[c].steps.length by omega]
  have hbk := Ctlg.brk_load (x := x) (.sl .no (x.classes.map encCls)) hbl (show c < 4 by omega) (show d < 4 by omega)
  obtain ⟨b, hbe⟩ := Int.eq_ofNat_of_zero_le (hnn c d)
  simp -implicitDefEqProofs [a2, a3, b3, encCls, hw1, show ¬ (i : Int) < 0 by omega, show ¬ (x.classes[c].steps.length : Int) - 1 ≤ i by omega, hbk, hbl, show 1 + c * 4 + d + 1 ≤ 16 + 1 by omega, hbe, H.nil]
  have hbb : b < 9223372036854775808 := by
    have hbi : inI (x.brk c d) := by
      rw [Ctlg.brk_of hbl (show c < 4 by omega) (show d < 4 by omega)]
      exact hw.2.2 _ (List.getElem_mem _)
    rw [hbe] at hbi
    simp only [inI] at hbi
    omega
  have hand := bit_and (i := i) hbb (by omega)
  rw [hand]
  have he : ((b / 2 ^ i % 2 : Nat) : Int) = 1 ↔ b / 2 ^ i % 2 = 1 := by omega
  simp only [he]
  simp [Ctlg.brkAt, Ctlg.inn, a2, b2, a3, b3, Ctlg.stepsN_of a2, hbe, bitN, show (i : Int) + 1 < x.classes[c].steps.length by omega]
end Go.Proofs

/- Units: their bounds, the program's; whether a place is open. -/
namespace Go.Proofs
open Go Go.RowKit Go.Am

theorem bounds_ok (x : Ctlg) (hx : x.good) {c d i : Int} (hc : inI c) (hd : inI d) (hi : inI i) : PCall Try.prog 45 [.agg (encCtlg x), .int .i64 c, .int .i64 d, .int .i64 i] (bndV x c d i) := by
  refine PCall.run hb45 ok45 (by simp) (pures_cons (.agg (pure_encCtlg x)) (pures_cons (.int _ _) (pures_cons (.int _ _) (pures1 (.int _ _))))) (pure_bndV _ _ _ _) ?_
  have hx' := hx
  obtain ⟨hw, h4, hs4, hnn⟩ := hx'
  have htk := x.take16 hw.2.1
  have hbl := hw.2.1
  simp -implicitDefEqProofs [encCtlg, htk, hbl]
  refine callQ_p (there_ok x hw hc) (by simp [encCtlg]) ?_
  cases ec : x.inn c
  · simp -implicitDefEqProofs [bndV, Ctlg.inb, ec]
  simp -implicitDefEqProofs [htk, hbl]
  refine callQ_p (there_ok x hw hd) (by simp [encCtlg]) ?_
  cases ed : x.inn d
  · simp -implicitDefEqProofs [bndV, Ctlg.inb, ec, ed]
  have ec' := ec
  simp only [Ctlg.inn, Bool.and_eq_true, decide_eq_true_eq] at ec'
  obtain ⟨⟨a1, a2⟩, a3⟩ := ec'
  obtain ⟨c, rfl⟩ := Int.eq_ofNat_of_zero_le a1
  have a2 : c < x.classes.length := by omega
  by_cases i1 : 0 ≤ i
  rotate_left
  · simp -implicitDefEqProofs [bndV, Ctlg.inb, i1, show i < 0 by omega]
  obtain ⟨i, rfl⟩ := Int.eq_ofNat_of_zero_le i1
  have hsl := hs4 c a2
  by_cases i2 : i < x.classes[c].steps.length
  rotate_left
  · simp -implicitDefEqProofs [bndV, Ctlg.inb, a2, i2, encCls, Ctlg.stepsN_of a2, show ¬ (i : Int) < 0 by omega, show x.classes[c].steps.length ≤ i by omega]
  have hin : x.inb c d i = true := by
    simp [Ctlg.inb, ec, ed, i2, Ctlg.stepsN_of a2]
  simp -implicitDefEqProofs [a2, encCls, show ¬ (i : Int) < 0 by omega, show ¬ x.classes[c].steps.length ≤ i by omega, bndV, hin]
  refine run_loop (fun n s h => ∃ j : Nat, n = j ∧ j ≤ i ∧ s 4 = .ptr 0 0 ∧ 0 < h.bn ∧ h.bx 0 = some ([.sl .no (x.classes.map encCls)] ++ x.breaks.map (AV.int .i64)) ∧ s 1 = .int .i64 c ∧ s 2 = .int .i64 d ∧ s 12 = .int .i64 i ∧ s 11 = .int .i64 j ∧ x.lo c d i = x.lo c d j) ?_ i ?_
  rotate_left
  · exact ⟨i, by simp [H.nil]⟩
  rintro n s h ⟨j, hn, hj, h4, h0, hb, h1, h2, h12, h11, hlo⟩ ih
  by_cases hj0 : j = 0
  focus
    subst hj0
    have h11' : s 11 = .int .i64 (x.lo c d i) := by rw [h11, hlo]; simp [Ctlg.lo, loF]
    simp -implicitDefEqProofs [h11]
  rotate_left
  focus
    obtain ⟨k, hjk⟩ : ∃ k, j = k + 1 := ⟨j - 1, by omega⟩
    have hw1 : IntKind.i64.wrap ((j : Int) - 1) = (k : Int) := by rw [wrap_i64] <;> omega
    simp -implicitDefEqProofs [h4, h0, hb, h1, h2, h11, hbl, hw1, show 0 < j by omega]
    refine callQ_p (break_ok x hx (c := c) (d := d) hc hd (i := k) (by simp only [inI]; omega)) (by simp [encCtlg, htk]) ?_
    rw [hjk] at hlo
    cases hbr : x.brkAt c d k
    · simp -implicitDefEqProofs [h11, hw1]
      exact ih k _ _ (by omega) ⟨k, rfl, by omega, by simp [h4], by simpa using h0, by simp [hb], by simp [h1], by simp [h2], by simp [h12], by simp, by
        rw [hlo]
        simp [Ctlg.lo, loF, hbr]⟩
    have h11' : s 11 = .int .i64 (x.lo c d i) := by rw [h11, hlo, hjk]; simp [Ctlg.lo, loF, hbr]
    simp -implicitDefEqProofs []
  all_goals
    have hlo2 : x.lo c d i ≤ i := loF_le _ _
    refine run_loop (fun n s h => ∃ j : Nat, n = x.classes[c].steps.length - j ∧ j < x.classes[c].steps.length ∧ s 4 = .ptr 0 0 ∧ 0 < h.bn ∧ h.bx 0 = some ([.sl .no (x.classes.map encCls)] ++ x.breaks.map (AV.int .i64)) ∧ s 1 = .int .i64 c ∧ s 2 = .int .i64 d ∧ s 11 = .int .i64 (x.lo c d i) ∧ s 12 = .int .i64 j ∧ x.hi c d i = x.hi c d j) ?_ (x.classes[c].steps.length - i) ?_
    rotate_left
    · exact ⟨i, by simp [h4, h0, hb, h1, h2, h11', h12, i2]⟩
    clear ih h4 h0 hb h1 h2 h11 h12 h11' hlo
    rintro n s h ⟨j, hn, hj, h4, h0, hb, h1, h2, h11, h12, hhi⟩ ih
    have hw1 : IntKind.i64.wrap ((j : Int) + 1) = ((j + 1 : Nat) : Int) := by rw [wrap_i64] <;> omega
    by_cases hj0 : j + 1 < x.classes[c].steps.length
    · simp -implicitDefEqProofs [h4, h0, hb, h1, h2, h12, hbl, hw1, hj0, a2, encCls, -Int.natCast_add]
      refine callQ_p (break_ok x hx (c := c) (d := d) hc hd (i := j) (by simp only [inI]; omega)) (by simp [encCtlg, htk]) ?_
      have hhj : x.hi c d j = if x.brkAt c d j then j else x.hi c d (j + 1) := by
        unfold Ctlg.hi
        simp only [Int.toNat_natCast, Ctlg.stepsN_of a2]
        obtain ⟨m, hm⟩ : ∃ m, x.classes[c].steps.length - 1 - j = m + 1 := ⟨x.classes[c].steps.length - 1 - j - 1, by omega⟩
        rw [hm, show x.classes[c].steps.length - 1 - (j + 1) = m by omega]
        rfl
      cases hbr : x.brkAt c d j
      · simp -implicitDefEqProofs [h12, hw1, -Int.natCast_add]
        exact ih (x.classes[c].steps.length - (j + 1)) _ _ (by omega) ⟨j + 1, rfl, by omega, by simp [h4], by simpa using h0, by simp [hb], by simp [h1], by simp [h2], by simp [h11], by simp, by
          rw [hhi, hhj, hbr]; rfl⟩
      · have : x.hi c d i = j := by rw [hhi, hhj, hbr]; rfl
        simp -implicitDefEqProofs [h11, h12, this]
    · have : x.hi c d i = j := by
        rw [hhi]
        unfold Ctlg.hi
        simp only [Int.toNat_natCast, Ctlg.stepsN_of a2]
        rw [show x.classes[c].steps.length - 1 - j = 0 by omega]
        rfl
      simp -implicitDefEqProofs [h4, h0, hb, h1, h11, h12, hbl, hw1, hj0, a2, encCls, this, -Int.natCast_add]

/-- Is the place before a step open? -/
def Ctlg.openAt (x : Ctlg) (c d i : Int) : Bool := x.inb c d (i - 1) && decide (i - 1 < (x.hi c d (i - 1).toNat : Int))
end Go.Proofs

/- Units: the law's own first look; catalogues that are opened and closed. -/
namespace Go.Proofs
open Go Go.RowKit Go.Am

def aliveC : Ctlg := ⟨[⟨⟨#[97]⟩, 0, List.replicate 3 ⟨[⟨5, 0, 0, 0, ⟨0, 0⟩, ⟨0, 0⟩, 0⟩], []⟩, List.replicate 3 ⟨[], []⟩, false⟩], 2 :: List.replicate 15 0⟩
theorem aliveC_good : aliveC.good where
  wf := by
    refine ⟨⟨by decide, ?_⟩, by decide, ?_⟩
    · intro y hy
      simp only [aliveC, List.mem_singleton] at hy
      subst hy
      refine ⟨by decide, by simp [inI], ⟨by decide, ?_⟩, by decide, ?_⟩
      · intro y hy
        obtain rfl := List.eq_of_mem_replicate hy
        refine ⟨⟨by decide, ?_⟩, by decide, by simp⟩
        intro y hy
        simp only [List.mem_singleton] at hy
        subst hy
        simp [Inst.wf, KeyT.wf, inI]
      · intro y hy
        obtain rfl := List.eq_of_mem_replicate hy
        exact ⟨⟨by decide, by simp⟩, by decide, by simp⟩
    · intro y hy
      simp only [aliveC, List.mem_cons, List.mem_replicate] at hy
      rcases hy with rfl | ⟨_, rfl⟩ <;> simp [inI]
  n4 := by decide
  s4 := by
    intro c h
    simp [aliveC] at h
    subst h
    simp [aliveC]
  nn := by
    intro c d
    have : ∀ k : Nat, 0 ≤ (aliveC.breaks[k]?).getD 0 := by
      intro k
      rcases h : aliveC.breaks[k]? with _ | v
      · simp
      · have := List.mem_of_getElem? h
        simp only [aliveC, List.mem_cons, List.mem_replicate] at this
        rcases this with rfl | ⟨_, rfl⟩ <;> simp
    exact this (4 * c + d)

theorem alive14_ok : PCall Try.prog 24 [] (.bool true) := by
  refine PCall.run hb24 ok24 (by simp) (by simp) (.bool _) ?_
  simp -implicitDefEqProofs []
  refine run_dreg c24_d3 ?_
  simp -implicitDefEqProofs []
  refine ⟨.sl .full (List.replicate 3 [.sl .full [], .sl .full []]), fun h => .mkval 2 48 _ _ _ .i64 .i64 3 rfl rfl (by omega) (by omega), ?_⟩
  simp -implicitDefEqProofs [H.nil]
  have hb : bndV aliveC 0 0 0 = .tup [.int .i64 0, .int .i64 1, .bool true] := by
    have h1 : aliveC.inb 0 0 0 = true := by decide
    have h2 : aliveC.lo 0 0 (0 : Int).toNat = 0 := by decide
    have h3 : aliveC.hi 0 0 (0 : Int).toNat = 1 := by decide
    rw [bndV, if_pos h1, h2, h3]; rfl
  refine callQ_p (bounds_ok aliveC aliveC_good (c := 0) (d := 0) (i := 0) (by simp [inI]) (by simp [inI]) (by simp [inI])) (by simp [encCtlg, aliveC, encCls, encStp, encInst]) ?_
  simp -implicitDefEqProofs [hb]
end Go.Proofs

/- The statement UnitsConflict: its function hands back true. -/
namespace Go.Proofs
open Go Go.RowKit Go.Am

def rdS (n : Nod) : List Sp := n.reads.map spP
def wrS (n : Nod) : List Sp := n.writes.map spP
def Nod.small (n : Nod) : Prop := n.reads.length ≤ 40 ∧ n.writes.length ≤ 40
/-- Do two nodes conflict? -/
def confl (a b : Nod) : Bool := decide (a.saga ≠ b.saga) && (meetL (wrS a) (rdS b) || meetL (wrS a) (wrS b) || meetL (rdS a) (wrS b))
theorem meetL_comm (a b : List Sp) : meetL a b = meetL b a := by
  rw [Bool.eq_iff_iff, meetL_iff, meetL_iff]
  exact ⟨fun ⟨k, h, h1, h2⟩ => ⟨k, h, h2, h1⟩, fun ⟨k, h, h1, h2⟩ => ⟨k, h, h2, h1⟩⟩
theorem confl_comm (a b : Nod) : confl a b = confl b a := by
  have e : decide (a.saga ≠ b.saga) = decide (b.saga ≠ a.saga) := by
    rw [Bool.eq_iff_iff, decide_eq_true_eq, decide_eq_true_eq]
    exact ⟨fun h e => h e.symm, fun h e => h e.symm⟩
  rw [confl, confl, e, meetL_comm (wrS a) (rdS b), meetL_comm (wrS a) (wrS b), meetL_comm (rdS a) (wrS b)]
  congr 1
  cases meetL (rdS b) (wrS a) <;> cases meetL (wrS b) (wrS a) <;> cases meetL (wrS b) (rdS a) <;> rfl
theorem encNod_sp (n : Nod) : encNod n = [.int .i64 n.saga, .int .i64 n.cls, .int .i64 n.step, .bool n.back, encL (rdS n), encL (wrS n)] := by
  rw [encNod, encL_spn, encL_spn]; rfl

set_option maxHeartbeats 1000000 in
theorem conflict_ok (a b : Nod) (ha : a.small) (hb : b.small) : PCall Try.prog 26 [.agg (encNod a), .agg (encNod b)] (.bool (confl a b)) := by
  have p := pures2 (.agg (pure_encNod a)) (.agg (pure_encNod b))
  have l1 : (rdS a).length ≤ 40 := by rw [rdS, List.length_map]; exact ha.1
  have l2 : (wrS a).length ≤ 40 := by rw [wrS, List.length_map]; exact ha.2
  have l3 : (rdS b).length ≤ 40 := by rw [rdS, List.length_map]; exact hb.1
  have l4 : (wrS b).length ≤ 40 := by rw [wrS, List.length_map]; exact hb.2
  rw [encNod_sp, encNod_sp] at p ⊢
  refine PCall.run hb26 ok26 (by simp) p (.bool _) ?_
  by_cases hs : a.saga = b.saga
  · simp -implicitDefEqProofs [H.nil, confl, hs]
  · simp -implicitDefEqProofs [H.nil, confl, hs]
    refine callQ_p (keysMeet_ok (wrS a) (rdS b) (by omega) (by omega)) (by simp [wk_encL]) ?_
    cases h1 : meetL (wrS a) (rdS b)
    · simp -implicitDefEqProofs []
      refine callQ_p (keysMeet_ok (wrS a) (wrS b) (by omega) (by omega)) (by simp [wk_encL]) ?_
      cases h2 : meetL (wrS a) (wrS b)
      · simp -implicitDefEqProofs []
        refine callQ_p (keysMeet_ok (rdS a) (wrS b) (by omega) (by omega)) (by simp [wk_encL]) ?_
        simp -implicitDefEqProofs []
      · simp -implicitDefEqProofs []
    · simp -implicitDefEqProofs []

set_option maxHeartbeats 1000000 in
theorem refConflict_ok (a b : Nod) (ha : a.small) (hb : b.small) : PCall Try.prog 25 [.agg (encNod a), .agg (encNod b)] (.bool (confl a b)) := by
  have p := pures2 (.agg (pure_encNod a)) (.agg (pure_encNod b))
  have l1 : (rdS a).length ≤ 40 := by rw [rdS, List.length_map]; exact ha.1
  have l2 : (wrS a).length ≤ 40 := by rw [wrS, List.length_map]; exact ha.2
  have l3 : (rdS b).length ≤ 40 := by rw [rdS, List.length_map]; exact hb.1
  have l4 : (wrS b).length ≤ 40 := by rw [wrS, List.length_map]; exact hb.2
  rw [encNod_sp, encNod_sp] at p ⊢
  refine PCall.run hb25 ok25 (by simp) p (.bool _) ?_
  by_cases hs : a.saga = b.saga
  · simp -implicitDefEqProofs [H.nil, confl, hs]
  · simp -implicitDefEqProofs [H.nil, confl, hs]
    rw [meet_sets, meet_sets, meet_sets]
    have o1 := refOf_ok (rdS a) (by omega)
    have o2 := refOf_ok (wrS a) (by omega)
    have o3 := refOf_ok (rdS b) (by omega)
    have o4 := refOf_ok (wrS b) (by omega)
    generalize (fun k : Nat => hasK (rdS a) k) = f1 at o1 ⊢
    generalize (fun k : Nat => hasK (wrS a) k) = f2 at o2 ⊢
    generalize (fun k : Nat => hasK (rdS b) k) = f3 at o3 ⊢
    generalize (fun k : Nat => hasK (wrS b) k) = f4 at o4 ⊢
    refine run_dreg c25_d4 ?_
    simp -implicitDefEqProofs []
    refine callD_p o1 (by simp [wk_encL]) ?_
    simp -implicitDefEqProofs []
    refine callD_p o2 (by simp [wk_encL]) ?_
    simp -implicitDefEqProofs []
    refine callD_p o3 (by simp [wk_encL]) ?_
    simp -implicitDefEqProofs []
    refine callD_p o4 (by simp [wk_encL]) ?_
    simp -implicitDefEqProofs []
    refine callQ_p (refMeet_ok f2 f3) (by simp [wk_setP]) ?_
    cases h1 : meetB f2 f3
    · simp -implicitDefEqProofs []
      refine callQ_p (refMeet_ok f2 f4) (by simp [wk_setP]) ?_
      cases h2 : meetB f2 f4
      · simp -implicitDefEqProofs []
        refine callQ_p (refMeet_ok f1 f4) (by simp [wk_setP]) ?_
        simp -implicitDefEqProofs []
      · simp -implicitDefEqProofs []
    · simp -implicitDefEqProofs []

set_option maxHeartbeats 1000000 in
theorem unitsConflict_ok (a b : Nod) : PCall Try.prog 6 [.agg (encNod a), .agg (encNod b)] (.bool true) := by
  have p := pures2 (.agg (pure_encNod a)) (.agg (pure_encNod b))
  refine PCall.run hb6 ok6 (by simp) p (.bool _) ?_
  simp -implicitDefEqProofs [H.nil]
  refine callQ_p alive14_ok (by simp) ?_
  by_cases h1 : (40 : Int) < a.reads.length
  · simp -implicitDefEqProofs [encNod, h1]
  by_cases h2 : (40 : Int) < a.writes.length
  · simp -implicitDefEqProofs [encNod, h1, h2]
  by_cases h3 : (40 : Int) < b.reads.length
  · simp -implicitDefEqProofs [encNod, h1, h2, h3]
  by_cases h4 : (40 : Int) < b.writes.length
  · simp -implicitDefEqProofs [encNod, h1, h2, h3, h4]
  have ha : a.small := ⟨by omega, by omega⟩
  have hb : b.small := ⟨by omega, by omega⟩
  simp -implicitDefEqProofs [encNod, h1, h2, h3, h4]
  refine callQ_p (refConflict_ok a b ha hb) (by simp [encNod]) ?_
  simp -implicitDefEqProofs []
  refine callQ_p (conflict_ok a b ha hb) (by simp [encNod]) ?_
  simp -implicitDefEqProofs []
  refine callQ_p (conflict_ok b a hb ha) (by simp [encNod]) ?_
  rw [confl_comm b a]
  simp -implicitDefEqProofs []
end Go.Proofs
