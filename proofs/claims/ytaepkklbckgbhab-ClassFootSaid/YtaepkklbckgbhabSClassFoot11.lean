/- What the functions that the statement reaches do: their contracts; and what follows of it. -/
import Derived.Test.YtaepkklbckgbhabSClassFoot5
import Derived.Test.YtaepkklbckgbhabSClassFoot4
import Derived.Test.YtaepkklbckgbhabSClassFoot10
/- The laws of units: parts and bounds. -/
namespace Go.Proofs
open Go Go.RowKit Go.Am

theorem lohi_same (p : Nat → Bool) {n i j : Nat} (hi : i < n) (hj1 : loF p i ≤ j) (hj2 : j ≤ hiF p (n - 1 - i) i) : loF p j = loF p i ∧ hiF p (n - 1 - j) j = hiF p (n - 1 - i) i := by
  have g1 := hiF_ge p (n - 1 - i) i
  have l1 := loF_le p i
  have hjn : j < n := by omega
  have gj := hiF_ge p (n - 1 - j) j
  have lj := loF_le p j
  have hcnt := (cntF_iff p hi hjn).2 ⟨hj1, hj2⟩
  have key : ∀ k, k < n → (loF p j ≤ k ∧ k ≤ hiF p (n - 1 - j) j ↔ loF p i ≤ k ∧ k ≤ hiF p (n - 1 - i) i) := fun k hk => by
    rw [← cntF_iff p hjn hk, ← cntF_iff p hi hk, hcnt]
  have a := (key (loF p j) (by omega)).1 ⟨by omega, by omega⟩
  have b := (key (loF p i) (by omega)).2 ⟨by omega, by omega⟩
  have c := (key (hiF p (n - 1 - j) j) (by omega)).1 ⟨by omega, by omega⟩
  have d := (key (hiF p (n - 1 - i) i) (by omega)).2 ⟨by omega, by omega⟩
  omega
theorem loF_start (p : Nat → Bool) {i : Nat} (h : i = 0 ∨ p (i - 1) = true) : loF p i = i := by
  cases i with
  | zero => rfl
  | succ i => simp at h; simp [loF, h]
theorem loF_all {p : Nat → Bool} {n i : Nat} (hi : i < n) (h : ∀ j, p j = decide (j + 1 < n)) : loF p i = i := by
  refine loF_start p ?_
  by_cases h0 : i = 0
  · exact .inl h0
  · right; rw [h]; simp; omega
theorem hiF_all {p : Nat → Bool} {n i : Nat} (hi : i < n) (h : ∀ j, p j = decide (j + 1 < n)) : hiF p (n - 1 - i) i = i := by
  by_cases h0 : i + 1 < n
  · obtain ⟨m, hm⟩ : ∃ m, n - 1 - i = m + 1 := ⟨n - 1 - i - 1, by omega⟩
    rw [hm, hiF, h i, if_pos (by simpa using h0)]
  · rw [show n - 1 - i = 0 by omega]; rfl
theorem loF_none {p : Nat → Bool} (h : ∀ j, p j = false) (i : Nat) : loF p i = 0 := by
  induction i with
  | zero => rfl
  | succ i ih => simp [loF, h, ih]
theorem hiF_none {p : Nat → Bool} (h : ∀ j, p j = false) (k i : Nat) : hiF p k i = i + k := by
  induction k generalizing i with
  | zero => rfl
  | succ k ih => simp only [hiF, h, Bool.false_eq_true, if_false]; rw [ih]; omega

theorem stN {x : Ctlg} {c : Nat} (hc : c < x.classes.length) : x.stepsN (c : Int).toNat = x.classes[c].steps.length := by rw [Int.toNat_natCast]; exact Ctlg.stepsN_of hc
theorem inn_of {x : Ctlg} (hx : x.small) {c : Nat} (hc : c < x.classes.length) : x.inn c = true := by
  have := hx.2.1
  simp only [Ctlg.inn, Bool.and_eq_true, decide_eq_true_eq]
  omega
theorem bndV_of {x : Ctlg} (hx : x.small) {c d : Nat} (hc : c < x.classes.length) (hd : d < x.classes.length) {j : Nat} (hj : j < x.classes[c].steps.length) : bndV x c d j = .tup [.int .i64 (x.lo c d j), .int .i64 (x.hi c d j), .bool true] := by
  have h1 : x.inb c d j = true := by
    simp only [Ctlg.inb, inn_of hx hc, inn_of hx hd, stN hc, Bool.and_eq_true, decide_eq_true_eq]
    refine ⟨⟨⟨?_, ?_⟩, ?_⟩, ?_⟩ <;> first | trivial | omega
  rw [bndV, if_pos h1, Int.toNat_natCast]
theorem bndV_open {x : Ctlg} (hx : x.small) {c d : Nat} (hc : c < x.classes.length) (hd : d < x.classes.length) {j : Nat} (hj : j < x.classes[c].steps.length) : bndV (openOf x) c d j = .tup [.int .i64 j, .int .i64 j, .bool true] := by
  have ho : (openOf x).small := ⟨hx.1, hx.2.1, hx.2.2.1, turnL_len _ _ _⟩
  rw [bndV_of (x := openOf x) ho hc hd hj]
  have h := open_at hx hc hd
  have e1 : (openOf x).lo c d j = j := loF_all hj h
  have e2 : (openOf x).hi c d j = j := by
    unfold Ctlg.hi
    rw [stN (x := openOf x) hc]
    exact hiF_all hj h
  rw [e1, e2]
theorem bndV_closed {x : Ctlg} (hx : x.small) {c d : Nat} (hc : c < x.classes.length) (hd : d < x.classes.length) {j : Nat} (hj : j < x.classes[c].steps.length) : bndV (closedOf x) c d j = .tup [.int .i64 0, .int .i64 (x.classes[c].steps.length - 1 : Nat), .bool true] := by
  have ho : (closedOf x).small := ⟨hx.1, hx.2.1, hx.2.2.1, by simp [closedOf, Ctlg.with]⟩
  rw [bndV_of (x := closedOf x) ho hc hd hj]
  have h := fun j => closed_at x c d j
  have e1 : (closedOf x).lo c d j = 0 := loF_none h j
  have e2 : (closedOf x).hi c d j = x.classes[c].steps.length - 1 := by
    unfold Ctlg.hi
    rw [stN (x := closedOf x) hc, hiF_none h]
    show j + (x.classes[c].steps.length - 1 - j) = x.classes[c].steps.length - 1
    omega
  rw [e1, e2]; rfl
theorem lohi_of {x : Ctlg} (_ : x.small) {c d : Nat} (hc : c < x.classes.length) {i j : Nat} (hi : i < x.classes[c].steps.length) (h1 : x.lo c d i ≤ j) (h2 : j ≤ x.hi c d i) : x.lo c d j = x.lo c d i ∧ x.hi c d j = x.hi c d i := by
  unfold Ctlg.lo Ctlg.hi at *
  rw [stN hc] at *
  exact lohi_same _ hi h1 h2
theorem hi_lt {x : Ctlg} (_ : x.small) {c d : Nat} (hc : c < x.classes.length) {i : Nat} (hi : i < x.classes[c].steps.length) : i ≤ x.hi c d i ∧ x.hi c d i < x.classes[c].steps.length := by
  unfold Ctlg.hi
  rw [stN hc]
  have := hiF_ge (fun j : Nat => x.brkAt c d j) (x.classes[c].steps.length - 1 - i) i
  omega
theorem lo_next {x : Ctlg} (_ : x.small) {c d : Nat} (hc : c < x.classes.length) {i : Nat} (hi : i < x.classes[c].steps.length) (hn : x.hi c d i + 1 < x.classes[c].steps.length) : x.lo c d (x.hi c d i + 1) = x.hi c d i + 1 := by
  have h := hiF_at (fun j : Nat => x.brkAt c d j) (x.classes[c].steps.length - 1 - i) i
  have e : x.hi c d i = hiF (fun j : Nat => x.brkAt c d j) (x.classes[c].steps.length - 1 - i) i := by
    unfold Ctlg.hi; rw [stN hc]
  rw [← e] at h
  refine loF_start _ ?_
  rcases h with h | h
  · omega
  · right; simpa using h

end Go.Proofs

/- The law of units: bounds. -/
namespace Go.Proofs
open Go Go.RowKit Go.Am

theorem bnd_false (x : Ctlg) {c d i : Int} (h : x.inb c d i = false) : bndV x c d i = .tup [.int .i64 0, .int .i64 0, .bool false] := by simp [bndV, h]
theorem inb_dest {x : Ctlg} {c d i : Int} (h : x.inb c d i = true) : ∃ (c' d' j : Nat) (hc : c' < x.classes.length), c = c' ∧ d = d' ∧ i = j ∧ d' < x.classes.length ∧ j < x.classes[c'].steps.length := by
  simp only [Ctlg.inb, Ctlg.inn, Bool.and_eq_true, decide_eq_true_eq] at h
  obtain ⟨⟨⟨⟨⟨a1, a2⟩, _⟩, ⟨b1, b2⟩, _⟩, i1⟩, i2⟩ := h
  obtain ⟨c, rfl⟩ := Int.eq_ofNat_of_zero_le a1
  obtain ⟨d, rfl⟩ := Int.eq_ofNat_of_zero_le b1
  obtain ⟨i, rfl⟩ := Int.eq_ofNat_of_zero_le i1
  have hc : c < x.classes.length := by omega
  rw [Int.toNat_natCast, Ctlg.stepsN_of hc] at i2
  exact ⟨c, d, i, hc, rfl, rfl, rfl, by omega, by omega⟩

theorem bnd_true (x : Ctlg) {c d i : Int} (h : x.inb c d i = true) : bndV x c d i = .tup [.int .i64 (x.lo c d i.toNat), .int .i64 (x.hi c d i.toNat), .bool true] := by simp [bndV, h]
theorem open_of0 {x : Ctlg} {c d i : Int} (h : x.inb c d (i - 1) = false) : x.openAt c d i = false := by simp [Ctlg.openAt, h]
theorem open_of1 {x : Ctlg} {c d i : Int} (h : x.inb c d (i - 1) = true) : x.openAt c d i = decide (i ≤ (x.hi c d (i - 1).toNat : Int)) := by
  rw [Ctlg.openAt, h, Bool.true_and, Bool.eq_iff_iff, decide_eq_true_eq, decide_eq_true_eq]
  omega
theorem open_ofn (x : Ctlg) (c d : Int) {i : Int} (h : i ≤ 0) : x.openAt c d i = false := by
  have : decide (0 ≤ i - 1) = false := by simp; omega
  rw [Ctlg.openAt, Ctlg.inb, this]; simp

end Go.Proofs

/- Spans of a node; what is more than the statements look at. -/
namespace Go.Proofs
open Go Go.RowKit Go.Am

def spnOK (s : Spn) : Bool := decide (0 ≤ s.lo) && decide (s.lo ≤ s.hi) && decide (s.hi ≤ 999)
def spansOK (l : List Spn) : Bool := decide (l.length ≤ 40) && l.all spnOK

theorem keyMay_ok (s : Spn) : PCall Try.prog 92 [.agg (encSpn s)] (.bool (spnOK s)) := by
  refine PCall.run hb92 ok92 (by simp) (pures1 (.agg (pure_encSpn s))) (.bool _) ?_
  by_cases h1 : 0 ≤ s.lo
  rotate_left
  · simp -implicitDefEqProofs [encSpn, H.nil, spnOK, h1]
  by_cases h2 : s.lo ≤ s.hi
  rotate_left
  · simp -implicitDefEqProofs [encSpn, H.nil, spnOK, h1, h2]
  simp -implicitDefEqProofs [encSpn, H.nil, spnOK, h1, h2]

/-! ### More than the statements look at -/
theorem any_at {α : Type} {l : List α} {p : α → Bool} {j : Nat} (hj : j < l.length) (h : p l[j] = true) : l.any p = true := by
  rw [List.any_eq_true]; exact ⟨_, List.getElem_mem hj, h⟩
theorem any_none {α : Type} {l : List α} {p : α → Bool} {j : Nat} (hj : l.length ≤ j) (h : ∀ i (hi : i < l.length), i < j → p l[i] = false) : l.any p = false := by
  rw [List.any_eq_false]
  intro y hy
  obtain ⟨i, hi, rfl⟩ := List.mem_iff_getElem.1 hy
  simp [h i hi (by omega)]
def bigS (s : Stp) : Bool := decide (40 < s.code.length) || decide (40 < s.foot.length)
def bigC (c : Cls) : Bool := decide (300 < c.name.size) || decide (20 < c.steps.length) || decide (20 < c.comps.length) || (c.steps ++ c.comps).any bigS
def bigX (x : Ctlg) : Bool := x.classes.any bigC || decide (12 < x.classes.length)
def bigN (n : Nod) : Bool := decide (60 < n.reads.length) || decide (60 < n.writes.length)
def bigH (x : Ctlg) (l : List Nod) : Bool := l.any bigN || (bigX x || decide (110 < l.length))

theorem great11_ok (c : Cls) (hc : c.wf) : PCall Try.prog 17 [.agg (encCls c)] (.bool (bigC c)) := by
  refine PCall.run hb17 ok17 (by simp) (pures1 (.agg (pure_encCls c))) (.bool _) ?_
  by_cases h1 : (300 : Int) < c.name.size
  · have hb : bigC c = true := by simp [bigC, show 300 < c.name.size by omega]
    simp -implicitDefEqProofs [encCls, H.nil, h1, hb]
  by_cases h2 : (20 : Int) < c.steps.length
  · have hb : bigC c = true := by simp [bigC, show 20 < c.steps.length by omega]
    simp -implicitDefEqProofs [encCls, H.nil, h1, h2, hb]
  by_cases h3 : (20 : Int) < c.comps.length
  · have hb : bigC c = true := by simp [bigC, show 20 < c.comps.length by omega]
    simp -implicitDefEqProofs [encCls, H.nil, h1, h2, h3, hb]
  have hb : bigC c = (c.steps ++ c.comps).any bigS := by simp [bigC, show ¬ 20 < c.comps.length by omega, show ¬ 20 < c.steps.length by omega, show ¬ 300 < c.name.size by omega]
  have hlen : (c.steps ++ c.comps).length ≤ 40 := by simp; omega
  generalize hL : c.steps ++ c.comps = L at hb hlen
  simp -implicitDefEqProofs [encCls, H.nil, h1, h2, h3]
  refine run_dreg c17_d4 ?_
  simp -implicitDefEqProofs []
  refine appQ_tok (t := .full) (es := []) trivial (by simp) (es2 := c.steps.map encStp) (by simp [srcA, encStp]) (by simp; omega) fun t' h' q1 q2 q3 q4 => ?_
  have hb0 : h'.bx 0 = some (encCls c) := by rw [q3.bx 0 (by simp) (fun h => h)]; simp [encCls]
  rw [encCls] at hb0
  have hn0 : 0 < h'.bn := by rw [q4]; simp
  simp -implicitDefEqProofs [hb0, hn0]
  refine appQ_tok (t := t') (es := c.steps.map encStp) (by simpa using q1) (by simp [encStp]) (es2 := c.comps.map encStp) (by simp [srcA, encStp]) (by simp; omega) fun t2 h2 r1 r2 r3 r4 => ?_
  have hb1 : h2.bx 0 = some (encCls c) := by rw [r3.bx 0 hn0 (fun h => h), hb0]; rfl
  rw [encCls] at hb1
  have hn1 : 0 < h2.bn := by rw [r4]; exact hn0
  rw [← List.map_append, hL]
  simp -implicitDefEqProofs [hb0, hn0]
  refine run_loop (fun n s h => ∃ j : Nat, n = L.length - j ∧ j ≤ L.length ∧ s 3 = .sl t2 (L.map encStp) ∧ s 4 = .int .i64 j ∧ ∀ i (hi : i < L.length), i < j → bigS L[i] = false) ?_ L.length ?_
  rotate_left
  · exact ⟨0, by simp⟩
  rintro n s h ⟨j, hn, hj, s3, s4, hall⟩ ih
  by_cases hlt : j < L.length
  · have hyes : bigS L[j] = true → bigC c = true := fun h => hb.trans (any_at hlt h)
    have hno : bigS L[j] = false → ∀ i (hi : i < L.length), i < j + 1 → bigS L[i] = false := fun h i hi hij => by
      by_cases e : i = j
      · subst e; exact h
      · exact hall i hi (by omega)
    by_cases g1 : (40 : Int) < L[j].code.length
    · have := hyes (by simp [bigS, show 40 < L[j].code.length by omega])
      simp -implicitDefEqProofs [s3, s4, hlt, encStp, g1, this]
    by_cases g2 : (40 : Int) < L[j].foot.length
    · have := hyes (by simp [bigS, show 40 < L[j].foot.length by omega])
      simp -implicitDefEqProofs [s3, s4, hlt, encStp, g1, g2, this]
    have hq := hno (by simp [bigS]; omega)
    simp -implicitDefEqProofs [s3, s4, hlt, encStp, g1, g2, inc_i64 hlt (by omega), -Int.natCast_add]
    exact ih (L.length - (j + 1)) _ _ (by omega) ⟨j + 1, rfl, by omega, by simp [s3], by simp, hq⟩
  · have := hb.trans (any_none (by omega) hall)
    simp -implicitDefEqProofs [s3, s4, hlt, this]

end Go.Proofs

/- What all steps of a class read and write. -/
namespace Go.Proofs
open Go Go.RowKit Go.Am

def footC (l : List Stp) (a : List Int) (w : Bool) : List Sp := l.flatMap fun s => spansF s.foot a w
/-- The spans of a step's footprint, where it may be. -/
def footG (l : List Stp) (a : List Int) (w : Bool) : List Sp := l.flatMap fun s => if rightB s.foot a = true then spansF s.foot a w else []
theorem plainL_union (a b : List Sp) : plainL (plainL a ++ plainL b) = plainL (a ++ b) := plainL_congr fun k => by
  rw [hasK_app, hasK_app, plainL_has, plainL_has]
theorem readsF_G (l : List SpanT) (a : List Int) : readsF l a = plainL (if rightB l a = true then spansF l a false else []) := by
  rw [readsF]; split
  · rfl
  · exact plainL_nil.symm
theorem writesF_G (l : List SpanT) (a : List Int) : writesF l a = plainL (if rightB l a = true then spansF l a true else []) := by
  rw [writesF]; split
  · rfl
  · exact plainL_nil.symm
theorem footG_succ {l : List Stp} {j : Nat} (hj : j < l.length) (a : List Int) (w : Bool) : footG (l.take (j + 1)) a w = footG (l.take j) a w ++ if rightB l[j].foot a = true then spansF l[j].foot a w else [] := by
  rw [List.take_succ_eq_append_getElem hj, footG, List.flatMap_append]
  simp [footG]
def footOK (c : Cls) (a : List Int) : Bool := clsMay c && decide ((a.length : Int) = c.args) && argsOK a
def footR (c : Cls) (a : List Int) (w : Bool) : List Sp := if footOK c a = true then plainL (footC c.steps a w) else []
theorem cls_foot {c : Cls} (hm : clsMay c = true) {s : Stp} (hs : s ∈ c.steps) : footMay s.foot c.args = true := by
  simp only [clsMay, Bool.and_eq_true, decide_eq_true_eq, List.all_eq_true] at hm
  obtain ⟨⟨_, hl⟩, hall⟩ := hm
  obtain ⟨i, hi, rfl⟩ := List.mem_iff_getElem.1 hs
  have hz : i < (c.steps.zip c.comps).length := by rw [List.length_zip]; omega
  have := hall _ (List.getElem_mem hz)
  rw [List.getElem_zip, stepMay, Bool.and_eq_true, Bool.and_eq_true, Bool.and_eq_true] at this
  exact this.1.1.2
theorem footG_all {c : Cls} {a : List Int} (hm : clsMay c = true) (hl : (a.length : Int) = c.args) (w : Bool) : plainL (footG c.steps a w) = footR c a w := by
  rw [footR, footOK, hm, decide_eq_true hl]
  cases ha : argsOK a
  · have e : footG c.steps a w = [] := by
      rw [footG, List.flatMap_eq_nil_iff]
      intro s _
      rw [rightB, ha]; rfl
    rw [e]; exact plainL_nil
  · have e : footG c.steps a w = footC c.steps a w := by
      rw [footG, footC]
      have key : ∀ l : List Stp, (∀ s ∈ l, s ∈ c.steps) → (l.flatMap fun s => if rightB s.foot a = true then spansF s.foot a w else []) = l.flatMap fun s => spansF s.foot a w := fun l => by
        induction l with
        | nil => intro _; rfl
        | cons s l ih =>
          intro h
          have h1 : rightB s.foot a = true := by rw [rightB, ha, hl, cls_foot hm (h s (by simp))]; rfl
          rw [List.flatMap_cons, List.flatMap_cons, ih fun x hx => h x (by simp [hx]), if_pos h1]
      exact key _ fun _ h => h
    rw [e]; rfl

set_option maxHeartbeats 2000000 in
theorem classFoot_run (c : Cls) (hc : c.wf) (a : List Int) (ha : a.length ≤ 1000000) : PCall Try.prog 18 [.agg (encCls c), encA a] (.tup [encL (footR c a false), encL (footR c a true)]) := by
  refine PCall.run hb18 ok18 (by simp) (pures2 (.agg (pure_encCls c)) (pure_encA a)) (.tup (pures2 (pure_encL _) (pure_encL _))) ?_
  simp -implicitDefEqProofs [encCls, H.nil]
  refine callQ_p (classMay_ok c hc) (by simp [encCls]) ?_
  cases hm : clsMay c
  · have e : ∀ w, footR c a w = [] := fun w => by rw [footR, footOK, hm]; rfl
    simp -implicitDefEqProofs [e, encL]
  by_cases hl : (a.length : Int) = c.args
  rotate_left
  · have e : ∀ w, footR c a w = [] := fun w => by rw [footR, footOK, decide_eq_false hl, Bool.and_false]; rfl
    simp -implicitDefEqProofs [e, encL, encA, hl]
  have hst := (clsMay_small hm).2.1
  rw [← footG_all hm hl, ← footG_all hm hl]
  have e1 : encA a = .sl .no (a.map encN) := rfl
  simp -implicitDefEqProofs [e1, hl]
  rw [← e1]
  refine run_loop (fun n s h => ∃ (j : Nat) (t u : Tok), n = c.steps.length - j ∧ j ≤ c.steps.length ∧ s 1 = encA a ∧ s 6 = .sl t ((plainL (footG (c.steps.take j) a false)).map avP) ∧ s 7 = .sl u ((plainL (footG (c.steps.take j) a true)).map avP) ∧ s 24 = .sl .no (c.steps.map encStp) ∧ s 25 = .int .i64 c.steps.length ∧ s 26 = .int .i64 j) ?_ c.steps.length ?_
  rotate_left
  · exact ⟨0, .full, .full, by simp [footG, plainL_nil]⟩
  rintro n s h ⟨j, t, u, hn, hj, s1, s6, s7, s24, s25, s26⟩ ih
  by_cases hlt : j < c.steps.length
  · have i1 := idxOf_nat (k := .i64) hlt
    have hsw := hc.2.2.1.2 _ (List.getElem_mem hlt)
    have g1 := footG_succ hlt a false
    have g2 := footG_succ hlt a true
    have l1 := plainL_len (footG (c.steps.take j) a false)
    have l2 := plainL_len (footG (c.steps.take j) a true)
    have u1 : plainL (plainL (footG (c.steps.take j) a false) ++ readsF c.steps[j].foot a) = plainL (footG (c.steps.take (j + 1)) a false) := by rw [readsF_G, plainL_union, g1]
    have u2 : plainL (plainL (footG (c.steps.take j) a true) ++ writesF c.steps[j].foot a) = plainL (footG (c.steps.take (j + 1)) a true) := by rw [writesF_G, plainL_union, g2]
    have l3 : (readsF c.steps[j].foot a).length ≤ 500 := by rw [readsF_G]; exact plainL_len _
    have l4 : (writesF c.steps[j].foot a).length ≤ 500 := by rw [writesF_G]; exact plainL_len _
    have hf4 : c.steps[j].foot.length ≤ 1000000 := by
      have := ((clsMay_small hm).2.2.2.1 _ (List.getElem_mem hlt)).2
      omega
    simp -implicitDefEqProofs [s1, s24, s25, s26, hlt, encStp]
    refine callQ_p (footSpans_run c.steps[j].foot a hf4 ha) (by simp [wk_encA]) ?_
    simp -implicitDefEqProofs [s6]
    refine callQ_p (keysUnion_ok (plainL (footG (c.steps.take j) a false)) (readsF c.steps[j].foot a) (by omega)) (by simp [encL, avP]) ?_
    rw [u1]
    simp -implicitDefEqProofs [s7]
    refine callQ_p (keysUnion_ok (plainL (footG (c.steps.take j) a true)) (writesF c.steps[j].foot a) (by omega)) (by simp [encL, avP]) ?_
    rw [u2]
    simp -implicitDefEqProofs [s26, inc_i64 hlt (by omega), -Int.natCast_add]
    exact ih (c.steps.length - (j + 1)) _ _ (by omega) ⟨j + 1, .no, .no, rfl, by omega, by simp [s1], by simp [encL], by simp [encL], by simp [s24], by simp [s25], by simp⟩
  · obtain rfl : j = c.steps.length := by omega
    rw [List.take_length] at s6 s7
    simp -implicitDefEqProofs [s6, s7, s25, s26, encL, avP]

theorem footC_succ {l : List Stp} {j : Nat} (hj : j < l.length) (a : List Int) (w : Bool) : footC (l.take (j + 1)) a w = footC (l.take j) a w ++ spansF l[j].foot a w := by
  rw [List.take_succ_eq_append_getElem hj, footC, List.flatMap_append]
  simp [footC]
def mixF (f g : Nat → Bool) (k : Nat) (i : Nat) : Bool := f i || (decide (i < k) && g i)
theorem mixF_put (f g : Nat → Bool) {k : Nat} (hk : k < 1000) {v : Bool} (hv : (f k || g k) = v) : List.take k (setA (mixF f g k)) ++ .bool v :: List.drop (k + 1) (setA (mixF f g k)) = setA (mixF f g (k + 1)) := by
  rw [setA_put _ hk]
  refine setA_congr fun i _ => ?_
  by_cases h : i = k
  · subst h
    rw [if_pos rfl, ← hv]
    simp [mixF]
  · rw [if_neg h]
    simp only [mixF]
    have e : decide (i < k) = decide (i < k + 1) := by
      rw [Bool.eq_iff_iff, decide_eq_true_eq, decide_eq_true_eq]; omega
    rw [e]

set_option maxHeartbeats 2000000 in
theorem refFoot_run (c : Cls) (a : List Int) (w : Bool) (hok : footOK c a = true) : PCall Try.prog 25 [.agg (encCls c), encA a, .bool w] (setP fun k => hasK (footC c.steps a w) k) := by
  refine PCall.run' hb25 ok25 (by simp) (pures3 (.agg (pure_encCls c)) (pure_encA a) (.bool _)) (pure_setP _) (wk_setP _) ?_
  rw [footOK, Bool.and_eq_true, Bool.and_eq_true, decide_eq_true_eq] at hok
  obtain ⟨⟨hm, hl⟩, hargs⟩ := hok
  have hst := (clsMay_small hm).2.1
  simp -implicitDefEqProofs [-List.reduceReplicate, setA_zero, H.nil, encCls]
  refine run_loop (fun n s h => ∃ j : Nat, n = c.steps.length - j ∧ j ≤ c.steps.length ∧ s 1 = encA a ∧ s 2 = .bool w ∧ s 3 = .ptr 0 0 ∧ s 7 = .ptr 1 0 ∧ s 8 = .int .i64 j ∧ 1 < h.bn ∧ h.bx 0 = some (encCls c) ∧ h.bx 1 = some (setA fun k => hasK (footC (c.steps.take j) a w) k)) ?_ c.steps.length ?_
  rotate_left
  · exact ⟨0, by simp [encCls, footC, hasK_nil]⟩
  rintro n s h ⟨j, hn, hj, s1, s2, s3, s7, s8, b1, c0, c1⟩ ih
  have b0 : 0 < h.bn := by omega
  rw [encCls] at c0
  by_cases hlt : j < c.steps.length
  · have i1 := idxOf_nat (k := .i64) hlt
    have hr : rightB c.steps[j].foot a = true := by rw [rightB, hargs, hl, cls_foot hm (List.getElem_mem hlt)]; rfl
    have o1 := refSet_ok c.steps[j].foot a w hr
    have hsu : ∀ k : Nat, hasK (footC (c.steps.take (j + 1)) a w) k = (hasK (footC (c.steps.take j) a w) k || hasK (spansF c.steps[j].foot a w) k) := fun k => by rw [footC_succ hlt, hasK_app]
    generalize hf : (fun k : Nat => hasK (footC (c.steps.take j) a w) k) = f at c1
    generalize hg : (fun k : Nat => hasK (spansF c.steps[j].foot a w) k) = g at o1
    have ef : ∀ k : Nat, hasK (footC (c.steps.take j) a w) k = f k := fun k => by rw [← hf]
    have eg : ∀ k : Nat, hasK (spansF c.steps[j].foot a w) k = g k := fun k => by rw [← hg]
    simp only [ef, eg] at hsu
    simp -implicitDefEqProofs [s1, s2, s3, s8, b0, c0, hlt, encStp]
    refine callQ_p o1 (by simp [wk_encA]) ?_
    simp -implicitDefEqProofs []
    refine run_loop (fun n s h => ∃ k : Nat, n = 1000 - k ∧ k ≤ 1000 ∧ s 1 = encA a ∧ s 2 = .bool w ∧ s 3 = .ptr 0 0 ∧ s 7 = .ptr 1 0 ∧ s 8 = .int .i64 j ∧ s 9 = setP g ∧ s 10 = .int .i64 k ∧ 1 < h.bn ∧ h.bx 0 = some (encCls c) ∧ h.bx 1 = some (setA (mixF f g k))) ?_ 1000 ?_
    rotate_left
    · have e : setA f = setA (mixF f g 0) := setA_congr fun i _ => by simp [mixF]
      exact ⟨0, by simp [s1, s2, s3, s7, s8, b1, c0, c1, e, encCls]⟩
    rintro n s h ⟨k, hn, hk, s1, s2, s3, s7, s8, s9, s10, b1, c0, c1⟩ ih2
    by_cases hkt : k < 1000
    · have hki : (k : Int) < 1000 := by omega
      have i2 := idxOf_nat (k := .i64) hkt
      have g1 := setA_at (mixF f g k) hkt
      have g2 := setA_at g hkt
      have g0 : mixF f g k k = f k := by simp [mixF]
      rw [g0] at g1
      have hp := mixF_put f g hkt rfl
      cases hfk : f k <;> cases hgk : g k <;> simp only [hfk, hgk, Bool.or_false, Bool.or_true] at g1 g2 hp <;>
      · simp -implicitDefEqProofs [s7, s9, s10, hki, setP, g1, g2, b1, c1, hp, show k + 1 ≤ 1000 by omega, show 1 ≤ 1000 - k by omega, inc_i64 hkt (by omega), -Int.natCast_add]
        exact ih2 (1000 - (k + 1)) _ _ (by omega) ⟨k + 1, rfl, by omega, by simp [s1], by simp [s2], by simp [s3], by simp [s7], by simp [s8], by simp [s9, setP], by simp, by simpa using b1, by simp [c0], by simp⟩
    · obtain rfl : k = 1000 := by omega
      simp -implicitDefEqProofs [s8, s10, inc_i64 hlt (by omega), -Int.natCast_add]
      refine ih (c.steps.length - (j + 1)) _ _ (by omega) ⟨j + 1, rfl, by omega, by simp [s1], by simp [s2], by simp [s3], by simp [s7], by simp, b1, c0, ?_⟩
      rw [c1]
      exact congrArg some (setA_congr fun i hi => by rw [hsu]; simp [mixF, hi])
  · obtain rfl : j = c.steps.length := by omega
    rw [List.take_length] at c1
    simp -implicitDefEqProofs [s3, s7, s8, b0, c0]
    exact ⟨_, Gh.rop b1 c1⟩
end Go.Proofs

/- The statement ClassFoot: its function hands back true. -/
namespace Go.Proofs
open Go Go.RowKit Go.Am

def aliveF : Cls := ⟨⟨#[97]⟩, 0, [⟨[⟨5, 0, 0, 0, ⟨0, 0⟩, ⟨0, 0⟩, 0⟩], []⟩], [⟨[], []⟩], false⟩
theorem aliveF_wf : aliveF.wf := by
  refine ⟨by decide, by simp [inI, aliveF], ⟨by decide, ?_⟩, by decide, ?_⟩
  · intro y hy
    simp only [aliveF, List.mem_singleton] at hy
    subst hy
    refine ⟨⟨by decide, ?_⟩, by decide, by simp⟩
    intro y hy
    simp only [List.mem_singleton] at hy
    subst hy
    simp [Inst.wf, KeyT.wf, inI]
  · intro y hy
    simp only [aliveF, List.mem_singleton] at hy
    subst hy
    exact ⟨⟨by decide, by simp⟩, by decide, by simp⟩
theorem alive11f_ok : PCall Try.prog 16 [] (.bool true) := by
  refine PCall.run hb16 ok16 (by simp) (by simp) (.bool _) ?_
  have hm : clsMay aliveF = true := by decide
  simp -implicitDefEqProofs []
  refine callQ_p (classMay_ok aliveF aliveF_wf) (by simp [encCls, aliveF, encStp, encInst]) ?_
  simp -implicitDefEqProofs [hm]

set_option maxHeartbeats 2000000 in
theorem classFoot_ok (c d : Cls) (a : List Int) (hc : c.wf) (hd : d.wf) : PCall Try.prog 5 [.agg (encCls c), .agg (encCls d), .sl .no (a.map encN)] (.bool true) := by
  refine PCall.run hb5 ok5 (by simp) (pures3 (.agg (pure_encCls c)) (.agg (pure_encCls d)) (pure_encA a)) (.bool _) ?_
  have lc : (encCls c).length = 5 := rfl
  have tc : List.take 5 (encCls c) = encCls c := rfl
  have ld : (encCls d).length = 5 := rfl
  have td : List.take 5 (encCls d) = encCls d := rfl
  have ag1 : List.take 1 (encCls c).tail = [.int .i64 c.args] := rfl
  simp -implicitDefEqProofs [H.nil]
  refine callQ_p alive11f_ok (by simp) ?_
  simp -implicitDefEqProofs [lc, tc]
  refine callQ_p (great11_ok c hc) (by simp) ?_
  cases h1 : bigC c
  rotate_left
  · simp -implicitDefEqProofs []
  simp -implicitDefEqProofs [ld, td]
  refine callQ_p (great11_ok d hd) (by simp) ?_
  cases h2 : bigC d
  rotate_left
  · simp -implicitDefEqProofs []
  by_cases ha : (10 : Int) < a.length
  · simp -implicitDefEqProofs [ha]
  have ha2 : a.length ≤ 10 := by omega
  have e0 : AV.sl .no (a.map encN) = encA a := rfl
  simp -implicitDefEqProofs [ha, lc, tc]
  refine callQ_p (classFoot_run c hc a (by omega)) (by simp [encA]) ?_
  simp -implicitDefEqProofs []
  refine run_dreg c5_d7 ?_
  simp -implicitDefEqProofs [lc, tc, ld, td]
  refine lcallQ_p (classSameG_ok c d hc hd) (by simp) ?_
  simp -implicitDefEqProofs [lc, tc, ld, td]
  refine lcallQ_p (refSameG_ok c d hc hd) (by simp) ?_
  simp -implicitDefEqProofs [lc, tc]
  refine callQ_p (refClsMay_ok c hc) (by simp) ?_
  have l1 : (footR c a false).length ≤ 500 := by rw [footR]; split; exact plainL_len _; simp
  have l2 : (footR c a true).length ≤ 500 := by rw [footR]; split; exact plainL_len _; simp
  cases hm : clsMay c
  · have e : ∀ w, footR c a w = [] := fun w => by rw [footR, footOK, hm]; rfl
    simp -implicitDefEqProofs [e, encL]
  by_cases hl : (a.length : Int) = c.args
  rotate_left
  · have e : ∀ w, footR c a w = [] := fun w => by rw [footR, footOK, decide_eq_false hl, Bool.and_false]; rfl
    simp -implicitDefEqProofs [lc, ag1, hl, e, encL]
  simp -implicitDefEqProofs [lc, ag1, hl]
  refine callQ_p (refArgs_ok a (by omega)) (by simp [encA]) ?_
  cases hg : argsOK a
  · have e : ∀ w, footR c a w = [] := fun w => by rw [footR, footOK, hg, Bool.and_false]; rfl
    simp -implicitDefEqProofs [e, encL]
  have hok : footOK c a = true := by rw [footOK, hm, decide_eq_true hl, hg]; rfl
  have e : ∀ w, footR c a w = plainL (footC c.steps a w) := fun w => by rw [footR, if_pos hok]
  have o1 := refFoot_run c a false hok
  have o2 := refFoot_run c a true hok
  have f1 : plainOf (fun k => hasK (footC c.steps a false) k) = footR c a false := (e false).symm
  have f2 : plainOf (fun k => hasK (footC c.steps a true) k) = footR c a true := (e true).symm
  generalize (fun k : Nat => hasK (footC c.steps a false) k) = g1 at o1 f1
  generalize (fun k : Nat => hasK (footC c.steps a true) k) = g2 at o2 f2
  simp -implicitDefEqProofs [lc, tc]
  refine callQ_p o1 (by simp [encA]) ?_
  simp -implicitDefEqProofs []
  refine callQ_p (refPlain_ok g1) (by simp [wk_setP]) ?_
  rw [f1]
  simp -implicitDefEqProofs []
  refine callQ_p (refSame_ok (footR c a false) (footR c a false) (by omega) (by omega)) (by simp [wk_encL]) ?_
  simp -implicitDefEqProofs [lc, tc]
  refine callQ_p o2 (by simp [encA]) ?_
  simp -implicitDefEqProofs []
  refine callQ_p (refPlain_ok g2) (by simp [wk_setP]) ?_
  rw [f2]
  simp -implicitDefEqProofs []
  refine callQ_p (refSame_ok (footR c a true) (footR c a true) (by omega) (by omega)) (by simp [wk_encL]) ?_
  simp -implicitDefEqProofs []
end Go.Proofs
