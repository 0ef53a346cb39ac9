/- What the functions that the statement reaches do: their contracts; and what follows of it. -/
import Derived.Test.YtaepkklbckgbhaaDoorSProgWords9
import Derived.Test.YtaepkklbckgbhaaDoorSProgWords8
import Derived.Test.YtaepkklbckgbhaaDoorSProgWords4
import Derived.Test.YtaepkklbckgbhaaDoorSProgWords3
import Derived.Test.YtaepkklbckgbhaaDoorK4
/- Breakpoints that are counted; a catalogue's breakpoints that may be: plain laws. -/
namespace Go.Proofs
open Go Go.RowKit Go.Am

def sumN (f : Nat → Nat) : Nat → Nat
  | 0 => 0
  | k + 1 => sumN f k + f k
theorem sumN_le {f g : Nat → Nat} : ∀ k : Nat, (∀ j, j < k → f j ≤ g j) → sumN f k ≤ sumN g k
  | 0, _ => Nat.le_refl _
  | k + 1, h => Nat.add_le_add (sumN_le k fun j hj => h j (by omega)) (h k (by omega))
theorem sumN_congr {f g : Nat → Nat} : ∀ k : Nat, (∀ j, j < k → f j = g j) → sumN f k = sumN g k
  | 0, _ => rfl
  | k + 1, h => by rw [sumN, sumN, sumN_congr k fun j hj => h j (by omega), h k (by omega)]
theorem sumN_bound {f : Nat → Nat} {m : Nat} (hf : ∀ j, f j ≤ m) : ∀ k : Nat, sumN f k ≤ m * k
  | 0 => Nat.zero_le _
  | k + 1 => by
    have := sumN_bound hf k
    have := hf k
    rw [sumN, Nat.mul_add]; omega
theorem sumN_zero {f : Nat → Nat} (k : Nat) (h : ∀ j, j < k → f j = 0) : sumN f k = 0 := by
  have := sumN_congr (g := fun _ => 0) k h
  rw [this]
  have : ∀ k, sumN (fun _ => 0) k = 0 := fun k => by
    induction k with
    | zero => rfl
    | succ k ih => rw [sumN, ih]
  exact this k

def popc (v : Nat) : Nat := v % 2 + v / 2 % 2 + v / 4 % 2
theorem popc_le (v : Nat) : popc v ≤ 3 := by simp only [popc]; omega
def Ctlg.pcB (x : Ctlg) (c d : Nat) : Nat := popc (x.brk c d).toNat
def Ctlg.cntB (x : Ctlg) : Nat := sumN (fun c => sumN (fun d => x.pcB c d) x.classes.length) x.classes.length
def Ctlg.one (x : Ctlg) (c d i : Nat) : Nat := if x.brkAt c d i = true then 1 else 0

theorem may_brk {x : Ctlg} (h : catMay x = true) (c d : Nat) (hc : c < 4) (hd : d < 4) : 0 ≤ x.brk c d ∧ x.brk c d < x.mostB c d := by
  simp only [catMay, Bool.and_eq_true, Bool.not_eq_true', decide_eq_false_iff_not] at h
  obtain ⟨_, h4⟩ := h
  rw [List.all_eq_true] at h4
  have := h4 c (List.mem_range.2 hc)
  rw [List.all_eq_true] at this
  have := this d (List.mem_range.2 hd)
  simp only [Ctlg.brkOK, Bool.and_eq_true, Bool.not_eq_true', decide_eq_false_iff_not] at this
  omega

theorem bits_cnt : ∀ s : Fin 4, ∀ v : Fin 8, v.1 < 2 ^ s.1 → popc v = (if bitN v 0 = true ∧ 1 < s.1 + 1 then 1 else 0) + (if bitN v 1 = true ∧ 2 < s.1 + 1 then 1 else 0) + (if bitN v 2 = true ∧ 3 < s.1 + 1 then 1 else 0) := by decide

theorem pc_one {x : Ctlg} (hw : x.wf) (h : catMay x = true) {c d : Nat} (hc : c < x.classes.length) (hd : d < x.classes.length) : sumN (x.one c d) 4 = x.pcB c d := by
  obtain ⟨hs, hg⟩ := catMay_small hw h
  have h4 := hs.2.1
  obtain ⟨b0, b1⟩ := may_brk h c d (by omega) (by omega)
  obtain ⟨v, hv⟩ := Int.eq_ofNat_of_zero_le b0
  have hst : x.stepsN c = x.classes[c].steps.length := Ctlg.stepsN_of hc
  obtain ⟨s0, s4, _⟩ := hs.2.2.1 _ (List.getElem_mem hc)
  obtain ⟨s, hss⟩ : ∃ s, x.classes[c].steps.length = s + 1 := ⟨x.classes[c].steps.length - 1, by omega⟩
  rw [Ctlg.mostB, if_pos ⟨hc, hd⟩, hst, hss, hv] at b1
  have hv2 : v < 2 ^ s := by
    have e : s + 1 - 1 = s := by omega
    rw [e] at b1
    exact_mod_cast b1
  have hv8 : v < 8 := Nat.lt_of_lt_of_le hv2 (by
    have : (2 : Nat) ^ s ≤ 2 ^ 3 := Nat.pow_le_pow_right (by omega) (by omega)
    simpa using this)
  have hin : ∀ k : Nat, k < x.classes.length → x.inn k = true := fun k hk => by
    simp only [Ctlg.inn, Bool.and_eq_true, decide_eq_true_eq]; omega
  have hat : ∀ i : Nat, x.brkAt c d i = (decide (i + 1 < s + 1) && bitN v i) := fun i => by
    simp only [Ctlg.brkAt, hin c hc, hin d hd, Int.toNat_natCast, hst, hss, hv, Bool.true_and]
    congr 1
    rw [Bool.eq_iff_iff]
    simp
  have key := bits_cnt ⟨s, by omega⟩ ⟨v, hv8⟩ hv2
  simp only [Ctlg.pcB, hv, Int.toNat_natCast]
  rw [key]
  simp only [sumN, Ctlg.one, hat]
  have e3 : (decide (3 + 1 < s + 1) && bitN v 3) = false := by
    rw [Bool.and_eq_false_iff]; left; simp; omega
  rw [e3]
  simp only [Bool.and_eq_true, decide_eq_true_eq]
  simp only [and_comm]
  simp

theorem cnt_one {x : Ctlg} (hw : x.wf) (h : catMay x = true) : x.cntB = sumN (fun c => sumN (fun d => sumN (x.one c d) 4) x.classes.length) x.classes.length :=
  sumN_congr _ fun _ hc => sumN_congr _ fun _ hd => (pc_one hw h hc hd).symm

theorem with_may {x : Ctlg} (h : catMay x = true) {l : List Int} (hl : ∀ c d, c < 4 → d < 4 → (x.with l).brkOK c d = true) : catMay (x.with l) = true := by
  simp only [catMay, Bool.and_eq_true] at h ⊢
  refine ⟨h.1, ?_⟩
  rw [List.all_eq_true]
  intro c hc
  rw [List.all_eq_true]
  intro d hd
  exact hl c d (List.mem_range.1 hc) (List.mem_range.1 hd)

theorem turnL_at {n : Nat} (n4 : n ≤ 4) (t : Nat → Nat → Int) {c d : Nat} (hc : c < 4) (hd : d < 4) : ((turnL n t (n * n))[4 * c + d]?).getD 0 = if c < n ∧ d < n then t c d else 0 := by
  have hlt : 4 * c + d < (turnL n t (n * n)).length := by rw [turnL_len]; omega
  rw [List.getElem?_eq_getElem hlt, Option.getD_some, turnL_get, show (4 * c + d) / 4 = c by omega, show (4 * c + d) % 4 = d by omega]
  by_cases h : c < n ∧ d < n
  · have := Nat.mul_le_mul_right n (show c + 1 ≤ n by omega)
    rw [Nat.add_mul] at this
    rw [if_pos h, if_pos ⟨h.1, h.2, by omega⟩]
  · rw [if_neg h, if_neg fun q => h ⟨q.1, q.2.1⟩]

theorem open_may {x : Ctlg} (hw : x.wf) (h : catMay x = true) : catMay (openOf x) = true := by
  obtain ⟨hs, hg⟩ := catMay_small hw h
  refine with_may h fun c d hc hd => ?_
  have hb : (openOf x).brk c d = if c < x.classes.length ∧ d < x.classes.length then openT x c d else 0 := turnL_at hs.2.1 _ hc hd
  show (openOf x).brkOK c d = true
  simp only [Ctlg.brkOK, Bool.and_eq_true, Bool.not_eq_true', decide_eq_false_iff_not, hb]
  have hm : (openOf x).mostB c d = x.mostB c d := rfl
  rw [hm, Ctlg.mostB]
  by_cases hcd : c < x.classes.length ∧ d < x.classes.length
  · rw [if_pos hcd, if_pos hcd, openT, dif_pos hcd.1, Ctlg.stepsN_of hcd.1, Cls.all]
    obtain ⟨s0, s4, _⟩ := hs.2.2.1 _ (List.getElem_mem hcd.1)
    have : x.classes[c].steps.length - 1 = 0 ∨ x.classes[c].steps.length - 1 = 1 ∨ x.classes[c].steps.length - 1 = 2 ∨ x.classes[c].steps.length - 1 = 3 := by omega
    rcases this with e | e | e | e <;> rw [e] <;> decide
  · rw [if_neg hcd, if_neg hcd]; decide
theorem closed_brk (x : Ctlg) (c d : Nat) : (closedOf x).brk c d = 0 := by
  unfold Ctlg.brk closedOf Ctlg.with
  rcases h2 : (List.replicate 16 (0 : Int))[4 * c + d]? with _ | v
  · simp
  · have := List.eq_of_mem_replicate (List.mem_of_getElem? h2)
    simp [this]
theorem closed_may {x : Ctlg} (h : catMay x = true) : catMay (closedOf x) = true := by
  refine with_may h fun c d hc hd => ?_
  show (closedOf x).brkOK c d = true
  have hm : 1 ≤ (closedOf x).mostB c d := by
    rw [Ctlg.mostB]
    split
    · have : (0 : Int) < 2 ^ ((closedOf x).stepsN c - 1) := Int.pow_pos (by decide)
      omega
    · exact Int.le_refl _
  simp only [Ctlg.brkOK, Bool.and_eq_true, Bool.not_eq_true', decide_eq_false_iff_not, closed_brk]
  omega
theorem closed_cnt (x : Ctlg) : (closedOf x).cntB = 0 :=
  sumN_zero _ fun c _ => sumN_zero _ fun d _ => by rw [Ctlg.pcB, closed_brk]; rfl
theorem open_wf {x : Ctlg} (hw : x.wf) (h : catMay x = true) : (openOf x).wf := (open_good (catMay_small hw h).1 (catMay_small hw h).2).wf
theorem closed_wf {x : Ctlg} (hw : x.wf) (h : catMay x = true) : (closedOf x).wf := (closed_good (catMay_small hw h).1 (catMay_small hw h).2).wf
theorem brk_open {x : Ctlg} (hs : x.small) {c d i : Int} (h : x.brkAt c d i = true) : (openOf x).brkAt c d i = true := by
  have h0 := h
  simp only [Ctlg.brkAt, Ctlg.inn, Bool.and_eq_true, decide_eq_true_eq] at h
  obtain ⟨⟨⟨⟨⟨⟨a1, a2⟩, _⟩, ⟨b1, b2⟩, _⟩, i1⟩, i2⟩, _⟩ := h
  obtain ⟨c, rfl⟩ := Int.eq_ofNat_of_zero_le a1
  obtain ⟨d, rfl⟩ := Int.eq_ofNat_of_zero_le b1
  obtain ⟨i, rfl⟩ := Int.eq_ofNat_of_zero_le i1
  have hc : c < x.classes.length := by omega
  rw [open_at hs hc (by omega), decide_eq_true_eq]
  rw [Int.toNat_natCast, Ctlg.stepsN_of hc] at i2
  omega
theorem cnt_open {x : Ctlg} (hw : x.wf) (h : catMay x = true) : x.cntB ≤ (openOf x).cntB := by
  obtain ⟨hs, _⟩ := catMay_small hw h
  rw [cnt_one hw h, cnt_one (open_wf hw h) (open_may hw h)]
  refine sumN_le _ fun c _ => sumN_le _ fun d _ => sumN_le _ fun i _ => ?_
  simp only [Ctlg.one]
  by_cases hb : x.brkAt c d i = true
  · rw [if_pos hb, if_pos (brk_open hs hb)]; exact Nat.le_refl _
  · rw [if_neg hb]; exact Nat.zero_le _
theorem closed_none (x : Ctlg) (c d i : Int) : (closedOf x).brkAt c d i = false := by
  simp [Ctlg.brkAt, closed_brk, bitN]

/-- What is compared where a catalogue may be: each breakpoint with its own low bits. -/
def mayT (x : Ctlg) (c d : Nat) : Int := x.brk c d % 2 ^ (x.stepsN c - 1)
theorem may_turn {x : Ctlg} (n4 : x.classes.length ≤ 4) (hb : x.breaks.length = 16) : decide (x.breaks = turnL x.classes.length (mayT x) (x.classes.length * x.classes.length)) = (List.range 4).all fun c => (List.range 4).all (x.brkOK c) := by
  have hp : ∀ k : Nat, (0 : Int) < 2 ^ k := fun k => Int.pow_pos (by decide)
  rw [Bool.eq_iff_iff, decide_eq_true_eq, List.all_eq_true]
  constructor
  · intro h c hc
    rw [List.all_eq_true]
    intro d hd
    have hc := List.mem_range.1 hc
    have hd := List.mem_range.1 hd
    have hv : x.brk c d = if c < x.classes.length ∧ d < x.classes.length then mayT x c d else 0 := by
      have e : x.brk c d = ((turnL x.classes.length (mayT x) (x.classes.length * x.classes.length))[4 * c + d]?).getD 0 := by rw [Ctlg.brk, ← h]
      rw [e]; exact turnL_at n4 _ hc hd
    simp only [Ctlg.brkOK, Bool.and_eq_true, Bool.not_eq_true', decide_eq_false_iff_not]
    by_cases hcd : c < x.classes.length ∧ d < x.classes.length
    · have hmo : x.mostB c d = 2 ^ (x.stepsN c - 1) := if_pos hcd
      rw [if_pos hcd] at hv
      rw [mayT] at hv
      have := Int.emod_nonneg (x.brk c d) (b := 2 ^ (x.stepsN c - 1)) (by have := hp (x.stepsN c - 1); omega)
      have := Int.emod_lt_of_pos (x.brk c d) (hp (x.stepsN c - 1))
      omega
    · have hmo : x.mostB c d = 1 := if_neg hcd
      rw [if_neg hcd] at hv
      omega
  · intro h
    apply List.ext_getElem
    · rw [hb, turnL_len]
    intro i h1 h2
    have hc : i / 4 < 4 := by omega
    have hd : i % 4 < 4 := by omega
    have hh := h (i / 4) (List.mem_range.2 hc)
    rw [List.all_eq_true] at hh
    have hh := hh (i % 4) (List.mem_range.2 hd)
    simp only [Ctlg.brkOK, Bool.and_eq_true, Bool.not_eq_true', decide_eq_false_iff_not] at hh
    have hi : 4 * (i / 4) + i % 4 = i := by omega
    have ht := turnL_at n4 (mayT x) hc hd
    rw [hi, List.getElem?_eq_getElem h2, Option.getD_some] at ht
    have hx : x.brk (i / 4) (i % 4) = x.breaks[i] := by rw [Ctlg.brk_of hb hc hd]; simp only [hi]
    rw [ht, ← hx]
    by_cases hcd : i / 4 < x.classes.length ∧ i % 4 < x.classes.length
    · have hmo : x.mostB (i / 4) (i % 4) = 2 ^ (x.stepsN (i / 4) - 1) := if_pos hcd
      rw [if_pos hcd, mayT, Int.emod_eq_of_lt] <;> omega
    · have hmo : x.mostB (i / 4) (i % 4) = 1 := if_neg hcd
      rw [if_neg hcd]
      omega

theorem cells_ints : ∀ (l m : List Int), l.length = m.length → cellsEq (List.replicate l.length LK.i) (l.map (AV.int .i64)) (m.map (AV.int .i64)) = some (decide (l = m))
  | [], [], _ => rfl
  | a :: l, b :: m, h => by
    have ih := cells_ints l m (by simpa using h)
    rw [List.length_cons, List.replicate_succ, List.map_cons, List.map_cons]
    simp only [cellsEq, cellEq, if_true, Option.bind_some, ih, Option.map_some]
    congr 1
    rw [Bool.eq_iff_iff]
    simp
  | [], _ :: _, h => by simp at h
  | _ :: _, [], h => by simp at h
end Go.Proofs

/- What is the same as itself: the document's answer. -/
namespace Go.Proofs
open Go Go.RowKit Go.Am

theorem same09_ok (l : List Inst) (hl : l.length ≤ 9223372036854775807) : PCall Tryd.prog 11 [.sl .no (l.map encInst), .sl .no (l.map encInst)] (.bool true) := by
  refine PCall.run hb11 ok11 (by simp) (pures_cons (elOK_Inst.pureL l) (pures1 (elOK_Inst.pureL l))) (.bool _) ?_
  simp -implicitDefEqProofs []
  refine run_loop (fun n s h => ∃ j : Nat, n = l.length - j ∧ j ≤ l.length ∧ s 0 = .sl .no (l.map encInst) ∧ s 1 = .sl .no (l.map encInst) ∧ s 5 = .int .i64 j) ?_ l.length ?_
  rotate_left
  · exact ⟨0, by simp⟩
  rintro n s h ⟨j, hn, hj, s0, s1, s5⟩ ih
  by_cases hlt : j < l.length
  · simp -implicitDefEqProofs [s0, s5, hlt]
    refine run_dregL c11_d6 rfl ?_
    simp -implicitDefEqProofs [s0, s1, s5, hlt, encInst, inc_i64 hlt hl, -Int.natCast_add]
    exact ih (l.length - (j + 1)) _ _ (by omega) ⟨j + 1, rfl, by omega, by simp [s0], by simp [s1], by simp⟩
  · simp -implicitDefEqProofs [s0, s5, hlt]

end Go.Proofs

/- The statement ProgReads: its function hands back true. -/
namespace Go.Proofs
open Go Go.RowKit Go.Am

theorem rdProg_run {ws : List Nat} (hb : Bd (some ws)) : (runS rdProg [] (some ws)).1.length ≤ 8 := by
  have e : (some ws).bind rdProg = rdProg ws := rfl
  simp only [runS, e]
  cases h : rdProg ws with
  | none => exact Nat.zero_le _
  | some x => exact (rdProg_all ws x.1 x.2 (hb ws rfl).2 (by rw [h])).1

set_option maxRecDepth 4000 in
theorem progReads_ok (ws : List Nat) (hw : ws.length ≤ 9223372036854775807 ∧ ∀ w ∈ ws, w < 18446744073709551616) : PCall Tryd.prog 3 [encW ws] (.bool true) := by
  refine PCall.run hb3 ok3 (by simp) (pures1 (pure_w64 ws)) (.bool _) ?_
  simp -implicitDefEqProofs [H.nil]
  refine callQ_p alive9_ok (by simp) ?_
  by_cases h800 : (300 : Int) < ws.length
  · simp -implicitDefEqProofs [h800]
  have hbd : Bd (some ws) := fun l e => by cases e; exact ⟨by omega, hw.2⟩
  simp -implicitDefEqProofs [h800]
  refine callQ_s (newReader_ok ws _) (by simp) ?_
  simp -implicitDefEqProofs [encRS]
  have r0 : RIs (((⟨0, fun _ => none, 0, fun _ => 0, 0, fun _ => none, 0, fun _ => none⟩ : H).alloc [.sl .no (ws.map w64), .bool false]).alloc [.sl .no (ws.map w64), .bool false]) 0 (some ws) := ⟨by simp, by simp [encRS], hbd⟩
  have g1 := progGet_rd r0
  refine callQ_s g1.call (by simp) ?_
  have b0 := g1.to.is.bd
  obtain ⟨m, s', hq⟩ : ∃ m s', runS rdProg [] (some ws) = (m, s') := ⟨_, _, rfl⟩
  have g2 := fun (X : H) (r1 : RIs X 1 (some ws)) => refProgGet_rd r1
  have hm := rdProg_run hbd
  rw [hq] at b0 hm
  simp -implicitDefEqProofs [hq]
  refine callQ_s (g2 _ ⟨by simp, by simp [encRS], hbd⟩).call (by simp) ?_
  simp -implicitDefEqProofs [hq]
  generalize hX : (H.set _ 1 _ : H) = X
  have e0 : X.bx 0 = some (encRS s') := by rw [← hX]; simp
  have e1 : X.bx 1 = some (encRS s') := by rw [← hX]; simp
  have n0 : 2 ≤ X.bn := by rw [← hX]; simp
  clear hX
  have ri : RIs X 0 s' := ⟨by omega, e0, b0⟩
  have m1 : 1 < X.bn := by omega
  refine run_dreg c3_d8 ?_
  simp -implicitDefEqProofs []
  simp only at hm
  refine lcallQ_p (same09_ok m (by omega)) (by simp) ?_
  cases s' with
  | none =>
    rw [encRS] at e0 e1
    simp -implicitDefEqProofs []
    refine callD_s (rOk_ok ri) (by simp) ?_
    simp -implicitDefEqProofs [e1, m1]
    refine callD_s (rEnd_ok ri) (by simp) ?_
    simp -implicitDefEqProofs [e1, m1, endS]
  | some l =>
    rw [encRS] at e0 e1
    simp -implicitDefEqProofs []
    refine callD_s (rOk_ok ri) (by simp) ?_
    simp -implicitDefEqProofs [e1, m1]
    refine callD_s (rEnd_ok ri) (by simp) ?_
    cases l with
    | nil => simp -implicitDefEqProofs [e1, m1, endS]
    | cons w l => simp -implicitDefEqProofs [e1, m1, endS, show ¬ (l.length : Int) + 1 = 0 by omega]
end Go.Proofs

/- What is written of a template, an instruction, a span, a program, a footprint, a class, as items; the program's writers. -/
namespace Go.Proofs
open Go Go.RowKit Go.Am

def iN (n most : Int) : Item := ⟨0, n, most, 0, ⟨#[]⟩, []⟩
def iX (x : Int) : Item := ⟨1, 0, 0, x, ⟨#[]⟩, []⟩
def iF (r : Bool) : Item := ⟨2, if r then 1 else 0, 0, 0, ⟨#[]⟩, []⟩
def iS (s : ByteArray) : Item := ⟨3, 0, 0, 0, s, []⟩
def keyItems (k : KeyT) : List Item := [iX k.arg, iN k.base 999]
def instItems (x : Inst) : List Item := [iN x.op 255, iN x.a 255, iN x.b 255, iN x.c 255] ++ (keyItems x.k ++ keyItems x.l) ++ [iX x.x]
def progItems (l : List Inst) : List Item := iN l.length 8 :: l.flatMap instItems
def spanItems (s : SpanT) : List Item := (keyItems s.lo ++ keyItems s.hi) ++ [iF s.write]
def footItems (l : List SpanT) : List Item := iN l.length 4 :: l.flatMap spanItems
def stpItems (s : Stp) : List Item := progItems s.code ++ footItems s.foot
def clsItems (c : Cls) : List Item := [iS c.name, iN c.args 3, iN c.steps.length 4] ++ ((c.steps.zip c.comps).flatMap fun p => stpItems p.1 ++ stpItems p.2) ++ [iF c.resume]

theorem writeAll_app (a b : List Item) : writeAll (a ++ b) = writeAll a ++ writeAll b := by simp [writeAll]
theorem w_iN (n most : Int) : writeW (iN n most) = [n.toNat] := rfl
theorem w_iX (x : Int) : writeW (iX x) = [signed x] := rfl
theorem w_iF (r : Bool) : writeW (iF r) = [if r then 1 else 0] := by cases r <;> rfl
theorem w_iS (s : ByteArray) : writeW (iS s) = textW s := rfl
theorem w_keys (k l : KeyT) : writeAll (keyItems k ++ keyItems l) = [k, l].flatMap fun k => [signed k.arg, k.base.toNat] := rfl
theorem w_inst (x : Inst) : writeAll (instItems x) = [x.op, x.a, x.b, x.c].map Int.toNat ++ ([x.k, x.l].flatMap fun k => [signed k.arg, k.base.toNat]) ++ [signed x.x] := rfl
theorem w_span (s : SpanT) : writeAll (spanItems s) = ([s.lo, s.hi].flatMap fun k => [signed k.arg, k.base.toNat]) ++ [if s.write then 1 else 0] := by
  rw [spanItems, writeAll_app, w_keys]; simp [writeAll, w_iF]
theorem w_instLen (x : Inst) : (writeAll (instItems x)).length = 9 := rfl
theorem w_spanLen (s : SpanT) : (writeAll (spanItems s)).length = 5 := by rw [w_span]; rfl
theorem writeAll_flat {α : Type} (f : α → List Item) (l : List α) : writeAll (l.flatMap f) = l.flatMap fun x => writeAll (f x) := by
  simp [writeAll, List.flatMap_assoc]
theorem flat_snoc {α β : Type} (f : α → List β) {l : List α} {j : Nat} (hj : j < l.length) : (l.take (j + 1)).flatMap f = (l.take j).flatMap f ++ f l[j] := by
  rw [List.take_succ_eq_append_getElem hj, List.flatMap_append]; simp
theorem flat_len {α β : Type} (f : α → List β) (n : Nat) (hf : ∀ x, (f x).length = n) (l : List α) : (l.flatMap f).length = n * l.length := by
  induction l with
  | nil => rfl
  | cons x l ih => rw [List.flatMap_cons, List.length_append, hf, ih, List.length_cons, Nat.mul_add]; omega

theorem WTo.refl {h : H} {b : Nat} {t : Tok} {ws : List Nat} (hw : WB h b t ws) : WTo h b t ws h t := ⟨hw, .inl rfl, HF.refl _ _ _⟩
theorem WTo.al {h h1 : H} {b : Nat} {t t1 : Tok} {ws : List Nat} (a : WTo h b t ws h1 t1) (cs : List AV) : WTo h b t ws (h1.alloc cs) t1 := ⟨a.wb.alloc cs, a.next, a.keep.trans (HF.alloc _ _ _ _)⟩
theorem WTo.so {h h1 : H} {b b' : Nat} {t t1 : Tok} {ws : List Nat} (a : WTo h b t ws h1 t1) (hn : h.bn ≤ b') (hb : b < h.bn) (cs : List AV) : WTo h b t ws (h1.set b' cs) t1 :=
  ⟨⟨by simpa using a.wb.lt, by simp [show ¬ b = b' by omega, a.wb.bx], by simpa using a.wb.live⟩, a.next, a.keep.trans' (HF.set (B := (· = b')) _ rfl) (fun x hx e => by have e : x = b' := e; omega) (fun _ _ h => h)⟩

theorem counts_ok {h : H} {b : Nat} {t : Tok} {ws : List Nat} (hw : WB h b t ws) (ns : List Int) (hn : ∀ n ∈ ns, n ≤ 9223372036854775807) (hl : ws.length + ns.length ≤ 900000) : WAdd 41 [.ptr b 0, .sl .no (ns.map encN)] h b t (ws ++ ns.map Int.toNat) := by
  refine CallP.run hb41 ok41 (by simp) ?_
  simp -implicitDefEqProofs []
  refine run_loop (fun m S h1 => ∃ (j : Nat) (t1 : Tok), m = ns.length - j ∧ j ≤ ns.length ∧ S 0 = .ptr b 0 ∧ S 6 = .sl .no (ns.map encN) ∧ S 7 = .int .i64 ns.length ∧ S 8 = .int .i64 j ∧ WTo h b t (ws ++ (ns.take j).map Int.toNat) h1 t1) ?_ ns.length ?_
  rotate_left
  · exact ⟨0, t, by simpa using WTo.refl hw⟩
  rintro m S h1 ⟨j, t1, hm, hj, s0, s6, s7, s8, hq⟩ ih
  by_cases hlt : j < ns.length
  · have he : ns.take (j + 1) = ns.take j ++ [ns[j]] := by rw [List.take_succ_eq_append_getElem hlt]
    simp -implicitDefEqProofs [s0, s6, s7, s8, hlt, encN]
    refine callW (count_ok hq.wb ns[j] (hn _ (List.getElem_mem hlt)) (by simp; omega)) (by simp) fun r h2 t2 q2 => ?_
    have q3 := hq.trans q2
    rw [List.append_assoc, show (ns.take j).map Int.toNat ++ [ns[j].toNat] = (ns.take (j + 1)).map Int.toNat by rw [he, List.map_append]; rfl] at q3
    simp -implicitDefEqProofs [s8, inc_i64 hlt (show ns.length ≤ _ by omega), -Int.natCast_add]
    exact ih (ns.length - (j + 1)) _ _ (by omega) ⟨j + 1, t2, rfl, by omega, by simp [s0], by simp [s6], by simp [s7], by simp, q3⟩
  · obtain rfl : j = ns.length := by omega
    rw [List.take_length] at hq
    simp -implicitDefEqProofs [s7, s8]
    exact ⟨t1, hq⟩

end Go.Proofs

/- The program's writers of programs and footprints. -/
namespace Go.Proofs
open Go Go.RowKit Go.Am

theorem progW_len (l : List Inst) : (writeAll (l.flatMap instItems)).length = 9 * l.length := by
  rw [writeAll_flat]; exact flat_len _ 9 w_instLen l
theorem footW_len (l : List SpanT) : (writeAll (l.flatMap spanItems)).length = 5 * l.length := by
  rw [writeAll_flat]; exact flat_len _ 5 w_spanLen l
theorem writeAll_cons (x : Item) (l : List Item) : writeAll (x :: l) = writeW x ++ writeAll l := by simp [writeAll]

set_option maxHeartbeats 1000000 in
theorem progPut_ok {h : H} {b : Nat} {t : Tok} {ws : List Nat} (hw : WB h b t ws) (l : List Inst) (h8 : l.length ≤ 8) (hx : ∀ x ∈ l, x.wf) (hl : ws.length ≤ 800000) : WAdd 21 [.ptr b 0, .sl .no (l.map encInst)] h b t (ws ++ writeAll (progItems l)) := by
  refine CallP.run hb21 ok21 (by simp) ?_
  have hb := hw.lt
  simp -implicitDefEqProofs []
  refine callW (count_ok hw (l.length : Int) (by omega) (by omega)) (by simp) fun r h0 t0 q0 => ?_
  rw [Int.toNat_natCast] at q0
  simp -implicitDefEqProofs []
  refine run_loop (fun m S h1 => ∃ (j : Nat) (t1 : Tok), m = l.length - j ∧ j ≤ l.length ∧ S 0 = .ptr b 0 ∧ S 12 = .sl .no (l.map encInst) ∧ S 13 = .int .i64 l.length ∧ S 14 = .int .i64 j ∧ WTo h b t (ws ++ [l.length] ++ writeAll ((l.take j).flatMap instItems)) h1 t1) ?_ l.length ?_
  rotate_left
  · exact ⟨0, t0, rfl, Nat.zero_le _, by simp, by simp, by simp, by simp, by simpa [writeAll] using q0⟩
  rintro m S h1 ⟨j, t1, hm, hj, s0, s12, s13, s14, hq⟩ ih
  by_cases hlt : j < l.length
  · have he := flat_snoc instItems hlt
    have hlen := progW_len (l.take j)
    rw [List.length_take] at hlen
    have hws : (ws ++ [l.length] ++ writeAll ((l.take j).flatMap instItems)).length ≤ 800100 := by rw [List.length_append, List.length_append, hlen]; simp; omega
    obtain ⟨x1, x2, x3, x4, x5, x6, x7⟩ := hx _ (List.getElem_mem hlt)
    generalize hxe : l[j] = x at he x1 x2 x3 x4 x5 x6 x7
    have hbn := hq.keep.bn
    have z : ¬ b = h1.bn := by omega
    have z' : ¬ h1.bn = b := by omega
    simp -implicitDefEqProofs [s0, s12, s13, s14, hlt, hxe, encInst]
    have k1 := (hq.al [.int .i64 0, .int .i64 0, .int .i64 0, .int .i64 0, .int .i64 0, .int .i64 0, .int .i64 0, .int .i64 0, .int .i64 0]).so (b' := h1.bn) hbn hb (encInst x)
    rw [encInst] at k1
    refine callW (counts_ok k1.wb [x.op, x.a, x.b, x.c] (by intro n hn; simp only [List.mem_cons, List.not_mem_nil, or_false] at hn; have y1 := x1.2; have y2 := x2.2; have y3 := x3.2; have y4 := x4.2; rcases hn with rfl | rfl | rfl | rfl <;> assumption) (by simp only [List.length_cons, List.length_nil]; omega)) (by simp [encN]) fun r h2 t2 q2 => ?_
    have k2 := k1.trans q2
    have f2 : h2.bx h1.bn = some (encInst x) := by rw [q2.keep.bx _ (by simp) (fun e => z e.symm)]; simp [encInst]
    rw [encInst] at f2
    have n2 : h1.bn < h2.bn := Nat.lt_of_lt_of_le (by simp) q2.keep.bn
    have hws3 : (ws ++ [l.length] ++ writeAll ((l.take j).flatMap instItems) ++ [x.op, x.a, x.b, x.c].map Int.toNat).length ≤ 800200 := by
      rw [List.length_append]; simp only [List.length_map, List.length_cons, List.length_nil]; omega
    obtain ⟨⟨ka1, ka2⟩, kb1, kb2⟩ := x5
    obtain ⟨⟨la1, la2⟩, lb1, lb2⟩ := x6
    have w01 : IntKind.i64.wrap 1 = 1 := by decide
    have w12 : IntKind.i64.wrap 2 = 2 := by decide
    simp -implicitDefEqProofs [f2, n2]
    refine .loop ?_
    have y1 : ¬ b = h2.bn := by have := q2.wb.lt; omega
    have y2 : ¬ h1.bn = h2.bn := by omega
    have k3 := (k2.al [.int .i64 0, .int .i64 0]).so (b' := h2.bn) (by omega) hb [.int .i64 x.k.arg, .int .i64 x.k.base]
    simp -implicitDefEqProofs [s0]
    refine callW (wsigned_ok k3.wb x.k.arg ka1 ka2 (by omega)) (by simp) fun r h3 t3 q3 => ?_
    have k4 := k3.trans q3
    have f3 : h3.bx h2.bn = some [.int .i64 x.k.arg, .int .i64 x.k.base] := by rw [q3.keep.bx _ (by simp) (fun e => y1 e.symm)]; simp
    have g3 : h3.bx h1.bn = some (encInst x) := by rw [q3.keep.bx _ (by simp; omega) (fun e => z e.symm)]; simp [y2, f2, encInst]
    have n3 : h2.bn < h3.bn := Nat.lt_of_lt_of_le (by simp) q3.keep.bn
    simp -implicitDefEqProofs [s0, f3, n3]
    refine callW (count_ok k4.wb x.k.base kb2 (by simp only [List.length_append, List.length_cons, List.length_nil] at hws3 ⊢; omega)) (by simp) fun r h4 t4 q4 => ?_
    have k5 := k4.trans q4
    have hb3 : b < h3.bn := q3.wb.lt
    have g4 : h4.bx h1.bn = some (encInst x) := by rw [q4.keep.bx _ (by omega) (fun e => z e.symm)]; exact g3
    have n4 : h3.bn ≤ h4.bn := q4.keep.bn
    have v1 : ¬ b = h4.bn := by omega
    have v2 : ¬ h1.bn = h4.bn := by omega
    have k6 := (k5.al [.int .i64 0, .int .i64 0]).so (b' := h4.bn) (by omega) hb [.int .i64 x.l.arg, .int .i64 x.l.base]
    simp -implicitDefEqProofs [w01]
    refine .lp ?_
    simp -implicitDefEqProofs [s0]
    refine callW (wsigned_ok k6.wb x.l.arg la1 la2 (by simp only [List.length_append, List.length_cons, List.length_nil] at hws3 ⊢; omega)) (by simp) fun r h5 t5 q5 => ?_
    have k7 := k6.trans q5
    have f5 : h5.bx h4.bn = some [.int .i64 x.l.arg, .int .i64 x.l.base] := by rw [q5.keep.bx _ (by simp) (fun e => v1 e.symm)]; simp
    have g5 : h5.bx h1.bn = some (encInst x) := by rw [q5.keep.bx _ (by simp; omega) (fun e => z e.symm)]; simp [v2, g4, encInst]
    have n5 : h4.bn < h5.bn := Nat.lt_of_lt_of_le (by simp) q5.keep.bn
    simp -implicitDefEqProofs [s0, f5, n5]
    refine callW (count_ok k7.wb x.l.base lb2 (by simp only [List.length_append, List.length_cons, List.length_nil] at hws3 ⊢; omega)) (by simp) fun r h6 t6 q6 => ?_
    have k8 := k7.trans q6
    have g6 : h6.bx h1.bn = some (encInst x) := by rw [q6.keep.bx _ (by omega) (fun e => z e.symm)]; exact g5
    have n6 : h5.bn ≤ h6.bn := q6.keep.bn
    rw [encInst] at g6
    simp -implicitDefEqProofs [w12]
    refine .lp ?_
    simp -implicitDefEqProofs [s0, g6, show h1.bn < h6.bn by omega]
    refine callW (wsigned_ok k8.wb x.x x7.1 x7.2 (by simp only [List.length_append, List.length_cons, List.length_nil] at hws3 ⊢; omega)) (by simp) fun r h7 t7 q7 => ?_
    have k9 := k8.trans q7
    have hw9 : ws ++ [l.length] ++ writeAll ((l.take j).flatMap instItems) ++ [x.op, x.a, x.b, x.c].map Int.toNat ++ [signed x.k.arg] ++ [x.k.base.toNat] ++ [signed x.l.arg] ++ [x.l.base.toNat] ++ [signed x.x] = ws ++ [l.length] ++ writeAll ((l.take (j + 1)).flatMap instItems) := by
      rw [he, writeAll_app, w_inst]; simp
    rw [hw9] at k9
    simp -implicitDefEqProofs [s14, inc_i64 hlt (show l.length ≤ _ by omega), -Int.natCast_add]
    exact ih (l.length - (j + 1)) _ _ (by omega) ⟨j + 1, t7, rfl, by omega, by simp [s0], by simp [s12], by simp [s13], by simp, k9⟩
  · obtain rfl : j = l.length := by omega
    rw [List.take_length] at hq
    simp -implicitDefEqProofs [s13, s14]
    refine ⟨t1, ?_⟩
    rw [progItems, writeAll_cons, w_iN, Int.toNat_natCast, ← List.append_assoc]
    exact hq
end Go.Proofs

/- The steps of a class, over which one ranges, whatever a round does. -/
namespace Go.Proofs
open Go Go.RowKit Go.Am

end Go.Proofs

/- The program's writers of footprints, steps and classes. -/
namespace Go.Proofs
open Go Go.RowKit Go.Am

theorem progI_len (l : List Inst) : (writeAll (progItems l)).length = 1 + 9 * l.length := by rw [progItems, writeAll_cons, List.length_append, progW_len]; rfl
theorem footI_len (l : List SpanT) : (writeAll (footItems l)).length = 1 + 5 * l.length := by rw [footItems, writeAll_cons, List.length_append, footW_len]; rfl
theorem stp_len (s : Stp) (h : s.small) : (writeAll (stpItems s)).length ≤ 94 := by
  rw [stpItems, writeAll_app, List.length_append, progI_len, footI_len]
  have := h.1; have := h.2; omega

end Go.Proofs

/- The program's writer of classes. -/
namespace Go.Proofs
open Go Go.RowKit Go.Am

theorem WTo.sl {h h1 : H} {b : Nat} {t t1 : Tok} {ws : List Nat} (a : WTo h b t ws h1 t1) {L : Nat} (hL : h.ln ≤ L) (o : Option LoopA) : WTo h b t ws (h1.setLoop L o) t1 :=
  ⟨⟨a.wb.lt, a.wb.bx, by have := a.wb.live; unfold TLive at this ⊢; split <;> simp_all⟩, a.next, ⟨a.keep.bn, a.keep.bx, a.keep.tn, a.keep.tk, a.keep.ln, fun l hl => by have := a.keep.lp l hl; simp [show ¬ l = L by omega]; exact this, a.keep.mn, a.keep.mp⟩⟩
theorem WTo.nl {h h1 : H} {b : Nat} {t t1 : Tok} {ws : List Nat} (a : WTo h b t ws h1 t1) (q : LoopA) : WTo h b t ws (h1.newLoop q) t1 :=
  ⟨⟨a.wb.lt, a.wb.bx, by have := a.wb.live; unfold TLive at this ⊢; split <;> simp_all⟩, a.next, ⟨a.keep.bn, a.keep.bx, a.keep.tn, a.keep.tk, by have := a.keep.ln; simp; omega, fun l hl => by have := a.keep.lp l hl; have h2 := a.keep.ln; simp [show ¬ l = h1.ln by omega]; exact this, a.keep.mn, a.keep.mp⟩⟩

def pairItems (p : Stp × Stp) : List Item := stpItems p.1 ++ stpItems p.2
theorem pair_len (p : Stp × Stp) (h : p.1.small ∧ p.2.small) : (writeAll (pairItems p)).length ≤ 188 := by
  rw [pairItems, writeAll_app, List.length_append]
  have := stp_len p.1 h.1; have := stp_len p.2 h.2; omega

end Go.Proofs

/- What is written, as items: the document's answer. -/
namespace Go.Proofs
open Go Go.RowKit Go.Am

/-- Cells that are these items', where what a slice is over doesn't count. -/
def AreI (es : List (List AV)) (a : List Item) : Prop := es.map (List.map wk) = a.map encItm
theorem AreI.len {es : List (List AV)} {a : List Item} (h : AreI es a) : es.length = a.length := by have := congrArg List.length h; simpa using this
theorem AreI.six {es : List (List AV)} {a : List Item} (h : AreI es a) : ∀ e ∈ es, e.length = 6 := fun e he => by
  have hm : e.map wk ∈ a.map encItm := by rw [← h]; exact List.mem_map.2 ⟨e, he, rfl⟩
  obtain ⟨x, _, hx⟩ := List.mem_map.1 hm
  have := congrArg List.length hx
  simpa [encItm] using this.symm
theorem AreI.app {es es2 : List (List AV)} {a b : List Item} (h : AreI es a) (h2 : AreI es2 b) : AreI (es ++ es2) (a ++ b) := by unfold AreI at *; rw [List.map_append, List.map_append, h, h2]
theorem AreI.self (a : List Item) : AreI (a.map encItm) a := by unfold AreI; simp []
/-- Items are appended. -/
theorem appQ_i {h : H} {t t2 : Tok} {es es2 : List (List AV)} {a b : List Item} {K : AV → H → Prop} (e1 : AreI es a) (e2 : AreI es2 b) (ht : TLive h t es.length) (hl : a.length + b.length ≤ 100000)
    (hk : ∀ t' h' es', AreI es' (a ++ b) → TLive h' t' es'.length → HF h h' (fun _ => False) (TOwn t) → h'.bn = h.bn → K (.sl t' es') h') : appQ h 6 72 (.sl t es) (.sl t2 es2) K := by
  refine appQ_tok (es2 := es2) ht e1.six ?_ (by rw [e1.len, e2.len]; omega) fun t' h' q1 q2 q3 q4 => hk t' h' _ (e1.app e2) q1 q3 q4
  simp only [srcA]
  rw [if_pos e2.six]

theorem keyItems_ok (k : KeyT) : PCall Tryd.prog 45 [.agg (encKeyT k)] (encIs (keyItems k)) := by
  refine PCall.run hb45 ok45 (by simp) (pures1 (.agg (pures_cons (.int _ _) (pures1 (.int _ _))))) (pure_encIs _) ?_
  simp -implicitDefEqProofs [encKeyT, H.nil]
  simp [encIs, keyItems, iX, iN, encItm]

theorem inst_n (x : Inst) : (instItems x).length = 9 := rfl
theorem span_n (x : SpanT) : (spanItems x).length = 5 := rfl
theorem prog_n (l : List Inst) : (l.flatMap instItems).length = 9 * l.length := flat_len _ 9 inst_n l
theorem foot_n (l : List SpanT) : (l.flatMap spanItems).length = 5 * l.length := flat_len _ 5 span_n l

theorem refProgItems_ok (l : List Inst) (h8 : l.length ≤ 8) : PCall Tryd.prog 25 [.sl .no (l.map encInst)] (encIs (progItems l)) := by
  refine PCall.run hb25 ok25 (by simp) (pures1 (elOK_Inst.pureL l)) (pure_encIs _) ?_
  simp -implicitDefEqProofs [H.nil]
  refine run_loop (fun m S h1 => ∃ (j : Nat) (t : Tok), m = l.length - j ∧ j ≤ l.length ∧ S 0 = .sl .no (l.map encInst) ∧ (∃ es, S 3 = .sl t es ∧ AreI es (iN l.length 8 :: (l.take j).flatMap instItems) ∧ TLive h1 t es.length) ∧ S 4 = .int .i64 j) ?_ l.length ?_
  rotate_left
  · exact ⟨0, .full, rfl, Nat.zero_le _, by simp, ⟨_, by simp; rfl, by simp [AreI, iN, encItm], trivial⟩, by simp⟩
  rintro m S h1 ⟨j, t, hm, hj, s0, ⟨es, s3, hA0, hL⟩, s4⟩ ih
  by_cases hlt : j < l.length
  · have he := flat_snoc instItems hlt
    have hn := prog_n (l.take j)
    rw [List.length_take] at hn
    generalize hxe : l[j] = x at he
    generalize hA : iN l.length 8 :: (l.take j).flatMap instItems = A at hA0
    have hAl : A.length ≤ 80 := by rw [← hA]; simp only [List.length_cons]; omega
    simp -implicitDefEqProofs [s0, s3, s4, hlt, hxe, encInst]
    refine appQ_i (b := [iN x.op 255, iN x.a 255, iN x.b 255, iN x.c 255]) hA0 (by simp [AreI, iN, encItm]) hL (by simp only [List.length_cons, List.length_nil]; omega) fun t1 h2 e1 a1 p1 p2 p3 => ?_
    have f2 : h2.bx h1.bn = some (encInst x) := by rw [p2.bx _ (by simp) (fun h => h)]; simp [encInst]
    rw [encInst] at f2
    have n2 : h1.bn < h2.bn := by rw [p3]; simp
    simp -implicitDefEqProofs []
    refine run_dreg c25_d7 ?_
    simp -implicitDefEqProofs [f2, n2]
    refine lcallQ_p (keyItems_ok x.k) (by simp [encKeyT]) ?_
    simp -implicitDefEqProofs [encIs]
    refine appQ_i a1 (AreI.self (keyItems x.k)) p1 (by simp only [List.length_append, List.length_cons, List.length_nil, keyItems]; omega) fun t2 h3 e2 a2 r1 r2 r3 => ?_
    have f3 : h3.bx h1.bn = some (encInst x) := by rw [r2.bx _ n2 (fun h => h), f2]; rfl
    rw [encInst] at f3
    have n3 : h1.bn < h3.bn := by rw [r3]; exact n2
    simp -implicitDefEqProofs [f3, n3]
    refine lcallQ_p (keyItems_ok x.l) (by simp [encKeyT]) ?_
    simp -implicitDefEqProofs [encIs]
    refine appQ_i a2 (AreI.self (keyItems x.l)) r1 (by simp only [List.length_append, List.length_cons, List.length_nil, keyItems]; omega) fun t3 h4 e3 a3 u1 u2 u3 => ?_
    have f4 : h4.bx h1.bn = some (encInst x) := by rw [u2.bx _ n3 (fun h => h), f3]; rfl
    rw [encInst] at f4
    have n4 : h1.bn < h4.bn := by rw [u3]; exact n3
    simp -implicitDefEqProofs [f2, n2, f3, n3, f4, n4]
    refine appQ_i (b := [iX x.x]) a3 (by simp [AreI, iX, encItm]) u1 (by simp only [List.length_append, List.length_cons, List.length_nil, keyItems]; omega) fun t4 h5 e4 a4 v1 v2 v3 => ?_
    have hfin : A ++ [iN x.op 255, iN x.a 255, iN x.b 255, iN x.c 255] ++ keyItems x.k ++ keyItems x.l ++ [iX x.x] = iN l.length 8 :: (l.take (j + 1)).flatMap instItems := by
      rw [he, ← hA, instItems]; simp
    rw [hfin] at a4
    simp -implicitDefEqProofs [s4, inc_i64 hlt (show l.length ≤ _ by omega), -Int.natCast_add]
    exact ih (l.length - (j + 1)) _ _ (by omega) ⟨j + 1, t4, rfl, by omega, by simp [s0], ⟨e4, by simp, a4, v1⟩, by simp⟩
  · obtain rfl : j = l.length := by omega
    rw [List.take_length] at hA0
    simp -implicitDefEqProofs [s0, s3, s4]
    rw [encIs, progItems]
    exact congrArg (AV.sl .no) hA0
end Go.Proofs

/- What is written of footprints and classes, as items; the words of items: the document's answer. -/
namespace Go.Proofs
open Go Go.RowKit Go.Am

theorem stpI_n (s : Stp) (h : s.small) : (stpItems s).length ≤ 94 := by
  rw [stpItems, progItems, footItems, List.length_append, List.length_cons, List.length_cons, prog_n, foot_n]
  have := h.1; have := h.2; omega

end Go.Proofs

/- The words of items: the document's answer; what is the same as itself: the program's answer. -/
namespace Go.Proofs
open Go Go.RowKit Go.Am

theorem refWords_ok (l : List Item) (hl : l.length ≤ 5000) (hx : ∀ x ∈ l, x.ok ∧ x.l.length ≤ 100) : PCall Tryd.prog 24 [encIs l] (encW (writeAll l)) := by
  refine PCall.run hb24 ok24 (by simp) (pures1 (pure_encIs l)) (pure_w64 _) ?_
  simp -implicitDefEqProofs [encIs, H.nil]
  refine run_loop (fun m S h1 => ∃ (j : Nat) (t : Tok), m = l.length - j ∧ j ≤ l.length ∧ S 0 = .sl .no (l.map encItm) ∧ S 3 = .sl t ((writeAll (l.take j)).map w64) ∧ S 4 = .int .i64 j ∧ TLive h1 t (writeAll (l.take j)).length) ?_ l.length ?_
  rotate_left
  · exact ⟨0, .full, rfl, Nat.zero_le _, by simp, by simp [writeAll], by simp, trivial⟩
  rintro m S h1 ⟨j, t, hm, hj, s0, s3, s4, hL⟩ ih
  by_cases hlt : j < l.length
  · have hb := writeAll_len (l.take j) fun x hx' => (hx x (List.mem_of_mem_take hx')).2
    rw [List.length_take] at hb
    obtain ⟨x1, x2⟩ := hx _ (List.getElem_mem hlt)
    have hsnoc : writeAll (l.take (j + 1)) = writeAll (l.take j) ++ writeW l[j] := by
      unfold writeAll
      rw [List.take_succ_eq_append_getElem hlt, List.flatMap_append, List.flatMap_singleton]
    have e6 : (encItm l[j]).length = 6 := rfl
    have e7 : List.take 6 (encItm l[j]) = encItm l[j] := rfl
    simp -implicitDefEqProofs [s0, s3, s4, hlt, e6, e7]
    refine callQ_ex (refWrite_ok hL l[j] x1 (by omega)) fun r2 h2 ⟨t3, q2⟩ => ?_
    obtain ⟨rfl, p2, p3, p4⟩ := q2
    rw [← hsnoc] at p2
    rw [← hsnoc]
    simp -implicitDefEqProofs [s4, inc_i64 hlt (show l.length ≤ _ by omega), -Int.natCast_add]
    exact ih (l.length - (j + 1)) _ _ (by omega) ⟨j + 1, t3, rfl, by omega, by simp [s0], by simp, by simp, p2⟩
  · obtain rfl : j = l.length := by omega
    rw [List.take_length] at s3
    simp -implicitDefEqProofs [s0, s3, s4]

end Go.Proofs
