/- What the functions that the statement reaches do: their contracts; and what follows of it. -/
import Derived.Test.YtedmjhckiiponaaSClassWords7
import Derived.Test.YtedmjhckiiponaaSClassWords4
import Derived.Test.YtedmjhckiiponaaSClassWords1
/- What is written of footprints and classes, as items; the words of items: the document's answer. -/
namespace Go.Proofs
open Go Go.RowKit Go.Am

theorem refFootItems_ok (l : List SpanT) (h8 : l.length ≤ 4) : PCall Try.prog 98 [.sl .no (l.map encSpanT)] (encIs (footItems l)) := by
  refine PCall.run hb98 ok98 (by simp) (pures1 (elOK_SpanT.pureL l)) (pure_encIs _) ?_
  simp -implicitDefEqProofs [H.nil]
  refine run_loop (fun m S h1 => ∃ (j : Nat) (t : Tok), m = l.length - j ∧ j ≤ l.length ∧ S 0 = .sl .no (l.map encSpanT) ∧ (∃ es, S 3 = .sl t es ∧ AreI es (iN l.length 4 :: (l.take j).flatMap spanItems) ∧ TLive h1 t es.length) ∧ S 4 = .int .i64 j) ?_ l.length ?_
  rotate_left
  · exact ⟨0, .full, rfl, Nat.zero_le _, by simp, ⟨_, by simp; rfl, by simp [AreI, iN, encI], trivial⟩, by simp⟩
  rintro m S h1 ⟨j, t, hm, hj, s0, ⟨es, s3, hA0, hL⟩, s4⟩ ih
  by_cases hlt : j < l.length
  · have he := flat_snoc spanItems hlt
    have hn := foot_n (l.take j)
    rw [List.length_take] at hn
    generalize hxe : l[j] = x at he
    generalize hA : iN l.length 4 :: (l.take j).flatMap spanItems = A at hA0
    have hAl : A.length ≤ 80 := by rw [← hA]; simp only [List.length_cons]; omega
    have hfin : A ++ [iX x.lo.arg, iN x.lo.base 999, iX x.hi.arg, iN x.hi.base 999, iF x.write] = iN l.length 4 :: (l.take (j + 1)).flatMap spanItems := by
      rw [he, ← hA, spanItems, keyItems, keyItems]; simp
    cases hwr : x.write
    focus
      simp -implicitDefEqProofs [s0, s4, hlt, hxe, encSpanT, hwr]
    rotate_left
    focus
      simp -implicitDefEqProofs [s0, s4, hlt, hxe, encSpanT, hwr]
    all_goals
      refine run_dreg c98_d8 ?_
      simp -implicitDefEqProofs [s0, s3, s4, hlt, hxe, encSpanT]
      refine appQ_i (b := [iX x.lo.arg, iN x.lo.base 999, iX x.hi.arg, iN x.hi.base 999, iF x.write]) hA0 (by simp [AreI, iN, iX, iF, encI, hwr]) hL (by simp only [List.length_cons, List.length_nil]; omega) fun t1 h2 e1 a1 p1 p2 p3 => ?_
      rw [hfin] at a1
      simp -implicitDefEqProofs [s4, inc_i64 hlt (show l.length ≤ _ by omega), -Int.natCast_add]
      exact ih (l.length - (j + 1)) _ _ (by omega) ⟨j + 1, t1, rfl, by omega, by simp [s0], ⟨e1, by simp, a1, p1⟩, by simp⟩
  · obtain rfl : j = l.length := by omega
    rw [List.take_length] at hA0
    simp -implicitDefEqProofs [s0, s3, s4]
    rw [encIs, footItems]
    exact congrArg (AV.sl .no) hA0

theorem stpI_n (s : Stp) (h : s.small) : (stpItems s).length ≤ 94 := by
  rw [stpItems, progItems, footItems, List.length_append, List.length_cons, List.length_cons, prog_n, foot_n]
  have := h.1; have := h.2; omega

set_option maxHeartbeats 1000000 in
theorem refClsItems_ok (c : Cls) (hm : clsMay c = true) : PCall Try.prog 52 [.agg (encCls c)] (encIs (clsItems c)) := by
  refine PCall.run hb52 ok52 (by simp) (pures1 (.agg (pure_encCls c))) (pure_encIs _) ?_
  obtain ⟨c0, c4, hcs, css, csc⟩ := clsMay_small hm
  simp -implicitDefEqProofs [encCls, H.nil]
  refine run_loop (fun m S h1 => ∃ (j : Nat) (t : Tok), m = c.steps.length - j ∧ j ≤ c.steps.length ∧ S 1 = .ptr 0 0 ∧ 0 < h1.bn ∧ h1.bx 0 = some [.str c.name, .int .i64 c.args, .sl .no (c.steps.map encStp), .sl .no (c.comps.map encStp), .bool c.resume] ∧
    (∃ es, S 3 = .sl t es ∧ AreI es ([iS c.name, iN c.args 3, iN c.steps.length 4] ++ ((c.steps.zip c.comps).take j).flatMap pairItems) ∧ TLive h1 t es.length) ∧ S 4 = .int .i64 j ∧ (((c.steps.zip c.comps).take j).flatMap pairItems).length ≤ 188 * j) ?_ c.steps.length ?_
  rotate_left
  · exact ⟨0, .full, rfl, Nat.zero_le _, by simp, by simp, by simp, ⟨_, by simp; rfl, by simp [AreI, iN, iS, encI], trivial⟩, by simp, by simp⟩
  rintro m S h1 ⟨j, t, hm', hj, s1, n1, b1, ⟨es, s3, hA0, hL⟩, s4, hlen⟩ ih
  by_cases hlt : j < c.steps.length
  · have hlt2 : j < c.comps.length := by omega
    have hz : j < (c.steps.zip c.comps).length := by simp [hcs]; omega
    have he := flat_snoc pairItems hz
    have hzk : (c.steps.zip c.comps)[j] = (c.steps[j], c.comps[j]) := by simp
    rw [hzk] at he
    have sm1 := css _ (List.getElem_mem hlt)
    have sm2 := csc _ (List.getElem_mem hlt2)
    have sn1 := stpI_n _ sm1
    have sn2 := stpI_n _ sm2
    rw [stpItems, List.length_append] at sn1 sn2
    generalize hA : [iS c.name, iN c.args 3, iN c.steps.length 4] ++ ((c.steps.zip c.comps).take j).flatMap pairItems = A at hA0
    have hAl : A.length ≤ 1000 := by rw [← hA]; simp only [List.length_append, List.length_cons, List.length_nil]; omega
    simp -implicitDefEqProofs [s1, s3, s4, hlt, hlt2, n1, b1, encStp]
    refine callQ_p (refProgItems_ok c.steps[j].code sm1.1) (by simp) ?_
    simp -implicitDefEqProofs [encIs]
    refine appQ_i hA0 (AreI.self _) hL (by omega) fun t1 h2 e1 a1 p1 p2 p3 => ?_
    have b2 := (p2.bx 0 n1 fun h => h).trans b1
    have n2 : 0 < h2.bn := by rw [p3]; exact n1
    simp -implicitDefEqProofs [s1, s4, hlt, n2, b2, encStp]
    refine callQ_p (refFootItems_ok c.steps[j].foot sm1.2) (by simp) ?_
    simp -implicitDefEqProofs [encIs]
    refine appQ_i a1 (AreI.self _) p1 (by rw [List.length_append]; omega) fun t2 h3 e2 a2 q1 q2 q3 => ?_
    have b3 := (q2.bx 0 n2 fun h => h).trans b2
    have n3 : 0 < h3.bn := by rw [q3]; exact n2
    simp -implicitDefEqProofs [s1, s4, hlt2, n3, b3, encStp]
    refine callQ_p (refProgItems_ok c.comps[j].code sm2.1) (by simp) ?_
    simp -implicitDefEqProofs [encIs]
    refine appQ_i a2 (AreI.self _) q1 (by rw [List.length_append, List.length_append]; omega) fun t3 h4 e3 a3 r1 r2 r3 => ?_
    have b4 := (r2.bx 0 n3 fun h => h).trans b3
    have n4 : 0 < h4.bn := by rw [r3]; exact n3
    simp -implicitDefEqProofs [s1, s4, hlt2, n4, b4, encStp]
    refine callQ_p (refFootItems_ok c.comps[j].foot sm2.2) (by simp) ?_
    simp -implicitDefEqProofs [encIs]
    refine appQ_i a3 (AreI.self _) r1 (by rw [List.length_append, List.length_append, List.length_append]; omega) fun t4 h5 e4 a4 u1 u2 u3 => ?_
    have b5 := (u2.bx 0 n4 fun h => h).trans b4
    have n5 : 0 < h5.bn := by rw [u3]; exact n4
    have hfin : A ++ progItems c.steps[j].code ++ footItems c.steps[j].foot ++ progItems c.comps[j].code ++ footItems c.comps[j].foot = [iS c.name, iN c.args 3, iN c.steps.length 4] ++ ((c.steps.zip c.comps).take (j + 1)).flatMap pairItems := by
      rw [he, ← hA, pairItems, stpItems, stpItems]; simp
    rw [hfin] at a4
    simp -implicitDefEqProofs [s4, inc_i64 hlt (show c.steps.length ≤ _ by omega), -Int.natCast_add]
    exact ih (c.steps.length - (j + 1)) _ _ (by omega) ⟨j + 1, t4, rfl, by omega, by simp [s1], n5, b5, ⟨e4, by simp, a4, u1⟩, by simp, by
      have e1 : (pairItems (c.steps[j], c.comps[j])).length ≤ 188 := by
        simp only [pairItems, stpItems, List.length_append]; omega
      rw [he, List.length_append]; omega⟩
  · obtain rfl : j = c.steps.length := by omega
    rw [List.take_of_length_le (by simp; omega)] at hA0 hlen
    have hfin : [iS c.name, iN c.args 3, iN c.steps.length 4] ++ (c.steps.zip c.comps).flatMap pairItems ++ [iF c.resume] = clsItems c := rfl
    cases hr : c.resume
    · simp -implicitDefEqProofs [s1, s3, s4, n1, b1, hr]
      refine appQ_i (b := [iF c.resume]) hA0 (by simp [AreI, iF, encI, hr]) hL (by simp only [List.length_append, List.length_cons, List.length_nil]; omega) fun t1 h2 e1 a1 p1 p2 p3 => ?_
      rw [hfin] at a1
      simp -implicitDefEqProofs []
      exact congrArg (AV.sl .no) a1
    · simp -implicitDefEqProofs [s1, s3, s4, n1, b1, hr]
      refine appQ_i (b := [iF c.resume]) hA0 (by simp [AreI, iF, encI, hr]) hL (by simp only [List.length_append, List.length_cons, List.length_nil]; omega) fun t1 h2 e1 a1 p1 p2 p3 => ?_
      rw [hfin] at a1
      simp -implicitDefEqProofs []
      exact congrArg (AV.sl .no) a1
end Go.Proofs

/- Breakpoints that are counted; a catalogue's breakpoints that may be: plain laws. -/
namespace Go.Proofs
open Go Go.RowKit Go.Am

def sumN (f : Nat → Nat) : Nat → Nat
  | 0 => 0
  | k + 1 => sumN f k + f k
theorem sumN_le {f g : Nat → Nat} : ∀ k : Nat, (∀ j, j < k → f j ≤ g j) → sumN f k ≤ sumN g k
  | 0, _ => Nat.le_refl _
  | k + 1, h => Nat.add_le_add (sumN_le k fun j hj => h j (by omega)) (h k (by omega))
theorem sumN_congr {f g : Nat → Nat} : ∀ k : Nat, (∀ j, j < k → f j = g j) → sumN f k = sumN g k
  | 0, _ => rfl
  | k + 1, h => by rw [sumN, sumN, sumN_congr k fun j hj => h j (by omega), h k (by omega)]
theorem sumN_bound {f : Nat → Nat} {m : Nat} (hf : ∀ j, f j ≤ m) : ∀ k : Nat, sumN f k ≤ m * k
  | 0 => Nat.zero_le _
  | k + 1 => by
    have := sumN_bound hf k
    have := hf k
    rw [sumN, Nat.mul_add]; omega
theorem sumN_zero {f : Nat → Nat} (k : Nat) (h : ∀ j, j < k → f j = 0) : sumN f k = 0 := by
  have := sumN_congr (g := fun _ => 0) k h
  rw [this]
  have : ∀ k, sumN (fun _ => 0) k = 0 := fun k => by
    induction k with
    | zero => rfl
    | succ k ih => rw [sumN, ih]
  exact this k

def popc (v : Nat) : Nat := v % 2 + v / 2 % 2 + v / 4 % 2
theorem popc_le (v : Nat) : popc v ≤ 3 := by simp only [popc]; omega
def Ctlg.pcB (x : Ctlg) (c d : Nat) : Nat := popc (x.brk c d).toNat
def Ctlg.cntB (x : Ctlg) : Nat := sumN (fun c => sumN (fun d => x.pcB c d) x.classes.length) x.classes.length
def Ctlg.one (x : Ctlg) (c d i : Nat) : Nat := if x.brkAt c d i = true then 1 else 0

theorem may_brk {x : Ctlg} (h : catMay x = true) (c d : Nat) (hc : c < 4) (hd : d < 4) : 0 ≤ x.brk c d ∧ x.brk c d < x.mostB c d := by
  simp only [catMay, Bool.and_eq_true, Bool.not_eq_true', decide_eq_false_iff_not] at h
  obtain ⟨_, h4⟩ := h
  rw [List.all_eq_true] at h4
  have := h4 c (List.mem_range.2 hc)
  rw [List.all_eq_true] at this
  have := this d (List.mem_range.2 hd)
  simp only [Ctlg.brkOK, Bool.and_eq_true, Bool.not_eq_true', decide_eq_false_iff_not] at this
  omega

theorem bits_cnt : ∀ s : Fin 4, ∀ v : Fin 8, v.1 < 2 ^ s.1 → popc v = (if bitN v 0 = true ∧ 1 < s.1 + 1 then 1 else 0) + (if bitN v 1 = true ∧ 2 < s.1 + 1 then 1 else 0) + (if bitN v 2 = true ∧ 3 < s.1 + 1 then 1 else 0) := by decide

theorem pc_one {x : Ctlg} (hw : x.wf) (h : catMay x = true) {c d : Nat} (hc : c < x.classes.length) (hd : d < x.classes.length) : sumN (x.one c d) 4 = x.pcB c d := by
  obtain ⟨hs, hg⟩ := catMay_small hw h
  have h4 := hs.2.1
  obtain ⟨b0, b1⟩ := may_brk h c d (by omega) (by omega)
  obtain ⟨v, hv⟩ := Int.eq_ofNat_of_zero_le b0
  have hst : x.stepsN c = x.classes[c].steps.length := Ctlg.stepsN_of hc
  obtain ⟨s0, s4, _⟩ := hs.2.2.1 _ (List.getElem_mem hc)
  obtain ⟨s, hss⟩ : ∃ s, x.classes[c].steps.length = s + 1 := ⟨x.classes[c].steps.length - 1, by omega⟩
  rw [Ctlg.mostB, if_pos ⟨hc, hd⟩, hst, hss, hv] at b1
  have hv2 : v < 2 ^ s := by
    have e : s + 1 - 1 = s := by omega
    rw [e] at b1
    exact_mod_cast b1
  have hv8 : v < 8 := Nat.lt_of_lt_of_le hv2 (by
    have : (2 : Nat) ^ s ≤ 2 ^ 3 := Nat.pow_le_pow_right (by omega) (by omega)
    simpa using this)
  have hin : ∀ k : Nat, k < x.classes.length → x.inn k = true := fun k hk => by
    simp only [Ctlg.inn, Bool.and_eq_true, decide_eq_true_eq]; omega
  have hat : ∀ i : Nat, x.brkAt c d i = (decide (i + 1 < s + 1) && bitN v i) := fun i => by
    simp only [Ctlg.brkAt, hin c hc, hin d hd, Int.toNat_natCast, hst, hss, hv, Bool.true_and]
    congr 1
    rw [Bool.eq_iff_iff]
    simp
  have key := bits_cnt ⟨s, by omega⟩ ⟨v, hv8⟩ hv2
  simp only [Ctlg.pcB, hv, Int.toNat_natCast]
  rw [key]
  simp only [sumN, Ctlg.one, hat]
  have e3 : (decide (3 + 1 < s + 1) && bitN v 3) = false := by
    rw [Bool.and_eq_false_iff]; left; simp; omega
  rw [e3]
  simp only [Bool.and_eq_true, decide_eq_true_eq]
  simp only [and_comm]
  simp

theorem cnt_one {x : Ctlg} (hw : x.wf) (h : catMay x = true) : x.cntB = sumN (fun c => sumN (fun d => sumN (x.one c d) 4) x.classes.length) x.classes.length :=
  sumN_congr _ fun _ hc => sumN_congr _ fun _ hd => (pc_one hw h hc hd).symm

theorem with_may {x : Ctlg} (h : catMay x = true) {l : List Int} (hl : ∀ c d, c < 4 → d < 4 → (x.with l).brkOK c d = true) : catMay (x.with l) = true := by
  simp only [catMay, Bool.and_eq_true] at h ⊢
  refine ⟨h.1, ?_⟩
  rw [List.all_eq_true]
  intro c hc
  rw [List.all_eq_true]
  intro d hd
  exact hl c d (List.mem_range.1 hc) (List.mem_range.1 hd)

theorem turnL_at {n : Nat} (n4 : n ≤ 4) (t : Nat → Nat → Int) {c d : Nat} (hc : c < 4) (hd : d < 4) : ((turnL n t (n * n))[4 * c + d]?).getD 0 = if c < n ∧ d < n then t c d else 0 := by
  have hlt : 4 * c + d < (turnL n t (n * n)).length := by rw [turnL_len]; omega
  rw [List.getElem?_eq_getElem hlt, Option.getD_some, turnL_get, show (4 * c + d) / 4 = c by omega, show (4 * c + d) % 4 = d by omega]
  by_cases h : c < n ∧ d < n
  · have := Nat.mul_le_mul_right n (show c + 1 ≤ n by omega)
    rw [Nat.add_mul] at this
    rw [if_pos h, if_pos ⟨h.1, h.2, by omega⟩]
  · rw [if_neg h, if_neg fun q => h ⟨q.1, q.2.1⟩]

theorem open_may {x : Ctlg} (hw : x.wf) (h : catMay x = true) : catMay (openOf x) = true := by
  obtain ⟨hs, hg⟩ := catMay_small hw h
  refine with_may h fun c d hc hd => ?_
  have hb : (openOf x).brk c d = if c < x.classes.length ∧ d < x.classes.length then openT x c d else 0 := turnL_at hs.2.1 _ hc hd
  show (openOf x).brkOK c d = true
  simp only [Ctlg.brkOK, Bool.and_eq_true, Bool.not_eq_true', decide_eq_false_iff_not, hb]
  have hm : (openOf x).mostB c d = x.mostB c d := rfl
  rw [hm, Ctlg.mostB]
  by_cases hcd : c < x.classes.length ∧ d < x.classes.length
  · rw [if_pos hcd, if_pos hcd, openT, dif_pos hcd.1, Ctlg.stepsN_of hcd.1, Cls.all]
    obtain ⟨s0, s4, _⟩ := hs.2.2.1 _ (List.getElem_mem hcd.1)
    have : x.classes[c].steps.length - 1 = 0 ∨ x.classes[c].steps.length - 1 = 1 ∨ x.classes[c].steps.length - 1 = 2 ∨ x.classes[c].steps.length - 1 = 3 := by omega
    rcases this with e | e | e | e <;> rw [e] <;> decide
  · rw [if_neg hcd, if_neg hcd]; decide
theorem closed_brk (x : Ctlg) (c d : Nat) : (closedOf x).brk c d = 0 := by
  unfold Ctlg.brk closedOf Ctlg.with
  rcases h2 : (List.replicate 16 (0 : Int))[4 * c + d]? with _ | v
  · simp
  · have := List.eq_of_mem_replicate (List.mem_of_getElem? h2)
    simp [this]
theorem closed_may {x : Ctlg} (h : catMay x = true) : catMay (closedOf x) = true := by
  refine with_may h fun c d hc hd => ?_
  show (closedOf x).brkOK c d = true
  have hm : 1 ≤ (closedOf x).mostB c d := by
    rw [Ctlg.mostB]
    split
    · have : (0 : Int) < 2 ^ ((closedOf x).stepsN c - 1) := Int.pow_pos (by decide)
      omega
    · exact Int.le_refl _
  simp only [Ctlg.brkOK, Bool.and_eq_true, Bool.not_eq_true', decide_eq_false_iff_not, closed_brk]
  omega
theorem closed_cnt (x : Ctlg) : (closedOf x).cntB = 0 :=
  sumN_zero _ fun c _ => sumN_zero _ fun d _ => by rw [Ctlg.pcB, closed_brk]; rfl
theorem open_wf {x : Ctlg} (hw : x.wf) (h : catMay x = true) : (openOf x).wf := (open_good (catMay_small hw h).1 (catMay_small hw h).2).wf
theorem closed_wf {x : Ctlg} (hw : x.wf) (h : catMay x = true) : (closedOf x).wf := (closed_good (catMay_small hw h).1 (catMay_small hw h).2).wf
theorem brk_open {x : Ctlg} (hs : x.small) {c d i : Int} (h : x.brkAt c d i = true) : (openOf x).brkAt c d i = true := by
  have h0 := h
  simp only [Ctlg.brkAt, Ctlg.inn, Bool.and_eq_true, decide_eq_true_eq] at h
  obtain ⟨⟨⟨⟨⟨⟨a1, a2⟩, _⟩, ⟨b1, b2⟩, _⟩, i1⟩, i2⟩, _⟩ := h
  obtain ⟨c, rfl⟩ := Int.eq_ofNat_of_zero_le a1
  obtain ⟨d, rfl⟩ := Int.eq_ofNat_of_zero_le b1
  obtain ⟨i, rfl⟩ := Int.eq_ofNat_of_zero_le i1
  have hc : c < x.classes.length := by omega
  rw [open_at hs hc (by omega), decide_eq_true_eq]
  rw [Int.toNat_natCast, Ctlg.stepsN_of hc] at i2
  omega
theorem cnt_open {x : Ctlg} (hw : x.wf) (h : catMay x = true) : x.cntB ≤ (openOf x).cntB := by
  obtain ⟨hs, _⟩ := catMay_small hw h
  rw [cnt_one hw h, cnt_one (open_wf hw h) (open_may hw h)]
  refine sumN_le _ fun c _ => sumN_le _ fun d _ => sumN_le _ fun i _ => ?_
  simp only [Ctlg.one]
  by_cases hb : x.brkAt c d i = true
  · rw [if_pos hb, if_pos (brk_open hs hb)]; exact Nat.le_refl _
  · rw [if_neg hb]; exact Nat.zero_le _
theorem closed_none (x : Ctlg) (c d i : Int) : (closedOf x).brkAt c d i = false := by
  simp [Ctlg.brkAt, closed_brk, bitN]

/-- What is compared where a catalogue may be: each breakpoint with its own low bits. -/
def mayT (x : Ctlg) (c d : Nat) : Int := x.brk c d % 2 ^ (x.stepsN c - 1)
theorem may_turn {x : Ctlg} (n4 : x.classes.length ≤ 4) (hb : x.breaks.length = 16) : decide (x.breaks = turnL x.classes.length (mayT x) (x.classes.length * x.classes.length)) = (List.range 4).all fun c => (List.range 4).all (x.brkOK c) := by
  have hp : ∀ k : Nat, (0 : Int) < 2 ^ k := fun k => Int.pow_pos (by decide)
  rw [Bool.eq_iff_iff, decide_eq_true_eq, List.all_eq_true]
  constructor
  · intro h c hc
    rw [List.all_eq_true]
    intro d hd
    have hc := List.mem_range.1 hc
    have hd := List.mem_range.1 hd
    have hv : x.brk c d = if c < x.classes.length ∧ d < x.classes.length then mayT x c d else 0 := by
      have e : x.brk c d = ((turnL x.classes.length (mayT x) (x.classes.length * x.classes.length))[4 * c + d]?).getD 0 := by rw [Ctlg.brk, ← h]
      rw [e]; exact turnL_at n4 _ hc hd
    simp only [Ctlg.brkOK, Bool.and_eq_true, Bool.not_eq_true', decide_eq_false_iff_not]
    by_cases hcd : c < x.classes.length ∧ d < x.classes.length
    · have hmo : x.mostB c d = 2 ^ (x.stepsN c - 1) := if_pos hcd
      rw [if_pos hcd] at hv
      rw [mayT] at hv
      have := Int.emod_nonneg (x.brk c d) (b := 2 ^ (x.stepsN c - 1)) (by have := hp (x.stepsN c - 1); omega)
      have := Int.emod_lt_of_pos (x.brk c d) (hp (x.stepsN c - 1))
      omega
    · have hmo : x.mostB c d = 1 := if_neg hcd
      rw [if_neg hcd] at hv
      omega
  · intro h
    apply List.ext_getElem
    · rw [hb, turnL_len]
    intro i h1 h2
    have hc : i / 4 < 4 := by omega
    have hd : i % 4 < 4 := by omega
    have hh := h (i / 4) (List.mem_range.2 hc)
    rw [List.all_eq_true] at hh
    have hh := hh (i % 4) (List.mem_range.2 hd)
    simp only [Ctlg.brkOK, Bool.and_eq_true, Bool.not_eq_true', decide_eq_false_iff_not] at hh
    have hi : 4 * (i / 4) + i % 4 = i := by omega
    have ht := turnL_at n4 (mayT x) hc hd
    rw [hi, List.getElem?_eq_getElem h2, Option.getD_some] at ht
    have hx : x.brk (i / 4) (i % 4) = x.breaks[i] := by rw [Ctlg.brk_of hb hc hd]; simp only [hi]
    rw [ht, ← hx]
    by_cases hcd : i / 4 < x.classes.length ∧ i % 4 < x.classes.length
    · have hmo : x.mostB (i / 4) (i % 4) = 2 ^ (x.stepsN (i / 4) - 1) := if_pos hcd
      rw [if_pos hcd, mayT, Int.emod_eq_of_lt] <;> omega
    · have hmo : x.mostB (i / 4) (i % 4) = 1 := if_neg hcd
      rw [if_neg hcd]
      omega

theorem cells_ints : ∀ (l m : List Int), l.length = m.length → cellsEq (List.replicate l.length LK.i) (l.map (AV.int .i64)) (m.map (AV.int .i64)) = some (decide (l = m))
  | [], [], _ => rfl
  | a :: l, b :: m, h => by
    have ih := cells_ints l m (by simpa using h)
    rw [List.length_cons, List.replicate_succ, List.map_cons, List.map_cons]
    simp only [cellsEq, cellEq, if_true, Option.bind_some, ih, Option.map_some]
    congr 1
    rw [Bool.eq_iff_iff]
    simp
  | [], _ :: _, h => by simp at h
  | _ :: _, [], h => by simp at h
end Go.Proofs

/- What is the same as itself: the document's answer. -/
namespace Go.Proofs
open Go Go.RowKit Go.Am

theorem same09_ok (l : List Inst) (hl : l.length ≤ 9223372036854775807) : PCall Try.prog 125 [.sl .no (l.map encInst), .sl .no (l.map encInst)] (.bool true) := by
  refine PCall.run hb125 ok125 (by simp) (pures_cons (elOK_Inst.pureL l) (pures1 (elOK_Inst.pureL l))) (.bool _) ?_
  simp -implicitDefEqProofs []
  refine run_loop (fun n s h => ∃ j : Nat, n = l.length - j ∧ j ≤ l.length ∧ s 0 = .sl .no (l.map encInst) ∧ s 1 = .sl .no (l.map encInst) ∧ s 5 = .int .i64 j) ?_ l.length ?_
  rotate_left
  · exact ⟨0, by simp⟩
  rintro n s h ⟨j, hn, hj, s0, s1, s5⟩ ih
  by_cases hlt : j < l.length
  · simp -implicitDefEqProofs [s0, s5, hlt]
    refine run_dregL c125_d6 rfl ?_
    simp -implicitDefEqProofs [s0, s1, s5, hlt, encInst, inc_i64 hlt hl, -Int.natCast_add]
    exact ih (l.length - (j + 1)) _ _ (by omega) ⟨j + 1, rfl, by omega, by simp [s0], by simp [s1], by simp⟩
  · simp -implicitDefEqProofs [s0, s5, hlt]

theorem same10_ok (l : List SpanT) (hl : l.length ≤ 9223372036854775807) : PCall Try.prog 126 [.sl .no (l.map encSpanT), .sl .no (l.map encSpanT)] (.bool true) := by
  refine PCall.run hb126 ok126 (by simp) (pures_cons (elOK_SpanT.pureL l) (pures1 (elOK_SpanT.pureL l))) (.bool _) ?_
  simp -implicitDefEqProofs []
  refine run_loop (fun n s h => ∃ j : Nat, n = l.length - j ∧ j ≤ l.length ∧ s 0 = .sl .no (l.map encSpanT) ∧ s 1 = .sl .no (l.map encSpanT) ∧ s 5 = .int .i64 j) ?_ l.length ?_
  rotate_left
  · exact ⟨0, by simp⟩
  rintro n s h ⟨j, hn, hj, s0, s1, s5⟩ ih
  by_cases hlt : j < l.length
  · simp -implicitDefEqProofs [s0, s5, hlt]
    refine run_dregL c126_d6 rfl ?_
    simp -implicitDefEqProofs [s0, s1, s5, hlt, encSpanT, inc_i64 hlt hl, -Int.natCast_add]
    exact ih (l.length - (j + 1)) _ _ (by omega) ⟨j + 1, rfl, by omega, by simp [s0], by simp [s1], by simp⟩
  · simp -implicitDefEqProofs [s0, s5, hlt]

theorem sameSteps_ok (l : List Stp) (hl : l.length ≤ 9223372036854775807) (hw : ∀ s ∈ l, s.code.length ≤ 9223372036854775807 ∧ s.foot.length ≤ 9223372036854775807) : PCall Try.prog 89 [.sl .no (l.map encStp), .sl .no (l.map encStp)] (.bool true) := by
  refine PCall.run hb89 ok89 (by simp) (pures_cons (elOK_Stp.pureL l) (pures1 (elOK_Stp.pureL l))) (.bool _) ?_
  simp -implicitDefEqProofs []
  refine run_loop (fun n s h => ∃ j : Nat, n = l.length - j ∧ j ≤ l.length ∧ s 0 = .sl .no (l.map encStp) ∧ s 1 = .sl .no (l.map encStp) ∧ s 5 = .int .i64 j) ?_ l.length ?_
  rotate_left
  · exact ⟨0, by simp⟩
  rintro n s h ⟨j, hn, hj, s0, s1, s5⟩ ih
  by_cases hlt : j < l.length
  · obtain ⟨w1, w2⟩ := hw _ (List.getElem_mem hlt)
    simp -implicitDefEqProofs [s0, s5, hlt]
    refine run_dregL c89_d6 rfl ?_
    simp -implicitDefEqProofs [s0, s1, s5, hlt, encStp]
    refine callC_p (same09_ok l[j].code w1) (by simp) ?_
    simp -implicitDefEqProofs [s0, s1, s5, hlt, encStp]
    refine callC_p (same10_ok l[j].foot w2) (by simp) ?_
    simp -implicitDefEqProofs [s5, inc_i64 hlt hl, -Int.natCast_add]
    exact ih (l.length - (j + 1)) _ _ (by omega) ⟨j + 1, rfl, by omega, by simp [s0], by simp [s1], by simp⟩
  · simp -implicitDefEqProofs [s0, s5, hlt]

theorem same11_ok (c : Cls) (hc : c.wf) : PCall Try.prog 45 [.agg (encCls c), .agg (encCls c)] (.bool true) := by
  refine PCall.run hb45 ok45 (by simp) (pures_cons (.agg (pure_encCls c)) (pures1 (.agg (pure_encCls c)))) (.bool _) ?_
  obtain ⟨hwn, hwa, ⟨hsl, hsw⟩, hcl, hcw⟩ := hc
  have h1 : ∀ s : Stp, s.wf → s.code.length ≤ 9223372036854775807 ∧ s.foot.length ≤ 9223372036854775807 := fun s hs => ⟨hs.1.1, hs.2.1⟩
  simp -implicitDefEqProofs [encCls]
  refine callQ_p (sameSteps_ok c.steps hsl fun s hs => h1 s (hsw s hs)) (by simp) ?_
  simp -implicitDefEqProofs []
  refine callQ_p (sameSteps_ok c.comps hcl fun s hs => h1 s (hcw s hs)) (by simp) ?_
  simp -implicitDefEqProofs []

theorem same12_ok (x : Ctlg) (hx : x.wf) : PCall Try.prog 41 [.agg (encCtlg x), .agg (encCtlg x)] (.bool true) := by
  refine PCall.run hb41 ok41 (by simp) (pures_cons (.agg (pure_encCtlg x)) (pures1 (.agg (pure_encCtlg x)))) (.bool _) ?_
  have htk := x.take16 hx.2.1
  obtain ⟨⟨hcl, hcw⟩, hbl, hbw⟩ := hx
  have hce : cellsEq (List.replicate 16 LK.i) (x.breaks.map (AV.int .i64)) (x.breaks.map (AV.int .i64)) = some true := by
    have := cells_ints x.breaks x.breaks rfl
    rw [hbl] at this
    simpa using this
  simp only [List.replicate] at hce
  simp -implicitDefEqProofs [encCtlg, htk, hbl, hce]
  refine run_loop (fun n s h => ∃ j : Nat, n = x.classes.length - j ∧ j ≤ x.classes.length ∧ s 2 = .ptr 0 0 ∧ s 3 = .ptr 1 0 ∧ 1 < h.bn ∧ h.bx 0 = some (.sl .no (x.classes.map encCls) :: x.breaks.map (AV.int .i64)) ∧ h.bx 1 = some (.sl .no (x.classes.map encCls) :: x.breaks.map (AV.int .i64)) ∧ s 5 = .int .i64 j) ?_ x.classes.length ?_
  rotate_left
  · exact ⟨0, by simp [H.nil]⟩
  rintro n s h ⟨j, hn, hj, s2, s3, b0, b1, b2, s5⟩ ih
  by_cases hlt : j < x.classes.length
  · simp -implicitDefEqProofs [s2, b1, s5, hlt, show 0 < h.bn by omega]
    refine run_dregL c41_d6 rfl ?_
    simp -implicitDefEqProofs [s2, s3, b0, b1, b2, s5, hlt, show 0 < h.bn by omega]
    refine callC_p (same11_ok x.classes[j] (hcw _ (List.getElem_mem hlt))) (by simp) ?_
    simp -implicitDefEqProofs [s5, inc_i64 hlt hcl, -Int.natCast_add]
    exact ih (x.classes.length - (j + 1)) _ _ (by omega) ⟨j + 1, rfl, by omega, by simp [s2], by simp [s3], by simpa using b0, by simp [b1], by simp [b2], by simp⟩
  · simp -implicitDefEqProofs [s2, b1, s5, hlt, show 0 < h.bn by omega]
end Go.Proofs

/- The words of items: the document's answer; what is the same as itself: the program's answer. -/
namespace Go.Proofs
open Go Go.RowKit Go.Am

theorem refWords_ok (l : List Item) (hl : l.length ≤ 5000) (hx : ∀ x ∈ l, x.ok ∧ x.l.length ≤ 100) : PCall Try.prog 51 [encIs l] (encW (writeAll l)) := by
  refine PCall.run hb51 ok51 (by simp) (pures1 (pure_encIs l)) (pure_w64 _) ?_
  simp -implicitDefEqProofs [encIs, H.nil]
  refine run_loop (fun m S h1 => ∃ (j : Nat) (t : Tok), m = l.length - j ∧ j ≤ l.length ∧ S 0 = .sl .no (l.map encI) ∧ S 3 = .sl t ((writeAll (l.take j)).map w64) ∧ S 4 = .int .i64 j ∧ TLive h1 t (writeAll (l.take j)).length) ?_ l.length ?_
  rotate_left
  · exact ⟨0, .full, rfl, Nat.zero_le _, by simp, by simp [writeAll], by simp, trivial⟩
  rintro m S h1 ⟨j, t, hm, hj, s0, s3, s4, hL⟩ ih
  by_cases hlt : j < l.length
  · have hb := writeAll_len (l.take j) fun x hx' => (hx x (List.mem_of_mem_take hx')).2
    rw [List.length_take] at hb
    obtain ⟨x1, x2⟩ := hx _ (List.getElem_mem hlt)
    have hsnoc : writeAll (l.take (j + 1)) = writeAll (l.take j) ++ writeW l[j] := by
      unfold writeAll
      rw [List.take_succ_eq_append_getElem hlt, List.flatMap_append, List.flatMap_singleton]
    have e6 : (encI l[j]).length = 6 := rfl
    have e7 : List.take 6 (encI l[j]) = encI l[j] := rfl
    simp -implicitDefEqProofs [s0, s3, s4, hlt, e6, e7]
    refine callQ_ex (refWrite_ok hL l[j] x1 (by omega)) fun r2 h2 ⟨t3, q2⟩ => ?_
    obtain ⟨rfl, p2, p3, p4⟩ := q2
    rw [← hsnoc] at p2
    rw [← hsnoc]
    simp -implicitDefEqProofs [s4, inc_i64 hlt (show l.length ≤ _ by omega), -Int.natCast_add]
    exact ih (l.length - (j + 1)) _ _ (by omega) ⟨j + 1, t3, rfl, by omega, by simp [s0], by simp, by simp, p2⟩
  · obtain rfl : j = l.length := by omega
    rw [List.take_length] at s3
    simp -implicitDefEqProofs [s0, s3, s4]

theorem eqSelfInst_ok (l : List Inst) (hl : l.length ≤ 9223372036854775807) : PCall Try.prog 135 [.sl .no (l.map encInst), .sl .no (l.map encInst)] (.bool true) := by
  refine PCall.run hb135 ok135 (by simp) (pures_cons (elOK_Inst.pureL l) (pures1 (elOK_Inst.pureL l))) (.bool _) ?_
  simp -implicitDefEqProofs []
  refine run_loop (fun n s h => ∃ j : Nat, n = l.length - j ∧ j ≤ l.length ∧ s 0 = .sl .no (l.map encInst) ∧ s 1 = .sl .no (l.map encInst) ∧ s 12 = .int .i64 l.length ∧ s 13 = .int .i64 j) ?_ l.length ?_
  rotate_left
  · exact ⟨0, by simp⟩
  rintro n s h ⟨j, hn, hj, s0, s1, s12, s13⟩ ih
  by_cases hlt : j < l.length
  · simp -implicitDefEqProofs [s12, s13, hlt]
    refine run_dregL c135_d7 rfl ?_
    simp -implicitDefEqProofs [s0, s1, s13, hlt, encInst, inc_i64 hlt hl, -Int.natCast_add]
    exact ih (l.length - (j + 1)) _ _ (by omega) ⟨j + 1, rfl, by omega, by simp [s0], by simp [s1], by simp [s12], by simp⟩
  · simp -implicitDefEqProofs [s12, s13, hlt]
theorem eqSelfSpanT_ok (l : List SpanT) (hl : l.length ≤ 9223372036854775807) : PCall Try.prog 136 [.sl .no (l.map encSpanT), .sl .no (l.map encSpanT)] (.bool true) := by
  refine PCall.run hb136 ok136 (by simp) (pures_cons (elOK_SpanT.pureL l) (pures1 (elOK_SpanT.pureL l))) (.bool _) ?_
  simp -implicitDefEqProofs []
  refine run_loop (fun n s h => ∃ j : Nat, n = l.length - j ∧ j ≤ l.length ∧ s 0 = .sl .no (l.map encSpanT) ∧ s 1 = .sl .no (l.map encSpanT) ∧ s 12 = .int .i64 l.length ∧ s 13 = .int .i64 j) ?_ l.length ?_
  rotate_left
  · exact ⟨0, by simp⟩
  rintro n s h ⟨j, hn, hj, s0, s1, s12, s13⟩ ih
  by_cases hlt : j < l.length
  · simp -implicitDefEqProofs [s12, s13, hlt]
    refine run_dregL c136_d7 rfl ?_
    simp -implicitDefEqProofs [s0, s1, s13, hlt, encSpanT, inc_i64 hlt hl, -Int.natCast_add]
    exact ih (l.length - (j + 1)) _ _ (by omega) ⟨j + 1, rfl, by omega, by simp [s0], by simp [s1], by simp [s12], by simp⟩
  · simp -implicitDefEqProofs [s12, s13, hlt]
theorem sameStep_ok (s : Stp) (hs : s.wf) : PCall Try.prog 100 [.agg (encStp s), .agg (encStp s)] (.bool true) := by
  refine PCall.run hb100 ok100 (by simp) (pures_cons (.agg (pure_encStp s)) (pures1 (.agg (pure_encStp s)))) (.bool _) ?_
  simp -implicitDefEqProofs [encStp, H.nil]
  refine callQ_p (eqSelfInst_ok s.code hs.1.1) (by simp) ?_
  simp -implicitDefEqProofs []
  refine callQ_p (eqSelfSpanT_ok s.foot hs.2.1) (by simp) ?_
  simp -implicitDefEqProofs []
theorem eqFunc_ok (l : List Stp) (hl : l.length ≤ 9223372036854775807) (hw : ∀ s ∈ l, s.wf) : PCall Try.prog 99 [.sl .no (l.map encStp), .sl .no (l.map encStp), .fn 100 [] []] (.bool true) := by
  refine PCall.run hb99 ok99 (by simp) (pures_cons (elOK_Stp.pureL l) (pures_cons (elOK_Stp.pureL l) (pures1 (.fn pures_nil pures_nil)))) (.bool _) ?_
  simp -implicitDefEqProofs []
  refine run_loop (fun n s h => ∃ j : Nat, n = l.length - j ∧ j ≤ l.length ∧ s 1 = .sl .no (l.map encStp) ∧ s 2 = .fn 100 [] [] ∧ s 15 = .sl .no (l.map encStp) ∧ s 16 = .int .i64 l.length ∧ s 17 = .int .i64 j) ?_ l.length ?_
  rotate_left
  · exact ⟨0, by simp⟩
  rintro n s h ⟨j, hn, hj, s1, s2, s15, s16, s17⟩ ih
  by_cases hlt : j < l.length
  · simp -implicitDefEqProofs [s1, s2, s15, s16, s17, hlt, encStp]
    refine callQ_p (sameStep_ok l[j] (hw _ (List.getElem_mem hlt))) (by simp [encStp]) ?_
    simp -implicitDefEqProofs [s17, inc_i64 hlt hl, -Int.natCast_add]
    exact ih (l.length - (j + 1)) _ _ (by omega) ⟨j + 1, rfl, by omega, by simp [s1], by simp [s2], by simp [s15], by simp [s16], by simp⟩
  · simp -implicitDefEqProofs [s16, s17, hlt]
theorem classSame_ok (c : Cls) (hc : c.wf) : PCall Try.prog 53 [.agg (encCls c), .agg (encCls c)] (.bool true) := by
  refine PCall.run hb53 ok53 (by simp) (pures_cons (.agg (pure_encCls c)) (pures1 (.agg (pure_encCls c)))) (.bool _) ?_
  obtain ⟨hwn, hwa, ⟨hsl, hsw⟩, hcl, hcw⟩ := hc
  simp -implicitDefEqProofs [encCls, H.nil]
  refine callQ_p (eqFunc_ok c.steps hsl hsw) (by simp) ?_
  simp -implicitDefEqProofs []
  refine callQ_p (eqFunc_ok c.comps hcl hcw) (by simp) ?_
  simp -implicitDefEqProofs []
end Go.Proofs

/- Reading of codes, as lists: what is read of words; a text's bytes in words. -/
namespace Go.Proofs
open Go Go.RowKit Go.Am

def numF (f : Nat → Nat) (a : Nat) : Nat → Nat
  | 0 => 0
  | k + 1 => f a + 256 * numF f (a + 1) k

theorem num_numF (s : ByteArray) : ∀ (k a : Nat), num s a k = numF (byteAt s) a k
  | 0, _ => rfl
  | k + 1, a => by simp only [num, numF, num_numF s k (a + 1)]

theorem numF_congr {f g : Nat → Nat} : ∀ {k a : Nat}, (∀ j, a ≤ j → j < a + k → f j = g j) → numF f a k = numF g a k
  | 0, _, _ => rfl
  | k + 1, a, h => by
    simp only [numF]
    rw [h a (by omega) (by omega), numF_congr (k := k) (a := a + 1) fun j h1 h2 => h j (by omega) (by omega)]

theorem numF_inj {f g : Nat → Nat} (hf : ∀ j, f j < 256) (hg : ∀ j, g j < 256) : ∀ {k a : Nat}, numF f a k = numF g a k → ∀ j, a ≤ j → j < a + k → f j = g j
  | 0, a, _, j, h1, h2 => by omega
  | k + 1, a, h, j, h1, h2 => by
    simp only [numF] at h
    have hfa := hf a
    have hga := hg a
    by_cases hj : j = a
    · subst hj; omega
    · exact numF_inj hf hg (k := k) (a := a + 1) (by omega) j (by omega) (by omega)

theorem numF_digit {f : Nat → Nat} (hf : ∀ j, f j < 256) : ∀ {i k a : Nat}, i < k → numF f a k / 256 ^ i % 256 = f (a + i)
  | _, 0, _, h => by omega
  | 0, k + 1, a, _ => by
    have := hf a
    simp only [numF, Nat.pow_zero, Nat.div_one, Nat.add_zero]
    omega
  | i + 1, k + 1, a, h => by
    have h1 := hf a
    have e : numF f a (k + 1) / 256 ^ (i + 1) = numF f (a + 1) k / 256 ^ i := by
      rw [Nat.pow_succ, Nat.mul_comm, ← Nat.div_div_eq_div_mul]
      congr 1
      simp only [numF]
      omega
    rw [e, numF_digit hf (i := i) (k := k) (a := a + 1) (by omega)]
    congr 1
    omega

theorem numF_whole {f : Nat → Nat} : ∀ {k w a : Nat}, w < 256 ^ k → (∀ j, j < k → f (a + j) = w / 256 ^ j % 256) → numF f a k = w
  | 0, w, _, h, _ => by simp only [Nat.pow_zero] at h; simp only [numF]; omega
  | k + 1, w, a, h, hf => by
    have h0 := hf 0 (by omega)
    have ih := numF_whole (f := f) (k := k) (w := w / 256) (a := a + 1) (by rw [Nat.pow_succ] at h; omega) fun j hj => by
      have := hf (j + 1) (by omega)
      rw [show a + 1 + j = a + (j + 1) by omega, this, Nat.pow_succ, Nat.mul_comm, ← Nat.div_div_eq_div_mul]
    simp only [Nat.add_zero, Nat.pow_zero, Nat.div_one] at h0
    simp only [numF, ih, h0]
    omega

/-- The byte at a place of words. -/
def wbyte (ws : List Nat) (j : Nat) : Nat := ws.getD (j / 8) 0 / 256 ^ (j % 8) % 256
theorem wbyte_lt (ws : List Nat) (j : Nat) : wbyte ws j < 256 := Nat.mod_lt _ (by omega)
def unpack (n : Nat) (ws : List Nat) : ByteArray := ⟨((List.range n).map fun j => UInt8.ofNat (wbyte ws j)).toArray⟩
theorem unpack_size (n : Nat) (ws : List Nat) : (unpack n ws).size = n := by
  show (unpack n ws).data.size = n
  simp [unpack]
theorem byteAt_unpack (n : Nat) (ws : List Nat) (j : Nat) : byteAt (unpack n ws) j = if j < n then wbyte ws j else 0 := by
  by_cases h : j < n
  · have h' : (unpack n ws).data[j]? = some (UInt8.ofNat (wbyte ws j)) := by simp [unpack, h]
    have := wbyte_lt ws j
    simp only [byteAt, h', if_pos h, UInt8.toNat_ofNat']
    omega
  · rw [byteAt_out (by rw [unpack_size]; exact h), if_neg h]

theorem wbyte_word {ws : List Nat} (hw : ∀ w ∈ ws, w < 18446744073709551616) (i : Nat) : numF (wbyte ws) (8 * i) 8 = ws.getD i 0 := by
  refine numF_whole (k := 8) ?_ fun j hj => ?_
  · by_cases h : i < ws.length
    · rw [List.getD_eq_getElem?_getD, List.getElem?_eq_getElem h]
      exact hw _ (List.getElem_mem h)
    · rw [List.getD_eq_getElem?_getD, List.getElem?_eq_none (by omega)]
      simp
  · unfold wbyte
    rw [show (8 * i + j) / 8 = i by omega, show (8 * i + j) % 8 = j by omega]

/-- Words that are a text's: what is behind its bytes is 0. -/
theorem packed_unpack {n : Nat} {ws : List Nat} (hl : ws.length = (n + 7) / 8) (hw : ∀ w ∈ ws, w < 18446744073709551616) : packed (unpack n ws) = ws ↔ ∀ j, n ≤ j → j < 8 * ws.length → wbyte ws j = 0 := by
  have hlen : (packed (unpack n ws)).length = ws.length := by rw [packed_len, unpack_size, hl]
  have hat : ∀ i, i < ws.length → (packed (unpack n ws)).getD i 0 = numF (byteAt (unpack n ws)) (8 * i) 8 := fun i hi => by
    rw [List.getD_eq_getElem?_getD, packed]
    rw [unpack_size, ← hl]
    simp only [List.getElem?_map, List.getElem?_range hi, Option.map_some, Option.getD_some, num_numF]
  constructor
  · intro h j h1 h2
    have e := hat (j / 8) (by omega)
    rw [h, ← wbyte_word hw] at e
    have := numF_inj (wbyte_lt ws) (fun j => byteAt_lt _ j) e j (by omega) (by omega)
    rw [this, byteAt_unpack, if_neg (by omega)]
  · intro h
    refine List.ext_getElem hlen fun i h1 h2 => ?_
    have e := hat i h2
    rw [List.getD_eq_getElem?_getD, List.getElem?_eq_getElem h1] at e
    have e2 := wbyte_word hw i
    rw [List.getD_eq_getElem?_getD, List.getElem?_eq_getElem h2] at e2
    simp only [Option.getD_some] at e e2
    rw [e, ← e2]
    refine numF_congr fun j h3 h4 => ?_
    rw [byteAt_unpack]
    split
    · rfl
    · exact (h j (by omega) (by omega)).symm

theorem bytes_ext {s t : ByteArray} (hs : s.size = t.size) (h : ∀ j, j < s.size → byteAt s j = byteAt t j) : s = t := by
  have : s.data = t.data := by
    refine Array.ext hs fun j h1 h2 => ?_
    have := h j h1
    simp only [byteAt, Array.getElem?_eq_getElem h1, Array.getElem?_eq_getElem h2] at this
    exact UInt8.toNat_inj.1 this
  cases s; cases t; simp_all

theorem wbyte_packed (s : ByteArray) {j : Nat} (h : j < 8 * ((s.size + 7) / 8)) : wbyte (packed s) j = byteAt s j := by
  have e : (packed s).getD (j / 8) 0 = numF (byteAt s) (8 * (j / 8)) 8 := by
    rw [List.getD_eq_getElem?_getD, packed]
    have hi : j / 8 < (s.size + 7) / 8 := by omega
    simp only [List.getElem?_map, List.getElem?_range hi, Option.map_some, Option.getD_some, num_numF]
  unfold wbyte
  rw [e, numF_digit (byteAt_lt s) (by omega)]
  congr 1
  omega

theorem unpack_packed (s : ByteArray) : unpack s.size (packed s) = s := by
  refine bytes_ext (unpack_size _ _) fun j hj => ?_
  rw [unpack_size] at hj
  rw [byteAt_unpack, if_pos hj, wbyte_packed s (by omega)]

theorem packed_lt (s : ByteArray) : ∀ w ∈ packed s, w < 18446744073709551616 := fun w hw => by
  obtain ⟨i, _, rfl⟩ := List.mem_map.1 hw
  exact num8_lt s _

/-! ### What is read -/
def backI (w : Nat) : Int := if w % 2 = 0 then ((w / 2 : Nat) : Int) else -((w / 2 : Nat) : Int) - 1
theorem backI_signed (x : Int) : backI (signed x) = x := by
  unfold backI signed
  split <;> split <;> omega
theorem backI_in {w : Nat} (h : w < 18446744073709551616) : -9223372036854775808 ≤ backI w ∧ backI w ≤ 9223372036854775807 := by
  unfold backI
  split <;> omega
theorem signed_lt {x : Int} (h1 : -9223372036854775808 ≤ x) (h2 : x ≤ 9223372036854775807) : signed x < 18446744073709551616 := by
  unfold signed
  split <;> omega

/-- What is read of words: a value, and what is left. -/
abbrev Rd (α : Type) := List Nat → Option (α × List Nat)
def rdCount (most : Int) : Rd Int
  | [] => none
  | w :: l => if 0 ≤ most ∧ (w : Int) ≤ most then some ((w : Int), l) else none
def rdSigned : Rd Int
  | [] => none
  | w :: l => some (backI w, l)
def rdFlag : Rd Bool := fun l => (rdCount 1 l).map fun p => (decide (p.1 = 1), p.2)
def rdTake (n : Nat) : Rd (List Nat) := fun l => if n ≤ l.length then some (l.take n, l.drop n) else none
def rdWords (most : Int) : Rd (List Nat) := fun l => (rdCount most l).bind fun p => rdTake p.1.toNat p.2
def rdText : Rd ByteArray := fun l => (rdCount 64 l).bind fun p => (rdTake ((p.1.toNat + 7) / 8) p.2).bind fun q => if packed (unpack p.1.toNat q.1) = q.1 then some (unpack p.1.toNat q.1, q.2) else none

theorem rdText_write (s : ByteArray) (l : List Nat) : rdText (textW s ++ l) = some (cut64 s, l) := by
  have h := cut64_size s
  have hl := packed_len (cut64 s)
  have e1 : rdCount 64 (textW s ++ l) = some (((cut64 s).size : Int), packed (cut64 s) ++ l) := by
    simp only [textW, rdCount, List.cons_append]
    rw [if_pos (by omega)]
  simp only [rdText, e1, Option.bind_some, Int.toNat_natCast]
  have e2 : rdTake (((cut64 s).size + 7) / 8) (packed (cut64 s) ++ l) = some (packed (cut64 s), l) := by
    unfold rdTake
    rw [if_pos (by rw [List.length_append, hl]; omega), ← hl, List.take_left, List.drop_left]
  rw [e2]
  simp only [Option.bind_some, unpack_packed, if_true]
end Go.Proofs
