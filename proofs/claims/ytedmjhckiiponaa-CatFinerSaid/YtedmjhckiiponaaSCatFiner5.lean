/- What the functions that the statement reaches do: their contracts; and what follows of it. -/
import Derived.Test.YtedmjhckiiponaaSCatFiner4
import Derived.Test.YtedmjhckiiponaaK4
/- The steps of a class, over which one ranges; which classes there may be: the program's answer. -/
namespace Go.Proofs
open Go Go.RowKit Go.Am

theorem each_ok (c : Cls) (h : H) : SCall Try.prog 95 [.agg (encCls c)] h (.fn 131 [] [.ptr h.bn 0]) (h.alloc (encCls c)) := by
  refine SCall.newG (fun b => .fn 131 [] [.ptr b 0]) (fun _ _ _ _ _ _ _ h1 h2 => Low.fn1 (Low.ptr h1 h2)) (CallP.run hb95 ok95 (by simp) ?_) (pure_encCls c)
  simp -implicitDefEqProofs [encCls]
  exact ⟨HF.alloc _ _ _ _, WkL.refl _⟩

/-- One round after the other, as long as one goes on. -/
theorem each1_ok (c : Cls) (hl : c.comps.length = c.steps.length) (hm : c.steps.length ≤ 9223372036854775807) {l b : Nat} {h : H} (I : Nat → H → Prop) (J : H → Prop) (hI : ∀ k h', I k h' → b < h'.bn ∧ h'.bx b = some (encCls c)) (hJ : ∀ h', J h' → b < h'.bn ∧ h'.bx b = some (encCls c))
    (hr : ∀ k h' (h1 : k < c.steps.length) (h2 : k < c.comps.length), I k h' → ∃ r h'', SYld Try.prog l [.agg (encStp c.steps[k]), .agg (encStp c.comps[k])] h' (.bool r) h'' ∧ (r = true → I (k + 1) h'') ∧ (r = false → J h''))
    (h0 : I 0 h) : CallP Try.prog 131 [.yld l, .ptr b 0] h fun _ h1 => I c.steps.length h1 ∨ J h1 := by
  refine CallP.run hb131 ok131 (by simp) ?_
  obtain ⟨b1, b2⟩ := hI _ _ h0
  simp -implicitDefEqProofs [b1, b2, encCls, hl]
  refine run_loop (fun m s h1 => ∃ j : Nat, m = c.steps.length - j ∧ j ≤ c.steps.length ∧ s 0 = .yld l ∧ s 1 = .ptr b 0 ∧ s 10 = .int .i64 c.steps.length ∧ s 11 = .int .i64 j ∧ I j h1) ?_ c.steps.length ?_
  rotate_left
  · exact ⟨0, by simpa using h0⟩
  rintro m s h1 ⟨j, hn, hj, s0, s1, s10, s11, hi⟩ ih
  by_cases hlt : j < c.steps.length
  · have hlt2 : j < c.comps.length := by omega
    obtain ⟨b1, b2⟩ := hI _ _ hi
    rw [encCls] at b2
    simp -implicitDefEqProofs [s10, s11, hlt]
    refine run_dreg c131_d4 ?_
    simp -implicitDefEqProofs [s0, s1, b1, b2, hlt, hlt2, encStp]
    obtain ⟨r, h2, q1, q2, q3⟩ := hr j h1 hlt hlt2 hi
    refine callD_y q1 (by simp [encStp]) ?_
    cases r
    · obtain ⟨b3, b4⟩ := hJ _ (q3 rfl)
      rw [encCls] at b4
      simp -implicitDefEqProofs [b1, b2, b3, b4]
      exact Or.inr (q3 rfl)
    · obtain ⟨b3, b4⟩ := hI _ _ (q2 rfl)
      rw [encCls] at b4
      simp -implicitDefEqProofs [b1, b2, b3, b4, s11, inc_i64 hlt hm, -Int.natCast_add]
      exact ih (c.steps.length - (j + 1)) _ _ (by omega) ⟨j + 1, rfl, by omega, by simp [s0], by simp [s1], by simp [s10], by simp, q2 rfl⟩
  · obtain rfl : j = c.steps.length := by omega
    simp -implicitDefEqProofs [s10, s11]
    exact Or.inl hi
end Go.Proofs

/- Which classes there may be: the program's answer. -/
namespace Go.Proofs
open Go Go.RowKit Go.Am

theorem stepMay_parts (a : Int) (s u : Stp) : stepMay a (s, u) = (progMay s.code a && footMay s.foot a && compMay u a) := by
  rw [comp_back, stepMay]
  cases progMay s.code a <;> cases footMay s.foot a <;> cases footMay u.foot a <;> cases backMay u a <;> rfl

set_option maxHeartbeats 1000000 in
theorem classMay_ok (c : Cls) (hc : c.wf) : PCall Try.prog 84 [.agg (encCls c)] (.bool (clsMay c)) := by
  refine PCall.run hb84 ok84 (by simp) (pures1 (.agg (pure_encCls c))) (.bool _) ?_
  obtain ⟨hwn, hwa, ⟨hsl, hsw⟩, hcl, hcw⟩ := hc
  by_cases bad : (((((((c.name.size : Int) < 1 ∨ (16 : Int) < (c.name.size : Int)) ∨ c.args < 0) ∨ 3 < c.args) ∨ (c.steps.length : Int) < 1) ∨ (4 : Int) < (c.steps.length : Int)) ∨ ¬ c.comps.length = c.steps.length)
  · have hf : clsMay c = false := by
      simp only [clsMay, Bool.and_eq_false_iff, Bool.not_eq_false', decide_eq_true_eq, decide_eq_false_iff_not]
      omega
    simp (maxSteps := 2000000) +contextual -implicitDefEqProofs [↓gdL_T, ↓gdL_F, ↓condQ_b, -Int.not_lt, -Int.not_le, -Nat.not_lt, -Nat.not_le, hf, encCls, H.nil]
    all_goals (intros; omega)
  have hm : clsMay c = (c.steps.zip c.comps).all (stepMay c.args) := by
    simp only [clsMay, show ¬ c.name.size < 1 by omega, show ¬ 16 < c.name.size by omega, show ¬ c.args < 0 by omega, show ¬ 3 < c.args by omega, show ¬ c.steps.length < 1 by omega, show ¬ 4 < c.steps.length by omega, show c.comps.length = c.steps.length by omega]
    simp
  have hcs : c.comps.length = c.steps.length := by omega
  have e1 : ¬ (c.name.size : Int) < 1 := by omega
  have e2 : ¬ (16 : Int) < (c.name.size : Int) := by omega
  have e3 : ¬ c.args < 0 := by omega
  have e4 : ¬ 3 < c.args := by omega
  have e5 : ¬ (c.steps.length : Int) < 1 := by omega
  have e6 : ¬ (4 : Int) < (c.steps.length : Int) := by omega
  simp -implicitDefEqProofs [encCls, H.nil, e1, e2, e3, e4, e5, e6, hcs]
  refine callQ_s (each_ok c _) (by simp [encCls]) ?_
  simp -implicitDefEqProofs []
  generalize hS : (su _ 45 _ : Slots) = S
  have s1 : S 1 = .ptr 0 0 := by rw [← hS]; simp
  have s2 : S 2 = .ptr 1 0 := by rw [← hS]; simp
  have s45 : S 45 = .fn 131 [] [.ptr 2 0] := by rw [← hS]; simp
  clear hS
  have hzl : (c.steps.zip c.comps).length = c.steps.length := by simp [hcs]
  let q0 : LoopA := ⟨S, [46, 47], c84_x10, c84_y11, .ready, none⟩
  let qE : LoopA := ⟨S, [46, 47], c84_x10, c84_y11, .done, some .ret⟩
  let I : Nat → H → Prop := fun k h1 => 0 < h1.ln ∧ h1.lp 0 = some q0 ∧ 3 ≤ h1.bn ∧ h1.bx 0 = some (encCls c) ∧ h1.bx 1 = some [.bool false] ∧ h1.bx 2 = some (encCls c) ∧ ∀ i (hi : i < (c.steps.zip c.comps).length), i < k → stepMay c.args (c.steps.zip c.comps)[i] = true
  let J : H → Prop := fun h1 => 0 < h1.ln ∧ h1.lp 0 = some qE ∧ 3 ≤ h1.bn ∧ h1.bx 1 = some [.bool false] ∧ h1.bx 2 = some (encCls c) ∧ (c.steps.zip c.comps).all (stepMay c.args) = false
  refine .rngf (Z := fun _ h1 => I c.steps.length h1 ∨ J h1) (F := 131) (first := []) (caps := [.ptr 2 0]) rfl (by simpa using s45) (each1_ok c hcs hsl I J (fun k h' ⟨_, _, q1, _, _, q2, _⟩ => ⟨by omega, q2⟩) (fun h' ⟨_, _, q1, _, q2, _⟩ => ⟨by omega, q2⟩) ?_ ?_) ?_ ?_
  · rintro k h' k1 k2 ⟨j1, j2, j3, j4, j5, j6, j7⟩
    have hws := hsw _ (List.getElem_mem k1)
    have hwc := hcw _ (List.getElem_mem k2)
    have hp1 := hws.1.1
    have hp2 := hws.2.1
    have hlz : k < (c.steps.zip c.comps).length := by omega
    have j4' := j4
    rw [encCls] at j4
    have b1 : 0 < h'.bn := by omega
    have hbad : stepMay c.args (c.steps[k], c.comps[k]) = false → Run Try.prog true [.c c84_x10, .beg 0, .c c84_y11] (roundQ 0 fun r1 h1 => r1 = .bool false ∧ h1.lp 0 = some qE ∧ HF h' (h1.setLoop 0 (some q0)) (fun _ => False) (fun _ => False)) (slotsP S [46, 47] [.agg (encStp c.steps[k]), .agg (encStp c.comps[k])]) h' → ∃ r h'', SYld Try.prog 0 [.agg (encStp c.steps[k]), .agg (encStp c.comps[k])] h' (.bool r) h'' ∧ (r = true → I (k + 1) h'') ∧ (r = false → J h'') := fun hn hrun => by
      refine ⟨false, _, SYld.ro (q := q0) (q' := qE) j1 j2 rfl rfl (.bool _) hrun, (fun h => by cases h), fun _ => ⟨by simpa using j1, by simp, by simpa using j3, by simpa using j5, by simpa using j6, ?_⟩⟩
      exact all_take_false hlz (by rw [List.getElem_zip]; exact hn)
    have hgood : stepMay c.args (c.steps[k], c.comps[k]) = true → Run Try.prog true [.c c84_x10, .beg 0, .c c84_y11] (roundQ 0 fun r1 h1 => r1 = .bool true ∧ h1.lp 0 = some q0 ∧ HF h' (h1.setLoop 0 (some q0)) (fun _ => False) (fun _ => False)) (slotsP S [46, 47] [.agg (encStp c.steps[k]), .agg (encStp c.comps[k])]) h' → ∃ r h'', SYld Try.prog 0 [.agg (encStp c.steps[k]), .agg (encStp c.comps[k])] h' (.bool r) h'' ∧ (r = true → I (k + 1) h'') ∧ (r = false → J h'') := fun hn hrun => by
      refine ⟨true, _, SYld.ro (q := q0) (q' := q0) j1 j2 rfl rfl (.bool _) hrun, fun _ => ⟨by simpa using j1, by simp, by simpa using j3, by simpa using j4', by simpa using j5, by simpa using j6, fun i hi hij => ?_⟩, fun h => by cases h⟩
      by_cases h : i = k
      · subst h; rw [List.getElem_zip]; exact hn
      · exact j7 i hi (by omega)
    rw [stepMay_parts] at hbad hgood
    have z0 : ¬ 0 = h'.bn := by omega
    have z1 : ¬ 0 = h'.bn + 1 := by omega
    have z2 : ¬ 1 = h'.bn := by omega
    have z3 : ¬ 1 = h'.bn + 1 := by omega
    have z4 : ¬ h'.bn = 0 := by omega
    have b2 : 1 < h'.bn := by omega
    have c0 : 0 < h'.bn + 1 + 1 := by omega
    have c1 : 1 < h'.bn + 1 + 1 := by omega
    cases hp : progMay c.steps[k].code c.args
    · refine hbad (by simp [hp]) ?_
      simp -implicitDefEqProofs [slotsP, s1, j1, j2, j4, z0, z4, c0, q0, encStp]
      refine callQ_p (progMay_ok c.steps[k].code c.args hp1) (by simp) ?_
      simp -implicitDefEqProofs [slotsP, s2, j1, j5, z2, z4, c1, q0, roundQ, encStp, hp]
      refine ⟨rfl, by simp; omega, fun b hb hn => ?_, by simp, by simp, by simp, fun l hl => ?_, by simp, by simp⟩
      · by_cases h1 : b = 1
        · subst h1; simp [j5]
        · simp [show ¬ b = h'.bn by omega, show ¬ b = h'.bn + 1 by omega, h1]
      · by_cases h0 : l = 0
        · subst h0; simp [j2, q0]
        · simp [h0]
    cases hq : footMay c.steps[k].foot c.args
    · refine hbad (by simp [hp, hq]) ?_
      simp -implicitDefEqProofs [slotsP, s1, j1, j2, j4, z0, z4, c0, q0, encStp]
      refine callQ_p (progMay_ok c.steps[k].code c.args hp1) (by simp) ?_
      simp -implicitDefEqProofs [slotsP, s1, j4, z0, z4, c0, encStp, hp]
      refine callQ_p (footMay_ok c.steps[k].foot c.args hp2) (by simp) ?_
      simp -implicitDefEqProofs [slotsP, s2, j1, j5, z2, z4, c1, q0, roundQ, encStp, hq]
      refine ⟨rfl, by simp; omega, fun b hb hn => ?_, by simp, by simp, by simp, fun l hl => ?_, by simp, by simp⟩
      · by_cases h1 : b = 1
        · subst h1; simp [j5]
        · simp [show ¬ b = h'.bn by omega, show ¬ b = h'.bn + 1 by omega, h1]
      · by_cases h0 : l = 0
        · subst h0; simp [j2, q0]
        · simp [h0]
    cases hr : compMay c.comps[k] c.args
    · refine hbad (by simp [hp, hq, hr]) ?_
      simp -implicitDefEqProofs [slotsP, s1, j1, j2, j4, z0, z4, c0, q0, encStp]
      refine callQ_p (progMay_ok c.steps[k].code c.args hp1) (by simp) ?_
      simp -implicitDefEqProofs [slotsP, s1, j4, z0, z4, c0, encStp, hp]
      refine callQ_p (footMay_ok c.steps[k].foot c.args hp2) (by simp) ?_
      simp -implicitDefEqProofs [slotsP, s1, j4, z0, z4, c0, encStp, hq]
      refine callQ_p (mayComp_ok c.comps[k] c.args hwc) (by simp [encStp]) ?_
      simp -implicitDefEqProofs [slotsP, s2, j1, j5, z2, z4, c1, q0, roundQ, encStp, hr]
      refine ⟨rfl, by simp; omega, fun b hb hn => ?_, by simp, by simp, by simp, fun l hl => ?_, by simp, by simp⟩
      · by_cases h1 : b = 1
        · subst h1; simp [j5]
        · simp [show ¬ b = h'.bn by omega, show ¬ b = h'.bn + 1 by omega, h1]
      · by_cases h0 : l = 0
        · subst h0; simp [j2, q0]
        · simp [h0]
    · refine hgood (by simp [hp, hq, hr]) ?_
      simp -implicitDefEqProofs [slotsP, s1, j1, j2, j4, z0, z4, c0, q0, encStp]
      refine callQ_p (progMay_ok c.steps[k].code c.args hp1) (by simp) ?_
      simp -implicitDefEqProofs [slotsP, s1, j4, z0, z4, c0, encStp, hp]
      refine callQ_p (footMay_ok c.steps[k].foot c.args hp2) (by simp) ?_
      simp -implicitDefEqProofs [slotsP, s1, j4, z0, z4, c0, encStp, hq]
      refine callQ_p (mayComp_ok c.comps[k] c.args hwc) (by simp [encStp]) ?_
      simp -implicitDefEqProofs [slotsP, j1, q0, roundQ, encStp, hr]
      refine ⟨by simp; omega, fun b hb hn => ?_, by simp, by simp, by simp, fun l hl => ?_, by simp, by simp⟩
      · by_cases h1 : b = 1
        · subst h1; simp [j5, z2, z4]
        · simp [show ¬ b = h'.bn by omega, show ¬ b = h'.bn + 1 by omega]
      · by_cases h0 : l = 0
        · subst h0; simp [j2, q0]
        · simp [h0]
  · exact ⟨by simp, by simp [q0], by simp, by simp [encCls], by simp, by simp [encCls], fun i hi hij => absurd hij (by omega)⟩
  · rintro v h2 (⟨j1, j2, _⟩ | ⟨j1, j2, _⟩)
    · exact ⟨j1, _, j2, by simp [q0]⟩
    · exact ⟨j1, _, j2, by simp [qE]⟩
  · rintro v h2 q (⟨j1, j2, j3, j4, j5, j6, j7⟩ | ⟨j1, j2, j3, j5, j6, j7⟩) hq
    · have hw := all_whole (p := stepMay c.args) (l := c.steps.zip c.comps) (j := c.steps.length) (by omega) j7
      replace hq : h2.lp 0 = some q := hq
      rw [j2] at hq
      cases hq
      simp -implicitDefEqProofs [pendK, q0, s2, j5, show 1 < h2.bn by omega, hm, hw]
    · replace hq : h2.lp 0 = some q := hq
      rw [j2] at hq
      cases hq
      simp -implicitDefEqProofs [pendK, qE, s2, j5, show 1 < h2.bn by omega, hm, j7]
end Go.Proofs

/- Breakpoints: the document's answer and the program's. -/
namespace Go.Proofs
open Go Go.RowKit Go.Am

def bitN (b i : Nat) : Bool := decide (b / 2 ^ i % 2 = 1)
def Ctlg.inn (x : Ctlg) (c : Int) : Bool := decide (0 ≤ c) && decide (c < (x.classes.length : Int)) && decide (c < 4)
def Ctlg.brkAt (x : Ctlg) (c d i : Int) : Bool := x.inn c && x.inn d && decide (0 ≤ i) && decide (i + 1 < (x.stepsN c.toNat : Int)) && bitN (x.brk c.toNat d.toNat).toNat i.toNat

theorem refBit_ok (b : Nat) (i : Nat) (hb : b < 9223372036854775808) (hi : i < 9223372036854775808) : PCall Try.prog 79 [.int .i64 b, .int .i64 i] (.bool (bitN b i)) := by
  refine PCall.run hb79 ok79 (by simp) (pures_cons (.int _ _) (pures1 (.int _ _))) (.bool _) ?_
  simp -implicitDefEqProofs []
  refine run_loop (fun n s h => ∃ j m : Nat, n = i - j ∧ j ≤ i ∧ m = b / 2 ^ j ∧ s 0 = .int .i64 m ∧ s 1 = .int .i64 i ∧ s 5 = .int .i64 j) ?_ i ?_
  · rintro n s h ⟨j, m, hn, hj, hm, h0, h1, h5⟩ ih
    have hd : m ≤ b := hm ▸ Nat.div_le_self _ _
    by_cases hlt : j < i
    · have hq : IntKind.i64.wrap ((m : Int).tdiv 2) = ((m / 2 : Nat) : Int) := by
        rw [Int.tdiv_eq_ediv_of_nonneg (by omega), wrap_i64] <;> omega
      have hq2 : IntKind.i64.wrap ((m : Int) / 2) = (m : Int) / 2 := by
        rw [wrap_i64] <;> omega
      simp -implicitDefEqProofs [h0, h1, h5, hlt, -Int.natCast_ediv, inc_i64 hlt (by omega), -Int.natCast_add]
      exact ih (i - (j + 1)) _ _ (by omega) ⟨j + 1, m / 2, rfl, by omega, by rw [hm, Nat.div_div_eq_div_mul, Nat.pow_succ], by simp [hq2], by simp [h1], by simp⟩
    · obtain rfl : j = i := by omega
      have hr : IntKind.i64.wrap ((m : Int).tmod 2) = ((m % 2 : Nat) : Int) := by
        rw [Int.tmod_eq_emod_of_nonneg (by omega), wrap_i64] <;> omega
      have hr2 : (m : Int).tmod 2 = ((m % 2 : Nat) : Int) := by
        rw [Int.tmod_eq_emod_of_nonneg (by omega)]; omega
      have he : ((m % 2 : Nat) : Int) = 1 ↔ m % 2 = 1 := by omega
      simp -implicitDefEqProofs [h0, h1, h5, hr2, he, -Int.natCast_emod]
      simp [bitN, hm]
  · exact ⟨0, b, by simp⟩

theorem Ctlg.take16 (x : Ctlg) (hb : x.breaks.length = 16) : List.take 16 (x.breaks.map (AV.int .i64)) = x.breaks.map (AV.int .i64) := List.take_of_length_le (by simp [hb])

theorem refBreak_ok (x : Ctlg) (hx : x.wf) (hp : ∀ c d, 0 ≤ x.brk c d) {c d i : Int} (hc : inI c) (hd : inI d) (hi : inI i) : PCall Try.prog 38 [.agg (encCtlg x), .int .i64 c, .int .i64 d, .int .i64 i] (.bool (x.brkAt c d i)) := by
  refine PCall.run hb38 ok38 (by simp) (pures_cons (.agg (pure_encCtlg x)) (pures_cons (.int _ _) (pures_cons (.int _ _) (pures1 (.int _ _))))) (.bool _) ?_
  obtain ⟨⟨hcl, hcw⟩, hbl, hbw⟩ := hx
  by_cases a1 : 0 ≤ c
  rotate_left
  · simp -implicitDefEqProofs [encCtlg, Ctlg.brkAt, Ctlg.inn, a1]
  obtain ⟨c, rfl⟩ := Int.eq_ofNat_of_zero_le a1
  by_cases a2 : c < x.classes.length
  rotate_left
  · simp -implicitDefEqProofs [encCtlg, Ctlg.brkAt, Ctlg.inn, a2]
  by_cases a3 : (c : Int) < 4
  rotate_left
  · simp -implicitDefEqProofs [encCtlg, Ctlg.brkAt, Ctlg.inn, a2, a3]
  by_cases b1 : 0 ≤ d
  rotate_left
  · simp -implicitDefEqProofs [encCtlg, Ctlg.brkAt, Ctlg.inn, a2, a3, b1]
  obtain ⟨d, rfl⟩ := Int.eq_ofNat_of_zero_le b1
  by_cases b2 : d < x.classes.length
  rotate_left
  · simp -implicitDefEqProofs [encCtlg, Ctlg.brkAt, Ctlg.inn, a2, a3, b2]
  by_cases b3 : (d : Int) < 4
  rotate_left
  · simp -implicitDefEqProofs [encCtlg, Ctlg.brkAt, Ctlg.inn, a2, a3, b2, b3]
  by_cases i1 : 0 ≤ i
  rotate_left
  · simp -implicitDefEqProofs [encCtlg, Ctlg.brkAt, Ctlg.inn, a2, a3, b2, b3, i1]
  obtain ⟨i, rfl⟩ := Int.eq_ofNat_of_zero_le i1
  have hbk := Ctlg.brk_load (x := x) (.sl .no (x.classes.map encCls)) hbl (show c < 4 by omega) (show d < 4 by omega)
  obtain ⟨b, hbe⟩ := Int.eq_ofNat_of_zero_le (hp c d)
  have hbi : inI (x.brk c d) := by
    rw [Ctlg.brk_of hbl (show c < 4 by omega) (show d < 4 by omega)]
    exact hbw _ (List.getElem_mem _)
  simp only [inI] at hbi hi hbe
  rw [hbe] at hbk hbi
  have hsl := (hcw _ (List.getElem_mem a2)).2.2.1.1
  simp only [maxLen] at hsl
  by_cases i2 : (i : Int) + 1 < x.classes[c].steps.length
  · simp -implicitDefEqProofs [encCtlg, a2, a3, b2, b3, encCls, hbl, hbk, show 1 + c * 4 + d + 1 ≤ 16 + 1 by omega, wrap_i64 (show -9223372036854775808 ≤ (i : Int) + 1 by omega) (by omega), i2]
    refine callQ_p (refBit_ok b i (by omega) (by omega)) (by simp) ?_
    simp -implicitDefEqProofs [Ctlg.brkAt, Ctlg.inn, a2, a3, b2, b3, hbe, Ctlg.stepsN_of a2, i2]
  by_cases i3 : (i : Int) = 9223372036854775807
  · simp -implicitDefEqProofs [encCtlg, a2, a3, b2, b3, encCls, hbl, hbk, show 1 + c * 4 + d + 1 ≤ 16 + 1 by omega, show IntKind.i64.wrap ((i : Int) + 1) = -9223372036854775808 by rw [i3]; decide, show (-9223372036854775808 : Int) < x.classes[c].steps.length by omega]
    refine callQ_p (refBit_ok b i (by omega) (by omega)) (by simp) ?_
    have hz : bitN b i = false := by
      have hb2 : b < 2 ^ i := by
        have h63 : (2 : Nat) ^ 63 ≤ 2 ^ i := Nat.pow_le_pow_right (by omega) (by omega)
        have h64 : (2 : Nat) ^ 63 = 9223372036854775808 := by decide
        rw [h64] at h63
        exact Nat.lt_of_lt_of_le (by omega) h63
      simp [bitN, Nat.div_eq_of_lt hb2]
    simp -implicitDefEqProofs [Ctlg.brkAt, Ctlg.inn, a2, a3, b2, b3, hbe, Ctlg.stepsN_of a2, i2, hz]
  · simp -implicitDefEqProofs [encCtlg, a2, a3, b2, b3, encCls, hbl, wrap_i64 (show -9223372036854775808 ≤ (i : Int) + 1 by omega) (by omega), i2, Ctlg.brkAt, Ctlg.inn, Ctlg.stepsN_of a2]

theorem refThere_ok (x : Ctlg) (_ : x.wf) {c : Int} (_ : inI c) : PCall Try.prog 22 [.agg (encCtlg x), .int .i64 c] (.bool (decide (0 ≤ c) && decide (c < (x.classes.length : Int)))) := by
  refine PCall.run hb22 ok22 (by simp) (pures_cons (.agg (pure_encCtlg x)) (pures1 (.int _ _))) (.bool _) ?_
  by_cases a1 : 0 ≤ c
  · simp -implicitDefEqProofs [encCtlg, a1]
  · simp -implicitDefEqProofs [encCtlg, a1]

theorem there_ok (x : Ctlg) (_ : x.wf) {c : Int} (_ : inI c) : PCall Try.prog 62 [.agg (encCtlg x), .int .i64 c] (.bool (x.inn c)) := by
  refine PCall.run hb62 ok62 (by simp) (pures_cons (.agg (pure_encCtlg x)) (pures1 (.int _ _))) (.bool _) ?_
  by_cases a1 : 0 ≤ c
  · by_cases a2 : c < (x.classes.length : Int)
    · simp -implicitDefEqProofs [encCtlg, a1, a2, Ctlg.inn]
    · simp -implicitDefEqProofs [encCtlg, a1, a2, Ctlg.inn]
  · simp -implicitDefEqProofs [encCtlg, a1, Ctlg.inn]

/-- The unit of a step, as the document counts: how many breakpoints there are before it. -/
def Ctlg.unitN (x : Ctlg) (c d : Int) (i : Nat) : Nat := ((List.range i).filter fun j : Nat => x.brkAt c d j).length

theorem refUnit_ok (x : Ctlg) (hx : x.wf) (hp : ∀ c d, 0 ≤ x.brk c d) {c d : Int} (hc : inI c) (hd : inI d) {i : Nat} (hi : i < 9223372036854775808) : PCall Try.prog 73 [.agg (encCtlg x), .int .i64 c, .int .i64 d, .int .i64 i] (.int .i64 (x.unitN c d i)) := by
  refine PCall.run hb73 ok73 (by simp) (pures_cons (.agg (pure_encCtlg x)) (pures_cons (.int _ _) (pures_cons (.int _ _) (pures1 (.int _ _))))) (.int _ _) ?_
  simp -implicitDefEqProofs [encCtlg]
  refine run_loop (fun n s h => ∃ j : Nat, n = i - j ∧ j ≤ i ∧ s 4 = .ptr 0 0 ∧ 0 < h.bn ∧ h.bx 0 = some ([.sl .no (x.classes.map encCls)] ++ x.breaks.map (AV.int .i64)) ∧ s 1 = .int .i64 c ∧ s 2 = .int .i64 d ∧ s 3 = .int .i64 i ∧ s 10 = .int .i64 j ∧ s 9 = .int .i64 (x.unitN c d j)) ?_ i ?_
  · rintro n s h ⟨j, hn, hj, h4, h0, hb, h1, h2, h3, h10, h9⟩ ih
    by_cases hlt : j < i
    · have hle : x.unitN c d j ≤ j := Nat.le_trans (List.length_filter_le _ _) (by simp)
      have hsu : x.unitN c d (j + 1) = x.unitN c d j + (if x.brkAt c d j then 1 else 0) := by
        unfold Ctlg.unitN
        rw [List.range_succ, List.filter_append, List.length_append]
        by_cases h : x.brkAt c d j <;> simp [h]
      simp -implicitDefEqProofs [h4, h0, hb, h1, h2, h3, h10, hlt, hx.2.1]
      refine callQ_p (refBreak_ok x hx hp hc hd (i := j) (by simp only [inI]; omega)) (by simp [encCtlg, x.take16 hx.2.1]) ?_
      cases hbr : x.brkAt c d j
      · simp -implicitDefEqProofs [h10, inc_i64 hlt (by omega), -Int.natCast_add]
        exact ih (i - (j + 1)) _ _ (by omega) ⟨j + 1, rfl, by omega, by simp [h4], by simpa using h0, by simp [hb], by simp [h1], by simp [h2], by simp [h3], by simp, by simp [h9, hsu, hbr]⟩
      · simp -implicitDefEqProofs [h9, h10, inc_i64 hlt (by omega), inc_i64 (show x.unitN c d j < i by omega) (by omega), -Int.natCast_add]
        exact ih (i - (j + 1)) _ _ (by omega) ⟨j + 1, rfl, by omega, by simp [h4], by simpa using h0, by simp [hb], by simp [h1], by simp [h2], by simp [h3], by simp, by simp [hsu, hbr]⟩
    · obtain rfl : j = i := by omega
      simp -implicitDefEqProofs [h3, h10, h9]
  · exact ⟨0, by simp [H.nil, Ctlg.unitN]⟩
end Go.Proofs

/- Units: their bounds, the document's and the program's. -/
namespace Go.Proofs
open Go Go.RowKit Go.Am

/-! ### The plain law -/
def loF (p : Nat → Bool) : Nat → Nat
  | 0 => 0
  | i + 1 => if p i then i + 1 else loF p i
def hiF (p : Nat → Bool) : Nat → Nat → Nat
  | 0, i => i
  | k + 1, i => if p i then i else hiF p k (i + 1)

theorem loF_le (p : Nat → Bool) (i : Nat) : loF p i ≤ i := by
  induction i with
  | zero => simp [loF]
  | succ i ih => simp only [loF]; split <;> omega
theorem loF_no (p : Nat → Bool) (i : Nat) : ∀ j, loF p i ≤ j → j < i → p j = false := by
  induction i with
  | zero => intro j _ h; omega
  | succ i ih =>
    intro j h1 h2
    simp only [loF] at h1
    split at h1
    · omega
    · by_cases h : j = i
      · subst h; simp_all
      · exact ih j h1 (by omega)
theorem loF_at (p : Nat → Bool) (i : Nat) : loF p i = 0 ∨ p (loF p i - 1) = true := by
  induction i with
  | zero => simp [loF]
  | succ i ih =>
    simp only [loF]
    split
    · right; simpa
    · exact ih
theorem hiF_ge (p : Nat → Bool) (k i : Nat) : i ≤ hiF p k i ∧ hiF p k i ≤ i + k := by
  induction k generalizing i with
  | zero => simp [hiF]
  | succ k ih =>
    simp only [hiF]
    have := ih (i + 1)
    split <;> omega
theorem hiF_no (p : Nat → Bool) (k i : Nat) : ∀ j, i ≤ j → j < hiF p k i → p j = false := by
  induction k generalizing i with
  | zero => intro j h1 h2; simp only [hiF] at h2; omega
  | succ k ih =>
    intro j h1 h2
    simp only [hiF] at h2
    split at h2
    · omega
    · by_cases h : j = i
      · subst h; simp_all
      · exact ih (i + 1) j (by omega) h2
theorem hiF_at (p : Nat → Bool) (k i : Nat) : hiF p k i = i + k ∨ p (hiF p k i) = true := by
  induction k generalizing i with
  | zero => simp [hiF]
  | succ k ih =>
    simp only [hiF]
    split
    · right; assumption
    · rcases ih (i + 1) with h | h
      · left; omega
      · right; exact h

/-- How many there are below. -/
def cntF (p : Nat → Bool) : Nat → Nat
  | 0 => 0
  | j + 1 => cntF p j + if p j then 1 else 0
theorem cntF_mono (p : Nat → Bool) {a b : Nat} (h : a ≤ b) : cntF p a ≤ cntF p b := by
  induction b with
  | zero => have : a = 0 := by omega
            subst this; exact Nat.le_refl _
  | succ b ih =>
    by_cases hb : a = b + 1
    · subst hb; exact Nat.le_refl _
    · have := ih (by omega)
      simp only [cntF]; omega
theorem cntF_same (p : Nat → Bool) {a b : Nat} (h : a ≤ b) (hn : ∀ j, a ≤ j → j < b → p j = false) : cntF p a = cntF p b := by
  induction b with
  | zero => have : a = 0 := by omega
            subst this; rfl
  | succ b ih =>
    by_cases hb : a = b + 1
    · subst hb; rfl
    · have h1 := ih (by omega) fun j h1 h2 => hn j h1 (by omega)
      have h2 := hn b (by omega) (by omega)
      simp [cntF, h1, h2]
theorem cntF_iff (p : Nat → Bool) {n i k : Nat} (hi : i < n) (hk : k < n) : cntF p k = cntF p i ↔ loF p i ≤ k ∧ k ≤ hiF p (n - 1 - i) i := by
  have l1 := loF_le p i
  have l2 := loF_no p i
  have l3 := loF_at p i
  have g1 := hiF_ge p (n - 1 - i) i
  have g2 := hiF_no p (n - 1 - i) i
  have g3 := hiF_at p (n - 1 - i) i
  generalize loF p i = lo at *
  generalize hiF p (n - 1 - i) i = hh at *
  constructor
  · intro he
    constructor
    · apply Nat.le_of_not_lt
      intro hlt
      rcases l3 with h | h
      · omega
      · have a1 := cntF_mono p (show k ≤ lo - 1 by omega)
        have a2 : cntF p (lo - 1 + 1) = cntF p (lo - 1) + 1 := by simp [cntF, h]
        have a3 := cntF_mono p (show lo - 1 + 1 ≤ i by omega)
        omega
    · apply Nat.le_of_not_lt
      intro hlt
      rcases g3 with h | h
      · omega
      · have a1 := cntF_mono p (show i ≤ hh by omega)
        have a2 : cntF p (hh + 1) = cntF p hh + 1 := by simp [cntF, h]
        have a3 := cntF_mono p (show hh + 1 ≤ k by omega)
        omega
  · rintro ⟨h1, h2⟩
    by_cases hki : k ≤ i
    · exact cntF_same p hki fun j q1 q2 => l2 j (by omega) q2
    · exact (cntF_same p (show i ≤ k by omega) fun j q1 q2 => g2 j q1 (by omega)).symm

theorem Ctlg.unitN_cnt (x : Ctlg) (c d : Int) (i : Nat) : x.unitN c d i = cntF (fun j : Nat => x.brkAt c d j) i := by
  induction i with
  | zero => simp [unitN, cntF]
  | succ i ih =>
    unfold unitN at ih ⊢
    rw [List.range_succ, List.filter_append, List.length_append, ih]
    by_cases h : x.brkAt c d i <;> simp [cntF, h]

def Ctlg.lo (x : Ctlg) (c d : Int) (i : Nat) : Nat := loF (fun j : Nat => x.brkAt c d j) i
def Ctlg.hi (x : Ctlg) (c d : Int) (i : Nat) : Nat := hiF (fun j : Nat => x.brkAt c d j) (x.stepsN c.toNat - 1 - i) i
def Ctlg.inb (x : Ctlg) (c d i : Int) : Bool := x.inn c && x.inn d && decide (0 ≤ i) && decide (i < (x.stepsN c.toNat : Int))
def bndV (x : Ctlg) (c d i : Int) : AV := if x.inb c d i then .tup [.int .i64 (x.lo c d i.toNat), .int .i64 (x.hi c d i.toNat), .bool true] else .tup [.int .i64 0, .int .i64 0, .bool false]

theorem pure_bndV (x : Ctlg) (c d i : Int) : PureV (bndV x c d i) := by
  unfold bndV
  split
  · exact .tup (pures_cons (.int _ _) (pures_cons (.int _ _) (pures1 (.bool _))))
  · exact .tup (pures_cons (.int _ _) (pures_cons (.int _ _) (pures1 (.bool _))))

/-! ### The document's -/
theorem refBounds_ok (x : Ctlg) (hx : x.wf) (hp : ∀ c d, 0 ≤ x.brk c d) (h4 : x.classes.length ≤ 4) {c d i : Int} (hc : inI c) (hd : inI d) (hi : inI i) : PCall Try.prog 30 [.agg (encCtlg x), .int .i64 c, .int .i64 d, .int .i64 i] (bndV x c d i) := by
  refine PCall.run hb30 ok30 (by simp) (pures_cons (.agg (pure_encCtlg x)) (pures_cons (.int _ _) (pures_cons (.int _ _) (pures1 (.int _ _))))) (pure_bndV _ _ _ _) ?_
  have htk := x.take16 hx.2.1
  have hx' := hx
  obtain ⟨⟨hcl, hcw⟩, hbl, hbw⟩ := hx'
  simp -implicitDefEqProofs [encCtlg, htk, hbl]
  refine callQ_p (refThere_ok x hx hc) (by simp [encCtlg]) ?_
  by_cases a1 : 0 ≤ c
  rotate_left
  · simp -implicitDefEqProofs [bndV, Ctlg.inb, Ctlg.inn, a1]
  obtain ⟨c, rfl⟩ := Int.eq_ofNat_of_zero_le a1
  by_cases a2 : c < x.classes.length
  rotate_left
  · simp -implicitDefEqProofs [bndV, Ctlg.inb, Ctlg.inn, a2]
  simp -implicitDefEqProofs [a2, htk, hbl]
  refine callQ_p (refThere_ok x hx hd) (by simp [encCtlg]) ?_
  by_cases b1 : 0 ≤ d
  rotate_left
  · simp -implicitDefEqProofs [bndV, Ctlg.inb, Ctlg.inn, a2, b1]
  obtain ⟨d, rfl⟩ := Int.eq_ofNat_of_zero_le b1
  by_cases b2 : d < x.classes.length
  rotate_left
  · simp -implicitDefEqProofs [bndV, Ctlg.inb, Ctlg.inn, a2, b2]
  by_cases i1 : 0 ≤ i
  rotate_left
  · simp -implicitDefEqProofs [bndV, Ctlg.inb, Ctlg.inn, a2, b2, i1, show i < 0 by omega]
  obtain ⟨i, rfl⟩ := Int.eq_ofNat_of_zero_le i1
  by_cases i2 : i < x.classes[c].steps.length
  rotate_left
  · simp -implicitDefEqProofs [bndV, Ctlg.inb, Ctlg.inn, a2, b2, i2, encCls, Ctlg.stepsN_of a2, show ¬ (i : Int) < 0 by omega, show x.classes[c].steps.length ≤ i by omega]
  have hin : x.inb c d i = true := by
    simp [Ctlg.inb, Ctlg.inn, a2, b2, i2, Ctlg.stepsN_of a2]
    omega
  simp -implicitDefEqProofs [a2, b2, encCls, show ¬ (i : Int) < 0 by omega, show ¬ x.classes[c].steps.length ≤ i by omega, bndV, hin]
  have hsl := (hcw _ (List.getElem_mem a2)).2.2.1.1
  simp only [maxLen] at hsl
  have hlo : x.lo c d i ≤ i := loF_le _ _
  have hhi := hiF_ge (fun j : Nat => x.brkAt c d j) (x.stepsN (c : Int).toNat - 1 - i) i
  have hiff : ∀ k, k < x.classes[c].steps.length → (x.unitN c d k = x.unitN c d i ↔ x.lo c d i ≤ k ∧ k ≤ x.hi c d i) := fun k hk => by
    rw [Ctlg.unitN_cnt, Ctlg.unitN_cnt]
    have := cntF_iff (fun j : Nat => x.brkAt c d j) i2 hk
    simpa [Ctlg.lo, Ctlg.hi, Ctlg.stepsN_of a2] using this
  change i ≤ x.hi c d i ∧ x.hi c d i ≤ _ at hhi
  rw [Int.toNat_natCast, Ctlg.stepsN_of a2] at hhi
  generalize x.lo c d i = lo at *
  generalize x.hi c d i = hh at *
  refine run_loop (fun n s h => ∃ j : Nat, n = x.classes[c].steps.length - j ∧ j ≤ x.classes[c].steps.length ∧ s 4 = .ptr 0 0 ∧ 0 < h.bn ∧ h.bx 0 = some ([.sl .no (x.classes.map encCls)] ++ x.breaks.map (AV.int .i64)) ∧ s 1 = .int .i64 c ∧ s 2 = .int .i64 d ∧ s 3 = .int .i64 i ∧ s 13 = .int .i64 j ∧ s 11 = .int .i64 (if j ≤ lo then -1 else lo) ∧ s 12 = .int .i64 (if j ≤ lo then -1 else if hh < j then hh else j - 1)) ?_ x.classes[c].steps.length ?_
  · rintro n s h ⟨j, hn, hj, h4, h0, hb, h1, h2, h3, h13, h11, h12⟩ ih
    by_cases hlt : j < x.classes[c].steps.length
    · simp -implicitDefEqProofs [h4, h0, hb, h1, h13, hlt, a2, encCls]
      refine run_dregL c30_d7 rfl ?_
      simp -implicitDefEqProofs [h4, h0, hb, h1, h2, h13, hbl]
      refine callC_p (refUnit_ok x hx hp (c := c) (d := d) hc hd (i := j) (by omega)) (by simp [encCtlg, htk]) ?_
      simp -implicitDefEqProofs [h4, h0, hb, h1, h2, h3, hbl]
      refine callC_p (refUnit_ok x hx hp (c := c) (d := d) hc hd (i := i) (by omega)) (by simp [encCtlg, htk]) ?_
      have hif := hiff j hlt
      by_cases hu : x.unitN c d j = x.unitN c d i
      · have hj2 := hif.1 hu
        by_cases hlo2 : j ≤ lo
        · obtain rfl : j = lo := by omega
          simp -implicitDefEqProofs [h13, h11, hu, inc_i64 hlt hsl, -Int.natCast_add]
          exact ih (x.classes[c].steps.length - (j + 1)) _ _ (by omega) ⟨j + 1, rfl, by omega, by simp [h4], by simpa using h0, by simp [hb], by simp [h1], by simp [h2], by simp [h3], by simp, by simp, by
            simp
            omega⟩
        · simp -implicitDefEqProofs [h13, h11, hu, hlo2, show ¬ (lo : Int) < 0 by omega, inc_i64 hlt hsl, -Int.natCast_add]
          exact ih (x.classes[c].steps.length - (j + 1)) _ _ (by omega) ⟨j + 1, rfl, by omega, by simp [h4], by simpa using h0, by simp [hb], by simp [h1], by simp [h2], by simp [h3], by simp, by simp [h11, hlo2, show ¬ j + 1 ≤ lo by omega], by
            simp [show ¬ j + 1 ≤ lo by omega]
            omega⟩
      · have hj2 : ¬ (lo ≤ j ∧ j ≤ hh) := fun h => hu (hif.2 h)
        simp -implicitDefEqProofs [h13, hu, inc_i64 hlt hsl, -Int.natCast_add]
        exact ih (x.classes[c].steps.length - (j + 1)) _ _ (by omega) ⟨j + 1, rfl, by omega, by simp [h4], by simpa using h0, by simp [hb], by simp [h1], by simp [h2], by simp [h3], by simp, by
          simp [h11]
          split <;> split <;> omega, by
          simp [h12]
          (repeat' split) <;> omega⟩
    · obtain rfl : j = x.classes[c].steps.length := by omega
      simp -implicitDefEqProofs [h4, h0, hb, h1, h13, h11, h12, a2, encCls]
      exact ⟨by omega, by rw [if_neg (by omega), if_pos (by omega)]⟩
  · exact ⟨0, by simp [H.nil]⟩

/-! ### The program's -/
theorem break1_ok (x : Ctlg) {h : H} {b : Nat} (hb : b < h.bn) (hx : h.bx b = some (encCtlg x)) {c : Int} : SCall Try.prog 78 [.int .i64 c, .ptr b 0] h (.bool (x.inn c)) h := by
  refine SCall.ro (CallP.run hb78 ok78 (by simp) ?_) (.bool _)
  simp only [encCtlg] at hx
  by_cases a1 : 0 ≤ c
  · simp -implicitDefEqProofs [hb, hx, a1, Ctlg.inn]
    exact ⟨by rw [Bool.eq_iff_iff]; simp; split <;> omega, HF.refl _ _ _⟩
  · simp -implicitDefEqProofs [a1, Ctlg.inn]
    exact HF.refl _ _ _

theorem bit_and {b i : Nat} (hb : b < 9223372036854775808) (hi : i ≤ 64) : IntKind.i64.wrap (((((b : Int).fdiv (2 ^ shAmt IntKind.i64 i) % 2 ^ IntKind.i64.bits).toNat &&& ((1 : Int) % 2 ^ IntKind.i64.bits).toNat : Nat)) : Int) = ((b / 2 ^ i % 2 : Nat) : Int) := by
  have e1 : shAmt IntKind.i64 (i : Int) = i := by simp only [shAmt, Int.toNat_natCast]; exact Nat.min_eq_left hi
  have e2 : (b : Int).fdiv (2 ^ i) = ((b / 2 ^ i : Nat) : Int) := by
    rw [Int.fdiv_eq_ediv_of_nonneg _ (by exact Int.pow_nonneg (by omega))]
    push_cast
    rfl
  have e3 : IntKind.i64.bits = 64 := rfl
  have hq : b / 2 ^ i ≤ b := Nat.div_le_self _ _
  rw [e1, e2, e3]
  generalize b / 2 ^ i = q at hq ⊢
  have e5 : ((q : Int) % 2 ^ 64).toNat = q := by omega
  have e6 : ((1 : Int) % 2 ^ 64).toNat = 1 := by decide
  rw [e5, e6, Nat.and_one_is_mod, wrap_i64] <;> omega

structure Ctlg.good (x : Ctlg) : Prop where
  wf : x.wf
  n4 : x.classes.length ≤ 4
  s4 : ∀ c (h : c < x.classes.length), x.classes[c].steps.length ≤ 4
  nn : ∀ c d, 0 ≤ x.brk c d

theorem break_ok (x : Ctlg) (hx : x.good) {c d i : Int} (hc : inI c) (hd : inI d) (hi : inI i) : PCall Try.prog 37 [.agg (encCtlg x), .int .i64 c, .int .i64 d, .int .i64 i] (.bool (x.brkAt c d i)) := by
  refine PCall.run hb37 ok37 (by simp) (pures_cons (.agg (pure_encCtlg x)) (pures_cons (.int _ _) (pures_cons (.int _ _) (pures1 (.int _ _))))) (.bool _) ?_
  obtain ⟨hw, h4, hs4, hnn⟩ := hx
  have htk := x.take16 hw.2.1
  have hbl := hw.2.1
  have hcw := hw.1.2
  simp -implicitDefEqProofs [encCtlg]
  refine callQ_s (break1_ok x (c := c) (b := 0) (by simp [H.nil]) (by simp [H.nil, encCtlg])) (by simp [H.nil]) ?_
  cases ec : x.inn c
  · simp -implicitDefEqProofs [Ctlg.brkAt, ec]
  simp -implicitDefEqProofs []
  refine callQ_s (break1_ok x (c := d) (b := 0) (by simp [H.nil]) (by simp [H.nil, encCtlg])) (by simp [H.nil]) ?_
  cases ed : x.inn d
  · simp -implicitDefEqProofs [Ctlg.brkAt, ec, ed]
  simp only [Ctlg.inn, Bool.and_eq_true, decide_eq_true_eq] at ec ed
  obtain ⟨⟨a1, a2⟩, a3⟩ := ec
  obtain ⟨⟨b1, b2⟩, b3⟩ := ed
  obtain ⟨c, rfl⟩ := Int.eq_ofNat_of_zero_le a1
  obtain ⟨d, rfl⟩ := Int.eq_ofNat_of_zero_le b1
  have a2 : c < x.classes.length := by omega
  have b2 : d < x.classes.length := by omega
  by_cases i1 : 0 ≤ i
  rotate_left
  · simp -implicitDefEqProofs [Ctlg.brkAt, i1, show i < 0 by omega]
  obtain ⟨i, rfl⟩ := Int.eq_ofNat_of_zero_le i1
  have hsl := hs4 c a2
  have hw1 : IntKind.i64.wrap ((x.classes[c].steps.length : Int) - 1) = (x.classes[c].steps.length : Int) - 1 := wrap_i64 (by omega) (by omega)
  by_cases i2 : i + 1 < x.classes[c].steps.length
  rotate_left
  · simp -implicitDefEqProofs [Ctlg.brkAt, a2, encCls, Ctlg.stepsN_of a2, hw1, show ¬ (i : Int) < 0 by omega, show (x.classes[c].steps.length : Int) - 1 ≤ i by omega, show ¬ (i : Int) + 1 < x.classes[c].steps.length by omega]
  have hbk := Ctlg.brk_load (x := x) (.sl .no (x.classes.map encCls)) hbl (show c < 4 by omega) (show d < 4 by omega)
  obtain ⟨b, hbe⟩ := Int.eq_ofNat_of_zero_le (hnn c d)
  simp -implicitDefEqProofs [a2, a3, b3, encCls, hw1, show ¬ (i : Int) < 0 by omega, show ¬ (x.classes[c].steps.length : Int) - 1 ≤ i by omega, hbk, hbl, show 1 + c * 4 + d + 1 ≤ 16 + 1 by omega, hbe, H.nil]
  have hbb : b < 9223372036854775808 := by
    have hbi : inI (x.brk c d) := by
      rw [Ctlg.brk_of hbl (show c < 4 by omega) (show d < 4 by omega)]
      exact hw.2.2 _ (List.getElem_mem _)
    rw [hbe] at hbi
    simp only [inI] at hbi
    omega
  have hand := bit_and (i := i) hbb (by omega)
  rw [hand]
  have he : ((b / 2 ^ i % 2 : Nat) : Int) = 1 ↔ b / 2 ^ i % 2 = 1 := by omega
  simp only [he]
  simp [Ctlg.brkAt, Ctlg.inn, a2, b2, a3, b3, Ctlg.stepsN_of a2, hbe, bitN, show (i : Int) + 1 < x.classes[c].steps.length by omega]
end Go.Proofs

/- Units: their bounds, the program's; whether a place is open. -/
namespace Go.Proofs
open Go Go.RowKit Go.Am

theorem bounds_ok (x : Ctlg) (hx : x.good) {c d i : Int} (hc : inI c) (hd : inI d) (hi : inI i) : PCall Try.prog 23 [.agg (encCtlg x), .int .i64 c, .int .i64 d, .int .i64 i] (bndV x c d i) := by
  refine PCall.run hb23 ok23 (by simp) (pures_cons (.agg (pure_encCtlg x)) (pures_cons (.int _ _) (pures_cons (.int _ _) (pures1 (.int _ _))))) (pure_bndV _ _ _ _) ?_
  have hx' := hx
  obtain ⟨hw, h4, hs4, hnn⟩ := hx'
  have htk := x.take16 hw.2.1
  have hbl := hw.2.1
  simp -implicitDefEqProofs [encCtlg, htk, hbl]
  refine callQ_p (there_ok x hw hc) (by simp [encCtlg]) ?_
  cases ec : x.inn c
  · simp -implicitDefEqProofs [bndV, Ctlg.inb, ec]
  simp -implicitDefEqProofs [htk, hbl]
  refine callQ_p (there_ok x hw hd) (by simp [encCtlg]) ?_
  cases ed : x.inn d
  · simp -implicitDefEqProofs [bndV, Ctlg.inb, ec, ed]
  have ec' := ec
  simp only [Ctlg.inn, Bool.and_eq_true, decide_eq_true_eq] at ec'
  obtain ⟨⟨a1, a2⟩, a3⟩ := ec'
  obtain ⟨c, rfl⟩ := Int.eq_ofNat_of_zero_le a1
  have a2 : c < x.classes.length := by omega
  by_cases i1 : 0 ≤ i
  rotate_left
  · simp -implicitDefEqProofs [bndV, Ctlg.inb, i1, show i < 0 by omega]
  obtain ⟨i, rfl⟩ := Int.eq_ofNat_of_zero_le i1
  have hsl := hs4 c a2
  by_cases i2 : i < x.classes[c].steps.length
  rotate_left
  · simp -implicitDefEqProofs [bndV, Ctlg.inb, a2, i2, encCls, Ctlg.stepsN_of a2, show ¬ (i : Int) < 0 by omega, show x.classes[c].steps.length ≤ i by omega]
  have hin : x.inb c d i = true := by
    simp [Ctlg.inb, ec, ed, i2, Ctlg.stepsN_of a2]
  simp -implicitDefEqProofs [a2, encCls, show ¬ (i : Int) < 0 by omega, show ¬ x.classes[c].steps.length ≤ i by omega, bndV, hin]
  refine run_loop (fun n s h => ∃ j : Nat, n = j ∧ j ≤ i ∧ s 4 = .ptr 0 0 ∧ 0 < h.bn ∧ h.bx 0 = some ([.sl .no (x.classes.map encCls)] ++ x.breaks.map (AV.int .i64)) ∧ s 1 = .int .i64 c ∧ s 2 = .int .i64 d ∧ s 12 = .int .i64 i ∧ s 11 = .int .i64 j ∧ x.lo c d i = x.lo c d j) ?_ i ?_
  rotate_left
  · exact ⟨i, by simp [H.nil]⟩
  rintro n s h ⟨j, hn, hj, h4, h0, hb, h1, h2, h12, h11, hlo⟩ ih
  by_cases hj0 : j = 0
  focus
    subst hj0
    have h11' : s 11 = .int .i64 (x.lo c d i) := by rw [h11, hlo]; simp [Ctlg.lo, loF]
    simp -implicitDefEqProofs [h11]
  rotate_left
  focus
    obtain ⟨k, hjk⟩ : ∃ k, j = k + 1 := ⟨j - 1, by omega⟩
    have hw1 : IntKind.i64.wrap ((j : Int) - 1) = (k : Int) := by rw [wrap_i64] <;> omega
    simp -implicitDefEqProofs [h4, h0, hb, h1, h2, h11, hbl, hw1, show 0 < j by omega]
    refine callQ_p (break_ok x hx (c := c) (d := d) hc hd (i := k) (by simp only [inI]; omega)) (by simp [encCtlg, htk]) ?_
    rw [hjk] at hlo
    cases hbr : x.brkAt c d k
    · simp -implicitDefEqProofs [h11, hw1]
      exact ih k _ _ (by omega) ⟨k, rfl, by omega, by simp [h4], by simpa using h0, by simp [hb], by simp [h1], by simp [h2], by simp [h12], by simp, by
        rw [hlo]
        simp [Ctlg.lo, loF, hbr]⟩
    have h11' : s 11 = .int .i64 (x.lo c d i) := by rw [h11, hlo, hjk]; simp [Ctlg.lo, loF, hbr]
    simp -implicitDefEqProofs []
  all_goals
    have hlo2 : x.lo c d i ≤ i := loF_le _ _
    refine run_loop (fun n s h => ∃ j : Nat, n = x.classes[c].steps.length - j ∧ j < x.classes[c].steps.length ∧ s 4 = .ptr 0 0 ∧ 0 < h.bn ∧ h.bx 0 = some ([.sl .no (x.classes.map encCls)] ++ x.breaks.map (AV.int .i64)) ∧ s 1 = .int .i64 c ∧ s 2 = .int .i64 d ∧ s 11 = .int .i64 (x.lo c d i) ∧ s 12 = .int .i64 j ∧ x.hi c d i = x.hi c d j) ?_ (x.classes[c].steps.length - i) ?_
    rotate_left
    · exact ⟨i, by simp [h4, h0, hb, h1, h2, h11', h12, i2]⟩
    clear ih h4 h0 hb h1 h2 h11 h12 h11' hlo
    rintro n s h ⟨j, hn, hj, h4, h0, hb, h1, h2, h11, h12, hhi⟩ ih
    have hw1 : IntKind.i64.wrap ((j : Int) + 1) = ((j + 1 : Nat) : Int) := by rw [wrap_i64] <;> omega
    by_cases hj0 : j + 1 < x.classes[c].steps.length
    · simp -implicitDefEqProofs [h4, h0, hb, h1, h2, h12, hbl, hw1, hj0, a2, encCls, -Int.natCast_add]
      refine callQ_p (break_ok x hx (c := c) (d := d) hc hd (i := j) (by simp only [inI]; omega)) (by simp [encCtlg, htk]) ?_
      have hhj : x.hi c d j = if x.brkAt c d j then j else x.hi c d (j + 1) := by
        unfold Ctlg.hi
        simp only [Int.toNat_natCast, Ctlg.stepsN_of a2]
        obtain ⟨m, hm⟩ : ∃ m, x.classes[c].steps.length - 1 - j = m + 1 := ⟨x.classes[c].steps.length - 1 - j - 1, by omega⟩
        rw [hm, show x.classes[c].steps.length - 1 - (j + 1) = m by omega]
        rfl
      cases hbr : x.brkAt c d j
      · simp -implicitDefEqProofs [h12, hw1, -Int.natCast_add]
        exact ih (x.classes[c].steps.length - (j + 1)) _ _ (by omega) ⟨j + 1, rfl, by omega, by simp [h4], by simpa using h0, by simp [hb], by simp [h1], by simp [h2], by simp [h11], by simp, by
          rw [hhi, hhj, hbr]; rfl⟩
      · have : x.hi c d i = j := by rw [hhi, hhj, hbr]; rfl
        simp -implicitDefEqProofs [h11, h12, this]
    · have : x.hi c d i = j := by
        rw [hhi]
        unfold Ctlg.hi
        simp only [Int.toNat_natCast, Ctlg.stepsN_of a2]
        rw [show x.classes[c].steps.length - 1 - j = 0 by omega]
        rfl
      simp -implicitDefEqProofs [h4, h0, hb, h1, h11, h12, hbl, hw1, hj0, a2, encCls, this, -Int.natCast_add]

/-- Is the place before a step open? -/
def Ctlg.openAt (x : Ctlg) (c d i : Int) : Bool := x.inb c d (i - 1) && decide (i - 1 < (x.hi c d (i - 1).toNat : Int))
theorem open_ok (x : Ctlg) (hx : x.good) {c d i : Int} (hc : inI c) (hd : inI d) (hi : inI i) : PCall Try.prog 31 [.agg (encCtlg x), .int .i64 c, .int .i64 d, .int .i64 i] (.bool (x.openAt c d i)) := by
  refine PCall.run hb31 ok31 (by simp) (pures_cons (.agg (pure_encCtlg x)) (pures_cons (.int _ _) (pures_cons (.int _ _) (pures1 (.int _ _))))) (.bool _) ?_
  have htk := x.take16 hx.wf.2.1
  have hbl := hx.wf.2.1
  have hdec : decide (i - 1 < (x.hi c d (i - 1).toNat : Int)) = decide (i - 1 < (x.hi c d (i - 1).toNat : Int)) := rfl
  by_cases him : i = -9223372036854775808
  · have hw : IntKind.i64.wrap (i - 1) = 9223372036854775807 := by rw [him]; decide
    simp -implicitDefEqProofs [encCtlg, htk, hbl, hw]
    refine callQ_p (bounds_ok x hx hc hd (i := 9223372036854775807) (by simp only [inI]; omega)) (by simp [encCtlg]) ?_
    have hno : x.inb c d 9223372036854775807 = false := by
      simp only [Ctlg.inb, Ctlg.inn]
      by_cases a1 : 0 ≤ c
      · obtain ⟨c, rfl⟩ := Int.eq_ofNat_of_zero_le a1
        by_cases a2 : c < x.classes.length
        · have := hx.s4 c a2
          simp [Ctlg.stepsN_of a2]
          omega
        · simp [a2]
      · simp [a1]
    have hbv : bndV x c d 9223372036854775807 = .tup [.int .i64 0, .int .i64 0, .bool false] := by simp [bndV, hno]
    simp -implicitDefEqProofs [hbv, Ctlg.openAt, Ctlg.inb, show ¬ 1 ≤ i by omega]
  · have hw : IntKind.i64.wrap (i - 1) = i - 1 := wrap_i64 (by simp only [inI] at hi; omega) (by simp only [inI] at hi; omega)
    simp -implicitDefEqProofs [encCtlg, htk, hbl, hw]
    refine callQ_p (bounds_ok x hx hc hd (i := i - 1) (by simp only [inI] at hi ⊢; omega)) (by simp [encCtlg]) ?_
    cases hin : x.inb c d (i - 1)
    · simp -implicitDefEqProofs [bndV, hin, Ctlg.openAt]
    · simp -implicitDefEqProofs [bndV, hin, Ctlg.openAt, hw]
end Go.Proofs

/- Units: the law's own first look; catalogues that are opened and closed. -/
namespace Go.Proofs
open Go Go.RowKit Go.Am

def aliveC : Ctlg := ⟨[⟨⟨#[97]⟩, 0, List.replicate 3 ⟨[⟨5, 0, 0, 0, ⟨0, 0⟩, ⟨0, 0⟩, 0⟩], []⟩, List.replicate 3 ⟨[], []⟩, false⟩], 2 :: List.replicate 15 0⟩
theorem aliveC_good : aliveC.good where
  wf := by
    refine ⟨⟨by decide, ?_⟩, by decide, ?_⟩
    · intro y hy
      simp only [aliveC, List.mem_singleton] at hy
      subst hy
      refine ⟨by decide, by simp [inI], ⟨by decide, ?_⟩, by decide, ?_⟩
      · intro y hy
        obtain rfl := List.eq_of_mem_replicate hy
        refine ⟨⟨by decide, ?_⟩, by decide, by simp⟩
        intro y hy
        simp only [List.mem_singleton] at hy
        subst hy
        simp [Inst.wf, KeyT.wf, inI]
      · intro y hy
        obtain rfl := List.eq_of_mem_replicate hy
        exact ⟨⟨by decide, by simp⟩, by decide, by simp⟩
    · intro y hy
      simp only [aliveC, List.mem_cons, List.mem_replicate] at hy
      rcases hy with rfl | ⟨_, rfl⟩ <;> simp [inI]
  n4 := by decide
  s4 := by
    intro c h
    simp [aliveC] at h
    subst h
    simp [aliveC]
  nn := by
    intro c d
    have : ∀ k : Nat, 0 ≤ (aliveC.breaks[k]?).getD 0 := by
      intro k
      rcases h : aliveC.breaks[k]? with _ | v
      · simp
      · have := List.mem_of_getElem? h
        simp only [aliveC, List.mem_cons, List.mem_replicate] at this
        rcases this with rfl | ⟨_, rfl⟩ <;> simp
    exact this (4 * c + d)

theorem alive14_ok : PCall Try.prog 20 [] (.bool true) := by
  refine PCall.run hb20 ok20 (by simp) (by simp) (.bool _) ?_
  simp -implicitDefEqProofs []
  refine run_dreg c20_d3 ?_
  simp -implicitDefEqProofs []
  refine ⟨.sl .full (List.replicate 3 [.sl .full [], .sl .full []]), fun h => .mkval 2 48 _ _ _ .i64 .i64 3 rfl rfl (by omega) (by omega), ?_⟩
  simp -implicitDefEqProofs [H.nil]
  have hb : bndV aliveC 0 0 0 = .tup [.int .i64 0, .int .i64 1, .bool true] := by
    have h1 : aliveC.inb 0 0 0 = true := by decide
    have h2 : aliveC.lo 0 0 (0 : Int).toNat = 0 := by decide
    have h3 : aliveC.hi 0 0 (0 : Int).toNat = 1 := by decide
    rw [bndV, if_pos h1, h2, h3]; rfl
  refine callQ_p (bounds_ok aliveC aliveC_good (c := 0) (d := 0) (i := 0) (by simp [inI]) (by simp [inI]) (by simp [inI])) (by simp [encCtlg, aliveC, encCls, encStp, encInst]) ?_
  simp -implicitDefEqProofs [hb]
end Go.Proofs
