/- What the functions that the statement reaches do: their contracts; and what follows of it. -/
import Derived.Test.YtaepkklbckgbhabSFootWords9
import Derived.Test.YtaepkklbckgbhabSFootWords7
import Derived.Test.YtaepkklbckgbhabK4
/- The program's reader of footprints and steps. -/
namespace Go.Proofs
open Go Go.RowKit Go.Am

set_option maxHeartbeats 1000000 in
theorem footGet_rd {h : H} {b : Nat} {s : RS} (hr : RIs h b s) : RdS 11 [.ptr b 0] h b s rdFoot [] (fun l => .sl .no (l.map encSpanT)) := by
  refine RdS.of hr rdFoot_ok (fun l => elOK_SpanT.pureL l) (CallP.run hb11 ok11 (by simp) ?_)
  have hb := hr.blt
  simp -implicitDefEqProofs []
  have hn := count_rd hr (most := 4) (by simp [inI])
  refine callQ_s hn.call (by simp) ?_
  have q := hn.to
  have g := Got.runS (rdCount 4) 0 s
  have hin := rdCount_in (most := 4) (by simp [inI]) s
  clear hn
  generalize runS (rdCount 4) 0 s = x at q g hin ⊢
  obtain ⟨n, s1⟩ := x
  simp only at q g hin
  obtain ⟨N, rfl⟩ := Int.eq_ofNat_of_zero_le hin.1
  have hN : N ≤ 4 := by omega
  simp -implicitDefEqProofs []
  refine run_loop (fun m S h1 => ∃ (j : Nat) (sj : RS) (L : List SpanT) (t : Tok), m = N - j ∧ j ≤ N ∧ S 0 = .ptr b 0 ∧ S 3 = .sl t (L.map encSpanT) ∧ S 7 = .int .i64 N ∧ S 8 = .int .i64 j ∧ RLoop h b s1 rdSpanT j h1 sj L t) ?_ N ?_
  rotate_left
  · exact ⟨0, s1, [], .full, rfl, Nat.zero_le _, by simp, by simp, by simp, by simp, RLoop.start q⟩
  rintro m S h1 ⟨j, sj, L, t, hm, hj, t0, t3, t7, t8, hL⟩ ih
  have hbn : h.bn ≤ h1.bn := hL.to.keep.bn
  have hb1 : b < h1.bn := by omega
  have z0 : ¬ b = h1.bn := by omega
  have z1 : ¬ h1.bn = b := by omega
  have z2 : ¬ h1.bn + 1 = b := by omega
  have z3 : ¬ b = h1.bn + 1 := by omega
  by_cases hlt : j < N
  · simp -implicitDefEqProofs [t0, t7, t8, hlt]
    refine callQ_r (template_rd hL.to.is) (by simp) fun v1 u1 q1 g1 => ?_
    simp -implicitDefEqProofs [t0]
    refine callQ_r (template_rd q1.is) (by simp) fun v2 u2 q2 g2 => ?_
    have k2 := q1.trans q2
    simp -implicitDefEqProofs [encKeyT]
    have k3 := RTo.so (RTo.so (RTo.al (RTo.al k2 [.int .i64 0, .int .i64 0]) [.int .i64 0, .int .i64 0]) (b' := h1.bn) (Nat.le_refl _) hb1 [.int .i64 v1.arg, .int .i64 v1.base]) (b' := h1.bn + 1) (Nat.le_succ _) hb1 [.int .i64 v2.arg, .int .i64 v2.base]
    have hf := flag_rd k3.is
    have g3 := Got.runS rdFlag false u2
    have q3 := hf.to
    generalize hx : runS rdFlag false u2 = x at g3 q3
    obtain ⟨v3, u3⟩ := x
    simp only at q3 g3
    have k4 := k3.trans q3
    refine run_dreg c11_d6 ?_
    simp -implicitDefEqProofs [t0, t3]
    refine callD_s hf.call (by simp) ?_
    rw [hx]
    simp -implicitDefEqProofs []
    refine appQ_tok (t := t) (es := L.map encSpanT) (es2 := [encSpanT ⟨v1, v2, v3⟩]) (by simpa [hL.len] using hL.live) (by simp [encSpanT]) (by simp [srcA, encSpanT]) (by simp [hL.len]; omega) fun t' h3 p1 p2 p3 p4 => ?_
    have hg : Got rdSpanT sj ⟨v1, v2, v3⟩ u3 := g1.bind (g2.bind (g3.bind (Got.pure _ _)))
    have hl2 := hL.next hg (h2 := _) (h3 := h3) (t' := t') (hL.to.trans k4) (by simpa [hL.len] using p1) p2 p3
    have f1 : h3.bx h1.bn = some [.int .i64 v1.arg, .int .i64 v1.base] := by rw [p3.bx _ (by simp) (fun h => h)]; simp [z1]
    have f2 : h3.bx (h1.bn + 1) = some [.int .i64 v2.arg, .int .i64 v2.base] := by rw [p3.bx _ (by simp) (fun h => h)]; simp [z2]
    have f3 : h1.bn + 1 < h3.bn := by rw [p4]; simp
    have f4 : h1.bn < h3.bn := by omega
    simp -implicitDefEqProofs [t8, z1, z2, f1, f2, f3, f4, inc_i64 hlt (show N ≤ _ by omega), -Int.natCast_add]
    exact ih (N - (j + 1)) _ _ (by omega) ⟨j + 1, u3, _, t', rfl, by omega, by simp [t0], by simp, by simp [t7], by simp, hl2⟩
  · obtain rfl : j = N := by omega
    simp -implicitDefEqProofs [t0, t7, t8]
    refine callQ_s (rOk_ok hL.to.is) (by simp) ?_
    have hgp : Got rdFoot s L sj := g.bind (by rw [Int.toNat_natCast]; exact hL.got)
    cases sj with
    | none =>
      simp -implicitDefEqProofs []
      exact ⟨none, hL.to.fin, Got.any hgp _⟩
    | some l =>
      simp -implicitDefEqProofs [t3]
      exact ⟨L, rfl, some l, hL.to.fin, hgp, (fun h => by cases h)⟩

/-- A step that is read: definite, also where it isn't right. -/
def stpV (s : RS) : Stp := ⟨(runS rdProg [] s).1, (runS rdFoot [] (runS rdProg [] s).2).1⟩
def stpS (s : RS) : RS := (runS rdFoot [] (runS rdProg [] s).2).2
theorem stp_got (s : RS) : Got rdStp s (stpV s) (stpS s) := (Got.runS rdProg [] s).bind ((Got.runS rdFoot [] _).bind (Got.pure _ _))
end Go.Proofs

/- The steps of a class, over which one ranges; which classes there may be: the program's answer. -/
namespace Go.Proofs
open Go Go.RowKit Go.Am

theorem each_ok (c : Cls) (h : H) : SCall Try.prog 60 [.agg (encCls c)] h (.fn 81 [] [.ptr h.bn 0]) (h.alloc (encCls c)) := by
  refine SCall.newG (fun b => .fn 81 [] [.ptr b 0]) (fun _ _ _ _ _ _ _ h1 h2 => Low.fn1 (Low.ptr h1 h2)) (CallP.run hb60 ok60 (by simp) ?_) (pure_encCls c)
  simp -implicitDefEqProofs [encCls]
  exact ⟨HF.alloc _ _ _ _, WkL.refl _⟩

/-- One round after the other, as long as one goes on. -/
theorem each1_ok (c : Cls) (hl : c.comps.length = c.steps.length) (hm : c.steps.length ≤ 9223372036854775807) {l b : Nat} {h : H} (I : Nat → H → Prop) (J : H → Prop) (hI : ∀ k h', I k h' → b < h'.bn ∧ h'.bx b = some (encCls c)) (hJ : ∀ h', J h' → b < h'.bn ∧ h'.bx b = some (encCls c))
    (hr : ∀ k h' (h1 : k < c.steps.length) (h2 : k < c.comps.length), I k h' → ∃ r h'', SYld Try.prog l [.agg (encStp c.steps[k]), .agg (encStp c.comps[k])] h' (.bool r) h'' ∧ (r = true → I (k + 1) h'') ∧ (r = false → J h''))
    (h0 : I 0 h) : CallP Try.prog 81 [.yld l, .ptr b 0] h fun _ h1 => I c.steps.length h1 ∨ J h1 := by
  refine CallP.run hb81 ok81 (by simp) ?_
  obtain ⟨b1, b2⟩ := hI _ _ h0
  simp -implicitDefEqProofs [b1, b2, encCls, hl]
  refine run_loop (fun m s h1 => ∃ j : Nat, m = c.steps.length - j ∧ j ≤ c.steps.length ∧ s 0 = .yld l ∧ s 1 = .ptr b 0 ∧ s 10 = .int .i64 c.steps.length ∧ s 11 = .int .i64 j ∧ I j h1) ?_ c.steps.length ?_
  rotate_left
  · exact ⟨0, by simpa using h0⟩
  rintro m s h1 ⟨j, hn, hj, s0, s1, s10, s11, hi⟩ ih
  by_cases hlt : j < c.steps.length
  · have hlt2 : j < c.comps.length := by omega
    obtain ⟨b1, b2⟩ := hI _ _ hi
    rw [encCls] at b2
    simp -implicitDefEqProofs [s10, s11, hlt]
    refine run_dreg c81_d4 ?_
    simp -implicitDefEqProofs [s0, s1, b1, b2, hlt, hlt2, encStp]
    obtain ⟨r, h2, q1, q2, q3⟩ := hr j h1 hlt hlt2 hi
    refine callD_y q1 (by simp [encStp]) ?_
    cases r
    · obtain ⟨b3, b4⟩ := hJ _ (q3 rfl)
      rw [encCls] at b4
      simp -implicitDefEqProofs [b1, b2, b3, b4]
      exact Or.inr (q3 rfl)
    · obtain ⟨b3, b4⟩ := hI _ _ (q2 rfl)
      rw [encCls] at b4
      simp -implicitDefEqProofs [b1, b2, b3, b4, s11, inc_i64 hlt hm, -Int.natCast_add]
      exact ih (c.steps.length - (j + 1)) _ _ (by omega) ⟨j + 1, rfl, by omega, by simp [s0], by simp [s1], by simp [s10], by simp, q2 rfl⟩
  · obtain rfl : j = c.steps.length := by omega
    simp -implicitDefEqProofs [s10, s11]
    exact Or.inl hi
end Go.Proofs

/- Which classes there may be: the program's answer. -/
namespace Go.Proofs
open Go Go.RowKit Go.Am

theorem stepMay_parts (a : Int) (s u : Stp) : stepMay a (s, u) = (progMay s.code a && footMay s.foot a && compMay u a) := by
  rw [comp_back, stepMay]
  cases progMay s.code a <;> cases footMay s.foot a <;> cases footMay u.foot a <;> cases backMay u a <;> rfl

set_option maxHeartbeats 1000000 in
theorem classMay_ok (c : Cls) (hc : c.wf) : PCall Try.prog 38 [.agg (encCls c)] (.bool (clsMay c)) := by
  refine PCall.run hb38 ok38 (by simp) (pures1 (.agg (pure_encCls c))) (.bool _) ?_
  obtain ⟨hwn, hwa, ⟨hsl, hsw⟩, hcl, hcw⟩ := hc
  by_cases bad : (((((((c.name.size : Int) < 1 ∨ (16 : Int) < (c.name.size : Int)) ∨ c.args < 0) ∨ 3 < c.args) ∨ (c.steps.length : Int) < 1) ∨ (4 : Int) < (c.steps.length : Int)) ∨ ¬ c.comps.length = c.steps.length)
  · have hf : clsMay c = false := by
      simp only [clsMay, Bool.and_eq_false_iff, Bool.not_eq_false', decide_eq_true_eq, decide_eq_false_iff_not]
      omega
    simp (maxSteps := 2000000) +contextual -implicitDefEqProofs [↓gdL_T, ↓gdL_F, ↓condQ_b, -Int.not_lt, -Int.not_le, -Nat.not_lt, -Nat.not_le, hf, encCls, H.nil]
    all_goals (intros; omega)
  have hm : clsMay c = (c.steps.zip c.comps).all (stepMay c.args) := by
    simp only [clsMay, show ¬ c.name.size < 1 by omega, show ¬ 16 < c.name.size by omega, show ¬ c.args < 0 by omega, show ¬ 3 < c.args by omega, show ¬ c.steps.length < 1 by omega, show ¬ 4 < c.steps.length by omega, show c.comps.length = c.steps.length by omega]
    simp
  have hcs : c.comps.length = c.steps.length := by omega
  have e1 : ¬ (c.name.size : Int) < 1 := by omega
  have e2 : ¬ (16 : Int) < (c.name.size : Int) := by omega
  have e3 : ¬ c.args < 0 := by omega
  have e4 : ¬ 3 < c.args := by omega
  have e5 : ¬ (c.steps.length : Int) < 1 := by omega
  have e6 : ¬ (4 : Int) < (c.steps.length : Int) := by omega
  simp -implicitDefEqProofs [encCls, H.nil, e1, e2, e3, e4, e5, e6, hcs]
  refine callQ_s (each_ok c _) (by simp [encCls]) ?_
  simp -implicitDefEqProofs []
  generalize hS : (su _ 45 _ : Slots) = S
  have s1 : S 1 = .ptr 0 0 := by rw [← hS]; simp
  have s2 : S 2 = .ptr 1 0 := by rw [← hS]; simp
  have s45 : S 45 = .fn 81 [] [.ptr 2 0] := by rw [← hS]; simp
  clear hS
  have hzl : (c.steps.zip c.comps).length = c.steps.length := by simp [hcs]
  let q0 : LoopA := ⟨S, [46, 47], c38_x10, c38_y11, .ready, none⟩
  let qE : LoopA := ⟨S, [46, 47], c38_x10, c38_y11, .done, some .ret⟩
  let I : Nat → H → Prop := fun k h1 => 0 < h1.ln ∧ h1.lp 0 = some q0 ∧ 3 ≤ h1.bn ∧ h1.bx 0 = some (encCls c) ∧ h1.bx 1 = some [.bool false] ∧ h1.bx 2 = some (encCls c) ∧ ∀ i (hi : i < (c.steps.zip c.comps).length), i < k → stepMay c.args (c.steps.zip c.comps)[i] = true
  let J : H → Prop := fun h1 => 0 < h1.ln ∧ h1.lp 0 = some qE ∧ 3 ≤ h1.bn ∧ h1.bx 1 = some [.bool false] ∧ h1.bx 2 = some (encCls c) ∧ (c.steps.zip c.comps).all (stepMay c.args) = false
  refine .rngf (Z := fun _ h1 => I c.steps.length h1 ∨ J h1) (F := 81) (first := []) (caps := [.ptr 2 0]) rfl (by simpa using s45) (each1_ok c hcs hsl I J (fun k h' ⟨_, _, q1, _, _, q2, _⟩ => ⟨by omega, q2⟩) (fun h' ⟨_, _, q1, _, q2, _⟩ => ⟨by omega, q2⟩) ?_ ?_) ?_ ?_
  · rintro k h' k1 k2 ⟨j1, j2, j3, j4, j5, j6, j7⟩
    have hws := hsw _ (List.getElem_mem k1)
    have hwc := hcw _ (List.getElem_mem k2)
    have hp1 := hws.1.1
    have hp2 := hws.2.1
    have hlz : k < (c.steps.zip c.comps).length := by omega
    have j4' := j4
    rw [encCls] at j4
    have b1 : 0 < h'.bn := by omega
    have hbad : stepMay c.args (c.steps[k], c.comps[k]) = false → Run Try.prog true [.c c38_x10, .beg 0, .c c38_y11] (roundQ 0 fun r1 h1 => r1 = .bool false ∧ h1.lp 0 = some qE ∧ HF h' (h1.setLoop 0 (some q0)) (fun _ => False) (fun _ => False)) (slotsP S [46, 47] [.agg (encStp c.steps[k]), .agg (encStp c.comps[k])]) h' → ∃ r h'', SYld Try.prog 0 [.agg (encStp c.steps[k]), .agg (encStp c.comps[k])] h' (.bool r) h'' ∧ (r = true → I (k + 1) h'') ∧ (r = false → J h'') := fun hn hrun => by
      refine ⟨false, _, SYld.ro (q := q0) (q' := qE) j1 j2 rfl rfl (.bool _) hrun, (fun h => by cases h), fun _ => ⟨by simpa using j1, by simp, by simpa using j3, by simpa using j5, by simpa using j6, ?_⟩⟩
      exact all_take_false hlz (by rw [List.getElem_zip]; exact hn)
    have hgood : stepMay c.args (c.steps[k], c.comps[k]) = true → Run Try.prog true [.c c38_x10, .beg 0, .c c38_y11] (roundQ 0 fun r1 h1 => r1 = .bool true ∧ h1.lp 0 = some q0 ∧ HF h' (h1.setLoop 0 (some q0)) (fun _ => False) (fun _ => False)) (slotsP S [46, 47] [.agg (encStp c.steps[k]), .agg (encStp c.comps[k])]) h' → ∃ r h'', SYld Try.prog 0 [.agg (encStp c.steps[k]), .agg (encStp c.comps[k])] h' (.bool r) h'' ∧ (r = true → I (k + 1) h'') ∧ (r = false → J h'') := fun hn hrun => by
      refine ⟨true, _, SYld.ro (q := q0) (q' := q0) j1 j2 rfl rfl (.bool _) hrun, fun _ => ⟨by simpa using j1, by simp, by simpa using j3, by simpa using j4', by simpa using j5, by simpa using j6, fun i hi hij => ?_⟩, fun h => by cases h⟩
      by_cases h : i = k
      · subst h; rw [List.getElem_zip]; exact hn
      · exact j7 i hi (by omega)
    rw [stepMay_parts] at hbad hgood
    have z0 : ¬ 0 = h'.bn := by omega
    have z1 : ¬ 0 = h'.bn + 1 := by omega
    have z2 : ¬ 1 = h'.bn := by omega
    have z3 : ¬ 1 = h'.bn + 1 := by omega
    have z4 : ¬ h'.bn = 0 := by omega
    have b2 : 1 < h'.bn := by omega
    have c0 : 0 < h'.bn + 1 + 1 := by omega
    have c1 : 1 < h'.bn + 1 + 1 := by omega
    cases hp : progMay c.steps[k].code c.args
    · refine hbad (by simp [hp]) ?_
      simp -implicitDefEqProofs [slotsP, s1, j1, j2, j4, z0, z4, c0, q0, encStp]
      refine callQ_p (progMay_ok c.steps[k].code c.args hp1) (by simp) ?_
      simp -implicitDefEqProofs [slotsP, s2, j1, j5, z2, z4, c1, q0, roundQ, encStp, hp]
      refine ⟨rfl, by simp; omega, fun b hb hn => ?_, by simp, by simp, by simp, fun l hl => ?_, by simp, by simp⟩
      · by_cases h1 : b = 1
        · subst h1; simp [j5]
        · simp [show ¬ b = h'.bn by omega, show ¬ b = h'.bn + 1 by omega, h1]
      · by_cases h0 : l = 0
        · subst h0; simp [j2, q0]
        · simp [h0]
    cases hq : footMay c.steps[k].foot c.args
    · refine hbad (by simp [hp, hq]) ?_
      simp -implicitDefEqProofs [slotsP, s1, j1, j2, j4, z0, z4, c0, q0, encStp]
      refine callQ_p (progMay_ok c.steps[k].code c.args hp1) (by simp) ?_
      simp -implicitDefEqProofs [slotsP, s1, j4, z0, z4, c0, encStp, hp]
      refine callQ_p (footMay_ok c.steps[k].foot c.args hp2) (by simp) ?_
      simp -implicitDefEqProofs [slotsP, s2, j1, j5, z2, z4, c1, q0, roundQ, encStp, hq]
      refine ⟨rfl, by simp; omega, fun b hb hn => ?_, by simp, by simp, by simp, fun l hl => ?_, by simp, by simp⟩
      · by_cases h1 : b = 1
        · subst h1; simp [j5]
        · simp [show ¬ b = h'.bn by omega, show ¬ b = h'.bn + 1 by omega, h1]
      · by_cases h0 : l = 0
        · subst h0; simp [j2, q0]
        · simp [h0]
    cases hr : compMay c.comps[k] c.args
    · refine hbad (by simp [hp, hq, hr]) ?_
      simp -implicitDefEqProofs [slotsP, s1, j1, j2, j4, z0, z4, c0, q0, encStp]
      refine callQ_p (progMay_ok c.steps[k].code c.args hp1) (by simp) ?_
      simp -implicitDefEqProofs [slotsP, s1, j4, z0, z4, c0, encStp, hp]
      refine callQ_p (footMay_ok c.steps[k].foot c.args hp2) (by simp) ?_
      simp -implicitDefEqProofs [slotsP, s1, j4, z0, z4, c0, encStp, hq]
      refine callQ_p (mayComp_ok c.comps[k] c.args hwc) (by simp [encStp]) ?_
      simp -implicitDefEqProofs [slotsP, s2, j1, j5, z2, z4, c1, q0, roundQ, encStp, hr]
      refine ⟨rfl, by simp; omega, fun b hb hn => ?_, by simp, by simp, by simp, fun l hl => ?_, by simp, by simp⟩
      · by_cases h1 : b = 1
        · subst h1; simp [j5]
        · simp [show ¬ b = h'.bn by omega, show ¬ b = h'.bn + 1 by omega, h1]
      · by_cases h0 : l = 0
        · subst h0; simp [j2, q0]
        · simp [h0]
    · refine hgood (by simp [hp, hq, hr]) ?_
      simp -implicitDefEqProofs [slotsP, s1, j1, j2, j4, z0, z4, c0, q0, encStp]
      refine callQ_p (progMay_ok c.steps[k].code c.args hp1) (by simp) ?_
      simp -implicitDefEqProofs [slotsP, s1, j4, z0, z4, c0, encStp, hp]
      refine callQ_p (footMay_ok c.steps[k].foot c.args hp2) (by simp) ?_
      simp -implicitDefEqProofs [slotsP, s1, j4, z0, z4, c0, encStp, hq]
      refine callQ_p (mayComp_ok c.comps[k] c.args hwc) (by simp [encStp]) ?_
      simp -implicitDefEqProofs [slotsP, j1, q0, roundQ, encStp, hr]
      refine ⟨by simp; omega, fun b hb hn => ?_, by simp, by simp, by simp, fun l hl => ?_, by simp, by simp⟩
      · by_cases h1 : b = 1
        · subst h1; simp [j5, z2, z4]
        · simp [show ¬ b = h'.bn by omega, show ¬ b = h'.bn + 1 by omega]
      · by_cases h0 : l = 0
        · subst h0; simp [j2, q0]
        · simp [h0]
  · exact ⟨by simp, by simp [q0], by simp, by simp [encCls], by simp, by simp [encCls], fun i hi hij => absurd hij (by omega)⟩
  · rintro v h2 (⟨j1, j2, _⟩ | ⟨j1, j2, _⟩)
    · exact ⟨j1, _, j2, by simp [q0]⟩
    · exact ⟨j1, _, j2, by simp [qE]⟩
  · rintro v h2 q (⟨j1, j2, j3, j4, j5, j6, j7⟩ | ⟨j1, j2, j3, j5, j6, j7⟩) hq
    · have hw := all_whole (p := stepMay c.args) (l := c.steps.zip c.comps) (j := c.steps.length) (by omega) j7
      replace hq : h2.lp 0 = some q := hq
      rw [j2] at hq
      cases hq
      simp -implicitDefEqProofs [pendK, q0, s2, j5, show 1 < h2.bn by omega, hm, hw]
    · replace hq : h2.lp 0 = some q := hq
      rw [j2] at hq
      cases hq
      simp -implicitDefEqProofs [pendK, qE, s2, j5, show 1 < h2.bn by omega, hm, j7]
end Go.Proofs

/- What is read as a class: plain laws. -/
namespace Go.Proofs
open Go Go.RowKit Go.Am

/-- All that is read is such. -/
def RdAll {α : Type} (p : Rd α) (Q : α → Prop) : Prop := ∀ l a l', (∀ w ∈ l, w < 18446744073709551616) → p l = some (a, l') → Q a
theorem RdAll.bind {α β : Type} {p : Rd α} {q : α → Rd β} {R : α → Prop} {Q : β → Prop} (hp : RdAll p R) (ho : RdOK p) (hq : ∀ a, R a → RdAll (q a) Q) : RdAll (p.bind q) Q := fun l b l' hw h => by
  simp only [Rd.bind, Option.bind_eq_some_iff] at h
  obtain ⟨⟨a, l1⟩, h1, h2⟩ := h
  exact hq a (hp l a l1 hw h1) l1 b l' (fun w hm => hw w ((ho l a l1 h1).2 w hm)) h2
theorem RdAll.pure {α : Type} {a : α} {Q : α → Prop} (h : Q a) : RdAll (Rd.pure a) Q := fun l b l' _ e => by
  simp only [Rd.pure, Option.some.injEq, Prod.mk.injEq] at e
  obtain ⟨rfl, _⟩ := e
  exact h
theorem RdAll.none {α : Type} {Q : α → Prop} : RdAll (Rd.none) Q := fun l b l' _ e => by cases e
theorem RdAll.rep {α : Type} {p : Rd α} {Q : α → Prop} (hp : RdAll p Q) (ho : RdOK p) : ∀ k, RdAll (Rd.rep p k) fun L => L.length = k ∧ ∀ a ∈ L, Q a
  | 0 => RdAll.pure ⟨rfl, fun a h => by cases h⟩
  | k + 1 => (RdAll.rep hp ho k).bind (ho.rep k) fun L ⟨h1, h2⟩ => hp.bind ho fun a ha => RdAll.pure ⟨by rw [List.length_append, h1]; rfl, fun x hx => by
    rcases List.mem_append.1 hx with h | h
    · exact h2 x h
    · rw [List.mem_singleton.1 h]; exact ha⟩
theorem rdCount_all (most : Int) : RdAll (rdCount most) fun n => 0 ≤ n ∧ n ≤ most := fun l a l' _ h => by
  cases l with
  | nil => cases h
  | cons w l =>
    simp only [rdCount] at h
    split at h
    · cases h; omega
    · cases h
theorem rdSigned_all : RdAll rdSigned inI := fun l a l' hw h => by
  cases l with
  | nil => cases h
  | cons w l =>
    simp only [rdSigned, Option.some.injEq, Prod.mk.injEq] at h
    obtain ⟨rfl, _⟩ := h
    exact backI_in (hw w (List.mem_cons_self ..))
theorem rdText_all : RdAll rdText fun s => s.size ≤ 64 := fun l a l' hw h => by
  simp only [rdText, Option.bind_eq_some_iff] at h
  obtain ⟨⟨n, l1⟩, h1, ⟨ws, l2⟩, h2, h3⟩ := h
  have := rdCount_all 64 l n l1 hw h1
  simp only at h3
  split at h3
  · simp only [Option.some.injEq, Prod.mk.injEq] at h3
    obtain ⟨rfl, _⟩ := h3
    rw [unpack_size]; omega
  · cases h3
theorem rdFlag_all : RdAll rdFlag fun _ => True := fun _ _ _ _ _ => trivial
theorem rdKey_all : RdAll rdKey KeyT.wf := rdSigned_all.bind rdSigned_ok fun a ha => by
  split
  · exact RdAll.none
  · exact (rdCount_all 999).bind (rdCount_ok _) fun n hn => RdAll.pure ⟨ha, by simp only [inI]; omega⟩
theorem rdInst_all : RdAll rdInst Inst.wf :=
  (rdCount_all 255).bind (rdCount_ok _) fun a1 h1 => (rdCount_all 255).bind (rdCount_ok _) fun a2 h2 => (rdCount_all 255).bind (rdCount_ok _) fun a3 h3 => (rdCount_all 255).bind (rdCount_ok _) fun a4 h4 =>
    rdKey_all.bind rdKey_ok fun k hk => rdKey_all.bind rdKey_ok fun l hl => rdSigned_all.bind rdSigned_ok fun x hx => RdAll.pure ⟨by simp only [inI]; omega, by simp only [inI]; omega, by simp only [inI]; omega, by simp only [inI]; omega, hk, hl, hx⟩
theorem rdSpanT_all : RdAll rdSpanT SpanT.wf := rdKey_all.bind rdKey_ok fun k hk => rdKey_all.bind rdKey_ok fun l hl => rdFlag_all.bind rdFlag_ok fun _ _ => RdAll.pure ⟨hk, hl⟩
theorem rdProg_all : RdAll rdProg fun l => l.length ≤ 8 ∧ ∀ x ∈ l, x.wf := (rdCount_all 8).bind (rdCount_ok _) fun n hn => fun l a l' hw h => by
  obtain ⟨h1, h2⟩ := rdInst_all.rep rdInst_ok n.toNat l a l' hw h
  exact ⟨by omega, h2⟩
theorem rdFoot_all : RdAll rdFoot fun l => l.length ≤ 4 ∧ ∀ x ∈ l, x.wf := (rdCount_all 4).bind (rdCount_ok _) fun n hn => fun l a l' hw h => by
  obtain ⟨h1, h2⟩ := rdSpanT_all.rep rdSpanT_ok n.toNat l a l' hw h
  exact ⟨by omega, h2⟩
theorem rdStp_all : RdAll rdStp Stp.wf := rdProg_all.bind rdProg_ok fun c hc => rdFoot_all.bind rdFoot_ok fun f hf => RdAll.pure ⟨⟨by simp only [maxLen]; omega, hc.2⟩, by simp only [maxLen]; omega, hf.2⟩
theorem rdPair_all : RdAll rdPair fun p => p.1.wf ∧ p.2.wf := rdStp_all.bind rdStp_ok fun s hs => rdStp_all.bind rdStp_ok fun u hu => RdAll.pure ⟨hs, hu⟩
theorem rdCls_all : RdAll rdCls Cls.wf := rdText_all.bind rdText_ok fun name hname => (rdCount_all 3).bind (rdCount_ok _) fun args hargs => (rdCount_all 4).bind (rdCount_ok _) fun n hn =>
  (rdPair_all.rep rdPair_ok n.toNat).bind (rdPair_ok.rep _) fun L hL => rdFlag_all.bind rdFlag_ok fun r _ => RdAll.pure ⟨by simp only [maxLen]; omega, by simp only [inI]; omega,
    ⟨by simp only [maxLen, List.length_map]; omega, fun y hy => by obtain ⟨p, hp, rfl⟩ := List.mem_map.1 hy; exact (hL.2 p hp).1⟩,
    by simp only [maxLen, List.length_map]; omega, fun y hy => by obtain ⟨p, hp, rfl⟩ := List.mem_map.1 hy; exact (hL.2 p hp).2⟩

theorem Got.all {α : Type} {p : Rd α} {Q : α → Prop} (hp : RdAll p Q) {s : RS} (hs : Bd s) {a : α} {l : List Nat} (h : Got p s a (some l)) : Q a := by
  unfold Got at h
  cases s with
  | none => simp at h
  | some l0 =>
    simp only [Option.bind_some] at h
    cases hq : p l0 with
    | none => rw [hq] at h; cases h
    | some x => rw [hq] at h; obtain ⟨rfl, _⟩ := h; exact hp l0 x.1 x.2 (hs l0 rfl).2 hq

def cls0 : Cls := ⟨⟨#[]⟩, 0, [], [], false⟩
/-- What a class is read as: none, it isn't right. -/
def clsR (s : RS) : Option (Cls × List Nat) := (s.bind rdCls).bind fun x => if clsMay x.1 = true then some x else none
def clsRV (s : RS) : AV := match clsR s with
  | some (c, _) => .tup [.agg (encCls c), .bool true]
  | none => .tup [.agg (encCls cls0), .bool false]
def clsRS (s : RS) : RS := (clsR s).map (·.2)
theorem pure_clsRV (s : RS) : PureV (clsRV s) := by
  unfold clsRV
  split <;> exact .tup (pures_cons (.agg (pure_encCls _)) (pures1 (.bool _)))
theorem clsRS_bd {s : RS} (hs : Bd s) : Bd (clsRS s) := fun l h => by
  simp only [clsRS, clsR, Option.map_eq_some_iff, Option.bind_eq_some_iff] at h
  obtain ⟨x, ⟨y, ⟨l0, h1, h2⟩, h3⟩, h4⟩ := h
  split at h3
  · cases h3
    have := rdCls_ok l0 x.1 x.2 h2
    rw [h4] at this
    exact ⟨Nat.le_trans this.1 (hs l0 h1).1, fun w hw => (hs l0 h1).2 w (this.2 w hw)⟩
  · cases h3
theorem clsR_none {s : RS} {c : Cls} (h : Got rdCls s c none) : clsR s = none := by
  unfold Got at h
  unfold clsR
  cases hp : s.bind rdCls with
  | none => rfl
  | some x => rw [hp] at h; obtain ⟨_, h2⟩ := h; cases h2
theorem clsR_some {s : RS} {c : Cls} {l : List Nat} (h : Got rdCls s c (some l)) : clsR s = if clsMay c = true then some (c, l) else none := by
  unfold Got at h
  unfold clsR
  cases hp : s.bind rdCls with
  | none => rw [hp] at h; cases h
  | some x => rw [hp] at h; obtain ⟨rfl, h2⟩ := h; cases h2; rfl
end Go.Proofs

/- The document's reader: items, templates, programs, footprints. -/
namespace Go.Proofs
open Go Go.RowKit Go.Am

def item00 : Item := ⟨0, 0, 0, 0, ⟨#[]⟩, []⟩
theorem item_rd {h : H} {b : Nat} {s : RS} (hr : RIs h b s) (kind : Int) {most : Int} (hm : inI most) : RdX 37 [.ptr b 0, .int .i64 kind, .int .i64 most] h b (.agg (encItm (runS (refRead kind most) item00 s).1)) (runS (refRead kind most) item00 s).2 := by
  have hbd : Bd (runS (refRead kind most) item00 s).2 := by
    intro l' e
    cases s with
    | none => cases e
    | some l =>
      cases hq : refRead kind most l with
      | none => simp [runS, hq] at e
      | some x =>
        simp [runS, hq] at e
        subst e
        exact (refRead_bd hr.bd hq).1 _ rfl
  refine RdX.mk' hr hbd (.agg (pure_encI _)) (CallP.run hb37 ok37 (by simp) ?_)
  have hb := hr.blt
  have hx := hr.bx
  have z0 : ¬ b = h.bn := by omega
  have z1 : ¬ h.bn = b := by omega
  have z2 : b < h.bn + 1 := by omega
  have z3 : b < h.bn + 1 + 1 := by omega
  have z4 : ¬ b = h.bn + 1 := by omega
  have z5 : ¬ h.bn + 1 = b := by omega
  cases s with
  | none =>
    rw [encRS] at hx
    simp -implicitDefEqProofs [hx, z0, z2, runS, encItm, item00]
    refine ⟨?_, _, ?_, WkL.refl _⟩
    · exact (HF.alloc _ _ _ _).trans' (HF.set (B := (· = h.bn)) _ rfl) (fun x hx e => by have e : x = h.bn := e; omega) (fun _ _ h => h)
    · simp [z0, hx, encRS]
  | some l =>
    rw [encRS] at hx
    simp -implicitDefEqProofs [hx, z0, z2]
    refine callQ_p (refRead_ok hr.bd kind hm) (by simp) ?_
    cases hq : refRead kind most l with
    | none =>
      simp -implicitDefEqProofs [encRead, hx, z0, z1, z3, z4, runS, encItm, item00, hq]
      refine RFin.so (RFin.bad (v := encW l) ?_ (by simp)) (Nat.le_refl _) hb _
      refine HF.trans ?_ (HF.set (B := (· = b)) _ rfl)
      exact ((HF.alloc _ _ _ _).trans (HF.alloc _ _ _ _)).trans' (HF.set (B := (· = h.bn + 1)) _ rfl) (fun x hx e => by have e : x = h.bn + 1 := e; omega) (fun _ _ h => h)
    | some x =>
      obtain ⟨y, l'⟩ := x
      simp -implicitDefEqProofs [encRead, hx, z0, z1, z3, z4, z5, runS, encItm, hq]
      refine RFin.so (RFin.ok ?_ (by simp [encRS])) (Nat.le_refl _) hb _
      exact ((HF.alloc _ _ _ _).trans (HF.alloc _ _ _ _)).trans' (HF.set (B := (· = h.bn + 1)) _ rfl) (fun x hx e => by have e : x = h.bn + 1 := e; omega) (fun _ _ h => h)

theorem runS_map {α β : Type} {p : Rd α} {q : Rd β} {d : α} {d' : β} {f : α → β} (g : β → α) (hd : g d' = d) (hg : ∀ a, g (f a) = a) (hq : ∀ l, q l = (p l).map fun x => (f x.1, x.2)) (s : RS) : g (runS q d' s).1 = (runS p d s).1 ∧ (runS q d' s).2 = (runS p d s).2 := by
  unfold runS
  cases s with
  | none => exact ⟨hd, rfl⟩
  | some l =>
    simp only [Option.bind_some, hq]
    cases p l with
    | none => exact ⟨hd, rfl⟩
    | some x => exact ⟨hg _, rfl⟩
theorem item_count (most : Int) (s : RS) : (runS (refRead 0 most) item00 s).1.n = (runS (rdCount most) 0 s).1 ∧ (runS (refRead 0 most) item00 s).2 = (runS (rdCount most) 0 s).2 :=
  runS_map (f := fun n => (⟨0, n, most, 0, ⟨#[]⟩, []⟩ : Item)) (·.n) rfl (fun _ => rfl) (fun l => by simp [refRead]) s
theorem item_signed (s : RS) : (runS (refRead 1 0) item00 s).1.x = (runS rdSigned 0 s).1 ∧ (runS (refRead 1 0) item00 s).2 = (runS rdSigned 0 s).2 :=
  runS_map (f := fun n => (⟨1, 0, 0, n, ⟨#[]⟩, []⟩ : Item)) (·.x) rfl (fun _ => rfl) (fun l => by simp [refRead]) s
theorem item_flag (s : RS) : decide ((runS (refRead 2 0) item00 s).1.n = 1) = (runS rdFlag false s).1 ∧ (runS (refRead 2 0) item00 s).2 = (runS rdFlag false s).2 := by
  have h := runS_map (p := rdCount 1) (q := refRead 2 0) (d := 0) (d' := item00) (f := fun n => (⟨2, n, 0, 0, ⟨#[]⟩, []⟩ : Item)) (·.n) rfl (fun _ => rfl) (fun l => by simp [refRead]) s
  have h1 : (runS (refRead 2 0) item00 s).1.n = (runS (rdCount 1) 0 s).1 := h.1
  have h2 : ((runS rdFlag false s).1 = true ↔ (runS (rdCount 1) 0 s).1 = 1) ∧ (runS rdFlag false s).2 = (runS (rdCount 1) 0 s).2 := by
    unfold runS rdFlag
    cases s with
    | none => simp
    | some l =>
      simp only [Option.bind_some]
      cases hq : rdCount 1 l <;> simp
  refine ⟨?_, h.2.trans h2.2.symm⟩
  rw [Bool.eq_iff_iff, decide_eq_true_eq, h1]
  exact h2.1.symm
theorem item_text (s : RS) : (runS (refRead 3 0) item00 s).1.s = (runS rdText ⟨#[]⟩ s).1 ∧ (runS (refRead 3 0) item00 s).2 = (runS rdText ⟨#[]⟩ s).2 := by
  have h := runS_map (p := rdTextW) (q := refRead 3 0) (d := (⟨#[]⟩, [])) (d' := item00) (f := fun n => (⟨3, 0, 0, 0, n.1, n.2⟩ : Item)) (fun y => (y.s, y.l)) rfl (fun _ => rfl) (fun l => by simp [refRead]) s
  have h1 : (runS (refRead 3 0) item00 s).1.s = (runS rdTextW (⟨#[]⟩, []) s).1.1 := congrArg Prod.fst h.1
  rw [h1, h.2]
  unfold runS
  cases s with
  | none => exact ⟨rfl, rfl⟩
  | some l =>
    simp only [Option.bind_some, rdText_W]
    cases rdTextW l with
    | none => exact ⟨rfl, rfl⟩
    | some x => exact ⟨rfl, rfl⟩

/-- An item's call: what is taken of it, as a piece of reading. -/
theorem callQ_item {α : Type} {h : H} {b : Nat} {s : RS} {kind most : Int} {K : AV → H → Prop} (p : Rd α) (d : α) (g : Item → α) {first caps args : List AV} (hm : inI most) (hr : RIs h b s)
    (hg : g (runS (refRead kind most) item00 s).1 = (runS p d s).1 ∧ (runS (refRead kind most) item00 s).2 = (runS p d s).2) (ha : (first ++ args ++ caps).map wk = [.ptr b 0, .int .i64 kind, .int .i64 most])
    (hk : ∀ (y : Item) (s' : RS), g y = (runS p d s).1 → s' = (runS p d s).2 → RTo h b (h.set b (encRS s')) s' → Got p s (g y) s' → K (.agg (encItm y)) (h.set b (encRS s'))) : callQ Try.prog (.fn 37 first caps) args h K := by
  have hx := item_rd hr kind hm
  refine callQ_s hx.call ha (hk _ _ hg.1 hg.2 hx.to ?_)
  have := Got.runS p d s
  rw [← hg.1, ← hg.2] at this
  exact this
end Go.Proofs

/- The document's reader: templates, programs, footprints. -/
namespace Go.Proofs
open Go Go.RowKit Go.Am

theorem store_bad {s : RS} : List.take 1 (encRS s) ++ AV.bool true :: List.drop 2 (encRS s) = [(encRS s)[0]'(by cases s <;> simp [encRS]), .bool true] := by cases s <;> rfl

end Go.Proofs

/- The document's reader of programs and footprints, whole. -/
namespace Go.Proofs
open Go Go.RowKit Go.Am

theorem item_bad {h : H} {b : Nat} {v : AV} (hb : b < h.bn) (hx : h.bx b = some [v, .bool true]) (kind most : Int) : SCall Try.prog 37 [.ptr b 0, .int .i64 kind, .int .i64 most] h (.agg (encItm item00)) h := by
  refine SCall.ro (CallP.run hb37 ok37 (by simp) ?_) (.agg (pure_encI _))
  have z0 : ¬ b = h.bn := by omega
  have z2 : b < h.bn + 1 := by omega
  simp -implicitDefEqProofs [hx, z0, z2, encItm, item00]
  exact (HF.alloc _ _ _ _).trans' (HF.set (B := (· = h.bn)) _ rfl) (fun x hx e => by have e : x = h.bn := e; omega) (fun _ _ h => h)
theorem callQ_ib {h : H} {b : Nat} {v : AV} {kind most : Int} {K : AV → H → Prop} {first caps args : List AV} (hb : b < h.bn) (hx : h.bx b = some [v, .bool true]) (ha : (first ++ args ++ caps).map wk = [.ptr b 0, .int .i64 kind, .int .i64 most])
    (hk : K (.agg (encItm item00)) h) : callQ Try.prog (.fn 37 first caps) args h K := callQ_s (item_bad hb hx kind most) ha hk
/-- A loop of reading that isn't right any more. -/
structure BLoop {α : Type} (h : H) (b : Nat) (s1 : RS) (p : Rd α) (j : Nat) (h1 : H) (v : AV) (L : List α) (t : Tok) : Prop where
  keep : HF h h1 (· = b) (fun _ => False)
  blt : b < h1.bn
  bx : h1.bx b = some [v, .bool true]
  got : ∀ L', Got (Rd.rep p j) s1 L' none
  len : L.length = j
  live : TLive h1 t j
  new : TNew h t
theorem len_encRS {s : RS} : (encRS s).length = 2 := by cases s <;> rfl

set_option maxHeartbeats 2000000 in
theorem refFootGet_rd {h : H} {b : Nat} {s : RS} (hr : RIs h b s) : RdS 12 [.ptr b 0] h b s rdFoot [] (fun l => .sl .no (l.map encSpanT)) := by
  refine RdS.of hr rdFoot_ok (fun l => elOK_SpanT.pureL l) (CallP.run hb12 ok12 (by simp) ?_)
  have hb := hr.blt
  simp -implicitDefEqProofs []
  refine callQ_item (rdCount 4) 0 (·.n) (by simp [inI]) hr (item_count 4 s) (by simp) fun y0 s1 e0 e0' q g => ?_
  have hin := rdCount_in (most := 4) (by simp [inI]) s
  rw [← e0] at hin
  obtain ⟨N, hNe⟩ := Int.eq_ofNat_of_zero_le hin.1
  have hN : N ≤ 4 := by omega
  rw [hNe] at g
  simp -implicitDefEqProofs [encItm, hNe]
  refine run_loop (fun m S h1 => ∃ (j : Nat) (sj : RS) (L : List SpanT) (t : Tok), m = N - j ∧ j ≤ N ∧ S 0 = .ptr b 0 ∧ S 4 = .sl t (L.map encSpanT) ∧ S 3 = .int .i64 N ∧ S 5 = .int .i64 j ∧ (RLoop h b s1 rdSpanT j h1 sj L t ∨ ∃ v, BLoop h b s1 rdSpanT j h1 v L t)) ?_ N ?_
  rotate_left
  · exact ⟨0, s1, [], .full, rfl, Nat.zero_le _, by simp, by simp, by simp, by simp, Or.inl (RLoop.start q)⟩
  rintro m S h1 ⟨j, sj, L, t, hm, hj, t0, t4, t3, t5, hL | ⟨v, hB⟩⟩ ih
  rotate_left
  · have hb1 := hB.blt
    have hbx := hB.bx
    by_cases hlt : j < N
    · simp -implicitDefEqProofs [t0, t3, t5, hlt]
      refine callQ_ib hb1 hbx rfl ?_
      simp -implicitDefEqProofs [t0, encItm, item00]
      refine callQ_ib hb1 hbx rfl ?_
      simp -implicitDefEqProofs [t0, encItm, item00]
      refine callQ_ib hb1 hbx rfl ?_
      simp -implicitDefEqProofs [t0, encItm, item00]
      refine callQ_ib hb1 hbx rfl ?_
      simp -implicitDefEqProofs [t0, encItm, item00]
      refine callQ_ib hb1 hbx rfl ?_
      simp -implicitDefEqProofs [t4, encItm, item00]
      refine appQ_tok (t := t) (es := L.map encSpanT) (es2 := [encSpanT ⟨⟨0, 0⟩, ⟨0, 0⟩, false⟩]) (by simpa [hB.len] using hB.live) (by simp [encSpanT]) (by simp [srcA, encSpanT]) (by simp [hB.len]; omega) fun t' h3 p1 p2 p3 p4 => ?_
      have hB2 : BLoop h b s1 rdSpanT (j + 1) h3 v (L ++ [⟨⟨0, 0⟩, ⟨0, 0⟩, false⟩]) t' := ⟨hB.keep.trans' p3 (fun _ _ h => h.elim) (fun i hi ho => hB.new i hi ho), by rw [p4]; exact hb1, (p3.bx b hb1 fun h => h).trans hbx, fun L' => (hB.got []).bind (show Got _ none L' none from rfl), by simp [hB.len], by simpa [hB.len] using p1, hB.new.next hB.keep p2⟩
      simp -implicitDefEqProofs [t5, inc_i64 hlt (show N ≤ _ by omega), -Int.natCast_add]
      exact ih (N - (j + 1)) _ _ (by omega) ⟨j + 1, none, _, t', rfl, by omega, by simp [t0], by simp, by simp [t3], by simp, Or.inr ⟨v, hB2⟩⟩
    · obtain rfl : j = N := by omega
      simp -implicitDefEqProofs [t0, t3, t5, hb1, hbx]
      exact ⟨none, RFin.bad hB.keep hbx, g.bind (by rw [Int.toNat_natCast]; exact hB.got _)⟩
  have hbn : h.bn ≤ h1.bn := hL.to.keep.bn
  have hb1 : b < h1.bn := by omega
  by_cases hlt : j < N
  · simp -implicitDefEqProofs [t0, t3, t5, hlt]
    refine callQ_item rdSigned 0 (·.x) (by simp [inI]) hL.to.is (item_signed sj) (by simp) fun v1 u1 _ _ q1 g1 => ?_
    simp -implicitDefEqProofs [encItm, t0]
    refine callQ_item (rdCount 999) 0 (·.n) (by simp [inI]) q1.is (item_count 999 u1) (by simp) fun v2 u2 _ _ q2 g2 => ?_
    simp -implicitDefEqProofs [encItm, t0]
    refine callQ_item rdSigned 0 (·.x) (by simp [inI]) q2.is (item_signed u2) (by simp) fun v3 u3 _ _ q3 g3 => ?_
    simp -implicitDefEqProofs [encItm, t0]
    refine callQ_item (rdCount 999) 0 (·.n) (by simp [inI]) q3.is (item_count 999 u3) (by simp) fun v4 u4 _ _ q4 g4 => ?_
    have k4 := q1.trans (q2.trans (q3.trans q4))
    have hb4 := k4.is.blt
    have hx4 := k4.is.bx
    have gk1 : ¬ (v1.x < -1 ∨ 255 < v1.x) → Got rdKey sj ⟨v1.x, v2.n⟩ u2 := fun hn => g1.bind (by rw [if_neg hn]; exact g2.bind (Got.pure _ _))
    have gk2 : ¬ (v3.x < -1 ∨ 255 < v3.x) → Got rdKey u2 ⟨v3.x, v4.n⟩ u4 := fun hn => g3.bind (by rw [if_neg hn]; exact g4.bind (Got.pure _ _))
    have gb1 : (v1.x < -1 ∨ 255 < v1.x) → Got rdKey sj ⟨v1.x, v2.n⟩ none := fun hn => g1.bind (by rw [if_pos hn]; exact Got.fail _ _)
    have gb2 : (v3.x < -1 ∨ 255 < v3.x) → Got rdKey u2 ⟨v3.x, v4.n⟩ none := fun hn => g3.bind (by rw [if_pos hn]; exact Got.fail _ _)
    have gall : ((v1.x < -1 ∨ 255 < v1.x) ∨ (v3.x < -1 ∨ 255 < v3.x)) → ∀ a, Got rdSpanT sj a none := fun hor a => by
      refine Got.any (a := ⟨⟨v1.x, v2.n⟩, ⟨v3.x, v4.n⟩, false⟩) ?_ a
      have fl : Got rdFlag none false none := rfl
      by_cases c1 : v1.x < -1 ∨ 255 < v1.x
      · exact (gb1 c1).bind ((show Got rdKey none (⟨v3.x, v4.n⟩ : KeyT) none from rfl).bind (fl.bind (Got.pure _ _)))
      · exact (gk1 c1).bind ((gb2 (hor.resolve_left c1)).bind (fl.bind (Got.pure _ _)))
    by_cases hbad : (v1.x < -1 ∨ 255 < v1.x) ∨ (v3.x < -1 ∨ 255 < v3.x)
    · have gall := gall hbad
      obtain ⟨v0, hv0⟩ : ∃ v0, List.take 1 (encRS u4) ++ AV.bool true :: List.drop 2 (encRS u4) = [v0, .bool true] := by cases u4 <;> exact ⟨_, rfl⟩
      have hcase : (v1.x < -1) ∨ (¬ v1.x < -1 ∧ 255 < v1.x) ∨ (¬ v1.x < -1 ∧ ¬ 255 < v1.x ∧ v3.x < -1) ∨ (¬ v1.x < -1 ∧ ¬ 255 < v1.x ∧ ¬ v3.x < -1 ∧ 255 < v3.x) := by omega
      have hk5 : HF h1 ((((((h1.set b (encRS u1)).set b (encRS u2)).set b (encRS u3)).set b (encRS u4)).set b [v0, .bool true])) (· = b) (fun _ => False) := k4.keep.trans (HF.set _ rfl)
      rcases hcase with c1 | ⟨c1, c2⟩ | ⟨c1, c2, c3⟩ | ⟨c1, c2, c3, c4⟩
      focus
        simp -implicitDefEqProofs [encItm, t0, c1, len_encRS, hb1, hv0]
      rotate_left
      focus
        simp -implicitDefEqProofs [encItm, t0, c1, c2, len_encRS, hb1, hv0]
      rotate_left
      focus
        simp -implicitDefEqProofs [encItm, t0, c1, c2, c3, len_encRS, hb1, hv0]
      rotate_left
      focus
        simp -implicitDefEqProofs [encItm, t0, c1, c2, c3, c4, len_encRS, hb1, hv0]
      all_goals
        refine callQ_ib (v := v0) (by simpa using hb1) (by simp) rfl ?_
        simp -implicitDefEqProofs [t4, encItm, item00]
        refine appQ_tok (t := t) (es := L.map encSpanT) (es2 := [encSpanT ⟨⟨v1.x, v2.n⟩, ⟨v3.x, v4.n⟩, false⟩]) (by simpa [hL.len] using hL.live) (by simp [encSpanT]) (by simp [srcA, encSpanT]) (by simp [hL.len]; omega) fun t' h3 p1 p2 p3 p4 => ?_
        have hB2 : BLoop h b s1 rdSpanT (j + 1) h3 v0 (L ++ [⟨⟨v1.x, v2.n⟩, ⟨v3.x, v4.n⟩, false⟩]) t' := ⟨(hL.to.keep.trans hk5).trans' p3 (fun _ _ h => h.elim) (fun i hi ho => hL.new i hi ho), by rw [p4]; simpa using hb1, by rw [p3.bx b (by simpa using hb1) (fun h => h)]; simp, fun L' => hL.got.bind ((gall ⟨⟨0, 0⟩, ⟨0, 0⟩, false⟩).bind (show Got _ none L' none from rfl)), by simp [hL.len], by simpa [hL.len] using p1, hL.new.next (hL.to.keep.trans hk5) p2⟩
        simp -implicitDefEqProofs [t5, inc_i64 hlt (show N ≤ _ by omega), -Int.natCast_add]
        exact ih (N - (j + 1)) _ _ (by omega) ⟨j + 1, none, _, t', rfl, by omega, by simp [t0], by simp, by simp [t3], by simp, Or.inr ⟨v0, hB2⟩⟩
    · have c1 : ¬ v1.x < -1 := fun h => hbad (.inl (.inl h))
      have c2 : ¬ 255 < v1.x := fun h => hbad (.inl (.inr h))
      have c3 : ¬ v3.x < -1 := fun h => hbad (.inr (.inl h))
      have c4 : ¬ 255 < v3.x := fun h => hbad (.inr (.inr h))
      simp -implicitDefEqProofs [encItm, t0, c1, c2, c3, c4]
      refine callQ_item rdFlag false (fun y => decide (y.n = 1)) (by simp [inI]) k4.is (item_flag u4) (by simp) fun v5 u5 _ _ q5 g5 => ?_
      simp -implicitDefEqProofs [encItm, t4]
      refine appQ_tok (t := t) (es := L.map encSpanT) (es2 := [encSpanT ⟨⟨v1.x, v2.n⟩, ⟨v3.x, v4.n⟩, decide (v5.n = 1)⟩]) (by simpa [hL.len] using hL.live) (by simp [encSpanT]) (by simp [srcA, encSpanT]) (by simp [hL.len]; omega) fun t' h3 p1 p2 p3 p4 => ?_
      have hg : Got rdSpanT sj ⟨⟨v1.x, v2.n⟩, ⟨v3.x, v4.n⟩, decide (v5.n = 1)⟩ u5 := (gk1 (by omega)).bind ((gk2 (by omega)).bind (g5.bind (Got.pure _ _)))
      have hl2 := hL.next hg (h2 := _) (h3 := h3) (t' := t') (hL.to.trans (k4.trans q5)) (by simpa [hL.len] using p1) p2 p3
      simp -implicitDefEqProofs [t5, inc_i64 hlt (show N ≤ _ by omega), -Int.natCast_add]
      exact ih (N - (j + 1)) _ _ (by omega) ⟨j + 1, u5, _, t', rfl, by omega, by simp [t0], by simp, by simp [t3], by simp, Or.inl hl2⟩
  · obtain rfl : j = N := by omega
    have hx := hL.to.is.bx
    have hlt2 := hL.to.is.blt
    have hgp : Got rdFoot s L sj := g.bind (by rw [Int.toNat_natCast]; exact hL.got)
    simp -implicitDefEqProofs [t0, t3, t5, hx, hlt2, len_encRS]
    cases sj with
    | none =>
      simp -implicitDefEqProofs [encRS]
      exact ⟨none, hL.to.fin, Got.any hgp _⟩
    | some l =>
      simp -implicitDefEqProofs [encRS, t4]
      exact ⟨L, rfl, some l, hL.to.fin, hgp, (fun h => by cases h)⟩
end Go.Proofs

/- Breakpoints: the document's answer and the program's. -/
namespace Go.Proofs
open Go Go.RowKit Go.Am

def bitN (b i : Nat) : Bool := decide (b / 2 ^ i % 2 = 1)
def Ctlg.inn (x : Ctlg) (c : Int) : Bool := decide (0 ≤ c) && decide (c < (x.classes.length : Int)) && decide (c < 4)
def Ctlg.brkAt (x : Ctlg) (c d i : Int) : Bool := x.inn c && x.inn d && decide (0 ≤ i) && decide (i + 1 < (x.stepsN c.toNat : Int)) && bitN (x.brk c.toNat d.toNat).toNat i.toNat

theorem Ctlg.take16 (x : Ctlg) (hb : x.breaks.length = 16) : List.take 16 (x.breaks.map (AV.int .i64)) = x.breaks.map (AV.int .i64) := List.take_of_length_le (by simp [hb])

/-- The unit of a step, as the document counts: how many breakpoints there are before it. -/
def Ctlg.unitN (x : Ctlg) (c d : Int) (i : Nat) : Nat := ((List.range i).filter fun j : Nat => x.brkAt c d j).length

end Go.Proofs
