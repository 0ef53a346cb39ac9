/- What the functions that the statement reaches do: their contracts; and what follows of it. -/
import Derived.Test.YtdcpendppalkgaaGreatSLintClash5
import Derived.Test.YtdcpendppalkgaaGreatSLintClash7
import Derived.Test.YtdcpendppalkgaaGreatSLintClash9
import Derived.Test.YtdcpendppalkgaaGreatSLintClash6
/- What is the same as itself: the document's answer. -/
namespace Go.Proofs
open Go Go.RowKit Go.Am

theorem same09_ok (l : List Inst) (hl : l.length ≤ 9223372036854775807) : PCall Tryz.prog 67 [.sl .no (l.map encInst), .sl .no (l.map encInst)] (.bool true) := by
  refine PCall.run hb67 ok67 (by simp) (pures_cons (elOK_Inst.pureL l) (pures1 (elOK_Inst.pureL l))) (.bool _) ?_
  simp -implicitDefEqProofs []
  refine run_loop (fun n s h => ∃ j : Nat, n = l.length - j ∧ j ≤ l.length ∧ s 0 = .sl .no (l.map encInst) ∧ s 1 = .sl .no (l.map encInst) ∧ s 5 = .int .i64 j) ?_ l.length ?_
  rotate_left
  · exact ⟨0, by simp⟩
  rintro n s h ⟨j, hn, hj, s0, s1, s5⟩ ih
  by_cases hlt : j < l.length
  · simp -implicitDefEqProofs [s0, s5, hlt]
    refine run_dregL c67_d6 rfl ?_
    simp -implicitDefEqProofs [s0, s1, s5, hlt, encInst, inc_i64 hlt hl, -Int.natCast_add]
    exact ih (l.length - (j + 1)) _ _ (by omega) ⟨j + 1, rfl, by omega, by simp [s0], by simp [s1], by simp⟩
  · simp -implicitDefEqProofs [s0, s5, hlt]

theorem same10_ok (l : List SpanT) (hl : l.length ≤ 9223372036854775807) : PCall Tryz.prog 68 [.sl .no (l.map encSpanT), .sl .no (l.map encSpanT)] (.bool true) := by
  refine PCall.run hb68 ok68 (by simp) (pures_cons (elOK_SpanT.pureL l) (pures1 (elOK_SpanT.pureL l))) (.bool _) ?_
  simp -implicitDefEqProofs []
  refine run_loop (fun n s h => ∃ j : Nat, n = l.length - j ∧ j ≤ l.length ∧ s 0 = .sl .no (l.map encSpanT) ∧ s 1 = .sl .no (l.map encSpanT) ∧ s 5 = .int .i64 j) ?_ l.length ?_
  rotate_left
  · exact ⟨0, by simp⟩
  rintro n s h ⟨j, hn, hj, s0, s1, s5⟩ ih
  by_cases hlt : j < l.length
  · simp -implicitDefEqProofs [s0, s5, hlt]
    refine run_dregL c68_d6 rfl ?_
    simp -implicitDefEqProofs [s0, s1, s5, hlt, encSpanT, inc_i64 hlt hl, -Int.natCast_add]
    exact ih (l.length - (j + 1)) _ _ (by omega) ⟨j + 1, rfl, by omega, by simp [s0], by simp [s1], by simp⟩
  · simp -implicitDefEqProofs [s0, s5, hlt]

theorem sameSteps_ok (l : List Stp) (hl : l.length ≤ 9223372036854775807) (hw : ∀ s ∈ l, s.code.length ≤ 9223372036854775807 ∧ s.foot.length ≤ 9223372036854775807) : PCall Tryz.prog 46 [.sl .no (l.map encStp), .sl .no (l.map encStp)] (.bool true) := by
  refine PCall.run hb46 ok46 (by simp) (pures_cons (elOK_Stp.pureL l) (pures1 (elOK_Stp.pureL l))) (.bool _) ?_
  simp -implicitDefEqProofs []
  refine run_loop (fun n s h => ∃ j : Nat, n = l.length - j ∧ j ≤ l.length ∧ s 0 = .sl .no (l.map encStp) ∧ s 1 = .sl .no (l.map encStp) ∧ s 5 = .int .i64 j) ?_ l.length ?_
  rotate_left
  · exact ⟨0, by simp⟩
  rintro n s h ⟨j, hn, hj, s0, s1, s5⟩ ih
  by_cases hlt : j < l.length
  · obtain ⟨w1, w2⟩ := hw _ (List.getElem_mem hlt)
    simp -implicitDefEqProofs [s0, s5, hlt]
    refine run_dregL c46_d6 rfl ?_
    simp -implicitDefEqProofs [s0, s1, s5, hlt, encStp]
    refine callC_p (same09_ok l[j].code w1) (by simp) ?_
    simp -implicitDefEqProofs [s0, s1, s5, hlt, encStp]
    refine callC_p (same10_ok l[j].foot w2) (by simp) ?_
    simp -implicitDefEqProofs [s5, inc_i64 hlt hl, -Int.natCast_add]
    exact ih (l.length - (j + 1)) _ _ (by omega) ⟨j + 1, rfl, by omega, by simp [s0], by simp [s1], by simp⟩
  · simp -implicitDefEqProofs [s0, s5, hlt]

theorem same11_ok (c : Cls) (hc : c.wf) : PCall Tryz.prog 27 [.agg (encCls c), .agg (encCls c)] (.bool true) := by
  refine PCall.run hb27 ok27 (by simp) (pures_cons (.agg (pure_encCls c)) (pures1 (.agg (pure_encCls c)))) (.bool _) ?_
  obtain ⟨hwn, hwa, ⟨hsl, hsw⟩, hcl, hcw⟩ := hc
  have h1 : ∀ s : Stp, s.wf → s.code.length ≤ 9223372036854775807 ∧ s.foot.length ≤ 9223372036854775807 := fun s hs => ⟨hs.1.1, hs.2.1⟩
  simp -implicitDefEqProofs [encCls]
  refine callQ_p (sameSteps_ok c.steps hsl fun s hs => h1 s (hsw s hs)) (by simp) ?_
  simp -implicitDefEqProofs []
  refine callQ_p (sameSteps_ok c.comps hcl fun s hs => h1 s (hcw s hs)) (by simp) ?_
  simp -implicitDefEqProofs []

theorem same12_ok (x : Ctlg) (hx : x.wf) : PCall Tryz.prog 10 [.agg (encCtlg x), .agg (encCtlg x)] (.bool true) := by
  refine PCall.run hb10 ok10 (by simp) (pures_cons (.agg (pure_encCtlg x)) (pures1 (.agg (pure_encCtlg x)))) (.bool _) ?_
  have htk := x.take16 hx.2.1
  obtain ⟨⟨hcl, hcw⟩, hbl, hbw⟩ := hx
  have hce : cellsEq (List.replicate 16 LK.i) (x.breaks.map (AV.int .i64)) (x.breaks.map (AV.int .i64)) = some true := by
    have := cells_ints x.breaks x.breaks rfl
    rw [hbl] at this
    simpa using this
  simp only [List.replicate] at hce
  simp -implicitDefEqProofs [encCtlg, htk, hbl, hce]
  refine run_loop (fun n s h => ∃ j : Nat, n = x.classes.length - j ∧ j ≤ x.classes.length ∧ s 2 = .ptr 0 0 ∧ s 3 = .ptr 1 0 ∧ 1 < h.bn ∧ h.bx 0 = some (.sl .no (x.classes.map encCls) :: x.breaks.map (AV.int .i64)) ∧ h.bx 1 = some (.sl .no (x.classes.map encCls) :: x.breaks.map (AV.int .i64)) ∧ s 5 = .int .i64 j) ?_ x.classes.length ?_
  rotate_left
  · exact ⟨0, by simp [H.nil]⟩
  rintro n s h ⟨j, hn, hj, s2, s3, b0, b1, b2, s5⟩ ih
  by_cases hlt : j < x.classes.length
  · simp -implicitDefEqProofs [s2, b1, s5, hlt, show 0 < h.bn by omega]
    refine run_dregL c10_d6 rfl ?_
    simp -implicitDefEqProofs [s2, s3, b0, b1, b2, s5, hlt, show 0 < h.bn by omega]
    refine callC_p (same11_ok x.classes[j] (hcw _ (List.getElem_mem hlt))) (by simp) ?_
    simp -implicitDefEqProofs [s5, inc_i64 hlt hcl, -Int.natCast_add]
    exact ih (x.classes.length - (j + 1)) _ _ (by omega) ⟨j + 1, rfl, by omega, by simp [s2], by simp [s3], by simpa using b0, by simp [b1], by simp [b2], by simp⟩
  · simp -implicitDefEqProofs [s2, b1, s5, hlt, show 0 < h.bn by omega]
end Go.Proofs

/- The statement LintClash: its function hands back true. -/
namespace Go.Proofs
open Go Go.RowKit Go.Am

theorem adv_wf {x : Ctlg} (hw : x.wf) (hm : catMay x = true) : (advOf x).wf := by
  refine ⟨hw.1, advL_len _ _, fun v hv => ?_⟩
  obtain ⟨hs, hg⟩ := catMay_small hw hm
  have hv : v ∈ advL x (x.classes.length * x.classes.length) := hv
  unfold advL at hv
  obtain ⟨i, hi, rfl⟩ := List.mem_map.1 hv
  have hi := List.mem_range.1 hi
  split
  · obtain ⟨a, b⟩ := openT_le hs (i / 4) (i % 4)
    simp only [inI]
    omega
  · rw [List.getElem?_eq_getElem (by rw [hw.2.1]; exact hi)]
    exact hw.2.2 _ (List.getElem_mem _)

set_option maxHeartbeats 1000000 in
theorem clash_d26 {x : Ctlg} {c d : Nat} (hc : c < x.classes.length) (hd : d < x.classes.length) {s : Slots} {h : H} (s1 : s 1 = .int .i64 c) (s3 : s 3 = .int .i64 d) (s5 : s 5 = .ptr 0 0) (hb : 0 < h.bn) {L : List AV} (b0 : h.bx 0 = some (.sl .no (x.classes.map encCls) :: L)) {inr : Bool} {k : List It} {Q : Res → Slots → H → Prop}
    (hk : ∀ a b S h', a ≠ b → S 16 = .ptr a 0 → S 17 = .ptr b 0 → a < h'.bn → b < h'.bn → h'.bx a = some (encCls x.classes[c]) → h'.bx b = some (encCls x.classes[d]) → (∀ y, y < 16 → S y = s y) → Run Tryz.prog inr k Q S h') :
    Run Tryz.prog inr (.c (.dreg c3_r26 c3_a26) :: k) Q s h := by
  have i1 := idxOf_nat (k := .i64) hc
  have i2 := idxOf_nat (k := .i64) hd
  refine run_two (fun j => 109 + j) (fun j => match j with | 0 => .ptr 0 0 | 1 => .sl .no (x.classes.map encCls) | 2 => .int .i64 c | 3 => .rop (encCls x.classes[c]) | 4 => .agg (encCls x.classes[c]) | 5 => .ptr 0 0 | 6 => .sl .no (x.classes.map encCls) | 7 => .int .i64 d | 8 => .rop (encCls x.classes[d]) | _ => .agg (encCls x.classes[d])) 10 12 16 11 13 17 5
    (zA := [.str ⟨#[]⟩, .int .i64 0, .sl .full [], .sl .full [], .bool false]) (cA := encCls x.classes[c]) (zB := [.str ⟨#[]⟩, .int .i64 0, .sl .full [], .sl .full [], .bool false]) (cB := encCls x.classes[d]) (xA := .t 113) (xB := .t 118) rfl rfl rfl rfl (by decide) (by decide) (by decide) (by decide) (fun a b _ _ _ _ h => by omega) ?_ rfl rfl ?_ ?_ ?_ ?_
  · intro j hj hjn
    have : j < 14 := hj
    simp at hjn
    omega
  · intro a b done s1 h1 haft tw
    have h3 : s1 113 = _ := tw.li 4 (haft 4 (by decide)) (by decide) (by decide) (by decide) (by decide)
    show fit 5 (s1 113) = _
    rw [h3]
    simp [fit, encCls]
  · intro a b done s1 h1 haft tw
    have h3 : s1 118 = _ := tw.li 9 (haft 9 (by decide)) (by decide) (by decide) (by decide) (by decide)
    show fit 5 (s1 118) = _
    rw [h3]
    simp [fit, encCls]
  · intro j y a b done S h1 hy hni haft tw
    have t1 : S 1 = .int .i64 c := by rw [tw.un 1 (by decide) (by decide) (fun i _ _ _ _ _ => by omega)]; exact s1
    have t3 : S 3 = .int .i64 d := by rw [tw.un 3 (by decide) (by decide) (fun i _ _ _ _ _ => by omega)]; exact s3
    have t5 : S 5 = .ptr 0 0 := by rw [tw.un 5 (by decide) (by decide) (fun i _ _ _ _ _ => by omega)]; exact s5
    have c0 : h1.bx 0 = some (.sl .no (x.classes.map encCls) :: L) := by rw [tw.hf.bx 0 hb fun h => h, b0]
    have lb : 0 < h1.bn := Nat.lt_of_lt_of_le hb tw.hf.bn
    have hj : j < 14 := (List.getElem?_eq_some_iff.1 hy).1
    have h8 : j = 0 ∨ j = 1 ∨ j = 2 ∨ j = 3 ∨ j = 4 ∨ j = 5 ∨ j = 6 ∨ j = 7 ∨ j = 8 ∨ j = 9 := by simp at hni; omega
    rcases h8 with rfl | rfl | rfl | rfl | rfl | rfl | rfl | rfl | rfl | rfl
    · cases hy
      exact ⟨rfl, rfl, .pure _ _ (by simp [t5])⟩
    · cases hy
      have e1 : S 109 = _ := tw.li 0 (haft 0 (by decide)) (by decide) (by decide) (by decide) (by decide)
      exact ⟨rfl, rfl, .pure _ _ (by simp [e1, c0, lb])⟩
    · cases hy
      exact ⟨rfl, rfl, .pure _ _ (by simp [t1])⟩
    · cases hy
      have e1 : S 110 = _ := tw.li 1 (haft 1 (by decide)) (by decide) (by decide) (by decide) (by decide)
      have e2 : S 111 = _ := tw.li 2 (haft 2 (by decide)) (by decide) (by decide) (by decide) (by decide)
      exact ⟨rfl, rfl, .pure _ _ (by simp [e1, e2, hc, encCls])⟩
    · cases hy
      have e1 : S 112 = _ := tw.li 3 (haft 3 (by decide)) (by decide) (by decide) (by decide) (by decide)
      exact ⟨rfl, rfl, .pure _ _ (by simp [e1, encCls])⟩
    · cases hy
      exact ⟨rfl, rfl, .pure _ _ (by simp [t5])⟩
    · cases hy
      have e1 : S 114 = _ := tw.li 5 (haft 5 (by decide)) (by decide) (by decide) (by decide) (by decide)
      exact ⟨rfl, rfl, .pure _ _ (by simp [e1, c0, lb])⟩
    · cases hy
      exact ⟨rfl, rfl, .pure _ _ (by simp [t3])⟩
    · cases hy
      have e1 : S 115 = _ := tw.li 6 (haft 6 (by decide)) (by decide) (by decide) (by decide) (by decide)
      have e2 : S 116 = _ := tw.li 7 (haft 7 (by decide)) (by decide) (by decide) (by decide) (by decide)
      exact ⟨rfl, rfl, .pure _ _ (by simp [e1, e2, hd, encCls])⟩
    · cases hy
      have e1 : S 117 = _ := tw.li 8 (haft 8 (by decide)) (by decide) (by decide) (by decide) (by decide)
      exact ⟨rfl, rfl, .pure _ _ (by simp [e1, encCls])⟩
  · intro a b S h1 hne t16 t17 la lb _ _ ba bb _ un
    exact hk a b S h1 hne t16 t17 la lb ba bb fun y hy => un y (by omega) (by omega) (fun i _ _ => by omega)

set_option maxHeartbeats 4000000 in
theorem lintClash_ok (x : Ctlg) (c i d k : Int) (hw : x.wf) : PCall Tryz.prog 3 [.agg (encCtlg x), .int .i64 c, .int .i64 i, .int .i64 d, .int .i64 k] (.bool true) := by
  refine PCall.run hb3 ok3 (by simp) (pures_cons (.agg (pure_encCtlg x)) (pures_cons (.int _ _) (pures_cons (.int _ _) (pures_cons (.int _ _) (pures1 (.int _ _)))))) (.bool _) ?_
  have hbl := hw.2.1
  have htk := x.take16 hbl
  have hg := great12_ok x hw
  simp -implicitDefEqProofs [encCtlg, H.nil]
  refine callQ_p alive27_ok (by simp) ?_
  simp -implicitDefEqProofs [htk, hbl]
  refine callQ_p hg (by simp [encCtlg]) ?_
  cases hb : bigX x
  rotate_left
  · simp -implicitDefEqProofs []
  have hfair := fair_of hw hb
  have hcl := lClashes_ok x hw
  have had := lAdvice_ok x hw hfair
  have hmay := refCatMay_ok x hw
  cases hm : catMay x
  · rw [hm] at hcl had hmay
    have hsame := same12_ok x hw
    have lx : (encCtlg x).length = 17 := by simp [encCtlg, hbl]
    have tx : List.take 17 (encCtlg x) = encCtlg x := List.take_of_length_le (by rw [lx]; exact Nat.le_refl _)
    simp -implicitDefEqProofs []
    refine run_dreg c3_d6 ?_
    simp -implicitDefEqProofs [htk, hbl]
    refine lcallQ_p hcl (by simp [encCtlg]) ?_
    simp -implicitDefEqProofs [htk, hbl]
    refine lcallQ_p had (by simp [encCtlg]) ?_
    simp -implicitDefEqProofs [htk, hbl, encCtlg]
    refine callQ_p hmay (by simp [encCtlg]) ?_
    simp -implicitDefEqProofs [htk, hbl]
    refine callQ_p hsame (by simp [encCtlg]) ?_
    simp -implicitDefEqProofs []
  rw [hm] at hcl had hmay
  have n1 := (cat_small hm).1
  have n4 := (cat_small hm).2
  have haw := adv_wf hw hm
  have hsame := same12_ok (advOf x) haw
  have hmay2 := refCatMay_ok (advOf x) haw
  rw [adv_may hw hm] at hmay2
  have hra := refAdvice_ok x hw hm
  have la : (encCtlg (advOf x)).length = 17 := by simp [encCtlg, haw.2.1]
  have ta : List.take 17 (encCtlg (advOf x)) = encCtlg (advOf x) := List.take_of_length_le (by rw [la]; exact Nat.le_refl _)
  have wka : List.map Am.wk (encCtlg (advOf x)) = encCtlg (advOf x) := by simp
  simp only [if_true] at hcl had
  generalize encCtlg (advOf x) = A at *
  simp -implicitDefEqProofs []
  refine run_dreg c3_d6 ?_
  simp -implicitDefEqProofs [htk, hbl]
  refine lcallQ_p hcl (by simp [encCtlg]) ?_
  simp -implicitDefEqProofs [htk, hbl]
  refine lcallQ_p had (by simp [encCtlg]) ?_
  simp -implicitDefEqProofs [htk, hbl, la]
  refine callQ_p hmay (by simp [encCtlg]) ?_
  simp -implicitDefEqProofs []
  refine run_dreg c3_d10 ?_
  simp -implicitDefEqProofs [rowsV, htk, hbl, la, ta]
  refine lcallQ_p hra (by simp [encCtlg]) ?_
  simp -implicitDefEqProofs [rowsV]
  refine lcallQ_p hsame (by simp [wka]) ?_
  simp -implicitDefEqProofs [rowsV, la, ta]
  refine lcallQ_p hmay2 (by simp [wka]) ?_
  simp -implicitDefEqProofs [rowsV, htk, hbl, la, ta]
  refine run_loop (fun m S h => ∃ a : Nat, m = x.classes.length - a ∧ a ≤ x.classes.length ∧ S 1 = .int .i64 c ∧ S 2 = .int .i64 i ∧ S 3 = .int .i64 d ∧ S 4 = .int .i64 k ∧ S 5 = .ptr 0 0 ∧ S 11 = rowsV x ∧ S 13 = .int .i64 x.classes.length ∧ S 14 = .int .i64 a ∧ 0 < h.bn ∧ h.bx 0 = some (.sl .no (x.classes.map encCls) :: x.breaks.map (AV.int .i64))) ?_ x.classes.length ?_
  rotate_left
  · exact ⟨0, by simp [rowsV]⟩
  clear hcl had hmay hsame hmay2 hra ta wka la haw
  rintro m S h ⟨a, hmm, ha, t1, t2, t3, t4, t5, t11, t13, t14, lb, b0⟩ ih
  by_cases hlt : a < x.classes.length
  · have i1 := idxOf_nat (k := .i64) hlt
    rw [rowsV] at t11
    simp -implicitDefEqProofs [t11, t13, t14, hlt, rowV]
    refine run_loop (fun m S h => ∃ b : Nat, m = x.classes.length - b ∧ b ≤ x.classes.length ∧ S 1 = .int .i64 c ∧ S 2 = .int .i64 i ∧ S 3 = .int .i64 d ∧ S 4 = .int .i64 k ∧ S 5 = .ptr 0 0 ∧ S 11 = rowsV x ∧ S 13 = .int .i64 x.classes.length ∧ S 14 = .int .i64 a ∧ S 15 = .int .i64 b ∧ 0 < h.bn ∧ h.bx 0 = some (.sl .no (x.classes.map encCls) :: x.breaks.map (AV.int .i64))) ?_ x.classes.length ?_
    rotate_left
    · exact ⟨0, by simp, by simp, by simp [t1], by simp [t2], by simp [t3], by simp [t4], by simp [t5], by simp [t11, rowsV], by simp [t13], by simp [t14], by simp, lb, b0⟩
    clear t1 t2 t3 t4 t5 t11 t13 t14 lb b0
    rintro m S h ⟨b, hmm, hb', t1, t2, t3, t4, t5, t11, t13, t14, t15, lb, b0⟩ ih2
    by_cases hlb : b < x.classes.length
    · have i2 := idxOf_nat (k := .i64) hlb
      have m1 := cat_cls hm _ (List.getElem_mem hlt)
      have m2 := cat_cls hm _ (List.getElem_mem hlb)
      rw [rowsV] at t11
      simp -implicitDefEqProofs [t13, t15, hlb]
      refine run_dreg c3_d18 ?_
      simp -implicitDefEqProofs [t5, t11, t14, t15, b0, lb, hlt, hlb, rowV]
      refine lcallQ_p (refClasses_ok x.classes[a] x.classes[b] m1 m2) (by simp) ?_
      simp -implicitDefEqProofs [t15, b0, lb, inc_i64 hlb (by omega), -Int.natCast_add]
      exact ih2 (x.classes.length - (b + 1)) _ _ (by omega) ⟨b + 1, rfl, by omega, by simp [t1], by simp [t2], by simp [t3], by simp [t4], by simp [t5], by simp [t11, rowsV], by simp [t13], by simp [t14], by simp, lb, b0⟩
    · obtain rfl : b = x.classes.length := by omega
      simp -implicitDefEqProofs [t13, t14, t15, inc_i64 hlt (by omega), -Int.natCast_add]
      exact ih (x.classes.length - (a + 1)) _ _ (by omega) ⟨a + 1, rfl, by omega, by simp [t1], by simp [t2], by simp [t3], by simp [t4], by simp [t5], by simp [t11], by simp [t13], by simp, lb, b0⟩
  obtain rfl : a = x.classes.length := by omega
  clear ih
  by_cases c0 : c < 0
  · simp -implicitDefEqProofs [t1, t13, t14, c0]
  by_cases c9 : (x.classes.length : Int) ≤ c
  · simp -implicitDefEqProofs [t1, t13, t14, c0, c9]
  by_cases d0 : d < 0
  · simp -implicitDefEqProofs [t1, t3, t13, t14, c0, c9, d0]
  by_cases d9 : (x.classes.length : Int) ≤ d
  · simp -implicitDefEqProofs [t1, t3, t13, t14, c0, c9, d0, d9]
  obtain ⟨cn, rfl⟩ := Int.eq_ofNat_of_zero_le (show 0 ≤ c by omega)
  obtain ⟨dn, rfl⟩ := Int.eq_ofNat_of_zero_le (show 0 ≤ d by omega)
  have hc : cn < x.classes.length := by omega
  have hd : dn < x.classes.length := by omega
  simp -implicitDefEqProofs [t1, t3, t13, t14, c0, c9, d0, d9]
  refine clash_d26 hc hd (by simp [t1]) (by simp [t3]) (by simp [t5]) lb b0 fun ba bb S' h' hne u16 u17 la lb' xa xb un => ?_
  have u2 : S' 2 = .int .i64 i := by rw [un 2 (by decide)]; simp [t2]
  have u4 : S' 4 = .int .i64 k := by rw [un 4 (by decide)]; simp [t4]
  have m1 := cat_cls hm _ (List.getElem_mem hc)
  have m2 := cat_cls hm _ (List.getElem_mem hd)
  have w1 := hw.1.2 _ (List.getElem_mem hc)
  have w2 := hw.1.2 _ (List.getElem_mem hd)
  generalize x.classes[cn] = C at *
  generalize x.classes[dn] = D at *
  have s1 := refStep_ok C w1 i
  have s2 := refStep_ok D w2 k
  have hlc := lClash_ok C D w1 w2 i k
  rw [m1, Bool.true_and] at s1
  rw [m2, Bool.true_and] at s2
  have xa' := xa
  have xb' := xb
  rw [encCls] at xa' xb'
  simp -implicitDefEqProofs []
  refine run_dreg c3_d27 ?_
  simp -implicitDefEqProofs [u2, u16, xa', la]
  refine lcallQ_p s1 (by simp [encCls]) ?_
  by_cases hi : 0 ≤ i ∧ i < C.steps.length
  rotate_left
  · have e1 : (decide (0 ≤ i) && decide (i < (C.steps.length : Int))) = false := by
      rw [Bool.eq_false_iff]; intro h; simp only [Bool.and_eq_true, decide_eq_true_eq] at h; exact hi h
    have e2 : clashP C i D k = false := by simp [clashP, e1]
    rw [e2] at hlc
    rw [e1]
    simp -implicitDefEqProofs [u2, u4, u16, u17, xa', xb', la, lb']
    refine callQ_p hlc (by simp [encCls]) ?_
    simp -implicitDefEqProofs []
  have e1 : (decide (0 ≤ i) && decide (i < (C.steps.length : Int))) = true := by simp [hi.1, hi.2]
  rw [e1]
  simp -implicitDefEqProofs [u4, u17, xb', lb']
  refine lcallQ_p s2 (by simp [encCls]) ?_
  by_cases hk : 0 ≤ k ∧ k < D.steps.length
  rotate_left
  · have e3 : (decide (0 ≤ k) && decide (k < (D.steps.length : Int))) = false := by
      rw [Bool.eq_false_iff]; intro h; simp only [Bool.and_eq_true, decide_eq_true_eq] at h; exact hk h
    have e2 : clashP C i D k = false := by simp [clashP, e3]
    rw [e2] at hlc
    rw [e3]
    simp -implicitDefEqProofs [u2, u4, u16, u17, xa', xb', la, lb']
    refine callQ_p hlc (by simp [encCls]) ?_
    simp -implicitDefEqProofs []
  have e3 : (decide (0 ≤ k) && decide (k < (D.steps.length : Int))) = true := by simp [hk.1, hk.2]
  rw [e3]
  obtain ⟨ni, rfl⟩ := Int.eq_ofNat_of_zero_le hi.1
  obtain ⟨nk, rfl⟩ := Int.eq_ofNat_of_zero_le hk.1
  have li : ni < C.steps.length := by omega
  have lk : nk < D.steps.length := by omega
  have j1 := idxOf_nat (k := .i64) li
  have j2 := idxOf_nat (k := .i64) lk
  have f1 := (cls_small m1).2 _ (List.getElem_mem li)
  have f2 := (cls_small m2).2 _ (List.getElem_mem lk)
  have g1 := cls_foot m1 _ (List.getElem_mem li)
  have g2 := cls_foot m2 _ (List.getElem_mem lk)
  have hrc := refClash_ok C.steps[ni].foot D.steps[nk].foot (by omega) (by omega) (fun s hs => ⟨_, footMay_one g1 s hs⟩) (fun s hs => ⟨_, footMay_one g2 s hs⟩)
  rw [clashF_may g1 g2] at hrc
  rw [clashP_nat m1 m2 li lk, clashC_of li lk] at hlc
  simp -implicitDefEqProofs [u2, u4, u16, u17, xa', xb', la, lb', li, lk, encStp]
  refine lcallQ_p hrc (by simp) ?_
  simp -implicitDefEqProofs [u2, u4, u16, u17, xa', xb', la, lb']
  refine callQ_p hlc (by simp [encCls]) ?_
  simp -implicitDefEqProofs []
end Go.Proofs
