/- What the functions that the statement reaches do: their contracts; and what follows of it. -/
import Derived.Test.YtdcpendppalkgaaGreatSLintAdvice11
import Derived.Test.YtdcpendppalkgaaGreatSLintAdvice6
import Derived.Test.YtdcpendppalkgaaGreatSLintAdvice7
/- A catalogue that isn't great, opened: it is copied; its breakpoints are some. -/
namespace Go.Proofs
open Go Go.RowKit Go.Am

def Stp.fair (s : Stp) : Prop := s.code.length ≤ 40 ∧ s.foot.length ≤ 40
def Cls.fair (c : Cls) : Prop := c.steps.length ≤ 20 ∧ c.comps.length ≤ 20 ∧ (∀ s ∈ c.steps, s.fair) ∧ ∀ s ∈ c.comps, s.fair
def Ctlg.fair (x : Ctlg) : Prop := x.classes.length ≤ 12 ∧ (∀ c ∈ x.classes, c.fair) ∧ x.breaks.length = 16

theorem stepsG_ok (l : List Stp) (h4 : l.length ≤ 20) (hs : ∀ s ∈ l, s.fair) : PCall Tryz.prog 64 [.sl .no (l.map encStp)] (.sl .no (l.map encStp)) := by
  refine PCall.run' hb64 ok64 (by simp) (pures1 (pure_sl pure_encStp _)) (pure_sl pure_encStp _) (by simp) ?_
  simp -implicitDefEqProofs []
  by_cases hz : l.length = 0
  · have hn : l = [] := List.length_eq_zero_iff.1 hz
    subst hn
    refine callQ_p (clone_gen hb86 ok86 (([] : List Stp).map encStp) (by simp) (pure_sl pure_encStp []) (by simp) (by simp)) (by simp) ?_
    simp -implicitDefEqProofs [H.nil]
    refine run_loop (fun n s h => s 3 = .sl .no [] ∧ s 9 = .int .i64 0 ∧ s 10 = .int .i64 0) ?_ 0 ?_
    rotate_left
    · exact ⟨by simp, by simp, by simp⟩
    rintro n s h ⟨h3, h9, h10⟩ ih
    simp -implicitDefEqProofs [h3, h9, h10]
    exact ⟨h, .refl _ _⟩
  have h0 : 0 < l.length := by omega
  refine callQ_s (clone_box hb86 ok86 (h := H.nil) (l.map encStp) (by simpa using h0) (by simp) (by
    intro v hv
    simp only [List.mem_flatten, List.mem_map] at hv
    obtain ⟨_, ⟨s, _, rfl⟩, hv⟩ := hv
    exact pure_encStp s v hv) (by simp; omega)) (by simp) ?_
  simp -implicitDefEqProofs [H.nil]
  have hfl : (l.map encStp).flatten.length = l.length * 2 := flatM_len (by simp) l
  refine run_loop (fun n s h => ∃ j : Nat, n = l.length - j ∧ j ≤ l.length ∧ s 3 = .msl 0 2 0 l.length ∧ s 8 = .msl 0 2 0 l.length ∧ 0 < h.bn ∧ h.bx 0 = some (l.map encStp).flatten ∧ s 9 = .int .i64 l.length ∧ s 10 = .int .i64 j) ?_ l.length ?_
  rotate_left
  · exact ⟨0, by simp⟩
  rintro n s h ⟨j, hn, hj, h3, h8, h0, hb, h9, h10⟩ ih
  by_cases hlt : j < l.length
  · have htk := flat_take (z := 2) (enc := encStp) (by simp) l j hlt
    have hle : j * 2 + 2 ≤ l.length * 2 := by omega
    have hsm := hs _ (List.getElem_mem hlt)
    have hset := flat_set (z := 2) (enc := encStp) (by simp) l j l[j] hlt
    rw [List.set_getElem_self] at hset
    simp only [encStp, List.cons_append, List.nil_append] at hset htk
    simp -implicitDefEqProofs [h8, h0, hb, h9, h10, hlt, hfl, hle, htk]
    refine run_dreg c64_d6 ?_
    simp -implicitDefEqProofs [h3]
    refine lcallQ_p (cloneInst_ok l[j].code (by have := hsm.1; omega)) (by simp) ?_
    simp -implicitDefEqProofs []
    refine lcallQ_p (cloneSpanT_ok l[j].foot (by have := hsm.2; omega)) (by simp) ?_
    simp -implicitDefEqProofs [hb, h10, hlt, hfl, hle, hset, show ¬ 0 = h.bn by omega, inc_i64 hlt (by omega), -Int.natCast_add]
    exact ih (l.length - (j + 1)) _ _ (by omega) ⟨j + 1, rfl, by omega, by simp [h3], by simp [h8], by simp, by simp, by simp [h9], by simp⟩
  · simp -implicitDefEqProofs [h3, h9, h10, hlt]
    have := Gh.msl (z := 2) (n := l.length) h0 hb (by omega) (by omega)
    have e := chunks_of (z := 2) (enc := encStp) (by simp) l []
    rw [List.append_nil] at e
    rw [e] at this
    exact ⟨_, this⟩

theorem copiedG_ok (x : Ctlg) (hx : x.fair) : PCall Tryz.prog 42 [.agg (encCtlg x)] (.agg (encCtlg x)) := by
  obtain ⟨hn4, hcs, hbl⟩ := hx
  have htk := x.take16 hbl
  by_cases hz : x.classes.length = 0
  · have hn : x.classes = [] := List.length_eq_zero_iff.1 hz
    refine PCall.run hb42 ok42 (by simp) (pures1 (.agg (pure_encCtlg x))) (.agg (pure_encCtlg x)) ?_
    simp -implicitDefEqProofs [encCtlg, hbl, hn]
    refine callQ_p (clone_gen hb63 ok63 (([] : List Cls).map encCls) (by simp) (pure_sl pure_encCls []) (by simp) (by simp)) (by simp) ?_
    simp -implicitDefEqProofs [H.nil, hbl]
    refine run_loop (fun n s h => s 1 = .ptr 0 0 ∧ s 2 = .ptr 1 0 ∧ 1 < h.bn ∧ h.bx 0 = some (.sl .no [] :: x.breaks.map (AV.int .i64)) ∧ (∃ cs, h.bx 1 = some cs ∧ cs.length = 17) ∧ s 11 = .int .i64 0 ∧ s 12 = .int .i64 0) ?_ 0 ?_
    rotate_left
    · exact ⟨by simp, by simp, by simp, by simp, by simp, by simp, by simp⟩
    rintro n s h ⟨h1, h2, lb, hb0, ⟨cs, hb1, hcl⟩, h11, h12⟩ ih
    have hdr : List.drop 17 cs = [] := List.drop_eq_nil_of_le (by omega)
    simp -implicitDefEqProofs [h1, h2, hb0, hb1, h11, h12, hbl, htk, hcl, hdr, lb, show 0 < h.bn by omega]
  refine PCall.run' hb42 ok42 (by simp) (pures1 (.agg (pure_encCtlg x))) (.agg (pure_encCtlg x)) (by simp) ?_
  have hn0 : 0 < x.classes.length := by omega
  simp -implicitDefEqProofs [encCtlg, hbl]
  refine callQ_s (clone_box hb63 ok63 (x.classes.map encCls) (by simpa using hn0) (by simp) (by
    intro v hv
    simp only [List.mem_flatten, List.mem_map] at hv
    obtain ⟨_, ⟨s, _, rfl⟩, hv⟩ := hv
    exact pure_encCls s v hv) (by simp; omega)) (by simp) ?_
  simp -implicitDefEqProofs [H.nil, hbl]
  have hfl : (x.classes.map encCls).flatten.length = x.classes.length * 5 := flatM_len (by simp) x.classes
  refine run_loop (fun n s h => ∃ j : Nat, n = x.classes.length - j ∧ j ≤ x.classes.length ∧ s 1 = .ptr 0 0 ∧ s 2 = .ptr 1 0 ∧ s 10 = .msl 2 5 0 x.classes.length ∧ 2 < h.bn ∧ h.bx 0 = some (.msl 2 5 0 x.classes.length :: x.breaks.map (AV.int .i64)) ∧ (∃ cs, h.bx 1 = some cs ∧ cs.length = 17) ∧ h.bx 2 = some (x.classes.map encCls).flatten ∧ s 11 = .int .i64 x.classes.length ∧ s 12 = .int .i64 j) ?_ x.classes.length ?_
  rotate_left
  · exact ⟨0, by simp⟩
  rintro n s h ⟨j, hn, hj, h1, h2, h10, h0, hb0, ⟨cs, hb1, hcl⟩, hb2, h11, h12⟩ ih
  by_cases hlt : j < x.classes.length
  · have htk := flat_take (z := 5) (enc := encCls) (by simp) x.classes j hlt
    have hle : j * 5 + 5 ≤ x.classes.length * 5 := by omega
    have hsm := hcs _ (List.getElem_mem hlt)
    have hset := flat_set (z := 5) (enc := encCls) (by simp) x.classes j x.classes[j] hlt
    rw [List.set_getElem_self] at hset
    simp -implicitDefEqProofs [h10, h0, hb2, h11, h12, hlt, hfl, hle, htk]
    refine run_dreg c42_d6 ?_
    simp -implicitDefEqProofs [h1, hb0, show ¬ 0 = h.bn by omega, encCls, show 0 < h.bn + 1 by omega]
    refine lcallQ_p (stepsG_ok x.classes[j].steps hsm.1 hsm.2.2.1) (by simp) ?_
    simp -implicitDefEqProofs []
    refine lcallQ_p (stepsG_ok x.classes[j].comps hsm.2.1 hsm.2.2.2) (by simp) ?_
    have hp2 := put_same (flatC_get x.classes hlt (k := 2) (by omega))
    have hp3 := put_same (flatC_get x.classes hlt (k := 3) (by omega))
    simp only [encCls, List.getElem_cons_succ, List.getElem_cons_zero] at hp2 hp3
    simp -implicitDefEqProofs [hb0, hb2, h12, hlt, hfl, show ¬ 2 = h.bn by omega, show ¬ 0 = h.bn by omega, hp2, hp3, inc_i64 hlt (by omega), -Int.natCast_add, show j * 5 + 2 + 1 ≤ x.classes.length * 5 by omega, show 2 < h.bn + 1 by omega, show ¬ h.bn = 2 by omega, encCls]
    refine ⟨by omega, ?_⟩
    exact ih (x.classes.length - (j + 1)) _ _ (by omega) ⟨j + 1, rfl, by omega, by simp [h1], by simp [h2], by simp [h10], by simp; omega, by simp [hb0, show ¬ 0 = h.bn by omega], ⟨cs, by simp [hb1, show ¬ 1 = h.bn by omega], hcl⟩, by simp, by simp [h11], by simp⟩
  · simp -implicitDefEqProofs [h1, h2, hb0, hb1, h11, h12, hlt, hbl, htk, hcl, show 0 < h.bn by omega, show 1 < h.bn by omega]
    have := Gh.aggMsl (z := 5) (n := x.classes.length) (h := h.set 1 (.msl 2 5 0 x.classes.length :: (x.breaks.map (AV.int .i64) ++ List.drop 17 cs))) (b := 2) (cs := (x.classes.map encCls).flatten) (rest := x.breaks.map (AV.int .i64)) (by simpa using h0) (by simp [hb2]) (by omega) (by omega)
    have e := chunks_of (z := 5) (enc := encCls) (by simp) x.classes []
    rw [List.append_nil] at e
    rw [e] at this
    exact ⟨_, this⟩


/-- One round after the other. -/
theorem pairsB_ok (x : Ctlg) (n4 : 4 < x.classes.length) {l b : Nat} {h : H} (I : Nat → H → Prop) (hI : ∀ k h', I k h' → b < h'.bn ∧ h'.bx b = some (encCtlg x))
    (hr : ∀ c d h', c < 4 → d < 4 → I (c * 4 + d) h' → ∀ K : AV → H → Prop, (∀ h'', I (c * 4 + d + 1) h'' → K (.bool true) h'') → callQ Tryz.prog (.yld l) [.int .i64 c, .int .i64 d] h' K)
    (h0 : I 0 h) : CallP Tryz.prog 85 [.yld l, .ptr b 0] h fun _ h1 => I (4 * 4) h1 := by
  refine CallP.run hb85 ok85 (by simp) ?_
  obtain ⟨b1, b2⟩ := hI _ _ h0
  have hmn : (4 : Int) < x.classes.length := by omega
  simp -implicitDefEqProofs [b1, b2, encCtlg, hmn]
  refine run_loop (fun m s h1 => ∃ c : Nat, m = 4 - c ∧ c ≤ 4 ∧ s 0 = .yld l ∧ s 3 = .int .i64 4 ∧ s 10 = .int .i64 4 ∧ s 11 = .int .i64 c ∧ I (c * 4) h1) ?_ 4 ?_
  rotate_left
  · exact ⟨0, by simpa using h0⟩
  rintro m s h1 ⟨c, hn, hc, s0, s3, s10, s11, hi⟩ ih
  by_cases hlc : c < 4
  · simp -implicitDefEqProofs [s3, s10, s11, show (c : Int) < 4 by omega]
    refine run_loop (fun m s h1 => ∃ d : Nat, m = 4 - d ∧ d ≤ 4 ∧ s 0 = .yld l ∧ s 3 = .int .i64 4 ∧ s 10 = .int .i64 4 ∧ s 11 = .int .i64 c ∧ s 4 = .int .i64 c ∧ s 14 = .int .i64 4 ∧ s 15 = .int .i64 d ∧ I (c * 4 + d) h1) ?_ 4 ?_
    rotate_left
    · exact ⟨0, by simp [s0, s3, s10, s11, hi]⟩
    rintro m s h1 ⟨d, hn, hd, s0, s3, s10, s11, s4, s14, s15, hi⟩ ih2
    by_cases hld : d < 4
    · simp -implicitDefEqProofs [s0, s4, s14, s15, show (d : Int) < 4 by omega]
      refine hr c d _ hlc hld hi _ fun h2 hi2 => ?_
      simp -implicitDefEqProofs [s15, inc_i64 hld (by omega), -Int.natCast_add]
      exact ih2 (4 - (d + 1)) _ _ (by omega) ⟨d + 1, rfl, by omega, by simp [s0], by simp [s3], by simp [s10], by simp [s11], by simp [s4], by simp [s14], by simp, hi2⟩
    · obtain rfl : d = 4 := by omega
      simp -implicitDefEqProofs [s11, s14, s15, inc_i64 hlc (by omega), -Int.natCast_add]
      exact ih (4 - (c + 1)) _ _ (by omega) ⟨c + 1, rfl, by omega, by simp [s0], by simp [s3], by simp [s10], by simp, by rw [Nat.add_mul, Nat.one_mul]; exact hi⟩
  · obtain rfl : c = 4 := by omega
    simp -implicitDefEqProofs [s10, s11]
    exact hi

theorem turnedB_run (x : Ctlg) (n4 : 4 < x.classes.length) {h : H} {G : FuncId} {first caps : List AV} (hf : first.map wk = first) (hcp : caps.map wk = caps) (t : Nat → Nat → Int)
    (ht : ∀ c d h', c < 4 → d < 4 → HF h h' (fun _ => False) (fun _ => False) → SCall Tryz.prog G (first ++ [.int .i64 c, .int .i64 d] ++ caps) h' (.int .i64 (t c d)) h')
    {S : Slots} {h5 : H} {Q : Res → Slots → H → Prop} {k : List It} (s3 : S 3 = .ptr (h.bn + 1) 0) (_ : S 4 = .ptr (h.bn + 2) 0) (s5 : S 5 = .ptr (h.bn + 3) 0) (s9 : S 9 = .fn 85 [] [.ptr (h.bn + 4) 0])
    (hln : h5.ln = h.ln) (hbn : h5.bn = h.bn + 5) (b1 : h5.bx (h.bn + 1) = some [.fn G first caps]) (b2 : ∃ cs, h5.bx (h.bn + 2) = some cs ∧ cs.length = 16) (b3 : h5.bx (h.bn + 3) = some ((turnL 4 t 0).map (AV.int .i64))) (b4 : h5.bx (h.bn + 4) = some (encCtlg x)) (hhf : HF h h5 (fun _ => False) (fun _ => False))
    (hk : ∀ h', h.bn + 5 ≤ h'.bn → (∃ cs, h'.bx (h.bn + 2) = some cs ∧ cs.length = 16) → h'.bx (h.bn + 3) = some ((turnL 4 t (4 * 4)).map (AV.int .i64)) → HF h h' (fun _ => False) (fun _ => False) → Run Tryz.prog false k Q S h') :
    Run Tryz.prog false (.c (.rngf (.t 9) [10, 11] c39_x7 c39_y8) :: k) Q S h5 := by
  let J : Nat → H → Prop := fun k h' => h.ln < h'.ln ∧ h'.lp h.ln = some ⟨S, [10, 11], c39_x7, c39_y8, .ready, none⟩ ∧ h.bn + 5 ≤ h'.bn ∧ h'.bx (h.bn + 1) = some [.fn G first caps] ∧ (∃ cs, h'.bx (h.bn + 2) = some cs ∧ cs.length = 16) ∧ h'.bx (h.bn + 3) = some ((turnL 4 t k).map (AV.int .i64)) ∧ h'.bx (h.bn + 4) = some (encCtlg x) ∧ HF h h' (fun _ => False) (fun _ => False)
  refine .rngf (Z := fun _ h1 => J (4 * 4) h1) (F := 85) (first := []) (caps := [.ptr (h.bn + 4) 0]) rfl (by simpa using s9) (pairsB_ok x n4 J (fun k h' ⟨_, _, q1, _, _, _, q2, _⟩ => ⟨by omega, q2⟩) ?_ ?_) ?_ ?_
  · rintro c d h' hc hd ⟨j1, j2, j3, j4, ⟨cs, j5, j5'⟩, j6, j7, j8⟩ K hK
    rw [hln]
    refine callQ_y (q := ⟨S, [10, 11], c39_x7, c39_y8, .ready, none⟩) j1 j2 rfl ?_
    have hst := turnL_step (n := 4) (by decide) t hc hd
    have hl := turnL_len 4 t (c * 4 + d)
    simp -implicitDefEqProofs [slotsP, j1, j2]
    refine run_dreg c39_d6 ?_
    simp -implicitDefEqProofs [s3, j4, show h.bn + 1 < h'.bn by omega]
    refine callD_s (ht c d (h'.setLoop h.ln _) hc hd ⟨j8.bn, j8.bx, j8.tn, j8.tk, j8.ln, fun l hl => by simp [show l ≠ h.ln by omega]; exact j8.lp l hl, j8.mn, j8.mp⟩) (by simp [hf, hcp]) ?_
    simp -implicitDefEqProofs [s3, s5, j1, j4, j6, show (c : Int) < 4 by omega, show (d : Int) < 4 by omega, hst, hl, show h.bn + 3 < h'.bn by omega, show c * 4 + d + 1 ≤ 16 by omega, roundQ]
    refine ⟨by omega, hK _ ⟨by simpa using j1, by simp, by simpa using j3, by simp [j4], ⟨cs, by simp [j5], j5'⟩, by simp, by simp [j7], ⟨by simpa using j8.bn, fun b hb hn => by simp [show b ≠ h.bn + 3 by omega]; exact j8.bx b hb hn, j8.tn, j8.tk, j8.ln, fun l hl => ?_, j8.mn, j8.mp⟩⟩⟩
    have : l ≠ h.ln := by omega
    simpa [this] using j8.lp l hl
  · exact ⟨by simp [hln], by simp [hln], by simp [hbn], by simpa using b1, by simpa using b2, by simpa using b3, by simpa using b4, ⟨by simpa using hhf.bn, hhf.bx, hhf.tn, hhf.tk, by simp [hln], fun l hl => by simp [hln, show l ≠ h.ln by omega]; exact hhf.lp l hl, hhf.mn, hhf.mp⟩⟩
  · rintro v h2 ⟨j1, j2, j3, j4, j5, j6, j7, j8⟩
    rw [hln]
    exact ⟨j1, _, j2, by simp⟩
  · rintro v h2 q ⟨j1, j2, j3, j4, j5, j6, j7, j8⟩ hq
    rw [hln] at hq ⊢
    rw [j2] at hq
    cases hq
    exact hk _ (by simpa using j3) (by simpa using j5) (by simpa using j6) ⟨j8.bn, j8.bx, j8.tn, j8.tk, j8.ln, fun l hl => by simp [show l ≠ h.ln by omega]; exact j8.lp l hl, j8.mn, j8.mp⟩

theorem turnedB_ok (x : Ctlg) (hw : x.breaks.length = 16) (n4 : 4 < x.classes.length) {h : H} {G : FuncId} {first caps : List AV} (hf : first.map wk = first) (hcp : caps.map wk = caps) (t : Nat → Nat → Int)
    (ht : ∀ c d h', c < 4 → d < 4 → HF h h' (fun _ => False) (fun _ => False) → SCall Tryz.prog G (first ++ [.int .i64 c, .int .i64 d] ++ caps) h' (.int .i64 (t c d)) h') :
    SCall Tryz.prog 39 [.agg (encCtlg x), .fn G first caps] h (.agg ((turnL 4 t (4 * 4)).map (AV.int .i64))) h := by
  refine SCall.ro (CallP.run hb39 ok39 (by simp) ?_) (.agg (pure_arr _))
  have htk := x.take16 hw
  simp -implicitDefEqProofs [encCtlg, htk, hw]
  refine callQ_s (pairs_ok x hw _) (by simp [encCtlg]) ?_
  simp -implicitDefEqProofs []
  have hz : turnL 4 t 0 = List.replicate 16 0 := by simp [turnL, List.replicate, List.range, List.range.loop]
  refine turnedB_run x n4 (h := h) hf hcp t ht (by simp) (by simp) (by simp) (by simp) (by simp) (by simp) (by simp) (by simp) (by simp [hz, List.replicate]) (by simp [encCtlg]) ((((HF.alloc _ _ _ _).trans (HF.alloc _ _ _ _)).trans (HF.alloc _ _ _ _)).trans ((HF.alloc _ _ _ _).trans (HF.alloc _ _ _ _))) ?_
  rintro h' q1 ⟨cs, q2, q2'⟩ q3 q4
  have hl := turnL_len 4 t (4 * 4)
  have htk2 : List.take 16 ((turnL 4 t (4 * 4)).map (AV.int .i64)) = (turnL 4 t (4 * 4)).map (AV.int .i64) := List.take_of_length_le (by simp [hl])
  simp -implicitDefEqProofs [q2, q3, hl, htk2, q2', show h.bn + 1 + 1 + 1 < h'.bn by omega, show h.bn + 1 + 1 < h'.bn by omega]
  exact q4.trans' (HF.set (B := (· = h.bn + 1 + 1)) _ rfl) (fun b hb e => by have e : b = h.bn + 1 + 1 := e; omega) (fun _ _ h => h)


theorem allG_ok (c : Cls) (h : c.steps.length ≤ 20) : ∃ v, PCall Tryz.prog 41 [.agg (encCls c)] (.int .i64 v) := by
  have hl : c.steps.length = 0 ∨ c.steps.length = 1 ∨ c.steps.length = 2 ∨ c.steps.length = 3 ∨ c.steps.length = 4 ∨ c.steps.length = 5 ∨ c.steps.length = 6 ∨ c.steps.length = 7 ∨ c.steps.length = 8 ∨ c.steps.length = 9 ∨ c.steps.length = 10 ∨ c.steps.length = 11 ∨ c.steps.length = 12 ∨ c.steps.length = 13 ∨ c.steps.length = 14 ∨ c.steps.length = 15 ∨ c.steps.length = 16 ∨ c.steps.length = 17 ∨ c.steps.length = 18 ∨ c.steps.length = 19 ∨ c.steps.length = 20 := by omega
  rcases hl with hl | hl | hl | hl | hl | hl | hl | hl | hl | hl | hl | hl | hl | hl | hl | hl | hl | hl | hl | hl | hl
  · exact ⟨0, PCall.run hb41 ok41 (by simp) (pures1 (.agg (pure_encCls c))) (.int _ _) (by simp -implicitDefEqProofs [encCls, hl, show IntKind.i64.wrap (-1) = -1 by decide, show IntKind.i64.wrap (0) = 0 by decide, show IntKind.i64.wrap (1) = 1 by decide, shAmt, IntKind.bits, H.nil])⟩
  · exact ⟨0, PCall.run hb41 ok41 (by simp) (pures1 (.agg (pure_encCls c))) (.int _ _) (by simp -implicitDefEqProofs [encCls, hl, show IntKind.i64.wrap (0) = 0 by decide, show IntKind.i64.wrap (1) = 1 by decide, shAmt, IntKind.bits, H.nil])⟩
  · exact ⟨1, PCall.run hb41 ok41 (by simp) (pures1 (.agg (pure_encCls c))) (.int _ _) (by simp -implicitDefEqProofs [encCls, hl, show IntKind.i64.wrap (1) = 1 by decide, show IntKind.i64.wrap (2) = 2 by decide, shAmt, IntKind.bits, H.nil])⟩
  · exact ⟨3, PCall.run hb41 ok41 (by simp) (pures1 (.agg (pure_encCls c))) (.int _ _) (by simp -implicitDefEqProofs [encCls, hl, show IntKind.i64.wrap (2) = 2 by decide, show IntKind.i64.wrap (3) = 3 by decide, show IntKind.i64.wrap (4) = 4 by decide, shAmt, IntKind.bits, H.nil])⟩
  · exact ⟨7, PCall.run hb41 ok41 (by simp) (pures1 (.agg (pure_encCls c))) (.int _ _) (by simp -implicitDefEqProofs [encCls, hl, show IntKind.i64.wrap (3) = 3 by decide, show IntKind.i64.wrap (7) = 7 by decide, show IntKind.i64.wrap (8) = 8 by decide, shAmt, IntKind.bits, H.nil])⟩
  · exact ⟨15, PCall.run hb41 ok41 (by simp) (pures1 (.agg (pure_encCls c))) (.int _ _) (by simp -implicitDefEqProofs [encCls, hl, show IntKind.i64.wrap (4) = 4 by decide, show IntKind.i64.wrap (15) = 15 by decide, show IntKind.i64.wrap (16) = 16 by decide, shAmt, IntKind.bits, H.nil])⟩
  · exact ⟨31, PCall.run hb41 ok41 (by simp) (pures1 (.agg (pure_encCls c))) (.int _ _) (by simp -implicitDefEqProofs [encCls, hl, show IntKind.i64.wrap (5) = 5 by decide, show IntKind.i64.wrap (31) = 31 by decide, show IntKind.i64.wrap (32) = 32 by decide, shAmt, IntKind.bits, H.nil])⟩
  · exact ⟨63, PCall.run hb41 ok41 (by simp) (pures1 (.agg (pure_encCls c))) (.int _ _) (by simp -implicitDefEqProofs [encCls, hl, show IntKind.i64.wrap (6) = 6 by decide, show IntKind.i64.wrap (63) = 63 by decide, show IntKind.i64.wrap (64) = 64 by decide, shAmt, IntKind.bits, H.nil])⟩
  · exact ⟨127, PCall.run hb41 ok41 (by simp) (pures1 (.agg (pure_encCls c))) (.int _ _) (by simp -implicitDefEqProofs [encCls, hl, show IntKind.i64.wrap (7) = 7 by decide, show IntKind.i64.wrap (127) = 127 by decide, show IntKind.i64.wrap (128) = 128 by decide, shAmt, IntKind.bits, H.nil])⟩
  · exact ⟨255, PCall.run hb41 ok41 (by simp) (pures1 (.agg (pure_encCls c))) (.int _ _) (by simp -implicitDefEqProofs [encCls, hl, show IntKind.i64.wrap (8) = 8 by decide, show IntKind.i64.wrap (255) = 255 by decide, show IntKind.i64.wrap (256) = 256 by decide, shAmt, IntKind.bits, H.nil])⟩
  · exact ⟨511, PCall.run hb41 ok41 (by simp) (pures1 (.agg (pure_encCls c))) (.int _ _) (by simp -implicitDefEqProofs [encCls, hl, show IntKind.i64.wrap (9) = 9 by decide, show IntKind.i64.wrap (511) = 511 by decide, show IntKind.i64.wrap (512) = 512 by decide, shAmt, IntKind.bits, H.nil])⟩
  · exact ⟨1023, PCall.run hb41 ok41 (by simp) (pures1 (.agg (pure_encCls c))) (.int _ _) (by simp -implicitDefEqProofs [encCls, hl, show IntKind.i64.wrap (10) = 10 by decide, show IntKind.i64.wrap (1023) = 1023 by decide, show IntKind.i64.wrap (1024) = 1024 by decide, shAmt, IntKind.bits, H.nil])⟩
  · exact ⟨2047, PCall.run hb41 ok41 (by simp) (pures1 (.agg (pure_encCls c))) (.int _ _) (by simp -implicitDefEqProofs [encCls, hl, show IntKind.i64.wrap (11) = 11 by decide, show IntKind.i64.wrap (2047) = 2047 by decide, show IntKind.i64.wrap (2048) = 2048 by decide, shAmt, IntKind.bits, H.nil])⟩
  · exact ⟨4095, PCall.run hb41 ok41 (by simp) (pures1 (.agg (pure_encCls c))) (.int _ _) (by simp -implicitDefEqProofs [encCls, hl, show IntKind.i64.wrap (12) = 12 by decide, show IntKind.i64.wrap (4095) = 4095 by decide, show IntKind.i64.wrap (4096) = 4096 by decide, shAmt, IntKind.bits, H.nil])⟩
  · exact ⟨8191, PCall.run hb41 ok41 (by simp) (pures1 (.agg (pure_encCls c))) (.int _ _) (by simp -implicitDefEqProofs [encCls, hl, show IntKind.i64.wrap (13) = 13 by decide, show IntKind.i64.wrap (8191) = 8191 by decide, show IntKind.i64.wrap (8192) = 8192 by decide, shAmt, IntKind.bits, H.nil])⟩
  · exact ⟨16383, PCall.run hb41 ok41 (by simp) (pures1 (.agg (pure_encCls c))) (.int _ _) (by simp -implicitDefEqProofs [encCls, hl, show IntKind.i64.wrap (14) = 14 by decide, show IntKind.i64.wrap (16383) = 16383 by decide, show IntKind.i64.wrap (16384) = 16384 by decide, shAmt, IntKind.bits, H.nil])⟩
  · exact ⟨32767, PCall.run hb41 ok41 (by simp) (pures1 (.agg (pure_encCls c))) (.int _ _) (by simp -implicitDefEqProofs [encCls, hl, show IntKind.i64.wrap (15) = 15 by decide, show IntKind.i64.wrap (32767) = 32767 by decide, show IntKind.i64.wrap (32768) = 32768 by decide, shAmt, IntKind.bits, H.nil])⟩
  · exact ⟨65535, PCall.run hb41 ok41 (by simp) (pures1 (.agg (pure_encCls c))) (.int _ _) (by simp -implicitDefEqProofs [encCls, hl, show IntKind.i64.wrap (16) = 16 by decide, show IntKind.i64.wrap (65535) = 65535 by decide, show IntKind.i64.wrap (65536) = 65536 by decide, shAmt, IntKind.bits, H.nil])⟩
  · exact ⟨131071, PCall.run hb41 ok41 (by simp) (pures1 (.agg (pure_encCls c))) (.int _ _) (by simp -implicitDefEqProofs [encCls, hl, show IntKind.i64.wrap (17) = 17 by decide, show IntKind.i64.wrap (131071) = 131071 by decide, show IntKind.i64.wrap (131072) = 131072 by decide, shAmt, IntKind.bits, H.nil])⟩
  · exact ⟨262143, PCall.run hb41 ok41 (by simp) (pures1 (.agg (pure_encCls c))) (.int _ _) (by simp -implicitDefEqProofs [encCls, hl, show IntKind.i64.wrap (18) = 18 by decide, show IntKind.i64.wrap (262143) = 262143 by decide, show IntKind.i64.wrap (262144) = 262144 by decide, shAmt, IntKind.bits, H.nil])⟩
  · exact ⟨524287, PCall.run hb41 ok41 (by simp) (pures1 (.agg (pure_encCls c))) (.int _ _) (by simp -implicitDefEqProofs [encCls, hl, show IntKind.i64.wrap (19) = 19 by decide, show IntKind.i64.wrap (524287) = 524287 by decide, show IntKind.i64.wrap (524288) = 524288 by decide, shAmt, IntKind.bits, H.nil])⟩

/-- Some breakpoints. -/
theorem allG_t (x : Ctlg) (hx : x.fair) : ∃ t : Nat → Nat → Int, ∀ (c d : Nat) (h : c < x.classes.length), PCall Tryz.prog 41 [.agg (encCls x.classes[c])] (.int .i64 (t c d)) := by
  have : ∀ c : Nat, ∃ v : Int, ∀ h : c < x.classes.length, PCall Tryz.prog 41 [.agg (encCls x.classes[c])] (.int .i64 v) := fun c => by
    by_cases h : c < x.classes.length
    · obtain ⟨v, hv⟩ := allG_ok x.classes[c] (hx.2.1 _ (List.getElem_mem h)).1
      exact ⟨v, fun _ => hv⟩
    · exact ⟨0, fun h' => absurd h' h⟩
  obtain ⟨t, ht⟩ := Classical.axiomOfChoice this
  exact ⟨fun c _ => t c, fun c d h => ht c h⟩
theorem open1G_ok (x : Ctlg) {t : Nat → Nat → Int} (ht : ∀ (c d : Nat) (h : c < x.classes.length), PCall Tryz.prog 41 [.agg (encCls x.classes[c])] (.int .i64 (t c d))) {h : H} {b c d : Nat} (hb : b < h.bn) (hbx : h.bx b = some (encCtlg x)) (hc : c < x.classes.length) : SCall Tryz.prog 43 [.int .i64 c, .int .i64 d, .ptr b 0] h (.int .i64 (t c d)) h := by
  refine SCall.ro (CallP.run hb43 ok43 (by simp) ?_) (.int _ _)
  rw [encCtlg] at hbx
  simp -implicitDefEqProofs [hb, hbx, hc]
  refine callQ_p (ht c d hc) (by simp) ?_
  simp -implicitDefEqProofs []
  exact HF.refl _ _ _
theorem openedG_ok (x : Ctlg) (hx : x.fair) : ∃ L : List Int, L.length = 16 ∧ PCall Tryz.prog 25 [.agg (encCtlg x)] (.agg (encCtlg (x.with L))) := by
  have hbl := hx.2.2
  have htk := x.take16 hbl
  have hdr : List.drop 16 (x.breaks.map (AV.int .i64)) = [] := by simp [hbl]
  obtain ⟨t, ht⟩ := allG_t x hx
  by_cases n4 : x.classes.length ≤ 4
  · refine ⟨turnL x.classes.length t (x.classes.length * x.classes.length), turnL_len _ _ _, PCall.run hb25 ok25 (by simp) (pures1 (.agg (pure_encCtlg x))) (.agg (pure_encCtlg _)) ?_⟩
    simp -implicitDefEqProofs [encCtlg, htk, hbl]
    refine callQ_p (copiedG_ok x hx) (by simp [encCtlg]) ?_
    simp -implicitDefEqProofs [encCtlg, hbl, H.nil]
    refine callQ_s (turned_ok x hbl n4 (first := []) (caps := [.ptr 0 0]) rfl (by simp) t fun c d h' hc hd hf => open1G_ok x ht ?_ ?_ hc) (by simp [encCtlg]) ?_
    · have := hf.bn
      simp at this
      omega
    · rw [hf.bx 0 (by simp) (fun h => h)]
      simp [encCtlg, hbl]
    have hl := turnL_len x.classes.length t (x.classes.length * x.classes.length)
    simp -implicitDefEqProofs [hbl, hl, hdr, H.nil]
    exact ⟨rfl, by rw [List.take_of_length_le (by simp [hl]), List.take_of_length_le (by simp [hl])]; rfl⟩
  · have n4 : 4 < x.classes.length := by omega
    refine ⟨turnL 4 t (4 * 4), turnL_len _ _ _, PCall.run hb25 ok25 (by simp) (pures1 (.agg (pure_encCtlg x))) (.agg (pure_encCtlg _)) ?_⟩
    simp -implicitDefEqProofs [encCtlg, htk, hbl]
    refine callQ_p (copiedG_ok x hx) (by simp [encCtlg]) ?_
    simp -implicitDefEqProofs [encCtlg, hbl, H.nil]
    refine callQ_s (turnedB_ok x hbl n4 (first := []) (caps := [.ptr 0 0]) rfl (by simp) t fun c d h' hc hd hf => open1G_ok x ht ?_ ?_ (by omega)) (by simp [encCtlg]) ?_
    · have := hf.bn
      simp at this
      omega
    · rw [hf.bx 0 (by simp) (fun h => h)]
      simp [encCtlg, hbl]
    have hl := turnL_len 4 t (4 * 4)
    simp -implicitDefEqProofs [hbl, hl, hdr, H.nil]
    exact ⟨rfl, by rw [List.take_of_length_le (by simp [hl]), List.take_of_length_le (by simp [hl])]; rfl⟩
end Go.Proofs

/- The program's advice. -/
namespace Go.Proofs
open Go Go.RowKit Go.Am

theorem fair_of {x : Ctlg} (hw : x.wf) (h : bigX x = false) : x.fair := by
  simp only [bigX, Bool.or_eq_false_iff, decide_eq_false_iff_not, List.any_eq_false] at h
  refine ⟨by omega, fun c hc => ?_, hw.2.1⟩
  have hb := h.1 c hc
  have hb : bigC c = false := by simpa using hb
  simp only [bigC, Bool.or_eq_false_iff, decide_eq_false_iff_not, List.any_eq_false] at hb
  have hs : ∀ s ∈ c.steps ++ c.comps, s.fair := fun s hs => by
    have := hb.2 s hs
    have : bigS s = false := by simpa using this
    simp only [bigS, Bool.or_eq_false_iff, decide_eq_false_iff_not] at this
    exact ⟨by omega, by omega⟩
  exact ⟨by omega, by omega, fun s h => hs s (List.mem_append_left _ h), fun s h => hs s (List.mem_append_right _ h)⟩
theorem turnL_at1 {n : Nat} (n4 : n ≤ 4) (t : Nat → Nat → Int) {c d : Nat} (hc : c < n) (hd : d < n) : List.take 1 (List.drop (c * 4 + d) ((turnL n t (n * n)).map (AV.int .i64))) = [.int .i64 (t c d)] := by
  have hlt : c * 4 + d < (turnL n t (n * n)).length := by rw [turnL_len]; omega
  have h := turnL_at n4 t (show c < 4 by omega) (show d < 4 by omega)
  rw [show 4 * c + d = c * 4 + d by omega, List.getElem?_eq_getElem hlt, Option.getD_some, if_pos ⟨hc, hd⟩] at h
  rw [List.drop_eq_getElem_cons (by simpa using hlt)]
  simp [h]

set_option maxHeartbeats 2000000 in
theorem lAdvice_ok (x : Ctlg) (hw : x.wf) (hx : x.fair) : PCall Tryz.prog 8 [.agg (encCtlg x)] (.agg (encCtlg (if catMay x = true then advOf x else x))) := by
  refine PCall.run hb8 ok8 (by simp) (pures1 (.agg (pure_encCtlg x))) (.agg (pure_encCtlg _)) ?_
  have hbl := hw.2.1
  have htk := x.take16 hbl
  have hcl := lClashes_ok x hw
  cases hm : catMay x
  · obtain ⟨L, hL, hO⟩ := openedG_ok x hx
    rw [hm] at hcl
    have htL : List.take 16 (L.map (AV.int .i64)) = L.map (AV.int .i64) := List.take_of_length_le (by simp [hL])
    have hdL : List.drop 16 (L.map (AV.int .i64)) = [] := List.drop_eq_nil_of_le (by simp [hL])
    simp -implicitDefEqProofs [encCtlg, H.nil, hbl, htk]
    refine callQ_p hO (by simp [encCtlg]) ?_
    simp -implicitDefEqProofs [encCtlg, Ctlg.with, hbl, htk, hL, htL, hdL]
    refine callQ_p hcl (by simp [encCtlg]) ?_
    simp -implicitDefEqProofs []
    refine run_loop (fun n s h => s 2 = .ptr 1 0 ∧ s 3 = .ptr 2 0 ∧ s 18 = .int .i64 0 ∧ s 19 = .int .i64 0 ∧ 2 < h.bn ∧ (∃ cs, h.bx 1 = some cs ∧ cs.length = 17) ∧ h.bx 2 = some (.sl .no (x.classes.map encCls) :: x.breaks.map (AV.int .i64))) ?_ 0 ?_
    rotate_left
    · exact ⟨by simp, by simp, by simp, by simp, by simp, by simp, by simp⟩
    rintro n s h ⟨t2, t3, t18, t19, lb, ⟨cs, b1, hcs⟩, b2⟩ ih
    have hdr : List.drop 17 cs = [] := List.drop_eq_nil_of_le (by omega)
    simp -implicitDefEqProofs [t2, t3, t18, t19, lb, b1, b2, hcs, hdr, hbl, htk, show 1 < h.bn by omega]
  · have hs := (catMay_small hw hm).1
    have hO := opened_ok x hs
    have n4 := hs.2.1
    rw [hm] at hcl
    have hL := turnL_len x.classes.length (openT x) (x.classes.length * x.classes.length)
    have hat : ∀ c d, c < x.classes.length → d < x.classes.length → List.take 1 (List.drop (c * 4 + d) ((turnL x.classes.length (openT x) (x.classes.length * x.classes.length)).map (AV.int .i64))) = [.int .i64 (openT x c d)] := fun c d hc hd => turnL_at1 n4 (openT x) hc hd
    unfold openOf at hO
    generalize turnL x.classes.length (openT x) (x.classes.length * x.classes.length) = L at *
    have htL : List.take 16 (L.map (AV.int .i64)) = L.map (AV.int .i64) := List.take_of_length_le (by simp [hL])
    have hdL : List.drop 16 (L.map (AV.int .i64)) = [] := List.drop_eq_nil_of_le (by simp [hL])
    simp -implicitDefEqProofs [encCtlg, H.nil, hbl, htk]
    refine callQ_p hO (by simp [encCtlg]) ?_
    simp -implicitDefEqProofs [encCtlg, Ctlg.with, hbl, htk, hL, htL, hdL]
    refine callQ_p hcl (by simp [encCtlg]) ?_
    simp -implicitDefEqProofs [rowsV]
    refine run_loop (fun m S h => ∃ c : Nat, m = x.classes.length - c ∧ c ≤ x.classes.length ∧ S 2 = .ptr 1 0 ∧ S 3 = .ptr 2 0 ∧ S 4 = .ptr 3 0 ∧ S 17 = rowsV x ∧ S 18 = .int .i64 x.classes.length ∧ S 19 = .int .i64 c ∧ 3 < h.bn ∧ (∃ cs, h.bx 1 = some cs ∧ cs.length = 17) ∧ h.bx 2 = some (.sl .no (x.classes.map encCls) :: (advL x (c * x.classes.length)).map (AV.int .i64)) ∧ h.bx 3 = some (L.map (AV.int .i64))) ?_ x.classes.length ?_
    rotate_left
    · exact ⟨0, by simp, by simp, by simp, by simp, by simp, by simp [rowsV], by simp, by simp, by simp, by simp, by simp [advL_zero x hbl], by simp⟩
    rintro m S h ⟨c, hmm, hc, t2, t3, t4, t17, t18, t19, lb, b1, b2, b3⟩ ih
    by_cases hlt : c < x.classes.length
    · have i1 := idxOf_nat (k := .i64) hlt
      rw [rowsV] at t17
      simp -implicitDefEqProofs [t17, t18, t19, hlt, rowV]
      refine run_loop (fun m S h => ∃ d : Nat, m = x.classes.length - d ∧ d ≤ x.classes.length ∧ S 2 = .ptr 1 0 ∧ S 3 = .ptr 2 0 ∧ S 4 = .ptr 3 0 ∧ S 5 = .int .i64 c ∧ S 17 = rowsV x ∧ S 18 = .int .i64 x.classes.length ∧ S 19 = .int .i64 c ∧ S 24 = rowV x x.classes[c] ∧ S 25 = .int .i64 x.classes.length ∧ S 26 = .int .i64 d ∧ 3 < h.bn ∧ (∃ cs, h.bx 1 = some cs ∧ cs.length = 17) ∧ h.bx 2 = some (.sl .no (x.classes.map encCls) :: (advL x (c * x.classes.length + d)).map (AV.int .i64)) ∧ h.bx 3 = some (L.map (AV.int .i64))) ?_ x.classes.length ?_
      rotate_left
      · exact ⟨0, by simp, by simp, by simp [t2], by simp [t3], by simp [t4], by simp, by simp [t17, rowsV], by simp [t18], by simp [t19], by simp [rowV], by simp, by simp, lb, b1, b2, b3⟩
      clear t2 t3 t4 t17 t18 t19 lb b1 b2 b3
      rintro m S h ⟨d, hmm, hd, t2, t3, t4, t5, t17, t18, t19, t24, t25, t26, lb, b1, b2, b3⟩ ih2
      have m2 : 2 < h.bn := by omega
      by_cases hld : d < x.classes.length
      · have i2 := idxOf_nat (k := .i64) hld
        have hcx := clashX_of hlt hld
        rw [rowV] at t24
        cases hcf : clsF x.classes[c] x.classes[d]
        · rw [hcf] at hcx
          have hst := advL_step n4 hlt hld hcx
          have hl := advL_len x (c * x.classes.length + d)
          have ha := hat c d hlt hld
          simp -implicitDefEqProofs [t24, t25, t26, hld, hcf]
          refine run_dreg c8_d12 ?_
          simp -implicitDefEqProofs [t3, t4, t5, t26, b2, b3, m2, lb, hl, hL, ha, show (c : Int) < 4 by omega, show (d : Int) < 4 by omega, show c * 4 + d ≤ 15 by omega, inc_i64 hld (by omega), -Int.natCast_add]
          refine ⟨by omega, ?_⟩
          have hput : List.take (1 + c * 4 + d) (AV.sl .no (x.classes.map encCls) :: (advL x (c * x.classes.length + d)).map (AV.int .i64)) ++ AV.int .i64 (openT x c d) :: List.drop (1 + c * 4 + d) ((advL x (c * x.classes.length + d)).map (AV.int .i64)) = AV.sl .no (x.classes.map encCls) :: (advL x (c * x.classes.length + d + 1)).map (AV.int .i64) := by
            rw [show 1 + c * 4 + d = (c * 4 + d) + 1 by omega, List.take_succ_cons, List.cons_append, hst]
          rw [hput]
          exact ih2 (x.classes.length - (d + 1)) _ _ (by omega) ⟨d + 1, rfl, by omega, by simp [t2], by simp [t3], by simp [t4], by simp [t5], by simp [t17], by simp [t18], by simp [t19], by simp [t24, rowV], by simp [t25], by simp, by simpa using lb, by simpa using b1, by simp [show c * x.classes.length + (d + 1) = c * x.classes.length + d + 1 by omega], by simpa using b3⟩
        · rw [hcf] at hcx
          have hsm := advL_same n4 hlt hld hcx
          simp -implicitDefEqProofs [t24, t25, t26, hld, hcf, inc_i64 hld (by omega), -Int.natCast_add]
          exact ih2 (x.classes.length - (d + 1)) _ _ (by omega) ⟨d + 1, rfl, by omega, by simp [t2], by simp [t3], by simp [t4], by simp [t5], by simp [t17], by simp [t18], by simp [t19], by simp [t24, rowV], by simp [t25], by simp, lb, b1, by rw [show c * x.classes.length + (d + 1) = c * x.classes.length + d + 1 by omega, hsm]; exact b2, b3⟩
      · obtain rfl : d = x.classes.length := by omega
        simp -implicitDefEqProofs [t19, t25, t26, inc_i64 hlt (by omega), -Int.natCast_add]
        exact ih (x.classes.length - (c + 1)) _ _ (by omega) ⟨c + 1, rfl, by omega, by simp [t2], by simp [t3], by simp [t4], by simp [t17], by simp [t18], by simp, lb, b1, by rw [Nat.add_mul, Nat.one_mul]; exact b2, b3⟩
    · obtain rfl : c = x.classes.length := by omega
      obtain ⟨cs, b1, hcs⟩ := b1
      have hdr : List.drop 17 cs = [] := List.drop_eq_nil_of_le (by omega)
      have hl := advL_len x (x.classes.length * x.classes.length)
      have htk2 : List.take 16 ((advL x (x.classes.length * x.classes.length)).map (AV.int .i64)) = (advL x (x.classes.length * x.classes.length)).map (AV.int .i64) := List.take_of_length_le (by simp [hl])
      simp -implicitDefEqProofs [t2, t3, t18, t19, b1, b2, hcs, hdr, hl, htk2, show 1 < h.bn by omega, show 2 < h.bn by omega, advOf, Ctlg.with]
end Go.Proofs

/- The statement LintAdvice: its function hands back true. -/
namespace Go.Proofs
open Go Go.RowKit Go.Am

theorem adv_wf2 {x : Ctlg} (hw : x.wf) (hm : catMay x = true) : (advOf x).wf := by
  refine ⟨hw.1, advL_len _ _, fun v hv => ?_⟩
  obtain ⟨hs, hg⟩ := catMay_small hw hm
  have hv : v ∈ advL x (x.classes.length * x.classes.length) := hv
  unfold advL at hv
  obtain ⟨i, hi, rfl⟩ := List.mem_map.1 hv
  have hi := List.mem_range.1 hi
  split
  · obtain ⟨a, b⟩ := openT_le hs (i / 4) (i % 4)
    simp only [inI]
    omega
  · rw [List.getElem?_eq_getElem (by rw [hw.2.1]; exact hi)]
    exact hw.2.2 _ (List.getElem_mem _)
theorem hist_small {x : Ctlg} {l : List Nod} (hm : histMay x l = true) : ∀ a ∈ l, a.small := fun a ha => by
  simp only [histMay, Bool.and_eq_true, List.all_eq_true, List.mem_range] at hm
  obtain ⟨i, hi, rfl⟩ := List.getElem_of_mem ha
  have h := hm.2 i hi
  rw [nodeAt_of x hi] at h
  simp only [nodeOK, Bool.and_eq_true, spansOK, decide_eq_true_eq] at h
  exact ⟨h.1.1.2.1, h.1.2.1⟩
theorem refGood_ok (x : Ctlg) (l : List Nod) (hx : x.wf) (hw : ∀ n ∈ l, n.wf) (hl : l.length ≤ 16) : PCall Tryz.prog 17 [.agg (encCtlg x), .sl .no (l.map encNod)] (.bool (goodB x l (fw l.length (dep0 l)))) := by
  refine PCall.run hb17 ok17 (by simp) (pures2 (.agg (pure_encCtlg x)) (elOK_Nod.pureL l)) (.bool _) ?_
  have hbl := hx.2.1
  have htk := x.take16 hbl
  simp -implicitDefEqProofs [encCtlg, htk, hbl, H.nil]
  refine callQ_p (refHistMay_ok x hx l (by omega) hw) (by simp [encCtlg]) ?_
  cases hm : histMay x l
  · simp -implicitDefEqProofs [goodB, hm]
  simp -implicitDefEqProofs [htk, hbl]
  refine callQ_c (cycle_call x l hx hw hm hl (hist_small hm) _) (by simp [encCtlg]) fun r h1 ⟨t, L, hr, hL⟩ => ?_
  subst hr
  by_cases hn : L = []
  · have hg : goodB x l (fw l.length (dep0 l)) = true := by
      simp only [goodB, hm, Bool.true_and, List.all_eq_true, List.mem_range, Bool.not_eq_true']
      exact hL.1 hn
    rw [hg]
    subst hn
    simp -implicitDefEqProofs []
  · have hg : goodB x l (fw l.length (dep0 l)) = false := by
      rw [Bool.eq_false_iff]
      intro h
      simp only [goodB, hm, Bool.true_and, List.all_eq_true, List.mem_range, Bool.not_eq_true'] at h
      exact hn (hL.2 h)
    rw [hg]
    simp -implicitDefEqProofs [hn]
theorem adv_hist (x : Ctlg) (l : List Nod) (hm : histMay x l = true) (ha : catMay (advOf x) = true) : histMay (advOf x) l = true := by
  simp only [histMay, Bool.and_eq_true] at hm ⊢
  exact ⟨⟨ha, hm.1.2⟩, hm.2⟩
theorem adv_finer {x : Ctlg} (hw : x.wf) (hm : catMay x = true) (c d i : Int) (h : x.brkAt c d i = true) : (advOf x).brkAt c d i = true := by
  obtain ⟨hs, _⟩ := catMay_small hw hm
  have ho := brk_open hs h
  have n4 := hs.2.1
  simp only [Ctlg.brkAt, Bool.and_eq_true] at h ho ⊢
  refine ⟨⟨⟨⟨h.1.1.1.1, h.1.1.1.2⟩, h.1.1.2⟩, h.1.2⟩, ?_⟩
  have hc : c.toNat < 4 ∧ d.toNat < 4 := by
    have h1 := h.1.1.1.1
    have h2 := h.1.1.1.2
    simp only [Ctlg.inn, Bool.and_eq_true, decide_eq_true_eq] at h1 h2
    omega
  have hb : (advOf x).brk c.toNat d.toNat = x.brk c.toNat d.toNat ∨ (advOf x).brk c.toNat d.toNat = (openOf x).brk c.toNat d.toNat := by
    have hob : (openOf x).brk c.toNat d.toNat = if c.toNat < x.classes.length ∧ d.toNat < x.classes.length then openT x c.toNat d.toNat else 0 := turnL_at hs.2.1 _ hc.1 hc.2
    rw [hob]
    have hlt : 4 * c.toNat + d.toNat < (advL x (x.classes.length * x.classes.length)).length := by rw [advL_len]; omega
    have e : (advOf x).brk c.toNat d.toNat = (advL x (x.classes.length * x.classes.length))[4 * c.toNat + d.toNat] := by
      show ((advL x (x.classes.length * x.classes.length))[4 * c.toNat + d.toNat]?).getD 0 = _
      rw [List.getElem?_eq_getElem hlt]; rfl
    rw [e, advL_get, show (4 * c.toNat + d.toNat) / 4 = c.toNat by omega, show (4 * c.toNat + d.toNat) % 4 = d.toNat by omega]
    split
    · rename_i q
      rw [if_pos ⟨q.1, q.2.1⟩]
      exact .inr rfl
    · exact .inl rfl
  rcases hb with hb | hb
  · rw [hb]; exact h.2
  · rw [hb]; exact ho.2

theorem lintAdvice_ok (x : Ctlg) (l : List Nod) (hx : x.wf) (hl : l.length ≤ maxLen) (hw : ∀ n ∈ l, n.wf) : PCall Tryz.prog 4 [.agg (encCtlg x), .sl .no (l.map encNod)] (.bool true) := by
  refine PCall.run hb4 ok4 (by simp) (pures2 (.agg (pure_encCtlg x)) (elOK_Nod.pureL l)) (.bool _) ?_
  have hbl := hx.2.1
  have htk := x.take16 hbl
  simp only [maxLen] at hl
  simp -implicitDefEqProofs [encCtlg, H.nil]
  refine callQ_p alive27_ok (by simp) ?_
  simp -implicitDefEqProofs [htk, hbl]
  refine callQ_p (great14_ok x hx l (by omega)) (by simp [encCtlg]) ?_
  cases hb : bigH x l
  rotate_left
  · simp -implicitDefEqProofs []
  by_cases h16 : (16 : Int) < l.length
  · simp -implicitDefEqProofs [h16]
  simp -implicitDefEqProofs [h16, htk, hbl]
  refine callQ_p (refGood_ok x l hx hw (by omega)) (by simp [encCtlg]) ?_
  cases hg : goodB x l (fw l.length (dep0 l))
  · simp -implicitDefEqProofs []
  have hh : histMay x l = true := by
    simp only [goodB, Bool.and_eq_true] at hg
    exact hg.1
  have hm : catMay x = true := by
    simp only [histMay, Bool.and_eq_true] at hh
    exact hh.1.1
  have hfair : x.fair := by
    refine fair_of hx ?_
    simp only [bigH, Bool.or_eq_false_iff] at hb
    exact hb.2.1
  have had := lAdvice_ok x hx hfair
  rw [hm, if_pos rfl] at had
  have haw := adv_wf2 hx hm
  have hgood := refGood_ok (advOf x) l haw hw (by omega)
  rw [good_finer (fun c d i => adv_finer hx hm c d i) (adv_hist x l hh (adv_may hx hm)) hg] at hgood
  simp -implicitDefEqProofs [htk, hbl]
  refine callQ_p had (by simp [encCtlg]) ?_
  simp -implicitDefEqProofs []
  refine callQ_p hgood (by simp) ?_
  simp -implicitDefEqProofs []
end Go.Proofs
