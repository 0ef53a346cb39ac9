/- What the functions that the statement reaches do: their contracts; and what follows of it. -/
import Derived.Test.YtdcpendppalkgaaGreatSLintClash7
import Derived.Test.YtdcpendppalkgaaGreatSLintClash3
/- Which catalogues there may be: the program's answer. -/
namespace Go.Proofs
open Go Go.RowKit Go.Am

theorem named1_ok (c d : Cls) {h : H} {b : Nat} (hb : b < h.bn) (hbx : h.bx b = some (encCls c)) : SCall Tryz.prog 61 [.agg (encCls d), .ptr b 0] h (.bool (decide (d.name = c.name))) h := by
  refine SCall.ro (CallP.run hb61 ok61 (by simp) ?_) (.bool _)
  rw [encCls] at hbx
  simp -implicitDefEqProofs [encCls, hbx, show ¬ b = h.bn by omega, show b < h.bn + 1 by omega]
  exact HF.alloc _ _ _ _

theorem names_any {x : Ctlg} {i : Nat} (hi : i < x.classes.length) : ((x.classes.take i).any fun d => decide (d.name = x.classes[i].name)) = !x.namesOK i := by
  rw [Bool.eq_iff_iff]
  simp only [List.any_eq_true, decide_eq_true_eq, Bool.not_eq_true', Ctlg.namesOK, List.all_eq_false, List.mem_range]
  constructor
  · rintro ⟨d, hd, he⟩
    obtain ⟨j, hj, rfl⟩ := List.mem_iff_getElem.1 hd
    rw [List.length_take] at hj
    refine ⟨j, by omega, ?_⟩
    rw [List.getElem_take] at he
    simp [Ctlg.nameAt_of hi, Ctlg.nameAt_of (show j < x.classes.length by omega), he]
  · rintro ⟨j, hj, he⟩
    have hl : j < x.classes.length := by omega
    refine ⟨x.classes[j], ?_, ?_⟩
    · exact List.mem_iff_getElem.2 ⟨j, by rw [List.length_take]; omega, by rw [List.getElem_take]⟩
    · simpa [Ctlg.nameAt_of hi, Ctlg.nameAt_of hl] using he

theorem named_ok (x : Ctlg) (hl : x.classes.length ≤ 9223372036854775807) (hw : ∀ y ∈ x.classes, y.wf) : PCall Tryz.prog 38 [.sl .no (x.classes.map encCls)] (.bool ((List.range x.classes.length).all fun i => x.clsOK i && x.namesOK i)) := by
  refine PCall.run hb38 ok38 (by simp) (pures1 (elOK_Cls.pureL x.classes)) (.bool _) ?_
  simp -implicitDefEqProofs []
  refine run_loop (fun n s h => ∃ j : Nat, n = x.classes.length - j ∧ j ≤ x.classes.length ∧ s 0 = .sl .no (x.classes.map encCls) ∧ s 5 = .sl .no (x.classes.map encCls) ∧ s 6 = .int .i64 x.classes.length ∧ s 7 = .int .i64 j ∧ ∀ i, i < j → (x.clsOK i && x.namesOK i) = true) ?_ x.classes.length ?_
  rotate_left
  · exact ⟨0, by simp⟩
  rintro n s h ⟨j, hn, hj, s0, s5, s6, s7, hall⟩ ih
  by_cases hlt : j < x.classes.length
  · have hno : (x.clsOK j && x.namesOK j) = false → ((List.range x.classes.length).all fun i => x.clsOK i && x.namesOK i) = false := allR_false (p := fun i => x.clsOK i && x.namesOK i) hlt
    have hjs : (j : Int) ≤ (x.classes.length : Int) := by omega
    simp -implicitDefEqProofs [s5, s6, s7, hlt, encCls]
    refine callQ_p (classMay_ok x.classes[j] (hw _ (List.getElem_mem hlt))) (by simp [encCls]) ?_
    cases hp : clsMay x.classes[j]
    · have := hno (by simp [Ctlg.clsOK_of hlt, hp])
      simp -implicitDefEqProofs [this]
    simp -implicitDefEqProofs [s0, hj]
    refine callQ_s (contains_gen hb60 ok60 hb84 ok84 elOK_Cls (x.classes.take j) (by rw [List.length_take]; omega) (first := []) (caps := [.ptr h.bn 0]) (p := fun d => decide (d.name = x.classes[j].name)) rfl (by simp) (fun d _ => named1_ok x.classes[j] d (by simp) (by simp [encCls]))) (by simp [List.map_take]) ?_
    have hna := names_any hlt
    cases hq : x.namesOK j
    · have := hno (by simp [hq])
      rw [hq] at hna
      simp -implicitDefEqProofs [hna, this]
    rw [hq] at hna
    simp -implicitDefEqProofs [hna, s7, inc_i64 hlt hl, -Int.natCast_add]
    exact ih (x.classes.length - (j + 1)) _ _ (by omega) ⟨j + 1, rfl, by omega, by simp [s0], by simp [s5], by simp [s6], by simp, fun i hij => by
      by_cases h : i = j
      · subst h; simp [Ctlg.clsOK_of hlt, hp, hq]
      · exact hall i (by omega)⟩
  · have hw : ((List.range x.classes.length).all fun i => x.clsOK i && x.namesOK i) = true := allR_true (by omega) hall
    simp -implicitDefEqProofs [s6, s7, hlt, hw]

theorem and_low (v : Int) {k : Nat} (hk : k ≤ 3) : IntKind.i64.wrap ((((v % 2 ^ IntKind.i64.bits).toNat &&& (((2 : Int) ^ k - 1) % 2 ^ IntKind.i64.bits).toNat : Nat)) : Int) = v % 2 ^ k := by
  have hb : IntKind.i64.bits = 64 := rfl
  have h4 : k = 0 ∨ k = 1 ∨ k = 2 ∨ k = 3 := by omega
  have e : (((2 : Int) ^ k - 1) % 2 ^ IntKind.i64.bits).toNat = 2 ^ k - 1 := by
    rcases h4 with rfl | rfl | rfl | rfl <;> decide
  rw [e, Nat.and_two_pow_sub_one_eq_mod, hb]
  rcases h4 with rfl | rfl | rfl | rfl <;> (rw [wrap_i64] <;> omega)

theorem catMay1_ok (x : Ctlg) (hb16 : x.breaks.length = 16) {h : H} {b c d : Nat} (hb : b < h.bn) (hbx : h.bx b = some (encCtlg x)) (hc : c < x.classes.length) (n4 : x.classes.length ≤ 4) (hd : d < x.classes.length) (hs : x.classes[c].small) : SCall Tryz.prog 40 [.int .i64 c, .int .i64 d, .ptr b 0] h (.int .i64 (mayT x c d)) h := by
  refine SCall.ro (CallP.run hb40 ok40 (by simp) ?_) (.int _ _)
  rw [encCtlg] at hbx
  have hbk := Ctlg.brk_load (x := x) (.sl .no (x.classes.map encCls)) hb16 (show c < 4 by omega) (show d < 4 by omega)
  simp -implicitDefEqProofs []
  refine run_dregL c40_d2 rfl ?_
  simp -implicitDefEqProofs [hb, hbx, hc, hbk, hb16, show (c : Int) < 4 by omega, show (d : Int) < 4 by omega, show 1 + c * 4 + d + 1 ≤ 16 + 1 by omega]
  refine callC_p (all_ok x.classes[c] hs) (by simp) ?_
  have hk : x.classes[c].steps.length - 1 ≤ 3 := by have := hs.2.1; omega
  have ha := and_low (x.brk c d) hk
  simp -implicitDefEqProofs [Cls.all, ha, mayT, Ctlg.stepsN_of hc]
  exact HF.refl _ _ _

theorem catMayP_ok (x : Ctlg) (hx : x.wf) : PCall Tryz.prog 22 [.agg (encCtlg x)] (.bool (catMay x)) := by
  refine PCall.run hb22 ok22 (by simp) (pures1 (.agg (pure_encCtlg x))) (.bool _) ?_
  have htk := x.take16 hx.2.1
  obtain ⟨⟨hcl, hcw⟩, hbl, hbw⟩ := hx
  by_cases c1 : (x.classes.length : Int) < 1
  · have hf : catMay x = false := by simp [catMay, show x.classes.length < 1 by omega]
    simp -implicitDefEqProofs [encCtlg, c1, hf]
  by_cases c4 : (4 : Int) < x.classes.length
  · have hf : catMay x = false := by simp [catMay, show 4 < x.classes.length by omega]
    simp -implicitDefEqProofs [encCtlg, c1, c4, hf]
  have n4 : x.classes.length ≤ 4 := by omega
  have hm : catMay x = (((List.range x.classes.length).all fun i => x.clsOK i && x.namesOK i) && (List.range 4).all fun c => (List.range 4).all (x.brkOK c)) := by
    simp only [catMay, show ¬ x.classes.length < 1 by omega, show ¬ 4 < x.classes.length by omega]
    simp
  rw [← may_turn n4 hbl] at hm
  simp -implicitDefEqProofs [encCtlg, c1, c4]
  refine callQ_p (named_ok x hcl hcw) (by simp) ?_
  cases hna : (List.range x.classes.length).all fun i => x.clsOK i && x.namesOK i
  · rw [hna] at hm
    simp -implicitDefEqProofs [hm]
  rw [hna] at hm
  have hsm : ∀ c (h : c < x.classes.length), x.classes[c].small := fun c h => by
    rw [List.all_eq_true] at hna
    have := hna c (List.mem_range.2 h)
    rw [Bool.and_eq_true, Ctlg.clsOK_of h] at this
    exact clsMay_small this.1
  simp -implicitDefEqProofs [H.nil]
  refine run_dreg c22_d5 ?_
  simp -implicitDefEqProofs [htk, hbl]
  refine callD_s (turned_ok x hbl n4 (first := []) (caps := [.ptr 0 0]) rfl (by simp) (mayT x) fun c d h' hc hd hf => catMay1_ok x hbl ?_ ?_ hc n4 hd (hsm c hc)) (by simp [encCtlg]) ?_
  · have := hf.bn
    simp at this
    omega
  · rw [hf.bx 0 (by simp) (fun h => h)]
    simp [encCtlg]
  have hl := turnL_len x.classes.length (mayT x) (x.classes.length * x.classes.length)
  have hce := cells_ints x.breaks (turnL x.classes.length (mayT x) (x.classes.length * x.classes.length)) (by rw [hbl, hl])
  rw [hbl] at hce
  simp only [List.replicate] at hce
  simp -implicitDefEqProofs [hce, hm, htk, hbl]
end Go.Proofs

/- The program's answer: may two steps, two classes clash? -/
namespace Go.Proofs
open Go Go.RowKit Go.Am

set_option maxHeartbeats 1000000 in
theorem lmay_ok (l : List SpanT) (n : Int) (hl : l.length ≤ 1000) : PCall Tryz.prog 31 [.sl .no (l.map encSpanT), .int .i64 n] (.tup [encL (mayR l n).1, encL (mayR l n).2]) := by
  refine PCall.run hb31 ok31 (by simp) (pures2 (elOK_SpanT.pureL l) (.int _ _)) (.tup (pures2 (pure_encL _) (pure_encL _))) ?_
  simp -implicitDefEqProofs []
  refine run_loop (fun m S h => ∃ (j : Nat) (v w : AV), m = l.length - j ∧ j ≤ l.length ∧ S 1 = .int .i64 n ∧ S 4 = v ∧ Am.wk v = encL (mayR (l.take j) n).1 ∧ S 5 = w ∧ Am.wk w = encL (mayR (l.take j) n).2 ∧ S 9 = .sl .no (l.map encSpanT) ∧ S 10 = .int .i64 l.length ∧ S 11 = .int .i64 j) ?_ l.length ?_
  rotate_left
  · exact ⟨0, _, _, rfl, Nat.zero_le _, by simp, rfl, by simp [mayR, encL], by simp; rfl, by simp [mayR, encL], by simp, by simp, by simp⟩
  rintro m S h ⟨j, v, w, hm, hj, t1, t4, w4, t5, w5, t9, t10, t11⟩ ih
  by_cases hlt : j < l.length
  · have i1 := idxOf_nat (k := .i64) hlt
    have hnx := mayR_next (n := n) hlt
    obtain ⟨q1, q2⟩ := mayR_len n (l.take j)
    have hsl : (spanL l[j] n).length ≤ 500 := by
      unfold spanL
      split
      · split
        · simp
        · exact plainL_len _
      · simp
    have hu1 := keysUnion_ok (mayR (l.take j) n).1 (spanL l[j] n) (by omega)
    have hu2 := keysUnion_ok (mayR (l.take j) n).2 (spanL l[j] n) (by omega)
    simp -implicitDefEqProofs [t1, t9, t10, t11, hlt, encSpanT]
    refine callQ_p (lintSpan_ok l[j] n) (by simp [encSpanT]) ?_
    simp -implicitDefEqProofs [t4]
    refine callQ_p hu1 (by simp [w4, wk_encL]) ?_
    simp -implicitDefEqProofs []
    cases hw : l[j].write
    · have e : mayW n (mayR (l.take j) n) l[j] = (plainL ((mayR (l.take j) n).1 ++ spanL l[j] n), (mayR (l.take j) n).2) := by simp [mayW, hw]
      rw [e] at hnx
      simp -implicitDefEqProofs [t11, inc_i64 hlt (by omega), -Int.natCast_add]
      exact ih (l.length - (j + 1)) _ _ (by omega) ⟨j + 1, _, _, rfl, by omega, by simp [t1], by simp; rfl, by rw [hnx, wk_encL], by simp [t5]; rfl, by rw [hnx]; exact w5, by simp [t9], by simp [t10], by simp⟩
    · have e : mayW n (mayR (l.take j) n) l[j] = (plainL ((mayR (l.take j) n).1 ++ spanL l[j] n), plainL ((mayR (l.take j) n).2 ++ spanL l[j] n)) := by simp [mayW, hw]
      rw [e] at hnx
      simp -implicitDefEqProofs [t5]
      refine callQ_p hu2 (by simp [w5, wk_encL]) ?_
      simp -implicitDefEqProofs [t11, inc_i64 hlt (by omega), -Int.natCast_add]
      exact ih (l.length - (j + 1)) _ _ (by omega) ⟨j + 1, _, _, rfl, by omega, by simp [t1], by simp; rfl, by rw [hnx, wk_encL], by simp; rfl, by rw [hnx, wk_encL], by simp [t9], by simp [t10], by simp⟩
  · obtain rfl : j = l.length := by omega
    rw [List.take_length] at w4 w5
    simp -implicitDefEqProofs [t4, t5, t10, t11, w4, w5]

def clashP (c : Cls) (i : Int) (d : Cls) (k : Int) : Bool := clsMay c && clsMay d && (decide (0 ≤ i) && decide (i < c.steps.length)) && (decide (0 ≤ k) && decide (k < d.steps.length)) && clashC c i.toNat d k.toNat
theorem cls_small {c : Cls} (h : clsMay c = true) : c.steps.length ≤ 4 ∧ ∀ s ∈ c.steps, s.foot.length ≤ 4 := by
  have hf := cls_foot h
  simp only [clsMay, Bool.and_eq_true, Bool.not_eq_true', decide_eq_false_iff_not] at h
  refine ⟨by omega, fun s hs => ?_⟩
  have := hf s hs
  simp only [footMay, Bool.and_eq_true, Bool.not_eq_true', decide_eq_false_iff_not] at this
  omega
set_option maxHeartbeats 1000000 in
theorem lClash_ok (c d : Cls) (hc : c.wf) (hd : d.wf) (i k : Int) : PCall Tryz.prog 15 [.agg (encCls c), .int .i64 i, .agg (encCls d), .int .i64 k] (.bool (clashP c i d k)) := by
  refine PCall.run hb15 ok15 (by simp) (pures_cons (.agg (pure_encCls c)) (pures_cons (.int _ _) (pures2 (.agg (pure_encCls d)) (.int _ _)))) (.bool _) ?_
  simp -implicitDefEqProofs [encCls, H.nil]
  refine callQ_p (classMay_ok c hc) (by simp [encCls]) ?_
  cases m1 : clsMay c
  · simp -implicitDefEqProofs [clashP, m1]
  simp -implicitDefEqProofs []
  refine callQ_p (classMay_ok d hd) (by simp [encCls]) ?_
  cases m2 : clsMay d
  · simp -implicitDefEqProofs [clashP, m1, m2]
  by_cases i0 : i < 0
  · simp -implicitDefEqProofs [clashP, m1, m2, i0, show ¬ 0 ≤ i by omega]
  by_cases i9 : (c.steps.length : Int) ≤ i
  · simp -implicitDefEqProofs [clashP, m1, m2, i0, i9, show ¬ i < c.steps.length by omega]
  by_cases k0 : k < 0
  · simp -implicitDefEqProofs [clashP, m1, m2, i0, i9, k0, show ¬ 0 ≤ k by omega]
  by_cases k9 : (d.steps.length : Int) ≤ k
  · simp -implicitDefEqProofs [clashP, m1, m2, i0, i9, k0, k9, show ¬ k < d.steps.length by omega]
  obtain ⟨a, rfl⟩ := Int.eq_ofNat_of_zero_le (show 0 ≤ i by omega)
  obtain ⟨b, rfl⟩ := Int.eq_ofNat_of_zero_le (show 0 ≤ k by omega)
  have ha : a < c.steps.length := by omega
  have hb : b < d.steps.length := by omega
  have j1 := idxOf_nat (k := .i64) ha
  have j2 := idxOf_nat (k := .i64) hb
  have l1 := (cls_small m1).2 _ (List.getElem_mem ha)
  have l2 := (cls_small m2).2 _ (List.getElem_mem hb)
  obtain ⟨q1, q2⟩ := mayR_len c.args c.steps[a].foot
  obtain ⟨q3, q4⟩ := mayR_len d.args d.steps[b].foot
  have hP : clashP c a d b = clash2 c.steps[a].foot c.args d.steps[b].foot d.args := by
    simp [clashP, m1, m2, ha, hb, clashC_of ha hb]
  rw [hP, clash2]
  simp -implicitDefEqProofs [i0, i9, k0, k9]
  refine run_dreg c15_d4 ?_
  simp -implicitDefEqProofs [ha, encStp]
  refine lcallQ_p (lmay_ok c.steps[a].foot c.args (by omega)) (by simp) ?_
  simp -implicitDefEqProofs []
  refine run_dreg c15_d5 ?_
  simp -implicitDefEqProofs [hb, encStp]
  refine lcallQ_p (lmay_ok d.steps[b].foot d.args (by omega)) (by simp) ?_
  simp -implicitDefEqProofs []
  refine callQ_p (keysMeet_ok (mayR c.steps[a].foot c.args).2 (mayR d.steps[b].foot d.args).1 (by omega) (by omega)) (by simp [wk_encL]) ?_
  cases hm : meetL (mayR c.steps[a].foot c.args).2 (mayR d.steps[b].foot d.args).1
  · simp -implicitDefEqProofs []
    refine callQ_p (keysMeet_ok (mayR c.steps[a].foot c.args).1 (mayR d.steps[b].foot d.args).2 (by omega) (by omega)) (by simp [wk_encL]) ?_
    simp -implicitDefEqProofs []
  · simp -implicitDefEqProofs []

theorem clashP_nat {c d : Cls} (m1 : clsMay c = true) (m2 : clsMay d = true) {i k : Nat} (hi : i < c.steps.length) (hk : k < d.steps.length) : clashP c i d k = clashC c i d k := by
  simp [clashP, m1, m2, hi, hk]
set_option maxHeartbeats 1000000 in
theorem lclash_ok (c d : Cls) (hc : c.wf) (hd : d.wf) (m1 : clsMay c = true) (m2 : clsMay d = true) : PCall Tryz.prog 24 [.agg (encCls c), .agg (encCls d)] (.bool (clsF c d)) := by
  refine PCall.run hb24 ok24 (by simp) (pures2 (.agg (pure_encCls c)) (.agg (pure_encCls d))) (.bool _) ?_
  have hcl := (cls_small m1).1
  have hdl := (cls_small m2).1
  rw [clsF_prog m1 m2]
  simp -implicitDefEqProofs [encCls, H.nil]
  refine run_loop (fun m S h => ∃ j : Nat, m = c.steps.length - j ∧ j ≤ c.steps.length ∧ S 2 = .ptr 0 0 ∧ S 3 = .ptr 1 0 ∧ S 9 = .int .i64 c.steps.length ∧ S 10 = .int .i64 j ∧ 1 < h.bn ∧ h.bx 0 = some (encCls c) ∧ h.bx 1 = some (encCls d) ∧ (((List.range j).any fun i => (List.range d.steps.length).any fun k => clashC c i d k) = false)) ?_ c.steps.length ?_
  rotate_left
  · exact ⟨0, by simp [encCls]⟩
  rintro m S h ⟨j, hm, hj, t2, t3, t9, t10, lb, b0, b1, hall⟩ ih
  have b0' := b0
  have b1' := b1
  rw [encCls] at b0' b1'
  have m0 : 0 < h.bn := by omega
  by_cases hlt : j < c.steps.length
  · simp -implicitDefEqProofs [t3, t9, t10, hlt, b1', lb]
    refine run_loop (fun m S h => ∃ j2 : Nat, m = d.steps.length - j2 ∧ j2 ≤ d.steps.length ∧ S 2 = .ptr 0 0 ∧ S 3 = .ptr 1 0 ∧ S 5 = .int .i64 j ∧ S 9 = .int .i64 c.steps.length ∧ S 10 = .int .i64 j ∧ S 15 = .int .i64 d.steps.length ∧ S 16 = .int .i64 j2 ∧ 1 < h.bn ∧ h.bx 0 = some (encCls c) ∧ h.bx 1 = some (encCls d) ∧ (((List.range j2).any fun k => clashC c j d k) = false)) ?_ d.steps.length ?_
    rotate_left
    · exact ⟨0, by simp [t2, t3, t9, t10, lb, b0, b1]⟩
    clear t2 t3 t9 t10 lb b0 b1 b0' b1' m0
    rintro m S h ⟨j2, hm, hj2, t2, t3, t5, t9, t10, t15, t16, lb, b0, b1, hall2⟩ ih2
    have b0' := b0
    have b1' := b1
    rw [encCls] at b0' b1'
    have m0 : 0 < h.bn := by omega
    by_cases hlt2 : j2 < d.steps.length
    · have hcc := lClash_ok c d hc hd j j2
      rw [clashP_nat m1 m2 hlt hlt2] at hcc
      simp -implicitDefEqProofs [t2, t3, t5, t15, t16, hlt2, b0', b1', lb, m0]
      refine callQ_p hcc (by simp [encCls]) ?_
      cases hcl : clashC c j d j2
      · simp -implicitDefEqProofs [t16, inc_i64 hlt2 (by omega), -Int.natCast_add]
        refine ih2 (d.steps.length - (j2 + 1)) _ _ (by omega) ⟨j2 + 1, rfl, by omega, by simp [t2], by simp [t3], by simp [t5], by simp [t9], by simp [t10], by simp [t15], by simp, lb, b0, b1, ?_⟩
        rw [List.range_succ, List.any_append, hall2]
        simp [hcl]
      · have : ((List.range c.steps.length).any fun i => (List.range d.steps.length).any fun k => clashC c i d k) = true := by
          simp only [List.any_eq_true, List.mem_range]
          exact ⟨j, hlt, j2, hlt2, hcl⟩
        rw [this]
        simp -implicitDefEqProofs []
    · obtain rfl : j2 = d.steps.length := by omega
      simp -implicitDefEqProofs [t10, t15, t16, inc_i64 hlt (by omega), -Int.natCast_add]
      refine ih (c.steps.length - (j + 1)) _ _ (by omega) ⟨j + 1, rfl, by omega, by simp [t2], by simp [t3], by simp [t9], by simp, lb, b0, b1, ?_⟩
      rw [List.range_succ, List.any_append, hall]
      simpa using hall2
  · obtain rfl : j = c.steps.length := by omega
    rw [hall]
    simp -implicitDefEqProofs [t9, t10]

def TNu (h : H) (t : Tok) : Prop := ∀ i, i < h.tn → ¬ TOwn t i
theorem TNu.full (h : H) : TNu h .full := fun i _ h => by cases h
theorem TNu.next {h h1 : H} {t t' : Tok} {B T : Nat → Prop} (a : TNu h t) (e : HF h h1 B T) (n : TNext h1 t t') : TNu h t' := fun i hi ho => by
  rcases n with rfl | ⟨j, rfl, hj⟩
  · exact a i hi ho
  · cases ho
    have := e.tn
    omega
def rowV (x : Ctlg) (c : Cls) : AV := .sl .no (x.classes.map fun d => [AV.bool (clsF c d)])
def rowsV (x : Ctlg) : AV := .sl .no (x.classes.map fun c => [rowV x c])
theorem pure_rowV (x : Ctlg) (c : Cls) : PureV (rowV x c) := .sl (fun i h => by cases h) fun e he v hv => by
  obtain ⟨d, _, rfl⟩ := List.mem_map.1 he
  rw [List.mem_singleton.1 hv]
  exact .bool _
theorem pure_rowsV (x : Ctlg) : PureV (rowsV x) := .sl (fun i h => by cases h) fun e he v hv => by
  obtain ⟨d, _, rfl⟩ := List.mem_map.1 he
  rw [List.mem_singleton.1 hv]
  exact pure_rowV _ _
theorem wk_rowV (x : Ctlg) (c : Cls) : Am.wk (rowV x c) = rowV x c := by simp [rowV]
theorem cat_cls {x : Ctlg} (h : catMay x = true) : ∀ d ∈ x.classes, clsMay d = true := fun d hd => by
  simp only [catMay, Bool.and_eq_true, List.all_eq_true] at h
  obtain ⟨j, hj, rfl⟩ := List.getElem_of_mem hd
  have := (h.1.2 j (List.mem_range.2 hj)).1
  rw [Ctlg.clsOK_of hj] at this
  exact this
set_option maxHeartbeats 1000000 in
theorem lrow_ok (x : Ctlg) (hw : x.wf) (hm : catMay x = true) (c : Cls) (hc : c.wf) (m1 : clsMay c = true) {h : H} {b : Nat} (hb : b < h.bn) (hbx : h.bx b = some (encCtlg x)) : SCall Tryz.prog 23 [.agg (encCls c), .ptr b 0] h (rowV x c) h := by
  refine SCall.ro (CallP.run hb23 ok23 (by simp) ?_) (pure_rowV x c)
  have hcls : ∀ d ∈ x.classes, clsMay d = true ∧ d.wf := fun d hd => ⟨cat_cls hm d hd, hw.1.2 d hd⟩
  have hn4 : x.classes.length ≤ 4 := (catMay_small hw hm).1.2.1
  rw [encCtlg] at hbx
  simp -implicitDefEqProofs [encCls, hbx, show ¬ b = h.bn by omega, show b < h.bn + 1 by omega]
  refine run_loop (fun m S h1 => ∃ (j : Nat) (t : Tok), m = x.classes.length - j ∧ j ≤ x.classes.length ∧ S 2 = .ptr h.bn 0 ∧ S 4 = .sl t ((x.classes.map fun d => [AV.bool (clsF c d)]).take j) ∧ S 8 = .sl .no (x.classes.map encCls) ∧ S 9 = .int .i64 x.classes.length ∧ S 10 = .int .i64 j ∧ h.bn < h1.bn ∧ h1.bx h.bn = some (encCls c) ∧ HF h h1 (fun _ => False) (fun _ => False) ∧ TLive h1 t j ∧ TNu h t) ?_ x.classes.length ?_
  rotate_left
  · exact ⟨0, .full, by simp, by simp, by simp, by simp, by simp, by simp, by simp, by simp, by simp [encCls], HF.alloc _ _ _ _, trivial, TNu.full _⟩
  rintro m S h1 ⟨j, t, hmm, hj, t2, t4, t8, t9, t10, lb, bc, hf, live, new⟩ ih
  by_cases hlt : j < x.classes.length
  · have i1 := idxOf_nat (k := .i64) hlt
    obtain ⟨m2, wd⟩ := hcls _ (List.getElem_mem hlt)
    have bc' := bc
    rw [encCls] at bc'
    simp -implicitDefEqProofs [t2, t8, t9, t10, hlt, encCls, bc', show ¬ h.bn = h1.bn by omega, show h.bn < h1.bn + 1 by omega]
    refine callQ_p (lclash_ok c x.classes[j] hc wd m1 m2) (by simp [encCls]) ?_
    simp -implicitDefEqProofs [t4]
    refine appQ_tok (t := t) (es := (x.classes.map fun d => [AV.bool (clsF c d)]).take j) (es2 := [[AV.bool (clsF c x.classes[j])]]) (by simpa [Nat.min_eq_left hj] using live) (fun e he => by obtain ⟨d, _, rfl⟩ := List.mem_map.1 (List.mem_of_mem_take he); rfl) (by simp [srcA]) (by simp; omega) fun t' h3 p1 p2 p3 p4 => ?_
    have hf1 := (hf.trans (HF.alloc h1 [.str ⟨#[]⟩, .int .i64 0, .sl .full [], .sl .full [], .bool false] _ _)).trans' (HF.set (B := (· = h1.bn)) (cs := encCls x.classes[j]) _ rfl) (fun y hy e => by have e : y = h1.bn := e; have := hf.bn; omega) (fun _ _ h => h)
    have hf2 : HF h h3 (fun _ => False) (fun _ => False) := hf1.trans' p3 (fun _ _ h => h.elim) (fun i hi ho => new i hi ho)
    simp -implicitDefEqProofs [t10, inc_i64 hlt (by omega), -Int.natCast_add]
    refine ih (x.classes.length - (j + 1)) _ _ (by omega) ⟨j + 1, t', rfl, by omega, by simp [t2], by simp [List.take_succ_eq_append_getElem (show j < (x.classes.map _).length by simpa using hlt)], by simp [t8], by simp [t9], by simp, by rw [p4]; simp; omega, ?_, hf2, by simpa [Nat.min_eq_left hj] using p1, new.next hf1 p2⟩
    rw [p3.bx _ (by simp; omega) fun h => h]
    simp [bc, show ¬ h.bn = h1.bn by omega]
  · obtain rfl : j = x.classes.length := by omega
    rw [List.take_of_length_le (by simp)] at t4
    simp -implicitDefEqProofs [t4, t9, t10, rowV]
    exact hf

set_option maxHeartbeats 1000000 in
theorem lClashes_ok (x : Ctlg) (hw : x.wf) : PCall Tryz.prog 7 [.agg (encCtlg x)] (if catMay x = true then rowsV x else .sl .no []) := by
  refine PCall.run hb7 ok7 (by simp) (pures1 (.agg (pure_encCtlg x))) (by split; exact pure_rowsV x; exact pure_encL []) ?_
  have hbl := hw.2.1
  have htk := x.take16 hbl
  have hcm := catMayP_ok x hw
  cases hm : catMay x
  · rw [hm] at hcm
    simp -implicitDefEqProofs [encCtlg, hbl, htk, H.nil]
    refine callQ_p hcm (by simp [encCtlg]) ?_
    simp -implicitDefEqProofs []
  rw [hm] at hcm
  have hn4 : x.classes.length ≤ 4 := (catMay_small hw hm).1.2.1
  simp -implicitDefEqProofs [encCtlg, hbl, htk, H.nil]
  refine callQ_p hcm (by simp [encCtlg]) ?_
  simp -implicitDefEqProofs []
  refine run_loop (fun m S h1 => ∃ (j : Nat) (t : Tok), m = x.classes.length - j ∧ j ≤ x.classes.length ∧ S 3 = .fn 23 [] [.ptr 0 0] ∧ S 4 = .sl t ((x.classes.map fun c => [rowV x c]).take j) ∧ S 12 = .sl .no (x.classes.map encCls) ∧ S 13 = .int .i64 x.classes.length ∧ S 14 = .int .i64 j ∧ 0 < h1.bn ∧ h1.bx 0 = some (encCtlg x) ∧ TLive h1 t j) ?_ x.classes.length ?_
  rotate_left
  · exact ⟨0, .full, by simp, by simp, by simp, by simp, by simp, by simp, by simp, by simp, by simp [encCtlg], trivial⟩
  rintro m S h1 ⟨j, t, hmm, hj, t3, t4, t12, t13, t14, lb, bc, live⟩ ih
  by_cases hlt : j < x.classes.length
  · have i1 := idxOf_nat (k := .i64) hlt
    have m2 := cat_cls hm _ (List.getElem_mem hlt)
    have wd := hw.1.2 _ (List.getElem_mem hlt)
    simp -implicitDefEqProofs [t3, t12, t13, t14, hlt, encCls]
    refine callQ_s (lrow_ok x hw hm x.classes[j] wd m2 (b := 0) (by simp) (by simp [show ¬ 0 = h1.bn by omega, bc])) (by simp [encCls]) ?_
    simp -implicitDefEqProofs [t4]
    refine appQ_tok (t := t) (es := (x.classes.map fun c => [rowV x c]).take j) (es2 := [[rowV x x.classes[j]]]) (by simpa [Nat.min_eq_left hj] using live) (fun e he => by obtain ⟨d, _, rfl⟩ := List.mem_map.1 (List.mem_of_mem_take he); rfl) (by simp [srcA]) (by simp; omega) fun t' h3 p1 p2 p3 p4 => ?_
    simp -implicitDefEqProofs [t14, inc_i64 hlt (by omega), -Int.natCast_add]
    refine ih (x.classes.length - (j + 1)) _ _ (by omega) ⟨j + 1, t', rfl, by omega, by simp [t3], by simp [List.take_succ_eq_append_getElem (show j < (x.classes.map _).length by simpa using hlt)], by simp [t12], by simp [t13], by simp, by rw [p4]; simp, ?_, by simpa [Nat.min_eq_left hj] using p1⟩
    rw [p3.bx _ (by simp) fun h => h]
    simp [bc, show ¬ 0 = h1.bn by omega]
  · obtain rfl : j = x.classes.length := by omega
    rw [List.take_of_length_le (by simp)] at t4
    simp -implicitDefEqProofs [t4, t13, t14, rowsV, wk_rowV]
end Go.Proofs

/- The document's answer: clashes of steps and classes; the catalogue with the advice. -/
namespace Go.Proofs
open Go Go.RowKit Go.Am

theorem refClash_ok (a b : List SpanT) (ha : a.length ≤ 1000) (hb : b.length ≤ 1000) (ma : ∀ s ∈ a, ∃ n, footMay [s] n = true) (mb : ∀ s ∈ b, ∃ n, footMay [s] n = true) : PCall Tryz.prog 14 [.sl .no (a.map encSpanT), .sl .no (b.map encSpanT)] (.bool (clashF a b)) := by
  refine PCall.run hb14 ok14 (by simp) (pures2 (elOK_SpanT.pureL a) (elOK_SpanT.pureL b)) (.bool _) ?_
  simp -implicitDefEqProofs []
  refine callQ_p (refSome_ok a true ha ma) (by simp) ?_
  simp -implicitDefEqProofs []
  refine callQ_p (refSome_ok b false hb mb) (by simp) ?_
  simp -implicitDefEqProofs []
  refine callQ_p (refMeet_ok (someF a true) (someF b false)) (by simp [wk_setP]) ?_
  cases hm : meetB (someF a true) (someF b false)
  · simp -implicitDefEqProofs []
    refine callQ_p (refSome_ok a false ha ma) (by simp) ?_
    simp -implicitDefEqProofs []
    refine callQ_p (refSome_ok b true hb mb) (by simp) ?_
    simp -implicitDefEqProofs []
    refine callQ_p (refMeet_ok (someF a false) (someF b true)) (by simp [wk_setP]) ?_
    simp -implicitDefEqProofs [clashF, hm]
  · simp -implicitDefEqProofs [clashF, hm]

theorem feet_len {l : List Stp} (hl : l.length ≤ 4) (h : ∀ s ∈ l, s.foot.length ≤ 4) : (l.flatMap (·.foot)).length ≤ 16 := by
  rw [List.length_flatMap]
  have : ∀ (l : List Stp), (∀ s ∈ l, s.foot.length ≤ 4) → (l.map fun a => a.foot.length).sum ≤ 4 * l.length := fun l => by
    induction l with
    | nil => intro; simp
    | cons s l ih =>
      intro h
      have h1 := ih fun t ht => h t (List.mem_cons_of_mem _ ht)
      have h2 := h s (List.mem_cons_self ..)
      simp only [List.map_cons, List.sum_cons, List.length_cons]
      omega
  have := this l h
  omega
theorem feet_take {l : List Stp} {j : Nat} (hl : l.length ≤ 4) (h : ∀ s ∈ l, s.foot.length ≤ 4) : ((l.take j).flatMap (·.foot)).length ≤ 16 :=
  feet_len (by rw [List.length_take]; omega) fun s hs => h s (List.mem_of_mem_take hs)
theorem feet_next {l : List Stp} {j : Nat} (h : j < l.length) : (l.take (j + 1)).flatMap (·.foot) = (l.take j).flatMap (·.foot) ++ l[j].foot := by
  rw [List.take_succ_eq_append_getElem h, List.flatMap_append]
  simp
theorem feet_may {c : Cls} (h : clsMay c = true) : ∀ s ∈ c.steps.flatMap (·.foot), ∃ n, footMay [s] n = true := fun s hs => by
  obtain ⟨t, ht, hs⟩ := List.mem_flatMap.1 hs
  exact ⟨c.args, footMay_one (cls_foot h t ht) s hs⟩

def feetV (l : List Stp) : List (List AV) := (l.flatMap (·.foot)).map encSpanT
theorem feetV_next {l : List Stp} {j : Nat} (h : j < l.length) : feetV (l.take (j + 1)) = feetV (l.take j) ++ l[j].foot.map encSpanT := by
  rw [feetV, feet_next h, List.map_append]
  rfl
theorem feetV_el (l : List Stp) : ∀ e ∈ feetV l, e.length = 5 := fun e he => by
  obtain ⟨s, _, rfl⟩ := List.mem_map.1 he
  rfl
theorem feetV_len (l : List Stp) : (feetV l).length = (l.flatMap (·.foot)).length := List.length_map ..
set_option maxHeartbeats 1000000 in
theorem refClasses_ok (c d : Cls) (m1 : clsMay c = true) (m2 : clsMay d = true) : PCall Tryz.prog 12 [.agg (encCls c), .agg (encCls d)] (.bool (clsF c d)) := by
  refine PCall.run hb12 ok12 (by simp) (pures2 (.agg (pure_encCls c)) (.agg (pure_encCls d))) (.bool _) ?_
  obtain ⟨c4, cf⟩ := cls_small m1
  obtain ⟨d4, df⟩ := cls_small m2
  simp -implicitDefEqProofs [encCls, H.nil]
  refine run_loop (fun m S h => ∃ (j : Nat) (t : Tok), m = c.steps.length - j ∧ j ≤ c.steps.length ∧ S 2 = .ptr 0 0 ∧ S 3 = .ptr 1 0 ∧ S 5 = .sl t (feetV (c.steps.take j)) ∧ S 6 = .sl .full [] ∧ S 7 = .int .i64 j ∧ 1 < h.bn ∧ h.bx 0 = some (encCls c) ∧ h.bx 1 = some (encCls d) ∧ TLive h t (feetV (c.steps.take j)).length) ?_ c.steps.length ?_
  rotate_left
  · exact ⟨0, .full, by simp, by simp, by simp, by simp, by simp [feetV], by simp, by simp, by simp, by simp [encCls], by simp [encCls], trivial⟩
  rintro m S h ⟨j, t, hm, hj, t2, t3, t5, t6, t7, lb, b0, b1, live⟩ ih
  have b0' := b0
  have b1' := b1
  rw [encCls] at b0' b1'
  have m0 : 0 < h.bn := by omega
  by_cases hlt : j < c.steps.length
  · have i1 := idxOf_nat (k := .i64) hlt
    have hft := feet_take (j := j) c4 cf
    rw [← feetV_len] at hft
    have hfj := cf _ (List.getElem_mem hlt)
    simp -implicitDefEqProofs [t2, t5, t7, b0', m0, hlt, encStp]
    refine appQ_tok (t := t) (es := feetV (c.steps.take j)) (es2 := c.steps[j].foot.map encSpanT) live (feetV_el _) (by simp [srcA]) (by rw [List.length_map]; omega) fun t' h3 p1 p2 p3 p4 => ?_
    simp -implicitDefEqProofs [t7, inc_i64 hlt (by omega), -Int.natCast_add]
    refine ih (c.steps.length - (j + 1)) _ _ (by omega) ⟨j + 1, t', rfl, by omega, by simp [t2], by simp [t3], by simp [feetV_next hlt], by simp [t6], by simp, by rw [p4]; exact lb, ?_, ?_, ?_⟩
    · rw [p3.bx 0 m0 fun h => h, b0]
    · rw [p3.bx 1 lb fun h => h, b1]
    · rw [feetV_next hlt]; exact p1
  obtain rfl : j = c.steps.length := by omega
  rw [List.take_length] at t5
  clear ih
  simp -implicitDefEqProofs [t2, t7, b0', m0]
  refine run_loop (fun m S h => ∃ (j : Nat) (t2 : Tok), m = d.steps.length - j ∧ j ≤ d.steps.length ∧ S 3 = .ptr 1 0 ∧ S 5 = .sl t (feetV c.steps) ∧ S 6 = .sl t2 (feetV (d.steps.take j)) ∧ S 8 = .int .i64 j ∧ 1 < h.bn ∧ h.bx 1 = some (encCls d) ∧ TLive h t2 (feetV (d.steps.take j)).length) ?_ d.steps.length ?_
  rotate_left
  · exact ⟨0, .full, by simp, by simp, by simp [t3], by simp [t5], by simp [t6, feetV], by simp, lb, b1, trivial⟩
  clear t2 t3 t5 t6 t7 lb b0 b1 b0' b1' m0 live
  rintro m S h ⟨j, t2, hm, hj, t3, t5, t6, t8, lb, b1, live⟩ ih
  have b1' := b1
  rw [encCls] at b1'
  by_cases hlt : j < d.steps.length
  · have i1 := idxOf_nat (k := .i64) hlt
    have hft := feet_take (j := j) d4 df
    rw [← feetV_len] at hft
    have hfj := df _ (List.getElem_mem hlt)
    simp -implicitDefEqProofs [t3, t6, t8, b1', lb, hlt, encStp]
    refine appQ_tok (t := t2) (es := feetV (d.steps.take j)) (es2 := d.steps[j].foot.map encSpanT) live (feetV_el _) (by simp [srcA]) (by rw [List.length_map]; omega) fun t' h3 p1 p2 p3 p4 => ?_
    simp -implicitDefEqProofs [t8, inc_i64 hlt (by omega), -Int.natCast_add]
    refine ih (d.steps.length - (j + 1)) _ _ (by omega) ⟨j + 1, t', rfl, by omega, by simp [t3], by simp [t5], by simp [feetV_next hlt], by simp, by rw [p4]; exact lb, ?_, ?_⟩
    · rw [p3.bx 1 lb fun h => h, b1]
    · rw [feetV_next hlt]; exact p1
  obtain rfl : j = d.steps.length := by omega
  rw [List.take_length] at t6
  have l1 := feet_len c4 cf
  have l2 := feet_len d4 df
  simp -implicitDefEqProofs [t3, t5, t6, t8, b1', lb]
  refine callQ_p (refClash_ok _ _ (by omega) (by omega) (feet_may m1) (feet_may m2)) (by simp only [List.nil_append, List.append_nil, List.map_cons, List.map_nil, Am.wk, feetV]; simp) ?_
  simp -implicitDefEqProofs [clsF]

theorem refStep_ok (c : Cls) (hc : c.wf) (i : Int) : PCall Tryz.prog 13 [.agg (encCls c), .int .i64 i] (.bool (clsMay c && (decide (0 ≤ i) && decide (i < c.steps.length)))) := by
  refine PCall.run hb13 ok13 (by simp) (pures2 (.agg (pure_encCls c)) (.int _ _)) (.bool _) ?_
  simp -implicitDefEqProofs [encCls, H.nil]
  refine callQ_p (refClsMay_ok c hc) (by simp [encCls]) ?_
  cases m1 : clsMay c
  · simp -implicitDefEqProofs []
  by_cases i0 : 0 ≤ i
  · simp -implicitDefEqProofs [i0]
  · simp -implicitDefEqProofs [i0]

theorem clashX_of {x : Ctlg} {c d : Nat} (hc : c < x.classes.length) (hd : d < x.classes.length) : clashX x c d = clsF x.classes[c] x.classes[d] := by
  unfold clashX
  rw [List.getElem?_eq_getElem hc, List.getElem?_eq_getElem hd]
theorem cat_small {x : Ctlg} (hm : catMay x = true) : 1 ≤ x.classes.length ∧ x.classes.length ≤ 4 := by
  simp only [catMay, Bool.and_eq_true, Bool.not_eq_true', decide_eq_false_iff_not] at hm
  omega
theorem cls_one {c : Cls} (h : clsMay c = true) : 1 ≤ c.steps.length := by
  simp only [clsMay, Bool.and_eq_true, Bool.not_eq_true', decide_eq_false_iff_not] at h
  omega

set_option maxHeartbeats 2000000 in
theorem refAdvice_ok (x : Ctlg) (hw : x.wf) (hm : catMay x = true) : PCall Tryz.prog 11 [.agg (encCtlg x)] (.agg (encCtlg (advOf x))) := by
  refine PCall.run hb11 ok11 (by simp) (pures1 (.agg (pure_encCtlg x))) (.agg (pure_encCtlg _)) ?_
  have hbl := hw.2.1
  have n4 := (cat_small hm).2
  have htk := x.take16 hbl
  simp -implicitDefEqProofs [encCtlg, H.nil]
  refine run_loop (fun m S h => ∃ c : Nat, m = x.classes.length - c ∧ c ≤ x.classes.length ∧ S 1 = .ptr 0 0 ∧ S 2 = .ptr 1 0 ∧ S 3 = .int .i64 c ∧ 1 < h.bn ∧ h.bx 0 = some (.sl .no (x.classes.map encCls) :: (advL x (c * x.classes.length)).map (AV.int .i64)) ∧ (∃ cs, h.bx 1 = some cs ∧ cs.length = 17)) ?_ x.classes.length ?_
  rotate_left
  · exact ⟨0, by simp [advL_zero x hbl]⟩
  rintro m S h ⟨c, hmm, hc, t1, t2, t3, lb, b0, b1⟩ ih
  have m0 : 0 < h.bn := by omega
  by_cases hlt : c < x.classes.length
  · have i1 := idxOf_nat (k := .i64) hlt
    have mc := cat_cls hm _ (List.getElem_mem hlt)
    have sl1 := cls_one mc
    have sl4 := (cls_small mc).1
    simp -implicitDefEqProofs [t1, t3, b0, m0, hlt]
    refine run_loop (fun m S h => ∃ j : Nat, m = x.classes[c].steps.length - j ∧ 1 ≤ j ∧ j ≤ x.classes[c].steps.length ∧ S 1 = .ptr 0 0 ∧ S 2 = .ptr 1 0 ∧ S 3 = .int .i64 c ∧ S 4 = .int .i64 (2 ^ (j - 1)) ∧ S 5 = .int .i64 j ∧ 1 < h.bn ∧ h.bx 0 = some (.sl .no (x.classes.map encCls) :: (advL x (c * x.classes.length)).map (AV.int .i64)) ∧ (∃ cs, h.bx 1 = some cs ∧ cs.length = 17)) ?_ (x.classes[c].steps.length - 1) ?_
    rotate_left
    · exact ⟨1, rfl, Nat.le_refl _, sl1, by simp [t1], by simp [t2], by simp [t3], by simp, by simp, lb, b0, b1⟩
    clear t1 t2 t3 lb b0 b1 m0
    rintro m S h ⟨j, hmm, hj1, hj, t1, t2, t3, t4, t5, lb, b0, b1⟩ ih2
    have m0 : 0 < h.bn := by omega
    by_cases hl2 : j < x.classes[c].steps.length
    · have hp : IntKind.i64.wrap (2 * 2 ^ (j - 1) : Int) = 2 ^ (j + 1 - 1) := by
        rcases (by omega : j = 1 ∨ j = 2 ∨ j = 3) with rfl | rfl | rfl <;> decide
      simp -implicitDefEqProofs [t1, t3, t4, t5, b0, m0, hlt, encCls, hl2, hp, inc_i64 hl2 (by omega), -Int.natCast_add]
      exact ih2 (x.classes[c].steps.length - (j + 1)) _ _ (by omega) ⟨j + 1, rfl, by omega, by omega, by simp [t1], by simp [t2], by simp [t3], by simp, by simp, lb, b0, b1⟩
    obtain rfl : j = x.classes[c].steps.length := by omega
    clear ih2
    simp -implicitDefEqProofs [t1, t3, t5, b0, m0, hlt, encCls]
    refine run_loop (fun m S h => ∃ d : Nat, m = x.classes.length - d ∧ d ≤ x.classes.length ∧ S 1 = .ptr 0 0 ∧ S 2 = .ptr 1 0 ∧ S 3 = .int .i64 c ∧ S 4 = .int .i64 (2 ^ (x.classes[c].steps.length - 1)) ∧ S 6 = .int .i64 d ∧ 1 < h.bn ∧ h.bx 0 = some (.sl .no (x.classes.map encCls) :: (advL x (c * x.classes.length + d)).map (AV.int .i64)) ∧ (∃ cs, h.bx 1 = some cs ∧ cs.length = 17)) ?_ x.classes.length ?_
    rotate_left
    · exact ⟨0, by simp, by simp, by simp [t1], by simp [t2], by simp [t3], by simp [t4], by simp, lb, b0, b1⟩
    clear t1 t2 t3 t4 t5 lb b0 b1 m0
    rintro m S h ⟨d, hmm, hd, t1, t2, t3, t4, t6, lb, b0, b1⟩ ih2
    have m0 : 0 < h.bn := by omega
    by_cases hl3 : d < x.classes.length
    · have i2 := idxOf_nat (k := .i64) hl3
      have md := cat_cls hm _ (List.getElem_mem hl3)
      have hcx := clashX_of hlt hl3
      simp -implicitDefEqProofs [t1, t6, b0, m0, hl3]
      refine run_dreg c11_d12 ?_
      simp -implicitDefEqProofs [t1, t3, t6, b0, m0, hlt, hl3]
      refine lcallQ_p (refClasses_ok x.classes[c] x.classes[d] mc md) (by simp) ?_
      cases hcf : clsF x.classes[c] x.classes[d]
      · rw [hcf] at hcx
        have hst := advL_step n4 hlt hl3 hcx
        have hl := advL_len x (c * x.classes.length + d)
        have ho : openT x c d = 2 ^ (x.classes[c].steps.length - 1) - 1 := by rw [openT, dif_pos hlt, Cls.all]
        have hwr : IntKind.i64.wrap (2 ^ (x.classes[c].steps.length - 1) - 1 : Int) = openT x c d := by
          rw [ho]
          rcases (by omega : x.classes[c].steps.length = 1 ∨ x.classes[c].steps.length = 2 ∨ x.classes[c].steps.length = 3 ∨ x.classes[c].steps.length = 4) with e | e | e | e <;> rw [e] <;> decide
        simp -implicitDefEqProofs [t1, t3, t4, t6, b0, m0, hwr, hl, show (c : Int) < 4 by omega, show (d : Int) < 4 by omega, inc_i64 hl3 (by omega), -Int.natCast_add]
        refine ⟨by omega, ?_⟩
        have hput : List.take (1 + c * 4 + d) (AV.sl .no (x.classes.map encCls) :: (advL x (c * x.classes.length + d)).map (AV.int .i64)) ++ AV.int .i64 (openT x c d) :: List.drop (1 + c * 4 + d) ((advL x (c * x.classes.length + d)).map (AV.int .i64)) = AV.sl .no (x.classes.map encCls) :: (advL x (c * x.classes.length + d + 1)).map (AV.int .i64) := by
          rw [show 1 + c * 4 + d = (c * 4 + d) + 1 by omega, List.take_succ_cons, List.cons_append, hst]
        rw [hput]
        exact ih2 (x.classes.length - (d + 1)) _ _ (by omega) ⟨d + 1, rfl, by omega, by simp [t1], by simp [t2], by simp [t3], by simp [t4], by simp, by simpa using lb, by simp [show c * x.classes.length + (d + 1) = c * x.classes.length + d + 1 by omega], by simpa using b1⟩
      · rw [hcf] at hcx
        have hsm := advL_same n4 hlt hl3 hcx
        simp -implicitDefEqProofs [t6, b0, m0, inc_i64 hl3 (by omega), -Int.natCast_add]
        exact ih2 (x.classes.length - (d + 1)) _ _ (by omega) ⟨d + 1, rfl, by omega, by simp [t1], by simp [t2], by simp [t3], by simp [t4], by simp, lb, by rw [show c * x.classes.length + (d + 1) = c * x.classes.length + d + 1 by omega, hsm]; exact b0, b1⟩
    · obtain rfl : d = x.classes.length := by omega
      simp -implicitDefEqProofs [t1, t3, t6, b0, m0, inc_i64 hlt (by omega), -Int.natCast_add]
      exact ih (x.classes.length - (c + 1)) _ _ (by omega) ⟨c + 1, rfl, by omega, by simp [t1], by simp [t2], by simp, lb, by rw [Nat.add_mul, Nat.one_mul]; exact b0, b1⟩
  · obtain rfl : c = x.classes.length := by omega
    obtain ⟨cs, b1, hcl⟩ := b1
    have hl := advL_len x (x.classes.length * x.classes.length)
    have htk2 : List.take 16 ((advL x (x.classes.length * x.classes.length)).map (AV.int .i64)) = (advL x (x.classes.length * x.classes.length)).map (AV.int .i64) := List.take_of_length_le (by simp [hl])
    have hdr : List.drop 17 cs = [] := List.drop_eq_nil_of_le (by omega)
    simp -implicitDefEqProofs [t1, t2, t3, b0, b1, m0, lb, hcl, hl, htk2, hdr, advOf, Ctlg.with]
end Go.Proofs
