/- What the functions that the statement reaches do: their contracts; and what follows of it. -/
import Derived.Test.YtedmjhckiiponaaSCatFiner5
import Derived.Test.YtedmjhckiiponaaSCatFiner6
import Derived.Test.YtedmjhckiiponaaSCatFiner4
/- Which catalogues there may be: the program's answer. -/
namespace Go.Proofs
open Go Go.RowKit Go.Am

theorem named1_ok (c d : Cls) {h : H} {b : Nat} (hb : b < h.bn) (hbx : h.bx b = some (encCls c)) : SCall Try.prog 115 [.agg (encCls d), .ptr b 0] h (.bool (decide (d.name = c.name))) h := by
  refine SCall.ro (CallP.run hb115 ok115 (by simp) ?_) (.bool _)
  rw [encCls] at hbx
  simp -implicitDefEqProofs [encCls, hbx, show ¬ b = h.bn by omega, show b < h.bn + 1 by omega]
  exact HF.alloc _ _ _ _

theorem names_any {x : Ctlg} {i : Nat} (hi : i < x.classes.length) : ((x.classes.take i).any fun d => decide (d.name = x.classes[i].name)) = !x.namesOK i := by
  rw [Bool.eq_iff_iff]
  simp only [List.any_eq_true, decide_eq_true_eq, Bool.not_eq_true', Ctlg.namesOK, List.all_eq_false, List.mem_range]
  constructor
  · rintro ⟨d, hd, he⟩
    obtain ⟨j, hj, rfl⟩ := List.mem_iff_getElem.1 hd
    rw [List.length_take] at hj
    refine ⟨j, by omega, ?_⟩
    rw [List.getElem_take] at he
    simp [Ctlg.nameAt_of hi, Ctlg.nameAt_of (show j < x.classes.length by omega), he]
  · rintro ⟨j, hj, he⟩
    have hl : j < x.classes.length := by omega
    refine ⟨x.classes[j], ?_, ?_⟩
    · exact List.mem_iff_getElem.2 ⟨j, by rw [List.length_take]; omega, by rw [List.getElem_take]⟩
    · simpa [Ctlg.nameAt_of hi, Ctlg.nameAt_of hl] using he

theorem named_ok (x : Ctlg) (hl : x.classes.length ≤ 9223372036854775807) (hw : ∀ y ∈ x.classes, y.wf) : PCall Try.prog 80 [.sl .no (x.classes.map encCls)] (.bool ((List.range x.classes.length).all fun i => x.clsOK i && x.namesOK i)) := by
  refine PCall.run hb80 ok80 (by simp) (pures1 (elOK_Cls.pureL x.classes)) (.bool _) ?_
  simp -implicitDefEqProofs []
  refine run_loop (fun n s h => ∃ j : Nat, n = x.classes.length - j ∧ j ≤ x.classes.length ∧ s 0 = .sl .no (x.classes.map encCls) ∧ s 5 = .sl .no (x.classes.map encCls) ∧ s 6 = .int .i64 x.classes.length ∧ s 7 = .int .i64 j ∧ ∀ i, i < j → (x.clsOK i && x.namesOK i) = true) ?_ x.classes.length ?_
  rotate_left
  · exact ⟨0, by simp⟩
  rintro n s h ⟨j, hn, hj, s0, s5, s6, s7, hall⟩ ih
  by_cases hlt : j < x.classes.length
  · have hno : (x.clsOK j && x.namesOK j) = false → ((List.range x.classes.length).all fun i => x.clsOK i && x.namesOK i) = false := allR_false (p := fun i => x.clsOK i && x.namesOK i) hlt
    have hjs : (j : Int) ≤ (x.classes.length : Int) := by omega
    simp -implicitDefEqProofs [s5, s6, s7, hlt, encCls]
    refine callQ_p (classMay_ok x.classes[j] (hw _ (List.getElem_mem hlt))) (by simp [encCls]) ?_
    cases hp : clsMay x.classes[j]
    · have := hno (by simp [Ctlg.clsOK_of hlt, hp])
      simp -implicitDefEqProofs [this]
    simp -implicitDefEqProofs [s0, hj]
    refine callQ_s (contains_gen hb114 ok114 hb141 ok141 elOK_Cls (x.classes.take j) (by rw [List.length_take]; omega) (first := []) (caps := [.ptr h.bn 0]) (p := fun d => decide (d.name = x.classes[j].name)) rfl (by simp) (fun d _ => named1_ok x.classes[j] d (by simp) (by simp [encCls]))) (by simp [List.map_take]) ?_
    have hna := names_any hlt
    cases hq : x.namesOK j
    · have := hno (by simp [hq])
      rw [hq] at hna
      simp -implicitDefEqProofs [hna, this]
    rw [hq] at hna
    simp -implicitDefEqProofs [hna, s7, inc_i64 hlt hl, -Int.natCast_add]
    exact ih (x.classes.length - (j + 1)) _ _ (by omega) ⟨j + 1, rfl, by omega, by simp [s0], by simp [s5], by simp [s6], by simp, fun i hij => by
      by_cases h : i = j
      · subst h; simp [Ctlg.clsOK_of hlt, hp, hq]
      · exact hall i (by omega)⟩
  · have hw : ((List.range x.classes.length).all fun i => x.clsOK i && x.namesOK i) = true := allR_true (by omega) hall
    simp -implicitDefEqProofs [s6, s7, hlt, hw]

theorem and_low (v : Int) {k : Nat} (hk : k ≤ 3) : IntKind.i64.wrap ((((v % 2 ^ IntKind.i64.bits).toNat &&& (((2 : Int) ^ k - 1) % 2 ^ IntKind.i64.bits).toNat : Nat)) : Int) = v % 2 ^ k := by
  have hb : IntKind.i64.bits = 64 := rfl
  have h4 : k = 0 ∨ k = 1 ∨ k = 2 ∨ k = 3 := by omega
  have e : (((2 : Int) ^ k - 1) % 2 ^ IntKind.i64.bits).toNat = 2 ^ k - 1 := by
    rcases h4 with rfl | rfl | rfl | rfl <;> decide
  rw [e, Nat.and_two_pow_sub_one_eq_mod, hb]
  rcases h4 with rfl | rfl | rfl | rfl <;> (rw [wrap_i64] <;> omega)

theorem catMay1_ok (x : Ctlg) (hb16 : x.breaks.length = 16) {h : H} {b c d : Nat} (hb : b < h.bn) (hbx : h.bx b = some (encCtlg x)) (hc : c < x.classes.length) (n4 : x.classes.length ≤ 4) (hd : d < x.classes.length) (hs : x.classes[c].small) : SCall Try.prog 81 [.int .i64 c, .int .i64 d, .ptr b 0] h (.int .i64 (mayT x c d)) h := by
  refine SCall.ro (CallP.run hb81 ok81 (by simp) ?_) (.int _ _)
  rw [encCtlg] at hbx
  have hbk := Ctlg.brk_load (x := x) (.sl .no (x.classes.map encCls)) hb16 (show c < 4 by omega) (show d < 4 by omega)
  simp -implicitDefEqProofs []
  refine run_dregL c81_d2 rfl ?_
  simp -implicitDefEqProofs [hb, hbx, hc, hbk, hb16, show (c : Int) < 4 by omega, show (d : Int) < 4 by omega, show 1 + c * 4 + d + 1 ≤ 16 + 1 by omega]
  refine callC_p (all_ok x.classes[c] hs) (by simp) ?_
  have hk : x.classes[c].steps.length - 1 ≤ 3 := by have := hs.2.1; omega
  have ha := and_low (x.brk c d) hk
  simp -implicitDefEqProofs [Cls.all, ha, mayT, Ctlg.stepsN_of hc]
  exact HF.refl _ _ _

theorem catMayP_ok (x : Ctlg) (hx : x.wf) : PCall Try.prog 39 [.agg (encCtlg x)] (.bool (catMay x)) := by
  refine PCall.run hb39 ok39 (by simp) (pures1 (.agg (pure_encCtlg x))) (.bool _) ?_
  have htk := x.take16 hx.2.1
  obtain ⟨⟨hcl, hcw⟩, hbl, hbw⟩ := hx
  by_cases c1 : (x.classes.length : Int) < 1
  · have hf : catMay x = false := by simp [catMay, show x.classes.length < 1 by omega]
    simp -implicitDefEqProofs [encCtlg, c1, hf]
  by_cases c4 : (4 : Int) < x.classes.length
  · have hf : catMay x = false := by simp [catMay, show 4 < x.classes.length by omega]
    simp -implicitDefEqProofs [encCtlg, c1, c4, hf]
  have n4 : x.classes.length ≤ 4 := by omega
  have hm : catMay x = (((List.range x.classes.length).all fun i => x.clsOK i && x.namesOK i) && (List.range 4).all fun c => (List.range 4).all (x.brkOK c)) := by
    simp only [catMay, show ¬ x.classes.length < 1 by omega, show ¬ 4 < x.classes.length by omega]
    simp
  rw [← may_turn n4 hbl] at hm
  simp -implicitDefEqProofs [encCtlg, c1, c4]
  refine callQ_p (named_ok x hcl hcw) (by simp) ?_
  cases hna : (List.range x.classes.length).all fun i => x.clsOK i && x.namesOK i
  · rw [hna] at hm
    simp -implicitDefEqProofs [hm]
  rw [hna] at hm
  have hsm : ∀ c (h : c < x.classes.length), x.classes[c].small := fun c h => by
    rw [List.all_eq_true] at hna
    have := hna c (List.mem_range.2 h)
    rw [Bool.and_eq_true, Ctlg.clsOK_of h] at this
    exact clsMay_small this.1
  simp -implicitDefEqProofs [H.nil]
  refine run_dreg c39_d5 ?_
  simp -implicitDefEqProofs [htk, hbl]
  refine callD_s (turned_ok x hbl n4 (first := []) (caps := [.ptr 0 0]) rfl (by simp) (mayT x) fun c d h' hc hd hf => catMay1_ok x hbl ?_ ?_ hc n4 hd (hsm c hc)) (by simp [encCtlg]) ?_
  · have := hf.bn
    simp at this
    omega
  · rw [hf.bx 0 (by simp) (fun h => h)]
    simp [encCtlg]
  have hl := turnL_len x.classes.length (mayT x) (x.classes.length * x.classes.length)
  have hce := cells_ints x.breaks (turnL x.classes.length (mayT x) (x.classes.length * x.classes.length)) (by rw [hbl, hl])
  rw [hbl] at hce
  simp only [List.replicate] at hce
  simp -implicitDefEqProofs [hce, hm, htk, hbl]
end Go.Proofs

/- How many breakpoints there are: the program's answer. -/
namespace Go.Proofs
open Go Go.RowKit Go.Am

theorem ones64_ok (v : Nat) (hv : v < 8) : PCall Try.prog 118 [.int .u64 v] (.int .i64 (popc v)) := by
  refine PCall.run hb118 ok118 (by simp) (pures1 (.int _ _)) (.int _ _) ?_
  have h8 : v = 0 ∨ v = 1 ∨ v = 2 ∨ v = 3 ∨ v = 4 ∨ v = 5 ∨ v = 6 ∨ v = 7 := by omega
  rcases h8 with rfl | rfl | rfl | rfl | rfl | rfl | rfl | rfl <;> (simp -implicitDefEqProofs []; decide +kernel)
theorem ones_ok (v : Nat) (hv : v < 8) : PCall Try.prog 83 [.int .u64 v] (.int .i64 (popc v)) := by
  refine PCall.run hb83 ok83 (by simp) (pures1 (.int _ _)) (.int _ _) ?_
  simp -implicitDefEqProofs []
  refine callQ_p (ones64_ok v hv) (by simp) ?_
  simp -implicitDefEqProofs []

theorem cnt_flat (f : Nat → Nat → Nat) {n : Nat} (hn : n ≤ 4) : sumN (fun k => f (k / n) (k % n)) (n * n) = sumN (fun c => sumN (fun d => f c d) n) n := by
  have h5 : n = 0 ∨ n = 1 ∨ n = 2 ∨ n = 3 ∨ n = 4 := by omega
  rcases h5 with rfl | rfl | rfl | rfl | rfl <;> simp [sumN] <;> omega
theorem div_mod_of {n c d : Nat} (hd : d < n) : (c * n + d) / n = c ∧ (c * n + d) % n = d := by
  constructor
  · rw [Nat.mul_comm, Nat.mul_add_div (by omega), Nat.div_eq_of_lt hd, Nat.add_zero]
  · rw [Nat.mul_comm, Nat.mul_add_mod, Nat.mod_eq_of_lt hd]

theorem breaks_ok (x : Ctlg) (hx : x.wf) (hm : catMay x = true) : PCall Try.prog 40 [.agg (encCtlg x)] (.int .i64 x.cntB) := by
  refine PCall.run hb40 ok40 (by simp) (pures1 (.agg (pure_encCtlg x))) (.int _ _) ?_
  have htk := x.take16 hx.2.1
  obtain ⟨hsm, hg⟩ := catMay_small hx hm
  have hbl := hx.2.1
  have n4 := hsm.2.1
  simp -implicitDefEqProofs [encCtlg, H.nil]
  simp -implicitDefEqProofs [htk, hbl]
  refine callQ_s (pairs_ok x hbl _) (by simp [encCtlg]) ?_
  simp -implicitDefEqProofs []
  generalize hS : (su _ 7 _ : Slots) = S
  have s1 : S 1 = .ptr 0 0 := by rw [← hS]; simp
  have s3 : S 3 = .ptr 1 0 := by rw [← hS]; simp
  have s7 : S 7 = .fn 116 [] [.ptr 2 0] := by rw [← hS]; simp
  clear hS
  let q0 : LoopA := ⟨S, [8, 9], c40_x7, c40_y8, .ready, none⟩
  let g : Nat → Nat := fun k => x.pcB (k / x.classes.length) (k % x.classes.length)
  let J : Nat → H → Prop := fun k h1 => 0 < h1.ln ∧ h1.lp 0 = some q0 ∧ 3 ≤ h1.bn ∧ h1.bx 0 = some (encCtlg x) ∧ h1.bx 1 = some [.int .i64 (sumN g k : Nat)] ∧ h1.bx 2 = some (encCtlg x)
  refine .rngf (Z := fun _ h1 => J (x.classes.length * x.classes.length) h1) (F := 116) (first := []) (caps := [.ptr 2 0]) rfl (by simpa using s7) (pairs1_ok x n4 J (fun k h' ⟨_, _, q1, _, _, q2⟩ => ⟨by omega, q2⟩) ?_ ?_) ?_ ?_
  · rintro c d h' hc hd ⟨j1, j2, j3, j4, j5, j6⟩ K hK
    have j4' := j4
    rw [encCtlg] at j4
    have hbk := Ctlg.brk_load (x := x) (.sl .no (x.classes.map encCls)) hbl (show c < 4 by omega) (show d < 4 by omega)
    obtain ⟨m0, m1⟩ := may_brk hm c d (by omega) (by omega)
    rw [Ctlg.mostB, if_pos ⟨hc, hd⟩, Ctlg.stepsN_of hc] at m1
    have hcs := hsm.2.2.1 _ (List.getElem_mem hc)
    have hk3 : x.classes[c].steps.length - 1 ≤ 3 := by have := hcs.2.1; omega
    have ha := and_low (x.brk c d) hk3
    rw [Int.emod_eq_of_lt m0 m1] at ha
    obtain ⟨v, hv⟩ := Int.eq_ofNat_of_zero_le m0
    have hv8 : v < 8 := by
      have : (2 : Int) ^ (x.classes[c].steps.length - 1) ≤ 8 := by
        have h4 : x.classes[c].steps.length - 1 = 0 ∨ x.classes[c].steps.length - 1 = 1 ∨ x.classes[c].steps.length - 1 = 2 ∨ x.classes[c].steps.length - 1 = 3 := by omega
        rcases h4 with e | e | e | e <;> rw [e] <;> decide
      omega
    have hgk : g (c * x.classes.length + d) = popc v := by
      obtain ⟨e1, e2⟩ := div_mod_of (c := c) hd
      show x.pcB _ _ = _
      rw [e1, e2, Ctlg.pcB, hv, Int.toNat_natCast]
    have hsum : sumN g (c * x.classes.length + d + 1) = sumN g (c * x.classes.length + d) + popc v := by rw [sumN, hgk]
    have hbd : sumN g (c * x.classes.length + d) ≤ 3 * (c * x.classes.length + d) := sumN_bound (fun j => popc_le _) _
    have hcd : c * x.classes.length + d ≤ 16 := by
      have : c * x.classes.length ≤ 3 * 4 := Nat.mul_le_mul (by omega) n4
      omega
    have hpv := popc_le v
    have hadd : IntKind.i64.wrap (((sumN g (c * x.classes.length + d) : Nat) : Int) + ((popc v : Nat) : Int)) = ((sumN g (c * x.classes.length + d + 1) : Nat) : Int) := by
      rw [wrap_i64] <;> omega
    refine callQ_y (q := q0) j1 j2 rfl ?_
    simp -implicitDefEqProofs [slotsP, j1, j2, q0]
    refine run_dreg c40_d6 ?_
    rw [hv] at ha hbk
    have ha2 : IntKind.i64.wrap ((v % 2 ^ IntKind.i64.bits &&& ((2 ^ (x.classes[c].steps.length - 1) - 1 : Int) % 2 ^ IntKind.i64.bits).toNat : Nat) : Int) = (v : Int) := by
      have e : (((v : Nat) : Int) % 2 ^ IntKind.i64.bits).toNat = v % 2 ^ IntKind.i64.bits := by
        have hb : IntKind.i64.bits = 64 := rfl
        rw [hb]
        omega
      rw [← e]
      exact ha
    simp -implicitDefEqProofs [s1, s3, j4, j5, hc, hbk, hbl, show 0 < h'.bn by omega, show 1 < h'.bn by omega, show (c : Int) < 4 by omega, show (d : Int) < 4 by omega, show 1 + c * 4 + d + 1 ≤ 16 + 1 by omega]
    refine lcallQ_p (all_ok x.classes[c] hcs) (by simp) ?_
    simp -implicitDefEqProofs [Cls.all, ha2, wrap_u64 (show (0 : Int) ≤ (v : Int) by omega) (show (v : Int) ≤ _ by omega)]
    refine lcallQ_p (ones_ok v hv8) (by simp) ?_
    simp -implicitDefEqProofs [s3, j4, j5, hadd, roundQ, j1, show 0 < h'.bn by omega, show 1 < h'.bn by omega, hbk, hbl, show 1 + c * 4 + d + 1 ≤ 16 + 1 by omega]
    exact hK _ ⟨by simpa using j1, by simp [q0], by simpa using j3, by simp [encCtlg, j4], by simp, by simp [j6]⟩
  · exact ⟨by simp, by simp [q0], by simp, by simp [encCtlg], by simp [sumN], by simp [encCtlg]⟩
  · rintro v h2 ⟨j1, j2, _⟩
    exact ⟨j1, _, j2, by simp [q0]⟩
  · rintro v h2 q ⟨j1, j2, j3, j4, j5, j6⟩ hq
    replace hq : h2.lp 0 = some q := hq
    rw [j2] at hq
    cases hq
    rw [show g = fun k => x.pcB (k / x.classes.length) (k % x.classes.length) from rfl, cnt_flat x.pcB n4] at j5
    simp -implicitDefEqProofs [pendK, q0, s3, j5, show 1 < h2.bn by omega, Ctlg.cntB]
end Go.Proofs

/- What is the same as itself: the document's answer. -/
namespace Go.Proofs
open Go Go.RowKit Go.Am

theorem same09_ok (l : List Inst) (hl : l.length ≤ 9223372036854775807) : PCall Try.prog 125 [.sl .no (l.map encInst), .sl .no (l.map encInst)] (.bool true) := by
  refine PCall.run hb125 ok125 (by simp) (pures_cons (elOK_Inst.pureL l) (pures1 (elOK_Inst.pureL l))) (.bool _) ?_
  simp -implicitDefEqProofs []
  refine run_loop (fun n s h => ∃ j : Nat, n = l.length - j ∧ j ≤ l.length ∧ s 0 = .sl .no (l.map encInst) ∧ s 1 = .sl .no (l.map encInst) ∧ s 5 = .int .i64 j) ?_ l.length ?_
  rotate_left
  · exact ⟨0, by simp⟩
  rintro n s h ⟨j, hn, hj, s0, s1, s5⟩ ih
  by_cases hlt : j < l.length
  · simp -implicitDefEqProofs [s0, s5, hlt]
    refine run_dregL c125_d6 rfl ?_
    simp -implicitDefEqProofs [s0, s1, s5, hlt, encInst, inc_i64 hlt hl, -Int.natCast_add]
    exact ih (l.length - (j + 1)) _ _ (by omega) ⟨j + 1, rfl, by omega, by simp [s0], by simp [s1], by simp⟩
  · simp -implicitDefEqProofs [s0, s5, hlt]

theorem same10_ok (l : List SpanT) (hl : l.length ≤ 9223372036854775807) : PCall Try.prog 126 [.sl .no (l.map encSpanT), .sl .no (l.map encSpanT)] (.bool true) := by
  refine PCall.run hb126 ok126 (by simp) (pures_cons (elOK_SpanT.pureL l) (pures1 (elOK_SpanT.pureL l))) (.bool _) ?_
  simp -implicitDefEqProofs []
  refine run_loop (fun n s h => ∃ j : Nat, n = l.length - j ∧ j ≤ l.length ∧ s 0 = .sl .no (l.map encSpanT) ∧ s 1 = .sl .no (l.map encSpanT) ∧ s 5 = .int .i64 j) ?_ l.length ?_
  rotate_left
  · exact ⟨0, by simp⟩
  rintro n s h ⟨j, hn, hj, s0, s1, s5⟩ ih
  by_cases hlt : j < l.length
  · simp -implicitDefEqProofs [s0, s5, hlt]
    refine run_dregL c126_d6 rfl ?_
    simp -implicitDefEqProofs [s0, s1, s5, hlt, encSpanT, inc_i64 hlt hl, -Int.natCast_add]
    exact ih (l.length - (j + 1)) _ _ (by omega) ⟨j + 1, rfl, by omega, by simp [s0], by simp [s1], by simp⟩
  · simp -implicitDefEqProofs [s0, s5, hlt]

theorem sameSteps_ok (l : List Stp) (hl : l.length ≤ 9223372036854775807) (hw : ∀ s ∈ l, s.code.length ≤ 9223372036854775807 ∧ s.foot.length ≤ 9223372036854775807) : PCall Try.prog 89 [.sl .no (l.map encStp), .sl .no (l.map encStp)] (.bool true) := by
  refine PCall.run hb89 ok89 (by simp) (pures_cons (elOK_Stp.pureL l) (pures1 (elOK_Stp.pureL l))) (.bool _) ?_
  simp -implicitDefEqProofs []
  refine run_loop (fun n s h => ∃ j : Nat, n = l.length - j ∧ j ≤ l.length ∧ s 0 = .sl .no (l.map encStp) ∧ s 1 = .sl .no (l.map encStp) ∧ s 5 = .int .i64 j) ?_ l.length ?_
  rotate_left
  · exact ⟨0, by simp⟩
  rintro n s h ⟨j, hn, hj, s0, s1, s5⟩ ih
  by_cases hlt : j < l.length
  · obtain ⟨w1, w2⟩ := hw _ (List.getElem_mem hlt)
    simp -implicitDefEqProofs [s0, s5, hlt]
    refine run_dregL c89_d6 rfl ?_
    simp -implicitDefEqProofs [s0, s1, s5, hlt, encStp]
    refine callC_p (same09_ok l[j].code w1) (by simp) ?_
    simp -implicitDefEqProofs [s0, s1, s5, hlt, encStp]
    refine callC_p (same10_ok l[j].foot w2) (by simp) ?_
    simp -implicitDefEqProofs [s5, inc_i64 hlt hl, -Int.natCast_add]
    exact ih (l.length - (j + 1)) _ _ (by omega) ⟨j + 1, rfl, by omega, by simp [s0], by simp [s1], by simp⟩
  · simp -implicitDefEqProofs [s0, s5, hlt]

theorem same11_ok (c : Cls) (hc : c.wf) : PCall Try.prog 45 [.agg (encCls c), .agg (encCls c)] (.bool true) := by
  refine PCall.run hb45 ok45 (by simp) (pures_cons (.agg (pure_encCls c)) (pures1 (.agg (pure_encCls c)))) (.bool _) ?_
  obtain ⟨hwn, hwa, ⟨hsl, hsw⟩, hcl, hcw⟩ := hc
  have h1 : ∀ s : Stp, s.wf → s.code.length ≤ 9223372036854775807 ∧ s.foot.length ≤ 9223372036854775807 := fun s hs => ⟨hs.1.1, hs.2.1⟩
  simp -implicitDefEqProofs [encCls]
  refine callQ_p (sameSteps_ok c.steps hsl fun s hs => h1 s (hsw s hs)) (by simp) ?_
  simp -implicitDefEqProofs []
  refine callQ_p (sameSteps_ok c.comps hcl fun s hs => h1 s (hcw s hs)) (by simp) ?_
  simp -implicitDefEqProofs []

theorem same12_ok (x : Ctlg) (hx : x.wf) : PCall Try.prog 41 [.agg (encCtlg x), .agg (encCtlg x)] (.bool true) := by
  refine PCall.run hb41 ok41 (by simp) (pures_cons (.agg (pure_encCtlg x)) (pures1 (.agg (pure_encCtlg x)))) (.bool _) ?_
  have htk := x.take16 hx.2.1
  obtain ⟨⟨hcl, hcw⟩, hbl, hbw⟩ := hx
  have hce : cellsEq (List.replicate 16 LK.i) (x.breaks.map (AV.int .i64)) (x.breaks.map (AV.int .i64)) = some true := by
    have := cells_ints x.breaks x.breaks rfl
    rw [hbl] at this
    simpa using this
  simp only [List.replicate] at hce
  simp -implicitDefEqProofs [encCtlg, htk, hbl, hce]
  refine run_loop (fun n s h => ∃ j : Nat, n = x.classes.length - j ∧ j ≤ x.classes.length ∧ s 2 = .ptr 0 0 ∧ s 3 = .ptr 1 0 ∧ 1 < h.bn ∧ h.bx 0 = some (.sl .no (x.classes.map encCls) :: x.breaks.map (AV.int .i64)) ∧ h.bx 1 = some (.sl .no (x.classes.map encCls) :: x.breaks.map (AV.int .i64)) ∧ s 5 = .int .i64 j) ?_ x.classes.length ?_
  rotate_left
  · exact ⟨0, by simp [H.nil]⟩
  rintro n s h ⟨j, hn, hj, s2, s3, b0, b1, b2, s5⟩ ih
  by_cases hlt : j < x.classes.length
  · simp -implicitDefEqProofs [s2, b1, s5, hlt, show 0 < h.bn by omega]
    refine run_dregL c41_d6 rfl ?_
    simp -implicitDefEqProofs [s2, s3, b0, b1, b2, s5, hlt, show 0 < h.bn by omega]
    refine callC_p (same11_ok x.classes[j] (hcw _ (List.getElem_mem hlt))) (by simp) ?_
    simp -implicitDefEqProofs [s5, inc_i64 hlt hcl, -Int.natCast_add]
    exact ih (x.classes.length - (j + 1)) _ _ (by omega) ⟨j + 1, rfl, by omega, by simp [s2], by simp [s3], by simpa using b0, by simp [b1], by simp [b2], by simp⟩
  · simp -implicitDefEqProofs [s2, b1, s5, hlt, show 0 < h.bn by omega]
end Go.Proofs

/- A catalogue opened and closed side by side; the chapter's own first look. -/
namespace Go.Proofs
open Go Go.RowKit Go.Am

def twoIs (tx ta tb e : Nat) (zA zB : List AV) : List Ins := [⟨some e, none, .load 17 true (.t tx)⟩, ⟨some (e + 1), none, .call (.c (.fn 24 [] [])) [.t e]⟩, ⟨some (e + 2), none, .load 17 true (.t tx)⟩, ⟨some (e + 3), none, .call (.c (.fn 32 [] [])) [.t (e + 2)]⟩,
  ⟨some ta, none, .alloc zA⟩, ⟨some tb, none, .alloc zB⟩, ⟨none, none, .store 17 (.t ta) (.t (e + 1))⟩, ⟨none, none, .store 17 (.t tb) (.t (e + 3))⟩]

theorem len_encCtlg {x : Ctlg} (h : x.breaks.length = 16) : (encCtlg x).length = 17 := by simp [encCtlg, h]
theorem two_cats (x : Ctlg) (hs : x.small) {tx ta tb e b0 : Nat} {zA zB : List AV} (hzA : zA.length = 17) (hzB : zB.length = 17) {aft : List (List Nat)} {inr : Bool} {k : List It} {Q : Res → Slots → H → Prop} {s : Slots} {h : H}
    (hA : 4 ∈ aft.getD 6 [] ∧ 1 ∈ aft.getD 6 []) (hB : 5 ∈ aft.getD 7 [] ∧ 3 ∈ aft.getD 7 []) (h1 : 0 ∈ aft.getD 1 []) (h3 : 2 ∈ aft.getD 3 []) (hab : ta ≠ tb) (hta : ta < e) (htb : tb < e) (htx : tx < e) (hxa : tx ≠ ta) (hxb : tx ≠ tb)
    (sx0 : s tx = .ptr b0 0) (hb0 : b0 < h.bn) (hbx : h.bx b0 = some (encCtlg x))
    (hk : ∀ a b s1 h1, a ≠ b → s1 ta = .ptr a 0 → s1 tb = .ptr b 0 → a < h1.bn → b < h1.bn → h.bn ≤ a → h.bn ≤ b → h1.bx a = some (encCtlg (openOf x)) → h1.bx b = some (encCtlg (closedOf x)) → HF h h1 (fun _ => False) (fun _ => False) → (∀ y, y ≠ ta → y ≠ tb → y < e → s1 y = s y) → Run Try.prog inr k Q s1 h1) :
    Run Try.prog inr (.c (.dreg (twoIs tx ta tb e zA zB) aft) :: k) Q s h := by
  have hb16 := hs.2.2.2
  have lx := len_encCtlg hb16
  have lo : (encCtlg (openOf x)).length = 17 := len_encCtlg (turnL_len _ _ _)
  have lc : (encCtlg (closedOf x)).length = 17 := len_encCtlg (by simp [closedOf, Ctlg.with])
  refine run_two (fun i => e + i) (fun i => match i with | 1 => .agg (encCtlg (openOf x)) | 3 => .agg (encCtlg (closedOf x)) | _ => .agg (encCtlg x)) 4 6 ta 5 7 tb 17 zA (encCtlg (openOf x)) zB (encCtlg (closedOf x)) (xA := .t (e + 1)) (xB := .t (e + 3)) rfl rfl rfl rfl (by decide) hab hA.1 hB.1 (fun i j _ _ _ _ h => by omega) (fun i _ _ => ⟨by omega, by omega⟩) hzA hzB ?_ ?_ ?_ ?_
  · intro a b done s1 h2 haft tw
    have h18 : s1 (e + 1) = _ := tw.li 1 (haft 1 hA.2) (by decide) (by decide) (by decide) (by decide)
    show fit 17 (s1 (e + 1)) = _
    rw [h18]
    simp [fit, lo]
  · intro a b done s1 h2 haft tw
    have h20 : s1 (e + 3) = _ := tw.li 3 (haft 3 hB.2) (by decide) (by decide) (by decide) (by decide)
    show fit 17 (s1 (e + 3)) = _
    rw [h20]
    simp [fit, lc]
  · intro i y a b done s1 h2 hy hni haft tw
    have hun : s1 tx = .ptr b0 0 := by
      rw [tw.un tx hxa hxb (fun i _ _ _ _ _ => by omega)]; exact sx0
    have hbn : b0 < h2.bn := Nat.lt_of_lt_of_le hb0 tw.hf.bn
    have hbx2 : h2.bx b0 = some (encCtlg x) := (tw.hf.bx b0 hb0 fun h => h).trans hbx
    have hld : pv (.load 17 true (.t tx)) (ev s1) h2 = some (.agg (encCtlg x)) := by
      simp [hun, hbx2, hbn, lx]
      exact List.take_of_length_le (by rw [lx]; exact Nat.le_refl _)
    have hi : i < 8 := by
      have := (List.getElem?_eq_some_iff.1 hy).1
      simpa [twoIs] using this
    have h8 : i = 0 ∨ i = 1 ∨ i = 2 ∨ i = 3 := by simp at hni; omega
    rcases h8 with rfl | rfl | rfl | rfl
    · cases hy
      exact ⟨rfl, rfl, .pure _ _ hld⟩
    · cases hy
      have h17 : s1 (e + 0) = _ := tw.li 0 (haft 0 h1) (by decide) (by decide) (by decide) (by decide)
      refine ⟨rfl, rfl, .callF _ _ 24 [] [] _ _ rfl ?_⟩
      show SCall Try.prog 24 ([] ++ [s1 (e + 0)] ++ []) h2 _ h2
      rw [h17]
      exact opened_ok x hs h2
    · cases hy
      exact ⟨rfl, rfl, .pure _ _ hld⟩
    · cases hy
      have h19 : s1 (e + 2) = _ := tw.li 2 (haft 2 h3) (by decide) (by decide) (by decide) (by decide)
      refine ⟨rfl, rfl, .callF _ _ 32 [] [] _ _ rfl ?_⟩
      show SCall Try.prog 32 ([] ++ [s1 (e + 2)] ++ []) h2 _ h2
      rw [h19]
      exact closed_ok x hs h2
  · intro a b s1 h2 q1 q2 q3 q4 q5 q6 q7 q8 q9 q10 q11
    exact hk a b s1 h2 q1 q2 q3 q4 q5 q6 q7 q8 q9 q10 fun y y1 y2 y3 => q11 y y1 y2 fun i _ _ => by omega

def alive0 : Ctlg := ⟨[⟨⟨#[97]⟩, 0, List.replicate 3 ⟨[⟨5, 0, 0, 0, ⟨0, 0⟩, ⟨0, 0⟩, 0⟩], []⟩, List.replicate 3 ⟨[], []⟩, false⟩], List.replicate 16 0⟩
theorem alive0_wf : alive0.wf := by
  refine ⟨⟨by decide, ?_⟩, by decide, ?_⟩
  · intro y hy
    simp only [alive0, List.mem_singleton] at hy
    subst hy
    refine ⟨by decide, by simp [inI], ⟨by decide, ?_⟩, by decide, ?_⟩
    · intro y hy
      obtain rfl := List.eq_of_mem_replicate hy
      refine ⟨⟨by decide, ?_⟩, by decide, by simp⟩
      intro y hy
      simp only [List.mem_singleton] at hy
      subst hy
      simp [Inst.wf, KeyT.wf, inI]
    · intro y hy
      obtain rfl := List.eq_of_mem_replicate hy
      exact ⟨⟨by decide, by simp⟩, by decide, by simp⟩
  · intro y hy
    simp only [alive0, List.mem_replicate] at hy
    obtain ⟨_, rfl⟩ := hy
    simp [inI]
theorem alive0_may : catMay alive0 = true := by decide

theorem alive12_ok : PCall Try.prog 36 [] (.bool true) := by
  refine PCall.run hb36 ok36 (by simp) (by simp) (.bool _) ?_
  have hs := (catMay_small alive0_wf alive0_may).1
  have hom := open_may alive0_wf alive0_may
  have how := open_wf alive0_wf alive0_may
  have hol := len_encCtlg how.2.1
  have hcnt : (openOf alive0).cntB = 2 := by decide
  have hbk : (openOf alive0).brkAt 0 0 1 = true := by decide
  simp -implicitDefEqProofs []
  refine run_dreg c36_d3 ?_
  simp -implicitDefEqProofs []
  refine ⟨.sl .full (List.replicate 3 [.sl .full [], .sl .full []]), fun h => .mkval 2 48 _ _ _ .i64 .i64 3 rfl rfl (by omega) (by omega), ?_⟩
  simp -implicitDefEqProofs [H.nil]
  refine callQ_p (opened_ok alive0 hs) (by simp [encCtlg, alive0, encCls, encStp, encInst]) ?_
  have htk : List.take 17 (encCtlg (openOf alive0)) = encCtlg (openOf alive0) := List.take_of_length_le (by rw [hol]; exact Nat.le_refl _)
  simp -implicitDefEqProofs [hol, htk]
  refine callQ_p (catMayP_ok (openOf alive0) how) (by simp) ?_
  simp -implicitDefEqProofs [hom, hol, htk]
  refine callQ_p (breaks_ok (openOf alive0) how hom) (by simp) ?_
  simp -implicitDefEqProofs [hcnt, hol, htk]
  refine callQ_p (break_ok (openOf alive0) (open_good hs (catMay_small alive0_wf alive0_may).2) (c := 0) (d := 0) (i := 1) (by simp [inI]) (by simp [inI]) (by simp [inI])) (by simp) ?_
  simp -implicitDefEqProofs [hbk]
end Go.Proofs

/- The law of catalogues that are opened and closed. -/
namespace Go.Proofs
open Go Go.RowKit Go.Am

def Ctlg.cI (x : Ctlg) (c d i : Nat) : Nat := sumN (x.one c d) i
def Ctlg.cD (x : Ctlg) (c d : Nat) : Nat := sumN (fun d => x.cI c d 4) d
def Ctlg.cC (x : Ctlg) (c : Nat) : Nat := sumN (fun c => x.cD c x.classes.length) c
theorem cI_le (x : Ctlg) (c d i : Nat) : x.cI c d i ≤ i := by
  have := sumN_bound (f := x.one c d) (m := 1) (fun j => by simp only [Ctlg.one]; split <;> omega) i
  simpa [Ctlg.cI] using this
theorem cD_le (x : Ctlg) (c d : Nat) : x.cD c d ≤ 4 * d := sumN_bound (fun j => cI_le x c j 4) d
theorem cC_le (x : Ctlg) (c : Nat) : x.cC c ≤ 4 * x.classes.length * c := sumN_bound (fun j => cD_le x j _) c

set_option maxHeartbeats 1000000 in
set_option maxRecDepth 4000 in
theorem catOpen_ok (x : Ctlg) (hx : x.wf) : PCall Try.prog 9 [.agg (encCtlg x)] (.bool true) := by
  refine PCall.run hb9 ok9 (by simp) (pures1 (.agg (pure_encCtlg x))) (.bool _) ?_
  have htk := x.take16 hx.2.1
  have hbl := hx.2.1
  simp -implicitDefEqProofs [encCtlg, H.nil]
  refine callQ_p alive12_ok (by simp) ?_
  simp -implicitDefEqProofs [htk, hbl]
  refine callQ_p (refCatMay_ok x hx) (by simp [encCtlg]) ?_
  cases hm : catMay x
  · simp -implicitDefEqProofs []
  obtain ⟨hs, hg⟩ := catMay_small hx hm
  have hom := open_may hx hm
  have how := open_wf hx hm
  have hog := open_good hs hg
  have hcm := closed_may (x := x) hm
  have hcw := closed_wf hx hm
  have hcg := closed_good hs hg
  have lx := len_encCtlg hbl
  have lo := len_encCtlg how.2.1
  have lc := len_encCtlg hcw.2.1
  have tx : List.take 17 (encCtlg x) = encCtlg x := List.take_of_length_le (by rw [lx]; exact Nat.le_refl _)
  have to : List.take 17 (encCtlg (openOf x)) = encCtlg (openOf x) := List.take_of_length_le (by rw [lo]; exact Nat.le_refl _)
  have tc : List.take 17 (encCtlg (closedOf x)) = encCtlg (closedOf x) := List.take_of_length_le (by rw [lc]; exact Nat.le_refl _)
  have n4 := hs.2.1
  simp -implicitDefEqProofs []
  refine two_cats x hs (tx := 1) (ta := 3) (tb := 4) (e := 17) (b0 := 0) rfl rfl (by decide) (by decide) (by decide) (by decide) (by decide) (by decide) (by decide) (by decide) (by decide) (by decide) (by simp) (by simp) (by simp [encCtlg]) ?_
  intro a b s1 h1 hab sa sb ha hb ha0 hb0 hbxa hbxb hf hs1
  have s1' : s1 1 = .ptr 0 0 := by rw [hs1 1 (by decide) (by decide) (by decide)]; simp
  have h0 : 0 < h1.bn := Nat.lt_of_lt_of_le (by simp) hf.bn
  have hx0 : h1.bx 0 = some (encCtlg x) := by rw [hf.bx 0 (by simp) (fun h => h)]; simp [encCtlg]
  clear hs1 hf
  have hd1 : List.take 1 (encCtlg x) = [.sl .no (x.classes.map encCls)] := by simp [encCtlg]
  simp -implicitDefEqProofs [s1', h0, hx0, lx, hd1]
  refine run_loop (fun n s h => ∃ c : Nat, n = x.classes.length - c ∧ c ≤ x.classes.length ∧ h = h1 ∧ s 1 = .ptr 0 0 ∧ s 3 = .ptr a 0 ∧ s 4 = .ptr b 0 ∧ s 7 = .int .i64 x.classes.length ∧ s 5 = .int .i64 ((openOf x).cC c : Nat) ∧ s 6 = .int .i64 (x.cC c : Nat) ∧ s 8 = .int .i64 c) ?_ x.classes.length ?_
  rotate_left
  · exact ⟨0, by simp [s1', sa, sb, Ctlg.cC, sumN]⟩
  rintro n s h ⟨c, hn, hc, rfl, t1, t3, t4, t7, t5, t6, t8⟩ ih
  have hcc := cC_le x c
  have hcc2 := cC_le (openOf x) c
  have hln : (openOf x).classes.length = x.classes.length := rfl
  have hcc3 : 4 * x.classes.length * c ≤ 64 := Nat.le_trans (Nat.mul_le_mul (Nat.mul_le_mul (Nat.le_refl 4) n4) (Nat.le_trans hc n4)) (by decide)
  rw [hln] at hcc2
  by_cases hlc : c < x.classes.length
  · have hsl := hs.2.2.1 _ (List.getElem_mem hlc)
    simp -implicitDefEqProofs [t7, t8, hlc]
    refine run_loop (fun n s h' => ∃ d : Nat, n = x.classes.length - d ∧ d ≤ x.classes.length ∧ h' = h ∧ s 1 = .ptr 0 0 ∧ s 3 = .ptr a 0 ∧ s 4 = .ptr b 0 ∧ s 7 = .int .i64 x.classes.length ∧ s 5 = .int .i64 ((openOf x).cC c + (openOf x).cD c d : Nat) ∧ s 6 = .int .i64 (x.cC c + x.cD c d : Nat) ∧ s 8 = .int .i64 c ∧ s 9 = .int .i64 d) ?_ x.classes.length ?_
    rotate_left
    · exact ⟨0, by simp [t1, t3, t4, t5, t6, t7, t8, Ctlg.cD, sumN]⟩
    rintro n s h' ⟨d, hn, hd, rfl, t1, t3, t4, t7, t5, t6, t8, t9⟩ ih2
    have hdd := cD_le x c d
    have hdd2 := cD_le (openOf x) c d
    by_cases hld : d < x.classes.length
    · simp -implicitDefEqProofs [t7, t9, hld]
      refine run_loop (fun n s h => ∃ i : Nat, n = 4 - i ∧ i ≤ 4 ∧ h = h' ∧ s 1 = .ptr 0 0 ∧ s 3 = .ptr a 0 ∧ s 4 = .ptr b 0 ∧ s 7 = .int .i64 x.classes.length ∧ s 5 = .int .i64 ((openOf x).cC c + (openOf x).cD c d + (openOf x).cI c d i : Nat) ∧ s 6 = .int .i64 (x.cC c + x.cD c d + x.cI c d i : Nat) ∧ s 8 = .int .i64 c ∧ s 9 = .int .i64 d ∧ s 10 = .int .i64 i) ?_ 4 ?_
      rotate_left
      · exact ⟨0, by simp [t1, t3, t4, t5, t6, t7, t8, t9, Ctlg.cI, sumN]⟩
      rintro n s h ⟨i, hn, hi, rfl, t1, t3, t4, t7, t5, t6, t8, t9, t10⟩ ih3
      have hii := cI_le x c d i
      have hii2 := cI_le (openOf x) c d i
      by_cases hli : i < 4
      · have hop := open_at hs hlc hld i
        have hcl := closed_at x c d i
        have oc : inI (c : Int) := by simp only [inI]; omega
        have od : inI (d : Int) := by simp only [inI]; omega
        have oi : inI (i : Int) := by simp only [inI]; omega
        simp -implicitDefEqProofs [t1, t8, t10, h0, hx0, lx, hd1, hlc, encCls, show (i : Int) < 4 by omega, inc_i64 hli (show 4 ≤ _ by omega), -Int.natCast_add]
        simp -implicitDefEqProofs [t3, t9, ha, hbxa, lo, to]
        refine callQ_p (break_ok (openOf x) hog oc od oi) (by simp) ?_
        simp -implicitDefEqProofs [hop, t4, t8, t9, t10, hb, hbxb, lc, tc]
        refine callQ_p (break_ok (closedOf x) hcg oc od oi) (by simp) ?_
        have hst1 : (openOf x).cI c d (i + 1) = (openOf x).cI c d i + if i + 1 < x.classes[c].steps.length then 1 else 0 := by
          rw [Ctlg.cI, sumN, Ctlg.cI, Ctlg.one, hop]; simp
        have hst2 : x.cI c d (i + 1) = x.cI c d i + if x.brkAt c d i = true then 1 else 0 := rfl
        have hw1 : IntKind.i64.wrap (((((openOf x).cC c + (openOf x).cD c d + (openOf x).cI c d i : Nat)) : Int) + 1) = (((openOf x).cC c + (openOf x).cD c d + (openOf x).cI c d i + 1 : Nat) : Int) := by rw [wrap_i64] <;> omega
        have hw2 : IntKind.i64.wrap ((((x.cC c + x.cD c d + x.cI c d i : Nat)) : Int) + 1) = ((x.cC c + x.cD c d + x.cI c d i + 1 : Nat) : Int) := by rw [wrap_i64] <;> omega
        by_cases his : i + 1 < x.classes[c].steps.length
        · rw [if_pos his] at hst1
          simp -implicitDefEqProofs [hcl, his, t5, hw1, -Int.natCast_add]
          simp -implicitDefEqProofs [t1, t8, t9, t10, h0, hx0, lx, tx]
          refine callQ_p (refBreak_ok x hx hg.nn oc od oi) (by simp) ?_
          cases hbk : x.brkAt c d i
          · rw [hbk] at hst2
            simp -implicitDefEqProofs [t10, inc_i64 hli (show 4 ≤ _ by omega), -Int.natCast_add]
            exact ih3 (4 - (i + 1)) _ _ (by omega) ⟨i + 1, rfl, by omega, rfl, by simp [t1], by simp [t3], by simp [t4], by simp [t7], by simp [hst1]; omega, by simp [hst2, t6], by simp [t8], by simp [t9], by simp⟩
          · rw [hbk] at hst2
            simp -implicitDefEqProofs [t6, hw2, t10, inc_i64 hli (show 4 ≤ _ by omega), -Int.natCast_add]
            exact ih3 (4 - (i + 1)) _ _ (by omega) ⟨i + 1, rfl, by omega, rfl, by simp [t1], by simp [t3], by simp [t4], by simp [t7], by simp [hst1]; omega, by simp [hst2]; omega, by simp [t8], by simp [t9], by simp⟩
        · rw [if_neg his] at hst1
          simp -implicitDefEqProofs [hcl, his]
          simp -implicitDefEqProofs [t1, t8, t9, t10, h0, hx0, lx, tx]
          refine callQ_p (refBreak_ok x hx hg.nn oc od oi) (by simp) ?_
          cases hbk : x.brkAt c d i
          · rw [hbk] at hst2
            simp -implicitDefEqProofs [t10, inc_i64 hli (show 4 ≤ _ by omega), -Int.natCast_add]
            exact ih3 (4 - (i + 1)) _ _ (by omega) ⟨i + 1, rfl, by omega, rfl, by simp [t1], by simp [t3], by simp [t4], by simp [t7], by simp [hst1, t5], by simp [hst2, t6], by simp [t8], by simp [t9], by simp⟩
          · rw [hbk] at hst2
            simp -implicitDefEqProofs [t6, hw2, t10, inc_i64 hli (show 4 ≤ _ by omega), -Int.natCast_add]
            exact ih3 (4 - (i + 1)) _ _ (by omega) ⟨i + 1, rfl, by omega, rfl, by simp [t1], by simp [t3], by simp [t4], by simp [t7], by simp [hst1, t5], by simp [hst2]; omega, by simp [t8], by simp [t9], by simp⟩
      · obtain rfl : i = 4 := by omega
        have e1 : (openOf x).cD c (d + 1) = (openOf x).cD c d + (openOf x).cI c d 4 := rfl
        have e2 : x.cD c (d + 1) = x.cD c d + x.cI c d 4 := rfl
        simp -implicitDefEqProofs [t9, t10, inc_i64 hld (show _ ≤ _ by omega), -Int.natCast_add]
        exact ih2 (x.classes.length - (d + 1)) _ _ (by omega) ⟨d + 1, rfl, by omega, rfl, by simp [t1], by simp [t3], by simp [t4], by simp [t7], by simp [e1, t5]; omega, by simp [e2, t6]; omega, by simp [t8], by simp⟩
    · obtain rfl : d = x.classes.length := by omega
      have e1 : (openOf x).cC (c + 1) = (openOf x).cC c + (openOf x).cD c x.classes.length := rfl
      have e2 : x.cC (c + 1) = x.cC c + x.cD c x.classes.length := rfl
      simp -implicitDefEqProofs [t7, t8, t9, inc_i64 hlc (show _ ≤ _ by omega), -Int.natCast_add]
      exact ih (x.classes.length - (c + 1)) _ _ (by omega) ⟨c + 1, rfl, by omega, rfl, by simp [t1], by simp [t3], by simp [t4], by simp [t7], by simp [e1, t5], by simp [e2, t6], by simp⟩
  · obtain rfl : c = x.classes.length := by omega
    have n1 : (openOf x).cC x.classes.length = (openOf x).cntB := (cnt_one how hom).symm
    have n2 : x.cC x.classes.length = x.cntB := (cnt_one hx hm).symm
    rw [n1] at t5
    rw [n2] at t6
    simp -implicitDefEqProofs [t7, t8]
    simp -implicitDefEqProofs [t3, ha, hbxa, lo, to]
    refine callQ_p (catMayP_ok (openOf x) how) (by simp) ?_
    simp -implicitDefEqProofs [hom, t4, hb, hbxb, lc, tc]
    refine callQ_p (catMayP_ok (closedOf x) hcw) (by simp) ?_
    simp -implicitDefEqProofs [hcm, t3, ha, hbxa, lo, to]
    refine callQ_p (breaks_ok (openOf x) how hom) (by simp) ?_
    simp -implicitDefEqProofs [t5, t4, hb, hbxb, lc, tc]
    refine callQ_p (breaks_ok (closedOf x) hcw hcm) (by simp) ?_
    simp -implicitDefEqProofs [closed_cnt, t1, h0, hx0, lx, tx]
    refine callQ_p (breaks_ok x hx hm) (by simp) ?_
    simp -implicitDefEqProofs [t6]
end Go.Proofs

/- The law of catalogues that are finer. -/
namespace Go.Proofs
open Go Go.RowKit Go.Am

theorem open_closed (x : Ctlg) : openOf (closedOf x) = openOf x := rfl
theorem closed_open (x : Ctlg) : closedOf (openOf x) = closedOf x := rfl

set_option maxHeartbeats 1000000 in
set_option maxRecDepth 4000 in
theorem catFiner_ok (x : Ctlg) (c d i : Int) (hx : x.wf) (oc : inI c) (od : inI d) (oi : inI i) : PCall Try.prog 10 [.agg (encCtlg x), .int .i64 c, .int .i64 d, .int .i64 i] (.bool true) := by
  refine PCall.run hb10 ok10 (by simp) (pures_cons (.agg (pure_encCtlg x)) (pures_cons (.int _ _) (pures_cons (.int _ _) (pures1 (.int _ _))))) (.bool _) ?_
  have htk := x.take16 hx.2.1
  have hbl := hx.2.1
  simp -implicitDefEqProofs [encCtlg, H.nil]
  refine callQ_p alive12_ok (by simp) ?_
  simp -implicitDefEqProofs [htk, hbl]
  refine callQ_p (refCatMay_ok x hx) (by simp [encCtlg]) ?_
  cases hm : catMay x
  · simp -implicitDefEqProofs []
  obtain ⟨hs, hg⟩ := catMay_small hx hm
  have hom := open_may hx hm
  have how := open_wf hx hm
  have hog := open_good hs hg
  have hcm := closed_may (x := x) hm
  have hcw := closed_wf hx hm
  have hcg := closed_good hs hg
  have hsc := (catMay_small hcw hcm).1
  have hso := (catMay_small how hom).1
  have lx := len_encCtlg hbl
  have lo := len_encCtlg how.2.1
  have lc := len_encCtlg hcw.2.1
  have tx : List.take 17 (encCtlg x) = encCtlg x := List.take_of_length_le (by rw [lx]; exact Nat.le_refl _)
  have to : List.take 17 (encCtlg (openOf x)) = encCtlg (openOf x) := List.take_of_length_le (by rw [lo]; exact Nat.le_refl _)
  have tc : List.take 17 (encCtlg (closedOf x)) = encCtlg (closedOf x) := List.take_of_length_le (by rw [lc]; exact Nat.le_refl _)
  have hle := cnt_open hx hm
  have hle0 : (closedOf x).cntB ≤ x.cntB := by rw [closed_cnt]; exact Nat.zero_le _
  simp -implicitDefEqProofs []
  refine two_cats x hs (tx := 4) (ta := 9) (tb := 10) (e := 16) (b0 := 0) rfl rfl (by decide) (by decide) (by decide) (by decide) (by decide) (by decide) (by decide) (by decide) (by decide) (by decide) (by simp) (by simp) (by simp [encCtlg]) ?_
  intro a b s1 h1 hab sa sb ha hb ha0 hb0 hbxa hbxb hf hs1
  have s4 : s1 4 = .ptr 0 0 := by rw [hs1 4 (by decide) (by decide) (by decide)]; simp
  have t1 : s1 1 = .int .i64 c := by rw [hs1 1 (by decide) (by decide) (by decide)]; simp
  have t2 : s1 2 = .int .i64 d := by rw [hs1 2 (by decide) (by decide) (by decide)]; simp
  have t3 : s1 3 = .int .i64 i := by rw [hs1 3 (by decide) (by decide) (by decide)]; simp
  have h0 : 0 < h1.bn := Nat.lt_of_lt_of_le (by simp) hf.bn
  have hx0 : h1.bx 0 = some (encCtlg x) := by rw [hf.bx 0 (by simp) (fun h => h)]; simp [encCtlg]
  clear hs1 hf
  simp -implicitDefEqProofs [s4, t1, t2, t3, h0, hx0, lx, tx]
  refine callQ_p (break_ok x hg oc od oi) (by simp) ?_
  cases hbk : x.brkAt c d i
  focus
    simp -implicitDefEqProofs [sb, t1, t2, t3, hb, hbxb, lc, tc]
    refine callQ_p (break_ok (closedOf x) hcg oc od oi) (by simp) ?_
    simp -implicitDefEqProofs [closed_none]
  rotate_left
  focus
    have hbo := brk_open hs hbk
    simp -implicitDefEqProofs [sa, t1, t2, t3, ha, hbxa, lo, to]
    refine callQ_p (break_ok (openOf x) hog oc od oi) (by simp) ?_
    simp -implicitDefEqProofs [hbo, sb, t1, t2, t3, hb, hbxb, lc, tc]
    refine callQ_p (break_ok (closedOf x) hcg oc od oi) (by simp) ?_
    simp -implicitDefEqProofs [closed_none]
  all_goals
    refine run_dregL c10_d9 rfl ?_
    simp -implicitDefEqProofs [sb, hb, hbxb, lc, tc]
    refine callC_p (breaks_ok (closedOf x) hcw hcm) (by simp) ?_
    simp -implicitDefEqProofs [s4, h0, hx0, lx, tx]
    refine callC_p (breaks_ok x hx hm) (by simp) ?_
    simp -implicitDefEqProofs [s4, h0, hx0, lx, tx, hle0]
    refine callC_p (breaks_ok x hx hm) (by simp) ?_
    simp -implicitDefEqProofs [sa, ha, hbxa, lo, to]
    refine callC_p (breaks_ok (openOf x) how hom) (by simp) ?_
    simp -implicitDefEqProofs [hle, sb, hb, hbxb, lc, tc]
    refine callC_p (opened_ok (closedOf x) hsc) (by simp) ?_
    rw [open_closed]
    simp -implicitDefEqProofs [sa, ha, hbxa, lo, to]
    refine callC_p (same12_ok (openOf x) how) (by simp) ?_
    simp -implicitDefEqProofs [sa, ha, hbxa, lo, to]
    refine callC_p (closed_ok (openOf x) hso) (by simp) ?_
    rw [closed_open]
    simp -implicitDefEqProofs [sb, hb, hbxb, lc, tc]
    refine callC_p (same12_ok (closedOf x) hcw) (by simp) ?_
    simp -implicitDefEqProofs []
end Go.Proofs
