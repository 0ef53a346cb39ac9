/- What the functions that the statement reaches do: their contracts; and what follows of it. -/
import Derived.Test.YtejbnedogieocaaGreatSCatWords8
import Derived.Test.YtejbnedogieocaaGreatSCatWords11
/- How many breakpoints there are: the program's answer. -/
namespace Go.Proofs
open Go Go.RowKit Go.Am

theorem ones64_ok (v : Nat) (hv : v < 8) : PCall Tryz.prog 63 [.int .u64 v] (.int .i64 (popc v)) := by
  refine PCall.run hb63 ok63 (by simp) (pures1 (.int _ _)) (.int _ _) ?_
  have h8 : v = 0 ∨ v = 1 ∨ v = 2 ∨ v = 3 ∨ v = 4 ∨ v = 5 ∨ v = 6 ∨ v = 7 := by omega
  rcases h8 with rfl | rfl | rfl | rfl | rfl | rfl | rfl | rfl <;> (simp -implicitDefEqProofs []; decide +kernel)
theorem ones_ok (v : Nat) (hv : v < 8) : PCall Tryz.prog 37 [.int .u64 v] (.int .i64 (popc v)) := by
  refine PCall.run hb37 ok37 (by simp) (pures1 (.int _ _)) (.int _ _) ?_
  simp -implicitDefEqProofs []
  refine callQ_p (ones64_ok v hv) (by simp) ?_
  simp -implicitDefEqProofs []

theorem cnt_flat (f : Nat → Nat → Nat) {n : Nat} (hn : n ≤ 4) : sumN (fun k => f (k / n) (k % n)) (n * n) = sumN (fun c => sumN (fun d => f c d) n) n := by
  have h5 : n = 0 ∨ n = 1 ∨ n = 2 ∨ n = 3 ∨ n = 4 := by omega
  rcases h5 with rfl | rfl | rfl | rfl | rfl <;> simp [sumN] <;> omega
theorem div_mod_of {n c d : Nat} (hd : d < n) : (c * n + d) / n = c ∧ (c * n + d) % n = d := by
  constructor
  · rw [Nat.mul_comm, Nat.mul_add_div (by omega), Nat.div_eq_of_lt hd, Nat.add_zero]
  · rw [Nat.mul_comm, Nat.mul_add_mod, Nat.mod_eq_of_lt hd]

theorem breaks_ok (x : Ctlg) (hx : x.wf) (hm : catMay x = true) : PCall Tryz.prog 17 [.agg (encCtlg x)] (.int .i64 x.cntB) := by
  refine PCall.run hb17 ok17 (by simp) (pures1 (.agg (pure_encCtlg x))) (.int _ _) ?_
  have htk := x.take16 hx.2.1
  obtain ⟨hsm, hg⟩ := catMay_small hx hm
  have hbl := hx.2.1
  have n4 := hsm.2.1
  simp -implicitDefEqProofs [encCtlg, H.nil]
  simp -implicitDefEqProofs [htk, hbl]
  refine callQ_s (pairs_ok x hbl _) (by simp [encCtlg]) ?_
  simp -implicitDefEqProofs []
  generalize hS : (su _ 7 _ : Slots) = S
  have s1 : S 1 = .ptr 0 0 := by rw [← hS]; simp
  have s3 : S 3 = .ptr 1 0 := by rw [← hS]; simp
  have s7 : S 7 = .fn 46 [] [.ptr 2 0] := by rw [← hS]; simp
  clear hS
  let q0 : LoopA := ⟨S, [8, 9], c17_x7, c17_y8, .ready, none⟩
  let g : Nat → Nat := fun k => x.pcB (k / x.classes.length) (k % x.classes.length)
  let J : Nat → H → Prop := fun k h1 => 0 < h1.ln ∧ h1.lp 0 = some q0 ∧ 3 ≤ h1.bn ∧ h1.bx 0 = some (encCtlg x) ∧ h1.bx 1 = some [.int .i64 (sumN g k : Nat)] ∧ h1.bx 2 = some (encCtlg x)
  refine .rngf (Z := fun _ h1 => J (x.classes.length * x.classes.length) h1) (F := 46) (first := []) (caps := [.ptr 2 0]) rfl (by simpa using s7) (pairs1_ok x n4 J (fun k h' ⟨_, _, q1, _, _, q2⟩ => ⟨by omega, q2⟩) ?_ ?_) ?_ ?_
  · rintro c d h' hc hd ⟨j1, j2, j3, j4, j5, j6⟩ K hK
    have j4' := j4
    rw [encCtlg] at j4
    have hbk := Ctlg.brk_load (x := x) (.sl .no (x.classes.map encCls)) hbl (show c < 4 by omega) (show d < 4 by omega)
    obtain ⟨m0, m1⟩ := may_brk hm c d (by omega) (by omega)
    rw [Ctlg.mostB, if_pos ⟨hc, hd⟩, Ctlg.stepsN_of hc] at m1
    have hcs := hsm.2.2.1 _ (List.getElem_mem hc)
    have hk3 : x.classes[c].steps.length - 1 ≤ 3 := by have := hcs.2.1; omega
    have ha := and_low (x.brk c d) hk3
    rw [Int.emod_eq_of_lt m0 m1] at ha
    obtain ⟨v, hv⟩ := Int.eq_ofNat_of_zero_le m0
    have hv8 : v < 8 := by
      have : (2 : Int) ^ (x.classes[c].steps.length - 1) ≤ 8 := by
        have h4 : x.classes[c].steps.length - 1 = 0 ∨ x.classes[c].steps.length - 1 = 1 ∨ x.classes[c].steps.length - 1 = 2 ∨ x.classes[c].steps.length - 1 = 3 := by omega
        rcases h4 with e | e | e | e <;> rw [e] <;> decide
      omega
    have hgk : g (c * x.classes.length + d) = popc v := by
      obtain ⟨e1, e2⟩ := div_mod_of (c := c) hd
      show x.pcB _ _ = _
      rw [e1, e2, Ctlg.pcB, hv, Int.toNat_natCast]
    have hsum : sumN g (c * x.classes.length + d + 1) = sumN g (c * x.classes.length + d) + popc v := by rw [sumN, hgk]
    have hbd : sumN g (c * x.classes.length + d) ≤ 3 * (c * x.classes.length + d) := sumN_bound (fun j => popc_le _) _
    have hcd : c * x.classes.length + d ≤ 16 := by
      have : c * x.classes.length ≤ 3 * 4 := Nat.mul_le_mul (by omega) n4
      omega
    have hpv := popc_le v
    have hadd : IntKind.i64.wrap (((sumN g (c * x.classes.length + d) : Nat) : Int) + ((popc v : Nat) : Int)) = ((sumN g (c * x.classes.length + d + 1) : Nat) : Int) := by
      rw [wrap_i64] <;> omega
    refine callQ_y (q := q0) j1 j2 rfl ?_
    simp -implicitDefEqProofs [slotsP, j1, j2, q0]
    refine run_dreg c17_d6 ?_
    rw [hv] at ha hbk
    have ha2 : IntKind.i64.wrap ((v % 2 ^ IntKind.i64.bits &&& ((2 ^ (x.classes[c].steps.length - 1) - 1 : Int) % 2 ^ IntKind.i64.bits).toNat : Nat) : Int) = (v : Int) := by
      have e : (((v : Nat) : Int) % 2 ^ IntKind.i64.bits).toNat = v % 2 ^ IntKind.i64.bits := by
        have hb : IntKind.i64.bits = 64 := rfl
        rw [hb]
        omega
      rw [← e]
      exact ha
    simp -implicitDefEqProofs [s1, s3, j4, j5, hc, hbk, hbl, show 0 < h'.bn by omega, show 1 < h'.bn by omega, show (c : Int) < 4 by omega, show (d : Int) < 4 by omega, show 1 + c * 4 + d + 1 ≤ 16 + 1 by omega]
    refine lcallQ_p (all_ok x.classes[c] hcs) (by simp) ?_
    simp -implicitDefEqProofs [Cls.all, ha2, wrap_u64 (show (0 : Int) ≤ (v : Int) by omega) (show (v : Int) ≤ _ by omega)]
    refine lcallQ_p (ones_ok v hv8) (by simp) ?_
    simp -implicitDefEqProofs [s3, j4, j5, hadd, roundQ, j1, show 0 < h'.bn by omega, show 1 < h'.bn by omega, hbk, hbl, show 1 + c * 4 + d + 1 ≤ 16 + 1 by omega]
    exact hK _ ⟨by simpa using j1, by simp [q0], by simpa using j3, by simp [encCtlg, j4], by simp, by simp [j6]⟩
  · exact ⟨by simp, by simp [q0], by simp, by simp [encCtlg], by simp [sumN], by simp [encCtlg]⟩
  · rintro v h2 ⟨j1, j2, _⟩
    exact ⟨j1, _, j2, by simp [q0]⟩
  · rintro v h2 q ⟨j1, j2, j3, j4, j5, j6⟩ hq
    replace hq : h2.lp 0 = some q := hq
    rw [j2] at hq
    cases hq
    rw [show g = fun k => x.pcB (k / x.classes.length) (k % x.classes.length) from rfl, cnt_flat x.pcB n4] at j5
    simp -implicitDefEqProofs [pendK, q0, s3, j5, show 1 < h2.bn by omega, Ctlg.cntB]
end Go.Proofs

/- A catalogue opened and closed side by side; the chapter's own first look. -/
namespace Go.Proofs
open Go Go.RowKit Go.Am

theorem len_encCtlg {x : Ctlg} (h : x.breaks.length = 16) : (encCtlg x).length = 17 := by simp [encCtlg, h]
def alive0 : Ctlg := ⟨[⟨⟨#[97]⟩, 0, List.replicate 3 ⟨[⟨5, 0, 0, 0, ⟨0, 0⟩, ⟨0, 0⟩, 0⟩], []⟩, List.replicate 3 ⟨[], []⟩, false⟩], List.replicate 16 0⟩
theorem alive0_wf : alive0.wf := by
  refine ⟨⟨by decide, ?_⟩, by decide, ?_⟩
  · intro y hy
    simp only [alive0, List.mem_singleton] at hy
    subst hy
    refine ⟨by decide, by simp [inI], ⟨by decide, ?_⟩, by decide, ?_⟩
    · intro y hy
      obtain rfl := List.eq_of_mem_replicate hy
      refine ⟨⟨by decide, ?_⟩, by decide, by simp⟩
      intro y hy
      simp only [List.mem_singleton] at hy
      subst hy
      simp [Inst.wf, KeyT.wf, inI]
    · intro y hy
      obtain rfl := List.eq_of_mem_replicate hy
      exact ⟨⟨by decide, by simp⟩, by decide, by simp⟩
  · intro y hy
    simp only [alive0, List.mem_replicate] at hy
    obtain ⟨_, rfl⟩ := hy
    simp [inI]
theorem alive0_may : catMay alive0 = true := by decide

theorem alive12_ok : PCall Tryz.prog 4 [] (.bool true) := by
  refine PCall.run hb4 ok4 (by simp) (by simp) (.bool _) ?_
  have hs := (catMay_small alive0_wf alive0_may).1
  have hom := open_may alive0_wf alive0_may
  have how := open_wf alive0_wf alive0_may
  have hol := len_encCtlg how.2.1
  have hcnt : (openOf alive0).cntB = 2 := by decide
  have hbk : (openOf alive0).brkAt 0 0 1 = true := by decide
  simp -implicitDefEqProofs []
  refine run_dreg c4_d3 ?_
  simp -implicitDefEqProofs []
  refine ⟨.sl .full (List.replicate 3 [.sl .full [], .sl .full []]), fun h => .mkval 2 48 _ _ _ .i64 .i64 3 rfl rfl (by omega) (by omega), ?_⟩
  simp -implicitDefEqProofs [H.nil]
  refine callQ_p (opened_ok alive0 hs) (by simp [encCtlg, alive0, encCls, encStp, encInst]) ?_
  have htk : List.take 17 (encCtlg (openOf alive0)) = encCtlg (openOf alive0) := List.take_of_length_le (by rw [hol]; exact Nat.le_refl _)
  simp -implicitDefEqProofs [hol, htk]
  refine callQ_p (catMayP_ok (openOf alive0) how) (by simp) ?_
  simp -implicitDefEqProofs [hom, hol, htk]
  refine callQ_p (breaks_ok (openOf alive0) how hom) (by simp) ?_
  simp -implicitDefEqProofs [hcnt, hol, htk]
  refine callQ_p (break_ok (openOf alive0) (open_good hs (catMay_small alive0_wf alive0_may).2) (c := 0) (d := 0) (i := 1) (by simp [inI]) (by simp [inI]) (by simp [inI])) (by simp) ?_
  simp -implicitDefEqProofs [hbk]
end Go.Proofs

/- The law of what is written of a catalogue. -/
namespace Go.Proofs
open Go Go.RowKit Go.Am

set_option maxHeartbeats 1000000 in
set_option maxRecDepth 4000 in
theorem catWords_ok (x : Ctlg) (hx : x.wf) : PCall Tryz.prog 3 [.agg (encCtlg x)] (.bool true) := by
  refine PCall.run hb3 ok3 (by simp) (pures1 (.agg (pure_encCtlg x))) (.bool _) ?_
  have lc : (encCtlg x).length = 17 := len_encCtlg hx.2.1
  have tc : List.take 17 (encCtlg x) = encCtlg x := List.take_of_length_le (by rw [lc]; exact Nat.le_refl _)
  simp -implicitDefEqProofs [H.nil]
  refine callQ_p alive12_ok (by simp) ?_
  simp -implicitDefEqProofs [lc, tc]
  refine callQ_p (refCatMay_ok x hx) (by simp) ?_
  cases hm : catMay x
  · simp -implicitDefEqProofs []
  have hit := it_cat hx hm
  have hil := catI_len hm
  generalize hW : writeAll (catItems x) = W
  have hWl : W.length ≤ 102 * 4100 := by
    rw [← hW]
    exact Nat.le_trans (writeAll_len _ fun y hy => by rw [(hit y hy).2]; exact Nat.zero_le _) (Nat.mul_le_mul_left _ hil)
  have hWw : ∀ w ∈ W, w < 18446744073709551616 := fun w hw => by
    rw [← hW] at hw
    exact writeAll_less (fun y hy => ⟨(hit y hy).1, by rw [(hit y hy).2]; simp⟩) w hw
  have hbk : catR (some W) = some (x, []) := by
    have := back_cat hx hm []
    rw [hW, List.append_nil] at this
    simp [catR, this, hm]
  simp -implicitDefEqProofs [lc, tc]
  refine callW (catPut_ok (b := 1) (t := .full) (ws := []) ⟨by simp, by simp, trivial⟩ x hx hm (by simp)) (by simp) fun r h1 t1 q1 => ?_
  rw [List.nil_append, hW] at q1
  have e0 : h1.bx 0 = some (encCtlg x) := by rw [q1.keep.bx 0 (by simp) (fun e => by cases e)]; simp
  have n1 : 1 < h1.bn := q1.wb.lt
  simp -implicitDefEqProofs []
  refine callQ_s (done_ok q1.wb (by omega)) (by simp) ?_
  simp -implicitDefEqProofs []
  refine callQ_s (newReader_ok W h1) (by simp) ?_
  have hbd : Bd (some W) := fun l e => by cases e; exact ⟨by omega, hWw⟩
  have ri := RIs.new hbd h1
  simp -implicitDefEqProofs []
  have g1 := catGet_rd ri
  refine callQ_s g1.call (by simp) ?_
  have hv : catRV (some W) = .tup [.agg (encCtlg x), .bool true] := by simp [catRV, hbk]
  have hs : catRS (some W) = some [] := by simp [catRS, hbk]
  rw [hv, hs]
  simp -implicitDefEqProofs [lc]
  generalize hX : (H.set _ (h1.bn + 1) _ : H) = X
  have x0 : X.bx 0 = some (encCtlg x) := by rw [← hX]; simp [show ¬ 0 = h1.bn by omega, e0]
  have x1 : X.bx (h1.bn + 1) = some (encCtlg x) := by rw [← hX]; simp
  have xr : X.bx h1.bn = some (encRS (some [])) := by rw [← hX]; simp
  have xw : X.bx 1 = some [.sl t1 (W.map w64)] := by rw [← hX]; simp [show ¬ 1 = h1.bn by omega, show ¬ h1.bn = 0 by omega, q1.wb.bx]
  have xl : TLive X t1 W.length := by rw [← hX]; simpa using q1.wb.live
  have xn : X.bn = h1.bn + 2 := by rw [← hX]; simp
  clear hX
  have wbX : WB X 1 t1 W := ⟨by omega, xw, xl⟩
  have riX : RIs X h1.bn (some []) := ⟨by omega, xr, fun l e => by cases e; exact ⟨by simp, by simp⟩⟩
  have m0 : 0 < X.bn := by omega
  have m1 : h1.bn + 1 < X.bn := by omega
  refine run_dreg c3_d10 ?_
  simp -implicitDefEqProofs []
  refine callD_s (done_ok wbX (by omega)) (by simp) ?_
  simp -implicitDefEqProofs [x0, m0, lc, tc]
  refine lcallQ_p (refCatItems_ok x hx hm) (by simp) ?_
  simp -implicitDefEqProofs []
  refine lcallQ_p (refWords_ok (catItems x) (by omega) fun y hy => ⟨(hit y hy).1, by rw [(hit y hy).2]; exact Nat.zero_le _⟩) (by simp [encIs]) ?_
  rw [hW]
  simp -implicitDefEqProofs []
  refine lcallQ_p (words_ok W W (by omega) (by omega)) (by simp) ?_
  simp -implicitDefEqProofs []
  refine callD_s (rEnd_ok riX) (by simp) ?_
  simp -implicitDefEqProofs [x0, x1, m0, m1, lc, tc, endS]
  refine lcallQ_p (same12_ok x hx) (by simp) ?_
  simp -implicitDefEqProofs [x0, x1, m0, m1, lc, tc]
end Go.Proofs
