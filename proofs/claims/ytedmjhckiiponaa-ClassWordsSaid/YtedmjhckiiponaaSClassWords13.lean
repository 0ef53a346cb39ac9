/- What the functions that the statement reaches do: their contracts; and what follows of it. -/
import Derived.Test.YtedmjhckiiponaaSClassWords12
import Derived.Test.YtedmjhckiiponaaSClassWords8
/- The document's reader of classes. -/
namespace Go.Proofs
open Go Go.RowKit Go.Am

set_option maxHeartbeats 2000000 in
theorem refClassGet_rd {h : H} {b : Nat} {s : RS} (hr : RIs h b s) : RdX 44 [.ptr b 0] h b (clsRV s) (clsRS s) := by
  refine RdX.mk' hr (clsRS_bd hr.bd) (pure_clsRV s) (CallP.run hb44 ok44 (by simp) ?_)
  have hb := hr.blt
  have z0 : ¬ h.bn = b := by omega
  have z1 : ¬ h.bn + 1 = b := by omega
  have z2 : ¬ b = h.bn := by omega
  have z3 : ¬ b = h.bn + 1 := by omega
  have k0 := RTo.al (RTo.al (RTo.refl hr) [.str ⟨#[]⟩, .int .i64 0, .sl .full [], .sl .full [], .bool false]) [.str ⟨#[]⟩, .int .i64 0, .sl .full [], .sl .full [], .bool false]
  simp -implicitDefEqProofs []
  refine callQ_item rdText ⟨#[]⟩ (·.s) (by simp [inI]) k0.is (item_text s) (by simp) fun v1 s1 _ _ q1 g1 => ?_
  have k1 := (k0.trans q1).so (b' := h.bn + 1) (Nat.le_succ _) hb [.str v1.s, .int .i64 0, .sl .full [], .sl .full [], .bool false]
  simp -implicitDefEqProofs [encI, z1]
  refine callQ_item (rdCount 3) 0 (·.n) (by simp [inI]) k1.is (item_count 3 s1) (by simp) fun v2 s2 _ _ q2 g2 => ?_
  have k2 := (k1.trans q2).so (b' := h.bn + 1) (Nat.le_succ _) hb [.str v1.s, .int .i64 v2.n, .sl .full [], .sl .full [], .bool false]
  simp -implicitDefEqProofs [encI, z1]
  refine callQ_item (rdCount 4) 0 (·.n) (by simp [inI]) k2.is (item_count 4 s2) (by simp) fun v3 s3 e3 _ q3 g3 => ?_
  have hin := rdCount_in (most := 4) (by simp [inI]) s2
  rw [← e3] at hin
  obtain ⟨N, hNe⟩ := Int.eq_ofNat_of_zero_le hin.1
  have hN : N ≤ 4 := by omega
  rw [hNe] at g3
  have k3 := k2.trans q3
  simp -implicitDefEqProofs [encI, hNe]
  generalize hname : v1.s = name at *
  generalize hargs : v2.n = args at *
  refine run_loop (fun m S h1 => ∃ (j : Nat) (sj : RS) (L : List (Stp × Stp)) (t t' : Tok), m = N - j ∧ j ≤ N ∧ S 0 = .ptr b 0 ∧ S 2 = .ptr h.bn 0 ∧ S 4 = .ptr (h.bn + 1) 0 ∧ S 5 = .int .i64 N ∧ S 6 = .int .i64 j ∧ CLoop h b s3 name args j h1 sj L t t') ?_ N ?_
  rotate_left
  · exact ⟨0, s3, [], .full, .full, rfl, Nat.zero_le _, by simp, by simp, by simp, by simp, by simp, ⟨k3, Got.pure _ _, rfl, by simp [z1, clsCells], by simp [z0], by simp, trivial, trivial, TNew.full _, TNew.full _, fun i h => by cases h⟩⟩
  clear k3 k2 k1 k0 q3 q2 q1
  rintro m S h1 ⟨j, sj, L, t, t', hm, hj, t0, t2, t4, t5, t6, hL⟩ ih
  have hbn : h.bn ≤ h1.bn := hL.to.keep.bn
  have hn1 := hL.bn
  have hbx := hL.bx
  rw [clsCells] at hbx
  have hb1 : b < h1.bn := by omega
  by_cases hlt : j < N
  · have y0 : ¬ b = h1.bn := by omega
    have y1 : ¬ h1.bn = b := by omega
    have y2 : ¬ h1.bn + 1 = b := by omega
    have y3 : ¬ h.bn + 1 = h1.bn := by omega
    have y4 : ¬ h.bn + 1 = h1.bn + 1 := by omega
    have y5 : h.bn + 1 < h1.bn + 1 + 1 := by omega
    have y6 : ¬ h.bn = h1.bn := by omega
    have y7 : ¬ h.bn = h1.bn + 1 := by omega
    have k0 := RTo.al (RTo.al (RTo.refl hL.to.is) [.sl .full [], .sl .full []]) [.sl .full [], .sl .full []]
    simp -implicitDefEqProofs [t0, t5, t6, hlt]
    refine callQ_r (refProgGet_rd k0.is).q (by simp) fun c1 u1 q1 g1 => ?_
    have k1 := (k0.trans q1).so (b' := h1.bn) (Nat.le_refl _) hb1 [.sl .no (c1.map encInst), .sl .full []]
    simp -implicitDefEqProofs [t0, y1]
    refine callQ_r (refFootGet_rd k1.is).q (by simp) fun f1 u2 q2 g2 => ?_
    have k2 := (k1.trans q2).so (b' := h1.bn) (Nat.le_refl _) hb1 [.sl .no (c1.map encInst), .sl .no (f1.map encSpanT)]
    simp -implicitDefEqProofs [t0, y1]
    refine callQ_r (refProgGet_rd k2.is).q (by simp) fun c2 u3 q3 g3 => ?_
    have k3 := (k2.trans q3).so (b' := h1.bn + 1) (Nat.le_succ _) hb1 [.sl .no (c2.map encInst), .sl .full []]
    simp -implicitDefEqProofs [t0, y2]
    refine callQ_r (refFootGet_rd k3.is).q (by simp) fun f2 u4 q4 g4 => ?_
    have k4 := (k3.trans q4).so (b' := h1.bn + 1) (Nat.le_succ _) hb1 [.sl .no (c2.map encInst), .sl .no (f2.map encSpanT)]
    have kk := hL.to.trans k4
    have y8 : h.bn < h1.bn + 1 := by omega
    simp -implicitDefEqProofs [t4, y1, y2, y3, y5, y6, z1, hbx]
    refine appQ_tok (t := t) (es := L.map (fun p : Stp × Stp => encStp p.1)) (es2 := [encStp ⟨c1, f1⟩]) (by simpa [hL.len] using hL.live) (fun e he => by obtain ⟨p, _, rfl⟩ := List.mem_map.1 he; rfl) (by simp [srcA, encStp]) (by simp [hL.len]; omega) fun ta h3 p1 p2 p3 p4 => ?_
    have e3 : h3.bx (h.bn + 1) = some [.str name, .int .i64 args, .sl t (L.map fun p => encStp p.1), .sl t' (L.map fun p => encStp p.2), .bool false] := by rw [p3.bx _ (by simp; omega) (fun h => h)]; simp [y3, y6, z1, hbx]
    have e8 : h3.bx (h1.bn + 1) = some [.sl .no (c2.map encInst), .sl .no (f2.map encSpanT)] := by rw [p3.bx _ (by simp) (fun h => h)]; simp
    have e0 : h3.bx h.bn = some [.str ⟨#[]⟩, .int .i64 0, .sl .full [], .sl .full [], .bool false] := by rw [p3.bx _ (by simp; omega) (fun h => h)]; simp [y6, y7, z0, hL.b0]
    have n3 : h1.bn + 1 < h3.bn := by rw [p4]; simp
    have n3b : h.bn + 1 < h3.bn := by omega
    have l3 : TLive h3 t' j := by
      refine TLive.keep p3 (t := t') (n := j) ?_ fun i hi ho => hL.apart i ho hi
      simpa using hL.live'
    have a3 : TApart ta t' := by
      refine (TApart.next (n := j) ?_ hL.apart.symm p2).symm
      simpa using hL.live'
    have k5 := (kk.app hL.new p3).so (b' := h.bn + 1) (Nat.le_succ _) hb [.str name, .int .i64 args, .sl ta (L.map (fun p : Stp × Stp => encStp p.1) ++ [encStp ⟨c1, f1⟩]), .sl t' (L.map fun p => encStp p.2), .bool false]
    have y9 : ¬ h1.bn = h.bn := by omega
    simp -implicitDefEqProofs [t4, e3, e8, n3, n3b, y9]
    refine appQ_tok (t := t') (es := L.map (fun p : Stp × Stp => encStp p.2)) (es2 := [encStp ⟨c2, f2⟩]) (by simpa [hL.len] using l3) (fun e he => by obtain ⟨p, _, rfl⟩ := List.mem_map.1 he; rfl) (by simp [srcA, encStp]) (by simp [hL.len]; omega) fun tb h4 r1 r2 r3 r4 => ?_
    have e4 : h4.bx (h.bn + 1) = some [.str name, .int .i64 args, .sl ta (L.map (fun p : Stp × Stp => encStp p.1) ++ [encStp ⟨c1, f1⟩]), .sl t' (L.map fun p => encStp p.2), .bool false] := by rw [r3.bx _ (by simpa using n3b) (fun h => h)]; simp [encStp]
    rw [encStp] at e4
    have e5 : h4.bx h.bn = some [.str ⟨#[]⟩, .int .i64 0, .sl .full [], .sl .full [], .bool false] := by rw [r3.bx _ (by simp; omega) (fun h => h)]; simp [e0]
    have n4 : h.bn + 1 < h4.bn := by rw [r4]; exact n3b
    simp -implicitDefEqProofs [t4, t6, e4, n4, inc_i64 hlt (show N ≤ _ by omega), -Int.natCast_add]
    have k6 := (k5.app hL.new' r3).so (b' := h.bn + 1) (Nat.le_succ _) hb (clsCells name args ta tb (L ++ [(⟨c1, f1⟩, ⟨c2, f2⟩)]) false)
    have lta : TLive h3 ta (j + 1) := by simpa [hL.len] using p1
    have lta4 : TLive h4 ta (j + 1) := by
      refine TLive.keep r3 (t := ta) (n := j + 1) ?_ fun i hi ho => a3 i hi ho
      simpa using lta
    have ltb4 : TLive h4 tb (j + 1) := by simpa [hL.len] using r1
    have aab : TApart ta tb := by
      refine TApart.next (n := j + 1) ?_ a3 r2
      simpa using lta
    have gg : Got rdPair sj (⟨c1, f1⟩, ⟨c2, f2⟩) u4 := ((g1.bind (g2.bind (Got.pure _ _))) : Got rdStp sj ⟨c1, f1⟩ u2).bind (((g3.bind (g4.bind (Got.pure _ _))) : Got rdStp u2 ⟨c2, f2⟩ u4).bind (Got.pure _ _))
    rw [clsCells, List.map_append, List.map_append] at k6
    exact ih (N - (j + 1)) _ _ (by omega) ⟨j + 1, _, L ++ [(⟨c1, f1⟩, ⟨c2, f2⟩)], ta, tb, rfl, by omega, by simp [t0], by simp [t2], by simp [t4], by simp [t5], by simp, ⟨k6, hL.got.bind (gg.bind (Got.pure _ _)), by simp [hL.len], by simp [clsCells, encStp], by simp [e5], by simpa using n4, by simpa using lta4, by simpa using ltb4, hL.new.next kk.keep p2, hL.new'.next k5.keep r2, aab⟩⟩
  · obtain rfl : j = N := by omega
    have b0 := hL.b0
    simp -implicitDefEqProofs [t0, t5, t6]
    refine callQ_item rdFlag false (fun y => decide (y.n = 1)) (by simp [inI]) hL.to.is (item_flag sj) (by simp) fun v5 s5 _ _ q5 g5 => ?_
    generalize hfl : decide (v5.n = 1) = fl at g5
    have k6 := (hL.to.trans q5).so (b' := h.bn + 1) (Nat.le_succ _) hb (clsCells name args t t' L fl)
    rw [clsCells] at k6
    have hgc : Got rdCls s ⟨name, args, L.map (·.1), L.map (·.2), fl⟩ s5 := g1.bind (g2.bind (g3.bind ((by rw [Int.toNat_natCast]; exact hL.got : Got (Rd.rep rdPair (j : Int).toNat) s3 L sj).bind (g5.bind (Got.pure _ _)))))
    simp -implicitDefEqProofs [t0, t4, hn1, hbx, z1, z3, encI, hfl, len_encRS, show b < h1.bn by omega]
    have hc0 : ∀ (c0 : clsR s = none), clsRV s = .tup [.agg [.str ⟨#[]⟩, .int .i64 0, .sl .no [], .sl .no [], .bool false], .bool false] := fun c0 => by simp [clsRV, c0, cls0, encCls]
    have hs0 : ∀ (c0 : clsR s = none), clsRS s = none := fun c0 => by simp [clsRS, c0]
    have w1 : b < h1.bn := by omega
    have w2 : h.bn < h1.bn := by omega
    cases s5 with
    | none =>
      have hcn := clsR_none hgc
      have hrv := hc0 hcn
      have hrs := hs0 hcn
      simp -implicitDefEqProofs [encRS, t0, t2, z0, z3, b0, w1, w2, hrv, hrs]
      exact RFin.so (RFin.bad (v := .any1) (k6.keep.trans (HF.set _ rfl)) (by simp)) (Nat.le_refl _) hb _
    | some l =>
      have hcs := clsR_some hgc
      have hwf := Got.all rdCls_all hr.bd hgc
      simp -implicitDefEqProofs [encRS, t4, hn1]
      refine callQ_p (refClsMay_ok _ hwf) (by simp [encCls, Function.comp_def]) ?_
      cases hcm : clsMay ⟨name, args, L.map (·.1), L.map (·.2), fl⟩
      · have hcn : clsR s = none := by rw [hcs, hcm]; rfl
        have hrv := hc0 hcn
        have hrs := hs0 hcn
        simp -implicitDefEqProofs [t0, t2, z0, z3, b0, w1, w2, hrv, hrs]
        exact RFin.so (RFin.bad (v := encW l) (k6.keep.trans (HF.set _ rfl)) (by simp)) (Nat.le_refl _) hb _
      · have hcy : clsR s = some (⟨name, args, L.map (·.1), L.map (·.2), fl⟩, l) := by rw [hcs, hcm]; rfl
        have hrv : clsRV s = .tup [.agg (encCls ⟨name, args, L.map (·.1), L.map (·.2), fl⟩), .bool true] := by simp [clsRV, hcy]
        have hrs : clsRS s = some l := by simp [clsRS, hcy]
        simp -implicitDefEqProofs [t2, t4, hn1, z0, b0, hrv, hrs, w2]
        exact ⟨by simp [encCls, Function.comp_def], (k6.so (Nat.le_refl _) hb _).fin⟩
end Go.Proofs

/- The law of what is read as a class. -/
namespace Go.Proofs
open Go Go.RowKit Go.Am

def aliveK : Cls := ⟨⟨#[97]⟩, 0, [⟨[⟨5, 0, 0, 0, ⟨0, 0⟩, ⟨0, 0⟩, 0⟩], []⟩], [⟨[], []⟩], false⟩
theorem aliveK_wf : aliveK.wf := by
  refine ⟨by decide, by simp [inI, aliveK], ⟨by decide, ?_⟩, by decide, ?_⟩
  · intro y hy
    simp only [aliveK, List.mem_singleton] at hy
    subst hy
    refine ⟨⟨by decide, ?_⟩, by decide, by simp⟩
    intro y hy
    simp only [List.mem_singleton] at hy
    subst hy
    simp [Inst.wf, KeyT.wf, inI]
  · intro y hy
    simp only [aliveK, List.mem_singleton] at hy
    subst hy
    exact ⟨⟨by decide, by simp⟩, by decide, by simp⟩
theorem alive11_ok : PCall Try.prog 42 [] (.bool true) := by
  refine PCall.run hb42 ok42 (by simp) (by simp) (.bool _) ?_
  have hm : clsMay aliveK = true := by decide
  simp -implicitDefEqProofs []
  refine callQ_p (classMay_ok aliveK aliveK_wf) (by simp [encCls, aliveK, encStp, encInst]) ?_
  simp -implicitDefEqProofs [hm]

theorem clsR_wf {s : RS} (hs : Bd s) {c : Cls} {l : List Nat} (h : clsR s = some (c, l)) : c.wf := by
  simp only [clsR, Option.bind_eq_some_iff] at h
  obtain ⟨x, ⟨l0, h1, h2⟩, h3⟩ := h
  split at h3
  · cases h3
    exact rdCls_all l0 c l (hs l0 h1).2 h2
  · cases h3
theorem cls0_wf : cls0.wf := ⟨by decide, by simp [inI, cls0], ⟨by decide, by simp [cls0]⟩, by decide, by simp [cls0]⟩

set_option maxRecDepth 4000 in
theorem classReads_ok (ws : List Nat) (hw : ws.length ≤ 9223372036854775807 ∧ ∀ w ∈ ws, w < 18446744073709551616) : PCall Try.prog 11 [encW ws] (.bool true) := by
  refine PCall.run hb11 ok11 (by simp) (pures1 (pure_w64 ws)) (.bool _) ?_
  simp -implicitDefEqProofs [H.nil]
  refine callQ_p alive11_ok (by simp) ?_
  by_cases h800 : (800 : Int) < ws.length
  · simp -implicitDefEqProofs [h800]
  have hbd : Bd (some ws) := fun l e => by cases e; exact ⟨by omega, hw.2⟩
  simp -implicitDefEqProofs [h800]
  refine callQ_s (newReader_ok ws _) (by simp) ?_
  simp -implicitDefEqProofs [encRS]
  have r0 : RIs (((⟨0, fun _ => none, 0, fun _ => 0, 0, fun _ => none, 0, fun _ => none⟩ : H).alloc [.sl .no (ws.map w64), .bool false]).alloc [.sl .no (ws.map w64), .bool false]) 0 (some ws) := ⟨by simp, by simp [encRS], hbd⟩
  have g1 := classGet_rd r0
  refine callQ_s g1.call (by simp) ?_
  obtain ⟨c, is, s', hv, hs, hcw, his⟩ : ∃ c is s', clsRV (some ws) = .tup [.agg (encCls c), .bool is] ∧ clsRS (some ws) = s' ∧ c.wf ∧ is = s'.isSome := by
    cases hq : clsR (some ws) with
    | none => exact ⟨cls0, false, none, by simp [clsRV, hq], by simp [clsRS, hq], cls0_wf, rfl⟩
    | some x => exact ⟨x.1, true, some x.2, by simp [clsRV, hq], by simp [clsRS, hq], clsR_wf hbd hq, rfl⟩
  have b0 := g1.to.is.bd
  rw [hs] at b0
  have lc : (encCls c).length = 5 := rfl
  have tc : List.take 5 (encCls c) = encCls c := rfl
  simp -implicitDefEqProofs [hv, hs, lc]
  have g2 := fun (X : H) (r1 : RIs X 1 (some ws)) => refClassGet_rd r1
  refine callQ_s (g2 _ ⟨by simp, by simp [encRS], hbd⟩).call (by simp) ?_
  rw [hv, hs]
  simp -implicitDefEqProofs [lc]
  generalize hX : (H.set _ 3 _ : H) = X
  have e0 : X.bx 0 = some (encRS s') := by rw [← hX]; simp
  have e1 : X.bx 1 = some (encRS s') := by rw [← hX]; simp
  have e2 : X.bx 2 = some (encCls c) := by rw [← hX]; simp
  have e3 : X.bx 3 = some (encCls c) := by rw [← hX]; simp
  have n0 : 4 ≤ X.bn := by rw [← hX]; simp
  clear hX
  have ri : RIs X 0 s' := ⟨by omega, e0, b0⟩
  have m0 : 0 < X.bn := by omega
  have m1 : 1 < X.bn := by omega
  have m2 : 2 < X.bn := by omega
  have m3 : 3 < X.bn := by omega
  refine run_dreg c11_d9 ?_
  simp -implicitDefEqProofs [e2, e3, m2, m3, lc, tc]
  refine lcallQ_p (same11_ok c hcw) (by simp) ?_
  cases s' with
  | none =>
    rw [encRS] at e0 e1
    simp -implicitDefEqProofs []
    refine callD_s (rOk_ok ri) (by simp) ?_
    simp -implicitDefEqProofs [e1, m1]
    refine callD_s (rEnd_ok ri) (by simp) ?_
    simp -implicitDefEqProofs [e1, e2, e3, m1, m2, m3, lc, tc, endS]
  | some l =>
    rw [encRS] at e0 e1
    simp -implicitDefEqProofs []
    refine callD_s (rOk_ok ri) (by simp) ?_
    simp -implicitDefEqProofs [e1, m1]
    refine callD_s (rEnd_ok ri) (by simp) ?_
    cases l with
    | nil => simp -implicitDefEqProofs [e1, e2, e3, m1, m2, m3, lc, tc, endS]
    | cons w l => simp -implicitDefEqProofs [e1, e2, e3, m1, m2, m3, lc, tc, endS, show ¬ (l.length : Int) + 1 = 0 by omega]
end Go.Proofs

/- The law of what is written of a class. -/
namespace Go.Proofs
open Go Go.RowKit Go.Am

theorem writeW_less {x : Item} (hx : x.ok) (hw : ∀ w ∈ x.l, w < 18446744073709551616) : ∀ w ∈ writeW x, w < 18446744073709551616 := fun w h => by
  obtain ⟨⟨n1, n2⟩, ⟨x1, x2⟩, s1, l1⟩ := hx
  unfold writeW at h
  split at h
  · simp at h; omega
  split at h
  · simp at h; subst h; exact signed_lt x1 x2
  split at h
  · simp at h; subst h; split <;> omega
  split at h
  · simp only [textW, List.mem_cons] at h
    rcases h with rfl | h
    · have := cut64_size x.s; omega
    · exact packed_lt _ w h
  · simp only [List.mem_cons] at h
    rcases h with rfl | h
    · omega
    · exact hw w h
theorem writeAll_less {l : List Item} (h : ∀ x ∈ l, x.ok ∧ ∀ w ∈ x.l, w < 18446744073709551616) : ∀ w ∈ writeAll l, w < 18446744073709551616 := fun w hw => by
  obtain ⟨x, hx, hw⟩ := List.mem_flatMap.1 hw
  exact writeW_less (h x hx).1 (h x hx).2 w hw

def itOK (x : Item) : Prop := x.ok ∧ x.l = []
theorem it_N {n most : Int} (h : inI n) : itOK (iN n most) := ⟨⟨h, by simp [inI, iN], Nat.zero_le _, Nat.zero_le _⟩, rfl⟩
theorem it_X {x : Int} (h : inI x) : itOK (iX x) := ⟨⟨by simp [inI, iX], h, Nat.zero_le _, Nat.zero_le _⟩, rfl⟩
theorem it_F (r : Bool) : itOK (iF r) := ⟨⟨by cases r <;> simp [inI, iF], by simp [inI, iF], Nat.zero_le _, Nat.zero_le _⟩, rfl⟩
theorem it_S {s : ByteArray} (h : s.size ≤ 1000) : itOK (iS s) := ⟨⟨by simp [inI, iS], by simp [inI, iS], h, Nat.zero_le _⟩, rfl⟩
theorem it_keys {k : KeyT} (h : k.wf) : ∀ x ∈ keyItems k, itOK x := fun x hx => by
  simp only [keyItems, List.mem_cons, List.not_mem_nil, or_false] at hx
  rcases hx with rfl | rfl
  · exact it_X h.1
  · exact it_N h.2
theorem it_inst {y : Inst} (h : y.wf) : ∀ x ∈ instItems y, itOK x := fun x hx => by
  obtain ⟨h1, h2, h3, h4, h5, h6, h7⟩ := h
  simp only [instItems, List.mem_append, List.mem_cons, List.not_mem_nil, or_false] at hx
  rcases hx with ((rfl | rfl | rfl | rfl) | hx | hx) | rfl
  · exact it_N h1
  · exact it_N h2
  · exact it_N h3
  · exact it_N h4
  · exact it_keys h5 x hx
  · exact it_keys h6 x hx
  · exact it_X h7
theorem it_span {y : SpanT} (h : y.wf) : ∀ x ∈ spanItems y, itOK x := fun x hx => by
  simp only [spanItems, List.mem_append, List.mem_cons, List.not_mem_nil, or_false] at hx
  rcases hx with (hx | hx) | rfl
  · exact it_keys h.1 x hx
  · exact it_keys h.2 x hx
  · exact it_F _
theorem it_stp {s : Stp} (h : s.wf) : ∀ x ∈ stpItems s, itOK x := fun x hx => by
  obtain ⟨⟨h1, h2⟩, h3, h4⟩ := h
  simp only [maxLen] at h1 h3
  simp only [stpItems, progItems, footItems, List.mem_append, List.mem_cons, List.mem_flatMap] at hx
  rcases hx with (rfl | ⟨y, hy, hx⟩) | (rfl | ⟨y, hy, hx⟩)
  · exact it_N (by simp only [inI]; omega)
  · exact it_inst (h2 y hy) x hx
  · exact it_N (by simp only [inI]; omega)
  · exact it_span (h4 y hy) x hx
theorem it_cls {c : Cls} (h : c.wf) (hm : clsMay c = true) : ∀ x ∈ clsItems c, itOK x := fun x hx => by
  obtain ⟨hwn, hwa, ⟨hsl, hsw⟩, hcl, hcw⟩ := h
  have hn : c.name.size ≤ 16 := by
    simp only [clsMay, Bool.and_eq_true, Bool.not_eq_true', decide_eq_false_iff_not] at hm; omega
  simp only [maxLen] at hsl
  simp only [clsItems, List.mem_append, List.mem_cons, List.not_mem_nil, or_false, List.mem_flatMap] at hx
  rcases hx with ((rfl | rfl | rfl) | ⟨p, hp, hx⟩) | rfl
  · exact it_S (by omega)
  · exact it_N hwa
  · exact it_N (by simp only [inI]; omega)
  · have h1 := (List.of_mem_zip hp)
    rcases hx with hx | hx
    · exact it_stp (hsw _ h1.1) x hx
    · exact it_stp (hcw _ h1.2) x hx
  · exact it_F _
theorem clsI_len {c : Cls} (hm : clsMay c = true) : (clsItems c).length ≤ 1000 := by
  obtain ⟨c0, c4, hcs, css, csc⟩ := clsMay_small hm
  have key : ∀ l : List (Stp × Stp), (∀ p ∈ l, p.1.small ∧ p.2.small) → (l.flatMap pairItems).length ≤ 188 * l.length := fun l => by
    induction l with
    | nil => intro _; exact Nat.le_refl _
    | cons p l ih =>
      intro h
      have h1 := ih fun q hq => h q (List.mem_cons_of_mem _ hq)
      obtain ⟨s1, s2⟩ := h p (List.mem_cons_self ..)
      have e1 := stpI_n _ s1
      have e2 := stpI_n _ s2
      rw [List.flatMap_cons, List.length_append, pairItems, List.length_append, List.length_cons]
      omega
  have h1 := key (c.steps.zip c.comps) fun p hp => ⟨css _ (List.of_mem_zip hp).1, csc _ (List.of_mem_zip hp).2⟩
  have hz : (c.steps.zip c.comps).length = c.steps.length := by simp [hcs]
  have e1 : clsItems c = [iS c.name, iN c.args 3, iN c.steps.length 4] ++ (c.steps.zip c.comps).flatMap pairItems ++ [iF c.resume] := rfl
  rw [e1, List.length_append, List.length_append]
  simp only [List.length_cons, List.length_nil]
  omega

set_option maxHeartbeats 1000000 in
set_option maxRecDepth 4000 in
theorem classWords_ok (c : Cls) (hc : c.wf) : PCall Try.prog 13 [.agg (encCls c)] (.bool true) := by
  refine PCall.run hb13 ok13 (by simp) (pures1 (.agg (pure_encCls c))) (.bool _) ?_
  have lc : (encCls c).length = 5 := rfl
  have tc : List.take 5 (encCls c) = encCls c := rfl
  simp -implicitDefEqProofs [H.nil]
  refine callQ_p alive11_ok (by simp) ?_
  simp -implicitDefEqProofs [lc, tc]
  refine callQ_p (refClsMay_ok c hc) (by simp) ?_
  cases hm : clsMay c
  · simp -implicitDefEqProofs []
  have hit := it_cls hc hm
  have hil := clsI_len hm
  generalize hW : writeAll (clsItems c) = W
  have hWl : W.length ≤ 102 * 1000 := by
    rw [← hW]
    exact Nat.le_trans (writeAll_len _ fun x hx => by rw [(hit x hx).2]; exact Nat.zero_le _) (Nat.mul_le_mul_left _ hil)
  have hWw : ∀ w ∈ W, w < 18446744073709551616 := fun w hw => by
    rw [← hW] at hw
    exact writeAll_less (fun x hx => ⟨(hit x hx).1, by rw [(hit x hx).2]; simp⟩) w hw
  have hbk : clsR (some W) = some (c, []) := by
    have := back_cls hm []
    rw [hW, List.append_nil] at this
    simp [clsR, this, hm]
  simp -implicitDefEqProofs [lc, tc]
  refine callW (classPut_ok (b := 1) (t := .full) (ws := []) ⟨by simp, by simp, trivial⟩ c hc hm (by simp)) (by simp) fun r h1 t1 q1 => ?_
  rw [List.nil_append, hW] at q1
  have e0 : h1.bx 0 = some (encCls c) := by rw [q1.keep.bx 0 (by simp) (fun e => by cases e)]; simp
  have n1 : 1 < h1.bn := q1.wb.lt
  simp -implicitDefEqProofs []
  refine callQ_s (done_ok q1.wb (by omega)) (by simp) ?_
  simp -implicitDefEqProofs []
  refine callQ_s (newReader_ok W h1) (by simp) ?_
  have hbd : Bd (some W) := fun l e => by cases e; exact ⟨by omega, hWw⟩
  have ri := RIs.new hbd h1
  simp -implicitDefEqProofs []
  have g1 := classGet_rd ri
  refine callQ_s g1.call (by simp) ?_
  have hv : clsRV (some W) = .tup [.agg (encCls c), .bool true] := by simp [clsRV, hbk]
  have hs : clsRS (some W) = some [] := by simp [clsRS, hbk]
  have ri2 := g1.to.is
  rw [hs] at ri2
  rw [hv, hs]
  simp -implicitDefEqProofs [lc]
  have z2 : ¬ h1.bn = h1.bn + 1 := by omega
  generalize hX : (H.set _ (h1.bn + 1) _ : H) = X
  have x0 : X.bx 0 = some (encCls c) := by rw [← hX]; simp [show ¬ 0 = h1.bn by omega, e0]
  have x1 : X.bx (h1.bn + 1) = some (encCls c) := by rw [← hX]; simp
  have xr : X.bx h1.bn = some (encRS (some [])) := by rw [← hX]; simp
  have xw : X.bx 1 = some [.sl t1 (W.map w64)] := by rw [← hX]; simp [show ¬ 1 = h1.bn by omega, show ¬ h1.bn = 0 by omega, q1.wb.bx]
  have xl : TLive X t1 W.length := by rw [← hX]; simpa using q1.wb.live
  have xn : X.bn = h1.bn + 2 := by rw [← hX]; simp
  clear hX
  have wbX : WB X 1 t1 W := ⟨by omega, xw, xl⟩
  have riX : RIs X h1.bn (some []) := ⟨by omega, xr, fun l e => by cases e; exact ⟨by simp, by simp⟩⟩
  have m0 : 0 < X.bn := by omega
  have m1 : h1.bn + 1 < X.bn := by omega
  refine run_dreg c13_d10 ?_
  simp -implicitDefEqProofs []
  refine callD_s (done_ok wbX (by omega)) (by simp) ?_
  simp -implicitDefEqProofs [x0, m0, lc, tc]
  refine lcallQ_p (refClsItems_ok c hm) (by simp) ?_
  simp -implicitDefEqProofs []
  refine lcallQ_p (refWords_ok (clsItems c) (by omega) fun x hx => ⟨(hit x hx).1, by rw [(hit x hx).2]; exact Nat.zero_le _⟩) (by simp [encIs]) ?_
  rw [hW]
  simp -implicitDefEqProofs []
  refine lcallQ_p (words_ok W W (by omega) (by omega)) (by simp) ?_
  simp -implicitDefEqProofs []
  refine callD_s (rEnd_ok riX) (by simp) ?_
  simp -implicitDefEqProofs [x0, x1, m0, m1, lc, tc, endS]
  refine lcallQ_p (same11_ok c hc) (by simp) ?_
  simp -implicitDefEqProofs [x0, x1, m0, m1, lc, tc]
  refine lcallQ_p (classSame_ok c hc) (by simp) ?_
  simp -implicitDefEqProofs [x0, x1, m0, m1, lc, tc]
end Go.Proofs
