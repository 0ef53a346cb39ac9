/- What the functions that the statement reaches do: their contracts; and what follows of it. -/
import Derived.Test.YtejbnedogieocaaSCatReads10
import Derived.Test.YtejbnedogieocaaSCatReads8
import Derived.Test.YtejbnedogieocaaSCatReads9
/- The document's reader of classes. -/
namespace Go.Proofs
open Go Go.RowKit Go.Am

set_option maxHeartbeats 2000000 in
theorem refClassGet_rd {h : H} {b : Nat} {s : RS} (hr : RIs h b s) : RdX 20 [.ptr b 0] h b (clsRV s) (clsRS s) := by
  refine RdX.mk' hr (clsRS_bd hr.bd) (pure_clsRV s) (CallP.run hb20 ok20 (by simp) ?_)
  have hb := hr.blt
  have z0 : ¬ h.bn = b := by omega
  have z1 : ¬ h.bn + 1 = b := by omega
  have z2 : ¬ b = h.bn := by omega
  have z3 : ¬ b = h.bn + 1 := by omega
  have k0 := RTo.al (RTo.al (RTo.refl hr) [.str ⟨#[]⟩, .int .i64 0, .sl .full [], .sl .full [], .bool false]) [.str ⟨#[]⟩, .int .i64 0, .sl .full [], .sl .full [], .bool false]
  simp -implicitDefEqProofs []
  refine callQ_item rdText ⟨#[]⟩ (·.s) (by simp [inI]) k0.is (item_text s) (by simp) fun v1 s1 _ _ q1 g1 => ?_
  have k1 := (k0.trans q1).so (b' := h.bn + 1) (Nat.le_succ _) hb [.str v1.s, .int .i64 0, .sl .full [], .sl .full [], .bool false]
  simp -implicitDefEqProofs [encI, z1]
  refine callQ_item (rdCount 3) 0 (·.n) (by simp [inI]) k1.is (item_count 3 s1) (by simp) fun v2 s2 _ _ q2 g2 => ?_
  have k2 := (k1.trans q2).so (b' := h.bn + 1) (Nat.le_succ _) hb [.str v1.s, .int .i64 v2.n, .sl .full [], .sl .full [], .bool false]
  simp -implicitDefEqProofs [encI, z1]
  refine callQ_item (rdCount 4) 0 (·.n) (by simp [inI]) k2.is (item_count 4 s2) (by simp) fun v3 s3 e3 _ q3 g3 => ?_
  have hin := rdCount_in (most := 4) (by simp [inI]) s2
  rw [← e3] at hin
  obtain ⟨N, hNe⟩ := Int.eq_ofNat_of_zero_le hin.1
  have hN : N ≤ 4 := by omega
  rw [hNe] at g3
  have k3 := k2.trans q3
  simp -implicitDefEqProofs [encI, hNe]
  generalize hname : v1.s = name at *
  generalize hargs : v2.n = args at *
  refine run_loop (fun m S h1 => ∃ (j : Nat) (sj : RS) (L : List (Stp × Stp)) (t t' : Tok), m = N - j ∧ j ≤ N ∧ S 0 = .ptr b 0 ∧ S 2 = .ptr h.bn 0 ∧ S 4 = .ptr (h.bn + 1) 0 ∧ S 5 = .int .i64 N ∧ S 6 = .int .i64 j ∧ CLoop h b s3 name args j h1 sj L t t') ?_ N ?_
  rotate_left
  · exact ⟨0, s3, [], .full, .full, rfl, Nat.zero_le _, by simp, by simp, by simp, by simp, by simp, ⟨k3, Got.pure _ _, rfl, by simp [z1, clsCells], by simp [z0], by simp, trivial, trivial, TNew.full _, TNew.full _, fun i h => by cases h⟩⟩
  clear k3 k2 k1 k0 q3 q2 q1
  rintro m S h1 ⟨j, sj, L, t, t', hm, hj, t0, t2, t4, t5, t6, hL⟩ ih
  have hbn : h.bn ≤ h1.bn := hL.to.keep.bn
  have hn1 := hL.bn
  have hbx := hL.bx
  rw [clsCells] at hbx
  have hb1 : b < h1.bn := by omega
  by_cases hlt : j < N
  · have y0 : ¬ b = h1.bn := by omega
    have y1 : ¬ h1.bn = b := by omega
    have y2 : ¬ h1.bn + 1 = b := by omega
    have y3 : ¬ h.bn + 1 = h1.bn := by omega
    have y4 : ¬ h.bn + 1 = h1.bn + 1 := by omega
    have y5 : h.bn + 1 < h1.bn + 1 + 1 := by omega
    have y6 : ¬ h.bn = h1.bn := by omega
    have y7 : ¬ h.bn = h1.bn + 1 := by omega
    have k0 := RTo.al (RTo.al (RTo.refl hL.to.is) [.sl .full [], .sl .full []]) [.sl .full [], .sl .full []]
    simp -implicitDefEqProofs [t0, t5, t6, hlt]
    refine callQ_r (refProgGet_rd k0.is).q (by simp) fun c1 u1 q1 g1 => ?_
    have k1 := (k0.trans q1).so (b' := h1.bn) (Nat.le_refl _) hb1 [.sl .no (c1.map encInst), .sl .full []]
    simp -implicitDefEqProofs [t0, y1]
    refine callQ_r (refFootGet_rd k1.is).q (by simp) fun f1 u2 q2 g2 => ?_
    have k2 := (k1.trans q2).so (b' := h1.bn) (Nat.le_refl _) hb1 [.sl .no (c1.map encInst), .sl .no (f1.map encSpanT)]
    simp -implicitDefEqProofs [t0, y1]
    refine callQ_r (refProgGet_rd k2.is).q (by simp) fun c2 u3 q3 g3 => ?_
    have k3 := (k2.trans q3).so (b' := h1.bn + 1) (Nat.le_succ _) hb1 [.sl .no (c2.map encInst), .sl .full []]
    simp -implicitDefEqProofs [t0, y2]
    refine callQ_r (refFootGet_rd k3.is).q (by simp) fun f2 u4 q4 g4 => ?_
    have k4 := (k3.trans q4).so (b' := h1.bn + 1) (Nat.le_succ _) hb1 [.sl .no (c2.map encInst), .sl .no (f2.map encSpanT)]
    have kk := hL.to.trans k4
    have y8 : h.bn < h1.bn + 1 := by omega
    simp -implicitDefEqProofs [t4, y1, y2, y3, y5, y6, z1, hbx]
    refine appQ_tok (t := t) (es := L.map (fun p : Stp × Stp => encStp p.1)) (es2 := [encStp ⟨c1, f1⟩]) (by simpa [hL.len] using hL.live) (fun e he => by obtain ⟨p, _, rfl⟩ := List.mem_map.1 he; rfl) (by simp [srcA, encStp]) (by simp [hL.len]; omega) fun ta h3 p1 p2 p3 p4 => ?_
    have e3 : h3.bx (h.bn + 1) = some [.str name, .int .i64 args, .sl t (L.map fun p => encStp p.1), .sl t' (L.map fun p => encStp p.2), .bool false] := by rw [p3.bx _ (by simp; omega) (fun h => h)]; simp [y3, y6, z1, hbx]
    have e8 : h3.bx (h1.bn + 1) = some [.sl .no (c2.map encInst), .sl .no (f2.map encSpanT)] := by rw [p3.bx _ (by simp) (fun h => h)]; simp
    have e0 : h3.bx h.bn = some [.str ⟨#[]⟩, .int .i64 0, .sl .full [], .sl .full [], .bool false] := by rw [p3.bx _ (by simp; omega) (fun h => h)]; simp [y6, y7, z0, hL.b0]
    have n3 : h1.bn + 1 < h3.bn := by rw [p4]; simp
    have n3b : h.bn + 1 < h3.bn := by omega
    have l3 : TLive h3 t' j := by
      refine TLive.keep p3 (t := t') (n := j) ?_ fun i hi ho => hL.apart i ho hi
      simpa using hL.live'
    have a3 : TApart ta t' := by
      refine (TApart.next (n := j) ?_ hL.apart.symm p2).symm
      simpa using hL.live'
    have k5 := (kk.app hL.new p3).so (b' := h.bn + 1) (Nat.le_succ _) hb [.str name, .int .i64 args, .sl ta (L.map (fun p : Stp × Stp => encStp p.1) ++ [encStp ⟨c1, f1⟩]), .sl t' (L.map fun p => encStp p.2), .bool false]
    have y9 : ¬ h1.bn = h.bn := by omega
    simp -implicitDefEqProofs [t4, e3, e8, n3, n3b, y9]
    refine appQ_tok (t := t') (es := L.map (fun p : Stp × Stp => encStp p.2)) (es2 := [encStp ⟨c2, f2⟩]) (by simpa [hL.len] using l3) (fun e he => by obtain ⟨p, _, rfl⟩ := List.mem_map.1 he; rfl) (by simp [srcA, encStp]) (by simp [hL.len]; omega) fun tb h4 r1 r2 r3 r4 => ?_
    have e4 : h4.bx (h.bn + 1) = some [.str name, .int .i64 args, .sl ta (L.map (fun p : Stp × Stp => encStp p.1) ++ [encStp ⟨c1, f1⟩]), .sl t' (L.map fun p => encStp p.2), .bool false] := by rw [r3.bx _ (by simpa using n3b) (fun h => h)]; simp [encStp]
    rw [encStp] at e4
    have e5 : h4.bx h.bn = some [.str ⟨#[]⟩, .int .i64 0, .sl .full [], .sl .full [], .bool false] := by rw [r3.bx _ (by simp; omega) (fun h => h)]; simp [e0]
    have n4 : h.bn + 1 < h4.bn := by rw [r4]; exact n3b
    simp -implicitDefEqProofs [t4, t6, e4, n4, inc_i64 hlt (show N ≤ _ by omega), -Int.natCast_add]
    have k6 := (k5.app hL.new' r3).so (b' := h.bn + 1) (Nat.le_succ _) hb (clsCells name args ta tb (L ++ [(⟨c1, f1⟩, ⟨c2, f2⟩)]) false)
    have lta : TLive h3 ta (j + 1) := by simpa [hL.len] using p1
    have lta4 : TLive h4 ta (j + 1) := by
      refine TLive.keep r3 (t := ta) (n := j + 1) ?_ fun i hi ho => a3 i hi ho
      simpa using lta
    have ltb4 : TLive h4 tb (j + 1) := by simpa [hL.len] using r1
    have aab : TApart ta tb := by
      refine TApart.next (n := j + 1) ?_ a3 r2
      simpa using lta
    have gg : Got rdPair sj (⟨c1, f1⟩, ⟨c2, f2⟩) u4 := ((g1.bind (g2.bind (Got.pure _ _))) : Got rdStp sj ⟨c1, f1⟩ u2).bind (((g3.bind (g4.bind (Got.pure _ _))) : Got rdStp u2 ⟨c2, f2⟩ u4).bind (Got.pure _ _))
    rw [clsCells, List.map_append, List.map_append] at k6
    exact ih (N - (j + 1)) _ _ (by omega) ⟨j + 1, _, L ++ [(⟨c1, f1⟩, ⟨c2, f2⟩)], ta, tb, rfl, by omega, by simp [t0], by simp [t2], by simp [t4], by simp [t5], by simp, ⟨k6, hL.got.bind (gg.bind (Got.pure _ _)), by simp [hL.len], by simp [clsCells, encStp], by simp [e5], by simpa using n4, by simpa using lta4, by simpa using ltb4, hL.new.next kk.keep p2, hL.new'.next k5.keep r2, aab⟩⟩
  · obtain rfl : j = N := by omega
    have b0 := hL.b0
    simp -implicitDefEqProofs [t0, t5, t6]
    refine callQ_item rdFlag false (fun y => decide (y.n = 1)) (by simp [inI]) hL.to.is (item_flag sj) (by simp) fun v5 s5 _ _ q5 g5 => ?_
    generalize hfl : decide (v5.n = 1) = fl at g5
    have k6 := (hL.to.trans q5).so (b' := h.bn + 1) (Nat.le_succ _) hb (clsCells name args t t' L fl)
    rw [clsCells] at k6
    have hgc : Got rdCls s ⟨name, args, L.map (·.1), L.map (·.2), fl⟩ s5 := g1.bind (g2.bind (g3.bind ((by rw [Int.toNat_natCast]; exact hL.got : Got (Rd.rep rdPair (j : Int).toNat) s3 L sj).bind (g5.bind (Got.pure _ _)))))
    simp -implicitDefEqProofs [t0, t4, hn1, hbx, z1, z3, encI, hfl, len_encRS, show b < h1.bn by omega]
    have hc0 : ∀ (c0 : clsR s = none), clsRV s = .tup [.agg [.str ⟨#[]⟩, .int .i64 0, .sl .no [], .sl .no [], .bool false], .bool false] := fun c0 => by simp [clsRV, c0, cls0, encCls]
    have hs0 : ∀ (c0 : clsR s = none), clsRS s = none := fun c0 => by simp [clsRS, c0]
    have w1 : b < h1.bn := by omega
    have w2 : h.bn < h1.bn := by omega
    cases s5 with
    | none =>
      have hcn := clsR_none hgc
      have hrv := hc0 hcn
      have hrs := hs0 hcn
      simp -implicitDefEqProofs [encRS, t0, t2, z0, z3, b0, w1, w2, hrv, hrs]
      exact RFin.so (RFin.bad (v := .any1) (k6.keep.trans (HF.set _ rfl)) (by simp)) (Nat.le_refl _) hb _
    | some l =>
      have hcs := clsR_some hgc
      have hwf := Got.all rdCls_all hr.bd hgc
      simp -implicitDefEqProofs [encRS, t4, hn1]
      refine callQ_p (refClsMay_ok _ hwf) (by simp [encCls, Function.comp_def]) ?_
      cases hcm : clsMay ⟨name, args, L.map (·.1), L.map (·.2), fl⟩
      · have hcn : clsR s = none := by rw [hcs, hcm]; rfl
        have hrv := hc0 hcn
        have hrs := hs0 hcn
        simp -implicitDefEqProofs [t0, t2, z0, z3, b0, w1, w2, hrv, hrs]
        exact RFin.so (RFin.bad (v := encW l) (k6.keep.trans (HF.set _ rfl)) (by simp)) (Nat.le_refl _) hb _
      · have hcy : clsR s = some (⟨name, args, L.map (·.1), L.map (·.2), fl⟩, l) := by rw [hcs, hcm]; rfl
        have hrv : clsRV s = .tup [.agg (encCls ⟨name, args, L.map (·.1), L.map (·.2), fl⟩), .bool true] := by simp [clsRV, hcy]
        have hrs : clsRS s = some l := by simp [clsRS, hcy]
        simp -implicitDefEqProofs [t2, t4, hn1, z0, b0, hrv, hrs, w2]
        exact ⟨by simp [encCls, Function.comp_def], (k6.so (Nat.le_refl _) hb _).fin⟩
end Go.Proofs

/- The document's reader of catalogues. -/
namespace Go.Proofs
open Go Go.RowKit Go.Am

set_option maxHeartbeats 2000000 in
set_option maxRecDepth 4000 in
theorem refCatGet_rd {h : H} {b : Nat} {s : RS} (hr : RIs h b s) : RdX 7 [.ptr b 0] h b (catRV s) (catRS s) := by
  refine RdX.mk' hr (catRS_bd hr.bd) (pure_catRV s) (CallP.run hb7 ok7 (by simp) ?_)
  have hb := hr.blt
  have z1 : ¬ h.bn = b := by omega
  have z2 : ¬ h.bn + 1 = b := by omega
  have l16 : zer16.length = 16 := rfl
  have k0 := ((RTo.refl hr).al (.sl .full [] :: zer16)).al (.sl .full [] :: zer16)
  rw [zer16] at k0
  simp -implicitDefEqProofs []
  refine callQ_item (rdCount 4) 0 (·.n) (by simp [inI]) k0.is (item_count 4 s) (by simp) fun y0 s1 e0 _ q g => ?_
  have hin := rdCount_in (most := 4) (by simp [inI]) s
  rw [← e0] at hin
  obtain ⟨N, hNe⟩ := Int.eq_ofNat_of_zero_le hin.1
  have hN : N ≤ 4 := by omega
  rw [hNe] at g
  have k1 := k0.trans q
  simp -implicitDefEqProofs [encI, hNe]
  refine run_loop (fun m S h1 => ∃ (j : Nat) (sj : RS) (L : List Cls) (t : Tok), m = N - j ∧ j ≤ N ∧ S 0 = .ptr b 0 ∧ S 2 = .ptr h.bn 0 ∧ S 4 = .ptr (h.bn + 1) 0 ∧ S 5 = .int .i64 N ∧ S 6 = .int .i64 j ∧ RTo h b h1 sj ∧ Got (Rd.rep rdClsM j) s1 L sj ∧ L.length = j ∧
    h1.bx h.bn = some (.sl .full [] :: zer16) ∧ h1.bx (h.bn + 1) = some (.sl t (L.map encCls) :: zer16) ∧ h.bn + 1 < h1.bn ∧ TLive h1 t j ∧ TNew h t) ?_ N ?_
  rotate_left
  · exact ⟨0, s1, [], .full, rfl, Nat.zero_le _, by simp, by simp, by simp, by simp, by simp, k1, Got.pure _ _, rfl, by simp [z1, zer16], by simp [z2, zer16], by simp, trivial, TNew.full _⟩
  clear k1 k0 q
  rintro m S h1 ⟨j, sj, L, t, hm, hj, t0, t2, t4, t5, t6, hto, hgot, hlen, b1, b2, nb, hlive, hnew⟩ ih
  have w1 : h.bn < h1.bn := by omega
  have hb1 : b < h1.bn := by omega
  by_cases hlt : j < N
  · have gc := refClassGet_rd hto.is
    have q1 := gc.to
    obtain ⟨ok, hv⟩ := clsRV_M sj
    have g1 := Got.runS rdClsM cls0 sj
    rw [clsRS_M] at q1
    generalize hc : (runS rdClsM cls0 sj).1 = c at hv g1
    generalize hs' : (runS rdClsM cls0 sj).2 = s' at q1 g1
    have lc : (encCls c).length = 5 := rfl
    have tc : List.take 5 (encCls c) = encCls c := rfl
    have x1 : ¬ h.bn = h1.bn := by omega
    have x2 : ¬ h.bn + 1 = h1.bn := by omega
    have x3 : ¬ h1.bn = b := by omega
    have x4 : h.bn + 1 < h1.bn + 1 := by omega
    have x5 : h.bn < h1.bn := by omega
    have k2 := ((hto.trans q1).al [.str ⟨#[]⟩, .int .i64 0, .sl .full [], .sl .full [], .bool false]).so (b' := h1.bn) (by omega) hb (encCls c)
    simp -implicitDefEqProofs [t0, t5, t6, hlt]
    refine callQ_s gc.call (by simp) ?_
    rw [hv, clsRS_M, hs']
    simp -implicitDefEqProofs [lc, tc, t4, b2, x2, z2, x4, l16]
    refine appQ_tok (t := t) (es := L.map encCls) (es2 := [encCls c]) (by simpa [hlen] using hlive) (fun e he => by obtain ⟨p, _, rfl⟩ := List.mem_map.1 he; rfl) (by simp [srcA, lc]) (by simp [hlen]; omega) fun ta h3 p1 p2 p3 p4 => ?_
    have e2 : h3.bx (h.bn + 1) = some (.sl t (L.map encCls) :: zer16) := by rw [p3.bx _ (by simp; omega) (fun h => h)]; simp [x2, z2, b2]
    have e1 : h3.bx h.bn = some (.sl .full [] :: zer16) := by rw [p3.bx _ (by simp; omega) (fun h => h)]; simp [x1, z1, b1]
    have n3 : h.bn + 1 < h3.bn := by rw [p4]; simp; omega
    have k3 := (k2.app hnew p3).so (b' := h.bn + 1) (by omega) hb (.sl ta (L.map encCls ++ [encCls c]) :: zer16)
    have lta : TLive h3 ta (j + 1) := by simpa [hlen] using p1
    simp -implicitDefEqProofs [t4, t6, e2, n3, l16, inc_i64 hlt (show N ≤ _ by omega), -Int.natCast_add]
    exact ih (N - (j + 1)) _ _ (by omega) ⟨j + 1, s', L ++ [c], ta, rfl, by omega, by simp [t0], by simp [t2], by simp [t4], by simp [t5], by simp, k3, hgot.bind (g1.bind (Got.pure _ _)), by simp [hlen], by simp [e1], by simp, by simpa using n3, by simpa using lta, hnew.next k2.keep p2⟩
  · obtain rfl : j = N := by omega
    have hlay : (.sl t (L.map encCls) :: zer16 : List AV) = .sl t (L.map encCls) :: (lay j []).map (AV.int .i64) := by rw [lay_nil]; rfl
    rw [hlay] at b2
    have hst : ∀ (B : List Int) (v : Int) (c d : Nat), c < j → d < j → B.length = c * j + d → List.take (1 + c * 4 + d) (AV.sl t (L.map encCls) :: (lay j B).map (AV.int .i64)) ++ AV.int .i64 v :: List.drop (1 + c * 4 + d) ((lay j B).map (AV.int .i64)) = AV.sl t (L.map encCls) :: (lay j (B ++ [v])).map (AV.int .i64) := fun B v c d hc hd hB => by
      rw [show 1 + c * 4 + d = (c * 4 + d) + 1 by omega, List.take_succ_cons, List.cons_append, lay_stepM hN B v hc hd hB]
    simp -implicitDefEqProofs [t5, t6]
    refine run_loop (fun m S h1 => ∃ (c : Nat) (sk : RS) (B : List Int), m = j - c ∧ c ≤ j ∧ S 0 = .ptr b 0 ∧ S 2 = .ptr h.bn 0 ∧ S 4 = .ptr (h.bn + 1) 0 ∧ S 5 = .int .i64 j ∧ S 9 = .int .i64 c ∧ RTo h b h1 sk ∧ Got (Rd.rep (rdCount 255) (c * j)) sj B sk ∧ B.length = c * j ∧
      h1.bx h.bn = some (.sl .full [] :: zer16) ∧ h1.bx (h.bn + 1) = some (.sl t (L.map encCls) :: (lay j B).map (AV.int .i64)) ∧ h.bn + 1 < h1.bn) ?_ j ?_
    rotate_left
    · exact ⟨0, sj, [], by simp, Nat.zero_le _, by simp [t0], by simp [t2], by simp [t4], by simp [t5], by simp, hto, by rw [Nat.zero_mul]; exact Got.pure _ _, by simp, b1, b2, nb⟩
    clear ih
    rintro m S h1 ⟨c, sk, B, hm, hc, t0, t2, t4, t5, t9, hto2, hgot2, hBl, b1, b2, nb⟩ ih
    by_cases hlc : c < j
    · simp -implicitDefEqProofs [t5, t9, hlc]
      refine run_loop (fun m S h1 => ∃ (d : Nat) (sk : RS) (B : List Int), m = j - d ∧ d ≤ j ∧ S 0 = .ptr b 0 ∧ S 2 = .ptr h.bn 0 ∧ S 4 = .ptr (h.bn + 1) 0 ∧ S 5 = .int .i64 j ∧ S 9 = .int .i64 c ∧ S 10 = .int .i64 d ∧ RTo h b h1 sk ∧ Got (Rd.rep (rdCount 255) (c * j + d)) sj B sk ∧ B.length = c * j + d ∧
        h1.bx h.bn = some (.sl .full [] :: zer16) ∧ h1.bx (h.bn + 1) = some (.sl t (L.map encCls) :: (lay j B).map (AV.int .i64)) ∧ h.bn + 1 < h1.bn) ?_ j ?_
      rotate_left
      · exact ⟨0, sk, B, by simp, Nat.zero_le _, by simp [t0], by simp [t2], by simp [t4], by simp [t5], by simp [t9], by simp, hto2, hgot2, hBl, b1, b2, nb⟩
      clear b1 b2 nb hto2 hgot2 hBl
      rintro m S h1 ⟨d, sk, B, hm, hd, t0, t2, t4, t5, t9, t10, hto2, hgot2, hBl, b1, b2, nb⟩ ih2
      by_cases hld : d < j
      · have hi := item_rd hto2.is 0 (most := 255) (by simp [inI])
        have hic := item_count 255 sk
        have gg := Got.runS (rdCount 255) 0 sk
        rw [← hic.1, ← hic.2] at gg
        have qq := hi.to
        generalize hy : runS (refRead 0 255) item00 sk = yy at hi gg qq
        obtain ⟨y, s'⟩ := yy
        simp only at hi gg qq
        have k3 := (hto2.trans qq).so (b' := h.bn + 1) (by omega) hb (.sl t (L.map encCls) :: (lay j (B ++ [y.n])).map (AV.int .i64))
        have hs1 := hst B y.n c d hlc hld hBl
        have ll := lay_len j B
        simp -implicitDefEqProofs [t5, t10, hld]
        refine run_dreg c7_d14 ?_
        simp -implicitDefEqProofs [t0, t9, t10]
        refine callD_s hi.call (by simp) ?_
        simp -implicitDefEqProofs [encI, t4, t10, z2, b2, nb, ll, show (c : Int) < 4 by omega, show (d : Int) < 4 by omega, show 1 + c * 4 + d + 1 ≤ 16 + 1 by omega, hs1, inc_i64 hld (show j ≤ _ by omega), -Int.natCast_add]
        exact ih2 (j - (d + 1)) _ _ (by omega) ⟨d + 1, s', B ++ [y.n], rfl, by omega, by simp [t0], by simp [t2], by simp [t4], by simp [t5], by simp [t9], by simp, k3, hgot2.bind (gg.bind (Got.pure _ _)), by simp [hBl]; omega, by simp [z1, b1], by simp, by simpa using nb⟩
      · obtain rfl : d = j := by omega
        simp -implicitDefEqProofs [t5, t9, t10, inc_i64 hlc (show d ≤ _ by omega), -Int.natCast_add]
        exact ih (d - (c + 1)) _ _ (by omega) ⟨c + 1, sk, B, rfl, by omega, by simp [t0], by simp [t2], by simp [t4], by simp [t5], by simp, hto2, by rw [Nat.add_mul, Nat.one_mul]; exact hgot2, by rw [Nat.add_mul, Nat.one_mul]; exact hBl, b1, b2, nb⟩
    · obtain rfl : c = j := by omega
      have hgc : Got rdCat s ⟨L, lay c B⟩ sk := g.bind ((by rw [Int.toNat_natCast]; exact hgot : Got (Rd.rep rdClsM (c : Int).toNat) s1 L sj).bind ((by rw [Int.toNat_natCast]; exact hgot2 : Got (Rd.rep (rdCount 255) ((c : Int).toNat * (c : Int).toNat)) sj B sk).bind (by rw [Int.toNat_natCast]; exact Got.pure _ _)))
      have hx := hto2.is.bx
      have ll := lay_len c B
      have hb1 : b < h1.bn := hto2.is.blt
      have w2 : h.bn < h1.bn := by omega
      have z3 : ¬ b = h.bn := by omega
      have tl17 : List.take 17 (AV.sl t (L.map encCls) :: (lay c B).map (AV.int .i64)) = AV.sl t (L.map encCls) :: (lay c B).map (AV.int .i64) := List.take_of_length_le (by simp [ll])
      have hc0 : ∀ (c0 : catR s = none), catRV s = .tup [.agg (.sl .no [] :: zer16), .bool false] := fun c0 => by simp [catRV, c0, cat0, encCtlg, zer16, List.replicate]
      have hs0 : ∀ (c0 : catR s = none), catRS s = none := fun c0 => by simp [catRS, c0]
      simp -implicitDefEqProofs [t0, t5, t9, hx, hb1, len_encRS]
      cases sk with
      | none =>
        have hcn := catR_none hgc
        have hrv := hc0 hcn
        have hrs := hs0 hcn
        rw [encRS] at hx
        simp -implicitDefEqProofs [encRS, hx, t0, t2, z1, b1, hb1, w2, l16, hrv, hrs]
        exact ⟨rfl, RFin.so (RFin.bad (v := .any1) (hto2.keep.trans (HF.set _ rfl)) (by simp)) (Nat.le_refl _) hb _⟩
      | some l =>
        have hcs := catR_some hgc
        have hwf := Got.all rdCat_all hr.bd hgc
        simp -implicitDefEqProofs [encRS, t4, b2, nb, ll, tl17]
        refine callQ_p (refCatMay_ok _ hwf) (by simp [encCtlg]) ?_
        cases hcm : catMay ⟨L, lay c B⟩
        · have hcn : catR s = none := by rw [hcs, hcm]; rfl
          have hrv := hc0 hcn
          have hrs := hs0 hcn
          rw [encRS] at hx
          simp -implicitDefEqProofs [hx, t0, t2, z1, b1, hb1, w2, l16, hrv, hrs]
          exact ⟨rfl, RFin.so (RFin.bad (v := encW l) (hto2.keep.trans (HF.set _ rfl)) (by simp)) (Nat.le_refl _) hb _⟩
        · have hcy : catR s = some (⟨L, lay c B⟩, l) := by rw [hcs, hcm]; rfl
          have hrv : catRV s = .tup [.agg (encCtlg ⟨L, lay c B⟩), .bool true] := by simp [catRV, hcy]
          have hrs : catRS s = some l := by simp [catRS, hcy]
          simp -implicitDefEqProofs [t2, t4, b1, b2, nb, ll, tl17, l16, w2, hrv, hrs]
          exact ⟨rfl, (hto2.so (Nat.le_refl _) hb _).fin⟩
end Go.Proofs

/- How many breakpoints there are: the program's answer. -/
namespace Go.Proofs
open Go Go.RowKit Go.Am

theorem ones64_ok (v : Nat) (hv : v < 8) : PCall Try.prog 48 [.int .u64 v] (.int .i64 (popc v)) := by
  refine PCall.run hb48 ok48 (by simp) (pures1 (.int _ _)) (.int _ _) ?_
  have h8 : v = 0 ∨ v = 1 ∨ v = 2 ∨ v = 3 ∨ v = 4 ∨ v = 5 ∨ v = 6 ∨ v = 7 := by omega
  rcases h8 with rfl | rfl | rfl | rfl | rfl | rfl | rfl | rfl <;> (simp -implicitDefEqProofs []; decide +kernel)
theorem ones_ok (v : Nat) (hv : v < 8) : PCall Try.prog 29 [.int .u64 v] (.int .i64 (popc v)) := by
  refine PCall.run hb29 ok29 (by simp) (pures1 (.int _ _)) (.int _ _) ?_
  simp -implicitDefEqProofs []
  refine callQ_p (ones64_ok v hv) (by simp) ?_
  simp -implicitDefEqProofs []

theorem cnt_flat (f : Nat → Nat → Nat) {n : Nat} (hn : n ≤ 4) : sumN (fun k => f (k / n) (k % n)) (n * n) = sumN (fun c => sumN (fun d => f c d) n) n := by
  have h5 : n = 0 ∨ n = 1 ∨ n = 2 ∨ n = 3 ∨ n = 4 := by omega
  rcases h5 with rfl | rfl | rfl | rfl | rfl <;> simp [sumN] <;> omega
theorem div_mod_of {n c d : Nat} (hd : d < n) : (c * n + d) / n = c ∧ (c * n + d) % n = d := by
  constructor
  · rw [Nat.mul_comm, Nat.mul_add_div (by omega), Nat.div_eq_of_lt hd, Nat.add_zero]
  · rw [Nat.mul_comm, Nat.mul_add_mod, Nat.mod_eq_of_lt hd]

theorem breaks_ok (x : Ctlg) (hx : x.wf) (hm : catMay x = true) : PCall Try.prog 13 [.agg (encCtlg x)] (.int .i64 x.cntB) := by
  refine PCall.run hb13 ok13 (by simp) (pures1 (.agg (pure_encCtlg x))) (.int _ _) ?_
  have htk := x.take16 hx.2.1
  obtain ⟨hsm, hg⟩ := catMay_small hx hm
  have hbl := hx.2.1
  have n4 := hsm.2.1
  simp -implicitDefEqProofs [encCtlg, H.nil]
  simp -implicitDefEqProofs [htk, hbl]
  refine callQ_s (pairs_ok x hbl _) (by simp [encCtlg]) ?_
  simp -implicitDefEqProofs []
  generalize hS : (su _ 7 _ : Slots) = S
  have s1 : S 1 = .ptr 0 0 := by rw [← hS]; simp
  have s3 : S 3 = .ptr 1 0 := by rw [← hS]; simp
  have s7 : S 7 = .fn 46 [] [.ptr 2 0] := by rw [← hS]; simp
  clear hS
  let q0 : LoopA := ⟨S, [8, 9], c13_x7, c13_y8, .ready, none⟩
  let g : Nat → Nat := fun k => x.pcB (k / x.classes.length) (k % x.classes.length)
  let J : Nat → H → Prop := fun k h1 => 0 < h1.ln ∧ h1.lp 0 = some q0 ∧ 3 ≤ h1.bn ∧ h1.bx 0 = some (encCtlg x) ∧ h1.bx 1 = some [.int .i64 (sumN g k : Nat)] ∧ h1.bx 2 = some (encCtlg x)
  refine .rngf (Z := fun _ h1 => J (x.classes.length * x.classes.length) h1) (F := 46) (first := []) (caps := [.ptr 2 0]) rfl (by simpa using s7) (pairs1_ok x n4 J (fun k h' ⟨_, _, q1, _, _, q2⟩ => ⟨by omega, q2⟩) ?_ ?_) ?_ ?_
  · rintro c d h' hc hd ⟨j1, j2, j3, j4, j5, j6⟩ K hK
    have j4' := j4
    rw [encCtlg] at j4
    have hbk := Ctlg.brk_load (x := x) (.sl .no (x.classes.map encCls)) hbl (show c < 4 by omega) (show d < 4 by omega)
    obtain ⟨m0, m1⟩ := may_brk hm c d (by omega) (by omega)
    rw [Ctlg.mostB, if_pos ⟨hc, hd⟩, Ctlg.stepsN_of hc] at m1
    have hcs := hsm.2.2.1 _ (List.getElem_mem hc)
    have hk3 : x.classes[c].steps.length - 1 ≤ 3 := by have := hcs.2.1; omega
    have ha := and_low (x.brk c d) hk3
    rw [Int.emod_eq_of_lt m0 m1] at ha
    obtain ⟨v, hv⟩ := Int.eq_ofNat_of_zero_le m0
    have hv8 : v < 8 := by
      have : (2 : Int) ^ (x.classes[c].steps.length - 1) ≤ 8 := by
        have h4 : x.classes[c].steps.length - 1 = 0 ∨ x.classes[c].steps.length - 1 = 1 ∨ x.classes[c].steps.length - 1 = 2 ∨ x.classes[c].steps.length - 1 = 3 := by omega
        rcases h4 with e | e | e | e <;> rw [e] <;> decide
      omega
    have hgk : g (c * x.classes.length + d) = popc v := by
      obtain ⟨e1, e2⟩ := div_mod_of (c := c) hd
      show x.pcB _ _ = _
      rw [e1, e2, Ctlg.pcB, hv, Int.toNat_natCast]
    have hsum : sumN g (c * x.classes.length + d + 1) = sumN g (c * x.classes.length + d) + popc v := by rw [sumN, hgk]
    have hbd : sumN g (c * x.classes.length + d) ≤ 3 * (c * x.classes.length + d) := sumN_bound (fun j => popc_le _) _
    have hcd : c * x.classes.length + d ≤ 16 := by
      have : c * x.classes.length ≤ 3 * 4 := Nat.mul_le_mul (by omega) n4
      omega
    have hpv := popc_le v
    have hadd : IntKind.i64.wrap (((sumN g (c * x.classes.length + d) : Nat) : Int) + ((popc v : Nat) : Int)) = ((sumN g (c * x.classes.length + d + 1) : Nat) : Int) := by
      rw [wrap_i64] <;> omega
    refine callQ_y (q := q0) j1 j2 rfl ?_
    simp -implicitDefEqProofs [slotsP, j1, j2, q0]
    refine run_dreg c13_d6 ?_
    rw [hv] at ha hbk
    have ha2 : IntKind.i64.wrap ((v % 2 ^ IntKind.i64.bits &&& ((2 ^ (x.classes[c].steps.length - 1) - 1 : Int) % 2 ^ IntKind.i64.bits).toNat : Nat) : Int) = (v : Int) := by
      have e : (((v : Nat) : Int) % 2 ^ IntKind.i64.bits).toNat = v % 2 ^ IntKind.i64.bits := by
        have hb : IntKind.i64.bits = 64 := rfl
        rw [hb]
        omega
      rw [← e]
      exact ha
    simp -implicitDefEqProofs [s1, s3, j4, j5, hc, hbk, hbl, show 0 < h'.bn by omega, show 1 < h'.bn by omega, show (c : Int) < 4 by omega, show (d : Int) < 4 by omega, show 1 + c * 4 + d + 1 ≤ 16 + 1 by omega]
    refine lcallQ_p (all_ok x.classes[c] hcs) (by simp) ?_
    simp -implicitDefEqProofs [Cls.all, ha2, wrap_u64 (show (0 : Int) ≤ (v : Int) by omega) (show (v : Int) ≤ _ by omega)]
    refine lcallQ_p (ones_ok v hv8) (by simp) ?_
    simp -implicitDefEqProofs [s3, j4, j5, hadd, roundQ, j1, show 0 < h'.bn by omega, show 1 < h'.bn by omega, hbk, hbl, show 1 + c * 4 + d + 1 ≤ 16 + 1 by omega]
    exact hK _ ⟨by simpa using j1, by simp [q0], by simpa using j3, by simp [encCtlg, j4], by simp, by simp [j6]⟩
  · exact ⟨by simp, by simp [q0], by simp, by simp [encCtlg], by simp [sumN], by simp [encCtlg]⟩
  · rintro v h2 ⟨j1, j2, _⟩
    exact ⟨j1, _, j2, by simp [q0]⟩
  · rintro v h2 q ⟨j1, j2, j3, j4, j5, j6⟩ hq
    replace hq : h2.lp 0 = some q := hq
    rw [j2] at hq
    cases hq
    rw [show g = fun k => x.pcB (k / x.classes.length) (k % x.classes.length) from rfl, cnt_flat x.pcB n4] at j5
    simp -implicitDefEqProofs [pendK, q0, s3, j5, show 1 < h2.bn by omega, Ctlg.cntB]
end Go.Proofs

/- A catalogue opened and closed side by side; the chapter's own first look. -/
namespace Go.Proofs
open Go Go.RowKit Go.Am

theorem len_encCtlg {x : Ctlg} (h : x.breaks.length = 16) : (encCtlg x).length = 17 := by simp [encCtlg, h]
def alive0 : Ctlg := ⟨[⟨⟨#[97]⟩, 0, List.replicate 3 ⟨[⟨5, 0, 0, 0, ⟨0, 0⟩, ⟨0, 0⟩, 0⟩], []⟩, List.replicate 3 ⟨[], []⟩, false⟩], List.replicate 16 0⟩
theorem alive0_wf : alive0.wf := by
  refine ⟨⟨by decide, ?_⟩, by decide, ?_⟩
  · intro y hy
    simp only [alive0, List.mem_singleton] at hy
    subst hy
    refine ⟨by decide, by simp [inI], ⟨by decide, ?_⟩, by decide, ?_⟩
    · intro y hy
      obtain rfl := List.eq_of_mem_replicate hy
      refine ⟨⟨by decide, ?_⟩, by decide, by simp⟩
      intro y hy
      simp only [List.mem_singleton] at hy
      subst hy
      simp [Inst.wf, KeyT.wf, inI]
    · intro y hy
      obtain rfl := List.eq_of_mem_replicate hy
      exact ⟨⟨by decide, by simp⟩, by decide, by simp⟩
  · intro y hy
    simp only [alive0, List.mem_replicate] at hy
    obtain ⟨_, rfl⟩ := hy
    simp [inI]
theorem alive0_may : catMay alive0 = true := by decide

theorem alive12_ok : PCall Try.prog 4 [] (.bool true) := by
  refine PCall.run hb4 ok4 (by simp) (by simp) (.bool _) ?_
  have hs := (catMay_small alive0_wf alive0_may).1
  have hom := open_may alive0_wf alive0_may
  have how := open_wf alive0_wf alive0_may
  have hol := len_encCtlg how.2.1
  have hcnt : (openOf alive0).cntB = 2 := by decide
  have hbk : (openOf alive0).brkAt 0 0 1 = true := by decide
  simp -implicitDefEqProofs []
  refine run_dreg c4_d3 ?_
  simp -implicitDefEqProofs []
  refine ⟨.sl .full (List.replicate 3 [.sl .full [], .sl .full []]), fun h => .mkval 2 48 _ _ _ .i64 .i64 3 rfl rfl (by omega) (by omega), ?_⟩
  simp -implicitDefEqProofs [H.nil]
  refine callQ_p (opened_ok alive0 hs) (by simp [encCtlg, alive0, encCls, encStp, encInst]) ?_
  have htk : List.take 17 (encCtlg (openOf alive0)) = encCtlg (openOf alive0) := List.take_of_length_le (by rw [hol]; exact Nat.le_refl _)
  simp -implicitDefEqProofs [hol, htk]
  refine callQ_p (catMayP_ok (openOf alive0) how) (by simp) ?_
  simp -implicitDefEqProofs [hom, hol, htk]
  refine callQ_p (breaks_ok (openOf alive0) how hom) (by simp) ?_
  simp -implicitDefEqProofs [hcnt, hol, htk]
  refine callQ_p (break_ok (openOf alive0) (open_good hs (catMay_small alive0_wf alive0_may).2) (c := 0) (d := 0) (i := 1) (by simp [inI]) (by simp [inI]) (by simp [inI])) (by simp) ?_
  simp -implicitDefEqProofs [hbk]
end Go.Proofs

/- The law of what is read as a catalogue. -/
namespace Go.Proofs
open Go Go.RowKit Go.Am

set_option maxRecDepth 4000 in
theorem catReads_ok (ws : List Nat) (hw : ws.length ≤ 9223372036854775807 ∧ ∀ w ∈ ws, w < 18446744073709551616) : PCall Try.prog 3 [encW ws] (.bool true) := by
  refine PCall.run hb3 ok3 (by simp) (pures1 (pure_w64 ws)) (.bool _) ?_
  simp -implicitDefEqProofs [H.nil]
  refine callQ_p alive12_ok (by simp) ?_
  by_cases h800 : (1500 : Int) < ws.length
  · simp -implicitDefEqProofs [h800]
  have hbd : Bd (some ws) := fun l e => by cases e; exact ⟨by omega, hw.2⟩
  simp -implicitDefEqProofs [h800]
  refine callQ_s (newReader_ok ws _) (by simp) ?_
  simp -implicitDefEqProofs [encRS]
  have r0 : RIs (((⟨0, fun _ => none, 0, fun _ => 0, 0, fun _ => none, 0, fun _ => none⟩ : H).alloc [.sl .no (ws.map w64), .bool false]).alloc [.sl .no (ws.map w64), .bool false]) 0 (some ws) := ⟨by simp, by simp [encRS], hbd⟩
  have g1 := catGet_rd r0
  refine callQ_s g1.call (by simp) ?_
  obtain ⟨c, is, s', hv, hs, hcw, his⟩ : ∃ c is s', catRV (some ws) = .tup [.agg (encCtlg c), .bool is] ∧ catRS (some ws) = s' ∧ c.wf ∧ is = s'.isSome := by
    cases hq : catR (some ws) with
    | none => exact ⟨cat0, false, none, by simp [catRV, hq], by simp [catRS, hq], cat0_wf, rfl⟩
    | some x => exact ⟨x.1, true, some x.2, by simp [catRV, hq], by simp [catRS, hq], catR_wf hbd hq, rfl⟩
  have b0 := g1.to.is.bd
  rw [hs] at b0
  have lc : (encCtlg c).length = 17 := len_encCtlg hcw.2.1
  have tc : List.take 17 (encCtlg c) = encCtlg c := List.take_of_length_le (by rw [lc]; exact Nat.le_refl _)
  simp -implicitDefEqProofs [hv, hs, lc]
  have g2 := fun (X : H) (r1 : RIs X 1 (some ws)) => refCatGet_rd r1
  refine callQ_s (g2 _ ⟨by simp, by simp [encRS], hbd⟩).call (by simp) ?_
  rw [hv, hs]
  simp -implicitDefEqProofs [lc]
  generalize hX : (H.set _ 3 _ : H) = X
  have e0 : X.bx 0 = some (encRS s') := by rw [← hX]; simp
  have e1 : X.bx 1 = some (encRS s') := by rw [← hX]; simp
  have e2 : X.bx 2 = some (encCtlg c) := by rw [← hX]; simp
  have e3 : X.bx 3 = some (encCtlg c) := by rw [← hX]; simp
  have n0 : 4 ≤ X.bn := by rw [← hX]; simp
  clear hX
  have ri : RIs X 0 s' := ⟨by omega, e0, b0⟩
  have m0 : 0 < X.bn := by omega
  have m1 : 1 < X.bn := by omega
  have m2 : 2 < X.bn := by omega
  have m3 : 3 < X.bn := by omega
  refine run_dreg c3_d9 ?_
  simp -implicitDefEqProofs [e2, e3, m2, m3, lc, tc]
  refine lcallQ_p (same12_ok c hcw) (by simp) ?_
  cases s' with
  | none =>
    rw [encRS] at e0 e1
    simp -implicitDefEqProofs []
    refine callD_s (rOk_ok ri) (by simp) ?_
    simp -implicitDefEqProofs [e1, m1]
    refine callD_s (rEnd_ok ri) (by simp) ?_
    simp -implicitDefEqProofs [e1, e2, e3, m1, m2, m3, lc, tc, endS]
  | some l =>
    rw [encRS] at e0 e1
    simp -implicitDefEqProofs []
    refine callD_s (rOk_ok ri) (by simp) ?_
    simp -implicitDefEqProofs [e1, m1]
    refine callD_s (rEnd_ok ri) (by simp) ?_
    cases l with
    | nil => simp -implicitDefEqProofs [e1, e2, e3, m1, m2, m3, lc, tc, endS]
    | cons w l => simp -implicitDefEqProofs [e1, e2, e3, m1, m2, m3, lc, tc, endS, show ¬ (l.length : Int) + 1 = 0 by omega]
end Go.Proofs
