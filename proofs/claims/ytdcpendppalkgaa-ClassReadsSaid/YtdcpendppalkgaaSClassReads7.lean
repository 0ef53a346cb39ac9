/- What the functions that the statement reaches do: their contracts; and what follows of it. -/
import Derived.Test.YtdcpendppalkgaaSClassReads6
import Derived.Test.YtdcpendppalkgaaK4
/- The document's reader: templates, programs, footprints. -/
namespace Go.Proofs
open Go Go.RowKit Go.Am

theorem store_bad {s : RS} : List.take 1 (encRS s) ++ AV.bool true :: List.drop 2 (encRS s) = [(encRS s)[0]'(by cases s <;> simp [encRS]), .bool true] := by cases s <;> rfl

theorem refKey_rd {h : H} {b : Nat} {s : RS} (hr : RIs h b s) : RdQ 96 [.ptr b 0] h b s rdKey (fun k => .agg (encKeyT k)) := by
  refine RdQ.mk' hr (fun k => .agg (pures_cons (.int _ _) (pures1 (.int _ _)))) (CallP.run hb96 ok96 (by simp) ?_)
  have hb := hr.blt
  have z : ¬ b = h.bn := by omega
  have z' : ¬ h.bn = b := by omega
  have z2 : b < h.bn + 1 := by omega
  simp -implicitDefEqProofs []
  refine callQ_item rdSigned 0 (·.x) (by simp [inI]) (hr.alloc _) (item_signed s) (by simp) fun y1 s1 e1 _ q1 g1 => ?_
  simp -implicitDefEqProofs [encItm]
  refine callQ_item (rdCount 999) 0 (·.n) (by simp [inI]) q1.is (item_count 999 s1) (by simp) fun y2 s2 e2 _ q2 g2 => ?_
  have k2 := (RTo.al (RTo.refl hr) [.int .i64 0, .int .i64 0]).trans (q1.trans q2)
  by_cases h1 : y1.x < -1 ∨ 255 < y1.x
  · by_cases h2 : y1.x < -1
    focus
      simp -implicitDefEqProofs [encItm, h2, z', z2]
    rotate_left
    focus
      have h3 : 255 < y1.x := h1.resolve_left h2
      simp -implicitDefEqProofs [encItm, h2, h3, z', z2]
    all_goals
      cases s2 with
      | none =>
        simp -implicitDefEqProofs [encRS]
        refine ⟨⟨y1.x, y2.n⟩, rfl, none, RFin.so (RFin.bad (v := .any1) ((k2.keep).trans (HF.set _ rfl)) (by simp)) (Nat.le_refl _) hb _, (fun l h => by cases h), ?_⟩
        exact g1.bind (by rw [if_pos h1]; exact Got.fail _ _)
      | some l =>
        simp -implicitDefEqProofs [encRS]
        refine ⟨⟨y1.x, y2.n⟩, rfl, none, RFin.so (RFin.bad (v := encW l) ((k2.keep).trans (HF.set _ rfl)) (by simp)) (Nat.le_refl _) hb _, (fun l h => by cases h), ?_⟩
        exact g1.bind (by rw [if_pos h1]; exact Got.fail _ _)
  have h2 : ¬ y1.x < -1 := fun h => h1 (.inl h)
  have h3 : ¬ 255 < y1.x := fun h => h1 (.inr h)
  simp -implicitDefEqProofs [encItm, h2, h3, z']
  refine ⟨⟨y1.x, y2.n⟩, rfl, s2, (k2.so (Nat.le_refl _) hb _).fin, k2.is.bd, ?_⟩
  exact g1.bind (by rw [if_neg h1]; exact g2.bind (Got.pure _ _))
end Go.Proofs

/- The document's reader of programs and footprints, whole. -/
namespace Go.Proofs
open Go Go.RowKit Go.Am

theorem item_bad {h : H} {b : Nat} {v : AV} (hb : b < h.bn) (hx : h.bx b = some [v, .bool true]) (kind most : Int) : SCall Try.prog 38 [.ptr b 0, .int .i64 kind, .int .i64 most] h (.agg (encItm item00)) h := by
  refine SCall.ro (CallP.run hb38 ok38 (by simp) ?_) (.agg (pure_encI _))
  have z0 : ¬ b = h.bn := by omega
  have z2 : b < h.bn + 1 := by omega
  simp -implicitDefEqProofs [hx, z0, z2, encItm, item00]
  exact (HF.alloc _ _ _ _).trans' (HF.set (B := (· = h.bn)) _ rfl) (fun x hx e => by have e : x = h.bn := e; omega) (fun _ _ h => h)
theorem callQ_ib {h : H} {b : Nat} {v : AV} {kind most : Int} {K : AV → H → Prop} {first caps args : List AV} (hb : b < h.bn) (hx : h.bx b = some [v, .bool true]) (ha : (first ++ args ++ caps).map wk = [.ptr b 0, .int .i64 kind, .int .i64 most])
    (hk : K (.agg (encItm item00)) h) : callQ Try.prog (.fn 38 first caps) args h K := callQ_s (item_bad hb hx kind most) ha hk
/-- A loop of reading that isn't right any more. -/
structure BLoop {α : Type} (h : H) (b : Nat) (s1 : RS) (p : Rd α) (j : Nat) (h1 : H) (v : AV) (L : List α) (t : Tok) : Prop where
  keep : HF h h1 (· = b) (fun _ => False)
  blt : b < h1.bn
  bx : h1.bx b = some [v, .bool true]
  got : ∀ L', Got (Rd.rep p j) s1 L' none
  len : L.length = j
  live : TLive h1 t j
  new : TNew h t
theorem len_encRS {s : RS} : (encRS s).length = 2 := by cases s <;> rfl

set_option maxHeartbeats 2000000 in
theorem refProgGet_rd {h : H} {b : Nat} {s : RS} (hr : RIs h b s) : RdS 39 [.ptr b 0] h b s rdProg [] (fun l => .sl .no (l.map encInst)) := by
  refine RdS.of hr rdProg_ok (fun l => elOK_Inst.pureL l) (CallP.run hb39 ok39 (by simp) ?_)
  have hb := hr.blt
  simp -implicitDefEqProofs []
  refine callQ_item (rdCount 8) 0 (·.n) (by simp [inI]) hr (item_count 8 s) (by simp) fun y0 s1 e0 e0' q g => ?_
  have hin := rdCount_in (most := 8) (by simp [inI]) s
  rw [← e0] at hin
  obtain ⟨N, hNe⟩ := Int.eq_ofNat_of_zero_le hin.1
  have hN : N ≤ 8 := by omega
  rw [hNe] at g
  simp -implicitDefEqProofs [encItm, hNe]
  refine run_loop (fun m S h1 => ∃ (j : Nat) (sj : RS) (L : List Inst) (t : Tok), m = N - j ∧ j ≤ N ∧ S 0 = .ptr b 0 ∧ S 4 = .sl t (L.map encInst) ∧ S 3 = .int .i64 N ∧ S 5 = .int .i64 j ∧ RLoop h b s1 rdInst j h1 sj L t) ?_ N ?_
  rotate_left
  · exact ⟨0, s1, [], .full, rfl, Nat.zero_le _, by simp, by simp, by simp, by simp, RLoop.start q⟩
  rintro m S h1 ⟨j, sj, L, t, hm, hj, t0, t4, t3, t5, hL⟩ ih
  have hbn : h.bn ≤ h1.bn := hL.to.keep.bn
  have hb1 : b < h1.bn := by omega
  have z0 : ¬ b = h1.bn := by omega
  have z1 : ¬ h1.bn = b := by omega
  by_cases hlt : j < N
  · have k0 := RTo.al (RTo.refl hL.to.is) [.int .i64 0, .int .i64 0, .int .i64 0, .int .i64 0, .int .i64 0, .int .i64 0, .int .i64 0, .int .i64 0, .int .i64 0]
    simp -implicitDefEqProofs [t0, t3, t5, hlt]
    refine callQ_item (rdCount 255) 0 (·.n) (by simp [inI]) k0.is (item_count 255 sj) (by simp) fun v1 u1 _ _ q1 g1 => ?_
    have k1 := RTo.so (k0.trans q1) (b' := h1.bn) (Nat.le_refl _) hb1 [.int .i64 v1.n, .int .i64 0, .int .i64 0, .int .i64 0, .int .i64 0, .int .i64 0, .int .i64 0, .int .i64 0, .int .i64 0]
    simp -implicitDefEqProofs [t0, z1, encItm]
    refine callQ_item (rdCount 255) 0 (·.n) (by simp [inI]) k1.is (item_count 255 u1) (by simp) fun v2 u2 _ _ q2 g2 => ?_
    have k2 := RTo.so (k1.trans q2) (b' := h1.bn) (Nat.le_refl _) hb1 [.int .i64 v1.n, .int .i64 v2.n, .int .i64 0, .int .i64 0, .int .i64 0, .int .i64 0, .int .i64 0, .int .i64 0, .int .i64 0]
    simp -implicitDefEqProofs [t0, z1, encItm]
    refine callQ_item (rdCount 255) 0 (·.n) (by simp [inI]) k2.is (item_count 255 u2) (by simp) fun v3 u3 _ _ q3 g3 => ?_
    have k3 := RTo.so (k2.trans q3) (b' := h1.bn) (Nat.le_refl _) hb1 [.int .i64 v1.n, .int .i64 v2.n, .int .i64 v3.n, .int .i64 0, .int .i64 0, .int .i64 0, .int .i64 0, .int .i64 0, .int .i64 0]
    simp -implicitDefEqProofs [t0, z1, encItm]
    refine callQ_item (rdCount 255) 0 (·.n) (by simp [inI]) k3.is (item_count 255 u3) (by simp) fun v4 u4 _ _ q4 g4 => ?_
    have k4 := RTo.so (k3.trans q4) (b' := h1.bn) (Nat.le_refl _) hb1 [.int .i64 v1.n, .int .i64 v2.n, .int .i64 v3.n, .int .i64 v4.n, .int .i64 0, .int .i64 0, .int .i64 0, .int .i64 0, .int .i64 0]
    simp -implicitDefEqProofs [t0, z1, encItm]
    refine callQ_r (refKey_rd k4.is) (by simp) fun v5 u5 q5 g5 => ?_
    have k5 := RTo.so (k4.trans q5) (b' := h1.bn) (Nat.le_refl _) hb1 [.int .i64 v1.n, .int .i64 v2.n, .int .i64 v3.n, .int .i64 v4.n, .int .i64 v5.arg, .int .i64 v5.base, .int .i64 0, .int .i64 0, .int .i64 0]
    simp -implicitDefEqProofs [t0, z1, encKeyT]
    refine callQ_r (refKey_rd k5.is) (by simp) fun v6 u6 q6 g6 => ?_
    have k6 := RTo.so (k5.trans q6) (b' := h1.bn) (Nat.le_refl _) hb1 [.int .i64 v1.n, .int .i64 v2.n, .int .i64 v3.n, .int .i64 v4.n, .int .i64 v5.arg, .int .i64 v5.base, .int .i64 v6.arg, .int .i64 v6.base, .int .i64 0]
    simp -implicitDefEqProofs [t0, z1, encKeyT]
    refine callQ_item rdSigned 0 (·.x) (by simp [inI]) k6.is (item_signed u6) (by simp) fun v7 u7 _ _ q7 g7 => ?_
    have k7 := RTo.so (k6.trans q7) (b' := h1.bn) (Nat.le_refl _) hb1 [.int .i64 v1.n, .int .i64 v2.n, .int .i64 v3.n, .int .i64 v4.n, .int .i64 v5.arg, .int .i64 v5.base, .int .i64 v6.arg, .int .i64 v6.base, .int .i64 v7.x]
    simp -implicitDefEqProofs [z1, encItm, t4]
    refine appQ_tok (t := t) (es := L.map encInst) (es2 := [encInst ⟨v1.n, v2.n, v3.n, v4.n, v5, v6, v7.x⟩]) (by simpa [hL.len] using hL.live) (by simp [encInst]) (by simp [srcA, encInst]) (by simp [hL.len]; omega) fun t' h3 p1 p2 p3 p4 => ?_
    have hg : Got rdInst sj ⟨v1.n, v2.n, v3.n, v4.n, v5, v6, v7.x⟩ u7 := g1.bind (g2.bind (g3.bind (g4.bind (g5.bind (g6.bind (g7.bind (Got.pure _ _)))))))
    have hl2 := hL.next hg (h2 := _) (h3 := h3) (t' := t') (hL.to.trans k7) (by simpa [hL.len] using p1) p2 p3
    simp -implicitDefEqProofs [t5, inc_i64 hlt (show N ≤ _ by omega), -Int.natCast_add]
    exact ih (N - (j + 1)) _ _ (by omega) ⟨j + 1, u7, _, t', rfl, by omega, by simp [t0], by simp, by simp [t3], by simp, hl2⟩
  · obtain rfl : j = N := by omega
    have hx := hL.to.is.bx
    have hlt2 := hL.to.is.blt
    have hgp : Got rdProg s L sj := g.bind (by rw [Int.toNat_natCast]; exact hL.got)
    simp -implicitDefEqProofs [t0, t3, t5, hx, hlt2, len_encRS]
    cases sj with
    | none =>
      simp -implicitDefEqProofs [encRS]
      exact ⟨none, hL.to.fin, Got.any hgp _⟩
    | some l =>
      simp -implicitDefEqProofs [encRS, t4]
      exact ⟨L, rfl, some l, hL.to.fin, hgp, (fun h => by cases h)⟩

set_option maxHeartbeats 2000000 in
theorem refFootGet_rd {h : H} {b : Nat} {s : RS} (hr : RIs h b s) : RdS 40 [.ptr b 0] h b s rdFoot [] (fun l => .sl .no (l.map encSpanT)) := by
  refine RdS.of hr rdFoot_ok (fun l => elOK_SpanT.pureL l) (CallP.run hb40 ok40 (by simp) ?_)
  have hb := hr.blt
  simp -implicitDefEqProofs []
  refine callQ_item (rdCount 4) 0 (·.n) (by simp [inI]) hr (item_count 4 s) (by simp) fun y0 s1 e0 e0' q g => ?_
  have hin := rdCount_in (most := 4) (by simp [inI]) s
  rw [← e0] at hin
  obtain ⟨N, hNe⟩ := Int.eq_ofNat_of_zero_le hin.1
  have hN : N ≤ 4 := by omega
  rw [hNe] at g
  simp -implicitDefEqProofs [encItm, hNe]
  refine run_loop (fun m S h1 => ∃ (j : Nat) (sj : RS) (L : List SpanT) (t : Tok), m = N - j ∧ j ≤ N ∧ S 0 = .ptr b 0 ∧ S 4 = .sl t (L.map encSpanT) ∧ S 3 = .int .i64 N ∧ S 5 = .int .i64 j ∧ (RLoop h b s1 rdSpanT j h1 sj L t ∨ ∃ v, BLoop h b s1 rdSpanT j h1 v L t)) ?_ N ?_
  rotate_left
  · exact ⟨0, s1, [], .full, rfl, Nat.zero_le _, by simp, by simp, by simp, by simp, Or.inl (RLoop.start q)⟩
  rintro m S h1 ⟨j, sj, L, t, hm, hj, t0, t4, t3, t5, hL | ⟨v, hB⟩⟩ ih
  rotate_left
  · have hb1 := hB.blt
    have hbx := hB.bx
    by_cases hlt : j < N
    · simp -implicitDefEqProofs [t0, t3, t5, hlt]
      refine callQ_ib hb1 hbx rfl ?_
      simp -implicitDefEqProofs [t0, encItm, item00]
      refine callQ_ib hb1 hbx rfl ?_
      simp -implicitDefEqProofs [t0, encItm, item00]
      refine callQ_ib hb1 hbx rfl ?_
      simp -implicitDefEqProofs [t0, encItm, item00]
      refine callQ_ib hb1 hbx rfl ?_
      simp -implicitDefEqProofs [t0, encItm, item00]
      refine callQ_ib hb1 hbx rfl ?_
      simp -implicitDefEqProofs [t4, encItm, item00]
      refine appQ_tok (t := t) (es := L.map encSpanT) (es2 := [encSpanT ⟨⟨0, 0⟩, ⟨0, 0⟩, false⟩]) (by simpa [hB.len] using hB.live) (by simp [encSpanT]) (by simp [srcA, encSpanT]) (by simp [hB.len]; omega) fun t' h3 p1 p2 p3 p4 => ?_
      have hB2 : BLoop h b s1 rdSpanT (j + 1) h3 v (L ++ [⟨⟨0, 0⟩, ⟨0, 0⟩, false⟩]) t' := ⟨hB.keep.trans' p3 (fun _ _ h => h.elim) (fun i hi ho => hB.new i hi ho), by rw [p4]; exact hb1, (p3.bx b hb1 fun h => h).trans hbx, fun L' => (hB.got []).bind (show Got _ none L' none from rfl), by simp [hB.len], by simpa [hB.len] using p1, hB.new.next hB.keep p2⟩
      simp -implicitDefEqProofs [t5, inc_i64 hlt (show N ≤ _ by omega), -Int.natCast_add]
      exact ih (N - (j + 1)) _ _ (by omega) ⟨j + 1, none, _, t', rfl, by omega, by simp [t0], by simp, by simp [t3], by simp, Or.inr ⟨v, hB2⟩⟩
    · obtain rfl : j = N := by omega
      simp -implicitDefEqProofs [t0, t3, t5, hb1, hbx]
      exact ⟨none, RFin.bad hB.keep hbx, g.bind (by rw [Int.toNat_natCast]; exact hB.got _)⟩
  have hbn : h.bn ≤ h1.bn := hL.to.keep.bn
  have hb1 : b < h1.bn := by omega
  by_cases hlt : j < N
  · simp -implicitDefEqProofs [t0, t3, t5, hlt]
    refine callQ_item rdSigned 0 (·.x) (by simp [inI]) hL.to.is (item_signed sj) (by simp) fun v1 u1 _ _ q1 g1 => ?_
    simp -implicitDefEqProofs [encItm, t0]
    refine callQ_item (rdCount 999) 0 (·.n) (by simp [inI]) q1.is (item_count 999 u1) (by simp) fun v2 u2 _ _ q2 g2 => ?_
    simp -implicitDefEqProofs [encItm, t0]
    refine callQ_item rdSigned 0 (·.x) (by simp [inI]) q2.is (item_signed u2) (by simp) fun v3 u3 _ _ q3 g3 => ?_
    simp -implicitDefEqProofs [encItm, t0]
    refine callQ_item (rdCount 999) 0 (·.n) (by simp [inI]) q3.is (item_count 999 u3) (by simp) fun v4 u4 _ _ q4 g4 => ?_
    have k4 := q1.trans (q2.trans (q3.trans q4))
    have hb4 := k4.is.blt
    have hx4 := k4.is.bx
    have gk1 : ¬ (v1.x < -1 ∨ 255 < v1.x) → Got rdKey sj ⟨v1.x, v2.n⟩ u2 := fun hn => g1.bind (by rw [if_neg hn]; exact g2.bind (Got.pure _ _))
    have gk2 : ¬ (v3.x < -1 ∨ 255 < v3.x) → Got rdKey u2 ⟨v3.x, v4.n⟩ u4 := fun hn => g3.bind (by rw [if_neg hn]; exact g4.bind (Got.pure _ _))
    have gb1 : (v1.x < -1 ∨ 255 < v1.x) → Got rdKey sj ⟨v1.x, v2.n⟩ none := fun hn => g1.bind (by rw [if_pos hn]; exact Got.fail _ _)
    have gb2 : (v3.x < -1 ∨ 255 < v3.x) → Got rdKey u2 ⟨v3.x, v4.n⟩ none := fun hn => g3.bind (by rw [if_pos hn]; exact Got.fail _ _)
    have gall : ((v1.x < -1 ∨ 255 < v1.x) ∨ (v3.x < -1 ∨ 255 < v3.x)) → ∀ a, Got rdSpanT sj a none := fun hor a => by
      refine Got.any (a := ⟨⟨v1.x, v2.n⟩, ⟨v3.x, v4.n⟩, false⟩) ?_ a
      have fl : Got rdFlag none false none := rfl
      by_cases c1 : v1.x < -1 ∨ 255 < v1.x
      · exact (gb1 c1).bind ((show Got rdKey none (⟨v3.x, v4.n⟩ : KeyT) none from rfl).bind (fl.bind (Got.pure _ _)))
      · exact (gk1 c1).bind ((gb2 (hor.resolve_left c1)).bind (fl.bind (Got.pure _ _)))
    by_cases hbad : (v1.x < -1 ∨ 255 < v1.x) ∨ (v3.x < -1 ∨ 255 < v3.x)
    · have gall := gall hbad
      obtain ⟨v0, hv0⟩ : ∃ v0, List.take 1 (encRS u4) ++ AV.bool true :: List.drop 2 (encRS u4) = [v0, .bool true] := by cases u4 <;> exact ⟨_, rfl⟩
      have hcase : (v1.x < -1) ∨ (¬ v1.x < -1 ∧ 255 < v1.x) ∨ (¬ v1.x < -1 ∧ ¬ 255 < v1.x ∧ v3.x < -1) ∨ (¬ v1.x < -1 ∧ ¬ 255 < v1.x ∧ ¬ v3.x < -1 ∧ 255 < v3.x) := by omega
      have hk5 : HF h1 ((((((h1.set b (encRS u1)).set b (encRS u2)).set b (encRS u3)).set b (encRS u4)).set b [v0, .bool true])) (· = b) (fun _ => False) := k4.keep.trans (HF.set _ rfl)
      rcases hcase with c1 | ⟨c1, c2⟩ | ⟨c1, c2, c3⟩ | ⟨c1, c2, c3, c4⟩
      focus
        simp -implicitDefEqProofs [encItm, t0, c1, len_encRS, hb1, hv0]
      rotate_left
      focus
        simp -implicitDefEqProofs [encItm, t0, c1, c2, len_encRS, hb1, hv0]
      rotate_left
      focus
        simp -implicitDefEqProofs [encItm, t0, c1, c2, c3, len_encRS, hb1, hv0]
      rotate_left
      focus
        simp -implicitDefEqProofs [encItm, t0, c1, c2, c3, c4, len_encRS, hb1, hv0]
      all_goals
        refine callQ_ib (v := v0) (by simpa using hb1) (by simp) rfl ?_
        simp -implicitDefEqProofs [t4, encItm, item00]
        refine appQ_tok (t := t) (es := L.map encSpanT) (es2 := [encSpanT ⟨⟨v1.x, v2.n⟩, ⟨v3.x, v4.n⟩, false⟩]) (by simpa [hL.len] using hL.live) (by simp [encSpanT]) (by simp [srcA, encSpanT]) (by simp [hL.len]; omega) fun t' h3 p1 p2 p3 p4 => ?_
        have hB2 : BLoop h b s1 rdSpanT (j + 1) h3 v0 (L ++ [⟨⟨v1.x, v2.n⟩, ⟨v3.x, v4.n⟩, false⟩]) t' := ⟨(hL.to.keep.trans hk5).trans' p3 (fun _ _ h => h.elim) (fun i hi ho => hL.new i hi ho), by rw [p4]; simpa using hb1, by rw [p3.bx b (by simpa using hb1) (fun h => h)]; simp, fun L' => hL.got.bind ((gall ⟨⟨0, 0⟩, ⟨0, 0⟩, false⟩).bind (show Got _ none L' none from rfl)), by simp [hL.len], by simpa [hL.len] using p1, hL.new.next (hL.to.keep.trans hk5) p2⟩
        simp -implicitDefEqProofs [t5, inc_i64 hlt (show N ≤ _ by omega), -Int.natCast_add]
        exact ih (N - (j + 1)) _ _ (by omega) ⟨j + 1, none, _, t', rfl, by omega, by simp [t0], by simp, by simp [t3], by simp, Or.inr ⟨v0, hB2⟩⟩
    · have c1 : ¬ v1.x < -1 := fun h => hbad (.inl (.inl h))
      have c2 : ¬ 255 < v1.x := fun h => hbad (.inl (.inr h))
      have c3 : ¬ v3.x < -1 := fun h => hbad (.inr (.inl h))
      have c4 : ¬ 255 < v3.x := fun h => hbad (.inr (.inr h))
      simp -implicitDefEqProofs [encItm, t0, c1, c2, c3, c4]
      refine callQ_item rdFlag false (fun y => decide (y.n = 1)) (by simp [inI]) k4.is (item_flag u4) (by simp) fun v5 u5 _ _ q5 g5 => ?_
      simp -implicitDefEqProofs [encItm, t4]
      refine appQ_tok (t := t) (es := L.map encSpanT) (es2 := [encSpanT ⟨⟨v1.x, v2.n⟩, ⟨v3.x, v4.n⟩, decide (v5.n = 1)⟩]) (by simpa [hL.len] using hL.live) (by simp [encSpanT]) (by simp [srcA, encSpanT]) (by simp [hL.len]; omega) fun t' h3 p1 p2 p3 p4 => ?_
      have hg : Got rdSpanT sj ⟨⟨v1.x, v2.n⟩, ⟨v3.x, v4.n⟩, decide (v5.n = 1)⟩ u5 := (gk1 (by omega)).bind ((gk2 (by omega)).bind (g5.bind (Got.pure _ _)))
      have hl2 := hL.next hg (h2 := _) (h3 := h3) (t' := t') (hL.to.trans (k4.trans q5)) (by simpa [hL.len] using p1) p2 p3
      simp -implicitDefEqProofs [t5, inc_i64 hlt (show N ≤ _ by omega), -Int.natCast_add]
      exact ih (N - (j + 1)) _ _ (by omega) ⟨j + 1, u5, _, t', rfl, by omega, by simp [t0], by simp, by simp [t3], by simp, Or.inl hl2⟩
  · obtain rfl : j = N := by omega
    have hx := hL.to.is.bx
    have hlt2 := hL.to.is.blt
    have hgp : Got rdFoot s L sj := g.bind (by rw [Int.toNat_natCast]; exact hL.got)
    simp -implicitDefEqProofs [t0, t3, t5, hx, hlt2, len_encRS]
    cases sj with
    | none =>
      simp -implicitDefEqProofs [encRS]
      exact ⟨none, hL.to.fin, Got.any hgp _⟩
    | some l =>
      simp -implicitDefEqProofs [encRS, t4]
      exact ⟨L, rfl, some l, hL.to.fin, hgp, (fun h => by cases h)⟩
end Go.Proofs

/- Which programs there may be: the program's answer. -/
namespace Go.Proofs
open Go Go.RowKit Go.Am

theorem mayKey_ok (k : KeyT) (args : Int) : PCall Try.prog 137 [.agg (encKeyT k), .int .i64 args] (.bool (mayKey k args)) := by
  refine PCall.run hb137 ok137 (by simp) (pures_cons (pureKey k) (pures1 (.int _ _))) (.bool _) ?_
  simp (maxSteps := 2000000) +contextual -implicitDefEqProofs [↓gdL_T, ↓gdL_F, ↓condQ_b, -Int.not_lt, -Int.not_le, -Nat.not_lt, -Nat.not_le, encKeyT, mayKey]

theorem register_ok (n : Int) : PCall Try.prog 138 [.int .i64 n] (.bool (isReg n)) := by
  refine PCall.run hb138 ok138 (by simp) (pures1 (.int _ _)) (.bool _) ?_
  by_cases h : 0 ≤ n
  · simp -implicitDefEqProofs [isReg, h]
    rw [Bool.eq_iff_iff]; simp; omega
  · simp -implicitDefEqProofs [isReg, h]

def keysI (x : Inst) : List KeyT := if x.op = 1 ∨ x.op = 2 ∨ x.op = 3 then [x.k] else if x.op = 4 then [x.k, x.l] else []
theorem keys_ok (x : Inst) : PCall Try.prog 140 [.agg (encInst x)] (.sl .no ((keysI x).map encKeyT)) := by
  refine PCall.run hb140 ok140 (by simp) (pures1 (pureInst x)) (pure_sl pure_encKeyT _) ?_
  by_cases h1 : x.op = 1
  · simp -implicitDefEqProofs [encInst, h1, keysI, encKeyT]
  by_cases h2 : x.op = 2
  · simp -implicitDefEqProofs [encInst, h2, keysI, encKeyT]
  by_cases h3 : x.op = 3
  · simp -implicitDefEqProofs [encInst, h3, keysI, encKeyT]
  by_cases h4 : x.op = 4
  · simp -implicitDefEqProofs [encInst, h4, keysI, encKeyT]
  simp -implicitDefEqProofs [encInst, h1, h2, h3, h4, keysI]

def zeroK : KeyT := ⟨0, 0⟩
def onlyI (x : Inst) : Inst × Bool :=
  if x.op = 1 ∨ x.op = 2 then (⟨x.op, x.a, 0, 0, x.k, zeroK, 0⟩, true)
  else if x.op = 3 then (⟨x.op, 0, 0, 0, x.k, zeroK, 0⟩, true)
  else if x.op = 4 then (⟨x.op, x.a, 0, 0, x.k, x.l, 0⟩, true)
  else if x.op = 5 ∨ x.op = 8 then (⟨x.op, x.a, 0, 0, zeroK, zeroK, x.x⟩, true)
  else if x.op = 6 ∨ x.op = 7 then (⟨x.op, x.a, x.b, x.c, zeroK, zeroK, 0⟩, true)
  else (⟨x.op, x.a, 0, 0, zeroK, zeroK, 0⟩, false)

theorem only_ok (x : Inst) : PCall Try.prog 135 [.agg (encInst x)] (.tup [.agg (encInst (onlyI x).1), .bool (onlyI x).2]) := by
  refine PCall.run hb135 ok135 (by simp) (pures1 (pureInst x)) (.tup (pures_cons (pureInst _) (pures1 (.bool _)))) ?_
  by_cases h1 : x.op = 1
  · simp -implicitDefEqProofs [encInst, h1, onlyI, H.nil, zeroK]
  by_cases h2 : x.op = 2
  · simp -implicitDefEqProofs [encInst, h2, onlyI, H.nil, zeroK]
  by_cases h3 : x.op = 3
  · simp -implicitDefEqProofs [encInst, h3, H.nil]
    refine run_dreg c135_d8 ?_
    simp -implicitDefEqProofs [onlyI, zeroK, h3]
  by_cases h4 : x.op = 4
  · simp -implicitDefEqProofs [encInst, h4, H.nil]
    refine run_dreg c135_d10 ?_
    simp -implicitDefEqProofs [onlyI, h4]
  by_cases h5 : x.op = 5
  · simp -implicitDefEqProofs [encInst, h5, onlyI, H.nil, zeroK]
  by_cases h8 : x.op = 8
  · simp -implicitDefEqProofs [encInst, h8, onlyI, H.nil, zeroK]
  by_cases h6 : x.op = 6
  · simp -implicitDefEqProofs [encInst, h6, H.nil]
    refine run_dreg c135_d16 ?_
    simp -implicitDefEqProofs [onlyI, zeroK, h6]
  by_cases h7 : x.op = 7
  · simp -implicitDefEqProofs [encInst, h7, H.nil]
    refine run_dreg c135_d16 ?_
    simp -implicitDefEqProofs [onlyI, zeroK, h7]
  simp -implicitDefEqProofs [encInst, h1, h2, h3, h4, h5, h6, h7, h8, onlyI, H.nil, zeroK]
end Go.Proofs

/- Which programs there may be: the program's answer, joined. -/
namespace Go.Proofs
open Go Go.RowKit Go.Am

def mayI (x : Inst) (args : Int) : Bool := (onlyI x).2 && decide (x = (onlyI x).1) && isReg x.a && isReg x.b && isReg x.c && !(keysI x).any fun k => !mayKey k args

theorem may1_ok (k : KeyT) (args : Int) {h : H} {b : Nat} (hb : b < h.bn) (hbx : h.bx b = some [.int .i64 args]) : SCall Try.prog 136 [.agg (encKeyT k), .ptr b 0] h (.bool (!mayKey k args)) h := by
  refine SCall.ro (CallP.run hb136 ok136 (by simp) ?_) (.bool _)
  simp -implicitDefEqProofs [hbx, encKeyT, show ¬ b = h.bn by omega, show b < h.bn + 1 by omega]
  refine callQ_p (mayKey_ok k args) (by simp [encKeyT]) ?_
  simp -implicitDefEqProofs []
  exact HF.alloc _ _ _ _

theorem eqInst_f {x y : Inst} (h : x ≠ y) : (decide (x.op = y.op) && (decide (x.a = y.a) && (decide (x.b = y.b) && (decide (x.c = y.c) && (decide (x.k.arg = y.k.arg) && (decide (x.k.base = y.k.base) && (decide (x.l.arg = y.l.arg) && (decide (x.l.base = y.l.base) && decide (x.x = y.x))))))))) = false := by
  rw [Bool.eq_false_iff]
  intro hc
  apply h
  simp only [Bool.and_eq_true, decide_eq_true_eq] at hc
  rcases x with ⟨a, b, c, d, ⟨e, f⟩, ⟨g, i⟩, j⟩
  rcases y with ⟨a', b', c', d', ⟨e', f'⟩, ⟨g', i'⟩, j'⟩
  simp_all

theorem may_ok (x : Inst) (args : Int) : PCall Try.prog 104 [.agg (encInst x), .int .i64 args] (.bool (mayI x args)) := by
  refine PCall.run hb104 ok104 (by simp) (pures_cons (pureInst x) (pures1 (.int _ _))) (.bool _) ?_
  simp -implicitDefEqProofs [encInst, H.nil]
  refine callQ_p (only_ok x) (by simp [encInst]) ?_
  cases e : (onlyI x).2
  · simp -implicitDefEqProofs [encInst, mayI, e]
  simp -implicitDefEqProofs [encInst]
  by_cases hq : x = (onlyI x).1
  rotate_left
  · have hch := eqInst_f hq
    rw [hch]
    simp -implicitDefEqProofs [mayI, hq]
  have hq' : (onlyI x).1 = x := hq.symm
  simp -implicitDefEqProofs [hq']
  refine callQ_p (register_ok x.a) (by simp) ?_
  cases ra : isReg x.a
  · simp -implicitDefEqProofs [mayI, ra, hq']
  simp -implicitDefEqProofs [hq']
  refine callQ_p (register_ok x.b) (by simp) ?_
  cases rb : isReg x.b
  · simp -implicitDefEqProofs [mayI, rb, hq']
  simp -implicitDefEqProofs [hq']
  refine callQ_p (register_ok x.c) (by simp) ?_
  cases rc : isReg x.c
  · simp -implicitDefEqProofs [mayI, rc, hq']
  simp -implicitDefEqProofs [hq']
  refine callQ_p (keys_ok x) (by simp [encInst]) ?_
  simp -implicitDefEqProofs [hq']
  refine callQ_s (contains_gen hb139 ok139 hb152 ok152 elOK_KeyT (keysI x) (by unfold keysI; split; simp; split <;> simp) (first := []) (caps := [.ptr 1 0]) (p := fun k => !mayKey k args) rfl (by simp) (fun k _ => may1_ok k args (by simp) (by simp))) (by simp) ?_
  simp -implicitDefEqProofs [mayI, e, hq', ra, rb, rc]
end Go.Proofs

/- Which programs and footprints there may be: the program's answer is the document's. -/
namespace Go.Proofs
open Go Go.RowKit Go.Am

theorem isReg_iff (n : Int) : isReg n = true ↔ 0 ≤ n ∧ n ≤ 3 := by simp [isReg]
theorem mayI_one (x : Inst) (args : Int) : mayI x args = oneInst x args := by
  rcases x with ⟨op, a, b, c, ⟨ka, kb⟩, ⟨la, lb⟩, y⟩
  have z0 : isReg 0 = true := by decide
  by_cases h1 : op = 1 ∨ op = 2
  · have h2 : op = 1 ∨ op = 2 ∨ op = 3 := by omega
    simp only [mayI, oneInst, onlyI, keysI, if_pos h1, if_pos h2, zeroK, keyNone]
    rw [Bool.eq_iff_iff]
    simp
    intro hk
    constructor
    · rintro ⟨⟨⟨⟨rfl, rfl, ⟨rfl, rfl⟩, rfl⟩, ha⟩, hb⟩, hc⟩
      simp [ha]
    · rintro ⟨⟨⟨⟨ha, rfl⟩, rfl⟩, rfl⟩, rfl, rfl⟩
      simp [ha, z0]
  by_cases h3 : op = 3
  · have h2 : op = 1 ∨ op = 2 ∨ op = 3 := by omega
    simp only [mayI, oneInst, onlyI, keysI, if_neg h1, if_pos h3, if_pos h2, zeroK, keyNone]
    rw [Bool.eq_iff_iff]
    simp
    intro hk
    constructor
    · rintro ⟨⟨⟨⟨rfl, rfl, rfl, ⟨rfl, rfl⟩, rfl⟩, ha⟩, hb⟩, hc⟩
      simp
    · rintro ⟨⟨⟨⟨rfl, rfl⟩, rfl⟩, rfl⟩, rfl, rfl⟩
      simp [z0]
  have h2 : ¬ (op = 1 ∨ op = 2 ∨ op = 3) := by omega
  by_cases h4 : op = 4
  · simp only [mayI, oneInst, onlyI, keysI, if_neg h1, if_neg h3, if_pos h4, if_neg h2, zeroK, keyNone]
    rw [Bool.eq_iff_iff]
    simp
    constructor
    · rintro ⟨⟨⟨⟨⟨rfl, rfl, rfl⟩, ha⟩, hb⟩, hc⟩, hk, hl⟩
      simp [ha, hk, hl]
    · rintro ⟨⟨⟨⟨⟨ha, rfl⟩, rfl⟩, rfl⟩, hk⟩, hl⟩
      simp [ha, hk, hl, z0]
  by_cases h5 : op = 5 ∨ op = 8
  · simp only [mayI, oneInst, onlyI, keysI, if_neg h1, if_neg h3, if_neg h4, if_neg h2, if_pos h5, zeroK, keyNone]
    rw [Bool.eq_iff_iff]
    simp
    constructor
    · rintro ⟨⟨⟨⟨rfl, rfl, ⟨rfl, rfl⟩, ⟨rfl, rfl⟩⟩, ha⟩, hb⟩, hc⟩
      simp [ha]
    · rintro ⟨⟨⟨⟨ha, rfl⟩, rfl⟩, rfl, rfl⟩, rfl, rfl⟩
      simp [ha, z0]
  by_cases h6 : op = 6 ∨ op = 7
  · simp only [mayI, oneInst, onlyI, keysI, if_neg h1, if_neg h3, if_neg h4, if_neg h2, if_neg h5, if_pos h6, zeroK, keyNone]
    rw [Bool.eq_iff_iff]
    simp
    constructor
    · rintro ⟨⟨⟨⟨⟨rfl, rfl⟩, ⟨rfl, rfl⟩, rfl⟩, ha⟩, hb⟩, hc⟩
      simp [ha, hb, hc]
    · rintro ⟨⟨⟨⟨⟨ha, rfl⟩, hb⟩, hc⟩, rfl, rfl⟩, rfl, rfl⟩
      simp [ha, hb, hc]
  simp only [mayI, oneInst, onlyI, keysI, if_neg h1, if_neg h3, if_neg h4, if_neg h2, if_neg h5, if_neg h6]
  simp

theorem May1_ok (x : Inst) (args : Int) {h : H} {b : Nat} (hb : b < h.bn) (hbx : h.bx b = some [.int .i64 args]) : SCall Try.prog 103 [.agg (encInst x), .ptr b 0] h (.bool (!oneInst x args)) h := by
  refine SCall.ro (CallP.run hb103 ok103 (by simp) ?_) (.bool _)
  simp -implicitDefEqProofs [hbx, encInst, show ¬ b = h.bn by omega, show b < h.bn + 1 by omega]
  refine callQ_p (may_ok x args) (by simp [encInst]) ?_
  simp -implicitDefEqProofs [mayI_one]
  exact HF.alloc _ _ _ _

theorem any_not {α : Type} (l : List α) (p : α → Bool) : (!l.any fun x => !p x) = l.all p := by
  rw [Bool.eq_iff_iff]; simp

theorem progMay_ok (l : List Inst) (args : Int) (hl : l.length ≤ 9223372036854775807) : PCall Try.prog 46 [.sl .no (l.map encInst), .int .i64 args] (.bool (progMay l args)) := by
  refine PCall.run hb46 ok46 (by simp) (pures_cons (elOK_Inst.pureL l) (pures1 (.int _ _))) (.bool _) ?_
  by_cases bad : ((args < 0 ∨ 3 < args) ∨ (l.length : Int) < 1) ∨ (8 : Int) < (l.length : Int)
  · have hf : progMay l args = false := by
      simp only [progMay, Bool.and_eq_false_iff, Bool.not_eq_false', decide_eq_true_eq]
      omega
    simp (maxSteps := 2000000) +contextual -implicitDefEqProofs [↓gdL_T, ↓gdL_F, ↓condQ_b, -Int.not_lt, -Int.not_le, -Nat.not_lt, -Nat.not_le, hf, H.nil]
    all_goals (intros; omega)
  · have hm : progMay l args = l.all fun x => oneInst x args := by
      simp only [progMay, show ¬ args < 0 by omega, show ¬ 3 < args by omega, show ¬ l.length < 1 by omega, show ¬ 8 < l.length by omega]
      simp
    simp -implicitDefEqProofs [H.nil, show ¬ args < 0 by omega, show ¬ 3 < args by omega, show ¬ (l.length : Int) < 1 by omega, show ¬ (8 : Int) < (l.length : Int) by omega, hm]
    refine callQ_s (contains_gen hb53 ok53 hb108 ok108 elOK_Inst l hl (first := []) (caps := [.ptr 0 0]) (p := fun x => !oneInst x args) rfl (by simp) (fun x _ => May1_ok x args (by simp) (by simp))) (by simp) ?_
    simp -implicitDefEqProofs [any_not]

def sureI (x : Inst) : Bool := !(decide (x.op = 6) || decide (x.op = 7) || decide (x.op = 8))
theorem Sure1_ok (x : Inst) : PCall Try.prog 144 [.agg (encInst x)] (.bool (!sureI x)) := by
  refine PCall.run hb144 ok144 (by simp) (pures1 (pureInst x)) (.bool _) ?_
  by_cases h6 : x.op = 6
  · simp -implicitDefEqProofs [encInst, sureI, h6]
  by_cases h7 : x.op = 7
  · simp -implicitDefEqProofs [encInst, sureI, h7]
  simp -implicitDefEqProofs [encInst, sureI, h6, h7]
theorem sure_ok (l : List Inst) (hl : l.length ≤ 9223372036854775807) : PCall Try.prog 128 [.sl .no (l.map encInst)] (.bool (l.all sureI)) := by
  refine PCall.run hb128 ok128 (by simp) (pures1 (elOK_Inst.pureL l)) (.bool _) ?_
  simp -implicitDefEqProofs []
  refine callQ_s (contains_gen hb53 ok53 hb108 ok108 elOK_Inst l hl (first := []) (caps := []) (p := fun x => !sureI x) rfl rfl (fun x _ => Sure1_ok x _)) (by simp) ?_
  simp -implicitDefEqProofs [any_not]

theorem reads_ok (k : KeyT) : PCall Try.prog 106 [.agg (encKeyT k)] (.sl .no ([(⟨1, 0, 0, 0, k, zeroK, 0⟩ : Inst)].map encInst)) := by
  refine PCall.run hb106 ok106 (by simp) (pures1 (pureKey k)) (elOK_Inst.pureL _) ?_
  simp -implicitDefEqProofs [encKeyT, encInst, zeroK, H.nil]
theorem progMay_reads (k : KeyT) {args : Int} (h0 : 0 ≤ args) (h3 : args ≤ 3) : progMay [(⟨1, 0, 0, 0, k, zeroK, 0⟩ : Inst)] args = mayKey k args := by
  have z0 : isReg 0 = true := by decide
  simp [progMay, oneInst, z0, zeroK, keyNone]
  intro; omega
end Go.Proofs

/- Which footprints there may be: the program's answer; what may compensate. -/
namespace Go.Proofs
open Go Go.RowKit Go.Am

theorem footMay1_ok (x : SpanT) {args : Int} (a0 : 0 ≤ args) (a3 : args ≤ 3) {h : H} {b : Nat} (hb : b < h.bn) (hbx : h.bx b = some [.int .i64 args]) : SCall Try.prog 105 [.agg (encSpanT x), .ptr b 0] h (.bool (!(mayKey x.lo args && mayKey x.hi args))) h := by
  refine SCall.ro (CallP.run hb105 ok105 (by simp) ?_) (.bool _)
  simp -implicitDefEqProofs [encSpanT]
  refine run_dregL c105_d2 rfl ?_
  simp -implicitDefEqProofs []
  refine callC_p (reads_ok x.lo) (by simp [encKeyT]) ?_
  simp -implicitDefEqProofs [hbx, show ¬ b = h.bn by omega, show b < h.bn + 1 by omega]
  refine callC_p (progMay_ok [(⟨1, 0, 0, 0, x.lo, zeroK, 0⟩ : Inst)] args (by simp)) (by simp [encInst]) ?_
  rw [progMay_reads x.lo a0 a3]
  cases e : mayKey x.lo args
  · simp -implicitDefEqProofs []
    exact HF.alloc _ _ _ _
  simp -implicitDefEqProofs []
  refine callC_p (reads_ok x.hi) (by simp [encKeyT]) ?_
  simp -implicitDefEqProofs [hbx, show ¬ b = h.bn by omega, show b < h.bn + 1 by omega]
  refine callC_p (progMay_ok [(⟨1, 0, 0, 0, x.hi, zeroK, 0⟩ : Inst)] args (by simp)) (by simp [encInst]) ?_
  rw [progMay_reads x.hi a0 a3]
  simp -implicitDefEqProofs []
  exact HF.alloc _ _ _ _

theorem footMay_ok (l : List SpanT) (args : Int) (hl : l.length ≤ 9223372036854775807) : PCall Try.prog 47 [.sl .no (l.map encSpanT), .int .i64 args] (.bool (footMay l args)) := by
  refine PCall.run hb47 ok47 (by simp) (pures_cons (elOK_SpanT.pureL l) (pures1 (.int _ _))) (.bool _) ?_
  by_cases a0 : 0 ≤ args
  rotate_left
  · simp -implicitDefEqProofs [H.nil, a0, footMay, show args < 0 by omega]
  by_cases a3 : args ≤ 3
  rotate_left
  · simp -implicitDefEqProofs [H.nil, a0, a3, footMay, show 3 < args by omega]
  by_cases a4 : (l.length : Int) ≤ 4
  rotate_left
  · simp -implicitDefEqProofs [H.nil, a0, a3, a4, footMay, show 4 < l.length by omega]
  have hm : footMay l args = l.all fun s => mayKey s.lo args && mayKey s.hi args := by
    simp only [footMay, show ¬ args < 0 by omega, show ¬ 3 < args by omega, show ¬ 4 < l.length by omega]
    simp
  simp -implicitDefEqProofs [H.nil, a0, a3, a4]
  refine callQ_s (contains_gen hb50 ok50 hb107 ok107 elOK_SpanT l hl (first := []) (caps := [.ptr 0 0]) (p := fun x => !(mayKey x.lo args && mayKey x.hi args)) rfl (by simp) (fun x _ => footMay1_ok x a0 a3 (by simp) (by simp))) (by simp) ?_
  have ha := any_not l fun x : SpanT => mayKey x.lo args && mayKey x.hi args
  rw [hm]
  simp -implicitDefEqProofs []
  rw [← ha, Bool.not_not]
  congr 1
  funext x
  simp

def compMay (c : Stp) (args : Int) : Bool := (decide (c.code.length = 0) || (progMay c.code args && c.code.all sureI)) && footMay c.foot args
theorem mayComp_ok (c : Stp) (args : Int) (hc : c.wf) : PCall Try.prog 87 [.agg (encStp c), .int .i64 args] (.bool (compMay c args)) := by
  refine PCall.run hb87 ok87 (by simp) (pures_cons (.agg (pure_encStp c)) (pures1 (.int _ _))) (.bool _) ?_
  have h1 := hc.1.1
  have h2 := hc.2.1
  simp only [maxLen] at h1 h2
  by_cases e : c.code.length = 0
  · simp -implicitDefEqProofs [encStp, H.nil, e]
    refine callQ_p (footMay_ok c.foot args h2) (by simp) ?_
    simp -implicitDefEqProofs [compMay, e]
  · simp -implicitDefEqProofs [encStp, H.nil, e]
    refine callQ_p (progMay_ok c.code args h1) (by simp) ?_
    cases hp : progMay c.code args
    · simp -implicitDefEqProofs [compMay, e, hp]
    simp -implicitDefEqProofs []
    refine callQ_p (sure_ok c.code h1) (by simp) ?_
    cases hs : c.code.all sureI
    · simp -implicitDefEqProofs [compMay, e, hp, hs]
    simp -implicitDefEqProofs []
    refine callQ_p (footMay_ok c.foot args h2) (by simp) ?_
    simp -implicitDefEqProofs [compMay, e, hp, hs]

theorem one_ops {x : Inst} {args : Int} (h : oneInst x args = true) : decide (x.op < 6) = sureI x := by
  have : 1 ≤ x.op ∧ x.op ≤ 8 := by
    by_cases hq : 1 ≤ x.op ∧ x.op ≤ 8
    · exact hq
    · simp only [oneInst] at h
      rw [if_neg (by omega), if_neg (by omega), if_neg (by omega), if_neg (by omega), if_neg (by omega)] at h
      cases h
  rw [Bool.eq_iff_iff]
  simp [sureI]
  omega
theorem comp_back (c : Stp) (args : Int) : compMay c args = (footMay c.foot args && backMay c args) := by
  rw [compMay, backMay, Bool.and_comm]
  congr 1
  by_cases h0 : c.code.length = 0
  · have : c.code = [] := List.length_eq_zero_iff.1 h0
    simp [this]
  · have h1 : 0 < c.code.length := by omega
    simp only [h0, h1, decide_false, decide_true, Bool.false_or, Bool.not_true]
    cases hp : progMay c.code args
    · rfl
    · simp only [Bool.true_and]
      simp only [progMay, Bool.and_eq_true] at hp
      have ho := hp.2
      rw [List.all_eq_true] at ho
      rw [Bool.eq_iff_iff, List.all_eq_true, List.all_eq_true]
      constructor
      · intro h x hx; rw [one_ops (ho x hx)]; exact h x hx
      · intro h x hx; rw [← one_ops (ho x hx)]; exact h x hx
end Go.Proofs

/- The steps of a class, over which one ranges; which classes there may be: the program's answer. -/
namespace Go.Proofs
open Go Go.RowKit Go.Am

theorem each_ok (c : Cls) (h : H) : SCall Try.prog 86 [.agg (encCls c)] h (.fn 127 [] [.ptr h.bn 0]) (h.alloc (encCls c)) := by
  refine SCall.newG (fun b => .fn 127 [] [.ptr b 0]) (fun _ _ _ _ _ _ _ h1 h2 => Low.fn1 (Low.ptr h1 h2)) (CallP.run hb86 ok86 (by simp) ?_) (pure_encCls c)
  simp -implicitDefEqProofs [encCls]
  exact ⟨HF.alloc _ _ _ _, WkL.refl _⟩

/-- One round after the other, as long as one goes on. -/
theorem each1_ok (c : Cls) (hl : c.comps.length = c.steps.length) (hm : c.steps.length ≤ 9223372036854775807) {l b : Nat} {h : H} (I : Nat → H → Prop) (J : H → Prop) (hI : ∀ k h', I k h' → b < h'.bn ∧ h'.bx b = some (encCls c)) (hJ : ∀ h', J h' → b < h'.bn ∧ h'.bx b = some (encCls c))
    (hr : ∀ k h' (h1 : k < c.steps.length) (h2 : k < c.comps.length), I k h' → ∃ r h'', SYld Try.prog l [.agg (encStp c.steps[k]), .agg (encStp c.comps[k])] h' (.bool r) h'' ∧ (r = true → I (k + 1) h'') ∧ (r = false → J h''))
    (h0 : I 0 h) : CallP Try.prog 127 [.yld l, .ptr b 0] h fun _ h1 => I c.steps.length h1 ∨ J h1 := by
  refine CallP.run hb127 ok127 (by simp) ?_
  obtain ⟨b1, b2⟩ := hI _ _ h0
  simp -implicitDefEqProofs [b1, b2, encCls, hl]
  refine run_loop (fun m s h1 => ∃ j : Nat, m = c.steps.length - j ∧ j ≤ c.steps.length ∧ s 0 = .yld l ∧ s 1 = .ptr b 0 ∧ s 10 = .int .i64 c.steps.length ∧ s 11 = .int .i64 j ∧ I j h1) ?_ c.steps.length ?_
  rotate_left
  · exact ⟨0, by simpa using h0⟩
  rintro m s h1 ⟨j, hn, hj, s0, s1, s10, s11, hi⟩ ih
  by_cases hlt : j < c.steps.length
  · have hlt2 : j < c.comps.length := by omega
    obtain ⟨b1, b2⟩ := hI _ _ hi
    rw [encCls] at b2
    simp -implicitDefEqProofs [s10, s11, hlt]
    refine run_dreg c127_d4 ?_
    simp -implicitDefEqProofs [s0, s1, b1, b2, hlt, hlt2, encStp]
    obtain ⟨r, h2, q1, q2, q3⟩ := hr j h1 hlt hlt2 hi
    refine callD_y q1 (by simp [encStp]) ?_
    cases r
    · obtain ⟨b3, b4⟩ := hJ _ (q3 rfl)
      rw [encCls] at b4
      simp -implicitDefEqProofs [b1, b2, b3, b4]
      exact Or.inr (q3 rfl)
    · obtain ⟨b3, b4⟩ := hI _ _ (q2 rfl)
      rw [encCls] at b4
      simp -implicitDefEqProofs [b1, b2, b3, b4, s11, inc_i64 hlt hm, -Int.natCast_add]
      exact ih (c.steps.length - (j + 1)) _ _ (by omega) ⟨j + 1, rfl, by omega, by simp [s0], by simp [s1], by simp [s10], by simp, q2 rfl⟩
  · obtain rfl : j = c.steps.length := by omega
    simp -implicitDefEqProofs [s10, s11]
    exact Or.inl hi
end Go.Proofs
