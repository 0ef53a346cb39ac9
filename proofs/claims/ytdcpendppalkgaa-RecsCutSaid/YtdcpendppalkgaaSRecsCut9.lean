/- What the functions that the statement reaches do: their contracts; and what follows of it. -/
import Derived.Test.YtdcpendppalkgaaSRecsCut8
import Derived.Test.YtdcpendppalkgaaSRecsCut7
/- The program's readers of lists of numbers, spans and changes. -/
namespace Go.Proofs
open Go Go.RowKit Go.Am

set_option maxHeartbeats 1000000 in
theorem getSpn_rd {h : H} {b c : Nat} {s : RS} (hr : RIs h b s) (hcl : c < h.bn) (hcb : ¬ c = b) (hcx : h.bx c = some [.ptr b 0]) : RdQ 119 [.ptr c 0] h b s rdSpn (fun x => .agg (encSpn x)) := by
  refine RdQ.mk' hr (fun x => .agg (pure_encSpn x)) (CallP.run hb119 ok119 (by simp) ?_)
  have hb := hr.blt
  have z : ¬ c = h.bn := by omega
  have zb : ¬ b = h.bn := by omega
  have zb' : ¬ h.bn = b := by omega
  have f1 := count_rd (hr.alloc [.int .i64 0, .int .i64 0]) (most := 999) (by simp [inI])
  have g1 := Got.runS (rdCount 999) 0 s
  have q1 := f1.to
  have c1 := f1.call
  clear f1
  generalize runS (rdCount 999) 0 s = x1 at g1 q1 c1
  obtain ⟨v1, u1⟩ := x1
  simp only at g1 q1 c1
  have f2 := count_rd q1.is (most := 999) (by simp [inI])
  have g2 := Got.runS (rdCount 999) 0 u1
  have q2 := f2.to
  have c2 := f2.call
  clear f2
  generalize runS (rdCount 999) 0 u1 = x2 at g2 q2 c2
  obtain ⟨v2, u2⟩ := x2
  simp only at g2 q2 c2
  simp -implicitDefEqProofs []
  refine run_dreg c119_d2 ?_
  simp -implicitDefEqProofs [hcx, hcl, hcb, z, show c < h.bn + 1 by omega]
  refine callD_s c1 (by simp) ?_
  simp -implicitDefEqProofs [hcx, hcl, hcb, z, zb, zb', show c < h.bn + 1 by omega]
  refine callD_s c2 (by simp) ?_
  simp -implicitDefEqProofs [hcx, hcl, hcb, z, zb, zb', show c < h.bn + 1 by omega]
  refine ⟨⟨v1, v2⟩, rfl, u2, (((RTo.al (RTo.refl hr) _).trans (q1.trans q2)).so (Nat.le_refl _) hb _).fin, q2.is.bd, ?_⟩
  exact g1.bind (g2.bind (Got.pure _ _))

set_option maxHeartbeats 1000000 in
theorem getChg_rd {h : H} {b c : Nat} {s : RS} (hr : RIs h b s) (hcl : c < h.bn) (hcb : ¬ c = b) (hcx : h.bx c = some [.ptr b 0]) : RdQ 123 [.ptr c 0] h b s rdChg (fun x => .agg (encChg x)) := by
  refine RdQ.mk' hr (fun x => .agg (pure_encChg x)) (CallP.run hb123 ok123 (by simp) ?_)
  have hb := hr.blt
  have z : ¬ c = h.bn := by omega
  have zb : ¬ b = h.bn := by omega
  have zb' : ¬ h.bn = b := by omega
  have f1 := count_rd (hr.alloc [.int .i64 0, .bool false, .int .i64 0]) (most := 999) (by simp [inI])
  have g1 := Got.runS (rdCount 999) 0 s
  have q1 := f1.to
  have c1 := f1.call
  clear f1
  generalize runS (rdCount 999) 0 s = x1 at g1 q1 c1
  obtain ⟨v1, u1⟩ := x1
  simp only at g1 q1 c1
  have f2 := flag_rd q1.is
  have g2 := Got.runS (rdFlag) false u1
  have q2 := f2.to
  have c2 := f2.call
  clear f2
  generalize runS (rdFlag) false u1 = x2 at g2 q2 c2
  obtain ⟨v2, u2⟩ := x2
  simp only at g2 q2 c2
  have f3 := signed_rd q2.is
  have g3 := Got.runS (rdSigned) 0 u2
  have q3 := f3.to
  have c3 := f3.call
  clear f3
  generalize runS (rdSigned) 0 u2 = x3 at g3 q3 c3
  obtain ⟨v3, u3⟩ := x3
  simp only at g3 q3 c3
  simp -implicitDefEqProofs []
  refine run_dreg c123_d2 ?_
  simp -implicitDefEqProofs [hcx, hcl, hcb, z, show c < h.bn + 1 by omega]
  refine callD_s c1 (by simp) ?_
  simp -implicitDefEqProofs [hcx, hcl, hcb, z, zb, zb', show c < h.bn + 1 by omega]
  refine callD_s c2 (by simp) ?_
  simp -implicitDefEqProofs [hcx, hcl, hcb, z, zb, zb', show c < h.bn + 1 by omega]
  refine callD_s c3 (by simp) ?_
  simp -implicitDefEqProofs [hcx, hcl, hcb, z, zb, zb', show c < h.bn + 1 by omega]
  refine ⟨⟨v1, v2, v3⟩, rfl, u3, (((RTo.al (RTo.refl hr) _).trans ((q1.trans q2).trans q3)).so (Nat.le_refl _) hb _).fin, q3.is.bd, ?_⟩
  exact g1.bind (g2.bind (g3.bind (Got.pure _ _)))

theorem getArg_rd {h : H} {b c : Nat} {s : RS} (hr : RIs h b s) (hcl : c < h.bn) (hcx : h.bx c = some [.ptr b 0]) : RdQ 74 [.ptr c 0] h b s (rdCount 99) (.int .i64) := by
  refine RdQ.mk' hr (fun x => .int _ _) (CallP.run hb74 ok74 (by simp) ?_)
  simp -implicitDefEqProofs [hcx, hcl]
  refine callQ_r (count_rd (most := 99) hr (by simp [inI])).q (by simp) fun a s1 q1 g1 => ?_
  simp -implicitDefEqProofs []
  exact ⟨s1, q1.fin, q1.is.bd, g1⟩

set_option maxHeartbeats 1000000 in
theorem read_int {h : H} {b : Nat} {s : RS} (hr : RIs h b s) (most : Int) (h0 : 0 ≤ most) (hm : most ≤ 100) (F : FuncId) (first caps : List AV) (hf : first.map wk = first) (hc : caps.map wk = caps) (p : Rd Int) (one : ∀ (h1 : H) (s1 : RS), RTo h b h1 s1 → RdQ F (first ++ caps) h1 b s1 p (.int .i64)) :
    RdQ 73 [.ptr b 0, .int .i64 most, .fn F first caps] h b s ((rdCount most).bind fun n => Rd.rep p n.toNat) (fun l => .sl .no (l.map encN)) := by
  refine RdQ.mk' hr (fun l => elOK_N.pureL l) (CallP.run hb73 ok73 (by simp) ?_)
  have hb := hr.blt
  simp -implicitDefEqProofs []
  have hn := count_rd hr (most := most) (by simp only [inI]; omega)
  refine callQ_s hn.call (by simp) ?_
  have q := hn.to
  have g := Got.runS (rdCount most) 0 s
  have hin := rdCount_in (most := most) (by simp only [inI]; omega) s
  clear hn
  generalize runS (rdCount most) 0 s = x at q g hin ⊢
  obtain ⟨n, s1⟩ := x
  simp only at q g hin
  obtain ⟨N, rfl⟩ := Int.eq_ofNat_of_zero_le hin.1
  have hN : N ≤ 100 := by omega
  simp -implicitDefEqProofs []
  refine run_loop (fun m S h1 => ∃ (j : Nat) (sj : RS) (L : List Int) (t : Tok), m = N - j ∧ j ≤ N ∧ S 2 = .fn F first caps ∧ S 7 = .sl t (L.map encN) ∧ S 10 = .int .i64 N ∧ S 11 = .int .i64 j ∧ RLoop h b s1 p j h1 sj L t) ?_ N ?_
  rotate_left
  · exact ⟨0, s1, [], .full, rfl, Nat.zero_le _, by simp, by simp, by simp, by simp, RLoop.start q⟩
  rintro m S h1 ⟨j, sj, L, t, hm', hj, t2, t7, t10, t11, hL⟩ ih
  by_cases hlt : j < N
  · simp -implicitDefEqProofs [t2, t7, t10, t11, hlt]
    refine callQ_r (one h1 sj hL.to) (by simp [hf, hc]) fun v u1 q1 g1 => ?_
    simp -implicitDefEqProofs [encN]
    refine appQ_tok (t := t) (es := L.map encN) (es2 := [encN v]) (by simpa [hL.len] using hL.live) (by simp [encN]) (by simp [srcA, encN]) (by simp [hL.len]; omega) fun t' h3 p1 p2 p3 p4 => ?_
    have hl2 := hL.next g1 (h2 := _) (h3 := h3) (t' := t') (hL.to.trans q1) (by simpa [hL.len] using p1) p2 p3
    simp -implicitDefEqProofs [t11, inc_i64 hlt (show N ≤ _ by omega), -Int.natCast_add]
    exact ih (N - (j + 1)) _ _ (by omega) ⟨j + 1, u1, _, t', rfl, by omega, by simp [t2], by simp, by simp [t10], by simp, hl2⟩
  · obtain rfl : j = N := by omega
    simp -implicitDefEqProofs [t7, t10, t11]
    exact ⟨L, by simp, sj, hL.to.fin, hL.to.is.bd, g.bind (by rw [Int.toNat_natCast]; exact hL.got)⟩

set_option maxHeartbeats 1000000 in
theorem read_spn {h : H} {b : Nat} {s : RS} (hr : RIs h b s) (most : Int) (h0 : 0 ≤ most) (hm : most ≤ 100) (F : FuncId) (first caps : List AV) (hf : first.map wk = first) (hc : caps.map wk = caps) (p : Rd Spn) (one : ∀ (h1 : H) (s1 : RS), RTo h b h1 s1 → RdQ F (first ++ caps) h1 b s1 p (fun x => .agg (encSpn x))) :
    RdQ 120 [.ptr b 0, .int .i64 most, .fn F first caps] h b s ((rdCount most).bind fun n => Rd.rep p n.toNat) (fun l => .sl .no (l.map encSpn)) := by
  refine RdQ.mk' hr (fun l => elOK_Spn.pureL l) (CallP.run hb120 ok120 (by simp) ?_)
  have hb := hr.blt
  simp -implicitDefEqProofs []
  have hn := count_rd hr (most := most) (by simp only [inI]; omega)
  refine callQ_s hn.call (by simp) ?_
  have q := hn.to
  have g := Got.runS (rdCount most) 0 s
  have hin := rdCount_in (most := most) (by simp only [inI]; omega) s
  clear hn
  generalize runS (rdCount most) 0 s = x at q g hin ⊢
  obtain ⟨n, s1⟩ := x
  simp only at q g hin
  obtain ⟨N, rfl⟩ := Int.eq_ofNat_of_zero_le hin.1
  have hN : N ≤ 100 := by omega
  simp -implicitDefEqProofs []
  refine run_loop (fun m S h1 => ∃ (j : Nat) (sj : RS) (L : List Spn) (t : Tok), m = N - j ∧ j ≤ N ∧ S 2 = .fn F first caps ∧ S 7 = .sl t (L.map encSpn) ∧ S 10 = .int .i64 N ∧ S 11 = .int .i64 j ∧ RLoop h b s1 p j h1 sj L t) ?_ N ?_
  rotate_left
  · exact ⟨0, s1, [], .full, rfl, Nat.zero_le _, by simp, by simp, by simp, by simp, RLoop.start q⟩
  rintro m S h1 ⟨j, sj, L, t, hm', hj, t2, t7, t10, t11, hL⟩ ih
  by_cases hlt : j < N
  · simp -implicitDefEqProofs [t2, t7, t10, t11, hlt]
    refine callQ_r (one h1 sj hL.to) (by simp [hf, hc]) fun v u1 q1 g1 => ?_
    simp -implicitDefEqProofs [encSpn]
    refine appQ_tok (t := t) (es := L.map encSpn) (es2 := [encSpn v]) (by simpa [hL.len] using hL.live) (by simp [encSpn]) (by simp [srcA, encSpn]) (by simp [hL.len]; omega) fun t' h3 p1 p2 p3 p4 => ?_
    have hl2 := hL.next g1 (h2 := _) (h3 := h3) (t' := t') (hL.to.trans q1) (by simpa [hL.len] using p1) p2 p3
    simp -implicitDefEqProofs [t11, inc_i64 hlt (show N ≤ _ by omega), -Int.natCast_add]
    exact ih (N - (j + 1)) _ _ (by omega) ⟨j + 1, u1, _, t', rfl, by omega, by simp [t2], by simp, by simp [t10], by simp, hl2⟩
  · obtain rfl : j = N := by omega
    simp -implicitDefEqProofs [t7, t10, t11]
    exact ⟨L, by simp, sj, hL.to.fin, hL.to.is.bd, g.bind (by rw [Int.toNat_natCast]; exact hL.got)⟩

set_option maxHeartbeats 1000000 in
theorem read_chg {h : H} {b : Nat} {s : RS} (hr : RIs h b s) (most : Int) (h0 : 0 ≤ most) (hm : most ≤ 100) (F : FuncId) (first caps : List AV) (hf : first.map wk = first) (hc : caps.map wk = caps) (p : Rd Chg) (one : ∀ (h1 : H) (s1 : RS), RTo h b h1 s1 → RdQ F (first ++ caps) h1 b s1 p (fun x => .agg (encChg x))) :
    RdQ 122 [.ptr b 0, .int .i64 most, .fn F first caps] h b s ((rdCount most).bind fun n => Rd.rep p n.toNat) (fun l => .sl .no (l.map encChg)) := by
  refine RdQ.mk' hr (fun l => elOK_Chg.pureL l) (CallP.run hb122 ok122 (by simp) ?_)
  have hb := hr.blt
  simp -implicitDefEqProofs []
  have hn := count_rd hr (most := most) (by simp only [inI]; omega)
  refine callQ_s hn.call (by simp) ?_
  have q := hn.to
  have g := Got.runS (rdCount most) 0 s
  have hin := rdCount_in (most := most) (by simp only [inI]; omega) s
  clear hn
  generalize runS (rdCount most) 0 s = x at q g hin ⊢
  obtain ⟨n, s1⟩ := x
  simp only at q g hin
  obtain ⟨N, rfl⟩ := Int.eq_ofNat_of_zero_le hin.1
  have hN : N ≤ 100 := by omega
  simp -implicitDefEqProofs []
  refine run_loop (fun m S h1 => ∃ (j : Nat) (sj : RS) (L : List Chg) (t : Tok), m = N - j ∧ j ≤ N ∧ S 2 = .fn F first caps ∧ S 7 = .sl t (L.map encChg) ∧ S 10 = .int .i64 N ∧ S 11 = .int .i64 j ∧ RLoop h b s1 p j h1 sj L t) ?_ N ?_
  rotate_left
  · exact ⟨0, s1, [], .full, rfl, Nat.zero_le _, by simp, by simp, by simp, by simp, RLoop.start q⟩
  rintro m S h1 ⟨j, sj, L, t, hm', hj, t2, t7, t10, t11, hL⟩ ih
  by_cases hlt : j < N
  · simp -implicitDefEqProofs [t2, t7, t10, t11, hlt]
    refine callQ_r (one h1 sj hL.to) (by simp [hf, hc]) fun v u1 q1 g1 => ?_
    simp -implicitDefEqProofs [encChg]
    refine appQ_tok (t := t) (es := L.map encChg) (es2 := [encChg v]) (by simpa [hL.len] using hL.live) (by simp [encChg]) (by simp [srcA, encChg]) (by simp [hL.len]; omega) fun t' h3 p1 p2 p3 p4 => ?_
    have hl2 := hL.next g1 (h2 := _) (h3 := h3) (t' := t') (hL.to.trans q1) (by simpa [hL.len] using p1) p2 p3
    simp -implicitDefEqProofs [t11, inc_i64 hlt (show N ≤ _ by omega), -Int.natCast_add]
    exact ih (N - (j + 1)) _ _ (by omega) ⟨j + 1, u1, _, t', rfl, by omega, by simp [t2], by simp, by simp [t10], by simp, hl2⟩
  · obtain rfl : j = N := by omega
    simp -implicitDefEqProofs [t7, t10, t11]
    exact ⟨L, by simp, sj, hL.to.fin, hL.to.is.bd, g.bind (by rw [Int.toNat_natCast]; exact hL.got)⟩

end Go.Proofs

/- The drawn region in which a step's head is read: the new box may be made at any time. -/
namespace Go.Proofs
open Go Go.RowKit Go.Am

/-- What is left of the words, when these operations are done. -/
def stD (s u1 u2 u3 u4 : RS) (done : List Nat) : RS := if 7 ∈ done then u4 else if 5 ∈ done then u3 else if 3 ∈ done then u2 else if 1 ∈ done then u1 else s
structure D2I (h : H) (b : Nat) (s0 : Slots) (s u1 u2 u3 u4 : RS) (v1 v2 v3 : Int) (v4 : Bool) (done : List Nat) (s1 : Slots) (h1 : H) : Prop where
  cl : ∀ i ∈ done, ∀ j ∈ c75_a2.getD i [], j ∈ done
  un : ∀ x, x ≠ 4 → (x < 7 ∨ 15 < x) → s1 x = s0 x
  l0 : 0 ∈ done → s1 7 = .ptr b 0
  l2 : 2 ∈ done → s1 9 = .ptr b 0
  l4 : 4 ∈ done → s1 11 = .ptr b 0
  l6 : 6 ∈ done → s1 13 = .ptr b 0
  c1 : 1 ∈ done → s1 8 = .int .i64 v1
  c3 : 3 ∈ done → s1 10 = .int .i64 v2
  c5 : 5 ∈ done → s1 12 = .int .i64 v3
  c7 : 7 ∈ done → s1 14 = .bool v4
  b8 : 8 ∈ done → s1 15 = .agg [.int .i64 v1, .int .i64 v2, .int .i64 v3, .bool v4, .sl .full [], .sl .full []]
  rd : RTo (h.alloc [.ptr b 0]) b h1 (stD s u1 u2 u3 u4 done)
  cx : h1.bx h.bn = some [.ptr b 0]
  al : 9 ∈ done → s1 4 = .ptr (h.bn + 1) 0 ∧ h1.bx (h.bn + 1) = some (if 10 ∈ done then [.int .i64 v1, .int .i64 v2, .int .i64 v3, .bool v4, .sl .full [], .sl .full []] else [.int .i64 0, .int .i64 0, .int .i64 0, .bool false, .sl .full [], .sl .full []])
  bn : h1.bn = if 9 ∈ done then h.bn + 2 else h.bn + 1

set_option maxHeartbeats 4000000 in
theorem getStep_d2 {h : H} {b : Nat} {s : RS} (hr : RIs h b s) {s0 : Slots} (t2 : s0 2 = .ptr h.bn 0) {inr : Bool} {k : List It} {Q : Res → Slots → H → Prop}
    (hk : ∀ s1 h1 v1 v2 v3 v4 u1 u2 u3 u4, (∀ x, x ≠ 4 → (x < 7 ∨ 15 < x) → s1 x = s0 x) → s1 4 = .ptr (h.bn + 1) 0 → h1.bx (h.bn + 1) = some [.int .i64 v1, .int .i64 v2, .int .i64 v3, .bool v4, .sl .full [], .sl .full []] → h1.bx h.bn = some [.ptr b 0] → h1.bn = h.bn + 2 → RTo (h.alloc [.ptr b 0]) b h1 u4 → Got (rdCount 12) s v1 u1 → Got (rdCount 4) u1 v2 u2 → Got (rdCount 4) u2 v3 u3 → Got rdFlag u3 v4 u4 → Run Try.prog inr k Q s1 h1) :
    Run Try.prog inr (.c (.dreg c75_r2 c75_a2) :: k) Q s0 (h.alloc [.ptr b 0]) := by
  have hb := hr.blt
  have zb : ¬ b = h.bn := by omega
  have zb' : ¬ h.bn = b := by omega
  have zb1 : ¬ b = h.bn + 1 := by omega
  have zb1' : ¬ h.bn + 1 = b := by omega
  have hr0 := hr.alloc [.ptr b 0]
  have C1 : ∀ h1, RIs h1 b s → SCall Try.prog 35 [.ptr b 0, .int .i64 12] h1 (.int .i64 (runS (rdCount 12) 0 s).1) (h1.set b (encRS (runS (rdCount 12) 0 s).2)) ∧ RTo h1 b (h1.set b (encRS (runS (rdCount 12) 0 s).2)) (runS (rdCount 12) 0 s).2 := fun h1 hr => by
    have f := count_rd hr (most := 12) (by simp [inI])
    exact ⟨f.call, f.to⟩
  have g1 := Got.runS (rdCount 12) 0 s
  generalize runS (rdCount 12) 0 s = x1 at C1 g1
  obtain ⟨v1, u1⟩ := x1
  simp only at C1 g1
  have C2 : ∀ h1, RIs h1 b u1 → SCall Try.prog 35 [.ptr b 0, .int .i64 4] h1 (.int .i64 (runS (rdCount 4) 0 u1).1) (h1.set b (encRS (runS (rdCount 4) 0 u1).2)) ∧ RTo h1 b (h1.set b (encRS (runS (rdCount 4) 0 u1).2)) (runS (rdCount 4) 0 u1).2 := fun h1 hr => by
    have f := count_rd hr (most := 4) (by simp [inI])
    exact ⟨f.call, f.to⟩
  have g2 := Got.runS (rdCount 4) 0 u1
  generalize runS (rdCount 4) 0 u1 = x2 at C2 g2
  obtain ⟨v2, u2⟩ := x2
  simp only at C2 g2
  have C3 : ∀ h1, RIs h1 b u2 → SCall Try.prog 35 [.ptr b 0, .int .i64 4] h1 (.int .i64 (runS (rdCount 4) 0 u2).1) (h1.set b (encRS (runS (rdCount 4) 0 u2).2)) ∧ RTo h1 b (h1.set b (encRS (runS (rdCount 4) 0 u2).2)) (runS (rdCount 4) 0 u2).2 := fun h1 hr => by
    have f := count_rd hr (most := 4) (by simp [inI])
    exact ⟨f.call, f.to⟩
  have g3 := Got.runS (rdCount 4) 0 u2
  generalize runS (rdCount 4) 0 u2 = x3 at C3 g3
  obtain ⟨v3, u3⟩ := x3
  simp only at C3 g3
  have C4 : ∀ h1, RIs h1 b u3 → SCall Try.prog 37 [.ptr b 0] h1 (.bool (runS (rdFlag) false u3).1) (h1.set b (encRS (runS (rdFlag) false u3).2)) ∧ RTo h1 b (h1.set b (encRS (runS (rdFlag) false u3).2)) (runS (rdFlag) false u3).2 := fun h1 hr => by
    have f := flag_rd hr
    exact ⟨f.call, f.to⟩
  have g4 := Got.runS (rdFlag) false u3
  generalize runS (rdFlag) false u3 = x4 at C4 g4
  obtain ⟨v4, u4⟩ := x4
  simp only at C4 g4
  refine run_topo (Inv := D2I h b s0 s u1 u2 u3 u4 v1 v2 v3 v4) ?_ ?_ ?_
  rotate_left
  · exact ⟨by simp, fun _ _ _ => rfl, by simp, by simp, by simp, by simp, by simp, by simp, by simp, by simp, by simp, by simpa [stD] using RTo.refl hr0, by simp, by simp, by simp⟩
  · intro done s1 h1 hall I
    have a : ∀ i, i < 11 → i ∈ done := hall
    refine hk s1 h1 v1 v2 v3 v4 u1 u2 u3 u4 I.un (I.al (a 9 (by decide))).1 ?_ I.cx ?_ ?_ g1 g2 g3 g4
    · rw [(I.al (a 9 (by decide))).2, if_pos (a 10 (by decide))]
    · rw [I.bn, if_pos (a 9 (by decide))]
    · have := I.rd
      rwa [stD, if_pos (a 7 (by decide))] at this
  · intro i x done s1 h1 hx hnd haft I
    have hi : i < 11 := (List.getElem?_eq_some_iff.1 hx).1
    have q2 : s1 2 = .ptr h.bn 0 := by rw [I.un 2 (by decide) (by decide), t2]
    have hbn : h.bn < h1.bn := by rw [I.bn]; split <;> omega
    have hcl : ∀ m ∈ i :: done, ∀ j ∈ c75_a2.getD m [], j ∈ i :: done := fun m hm j hj => by
      rcases List.mem_cons.1 hm with rfl | hm
      · exact List.mem_cons_of_mem _ (haft j hj)
      · exact List.mem_cons_of_mem _ (I.cl m hm j hj)
    have cl3 : 3 ∈ done → 1 ∈ done := fun hm => I.cl 3 hm 1 (by decide)
    have cl5 : 5 ∈ done → 3 ∈ done := fun hm => I.cl 5 hm 3 (by decide)
    have cl7 : 7 ∈ done → 5 ∈ done := fun hm => I.cl 7 hm 5 (by decide)
    have cl10 : 10 ∈ done → 9 ∈ done := fun hm => I.cl 10 hm 9 (by decide)
    have rd := I.rd
    rcases (by omega : i = 0 ∨ i = 1 ∨ i = 2 ∨ i = 3 ∨ i = 4 ∨ i = 5 ∨ i = 6 ∨ i = 7 ∨ i = 8 ∨ i = 9 ∨ i = 10) with rfl | rfl | rfl | rfl | rfl | rfl | rfl | rfl | rfl | rfl | rfl
    · cases hx
      refine ⟨.ptr b 0, h1, rfl, .pure _ _ (by simp [q2, I.cx, hbn]), ⟨hcl, fun x h4 hx => by have := I.un x h4 hx; simp only [put]; rw [su_ne (by omega)]; exact this, fun _ => by simp, fun hm => by have := I.l2 (by simpa using hm); simpa using this, fun hm => by have := I.l4 (by simpa using hm); simpa using this, fun hm => by have := I.l6 (by simpa using hm); simpa using this, fun hm => by have := I.c1 (by simpa using hm); simpa using this, fun hm => by have := I.c3 (by simpa using hm); simpa using this, fun hm => by have := I.c5 (by simpa using hm); simpa using this, fun hm => by have := I.c7 (by simpa using hm); simpa using this, fun hm => by have := I.b8 (by simpa using hm); simpa using this, by simpa [stD] using rd, I.cx, fun hm => by have := I.al (by simpa using hm); simpa using this, by simpa using I.bn⟩⟩
    · cases hx
      have m3 : 3 ∉ done := fun hm => hnd (cl3 hm)
      have m5 : 5 ∉ done := fun hm => m3 (cl5 hm)
      have m7 : 7 ∉ done := fun hm => m5 (cl7 hm)
      have rd0 : RTo (h.alloc [.ptr b 0]) b h1 s := by simpa [stD, hnd, m3, m5, m7] using rd
      obtain ⟨k1, k2⟩ := C1 h1 rd0.is
      have l := I.l0 (haft 0 (by decide))
      refine ⟨.int .i64 v1, h1.set b (encRS u1), rfl, .callF _ _ 35 [] [] _ _ rfl (by simpa [l] using k1), ⟨hcl, fun x h4 hx => by have := I.un x h4 hx; simp only [put]; rw [su_ne (by omega)]; exact this, fun hm => by have := I.l0 (by simpa using hm); simpa using this, fun hm => by have := I.l2 (by simpa using hm); simpa using this, fun hm => by have := I.l4 (by simpa using hm); simpa using this, fun hm => by have := I.l6 (by simpa using hm); simpa using this, fun _ => by simp, fun hm => by have := I.c3 (by simpa using hm); simpa using this, fun hm => by have := I.c5 (by simpa using hm); simpa using this, fun hm => by have := I.c7 (by simpa using hm); simpa using this, fun hm => by have := I.b8 (by simpa using hm); simpa using this, by simpa [stD, hnd, m3, m5, m7] using rd0.trans k2, by simp [zb', I.cx], fun hm => by have := I.al (by simpa using hm); simpa [zb1'] using this, by simpa using I.bn⟩⟩
    · cases hx
      refine ⟨.ptr b 0, h1, rfl, .pure _ _ (by simp [q2, I.cx, hbn]), ⟨hcl, fun x h4 hx => by have := I.un x h4 hx; simp only [put]; rw [su_ne (by omega)]; exact this, fun hm => by have := I.l0 (by simpa using hm); simpa using this, fun _ => by simp, fun hm => by have := I.l4 (by simpa using hm); simpa using this, fun hm => by have := I.l6 (by simpa using hm); simpa using this, fun hm => by have := I.c1 (by simpa using hm); simpa using this, fun hm => by have := I.c3 (by simpa using hm); simpa using this, fun hm => by have := I.c5 (by simpa using hm); simpa using this, fun hm => by have := I.c7 (by simpa using hm); simpa using this, fun hm => by have := I.b8 (by simpa using hm); simpa using this, by simpa [stD] using rd, I.cx, fun hm => by have := I.al (by simpa using hm); simpa using this, by simpa using I.bn⟩⟩
    · cases hx
      have m5 : 5 ∉ done := fun hm => hnd (cl5 hm)
      have m7 : 7 ∉ done := fun hm => m5 (cl7 hm)
      have p1 : 1 ∈ done := haft 1 (by decide)
      have rd0 : RTo (h.alloc [.ptr b 0]) b h1 u1 := by simpa [stD, hnd, m5, m7, p1] using rd
      obtain ⟨k1, k2⟩ := C2 h1 rd0.is
      have l := I.l2 (haft 2 (by decide))
      refine ⟨.int .i64 v2, h1.set b (encRS u2), rfl, .callF _ _ 35 [] [] _ _ rfl (by simpa [l] using k1), ⟨hcl, fun x h4 hx => by have := I.un x h4 hx; simp only [put]; rw [su_ne (by omega)]; exact this, fun hm => by have := I.l0 (by simpa using hm); simpa using this, fun hm => by have := I.l2 (by simpa using hm); simpa using this, fun hm => by have := I.l4 (by simpa using hm); simpa using this, fun hm => by have := I.l6 (by simpa using hm); simpa using this, fun hm => by have := I.c1 (by simpa using hm); simpa using this, fun _ => by simp, fun hm => by have := I.c5 (by simpa using hm); simpa using this, fun hm => by have := I.c7 (by simpa using hm); simpa using this, fun hm => by have := I.b8 (by simpa using hm); simpa using this, by simpa [stD, hnd, m5, m7, p1] using rd0.trans k2, by simp [zb', I.cx], fun hm => by have := I.al (by simpa using hm); simpa [zb1'] using this, by simpa using I.bn⟩⟩
    · cases hx
      refine ⟨.ptr b 0, h1, rfl, .pure _ _ (by simp [q2, I.cx, hbn]), ⟨hcl, fun x h4 hx => by have := I.un x h4 hx; simp only [put]; rw [su_ne (by omega)]; exact this, fun hm => by have := I.l0 (by simpa using hm); simpa using this, fun hm => by have := I.l2 (by simpa using hm); simpa using this, fun _ => by simp, fun hm => by have := I.l6 (by simpa using hm); simpa using this, fun hm => by have := I.c1 (by simpa using hm); simpa using this, fun hm => by have := I.c3 (by simpa using hm); simpa using this, fun hm => by have := I.c5 (by simpa using hm); simpa using this, fun hm => by have := I.c7 (by simpa using hm); simpa using this, fun hm => by have := I.b8 (by simpa using hm); simpa using this, by simpa [stD] using rd, I.cx, fun hm => by have := I.al (by simpa using hm); simpa using this, by simpa using I.bn⟩⟩
    · cases hx
      have m7 : 7 ∉ done := fun hm => hnd (cl7 hm)
      have p3 : 3 ∈ done := haft 3 (by decide)
      have rd0 : RTo (h.alloc [.ptr b 0]) b h1 u2 := by simpa [stD, hnd, m7, p3] using rd
      obtain ⟨k1, k2⟩ := C3 h1 rd0.is
      have l := I.l4 (haft 4 (by decide))
      refine ⟨.int .i64 v3, h1.set b (encRS u3), rfl, .callF _ _ 35 [] [] _ _ rfl (by simpa [l] using k1), ⟨hcl, fun x h4 hx => by have := I.un x h4 hx; simp only [put]; rw [su_ne (by omega)]; exact this, fun hm => by have := I.l0 (by simpa using hm); simpa using this, fun hm => by have := I.l2 (by simpa using hm); simpa using this, fun hm => by have := I.l4 (by simpa using hm); simpa using this, fun hm => by have := I.l6 (by simpa using hm); simpa using this, fun hm => by have := I.c1 (by simpa using hm); simpa using this, fun hm => by have := I.c3 (by simpa using hm); simpa using this, fun _ => by simp, fun hm => by have := I.c7 (by simpa using hm); simpa using this, fun hm => by have := I.b8 (by simpa using hm); simpa using this, by simpa [stD, hnd, m7, p3] using rd0.trans k2, by simp [zb', I.cx], fun hm => by have := I.al (by simpa using hm); simpa [zb1'] using this, by simpa using I.bn⟩⟩
    · cases hx
      refine ⟨.ptr b 0, h1, rfl, .pure _ _ (by simp [q2, I.cx, hbn]), ⟨hcl, fun x h4 hx => by have := I.un x h4 hx; simp only [put]; rw [su_ne (by omega)]; exact this, fun hm => by have := I.l0 (by simpa using hm); simpa using this, fun hm => by have := I.l2 (by simpa using hm); simpa using this, fun hm => by have := I.l4 (by simpa using hm); simpa using this, fun _ => by simp, fun hm => by have := I.c1 (by simpa using hm); simpa using this, fun hm => by have := I.c3 (by simpa using hm); simpa using this, fun hm => by have := I.c5 (by simpa using hm); simpa using this, fun hm => by have := I.c7 (by simpa using hm); simpa using this, fun hm => by have := I.b8 (by simpa using hm); simpa using this, by simpa [stD] using rd, I.cx, fun hm => by have := I.al (by simpa using hm); simpa using this, by simpa using I.bn⟩⟩
    · cases hx
      have p5 : 5 ∈ done := haft 5 (by decide)
      have rd0 : RTo (h.alloc [.ptr b 0]) b h1 u3 := by simpa [stD, hnd, p5] using rd
      obtain ⟨k1, k2⟩ := C4 h1 rd0.is
      have l := I.l6 (haft 6 (by decide))
      refine ⟨.bool v4, h1.set b (encRS u4), rfl, .callF _ _ 37 [] [] _ _ rfl (by simpa [l] using k1), ⟨hcl, fun x h4 hx => by have := I.un x h4 hx; simp only [put]; rw [su_ne (by omega)]; exact this, fun hm => by have := I.l0 (by simpa using hm); simpa using this, fun hm => by have := I.l2 (by simpa using hm); simpa using this, fun hm => by have := I.l4 (by simpa using hm); simpa using this, fun hm => by have := I.l6 (by simpa using hm); simpa using this, fun hm => by have := I.c1 (by simpa using hm); simpa using this, fun hm => by have := I.c3 (by simpa using hm); simpa using this, fun hm => by have := I.c5 (by simpa using hm); simpa using this, fun _ => by simp, fun hm => by have := I.b8 (by simpa using hm); simpa using this, by simpa [stD, hnd, p5] using rd0.trans k2, by simp [zb', I.cx], fun hm => by have := I.al (by simpa using hm); simpa [zb1'] using this, by simpa using I.bn⟩⟩
    · cases hx
      have p1 := I.c1 (haft 1 (by decide))
      have p3 := I.c3 (haft 3 (by decide))
      have p5 := I.c5 (haft 5 (by decide))
      have p7 := I.c7 (haft 7 (by decide))
      refine ⟨.agg [.int .i64 v1, .int .i64 v2, .int .i64 v3, .bool v4, .sl .full [], .sl .full []], h1, rfl, .pure _ _ (by simp [p1, p3, p5, p7]), ⟨hcl, fun x h4 hx => by have := I.un x h4 hx; simp only [put]; rw [su_ne (by omega)]; exact this, fun hm => by have := I.l0 (by simpa using hm); simpa using this, fun hm => by have := I.l2 (by simpa using hm); simpa using this, fun hm => by have := I.l4 (by simpa using hm); simpa using this, fun hm => by have := I.l6 (by simpa using hm); simpa using this, fun hm => by have := I.c1 (by simpa using hm); simpa using this, fun hm => by have := I.c3 (by simpa using hm); simpa using this, fun hm => by have := I.c5 (by simpa using hm); simpa using this, fun hm => by have := I.c7 (by simpa using hm); simpa using this, fun _ => by simp, by simpa [stD] using rd, I.cx, fun hm => by have := I.al (by simpa using hm); simpa using this, by simpa using I.bn⟩⟩
    · cases hx
      have m10 : 10 ∉ done := fun hm => hnd (cl10 hm)
      have hn1 : h1.bn = h.bn + 1 := by rw [I.bn, if_neg hnd]
      refine ⟨.ptr h1.bn 0, h1.alloc [.int .i64 0, .int .i64 0, .int .i64 0, .bool false, .sl .full [], .sl .full []], rfl, .alloc _, ⟨hcl, fun x h4 hx => by have := I.un x h4 hx; simp only [put]; rw [su_ne h4]; exact this, fun hm => by have := I.l0 (by simpa using hm); simpa using this, fun hm => by have := I.l2 (by simpa using hm); simpa using this, fun hm => by have := I.l4 (by simpa using hm); simpa using this, fun hm => by have := I.l6 (by simpa using hm); simpa using this, fun hm => by have := I.c1 (by simpa using hm); simpa using this, fun hm => by have := I.c3 (by simpa using hm); simpa using this, fun hm => by have := I.c5 (by simpa using hm); simpa using this, fun hm => by have := I.c7 (by simpa using hm); simpa using this, fun hm => by have := I.b8 (by simpa using hm); simpa using this, by simpa [stD] using rd.al _, by simp [hn1, I.cx], fun _ => by simp [hn1, m10], by simp [hn1]⟩⟩
    · cases hx
      have p9 := I.al (haft 9 (by decide))
      rw [if_neg hnd] at p9
      have p8 := I.b8 (haft 8 (by decide))
      have hn1 : h1.bn = h.bn + 2 := by rw [I.bn, if_pos (haft 9 (by decide))]
      refine ⟨_, _, rfl, .store 6 _ _ (h.bn + 1) 0 [.int .i64 0, .int .i64 0, .int .i64 0, .bool false, .sl .full [], .sl .full []] [.int .i64 v1, .int .i64 v2, .int .i64 v3, .bool v4, .sl .full [], .sl .full []] (by simp [p9.1]) (by omega) p9.2 (by simp [p8]) (by decide), ⟨hcl, fun x h4 hx => I.un x h4 hx, fun hm => by have := I.l0 (by simpa using hm); simpa using this, fun hm => by have := I.l2 (by simpa using hm); simpa using this, fun hm => by have := I.l4 (by simpa using hm); simpa using this, fun hm => by have := I.l6 (by simpa using hm); simpa using this, fun hm => by have := I.c1 (by simpa using hm); simpa using this, fun hm => by have := I.c3 (by simpa using hm); simpa using this, fun hm => by have := I.c5 (by simpa using hm); simpa using this, fun hm => by have := I.c7 (by simpa using hm); simpa using this, fun hm => by have := I.b8 (by simpa using hm); simpa using this, ?_, by simp [I.cx], fun _ => by simp [p9.1], by simpa using I.bn⟩⟩
      simpa [stD] using (rd.so (b' := h.bn + 1) (by simp) (by simp; omega) _)
end Go.Proofs

/- The program's reader of what a step's record has. -/
namespace Go.Proofs
open Go Go.RowKit Go.Am

/-- Where the reading of a step's record stands: the reader's box b, the record's box d, and two new boxes. -/
structure GS (h : H) (b d : Nat) (N D : List AV) (h1 : H) (s1 : RS) : Prop where
  keep : HF h h1 (fun i => i = b ∨ i = d) (fun _ => False)
  is : RIs h1 b s1
  c : h1.bx h.bn = some [.ptr b 0]
  n : h1.bx (h.bn + 1) = some N
  d : h1.bx d = some D
  l : h.bn + 1 < h1.bn
theorem GS.rd {h : H} {b d : Nat} {N D : List AV} {h1 h2 : H} {s1 s2 : RS} (hb : b < h.bn) (hd : d < h.bn) (hdb : ¬ d = b) (a : GS h b d N D h1 s1) (q : RTo h1 b h2 s2) : GS h b d N D h2 s2 :=
  ⟨a.keep.trans' q.keep (fun _ _ e => .inl e) (fun _ _ e => e), q.is, by rw [q.keep.bx _ (by have := a.l; omega) (by omega), a.c], by rw [q.keep.bx _ a.l (by omega), a.n],
    by rw [q.keep.bx _ (by have := a.l; omega) hdb, a.d], Nat.lt_of_lt_of_le a.l q.keep.bn⟩
theorem GS.setN {h : H} {b d : Nat} {N D N' : List AV} {h1 : H} {s1 : RS} (hb : b < h.bn) (hd : d < h.bn) (a : GS h b d N D h1 s1) : GS h b d N' D (h1.set (h.bn + 1) N') s1 :=
  ⟨a.keep.trans' (HF.set (B := (· = h.bn + 1)) _ rfl) (fun x hx e => by have e : x = h.bn + 1 := e; omega) (fun _ _ e => e), a.is.setO (by omega), by simp [a.c], by simp, by simp [show ¬ d = h.bn + 1 by omega, a.d], by simpa using a.l⟩
theorem GS.setD {h : H} {b d : Nat} {N D D' : List AV} {h1 : H} {s1 : RS} (hb : b < h.bn) (hd : d < h.bn) (hdb : ¬ d = b) (a : GS h b d N D h1 s1) : GS h b d N D' (h1.set d D') s1 :=
  ⟨a.keep.trans' (HF.set (B := (· = d)) _ rfl) (fun x hx e => .inr e) (fun _ _ e => e), a.is.setO (fun e => hdb e), by simp [show ¬ h.bn = d by omega, a.c], by simp [show ¬ h.bn + 1 = d by omega, a.n], by simp, by simpa using a.l⟩

/-- A step's record's cells while it is read. -/
def cellsG (r0 r1 r2 r3 : Int) : List AV := [.int .i64 2, .int .i64 0, .int .i64 0, .sl .full [], .int .i64 0, .int .i64 0, .int .i64 0, .int .i64 0, .bool false, .sl .full [], .sl .full [], .int .i64 r0, .int .i64 r1, .int .i64 r2, .int .i64 r3, .sl .full []]
def cellsE (n : Nod) (r0 r1 r2 r3 : Int) (l : List Chg) : List AV := [.int .i64 2, .int .i64 0, .int .i64 0, .sl .full [], .int .i64 0, .int .i64 n.saga, .int .i64 n.cls, .int .i64 n.step, .bool n.back, .sl .no (n.reads.map encSpn), .sl .no (n.writes.map encSpn), .int .i64 r0, .int .i64 r1, .int .i64 r2, .int .i64 r3, .sl .no (l.map encChg)]

set_option maxHeartbeats 4000000 in
theorem getStep_rd {h : H} {b d : Nat} {s : RS} (hr : RIs h b s) (hd : d < h.bn) (hdb : ¬ d = b) (hdx : h.bx d = some (cellsG 0 0 0 0)) :
    CallP Try.prog 75 [.ptr b 0, .ptr d 0] h fun _ h1 => ∃ n r0 r1 r2 r3 l s', HF h h1 (fun i => i = b ∨ i = d) (fun _ => False) ∧ RIs h1 b s' ∧ h1.bx d = some (cellsE n r0 r1 r2 r3 l) ∧ Got rdStepR s ⟨2, 0, 0, [], 0, n, [r0, r1, r2, r3], l⟩ s' := by
  refine CallP.run hb75 ok75 (by simp) ?_
  have hb := hr.blt
  have zb : ¬ b = h.bn := by omega
  have zb' : ¬ h.bn = b := by omega
  have zb1 : ¬ b = h.bn + 1 := by omega
  have zb1' : ¬ h.bn + 1 = b := by omega
  have zd : ¬ d = h.bn := by omega
  have zd1 : ¬ d = h.bn + 1 := by omega
  have hN : ∀ v1 v2 v3 v4 (h1 : H) (u4 : RS), h1.bx (h.bn + 1) = some [.int .i64 v1, .int .i64 v2, .int .i64 v3, .bool v4, .sl .full [], .sl .full []] → h1.bx h.bn = some [.ptr b 0] → h1.bn = h.bn + 2 → RTo (h.alloc [.ptr b 0]) b h1 u4 → GS h b d [.int .i64 v1, .int .i64 v2, .int .i64 v3, .bool v4, .sl .full [], .sl .full []] (cellsG 0 0 0 0) h1 u4 := fun v1 v2 v3 v4 h1 u4 e1 e2 e3 q =>
    ⟨(HF.alloc h [.ptr b 0] _ _).trans (q.keep.mono (fun _ _ e => .inl e) fun _ _ e => e), q.is, e2, e1, by rw [q.keep.bx d (by simp; omega) hdb]; simp [zd, hdx], by omega⟩
  simp -implicitDefEqProofs []
  refine getStep_d2 hr (by simp) fun s1 h1 v1 v2 v3 v4 u1 u2 u3 u4 un t4 x1 x2 x3 q1 g1 g2 g3 g4 => ?_
  have G1 := hN _ _ _ _ _ _ x1 x2 x3 q1
  clear hN x1 x2 x3 q1
  have t0 : s1 0 = .ptr b 0 := by rw [un 0 (by decide) (by decide)]; simp
  have t1 : s1 1 = .ptr d 0 := by rw [un 1 (by decide) (by decide)]; simp
  have t2 : s1 2 = .ptr h.bn 0 := by rw [un 2 (by decide) (by decide)]; simp
  clear un
  have l1 := G1.l
  have l1' : h.bn < h1.bn := by omega
  have hone : ∀ {N D : List AV} {h1 : H} {s1 : RS}, GS h b d N D h1 s1 → ∀ (h2 : H) (s2 : RS), RTo h1 b h2 s2 → RdQ 119 ([] ++ [.ptr h.bn 0]) h2 b s2 rdSpn (fun x => .agg (encSpn x)) := fun G h2 s2 q => by
    have G2 := G.rd hb hd hdb q
    exact getSpn_rd q.is (by have := G2.l; omega) zb' G2.c
  have hone2 : ∀ {N D : List AV} {h1 : H} {s1 : RS}, GS h b d N D h1 s1 → ∀ (h2 : H) (s2 : RS), RTo h1 b h2 s2 → RdQ 123 ([] ++ [.ptr h.bn 0]) h2 b s2 rdChg (fun x => .agg (encChg x)) := fun G h2 s2 q => by
    have G2 := G.rd hb hd hdb q
    exact getChg_rd q.is (by have := G2.l; omega) zb' G2.c
  simp -implicitDefEqProofs [t0, t1, t2, t4, G1.c, l1']
  refine callQ_r (read_spn G1.is 8 (by decide) (by decide) _ [] [.ptr h.bn 0] rfl (by simp) rdSpn (hone G1)) (by simp) fun A u5 q5 g5 => ?_
  have G2 := G1.rd hb hd hdb q5
  have l2 := G2.l
  have l2' : h.bn < (h1.set b (encRS u5)).bn := by omega
  simp -implicitDefEqProofs [t0, t1, t2, t4, G1.n, G1.c, l1, l1', zb', zb1', zb, zb1]
  have G3 := G2.setN (N' := [.int .i64 v1, .int .i64 v2, .int .i64 v3, .bool v4, .sl .no (A.map encSpn), .sl .full []]) hb hd
  refine callQ_r (read_spn G3.is 8 (by decide) (by decide) _ [] [.ptr h.bn 0] rfl (by simp) rdSpn (hone G3)) (by simp) fun B u6 q6 g6 => ?_
  have G4 := G3.rd hb hd hdb q6
  have l4 := G4.l
  have l4' : h.bn < h1.bn := by omega
  simp -implicitDefEqProofs [t0, t1, t2, t4, G1.n, G1.c, l1, l1', zb', zb1', zb, zb1]
  have G5 := G4.setN (N' := [.int .i64 v1, .int .i64 v2, .int .i64 v3, .bool v4, .sl .no (A.map encSpn), .sl .no (B.map encSpn)]) hb hd
  generalize hH : H.set _ (h.bn + 1) [AV.int IntKind.i64 v1, .int .i64 v2, .int .i64 v3, .bool v4, .sl .no (A.map encSpn), .sl .no (B.map encSpn)] = h5 at G5
  generalize hNN : Nod.mk v1 v2 v3 v4 A B = nn
  have hgn : Got rdNod s nn u6 := by rw [← hNN]; exact g1.bind (g2.bind (g3.bind (g4.bind (g5.bind (g6.bind (Got.pure _ _))))))
  have hNc : [AV.int IntKind.i64 v1, .int .i64 v2, .int .i64 v3, .bool v4, .sl .no (A.map encSpn), .sl .no (B.map encSpn)] = encNod nn := by rw [← hNN]; rfl
  rw [hNc] at G5
  clear hone G1 G2 G3 G4 hH l1 l1' l2 l2' l4 l4' q5 q6 g1 g2 g3 g4 g5 g6 hNc
  refine run_loop (fun m S h1 => ∃ (j : Nat) (sj : RS) (r0 r1 r2 r3 : Int), m = 4 - j ∧ j ≤ 4 ∧ S 1 = .ptr d 0 ∧ S 2 = .ptr h.bn 0 ∧ S 4 = .ptr (h.bn + 1) 0 ∧ S 25 = .int .i64 j ∧ GS h b d (encNod nn) (cellsG r0 r1 r2 r3) h1 sj ∧ Got (Rd.rep rdSigned j) u6 ([r0, r1, r2, r3].take j) sj) ?_ 4 ?_
  rotate_left
  · exact ⟨0, u6, 0, 0, 0, 0, rfl, Nat.zero_le _, by simp [t1], by simp [t2], by simp [t4], by simp, G5, Got.pure _ _⟩
  clear t0 t1 t2 t4 G5 h5 hNN
  rintro m S h6 ⟨j, sj, r0, r1, r2, r3, hm, hj, t1, t2, t4, t25, G, hg⟩ ih
  have l1 := G.l
  have l2 : h.bn < h6.bn := by omega
  have l3 : d < h6.bn := by omega
  have hbx := G.is.blt
  have hGc := G.c
  have hGn := G.n
  have hGd := G.d
  unfold cellsG at hGd
  rcases (by omega : j = 0 ∨ j = 1 ∨ j = 2 ∨ j = 3 ∨ j = 4) with rfl | rfl | rfl | rfl | rfl
  · have f := signed_rd G.is
    have g := Got.runS rdSigned 0 sj
    have q := f.to
    have c := f.call
    clear f
    generalize runS rdSigned 0 sj = x at g q c
    obtain ⟨v, u⟩ := x
    simp only at g q c
    have G2 := (G.rd hb hd hdb q).setD (D' := cellsG v r1 r2 r3) hb hd hdb
    unfold cellsG at G2
    simp -implicitDefEqProofs [t1, t2, t25]
    refine run_dreg c75_d9 ?_
    simp -implicitDefEqProofs [t1, t2, t25, hGc, hGd, l2, l3]
    refine callD_s c (by simp) ?_
    simp -implicitDefEqProofs [t1, t2, t25, hGc, hGd, l2, l3, zb', hdb]
    exact ih 3 _ _ (by omega) ⟨1, u, v, r1, r2, r3, rfl, by omega, by simp [t1], by simp [t2], by simp [t4], by simp; decide, G2, hg.bind (g.bind (Got.pure _ _))⟩
  · have f := signed_rd G.is
    have g := Got.runS rdSigned 0 sj
    have q := f.to
    have c := f.call
    clear f
    generalize runS rdSigned 0 sj = x at g q c
    obtain ⟨v, u⟩ := x
    simp only at g q c
    have G2 := (G.rd hb hd hdb q).setD (D' := cellsG r0 v r2 r3) hb hd hdb
    unfold cellsG at G2
    simp -implicitDefEqProofs [t1, t2, t25]
    refine run_dreg c75_d9 ?_
    simp -implicitDefEqProofs [t1, t2, t25, hGc, hGd, l2, l3]
    refine callD_s c (by simp) ?_
    simp -implicitDefEqProofs [t1, t2, t25, hGc, hGd, l2, l3, zb', hdb]
    exact ih 2 _ _ (by omega) ⟨2, u, r0, v, r2, r3, rfl, by omega, by simp [t1], by simp [t2], by simp [t4], by simp; decide, G2, hg.bind (g.bind (Got.pure _ _))⟩
  · have f := signed_rd G.is
    have g := Got.runS rdSigned 0 sj
    have q := f.to
    have c := f.call
    clear f
    generalize runS rdSigned 0 sj = x at g q c
    obtain ⟨v, u⟩ := x
    simp only at g q c
    have G2 := (G.rd hb hd hdb q).setD (D' := cellsG r0 r1 v r3) hb hd hdb
    unfold cellsG at G2
    simp -implicitDefEqProofs [t1, t2, t25]
    refine run_dreg c75_d9 ?_
    simp -implicitDefEqProofs [t1, t2, t25, hGc, hGd, l2, l3]
    refine callD_s c (by simp) ?_
    simp -implicitDefEqProofs [t1, t2, t25, hGc, hGd, l2, l3, zb', hdb]
    exact ih 1 _ _ (by omega) ⟨3, u, r0, r1, v, r3, rfl, by omega, by simp [t1], by simp [t2], by simp [t4], by simp; decide, G2, hg.bind (g.bind (Got.pure _ _))⟩
  · have f := signed_rd G.is
    have g := Got.runS rdSigned 0 sj
    have q := f.to
    have c := f.call
    clear f
    generalize runS rdSigned 0 sj = x at g q c
    obtain ⟨v, u⟩ := x
    simp only at g q c
    have G2 := (G.rd hb hd hdb q).setD (D' := cellsG r0 r1 r2 v) hb hd hdb
    unfold cellsG at G2
    simp -implicitDefEqProofs [t1, t2, t25]
    refine run_dreg c75_d9 ?_
    simp -implicitDefEqProofs [t1, t2, t25, hGc, hGd, l2, l3]
    refine callD_s c (by simp) ?_
    simp -implicitDefEqProofs [t1, t2, t25, hGc, hGd, l2, l3, zb', hdb]
    exact ih 0 _ _ (by omega) ⟨4, u, r0, r1, r2, v, rfl, by omega, by simp [t1], by simp [t2], by simp [t4], by simp; decide, G2, hg.bind (g.bind (Got.pure _ _))⟩
  have hN2 : h6.bx (h.bn + 1) = some [.int .i64 nn.saga, .int .i64 nn.cls, .int .i64 nn.step, .bool nn.back, .sl .no (nn.reads.map encSpn), .sl .no (nn.writes.map encSpn)] := hGn
  have zd' : ¬ h.bn = d := fun e => zd e.symm
  simp -implicitDefEqProofs [t1, t2, t4, t25, hGc, hN2, hGd, l1, l2, l3, zd']
  have G7 := G.setD (D' := [.int .i64 2, .int .i64 0, .int .i64 0, .sl .full [], .int .i64 0, .int .i64 nn.saga, .int .i64 nn.cls, .int .i64 nn.step, .bool nn.back, .sl .no (nn.reads.map encSpn), .sl .no (nn.writes.map encSpn), .int .i64 r0, .int .i64 r1, .int .i64 r2, .int .i64 r3, .sl .full []]) hb hd hdb
  refine callQ_r (read_chg G7.is 8 (by decide) (by decide) _ [] [.ptr h.bn 0] rfl (by simp) rdChg (hone2 G7)) (by simp) fun C u8 q8 g8 => ?_
  have G8 := (G7.rd hb hd hdb q8).setD (D' := cellsE nn r0 r1 r2 r3 C) hb hd hdb
  have G8d := G8.d
  unfold cellsE at G8
  simp -implicitDefEqProofs [t1, l3, hdb]
  refine ⟨G8.keep, nn, r0, r1, r2, r3, C, u8, G8.is, by simp [cellsE], ?_⟩
  exact hgn.bind (hg.bind (g8.bind (Got.pure _ _)))
end Go.Proofs
