/- What the functions that the statement reaches do: their contracts; and what follows of it. -/
import Derived.Test.YtdcpendppalkgaaSLintSure6
import Derived.Test.YtdcpendppalkgaaSLintSure3
import Derived.Test.YtdcpendppalkgaaSLintSure5
import Derived.Test.YtdcpendppalkgaaK4
import Derived.WideShapes
/- The document's run of a step: the region in which the outcome is made (a new box at any time); the outcome's changes. -/
namespace Go.Am
open Go Go.RowKit
variable {P : Program}
/-- A function of plain values alone, whatever it may do: proved in the empty state, it serves in every state. -/
theorem CallP.pureD {f : FuncId} {args : List AV} {V : AV → Prop} (hc : CallP P f args H.nil fun r _ => V (Am.wk r) ∧ PureV (Am.wk r)) (hp : ∀ v ∈ args, PureV v) (h : H) : CallP P f args h fun r h' => V r ∧ h' = h := by
  refine ⟨hc.1, fun base W w g Args hs hA => ?_⟩
  refine (hc.2 w.heap.size (fun _ => False) w (G.bare g.ro) Args hs.bare (RepA.pure (g := g) (g' := G.bare g.ro) hp rfl hA)).mono ?_
  rintro e w' ⟨R, g1, r, h1, rfl, q1, q2, q3, q4, q5⟩
  obtain ⟨s1, s2⟩ := hs.outer q3 rfl q2
  exact ⟨R, { g with ro := g1.ro }, Am.wk r, h, rfl, q5 w' g1 _ R rfl q1.wk, s1, s2, q4, rfl⟩
end Go.Am
namespace Go.Proofs
open Go Go.RowKit Go.Am

def zero9 : List AV := [.int .i64 0, .int .i64 0, .int .i64 0, .int .i64 0, .int .i64 0, .int .i64 0, .sl .full [], .sl .full [], .sl .full []]
/-- An outcome's cells. -/
def outC (r : Nat → Int) (p w : List Sp) (t : Tok) (L : List Chg) : List AV := [.int .i64 0, .int .i64 0, .int .i64 (r 0), .int .i64 (r 1), .int .i64 (r 2), .int .i64 (r 3), encL p, encL w, .sl t (L.map encChg)]
structure D66I (r : Nat → Int) (f5 f6 : Nat → Bool) (s : Slots) (h : H) (done : List Nat) (S : Slots) (h' : H) : Prop where
  d1 : ∀ i ∈ done, ∀ j ∈ c19_a66.getD i [], j ∈ done
  un : ∀ y, y ≠ 27 → (y < 233 ∨ 236 < y) → S y = s y
  v0 : 0 ∈ done → S 233 = .agg (regsA r)
  v1 : 1 ∈ done → S 234 = encL (plainOf f5)
  v2 : 2 ∈ done → S 235 = encL (plainOf f6)
  v3 : 3 ∈ done → S 236 = .agg (outC r (plainOf f5) (plainOf f6) .full [])
  hf : HF h h' (fun _ => False) (fun _ => False)
  bn : h'.bn = if 4 ∈ done then h.bn + 1 else h.bn
  al : 4 ∈ done → S 27 = .ptr h.bn 0 ∧ (5 ∉ done → h'.bx h.bn = some zero9) ∧ (5 ∈ done → h'.bx h.bn = some (outC r (plainOf f5) (plainOf f6) .full []))

set_option maxHeartbeats 4000000 in
theorem run_d66 {r : Nat → Int} {f5 f6 : Nat → Bool} {s : Slots} {h : H} (s14 : s 14 = .ptr 4 0) (s15 : s 15 = .ptr 5 0) (s16 : s 16 = .ptr 6 0) (hb : 7 ≤ h.bn) (b4 : h.bx 4 = some (regsA r)) (b5 : h.bx 5 = some (setA f5)) (b6 : h.bx 6 = some (setA f6)) {inr : Bool} {k : List It} {Q : Res → Slots → H → Prop}
    (hk : ∀ S h', (∀ y, y ≠ 27 → (y < 233 ∨ 236 < y) → S y = s y) → S 27 = .ptr h.bn 0 → HF h h' (fun _ => False) (fun _ => False) → h'.bn = h.bn + 1 → h'.bx h.bn = some (outC r (plainOf f5) (plainOf f6) .full []) → Run Try.prog inr k Q S h') :
    Run Try.prog inr (.c (.dreg c19_r66 c19_a66) :: k) Q s h := by
  refine run_topo (Inv := D66I r f5 f6 s h) ?_ ?_ ?_
  rotate_left
  · exact ⟨by simp, fun _ _ _ => rfl, by simp, by simp, by simp, by simp, HF.refl _ _ _, by simp, by simp⟩
  · intro done S h' hall I
    have a : ∀ i, i < 6 → i ∈ done := hall
    obtain ⟨q1, q2, q3⟩ := I.al (a 4 (by decide))
    exact hk S h' I.un q1 I.hf (by rw [I.bn, if_pos (a 4 (by decide))]) (q3 (a 5 (by decide)))
  · intro i x done S h' hx hnd haft I
    have hi : i < 6 := (List.getElem?_eq_some_iff.1 hx).1
    have hbn : h.bn ≤ h'.bn := I.hf.bn
    have u14 : S 14 = .ptr 4 0 := by rw [I.un 14 (by decide) (by decide), s14]
    have u15 : S 15 = .ptr 5 0 := by rw [I.un 15 (by decide) (by decide), s15]
    have u16 : S 16 = .ptr 6 0 := by rw [I.un 16 (by decide) (by decide), s16]
    have c4 : h'.bx 4 = some (regsA r) := by rw [I.hf.bx 4 (by omega) fun h => h, b4]
    have c5 : h'.bx 5 = some (setA f5) := by rw [I.hf.bx 5 (by omega) fun h => h, b5]
    have c6 : h'.bx 6 = some (setA f6) := by rw [I.hf.bx 6 (by omega) fun h => h, b6]
    have hcl : ∀ m ∈ i :: done, ∀ j ∈ c19_a66.getD m [], j ∈ i :: done := fun m hm j hj => by
      rcases List.mem_cons.1 hm with rfl | hm
      · exact List.mem_cons_of_mem _ (haft j hj)
      · exact List.mem_cons_of_mem _ (I.d1 m hm j hj)
    have cl5 : 5 ∈ done → 4 ∈ done := fun hm => I.d1 5 hm 4 (by decide)
    have e : ∀ m, m ≠ i → (m ∈ i :: done ↔ m ∈ done) := fun m hm => by simp [hm]
    have al : ∀ {S' : Slots}, i ≠ 4 → i ≠ 5 → S' 27 = S 27 → 4 ∈ i :: done → S' 27 = .ptr h.bn 0 ∧ (5 ∉ i :: done → h'.bx h.bn = some zero9) ∧ (5 ∈ i :: done → h'.bx h.bn = some (outC r (plainOf f5) (plainOf f6) .full [])) := fun {S'} i4 i5 hS hm => by
      rw [hS, e 5 (Ne.symm i5)]
      exact I.al ((e 4 (Ne.symm i4)).1 hm)
    rcases (by omega : i = 0 ∨ i = 1 ∨ i = 2 ∨ i = 3 ∨ i = 4 ∨ i = 5) with rfl | rfl | rfl | rfl | rfl | rfl
    · cases hx
      refine ⟨.agg (regsA r), h', rfl, .pure _ _ (by simp [u14, c4, take_regsA, show 4 < h'.bn by omega]), hcl, fun y h1 h2 => ?_, fun _ => by simp, fun hm => ?_, fun hm => ?_, fun hm => ?_, I.hf, ?_, al (by decide) (by decide) (by simp)⟩
      · simp only [put]; rw [su_ne (by omega)]; exact I.un y h1 h2
      · simpa using I.v1 ((e 1 (by decide)).1 hm)
      · simpa using I.v2 ((e 2 (by decide)).1 hm)
      · simpa using I.v3 ((e 3 (by decide)).1 hm)
      · rw [I.bn]; simp only [e 4 (by decide)]
    · cases hx
      have hc := refPlainB_ok f5 (h0 := h') (b := 5) (by omega) c5
      refine ⟨encL (plainOf f5), h', rfl, .callF _ _ 60 [] [] _ _ rfl (by simpa [u15] using hc), hcl, fun y h1 h2 => ?_, fun hm => ?_, fun _ => by simp, fun hm => ?_, fun hm => ?_, I.hf, ?_, al (by decide) (by decide) (by simp)⟩
      · simp only [put]; rw [su_ne (by omega)]; exact I.un y h1 h2
      · simpa using I.v0 ((e 0 (by decide)).1 hm)
      · simpa using I.v2 ((e 2 (by decide)).1 hm)
      · simpa using I.v3 ((e 3 (by decide)).1 hm)
      · rw [I.bn]; simp only [e 4 (by decide)]
    · cases hx
      have hc := refPlainB_ok f6 (h0 := h') (b := 6) (by omega) c6
      refine ⟨encL (plainOf f6), h', rfl, .callF _ _ 60 [] [] _ _ rfl (by simpa [u16] using hc), hcl, fun y h1 h2 => ?_, fun hm => ?_, fun hm => ?_, fun _ => by simp, fun hm => ?_, I.hf, ?_, al (by decide) (by decide) (by simp)⟩
      · simp only [put]; rw [su_ne (by omega)]; exact I.un y h1 h2
      · simpa using I.v0 ((e 0 (by decide)).1 hm)
      · simpa using I.v1 ((e 1 (by decide)).1 hm)
      · simpa using I.v3 ((e 3 (by decide)).1 hm)
      · rw [I.bn]; simp only [e 4 (by decide)]
    · cases hx
      have w0 := I.v0 (haft 0 (by decide))
      have w1 := I.v1 (haft 1 (by decide))
      have w2 := I.v2 (haft 2 (by decide))
      have er : regsA r = [.int .i64 (r 0), .int .i64 (r 1), .int .i64 (r 2), .int .i64 (r 3)] := rfl
      rw [er] at w0
      refine ⟨.agg (outC r (plainOf f5) (plainOf f6) .full []), h', rfl, .pure _ _ (by simp [w0, w1, w2, outC, encL]), hcl, fun y h1 h2 => ?_, fun hm => ?_, fun hm => ?_, fun hm => ?_, fun _ => by simp, I.hf, ?_, al (by decide) (by decide) (by simp)⟩
      · simp only [put]; rw [su_ne (by omega)]; exact I.un y h1 h2
      · simpa using I.v0 ((e 0 (by decide)).1 hm)
      · simpa using I.v1 ((e 1 (by decide)).1 hm)
      · simpa using I.v2 ((e 2 (by decide)).1 hm)
      · rw [I.bn]; simp only [e 4 (by decide)]
    · cases hx
      have m5 : 5 ∉ done := fun hm => hnd (cl5 hm)
      have hbn : h'.bn = h.bn := by rw [I.bn, if_neg hnd]
      refine ⟨.ptr h'.bn 0, h'.alloc zero9, rfl, .alloc _, hcl, fun y h1 h2 => ?_, fun hm => ?_, fun hm => ?_, fun hm => ?_, fun hm => ?_, I.hf.trans (HF.alloc _ _ _ _), by simp [hbn], fun _ => ⟨by simp [hbn], fun _ => by simp [hbn], fun hm => absurd ((e 5 (by decide)).1 hm) m5⟩⟩
      · simp only [put]; rw [su_ne (by omega)]; exact I.un y h1 h2
      · simpa using I.v0 ((e 0 (by decide)).1 hm)
      · simpa using I.v1 ((e 1 (by decide)).1 hm)
      · simpa using I.v2 ((e 2 (by decide)).1 hm)
      · simpa using I.v3 ((e 3 (by decide)).1 hm)
    · cases hx
      have m4 : 4 ∈ done := haft 4 (by decide)
      have w3 := I.v3 (haft 3 (by decide))
      obtain ⟨q1, q2, q3⟩ := I.al m4
      have q2 := q2 hnd
      have hbn : h'.bn = h.bn + 1 := by rw [I.bn, if_pos m4]
      refine ⟨_, _, rfl, .store 9 _ _ h.bn 0 zero9 (outC r (plainOf f5) (plainOf f6) .full []) (by simp [q1]) (by omega) q2 (by simp [w3, outC]) (by decide), hcl, fun y h1 h2 => I.un y h1 h2, fun hm => I.v0 ((e 0 (by decide)).1 hm), fun hm => I.v1 ((e 1 (by decide)).1 hm), fun hm => I.v2 ((e 2 (by decide)).1 hm), fun hm => I.v3 ((e 3 (by decide)).1 hm), ?_, by simp [hbn, m4], fun _ => ⟨q1, fun hm => absurd (List.mem_cons_self ..) hm, fun _ => by simp [zero9]⟩⟩
      exact I.hf.trans' (HF.set (B := (· = h.bn)) _ rfl) (fun x hx e => by have e : x = h.bn := e; omega) (fun _ _ h => h)
end Go.Proofs

/- The document's run of a step that is tight: it does not fail for its footprint. -/
namespace Go.Proofs
open Go Go.RowKit Go.Am

/-- What the slots have between instructions. -/
structure B13s (a : List Int) (fr fw : Nat → Bool) (i : Nat) (S : Slots) : Prop where
  t1 : S 1 = encA a
  t4 : S 4 = .bool true
  t5 : S 5 = .ptr 0 0
  t7 : S 7 = .ptr 1 0
  t10 : S 10 = .ptr 2 0
  t11 : S 11 = setP fr
  t12 : S 12 = setP fw
  t13 : S 13 = .ptr 3 0
  t14 : S 14 = .ptr 4 0
  t15 : S 15 = .ptr 5 0
  t16 : S 16 = .ptr 6 0
  t17 : S 17 = .int .i64 i
theorem It13s.base {a : List Int} {fr fw : Nat → Bool} {i n : Nat} {kk : Int} {S : Slots} (I : It13s a fr fw i n kk S) : B13s a fr fw i S := ⟨I.t1, I.t4, I.t5, I.t7, I.t10, I.t11, I.t12, I.t13, I.t14, I.t15, I.t16, I.t17⟩
structure B13h (s : Stp) (q : Nat → Int) (h : H) : Prop where
  bn : 7 ≤ h.bn
  b0 : h.bx 0 = some (encStp s)
  b1 : h.bx 1 = some (regsA q)
  b2 : ∃ C, h.bx 2 = some C ∧ C.length = 9
  b3 : ∃ f g, h.bx 3 = some (mapA f g)
  b4 : ∃ r, h.bx 4 = some (regsA r)
  b5 : ∃ f, h.bx 5 = some (setA f)
  b6 : ∃ f, h.bx 6 = some (setA f)
theorem It13h.base {s : Stp} {q : Nat → Int} {n : Nat} {x : Inst} {h : H} (J : It13h s q n x h) : B13h s q h := ⟨by have := J.n7; have := J.bn; omega, J.b0, J.b1, J.b2, J.b3, J.b4, J.b5, J.b6⟩

/-- An outcome that isn't a failure for the footprint. -/
def notFoot (v : AV) : Prop := ∃ (c : Int) (rest : List AV), v = .agg (.int .i64 c :: rest) ∧ rest.length = 8 ∧ c ≠ 9
theorem pure_outC (r : Nat → Int) (p w : List Sp) (L : List Chg) : ∀ v ∈ outC r p w .no L, PureV v :=
  pures_cons (.int _ _) (pures_cons (.int _ _) (pures_cons (.int _ _) (pures_cons (.int _ _) (pures_cons (.int _ _) (pures_cons (.int _ _) (pures_cons (pure_encL _) (pures_cons (pure_encL _) (pures1 (elOK_Chg.pureL L)))))))))

theorem body13 : c19_l65 = .seq (.seq (.reg c19_r9) (.cond (.t 51) (.skip) (.exit 0))) (.seq (.blk 1 (.seq (.reg c19_r10) (.seq (.reg c19_r11) (.seq (.seq (.reg c19_r12) (.cond (.t 61) (.reg c19_r13) (.skip))) (.seq (.reg c19_r14) (.seq (.seq (.reg c19_r15) (.blk 2 skAll)) (.seq (.reg c19_r62) (.cond (.t 228) (.seq (.reg c19_r63) (.ret)) (.skip))))))))) (.reg c19_r64)) := rfl

set_option maxHeartbeats 4000000 in
theorem run13_call (s : Stp) (a : List Int) (q : Nat → Int) (f g) (hc : s.code.length ≤ 1000000) (hf : s.foot.length ≤ 1000000) (ht : tightB s a.length = true) (ha : argsOK a = true) :
    CallP Try.prog 19 [.agg (encStp s), encA a, .agg (regsA q), mapP f g, .bool true] H.nil fun r _ => notFoot (Am.wk r) ∧ PureV (Am.wk r) := by
  have hstp : stpB s a.length = true := by
    have := ht
    simp only [tightB, Bool.and_eq_true] at this
    exact this.1
  have hrs : rightS s a = true := by rw [rightS, ha, hstp]; rfl
  have hfm : footMay s.foot a.length = true := by
    simp only [stpB, Bool.and_eq_true] at hstp
    exact hstp.2
  have hright : rightB s.foot a = true := by rw [rightB, ha, hfm]; rfl
  have hal : a.length ≤ 3 := (argsOK_iff.1 ha).1
  have hone : ∀ x ∈ s.code, oneInst x a.length = true := by
    simp only [stpB, Bool.and_eq_true, Bool.or_eq_true, decide_eq_true_eq] at hstp
    rcases hstp.1 with h0 | hp
    · intro x hx
      rw [List.length_eq_zero_iff.1 h0] at hx
      cases hx
    · simp only [progMay, Bool.and_eq_true, List.all_eq_true] at hp
      exact hp.2
  refine CallP.run hb19 ok19 (by simp) ?_
  have hri := right13_ok s a hc hf (by omega)
  rw [hrs] at hri
  simp -implicitDefEqProofs [encStp, H.nil]
  refine callQ_p hri (by simp [encStp, wk_encA]) ?_
  simp -implicitDefEqProofs []
  refine run_dreg c19_d4 ?_
  simp -implicitDefEqProofs []
  refine lcallQ_p (refSet_ok s.foot a false hright) (by simp [wk_encA]) ?_
  simp -implicitDefEqProofs []
  refine lcallQ_p (refSet_ok s.foot a true hright) (by simp [wk_encA]) ?_
  simp -implicitDefEqProofs []
  refine callQ_s (copy13_ok f g _) (by simp [wk_mapP]) ?_
  have er : List.take 4 (regsA q) = regsA q := take_regsA q
  simp -implicitDefEqProofs [er, -List.reduceReplicate, setA_zero]
  refine run_loop (fun n S h => ∃ i : Nat, n = s.code.length - i ∧ i ≤ s.code.length ∧ B13s a (fun k => hasK (spansF s.foot a false) k) (fun k => hasK (spansF s.foot a true) k) i S ∧ B13h s q h) ?_ s.code.length ?_
  rotate_left
  · refine ⟨0, by simp, Nat.zero_le _, ⟨by simp, by simp, by simp, by simp, by simp, by simp, by simp, by simp, by simp, by simp, by simp, by simp⟩, ⟨by simp, by simp [encStp], by simp, by simp, ?_, ?_, ?_, ?_⟩⟩
    · exact ⟨f, g, by simp⟩
    · exact ⟨q, by simp⟩
    · exact ⟨_, by simp; rfl⟩
    · exact ⟨_, by simp; rfl⟩
  clear hri er
  rintro n S h ⟨i, hn, hi, I, J⟩ ih
  have hbn := J.bn
  have b0 := J.b0
  rw [encStp] at b0
  have m0 : 0 < h.bn := by omega
  by_cases hlt : i < s.code.length
  · have i1 := idxOf_nat (k := .i64) hlt
    have hx1 := hone _ (List.getElem_mem hlt)
    have hmem := List.getElem_mem hlt
    rw [body13]
    have hgo : ∀ (kk : Int) (S1 : Slots) (h1 : H), It13s a (fun k => hasK (spansF s.foot a false) k) (fun k => hasK (spansF s.foot a true) k) i h.bn kk S1 → It13h s q h.bn s.code[i] h1 → S1 20 = .int .i64 0 → S1 67 = .int .i64 s.code[i].op → (s.code[i].op ≤ 4 → kk = keyV s.code[i].k a) →
        Run Try.prog false (.c skAll :: .blk 2 :: .c (.seq (.reg c19_r62) (.cond (.t 228) (.seq (.reg c19_r63) (.ret)) (.skip))) :: .blk 1 :: .c (.reg c19_r64) :: .lp c19_l65 :: .blk 0 :: .c (.seq (.dreg c19_r66 c19_a66) (.seq (.seq (.reg c19_r67) (.blk 7 (.loop c19_l75))) (.seq (.reg c19_r76) (.ret)))) :: []) (retQ [.cell 10 9 true] fun r _ => notFoot (Am.wk r) ∧ PureV (Am.wk r)) S1 h1 := fun kk S1 h1 I J t20 t67 hkk => by
      refine run_one I J t20 t67 hx1 ha hkk (fun ho m k1 k2 => ?_) (fun ho m k1 k2 => ?_) fun S2 h2 e I J t20 h9 => ?_
      · obtain ⟨t, ht1, ht2⟩ := tight_in ht hmem (by omega) (by omega)
        exact tight_key hright ht1 ht2 (w := false) (fun h => by cases h) k1 k2
      · obtain ⟨t, ht1, ht2⟩ := tight_in ht hmem (by omega) (by omega)
        exact tight_key hright ht1 ht2 (w := true) (fun _ => ho) k1 k2
      · by_cases h0 : e = 0
        · subst h0
          simp -implicitDefEqProofs [t20, I.t17, inc_i64 hlt (by omega), -Int.natCast_add]
          refine ih (s.code.length - (i + 1)) _ _ (by omega) ⟨i + 1, rfl, by omega, ?_, J.base⟩
          have I := I.base
          exact ⟨by simp [I.t1], by simp [I.t4], by simp [I.t5], by simp [I.t7], by simp [I.t10], by simp [I.t11], by simp [I.t12], by simp [I.t13], by simp [I.t14], by simp [I.t15], by simp [I.t16], by simp⟩
        · obtain ⟨C, b2, c9⟩ := J.b2
          have b1 := J.b1
          have er : regsA q = [.int .i64 (q 0), .int .i64 (q 1), .int .i64 (q 2), .int .i64 (q 3)] := rfl
          rw [er] at b1
          have hbn2 := J.base.bn
          have cd : List.drop 9 C = [] := List.drop_eq_nil_of_le (by omega)
          simp -implicitDefEqProofs [t20, I.t7, I.t10, I.t17, h0, b1, b2, c9, cd, show 1 < h2.bn by omega, show 2 < h2.bn by omega]
          refine ⟨⟨e, _, rfl, by simp, h9⟩, ?_⟩
          exact .agg (pures_cons (.int _ _) (pures_cons (.int _ _) (pures_cons (.int _ _) (pures_cons (.int _ _) (pures_cons (.int _ _) (pures_cons (.int _ _) (pures_cons (pure_encL []) (pures_cons (pure_encL []) (pures1 (pure_encL []))))))))))
    have hJ : ∀ z : List AV, It13h s q h.bn s.code[i] ((h.alloc z).set h.bn (encInst s.code[i])) := fun zz => by
      have z : ∀ b, b < 7 → ¬ b = h.bn := fun b hb => by omega
      obtain ⟨C, b2, c9⟩ := J.b2
      obtain ⟨f, g, b3⟩ := J.b3
      obtain ⟨r, b4⟩ := J.b4
      obtain ⟨f5, b5⟩ := J.b5
      obtain ⟨f6, b6⟩ := J.b6
      exact ⟨hbn, by simp, by simp [z 0 (by decide), J.b0], by simp [z 1 (by decide), J.b1], ⟨C, by simp [z 2 (by decide), b2], c9⟩, ⟨f, g, by simp [z 3 (by decide), b3]⟩, ⟨r, by simp [z 4 (by decide), b4]⟩, ⟨f5, by simp [z 5 (by decide), b5]⟩, ⟨f6, by simp [z 6 (by decide), b6]⟩, by simp⟩
    by_cases ho : s.code[i].op ≤ 4
    · have hkey : keyOKs s.code[i].k a = true := by
        have hkk : mayKey s.code[i].k a.length = true := by
          rcases ones_of hx1 with ⟨o, r, k1⟩ | ⟨o, r, k1⟩ | ⟨o, r, k1⟩ | ⟨o, r, k1, k2⟩ | ⟨o, r⟩ | ⟨o, r⟩ | ⟨o, r, r2, r3⟩
          · exact k1
          · exact k1
          · exact k1
          · exact k1
          · omega
          · omega
          · omega
        simp [keyOKs, hkk, ha]
      simp -implicitDefEqProofs [I.t1, I.t5, I.t17, b0, m0, hlt, encInst, ho]
      refine callQ_p (refKey_ok s.code[i].k a hkey) (by simp [encKeyT, wk_encA]) ?_
      simp -implicitDefEqProofs []
      exact hgo _ _ _ ⟨by simp [I.t1], by simp [I.t4], by simp [I.t5], by simp [I.t7], by simp [I.t10], by simp [I.t11], by simp [I.t12], by simp [I.t13], by simp [I.t14], by simp [I.t15], by simp [I.t16], by simp [I.t17], by simp, by simp⟩ (hJ _) (by simp) (by simp) (fun _ => rfl)
    · simp -implicitDefEqProofs [I.t5, I.t17, b0, m0, hlt, encInst, ho]
      exact hgo 0 _ _ ⟨by simp [I.t1], by simp [I.t4], by simp [I.t5], by simp [I.t7], by simp [I.t10], by simp [I.t11], by simp [I.t12], by simp [I.t13], by simp [I.t14], by simp [I.t15], by simp [I.t16], by simp [I.t17], by simp, by simp⟩ (hJ _) (by simp) (by simp) (fun h => absurd h ho)
  · obtain rfl : i = s.code.length := by omega
    obtain ⟨C, b2, c9⟩ := J.b2
    obtain ⟨f3, g3, b3⟩ := J.b3
    obtain ⟨r, b4⟩ := J.b4
    obtain ⟨f5, b5⟩ := J.b5
    obtain ⟨f6, b6⟩ := J.b6
    clear ih
    simp -implicitDefEqProofs [I.t5, I.t17, b0, m0]
    refine run_d66 (by simp [I.t14]) (by simp [I.t15]) (by simp [I.t16]) hbn b4 b5 b6 fun S' h' un t27 hf hbn' hbm => ?_
    have u10 : S' 10 = .ptr 2 0 := by rw [un 10 (by decide) (by decide)]; simp [I.t10]
    have u13 : S' 13 = .ptr 3 0 := by rw [un 13 (by decide) (by decide)]; simp [I.t13]
    have u16 : S' 16 = .ptr 6 0 := by rw [un 16 (by decide) (by decide)]; simp [I.t16]
    have c2 : h'.bx 2 = some C := by rw [hf.bx 2 (by omega) fun h => h, b2]
    have c3 : h'.bx 3 = some (mapA f3 g3) := by rw [hf.bx 3 (by omega) fun h => h, b3]
    have c6 : h'.bx 6 = some (setA f6) := by rw [hf.bx 6 (by omega) fun h => h, b6]
    generalize hb : h.bn = b at *
    generalize plainOf f5 = p5 at *
    generalize plainOf f6 = p6 at *
    simp -implicitDefEqProofs []
    refine run_loop (fun m S h => ∃ (k : Nat) (L : List Chg) (t : Tok), m = 1000 - k ∧ k ≤ 1000 ∧ S 10 = .ptr 2 0 ∧ S 13 = .ptr 3 0 ∧ S 16 = .ptr 6 0 ∧ S 27 = .ptr b 0 ∧ S 28 = .int .i64 k ∧ b < h.bn ∧ h.bx 2 = some C ∧ h.bx 3 = some (mapA f3 g3) ∧ h.bx 6 = some (setA f6) ∧ h.bx b = some (outC r p5 p6 t L) ∧ TLive h t L.length ∧ L.length ≤ k) ?_ 1000 ?_
    rotate_left
    · exact ⟨0, [], .full, rfl, Nat.zero_le _, by simp [u10], by simp [u13], by simp [u16], by simp [t27], by simp, by omega, c2, c3, c6, hbm, trivial, Nat.zero_le _⟩
    clear u10 u13 u16 t27 c2 c3 c6 hbm hf un hbn' I J
    rintro m S h ⟨k, L, t, hm, hk, t10, t13, t16, t27, t28, lb, c2, c3, c6, cb, live, hL⟩ ih
    have m2 : 2 < h.bn := by omega
    have m3 : 3 < h.bn := by omega
    have m6 : 6 < h.bn := by omega
    by_cases hlt : k < 1000
    · have i1 := idxOf_nat (k := .i64) hlt
      have ki : (k : Int) < 1000 := by omega
      have g6 := setA_at f6 hlt
      have g3' := mapA_is f3 g3 hlt
      have g4' := mapA_v f3 g3 hlt
      cases h6 : f6 k
      · rw [h6] at g6
        simp -implicitDefEqProofs [t16, t28, c6, m6, g6, ki, show k ≤ 999 by omega, inc_i64 hlt (by omega), -Int.natCast_add]
        exact ih (1000 - (k + 1)) _ _ (by omega) ⟨k + 1, L, t, rfl, by omega, by simp [t10], by simp [t13], by simp [t16], by simp [t27], by simp, lb, c2, c3, c6, cb, live, by omega⟩
      · rw [h6] at g6
        have z2 : ¬ 2 = h.bn := by omega
        have z3 : ¬ 3 = h.bn := by omega
        have z6 : ¬ 6 = h.bn := by omega
        have zb : ¬ b = h.bn := by omega
        have cb' := cb
        unfold outC at cb'
        cases hf3 : f3 k
        · rw [hf3] at g3'
          simp -implicitDefEqProofs [t13, t16, t28, c3, c6, m3, m6, g6, g3', ki, z3, show k ≤ 999 by omega, show k ≤ 1999 by omega, show 3 < h.bn + 1 by omega, show b < h.bn + 1 by omega, t27, cb', zb]
          refine appQ_tok (t := t) (es := L.map encChg) (es2 := [encChg ⟨k, true, 0⟩]) (by simpa using live) (by simp [encChg]) (by simp [srcA, encChg]) (by simp; omega) fun t' h3 p1 p2 p3 p4 => ?_
          have e2 : h3.bx 2 = some C := by rw [p3.bx 2 (by simp; omega) fun h => h]; simp [z2, c2]
          have e3 : h3.bx 3 = some (mapA f3 g3) := by rw [p3.bx 3 (by simp; omega) fun h => h]; simp [z3, c3]
          have e6 : h3.bx 6 = some (setA f6) := by rw [p3.bx 6 (by simp; omega) fun h => h]; simp [z6, c6]
          have eb : h3.bx b = some (outC r p5 p6 t L) := by rw [p3.bx b (by simp; omega) fun h => h]; simp [zb, cb]
          have lb3 : b < h3.bn := by rw [p4]; simp; omega
          unfold outC at eb
          simp -implicitDefEqProofs [t27, t28, eb, lb3, inc_i64 hlt (by omega), -Int.natCast_add]
          exact ih (1000 - (k + 1)) _ _ (by omega) ⟨k + 1, L ++ [⟨k, true, 0⟩], t', rfl, by omega, by simp [t10], by simp [t13], by simp [t16], by simp [t27], by simp, by simpa using lb3, by simp [show ¬ 2 = b by omega, e2], by simp [show ¬ 3 = b by omega, e3], by simp [show ¬ 6 = b by omega, e6], by simp [outC, encChg], by simpa using p1, by simp; omega⟩
        · rw [hf3] at g3'
          simp -implicitDefEqProofs [t13, t16, t28, c3, c6, m3, m6, g6, g3', g4', ki, z3, show k ≤ 999 by omega, show k ≤ 1999 by omega, show 1000 + k ≤ 1999 by omega, show 3 < h.bn + 1 by omega, show b < h.bn + 1 by omega, t27, cb', zb]
          refine appQ_tok (t := t) (es := L.map encChg) (es2 := [encChg ⟨k, false, g3 k⟩]) (by simpa using live) (by simp [encChg]) (by simp [srcA, encChg]) (by simp; omega) fun t' h3 p1 p2 p3 p4 => ?_
          have e2 : h3.bx 2 = some C := by rw [p3.bx 2 (by simp; omega) fun h => h]; simp [z2, c2]
          have e3 : h3.bx 3 = some (mapA f3 g3) := by rw [p3.bx 3 (by simp; omega) fun h => h]; simp [z3, c3]
          have e6 : h3.bx 6 = some (setA f6) := by rw [p3.bx 6 (by simp; omega) fun h => h]; simp [z6, c6]
          have eb : h3.bx b = some (outC r p5 p6 t L) := by rw [p3.bx b (by simp; omega) fun h => h]; simp [zb, cb]
          have lb3 : b < h3.bn := by rw [p4]; simp; omega
          unfold outC at eb
          simp -implicitDefEqProofs [t27, t28, eb, lb3, inc_i64 hlt (by omega), -Int.natCast_add]
          exact ih (1000 - (k + 1)) _ _ (by omega) ⟨k + 1, L ++ [⟨k, false, g3 k⟩], t', rfl, by omega, by simp [t10], by simp [t13], by simp [t16], by simp [t27], by simp, by simpa using lb3, by simp [show ¬ 2 = b by omega, e2], by simp [show ¬ 3 = b by omega, e3], by simp [show ¬ 6 = b by omega, e6], by simp [outC, encChg], by simpa using p1, by simp; omega⟩
    · have cd : List.drop 9 C = [] := List.drop_eq_nil_of_le (by omega)
      unfold outC at cb
      simp -implicitDefEqProofs [t10, t27, t28, cb, lb, c2, c9, cd, m2, wk_encL, show ¬ (k : Int) < 1000 by omega]
      refine ⟨⟨0, _, rfl, by simp, by decide⟩, ?_⟩
      exact .agg (pure_outC r p5 p6 L)
end Go.Proofs

/- The keys that a span may have. -/
namespace Go.Proofs
open Go Go.RowKit Go.Am

def mostV (k : KeyT) : Int := if k.arg < 0 then k.base else k.base + 99
theorem oneF_keys {s : SpanT} {n : Int} (h : footMay [s] n = true) : mayKey s.lo n = true ∧ mayKey s.hi n = true := by
  simp only [footMay, Bool.and_eq_true, List.all_eq_true] at h
  have := h.2 s (by simp)
  exact this
theorem mayKey_iff2 {k : KeyT} {n : Int} : mayKey k n = true ↔ -1 ≤ k.arg ∧ k.arg < n ∧ 0 ≤ k.base ∧ k.base ≤ 900 := by
  simp only [mayKey, Bool.and_eq_true, decide_eq_true_eq, and_assoc]
/-- What the program says. -/
def spanL (s : SpanT) (n : Int) : List Sp := if footMay [s] n = true then (if s.lo.arg = s.hi.arg ∧ s.hi.base < s.lo.base then [] else plainL [(s.lo.base, mostV s.hi)]) else []

theorem most_ok (k : KeyT) (hk : 0 ≤ k.base ∧ k.base ≤ 900) : PCall Try.prog 102 [.agg (encKeyT k)] (.int .i64 (mostV k)) := by
  refine PCall.run hb102 ok102 (by simp) (pures1 (.agg (pure_encKeyT k))) (.int _ _) ?_
  have w : IntKind.i64.wrap (k.base + 99) = k.base + 99 := wrap_i64 (by omega) (by omega)
  by_cases h : k.arg < 0
  · simp -implicitDefEqProofs [encKeyT, H.nil, mostV, h]
  · simp -implicitDefEqProofs [encKeyT, H.nil, mostV, h, w]

theorem lintSpan_ok (s : SpanT) (n : Int) : PCall Try.prog 44 [.agg (encSpanT s), .int .i64 n] (encL (spanL s n)) := by
  refine PCall.run hb44 ok44 (by simp) (pures2 (.agg (pure_encSpanT s)) (.int _ _)) (pure_encL _) ?_
  simp -implicitDefEqProofs [encSpanT, H.nil]
  refine callQ_p (footMay_ok [s] n (by simp)) (by simp [encSpanT]) ?_
  cases hm : footMay [s] n
  · simp -implicitDefEqProofs [spanL, hm, encL]
  · obtain ⟨k1, k2⟩ := oneF_keys hm
    have b1 := mayKey_iff2.1 k1
    have b2 := mayKey_iff2.1 k2
    by_cases ha : s.lo.arg = s.hi.arg
    · by_cases hb : s.hi.base < s.lo.base
      · simp -implicitDefEqProofs [spanL, hm, ha, hb, encL]
      · simp -implicitDefEqProofs [ha, hb]
        refine run_dreg c44_d6 ?_
        simp -implicitDefEqProofs []
        refine lcallQ_p (most_ok s.hi ⟨by omega, by omega⟩) (by simp [encKeyT]) ?_
        simp -implicitDefEqProofs []
        refine lcallQ_p (keysPlain_ok [(s.lo.base, mostV s.hi)] (by simp)) (by simp [encL, avP]) ?_
        simp -implicitDefEqProofs [spanL, hm, ha, hb, wk_encL]
    · simp -implicitDefEqProofs [ha]
      refine run_dreg c44_d6 ?_
      simp -implicitDefEqProofs []
      refine lcallQ_p (most_ok s.hi ⟨by omega, by omega⟩) (by simp [encKeyT]) ?_
      simp -implicitDefEqProofs []
      refine lcallQ_p (keysPlain_ok [(s.lo.base, mostV s.hi)] (by simp)) (by simp [encL, avP]) ?_
      simp -implicitDefEqProofs [spanL, hm, ha, wk_encL]

/-! ### The document's -/
end Go.Proofs

/- The statement LintSpans: its function hands back true. -/
namespace Go.Proofs
open Go Go.RowKit Go.Am

theorem alive27f_ok (x y : Int) : PCall Try.prog 43 [.int .i64 x, .int .i64 y] (.agg (encKeyT ⟨x, y⟩)) := by
  refine PCall.run hb43 ok43 (by simp) (pures2 (.int _ _) (.int _ _)) (.agg (pure_encKeyT _)) ?_
  simp -implicitDefEqProofs [H.nil, encKeyT]

theorem alive27_ok : PCall Try.prog 16 [] (.bool true) := by
  refine PCall.run hb16 ok16 (by simp) (fun v hv => by cases hv) (.bool _) ?_
  have hp : ∀ x y : Int, mayS (x, y) = true → plainL [(x, y)] = [(x, y)] := fun x y h => plainL_plain ⟨fun s hs => by rw [List.mem_singleton.1 hs]; exact h, List.pairwise_singleton _ _⟩
  have e1 : spanL ⟨⟨0, 5⟩, ⟨0, 7⟩, false⟩ 1 = [(5, 106)] := by
    rw [spanL, if_pos (by decide), if_neg (by decide)]
    exact hp 5 106 (by decide)
  have e2 : spanL ⟨⟨0, 5⟩, ⟨-1, 7⟩, false⟩ 1 = [(5, 7)] := by
    rw [spanL, if_pos (by decide), if_neg (by decide)]
    exact hp 5 7 (by decide)
  simp -implicitDefEqProofs []
  refine callQ_p (alive27f_ok 0 5) (by simp) ?_
  simp -implicitDefEqProofs []
  refine callQ_p (alive27f_ok 0 7) (by simp) ?_
  simp -implicitDefEqProofs [encKeyT]
  refine callQ_p (lintSpan_ok ⟨⟨0, 5⟩, ⟨0, 7⟩, false⟩ 1) (by simp [encSpanT]) ?_
  rw [e1]
  simp -implicitDefEqProofs []
  refine callQ_p (alive27f_ok 0 5) (by simp) ?_
  simp -implicitDefEqProofs []
  refine callQ_p (alive27f_ok (-1) 7) (by simp) ?_
  simp -implicitDefEqProofs [encKeyT]
  refine callQ_p (lintSpan_ok ⟨⟨0, 5⟩, ⟨-1, 7⟩, false⟩ 1) (by simp [encSpanT]) ?_
  rw [e2]
  simp -implicitDefEqProofs []
  refine callQ_p (refSame_ok [(5, 106)] [(5, 106)] (by simp) (by simp)) (by simp [encL, avP]) ?_
  simp -implicitDefEqProofs []
  refine callQ_p (refSame_ok [(5, 7)] [(5, 7)] (by simp) (by simp)) (by simp [encL, avP]) ?_
  simp -implicitDefEqProofs []

end Go.Proofs

/- The statement LintSure: its function hands back true. -/
namespace Go.Proofs
open Go Go.RowKit Go.Am

def vSure (s : Stp) (a : List Int) (q : Nat → Int) (l : List Spn) (i : Nat) : AV := match i with
  | 0 => .agg (encStp s) | 1 => encA a | 2 => .agg (regsA q) | 3 => .sl .no (l.map encSpn) | _ => mapP (mapOf l).1 (mapOf l).2
structure SureI (s : Stp) (a : List Int) (q : Nat → Int) (l : List Spn) (s0 : Slots) (h : H) (done : List Nat) (S : Slots) (h' : H) : Prop where
  hh : h' = h
  un : ∀ y, y ≠ 8 → (y < 41 ∨ 48 < y) → S y = s0 y
  v : ∀ i ∈ done, i < 5 → S (41 + i) = vSure s a q l i
  v5 : 5 ∈ done → notFoot (S 46)
  v6 : 6 ∈ done → ∃ c : Int, S 47 = .int .i64 c ∧ c ≠ 9
  v7 : 7 ∈ done → S 48 = .bool true
  v8 : 8 ∈ done → S 8 = .bool true
theorem SureI.light {s : Stp} {a : List Int} {q : Nat → Int} {l : List Spn} {s0 : Slots} {h : H} {done : List Nat} {S : Slots} {h' : H} (I : SureI s a q l s0 h done S h') {i : Nat} (hi : i < 5) : SureI s a q l s0 h (i :: done) (put S (some (41 + i)) (vSure s a q l i)) h' := by
  have e : ∀ m, m ≠ i → (m ∈ i :: done ↔ m ∈ done) := fun m hm => by simp [hm]
  refine ⟨I.hh, fun y h1 h2 => ?_, fun m hm m5 => ?_, fun hm => ?_, fun hm => ?_, fun hm => ?_, fun hm => ?_⟩
  · simp only [put]; rw [su_ne (by omega)]; exact I.un y h1 h2
  · simp only [put]
    by_cases hmi : m = i
    · subst hmi; exact su_eq
    · rw [su_ne (by omega)]; exact I.v m ((e m hmi).1 hm) m5
  · simp only [put]; rw [su_ne (by omega)]; exact I.v5 ((e 5 (by omega)).1 hm)
  · simp only [put]; rw [su_ne (by omega)]; exact I.v6 ((e 6 (by omega)).1 hm)
  · simp only [put]; rw [su_ne (by omega)]; exact I.v7 ((e 7 (by omega)).1 hm)
  · simp only [put]; rw [su_ne (by omega)]; exact I.v8 ((e 8 (by omega)).1 hm)

theorem pure_regsA (q : Nat → Int) : ∀ v ∈ regsA q, PureV v := fun v hv => by
  unfold regsA cellsN at hv
  obtain ⟨k, _, rfl⟩ := List.mem_map.1 hv
  exact .int _ _
set_option maxHeartbeats 2000000 in
theorem sure_d8 {s : Stp} {a : List Int} {q : Nat → Int} {l : List Spn} (hc : s.code.length ≤ 1000000) (hf : s.foot.length ≤ 1000000) (ht : tightB s a.length = true) (ha : argsOK a = true) (hl : l.length ≤ 1000000) {s0 : Slots} {h : H}
    (t1 : s0 1 = encA a) (t3 : s0 3 = .sl .no (l.map encSpn)) (t4 : s0 4 = .ptr 0 0) (t6 : s0 6 = .ptr 1 0) (hb : 1 < h.bn) (b0 : h.bx 0 = some (encStp s)) (b1 : h.bx 1 = some (regsA q)) {inr : Bool} {k : List It} {Q : Res → Slots → H → Prop}
    (hk : ∀ S, S 8 = .bool true → Run Try.prog inr k Q S h) : Run Try.prog inr (.c (.dreg c4_r8 c4_a8) :: k) Q s0 h := by
  have hrun := (run13_call s a q (mapOf l).1 (mapOf l).2 hc hf ht ha).pureD (pures_cons (pure_encStp1 s) (pures_cons (pure_encA a) (pures_cons (.agg (pure_regsA q)) (pures_cons (pure_mapP _ _) (pures1 (.bool _)))))) h
  refine run_topoQ (Inv := SureI s a q l s0 h) ?_ ⟨rfl, fun _ _ _ => rfl, (fun i hi => absurd hi List.not_mem_nil), (fun hi => absurd hi List.not_mem_nil), (fun hi => absurd hi List.not_mem_nil), (fun hi => absurd hi List.not_mem_nil), (fun hi => absurd hi List.not_mem_nil)⟩ ?_
  rotate_left
  · intro done S h' hall I
    obtain rfl := I.hh
    exact hk S (I.v8 (hall 8 (by decide)))
  · intro i x done S h' hx hnd haft I
    have hi : i < 9 := (List.getElem?_eq_some_iff.1 hx).1
    obtain rfl := I.hh
    have u1 : S 1 = encA a := by rw [I.un 1 (by decide) (by decide), t1]
    have u3 : S 3 = .sl .no (l.map encSpn) := by rw [I.un 3 (by decide) (by decide), t3]
    have u4 : S 4 = .ptr 0 0 := by rw [I.un 4 (by decide) (by decide), t4]
    have u6 : S 6 = .ptr 1 0 := by rw [I.un 6 (by decide) (by decide), t6]
    have m0 : 0 < h'.bn := by omega
    have e : ∀ m, m ≠ i → (m ∈ i :: done ↔ m ∈ done) := fun m hm => by simp [hm]
    rcases (by omega : i = 0 ∨ i = 1 ∨ i = 2 ∨ i = 3 ∨ i = 4 ∨ i = 5 ∨ i = 6 ∨ i = 7 ∨ i = 8) with rfl | rfl | rfl | rfl | rfl | rfl | rfl | rfl | rfl
    · cases hx
      refine ⟨rfl, ?_⟩
      show ob (pv _ (ev S) h') _
      rw [show pv (.load 2 true (.t 4)) (ev S) h' = some (vSure s a q l 0) by simp [u4, b0, m0, vSure, encStp]]
      exact I.light (by decide)
    · cases hx
      refine ⟨rfl, ?_⟩
      show SureI s a q l s0 h' (1 :: done) (put S (some 42) (ev S (.t 1))) h'
      rw [show ev S (.t 1) = vSure s a q l 1 by simp [u1, vSure]]
      exact I.light (by decide)
    · cases hx
      refine ⟨rfl, ?_⟩
      show ob (pv _ (ev S) h') _
      rw [show pv (.load 4 true (.t 6)) (ev S) h' = some (vSure s a q l 2) by simp [u6, b1, hb, vSure, take_regsA]]
      exact I.light (by decide)
    · cases hx
      refine ⟨rfl, ?_⟩
      show SureI s a q l s0 h' (3 :: done) (put S (some 44) (ev S (.t 3))) h'
      rw [show ev S (.t 3) = vSure s a q l 3 by simp [u3, vSure]]
      exact I.light (by decide)
    · cases hx
      have v3 : S 44 = _ := I.v 3 (haft 3 (by decide)) (by decide)
      refine ⟨rfl, ?_⟩
      show callQ Try.prog (.fn 20 [] []) [S 44] h' _
      rw [v3]
      refine callQ_p (of13_ok l hl) (by simp [vSure]) ?_
      exact I.light (by decide)
    · cases hx
      have v0 : S 41 = _ := I.v 0 (haft 0 (by decide)) (by decide)
      have v1 : S 42 = _ := I.v 1 (haft 1 (by decide)) (by decide)
      have v2 : S 43 = _ := I.v 2 (haft 2 (by decide)) (by decide)
      have v4 : S 45 = _ := I.v 4 (haft 4 (by decide)) (by decide)
      refine ⟨rfl, ?_⟩
      show callQ Try.prog (.fn 19 [] []) [S 41, S 42, S 43, S 45, .bool true] h' _
      rw [v0, v1, v2, v4]
      refine callQ_c hrun (by simp [vSure, wk_encA, wk_regsA, wk_mapP]) fun r h2 ⟨hr, hh⟩ => ?_
      subst hh
      refine ⟨rfl, fun y h1 h2 => ?_, fun m hm m5 => ?_, fun _ => ?_, fun hm => ?_, fun hm => ?_, fun hm => ?_⟩
      · simp only [put]; rw [su_ne (by omega)]; exact I.un y h1 h2
      · simp only [put]; rw [su_ne (by omega)]; exact I.v m ((e m (by omega)).1 hm) m5
      · simp only [put]; rw [su_eq]; exact hr
      · simp only [put]; rw [su_ne (by omega)]; exact I.v6 ((e 6 (by omega)).1 hm)
      · simp only [put]; rw [su_ne (by omega)]; exact I.v7 ((e 7 (by omega)).1 hm)
      · simp only [put]; rw [su_ne (by omega)]; exact I.v8 ((e 8 (by omega)).1 hm)
    · cases hx
      obtain ⟨c, rest, w1, w2, w3⟩ := I.v5 (haft 5 (by decide))
      refine ⟨rfl, ?_⟩
      show ob (pv _ (ev S) h') _
      rw [show pv (.fld 0 1 false (.t 46)) (ev S) h' = some (.int .i64 c) by simp [w1]]
      refine ⟨rfl, fun y h1 h2 => ?_, fun m hm m5 => ?_, fun hm => ?_, fun _ => ⟨c, su_eq, w3⟩, fun hm => ?_, fun hm => ?_⟩
      · simp only [put]; rw [su_ne (by omega)]; exact I.un y h1 h2
      · simp only [put]; rw [su_ne (by omega)]; exact I.v m ((e m (by omega)).1 hm) m5
      · simp only [put]; rw [su_ne (by omega)]; exact I.v5 ((e 5 (by omega)).1 hm)
      · simp only [put]; rw [su_ne (by omega)]; exact I.v7 ((e 7 (by omega)).1 hm)
      · simp only [put]; rw [su_ne (by omega)]; exact I.v8 ((e 8 (by omega)).1 hm)
    · cases hx
      obtain ⟨c, w1, w3⟩ := I.v6 (haft 6 (by decide))
      refine ⟨rfl, ?_⟩
      show ob (pv _ (ev S) h') _
      rw [show pv (.bin .neq (.t 47) (.c (.int .i64 9))) (ev S) h' = some (.bool true) by simp [w1, w3]]
      refine ⟨rfl, fun y h1 h2 => ?_, fun m hm m5 => ?_, fun hm => ?_, fun hm => ?_, fun _ => su_eq, fun hm => ?_⟩
      · simp only [put]; rw [su_ne (by omega)]; exact I.un y h1 h2
      · simp only [put]; rw [su_ne (by omega)]; exact I.v m ((e m (by omega)).1 hm) m5
      · simp only [put]; rw [su_ne (by omega)]; exact I.v5 ((e 5 (by omega)).1 hm)
      · simp only [put]; rw [su_ne (by omega)]; exact I.v6 ((e 6 (by omega)).1 hm)
      · simp only [put]; rw [su_ne (by omega)]; exact I.v8 ((e 8 (by omega)).1 hm)
    · cases hx
      have w1 := I.v7 (haft 7 (by decide))
      refine ⟨rfl, ?_⟩
      show SureI s a q l s0 h' (8 :: done) (put S (some 8) (ev S (.t 48))) h'
      rw [show ev S (.t 48) = .bool true by simp [w1]]
      refine ⟨rfl, fun y h1 h2 => ?_, fun m hm m5 => ?_, fun hm => ?_, fun hm => ?_, fun hm => ?_, fun _ => su_eq⟩
      · simp only [put]; rw [su_ne h1]; exact I.un y h1 h2
      · simp only [put]; rw [su_ne (by omega)]; exact I.v m ((e m (by omega)).1 hm) m5
      · simp only [put]; rw [su_ne (by omega)]; exact I.v5 ((e 5 (by omega)).1 hm)
      · simp only [put]; rw [su_ne (by omega)]; exact I.v6 ((e 6 (by omega)).1 hm)
      · simp only [put]; rw [su_ne (by omega)]; exact I.v7 ((e 7 (by omega)).1 hm)

theorem okWide_array {P : Program} {w : World} {r : Reach} {base : Nat} {t : TypeId} {v : Value} {n : Nat} {e : TypeId} (ht : P.underlying t = some (.array n e)) (h : Value.okWide P w r base t v) : ∃ cs, v = .agg cs ∧ cs.size = P.cellsOf t := by
  simp only [Value.okWide, ht] at h
  obtain ⟨cs, h1, h2, _⟩ := h
  exact ⟨cs, h1, h2⟩
theorem regs_four' {r : List Int} (h : r.length = 4) : ∃ q, r.map (AV.int .i64) = regsA q := by
  match r, h with
  | [a, b, c, d], _ => exact ⟨fun k => ([a, b, c, d] : List Int)[k]?.getD 0, rfl⟩

set_option maxHeartbeats 1000000 in
theorem lintSure_ok (s : Stp) (a : List Int) (r : List Int) (l : List Spn) (hr : r.length = 4) (ws : s.wf) (wa : a.length ≤ maxLen) : PCall Try.prog 4 [.agg (encStp s), .sl .no (a.map encN), .agg (r.map (AV.int .i64)), .sl .no (l.map encSpn)] (.bool true) := by
  obtain ⟨q, hq⟩ := regs_four' hr
  rw [hq]
  have hcl := ws.1.1
  have hfl := ws.2.1
  simp only [maxLen] at hcl hfl wa
  refine PCall.run hb4 ok4 (by simp) (pures_cons (pure_encStp1 s) (pures_cons (pure_encA a) (pures_cons (.agg (pure_regsA q)) (pures1 (elOK_Spn.pureL l))))) (.bool _) ?_
  have htc := tight_ok s a.length (by omega) (by omega)
  simp -implicitDefEqProofs [encStp, H.nil]
  refine callQ_p alive27_ok (by simp) ?_
  by_cases c1 : (40 : Int) < s.code.length
  · simp -implicitDefEqProofs [c1]
  by_cases c2 : (40 : Int) < s.foot.length
  · simp -implicitDefEqProofs [c1, c2]
  by_cases c3 : (10 : Int) < a.length
  · simp -implicitDefEqProofs [c1, c2, c3]
  by_cases c4 : (100 : Int) < l.length
  · simp -implicitDefEqProofs [c1, c2, c3, c4]
  simp -implicitDefEqProofs [c1, c2, c3, c4]
  refine callQ_p htc (by simp [encStp]) ?_
  cases ht : tightB s a.length
  · simp -implicitDefEqProofs []
  simp -implicitDefEqProofs []
  refine callQ_p (refArgs_ok a (by omega)) (by simp [encA]) ?_
  cases hA : argsOK a
  · simp -implicitDefEqProofs []
  simp -implicitDefEqProofs []
  refine sure_d8 (q := q) (by omega) (by omega) ht hA (l := l) (by omega) (by simp [encA]) (by simp) (by simp) (by simp) (by simp) (by simp [encStp]) (by simp) fun S hS => ?_
  simp -implicitDefEqProofs [hS]
end Go.Proofs
