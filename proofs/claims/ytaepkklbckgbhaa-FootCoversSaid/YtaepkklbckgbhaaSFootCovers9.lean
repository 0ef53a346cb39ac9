/- What the functions that the statement reaches do: their contracts; and what follows of it. -/
import Derived.Test.YtaepkklbckgbhaaSFootCovers8
/- What a footprint reads and writes: the document's answer. -/
namespace Go.Proofs
open Go Go.RowKit Go.Am

set_option maxHeartbeats 1000000 in
theorem refSet_ok (l : List SpanT) (a : List Int) (w : Bool) (hr : rightB l a = true) : PCall Try.prog 38 [.sl .no (l.map encSpanT), encA a, .bool w] (setP fun k => hasK (spansF l a w) k) := by
  refine PCall.run hb38 ok38 (by simp) (pures3 (elOK_SpanT.pureL l) (pure_encA a) (.bool _)) (pure_setP _) ?_
  obtain ⟨hl4, ha3⟩ := right_len hr
  simp -implicitDefEqProofs []
  refine run_loop (fun n s h => ∃ (j : Nat) (t : Tok) (d : List Sp), n = l.length - j ∧ j ≤ l.length ∧ s 0 = .sl .no (l.map encSpanT) ∧ s 1 = encA a ∧ s 2 = .bool w ∧ s 8 = .int .i64 j ∧ d = spansF (l.take j) a w ∧ s 7 = .sl t (d.map avP) ∧ TLive h t d.length) ?_ l.length ?_
  rotate_left
  · exact ⟨0, .full, [], by simp [TLive, spansF]⟩
  rintro n s h ⟨j, t, d, hn, hj, s0, s1, s2, s8, hd, s7, ht⟩ ih
  have hdl : d.length ≤ 4 := by
    rw [hd, spansF, List.length_map]
    exact Nat.le_trans (List.length_filter_le _ _) (by rw [List.length_take]; omega)
  by_cases hlt : j < l.length
  · have i1 := idxOf_nat (k := .i64) hlt
    obtain ⟨k1, k2⟩ := right_keys hr _ (List.getElem_mem hlt)
    have hdn : spansF (l.take (j + 1)) a w = d ++ if (l[j].write || !w) = true then [spanV a l[j]] else [] := by
      rw [List.take_succ_eq_append_getElem hlt, spansF, List.filter_append, List.map_append, hd, spansF]
      cases hc : (l[j].write || !w) <;> simp [hc]
    cases hw : l[j].write <;> cases w <;> simp only [hw, Bool.not_true, Bool.not_false, Bool.or_true, Bool.or_false, if_true, if_false, Bool.false_eq_true, List.append_nil] at hdn
    · simp -implicitDefEqProofs [s0, s2, s8, hlt, encSpanT, hw]
      refine run_dreg c38_d6 ?_
      simp -implicitDefEqProofs [s0, s1, s7, s8, hlt, encSpanT]
      refine lcallQ_p (refKey_ok l[j].lo a k1) (by simp [encKeyT, wk_encA]) ?_
      simp -implicitDefEqProofs [s0, s1, s8, hlt, encSpanT]
      refine lcallQ_p (refKey_ok l[j].hi a k2) (by simp [encKeyT, wk_encA]) ?_
      simp -implicitDefEqProofs []
      refine appQ_tok (es2 := [avP (spanV a l[j])]) (by rw [List.length_map]; cases t <;> exact ht) (P_len d) (by simp [srcA, avP, spanV]) (by simp; omega) fun t' h' q1 q2 q3 q4 => ?_
      simp -implicitDefEqProofs [s8, inc_i64 hlt (by omega), -Int.natCast_add]
      exact ih (l.length - (j + 1)) _ _ (by omega) ⟨j + 1, t', d ++ [spanV a l[j]], rfl, by omega, by simp [s0], by simp [s1], by simp [s2], by simp, hdn.symm, by simp, by simpa using q1⟩
    · simp -implicitDefEqProofs [s0, s2, s8, hlt, encSpanT, hw, inc_i64 hlt (by omega), -Int.natCast_add]
      exact ih (l.length - (j + 1)) _ _ (by omega) ⟨j + 1, t, d, rfl, by omega, by simp [s0], by simp [s1], by simp [s2], by simp, hdn.symm, by simp [s7], ht⟩
    · simp -implicitDefEqProofs [s0, s8, hlt, encSpanT, hw]
      refine run_dreg c38_d6 ?_
      simp -implicitDefEqProofs [s0, s1, s7, s8, hlt, encSpanT]
      refine lcallQ_p (refKey_ok l[j].lo a k1) (by simp [encKeyT, wk_encA]) ?_
      simp -implicitDefEqProofs [s0, s1, s8, hlt, encSpanT]
      refine lcallQ_p (refKey_ok l[j].hi a k2) (by simp [encKeyT, wk_encA]) ?_
      simp -implicitDefEqProofs []
      refine appQ_tok (es2 := [avP (spanV a l[j])]) (by rw [List.length_map]; cases t <;> exact ht) (P_len d) (by simp [srcA, avP, spanV]) (by simp; omega) fun t' h' q1 q2 q3 q4 => ?_
      simp -implicitDefEqProofs [s8, inc_i64 hlt (by omega), -Int.natCast_add]
      exact ih (l.length - (j + 1)) _ _ (by omega) ⟨j + 1, t', d ++ [spanV a l[j]], rfl, by omega, by simp [s0], by simp [s1], by simp [s2], by simp, hdn.symm, by simp, by simpa using q1⟩
    · simp -implicitDefEqProofs [s0, s8, hlt, encSpanT, hw]
      refine run_dreg c38_d6 ?_
      simp -implicitDefEqProofs [s0, s1, s7, s8, hlt, encSpanT]
      refine lcallQ_p (refKey_ok l[j].lo a k1) (by simp [encKeyT, wk_encA]) ?_
      simp -implicitDefEqProofs [s0, s1, s8, hlt, encSpanT]
      refine lcallQ_p (refKey_ok l[j].hi a k2) (by simp [encKeyT, wk_encA]) ?_
      simp -implicitDefEqProofs []
      refine appQ_tok (es2 := [avP (spanV a l[j])]) (by rw [List.length_map]; cases t <;> exact ht) (P_len d) (by simp [srcA, avP, spanV]) (by simp; omega) fun t' h' q1 q2 q3 q4 => ?_
      simp -implicitDefEqProofs [s8, inc_i64 hlt (by omega), -Int.natCast_add]
      exact ih (l.length - (j + 1)) _ _ (by omega) ⟨j + 1, t', d ++ [spanV a l[j]], rfl, by omega, by simp [s0], by simp [s1], by simp [s2], by simp, hdn.symm, by simp, by simpa using q1⟩
  · obtain rfl : j = l.length := by omega
    rw [List.take_length] at hd
    simp -implicitDefEqProofs [s0, s7, s8]
    refine callQ_p (refOf_ok d (by omega)) (by simp [encL, avP]) ?_
    rw [hd]
    simp -implicitDefEqProofs [wk_setP]

def insB (f g : Nat → Bool) : Bool := (List.range 1000).all fun k => !(f k && !g k)
theorem insB_iff (f g : Nat → Bool) : insB f g = true ↔ ∀ k, k < 1000 → f k = true → g k = true := by
  simp only [insB, List.all_eq_true, List.mem_range, Bool.not_eq_true', Bool.and_eq_false_iff, Bool.not_eq_false']
  constructor
  · intro h k hk hf
    rcases h k hk with h | h
    · rw [hf] at h; cases h
    · exact h
  · intro h k hk
    cases hf : f k
    · exact .inl rfl
    · exact .inr (h k hk hf)
theorem insB_sets (a b : List Sp) : insB (fun k => hasK a k) (fun k => hasK b k) = insideL a b := by
  rw [Bool.eq_iff_iff, insB_iff, insideL_iff]
theorem refInside_ok (f g : Nat → Bool) : PCall Try.prog 39 [setP f, setP g] (.bool (insB f g)) := by
  refine PCall.run hb39 ok39 (by simp) (pures2 (pure_setP f) (pure_setP g)) (.bool _) ?_
  simp -implicitDefEqProofs []
  refine run_loop (fun n s h => ∃ k : Nat, n = 1000 - k ∧ k ≤ 1000 ∧ s 0 = setP f ∧ s 1 = setP g ∧ s 5 = .int .i64 k ∧ ∀ i, i < k → f i = true → g i = true) ?_ 1000 ?_
  rotate_left
  · exact ⟨0, by simp⟩
  rintro n s h ⟨k, hn, hk, s0, s1, s5, hall⟩ ih
  by_cases hlt : k < 1000
  · have hki : (k : Int) < 1000 := by omega
    have i1 := idxOf_nat (k := .i64) hlt
    have g1 := setA_at f hlt
    have g2 := setA_at g hlt
    have hgo : ∀ s1 h1, s1 0 = setP f → s1 1 = setP g → s1 5 = .int .i64 (k + 1 : Nat) → (f k = true → g k = true) → Run Try.prog false [.lp c39_l7, .blk 0, .c (.seq (.reg c39_r8) .ret)] (retQ [.t 4] fun r' h1 => Am.wk r' = .bool (insB f g)) s1 h1 := fun s1 h1 q0 q3 q4 q5 =>
      ih (1000 - (k + 1)) _ _ (by omega) ⟨k + 1, rfl, by omega, q0, q3, q4, fun i hi => by
        by_cases h : i = k
        · subst h; exact q5
        · exact hall i (by omega)⟩
    cases hf : f k with
    | false =>
      rw [hf] at g1
      simp -implicitDefEqProofs [s0, s5, hki, setP, g1, show 1 ≤ 1000 - k by omega, inc_i64 hlt (by omega), -Int.natCast_add]
      exact hgo _ _ (by simp [s0, setP]) (by simp [s1, setP]) (by simp) (by rw [hf]; intro h; cases h)
    | true =>
      rw [hf] at g1
      cases hg : g k with
      | true =>
        rw [hg] at g2
        simp -implicitDefEqProofs [s0, s1, s5, hki, setP, g1, g2, show 1 ≤ 1000 - k by omega, inc_i64 hlt (by omega), -Int.natCast_add]
        exact hgo _ _ (by simp [s0, setP]) (by simp [s1, setP]) (by simp) (fun _ => hg)
      | false =>
        rw [hg] at g2
        have : insB f g = false := by
          rw [Bool.eq_false_iff]; intro e
          have := (insB_iff f g).1 e k hlt hf
          rw [hg] at this; cases this
        simp -implicitDefEqProofs [s0, s1, s5, hki, setP, g1, g2, show 1 ≤ 1000 - k by omega, this]
  · obtain rfl : k = 1000 := by omega
    have := (insB_iff f g).2 hall
    simp -implicitDefEqProofs [s5, this]

theorem alive10_ok : PCall Try.prog 34 [] (.bool true) := by
  refine PCall.run hb34 ok34 (by simp) (fun v hv => by cases hv) (.bool _) ?_
  have hp : plainL [(15, 17)] = [(15, 17)] := plainL_plain ⟨fun s hs => by rw [List.mem_singleton.1 hs]; decide, List.pairwise_singleton _ _⟩
  have e : rightB [⟨⟨0, 5⟩, ⟨0, 7⟩, true⟩] [10] = true := by decide
  have f : ∀ w, spansF [⟨⟨0, 5⟩, ⟨0, 7⟩, true⟩] [10] w = [(15, 17)] := fun w => by cases w <;> decide
  have r1 : readsF [⟨⟨0, 5⟩, ⟨0, 7⟩, true⟩] [10] = [(15, 17)] := by rw [readsF, if_pos e, f, hp]
  have r2 : writesF [⟨⟨0, 5⟩, ⟨0, 7⟩, true⟩] [10] = [(15, 17)] := by rw [writesF, if_pos e, f, hp]
  simp -implicitDefEqProofs []
  refine callQ_p (footSpans_run [⟨⟨0, 5⟩, ⟨0, 7⟩, true⟩] [10] (by simp) (by simp)) (by simp [encSpanT, encA, encN]) ?_
  rw [r1, r2, e]
  simp -implicitDefEqProofs []
  refine callQ_p (refSame_ok [(15, 17)] [(15, 17)] (by simp) (by simp)) (by simp [encL, avP]) ?_
  simp -implicitDefEqProofs []
  refine callQ_p (refSame_ok [(15, 17)] [(15, 17)] (by simp) (by simp)) (by simp [encL, avP]) ?_
  simp -implicitDefEqProofs []
end Go.Proofs

/- The statements FootSpans, FootCovers: their functions hand back true. -/
namespace Go.Proofs
open Go Go.RowKit Go.Am

theorem insideL_refl (a : List Sp) : insideL a a = true := (insideL_iff a a).2 fun _ _ h => h
theorem spans_sub (l : List SpanT) (a : List Int) : insideL (spansF l a true) (spansF l a false) = true := by
  rw [insideL_iff]
  intro k _ h
  obtain ⟨s, hs, q⟩ := hasK_iff.1 h
  refine hasK_iff.2 ⟨s, ?_, q⟩
  rw [spansF, List.mem_map] at hs ⊢
  obtain ⟨x, hx, e⟩ := hs
  rw [List.mem_filter] at hx
  exact ⟨x, List.mem_filter.2 ⟨hx.1, by simp⟩, e⟩
theorem insideL_plainl (a b : List Sp) : insideL (plainL a) b = insideL a b := by
  rw [Bool.eq_iff_iff, insideL_iff, insideL_iff]
  exact ⟨fun h k hk ha => h k hk (by rw [plainL_has]; exact ha), fun h k hk ha => h k hk (by rw [← plainL_has]; exact ha)⟩
theorem spans_plain (l : List SpanT) (a : List Int) (w : Bool) : plainOf (fun k => hasK (spansF l a w) k) = plainL (spansF l a w) := rfl

set_option maxHeartbeats 2000000 in
theorem footSpans_core (l : List SpanT) (n : Int) (a : List Int) : PCall Try.prog 9 [.sl .no (l.map encSpanT), .int .i64 n, encA a] (.bool true) := by
  refine PCall.run hb9 ok9 (by simp) (pures3 (elOK_SpanT.pureL l) (.int _ _) (pure_encA a)) (.bool _) ?_
  simp -implicitDefEqProofs []
  refine callQ_p alive10_ok (by simp) ?_
  by_cases hl : (20 : Int) < l.length
  · simp -implicitDefEqProofs [encA, hl]
  by_cases ha : (10 : Int) < a.length
  · simp -implicitDefEqProofs [encA, hl, ha]
  have hl2 : l.length ≤ 20 := by omega
  have ha2 : a.length ≤ 10 := by omega
  simp -implicitDefEqProofs [encA, hl, ha]
  refine callQ_p (footSpans_run l a (by omega) (by omega)) (by simp [encA]) ?_
  simp -implicitDefEqProofs []
  refine callQ_p (footMay_ok l n (by omega)) (by simp) ?_
  simp -implicitDefEqProofs []
  refine callQ_p (refFootMay_ok l n (by omega)) (by simp) ?_
  simp -implicitDefEqProofs []
  refine callQ_p (refRight_ok l a (by omega) (by omega)) (by simp [encA]) ?_
  cases hr : rightB l a
  · simp -implicitDefEqProofs [readsF, writesF, hr, encL]
  · have p1 := plainL_len (spansF l a false)
    have p2 := plainL_len (spansF l a true)
    have hrF : readsF l a = plainL (spansF l a false) := by rw [readsF, if_pos hr]
    have hwF : writesF l a = plainL (spansF l a true) := by rw [writesF, if_pos hr]
    have o1 := refSet_ok l a false hr
    have o2 := refSet_ok l a true hr
    have o3 := insB_sets (spansF l a true) (spansF l a false)
    rw [spans_sub] at o3
    have o4 : coversB l a (plainL (spansF l a false)) (plainL (spansF l a true)) = true := by
      rw [coversB, hr, insideL_plainl, insideL_plainl, insideL_refl, insideL_refl]; rfl
    have o5 := covers_ok l a (plainL (spansF l a false)) (plainL (spansF l a true)) (by omega) (by omega) (by omega) (by omega)
    rw [o4] at o5
    have e1 := spans_plain l a false
    have e2 := spans_plain l a true
    generalize (fun k : Nat => hasK (spansF l a false) k) = f at o1 o3 e1
    generalize (fun k : Nat => hasK (spansF l a true) k) = g at o2 o3 e2
    simp -implicitDefEqProofs []
    refine callQ_p o1 (by simp [encA]) ?_
    simp -implicitDefEqProofs []
    refine callQ_p o2 (by simp [encA]) ?_
    simp -implicitDefEqProofs [readsF, writesF, hr]
    refine callQ_p (refPlain_ok f) (by simp [wk_setP]) ?_
    rw [e1]
    simp -implicitDefEqProofs []
    refine callQ_p (refSame_ok (plainL (spansF l a false)) (plainL (spansF l a false)) (by omega) (by omega)) (by simp [wk_encL]) ?_
    simp -implicitDefEqProofs []
    refine callQ_p (refPlain_ok g) (by simp [wk_setP]) ?_
    rw [e2]
    simp -implicitDefEqProofs []
    refine callQ_p (refSame_ok (plainL (spansF l a true)) (plainL (spansF l a true)) (by omega) (by omega)) (by simp [wk_encL, hwF]) ?_
    simp -implicitDefEqProofs []
    refine callQ_p (refInside_ok g f) (by simp [wk_setP]) ?_
    rw [o3]
    simp -implicitDefEqProofs []
    refine callQ_p o5 (by simp [wk_encL, encA, hrF, hwF]) ?_
    simp -implicitDefEqProofs []
theorem footSpans_ok (l : List SpanT) (n : Int) (a : List Int) : PCall Try.prog 9 [.sl .no (l.map encSpanT), .int .i64 n, .sl .no (a.map encN)] (.bool true) := footSpans_core l n a

set_option maxHeartbeats 2000000 in
theorem footCovers_core (l : List SpanT) (a : List Int) (r w : List Sp) : PCall Try.prog 10 [.sl .no (l.map encSpanT), encA a, encL r, encL w] (.bool true) := by
  refine PCall.run hb10 ok10 (by simp) (pures_cons (elOK_SpanT.pureL l) (pures3 (pure_encA a) (pure_encL r) (pure_encL w))) (.bool _) ?_
  simp -implicitDefEqProofs []
  refine callQ_p alive10_ok (by simp) ?_
  by_cases hl : (20 : Int) < l.length
  · simp -implicitDefEqProofs [encA, hl]
  by_cases ha : (10 : Int) < a.length
  · simp -implicitDefEqProofs [encA, hl, ha]
  by_cases hr : (30 : Int) < r.length
  · simp -implicitDefEqProofs [encA, encL, hl, ha, hr]
  by_cases hw : (30 : Int) < w.length
  · simp -implicitDefEqProofs [encA, encL, hl, ha, hr, hw]
  have hl2 : l.length ≤ 20 := by omega
  have ha2 : a.length ≤ 10 := by omega
  have hr2 : r.length ≤ 30 := by omega
  have hw2 : w.length ≤ 30 := by omega
  have fin := covers_ok l a r w (by omega) (by omega) (by omega) (by omega)
  simp -implicitDefEqProofs [encA, encL, hl, ha, hr, hw]
  refine callQ_p (refRight_ok l a (by omega) (by omega)) (by simp [encA]) ?_
  cases hri : rightB l a
  · have e : coversB l a r w = false := by rw [coversB, hri]; rfl
    rw [e] at fin
    simp -implicitDefEqProofs []
    refine callQ_p fin (by simp [encA, encL, avP]) ?_
    simp -implicitDefEqProofs []
  · have o1 := refSet_ok l a false hri
    have o2 := refSet_ok l a true hri
    have o3 := refOf_ok r (by omega)
    have o4 := refOf_ok w (by omega)
    have i1 := insB_sets r (spansF l a false)
    have i2 := insB_sets w (spansF l a true)
    generalize (fun k : Nat => hasK (spansF l a false) k) = f1 at o1 i1
    generalize (fun k : Nat => hasK (spansF l a true) k) = f2 at o2 i2
    generalize (fun k : Nat => hasK r k) = f3 at o3 i1
    generalize (fun k : Nat => hasK w k) = f4 at o4 i2
    simp -implicitDefEqProofs []
    refine callQ_p o3 (by simp [encL, avP]) ?_
    simp -implicitDefEqProofs []
    refine callQ_p o1 (by simp [encA]) ?_
    simp -implicitDefEqProofs []
    refine callQ_p (refInside_ok f3 f1) (by simp [wk_setP]) ?_
    rw [i1]
    cases h1 : insideL r (spansF l a false)
    · have e : coversB l a r w = false := by rw [coversB, hri, h1]; rfl
      rw [e] at fin
      simp -implicitDefEqProofs []
      refine callQ_p fin (by simp [encA, encL, avP]) ?_
      simp -implicitDefEqProofs []
    · simp -implicitDefEqProofs []
      refine callQ_p o4 (by simp [encL, avP]) ?_
      simp -implicitDefEqProofs []
      refine callQ_p o2 (by simp [encA]) ?_
      simp -implicitDefEqProofs []
      refine callQ_p (refInside_ok f4 f2) (by simp [wk_setP]) ?_
      rw [i2]
      have e : coversB l a r w = insideL w (spansF l a true) := by rw [coversB, hri, h1]; rfl
      rw [e] at fin
      simp -implicitDefEqProofs []
      refine callQ_p fin (by simp [encA, encL, avP]) ?_
      simp -implicitDefEqProofs []
theorem footCovers_ok (l : List SpanT) (a : List Int) (r w : List Spn) : PCall Try.prog 10 [.sl .no (l.map encSpanT), .sl .no (a.map encN), .sl .no (r.map encSpn), .sl .no (w.map encSpn)] (.bool true) := by
  rw [encL_spn, encL_spn]
  exact footCovers_core _ _ _ _
end Go.Proofs
