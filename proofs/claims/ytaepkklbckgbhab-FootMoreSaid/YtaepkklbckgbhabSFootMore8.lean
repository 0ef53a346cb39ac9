/- What the functions that the statement reaches do: their contracts; and what follows of it. -/
import Derived.Test.YtaepkklbckgbhabSFootMore7
/- What a footprint reads and writes, for arguments; does it cover keys? -/
namespace Go.Proofs
open Go Go.RowKit Go.Am

def spanV (a : List Int) (s : SpanT) : Sp := (keyV s.lo a, keyV s.hi a)
theorem right_len {l : List SpanT} {a : List Int} (h : rightB l a = true) : l.length ≤ 4 ∧ a.length ≤ 3 := by
  rw [rightB, Bool.and_eq_true] at h
  have h1 := (argsOK_iff.1 h.1).1
  have h2 := h.2
  simp only [footMay, Bool.and_eq_true, Bool.not_eq_true', decide_eq_false_iff_not] at h2
  omega
theorem right_keys {l : List SpanT} {a : List Int} (h : rightB l a = true) : ∀ s ∈ l, keyOKs s.lo a = true ∧ keyOKs s.hi a = true := by
  rw [rightB, Bool.and_eq_true] at h
  intro s hs
  have h2 := h.2
  simp only [footMay, Bool.and_eq_true, List.all_eq_true] at h2
  have := h2.2 s hs
  exact ⟨by rw [keyOKs, this.1, h.1]; rfl, by rw [keyOKs, this.2, h.1]; rfl⟩

set_option maxHeartbeats 1000000 in
theorem chosen_ok (l : List SpanT) (a : List Int) (hr : rightB l a = true) (F : FuncId) (c : SpanT → Bool) (hF : ∀ x, PCall Try.prog F [.agg (encSpanT x)] (.bool (c x))) :
    PCall Try.prog 54 [.sl .no (l.map encSpanT), encA a, .fn F [] []] (encL (plainL ((l.filter c).map (spanV a)))) := by
  refine PCall.run hb54 ok54 (by simp) (pures3 (elOK_SpanT.pureL l) (pure_encA a) (.fn (fun _ h => by cases h) (fun _ h => by cases h))) (pure_encL _) ?_
  obtain ⟨hl4, ha3⟩ := right_len hr
  simp -implicitDefEqProofs []
  refine run_loop (fun n s h => ∃ (j : Nat) (t : Tok) (d : List Sp), n = l.length - j ∧ j ≤ l.length ∧ s 1 = encA a ∧ s 2 = .fn F [] [] ∧ s 14 = .sl .no (l.map encSpanT) ∧ s 15 = .int .i64 l.length ∧ s 16 = .int .i64 j ∧ d = ((l.take j).filter c).map (spanV a) ∧ s 7 = .sl t (d.map avP) ∧ TLive h t d.length) ?_ l.length ?_
  rotate_left
  · exact ⟨0, .full, [], by simp [TLive]⟩
  rintro n s h ⟨j, t, d, hn, hj, s1, s2, s14, s15, s16, hd, s7, ht⟩ ih
  have hdl : d.length ≤ 4 := by
    rw [hd, List.length_map]
    exact Nat.le_trans (List.length_filter_le _ _) (by rw [List.length_take]; omega)
  by_cases hlt : j < l.length
  · have i1 := idxOf_nat (k := .i64) hlt
    obtain ⟨k1, k2⟩ := right_keys hr _ (List.getElem_mem hlt)
    have hdn : ((l.take (j + 1)).filter c).map (spanV a) = d ++ if c l[j] = true then [spanV a l[j]] else [] := by
      rw [List.take_succ_eq_append_getElem hlt, List.filter_append, List.map_append, ← hd]
      cases hc : c l[j] <;> simp [hc]
    simp -implicitDefEqProofs [s1, s14, s15, s16, hlt, encSpanT]
    refine callQ_p (progKey_ok l[j].lo a (by omega)) (by simp [encKeyT, wk_encA]) ?_
    rw [k1]
    simp -implicitDefEqProofs [s1]
    refine callQ_p (progKey_ok l[j].hi a (by omega)) (by simp [encKeyT, wk_encA]) ?_
    rw [k2]
    simp -implicitDefEqProofs [s2]
    refine callQ_p (hF l[j]) (by simp [encSpanT]) ?_
    cases hc : c l[j]
    · rw [if_neg (by simp [hc]), List.append_nil] at hdn
      simp -implicitDefEqProofs [s16, inc_i64 hlt (by omega), -Int.natCast_add]
      exact ih (l.length - (j + 1)) _ _ (by omega) ⟨j + 1, t, d, rfl, by omega, by simp [s1], by simp [s2], by simp [s14], by simp [s15], by simp, hdn.symm, by simp [s7], by cases t <;> exact ht⟩
    · rw [if_pos hc] at hdn
      simp -implicitDefEqProofs [s7]
      refine appQ_tok (es2 := [avP (spanV a l[j])]) (by rw [List.length_map]; cases t <;> exact ht) (P_len d) (by simp [srcA, avP, spanV]) (by simp; omega) fun t' h' q1 q2 q3 q4 => ?_
      simp -implicitDefEqProofs [s16, inc_i64 hlt (by omega), -Int.natCast_add]
      exact ih (l.length - (j + 1)) _ _ (by omega) ⟨j + 1, t', d ++ [spanV a l[j]], rfl, by omega, by simp [s1], by simp [s2], by simp [s14], by simp [s15], by simp, hdn.symm, by simp, by simpa using q1⟩
  · obtain rfl : j = l.length := by omega
    rw [List.take_length] at hd
    simp -implicitDefEqProofs [s7, s15, s16]
    refine callQ_p (keysPlain_ok d (by omega)) (by simp [encL, avP]) ?_
    rw [hd]
    simp -implicitDefEqProofs [wk_encL]

theorem spans1_ok (x : SpanT) : PCall Try.prog 52 [.agg (encSpanT x)] (.bool true) := by
  refine PCall.run hb52 ok52 (by simp) (pures1 (.agg (pure_encSpanT x))) (.bool _) ?_
  simp -implicitDefEqProofs [encSpanT]
theorem spans2_ok (x : SpanT) : PCall Try.prog 53 [.agg (encSpanT x)] (.bool x.write) := by
  refine PCall.run hb53 ok53 (by simp) (pures1 (.agg (pure_encSpanT x))) (.bool _) ?_
  simp -implicitDefEqProofs [encSpanT, H.nil]

/-- The spans that are read (all), or written. -/
def spansF (l : List SpanT) (a : List Int) (w : Bool) : List Sp := (l.filter fun s => s.write || !w).map (spanV a)
def readsF (l : List SpanT) (a : List Int) : List Sp := if rightB l a = true then plainL (spansF l a false) else []
def writesF (l : List SpanT) (a : List Int) : List Sp := if rightB l a = true then plainL (spansF l a true) else []
theorem pure_three (x y : List Sp) (b : Bool) : PureV (.tup [encL x, encL y, .bool b]) := .tup (pures3 (pure_encL _) (pure_encL _) (.bool _))

theorem footSpans_run (l : List SpanT) (a : List Int) (hl : l.length ≤ 1000000) (ha : a.length ≤ 1000000) : PCall Try.prog 32 [.sl .no (l.map encSpanT), encA a] (.tup [encL (readsF l a), encL (writesF l a), .bool (rightB l a)]) := by
  refine PCall.run hb32 ok32 (by simp) (pures2 (elOK_SpanT.pureL l) (pure_encA a)) (pure_three _ _ _) ?_
  simp -implicitDefEqProofs []
  refine callQ_p (right_ok l a hl ha) (by simp [wk_encA]) ?_
  cases hr : rightB l a
  · simp -implicitDefEqProofs [readsF, writesF, hr, encL]
  · have e1 : spansF l a false = (l.filter fun _ => true).map (spanV a) := by simp [spansF]
    have e2 : spansF l a true = (l.filter fun s => s.write).map (spanV a) := by simp [spansF]
    simp -implicitDefEqProofs []
    refine callQ_p (chosen_ok l a hr 52 (fun _ => true) spans1_ok) (by simp [wk_encA]) ?_
    simp -implicitDefEqProofs []
    refine callQ_p (chosen_ok l a hr 53 (fun s => s.write) spans2_ok) (by simp [wk_encA]) ?_
    simp -implicitDefEqProofs [wk_encL, readsF, writesF, hr, e1, e2]

def coversB (l : List SpanT) (a : List Int) (r w : List Sp) : Bool := rightB l a && insideL r (spansF l a false) && insideL w (spansF l a true)
theorem insideL_plain (a b : List Sp) : insideL a (plainL b) = insideL a b := by
  rw [Bool.eq_iff_iff, insideL_iff, insideL_iff]
  exact ⟨fun h k hk ha => by have := h k hk ha; rwa [plainL_has] at this, fun h k hk ha => by rw [plainL_has]; exact h k hk ha⟩
theorem covers_ok (l : List SpanT) (a : List Int) (r w : List Sp) (hl : l.length ≤ 1000000) (ha : a.length ≤ 1000000) (hr : r.length ≤ 1000000) (hw : w.length ≤ 1000000) :
    PCall Try.prog 9 [.sl .no (l.map encSpanT), encA a, encL r, encL w] (.bool (coversB l a r w)) := by
  refine PCall.run hb9 ok9 (by simp) (pures_cons (elOK_SpanT.pureL l) (pures3 (pure_encA a) (pure_encL r) (pure_encL w))) (.bool _) ?_
  simp -implicitDefEqProofs []
  refine callQ_p (footSpans_run l a hl ha) (by simp [wk_encA]) ?_
  cases hr1 : rightB l a
  · simp -implicitDefEqProofs [coversB, hr1]
  · have p1 := plainL_len (spansF l a false)
    have p2 := plainL_len (spansF l a true)
    simp -implicitDefEqProofs [hr1, readsF, writesF]
    refine callQ_p (keysInside_ok r (plainL (spansF l a false)) hr (by omega)) (by simp [wk_encL]) ?_
    rw [insideL_plain]
    cases h1 : insideL r (spansF l a false)
    · simp -implicitDefEqProofs [coversB, hr1, h1]
    · simp -implicitDefEqProofs []
      refine callQ_p (keysInside_ok w (plainL (spansF l a true)) hw (by omega)) (by simp [wk_encL]) ?_
      rw [insideL_plain]
      simp -implicitDefEqProofs [coversB, hr1, h1]
end Go.Proofs

/- What a footprint reads and writes: the document's answer. -/
namespace Go.Proofs
open Go Go.RowKit Go.Am

set_option maxHeartbeats 1000000 in
theorem refSet_ok (l : List SpanT) (a : List Int) (w : Bool) (hr : rightB l a = true) : PCall Try.prog 44 [.sl .no (l.map encSpanT), encA a, .bool w] (setP fun k => hasK (spansF l a w) k) := by
  refine PCall.run hb44 ok44 (by simp) (pures3 (elOK_SpanT.pureL l) (pure_encA a) (.bool _)) (pure_setP _) ?_
  obtain ⟨hl4, ha3⟩ := right_len hr
  simp -implicitDefEqProofs []
  refine run_loop (fun n s h => ∃ (j : Nat) (t : Tok) (d : List Sp), n = l.length - j ∧ j ≤ l.length ∧ s 0 = .sl .no (l.map encSpanT) ∧ s 1 = encA a ∧ s 2 = .bool w ∧ s 8 = .int .i64 j ∧ d = spansF (l.take j) a w ∧ s 7 = .sl t (d.map avP) ∧ TLive h t d.length) ?_ l.length ?_
  rotate_left
  · exact ⟨0, .full, [], by simp [TLive, spansF]⟩
  rintro n s h ⟨j, t, d, hn, hj, s0, s1, s2, s8, hd, s7, ht⟩ ih
  have hdl : d.length ≤ 4 := by
    rw [hd, spansF, List.length_map]
    exact Nat.le_trans (List.length_filter_le _ _) (by rw [List.length_take]; omega)
  by_cases hlt : j < l.length
  · have i1 := idxOf_nat (k := .i64) hlt
    obtain ⟨k1, k2⟩ := right_keys hr _ (List.getElem_mem hlt)
    have hdn : spansF (l.take (j + 1)) a w = d ++ if (l[j].write || !w) = true then [spanV a l[j]] else [] := by
      rw [List.take_succ_eq_append_getElem hlt, spansF, List.filter_append, List.map_append, hd, spansF]
      cases hc : (l[j].write || !w) <;> simp [hc]
    cases hw : l[j].write <;> cases w <;> simp only [hw, Bool.not_true, Bool.not_false, Bool.or_true, Bool.or_false, if_true, if_false, Bool.false_eq_true, List.append_nil] at hdn
    · simp -implicitDefEqProofs [s0, s2, s8, hlt, encSpanT, hw]
      refine run_dreg c44_d6 ?_
      simp -implicitDefEqProofs [s0, s1, s7, s8, hlt, encSpanT]
      refine lcallQ_p (refKey_ok l[j].lo a k1) (by simp [encKeyT, wk_encA]) ?_
      simp -implicitDefEqProofs [s0, s1, s8, hlt, encSpanT]
      refine lcallQ_p (refKey_ok l[j].hi a k2) (by simp [encKeyT, wk_encA]) ?_
      simp -implicitDefEqProofs []
      refine appQ_tok (es2 := [avP (spanV a l[j])]) (by rw [List.length_map]; cases t <;> exact ht) (P_len d) (by simp [srcA, avP, spanV]) (by simp; omega) fun t' h' q1 q2 q3 q4 => ?_
      simp -implicitDefEqProofs [s8, inc_i64 hlt (by omega), -Int.natCast_add]
      exact ih (l.length - (j + 1)) _ _ (by omega) ⟨j + 1, t', d ++ [spanV a l[j]], rfl, by omega, by simp [s0], by simp [s1], by simp [s2], by simp, hdn.symm, by simp, by simpa using q1⟩
    · simp -implicitDefEqProofs [s0, s2, s8, hlt, encSpanT, hw, inc_i64 hlt (by omega), -Int.natCast_add]
      exact ih (l.length - (j + 1)) _ _ (by omega) ⟨j + 1, t, d, rfl, by omega, by simp [s0], by simp [s1], by simp [s2], by simp, hdn.symm, by simp [s7], ht⟩
    · simp -implicitDefEqProofs [s0, s8, hlt, encSpanT, hw]
      refine run_dreg c44_d6 ?_
      simp -implicitDefEqProofs [s0, s1, s7, s8, hlt, encSpanT]
      refine lcallQ_p (refKey_ok l[j].lo a k1) (by simp [encKeyT, wk_encA]) ?_
      simp -implicitDefEqProofs [s0, s1, s8, hlt, encSpanT]
      refine lcallQ_p (refKey_ok l[j].hi a k2) (by simp [encKeyT, wk_encA]) ?_
      simp -implicitDefEqProofs []
      refine appQ_tok (es2 := [avP (spanV a l[j])]) (by rw [List.length_map]; cases t <;> exact ht) (P_len d) (by simp [srcA, avP, spanV]) (by simp; omega) fun t' h' q1 q2 q3 q4 => ?_
      simp -implicitDefEqProofs [s8, inc_i64 hlt (by omega), -Int.natCast_add]
      exact ih (l.length - (j + 1)) _ _ (by omega) ⟨j + 1, t', d ++ [spanV a l[j]], rfl, by omega, by simp [s0], by simp [s1], by simp [s2], by simp, hdn.symm, by simp, by simpa using q1⟩
    · simp -implicitDefEqProofs [s0, s8, hlt, encSpanT, hw]
      refine run_dreg c44_d6 ?_
      simp -implicitDefEqProofs [s0, s1, s7, s8, hlt, encSpanT]
      refine lcallQ_p (refKey_ok l[j].lo a k1) (by simp [encKeyT, wk_encA]) ?_
      simp -implicitDefEqProofs [s0, s1, s8, hlt, encSpanT]
      refine lcallQ_p (refKey_ok l[j].hi a k2) (by simp [encKeyT, wk_encA]) ?_
      simp -implicitDefEqProofs []
      refine appQ_tok (es2 := [avP (spanV a l[j])]) (by rw [List.length_map]; cases t <;> exact ht) (P_len d) (by simp [srcA, avP, spanV]) (by simp; omega) fun t' h' q1 q2 q3 q4 => ?_
      simp -implicitDefEqProofs [s8, inc_i64 hlt (by omega), -Int.natCast_add]
      exact ih (l.length - (j + 1)) _ _ (by omega) ⟨j + 1, t', d ++ [spanV a l[j]], rfl, by omega, by simp [s0], by simp [s1], by simp [s2], by simp, hdn.symm, by simp, by simpa using q1⟩
  · obtain rfl : j = l.length := by omega
    rw [List.take_length] at hd
    simp -implicitDefEqProofs [s0, s7, s8]
    refine callQ_p (refOf_ok d (by omega)) (by simp [encL, avP]) ?_
    rw [hd]
    simp -implicitDefEqProofs [wk_setP]

def insB (f g : Nat → Bool) : Bool := (List.range 1000).all fun k => !(f k && !g k)
theorem insB_iff (f g : Nat → Bool) : insB f g = true ↔ ∀ k, k < 1000 → f k = true → g k = true := by
  simp only [insB, List.all_eq_true, List.mem_range, Bool.not_eq_true', Bool.and_eq_false_iff, Bool.not_eq_false']
  constructor
  · intro h k hk hf
    rcases h k hk with h | h
    · rw [hf] at h; cases h
    · exact h
  · intro h k hk
    cases hf : f k
    · exact .inl rfl
    · exact .inr (h k hk hf)
theorem insB_sets (a b : List Sp) : insB (fun k => hasK a k) (fun k => hasK b k) = insideL a b := by
  rw [Bool.eq_iff_iff, insB_iff, insideL_iff]
theorem alive10_ok : PCall Try.prog 7 [] (.bool true) := by
  refine PCall.run hb7 ok7 (by simp) (fun v hv => by cases hv) (.bool _) ?_
  have hp : plainL [(15, 17)] = [(15, 17)] := plainL_plain ⟨fun s hs => by rw [List.mem_singleton.1 hs]; decide, List.pairwise_singleton _ _⟩
  have e : rightB [⟨⟨0, 5⟩, ⟨0, 7⟩, true⟩] [10] = true := by decide
  have f : ∀ w, spansF [⟨⟨0, 5⟩, ⟨0, 7⟩, true⟩] [10] w = [(15, 17)] := fun w => by cases w <;> decide
  have r1 : readsF [⟨⟨0, 5⟩, ⟨0, 7⟩, true⟩] [10] = [(15, 17)] := by rw [readsF, if_pos e, f, hp]
  have r2 : writesF [⟨⟨0, 5⟩, ⟨0, 7⟩, true⟩] [10] = [(15, 17)] := by rw [writesF, if_pos e, f, hp]
  simp -implicitDefEqProofs []
  refine callQ_p (footSpans_run [⟨⟨0, 5⟩, ⟨0, 7⟩, true⟩] [10] (by simp) (by simp)) (by simp [encSpanT, encA, encN]) ?_
  rw [r1, r2, e]
  simp -implicitDefEqProofs []
  refine callQ_p (refSame_ok [(15, 17)] [(15, 17)] (by simp) (by simp)) (by simp [encL, avP]) ?_
  simp -implicitDefEqProofs []
  refine callQ_p (refSame_ok [(15, 17)] [(15, 17)] (by simp) (by simp)) (by simp [encL, avP]) ?_
  simp -implicitDefEqProofs []
end Go.Proofs

/- The statement FootMore: its function hands back true. -/
namespace Go.Proofs
open Go Go.RowKit Go.Am

theorem insideL_more {a b c : List Sp} (h : insideL a b = true) : insideL a (b ++ c) = true := by
  rw [insideL_iff] at h ⊢
  intro k hk ha
  rw [hasK_app, h k hk ha]; rfl
theorem spansF_app (l m : List SpanT) (a : List Int) (w : Bool) : spansF (l ++ m) a w = spansF l a w ++ spansF m a w := by
  rw [spansF, spansF, spansF, List.filter_append, List.map_append]
theorem covers_more {l : List SpanT} {m : SpanT} {a : List Int} {r w : List Sp} (h1 : rightB (l ++ [m]) a = true) (h2 : coversB l a r w = true) : coversB (l ++ [m]) a r w = true := by
  rw [coversB, Bool.and_eq_true, Bool.and_eq_true] at h2
  rw [coversB, h1, spansF_app, spansF_app, insideL_more h2.1.2, insideL_more h2.2]; rfl
theorem spanT_len (l : List SpanT) : ∀ e ∈ l.map encSpanT, e.length = 5 := fun e he => by
  obtain ⟨x, _, rfl⟩ := List.mem_map.1 he
  rfl
theorem src_spanT (h : H) (l : List SpanT) (t : Tok) : srcA h 5 (.sl t (l.map encSpanT)) = some (l.map encSpanT) := by
  simp only [srcA]
  rw [if_pos (spanT_len l)]

set_option maxHeartbeats 2000000 in
theorem footMore_core (l : List SpanT) (m : SpanT) (a : List Int) (r w : List Sp) : PCall Try.prog 3 [.sl .no (l.map encSpanT), .agg (encSpanT m), encA a, encL r, encL w] (.bool true) := by
  refine PCall.run hb3 ok3 (by simp) (pures_cons (elOK_SpanT.pureL l) (pures_cons (.agg (pure_encSpanT m)) (pures3 (pure_encA a) (pure_encL r) (pure_encL w)))) (.bool _) ?_
  simp -implicitDefEqProofs [encSpanT, H.nil]
  refine callQ_p alive10_ok (by simp) ?_
  by_cases hl : (20 : Int) < l.length
  · simp -implicitDefEqProofs [encA, hl]
  by_cases ha : (10 : Int) < a.length
  · simp -implicitDefEqProofs [encA, hl, ha]
  by_cases hr : (30 : Int) < r.length
  · simp -implicitDefEqProofs [encA, encL, hl, ha, hr]
  by_cases hw : (30 : Int) < w.length
  · simp -implicitDefEqProofs [encA, encL, hl, ha, hr, hw]
  have hl2 : l.length ≤ 20 := by omega
  have ha2 : a.length ≤ 10 := by omega
  have hr2 : r.length ≤ 30 := by omega
  have hw2 : w.length ≤ 30 := by omega
  simp -implicitDefEqProofs [encA, encL, hl, ha, hr, hw]
  refine run_dreg c3_d6 ?_
  simp -implicitDefEqProofs []
  refine appQ_tok (es2 := l.map encSpanT) trivial (by simp) (src_spanT _ _ _) (by simp; omega) fun t1 h1 q1 q2 q3 q4 => ?_
  have e1 := q3.bx 0 (by simp) (fun e => e)
  simp only [List.nil_append, List.length_map] at q1
  simp at e1 q4
  simp -implicitDefEqProofs [e1, q4]
  refine appQ_tok (es2 := [encSpanT m]) (by rw [List.length_map]; exact q1) (spanT_len l) (by simp [srcA, encSpanT]) (by simp; omega) fun t2 h2 j1 j2 j3 j4 => ?_
  rw [show l.map encSpanT ++ [encSpanT m] = (l ++ [m]).map encSpanT by simp]
  have fin1 := covers_ok l a r w (by omega) (by omega) (by omega) (by omega)
  have fin2 := covers_ok (l ++ [m]) a r w (by simp; omega) (by omega) (by omega) (by omega)
  generalize hlm : l ++ [m] = lm at fin2 ⊢
  have hlm2 : lm.length ≤ 21 := by rw [← hlm]; simp; omega
  have e2 := (j3.bx 0 (by omega) (fun e => e)).trans e1
  simp -implicitDefEqProofs []
  refine ⟨⟨by simp [e1, q4], by simp [e2, j4, q4]⟩, ?_⟩
  refine callQ_p (refRight_ok lm a (by omega) (by omega)) (by simp [encA]) ?_
  cases h1 : rightB lm a
  · simp -implicitDefEqProofs []
  · simp -implicitDefEqProofs []
    refine callQ_p fin1 (by simp [encA, encL, avP]) ?_
    cases h2 : coversB l a r w
    · simp -implicitDefEqProofs []
    · have e : coversB lm a r w = true := by rw [← hlm] at h1 ⊢; exact covers_more h1 h2
      rw [e] at fin2
      simp -implicitDefEqProofs []
      refine callQ_p fin2 (by simp [encA, encL, avP]) ?_
      simp -implicitDefEqProofs []
theorem footMore_ok (l : List SpanT) (m : SpanT) (a : List Int) (r w : List Spn) : PCall Try.prog 3 [.sl .no (l.map encSpanT), .agg (encSpanT m), .sl .no (a.map encN), .sl .no (r.map encSpn), .sl .no (w.map encSpn)] (.bool true) := by
  rw [encL_spn, encL_spn]
  exact footMore_core _ _ _ _ _
end Go.Proofs
