/- What the functions that the statement reaches do: their contracts; and what follows of it. -/
import Derived.Test.YtaepkklbckgbhabSFootWords7
import Derived.Test.YtaepkklbckgbhabSFootWords4
import Derived.Test.YtaepkklbckgbhabK4
/- What a footprint reads and writes, for arguments; does it cover keys? -/
namespace Go.Proofs
open Go Go.RowKit Go.Am

def spanV (a : List Int) (s : SpanT) : Sp := (keyV s.lo a, keyV s.hi a)
theorem right_len {l : List SpanT} {a : List Int} (h : rightB l a = true) : l.length ≤ 4 ∧ a.length ≤ 3 := by
  rw [rightB, Bool.and_eq_true] at h
  have h1 := (argsOK_iff.1 h.1).1
  have h2 := h.2
  simp only [footMay, Bool.and_eq_true, Bool.not_eq_true', decide_eq_false_iff_not] at h2
  omega
theorem right_keys {l : List SpanT} {a : List Int} (h : rightB l a = true) : ∀ s ∈ l, keyOKs s.lo a = true ∧ keyOKs s.hi a = true := by
  rw [rightB, Bool.and_eq_true] at h
  intro s hs
  have h2 := h.2
  simp only [footMay, Bool.and_eq_true, List.all_eq_true] at h2
  have := h2.2 s hs
  exact ⟨by rw [keyOKs, this.1, h.1]; rfl, by rw [keyOKs, this.2, h.1]; rfl⟩

set_option maxHeartbeats 1000000 in
theorem chosen_ok (l : List SpanT) (a : List Int) (hr : rightB l a = true) (F : FuncId) (c : SpanT → Bool) (hF : ∀ x, PCall Try.prog F [.agg (encSpanT x)] (.bool (c x))) :
    PCall Try.prog 54 [.sl .no (l.map encSpanT), encA a, .fn F [] []] (encL (plainL ((l.filter c).map (spanV a)))) := by
  refine PCall.run hb54 ok54 (by simp) (pures3 (elOK_SpanT.pureL l) (pure_encA a) (.fn (fun _ h => by cases h) (fun _ h => by cases h))) (pure_encL _) ?_
  obtain ⟨hl4, ha3⟩ := right_len hr
  simp -implicitDefEqProofs []
  refine run_loop (fun n s h => ∃ (j : Nat) (t : Tok) (d : List Sp), n = l.length - j ∧ j ≤ l.length ∧ s 1 = encA a ∧ s 2 = .fn F [] [] ∧ s 14 = .sl .no (l.map encSpanT) ∧ s 15 = .int .i64 l.length ∧ s 16 = .int .i64 j ∧ d = ((l.take j).filter c).map (spanV a) ∧ s 7 = .sl t (d.map avP) ∧ TLive h t d.length) ?_ l.length ?_
  rotate_left
  · exact ⟨0, .full, [], by simp [TLive]⟩
  rintro n s h ⟨j, t, d, hn, hj, s1, s2, s14, s15, s16, hd, s7, ht⟩ ih
  have hdl : d.length ≤ 4 := by
    rw [hd, List.length_map]
    exact Nat.le_trans (List.length_filter_le _ _) (by rw [List.length_take]; omega)
  by_cases hlt : j < l.length
  · have i1 := idxOf_nat (k := .i64) hlt
    obtain ⟨k1, k2⟩ := right_keys hr _ (List.getElem_mem hlt)
    have hdn : ((l.take (j + 1)).filter c).map (spanV a) = d ++ if c l[j] = true then [spanV a l[j]] else [] := by
      rw [List.take_succ_eq_append_getElem hlt, List.filter_append, List.map_append, ← hd]
      cases hc : c l[j] <;> simp [hc]
    simp -implicitDefEqProofs [s1, s14, s15, s16, hlt, encSpanT]
    refine callQ_p (progKey_ok l[j].lo a (by omega)) (by simp [encKeyT, wk_encA]) ?_
    rw [k1]
    simp -implicitDefEqProofs [s1]
    refine callQ_p (progKey_ok l[j].hi a (by omega)) (by simp [encKeyT, wk_encA]) ?_
    rw [k2]
    simp -implicitDefEqProofs [s2]
    refine callQ_p (hF l[j]) (by simp [encSpanT]) ?_
    cases hc : c l[j]
    · rw [if_neg (by simp [hc]), List.append_nil] at hdn
      simp -implicitDefEqProofs [s16, inc_i64 hlt (by omega), -Int.natCast_add]
      exact ih (l.length - (j + 1)) _ _ (by omega) ⟨j + 1, t, d, rfl, by omega, by simp [s1], by simp [s2], by simp [s14], by simp [s15], by simp, hdn.symm, by simp [s7], by cases t <;> exact ht⟩
    · rw [if_pos hc] at hdn
      simp -implicitDefEqProofs [s7]
      refine appQ_tok (es2 := [avP (spanV a l[j])]) (by rw [List.length_map]; cases t <;> exact ht) (P_len d) (by simp [srcA, avP, spanV]) (by simp; omega) fun t' h' q1 q2 q3 q4 => ?_
      simp -implicitDefEqProofs [s16, inc_i64 hlt (by omega), -Int.natCast_add]
      exact ih (l.length - (j + 1)) _ _ (by omega) ⟨j + 1, t', d ++ [spanV a l[j]], rfl, by omega, by simp [s1], by simp [s2], by simp [s14], by simp [s15], by simp, hdn.symm, by simp, by simpa using q1⟩
  · obtain rfl : j = l.length := by omega
    rw [List.take_length] at hd
    simp -implicitDefEqProofs [s7, s15, s16]
    refine callQ_p (keysPlain_ok d (by omega)) (by simp [encL, avP]) ?_
    rw [hd]
    simp -implicitDefEqProofs [wk_encL]

theorem spans1_ok (x : SpanT) : PCall Try.prog 52 [.agg (encSpanT x)] (.bool true) := by
  refine PCall.run hb52 ok52 (by simp) (pures1 (.agg (pure_encSpanT x))) (.bool _) ?_
  simp -implicitDefEqProofs [encSpanT]
theorem spans2_ok (x : SpanT) : PCall Try.prog 53 [.agg (encSpanT x)] (.bool x.write) := by
  refine PCall.run hb53 ok53 (by simp) (pures1 (.agg (pure_encSpanT x))) (.bool _) ?_
  simp -implicitDefEqProofs [encSpanT, H.nil]

/-- The spans that are read (all), or written. -/
def spansF (l : List SpanT) (a : List Int) (w : Bool) : List Sp := (l.filter fun s => s.write || !w).map (spanV a)
def readsF (l : List SpanT) (a : List Int) : List Sp := if rightB l a = true then plainL (spansF l a false) else []
def writesF (l : List SpanT) (a : List Int) : List Sp := if rightB l a = true then plainL (spansF l a true) else []
theorem pure_three (x y : List Sp) (b : Bool) : PureV (.tup [encL x, encL y, .bool b]) := .tup (pures3 (pure_encL _) (pure_encL _) (.bool _))

theorem footSpans_run (l : List SpanT) (a : List Int) (hl : l.length ≤ 1000000) (ha : a.length ≤ 1000000) : PCall Try.prog 32 [.sl .no (l.map encSpanT), encA a] (.tup [encL (readsF l a), encL (writesF l a), .bool (rightB l a)]) := by
  refine PCall.run hb32 ok32 (by simp) (pures2 (elOK_SpanT.pureL l) (pure_encA a)) (pure_three _ _ _) ?_
  simp -implicitDefEqProofs []
  refine callQ_p (right_ok l a hl ha) (by simp [wk_encA]) ?_
  cases hr : rightB l a
  · simp -implicitDefEqProofs [readsF, writesF, hr, encL]
  · have e1 : spansF l a false = (l.filter fun _ => true).map (spanV a) := by simp [spansF]
    have e2 : spansF l a true = (l.filter fun s => s.write).map (spanV a) := by simp [spansF]
    simp -implicitDefEqProofs []
    refine callQ_p (chosen_ok l a hr 52 (fun _ => true) spans1_ok) (by simp [wk_encA]) ?_
    simp -implicitDefEqProofs []
    refine callQ_p (chosen_ok l a hr 53 (fun s => s.write) spans2_ok) (by simp [wk_encA]) ?_
    simp -implicitDefEqProofs [wk_encL, readsF, writesF, hr, e1, e2]

def coversB (l : List SpanT) (a : List Int) (r w : List Sp) : Bool := rightB l a && insideL r (spansF l a false) && insideL w (spansF l a true)
theorem insideL_plain (a b : List Sp) : insideL a (plainL b) = insideL a b := by
  rw [Bool.eq_iff_iff, insideL_iff, insideL_iff]
  exact ⟨fun h k hk ha => by have := h k hk ha; rwa [plainL_has] at this, fun h k hk ha => by rw [plainL_has]; exact h k hk ha⟩
theorem covers_ok (l : List SpanT) (a : List Int) (r w : List Sp) (hl : l.length ≤ 1000000) (ha : a.length ≤ 1000000) (hr : r.length ≤ 1000000) (hw : w.length ≤ 1000000) :
    PCall Try.prog 9 [.sl .no (l.map encSpanT), encA a, encL r, encL w] (.bool (coversB l a r w)) := by
  refine PCall.run hb9 ok9 (by simp) (pures_cons (elOK_SpanT.pureL l) (pures3 (pure_encA a) (pure_encL r) (pure_encL w))) (.bool _) ?_
  simp -implicitDefEqProofs []
  refine callQ_p (footSpans_run l a hl ha) (by simp [wk_encA]) ?_
  cases hr1 : rightB l a
  · simp -implicitDefEqProofs [coversB, hr1]
  · have p1 := plainL_len (spansF l a false)
    have p2 := plainL_len (spansF l a true)
    simp -implicitDefEqProofs [hr1, readsF, writesF]
    refine callQ_p (keysInside_ok r (plainL (spansF l a false)) hr (by omega)) (by simp [wk_encL]) ?_
    rw [insideL_plain]
    cases h1 : insideL r (spansF l a false)
    · simp -implicitDefEqProofs [coversB, hr1, h1]
    · simp -implicitDefEqProofs []
      refine callQ_p (keysInside_ok w (plainL (spansF l a true)) hw (by omega)) (by simp [wk_encL]) ?_
      rw [insideL_plain]
      simp -implicitDefEqProofs [coversB, hr1, h1]
end Go.Proofs

/- What a footprint reads and writes: the document's answer. -/
namespace Go.Proofs
open Go Go.RowKit Go.Am

set_option maxHeartbeats 1000000 in
theorem refSet_ok (l : List SpanT) (a : List Int) (w : Bool) (hr : rightB l a = true) : PCall Try.prog 44 [.sl .no (l.map encSpanT), encA a, .bool w] (setP fun k => hasK (spansF l a w) k) := by
  refine PCall.run hb44 ok44 (by simp) (pures3 (elOK_SpanT.pureL l) (pure_encA a) (.bool _)) (pure_setP _) ?_
  obtain ⟨hl4, ha3⟩ := right_len hr
  simp -implicitDefEqProofs []
  refine run_loop (fun n s h => ∃ (j : Nat) (t : Tok) (d : List Sp), n = l.length - j ∧ j ≤ l.length ∧ s 0 = .sl .no (l.map encSpanT) ∧ s 1 = encA a ∧ s 2 = .bool w ∧ s 8 = .int .i64 j ∧ d = spansF (l.take j) a w ∧ s 7 = .sl t (d.map avP) ∧ TLive h t d.length) ?_ l.length ?_
  rotate_left
  · exact ⟨0, .full, [], by simp [TLive, spansF]⟩
  rintro n s h ⟨j, t, d, hn, hj, s0, s1, s2, s8, hd, s7, ht⟩ ih
  have hdl : d.length ≤ 4 := by
    rw [hd, spansF, List.length_map]
    exact Nat.le_trans (List.length_filter_le _ _) (by rw [List.length_take]; omega)
  by_cases hlt : j < l.length
  · have i1 := idxOf_nat (k := .i64) hlt
    obtain ⟨k1, k2⟩ := right_keys hr _ (List.getElem_mem hlt)
    have hdn : spansF (l.take (j + 1)) a w = d ++ if (l[j].write || !w) = true then [spanV a l[j]] else [] := by
      rw [List.take_succ_eq_append_getElem hlt, spansF, List.filter_append, List.map_append, hd, spansF]
      cases hc : (l[j].write || !w) <;> simp [hc]
    cases hw : l[j].write <;> cases w <;> simp only [hw, Bool.not_true, Bool.not_false, Bool.or_true, Bool.or_false, if_true, if_false, Bool.false_eq_true, List.append_nil] at hdn
    · simp -implicitDefEqProofs [s0, s2, s8, hlt, encSpanT, hw]
      refine run_dreg c44_d6 ?_
      simp -implicitDefEqProofs [s0, s1, s7, s8, hlt, encSpanT]
      refine lcallQ_p (refKey_ok l[j].lo a k1) (by simp [encKeyT, wk_encA]) ?_
      simp -implicitDefEqProofs [s0, s1, s8, hlt, encSpanT]
      refine lcallQ_p (refKey_ok l[j].hi a k2) (by simp [encKeyT, wk_encA]) ?_
      simp -implicitDefEqProofs []
      refine appQ_tok (es2 := [avP (spanV a l[j])]) (by rw [List.length_map]; cases t <;> exact ht) (P_len d) (by simp [srcA, avP, spanV]) (by simp; omega) fun t' h' q1 q2 q3 q4 => ?_
      simp -implicitDefEqProofs [s8, inc_i64 hlt (by omega), -Int.natCast_add]
      exact ih (l.length - (j + 1)) _ _ (by omega) ⟨j + 1, t', d ++ [spanV a l[j]], rfl, by omega, by simp [s0], by simp [s1], by simp [s2], by simp, hdn.symm, by simp, by simpa using q1⟩
    · simp -implicitDefEqProofs [s0, s2, s8, hlt, encSpanT, hw, inc_i64 hlt (by omega), -Int.natCast_add]
      exact ih (l.length - (j + 1)) _ _ (by omega) ⟨j + 1, t, d, rfl, by omega, by simp [s0], by simp [s1], by simp [s2], by simp, hdn.symm, by simp [s7], ht⟩
    · simp -implicitDefEqProofs [s0, s8, hlt, encSpanT, hw]
      refine run_dreg c44_d6 ?_
      simp -implicitDefEqProofs [s0, s1, s7, s8, hlt, encSpanT]
      refine lcallQ_p (refKey_ok l[j].lo a k1) (by simp [encKeyT, wk_encA]) ?_
      simp -implicitDefEqProofs [s0, s1, s8, hlt, encSpanT]
      refine lcallQ_p (refKey_ok l[j].hi a k2) (by simp [encKeyT, wk_encA]) ?_
      simp -implicitDefEqProofs []
      refine appQ_tok (es2 := [avP (spanV a l[j])]) (by rw [List.length_map]; cases t <;> exact ht) (P_len d) (by simp [srcA, avP, spanV]) (by simp; omega) fun t' h' q1 q2 q3 q4 => ?_
      simp -implicitDefEqProofs [s8, inc_i64 hlt (by omega), -Int.natCast_add]
      exact ih (l.length - (j + 1)) _ _ (by omega) ⟨j + 1, t', d ++ [spanV a l[j]], rfl, by omega, by simp [s0], by simp [s1], by simp [s2], by simp, hdn.symm, by simp, by simpa using q1⟩
    · simp -implicitDefEqProofs [s0, s8, hlt, encSpanT, hw]
      refine run_dreg c44_d6 ?_
      simp -implicitDefEqProofs [s0, s1, s7, s8, hlt, encSpanT]
      refine lcallQ_p (refKey_ok l[j].lo a k1) (by simp [encKeyT, wk_encA]) ?_
      simp -implicitDefEqProofs [s0, s1, s8, hlt, encSpanT]
      refine lcallQ_p (refKey_ok l[j].hi a k2) (by simp [encKeyT, wk_encA]) ?_
      simp -implicitDefEqProofs []
      refine appQ_tok (es2 := [avP (spanV a l[j])]) (by rw [List.length_map]; cases t <;> exact ht) (P_len d) (by simp [srcA, avP, spanV]) (by simp; omega) fun t' h' q1 q2 q3 q4 => ?_
      simp -implicitDefEqProofs [s8, inc_i64 hlt (by omega), -Int.natCast_add]
      exact ih (l.length - (j + 1)) _ _ (by omega) ⟨j + 1, t', d ++ [spanV a l[j]], rfl, by omega, by simp [s0], by simp [s1], by simp [s2], by simp, hdn.symm, by simp, by simpa using q1⟩
  · obtain rfl : j = l.length := by omega
    rw [List.take_length] at hd
    simp -implicitDefEqProofs [s0, s7, s8]
    refine callQ_p (refOf_ok d (by omega)) (by simp [encL, avP]) ?_
    rw [hd]
    simp -implicitDefEqProofs [wk_setP]

def insB (f g : Nat → Bool) : Bool := (List.range 1000).all fun k => !(f k && !g k)
theorem insB_iff (f g : Nat → Bool) : insB f g = true ↔ ∀ k, k < 1000 → f k = true → g k = true := by
  simp only [insB, List.all_eq_true, List.mem_range, Bool.not_eq_true', Bool.and_eq_false_iff, Bool.not_eq_false']
  constructor
  · intro h k hk hf
    rcases h k hk with h | h
    · rw [hf] at h; cases h
    · exact h
  · intro h k hk
    cases hf : f k
    · exact .inl rfl
    · exact .inr (h k hk hf)
theorem insB_sets (a b : List Sp) : insB (fun k => hasK a k) (fun k => hasK b k) = insideL a b := by
  rw [Bool.eq_iff_iff, insB_iff, insideL_iff]
theorem alive10_ok : PCall Try.prog 7 [] (.bool true) := by
  refine PCall.run hb7 ok7 (by simp) (fun v hv => by cases hv) (.bool _) ?_
  have hp : plainL [(15, 17)] = [(15, 17)] := plainL_plain ⟨fun s hs => by rw [List.mem_singleton.1 hs]; decide, List.pairwise_singleton _ _⟩
  have e : rightB [⟨⟨0, 5⟩, ⟨0, 7⟩, true⟩] [10] = true := by decide
  have f : ∀ w, spansF [⟨⟨0, 5⟩, ⟨0, 7⟩, true⟩] [10] w = [(15, 17)] := fun w => by cases w <;> decide
  have r1 : readsF [⟨⟨0, 5⟩, ⟨0, 7⟩, true⟩] [10] = [(15, 17)] := by rw [readsF, if_pos e, f, hp]
  have r2 : writesF [⟨⟨0, 5⟩, ⟨0, 7⟩, true⟩] [10] = [(15, 17)] := by rw [writesF, if_pos e, f, hp]
  simp -implicitDefEqProofs []
  refine callQ_p (footSpans_run [⟨⟨0, 5⟩, ⟨0, 7⟩, true⟩] [10] (by simp) (by simp)) (by simp [encSpanT, encA, encN]) ?_
  rw [r1, r2, e]
  simp -implicitDefEqProofs []
  refine callQ_p (refSame_ok [(15, 17)] [(15, 17)] (by simp) (by simp)) (by simp [encL, avP]) ?_
  simp -implicitDefEqProofs []
  refine callQ_p (refSame_ok [(15, 17)] [(15, 17)] (by simp) (by simp)) (by simp [encL, avP]) ?_
  simp -implicitDefEqProofs []
end Go.Proofs

/- Reading of codes, as lists: what is read of words; a text's bytes in words. -/
namespace Go.Proofs
open Go Go.RowKit Go.Am

def numF (f : Nat → Nat) (a : Nat) : Nat → Nat
  | 0 => 0
  | k + 1 => f a + 256 * numF f (a + 1) k

theorem num_numF (s : ByteArray) : ∀ (k a : Nat), num s a k = numF (byteAt s) a k
  | 0, _ => rfl
  | k + 1, a => by simp only [num, numF, num_numF s k (a + 1)]

theorem numF_congr {f g : Nat → Nat} : ∀ {k a : Nat}, (∀ j, a ≤ j → j < a + k → f j = g j) → numF f a k = numF g a k
  | 0, _, _ => rfl
  | k + 1, a, h => by
    simp only [numF]
    rw [h a (by omega) (by omega), numF_congr (k := k) (a := a + 1) fun j h1 h2 => h j (by omega) (by omega)]

theorem numF_inj {f g : Nat → Nat} (hf : ∀ j, f j < 256) (hg : ∀ j, g j < 256) : ∀ {k a : Nat}, numF f a k = numF g a k → ∀ j, a ≤ j → j < a + k → f j = g j
  | 0, a, _, j, h1, h2 => by omega
  | k + 1, a, h, j, h1, h2 => by
    simp only [numF] at h
    have hfa := hf a
    have hga := hg a
    by_cases hj : j = a
    · subst hj; omega
    · exact numF_inj hf hg (k := k) (a := a + 1) (by omega) j (by omega) (by omega)

theorem numF_digit {f : Nat → Nat} (hf : ∀ j, f j < 256) : ∀ {i k a : Nat}, i < k → numF f a k / 256 ^ i % 256 = f (a + i)
  | _, 0, _, h => by omega
  | 0, k + 1, a, _ => by
    have := hf a
    simp only [numF, Nat.pow_zero, Nat.div_one, Nat.add_zero]
    omega
  | i + 1, k + 1, a, h => by
    have h1 := hf a
    have e : numF f a (k + 1) / 256 ^ (i + 1) = numF f (a + 1) k / 256 ^ i := by
      rw [Nat.pow_succ, Nat.mul_comm, ← Nat.div_div_eq_div_mul]
      congr 1
      simp only [numF]
      omega
    rw [e, numF_digit hf (i := i) (k := k) (a := a + 1) (by omega)]
    congr 1
    omega

theorem numF_whole {f : Nat → Nat} : ∀ {k w a : Nat}, w < 256 ^ k → (∀ j, j < k → f (a + j) = w / 256 ^ j % 256) → numF f a k = w
  | 0, w, _, h, _ => by simp only [Nat.pow_zero] at h; simp only [numF]; omega
  | k + 1, w, a, h, hf => by
    have h0 := hf 0 (by omega)
    have ih := numF_whole (f := f) (k := k) (w := w / 256) (a := a + 1) (by rw [Nat.pow_succ] at h; omega) fun j hj => by
      have := hf (j + 1) (by omega)
      rw [show a + 1 + j = a + (j + 1) by omega, this, Nat.pow_succ, Nat.mul_comm, ← Nat.div_div_eq_div_mul]
    simp only [Nat.add_zero, Nat.pow_zero, Nat.div_one] at h0
    simp only [numF, ih, h0]
    omega

/-- The byte at a place of words. -/
def wbyte (ws : List Nat) (j : Nat) : Nat := ws.getD (j / 8) 0 / 256 ^ (j % 8) % 256
theorem wbyte_lt (ws : List Nat) (j : Nat) : wbyte ws j < 256 := Nat.mod_lt _ (by omega)
def unpack (n : Nat) (ws : List Nat) : ByteArray := ⟨((List.range n).map fun j => UInt8.ofNat (wbyte ws j)).toArray⟩
theorem unpack_size (n : Nat) (ws : List Nat) : (unpack n ws).size = n := by
  show (unpack n ws).data.size = n
  simp [unpack]
theorem byteAt_unpack (n : Nat) (ws : List Nat) (j : Nat) : byteAt (unpack n ws) j = if j < n then wbyte ws j else 0 := by
  by_cases h : j < n
  · have h' : (unpack n ws).data[j]? = some (UInt8.ofNat (wbyte ws j)) := by simp [unpack, h]
    have := wbyte_lt ws j
    simp only [byteAt, h', if_pos h, UInt8.toNat_ofNat']
    omega
  · rw [byteAt_out (by rw [unpack_size]; exact h), if_neg h]

theorem wbyte_word {ws : List Nat} (hw : ∀ w ∈ ws, w < 18446744073709551616) (i : Nat) : numF (wbyte ws) (8 * i) 8 = ws.getD i 0 := by
  refine numF_whole (k := 8) ?_ fun j hj => ?_
  · by_cases h : i < ws.length
    · rw [List.getD_eq_getElem?_getD, List.getElem?_eq_getElem h]
      exact hw _ (List.getElem_mem h)
    · rw [List.getD_eq_getElem?_getD, List.getElem?_eq_none (by omega)]
      simp
  · unfold wbyte
    rw [show (8 * i + j) / 8 = i by omega, show (8 * i + j) % 8 = j by omega]

/-- Words that are a text's: what is behind its bytes is 0. -/
theorem packed_unpack {n : Nat} {ws : List Nat} (hl : ws.length = (n + 7) / 8) (hw : ∀ w ∈ ws, w < 18446744073709551616) : packed (unpack n ws) = ws ↔ ∀ j, n ≤ j → j < 8 * ws.length → wbyte ws j = 0 := by
  have hlen : (packed (unpack n ws)).length = ws.length := by rw [packed_len, unpack_size, hl]
  have hat : ∀ i, i < ws.length → (packed (unpack n ws)).getD i 0 = numF (byteAt (unpack n ws)) (8 * i) 8 := fun i hi => by
    rw [List.getD_eq_getElem?_getD, packed]
    rw [unpack_size, ← hl]
    simp only [List.getElem?_map, List.getElem?_range hi, Option.map_some, Option.getD_some, num_numF]
  constructor
  · intro h j h1 h2
    have e := hat (j / 8) (by omega)
    rw [h, ← wbyte_word hw] at e
    have := numF_inj (wbyte_lt ws) (fun j => byteAt_lt _ j) e j (by omega) (by omega)
    rw [this, byteAt_unpack, if_neg (by omega)]
  · intro h
    refine List.ext_getElem hlen fun i h1 h2 => ?_
    have e := hat i h2
    rw [List.getD_eq_getElem?_getD, List.getElem?_eq_getElem h1] at e
    have e2 := wbyte_word hw i
    rw [List.getD_eq_getElem?_getD, List.getElem?_eq_getElem h2] at e2
    simp only [Option.getD_some] at e e2
    rw [e, ← e2]
    refine numF_congr fun j h3 h4 => ?_
    rw [byteAt_unpack]
    split
    · rfl
    · exact (h j (by omega) (by omega)).symm

theorem bytes_ext {s t : ByteArray} (hs : s.size = t.size) (h : ∀ j, j < s.size → byteAt s j = byteAt t j) : s = t := by
  have : s.data = t.data := by
    refine Array.ext hs fun j h1 h2 => ?_
    have := h j h1
    simp only [byteAt, Array.getElem?_eq_getElem h1, Array.getElem?_eq_getElem h2] at this
    exact UInt8.toNat_inj.1 this
  cases s; cases t; simp_all

theorem wbyte_packed (s : ByteArray) {j : Nat} (h : j < 8 * ((s.size + 7) / 8)) : wbyte (packed s) j = byteAt s j := by
  have e : (packed s).getD (j / 8) 0 = numF (byteAt s) (8 * (j / 8)) 8 := by
    rw [List.getD_eq_getElem?_getD, packed]
    have hi : j / 8 < (s.size + 7) / 8 := by omega
    simp only [List.getElem?_map, List.getElem?_range hi, Option.map_some, Option.getD_some, num_numF]
  unfold wbyte
  rw [e, numF_digit (byteAt_lt s) (by omega)]
  congr 1
  omega

theorem unpack_packed (s : ByteArray) : unpack s.size (packed s) = s := by
  refine bytes_ext (unpack_size _ _) fun j hj => ?_
  rw [unpack_size] at hj
  rw [byteAt_unpack, if_pos hj, wbyte_packed s (by omega)]

theorem packed_lt (s : ByteArray) : ∀ w ∈ packed s, w < 18446744073709551616 := fun w hw => by
  obtain ⟨i, _, rfl⟩ := List.mem_map.1 hw
  exact num8_lt s _

/-! ### What is read -/
def backI (w : Nat) : Int := if w % 2 = 0 then ((w / 2 : Nat) : Int) else -((w / 2 : Nat) : Int) - 1
theorem backI_signed (x : Int) : backI (signed x) = x := by
  unfold backI signed
  split <;> split <;> omega
theorem backI_in {w : Nat} (h : w < 18446744073709551616) : -9223372036854775808 ≤ backI w ∧ backI w ≤ 9223372036854775807 := by
  unfold backI
  split <;> omega
theorem signed_lt {x : Int} (h1 : -9223372036854775808 ≤ x) (h2 : x ≤ 9223372036854775807) : signed x < 18446744073709551616 := by
  unfold signed
  split <;> omega

/-- What is read of words: a value, and what is left. -/
abbrev Rd (α : Type) := List Nat → Option (α × List Nat)
def rdCount (most : Int) : Rd Int
  | [] => none
  | w :: l => if 0 ≤ most ∧ (w : Int) ≤ most then some ((w : Int), l) else none
def rdSigned : Rd Int
  | [] => none
  | w :: l => some (backI w, l)
def rdFlag : Rd Bool := fun l => (rdCount 1 l).map fun p => (decide (p.1 = 1), p.2)
def rdTake (n : Nat) : Rd (List Nat) := fun l => if n ≤ l.length then some (l.take n, l.drop n) else none
def rdWords (most : Int) : Rd (List Nat) := fun l => (rdCount most l).bind fun p => rdTake p.1.toNat p.2
def rdText : Rd ByteArray := fun l => (rdCount 64 l).bind fun p => (rdTake ((p.1.toNat + 7) / 8) p.2).bind fun q => if packed (unpack p.1.toNat q.1) = q.1 then some (unpack p.1.toNat q.1, q.2) else none

theorem rdText_write (s : ByteArray) (l : List Nat) : rdText (textW s ++ l) = some (cut64 s, l) := by
  have h := cut64_size s
  have hl := packed_len (cut64 s)
  have e1 : rdCount 64 (textW s ++ l) = some (((cut64 s).size : Int), packed (cut64 s) ++ l) := by
    simp only [textW, rdCount, List.cons_append]
    rw [if_pos (by omega)]
  simp only [rdText, e1, Option.bind_some, Int.toNat_natCast]
  have e2 : rdTake (((cut64 s).size + 7) / 8) (packed (cut64 s) ++ l) = some (packed (cut64 s), l) := by
    unfold rdTake
    rw [if_pos (by rw [List.length_append, hl]; omega), ← hl, List.take_left, List.drop_left]
  rw [e2]
  simp only [Option.bind_some, unpack_packed, if_true]
end Go.Proofs

/- The program's reader of codes. -/
namespace Go.Proofs
open Go Go.RowKit Go.Am

theorem CallP.wkr {f : FuncId} {args : List AV} {h : H} {K K' : AV → H → Prop} (hc : CallP Try.prog f args h K) (hk : ∀ r h1, K r h1 → K' (wk r) h1) : CallP Try.prog f args h K' :=
  hc.gh fun r h1 q => ⟨h1, wk r, .weak (fun w g V hv => hv.wk) (.refl _ _), hk r h1 q⟩

/-- A reader's state: the words that are left; none: it isn't right. -/
abbrev RS := Option (List Nat)
def encRS : RS → List AV
  | some l => [encW l, .bool false]
  | none => [.any1, .bool true]
def Bd (s : RS) : Prop := ∀ l, s = some l → l.length ≤ 1000000 ∧ ∀ w ∈ l, w < 18446744073709551616
structure RIs (h : H) (b : Nat) (s : RS) : Prop where
  blt : b < h.bn
  bx : h.bx b = some (encRS s)
  bd : Bd s
structure RTo (h : H) (b : Nat) (h' : H) (s' : RS) : Prop where
  keep : HF h h' (· = b) (fun _ => False)
  is : RIs h' b s'
/-- Where a piece of reading ends. -/
def RFin (h : H) (b : Nat) (h' : H) (s' : RS) : Prop := HF h h' (· = b) (fun _ => False) ∧ ∃ cs1, h'.bx b = some cs1 ∧ WkL cs1 (encRS s')
theorem RTo.fin {h h' : H} {b : Nat} {s' : RS} (a : RTo h b h' s') : RFin h b h' s' := ⟨a.keep, _, a.is.bx, WkL.refl _⟩
theorem RFin.bad {h h' : H} {b : Nat} {v : AV} (a : HF h h' (· = b) (fun _ => False)) (hb : h'.bx b = some [v, .bool true]) : RFin h b h' none := ⟨a, _, hb, .cons (.any v) (.cons (.refl _) .nil)⟩
theorem RFin.set {h h' : H} {b : Nat} {v : AV} (a : HF h h' (· = b) (fun _ => False)) : RFin h b (h'.set b [v, .bool true]) none := RFin.bad (v := v) (a.trans (HF.set _ rfl)) (by simp)
theorem RFin.ok {h h' : H} {b : Nat} {cs : List AV} {s : RS} (a : HF h h' (· = b) (fun _ => False)) (e : cs = encRS s) : RFin h b (h'.set b cs) s := by
  subst e
  exact ⟨a.trans (HF.set _ rfl), _, by simp, WkL.refl _⟩
theorem pure_encRS : ∀ (s : RS), ∀ v ∈ encRS s, PureV v
  | some l => pures_cons (pure_w64 l) (pures1 (.bool _))
  | none => pures_cons .any1 (pures1 (.bool _))
theorem RTo.trans {h h1 h2 : H} {b : Nat} {s1 s2 : RS} (a : RTo h b h1 s1) (c : RTo h1 b h2 s2) : RTo h b h2 s2 := ⟨a.keep.trans c.keep, c.is⟩
theorem RTo.refl {h : H} {b : Nat} {s : RS} (a : RIs h b s) : RTo h b h s := ⟨HF.refl _ _ _, a⟩
theorem RTo.set {h : H} {b : Nat} {s s' : RS} (a : RIs h b s) (hb : Bd s') : RTo h b (h.set b (encRS s')) s' := ⟨HF.set _ rfl, by simpa using a.blt, by simp, hb⟩
theorem RIs.alloc {h : H} {b : Nat} {s : RS} (a : RIs h b s) (cs : List AV) : RIs (h.alloc cs) b s := by
  have h1 := a.blt
  have hne : b ≠ h.bn := by omega
  exact ⟨by simp; omega, by simpa [hne] using a.bx, a.bd⟩
theorem RTo.alloc {h h' : H} {b : Nat} {s : RS} {cs : List AV} (a : RTo (h.alloc cs) b h' s) : RTo h b h' s := ⟨(HF.alloc h cs _ _).trans a.keep, a.is⟩
theorem RIs.keep {h h' : H} {b : Nat} {s : RS} (a : RIs h b s) {B T : Nat → Prop} (e : HF h h' B T) (hb : ¬ B b) : RIs h' b s :=
  ⟨Nat.lt_of_lt_of_le a.blt e.bn, (e.bx b a.blt hb).trans a.bx, a.bd⟩

/-- What a piece of reading made of a state. -/
def Got {α : Type} (p : Rd α) (s : RS) (a : α) (s' : RS) : Prop :=
  match s.bind p with
  | some (a', l') => a = a' ∧ s' = some l'
  | none => s' = none
def Rd.bind {α β : Type} (p : Rd α) (q : α → Rd β) : Rd β := fun l => (p l).bind fun x => q x.1 x.2
def Rd.pure {α : Type} (a : α) : Rd α := fun l => some (a, l)
theorem Got.bind {α β : Type} {p : Rd α} {q : α → Rd β} {s s1 s2 : RS} {a : α} {b : β} (h1 : Got p s a s1) (h2 : Got (q a) s1 b s2) : Got (p.bind q) s b s2 := by
  unfold Got at h1 h2 ⊢
  cases s with
  | none => simp only [Option.bind_none] at h1 ⊢; subst h1; simpa using h2
  | some l =>
    simp only [Option.bind_some, Rd.bind] at h1 ⊢
    cases hp : p l with
    | none => rw [hp] at h1; simp only at h1; subst h1; simpa using h2
    | some x => rw [hp] at h1; simp only at h1; obtain ⟨rfl, rfl⟩ := h1; simpa using h2
theorem Got.pure {α : Type} (a : α) (s : RS) : Got (Rd.pure a) s a s := by cases s <;> simp [Got, Rd.pure]
theorem Got.map {α β : Type} {p : Rd α} {f : α → β} {s s1 : RS} {a : α} (h1 : Got p s a s1) : Got (fun l => (p l).map fun x => (f x.1, x.2)) s (f a) s1 := by
  unfold Got at h1 ⊢
  cases s with
  | none => simpa using h1
  | some l =>
    simp only [Option.bind_some] at h1 ⊢
    cases hp : p l with
    | none => rw [hp] at h1; simpa using h1
    | some x => rw [hp] at h1; obtain ⟨rfl, rfl⟩ := h1; simp
/-- A piece that is read; else d. -/
def runS {α : Type} (p : Rd α) (d : α) (s : RS) : α × RS := (s.bind p).elim (d, none) fun x => (x.1, some x.2)
theorem Got.runS {α : Type} (p : Rd α) (d : α) (s : RS) : Got p s (Proofs.runS p d s).1 (Proofs.runS p d s).2 := by
  unfold Got Proofs.runS
  cases s.bind p <;> simp

theorem newReader_ok (l : List Nat) (h : H) : SCall Try.prog 10 [encW l] h (.ptr h.bn 0) (h.alloc (encRS (some l))) := by
  refine SCall.new (CallP.run hb10 ok10 (by simp) ?_) (pure_encRS _)
  simp -implicitDefEqProofs
  exact ⟨HF.alloc _ _ _ _, WkL.refl _⟩

theorem RIs.new {l : List Nat} (hl : Bd (some l)) (h : H) : RIs (h.alloc (encRS (some l))) h.bn (some l) := ⟨by simp, by simp, hl⟩

theorem rOk_ok {h : H} {b : Nat} {s : RS} (hr : RIs h b s) : SCall Try.prog 14 [.ptr b 0] h (.bool s.isSome) h := by
  refine SCall.ro (CallP.run hb14 ok14 (by simp) ?_) (.bool _)
  have h1 := hr.blt
  have h2 := hr.bx
  cases s <;> (simp -implicitDefEqProofs [h1, h2, encRS]; exact HF.refl _ _ _)

def endS : RS → Bool
  | some [] => true
  | _ => false

theorem rEnd_ok {h : H} {b : Nat} {s : RS} (hr : RIs h b s) : SCall Try.prog 15 [.ptr b 0] h (.bool (endS s)) h := by
  refine SCall.ro (CallP.run hb15 ok15 (by simp) ?_) (.bool _)
  have h1 := hr.blt
  have h2 := hr.bx
  cases s with
  | none => simp -implicitDefEqProofs [h1, h2, encRS, endS]; exact HF.refl _ _ _
  | some l =>
    cases l with
    | nil => simp -implicitDefEqProofs [h1, h2, encRS, endS]; exact HF.refl _ _ _
    | cons w l =>
      have : ¬ (l.length : Int) + 1 = 0 := by omega
      simp -implicitDefEqProofs [h1, h2, encRS, endS, this]; exact HF.refl _ _ _

/-- A piece of reading: its value, and what is left; where it isn't right, d. -/
structure RdS {α : Type} (f : FuncId) (args : List AV) (h : H) (b : Nat) (s : RS) (p : Rd α) (d : α) (enc : α → AV) : Prop where
  call : SCall Try.prog f args h (enc (runS p d s).1) (h.set b (encRS (runS p d s).2))
  to : RTo h b (h.set b (encRS (runS p d s).2)) (runS p d s).2

/-- What is left is of what there was. -/
def RdOK {α : Type} (p : Rd α) : Prop := ∀ l a l', p l = some (a, l') → l'.length ≤ l.length ∧ ∀ w ∈ l', w ∈ l
theorem RdOK.bd {α : Type} {p : Rd α} (hp : RdOK p) (d : α) {s : RS} (hs : Bd s) : Bd (runS p d s).2 := fun l' e => by
  unfold runS at e
  cases s with
  | none => simp at e
  | some l =>
    cases hq : p l with
    | none => simp [hq] at e
    | some x =>
      simp [hq] at e; subst e
      obtain ⟨h1, h2⟩ := hs l rfl
      obtain ⟨h3, h4⟩ := hp l x.1 x.2 hq
      exact ⟨Nat.le_trans h3 h1, fun w hw => h2 w (h4 w hw)⟩
theorem RdOK.bind {α β : Type} {p : Rd α} {q : α → Rd β} (hp : RdOK p) (hq : ∀ a, RdOK (q a)) : RdOK (p.bind q) := fun l b l' e => by
  simp only [Rd.bind, Option.bind_eq_some_iff] at e
  obtain ⟨x, e1, e2⟩ := e
  obtain ⟨h1, h2⟩ := hp l x.1 x.2 e1
  obtain ⟨h3, h4⟩ := hq x.1 x.2 b l' e2
  exact ⟨Nat.le_trans h3 h1, fun w hw => h2 w (h4 w hw)⟩
theorem RdOK.pure {α : Type} (a : α) : RdOK (Rd.pure a) := fun l b l' e => by
  simp only [Rd.pure, Option.some.injEq, Prod.mk.injEq] at e
  rw [e.2]; exact ⟨Nat.le_refl _, fun w hw => hw⟩

theorem RdS.mk' {α : Type} {f : FuncId} {args : List AV} {h : H} {b : Nat} {s : RS} {p : Rd α} {d : α} {enc : α → AV} (hr : RIs h b s) (hp : RdOK p) (hv : ∀ a, PureV (enc a)) (hc : CallP Try.prog f args h fun r h1 => wk r = enc (runS p d s).1 ∧ RFin h b h1 (runS p d s).2) : RdS f args h b s p d enc :=
  ⟨SCall.upd hr.blt (hc.mono fun r h1 ⟨q1, q2, q3⟩ => ⟨q1, q2, q3⟩) (hv _) (pure_encRS _), RTo.set hr (hp.bd d hr.bd)⟩

def rdNext (p : Nat → Bool) : Rd Nat
  | [] => none
  | w :: l => if p w = true then some (w, l) else none
theorem rdNext_ok (p : Nat → Bool) : RdOK (rdNext p) := fun l a l' e => by
  cases l with
  | nil => simp [rdNext] at e
  | cons v l =>
    simp only [rdNext] at e
    split at e
    · cases e; exact ⟨by simp, fun w hw => List.mem_cons_of_mem _ hw⟩
    · cases e

theorem next_ok {h : H} {b : Nat} {s : RS} (hr : RIs h b s) {F : FuncId} {first caps : List AV} {p : Nat → Bool} (hw : first.map wk = first) (hw' : caps.map wk = caps) (hp : ∀ w : Nat, SCall Try.prog F (first ++ [.int .u64 w] ++ caps) h (.bool (p w)) h) :
    RdS 56 [.ptr b 0, .fn F first caps] h b s (rdNext p) 0 (fun n => .int .u64 n) := by
  refine RdS.mk' hr (rdNext_ok p) (fun _ => .int _ _) (CallP.run hb56 ok56 (by simp) ?_)
  have h1 := hr.blt
  have h2 := hr.bx
  cases s with
  | none =>
    simp -implicitDefEqProofs [h1, h2, runS, encRS]
    exact RFin.set (HF.refl _ _ _)
  | some l =>
    cases l with
    | nil =>
      simp -implicitDefEqProofs [h1, h2, runS, rdNext, encRS]
      exact RFin.set (HF.refl _ _ _)
    | cons w l =>
      have e0 : ¬ (l.length : Int) + 1 = 0 := by omega
      simp -implicitDefEqProofs [h1, h2, e0, w64, encRS]
      refine callQ_s (hp w) (by simp [hw, hw']) ?_
      cases hpw : p w
      · simp -implicitDefEqProofs [h1, h2, hpw, runS, rdNext, w64, encRS]
        exact RFin.set (HF.refl _ _ _)
      · have e1 : (0 : Int) ≤ (l.length : Int) + 1 := by omega
        have e2 : (1 : Int) ≤ (l.length : Int) + 1 := by omega
        simp -implicitDefEqProofs [h1, h2, hpw, runS, rdNext, w64, e2, bndOf, encRS]
        exact RFin.ok (HF.refl _ _ _) rfl

theorem runS_next {p : Nat → Bool} {α : Type} {q : Rd α} {d : α} {f : Nat → α} (hd : d = f 0) (hq : ∀ l, q l = (rdNext p l).map fun x => (f x.1, x.2)) (s : RS) : runS q d s = (f (runS (rdNext p) 0 s).1, (runS (rdNext p) 0 s).2) := by
  unfold runS
  cases s with
  | none => simp [hd]
  | some l =>
    simp only [Option.bind_some, hq]
    cases rdNext p l <;> simp [hd]
theorem rdCount_next (most : Int) (l : List Nat) : rdCount most l = (rdNext (fun w => decide (0 ≤ most ∧ (w : Int) ≤ most)) l).map fun x => ((x.1 : Int), x.2) := by
  cases l with
  | nil => rfl
  | cons w l => simp only [rdCount, rdNext, decide_eq_true_eq]; split <;> rfl
theorem rdSigned_next (l : List Nat) : rdSigned l = (rdNext (fun _ => true) l).map fun x => (backI x.1, x.2) := by
  cases l <;> rfl

theorem runS_next_lt {p : Nat → Bool} {s : RS} (h : Bd s) : (runS (rdNext p) 0 s).1 < 18446744073709551616 := by
  unfold runS
  cases s with
  | none => simp
  | some l =>
    cases l with
    | nil => simp [rdNext]
    | cons w l =>
      simp only [Option.bind_some, rdNext]
      split
      · exact (h _ rfl).2 w (List.mem_cons_self ..)
      · simp

theorem count1_ok {h : H} {c : Nat} {most : Int} (hc : c < h.bn) (hb : h.bx c = some [.int .i64 most]) (hm : inI most) (w : Nat) : SCall Try.prog 57 [.int .u64 w, .ptr c 0] h (.bool (decide (0 ≤ most ∧ (w : Int) ≤ most))) h := by
  refine SCall.ro (CallP.run hb57 ok57 (by simp) ?_) (.bool _)
  obtain ⟨m1, m2⟩ := hm
  by_cases h0 : 0 ≤ most
  · simp -implicitDefEqProofs [hc, hb, h0, wrap_u64 (x := most) (by omega) (by omega)]
    exact HF.refl _ _ _
  · simp -implicitDefEqProofs [hc, hb, h0]
    exact HF.refl _ _ _

theorem rdMap_ok {α β : Type} {p : Rd α} {q : Rd β} {f : α → β} (hp : RdOK p) (hq : ∀ l, q l = (p l).map fun x => (f x.1, x.2)) : RdOK q := fun l b l' e => by
  rw [hq, Option.map_eq_some_iff] at e
  obtain ⟨x, e1, e2⟩ := e
  cases e2
  exact hp l x.1 x.2 e1
theorem rdCount_ok (most : Int) : RdOK (rdCount most) := rdMap_ok (rdNext_ok _) (rdCount_next most)
theorem rdSigned_ok : RdOK rdSigned := rdMap_ok (rdNext_ok _) rdSigned_next
theorem rdFlag_ok : RdOK rdFlag := rdMap_ok (f := fun n : Int => decide (n = 1)) (rdCount_ok 1) fun _ => rfl
theorem rdTake_ok (n : Nat) : RdOK (rdTake n) := fun l b l' e => by
  simp only [rdTake] at e
  split at e
  · cases e; exact ⟨by simp, fun w hw => List.mem_of_mem_drop hw⟩
  · cases e
theorem rdWords_ok (most : Int) : RdOK (rdWords most) := RdOK.bind (rdCount_ok most) fun _ => rdTake_ok _
theorem rdText_bind : rdText = (rdCount 64).bind fun n => (rdTake ((n.toNat + 7) / 8)).bind fun ws => fun l => if packed (unpack n.toNat ws) = ws then some (unpack n.toNat ws, l) else none := rfl
theorem rdText_ok : RdOK rdText := by
  rw [rdText_bind]
  refine RdOK.bind (rdCount_ok 64) fun n => RdOK.bind (rdTake_ok _) fun ws => fun l b l' e => ?_
  split at e
  · cases e; exact ⟨Nat.le_refl _, fun w hw => hw⟩
  · cases e

theorem rdCount_in {most : Int} (hm : inI most) (s : RS) : 0 ≤ (runS (rdCount most) 0 s).1 ∧ ((runS (rdCount most) 0 s).1 ≤ most ∨ (runS (rdCount most) 0 s).1 = 0) := by
  unfold runS
  cases s with
  | none => simp
  | some l =>
    cases l with
    | nil => simp [rdCount]
    | cons w l =>
      simp only [Option.bind_some, rdCount]
      split
      · simp only [Option.elim]; omega
      · simp

theorem count_rd {h : H} {b : Nat} {s : RS} (hr : RIs h b s) {most : Int} (hm : inI most) : RdS 34 [.ptr b 0, .int .i64 most] h b s (rdCount most) 0 (.int .i64) := by
  refine RdS.mk' hr (rdCount_ok most) (fun _ => .int _ _) (CallP.run hb34 ok34 (by simp) ?_)
  simp -implicitDefEqProofs
  have hn := next_ok (hr.alloc [.int .i64 most]) (F := 57) (first := []) (caps := [.ptr h.bn 0]) rfl (by simp) fun w => count1_ok (by simp) (by simp) hm w
  refine callQ_s hn.call (by simp) ?_
  have q := hn.to
  have hx := runS_next (p := fun w => decide (0 ≤ most ∧ (w : Int) ≤ most)) (q := rdCount most) (d := 0) (f := fun w => (w : Int)) rfl (rdCount_next most) s
  have hin := rdCount_in hm s
  obtain ⟨m1, m2⟩ := hm
  rw [hx] at hin ⊢
  simp only at hin ⊢
  generalize runS (rdNext fun w => decide (0 ≤ most ∧ (w : Int) ≤ most)) 0 s = x at q hin
  simp -implicitDefEqProofs [wrap_i64 (x := (x.1 : Int)) (by omega) (by omega)]
  exact q.alloc.fin

theorem signed1_ok (w : Nat) (h : H) : SCall Try.prog 79 [.int .u64 w] h (.bool true) h := by
  refine SCall.ro (CallP.run hb79 ok79 (by simp) ?_) (.bool _)
  simp -implicitDefEqProofs
  exact HF.refl _ _ _

theorem back_bits {w : Nat} (hw : w < 18446744073709551616) : IntKind.i64.wrap
        ((((IntKind.i64.wrap ((w : Int).fdiv (2 ^ shAmt IntKind.u64 1)) % 2 ^ IntKind.i64.bits).toNat ^^^
            (IntKind.i64.wrap
                  (-IntKind.i64.wrap (IntKind.u64.wrap ((w % 2 ^ IntKind.u64.bits &&& 1 % 2 ^ IntKind.u64.bits : Nat) : Int))) %
                2 ^ IntKind.i64.bits).toNat : Nat)) : Int) =
      backI w := by
  have e1 : (2 : Int) ^ shAmt IntKind.u64 1 = 2 := rfl
  have e3 : (2 : Int) ^ IntKind.i64.bits = 18446744073709551616 := rfl
  have e4 : (2 : Nat) ^ IntKind.u64.bits = 18446744073709551616 := rfl
  have wi : ∀ y : Int, IntKind.i64.wrap y = (if 9223372036854775808 ≤ y % 18446744073709551616 then y % 18446744073709551616 - 18446744073709551616 else y % 18446744073709551616) := fun y => by simp [IntKind.wrap, IntKind.bits, IntKind.signed]
  rw [e1, e3, e4, Nat.mod_eq_of_lt hw, show 1 % 18446744073709551616 = 1 from rfl, Nat.and_one_is_mod, Int.fdiv_eq_ediv_of_nonneg _ (by omega), wrap_i64 (x := (w : Int) / 2) (by omega) (by omega), wrap_u64 (by omega) (by omega), wrap_i64 (x := ((w % 2 : Nat) : Int)) (by omega) (by omega), wrap_i64 (x := -((w % 2 : Nat) : Int)) (by omega) (by omega)]
  have e5 : ((w : Int) / 2 % 18446744073709551616).toNat = w / 2 := by omega
  rw [e5]
  unfold backI
  rcases Nat.mod_two_eq_zero_or_one w with h | h
  · rw [h, if_pos rfl]
    have e6 : (-((0 : Nat) : Int) % 18446744073709551616).toNat = 0 := by decide
    rw [e6, Nat.xor_zero]
    exact wrap_i64 (by omega) (by omega)
  · rw [h, if_neg (by omega)]
    have e6 : (-((1 : Nat) : Int) % 18446744073709551616).toNat = 18446744073709551615 := by decide
    rw [e6, xor_ones _ (by omega), wi]
    split <;> omega

theorem signed_rd {h : H} {b : Nat} {s : RS} (hr : RIs h b s) : RdS 58 [.ptr b 0] h b s rdSigned 0 (.int .i64) := by
  refine RdS.mk' hr rdSigned_ok (fun _ => .int _ _) (CallP.run hb58 ok58 (by simp) ?_)
  simp -implicitDefEqProofs
  have hn := next_ok hr (F := 79) (first := []) (caps := []) rfl rfl fun w => signed1_ok w h
  refine callQ_s hn.call (by simp) ?_
  have q := hn.to
  have hx := runS_next (p := fun _ => true) (q := rdSigned) (d := 0) (f := backI) rfl rdSigned_next s
  have hlt := runS_next_lt (p := fun _ => true) hr.bd
  rw [hx]
  generalize runS (rdNext fun _ => true) 0 s = x at q hlt
  simp -implicitDefEqProofs
  exact ⟨back_bits hlt, q.fin⟩

theorem flag_rd {h : H} {b : Nat} {s : RS} (hr : RIs h b s) : RdS 36 [.ptr b 0] h b s rdFlag false .bool := by
  refine RdS.mk' hr rdFlag_ok (fun _ => .bool _) (CallP.run hb36 ok36 (by simp) ?_)
  simp -implicitDefEqProofs
  have hn := count_rd hr (most := 1) ⟨by omega, by omega⟩
  refine callQ_s hn.call (by simp) ?_
  have q := hn.to
  have hx : runS rdFlag false s = (decide ((runS (rdCount 1) 0 s).1 = 1), (runS (rdCount 1) 0 s).2) := by
    have key : ∀ o : Option (Int × List Nat), ((o.map fun p => (decide (p.1 = 1), p.2)).elim (false, none) fun x => (x.1, some x.2) : Bool × RS) = (decide ((o.elim (0, none) fun x => (x.1, some x.2) : Int × RS).1 = 1), (o.elim (0, none) fun x => (x.1, some x.2) : Int × RS).2) := fun o => by cases o <;> first | rfl | simp
    cases s with
    | none => rfl
    | some l => exact key _
  rw [hx]
  simp -implicitDefEqProofs
  exact q.fin

theorem runS_bind {α β : Type} (p : Rd α) (q : α → Rd β) (d1 : α) (d : β) (s : RS) : runS (p.bind q) d s = runS (q (runS p d1 s).1) d (runS p d1 s).2 := by
  unfold runS Rd.bind
  cases s with
  | none => rfl
  | some l =>
    simp only [Option.bind_some]
    cases p l <;> rfl

theorem neOp_w64 : NeOp w64 false (.bin .neq (.t 19) (.t 23)) := fun P s h0 obl K x y hx hy hk => by
  simp only [elV, w64] at hx hy
  simp -implicitDefEqProofs [hx, hy]
  exact hk
theorem elOK_w64 : ElOK w64 1 false := ⟨fun _ => rfl, fun _ => rfl, fun n => pures1 (.int _ _), fun n => by simp [w64]⟩

def encB (n : Nat) : List AV := [.int .u8 n]
theorem bytesOf_ok : ∀ (l : List Nat), bytesOfA (l.map encB) = some (l.map fun n : Nat => (n : Int))
  | [] => rfl
  | n :: l => by simp [bytesOfA, byteOfA, encB, bytesOf_ok l]
def wbytes (ws : List Nat) (j : Nat) : List Nat := (List.range j).map (wbyte ws)
@[simp] theorem wbytes_len (ws : List Nat) (j : Nat) : (wbytes ws j).length = j := by simp [wbytes]
theorem wbytes_succ (ws : List Nat) (j : Nat) : wbytes ws (j + 1) = wbytes ws j ++ [wbyte ws j] := by simp [wbytes, List.range_succ]
theorem wbyte_bits {ws : List Nat} {j : Nat} (h : j / 8 < ws.length) : IntKind.u8.wrap (((ws[j / 8] : Nat) : Int).fdiv (2 ^ (8 * (j % 8)))) = (wbyte ws j : Int) := by
  have e : (2 : Int) ^ (8 * (j % 8)) = ((256 ^ (j % 8) : Nat) : Int) := by
    rw [Int.pow_mul]; simp
  have w8 : ∀ y : Int, IntKind.u8.wrap y = y % 256 := fun y => by simp [IntKind.wrap, IntKind.bits, IntKind.signed]
  rw [e, Int.fdiv_eq_ediv_of_nonneg _ (Int.natCast_nonneg _), w8]
  unfold wbyte
  rw [List.getD_eq_getElem?_getD, List.getElem?_eq_getElem h]
  simp
theorem strOf_unpack (n : Nat) (ws : List Nat) : strOfNums ((wbytes ws n).map fun n : Nat => (n : Int)) = unpack n ws := by
  unfold unpack strOfNums wbytes
  simp only [List.map_map]
  rfl
theorem encB_len (us : List Nat) : ∀ e ∈ us.map encB, e.length = 1 := fun e he => by
  obtain ⟨n, _, rfl⟩ := List.mem_map.1 he
  rfl
theorem rdTake_inv {k : Nat} {s : RS} {l2 : List Nat} (h : (runS (rdTake k) [] s).2 = some l2) : ∃ l, s = some l ∧ k ≤ l.length ∧ (runS (rdTake k) [] s).1 = l.take k ∧ l2 = l.drop k := by
  unfold runS at h ⊢
  cases s with
  | none => simp at h
  | some l =>
    simp only [Option.bind_some, rdTake] at h ⊢
    split at h
    · rename_i hk
      simp at h
      exact ⟨l, rfl, hk, by simp [hk], h.symm⟩
    · simp at h

end Go.Proofs
