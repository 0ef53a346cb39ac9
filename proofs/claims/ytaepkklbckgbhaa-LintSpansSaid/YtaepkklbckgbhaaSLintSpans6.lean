/- What the functions that the statement reaches do: their contracts; and what follows of it. -/
import Derived.Test.YtaepkklbckgbhaaSLintSpans5
import Derived.Test.YtaepkklbckgbhaaK4
/- The document's example of sets of keys; the statement KeysSets: its function hands back true. -/
namespace Go.Proofs
open Go Go.RowKit Go.Am

def spP (s : Spn) : Sp := (s.lo, s.hi)
theorem encL_spn (l : List Spn) : AV.sl .no (l.map encSpn) = encL (l.map spP) := by
  rw [encL, List.map_map]; rfl

theorem alive4_ok : PCall Try.prog 11 [] (.bool true) := by
  refine PCall.run hb11 ok11 (by simp) (fun v hv => by cases hv) (.bool _) ?_
  simp -implicitDefEqProofs []
  refine callQ_p (keysPlain_ok [(5, 7), (1, 2), (3, 4)] (by simp)) (by simp [encL, avP]) ?_
  rw [alive_a]
  simp -implicitDefEqProofs []
  refine callQ_p (keysLess_ok [(1, 9)] [(3, 4)] (by simp) (by simp)) (by simp [encL, avP]) ?_
  rw [alive_b]
  simp -implicitDefEqProofs [encL]
  refine callQ_p (refSame_ok [(1, 7)] [(1, 7)] (by simp) (by simp)) (by simp [encL, avP]) ?_
  simp -implicitDefEqProofs []
  refine callQ_p (refSame_ok [(1, 2), (5, 9)] [(1, 2), (5, 9)] (by simp) (by simp)) (by simp [encL, avP]) ?_
  simp -implicitDefEqProofs []

theorem keys_at (f : Nat → Bool) {i : Nat} (hi : i < 1000) (hf : f i = true) : ∃ h : (keysOf f i).length < (keysOf f 1000).length, (keysOf f 1000)[(keysOf f i).length] = (i : Int) ∧ (keysOf f (i + 1)).length = (keysOf f i).length + 1 := by
  obtain ⟨h1, h2⟩ := keysOf_at f hi hf
  refine ⟨h1, ?_, by rw [keysOf_succ, if_pos hf]; simp⟩
  rw [List.getElem?_eq_getElem h1] at h2
  exact Option.some.inj h2

set_option maxHeartbeats 2000000 in
theorem keysSets_core (l : List Sp) (k : Int) : PCall Try.prog 7 [encL l, .int .i64 k] (.bool true) := by
  refine PCall.run hb7 ok7 (by simp) (pures2 (pure_encL l) (.int _ _)) (.bool _) ?_
  simp -implicitDefEqProofs []
  refine callQ_p alive4_ok (by simp) ?_
  by_cases hl : (60 : Int) < l.length
  · simp -implicitDefEqProofs [encL, hl]
  · have hl2 : l.length ≤ 60 := by omega
    simp -implicitDefEqProofs [encL, hl]
    refine callQ_p (refOf_ok l (by omega)) (by simp [encL, avP]) ?_
    simp -implicitDefEqProofs []
    refine callQ_p (keysAll_ok l (by omega)) (by simp [encL, avP]) ?_
    rw [allL_plainL]
    have hsz := sizeL_plainL l
    have hpl : plainL l = plainOf fun k => hasK l k := rfl
    have hhas : hasK l k = (decide (0 ≤ k) && decide (k ≤ 999) && hasK l k) := by
      rw [Bool.eq_iff_iff, Bool.and_eq_true, Bool.and_eq_true, decide_eq_true_eq, decide_eq_true_eq]
      exact ⟨fun h => ⟨hasK_range h, h⟩, fun h => h.2⟩
    generalize hf : (fun k : Nat => hasK l k) = f at hsz hpl ⊢
    have hkl := keysOf_le f 1000
    have hlen : (plainOf f).length ≤ 1000000 := by rw [← hpl]; have := plainL_len l; omega
    simp -implicitDefEqProofs []
    refine run_loop (fun n s h => ∃ i : Nat, n = 1000 - i ∧ i ≤ 1000 ∧ s 0 = encL l ∧ s 1 = .int .i64 k ∧ s 5 = setP f ∧ s 6 = .sl .no ((keysOf f 1000).map encN) ∧ s 7 = .int .i64 (keysOf f i).length ∧ s 8 = .int .i64 i) ?_ 1000 ?_
    rotate_left
    · exact ⟨0, by simp [encL, keysOf]⟩
    rintro n s h ⟨i, hn, hi, s0, s1, s5, s6, s7, s8⟩ ih
    by_cases hlt : i < 1000
    · have hii : (i : Int) < 1000 := by omega
      have i1 := idxOf_nat (k := .i64) hlt
      have g1 := setA_at f hlt
      cases hfi : f i with
      | false =>
        rw [hfi] at g1
        have e : keysOf f (i + 1) = keysOf f i := by rw [keysOf_succ, hfi]; simp
        simp -implicitDefEqProofs [s5, s8, hii, setP, g1, show 1 ≤ 1000 - i by omega, inc_i64 hlt (by omega), -Int.natCast_add]
        exact ih (1000 - (i + 1)) _ _ (by omega) ⟨i + 1, rfl, by omega, by simp [s0], by simp [s1], by simp [s5, setP], by simp [s6], by simp [s7, e], by simp⟩
      | true =>
        rw [hfi] at g1
        obtain ⟨h1, h2, h3⟩ := keys_at f hlt hfi
        have i2 := idxOf_nat (k := .i64) h1
        have h4 : ¬ (keysOf f 1000).length ≤ (keysOf f i).length := by omega
        have h5 : (keysOf f 1000).map encN ≠ [] := by intro e; simp at e; rw [e] at h1; simp at h1
        simp -implicitDefEqProofs [s5, s6, s7, s8, hii, setP, g1, h1, h2, h4, encN, show 1 ≤ 1000 - i by omega, inc_i64 hlt (by omega), inc_i64 (show (keysOf f i).length < 1000 by omega) (by omega), -Int.natCast_add]
        exact ih (1000 - (i + 1)) _ _ (by omega) ⟨i + 1, rfl, by omega, by simp [s0], by simp [s1], by simp [s5, setP], by simp [s6], by simp [h3], by simp⟩
    · obtain rfl : i = 1000 := by omega
      by_cases h0 : 0 ≤ k
      · by_cases h9 : k ≤ 999
        · obtain ⟨m, rfl⟩ : ∃ m : Nat, k = m := ⟨k.toNat, by omega⟩
          have hm : m < 1000 := by omega
          have i1 := idxOf_nat (k := .i64) hm
          have g1 := setA_at f hm
          have hone := plainL_one (m : Int)
          rw [if_pos ⟨h0, h9⟩] at hone
          have h10 : ¬ (999 : Int) < m := by omega
          have h11 : ¬ (m : Int) < 0 := by omega
          have hfm : hasK l (m : Int) = f m := by rw [← hf]
          have h12 : (m : Int) < 1000 := by omega
          simp -implicitDefEqProofs [s1, s5, s8, h9, setP, g1, h12, show 1 ≤ 1000 - m by omega]
          refine callQ_p (keysOne_ok m) (by simp) ?_
          rw [hone]
          simp -implicitDefEqProofs [s0, s1, s6, s7, h9, h10, h11, encL, avP]
          refine callQ_p (keysSize_ok l (by omega)) (by simp [encL, avP]) ?_
          rw [hsz]
          simp -implicitDefEqProofs [s7, s0, s1]
          refine callQ_p (keysHas_ok l m (by omega)) (by simp [encL, avP]) ?_
          rw [hfm]
          simp -implicitDefEqProofs [s0]
          refine callQ_p (keysPlain_ok l (by omega)) (by simp [encL, avP]) ?_
          rw [hpl]
          simp -implicitDefEqProofs [s5]
          refine callQ_p (refPlain_ok f) (by simp [setP, wk_setA]) ?_
          simp -implicitDefEqProofs []
          refine callQ_p (refSame_ok _ _ hlen hlen) (by simp [encL, avP]) ?_
          simp -implicitDefEqProofs []
        · have hone := plainL_one k
          rw [if_neg (fun h => h9 h.2)] at hone
          rw [show decide (k ≤ 999) = false from decide_eq_false h9, Bool.and_false, Bool.false_and] at hhas
          have h10 : (999 : Int) < k := by omega
          have h11 : ¬ k < 0 := by omega
          simp -implicitDefEqProofs [s1, s8, h0, h9]
          refine callQ_p (keysOne_ok k) (by simp) ?_
          rw [hone]
          simp -implicitDefEqProofs [s0, s1, s6, s7, h0, h9, h10, h11, encL]
          refine callQ_p (keysSize_ok l (by omega)) (by simp [encL, avP]) ?_
          rw [hsz]
          simp -implicitDefEqProofs [s7, s0, s1]
          refine callQ_p (keysHas_ok l k (by omega)) (by simp [encL, avP]) ?_
          rw [hhas]
          simp -implicitDefEqProofs [s0]
          refine callQ_p (keysPlain_ok l (by omega)) (by simp [encL, avP]) ?_
          rw [hpl]
          simp -implicitDefEqProofs [s5]
          refine callQ_p (refPlain_ok f) (by simp [setP, wk_setA]) ?_
          simp -implicitDefEqProofs []
          refine callQ_p (refSame_ok _ _ hlen hlen) (by simp [encL, avP]) ?_
          simp -implicitDefEqProofs []
      · have hone := plainL_one k
        rw [if_neg (fun h => h0 h.1)] at hone
        rw [show decide (0 ≤ k) = false from decide_eq_false h0, Bool.false_and, Bool.false_and] at hhas
        have h11 : k < 0 := by omega
        simp -implicitDefEqProofs [s1, s8, h0]
        refine callQ_p (keysOne_ok k) (by simp) ?_
        rw [hone]
        simp -implicitDefEqProofs [s0, s1, s6, s7, h0, h11, encL]
        refine callQ_p (keysSize_ok l (by omega)) (by simp [encL, avP]) ?_
        rw [hsz]
        simp -implicitDefEqProofs [s7, s0, s1]
        refine callQ_p (keysHas_ok l k (by omega)) (by simp [encL, avP]) ?_
        rw [hhas]
        simp -implicitDefEqProofs [s0]
        refine callQ_p (keysPlain_ok l (by omega)) (by simp [encL, avP]) ?_
        rw [hpl]
        simp -implicitDefEqProofs [s5]
        refine callQ_p (refPlain_ok f) (by simp [setP, wk_setA]) ?_
        simp -implicitDefEqProofs []
        refine callQ_p (refSame_ok _ _ hlen hlen) (by simp [encL, avP]) ?_
        simp -implicitDefEqProofs []
theorem keysSets_ok (l : List Spn) (k : Int) : PCall Try.prog 7 [.sl .no (l.map encSpn), .int .i64 k] (.bool true) := by
  rw [encL_spn]
  exact keysSets_core _ k
end Go.Proofs

/- The statements KeysParts, KeysTwo: their functions hand back true. -/
namespace Go.Proofs
open Go Go.RowKit Go.Am

theorem pures3 {a b c : AV} (ha : PureV a) (hb : PureV b) (hc : PureV c) : ∀ v ∈ [a, b, c], PureV v := pures_cons ha (pures2 hb hc)
theorem bothL_len (a b : List Sp) : (bothL a b).length ≤ 500 := plainL_len _
theorem lessL_len (a b : List Sp) : (lessL a b).length ≤ 500 := plainL_len _

set_option maxHeartbeats 2000000 in
theorem keysParts_core (a b c : List Sp) : PCall Try.prog 5 [encL a, encL b, encL c] (.bool true) := by
  refine PCall.run hb5 ok5 (by simp) (pures3 (pure_encL a) (pure_encL b) (pure_encL c)) (.bool _) ?_
  simp -implicitDefEqProofs []
  refine callQ_p alive4_ok (by simp) ?_
  have fin : ∀ (s : Slots) (h : H), Am.wk (AV.bool true) = .bool true := fun _ _ => rfl
  by_cases ha : (30 : Int) < a.length
  · simp -implicitDefEqProofs [encL, ha]
  by_cases hb : (30 : Int) < b.length
  · simp -implicitDefEqProofs [encL, ha, hb]
  by_cases hc : (30 : Int) < c.length
  · simp -implicitDefEqProofs [encL, ha, hb, hc]
  have ha2 : a.length ≤ 30 := by omega
  have hb2 : b.length ≤ 30 := by omega
  have hc2 : c.length ≤ 30 := by omega
  have l1 := bothL_len a b
  have l2 := lessL_len a b
  have l3 := plainL_len a
  have l4 := plainL_len (bothL a b ++ lessL a b)
  have e1 := parts_apart a b
  have e2 := parts_union a b
  have e3 := parts_size a b
  have e4 := parts_inside a b c
  have e5 := parts_meet a b
  have s1 := sizeL_plainL (bothL a b)
  have s2 := sizeL_plainL (lessL a b)
  have s3 := sizeL_plainL a
  have s4 := keysOf_le (fun k => hasK (bothL a b) k) 1000
  have s5 := keysOf_le (fun k => hasK (lessL a b) k) 1000
  rw [plainL_bothL] at s1
  rw [plainL_lessL] at s2
  have w : IntKind.i64.wrap (sizeL (bothL a b) + sizeL (lessL a b)) = sizeL (plainL a) := by rw [wrap_i64 (by omega) (by omega), e3]
  simp -implicitDefEqProofs [encL, ha, hb, hc]
  refine callQ_p (keysBoth_ok a b (by omega) (by omega)) (by simp [encL, avP]) ?_
  simp -implicitDefEqProofs []
  refine callQ_p (keysLess_ok a b (by omega) (by omega)) (by simp [encL, avP]) ?_
  simp -implicitDefEqProofs []
  refine callQ_p (keysMeet_ok (bothL a b) (lessL a b) (by omega) (by omega)) (by simp [encL, avP]) ?_
  rw [e1]
  simp -implicitDefEqProofs []
  refine callQ_p (keysUnion_ok (bothL a b) (lessL a b) (by omega)) (by simp [encL, avP]) ?_
  rw [e2]
  simp -implicitDefEqProofs []
  refine callQ_p (keysPlain_ok a (by omega)) (by simp [encL, avP]) ?_
  simp -implicitDefEqProofs []
  refine callQ_p (refSame_ok (plainL a) (plainL a) (by omega) (by omega)) (by simp [encL, avP]) ?_
  simp -implicitDefEqProofs []
  refine callQ_p (keysSize_ok (bothL a b) (by omega)) (by simp [encL, avP]) ?_
  rw [plainL_bothL]
  simp -implicitDefEqProofs []
  refine callQ_p (keysSize_ok (lessL a b) (by omega)) (by simp [encL, avP]) ?_
  rw [plainL_lessL]
  simp -implicitDefEqProofs [w]
  refine callQ_p (keysSize_ok a (by omega)) (by simp [encL, avP]) ?_
  simp -implicitDefEqProofs []
  refine callQ_p (keysInside_ok c (bothL a b) (by omega) (by omega)) (by simp [encL, avP]) ?_
  rw [e4]
  simp -implicitDefEqProofs []
  refine callQ_p (keysInside_ok c a (by omega) (by omega)) (by simp [encL, avP]) ?_
  have hlast : (meetL a b = (decide (0 < (bothL a b).length))) := by
    rw [e5]; cases bothL a b <;> simp
  have hpos : decide ((0 : Int) < (bothL a b).length) = decide (0 < (bothL a b).length) := by
    rw [Bool.eq_iff_iff, decide_eq_true_eq, decide_eq_true_eq]; omega
  cases hca : insideL c a
  · simp -implicitDefEqProofs []
    refine callQ_p (keysMeet_ok a b (by omega) (by omega)) (by simp [encL, avP]) ?_
    rw [hlast]
    simp -implicitDefEqProofs [encL]
  · simp -implicitDefEqProofs []
    refine callQ_p (keysInside_ok c b (by omega) (by omega)) (by simp [encL, avP]) ?_
    cases hcb : insideL c b
    · simp -implicitDefEqProofs []
      refine callQ_p (keysMeet_ok a b (by omega) (by omega)) (by simp [encL, avP]) ?_
      rw [hlast]
      simp -implicitDefEqProofs [encL]
    · simp -implicitDefEqProofs []
      refine callQ_p (keysMeet_ok a b (by omega) (by omega)) (by simp [encL, avP]) ?_
      rw [hlast]
      simp -implicitDefEqProofs [encL]
theorem keysParts_ok (a b c : List Spn) : PCall Try.prog 5 [.sl .no (a.map encSpn), .sl .no (b.map encSpn), .sl .no (c.map encSpn)] (.bool true) := by
  rw [encL_spn, encL_spn, encL_spn]
  exact keysParts_core _ _ _
end Go.Proofs

/- The statement KeysTwo: its function hands back true. -/
namespace Go.Proofs
open Go Go.RowKit Go.Am

def boolQ (f : Nat → Bool) (n : Nat) (k : Nat) : Bool := decide (k < n) && f k
theorem boolQ_zero (f : Nat → Bool) : setA (boolQ f 0) = setA fun _ => false := setA_congr fun k _ => by simp [boolQ]
theorem boolQ_all (f : Nat → Bool) : setA (boolQ f 1000) = setA f := setA_congr fun k hk => by simp [boolQ, hk]
theorem boolQ_put (f : Nat → Bool) {n : Nat} (hn : n < 1000) {v : Bool} (hv : f n = v) : List.take n (setA (boolQ f n)) ++ .bool v :: List.drop (n + 1) (setA (boolQ f n)) = setA (boolQ f (n + 1)) := by
  rw [setA_put _ hn]
  refine setA_congr fun k _ => ?_
  by_cases h : k = n
  · subst h
    rw [if_pos rfl]
    simp [boolQ, hv]
  · rw [if_neg h]
    simp only [boolQ]
    have e : decide (k < n) = decide (k < n + 1) := by
      rw [Bool.eq_iff_iff, decide_eq_true_eq, decide_eq_true_eq]; omega
    rw [e]

def insQ (f : Nat → Bool) (n : Nat) : Bool := (List.range n).all fun k => !f k
theorem insQ_succ (f : Nat → Bool) (n : Nat) : insQ f (n + 1) = (insQ f n && !f n) := by
  simp [insQ, List.range_succ]
theorem meet_sets (a b : List Sp) : meetL a b = meetB (fun k => hasK a k) (fun k => hasK b k) := by
  rw [Bool.eq_iff_iff, meetL_iff, meetB_iff]
theorem inside_sets (a b : List Sp) : insideL a b = insQ (fun k => hasK a k && !hasK b k) 1000 := by
  rw [Bool.eq_iff_iff, insideL_iff]
  simp only [insQ, List.all_eq_true, List.mem_range, Bool.not_eq_true', Bool.and_eq_false_iff, Bool.not_eq_false']
  constructor
  · intro h k hk
    cases ha : hasK a k
    · exact .inl rfl
    · exact .inr (by rw [h k hk ha])
  · intro h k hk ha
    rcases h k hk with h | h
    · rw [ha] at h; cases h
    · exact h

set_option maxHeartbeats 2000000 in
theorem keysTwo_core (a b : List Sp) : PCall Try.prog 4 [encL a, encL b] (.bool true) := by
  refine PCall.run hb4 ok4 (by simp) (pures2 (pure_encL a) (pure_encL b)) (.bool _) ?_
  simp -implicitDefEqProofs []
  refine callQ_p alive4_ok (by simp) ?_
  by_cases ha : (40 : Int) < a.length
  · simp -implicitDefEqProofs [encL, ha]
  by_cases hb : (40 : Int) < b.length
  · simp -implicitDefEqProofs [encL, ha, hb]
  have ha2 : a.length ≤ 40 := by omega
  have hb2 : b.length ≤ 40 := by omega
  simp -implicitDefEqProofs [encL, ha, hb]
  refine callQ_p (refOf_ok a (by omega)) (by simp [encL, avP]) ?_
  simp -implicitDefEqProofs []
  refine callQ_p (refOf_ok b (by omega)) (by simp [encL, avP]) ?_
  have p1 : plainL (a ++ b) = plainOf fun k => hasK a k || hasK b k := plainL_app a b
  have p2 : bothL a b = plainOf fun k => hasK a k && hasK b k := bothL_plain a b
  have p3 : lessL a b = plainOf fun k => hasK a k && !hasK b k := lessL_plain a b
  have p4 := meet_sets a b
  have p5 := inside_sets a b
  have q1 := plainL_len (a ++ b)
  have q2 := bothL_len a b
  have q3 := lessL_len a b
  generalize hf : (fun k : Nat => hasK a k) = f at p4 ⊢
  generalize hg : (fun k : Nat => hasK b k) = g at p4 ⊢
  have ef : ∀ k : Nat, hasK a k = f k := fun k => by rw [← hf]
  have eg : ∀ k : Nat, hasK b k = g k := fun k => by rw [← hg]
  simp only [ef, eg] at p1 p2 p3 p5
  have r1 : (plainOf fun k => f k || g k).length ≤ 1000000 := by rw [← p1]; omega
  have r2 : (plainOf fun k => f k && g k).length ≤ 1000000 := by rw [← p2]; omega
  have r3 : (plainOf fun k => f k && !g k).length ≤ 1000000 := by rw [← p3]; omega
  simp -implicitDefEqProofs [-List.reduceReplicate, setA_zero, H.nil]
  refine run_loop (fun n s h => ∃ i : Nat, n = 1000 - i ∧ i ≤ 1000 ∧ s 0 = encL a ∧ s 1 = encL b ∧ s 5 = setP f ∧ s 6 = setP g ∧ s 7 = .ptr 0 0 ∧ s 8 = .ptr 1 0 ∧ s 9 = .ptr 2 0 ∧ s 10 = .bool (insQ (fun k => f k && !g k) i) ∧ s 11 = .int .i64 i ∧ 2 < h.bn ∧
    h.bx 0 = some (setA (boolQ (fun k => f k || g k) i)) ∧ h.bx 1 = some (setA (boolQ (fun k => f k && g k) i)) ∧ h.bx 2 = some (setA (boolQ (fun k => f k && !g k) i))) ?_ 1000 ?_
  rotate_left
  · exact ⟨0, by simp [encL, insQ, boolQ_zero]⟩
  rintro n s h ⟨i, hn, hi, s0, s1, s5, s6, s7, s8, s9, s10, s11, b2, c0, c1, c2⟩ ih
  have b0 : 0 < h.bn := by omega
  have b1 : 1 < h.bn := by omega
  by_cases hlt : i < 1000
  · have hii : (i : Int) < 1000 := by omega
    have i1 := idxOf_nat (k := .i64) hlt
    have g1 := setA_at f hlt
    have g2 := setA_at g hlt
    have g3 : 1 ≤ 1000 - i := by omega
    have g4 : i + 1 ≤ 1000 := by omega
    have u1 := boolQ_put (fun k => f k || g k) hlt rfl
    have u2 := boolQ_put (fun k => f k && g k) hlt rfl
    have u3 := boolQ_put (fun k => f k && !g k) hlt rfl
    have u4 := insQ_succ (fun k => f k && !g k) i
    have u5 := setA_at (boolQ (fun k => f k && !g k) (i + 1)) hlt
    have u6 : boolQ (fun k => f k && !g k) (i + 1) i = (f i && !g i) := by simp [boolQ]
    rw [u6] at u5
    have hgo : ∀ (s1 : Slots) (h1 : H), s1 0 = encL a → s1 1 = encL b → s1 5 = setP f → s1 6 = setP g → s1 7 = .ptr 0 0 → s1 8 = .ptr 1 0 → s1 9 = .ptr 2 0 → s1 10 = .bool (insQ (fun k => f k && !g k) (i + 1)) → s1 11 = .int .i64 (i + 1 : Nat) → 2 < h1.bn →
      h1.bx 0 = some (setA (boolQ (fun k => f k || g k) (i + 1))) → h1.bx 1 = some (setA (boolQ (fun k => f k && g k) (i + 1))) → h1.bx 2 = some (setA (boolQ (fun k => f k && !g k) (i + 1))) →
      Run Try.prog false [.lp c4_l16, .blk 0, .c (.seq (.reg c4_r17) .ret)] (retQ [.t 4] fun r' h1 => Am.wk r' = .bool true) s1 h1 := fun s1 h1 e0 e1 e5 e6 e7 e8 e9 e10 e11 eb d0 d1 d2 =>
      ih (1000 - (i + 1)) _ _ (by omega) ⟨i + 1, rfl, by omega, e0, e1, e5, e6, e7, e8, e9, e10, e11, eb, d0, d1, d2⟩
    cases hfi : f i <;> cases hgi : g i <;> cases hin : insQ (fun k => f k && !g k) i <;> simp only [hfi, hgi, hin, Bool.or_false, Bool.or_true, Bool.and_true, Bool.and_false, Bool.not_true, Bool.not_false] at g1 g2 u1 u2 u3 u4 u5 s10 <;>
    · simp -implicitDefEqProofs [s5, s6, s7, s8, s9, s10, s11, hii, setP, g1, g2, g3, g4, show i + 1 ≤ min i 1000 + (1 + (999 - i)) by omega, b0, b1, b2, c0, c1, c2, u1, u2, u3, u5, inc_i64 hlt (by omega), -Int.natCast_add]
      exact hgo _ _ (by simp [s0]) (by simp [s1]) (by simp [s5, setP]) (by simp [s6, setP]) (by simp [s7]) (by simp [s8]) (by simp [s9]) (by simp [u4]) (by simp) (by simpa using b2) (by simp) (by simp) (by simp)
  · obtain rfl : i = 1000 := by omega
    rw [boolQ_all] at c0 c1 c2
    simp -implicitDefEqProofs [s0, s1, s11, encL]
    refine callQ_p (keysUnion_ok a b (by omega)) (by simp [encL, avP]) ?_
    rw [p1]
    simp -implicitDefEqProofs [s7]
    refine callQ_s (refPlainB_ok _ b0 c0) (by simp) ?_
    simp -implicitDefEqProofs []
    refine callQ_p (refSame_ok (plainOf fun k => f k || g k) (plainOf fun k => f k || g k) r1 r1) (by simp [encL, avP]) ?_
    simp -implicitDefEqProofs [s0, s1]
    refine callQ_p (keysBoth_ok a b (by omega) (by omega)) (by simp [encL, avP]) ?_
    rw [p2]
    simp -implicitDefEqProofs [s8]
    refine callQ_s (refPlainB_ok _ b1 c1) (by simp) ?_
    simp -implicitDefEqProofs []
    refine callQ_p (refSame_ok (plainOf fun k => f k && g k) (plainOf fun k => f k && g k) r2 r2) (by simp [encL, avP]) ?_
    simp -implicitDefEqProofs [s0, s1]
    refine callQ_p (keysLess_ok a b (by omega) (by omega)) (by simp [encL, avP]) ?_
    rw [p3]
    simp -implicitDefEqProofs [s9]
    refine callQ_s (refPlainB_ok _ b2 c2) (by simp) ?_
    simp -implicitDefEqProofs []
    refine callQ_p (refSame_ok (plainOf fun k => f k && !g k) (plainOf fun k => f k && !g k) r3 r3) (by simp [encL, avP]) ?_
    simp -implicitDefEqProofs [s0, s1]
    refine callQ_p (keysMeet_ok a b (by omega) (by omega)) (by simp [encL, avP]) ?_
    rw [p4]
    simp -implicitDefEqProofs [s5, s6]
    refine callQ_p (refMeet_ok f g) (by simp [setP, wk_setA]) ?_
    simp -implicitDefEqProofs [s0, s1]
    refine callQ_p (keysInside_ok a b (by omega) (by omega)) (by simp [encL, avP]) ?_
    rw [p5]
    simp -implicitDefEqProofs [s10]
theorem keysTwo_ok (a b : List Spn) : PCall Try.prog 4 [.sl .no (a.map encSpn), .sl .no (b.map encSpn)] (.bool true) := by
  rw [encL_spn, encL_spn]
  exact keysTwo_core _ _
end Go.Proofs

/- Arguments of a law: from their readings to values. -/
namespace Go.Proofs
open Go Go.RowKit Go.Am

theorem sh_one {s : Sh} {a : AV} (h : s.is a) : isL [s] [a] := by
  simp only [isL]
  exact ⟨a, [], rfl, h, rfl⟩
theorem sl_is {α : Type} {f : α → List AV} {sh : List Sh} {wf : α → Prop} (hf : ∀ vs, isL sh vs → ∃ x, vs = f x ∧ wf x) {v : AV} (h : (Sh.sl sh).is v) : ∃ l : List α, v = .sl .no (l.map f) ∧ l.length ≤ maxLen ∧ ∀ x ∈ l, wf x := by
  obtain ⟨l, e, h1, h2⟩ := isL_sl hf (sh_one h)
  simp at e
  exact ⟨l, e, h1, h2⟩
def shItem : List Sh := [.int .i64] ++ [.int .i64] ++ [.int .i64] ++ [.int .i64] ++ [.str] ++ [.sl [.int .u64]]
def Item.wf (x : Item) : Prop := inI x.kind ∧ inI x.n ∧ inI x.most ∧ inI x.x ∧ x.s.size ≤ maxLen ∧ x.l.length ≤ maxLen ∧ ∀ w ∈ x.l, w < 18446744073709551616
theorem isL_encItem {vs : List AV} (h : isL shItem vs) : ∃ x : Item, vs = encItm x ∧ x.wf := by
  unfold shItem at h
  obtain ⟨vs, v5, rfl, h, h5⟩ := isL_app h
  obtain ⟨vs, v4, rfl, h, h4⟩ := isL_app h
  obtain ⟨vs, v3, rfl, h, h3⟩ := isL_app h
  obtain ⟨vs, v2, rfl, h, h2⟩ := isL_app h
  obtain ⟨vs, v1, rfl, h, h1⟩ := isL_app h
  obtain ⟨u0, rfl, w0⟩ := isL_encN h
  obtain ⟨u1, rfl, w1⟩ := isL_encN h1
  obtain ⟨u2, rfl, w2⟩ := isL_encN h2
  obtain ⟨u3, rfl, w3⟩ := isL_encN h3
  obtain ⟨_, rfl, u4, rfl, w4⟩ := isL_one h4
  obtain ⟨u5, rfl, w5⟩ := isL_sl (fun vs h => isL_w64 h) h5
  refine ⟨⟨u0, u1, u2, u3, u4, u5⟩, ?_, w0, w1, w2, w3, w4, w5⟩
  simp [encItm, encN]

section
variable {H : Type} {enc : TypeId × Value → H} {P : Program} {w : World} {spare : Nat → Bool} {held : Bool}
/-- An argument of several cells. -/
theorem ent_agg {t : TypeId} {C : Array Value} {x : DataW H} {ps : List MemPlace} {d : Nat} {sh : List Sh} (h : DataW.Trod enc P w 0 spare held t (.agg C) x ps) (hc : shT P d t = some sh) : ∃ vs, isL sh vs ∧ Rep w (G.bare (roW w)) (.agg vs) (.agg C) := by
  obtain ⟨fuel, h⟩ := h
  obtain ⟨vs, h1, h2⟩ := ent fuel d t _ _ _ h hc
  refine ⟨vs, h1, Rep.ofAgg (RepC.mk (by simpa [Value.cells] using h2.1) fun k v hk => ?_)⟩
  obtain ⟨V, q1, q2, q3⟩ := h2.2 k v hk
  exact ⟨V, by simpa [Value.cells] using q1, q2, q3⟩
inductive RepV (w : World) (g : G) : List AV → List Value → Prop where
  | nil : RepV w g [] []
  | cons {a : AV} {v : Value} {l : List AV} {vs : List Value} : Rep w g a v → RepV w g l vs → RepV w g (a :: l) (v :: vs)
theorem RepV.get {w : World} {g : G} {l : List AV} {vs : List Value} (h : RepV w g l vs) : ∃ hl : l.length = vs.length, ∀ k (hk : k < l.length), Rep w g l[k] (vs[k]'(by omega)) := by
  induction h with
  | nil => exact ⟨rfl, fun k hk => by simp at hk⟩
  | cons hv _ ih =>
    obtain ⟨hl, ih⟩ := ih
    refine ⟨by simp [hl], fun k hk => ?_⟩
    cases k with
    | zero => exact hv
    | succ k => exact ih k (by simpa using hk)
theorem RepV.toA {w : World} {g : G} {l : List AV} {vs : List Value} (h : RepV w g l vs) : RepA w g l vs.toArray := by
  obtain ⟨hl, h⟩ := h.get
  exact ⟨by simpa using hl, fun k hk => by simpa using h k hk⟩
end
end Go.Proofs

/- Which programs, footprints, classes and catalogues there may be: the document's answer. -/
namespace Go.Proofs
open Go Go.RowKit Go.Am

def mayKey (k : KeyT) (args : Int) : Bool := decide (-1 ≤ k.arg) && decide (k.arg < args) && decide (0 ≤ k.base) && decide (k.base ≤ 900)

theorem pureKey (k : KeyT) : PureV (.agg (encKeyT k)) := .agg (pure_encKeyT k)

theorem refMayKey_ok (k : KeyT) (args : Int) : PCall Try.prog 50 [.agg (encKeyT k), .int .i64 args] (.bool (mayKey k args)) := by
  refine PCall.run hb50 ok50 (by simp) (pures_cons (pureKey k) (pures1 (.int _ _))) (.bool _) ?_
  simp (maxSteps := 2000000) +contextual -implicitDefEqProofs [↓gdL_T, -Int.not_lt, -Int.not_le, -Nat.not_lt, -Nat.not_le, encKeyT, mayKey]

def isReg (n : Int) : Bool := !decide (n < 0) && !decide (3 < n)
def keyNone (k : KeyT) : Bool := decide (k.arg = 0 ∧ k.base = 0)
/-- May an instruction be? -/
def oneInst (x : Inst) (args : Int) : Bool :=
  if x.op = 1 ∨ x.op = 2 then isReg x.a && decide (x.x = 0) && decide (x.b = 0) && decide (x.c = 0) && keyNone x.l && mayKey x.k args
  else if x.op = 3 then decide (x.a = 0) && decide (x.x = 0) && decide (x.b = 0) && decide (x.c = 0) && keyNone x.l && mayKey x.k args
  else if x.op = 4 then isReg x.a && decide (x.x = 0) && decide (x.b = 0) && decide (x.c = 0) && mayKey x.k args && mayKey x.l args
  else if x.op = 5 ∨ x.op = 8 then isReg x.a && decide (x.b = 0) && decide (x.c = 0) && keyNone x.k && keyNone x.l
  else if x.op = 6 ∨ x.op = 7 then isReg x.a && decide (x.x = 0) && isReg x.b && isReg x.c && keyNone x.k && keyNone x.l
  else false

theorem pureInst (x : Inst) : PureV (.agg (encInst x)) := .agg (pure_encInst x)

end Go.Proofs
