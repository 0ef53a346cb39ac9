/- What the functions that the statement reaches do: their contracts; and what follows of it. -/
import Derived.Test.YtaepkklbckgbhaaSKeysSame5
/- The document's example of sets of keys; the statement KeysSets: its function hands back true. -/
namespace Go.Proofs
open Go Go.RowKit Go.Am

def spP (s : Spn) : Sp := (s.lo, s.hi)
theorem encL_spn (l : List Spn) : AV.sl .no (l.map encSpn) = encL (l.map spP) := by
  rw [encL, List.map_map]; rfl

theorem alive4_ok : PCall Try.prog 11 [] (.bool true) := by
  refine PCall.run hb11 ok11 (by simp) (fun v hv => by cases hv) (.bool _) ?_
  simp -implicitDefEqProofs []
  refine callQ_p (keysPlain_ok [(5, 7), (1, 2), (3, 4)] (by simp)) (by simp [encL, avP]) ?_
  rw [alive_a]
  simp -implicitDefEqProofs []
  refine callQ_p (keysLess_ok [(1, 9)] [(3, 4)] (by simp) (by simp)) (by simp [encL, avP]) ?_
  rw [alive_b]
  simp -implicitDefEqProofs [encL]
  refine callQ_p (refSame_ok [(1, 7)] [(1, 7)] (by simp) (by simp)) (by simp [encL, avP]) ?_
  simp -implicitDefEqProofs []
  refine callQ_p (refSame_ok [(1, 2), (5, 9)] [(1, 2), (5, 9)] (by simp) (by simp)) (by simp [encL, avP]) ?_
  simp -implicitDefEqProofs []

theorem keys_at (f : Nat → Bool) {i : Nat} (hi : i < 1000) (hf : f i = true) : ∃ h : (keysOf f i).length < (keysOf f 1000).length, (keysOf f 1000)[(keysOf f i).length] = (i : Int) ∧ (keysOf f (i + 1)).length = (keysOf f i).length + 1 := by
  obtain ⟨h1, h2⟩ := keysOf_at f hi hf
  refine ⟨h1, ?_, by rw [keysOf_succ, if_pos hf]; simp⟩
  rw [List.getElem?_eq_getElem h1] at h2
  exact Option.some.inj h2

set_option maxHeartbeats 2000000 in
theorem keysSets_core (l : List Sp) (k : Int) : PCall Try.prog 7 [encL l, .int .i64 k] (.bool true) := by
  refine PCall.run hb7 ok7 (by simp) (pures2 (pure_encL l) (.int _ _)) (.bool _) ?_
  simp -implicitDefEqProofs []
  refine callQ_p alive4_ok (by simp) ?_
  by_cases hl : (60 : Int) < l.length
  · simp -implicitDefEqProofs [encL, hl]
  · have hl2 : l.length ≤ 60 := by omega
    simp -implicitDefEqProofs [encL, hl]
    refine callQ_p (refOf_ok l (by omega)) (by simp [encL, avP]) ?_
    simp -implicitDefEqProofs []
    refine callQ_p (keysAll_ok l (by omega)) (by simp [encL, avP]) ?_
    rw [allL_plainL]
    have hsz := sizeL_plainL l
    have hpl : plainL l = plainOf fun k => hasK l k := rfl
    have hhas : hasK l k = (decide (0 ≤ k) && decide (k ≤ 999) && hasK l k) := by
      rw [Bool.eq_iff_iff, Bool.and_eq_true, Bool.and_eq_true, decide_eq_true_eq, decide_eq_true_eq]
      exact ⟨fun h => ⟨hasK_range h, h⟩, fun h => h.2⟩
    generalize hf : (fun k : Nat => hasK l k) = f at hsz hpl ⊢
    have hkl := keysOf_le f 1000
    have hlen : (plainOf f).length ≤ 1000000 := by rw [← hpl]; have := plainL_len l; omega
    simp -implicitDefEqProofs []
    refine run_loop (fun n s h => ∃ i : Nat, n = 1000 - i ∧ i ≤ 1000 ∧ s 0 = encL l ∧ s 1 = .int .i64 k ∧ s 5 = setP f ∧ s 6 = .sl .no ((keysOf f 1000).map encN) ∧ s 7 = .int .i64 (keysOf f i).length ∧ s 8 = .int .i64 i) ?_ 1000 ?_
    rotate_left
    · exact ⟨0, by simp [encL, keysOf]⟩
    rintro n s h ⟨i, hn, hi, s0, s1, s5, s6, s7, s8⟩ ih
    by_cases hlt : i < 1000
    · have hii : (i : Int) < 1000 := by omega
      have i1 := idxOf_nat (k := .i64) hlt
      have g1 := setA_at f hlt
      cases hfi : f i with
      | false =>
        rw [hfi] at g1
        have e : keysOf f (i + 1) = keysOf f i := by rw [keysOf_succ, hfi]; simp
        simp -implicitDefEqProofs [s5, s8, hii, setP, g1, show 1 ≤ 1000 - i by omega, inc_i64 hlt (by omega), -Int.natCast_add]
        exact ih (1000 - (i + 1)) _ _ (by omega) ⟨i + 1, rfl, by omega, by simp [s0], by simp [s1], by simp [s5, setP], by simp [s6], by simp [s7, e], by simp⟩
      | true =>
        rw [hfi] at g1
        obtain ⟨h1, h2, h3⟩ := keys_at f hlt hfi
        have i2 := idxOf_nat (k := .i64) h1
        have h4 : ¬ (keysOf f 1000).length ≤ (keysOf f i).length := by omega
        have h5 : (keysOf f 1000).map encN ≠ [] := by intro e; simp at e; rw [e] at h1; simp at h1
        simp -implicitDefEqProofs [s5, s6, s7, s8, hii, setP, g1, h1, h2, h4, encN, show 1 ≤ 1000 - i by omega, inc_i64 hlt (by omega), inc_i64 (show (keysOf f i).length < 1000 by omega) (by omega), -Int.natCast_add]
        exact ih (1000 - (i + 1)) _ _ (by omega) ⟨i + 1, rfl, by omega, by simp [s0], by simp [s1], by simp [s5, setP], by simp [s6], by simp [h3], by simp⟩
    · obtain rfl : i = 1000 := by omega
      by_cases h0 : 0 ≤ k
      · by_cases h9 : k ≤ 999
        · obtain ⟨m, rfl⟩ : ∃ m : Nat, k = m := ⟨k.toNat, by omega⟩
          have hm : m < 1000 := by omega
          have i1 := idxOf_nat (k := .i64) hm
          have g1 := setA_at f hm
          have hone := plainL_one (m : Int)
          rw [if_pos ⟨h0, h9⟩] at hone
          have h10 : ¬ (999 : Int) < m := by omega
          have h11 : ¬ (m : Int) < 0 := by omega
          have hfm : hasK l (m : Int) = f m := by rw [← hf]
          have h12 : (m : Int) < 1000 := by omega
          simp -implicitDefEqProofs [s1, s5, s8, h9, setP, g1, h12, show 1 ≤ 1000 - m by omega]
          refine callQ_p (keysOne_ok m) (by simp) ?_
          rw [hone]
          simp -implicitDefEqProofs [s0, s1, s6, s7, h9, h10, h11, encL, avP]
          refine callQ_p (keysSize_ok l (by omega)) (by simp [encL, avP]) ?_
          rw [hsz]
          simp -implicitDefEqProofs [s7, s0, s1]
          refine callQ_p (keysHas_ok l m (by omega)) (by simp [encL, avP]) ?_
          rw [hfm]
          simp -implicitDefEqProofs [s0]
          refine callQ_p (keysPlain_ok l (by omega)) (by simp [encL, avP]) ?_
          rw [hpl]
          simp -implicitDefEqProofs [s5]
          refine callQ_p (refPlain_ok f) (by simp [setP, wk_setA]) ?_
          simp -implicitDefEqProofs []
          refine callQ_p (refSame_ok _ _ hlen hlen) (by simp [encL, avP]) ?_
          simp -implicitDefEqProofs []
        · have hone := plainL_one k
          rw [if_neg (fun h => h9 h.2)] at hone
          rw [show decide (k ≤ 999) = false from decide_eq_false h9, Bool.and_false, Bool.false_and] at hhas
          have h10 : (999 : Int) < k := by omega
          have h11 : ¬ k < 0 := by omega
          simp -implicitDefEqProofs [s1, s8, h0, h9]
          refine callQ_p (keysOne_ok k) (by simp) ?_
          rw [hone]
          simp -implicitDefEqProofs [s0, s1, s6, s7, h0, h9, h10, h11, encL]
          refine callQ_p (keysSize_ok l (by omega)) (by simp [encL, avP]) ?_
          rw [hsz]
          simp -implicitDefEqProofs [s7, s0, s1]
          refine callQ_p (keysHas_ok l k (by omega)) (by simp [encL, avP]) ?_
          rw [hhas]
          simp -implicitDefEqProofs [s0]
          refine callQ_p (keysPlain_ok l (by omega)) (by simp [encL, avP]) ?_
          rw [hpl]
          simp -implicitDefEqProofs [s5]
          refine callQ_p (refPlain_ok f) (by simp [setP, wk_setA]) ?_
          simp -implicitDefEqProofs []
          refine callQ_p (refSame_ok _ _ hlen hlen) (by simp [encL, avP]) ?_
          simp -implicitDefEqProofs []
      · have hone := plainL_one k
        rw [if_neg (fun h => h0 h.1)] at hone
        rw [show decide (0 ≤ k) = false from decide_eq_false h0, Bool.false_and, Bool.false_and] at hhas
        have h11 : k < 0 := by omega
        simp -implicitDefEqProofs [s1, s8, h0]
        refine callQ_p (keysOne_ok k) (by simp) ?_
        rw [hone]
        simp -implicitDefEqProofs [s0, s1, s6, s7, h0, h11, encL]
        refine callQ_p (keysSize_ok l (by omega)) (by simp [encL, avP]) ?_
        rw [hsz]
        simp -implicitDefEqProofs [s7, s0, s1]
        refine callQ_p (keysHas_ok l k (by omega)) (by simp [encL, avP]) ?_
        rw [hhas]
        simp -implicitDefEqProofs [s0]
        refine callQ_p (keysPlain_ok l (by omega)) (by simp [encL, avP]) ?_
        rw [hpl]
        simp -implicitDefEqProofs [s5]
        refine callQ_p (refPlain_ok f) (by simp [setP, wk_setA]) ?_
        simp -implicitDefEqProofs []
        refine callQ_p (refSame_ok _ _ hlen hlen) (by simp [encL, avP]) ?_
        simp -implicitDefEqProofs []
theorem keysSets_ok (l : List Spn) (k : Int) : PCall Try.prog 7 [.sl .no (l.map encSpn), .int .i64 k] (.bool true) := by
  rw [encL_spn]
  exact keysSets_core _ k
end Go.Proofs

/- The statements KeysParts, KeysTwo: their functions hand back true. -/
namespace Go.Proofs
open Go Go.RowKit Go.Am

theorem pures3 {a b c : AV} (ha : PureV a) (hb : PureV b) (hc : PureV c) : ∀ v ∈ [a, b, c], PureV v := pures_cons ha (pures2 hb hc)
theorem bothL_len (a b : List Sp) : (bothL a b).length ≤ 500 := plainL_len _
theorem lessL_len (a b : List Sp) : (lessL a b).length ≤ 500 := plainL_len _

set_option maxHeartbeats 2000000 in
theorem keysParts_core (a b c : List Sp) : PCall Try.prog 5 [encL a, encL b, encL c] (.bool true) := by
  refine PCall.run hb5 ok5 (by simp) (pures3 (pure_encL a) (pure_encL b) (pure_encL c)) (.bool _) ?_
  simp -implicitDefEqProofs []
  refine callQ_p alive4_ok (by simp) ?_
  have fin : ∀ (s : Slots) (h : H), Am.wk (AV.bool true) = .bool true := fun _ _ => rfl
  by_cases ha : (30 : Int) < a.length
  · simp -implicitDefEqProofs [encL, ha]
  by_cases hb : (30 : Int) < b.length
  · simp -implicitDefEqProofs [encL, ha, hb]
  by_cases hc : (30 : Int) < c.length
  · simp -implicitDefEqProofs [encL, ha, hb, hc]
  have ha2 : a.length ≤ 30 := by omega
  have hb2 : b.length ≤ 30 := by omega
  have hc2 : c.length ≤ 30 := by omega
  have l1 := bothL_len a b
  have l2 := lessL_len a b
  have l3 := plainL_len a
  have l4 := plainL_len (bothL a b ++ lessL a b)
  have e1 := parts_apart a b
  have e2 := parts_union a b
  have e3 := parts_size a b
  have e4 := parts_inside a b c
  have e5 := parts_meet a b
  have s1 := sizeL_plainL (bothL a b)
  have s2 := sizeL_plainL (lessL a b)
  have s3 := sizeL_plainL a
  have s4 := keysOf_le (fun k => hasK (bothL a b) k) 1000
  have s5 := keysOf_le (fun k => hasK (lessL a b) k) 1000
  rw [plainL_bothL] at s1
  rw [plainL_lessL] at s2
  have w : IntKind.i64.wrap (sizeL (bothL a b) + sizeL (lessL a b)) = sizeL (plainL a) := by rw [wrap_i64 (by omega) (by omega), e3]
  simp -implicitDefEqProofs [encL, ha, hb, hc]
  refine callQ_p (keysBoth_ok a b (by omega) (by omega)) (by simp [encL, avP]) ?_
  simp -implicitDefEqProofs []
  refine callQ_p (keysLess_ok a b (by omega) (by omega)) (by simp [encL, avP]) ?_
  simp -implicitDefEqProofs []
  refine callQ_p (keysMeet_ok (bothL a b) (lessL a b) (by omega) (by omega)) (by simp [encL, avP]) ?_
  rw [e1]
  simp -implicitDefEqProofs []
  refine callQ_p (keysUnion_ok (bothL a b) (lessL a b) (by omega)) (by simp [encL, avP]) ?_
  rw [e2]
  simp -implicitDefEqProofs []
  refine callQ_p (keysPlain_ok a (by omega)) (by simp [encL, avP]) ?_
  simp -implicitDefEqProofs []
  refine callQ_p (refSame_ok (plainL a) (plainL a) (by omega) (by omega)) (by simp [encL, avP]) ?_
  simp -implicitDefEqProofs []
  refine callQ_p (keysSize_ok (bothL a b) (by omega)) (by simp [encL, avP]) ?_
  rw [plainL_bothL]
  simp -implicitDefEqProofs []
  refine callQ_p (keysSize_ok (lessL a b) (by omega)) (by simp [encL, avP]) ?_
  rw [plainL_lessL]
  simp -implicitDefEqProofs [w]
  refine callQ_p (keysSize_ok a (by omega)) (by simp [encL, avP]) ?_
  simp -implicitDefEqProofs []
  refine callQ_p (keysInside_ok c (bothL a b) (by omega) (by omega)) (by simp [encL, avP]) ?_
  rw [e4]
  simp -implicitDefEqProofs []
  refine callQ_p (keysInside_ok c a (by omega) (by omega)) (by simp [encL, avP]) ?_
  have hlast : (meetL a b = (decide (0 < (bothL a b).length))) := by
    rw [e5]; cases bothL a b <;> simp
  have hpos : decide ((0 : Int) < (bothL a b).length) = decide (0 < (bothL a b).length) := by
    rw [Bool.eq_iff_iff, decide_eq_true_eq, decide_eq_true_eq]; omega
  cases hca : insideL c a
  · simp -implicitDefEqProofs []
    refine callQ_p (keysMeet_ok a b (by omega) (by omega)) (by simp [encL, avP]) ?_
    rw [hlast]
    simp -implicitDefEqProofs [encL]
  · simp -implicitDefEqProofs []
    refine callQ_p (keysInside_ok c b (by omega) (by omega)) (by simp [encL, avP]) ?_
    cases hcb : insideL c b
    · simp -implicitDefEqProofs []
      refine callQ_p (keysMeet_ok a b (by omega) (by omega)) (by simp [encL, avP]) ?_
      rw [hlast]
      simp -implicitDefEqProofs [encL]
    · simp -implicitDefEqProofs []
      refine callQ_p (keysMeet_ok a b (by omega) (by omega)) (by simp [encL, avP]) ?_
      rw [hlast]
      simp -implicitDefEqProofs [encL]
theorem keysParts_ok (a b c : List Spn) : PCall Try.prog 5 [.sl .no (a.map encSpn), .sl .no (b.map encSpn), .sl .no (c.map encSpn)] (.bool true) := by
  rw [encL_spn, encL_spn, encL_spn]
  exact keysParts_core _ _ _
end Go.Proofs

/- The statement KeysSame: its function hands back true. -/
namespace Go.Proofs
open Go Go.RowKit Go.Am

theorem cellsEq_b (f g : Nat → Bool) : ∀ l : List Nat, cellsEq (List.replicate l.length .b) (l.map fun k => .bool (f k)) (l.map fun k => .bool (g k)) = some (l.all fun k => decide (f k = g k))
  | [] => rfl
  | k :: l => by
    rw [List.length_cons, List.replicate_succ, List.map_cons, List.map_cons, cellsEq, cellsEq_b f g l]
    rfl
theorem cellsEq_set (f g : Nat → Bool) : cellsEq (List.replicate 1000 .b) (setA f) (setA g) = some ((List.range 1000).all fun k => decide (f k = g k)) := by
  have := cellsEq_b f g (List.range 1000)
  rw [List.length_range] at this
  exact this
theorem take_setA (f : Nat → Bool) : List.take 1000 (setA f) = setA f := List.take_of_length_le (by rw [setA_len]; exact Nat.le_refl _)
theorem same_sets (a b : List Sp) : decide (plainL a = plainL b) = (List.range 1000).all fun k => decide (hasK a (k : Nat) = hasK b (k : Nat)) := by
  rw [Bool.eq_iff_iff, decide_eq_true_eq, plainL_same]
  simp only [List.all_eq_true, List.mem_range, decide_eq_true_eq]

set_option maxHeartbeats 2000000 in
theorem keysSame_core (a b : List Sp) (s : Sp) : PCall Try.prog 3 [encL a, encL b, .agg (avP s)] (.bool true) := by
  refine PCall.run hb3 ok3 (by simp) (pures3 (pure_encL a) (pure_encL b) (.agg (pure_avP s))) (.bool _) ?_
  simp -implicitDefEqProofs [avP]
  refine callQ_p alive4_ok (by simp) ?_
  by_cases ha : (40 : Int) < a.length
  · simp -implicitDefEqProofs [encL, ha]
  by_cases hb : (40 : Int) < b.length
  · simp -implicitDefEqProofs [encL, ha, hb]
  have ha2 : a.length ≤ 40 := by omega
  have hb2 : b.length ≤ 40 := by omega
  have q1 := plainL_len a
  have q2 := plainL_len b
  simp -implicitDefEqProofs [encL, ha, hb]
  refine run_dreg c3_d6 ?_
  have hs := same_sets a b
  have hce := cellsEq_set (fun k => hasK a k) (fun k => hasK b k)
  generalize hf : (fun k : Nat => hasK a k) = f at hce ⊢
  generalize hg : (fun k : Nat => hasK b k) = g at hce ⊢
  have ef : ∀ k : Nat, hasK a k = f k := fun k => by rw [← hf]
  have eg : ∀ k : Nat, hasK b k = g k := fun k => by rw [← hg]
  simp only [ef, eg] at hs hce
  generalize hv : ((List.range 1000).all fun k => decide (f k = g k)) = v at hs hce
  have o1 := refOf_ok a (by omega)
  have o2 := refOf_ok b (by omega)
  rw [hf] at o1
  rw [hg] at o2
  simp -implicitDefEqProofs []
  refine callD_p o1 (by simp [encL, avP]) ?_
  simp -implicitDefEqProofs [setP, take_setA]
  refine callD_p o2 (by simp [encL, avP]) ?_
  simp -implicitDefEqProofs [setP, take_setA, hce, -cellsEq, -List.reduceReplicate]
  refine run_dreg c3_d7 ?_
  simp -implicitDefEqProofs []
  refine lcallQ_p (keysPlain_ok a (by omega)) (by simp [encL, avP]) ?_
  simp -implicitDefEqProofs []
  refine lcallQ_p (keysPlain_ok b (by omega)) (by simp [encL, avP]) ?_
  simp -implicitDefEqProofs []
  refine lcallQ_p (refSame_ok (plainL a) (plainL b) (by omega) (by omega)) (by simp [encL, avP]) ?_
  rw [hs]
  simp -implicitDefEqProofs [H.nil]
  refine lcallQ_p (spanMay_ok s) (by simp [avP]) ?_
  have hm : mayS s = (decide (0 ≤ s.1) && decide (s.2 ≤ 999) && decide (s.1 ≤ s.2)) := by
    rw [Bool.eq_iff_iff, mayS_iff]
    simp only [Bool.and_eq_true, decide_eq_true_eq]
    omega
  rw [hm]
  by_cases h1 : 0 ≤ s.1
  · by_cases h2 : s.2 ≤ 999
    · by_cases h3 : s.1 ≤ s.2 <;> simp -implicitDefEqProofs [h1, h2, h3, H.nil]
    · simp -implicitDefEqProofs [h1, h2, H.nil]
  · simp -implicitDefEqProofs [h1, H.nil]
theorem keysSame_ok (a b : List Spn) (s : Spn) : PCall Try.prog 3 [.sl .no (a.map encSpn), .sl .no (b.map encSpn), .agg (encSpn s)] (.bool true) := by
  rw [encL_spn, encL_spn]
  exact keysSame_core _ _ (spP s)
end Go.Proofs

/- Arguments of a law: from their readings to values. -/
namespace Go.Proofs
open Go Go.RowKit Go.Am

theorem sh_one {s : Sh} {a : AV} (h : s.is a) : isL [s] [a] := by
  simp only [isL]
  exact ⟨a, [], rfl, h, rfl⟩
theorem sl_is {α : Type} {f : α → List AV} {sh : List Sh} {wf : α → Prop} (hf : ∀ vs, isL sh vs → ∃ x, vs = f x ∧ wf x) {v : AV} (h : (Sh.sl sh).is v) : ∃ l : List α, v = .sl .no (l.map f) ∧ l.length ≤ maxLen ∧ ∀ x ∈ l, wf x := by
  obtain ⟨l, e, h1, h2⟩ := isL_sl hf (sh_one h)
  simp at e
  exact ⟨l, e, h1, h2⟩
def shItem : List Sh := [.int .i64] ++ [.int .i64] ++ [.int .i64] ++ [.int .i64] ++ [.str] ++ [.sl [.int .u64]]
def Item.wf (x : Item) : Prop := inI x.kind ∧ inI x.n ∧ inI x.most ∧ inI x.x ∧ x.s.size ≤ maxLen ∧ x.l.length ≤ maxLen ∧ ∀ w ∈ x.l, w < 18446744073709551616
theorem isL_encItem {vs : List AV} (h : isL shItem vs) : ∃ x : Item, vs = encItm x ∧ x.wf := by
  unfold shItem at h
  obtain ⟨vs, v5, rfl, h, h5⟩ := isL_app h
  obtain ⟨vs, v4, rfl, h, h4⟩ := isL_app h
  obtain ⟨vs, v3, rfl, h, h3⟩ := isL_app h
  obtain ⟨vs, v2, rfl, h, h2⟩ := isL_app h
  obtain ⟨vs, v1, rfl, h, h1⟩ := isL_app h
  obtain ⟨u0, rfl, w0⟩ := isL_encN h
  obtain ⟨u1, rfl, w1⟩ := isL_encN h1
  obtain ⟨u2, rfl, w2⟩ := isL_encN h2
  obtain ⟨u3, rfl, w3⟩ := isL_encN h3
  obtain ⟨_, rfl, u4, rfl, w4⟩ := isL_one h4
  obtain ⟨u5, rfl, w5⟩ := isL_sl (fun vs h => isL_w64 h) h5
  refine ⟨⟨u0, u1, u2, u3, u4, u5⟩, ?_, w0, w1, w2, w3, w4, w5⟩
  simp [encItm, encN]

section
variable {H : Type} {enc : TypeId × Value → H} {P : Program} {w : World} {spare : Nat → Bool} {held : Bool}
/-- An argument of several cells. -/
theorem ent_agg {t : TypeId} {C : Array Value} {x : DataW H} {ps : List MemPlace} {d : Nat} {sh : List Sh} (h : DataW.Trod enc P w 0 spare held t (.agg C) x ps) (hc : shT P d t = some sh) : ∃ vs, isL sh vs ∧ Rep w (G.bare (roW w)) (.agg vs) (.agg C) := by
  obtain ⟨fuel, h⟩ := h
  obtain ⟨vs, h1, h2⟩ := ent fuel d t _ _ _ h hc
  refine ⟨vs, h1, Rep.ofAgg (RepC.mk (by simpa [Value.cells] using h2.1) fun k v hk => ?_)⟩
  obtain ⟨V, q1, q2, q3⟩ := h2.2 k v hk
  exact ⟨V, by simpa [Value.cells] using q1, q2, q3⟩
inductive RepV (w : World) (g : G) : List AV → List Value → Prop where
  | nil : RepV w g [] []
  | cons {a : AV} {v : Value} {l : List AV} {vs : List Value} : Rep w g a v → RepV w g l vs → RepV w g (a :: l) (v :: vs)
theorem RepV.get {w : World} {g : G} {l : List AV} {vs : List Value} (h : RepV w g l vs) : ∃ hl : l.length = vs.length, ∀ k (hk : k < l.length), Rep w g l[k] (vs[k]'(by omega)) := by
  induction h with
  | nil => exact ⟨rfl, fun k hk => by simp at hk⟩
  | cons hv _ ih =>
    obtain ⟨hl, ih⟩ := ih
    refine ⟨by simp [hl], fun k hk => ?_⟩
    cases k with
    | zero => exact hv
    | succ k => exact ih k (by simpa using hk)
theorem RepV.toA {w : World} {g : G} {l : List AV} {vs : List Value} (h : RepV w g l vs) : RepA w g l vs.toArray := by
  obtain ⟨hl, h⟩ := h.get
  exact ⟨by simpa using hl, fun k hk => by simpa using h k hk⟩
end
end Go.Proofs
