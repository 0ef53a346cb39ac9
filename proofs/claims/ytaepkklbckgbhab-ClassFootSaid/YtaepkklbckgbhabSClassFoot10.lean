/- What the functions that the statement reaches do: their contracts; and what follows of it. -/
import Derived.Test.YtaepkklbckgbhabSClassFoot9
import Derived.Test.YtaepkklbckgbhabSClassFoot2
import Derived.Test.YtaepkklbckgbhabSClassFoot6
import Derived.Test.YtaepkklbckgbhabSClassFoot4
/- The program's sets of keys: what isn't there, how many, all of them. -/
namespace Go.Proofs
open Go Go.RowKit Go.Am

theorem P_len (l : List Sp) : ∀ e ∈ l.map avP, e.length = 2 := avP_len

set_option maxHeartbeats 1000000 in
theorem others_ok (l : List Sp) (hp : isPlain l) (hl : l.length ≤ 500) : PCall Try.prog 78 [encL l] (encL (othersL l)) := by
  refine PCall.run hb78 ok78 (by simp) (pures1 (pure_encL l)) (pure_encL _) ?_
  simp -implicitDefEqProofs [encL]
  refine run_loop (fun n s h => ∃ (j : Nat) (k : Int) (t : Tok) (d : List Sp), n = l.length - j ∧ j ≤ l.length ∧ s 7 = encL l ∧ s 8 = .int .i64 l.length ∧ s 9 = .int .i64 j ∧ s 4 = .int .i64 k ∧ 0 ≤ k ∧ k ≤ 1000 ∧ d.length = j ∧ s 3 = .sl t (d.map avP) ∧ TLive h t d.length ∧ gaps l 0 = d ++ gaps (l.drop j) k) ?_ l.length ?_
  rotate_left
  · exact ⟨0, 0, .full, [], by simp [encL, TLive]⟩
  rintro n s h ⟨j, k, t, d, hn, hj, s7, s8, s9, s4, hk0, hk1, hd, s3, ht, hg⟩ ih
  rw [encL] at s7
  by_cases hlt : j < l.length
  · have i1 := idxOf_nat (k := .i64) hlt
    have ms := mayS_iff.1 (hp.1 _ (List.getElem_mem hlt))
    have w1 : IntKind.i64.wrap (l[j].1 - 1) = l[j].1 - 1 := wrap_i64 (by omega) (by omega)
    have w2 : IntKind.i64.wrap (l[j].2 + 1) = l[j].2 + 1 := wrap_i64 (by omega) (by omega)
    rw [List.drop_eq_getElem_cons hlt, gaps] at hg
    simp -implicitDefEqProofs [s3, s4, s7, s8, s9, hlt, avP, w1]
    refine appQ_tok (es2 := [avP (k, l[j].1 - 1)]) (by simpa using ht) (P_len d) (by simp [srcA, avP]) (by simp; omega) fun t' h' q1 q2 q3 q4 => ?_
    have hb' := q3.bx h.bn (by simp) (fun e => e)
    simp only [set_bx, if_true] at hb'
    simp -implicitDefEqProofs [s9, hb', q4, w2, inc_i64 hlt (by omega), -Int.natCast_add]
    refine ih (l.length - (j + 1)) _ _ (by omega) ⟨j + 1, l[j].2 + 1, t', d ++ [(k, l[j].1 - 1)], rfl, by omega, by simp [s7, encL], by simp [s8], by simp, by simp, by omega, by omega, by simp [hd], by simp, by simpa using q1, by rw [hg, List.append_assoc]; rfl⟩
  · obtain rfl : j = l.length := by omega
    rw [List.drop_length, gaps] at hg
    simp -implicitDefEqProofs [s3, s4, s8, s9]
    refine appQ_tok (es2 := [avP (k, 999)]) (by simpa using ht) (P_len d) (by simp [srcA, avP]) (by simp; omega) fun t' h' q1 q2 q3 q4 => ?_
    have e : d.map avP ++ [avP (k, 999)] = (gaps l 0).map avP := by rw [hg]; simp
    rw [e]
    have hgl : (gaps l 0).length ≤ 1000000 := by rw [hg]; simp; omega
    simp -implicitDefEqProofs []
    refine callQ_p (plainA_ok (gaps l 0) hgl) (by simp [encL, avP]) ?_
    simp -implicitDefEqProofs [wk_encL, othersL]
    rfl

def keysTo (lo k : Int) : List Int := (List.range (k - lo).toNat).map fun i => lo + (i : Nat)
theorem keysTo_succ {lo k : Int} (h : lo ≤ k) : keysTo lo (k + 1) = keysTo lo k ++ [k] := by
  have e : (k + 1 - lo).toNat = (k - lo).toNat + 1 := by omega
  simp only [keysTo, e, List.range_succ, List.map_append, List.map_cons, List.map_nil]
  congr 2
  omega
theorem keysTo_all (s : Sp) : keysTo s.1 (s.2 + 1) = keysS s := by
  have e : (s.2 + 1 - s.1).toNat = (s.2 - s.1 + 1).toNat := by omega
  simp only [keysTo, keysS, e]
theorem encN_len1 (l : List Int) : ∀ e ∈ l.map encN, e.length = 1 := fun e he => by
  obtain ⟨n, _, rfl⟩ := List.mem_map.1 he
  rfl

end Go.Proofs

/- The program's sets of keys: in common, without; do they meet, is the one inside the other? -/
namespace Go.Proofs
open Go Go.RowKit Go.Am

set_option maxHeartbeats 1000000 in
theorem appendSeq_ok (a b : List Sp) (ha : a.length ≤ 1000000) (hb : b.length ≤ 1000000) (hm : (meetsL a b).length ≤ 1000000) {h : H} {p q : Nat} (hp : p < h.bn) (hpc : h.bx p = some [encL a]) (hq : q < h.bn) (hqc : h.bx q = some [encL b]) :
    CallP Try.prog 115 [.sl .full [], .fn 116 [] [.ptr p 0, .ptr q 0]] h fun r h' => ∃ t, r = .sl t ((meetsL a b).map avP) ∧ HF h h' (fun _ => False) (fun _ => False) := by
  refine CallP.run hb115 ok115 (by simp) ?_
  simp -implicitDefEqProofs []
  generalize hS : (su _ 6 _ : Slots) = S
  have s2 : S 2 = .ptr h.bn 0 := by rw [← hS]; simp
  have s6 : S 6 = .fn 116 [] [.ptr p 0, .ptr q 0] := by rw [← hS]; simp
  clear hS
  let q0 : LoopA := ⟨S, [7], c115_x5, c115_y6, .ready, none⟩
  let I : List Sp → H → Prop := fun d h' => h.ln < h'.ln ∧ h'.lp h.ln = some q0 ∧ h.bn < h'.bn ∧ HF h h' (fun _ => False) (fun _ => False) ∧ ∃ t, h'.bx h.bn = some [.sl t (d.map avP)] ∧ TLive h' t d.length ∧ (∀ i, t = .own i → h.tn ≤ i)
  refine .rngf (Z := fun _ h1 => I (meetsL a b) h1 ∨ False) (F := 116) (first := []) (caps := [.ptr p 0, .ptr q 0]) rfl (by simpa using s6) (meets1_ok a b ha hb (l := h.ln) (p := p) (q := q) I (fun _ => False) (fun b => b = h.bn) (fun _ => True) (fun b e => by subst e; simp) ?_ ?_ ?_ ?_) ?_ ?_
  · rintro d h' ⟨_, _, i3, i4, _⟩
    exact ⟨⟨by omega, (i4.bx p hp fun e => e).trans hpc⟩, ⟨by omega, (i4.bx q hq fun e => e).trans hqc⟩⟩
  · rintro d h' h'' ⟨i1, i2, i3, i4, t, i5, i6, i7⟩ hf
    have f1 := hf.ln
    have f2 := hf.bn
    exact ⟨by omega, (hf.lp _ i1).trans i2, by omega, i4.trans hf, t, (hf.bx _ i3 fun e => e).trans i5, i6.keep hf fun _ _ e => e, i7⟩
  · rintro d s h' ⟨i1, i2, i3, i4, t, i5, i6, i7⟩ ⟨r, hr⟩ K hK _
    have hdl : d.length + 1 ≤ 1000000 := by rw [hr] at hm; simp at hm; omega
    refine callQ_y (q := q0) i1 i2 rfl ?_
    have n1 : ¬ h.bn = h'.bn := by omega
    have n2 : h.bn < h'.bn + 1 := by omega
    simp -implicitDefEqProofs [slotsP, i1, i2, q0, s2, i5, n1, n2, avP]
    refine appQ_tok (es2 := [avP s]) (by rw [List.length_map]; cases t <;> exact i6) (P_len d) (by simp [srcA, avP]) (by simp; omega) fun t' h1 j1 j2 j3 j4 => ?_
    have k1 := j3.ln
    have k2 := j3.lp h.ln (by simpa using i1)
    have k3 := j3.bn
    simp only [setLoop_ln, set_ln, alloc_ln, setLoop_bn, set_bn, alloc_bn] at k1 k3 j4
    simp only [setLoop_lp, if_true] at k2
    have n3 : h.ln < h1.ln := by omega
    have n4 : h.bn < h1.bn := by omega
    have k4 := j3.bx h.bn (by simp; omega) (fun e => e)
    simp only [setLoop_bx, set_bx, alloc_bx, n1, if_false] at k4
    rw [i5] at k4
    simp -implicitDefEqProofs [s2, roundQ, k2, k4, n3, n4]
    have hb6 : ∀ b, b < h'.bn → b ≠ h.bn → (h1.set h.bn [.sl t' (List.map avP d ++ [avP s])]).bx b = h'.bx b := fun b hb hn => by
      have := j3.bx b (by simp; omega) (fun e => e)
      simp only [setLoop_bx, set_bx, alloc_bx, show ¬ b = h'.bn by omega, if_false] at this
      simp only [set_bx, if_neg hn, this]
    have hl6 : ∀ l, l < h'.ln → l ≠ h.ln → h1.lp l = h'.lp l := fun l hl hn => by
      have := j3.lp l (by simpa using hl)
      simpa [hn] using this
    have ht6 : ∀ i, i < h'.tn → ¬ TOwn t i → h1.tk i = h'.tk i := fun i hi hn => j3.tk i hi hn
    have htn : h'.tn ≤ h1.tn := j3.tn
    refine hK _ ⟨by simpa using n3, by simp [q0], by simpa using n4, ⟨by have := i4.bn; simp; omega, fun b hb _ => ?_, by have := i4.tn; simp; omega, fun i hi _ => ?_, by have := i4.ln; simp; omega, fun l hl => ?_, Nat.le_trans i4.mn j3.mn, fun m hm => (j3.mp m (Nat.lt_of_lt_of_le hm i4.mn)).trans (i4.mp m hm)⟩, t', by simp, by have j := j1; simp only [List.length_append, List.length_map, List.length_singleton] at j ⊢; cases t' <;> exact j, fun i e => ?_⟩ ⟨by simp; omega, fun b hb hn => ?_, htn, fun _ _ hn => absurd trivial hn, by simp; omega, fun l hl => ?_, j3.mn, j3.mp⟩
    · simp only [setLoop_bx]
      exact (hb6 b (by have := i4.bn; omega) (by omega)).trans (i4.bx b hb fun e => e)
    · simp only [setLoop_tk, set_tk]
      exact (ht6 i (by have := i4.tn; omega) fun e => by have := i7 i e; omega).trans (i4.tk i hi fun e => e)
    · simp only [setLoop_lp, set_lp, if_neg (show ¬ l = h.ln by omega)]
      exact (hl6 l (by have := i4.ln; omega) (by omega)).trans (i4.lp l hl)
    · rcases j2 with rfl | ⟨i', rfl, hi'⟩
      · exact i7 i e
      · cases e
        have := i4.tn
        simp only [setLoop_tn, set_tn, alloc_tn] at hi'
        omega
    · simp only [setLoop_bx]
      exact hb6 b hb hn
    · by_cases hll : l = h.ln
      · subst hll
        simp [i2, q0]
      · simp only [setLoop_lp, set_lp, if_neg hll]
        exact hl6 l hl hll
  · refine ⟨by simp, by simp [q0], by simp, ?_, .full, by simp, trivial, fun i e => (by cases e)⟩
    exact ⟨by simp, fun b hb _ => by simp [show ¬ b = h.bn by omega], by simp, fun _ _ _ => by simp, by simp, fun l hl => by simp [show ¬ l = h.ln by omega], by simp, fun _ _ => by simp⟩
  · rintro v h2 (⟨i1, i2, _⟩ | h)
    · exact ⟨i1, q0, i2, by simp [q0]⟩
    · exact h.elim
  · rintro v h2 q1 (⟨i1, i2, i3, i4, t, i5, i6, i7⟩ | h) hq1
    · simp only [alloc_ln] at hq1 ⊢
      rw [i2] at hq1
      cases hq1
      simp only [q0, pendK, List.nil_append]
      simp -implicitDefEqProofs [s2, i3, i5]
      exact ⟨i4.bn, i4.bx, i4.tn, i4.tk, i4.ln, fun l hl => by
        simp only [setLoop_lp, if_neg (show ¬ l = h.ln by omega)]
        exact i4.lp l hl, i4.mn, i4.mp⟩
    · exact h.elim
theorem collect_ok (a b : List Sp) (ha : a.length ≤ 1000000) (hb : b.length ≤ 1000000) (hm : (meetsL a b).length ≤ 1000000) {h : H} {p q : Nat} (hp : p < h.bn) (hpc : h.bx p = some [encL a]) (hq : q < h.bn) (hqc : h.bx q = some [encL b]) :
    SCall Try.prog 99 [.fn 116 [] [.ptr p 0, .ptr q 0]] h (encL (meetsL a b)) h := by
  refine SCall.ro (CallP.run hb99 ok99 (by simp) ?_) (pure_encL _)
  simp -implicitDefEqProofs []
  refine callQ_ex (appendSeq_ok a b ha hb hm hp hpc hq hqc) ?_
  rintro r h1 ⟨t, rfl, hf⟩
  simp -implicitDefEqProofs []
  exact ⟨by have := wk_encL (meetsL a b); simpa [encL] using this, hf⟩

theorem meets_bound (a b : List Sp) : (meetsL (plainL a) (plainL b)).length ≤ 1000000 := by
  have h1 := meetsL_len (plainL a) (plainL b)
  have h2 := plainL_len a
  have h3 := plainL_len b
  have : (plainL a).length * (plainL b).length ≤ 500 * 500 := Nat.mul_le_mul h2 h3
  omega

theorem keysBoth_ok (a b : List Sp) (ha : a.length ≤ 1000000) (hb : b.length ≤ 1000000) : PCall Try.prog 77 [encL a, encL b] (encL (bothL a b)) := by
  refine PCall.run hb77 ok77 (by simp) (pures2 (pure_encL a) (pure_encL b)) (pure_encL _) ?_
  have h2 := plainL_len a
  have h3 := plainL_len b
  simp -implicitDefEqProofs []
  refine callQ_p (plainA_ok a ha) (by simp [wk_encL]) ?_
  simp -implicitDefEqProofs []
  refine callQ_p (plainA_ok b hb) (by simp [wk_encL]) ?_
  simp -implicitDefEqProofs []
  refine callQ_c (meets_ok (plainL a) (plainL b) _) (by simp [wk_encL]) ?_
  rintro r h1 ⟨rfl, rfl⟩
  simp -implicitDefEqProofs [H.nil]
  refine callQ_s (collect_ok (plainL a) (plainL b) (by omega) (by omega) (meets_bound a b) (p := 0) (q := 1) (by simp) (by simp) (by simp) (by simp)) (by simp) ?_
  simp -implicitDefEqProofs []
  refine callQ_p (plainA_ok _ (meets_bound a b)) (by simp [wk_encL]) ?_
  simp -implicitDefEqProofs [wk_encL, bothL]
theorem keysLess_ok (a b : List Sp) (ha : a.length ≤ 1000000) (hb : b.length ≤ 1000000) : PCall Try.prog 55 [encL a, encL b] (encL (lessL a b)) := by
  refine PCall.run hb55 ok55 (by simp) (pures2 (pure_encL a) (pure_encL b)) (pure_encL _) ?_
  have h3 := plainL_len (gaps (plainL b) 0)
  simp -implicitDefEqProofs []
  refine callQ_p (plainA_ok b hb) (by simp [wk_encL]) ?_
  simp -implicitDefEqProofs []
  refine callQ_p (others_ok (plainL b) (plainL_isPlain b) (plainL_len b)) (by simp [wk_encL]) ?_
  simp -implicitDefEqProofs []
  refine callQ_p (keysBoth_ok a (othersL (plainL b)) ha (by rw [othersL]; omega)) (by simp [wk_encL]) ?_
  simp -implicitDefEqProofs [wk_encL, lessL]
theorem keysInside_ok (a b : List Sp) (ha : a.length ≤ 1000000) (hb : b.length ≤ 1000000) : PCall Try.prog 33 [encL a, encL b] (.bool (insideL a b)) := by
  refine PCall.run hb33 ok33 (by simp) (pures2 (pure_encL a) (pure_encL b)) (.bool _) ?_
  simp -implicitDefEqProofs []
  refine callQ_p (keysLess_ok a b ha hb) (by simp [wk_encL]) ?_
  cases hl : lessL a b with
  | nil => simp -implicitDefEqProofs [encL, insideL, hl]
  | cons x l =>
    simp -implicitDefEqProofs [encL, insideL, hl]
    omega

end Go.Proofs

/- The document's example of sets of keys; the statement KeysSets: its function hands back true. -/
namespace Go.Proofs
open Go Go.RowKit Go.Am

def spP (s : Spn) : Sp := (s.lo, s.hi)
theorem encL_spn (l : List Spn) : AV.sl .no (l.map encSpn) = encL (l.map spP) := by
  rw [encL, List.map_map]; rfl

theorem keys_at (f : Nat → Bool) {i : Nat} (hi : i < 1000) (hf : f i = true) : ∃ h : (keysOf f i).length < (keysOf f 1000).length, (keysOf f 1000)[(keysOf f i).length] = (i : Int) ∧ (keysOf f (i + 1)).length = (keysOf f i).length + 1 := by
  obtain ⟨h1, h2⟩ := keysOf_at f hi hf
  refine ⟨h1, ?_, by rw [keysOf_succ, if_pos hf]; simp⟩
  rw [List.getElem?_eq_getElem h1] at h2
  exact Option.some.inj h2

end Go.Proofs

/- The statements KeysParts, KeysTwo: their functions hand back true. -/
namespace Go.Proofs
open Go Go.RowKit Go.Am

theorem pures3 {a b c : AV} (ha : PureV a) (hb : PureV b) (hc : PureV c) : ∀ v ∈ [a, b, c], PureV v := pures_cons ha (pures2 hb hc)
theorem bothL_len (a b : List Sp) : (bothL a b).length ≤ 500 := plainL_len _
theorem lessL_len (a b : List Sp) : (lessL a b).length ≤ 500 := plainL_len _

end Go.Proofs

/- Steps, classes: are they the same? -/
namespace Go.Proofs
open Go Go.RowKit Go.Am

theorem stp_eq {s u : Stp} : s = u ↔ s.code = u.code ∧ s.foot = u.foot := by
  obtain ⟨a, b⟩ := s
  obtain ⟨c, d⟩ := u
  simp only [Stp.mk.injEq]
theorem sameStepG_ok (s u : Stp) (hs : s.wf) (hu : u.wf) : PCall Try.prog 41 [.agg (encStp s), .agg (encStp u)] (.bool (decide (s = u))) := by
  refine PCall.run hb41 ok41 (by simp) (pures2 (.agg (pure_encStp s)) (.agg (pure_encStp u))) (.bool _) ?_
  simp -implicitDefEqProofs [encStp, H.nil]
  refine callQ_p (eqInst_ok s.code u.code hs.1.1 hu.1.1) (by simp) ?_
  by_cases h1 : s.code = u.code
  · simp -implicitDefEqProofs [h1]
    refine callQ_p (eqSpanT_ok s.foot u.foot hs.2.1 hu.2.1) (by simp) ?_
    by_cases h2 : s.foot = u.foot
    · have : s = u := stp_eq.2 ⟨h1, h2⟩
      simp -implicitDefEqProofs [this]
    · have : s ≠ u := fun e => h2 (by rw [e])
      simp -implicitDefEqProofs [h2, this]
  · have : s ≠ u := fun e => h1 (by rw [e])
    simp -implicitDefEqProofs [h1, this]

theorem eqFuncG_ok (a b : List Stp) (ha : a.length ≤ 9223372036854775807) (hb : b.length ≤ 9223372036854775807) (wa : ∀ s ∈ a, s.wf) (wb : ∀ s ∈ b, s.wf) : PCall Try.prog 40 [.sl .no (a.map encStp), .sl .no (b.map encStp), .fn 41 [] []] (.bool (decide (a = b))) := by
  refine PCall.run hb40 ok40 (by simp) (pures3 (elOK_Stp.pureL a) (elOK_Stp.pureL b) (.fn pures_nil pures_nil)) (.bool _) ?_
  by_cases hl : a.length = b.length
  · simp -implicitDefEqProofs [hl]
    refine run_loop (fun n s h => ∃ j : Nat, n = b.length - j ∧ j ≤ b.length ∧ s 1 = .sl .no (b.map encStp) ∧ s 2 = .fn 41 [] [] ∧ s 15 = .sl .no (a.map encStp) ∧ s 16 = .int .i64 b.length ∧ s 17 = .int .i64 j ∧ a.take j = b.take j) ?_ b.length ?_
    rotate_left
    · exact ⟨0, by simp []⟩
    rintro n s h ⟨j, hn, hj, s1, s2, s15, s16, s17, he⟩ ih
    by_cases hlt : j < b.length
    · have hlt' : j < a.length := by omega
      have hs : a.take (j + 1) = b.take (j + 1) ↔ a[j] = b[j] := by
        rw [List.take_succ_eq_append_getElem (l := b) hlt, List.take_succ_eq_append_getElem (l := a) hlt', he]
        simp only [List.append_cancel_left_eq, List.cons.injEq, and_true]
      have hx : a[j] ≠ b[j] → a ≠ b := fun h e => by subst e; exact h rfl
      have i1 := idxOf_nat (k := .i64) hlt
      have i2 := idxOf_nat (k := .i64) hlt'
      simp -implicitDefEqProofs [s1, s2, s15, s16, s17, hlt, hlt', encStp]
      refine callQ_p (sameStepG_ok a[j] b[j] (wa _ (List.getElem_mem hlt')) (wb _ (List.getElem_mem hlt))) (by simp [encStp]) ?_
      by_cases h1 : a[j] = b[j]
      · simp -implicitDefEqProofs [h1, s17, inc_i64 hlt hb, -Int.natCast_add]
        exact ih (b.length - (j + 1)) _ _ (by omega) ⟨j + 1, rfl, by omega, by simp [s1], by simp [s2], by simp [s15], by simp [s16], by simp, hs.2 h1⟩
      · have hne := hx h1
        simp -implicitDefEqProofs [h1, hne]
    · obtain rfl : j = b.length := by omega
      rw [List.take_length, List.take_of_length_le (by omega)] at he
      simp -implicitDefEqProofs [s16, s17, he]
  · have hne : a ≠ b := fun e => hl (by rw [e])
    simp -implicitDefEqProofs [hl, hne]

theorem refStepsG_ok (a b : List Stp) (ha : a.length ≤ 9223372036854775807) (hb : b.length ≤ 9223372036854775807) (wa : ∀ s ∈ a, s.wf) (wb : ∀ s ∈ b, s.wf) : PCall Try.prog 42 [.sl .no (a.map encStp), .sl .no (b.map encStp)] (.bool (decide (a = b))) := by
  refine PCall.run hb42 ok42 (by simp) (pures2 (elOK_Stp.pureL a) (elOK_Stp.pureL b)) (.bool _) ?_
  by_cases hl : a.length = b.length
  · simp -implicitDefEqProofs [hl]
    refine run_loop (fun n s h => ∃ j : Nat, n = b.length - j ∧ j ≤ b.length ∧ s 0 = .sl .no (a.map encStp) ∧ s 1 = .sl .no (b.map encStp) ∧ s 5 = .int .i64 j ∧ a.take j = b.take j) ?_ b.length ?_
    rotate_left
    · exact ⟨0, by simp⟩
    rintro n s h ⟨j, hn, hj, s0, s1, s5, he⟩ ih
    by_cases hlt : j < b.length
    · have hlt' : j < a.length := by omega
      have hs : a.take (j + 1) = b.take (j + 1) ↔ a[j] = b[j] := by
        rw [List.take_succ_eq_append_getElem (l := b) hlt, List.take_succ_eq_append_getElem (l := a) hlt', he]
        simp only [List.append_cancel_left_eq, List.cons.injEq, and_true]
      have hx : a[j] ≠ b[j] → a ≠ b := fun h e => by subst e; exact h rfl
      have i1 := idxOf_nat (k := .i64) hlt
      have i2 := idxOf_nat (k := .i64) hlt'
      have w1 := wa _ (List.getElem_mem hlt')
      have w2 := wb _ (List.getElem_mem hlt)
      simp -implicitDefEqProofs [s0, s5, hl, hlt]
      refine run_dreg c42_d6 ?_
      simp -implicitDefEqProofs [s0, s1, s5, hl, hlt, encStp]
      refine lcallQ_p (refSameInst_ok a[j].code b[j].code w1.1.1 w2.1.1) (by simp) ?_
      by_cases h1 : a[j].code = b[j].code
      · simp -implicitDefEqProofs [h1, s0, s1, s5, hl, hlt, encStp]
        refine lcallQ_p (refSameSpanT_ok a[j].foot b[j].foot w1.2.1 w2.2.1) (by simp) ?_
        by_cases h2 : a[j].foot = b[j].foot
        · simp -implicitDefEqProofs [h2, s5, inc_i64 hlt hb, -Int.natCast_add]
          exact ih (b.length - (j + 1)) _ _ (by omega) ⟨j + 1, rfl, by omega, by simp [s0], by simp [s1], by simp, hs.2 (stp_eq.2 ⟨h1, h2⟩)⟩
        · have hne := hx fun e => h2 (by rw [e])
          simp -implicitDefEqProofs [h2, hne]
      · have hne := hx fun e => h1 (by rw [e])
        simp -implicitDefEqProofs [h1, hne]
    · obtain rfl : j = b.length := by omega
      rw [List.take_length, List.take_of_length_le (by omega)] at he
      simp -implicitDefEqProofs [s0, s5, he]
  · have hne : a ≠ b := fun e => hl (by rw [e])
    simp -implicitDefEqProofs [hl, hne]

theorem cls_eq {c d : Cls} : c = d ↔ c.name = d.name ∧ c.args = d.args ∧ c.resume = d.resume ∧ c.steps = d.steps ∧ c.comps = d.comps := by
  obtain ⟨c1, c2, c3, c4, c5⟩ := c
  obtain ⟨d1, d2, d3, d4, d5⟩ := d
  simp only [Cls.mk.injEq]
  exact ⟨fun ⟨a, b, c, d, e⟩ => ⟨a, b, e, c, d⟩, fun ⟨a, b, e, c, d⟩ => ⟨a, b, c, d, e⟩⟩
set_option maxHeartbeats 1000000 in
theorem classSameG_ok (c d : Cls) (hc : c.wf) (hd : d.wf) : PCall Try.prog 19 [.agg (encCls c), .agg (encCls d)] (.bool (decide (c = d))) := by
  refine PCall.run hb19 ok19 (by simp) (pures2 (.agg (pure_encCls c)) (.agg (pure_encCls d))) (.bool _) ?_
  obtain ⟨_, _, ⟨c1, c2⟩, c3, c4⟩ := hc
  obtain ⟨_, _, ⟨d1, d2⟩, d3, d4⟩ := hd
  by_cases h1 : c.name = d.name
  rotate_left
  · have : c ≠ d := fun e => h1 (by rw [e])
    simp -implicitDefEqProofs [encCls, H.nil, h1, this]
  by_cases h2 : c.args = d.args
  rotate_left
  · have : c ≠ d := fun e => h2 (by rw [e])
    simp -implicitDefEqProofs [encCls, H.nil, h1, h2, this]
  by_cases h3 : c.resume = d.resume
  rotate_left
  · have : c ≠ d := fun e => h3 (by rw [e])
    simp -implicitDefEqProofs [encCls, H.nil, h1, h2, h3, this]
  simp -implicitDefEqProofs [encCls, H.nil, h1, h2, h3]
  refine callQ_p (eqFuncG_ok c.steps d.steps c1 d1 c2 d2) (by simp) ?_
  by_cases h4 : c.steps = d.steps
  rotate_left
  · have : c ≠ d := fun e => h4 (by rw [e])
    simp -implicitDefEqProofs [h4, this]
  simp -implicitDefEqProofs [h4]
  refine callQ_p (eqFuncG_ok c.comps d.comps c3 d3 c4 d4) (by simp) ?_
  by_cases h5 : c.comps = d.comps
  · have : c = d := cls_eq.2 ⟨h1, h2, h3, h4, h5⟩
    simp -implicitDefEqProofs [this]
  · have : c ≠ d := fun e => h5 (by rw [e])
    simp -implicitDefEqProofs [h5, this]
set_option maxHeartbeats 1000000 in
theorem refSameG_ok (c d : Cls) (hc : c.wf) (hd : d.wf) : PCall Try.prog 20 [.agg (encCls c), .agg (encCls d)] (.bool (decide (c = d))) := by
  refine PCall.run hb20 ok20 (by simp) (pures2 (.agg (pure_encCls c)) (.agg (pure_encCls d))) (.bool _) ?_
  obtain ⟨_, _, ⟨c1, c2⟩, c3, c4⟩ := hc
  obtain ⟨_, _, ⟨d1, d2⟩, d3, d4⟩ := hd
  by_cases h1 : c.name = d.name
  rotate_left
  · have : c ≠ d := fun e => h1 (by rw [e])
    simp -implicitDefEqProofs [encCls, H.nil, h1, this]
  by_cases h2 : c.args = d.args
  rotate_left
  · have : c ≠ d := fun e => h2 (by rw [e])
    simp -implicitDefEqProofs [encCls, H.nil, h1, h2, this]
  by_cases h3 : c.resume = d.resume
  rotate_left
  · have : c ≠ d := fun e => h3 (by rw [e])
    simp -implicitDefEqProofs [encCls, H.nil, h1, h2, h3, this]
  simp -implicitDefEqProofs [encCls, H.nil, h1, h2, h3]
  refine callQ_p (refStepsG_ok c.steps d.steps c1 d1 c2 d2) (by simp) ?_
  by_cases h4 : c.steps = d.steps
  rotate_left
  · have : c ≠ d := fun e => h4 (by rw [e])
    simp -implicitDefEqProofs [h4, this]
  simp -implicitDefEqProofs [h4]
  refine callQ_p (refStepsG_ok c.comps d.comps c3 d3 c4 d4) (by simp) ?_
  by_cases h5 : c.comps = d.comps
  · have : c = d := cls_eq.2 ⟨h1, h2, h3, h4, h5⟩
    simp -implicitDefEqProofs [this]
  · have : c ≠ d := fun e => h5 (by rw [e])
    simp -implicitDefEqProofs [h5, this]
end Go.Proofs

/- The statement KeysTwo: its function hands back true. -/
namespace Go.Proofs
open Go Go.RowKit Go.Am

def boolQ (f : Nat → Bool) (n : Nat) (k : Nat) : Bool := decide (k < n) && f k
theorem boolQ_zero (f : Nat → Bool) : setA (boolQ f 0) = setA fun _ => false := setA_congr fun k _ => by simp [boolQ]
theorem boolQ_all (f : Nat → Bool) : setA (boolQ f 1000) = setA f := setA_congr fun k hk => by simp [boolQ, hk]
theorem boolQ_put (f : Nat → Bool) {n : Nat} (hn : n < 1000) {v : Bool} (hv : f n = v) : List.take n (setA (boolQ f n)) ++ .bool v :: List.drop (n + 1) (setA (boolQ f n)) = setA (boolQ f (n + 1)) := by
  rw [setA_put _ hn]
  refine setA_congr fun k _ => ?_
  by_cases h : k = n
  · subst h
    rw [if_pos rfl]
    simp [boolQ, hv]
  · rw [if_neg h]
    simp only [boolQ]
    have e : decide (k < n) = decide (k < n + 1) := by
      rw [Bool.eq_iff_iff, decide_eq_true_eq, decide_eq_true_eq]; omega
    rw [e]

def insQ (f : Nat → Bool) (n : Nat) : Bool := (List.range n).all fun k => !f k
theorem insQ_succ (f : Nat → Bool) (n : Nat) : insQ f (n + 1) = (insQ f n && !f n) := by
  simp [insQ, List.range_succ]
theorem meet_sets (a b : List Sp) : meetL a b = meetB (fun k => hasK a k) (fun k => hasK b k) := by
  rw [Bool.eq_iff_iff, meetL_iff, meetB_iff]
theorem inside_sets (a b : List Sp) : insideL a b = insQ (fun k => hasK a k && !hasK b k) 1000 := by
  rw [Bool.eq_iff_iff, insideL_iff]
  simp only [insQ, List.all_eq_true, List.mem_range, Bool.not_eq_true', Bool.and_eq_false_iff, Bool.not_eq_false']
  constructor
  · intro h k hk
    cases ha : hasK a k
    · exact .inl rfl
    · exact .inr (by rw [h k hk ha])
  · intro h k hk ha
    rcases h k hk with h | h
    · rw [ha] at h; cases h
    · exact h

end Go.Proofs

/- Keys of templates, for arguments; which arguments there may be. -/
namespace Go.Proofs
open Go Go.RowKit Go.Am

def encA (a : List Int) : AV := .sl .no (a.map encN)
theorem pure_encA (a : List Int) : PureV (encA a) := pure_sl pure_encN a
theorem wk_encA (a : List Int) : Am.wk (encA a) = encA a := by simp [encA]
theorem elOK_N : ElOK encN 1 false := ⟨fun _ => rfl, (fun _ => rfl), pure_encN, fun x => by simp [encN]⟩
def argOK (x : Int) : Bool := decide (0 ≤ x) && decide (x ≤ 99)
/-- Which arguments may be. -/
def argsOK (a : List Int) : Bool := decide (a.length ≤ 3) && a.all argOK
def argV (a : List Int) (k : Int) : Int := a[k.toNat]?.getD 0
/-- The key of a template. -/
def keyV (k : KeyT) (a : List Int) : Int := if k.arg < 0 then k.base else k.base + argV a k.arg
def keyOKs (k : KeyT) (a : List Int) : Bool := mayKey k a.length && argsOK a
theorem mayKey_iff {k : KeyT} {n : Int} : mayKey k n = true ↔ -1 ≤ k.arg ∧ k.arg < n ∧ 0 ≤ k.base ∧ k.base ≤ 900 := by
  simp only [mayKey, Bool.and_eq_true, decide_eq_true_eq, and_assoc]
theorem argOK_iff {x : Int} : argOK x = true ↔ 0 ≤ x ∧ x ≤ 99 := by
  simp only [argOK, Bool.and_eq_true, decide_eq_true_eq]
theorem argsOK_iff {a : List Int} : argsOK a = true ↔ a.length ≤ 3 ∧ ∀ x ∈ a, 0 ≤ x ∧ x ≤ 99 := by
  simp only [argsOK, Bool.and_eq_true, decide_eq_true_eq, List.all_eq_true, argOK_iff]
theorem key_at {k : KeyT} {a : List Int} (h : keyOKs k a = true) (hk : 0 ≤ k.arg) : ∃ j : Nat, k.arg = j ∧ ∃ hj : j < a.length, argV a k.arg = a[j] ∧ 0 ≤ a[j] ∧ a[j] ≤ 99 := by
  rw [keyOKs, Bool.and_eq_true, mayKey_iff, argsOK_iff] at h
  obtain ⟨⟨h1, h2, h3, h4⟩, h5, h6⟩ := h
  obtain ⟨j, hj⟩ : ∃ j : Nat, k.arg = j := ⟨k.arg.toNat, by omega⟩
  have hja : j < a.length := by omega
  refine ⟨j, hj, hja, ?_, h6 _ (List.getElem_mem hja)⟩
  rw [argV, hj]
  simp [hja]

theorem key1_ok (x : Int) : PCall Try.prog 96 [.int .i64 x] (.bool (!argOK x)) := by
  refine PCall.run hb96 ok96 (by simp) (pures1 (.int _ _)) (.bool _) ?_
  by_cases h : x < 0
  · simp -implicitDefEqProofs [h, argOK, show ¬ 0 ≤ x by omega]
  · by_cases h9 : 99 < x
    · simp -implicitDefEqProofs [h, h9, argOK, show ¬ x ≤ 99 by omega]
    · simp -implicitDefEqProofs [h, h9, argOK, show 0 ≤ x by omega, show x ≤ 99 by omega]

theorem progKey_ok (k : KeyT) (a : List Int) (hl : a.length ≤ 1000000) : PCall Try.prog 75 [.agg (encKeyT k), encA a] (.tup [.int .i64 (if keyOKs k a = true then keyV k a else 0), .bool (keyOKs k a)]) := by
  refine PCall.run hb75 ok75 (by simp) (pures2 (.agg (pure_encKeyT k)) (pure_encA a)) (.tup fun v hv => by
    simp only [List.mem_cons, List.not_mem_nil, or_false] at hv
    rcases hv with rfl | rfl
    · exact .int _ _
    · exact .bool _) ?_
  simp -implicitDefEqProofs [H.nil, encKeyT, encA]
  refine callQ_p (mayKey_ok k a.length) (by simp [encKeyT]) ?_
  cases hm : mayKey k a.length
  · simp -implicitDefEqProofs [keyOKs, hm]
  by_cases h3 : (3 : Int) < a.length
  · have : argsOK a = false := by rw [Bool.eq_false_iff]; intro e; have := (argsOK_iff.1 e).1; omega
    simp -implicitDefEqProofs [keyOKs, hm, h3, this]
  simp -implicitDefEqProofs [h3]
  have hn := any_not a argOK
  refine callQ_s (contains_gen (F := 96) hb98 ok98 hb114 ok114 elOK_N a (by omega) (first := []) (caps := []) (p := fun x => !argOK x) rfl rfl (fun x _ => (key1_ok x) _)) (by simp []) ?_
  have hok : keyOKs k a = a.all argOK := by
    rw [keyOKs, hm, argsOK, show decide (a.length ≤ 3) = true from decide_eq_true (by omega)]; rfl
  have ha : (a.any fun x => !argOK x) = !(a.all argOK) := by rw [← hn, Bool.not_not]
  rw [ha, hok]
  cases hall : a.all argOK
  · simp -implicitDefEqProofs []
  · rw [hall] at hok
    by_cases hk : k.arg < 0
    · simp -implicitDefEqProofs [hk, keyV]
    · obtain ⟨j, hj, hja, e1, e2, e3⟩ := key_at hok (by omega)
      have hb := (mayKey_iff.1 hm)
      have i1 := idxOf_nat (k := .i64) hja
      have w : IntKind.i64.wrap (k.base + a[j]) = k.base + a[j] := wrap_i64 (by omega) (by omega)
      simp -implicitDefEqProofs [hk]
      refine run_dreg c75_d7 ?_
      rw [hj] at hk e1
      simp -implicitDefEqProofs [hj, hk, hja, encN, keyV, e1, w]

theorem refKey_ok (k : KeyT) (a : List Int) (h : keyOKs k a = true) : PCall Try.prog 69 [.agg (encKeyT k), encA a] (.int .i64 (keyV k a)) := by
  refine PCall.run hb69 ok69 (by simp) (pures2 (.agg (pure_encKeyT k)) (pure_encA a)) (.int _ _) ?_
  by_cases hk : k.arg < 0
  · simp -implicitDefEqProofs [H.nil, encKeyT, hk, keyV]
  · obtain ⟨j, hj, hja, e1, e2, e3⟩ := key_at h (by omega)
    have hm := h
    rw [keyOKs, Bool.and_eq_true] at hm
    have hb := (mayKey_iff.1 hm.1)
    have i1 := idxOf_nat (k := .i64) hja
    have w : IntKind.i64.wrap (k.base + a[j]) = k.base + a[j] := wrap_i64 (by omega) (by omega)
    simp -implicitDefEqProofs [H.nil, encKeyT, hk]
    refine run_dreg c69_d4 ?_
    rw [hj] at hk e1
    simp -implicitDefEqProofs [hj, hk, hja, encA, encN, keyV, e1, w]

theorem refArgs_ok (a : List Int) (hl : a.length ≤ 1000000) : PCall Try.prog 22 [encA a] (.bool (argsOK a)) := by
  refine PCall.run hb22 ok22 (by simp) (pures1 (pure_encA a)) (.bool _) ?_
  simp -implicitDefEqProofs [encA]
  refine run_loop (fun n s h => ∃ j : Nat, n = a.length - j ∧ j ≤ a.length ∧ s 0 = encA a ∧ s 3 = .int .i64 j ∧ ∀ i (hi : i < a.length), i < j → argOK a[i] = true) ?_ a.length ?_
  rotate_left
  · exact ⟨0, by simp [encA]⟩
  rintro n s h ⟨j, hn, hj, s0, s3, hall⟩ ih
  rw [encA] at s0
  by_cases hlt : j < a.length
  · have i1 := idxOf_nat (k := .i64) hlt
    have hbad : argOK a[j] = false → argsOK a = false := fun e => by
      rw [Bool.eq_false_iff]; intro h
      have := (argsOK_iff.1 h).2 a[j] (List.getElem_mem hlt)
      rw [← argOK_iff, e] at this
      cases this
    by_cases h0 : a[j] < 0
    · have hb := hbad (by rw [Bool.eq_false_iff]; intro e; have := argOK_iff.1 e; omega)
      simp -implicitDefEqProofs [s0, s3, hlt, encN, h0, hb]
    · by_cases h9 : 99 < a[j]
      · have hb := hbad (by rw [Bool.eq_false_iff]; intro e; have := argOK_iff.1 e; omega)
        simp -implicitDefEqProofs [s0, s3, hlt, encN, h0, h9, hb]
      · simp -implicitDefEqProofs [s0, s3, hlt, encN, h0, h9, inc_i64 hlt (by omega), -Int.natCast_add]
        exact ih (a.length - (j + 1)) _ _ (by omega) ⟨j + 1, rfl, by omega, by simp [s0, encA], by simp, fun i hi hij => by
          by_cases h : i = j
          · subst h; exact argOK_iff.2 ⟨by omega, by omega⟩
          · exact hall i hi (by omega)⟩
  · have hw : a.all argOK = true := List.all_eq_true.2 fun x hx => by
      obtain ⟨i, hi, rfl⟩ := List.mem_iff_getElem.1 hx
      exact hall i hi (by omega)
    have e : argsOK a = decide ((a.length : Int) ≤ 3) := by
      rw [argsOK, hw, Bool.and_true, Bool.eq_iff_iff, decide_eq_true_eq, decide_eq_true_eq]; omega
    simp -implicitDefEqProofs [s0, s3, hlt, e]

/-- May a footprint be, for arguments? -/
def rightB (l : List SpanT) (a : List Int) : Bool := argsOK a && footMay l a.length
theorem right_ok (l : List SpanT) (a : List Int) (hl : l.length ≤ 1000000) (ha : a.length ≤ 1000000) : PCall Try.prog 51 [.sl .no (l.map encSpanT), encA a] (.bool (rightB l a)) := by
  refine PCall.run hb51 ok51 (by simp) (pures2 (elOK_SpanT.pureL l) (pure_encA a)) (.bool _) ?_
  simp -implicitDefEqProofs []
  refine callQ_p (progKey_ok ⟨-1, 0⟩ a ha) (by simp [encKeyT, wk_encA]) ?_
  have e : keyOKs ⟨-1, 0⟩ a = argsOK a := by
    have : mayKey ⟨-1, 0⟩ a.length = true := mayKey_iff.2 ⟨by simp, by simp only; omega, by simp, by simp⟩
    rw [keyOKs, this]; rfl
  rw [e]
  cases h : argsOK a
  · simp -implicitDefEqProofs [rightB, h]
  · simp -implicitDefEqProofs [encA]
    refine callQ_p (footMay_ok l a.length (by omega)) (by simp) ?_
    simp -implicitDefEqProofs [rightB, h]
theorem refRight_ok (l : List SpanT) (a : List Int) (hl : l.length ≤ 1000000) (ha : a.length ≤ 1000000) : PCall Try.prog 8 [.sl .no (l.map encSpanT), encA a] (.bool (rightB l a)) := by
  refine PCall.run hb8 ok8 (by simp) (pures2 (elOK_SpanT.pureL l) (pure_encA a)) (.bool _) ?_
  simp -implicitDefEqProofs []
  refine callQ_p (refArgs_ok a ha) (by simp [wk_encA]) ?_
  cases h : argsOK a
  · simp -implicitDefEqProofs [rightB, h]
  · simp -implicitDefEqProofs [encA]
    refine callQ_p (refFootMay_ok l a.length (by omega)) (by simp) ?_
    simp -implicitDefEqProofs [rightB, h]
end Go.Proofs

/- What a footprint reads and writes, for arguments; does it cover keys? -/
namespace Go.Proofs
open Go Go.RowKit Go.Am

def spanV (a : List Int) (s : SpanT) : Sp := (keyV s.lo a, keyV s.hi a)
theorem right_len {l : List SpanT} {a : List Int} (h : rightB l a = true) : l.length ≤ 4 ∧ a.length ≤ 3 := by
  rw [rightB, Bool.and_eq_true] at h
  have h1 := (argsOK_iff.1 h.1).1
  have h2 := h.2
  simp only [footMay, Bool.and_eq_true, Bool.not_eq_true', decide_eq_false_iff_not] at h2
  omega
theorem right_keys {l : List SpanT} {a : List Int} (h : rightB l a = true) : ∀ s ∈ l, keyOKs s.lo a = true ∧ keyOKs s.hi a = true := by
  rw [rightB, Bool.and_eq_true] at h
  intro s hs
  have h2 := h.2
  simp only [footMay, Bool.and_eq_true, List.all_eq_true] at h2
  have := h2.2 s hs
  exact ⟨by rw [keyOKs, this.1, h.1]; rfl, by rw [keyOKs, this.2, h.1]; rfl⟩

set_option maxHeartbeats 1000000 in
theorem chosen_ok (l : List SpanT) (a : List Int) (hr : rightB l a = true) (F : FuncId) (c : SpanT → Bool) (hF : ∀ x, PCall Try.prog F [.agg (encSpanT x)] (.bool (c x))) :
    PCall Try.prog 54 [.sl .no (l.map encSpanT), encA a, .fn F [] []] (encL (plainL ((l.filter c).map (spanV a)))) := by
  refine PCall.run hb54 ok54 (by simp) (pures3 (elOK_SpanT.pureL l) (pure_encA a) (.fn (fun _ h => by cases h) (fun _ h => by cases h))) (pure_encL _) ?_
  obtain ⟨hl4, ha3⟩ := right_len hr
  simp -implicitDefEqProofs []
  refine run_loop (fun n s h => ∃ (j : Nat) (t : Tok) (d : List Sp), n = l.length - j ∧ j ≤ l.length ∧ s 1 = encA a ∧ s 2 = .fn F [] [] ∧ s 14 = .sl .no (l.map encSpanT) ∧ s 15 = .int .i64 l.length ∧ s 16 = .int .i64 j ∧ d = ((l.take j).filter c).map (spanV a) ∧ s 7 = .sl t (d.map avP) ∧ TLive h t d.length) ?_ l.length ?_
  rotate_left
  · exact ⟨0, .full, [], by simp [TLive]⟩
  rintro n s h ⟨j, t, d, hn, hj, s1, s2, s14, s15, s16, hd, s7, ht⟩ ih
  have hdl : d.length ≤ 4 := by
    rw [hd, List.length_map]
    exact Nat.le_trans (List.length_filter_le _ _) (by rw [List.length_take]; omega)
  by_cases hlt : j < l.length
  · have i1 := idxOf_nat (k := .i64) hlt
    obtain ⟨k1, k2⟩ := right_keys hr _ (List.getElem_mem hlt)
    have hdn : ((l.take (j + 1)).filter c).map (spanV a) = d ++ if c l[j] = true then [spanV a l[j]] else [] := by
      rw [List.take_succ_eq_append_getElem hlt, List.filter_append, List.map_append, ← hd]
      cases hc : c l[j] <;> simp [hc]
    simp -implicitDefEqProofs [s1, s14, s15, s16, hlt, encSpanT]
    refine callQ_p (progKey_ok l[j].lo a (by omega)) (by simp [encKeyT, wk_encA]) ?_
    rw [k1]
    simp -implicitDefEqProofs [s1]
    refine callQ_p (progKey_ok l[j].hi a (by omega)) (by simp [encKeyT, wk_encA]) ?_
    rw [k2]
    simp -implicitDefEqProofs [s2]
    refine callQ_p (hF l[j]) (by simp [encSpanT]) ?_
    cases hc : c l[j]
    · rw [if_neg (by simp [hc]), List.append_nil] at hdn
      simp -implicitDefEqProofs [s16, inc_i64 hlt (by omega), -Int.natCast_add]
      exact ih (l.length - (j + 1)) _ _ (by omega) ⟨j + 1, t, d, rfl, by omega, by simp [s1], by simp [s2], by simp [s14], by simp [s15], by simp, hdn.symm, by simp [s7], by cases t <;> exact ht⟩
    · rw [if_pos hc] at hdn
      simp -implicitDefEqProofs [s7]
      refine appQ_tok (es2 := [avP (spanV a l[j])]) (by rw [List.length_map]; cases t <;> exact ht) (P_len d) (by simp [srcA, avP, spanV]) (by simp; omega) fun t' h' q1 q2 q3 q4 => ?_
      simp -implicitDefEqProofs [s16, inc_i64 hlt (by omega), -Int.natCast_add]
      exact ih (l.length - (j + 1)) _ _ (by omega) ⟨j + 1, t', d ++ [spanV a l[j]], rfl, by omega, by simp [s1], by simp [s2], by simp [s14], by simp [s15], by simp, hdn.symm, by simp, by simpa using q1⟩
  · obtain rfl : j = l.length := by omega
    rw [List.take_length] at hd
    simp -implicitDefEqProofs [s7, s15, s16]
    refine callQ_p (keysPlain_ok d (by omega)) (by simp [encL, avP]) ?_
    rw [hd]
    simp -implicitDefEqProofs [wk_encL]

theorem spans1_ok (x : SpanT) : PCall Try.prog 52 [.agg (encSpanT x)] (.bool true) := by
  refine PCall.run hb52 ok52 (by simp) (pures1 (.agg (pure_encSpanT x))) (.bool _) ?_
  simp -implicitDefEqProofs [encSpanT]
theorem spans2_ok (x : SpanT) : PCall Try.prog 53 [.agg (encSpanT x)] (.bool x.write) := by
  refine PCall.run hb53 ok53 (by simp) (pures1 (.agg (pure_encSpanT x))) (.bool _) ?_
  simp -implicitDefEqProofs [encSpanT, H.nil]

/-- The spans that are read (all), or written. -/
def spansF (l : List SpanT) (a : List Int) (w : Bool) : List Sp := (l.filter fun s => s.write || !w).map (spanV a)
def readsF (l : List SpanT) (a : List Int) : List Sp := if rightB l a = true then plainL (spansF l a false) else []
def writesF (l : List SpanT) (a : List Int) : List Sp := if rightB l a = true then plainL (spansF l a true) else []
theorem pure_three (x y : List Sp) (b : Bool) : PureV (.tup [encL x, encL y, .bool b]) := .tup (pures3 (pure_encL _) (pure_encL _) (.bool _))

theorem footSpans_run (l : List SpanT) (a : List Int) (hl : l.length ≤ 1000000) (ha : a.length ≤ 1000000) : PCall Try.prog 32 [.sl .no (l.map encSpanT), encA a] (.tup [encL (readsF l a), encL (writesF l a), .bool (rightB l a)]) := by
  refine PCall.run hb32 ok32 (by simp) (pures2 (elOK_SpanT.pureL l) (pure_encA a)) (pure_three _ _ _) ?_
  simp -implicitDefEqProofs []
  refine callQ_p (right_ok l a hl ha) (by simp [wk_encA]) ?_
  cases hr : rightB l a
  · simp -implicitDefEqProofs [readsF, writesF, hr, encL]
  · have e1 : spansF l a false = (l.filter fun _ => true).map (spanV a) := by simp [spansF]
    have e2 : spansF l a true = (l.filter fun s => s.write).map (spanV a) := by simp [spansF]
    simp -implicitDefEqProofs []
    refine callQ_p (chosen_ok l a hr 52 (fun _ => true) spans1_ok) (by simp [wk_encA]) ?_
    simp -implicitDefEqProofs []
    refine callQ_p (chosen_ok l a hr 53 (fun s => s.write) spans2_ok) (by simp [wk_encA]) ?_
    simp -implicitDefEqProofs [wk_encL, readsF, writesF, hr, e1, e2]

def coversB (l : List SpanT) (a : List Int) (r w : List Sp) : Bool := rightB l a && insideL r (spansF l a false) && insideL w (spansF l a true)
theorem insideL_plain (a b : List Sp) : insideL a (plainL b) = insideL a b := by
  rw [Bool.eq_iff_iff, insideL_iff, insideL_iff]
  exact ⟨fun h k hk ha => by have := h k hk ha; rwa [plainL_has] at this, fun h k hk ha => by rw [plainL_has]; exact h k hk ha⟩
theorem covers_ok (l : List SpanT) (a : List Int) (r w : List Sp) (hl : l.length ≤ 1000000) (ha : a.length ≤ 1000000) (hr : r.length ≤ 1000000) (hw : w.length ≤ 1000000) :
    PCall Try.prog 9 [.sl .no (l.map encSpanT), encA a, encL r, encL w] (.bool (coversB l a r w)) := by
  refine PCall.run hb9 ok9 (by simp) (pures_cons (elOK_SpanT.pureL l) (pures3 (pure_encA a) (pure_encL r) (pure_encL w))) (.bool _) ?_
  simp -implicitDefEqProofs []
  refine callQ_p (footSpans_run l a hl ha) (by simp [wk_encA]) ?_
  cases hr1 : rightB l a
  · simp -implicitDefEqProofs [coversB, hr1]
  · have p1 := plainL_len (spansF l a false)
    have p2 := plainL_len (spansF l a true)
    simp -implicitDefEqProofs [hr1, readsF, writesF]
    refine callQ_p (keysInside_ok r (plainL (spansF l a false)) hr (by omega)) (by simp [wk_encL]) ?_
    rw [insideL_plain]
    cases h1 : insideL r (spansF l a false)
    · simp -implicitDefEqProofs [coversB, hr1, h1]
    · simp -implicitDefEqProofs []
      refine callQ_p (keysInside_ok w (plainL (spansF l a true)) hw (by omega)) (by simp [wk_encL]) ?_
      rw [insideL_plain]
      simp -implicitDefEqProofs [coversB, hr1, h1]
end Go.Proofs

/- What a footprint reads and writes: the document's answer. -/
namespace Go.Proofs
open Go Go.RowKit Go.Am

set_option maxHeartbeats 1000000 in
theorem refSet_ok (l : List SpanT) (a : List Int) (w : Bool) (hr : rightB l a = true) : PCall Try.prog 44 [.sl .no (l.map encSpanT), encA a, .bool w] (setP fun k => hasK (spansF l a w) k) := by
  refine PCall.run hb44 ok44 (by simp) (pures3 (elOK_SpanT.pureL l) (pure_encA a) (.bool _)) (pure_setP _) ?_
  obtain ⟨hl4, ha3⟩ := right_len hr
  simp -implicitDefEqProofs []
  refine run_loop (fun n s h => ∃ (j : Nat) (t : Tok) (d : List Sp), n = l.length - j ∧ j ≤ l.length ∧ s 0 = .sl .no (l.map encSpanT) ∧ s 1 = encA a ∧ s 2 = .bool w ∧ s 8 = .int .i64 j ∧ d = spansF (l.take j) a w ∧ s 7 = .sl t (d.map avP) ∧ TLive h t d.length) ?_ l.length ?_
  rotate_left
  · exact ⟨0, .full, [], by simp [TLive, spansF]⟩
  rintro n s h ⟨j, t, d, hn, hj, s0, s1, s2, s8, hd, s7, ht⟩ ih
  have hdl : d.length ≤ 4 := by
    rw [hd, spansF, List.length_map]
    exact Nat.le_trans (List.length_filter_le _ _) (by rw [List.length_take]; omega)
  by_cases hlt : j < l.length
  · have i1 := idxOf_nat (k := .i64) hlt
    obtain ⟨k1, k2⟩ := right_keys hr _ (List.getElem_mem hlt)
    have hdn : spansF (l.take (j + 1)) a w = d ++ if (l[j].write || !w) = true then [spanV a l[j]] else [] := by
      rw [List.take_succ_eq_append_getElem hlt, spansF, List.filter_append, List.map_append, hd, spansF]
      cases hc : (l[j].write || !w) <;> simp [hc]
    cases hw : l[j].write <;> cases w <;> simp only [hw, Bool.not_true, Bool.not_false, Bool.or_true, Bool.or_false, if_true, if_false, Bool.false_eq_true, List.append_nil] at hdn
    · simp -implicitDefEqProofs [s0, s2, s8, hlt, encSpanT, hw]
      refine run_dreg c44_d6 ?_
      simp -implicitDefEqProofs [s0, s1, s7, s8, hlt, encSpanT]
      refine lcallQ_p (refKey_ok l[j].lo a k1) (by simp [encKeyT, wk_encA]) ?_
      simp -implicitDefEqProofs [s0, s1, s8, hlt, encSpanT]
      refine lcallQ_p (refKey_ok l[j].hi a k2) (by simp [encKeyT, wk_encA]) ?_
      simp -implicitDefEqProofs []
      refine appQ_tok (es2 := [avP (spanV a l[j])]) (by rw [List.length_map]; cases t <;> exact ht) (P_len d) (by simp [srcA, avP, spanV]) (by simp; omega) fun t' h' q1 q2 q3 q4 => ?_
      simp -implicitDefEqProofs [s8, inc_i64 hlt (by omega), -Int.natCast_add]
      exact ih (l.length - (j + 1)) _ _ (by omega) ⟨j + 1, t', d ++ [spanV a l[j]], rfl, by omega, by simp [s0], by simp [s1], by simp [s2], by simp, hdn.symm, by simp, by simpa using q1⟩
    · simp -implicitDefEqProofs [s0, s2, s8, hlt, encSpanT, hw, inc_i64 hlt (by omega), -Int.natCast_add]
      exact ih (l.length - (j + 1)) _ _ (by omega) ⟨j + 1, t, d, rfl, by omega, by simp [s0], by simp [s1], by simp [s2], by simp, hdn.symm, by simp [s7], ht⟩
    · simp -implicitDefEqProofs [s0, s8, hlt, encSpanT, hw]
      refine run_dreg c44_d6 ?_
      simp -implicitDefEqProofs [s0, s1, s7, s8, hlt, encSpanT]
      refine lcallQ_p (refKey_ok l[j].lo a k1) (by simp [encKeyT, wk_encA]) ?_
      simp -implicitDefEqProofs [s0, s1, s8, hlt, encSpanT]
      refine lcallQ_p (refKey_ok l[j].hi a k2) (by simp [encKeyT, wk_encA]) ?_
      simp -implicitDefEqProofs []
      refine appQ_tok (es2 := [avP (spanV a l[j])]) (by rw [List.length_map]; cases t <;> exact ht) (P_len d) (by simp [srcA, avP, spanV]) (by simp; omega) fun t' h' q1 q2 q3 q4 => ?_
      simp -implicitDefEqProofs [s8, inc_i64 hlt (by omega), -Int.natCast_add]
      exact ih (l.length - (j + 1)) _ _ (by omega) ⟨j + 1, t', d ++ [spanV a l[j]], rfl, by omega, by simp [s0], by simp [s1], by simp [s2], by simp, hdn.symm, by simp, by simpa using q1⟩
    · simp -implicitDefEqProofs [s0, s8, hlt, encSpanT, hw]
      refine run_dreg c44_d6 ?_
      simp -implicitDefEqProofs [s0, s1, s7, s8, hlt, encSpanT]
      refine lcallQ_p (refKey_ok l[j].lo a k1) (by simp [encKeyT, wk_encA]) ?_
      simp -implicitDefEqProofs [s0, s1, s8, hlt, encSpanT]
      refine lcallQ_p (refKey_ok l[j].hi a k2) (by simp [encKeyT, wk_encA]) ?_
      simp -implicitDefEqProofs []
      refine appQ_tok (es2 := [avP (spanV a l[j])]) (by rw [List.length_map]; cases t <;> exact ht) (P_len d) (by simp [srcA, avP, spanV]) (by simp; omega) fun t' h' q1 q2 q3 q4 => ?_
      simp -implicitDefEqProofs [s8, inc_i64 hlt (by omega), -Int.natCast_add]
      exact ih (l.length - (j + 1)) _ _ (by omega) ⟨j + 1, t', d ++ [spanV a l[j]], rfl, by omega, by simp [s0], by simp [s1], by simp [s2], by simp, hdn.symm, by simp, by simpa using q1⟩
  · obtain rfl : j = l.length := by omega
    rw [List.take_length] at hd
    simp -implicitDefEqProofs [s0, s7, s8]
    refine callQ_p (refOf_ok d (by omega)) (by simp [encL, avP]) ?_
    rw [hd]
    simp -implicitDefEqProofs [wk_setP]

def insB (f g : Nat → Bool) : Bool := (List.range 1000).all fun k => !(f k && !g k)
theorem insB_iff (f g : Nat → Bool) : insB f g = true ↔ ∀ k, k < 1000 → f k = true → g k = true := by
  simp only [insB, List.all_eq_true, List.mem_range, Bool.not_eq_true', Bool.and_eq_false_iff, Bool.not_eq_false']
  constructor
  · intro h k hk hf
    rcases h k hk with h | h
    · rw [hf] at h; cases h
    · exact h
  · intro h k hk
    cases hf : f k
    · exact .inl rfl
    · exact .inr (h k hk hf)
theorem insB_sets (a b : List Sp) : insB (fun k => hasK a k) (fun k => hasK b k) = insideL a b := by
  rw [Bool.eq_iff_iff, insB_iff, insideL_iff]
theorem alive10_ok : PCall Try.prog 7 [] (.bool true) := by
  refine PCall.run hb7 ok7 (by simp) (fun v hv => by cases hv) (.bool _) ?_
  have hp : plainL [(15, 17)] = [(15, 17)] := plainL_plain ⟨fun s hs => by rw [List.mem_singleton.1 hs]; decide, List.pairwise_singleton _ _⟩
  have e : rightB [⟨⟨0, 5⟩, ⟨0, 7⟩, true⟩] [10] = true := by decide
  have f : ∀ w, spansF [⟨⟨0, 5⟩, ⟨0, 7⟩, true⟩] [10] w = [(15, 17)] := fun w => by cases w <;> decide
  have r1 : readsF [⟨⟨0, 5⟩, ⟨0, 7⟩, true⟩] [10] = [(15, 17)] := by rw [readsF, if_pos e, f, hp]
  have r2 : writesF [⟨⟨0, 5⟩, ⟨0, 7⟩, true⟩] [10] = [(15, 17)] := by rw [writesF, if_pos e, f, hp]
  simp -implicitDefEqProofs []
  refine callQ_p (footSpans_run [⟨⟨0, 5⟩, ⟨0, 7⟩, true⟩] [10] (by simp) (by simp)) (by simp [encSpanT, encA, encN]) ?_
  rw [r1, r2, e]
  simp -implicitDefEqProofs []
  refine callQ_p (refSame_ok [(15, 17)] [(15, 17)] (by simp) (by simp)) (by simp [encL, avP]) ?_
  simp -implicitDefEqProofs []
  refine callQ_p (refSame_ok [(15, 17)] [(15, 17)] (by simp) (by simp)) (by simp [encL, avP]) ?_
  simp -implicitDefEqProofs []
end Go.Proofs
