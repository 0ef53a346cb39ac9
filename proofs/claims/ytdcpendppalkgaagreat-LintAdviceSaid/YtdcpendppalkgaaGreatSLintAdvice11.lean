/- What the functions that the statement reaches do: their contracts; and what follows of it. -/
import Derived.Test.YtdcpendppalkgaaGreatSLintAdvice10
import Derived.Test.YtdcpendppalkgaaGreatSLintAdvice7
import Derived.Test.YtdcpendppalkgaaGreatSLintAdvice5
import Derived.Test.YtdcpendppalkgaaGreatSLintAdvice3
import Derived.Test.YtdcpendppalkgaaGreatSLintAdvice9
/- The ways of a history: the document's walk. -/
namespace Go.Proofs
open Go Go.RowKit Go.Am

/-- The rows that have been laid. -/
structure WyI (h0 : H) (x : Ctlg) (n i : Nat) (h : H) : Prop where
  bn : h.bn = h0.bn + 2 + i
  hx : h.bx h0.bn = some (.sl .no (x.classes.map encCls) :: x.breaks.map (AV.int .i64))
  bx : h.bx (h0.bn + 1) = some (rowN n fun j => if j < i then .msl (h0.bn + 2 + j) 1 0 n else .sl .full [])
  cx : ∀ j, j < i → h.bx (h0.bn + 2 + j) = some (rowN n fun _ => .bool false)
  hf : HF h0 h (fun _ => False) (fun _ => False)
def fromA (L : List (Nat × Nat × Nat)) (u v : Nat) : Bool := L.any fun a => decide (a.1 = u) && decide (a.2.1 = v)
theorem fromA_next {L : List (Nat × Nat × Nat)} {j : Nat} (h : j < L.length) (u v : Nat) : fromA (L.take (j + 1)) u v = if u = L[j].1 ∧ v = L[j].2.1 then true else fromA (L.take j) u v := by
  rw [List.take_succ_eq_append_getElem h, fromA, List.any_append]
  by_cases e : u = L[j].1 ∧ v = L[j].2.1
  · obtain ⟨rfl, rfl⟩ := e
    simp
  · rw [if_neg e]
    have : (decide (L[j].1 = u) && decide (L[j].2.1 = v)) = false := by
      rw [Bool.eq_false_iff]
      intro q
      simp only [Bool.and_eq_true, decide_eq_true_eq] at q
      exact e ⟨q.1.symm, q.2.symm⟩
    simp [fromA, this]

set_option maxHeartbeats 4000000 in
theorem ways_call (x : Ctlg) (l : List Nod) (hx : x.wf) (hw : ∀ n ∈ l, n.wf) (hm : histMay x l = true) (hl : l.length ≤ 16) (hs : ∀ a ∈ l, a.small) (h0 : H) :
    CallP Tryz.prog 56 [.agg (encCtlg x), .sl .no (l.map encNod)] h0 fun r h1 => ∃ b c, r = .msl b 1 0 l.length ∧ Rel h1 b c l.length (fw l.length (edgB x l (fw l.length (dep0 l)))) ∧ HF h0 h1 (fun _ => False) (fun _ => False) := by
  refine CallP.run hb56 ok56 (by simp) ?_
  have hbl := hx.2.1
  have htk := x.take16 hbl
  simp -implicitDefEqProofs [encCtlg]
  refine ⟨_, _, .mkbox 1 24 [.sl .full []] (.t 15) (.t 15) .i64 .i64 l.length (by simp) (by simp) (by omega) (by omega), ?_⟩
  rw [rowN_rep]
  simp -implicitDefEqProofs []
  refine run_loop (fun m S h => ∃ i : Nat, m = l.length - i ∧ i ≤ l.length ∧ S 1 = .sl .no (l.map encNod) ∧ S 2 = .ptr h0.bn 0 ∧ S 5 = .int .i64 l.length ∧ S 6 = .msl (h0.bn + 1) 1 0 l.length ∧ S 7 = .int .i64 i ∧ WyI h0 x l.length i h) ?_ l.length ?_
  rotate_left
  · refine ⟨0, rfl, Nat.zero_le _, by simp, by simp, by simp, by simp, by simp, ⟨by simp, by simp, by simp, fun j hj => by omega, (HF.alloc _ _ _ _).trans (HF.alloc _ _ _ _)⟩⟩
  rintro m S h ⟨i, hmm, hi, t1, t2, t5, t6, t7, I⟩ ih
  by_cases hlt : i < l.length
  · have ii := idxOf_nat (k := .i64) hlt
    have bx := I.bx
    have hbn := I.bn
    have hp := rowN_put (n := l.length) (fun j => if j < i then AV.msl (h0.bn + 2 + j) 1 0 l.length else .sl .full []) hlt (.msl h.bn 1 0 l.length)
    have hp2 : (rowN l.length fun j => if j = i then AV.msl h.bn 1 0 l.length else if j < i then AV.msl (h0.bn + 2 + j) 1 0 l.length else .sl .full []) = rowN l.length fun j => if j < i + 1 then AV.msl (h0.bn + 2 + j) 1 0 l.length else .sl .full [] := rowN_congr fun j _ => by
      by_cases e : j = i
      · subst e; rw [if_pos rfl, if_pos (by omega), hbn]
      · rw [if_neg e]
        by_cases e2 : j < i
        · rw [if_pos e2, if_pos (by omega)]
        · rw [if_neg e2, if_neg (by omega)]
    have z : ¬ h0.bn + 1 = h.bn := by omega
    have lb : h0.bn + 1 < h.bn + 1 := by omega
    simp -implicitDefEqProofs [t5, t6, t7, hlt]
    refine ⟨_, _, .mkbox 1 1 [.bool false] (.t 24) (.t 24) .i64 .i64 l.length (by simp) (by simp) (by omega) (by omega), ?_⟩
    rw [rowN_rep]
    simp -implicitDefEqProofs [t7, hlt, bx, z, lb, show i + 1 ≤ l.length from hlt, inc_i64 hlt (by omega), -Int.natCast_add]
    rw [hp, hp2]
    refine ih (l.length - (i + 1)) _ _ (by omega) ⟨i + 1, rfl, by omega, by simp [t1], by simp [t2], by simp [t5], by simp [t6], by simp, ⟨by simp [hbn]; omega, ?_, by simp, fun j hj => ?_, ?_⟩⟩
    · simp only [set_bx, alloc_bx]
      rw [if_neg (by omega), if_neg (by omega), I.hx]
    · simp only [set_bx, alloc_bx]
      rw [if_neg (by omega)]
      by_cases e : j = i
      · rw [if_pos (by omega)]
      · rw [if_neg (by omega), I.cx j (by omega)]
    · exact (I.hf.trans (HF.alloc _ _ _ _)).trans' (HF.set (B := (· = h0.bn + 1)) _ rfl) (fun x hx e => by have e : x = h0.bn + 1 := e; omega) (fun _ _ h => h)
  obtain rfl : i = l.length := by omega
  have hbn := I.bn
  have R : Rel h (h0.bn + 1) (fun j => h0.bn + 2 + j) l.length (fun _ _ => false) := by
    refine ⟨by omega, ?_, fun j hj => by omega, fun j hj => by omega, fun a b ha hb hab => by omega, I.cx⟩
    rw [I.bx]
    exact congrArg some (rowN_congr fun j hj => by rw [if_pos hj])
  have hf := I.hf
  have hxx := I.hx
  have lx : h0.bn < h.bn := by omega
  clear ih I
  simp -implicitDefEqProofs [t1, t2, t5, t7, hxx, lx, hbl, htk]
  refine callQ_c (arcs_call x l hx hw hm hl hs h) (by simp [encCtlg]) fun r h1 ⟨t, L, hr, hL, mem, hf1⟩ => ?_
  subst hr
  have R1 := R.keep hf1 (fun h => h) (fun _ _ h => h)
  have hf2 : HF h0 h1 (fun _ => False) (fun _ => False) := hf.trans hf1
  clear R hf hxx lx hf1
  generalize hD : fw l.length (dep0 l) = D at *
  simp -implicitDefEqProofs []
  refine run_loop (fun q S h => ∃ j : Nat, q = L.length - j ∧ j ≤ L.length ∧ S 5 = .int .i64 l.length ∧ S 6 = .msl (h0.bn + 1) 1 0 l.length ∧ S 8 = .sl t (L.map encA3) ∧ S 9 = .int .i64 j ∧ Rel h (h0.bn + 1) (fun j => h0.bn + 2 + j) l.length (fromA (L.take j)) ∧ HF h0 h (fun _ => False) (fun _ => False)) ?_ L.length ?_
  rotate_left
  · exact ⟨0, rfl, Nat.zero_le _, by simp [t5], by simp [t6], by simp, by simp, R1.congr fun _ _ _ _ => by simp [fromA], hf2⟩
  clear R1 hf2 t1 t2 t5 t6 t7
  rintro q S h ⟨j, hq, hj, t5, t6, t8, t9, R, hf⟩ ih
  by_cases hlj : j < L.length
  · have ij := idxOf_nat (k := .i64) hlj
    have hmem := (mem L[j].1 L[j].2.1 L[j].2.2).1 (List.getElem_mem hlj)
    obtain ⟨_, _, _, hu, hv⟩ := hmem
    have iu := idxOf_nat (k := .i64) hu
    have iv := idxOf_nat (k := .i64) hv
    have rb := R.bx
    have rl := R.bl
    have ru := R.cx _ hu
    have lu := R.cl _ hu
    have ab := rowN_at (n := l.length) (fun i => AV.msl (h0.bn + 2 + i) 1 0 l.length) hu
    have hp := rowN_put (n := l.length) (fun k => AV.bool (fromA (L.take j) L[j].1 k)) hv (.bool true)
    have hge1 : L[j].1 + 1 ≤ l.length := hu
    have hge2 : L[j].2.1 + 1 ≤ l.length := hv
    simp -implicitDefEqProofs [t8, t9, hlj]
    refine run_dreg c56_d12 ?_
    simp -implicitDefEqProofs [t6, t8, t9, hlj, encA3, rb, rl, ru, lu, ab, hu, hv, hge1, hge2, inc_i64 hlj (by omega), -Int.natCast_add]
    rw [hp]
    refine ih (L.length - (j + 1)) _ _ (by omega) ⟨j + 1, rfl, by omega, by simp [t5], by simp [t6], by simp [t8], by simp, R.set hu true _ (fun a k => fromA_next hlj a k), ?_⟩
    exact hf.trans' (HF.set (B := (· = h0.bn + 2 + L[j].1)) _ rfl) (fun y hy e => by have e : y = h0.bn + 2 + L[j].1 := e; omega) (fun _ _ h => h)
  obtain rfl : j = L.length := by omega
  rw [List.take_length] at R
  have R2 : Rel h (h0.bn + 1) (fun j => h0.bn + 2 + j) l.length (edgB x l D) := R.congr fun u v hu hv => by
    rw [Bool.eq_iff_iff, ← SetA.edge hu hv]
    simp only [fromA, List.any_eq_true, Bool.and_eq_true, decide_eq_true_eq]
    constructor
    · rintro ⟨⟨a, b, m⟩, ha, rfl, rfl⟩
      obtain ⟨h1, h2, h3, _, _⟩ := (mem _ _ _).1 ha
      exact ⟨m, h2, h3, h1⟩
    · rintro ⟨m, h1, h2, h3⟩
      exact ⟨(u, v, m), (mem _ _ _).2 ⟨h3, h1, h2, hu, hv⟩, rfl, rfl⟩
  clear ih R
  simp -implicitDefEqProofs [t8, t9]
  refine fwWays_run (by omega) R2 (by simp [t5]) (by simp [t6]) (by simp) fun S' h' s5 s6 _ R' hf' hb' => ?_
  simp -implicitDefEqProofs [s6]
  exact ⟨⟨_, R'⟩, hf.trans' hf' (fun y hy e => by obtain ⟨i, _, e⟩ := e; omega) (fun _ _ h => h)⟩

set_option maxHeartbeats 1000000 in
theorem cycle_call (x : Ctlg) (l : List Nod) (hx : x.wf) (hw : ∀ n ∈ l, n.wf) (hm : histMay x l = true) (hl : l.length ≤ 16) (hs : ∀ a ∈ l, a.small) (h0 : H) :
    CallP Tryz.prog 34 [.agg (encCtlg x), .sl .no (l.map encNod)] h0 fun r h1 => ∃ (t : Tok) (L : List Int), r = .sl t (L.map encN) ∧ (L = [] ↔ ∀ a, a < l.length → fw l.length (edgB x l (fw l.length (dep0 l))) a a = false) := by
  refine CallP.run hb34 ok34 (by simp) ?_
  have hbl := hx.2.1
  have htk := x.take16 hbl
  simp -implicitDefEqProofs [encCtlg, htk, hbl]
  refine callQ_c (ways_call x l hx hw hm hl hs _) (by simp [encCtlg]) fun r h1 ⟨b, c, hr, R, hf⟩ => ?_
  subst hr
  generalize fw l.length (edgB x l (fw l.length (dep0 l))) = W at *
  simp -implicitDefEqProofs []
  refine run_loop (fun q S h => ∃ (i : Nat) (L : List Int) (t : Tok), q = l.length - i ∧ i ≤ l.length ∧ S 1 = .sl .no (l.map encNod) ∧ S 5 = .msl b 1 0 l.length ∧ S 6 = .sl t (L.map encN) ∧ S 7 = .int .i64 i ∧ Rel h b c l.length W ∧ (L = [] ↔ ∀ a, a < i → W a a = false) ∧ L.length ≤ i ∧ TLive h t L.length) ?_ l.length ?_
  rotate_left
  · exact ⟨0, [], .full, rfl, Nat.zero_le _, by simp, by simp, by simp, by simp, R, ⟨fun _ a ha => by omega, fun _ => rfl⟩, Nat.le_refl _, trivial⟩
  clear R hf
  rintro q S h ⟨i, L, t, hq, hi, t1, t5, t6, t7, R, hL, hlen, live⟩ ih
  by_cases hlt : i < l.length
  · have ii := idxOf_nat (k := .i64) hlt
    have rb := R.bx
    have rl := R.bl
    have ri := R.cx _ hlt
    have li := R.cl _ hlt
    have ab := rowN_at (n := l.length) (fun i => AV.msl (c i) 1 0 l.length) hlt
    have a1 := rowN_at (n := l.length) (fun k => AV.bool (W i k)) hlt
    have hge1 : i + 1 ≤ l.length := hlt
    cases hW : W i i
    · rw [hW] at a1
      simp -implicitDefEqProofs [t1, t5, t7, hlt, rb, rl, ri, li, ab, a1, hge1, inc_i64 hlt (by omega), -Int.natCast_add]
      refine ih (l.length - (i + 1)) _ _ (by omega) ⟨i + 1, L, t, rfl, by omega, by simp [t1], by simp [t5], by simp [t6], by simp, R, ?_, by omega, live⟩
      rw [hL]
      constructor
      · intro h a ha
        by_cases e : a = i
        · subst e; exact hW
        · exact h a (by omega)
      · exact fun h a ha => h a (by omega)
    · rw [hW] at a1
      simp -implicitDefEqProofs [t1, t5, t6, t7, hlt, rb, rl, ri, li, ab, a1, hge1]
      refine appQ_tok (t := t) (es := L.map encN) (es2 := [encN i]) (by simpa using live) (fun e he => by obtain ⟨a, _, rfl⟩ := List.mem_map.1 he; rfl) (by simp [srcA, encN]) (by simp; omega) fun t' h3 p1 p2 p3 p4 => ?_
      simp -implicitDefEqProofs [t7, inc_i64 hlt (by omega), -Int.natCast_add]
      refine ih (l.length - (i + 1)) _ _ (by omega) ⟨i + 1, L ++ [(i : Int)], t', rfl, by omega, by simp [t1], by simp [t5], by simp, by simp, R.keep p3 (fun h => h) (fun _ _ h => h), ?_, by simp; omega, by simpa using p1⟩
      constructor
      · intro h; simp at h
      · intro h
        have := h i (by omega)
        rw [hW] at this
        cases this
  · obtain rfl : i = l.length := by omega
    simp -implicitDefEqProofs [t1, t6, t7]
    exact ⟨t, L, ⟨rfl, rfl⟩, hL⟩
end Go.Proofs

/- The document's answer: may two steps, two classes clash? -/
namespace Go.Proofs
open Go Go.RowKit Go.Am

end Go.Proofs

/- The program's answer: may two steps, two classes clash? -/
namespace Go.Proofs
open Go Go.RowKit Go.Am

set_option maxHeartbeats 1000000 in
theorem lmay_ok (l : List SpanT) (n : Int) (hl : l.length ≤ 1000) : PCall Tryz.prog 31 [.sl .no (l.map encSpanT), .int .i64 n] (.tup [encL (mayR l n).1, encL (mayR l n).2]) := by
  refine PCall.run hb31 ok31 (by simp) (pures2 (elOK_SpanT.pureL l) (.int _ _)) (.tup (pures2 (pure_encL _) (pure_encL _))) ?_
  simp -implicitDefEqProofs []
  refine run_loop (fun m S h => ∃ (j : Nat) (v w : AV), m = l.length - j ∧ j ≤ l.length ∧ S 1 = .int .i64 n ∧ S 4 = v ∧ Am.wk v = encL (mayR (l.take j) n).1 ∧ S 5 = w ∧ Am.wk w = encL (mayR (l.take j) n).2 ∧ S 9 = .sl .no (l.map encSpanT) ∧ S 10 = .int .i64 l.length ∧ S 11 = .int .i64 j) ?_ l.length ?_
  rotate_left
  · exact ⟨0, _, _, rfl, Nat.zero_le _, by simp, rfl, by simp [mayR, encL], by simp; rfl, by simp [mayR, encL], by simp, by simp, by simp⟩
  rintro m S h ⟨j, v, w, hm, hj, t1, t4, w4, t5, w5, t9, t10, t11⟩ ih
  by_cases hlt : j < l.length
  · have i1 := idxOf_nat (k := .i64) hlt
    have hnx := mayR_next (n := n) hlt
    obtain ⟨q1, q2⟩ := mayR_len n (l.take j)
    have hsl : (spanL l[j] n).length ≤ 500 := by
      unfold spanL
      split
      · split
        · simp
        · exact plainL_len _
      · simp
    have hu1 := keysUnion_ok (mayR (l.take j) n).1 (spanL l[j] n) (by omega)
    have hu2 := keysUnion_ok (mayR (l.take j) n).2 (spanL l[j] n) (by omega)
    simp -implicitDefEqProofs [t1, t9, t10, t11, hlt, encSpanT]
    refine callQ_p (lintSpan_ok l[j] n) (by simp [encSpanT]) ?_
    simp -implicitDefEqProofs [t4]
    refine callQ_p hu1 (by simp [w4, wk_encL]) ?_
    simp -implicitDefEqProofs []
    cases hw : l[j].write
    · have e : mayW n (mayR (l.take j) n) l[j] = (plainL ((mayR (l.take j) n).1 ++ spanL l[j] n), (mayR (l.take j) n).2) := by simp [mayW, hw]
      rw [e] at hnx
      simp -implicitDefEqProofs [t11, inc_i64 hlt (by omega), -Int.natCast_add]
      exact ih (l.length - (j + 1)) _ _ (by omega) ⟨j + 1, _, _, rfl, by omega, by simp [t1], by simp; rfl, by rw [hnx, wk_encL], by simp [t5]; rfl, by rw [hnx]; exact w5, by simp [t9], by simp [t10], by simp⟩
    · have e : mayW n (mayR (l.take j) n) l[j] = (plainL ((mayR (l.take j) n).1 ++ spanL l[j] n), plainL ((mayR (l.take j) n).2 ++ spanL l[j] n)) := by simp [mayW, hw]
      rw [e] at hnx
      simp -implicitDefEqProofs [t5]
      refine callQ_p hu2 (by simp [w5, wk_encL]) ?_
      simp -implicitDefEqProofs [t11, inc_i64 hlt (by omega), -Int.natCast_add]
      exact ih (l.length - (j + 1)) _ _ (by omega) ⟨j + 1, _, _, rfl, by omega, by simp [t1], by simp; rfl, by rw [hnx, wk_encL], by simp; rfl, by rw [hnx, wk_encL], by simp [t9], by simp [t10], by simp⟩
  · obtain rfl : j = l.length := by omega
    rw [List.take_length] at w4 w5
    simp -implicitDefEqProofs [t4, t5, t10, t11, w4, w5]

def clashP (c : Cls) (i : Int) (d : Cls) (k : Int) : Bool := clsMay c && clsMay d && (decide (0 ≤ i) && decide (i < c.steps.length)) && (decide (0 ≤ k) && decide (k < d.steps.length)) && clashC c i.toNat d k.toNat
theorem cls_small {c : Cls} (h : clsMay c = true) : c.steps.length ≤ 4 ∧ ∀ s ∈ c.steps, s.foot.length ≤ 4 := by
  have hf := cls_foot h
  simp only [clsMay, Bool.and_eq_true, Bool.not_eq_true', decide_eq_false_iff_not] at h
  refine ⟨by omega, fun s hs => ?_⟩
  have := hf s hs
  simp only [footMay, Bool.and_eq_true, Bool.not_eq_true', decide_eq_false_iff_not] at this
  omega
set_option maxHeartbeats 1000000 in
theorem lClash_ok (c d : Cls) (hc : c.wf) (hd : d.wf) (i k : Int) : PCall Tryz.prog 15 [.agg (encCls c), .int .i64 i, .agg (encCls d), .int .i64 k] (.bool (clashP c i d k)) := by
  refine PCall.run hb15 ok15 (by simp) (pures_cons (.agg (pure_encCls c)) (pures_cons (.int _ _) (pures2 (.agg (pure_encCls d)) (.int _ _)))) (.bool _) ?_
  simp -implicitDefEqProofs [encCls, H.nil]
  refine callQ_p (classMay_ok c hc) (by simp [encCls]) ?_
  cases m1 : clsMay c
  · simp -implicitDefEqProofs [clashP, m1]
  simp -implicitDefEqProofs []
  refine callQ_p (classMay_ok d hd) (by simp [encCls]) ?_
  cases m2 : clsMay d
  · simp -implicitDefEqProofs [clashP, m1, m2]
  by_cases i0 : i < 0
  · simp -implicitDefEqProofs [clashP, m1, m2, i0, show ¬ 0 ≤ i by omega]
  by_cases i9 : (c.steps.length : Int) ≤ i
  · simp -implicitDefEqProofs [clashP, m1, m2, i0, i9, show ¬ i < c.steps.length by omega]
  by_cases k0 : k < 0
  · simp -implicitDefEqProofs [clashP, m1, m2, i0, i9, k0, show ¬ 0 ≤ k by omega]
  by_cases k9 : (d.steps.length : Int) ≤ k
  · simp -implicitDefEqProofs [clashP, m1, m2, i0, i9, k0, k9, show ¬ k < d.steps.length by omega]
  obtain ⟨a, rfl⟩ := Int.eq_ofNat_of_zero_le (show 0 ≤ i by omega)
  obtain ⟨b, rfl⟩ := Int.eq_ofNat_of_zero_le (show 0 ≤ k by omega)
  have ha : a < c.steps.length := by omega
  have hb : b < d.steps.length := by omega
  have j1 := idxOf_nat (k := .i64) ha
  have j2 := idxOf_nat (k := .i64) hb
  have l1 := (cls_small m1).2 _ (List.getElem_mem ha)
  have l2 := (cls_small m2).2 _ (List.getElem_mem hb)
  obtain ⟨q1, q2⟩ := mayR_len c.args c.steps[a].foot
  obtain ⟨q3, q4⟩ := mayR_len d.args d.steps[b].foot
  have hP : clashP c a d b = clash2 c.steps[a].foot c.args d.steps[b].foot d.args := by
    simp [clashP, m1, m2, ha, hb, clashC_of ha hb]
  rw [hP, clash2]
  simp -implicitDefEqProofs [i0, i9, k0, k9]
  refine run_dreg c15_d4 ?_
  simp -implicitDefEqProofs [ha, encStp]
  refine lcallQ_p (lmay_ok c.steps[a].foot c.args (by omega)) (by simp) ?_
  simp -implicitDefEqProofs []
  refine run_dreg c15_d5 ?_
  simp -implicitDefEqProofs [hb, encStp]
  refine lcallQ_p (lmay_ok d.steps[b].foot d.args (by omega)) (by simp) ?_
  simp -implicitDefEqProofs []
  refine callQ_p (keysMeet_ok (mayR c.steps[a].foot c.args).2 (mayR d.steps[b].foot d.args).1 (by omega) (by omega)) (by simp [wk_encL]) ?_
  cases hm : meetL (mayR c.steps[a].foot c.args).2 (mayR d.steps[b].foot d.args).1
  · simp -implicitDefEqProofs []
    refine callQ_p (keysMeet_ok (mayR c.steps[a].foot c.args).1 (mayR d.steps[b].foot d.args).2 (by omega) (by omega)) (by simp [wk_encL]) ?_
    simp -implicitDefEqProofs []
  · simp -implicitDefEqProofs []

theorem clashP_nat {c d : Cls} (m1 : clsMay c = true) (m2 : clsMay d = true) {i k : Nat} (hi : i < c.steps.length) (hk : k < d.steps.length) : clashP c i d k = clashC c i d k := by
  simp [clashP, m1, m2, hi, hk]
set_option maxHeartbeats 1000000 in
theorem lclash_ok (c d : Cls) (hc : c.wf) (hd : d.wf) (m1 : clsMay c = true) (m2 : clsMay d = true) : PCall Tryz.prog 24 [.agg (encCls c), .agg (encCls d)] (.bool (clsF c d)) := by
  refine PCall.run hb24 ok24 (by simp) (pures2 (.agg (pure_encCls c)) (.agg (pure_encCls d))) (.bool _) ?_
  have hcl := (cls_small m1).1
  have hdl := (cls_small m2).1
  rw [clsF_prog m1 m2]
  simp -implicitDefEqProofs [encCls, H.nil]
  refine run_loop (fun m S h => ∃ j : Nat, m = c.steps.length - j ∧ j ≤ c.steps.length ∧ S 2 = .ptr 0 0 ∧ S 3 = .ptr 1 0 ∧ S 9 = .int .i64 c.steps.length ∧ S 10 = .int .i64 j ∧ 1 < h.bn ∧ h.bx 0 = some (encCls c) ∧ h.bx 1 = some (encCls d) ∧ (((List.range j).any fun i => (List.range d.steps.length).any fun k => clashC c i d k) = false)) ?_ c.steps.length ?_
  rotate_left
  · exact ⟨0, by simp [encCls]⟩
  rintro m S h ⟨j, hm, hj, t2, t3, t9, t10, lb, b0, b1, hall⟩ ih
  have b0' := b0
  have b1' := b1
  rw [encCls] at b0' b1'
  have m0 : 0 < h.bn := by omega
  by_cases hlt : j < c.steps.length
  · simp -implicitDefEqProofs [t3, t9, t10, hlt, b1', lb]
    refine run_loop (fun m S h => ∃ j2 : Nat, m = d.steps.length - j2 ∧ j2 ≤ d.steps.length ∧ S 2 = .ptr 0 0 ∧ S 3 = .ptr 1 0 ∧ S 5 = .int .i64 j ∧ S 9 = .int .i64 c.steps.length ∧ S 10 = .int .i64 j ∧ S 15 = .int .i64 d.steps.length ∧ S 16 = .int .i64 j2 ∧ 1 < h.bn ∧ h.bx 0 = some (encCls c) ∧ h.bx 1 = some (encCls d) ∧ (((List.range j2).any fun k => clashC c j d k) = false)) ?_ d.steps.length ?_
    rotate_left
    · exact ⟨0, by simp [t2, t3, t9, t10, lb, b0, b1]⟩
    clear t2 t3 t9 t10 lb b0 b1 b0' b1' m0
    rintro m S h ⟨j2, hm, hj2, t2, t3, t5, t9, t10, t15, t16, lb, b0, b1, hall2⟩ ih2
    have b0' := b0
    have b1' := b1
    rw [encCls] at b0' b1'
    have m0 : 0 < h.bn := by omega
    by_cases hlt2 : j2 < d.steps.length
    · have hcc := lClash_ok c d hc hd j j2
      rw [clashP_nat m1 m2 hlt hlt2] at hcc
      simp -implicitDefEqProofs [t2, t3, t5, t15, t16, hlt2, b0', b1', lb, m0]
      refine callQ_p hcc (by simp [encCls]) ?_
      cases hcl : clashC c j d j2
      · simp -implicitDefEqProofs [t16, inc_i64 hlt2 (by omega), -Int.natCast_add]
        refine ih2 (d.steps.length - (j2 + 1)) _ _ (by omega) ⟨j2 + 1, rfl, by omega, by simp [t2], by simp [t3], by simp [t5], by simp [t9], by simp [t10], by simp [t15], by simp, lb, b0, b1, ?_⟩
        rw [List.range_succ, List.any_append, hall2]
        simp [hcl]
      · have : ((List.range c.steps.length).any fun i => (List.range d.steps.length).any fun k => clashC c i d k) = true := by
          simp only [List.any_eq_true, List.mem_range]
          exact ⟨j, hlt, j2, hlt2, hcl⟩
        rw [this]
        simp -implicitDefEqProofs []
    · obtain rfl : j2 = d.steps.length := by omega
      simp -implicitDefEqProofs [t10, t15, t16, inc_i64 hlt (by omega), -Int.natCast_add]
      refine ih (c.steps.length - (j + 1)) _ _ (by omega) ⟨j + 1, rfl, by omega, by simp [t2], by simp [t3], by simp [t9], by simp, lb, b0, b1, ?_⟩
      rw [List.range_succ, List.any_append, hall]
      simpa using hall2
  · obtain rfl : j = c.steps.length := by omega
    rw [hall]
    simp -implicitDefEqProofs [t9, t10]

def TNu (h : H) (t : Tok) : Prop := ∀ i, i < h.tn → ¬ TOwn t i
theorem TNu.full (h : H) : TNu h .full := fun i _ h => by cases h
theorem TNu.next {h h1 : H} {t t' : Tok} {B T : Nat → Prop} (a : TNu h t) (e : HF h h1 B T) (n : TNext h1 t t') : TNu h t' := fun i hi ho => by
  rcases n with rfl | ⟨j, rfl, hj⟩
  · exact a i hi ho
  · cases ho
    have := e.tn
    omega
def rowV (x : Ctlg) (c : Cls) : AV := .sl .no (x.classes.map fun d => [AV.bool (clsF c d)])
def rowsV (x : Ctlg) : AV := .sl .no (x.classes.map fun c => [rowV x c])
theorem pure_rowV (x : Ctlg) (c : Cls) : PureV (rowV x c) := .sl (fun i h => by cases h) fun e he v hv => by
  obtain ⟨d, _, rfl⟩ := List.mem_map.1 he
  rw [List.mem_singleton.1 hv]
  exact .bool _
theorem pure_rowsV (x : Ctlg) : PureV (rowsV x) := .sl (fun i h => by cases h) fun e he v hv => by
  obtain ⟨d, _, rfl⟩ := List.mem_map.1 he
  rw [List.mem_singleton.1 hv]
  exact pure_rowV _ _
theorem wk_rowV (x : Ctlg) (c : Cls) : Am.wk (rowV x c) = rowV x c := by simp [rowV]
theorem cat_cls {x : Ctlg} (h : catMay x = true) : ∀ d ∈ x.classes, clsMay d = true := fun d hd => by
  simp only [catMay, Bool.and_eq_true, List.all_eq_true] at h
  obtain ⟨j, hj, rfl⟩ := List.getElem_of_mem hd
  have := (h.1.2 j (List.mem_range.2 hj)).1
  rw [Ctlg.clsOK_of hj] at this
  exact this
set_option maxHeartbeats 1000000 in
theorem lrow_ok (x : Ctlg) (hw : x.wf) (hm : catMay x = true) (c : Cls) (hc : c.wf) (m1 : clsMay c = true) {h : H} {b : Nat} (hb : b < h.bn) (hbx : h.bx b = some (encCtlg x)) : SCall Tryz.prog 23 [.agg (encCls c), .ptr b 0] h (rowV x c) h := by
  refine SCall.ro (CallP.run hb23 ok23 (by simp) ?_) (pure_rowV x c)
  have hcls : ∀ d ∈ x.classes, clsMay d = true ∧ d.wf := fun d hd => ⟨cat_cls hm d hd, hw.1.2 d hd⟩
  have hn4 : x.classes.length ≤ 4 := (catMay_small hw hm).1.2.1
  rw [encCtlg] at hbx
  simp -implicitDefEqProofs [encCls, hbx, show ¬ b = h.bn by omega, show b < h.bn + 1 by omega]
  refine run_loop (fun m S h1 => ∃ (j : Nat) (t : Tok), m = x.classes.length - j ∧ j ≤ x.classes.length ∧ S 2 = .ptr h.bn 0 ∧ S 4 = .sl t ((x.classes.map fun d => [AV.bool (clsF c d)]).take j) ∧ S 8 = .sl .no (x.classes.map encCls) ∧ S 9 = .int .i64 x.classes.length ∧ S 10 = .int .i64 j ∧ h.bn < h1.bn ∧ h1.bx h.bn = some (encCls c) ∧ HF h h1 (fun _ => False) (fun _ => False) ∧ TLive h1 t j ∧ TNu h t) ?_ x.classes.length ?_
  rotate_left
  · exact ⟨0, .full, by simp, by simp, by simp, by simp, by simp, by simp, by simp, by simp, by simp [encCls], HF.alloc _ _ _ _, trivial, TNu.full _⟩
  rintro m S h1 ⟨j, t, hmm, hj, t2, t4, t8, t9, t10, lb, bc, hf, live, new⟩ ih
  by_cases hlt : j < x.classes.length
  · have i1 := idxOf_nat (k := .i64) hlt
    obtain ⟨m2, wd⟩ := hcls _ (List.getElem_mem hlt)
    have bc' := bc
    rw [encCls] at bc'
    simp -implicitDefEqProofs [t2, t8, t9, t10, hlt, encCls, bc', show ¬ h.bn = h1.bn by omega, show h.bn < h1.bn + 1 by omega]
    refine callQ_p (lclash_ok c x.classes[j] hc wd m1 m2) (by simp [encCls]) ?_
    simp -implicitDefEqProofs [t4]
    refine appQ_tok (t := t) (es := (x.classes.map fun d => [AV.bool (clsF c d)]).take j) (es2 := [[AV.bool (clsF c x.classes[j])]]) (by simpa [Nat.min_eq_left hj] using live) (fun e he => by obtain ⟨d, _, rfl⟩ := List.mem_map.1 (List.mem_of_mem_take he); rfl) (by simp [srcA]) (by simp; omega) fun t' h3 p1 p2 p3 p4 => ?_
    have hf1 := (hf.trans (HF.alloc h1 [.str ⟨#[]⟩, .int .i64 0, .sl .full [], .sl .full [], .bool false] _ _)).trans' (HF.set (B := (· = h1.bn)) (cs := encCls x.classes[j]) _ rfl) (fun y hy e => by have e : y = h1.bn := e; have := hf.bn; omega) (fun _ _ h => h)
    have hf2 : HF h h3 (fun _ => False) (fun _ => False) := hf1.trans' p3 (fun _ _ h => h.elim) (fun i hi ho => new i hi ho)
    simp -implicitDefEqProofs [t10, inc_i64 hlt (by omega), -Int.natCast_add]
    refine ih (x.classes.length - (j + 1)) _ _ (by omega) ⟨j + 1, t', rfl, by omega, by simp [t2], by simp [List.take_succ_eq_append_getElem (show j < (x.classes.map _).length by simpa using hlt)], by simp [t8], by simp [t9], by simp, by rw [p4]; simp; omega, ?_, hf2, by simpa [Nat.min_eq_left hj] using p1, new.next hf1 p2⟩
    rw [p3.bx _ (by simp; omega) fun h => h]
    simp [bc, show ¬ h.bn = h1.bn by omega]
  · obtain rfl : j = x.classes.length := by omega
    rw [List.take_of_length_le (by simp)] at t4
    simp -implicitDefEqProofs [t4, t9, t10, rowV]
    exact hf

set_option maxHeartbeats 1000000 in
theorem lClashes_ok (x : Ctlg) (hw : x.wf) : PCall Tryz.prog 7 [.agg (encCtlg x)] (if catMay x = true then rowsV x else .sl .no []) := by
  refine PCall.run hb7 ok7 (by simp) (pures1 (.agg (pure_encCtlg x))) (by split; exact pure_rowsV x; exact pure_encL []) ?_
  have hbl := hw.2.1
  have htk := x.take16 hbl
  have hcm := catMayP_ok x hw
  cases hm : catMay x
  · rw [hm] at hcm
    simp -implicitDefEqProofs [encCtlg, hbl, htk, H.nil]
    refine callQ_p hcm (by simp [encCtlg]) ?_
    simp -implicitDefEqProofs []
  rw [hm] at hcm
  have hn4 : x.classes.length ≤ 4 := (catMay_small hw hm).1.2.1
  simp -implicitDefEqProofs [encCtlg, hbl, htk, H.nil]
  refine callQ_p hcm (by simp [encCtlg]) ?_
  simp -implicitDefEqProofs []
  refine run_loop (fun m S h1 => ∃ (j : Nat) (t : Tok), m = x.classes.length - j ∧ j ≤ x.classes.length ∧ S 3 = .fn 23 [] [.ptr 0 0] ∧ S 4 = .sl t ((x.classes.map fun c => [rowV x c]).take j) ∧ S 12 = .sl .no (x.classes.map encCls) ∧ S 13 = .int .i64 x.classes.length ∧ S 14 = .int .i64 j ∧ 0 < h1.bn ∧ h1.bx 0 = some (encCtlg x) ∧ TLive h1 t j) ?_ x.classes.length ?_
  rotate_left
  · exact ⟨0, .full, by simp, by simp, by simp, by simp, by simp, by simp, by simp, by simp, by simp [encCtlg], trivial⟩
  rintro m S h1 ⟨j, t, hmm, hj, t3, t4, t12, t13, t14, lb, bc, live⟩ ih
  by_cases hlt : j < x.classes.length
  · have i1 := idxOf_nat (k := .i64) hlt
    have m2 := cat_cls hm _ (List.getElem_mem hlt)
    have wd := hw.1.2 _ (List.getElem_mem hlt)
    simp -implicitDefEqProofs [t3, t12, t13, t14, hlt, encCls]
    refine callQ_s (lrow_ok x hw hm x.classes[j] wd m2 (b := 0) (by simp) (by simp [show ¬ 0 = h1.bn by omega, bc])) (by simp [encCls]) ?_
    simp -implicitDefEqProofs [t4]
    refine appQ_tok (t := t) (es := (x.classes.map fun c => [rowV x c]).take j) (es2 := [[rowV x x.classes[j]]]) (by simpa [Nat.min_eq_left hj] using live) (fun e he => by obtain ⟨d, _, rfl⟩ := List.mem_map.1 (List.mem_of_mem_take he); rfl) (by simp [srcA]) (by simp; omega) fun t' h3 p1 p2 p3 p4 => ?_
    simp -implicitDefEqProofs [t14, inc_i64 hlt (by omega), -Int.natCast_add]
    refine ih (x.classes.length - (j + 1)) _ _ (by omega) ⟨j + 1, t', rfl, by omega, by simp [t3], by simp [List.take_succ_eq_append_getElem (show j < (x.classes.map _).length by simpa using hlt)], by simp [t12], by simp [t13], by simp, by rw [p4]; simp, ?_, by simpa [Nat.min_eq_left hj] using p1⟩
    rw [p3.bx _ (by simp) fun h => h]
    simp [bc, show ¬ 0 = h1.bn by omega]
  · obtain rfl : j = x.classes.length := by omega
    rw [List.take_of_length_le (by simp)] at t4
    simp -implicitDefEqProofs [t4, t13, t14, rowsV, wk_rowV]
end Go.Proofs

/- The document's answer: clashes of steps and classes; the catalogue with the advice. -/
namespace Go.Proofs
open Go Go.RowKit Go.Am

theorem clashX_of {x : Ctlg} {c d : Nat} (hc : c < x.classes.length) (hd : d < x.classes.length) : clashX x c d = clsF x.classes[c] x.classes[d] := by
  unfold clashX
  rw [List.getElem?_eq_getElem hc, List.getElem?_eq_getElem hd]
end Go.Proofs
