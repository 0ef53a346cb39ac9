/- What the functions that the statement reaches do: their contracts; and what follows of it. -/
import Derived.Test.YtejbnedogieocaaGreatSCatWords7
import Derived.Test.YtejbnedogieocaaGreatSCatWords5
import Derived.Test.YtejbnedogieocaaGreatSCatWords6
/- Pairs of classes, by a function over which one ranges; a catalogue that is opened. -/
namespace Go.Proofs
open Go Go.RowKit Go.Am

theorem pairs_ok (x : Ctlg) (hw : x.breaks.length = 16) (h : H) : SCall Tryz.prog 22 [.agg (encCtlg x)] h (.fn 46 [] [.ptr h.bn 0]) (h.alloc (encCtlg x)) := by
  refine SCall.newG (fun b => .fn 46 [] [.ptr b 0]) (fun _ _ _ _ _ _ _ h1 h2 => Low.fn1 (Low.ptr h1 h2)) (CallP.run hb22 ok22 (by simp) ?_) (pure_encCtlg x)
  have htk := x.take16 hw
  simp -implicitDefEqProofs [encCtlg]
  exact ⟨HF.alloc _ _ _ _, WkL.refl _⟩

/-- One round after the other. -/
theorem pairs1_ok (x : Ctlg) (n4 : x.classes.length ≤ 4) {l b : Nat} {h : H} (I : Nat → H → Prop) (hI : ∀ k h', I k h' → b < h'.bn ∧ h'.bx b = some (encCtlg x))
    (hr : ∀ c d h', c < x.classes.length → d < x.classes.length → I (c * x.classes.length + d) h' → ∀ K : AV → H → Prop, (∀ h'', I (c * x.classes.length + d + 1) h'' → K (.bool true) h'') → callQ Tryz.prog (.yld l) [.int .i64 c, .int .i64 d] h' K)
    (h0 : I 0 h) : CallP Tryz.prog 46 [.yld l, .ptr b 0] h fun _ h1 => I (x.classes.length * x.classes.length) h1 := by
  refine CallP.run hb46 ok46 (by simp) ?_
  obtain ⟨b1, b2⟩ := hI _ _ h0
  have hmn : ¬ (4 : Int) < x.classes.length := by omega
  simp -implicitDefEqProofs [b1, b2, encCtlg, hmn]
  refine run_loop (fun m s h1 => ∃ c : Nat, m = x.classes.length - c ∧ c ≤ x.classes.length ∧ s 0 = .yld l ∧ s 3 = .int .i64 x.classes.length ∧ s 10 = .int .i64 x.classes.length ∧ s 11 = .int .i64 c ∧ I (c * x.classes.length) h1) ?_ x.classes.length ?_
  rotate_left
  · exact ⟨0, by simpa using h0⟩
  rintro m s h1 ⟨c, hn, hc, s0, s3, s10, s11, hi⟩ ih
  by_cases hlc : c < x.classes.length
  · simp -implicitDefEqProofs [s3, s10, s11, hlc]
    refine run_loop (fun m s h1 => ∃ d : Nat, m = x.classes.length - d ∧ d ≤ x.classes.length ∧ s 0 = .yld l ∧ s 3 = .int .i64 x.classes.length ∧ s 10 = .int .i64 x.classes.length ∧ s 11 = .int .i64 c ∧ s 4 = .int .i64 c ∧ s 14 = .int .i64 x.classes.length ∧ s 15 = .int .i64 d ∧ I (c * x.classes.length + d) h1) ?_ x.classes.length ?_
    rotate_left
    · exact ⟨0, by simp [s0, s3, s10, s11, hi]⟩
    rintro m s h1 ⟨d, hn, hd, s0, s3, s10, s11, s4, s14, s15, hi⟩ ih2
    by_cases hld : d < x.classes.length
    · simp -implicitDefEqProofs [s0, s4, s14, s15, hld]
      refine hr c d _ hlc hld hi _ fun h2 hi2 => ?_
      simp -implicitDefEqProofs [s15, inc_i64 hld (by omega), -Int.natCast_add]
      exact ih2 (x.classes.length - (d + 1)) _ _ (by omega) ⟨d + 1, rfl, by omega, by simp [s0], by simp [s3], by simp [s10], by simp [s11], by simp [s4], by simp [s14], by simp, hi2⟩
    · obtain rfl : d = x.classes.length := by omega
      simp -implicitDefEqProofs [s11, s14, s15, inc_i64 hlc (by omega), -Int.natCast_add]
      exact ih (x.classes.length - (c + 1)) _ _ (by omega) ⟨c + 1, rfl, by omega, by simp [s0], by simp [s3], by simp [s10], by simp, by rw [Nat.add_mul, Nat.one_mul]; exact hi⟩
  · obtain rfl : c = x.classes.length := by omega
    simp -implicitDefEqProofs [s10, s11]
    exact hi

/-- The breakpoints that are turned, after so many pairs. -/
def turnL (n : Nat) (t : Nat → Nat → Int) (k : Nat) : List Int := (List.range 16).map fun i => if i / 4 < n ∧ i % 4 < n ∧ i / 4 * n + i % 4 < k then t (i / 4) (i % 4) else 0

theorem turnL_len (n : Nat) (t : Nat → Nat → Int) (k : Nat) : (turnL n t k).length = 16 := by simp [turnL]
theorem turnL_get (n : Nat) (t : Nat → Nat → Int) (k : Nat) {i : Nat} (hi : i < (turnL n t k).length) : (turnL n t k)[i] = if i / 4 < n ∧ i % 4 < n ∧ i / 4 * n + i % 4 < k then t (i / 4) (i % 4) else 0 := by
  simp [turnL]
theorem turnL_step {n : Nat} (n4 : n ≤ 4) (t : Nat → Nat → Int) {c d : Nat} (hc : c < n) (hd : d < n) : List.take (c * 4 + d) ((turnL n t (c * n + d)).map (AV.int .i64)) ++ AV.int .i64 (t c d) :: List.drop (c * 4 + d + 1) ((turnL n t (c * n + d)).map (AV.int .i64)) = (turnL n t (c * n + d + 1)).map (AV.int .i64) := by
  have hl := turnL_len n t (c * n + d)
  have hl2 := turnL_len n t (c * n + d + 1)
  have key : turnL n t (c * n + d + 1) = (turnL n t (c * n + d)).set (c * 4 + d) (t c d) := by
    apply List.ext_getElem
    · simp [hl, hl2]
    intro i h1 h2
    rw [List.getElem_set, turnL_get]
    by_cases h : c * 4 + d = i
    · subst h
      have e1 : (c * 4 + d) / 4 = c := by omega
      have e2 : (c * 4 + d) % 4 = d := by omega
      rw [e1, e2, if_pos ⟨hc, hd, by omega⟩, if_pos rfl]
    · rw [if_neg h, turnL_get]
      have e : (i / 4 < n ∧ i % 4 < n ∧ i / 4 * n + i % 4 < c * n + d + 1) ↔ (i / 4 < n ∧ i % 4 < n ∧ i / 4 * n + i % 4 < c * n + d) := by
        constructor
        · rintro ⟨a, b, e⟩
          refine ⟨a, b, ?_⟩
          have hne : i / 4 * n + i % 4 ≠ c * n + d := fun he => by
            have q1 : i / 4 = c := by
              rcases Nat.lt_trichotomy (i / 4) c with q | q | q
              · have := Nat.mul_le_mul_right n (show i / 4 + 1 ≤ c by omega)
                rw [Nat.add_mul] at this; omega
              · exact q
              · have := Nat.mul_le_mul_right n (show c + 1 ≤ i / 4 by omega)
                rw [Nat.add_mul] at this; omega
            rw [q1] at he
            omega
          omega
        · rintro ⟨a, b, e⟩
          exact ⟨a, b, by omega⟩
      simp only [e]
  rw [key, List.map_set, List.set_eq_take_append_cons_drop, if_pos (by simp [hl]; omega)]

theorem turned_run (x : Ctlg) (n4 : x.classes.length ≤ 4) {h : H} {G : FuncId} {first caps : List AV} (hf : first.map wk = first) (hcp : caps.map wk = caps) (t : Nat → Nat → Int)
    (ht : ∀ c d h', c < x.classes.length → d < x.classes.length → HF h h' (fun _ => False) (fun _ => False) → SCall Tryz.prog G (first ++ [.int .i64 c, .int .i64 d] ++ caps) h' (.int .i64 (t c d)) h')
    {S : Slots} {h5 : H} {Q : Res → Slots → H → Prop} {k : List It} (s3 : S 3 = .ptr (h.bn + 1) 0) (_ : S 4 = .ptr (h.bn + 2) 0) (s5 : S 5 = .ptr (h.bn + 3) 0) (s9 : S 9 = .fn 46 [] [.ptr (h.bn + 4) 0])
    (hln : h5.ln = h.ln) (hbn : h5.bn = h.bn + 5) (b1 : h5.bx (h.bn + 1) = some [.fn G first caps]) (b2 : ∃ cs, h5.bx (h.bn + 2) = some cs ∧ cs.length = 16) (b3 : h5.bx (h.bn + 3) = some ((turnL x.classes.length t 0).map (AV.int .i64))) (b4 : h5.bx (h.bn + 4) = some (encCtlg x)) (hhf : HF h h5 (fun _ => False) (fun _ => False))
    (hk : ∀ h', h.bn + 5 ≤ h'.bn → (∃ cs, h'.bx (h.bn + 2) = some cs ∧ cs.length = 16) → h'.bx (h.bn + 3) = some ((turnL x.classes.length t (x.classes.length * x.classes.length)).map (AV.int .i64)) → HF h h' (fun _ => False) (fun _ => False) → Run Tryz.prog false k Q S h') :
    Run Tryz.prog false (.c (.rngf (.t 9) [10, 11] c26_x7 c26_y8) :: k) Q S h5 := by
  let J : Nat → H → Prop := fun k h' => h.ln < h'.ln ∧ h'.lp h.ln = some ⟨S, [10, 11], c26_x7, c26_y8, .ready, none⟩ ∧ h.bn + 5 ≤ h'.bn ∧ h'.bx (h.bn + 1) = some [.fn G first caps] ∧ (∃ cs, h'.bx (h.bn + 2) = some cs ∧ cs.length = 16) ∧ h'.bx (h.bn + 3) = some ((turnL x.classes.length t k).map (AV.int .i64)) ∧ h'.bx (h.bn + 4) = some (encCtlg x) ∧ HF h h' (fun _ => False) (fun _ => False)
  refine .rngf (Z := fun _ h1 => J (x.classes.length * x.classes.length) h1) (F := 46) (first := []) (caps := [.ptr (h.bn + 4) 0]) rfl (by simpa using s9) (pairs1_ok x n4 J (fun k h' ⟨_, _, q1, _, _, _, q2, _⟩ => ⟨by omega, q2⟩) ?_ ?_) ?_ ?_
  · rintro c d h' hc hd ⟨j1, j2, j3, j4, ⟨cs, j5, j5'⟩, j6, j7, j8⟩ K hK
    rw [hln]
    refine callQ_y (q := ⟨S, [10, 11], c26_x7, c26_y8, .ready, none⟩) j1 j2 rfl ?_
    have hst := turnL_step n4 t hc hd
    have hl := turnL_len x.classes.length t (c * x.classes.length + d)
    simp -implicitDefEqProofs [slotsP, j1, j2]
    refine run_dreg c26_d6 ?_
    simp -implicitDefEqProofs [s3, j4, show h.bn + 1 < h'.bn by omega]
    refine callD_s (ht c d (h'.setLoop h.ln _) hc hd ⟨j8.bn, j8.bx, j8.tn, j8.tk, j8.ln, fun l hl => by simp [show l ≠ h.ln by omega]; exact j8.lp l hl, j8.mn, j8.mp⟩) (by simp [hf, hcp]) ?_
    simp -implicitDefEqProofs [s3, s5, j1, j4, j6, show (c : Int) < 4 by omega, show (d : Int) < 4 by omega, hst, hl, show h.bn + 3 < h'.bn by omega, show c * 4 + d + 1 ≤ 16 by omega, roundQ]
    refine ⟨by omega, hK _ ⟨by simpa using j1, by simp, by simpa using j3, by simp [j4], ⟨cs, by simp [j5], j5'⟩, by simp, by simp [j7], ⟨by simpa using j8.bn, fun b hb hn => by simp [show b ≠ h.bn + 3 by omega]; exact j8.bx b hb hn, j8.tn, j8.tk, j8.ln, fun l hl => ?_, j8.mn, j8.mp⟩⟩⟩
    have : l ≠ h.ln := by omega
    simpa [this] using j8.lp l hl
  · exact ⟨by simp [hln], by simp [hln], by simp [hbn], by simpa using b1, by simpa using b2, by simpa using b3, by simpa using b4, ⟨by simpa using hhf.bn, hhf.bx, hhf.tn, hhf.tk, by simp [hln], fun l hl => by simp [hln, show l ≠ h.ln by omega]; exact hhf.lp l hl, hhf.mn, hhf.mp⟩⟩
  · rintro v h2 ⟨j1, j2, j3, j4, j5, j6, j7, j8⟩
    rw [hln]
    exact ⟨j1, _, j2, by simp⟩
  · rintro v h2 q ⟨j1, j2, j3, j4, j5, j6, j7, j8⟩ hq
    rw [hln] at hq ⊢
    rw [j2] at hq
    cases hq
    exact hk _ (by simpa using j3) (by simpa using j5) (by simpa using j6) ⟨j8.bn, j8.bx, j8.tn, j8.tk, j8.ln, fun l hl => by simp [show l ≠ h.ln by omega]; exact j8.lp l hl, j8.mn, j8.mp⟩

theorem turned_ok (x : Ctlg) (hw : x.breaks.length = 16) (n4 : x.classes.length ≤ 4) {h : H} {G : FuncId} {first caps : List AV} (hf : first.map wk = first) (hcp : caps.map wk = caps) (t : Nat → Nat → Int)
    (ht : ∀ c d h', c < x.classes.length → d < x.classes.length → HF h h' (fun _ => False) (fun _ => False) → SCall Tryz.prog G (first ++ [.int .i64 c, .int .i64 d] ++ caps) h' (.int .i64 (t c d)) h') :
    SCall Tryz.prog 26 [.agg (encCtlg x), .fn G first caps] h (.agg ((turnL x.classes.length t (x.classes.length * x.classes.length)).map (AV.int .i64))) h := by
  refine SCall.ro (CallP.run hb26 ok26 (by simp) ?_) (.agg (pure_arr _))
  have htk := x.take16 hw
  simp -implicitDefEqProofs [encCtlg, htk, hw]
  refine callQ_s (pairs_ok x hw _) (by simp [encCtlg]) ?_
  simp -implicitDefEqProofs []
  have hz : turnL x.classes.length t 0 = List.replicate 16 0 := by simp [turnL, List.replicate, List.range, List.range.loop]
  refine turned_run x n4 (h := h) hf hcp t ht (by simp) (by simp) (by simp) (by simp) (by simp) (by simp) (by simp) (by simp) (by simp [hz, List.replicate]) (by simp [encCtlg]) ((((HF.alloc _ _ _ _).trans (HF.alloc _ _ _ _)).trans (HF.alloc _ _ _ _)).trans ((HF.alloc _ _ _ _).trans (HF.alloc _ _ _ _))) ?_
  rintro h' q1 ⟨cs, q2, q2'⟩ q3 q4
  have hl := turnL_len x.classes.length t (x.classes.length * x.classes.length)
  have htk2 : List.take 16 ((turnL x.classes.length t (x.classes.length * x.classes.length)).map (AV.int .i64)) = (turnL x.classes.length t (x.classes.length * x.classes.length)).map (AV.int .i64) := List.take_of_length_le (by simp [hl])
  simp -implicitDefEqProofs [q2, q3, hl, htk2, q2', show h.bn + 1 + 1 + 1 < h'.bn by omega, show h.bn + 1 + 1 < h'.bn by omega]
  exact q4.trans' (HF.set (B := (· = h.bn + 1 + 1)) _ rfl) (fun b hb e => by have e : b = h.bn + 1 + 1 := e; omega) (fun _ _ h => h)

def openT (x : Ctlg) (c _ : Nat) : Int := if h : c < x.classes.length then x.classes[c].all else 0
def openOf (x : Ctlg) : Ctlg := x.with (turnL x.classes.length (openT x) (x.classes.length * x.classes.length))

theorem open1_ok (x : Ctlg) (hx : x.small) {h : H} {b c d : Nat} (hb : b < h.bn) (hbx : h.bx b = some (encCtlg x)) (hc : c < x.classes.length) : SCall Tryz.prog 33 [.int .i64 c, .int .i64 d, .ptr b 0] h (.int .i64 (openT x c d)) h := by
  refine SCall.ro (CallP.run hb33 ok33 (by simp) ?_) (.int _ _)
  rw [encCtlg] at hbx
  simp -implicitDefEqProofs [hb, hbx, hc]
  refine callQ_p (all_ok x.classes[c] (hx.2.2.1 _ (List.getElem_mem hc))) (by simp) ?_
  simp -implicitDefEqProofs [openT, hc]
  exact HF.refl _ _ _

theorem Ctlg.with_len (x : Ctlg) (l : List Int) : (x.with l).classes = x.classes := rfl
theorem opened_ok (x : Ctlg) (hx : x.small) : PCall Tryz.prog 15 [.agg (encCtlg x)] (.agg (encCtlg (openOf x))) := by
  refine PCall.run hb15 ok15 (by simp) (pures1 (.agg (pure_encCtlg x))) (.agg (pure_encCtlg _)) ?_
  have htk := x.take16 hx.2.2.2
  have hbl := hx.2.2.2
  simp -implicitDefEqProofs [encCtlg, htk, hbl]
  refine callQ_p (copied_ok x hx) (by simp [encCtlg]) ?_
  simp -implicitDefEqProofs [encCtlg, hbl, H.nil]
  refine callQ_s (turned_ok x hbl hx.2.1 (first := []) (caps := [.ptr 0 0]) rfl (by simp) (openT x) fun c d h' hc hd hf => open1_ok x hx ?_ ?_ hc) (by simp [encCtlg]) ?_
  · have := hf.bn
    simp at this
    omega
  · rw [hf.bx 0 (by simp) (fun h => h)]
    simp [encCtlg, hbl]
  have hl := turnL_len x.classes.length (openT x) (x.classes.length * x.classes.length)
  have hdr : List.drop 16 (x.breaks.map (AV.int .i64)) = [] := by simp [hbl]
  simp -implicitDefEqProofs [hbl, hl, hdr, H.nil]
  exact ⟨rfl, by rw [List.take_of_length_le (by simp [hl]), List.take_of_length_le (by simp [hl])]; rfl⟩
end Go.Proofs

/- What a catalogue that may be is; its opened and its closed one. -/
namespace Go.Proofs
open Go Go.RowKit Go.Am

theorem progMay_len {l : List Inst} {a : Int} (h : progMay l a = true) : l.length ≤ 8 := by
  simp only [progMay, Bool.and_eq_true, Bool.not_eq_true', decide_eq_false_iff_not] at h
  omega
theorem footMay_len {l : List SpanT} {a : Int} (h : footMay l a = true) : l.length ≤ 4 := by
  simp only [footMay, Bool.and_eq_true, Bool.not_eq_true', decide_eq_false_iff_not] at h
  omega
theorem stepMay_small {a : Int} {p : Stp × Stp} (h : stepMay a p = true) : p.1.small ∧ p.2.small := by
  simp only [stepMay, backMay, Bool.and_eq_true, Bool.or_eq_true, Bool.not_eq_true', decide_eq_false_iff_not] at h
  obtain ⟨⟨⟨h1, h2⟩, h3⟩, h4, _⟩ := h
  refine ⟨⟨progMay_len h1, footMay_len h2⟩, ?_, footMay_len h3⟩
  rcases h4 with h | h
  · omega
  · exact progMay_len h
theorem clsMay_small {c : Cls} (h : clsMay c = true) : c.small := by
  simp only [clsMay, Bool.and_eq_true, Bool.not_eq_true', decide_eq_false_iff_not, decide_eq_true_eq] at h
  obtain ⟨⟨⟨_, h5⟩, h6⟩, h7⟩ := h
  have key : ∀ j (h1 : j < c.steps.length) (h2 : j < c.comps.length), c.steps[j].small ∧ c.comps[j].small := fun j h1 h2 => by
    rw [List.all_eq_true] at h7
    have hz : j < (c.steps.zip c.comps).length := by rw [List.length_zip]; omega
    have := stepMay_small (h7 _ (List.getElem_mem hz))
    rwa [List.getElem_zip] at this
  refine ⟨by omega, by omega, h6, fun s hs => ?_, fun s hs => ?_⟩
  · obtain ⟨j, hj, rfl⟩ := List.mem_iff_getElem.1 hs
    exact (key j hj (by omega)).1
  · obtain ⟨j, hj, rfl⟩ := List.mem_iff_getElem.1 hs
    exact (key j (by omega) hj).2
theorem catMay_small {x : Ctlg} (hw : x.wf) (h : catMay x = true) : x.small ∧ x.good := by
  simp only [catMay, Bool.and_eq_true, Bool.not_eq_true', decide_eq_false_iff_not] at h
  obtain ⟨⟨⟨h1, h2⟩, h3⟩, h4⟩ := h
  have hc : ∀ c (h : c < x.classes.length), x.classes[c].small := fun c h => by
    rw [List.all_eq_true] at h3
    have := h3 c (List.mem_range.2 h)
    rw [Bool.and_eq_true, Ctlg.clsOK_of h] at this
    exact clsMay_small this.1
  refine ⟨⟨by omega, by omega, fun c hc' => ?_, hw.2.1⟩, hw, by omega, fun c h => (hc c h).2.1, fun c d => ?_⟩
  · obtain ⟨j, hj, rfl⟩ := List.mem_iff_getElem.1 hc'
    exact hc j hj
  · have hk : ∀ k : Nat, 0 ≤ (x.breaks[k]?).getD 0 := fun k => by
      by_cases hk : k < 16
      · rw [List.all_eq_true] at h4
        have := h4 (k / 4) (List.mem_range.2 (by omega))
        rw [List.all_eq_true] at this
        have := this (k % 4) (List.mem_range.2 (by omega))
        simp only [Ctlg.brkOK, Bool.and_eq_true, Bool.not_eq_true', decide_eq_false_iff_not] at this
        have e : x.brk (k / 4) (k % 4) = (x.breaks[k]?).getD 0 := by rw [Ctlg.brk, show 4 * (k / 4) + k % 4 = k by omega]
        omega
      · rw [List.getElem?_eq_none (by have := hw.2.1; omega)]
        simp
    exact hk _

theorem all_le (c : Cls) (h : c.small) : 0 ≤ c.all ∧ c.all ≤ 7 := by
  obtain ⟨h0, h4, _⟩ := h
  have hl : c.steps.length = 1 ∨ c.steps.length = 2 ∨ c.steps.length = 3 ∨ c.steps.length = 4 := by omega
  rcases hl with hl | hl | hl | hl <;> simp [Cls.all, hl]
theorem openT_le {x : Ctlg} (hx : x.small) (c d : Nat) : 0 ≤ openT x c d ∧ openT x c d ≤ 7 := by
  unfold openT
  split
  · exact all_le _ (hx.2.2.1 _ (List.getElem_mem _))
  · omega
theorem turnL_all {n : Nat} {t : Nat → Nat → Int} {k : Nat} {Q : Int → Prop} (h0 : Q 0) (ht : ∀ c d, Q (t c d)) : ∀ y ∈ turnL n t k, Q y := fun y hy => by
  obtain ⟨j, hj, rfl⟩ := List.mem_iff_getElem.1 hy
  rw [turnL_get]
  split
  · exact ht _ _
  · exact h0
theorem with_good {x : Ctlg} (_ : x.small) (hg : x.good) {l : List Int} (hl : l.length = 16) (h : ∀ y ∈ l, 0 ≤ y ∧ y ≤ 7) : (x.with l).good where
  wf := ⟨hg.wf.1, hl, fun y hy => by have := h y hy; simp only [inI]; omega⟩
  n4 := hg.n4
  s4 := hg.s4
  nn := fun c d => by
    unfold Ctlg.brk
    rcases h2 : (x.with l).breaks[4 * c + d]? with _ | v
    · simp
    · exact (h v (List.mem_of_getElem? h2)).1
theorem open_good {x : Ctlg} (hx : x.small) (hg : x.good) : (openOf x).good := with_good hx hg (turnL_len _ _ _) (turnL_all (by omega) (openT_le hx))
theorem closed_good {x : Ctlg} (hx : x.small) (hg : x.good) : (closedOf x).good := with_good hx hg (by simp) (fun y hy => by rw [List.eq_of_mem_replicate hy]; omega)

theorem open_at {x : Ctlg} (hx : x.small) {c d : Nat} (hc : c < x.classes.length) (hd : d < x.classes.length) (j : Nat) : (openOf x).brkAt c d j = decide (j + 1 < x.classes[c].steps.length) := by
  have hn := hx.2.1
  have hcl : (openOf x).classes = x.classes := rfl
  have hb : (openOf x).brk c d = x.classes[c].all := by
    rw [Ctlg.brk_of (turnL_len _ _ _) (by omega) (by omega)]
    show (turnL x.classes.length (openT x) (x.classes.length * x.classes.length))[4 * c + d]'(by rw [turnL_len]; omega) = _
    rw [turnL_get, show (4 * c + d) / 4 = c by omega, show (4 * c + d) % 4 = d by omega, if_pos]
    · simp [openT, hc]
    · refine ⟨hc, hd, ?_⟩
      have := Nat.mul_le_mul_right x.classes.length (show c + 1 ≤ x.classes.length by omega)
      rw [Nat.add_mul] at this
      omega
  have hs : (openOf x).stepsN c = x.classes[c].steps.length := Ctlg.stepsN_of (x := openOf x) hc
  have hi : ∀ k : Nat, k < x.classes.length → (openOf x).inn k = true := fun k hk => by
    simp only [Ctlg.inn, hcl, Bool.and_eq_true, decide_eq_true_eq]
    omega
  simp only [Ctlg.brkAt, hi c hc, hi d hd, Int.toNat_natCast, hs, hb, Bool.true_and]
  have hsm := hx.2.2.1 _ (List.getElem_mem hc)
  obtain ⟨h0, h4, _⟩ := hsm
  by_cases hj : j + 1 < x.classes[c].steps.length
  · have hl : x.classes[c].steps.length = 2 ∨ x.classes[c].steps.length = 3 ∨ x.classes[c].steps.length = 4 := by omega
    have hj3 : j = 0 ∨ j = 1 ∨ j = 2 := by omega
    have e1 : decide ((0 : Int) ≤ (j : Nat)) = true := by simp
    have e2 : decide ((j : Int) + 1 < x.classes[c].steps.length) = true := by simp; omega
    rw [e1, e2, decide_eq_true hj]
    rcases hl with hl | hl | hl <;> rcases hj3 with rfl | rfl | rfl <;> first | omega | (simp [Cls.all, hl, bitN])
  · have e2 : decide ((j : Int) + 1 < x.classes[c].steps.length) = false := by simp; omega
    rw [e2, decide_eq_false hj]
    simp
theorem closed_at (x : Ctlg) (c d : Int) (j : Nat) : (closedOf x).brkAt c d j = false := by
  have hb : ∀ c d, (closedOf x).brk c d = 0 := fun c d => by
    unfold Ctlg.brk closedOf Ctlg.with
    rcases h2 : (List.replicate 16 (0 : Int))[4 * c + d]? with _ | v
    · simp []
    · have := List.eq_of_mem_replicate (List.mem_of_getElem? h2)
      simp [this]
  simp [Ctlg.brkAt, hb, bitN]
end Go.Proofs

/- Breakpoints that are counted; a catalogue's breakpoints that may be: plain laws. -/
namespace Go.Proofs
open Go Go.RowKit Go.Am

def sumN (f : Nat → Nat) : Nat → Nat
  | 0 => 0
  | k + 1 => sumN f k + f k
theorem sumN_le {f g : Nat → Nat} : ∀ k : Nat, (∀ j, j < k → f j ≤ g j) → sumN f k ≤ sumN g k
  | 0, _ => Nat.le_refl _
  | k + 1, h => Nat.add_le_add (sumN_le k fun j hj => h j (by omega)) (h k (by omega))
theorem sumN_congr {f g : Nat → Nat} : ∀ k : Nat, (∀ j, j < k → f j = g j) → sumN f k = sumN g k
  | 0, _ => rfl
  | k + 1, h => by rw [sumN, sumN, sumN_congr k fun j hj => h j (by omega), h k (by omega)]
theorem sumN_bound {f : Nat → Nat} {m : Nat} (hf : ∀ j, f j ≤ m) : ∀ k : Nat, sumN f k ≤ m * k
  | 0 => Nat.zero_le _
  | k + 1 => by
    have := sumN_bound hf k
    have := hf k
    rw [sumN, Nat.mul_add]; omega
theorem sumN_zero {f : Nat → Nat} (k : Nat) (h : ∀ j, j < k → f j = 0) : sumN f k = 0 := by
  have := sumN_congr (g := fun _ => 0) k h
  rw [this]
  have : ∀ k, sumN (fun _ => 0) k = 0 := fun k => by
    induction k with
    | zero => rfl
    | succ k ih => rw [sumN, ih]
  exact this k

def popc (v : Nat) : Nat := v % 2 + v / 2 % 2 + v / 4 % 2
theorem popc_le (v : Nat) : popc v ≤ 3 := by simp only [popc]; omega
def Ctlg.pcB (x : Ctlg) (c d : Nat) : Nat := popc (x.brk c d).toNat
def Ctlg.cntB (x : Ctlg) : Nat := sumN (fun c => sumN (fun d => x.pcB c d) x.classes.length) x.classes.length
def Ctlg.one (x : Ctlg) (c d i : Nat) : Nat := if x.brkAt c d i = true then 1 else 0

theorem may_brk {x : Ctlg} (h : catMay x = true) (c d : Nat) (hc : c < 4) (hd : d < 4) : 0 ≤ x.brk c d ∧ x.brk c d < x.mostB c d := by
  simp only [catMay, Bool.and_eq_true, Bool.not_eq_true', decide_eq_false_iff_not] at h
  obtain ⟨_, h4⟩ := h
  rw [List.all_eq_true] at h4
  have := h4 c (List.mem_range.2 hc)
  rw [List.all_eq_true] at this
  have := this d (List.mem_range.2 hd)
  simp only [Ctlg.brkOK, Bool.and_eq_true, Bool.not_eq_true', decide_eq_false_iff_not] at this
  omega

theorem bits_cnt : ∀ s : Fin 4, ∀ v : Fin 8, v.1 < 2 ^ s.1 → popc v = (if bitN v 0 = true ∧ 1 < s.1 + 1 then 1 else 0) + (if bitN v 1 = true ∧ 2 < s.1 + 1 then 1 else 0) + (if bitN v 2 = true ∧ 3 < s.1 + 1 then 1 else 0) := by decide

theorem pc_one {x : Ctlg} (hw : x.wf) (h : catMay x = true) {c d : Nat} (hc : c < x.classes.length) (hd : d < x.classes.length) : sumN (x.one c d) 4 = x.pcB c d := by
  obtain ⟨hs, hg⟩ := catMay_small hw h
  have h4 := hs.2.1
  obtain ⟨b0, b1⟩ := may_brk h c d (by omega) (by omega)
  obtain ⟨v, hv⟩ := Int.eq_ofNat_of_zero_le b0
  have hst : x.stepsN c = x.classes[c].steps.length := Ctlg.stepsN_of hc
  obtain ⟨s0, s4, _⟩ := hs.2.2.1 _ (List.getElem_mem hc)
  obtain ⟨s, hss⟩ : ∃ s, x.classes[c].steps.length = s + 1 := ⟨x.classes[c].steps.length - 1, by omega⟩
  rw [Ctlg.mostB, if_pos ⟨hc, hd⟩, hst, hss, hv] at b1
  have hv2 : v < 2 ^ s := by
    have e : s + 1 - 1 = s := by omega
    rw [e] at b1
    exact_mod_cast b1
  have hv8 : v < 8 := Nat.lt_of_lt_of_le hv2 (by
    have : (2 : Nat) ^ s ≤ 2 ^ 3 := Nat.pow_le_pow_right (by omega) (by omega)
    simpa using this)
  have hin : ∀ k : Nat, k < x.classes.length → x.inn k = true := fun k hk => by
    simp only [Ctlg.inn, Bool.and_eq_true, decide_eq_true_eq]; omega
  have hat : ∀ i : Nat, x.brkAt c d i = (decide (i + 1 < s + 1) && bitN v i) := fun i => by
    simp only [Ctlg.brkAt, hin c hc, hin d hd, Int.toNat_natCast, hst, hss, hv, Bool.true_and]
    congr 1
    rw [Bool.eq_iff_iff]
    simp
  have key := bits_cnt ⟨s, by omega⟩ ⟨v, hv8⟩ hv2
  simp only [Ctlg.pcB, hv, Int.toNat_natCast]
  rw [key]
  simp only [sumN, Ctlg.one, hat]
  have e3 : (decide (3 + 1 < s + 1) && bitN v 3) = false := by
    rw [Bool.and_eq_false_iff]; left; simp; omega
  rw [e3]
  simp only [Bool.and_eq_true, decide_eq_true_eq]
  simp only [and_comm]
  simp

theorem cnt_one {x : Ctlg} (hw : x.wf) (h : catMay x = true) : x.cntB = sumN (fun c => sumN (fun d => sumN (x.one c d) 4) x.classes.length) x.classes.length :=
  sumN_congr _ fun _ hc => sumN_congr _ fun _ hd => (pc_one hw h hc hd).symm

theorem with_may {x : Ctlg} (h : catMay x = true) {l : List Int} (hl : ∀ c d, c < 4 → d < 4 → (x.with l).brkOK c d = true) : catMay (x.with l) = true := by
  simp only [catMay, Bool.and_eq_true] at h ⊢
  refine ⟨h.1, ?_⟩
  rw [List.all_eq_true]
  intro c hc
  rw [List.all_eq_true]
  intro d hd
  exact hl c d (List.mem_range.1 hc) (List.mem_range.1 hd)

theorem turnL_at {n : Nat} (n4 : n ≤ 4) (t : Nat → Nat → Int) {c d : Nat} (hc : c < 4) (hd : d < 4) : ((turnL n t (n * n))[4 * c + d]?).getD 0 = if c < n ∧ d < n then t c d else 0 := by
  have hlt : 4 * c + d < (turnL n t (n * n)).length := by rw [turnL_len]; omega
  rw [List.getElem?_eq_getElem hlt, Option.getD_some, turnL_get, show (4 * c + d) / 4 = c by omega, show (4 * c + d) % 4 = d by omega]
  by_cases h : c < n ∧ d < n
  · have := Nat.mul_le_mul_right n (show c + 1 ≤ n by omega)
    rw [Nat.add_mul] at this
    rw [if_pos h, if_pos ⟨h.1, h.2, by omega⟩]
  · rw [if_neg h, if_neg fun q => h ⟨q.1, q.2.1⟩]

theorem open_may {x : Ctlg} (hw : x.wf) (h : catMay x = true) : catMay (openOf x) = true := by
  obtain ⟨hs, hg⟩ := catMay_small hw h
  refine with_may h fun c d hc hd => ?_
  have hb : (openOf x).brk c d = if c < x.classes.length ∧ d < x.classes.length then openT x c d else 0 := turnL_at hs.2.1 _ hc hd
  show (openOf x).brkOK c d = true
  simp only [Ctlg.brkOK, Bool.and_eq_true, Bool.not_eq_true', decide_eq_false_iff_not, hb]
  have hm : (openOf x).mostB c d = x.mostB c d := rfl
  rw [hm, Ctlg.mostB]
  by_cases hcd : c < x.classes.length ∧ d < x.classes.length
  · rw [if_pos hcd, if_pos hcd, openT, dif_pos hcd.1, Ctlg.stepsN_of hcd.1, Cls.all]
    obtain ⟨s0, s4, _⟩ := hs.2.2.1 _ (List.getElem_mem hcd.1)
    have : x.classes[c].steps.length - 1 = 0 ∨ x.classes[c].steps.length - 1 = 1 ∨ x.classes[c].steps.length - 1 = 2 ∨ x.classes[c].steps.length - 1 = 3 := by omega
    rcases this with e | e | e | e <;> rw [e] <;> decide
  · rw [if_neg hcd, if_neg hcd]; decide
theorem closed_brk (x : Ctlg) (c d : Nat) : (closedOf x).brk c d = 0 := by
  unfold Ctlg.brk closedOf Ctlg.with
  rcases h2 : (List.replicate 16 (0 : Int))[4 * c + d]? with _ | v
  · simp
  · have := List.eq_of_mem_replicate (List.mem_of_getElem? h2)
    simp [this]
theorem closed_may {x : Ctlg} (h : catMay x = true) : catMay (closedOf x) = true := by
  refine with_may h fun c d hc hd => ?_
  show (closedOf x).brkOK c d = true
  have hm : 1 ≤ (closedOf x).mostB c d := by
    rw [Ctlg.mostB]
    split
    · have : (0 : Int) < 2 ^ ((closedOf x).stepsN c - 1) := Int.pow_pos (by decide)
      omega
    · exact Int.le_refl _
  simp only [Ctlg.brkOK, Bool.and_eq_true, Bool.not_eq_true', decide_eq_false_iff_not, closed_brk]
  omega
theorem closed_cnt (x : Ctlg) : (closedOf x).cntB = 0 :=
  sumN_zero _ fun c _ => sumN_zero _ fun d _ => by rw [Ctlg.pcB, closed_brk]; rfl
theorem open_wf {x : Ctlg} (hw : x.wf) (h : catMay x = true) : (openOf x).wf := (open_good (catMay_small hw h).1 (catMay_small hw h).2).wf
theorem closed_wf {x : Ctlg} (hw : x.wf) (h : catMay x = true) : (closedOf x).wf := (closed_good (catMay_small hw h).1 (catMay_small hw h).2).wf
theorem brk_open {x : Ctlg} (hs : x.small) {c d i : Int} (h : x.brkAt c d i = true) : (openOf x).brkAt c d i = true := by
  have h0 := h
  simp only [Ctlg.brkAt, Ctlg.inn, Bool.and_eq_true, decide_eq_true_eq] at h
  obtain ⟨⟨⟨⟨⟨⟨a1, a2⟩, _⟩, ⟨b1, b2⟩, _⟩, i1⟩, i2⟩, _⟩ := h
  obtain ⟨c, rfl⟩ := Int.eq_ofNat_of_zero_le a1
  obtain ⟨d, rfl⟩ := Int.eq_ofNat_of_zero_le b1
  obtain ⟨i, rfl⟩ := Int.eq_ofNat_of_zero_le i1
  have hc : c < x.classes.length := by omega
  rw [open_at hs hc (by omega), decide_eq_true_eq]
  rw [Int.toNat_natCast, Ctlg.stepsN_of hc] at i2
  omega
theorem cnt_open {x : Ctlg} (hw : x.wf) (h : catMay x = true) : x.cntB ≤ (openOf x).cntB := by
  obtain ⟨hs, _⟩ := catMay_small hw h
  rw [cnt_one hw h, cnt_one (open_wf hw h) (open_may hw h)]
  refine sumN_le _ fun c _ => sumN_le _ fun d _ => sumN_le _ fun i _ => ?_
  simp only [Ctlg.one]
  by_cases hb : x.brkAt c d i = true
  · rw [if_pos hb, if_pos (brk_open hs hb)]; exact Nat.le_refl _
  · rw [if_neg hb]; exact Nat.zero_le _
theorem closed_none (x : Ctlg) (c d i : Int) : (closedOf x).brkAt c d i = false := by
  simp [Ctlg.brkAt, closed_brk, bitN]

/-- What is compared where a catalogue may be: each breakpoint with its own low bits. -/
def mayT (x : Ctlg) (c d : Nat) : Int := x.brk c d % 2 ^ (x.stepsN c - 1)
theorem may_turn {x : Ctlg} (n4 : x.classes.length ≤ 4) (hb : x.breaks.length = 16) : decide (x.breaks = turnL x.classes.length (mayT x) (x.classes.length * x.classes.length)) = (List.range 4).all fun c => (List.range 4).all (x.brkOK c) := by
  have hp : ∀ k : Nat, (0 : Int) < 2 ^ k := fun k => Int.pow_pos (by decide)
  rw [Bool.eq_iff_iff, decide_eq_true_eq, List.all_eq_true]
  constructor
  · intro h c hc
    rw [List.all_eq_true]
    intro d hd
    have hc := List.mem_range.1 hc
    have hd := List.mem_range.1 hd
    have hv : x.brk c d = if c < x.classes.length ∧ d < x.classes.length then mayT x c d else 0 := by
      have e : x.brk c d = ((turnL x.classes.length (mayT x) (x.classes.length * x.classes.length))[4 * c + d]?).getD 0 := by rw [Ctlg.brk, ← h]
      rw [e]; exact turnL_at n4 _ hc hd
    simp only [Ctlg.brkOK, Bool.and_eq_true, Bool.not_eq_true', decide_eq_false_iff_not]
    by_cases hcd : c < x.classes.length ∧ d < x.classes.length
    · have hmo : x.mostB c d = 2 ^ (x.stepsN c - 1) := if_pos hcd
      rw [if_pos hcd] at hv
      rw [mayT] at hv
      have := Int.emod_nonneg (x.brk c d) (b := 2 ^ (x.stepsN c - 1)) (by have := hp (x.stepsN c - 1); omega)
      have := Int.emod_lt_of_pos (x.brk c d) (hp (x.stepsN c - 1))
      omega
    · have hmo : x.mostB c d = 1 := if_neg hcd
      rw [if_neg hcd] at hv
      omega
  · intro h
    apply List.ext_getElem
    · rw [hb, turnL_len]
    intro i h1 h2
    have hc : i / 4 < 4 := by omega
    have hd : i % 4 < 4 := by omega
    have hh := h (i / 4) (List.mem_range.2 hc)
    rw [List.all_eq_true] at hh
    have hh := hh (i % 4) (List.mem_range.2 hd)
    simp only [Ctlg.brkOK, Bool.and_eq_true, Bool.not_eq_true', decide_eq_false_iff_not] at hh
    have hi : 4 * (i / 4) + i % 4 = i := by omega
    have ht := turnL_at n4 (mayT x) hc hd
    rw [hi, List.getElem?_eq_getElem h2, Option.getD_some] at ht
    have hx : x.brk (i / 4) (i % 4) = x.breaks[i] := by rw [Ctlg.brk_of hb hc hd]; simp only [hi]
    rw [ht, ← hx]
    by_cases hcd : i / 4 < x.classes.length ∧ i % 4 < x.classes.length
    · have hmo : x.mostB (i / 4) (i % 4) = 2 ^ (x.stepsN (i / 4) - 1) := if_pos hcd
      rw [if_pos hcd, mayT, Int.emod_eq_of_lt] <;> omega
    · have hmo : x.mostB (i / 4) (i % 4) = 1 := if_neg hcd
      rw [if_neg hcd]
      omega

theorem cells_ints : ∀ (l m : List Int), l.length = m.length → cellsEq (List.replicate l.length LK.i) (l.map (AV.int .i64)) (m.map (AV.int .i64)) = some (decide (l = m))
  | [], [], _ => rfl
  | a :: l, b :: m, h => by
    have ih := cells_ints l m (by simpa using h)
    rw [List.length_cons, List.replicate_succ, List.map_cons, List.map_cons]
    simp only [cellsEq, cellEq, if_true, Option.bind_some, ih, Option.map_some]
    congr 1
    rw [Bool.eq_iff_iff]
    simp
  | [], _ :: _, h => by simp at h
  | _ :: _, [], h => by simp at h
end Go.Proofs

/- What is the same as itself: the document's answer. -/
namespace Go.Proofs
open Go Go.RowKit Go.Am

theorem same09_ok (l : List Inst) (hl : l.length ≤ 9223372036854775807) : PCall Tryz.prog 78 [.sl .no (l.map encInst), .sl .no (l.map encInst)] (.bool true) := by
  refine PCall.run hb78 ok78 (by simp) (pures_cons (elOK_Inst.pureL l) (pures1 (elOK_Inst.pureL l))) (.bool _) ?_
  simp -implicitDefEqProofs []
  refine run_loop (fun n s h => ∃ j : Nat, n = l.length - j ∧ j ≤ l.length ∧ s 0 = .sl .no (l.map encInst) ∧ s 1 = .sl .no (l.map encInst) ∧ s 5 = .int .i64 j) ?_ l.length ?_
  rotate_left
  · exact ⟨0, by simp⟩
  rintro n s h ⟨j, hn, hj, s0, s1, s5⟩ ih
  by_cases hlt : j < l.length
  · simp -implicitDefEqProofs [s0, s5, hlt]
    refine run_dregL c78_d6 rfl ?_
    simp -implicitDefEqProofs [s0, s1, s5, hlt, encInst, inc_i64 hlt hl, -Int.natCast_add]
    exact ih (l.length - (j + 1)) _ _ (by omega) ⟨j + 1, rfl, by omega, by simp [s0], by simp [s1], by simp⟩
  · simp -implicitDefEqProofs [s0, s5, hlt]

theorem same10_ok (l : List SpanT) (hl : l.length ≤ 9223372036854775807) : PCall Tryz.prog 79 [.sl .no (l.map encSpanT), .sl .no (l.map encSpanT)] (.bool true) := by
  refine PCall.run hb79 ok79 (by simp) (pures_cons (elOK_SpanT.pureL l) (pures1 (elOK_SpanT.pureL l))) (.bool _) ?_
  simp -implicitDefEqProofs []
  refine run_loop (fun n s h => ∃ j : Nat, n = l.length - j ∧ j ≤ l.length ∧ s 0 = .sl .no (l.map encSpanT) ∧ s 1 = .sl .no (l.map encSpanT) ∧ s 5 = .int .i64 j) ?_ l.length ?_
  rotate_left
  · exact ⟨0, by simp⟩
  rintro n s h ⟨j, hn, hj, s0, s1, s5⟩ ih
  by_cases hlt : j < l.length
  · simp -implicitDefEqProofs [s0, s5, hlt]
    refine run_dregL c79_d6 rfl ?_
    simp -implicitDefEqProofs [s0, s1, s5, hlt, encSpanT, inc_i64 hlt hl, -Int.natCast_add]
    exact ih (l.length - (j + 1)) _ _ (by omega) ⟨j + 1, rfl, by omega, by simp [s0], by simp [s1], by simp⟩
  · simp -implicitDefEqProofs [s0, s5, hlt]

theorem sameSteps_ok (l : List Stp) (hl : l.length ≤ 9223372036854775807) (hw : ∀ s ∈ l, s.code.length ≤ 9223372036854775807 ∧ s.foot.length ≤ 9223372036854775807) : PCall Tryz.prog 57 [.sl .no (l.map encStp), .sl .no (l.map encStp)] (.bool true) := by
  refine PCall.run hb57 ok57 (by simp) (pures_cons (elOK_Stp.pureL l) (pures1 (elOK_Stp.pureL l))) (.bool _) ?_
  simp -implicitDefEqProofs []
  refine run_loop (fun n s h => ∃ j : Nat, n = l.length - j ∧ j ≤ l.length ∧ s 0 = .sl .no (l.map encStp) ∧ s 1 = .sl .no (l.map encStp) ∧ s 5 = .int .i64 j) ?_ l.length ?_
  rotate_left
  · exact ⟨0, by simp⟩
  rintro n s h ⟨j, hn, hj, s0, s1, s5⟩ ih
  by_cases hlt : j < l.length
  · obtain ⟨w1, w2⟩ := hw _ (List.getElem_mem hlt)
    simp -implicitDefEqProofs [s0, s5, hlt]
    refine run_dregL c57_d6 rfl ?_
    simp -implicitDefEqProofs [s0, s1, s5, hlt, encStp]
    refine callC_p (same09_ok l[j].code w1) (by simp) ?_
    simp -implicitDefEqProofs [s0, s1, s5, hlt, encStp]
    refine callC_p (same10_ok l[j].foot w2) (by simp) ?_
    simp -implicitDefEqProofs [s5, inc_i64 hlt hl, -Int.natCast_add]
    exact ih (l.length - (j + 1)) _ _ (by omega) ⟨j + 1, rfl, by omega, by simp [s0], by simp [s1], by simp⟩
  · simp -implicitDefEqProofs [s0, s5, hlt]

theorem same11_ok (c : Cls) (hc : c.wf) : PCall Tryz.prog 31 [.agg (encCls c), .agg (encCls c)] (.bool true) := by
  refine PCall.run hb31 ok31 (by simp) (pures_cons (.agg (pure_encCls c)) (pures1 (.agg (pure_encCls c)))) (.bool _) ?_
  obtain ⟨hwn, hwa, ⟨hsl, hsw⟩, hcl, hcw⟩ := hc
  have h1 : ∀ s : Stp, s.wf → s.code.length ≤ 9223372036854775807 ∧ s.foot.length ≤ 9223372036854775807 := fun s hs => ⟨hs.1.1, hs.2.1⟩
  simp -implicitDefEqProofs [encCls]
  refine callQ_p (sameSteps_ok c.steps hsl fun s hs => h1 s (hsw s hs)) (by simp) ?_
  simp -implicitDefEqProofs []
  refine callQ_p (sameSteps_ok c.comps hcl fun s hs => h1 s (hcw s hs)) (by simp) ?_
  simp -implicitDefEqProofs []

theorem same12_ok (x : Ctlg) (hx : x.wf) : PCall Tryz.prog 14 [.agg (encCtlg x), .agg (encCtlg x)] (.bool true) := by
  refine PCall.run hb14 ok14 (by simp) (pures_cons (.agg (pure_encCtlg x)) (pures1 (.agg (pure_encCtlg x)))) (.bool _) ?_
  have htk := x.take16 hx.2.1
  obtain ⟨⟨hcl, hcw⟩, hbl, hbw⟩ := hx
  have hce : cellsEq (List.replicate 16 LK.i) (x.breaks.map (AV.int .i64)) (x.breaks.map (AV.int .i64)) = some true := by
    have := cells_ints x.breaks x.breaks rfl
    rw [hbl] at this
    simpa using this
  simp only [List.replicate] at hce
  simp -implicitDefEqProofs [encCtlg, htk, hbl, hce]
  refine run_loop (fun n s h => ∃ j : Nat, n = x.classes.length - j ∧ j ≤ x.classes.length ∧ s 2 = .ptr 0 0 ∧ s 3 = .ptr 1 0 ∧ 1 < h.bn ∧ h.bx 0 = some (.sl .no (x.classes.map encCls) :: x.breaks.map (AV.int .i64)) ∧ h.bx 1 = some (.sl .no (x.classes.map encCls) :: x.breaks.map (AV.int .i64)) ∧ s 5 = .int .i64 j) ?_ x.classes.length ?_
  rotate_left
  · exact ⟨0, by simp [H.nil]⟩
  rintro n s h ⟨j, hn, hj, s2, s3, b0, b1, b2, s5⟩ ih
  by_cases hlt : j < x.classes.length
  · simp -implicitDefEqProofs [s2, b1, s5, hlt, show 0 < h.bn by omega]
    refine run_dregL c14_d6 rfl ?_
    simp -implicitDefEqProofs [s2, s3, b0, b1, b2, s5, hlt, show 0 < h.bn by omega]
    refine callC_p (same11_ok x.classes[j] (hcw _ (List.getElem_mem hlt))) (by simp) ?_
    simp -implicitDefEqProofs [s5, inc_i64 hlt hcl, -Int.natCast_add]
    exact ih (x.classes.length - (j + 1)) _ _ (by omega) ⟨j + 1, rfl, by omega, by simp [s2], by simp [s3], by simpa using b0, by simp [b1], by simp [b2], by simp⟩
  · simp -implicitDefEqProofs [s2, b1, s5, hlt, show 0 < h.bn by omega]
end Go.Proofs

/- Which catalogues there may be: the program's answer. -/
namespace Go.Proofs
open Go Go.RowKit Go.Am

theorem named1_ok (c d : Cls) {h : H} {b : Nat} (hb : b < h.bn) (hbx : h.bx b = some (encCls c)) : SCall Tryz.prog 61 [.agg (encCls d), .ptr b 0] h (.bool (decide (d.name = c.name))) h := by
  refine SCall.ro (CallP.run hb61 ok61 (by simp) ?_) (.bool _)
  rw [encCls] at hbx
  simp -implicitDefEqProofs [encCls, hbx, show ¬ b = h.bn by omega, show b < h.bn + 1 by omega]
  exact HF.alloc _ _ _ _

theorem names_any {x : Ctlg} {i : Nat} (hi : i < x.classes.length) : ((x.classes.take i).any fun d => decide (d.name = x.classes[i].name)) = !x.namesOK i := by
  rw [Bool.eq_iff_iff]
  simp only [List.any_eq_true, decide_eq_true_eq, Bool.not_eq_true', Ctlg.namesOK, List.all_eq_false, List.mem_range]
  constructor
  · rintro ⟨d, hd, he⟩
    obtain ⟨j, hj, rfl⟩ := List.mem_iff_getElem.1 hd
    rw [List.length_take] at hj
    refine ⟨j, by omega, ?_⟩
    rw [List.getElem_take] at he
    simp [Ctlg.nameAt_of hi, Ctlg.nameAt_of (show j < x.classes.length by omega), he]
  · rintro ⟨j, hj, he⟩
    have hl : j < x.classes.length := by omega
    refine ⟨x.classes[j], ?_, ?_⟩
    · exact List.mem_iff_getElem.2 ⟨j, by rw [List.length_take]; omega, by rw [List.getElem_take]⟩
    · simpa [Ctlg.nameAt_of hi, Ctlg.nameAt_of hl] using he

theorem named_ok (x : Ctlg) (hl : x.classes.length ≤ 9223372036854775807) (hw : ∀ y ∈ x.classes, y.wf) : PCall Tryz.prog 35 [.sl .no (x.classes.map encCls)] (.bool ((List.range x.classes.length).all fun i => x.clsOK i && x.namesOK i)) := by
  refine PCall.run hb35 ok35 (by simp) (pures1 (elOK_Cls.pureL x.classes)) (.bool _) ?_
  simp -implicitDefEqProofs []
  refine run_loop (fun n s h => ∃ j : Nat, n = x.classes.length - j ∧ j ≤ x.classes.length ∧ s 0 = .sl .no (x.classes.map encCls) ∧ s 5 = .sl .no (x.classes.map encCls) ∧ s 6 = .int .i64 x.classes.length ∧ s 7 = .int .i64 j ∧ ∀ i, i < j → (x.clsOK i && x.namesOK i) = true) ?_ x.classes.length ?_
  rotate_left
  · exact ⟨0, by simp⟩
  rintro n s h ⟨j, hn, hj, s0, s5, s6, s7, hall⟩ ih
  by_cases hlt : j < x.classes.length
  · have hno : (x.clsOK j && x.namesOK j) = false → ((List.range x.classes.length).all fun i => x.clsOK i && x.namesOK i) = false := allR_false (p := fun i => x.clsOK i && x.namesOK i) hlt
    have hjs : (j : Int) ≤ (x.classes.length : Int) := by omega
    simp -implicitDefEqProofs [s5, s6, s7, hlt, encCls]
    refine callQ_p (classMay_ok x.classes[j] (hw _ (List.getElem_mem hlt))) (by simp [encCls]) ?_
    cases hp : clsMay x.classes[j]
    · have := hno (by simp [Ctlg.clsOK_of hlt, hp])
      simp -implicitDefEqProofs [this]
    simp -implicitDefEqProofs [s0, hj]
    refine callQ_s (contains_gen hb60 ok60 hb83 ok83 elOK_Cls (x.classes.take j) (by rw [List.length_take]; omega) (first := []) (caps := [.ptr h.bn 0]) (p := fun d => decide (d.name = x.classes[j].name)) rfl (by simp) (fun d _ => named1_ok x.classes[j] d (by simp) (by simp [encCls]))) (by simp [List.map_take]) ?_
    have hna := names_any hlt
    cases hq : x.namesOK j
    · have := hno (by simp [hq])
      rw [hq] at hna
      simp -implicitDefEqProofs [hna, this]
    rw [hq] at hna
    simp -implicitDefEqProofs [hna, s7, inc_i64 hlt hl, -Int.natCast_add]
    exact ih (x.classes.length - (j + 1)) _ _ (by omega) ⟨j + 1, rfl, by omega, by simp [s0], by simp [s5], by simp [s6], by simp, fun i hij => by
      by_cases h : i = j
      · subst h; simp [Ctlg.clsOK_of hlt, hp, hq]
      · exact hall i (by omega)⟩
  · have hw : ((List.range x.classes.length).all fun i => x.clsOK i && x.namesOK i) = true := allR_true (by omega) hall
    simp -implicitDefEqProofs [s6, s7, hlt, hw]

theorem and_low (v : Int) {k : Nat} (hk : k ≤ 3) : IntKind.i64.wrap ((((v % 2 ^ IntKind.i64.bits).toNat &&& (((2 : Int) ^ k - 1) % 2 ^ IntKind.i64.bits).toNat : Nat)) : Int) = v % 2 ^ k := by
  have hb : IntKind.i64.bits = 64 := rfl
  have h4 : k = 0 ∨ k = 1 ∨ k = 2 ∨ k = 3 := by omega
  have e : (((2 : Int) ^ k - 1) % 2 ^ IntKind.i64.bits).toNat = 2 ^ k - 1 := by
    rcases h4 with rfl | rfl | rfl | rfl <;> decide
  rw [e, Nat.and_two_pow_sub_one_eq_mod, hb]
  rcases h4 with rfl | rfl | rfl | rfl <;> (rw [wrap_i64] <;> omega)

theorem catMay1_ok (x : Ctlg) (hb16 : x.breaks.length = 16) {h : H} {b c d : Nat} (hb : b < h.bn) (hbx : h.bx b = some (encCtlg x)) (hc : c < x.classes.length) (n4 : x.classes.length ≤ 4) (hd : d < x.classes.length) (hs : x.classes[c].small) : SCall Tryz.prog 36 [.int .i64 c, .int .i64 d, .ptr b 0] h (.int .i64 (mayT x c d)) h := by
  refine SCall.ro (CallP.run hb36 ok36 (by simp) ?_) (.int _ _)
  rw [encCtlg] at hbx
  have hbk := Ctlg.brk_load (x := x) (.sl .no (x.classes.map encCls)) hb16 (show c < 4 by omega) (show d < 4 by omega)
  simp -implicitDefEqProofs []
  refine run_dregL c36_d2 rfl ?_
  simp -implicitDefEqProofs [hb, hbx, hc, hbk, hb16, show (c : Int) < 4 by omega, show (d : Int) < 4 by omega, show 1 + c * 4 + d + 1 ≤ 16 + 1 by omega]
  refine callC_p (all_ok x.classes[c] hs) (by simp) ?_
  have hk : x.classes[c].steps.length - 1 ≤ 3 := by have := hs.2.1; omega
  have ha := and_low (x.brk c d) hk
  simp -implicitDefEqProofs [Cls.all, ha, mayT, Ctlg.stepsN_of hc]
  exact HF.refl _ _ _

theorem catMayP_ok (x : Ctlg) (hx : x.wf) : PCall Tryz.prog 16 [.agg (encCtlg x)] (.bool (catMay x)) := by
  refine PCall.run hb16 ok16 (by simp) (pures1 (.agg (pure_encCtlg x))) (.bool _) ?_
  have htk := x.take16 hx.2.1
  obtain ⟨⟨hcl, hcw⟩, hbl, hbw⟩ := hx
  by_cases c1 : (x.classes.length : Int) < 1
  · have hf : catMay x = false := by simp [catMay, show x.classes.length < 1 by omega]
    simp -implicitDefEqProofs [encCtlg, c1, hf]
  by_cases c4 : (4 : Int) < x.classes.length
  · have hf : catMay x = false := by simp [catMay, show 4 < x.classes.length by omega]
    simp -implicitDefEqProofs [encCtlg, c1, c4, hf]
  have n4 : x.classes.length ≤ 4 := by omega
  have hm : catMay x = (((List.range x.classes.length).all fun i => x.clsOK i && x.namesOK i) && (List.range 4).all fun c => (List.range 4).all (x.brkOK c)) := by
    simp only [catMay, show ¬ x.classes.length < 1 by omega, show ¬ 4 < x.classes.length by omega]
    simp
  rw [← may_turn n4 hbl] at hm
  simp -implicitDefEqProofs [encCtlg, c1, c4]
  refine callQ_p (named_ok x hcl hcw) (by simp) ?_
  cases hna : (List.range x.classes.length).all fun i => x.clsOK i && x.namesOK i
  · rw [hna] at hm
    simp -implicitDefEqProofs [hm]
  rw [hna] at hm
  have hsm : ∀ c (h : c < x.classes.length), x.classes[c].small := fun c h => by
    rw [List.all_eq_true] at hna
    have := hna c (List.mem_range.2 h)
    rw [Bool.and_eq_true, Ctlg.clsOK_of h] at this
    exact clsMay_small this.1
  simp -implicitDefEqProofs [H.nil]
  refine run_dreg c16_d5 ?_
  simp -implicitDefEqProofs [htk, hbl]
  refine callD_s (turned_ok x hbl n4 (first := []) (caps := [.ptr 0 0]) rfl (by simp) (mayT x) fun c d h' hc hd hf => catMay1_ok x hbl ?_ ?_ hc n4 hd (hsm c hc)) (by simp [encCtlg]) ?_
  · have := hf.bn
    simp at this
    omega
  · rw [hf.bx 0 (by simp) (fun h => h)]
    simp [encCtlg]
  have hl := turnL_len x.classes.length (mayT x) (x.classes.length * x.classes.length)
  have hce := cells_ints x.breaks (turnL x.classes.length (mayT x) (x.classes.length * x.classes.length)) (by rw [hbl, hl])
  rw [hbl] at hce
  simp only [List.replicate] at hce
  simp -implicitDefEqProofs [hce, hm, htk, hbl]
end Go.Proofs
