/- What the functions that the statement reaches do: their contracts; and what follows of it. -/
import Derived.Test.YtedmjhckiiponaaSClassWords6
import Derived.Test.YtedmjhckiiponaaSClassWords4
import Derived.Test.YtedmjhckiiponaaSClassWords5
/- Pairs of classes, by a function over which one ranges; a catalogue that is opened. -/
namespace Go.Proofs
open Go Go.RowKit Go.Am

theorem pairs_ok (x : Ctlg) (hw : x.breaks.length = 16) (h : H) : SCall Try.prog 82 [.agg (encCtlg x)] h (.fn 116 [] [.ptr h.bn 0]) (h.alloc (encCtlg x)) := by
  refine SCall.newG (fun b => .fn 116 [] [.ptr b 0]) (fun _ _ _ _ _ _ _ h1 h2 => Low.fn1 (Low.ptr h1 h2)) (CallP.run hb82 ok82 (by simp) ?_) (pure_encCtlg x)
  have htk := x.take16 hw
  simp -implicitDefEqProofs [encCtlg]
  exact ⟨HF.alloc _ _ _ _, WkL.refl _⟩

/-- One round after the other. -/
theorem pairs1_ok (x : Ctlg) (n4 : x.classes.length ≤ 4) {l b : Nat} {h : H} (I : Nat → H → Prop) (hI : ∀ k h', I k h' → b < h'.bn ∧ h'.bx b = some (encCtlg x))
    (hr : ∀ c d h', c < x.classes.length → d < x.classes.length → I (c * x.classes.length + d) h' → ∀ K : AV → H → Prop, (∀ h'', I (c * x.classes.length + d + 1) h'' → K (.bool true) h'') → callQ Try.prog (.yld l) [.int .i64 c, .int .i64 d] h' K)
    (h0 : I 0 h) : CallP Try.prog 116 [.yld l, .ptr b 0] h fun _ h1 => I (x.classes.length * x.classes.length) h1 := by
  refine CallP.run hb116 ok116 (by simp) ?_
  obtain ⟨b1, b2⟩ := hI _ _ h0
  have hmn : ¬ (4 : Int) < x.classes.length := by omega
  simp -implicitDefEqProofs [b1, b2, encCtlg, hmn]
  refine run_loop (fun m s h1 => ∃ c : Nat, m = x.classes.length - c ∧ c ≤ x.classes.length ∧ s 0 = .yld l ∧ s 3 = .int .i64 x.classes.length ∧ s 10 = .int .i64 x.classes.length ∧ s 11 = .int .i64 c ∧ I (c * x.classes.length) h1) ?_ x.classes.length ?_
  rotate_left
  · exact ⟨0, by simpa using h0⟩
  rintro m s h1 ⟨c, hn, hc, s0, s3, s10, s11, hi⟩ ih
  by_cases hlc : c < x.classes.length
  · simp -implicitDefEqProofs [s3, s10, s11, hlc]
    refine run_loop (fun m s h1 => ∃ d : Nat, m = x.classes.length - d ∧ d ≤ x.classes.length ∧ s 0 = .yld l ∧ s 3 = .int .i64 x.classes.length ∧ s 10 = .int .i64 x.classes.length ∧ s 11 = .int .i64 c ∧ s 4 = .int .i64 c ∧ s 14 = .int .i64 x.classes.length ∧ s 15 = .int .i64 d ∧ I (c * x.classes.length + d) h1) ?_ x.classes.length ?_
    rotate_left
    · exact ⟨0, by simp [s0, s3, s10, s11, hi]⟩
    rintro m s h1 ⟨d, hn, hd, s0, s3, s10, s11, s4, s14, s15, hi⟩ ih2
    by_cases hld : d < x.classes.length
    · simp -implicitDefEqProofs [s0, s4, s14, s15, hld]
      refine hr c d _ hlc hld hi _ fun h2 hi2 => ?_
      simp -implicitDefEqProofs [s15, inc_i64 hld (by omega), -Int.natCast_add]
      exact ih2 (x.classes.length - (d + 1)) _ _ (by omega) ⟨d + 1, rfl, by omega, by simp [s0], by simp [s3], by simp [s10], by simp [s11], by simp [s4], by simp [s14], by simp, hi2⟩
    · obtain rfl : d = x.classes.length := by omega
      simp -implicitDefEqProofs [s11, s14, s15, inc_i64 hlc (by omega), -Int.natCast_add]
      exact ih (x.classes.length - (c + 1)) _ _ (by omega) ⟨c + 1, rfl, by omega, by simp [s0], by simp [s3], by simp [s10], by simp, by rw [Nat.add_mul, Nat.one_mul]; exact hi⟩
  · obtain rfl : c = x.classes.length := by omega
    simp -implicitDefEqProofs [s10, s11]
    exact hi

/-- The breakpoints that are turned, after so many pairs. -/
def turnL (n : Nat) (t : Nat → Nat → Int) (k : Nat) : List Int := (List.range 16).map fun i => if i / 4 < n ∧ i % 4 < n ∧ i / 4 * n + i % 4 < k then t (i / 4) (i % 4) else 0

theorem turnL_len (n : Nat) (t : Nat → Nat → Int) (k : Nat) : (turnL n t k).length = 16 := by simp [turnL]
theorem turnL_get (n : Nat) (t : Nat → Nat → Int) (k : Nat) {i : Nat} (hi : i < (turnL n t k).length) : (turnL n t k)[i] = if i / 4 < n ∧ i % 4 < n ∧ i / 4 * n + i % 4 < k then t (i / 4) (i % 4) else 0 := by
  simp [turnL]
theorem turnL_step {n : Nat} (n4 : n ≤ 4) (t : Nat → Nat → Int) {c d : Nat} (hc : c < n) (hd : d < n) : List.take (c * 4 + d) ((turnL n t (c * n + d)).map (AV.int .i64)) ++ AV.int .i64 (t c d) :: List.drop (c * 4 + d + 1) ((turnL n t (c * n + d)).map (AV.int .i64)) = (turnL n t (c * n + d + 1)).map (AV.int .i64) := by
  have hl := turnL_len n t (c * n + d)
  have hl2 := turnL_len n t (c * n + d + 1)
  have key : turnL n t (c * n + d + 1) = (turnL n t (c * n + d)).set (c * 4 + d) (t c d) := by
    apply List.ext_getElem
    · simp [hl, hl2]
    intro i h1 h2
    rw [List.getElem_set, turnL_get]
    by_cases h : c * 4 + d = i
    · subst h
      have e1 : (c * 4 + d) / 4 = c := by omega
      have e2 : (c * 4 + d) % 4 = d := by omega
      rw [e1, e2, if_pos ⟨hc, hd, by omega⟩, if_pos rfl]
    · rw [if_neg h, turnL_get]
      have e : (i / 4 < n ∧ i % 4 < n ∧ i / 4 * n + i % 4 < c * n + d + 1) ↔ (i / 4 < n ∧ i % 4 < n ∧ i / 4 * n + i % 4 < c * n + d) := by
        constructor
        · rintro ⟨a, b, e⟩
          refine ⟨a, b, ?_⟩
          have hne : i / 4 * n + i % 4 ≠ c * n + d := fun he => by
            have q1 : i / 4 = c := by
              rcases Nat.lt_trichotomy (i / 4) c with q | q | q
              · have := Nat.mul_le_mul_right n (show i / 4 + 1 ≤ c by omega)
                rw [Nat.add_mul] at this; omega
              · exact q
              · have := Nat.mul_le_mul_right n (show c + 1 ≤ i / 4 by omega)
                rw [Nat.add_mul] at this; omega
            rw [q1] at he
            omega
          omega
        · rintro ⟨a, b, e⟩
          exact ⟨a, b, by omega⟩
      simp only [e]
  rw [key, List.map_set, List.set_eq_take_append_cons_drop, if_pos (by simp [hl]; omega)]

theorem turned_run (x : Ctlg) (n4 : x.classes.length ≤ 4) {h : H} {G : FuncId} {first caps : List AV} (hf : first.map wk = first) (hcp : caps.map wk = caps) (t : Nat → Nat → Int)
    (ht : ∀ c d h', c < x.classes.length → d < x.classes.length → HF h h' (fun _ => False) (fun _ => False) → SCall Try.prog G (first ++ [.int .i64 c, .int .i64 d] ++ caps) h' (.int .i64 (t c d)) h')
    {S : Slots} {h5 : H} {Q : Res → Slots → H → Prop} {k : List It} (s3 : S 3 = .ptr (h.bn + 1) 0) (_ : S 4 = .ptr (h.bn + 2) 0) (s5 : S 5 = .ptr (h.bn + 3) 0) (s9 : S 9 = .fn 116 [] [.ptr (h.bn + 4) 0])
    (hln : h5.ln = h.ln) (hbn : h5.bn = h.bn + 5) (b1 : h5.bx (h.bn + 1) = some [.fn G first caps]) (b2 : ∃ cs, h5.bx (h.bn + 2) = some cs ∧ cs.length = 16) (b3 : h5.bx (h.bn + 3) = some ((turnL x.classes.length t 0).map (AV.int .i64))) (b4 : h5.bx (h.bn + 4) = some (encCtlg x)) (hhf : HF h h5 (fun _ => False) (fun _ => False))
    (hk : ∀ h', h.bn + 5 ≤ h'.bn → (∃ cs, h'.bx (h.bn + 2) = some cs ∧ cs.length = 16) → h'.bx (h.bn + 3) = some ((turnL x.classes.length t (x.classes.length * x.classes.length)).map (AV.int .i64)) → HF h h' (fun _ => False) (fun _ => False) → Run Try.prog false k Q S h') :
    Run Try.prog false (.c (.rngf (.t 9) [10, 11] c64_x7 c64_y8) :: k) Q S h5 := by
  let J : Nat → H → Prop := fun k h' => h.ln < h'.ln ∧ h'.lp h.ln = some ⟨S, [10, 11], c64_x7, c64_y8, .ready, none⟩ ∧ h.bn + 5 ≤ h'.bn ∧ h'.bx (h.bn + 1) = some [.fn G first caps] ∧ (∃ cs, h'.bx (h.bn + 2) = some cs ∧ cs.length = 16) ∧ h'.bx (h.bn + 3) = some ((turnL x.classes.length t k).map (AV.int .i64)) ∧ h'.bx (h.bn + 4) = some (encCtlg x) ∧ HF h h' (fun _ => False) (fun _ => False)
  refine .rngf (Z := fun _ h1 => J (x.classes.length * x.classes.length) h1) (F := 116) (first := []) (caps := [.ptr (h.bn + 4) 0]) rfl (by simpa using s9) (pairs1_ok x n4 J (fun k h' ⟨_, _, q1, _, _, _, q2, _⟩ => ⟨by omega, q2⟩) ?_ ?_) ?_ ?_
  · rintro c d h' hc hd ⟨j1, j2, j3, j4, ⟨cs, j5, j5'⟩, j6, j7, j8⟩ K hK
    rw [hln]
    refine callQ_y (q := ⟨S, [10, 11], c64_x7, c64_y8, .ready, none⟩) j1 j2 rfl ?_
    have hst := turnL_step n4 t hc hd
    have hl := turnL_len x.classes.length t (c * x.classes.length + d)
    simp -implicitDefEqProofs [slotsP, j1, j2]
    refine run_dreg c64_d6 ?_
    simp -implicitDefEqProofs [s3, j4, show h.bn + 1 < h'.bn by omega]
    refine callD_s (ht c d (h'.setLoop h.ln _) hc hd ⟨j8.bn, j8.bx, j8.tn, j8.tk, j8.ln, fun l hl => by simp [show l ≠ h.ln by omega]; exact j8.lp l hl, j8.mn, j8.mp⟩) (by simp [hf, hcp]) ?_
    simp -implicitDefEqProofs [s3, s5, j1, j4, j6, show (c : Int) < 4 by omega, show (d : Int) < 4 by omega, hst, hl, show h.bn + 3 < h'.bn by omega, show c * 4 + d + 1 ≤ 16 by omega, roundQ]
    refine ⟨by omega, hK _ ⟨by simpa using j1, by simp, by simpa using j3, by simp [j4], ⟨cs, by simp [j5], j5'⟩, by simp, by simp [j7], ⟨by simpa using j8.bn, fun b hb hn => by simp [show b ≠ h.bn + 3 by omega]; exact j8.bx b hb hn, j8.tn, j8.tk, j8.ln, fun l hl => ?_, j8.mn, j8.mp⟩⟩⟩
    have : l ≠ h.ln := by omega
    simpa [this] using j8.lp l hl
  · exact ⟨by simp [hln], by simp [hln], by simp [hbn], by simpa using b1, by simpa using b2, by simpa using b3, by simpa using b4, ⟨by simpa using hhf.bn, hhf.bx, hhf.tn, hhf.tk, by simp [hln], fun l hl => by simp [hln, show l ≠ h.ln by omega]; exact hhf.lp l hl, hhf.mn, hhf.mp⟩⟩
  · rintro v h2 ⟨j1, j2, j3, j4, j5, j6, j7, j8⟩
    rw [hln]
    exact ⟨j1, _, j2, by simp⟩
  · rintro v h2 q ⟨j1, j2, j3, j4, j5, j6, j7, j8⟩ hq
    rw [hln] at hq ⊢
    rw [j2] at hq
    cases hq
    exact hk _ (by simpa using j3) (by simpa using j5) (by simpa using j6) ⟨j8.bn, j8.bx, j8.tn, j8.tk, j8.ln, fun l hl => by simp [show l ≠ h.ln by omega]; exact j8.lp l hl, j8.mn, j8.mp⟩

theorem turned_ok (x : Ctlg) (hw : x.breaks.length = 16) (n4 : x.classes.length ≤ 4) {h : H} {G : FuncId} {first caps : List AV} (hf : first.map wk = first) (hcp : caps.map wk = caps) (t : Nat → Nat → Int)
    (ht : ∀ c d h', c < x.classes.length → d < x.classes.length → HF h h' (fun _ => False) (fun _ => False) → SCall Try.prog G (first ++ [.int .i64 c, .int .i64 d] ++ caps) h' (.int .i64 (t c d)) h') :
    SCall Try.prog 64 [.agg (encCtlg x), .fn G first caps] h (.agg ((turnL x.classes.length t (x.classes.length * x.classes.length)).map (AV.int .i64))) h := by
  refine SCall.ro (CallP.run hb64 ok64 (by simp) ?_) (.agg (pure_arr _))
  have htk := x.take16 hw
  simp -implicitDefEqProofs [encCtlg, htk, hw]
  refine callQ_s (pairs_ok x hw _) (by simp [encCtlg]) ?_
  simp -implicitDefEqProofs []
  have hz : turnL x.classes.length t 0 = List.replicate 16 0 := by simp [turnL, List.replicate, List.range, List.range.loop]
  refine turned_run x n4 (h := h) hf hcp t ht (by simp) (by simp) (by simp) (by simp) (by simp) (by simp) (by simp) (by simp) (by simp [hz, List.replicate]) (by simp [encCtlg]) ((((HF.alloc _ _ _ _).trans (HF.alloc _ _ _ _)).trans (HF.alloc _ _ _ _)).trans ((HF.alloc _ _ _ _).trans (HF.alloc _ _ _ _))) ?_
  rintro h' q1 ⟨cs, q2, q2'⟩ q3 q4
  have hl := turnL_len x.classes.length t (x.classes.length * x.classes.length)
  have htk2 : List.take 16 ((turnL x.classes.length t (x.classes.length * x.classes.length)).map (AV.int .i64)) = (turnL x.classes.length t (x.classes.length * x.classes.length)).map (AV.int .i64) := List.take_of_length_le (by simp [hl])
  simp -implicitDefEqProofs [q2, q3, hl, htk2, q2', show h.bn + 1 + 1 + 1 < h'.bn by omega, show h.bn + 1 + 1 < h'.bn by omega]
  exact q4.trans' (HF.set (B := (· = h.bn + 1 + 1)) _ rfl) (fun b hb e => by have e : b = h.bn + 1 + 1 := e; omega) (fun _ _ h => h)

def openT (x : Ctlg) (c _ : Nat) : Int := if h : c < x.classes.length then x.classes[c].all else 0
def openOf (x : Ctlg) : Ctlg := x.with (turnL x.classes.length (openT x) (x.classes.length * x.classes.length))

theorem open1_ok (x : Ctlg) (hx : x.small) {h : H} {b c d : Nat} (hb : b < h.bn) (hbx : h.bx b = some (encCtlg x)) (hc : c < x.classes.length) : SCall Try.prog 65 [.int .i64 c, .int .i64 d, .ptr b 0] h (.int .i64 (openT x c d)) h := by
  refine SCall.ro (CallP.run hb65 ok65 (by simp) ?_) (.int _ _)
  rw [encCtlg] at hbx
  simp -implicitDefEqProofs [hb, hbx, hc]
  refine callQ_p (all_ok x.classes[c] (hx.2.2.1 _ (List.getElem_mem hc))) (by simp) ?_
  simp -implicitDefEqProofs [openT, hc]
  exact HF.refl _ _ _

theorem Ctlg.with_len (x : Ctlg) (l : List Int) : (x.with l).classes = x.classes := rfl
theorem opened_ok (x : Ctlg) (hx : x.small) : PCall Try.prog 24 [.agg (encCtlg x)] (.agg (encCtlg (openOf x))) := by
  refine PCall.run hb24 ok24 (by simp) (pures1 (.agg (pure_encCtlg x))) (.agg (pure_encCtlg _)) ?_
  have htk := x.take16 hx.2.2.2
  have hbl := hx.2.2.2
  simp -implicitDefEqProofs [encCtlg, htk, hbl]
  refine callQ_p (copied_ok x hx) (by simp [encCtlg]) ?_
  simp -implicitDefEqProofs [encCtlg, hbl, H.nil]
  refine callQ_s (turned_ok x hbl hx.2.1 (first := []) (caps := [.ptr 0 0]) rfl (by simp) (openT x) fun c d h' hc hd hf => open1_ok x hx ?_ ?_ hc) (by simp [encCtlg]) ?_
  · have := hf.bn
    simp at this
    omega
  · rw [hf.bx 0 (by simp) (fun h => h)]
    simp [encCtlg, hbl]
  have hl := turnL_len x.classes.length (openT x) (x.classes.length * x.classes.length)
  have hdr : List.drop 16 (x.breaks.map (AV.int .i64)) = [] := by simp [hbl]
  simp -implicitDefEqProofs [hbl, hl, hdr, H.nil]
  exact ⟨rfl, by rw [List.take_of_length_le (by simp [hl]), List.take_of_length_le (by simp [hl])]; rfl⟩
end Go.Proofs

/- What a catalogue that may be is; its opened and its closed one. -/
namespace Go.Proofs
open Go Go.RowKit Go.Am

theorem progMay_len {l : List Inst} {a : Int} (h : progMay l a = true) : l.length ≤ 8 := by
  simp only [progMay, Bool.and_eq_true, Bool.not_eq_true', decide_eq_false_iff_not] at h
  omega
theorem footMay_len {l : List SpanT} {a : Int} (h : footMay l a = true) : l.length ≤ 4 := by
  simp only [footMay, Bool.and_eq_true, Bool.not_eq_true', decide_eq_false_iff_not] at h
  omega
theorem stepMay_small {a : Int} {p : Stp × Stp} (h : stepMay a p = true) : p.1.small ∧ p.2.small := by
  simp only [stepMay, backMay, Bool.and_eq_true, Bool.or_eq_true, Bool.not_eq_true', decide_eq_false_iff_not] at h
  obtain ⟨⟨⟨h1, h2⟩, h3⟩, h4, _⟩ := h
  refine ⟨⟨progMay_len h1, footMay_len h2⟩, ?_, footMay_len h3⟩
  rcases h4 with h | h
  · omega
  · exact progMay_len h
theorem clsMay_small {c : Cls} (h : clsMay c = true) : c.small := by
  simp only [clsMay, Bool.and_eq_true, Bool.not_eq_true', decide_eq_false_iff_not, decide_eq_true_eq] at h
  obtain ⟨⟨⟨_, h5⟩, h6⟩, h7⟩ := h
  have key : ∀ j (h1 : j < c.steps.length) (h2 : j < c.comps.length), c.steps[j].small ∧ c.comps[j].small := fun j h1 h2 => by
    rw [List.all_eq_true] at h7
    have hz : j < (c.steps.zip c.comps).length := by rw [List.length_zip]; omega
    have := stepMay_small (h7 _ (List.getElem_mem hz))
    rwa [List.getElem_zip] at this
  refine ⟨by omega, by omega, h6, fun s hs => ?_, fun s hs => ?_⟩
  · obtain ⟨j, hj, rfl⟩ := List.mem_iff_getElem.1 hs
    exact (key j hj (by omega)).1
  · obtain ⟨j, hj, rfl⟩ := List.mem_iff_getElem.1 hs
    exact (key j (by omega) hj).2
theorem catMay_small {x : Ctlg} (hw : x.wf) (h : catMay x = true) : x.small ∧ x.good := by
  simp only [catMay, Bool.and_eq_true, Bool.not_eq_true', decide_eq_false_iff_not] at h
  obtain ⟨⟨⟨h1, h2⟩, h3⟩, h4⟩ := h
  have hc : ∀ c (h : c < x.classes.length), x.classes[c].small := fun c h => by
    rw [List.all_eq_true] at h3
    have := h3 c (List.mem_range.2 h)
    rw [Bool.and_eq_true, Ctlg.clsOK_of h] at this
    exact clsMay_small this.1
  refine ⟨⟨by omega, by omega, fun c hc' => ?_, hw.2.1⟩, hw, by omega, fun c h => (hc c h).2.1, fun c d => ?_⟩
  · obtain ⟨j, hj, rfl⟩ := List.mem_iff_getElem.1 hc'
    exact hc j hj
  · have hk : ∀ k : Nat, 0 ≤ (x.breaks[k]?).getD 0 := fun k => by
      by_cases hk : k < 16
      · rw [List.all_eq_true] at h4
        have := h4 (k / 4) (List.mem_range.2 (by omega))
        rw [List.all_eq_true] at this
        have := this (k % 4) (List.mem_range.2 (by omega))
        simp only [Ctlg.brkOK, Bool.and_eq_true, Bool.not_eq_true', decide_eq_false_iff_not] at this
        have e : x.brk (k / 4) (k % 4) = (x.breaks[k]?).getD 0 := by rw [Ctlg.brk, show 4 * (k / 4) + k % 4 = k by omega]
        omega
      · rw [List.getElem?_eq_none (by have := hw.2.1; omega)]
        simp
    exact hk _

theorem all_le (c : Cls) (h : c.small) : 0 ≤ c.all ∧ c.all ≤ 7 := by
  obtain ⟨h0, h4, _⟩ := h
  have hl : c.steps.length = 1 ∨ c.steps.length = 2 ∨ c.steps.length = 3 ∨ c.steps.length = 4 := by omega
  rcases hl with hl | hl | hl | hl <;> simp [Cls.all, hl]
theorem openT_le {x : Ctlg} (hx : x.small) (c d : Nat) : 0 ≤ openT x c d ∧ openT x c d ≤ 7 := by
  unfold openT
  split
  · exact all_le _ (hx.2.2.1 _ (List.getElem_mem _))
  · omega
theorem turnL_all {n : Nat} {t : Nat → Nat → Int} {k : Nat} {Q : Int → Prop} (h0 : Q 0) (ht : ∀ c d, Q (t c d)) : ∀ y ∈ turnL n t k, Q y := fun y hy => by
  obtain ⟨j, hj, rfl⟩ := List.mem_iff_getElem.1 hy
  rw [turnL_get]
  split
  · exact ht _ _
  · exact h0
theorem with_good {x : Ctlg} (_ : x.small) (hg : x.good) {l : List Int} (hl : l.length = 16) (h : ∀ y ∈ l, 0 ≤ y ∧ y ≤ 7) : (x.with l).good where
  wf := ⟨hg.wf.1, hl, fun y hy => by have := h y hy; simp only [inI]; omega⟩
  n4 := hg.n4
  s4 := hg.s4
  nn := fun c d => by
    unfold Ctlg.brk
    rcases h2 : (x.with l).breaks[4 * c + d]? with _ | v
    · simp
    · exact (h v (List.mem_of_getElem? h2)).1
theorem open_good {x : Ctlg} (hx : x.small) (hg : x.good) : (openOf x).good := with_good hx hg (turnL_len _ _ _) (turnL_all (by omega) (openT_le hx))
theorem closed_good {x : Ctlg} (hx : x.small) (hg : x.good) : (closedOf x).good := with_good hx hg (by simp) (fun y hy => by rw [List.eq_of_mem_replicate hy]; omega)

theorem open_at {x : Ctlg} (hx : x.small) {c d : Nat} (hc : c < x.classes.length) (hd : d < x.classes.length) (j : Nat) : (openOf x).brkAt c d j = decide (j + 1 < x.classes[c].steps.length) := by
  have hn := hx.2.1
  have hcl : (openOf x).classes = x.classes := rfl
  have hb : (openOf x).brk c d = x.classes[c].all := by
    rw [Ctlg.brk_of (turnL_len _ _ _) (by omega) (by omega)]
    show (turnL x.classes.length (openT x) (x.classes.length * x.classes.length))[4 * c + d]'(by rw [turnL_len]; omega) = _
    rw [turnL_get, show (4 * c + d) / 4 = c by omega, show (4 * c + d) % 4 = d by omega, if_pos]
    · simp [openT, hc]
    · refine ⟨hc, hd, ?_⟩
      have := Nat.mul_le_mul_right x.classes.length (show c + 1 ≤ x.classes.length by omega)
      rw [Nat.add_mul] at this
      omega
  have hs : (openOf x).stepsN c = x.classes[c].steps.length := Ctlg.stepsN_of (x := openOf x) hc
  have hi : ∀ k : Nat, k < x.classes.length → (openOf x).inn k = true := fun k hk => by
    simp only [Ctlg.inn, hcl, Bool.and_eq_true, decide_eq_true_eq]
    omega
  simp only [Ctlg.brkAt, hi c hc, hi d hd, Int.toNat_natCast, hs, hb, Bool.true_and]
  have hsm := hx.2.2.1 _ (List.getElem_mem hc)
  obtain ⟨h0, h4, _⟩ := hsm
  by_cases hj : j + 1 < x.classes[c].steps.length
  · have hl : x.classes[c].steps.length = 2 ∨ x.classes[c].steps.length = 3 ∨ x.classes[c].steps.length = 4 := by omega
    have hj3 : j = 0 ∨ j = 1 ∨ j = 2 := by omega
    have e1 : decide ((0 : Int) ≤ (j : Nat)) = true := by simp
    have e2 : decide ((j : Int) + 1 < x.classes[c].steps.length) = true := by simp; omega
    rw [e1, e2, decide_eq_true hj]
    rcases hl with hl | hl | hl <;> rcases hj3 with rfl | rfl | rfl <;> first | omega | (simp [Cls.all, hl, bitN])
  · have e2 : decide ((j : Int) + 1 < x.classes[c].steps.length) = false := by simp; omega
    rw [e2, decide_eq_false hj]
    simp
theorem closed_at (x : Ctlg) (c d : Int) (j : Nat) : (closedOf x).brkAt c d j = false := by
  have hb : ∀ c d, (closedOf x).brk c d = 0 := fun c d => by
    unfold Ctlg.brk closedOf Ctlg.with
    rcases h2 : (List.replicate 16 (0 : Int))[4 * c + d]? with _ | v
    · simp []
    · have := List.eq_of_mem_replicate (List.mem_of_getElem? h2)
      simp [this]
  simp [Ctlg.brkAt, hb, bitN]
end Go.Proofs

/- The program's writers of footprints, steps and classes. -/
namespace Go.Proofs
open Go Go.RowKit Go.Am

theorem footPut_ok {h : H} {b : Nat} {t : Tok} {ws : List Nat} (hw : WB h b t ws) (l : List SpanT) (h4 : l.length ≤ 4) (hx : ∀ x ∈ l, x.wf) (hl : ws.length ≤ 810000) : WAdd 133 [.ptr b 0, .sl .no (l.map encSpanT)] h b t (ws ++ writeAll (footItems l)) := by
  refine CallP.run hb133 ok133 (by simp) ?_
  have hb := hw.lt
  simp -implicitDefEqProofs []
  refine callW (count_ok hw (l.length : Int) (by omega) (by omega)) (by simp) fun r h0 t0 q0 => ?_
  rw [Int.toNat_natCast] at q0
  simp -implicitDefEqProofs []
  refine run_loop (fun m S h1 => ∃ (j : Nat) (t1 : Tok), m = l.length - j ∧ j ≤ l.length ∧ S 0 = .ptr b 0 ∧ S 10 = .sl .no (l.map encSpanT) ∧ S 11 = .int .i64 l.length ∧ S 12 = .int .i64 j ∧ WTo h b t (ws ++ [l.length] ++ writeAll ((l.take j).flatMap spanItems)) h1 t1) ?_ l.length ?_
  rotate_left
  · exact ⟨0, t0, rfl, Nat.zero_le _, by simp, by simp, by simp, by simp, by simpa [writeAll] using q0⟩
  rintro m S h1 ⟨j, t1, hm, hj, s0, s10, s11, s12, hq⟩ ih
  by_cases hlt : j < l.length
  · have he := flat_snoc spanItems hlt
    have hlen := footW_len (l.take j)
    rw [List.length_take] at hlen
    have hws : (ws ++ [l.length] ++ writeAll ((l.take j).flatMap spanItems)).length ≤ 810100 := by rw [List.length_append, List.length_append, hlen]; simp; omega
    obtain ⟨x1, x2⟩ := hx _ (List.getElem_mem hlt)
    generalize hxe : l[j] = x at he x1 x2
    have hbn := hq.keep.bn
    have z : ¬ b = h1.bn := by omega
    simp -implicitDefEqProofs [s0, s10, s11, s12, hlt, hxe, encSpanT]
    have k1 := (hq.al [.int .i64 0, .int .i64 0, .int .i64 0, .int .i64 0, .bool false]).so (b' := h1.bn) hbn hb (encSpanT x)
    rw [encSpanT] at k1
    have hks : ∀ k ∈ [x.lo, x.hi], k.wf := by intro k hk; simp only [List.mem_cons, List.not_mem_nil, or_false] at hk; rcases hk with rfl | rfl <;> assumption
    refine callW (templates_ok k1.wb [x.lo, x.hi] hks (by simp only [List.length_cons, List.length_nil]; omega)) (by simp [encKeyT]) fun r h2 t2 q2 => ?_
    have k2 := k1.trans q2
    have f2 : h2.bx h1.bn = some (encSpanT x) := by rw [q2.keep.bx _ (by simp) (fun e => z e.symm)]; simp [encSpanT]
    rw [encSpanT] at f2
    have n2 : h1.bn < h2.bn := Nat.lt_of_lt_of_le (by simp) q2.keep.bn
    simp -implicitDefEqProofs [s0, f2, n2]
    refine callW (wflag_ok k2.wb x.write (by rw [List.length_append]; simp only [List.flatMap_cons, List.flatMap_nil, List.length_append, List.length_cons, List.length_nil] at hws ⊢; omega)) (by simp) fun r h3 t3 q3 => ?_
    have k3 := k2.trans q3
    have hw9 : ws ++ [l.length] ++ writeAll ((l.take j).flatMap spanItems) ++ ([x.lo, x.hi].flatMap fun k => [signed k.arg, k.base.toNat]) ++ [if x.write = true then 1 else 0] = ws ++ [l.length] ++ writeAll ((l.take (j + 1)).flatMap spanItems) := by
      rw [he, writeAll_app, w_span]; simp
    rw [hw9] at k3
    simp -implicitDefEqProofs [s12, inc_i64 hlt (show l.length ≤ _ by omega), -Int.natCast_add]
    exact ih (l.length - (j + 1)) _ _ (by omega) ⟨j + 1, t3, rfl, by omega, by simp [s0], by simp [s10], by simp [s11], by simp, k3⟩
  · obtain rfl : j = l.length := by omega
    rw [List.take_length] at hq
    simp -implicitDefEqProofs [s11, s12]
    refine ⟨t1, ?_⟩
    rw [footItems, writeAll_cons, w_iN, Int.toNat_natCast, ← List.append_assoc]
    exact hq

theorem progI_len (l : List Inst) : (writeAll (progItems l)).length = 1 + 9 * l.length := by rw [progItems, writeAll_cons, List.length_append, progW_len]; rfl
theorem footI_len (l : List SpanT) : (writeAll (footItems l)).length = 1 + 5 * l.length := by rw [footItems, writeAll_cons, List.length_append, footW_len]; rfl
theorem stp_len (s : Stp) (h : s.small) : (writeAll (stpItems s)).length ≤ 94 := by
  rw [stpItems, writeAll_app, List.length_append, progI_len, footI_len]
  have := h.1; have := h.2; omega

/-- The two steps of a round. -/
theorem putSteps_ok {h : H} {b : Nat} {t : Tok} {ws : List Nat} (hw : WB h b t ws) (l : List Stp) (h2 : l.length ≤ 2) (hx : ∀ x ∈ l, x.wf ∧ x.small) (hl : ws.length ≤ 700000) : WAdd 96 [.ptr b 0, .sl .no (l.map encStp)] h b t (ws ++ writeAll (l.flatMap stpItems)) := by
  refine CallP.run hb96 ok96 (by simp) ?_
  have hb := hw.lt
  simp -implicitDefEqProofs []
  refine run_loop (fun m S h1 => ∃ (j : Nat) (t1 : Tok), m = l.length - j ∧ j ≤ l.length ∧ S 0 = .ptr b 0 ∧ S 6 = .sl .no (l.map encStp) ∧ S 7 = .int .i64 l.length ∧ S 8 = .int .i64 j ∧ (writeAll ((l.take j).flatMap stpItems)).length ≤ 94 * j ∧ WTo h b t (ws ++ writeAll ((l.take j).flatMap stpItems)) h1 t1) ?_ l.length ?_
  rotate_left
  · exact ⟨0, t, rfl, Nat.zero_le _, by simp, by simp, by simp, by simp, by simp [writeAll], by simpa [writeAll] using WTo.refl hw⟩
  rintro m S h1 ⟨j, t1, hm, hj, s0, s6, s7, s8, hlen, hq⟩ ih
  by_cases hlt : j < l.length
  · have he := flat_snoc stpItems hlt
    have hws : (ws ++ writeAll ((l.take j).flatMap stpItems)).length ≤ 701000 := by rw [List.length_append]; omega
    obtain ⟨x1, x2⟩ := hx _ (List.getElem_mem hlt)
    generalize hxe : l[j] = x at he x1 x2
    have hbn := hq.keep.bn
    have z : ¬ b = h1.bn := by omega
    simp -implicitDefEqProofs [s0, s6, s7, s8, hlt, hxe, encStp]
    have k1 := (hq.al [.sl .full [], .sl .full []]).so (b' := h1.bn) hbn hb (encStp x)
    rw [encStp] at k1
    refine callW (progPut_ok k1.wb x.code x2.1 x1.1.2 (by omega)) (by simp) fun r h2 t2 q2 => ?_
    have k2 := k1.trans q2
    have f2 : h2.bx h1.bn = some (encStp x) := by rw [q2.keep.bx _ (by simp) (fun e => z e.symm)]; simp [encStp]
    rw [encStp] at f2
    have n2 : h1.bn < h2.bn := Nat.lt_of_lt_of_le (by simp) q2.keep.bn
    simp -implicitDefEqProofs [s0, f2, n2]
    have hpl := progI_len x.code
    have hx8 := x2.1
    refine callW (footPut_ok k2.wb x.foot x2.2 x1.2.2 (by rw [List.length_append, hpl]; omega)) (by simp) fun r h3 t3 q3 => ?_
    have k3 := k2.trans q3
    have hsl := stp_len x x2
    have hw9 : ws ++ writeAll ((l.take j).flatMap stpItems) ++ writeAll (progItems x.code) ++ writeAll (footItems x.foot) = ws ++ writeAll ((l.take (j + 1)).flatMap stpItems) := by
      rw [he, writeAll_app, stpItems, writeAll_app]; simp
    rw [hw9] at k3
    simp -implicitDefEqProofs [s8, inc_i64 hlt (show l.length ≤ _ by omega), -Int.natCast_add]
    exact ih (l.length - (j + 1)) _ _ (by omega) ⟨j + 1, t3, rfl, by omega, by simp [s0], by simp [s6], by simp [s7], by simp, by rw [he, writeAll_app, List.length_append]; omega, k3⟩
  · obtain rfl : j = l.length := by omega
    rw [List.take_length] at hq
    simp -implicitDefEqProofs [s7, s8]
    exact ⟨t1, hq⟩
end Go.Proofs

/- The program's writer of classes. -/
namespace Go.Proofs
open Go Go.RowKit Go.Am

theorem WTo.sl {h h1 : H} {b : Nat} {t t1 : Tok} {ws : List Nat} (a : WTo h b t ws h1 t1) {L : Nat} (hL : h.ln ≤ L) (o : Option LoopA) : WTo h b t ws (h1.setLoop L o) t1 :=
  ⟨⟨a.wb.lt, a.wb.bx, by have := a.wb.live; unfold TLive at this ⊢; split <;> simp_all⟩, a.next, ⟨a.keep.bn, a.keep.bx, a.keep.tn, a.keep.tk, a.keep.ln, fun l hl => by have := a.keep.lp l hl; simp [show ¬ l = L by omega]; exact this, a.keep.mn, a.keep.mp⟩⟩
theorem WTo.nl {h h1 : H} {b : Nat} {t t1 : Tok} {ws : List Nat} (a : WTo h b t ws h1 t1) (q : LoopA) : WTo h b t ws (h1.newLoop q) t1 :=
  ⟨⟨a.wb.lt, a.wb.bx, by have := a.wb.live; unfold TLive at this ⊢; split <;> simp_all⟩, a.next, ⟨a.keep.bn, a.keep.bx, a.keep.tn, a.keep.tk, by have := a.keep.ln; simp; omega, fun l hl => by have := a.keep.lp l hl; have h2 := a.keep.ln; simp [show ¬ l = h1.ln by omega]; exact this, a.keep.mn, a.keep.mp⟩⟩

def pairItems (p : Stp × Stp) : List Item := stpItems p.1 ++ stpItems p.2
theorem pair_len (p : Stp × Stp) (h : p.1.small ∧ p.2.small) : (writeAll (pairItems p)).length ≤ 188 := by
  rw [pairItems, writeAll_app, List.length_append]
  have := stp_len p.1 h.1; have := stp_len p.2 h.2; omega

set_option maxHeartbeats 2000000 in
theorem classPut_ok {h : H} {b : Nat} {t : Tok} {ws : List Nat} (hw : WB h b t ws) (c : Cls) (hc : c.wf) (hm : clsMay c = true) (hl : ws.length ≤ 600000) : WAdd 50 [.ptr b 0, .agg (encCls c)] h b t (ws ++ writeAll (clsItems c)) := by
  refine CallP.run hb50 ok50 (by simp) ?_
  obtain ⟨hwn, hwa, ⟨hsl, hsw⟩, hcl, hcw⟩ := hc
  obtain ⟨c0, c4, hcs, css, csc⟩ := clsMay_small hm
  have hb := hw.lt
  have hw0 := (hw.alloc [.ptr b 0]).alloc (encCls c)
  have zb : ¬ b = h.bn := by omega
  have zb1 : ¬ b = h.bn + 1 := by omega
  simp -implicitDefEqProofs [encCls]
  rw [encCls] at hw0
  refine callW (wtext_ok hw0 c.name (by omega)) (by simp) fun r h1 t1 q1 => ?_
  have tl := textW_len c.name
  have bX : ∀ (h' : H) (t' : Tok) (ws' : List Nat), WTo ((h.alloc [.ptr b 0]).alloc [.str c.name, .int .i64 c.args, .sl .no (c.steps.map encStp), .sl .no (c.comps.map encStp), .bool c.resume]) b t ws' h' t' → h.bn + 1 < h'.bn ∧ h'.bx h.bn = some [.ptr b 0] ∧ h'.bx (h.bn + 1) = some [.str c.name, .int .i64 c.args, .sl .no (c.steps.map encStp), .sl .no (c.comps.map encStp), .bool c.resume] := fun h' t' ws' q =>
    ⟨Nat.lt_of_lt_of_le (by simp) q.keep.bn, by rw [q.keep.bx _ (by simp) (fun e => zb e.symm)]; simp, by rw [q.keep.bx _ (by simp) (fun e => zb1 e.symm)]; simp⟩
  obtain ⟨n1, x1, y1⟩ := bX _ _ _ q1
  have m1 : h.bn < h1.bn := by omega
  simp -implicitDefEqProofs [n1, x1, y1, m1]
  refine callW (count_ok q1.wb c.args hwa.2 (by rw [List.length_append]; omega)) (by simp) fun r h2 t2 q2 => ?_
  have k2 := q1.trans q2
  obtain ⟨n2, x2, y2⟩ := bX _ _ _ k2
  have m2 : h.bn < h2.bn := by omega
  simp -implicitDefEqProofs [n2, x2, y2, m2]
  refine callW (count_ok q2.wb (c.steps.length : Int) (by omega) (by rw [List.length_append, List.length_append]; simp only [List.length_cons, List.length_nil]; omega)) (by simp) fun r h3 t3 q3 => ?_
  have k3 := k2.trans q3
  obtain ⟨n3, x3, y3⟩ := bX _ _ _ k3
  have m3 : h.bn < h3.bn := by omega
  rw [Int.toNat_natCast] at k3
  have hhead : ws ++ textW c.name ++ [c.args.toNat] ++ [c.steps.length] = ws ++ writeAll [iS c.name, iN c.args 3, iN c.steps.length 4] := by simp [writeAll, w_iS, w_iN]
  rw [hhead] at k3
  simp -implicitDefEqProofs [n3, y3]
  refine callQ_s (each_ok c _) (by simp [encCls]) ?_
  simp -implicitDefEqProofs []
  generalize hS : (su _ 20 _ : Slots) = S
  have s2 : S 2 = .ptr h.bn 0 := by rw [← hS]; simp
  have s3 : S 3 = .ptr (h.bn + 1) 0 := by rw [← hS]; simp
  have s20 : S 20 = .fn 131 [] [.ptr h3.bn 0] := by rw [← hS]; simp
  clear hS
  have k4 := k3.al (encCls c)
  generalize hH : h3.alloc (encCls c) = h4 at k4
  have e4 : h4.bx h3.bn = some (encCls c) := by rw [← hH]; simp
  have n4 : h4.bn = h3.bn + 1 := by rw [← hH]; simp
  clear hH
  generalize hh0 : ((h.alloc [.ptr b 0]).alloc [.str c.name, .int .i64 c.args, .sl .no (c.steps.map encStp), .sl .no (c.comps.map encStp), .bool c.resume] : H) = h0 at *
  have hln : h0.ln ≤ h4.ln := k4.keep.ln
  have hbn0 : h0.bn ≤ h3.bn := k3.keep.bn
  let q0 : LoopA := ⟨S, [21, 22], c50_x9, c50_y10, .ready, none⟩
  let Z := c.steps.zip c.comps
  have hZl : Z.length = c.steps.length := by simp [Z, hcs]
  let I : Nat → H → Prop := fun k h' => h4.ln < h'.ln ∧ h'.lp h4.ln = some q0 ∧ h4.bn ≤ h'.bn ∧ h'.bx h3.bn = some (encCls c) ∧ (writeAll ((Z.take k).flatMap pairItems)).length ≤ 188 * k ∧ ∃ t', WTo h0 b t (ws ++ writeAll [iS c.name, iN c.args 3, iN c.steps.length 4] ++ writeAll ((Z.take k).flatMap pairItems)) h' t'
  refine .rngf (Z := fun _ h' => I c.steps.length h' ∨ False) (F := 131) (first := []) (caps := [.ptr h3.bn 0]) rfl (by simpa using s20) (each1Q_ok c hcs hsl I (fun _ => False) (fun k h' ⟨_, _, q1, q2, _⟩ => ⟨by omega, q2⟩) ?_ ?_) ?_ ?_
  · rintro k h' k1 k2' ⟨j1, j2, j3, j4, j5, t', j6⟩ K hK1 _
    obtain ⟨n5, x5, y5⟩ := bX _ _ _ j6
    have m5 : h.bn < h'.bn := by omega
    have hkZ : k < Z.length := by omega
    have he := flat_snoc pairItems hkZ
    have hZk : Z[k] = (c.steps[k], c.comps[k]) := by simp [Z]
    rw [hZk] at he
    have hpl := pair_len (c.steps[k], c.comps[k]) ⟨css _ (List.getElem_mem k1), csc _ (List.getElem_mem k2')⟩
    have zz : ¬ h.bn = h'.bn := by omega
    have zz1 : ¬ h.bn = h'.bn + 1 := by omega
    have bb : b < h0.bn := by rw [← hh0]; simp; omega
    refine callQ_y (q := q0) j1 j2 rfl ?_
    have k5 := ((((j6.al [.sl .full [], .sl .full []]).so (b' := h'.bn) (by omega) bb (encStp c.steps[k])).al [.sl .full [], .sl .full []]).so (b' := h'.bn + 1) (by omega) bb (encStp c.comps[k])).sl hln (some ⟨S, [21, 22], c50_x9, c50_y10, .busy, none⟩)
    rw [encStp, encStp] at k5
    simp -implicitDefEqProofs [slotsP, j1, j2, q0, s2, x5, zz, zz1, encStp, show h.bn < h'.bn + 1 + 1 by omega]
    have hlw : (ws ++ writeAll [iS c.name, iN c.args 3, iN c.steps.length 4] ++ writeAll ((Z.take k).flatMap pairItems)).length ≤ 700000 := by
      rw [← hhead, List.length_append, List.length_append, List.length_append, List.length_append]; simp only [List.length_cons, List.length_nil]; omega
    refine callW (putSteps_ok k5.wb [c.steps[k], c.comps[k]] (by simp) (by
      intro x hx
      simp only [List.mem_cons, List.not_mem_nil, or_false] at hx
      rcases hx with rfl | rfl
      · exact ⟨hsw _ (List.getElem_mem k1), css _ (List.getElem_mem k1)⟩
      · exact ⟨hcw _ (List.getElem_mem k2'), csc _ (List.getElem_mem k2')⟩) hlw) (by simp [encStp]) fun r h6 t6 q6 => ?_
    have k6 := k5.trans q6
    have hw9 : ws ++ writeAll [iS c.name, iN c.args 3, iN c.steps.length 4] ++ writeAll ((Z.take k).flatMap pairItems) ++ writeAll ([c.steps[k], c.comps[k]].flatMap stpItems) = ws ++ writeAll [iS c.name, iN c.args 3, iN c.steps.length 4] ++ writeAll ((Z.take (k + 1)).flatMap pairItems) := by
      rw [he, writeAll_app, pairItems]; simp
    rw [hw9] at k6
    have l6 : h'.ln ≤ h6.ln := q6.keep.ln
    have p6 : h6.lp h4.ln = some ⟨S, [21, 22], c50_x9, c50_y10, .busy, none⟩ := by rw [q6.keep.lp h4.ln (by simpa using j1)]; simp
    have b6 : h'.bn + 1 + 1 ≤ h6.bn := q6.keep.bn
    have e6 : h6.bx h3.bn = some (encCls c) := by
      have z1 : ¬ h3.bn = h'.bn := by omega
      have z2 : ¬ h3.bn = h'.bn + 1 := by omega
      rw [q6.keep.bx h3.bn (by simp; omega) (fun e => by have e : h3.bn = b := e; omega)]
      simp [z1, z2, j4]
    have l7 : h4.ln < h6.ln := by omega
    simp -implicitDefEqProofs [roundQ, l7, p6]
    refine hK1 _ ⟨by simpa using l7, by simp [q0], by simp; omega, by simpa using e6, ?_, t6, k6.sl hln _⟩
    rw [he, writeAll_app, List.length_append]
    omega
  · refine ⟨by simp, by simp [q0], by simp, by simpa using e4, by simp [writeAll], t3, ?_⟩
    have := k4.nl q0
    simpa [writeAll] using this
  · rintro v h5 (⟨j1, j2, _⟩ | hf)
    · exact ⟨j1, _, j2, by simp [q0]⟩
    · exact hf.elim
  · rintro v h5 q (⟨j1, j2, j3, j4, j5, t', j6⟩ | hf) hq
    · rw [j2] at hq
      cases hq
      have k7 := j6.sl hln none
      obtain ⟨n7, x7, y7⟩ := bX _ _ _ k7
      have m7 : h.bn < (h5.setLoop h4.ln none).bn := by omega
      have htk : Z.take c.steps.length = Z := List.take_of_length_le (by omega)
      rw [htk] at k7
      rw [htk] at j5
      simp only [pendK, q0, List.nil_append]
      generalize hh5 : h5.setLoop h4.ln none = h8 at *
      simp -implicitDefEqProofs [s2, s3, n7, x7, y7, m7]
      refine callW (wflag_ok k7.wb c.resume (by rw [List.length_append, ← hhead, List.length_append, List.length_append, List.length_append]; simp only [List.length_cons, List.length_nil]; omega)) (by simp) fun r h9 t9 q9 => ?_
      have k9 := k7.trans q9
      simp -implicitDefEqProofs []
      refine ⟨t9, ?_⟩
      have hw9 : ws ++ writeAll [iS c.name, iN c.args 3, iN c.steps.length 4] ++ writeAll (Z.flatMap pairItems) ++ [if c.resume = true then 1 else 0] = ws ++ writeAll (clsItems c) := by
        have e : clsItems c = [iS c.name, iN c.args 3, iN c.steps.length 4] ++ Z.flatMap pairItems ++ [iF c.resume] := rfl
        rw [e, writeAll_app, writeAll_app]
        simp [writeAll, w_iF]
      rw [hw9] at k9
      rw [← hh0] at k9
      exact k9.alloc.alloc
    · exact hf.elim
end Go.Proofs

/- What is written, as items: the document's answer. -/
namespace Go.Proofs
open Go Go.RowKit Go.Am

/-- Cells that are these items', where what a slice is over doesn't count. -/
def AreI (es : List (List AV)) (a : List Item) : Prop := es.map (List.map wk) = a.map encI
theorem AreI.len {es : List (List AV)} {a : List Item} (h : AreI es a) : es.length = a.length := by have := congrArg List.length h; simpa using this
theorem AreI.six {es : List (List AV)} {a : List Item} (h : AreI es a) : ∀ e ∈ es, e.length = 6 := fun e he => by
  have hm : e.map wk ∈ a.map encI := by rw [← h]; exact List.mem_map.2 ⟨e, he, rfl⟩
  obtain ⟨x, _, hx⟩ := List.mem_map.1 hm
  have := congrArg List.length hx
  simpa [encI] using this.symm
theorem AreI.app {es es2 : List (List AV)} {a b : List Item} (h : AreI es a) (h2 : AreI es2 b) : AreI (es ++ es2) (a ++ b) := by unfold AreI at *; rw [List.map_append, List.map_append, h, h2]
theorem AreI.self (a : List Item) : AreI (a.map encI) a := by unfold AreI; simp []
/-- Items are appended. -/
theorem appQ_i {h : H} {t t2 : Tok} {es es2 : List (List AV)} {a b : List Item} {K : AV → H → Prop} (e1 : AreI es a) (e2 : AreI es2 b) (ht : TLive h t es.length) (hl : a.length + b.length ≤ 100000)
    (hk : ∀ t' h' es', AreI es' (a ++ b) → TLive h' t' es'.length → HF h h' (fun _ => False) (TOwn t) → h'.bn = h.bn → K (.sl t' es') h') : appQ h 6 72 (.sl t es) (.sl t2 es2) K := by
  refine appQ_tok (es2 := es2) ht e1.six ?_ (by rw [e1.len, e2.len]; omega) fun t' h' q1 q2 q3 q4 => hk t' h' _ (e1.app e2) q1 q3 q4
  simp only [srcA]
  rw [if_pos e2.six]

theorem keyItems_ok (k : KeyT) : PCall Try.prog 134 [.agg (encKeyT k)] (encIs (keyItems k)) := by
  refine PCall.run hb134 ok134 (by simp) (pures1 (.agg (pures_cons (.int _ _) (pures1 (.int _ _))))) (pure_encIs _) ?_
  simp -implicitDefEqProofs [encKeyT, H.nil]
  simp [encIs, keyItems, iX, iN, encI]

theorem inst_n (x : Inst) : (instItems x).length = 9 := rfl
theorem span_n (x : SpanT) : (spanItems x).length = 5 := rfl
theorem prog_n (l : List Inst) : (l.flatMap instItems).length = 9 * l.length := flat_len _ 9 inst_n l
theorem foot_n (l : List SpanT) : (l.flatMap spanItems).length = 5 * l.length := flat_len _ 5 span_n l

theorem refProgItems_ok (l : List Inst) (h8 : l.length ≤ 8) : PCall Try.prog 97 [.sl .no (l.map encInst)] (encIs (progItems l)) := by
  refine PCall.run hb97 ok97 (by simp) (pures1 (elOK_Inst.pureL l)) (pure_encIs _) ?_
  simp -implicitDefEqProofs [H.nil]
  refine run_loop (fun m S h1 => ∃ (j : Nat) (t : Tok), m = l.length - j ∧ j ≤ l.length ∧ S 0 = .sl .no (l.map encInst) ∧ (∃ es, S 3 = .sl t es ∧ AreI es (iN l.length 8 :: (l.take j).flatMap instItems) ∧ TLive h1 t es.length) ∧ S 4 = .int .i64 j) ?_ l.length ?_
  rotate_left
  · exact ⟨0, .full, rfl, Nat.zero_le _, by simp, ⟨_, by simp; rfl, by simp [AreI, iN, encI], trivial⟩, by simp⟩
  rintro m S h1 ⟨j, t, hm, hj, s0, ⟨es, s3, hA0, hL⟩, s4⟩ ih
  by_cases hlt : j < l.length
  · have he := flat_snoc instItems hlt
    have hn := prog_n (l.take j)
    rw [List.length_take] at hn
    generalize hxe : l[j] = x at he
    generalize hA : iN l.length 8 :: (l.take j).flatMap instItems = A at hA0
    have hAl : A.length ≤ 80 := by rw [← hA]; simp only [List.length_cons]; omega
    simp -implicitDefEqProofs [s0, s3, s4, hlt, hxe, encInst]
    refine appQ_i (b := [iN x.op 255, iN x.a 255, iN x.b 255, iN x.c 255]) hA0 (by simp [AreI, iN, encI]) hL (by simp only [List.length_cons, List.length_nil]; omega) fun t1 h2 e1 a1 p1 p2 p3 => ?_
    have f2 : h2.bx h1.bn = some (encInst x) := by rw [p2.bx _ (by simp) (fun h => h)]; simp [encInst]
    rw [encInst] at f2
    have n2 : h1.bn < h2.bn := by rw [p3]; simp
    simp -implicitDefEqProofs []
    refine run_dreg c97_d7 ?_
    simp -implicitDefEqProofs [f2, n2]
    refine lcallQ_p (keyItems_ok x.k) (by simp [encKeyT]) ?_
    simp -implicitDefEqProofs [encIs]
    refine appQ_i a1 (AreI.self (keyItems x.k)) p1 (by simp only [List.length_append, List.length_cons, List.length_nil, keyItems]; omega) fun t2 h3 e2 a2 r1 r2 r3 => ?_
    have f3 : h3.bx h1.bn = some (encInst x) := by rw [r2.bx _ n2 (fun h => h), f2]; rfl
    rw [encInst] at f3
    have n3 : h1.bn < h3.bn := by rw [r3]; exact n2
    simp -implicitDefEqProofs [f3, n3]
    refine lcallQ_p (keyItems_ok x.l) (by simp [encKeyT]) ?_
    simp -implicitDefEqProofs [encIs]
    refine appQ_i a2 (AreI.self (keyItems x.l)) r1 (by simp only [List.length_append, List.length_cons, List.length_nil, keyItems]; omega) fun t3 h4 e3 a3 u1 u2 u3 => ?_
    have f4 : h4.bx h1.bn = some (encInst x) := by rw [u2.bx _ n3 (fun h => h), f3]; rfl
    rw [encInst] at f4
    have n4 : h1.bn < h4.bn := by rw [u3]; exact n3
    simp -implicitDefEqProofs [f2, n2, f3, n3, f4, n4]
    refine appQ_i (b := [iX x.x]) a3 (by simp [AreI, iX, encI]) u1 (by simp only [List.length_append, List.length_cons, List.length_nil, keyItems]; omega) fun t4 h5 e4 a4 v1 v2 v3 => ?_
    have hfin : A ++ [iN x.op 255, iN x.a 255, iN x.b 255, iN x.c 255] ++ keyItems x.k ++ keyItems x.l ++ [iX x.x] = iN l.length 8 :: (l.take (j + 1)).flatMap instItems := by
      rw [he, ← hA, instItems]; simp
    rw [hfin] at a4
    simp -implicitDefEqProofs [s4, inc_i64 hlt (show l.length ≤ _ by omega), -Int.natCast_add]
    exact ih (l.length - (j + 1)) _ _ (by omega) ⟨j + 1, t4, rfl, by omega, by simp [s0], ⟨e4, by simp, a4, v1⟩, by simp⟩
  · obtain rfl : j = l.length := by omega
    rw [List.take_length] at hA0
    simp -implicitDefEqProofs [s0, s3, s4]
    rw [encIs, progItems]
    exact congrArg (AV.sl .no) hA0
end Go.Proofs
