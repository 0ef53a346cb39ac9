/- What the functions that the statement reaches do: their contracts; and what follows of it. -/
import Derived.Test.YtedmjhckiiponaaSUnitsNodes5
import Derived.Test.YtedmjhckiiponaaSUnitsNodes4
import Derived.Test.YtedmjhckiiponaaK4
/- Pairs of classes, by a function over which one ranges; a catalogue that is opened. -/
namespace Go.Proofs
open Go Go.RowKit Go.Am

theorem pairs_ok (x : Ctlg) (hw : x.breaks.length = 16) (h : H) : SCall Try.prog 82 [.agg (encCtlg x)] h (.fn 116 [] [.ptr h.bn 0]) (h.alloc (encCtlg x)) := by
  refine SCall.newG (fun b => .fn 116 [] [.ptr b 0]) (fun _ _ _ _ _ _ _ h1 h2 => Low.fn1 (Low.ptr h1 h2)) (CallP.run hb82 ok82 (by simp) ?_) (pure_encCtlg x)
  have htk := x.take16 hw
  simp -implicitDefEqProofs [encCtlg]
  exact ⟨HF.alloc _ _ _ _, WkL.refl _⟩

/-- One round after the other. -/
theorem pairs1_ok (x : Ctlg) (n4 : x.classes.length ≤ 4) {l b : Nat} {h : H} (I : Nat → H → Prop) (hI : ∀ k h', I k h' → b < h'.bn ∧ h'.bx b = some (encCtlg x))
    (hr : ∀ c d h', c < x.classes.length → d < x.classes.length → I (c * x.classes.length + d) h' → ∀ K : AV → H → Prop, (∀ h'', I (c * x.classes.length + d + 1) h'' → K (.bool true) h'') → callQ Try.prog (.yld l) [.int .i64 c, .int .i64 d] h' K)
    (h0 : I 0 h) : CallP Try.prog 116 [.yld l, .ptr b 0] h fun _ h1 => I (x.classes.length * x.classes.length) h1 := by
  refine CallP.run hb116 ok116 (by simp) ?_
  obtain ⟨b1, b2⟩ := hI _ _ h0
  have hmn : ¬ (4 : Int) < x.classes.length := by omega
  simp -implicitDefEqProofs [b1, b2, encCtlg, hmn]
  refine run_loop (fun m s h1 => ∃ c : Nat, m = x.classes.length - c ∧ c ≤ x.classes.length ∧ s 0 = .yld l ∧ s 3 = .int .i64 x.classes.length ∧ s 10 = .int .i64 x.classes.length ∧ s 11 = .int .i64 c ∧ I (c * x.classes.length) h1) ?_ x.classes.length ?_
  rotate_left
  · exact ⟨0, by simpa using h0⟩
  rintro m s h1 ⟨c, hn, hc, s0, s3, s10, s11, hi⟩ ih
  by_cases hlc : c < x.classes.length
  · simp -implicitDefEqProofs [s3, s10, s11, hlc]
    refine run_loop (fun m s h1 => ∃ d : Nat, m = x.classes.length - d ∧ d ≤ x.classes.length ∧ s 0 = .yld l ∧ s 3 = .int .i64 x.classes.length ∧ s 10 = .int .i64 x.classes.length ∧ s 11 = .int .i64 c ∧ s 4 = .int .i64 c ∧ s 14 = .int .i64 x.classes.length ∧ s 15 = .int .i64 d ∧ I (c * x.classes.length + d) h1) ?_ x.classes.length ?_
    rotate_left
    · exact ⟨0, by simp [s0, s3, s10, s11, hi]⟩
    rintro m s h1 ⟨d, hn, hd, s0, s3, s10, s11, s4, s14, s15, hi⟩ ih2
    by_cases hld : d < x.classes.length
    · simp -implicitDefEqProofs [s0, s4, s14, s15, hld]
      refine hr c d _ hlc hld hi _ fun h2 hi2 => ?_
      simp -implicitDefEqProofs [s15, inc_i64 hld (by omega), -Int.natCast_add]
      exact ih2 (x.classes.length - (d + 1)) _ _ (by omega) ⟨d + 1, rfl, by omega, by simp [s0], by simp [s3], by simp [s10], by simp [s11], by simp [s4], by simp [s14], by simp, hi2⟩
    · obtain rfl : d = x.classes.length := by omega
      simp -implicitDefEqProofs [s11, s14, s15, inc_i64 hlc (by omega), -Int.natCast_add]
      exact ih (x.classes.length - (c + 1)) _ _ (by omega) ⟨c + 1, rfl, by omega, by simp [s0], by simp [s3], by simp [s10], by simp, by rw [Nat.add_mul, Nat.one_mul]; exact hi⟩
  · obtain rfl : c = x.classes.length := by omega
    simp -implicitDefEqProofs [s10, s11]
    exact hi

/-- The breakpoints that are turned, after so many pairs. -/
def turnL (n : Nat) (t : Nat → Nat → Int) (k : Nat) : List Int := (List.range 16).map fun i => if i / 4 < n ∧ i % 4 < n ∧ i / 4 * n + i % 4 < k then t (i / 4) (i % 4) else 0

theorem turnL_len (n : Nat) (t : Nat → Nat → Int) (k : Nat) : (turnL n t k).length = 16 := by simp [turnL]
theorem turnL_get (n : Nat) (t : Nat → Nat → Int) (k : Nat) {i : Nat} (hi : i < (turnL n t k).length) : (turnL n t k)[i] = if i / 4 < n ∧ i % 4 < n ∧ i / 4 * n + i % 4 < k then t (i / 4) (i % 4) else 0 := by
  simp [turnL]
theorem turnL_step {n : Nat} (n4 : n ≤ 4) (t : Nat → Nat → Int) {c d : Nat} (hc : c < n) (hd : d < n) : List.take (c * 4 + d) ((turnL n t (c * n + d)).map (AV.int .i64)) ++ AV.int .i64 (t c d) :: List.drop (c * 4 + d + 1) ((turnL n t (c * n + d)).map (AV.int .i64)) = (turnL n t (c * n + d + 1)).map (AV.int .i64) := by
  have hl := turnL_len n t (c * n + d)
  have hl2 := turnL_len n t (c * n + d + 1)
  have key : turnL n t (c * n + d + 1) = (turnL n t (c * n + d)).set (c * 4 + d) (t c d) := by
    apply List.ext_getElem
    · simp [hl, hl2]
    intro i h1 h2
    rw [List.getElem_set, turnL_get]
    by_cases h : c * 4 + d = i
    · subst h
      have e1 : (c * 4 + d) / 4 = c := by omega
      have e2 : (c * 4 + d) % 4 = d := by omega
      rw [e1, e2, if_pos ⟨hc, hd, by omega⟩, if_pos rfl]
    · rw [if_neg h, turnL_get]
      have e : (i / 4 < n ∧ i % 4 < n ∧ i / 4 * n + i % 4 < c * n + d + 1) ↔ (i / 4 < n ∧ i % 4 < n ∧ i / 4 * n + i % 4 < c * n + d) := by
        constructor
        · rintro ⟨a, b, e⟩
          refine ⟨a, b, ?_⟩
          have hne : i / 4 * n + i % 4 ≠ c * n + d := fun he => by
            have q1 : i / 4 = c := by
              rcases Nat.lt_trichotomy (i / 4) c with q | q | q
              · have := Nat.mul_le_mul_right n (show i / 4 + 1 ≤ c by omega)
                rw [Nat.add_mul] at this; omega
              · exact q
              · have := Nat.mul_le_mul_right n (show c + 1 ≤ i / 4 by omega)
                rw [Nat.add_mul] at this; omega
            rw [q1] at he
            omega
          omega
        · rintro ⟨a, b, e⟩
          exact ⟨a, b, by omega⟩
      simp only [e]
  rw [key, List.map_set, List.set_eq_take_append_cons_drop, if_pos (by simp [hl]; omega)]

theorem turned_run (x : Ctlg) (n4 : x.classes.length ≤ 4) {h : H} {G : FuncId} {first caps : List AV} (hf : first.map wk = first) (hcp : caps.map wk = caps) (t : Nat → Nat → Int)
    (ht : ∀ c d h', c < x.classes.length → d < x.classes.length → HF h h' (fun _ => False) (fun _ => False) → SCall Try.prog G (first ++ [.int .i64 c, .int .i64 d] ++ caps) h' (.int .i64 (t c d)) h')
    {S : Slots} {h5 : H} {Q : Res → Slots → H → Prop} {k : List It} (s3 : S 3 = .ptr (h.bn + 1) 0) (_ : S 4 = .ptr (h.bn + 2) 0) (s5 : S 5 = .ptr (h.bn + 3) 0) (s9 : S 9 = .fn 116 [] [.ptr (h.bn + 4) 0])
    (hln : h5.ln = h.ln) (hbn : h5.bn = h.bn + 5) (b1 : h5.bx (h.bn + 1) = some [.fn G first caps]) (b2 : ∃ cs, h5.bx (h.bn + 2) = some cs ∧ cs.length = 16) (b3 : h5.bx (h.bn + 3) = some ((turnL x.classes.length t 0).map (AV.int .i64))) (b4 : h5.bx (h.bn + 4) = some (encCtlg x)) (hhf : HF h h5 (fun _ => False) (fun _ => False))
    (hk : ∀ h', h.bn + 5 ≤ h'.bn → (∃ cs, h'.bx (h.bn + 2) = some cs ∧ cs.length = 16) → h'.bx (h.bn + 3) = some ((turnL x.classes.length t (x.classes.length * x.classes.length)).map (AV.int .i64)) → HF h h' (fun _ => False) (fun _ => False) → Run Try.prog false k Q S h') :
    Run Try.prog false (.c (.rngf (.t 9) [10, 11] c64_x7 c64_y8) :: k) Q S h5 := by
  let J : Nat → H → Prop := fun k h' => h.ln < h'.ln ∧ h'.lp h.ln = some ⟨S, [10, 11], c64_x7, c64_y8, .ready, none⟩ ∧ h.bn + 5 ≤ h'.bn ∧ h'.bx (h.bn + 1) = some [.fn G first caps] ∧ (∃ cs, h'.bx (h.bn + 2) = some cs ∧ cs.length = 16) ∧ h'.bx (h.bn + 3) = some ((turnL x.classes.length t k).map (AV.int .i64)) ∧ h'.bx (h.bn + 4) = some (encCtlg x) ∧ HF h h' (fun _ => False) (fun _ => False)
  refine .rngf (Z := fun _ h1 => J (x.classes.length * x.classes.length) h1) (F := 116) (first := []) (caps := [.ptr (h.bn + 4) 0]) rfl (by simpa using s9) (pairs1_ok x n4 J (fun k h' ⟨_, _, q1, _, _, _, q2, _⟩ => ⟨by omega, q2⟩) ?_ ?_) ?_ ?_
  · rintro c d h' hc hd ⟨j1, j2, j3, j4, ⟨cs, j5, j5'⟩, j6, j7, j8⟩ K hK
    rw [hln]
    refine callQ_y (q := ⟨S, [10, 11], c64_x7, c64_y8, .ready, none⟩) j1 j2 rfl ?_
    have hst := turnL_step n4 t hc hd
    have hl := turnL_len x.classes.length t (c * x.classes.length + d)
    simp -implicitDefEqProofs [slotsP, j1, j2]
    refine run_dreg c64_d6 ?_
    simp -implicitDefEqProofs [s3, j4, show h.bn + 1 < h'.bn by omega]
    refine callD_s (ht c d (h'.setLoop h.ln _) hc hd ⟨j8.bn, j8.bx, j8.tn, j8.tk, j8.ln, fun l hl => by simp [show l ≠ h.ln by omega]; exact j8.lp l hl, j8.mn, j8.mp⟩) (by simp [hf, hcp]) ?_
    simp -implicitDefEqProofs [s3, s5, j1, j4, j6, show (c : Int) < 4 by omega, show (d : Int) < 4 by omega, hst, hl, show h.bn + 3 < h'.bn by omega, show c * 4 + d + 1 ≤ 16 by omega, roundQ]
    refine ⟨by omega, hK _ ⟨by simpa using j1, by simp, by simpa using j3, by simp [j4], ⟨cs, by simp [j5], j5'⟩, by simp, by simp [j7], ⟨by simpa using j8.bn, fun b hb hn => by simp [show b ≠ h.bn + 3 by omega]; exact j8.bx b hb hn, j8.tn, j8.tk, j8.ln, fun l hl => ?_, j8.mn, j8.mp⟩⟩⟩
    have : l ≠ h.ln := by omega
    simpa [this] using j8.lp l hl
  · exact ⟨by simp [hln], by simp [hln], by simp [hbn], by simpa using b1, by simpa using b2, by simpa using b3, by simpa using b4, ⟨by simpa using hhf.bn, hhf.bx, hhf.tn, hhf.tk, by simp [hln], fun l hl => by simp [hln, show l ≠ h.ln by omega]; exact hhf.lp l hl, hhf.mn, hhf.mp⟩⟩
  · rintro v h2 ⟨j1, j2, j3, j4, j5, j6, j7, j8⟩
    rw [hln]
    exact ⟨j1, _, j2, by simp⟩
  · rintro v h2 q ⟨j1, j2, j3, j4, j5, j6, j7, j8⟩ hq
    rw [hln] at hq ⊢
    rw [j2] at hq
    cases hq
    exact hk _ (by simpa using j3) (by simpa using j5) (by simpa using j6) ⟨j8.bn, j8.bx, j8.tn, j8.tk, j8.ln, fun l hl => by simp [show l ≠ h.ln by omega]; exact j8.lp l hl, j8.mn, j8.mp⟩

theorem turned_ok (x : Ctlg) (hw : x.breaks.length = 16) (n4 : x.classes.length ≤ 4) {h : H} {G : FuncId} {first caps : List AV} (hf : first.map wk = first) (hcp : caps.map wk = caps) (t : Nat → Nat → Int)
    (ht : ∀ c d h', c < x.classes.length → d < x.classes.length → HF h h' (fun _ => False) (fun _ => False) → SCall Try.prog G (first ++ [.int .i64 c, .int .i64 d] ++ caps) h' (.int .i64 (t c d)) h') :
    SCall Try.prog 64 [.agg (encCtlg x), .fn G first caps] h (.agg ((turnL x.classes.length t (x.classes.length * x.classes.length)).map (AV.int .i64))) h := by
  refine SCall.ro (CallP.run hb64 ok64 (by simp) ?_) (.agg (pure_arr _))
  have htk := x.take16 hw
  simp -implicitDefEqProofs [encCtlg, htk, hw]
  refine callQ_s (pairs_ok x hw _) (by simp [encCtlg]) ?_
  simp -implicitDefEqProofs []
  have hz : turnL x.classes.length t 0 = List.replicate 16 0 := by simp [turnL, List.replicate, List.range, List.range.loop]
  refine turned_run x n4 (h := h) hf hcp t ht (by simp) (by simp) (by simp) (by simp) (by simp) (by simp) (by simp) (by simp) (by simp [hz, List.replicate]) (by simp [encCtlg]) ((((HF.alloc _ _ _ _).trans (HF.alloc _ _ _ _)).trans (HF.alloc _ _ _ _)).trans ((HF.alloc _ _ _ _).trans (HF.alloc _ _ _ _))) ?_
  rintro h' q1 ⟨cs, q2, q2'⟩ q3 q4
  have hl := turnL_len x.classes.length t (x.classes.length * x.classes.length)
  have htk2 : List.take 16 ((turnL x.classes.length t (x.classes.length * x.classes.length)).map (AV.int .i64)) = (turnL x.classes.length t (x.classes.length * x.classes.length)).map (AV.int .i64) := List.take_of_length_le (by simp [hl])
  simp -implicitDefEqProofs [q2, q3, hl, htk2, q2', show h.bn + 1 + 1 + 1 < h'.bn by omega, show h.bn + 1 + 1 < h'.bn by omega]
  exact q4.trans' (HF.set (B := (· = h.bn + 1 + 1)) _ rfl) (fun b hb e => by have e : b = h.bn + 1 + 1 := e; omega) (fun _ _ h => h)

def openT (x : Ctlg) (c _ : Nat) : Int := if h : c < x.classes.length then x.classes[c].all else 0
def openOf (x : Ctlg) : Ctlg := x.with (turnL x.classes.length (openT x) (x.classes.length * x.classes.length))

theorem open1_ok (x : Ctlg) (hx : x.small) {h : H} {b c d : Nat} (hb : b < h.bn) (hbx : h.bx b = some (encCtlg x)) (hc : c < x.classes.length) : SCall Try.prog 65 [.int .i64 c, .int .i64 d, .ptr b 0] h (.int .i64 (openT x c d)) h := by
  refine SCall.ro (CallP.run hb65 ok65 (by simp) ?_) (.int _ _)
  rw [encCtlg] at hbx
  simp -implicitDefEqProofs [hb, hbx, hc]
  refine callQ_p (all_ok x.classes[c] (hx.2.2.1 _ (List.getElem_mem hc))) (by simp) ?_
  simp -implicitDefEqProofs [openT, hc]
  exact HF.refl _ _ _

theorem Ctlg.with_len (x : Ctlg) (l : List Int) : (x.with l).classes = x.classes := rfl
theorem opened_ok (x : Ctlg) (hx : x.small) : PCall Try.prog 24 [.agg (encCtlg x)] (.agg (encCtlg (openOf x))) := by
  refine PCall.run hb24 ok24 (by simp) (pures1 (.agg (pure_encCtlg x))) (.agg (pure_encCtlg _)) ?_
  have htk := x.take16 hx.2.2.2
  have hbl := hx.2.2.2
  simp -implicitDefEqProofs [encCtlg, htk, hbl]
  refine callQ_p (copied_ok x hx) (by simp [encCtlg]) ?_
  simp -implicitDefEqProofs [encCtlg, hbl, H.nil]
  refine callQ_s (turned_ok x hbl hx.2.1 (first := []) (caps := [.ptr 0 0]) rfl (by simp) (openT x) fun c d h' hc hd hf => open1_ok x hx ?_ ?_ hc) (by simp [encCtlg]) ?_
  · have := hf.bn
    simp at this
    omega
  · rw [hf.bx 0 (by simp) (fun h => h)]
    simp [encCtlg, hbl]
  have hl := turnL_len x.classes.length (openT x) (x.classes.length * x.classes.length)
  have hdr : List.drop 16 (x.breaks.map (AV.int .i64)) = [] := by simp [hbl]
  simp -implicitDefEqProofs [hbl, hl, hdr, H.nil]
  exact ⟨rfl, by rw [List.take_of_length_le (by simp [hl]), List.take_of_length_le (by simp [hl])]; rfl⟩
end Go.Proofs

/- What a catalogue that may be is; its opened and its closed one. -/
namespace Go.Proofs
open Go Go.RowKit Go.Am

theorem progMay_len {l : List Inst} {a : Int} (h : progMay l a = true) : l.length ≤ 8 := by
  simp only [progMay, Bool.and_eq_true, Bool.not_eq_true', decide_eq_false_iff_not] at h
  omega
theorem footMay_len {l : List SpanT} {a : Int} (h : footMay l a = true) : l.length ≤ 4 := by
  simp only [footMay, Bool.and_eq_true, Bool.not_eq_true', decide_eq_false_iff_not] at h
  omega
theorem stepMay_small {a : Int} {p : Stp × Stp} (h : stepMay a p = true) : p.1.small ∧ p.2.small := by
  simp only [stepMay, backMay, Bool.and_eq_true, Bool.or_eq_true, Bool.not_eq_true', decide_eq_false_iff_not] at h
  obtain ⟨⟨⟨h1, h2⟩, h3⟩, h4, _⟩ := h
  refine ⟨⟨progMay_len h1, footMay_len h2⟩, ?_, footMay_len h3⟩
  rcases h4 with h | h
  · omega
  · exact progMay_len h
theorem clsMay_small {c : Cls} (h : clsMay c = true) : c.small := by
  simp only [clsMay, Bool.and_eq_true, Bool.not_eq_true', decide_eq_false_iff_not, decide_eq_true_eq] at h
  obtain ⟨⟨⟨_, h5⟩, h6⟩, h7⟩ := h
  have key : ∀ j (h1 : j < c.steps.length) (h2 : j < c.comps.length), c.steps[j].small ∧ c.comps[j].small := fun j h1 h2 => by
    rw [List.all_eq_true] at h7
    have hz : j < (c.steps.zip c.comps).length := by rw [List.length_zip]; omega
    have := stepMay_small (h7 _ (List.getElem_mem hz))
    rwa [List.getElem_zip] at this
  refine ⟨by omega, by omega, h6, fun s hs => ?_, fun s hs => ?_⟩
  · obtain ⟨j, hj, rfl⟩ := List.mem_iff_getElem.1 hs
    exact (key j hj (by omega)).1
  · obtain ⟨j, hj, rfl⟩ := List.mem_iff_getElem.1 hs
    exact (key j (by omega) hj).2
theorem catMay_small {x : Ctlg} (hw : x.wf) (h : catMay x = true) : x.small ∧ x.good := by
  simp only [catMay, Bool.and_eq_true, Bool.not_eq_true', decide_eq_false_iff_not] at h
  obtain ⟨⟨⟨h1, h2⟩, h3⟩, h4⟩ := h
  have hc : ∀ c (h : c < x.classes.length), x.classes[c].small := fun c h => by
    rw [List.all_eq_true] at h3
    have := h3 c (List.mem_range.2 h)
    rw [Bool.and_eq_true, Ctlg.clsOK_of h] at this
    exact clsMay_small this.1
  refine ⟨⟨by omega, by omega, fun c hc' => ?_, hw.2.1⟩, hw, by omega, fun c h => (hc c h).2.1, fun c d => ?_⟩
  · obtain ⟨j, hj, rfl⟩ := List.mem_iff_getElem.1 hc'
    exact hc j hj
  · have hk : ∀ k : Nat, 0 ≤ (x.breaks[k]?).getD 0 := fun k => by
      by_cases hk : k < 16
      · rw [List.all_eq_true] at h4
        have := h4 (k / 4) (List.mem_range.2 (by omega))
        rw [List.all_eq_true] at this
        have := this (k % 4) (List.mem_range.2 (by omega))
        simp only [Ctlg.brkOK, Bool.and_eq_true, Bool.not_eq_true', decide_eq_false_iff_not] at this
        have e : x.brk (k / 4) (k % 4) = (x.breaks[k]?).getD 0 := by rw [Ctlg.brk, show 4 * (k / 4) + k % 4 = k by omega]
        omega
      · rw [List.getElem?_eq_none (by have := hw.2.1; omega)]
        simp
    exact hk _

theorem all_le (c : Cls) (h : c.small) : 0 ≤ c.all ∧ c.all ≤ 7 := by
  obtain ⟨h0, h4, _⟩ := h
  have hl : c.steps.length = 1 ∨ c.steps.length = 2 ∨ c.steps.length = 3 ∨ c.steps.length = 4 := by omega
  rcases hl with hl | hl | hl | hl <;> simp [Cls.all, hl]
theorem openT_le {x : Ctlg} (hx : x.small) (c d : Nat) : 0 ≤ openT x c d ∧ openT x c d ≤ 7 := by
  unfold openT
  split
  · exact all_le _ (hx.2.2.1 _ (List.getElem_mem _))
  · omega
theorem turnL_all {n : Nat} {t : Nat → Nat → Int} {k : Nat} {Q : Int → Prop} (h0 : Q 0) (ht : ∀ c d, Q (t c d)) : ∀ y ∈ turnL n t k, Q y := fun y hy => by
  obtain ⟨j, hj, rfl⟩ := List.mem_iff_getElem.1 hy
  rw [turnL_get]
  split
  · exact ht _ _
  · exact h0
theorem with_good {x : Ctlg} (_ : x.small) (hg : x.good) {l : List Int} (hl : l.length = 16) (h : ∀ y ∈ l, 0 ≤ y ∧ y ≤ 7) : (x.with l).good where
  wf := ⟨hg.wf.1, hl, fun y hy => by have := h y hy; simp only [inI]; omega⟩
  n4 := hg.n4
  s4 := hg.s4
  nn := fun c d => by
    unfold Ctlg.brk
    rcases h2 : (x.with l).breaks[4 * c + d]? with _ | v
    · simp
    · exact (h v (List.mem_of_getElem? h2)).1
theorem open_good {x : Ctlg} (hx : x.small) (hg : x.good) : (openOf x).good := with_good hx hg (turnL_len _ _ _) (turnL_all (by omega) (openT_le hx))
theorem closed_good {x : Ctlg} (hx : x.small) (hg : x.good) : (closedOf x).good := with_good hx hg (by simp) (fun y hy => by rw [List.eq_of_mem_replicate hy]; omega)

theorem open_at {x : Ctlg} (hx : x.small) {c d : Nat} (hc : c < x.classes.length) (hd : d < x.classes.length) (j : Nat) : (openOf x).brkAt c d j = decide (j + 1 < x.classes[c].steps.length) := by
  have hn := hx.2.1
  have hcl : (openOf x).classes = x.classes := rfl
  have hb : (openOf x).brk c d = x.classes[c].all := by
    rw [Ctlg.brk_of (turnL_len _ _ _) (by omega) (by omega)]
    show (turnL x.classes.length (openT x) (x.classes.length * x.classes.length))[4 * c + d]'(by rw [turnL_len]; omega) = _
    rw [turnL_get, show (4 * c + d) / 4 = c by omega, show (4 * c + d) % 4 = d by omega, if_pos]
    · simp [openT, hc]
    · refine ⟨hc, hd, ?_⟩
      have := Nat.mul_le_mul_right x.classes.length (show c + 1 ≤ x.classes.length by omega)
      rw [Nat.add_mul] at this
      omega
  have hs : (openOf x).stepsN c = x.classes[c].steps.length := Ctlg.stepsN_of (x := openOf x) hc
  have hi : ∀ k : Nat, k < x.classes.length → (openOf x).inn k = true := fun k hk => by
    simp only [Ctlg.inn, hcl, Bool.and_eq_true, decide_eq_true_eq]
    omega
  simp only [Ctlg.brkAt, hi c hc, hi d hd, Int.toNat_natCast, hs, hb, Bool.true_and]
  have hsm := hx.2.2.1 _ (List.getElem_mem hc)
  obtain ⟨h0, h4, _⟩ := hsm
  by_cases hj : j + 1 < x.classes[c].steps.length
  · have hl : x.classes[c].steps.length = 2 ∨ x.classes[c].steps.length = 3 ∨ x.classes[c].steps.length = 4 := by omega
    have hj3 : j = 0 ∨ j = 1 ∨ j = 2 := by omega
    have e1 : decide ((0 : Int) ≤ (j : Nat)) = true := by simp
    have e2 : decide ((j : Int) + 1 < x.classes[c].steps.length) = true := by simp; omega
    rw [e1, e2, decide_eq_true hj]
    rcases hl with hl | hl | hl <;> rcases hj3 with rfl | rfl | rfl <;> first | omega | (simp [Cls.all, hl, bitN])
  · have e2 : decide ((j : Int) + 1 < x.classes[c].steps.length) = false := by simp; omega
    rw [e2, decide_eq_false hj]
    simp
theorem closed_at (x : Ctlg) (c d : Int) (j : Nat) : (closedOf x).brkAt c d j = false := by
  have hb : ∀ c d, (closedOf x).brk c d = 0 := fun c d => by
    unfold Ctlg.brk closedOf Ctlg.with
    rcases h2 : (List.replicate 16 (0 : Int))[4 * c + d]? with _ | v
    · simp []
    · have := List.eq_of_mem_replicate (List.mem_of_getElem? h2)
      simp [this]
  simp [Ctlg.brkAt, hb, bitN]
end Go.Proofs

/- The laws of units: parts and bounds. -/
namespace Go.Proofs
open Go Go.RowKit Go.Am

theorem lohi_same (p : Nat → Bool) {n i j : Nat} (hi : i < n) (hj1 : loF p i ≤ j) (hj2 : j ≤ hiF p (n - 1 - i) i) : loF p j = loF p i ∧ hiF p (n - 1 - j) j = hiF p (n - 1 - i) i := by
  have g1 := hiF_ge p (n - 1 - i) i
  have l1 := loF_le p i
  have hjn : j < n := by omega
  have gj := hiF_ge p (n - 1 - j) j
  have lj := loF_le p j
  have hcnt := (cntF_iff p hi hjn).2 ⟨hj1, hj2⟩
  have key : ∀ k, k < n → (loF p j ≤ k ∧ k ≤ hiF p (n - 1 - j) j ↔ loF p i ≤ k ∧ k ≤ hiF p (n - 1 - i) i) := fun k hk => by
    rw [← cntF_iff p hjn hk, ← cntF_iff p hi hk, hcnt]
  have a := (key (loF p j) (by omega)).1 ⟨by omega, by omega⟩
  have b := (key (loF p i) (by omega)).2 ⟨by omega, by omega⟩
  have c := (key (hiF p (n - 1 - j) j) (by omega)).1 ⟨by omega, by omega⟩
  have d := (key (hiF p (n - 1 - i) i) (by omega)).2 ⟨by omega, by omega⟩
  omega
theorem loF_start (p : Nat → Bool) {i : Nat} (h : i = 0 ∨ p (i - 1) = true) : loF p i = i := by
  cases i with
  | zero => rfl
  | succ i => simp at h; simp [loF, h]
theorem loF_all {p : Nat → Bool} {n i : Nat} (hi : i < n) (h : ∀ j, p j = decide (j + 1 < n)) : loF p i = i := by
  refine loF_start p ?_
  by_cases h0 : i = 0
  · exact .inl h0
  · right; rw [h]; simp; omega
theorem hiF_all {p : Nat → Bool} {n i : Nat} (hi : i < n) (h : ∀ j, p j = decide (j + 1 < n)) : hiF p (n - 1 - i) i = i := by
  by_cases h0 : i + 1 < n
  · obtain ⟨m, hm⟩ : ∃ m, n - 1 - i = m + 1 := ⟨n - 1 - i - 1, by omega⟩
    rw [hm, hiF, h i, if_pos (by simpa using h0)]
  · rw [show n - 1 - i = 0 by omega]; rfl
theorem loF_none {p : Nat → Bool} (h : ∀ j, p j = false) (i : Nat) : loF p i = 0 := by
  induction i with
  | zero => rfl
  | succ i ih => simp [loF, h, ih]
theorem hiF_none {p : Nat → Bool} (h : ∀ j, p j = false) (k i : Nat) : hiF p k i = i + k := by
  induction k generalizing i with
  | zero => rfl
  | succ k ih => simp only [hiF, h, Bool.false_eq_true, if_false]; rw [ih]; omega

theorem stN {x : Ctlg} {c : Nat} (hc : c < x.classes.length) : x.stepsN (c : Int).toNat = x.classes[c].steps.length := by rw [Int.toNat_natCast]; exact Ctlg.stepsN_of hc
theorem inn_of {x : Ctlg} (hx : x.small) {c : Nat} (hc : c < x.classes.length) : x.inn c = true := by
  have := hx.2.1
  simp only [Ctlg.inn, Bool.and_eq_true, decide_eq_true_eq]
  omega
theorem bndV_of {x : Ctlg} (hx : x.small) {c d : Nat} (hc : c < x.classes.length) (hd : d < x.classes.length) {j : Nat} (hj : j < x.classes[c].steps.length) : bndV x c d j = .tup [.int .i64 (x.lo c d j), .int .i64 (x.hi c d j), .bool true] := by
  have h1 : x.inb c d j = true := by
    simp only [Ctlg.inb, inn_of hx hc, inn_of hx hd, stN hc, Bool.and_eq_true, decide_eq_true_eq]
    refine ⟨⟨⟨?_, ?_⟩, ?_⟩, ?_⟩ <;> first | trivial | omega
  rw [bndV, if_pos h1, Int.toNat_natCast]
theorem bndV_open {x : Ctlg} (hx : x.small) {c d : Nat} (hc : c < x.classes.length) (hd : d < x.classes.length) {j : Nat} (hj : j < x.classes[c].steps.length) : bndV (openOf x) c d j = .tup [.int .i64 j, .int .i64 j, .bool true] := by
  have ho : (openOf x).small := ⟨hx.1, hx.2.1, hx.2.2.1, turnL_len _ _ _⟩
  rw [bndV_of (x := openOf x) ho hc hd hj]
  have h := open_at hx hc hd
  have e1 : (openOf x).lo c d j = j := loF_all hj h
  have e2 : (openOf x).hi c d j = j := by
    unfold Ctlg.hi
    rw [stN (x := openOf x) hc]
    exact hiF_all hj h
  rw [e1, e2]
theorem bndV_closed {x : Ctlg} (hx : x.small) {c d : Nat} (hc : c < x.classes.length) (hd : d < x.classes.length) {j : Nat} (hj : j < x.classes[c].steps.length) : bndV (closedOf x) c d j = .tup [.int .i64 0, .int .i64 (x.classes[c].steps.length - 1 : Nat), .bool true] := by
  have ho : (closedOf x).small := ⟨hx.1, hx.2.1, hx.2.2.1, by simp [closedOf, Ctlg.with]⟩
  rw [bndV_of (x := closedOf x) ho hc hd hj]
  have h := fun j => closed_at x c d j
  have e1 : (closedOf x).lo c d j = 0 := loF_none h j
  have e2 : (closedOf x).hi c d j = x.classes[c].steps.length - 1 := by
    unfold Ctlg.hi
    rw [stN (x := closedOf x) hc, hiF_none h]
    show j + (x.classes[c].steps.length - 1 - j) = x.classes[c].steps.length - 1
    omega
  rw [e1, e2]; rfl
theorem lohi_of {x : Ctlg} (_ : x.small) {c d : Nat} (hc : c < x.classes.length) {i j : Nat} (hi : i < x.classes[c].steps.length) (h1 : x.lo c d i ≤ j) (h2 : j ≤ x.hi c d i) : x.lo c d j = x.lo c d i ∧ x.hi c d j = x.hi c d i := by
  unfold Ctlg.lo Ctlg.hi at *
  rw [stN hc] at *
  exact lohi_same _ hi h1 h2
theorem hi_lt {x : Ctlg} (_ : x.small) {c d : Nat} (hc : c < x.classes.length) {i : Nat} (hi : i < x.classes[c].steps.length) : i ≤ x.hi c d i ∧ x.hi c d i < x.classes[c].steps.length := by
  unfold Ctlg.hi
  rw [stN hc]
  have := hiF_ge (fun j : Nat => x.brkAt c d j) (x.classes[c].steps.length - 1 - i) i
  omega
theorem lo_next {x : Ctlg} (_ : x.small) {c d : Nat} (hc : c < x.classes.length) {i : Nat} (hi : i < x.classes[c].steps.length) (hn : x.hi c d i + 1 < x.classes[c].steps.length) : x.lo c d (x.hi c d i + 1) = x.hi c d i + 1 := by
  have h := hiF_at (fun j : Nat => x.brkAt c d j) (x.classes[c].steps.length - 1 - i) i
  have e : x.hi c d i = hiF (fun j : Nat => x.brkAt c d j) (x.classes[c].steps.length - 1 - i) i := by
    unfold Ctlg.hi; rw [stN hc]
  rw [← e] at h
  refine loF_start _ ?_
  rcases h with h | h
  · omega
  · right; simpa using h

theorem unitsParts_ok (x : Ctlg) (c d : Int) (hx : x.wf) (hc : inI c) (hd : inI d) : PCall Try.prog 4 [.agg (encCtlg x), .int .i64 c, .int .i64 d] (.bool true) := by
  refine PCall.run hb4 ok4 (by simp) (pures_cons (.agg (pure_encCtlg x)) (pures_cons (.int _ _) (pures1 (.int _ _)))) (.bool _) ?_
  have htk := x.take16 hx.2.1
  have hbl := hx.2.1
  simp -implicitDefEqProofs [encCtlg]
  refine callQ_p alive14_ok (by simp) ?_
  simp -implicitDefEqProofs [htk, hbl]
  refine callQ_p (refCatMay_ok x hx) (by simp [encCtlg]) ?_
  cases hm : catMay x
  · simp -implicitDefEqProofs []
  obtain ⟨hs, hg⟩ := catMay_small hx hm
  simp -implicitDefEqProofs [htk, hbl]
  refine callQ_p (refThere_ok x hx hc) (by simp [encCtlg]) ?_
  by_cases a1 : 0 ≤ c
  rotate_left
  · simp -implicitDefEqProofs [a1]
  obtain ⟨c, rfl⟩ := Int.eq_ofNat_of_zero_le a1
  by_cases a2 : c < x.classes.length
  rotate_left
  · simp -implicitDefEqProofs [a2]
  simp -implicitDefEqProofs [a2, htk, hbl]
  refine callQ_p (refThere_ok x hx hd) (by simp [encCtlg]) ?_
  by_cases b1 : 0 ≤ d
  rotate_left
  · simp -implicitDefEqProofs [b1]
  obtain ⟨d, rfl⟩ := Int.eq_ofNat_of_zero_le b1
  by_cases b2 : d < x.classes.length
  rotate_left
  · simp -implicitDefEqProofs [b2]
  simp -implicitDefEqProofs [b2, H.nil]
  have hsl := hg.s4 c a2
  refine run_loop (fun n s h => ∃ i : Nat, n = x.classes[c].steps.length - i ∧ i ≤ x.classes[c].steps.length ∧ (i < x.classes[c].steps.length → x.lo c d i = i) ∧ s 3 = .ptr 0 0 ∧ 0 < h.bn ∧ h.bx 0 = some ([.sl .no (x.classes.map encCls)] ++ x.breaks.map (AV.int .i64)) ∧ s 1 = .int .i64 c ∧ s 2 = .int .i64 d ∧ s 7 = .int .i64 i) ?_ x.classes[c].steps.length ?_
  rotate_left
  · exact ⟨0, by simp [Ctlg.lo, loF]⟩
  rintro n s h ⟨i, hn, hi, hlo, s3, h0, hb, s1, s2, s7⟩ ih
  by_cases hlt : i < x.classes[c].steps.length
  · have hlo := hlo hlt
    have hhi := hi_lt (d := d) hs a2 hlt
    simp -implicitDefEqProofs [s3, h0, hb, s1, s2, s7, hlt, a2, encCls, hbl]
    refine callQ_p (bounds_ok x hg (c := c) (d := d) (i := i) hc hd (by simp only [inI]; omega)) (by simp [encCtlg, htk]) ?_
    have hbv := bndV_of hs a2 b2 hlt
    rw [hlo] at hbv
    generalize hhe : x.hi c d i = hh at *
    simp -implicitDefEqProofs [hbv, s7, show ¬ (hh : Int) < i by omega]
    refine run_loop (fun n s h => ∃ j : Nat, n = hh + 1 - j ∧ i ≤ j ∧ j ≤ hh + 1 ∧ s 3 = .ptr 0 0 ∧ 0 < h.bn ∧ h.bx 0 = some ([.sl .no (x.classes.map encCls)] ++ x.breaks.map (AV.int .i64)) ∧ s 1 = .int .i64 c ∧ s 2 = .int .i64 d ∧ s 7 = .int .i64 i ∧ s 8 = .int .i64 i ∧ s 9 = .int .i64 hh ∧ s 11 = .int .i64 j) ?_ (hh + 1 - i) ?_
    rotate_left
    · exact ⟨i, by simp [s3, h0, hb, s1, s2, s7]; omega⟩
    rintro n s h ⟨j, hn, hj1, hj2, s3, h0, hb, s1, s2, s7, s8, s9, s11⟩ ih2
    by_cases hlj : j ≤ hh
    · have hjs : j < x.classes[c].steps.length := by omega
      obtain ⟨e1, e2⟩ := lohi_of (d := d) hs a2 hlt (j := j) (by omega) (by omega)
      have hbj := bndV_of hs a2 b2 hjs
      rw [e1, e2, hlo, hhe] at hbj
      have hbo := bndV_open hs a2 b2 hjs
      simp -implicitDefEqProofs [s3, h0, hb, s1, s2, s9, s11, hlj, hbl]
      refine callQ_p (bounds_ok x hg (c := c) (d := d) (i := j) hc hd (by simp only [inI]; omega)) (by simp [encCtlg, htk]) ?_
      simp -implicitDefEqProofs [hbj, s3, h0, hb, hbl]
      refine callQ_p (opened_ok x hs) (by simp [encCtlg, htk]) ?_
      simp -implicitDefEqProofs [s1, s2, s11]
      refine callQ_p (bounds_ok (openOf x) (open_good hs hg) (c := c) (d := d) (i := j) hc hd (by simp only [inI]; omega)) (by simp) ?_
      simp -implicitDefEqProofs [hbo, s8, s9, s11, show ¬ (j : Int) < i by omega, show ¬ (hh : Int) < j by omega, inc_i64 (show j < hh + 1 by omega) (by omega), -Int.natCast_add]
      exact ih2 (hh + 1 - (j + 1)) _ _ (by omega) ⟨j + 1, rfl, by omega, by omega, by simp [s3], by simpa using h0, by simp [hb], by simp [s1], by simp [s2], by simp [s7], by simp [s8], by simp [s9], by simp⟩
    · simp -implicitDefEqProofs [s9, s11, hlj, inc_i64 (show hh < x.classes[c].steps.length by omega) (by omega), -Int.natCast_add]
      exact ih (x.classes[c].steps.length - (hh + 1)) _ _ (by omega) ⟨hh + 1, rfl, by omega, fun hl => by rw [← hhe]; exact lo_next (d := d) hs a2 hlt (by omega), by simp [s3], by simpa using h0, by simp [hb], by simp [s1], by simp [s2], by simp⟩
  · obtain rfl : i = x.classes[c].steps.length := by omega
    simp -implicitDefEqProofs [s3, h0, hb, s1, s7, a2, encCls, hbl]
end Go.Proofs

/- The law of units: bounds. -/
namespace Go.Proofs
open Go Go.RowKit Go.Am

theorem bnd_false (x : Ctlg) {c d i : Int} (h : x.inb c d i = false) : bndV x c d i = .tup [.int .i64 0, .int .i64 0, .bool false] := by simp [bndV, h]
theorem inb_dest {x : Ctlg} {c d i : Int} (h : x.inb c d i = true) : ∃ (c' d' j : Nat) (hc : c' < x.classes.length), c = c' ∧ d = d' ∧ i = j ∧ d' < x.classes.length ∧ j < x.classes[c'].steps.length := by
  simp only [Ctlg.inb, Ctlg.inn, Bool.and_eq_true, decide_eq_true_eq] at h
  obtain ⟨⟨⟨⟨⟨a1, a2⟩, _⟩, ⟨b1, b2⟩, _⟩, i1⟩, i2⟩ := h
  obtain ⟨c, rfl⟩ := Int.eq_ofNat_of_zero_le a1
  obtain ⟨d, rfl⟩ := Int.eq_ofNat_of_zero_le b1
  obtain ⟨i, rfl⟩ := Int.eq_ofNat_of_zero_le i1
  have hc : c < x.classes.length := by omega
  rw [Int.toNat_natCast, Ctlg.stepsN_of hc] at i2
  exact ⟨c, d, i, hc, rfl, rfl, rfl, by omega, by omega⟩

theorem bnd_true (x : Ctlg) {c d i : Int} (h : x.inb c d i = true) : bndV x c d i = .tup [.int .i64 (x.lo c d i.toNat), .int .i64 (x.hi c d i.toNat), .bool true] := by simp [bndV, h]
theorem open_of0 {x : Ctlg} {c d i : Int} (h : x.inb c d (i - 1) = false) : x.openAt c d i = false := by simp [Ctlg.openAt, h]
theorem open_of1 {x : Ctlg} {c d i : Int} (h : x.inb c d (i - 1) = true) : x.openAt c d i = decide (i ≤ (x.hi c d (i - 1).toNat : Int)) := by
  rw [Ctlg.openAt, h, Bool.true_and, Bool.eq_iff_iff, decide_eq_true_eq, decide_eq_true_eq]
  omega
theorem open_ofn (x : Ctlg) (c d : Int) {i : Int} (h : i ≤ 0) : x.openAt c d i = false := by
  have : decide (0 ≤ i - 1) = false := by simp; omega
  rw [Ctlg.openAt, Ctlg.inb, this]; simp

set_option maxRecDepth 8000 in
theorem unitsBounds_ok (x : Ctlg) (c d i : Int) (hx : x.wf) (hc : inI c) (hd : inI d) (hi : inI i) : PCall Try.prog 6 [.agg (encCtlg x), .int .i64 c, .int .i64 d, .int .i64 i] (.bool true) := by
  refine PCall.run hb6 ok6 (by simp) (pures_cons (.agg (pure_encCtlg x)) (pures_cons (.int _ _) (pures_cons (.int _ _) (pures1 (.int _ _))))) (.bool _) ?_
  have htk := x.take16 hx.2.1
  have hbl := hx.2.1
  simp -implicitDefEqProofs [encCtlg]
  refine callQ_p alive14_ok (by simp) ?_
  simp -implicitDefEqProofs [htk, hbl]
  refine callQ_p (refCatMay_ok x hx) (by simp [encCtlg]) ?_
  cases hm : catMay x
  · simp -implicitDefEqProofs []
  obtain ⟨hs, hg⟩ := catMay_small hx hm
  simp -implicitDefEqProofs [htk, hbl]
  refine callQ_p (bounds_ok x hg hc hd hi) (by simp [encCtlg]) ?_
  cases hin : x.inb c d i
  · simp -implicitDefEqProofs [bnd_false x hin, htk, hbl]
    refine callQ_p (refBounds_ok x hx hg.nn hg.n4 hc hd hi) (by simp [encCtlg]) ?_
    simp -implicitDefEqProofs [bnd_false x hin]
    by_cases hp : 0 < i
    · have hw1 : IntKind.i64.wrap (i - 1) = i - 1 := wrap_i64 (by omega) (by simp only [inI] at hi; omega)
      have hi1 : inI (i - 1) := by simp only [inI] at hi ⊢; omega
      simp -implicitDefEqProofs [hp, htk, hbl, hw1]
      refine callQ_p (refBounds_ok x hx hg.nn hg.n4 hc hd hi1) (by simp [encCtlg]) ?_
      cases hq : x.inb c d (i - 1)
      · simp -implicitDefEqProofs [bnd_false x hq, htk, hbl]
        refine callQ_p (open_ok x hg hc hd hi) (by simp [encCtlg]) ?_
        simp -implicitDefEqProofs [open_of0 hq]
      · have hdec : decide (i - 1 < (x.hi c d (i - 1).toNat : Int)) = decide (i ≤ (x.hi c d (i - 1).toNat : Int)) := by rw [Bool.eq_iff_iff]; simp; omega
        simp -implicitDefEqProofs [bnd_true x hq, htk, hbl]
        refine callQ_p (open_ok x hg hc hd hi) (by simp [encCtlg]) ?_
        simp -implicitDefEqProofs [open_of1 hq]
    · simp -implicitDefEqProofs [hp, htk, hbl]
      refine callQ_p (open_ok x hg hc hd hi) (by simp [encCtlg]) ?_
      simp -implicitDefEqProofs [open_ofn x c d (show i ≤ 0 by omega)]
  · obtain ⟨c, d, j, a2, rfl, rfl, rfl, b2, j2⟩ := inb_dest hin
    have hbv := bndV_of hs a2 b2 j2
    simp -implicitDefEqProofs [hbv, htk, hbl]
    refine callQ_p (refBounds_ok x hx hg.nn hg.n4 hc hd hi) (by simp [encCtlg]) ?_
    simp -implicitDefEqProofs [hbv]
    have hcl := bndV_closed hs a2 b2 j2
    have hop := bndV_open hs a2 b2 j2
    have hsl := hg.s4 c a2
    obtain ⟨m, hm1⟩ : ∃ m, x.classes[c].steps.length - 1 = m := ⟨_, rfl⟩
    rw [hm1] at hcl
    have hw2 : IntKind.i64.wrap ((x.classes[c].steps.length : Int) - 1) = (m : Int) := by rw [wrap_i64] <;> omega
    by_cases hp : 0 < j
    focus
      have hw1 : IntKind.i64.wrap ((j : Int) - 1) = (j : Int) - 1 := wrap_i64 (by omega) (by omega)
      have hi1 : inI ((j : Int) - 1) := by simp only [inI]; omega
      simp -implicitDefEqProofs [hp, htk, hbl, hw1]
      refine callQ_p (refBounds_ok x hx hg.nn hg.n4 hc hd hi1) (by simp [encCtlg]) ?_
      cases hq : x.inb c d ((j : Int) - 1)
      focus
        simp -implicitDefEqProofs [bnd_false x hq, htk, hbl]
        refine callQ_p (open_ok x hg hc hd hi) (by simp [encCtlg]) ?_
        simp -implicitDefEqProofs [open_of0 hq, htk, hbl]
      rotate_left
      focus
        simp -implicitDefEqProofs [bnd_true x hq, htk, hbl]
        refine callQ_p (open_ok x hg hc hd hi) (by simp [encCtlg]) ?_
        simp -implicitDefEqProofs [open_of1 hq, htk, hbl]
    rotate_left 2
    focus
      simp -implicitDefEqProofs [hp, htk, hbl]
      refine callQ_p (open_ok x hg hc hd hi) (by simp [encCtlg]) ?_
      simp -implicitDefEqProofs [open_ofn x c d (show (j : Int) ≤ 0 by omega), htk, hbl]
    all_goals
      refine callQ_p (opened_ok x hs) (by simp [encCtlg]) ?_
      simp -implicitDefEqProofs []
      refine callQ_p (bounds_ok (openOf x) (open_good hs hg) hc hd hi) (by simp) ?_
      simp -implicitDefEqProofs [hop, htk, hbl]
      refine callQ_p (closed_ok x hs) (by simp [encCtlg]) ?_
      simp -implicitDefEqProofs []
      refine callQ_p (bounds_ok (closedOf x) (closed_good hs hg) hc hd hi) (by simp) ?_
      simp -implicitDefEqProofs [hcl, hbl, a2, encCls, hw2]
end Go.Proofs

/- Which programs there may be: the program's answer. -/
namespace Go.Proofs
open Go Go.RowKit Go.Am

theorem mayKey_ok (k : KeyT) (args : Int) : PCall Try.prog 156 [.agg (encKeyT k), .int .i64 args] (.bool (mayKey k args)) := by
  refine PCall.run hb156 ok156 (by simp) (pures_cons (pureKey k) (pures1 (.int _ _))) (.bool _) ?_
  simp (maxSteps := 2000000) +contextual -implicitDefEqProofs [↓gdL_T, ↓gdL_F, ↓condQ_b, -Int.not_lt, -Int.not_le, -Nat.not_lt, -Nat.not_le, encKeyT, mayKey]

theorem register_ok (n : Int) : PCall Try.prog 157 [.int .i64 n] (.bool (isReg n)) := by
  refine PCall.run hb157 ok157 (by simp) (pures1 (.int _ _)) (.bool _) ?_
  by_cases h : 0 ≤ n
  · simp -implicitDefEqProofs [isReg, h]
    rw [Bool.eq_iff_iff]; simp; omega
  · simp -implicitDefEqProofs [isReg, h]

def keysI (x : Inst) : List KeyT := if x.op = 1 ∨ x.op = 2 ∨ x.op = 3 then [x.k] else if x.op = 4 then [x.k, x.l] else []
theorem keys_ok (x : Inst) : PCall Try.prog 159 [.agg (encInst x)] (.sl .no ((keysI x).map encKeyT)) := by
  refine PCall.run hb159 ok159 (by simp) (pures1 (pureInst x)) (pure_sl pure_encKeyT _) ?_
  by_cases h1 : x.op = 1
  · simp -implicitDefEqProofs [encInst, h1, keysI, encKeyT]
  by_cases h2 : x.op = 2
  · simp -implicitDefEqProofs [encInst, h2, keysI, encKeyT]
  by_cases h3 : x.op = 3
  · simp -implicitDefEqProofs [encInst, h3, keysI, encKeyT]
  by_cases h4 : x.op = 4
  · simp -implicitDefEqProofs [encInst, h4, keysI, encKeyT]
  simp -implicitDefEqProofs [encInst, h1, h2, h3, h4, keysI]

def zeroK : KeyT := ⟨0, 0⟩
def onlyI (x : Inst) : Inst × Bool :=
  if x.op = 1 ∨ x.op = 2 then (⟨x.op, x.a, 0, 0, x.k, zeroK, 0⟩, true)
  else if x.op = 3 then (⟨x.op, 0, 0, 0, x.k, zeroK, 0⟩, true)
  else if x.op = 4 then (⟨x.op, x.a, 0, 0, x.k, x.l, 0⟩, true)
  else if x.op = 5 ∨ x.op = 8 then (⟨x.op, x.a, 0, 0, zeroK, zeroK, x.x⟩, true)
  else if x.op = 6 ∨ x.op = 7 then (⟨x.op, x.a, x.b, x.c, zeroK, zeroK, 0⟩, true)
  else (⟨x.op, x.a, 0, 0, zeroK, zeroK, 0⟩, false)

theorem only_ok (x : Inst) : PCall Try.prog 154 [.agg (encInst x)] (.tup [.agg (encInst (onlyI x).1), .bool (onlyI x).2]) := by
  refine PCall.run hb154 ok154 (by simp) (pures1 (pureInst x)) (.tup (pures_cons (pureInst _) (pures1 (.bool _)))) ?_
  by_cases h1 : x.op = 1
  · simp -implicitDefEqProofs [encInst, h1, onlyI, H.nil, zeroK]
  by_cases h2 : x.op = 2
  · simp -implicitDefEqProofs [encInst, h2, onlyI, H.nil, zeroK]
  by_cases h3 : x.op = 3
  · simp -implicitDefEqProofs [encInst, h3, H.nil]
    refine run_dreg c154_d8 ?_
    simp -implicitDefEqProofs [onlyI, zeroK, h3]
  by_cases h4 : x.op = 4
  · simp -implicitDefEqProofs [encInst, h4, H.nil]
    refine run_dreg c154_d10 ?_
    simp -implicitDefEqProofs [onlyI, h4]
  by_cases h5 : x.op = 5
  · simp -implicitDefEqProofs [encInst, h5, onlyI, H.nil, zeroK]
  by_cases h8 : x.op = 8
  · simp -implicitDefEqProofs [encInst, h8, onlyI, H.nil, zeroK]
  by_cases h6 : x.op = 6
  · simp -implicitDefEqProofs [encInst, h6, H.nil]
    refine run_dreg c154_d16 ?_
    simp -implicitDefEqProofs [onlyI, zeroK, h6]
  by_cases h7 : x.op = 7
  · simp -implicitDefEqProofs [encInst, h7, H.nil]
    refine run_dreg c154_d16 ?_
    simp -implicitDefEqProofs [onlyI, zeroK, h7]
  simp -implicitDefEqProofs [encInst, h1, h2, h3, h4, h5, h6, h7, h8, onlyI, H.nil, zeroK]
end Go.Proofs

/- Which programs there may be: the program's answer, joined. -/
namespace Go.Proofs
open Go Go.RowKit Go.Am

def mayI (x : Inst) (args : Int) : Bool := (onlyI x).2 && decide (x = (onlyI x).1) && isReg x.a && isReg x.b && isReg x.c && !(keysI x).any fun k => !mayKey k args

theorem may1_ok (k : KeyT) (args : Int) {h : H} {b : Nat} (hb : b < h.bn) (hbx : h.bx b = some [.int .i64 args]) : SCall Try.prog 155 [.agg (encKeyT k), .ptr b 0] h (.bool (!mayKey k args)) h := by
  refine SCall.ro (CallP.run hb155 ok155 (by simp) ?_) (.bool _)
  simp -implicitDefEqProofs [hbx, encKeyT, show ¬ b = h.bn by omega, show b < h.bn + 1 by omega]
  refine callQ_p (mayKey_ok k args) (by simp [encKeyT]) ?_
  simp -implicitDefEqProofs []
  exact HF.alloc _ _ _ _

theorem eqInst_f {x y : Inst} (h : x ≠ y) : (decide (x.op = y.op) && (decide (x.a = y.a) && (decide (x.b = y.b) && (decide (x.c = y.c) && (decide (x.k.arg = y.k.arg) && (decide (x.k.base = y.k.base) && (decide (x.l.arg = y.l.arg) && (decide (x.l.base = y.l.base) && decide (x.x = y.x))))))))) = false := by
  rw [Bool.eq_false_iff]
  intro hc
  apply h
  simp only [Bool.and_eq_true, decide_eq_true_eq] at hc
  rcases x with ⟨a, b, c, d, ⟨e, f⟩, ⟨g, i⟩, j⟩
  rcases y with ⟨a', b', c', d', ⟨e', f'⟩, ⟨g', i'⟩, j'⟩
  simp_all

theorem may_ok (x : Inst) (args : Int) : PCall Try.prog 144 [.agg (encInst x), .int .i64 args] (.bool (mayI x args)) := by
  refine PCall.run hb144 ok144 (by simp) (pures_cons (pureInst x) (pures1 (.int _ _))) (.bool _) ?_
  simp -implicitDefEqProofs [encInst, H.nil]
  refine callQ_p (only_ok x) (by simp [encInst]) ?_
  cases e : (onlyI x).2
  · simp -implicitDefEqProofs [encInst, mayI, e]
  simp -implicitDefEqProofs [encInst]
  by_cases hq : x = (onlyI x).1
  rotate_left
  · have hch := eqInst_f hq
    rw [hch]
    simp -implicitDefEqProofs [mayI, hq]
  have hq' : (onlyI x).1 = x := hq.symm
  simp -implicitDefEqProofs [hq']
  refine callQ_p (register_ok x.a) (by simp) ?_
  cases ra : isReg x.a
  · simp -implicitDefEqProofs [mayI, ra, hq']
  simp -implicitDefEqProofs [hq']
  refine callQ_p (register_ok x.b) (by simp) ?_
  cases rb : isReg x.b
  · simp -implicitDefEqProofs [mayI, rb, hq']
  simp -implicitDefEqProofs [hq']
  refine callQ_p (register_ok x.c) (by simp) ?_
  cases rc : isReg x.c
  · simp -implicitDefEqProofs [mayI, rc, hq']
  simp -implicitDefEqProofs [hq']
  refine callQ_p (keys_ok x) (by simp [encInst]) ?_
  simp -implicitDefEqProofs [hq']
  refine callQ_s (contains_gen hb158 ok158 hb162 ok162 elOK_KeyT (keysI x) (by unfold keysI; split; simp; split <;> simp) (first := []) (caps := [.ptr 1 0]) (p := fun k => !mayKey k args) rfl (by simp) (fun k _ => may1_ok k args (by simp) (by simp))) (by simp) ?_
  simp -implicitDefEqProofs [mayI, e, hq', ra, rb, rc]
end Go.Proofs
