/- What the functions that the statement reaches do: their contracts; and what follows of it. -/
import Derived.Test.YtaepkklbckgbhaaSLintSpans3
import Derived.Test.YtaepkklbckgbhaaSLintSpans1
/- The document's sets of keys: the plain list of a set; the same; a key in common. -/
namespace Go.Proofs
open Go Go.RowKit Go.Am

set_option maxHeartbeats 1000000 in
theorem refPlain_ok (f : Nat → Bool) : PCall Try.prog 17 [setP f] (encL (plainOf f)) := by
  refine PCall.run' hb17 ok17 (by simp) (pures1 (pure_setP f)) (pure_encL _) (wk_encL _) ?_
  simp -implicitDefEqProofs []
  refine run_loop (fun n s h => ∃ k : Nat, n = 1000 - k ∧ k ≤ 1000 ∧ s 0 = setP f ∧ s 4 = .int .i64 k ∧ ((plainTo f k = [] ∧ s 3 = .sl .full []) ∨ (∃ c, plainTo f k ≠ [] ∧ s 3 = .msl c 2 0 (plainTo f k).length ∧ c < h.bn ∧ h.bx c = some (flatP (plainTo f k))))) ?_ 1000 ?_
  rotate_left
  · exact ⟨0, by simp [plainTo]⟩
  rintro n s h ⟨k, hn, hk, s0, s4, hout⟩ ih
  by_cases hlt : k < 1000
  · have hki : (k : Int) < 1000 := by omega
    have i1 := idxOf_nat (k := .i64) hlt
    have g1 := setA_at f hlt
    have g2 : 1 ≤ 1000 - k := by omega
    have g3 : k + 1 ≤ 1000 := by omega
    have hst : plainTo f (k + 1) = if f k then (if 0 < k ∧ f (k - 1) = true then extL (plainTo f k) k else plainTo f k ++ [((k : Int), (k : Int))]) else plainTo f k := rfl
    cases hf : f k with
    | false =>
      rw [hf] at g1 hst
      rw [if_neg (by simp)] at hst
      simp -implicitDefEqProofs [s0, s4, hki, setP, g1, g2, inc_i64 hlt (by omega), -Int.natCast_add]
      refine ih (1000 - (k + 1)) _ _ (by omega) ⟨k + 1, rfl, by omega, by simp [s0, setP], by simp, ?_⟩
      rw [hst]
      simpa using hout
    | true =>
      rw [hf] at g1 hst
      rw [if_pos rfl] at hst
      by_cases hp : 0 < k ∧ f (k - 1) = true
      · rw [if_pos hp] at hst
        obtain ⟨o, t, e, ht⟩ := plainTo_snoc f k hk hp
        rcases hout with ⟨e0, _⟩ | ⟨c, hne, s3, hc1, hc2⟩
        · rw [e0] at e; simp at e
        rw [e, extL_snoc] at hst
        rw [e] at s3 hc2
        have hl : o.length + 1 ≤ 1000000 := by
          have := (plainTo_ok f k hk).1
          have h2 := plainL_len (plainTo f k)
          rw [plainL_plain this, e, List.length_append, List.length_singleton] at h2
          omega
        have hk0 := hp.1
        have hkm : IntKind.i64.wrap ((k : Int) - 1) = ((k - 1 : Nat) : Int) := by rw [wrap_i64 (by omega) (by omega)]; omega
        have i2 := idxOf_nat (k := .i64) (show k - 1 < 1000 by omega)
        have g4 := setA_at f (show k - 1 < 1000 by omega)
        rw [hp.2] at g4
        have w1 : IntKind.i64.wrap (((o.length + 1 : Nat) : Int) - 1) = (o.length : Nat) := by rw [wrap_i64 (by omega) (by omega)]; omega
        have g5 : (o.length : Int) < ((o.length + 1 : Nat) : Int) := by omega
        have g6 : (flatP (o ++ [t])).length = (o.length + 1) * 2 := by rw [flatP_len]; simp
        have g7 : o.length * 2 + 1 + 1 ≤ (o.length + 1) * 2 := by omega
        have g8 := flatP_last_put o t (k : Int)
        simp -implicitDefEqProofs [s0, s3, s4, hki, hk0, hkm, setP, g1, g2, g4, w1, g5, g6, g7, g8, hc1, hc2, show 1 ≤ 1000 - (k - 1) by omega, show ((k - 1 : Nat) : Int) < 1000 by omega, inc_i64 hlt (by omega), -Int.natCast_add]
        refine ih (1000 - (k + 1)) _ _ (by omega) ⟨k + 1, rfl, by omega, by simp [s0, setP], by simp, ?_⟩
        rw [hst]
        exact .inr ⟨c, by simp, by simp [s3], by simpa using hc1, by simp⟩
      · rw [if_neg hp] at hst
        have hb2 : 0 < k ∧ f (k - 1) = false ∨ ¬ 0 < k := by
          by_cases h0 : 0 < k
          · exact .inl ⟨h0, by rw [Bool.eq_false_iff]; exact fun h => hp ⟨by omega, h⟩⟩
          · exact .inr h0
        have happ : ∀ K : AV → H → Prop, (∀ c h1, c < h1.bn → h1.bx c = some (flatP (plainTo f (k + 1))) → K (.msl c 2 0 (plainTo f (k + 1)).length) h1) → appQ h 2 16 (s 3) (.sl .full [[.int .i64 k, .int .i64 k]]) K := by
          intro K hK
          rcases hout with ⟨e0, s3⟩ | ⟨c, hne, s3, hc1, hc2⟩
          · rw [e0] at hst
            rw [s3]
            have q := hK h.bn (h.alloc (flatP [((k : Int), (k : Int))])) (by simp) (by rw [hst]; simp)
            rw [hst] at q
            exact ⟨_, _, .newbox [] [avP ((k : Int), (k : Int))] _ (by simp) (by simp [srcA, avP]) (by simp) (by simp), q⟩
          · rw [s3]
            have hl : (plainTo f k).length ≤ 1000000 := by
              have := (plainTo_ok f k hk).1
              have h2 := plainL_len (plainTo f k)
              rw [plainL_plain this] at h2
              omega
            have g6 : List.take ((plainTo f k).length * 2) (flatP (plainTo f k)) = flatP (plainTo f k) := List.take_of_length_le (by rw [flatP_len]; omega)
            have q := hK h.bn ((h.kill c).alloc (flatP (plainTo f (k + 1)))) (by simp [H.kill]) (by simp [H.kill])
            rw [hst, List.length_append, flatP_app] at q
            rw [← g6] at q
            exact ⟨_, _, .box c (plainTo f k).length (flatP (plainTo f k)) [avP ((k : Int), (k : Int))] _ hc1 hc2 (by rw [flatP_len]; omega) (by simp [srcA, avP]) (by simp) (by simp only [List.length_cons, List.length_nil]; omega), q⟩
        have hne : plainTo f (k + 1) ≠ [] := by rw [hst]; simp
        rcases hb2 with ⟨h0, hp2⟩ | h0
        · have hkm : IntKind.i64.wrap ((k : Int) - 1) = ((k - 1 : Nat) : Int) := by rw [wrap_i64 (by omega) (by omega)]; omega
          have i2 := idxOf_nat (k := .i64) (show k - 1 < 1000 by omega)
          have g4 := setA_at f (show k - 1 < 1000 by omega)
          rw [hp2] at g4
          simp -implicitDefEqProofs [s0, s4, hki, h0, hkm, setP, g1, g2, g4, show 1 ≤ 1000 - (k - 1) by omega, show ((k - 1 : Nat) : Int) < 1000 by omega]
          refine happ _ fun c h1 hc1 hc2 => ?_
          simp -implicitDefEqProofs [s4, inc_i64 hlt (by omega), -Int.natCast_add]
          exact ih (1000 - (k + 1)) _ _ (by omega) ⟨k + 1, rfl, by omega, by simp [s0, setP], by simp, .inr ⟨c, hne, by simp, hc1, hc2⟩⟩
        · simp -implicitDefEqProofs [s0, s4, hki, h0, setP, g1, g2]
          refine happ _ fun c h1 hc1 hc2 => ?_
          simp -implicitDefEqProofs [s4, inc_i64 hlt (by omega), -Int.natCast_add]
          exact ih (1000 - (k + 1)) _ _ (by omega) ⟨k + 1, rfl, by omega, by simp [s0, setP], by simp, .inr ⟨c, hne, by simp, hc1, hc2⟩⟩
  · obtain rfl : k = 1000 := by omega
    simp -implicitDefEqProofs [s4]
    rcases hout with ⟨e0, s3⟩ | ⟨c, hne, s3, hc1, hc2⟩
    · simp -implicitDefEqProofs [s3]
      rw [plainOf, e0]
      exact ⟨_, .weak (fun _ _ _ h => h.wk) (.refl _ _)⟩
    · simp -implicitDefEqProofs [s3]
      have := Gh.msl (z := 2) (n := (plainTo f 1000).length) hc1 hc2 (by omega) (by rw [flatP_len]; omega)
      rw [chunksP] at this
      exact ⟨_, this⟩

set_option maxHeartbeats 1000000 in
theorem refPlainB_ok (f : Nat → Bool) {h0 : H} {b : Nat} (hb : b < h0.bn) (hb2 : h0.bx b = some (setA f)) : SCall Try.prog 17 [.ptr b 0] h0 (encL (plainOf f)) h0 := by
  refine SCall.ro (CallP.gh (CallP.run (K := fun r1 h1 => ∃ h', Gh h1 r1 h' (encL (plainOf f)) ∧ HF h0 h' (fun _ => False) (fun _ => False)) hb17 ok17 (by simp) ?_) fun r1 h1 ⟨h', q1, q2⟩ => ⟨h', _, q1, wk_encL _, q2⟩) (pure_encL _)
  simp -implicitDefEqProofs []
  refine run_loop (fun n s h => ∃ k : Nat, n = 1000 - k ∧ k ≤ 1000 ∧ s 0 = .ptr b 0 ∧ s 4 = .int .i64 k ∧ HF h0 h (fun _ => False) (fun _ => False) ∧ ((plainTo f k = [] ∧ s 3 = .sl .full []) ∨ (∃ c, plainTo f k ≠ [] ∧ s 3 = .msl c 2 0 (plainTo f k).length ∧ h0.bn ≤ c ∧ c < h.bn ∧ h.bx c = some (flatP (plainTo f k))))) ?_ 1000 ?_
  rotate_left
  · exact ⟨0, by simp [plainTo, HF.refl]⟩
  rintro n s h ⟨k, hn, hk, s0, s4, hF, hout⟩ ih
  have hbb : b < h.bn := Nat.lt_of_lt_of_le hb hF.bn
  have hbx : h.bx b = some (setA f) := (hF.bx b hb fun e => e).trans hb2
  by_cases hlt : k < 1000
  · have hki : (k : Int) < 1000 := by omega
    have i1 := idxOf_nat (k := .i64) hlt
    have g1 := setA_at f hlt
    have g2 : 1 ≤ 1000 - k := by omega
    have g3 : k + 1 ≤ 1000 := by omega
    have hst : plainTo f (k + 1) = if f k then (if 0 < k ∧ f (k - 1) = true then extL (plainTo f k) k else plainTo f k ++ [((k : Int), (k : Int))]) else plainTo f k := rfl
    cases hf : f k with
    | false =>
      rw [hf] at g1 hst
      rw [if_neg (by simp)] at hst
      simp -implicitDefEqProofs [s0, s4, hki, g1, g3, hbb, hbx, inc_i64 hlt (by omega), -Int.natCast_add]
      refine ih (1000 - (k + 1)) _ _ (by omega) ⟨k + 1, rfl, by omega, by simp [s0], by simp, hF, ?_⟩
      rw [hst]
      simpa using hout
    | true =>
      rw [hf] at g1 hst
      rw [if_pos rfl] at hst
      by_cases hp : 0 < k ∧ f (k - 1) = true
      · rw [if_pos hp] at hst
        obtain ⟨o, t, e, ht⟩ := plainTo_snoc f k hk hp
        rcases hout with ⟨e0, _⟩ | ⟨c, hne, s3, hc0, hc1, hc2⟩
        · rw [e0] at e; simp at e
        rw [e, extL_snoc] at hst
        rw [e] at s3 hc2
        have hl : o.length + 1 ≤ 1000000 := by
          have := (plainTo_ok f k hk).1
          have h2 := plainL_len (plainTo f k)
          rw [plainL_plain this, e, List.length_append, List.length_singleton] at h2
          omega
        have hk0 := hp.1
        have hkm : IntKind.i64.wrap ((k : Int) - 1) = ((k - 1 : Nat) : Int) := by rw [wrap_i64 (by omega) (by omega)]; omega
        have i2 := idxOf_nat (k := .i64) (show k - 1 < 1000 by omega)
        have g4 := setA_at f (show k - 1 < 1000 by omega)
        rw [hp.2] at g4
        have w1 : IntKind.i64.wrap (((o.length + 1 : Nat) : Int) - 1) = (o.length : Nat) := by rw [wrap_i64 (by omega) (by omega)]; omega
        have g5 : (o.length : Int) < ((o.length + 1 : Nat) : Int) := by omega
        have g6 : (flatP (o ++ [t])).length = (o.length + 1) * 2 := by rw [flatP_len]; simp
        have g7 : o.length * 2 + 1 + 1 ≤ (o.length + 1) * 2 := by omega
        have g8 := flatP_last_put o t (k : Int)
        simp -implicitDefEqProofs [s0, s3, s4, hki, hk0, hkm, g1, g3, g4, w1, g5, g6, g7, g8, hc1, hc2, show ((k - 1 : Nat) : Int) < 1000 by omega, show k - 1 + 1 ≤ 1000 by omega, hbb, hbx, inc_i64 hlt (by omega), -Int.natCast_add]
        refine ih (1000 - (k + 1)) _ _ (by omega) ⟨k + 1, rfl, by omega, by simp [s0], by simp, hF.st hc0 _, ?_⟩
        rw [hst]
        exact .inr ⟨c, by simp, by simp [s3], hc0, by simpa using hc1, by simp⟩
      · rw [if_neg hp] at hst
        have hb2 : 0 < k ∧ f (k - 1) = false ∨ ¬ 0 < k := by
          by_cases h0 : 0 < k
          · exact .inl ⟨h0, by rw [Bool.eq_false_iff]; exact fun h => hp ⟨by omega, h⟩⟩
          · exact .inr h0
        have happ : ∀ K : AV → H → Prop, (∀ c h1, c < h1.bn → h1.bx c = some (flatP (plainTo f (k + 1))) → HF h0 h1 (fun _ => False) (fun _ => False) → h0.bn ≤ c → K (.msl c 2 0 (plainTo f (k + 1)).length) h1) → appQ h 2 16 (s 3) (.sl .full [[.int .i64 k, .int .i64 k]]) K := by
          intro K hK
          rcases hout with ⟨e0, s3⟩ | ⟨c, hne, s3, hc0, hc1, hc2⟩
          · rw [e0] at hst
            rw [s3]
            have q := hK h.bn (h.alloc (flatP [((k : Int), (k : Int))])) (by simp) (by rw [hst]; simp) (hF.al _) hF.bn
            rw [hst] at q
            exact ⟨_, _, .newbox [] [avP ((k : Int), (k : Int))] _ (by simp) (by simp [srcA, avP]) (by simp) (by simp), q⟩
          · rw [s3]
            have hl : (plainTo f k).length ≤ 1000000 := by
              have := (plainTo_ok f k hk).1
              have h2 := plainL_len (plainTo f k)
              rw [plainL_plain this] at h2
              omega
            have g6 : List.take ((plainTo f k).length * 2) (flatP (plainTo f k)) = flatP (plainTo f k) := List.take_of_length_le (by rw [flatP_len]; omega)
            have q := hK h.bn ((h.kill c).alloc (flatP (plainTo f (k + 1)))) (by simp [H.kill]) (by simp [H.kill]) ((hF.kl hc0).al _) hF.bn
            rw [hst, List.length_append, flatP_app] at q
            rw [← g6] at q
            exact ⟨_, _, .box c (plainTo f k).length (flatP (plainTo f k)) [avP ((k : Int), (k : Int))] _ hc1 hc2 (by rw [flatP_len]; omega) (by simp [srcA, avP]) (by simp) (by simp only [List.length_cons, List.length_nil]; omega), q⟩
        have hne : plainTo f (k + 1) ≠ [] := by rw [hst]; simp
        rcases hb2 with ⟨h0, hp2⟩ | h0
        · have hkm : IntKind.i64.wrap ((k : Int) - 1) = ((k - 1 : Nat) : Int) := by rw [wrap_i64 (by omega) (by omega)]; omega
          have i2 := idxOf_nat (k := .i64) (show k - 1 < 1000 by omega)
          have g4 := setA_at f (show k - 1 < 1000 by omega)
          rw [hp2] at g4
          simp -implicitDefEqProofs [s0, s4, hki, h0, hkm, g1, g3, g4, show ((k - 1 : Nat) : Int) < 1000 by omega, show k - 1 + 1 ≤ 1000 by omega, hbb, hbx]
          refine happ _ fun c h1 hc1 hc2 hF1 hc0 => ?_
          simp -implicitDefEqProofs [s4, inc_i64 hlt (by omega), -Int.natCast_add]
          exact ih (1000 - (k + 1)) _ _ (by omega) ⟨k + 1, rfl, by omega, by simp [s0], by simp, hF1, .inr ⟨c, hne, by simp, hc0, hc1, hc2⟩⟩
        · simp -implicitDefEqProofs [s0, s4, hki, h0, g1, g3, hbb, hbx]
          refine happ _ fun c h1 hc1 hc2 hF1 hc0 => ?_
          simp -implicitDefEqProofs [s4, inc_i64 hlt (by omega), -Int.natCast_add]
          exact ih (1000 - (k + 1)) _ _ (by omega) ⟨k + 1, rfl, by omega, by simp [s0], by simp, hF1, .inr ⟨c, hne, by simp, hc0, hc1, hc2⟩⟩
  · obtain rfl : k = 1000 := by omega
    simp -implicitDefEqProofs [s4]
    rcases hout with ⟨e0, s3⟩ | ⟨c, hne, s3, hc0, hc1, hc2⟩
    · simp -implicitDefEqProofs [s3]
      rw [plainOf, e0]
      exact ⟨_, .weak (fun _ _ _ h => h.wk) (.refl _ _), hF⟩
    · simp -implicitDefEqProofs [s3]
      have := Gh.msl (z := 2) (n := (plainTo f 1000).length) hc1 hc2 (by omega) (by rw [flatP_len]; omega)
      rw [chunksP] at this
      exact ⟨_, this, hF.kl hc0⟩

end Go.Proofs

/- The document's sets of keys: are two lists the same, have two sets a key in common? The program's short functions. -/
namespace Go.Proofs
open Go Go.RowKit Go.Am

theorem pures2 {a b : AV} (ha : PureV a) (hb : PureV b) : ∀ v ∈ [a, b], PureV v := pures_cons ha (pures1 hb)
theorem refSame_ok (a b : List Sp) (ha : a.length ≤ 1000000) (hb : b.length ≤ 1000000) : PCall Try.prog 13 [encL a, encL b] (.bool (decide (a = b))) := by
  refine PCall.run hb13 ok13 (by simp) (pures2 (pure_encL a) (pure_encL b)) (.bool _) ?_
  by_cases hl : a.length = b.length
  · simp -implicitDefEqProofs [encL, hl]
    refine run_loop (fun n s h => ∃ j : Nat, n = b.length - j ∧ j ≤ b.length ∧ s 0 = encL a ∧ s 1 = encL b ∧ s 5 = .int .i64 j ∧ a.take j = b.take j) ?_ b.length ?_
    rotate_left
    · exact ⟨0, by simp [encL]⟩
    rintro n s h ⟨j, hn, hj, s0, s1, s5, he⟩ ih
    rw [encL] at s0 s1
    by_cases hlt : j < b.length
    · have hlt' : j < a.length := by omega
      have i1 := idxOf_nat (k := .i64) hlt
      have i2 := idxOf_nat (k := .i64) hlt'
      have hs : a.take (j + 1) = b.take (j + 1) ↔ a[j] = b[j] := by
        rw [List.take_succ_eq_append_getElem (l := b) hlt, List.take_succ_eq_append_getElem (l := a) hlt', he]
        simp only [List.append_cancel_left_eq, List.cons.injEq, and_true]
      have hx : a[j] ≠ b[j] → a ≠ b := fun h e => by subst e; exact h rfl
      simp -implicitDefEqProofs [s0, s5, hl, hlt]
      refine run_dreg c13_d6 ?_
      by_cases h1 : a[j].1 = b[j].1
      · by_cases h2 : a[j].2 = b[j].2
        · simp -implicitDefEqProofs [s0, s1, s5, hl, hlt, avP, h1, h2, inc_i64 hlt (by omega), -Int.natCast_add]
          exact ih (b.length - (j + 1)) _ _ (by omega) ⟨j + 1, rfl, by omega, by simp [s0, encL], by simp [s1, encL], by simp, hs.2 (Prod.ext h1 h2)⟩
        · have hne := hx fun e => h2 (by rw [e])
          simp -implicitDefEqProofs [s0, s1, s5, hl, hlt, avP, h1, h2, hne]
      · have hne := hx fun e => h1 (by rw [e])
        simp -implicitDefEqProofs [s0, s1, s5, hl, hlt, avP, h1, hne]
    · obtain rfl : j = b.length := by omega
      rw [List.take_length, List.take_of_length_le (by omega)] at he
      simp -implicitDefEqProofs [s0, s5, he]
  · have hne : a ≠ b := fun e => hl (by rw [e])
    simp -implicitDefEqProofs [encL, hl, hne]

def meetB (f g : Nat → Bool) : Bool := (List.range 1000).any fun k => f k && g k
theorem meetB_iff (f g : Nat → Bool) : meetB f g = true ↔ ∃ k, k < 1000 ∧ f k = true ∧ g k = true := by
  simp only [meetB, List.any_eq_true, List.mem_range, Bool.and_eq_true]
theorem refMeet_ok (f g : Nat → Bool) : PCall Try.prog 21 [setP f, setP g] (.bool (meetB f g)) := by
  refine PCall.run hb21 ok21 (by simp) (pures2 (pure_setP f) (pure_setP g)) (.bool _) ?_
  simp -implicitDefEqProofs []
  refine run_loop (fun n s h => ∃ k : Nat, n = 1000 - k ∧ k ≤ 1000 ∧ s 0 = setP f ∧ s 1 = setP g ∧ s 5 = .int .i64 k ∧ ∀ i, i < k → (f i && g i) = false) ?_ 1000 ?_
  rotate_left
  · exact ⟨0, by simp⟩
  rintro n s h ⟨k, hn, hk, s0, s1, s5, hall⟩ ih
  by_cases hlt : k < 1000
  · have hki : (k : Int) < 1000 := by omega
    have i1 := idxOf_nat (k := .i64) hlt
    have g1 := setA_at f hlt
    have g2 := setA_at g hlt
    have hgo : ∀ s1 h1, s1 0 = setP f → s1 1 = setP g → s1 5 = .int .i64 (k + 1 : Nat) → (f k && g k) = false → Run Try.prog false [.lp c21_l7, .blk 0, .c (.seq (.reg c21_r8) .ret)] (retQ [.t 4] fun r' h1 => Am.wk r' = .bool (meetB f g)) s1 h1 := fun s1 h1 q0 q3 q4 q5 =>
      ih (1000 - (k + 1)) _ _ (by omega) ⟨k + 1, rfl, by omega, q0, q3, q4, fun i hi => by
        by_cases h : i = k
        · subst h; exact q5
        · exact hall i (by omega)⟩
    cases hf : f k with
    | false =>
      rw [hf] at g1
      simp -implicitDefEqProofs [s0, s5, hki, setP, g1, show 1 ≤ 1000 - k by omega, inc_i64 hlt (by omega), -Int.natCast_add]
      exact hgo _ _ (by simp [s0, setP]) (by simp [s1, setP]) (by simp) (by rw [hf]; rfl)
    | true =>
      rw [hf] at g1
      cases hg : g k with
      | false =>
        rw [hg] at g2
        simp -implicitDefEqProofs [s0, s1, s5, hki, setP, g1, g2, show 1 ≤ 1000 - k by omega, inc_i64 hlt (by omega), -Int.natCast_add]
        exact hgo _ _ (by simp [s0, setP]) (by simp [s1, setP]) (by simp) (by rw [hf, hg]; rfl)
      | true =>
        rw [hg] at g2
        have := (meetB_iff f g).2 ⟨k, hlt, hf, hg⟩
        simp -implicitDefEqProofs [s0, s1, s5, hki, setP, g1, g2, show 1 ≤ 1000 - k by omega, this]
  · obtain rfl : k = 1000 := by omega
    have : meetB f g = false := by
      rw [Bool.eq_false_iff]
      intro e
      obtain ⟨i, hi, h1, h2⟩ := (meetB_iff f g).1 e
      have := hall i hi
      rw [h1, h2] at this
      cases this
    simp -implicitDefEqProofs [s5, this]

/-! ### The program's -/
theorem plainA_ok (l : List Sp) (hl : l.length ≤ 1000000) : PCall Try.prog 41 [.sl .no [[encL l]]] (encL (plainL l)) := by
  have := plain_ok [l] (by simpa [tot] using hl) (by simp)
  simpa using this
theorem keysPlain_ok (l : List Sp) (hl : l.length ≤ 1000000) : PCall Try.prog 14 [encL l] (encL (plainL l)) := by
  refine PCall.run hb14 ok14 (by simp) (pures1 (pure_encL l)) (pure_encL _) ?_
  simp -implicitDefEqProofs []
  refine callQ_p (plainA_ok l hl) (by simp [wk_encL]) ?_
  simp -implicitDefEqProofs [wk_encL]
theorem keysUnion_ok (a b : List Sp) (hl : a.length + b.length ≤ 1000000) : PCall Try.prog 16 [encL a, encL b] (encL (plainL (a ++ b))) := by
  refine PCall.run hb16 ok16 (by simp) (pures2 (pure_encL a) (pure_encL b)) (pure_encL _) ?_
  have := plain_ok [a, b] (by simpa [tot] using hl) (by simp)
  simp only [List.map_cons, List.map_nil, List.flatten_cons, List.flatten_nil, List.append_nil] at this
  simp -implicitDefEqProofs []
  refine callQ_p this (by simp [wk_encL]) ?_
  simp -implicitDefEqProofs [wk_encL]
theorem keysOne_ok (k : Int) : PCall Try.prog 28 [.int .i64 k] (encL (plainL [(k, k)])) := by
  refine PCall.run hb28 ok28 (by simp) (pures1 (.int _ _)) (pure_encL _) ?_
  simp -implicitDefEqProofs []
  refine callQ_p (plainA_ok [(k, k)] (by simp)) (by simp [encL, avP]) ?_
  simp -implicitDefEqProofs [wk_encL]
theorem elOK_P : ElOK avP 2 true := ⟨fun _ => rfl, (fun h => by cases h), pure_avP, fun x => by simp [avP]⟩
theorem has1_ok (s : Sp) {h : H} {b : Nat} {k : Int} (hb : b < h.bn) (hc : h.bx b = some [.int .i64 k]) : SCall Try.prog 47 [.agg (avP s), .ptr b 0] h (.bool (inS s k)) h := by
  refine SCall.ro (CallP.run hb47 ok47 (by simp) ?_) (.bool _)
  have hbn : ¬ b = h.bn := by omega
  simp -implicitDefEqProofs [avP]
  refine callQ_p (spanMay_ok s) (by simp [avP]) ?_
  cases hm : mayS s
  · simp -implicitDefEqProofs [inS, hm]
    exact HF.alloc _ _ _ _
  · by_cases h1 : s.1 ≤ k
    · by_cases h2 : k ≤ s.2
      · simp -implicitDefEqProofs [inS, hm, h1, h2, hc, hbn, show b < h.bn + 1 by omega]
        exact HF.alloc _ _ _ _
      · simp -implicitDefEqProofs [inS, hm, h1, h2, hc, hbn, show b < h.bn + 1 by omega]
        exact HF.alloc _ _ _ _
    · simp -implicitDefEqProofs [inS, hm, h1, hc, hbn, show b < h.bn + 1 by omega]
      exact HF.alloc _ _ _ _
theorem keysHas_ok (l : List Sp) (k : Int) (hl : l.length ≤ 1000000) : PCall Try.prog 29 [encL l, .int .i64 k] (.bool (hasK l k)) := by
  refine PCall.run hb29 ok29 (by simp) (pures2 (pure_encL l) (.int _ _)) (.bool _) ?_
  simp -implicitDefEqProofs [H.nil]
  refine callQ_s (contains_gen (F := 47) (p := fun s => inS s k) hb46 ok46 hb71 ok71 elOK_P l (by omega) (first := []) (caps := [.ptr 0 0]) rfl (by simp) fun s _ => ?_) (by simp [encL, avP]) ?_
  · exact has1_ok s (by simp) (by simp)
  · simp -implicitDefEqProofs [hasK]
end Go.Proofs

/- A text's bytes as words: both ways of packing, and the writer of texts. -/
namespace Go.Proofs
open Go Go.RowKit Go.Am

/-- The byte at a place, or none: 0. -/
def byteAt (s : ByteArray) (i : Nat) : Nat := match s.data[i]? with | some c => c.toNat | none => 0
theorem byteAt_lt (s : ByteArray) (i : Nat) : byteAt s i < 256 := by
  unfold byteAt
  split
  · rename_i c _; exact c.toNat_lt
  · omega

theorem idx_byte {s : ByteArray} {j : Nat} (h : j < s.size) : Option.map (fun c : UInt8 => AV.int .u8 c.toNat) s.data[j]? = some (.int .u8 (byteAt s j)) := by
  have h' : j < s.data.size := h
  unfold byteAt
  rw [Array.getElem?_eq_getElem h']
  rfl
theorem data_byte {s : ByteArray} {j : Nat} {h : j < s.data.size} : (s.data[j]'h).toNat = byteAt s j := by
  unfold byteAt
  rw [Array.getElem?_eq_getElem h]
theorem byteAt_out {s : ByteArray} {j : Nat} (h : ¬ j < s.size) : byteAt s j = 0 := by
  have h' : s.data.size ≤ j := Nat.le_of_not_lt h
  unfold byteAt
  rw [Array.getElem?_eq_none h']

/-- k bytes from a place on, as a number, the first the least. -/
def num (s : ByteArray) (at' : Nat) : Nat → Nat
  | 0 => 0
  | k + 1 => byteAt s at' + 256 * num s (at' + 1) k

def packed (s : ByteArray) : List Nat := (List.range ((s.size + 7) / 8)).map fun i => num s (8 * i) 8

theorem num_lt (s : ByteArray) : ∀ (k a : Nat), num s a k < 256 ^ k
  | 0, a => by simp [num]
  | k + 1, a => by
    have h1 := num_lt s k (a + 1)
    have h2 := byteAt_lt s a
    simp only [num, Nat.pow_succ]
    omega
theorem num8_lt (s : ByteArray) (a : Nat) : num s a 8 < 18446744073709551616 := num_lt s 8 a

end Go.Proofs

/- The program's packing of texts. -/
namespace Go.Proofs
open Go Go.RowKit Go.Am

theorem num_snoc (s : ByteArray) : ∀ (k a : Nat), num s a (k + 1) = num s a k + 256 ^ k * byteAt s (a + k)
  | 0, a => by simp [num]
  | k + 1, a => by
    rw [show num s a (k + 1 + 1) = byteAt s a + 256 * num s (a + 1) (k + 1) from rfl, num_snoc s k (a + 1), show num s a (k + 1) = byteAt s a + 256 * num s (a + 1) k from rfl, Nat.pow_succ, show a + 1 + k = a + (k + 1) by omega]
    rw [Nat.mul_add, Nat.add_assoc]
    congr 2
    rw [Nat.mul_comm (256 ^ k) 256, Nat.mul_assoc]

theorem num_cut (s : ByteArray) : ∀ (k a : Nat), num s a k = num s a (min k (s.size - a))
  | 0, a => by simp
  | k + 1, a => by
    by_cases h : a < s.size
    · rw [show min (k + 1) (s.size - a) = min k (s.size - (a + 1)) + 1 by omega]
      simp only [num]
      rw [num_cut s k (a + 1)]
    · rw [show min (k + 1) (s.size - a) = 0 by omega]
      simp only [num]
      rw [byteAt_out h, num_cut s k (a + 1), show min k (s.size - (a + 1)) = 0 by omega]
      simp [num]

def cellsP (s : ByteArray) (n i : Nat) : List AV := (List.range n).map fun j => .int .u64 (num s (8 * j) (min 8 (i - 8 * j)))

theorem or_low (a b r : Nat) (h : a < 256 ^ r) : a ||| b * 2 ^ (8 * r) = a + 256 ^ r * b := by
  have e : 2 ^ (8 * r) = 256 ^ r := by rw [Nat.pow_mul]
  rw [Nat.mul_comm, Nat.or_comm, ← Nat.two_pow_add_eq_or_of_lt (by rw [e]; exact h), e]
  omega

theorem cellsP_set (s : ByteArray) (n i : Nat) (h : i < 8 * n) : (cellsP s n i).take (i / 8) ++ [AV.int .u64 ((num s (8 * (i / 8)) (i % 8) ||| byteAt s i * 2 ^ (8 * (i % 8)) : Nat) : Int)] ++ (cellsP s n i).drop (i / 8 + 1) = cellsP s n (i + 1) := by
  have e : (cellsP s n i).take (i / 8) ++ [AV.int .u64 ((num s (8 * (i / 8)) (i % 8) ||| byteAt s i * 2 ^ (8 * (i % 8)) : Nat) : Int)] ++ (cellsP s n i).drop (i / 8 + 1) = (cellsP s n i).set (i / 8) (AV.int .u64 ((num s (8 * (i / 8)) (i % 8) ||| byteAt s i * 2 ^ (8 * (i % 8)) : Nat) : Int)) := by
    rw [List.set_eq_take_append_cons_drop, if_pos (by simp [cellsP]; omega)]
    simp
  rw [e]
  apply List.ext_getElem
  · simp [cellsP]
  · intro j h1 h2
    rw [List.getElem_set]
    simp only [cellsP, List.getElem_map, List.getElem_range]
    split
    · rename_i hj
      subst hj
      rw [or_low _ _ _ (num_lt s _ _), show min 8 (i + 1 - 8 * (i / 8)) = i % 8 + 1 by omega, num_snoc, show 8 * (i / 8) + i % 8 = i by omega]
    · rename_i hj
      congr 2
      have : min 8 (i - 8 * j) = min 8 (i + 1 - 8 * j) := by omega
      rw [this]

theorem packed_cells (s : ByteArray) : chunks 1 ((s.size + 7) / 8) (cellsP s ((s.size + 7) / 8) s.size) = (packed s).map w64 := by
  have key : ∀ (l : List AV) (n : Nat), l.length = n → chunks 1 n l = l.map fun v => [v] := by
    intro l
    induction l with
    | nil => intro n h; subst h; rfl
    | cons v l ih => intro n h; subst h; simp [chunks, ih l.length rfl]
  rw [key _ _ (by simp [cellsP])]
  simp only [cellsP, packed, List.map_map]
  apply List.map_congr_left
  intro j _
  simp only [Function.comp, w64]
  rw [num_cut s 8 (8 * j)]
end Go.Proofs

/- The program's packing of texts: the run. -/
namespace Go.Proofs
open Go Go.RowKit Go.Am

theorem or_u64 {A B : Nat} (hA : A < 18446744073709551616) (hB : B < 18446744073709551616) : IntKind.u64.wrap ((((A : Int) % 2 ^ IntKind.u64.bits).toNat ||| ((B : Int) % 2 ^ IntKind.u64.bits).toNat : Nat) : Int) = ((A ||| B : Nat) : Int) := by
  have e3 : (2 : Int) ^ IntKind.u64.bits = 18446744073709551616 := rfl
  rw [e3, show ((A : Int) % 18446744073709551616).toNat = A by omega, show ((B : Int) % 18446744073709551616).toNat = B by omega]
  have := Nat.or_lt_two_pow (n := 64) hA hB
  exact wrap_u64 (by omega) (by omega)

end Go.Proofs

/- The writer of texts; copies; what a writer hands back. -/
namespace Go.Proofs
open Go Go.RowKit Go.Am

def cut64 (s : ByteArray) : ByteArray := s.extract 0 (min s.size 64)
theorem cut64_size (s : ByteArray) : (cut64 s).size = min s.size 64 := by simp [cut64]

theorem packed_len (s : ByteArray) : (packed s).length = (s.size + 7) / 8 := by simp [packed]

def textW (s : ByteArray) : List Nat := (cut64 s).size :: packed (cut64 s)

end Go.Proofs

/- Items: what is written of them, by the program and by the document. -/
namespace Go.Proofs
open Go Go.RowKit Go.Am

structure Item where
  kind : Int
  n : Int
  most : Int
  x : Int
  s : ByteArray
  l : List Nat

def inI (x : Int) : Prop := -9223372036854775808 ≤ x ∧ x ≤ 9223372036854775807
def Item.ok (x : Item) : Prop := inI x.n ∧ inI x.x ∧ x.s.size ≤ 1000 ∧ x.l.length ≤ 1000
def encItm (x : Item) : List AV := [.int .i64 x.kind, .int .i64 x.n, .int .i64 x.most, .int .i64 x.x, .str x.s, encW x.l]

def writeW (x : Item) : List Nat :=
  if x.kind = 0 then [x.n.toNat] else if x.kind = 1 then [signed x.x] else if x.kind = 2 then [if x.n = 1 then 1 else 0] else if x.kind = 3 then textW x.s else x.l.length :: x.l

theorem WB.alloc {h : H} {b : Nat} {t : Tok} {ws : List Nat} (hw : WB h b t ws) (cs : List AV) : WB (h.alloc cs) b t ws :=
  ⟨by have := hw.lt; simp; omega, by have := hw.lt; have h2 : b ≠ h.bn := by omega
                                     simp [h2, hw.bx], by simpa using hw.live⟩
theorem WTo.alloc {h : H} {b : Nat} {t : Tok} {ws : List Nat} {h' : H} {t' : Tok} {cs : List AV} (q : WTo (h.alloc cs) b t ws h' t') : WTo h b t ws h' t' :=
  ⟨q.wb, q.next, (HF.alloc h cs _ _).trans q.keep⟩

/-- A slice of words that grows. -/
structure STo (h : H) (t : Tok) (ws : List Nat) (r : AV) (h' : H) (t' : Tok) : Prop where
  val : r = .sl t' (ws.map w64)
  live : TLive h' t' ws.length
  next : TNext h t t'
  keep : HF h h' (fun _ => False) (TOwn t)

end Go.Proofs

/- What the statements about codes ask first: no more items than are looked at; the document's examples. -/
namespace Go.Proofs
open Go Go.RowKit Go.Am

def encIs (l : List Item) : AV := .sl .no (l.map encItm)

def greatI (x : Item) : Bool := decide (100 < x.l.length) || decide (200 < x.s.size) || decide (x.kind < 0) || decide (4 < x.kind)
def great (l : List Item) : Bool := l.any greatI || decide (60 < l.length)

theorem pure_encI (x : Item) : ∀ v ∈ encItm x, PureV v := by
  simp only [encItm]
  exact pures_cons (.int _ _) (pures_cons (.int _ _) (pures_cons (.int _ _) (pures_cons (.int _ _) (pures_cons (.str _) (pures1 (pure_w64 _))))))
theorem pure_encIs (l : List Item) : PureV (encIs l) := .sl (fun i h => by cases h) fun e he v hv => by
  obtain ⟨x, _, rfl⟩ := List.mem_map.1 he
  exact pure_encI x v hv
@[simp] theorem wk_encI (x : Item) : List.map wk (encItm x) = encItm x := by simp [encItm]
@[simp] theorem wk_encI' : List.map wk ∘ encItm = encItm := by funext x; simp

theorem WB.new (h : H) : WB (h.alloc [.sl .full []]) h.bn .full [] := ⟨by simp, by simp, trivial⟩

end Go.Proofs

/- The statement CodesWrite: what its function hands back. -/
namespace Go.Proofs
open Go Go.RowKit Go.Am

theorem textW_len (s : ByteArray) : (textW s).length ≤ 10 := by
  have h1 := packed_len (cut64 s)
  have h2 := cut64_size s
  simp only [textW, List.length_cons]
  omega
theorem writeW_len (x : Item) (h : x.l.length ≤ 100) : (writeW x).length ≤ 102 := by
  have ht := textW_len x.s
  unfold writeW
  split
  · simp
  split
  · simp
  split
  · simp
  split
  · omega
  · simp; omega

theorem not_great {l : List Item} (h : great l = false) : l.length ≤ 60 ∧ ∀ x ∈ l, x.l.length ≤ 100 ∧ x.s.size ≤ 200 := by
  simp only [great, Bool.or_eq_false_iff, decide_eq_false_iff_not, List.any_eq_false] at h
  refine ⟨by omega, fun x hx => ?_⟩
  have := h.1 x hx
  simp only [greatI, Bool.or_eq_true, decide_eq_true_eq, not_or] at this
  omega

def writeAll (l : List Item) : List Nat := l.flatMap writeW
theorem writeAll_len : ∀ (l : List Item), (∀ x ∈ l, x.l.length ≤ 100) → (writeAll l).length ≤ 102 * l.length
  | [], _ => by simp [writeAll]
  | x :: l, h => by
    have h1 := writeW_len x (h x (List.mem_cons_self ..))
    have h2 := writeAll_len l fun y hy => h y (List.mem_cons_of_mem _ hy)
    simp only [writeAll, List.flatMap_cons, List.length_append, List.length_cons] at h2 ⊢
    omega

end Go.Proofs
