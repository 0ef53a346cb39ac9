/- What the functions of the statements about codes do. -/
import Derived.Test.YtajmapmledjhjaaCodeA
namespace Go.Proofs
open Go Go.RowKit Go.Am

def w64 (n : Nat) : List AV := [.int .u64 n]
@[simp] def encW (l : List Nat) : AV := .sl .no (l.map w64)
@[simp] theorem wk_w64 : List.map wk ∘ w64 = w64 := by funext n; simp [w64]

@[simp] theorem wk_w64' (n : Nat) : List.map wk (w64 n) = w64 n := by simp [w64]

theorem pure_w64 (l : List Nat) : PureV (encW l) := .sl (fun i h => by cases h) fun e he v hv => by
  obtain ⟨n, _, rfl⟩ := List.mem_map.1 he
  simp -implicitDefEqProofs only [w64, List.mem_singleton] at hv
  subst hv
  exact .int _ _

theorem pures_nil : ∀ v ∈ ([] : List AV), PureV v := fun v h => by cases h
theorem pures_cons {v : AV} {l : List AV} (h : PureV v) (hl : ∀ v ∈ l, PureV v) : ∀ u ∈ v :: l, PureV u := fun u hu => by
  rcases List.mem_cons.1 hu with rfl | hu
  · exact h
  · exact hl u hu

theorem words_ok (a b : List Nat) (ha : a.length < 1000000) (hb : b.length < 1000000) : PCall Try.prog 18 [encW a, encW b] (.bool (decide (a = b))) := by
  refine PCall.run hb18 ok18 (by simp) (pures_cons (pure_w64 a) (pures_cons (pure_w64 b) pures_nil)) (.bool _) ?_
  simp -implicitDefEqProofs
  by_cases hl : a.length = b.length
  · simp -implicitDefEqProofs [hl]
    refine run_loop (fun n s h => ∃ j, n = a.length - j ∧ j ≤ a.length ∧ s 0 = encW a ∧ s 1 = encW b ∧ s 5 = .int .i64 j ∧ ∀ i, i < j → a[i]? = b[i]?) ?_ a.length ?_
    · rintro n s h ⟨j, hn, hj, h0, h1, h5, hall⟩ ih
      simp -implicitDefEqProofs [h0, h1, h5]
      by_cases hlt : j < a.length
      · simp -implicitDefEqProofs [hlt]
        refine run_dreg c18_d6 ?_
        have hjb : j < b.length := by omega
        simp -implicitDefEqProofs [h0, h1, h5, idxOf_nat hlt, idxOf_nat hjb, hlt, hjb, w64]
        by_cases hab : a[j] = b[j]
        · simp -implicitDefEqProofs [hab, h5, wrap_i64 (x := (j : Int) + 1) (by omega) (by omega)]
          refine ih (a.length - (j + 1)) _ _ (by omega) ⟨j + 1, rfl, by omega, by simp [h0], by simp [h1], by simp, fun i hi => ?_⟩
          by_cases hij : i = j
          · subst hij; simp [hlt, hjb, hab]
          · exact hall i (by omega)
        · have : a ≠ b := fun h => hab (by subst h; rfl)
          simp -implicitDefEqProofs [hab, this]
      · simp -implicitDefEqProofs [hlt]
        have : a = b := by
          apply List.ext_getElem? 
          intro i
          by_cases hi : i < j
          · exact hall i hi
          · rw [List.getElem?_eq_none (by omega), List.getElem?_eq_none (by omega)]
        simp -implicitDefEqProofs [this]
    · exact ⟨0, by simp⟩
  · have hne : a ≠ b := fun h => hl (h ▸ rfl)
    simp -implicitDefEqProofs [hl, hne]
end Go.Proofs
