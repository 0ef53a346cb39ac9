/- The abstract machine's state held against a world: an append in place, an append that moves, a box that is let go. -/
import Derived.Test.YtajmapmledjhjaaAmC
namespace Go.Am
open Go Go.RowKit
section
variable {P : Program} {base : Nat} {W : Nat → Prop} {w : World} {g : G} {h : H}

/-- An append in place: the token's block is written behind what may be read. -/
theorem Sim.tokIn (hs : Sim P base W w g h) {i : Nat} (hi : i < h.tn) {C C' : Array Value} {T : TypeId} {w' : World} {n' : Nat}
    (hC : w.heap[(g.tk i).B]? = some (.cells C T (0, 0))) (hw : w'.heap[(g.tk i).B]? = some (.cells C' T (0, 0))) (hCs : C'.size = C.size)
    (hkeep : ∀ k, k < (g.tk i).o + (g.tk i).n * (g.tk i).z → C'[k]? = C[k]?) (hn : (g.tk i).n < n') (hn' : n' ≤ (g.tk i).c)
    (hsz : w'.heap.size = w.heap.size) (hoth : ∀ B, B ≠ (g.tk i).B → w'.heap[B]? = w.heap[B]?) (hos : w'.os = w.os) (htp : w'.tape = w.tape) (hout : w'.output = w.output) :
    Sim P base W w' (g.setTok i { g.tk i with n := n' }) (h.setTok i n') ∧ Ext base W w g w' (g.setTok i { g.tk i with n := n' }) := by
  obtain ⟨hq1, hmine, hq3, hq4, hq5, C0, T0, hC0, hq7⟩ := hs.tok i hi
  rw [hC] at hC0
  have hCC : C = C0 := by injection hC0 with hC0; injection hC0
  subst hCC
  have hmul : (g.tk i).n * (g.tk i).z ≤ n' * (g.tk i).z := Nat.mul_le_mul_right _ (by omega)
  have hro1 : (g.setTok i { g.tk i with n := n' }).ro (g.tk i).B = (g.tk i).o + n' * (g.tk i).z := by
    show (if (g.tk i).B = (g.tk i).B then _ else _) = _
    rw [if_pos rfl]
  have hro2 : ∀ B, B ≠ (g.tk i).B → (g.setTok i { g.tk i with n := n' }).ro B = g.ro B := fun B hB => by
    show (if B = (g.tk i).B then _ else _) = _
    rw [if_neg hB]
  have htk1 : (g.setTok i { g.tk i with n := n' }).tk i = { g.tk i with n := n' } := by
    show (if i = i then _ else _) = _
    rw [if_pos rfl]
  have htk2 : ∀ j, j ≠ i → (g.setTok i { g.tk i with n := n' }).tk j = g.tk j := fun j hj => by
    show (if j = i then _ else _) = _
    rw [if_neg hj]
  have e : GExt w g w' (g.setTok i { g.tk i with n := n' }) := by
    refine ⟨by omega, fun B k hk => ?_, Nat.le_refl _, fun _ _ => ⟨rfl, rfl⟩, Nat.le_refl _, fun j hj => ?_, Nat.le_refl _, fun _ _ => rfl, Nat.le_refl _, fun _ _ => rfl⟩
    · by_cases hB : B = (g.tk i).B
      · subst hB
        rw [hq5] at hk
        exact ⟨by rw [hro1]; omega, by rw [cell_at hw, cell_at hC]; exact hkeep k hk⟩
      · exact ⟨by rw [hro2 B hB]; exact hk, cell_of_heap (hoth B hB)⟩
    · by_cases hj' : j = i
      · subst hj'
        rw [htk1]
        exact ⟨by show _ ≤ n'; omega, fun he => by have : (g.tk j).n = n' := he; omega⟩
      · rw [htk2 j hj']
        exact ⟨Nat.le_refl _, fun _ => rfl⟩
  have hne_box : ∀ b cs, b < h.bn → h.bx b = some cs → g.bx b ≠ (g.tk i).B := fun b cs hb hc heq => by
    obtain ⟨_, h2, _⟩ := hs.box b cs hb hc
    rw [heq] at h2; omega
  have hne_loop : ∀ l r, l < h.ln → h.lp l = some r → g.lp l ≠ (g.tk i).B := fun l r hl hr heq => by
    obtain ⟨_, L, h2, _⟩ := hs.loop l r hl hr
    rw [heq, hC] at h2; cases h2
  have hne_map : ∀ l r, l < h.mn → h.mp l = some r → g.mp l ≠ (g.tk i).B := fun l r hl hr heq => by
    obtain ⟨_, L, c, h2, _⟩ := hs.map l r hl hr
    rw [heq, hC] at h2; cases h2
  refine ⟨⟨by have := hs.base_le; omega, hs.bn, hs.tn, hs.ln, hs.mn, ?_, hs.boxinj, ?_, ?_, ?_, ?_, hs.loopinj, ?_, hs.mapinj⟩, ⟨e, hos, htp, hout, fun B hB hW => hoth B fun heq => ?_, fun B hB hW => hro2 B fun heq => ?_, fun B ds ho => ?_⟩⟩
  · intro b cs hb hc
    obtain ⟨h1, h2, C2, T2, h3, h4, h5⟩ := hs.box b cs hb hc
    have hne := hne_box b cs hb hc
    exact ⟨h1, (hro2 _ hne).trans h2, C2, T2, (hoth _ hne).trans h3, h4.mono e, h5⟩
  · intro j hj
    by_cases hji : j = i
    · subst hji
      rw [htk1]
      refine ⟨?_, hmine, ?_, hn', hro1, C', T, hw, by rw [hCs]; exact hq7⟩
      · show (if j = j then n' else _) = n'
        rw [if_pos rfl]
      · show 0 < n' * (g.tk j).z
        omega
    · obtain ⟨h1, h2, h3, h4, h5, C2, T2, h6, h7⟩ := hs.tok j hj
      have hne : (g.tk j).B ≠ (g.tk i).B := fun heq => hji (hs.tokinj j i hj hi heq)
      rw [htk2 j hji]
      refine ⟨?_, h2, h3, h4, (hro2 _ hne).trans h5, C2, T2, (hoth _ hne).trans h6, h7⟩
      show (if j = i then n' else _) = _
      rw [if_neg hji]; exact h1
  · intro a b ha hb heq
    have hB : ∀ j, ((g.setTok i { g.tk i with n := n' }).tk j).B = (g.tk j).B := fun j => by
      by_cases hj : j = i
      · subst hj; rw [htk1]
      · rw [htk2 j hj]
    rw [hB, hB] at heq
    exact hs.tokinj a b ha hb heq
  · intro B hB
    have : B ≠ (g.tk i).B := fun heq => by
      have := heap_lt hC
      omega
    rw [hro2 B this]
    exact hs.roB B (by omega)
  · intro l r hl hr
    obtain ⟨h1, L, h2, h3⟩ := hs.loop l r hl hr
    exact ⟨h1, L, (hoth _ (hne_loop l r hl hr)).trans h2, h3.mono e⟩
  · intro l r hl hr
    obtain ⟨h1, L, c, h2, h3⟩ := hs.map l r hl hr
    exact ⟨h1, L, c, (hoth _ (hne_map l r hl hr)).trans h2, h3.mono e⟩
  · subst heq
    rcases hmine with h1 | h1
    · omega
    · exact hW h1
  · subst heq
    rcases hmine with h1 | h1
    · omega
    · exact hW h1
  · have : B ≠ (g.tk i).B := fun heq => by
      subst heq
      rw [hC] at ho
      cases ho
    rw [hoth B this]; exact ho

/-- An append that moves: the token goes to a new block. -/
theorem Sim.tokMove (hs : Sim P base W w g h) {i : Nat} (hi : i < h.tn) (C : Array Value) (T : TypeId) (z n c : Nat) (hn : (g.tk i).n < n) (hz : 0 < n * z) (hnc : n ≤ c) (hC : c * z ≤ C.size) :
    Sim P base W (w.alloc (.cells C T)) (g.setTok i ⟨w.heap.size, 0, z, n, c⟩) (h.setTok i n) ∧ Ext base W w g (w.alloc (.cells C T)) (g.setTok i ⟨w.heap.size, 0, z, n, c⟩) := by
  have hro : ∀ B, B < w.heap.size → (g.setTok i ⟨w.heap.size, 0, z, n, c⟩).ro B = g.ro B := fun B hB => by
    show (if B = w.heap.size then _ else g.ro B) = _
    rw [if_neg (by omega)]
  have htk1 : (g.setTok i ⟨w.heap.size, 0, z, n, c⟩).tk i = ⟨w.heap.size, 0, z, n, c⟩ := by
    show (if i = i then _ else _) = _
    rw [if_pos rfl]
  have htk2 : ∀ j, j ≠ i → (g.setTok i ⟨w.heap.size, 0, z, n, c⟩).tk j = g.tk j := fun j hj => by
    show (if j = i then _ else _) = _
    rw [if_neg hj]
  have e : GExt w g (w.alloc (.cells C T)) (g.setTok i ⟨w.heap.size, 0, z, n, c⟩) := by
    refine ⟨by simp, fun B k hk => ?_, Nat.le_refl _, fun _ _ => ⟨rfl, rfl⟩, Nat.le_refl _, fun j hj => ?_, Nat.le_refl _, fun _ _ => rfl, Nat.le_refl _, fun _ _ => rfl⟩
    · have hB : B < w.heap.size := by
        rcases Nat.lt_or_ge B w.heap.size with h | h
        · exact h
        · have := hs.roB B h; omega
      exact ⟨by rw [hro B hB]; exact hk, cell_of_heap (alloc_at hB)⟩
    · by_cases hj' : j = i
      · subst hj'
        rw [htk1]
        exact ⟨by show _ ≤ n; omega, fun he => by have : (g.tk j).n = n := he; omega⟩
      · rw [htk2 j hj']
        exact ⟨Nat.le_refl _, fun _ => rfl⟩
  refine ⟨⟨Nat.le_trans hs.base_le (by simp), hs.bn, hs.tn, hs.ln, hs.mn, ?_, hs.boxinj, ?_, ?_, ?_, ?_, hs.loopinj, ?_, hs.mapinj⟩, Ext.step hs e rfl rfl rfl (fun B hB => alloc_at hB) hro⟩
  · intro b cs' hb hc'
    obtain ⟨h1, h2, C', T', h3, h4, h5⟩ := hs.box b cs' hb hc'
    exact ⟨h1, (hro _ (heap_lt h3)).trans h2, C', T', (alloc_at (heap_lt h3)).trans h3, h4.mono e, h5⟩
  · intro j hj
    by_cases hji : j = i
    · subst hji
      rw [htk1]
      refine ⟨?_, .inl hs.base_le, hz, hnc, ?_, C, T, alloc_new, by show 0 + c * z ≤ _; omega⟩
      · show (if j = j then n else _) = n
        rw [if_pos rfl]
      · show (if w.heap.size = w.heap.size then _ else _) = _
        rw [if_pos rfl]
    · obtain ⟨h1, h2, h3, h4, h5, C', T', h6, h7⟩ := hs.tok j hj
      rw [htk2 j hji]
      refine ⟨?_, h2, h3, h4, (hro _ (heap_lt h6)).trans h5, C', T', (alloc_at (heap_lt h6)).trans h6, h7⟩
      show (if j = i then n else _) = _
      rw [if_neg hji]; exact h1
  · intro a b ha hb heq
    have hold : ∀ j, j < h.tn → j ≠ i → ((g.setTok i ⟨w.heap.size, 0, z, n, c⟩).tk j).B < w.heap.size := fun j hj hji => by
      obtain ⟨_, _, _, _, _, C', T', h6, _⟩ := hs.tok j hj
      rw [htk2 j hji]; exact heap_lt h6
    by_cases h1 : a = i <;> by_cases h2 : b = i
    · omega
    · have := hold b hb h2
      rw [h1, htk1] at heq
      have : w.heap.size = ((g.setTok i ⟨w.heap.size, 0, z, n, c⟩).tk b).B := heq
      omega
    · have := hold a ha h1
      rw [h2, htk1] at heq
      have : ((g.setTok i ⟨w.heap.size, 0, z, n, c⟩).tk a).B = w.heap.size := heq
      omega
    · rw [htk2 a h1, htk2 b h2] at heq
      exact hs.tokinj a b ha hb heq
  · intro B hB
    simp only [World.size_alloc] at hB
    show (if B = w.heap.size then _ else g.ro B) = 0
    rw [if_neg (by omega)]
    exact hs.roB B (by omega)
  · intro l r hl hr
    obtain ⟨h1, L, h2, h3⟩ := hs.loop l r hl hr
    exact ⟨h1, L, (alloc_at (heap_lt h2)).trans h2, h3.mono e⟩
  · intro l r hl hr
    obtain ⟨h1, L, c, h2, h3⟩ := hs.map l r hl hr
    exact ⟨h1, L, c, (alloc_at (heap_lt h2)).trans h2, h3.mono e⟩

/-- A box is let go: its cells may be read from now on, and never turn. -/
def H.kill (h : H) (b : Nat) : H := { h with bx := fun b' => if b' = b then none else h.bx b' }

theorem Sim.kill (hs : Sim P base W w g h) {b : Nat} {cs : List AV} (hb : b < h.bn) (hc : h.bx b = some cs) :
    Sim P base W w (g.addRO (g.bx b) cs.length) (h.kill b) ∧ Ext base W w g w (g.addRO (g.bx b) cs.length) ∧
      ∀ k v, cs[k]? = some v → ∃ V, k < (g.addRO (g.bx b) cs.length).ro (g.bx b) ∧ w.cell? ⟨g.bx b, k, none⟩ = some V ∧ Rep w (g.addRO (g.bx b) cs.length) v V ∧ ok1 v = true := by
  obtain ⟨hmine, hro0, C, T0, hC, hrep, hbs0⟩ := hs.box b cs hb hc
  have hro1 : (g.addRO (g.bx b) cs.length).ro (g.bx b) = cs.length := by
    show (if g.bx b = g.bx b then _ else _) = _
    rw [if_pos rfl]
  have hro2 : ∀ B, B ≠ g.bx b → (g.addRO (g.bx b) cs.length).ro B = g.ro B := fun B hB => by
    show (if B = g.bx b then _ else _) = _
    rw [if_neg hB]
  have e : GExt w g w (g.addRO (g.bx b) cs.length) := by
    refine ⟨Nat.le_refl _, fun B k hk => ⟨?_, rfl⟩, Nat.le_refl _, fun _ _ => ⟨rfl, rfl⟩, Nat.le_refl _, fun _ _ => ⟨Nat.le_refl _, fun _ => rfl⟩, Nat.le_refl _, fun _ _ => rfl, Nat.le_refl _, fun _ _ => rfl⟩
    by_cases hB : B = g.bx b
    · subst hB; omega
    · rw [hro2 B hB]; exact hk
  refine ⟨⟨hs.base_le, hs.bn, hs.tn, hs.ln, hs.mn, ?_, ?_, ?_, hs.tokinj, ?_, ?_, hs.loopinj, ?_, hs.mapinj⟩, ⟨e, rfl, rfl, rfl, fun _ _ _ => rfl, fun B hB hW => hro2 B fun heq => ?_, fun _ _ h => h⟩, ?_⟩
  · intro b2 cs2 hb2 hc2
    by_cases hbb : b2 = b
    · subst hbb; simp [H.kill] at hc2
    · have hc3 : h.bx b2 = some cs2 := by simpa [H.kill, hbb] using hc2
      obtain ⟨h1, h2, C2, T2, h3, h4, h5⟩ := hs.box b2 cs2 hb2 hc3
      have hne : g.bx b2 ≠ g.bx b := fun heq => hbb (hs.boxinj b2 b hb2 hb (by rw [hc3]; rfl) (by rw [hc]; rfl) heq)
      exact ⟨h1, (hro2 _ hne).trans h2, C2, T2, h3, h4.mono e, h5⟩
  · intro b1 b2 hb1 hb2 h1 h2 heq
    refine hs.boxinj b1 b2 hb1 hb2 ?_ ?_ heq
    · by_cases hbb : b1 = b
      · subst hbb; rw [hc]; rfl
      · simpa [H.kill, hbb] using h1
    · by_cases hbb : b2 = b
      · subst hbb; rw [hc]; rfl
      · simpa [H.kill, hbb] using h2
  · intro i hi
    obtain ⟨h1, h2, h3, h4, h5, C', T', h6, h7⟩ := hs.tok i hi
    have hne : (g.tk i).B ≠ g.bx b := fun heq => by rw [heq] at h5; omega
    exact ⟨h1, h2, h3, h4, (hro2 _ hne).trans h5, C', T', h6, h7⟩
  · intro B hB
    have : B ≠ g.bx b := fun heq => by
      have := heap_lt hC
      omega
    rw [hro2 B this]
    exact hs.roB B hB
  · intro l r hl hr
    obtain ⟨h1, L, h2, h3⟩ := hs.loop l r hl hr
    exact ⟨h1, L, h2, h3.mono e⟩
  · intro l r hl hr
    obtain ⟨h1, L, c, h2, h3⟩ := hs.map l r hl hr
    exact ⟨h1, L, c, h2, h3.mono e⟩
  · subst heq
    rcases hmine with h1 | h1
    · omega
    · exact hW h1
  · intro k v hk
    have hkl : k < cs.length := (List.getElem?_eq_some_iff.1 hk).1
    obtain ⟨V, h1, h2, h3⟩ := hrep.2 k v hk
    exact ⟨V, by rw [hro1]; exact hkl, by rw [cell_at hC]; exact h1, h2.mono e, h3⟩

end
end Go.Am
