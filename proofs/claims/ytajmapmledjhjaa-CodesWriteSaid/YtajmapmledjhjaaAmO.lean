/- The records of loops over functions. -/
import Derived.Test.YtajmapmledjhjaaAmN
namespace Go.Am
open Go Go.RowKit
section
variable {P : Program} {base : Nat} {W : Nat → Prop} {w : World} {g : G} {h : H}

def H.newLoop (h : H) (r : LoopA) : H := { h with ln := h.ln + 1, lp := fun l => if l = h.ln then some r else h.lp l }
def H.setLoop (h : H) (l : Nat) (r : Option LoopA) : H := { h with lp := fun l' => if l' = l then r else h.lp l' }
def G.newLoop (g : G) (B : Nat) : G := { g with ln := g.ln + 1, lp := fun l => if l = g.ln then B else g.lp l }

theorem Sim.allocObj (hs : Sim P base W w g h) (o : Obj) : Sim P base W (w.alloc o) g h ∧ Ext base W w g (w.alloc o) g := by
  have e : GExt w g (w.alloc o) g := GExt.of_blk (by simp) (fun B hB => alloc_at hB) hs.roB (fun _ _ => rfl) (Nat.le_refl _) (fun _ _ => ⟨rfl, rfl⟩) (Nat.le_refl _) (fun _ _ => rfl) (Nat.le_refl _) (fun _ _ => rfl) (Nat.le_refl _) (fun _ _ => rfl)
  refine ⟨hs.step e (by simp) (fun B hB => alloc_at hB) rfl rfl rfl rfl rfl (fun _ _ => rfl) (fun B hB => hs.roB B (by simp at hB; omega)), Ext.step hs e rfl rfl rfl (fun B hB => alloc_at hB) (fun _ _ => rfl)⟩

theorem Sim.allocLoop (hs : Sim P base W w g h) (L : Loop) (r : LoopA) (hL : LoopOK P w g r L) :
    Sim P base W (w.alloc (.loop L)) (g.newLoop w.heap.size) (h.newLoop r) ∧ Ext base W w g (w.alloc (.loop L)) (g.newLoop w.heap.size) := by
  have hlp : ∀ b, b < g.ln → (g.newLoop w.heap.size).lp b = g.lp b := fun b hb => by
    show (if b = g.ln then _ else g.lp b) = _
    rw [if_neg (by omega)]
  have e : GExt w g (w.alloc (.loop L)) (g.newLoop w.heap.size) := GExt.of_blk (by simp) (fun B hB => alloc_at hB) hs.roB (fun _ _ => rfl) (Nat.le_refl _) (fun _ _ => ⟨rfl, rfl⟩) (Nat.le_refl _) (fun _ _ => rfl) (Nat.le_succ _) hlp (Nat.le_refl _) (fun _ _ => rfl)
  have hnew : (g.newLoop w.heap.size).lp h.ln = w.heap.size := by
    show (if h.ln = g.ln then _ else _) = _
    rw [if_pos hs.ln]
  have hlt : ∀ l r, l < h.ln → h.lp l = some r → g.lp l < w.heap.size := fun l r hl hr => by
    obtain ⟨_, _, h2, _⟩ := hs.loop l r hl hr
    exact heap_lt h2
  refine ⟨⟨Nat.le_trans hs.base_le (by simp), hs.bn, hs.tn, by show h.ln + 1 = g.ln + 1; rw [hs.ln], hs.mn, ?_, hs.boxinj, ?_, hs.tokinj, ?_, ?_, ?_, ?_, hs.mapinj⟩, Ext.step hs e rfl rfl rfl (fun B hB => alloc_at hB) (fun _ _ => rfl)⟩
  · intro b cs' hb hc'
    obtain ⟨h1, h2, C', T', h3, h4, h5⟩ := hs.box b cs' hb hc'
    exact ⟨h1, h2, C', T', (alloc_at (heap_lt h3)).trans h3, h4.mono e, h5⟩
  · intro i hi
    obtain ⟨h1, h2, h3, h4, h5, C', T', h6, h7⟩ := hs.tok i hi
    exact ⟨h1, h2, h3, h4, h5, C', T', (alloc_at (heap_lt h6)).trans h6, h7⟩
  · intro B hB
    simp only [World.size_alloc] at hB
    exact hs.roB B (by omega)
  · intro l r' hl hr
    by_cases hln : l = h.ln
    · subst hln
      have : r = r' := by simpa [H.newLoop] using hr
      subst this
      rw [hnew]
      exact ⟨hs.base_le, L, alloc_new, hL.mono e⟩
    · have hl' : l < h.ln := by simp only [H.newLoop] at hl; omega
      have hr' : h.lp l = some r' := by simpa [H.newLoop, hln] using hr
      obtain ⟨h1, L', h2, h3⟩ := hs.loop l r' hl' hr'
      rw [hlp l (hs.ln ▸ hl')]
      exact ⟨h1, L', (alloc_at (heap_lt h2)).trans h2, h3.mono e⟩
  · intro l l' hl hl' i1 i2 heq
    have hold : ∀ l, l < h.ln + 1 → ((h.newLoop r).lp l).isSome = true → l ≠ h.ln → l < h.ln ∧ (h.lp l).isSome = true ∧ (g.newLoop w.heap.size).lp l = g.lp l ∧ g.lp l < w.heap.size := fun l hl i hne => by
      have hl' : l < h.ln := by omega
      have i' : (h.lp l).isSome = true := by simpa [H.newLoop, hne] using i
      obtain ⟨r', hr'⟩ := Option.isSome_iff_exists.1 i'
      exact ⟨hl', i', hlp l (hs.ln ▸ hl'), hlt l r' hl' hr'⟩
    by_cases h1 : l = h.ln <;> by_cases h2 : l' = h.ln
    · omega
    · obtain ⟨_, _, q1, q2⟩ := hold l' hl' i2 h2
      rw [h1, hnew, q1] at heq; omega
    · obtain ⟨_, _, q1, q2⟩ := hold l hl i1 h1
      rw [h2, hnew, q1] at heq; omega
    · obtain ⟨p1, p2, p3, _⟩ := hold l hl i1 h1
      obtain ⟨q1, q2, q3, _⟩ := hold l' hl' i2 h2
      rw [p3, q3] at heq
      exact hs.loopinj l l' p1 q1 p2 q2 heq
  · intro l r hl hr
    obtain ⟨h1, L, c, h2, h3⟩ := hs.map l r hl hr
    exact ⟨h1, L, c, (alloc_at (heap_lt h2)).trans h2, h3.mono e⟩

/-- A loop's record turns. -/
theorem Sim.setLoop (hs : Sim P base W w g h) {l : Nat} {r : LoopA} (hl : l < h.ln) (hr : h.lp l = some r) {L' : Loop} {r' : Option LoopA} {w' : World}
    (hL : ∀ q, r' = some q → LoopOK P w g q L') (hw : w'.heap[g.lp l]? = some (.loop L')) (hsz : w'.heap.size = w.heap.size) (hoth : ∀ B, B ≠ g.lp l → w'.heap[B]? = w.heap[B]?)
    (hos : w'.os = w.os) (htp : w'.tape = w.tape) (hout : w'.output = w.output) : Sim P base W w' g (h.setLoop l r') ∧ Ext base W w g w' g := by
  obtain ⟨hb, L, h2, _⟩ := hs.loop l r hl hr
  have e : GExt w g w' g := by
    refine ⟨by omega, fun B k hk => ⟨hk, ?_⟩, Nat.le_refl _, fun _ _ => ⟨rfl, rfl⟩, Nat.le_refl _, fun _ _ => ⟨Nat.le_refl _, fun _ => rfl⟩, Nat.le_refl _, fun _ _ => rfl, Nat.le_refl _, fun _ _ => rfl⟩
    by_cases hB : B = g.lp l
    · subst hB
      simp only [World.cell?, hw, h2]
    · exact cell_of_heap (hoth B hB)
  refine ⟨⟨by have := hs.base_le; omega, hs.bn, hs.tn, hs.ln, hs.mn, ?_, hs.boxinj, ?_, hs.tokinj, ?_, ?_, ?_, ?_, hs.mapinj⟩, ⟨e, hos, htp, hout, fun B hB hW => hoth B fun heq => ?_, fun _ _ _ => rfl, fun B ds ho => ?_⟩⟩
  · intro b cs hb hc
    obtain ⟨h1, h2', C', T', h3, h4, h5⟩ := hs.box b cs hb hc
    have hne : g.bx b ≠ g.lp l := fun heq => by rw [heq, h2] at h3; cases h3
    exact ⟨h1, h2', C', T', (hoth _ hne).trans h3, h4.mono e, h5⟩
  · intro i hi
    obtain ⟨h1, h2', h3, h4, h5, C', T', h6, h7⟩ := hs.tok i hi
    have hne : (g.tk i).B ≠ g.lp l := fun heq => by rw [heq, h2] at h6; cases h6
    exact ⟨h1, h2', h3, h4, h5, C', T', (hoth _ hne).trans h6, h7⟩
  · intro B hB
    exact hs.roB B (by omega)
  · intro l2 q hl2 hq
    by_cases hll : l2 = l
    · subst hll
      have hq' : r' = some q := by simpa [H.setLoop] using hq
      exact ⟨hb, L', hw, (hL q hq').mono e⟩
    · have hq' : h.lp l2 = some q := by simpa [H.setLoop, hll] using hq
      obtain ⟨h1, L2, h3, h4⟩ := hs.loop l2 q hl2 hq'
      have hne : g.lp l2 ≠ g.lp l := fun heq => hll (hs.loopinj l2 l hl2 hl (by rw [hq']; rfl) (by rw [hr]; rfl) heq)
      exact ⟨h1, L2, (hoth _ hne).trans h3, h4.mono e⟩
  · intro l1 l2 hl1 hl2 i1 i2 heq
    have key : ∀ l2, l2 < h.ln → ((h.setLoop l r').lp l2).isSome = true → (h.lp l2).isSome = true := fun l2 _ i => by
      by_cases hll : l2 = l
      · subst hll; rw [hr]; rfl
      · simpa [H.setLoop, hll] using i
    exact hs.loopinj l1 l2 hl1 hl2 (key l1 hl1 i1) (key l2 hl2 i2) heq
  · intro m es hm hes
    obtain ⟨h1, E, c, h3, h4⟩ := hs.map m es hm hes
    have hne : g.mp m ≠ g.lp l := fun heq => by rw [heq, h2] at h3; cases h3
    exact ⟨h1, E, c, (hoth _ hne).trans h3, h4.mono e⟩
  · subst heq; omega
  · have : B ≠ g.lp l := fun heq => by
      subst heq
      rw [h2] at ho
      cases ho
    rw [hoth B this]; exact ho

end
end Go.Am
