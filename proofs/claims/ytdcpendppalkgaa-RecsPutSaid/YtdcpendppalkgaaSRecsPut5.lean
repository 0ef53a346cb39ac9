/- What the functions that the statement reaches do: their contracts; and what follows of it. -/
import Derived.Test.YtdcpendppalkgaaSRecsPut4
import Derived.Test.YtdcpendppalkgaaK4
/- Arguments of a law: from their readings to values. -/
namespace Go.Proofs
open Go Go.RowKit Go.Am

def Item.wf (x : Item) : Prop := inI x.kind ∧ inI x.n ∧ inI x.most ∧ inI x.x ∧ x.s.size ≤ maxLen ∧ x.l.length ≤ maxLen ∧ ∀ w ∈ x.l, w < 18446744073709551616
section
variable {H : Type} {enc : TypeId × Value → H} {P : Program} {w : World} {spare : Nat → Bool} {held : Bool}
/-- An argument of several cells. -/
theorem ent_agg {t : TypeId} {C : Array Value} {x : DataW H} {ps : List MemPlace} {d : Nat} {sh : List Sh} (h : DataW.Trod enc P w 0 spare held t (.agg C) x ps) (hc : shT P d t = some sh) : ∃ vs, isL sh vs ∧ Rep w (G.bare (roW w)) (.agg vs) (.agg C) := by
  obtain ⟨fuel, h⟩ := h
  obtain ⟨vs, h1, h2⟩ := ent fuel d t _ _ _ h hc
  refine ⟨vs, h1, Rep.ofAgg (RepC.mk (by simpa [Value.cells] using h2.1) fun k v hk => ?_)⟩
  obtain ⟨V, q1, q2, q3⟩ := h2.2 k v hk
  exact ⟨V, by simpa [Value.cells] using q1, q2, q3⟩
inductive RepV (w : World) (g : G) : List AV → List Value → Prop where
  | nil : RepV w g [] []
  | cons {a : AV} {v : Value} {l : List AV} {vs : List Value} : Rep w g a v → RepV w g l vs → RepV w g (a :: l) (v :: vs)
theorem RepV.get {w : World} {g : G} {l : List AV} {vs : List Value} (h : RepV w g l vs) : ∃ hl : l.length = vs.length, ∀ k (hk : k < l.length), Rep w g l[k] (vs[k]'(by omega)) := by
  induction h with
  | nil => exact ⟨rfl, fun k hk => by simp at hk⟩
  | cons hv _ ih =>
    obtain ⟨hl, ih⟩ := ih
    refine ⟨by simp [hl], fun k hk => ?_⟩
    cases k with
    | zero => exact hv
    | succ k => exact ih k (by simpa using hk)
theorem RepV.toA {w : World} {g : G} {l : List AV} {vs : List Value} (h : RepV w g l vs) : RepA w g l vs.toArray := by
  obtain ⟨hl, h⟩ := h.get
  exact ⟨by simpa using hl, fun k hk => by simpa using h k hk⟩
end
end Go.Proofs

/- Which programs, footprints, classes and catalogues there may be: the document's answer. -/
namespace Go.Proofs
open Go Go.RowKit Go.Am

end Go.Proofs
