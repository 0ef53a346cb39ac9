/- A law's function at the worlds of a row: it hands back true, and writes nothing that was there. -/
import Derived.Test.YtajmapmledjhjaaAmW
import Derived.Below
namespace Go.Am
open Go Go.RowKit

theorem roW_out (w : World) : ∀ B, w.heap.size ≤ B → roW w B = 0 := fun B hB => by
  unfold roW
  rw [Array.getElem?_eq_none hB]

theorem Sim.entry (P : Program) (w : World) : Sim P w.heap.size (fun _ => False) w (G.bare (roW w)) H.nil :=
  ⟨Nat.le_refl _, rfl, rfl, rfl, rfl, fun b _ hb => by simp [H.nil] at hb, fun b _ hb => by simp [H.nil] at hb, fun i hi => by simp [H.nil] at hi, fun i _ hi => by simp [H.nil] at hi, roW_out w,
    fun l _ hl => by simp [H.nil] at hl, fun l _ hl => by simp [H.nil] at hl, fun l _ hl => by simp [H.nil] at hl, fun l _ hl => by simp [H.nil] at hl⟩

theorem Ext.below {w w' : World} {g g' : G} (e : Ext w.heap.size (fun _ => False) w g w' g') : Below w.heap.size w w' :=
  ⟨e.os, e.tape, e.output, e.size, fun k hk => e.blk k hk fun h => h⟩

theorem law_run {P : Program} {f : FuncId} {args : List AV} {Args : Array Value} {w : World} {b : Bool} (hc : PCall P f args (.bool b)) (hA : RepA w (G.bare (roW w)) args Args) :
    Calls P f Args w fun e w' => e = .returned (.bool b) ∧ Below w.heap.size w w' := by
  refine ((hc H.nil).2 _ _ w _ Args (Sim.entry P w) hA).mono ?_
  rintro e w' ⟨R, g', rfl, q1, _, q3⟩
  obtain rfl := q1.bool_inv
  exact ⟨rfl, q3.below⟩

section
variable {H : Type} {enc : TypeId × Value → H} {P : Program} {w : World} {spare : Nat → Bool} {held : Bool}

/-- An argument of one cell. -/
theorem ent_one {t : TypeId} {v : Value} {x : DataW H} {ps : List MemPlace} {d : Nat} {s : Sh} (h : DataW.Trod enc P w 0 spare held t v x ps) (hc : shT P d t = some [s]) (hv : v.cells = #[v]) : ∃ a, s.is a ∧ Rep w (G.bare (roW w)) a v := by
  obtain ⟨fuel, h⟩ := h
  obtain ⟨vs, h1, h2⟩ := ent fuel d t _ _ _ h hc
  simp only [isL] at h1
  obtain ⟨a, r, rfl, h1, rfl⟩ := h1
  obtain ⟨V, q1, q2, _⟩ := h2.2 0 a rfl
  rw [hv] at q1
  simp at q1
  subst q1
  exact ⟨a, h1, q2⟩

theorem RepA.nil {g : G} : RepA w g [] #[] := ⟨rfl, fun k hk => by simp at hk⟩
theorem RepA.one {g : G} {a : AV} {v : Value} (h : Rep w g a v) : RepA w g [a] #[v] := ⟨rfl, fun k hk => by
  have : k = 0 := by simp at hk; omega
  subst this
  exact h⟩
end
end Go.Am
