/- A region of operations, in whatever order. -/
import Derived.Test.YtajmapmledjhjaaAmL
namespace Go.Am
open Go Go.RowKit
section
variable {P : Program} {base : Nat} {W : Nat → Prop}

/-- The operations at these places, each in its translation. -/
def InsAt (P : Program) (N : Nat) (ops : Array Oper) : List Nat → List Ins → Prop
  | [], [] => True
  | i :: l, x :: is => (∃ o, ops[i]? = some o ∧ cIns P N ops o = some x) ∧ InsAt P N ops l is
  | _, _ => False

theorem cIns_inv {N : Nat} {ops : Array Oper} {o : Oper} {x : Ins} (h : cIns P N ops o = some x) :
    x.dst = o.dst ∧ cOp1 P N o = some x.op ∧ (∀ t, o.dst = some t → t < N) ∧ (o.guard = none → x.g = none) ∧ (∀ j b, o.guard = some (j, b) → ∃ t, ((ops[j]?).bind (·.dst)) = some t ∧ x.g = some (t, b)) := by
  unfold cIns at h
  split at h
  · rename_i hd
    have hdst : ∀ t, o.dst = some t → t < N := fun t ht => by
      rw [ht] at hd
      exact of_decide_eq_true hd
    split at h
    · rename_i hg
      simp only [Option.map_eq_some_iff] at h
      obtain ⟨i, hi, rfl⟩ := h
      exact ⟨rfl, hi, hdst, fun _ => rfl, fun j b hjb => by rw [hg] at hjb; cases hjb⟩
    · rename_i j b hg
      simp only [Option.bind_eq_some_iff] at h
      obtain ⟨t, ht, h⟩ := h
      split at h
      · simp only [Option.map_eq_some_iff] at h
        obtain ⟨i, hi, rfl⟩ := h
        refine ⟨rfl, hi, hdst, fun (h0 : o.guard = none) => (by rw [hg] at h0; cases h0), fun j' b' (hjb : o.guard = some (j', b')) => ?_⟩
        rw [hg] at hjb
        cases hjb
        obtain ⟨a, ha1, ha2⟩ := ht
        exact ⟨t, by rw [ha1]; exact ha2, rfl⟩
      · cases h
  · cases h

theorem no_defer {N : Nat} {o : Oper} {op : IOp} (h : cOp1 P N o = some op) : ∀ c, o.op ≠ .defer c := by
  intro c hc
  simp [cOp1, hc] at h

/-- What the operations do, one by one. -/
theorem ops_sound {N : Nat} {ops : Array Oper} {b : Frame} {k : List Item} {cs : List Frame} : ∀ {l : List Nat} {is : List Ins} {s s' : Slots} {h h' : H} {a : Act} {w : World} {g : G}, InsAt P N ops l is → OpsR P is s h s' h' →
    Sim P base W w g h → RepS w g s a.tmps → a.tmps.size = N →
    ∃ a' w' g', Steps P (lone (b.atR a (.inRegion ops l :: k)) cs w) (lone (b.atR a' k) cs w') ∧ RepS w' g' s' a'.tmps ∧ a'.tmps.size = N ∧ a'.defers = a.defers ∧ Sim P base W w' g' h' ∧ Ext base W w g w' g'
  | [], [], s, s', h, h', a, w, g, _, hops, hs, hr, hN => by
    cases hops
    exact ⟨a, w, g, .one stepR_region_end, hr, hN, rfl, hs, Ext.refl base W w g⟩
  | i :: l, x :: is, s, s', h, h', a, w, g, hat, hops, hs, hr, hN => by
    obtain ⟨⟨o, ho, hx⟩, hat'⟩ := hat
    obtain ⟨x1, x2, x3, x4, x5⟩ := cIns_inv hx
    have hd := no_defer x2
    cases hops with
    | skip i0 is0 s0 h0 s'0 h'0 t b0 hg hst hrest =>
      -- the guard says no
      have hw : ((ops[i]?).map (Region.wanted · (yielded ops a.tmps))).getD false = false := by
        rw [ho]
        simp only [Option.map_some, Option.getD_some, Region.wanted]
        cases hgo : o.guard with
        | none => rw [x4 hgo] at hg; cases hg
        | some jb =>
          obtain ⟨j, b'⟩ := jb
          obtain ⟨t', ht', hg'⟩ := x5 j b' hgo
          rw [hg] at hg'
          cases hg'
          have hrep := hr t
          rw [hst] at hrep
          have hv := hrep.bool_inv
          have hlt : t < a.tmps.size := by
            rcases Nat.lt_or_ge t a.tmps.size with h | h
            · exact h
            · rw [Array.getD_eq_getD_getElem?, Array.getElem?_eq_none h] at hv
              simp [undef] at hv
          have hy : yielded ops a.tmps j = some (!b0) := by
            simp only [yielded, ht', Option.bind_some]
            rw [Array.getD_eq_getD_getElem?, Array.getElem?_eq_getElem hlt] at hv
            simp only [Option.getD_some] at hv
            rw [Array.getElem?_eq_getElem hlt, hv]
          simp only [hy]
          cases b0 <;> rfl
      have hstep := stepR_op_skip (P := P) (b := b) (k := k) (cs := cs) (w := w) (rest := l) hw
      rw [ho] at hstep
      obtain ⟨p1, p2, p3⟩ := RepS.put (N := N) hr hN (d := o.dst) x3 (Rep.undef (w := w) (g := g) undef)
      rw [x1] at hrest
      obtain ⟨a', w', g', q1, q2, q3, q4, q5, q6⟩ := ops_sound hat' hrest hs p1 p2
      exact ⟨a', w', g', .head hstep q1, q2, q3, q4.trans p3, q5, q6⟩
    | step i0 is0 s0 h0 v h1 s'0 h'0 hg hins hrest =>
      have hw : Region.wanted o (yielded ops a.tmps) = true := by
        simp only [Region.wanted]
        cases hgo : o.guard with
        | none => rfl
        | some jb =>
          obtain ⟨j, b'⟩ := jb
          obtain ⟨t, ht, hg'⟩ := x5 j b' hgo
          have hst := hg t b' hg'
          have hrep := hr t
          rw [hst] at hrep
          have hv := hrep.bool_inv
          have hlt : t < a.tmps.size := by
            rcases Nat.lt_or_ge t a.tmps.size with h | h
            · exact h
            · rw [Array.getD_eq_getD_getElem?, Array.getElem?_eq_none h] at hv
              simp [undef] at hv
          have hy : yielded ops a.tmps j = some b' := by
            simp only [yielded, ht, Option.bind_some]
            rw [Array.getD_eq_getD_getElem?, Array.getElem?_eq_getElem hlt] at hv
            simp only [Option.getD_some] at hv
            rw [Array.getElem?_eq_getElem hlt, hv]
          simp only [hy]
          cases b' <;> rfl
      rw [x1] at hrest
      rcases ins_sound hs hr x2 hins with ⟨V, w1, g1, r1, r2, r3, r4⟩ | ⟨w1, g1, r1, rfl, r3, r4⟩ | ⟨F, Args, r1, r2⟩ | ⟨ln, F, tm, x, y, r1, r2⟩
      · obtain ⟨p1, p2, p3⟩ := RepS.put (N := N) (hr.mono r4.toGExt) hN (d := o.dst) x3 r2
        obtain ⟨a', w', g', q1, q2, q3, q4, q5, q6⟩ := ops_sound (b := b) (k := k) (cs := cs) hat' hrest r3 p1 p2
        exact ⟨a', w', g', .head (stepR_value ho hw hd r1) q1, q2, q3, q4.trans p3, q5, r4.trans q6⟩
      · obtain ⟨p1, p2, p3⟩ := RepS.put (N := N) (hr.mono r4.toGExt) hN (d := o.dst) x3 (Rep.undef (w := w1) (g := g1) undef)
        obtain ⟨a', w', g', q1, q2, q3, q4, q5, q6⟩ := ops_sound (b := b) (k := k) (cs := cs) hat' hrest r3 p1 p2
        exact ⟨a', w', g', .head (stepR_skipRes ho hw hd r1) q1, q2, q3, q4.trans p3, q5, r4.trans q6⟩
      · obtain ⟨e, w1, fr, ⟨R, g1, rfl, s2, s3, s4⟩, hcomes, _, hleave⟩ := r2 (b.atR a (.inRegion ops (i :: l) :: k) :: cs)
        obtain ⟨p1, p2, p3⟩ := RepS.put (N := N) (hr.mono s4.toGExt) hN (d := o.dst) x3 s2
        obtain ⟨a', w', g', q1, q2, q3, q4, q5, q6⟩ := ops_sound (b := b) (k := k) (cs := cs) hat' hrest s3 p1 p2
        refine ⟨a', w', g', .head (stepR_enter ho hw hd r1) (Steps.trans hcomes (.head ?_ q1)), q2, q3, q4.trans p3, q5, s4.trans q6⟩
        have hfin : (b.atR a (.inRegion ops (i :: l) :: k)).finish R = b.atR (a.put o.dst R) (.inRegion ops l :: k) := by rw [Frame.finish_atR, ho]; rfl
        rw [← hfin]
        exact step_leave_returned hleave
      · obtain ⟨R, w1, g1, s1, s2, s3, s4⟩ := r2 (b.atR a (.inRegion ops (i :: l) :: k)) cs
        obtain ⟨p1, p2, p3⟩ := RepS.put (N := N) (hr.mono s4.toGExt) hN (d := o.dst) x3 s2
        obtain ⟨a', w', g', q1, q2, q3, q4, q5, q6⟩ := ops_sound (b := b) (k := k) (cs := cs) hat' hrest s3 p1 p2
        have hfin : (b.atR a (.inRegion ops (i :: l) :: k)).finish R = b.atR (a.put o.dst R) (.inRegion ops l :: k) := by rw [Frame.finish_atR, ho]; rfl
        rw [hfin] at s1
        exact ⟨a', w', g', .head (stepR_round ho hw hd r1) (Steps.trans s1 q1), q2, q3, q4.trans p3, q5, s4.trans q6⟩
  | [], _ :: _, _, _, _, _, _, _, _, hat, _, _, _, _ => hat.elim
  | _ :: _, [], _, _, _, _, _, _, _, hat, _, _, _, _ => hat.elim

/-! ### The text's own order -/
theorem InsAt_range {N : Nat} {ops : Array Oper} : ∀ (os : List Oper) (is : List Ins) (j : Nat), cInsL P N ops os = some is → (∀ i o, os[i]? = some o → ops[j + i]? = some o) → InsAt P N ops (List.range' j os.length) is
  | [], is, j, h, _ => by
    simp only [cInsL, Option.some.injEq] at h
    subst h
    trivial
  | o :: os, is, j, h, hget => by
    simp only [cInsL, Option.bind_eq_some_iff, Option.map_eq_some_iff] at h
    obtain ⟨x, hx, is', his, rfl⟩ := h
    simp only [List.length_cons, List.range'_succ]
    refine ⟨⟨o, by simpa using hget 0 o rfl, hx⟩, InsAt_range os is' (j + 1) his fun i o' ho' => ?_⟩
    have := hget (i + 1) o' (by simpa using ho')
    rw [← this]
    congr 1
    omega

end
end Go.Am
