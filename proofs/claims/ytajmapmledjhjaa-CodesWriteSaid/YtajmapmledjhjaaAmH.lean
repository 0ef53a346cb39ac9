/- The operations on addresses, parts, slices, strings. -/
import Derived.Test.YtajmapmledjhjaaAmG
namespace Go.Am
open Go Go.RowKit
section
variable {P : Program} {base : Nat} {W : Nat → Prop} {w : World} {g : G} {h : H}

theorem lit_add (B o n : Nat) : (⟨B, o, none⟩ : Addr).add n = ⟨B, o + n, none⟩ := Addr.add_lit B o n

theorem run_loadAtA {t : TypeId} {n : Nat} {ag : Bool} (hn : szT P t = some n) (hag : aggT P t = some ag) (hor : ag = true ∨ n = 1) (hs : Sim P base W w g h) {x v : AV} {X : Value} (hx : Rep w g x X)
    {e : Opd → AV} {o : Opd} (ho : e o = x) (hv : pv (.load n ag o) e h = some v) : ∃ V, (Instr.loadAt t X).run P w = .ok V w ∧ Rep w g v V := by
  simp only [pv, ho] at hv
  split at hv
  · rename_i b off
    simp only [Option.bind_eq_some_iff] at hv
    obtain ⟨cs, hcs, hv⟩ := hv
    split at hv
    · rename_i hc
      obtain ⟨hb, hl⟩ := hc
      obtain ⟨_, rfl⟩ := hx.ptr_inv
      obtain ⟨_, _, C, T, hC, hrep, _⟩ := hs.box b cs hb hcs
      obtain ⟨V, h1, h2⟩ := run_loadVarA (P := P) (w := w) (g := g) hn hag (B := g.bx b) (o := off) hv (by simp; omega) (fun k y hk => by
        rw [List.getElem?_take] at hk
        split at hk
        · rw [List.getElem?_drop] at hk
          obtain ⟨V, q1, q2⟩ := hrep.2 _ _ hk
          exact ⟨V, by rw [cell_at hC]; exact q1, q2⟩
        · cases hk)
      exact ⟨V, by simp only [Instr.loadAt, Instr.sureAddr, Sem.run_bind, Sem.run_pure, Result.andThen_ok, h1], h2⟩
    · cases hv
  · rename_i cs
    split at hv
    · rename_i hl
      obtain ⟨a, Vs, rfl, h1, h2, h3⟩ := hx.rop_inv
      rcases Nat.eq_zero_or_pos n with hn0 | hn0
      · subst hn0
        rcases hor with rfl | h'
        · simp only [unCells, List.take_zero, if_true, Option.some.injEq] at hv
          subst hv
          refine ⟨.agg #[], ?_, .agg [] #[] rfl (fun k hk => by simp at hk) (fun k hk => by simp at hk)⟩
          simp [Instr.loadAt, Instr.sureAddr, loadVar, run_aggT hag, run_szT hn, loadCells, loadCellsFrom]
        · omega
      · obtain ⟨B, o', hA, _, _⟩ := h1 0 (by omega)
        cases hA
        obtain ⟨V, q1, q2⟩ := run_loadVarA (P := P) (w := w) (g := g) hn hag (B := B) (o := o') hv (by simp; omega) (fun k y hk => by
          rw [List.getElem?_take] at hk
          split at hk
          · obtain ⟨hlt, rfl⟩ := List.getElem?_eq_some_iff.1 hk
            obtain ⟨B', o'', hA', _, hc⟩ := h1 k hlt
            cases hA'
            exact ⟨Vs k, hc, h2 k hlt, h3 k hlt⟩
          · cases hk)
        exact ⟨V, by simp only [Instr.loadAt, Instr.sureAddr, Sem.run_bind, Sem.run_pure, Result.andThen_ok, q1], q2⟩
    · cases hv
  · cases hv

theorem setRow_at (w : World) (B : Nat) (C : Array Value) {C0 : Array Value} {T : TypeId} (h : w.heap[B]? = some (.cells C0 T (0, 0))) :
    (w.setRow B C).heap[B]? = some (.cells C T (0, 0)) ∧ (w.setRow B C).heap.size = w.heap.size ∧ (∀ B', B' ≠ B → (w.setRow B C).heap[B']? = w.heap[B']?) ∧ (w.setRow B C).os = w.os ∧ (w.setRow B C).tape = w.tape ∧ (w.setRow B C).output = w.output := by
  refine ⟨?_, ?_, fun B' hB' => ?_, rfl, rfl, rfl⟩
  · exact setRow_heap w B C0 C T (0, 0) h
  · simp [World.setRow]
  · simp only [World.setRow, Array.getElem?_modify]
    rw [if_neg (by omega)]

/-- A store into a box. -/
theorem run_storeAtA {t : TypeId} {n : Nat} (hn : szT P t = some n) (hs : Sim P base W w g h) {b o : Nat} {x : AV} {X A : Value} {cs xs : List AV} (ha : Rep w g (.ptr b o) A) (hx : Rep w g x X)
    (hb : b < h.bn) (hc : h.bx b = some cs) (hf : fit n x = some xs) (ho : o + n ≤ cs.length) :
    ∃ w', (Instr.storeAt t A X).run P w = .ok () w' ∧ Sim P base W w' g (h.set b (cs.take o ++ xs ++ cs.drop (o + n))) ∧ Ext base W w g w' g := by
  obtain ⟨_, rfl⟩ := ha.ptr_inv
  obtain ⟨hxr, hxl⟩ := fit_rep hf hx
  obtain ⟨_, _, C, T, hC, hrep, hbs⟩ := hs.box b cs hb hc
  have hCl := hrep.1
  have hXs : X.cells.size = n := by rw [← hxl]; exact hxr.1.1.symm
  have hrun := run_storeCells_at P (g.bx b) o T X.cells.toList 0 C w hC (by simp; omega) hxr.allOne
  simp only [Nat.add_zero, Array.length_toList] at hrun
  obtain ⟨q1, q2, q3, q4, q5, q6⟩ := setRow_at w (g.bx b) (C.toList.take o ++ X.cells.toList ++ C.toList.drop (o + X.cells.size)).toArray hC
  obtain ⟨hS, hE⟩ := hs.setBox hb hc (cs' := cs.take o ++ xs ++ cs.drop (o + n)) (C' := (C.toList.take o ++ X.cells.toList ++ C.toList.drop (o + X.cells.size)).toArray) (T := T) (by
    refine RepP.splice hrep hxr hxl ho ?_ fun k => ?_
    · simp; omega
    · rw [List.getElem?_toArray, hXs, splice_get _ _ o n (by simp [hXs]) (by simp; omega)]
      simp) q1 (by simp; omega) q2 q3 q4 q5 q6
  refine ⟨_, ?_, hS, hE⟩
  simp only [Instr.storeAt, Instr.sureAddr, Sem.run_bind, Sem.run_pure, Result.andThen_ok, storeVar, run_szT hn, hXs, ne_eq, not_true_eq_false, if_false]
  rw [hrun, hXs]

theorem run_faddrA {s : TypeId} {fs : Array Field} {f : Nat} {fd : Field} {n : Nat} (hu : P.underlying s = some (.struct fs)) (hf : fs[f]? = some fd) (hn : szT P fd.type = some n) (hn0 : n ≠ 0) {x v : AV} {X : Value} (hx : Rep w g x X)
    {e : Opd → AV} {o : Opd} (ho : e o = x) (hv : pv (.faddr fd.offset o) e h = some v) : ∃ V, (Instr.fieldAt s X f).run P w = .ok V w ∧ Rep w g v V := by
  have hfp : ∀ a : Addr, (fieldPlace a fd).run P w = .ok (a.add fd.offset) w := fun a => by
    simp only [fieldPlace, Sem.run_bind, run_szT hn, Result.andThen_ok, if_neg hn0, Sem.run_pure]
  simp only [pv, ho] at hv
  split at hv
  · cases hv
    rename_i b off
    obtain ⟨hb, rfl⟩ := hx.ptr_inv
    exact ⟨_, by simp only [Instr.fieldAt, Sem.run_bind, run_underlying hu, Result.andThen_ok, hf, Instr.sureAddr, Sem.run_pure, hfp, lit_add], .ptr b (off + fd.offset) hb⟩
  · cases hv
    rename_i cs
    obtain ⟨a, Vs, rfl, h1, h2, h3⟩ := hx.rop_inv
    refine ⟨.pointer (some (a.add fd.offset)), by simp only [Instr.fieldAt, Sem.run_bind, run_underlying hu, Result.andThen_ok, hf, Instr.sureAddr, Sem.run_pure, hfp], ?_⟩
    refine .rop _ _ (fun k => Vs (fd.offset + k)) (fun k hk => ?_) (fun k hk => ?_) (fun k hk => ?_)
    · have hk' : fd.offset + k < cs.length := by simp at hk; omega
      obtain ⟨B, o', hA, hr, hc⟩ := h1 _ hk'
      cases hA
      exact ⟨B, o' + fd.offset, by rw [lit_add], by omega, by rw [Nat.add_assoc]; exact hc⟩
    · have hk' : fd.offset + k < cs.length := by simp at hk; omega
      rw [List.getElem_drop]; exact h2 _ hk'
    · have hk' : fd.offset + k < cs.length := by simp at hk; omega
      rw [List.getElem_drop]; exact h3 _ hk'
  · cases hv

theorem idxOf_inv {v : AV} {n j : Nat} (h : idxOf v n = some j) {V : Value} (hr : Rep w g v V) : ∃ k i, V = .int k i ∧ 0 ≤ i ∧ i < n ∧ j = i.toNat ∧ j < n := by
  unfold idxOf at h
  split at h
  · rename_i k i
    split at h
    · rename_i hi
      cases h
      obtain rfl := hr.int_inv
      exact ⟨k, i, rfl, hi.1, hi.2, rfl, by omega⟩
    · cases h
  · cases h

theorem Rep.sl_inv {t : Tok} {es : List (List AV)} {V : Value} (h : Rep w g (.sl t es) V) : ∃ (A : Option Addr) (cap z : Nat) (Vs : Nat → Value), V = .slice A es.length cap ∧ 0 < z ∧ (∀ e ∈ es, e.length = z) ∧ es.length ≤ cap ∧
    (∀ k, k < es.flatten.length → ROat w g A k (Vs k)) ∧ (∀ k (hk : k < es.flatten.length), Rep w g es.flatten[k] (Vs k)) ∧ (∀ k (hk : k < es.flatten.length), ok1 es.flatten[k] = true) ∧ TokAt g t A z es.length cap := by
  cases h with
  | sl t es A cap z Vs h1 h2 h3 h4 h5 h6 => exact ⟨A, cap, z, Vs, rfl, h1.1, h1.2, h2, h3, h4, h5, h6⟩

theorem Rep.msl_inv {b z off len : Nat} {V : Value} (h : Rep w g (.msl b z off len) V) : ∃ cap, V = .slice (some ⟨g.bx b, off, none⟩) len cap ∧ b < g.bn ∧ len ≤ cap ∧ off + cap * z ≤ g.bs b := by
  cases h with
  | msl b z off len cap h1 h2 h3 => exact ⟨cap, rfl, h1, h2, h3⟩

theorem flat_at {es : List (List AV)} {z i j : Nat} (hz : ∀ e ∈ es, e.length = z) (hi : i < es.length) (hj : j < z) : ∃ hlt : i * z + j < es.flatten.length, ∃ hj' : j < es[i].length, es.flatten[i * z + j] = es[i][j] := by
  have hei : es[i].length = z := hz _ (List.getElem_mem hi)
  have := flatten_get hz i j hj
  have hj' : j < es[i].length := by omega
  rw [List.getElem?_eq_getElem hi, Option.bind_some, List.getElem?_eq_getElem hj'] at this
  obtain ⟨h1, h2⟩ := List.getElem?_eq_some_iff.1 this
  exact ⟨h1, hj', h2⟩

theorem run_iaddrA {t e' : TypeId} {n : Nat} (hu : P.underlying t = some (.slice e')) (hn : szT P e' = some n) {x i v : AV} {X I : Value} (hx : Rep w g x X) (hi : Rep w g i I)
    {e : Opd → AV} {o q : Opd} (ho : e o = x) (hq : e q = i) (hv : pv (.iaddr n o q) e h = some v) : ∃ V, (Instr.indexAt t X I).run P w = .ok V w ∧ Rep w g v V := by
  simp only [pv, ho, hq] at hv
  split at hv
  · rename_i tk es
    simp only [Option.bind_eq_some_iff] at hv
    obtain ⟨j, hj, el, hel, hv⟩ := hv
    split at hv
    · rename_i heln
      cases hv
      obtain ⟨k, ii, rfl, h0, h1, rfl, hlt⟩ := idxOf_inv hj hi
      obtain ⟨A, cap, z, Vs, rfl, hz0, hz, hcap, hro, hrep, hok, htok⟩ := hx.sl_inv
      have hes : es[ii.toNat] = el := (List.getElem?_eq_some_iff.1 hel).2
      have hzn : z = n := by rw [← heln, ← hes]; exact (hz _ (List.getElem_mem hlt)).symm
      subst hzn
      have hA : ∃ a, A = some a := by
        rcases A with _ | a
        · exfalso
          obtain ⟨hlt', _, _⟩ := flat_at hz hlt hz0
          obtain ⟨B, o', hA, _⟩ := hro _ hlt'
          cases hA
        · exact ⟨a, rfl⟩
      obtain ⟨a, rfl⟩ := hA
      refine ⟨.pointer (some (a.add (ii.toNat * z))), ?_, ?_⟩
      · simp only [Instr.indexAt, asIntOf, Sem.run_bind, Sem.run_pure, Result.andThen_ok, run_underlying hu]
        rw [if_pos ⟨h0, h1⟩]
        simp only [Sem.run_bind, run_szT hn, Result.andThen_ok, Sem.run_pure]
      · refine .rop _ _ (fun j => Vs (ii.toNat * z + j)) (fun j hj => ?_) (fun j hj => ?_) (fun j hj => ?_)
        · obtain ⟨hlt', _, he⟩ := flat_at hz hlt (show j < z by omega)
          obtain ⟨B, o', hA, hr, hc⟩ := hro _ hlt'
          cases hA
          exact ⟨B, o' + ii.toNat * z, by rw [lit_add], by omega, by rw [Nat.add_assoc]; exact hc⟩
        · obtain ⟨hlt', _, he⟩ := flat_at hz hlt (show j < z by omega)
          have := hrep _ hlt'
          rw [he] at this
          simpa [hes] using this
        · obtain ⟨hlt', _, he⟩ := flat_at hz hlt (show j < z by omega)
          have := hok _ hlt'
          rw [he] at this
          simpa [hes] using this
    · cases hv
  · rename_i b z off len
    simp only [Option.bind_eq_some_iff] at hv
    obtain ⟨j, hj, hv⟩ := hv
    split at hv
    case isFalse => cases hv
    cases hv
    obtain ⟨k, ii, rfl, h0, h1, rfl, hlt⟩ := idxOf_inv hj hi
    obtain ⟨cap, rfl, hb, hcap, hbs⟩ := hx.msl_inv
    refine ⟨.pointer (some ⟨g.bx b, off + ii.toNat * n, none⟩), ?_, .ptr b _ hb⟩
    simp only [Instr.indexAt, asIntOf, Sem.run_bind, Sem.run_pure, Result.andThen_ok, run_underlying hu]
    rw [if_pos ⟨h0, h1⟩]
    simp only [Sem.run_bind, run_szT hn, Result.andThen_ok, Sem.run_pure, lit_add]
  · cases hv

end
end Go.Am
