/- What an operation of the program does, held against what the abstract machine says: operands, loads, and the operations on plain values. -/
import Derived.Test.YtajmapmledjhjaaAmD
import Derived.Laws.Cells
import Derived.Laws.CopyRow
import Derived.ChangeKeysEq
namespace Go.Am
open Go Go.RowKit
section
variable {P : Program} {base : Nat} {W : Nat → Prop} {w : World} {g : G} {h : H}

/-! ### Inversions -/
theorem Rep.int_inv {k : IntKind} {n : Int} {V : Value} (h : Rep w g (.int k n) V) : V = .int k n := by cases h; rfl
theorem Rep.bool_inv {b : Bool} {V : Value} (h : Rep w g (.bool b) V) : V = .bool b := by cases h; rfl
theorem Rep.str_inv {s : ByteArray} {V : Value} (h : Rep w g (.str s) V) : V = .string s := by cases h; rfl
theorem Rep.agg_inv {cs : List AV} {V : Value} (h : Rep w g (.agg cs) V) : ∃ C, V = .agg C ∧ RepC w g cs C := by
  cases h with
  | agg cs C hC h1 h2 => exact ⟨C, rfl, ⟨hC, h1⟩, h2⟩
theorem Rep.tup_inv {cs : List AV} {V : Value} (h : Rep w g (.tup cs) V) : ∃ C, V = .tuple C ∧ RepA w g cs C := by
  cases h with
  | tup cs C hC h1 => exact ⟨C, rfl, hC, h1⟩
theorem Rep.ptr_inv {b o : Nat} {V : Value} (h : Rep w g (.ptr b o) V) : b < g.bn ∧ V = .pointer (some ⟨g.bx b, o, none⟩) := by
  cases h with
  | ptr b o hb => exact ⟨hb, rfl⟩
theorem Rep.rop_inv {cs : List AV} {V : Value} (h : Rep w g (.rop cs) V) : ∃ (a : Addr) (Vs : Nat → Value), V = .pointer (some a) ∧ (∀ k, k < cs.length → ROat w g (some a) k (Vs k)) ∧ (∀ k (hk : k < cs.length), Rep w g cs[k] (Vs k)) ∧ (∀ k (hk : k < cs.length), ok1 cs[k] = true) := by
  cases h with
  | rop cs a Vs h1 h2 h3 => exact ⟨a, Vs, rfl, h1, h2, h3⟩

theorem ok1_one {v : AV} {V : Value} (h : Rep w g v V) (hv : ok1 v = true) : V.oneCell' = true := by
  cases h <;> first | rfl | simp [ok1] at hv

theorem Rep.ofAgg {cs : List AV} {C : Array Value} (h : RepC w g cs C) : Rep w g (.agg cs) (.agg C) := .agg cs C h.1.1 h.1.2 h.2

/-! ### Constants, operands -/
theorem absL_rep {v : Value} {x : AV} (hv : absL v = some x) : Rep w g x v ∧ ok1 x = true := by
  unfold absL at hv
  split at hv <;> simp only [Option.some.injEq, reduceCtorEq] at hv <;> subst hv
  · exact ⟨.bool _, rfl⟩
  · exact ⟨.int _ _, rfl⟩
  · exact ⟨.str _, rfl⟩
  · exact ⟨.sl .full [] none 0 1 (fun _ => undef) (by simp) (by simp) (by simp) (by simp) (by simp) rfl, rfl⟩
  · exact ⟨.nilptr, rfl⟩
  · exact ⟨.nilfn, rfl⟩
  · exact ⟨.nilmap, rfl⟩
  · exact ⟨.niface, rfl⟩

theorem absAll_rep {vs : List Value} : ∀ {xs : List AV}, absAll vs = some xs → ∃ hl : xs.length = vs.length, ∀ k (hk : k < xs.length), Rep w g xs[k] vs[k] ∧ ok1 xs[k] = true := by
  induction vs with
  | nil =>
    intro xs h
    simp [absAll] at h
    subst h
    exact ⟨rfl, fun k hk => by simp at hk⟩
  | cons v vs ih =>
    intro xs h
    simp only [absAll, Option.bind_eq_some_iff, Option.map_eq_some_iff] at h
    obtain ⟨x, hx, xs', hxs', rfl⟩ := h
    obtain ⟨hl, hr⟩ := ih hxs'
    refine ⟨by simp [hl], fun k hk => ?_⟩
    cases k with
    | zero => simpa using absL_rep hx
    | succ k => simpa using hr k (by simpa using hk)

theorem absC_rep {v : Value} {x : AV} (hv : absC v = some x) : Rep w g x v := by
  unfold absC at hv
  split at hv
  · rename_i cs
    simp only [Option.map_eq_some_iff] at hv
    obtain ⟨xs, hxs, rfl⟩ := hv
    obtain ⟨hl, hr⟩ := absAll_rep (w := w) (g := g) hxs
    exact .agg xs cs (by simpa using hl) (fun k hk => by simpa using (hr k hk).1) (fun k hk => (hr k hk).2)
  · exact (absL_rep hv).1

theorem nil_eval {N : Nat} (a : Act) {x : Operand} (h : cOpd N x = some (.c (.sl .full []))) : a.eval x = .slice none 0 0 := by
  cases x with
  | tmp t => simp only [cOpd] at h; split at h <;> cases h
  | const v =>
    simp only [cOpd, Option.map_eq_some_iff] at h
    obtain ⟨y, hy, h⟩ := h
    cases h
    unfold absC at hy
    split at hy
    · simp only [Option.map_eq_some_iff] at hy
      obtain ⟨_, _, h⟩ := hy
      cases h
    · unfold absL at hy
      split at hy <;> first | (cases hy; done) | skip
      rfl
  | func f => cases h
  | global g => cases h

theorem ev_rep {N : Nat} {s : Slots} {a : Act} (hr : RepS w g s a.tmps) {x : Operand} {y : Opd} (hy : cOpd N x = some y) : Rep w g (ev s y) (a.eval x) := by
  cases x with
  | tmp t =>
    simp only [cOpd] at hy
    split at hy
    · cases hy; exact hr t
    · cases hy
  | const v =>
    simp only [cOpd, Option.map_eq_some_iff] at hy
    obtain ⟨z, hz, rfl⟩ := hy
    exact absC_rep hz
  | func f =>
    simp only [cOpd, Option.some.injEq] at hy
    subst hy
    exact .fn f [] [] #[] #[] rfl rfl (fun k hk => by simp at hk) (fun k hk => by simp at hk)
  | global g => simp [cOpd] at hy

theorem evs_rep {N : Nat} {s : Slots} {a : Act} (hr : RepS w g s a.tmps) {xs : List Operand} : ∀ {ys : List Opd}, cOpds N xs = some ys →
    ∃ hl : ys.length = xs.length, ∀ k (hk : k < ys.length), Rep w g (ev s ys[k]) (a.eval xs[k]) := by
  induction xs with
  | nil =>
    intro ys h
    simp [cOpds] at h
    subst h
    exact ⟨rfl, fun k hk => by simp at hk⟩
  | cons x xs ih =>
    intro ys h
    simp only [cOpds, Option.bind_eq_some_iff, Option.map_eq_some_iff] at h
    obtain ⟨y, hy, ys', hys', rfl⟩ := h
    obtain ⟨hl, hh⟩ := ih hys'
    refine ⟨by simp [hl], fun k hk => ?_⟩
    cases k with
    | zero => exact ev_rep hr hy
    | succ k => simpa using hh k (by simpa using hk)

theorem evs_repA {N : Nat} {s : Slots} {a : Act} (hr : RepS w g s a.tmps) {xs : Array Operand} {ys : List Opd} (hy : cOpds N xs.toList = some ys) :
    RepA w g (ys.map (ev s)) (xs.map a.eval) := by
  obtain ⟨hl, hh⟩ := evs_rep hr hy
  refine ⟨by simpa using hl, fun k hk => ?_⟩
  have hk' : k < ys.length := by simpa using hk
  have := hh k hk'
  simpa using this

/-! ### Types -/
theorem run_szT {t : TypeId} {n : Nat} (h : szT P t = some n) (w : World) : (sizeOf t).run P w = .ok n w := by
  simp only [szT, Option.map_eq_some_iff] at h
  obtain ⟨i, hi, rfl⟩ := h
  simp [sizeOf, typeInfo, hi]

theorem run_aggT {t : TypeId} {b : Bool} (h : aggT P t = some b) (w : World) : (isAgg t).run P w = .ok b w := by
  simp only [aggT, Option.map_eq_some_iff] at h
  obtain ⟨d, hd, rfl⟩ := h
  simp only [isAgg, Sem.run_bind, run_underlying hd, Result.andThen_ok]
  cases d <;> rfl

theorem run_zeroT {t : TypeId} {z : List AV} (h : zeroT P t = some z) : ∃ Z, (∀ w, (zeroValue t).run P w = .ok Z w) ∧ ∀ w g, RepC w g z Z.cells := by
  simp only [zeroT, Option.bind_eq_some_iff, Option.map_eq_some_iff] at h
  obtain ⟨Z, ⟨i, hi, hz⟩, x, hx, rfl⟩ := h
  refine ⟨Z, fun w => by simp [zeroValue, typeInfo, hi, hz], fun w g => ?_⟩
  unfold absC at hx
  split at hx
  · rename_i cs
    simp only [Option.map_eq_some_iff] at hx
    obtain ⟨xs, hxs, rfl⟩ := hx
    obtain ⟨hl, hr⟩ := absAll_rep (w := w) (g := g) hxs
    exact ⟨⟨by simpa [AV.cells, Value.cells] using hl, fun k hk => (hr k hk).1⟩, fun k hk => (hr k hk).2⟩
  · rename_i hne
    obtain ⟨h1, h2⟩ := absL_rep (w := w) (g := g) hx
    have e1 : x.cells = [x] := by cases x <;> first | rfl | simp [ok1] at h2
    have e2 : Z.cells = #[Z] := by cases Z <;> first | rfl | exact absurd rfl (hne _)
    rw [e1, e2]
    refine ⟨⟨rfl, fun k hk => ?_⟩, fun k hk => ?_⟩
    · have : k = 0 := by simp at hk; omega
      subst this; exact h1
    · have : k = 0 := by simp at hk; omega
      subst this; exact h2

/-! ### Cells in and out -/
theorem fit_rep {n : Nat} {v : AV} {cs : List AV} {V : Value} (hf : fit n v = some cs) (hr : Rep w g v V) : RepC w g cs V.cells ∧ cs.length = n := by
  unfold fit at hf
  split at hf
  · rename_i cs'
    split at hf
    · rename_i hn
      cases hf
      obtain ⟨C, rfl, hC⟩ := hr.agg_inv
      exact ⟨hC, hn⟩
    · cases hf
  · cases hf
  · cases hf
  · rename_i hna hnu hnt
    split at hf
    · rename_i hn
      cases hf
      have e2 : V.cells = #[V] := by
        cases hr <;> first | rfl | exact absurd rfl (hna _) | exact absurd rfl hnu
      have hok : ok1 v = true := by
        cases v <;> first | rfl | exact absurd rfl (hna _) | exact absurd rfl (hnt _) | exact absurd rfl hnu
      rw [e2]
      refine ⟨⟨⟨rfl, fun k hk => ?_⟩, fun k hk => ?_⟩, by simp [hn]⟩
      · have : k = 0 := by simp at hk; omega
        subst this; exact hr
      · have : k = 0 := by simp at hk; omega
        subst this; exact hok
    · cases hf

theorem RepC.get {cs : List AV} {C : Array Value} (h : RepC w g cs C) {k : Nat} {v : AV} (hk : cs[k]? = some v) : ∃ V, C[k]? = some V ∧ Rep w g v V ∧ ok1 v = true := by
  obtain ⟨hlt, rfl⟩ := List.getElem?_eq_some_iff.1 hk
  obtain ⟨⟨hl, hr⟩, hok⟩ := h
  exact ⟨C[k], Array.getElem?_eq_getElem (by omega), hr k hlt, hok k hlt⟩

theorem RepC.toP {cs : List AV} {C : Array Value} (h : RepC w g cs C) : RepP w g cs C := ⟨by have := h.1.1; omega, fun _ _ hk => h.get hk⟩

theorem RepC.mk {cs : List AV} {C : Array Value} (hl : cs.length = C.size) (h : ∀ (k : Nat) (v : AV), cs[k]? = some v → ∃ V : Value, C[k]? = some V ∧ Rep w g v V ∧ ok1 v = true) : RepC w g cs C := by
  refine ⟨⟨hl, fun k hk => ?_⟩, fun k hk => ?_⟩
  · obtain ⟨V, h1, h2, _⟩ := h k cs[k] (List.getElem?_eq_getElem hk)
    have : C[k] = V := by
      have := Array.getElem?_eq_some_iff.1 h1
      exact this.2
    rw [this]; exact h2
  · exact (h k cs[k] (List.getElem?_eq_getElem hk)).choose_spec.2.2

theorem RepC.allOne {cs : List AV} {C : Array Value} (h : RepC w g cs C) : ∀ v ∈ C.toList, v.oneCell' = true := by
  intro v hv
  obtain ⟨k, hk, rfl⟩ := List.getElem_of_mem hv
  obtain ⟨⟨hl, hr⟩, hok⟩ := h
  have hk' : k < cs.length := by simp at hk; omega
  have := ok1_one (hr k hk') (hok k hk')
  simpa using this

theorem run_loadVarA {t : TypeId} {n : Nat} {ag : Bool} (hn : szT P t = some n) (hg : aggT P t = some ag) {B o : Nat} {cs : List AV} {v : AV}
    (hu : unCells ag cs = some v) (hl : cs.length = n) (hc : ∀ k x, cs[k]? = some x → ∃ V, w.cell? ⟨B, o + k, none⟩ = some V ∧ Rep w g x V ∧ ok1 x = true) :
    ∃ V, (loadVar t ⟨B, o, none⟩).run P w = .ok V w ∧ Rep w g v V := by
  cases ag with
  | true =>
    simp only [unCells, if_true, Option.some.injEq] at hu
    subst hu
    let f : Nat → Value := fun j => (w.cell? ⟨B, o + j, none⟩).getD undef
    have hf : ∀ j, j < n → w.cell? ((⟨B, o, none⟩ : Addr).add j) = some (f j) := fun j hj => by
      obtain ⟨V, h1, _⟩ := hc j cs[j] (List.getElem?_eq_getElem (by omega))
      rw [Addr.add_lit]
      simp [f, h1]
    refine ⟨.agg ((List.range n).map f).toArray, ?_, ?_⟩
    · simp only [loadVar, Sem.run_bind, run_aggT hg, Result.andThen_ok, if_true, run_szT hn, run_loadCells w _ n f hf]
      rfl
    · refine Rep.ofAgg (RepC.mk (by simp [hl]) fun k x hk => ?_)
      obtain ⟨V, h1, h2, h3⟩ := hc k x hk
      have hkl : k < n := by
        have := (List.getElem?_eq_some_iff.1 hk).1
        omega
      exact ⟨V, by simp [hkl, f, h1], h2, h3⟩
  | false =>
    simp only [unCells, Bool.false_eq_true, if_false] at hu
    split at hu
    · rename_i x
      cases hu
      obtain ⟨V, h1, h2, _⟩ := hc 0 v rfl
      refine ⟨V, ?_, h2⟩
      simp only [Nat.add_zero] at h1
      simp only [loadVar, Sem.run_bind, run_aggT hg, Result.andThen_ok, Bool.false_eq_true, if_false, run_load, h1]
    · cases hu

/-- A part of a struct's or an array's value. -/
theorem run_partA {t : TypeId} {n : Nat} {ag : Bool} (hn : szT P t = some n) (hg : aggT P t = some ag) {C : Array Value} {cs : List AV} {off : Nat} {v : AV}
    (hr : RepC w g cs C) (hoff : off + n ≤ cs.length) (hu : unCells ag ((cs.drop off).take n) = some v) : ∃ V, (part t C off).run P w = .ok V w ∧ Rep w g v V := by
  cases ag with
  | true =>
    simp only [unCells, if_true, Option.some.injEq] at hu
    subst hu
    refine ⟨.agg (C.extract off (off + n)), ?_, ?_⟩
    · simp only [part, Sem.run_bind, run_aggT hg, Result.andThen_ok, if_true, run_szT hn, Sem.run_pure]
    · have hl := hr.1.1
      refine Rep.ofAgg (RepC.mk (by simp; omega) fun k x hk => ?_)
      rw [List.getElem?_take] at hk
      split at hk
      · rename_i hkn
        rw [List.getElem?_drop] at hk
        obtain ⟨V, h1, h2⟩ := hr.get hk
        refine ⟨V, ?_, h2⟩
        have hlt : off + k < C.size := by omega
        simp only [Array.getElem?_extract]
        rw [if_pos (by omega)]
        exact h1
      · cases hk
  | false =>
    simp only [unCells, Bool.false_eq_true, if_false] at hu
    split at hu
    · rename_i x hx
      cases hu
      have hk : cs[off]? = some v := by
        have : ((cs.drop off).take n)[0]? = some v := by rw [hx]; rfl
        rw [List.getElem?_take] at this
        split at this
        · simpa using this
        · cases this
      obtain ⟨V, h1, h2, _⟩ := hr.get hk
      refine ⟨V, ?_, h2⟩
      simp only [part, Sem.run_bind, run_aggT hg, Result.andThen_ok, Bool.false_eq_true, if_false, h1]
      rfl
    · cases hu

end
end Go.Am
