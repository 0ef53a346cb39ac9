/- The operations that build, read parts, cut, count. -/
import Derived.Test.YtajmapmledjhjaaAmF
namespace Go.Am
open Go Go.RowKit
section
variable {P : Program} {base : Nat} {W : Nat → Prop} {w : World} {g : G} {h : H}

/-! ### Filling a struct's or an array's cells -/
theorem foldl_set_get (off : Nat) : ∀ (l : List Value) (i : Nat) (Z : Array Value) (k : Nat), off + i + l.length ≤ Z.size →
    ((l.zipIdx i).foldl (fun (cs : Array Value) (p : Value × Nat) => cs.setIfInBounds (off + p.2) p.1) Z)[k]? = if off + i ≤ k ∧ k < off + i + l.length then l[k - (off + i)]? else Z[k]?
  | [], i, Z, k, _ => by
    simp only [List.zipIdx_nil, List.foldl_nil, List.length_nil]
    rw [if_neg (by omega)]
  | v :: l, i, Z, k, hl => by
    simp only [List.length_cons] at hl
    simp only [List.zipIdx_cons, List.foldl_cons]
    rw [foldl_set_get off l (i + 1) _ k (by simp; omega)]
    simp only [List.length_cons, Array.getElem?_setIfInBounds]
    by_cases h1 : k = off + i
    · subst h1
      rw [if_neg (by omega), if_pos rfl, if_pos (by omega), if_pos (by omega)]
      simp
    · by_cases h2 : off + i ≤ k ∧ k < off + i + (l.length + 1)
      · rw [if_pos (by omega), if_pos h2]
        have : k - (off + i) = (k - (off + (i + 1))) + 1 := by omega
        rw [this, List.getElem?_cons_succ]
      · rw [if_neg (by omega), if_neg (by omega), if_neg h2]

theorem foldl_set_size (off : Nat) : ∀ (l : List Value) (i : Nat) (Z : Array Value), ((l.zipIdx i).foldl (fun (cs : Array Value) (p : Value × Nat) => cs.setIfInBounds (off + p.2) p.1) Z).size = Z.size
  | [], i, Z => rfl
  | v :: l, i, Z => by
    simp only [List.zipIdx_cons, List.foldl_cons]
    rw [foldl_set_size off l (i + 1)]
    simp

theorem splice_get {α : Type} (z cs : List α) (off n : Nat) (hn : cs.length = n) (hoff : off + n ≤ z.length) (k : Nat) :
    (z.take off ++ cs ++ z.drop (off + n))[k]? = if off ≤ k ∧ k < off + n then cs[k - off]? else z[k]? := by
  simp only [List.append_assoc, List.getElem?_append, List.length_take, List.getElem?_take, List.getElem?_drop]
  rw [Nat.min_eq_left (by omega)]
  by_cases h1 : k < off
  · rw [if_pos h1, if_pos h1, if_neg (by omega)]
  · rw [if_neg h1]
    by_cases h2 : k < off + n
    · rw [if_pos (by omega), if_pos (by omega)]
    · rw [if_neg (by omega), if_neg (by omega)]
      congr 1
      omega

theorem RepC.splice {z cs : List AV} {Z C : Array Value} {off n : Nat} (hz : RepC w g z Z) (hc : RepC w g cs C) (hn : cs.length = n) (hoff : off + n ≤ z.length) {R : Array Value} (hs : R.size = Z.size)
    (hR : ∀ k, R[k]? = if off ≤ k ∧ k < off + n then C[k - off]? else Z[k]?) : RepC w g (z.take off ++ cs ++ z.drop (off + n)) R := by
  refine RepC.mk ?_ fun k v hk => ?_
  · have := hz.1.1
    simp [hn, hs]; omega
  · rw [splice_get z cs off n hn hoff] at hk
    rw [hR]
    split at hk
    · rename_i hin
      rw [if_pos hin]
      exact hc.get hk
    · rename_i hin
      rw [if_neg hin]
      exact hz.get hk

theorem RepP.splice {z cs : List AV} {Z C : Array Value} {off n : Nat} (hz : RepP w g z Z) (hc : RepC w g cs C) (hn : cs.length = n) (hoff : off + n ≤ z.length) {R : Array Value} (hs : R.size = Z.size)
    (hR : ∀ k, R[k]? = if off ≤ k ∧ k < off + n then C[k - off]? else Z[k]?) : RepP w g (z.take off ++ cs ++ z.drop (off + n)) R := by
  refine ⟨?_, fun k v hk => ?_⟩
  · have := hz.1
    simp [hn, hs]; omega
  · rw [splice_get z cs off n hn hoff] at hk
    rw [hR]
    split at hk
    · rename_i hin
      rw [if_pos hin]
      exact hc.get hk
    · rename_i hin
      rw [if_neg hin]
      exact hz.2 k v hk

theorem fill_rep {N : Nat} {s : Slots} {a : Act} (hr : RepS w g s a.tmps) (place : Nat → Option (Nat × Nat)) :
    ∀ (ps : List (Nat × Operand)) (qs : List (Nat × Nat × Opd)) (z z' : List AV) (Z : Array Value), cParts N place ps = some qs → RepC w g z Z → fillA z (qs.map fun p => (p.1, p.2.1, ev s p.2.2)) = some z' →
      ∃ Z', Instr.fill place Z (ps.map fun (i, x) => (i, a.eval x)) = some Z' ∧ RepC w g z' Z'
  | [], qs, z, z', Z, hq, hz, hf => by
    simp only [cParts, Option.some.injEq] at hq
    subst hq
    simp only [List.map_nil, fillA, Option.some.injEq] at hf
    subst hf
    exact ⟨Z, rfl, hz⟩
  | (i, x) :: ps, qs, z, z', Z, hq, hz, hf => by
    simp only [cParts, Option.bind_eq_some_iff, Option.map_eq_some_iff] at hq
    obtain ⟨⟨off, n⟩, hp, y, hy, ys, hys, rfl⟩ := hq
    simp only [List.map_cons, fillA, Option.bind_eq_some_iff] at hf
    obtain ⟨cs, hcs, hf⟩ := hf
    split at hf
    · rename_i hoff
      obtain ⟨hrep, hlen⟩ := fit_rep hcs (ev_rep hr hy)
      have hsz : (a.eval x).cells.size = n := by rw [← hlen]; exact hrep.1.1.symm
      have hZ := hz.1.1
      obtain ⟨Z', h1, h2⟩ := fill_rep hr place ps ys _ z' _ hys (RepC.splice hz hrep hlen hoff (R := ((a.eval x).cells.toList.zipIdx 0).foldl (fun (cs : Array Value) (p : Value × Nat) => cs.setIfInBounds (off + p.2) p.1) Z)
        (foldl_set_size off _ _ _) (fun k => by
          rw [foldl_set_get off _ 0 Z k (by simp; omega)]
          simp only [Nat.add_zero, Array.length_toList, hsz, Array.getElem?_toList])) hf
      refine ⟨Z', ?_, h2⟩
      simp only [List.map_cons, Instr.fill, hp]
      rw [if_neg (by simp [hsz]; omega)]
      rw [← h1]
      congr 1
      rw [← Array.foldl_toList, Array.toList_zipIdx]
    · cases hf

theorem placesOf_ok : ∀ (fs : List Field) (pl : List (Nat × Nat)), placesOf P fs = some pl → ∀ w : World, (fs.mapM fun f => do pure (f.offset, ← sizeOf f.type) : Sem (List (Nat × Nat))).run P w = .ok pl w
  | [], pl, h, w => by
    simp only [placesOf, Option.some.injEq] at h
    subst h
    simp
  | f :: fs, pl, h, w => by
    simp only [placesOf, Option.bind_eq_some_iff, Option.map_eq_some_iff] at h
    obtain ⟨n, hn, r, hr, rfl⟩ := h
    have ih := placesOf_ok fs r hr w
    simp only [List.mapM_cons, Sem.run_bind, run_szT hn, Result.andThen_ok, Sem.run_pure, ih]

theorem run_buildA {N : Nat} {s : Slots} {a : Act} (hr : RepS w g s a.tmps) {o : Oper} {t : TypeId} {ps : Array (Nat × Operand)} (ho : o.op = .build t ps) {op : IOp} (hc : cOp1 P N o = some op) {v : AV} (hv : pv op (ev s) h = some v) :
    ∃ V, (Instr.build t (ps.map fun (i, x) => (i, a.eval x))).run P w = .ok V w ∧ Rep w g v V := by
  simp only [cOp1, ho, Option.bind_eq_some_iff] at hc
  obtain ⟨z, hz, hc⟩ := hc
  obtain ⟨Z, hZ, hzrep⟩ := run_zeroT hz
  split at hc
  · rename_i fs hu
    simp only [Option.bind_eq_some_iff, Option.map_eq_some_iff] at hc
    obtain ⟨pl, hpl, qs, hqs, rfl⟩ := hc
    simp only [pv, Option.map_eq_some_iff] at hv
    obtain ⟨cs, hcs, rfl⟩ := hv
    obtain ⟨Z', h1, h2⟩ := fill_rep hr _ ps.toList qs z cs Z.cells hqs (hzrep w g) hcs
    refine ⟨.agg Z', ?_, .ofAgg h2⟩
    have hm : (fs.mapM fun f => do pure (f.offset, ← sizeOf f.type) : Sem (Array (Nat × Nat))).run P w = .ok pl.toArray w := by
      have := placesOf_ok (P := P) fs.toList pl hpl w
      rw [Array.mapM_eq_mapM_toList, Sem.run_map, this]
      rfl
    simp only [Instr.build, Sem.run_bind, hZ, Result.andThen_ok, run_underlying hu, hm]
    have e : (fun (x : Nat) => pl.toArray[x]?) = (fun (x : Nat) => pl[x]?) := by funext x; simp
    simp only [e, Array.toList_map, h1]
    rfl
  · rename_i m e hu
    simp only [Option.bind_eq_some_iff, Option.map_eq_some_iff] at hc
    obtain ⟨n, hn, qs, hqs, rfl⟩ := hc
    simp only [pv, Option.map_eq_some_iff] at hv
    obtain ⟨cs, hcs, rfl⟩ := hv
    obtain ⟨Z', h1, h2⟩ := fill_rep hr _ ps.toList qs z cs Z.cells hqs (hzrep w g) hcs
    refine ⟨.agg Z', ?_, .ofAgg h2⟩
    simp only [Instr.build, Sem.run_bind, hZ, Result.andThen_ok, run_underlying hu, run_szT hn, Array.toList_map, h1]
    rfl
  · cases hc

/-! ### Slice literals -/
theorem flatten_get {z : Nat} : ∀ {es : List (List AV)}, (∀ e ∈ es, e.length = z) → ∀ (i j : Nat), j < z → es.flatten[i * z + j]? = (es[i]?).bind fun e => e[j]?
  | [], _, i, j, _ => by simp
  | e :: es, h, i, j, hj => by
    have he := h e (by simp)
    cases i with
    | zero => simp only [Nat.zero_mul, Nat.zero_add, List.flatten_cons, List.getElem?_cons_zero, Option.bind_some]; rw [List.getElem?_append_left (by omega)]
    | succ i =>
      have ih := flatten_get (es := es) (fun e he => h e (List.mem_cons_of_mem _ he)) i j hj
      rw [List.flatten_cons, List.getElem?_append_right (by rw [he, Nat.add_mul]; omega), List.getElem?_cons_succ, ← ih]
      congr 1
      rw [he, Nat.add_mul]; omega

theorem flatten_len {z : Nat} : ∀ {es : List (List AV)}, (∀ e ∈ es, e.length = z) → es.flatten.length = es.length * z
  | [], _ => by simp
  | e :: es, h => by
    have he := h e (by simp)
    have ih := flatten_len (fun e he => h e (by simp [he])) (es := es)
    simp only [List.flatten_cons, List.length_append, he, ih, List.length_cons, Nat.add_mul]
    omega

theorem rowA_len {n : Nat} : ∀ {vs : List AV} {es : List (List AV)}, rowA n vs = some es → es.length = vs.length
  | [], es, h => by simp [rowA] at h; subst h; rfl
  | v :: vs, es, h => by
    simp only [rowA, Option.bind_eq_some_iff, Option.map_eq_some_iff] at h
    obtain ⟨cs, _, es', he, rfl⟩ := h
    simp [rowA_len he]

/-- Parts in their turn fill the row from its head. -/
theorem fill_row {N n : Nat} {s : Slots} {a : Act} (hr : RepS w g s a.tmps) (hn : 0 < n) :
    ∀ (ps : List (Nat × Operand)) (k : Nat) (xs : List Opd) (es : List (List AV)) (done : List AV) (Z : Array Value), cRow N k ps = some xs → rowA n (xs.map (ev s)) = some es →
      done.length = k * n → Z.size = (k + ps.length) * n → (∀ (j : Nat) (v : AV), done[j]? = some v → ∃ V : Value, Z[j]? = some V ∧ Rep w g v V ∧ ok1 v = true) →
      ∃ Z', Instr.fill (fun i => some (i * n, n)) Z (ps.map fun (i, x) => (i, a.eval x)) = some Z' ∧ RepC w g (done ++ es.flatten) Z' ∧ (∀ e ∈ es, e.length = n)
  | [], k, xs, es, done, Z, hx, he, hd, hZ, hr' => by
    simp only [cRow, Option.some.injEq] at hx
    subst hx
    simp only [List.map_nil, rowA, Option.some.injEq] at he
    subst he
    refine ⟨Z, rfl, ?_, by simp⟩
    simp only [List.flatten_nil, List.append_nil]
    exact RepC.mk (by simpa [hd] using hZ.symm) hr'
  | (i, x) :: ps, k, xs, es, done, Z, hx, he, hd, hZ, hr' => by
    simp only [cRow] at hx
    split at hx
    · rename_i hik
      subst hik
      simp only [Option.bind_eq_some_iff, Option.map_eq_some_iff] at hx
      obtain ⟨y, hy, ys, hys, rfl⟩ := hx
      simp only [List.map_cons, rowA, Option.bind_eq_some_iff, Option.map_eq_some_iff] at he
      obtain ⟨cs, hcs, es', hes', rfl⟩ := he
      obtain ⟨hrep, hlen⟩ := fit_rep hcs (ev_rep hr hy)
      have hsz : (a.eval x).cells.size = n := by rw [← hlen]; exact hrep.1.1.symm
      simp only [List.length_cons] at hZ
      have hZ' : i * n + n ≤ Z.size := by
        rw [hZ]
        have : (i + (ps.length + 1)) * n = i * n + n + ps.length * n := by rw [Nat.add_mul, Nat.add_mul]; omega
        omega
      let Z1 := ((a.eval x).cells.toList.zipIdx 0).foldl (fun (cs : Array Value) (p : Value × Nat) => cs.setIfInBounds (i * n + p.2) p.1) Z
      have hZ1s : Z1.size = Z.size := foldl_set_size (i * n) _ _ _
      have hZ1g : ∀ k, Z1[k]? = if i * n ≤ k ∧ k < i * n + n then (a.eval x).cells[k - i * n]? else Z[k]? := fun k => by
        show (((a.eval x).cells.toList.zipIdx 0).foldl _ Z)[k]? = _
        rw [foldl_set_get (i * n) _ 0 Z k (by simp; omega)]
        simp only [Nat.add_zero, Array.length_toList, hsz, Array.getElem?_toList]
      obtain ⟨Z', h1, h2, h3⟩ := fill_row hr hn ps (i + 1) ys es' (done ++ cs) Z1 hys hes' (by rw [List.length_append, hd, hlen, Nat.add_mul]; omega) (by rw [hZ1s, hZ]; congr 1; omega) (fun j v hj => by
        rw [hZ1g]
        rw [List.getElem?_append] at hj
        split at hj
        · rename_i hlt
          rw [if_neg (by omega)]
          exact hr' j v hj
        · rename_i hlt
          have hjl : j - done.length < cs.length := (List.getElem?_eq_some_iff.1 hj).1
          rw [if_pos (by omega)]
          rw [hd] at hj
          exact hrep.get hj)
      refine ⟨Z', ?_, by simpa [List.append_assoc] using h2, fun e he => ?_⟩
      · simp only [List.map_cons, Instr.fill]
        rw [if_neg (by simp [hsz]; omega)]
        rw [← h1]
        congr 1
        show _ = ((a.eval x).cells.toList.zipIdx 0).foldl _ Z
        rw [← Array.foldl_toList, Array.toList_zipIdx]
      · rcases List.mem_cons.1 he with rfl | he
        · exact hlen
        · exact h3 e he
    · cases hx

/-- A row that only is read: the slice over it. -/
theorem Rep.ofRow {es : List (List AV)} {B z cap : Nat} {t : Tok} (h0 : 0 < z) (hz : ∀ e ∈ es, e.length = z) (hc : es.length ≤ cap)
    (hro : es.length * z ≤ g.ro B) (hcell : ∀ (k : Nat) (v : AV), es.flatten[k]? = some v → ∃ V : Value, w.cell? ⟨B, k, none⟩ = some V ∧ Rep w g v V ∧ ok1 v = true)
    (ht : TokAt g t (some ⟨B, 0, none⟩) z es.length cap) : Rep w g (.sl t es) (.slice (some ⟨B, 0, none⟩) es.length cap) := by
  have hl := flatten_len hz
  refine .sl t es _ cap z (fun k => (w.cell? ⟨B, k, none⟩).getD Go.undef) ⟨h0, hz⟩ hc (fun k hk => ?_) (fun k hk => ?_) (fun k hk => ?_) ht
  · obtain ⟨V, h1, _⟩ := hcell k _ (List.getElem?_eq_getElem hk)
    exact ⟨B, 0, rfl, by omega, by simp [h1]⟩
  · obtain ⟨V, h1, h2, _⟩ := hcell k _ (List.getElem?_eq_getElem hk)
    simpa [h1] using h2
  · obtain ⟨V, h1, _, h3⟩ := hcell k _ (List.getElem?_eq_getElem hk)
    exact h3

theorem run_bslA {N : Nat} {s : Slots} {a : Act} (hs : Sim P base W w g h) (hr : RepS w g s a.tmps) {o : Oper} {t : TypeId} {len : Nat} {ps : Array (Nat × Operand)} (ho : o.op = .buildSlice t len ps) {op : IOp} (hc : cOp1 P N o = some op) {v : AV} (hv : pv op (ev s) h = some v) :
    ∃ V w' g', (Instr.buildSlice t len (ps.map fun (i, x) => (i, a.eval x))).run P w = .ok V w' ∧ Rep w' g' v V ∧ Sim P base W w' g' h ∧ Ext base W w g w' g' := by
  simp only [cOp1, ho] at hc
  split at hc
  · rename_i e hu
    simp only [Option.bind_eq_some_iff] at hc
    obtain ⟨n, hn, z, hz, xs, hxs, hc⟩ := hc
    split at hc
    · rename_i hcond
      obtain ⟨hxl, hn0, hzl, hsm⟩ := hcond
      cases hc
      simp only [pv, Option.map_eq_some_iff] at hv
      obtain ⟨es, hes, rfl⟩ := hv
      obtain ⟨Z, hZ, hzrep⟩ := run_zeroT hz
      have hmap : ((List.range len).zip xs).map (fun p => ev s p.2) = xs.map (ev s) := by
        have h1 : ((List.range len).zip xs).map (fun p => ev s p.2) = (((List.range len).zip xs).map (·.2)).map (ev s) := by simp [List.map_map]
        rw [h1]
        congr 1
        rw [List.map_snd_zip]
        simp [hxl]
      rw [hmap] at hes
      have hzs : Z.cells.size = n := by have := (hzrep w g).1.1; omega
      have hpsl : ps.toList.length = len := by
        have key : ∀ (ps : List (Nat × Operand)) (k : Nat) (xs : List Opd), cRow N k ps = some xs → xs.length = ps.length := by
          intro ps
          induction ps with
          | nil => intro k xs h; simp [cRow] at h; subst h; rfl
          | cons p ps ih =>
            intro k xs h
            obtain ⟨i, x⟩ := p
            simp only [cRow] at h
            split at h
            · simp only [Option.bind_eq_some_iff, Option.map_eq_some_iff] at h
              obtain ⟨y, _, ys, hys, rfl⟩ := h
              simp [ih _ _ hys]
            · cases h
        rw [← hxl, key _ _ _ hxs]
      let Z0 : Array Value := (Array.range (len * n)).map (fun i => Z.cells[i % Z.cells.size]!)
      obtain ⟨Z', h1, h2, h3⟩ := fill_row hr hn0 ps.toList 0 xs es [] Z0 hxs hes (by simp) (by simp [Z0, ← hpsl]) (by simp)
      simp only [List.nil_append] at h2
      have hesl : es.length = len := by rw [rowA_len hes]; simp [hxl]
      obtain ⟨hS, hE⟩ := hs.allocRO (.cells Z' e) (len * n)
      refine ⟨.slice (some ⟨w.heap.size, 0, none⟩) len len, w.alloc (.cells Z' e), g.addRO w.heap.size (len * n), ?_, ?_, hS, hE⟩
      · by_cases h0 : len * n = 0
        · have hZ0 : Z0 = (Array.range (len * n)).map fun i => (#[] : Array Value)[i % (#[] : Array Value).size]! := by simp [Z0, h0]
          rw [hZ0] at h1
          have hlt : ¬ len * n > 2 ^ 24 := by omega
          have hrun : (if len * n = 0 then pure #[] else do pure (← zeroValue e).cells : Sem (Array Value)) = pure #[] := if_pos h0
          simp only [Instr.buildSlice, Sem.run_bind, run_underlying hu, Result.andThen_ok, run_szT hn, if_neg hlt, if_pos h0, Sem.run_pure, Array.toList_map, h1]
          simp [newRow]
        · simp only [Instr.buildSlice, Sem.run_bind, run_underlying hu, Result.andThen_ok, run_szT hn, if_neg (show ¬ len * n > 2 ^ 24 by omega), if_neg h0, hZ, Sem.run_pure, Array.toList_map]
          show (Sem.run P (match Instr.fill (fun i => some (i * n, n)) Z0 _ with | some cells => _ | x => _) w) = _
          rw [h1]
          simp [newRow]
      · rw [← hesl]
        have hl := flatten_len h3
        refine Rep.ofRow (z := n) hn0 h3 (Nat.le_refl _) ?_ (fun k v hk => ?_) rfl
        · show _ ≤ (if w.heap.size = w.heap.size then _ else _)
          rw [if_pos rfl, hesl]; exact Nat.le_refl _
        · obtain ⟨V, q1, q2, q3⟩ := h2.get hk
          exact ⟨V, by rw [cell_at alloc_new]; exact q1, by rw [hesl]; exact q2.mono hE.toGExt, q3⟩
    · cases hc
  · cases hc

end
end Go.Am
