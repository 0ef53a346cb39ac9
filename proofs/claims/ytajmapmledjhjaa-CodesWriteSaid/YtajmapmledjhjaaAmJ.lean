/- What an operation of the program does is what the abstract machine says: all that leave the machine's state as it is. -/
import Derived.Test.YtajmapmledjhjaaAmI
namespace Go.Am
open Go Go.RowKit
section
variable {P : Program} {base : Nat} {W : Nat → Prop} {w : World} {g : G} {h : H}

theorem bytesOfA_get : ∀ {es : List (List AV)} {bs : List Int}, bytesOfA es = some bs → bs.length = es.length ∧ ∀ i, i < es.length → es[i]? = some [.int .u8 (bs.getD i 0)]
  | [], bs, h => by
    simp only [bytesOfA, Option.some.injEq] at h
    subst h
    exact ⟨rfl, fun i hi => by simp at hi⟩
  | e :: es, bs, h => by
    simp only [bytesOfA, Option.bind_eq_some_iff, Option.map_eq_some_iff] at h
    obtain ⟨b, hb, bs', hbs, rfl⟩ := h
    obtain ⟨h1, h2⟩ := bytesOfA_get hbs
    refine ⟨by simp [h1], fun i hi => ?_⟩
    cases i with
    | zero =>
      unfold byteOfA at hb
      split at hb
      · cases hb; rfl
      · cases hb
    | succ i => simpa using h2 i (by simpa using hi)

theorem run_b2sA {s d e' : TypeId} (hs : P.underlying s = some (.slice e')) (he : P.underlying e' = some (.int .u8)) (hd : P.underlying d = some .string) {x v : AV} {X : Value} (hx : Rep w g x X)
    {e : Opd → AV} {o : Opd} (ho : e o = x) (hv : pv (.b2s o) e h = some v) : ∃ V, (convert s d X).run P w = .ok V w ∧ Rep w g v V := by
  simp only [pv, ho] at hv
  split at hv
  · rename_i tk es
    simp only [Option.map_eq_some_iff] at hv
    obtain ⟨bs, hbs, rfl⟩ := hv
    obtain ⟨A, cap, z, Vs, rfl, hz0, hz, hcap, hro, hrep, hok, htok⟩ := hx.sl_inv
    obtain ⟨hl, hget⟩ := bytesOfA_get hbs
    refine ⟨.string (strOfNums bs), ?_, .str _⟩
    by_cases h0 : es.length = 0
    · have hes : es = [] := List.eq_nil_of_length_eq_zero h0
      subst hes
      have hbs0 : bs = [] := List.eq_nil_of_length_eq_zero (by simpa using hl)
      subst hbs0
      rcases A with _ | ⟨B, off, sp⟩
      · exact run_convert_bytes_nil w s e' hs he _ _ d hd
      · simp only [convert, Sem.run_bind, run_underlying hs, run_underlying hd, Result.andThen_ok, run_underlying he, Conv.bytesToString]
        simp only [List.length_nil, loadCells, loadCellsFrom, Sem.run_pure, Result.andThen_ok]
        rfl
    · have hz1 : z = 1 := by
        have h1 := hget 0 (by omega)
        obtain ⟨hlt, he1⟩ := List.getElem?_eq_some_iff.1 h1
        have := hz _ (List.getElem_mem hlt)
        rw [he1] at this
        simpa using this.symm
      subst hz1
      have hcell : ∀ i, i < es.length → ∃ hk : i < es.flatten.length, es.flatten[i] = .int .u8 (bs.getD i 0) := fun i hi => by
        obtain ⟨p1, p2, p3⟩ := flat_at hz hi (show 0 < 1 by omega)
        simp only [Nat.mul_one, Nat.add_zero] at p1 p3
        refine ⟨p1, ?_⟩
        rw [p3]
        obtain ⟨hlt, he1⟩ := List.getElem?_eq_some_iff.1 (hget i hi)
        simp only [he1, List.getElem_cons_zero]
      obtain ⟨hk0, _⟩ := hcell 0 (by omega)
      obtain ⟨B, off, rfl, _, _⟩ := hro 0 hk0
      refine run_convert_bytes_arg w s e' hs he B off es.length cap bs hl (fun i hi => ?_) d hd
      obtain ⟨hk, he1⟩ := hcell i hi
      obtain ⟨B', off', hA, _, hc⟩ := hro i hk
      cases hA
      have := hrep i hk
      rw [he1] at this
      rw [hc, this.int_inv]
  · cases hv

theorem run_minA : ∀ {x : AV} {xs : List AV} {v : AV} {X : Value} {Xs : List Value}, foldA minA x xs = some v → Rep w g x X → (hl : xs.length = Xs.length) → (∀ k (hk : k < xs.length), Rep w g xs[k] Xs[k]) →
    ∃ V, (Xs.foldlM Builtin.min2 X).run P w = .ok V w ∧ Rep w g v V
  | x, [], v, X, [], h, hx, _, _ => by
    simp only [foldA, Option.some.injEq] at h
    subst h
    exact ⟨X, rfl, hx⟩
  | x, y :: ys, v, X, Y :: Ys, h, hx, hl, hr => by
    simp only [foldA, Option.bind_eq_some_iff] at h
    obtain ⟨z, hz, h⟩ := h
    have hy : Rep w g y Y := hr 0 (by simp)
    unfold minA at hz
    split at hz
    · cases hz
      obtain rfl := hx.int_inv
      obtain rfl := hy.int_inv
      rename_i k a k' b
      obtain ⟨V, h1, h2⟩ := run_minA (Xs := Ys) h (.int k (if b < a then b else a)) (by simpa using hl) (fun i hi => hr (i + 1) (by simpa using hi))
      exact ⟨V, by simp only [List.foldlM_cons, Builtin.min2, Sem.run_bind, Sem.run_pure, Result.andThen_ok, h1], h2⟩
    · cases hz

theorem run_maxA : ∀ {x : AV} {xs : List AV} {v : AV} {X : Value} {Xs : List Value}, foldA maxA x xs = some v → Rep w g x X → (hl : xs.length = Xs.length) → (∀ k (hk : k < xs.length), Rep w g xs[k] Xs[k]) →
    ∃ V, (Xs.foldlM Builtin.max2 X).run P w = .ok V w ∧ Rep w g v V
  | x, [], v, X, [], h, hx, _, _ => by
    simp only [foldA, Option.some.injEq] at h
    subst h
    exact ⟨X, rfl, hx⟩
  | x, y :: ys, v, X, Y :: Ys, h, hx, hl, hr => by
    simp only [foldA, Option.bind_eq_some_iff] at h
    obtain ⟨z, hz, h⟩ := h
    have hy : Rep w g y Y := hr 0 (by simp)
    unfold maxA at hz
    split at hz
    · cases hz
      obtain rfl := hx.int_inv
      obtain rfl := hy.int_inv
      rename_i k a k' b
      obtain ⟨V, h1, h2⟩ := run_maxA (Xs := Ys) h (.int k (if a < b then b else a)) (by simpa using hl) (fun i hi => hr (i + 1) (by simpa using hi))
      exact ⟨V, by simp only [List.foldlM_cons, Builtin.max2, Sem.run_bind, Sem.run_pure, Result.andThen_ok, gt_iff_lt, h1], h2⟩
    · cases hz

/-! ### All of them -/
theorem run_value {P : Program} {w : World} {x : Sem Value} {V : Value} {w' : World} (h : x.run P w = .ok V w') : (do pure (.value (← x)) : Sem Next).run P w = .ok (.value V) w' := by
  simp only [Sem.run_bind, h, Result.andThen_ok, Sem.run_pure]

abbrev Done (P : Program) (base : Nat) (W : Nat → Prop) (w : World) (g : G) (h' : H) (v : AV) (r : Result Next) : Prop :=
  ∃ V w' g', r = .ok (.value V) w' ∧ Rep w' g' v V ∧ Sim P base W w' g' h' ∧ Ext base W w g w' g'

theorem Done.same {h : H} {v : AV} {r : Result Next} (hs : Sim P base W w g h) (hh : ∃ V, r = .ok (.value V) w ∧ Rep w g v V) : Done P base W w g h v r :=
  let ⟨V, h1, h2⟩ := hh
  ⟨V, w, g, h1, h2, hs, Ext.refl base W w g⟩

set_option maxHeartbeats 1000000 in
theorem pv_sound {N : Nat} {s : Slots} {a : Act} (hs : Sim P base W w g h) (hr : RepS w g s a.tmps) {o : Oper} {op : IOp} (hc : cOp1 P N o = some op) {v : AV} (hv : pv op (ev s) h = some v) :
    Done P base W w g h v ((execOp a.eval o).run P w) := by
  have ho : o.op = o.op := rfl
  cases hop : o.op with
  | move x =>
    refine Done.same hs ?_
    simp only [cOp1, hop, Option.map_eq_some_iff] at hc
    obtain ⟨y, hy, rfl⟩ := hc
    simp only [pv, Option.some.injEq] at hv
    subst hv
    exact ⟨_, by simp only [execOp, hop, Sem.run_pure], ev_rep hr hy⟩
  | assign x =>
    refine Done.same hs ?_
    simp only [cOp1, hop, Option.map_eq_some_iff] at hc
    obtain ⟨y, hy, rfl⟩ := hc
    simp only [pv, Option.some.injEq] at hv
    subst hv
    exact ⟨_, by simp only [execOp, hop, Sem.run_pure], ev_rep hr hy⟩
  | pick c x y =>
    refine Done.same hs ?_
    simp only [cOp1, hop, Option.map_eq_some_iff, Option.bind_eq_some_iff] at hc
    obtain ⟨c', hc', x', hx', y', hy', rfl⟩ := hc
    simp only [pv] at hv
    split at hv
    · rename_i t ht
      have hb := ev_rep hr hc'
      rw [ht] at hb
      cases hv
      have hb' := hb.bool_inv
      refine ⟨if t then a.eval x else a.eval y, by simp only [execOp, hop, hb', asBool, Sem.run_bind, Sem.run_pure, Result.andThen_ok], ?_⟩
      cases t
      · exact ev_rep hr hy'
      · exact ev_rep hr hx'
    · cases hv
  | alloc t => simp only [cOp1, hop, Option.map_eq_some_iff] at hc; obtain ⟨_, _, rfl⟩ := hc; simp [pv] at hv
  | box t x => simp only [cOp1, hop, Option.map_eq_some_iff] at hc; obtain ⟨_, _, rfl⟩ := hc; simp [pv] at hv
  | build t ps =>
    refine Done.same hs ?_
    obtain ⟨V, h1, h2⟩ := run_buildA (h := h) hr hop hc hv
    exact ⟨V, by simp only [execOp, hop]; exact run_value h1, h2⟩
  | buildSlice t len ps =>
    obtain ⟨V, w', g', h1, h2, h3, h4⟩ := run_bslA hs hr hop hc hv
    exact ⟨V, w', g', by simp only [execOp, hop]; exact run_value h1, h2, h3, h4⟩
  | load t x =>
    refine Done.same hs ?_
    simp only [cOp1, hop, Option.bind_eq_some_iff] at hc
    obtain ⟨y, hy, n, hn, ag, hag, hc⟩ := hc
    split at hc
    · rename_i hor
      cases hc
      obtain ⟨V, h1, h2⟩ := run_loadAtA hn hag hor hs (ev_rep hr hy) rfl hv
      exact ⟨V, by simp only [execOp, hop]; exact run_value h1, h2⟩
    · cases hc
  | store t x y => simp only [cOp1, hop, Option.map_eq_some_iff, Option.bind_eq_some_iff] at hc; obtain ⟨_, _, _, _, _, _, rfl⟩ := hc; simp [pv] at hv
  | nilCheck x =>
    refine Done.same hs ?_
    simp only [cOp1, hop, Option.map_eq_some_iff] at hc
    obtain ⟨y, hy, rfl⟩ := hc
    have hx := ev_rep hr hy
    simp only [pv] at hv
    split at hv
    · rename_i b o' he
      cases hv
      rw [he] at hx
      obtain ⟨_, hX⟩ := hx.ptr_inv
      rw [hX] at hx
      exact ⟨_, by simp only [execOp, hop, hX]; rfl, hx⟩
    · rename_i cs he
      cases hv
      rw [he] at hx
      obtain ⟨a', Vs, hX, _⟩ := hx.rop_inv
      rw [hX] at hx
      exact ⟨_, by simp only [execOp, hop, hX]; rfl, hx⟩
    · rename_i f fi ca he
      cases hv
      rw [he] at hx
      obtain ⟨F, C, hX⟩ : ∃ F C, a.eval x = .func (.func f) F C := by
        generalize a.eval x = X at hx
        cases hx with
        | fn f first caps F C _ _ _ _ => exact ⟨F, C, rfl⟩
      rw [hX] at hx
      exact ⟨_, by simp only [execOp, hop, hX]; rfl, hx⟩
    · rename_i l he
      cases hv
      rw [he] at hx
      obtain ⟨l', hX⟩ : ∃ l', a.eval x = .func (.yield l') #[] #[] := by
        generalize a.eval x = X at hx
        cases hx with
        | yld l _ => exact ⟨_, rfl⟩
      rw [hX] at hx
      exact ⟨_, by simp only [execOp, hop, hX]; rfl, hx⟩
    · cases hv
  | binOp op' t x y yt =>
    refine Done.same hs ?_
    simp only [cOp1, hop, Option.bind_eq_some_iff] at hc
    obtain ⟨x', hx', y', hy', hc⟩ := hc
    have hX := ev_rep hr hx'
    have hY := ev_rep hr hy'
    have hb : ∀ {op : IOp}, op = .bin op' x' y' → pv op (ev s) h = some v → ∃ V, (execOp a.eval o).run P w = .ok (.value V) w ∧ Rep w g v V := fun hop' hv => by
      subst hop'
      obtain ⟨V, h1, h2⟩ := run_binA (P := P) hv hX hY t x y
      exact ⟨V, by simp only [execOp, hop]; exact run_value h1, h2⟩
    have he : ∀ {op : IOp} (hu : ∀ u, P.underlying t = some u → (∃ fs, u = .struct fs) ∨ (∃ n e, u = .array n e) ∨ u = .bool), ((flat P 60 t).bind fun n => (aggT P t).bind fun ag => if P.eqGuardType P.depth t then none else match op' with
        | .eql => some (IOp.eq n ag false x' y')
        | .neq => some (.eq n ag true x' y')
        | _ => none) = some op → pv op (ev s) h = some v → ∃ V, (execOp a.eval o).run P w = .ok (.value V) w ∧ Rep w g v V := fun hu hc hv => by
      simp only [Option.bind_eq_some_iff] at hc
      obtain ⟨ks, hks, ag, hag, hc⟩ := hc
      split at hc
      · cases hc
      · rename_i hgd
        have hgd' : P.eqGuardType P.depth t = false := by simpa using hgd
        split at hc
        · cases hc
          simp only [pv, Option.map_eq_some_iff] at hv
          obtain ⟨b, hbb, rfl⟩ := hv
          obtain ⟨V, h1, h2⟩ := run_eqA (neg := false) hks hag hgd' hX hY hbb hu x y
          exact ⟨V, by simp only [execOp, hop]; exact run_value h1, h2⟩
        · cases hc
          simp only [pv, Option.map_eq_some_iff] at hv
          obtain ⟨b, hbb, rfl⟩ := hv
          obtain ⟨V, h1, h2⟩ := run_eqA (neg := true) hks hag hgd' hX hY hbb hu x y
          exact ⟨V, by simp only [execOp, hop]; exact run_value h1, h2⟩
        · cases hc
    split at hc
    · cases hc; exact hb rfl hv
    · cases hc; exact hb rfl hv
    · rename_i hu
      exact he (fun u h' => by rw [hu] at h'; cases h'; exact .inr (.inr rfl)) hc hv
    · rename_i fs hu
      exact he (fun u h' => by rw [hu] at h'; cases h'; exact .inl ⟨_, rfl⟩) hc hv
    · rename_i n e hu
      exact he (fun u h' => by rw [hu] at h'; cases h'; exact .inr (.inl ⟨_, _, rfl⟩)) hc hv
    · rename_i e hu
      split at hc
      · cases hc
        obtain ⟨V, h1, h2⟩ := run_isnil (P := P) (neg := false) hu hX hv x y
        exact ⟨V, by simp only [execOp, hop, nil_eval a hy']; exact run_value h1, h2⟩
      · cases hc
        obtain ⟨V, h1, h2⟩ := run_isnil (P := P) (neg := true) hu hX hv x y
        exact ⟨V, by simp only [execOp, hop, nil_eval a hy']; exact run_value h1, h2⟩
      · cases hc
    · cases hc
  | unOp op' t x =>
    refine Done.same hs ?_
    simp only [cOp1, hop, Option.map_eq_some_iff] at hc
    obtain ⟨y, hy, rfl⟩ := hc
    obtain ⟨V, h1, h2⟩ := run_unA (P := P) hv (ev_rep hr hy)
    exact ⟨V, by simp only [execOp, hop]; exact run_value h1, h2⟩
  | convert sT d x =>
    refine Done.same hs ?_
    simp only [cOp1, hop, Option.bind_eq_some_iff] at hc
    obtain ⟨y, hy, hc⟩ := hc
    have hX := ev_rep hr hy
    split at hc
    · rename_i k' k hsu hdu
      cases hc
      simp only [pv] at hv
      split at hv
      · rename_i k2 n he
        cases hv
        rw [he] at hX
        refine ⟨.int k (k.wrap n), ?_, .int _ _⟩
        simp only [execOp, hop, hX.int_inv]
        exact run_value (by simp [convert, run_underlying hsu, run_underlying hdu, Conv.intToInt])
      · cases hv
    · rename_i e' hsu hdu
      split at hc
      · rename_i heu
        cases hc
        obtain ⟨V, h1, h2⟩ := run_b2sA (h := h) hsu heu hdu hX rfl hv
        exact ⟨V, by simp only [execOp, hop]; exact run_value h1, h2⟩
      · cases hc
    · cases hc
  | fieldAddr sT x f =>
    refine Done.same hs ?_
    simp only [cOp1, hop] at hc
    split at hc
    · rename_i fs hu
      simp only [Option.bind_eq_some_iff] at hc
      obtain ⟨fd, hfd, n, hn, hc⟩ := hc
      split at hc
      · cases hc
      · rename_i hn0
        simp only [Option.map_eq_some_iff] at hc
        obtain ⟨y, hy, rfl⟩ := hc
        obtain ⟨V, h1, h2⟩ := run_faddrA hu hfd hn hn0 (ev_rep hr hy) rfl hv
        exact ⟨V, by simp only [execOp, hop]; exact run_value h1, h2⟩
    · cases hc
  | field sT x f =>
    refine Done.same hs ?_
    simp only [cOp1, hop] at hc
    split at hc
    · rename_i fs hu
      simp only [Option.bind_eq_some_iff] at hc
      obtain ⟨fd, hfd, n, hn, ag, hag, hc⟩ := hc
      split at hc
      · rename_i hor
        simp only [Option.map_eq_some_iff] at hc
        obtain ⟨y, hy, rfl⟩ := hc
        obtain ⟨V, h1, h2⟩ := run_fldA hu hfd hn hag (ev_rep hr hy) rfl hv
        exact ⟨V, by simp only [execOp, hop]; exact run_value h1, h2⟩
      · cases hc
    · cases hc
  | indexAddr t x i =>
    refine Done.same hs ?_
    simp only [cOp1, hop, Option.bind_eq_some_iff] at hc
    obtain ⟨x', hx', i', hi', hc⟩ := hc
    split at hc
    · rename_i len e' hu
      simp only [Option.map_eq_some_iff] at hc
      obtain ⟨n, hn, rfl⟩ := hc
      obtain ⟨V, h1, h2⟩ := run_iaddrAA hu hn (ev_rep hr hx') (ev_rep hr hi') rfl rfl hv
      exact ⟨V, by simp only [execOp, hop]; exact run_value h1, h2⟩
    · rename_i e' hu
      simp only [Option.map_eq_some_iff] at hc
      obtain ⟨n, hn, rfl⟩ := hc
      obtain ⟨V, h1, h2⟩ := run_iaddrA hu hn (ev_rep hr hx') (ev_rep hr hi') rfl rfl hv
      exact ⟨V, by simp only [execOp, hop]; exact run_value h1, h2⟩
    · cases hc
  | index t x i =>
    refine Done.same hs ?_
    simp only [cOp1, hop, Option.bind_eq_some_iff] at hc
    obtain ⟨x', hx', i', hi', hc⟩ := hc
    split at hc
    · rename_i len e' hu
      simp only [Option.bind_eq_some_iff] at hc
      obtain ⟨n, hn, ag, hag, hc⟩ := hc
      split at hc
      · cases hc
        obtain ⟨V, h1, h2⟩ := run_idxAA hu hn hag (ev_rep hr hx') (ev_rep hr hi') rfl rfl hv
        exact ⟨V, by simp only [execOp, hop]; exact run_value h1, h2⟩
      · cases hc
    · rename_i hu
      cases hc
      obtain ⟨V, h1, h2⟩ := run_idxSA hu (ev_rep hr hx') (ev_rep hr hi') rfl rfl hv
      exact ⟨V, by simp only [execOp, hop]; exact run_value h1, h2⟩
    · cases hc
  | slice t x lo hi mx =>
    refine Done.same hs ?_
    simp only [cOp1, hop, Option.bind_eq_some_iff] at hc
    obtain ⟨x', hx', lo', hlo', hi', hhi', mx', hmx', hc⟩ := hc
    split at hc
    · rename_i e' hu
      simp only [Option.map_eq_some_iff] at hc
      obtain ⟨n, hn, rfl⟩ := hc
      obtain ⟨V, h1, h2⟩ := run_sliceA hu hn (ev_rep hr hx') rfl (evO_rep hr hlo') (evO_rep hr hhi') (evO_rep hr hmx') hv
      exact ⟨V, by simp only [execOp, hop]; exact run_value h1, h2⟩
    · rename_i hu
      split at hc
      · cases hc
      · rename_i hmn
        cases hc
        have hmx0 : mx = none := by
          cases mx with
          | none => rfl
          | some q =>
            simp only [cOpdO, Option.map_eq_some_iff] at hmx'
            obtain ⟨z, _, rfl⟩ := hmx'
            simp at hmn
        subst hmx0
        obtain ⟨V, h1, h2⟩ := run_sliceSA hu (ev_rep hr hx') rfl (evO_rep hr hlo') (evO_rep hr hhi') hv
        exact ⟨V, by simp only [execOp, hop]; exact run_value h1, h2⟩
    · cases hc
  | extract x n =>
    refine Done.same hs ?_
    simp only [cOp1, hop, Option.map_eq_some_iff] at hc
    obtain ⟨y, hy, rfl⟩ := hc
    have hX := ev_rep hr hy
    simp only [pv] at hv
    split at hv
    · rename_i vs he
      rw [he] at hX
      obtain ⟨C, hXe, hC⟩ := hX.tup_inv
      obtain ⟨hlt, rfl⟩ := List.getElem?_eq_some_iff.1 hv
      have hlt' : n < C.size := by rw [← hC.1]; exact hlt
      refine ⟨C[n], ?_, hC.2 n hlt⟩
      simp only [execOp, hop, hXe]
      exact run_value (by simp [Instr.extract, hlt'])
    · cases hv
  | makeFunc fn first caps =>
    refine Done.same hs ?_
    cases fn with
    | func f =>
      simp only [cOp1, hop, Option.bind_eq_some_iff, Option.map_eq_some_iff] at hc
      obtain ⟨fi, hfi, ca, hca, rfl⟩ := hc
      simp only [pv, Option.some.injEq] at hv
      subst hv
      obtain ⟨h1, h2⟩ := evs_repA hr hfi
      obtain ⟨h3, h4⟩ := evs_repA hr hca
      exact ⟨.func (.func f) (first.map a.eval) (caps.map a.eval), by simp only [execOp, hop]; exact run_value rfl, .fn f _ _ _ _ h1 h3 h2 h4⟩
    | method n => simp [cOp1, hop] at hc
    | methodOf t n => simp [cOp1, hop] at hc
    | via t p f q => simp [cOp1, hop] at hc
    | yield l => simp [cOp1, hop] at hc
  | makeSlice t l c =>
    simp only [cOp1, hop] at hc
    split at hc
    · simp only [Option.bind_eq_some_iff] at hc
      obtain ⟨_, _, _, _, _, _, _, _, _, _, hc⟩ := hc
      split at hc
      · cases hc; simp [pv] at hv
      · cases hc
    · cases hc
  | call c =>
    refine Done.same hs ?_
    obtain ⟨callee, args, argTypes⟩ := c
    cases callee with
    | value f =>
      simp only [cOp1, hop, Option.bind_eq_some_iff, Option.map_eq_some_iff] at hc
      obtain ⟨_, _, _, _, rfl⟩ := hc
      simp [pv] at hv
    | invoke r m => simp [cOp1, hop] at hc
    | builtin b =>
      have hexec : ∀ {S : Sem Value} {V : Value}, (∀ cs, builtin b argTypes o.type cs (args.map a.eval) = (do pure (.value (← S)) : Sem Next)) → S.run P w = .ok V w → (execOp a.eval o).run P w = .ok (.value V) w := fun {S V} h1 h2 => by
        simp only [execOp, hop, resolve, Sem.run_bind, Sem.run_pure, Result.andThen_ok, invoke]
        rw [h1]
        exact run_value h2
      cases b with
      | len =>
        simp only [cOp1, hop, Option.bind_eq_some_iff] at hc
        obtain ⟨t, ht, x, hx, y, hy, hc⟩ := hc
        have hX := ev_rep hr hy
        have hax : (args.map a.eval)[0]? = some (a.eval x) := by simp [hx]
        have hrun : ∀ {V : Value}, (match P.underlying t, a.eval x with
            | some .string, .string s => V = goInt s.size
            | some (.array n _), _ => V = goInt n
            | some (.pointer arr), _ => ∃ n e, P.underlying arr = some (.array n e) ∧ V = goInt n
            | some (.slice _), .slice _ n _ => V = goInt n
            | _, _ => False) → (Builtin.len_ argTypes o.type (args.map a.eval)).run P w = .ok V w := fun {V} hm => by
          simp only [Builtin.len_, ht, hax]
          split at hm
          · rename_i s hu hv'; subst hm; simp [run_underlying hu, hv']
          · rename_i n e hu; subst hm; simp [run_underlying hu]
          · rename_i arr hu; obtain ⟨n, e, hu', rfl⟩ := hm; simp [run_underlying hu, run_underlying hu']
          · rename_i e A n c hu hv'; subst hm; simp [run_underlying hu, hv']
          · exact hm.elim
        split at hc
        · rename_i hu
          cases hc
          simp only [pv] at hv
          split at hv
          · rename_i z he
            cases hv
            rw [he] at hX
            exact ⟨goInt z.size, hexec (fun _ => rfl) (hrun (by simp only [hu, hX.str_inv])), .int _ _⟩
          · cases hv
        · rename_i e hu
          cases hc
          simp only [pv] at hv
          split at hv
          · rename_i tk es he
            cases hv
            rw [he] at hX
            obtain ⟨A, cap, z, Vs, hXe, _⟩ := hX.sl_inv
            exact ⟨goInt es.length, hexec (fun _ => rfl) (hrun (by simp only [hu, hXe])), .int _ _⟩
          · rename_i b z off n he
            cases hv
            rw [he] at hX
            obtain ⟨cap, hXe, _⟩ := hX.msl_inv
            exact ⟨goInt n, hexec (fun _ => rfl) (hrun (by simp only [hu, hXe])), .int _ _⟩
          · cases hv
        · rename_i n e hu
          cases hc
          simp only [pv, Option.some.injEq] at hv
          subst hv
          exact ⟨goInt n, hexec (fun _ => rfl) (hrun (by simp only [hu])), .int _ _⟩
        · rename_i arr hu
          split at hc
          · rename_i n e hu'
            cases hc
            simp only [pv, Option.some.injEq] at hv
            subst hv
            exact ⟨goInt n, hexec (fun _ => rfl) (hrun (by simp only [hu]; exact ⟨n, e, hu', rfl⟩)), .int _ _⟩
          · cases hc
        · cases hc
      | min =>
        simp only [cOp1, hop, Option.map_eq_some_iff] at hc
        obtain ⟨ys, hys, rfl⟩ := hc
        obtain ⟨hl, hre⟩ := evs_rep hr hys
        simp only [pv] at hv
        split at hv
        · rename_i v0 vs he
          split at hv
          · rename_i k n
            cases ys with
            | nil => simp at he
            | cons y ys =>
              simp only [List.map_cons, List.cons.injEq] at he
              obtain ⟨he1, rfl⟩ := he
              cases hal : args.toList with
              | nil => rw [hal] at hl; simp at hl
              | cons x xs =>
                simp only [hal] at hl hre
                have h0 := hre 0 (by simp)
                simp only [List.getElem_cons_zero] at h0
                rw [he1] at h0
                obtain ⟨V, q1, q2⟩ := run_minA (P := P) (Xs := xs.map a.eval) hv h0 (by simpa using hl) (fun i hi => by
                  have := hre (i + 1) (by simpa using hi)
                  simpa using this)
                exact ⟨V, hexec (fun _ => rfl) (by simp only [Builtin.min_, Array.toList_map, hal, List.map_cons]; exact q1), q2⟩
          · cases hv
        · cases hv
      | max =>
        simp only [cOp1, hop, Option.map_eq_some_iff] at hc
        obtain ⟨ys, hys, rfl⟩ := hc
        obtain ⟨hl, hre⟩ := evs_rep hr hys
        simp only [pv] at hv
        split at hv
        · rename_i v0 vs he
          split at hv
          · rename_i k n
            cases ys with
            | nil => simp at he
            | cons y ys =>
              simp only [List.map_cons, List.cons.injEq] at he
              obtain ⟨he1, rfl⟩ := he
              cases hal : args.toList with
              | nil => rw [hal] at hl; simp at hl
              | cons x xs =>
                simp only [hal] at hl hre
                have h0 := hre 0 (by simp)
                simp only [List.getElem_cons_zero] at h0
                rw [he1] at h0
                obtain ⟨V, q1, q2⟩ := run_maxA (P := P) (Xs := xs.map a.eval) hv h0 (by simpa using hl) (fun i hi => by
                  have := hre (i + 1) (by simpa using hi)
                  simpa using this)
                exact ⟨V, hexec (fun _ => rfl) (by simp only [Builtin.max_, Array.toList_map, hal, List.map_cons]; exact q1), q2⟩
          · cases hv
        · cases hv
      | append =>
        simp only [cOp1, hop] at hc
        split at hc
        · split at hc
          · simp only [Option.bind_eq_some_iff] at hc
            obtain ⟨_, _, _, _, _, _, _, _, _, _, hc⟩ := hc
            split at hc
            · cases hc; simp [pv] at hv
            · cases hc
          · simp only [Option.bind_eq_some_iff] at hc
            obtain ⟨_, _, _, _, _, _, _, _, _, _, hc⟩ := hc
            split at hc
            · cases hc; simp [pv] at hv
            · cases hc
          · cases hc
        · cases hc
      | _ => simp [cOp1, hop] at hc
  | makeMap t r =>
    cases r with
    | none => simp only [cOp1, hop, Option.some.injEq] at hc; subst hc; simp [pv] at hv
    | some r => simp [cOp1, hop] at hc
  | lookup t m k ok =>
    simp only [cOp1, hop] at hc
    split at hc
    · split at hc
      · simp only [Option.bind_eq_some_iff] at hc
        obtain ⟨_, _, _, _, _, _, _, _, hc⟩ := hc
        split at hc
        · cases hc; simp [pv] at hv
        · cases hc
      · cases hc
    · cases hc
  | mapUpdate t m k v' =>
    simp only [cOp1, hop] at hc
    split at hc
    · split at hc
      · simp only [Option.bind_eq_some_iff, Option.map_eq_some_iff] at hc
        obtain ⟨_, _, _, _, _, _, rfl⟩ := hc
        simp [pv] at hv
      · cases hc
    · cases hc
  | _ => simp [cOp1, hop] at hc

end
end Go.Am
