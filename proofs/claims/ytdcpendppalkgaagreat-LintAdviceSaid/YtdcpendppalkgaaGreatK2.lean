/- The abstract machine of this work: values, its soundness against the machine of the model, forward runs; part of the proof of the claim, it holds of every program. -/
import Derived.Test.YtdcpendppalkgaaGreatK1
import Derived.IntWalk
/- What an operation of the program does is what the abstract machine says: all that leave the machine's state as it is. -/
namespace Go.Am
open Go Go.RowKit
section
variable {P : Program} {base : Nat} {W : Nat → Prop} {w : World} {g : G} {h : H}

theorem bytesOfA_get : ∀ {es : List (List AV)} {bs : List Int}, bytesOfA es = some bs → bs.length = es.length ∧ ∀ i, i < es.length → es[i]? = some [.int .u8 (bs.getD i 0)]
  | [], bs, h => by
    simp only [bytesOfA, Option.some.injEq] at h
    subst h
    exact ⟨rfl, fun i hi => by simp at hi⟩
  | e :: es, bs, h => by
    simp only [bytesOfA, Option.bind_eq_some_iff, Option.map_eq_some_iff] at h
    obtain ⟨b, hb, bs', hbs, rfl⟩ := h
    obtain ⟨h1, h2⟩ := bytesOfA_get hbs
    refine ⟨by simp [h1], fun i hi => ?_⟩
    cases i with
    | zero =>
      unfold byteOfA at hb
      split at hb
      · cases hb; rfl
      · cases hb
    | succ i => simpa using h2 i (by simpa using hi)

theorem run_b2sA {s d e' : TypeId} (hs : P.underlying s = some (.slice e')) (he : P.underlying e' = some (.int .u8)) (hd : P.underlying d = some .string) {x v : AV} {X : Value} (hx : Rep w g x X)
    {e : Opd → AV} {o : Opd} (ho : e o = x) (hv : pv (.b2s o) e h = some v) : ∃ V, (convert s d X).run P w = .ok V w ∧ Rep w g v V := by
  simp only [pv, ho] at hv
  split at hv
  · rename_i tk es
    simp only [Option.map_eq_some_iff] at hv
    obtain ⟨bs, hbs, rfl⟩ := hv
    obtain ⟨A, cap, z, Vs, rfl, hz0, hz, hcap, hro, hrep, hok, htok⟩ := hx.sl_inv
    obtain ⟨hl, hget⟩ := bytesOfA_get hbs
    refine ⟨.string (strOfNums bs), ?_, .str _⟩
    by_cases h0 : es.length = 0
    · have hes : es = [] := List.eq_nil_of_length_eq_zero h0
      subst hes
      have hbs0 : bs = [] := List.eq_nil_of_length_eq_zero (by simpa using hl)
      subst hbs0
      rcases A with _ | ⟨B, off, sp⟩
      · exact run_convert_bytes_nil w s e' hs he _ _ d hd
      · simp only [convert, Sem.run_bind, run_underlying hs, run_underlying hd, Result.andThen_ok, run_underlying he, Conv.bytesToString]
        simp only [List.length_nil, loadCells, loadCellsFrom, Sem.run_pure, Result.andThen_ok]
        rfl
    · have hz1 : z = 1 := by
        have h1 := hget 0 (by omega)
        obtain ⟨hlt, he1⟩ := List.getElem?_eq_some_iff.1 h1
        have := hz _ (List.getElem_mem hlt)
        rw [he1] at this
        simpa using this.symm
      subst hz1
      have hcell : ∀ i, i < es.length → ∃ hk : i < es.flatten.length, es.flatten[i] = .int .u8 (bs.getD i 0) := fun i hi => by
        obtain ⟨p1, p2, p3⟩ := flat_at hz hi (show 0 < 1 by omega)
        simp only [Nat.mul_one, Nat.add_zero] at p1 p3
        refine ⟨p1, ?_⟩
        rw [p3]
        obtain ⟨hlt, he1⟩ := List.getElem?_eq_some_iff.1 (hget i hi)
        simp only [he1, List.getElem_cons_zero]
      obtain ⟨hk0, _⟩ := hcell 0 (by omega)
      obtain ⟨B, off, rfl, _, _⟩ := hro 0 hk0
      refine run_convert_bytes_arg w s e' hs he B off es.length cap bs hl (fun i hi => ?_) d hd
      obtain ⟨hk, he1⟩ := hcell i hi
      obtain ⟨B', off', hA, _, hc⟩ := hro i hk
      cases hA
      have := hrep i hk
      rw [he1] at this
      rw [hc, this.int_inv]
  · cases hv

theorem run_minA : ∀ {x : AV} {xs : List AV} {v : AV} {X : Value} {Xs : List Value}, foldA minA x xs = some v → Rep w g x X → (hl : xs.length = Xs.length) → (∀ k (hk : k < xs.length), Rep w g xs[k] Xs[k]) →
    ∃ V, (Xs.foldlM Builtin.min2 X).run P w = .ok V w ∧ Rep w g v V
  | x, [], v, X, [], h, hx, _, _ => by
    simp only [foldA, Option.some.injEq] at h
    subst h
    exact ⟨X, rfl, hx⟩
  | x, y :: ys, v, X, Y :: Ys, h, hx, hl, hr => by
    simp only [foldA, Option.bind_eq_some_iff] at h
    obtain ⟨z, hz, h⟩ := h
    have hy : Rep w g y Y := hr 0 (by simp)
    unfold minA at hz
    split at hz
    · cases hz
      obtain rfl := hx.int_inv
      obtain rfl := hy.int_inv
      rename_i k a k' b
      obtain ⟨V, h1, h2⟩ := run_minA (Xs := Ys) h (.int k (if b < a then b else a)) (by simpa using hl) (fun i hi => hr (i + 1) (by simpa using hi))
      exact ⟨V, by simp only [List.foldlM_cons, Builtin.min2, Sem.run_bind, Sem.run_pure, Result.andThen_ok, h1], h2⟩
    · cases hz

theorem run_maxA : ∀ {x : AV} {xs : List AV} {v : AV} {X : Value} {Xs : List Value}, foldA maxA x xs = some v → Rep w g x X → (hl : xs.length = Xs.length) → (∀ k (hk : k < xs.length), Rep w g xs[k] Xs[k]) →
    ∃ V, (Xs.foldlM Builtin.max2 X).run P w = .ok V w ∧ Rep w g v V
  | x, [], v, X, [], h, hx, _, _ => by
    simp only [foldA, Option.some.injEq] at h
    subst h
    exact ⟨X, rfl, hx⟩
  | x, y :: ys, v, X, Y :: Ys, h, hx, hl, hr => by
    simp only [foldA, Option.bind_eq_some_iff] at h
    obtain ⟨z, hz, h⟩ := h
    have hy : Rep w g y Y := hr 0 (by simp)
    unfold maxA at hz
    split at hz
    · cases hz
      obtain rfl := hx.int_inv
      obtain rfl := hy.int_inv
      rename_i k a k' b
      obtain ⟨V, h1, h2⟩ := run_maxA (Xs := Ys) h (.int k (if a < b then b else a)) (by simpa using hl) (fun i hi => hr (i + 1) (by simpa using hi))
      exact ⟨V, by simp only [List.foldlM_cons, Builtin.max2, Sem.run_bind, Sem.run_pure, Result.andThen_ok, gt_iff_lt, h1], h2⟩
    · cases hz

/-! ### All of them -/
theorem run_value {P : Program} {w : World} {x : Sem Value} {V : Value} {w' : World} (h : x.run P w = .ok V w') : (do pure (.value (← x)) : Sem Next).run P w = .ok (.value V) w' := by
  simp only [Sem.run_bind, h, Result.andThen_ok, Sem.run_pure]

abbrev Done (P : Program) (base : Nat) (W : Nat → Prop) (w : World) (g : G) (h' : H) (v : AV) (r : Result Next) : Prop :=
  ∃ V w' g', r = .ok (.value V) w' ∧ Rep w' g' v V ∧ Sim P base W w' g' h' ∧ Ext base W w g w' g'

theorem Done.same {h : H} {v : AV} {r : Result Next} (hs : Sim P base W w g h) (hh : ∃ V, r = .ok (.value V) w ∧ Rep w g v V) : Done P base W w g h v r :=
  let ⟨V, h1, h2⟩ := hh
  ⟨V, w, g, h1, h2, hs, Ext.refl base W w g⟩

set_option maxHeartbeats 1000000 in
theorem pv_sound {N : Nat} {s : Slots} {a : Act} (hs : Sim P base W w g h) (hr : RepS w g s a.tmps) {o : Oper} {op : IOp} (hc : cOp1 P N o = some op) {v : AV} (hv : pv op (ev s) h = some v) :
    Done P base W w g h v ((execOp a.eval o).run P w) := by
  have ho : o.op = o.op := rfl
  cases hop : o.op with
  | move x =>
    refine Done.same hs ?_
    simp only [cOp1, hop, Option.map_eq_some_iff] at hc
    obtain ⟨y, hy, rfl⟩ := hc
    simp only [pv, Option.some.injEq] at hv
    subst hv
    exact ⟨_, by simp only [execOp, hop, Sem.run_pure], ev_rep hr hy⟩
  | assign x =>
    refine Done.same hs ?_
    simp only [cOp1, hop, Option.map_eq_some_iff] at hc
    obtain ⟨y, hy, rfl⟩ := hc
    simp only [pv, Option.some.injEq] at hv
    subst hv
    exact ⟨_, by simp only [execOp, hop, Sem.run_pure], ev_rep hr hy⟩
  | pick c x y =>
    refine Done.same hs ?_
    simp only [cOp1, hop, Option.map_eq_some_iff, Option.bind_eq_some_iff] at hc
    obtain ⟨c', hc', x', hx', y', hy', rfl⟩ := hc
    simp only [pv] at hv
    split at hv
    · rename_i t ht
      have hb := ev_rep hr hc'
      rw [ht] at hb
      cases hv
      have hb' := hb.bool_inv
      refine ⟨if t then a.eval x else a.eval y, by simp only [execOp, hop, hb', asBool, Sem.run_bind, Sem.run_pure, Result.andThen_ok], ?_⟩
      cases t
      · exact ev_rep hr hy'
      · exact ev_rep hr hx'
    · cases hv
  | alloc t => simp only [cOp1, hop, Option.map_eq_some_iff] at hc; obtain ⟨_, _, rfl⟩ := hc; simp [pv] at hv
  | box t x => simp only [cOp1, hop, Option.map_eq_some_iff] at hc; obtain ⟨_, _, rfl⟩ := hc; simp [pv] at hv
  | build t ps =>
    refine Done.same hs ?_
    obtain ⟨V, h1, h2⟩ := run_buildA (h := h) hr hop hc hv
    exact ⟨V, by simp only [execOp, hop]; exact run_value h1, h2⟩
  | buildSlice t len ps =>
    obtain ⟨V, w', g', h1, h2, h3, h4⟩ := run_bslA hs hr hop hc hv
    exact ⟨V, w', g', by simp only [execOp, hop]; exact run_value h1, h2, h3, h4⟩
  | load t x =>
    refine Done.same hs ?_
    simp only [cOp1, hop, Option.bind_eq_some_iff] at hc
    obtain ⟨y, hy, n, hn, ag, hag, hc⟩ := hc
    split at hc
    · rename_i hor
      cases hc
      obtain ⟨V, h1, h2⟩ := run_loadAtA hn hag hor hs (ev_rep hr hy) rfl hv
      exact ⟨V, by simp only [execOp, hop]; exact run_value h1, h2⟩
    · cases hc
  | store t x y => simp only [cOp1, hop, Option.map_eq_some_iff, Option.bind_eq_some_iff] at hc; obtain ⟨_, _, _, _, _, _, rfl⟩ := hc; simp [pv] at hv
  | nilCheck x =>
    refine Done.same hs ?_
    simp only [cOp1, hop, Option.map_eq_some_iff] at hc
    obtain ⟨y, hy, rfl⟩ := hc
    have hx := ev_rep hr hy
    simp only [pv] at hv
    split at hv
    · rename_i b o' he
      cases hv
      rw [he] at hx
      obtain ⟨_, hX⟩ := hx.ptr_inv
      rw [hX] at hx
      exact ⟨_, by simp only [execOp, hop, hX]; rfl, hx⟩
    · rename_i cs he
      cases hv
      rw [he] at hx
      obtain ⟨a', Vs, hX, _⟩ := hx.rop_inv
      rw [hX] at hx
      exact ⟨_, by simp only [execOp, hop, hX]; rfl, hx⟩
    · rename_i f fi ca he
      cases hv
      rw [he] at hx
      obtain ⟨F, C, hX⟩ : ∃ F C, a.eval x = .func (.func f) F C := by
        generalize a.eval x = X at hx
        cases hx with
        | fn f first caps F C _ _ _ _ => exact ⟨F, C, rfl⟩
      rw [hX] at hx
      exact ⟨_, by simp only [execOp, hop, hX]; rfl, hx⟩
    · rename_i l he
      cases hv
      rw [he] at hx
      obtain ⟨l', hX⟩ : ∃ l', a.eval x = .func (.yield l') #[] #[] := by
        generalize a.eval x = X at hx
        cases hx with
        | yld l _ => exact ⟨_, rfl⟩
      rw [hX] at hx
      exact ⟨_, by simp only [execOp, hop, hX]; rfl, hx⟩
    · cases hv
  | binOp op' t x y yt =>
    refine Done.same hs ?_
    simp only [cOp1, hop, Option.bind_eq_some_iff] at hc
    obtain ⟨x', hx', y', hy', hc⟩ := hc
    have hX := ev_rep hr hx'
    have hY := ev_rep hr hy'
    have hb : ∀ {op : IOp}, op = .bin op' x' y' → pv op (ev s) h = some v → ∃ V, (execOp a.eval o).run P w = .ok (.value V) w ∧ Rep w g v V := fun hop' hv => by
      subst hop'
      obtain ⟨V, h1, h2⟩ := run_binA (P := P) hv hX hY t x y
      exact ⟨V, by simp only [execOp, hop]; exact run_value h1, h2⟩
    have he : ∀ {op : IOp} (hu : ∀ u, P.underlying t = some u → (∃ fs, u = .struct fs) ∨ (∃ n e, u = .array n e) ∨ u = .bool), ((flat P 60 t).bind fun n => (aggT P t).bind fun ag => if P.eqGuardType P.depth t then none else match op' with
        | .eql => some (IOp.eq n ag false x' y')
        | .neq => some (.eq n ag true x' y')
        | _ => none) = some op → pv op (ev s) h = some v → ∃ V, (execOp a.eval o).run P w = .ok (.value V) w ∧ Rep w g v V := fun hu hc hv => by
      simp only [Option.bind_eq_some_iff] at hc
      obtain ⟨ks, hks, ag, hag, hc⟩ := hc
      split at hc
      · cases hc
      · rename_i hgd
        have hgd' : P.eqGuardType P.depth t = false := by simpa using hgd
        split at hc
        · cases hc
          simp only [pv, Option.map_eq_some_iff] at hv
          obtain ⟨b, hbb, rfl⟩ := hv
          obtain ⟨V, h1, h2⟩ := run_eqA (neg := false) hks hag hgd' hX hY hbb hu x y
          exact ⟨V, by simp only [execOp, hop]; exact run_value h1, h2⟩
        · cases hc
          simp only [pv, Option.map_eq_some_iff] at hv
          obtain ⟨b, hbb, rfl⟩ := hv
          obtain ⟨V, h1, h2⟩ := run_eqA (neg := true) hks hag hgd' hX hY hbb hu x y
          exact ⟨V, by simp only [execOp, hop]; exact run_value h1, h2⟩
        · cases hc
    split at hc
    · cases hc; exact hb rfl hv
    · cases hc; exact hb rfl hv
    · rename_i hu
      exact he (fun u h' => by rw [hu] at h'; cases h'; exact .inr (.inr rfl)) hc hv
    · rename_i fs hu
      exact he (fun u h' => by rw [hu] at h'; cases h'; exact .inl ⟨_, rfl⟩) hc hv
    · rename_i n e hu
      exact he (fun u h' => by rw [hu] at h'; cases h'; exact .inr (.inl ⟨_, _, rfl⟩)) hc hv
    · rename_i e hu
      split at hc
      · cases hc
        obtain ⟨V, h1, h2⟩ := run_isnil (P := P) (neg := false) hu hX hv x y
        exact ⟨V, by simp only [execOp, hop, nil_eval a hy']; exact run_value h1, h2⟩
      · cases hc
        obtain ⟨V, h1, h2⟩ := run_isnil (P := P) (neg := true) hu hX hv x y
        exact ⟨V, by simp only [execOp, hop, nil_eval a hy']; exact run_value h1, h2⟩
      · cases hc
    · cases hc
  | unOp op' t x =>
    refine Done.same hs ?_
    simp only [cOp1, hop, Option.map_eq_some_iff] at hc
    obtain ⟨y, hy, rfl⟩ := hc
    obtain ⟨V, h1, h2⟩ := run_unA (P := P) hv (ev_rep hr hy)
    exact ⟨V, by simp only [execOp, hop]; exact run_value h1, h2⟩
  | convert sT d x =>
    refine Done.same hs ?_
    simp only [cOp1, hop, Option.bind_eq_some_iff] at hc
    obtain ⟨y, hy, hc⟩ := hc
    have hX := ev_rep hr hy
    split at hc
    · rename_i k' k hsu hdu
      cases hc
      simp only [pv] at hv
      split at hv
      · rename_i k2 n he
        cases hv
        rw [he] at hX
        refine ⟨.int k (k.wrap n), ?_, .int _ _⟩
        simp only [execOp, hop, hX.int_inv]
        exact run_value (by simp [convert, run_underlying hsu, run_underlying hdu, Conv.intToInt])
      · cases hv
    · rename_i e' hsu hdu
      split at hc
      · rename_i heu
        cases hc
        obtain ⟨V, h1, h2⟩ := run_b2sA (h := h) hsu heu hdu hX rfl hv
        exact ⟨V, by simp only [execOp, hop]; exact run_value h1, h2⟩
      · cases hc
    · cases hc
  | fieldAddr sT x f =>
    refine Done.same hs ?_
    simp only [cOp1, hop] at hc
    split at hc
    · rename_i fs hu
      simp only [Option.bind_eq_some_iff] at hc
      obtain ⟨fd, hfd, n, hn, hc⟩ := hc
      split at hc
      · cases hc
      · rename_i hn0
        simp only [Option.map_eq_some_iff] at hc
        obtain ⟨y, hy, rfl⟩ := hc
        obtain ⟨V, h1, h2⟩ := run_faddrA hu hfd hn hn0 (ev_rep hr hy) rfl hv
        exact ⟨V, by simp only [execOp, hop]; exact run_value h1, h2⟩
    · cases hc
  | field sT x f =>
    refine Done.same hs ?_
    simp only [cOp1, hop] at hc
    split at hc
    · rename_i fs hu
      simp only [Option.bind_eq_some_iff] at hc
      obtain ⟨fd, hfd, n, hn, ag, hag, hc⟩ := hc
      split at hc
      · rename_i hor
        simp only [Option.map_eq_some_iff] at hc
        obtain ⟨y, hy, rfl⟩ := hc
        obtain ⟨V, h1, h2⟩ := run_fldA hu hfd hn hag (ev_rep hr hy) rfl hv
        exact ⟨V, by simp only [execOp, hop]; exact run_value h1, h2⟩
      · cases hc
    · cases hc
  | indexAddr t x i =>
    refine Done.same hs ?_
    simp only [cOp1, hop, Option.bind_eq_some_iff] at hc
    obtain ⟨x', hx', i', hi', hc⟩ := hc
    split at hc
    · rename_i len e' hu
      simp only [Option.map_eq_some_iff] at hc
      obtain ⟨n, hn, rfl⟩ := hc
      obtain ⟨V, h1, h2⟩ := run_iaddrAA hu hn (ev_rep hr hx') (ev_rep hr hi') rfl rfl hv
      exact ⟨V, by simp only [execOp, hop]; exact run_value h1, h2⟩
    · rename_i e' hu
      simp only [Option.map_eq_some_iff] at hc
      obtain ⟨n, hn, rfl⟩ := hc
      obtain ⟨V, h1, h2⟩ := run_iaddrA hu hn (ev_rep hr hx') (ev_rep hr hi') rfl rfl hv
      exact ⟨V, by simp only [execOp, hop]; exact run_value h1, h2⟩
    · cases hc
  | index t x i =>
    refine Done.same hs ?_
    simp only [cOp1, hop, Option.bind_eq_some_iff] at hc
    obtain ⟨x', hx', i', hi', hc⟩ := hc
    split at hc
    · rename_i len e' hu
      simp only [Option.bind_eq_some_iff] at hc
      obtain ⟨n, hn, ag, hag, hc⟩ := hc
      split at hc
      · cases hc
        obtain ⟨V, h1, h2⟩ := run_idxAA hu hn hag (ev_rep hr hx') (ev_rep hr hi') rfl rfl hv
        exact ⟨V, by simp only [execOp, hop]; exact run_value h1, h2⟩
      · cases hc
    · rename_i hu
      cases hc
      obtain ⟨V, h1, h2⟩ := run_idxSA hu (ev_rep hr hx') (ev_rep hr hi') rfl rfl hv
      exact ⟨V, by simp only [execOp, hop]; exact run_value h1, h2⟩
    · cases hc
  | slice t x lo hi mx =>
    refine Done.same hs ?_
    simp only [cOp1, hop, Option.bind_eq_some_iff] at hc
    obtain ⟨x', hx', lo', hlo', hi', hhi', mx', hmx', hc⟩ := hc
    split at hc
    · rename_i e' hu
      simp only [Option.map_eq_some_iff] at hc
      obtain ⟨n, hn, rfl⟩ := hc
      obtain ⟨V, h1, h2⟩ := run_sliceA hu hn (ev_rep hr hx') rfl (evO_rep hr hlo') (evO_rep hr hhi') (evO_rep hr hmx') hv
      exact ⟨V, by simp only [execOp, hop]; exact run_value h1, h2⟩
    · rename_i hu
      split at hc
      · cases hc
      · rename_i hmn
        cases hc
        have hmx0 : mx = none := by
          cases mx with
          | none => rfl
          | some q =>
            simp only [cOpdO, Option.map_eq_some_iff] at hmx'
            obtain ⟨z, _, rfl⟩ := hmx'
            simp at hmn
        subst hmx0
        obtain ⟨V, h1, h2⟩ := run_sliceSA hu (ev_rep hr hx') rfl (evO_rep hr hlo') (evO_rep hr hhi') hv
        exact ⟨V, by simp only [execOp, hop]; exact run_value h1, h2⟩
    · cases hc
  | extract x n =>
    refine Done.same hs ?_
    simp only [cOp1, hop, Option.map_eq_some_iff] at hc
    obtain ⟨y, hy, rfl⟩ := hc
    have hX := ev_rep hr hy
    simp only [pv] at hv
    split at hv
    · rename_i vs he
      rw [he] at hX
      obtain ⟨C, hXe, hC⟩ := hX.tup_inv
      obtain ⟨hlt, rfl⟩ := List.getElem?_eq_some_iff.1 hv
      have hlt' : n < C.size := by rw [← hC.1]; exact hlt
      refine ⟨C[n], ?_, hC.2 n hlt⟩
      simp only [execOp, hop, hXe]
      exact run_value (by simp [Instr.extract, hlt'])
    · cases hv
  | makeFunc fn first caps =>
    refine Done.same hs ?_
    cases fn with
    | func f =>
      simp only [cOp1, hop, Option.bind_eq_some_iff, Option.map_eq_some_iff] at hc
      obtain ⟨fi, hfi, ca, hca, rfl⟩ := hc
      simp only [pv, Option.some.injEq] at hv
      subst hv
      obtain ⟨h1, h2⟩ := evs_repA hr hfi
      obtain ⟨h3, h4⟩ := evs_repA hr hca
      exact ⟨.func (.func f) (first.map a.eval) (caps.map a.eval), by simp only [execOp, hop]; exact run_value rfl, .fn f _ _ _ _ h1 h3 h2 h4⟩
    | method n => simp [cOp1, hop] at hc
    | methodOf t n => simp [cOp1, hop] at hc
    | via t p f q => simp [cOp1, hop] at hc
    | yield l => simp [cOp1, hop] at hc
  | makeSlice t l c =>
    simp only [cOp1, hop] at hc
    split at hc
    · simp only [Option.bind_eq_some_iff] at hc
      obtain ⟨_, _, _, _, _, _, _, _, _, _, hc⟩ := hc
      split at hc
      · cases hc; simp [pv] at hv
      · cases hc
    · cases hc
  | call c =>
    refine Done.same hs ?_
    obtain ⟨callee, args, argTypes⟩ := c
    cases callee with
    | value f =>
      simp only [cOp1, hop, Option.bind_eq_some_iff, Option.map_eq_some_iff] at hc
      obtain ⟨_, _, _, _, rfl⟩ := hc
      simp [pv] at hv
    | invoke r m => simp [cOp1, hop] at hc
    | builtin b =>
      have hexec : ∀ {S : Sem Value} {V : Value}, (∀ cs, builtin b argTypes o.type cs (args.map a.eval) = (do pure (.value (← S)) : Sem Next)) → S.run P w = .ok V w → (execOp a.eval o).run P w = .ok (.value V) w := fun {S V} h1 h2 => by
        simp only [execOp, hop, resolve, Sem.run_bind, Sem.run_pure, Result.andThen_ok, invoke]
        rw [h1]
        exact run_value h2
      cases b with
      | len =>
        simp only [cOp1, hop, Option.bind_eq_some_iff] at hc
        obtain ⟨t, ht, x, hx, y, hy, hc⟩ := hc
        have hX := ev_rep hr hy
        have hax : (args.map a.eval)[0]? = some (a.eval x) := by simp [hx]
        have hrun : ∀ {V : Value}, (match P.underlying t, a.eval x with
            | some .string, .string s => V = goInt s.size
            | some (.array n _), _ => V = goInt n
            | some (.pointer arr), _ => ∃ n e, P.underlying arr = some (.array n e) ∧ V = goInt n
            | some (.slice _), .slice _ n _ => V = goInt n
            | _, _ => False) → (Builtin.len_ argTypes o.type (args.map a.eval)).run P w = .ok V w := fun {V} hm => by
          simp only [Builtin.len_, ht, hax]
          split at hm
          · rename_i s hu hv'; subst hm; simp [run_underlying hu, hv']
          · rename_i n e hu; subst hm; simp [run_underlying hu]
          · rename_i arr hu; obtain ⟨n, e, hu', rfl⟩ := hm; simp [run_underlying hu, run_underlying hu']
          · rename_i e A n c hu hv'; subst hm; simp [run_underlying hu, hv']
          · exact hm.elim
        split at hc
        · rename_i hu
          cases hc
          simp only [pv] at hv
          split at hv
          · rename_i z he
            cases hv
            rw [he] at hX
            exact ⟨goInt z.size, hexec (fun _ => rfl) (hrun (by simp only [hu, hX.str_inv])), .int _ _⟩
          · cases hv
        · rename_i e hu
          cases hc
          simp only [pv] at hv
          split at hv
          · rename_i tk es he
            cases hv
            rw [he] at hX
            obtain ⟨A, cap, z, Vs, hXe, _⟩ := hX.sl_inv
            exact ⟨goInt es.length, hexec (fun _ => rfl) (hrun (by simp only [hu, hXe])), .int _ _⟩
          · rename_i b z off n he
            cases hv
            rw [he] at hX
            obtain ⟨cap, hXe, _⟩ := hX.msl_inv
            exact ⟨goInt n, hexec (fun _ => rfl) (hrun (by simp only [hu, hXe])), .int _ _⟩
          · cases hv
        · rename_i n e hu
          cases hc
          simp only [pv, Option.some.injEq] at hv
          subst hv
          exact ⟨goInt n, hexec (fun _ => rfl) (hrun (by simp only [hu])), .int _ _⟩
        · rename_i arr hu
          split at hc
          · rename_i n e hu'
            cases hc
            simp only [pv, Option.some.injEq] at hv
            subst hv
            exact ⟨goInt n, hexec (fun _ => rfl) (hrun (by simp only [hu]; exact ⟨n, e, hu', rfl⟩)), .int _ _⟩
          · cases hc
        · cases hc
      | panic =>
        simp only [cOp1, hop, Option.some.injEq] at hc
        subst hc
        simp [pv] at hv
      | cap =>
        simp only [cOp1, hop, Option.bind_eq_some_iff] at hc
        obtain ⟨t, ht, x, hx, y, hy, hc⟩ := hc
        have hX := ev_rep hr hy
        have hax : (args.map a.eval)[0]? = some (a.eval x) := by simp [hx]
        split at hc
        · rename_i e hu
          cases hc
          simp only [pv] at hv
          split at hv
          · rename_i es he
            cases hv
            rw [he] at hX
            obtain ⟨A, cap, z, Vs, hXe, _, _, _, _, _, _, htok⟩ := hX.sl_inv
            have hcl : cap = es.length := htok
            exact ⟨goInt es.length, hexec (fun _ => rfl) (by simp only [Builtin.cap_, ht, hax]; simp [run_underlying hu, hXe, hcl]), .int _ _⟩
          · cases hv
        · cases hc
      | clear =>
        simp only [cOp1, hop, Option.bind_eq_some_iff] at hc
        obtain ⟨t, ht, x, hx, y, hy, hc⟩ := hc
        split at hc
        · simp only [Option.bind_eq_some_iff] at hc
          obtain ⟨_, _, _, _, hc⟩ := hc
          split at hc
          · cases hc; simp [pv] at hv
          · cases hc
        · cases hc
      | min =>
        simp only [cOp1, hop, Option.map_eq_some_iff] at hc
        obtain ⟨ys, hys, rfl⟩ := hc
        obtain ⟨hl, hre⟩ := evs_rep hr hys
        simp only [pv] at hv
        split at hv
        · rename_i v0 vs he
          split at hv
          · rename_i k n
            cases ys with
            | nil => simp at he
            | cons y ys =>
              simp only [List.map_cons, List.cons.injEq] at he
              obtain ⟨he1, rfl⟩ := he
              cases hal : args.toList with
              | nil => rw [hal] at hl; simp at hl
              | cons x xs =>
                simp only [hal] at hl hre
                have h0 := hre 0 (by simp)
                simp only [List.getElem_cons_zero] at h0
                rw [he1] at h0
                obtain ⟨V, q1, q2⟩ := run_minA (P := P) (Xs := xs.map a.eval) hv h0 (by simpa using hl) (fun i hi => by
                  have := hre (i + 1) (by simpa using hi)
                  simpa using this)
                exact ⟨V, hexec (fun _ => rfl) (by simp only [Builtin.min_, Array.toList_map, hal, List.map_cons]; exact q1), q2⟩
          · cases hv
        · cases hv
      | max =>
        simp only [cOp1, hop, Option.map_eq_some_iff] at hc
        obtain ⟨ys, hys, rfl⟩ := hc
        obtain ⟨hl, hre⟩ := evs_rep hr hys
        simp only [pv] at hv
        split at hv
        · rename_i v0 vs he
          split at hv
          · rename_i k n
            cases ys with
            | nil => simp at he
            | cons y ys =>
              simp only [List.map_cons, List.cons.injEq] at he
              obtain ⟨he1, rfl⟩ := he
              cases hal : args.toList with
              | nil => rw [hal] at hl; simp at hl
              | cons x xs =>
                simp only [hal] at hl hre
                have h0 := hre 0 (by simp)
                simp only [List.getElem_cons_zero] at h0
                rw [he1] at h0
                obtain ⟨V, q1, q2⟩ := run_maxA (P := P) (Xs := xs.map a.eval) hv h0 (by simpa using hl) (fun i hi => by
                  have := hre (i + 1) (by simpa using hi)
                  simpa using this)
                exact ⟨V, hexec (fun _ => rfl) (by simp only [Builtin.max_, Array.toList_map, hal, List.map_cons]; exact q1), q2⟩
          · cases hv
        · cases hv
      | append =>
        simp only [cOp1, hop] at hc
        split at hc
        · split at hc
          · simp only [Option.bind_eq_some_iff] at hc
            obtain ⟨_, _, _, _, _, _, _, _, _, _, hc⟩ := hc
            split at hc
            · cases hc; simp [pv] at hv
            · cases hc
          · simp only [Option.bind_eq_some_iff] at hc
            obtain ⟨_, _, _, _, _, _, _, _, _, _, hc⟩ := hc
            split at hc
            · cases hc; simp [pv] at hv
            · cases hc
          · cases hc
        · cases hc
      | _ => simp [cOp1, hop] at hc
  | panic x => simp only [cOp1, hop, Option.some.injEq] at hc; subst hc; simp [pv] at hv
  | makeInterface t x => simp only [cOp1, hop, Option.some.injEq] at hc; subst hc; simp [pv] at hv
  | makeMap t r =>
    cases r with
    | none => simp only [cOp1, hop, Option.some.injEq] at hc; subst hc; simp [pv] at hv
    | some r => simp [cOp1, hop] at hc
  | lookup t m k ok =>
    simp only [cOp1, hop] at hc
    split at hc
    · rename_i kt e' hu
      split at hc
      · rename_i kd hkd
        simp only [Option.bind_eq_some_iff, Option.map_eq_some_iff] at hc
        obtain ⟨z, hz, m', hm', k', hk', rfl⟩ := hc
        simp only [execOp, hop]
        obtain ⟨V, q1, q2⟩ := run_lookupA hu hkd hz hs (ev_rep hr hm') (ev_rep hr hk') hv
        exact .same hs ⟨V, run_value q1, q2⟩
      · cases hc
    · cases hc
  | mapUpdate t m k v' =>
    simp only [cOp1, hop] at hc
    split at hc
    · split at hc
      · simp only [Option.bind_eq_some_iff, Option.map_eq_some_iff] at hc
        obtain ⟨_, _, _, _, _, _, rfl⟩ := hc
        simp [pv] at hv
      · cases hc
    · cases hc
  | _ => simp [cOp1, hop] at hc

end
end Go.Am

/- The operations that turn the abstract machine's state: new boxes, stores, appends, make. -/
namespace Go.Am
open Go Go.RowKit
section
variable {P : Program} {base : Nat} {W : Nat → Prop} {w : World} {g : G} {h : H}

def chunks (z : Nat) : Nat → List AV → List (List AV)
  | 0, _ => []
  | n + 1, l => l.take z :: chunks z n (l.drop z)

/-- What an append's source, or its own slice, holds, element by element. -/
def srcA (h : H) (sz : Nat) (x : AV) : Option (List (List AV)) :=
  match x with
  | .sl _ es => if ∀ e ∈ es, e.length = sz then some es else none
  | .msl b z off len => (h.bx b).bind fun cs => if z = sz ∧ b < h.bn ∧ off + len * z ≤ cs.length then some (chunks z len (cs.drop off)) else none
  | .str s => if sz = 1 then some (s.data.toList.map fun b => [.int .u8 b.toNat]) else none
  | _ => none

theorem chunks_len : ∀ {z n : Nat} {l : List AV}, (chunks z n l).length = n
  | _, 0, _ => rfl
  | z, n + 1, l => by simp [chunks, chunks_len]

theorem chunks_each : ∀ {z n : Nat} {l : List AV}, n * z ≤ l.length → ∀ e ∈ chunks z n l, e.length = z
  | _, 0, _, _, e, he => by simp [chunks] at he
  | z, n + 1, l, h, e, he => by
    rw [Nat.add_mul] at h
    rcases List.mem_cons.1 he with rfl | he
    · simp; omega
    · exact chunks_each (l := l.drop z) (by simp; omega) e he

theorem chunks_flatten : ∀ {z n : Nat} {l : List AV}, n * z ≤ l.length → (chunks z n l).flatten = l.take (n * z)
  | _, 0, _, _ => by simp [chunks]
  | z, n + 1, l, h => by
    rw [Nat.add_mul] at h
    simp only [chunks, List.flatten_cons]
    rw [chunks_flatten (l := l.drop z) (by simp; omega)]
    have : (n + 1) * z = z + n * z := by rw [Nat.add_mul]; omega
    rw [this, List.take_add]

theorem srcA_each {sz : Nat} {x : AV} {es : List (List AV)} (h' : srcA h sz x = some es) : ∀ e ∈ es, e.length = sz := by
  unfold srcA at h'
  split at h'
  · split at h'
    · rename_i hc; cases h'; exact hc
    · cases h'
  · simp only [Option.bind_eq_some_iff] at h'
    obtain ⟨cs, _, h'⟩ := h'
    split at h'
    · rename_i hc
      obtain ⟨rfl, _, hl⟩ := hc
      cases h'
      exact chunks_each (by simp; omega)
    · cases h'
  · split at h'
    · rename_i hc
      cases h'
      intro e he
      simp only [List.mem_map] at he
      obtain ⟨b, _, rfl⟩ := he
      simp [hc]
    · cases h'
  · cases h'

theorem Rep.elems {t : Tok} {es : List (List AV)} {A : Option Addr} {n cap : Nat} (h : Rep w g (.sl t es) (.slice A n cap)) :
    n = es.length ∧ es.length ≤ cap ∧ ∀ k v, es.flatten[k]? = some v → ∃ (a : Addr) (V : Value), A = some a ∧ w.cell? (a.add k) = some V ∧ Rep w g v V ∧ ok1 v = true := by
  obtain ⟨A', cap', z, Vs, he, hz0, hz, hcap, hro, hrep, hok, htok⟩ := h.sl_inv
  cases he
  refine ⟨rfl, hcap, fun k v hk => ?_⟩
  obtain ⟨hlt, rfl⟩ := List.getElem?_eq_some_iff.1 hk
  obtain ⟨B, o, hA, _, hc⟩ := hro k hlt
  exact ⟨⟨B, o, none⟩, Vs k, hA, by rw [lit_add]; exact hc, hrep k hlt, hok k hlt⟩

/-- Reading a source. -/
theorem run_src (hs : Sim P base W w g h) {sz : Nat} {x : AV} {X : Value} {es : List (List AV)} (hsz : 0 < sz) (hx : Rep w g x X) (he : srcA h sz x = some es) :
    (Builtin.lenOf X).run P w = .ok es.length w ∧ ∃ C, (Builtin.firstCells sz es.length X).run P w = .ok C w ∧ RepC w g es.flatten C := by
  have heach := srcA_each he
  have hfl := flatten_len heach
  have key : ∀ (a : Addr), (∀ k v, es.flatten[k]? = some v → ∃ V : Value, w.cell? (a.add k) = some V ∧ Rep w g v V ∧ ok1 v = true) → ∃ C, (loadCells a (es.length * sz)).run P w = .ok C w ∧ RepC w g es.flatten C := fun a hc => by
    let f : Nat → Value := fun j => (w.cell? (a.add j)).getD Go.undef
    have hf : ∀ j, j < es.length * sz → w.cell? (a.add j) = some (f j) := fun j hj => by
      obtain ⟨V, h1, _⟩ := hc j es.flatten[j] (List.getElem?_eq_getElem (by omega))
      simp [f, h1]
    refine ⟨_, run_loadCells w a _ f hf, RepC.mk (by simp [hfl]) fun k v hk => ?_⟩
    obtain ⟨V, h1, h2, h3⟩ := hc k v hk
    have hkl : k < es.length * sz := by rw [← hfl]; exact (List.getElem?_eq_some_iff.1 hk).1
    exact ⟨V, by simp [hkl, f, h1], h2, h3⟩
  have hempty : es = [] → RepC w g es.flatten #[] := fun h0 => by
    subst h0
    exact RepC.mk (by simp) (fun k v hk => by simp at hk)
  unfold srcA at he
  split at he
  · rename_i tk es'
    split at he
    · cases he
      obtain ⟨A, cap, z, Vs, rfl, _⟩ := hx.sl_inv
      obtain ⟨_, _, hel⟩ := hx.elems
      refine ⟨rfl, ?_⟩
      rcases A with _ | a
      · have h0 : es = [] := by
          rcases Nat.eq_zero_or_pos es.length with h | h
          · exact List.eq_nil_of_length_eq_zero h
          · exfalso
            have hp : 0 < es.flatten.length := by rw [hfl]; exact Nat.mul_pos h hsz
            obtain ⟨a, _, hA, _⟩ := hel 0 _ (List.getElem?_eq_getElem hp)
            cases hA
        exact ⟨#[], rfl, hempty h0⟩
      · obtain ⟨C, h1, h2⟩ := key a (fun k v hk => by
          obtain ⟨a', V, hA, q⟩ := hel k v hk
          cases hA
          exact ⟨V, q⟩)
        exact ⟨C, h1, h2⟩
    · cases he
  · rename_i b z off len
    simp only [Option.bind_eq_some_iff] at he
    obtain ⟨cs, hcs, he⟩ := he
    split at he
    · rename_i hc
      obtain ⟨rfl, hb, hl⟩ := hc
      cases he
      obtain ⟨cap, rfl, _⟩ := hx.msl_inv
      obtain ⟨_, _, C0, T, hC, hrep, _⟩ := hs.box b cs hb hcs
      refine ⟨by simp only [Builtin.lenOf, chunks_len]; rfl, ?_⟩
      obtain ⟨C, h1, h2⟩ := key ⟨g.bx b, off, none⟩ (fun k v hk => by
        rw [chunks_flatten (by simp; omega), List.getElem?_take] at hk
        split at hk
        · rw [List.getElem?_drop] at hk
          obtain ⟨V, q⟩ := hrep.2 _ _ hk
          exact ⟨V, by rw [lit_add, cell_at hC]; exact q.1, q.2⟩
        · cases hk)
      exact ⟨C, h1, h2⟩
    · cases he
  · rename_i s
    split at he
    · rename_i h1
      subst h1
      cases he
      obtain rfl := hx.str_inv
      have hsl : s.data.toList.length = s.size := by simp
      refine ⟨by simp only [Builtin.lenOf, Sem.run_pure, List.length_map, hsl], _, rfl, ?_⟩
      have hex : s.extract 0 (s.data.toList.map fun b => ([.int .u8 b.toNat] : List AV)).length = s := by
        simp only [List.length_map, hsl]
        exact ByteArray.extract_zero_size
      rw [hex]
      have hff : (s.data.toList.map fun b => ([.int .u8 b.toNat] : List AV)).flatten = s.data.toList.map fun b => .int .u8 b.toNat := by
        induction s.data.toList with
        | nil => rfl
        | cons a l ih => simp [ih]
      rw [hff]
      refine RepC.mk (by simp) fun k v hk => ?_
      simp only [List.getElem?_map, Option.map_eq_some_iff, Array.getElem?_toList] at hk
      obtain ⟨b, hb, rfl⟩ := hk
      exact ⟨.int .u8 b.toNat, by simp [hb], .int _ _, rfl⟩
    · cases he
  · cases he

/-! ### append -/
inductive AppR (h : H) (sz bytes : Nat) : AV → AV → AV → H → Prop where
  | same (t : Tok) (es : List (List AV)) (x : AV) : srcA h sz x = some [] → AppR h sz bytes (.sl t es) x (.sl t es) h
  | new (es es2 : List (List AV)) (x : AV) : (∀ e ∈ es, e.length = sz) → srcA h sz x = some es2 → 0 < es2.length → (es.length + es2.length) * bytes ≤ 140737488355328 →
      AppR h sz bytes (.sl .full es) x (.sl (.own h.tn) (es ++ es2)) (h.newTok (es.length + es2.length))
  | own (i : Nat) (es es2 : List (List AV)) (x : AV) : (∀ e ∈ es, e.length = sz) → i < h.tn → h.tk i = es.length → srcA h sz x = some es2 → 0 < es2.length → (es.length + es2.length) * bytes ≤ 140737488355328 →
      AppR h sz bytes (.sl (.own i) es) x (.sl (.own i) (es ++ es2)) (h.setTok i (es.length + es2.length))
  | newbox (es es2 : List (List AV)) (x : AV) : (∀ e ∈ es, e.length = sz) → srcA h sz x = some es2 → 0 < es2.length → (es.length + es2.length) * bytes ≤ 140737488355328 →
      AppR h sz bytes (.sl .full es) x (.msl h.bn sz 0 (es.length + es2.length)) (h.alloc (es ++ es2).flatten)
  | sameB (b off len : Nat) (x : AV) : srcA h sz x = some [] → AppR h sz bytes (.msl b sz off len) x (.msl b sz off len) h
  | box (b len : Nat) (cs : List AV) (es2 : List (List AV)) (x : AV) : b < h.bn → h.bx b = some cs → len * sz ≤ cs.length → srcA h sz x = some es2 → 0 < es2.length → (len + es2.length) * bytes ≤ 140737488355328 →
      AppR h sz bytes (.msl b sz 0 len) x (.msl h.bn sz 0 (len + es2.length)) ((h.kill b).alloc (cs.take (len * sz) ++ es2.flatten))

/-- What the run of an append is: in place, or to a new block. -/
theorem run_append_in (t t' ty e' : TypeId) {u' : TypeDesc} {n : Nat} (hu : P.underlying t = some (.slice e')) (hu' : P.underlying t' = some u') (hu0 : ∀ k, u' ≠ .int k) (hn : szT P e' = some n)
    {A : Option Addr} {len cap m : Nat} {X : Value} {C : Array Value} (hlen : (Builtin.lenOf X).run P w = .ok m w) (hC : (Builtin.firstCells n m X).run P w = .ok C w)
    (hle : len + m ≤ cap) {w' : World} (hst : ∀ a, A = some a → (storeCells (a.add (len * n)) C.toList).run P w = .ok () w') (hst0 : A = none → w' = w) :
    (Builtin.append_ #[t, t'] ty #[.slice A len cap, X]).run P w = .ok (.slice A (len + m) cap) w' := by
  have e1 : (#[t, t'] : Array TypeId)[0]? = some t := rfl
  have e2 : (#[t, t'] : Array TypeId)[1]? = some t' := rfl
  have e3 : (#[.slice A len cap, X] : Array Value)[0]? = some (.slice A len cap) := rfl
  have e4 : (#[.slice A len cap, X] : Array Value)[1]? = some X := rfl
  simp only [Builtin.append_, e1, e2, e3, e4, Sem.run_bind, run_underlying hu, Result.andThen_ok, run_szT hn, run_underlying hu', Sem.run_pure]
  have hz : (match u' with | .int _ => true | _ => false) = false := by
    cases u' <;> first | rfl | exact absurd rfl (hu0 _)
  cases u' with
  | int k => exact absurd rfl (hu0 k)
  | _ =>
    simp only [Bool.false_eq_true, if_false, hlen, Result.andThen_ok, if_pos hle, Bool.not_false, if_true, hC, Sem.run_bind]
    cases A with
    | none => simp only [Sem.run_pure, hst0 rfl]
    | some a => simp only [Sem.run_bind, hst a rfl, Result.andThen_ok, Sem.run_pure]

theorem run_append_out (t t' ty e' : TypeId) {u' : TypeDesc} {n bytes : Nat} (hu : P.underlying t = some (.slice e')) (hu' : P.underlying t' = some u') (hu0 : ∀ k, u' ≠ .int k) (hn : szT P e' = some n) (hb : bytesT P e' = some bytes) (hb0 : 0 < bytes)
    {Z : Value} (hZ : ∀ w, (zeroValue e').run P w = .ok Z w) {A : Option Addr} {len cap m : Nat} {X : Value} {C C0 : Array Value} (hlen : (Builtin.lenOf X).run P w = .ok m w)
    (hlt : cap < len + m) (hbnd : (len + m) * bytes ≤ 140737488355328) (hC0 : (Builtin.firstCells n len (.slice A len cap)).run P w.drew = .ok C0 w.drew) (hC1 : (Builtin.firstCells n m X).run P w.drew = .ok C w.drew) :
    ∃ newCap, len + m ≤ newCap ∧ (Builtin.append_ #[t, t'] ty #[.slice A len cap, X]).run P w = .ok (.slice (some ⟨w.heap.size, 0, none⟩) (len + m) newCap) (w.drew.alloc (.cells (C0 ++ C ++ Builtin.zeroCells Z.cells (newCap - (len + m))) e')) := by
  obtain ⟨i, hi, hib⟩ := Option.map_eq_some_iff.1 hb
  have e1 : (#[t, t'] : Array TypeId)[0]? = some t := rfl
  have e2 : (#[t, t'] : Array TypeId)[1]? = some t' := rfl
  have e3 : (#[.slice A len cap, X] : Array Value)[0]? = some (.slice A len cap) := rfl
  have e4 : (#[.slice A len cap, X] : Array Value)[1]? = some X := rfl
  have hti : ∀ w, (typeInfo e').run P w = .ok i w := fun w => by simp [typeInfo, hi]
  have hgs : ¬ Builtin.nextslicecap (len + m) cap * i.bytes > 2 ^ 48 := by
    rw [hib]
    have := growslice_fits hlt hbnd
    omega
  refine ⟨(Question.appendCap (len + m) cap e').cut (w.tape w.drawn (.appendCap (len + m) cap e')), ?_, ?_⟩
  · simp only [Question.cut]; omega
  simp only [Builtin.append_, e1, e2, e3, e4, Sem.run_bind, run_underlying hu, Result.andThen_ok, run_szT hn, run_underlying hu', Sem.run_pure]
  cases u' with
  | int k => exact absurd rfl (hu0 k)
  | _ =>
    simp only [Bool.false_eq_true, if_false, hlen, Result.andThen_ok, if_neg (show ¬ len + m ≤ cap by omega), false_or, hti, hib, Sem.run_bind]
    rw [if_neg (by omega)]
    simp only [Sem.run_bind, hti, Result.andThen_ok, if_neg hgs, run_choose, Question.forced, Bool.false_eq_true, if_false, run_askRoom]
    have hdrew : ({ w with drawn := w.drawn + 1 } : World) = w.drew := rfl
    simp only [hdrew, hC0, Result.andThen_ok, Bool.not_false, if_true, hC1, hZ, newRow, Sem.run_bind, run_newObj, Sem.run_pure]
    rfl

theorem zeroCells_size (Z : Array Value) (n : Nat) : (Builtin.zeroCells Z n).size = n * Z.size := by simp [Builtin.zeroCells]

/-- A new block's first cells. -/
theorem RepC.app {cs cs' : List AV} {C C' R : Array Value} (h1 : RepC w g cs C) (h2 : RepC w g cs' C') : RepP w g (cs ++ cs') (C ++ C' ++ R) := by
  have l1 := h1.1.1
  have l2 := h2.1.1
  refine ⟨by simp; omega, fun k v hk => ?_⟩
  rw [List.getElem?_append] at hk
  split at hk
  · rename_i hlt
    obtain ⟨V, q1, q2⟩ := h1.get hk
    exact ⟨V, by rw [Array.getElem?_append_left (by simp; omega), Array.getElem?_append_left (by omega)]; exact q1, q2⟩
  · rename_i hlt
    have hk' : k - cs.length < cs'.length := (List.getElem?_eq_some_iff.1 hk).1
    obtain ⟨V, q1, q2⟩ := h2.get hk
    refine ⟨V, ?_, q2⟩
    rw [Array.getElem?_append_left (by simp; omega), Array.getElem?_append_right (by omega), ← l1]
    exact q1

/-- A box that is forgotten. -/
theorem Sim.dropBox (hs : Sim P base W w g h) (b : Nat) : Sim P base W w g (h.kill b) := by
  refine ⟨hs.base_le, hs.bn, hs.tn, hs.ln, hs.mn, fun b2 cs hb2 hc2 => ?_, fun b1 b2 hb1 hb2 h1 h2 heq => ?_, hs.tok, hs.tokinj, hs.roB, hs.loop, hs.loopinj, hs.map, hs.mapinj⟩
  · by_cases hbb : b2 = b
    · subst hbb; simp [H.kill] at hc2
    · exact hs.box b2 cs hb2 (by simpa [H.kill, hbb] using hc2)
  · refine hs.boxinj b1 b2 hb1 hb2 ?_ ?_ heq
    · by_cases hbb : b1 = b
      · subst hbb; simp [H.kill] at h1
      · simpa [H.kill, hbb] using h1
    · by_cases hbb : b2 = b
      · subst hbb; simp [H.kill] at h2
      · simpa [H.kill, hbb] using h2

/-- A box under a new number. -/
theorem Sim.renameBox (hs : Sim P base W w g h) {b : Nat} {cs : List AV} (hb : b < h.bn) (hc : h.bx b = some cs) :
    Sim P base W w (g.box (g.bx b) (g.bs b)) ((h.kill b).alloc cs) ∧ Ext base W w g w (g.box (g.bx b) (g.bs b)) := by
  have hbx' : ∀ b', b' < g.bn → (g.box (g.bx b) (g.bs b)).bx b' = g.bx b' ∧ (g.box (g.bx b) (g.bs b)).bs b' = g.bs b' := fun b' hb' => by
    refine ⟨?_, ?_⟩
    · show (if b' = g.bn then _ else g.bx b') = _
      rw [if_neg (by omega)]
    · show (if b' = g.bn then _ else g.bs b') = _
      rw [if_neg (by omega)]
  have hnew : (g.box (g.bx b) (g.bs b)).bx h.bn = g.bx b ∧ (g.box (g.bx b) (g.bs b)).bs h.bn = g.bs b := by
    refine ⟨?_, ?_⟩
    · show (if h.bn = g.bn then _ else _) = _
      rw [if_pos hs.bn]
    · show (if h.bn = g.bn then _ else _) = _
      rw [if_pos hs.bn]
  have e : GExt w g w (g.box (g.bx b) (g.bs b)) := GExt.of_blk (Nat.le_refl _) (fun _ _ => rfl) hs.roB (fun _ _ => rfl) (Nat.le_succ _) hbx' (Nat.le_refl _) (fun _ _ => rfl) (Nat.le_refl _) (fun _ _ => rfl) (Nat.le_refl _) (fun _ _ => rfl)
  have hlook : ∀ b2 cs2, b2 < h.bn + 1 → ((h.kill b).alloc cs).bx b2 = some cs2 → (b2 = h.bn ∧ cs2 = cs) ∨ (b2 < h.bn ∧ b2 ≠ b ∧ h.bx b2 = some cs2) := fun b2 cs2 hb2 hc2 => by
    by_cases h1 : b2 = h.bn
    · left
      subst h1
      simp [H.alloc, H.kill] at hc2
      exact ⟨rfl, hc2.symm⟩
    · right
      by_cases h2 : b2 = b
      · subst h2; simp [H.alloc, H.kill, h1] at hc2
      · exact ⟨by omega, h2, by simpa [H.alloc, H.kill, h1, h2] using hc2⟩
  refine ⟨⟨hs.base_le, by show h.bn + 1 = g.bn + 1; rw [hs.bn], hs.tn, hs.ln, hs.mn, fun b2 cs2 hb2 hc2 => ?_, fun b1 b2 hb1 hb2 h1 h2 heq => ?_, hs.tok, hs.tokinj, hs.roB, fun l r hl hr => ?_, hs.loopinj, fun l r hl hr => ?_, hs.mapinj⟩, Ext.step hs e rfl rfl rfl (fun _ _ => rfl) (fun _ _ => rfl)⟩
  · rcases hlook b2 cs2 hb2 hc2 with ⟨rfl, rfl⟩ | ⟨q1, q2, q3⟩
    · rw [hnew.1, hnew.2]
      obtain ⟨h1, h2, C, T, h3, h4, h5⟩ := hs.box b cs2 hb hc
      exact ⟨h1, h2, C, T, h3, h4.mono e, h5⟩
    · rw [(hbx' b2 (hs.bn ▸ q1)).1, (hbx' b2 (hs.bn ▸ q1)).2]
      obtain ⟨h1, h2, C, T, h3, h4, h5⟩ := hs.box b2 cs2 q1 q3
      exact ⟨h1, h2, C, T, h3, h4.mono e, h5⟩
  · obtain ⟨c1, hc1⟩ := Option.isSome_iff_exists.1 h1
    obtain ⟨c2, hc2⟩ := Option.isSome_iff_exists.1 h2
    rcases hlook b1 c1 hb1 hc1 with ⟨rfl, rfl⟩ | ⟨q1, q2, q3⟩ <;> rcases hlook b2 c2 hb2 hc2 with ⟨r1, r2⟩ | ⟨r1, r2, r3⟩
    · exact r1.symm
    · rw [hnew.1, (hbx' b2 (hs.bn ▸ r1)).1] at heq
      exact absurd (hs.boxinj b2 b r1 hb (by rw [r3]; rfl) (by rw [hc]; rfl) heq.symm) r2
    · subst r1
      rw [hnew.1, (hbx' b1 (hs.bn ▸ q1)).1] at heq
      exact absurd (hs.boxinj b1 b q1 hb (by rw [q3]; rfl) (by rw [hc]; rfl) heq) q2
    · rw [(hbx' b1 (hs.bn ▸ q1)).1, (hbx' b2 (hs.bn ▸ r1)).1] at heq
      exact hs.boxinj b1 b2 q1 r1 (by rw [q3]; rfl) (by rw [r3]; rfl) heq
  · obtain ⟨h1, L, h2, h3⟩ := hs.loop l r hl hr
    exact ⟨h1, L, h2, h3.mono e⟩
  · obtain ⟨h1, L, c, h2, h3⟩ := hs.map l r hl hr
    exact ⟨h1, L, c, h2, h3.mono e⟩

theorem Rep.ofRowAt {es : List (List AV)} {B o z cap len : Nat} {t : Tok} (hlen : len = es.length) (h0 : 0 < z) (hz : ∀ e ∈ es, e.length = z) (hc : len ≤ cap)
    (hro : o + len * z ≤ g.ro B) (hcell : ∀ (k : Nat) (v : AV), es.flatten[k]? = some v → ∃ V : Value, w.cell? ⟨B, o + k, none⟩ = some V ∧ Rep w g v V ∧ ok1 v = true)
    (ht : TokAt g t (some ⟨B, o, none⟩) z len cap) : Rep w g (.sl t es) (.slice (some ⟨B, o, none⟩) len cap) := by
  subst hlen
  have hl := flatten_len hz
  refine .sl t es _ cap z (fun k => (w.cell? ⟨B, o + k, none⟩).getD Go.undef) ⟨h0, hz⟩ hc (fun k hk => ?_) (fun k hk => ?_) (fun k hk => ?_) ht
  · obtain ⟨V, h1, _⟩ := hcell k _ (List.getElem?_eq_getElem hk)
    exact ⟨B, o, rfl, by omega, by simp [h1]⟩
  · obtain ⟨V, h1, h2, _⟩ := hcell k _ (List.getElem?_eq_getElem hk)
    simpa [h1] using h2
  · obtain ⟨V, h1, _, h3⟩ := hcell k _ (List.getElem?_eq_getElem hk)
    exact h3

/-- The cells of a row that has grown. -/
theorem grown_row {n newCap : Nat} {es es2 : List (List AV)} {C0 C Z : Array Value} (h1 : ∀ e ∈ es, e.length = n) (h2 : ∀ e ∈ es2, e.length = n) (p2 : RepC w g es.flatten C0) (q2 : RepC w g es2.flatten C) (hZ : Z.size = n) (hnc : es.length + es2.length ≤ newCap) :
    (∀ e ∈ es ++ es2, e.length = n) ∧ (C0 ++ C ++ Builtin.zeroCells Z (newCap - (es.length + es2.length))).size = newCap * n ∧ RepP w g (es ++ es2).flatten (C0 ++ C ++ Builtin.zeroCells Z (newCap - (es.length + es2.length))) := by
  refine ⟨fun e he' => ?_, ?_, ?_⟩
  · rcases List.mem_append.1 he' with h | h
    · exact h1 e h
    · exact h2 e h
  · have a1 : C0.size = es.length * n := by rw [← p2.1.1, flatten_len h1]
    have a2 : C.size = es2.length * n := by rw [← q2.1.1, flatten_len h2]
    have a3 : (es.length + es2.length) * n = es.length * n + es2.length * n := Nat.add_mul ..
    have a4 : newCap * n = (es.length + es2.length) * n + (newCap - (es.length + es2.length)) * n := by rw [← Nat.add_mul]; congr 1; omega
    simp only [Array.size_append, zeroCells_size, hZ, a1, a2]
    omega
  · rw [List.flatten_append]
    exact RepC.app p2 q2

theorem app_sound (t t' ty e' : TypeId) {u' : TypeDesc} {n bytes : Nat} (hu : P.underlying t = some (.slice e')) (hu' : P.underlying t' = some u') (hu0 : ∀ k, u' ≠ .int k) (hn : szT P e' = some n) (hn0 : 0 < n) (hb' : bytesT P e' = some bytes) (hb0 : 0 < bytes)
    {z : List AV} (hz : zeroT P e' = some z) (hzl : z.length = n) {h' : H} {s x v : AV} {S X : Value} (hs : Sim P base W w g h) (hS : Rep w g s S) (hX : Rep w g x X) (ha : AppR h n bytes s x v h') :
    Done P base W w g h' v ((do pure (.value (← Builtin.append_ #[t, t'] ty #[S, X])) : Sem Next).run P w) := by
  obtain ⟨Z, hZ, hzrep⟩ := run_zeroT hz
  have hZs : Z.cells.size = n := by have := (hzrep w g).1.1; omega
  obtain ⟨hsD, heD⟩ := hs.drew
  cases ha with
  | same tk es x he =>
    obtain ⟨A, cap, q, Vs, rfl, _, _, hcap, _⟩ := hS.sl_inv
    obtain ⟨h1, C, h2, h3⟩ := run_src hs hn0 hX he
    have hC : C = #[] := by
      have := h3.1.1
      simp at this
      exact Array.eq_empty_of_size_eq_zero this.symm
    subst hC
    simp only [List.length_nil] at h1 h2
    exact ⟨_, w, g, run_value (run_append_in t t' ty e' hu hu' hu0 hn h1 h2 (by omega) (fun a _ => rfl) (fun _ => rfl)), hS, hs, Ext.refl base W w g⟩
  | sameB b off len x he =>
    obtain ⟨cap, rfl, hbn, hcap, hbs⟩ := hS.msl_inv
    obtain ⟨h1, C, h2, h3⟩ := run_src hs hn0 hX he
    have hC : C = #[] := by
      have := h3.1.1
      simp at this
      exact Array.eq_empty_of_size_eq_zero this.symm
    subst hC
    simp only [List.length_nil] at h1 h2
    exact ⟨_, w, g, run_value (run_append_in t t' ty e' hu hu' hu0 hn h1 h2 (by omega) (fun a _ => rfl) (fun _ => rfl)), hS, hs, Ext.refl base W w g⟩
  | new es es2 x hes he hpos hbnd =>
    obtain ⟨A, cap, q, Vs, rfl, _, _, hcap, _, _, _, htok⟩ := hS.sl_inv
    have hcl : cap = es.length := htok
    subst hcl
    have hsrc : srcA h n (.sl .full es) = some es := by simp only [srcA, if_pos hes]
    obtain ⟨h1, _⟩ := run_src hs hn0 hX he
    obtain ⟨_, C0, p1, p2⟩ := run_src hsD hn0 (hS.mono heD.toGExt) hsrc
    obtain ⟨_, C, q1, q2⟩ := run_src hsD hn0 (hX.mono heD.toGExt) he
    obtain ⟨newCap, hnc, hrun⟩ := run_append_out t t' ty e' hu hu' hu0 hn hb' hb0 hZ h1 (by omega) hbnd p1 q1
    obtain ⟨hall, hK, hP⟩ := grown_row hes (srcA_each he) p2 q2 hZs hnc
    generalize C0 ++ C ++ Builtin.zeroCells Z.cells (newCap - (es.length + es2.length)) = K at hrun hK hP
    have hlen : es.length + es2.length = (es ++ es2).length := by simp
    obtain ⟨hS', hE'⟩ := hsD.allocTok K e' n (es.length + es2.length) newCap (Nat.mul_pos (by omega) hn0) hnc (by omega)
    refine ⟨_, _, _, run_value hrun, ?_, hS', heD.trans hE'⟩
    have happ := hP.mono hE'.toGExt
    refine Rep.ofRowAt hlen hn0 hall hnc ?_ (fun k v hk => ?_) ?_
    · show _ ≤ (if w.drew.heap.size = w.drew.heap.size then _ else _)
      rw [if_pos rfl]; exact Nat.le_refl _
    · obtain ⟨V, r1, r2⟩ := happ.2 k v hk
      exact ⟨V, by rw [Nat.zero_add]; rw [show w.heap.size = w.drew.heap.size from rfl, cell_at alloc_new]; exact r1, r2⟩
    · have hq1 : (g.newTok ⟨w.drew.heap.size, 0, n, es.length + es2.length, newCap⟩).tk h.tn = ⟨w.drew.heap.size, 0, n, es.length + es2.length, newCap⟩ := by
        show (if h.tn = g.tn then _ else g.tk h.tn) = _
        rw [if_pos hs.tn]
      refine ⟨?_, ?_, fun _ => ?_⟩
      · show h.tn < g.tn + 1
        rw [hs.tn]; omega
      · rw [hq1]; exact Nat.le_refl _
      · rw [hq1]; exact ⟨rfl, rfl, rfl⟩
  | own i es es2 x hes hi hlive he hpos hbnd =>
    obtain ⟨A, cap, q, Vs, rfl, hq0, hq, hcap, hro, hrep, hok, htok⟩ := hS.sl_inv
    obtain ⟨t1, t2, t3⟩ := htok
    obtain ⟨k1, k2, k3, k4, k5, C1, T, k6, k7⟩ := hs.tok i hi
    have hlen : es.length = (g.tk i).n := by omega
    obtain ⟨rfl, rfl, rfl⟩ := t3 hlen
    have hnpos : 0 < es.length := by
      rcases Nat.eq_zero_or_pos es.length with h0 | h0
      · rw [← hlen, h0] at k3; omega
      · exact h0
    have hzn : (g.tk i).z = n := by rw [← hes _ (List.getElem_mem hnpos)]; exact (hq _ (List.getElem_mem hnpos)).symm
    obtain ⟨h1, C, h2, h3⟩ := run_src hs hn0 hX he
    have hall : ∀ e ∈ es ++ es2, e.length = n := fun e he' => by
      rcases List.mem_append.1 he' with h | h
      · exact hes e h
      · exact srcA_each he e h
    have hl2 : es.length + es2.length = (es ++ es2).length := by simp
    have hCs : C.size = es2.length * n := by rw [← h3.1.1, flatten_len (srcA_each he)]
    have hfl := flatten_len hes
    by_cases hfit : es.length + es2.length ≤ (g.tk i).c
    · -- in place
      have hmul : (es.length + es2.length) * n = es.length * n + es2.length * n := Nat.add_mul ..
      have hmulc : (es.length + es2.length) * n ≤ (g.tk i).c * n := Nat.mul_le_mul_right _ hfit
      rw [hzn] at k5 k7
      rw [← hlen] at k5
      have hst := run_storeCells_at P (g.tk i).B ((g.tk i).o + es.length * n) T C.toList 0 C1 w k6 (by simp [hCs]; omega) h3.allOne
      simp only [Nat.add_zero, Array.length_toList] at hst
      obtain ⟨r1, r2, r3, r4, r5, r6⟩ := setRow_at w (g.tk i).B (C1.toList.take ((g.tk i).o + es.length * n) ++ C.toList ++ C1.toList.drop ((g.tk i).o + es.length * n + C.size)).toArray k6
      have hget : ∀ k, (C1.toList.take ((g.tk i).o + es.length * n) ++ C.toList ++ C1.toList.drop ((g.tk i).o + es.length * n + C.size)).toArray[k]? = if (g.tk i).o + es.length * n ≤ k ∧ k < (g.tk i).o + es.length * n + C.size then C[k - ((g.tk i).o + es.length * n)]? else C1[k]? := fun k => by
        rw [List.getElem?_toArray, splice_get _ _ _ C.size (by simp) (by simp [hCs]; omega)]
        simp
      obtain ⟨hS', hE'⟩ := hs.tokIn hi k6 r1 (by simp [hCs]; omega) (fun k hk => by
        rw [hzn, ← hlen] at hk
        rw [hget, if_neg (by omega)]) (n' := es.length + es2.length) (by omega) hfit r2 r3 r4 r5 r6
      refine ⟨_, _, _, run_value (run_append_in t t' ty e' hu hu' hu0 hn h1 h2 hfit (fun a ha => by cases ha; rw [lit_add]; exact hst) (fun ha => by cases ha)), ?_, hS', hE'⟩
      have htk1 : (g.setTok i { g.tk i with n := es.length + es2.length }).tk i = { g.tk i with n := es.length + es2.length } := by
        show (if i = i then _ else _) = _
        rw [if_pos rfl]
      refine Rep.ofRowAt hl2 hn0 hall hfit ?_ (fun k v hk => ?_) ?_
      · show _ ≤ (if (g.tk i).B = (g.tk i).B then _ else _)
        rw [if_pos rfl]
        show _ ≤ (g.tk i).o + (es.length + es2.length) * (g.tk i).z
        rw [hzn]; exact Nat.le_refl _
      · rw [List.flatten_append, List.getElem?_append] at hk
        rw [cell_at r1, hget]
        split at hk
        · rename_i hlt
          obtain ⟨_, rfl⟩ := List.getElem?_eq_some_iff.1 hk
          obtain ⟨B', o', hA, _, hc⟩ := hro k hlt
          cases hA
          rw [if_neg (by omega)]
          rw [cell_at k6] at hc
          exact ⟨Vs k, hc, (hrep k hlt).mono hE'.toGExt, hok k hlt⟩
        · rename_i hlt
          have hk' : k - es.flatten.length < es2.flatten.length := (List.getElem?_eq_some_iff.1 hk).1
          have := flatten_len (srcA_each he)
          obtain ⟨V, s1, s2, s3⟩ := h3.get hk
          refine ⟨V, ?_, s2.mono hE'.toGExt, s3⟩
          rw [if_pos (by omega), ← s1]
          congr 1
          omega
      · refine ⟨by show i < g.tn; omega, ?_, fun _ => ?_⟩
        · rw [htk1]; exact Nat.le_refl _
        · rw [htk1]; exact ⟨rfl, rfl, hzn.symm⟩
    · -- to a new block
      have hsrc : srcA h n (.sl (.own i) es) = some es := by simp only [srcA, if_pos hes]
      obtain ⟨_, C0, p1, p2⟩ := run_src hsD hn0 (hS.mono heD.toGExt) hsrc
      obtain ⟨_, C', q1, q2⟩ := run_src hsD hn0 (hX.mono heD.toGExt) he
      obtain ⟨newCap, hnc, hrun⟩ := run_append_out t t' ty e' hu hu' hu0 hn hb' hb0 hZ h1 (by omega) hbnd p1 q1
      obtain ⟨_, hK, hP⟩ := grown_row hes (srcA_each he) p2 q2 hZs hnc
      generalize C0 ++ C' ++ Builtin.zeroCells Z.cells (newCap - (es.length + es2.length)) = K at hrun hK hP
      obtain ⟨hS', hE'⟩ := hsD.tokMove hi K e' n (es.length + es2.length) newCap (by omega) (Nat.mul_pos (by omega) hn0) hnc (by omega)
      refine ⟨_, _, _, run_value hrun, ?_, hS', heD.trans hE'⟩
      have happ := hP.mono hE'.toGExt
      have htk1 : (g.setTok i ⟨w.drew.heap.size, 0, n, es.length + es2.length, newCap⟩).tk i = ⟨w.drew.heap.size, 0, n, es.length + es2.length, newCap⟩ := by
        show (if i = i then _ else _) = _
        rw [if_pos rfl]
      refine Rep.ofRowAt hl2 hn0 hall hnc ?_ (fun k v hk => ?_) ?_
      · show _ ≤ (if w.drew.heap.size = w.drew.heap.size then _ else _)
        rw [if_pos rfl]; exact Nat.le_refl _
      · obtain ⟨V, r1, r2⟩ := happ.2 k v hk
        exact ⟨V, by rw [Nat.zero_add]; rw [show w.heap.size = w.drew.heap.size from rfl, cell_at alloc_new]; exact r1, r2⟩
      · refine ⟨by show i < g.tn; omega, ?_, fun _ => ?_⟩
        · rw [htk1]; exact Nat.le_refl _
        · rw [htk1]; exact ⟨rfl, rfl, rfl⟩
  | newbox es es2 x hes he hpos hbnd =>
    obtain ⟨A, cap, q, Vs, rfl, _, _, hcap, _, _, _, htok⟩ := hS.sl_inv
    have hcl : cap = es.length := htok
    subst hcl
    have hsrc : srcA h n (.sl .full es) = some es := by simp only [srcA, if_pos hes]
    obtain ⟨h1, _⟩ := run_src hs hn0 hX he
    obtain ⟨_, C0, p1, p2⟩ := run_src hsD hn0 (hS.mono heD.toGExt) hsrc
    obtain ⟨_, C, q1, q2⟩ := run_src hsD hn0 (hX.mono heD.toGExt) he
    obtain ⟨newCap, hnc, hrun⟩ := run_append_out t t' ty e' hu hu' hu0 hn hb' hb0 hZ h1 (by omega) hbnd p1 q1
    obtain ⟨hall, hK, hP⟩ := grown_row hes (srcA_each he) p2 q2 hZs hnc
    generalize C0 ++ C ++ Builtin.zeroCells Z.cells (newCap - (es.length + es2.length)) = K at hrun hK hP
    obtain ⟨hS', hE'⟩ := hsD.allocBox K e' (es ++ es2).flatten hP
    refine ⟨_, _, _, run_value hrun, ?_, hS', heD.trans hE'⟩
    have hbx : (g.box w.drew.heap.size K.size).bx h.bn = w.heap.size ∧ (g.box w.drew.heap.size K.size).bs h.bn = K.size := by
      refine ⟨?_, ?_⟩
      · show (if h.bn = g.bn then _ else _) = _
        rw [if_pos hs.bn]; rfl
      · show (if h.bn = g.bn then _ else _) = _
        rw [if_pos hs.bn]
    have := Rep.msl (w := w.drew.alloc (.cells K e')) (g := g.box w.drew.heap.size K.size) h.bn n 0 (es.length + es2.length) newCap (by show h.bn < g.bn + 1; rw [hs.bn]; omega) hnc (by rw [hbx.2]; omega)
    rw [hbx.1] at this
    exact this
  | box b len cs es2 x hb hc hl he hpos hbnd =>
    obtain ⟨cap, rfl, hbn, hcap, hbs⟩ := hS.msl_inv
    obtain ⟨m1, m2, C1, T, m3, m4, m5⟩ := hs.box b cs hb hc
    obtain ⟨h1, C, h2, h3⟩ := run_src hs hn0 hX he
    have hCs : C.size = es2.length * n := by rw [← h3.1.1, flatten_len (srcA_each he)]
    have hmul : (len + es2.length) * n = len * n + es2.length * n := Nat.add_mul ..
    by_cases hfit : len + es2.length ≤ cap
    · have hmulc : (len + es2.length) * n ≤ cap * n := Nat.mul_le_mul_right _ hfit
      have hst := run_storeCells_at P (g.bx b) (0 + len * n) T C.toList 0 C1 w m3 (by simp [hCs]; omega) h3.allOne
      simp only [Nat.add_zero, Array.length_toList] at hst
      obtain ⟨r1, r2, r3, r4, r5, r6⟩ := setRow_at w (g.bx b) (C1.toList.take (0 + len * n) ++ C.toList ++ C1.toList.drop (0 + len * n + C.size)).toArray m3
      have hget : ∀ k, (C1.toList.take (0 + len * n) ++ C.toList ++ C1.toList.drop (0 + len * n + C.size)).toArray[k]? = if 0 + len * n ≤ k ∧ k < 0 + len * n + C.size then C[k - (0 + len * n)]? else C1[k]? := fun k => by
        rw [List.getElem?_toArray, splice_get _ _ _ C.size (by simp) (by simp [hCs]; omega)]
        simp
      have hm41 := m4.1
      have hRP : RepP w g (cs.take (len * n) ++ es2.flatten) (C1.toList.take (0 + len * n) ++ C.toList ++ C1.toList.drop (0 + len * n + C.size)).toArray := by
        refine ⟨by simp [hCs, flatten_len (srcA_each he)]; omega, fun k v hk => ?_⟩
        rw [hget]
        rw [List.getElem?_append] at hk
        have htl : (cs.take (len * n)).length = len * n := by simp; omega
        split at hk
        · rename_i hlt
          rw [if_neg (by omega)]
          rw [List.getElem?_take, if_pos (by omega)] at hk
          exact m4.2 k v hk
        · rename_i hlt
          have hk' : k - (cs.take (len * n)).length < es2.flatten.length := (List.getElem?_eq_some_iff.1 hk).1
          rw [flatten_len (srcA_each he)] at hk'
          rw [if_pos (by omega)]
          rw [htl] at hk
          rw [Nat.zero_add]
          exact h3.get hk
      obtain ⟨hS1, hE1⟩ := hs.setBox hb hc hRP r1 (by simp [hCs]; omega) r2 r3 r4 r5 r6
      obtain ⟨hS2, hE2⟩ := hS1.renameBox (b := b) (cs := cs.take (len * n) ++ es2.flatten) hb (by simp [H.set])
      have hkk : ((h.set b (cs.take (len * n) ++ es2.flatten)).kill b) = h.kill b := by
        simp only [H.set, H.kill]
        congr 1
        funext b'
        by_cases hbb : b' = b <;> simp [hbb]
      rw [hkk] at hS2
      refine ⟨_, _, _, run_value (run_append_in t t' ty e' hu hu' hu0 hn h1 h2 hfit (fun a ha => by cases ha; rw [lit_add]; exact hst) (fun ha => by cases ha)), ?_, hS2, hE1.trans hE2⟩
      have hbx : (g.box (g.bx b) (g.bs b)).bx h.bn = g.bx b ∧ (g.box (g.bx b) (g.bs b)).bs h.bn = g.bs b := by
        refine ⟨?_, ?_⟩
        · show (if h.bn = g.bn then _ else _) = _
          rw [if_pos hs.bn]
        · show (if h.bn = g.bn then _ else _) = _
          rw [if_pos hs.bn]
      have := Rep.msl (w := w.setRow (g.bx b) (C1.toList.take (0 + len * n) ++ C.toList ++ C1.toList.drop (0 + len * n + C.size)).toArray) (g := g.box (g.bx b) (g.bs b)) h.bn n 0 (len + es2.length) cap (by show h.bn < g.bn + 1; rw [hs.bn]; omega) hfit (by rw [hbx.2]; omega)
      rw [hbx.1] at this
      exact this
    · have hsrc : srcA h n (.msl b n 0 len) = some (chunks n len cs) := by
        simp only [srcA, hc, Option.bind_some]
        rw [if_pos ⟨trivial, hb, by omega⟩]
        simp
      obtain ⟨_, C0, p1, p2⟩ := run_src hsD hn0 (hS.mono heD.toGExt) hsrc
      obtain ⟨_, C', q1, q2⟩ := run_src hsD hn0 (hX.mono heD.toGExt) he
      rw [chunks_len] at p1
      obtain ⟨newCap, hnc, hrun⟩ := run_append_out t t' ty e' hu hu' hu0 hn hb' hb0 hZ h1 (by omega) hbnd p1 q1
      obtain ⟨_, hK, hP⟩ := grown_row (srcA_each hsrc) (srcA_each he) p2 q2 hZs (newCap := newCap) (by rw [chunks_len]; exact hnc)
      rw [chunks_len] at hK hP
      rw [List.flatten_append, chunks_flatten (by omega)] at hP
      generalize C0 ++ C' ++ Builtin.zeroCells Z.cells (newCap - (len + es2.length)) = K at hrun hK hP
      obtain ⟨hS', hE'⟩ := (hsD.dropBox b).allocBox K e' (cs.take (len * n) ++ es2.flatten) hP
      refine ⟨_, _, _, run_value hrun, ?_, hS', heD.trans hE'⟩
      have hbx : (g.box w.drew.heap.size K.size).bx h.bn = w.heap.size ∧ (g.box w.drew.heap.size K.size).bs h.bn = K.size := by
        refine ⟨?_, ?_⟩
        · show (if h.bn = g.bn then _ else _) = _
          rw [if_pos hs.bn]; rfl
        · show (if h.bn = g.bn then _ else _) = _
          rw [if_pos hs.bn]
      have := Rep.msl (w := w.drew.alloc (.cells K e')) (g := g.box w.drew.heap.size K.size) h.bn n 0 (len + es2.length) newCap (by show h.bn < g.bn + 1; rw [hs.bn]; omega) hnc (by rw [hbx.2]; omega)
      rw [hbx.1] at this
      exact this

end
end Go.Am

/- One operation, a region of operations: what the machine does is what the abstract machine says. -/
namespace Go.Am
open Go Go.RowKit

/-- What is asked where a call has returned. -/
def Post (P : Program) (base : Nat) (W : Nat → Prop) (w : World) (g : G) (r : AV) (h' : H) (e : Ending) (w' : World) : Prop :=
  ∃ R g', e = .returned R ∧ Rep w' g' r R ∧ Sim P base W w' g' h' ∧ Ext base W w g w' g'

/-- The function's contract: called on these values in this state it hands back r, and leaves that state. -/
def SCall (P : Program) (f : FuncId) (args : List AV) (h : H) (r : AV) (h' : H) : Prop :=
  (∃ fn, P.funcs[f]? = some fn ∧ (fn.name == "runtime.NumGoroutine") = false ∧ fn.body.isNone = false) ∧ ∀ base W w g Args, Sim P base W w g h → RepA w g args Args → Calls P f Args w (Post P base W w g r h')

/-- A round of a loop over a function. -/
def SYld (P : Program) (l : Nat) (args : List AV) (h : H) (r : AV) (h' : H) : Prop :=
  l < h.ln ∧ ∀ base W w g Args (c : Frame) (cs : List Frame), Sim P base W w g h → RepA w g args Args →
    ∃ F tmps assign body, (Instr.yield (g.lp l) Args).run P w = .ok (.round (g.lp l) F tmps assign body) w ∧
      ∃ R w' g', Steps P (lone (Frame.round (g.lp l) F tmps assign body .normal) (c :: cs) w) (lone (c.finish R) cs w') ∧ Rep w' g' r R ∧ Sim P base W w' g' h' ∧ Ext base W w g w' g'

/-- What is asked where a call has returned, whatever it hands back. -/
def PostQ (P : Program) (base : Nat) (W : Nat → Prop) (w : World) (g : G) (K : AV → H → Prop) (e : Ending) (w' : World) : Prop :=
  ∃ R g' r h', e = .returned R ∧ Rep w' g' r R ∧ Sim P base W w' g' h' ∧ Ext base W w g w' g' ∧ K r h'

/-- The function's contract: called on these values in this state it hands back a value, and leaves a state, that K takes. -/
def CallP (P : Program) (f : FuncId) (args : List AV) (h : H) (K : AV → H → Prop) : Prop :=
  (∃ fn, P.funcs[f]? = some fn ∧ (fn.name == "runtime.NumGoroutine") = false ∧ fn.body.isNone = false) ∧ ∀ base W w g Args, Sim P base W w g h → RepA w g args Args → Calls P f Args w (PostQ P base W w g K)

/-- A round of a loop over a function. -/
def YldP (P : Program) (l : Nat) (args : List AV) (h : H) (K : AV → H → Prop) : Prop :=
  ∀ base W w g Args, Sim P base W w g h → RepA w g args Args →
    ∃ F tmps assign body, (Instr.yield (g.lp l) Args).run P w = .ok (.round (g.lp l) F tmps assign body) w ∧ ∀ (c : Frame) (cs : List Frame),
      ∃ R w' g' r h', Steps P (lone (Frame.round (g.lp l) F tmps assign body .normal) (c :: cs) w) (lone (c.finish R) cs w') ∧ Rep w' g' r R ∧ Sim P base W w' g' h' ∧ Ext base W w g w' g' ∧ K r h'

def boxCells : AV → Option (List AV)
  | .agg cs => some cs
  | .undef | .tup _ | .skp => none
  | v => some [v]

inductive InsR (P : Program) (e : Opd → AV) (h : H) : IOp → AV → H → Prop where
  | pure (op : IOp) (v : AV) : pv op e h = some v → InsR P e h op v h
  | alloc (z : List AV) : InsR P e h (.alloc z) (.ptr h.bn 0) (h.alloc z)
  | box (x : Opd) (cs : List AV) : boxCells (e x) = some cs → InsR P e h (.box x) (.ptr h.bn 0) (h.alloc cs)
  | store (n : Nat) (a x : Opd) (b o : Nat) (cs xs : List AV) : e a = .ptr b o → b < h.bn → h.bx b = some cs → fit n (e x) = some xs → o + n ≤ cs.length →
      InsR P e h (.store n a x) .undef (h.set b (cs.take o ++ xs ++ cs.drop (o + n)))
  | append (sz bytes : Nat) (s x : Opd) (v : AV) (h' : H) : AppR h sz bytes (e s) (e x) v h' → InsR P e h (.append sz bytes s x) v h'
  | mkval (sz bytes : Nat) (z : List AV) (l c : Opd) (k k' : IntKind) (n : Nat) : e l = .int k n → e c = .int k' n → n * bytes ≤ 140737488355328 → n ≤ 9223372036854775807 → InsR P e h (.mksl sz bytes z l c) (.sl .full (List.replicate n z)) h
  | mkbox (sz bytes : Nat) (z : List AV) (l c : Opd) (k k' : IntKind) (n : Nat) : e l = .int k n → e c = .int k' n → n * bytes ≤ 140737488355328 → n ≤ 9223372036854775807 →
      InsR P e h (.mksl sz bytes z l c) (.msl h.bn sz 0 n) (h.alloc (List.replicate n z).flatten)
  | callF (f : Opd) (args : List Opd) (F : FuncId) (first caps : List AV) (r : AV) (h' : H) : e f = .fn F first caps → SCall P F (first ++ args.map e ++ caps) h r h' → InsR P e h (.call f args) r h'
  | clear (sz : Nat) (z : List AV) (x : Opd) (b off len : Nat) (cs : List AV) : e x = .msl b sz off len → b < h.bn → h.bx b = some cs → 0 < len → off + len * sz ≤ cs.length → InsR P e h (.clear sz z x) .undef (h.set b (cs.take off ++ (List.replicate len z).flatten ++ cs.drop (off + len * sz)))
  | mkmap : InsR P e h .mkmap (.map h.mn) h.newMap
  | mapup (m k v : Opd) (mi : Nat) (es es' : List (AV × AV)) (kk : IntKind) (n : Int) : e m = .map mi → mi < h.mn → h.mp mi = some es → e k = .int kk n → ok1 (e v) = true → mapPut kk n (e v) es = some es' → InsR P e h (.mapup m k v) .undef (h.setMap mi es')
  | callY (f : Opd) (args : List Opd) (l : Nat) (r : AV) (h' : H) : e f = .yld l → SYld P l (args.map e) h r h' → InsR P e h (.call f args) r h'

def put (s : Slots) (d : Option Nat) (v : AV) : Slots :=
  match d with
  | some d => su s d v
  | none => s

inductive OpsR (P : Program) : List Ins → Slots → H → Slots → H → Prop where
  | nil (s : Slots) (h : H) : OpsR P [] s h s h
  | skip (i : Ins) (is : List Ins) (s : Slots) (h : H) (s' : Slots) (h' : H) (t : Nat) (b : Bool) : i.g = some (t, b) → (s t = .bool (!b) ∨ s t = .skp) → OpsR P is (put s i.dst .skp) h s' h' → OpsR P (i :: is) s h s' h'
  | step (i : Ins) (is : List Ins) (s : Slots) (h : H) (v : AV) (h1 : H) (s' : Slots) (h' : H) : (∀ t b, i.g = some (t, b) → s t = .bool b) → InsR P (ev s) h i.op v h1 → OpsR P is (put s i.dst v) h1 s' h' → OpsR P (i :: is) s h s' h'

section
variable {P : Program} {base : Nat} {W : Nat → Prop}

theorem RepS.put {w : World} {g : G} {s : Slots} {a : Act} {N : Nat} (hr : RepS w g s a.tmps) (hN : a.tmps.size = N) {d : Option Nat} (hd : ∀ t, d = some t → t < N) {v : AV} {V : Value} (hv : Rep w g v V) :
    RepS w g (put s d v) (a.put d V).tmps ∧ (a.put d V).tmps.size = N ∧ (a.put d V).defers = a.defers := by
  cases d with
  | none => exact ⟨hr, hN, rfl⟩
  | some t =>
    refine ⟨fun j => ?_, by simp [Act.put, hN], rfl⟩
    show Rep w g (if j = t then v else s j) ((a.tmps.setIfInBounds t V).getD j undef)
    by_cases hj : j = t
    · subst hj
      rw [if_pos rfl]
      have := hd j rfl
      simp [hN, this]
      exact hv
    · rw [if_neg hj]
      have := hr j
      simp only [Array.getD_eq_getD_getElem?, Array.getElem?_setIfInBounds] at this ⊢
      rw [if_neg (fun h => hj h.symm)]
      exact this

section steps
variable {b : Frame} {a : Act} {k : List Item} {cs : List Frame} {w w' : World} {ops : Array Oper} {i : Nat} {rest : List Nat} {o : Oper}

theorem stepR_value (ho : ops[i]? = some o) (hw : Region.wanted o (yielded ops a.tmps) = true) (hd : ∀ c, o.op ≠ .defer c) {V : Value} (hr : (execOp a.eval o).run P w = .ok (.value V) w') :
    step P (lone (b.atR a (.inRegion ops (i :: rest) :: k)) cs w) = .next (lone (b.atR (a.put o.dst V) (.inRegion ops rest :: k)) cs w') := by
  have hfin : (b.atR a (.inRegion ops (i :: rest) :: k)).finish V = b.atR (a.put o.dst V) (.inRegion ops rest :: k) := by rw [Frame.finish_atR, ho]; rfl
  refine step_lone_go ?_
  rw [stepGR_op ho hw, Oper.semAt_eq _ _ _ hd, ← hfin]
  simp [stepG.apply, hr]

theorem stepR_skipRes (ho : ops[i]? = some o) (hw : Region.wanted o (yielded ops a.tmps) = true) (hd : ∀ c, o.op ≠ .defer c) (hr : (execOp a.eval o).run P w = .ok .skip w') :
    step P (lone (b.atR a (.inRegion ops (i :: rest) :: k)) cs w) = .next (lone (b.atR (a.put o.dst undef) (.inRegion ops rest :: k)) cs w') := by
  have hfin : (b.atR a (.inRegion ops (i :: rest) :: k)).finish undef = b.atR (a.put o.dst undef) (.inRegion ops rest :: k) := by rw [Frame.finish_atR, ho]; rfl
  refine step_lone_go ?_
  rw [stepGR_op ho hw, Oper.semAt_eq _ _ _ hd, ← hfin]
  simp [stepG.apply, hr]

theorem stepR_enter (ho : ops[i]? = some o) (hw : Region.wanted o (yielded ops a.tmps) = true) (hd : ∀ c, o.op ≠ .defer c) {f : FuncId} {args : Array Value} (hr : (execOp a.eval o).run P w = .ok (.enter f args) w') :
    step P (lone (b.atR a (.inRegion ops (i :: rest) :: k)) cs w) = .next (lone (Frame.enter P f args .normal) (b.atR a (.inRegion ops (i :: rest) :: k) :: cs) w') := by
  refine step_lone_go ?_
  rw [stepGR_op ho hw, Oper.semAt_eq _ _ _ hd]
  simp [stepG.apply, hr, Frame.atR]

theorem stepR_round (ho : ops[i]? = some o) (hw : Region.wanted o (yielded ops a.tmps) = true) (hd : ∀ c, o.op ≠ .defer c) {l : Nat} {f : FuncId} {tmps : Array Value} {x y : Code} (hr : (execOp a.eval o).run P w = .ok (.round l f tmps x y) w') :
    step P (lone (b.atR a (.inRegion ops (i :: rest) :: k)) cs w) = .next (lone (Frame.round l f tmps x y .normal) (b.atR a (.inRegion ops (i :: rest) :: k) :: cs) w') := by
  refine step_lone_go ?_
  rw [stepGR_op ho hw, Oper.semAt_eq _ _ _ hd]
  simp [stepG.apply, hr, Frame.atR]
end steps

/-! ### What an operation was, read off its translation -/
def IOp.kind : IOp → Nat
  | .alloc _ => 1
  | .box _ => 2
  | .store .. => 3
  | .append .. => 4
  | .mksl .. => 5
  | .call .. => 6
  | .mkmap => 7
  | .mapup .. => 8
  | .clear .. => 9
  | _ => 0

def calleeKind : Callee → Nat
  | .builtin .append => 4
  | .builtin .clear => 9
  | .value _ => 6
  | _ => 0
theorem calleeKind_is (c : Callee) : calleeKind c = 0 ∨ (calleeKind c = 4 ∧ c = .builtin .append) ∨ (calleeKind c = 6 ∧ ∃ f, c = .value f) ∨ (calleeKind c = 9 ∧ c = .builtin .clear) := by
  cases c with
  | value f => exact .inr (.inr (.inl ⟨rfl, f, rfl⟩))
  | invoke r m => exact .inl rfl
  | builtin b => cases b <;> first | exact .inl rfl | exact .inr (.inl ⟨rfl, rfl⟩) | exact .inr (.inr (.inr ⟨rfl, rfl⟩))

def opKind : Op → Nat
  | .alloc _ => 1
  | .box .. => 2
  | .store .. => 3
  | .makeSlice .. => 5
  | .call c => calleeKind c.callee
  | .makeMap .. => 7
  | .mapUpdate .. => 8
  | _ => 0

theorem cOp1_kind {N : Nat} {o : Oper} {op : IOp} (hc : cOp1 P N o = some op) : op.kind = opKind o.op := by
  cases hop : o.op with
  | move x => simp only [cOp1, hop, Option.map_eq_some_iff] at hc; obtain ⟨_, _, rfl⟩ := hc; rfl
  | assign x => simp only [cOp1, hop, Option.map_eq_some_iff] at hc; obtain ⟨_, _, rfl⟩ := hc; rfl
  | pick c x y => simp only [cOp1, hop, Option.map_eq_some_iff, Option.bind_eq_some_iff] at hc; obtain ⟨_, _, _, _, _, _, rfl⟩ := hc; rfl
  | alloc t => simp only [cOp1, hop, Option.map_eq_some_iff] at hc; obtain ⟨_, _, rfl⟩ := hc; rfl
  | box t x => simp only [cOp1, hop, Option.map_eq_some_iff] at hc; obtain ⟨_, _, rfl⟩ := hc; rfl
  | build t ps =>
    simp only [cOp1, hop, Option.bind_eq_some_iff] at hc
    obtain ⟨z, _, hc⟩ := hc
    split at hc
    · simp only [Option.map_eq_some_iff, Option.bind_eq_some_iff] at hc; obtain ⟨_, _, _, _, rfl⟩ := hc; rfl
    · simp only [Option.map_eq_some_iff, Option.bind_eq_some_iff] at hc; obtain ⟨_, _, _, _, rfl⟩ := hc; rfl
    · cases hc
  | buildSlice t l ps =>
    simp only [cOp1, hop] at hc
    split at hc
    · simp only [Option.bind_eq_some_iff] at hc
      obtain ⟨_, _, _, _, _, _, hc⟩ := hc
      split at hc
      · cases hc; rfl
      · cases hc
    · cases hc
  | load t x =>
    simp only [cOp1, hop, Option.bind_eq_some_iff] at hc
    obtain ⟨_, _, _, _, _, _, hc⟩ := hc
    split at hc
    · cases hc; rfl
    · cases hc
  | store t x y => simp only [cOp1, hop, Option.map_eq_some_iff, Option.bind_eq_some_iff] at hc; obtain ⟨_, _, _, _, _, _, rfl⟩ := hc; rfl
  | nilCheck x => simp only [cOp1, hop, Option.map_eq_some_iff] at hc; obtain ⟨_, _, rfl⟩ := hc; rfl
  | binOp op' t x y yt =>
    simp only [cOp1, hop, Option.bind_eq_some_iff] at hc
    obtain ⟨x', hx', y', hy', hc⟩ := hc
    have he : ((flat P 60 t).bind fun n => (aggT P t).bind fun ag => if P.eqGuardType P.depth t then none else match op' with
        | .eql => some (IOp.eq n ag false x' y')
        | .neq => some (.eq n ag true x' y')
        | _ => none) = some op → op.kind = 0 := fun hc => by
      simp only [Option.bind_eq_some_iff] at hc
      obtain ⟨_, _, _, _, hc⟩ := hc
      split at hc
      · cases hc
      · split at hc
        · cases hc; rfl
        · cases hc; rfl
        · cases hc
    split at hc
    · cases hc; rfl
    · cases hc; rfl
    · exact he hc
    · exact he hc
    · exact he hc
    · split at hc
      · cases hc; rfl
      · cases hc; rfl
      · cases hc
    · cases hc
  | unOp op' t x => simp only [cOp1, hop, Option.map_eq_some_iff] at hc; obtain ⟨_, _, rfl⟩ := hc; rfl
  | convert sT d x =>
    simp only [cOp1, hop, Option.bind_eq_some_iff] at hc
    obtain ⟨_, _, hc⟩ := hc
    split at hc
    · cases hc; rfl
    · split at hc
      · cases hc; rfl
      · cases hc
    · cases hc
  | fieldAddr sT x f =>
    simp only [cOp1, hop] at hc
    split at hc
    · simp only [Option.bind_eq_some_iff] at hc
      obtain ⟨_, _, _, _, hc⟩ := hc
      split at hc
      · cases hc
      · simp only [Option.map_eq_some_iff] at hc; obtain ⟨_, _, rfl⟩ := hc; rfl
    · cases hc
  | field sT x f =>
    simp only [cOp1, hop] at hc
    split at hc
    · simp only [Option.bind_eq_some_iff] at hc
      obtain ⟨_, _, _, _, _, _, hc⟩ := hc
      split at hc
      · simp only [Option.map_eq_some_iff] at hc; obtain ⟨_, _, rfl⟩ := hc; rfl
      · cases hc
    · cases hc
  | indexAddr t x i =>
    simp only [cOp1, hop, Option.bind_eq_some_iff] at hc
    obtain ⟨_, _, _, _, hc⟩ := hc
    split at hc
    · simp only [Option.map_eq_some_iff] at hc; obtain ⟨_, _, rfl⟩ := hc; rfl
    · simp only [Option.map_eq_some_iff] at hc; obtain ⟨_, _, rfl⟩ := hc; rfl
    · cases hc
  | index t x i =>
    simp only [cOp1, hop, Option.bind_eq_some_iff] at hc
    obtain ⟨_, _, _, _, hc⟩ := hc
    split at hc
    · simp only [Option.bind_eq_some_iff] at hc
      obtain ⟨_, _, _, _, hc⟩ := hc
      split at hc
      · cases hc; rfl
      · cases hc
    · cases hc; rfl
    · cases hc
  | slice t x lo hi mx =>
    simp only [cOp1, hop, Option.bind_eq_some_iff] at hc
    obtain ⟨_, _, _, _, _, _, _, _, hc⟩ := hc
    split at hc
    · simp only [Option.map_eq_some_iff] at hc; obtain ⟨_, _, rfl⟩ := hc; rfl
    · split at hc
      · cases hc
      · cases hc; rfl
    · cases hc
  | extract x n => simp only [cOp1, hop, Option.map_eq_some_iff] at hc; obtain ⟨_, _, rfl⟩ := hc; rfl
  | makeFunc fn first caps =>
    cases fn with
    | func f => simp only [cOp1, hop, Option.bind_eq_some_iff, Option.map_eq_some_iff] at hc; obtain ⟨_, _, _, _, rfl⟩ := hc; rfl
    | method n => simp [cOp1, hop] at hc
    | methodOf t n => simp [cOp1, hop] at hc
    | via t p f q => simp [cOp1, hop] at hc
    | yield l => simp [cOp1, hop] at hc
  | makeSlice t l c =>
    simp only [cOp1, hop] at hc
    split at hc
    · simp only [Option.bind_eq_some_iff] at hc
      obtain ⟨_, _, _, _, _, _, _, _, _, _, hc⟩ := hc
      split at hc
      · cases hc; rfl
      · cases hc
    · cases hc
  | call c =>
    obtain ⟨callee, args, argTypes⟩ := c
    cases callee with
    | value f => simp only [cOp1, hop, Option.bind_eq_some_iff, Option.map_eq_some_iff] at hc; obtain ⟨_, _, _, _, rfl⟩ := hc; rfl
    | invoke r m => simp [cOp1, hop] at hc
    | builtin b =>
      cases b with
      | len =>
        simp only [cOp1, hop, Option.bind_eq_some_iff] at hc
        obtain ⟨_, _, _, _, _, _, hc⟩ := hc
        split at hc
        · cases hc; rfl
        · cases hc; rfl
        · cases hc; rfl
        · split at hc
          · cases hc; rfl
          · cases hc
        · cases hc
      | panic => simp only [cOp1, hop, Option.some.injEq] at hc; subst hc; rfl
      | cap =>
        simp only [cOp1, hop, Option.bind_eq_some_iff] at hc
        obtain ⟨_, _, _, _, _, _, hc⟩ := hc
        split at hc
        · cases hc; rfl
        · cases hc
      | clear =>
        simp only [cOp1, hop, Option.bind_eq_some_iff] at hc
        obtain ⟨_, _, _, _, _, _, hc⟩ := hc
        split at hc
        · simp only [Option.bind_eq_some_iff] at hc
          obtain ⟨_, _, _, _, hc⟩ := hc
          split at hc
          · cases hc; rfl
          · cases hc
        · cases hc
      | min => simp only [cOp1, hop, Option.map_eq_some_iff] at hc; obtain ⟨_, _, rfl⟩ := hc; rfl
      | max => simp only [cOp1, hop, Option.map_eq_some_iff] at hc; obtain ⟨_, _, rfl⟩ := hc; rfl
      | append =>
        simp only [cOp1, hop] at hc
        split at hc
        · split at hc
          · simp only [Option.bind_eq_some_iff] at hc
            obtain ⟨_, _, _, _, _, _, _, _, _, _, hc⟩ := hc
            split at hc
            · cases hc; rfl
            · cases hc
          · simp only [Option.bind_eq_some_iff] at hc
            obtain ⟨_, _, _, _, _, _, _, _, _, _, hc⟩ := hc
            split at hc
            · cases hc; rfl
            · cases hc
          · cases hc
        · cases hc
      | _ => simp [cOp1, hop] at hc
  | panic x => simp only [cOp1, hop, Option.some.injEq] at hc; subst hc; rfl
  | makeInterface t x => simp only [cOp1, hop, Option.some.injEq] at hc; subst hc; rfl
  | makeMap t r =>
    cases r with
    | none => simp only [cOp1, hop, Option.some.injEq] at hc; subst hc; rfl
    | some r => simp [cOp1, hop] at hc
  | lookup t m k ok =>
    simp only [cOp1, hop] at hc
    split at hc
    · split at hc
      · simp only [Option.bind_eq_some_iff, Option.map_eq_some_iff] at hc
        obtain ⟨_, _, _, _, _, _, rfl⟩ := hc
        rfl
      · cases hc
    · cases hc
  | mapUpdate t m k v' =>
    simp only [cOp1, hop] at hc
    split at hc
    · split at hc
      · simp only [Option.bind_eq_some_iff, Option.map_eq_some_iff] at hc
        obtain ⟨_, _, _, _, _, _, rfl⟩ := hc
        rfl
      · cases hc
    · cases hc
  | _ => simp [cOp1, hop] at hc

theorem boxCells_rep {w : World} {g : G} {v : AV} {cs : List AV} {V : Value} (hf : boxCells v = some cs) (hr : Rep w g v V) : RepC w g cs V.cells := by
  cases v with
  | agg c =>
    simp only [boxCells, Option.some.injEq] at hf
    subst hf
    obtain ⟨C, rfl, hC⟩ := hr.agg_inv
    exact hC
  | undef => simp [boxCells] at hf
  | skp => simp [boxCells] at hf
  | tup c => simp [boxCells] at hf
  | _ =>
    simp only [boxCells, Option.some.injEq] at hf
    subst hf
    exact (fit_rep (n := 1) (by simp [fit]) hr).1

theorem RepA.app {w : World} {g : G} {xs ys : List AV} {X Y : Array Value} (h1 : RepA w g xs X) (h2 : RepA w g ys Y) : RepA w g (xs ++ ys) (X ++ Y) := by
  obtain ⟨l1, r1⟩ := h1
  obtain ⟨l2, r2⟩ := h2
  refine ⟨by simp [l1, l2], fun k hk => ?_⟩
  by_cases hlt : k < xs.length
  · rw [List.getElem_append_left hlt, Array.getElem_append_left (by omega)]
    exact r1 k hlt
  · have hk' : k - xs.length < ys.length := by simp at hk; omega
    rw [List.getElem_append_right (by omega), Array.getElem_append_right (by omega)]
    have := r2 (k - xs.length) hk'
    simpa [l1] using this

theorem run_value' {a : Act} {o : Oper} {t : TypeId} {l c : Operand} {w w' : World} {V : Value} (ho : o.op = .makeSlice t l c) (h : (Instr.makeSlice t (a.eval l) (a.eval c)).run P w = .ok V w') : (execOp a.eval o).run P w = .ok (.value V) w' := by
  simp only [execOp, ho]
  exact run_value h

theorem run_mkslA {N : Nat} {s : Slots} {a : Act} {w : World} {g : G} {h : H} (_hs : Sim P base W w g h) (hr : RepS w g s a.tmps) {o : Oper} {t : TypeId} {l' c' : Operand} (ho : o.op = .makeSlice t l' c') {sz bytes : Nat} {z : List AV} {l c : Opd}
    (hc : cOp1 P N o = some (.mksl sz bytes z l c)) {k k' : IntKind} {n : Nat} (hl : ev s l = .int k n) (hcap : ev s c = .int k' n) (hbnd : n * bytes ≤ 140737488355328) (hn : n ≤ 9223372036854775807) :
    ∃ e' K, (Instr.makeSlice t (a.eval l') (a.eval c')).run P w = .ok (.slice (some ⟨w.heap.size, 0, none⟩) n n) (w.alloc (.cells K e')) ∧ 0 < sz ∧ z.length = sz ∧ K.size = n * sz ∧ ∀ w g, RepC w g (List.replicate n z).flatten K := by
  simp only [cOp1, ho] at hc
  split at hc
  · rename_i e' hu
    simp only [Option.bind_eq_some_iff] at hc
    obtain ⟨m, hm, by', hby, z', hz, p, hp, q, hq, hc⟩ := hc
    split at hc
    · rename_i hcond
      obtain ⟨hm0, hzl⟩ := hcond
      cases hc
      obtain ⟨Z, hZ, hzrep⟩ := run_zeroT hz
      have hZs : Z.cells.size = sz := by have := (hzrep w g).1.1; omega
      have hL := ev_rep hr hp
      have hC := ev_rep hr hq
      rw [hl] at hL
      rw [hcap] at hC
      have hL' := hL.int_inv
      have hC' := hC.int_inv
      obtain ⟨i, hi, hib⟩ := Option.map_eq_some_iff.1 hby
      have hti : ∀ w, (typeInfo e').run P w = .ok i w := fun w => by simp [typeInfo, hi]
      have hwrap : IntKind.i64.wrap (n : Int) = n := IntWalk.i64_in n ⟨by omega, by omega⟩
      have hmulI : ((bytes : Int) * (n : Int)) ≤ 140737488355328 := by
        have h1 : ((n * bytes : Nat) : Int) ≤ ((140737488355328 : Nat) : Int) := Int.ofNat_le.2 hbnd
        rw [Int.natCast_mul, Int.mul_comm] at h1
        exact h1
      have hlim : (2 : Int) ^ 48 = 281474976710656 := by decide
      refine ⟨e', (Array.range (n * sz)).map (fun x => Z.cells[x % Z.cells.size]!), ?_, hm0, hzl, by simp, fun w2 g2 => ?_⟩
      · simp only [Instr.makeSlice, Sem.run_bind, run_underlying hu, Result.andThen_ok, hL', hC', asInt, asIntOf, Sem.run_pure, hti, hwrap, hib, hlim]
        have c1 : decide ((n : Int) < 0) = false := decide_eq_false (by omega)
        have c2 : decide ((bytes : Int) * (n : Int) > 281474976710656) = false := decide_eq_false (by omega)
        have c3 : decide ((n : Int) > (n : Int)) = false := decide_eq_false (by omega)
        simp only [c1, c2, c3, Bool.or_self, Bool.false_eq_true, if_false, run_askRoom, Result.andThen_ok, Sem.run_bind, Int.toNat_natCast, run_szT hm]
        by_cases h0 : n * sz = 0
        · have hz0 : (Array.range (n * sz)).map (fun x => (#[] : Array Value)[x % (#[] : Array Value).size]!) = (Array.range (n * sz)).map (fun x => Z.cells[x % Z.cells.size]!) := by rw [h0]; simp
          simp only [if_pos h0, Sem.run_pure, Result.andThen_ok, newRow, Sem.run_bind, run_newObj, hz0]
          rfl
        · simp only [if_neg h0, Sem.run_bind, hZ, Sem.run_pure, Result.andThen_ok, newRow, run_newObj]
          rfl
      · have hfl : (List.replicate n z).flatten.length = n * sz := by
          have := flatten_len (z := sz) (es := List.replicate n z) (fun e he => by rw [(List.mem_replicate.1 he).2]; exact hzl)
          simpa using this
        refine RepC.mk (by simp [hfl]) fun k v hk => ?_
        have hkl : k < n * sz := by rw [← hfl]; exact (List.getElem?_eq_some_iff.1 hk).1
        have hdm : k / sz * sz + k % sz = k := by rw [Nat.mul_comm]; exact Nat.div_add_mod k sz
        have hmod : k % sz < sz := Nat.mod_lt _ hm0
        have hdiv : k / sz < n := Nat.div_lt_of_lt_mul (by rw [Nat.mul_comm]; exact hkl)
        have hget := flatten_get (z := sz) (es := List.replicate n z) (fun e he => by rw [(List.mem_replicate.1 he).2]; exact hzl) (k / sz) (k % sz) hmod
        rw [hdm, hk, List.getElem?_replicate, if_pos hdiv, Option.bind_some] at hget
        obtain ⟨V, r1, r2⟩ := (hzrep w2 g2).get hget.symm
        refine ⟨V, ?_, r2⟩
        have hlt : k % sz < Z.cells.size := by omega
        have hk1 : (Array.range (n * sz))[k]? = some k := by simp [hkl]
        rw [Array.getElem?_map, hk1, Option.map_some, hZs, getElem!_pos Z.cells (k % sz) hlt]
        exact congrArg some (Array.getElem?_eq_some_iff.1 r1).2
    · cases hc
  · cases hc

theorem zeroCells_rep {w : World} {g : G} {z : List AV} {Z : Array Value} {sz n : Nat} (h0 : 0 < sz) (hz : z.length = sz) (hZ : Z.size = sz) (hr : RepC w g z Z) : RepC w g (List.replicate n z).flatten (Builtin.zeroCells Z n) := by
  have hfl : (List.replicate n z).flatten.length = n * sz := by
    have := flatten_len (z := sz) (es := List.replicate n z) (fun e he => by rw [(List.mem_replicate.1 he).2]; exact hz)
    simpa using this
  refine RepC.mk (by rw [hfl, zeroCells_size, hZ]) fun k v hk => ?_
  have hkl : k < n * sz := by rw [← hfl]; exact (List.getElem?_eq_some_iff.1 hk).1
  have hdm : k / sz * sz + k % sz = k := by rw [Nat.mul_comm]; exact Nat.div_add_mod k sz
  have hmod : k % sz < sz := Nat.mod_lt _ h0
  have hdiv : k / sz < n := Nat.div_lt_of_lt_mul (by rw [Nat.mul_comm]; exact hkl)
  have hget := flatten_get (z := sz) (es := List.replicate n z) (fun e he => by rw [(List.mem_replicate.1 he).2]; exact hz) (k / sz) (k % sz) hmod
  rw [hdm, hk, List.getElem?_replicate, if_pos hdiv, Option.bind_some] at hget
  obtain ⟨V, r1, r2⟩ := hr.get hget.symm
  refine ⟨V, ?_, r2⟩
  have hlt : k % sz < Z.size := by omega
  have hk1 : (Array.range (n * Z.size))[k]? = some k := by rw [hZ]; simp [hkl]
  unfold Builtin.zeroCells
  rw [Array.getElem?_map, hk1, Option.map_some, hZ, getElem!_pos Z (k % sz) hlt]
  exact congrArg some (Array.getElem?_eq_some_iff.1 r1).2

/-- One operation in a region. -/
theorem ins_sound {N : Nat} {s : Slots} {a : Act} {w : World} {g : G} {h h' : H} (hs : Sim P base W w g h) (hr : RepS w g s a.tmps) {o : Oper} {op : IOp} (hc : cOp1 P N o = some op) {v : AV} (hi : InsR P (ev s) h op v h') :
    (Done P base W w g h' v ((execOp a.eval o).run P w)) ∨
    (∃ w' g', (execOp a.eval o).run P w = .ok .skip w' ∧ v = .undef ∧ Sim P base W w' g' h' ∧ Ext base W w g w' g') ∨
    (∃ F Args, (execOp a.eval o).run P w = .ok (.enter F Args) w ∧ Calls P F Args w (Post P base W w g v h')) ∨
    (∃ l F tmps x y, (execOp a.eval o).run P w = .ok (.round l F tmps x y) w ∧ ∀ (c : Frame) (cs : List Frame), ∃ R w' g', Steps P (lone (Frame.round l F tmps x y .normal) (c :: cs) w) (lone (c.finish R) cs w') ∧ Rep w' g' v R ∧ Sim P base W w' g' h' ∧ Ext base W w g w' g') := by
  have hk := cOp1_kind hc
  have hbox : ∀ (K : Array Value) , (g.box w.heap.size K.size).bx h.bn = w.heap.size ∧ (g.box w.heap.size K.size).bs h.bn = K.size := fun K => by
    refine ⟨?_, ?_⟩
    · show (if h.bn = g.bn then _ else _) = _
      rw [if_pos hs.bn]
    · show (if h.bn = g.bn then _ else _) = _
      rw [if_pos hs.bn]
  have hptr : ∀ (K : Array Value) (w' : World), Rep w' (g.box w.heap.size K.size) (.ptr h.bn 0) (.pointer (some ⟨w.heap.size, 0, none⟩)) := fun K w' => by
    have := Rep.ptr (w := w') (g := g.box w.heap.size K.size) h.bn 0 (by show h.bn < g.bn + 1; rw [hs.bn]; omega)
    rw [(hbox K).1] at this
    exact this
  cases hi with
  | pure op v hv => exact .inl (pv_sound hs hr hc hv)
  | alloc z =>
    left
    cases hop : o.op <;> rw [hop] at hk <;> simp only [IOp.kind, opKind] at hk <;> try omega
    case alloc t =>
      simp only [cOp1, hop, Option.map_eq_some_iff] at hc
      obtain ⟨z', hz, hzz⟩ := hc
      cases hzz
      obtain ⟨Z, hZ, hzrep⟩ := run_zeroT hz
      obtain ⟨hS, hE⟩ := hs.allocBox Z.cells t z (hzrep w g).toP
      refine ⟨_, _, _, ?_, hptr Z.cells _, hS, hE⟩
      simp only [execOp, hop]
      exact run_value (by simp only [Instr.alloc, Sem.run_bind, hZ, Result.andThen_ok, newVar, newRow, run_newObj, Sem.run_pure]; rfl)
    case call c => rcases calleeKind_is c.callee with h1 | ⟨h1, _⟩ | ⟨h1, _⟩ | ⟨h1, _⟩ <;> omega
  | box x cs hx =>
    left
    cases hop : o.op <;> rw [hop] at hk <;> simp only [IOp.kind, opKind] at hk <;> try omega
    case box t y =>
      simp only [cOp1, hop, Option.map_eq_some_iff] at hc
      obtain ⟨x', hx', hxx⟩ := hc
      cases hxx
      have hrep := boxCells_rep hx (ev_rep hr hx')
      obtain ⟨hS, hE⟩ := hs.allocBox (a.eval y).cells t cs hrep.toP
      refine ⟨_, _, _, ?_, hptr (a.eval y).cells _, hS, hE⟩
      simp only [execOp, hop]
      exact run_value (by simp only [Instr.box, newVar, newRow, Sem.run_bind, run_newObj, Result.andThen_ok, Sem.run_pure]; rfl)
    case call c => rcases calleeKind_is c.callee with h1 | ⟨h1, _⟩ | ⟨h1, _⟩ | ⟨h1, _⟩ <;> omega
  | store n x y b' o' cs xs hx hb hbx hf hl =>
    right; left
    cases hop : o.op <;> rw [hop] at hk <;> simp only [IOp.kind, opKind] at hk <;> try omega
    case store t x' y' =>
      simp only [cOp1, hop, Option.map_eq_some_iff, Option.bind_eq_some_iff] at hc
      obtain ⟨p, hp, q, hq, m, hm, hee⟩ := hc
      cases hee
      have ha := ev_rep hr hp
      rw [hx] at ha
      obtain ⟨w', h1, h2, h3⟩ := run_storeAtA hm hs ha (ev_rep hr hq) hb hbx hf hl
      exact ⟨w', g, by simp only [execOp, hop, Sem.run_bind, h1, Result.andThen_ok, Sem.run_pure], rfl, h2, h3⟩
    case call c => rcases calleeKind_is c.callee with h1 | ⟨h1, _⟩ | ⟨h1, _⟩ | ⟨h1, _⟩ <;> omega
  | append sz bytes x y v h' ha =>
    left
    cases hop : o.op <;> rw [hop] at hk <;> simp only [IOp.kind, opKind] at hk <;> try omega
    case call c =>
      obtain ⟨callee, args, argTypes⟩ := c
      have hk : 4 = calleeKind callee := hk
      rcases calleeKind_is callee with h1 | ⟨h1, hcall⟩ | ⟨h1, _⟩ | ⟨h1, _⟩
      · omega
      · subst hcall
        simp only [cOp1, hop] at hc
        split at hc
        · rename_i s' x' t t' hargs hats
          have hargs' : args = #[s', x'] := by apply Array.ext'; simpa using hargs
          have hats' : argTypes = #[t, t'] := by apply Array.ext'; simpa using hats
          subst hargs' hats'
          have hexec : (execOp a.eval o).run P w = (do pure (.value (← Builtin.append_ #[t, t'] o.type #[a.eval s', a.eval x'])) : Sem Next).run P w := by
            have hm : (#[s', x'] : Array Operand).map a.eval = #[a.eval s', a.eval x'] := by simp
            simp only [execOp, hop, resolve, Sem.run_bind, Sem.run_pure, Result.andThen_ok, invoke, builtin, hm]
          split at hc
          · rename_i e' e2 hu hu'
            simp only [Option.bind_eq_some_iff] at hc
            obtain ⟨n, hn, by', hby, z, hz, p, hp, q, hq, hc⟩ := hc
            split at hc
            · rename_i hcond
              cases hc
              rw [hexec]
              exact app_sound t t' o.type e' hu hu' (by simp) hn hcond.1 hby hcond.2.2 hz hcond.2.1 hs (ev_rep hr hp) (ev_rep hr hq) ha
            · cases hc
          · rename_i e' hu hu'
            simp only [Option.bind_eq_some_iff] at hc
            obtain ⟨n, hn, by', hby, z, hz, p, hp, q, hq, hc⟩ := hc
            split at hc
            · rename_i hcond
              cases hc
              rw [hexec]
              exact app_sound t t' o.type e' hu hu' (by simp) hn hcond.1 hby hcond.2.2 hz hcond.2.1 hs (ev_rep hr hp) (ev_rep hr hq) ha
            · cases hc
          · cases hc
        · cases hc
      · omega
      · omega
  | clear sz z x b off len cs hx hb hbx hl hle =>
    left
    cases hop : o.op <;> rw [hop] at hk <;> simp only [IOp.kind, opKind] at hk <;> try omega
    case call c =>
      obtain ⟨callee, args, argTypes⟩ := c
      have hk : 9 = calleeKind callee := hk
      rcases calleeKind_is callee with h1 | ⟨h1, _⟩ | ⟨h1, _⟩ | ⟨h1, hcall⟩
      · omega
      · omega
      · omega
      · subst hcall
        simp only [cOp1, hop, Option.bind_eq_some_iff] at hc
        obtain ⟨t, ht, x', hx', y, hy, hc⟩ := hc
        have hX := ev_rep hr hy
        have hax : (args.map a.eval)[0]? = some (a.eval x') := by simp [hx']
        split at hc
        · rename_i e' hu
          simp only [Option.bind_eq_some_iff] at hc
          obtain ⟨n, hn, z', hz', hc⟩ := hc
          split at hc
          · rename_i hcond
            cases hc
            rw [hx] at hX
            obtain ⟨cap, hXe, hbn, hcap, hbs⟩ := hX.msl_inv
            obtain ⟨m1, m2, C1, T, m3, m4, m5⟩ := hs.box b cs hb hbx
            obtain ⟨Z, hZ, hzrep⟩ := run_zeroT hz'
            have hZs : Z.cells.size = sz := by have := (hzrep w g).1.1; omega
            have hzc := zeroCells_rep (n := len) hcond.1 hcond.2 hZs (hzrep w g)
            have hzl : (Builtin.zeroCells Z.cells len).size = len * sz := by rw [zeroCells_size, hZs]
            have m41 := m4.1
            have hst := run_storeCells_at P (g.bx b) off T (Builtin.zeroCells Z.cells len).toList 0 C1 w m3 (by simp [hzl]; omega) hzc.allOne
            simp only [Nat.add_zero, Array.length_toList] at hst
            obtain ⟨q1, q2, q3, q4, q5, q6⟩ := setRow_at w (g.bx b) (C1.toList.take off ++ (Builtin.zeroCells Z.cells len).toList ++ C1.toList.drop (off + (Builtin.zeroCells Z.cells len).size)).toArray m3
            have hfl : (List.replicate len z).flatten.length = len * sz := by rw [hzc.1.1, hzl]
            obtain ⟨hS, hE⟩ := hs.setBox hb hbx (cs' := cs.take off ++ (List.replicate len z).flatten ++ cs.drop (off + len * sz)) (C' := (C1.toList.take off ++ (Builtin.zeroCells Z.cells len).toList ++ C1.toList.drop (off + (Builtin.zeroCells Z.cells len).size)).toArray) (T := T) (by
              refine RepP.splice m4 hzc hfl hle ?_ fun k => ?_
              · simp [hzl]; omega
              · rw [List.getElem?_toArray, hzl, splice_get _ _ off (len * sz) (by simp [hzl]) (by simp; omega)]
                simp) q1 (by simp [hzl]; omega) q2 q3 q4 q5 q6
            refine ⟨.tuple #[], _, _, ?_, .undef _, hS, hE⟩
            obtain ⟨l, rfl⟩ : ∃ l, len = l + 1 := ⟨len - 1, by omega⟩
            have hcl : (Builtin.clear_ argTypes o.type (args.map a.eval)).run P w = .ok (.tuple #[]) (w.setRow (g.bx b) (C1.toList.take off ++ (Builtin.zeroCells Z.cells (l + 1)).toList ++ C1.toList.drop (off + (Builtin.zeroCells Z.cells (l + 1)).size)).toArray) := by
              simp only [Builtin.clear_, ht, hax, hXe, Sem.run_bind, run_underlying hu, Result.andThen_ok, hZ, hst, Sem.run_pure]
            simp only [execOp, hop, resolve, Sem.run_bind, Sem.run_pure, Result.andThen_ok, invoke]
            exact run_value hcl
          · cases hc
        · cases hc
  | mkval sz bytes z l c k k' n hl hcap hbnd hn =>
    left
    cases hop : o.op <;> rw [hop] at hk <;> simp only [IOp.kind, opKind] at hk <;> try omega
    case makeSlice t l' c' =>
      obtain ⟨e', K, q1, q2, q3, q4, q5⟩ := run_mkslA hs hr hop hc hl hcap hbnd hn
      obtain ⟨hS, hE⟩ := hs.allocRO (.cells K e') (n * sz)
      refine ⟨_, _, _, run_value' hop q1, ?_, hS, hE⟩
      have := Rep.ofRowAt (w := w.alloc (.cells K e')) (g := g.addRO w.heap.size (n * sz)) (es := List.replicate n z) (B := w.heap.size) (o := 0) (z := sz) (cap := n) (len := n) (t := .full) (by simp) q2 (fun e he => by rw [(List.mem_replicate.1 he).2]; exact q3) (Nat.le_refl _) (by
        show _ ≤ (if w.heap.size = w.heap.size then _ else _)
        rw [if_pos rfl]; omega) (fun k v hk => by
        obtain ⟨V, r1, r2, r3⟩ := (q5 w g).get hk
        exact ⟨V, by rw [Nat.zero_add, cell_at alloc_new]; exact r1, r2.mono hE.toGExt, r3⟩) rfl
      exact this
    case call c => rcases calleeKind_is c.callee with h1 | ⟨h1, _⟩ | ⟨h1, _⟩ | ⟨h1, _⟩ <;> omega
  | mkbox sz bytes z l c k k' n hl hcap hbnd hn =>
    left
    cases hop : o.op <;> rw [hop] at hk <;> simp only [IOp.kind, opKind] at hk <;> try omega
    case makeSlice t l' c' =>
      obtain ⟨e', K, q1, q2, q3, q4, q5⟩ := run_mkslA hs hr hop hc hl hcap hbnd hn
      obtain ⟨hS, hE⟩ := hs.allocBox K e' _ (q5 w g).toP
      refine ⟨_, _, _, run_value' hop q1, ?_, hS, hE⟩
      have := Rep.msl (w := w.alloc (.cells K e')) (g := g.box w.heap.size K.size) h.bn sz 0 n n (by show h.bn < g.bn + 1; rw [hs.bn]; omega) (Nat.le_refl _) (by rw [(hbox K).2]; omega)
      rw [(hbox K).1] at this
      exact this
    case call c => rcases calleeKind_is c.callee with h1 | ⟨h1, _⟩ | ⟨h1, _⟩ | ⟨h1, _⟩ <;> omega
  | callF f args F first caps r h' hf hcall =>
    right; right; left
    cases hop : o.op <;> rw [hop] at hk <;> simp only [IOp.kind, opKind] at hk <;> try omega
    case call c =>
      obtain ⟨callee, args0, argTypes⟩ := c
      have hk : 6 = calleeKind callee := hk
      rcases calleeKind_is callee with h1 | ⟨h1, _⟩ | ⟨h1, f0, hcallee⟩ | ⟨h1, _⟩
      rotate_right
      · omega
      · omega
      · omega
      · subst hcallee
        simp only [cOp1, hop, Option.bind_eq_some_iff, Option.map_eq_some_iff] at hc
        obtain ⟨p, hp, q, hq, hee⟩ := hc
        cases hee
        have hF := ev_rep hr hp
        rw [hf] at hF
        obtain ⟨Fi, Ca, hX, hFi, hCa⟩ : ∃ Fi Ca, a.eval f0 = .func (.func F) Fi Ca ∧ RepA w g first Fi ∧ RepA w g caps Ca := by
          generalize a.eval f0 = X at hF
          cases hF with
          | fn f first caps Fi Ca h1 h2 h3 h4 => exact ⟨Fi, Ca, rfl, ⟨h1, h3⟩, ⟨h2, h4⟩⟩
        have hA := RepA.app (RepA.app hFi (evs_repA hr hq)) hCa
        have hcalls := hcall.2 base W w g _ hs hA
        refine ⟨F, Fi ++ args0.map a.eval ++ Ca, ?_, hcalls⟩
        obtain ⟨fn, hfn, hbody⟩ := hcall.1
        simp only [execOp, hop, resolve, hX, Deferred.ofValue, Sem.run_bind, Sem.run_pure, Result.andThen_ok, invoke, callFunc, run_program, hfn]
        simp only [hbody.1, hbody.2, Bool.false_eq_true, if_false]
        rfl
  | mkmap =>
    left
    cases hop : o.op <;> rw [hop] at hk <;> simp only [IOp.kind, opKind] at hk <;> try omega
    case makeMap t r =>
      cases r with
      | some r => simp [cOp1, hop] at hc
      | none =>
        obtain ⟨hS, hE⟩ := hs.allocMap 0
        refine ⟨.map (some w.heap.size), _, _, ?_, ?_, hS, hE⟩
        · simp only [execOp, hop]
          exact run_value (by simp [Instr.makeMap, Result.andThen])
        · have := Rep.map (w := w.alloc (.map #[] 0)) (g := g.newMap w.heap.size) h.mn (by show h.mn < g.mn + 1; rw [hs.mn]; omega)
          have e : (g.newMap w.heap.size).mp h.mn = w.heap.size := by
            show (if h.mn = g.mn then _ else _) = _
            rw [if_pos hs.mn]
          rw [e] at this
          exact this
    case call c => rcases calleeKind_is c.callee with h1 | ⟨h1, _⟩ | ⟨h1, _⟩ | ⟨h1, _⟩ <;> omega
  | mapup m k v mi es es' kk n hm hmi hes hkk hv1 hput =>
    right; left
    cases hop : o.op <;> rw [hop] at hk <;> simp only [IOp.kind, opKind] at hk <;> try omega
    case mapUpdate t m' k' v' =>
      simp only [cOp1, hop] at hc
      split at hc
      · rename_i kt e' hu
        split at hc
        · rename_i kd hkd
          simp only [Option.bind_eq_some_iff, Option.map_eq_some_iff] at hc
          obtain ⟨m1, hm1, k1, hk1, v1, hv1', hee⟩ := hc
          cases hee
          have hM := ev_rep hr hm1
          have hK := ev_rep hr hk1
          have hV := ev_rep hr hv1'
          rw [hm] at hM
          rw [hkk] at hK
          have hK' := hK.int_inv
          have hM' : a.eval m' = .map (some (g.mp mi)) := by
            generalize a.eval m' = X at hM
            cases hM; rfl
          obtain ⟨_, E, c, hb, hok⟩ := hs.map mi es hmi hes
          obtain ⟨E', c', q1, q2⟩ := run_mapupA (P := P) hu hkd hb hok hV hv1 hput
          obtain ⟨p1, p2, p3⟩ := mapSet_at w (g.mp mi) (.map E' c') hb
          obtain ⟨hS, hE⟩ := hs.setMap hmi hes q2 p1 p2 p3 rfl rfl rfl
          refine ⟨_, g, ?_, rfl, hS, hE⟩
          simp only [execOp, hop, hM', hK', Sem.run_bind, q1, Result.andThen_ok, Sem.run_pure]
        · cases hc
      · cases hc
    case call c => rcases calleeKind_is c.callee with h1 | ⟨h1, _⟩ | ⟨h1, _⟩ | ⟨h1, _⟩ <;> omega
  | callY f args l r h' hf hcall =>
    right; right; right
    cases hop : o.op <;> rw [hop] at hk <;> simp only [IOp.kind, opKind] at hk <;> try omega
    case call c =>
      obtain ⟨callee, args0, argTypes⟩ := c
      have hk : 6 = calleeKind callee := hk
      rcases calleeKind_is callee with h1 | ⟨h1, _⟩ | ⟨h1, f0, hcallee⟩ | ⟨h1, _⟩
      rotate_right
      · omega
      · omega
      · omega
      · subst hcallee
        simp only [cOp1, hop, Option.bind_eq_some_iff, Option.map_eq_some_iff] at hc
        obtain ⟨p, hp, q, hq, hee⟩ := hc
        cases hee
        have hF := ev_rep hr hp
        rw [hf] at hF
        have hX : a.eval f0 = .func (.yield (g.lp l)) #[] #[] := by
          generalize a.eval f0 = X at hF
          cases hF with
          | yld l hl => rfl
        obtain ⟨hl, hy⟩ := hcall
        obtain ⟨F, tmps, x, y, hrun, _⟩ := hy base W w g _ (default : Frame) [] hs (evs_repA hr hq)
        refine ⟨g.lp l, F, tmps, x, y, ?_, fun c cs => ?_⟩
        · simp only [execOp, hop, resolve, hX, Deferred.ofValue, Sem.run_bind, Sem.run_pure, Result.andThen_ok, invoke, Array.empty_append, hrun]
        · obtain ⟨F', tmps', x', y', hrun', q⟩ := hy base W w g _ c cs hs (evs_repA hr hq)
          rw [hrun] at hrun'
          cases hrun'
          exact q

end
end Go.Am

/- What an operation, and a region in the order of the text, is to bring about: forward. -/
namespace Go.Am
open Go Go.RowKit

def ob {α : Type} (o : Option α) (K : α → Prop) : Prop :=
  match o with
  | some v => K v
  | none => False
/-- A branch: a bool that is known, or one that is not. -/
def condQ (v : AV) (K : Bool → Prop) : Prop :=
  match v with
  | .bool b => K b
  | .ubool => K true ∧ K false
  | _ => False
def callQ (P : Program) (f : AV) (args : List AV) (h : H) (K : AV → H → Prop) : Prop :=
  match f with
  | .fn F first caps => CallP P F (first ++ args ++ caps) h K
  | .yld l => l < h.ln ∧ YldP P l args h K
  | _ => False
def appQ (h : H) (sz bytes : Nat) (s x : AV) (K : AV → H → Prop) : Prop := ∃ v h1, AppR h sz bytes s x v h1 ∧ K v h1
def storeQ (h : H) (n : Nat) (a x : AV) (K : AV → H → Prop) : Prop :=
  match a with
  | .ptr b o => ob (h.bx b) fun cs => ob (fit n x) fun xs => (b < h.bn ∧ o + n ≤ cs.length) ∧ K .undef (h.set b (cs.take o ++ xs ++ cs.drop (o + n)))
  | _ => False
def mapupQ (h : H) (m k v : AV) (K : AV → H → Prop) : Prop :=
  match m, k with
  | .map mi, .int kk n => mi < h.mn ∧ ob (h.mp mi) fun es => ok1 v = true ∧ ob (mapPut kk n v es) fun es' => K .undef (h.setMap mi es')
  | _, _ => False
def clearQ (h : H) (sz : Nat) (z : List AV) (x : AV) (K : AV → H → Prop) : Prop :=
  match x with
  | .msl b z' off len => ob (h.bx b) fun cs => (z' = sz ∧ b < h.bn ∧ 0 < len ∧ off + len * sz ≤ cs.length) ∧ K .undef (h.set b (cs.take off ++ (List.replicate len z).flatten ++ cs.drop (off + len * sz)))
  | _ => False
def mkQ (P : Program) (e : Opd → AV) (h : H) (op : IOp) (K : AV → H → Prop) : Prop := ∃ v h1, InsR P e h op v h1 ∧ K v h1

def wpI (P : Program) (op : IOp) (e : Opd → AV) (h : H) (K : AV → H → Prop) : Prop :=
  match op with
  | .alloc z => K (.ptr h.bn 0) (h.alloc z)
  | .box x => ob (boxCells (e x)) fun cs => K (.ptr h.bn 0) (h.alloc cs)
  | .store n a x => storeQ h n (e a) (e x) K
  | .append sz b s x => appQ h sz b (e s) (e x) K
  | .mksl sz b z l c => mkQ P e h (.mksl sz b z l c) K
  | .clear sz z x => clearQ h sz z (e x) K
  | .mkmap => K (.map h.mn) h.newMap
  | .mapup m k v => mapupQ h (e m) (e k) (e v) K
  | .call f args => callQ P (e f) (args.map e) h K
  | op => ob (pv op e h) fun v => K v h

def gdQ (v : AV) (b : Bool) (A B : Prop) : Prop :=
  match v with
  | .bool c => if c = b then A else B
  | .skp => B
  | _ => False
def gd (g : Option (Nat × Bool)) (s : Slots) (A B : Prop) : Prop :=
  match g with
  | none => A
  | some (t, b) => gdQ (s t) b A B

def RO (P : Program) : List Ins → Slots → H → (Slots → H → Prop) → Prop
  | [], s, h, Q => Q s h
  | x :: is, s, h, Q => gd x.g s (wpI P x.op (ev s) h fun v h1 => RO P is (put s x.dst v) h1 Q) (RO P is (put s x.dst .skp) h Q)

theorem gd_sound {g : Option (Nat × Bool)} {s : Slots} {A B : Prop} (h : gd g s A B) : (∃ t b, g = some (t, b) ∧ (s t = .bool (!b) ∨ s t = .skp) ∧ B) ∨ ((∀ t b, g = some (t, b) → s t = .bool b) ∧ A) := by
  cases g with
  | none => exact .inr ⟨fun _ _ h => by (cases h), h⟩
  | some p =>
    obtain ⟨t, b⟩ := p
    simp only [gd, gdQ] at h
    split at h
    · rename_i c hc
      split at h
      · rename_i hcb
        subst hcb
        exact .inr ⟨fun t' b' h' => by (cases h'; exact hc), h⟩
      · rename_i hcb
        refine .inl ⟨t, b, rfl, .inl ?_, h⟩
        rw [hc]
        cases c <;> cases b <;> simp_all
    · rename_i hc
      exact .inl ⟨t, b, rfl, .inr hc, h⟩
    · exact h.elim

section
variable {P : Program} {base : Nat} {W : Nat → Prop}

theorem wpI_sound {op : IOp} {e : Opd → AV} {h : H} {K : AV → H → Prop} (hw : wpI P op e h K) : (∃ v h1, InsR P e h op v h1 ∧ K v h1) ∨ ∃ f args, op = .call f args ∧ callQ P (e f) (args.map e) h K := by
  have hp : ob (pv op e h) (fun v => K v h) → ∃ v h1, InsR P e h op v h1 ∧ K v h1 := fun hw => by
    cases hv : pv op e h with
    | none => rw [hv] at hw; exact hw.elim
    | some v => rw [hv] at hw; exact ⟨v, h, .pure op v hv, hw⟩
  cases op with
  | alloc z => exact .inl ⟨_, _, .alloc z, hw⟩
  | box x =>
    left
    simp only [wpI] at hw
    cases hc : boxCells (e x) with
    | none => rw [hc] at hw; exact hw.elim
    | some cs => rw [hc] at hw; exact ⟨_, _, .box x cs hc, hw⟩
  | store n a x =>
    left
    simp only [wpI, storeQ] at hw
    split at hw
    · rename_i b o ha
      cases hb : h.bx b with
      | none => rw [hb] at hw; exact hw.elim
      | some cs =>
        rw [hb] at hw
        cases hx : fit n (e x) with
        | none => rw [hx] at hw; exact hw.elim
        | some xs =>
          rw [hx] at hw
          exact ⟨_, _, .store n a x b o cs xs ha hw.1.1 hb hx hw.1.2, hw.2⟩
    · exact hw.elim
  | append sz b s x =>
    obtain ⟨v, h1, q1, q2⟩ := hw
    exact .inl ⟨v, h1, .append sz b s x v h1 q1, q2⟩
  | mksl sz b z l c => exact .inl hw
  | clear sz z x =>
    left
    simp only [wpI, clearQ] at hw
    split at hw
    · rename_i b z' off len hx
      cases hb : h.bx b with
      | none => rw [hb] at hw; exact hw.elim
      | some cs =>
        rw [hb] at hw
        obtain ⟨⟨rfl, q1, q2, q3⟩, hw⟩ := hw
        exact ⟨_, _, .clear _ z x b off len cs hx q1 hb q2 q3, hw⟩
    · exact hw.elim
  | mkmap => exact .inl ⟨_, _, .mkmap, hw⟩
  | mapup m k v =>
    left
    simp only [wpI, mapupQ] at hw
    split at hw
    · rename_i mi kk n hm hk
      obtain ⟨hmi, hw⟩ := hw
      cases hes : h.mp mi with
      | none => rw [hes] at hw; exact hw.elim
      | some es =>
        rw [hes] at hw
        obtain ⟨hv, hw⟩ := hw
        cases hp : mapPut kk n (e v) es with
        | none => rw [hp] at hw; exact hw.elim
        | some es' =>
          rw [hp] at hw
          exact ⟨_, _, .mapup m k v mi es es' kk n hm hmi hes hk hv hp, hw⟩
    · exact hw.elim
  | call f args => exact .inr ⟨f, args, rfl, hw⟩
  | _ => exact .inl (hp hw)

theorem SCall.callP {f : FuncId} {args : List AV} {h : H} {r : AV} {h' : H} {K : AV → H → Prop} (hc : SCall P f args h r h') (hk : K r h') : CallP P f args h K :=
  ⟨hc.1, fun base W w g Args hs hA => (hc.2 base W w g Args hs hA).mono (by rintro e w' ⟨R, g', h1, h2, h3, h4⟩; exact ⟨R, g', r, h', h1, h2, h3, h4, hk⟩)⟩
theorem CallP.mono {f : FuncId} {args : List AV} {h : H} {K K' : AV → H → Prop} (hc : CallP P f args h K) (hk : ∀ r h', K r h' → K' r h') : CallP P f args h K' :=
  ⟨hc.1, fun base W w g Args hs hA => (hc.2 base W w g Args hs hA).mono (by rintro e w' ⟨R, g', r, h', h1, h2, h3, h4, h5⟩; exact ⟨R, g', r, h', h1, h2, h3, h4, hk _ _ h5⟩)⟩
/-- What is known to the last of what a function does. -/
theorem CallP.sure {f : FuncId} {args : List AV} {h : H} {r : AV} {h' : H} (hc : CallP P f args h fun r1 h1 => r1 = r ∧ h1 = h') : SCall P f args h r h' :=
  ⟨hc.1, fun base W w g Args hs hA => (hc.2 base W w g Args hs hA).mono (by rintro e w' ⟨R, g', r, h', h1, h2, h3, h4, rfl, rfl⟩; exact ⟨R, g', h1, h2, h3, h4⟩)⟩
theorem YldP.mono {l : Nat} {args : List AV} {h : H} {K K' : AV → H → Prop} (hc : YldP P l args h K) (hk : ∀ r h', K r h' → K' r h') : YldP P l args h K' := fun base W w g Args hs hA => by
  obtain ⟨F, tm, x, y, h1, h2⟩ := hc base W w g Args hs hA
  refine ⟨F, tm, x, y, h1, fun c cs => ?_⟩
  obtain ⟨R, w', g', r, h', q1, q2, q3, q4, q5⟩ := h2 c cs
  exact ⟨R, w', g', r, h', q1, q2, q3, q4, hk _ _ q5⟩
theorem callQ_mono {f : AV} {args : List AV} {h : H} {K K' : AV → H → Prop} (hk : ∀ r h', K r h' → K' r h') (hc : callQ P f args h K) : callQ P f args h K' := by
  unfold callQ at hc ⊢
  split at hc
  · exact hc.mono hk
  · exact ⟨hc.1, hc.2.mono hk⟩
  · exact hc.elim

/-- One operation in a region, whatever it brings about. -/
theorem ins_soundQ {N : Nat} {s : Slots} {a : Act} {w : World} {g : G} {h : H} (hs : Sim P base W w g h) (hr : RepS w g s a.tmps) {o : Oper} {op : IOp} (hc : cOp1 P N o = some op) {K : AV → H → Prop} (hw : wpI P op (ev s) h K) :
    (∃ V w' g' v h', (execOp a.eval o).run P w = .ok (.value V) w' ∧ Rep w' g' v V ∧ Sim P base W w' g' h' ∧ Ext base W w g w' g' ∧ K v h') ∨
    (∃ w' g' h', (execOp a.eval o).run P w = .ok .skip w' ∧ Sim P base W w' g' h' ∧ Ext base W w g w' g' ∧ K .undef h') ∨
    (∃ F Args, (execOp a.eval o).run P w = .ok (.enter F Args) w ∧ Calls P F Args w (PostQ P base W w g K)) ∨
    (∃ l F tmps x y, (execOp a.eval o).run P w = .ok (.round l F tmps x y) w ∧ ∀ (c : Frame) (cs : List Frame), ∃ R w' g' v h', Steps P (lone (Frame.round l F tmps x y .normal) (c :: cs) w) (lone (c.finish R) cs w') ∧ Rep w' g' v R ∧ Sim P base W w' g' h' ∧ Ext base W w g w' g' ∧ K v h') := by
  rcases wpI_sound hw with ⟨v, h1, hi, hk⟩ | ⟨f, args, rfl, hcall⟩
  · rcases ins_sound hs hr hc hi with ⟨V, w1, g1, r1, r2, r3, r4⟩ | ⟨w1, g1, r1, rfl, r3, r4⟩ | ⟨F, Args, r1, r2⟩ | ⟨ln, F, tm, x, y, r1, r2⟩
    · exact .inl ⟨V, w1, g1, v, h1, r1, r2, r3, r4, hk⟩
    · exact .inr (.inl ⟨w1, g1, h1, r1, r3, r4, hk⟩)
    · exact .inr (.inr (.inl ⟨F, Args, r1, r2.mono (by rintro e w' ⟨R, g', q1, q2, q3, q4⟩; exact ⟨R, g', v, h1, q1, q2, q3, q4, hk⟩)⟩))
    · refine .inr (.inr (.inr ⟨ln, F, tm, x, y, r1, fun c cs => ?_⟩))
      obtain ⟨R, w', g', q1, q2, q3, q4⟩ := r2 c cs
      exact ⟨R, w', g', v, h1, q1, q2, q3, q4, hk⟩
  · have hk := cOp1_kind hc
    cases hop : o.op <;> rw [hop] at hk <;> simp only [IOp.kind, opKind] at hk <;> try omega
    case call c =>
      obtain ⟨callee, args0, argTypes⟩ := c
      have hk : 6 = calleeKind callee := hk
      rcases calleeKind_is callee with h1 | ⟨h1, _⟩ | ⟨h1, f0, hcallee⟩ | ⟨h1, _⟩
      rotate_right
      · omega
      · omega
      · omega
      · subst hcallee
        simp only [cOp1, hop, Option.bind_eq_some_iff, Option.map_eq_some_iff] at hc
        obtain ⟨p, hp, q, hq, hee⟩ := hc
        cases hee
        have hF := ev_rep hr hp
        unfold callQ at hcall
        split at hcall
        · rename_i F first caps hf
          rw [hf] at hF
          obtain ⟨Fi, Ca, hX, hFi, hCa⟩ : ∃ Fi Ca, a.eval f0 = .func (.func F) Fi Ca ∧ RepA w g first Fi ∧ RepA w g caps Ca := by
            generalize a.eval f0 = X at hF
            cases hF with
            | fn f first caps Fi Ca h1 h2 h3 h4 => exact ⟨Fi, Ca, rfl, ⟨h1, h3⟩, ⟨h2, h4⟩⟩
          have hA := RepA.app (RepA.app hFi (evs_repA hr hq)) hCa
          have hcalls := hcall.2 base W w g _ hs hA
          refine .inr (.inr (.inl ⟨F, Fi ++ args0.map a.eval ++ Ca, ?_, hcalls⟩))
          obtain ⟨fn, hfn, hbody⟩ := hcall.1
          simp only [execOp, hop, resolve, hX, Deferred.ofValue, Sem.run_bind, Sem.run_pure, Result.andThen_ok, invoke, callFunc, run_program, hfn]
          simp only [hbody.1, hbody.2, Bool.false_eq_true, if_false]
          rfl
        · rename_i l hf
          rw [hf] at hF
          have hX : a.eval f0 = .func (.yield (g.lp l)) #[] #[] := by
            generalize a.eval f0 = X at hF
            cases hF with
            | yld l hl => rfl
          obtain ⟨F, tmps, x, y, hrun, hq⟩ := hcall.2 base W w g _ hs (evs_repA hr hq)
          refine .inr (.inr (.inr ⟨g.lp l, F, tmps, x, y, ?_, hq⟩))
          simp only [execOp, hop, resolve, hX, Deferred.ofValue, Sem.run_bind, Sem.run_pure, Result.andThen_ok, invoke, Array.empty_append, hrun]
        · exact hcall.elim

end
end Go.Am

/- A region of operations, in whatever order. -/
namespace Go.Am
open Go Go.RowKit
section
variable {P : Program} {base : Nat} {W : Nat → Prop}

/-- The operations at these places, each in its translation. -/
def InsAt (P : Program) (N : Nat) (ops : Array Oper) : List Nat → List Ins → Prop
  | [], [] => True
  | i :: l, x :: is => (∃ o, ops[i]? = some o ∧ cIns P N ops o = some x) ∧ InsAt P N ops l is
  | _, _ => False

theorem cIns_inv {N : Nat} {ops : Array Oper} {o : Oper} {x : Ins} (h : cIns P N ops o = some x) :
    x.dst = o.dst ∧ cOp1 P N o = some x.op ∧ (∀ t, o.dst = some t → t < N) ∧ (o.guard = none → x.g = none) ∧ (∀ j b, o.guard = some (j, b) → ∃ t, ((ops[j]?).bind (·.dst)) = some t ∧ x.g = some (t, b)) := by
  unfold cIns at h
  split at h
  · rename_i hd
    have hdst : ∀ t, o.dst = some t → t < N := fun t ht => by
      rw [ht] at hd
      exact of_decide_eq_true hd
    split at h
    · rename_i hg
      simp only [Option.map_eq_some_iff] at h
      obtain ⟨i, hi, rfl⟩ := h
      exact ⟨rfl, hi, hdst, fun _ => rfl, fun j b hjb => by rw [hg] at hjb; cases hjb⟩
    · rename_i j b hg
      simp only [Option.bind_eq_some_iff] at h
      obtain ⟨t, ht, h⟩ := h
      split at h
      · simp only [Option.map_eq_some_iff] at h
        obtain ⟨i, hi, rfl⟩ := h
        refine ⟨rfl, hi, hdst, fun (h0 : o.guard = none) => (by rw [hg] at h0; cases h0), fun j' b' (hjb : o.guard = some (j', b')) => ?_⟩
        rw [hg] at hjb
        cases hjb
        obtain ⟨a, ha1, ha2⟩ := ht
        exact ⟨t, by rw [ha1]; exact ha2, rfl⟩
      · cases h
  · cases h

theorem no_defer {N : Nat} {o : Oper} {op : IOp} (h : cOp1 P N o = some op) : ∀ c, o.op ≠ .defer c := by
  intro c hc
  simp [cOp1, hc] at h

/-- What the operations do, one by one. -/
theorem ops_sound {N : Nat} {ops : Array Oper} {b : Frame} {k : List Item} {cs : List Frame} : ∀ {l : List Nat} {is : List Ins} {s s' : Slots} {h h' : H} {a : Act} {w : World} {g : G}, InsAt P N ops l is → OpsR P is s h s' h' →
    Sim P base W w g h → RepS w g s a.tmps → a.tmps.size = N →
    ∃ a' w' g', Steps P (lone (b.atR a (.inRegion ops l :: k)) cs w) (lone (b.atR a' k) cs w') ∧ RepS w' g' s' a'.tmps ∧ a'.tmps.size = N ∧ a'.defers = a.defers ∧ Sim P base W w' g' h' ∧ Ext base W w g w' g'
  | [], [], s, s', h, h', a, w, g, _, hops, hs, hr, hN => by
    cases hops
    exact ⟨a, w, g, .one stepR_region_end, hr, hN, rfl, hs, Ext.refl base W w g⟩
  | i :: l, x :: is, s, s', h, h', a, w, g, hat, hops, hs, hr, hN => by
    obtain ⟨⟨o, ho, hx⟩, hat'⟩ := hat
    obtain ⟨x1, x2, x3, x4, x5⟩ := cIns_inv hx
    have hd := no_defer x2
    cases hops with
    | skip i0 is0 s0 h0 s'0 h'0 t b0 hg hst hrest =>
      -- the guard says no
      have hw : ((ops[i]?).map (Region.wanted · (yielded ops a.tmps))).getD false = false := by
        rw [ho]
        simp only [Option.map_some, Option.getD_some, Region.wanted]
        cases hgo : o.guard with
        | none => rw [x4 hgo] at hg; cases hg
        | some jb =>
          obtain ⟨j, b'⟩ := jb
          obtain ⟨t', ht', hg'⟩ := x5 j b' hgo
          rw [hg] at hg'
          cases hg'
          have hrep := hr t
          rcases hst with hst | hst
          · rw [hst] at hrep
            have hv := hrep.bool_inv
            have hlt : t < a.tmps.size := by
              rcases Nat.lt_or_ge t a.tmps.size with h | h
              · exact h
              · rw [Array.getD_eq_getD_getElem?, Array.getElem?_eq_none h] at hv
                simp [undef] at hv
            have hy : yielded ops a.tmps j = some (!b0) := by
              simp only [yielded, ht', Option.bind_some]
              rw [Array.getD_eq_getD_getElem?, Array.getElem?_eq_getElem hlt] at hv
              simp only [Option.getD_some] at hv
              rw [Array.getElem?_eq_getElem hlt, hv]
            simp only [hy]
            cases b0 <;> rfl
          · rw [hst] at hrep
            have hv := hrep.skp_inv
            have hy : yielded ops a.tmps j = none := by
              simp only [yielded, ht', Option.bind_some]
              rw [Array.getD_eq_getD_getElem?] at hv
              cases hq : a.tmps[t]? with
              | none => rfl
              | some V => rw [hq] at hv; simp only [Option.getD_some] at hv; subst hv; rfl
            simp only [hy]
            rfl
      have hstep := stepR_op_skip (P := P) (b := b) (k := k) (cs := cs) (w := w) (rest := l) hw
      rw [ho] at hstep
      obtain ⟨p1, p2, p3⟩ := RepS.put (N := N) hr hN (d := o.dst) x3 (Rep.skp (w := w) (g := g))
      rw [x1] at hrest
      obtain ⟨a', w', g', q1, q2, q3, q4, q5, q6⟩ := ops_sound hat' hrest hs p1 p2
      exact ⟨a', w', g', .head hstep q1, q2, q3, q4.trans p3, q5, q6⟩
    | step i0 is0 s0 h0 v h1 s'0 h'0 hg hins hrest =>
      have hw : Region.wanted o (yielded ops a.tmps) = true := by
        simp only [Region.wanted]
        cases hgo : o.guard with
        | none => rfl
        | some jb =>
          obtain ⟨j, b'⟩ := jb
          obtain ⟨t, ht, hg'⟩ := x5 j b' hgo
          have hst := hg t b' hg'
          have hrep := hr t
          rw [hst] at hrep
          have hv := hrep.bool_inv
          have hlt : t < a.tmps.size := by
            rcases Nat.lt_or_ge t a.tmps.size with h | h
            · exact h
            · rw [Array.getD_eq_getD_getElem?, Array.getElem?_eq_none h] at hv
              simp [undef] at hv
          have hy : yielded ops a.tmps j = some b' := by
            simp only [yielded, ht, Option.bind_some]
            rw [Array.getD_eq_getD_getElem?, Array.getElem?_eq_getElem hlt] at hv
            simp only [Option.getD_some] at hv
            rw [Array.getElem?_eq_getElem hlt, hv]
          simp only [hy]
          cases b' <;> rfl
      rw [x1] at hrest
      rcases ins_sound hs hr x2 hins with ⟨V, w1, g1, r1, r2, r3, r4⟩ | ⟨w1, g1, r1, rfl, r3, r4⟩ | ⟨F, Args, r1, r2⟩ | ⟨ln, F, tm, x, y, r1, r2⟩
      · obtain ⟨p1, p2, p3⟩ := RepS.put (N := N) (hr.mono r4.toGExt) hN (d := o.dst) x3 r2
        obtain ⟨a', w', g', q1, q2, q3, q4, q5, q6⟩ := ops_sound (b := b) (k := k) (cs := cs) hat' hrest r3 p1 p2
        exact ⟨a', w', g', .head (stepR_value ho hw hd r1) q1, q2, q3, q4.trans p3, q5, r4.trans q6⟩
      · obtain ⟨p1, p2, p3⟩ := RepS.put (N := N) (hr.mono r4.toGExt) hN (d := o.dst) x3 (Rep.undef (w := w1) (g := g1) undef)
        obtain ⟨a', w', g', q1, q2, q3, q4, q5, q6⟩ := ops_sound (b := b) (k := k) (cs := cs) hat' hrest r3 p1 p2
        exact ⟨a', w', g', .head (stepR_skipRes ho hw hd r1) q1, q2, q3, q4.trans p3, q5, r4.trans q6⟩
      · obtain ⟨e, w1, fr, ⟨R, g1, rfl, s2, s3, s4⟩, hcomes, _, hleave⟩ := r2 (b.atR a (.inRegion ops (i :: l) :: k) :: cs)
        obtain ⟨p1, p2, p3⟩ := RepS.put (N := N) (hr.mono s4.toGExt) hN (d := o.dst) x3 s2
        obtain ⟨a', w', g', q1, q2, q3, q4, q5, q6⟩ := ops_sound (b := b) (k := k) (cs := cs) hat' hrest s3 p1 p2
        refine ⟨a', w', g', .head (stepR_enter ho hw hd r1) (Steps.trans hcomes (.head ?_ q1)), q2, q3, q4.trans p3, q5, s4.trans q6⟩
        have hfin : (b.atR a (.inRegion ops (i :: l) :: k)).finish R = b.atR (a.put o.dst R) (.inRegion ops l :: k) := by rw [Frame.finish_atR, ho]; rfl
        rw [← hfin]
        exact step_leave_returned hleave
      · obtain ⟨R, w1, g1, s1, s2, s3, s4⟩ := r2 (b.atR a (.inRegion ops (i :: l) :: k)) cs
        obtain ⟨p1, p2, p3⟩ := RepS.put (N := N) (hr.mono s4.toGExt) hN (d := o.dst) x3 s2
        obtain ⟨a', w', g', q1, q2, q3, q4, q5, q6⟩ := ops_sound (b := b) (k := k) (cs := cs) hat' hrest s3 p1 p2
        have hfin : (b.atR a (.inRegion ops (i :: l) :: k)).finish R = b.atR (a.put o.dst R) (.inRegion ops l :: k) := by rw [Frame.finish_atR, ho]; rfl
        rw [hfin] at s1
        exact ⟨a', w', g', .head (stepR_round ho hw hd r1) (Steps.trans s1 q1), q2, q3, q4.trans p3, q5, s4.trans q6⟩
  | [], _ :: _, _, _, _, _, _, _, _, hat, _, _, _, _ => hat.elim
  | _ :: _, [], _, _, _, _, _, _, _, hat, _, _, _, _ => hat.elim

/-- What the operations do, one by one, in the order of the text. -/
theorem ops_soundQ {N : Nat} {ops : Array Oper} {b : Frame} {k : List Item} {cs : List Frame} {Q : Slots → H → Prop} : ∀ {l : List Nat} {is : List Ins} {s : Slots} {h : H} {a : Act} {w : World} {g : G}, InsAt P N ops l is → RO P is s h Q →
    Sim P base W w g h → RepS w g s a.tmps → a.tmps.size = N →
    ∃ a' w' g' s' h', Q s' h' ∧ Steps P (lone (b.atR a (.inRegion ops l :: k)) cs w) (lone (b.atR a' k) cs w') ∧ RepS w' g' s' a'.tmps ∧ a'.tmps.size = N ∧ a'.defers = a.defers ∧ Sim P base W w' g' h' ∧ Ext base W w g w' g'
  | [], [], s, h, a, w, g, _, hops, hs, hr, hN => ⟨a, w, g, s, h, hops, .one stepR_region_end, hr, hN, rfl, hs, Ext.refl base W w g⟩
  | i :: l, x :: is, s, h, a, w, g, hat, hops, hs, hr, hN => by
    obtain ⟨⟨o, ho, hx⟩, hat'⟩ := hat
    obtain ⟨x1, x2, x3, x4, x5⟩ := cIns_inv hx
    have hd := no_defer x2
    rcases gd_sound hops with ⟨t, b0, hg, hst, hrest⟩ | ⟨hg, hins⟩
    ·
      -- the guard says no
      have hw : ((ops[i]?).map (Region.wanted · (yielded ops a.tmps))).getD false = false := by
        rw [ho]
        simp only [Option.map_some, Option.getD_some, Region.wanted]
        cases hgo : o.guard with
        | none => rw [x4 hgo] at hg; cases hg
        | some jb =>
          obtain ⟨j, b'⟩ := jb
          obtain ⟨t', ht', hg'⟩ := x5 j b' hgo
          rw [hg] at hg'
          cases hg'
          have hrep := hr t
          rcases hst with hst | hst
          · rw [hst] at hrep
            have hv := hrep.bool_inv
            have hlt : t < a.tmps.size := by
              rcases Nat.lt_or_ge t a.tmps.size with h | h
              · exact h
              · rw [Array.getD_eq_getD_getElem?, Array.getElem?_eq_none h] at hv
                simp [undef] at hv
            have hy : yielded ops a.tmps j = some (!b0) := by
              simp only [yielded, ht', Option.bind_some]
              rw [Array.getD_eq_getD_getElem?, Array.getElem?_eq_getElem hlt] at hv
              simp only [Option.getD_some] at hv
              rw [Array.getElem?_eq_getElem hlt, hv]
            simp only [hy]
            cases b0 <;> rfl
          · rw [hst] at hrep
            have hv := hrep.skp_inv
            have hy : yielded ops a.tmps j = none := by
              simp only [yielded, ht', Option.bind_some]
              rw [Array.getD_eq_getD_getElem?] at hv
              cases hq : a.tmps[t]? with
              | none => rfl
              | some V => rw [hq] at hv; simp only [Option.getD_some] at hv; subst hv; rfl
            simp only [hy]
            rfl
      have hstep := stepR_op_skip (P := P) (b := b) (k := k) (cs := cs) (w := w) (rest := l) hw
      rw [ho] at hstep
      obtain ⟨p1, p2, p3⟩ := RepS.put (N := N) hr hN (d := o.dst) x3 (Rep.skp (w := w) (g := g))
      rw [x1] at hrest
      obtain ⟨a', w', g', s', h', q0, q1, q2, q3, q4, q5, q6⟩ := ops_soundQ (b := b) (k := k) (cs := cs) hat' hrest hs p1 p2
      exact ⟨a', w', g', s', h', q0, .head hstep q1, q2, q3, q4.trans p3, q5, q6⟩
    · have hw : Region.wanted o (yielded ops a.tmps) = true := by
        simp only [Region.wanted]
        cases hgo : o.guard with
        | none => rfl
        | some jb =>
          obtain ⟨j, b'⟩ := jb
          obtain ⟨t, ht, hg'⟩ := x5 j b' hgo
          have hst := hg t b' hg'
          have hrep := hr t
          rw [hst] at hrep
          have hv := hrep.bool_inv
          have hlt : t < a.tmps.size := by
            rcases Nat.lt_or_ge t a.tmps.size with h | h
            · exact h
            · rw [Array.getD_eq_getD_getElem?, Array.getElem?_eq_none h] at hv
              simp [undef] at hv
          have hy : yielded ops a.tmps j = some b' := by
            simp only [yielded, ht, Option.bind_some]
            rw [Array.getD_eq_getD_getElem?, Array.getElem?_eq_getElem hlt] at hv
            simp only [Option.getD_some] at hv
            rw [Array.getElem?_eq_getElem hlt, hv]
          simp only [hy]
          cases b' <;> rfl
      rw [x1] at hins
      rcases ins_soundQ hs hr x2 hins with ⟨V, w1, g1, v, h1, r1, r2, r3, r4, hrest⟩ | ⟨w1, g1, h1, r1, r3, r4, hrest⟩ | ⟨F, Args, r1, r2⟩ | ⟨ln, F, tm, x, y, r1, r2⟩
      · obtain ⟨p1, p2, p3⟩ := RepS.put (N := N) (hr.mono r4.toGExt) hN (d := o.dst) x3 r2
        obtain ⟨a', w', g', s', h', q0, q1, q2, q3, q4, q5, q6⟩ := ops_soundQ (b := b) (k := k) (cs := cs) hat' hrest r3 p1 p2
        exact ⟨a', w', g', s', h', q0, .head (stepR_value ho hw hd r1) q1, q2, q3, q4.trans p3, q5, r4.trans q6⟩
      · obtain ⟨p1, p2, p3⟩ := RepS.put (N := N) (hr.mono r4.toGExt) hN (d := o.dst) x3 (Rep.undef (w := w1) (g := g1) undef)
        obtain ⟨a', w', g', s', h', q0, q1, q2, q3, q4, q5, q6⟩ := ops_soundQ (b := b) (k := k) (cs := cs) hat' hrest r3 p1 p2
        exact ⟨a', w', g', s', h', q0, .head (stepR_skipRes ho hw hd r1) q1, q2, q3, q4.trans p3, q5, r4.trans q6⟩
      · obtain ⟨e, w1, fr, ⟨R, g1, v, h1, rfl, s2, s3, s4, hrest⟩, hcomes, _, hleave⟩ := r2 (b.atR a (.inRegion ops (i :: l) :: k) :: cs)
        obtain ⟨p1, p2, p3⟩ := RepS.put (N := N) (hr.mono s4.toGExt) hN (d := o.dst) x3 s2
        obtain ⟨a', w', g', s', h', q0, q1, q2, q3, q4, q5, q6⟩ := ops_soundQ (b := b) (k := k) (cs := cs) hat' hrest s3 p1 p2
        refine ⟨a', w', g', s', h', q0, .head (stepR_enter ho hw hd r1) (Steps.trans hcomes (.head ?_ q1)), q2, q3, q4.trans p3, q5, s4.trans q6⟩
        have hfin : (b.atR a (.inRegion ops (i :: l) :: k)).finish R = b.atR (a.put o.dst R) (.inRegion ops l :: k) := by rw [Frame.finish_atR, ho]; rfl
        rw [← hfin]
        exact step_leave_returned hleave
      · obtain ⟨R, w1, g1, v, h1, s1, s2, s3, s4, hrest⟩ := r2 (b.atR a (.inRegion ops (i :: l) :: k)) cs
        obtain ⟨p1, p2, p3⟩ := RepS.put (N := N) (hr.mono s4.toGExt) hN (d := o.dst) x3 s2
        obtain ⟨a', w', g', s', h', q0, q1, q2, q3, q4, q5, q6⟩ := ops_soundQ (b := b) (k := k) (cs := cs) hat' hrest s3 p1 p2
        have hfin : (b.atR a (.inRegion ops (i :: l) :: k)).finish R = b.atR (a.put o.dst R) (.inRegion ops l :: k) := by rw [Frame.finish_atR, ho]; rfl
        rw [hfin] at s1
        exact ⟨a', w', g', s', h', q0, .head (stepR_round ho hw hd r1) (Steps.trans s1 q1), q2, q3, q4.trans p3, q5, s4.trans q6⟩
  | [], _ :: _, _, _, _, _, _, hat, _, _, _, _ => hat.elim
  | _ :: _, [], _, _, _, _, _, hat, _, _, _, _ => hat.elim

/-! ### The text's own order -/
theorem InsAt_range {N : Nat} {ops : Array Oper} : ∀ (os : List Oper) (is : List Ins) (j : Nat), cInsL P N ops os = some is → (∀ i o, os[i]? = some o → ops[j + i]? = some o) → InsAt P N ops (List.range' j os.length) is
  | [], is, j, h, _ => by
    simp only [cInsL, Option.some.injEq] at h
    subst h
    trivial
  | o :: os, is, j, h, hget => by
    simp only [cInsL, Option.bind_eq_some_iff, Option.map_eq_some_iff] at h
    obtain ⟨x, hx, is', his, rfl⟩ := h
    simp only [List.length_cons, List.range'_succ]
    refine ⟨⟨o, by simpa using hget 0 o rfl, hx⟩, InsAt_range os is' (j + 1) his fun i o' ho' => ?_⟩
    have := hget (i + 1) o' (by simpa using ho')
    rw [← this]
    congr 1
    omega

end
end Go.Am

/- The orders in which a region may be carried out. -/
namespace Go.Am
open Go Go.RowKit

/-- An order that keeps these edges, 'done' having been carried out. -/
def TopoFrom (aft : List (List Nat)) : List Nat → List Nat → Prop
  | _, [] => True
  | done, i :: l => i ∉ done ∧ (∀ j ∈ aft.getD i [], j ∈ done) ∧ TopoFrom aft (i :: done) l

structure Topo (aft : List (List Nat)) (n : Nat) (l : List Nat) : Prop where
  order : TopoFrom aft [] l
  lt : ∀ i ∈ l, i < n
  all : ∀ i, i < n → i ∈ l

theorem pigeon : ∀ (n : Nat) (l : List Nat), l.Nodup → (∀ i ∈ l, i < n) → l.length = n → ∀ i, i < n → i ∈ l
  | 0, _, _, _, _, i, hi => by omega
  | n + 1, l, hnd, hlt, hlen, i, hi => by
    by_cases hn : n ∈ l
    · by_cases hin : i = n
      · rw [hin]; exact hn
      · have h1 : (l.erase n).length = n := by rw [List.length_erase_of_mem hn]; omega
        have h2 : (l.erase n).Nodup := hnd.erase n
        have h3 : ∀ j ∈ l.erase n, j < n := fun j hj => by
          have hjl := List.mem_of_mem_erase hj
          have := hlt j hjl
          have hne : j ≠ n := fun h => by
            subst h
            exact (List.Nodup.not_mem_erase hnd) hj
          omega
        exact List.mem_of_mem_erase (pigeon n (l.erase n) h2 h3 h1 i (by omega))
    · exfalso
      have h3 : ∀ j ∈ l, j < n := fun j hj => by
        have := hlt j hj
        have hne : j ≠ n := fun h => hn (h ▸ hj)
        omega
      match l, hlen with
      | a :: l', hlen =>
        have hnd' := List.nodup_cons.1 hnd
        have hl' : l'.length = n := by simpa using hlen
        have := pigeon n l' hnd'.2 (fun j hj => h3 j (List.mem_cons_of_mem _ hj)) hl' a (h3 a (List.mem_cons_self ..))
        exact hnd'.1 this

theorem cover : ∀ (n : Nat) (l : List Nat), (∀ i, i < n → i ∈ l) → n ≤ l.length
  | 0, _, _ => Nat.zero_le _
  | n + 1, l, h => by
    have hn := h n (by omega)
    have := cover n (l.erase n) (fun i hi => (List.mem_erase_of_ne (by omega)).2 (h i (by omega)))
    rw [List.length_erase_of_mem hn] at this
    have := List.length_pos_of_mem hn
    omega

def aftB (m : Region.Mode) (ops : Array Oper) : List (List Nat) := ops.toList.map fun o => (o.after.toList.filter (Region.binds m)).map (·.on)

/-- While not all are listed one is ready. -/
def Prog (m : Region.Mode) (ops : Array Oper) : Prop :=
  ∀ acc : List Nat, acc.Nodup → (∀ i ∈ acc, i < ops.size) → acc.length < ops.size → (∀ i ∈ acc, ∀ o, ops[i]? = some o → ∀ e ∈ o.after.toList, Region.binds m e = true → e.on ∈ acc) →
    ∃ i o, i < ops.size ∧ i ∉ acc ∧ ops[i]? = some o ∧ ∀ e ∈ o.after.toList, Region.binds m e = true → e.on ∈ acc

/-- What 'linearise' lists: each behind what it must stand behind. -/
theorem go_topo (m : Region.Mode) (ops : Array Oper) :
    ∀ (fuel t : Nat) (listed : Array Bool) (acc : List Nat), listed.size = ops.size → (∀ i, i < ops.size → (listed.getD i true = true ↔ i ∈ acc)) → acc.Nodup → (∀ i ∈ acc, i < ops.size) → acc.length + fuel = ops.size →
      (∀ i ∈ acc, ∀ o, ops[i]? = some o → ∀ e ∈ o.after.toList, Region.binds m e = true → e.on ∈ acc) →
      ∃ l, Region.linearise.go m ops fuel t listed acc = acc.reverse ++ l ∧ TopoFrom (aftB m ops) acc l ∧ (acc.reverse ++ l).Nodup ∧ (∀ i ∈ l, i < ops.size) ∧ (Prog m ops → acc.length + l.length = ops.size)
  | 0, t, listed, acc, _, _, hnd, _, hlen, _ => ⟨[], by simp [Region.linearise.go], trivial, by rw [List.append_nil]; exact (List.reverse_perm acc).nodup_iff.2 hnd, by simp, fun _ => by simpa using hlen⟩
  | fuel + 1, t, listed, acc, hsz, hl, hnd, hlt, hlen, hclosed => by
    simp only [Region.linearise.go]
    let ready : Nat → Bool := fun i => !listed.getD i true && ((ops[i]?).map (·.after.all fun e => !Region.binds m e || listed.getD e.on false)).getD false
    have hrs : (List.range ops.size).filter (fun i => !listed.getD i true && ((ops[i]?).map (·.after.all fun e => !Region.binds m e || listed.getD e.on false)).getD false) = (List.range ops.size).filter ready := rfl
    have hon : ∀ (j : Nat), listed.getD j false = true → j ∈ acc := fun j hj => by
      by_cases hjs : j < ops.size
      · refine (hl j hjs).1 ?_
        rw [Array.getD_eq_getD_getElem?] at hj ⊢
        rw [Array.getElem?_eq_getElem (by omega)] at hj ⊢
        exact hj
      · rw [Array.getD_eq_getD_getElem?, Array.getElem?_eq_none (by omega)] at hj
        simp at hj
    have hready : ∀ i, i ∈ (List.range ops.size).filter ready → i < ops.size ∧ i ∉ acc ∧ ∀ o, ops[i]? = some o → ∀ e ∈ o.after.toList, Region.binds m e = true → e.on ∈ acc := fun i hi => by
      obtain ⟨h1, h2⟩ := List.mem_filter.1 hi
      have hi' : i < ops.size := List.mem_range.1 h1
      simp only [ready, Bool.and_eq_true, Bool.not_eq_true'] at h2
      refine ⟨hi', fun hin => ?_, fun o ho e he hb => ?_⟩
      · have := (hl i hi').2 hin
        rw [this] at h2
        cases h2.1
      · rw [ho] at h2
        simp only [Option.map_some, Option.getD_some, Array.all_eq_true_iff_forall_mem] at h2
        have := h2.2 e (Array.mem_toList_iff.1 he)
        rw [hb] at this
        simp only [Bool.not_true, Bool.false_or] at this
        exact hon _ this
    have hpos : Prog m ops → 0 < ((List.range ops.size).filter ready).length := fun hprog => by
      obtain ⟨i0, o0, q1, q2, q3, q4⟩ := hprog acc hnd hlt (by omega) hclosed
      have hi0 : i0 ∈ (List.range ops.size).filter ready := by
        refine List.mem_filter.2 ⟨List.mem_range.2 q1, ?_⟩
        simp only [ready, Bool.and_eq_true, Bool.not_eq_true', q3, Option.map_some, Option.getD_some, Array.all_eq_true_iff_forall_mem]
        refine ⟨?_, fun e he => ?_⟩
        · cases hh : listed.getD i0 true with
          | false => rfl
          | true => exact absurd ((hl i0 q1).1 hh) q2
        · cases hb : Region.binds m e with
          | false => rfl
          | true =>
            have hin := q4 e (Array.mem_toList_iff.2 he) hb
            have hos := hlt _ hin
            have := (hl _ hos).2 hin
            rw [Array.getD_eq_getD_getElem?] at this ⊢
            rw [Array.getElem?_eq_getElem (by omega)] at this ⊢
            simpa using this
      exact List.length_pos_of_mem hi0
    rw [hrs]
    rcases Nat.eq_zero_or_pos ((List.range ops.size).filter ready).length with h0 | hpos'
    · have he : (List.range ops.size).filter ready = [] := List.eq_nil_of_length_eq_zero h0
      rw [he]
      exact ⟨[], by simp, trivial, by rw [List.append_nil]; exact (List.reverse_perm acc).nodup_iff.2 hnd, by simp, fun hp => absurd (hpos hp) (by omega)⟩
    have hix : t % ((List.range ops.size).filter ready).length < ((List.range ops.size).filter ready).length := Nat.mod_lt _ hpos'
    rw [List.getElem?_eq_getElem hix]
    simp only
    generalize hi : ((List.range ops.size).filter ready)[t % ((List.range ops.size).filter ready).length] = i
    have hmem : i ∈ (List.range ops.size).filter ready := hi ▸ List.getElem_mem hix
    obtain ⟨r1, r2, r3⟩ := hready i hmem
    obtain ⟨l, s1, s2, s3, s4, s5⟩ := go_topo m ops fuel (t / ((List.range ops.size).filter ready).length) (listed.setIfInBounds i true) (i :: acc) (by simp [hsz]) (fun j hj => by
      simp only [Array.getD_eq_getD_getElem?, Array.getElem?_setIfInBounds, List.mem_cons]
      by_cases hji : i = j
      · subst hji
        simp [hsz, hj]
      · rw [if_neg hji]
        have := hl j hj
        rw [Array.getD_eq_getD_getElem?] at this
        rw [this]
        exact ⟨fun h => .inr h, fun h => h.resolve_left fun e => hji e.symm⟩) (List.nodup_cons.2 ⟨r2, hnd⟩) (fun j hj => by
      rcases List.mem_cons.1 hj with rfl | h
      · exact r1
      · exact hlt j h) (by simp; omega) (fun j hj o ho e he hb => by
      rcases List.mem_cons.1 hj with rfl | h
      · exact List.mem_cons_of_mem _ (r3 o ho e he hb)
      · exact List.mem_cons_of_mem _ (hclosed j h o ho e he hb))
    refine ⟨i :: l, by rw [s1]; simp, ⟨r2, fun j hj => ?_, s2⟩, by simpa using s3, fun j hj => ?_, fun hp => by have := s5 hp; simp at this ⊢; omega⟩
    · obtain ⟨o, ho⟩ : ∃ o, ops[i]? = some o := ⟨ops[i], Array.getElem?_eq_getElem r1⟩
      have : (aftB m ops).getD i [] = (o.after.toList.filter (Region.binds m)).map (·.on) := by
        simp [aftB, List.getD, ho]
      rw [this] at hj
      obtain ⟨e, he, rfl⟩ := List.mem_map.1 hj
      obtain ⟨he1, he2⟩ := List.mem_filter.1 he
      exact r3 o ho e he1 he2
    · rcases List.mem_cons.1 hj with rfl | h
      · exact r1
      · exact s4 j h

theorem TopoFrom.mono {aft aft' : List (List Nat)} (h : ∀ i, ∀ j ∈ aft'.getD i [], j ∈ aft.getD i []) : ∀ {done l : List Nat}, TopoFrom aft done l → TopoFrom aft' done l
  | _, [], _ => trivial
  | _, i :: _, ⟨h1, h2, h3⟩ => ⟨h1, fun j hj => h2 j (h i j hj), TopoFrom.mono h h3⟩

/-- The first one of an order that is not among these. -/
theorem TopoFrom.first {aft : List (List Nat)} (acc : List Nat) : ∀ {done l : List Nat}, TopoFrom aft done l → (∀ j ∈ done, j ∈ acc) → (∃ i ∈ l, i ∉ acc) → ∃ i ∈ l, i ∉ acc ∧ ∀ j ∈ aft.getD i [], j ∈ acc
  | _, [], _, _, ⟨i, hi, _⟩ => by cases hi
  | done, i :: l, ⟨_, h2, h3⟩, hd, hex => by
    by_cases hi : i ∈ acc
    · obtain ⟨j, hj, hjn⟩ := hex
      have hjl : j ∈ l := by
        rcases List.mem_cons.1 hj with rfl | h
        · exact absurd hi hjn
        · exact h
      obtain ⟨q, q1, q2, q3⟩ := TopoFrom.first acc h3 (fun j hj => by
        rcases List.mem_cons.1 hj with rfl | h
        · exact hi
        · exact hd j h) ⟨j, hjl, hjn⟩
      exact ⟨q, List.mem_cons_of_mem _ q1, q2, q3⟩
    · exact ⟨i, List.mem_cons_self .., hi, fun j hj => hd j (h2 j hj)⟩

/-- However the order is drawn, it keeps the firm edges and leaves out nothing. -/
theorem schedule_topo (ops : Array Oper) (hok : drawOk ops = true) (mixed : Bool) (t : Nat) : Topo (aftOf ops) ops.size (Region.schedule mixed ops t) := by
  obtain ⟨hback, hgc⟩ := Bool.and_eq_true_iff.1 hok
  have hfirmAny : ∀ (m : Region.Mode) (e : Edge), firm e = true → Region.binds m e = true := fun m e h => by
    unfold firm at h
    unfold Region.binds
    split at h <;> simp_all
  have hedge : ∀ (i : Nat) (o : Oper), ops[i]? = some o → ∀ e ∈ o.after.toList, e.on < i ∨ ∃ r, e.ground = .gcOnly r := fun i o ho e he => by
    have h1 := Array.all_eq_true_iff_forall_mem.1 hback (o, i) (by
      rw [Array.mem_zipIdx_iff_getElem?]
      simpa using ho)
    simp only at h1
    have h2 := Array.all_eq_true_iff_forall_mem.1 h1 e (Array.mem_toList_iff.1 he)
    simp only [Bool.or_eq_true, decide_eq_true_eq] at h2
    rcases h2 with h2 | h2
    · exact .inl h2
    · right
      split at h2
      · rename_i r hr; exact ⟨r, hr⟩
      · cases h2
  -- an order that is a list of all, each behind what it must stand behind: there is always one that is ready
  have main : ∀ (m : Region.Mode) (t : Nat), Prog m ops → Topo (aftOf ops) ops.size (Region.linearise m ops t) := fun m t hp => by
    obtain ⟨l, h1, h2, h3, h4, h5⟩ := go_topo m ops ops.size t (Array.replicate ops.size false) [] (by simp) (fun i hi => by simp [hi]) (by simp) (by simp) (by simp) (by simp)
    simp only [List.reverse_nil, List.nil_append] at h1 h3
    unfold Region.linearise
    rw [h1]
    refine ⟨h2.mono fun i j hj => ?_, h4, pigeon ops.size l h3 h4 (by simpa using h5 hp)⟩
    simp only [aftOf, aftB, List.getD, List.getElem?_map] at hj ⊢
    cases ho : ops.toList[i]? with
    | none => rw [ho] at hj; simp at hj
    | some o =>
      rw [ho] at hj
      simp only [Option.map_some, Option.getD_some] at hj ⊢
      obtain ⟨e, he, rfl⟩ := List.mem_map.1 hj
      obtain ⟨he1, he2⟩ := List.mem_filter.1 he
      exact List.mem_map.2 ⟨e, List.mem_filter.2 ⟨he1, hfirmAny m e he2⟩, rfl⟩
  have someout : ∀ (acc : List Nat), acc.length < ops.size → ∃ i, i < ops.size ∧ i ∉ acc := fun acc hlen => by
    apply Classical.byContradiction
    intro hno
    have hall : ∀ i, i < ops.size → i ∈ acc := fun i hi => Classical.byContradiction fun h => hno ⟨i, hi, h⟩
    have := cover ops.size acc hall
    omega
  have forward : ∀ (m : Region.Mode), m ≠ .gc → ∀ t, Topo (aftOf ops) ops.size (Region.linearise m ops t) := fun m hm t => by
    refine main m t fun acc hnd hlt hlen _ => ?_
    obtain ⟨i, hi, hni⟩ := someout acc hlen
    have hleast : ∃ i, i < ops.size ∧ i ∉ acc ∧ ∀ j, j < i → j ∈ acc := by
      induction i using Nat.strongRecOn with
      | _ i ih =>
        by_cases hj : ∃ j, j < i ∧ j ∉ acc
        · obtain ⟨j, hji, hjn⟩ := hj
          exact ih j hji (by omega) hjn
        · exact ⟨i, hi, hni, fun j hji => Classical.byContradiction fun h => hj ⟨j, hji, h⟩⟩
    obtain ⟨i, hi, hni, hall⟩ := hleast
    refine ⟨i, ops[i], hi, hni, Array.getElem?_eq_getElem hi, fun e he hb => ?_⟩
    rcases hedge i _ (Array.getElem?_eq_getElem hi) e he with h | ⟨r, hr⟩
    · exact hall _ h
    · exfalso
      unfold Region.binds at hb
      rw [hr] at hb
      simp only [beq_iff_eq] at hb
      exact hm hb
  unfold Region.schedule
  split
  · exact forward .any (by simp) t
  · rename_i hmd
    split
    · exact forward .text (by simp) _
    · have hdep : Region.departs ops = true := by
        simp only [Bool.or_eq_true, Bool.not_eq_true', not_or] at hmd
        simpa using hmd.2
      rw [hdep] at hgc
      simp only [Bool.not_true, Bool.false_or, beq_iff_eq] at hgc
      -- the gc's order at 0 is whole: it is a witness
      obtain ⟨l, h1, h2, h3, h4, _⟩ := go_topo .gc ops ops.size 0 (Array.replicate ops.size false) [] (by simp) (fun i hi => by simp [hi]) (by simp) (by simp) (by simp) (by simp)
      simp only [List.reverse_nil, List.nil_append] at h1 h3
      unfold Region.linearise at hgc
      rw [h1] at hgc
      have hall := pigeon ops.size l h3 h4 hgc
      refine main .gc _ fun acc hnd hlt hlen _ => ?_
      obtain ⟨i, hi, hni⟩ := someout acc hlen
      obtain ⟨q, q1, q2, q3⟩ := h2.first acc (by simp) ⟨i, hall i hi, hni⟩
      have hq := h4 q q1
      refine ⟨q, ops[q], hq, q2, Array.getElem?_eq_getElem hq, fun e he hb => q3 _ ?_⟩
      simp only [aftB, List.getD, List.getElem?_map, Array.getElem?_toList, Array.getElem?_eq_getElem hq, Option.map_some, Option.getD_some]
      exact List.mem_map.2 ⟨e, List.mem_filter.2 ⟨he, hb⟩, rfl⟩

end Go.Am

/- The records of loops over functions. -/
namespace Go.Am
open Go Go.RowKit
section
variable {P : Program} {base : Nat} {W : Nat → Prop} {w : World} {g : G} {h : H}

def H.newLoop (h : H) (r : LoopA) : H := { h with ln := h.ln + 1, lp := fun l => if l = h.ln then some r else h.lp l }
def H.setLoop (h : H) (l : Nat) (r : Option LoopA) : H := { h with lp := fun l' => if l' = l then r else h.lp l' }
def G.newLoop (g : G) (B : Nat) : G := { g with ln := g.ln + 1, lp := fun l => if l = g.ln then B else g.lp l }

theorem Sim.allocObj (hs : Sim P base W w g h) (o : Obj) : Sim P base W (w.alloc o) g h ∧ Ext base W w g (w.alloc o) g := by
  have e : GExt w g (w.alloc o) g := GExt.of_blk (by simp) (fun B hB => alloc_at hB) hs.roB (fun _ _ => rfl) (Nat.le_refl _) (fun _ _ => ⟨rfl, rfl⟩) (Nat.le_refl _) (fun _ _ => rfl) (Nat.le_refl _) (fun _ _ => rfl) (Nat.le_refl _) (fun _ _ => rfl)
  refine ⟨hs.step e (by simp) (fun B hB => alloc_at hB) rfl rfl rfl rfl rfl (fun _ _ => rfl) (fun B hB => hs.roB B (by simp at hB; omega)), Ext.step hs e rfl rfl rfl (fun B hB => alloc_at hB) (fun _ _ => rfl)⟩

theorem Sim.allocLoop (hs : Sim P base W w g h) (L : Loop) (r : LoopA) (hL : LoopOK P w g r L) :
    Sim P base W (w.alloc (.loop L)) (g.newLoop w.heap.size) (h.newLoop r) ∧ Ext base W w g (w.alloc (.loop L)) (g.newLoop w.heap.size) := by
  have hlp : ∀ b, b < g.ln → (g.newLoop w.heap.size).lp b = g.lp b := fun b hb => by
    show (if b = g.ln then _ else g.lp b) = _
    rw [if_neg (by omega)]
  have e : GExt w g (w.alloc (.loop L)) (g.newLoop w.heap.size) := GExt.of_blk (by simp) (fun B hB => alloc_at hB) hs.roB (fun _ _ => rfl) (Nat.le_refl _) (fun _ _ => ⟨rfl, rfl⟩) (Nat.le_refl _) (fun _ _ => rfl) (Nat.le_succ _) hlp (Nat.le_refl _) (fun _ _ => rfl)
  have hnew : (g.newLoop w.heap.size).lp h.ln = w.heap.size := by
    show (if h.ln = g.ln then _ else _) = _
    rw [if_pos hs.ln]
  have hlt : ∀ l r, l < h.ln → h.lp l = some r → g.lp l < w.heap.size := fun l r hl hr => by
    obtain ⟨_, _, h2, _⟩ := hs.loop l r hl hr
    exact heap_lt h2
  refine ⟨⟨Nat.le_trans hs.base_le (by simp), hs.bn, hs.tn, by show h.ln + 1 = g.ln + 1; rw [hs.ln], hs.mn, ?_, hs.boxinj, ?_, hs.tokinj, ?_, ?_, ?_, ?_, hs.mapinj⟩, Ext.step hs e rfl rfl rfl (fun B hB => alloc_at hB) (fun _ _ => rfl)⟩
  · intro b cs' hb hc'
    obtain ⟨h1, h2, C', T', h3, h4, h5⟩ := hs.box b cs' hb hc'
    exact ⟨h1, h2, C', T', (alloc_at (heap_lt h3)).trans h3, h4.mono e, h5⟩
  · intro i hi
    obtain ⟨h1, h2, h3, h4, h5, C', T', h6, h7⟩ := hs.tok i hi
    exact ⟨h1, h2, h3, h4, h5, C', T', (alloc_at (heap_lt h6)).trans h6, h7⟩
  · intro B hB
    simp only [World.size_alloc] at hB
    exact hs.roB B (by omega)
  · intro l r' hl hr
    by_cases hln : l = h.ln
    · subst hln
      have : r = r' := by simpa [H.newLoop] using hr
      subst this
      rw [hnew]
      exact ⟨hs.base_le, L, alloc_new, hL.mono e⟩
    · have hl' : l < h.ln := by simp only [H.newLoop] at hl; omega
      have hr' : h.lp l = some r' := by simpa [H.newLoop, hln] using hr
      obtain ⟨h1, L', h2, h3⟩ := hs.loop l r' hl' hr'
      rw [hlp l (hs.ln ▸ hl')]
      exact ⟨h1, L', (alloc_at (heap_lt h2)).trans h2, h3.mono e⟩
  · intro l l' hl hl' i1 i2 heq
    have hold : ∀ l, l < h.ln + 1 → ((h.newLoop r).lp l).isSome = true → l ≠ h.ln → l < h.ln ∧ (h.lp l).isSome = true ∧ (g.newLoop w.heap.size).lp l = g.lp l ∧ g.lp l < w.heap.size := fun l hl i hne => by
      have hl' : l < h.ln := by omega
      have i' : (h.lp l).isSome = true := by simpa [H.newLoop, hne] using i
      obtain ⟨r', hr'⟩ := Option.isSome_iff_exists.1 i'
      exact ⟨hl', i', hlp l (hs.ln ▸ hl'), hlt l r' hl' hr'⟩
    by_cases h1 : l = h.ln <;> by_cases h2 : l' = h.ln
    · omega
    · obtain ⟨_, _, q1, q2⟩ := hold l' hl' i2 h2
      rw [h1, hnew, q1] at heq; omega
    · obtain ⟨_, _, q1, q2⟩ := hold l hl i1 h1
      rw [h2, hnew, q1] at heq; omega
    · obtain ⟨p1, p2, p3, _⟩ := hold l hl i1 h1
      obtain ⟨q1, q2, q3, _⟩ := hold l' hl' i2 h2
      rw [p3, q3] at heq
      exact hs.loopinj l l' p1 q1 p2 q2 heq
  · intro l r hl hr
    obtain ⟨h1, L, c, h2, h3⟩ := hs.map l r hl hr
    exact ⟨h1, L, c, (alloc_at (heap_lt h2)).trans h2, h3.mono e⟩

/-- A loop's record turns. -/
theorem Sim.setLoop (hs : Sim P base W w g h) {l : Nat} {r : LoopA} (hl : l < h.ln) (hr : h.lp l = some r) {L' : Loop} {r' : Option LoopA} {w' : World}
    (hL : ∀ q, r' = some q → LoopOK P w g q L') (hw : w'.heap[g.lp l]? = some (.loop L')) (hsz : w'.heap.size = w.heap.size) (hoth : ∀ B, B ≠ g.lp l → w'.heap[B]? = w.heap[B]?)
    (hos : w'.os = w.os) (htp : w'.tape = w.tape) (hout : w'.output = w.output) : Sim P base W w' g (h.setLoop l r') ∧ Ext base W w g w' g := by
  obtain ⟨hb, L, h2, _⟩ := hs.loop l r hl hr
  have e : GExt w g w' g := by
    refine ⟨by omega, fun B k hk => ⟨hk, ?_⟩, Nat.le_refl _, fun _ _ => ⟨rfl, rfl⟩, Nat.le_refl _, fun _ _ => ⟨Nat.le_refl _, fun _ => rfl⟩, Nat.le_refl _, fun _ _ => rfl, Nat.le_refl _, fun _ _ => rfl⟩
    by_cases hB : B = g.lp l
    · subst hB
      simp only [World.cell?, hw, h2]
    · exact cell_of_heap (hoth B hB)
  refine ⟨⟨by have := hs.base_le; omega, hs.bn, hs.tn, hs.ln, hs.mn, ?_, hs.boxinj, ?_, hs.tokinj, ?_, ?_, ?_, ?_, hs.mapinj⟩, ⟨e, hos, htp, hout, fun B hB hW => hoth B fun heq => ?_, fun _ _ _ => rfl, fun B ds ho => ?_⟩⟩
  · intro b cs hb hc
    obtain ⟨h1, h2', C', T', h3, h4, h5⟩ := hs.box b cs hb hc
    have hne : g.bx b ≠ g.lp l := fun heq => by rw [heq, h2] at h3; cases h3
    exact ⟨h1, h2', C', T', (hoth _ hne).trans h3, h4.mono e, h5⟩
  · intro i hi
    obtain ⟨h1, h2', h3, h4, h5, C', T', h6, h7⟩ := hs.tok i hi
    have hne : (g.tk i).B ≠ g.lp l := fun heq => by rw [heq, h2] at h6; cases h6
    exact ⟨h1, h2', h3, h4, h5, C', T', (hoth _ hne).trans h6, h7⟩
  · intro B hB
    exact hs.roB B (by omega)
  · intro l2 q hl2 hq
    by_cases hll : l2 = l
    · subst hll
      have hq' : r' = some q := by simpa [H.setLoop] using hq
      exact ⟨hb, L', hw, (hL q hq').mono e⟩
    · have hq' : h.lp l2 = some q := by simpa [H.setLoop, hll] using hq
      obtain ⟨h1, L2, h3, h4⟩ := hs.loop l2 q hl2 hq'
      have hne : g.lp l2 ≠ g.lp l := fun heq => hll (hs.loopinj l2 l hl2 hl (by rw [hq']; rfl) (by rw [hr]; rfl) heq)
      exact ⟨h1, L2, (hoth _ hne).trans h3, h4.mono e⟩
  · intro l1 l2 hl1 hl2 i1 i2 heq
    have key : ∀ l2, l2 < h.ln → ((h.setLoop l r').lp l2).isSome = true → (h.lp l2).isSome = true := fun l2 _ i => by
      by_cases hll : l2 = l
      · subst hll; rw [hr]; rfl
      · simpa [H.setLoop, hll] using i
    exact hs.loopinj l1 l2 hl1 hl2 (key l1 hl1 i1) (key l2 hl2 i2) heq
  · intro m es hm hes
    obtain ⟨h1, E, c, h3, h4⟩ := hs.map m es hm hes
    have hne : g.mp m ≠ g.lp l := fun heq => by rw [heq, h2] at h3; cases h3
    exact ⟨h1, E, c, (hoth _ hne).trans h3, h4.mono e⟩
  · subst heq; omega
  · have : B ≠ g.lp l := fun heq => by
      subst heq
      rw [h2] at ho
      cases ho
    rw [hoth B this]; exact ho

end
end Go.Am

/- Running code: the abstract machine's run of a frame, and that the machine's frame goes the same way. -/
namespace Go.Am
open Go Go.RowKit

inductive Res where
  | norm
  | ret
  | exit (id : Nat)

inductive It where
  | c (i : IR)
  | blk (id : Nat)
  | lp (b : IR)
  | scp
  | beg (l : Nat)

def exitA (id : Nat) : List It → Option (List It)
  | .blk id' :: k => if id' == id then some k else exitA id k
  | _ :: k => exitA id k
  | [] => none

def pendK : Option IR → List It
  | none => []
  | some c => [.c c]

/-- The instructions at these places. -/
def pick (is : List Ins) : List Nat → Option (List Ins)
  | [] => some []
  | i :: l => (is[i]?).bind fun x => (pick is l).map fun xs => x :: xs

section
variable {P : Program} {base : Nat} {W : Nat → Prop}

/-- What is to be done, here and there. -/
def KRel (P : Program) (N : Nat) (g : G) (b : Frame) : List It → List Item → Prop
  | [], [] => True
  | .c i :: k, .code c :: t => cCode P N c = some i ∧ KRel P N g b k t
  | .blk id :: k, .inBlock id' :: t => id = id' ∧ KRel P N g b k t
  | .lp i :: k, .inLoop c :: t => cCode P N c = some i ∧ KRel P N g b k t
  | .scp :: k, .inScope _ :: t => KRel P N g b k t
  | .beg l :: k, .beginRound :: t => l < g.ln ∧ b.roundOf = some (g.lp l) ∧ KRel P N g b k t
  | _, _ => False

theorem KRel.mono {N : Nat} {g g' : G} {b : Frame} {w w' : World} (e : GExt w g w' g') : ∀ {k : List It} {t : List Item}, KRel P N g b k t → KRel P N g' b k t
  | [], [], _ => trivial
  | .c _ :: _, .code _ :: _, h => ⟨h.1, KRel.mono e h.2⟩
  | .blk _ :: _, .inBlock _ :: _, h => ⟨h.1, KRel.mono e h.2⟩
  | .lp _ :: _, .inLoop _ :: _, h => ⟨h.1, KRel.mono e h.2⟩
  | .scp :: k, .inScope _ :: t, h => KRel.mono (k := k) (t := t) e h
  | .beg l :: _, .beginRound :: _, h => ⟨Nat.lt_of_lt_of_le h.1 e.ln, by rw [e.lp l h.1]; exact h.2.1, KRel.mono e h.2.2⟩

theorem KRel.exit {N : Nat} {g : G} {b : Frame} {id : Nat} : ∀ {k : List It} {t : List Item}, KRel P N g b k t → (∀ k', exitA id k = some k' → ∃ t', exitTo id t = some t' ∧ KRel P N g b k' t') ∧ (exitA id k = none → exitTo id t = none)
  | [], [], _ => ⟨fun k' h => by simp [exitA] at h, fun _ => rfl⟩
  | .c _ :: _, .code _ :: _, h => by simp only [exitA, exitTo]; exact KRel.exit h.2
  | .lp _ :: _, .inLoop _ :: _, h => by simp only [exitA, exitTo]; exact KRel.exit h.2
  | .scp :: _, .inScope _ :: _, h => by simp only [exitA, exitTo]; exact KRel.exit h
  | .beg _ :: _, .beginRound :: _, h => by simp only [exitA, exitTo]; exact KRel.exit h.2.2
  | .blk id1 :: k, .inBlock id2 :: t, h => by
    obtain ⟨rfl, h2⟩ := h
    simp only [exitA, exitTo]
    by_cases hid : (id1 == id) = true
    · simp only [hid, if_true]
      exact ⟨fun k' hk => by cases hk; exact ⟨t, rfl, h2⟩, fun hk => by cases hk⟩
    · simp only [hid]
      exact KRel.exit h2

/-- The marks of loops over functions, among a frame's deferred calls. -/
def markOf (r : Nat) : Deferred := { target := .collected r, args := #[] }
def MarksOK (n : Nat) (w : World) (rs : List Nat) : Prop := rs.Nodup ∧ ∀ r ∈ rs, n ≤ r ∧ w.heap[r]? = some (.deferred (some []))

theorem MarksOK.ext {n : Nat} {w w' : World} {g g' : G} {rs : List Nat} (h : MarksOK n w rs) (e : Ext base W w g w' g') : MarksOK n w' rs :=
  ⟨h.1, fun r hr => ⟨(h.2 r hr).1, e.obj r _ (h.2 r hr).2⟩⟩

def EndOK (r : Res) (todo : List Item) : Prop :=
  match r with
  | .norm => todo = []
  | .ret => ∃ k, todo = .code .ret :: k
  | .exit id => ∃ k, todo = .code (.exit id) :: k ∧ exitTo id k = none

/-- Where a run of a frame comes to. -/
def Came (P : Program) (base : Nat) (W : Nat → Prop) (N : Nat) (b : Frame) (cs : List Frame) (m : Machine) (a : Act) (w : World) (g : G) (r : Res) (s' : Slots) (h' : H) : Prop :=
  ∃ a' w' g' todo' rs, Steps P m (lone (b.atR a' todo') cs w') ∧ EndOK r todo' ∧ RepS w' g' s' a'.tmps ∧ a'.tmps.size = N ∧ a'.defers = rs.map markOf ++ a.defers ∧ MarksOK w.heap.size w' rs ∧ (b.roundOf ≠ none → rs = []) ∧ Sim P base W w' g' h' ∧ Ext base W w g w' g'

theorem Came.of {N : Nat} {b : Frame} {cs : List Frame} {m m1 : Machine} {a a1 : Act} {w w1 : World} {g g1 : G} {r : Res} {s' : Slots} {h' : H} (hst : Steps P m m1) (hd : a1.defers = a.defers) (e : Ext base W w g w1 g1)
    (h : Came P base W N b cs m1 a1 w1 g1 r s' h') : Came P base W N b cs m a w g r s' h' := by
  obtain ⟨a', w', g', todo', rs, q1, q2, q3, q4, q5, q6, q7, q8, q9⟩ := h
  exact ⟨a', w', g', todo', rs, hst.trans q1, q2, q3, q4, by rw [q5, hd], ⟨q6.1, fun r hr => ⟨Nat.le_trans e.size (q6.2 r hr).1, (q6.2 r hr).2⟩⟩, q7, q8, e.trans q9⟩

theorem pick_at {N : Nat} {ops : Array Oper} {is : List Ins} (h : cInsL P N ops ops.toList = some is) : ∀ (t : List Nat), (∀ i ∈ t, i < ops.size) → ∃ xs, pick is t = some xs ∧ InsAt P N ops t xs
  | [], _ => ⟨[], rfl, trivial⟩
  | i :: t, hlt => by
    obtain ⟨xs, h1, h2⟩ := pick_at h t (fun j hj => hlt j (List.mem_cons_of_mem _ hj))
    have key : ∀ (os : List Oper) (is : List Ins), cInsL P N ops os = some is → ∀ (i : Nat) (o : Oper), os[i]? = some o → ∃ x, is[i]? = some x ∧ cIns P N ops o = some x := by
      intro os
      induction os with
      | nil => intro is _ i o ho; simp at ho
      | cons o os ih =>
        intro is h i o' ho
        simp only [cInsL, Option.bind_eq_some_iff, Option.map_eq_some_iff] at h
        obtain ⟨x, hx, is', his, rfl⟩ := h
        cases i with
        | zero => simp at ho; subst ho; exact ⟨x, rfl, hx⟩
        | succ i => simpa using ih is' his i o' (by simpa using ho)
    have hi := hlt i (List.mem_cons_self ..)
    obtain ⟨x, hx1, hx2⟩ := key ops.toList is h i ops[i] (by simp [hi])
    exact ⟨x :: xs, by simp [pick, hx1, h1], ⟨ops[i], Array.getElem?_eq_getElem hi, hx2⟩, h2⟩

theorem cInsL_len {N : Nat} {ops : Array Oper} : ∀ (os : List Oper) (is : List Ins), cInsL P N ops os = some is → is.length = os.length
  | [], is, h => by simp only [cInsL, Option.some.injEq] at h; subst h; rfl
  | o :: os, is, h => by
    simp only [cInsL, Option.bind_eq_some_iff, Option.map_eq_some_iff] at h
    obtain ⟨x, _, is', his, rfl⟩ := h
    simp [cInsL_len os is' his]

/-- What code a piece of the machine's code was. -/
theorem cCode_inv {N : Nat} {c : Code} {i : IR} (h : cCode P N c = some i) :
    match i with
    | .skip => c = .skip ∨ ∃ l, c = .label l
    | .reg is => ∃ id ops, c = .region id ops false ∧ cInsL P N ops ops.toList = some is
    | .dreg is aft => ∃ id ops, c = .region id ops true ∧ cInsL P N ops ops.toList = some is ∧ aft = aftOf ops ∧ drawOk ops = true
    | .seq a b => ∃ x y, c = .seq x y ∧ cCode P N x = some a ∧ cCode P N y = some b
    | .cond t a b => ∃ q x y, c = .cond q x y ∧ cOpd N q = some t ∧ cCode P N x = some a ∧ cCode P N y = some b
    | .blk id b => ∃ x, c = .block id x ∧ cCode P N x = some b
    | .loop b => ∃ x, c = .loop x ∧ cCode P N x = some b
    | .scp b => ∃ x, c = .scope x ∧ cCode P N x = some b
    | .rngf f ps a b => ∃ q qs x y, c = .rangeFunc q qs x y ∧ cOpd N q = some f ∧ ps = qs.toList ∧ (∀ p ∈ ps, p < N) ∧ cCode P N x = some a ∧ cCode P N y = some b
    | .exit id => c = .exit id
    | .ret => c = .ret := by
  cases c with
  | skip => simp only [cCode, Option.some.injEq] at h; subst h; exact .inl rfl
  | label l => simp only [cCode, Option.some.injEq] at h; subst h; exact .inr ⟨l, rfl⟩
  | region id ops d =>
    simp only [cCode, Option.bind_eq_some_iff] at h
    obtain ⟨is, his, h⟩ := h
    cases d with
    | true =>
      simp only [if_true] at h
      split at h
      · rename_i hok
        cases h
        exact ⟨id, ops, rfl, his, rfl, hok⟩
      · cases h
    | false =>
      simp only [Bool.false_eq_true, if_false, Option.some.injEq] at h
      subst h
      exact ⟨id, ops, rfl, his⟩
  | seq a b =>
    simp only [cCode, Option.bind_eq_some_iff, Option.map_eq_some_iff] at h
    obtain ⟨x, hx, y, hy, rfl⟩ := h
    exact ⟨a, b, rfl, hx, hy⟩
  | cond q a b =>
    simp only [cCode, Option.bind_eq_some_iff, Option.map_eq_some_iff] at h
    obtain ⟨t, ht, x, hx, y, hy, rfl⟩ := h
    exact ⟨q, a, b, rfl, ht, hx, hy⟩
  | block id b =>
    simp only [cCode, Option.map_eq_some_iff] at h
    obtain ⟨x, hx, rfl⟩ := h
    exact ⟨b, rfl, hx⟩
  | loop b =>
    simp only [cCode, Option.map_eq_some_iff] at h
    obtain ⟨x, hx, rfl⟩ := h
    exact ⟨b, rfl, hx⟩
  | rangeFunc f ps a b =>
    simp only [cCode, Option.bind_eq_some_iff] at h
    obtain ⟨t, ht, x, hx, y, hy, h⟩ := h
    split at h
    · rename_i hps
      cases h
      refine ⟨f, ps, a, b, rfl, ht, rfl, fun p hp => ?_, hx, hy⟩
      have := Array.all_eq_true_iff_forall_mem.1 hps p (Array.mem_toList_iff.1 hp)
      exact of_decide_eq_true this
    · cases h
  | exit id => simp only [cCode, Option.some.injEq] at h; subst h; rfl
  | scope b =>
    simp only [cCode, Option.map_eq_some_iff] at h
    obtain ⟨x, hx, rfl⟩ := h
    exact ⟨b, rfl, hx⟩
  | goto l => simp [cCode] at h
  | ret => simp only [cCode, Option.some.injEq] at h; subst h; rfl
  | refuse w => simp [cCode] at h

end
end Go.Am
