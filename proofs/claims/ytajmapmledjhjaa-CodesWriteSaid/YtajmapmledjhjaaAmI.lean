/- The operations on slices, strings, arrays, tuples, lengths, least and greatest. -/
import Derived.Test.YtajmapmledjhjaaAmH
namespace Go.Am
open Go Go.RowKit
section
variable {P : Program} {base : Nat} {W : Nat → Prop} {w : World} {g : G} {h : H}

theorem run_iaddrAA {t e' : TypeId} {len n : Nat} (hu : P.underlying t = some (.array len e')) (hn : szT P e' = some n) {x i v : AV} {X I : Value} (hx : Rep w g x X) (hi : Rep w g i I)
    {e : Opd → AV} {o q : Opd} (ho : e o = x) (hq : e q = i) (hv : pv (.iaddrA len n o q) e h = some v) : ∃ V, (Instr.indexAt t X I).run P w = .ok V w ∧ Rep w g v V := by
  simp only [pv, ho, hq, Option.bind_eq_some_iff] at hv
  obtain ⟨j, hj, hv⟩ := hv
  obtain ⟨k, ii, rfl, h0, h1, rfl, hlt⟩ := idxOf_inv hj hi
  split at hv
  · cases hv
    rename_i b off
    obtain ⟨hb, rfl⟩ := hx.ptr_inv
    refine ⟨.pointer (some ⟨g.bx b, off + ii.toNat * n, none⟩), ?_, .ptr b _ hb⟩
    simp only [Instr.indexAt, asIntOf, Sem.run_bind, Sem.run_pure, Result.andThen_ok, run_underlying hu, Instr.sureAddr]
    rw [if_pos ⟨h0, h1⟩]
    simp only [Sem.run_bind, run_szT hn, Result.andThen_ok, Sem.run_pure, lit_add]
  · cases hv
    rename_i cs
    obtain ⟨a, Vs, rfl, q1, q2, q3⟩ := hx.rop_inv
    refine ⟨.pointer (some (a.add (ii.toNat * n))), ?_, ?_⟩
    · simp only [Instr.indexAt, asIntOf, Sem.run_bind, Sem.run_pure, Result.andThen_ok, run_underlying hu, Instr.sureAddr]
      rw [if_pos ⟨h0, h1⟩]
      simp only [Sem.run_bind, run_szT hn, Result.andThen_ok, Sem.run_pure]
    · refine .rop _ _ (fun k => Vs (ii.toNat * n + k)) (fun k hk => ?_) (fun k hk => ?_) (fun k hk => ?_)
      · have hk' : ii.toNat * n + k < cs.length := by simp at hk; omega
        obtain ⟨B, o', hA, hr, hc⟩ := q1 _ hk'
        cases hA
        exact ⟨B, o' + ii.toNat * n, by rw [lit_add], by omega, by rw [Nat.add_assoc]; exact hc⟩
      · have hk' : ii.toNat * n + k < cs.length := by simp at hk; omega
        rw [List.getElem_drop]; exact q2 _ hk'
      · have hk' : ii.toNat * n + k < cs.length := by simp at hk; omega
        rw [List.getElem_drop]; exact q3 _ hk'
  · cases hv

theorem run_fldA {s : TypeId} {fs : Array Field} {f : Nat} {fd : Field} {n : Nat} {ag : Bool} (hu : P.underlying s = some (.struct fs)) (hf : fs[f]? = some fd) (hn : szT P fd.type = some n) (hag : aggT P fd.type = some ag) {x v : AV} {X : Value} (hx : Rep w g x X)
    {e : Opd → AV} {o : Opd} (ho : e o = x) (hv : pv (.fld fd.offset n ag o) e h = some v) : ∃ V, (Instr.field s X f).run P w = .ok V w ∧ Rep w g v V := by
  simp only [pv, ho] at hv
  split at hv
  · split at hv
    · rename_i hl
      obtain ⟨C, rfl, hC⟩ := hx.agg_inv
      obtain ⟨V, h1, h2⟩ := run_partA (P := P) hn hag hC hl hv
      exact ⟨V, by simp only [Instr.field, Sem.run_bind, run_underlying hu, Result.andThen_ok, hf, asAgg, Sem.run_pure, h1], h2⟩
    · cases hv
  · cases hv

theorem run_idxAA {t e' : TypeId} {len n : Nat} {ag : Bool} (hu : P.underlying t = some (.array len e')) (hn : szT P e' = some n) (hag : aggT P e' = some ag) {x i v : AV} {X I : Value} (hx : Rep w g x X) (hi : Rep w g i I)
    {e : Opd → AV} {o q : Opd} (ho : e o = x) (hq : e q = i) (hv : pv (.idxA len n ag o q) e h = some v) : ∃ V, (Instr.index t X I).run P w = .ok V w ∧ Rep w g v V := by
  simp only [pv, ho, hq] at hv
  split at hv
  · simp only [Option.bind_eq_some_iff] at hv
    obtain ⟨j, hj, hv⟩ := hv
    split at hv
    · rename_i hl
      obtain ⟨k, ii, rfl, h0, h1, rfl, hlt⟩ := idxOf_inv hj hi
      obtain ⟨C, rfl, hC⟩ := hx.agg_inv
      obtain ⟨V, q1, q2⟩ := run_partA (P := P) hn hag hC hl hv
      refine ⟨V, ?_, q2⟩
      simp only [Instr.index, asIntOf, Sem.run_bind, Sem.run_pure, Result.andThen_ok, run_underlying hu]
      rw [if_pos ⟨h0, h1⟩]
      simp only [Sem.run_bind, run_szT hn, Result.andThen_ok, q1]
    · cases hv
  · cases hv

theorem run_idxSA {t : TypeId} (hu : P.underlying t = some .string) {x i v : AV} {X I : Value} (hx : Rep w g x X) (hi : Rep w g i I)
    {e : Opd → AV} {o q : Opd} (ho : e o = x) (hq : e q = i) (hv : pv (.idxS o q) e h = some v) : ∃ V, (Instr.index t X I).run P w = .ok V w ∧ Rep w g v V := by
  simp only [pv, ho, hq] at hv
  split at hv
  · rename_i s
    simp only [Option.bind_eq_some_iff, Option.map_eq_some_iff] at hv
    obtain ⟨j, hj, c, hc, rfl⟩ := hv
    obtain ⟨k, ii, rfl, h0, h1, rfl, hlt⟩ := idxOf_inv hj hi
    obtain rfl := hx.str_inv
    refine ⟨_, ?_, .int _ _⟩
    have hb : s[ii.toNat]? = some c := by
      obtain ⟨hl, rfl⟩ := Array.getElem?_eq_some_iff.1 hc
      rw [getElem?_pos s ii.toNat (by exact hl)]
      rfl
    simp only [Instr.index, asIntOf, Sem.run_bind, Sem.run_pure, Result.andThen_ok, run_underlying hu, if_pos h0, hb]
  · cases hv


/-! ### Cuts -/
def RepO (w : World) (g : G) : Option AV → Option Value → Prop
  | none, none => True
  | some x, some X => Rep w g x X
  | _, _ => False

theorem evO_rep {N : Nat} {s : Slots} {a : Act} (hr : RepS w g s a.tmps) {x : Option Operand} {y : Option Opd} (hy : cOpdO N x = some y) : RepO w g (y.map (ev s)) (x.map a.eval) := by
  cases x with
  | none => simp only [cOpdO, Option.some.injEq] at hy; subst hy; trivial
  | some x =>
    simp only [cOpdO, Option.map_eq_some_iff] at hy
    obtain ⟨z, hz, rfl⟩ := hy
    exact ev_rep hr hz

theorem run_bound {v : AV} {V : Value} {n d j y : Nat} (h : bndOf (some v) n d = some j) (hr : Rep w g v V) (hny : n ≤ y) (code : BoundsCode) : (Instr.sliceBound V y code).run P w = .ok j w ∧ j ≤ n := by
  unfold bndOf at h
  split at h
  · rename_i hh; cases hh
  · rename_i k i hh
    cases hh
    split at h
    · rename_i hi
      cases h
      obtain rfl := hr.int_inv
      refine ⟨?_, by omega⟩
      simp only [Instr.sliceBound, asIntOf, Sem.run_bind, Sem.run_pure, Result.andThen_ok]
      rw [if_pos ⟨hi.1, by omega⟩]
      rfl
    · cases h
  · cases h

/-- The bounds of a cut without a third. -/
theorem run_bounds2 {isS : Bool} {lo hi : Option AV} {Lo Hi : Option Value} {len cap l h' : Nat} (hLo : RepO w g lo Lo) (hHi : RepO w g hi Hi) (hc : len ≤ cap)
    (hh : bndOf hi len len = some h') (hl : bndOf lo h' 0 = some l) : (Instr.sliceBounds isS len cap Lo Hi none).run P w = .ok (l, h', cap) w ∧ l ≤ h' ∧ h' ≤ len := by
  cases lo <;> cases Lo <;> simp only [RepO] at hLo <;> cases hi <;> cases Hi <;> simp only [RepO] at hHi
  · simp only [bndOf, Option.some.injEq] at hh hl
    subst hh hl
    exact ⟨rfl, Nat.zero_le _, Nat.le_refl _⟩
  · simp only [bndOf, Option.some.injEq] at hl
    subst hl
    obtain ⟨h1, h2⟩ := run_bound (P := P) hh hHi hc (if isS then .sliceAcap else .sliceAlen)
    refine ⟨?_, Nat.zero_le _, h2⟩
    simp only [Instr.sliceBounds, Sem.run_bind, Sem.run_pure, Result.andThen_ok, h1]
  · simp only [bndOf, Option.some.injEq] at hh
    subst hh
    obtain ⟨h1, h2⟩ := run_bound (P := P) hl hLo (Nat.le_refl _) .sliceB
    refine ⟨?_, h2, Nat.le_refl _⟩
    simp only [Instr.sliceBounds, Sem.run_bind, Sem.run_pure, Result.andThen_ok, Option.isSome_none, Bool.false_eq_true, if_false, h1]
  · obtain ⟨h1, h2⟩ := run_bound (P := P) hh hHi hc (if isS then .sliceAcap else .sliceAlen)
    obtain ⟨h3, h4⟩ := run_bound (P := P) hl hLo (Nat.le_refl _) .sliceB
    refine ⟨?_, h4, h2⟩
    simp only [Instr.sliceBounds, Sem.run_bind, Sem.run_pure, Result.andThen_ok, Option.isSome_none, Bool.false_eq_true, if_false, h1, h3]

/-- The bounds of a cut with a third. -/
theorem run_bounds3 {isS : Bool} {lo : Option AV} {hi mx : AV} {Lo : Option Value} {Hi Mx : Value} {len cap l h' m d d' : Nat} (hLo : RepO w g lo Lo) (hHi : Rep w g hi Hi) (hMx : Rep w g mx Mx) (hc : len ≤ cap)
    (hm : bndOf (some mx) len d = some m) (hh : bndOf (some hi) m d' = some h') (hl : bndOf lo h' 0 = some l) : (Instr.sliceBounds isS len cap Lo (some Hi) (some Mx)).run P w = .ok (l, h', m) w ∧ l ≤ h' ∧ h' ≤ m ∧ m ≤ len := by
  obtain ⟨h1, h2⟩ := run_bound (P := P) hm hMx hc (if isS then .slice3Acap else .slice3Alen)
  obtain ⟨h3, h4⟩ := run_bound (P := P) hh hHi (Nat.le_refl _) .slice3B
  cases lo <;> cases Lo <;> simp only [RepO] at hLo
  · simp only [bndOf, Option.some.injEq] at hl
    subst hl
    refine ⟨?_, Nat.zero_le _, h4, h2⟩
    simp only [Instr.sliceBounds, Sem.run_bind, Result.andThen_ok, h1, h3, Sem.run_pure]
  · obtain ⟨h5, h6⟩ := run_bound (P := P) hl hLo (Nat.le_refl _) .slice3C
    refine ⟨?_, h6, h4, h2⟩
    simp only [Instr.sliceBounds, Sem.run_bind, Result.andThen_ok, h1, h3, Option.isSome_some, if_true, h5, Sem.run_pure]

/-- A part of a slice that is read. -/
theorem Rep.cut {es : List (List AV)} {A : Option Addr} {z : Nat} {Vs : Nat → Value} (h0 : 0 < z) (hz : ∀ e ∈ es, e.length = z)
    (hro : ∀ k, k < es.flatten.length → ROat w g A k (Vs k)) (hrep : ∀ k (hk : k < es.flatten.length), Rep w g es.flatten[k] (Vs k)) (hok : ∀ k (hk : k < es.flatten.length), ok1 es.flatten[k] = true)
    {l h' m : Nat} (hl : l ≤ h') (hh : h' ≤ es.length) (hm : h' ≤ m) {t : Tok} (ht : TokAt g t (if m = l then A else A.map (·.add (l * z))) z (h' - l) (m - l)) :
    Rep w g (.sl t ((es.take h').drop l)) (.slice (if m = l then A else A.map (·.add (l * z))) (h' - l) (m - l)) := by
  have hlen : ((es.take h').drop l).length = h' - l := by simp; omega
  have hz' : ∀ e ∈ (es.take h').drop l, e.length = z := fun e he => hz e (List.mem_of_mem_take (List.mem_of_mem_drop he))
  have hfl := flatten_len hz'
  have key : ∀ k, k < ((es.take h').drop l).flatten.length → ∃ hk' : l * z + k < es.flatten.length, ((es.take h').drop l).flatten[k]? = some es.flatten[l * z + k] := by
    intro k hk
    have hi : k / z < h' - l := by
      rw [hfl, hlen] at hk
      exact Nat.div_lt_of_lt_mul (by rw [Nat.mul_comm]; exact hk)
    have hj : k % z < z := Nat.mod_lt _ h0
    have hkk : k / z * z + k % z = k := by rw [Nat.mul_comm]; exact Nat.div_add_mod k z
    obtain ⟨p1, p2, p3⟩ := flat_at hz (show l + k / z < es.length by omega) hj
    have e1 : (l + k / z) * z + k % z = l * z + k := by rw [Nat.add_mul]; omega
    have q := flatten_get hz' (k / z) (k % z) hj
    rw [hkk] at q
    simp only [e1] at p1 p3
    refine ⟨p1, ?_⟩
    rw [q, List.getElem?_drop, List.getElem?_take, if_pos (by omega), List.getElem?_eq_getElem (by omega), Option.bind_some, List.getElem?_eq_getElem p2, p3]
  rw [← hlen]
  refine .sl t _ _ _ z (fun k => Vs (l * z + k)) ⟨h0, hz'⟩ (by omega) (fun k hk => ?_) (fun k hk => ?_) (fun k hk => ?_) (by rw [hlen]; exact ht)
  · obtain ⟨hk', _⟩ := key k hk
    obtain ⟨B, o', hA, hr, hc⟩ := hro _ hk'
    subst hA
    have hml : m ≠ l := by
      intro hml
      have : h' - l = 0 := by omega
      rw [hfl, hlen, this] at hk
      omega
    rw [if_neg hml]
    exact ⟨B, o' + l * z, by simp only [Option.map_some, lit_add], by omega, by rw [Nat.add_assoc]; exact hc⟩
  · obtain ⟨hk', he⟩ := key k hk
    have : ((es.take h').drop l).flatten[k] = es.flatten[l * z + k] := (List.getElem?_eq_some_iff.1 he).2
    rw [this]; exact hrep _ hk'
  · obtain ⟨hk', he⟩ := key k hk
    have : ((es.take h').drop l).flatten[k] = es.flatten[l * z + k] := (List.getElem?_eq_some_iff.1 he).2
    rw [this]; exact hok _ hk'

theorem run_sliceA {t e' : TypeId} {n : Nat} (hu : P.underlying t = some (.slice e')) (hn : szT P e' = some n) {x v : AV} {X : Value} (hx : Rep w g x X)
    {e : Opd → AV} {o : Opd} {lo hi mx : Option Opd} {Lo Hi Mx : Option Value} (ho : e o = x) (hLo : RepO w g (lo.map e) Lo) (hHi : RepO w g (hi.map e) Hi) (hMx : RepO w g (mx.map e) Mx)
    (hv : pv (.slice n o lo hi mx) e h = some v) : ∃ V, (Instr.sliceAt t X Lo Hi Mx).run P w = .ok V w ∧ Rep w g v V := by
  have hat : ∀ {A : Option Addr} {len cap : Nat}, (Instr.sliceAt t (.slice A len cap) Lo Hi Mx).run P w = ((Instr.sliceBounds true len cap Lo Hi Mx).run P w).andThen fun q w' => .ok (.slice (if q.2.2 = q.1 then A else A.map (·.add (q.1 * n))) (q.2.1 - q.1) (q.2.2 - q.1)) w' := fun {A len cap} => by
    simp only [Instr.sliceAt, Instr.slice, Sem.run_bind, run_underlying hu, Result.andThen_ok]
    cases (Instr.sliceBounds true len cap Lo Hi Mx).run P w with
    | ok q w' => simp only [Result.andThen_ok, run_szT hn, Sem.run_pure]
    | halt q w' => rfl
  have hnil : ∀ (A : Option Addr) (c : Nat) (t : Tok), (t = .no ∨ (t = .full ∧ c = 0)) → Rep w g (.sl t []) (.slice A 0 c) := fun A c t ht =>
    .sl t [] A c 1 (fun _ => Go.undef) ⟨by omega, by simp⟩ (by simp) (by simp) (by simp) (by simp) (by rcases ht with rfl | ⟨rfl, rfl⟩; exact trivial; rfl)
  simp only [pv, ho] at hv
  split at hv
  · rename_i tk es
    obtain ⟨A, cap, z, Vs, rfl, hz0, hz, hcap, hro, hrep, hok, htok⟩ := hx.sl_inv
    have hadd : ∀ l, (l = 0 ∨ ∀ el ∈ es, el.length = n) → (∀ h', h' ≤ es.length → l < h' → l * n = l * z) := fun l hc h' hh hl => by
      rcases hc with rfl | hc
      · simp
      · have hlt : 0 < es.length := by omega
        have e1 := hc es[0] (List.getElem_mem hlt)
        have e2 := hz es[0] (List.getElem_mem hlt)
        rw [← e1, ← e2]
    cases mx with
    | none =>
      cases Mx with
      | some _ => simp [RepO] at hMx
      | none =>
        simp only [Option.bind_eq_some_iff] at hv
        obtain ⟨h', hh, l, hl, hv⟩ := hv
        split at hv
        · rename_i hc
          cases hv
          obtain ⟨q1, q2, q3⟩ := run_bounds2 (P := P) (isS := true) hLo hHi hcap hh hl
          refine ⟨_, by rw [hat, q1]; rfl, ?_⟩
          by_cases hlh : l = h'
          · -- nothing is left
            subst hlh
            have e0 : (es.take l).drop l = [] := by simp
            rw [e0]
            simp only [Nat.sub_self]
            have htk : tokCut tk l l es.length none = .no ∨ (tokCut tk l l es.length none = .full ∧ cap - l = 0) ∨ (∃ id, tokCut tk l l es.length none = .own id ∧ tk = .own id ∧ l = 0 ∧ l = es.length) := by
              unfold tokCut
              simp only
              split
              · rename_i hle
                split
                · right; left; exact ⟨rfl, by have : cap = es.length := htok; omega⟩
                · rename_i id
                  split
                  · right; right; exact ⟨id, rfl, rfl, by assumption, hle⟩
                  · left; rfl
                · left; rfl
              · left; rfl
            rcases htk with h1 | ⟨h1, h2⟩ | ⟨id, h1, rfl, h2, h3⟩
            · rw [h1]; exact hnil _ _ _ (.inl rfl)
            · rw [h1, h2]; exact hnil _ _ _ (.inr ⟨rfl, rfl⟩)
            · rw [h1]
              subst h2
              have hes : es = [] := List.eq_nil_of_length_eq_zero h3.symm
              subst hes
              have : (if cap = 0 then A else A.map (·.add (0 * n))) = A := by
                split
                · rfl
                · cases A <;> simp [Addr.add]
              simp only [Nat.sub_zero, this]
              exact hx
          · have hml : ¬ cap = l := by omega
            have := Rep.cut hz0 hz hro hrep hok q2 q3 (m := cap) (by omega) (t := tokCut tk l h' es.length none) (by
              rw [if_neg hml]
              unfold tokCut
              simp only
              split
              · rename_i hle
                split
                · have : cap = es.length := htok
                  show cap - l = h' - l
                  omega
                · rename_i id
                  split
                  · rename_i hl0
                    subst hl0 hle
                    have e1 : A.map (·.add (0 * z)) = A := by cases A <;> simp [Addr.add]
                    rw [e1]
                    exact htok
                  · trivial
                · trivial
              · trivial)
            rw [hadd l hc h' q3 (by omega)]
            exact this
        · cases hv
    | some mx =>
      cases Mx with
      | none => simp [RepO] at hMx
      | some Mx =>
        cases hi with
        | none => simp at hv
        | some hi =>
          cases Hi with
          | none => simp [RepO] at hHi
          | some Hi =>
            simp only [Option.bind_eq_some_iff] at hv
            obtain ⟨m, hm, h', hh, l, hl, hv⟩ := hv
            split at hv
            · rename_i hc
              cases hv
              obtain ⟨q1, q2, q3, q4⟩ := run_bounds3 (P := P) (isS := true) hLo hHi hMx hcap hm hh hl
              refine ⟨_, by rw [hat, q1]; rfl, ?_⟩
              have hfull : ∀ (z' : Nat) (A' : Option Addr), TokAt g (tokCut tk l h' es.length (some m)) A' z' (h' - l) (m - l) := fun z' A' => by
                unfold tokCut
                simp only
                split
                · show m - l = h' - l
                  omega
                · trivial
              by_cases hlh : l = h'
              · subst hlh
                have e0 : (es.take l).drop l = [] := by simp
                rw [e0]
                simp only [Nat.sub_self]
                refine .sl _ [] _ _ 1 (fun _ => Go.undef) ⟨by omega, by simp⟩ (by simp) (by simp) (by simp) (by simp) ?_
                have := hfull 1 (if m = l then A else Option.map (fun x => x.add (l * n)) A)
                simpa using this
              · have hml : ¬ m = l := by omega
                have := Rep.cut hz0 hz hro hrep hok q2 (by omega) (m := m) q3 (hfull z _)
                rw [hadd l hc h' (by omega) (by omega)]
                exact this
            · cases hv
  · rename_i b z off len
    obtain ⟨cap, rfl, hb, hcap, hbs⟩ := hx.msl_inv
    cases mx with
    | none =>
      cases Mx with
      | some _ => simp [RepO] at hMx
      | none =>
        simp only [Option.bind_eq_some_iff] at hv
        obtain ⟨h', hh, l, hl, hv⟩ := hv
        split at hv
        case isFalse => cases hv
        rename_i hzn
        subst hzn
        cases hv
        obtain ⟨q1, q2, q3⟩ := run_bounds2 (P := P) (isS := true) hLo hHi hcap hh hl
        refine ⟨_, by rw [hat, q1]; rfl, ?_⟩
        split
        · rename_i hlh
          obtain ⟨hlh, _⟩ := hlh
          subst hlh
          simp only [Nat.sub_self]
          exact hnil _ _ _ (.inl rfl)
        · rename_i hlh
          have haddr : (if cap = l then some (⟨g.bx b, off, none⟩ : Addr) else Option.map (fun (x : Addr) => x.add (l * z)) (some ⟨g.bx b, off, none⟩)) = some ⟨g.bx b, off + l * z, none⟩ := by
            split
            · rename_i hcl
              have : l = 0 := by
                rcases Nat.eq_zero_or_pos l with h | h
                · exact h
                · exact absurd ⟨by omega, by omega⟩ hlh
              subst this
              simp
            · simp only [Option.map_some, lit_add]
          simp only [haddr]
          refine .msl b _ _ _ _ hb (by omega) ?_
          have : l * z + (cap - l) * z = cap * z := by rw [← Nat.add_mul]; congr 1; omega
          omega
    | some mx =>
      cases Mx with
      | none => simp [RepO] at hMx
      | some Mx =>
        cases hi with
        | none => simp at hv
        | some hi =>
          cases Hi with
          | none => simp [RepO] at hHi
          | some Hi =>
            simp only [Option.bind_eq_some_iff] at hv
            obtain ⟨m, hm, h', hh, l, hl, hv⟩ := hv
            split at hv
            · rename_i hc
              cases hv
              obtain ⟨rfl, rfl⟩ := hc
              obtain ⟨q1, q2, q3, q4⟩ := run_bounds3 (P := P) (isS := true) hLo hHi hMx hcap hm hh hl
              refine ⟨_, by rw [hat, q1]; rfl, ?_⟩
              simp only [Nat.sub_self]
              exact hnil _ _ _ (.inr ⟨rfl, rfl⟩)
            · cases hv
  · cases hv

theorem run_sliceSA {t : TypeId} (hu : P.underlying t = some .string) {x v : AV} {X : Value} (hx : Rep w g x X)
    {e : Opd → AV} {o : Opd} {lo hi : Option Opd} {Lo Hi : Option Value} (ho : e o = x) (hLo : RepO w g (lo.map e) Lo) (hHi : RepO w g (hi.map e) Hi)
    (hv : pv (.sliceS o lo hi) e h = some v) : ∃ V, (Instr.sliceAt t X Lo Hi none).run P w = .ok V w ∧ Rep w g v V := by
  simp only [pv, ho] at hv
  split at hv
  · rename_i s
    simp only [Option.bind_eq_some_iff, Option.map_eq_some_iff] at hv
    obtain ⟨h', hh, l, hl, rfl⟩ := hv
    obtain rfl := hx.str_inv
    obtain ⟨q1, q2, q3⟩ := run_bounds2 (P := P) (isS := false) hLo hHi (Nat.le_refl _) hh hl
    refine ⟨_, ?_, .str _⟩
    simp only [Instr.sliceAt, Instr.slice, Sem.run_bind, run_underlying hu, Result.andThen_ok, Option.isSome_none, Bool.false_eq_true, if_false, q1, Sem.run_pure]
  · cases hv

end
end Go.Am
