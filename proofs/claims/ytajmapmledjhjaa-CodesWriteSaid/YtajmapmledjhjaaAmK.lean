/- The operations that turn the abstract machine's state: new boxes, stores, appends, make. -/
import Derived.Test.YtajmapmledjhjaaAmJ
namespace Go.Am
open Go Go.RowKit
section
variable {P : Program} {base : Nat} {W : Nat → Prop} {w : World} {g : G} {h : H}

def chunks (z : Nat) : Nat → List AV → List (List AV)
  | 0, _ => []
  | n + 1, l => l.take z :: chunks z n (l.drop z)

/-- What an append's source, or its own slice, holds, element by element. -/
def srcA (h : H) (sz : Nat) (x : AV) : Option (List (List AV)) :=
  match x with
  | .sl _ es => if ∀ e ∈ es, e.length = sz then some es else none
  | .msl b z off len => (h.bx b).bind fun cs => if z = sz ∧ b < h.bn ∧ off + len * z ≤ cs.length then some (chunks z len (cs.drop off)) else none
  | .str s => if sz = 1 then some (s.data.toList.map fun b => [.int .u8 b.toNat]) else none
  | _ => none

theorem chunks_len : ∀ {z n : Nat} {l : List AV}, (chunks z n l).length = n
  | _, 0, _ => rfl
  | z, n + 1, l => by simp [chunks, chunks_len]

theorem chunks_each : ∀ {z n : Nat} {l : List AV}, n * z ≤ l.length → ∀ e ∈ chunks z n l, e.length = z
  | _, 0, _, _, e, he => by simp [chunks] at he
  | z, n + 1, l, h, e, he => by
    rw [Nat.add_mul] at h
    rcases List.mem_cons.1 he with rfl | he
    · simp; omega
    · exact chunks_each (l := l.drop z) (by simp; omega) e he

theorem chunks_flatten : ∀ {z n : Nat} {l : List AV}, n * z ≤ l.length → (chunks z n l).flatten = l.take (n * z)
  | _, 0, _, _ => by simp [chunks]
  | z, n + 1, l, h => by
    rw [Nat.add_mul] at h
    simp only [chunks, List.flatten_cons]
    rw [chunks_flatten (l := l.drop z) (by simp; omega)]
    have : (n + 1) * z = z + n * z := by rw [Nat.add_mul]; omega
    rw [this, List.take_add]

theorem srcA_each {sz : Nat} {x : AV} {es : List (List AV)} (h' : srcA h sz x = some es) : ∀ e ∈ es, e.length = sz := by
  unfold srcA at h'
  split at h'
  · split at h'
    · rename_i hc; cases h'; exact hc
    · cases h'
  · simp only [Option.bind_eq_some_iff] at h'
    obtain ⟨cs, _, h'⟩ := h'
    split at h'
    · rename_i hc
      obtain ⟨rfl, _, hl⟩ := hc
      cases h'
      exact chunks_each (by simp; omega)
    · cases h'
  · split at h'
    · rename_i hc
      cases h'
      intro e he
      simp only [List.mem_map] at he
      obtain ⟨b, _, rfl⟩ := he
      simp [hc]
    · cases h'
  · cases h'

theorem Rep.elems {t : Tok} {es : List (List AV)} {A : Option Addr} {n cap : Nat} (h : Rep w g (.sl t es) (.slice A n cap)) :
    n = es.length ∧ es.length ≤ cap ∧ ∀ k v, es.flatten[k]? = some v → ∃ (a : Addr) (V : Value), A = some a ∧ w.cell? (a.add k) = some V ∧ Rep w g v V ∧ ok1 v = true := by
  obtain ⟨A', cap', z, Vs, he, hz0, hz, hcap, hro, hrep, hok, htok⟩ := h.sl_inv
  cases he
  refine ⟨rfl, hcap, fun k v hk => ?_⟩
  obtain ⟨hlt, rfl⟩ := List.getElem?_eq_some_iff.1 hk
  obtain ⟨B, o, hA, _, hc⟩ := hro k hlt
  exact ⟨⟨B, o, none⟩, Vs k, hA, by rw [lit_add]; exact hc, hrep k hlt, hok k hlt⟩

/-- Reading a source. -/
theorem run_src (hs : Sim P base W w g h) {sz : Nat} {x : AV} {X : Value} {es : List (List AV)} (hsz : 0 < sz) (hx : Rep w g x X) (he : srcA h sz x = some es) :
    (Builtin.lenOf X).run P w = .ok es.length w ∧ ∃ C, (Builtin.firstCells sz es.length X).run P w = .ok C w ∧ RepC w g es.flatten C := by
  have heach := srcA_each he
  have hfl := flatten_len heach
  have key : ∀ (a : Addr), (∀ k v, es.flatten[k]? = some v → ∃ V : Value, w.cell? (a.add k) = some V ∧ Rep w g v V ∧ ok1 v = true) → ∃ C, (loadCells a (es.length * sz)).run P w = .ok C w ∧ RepC w g es.flatten C := fun a hc => by
    let f : Nat → Value := fun j => (w.cell? (a.add j)).getD Go.undef
    have hf : ∀ j, j < es.length * sz → w.cell? (a.add j) = some (f j) := fun j hj => by
      obtain ⟨V, h1, _⟩ := hc j es.flatten[j] (List.getElem?_eq_getElem (by omega))
      simp [f, h1]
    refine ⟨_, run_loadCells w a _ f hf, RepC.mk (by simp [hfl]) fun k v hk => ?_⟩
    obtain ⟨V, h1, h2, h3⟩ := hc k v hk
    have hkl : k < es.length * sz := by rw [← hfl]; exact (List.getElem?_eq_some_iff.1 hk).1
    exact ⟨V, by simp [hkl, f, h1], h2, h3⟩
  have hempty : es = [] → RepC w g es.flatten #[] := fun h0 => by
    subst h0
    exact RepC.mk (by simp) (fun k v hk => by simp at hk)
  unfold srcA at he
  split at he
  · rename_i tk es'
    split at he
    · cases he
      obtain ⟨A, cap, z, Vs, rfl, _⟩ := hx.sl_inv
      obtain ⟨_, _, hel⟩ := hx.elems
      refine ⟨rfl, ?_⟩
      rcases A with _ | a
      · have h0 : es = [] := by
          rcases Nat.eq_zero_or_pos es.length with h | h
          · exact List.eq_nil_of_length_eq_zero h
          · exfalso
            have hp : 0 < es.flatten.length := by rw [hfl]; exact Nat.mul_pos h hsz
            obtain ⟨a, _, hA, _⟩ := hel 0 _ (List.getElem?_eq_getElem hp)
            cases hA
        exact ⟨#[], rfl, hempty h0⟩
      · obtain ⟨C, h1, h2⟩ := key a (fun k v hk => by
          obtain ⟨a', V, hA, q⟩ := hel k v hk
          cases hA
          exact ⟨V, q⟩)
        exact ⟨C, h1, h2⟩
    · cases he
  · rename_i b z off len
    simp only [Option.bind_eq_some_iff] at he
    obtain ⟨cs, hcs, he⟩ := he
    split at he
    · rename_i hc
      obtain ⟨rfl, hb, hl⟩ := hc
      cases he
      obtain ⟨cap, rfl, _⟩ := hx.msl_inv
      obtain ⟨_, _, C0, T, hC, hrep, _⟩ := hs.box b cs hb hcs
      refine ⟨by simp only [Builtin.lenOf, chunks_len]; rfl, ?_⟩
      obtain ⟨C, h1, h2⟩ := key ⟨g.bx b, off, none⟩ (fun k v hk => by
        rw [chunks_flatten (by simp; omega), List.getElem?_take] at hk
        split at hk
        · rw [List.getElem?_drop] at hk
          obtain ⟨V, q⟩ := hrep.2 _ _ hk
          exact ⟨V, by rw [lit_add, cell_at hC]; exact q.1, q.2⟩
        · cases hk)
      exact ⟨C, h1, h2⟩
    · cases he
  · rename_i s
    split at he
    · rename_i h1
      subst h1
      cases he
      obtain rfl := hx.str_inv
      have hsl : s.data.toList.length = s.size := by simp
      refine ⟨by simp only [Builtin.lenOf, Sem.run_pure, List.length_map, hsl], _, rfl, ?_⟩
      have hex : s.extract 0 (s.data.toList.map fun b => ([.int .u8 b.toNat] : List AV)).length = s := by
        simp only [List.length_map, hsl]
        exact ByteArray.extract_zero_size
      rw [hex]
      have hff : (s.data.toList.map fun b => ([.int .u8 b.toNat] : List AV)).flatten = s.data.toList.map fun b => .int .u8 b.toNat := by
        induction s.data.toList with
        | nil => rfl
        | cons a l ih => simp [ih]
      rw [hff]
      refine RepC.mk (by simp) fun k v hk => ?_
      simp only [List.getElem?_map, Option.map_eq_some_iff, Array.getElem?_toList] at hk
      obtain ⟨b, hb, rfl⟩ := hk
      exact ⟨.int .u8 b.toNat, by simp [hb], .int _ _, rfl⟩
    · cases he
  · cases he

/-! ### append -/
inductive AppR (h : H) (sz bytes : Nat) : AV → AV → AV → H → Prop where
  | same (t : Tok) (es : List (List AV)) (x : AV) : srcA h sz x = some [] → AppR h sz bytes (.sl t es) x (.sl t es) h
  | new (es es2 : List (List AV)) (x : AV) : (∀ e ∈ es, e.length = sz) → srcA h sz x = some es2 → 0 < es2.length → (es.length + es2.length) * bytes ≤ 140737488355328 →
      AppR h sz bytes (.sl .full es) x (.sl (.own h.tn) (es ++ es2)) (h.newTok (es.length + es2.length))
  | own (i : Nat) (es es2 : List (List AV)) (x : AV) : (∀ e ∈ es, e.length = sz) → i < h.tn → h.tk i = es.length → srcA h sz x = some es2 → 0 < es2.length → (es.length + es2.length) * bytes ≤ 140737488355328 →
      AppR h sz bytes (.sl (.own i) es) x (.sl (.own i) (es ++ es2)) (h.setTok i (es.length + es2.length))
  | newbox (es es2 : List (List AV)) (x : AV) : (∀ e ∈ es, e.length = sz) → srcA h sz x = some es2 → 0 < es2.length → (es.length + es2.length) * bytes ≤ 140737488355328 →
      AppR h sz bytes (.sl .full es) x (.msl h.bn sz 0 (es.length + es2.length)) (h.alloc (es ++ es2).flatten)
  | box (b len : Nat) (cs : List AV) (es2 : List (List AV)) (x : AV) : b < h.bn → h.bx b = some cs → len * sz ≤ cs.length → srcA h sz x = some es2 → 0 < es2.length → (len + es2.length) * bytes ≤ 140737488355328 →
      AppR h sz bytes (.msl b sz 0 len) x (.msl h.bn sz 0 (len + es2.length)) ((h.kill b).alloc (cs.take (len * sz) ++ es2.flatten))

/-- What the run of an append is: in place, or to a new block. -/
theorem run_append_in (t t' ty e' : TypeId) {u' : TypeDesc} {n : Nat} (hu : P.underlying t = some (.slice e')) (hu' : P.underlying t' = some u') (hu0 : ∀ k, u' ≠ .int k) (hn : szT P e' = some n)
    {A : Option Addr} {len cap m : Nat} {X : Value} {C : Array Value} (hlen : (Builtin.lenOf X).run P w = .ok m w) (hC : (Builtin.firstCells n m X).run P w = .ok C w)
    (hle : len + m ≤ cap) {w' : World} (hst : ∀ a, A = some a → (storeCells (a.add (len * n)) C.toList).run P w = .ok () w') (hst0 : A = none → w' = w) :
    (Builtin.append_ #[t, t'] ty #[.slice A len cap, X]).run P w = .ok (.slice A (len + m) cap) w' := by
  have e1 : (#[t, t'] : Array TypeId)[0]? = some t := rfl
  have e2 : (#[t, t'] : Array TypeId)[1]? = some t' := rfl
  have e3 : (#[.slice A len cap, X] : Array Value)[0]? = some (.slice A len cap) := rfl
  have e4 : (#[.slice A len cap, X] : Array Value)[1]? = some X := rfl
  simp only [Builtin.append_, e1, e2, e3, e4, Sem.run_bind, run_underlying hu, Result.andThen_ok, run_szT hn, run_underlying hu', Sem.run_pure]
  have hz : (match u' with | .int _ => true | _ => false) = false := by
    cases u' <;> first | rfl | exact absurd rfl (hu0 _)
  cases u' with
  | int k => exact absurd rfl (hu0 k)
  | _ =>
    simp only [Bool.false_eq_true, if_false, hlen, Result.andThen_ok, if_pos hle, Bool.not_false, if_true, hC, Sem.run_bind]
    cases A with
    | none => simp only [Sem.run_pure, hst0 rfl]
    | some a => simp only [Sem.run_bind, hst a rfl, Result.andThen_ok, Sem.run_pure]

theorem run_append_out (t t' ty e' : TypeId) {u' : TypeDesc} {n bytes : Nat} (hu : P.underlying t = some (.slice e')) (hu' : P.underlying t' = some u') (hu0 : ∀ k, u' ≠ .int k) (hn : szT P e' = some n) (hb : bytesT P e' = some bytes) (hb0 : 0 < bytes)
    {Z : Value} (hZ : ∀ w, (zeroValue e').run P w = .ok Z w) {A : Option Addr} {len cap m : Nat} {X : Value} {C C0 : Array Value} (hlen : (Builtin.lenOf X).run P w = .ok m w)
    (hlt : cap < len + m) (hbnd : (len + m) * bytes ≤ 140737488355328) (hC0 : (Builtin.firstCells n len (.slice A len cap)).run P w.drew = .ok C0 w.drew) (hC1 : (Builtin.firstCells n m X).run P w.drew = .ok C w.drew) :
    ∃ newCap, len + m ≤ newCap ∧ (Builtin.append_ #[t, t'] ty #[.slice A len cap, X]).run P w = .ok (.slice (some ⟨w.heap.size, 0, none⟩) (len + m) newCap) (w.drew.alloc (.cells (C0 ++ C ++ Builtin.zeroCells Z.cells (newCap - (len + m))) e')) := by
  obtain ⟨i, hi, hib⟩ := Option.map_eq_some_iff.1 hb
  have e1 : (#[t, t'] : Array TypeId)[0]? = some t := rfl
  have e2 : (#[t, t'] : Array TypeId)[1]? = some t' := rfl
  have e3 : (#[.slice A len cap, X] : Array Value)[0]? = some (.slice A len cap) := rfl
  have e4 : (#[.slice A len cap, X] : Array Value)[1]? = some X := rfl
  have hti : ∀ w, (typeInfo e').run P w = .ok i w := fun w => by simp [typeInfo, hi]
  have hgs : ¬ Builtin.nextslicecap (len + m) cap * i.bytes > 2 ^ 48 := by
    rw [hib]
    have := growslice_fits hlt hbnd
    omega
  refine ⟨(Question.appendCap (len + m) cap e').cut (w.tape w.drawn (.appendCap (len + m) cap e')), ?_, ?_⟩
  · simp only [Question.cut]; omega
  simp only [Builtin.append_, e1, e2, e3, e4, Sem.run_bind, run_underlying hu, Result.andThen_ok, run_szT hn, run_underlying hu', Sem.run_pure]
  cases u' with
  | int k => exact absurd rfl (hu0 k)
  | _ =>
    simp only [Bool.false_eq_true, if_false, hlen, Result.andThen_ok, if_neg (show ¬ len + m ≤ cap by omega), false_or, hti, hib, Sem.run_bind]
    rw [if_neg (by omega)]
    simp only [Sem.run_bind, hti, Result.andThen_ok, if_neg hgs, run_choose, Question.forced, Bool.false_eq_true, if_false, run_askRoom]
    have hdrew : ({ w with drawn := w.drawn + 1 } : World) = w.drew := rfl
    simp only [hdrew, hC0, Result.andThen_ok, Bool.not_false, if_true, hC1, hZ, newRow, Sem.run_bind, run_newObj, Sem.run_pure]
    rfl

theorem zeroCells_size (Z : Array Value) (n : Nat) : (Builtin.zeroCells Z n).size = n * Z.size := by simp [Builtin.zeroCells]

/-- A new block's first cells. -/
theorem RepC.app {cs cs' : List AV} {C C' R : Array Value} (h1 : RepC w g cs C) (h2 : RepC w g cs' C') : RepP w g (cs ++ cs') (C ++ C' ++ R) := by
  have l1 := h1.1.1
  have l2 := h2.1.1
  refine ⟨by simp; omega, fun k v hk => ?_⟩
  rw [List.getElem?_append] at hk
  split at hk
  · rename_i hlt
    obtain ⟨V, q1, q2⟩ := h1.get hk
    exact ⟨V, by rw [Array.getElem?_append_left (by simp; omega), Array.getElem?_append_left (by omega)]; exact q1, q2⟩
  · rename_i hlt
    have hk' : k - cs.length < cs'.length := (List.getElem?_eq_some_iff.1 hk).1
    obtain ⟨V, q1, q2⟩ := h2.get hk
    refine ⟨V, ?_, q2⟩
    rw [Array.getElem?_append_left (by simp; omega), Array.getElem?_append_right (by omega), ← l1]
    exact q1

/-- A box that is forgotten. -/
theorem Sim.dropBox (hs : Sim P base W w g h) (b : Nat) : Sim P base W w g (h.kill b) := by
  refine ⟨hs.base_le, hs.bn, hs.tn, hs.ln, hs.mn, fun b2 cs hb2 hc2 => ?_, fun b1 b2 hb1 hb2 h1 h2 heq => ?_, hs.tok, hs.tokinj, hs.roB, hs.loop, hs.loopinj, hs.map, hs.mapinj⟩
  · by_cases hbb : b2 = b
    · subst hbb; simp [H.kill] at hc2
    · exact hs.box b2 cs hb2 (by simpa [H.kill, hbb] using hc2)
  · refine hs.boxinj b1 b2 hb1 hb2 ?_ ?_ heq
    · by_cases hbb : b1 = b
      · subst hbb; simp [H.kill] at h1
      · simpa [H.kill, hbb] using h1
    · by_cases hbb : b2 = b
      · subst hbb; simp [H.kill] at h2
      · simpa [H.kill, hbb] using h2

/-- A box under a new number. -/
theorem Sim.renameBox (hs : Sim P base W w g h) {b : Nat} {cs : List AV} (hb : b < h.bn) (hc : h.bx b = some cs) :
    Sim P base W w (g.box (g.bx b) (g.bs b)) ((h.kill b).alloc cs) ∧ Ext base W w g w (g.box (g.bx b) (g.bs b)) := by
  have hbx' : ∀ b', b' < g.bn → (g.box (g.bx b) (g.bs b)).bx b' = g.bx b' ∧ (g.box (g.bx b) (g.bs b)).bs b' = g.bs b' := fun b' hb' => by
    refine ⟨?_, ?_⟩
    · show (if b' = g.bn then _ else g.bx b') = _
      rw [if_neg (by omega)]
    · show (if b' = g.bn then _ else g.bs b') = _
      rw [if_neg (by omega)]
  have hnew : (g.box (g.bx b) (g.bs b)).bx h.bn = g.bx b ∧ (g.box (g.bx b) (g.bs b)).bs h.bn = g.bs b := by
    refine ⟨?_, ?_⟩
    · show (if h.bn = g.bn then _ else _) = _
      rw [if_pos hs.bn]
    · show (if h.bn = g.bn then _ else _) = _
      rw [if_pos hs.bn]
  have e : GExt w g w (g.box (g.bx b) (g.bs b)) := GExt.of_blk (Nat.le_refl _) (fun _ _ => rfl) hs.roB (fun _ _ => rfl) (Nat.le_succ _) hbx' (Nat.le_refl _) (fun _ _ => rfl) (Nat.le_refl _) (fun _ _ => rfl) (Nat.le_refl _) (fun _ _ => rfl)
  have hlook : ∀ b2 cs2, b2 < h.bn + 1 → ((h.kill b).alloc cs).bx b2 = some cs2 → (b2 = h.bn ∧ cs2 = cs) ∨ (b2 < h.bn ∧ b2 ≠ b ∧ h.bx b2 = some cs2) := fun b2 cs2 hb2 hc2 => by
    by_cases h1 : b2 = h.bn
    · left
      subst h1
      simp [H.alloc, H.kill] at hc2
      exact ⟨rfl, hc2.symm⟩
    · right
      by_cases h2 : b2 = b
      · subst h2; simp [H.alloc, H.kill, h1] at hc2
      · exact ⟨by omega, h2, by simpa [H.alloc, H.kill, h1, h2] using hc2⟩
  refine ⟨⟨hs.base_le, by show h.bn + 1 = g.bn + 1; rw [hs.bn], hs.tn, hs.ln, hs.mn, fun b2 cs2 hb2 hc2 => ?_, fun b1 b2 hb1 hb2 h1 h2 heq => ?_, hs.tok, hs.tokinj, hs.roB, fun l r hl hr => ?_, hs.loopinj, fun l r hl hr => ?_, hs.mapinj⟩, Ext.step hs e rfl rfl rfl (fun _ _ => rfl) (fun _ _ => rfl)⟩
  · rcases hlook b2 cs2 hb2 hc2 with ⟨rfl, rfl⟩ | ⟨q1, q2, q3⟩
    · rw [hnew.1, hnew.2]
      obtain ⟨h1, h2, C, T, h3, h4, h5⟩ := hs.box b cs2 hb hc
      exact ⟨h1, h2, C, T, h3, h4.mono e, h5⟩
    · rw [(hbx' b2 (hs.bn ▸ q1)).1, (hbx' b2 (hs.bn ▸ q1)).2]
      obtain ⟨h1, h2, C, T, h3, h4, h5⟩ := hs.box b2 cs2 q1 q3
      exact ⟨h1, h2, C, T, h3, h4.mono e, h5⟩
  · obtain ⟨c1, hc1⟩ := Option.isSome_iff_exists.1 h1
    obtain ⟨c2, hc2⟩ := Option.isSome_iff_exists.1 h2
    rcases hlook b1 c1 hb1 hc1 with ⟨rfl, rfl⟩ | ⟨q1, q2, q3⟩ <;> rcases hlook b2 c2 hb2 hc2 with ⟨r1, r2⟩ | ⟨r1, r2, r3⟩
    · exact r1.symm
    · rw [hnew.1, (hbx' b2 (hs.bn ▸ r1)).1] at heq
      exact absurd (hs.boxinj b2 b r1 hb (by rw [r3]; rfl) (by rw [hc]; rfl) heq.symm) r2
    · subst r1
      rw [hnew.1, (hbx' b1 (hs.bn ▸ q1)).1] at heq
      exact absurd (hs.boxinj b1 b q1 hb (by rw [q3]; rfl) (by rw [hc]; rfl) heq) q2
    · rw [(hbx' b1 (hs.bn ▸ q1)).1, (hbx' b2 (hs.bn ▸ r1)).1] at heq
      exact hs.boxinj b1 b2 q1 r1 (by rw [q3]; rfl) (by rw [r3]; rfl) heq
  · obtain ⟨h1, L, h2, h3⟩ := hs.loop l r hl hr
    exact ⟨h1, L, h2, h3.mono e⟩
  · obtain ⟨h1, L, c, h2, h3⟩ := hs.map l r hl hr
    exact ⟨h1, L, c, h2, h3.mono e⟩

theorem Rep.ofRowAt {es : List (List AV)} {B o z cap len : Nat} {t : Tok} (hlen : len = es.length) (h0 : 0 < z) (hz : ∀ e ∈ es, e.length = z) (hc : len ≤ cap)
    (hro : o + len * z ≤ g.ro B) (hcell : ∀ (k : Nat) (v : AV), es.flatten[k]? = some v → ∃ V : Value, w.cell? ⟨B, o + k, none⟩ = some V ∧ Rep w g v V ∧ ok1 v = true)
    (ht : TokAt g t (some ⟨B, o, none⟩) z len cap) : Rep w g (.sl t es) (.slice (some ⟨B, o, none⟩) len cap) := by
  subst hlen
  have hl := flatten_len hz
  refine .sl t es _ cap z (fun k => (w.cell? ⟨B, o + k, none⟩).getD Go.undef) ⟨h0, hz⟩ hc (fun k hk => ?_) (fun k hk => ?_) (fun k hk => ?_) ht
  · obtain ⟨V, h1, _⟩ := hcell k _ (List.getElem?_eq_getElem hk)
    exact ⟨B, o, rfl, by omega, by simp [h1]⟩
  · obtain ⟨V, h1, h2, _⟩ := hcell k _ (List.getElem?_eq_getElem hk)
    simpa [h1] using h2
  · obtain ⟨V, h1, _, h3⟩ := hcell k _ (List.getElem?_eq_getElem hk)
    exact h3

/-- The cells of a row that has grown. -/
theorem grown_row {n newCap : Nat} {es es2 : List (List AV)} {C0 C Z : Array Value} (h1 : ∀ e ∈ es, e.length = n) (h2 : ∀ e ∈ es2, e.length = n) (p2 : RepC w g es.flatten C0) (q2 : RepC w g es2.flatten C) (hZ : Z.size = n) (hnc : es.length + es2.length ≤ newCap) :
    (∀ e ∈ es ++ es2, e.length = n) ∧ (C0 ++ C ++ Builtin.zeroCells Z (newCap - (es.length + es2.length))).size = newCap * n ∧ RepP w g (es ++ es2).flatten (C0 ++ C ++ Builtin.zeroCells Z (newCap - (es.length + es2.length))) := by
  refine ⟨fun e he' => ?_, ?_, ?_⟩
  · rcases List.mem_append.1 he' with h | h
    · exact h1 e h
    · exact h2 e h
  · have a1 : C0.size = es.length * n := by rw [← p2.1.1, flatten_len h1]
    have a2 : C.size = es2.length * n := by rw [← q2.1.1, flatten_len h2]
    have a3 : (es.length + es2.length) * n = es.length * n + es2.length * n := Nat.add_mul ..
    have a4 : newCap * n = (es.length + es2.length) * n + (newCap - (es.length + es2.length)) * n := by rw [← Nat.add_mul]; congr 1; omega
    simp only [Array.size_append, zeroCells_size, hZ, a1, a2]
    omega
  · rw [List.flatten_append]
    exact RepC.app p2 q2

theorem app_sound (t t' ty e' : TypeId) {u' : TypeDesc} {n bytes : Nat} (hu : P.underlying t = some (.slice e')) (hu' : P.underlying t' = some u') (hu0 : ∀ k, u' ≠ .int k) (hn : szT P e' = some n) (hn0 : 0 < n) (hb' : bytesT P e' = some bytes) (hb0 : 0 < bytes)
    {z : List AV} (hz : zeroT P e' = some z) (hzl : z.length = n) {h' : H} {s x v : AV} {S X : Value} (hs : Sim P base W w g h) (hS : Rep w g s S) (hX : Rep w g x X) (ha : AppR h n bytes s x v h') :
    Done P base W w g h' v ((do pure (.value (← Builtin.append_ #[t, t'] ty #[S, X])) : Sem Next).run P w) := by
  obtain ⟨Z, hZ, hzrep⟩ := run_zeroT hz
  have hZs : Z.cells.size = n := by have := (hzrep w g).1.1; omega
  obtain ⟨hsD, heD⟩ := hs.drew
  cases ha with
  | same tk es x he =>
    obtain ⟨A, cap, q, Vs, rfl, _, _, hcap, _⟩ := hS.sl_inv
    obtain ⟨h1, C, h2, h3⟩ := run_src hs hn0 hX he
    have hC : C = #[] := by
      have := h3.1.1
      simp at this
      exact Array.eq_empty_of_size_eq_zero this.symm
    subst hC
    simp only [List.length_nil] at h1 h2
    exact ⟨_, w, g, run_value (run_append_in t t' ty e' hu hu' hu0 hn h1 h2 (by omega) (fun a _ => rfl) (fun _ => rfl)), hS, hs, Ext.refl base W w g⟩
  | new es es2 x hes he hpos hbnd =>
    obtain ⟨A, cap, q, Vs, rfl, _, _, hcap, _, _, _, htok⟩ := hS.sl_inv
    have hcl : cap = es.length := htok
    subst hcl
    have hsrc : srcA h n (.sl .full es) = some es := by simp only [srcA, if_pos hes]
    obtain ⟨h1, _⟩ := run_src hs hn0 hX he
    obtain ⟨_, C0, p1, p2⟩ := run_src hsD hn0 (hS.mono heD.toGExt) hsrc
    obtain ⟨_, C, q1, q2⟩ := run_src hsD hn0 (hX.mono heD.toGExt) he
    obtain ⟨newCap, hnc, hrun⟩ := run_append_out t t' ty e' hu hu' hu0 hn hb' hb0 hZ h1 (by omega) hbnd p1 q1
    obtain ⟨hall, hK, hP⟩ := grown_row hes (srcA_each he) p2 q2 hZs hnc
    generalize C0 ++ C ++ Builtin.zeroCells Z.cells (newCap - (es.length + es2.length)) = K at hrun hK hP
    have hlen : es.length + es2.length = (es ++ es2).length := by simp
    obtain ⟨hS', hE'⟩ := hsD.allocTok K e' n (es.length + es2.length) newCap (Nat.mul_pos (by omega) hn0) hnc (by omega)
    refine ⟨_, _, _, run_value hrun, ?_, hS', heD.trans hE'⟩
    have happ := hP.mono hE'.toGExt
    refine Rep.ofRowAt hlen hn0 hall hnc ?_ (fun k v hk => ?_) ?_
    · show _ ≤ (if w.drew.heap.size = w.drew.heap.size then _ else _)
      rw [if_pos rfl]; exact Nat.le_refl _
    · obtain ⟨V, r1, r2⟩ := happ.2 k v hk
      exact ⟨V, by rw [Nat.zero_add]; rw [show w.heap.size = w.drew.heap.size from rfl, cell_at alloc_new]; exact r1, r2⟩
    · have hq1 : (g.newTok ⟨w.drew.heap.size, 0, n, es.length + es2.length, newCap⟩).tk h.tn = ⟨w.drew.heap.size, 0, n, es.length + es2.length, newCap⟩ := by
        show (if h.tn = g.tn then _ else g.tk h.tn) = _
        rw [if_pos hs.tn]
      refine ⟨?_, ?_, fun _ => ?_⟩
      · show h.tn < g.tn + 1
        rw [hs.tn]; omega
      · rw [hq1]; exact Nat.le_refl _
      · rw [hq1]; exact ⟨rfl, rfl, rfl⟩
  | own i es es2 x hes hi hlive he hpos hbnd =>
    obtain ⟨A, cap, q, Vs, rfl, hq0, hq, hcap, hro, hrep, hok, htok⟩ := hS.sl_inv
    obtain ⟨t1, t2, t3⟩ := htok
    obtain ⟨k1, k2, k3, k4, k5, C1, T, k6, k7⟩ := hs.tok i hi
    have hlen : es.length = (g.tk i).n := by omega
    obtain ⟨rfl, rfl, rfl⟩ := t3 hlen
    have hnpos : 0 < es.length := by
      rcases Nat.eq_zero_or_pos es.length with h0 | h0
      · rw [← hlen, h0] at k3; omega
      · exact h0
    have hzn : (g.tk i).z = n := by rw [← hes _ (List.getElem_mem hnpos)]; exact (hq _ (List.getElem_mem hnpos)).symm
    obtain ⟨h1, C, h2, h3⟩ := run_src hs hn0 hX he
    have hall : ∀ e ∈ es ++ es2, e.length = n := fun e he' => by
      rcases List.mem_append.1 he' with h | h
      · exact hes e h
      · exact srcA_each he e h
    have hl2 : es.length + es2.length = (es ++ es2).length := by simp
    have hCs : C.size = es2.length * n := by rw [← h3.1.1, flatten_len (srcA_each he)]
    have hfl := flatten_len hes
    by_cases hfit : es.length + es2.length ≤ (g.tk i).c
    · -- in place
      have hmul : (es.length + es2.length) * n = es.length * n + es2.length * n := Nat.add_mul ..
      have hmulc : (es.length + es2.length) * n ≤ (g.tk i).c * n := Nat.mul_le_mul_right _ hfit
      rw [hzn] at k5 k7
      rw [← hlen] at k5
      have hst := run_storeCells_at P (g.tk i).B ((g.tk i).o + es.length * n) T C.toList 0 C1 w k6 (by simp [hCs]; omega) h3.allOne
      simp only [Nat.add_zero, Array.length_toList] at hst
      obtain ⟨r1, r2, r3, r4, r5, r6⟩ := setRow_at w (g.tk i).B (C1.toList.take ((g.tk i).o + es.length * n) ++ C.toList ++ C1.toList.drop ((g.tk i).o + es.length * n + C.size)).toArray k6
      have hget : ∀ k, (C1.toList.take ((g.tk i).o + es.length * n) ++ C.toList ++ C1.toList.drop ((g.tk i).o + es.length * n + C.size)).toArray[k]? = if (g.tk i).o + es.length * n ≤ k ∧ k < (g.tk i).o + es.length * n + C.size then C[k - ((g.tk i).o + es.length * n)]? else C1[k]? := fun k => by
        rw [List.getElem?_toArray, splice_get _ _ _ C.size (by simp) (by simp [hCs]; omega)]
        simp
      obtain ⟨hS', hE'⟩ := hs.tokIn hi k6 r1 (by simp [hCs]; omega) (fun k hk => by
        rw [hzn, ← hlen] at hk
        rw [hget, if_neg (by omega)]) (n' := es.length + es2.length) (by omega) hfit r2 r3 r4 r5 r6
      refine ⟨_, _, _, run_value (run_append_in t t' ty e' hu hu' hu0 hn h1 h2 hfit (fun a ha => by cases ha; rw [lit_add]; exact hst) (fun ha => by cases ha)), ?_, hS', hE'⟩
      have htk1 : (g.setTok i { g.tk i with n := es.length + es2.length }).tk i = { g.tk i with n := es.length + es2.length } := by
        show (if i = i then _ else _) = _
        rw [if_pos rfl]
      refine Rep.ofRowAt hl2 hn0 hall hfit ?_ (fun k v hk => ?_) ?_
      · show _ ≤ (if (g.tk i).B = (g.tk i).B then _ else _)
        rw [if_pos rfl]
        show _ ≤ (g.tk i).o + (es.length + es2.length) * (g.tk i).z
        rw [hzn]; exact Nat.le_refl _
      · rw [List.flatten_append, List.getElem?_append] at hk
        rw [cell_at r1, hget]
        split at hk
        · rename_i hlt
          obtain ⟨_, rfl⟩ := List.getElem?_eq_some_iff.1 hk
          obtain ⟨B', o', hA, _, hc⟩ := hro k hlt
          cases hA
          rw [if_neg (by omega)]
          rw [cell_at k6] at hc
          exact ⟨Vs k, hc, (hrep k hlt).mono hE'.toGExt, hok k hlt⟩
        · rename_i hlt
          have hk' : k - es.flatten.length < es2.flatten.length := (List.getElem?_eq_some_iff.1 hk).1
          have := flatten_len (srcA_each he)
          obtain ⟨V, s1, s2, s3⟩ := h3.get hk
          refine ⟨V, ?_, s2.mono hE'.toGExt, s3⟩
          rw [if_pos (by omega), ← s1]
          congr 1
          omega
      · refine ⟨by show i < g.tn; omega, ?_, fun _ => ?_⟩
        · rw [htk1]; exact Nat.le_refl _
        · rw [htk1]; exact ⟨rfl, rfl, hzn.symm⟩
    · -- to a new block
      have hsrc : srcA h n (.sl (.own i) es) = some es := by simp only [srcA, if_pos hes]
      obtain ⟨_, C0, p1, p2⟩ := run_src hsD hn0 (hS.mono heD.toGExt) hsrc
      obtain ⟨_, C', q1, q2⟩ := run_src hsD hn0 (hX.mono heD.toGExt) he
      obtain ⟨newCap, hnc, hrun⟩ := run_append_out t t' ty e' hu hu' hu0 hn hb' hb0 hZ h1 (by omega) hbnd p1 q1
      obtain ⟨_, hK, hP⟩ := grown_row hes (srcA_each he) p2 q2 hZs hnc
      generalize C0 ++ C' ++ Builtin.zeroCells Z.cells (newCap - (es.length + es2.length)) = K at hrun hK hP
      obtain ⟨hS', hE'⟩ := hsD.tokMove hi K e' n (es.length + es2.length) newCap (by omega) (Nat.mul_pos (by omega) hn0) hnc (by omega)
      refine ⟨_, _, _, run_value hrun, ?_, hS', heD.trans hE'⟩
      have happ := hP.mono hE'.toGExt
      have htk1 : (g.setTok i ⟨w.drew.heap.size, 0, n, es.length + es2.length, newCap⟩).tk i = ⟨w.drew.heap.size, 0, n, es.length + es2.length, newCap⟩ := by
        show (if i = i then _ else _) = _
        rw [if_pos rfl]
      refine Rep.ofRowAt hl2 hn0 hall hnc ?_ (fun k v hk => ?_) ?_
      · show _ ≤ (if w.drew.heap.size = w.drew.heap.size then _ else _)
        rw [if_pos rfl]; exact Nat.le_refl _
      · obtain ⟨V, r1, r2⟩ := happ.2 k v hk
        exact ⟨V, by rw [Nat.zero_add]; rw [show w.heap.size = w.drew.heap.size from rfl, cell_at alloc_new]; exact r1, r2⟩
      · refine ⟨by show i < g.tn; omega, ?_, fun _ => ?_⟩
        · rw [htk1]; exact Nat.le_refl _
        · rw [htk1]; exact ⟨rfl, rfl, rfl⟩
  | newbox es es2 x hes he hpos hbnd =>
    obtain ⟨A, cap, q, Vs, rfl, _, _, hcap, _, _, _, htok⟩ := hS.sl_inv
    have hcl : cap = es.length := htok
    subst hcl
    have hsrc : srcA h n (.sl .full es) = some es := by simp only [srcA, if_pos hes]
    obtain ⟨h1, _⟩ := run_src hs hn0 hX he
    obtain ⟨_, C0, p1, p2⟩ := run_src hsD hn0 (hS.mono heD.toGExt) hsrc
    obtain ⟨_, C, q1, q2⟩ := run_src hsD hn0 (hX.mono heD.toGExt) he
    obtain ⟨newCap, hnc, hrun⟩ := run_append_out t t' ty e' hu hu' hu0 hn hb' hb0 hZ h1 (by omega) hbnd p1 q1
    obtain ⟨hall, hK, hP⟩ := grown_row hes (srcA_each he) p2 q2 hZs hnc
    generalize C0 ++ C ++ Builtin.zeroCells Z.cells (newCap - (es.length + es2.length)) = K at hrun hK hP
    obtain ⟨hS', hE'⟩ := hsD.allocBox K e' (es ++ es2).flatten hP
    refine ⟨_, _, _, run_value hrun, ?_, hS', heD.trans hE'⟩
    have hbx : (g.box w.drew.heap.size K.size).bx h.bn = w.heap.size ∧ (g.box w.drew.heap.size K.size).bs h.bn = K.size := by
      refine ⟨?_, ?_⟩
      · show (if h.bn = g.bn then _ else _) = _
        rw [if_pos hs.bn]; rfl
      · show (if h.bn = g.bn then _ else _) = _
        rw [if_pos hs.bn]
    have := Rep.msl (w := w.drew.alloc (.cells K e')) (g := g.box w.drew.heap.size K.size) h.bn n 0 (es.length + es2.length) newCap (by show h.bn < g.bn + 1; rw [hs.bn]; omega) hnc (by rw [hbx.2]; omega)
    rw [hbx.1] at this
    exact this
  | box b len cs es2 x hb hc hl he hpos hbnd =>
    obtain ⟨cap, rfl, hbn, hcap, hbs⟩ := hS.msl_inv
    obtain ⟨m1, m2, C1, T, m3, m4, m5⟩ := hs.box b cs hb hc
    obtain ⟨h1, C, h2, h3⟩ := run_src hs hn0 hX he
    have hCs : C.size = es2.length * n := by rw [← h3.1.1, flatten_len (srcA_each he)]
    have hmul : (len + es2.length) * n = len * n + es2.length * n := Nat.add_mul ..
    by_cases hfit : len + es2.length ≤ cap
    · have hmulc : (len + es2.length) * n ≤ cap * n := Nat.mul_le_mul_right _ hfit
      have hst := run_storeCells_at P (g.bx b) (0 + len * n) T C.toList 0 C1 w m3 (by simp [hCs]; omega) h3.allOne
      simp only [Nat.add_zero, Array.length_toList] at hst
      obtain ⟨r1, r2, r3, r4, r5, r6⟩ := setRow_at w (g.bx b) (C1.toList.take (0 + len * n) ++ C.toList ++ C1.toList.drop (0 + len * n + C.size)).toArray m3
      have hget : ∀ k, (C1.toList.take (0 + len * n) ++ C.toList ++ C1.toList.drop (0 + len * n + C.size)).toArray[k]? = if 0 + len * n ≤ k ∧ k < 0 + len * n + C.size then C[k - (0 + len * n)]? else C1[k]? := fun k => by
        rw [List.getElem?_toArray, splice_get _ _ _ C.size (by simp) (by simp [hCs]; omega)]
        simp
      have hm41 := m4.1
      have hRP : RepP w g (cs.take (len * n) ++ es2.flatten) (C1.toList.take (0 + len * n) ++ C.toList ++ C1.toList.drop (0 + len * n + C.size)).toArray := by
        refine ⟨by simp [hCs, flatten_len (srcA_each he)]; omega, fun k v hk => ?_⟩
        rw [hget]
        rw [List.getElem?_append] at hk
        have htl : (cs.take (len * n)).length = len * n := by simp; omega
        split at hk
        · rename_i hlt
          rw [if_neg (by omega)]
          rw [List.getElem?_take, if_pos (by omega)] at hk
          exact m4.2 k v hk
        · rename_i hlt
          have hk' : k - (cs.take (len * n)).length < es2.flatten.length := (List.getElem?_eq_some_iff.1 hk).1
          rw [flatten_len (srcA_each he)] at hk'
          rw [if_pos (by omega)]
          rw [htl] at hk
          rw [Nat.zero_add]
          exact h3.get hk
      obtain ⟨hS1, hE1⟩ := hs.setBox hb hc hRP r1 (by simp [hCs]; omega) r2 r3 r4 r5 r6
      obtain ⟨hS2, hE2⟩ := hS1.renameBox (b := b) (cs := cs.take (len * n) ++ es2.flatten) hb (by simp [H.set])
      have hkk : ((h.set b (cs.take (len * n) ++ es2.flatten)).kill b) = h.kill b := by
        simp only [H.set, H.kill]
        congr 1
        funext b'
        by_cases hbb : b' = b <;> simp [hbb]
      rw [hkk] at hS2
      refine ⟨_, _, _, run_value (run_append_in t t' ty e' hu hu' hu0 hn h1 h2 hfit (fun a ha => by cases ha; rw [lit_add]; exact hst) (fun ha => by cases ha)), ?_, hS2, hE1.trans hE2⟩
      have hbx : (g.box (g.bx b) (g.bs b)).bx h.bn = g.bx b ∧ (g.box (g.bx b) (g.bs b)).bs h.bn = g.bs b := by
        refine ⟨?_, ?_⟩
        · show (if h.bn = g.bn then _ else _) = _
          rw [if_pos hs.bn]
        · show (if h.bn = g.bn then _ else _) = _
          rw [if_pos hs.bn]
      have := Rep.msl (w := w.setRow (g.bx b) (C1.toList.take (0 + len * n) ++ C.toList ++ C1.toList.drop (0 + len * n + C.size)).toArray) (g := g.box (g.bx b) (g.bs b)) h.bn n 0 (len + es2.length) cap (by show h.bn < g.bn + 1; rw [hs.bn]; omega) hfit (by rw [hbx.2]; omega)
      rw [hbx.1] at this
      exact this
    · have hsrc : srcA h n (.msl b n 0 len) = some (chunks n len cs) := by
        simp only [srcA, hc, Option.bind_some]
        rw [if_pos ⟨trivial, hb, by omega⟩]
        simp
      obtain ⟨_, C0, p1, p2⟩ := run_src hsD hn0 (hS.mono heD.toGExt) hsrc
      obtain ⟨_, C', q1, q2⟩ := run_src hsD hn0 (hX.mono heD.toGExt) he
      rw [chunks_len] at p1
      obtain ⟨newCap, hnc, hrun⟩ := run_append_out t t' ty e' hu hu' hu0 hn hb' hb0 hZ h1 (by omega) hbnd p1 q1
      obtain ⟨_, hK, hP⟩ := grown_row (srcA_each hsrc) (srcA_each he) p2 q2 hZs (newCap := newCap) (by rw [chunks_len]; exact hnc)
      rw [chunks_len] at hK hP
      rw [List.flatten_append, chunks_flatten (by omega)] at hP
      generalize C0 ++ C' ++ Builtin.zeroCells Z.cells (newCap - (len + es2.length)) = K at hrun hK hP
      obtain ⟨hS', hE'⟩ := (hsD.dropBox b).allocBox K e' (cs.take (len * n) ++ es2.flatten) hP
      refine ⟨_, _, _, run_value hrun, ?_, hS', heD.trans hE'⟩
      have hbx : (g.box w.drew.heap.size K.size).bx h.bn = w.heap.size ∧ (g.box w.drew.heap.size K.size).bs h.bn = K.size := by
        refine ⟨?_, ?_⟩
        · show (if h.bn = g.bn then _ else _) = _
          rw [if_pos hs.bn]; rfl
        · show (if h.bn = g.bn then _ else _) = _
          rw [if_pos hs.bn]
      have := Rep.msl (w := w.drew.alloc (.cells K e')) (g := g.box w.drew.heap.size K.size) h.bn n 0 (len + es2.length) newCap (by show h.bn < g.bn + 1; rw [hs.bn]; omega) hnc (by rw [hbx.2]; omega)
      rw [hbx.1] at this
      exact this

end
end Go.Am
