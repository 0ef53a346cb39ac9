/- What the functions that the statement reaches do: their contracts; and what follows of it. -/
import Derived.Test.YtaepkklbckgbhaaDoorSProgWords2
import Derived.Shelf.SlSortCmp.WholeK
import Derived.Test.YtaepkklbckgbhaaDoorProg
import Derived.Shelf.SlicesG.Cmp
/- A sort of a box's spans: what the library's own contract says. -/
namespace Go.Am
open Go Go.RowKit Go.Sort Go.Lib Go.Shelf

section
variable {P : Program} {base : Nat} {W : Nat → Prop} {w : World} {g : G} {h : H}

theorem Sim.ahead (hs : Sim P base W w g h) (n : Nat) : Sim P base W (Sort.ahead w n) g h ∧ Ext base W w g (Sort.ahead w n) g := by
  induction n with
  | zero => exact ⟨hs, Ext.refl base W w g⟩
  | succ n ih =>
    obtain ⟨a, b⟩ := ih.1.drew
    rw [ahead_drew] at a b
    exact ⟨a, ih.2.trans b⟩

theorem grow_at (w : World) (os : Array Obj) {B : Nat} (hB : B < w.heap.size) : (Sort.grow w os).heap[B]? = w.heap[B]? := by
  show (w.heap ++ os)[B]? = _
  rw [Array.getElem?_append_left hB]

theorem Sim.grow (hs : Sim P base W w g h) (os : Array Obj) : Sim P base W (Sort.grow w os) g h ∧ Ext base W w g (Sort.grow w os) g := by
  have hsz : w.heap.size ≤ (Sort.grow w os).heap.size := by
    show _ ≤ (w.heap ++ os).size
    simp
  have e : GExt w g (Sort.grow w os) g := GExt.of_blk hsz (fun _ hB => grow_at w os hB) hs.roB (fun _ _ => rfl) (Nat.le_refl _) (fun _ _ => ⟨rfl, rfl⟩) (Nat.le_refl _) (fun _ _ => rfl) (Nat.le_refl _) (fun _ _ => rfl) (Nat.le_refl _) (fun _ _ => rfl)
  exact ⟨hs.step e hsz (fun _ hB => grow_at w os hB) rfl rfl rfl rfl rfl (fun _ _ => rfl) (fun B hB => hs.roB B (Nat.le_trans hsz hB)), Ext.step hs e rfl rfl rfl (fun _ hB => grow_at w os hB) (fun _ _ => rfl)⟩

theorem flatK_get (d : Array (Int × Int)) {i k : Nat} (hi : i < d.size) (hk : k < 2) : (flatK encP 2 d)[i * 2 + k]! = (encP d[i]!)[k]! := by
  have h1 : (i * 2 + k) / 2 = i := by omega
  have h2 : (i * 2 + k) % 2 = k := by omega
  rw [get_flatK encP 2 d _ (by omega), h1, h2]

/-- The cells of spans, seen from the machine. -/
theorem cell_pair {l : List (Int × Int)} {rest : List AV} {C : Array Value} (hr : RepP w g (flatP l ++ rest) C) {i k : Nat} (hi : i < l.length) (hk : k < 2) : C[i * 2 + k]? = some (encP l[i])[k]! := by
  have hlt : i * 2 + k < (flatP l).length := by rw [flatP_len]; omega
  have hg : (flatP l ++ rest)[i * 2 + k]? = (avP l[i])[k]? := by
    rw [List.getElem?_append_left hlt, flatP_get l i k hk, List.getElem?_eq_getElem hi]
    rfl
  have h2 : k = 0 ∨ k = 1 := by omega
  rcases h2 with rfl | rfl
  · obtain ⟨V, q1, q2, _⟩ := hr.2 _ _ (hg.trans rfl)
    rw [q1, q2.int_inv]
    rfl
  · obtain ⟨V, q1, q2, _⟩ := hr.2 _ _ (hg.trans rfl)
    rw [q1, q2.int_inv]
    rfl

/-- The library's sort of spans, by a function on them. -/
def SortsAt (P : Program) (f g0 : FuncId) : Prop := ∀ (blk cap : Nat) (d : Array (Int × Int)) (w : World), HoldsK encP 2 w blk 0 d → blk < w.heap.size → d.size < 4611686018427387904 →
    Calls P f #[.slice (some ⟨blk, 0, none⟩) d.size cap, .func (.func g0) #[] #[]] w fun e w' => e = .returned (.tuple #[]) ∧ ∃ d' n os, PermIn 0 d.size d d' ∧ SortedIn (fun x y : Int × Int => decide (x.1 < y.1)) 0 d.size d' ∧ w' = Go.Proofs.sortWorldK encP 2 w blk 0 n d' os

theorem sort_call {f g0 : FuncId} (hbody : HasBody P f) (hsort : SortsAt P f g0) {b : Nat} {l : List (Int × Int)} {rest : List AV} (hb : b < h.bn) (hc : h.bx b = some (flatP l ++ rest)) (hl : l.length < 4611686018427387904) :
    CallP P f [.msl b 2 0 l.length, .fn g0 [] []] h fun r h' => r = .tup [] ∧ ∃ l' : List (Int × Int), l'.Perm l ∧ (l'.Pairwise fun x y => x.1 ≤ y.1) ∧ h' = h.set b (flatP l' ++ rest) := by
  refine ⟨hbody, fun base W w g Args hs hA => ?_⟩
  obtain ⟨hAs, hAr⟩ := hA
  have h0 := hAr 0 (by simp)
  have h1 := hAr 1 (by simp)
  simp only [List.length_cons, List.length_nil] at hAs
  have hArgs : Args = #[Args[0], Args[1]] := by
    apply Array.ext
    · simp; omega
    · intro i hi1 hi2
      have : i = 0 ∨ i = 1 := by simp at hi2; omega
      rcases this with rfl | rfl <;> simp
  generalize hA0 : Args[0] = A0 at h0 hArgs
  generalize hA1 : Args[1] = A1 at h1 hArgs
  subst hArgs
  clear hA0 hA1 hAs hAr
  simp only [List.getElem_cons_zero] at h0
  simp only [List.getElem_cons_succ, List.getElem_cons_zero] at h1
  obtain ⟨cap, rfl, hgb, hcap, hbs⟩ := h0.msl_inv
  have hA1 : A1 = .func (.func g0) #[] #[] := by
    cases h1 with
    | fn _ _ _ F C hF hC _ _ =>
      have e1 : F = #[] := Array.eq_empty_of_size_eq_zero hF.symm
      have e2 : C = #[] := Array.eq_empty_of_size_eq_zero hC.symm
      rw [e1, e2]
  subst hA1
  obtain ⟨_, hro, C, T, hC, hrep, hCs⟩ := hs.box b _ hb hc
  have hdl : l.toArray.size = l.length := by simp
  have hcl : ∀ k, w.cell? ⟨g.bx b, k, none⟩ = C[k]? := fun k => by rw [cell_at hC]
  have hH : HoldsK encP 2 w (g.bx b) 0 l.toArray := by
    intro j hj
    rw [size_flatK, hdl] at hj
    have hi : j / 2 < l.length := by omega
    have hj2 : j / 2 * 2 + j % 2 = j := by omega
    have hk2 : j % 2 < 2 := by omega
    have := cell_pair hrep hi hk2
    rw [hj2] at this
    refine ⟨?_, ?_⟩
    · have hf := flatK_get l.toArray (i := j / 2) (k := j % 2) (by rw [hdl]; exact hi) hk2
      rw [hj2] at hf
      rw [Nat.zero_add, hcl, this, id, hf]
      congr 2
      simp [hi]
    · simp only [World.frozen?, hC]
      simp
  have hblk : g.bx b < w.heap.size := heap_lt hC
  refine (hsort (g.bx b) cap l.toArray w hH hblk (by rw [hdl]; exact hl)).mono ?_
  rintro e w' ⟨rfl, d', n, os, hp, hso, rfl⟩
  have hd' : d'.size = l.length := hp.1.trans hdl
  have hF : (flatK encP 2 d').size = l.length * 2 := by rw [size_flatK, hd']
  have hperm : d'.toList.Perm l := by
    have := hp.2.2
    rw [hdl] at this
    have e1 : l.take d'.size = l := List.take_of_length_le (by omega)
    simpa [← hd', Array.extract_size, e1] using this
  have hpl : d'.toList.length = l.length := by simp [hd']
  obtain ⟨hs1, he1⟩ := hs.ahead n
  have hC1 : (Sort.ahead w n).heap[g.bx b]? = some (.cells C T (0, 0)) := hC
  have hw1 : (putRowK encP 2 (Sort.ahead w n) (g.bx b) 0 d').heap[g.bx b]? = some (.cells (putCells id 0 (flatK encP 2 d') C) T (0, 0)) := by
    show (Array.modify _ _ _)[_]? = _
    rw [Array.getElem?_modify, if_pos rfl, hC1]
    rfl
  have hrep1 : RepP (Sort.ahead w n) g (flatP d'.toList ++ rest) (putCells id 0 (flatK encP 2 d') C) := by
    have hr1 := hrep.mono he1.toGExt
    have hgetC : ∀ k, (putCells id 0 (flatK encP 2 d') C)[k]? = (C[k]?).map fun x => if k < l.length * 2 then (flatK encP 2 d')[k]! else x := fun k => by
      rw [putCells, Array.getElem?_mapIdx]
      cases C[k]? with
      | none => rfl
      | some x => simp [hF]
    have hlc := hrep.1
    rw [List.length_append, flatP_len] at hlc
    refine ⟨by rw [List.length_append, flatP_len, hpl]; simp [putCells]; omega, fun k v hk => ?_⟩
    rw [hgetC]
    by_cases hlt : k < l.length * 2
    · have hi : k / 2 < l.length := by omega
      have hk2 : k % 2 < 2 := by omega
      have hj2 : k / 2 * 2 + k % 2 = k := by omega
      rw [List.getElem?_append_left (by rw [flatP_len, hpl]; exact hlt), ← hj2, flatP_get _ _ _ hk2, List.getElem?_eq_getElem (by rw [hpl]; exact hi), Option.bind_some] at hk
      have hf := flatK_get d' (i := k / 2) (k := k % 2) (by rw [hd']; exact hi) hk2
      rw [hj2] at hf
      have hCk : C[k]? = some C[k] := Array.getElem?_eq_getElem (by omega)
      rw [hCk, Option.map_some, if_pos hlt, hf]
      have hde : d'[k / 2]! = d'.toList[k / 2]'(by rw [hpl]; exact hi) := by
        rw [getElem!_pos d' (k / 2) (by rw [hd']; exact hi), Array.getElem_toList]
      rw [hde]
      have h2 : k % 2 = 0 ∨ k % 2 = 1 := by omega
      rcases h2 with e | e <;> rw [e] at hk ⊢ <;> cases hk <;> exact ⟨_, rfl, .int _ _, rfl⟩
    · rw [List.getElem?_append_right (by rw [flatP_len, hpl]; omega), flatP_len, hpl] at hk
      have hk' : (flatP l ++ rest)[k]? = some v := by
        rw [List.getElem?_append_right (by rw [flatP_len]; omega), flatP_len]; exact hk
      obtain ⟨V, q1, q2, q3⟩ := hr1.2 k v hk'
      exact ⟨V, by rw [q1, Option.map_some, if_neg hlt], q2, q3⟩
  obtain ⟨hs2, he2⟩ := hs1.setBox hb hc hrep1 hw1 (by simp [putCells]; exact hCs) (by
    show (Array.modify _ _ _).size = _
    simp) (fun B hB => by
    show (Array.modify _ _ _)[_]? = _
    rw [Array.getElem?_modify, if_neg (fun e => hB e.symm)]) rfl rfl rfl
  obtain ⟨hs3, he3⟩ := hs2.grow os
  refine ⟨.tuple #[], g, .tup [], _, rfl, .tup [] #[] rfl (fun k hk => by simp at hk), hs3, (he1.trans he2).trans he3, rfl, d'.toList, hperm, ?_, rfl⟩
  rw [List.pairwise_iff_getElem]
  intro i j hi hj hij
  have := hso i j (Nat.zero_le _) hij (by rw [hdl, ← hpl]; exact hj)
  rw [getElem!_pos d' i (by simpa using hi), getElem!_pos d' j (by simpa using hj), decide_eq_false_iff_not] at this
  simp only [Array.getElem_toList]
  omega

end
end Go.Am

/- The library's own contracts for a sort of spans, laid at the program; the program's function that compares. PRINTED in its first part by laygen.py, a program of this work. -/
namespace Go.Proofs
open Go Go.RowKit Go.Am Go.Sort Go.Lib Go.Shelf

theorem Tryd.spanLt (x y : Int × Int) : ltOf (fun x y : Int × Int => Lib.compareInt x.1 y.1) x y = decide (x.1 < y.1) := by
  unfold ltOf Lib.compareInt
  by_cases h1 : x.1 < y.1
  · simp [h1]
  · by_cases h2 : y.1 < x.1 <;> simp [h1, h2]

/-- 'cmp.Compare(a.Lo, b.Lo) < 0' is a strict weak order. -/
theorem Tryd.spanSwo : SWO (ltOf fun x y : Int × Int => Lib.compareInt x.1 y.1) where
  irrefl x := by rw [Tryd.spanLt]; simp
  trans x y z h1 h2 := by rw [Tryd.spanLt] at *; simp at *; omega
  ntrans x y z h1 h2 := by rw [Tryd.spanLt] at *; simp at *; omega

end Go.Proofs

/- The plain list of all spans of some lists. -/
namespace Go.Proofs
open Go Go.RowKit Go.Am

theorem plainL_nil : plainL [] = [] := (plainL_of ⟨fun s hs => (by cases hs), List.Pairwise.nil⟩ fun _ => rfl).symm
theorem pure_encL (l : List Sp) : PureV (encL l) := .sl (fun _ e => by cases e) fun e he => by
  obtain ⟨x, _, rfl⟩ := List.mem_map.1 he
  exact pure_avP x
theorem pure_encLL (ls : List (List Sp)) : PureV (.sl .no (ls.map fun l => [encL l])) := .sl (fun _ e => by cases e) fun e he => by
  obtain ⟨x, _, rfl⟩ := List.mem_map.1 he
  intro v hv
  rw [List.mem_singleton.1 hv]
  exact pure_encL x
theorem wk_encL (l : List Sp) : Am.wk (encL l) = encL l := by
  simp [encL, avP]
theorem flatP_last (o : List Sp) (t : Sp) : List.take 1 (List.drop (o.length * 2 + 1) (flatP (o ++ [t]))) = [.int .i64 t.2] := by
  have e := flatP_len o
  rw [flatP_app, ← e, ← List.drop_drop, List.drop_left]
  rfl
theorem flatP_last_put (o : List Sp) (t : Sp) (v : Int) : (flatP (o ++ [t])).take (o.length * 2 + 1) ++ AV.int .i64 v :: (flatP (o ++ [t])).drop (o.length * 2 + 1 + 1) = flatP (o ++ [(t.1, v)]) := by
  have e := flatP_len o
  rw [flatP_app, flatP_app, ← e, List.take_length_add_append, Nat.add_assoc, ← List.drop_drop, List.drop_left]
  simp [flatP, avP]
theorem plain_last {o : List Sp} {t : Sp} (h : isPlain (o ++ [t])) : 0 ≤ t.2 ∧ t.2 ≤ 999 := by
  have := mayS_iff.1 (isPlain_snoc.1 h).2.1
  omega

theorem chunksP : ∀ l : List Sp, chunks 2 l.length (flatP l) = l.map avP
  | [] => rfl
  | x :: l => by
    rw [flatP_cons, List.length_cons, chunks, List.take_left' (by rfl), List.drop_left' (by rfl), chunksP l]
    rfl
end Go.Proofs

/- The document's sets of keys: what its functions say. -/
namespace Go.Am
open Go Go.RowKit
/-- A pointer to a box that no longer turns. -/
theorem Gh.rop {h : H} {b : Nat} {cs : List AV} (hb : b < h.bn) (hc : h.bx b = some cs) : Gh h (.ptr b 0) (h.kill b) (.rop cs) := by
  refine .frz b cs hb hc (fun w g V hro hr => ?_) (.refl _ _)
  cases hr with
  | ptr b o h1 =>
    have key : ∀ k (hk : k < cs.length), ∃ U, k < g.ro (g.bx b) ∧ w.cell? ⟨g.bx b, k, none⟩ = some U ∧ Rep w g cs[k] U ∧ ok1 cs[k] = true := fun k hk => hro k _ (List.getElem?_eq_getElem hk)
    refine Rep.rop cs ⟨g.bx b, 0, none⟩ (fun k => if hk : k < cs.length then Classical.choose (key k hk) else .nilFunc) (fun k hk => ?_) (fun k hk => ?_) (fun k hk => ?_)
    · obtain ⟨q1, q2, _⟩ := Classical.choose_spec (key k hk)
      refine ⟨g.bx b, 0, rfl, by rw [Nat.zero_add]; exact q1, ?_⟩
      rw [dif_pos hk, Nat.zero_add]
      exact q2
    · rw [dif_pos hk]
      exact (Classical.choose_spec (key k hk)).2.2.1
    · exact (Classical.choose_spec (key k hk)).2.2.2
theorem HF.kl {h h1 : H} {B T : Nat → Prop} (e : HF h h1 B T) {b : Nat} (hb : h.bn ≤ b) : HF h (h1.kill b) B T :=
  ⟨e.bn, fun b' h1 hn => by
    have : b' ≠ b := by omega
    simp only [H.kill, if_neg this]
    exact e.bx b' h1 hn, e.tn, e.tk, e.ln, e.lp, e.mn, e.mp⟩
end Go.Am
namespace Go.Proofs
open Go Go.RowKit Go.Am

def setA (f : Nat → Bool) : List AV := (List.range 1000).map fun k => .bool (f k)
@[simp] theorem setA_len (f : Nat → Bool) : (setA f).length = 1000 := by simp only [setA, List.length_map, List.length_range]
theorem setA_get (f : Nat → Bool) {k : Nat} (hk : k < 1000) : (setA f)[k]? = some (.bool (f k)) := by
  rw [setA, List.getElem?_map, List.getElem?_range hk]; rfl
theorem setA_at (f : Nat → Bool) {k : Nat} (hk : k < 1000) : List.take 1 (List.drop k (setA f)) = [.bool (f k)] := by
  have h := setA_get f hk
  obtain ⟨hk', e⟩ := List.getElem?_eq_some_iff.1 h
  rw [List.drop_eq_getElem_cons hk', e]
  rfl
theorem setA_put (f : Nat → Bool) {k : Nat} (hk : k < 1000) (v : Bool) : List.take k (setA f) ++ .bool v :: List.drop (k + 1) (setA f) = setA fun i => if i = k then v else f i := by
  have e : setA (fun i => if i = k then v else f i) = (setA f).set k (.bool v) := by
    apply List.ext_getElem?
    intro i
    rw [List.getElem?_set]
    by_cases h : k = i
    · subst h
      rw [if_pos rfl, if_pos (by rw [setA_len]; exact hk), setA_get _ hk, if_pos rfl]
    · rw [if_neg h]
      by_cases hi : i < 1000
      · rw [setA_get _ hi, setA_get _ hi, if_neg (fun e => h e.symm)]
      · rw [List.getElem?_eq_none (by rw [setA_len]; omega), List.getElem?_eq_none (by rw [setA_len]; omega)]
  rw [e, List.set_eq_take_append_cons_drop, if_pos (by rw [setA_len]; exact hk)]
theorem setA_zero : List.replicate 1000 (AV.bool false) = setA fun _ => false := by
  apply List.ext_getElem?
  intro i
  by_cases hi : i < 1000
  · rw [setA_get _ hi, List.getElem?_replicate, if_pos hi]
  · rw [List.getElem?_eq_none (by rw [List.length_replicate]; omega), List.getElem?_eq_none (by rw [setA_len]; omega)]
theorem setA_congr {f g : Nat → Bool} (h : ∀ k, k < 1000 → f k = g k) : setA f = setA g := by
  apply List.ext_getElem?
  intro i
  by_cases hi : i < 1000
  · rw [setA_get _ hi, setA_get _ hi, h i hi]
  · rw [List.getElem?_eq_none (by rw [setA_len]; omega), List.getElem?_eq_none (by rw [setA_len]; omega)]
theorem pure_setA (f : Nat → Bool) : ∀ v ∈ setA f, PureV v := by
  intro v hv
  obtain ⟨k, _, rfl⟩ := List.mem_map.1 hv
  exact .bool _
theorem wk_setA (f : Nat → Bool) : (setA f).map wk = setA f := by simp [setA]
/-- A set, as the document has it. -/
def setP (f : Nat → Bool) : AV := .rop (setA f)
theorem pure_setP (f : Nat → Bool) : PureV (setP f) := .rop (pure_setA f)
theorem wk_setP (f : Nat → Bool) : Am.wk (setP f) = setP f := by simp [setP, wk_setA]

def upTo (l : List Sp) (lo k : Int) (i : Nat) : Bool := hasK l i || (decide (lo ≤ i) && decide ((i : Int) < k))

end Go.Proofs

/- The document's sets of keys: the plain list of a set; the same; a key in common. -/
namespace Go.Proofs
open Go Go.RowKit Go.Am

end Go.Proofs

/- The document's sets of keys: are two lists the same, have two sets a key in common? The program's short functions. -/
namespace Go.Proofs
open Go Go.RowKit Go.Am

theorem pures2 {a b : AV} (ha : PureV a) (hb : PureV b) : ∀ v ∈ [a, b], PureV v := pures_cons ha (pures1 hb)
def meetB (f g : Nat → Bool) : Bool := (List.range 1000).any fun k => f k && g k
theorem meetB_iff (f g : Nat → Bool) : meetB f g = true ↔ ∃ k, k < 1000 ∧ f k = true ∧ g k = true := by
  simp only [meetB, List.any_eq_true, List.mem_range, Bool.and_eq_true]
/-! ### The program's -/
theorem elOK_P : ElOK avP 2 true := ⟨fun _ => rfl, (fun h => by cases h), pure_avP, fun x => by simp [avP]⟩
end Go.Proofs

/- A text's bytes as words: both ways of packing, and the writer of texts. -/
namespace Go.Proofs
open Go Go.RowKit Go.Am

/-- The byte at a place, or none: 0. -/
def byteAt (s : ByteArray) (i : Nat) : Nat := match s.data[i]? with | some c => c.toNat | none => 0
theorem byteAt_lt (s : ByteArray) (i : Nat) : byteAt s i < 256 := by
  unfold byteAt
  split
  · rename_i c _; exact c.toNat_lt
  · omega

theorem idx_byte {s : ByteArray} {j : Nat} (h : j < s.size) : Option.map (fun c : UInt8 => AV.int .u8 c.toNat) s.data[j]? = some (.int .u8 (byteAt s j)) := by
  have h' : j < s.data.size := h
  unfold byteAt
  rw [Array.getElem?_eq_getElem h']
  rfl
theorem data_byte {s : ByteArray} {j : Nat} {h : j < s.data.size} : (s.data[j]'h).toNat = byteAt s j := by
  unfold byteAt
  rw [Array.getElem?_eq_getElem h]
theorem byteAt_out {s : ByteArray} {j : Nat} (h : ¬ j < s.size) : byteAt s j = 0 := by
  have h' : s.data.size ≤ j := Nat.le_of_not_lt h
  unfold byteAt
  rw [Array.getElem?_eq_none h']

/-- k bytes from a place on, as a number, the first the least. -/
def num (s : ByteArray) (at' : Nat) : Nat → Nat
  | 0 => 0
  | k + 1 => byteAt s at' + 256 * num s (at' + 1) k

def packed (s : ByteArray) : List Nat := (List.range ((s.size + 7) / 8)).map fun i => num s (8 * i) 8

theorem num_lt (s : ByteArray) : ∀ (k a : Nat), num s a k < 256 ^ k
  | 0, a => by simp [num]
  | k + 1, a => by
    have h1 := num_lt s k (a + 1)
    have h2 := byteAt_lt s a
    simp only [num, Nat.pow_succ]
    omega
theorem num8_lt (s : ByteArray) (a : Nat) : num s a 8 < 18446744073709551616 := num_lt s 8 a

theorem refPacked_ok (s : ByteArray) (hs : s.size ≤ 1000) : PCall Tryd.prog 64 [.str s] (encW (packed s)) := by
  refine PCall.run hb64 ok64 (by simp) (pures1 (.str _)) (pure_w64 _) ?_
  simp -implicitDefEqProofs
  refine run_loop (fun n s1 h => ∃ i t, n = (s.size + 7) / 8 - i ∧ i ≤ (s.size + 7) / 8 ∧ s1 0 = .str s ∧ s1 3 = .sl t (((List.range i).map fun i => num s (8 * i) 8).map w64) ∧ TLive h t i ∧ s1 4 = .int .i64 ((8 * i : Nat) : Int)) ?_ ((s.size + 7) / 8) ?_
  · rintro n s1 h ⟨i, t, hn, hi, h0, h3, hl, h4⟩ ih
    simp -implicitDefEqProofs [h0, h4]
    by_cases hlt : 8 * i < s.size
    · have hlt' : (8 : Int) * (i : Int) < (s.size : Int) := by omega
      simp -implicitDefEqProofs [hlt']
      refine run_loop (fun n s2 h2 => ∃ k : Nat, n = k ∧ k ≤ 8 ∧ h2 = h ∧ s2 0 = .str s ∧ s2 3 = s1 3 ∧ s2 4 = s1 4 ∧ s2 6 = .int .i64 ((k : Int) - 1) ∧ s2 5 = .int .u64 (num s (8 * i + k) (8 - k) : Int)) ?_ 8 ?_
      · rintro n s2 h2 ⟨k, rfl, hk, rfl, g0, g3, g4, g6, g5⟩ ih2
        rcases n with _ | m
        · simp -implicitDefEqProofs [g6, g3, h3, g5]
          refine appQ_w ((List.range i).map fun i => num s (8 * i) 8) [num s (8 * i) 8] (by simp) (by simp [w64]) (by simpa using hl) (by simp; omega) fun t' h' q1 q2 q3 q4 => ?_
          simp -implicitDefEqProofs [g4, h4, wrap_i64 (x := 8 * (i : Int) + 8) (by omega) (by omega)]
          refine ih ((s.size + 7) / 8 - (i + 1)) _ _ (by omega) ⟨i + 1, t', rfl, by omega, by simp [g0], by simp [List.range_succ], by simpa using q1, by simp; omega⟩
        · have hm : ((m + 1 : Nat) : Int) - 1 = (m : Int) := by omega
          rw [hm] at g6
          have g5' : s2 5 = .int .u64 (num s (8 * i + (m + 1)) (7 - m) : Int) := by rw [g5, show 8 - (m + 1) = 7 - m by omega]
          have hnum : num s (8 * i + m) (8 - m) = byteAt s (8 * i + m) + 256 * num s (8 * i + (m + 1)) (7 - m) := by
            rw [show 8 - m = (7 - m) + 1 by omega]; rfl
          have hb : num s (8 * i + m) (8 - m) < 18446744073709551616 := Nat.lt_of_lt_of_le (num_lt s (8 - m) (8 * i + m)) (Nat.pow_le_pow_right (n := 256) (by omega) (show 8 - m ≤ 8 by omega))
          have hm2 : IntKind.i64.wrap ((m : Int) - 1) = (m : Int) - 1 := wrap_i64 (by omega) (by omega)
          have hw1 : IntKind.u64.wrap ((num s (8 * i + (m + 1)) (7 - m) : Int) * 256) = (num s (8 * i + (m + 1)) (7 - m) : Int) * 256 := wrap_u64 (by omega) (by omega)
          have hw2 : IntKind.i64.wrap (8 * (i : Int) + (m : Int)) = ((8 * i + m : Nat) : Int) := by rw [wrap_i64 (by omega) (by omega)]; omega
          have h4' : s1 4 = .int .i64 (8 * (i : Int)) := by rw [h4]; simp
          have fin : ∀ s3 : Slots, s3 0 = .str s → s3 3 = s1 3 → s3 4 = s1 4 → s3 6 = .int .i64 ((m : Int) - 1) → s3 5 = .int .u64 (num s (8 * i + m) (8 - m) : Int) → Run Tryd.prog false [It.lp c64_l12, It.blk 2, It.c (IR.reg c64_r13), It.blk 1, It.c (IR.reg c64_r14), It.lp c64_l15, It.blk 0, It.c ((IR.reg c64_r16).seq IR.ret)]
              (retQ [ResA.t 2] fun r' x => wk r' = AV.sl Tok.no (List.map w64 (packed s))) s3 h2 :=
            fun s3 a0 a3 a4 a6 a5 => ih2 m s3 h2 (by omega) ⟨m, rfl, by omega, rfl, a0, a3, a4, a6, a5⟩
          by_cases hin : 8 * i + m < s.size
          · have hbt := byteAt_lt s (8 * i + m)
            have hw3 : IntKind.u64.wrap (byteAt s (8 * i + m) : Int) = (byteAt s (8 * i + m) : Int) := wrap_u64 (by omega) (by omega)
            have hw4 : IntKind.u64.wrap ((num s (8 * i + (m + 1)) (7 - m) : Int) * 256 + (byteAt s (8 * i + m) : Int)) = (num s (8 * i + (m + 1)) (7 - m) : Int) * 256 + (byteAt s (8 * i + m) : Int) := wrap_u64 (by omega) (by omega)
            have hi1 : idxOf (.int .i64 ((8 * i + m : Nat) : Int)) s.size = some (8 * i + m) := idxOf_nat hin
            simp -implicitDefEqProofs [g6, g5', hw1, g4, h4', g0, hw2, -Int.natCast_add, -idxOf, hin, hi1, data_byte, hw3, hw4, hm2]
            refine fin _ (by simp [g0]) (by simp [g3]) (by simp [g4]) (by simp) ?_
            simp [hnum]
            omega
          · have hz := byteAt_out hin
            simp -implicitDefEqProofs [g6, g5', hw1, g4, h4', g0, hw2, -Int.natCast_add, hin, hm2]
            refine fin _ (by simp [g0]) (by simp [g3]) (by simp [g4]) (by simp) ?_
            simp [hnum, hz]
            omega
      · exact ⟨8, rfl, by omega, rfl, by simp [h0], by simp, by simp, by simp, by simp [num]⟩
    · have hlt' : ¬ (8 : Int) * (i : Int) < (s.size : Int) := by omega
      simp -implicitDefEqProofs [hlt']
      have : i = (s.size + 7) / 8 := by omega
      simp -implicitDefEqProofs [h3, packed, this]
  · exact ⟨0, .full, by simp, by omega, by simp, by simp, trivial, by simp⟩
end Go.Proofs

/- The program's packing of texts. -/
namespace Go.Proofs
open Go Go.RowKit Go.Am

theorem num_snoc (s : ByteArray) : ∀ (k a : Nat), num s a (k + 1) = num s a k + 256 ^ k * byteAt s (a + k)
  | 0, a => by simp [num]
  | k + 1, a => by
    rw [show num s a (k + 1 + 1) = byteAt s a + 256 * num s (a + 1) (k + 1) from rfl, num_snoc s k (a + 1), show num s a (k + 1) = byteAt s a + 256 * num s (a + 1) k from rfl, Nat.pow_succ, show a + 1 + k = a + (k + 1) by omega]
    rw [Nat.mul_add, Nat.add_assoc]
    congr 2
    rw [Nat.mul_comm (256 ^ k) 256, Nat.mul_assoc]

theorem num_cut (s : ByteArray) : ∀ (k a : Nat), num s a k = num s a (min k (s.size - a))
  | 0, a => by simp
  | k + 1, a => by
    by_cases h : a < s.size
    · rw [show min (k + 1) (s.size - a) = min k (s.size - (a + 1)) + 1 by omega]
      simp only [num]
      rw [num_cut s k (a + 1)]
    · rw [show min (k + 1) (s.size - a) = 0 by omega]
      simp only [num]
      rw [byteAt_out h, num_cut s k (a + 1), show min k (s.size - (a + 1)) = 0 by omega]
      simp [num]

def cellsP (s : ByteArray) (n i : Nat) : List AV := (List.range n).map fun j => .int .u64 (num s (8 * j) (min 8 (i - 8 * j)))

theorem or_low (a b r : Nat) (h : a < 256 ^ r) : a ||| b * 2 ^ (8 * r) = a + 256 ^ r * b := by
  have e : 2 ^ (8 * r) = 256 ^ r := by rw [Nat.pow_mul]
  rw [Nat.mul_comm, Nat.or_comm, ← Nat.two_pow_add_eq_or_of_lt (by rw [e]; exact h), e]
  omega

theorem cellsP_set (s : ByteArray) (n i : Nat) (h : i < 8 * n) : (cellsP s n i).take (i / 8) ++ [AV.int .u64 ((num s (8 * (i / 8)) (i % 8) ||| byteAt s i * 2 ^ (8 * (i % 8)) : Nat) : Int)] ++ (cellsP s n i).drop (i / 8 + 1) = cellsP s n (i + 1) := by
  have e : (cellsP s n i).take (i / 8) ++ [AV.int .u64 ((num s (8 * (i / 8)) (i % 8) ||| byteAt s i * 2 ^ (8 * (i % 8)) : Nat) : Int)] ++ (cellsP s n i).drop (i / 8 + 1) = (cellsP s n i).set (i / 8) (AV.int .u64 ((num s (8 * (i / 8)) (i % 8) ||| byteAt s i * 2 ^ (8 * (i % 8)) : Nat) : Int)) := by
    rw [List.set_eq_take_append_cons_drop, if_pos (by simp [cellsP]; omega)]
    simp
  rw [e]
  apply List.ext_getElem
  · simp [cellsP]
  · intro j h1 h2
    rw [List.getElem_set]
    simp only [cellsP, List.getElem_map, List.getElem_range]
    split
    · rename_i hj
      subst hj
      rw [or_low _ _ _ (num_lt s _ _), show min 8 (i + 1 - 8 * (i / 8)) = i % 8 + 1 by omega, num_snoc, show 8 * (i / 8) + i % 8 = i by omega]
    · rename_i hj
      congr 2
      have : min 8 (i - 8 * j) = min 8 (i + 1 - 8 * j) := by omega
      rw [this]

theorem packed_cells (s : ByteArray) : chunks 1 ((s.size + 7) / 8) (cellsP s ((s.size + 7) / 8) s.size) = (packed s).map w64 := by
  have key : ∀ (l : List AV) (n : Nat), l.length = n → chunks 1 n l = l.map fun v => [v] := by
    intro l
    induction l with
    | nil => intro n h; subst h; rfl
    | cons v l ih => intro n h; subst h; simp [chunks, ih l.length rfl]
  rw [key _ _ (by simp [cellsP])]
  simp only [cellsP, packed, List.map_map]
  apply List.map_congr_left
  intro j _
  simp only [Function.comp, w64]
  rw [num_cut s 8 (8 * j)]
end Go.Proofs

/- The program's packing of texts: the run. -/
namespace Go.Proofs
open Go Go.RowKit Go.Am

theorem or_u64 {A B : Nat} (hA : A < 18446744073709551616) (hB : B < 18446744073709551616) : IntKind.u64.wrap ((((A : Int) % 2 ^ IntKind.u64.bits).toNat ||| ((B : Int) % 2 ^ IntKind.u64.bits).toNat : Nat) : Int) = ((A ||| B : Nat) : Int) := by
  have e3 : (2 : Int) ^ IntKind.u64.bits = 18446744073709551616 := rfl
  rw [e3, show ((A : Int) % 18446744073709551616).toNat = A by omega, show ((B : Int) % 18446744073709551616).toNat = B by omega]
  have := Nat.or_lt_two_pow (n := 64) hA hB
  exact wrap_u64 (by omega) (by omega)

end Go.Proofs

/- The writer of texts; copies; what a writer hands back. -/
namespace Go.Proofs
open Go Go.RowKit Go.Am

def cut64 (s : ByteArray) : ByteArray := s.extract 0 (min s.size 64)
theorem cut64_size (s : ByteArray) : (cut64 s).size = min s.size 64 := by simp [cut64]

theorem packed_len (s : ByteArray) : (packed s).length = (s.size + 7) / 8 := by simp [packed]

def textW (s : ByteArray) : List Nat := (cut64 s).size :: packed (cut64 s)

theorem clone_ok (us : List Nat) (hl : us.length ≤ 1000000) : PCall Tryd.prog 43 [encW us] (encW us) := by
  refine clone_gen (n := 1) (b := 8) (z := [.int .u64 0]) hb43 ok43 (us.map w64) (w64_len us) (pure_w64 us) (by simp) (by simp; omega)

theorem done_ok {h : H} {b : Nat} {t : Tok} {ws : List Nat} (hw : WB h b t ws) (hl : ws.length ≤ 1000000) : SCall Tryd.prog 22 [.ptr b 0] h (encW ws) h := by
  refine CallP.sure (CallP.run hb22 ok22 (by simp) ?_)
  simp -implicitDefEqProofs [hw.bx, hw.lt]
  refine callQ_p (clone_ok ws hl) (by simp) ?_
  try simp -implicitDefEqProofs
end Go.Proofs

/- Items: what is written of them, by the program and by the document. -/
namespace Go.Proofs
open Go Go.RowKit Go.Am

structure Item where
  kind : Int
  n : Int
  most : Int
  x : Int
  s : ByteArray
  l : List Nat

def inI (x : Int) : Prop := -9223372036854775808 ≤ x ∧ x ≤ 9223372036854775807
def Item.ok (x : Item) : Prop := inI x.n ∧ inI x.x ∧ x.s.size ≤ 1000 ∧ x.l.length ≤ 1000
def encItm (x : Item) : List AV := [.int .i64 x.kind, .int .i64 x.n, .int .i64 x.most, .int .i64 x.x, .str x.s, encW x.l]

def writeW (x : Item) : List Nat :=
  if x.kind = 0 then [x.n.toNat] else if x.kind = 1 then [signed x.x] else if x.kind = 2 then [if x.n = 1 then 1 else 0] else if x.kind = 3 then textW x.s else x.l.length :: x.l

theorem WB.alloc {h : H} {b : Nat} {t : Tok} {ws : List Nat} (hw : WB h b t ws) (cs : List AV) : WB (h.alloc cs) b t ws :=
  ⟨by have := hw.lt; simp; omega, by have := hw.lt; have h2 : b ≠ h.bn := by omega
                                     simp [h2, hw.bx], by simpa using hw.live⟩
theorem WTo.alloc {h : H} {b : Nat} {t : Tok} {ws : List Nat} {h' : H} {t' : Tok} {cs : List AV} (q : WTo (h.alloc cs) b t ws h' t') : WTo h b t ws h' t' :=
  ⟨q.wb, q.next, (HF.alloc h cs _ _).trans q.keep⟩

/-- A slice of words that grows. -/
structure STo (h : H) (t : Tok) (ws : List Nat) (r : AV) (h' : H) (t' : Tok) : Prop where
  val : r = .sl t' (ws.map w64)
  live : TLive h' t' ws.length
  next : TNext h t t'
  keep : HF h h' (fun _ => False) (TOwn t)

theorem refWrite_ok {h : H} {t : Tok} {ws : List Nat} (ht : TLive h t ws.length) (x : Item) (hx : x.ok) (hl : ws.length ≤ 900000) : CallP Tryd.prog 44 [.sl t (ws.map w64), .agg (encItm x)] h fun r h' => ∃ t', STo h t (ws ++ writeW x) r h' t' := by
  refine CallP.run hb44 ok44 (by simp) ?_
  obtain ⟨⟨n1, n2⟩, ⟨x1, x2⟩, s1, l1⟩ := hx
  have hta : ∀ cs, TLive (h.alloc cs) t ws.length := fun cs => by simpa using ht
  have fin : ∀ {cs : List AV} {us : List Nat} {t' : Tok} {h' : H}, TLive h' t' (ws ++ us).length → TNext (h.alloc cs) t t' → HF (h.alloc cs) h' (fun _ => False) (TOwn t) → STo h t (ws ++ us) (.sl t' ((ws ++ us).map w64)) h' t' := fun q1 q2 q3 => ⟨rfl, q1, q2, (HF.alloc h _ _ _).trans q3⟩
  simp -implicitDefEqProofs [encItm]
  by_cases k0 : x.kind = 0
  · simp -implicitDefEqProofs [k0]
    by_cases hn : x.n < 0
    · simp -implicitDefEqProofs [hn]
      refine appQ_w ws [0] rfl (by simp [w64]) (hta _) (by simp; omega) fun t' h' q1 q2 q3 q4 => ?_
      try simp -implicitDefEqProofs
      exact ⟨t', by simpa [writeW, k0, show x.n.toNat = 0 by omega] using fin q1 q2 q3⟩
    · have hw : IntKind.u64.wrap x.n = x.n := wrap_u64 (by omega) (by omega)
      simp -implicitDefEqProofs [hn, hw]
      refine appQ_w ws [x.n.toNat] rfl (by simp [w64]; omega) (hta _) (by simp; omega) fun t' h' q1 q2 q3 q4 => ?_
      try simp -implicitDefEqProofs
      exact ⟨t', by simpa [writeW, k0] using fin q1 q2 q3⟩
  by_cases k1 : x.kind = 1
  · simp -implicitDefEqProofs [k1]
    refine callQ_p (refSigned_ok x.x x1 x2) (by simp) ?_
    try simp -implicitDefEqProofs
    refine appQ_w ws [signed x.x] rfl (by simp [w64]) (hta _) (by simp; omega) fun t' h' q1 q2 q3 q4 => ?_
    try simp -implicitDefEqProofs
    exact ⟨t', by simpa [writeW, k1] using fin q1 q2 q3⟩
  by_cases k2 : x.kind = 2
  · simp -implicitDefEqProofs [k2]
    by_cases hn : x.n = 1
    · simp -implicitDefEqProofs [hn]
      refine appQ_w ws [1] rfl (by simp [w64]) (hta _) (by simp; omega) fun t' h' q1 q2 q3 q4 => ?_
      try simp -implicitDefEqProofs
      exact ⟨t', by simpa [writeW, k2, hn] using fin q1 q2 q3⟩
    · simp -implicitDefEqProofs [hn]
      refine appQ_w ws [0] rfl (by simp [w64]) (hta _) (by simp; omega) fun t' h' q1 q2 q3 q4 => ?_
      try simp -implicitDefEqProofs
      exact ⟨t', by simpa [writeW, k2, hn] using fin q1 q2 q3⟩
  by_cases k3 : x.kind = 3
  · have hfin3 : ∀ (h1 : H) (s2 : Slots), h1 = h1 → True := fun _ _ _ => trivial
    have hpl := packed_len (cut64 x.s)
    have hc := cut64_size x.s
    simp -implicitDefEqProofs [k3]
    by_cases hn : 64 < x.s.size
    · have e2 : bndOf (some (.int .i64 64)) x.s.size x.s.size = some 64 := by
        simp only [bndOf]
        rw [if_pos (by omega)]
        simp
      have e3 : bndOf none 64 0 = some 0 := rfl
      have e4 : x.s.extract 0 64 = cut64 x.s := by simp only [cut64]; rw [show min x.s.size 64 = 64 by omega]
      have e5 : (cut64 x.s).size = 64 := by omega
      have e6 : IntKind.u64.wrap 64 = 64 := wrap_u64 (by omega) (by omega)
      have hn' : (64 : Int) < (x.s.size : Int) := by omega
      simp -implicitDefEqProofs [hn', e2, e3, e4, e5, e6, -bndOf]
      refine appQ_w ws [64] rfl (by simp [w64]) (hta _) (by simp; omega) fun t' h' q1 q2 q3 q4 => ?_
      try simp -implicitDefEqProofs
      refine callQ_p (refPacked_ok (cut64 x.s) (by omega)) (by simp) ?_
      try simp -implicitDefEqProofs
      refine appQ_w (ws ++ [64]) (packed (cut64 x.s)) (by simp) rfl q1 (by simp; omega) fun t'' h'' r1 r2 r3 r4 => ?_
      try simp -implicitDefEqProofs
      refine ⟨t'', ?_⟩
      have hf := q3.trans' r3 (fun _ _ h => h) (TOwn.next (B := fun _ => False) (T := fun _ => False) (h1 := h') q2)
      have := fin (us := 64 :: packed (cut64 x.s)) (by simpa using r1) (q2.trans q3 r2) hf
      simpa [writeW, k3, textW, e5] using this
    · have e4 : x.s = cut64 x.s := by simp only [cut64]; rw [show min x.s.size 64 = x.s.size by omega, ByteArray.extract_zero_size]
      have e6 : IntKind.u64.wrap (x.s.size : Int) = (x.s.size : Int) := wrap_u64 (by omega) (by omega)
      have hn' : ¬ (64 : Int) < (x.s.size : Int) := by omega
      simp -implicitDefEqProofs [hn', e6]
      refine appQ_w ws [x.s.size] rfl (by simp [w64]) (hta _) (by simp; omega) fun t' h' q1 q2 q3 q4 => ?_
      try simp -implicitDefEqProofs
      refine callQ_p (refPacked_ok x.s (by omega)) (by simp) ?_
      try simp -implicitDefEqProofs
      have hpl' := packed_len x.s
      refine appQ_w (ws ++ [x.s.size]) (packed x.s) (by simp) rfl q1 (by simp; omega) fun t'' h'' r1 r2 r3 r4 => ?_
      try simp -implicitDefEqProofs
      refine ⟨t'', ?_⟩
      have hf := q3.trans' r3 (fun _ _ h => h) (TOwn.next (B := fun _ => False) (T := fun _ => False) (h1 := h') q2)
      have := fin (us := x.s.size :: packed x.s) (by simpa using r1) (q2.trans q3 r2) hf
      simpa [writeW, k3, textW, ← e4] using this
  · simp -implicitDefEqProofs [k0, k1, k2, k3]
    refine run_dreg c44_d18 ?_
    have e6 : IntKind.u64.wrap (x.l.length : Int) = (x.l.length : Int) := wrap_u64 (by omega) (by omega)
    simp -implicitDefEqProofs [e6]
    refine appQ_w ws [x.l.length] rfl (by simp [w64]) (hta _) (by simp; omega) fun t' h' q1 q2 q3 q4 => ?_
    have hbx := q3.bx h.bn (by simp) (fun h => h)
    have hbn : h'.bn = h.bn + 1 := by rw [q4]; rfl
    simp -implicitDefEqProofs at hbx
    simp -implicitDefEqProofs [hbx, hbn]
    refine appQ_w (ws ++ [x.l.length]) x.l (by simp) rfl q1 (by simp; omega) fun t'' h'' r1 r2 r3 r4 => ?_
    have hbx2 := r3.bx h.bn (by omega) (fun h => h)
    rw [hbx] at hbx2
    have hbn2 : h''.bn = h.bn + 1 := by rw [r4, hbn]
    simp -implicitDefEqProofs [hbx, hbn, hbx2, hbn2]
    refine ⟨t'', ?_⟩
    have hf := q3.trans' r3 (fun _ _ h => h) (TOwn.next (B := fun _ => False) (T := fun _ => False) (h1 := h') q2)
    have := fin (us := x.l.length :: x.l) (by simpa using r1) (q2.trans q3 r2) hf
    simpa [writeW, k0, k1, k2, k3] using this
end Go.Proofs

/- What the statements about codes ask first: no more items than are looked at; the document's examples. -/
namespace Go.Proofs
open Go Go.RowKit Go.Am

def encIs (l : List Item) : AV := .sl .no (l.map encItm)

def greatI (x : Item) : Bool := decide (100 < x.l.length) || decide (200 < x.s.size) || decide (x.kind < 0) || decide (4 < x.kind)
def great (l : List Item) : Bool := l.any greatI || decide (60 < l.length)

theorem pure_encI (x : Item) : ∀ v ∈ encItm x, PureV v := by
  simp only [encItm]
  exact pures_cons (.int _ _) (pures_cons (.int _ _) (pures_cons (.int _ _) (pures_cons (.int _ _) (pures_cons (.str _) (pures1 (pure_w64 _))))))
theorem pure_encIs (l : List Item) : PureV (encIs l) := .sl (fun i h => by cases h) fun e he v hv => by
  obtain ⟨x, _, rfl⟩ := List.mem_map.1 he
  exact pure_encI x v hv
@[simp] theorem wk_encI (x : Item) : List.map wk (encItm x) = encItm x := by simp [encItm]
@[simp] theorem wk_encI' : List.map wk ∘ encItm = encItm := by funext x; simp

theorem WB.new (h : H) : WB (h.alloc [.sl .full []]) h.bn .full [] := ⟨by simp, by simp, trivial⟩

end Go.Proofs

/- The statement CodesWrite: what its function hands back. -/
namespace Go.Proofs
open Go Go.RowKit Go.Am

theorem textW_len (s : ByteArray) : (textW s).length ≤ 10 := by
  have h1 := packed_len (cut64 s)
  have h2 := cut64_size s
  simp only [textW, List.length_cons]
  omega
theorem writeW_len (x : Item) (h : x.l.length ≤ 100) : (writeW x).length ≤ 102 := by
  have ht := textW_len x.s
  unfold writeW
  split
  · simp
  split
  · simp
  split
  · simp
  split
  · omega
  · simp; omega

theorem not_great {l : List Item} (h : great l = false) : l.length ≤ 60 ∧ ∀ x ∈ l, x.l.length ≤ 100 ∧ x.s.size ≤ 200 := by
  simp only [great, Bool.or_eq_false_iff, decide_eq_false_iff_not, List.any_eq_false] at h
  refine ⟨by omega, fun x hx => ?_⟩
  have := h.1 x hx
  simp only [greatI, Bool.or_eq_true, decide_eq_true_eq, not_or] at this
  omega

def writeAll (l : List Item) : List Nat := l.flatMap writeW
theorem writeAll_len : ∀ (l : List Item), (∀ x ∈ l, x.l.length ≤ 100) → (writeAll l).length ≤ 102 * l.length
  | [], _ => by simp [writeAll]
  | x :: l, h => by
    have h1 := writeW_len x (h x (List.mem_cons_self ..))
    have h2 := writeAll_len l fun y hy => h y (List.mem_cons_of_mem _ hy)
    simp only [writeAll, List.flatMap_cons, List.length_append, List.length_cons] at h2 ⊢
    omega

end Go.Proofs
