/- What the functions that the statement reaches do: their contracts; and what follows of it. -/
import Derived.Test.YtdcpendppalkgaaSLintSure1
import Derived.Shelf.SlSortCmp.WholeK
import Derived.Test.YtdcpendppalkgaaProg
import Derived.Shelf.SlicesG.Cmp
/- Several lists of spans, one behind the other. -/
namespace Go.Proofs
open Go Go.RowKit Go.Am

def encL (l : List Sp) : AV := .sl .no (l.map avP)
def tot (ls : List (List Sp)) : Nat := ls.flatten.length
theorem tot_succ {ls : List (List Sp)} {j : Nat} (hj : j < ls.length) : tot (ls.take (j + 1)) = tot (ls.take j) + ls[j].length ∧ (ls.take (j + 1)).flatten = (ls.take j).flatten ++ ls[j] := by
  have e : (ls.take (j + 1)).flatten = (ls.take j).flatten ++ ls[j] := by
    rw [List.take_succ_eq_append_getElem hj, List.flatten_append]; simp
  exact ⟨by rw [tot, e, List.length_append]; rfl, e⟩
theorem tot_le (ls : List (List Sp)) (j : Nat) : tot (ls.take j) ≤ tot ls := by
  have e : ls.flatten = (ls.take j).flatten ++ (ls.drop j).flatten := by rw [← List.flatten_append, List.take_append_drop]
  rw [tot, tot, e, List.length_append]; omega
theorem src_P (h : H) (l : List Sp) (t : Tok) : srcA h 2 (.sl t (l.map avP)) = some (l.map avP) := by
  simp only [srcA]
  rw [if_pos avP_len]

set_option maxHeartbeats 1000000 in
theorem concat_ok (ls : List (List Sp)) {h : H} (hn : tot ls ≤ 1000000) (hl : ls.length ≤ 1000000) : CallP Try.prog 146 [.sl .no (ls.map fun l => [encL l])] h fun r h' => (ls.flatten = [] ∧ r = .sl .full []) ∨ (∃ b, r = .msl b 2 0 ls.flatten.length ∧ b < h'.bn ∧ h'.bx b = some (flatP ls.flatten)) := by
  refine CallP.run hb146 ok146 (by simp) ?_
  simp -implicitDefEqProofs []
  refine run_loop (fun n s h1 => ∃ j : Nat, n = ls.length - j ∧ j ≤ ls.length ∧ s 0 = .sl .no (ls.map fun l => [encL l]) ∧ s 3 = .int .i64 (tot (ls.take j)) ∧ s 9 = .sl .no (ls.map fun l => [encL l]) ∧ s 10 = .int .i64 ls.length ∧ s 11 = .int .i64 j) ?_ ls.length ?_
  rotate_left
  · exact ⟨0, by simp [tot]⟩
  rintro n s h1 ⟨j, hn, hj, s0, s3, s9, s10, s11⟩ ih
  by_cases hlt : j < ls.length
  · have hle := tot_le ls (j + 1)
    obtain ⟨ht, _⟩ := tot_succ hlt
    have hw : IntKind.i64.wrap ((tot (ls.take j) : Int) + (ls[j].length : Nat)) = (tot (ls.take (j + 1)) : Nat) := by
      rw [wrap_i64 (by omega) (by omega), ht, Int.natCast_add]
    have hneg : ¬ ((tot (ls.take (j + 1)) : Nat) : Int) < 0 := by omega
    have i1 := idxOf_nat (k := .i64) hlt
    simp -implicitDefEqProofs [s9, s10, s11, s3, hlt, encL, hw, hneg, inc_i64 hlt (by omega), -Int.natCast_add]
    exact ih (ls.length - (j + 1)) _ _ (by omega) ⟨j + 1, rfl, by omega, by simp [s0, encL], by simp, by simp [s9, encL], by simp [s10], by simp⟩
  · obtain rfl : j = ls.length := by omega
    rw [List.take_length] at s3
    by_cases h0 : tot ls = 0
    · have hf : ls.flatten = [] := List.length_eq_zero_iff.1 h0
      rw [h0] at s3
      simp -implicitDefEqProofs [s3, s10, s11]
      refine callQ_ex (stay_call Try.hbGrow Try.staysSpan) ?_
      rintro r h2 ⟨rfl, rfl⟩
      simp -implicitDefEqProofs [s0]
      refine run_loop (fun n s h1 => ∃ j : Nat, n = ls.length - j ∧ j ≤ ls.length ∧ s 6 = .sl .full [] ∧ s 25 = .sl .no (ls.map fun l => [encL l]) ∧ s 26 = .int .i64 ls.length ∧ s 27 = .int .i64 j) ?_ ls.length ?_
      rotate_left
      · exact ⟨0, by simp⟩
      rintro n s h1 ⟨j, hn, hj, s6, s25, s26, s27⟩ ih
      by_cases hlt : j < ls.length
      · have i1 := idxOf_nat (k := .i64) hlt
        have hle := tot_le ls (j + 1)
        obtain ⟨ht, _⟩ := tot_succ hlt
        have hz : ls[j] = [] := List.length_eq_zero_iff.1 (by omega)
        simp -implicitDefEqProofs [s6, s25, s26, s27, hlt, encL, hz]
        refine ⟨_, _, .same _ _ _ (by simp [srcA]), ?_⟩
        simp -implicitDefEqProofs [s27, inc_i64 hlt (by omega), -Int.natCast_add]
        exact ih (ls.length - (j + 1)) _ _ (by omega) ⟨j + 1, rfl, by omega, by simp, by simp [s25, encL], by simp [s26], by simp⟩
      · simp -implicitDefEqProofs [s6, s26, s27, hlt]
        exact fun l hl => List.flatten_eq_nil_iff.1 hf l hl
    · simp -implicitDefEqProofs [s3, s10, s11]
      refine callQ_ex (grow_call Try.hbGrow Try.growsSpan (n := tot ls) (by omega) (by omega)) ?_
      rintro r h2 ⟨rfl, rfl⟩
      simp -implicitDefEqProofs [s0]
      refine run_loop (fun n s h1 => ∃ (j b : Nat), n = ls.length - j ∧ j ≤ ls.length ∧ s 6 = .msl b 2 0 (tot (ls.take j)) ∧ b < h1.bn ∧ h1.bx b = some (flatP (ls.take j).flatten) ∧ s 25 = .sl .no (ls.map fun l => [encL l]) ∧ s 26 = .int .i64 ls.length ∧ s 27 = .int .i64 j) ?_ ls.length ?_
      rotate_left
      · exact ⟨0, h1.bn, by simp [tot, flatP]⟩
      rintro n s h1 ⟨j, b, hn, hj, s6, hb, hc, s25, s26, s27⟩ ih
      by_cases hlt : j < ls.length
      · have i1 := idxOf_nat (k := .i64) hlt
        have hle := tot_le ls (j + 1)
        obtain ⟨ht, hf⟩ := tot_succ hlt
        simp -implicitDefEqProofs [s6, s25, s26, s27, hlt, encL]
        by_cases hz : ls[j] = []
        · rw [hz] at ht hf
          rw [hz]
          refine ⟨_, _, .sameB _ _ _ _ (by simp [srcA]), ?_⟩
          simp -implicitDefEqProofs [s27, inc_i64 hlt (by omega), -Int.natCast_add]
          exact ih (ls.length - (j + 1)) _ _ (by omega) ⟨j + 1, b, rfl, by omega, by simp [ht], hb, by simp [hc, hf], by simp [s25, encL], by simp [s26], by simp⟩
        · have hp : 0 < ls[j].length := List.length_pos_iff.2 hz
          refine ⟨_, _, .box b (tot (ls.take j)) _ (ls[j].map avP) _ hb hc (by rw [flatP_len, tot]; omega) (src_P _ _ _) (by simpa using hp) (by simp only [List.length_map]; omega), ?_⟩
          simp -implicitDefEqProofs [s27, inc_i64 hlt (by omega), -Int.natCast_add]
          refine ih (ls.length - (j + 1)) _ _ (by omega) ⟨j + 1, h1.bn, rfl, by omega, by simp [ht], by simp [H.kill], ?_, by simp [s25, encL], by simp [s26], by simp⟩
          have e : List.take (tot (ls.take j) * 2) (flatP (ls.take j).flatten) = flatP (ls.take j).flatten := List.take_of_length_le (by rw [flatP_len, tot]; omega)
          simp only [H.alloc, H.kill, if_true, e, hf, flatP_app]
          rfl
      · obtain rfl : j = ls.length := by omega
        rw [List.take_length] at s6 hc
        simp -implicitDefEqProofs [s6, s26, s27]
        exact ⟨b, ⟨rfl, by simp [tot]⟩, hb, hc⟩
end Go.Proofs

/- Sets of keys: what the statements say of them, plainly; no program in sight. -/
namespace Go.Proofs
open Go Go.RowKit Go.Am

/-- How long a plain list may be. -/
theorem plain_len : ∀ {l : List Sp}, isPlain l → ∀ n : Int, (∀ s ∈ l, n ≤ s.1) → n ≤ 1000 → 2 * (l.length : Int) ≤ 1001 - n
  | [], _, n, _, hn => by simp; omega
  | s :: l, h, n, h1, hn => by
    obtain ⟨p1, p2, p3⟩ := isPlain_cons.1 h
    have ms := mayS_iff.1 p1
    have := h1 s (by simp)
    by_cases hl : l = []
    · subst hl; simp; omega
    · obtain ⟨t, ht⟩ := List.exists_mem_of_ne_nil _ hl
      have mt := mayS_iff.1 (p3.1 t ht)
      have := p2 t ht
      have ih := plain_len p3 (s.2 + 2) (fun t ht => by have := p2 t ht; omega) (by omega)
      simp only [List.length_cons]
      omega
theorem plainL_len (l : List Sp) : (plainL l).length ≤ 500 := by
  have := plain_len (plainL_isPlain l) 0 (fun s hs => (mayS_iff.1 ((plainL_isPlain l).1 s hs)).1) (by omega)
  omega
end Go.Proofs

/- What two plain lists have in common, one by one: a function over which one ranges. -/
namespace Go.Proofs
open Go Go.RowKit Go.Am

theorem int_max (a b : Int) : (if a < b then b else a) = max a b := by omega
theorem _root_.Go.Am.HF.al {h h1 : H} {B T : Nat → Prop} (e : HF h h1 B T) (cs : List AV) : HF h (h1.alloc cs) B T := e.trans (HF.alloc _ _ _ _)
theorem _root_.Go.Am.HF.st {h h1 : H} {B T : Nat → Prop} (e : HF h h1 B T) {b : Nat} (hb : h.bn ≤ b) (cs : List AV) : HF h (h1.set b cs) B T :=
  e.trans' (HF.set (B := (· = b)) (fun _ => False) rfl) (fun b' h1 (e : b' = b) => absurd e (by omega)) (fun _ _ h => h.elim)
end Go.Proofs

/- A sort of a box's spans: what the library's own contract says. -/
namespace Go.Am
open Go Go.RowKit Go.Sort Go.Lib Go.Shelf

section
variable {P : Program} {base : Nat} {W : Nat → Prop} {w : World} {g : G} {h : H}

theorem Sim.ahead (hs : Sim P base W w g h) (n : Nat) : Sim P base W (Sort.ahead w n) g h ∧ Ext base W w g (Sort.ahead w n) g := by
  induction n with
  | zero => exact ⟨hs, Ext.refl base W w g⟩
  | succ n ih =>
    obtain ⟨a, b⟩ := ih.1.drew
    rw [ahead_drew] at a b
    exact ⟨a, ih.2.trans b⟩

theorem grow_at (w : World) (os : Array Obj) {B : Nat} (hB : B < w.heap.size) : (Sort.grow w os).heap[B]? = w.heap[B]? := by
  show (w.heap ++ os)[B]? = _
  rw [Array.getElem?_append_left hB]

theorem Sim.grow (hs : Sim P base W w g h) (os : Array Obj) : Sim P base W (Sort.grow w os) g h ∧ Ext base W w g (Sort.grow w os) g := by
  have hsz : w.heap.size ≤ (Sort.grow w os).heap.size := by
    show _ ≤ (w.heap ++ os).size
    simp
  have e : GExt w g (Sort.grow w os) g := GExt.of_blk hsz (fun _ hB => grow_at w os hB) hs.roB (fun _ _ => rfl) (Nat.le_refl _) (fun _ _ => ⟨rfl, rfl⟩) (Nat.le_refl _) (fun _ _ => rfl) (Nat.le_refl _) (fun _ _ => rfl) (Nat.le_refl _) (fun _ _ => rfl)
  exact ⟨hs.step e hsz (fun _ hB => grow_at w os hB) rfl rfl rfl rfl rfl (fun _ _ => rfl) (fun B hB => hs.roB B (Nat.le_trans hsz hB)), Ext.step hs e rfl rfl rfl (fun _ hB => grow_at w os hB) (fun _ _ => rfl)⟩

theorem flatK_get (d : Array (Int × Int)) {i k : Nat} (hi : i < d.size) (hk : k < 2) : (flatK encP 2 d)[i * 2 + k]! = (encP d[i]!)[k]! := by
  have h1 : (i * 2 + k) / 2 = i := by omega
  have h2 : (i * 2 + k) % 2 = k := by omega
  rw [get_flatK encP 2 d _ (by omega), h1, h2]

/-- The cells of spans, seen from the machine. -/
theorem cell_pair {l : List (Int × Int)} {rest : List AV} {C : Array Value} (hr : RepP w g (flatP l ++ rest) C) {i k : Nat} (hi : i < l.length) (hk : k < 2) : C[i * 2 + k]? = some (encP l[i])[k]! := by
  have hlt : i * 2 + k < (flatP l).length := by rw [flatP_len]; omega
  have hg : (flatP l ++ rest)[i * 2 + k]? = (avP l[i])[k]? := by
    rw [List.getElem?_append_left hlt, flatP_get l i k hk, List.getElem?_eq_getElem hi]
    rfl
  have h2 : k = 0 ∨ k = 1 := by omega
  rcases h2 with rfl | rfl
  · obtain ⟨V, q1, q2, _⟩ := hr.2 _ _ (hg.trans rfl)
    rw [q1, q2.int_inv]
    rfl
  · obtain ⟨V, q1, q2, _⟩ := hr.2 _ _ (hg.trans rfl)
    rw [q1, q2.int_inv]
    rfl

/-- The library's sort of spans, by a function on them. -/
def SortsAt (P : Program) (f g0 : FuncId) : Prop := ∀ (blk cap : Nat) (d : Array (Int × Int)) (w : World), HoldsK encP 2 w blk 0 d → blk < w.heap.size → d.size < 4611686018427387904 →
    Calls P f #[.slice (some ⟨blk, 0, none⟩) d.size cap, .func (.func g0) #[] #[]] w fun e w' => e = .returned (.tuple #[]) ∧ ∃ d' n os, PermIn 0 d.size d d' ∧ SortedIn (fun x y : Int × Int => decide (x.1 < y.1)) 0 d.size d' ∧ w' = Go.Proofs.sortWorldK encP 2 w blk 0 n d' os

theorem sort_call {f g0 : FuncId} (hbody : HasBody P f) (hsort : SortsAt P f g0) {b : Nat} {l : List (Int × Int)} {rest : List AV} (hb : b < h.bn) (hc : h.bx b = some (flatP l ++ rest)) (hl : l.length < 4611686018427387904) :
    CallP P f [.msl b 2 0 l.length, .fn g0 [] []] h fun r h' => r = .tup [] ∧ ∃ l' : List (Int × Int), l'.Perm l ∧ (l'.Pairwise fun x y => x.1 ≤ y.1) ∧ h' = h.set b (flatP l' ++ rest) := by
  refine ⟨hbody, fun base W w g Args hs hA => ?_⟩
  obtain ⟨hAs, hAr⟩ := hA
  have h0 := hAr 0 (by simp)
  have h1 := hAr 1 (by simp)
  simp only [List.length_cons, List.length_nil] at hAs
  have hArgs : Args = #[Args[0], Args[1]] := by
    apply Array.ext
    · simp; omega
    · intro i hi1 hi2
      have : i = 0 ∨ i = 1 := by simp at hi2; omega
      rcases this with rfl | rfl <;> simp
  generalize hA0 : Args[0] = A0 at h0 hArgs
  generalize hA1 : Args[1] = A1 at h1 hArgs
  subst hArgs
  clear hA0 hA1 hAs hAr
  simp only [List.getElem_cons_zero] at h0
  simp only [List.getElem_cons_succ, List.getElem_cons_zero] at h1
  obtain ⟨cap, rfl, hgb, hcap, hbs⟩ := h0.msl_inv
  have hA1 : A1 = .func (.func g0) #[] #[] := by
    cases h1 with
    | fn _ _ _ F C hF hC _ _ =>
      have e1 : F = #[] := Array.eq_empty_of_size_eq_zero hF.symm
      have e2 : C = #[] := Array.eq_empty_of_size_eq_zero hC.symm
      rw [e1, e2]
  subst hA1
  obtain ⟨_, hro, C, T, hC, hrep, hCs⟩ := hs.box b _ hb hc
  have hdl : l.toArray.size = l.length := by simp
  have hcl : ∀ k, w.cell? ⟨g.bx b, k, none⟩ = C[k]? := fun k => by rw [cell_at hC]
  have hH : HoldsK encP 2 w (g.bx b) 0 l.toArray := by
    intro j hj
    rw [size_flatK, hdl] at hj
    have hi : j / 2 < l.length := by omega
    have hj2 : j / 2 * 2 + j % 2 = j := by omega
    have hk2 : j % 2 < 2 := by omega
    have := cell_pair hrep hi hk2
    rw [hj2] at this
    refine ⟨?_, ?_⟩
    · have hf := flatK_get l.toArray (i := j / 2) (k := j % 2) (by rw [hdl]; exact hi) hk2
      rw [hj2] at hf
      rw [Nat.zero_add, hcl, this, id, hf]
      congr 2
      simp [hi]
    · simp only [World.frozen?, hC]
      simp
  have hblk : g.bx b < w.heap.size := heap_lt hC
  refine (hsort (g.bx b) cap l.toArray w hH hblk (by rw [hdl]; exact hl)).mono ?_
  rintro e w' ⟨rfl, d', n, os, hp, hso, rfl⟩
  have hd' : d'.size = l.length := hp.1.trans hdl
  have hF : (flatK encP 2 d').size = l.length * 2 := by rw [size_flatK, hd']
  have hperm : d'.toList.Perm l := by
    have := hp.2.2
    rw [hdl] at this
    have e1 : l.take d'.size = l := List.take_of_length_le (by omega)
    simpa [← hd', Array.extract_size, e1] using this
  have hpl : d'.toList.length = l.length := by simp [hd']
  obtain ⟨hs1, he1⟩ := hs.ahead n
  have hC1 : (Sort.ahead w n).heap[g.bx b]? = some (.cells C T (0, 0)) := hC
  have hw1 : (putRowK encP 2 (Sort.ahead w n) (g.bx b) 0 d').heap[g.bx b]? = some (.cells (putCells id 0 (flatK encP 2 d') C) T (0, 0)) := by
    show (Array.modify _ _ _)[_]? = _
    rw [Array.getElem?_modify, if_pos rfl, hC1]
    rfl
  have hrep1 : RepP (Sort.ahead w n) g (flatP d'.toList ++ rest) (putCells id 0 (flatK encP 2 d') C) := by
    have hr1 := hrep.mono he1.toGExt
    have hgetC : ∀ k, (putCells id 0 (flatK encP 2 d') C)[k]? = (C[k]?).map fun x => if k < l.length * 2 then (flatK encP 2 d')[k]! else x := fun k => by
      rw [putCells, Array.getElem?_mapIdx]
      cases C[k]? with
      | none => rfl
      | some x => simp [hF]
    have hlc := hrep.1
    rw [List.length_append, flatP_len] at hlc
    refine ⟨by rw [List.length_append, flatP_len, hpl]; simp [putCells]; omega, fun k v hk => ?_⟩
    rw [hgetC]
    by_cases hlt : k < l.length * 2
    · have hi : k / 2 < l.length := by omega
      have hk2 : k % 2 < 2 := by omega
      have hj2 : k / 2 * 2 + k % 2 = k := by omega
      rw [List.getElem?_append_left (by rw [flatP_len, hpl]; exact hlt), ← hj2, flatP_get _ _ _ hk2, List.getElem?_eq_getElem (by rw [hpl]; exact hi), Option.bind_some] at hk
      have hf := flatK_get d' (i := k / 2) (k := k % 2) (by rw [hd']; exact hi) hk2
      rw [hj2] at hf
      have hCk : C[k]? = some C[k] := Array.getElem?_eq_getElem (by omega)
      rw [hCk, Option.map_some, if_pos hlt, hf]
      have hde : d'[k / 2]! = d'.toList[k / 2]'(by rw [hpl]; exact hi) := by
        rw [getElem!_pos d' (k / 2) (by rw [hd']; exact hi), Array.getElem_toList]
      rw [hde]
      have h2 : k % 2 = 0 ∨ k % 2 = 1 := by omega
      rcases h2 with e | e <;> rw [e] at hk ⊢ <;> cases hk <;> exact ⟨_, rfl, .int _ _, rfl⟩
    · rw [List.getElem?_append_right (by rw [flatP_len, hpl]; omega), flatP_len, hpl] at hk
      have hk' : (flatP l ++ rest)[k]? = some v := by
        rw [List.getElem?_append_right (by rw [flatP_len]; omega), flatP_len]; exact hk
      obtain ⟨V, q1, q2, q3⟩ := hr1.2 k v hk'
      exact ⟨V, by rw [q1, Option.map_some, if_neg hlt], q2, q3⟩
  obtain ⟨hs2, he2⟩ := hs1.setBox hb hc hrep1 hw1 (by simp [putCells]; exact hCs) (by
    show (Array.modify _ _ _).size = _
    simp) (fun B hB => by
    show (Array.modify _ _ _)[_]? = _
    rw [Array.getElem?_modify, if_neg (fun e => hB e.symm)]) rfl rfl rfl
  obtain ⟨hs3, he3⟩ := hs2.grow os
  refine ⟨.tuple #[], g, .tup [], _, rfl, .tup [] #[] rfl (fun k hk => by simp at hk), hs3, (he1.trans he2).trans he3, rfl, d'.toList, hperm, ?_, rfl⟩
  rw [List.pairwise_iff_getElem]
  intro i j hi hj hij
  have := hso i j (Nat.zero_le _) hij (by rw [hdl, ← hpl]; exact hj)
  rw [getElem!_pos d' i (by simpa using hi), getElem!_pos d' j (by simpa using hj), decide_eq_false_iff_not] at this
  simp only [Array.getElem_toList]
  omega

end
end Go.Am

/- The library's own contracts for a sort of spans, laid at the program; the program's function that compares. PRINTED in its first part by laygen.py, a program of this work. -/
namespace Go.Proofs
open Go Go.RowKit Go.Am Go.Sort Go.Lib Go.Shelf

def sortSpan_ren : Go.Shelf.Ren := ⟨fun | 6 => 149 | 15 => 156 | 14 => 155 | 28 => 166 | 29 => 167 | 20 => 158 | 21 => 159 | 22 => 160 | 23 => 161 | 24 => 162 | 25 => 163 | 26 => 164 | 27 => 165 | 46 => 168 | 47 => 169 | 48 => 170 | 49 => 171 | 50 => 172 | 57 => 173 | n => n, fun | 22 => 47 | 24 => 95 | 25 => 205 | 3 => 3 | 39 => 199 | 0 => 0 | 53 => 220 | 55 => 120 | 4 => 4 | 46 => 213 | 45 => 212 | 50 => 217 | 5 => 5 | 9 => 9 | 66 => 222 | 70 => 226 | 76 => 228 | 77 => 229 | n => n, fun n => n⟩
set_option maxRecDepth 100000 in
set_option maxHeartbeats 4000000 in
theorem sortSpan : SlLaysF0.n6 Try.prog sortSpan_ren where
  mixed := by kernel_rfl
  f6 := ⟨"slices.SortFunc[[]gimmal/api.Span,gimmal/api.Span]", by decide, Try.func149.trans (congrArg some (by kernel_rfl))⟩
  f14 := ⟨"slices.pdqsortCmpFunc[gimmal/api.Span]", by decide, Try.func155.trans (congrArg some (by kernel_rfl))⟩
  f15 := Try.func156.trans (congrArg some (by kernel_rfl))
  f20 := ⟨"slices.insertionSortCmpFunc[gimmal/api.Span]", by decide, Try.func158.trans (congrArg some (by kernel_rfl))⟩
  f21 := ⟨"slices.heapSortCmpFunc[gimmal/api.Span]", by decide, Try.func159.trans (congrArg some (by kernel_rfl))⟩
  f22 := ⟨"slices.breakPatternsCmpFunc[gimmal/api.Span]", by decide, Try.func160.trans (congrArg some (by kernel_rfl))⟩
  f23 := ⟨"slices.choosePivotCmpFunc[gimmal/api.Span]", by decide, Try.func161.trans (congrArg some (by kernel_rfl))⟩
  f24 := ⟨"slices.reverseRangeCmpFunc[gimmal/api.Span]", by decide, Try.func162.trans (congrArg some (by kernel_rfl))⟩
  f25 := ⟨"slices.partialInsertionSortCmpFunc[gimmal/api.Span]", by decide, Try.func163.trans (congrArg some (by kernel_rfl))⟩
  f26 := ⟨"slices.partitionEqualCmpFunc[gimmal/api.Span]", by decide, Try.func164.trans (congrArg some (by kernel_rfl))⟩
  f27 := ⟨"slices.partitionCmpFunc[gimmal/api.Span]", by decide, Try.func165.trans (congrArg some (by kernel_rfl))⟩
  f28 := Try.func166.trans (congrArg some (by kernel_rfl))
  f29 := Try.func167.trans (congrArg some (by kernel_rfl))
  f46 := ⟨"slices.siftDownCmpFunc[gimmal/api.Span]", by decide, Try.func168.trans (congrArg some (by kernel_rfl))⟩
  f47 := Try.func169.trans (congrArg some (by kernel_rfl))
  f48 := Try.func170.trans (congrArg some (by kernel_rfl))
  f49 := ⟨"slices.medianAdjacentCmpFunc[gimmal/api.Span]", by decide, Try.func171.trans (congrArg some (by kernel_rfl))⟩
  f50 := ⟨"slices.medianCmpFunc[gimmal/api.Span]", by decide, Try.func172.trans (congrArg some (by kernel_rfl))⟩
  f57 := ⟨"slices.order2CmpFunc[gimmal/api.Span]", by decide, Try.func173.trans (congrArg some (by kernel_rfl))⟩
  t0 := Try.underlying0
  a0 := Try.isAgg0
  z0 := Try.sizeOf0
  v0 := Try.zeroValue0
  t3 := Try.underlying3
  a3 := Try.isAgg3
  z3 := Try.sizeOf3
  v3 := Try.zeroValue3
  t4 := Try.underlying4
  a4 := Try.isAgg4
  z4 := Try.sizeOf4
  v4 := Try.zeroValue4
  t5 := Try.underlying5
  a5 := Try.isAgg5
  z5 := Try.sizeOf5
  v5 := Try.zeroValue5
  t9 := Try.underlying9
  a9 := Try.isAgg9
  z9 := Try.sizeOf9
  v9 := Try.zeroValue9
  t22 := Try.underlying47
  a22 := Try.isAgg47
  z22 := Try.sizeOf47
  v22 := Try.zeroValue47
  t25 := Try.underlying205
  a25 := Try.isAgg205
  z25 := Try.sizeOf205
  v25 := Try.zeroValue205
  t39 := Try.underlying199
  a39 := Try.isAgg199
  z39 := Try.sizeOf199
  v39 := Try.zeroValue199
  t45 := Try.underlying212
  a45 := Try.isAgg212
  z45 := Try.sizeOf212
  v45 := Try.zeroValue212
  t46 := Try.underlying213
  a46 := Try.isAgg213
  z46 := Try.sizeOf213
  v46 := Try.zeroValue213
  t50 := Try.underlying217
  a50 := Try.isAgg217
  z50 := Try.sizeOf217
  v50 := Try.zeroValue217
  t53 := Try.underlying220
  a53 := Try.isAgg220
  z53 := Try.sizeOf220
  v53 := Try.zeroValue220
  t55 := Try.underlying120
  a55 := Try.isAgg120
  z55 := Try.sizeOf120
  v55 := Try.zeroValue120
  t66 := Try.underlying222
  a66 := Try.isAgg222
  z66 := Try.sizeOf222
  v66 := Try.zeroValue222
  t70 := Try.underlying226
  a70 := Try.isAgg226
  z70 := Try.sizeOf226
  v70 := Try.zeroValue226
  t76 := Try.underlying228
  a76 := Try.isAgg228
  z76 := Try.sizeOf228
  v76 := Try.zeroValue228
  t77 := Try.underlying229
  a77 := Try.isAgg229
  z77 := Try.sizeOf229
  v77 := Try.zeroValue229

def cmpInt_ren : Go.Shelf.Ren := ⟨fun | 5 => 151 | 7 => 157 | n => n, fun | 22 => 3 | 3 => 3 | 4 => 4 | n => n, fun n => n⟩
set_option maxRecDepth 100000 in
set_option maxHeartbeats 4000000 in
theorem cmpInt : SlLaysC2.n5 Try.prog cmpInt_ren where
  mixed := by kernel_rfl
  f5 := ⟨"cmp.Compare[int]", by decide, Try.func151.trans (congrArg some (by kernel_rfl))⟩
  f7 := ⟨"cmp.isNaN[int]", by decide, Try.func157.trans (congrArg some (by kernel_rfl))⟩
  t3 := Try.underlying3
  a3 := Try.isAgg3
  z3 := Try.sizeOf3
  v3 := Try.zeroValue3
  t4 := Try.underlying4
  a4 := Try.isAgg4
  z4 := Try.sizeOf4
  v4 := Try.zeroValue4
  t22 := Try.underlying3
  a22 := Try.isAgg3
  z22 := Try.sizeOf3
  v22 := Try.zeroValue3

theorem Try.spanLt (x y : Int × Int) : ltOf (fun x y : Int × Int => Lib.compareInt x.1 y.1) x y = decide (x.1 < y.1) := by
  unfold ltOf Lib.compareInt
  by_cases h1 : x.1 < y.1
  · simp [h1]
  · by_cases h2 : y.1 < x.1 <;> simp [h1, h2]

/-- 'cmp.Compare(a.Lo, b.Lo) < 0' is a strict weak order. -/
theorem Try.spanSwo : SWO (ltOf fun x y : Int × Int => Lib.compareInt x.1 y.1) where
  irrefl x := by rw [Try.spanLt]; simp
  trans x y z h1 h2 := by rw [Try.spanLt] at *; simp at *; omega
  ntrans x y z h1 h2 := by rw [Try.spanLt] at *; simp at *; omega

set_option maxHeartbeats 1000000 in
/-- The program's function that compares two spans, in whatever world. -/
theorem Try.spanCmp (x y : Int × Int) (W : World) : Calls Try.prog 150 #[.agg #[.int .i64 x.1, .int .i64 x.2], .agg #[.int .i64 y.1, .int .i64 y.2]] W fun e w' => e = .returned (.int .i64 (Lib.compareInt x.1 y.1)) ∧ ∃ q os', w' = Sort.grow (W.drewN q) os' := by
  have hcon := fun W' => AnyG.cmp_Compare_int cmpInt x.1 y.1 W'
  change ∀ W', Calls Try.prog 151 _ _ _ at hcon
  generalize Lib.compareInt x.1 y.1 = r at hcon ⊢
  go_enter Try.func150, Try.ntmps150
  go_wp2_with (go_at_call 151; refine (hcon _).mono ?_; rintro e w' ⟨rfl, rfl⟩)
  go_ret
  exact ⟨rfl, 0, _, by rw [alloc_eq_grow, alloc_eq_grow, grow_grow]; rfl⟩

theorem Try.sortsSpan : SortsAt Try.prog 149 150 := fun blk cap d w hH hblk hsz => by
  have eg : ∀ args w, (callFunc 150 args).run Try.prog w = .ok (.enter 150 args) w := enters_of Try.func150 (by kernel_rfl) rfl
  refine (AnyQ.slices_SortFunc sortSpan 2 Try.isAgg95 Try.sizeOf95 encP (fun _ => rfl) (fun x v hv => by simp [encP] at hv; rcases hv with rfl | rfl <;> rfl) (fun x y => Lib.compareInt x.1 y.1) Try.spanSwo 150 #[] blk 0 cap d w eg (fun _ _ _ _ x y => Try.spanCmp x y _) hH hblk hsz).mono ?_
  rintro e w' ⟨rfl, d', n, os, hp, hs, rfl⟩
  refine ⟨rfl, d', n, os, hp, fun i j h1 h2 h3 => ?_, rfl⟩
  have := hs i j h1 h2 h3
  rw [Try.spanLt] at this
  exact this
end Go.Proofs

/- The plain list of all spans of some lists. -/
namespace Go.Proofs
open Go Go.RowKit Go.Am

theorem plainL_nil : plainL [] = [] := (plainL_of ⟨fun s hs => (by cases hs), List.Pairwise.nil⟩ fun _ => rfl).symm
theorem pure_encL (l : List Sp) : PureV (encL l) := .sl (fun _ e => by cases e) fun e he => by
  obtain ⟨x, _, rfl⟩ := List.mem_map.1 he
  exact pure_avP x
theorem pure_encLL (ls : List (List Sp)) : PureV (.sl .no (ls.map fun l => [encL l])) := .sl (fun _ e => by cases e) fun e he => by
  obtain ⟨x, _, rfl⟩ := List.mem_map.1 he
  intro v hv
  rw [List.mem_singleton.1 hv]
  exact pure_encL x
theorem wk_encL (l : List Sp) : Am.wk (encL l) = encL l := by
  simp [encL, avP]
theorem flatP_last (o : List Sp) (t : Sp) : List.take 1 (List.drop (o.length * 2 + 1) (flatP (o ++ [t]))) = [.int .i64 t.2] := by
  have e := flatP_len o
  rw [flatP_app, ← e, ← List.drop_drop, List.drop_left]
  rfl
theorem flatP_last_put (o : List Sp) (t : Sp) (v : Int) : (flatP (o ++ [t])).take (o.length * 2 + 1) ++ AV.int .i64 v :: (flatP (o ++ [t])).drop (o.length * 2 + 1 + 1) = flatP (o ++ [(t.1, v)]) := by
  have e := flatP_len o
  rw [flatP_app, flatP_app, ← e, List.take_length_add_append, Nat.add_assoc, ← List.drop_drop, List.drop_left]
  simp [flatP, avP]
theorem plain_last {o : List Sp} {t : Sp} (h : isPlain (o ++ [t])) : 0 ≤ t.2 ∧ t.2 ≤ 999 := by
  have := mayS_iff.1 (isPlain_snoc.1 h).2.1
  omega

theorem chunksP : ∀ l : List Sp, chunks 2 l.length (flatP l) = l.map avP
  | [] => rfl
  | x :: l => by
    rw [flatP_cons, List.length_cons, chunks, List.take_left' (by rfl), List.drop_left' (by rfl), chunksP l]
    rfl
theorem indexNil_ok : PCall Try.prog 153 [.sl .no [], .fn 147 [] []] (.int .i64 (-1)) := by
  refine PCall.run hb153 ok153 (by simp) (by intro v hv; simp at hv; rcases hv with rfl | rfl <;> first | exact pure_nilsl | exact .fn (fun _ h => by cases h) (fun _ h => by cases h)) (.int _ _) ?_
  simp -implicitDefEqProofs []
  refine run_loop (fun n s h1 => s 7 = .int .i64 0 ∧ s 8 = .int .i64 0) ?_ 0 ?_
  · rintro m s h1 ⟨h7, h8⟩ ih
    simp -implicitDefEqProofs [h7, h8]
  · simp
theorem deleteNil_ok : PCall Try.prog 145 [.sl .no [], .fn 147 [] []] (.sl .no []) := by
  refine PCall.run hb145 ok145 (by simp) (by intro v hv; simp at hv; rcases hv with rfl | rfl <;> first | exact pure_nilsl | exact .fn (fun _ h => by cases h) (fun _ h => by cases h)) pure_nilsl ?_
  simp -implicitDefEqProofs []
  refine callQ_p indexNil_ok (by simp) ?_
  simp -implicitDefEqProofs []

set_option maxHeartbeats 2000000 in
theorem plain_ok (ls : List (List Sp)) (hn : tot ls ≤ 1000000) (hl : ls.length ≤ 1000000) : PCall Try.prog 134 [.sl .no (ls.map fun l => [encL l])] (encL (plainL ls.flatten)) := by
  refine PCall.run' hb134 ok134 (by simp) (pures1 (pure_encLL ls)) (pure_encL _) (wk_encL _) ?_
  simp -implicitDefEqProofs []
  refine callQ_c (concat_ok ls hn hl) (by simp [wk_encL]) ?_
  rintro r h1 (⟨hz, rfl⟩ | ⟨b, rfl, hb, hc⟩)
  · simp -implicitDefEqProofs []
    refine callQ_p deleteNil_ok (by simp) ?_
    simp -implicitDefEqProofs []
    refine callQ_p sortNil_ok (by simp) ?_
    simp -implicitDefEqProofs []
    refine run_loop (fun n s h1 => s 14 = .int .i64 0 ∧ s 15 = .int .i64 0 ∧ s 4 = .sl .full []) ?_ 0 ?_
    · rintro m s h1 ⟨h14, h15, h4⟩ ih
      simp -implicitDefEqProofs [h14, h15, h4]
      rw [hz, plainL_nil]
      exact ⟨_, .weak (fun _ _ _ h => h.wk) (.refl _ _)⟩
    · simp
  · simp -implicitDefEqProofs []
    refine callQ_c (delete_ok (rest := []) hb (by rw [List.append_nil]; exact hc) (by rw [tot] at hn; exact hn)) (by simp) ?_
    rintro r h2 ⟨rest, rfl, hb2, hc2⟩
    generalize hfl : ls.flatten.filter mayS = fl at hc2 ⊢
    have hfn : fl.length ≤ 1000000 := by
      rw [← hfl]; exact Nat.le_trans (List.length_filter_le _ _) hn
    simp -implicitDefEqProofs []
    refine callQ_c (sort_call hb149 Try.sortsSpan hb2 hc2 (by omega)) (by simp) ?_
    rintro r h3 ⟨rfl, l', hp, hso, rfl⟩
    have hpl : l'.length = fl.length := hp.length_eq
    have hres : mrg l' = plainL ls.flatten := mrg_plain (by rw [hfl]; exact hp) hso
    have hmay : ∀ s ∈ l', mayS s = true := fun s hs => by
      have := hp.mem_iff.1 hs
      rw [← hfl] at this
      exact (List.mem_filter.1 this).2
    rw [← hres]
    simp -implicitDefEqProofs []
    refine run_loop (fun n s h => ∃ (j : Nat) (o : List Sp), n = fl.length - j ∧ j ≤ fl.length ∧ o = mrg (l'.take j) ∧ s 13 = .msl b 2 0 fl.length ∧ s 14 = .int .i64 fl.length ∧ s 15 = .int .i64 j ∧ b < h.bn ∧ h.bx b = some (flatP l' ++ rest) ∧
      ((o = [] ∧ s 4 = .sl .full []) ∨ (∃ c, s 4 = .msl c 2 0 o.length ∧ o ≠ [] ∧ ¬ c = b ∧ c < h.bn ∧ h.bx c = some (flatP o)))) ?_ fl.length ?_
    rotate_left
    · exact ⟨0, [], by simp [mrg, hb2]⟩
    rintro n s h ⟨j, o, hn, hj, ho, s13, s14, s15, hb, hc, hout⟩ ih
    by_cases hlt : j < fl.length
    · have hlt' : j < l'.length := by omega
      have f1 := flatP_at (rest := rest) hlt'
      have f2 : j * 2 + 2 ≤ (flatP l' ++ rest).length := by rw [List.length_append, flatP_len]; omega
      have i1 := idxOf_nat (k := .i64) hlt
      have hbne : ¬ b = h.bn := by omega
      have hmj : mrg (l'.take (j + 1)) = mrg1 o l'[j] := by
        rw [List.take_succ_eq_append_getElem hlt', mrg_snoc, ho]
      have hoP : isPlain o ∧ o.length ≤ 1000000 := by
        have q : (∀ s ∈ l'.take j, mayS s = true) := fun s hs => hmay s (List.mem_of_mem_take hs)
        have q2 : (l'.take j).Pairwise fun x y => x.1 ≤ y.1 := hso.sublist (List.take_sublist _ _)
        obtain ⟨q3, _, _⟩ := mrg_ok _ (l'.take j) rfl q q2
        rw [← ho] at q3
        refine ⟨q3, ?_⟩
        have := plainL_len o
        rw [plainL_plain q3] at this
        omega
      simp -implicitDefEqProofs [s13, s14, s15, hlt, hb, hc, f1, f2, -unCells, -List.length_append, avP]
      rcases hout with ⟨rfl, s4⟩ | ⟨c, s4, hne, hcb, hc1, hc2⟩
      · simp -implicitDefEqProofs [s4]
        refine run_dreg c134_d9 ?_
        simp -implicitDefEqProofs [s4]
        refine ⟨_, _, .newbox [] [avP l'[j]] _ (by simp) (by simp [srcA, avP]) (by simp) (by simp), ?_⟩
        simp -implicitDefEqProofs [s15, inc_i64 hlt (by omega), -Int.natCast_add]
        refine ih (fl.length - (j + 1)) _ _ (by omega) ⟨j + 1, _, rfl, by omega, hmj.symm, by simp [s13], by simp [s14], by simp, by simp; omega, by simp [hbne, hc, show ¬ b = h.bn + 1 by omega], ?_⟩
        exact .inr ⟨h.bn + 1, by simp [mrg1], by simp [mrg1], by omega, by simp, by simp [mrg1, flatP]⟩
      · rcases List.eq_nil_or_concat o with e | ⟨o', t, e⟩
        · subst e
          exact absurd rfl hne
        · rw [List.concat_eq_append] at e
          subst e
          have ht := plain_last hoP.1
          have hol := hoP.2
          rw [List.length_append, List.length_singleton] at hol
          have w1 : IntKind.i64.wrap (o'.length : Nat) = (o'.length : Nat) := wrap_i64 (by omega) (by omega)
          have w2 : IntKind.i64.wrap (t.2 + 1) = t.2 + 1 := wrap_i64 (by omega) (by omega)
          have g1 := flatP_last o' t
          have g2 : (flatP (o' ++ [t])).length = (o'.length + 1) * 2 := by rw [flatP_len]; simp
          have g3 : o'.length * 2 + 1 + 1 ≤ (o'.length + 1) * 2 := by omega
          have g5 : (o'.length : Int) < (o'.length : Int) + 1 := by omega
          have hch : ¬ c = h.bn := by omega
          have hc3 : c < h.bn + 1 := by omega
          simp -implicitDefEqProofs [s4]
          refine run_dreg c134_d9 ?_
          rw [mrg1_snoc] at hmj
          by_cases hle : l'[j].1 ≤ t.2 + 1
          · rw [if_pos hle] at hmj
            have g4 := flatP_last_put o' t (max t.2 l'[j].2)
            simp -implicitDefEqProofs [s4, hc2, w1, w2, g1, g2, g3, g5, hch, hc3, hle]
            refine run_dreg c134_d10 ?_
            simp -implicitDefEqProofs [s4, hc2, w1, g1, g2, g3, hch, hc3, int_max, g4, s15, inc_i64 hlt (by omega), -Int.natCast_add]
            refine ih (fl.length - (j + 1)) _ _ (by omega) ⟨j + 1, _, rfl, by omega, hmj.symm, by simp [s13], by simp [s14], by simp, by simp; omega, by simp [hbne, hc, show ¬ b = c by omega], ?_⟩
            exact .inr ⟨c, by simp [s4], by simp, by omega, by simp; omega, by simp []⟩
          · rw [if_neg hle] at hmj
            simp -implicitDefEqProofs [s4, hc2, w1, w2, g1, g2, g3, g5, hch, hc3, hle]
            refine ⟨_, _, .box c (o'.length + 1) (flatP (o' ++ [t])) [avP l'[j]] _ (by simpa using hc3) (by simp [hch, hc2]) (by rw [g2]; omega) (by simp [srcA, avP]) (by simp) (by simp only [List.length_cons, List.length_nil]; omega), ?_⟩
            have g6 : List.take ((o'.length + 1) * 2) (flatP (o' ++ [t])) = flatP (o' ++ [t]) := List.take_of_length_le (by omega)
            simp -implicitDefEqProofs [s15, inc_i64 hlt (by omega), -Int.natCast_add]
            refine ih (fl.length - (j + 1)) _ _ (by omega) ⟨j + 1, _, rfl, by omega, hmj.symm, by simp [s13], by simp [s14], by simp, by simp [H.kill]; omega, ?_, ?_⟩
            · simp [H.kill, hbne, hc, show ¬ b = c by omega, show ¬ b = h.bn + 1 by omega]
            · refine .inr ⟨h.bn + 1, by simp [], by simp, by omega, by simp [H.kill], ?_⟩
              simp only [alloc_bx, alloc_bn, set_bn, H.kill, if_true, g6]
              rw [flatP_app (o' ++ [t])]
              rfl
    · obtain rfl : j = fl.length := by omega
      have e : l'.take fl.length = l' := List.take_of_length_le (by omega)
      rw [e] at ho
      subst ho
      simp -implicitDefEqProofs [s14, s15]
      rcases hout with ⟨e0, s4⟩ | ⟨c, s4, hne, hcb, hc1, hc2⟩
      · simp -implicitDefEqProofs [s4]
        rw [e0]
        exact ⟨_, .weak (fun _ _ _ h => h.wk) (.refl _ _)⟩
      · simp -implicitDefEqProofs [s4]
        have := Gh.msl (z := 2) (n := (mrg l').length) hc1 hc2 (by omega) (by rw [flatP_len]; omega)
        rw [chunksP] at this
        exact ⟨_, this⟩
end Go.Proofs

/- The document's sets of keys: what its functions say. -/
namespace Go.Am
open Go Go.RowKit
/-- A pointer to a box that no longer turns. -/
theorem Gh.rop {h : H} {b : Nat} {cs : List AV} (hb : b < h.bn) (hc : h.bx b = some cs) : Gh h (.ptr b 0) (h.kill b) (.rop cs) := by
  refine .frz b cs hb hc (fun w g V hro hr => ?_) (.refl _ _)
  cases hr with
  | ptr b o h1 =>
    have key : ∀ k (hk : k < cs.length), ∃ U, k < g.ro (g.bx b) ∧ w.cell? ⟨g.bx b, k, none⟩ = some U ∧ Rep w g cs[k] U ∧ ok1 cs[k] = true := fun k hk => hro k _ (List.getElem?_eq_getElem hk)
    refine Rep.rop cs ⟨g.bx b, 0, none⟩ (fun k => if hk : k < cs.length then Classical.choose (key k hk) else .nilFunc) (fun k hk => ?_) (fun k hk => ?_) (fun k hk => ?_)
    · obtain ⟨q1, q2, _⟩ := Classical.choose_spec (key k hk)
      refine ⟨g.bx b, 0, rfl, by rw [Nat.zero_add]; exact q1, ?_⟩
      rw [dif_pos hk, Nat.zero_add]
      exact q2
    · rw [dif_pos hk]
      exact (Classical.choose_spec (key k hk)).2.2.1
    · exact (Classical.choose_spec (key k hk)).2.2.2
theorem HF.kl {h h1 : H} {B T : Nat → Prop} (e : HF h h1 B T) {b : Nat} (hb : h.bn ≤ b) : HF h (h1.kill b) B T :=
  ⟨e.bn, fun b' h1 hn => by
    have : b' ≠ b := by omega
    simp only [H.kill, if_neg this]
    exact e.bx b' h1 hn, e.tn, e.tk, e.ln, e.lp, e.mn, e.mp⟩
end Go.Am
namespace Go.Proofs
open Go Go.RowKit Go.Am

def setA (f : Nat → Bool) : List AV := (List.range 1000).map fun k => .bool (f k)
@[simp] theorem setA_len (f : Nat → Bool) : (setA f).length = 1000 := by simp only [setA, List.length_map, List.length_range]
theorem setA_get (f : Nat → Bool) {k : Nat} (hk : k < 1000) : (setA f)[k]? = some (.bool (f k)) := by
  rw [setA, List.getElem?_map, List.getElem?_range hk]; rfl
theorem setA_at (f : Nat → Bool) {k : Nat} (hk : k < 1000) : List.take 1 (List.drop k (setA f)) = [.bool (f k)] := by
  have h := setA_get f hk
  obtain ⟨hk', e⟩ := List.getElem?_eq_some_iff.1 h
  rw [List.drop_eq_getElem_cons hk', e]
  rfl
theorem setA_put (f : Nat → Bool) {k : Nat} (hk : k < 1000) (v : Bool) : List.take k (setA f) ++ .bool v :: List.drop (k + 1) (setA f) = setA fun i => if i = k then v else f i := by
  have e : setA (fun i => if i = k then v else f i) = (setA f).set k (.bool v) := by
    apply List.ext_getElem?
    intro i
    rw [List.getElem?_set]
    by_cases h : k = i
    · subst h
      rw [if_pos rfl, if_pos (by rw [setA_len]; exact hk), setA_get _ hk, if_pos rfl]
    · rw [if_neg h]
      by_cases hi : i < 1000
      · rw [setA_get _ hi, setA_get _ hi, if_neg (fun e => h e.symm)]
      · rw [List.getElem?_eq_none (by rw [setA_len]; omega), List.getElem?_eq_none (by rw [setA_len]; omega)]
  rw [e, List.set_eq_take_append_cons_drop, if_pos (by rw [setA_len]; exact hk)]
theorem setA_zero : List.replicate 1000 (AV.bool false) = setA fun _ => false := by
  apply List.ext_getElem?
  intro i
  by_cases hi : i < 1000
  · rw [setA_get _ hi, List.getElem?_replicate, if_pos hi]
  · rw [List.getElem?_eq_none (by rw [List.length_replicate]; omega), List.getElem?_eq_none (by rw [setA_len]; omega)]
theorem setA_congr {f g : Nat → Bool} (h : ∀ k, k < 1000 → f k = g k) : setA f = setA g := by
  apply List.ext_getElem?
  intro i
  by_cases hi : i < 1000
  · rw [setA_get _ hi, setA_get _ hi, h i hi]
  · rw [List.getElem?_eq_none (by rw [setA_len]; omega), List.getElem?_eq_none (by rw [setA_len]; omega)]
theorem pure_setA (f : Nat → Bool) : ∀ v ∈ setA f, PureV v := by
  intro v hv
  obtain ⟨k, _, rfl⟩ := List.mem_map.1 hv
  exact .bool _
theorem wk_setA (f : Nat → Bool) : (setA f).map wk = setA f := by simp [setA]
/-- A set, as the document has it. -/
def setP (f : Nat → Bool) : AV := .rop (setA f)
theorem pure_setP (f : Nat → Bool) : PureV (setP f) := .rop (pure_setA f)
theorem wk_setP (f : Nat → Bool) : Am.wk (setP f) = setP f := by simp [setP, wk_setA]

def upTo (l : List Sp) (lo k : Int) (i : Nat) : Bool := hasK l i || (decide (lo ≤ i) && decide ((i : Int) < k))

set_option maxHeartbeats 1000000 in
theorem refOf_ok (l : List Sp) (hl : l.length ≤ 1000000) : PCall Try.prog 68 [encL l] (setP fun k => hasK l k) := by
  refine PCall.run' hb68 ok68 (by simp) (pures1 (pure_encL l)) (pure_setP _) (wk_setP _) ?_
  simp -implicitDefEqProofs [-List.reduceReplicate, setA_zero, H.nil]
  refine run_loop (fun n s h => ∃ i : Nat, n = l.length - i ∧ i ≤ l.length ∧ s 0 = encL l ∧ s 3 = .ptr 0 0 ∧ s 4 = .int .i64 i ∧ 0 < h.bn ∧ h.bx 0 = some (setA fun k => hasK (l.take i) k)) ?_ l.length ?_
  rotate_left
  · exact ⟨0, by simp [encL, hasK_nil]⟩
  rintro n s h ⟨i, hn, hi, s0, s3, s4, hb, hc⟩ ih
  by_cases hlt : i < l.length
  · rw [encL] at s0
    have i1 := idxOf_nat (k := .i64) hlt
    have hnext : ∀ k, hasK (l.take (i + 1)) k = (hasK (l.take i) k || inS l[i] k) := fun k => by
      rw [List.take_succ_eq_append_getElem hlt, hasK_app, hasK_cons, hasK_nil, Bool.or_false]
    have hskip : mayS l[i] = false → ∀ k : Nat, hasK (l.take (i + 1)) k = hasK (l.take i) k := fun hm k => by
      rw [hnext, inS, hm]; simp
    have hgo : ∀ s1 h1, s1 0 = encL l → s1 3 = .ptr 0 0 → s1 4 = .int .i64 (i + 1 : Nat) → 0 < h1.bn → h1.bx 0 = some (setA fun k => hasK (l.take (i + 1)) k) → Run Try.prog false [.lp c68_l12, .blk 0, .c (.seq (.reg c68_r13) .ret)] (retQ [.t 2] fun r' h1 => ∃ h', Gh h1 r' h' (setP fun k => hasK l k)) s1 h1 := fun s1 h1 q0 q3 q4 q5 q6 =>
      ih (l.length - (i + 1)) _ _ (by omega) ⟨i + 1, rfl, by omega, q0, q3, q4, q5, q6⟩
    by_cases h1 : l[i].1 < 0
    · have hm : mayS l[i] = false := by rw [Bool.eq_false_iff]; intro e; have := mayS_iff.1 e; omega
      simp -implicitDefEqProofs [s0, s4, hlt, avP, h1, inc_i64 hlt (by omega), -Int.natCast_add]
      refine hgo _ _ (by simp [s0, encL]) (by simp [s3]) (by simp) hb (by rw [hc]; exact congrArg some (setA_congr fun k _ => (hskip hm k).symm))
    · by_cases h2 : 999 < l[i].2
      · have hm : mayS l[i] = false := by rw [Bool.eq_false_iff]; intro e; have := mayS_iff.1 e; omega
        simp -implicitDefEqProofs [s0, s4, hlt, avP, h1, h2, inc_i64 hlt (by omega), -Int.natCast_add]
        refine hgo _ _ (by simp [s0, encL]) (by simp [s3]) (by simp) hb (by rw [hc]; exact congrArg some (setA_congr fun k _ => (hskip hm k).symm))
      · simp -implicitDefEqProofs [s0, s4, hlt, avP, h1, h2]
        refine run_loop (fun n s h => ∃ k : Int, n = (l[i].2 + 1 - k).toNat ∧ l[i].1 ≤ k ∧ (k ≤ l[i].2 + 1 ∨ k = l[i].1) ∧ s 0 = encL l ∧ s 3 = .ptr 0 0 ∧ s 4 = .int .i64 i ∧ s 5 = .int .i64 k ∧ 0 < h.bn ∧ h.bx 0 = some (setA (upTo (l.take i) l[i].1 k))) ?_ (l[i].2 + 1 - l[i].1).toNat ?_
        rotate_left
        · refine ⟨l[i].1, rfl, Int.le_refl _, .inr rfl, by simp [s0, encL], by simp [s3], by simp [s4], by simp, hb, ?_⟩
          rw [hc]
          refine congrArg some (setA_congr fun k _ => ?_)
          simp only [upTo]
          rw [show (decide (l[i].1 ≤ (k : Int)) && decide ((k : Int) < l[i].1)) = false by simp, Bool.or_false]
        rintro n s h ⟨k, hn, hk1, hk2, s0, s3, s4, s5, hb, hc⟩ ih2
        rw [encL] at s0
        by_cases hle : k ≤ l[i].2
        · obtain ⟨m, rfl⟩ : ∃ m : Nat, k = m := ⟨k.toNat, by omega⟩
          have hm : m < 1000 := by omega
          have i2 := idxOf_nat (k := .i64) hm
          have hp := setA_put (upTo (l.take i) l[i].1 m) hm true
          simp -implicitDefEqProofs [s0, s3, s4, s5, hlt, hle, avP, hb, hc, hp, show m + 1 ≤ 1000 by omega, show (m : Int) < 1000 by omega, inc_i64 hm (by omega), -Int.natCast_add]
          refine ih2 (l[i].2 + 1 - ((m + 1 : Nat) : Int)).toNat _ _ (by omega) ⟨((m + 1 : Nat) : Int), rfl, by omega, .inl (by omega), by simp [s0, encL], by simp [s3], by simp [s4], by simp, by simpa using hb, ?_⟩
          simp only [set_bx, if_true]
          refine congrArg some (setA_congr fun j _ => ?_)
          by_cases hj : j = m
          · subst hj
            simp only [upTo]
            rw [show decide (l[i].1 ≤ (j : Int)) = true from decide_eq_true (by omega), show decide ((j : Int) < ((j + 1 : Nat) : Int)) = true from decide_eq_true (by omega)]
            simp
          · simp only [upTo]
            have e : decide ((j : Int) < ((m + 1 : Nat) : Int)) = decide ((j : Int) < (m : Int)) := by
              rw [Bool.eq_iff_iff, decide_eq_true_eq, decide_eq_true_eq]
              omega
            rw [e, show decide (j = m) = false from decide_eq_false hj, Bool.false_or]
        · simp -implicitDefEqProofs [s0, s4, s5, hlt, hle, avP, inc_i64 hlt (by omega), -Int.natCast_add]
          refine hgo _ _ (by simp [s0, encL]) (by simp [s3]) (by simp) hb ?_
          rw [hc]
          refine congrArg some (setA_congr fun j _ => ?_)
          rw [hnext]
          simp only [upTo]
          congr 1
          rw [Bool.eq_iff_iff, inS_iff, mayS_iff, Bool.and_eq_true, decide_eq_true_eq, decide_eq_true_eq]
          omega
  · obtain rfl : i = l.length := by omega
    rw [List.take_length] at hc
    simp -implicitDefEqProofs [s0, s3, s4, encL]
    exact ⟨_, Gh.rop hb hc⟩
end Go.Proofs
