/- What the functions that the statement reaches do: their contracts; and what follows of it. -/
import Derived.Test.YtaepkklbckgbhabSClassFoot7
import Derived.Test.YtaepkklbckgbhabProg
import Derived.Shelf.Spec.SlicesGrow
import Derived.Shelf.SlSortCmp.WholeK
/- Room for spans: the library's own contract, laid at the program, over boxes. PRINTED in its first part by laygen.py, a program of this work. -/
namespace Go.Am
open Go Go.RowKit Go.Lib Go.Shelf

/-- Room for n spans, where there is none. -/
def GrowsAt (P : Program) (f : FuncId) : Prop := ∀ (A : Option Addr) (n : Nat) (w : World), 0 < n → n ≤ 1000000 →
    Calls P f #[.slice A 0 0, .int .i64 n] w fun e w' => ∃ K T c, e = .returned (.slice (some ⟨w.heap.size, 0, none⟩) 0 c) ∧ w' = w.drew.alloc (.cells K T) ∧ K.size = c * 2

theorem grow_call {P : Program} {f : FuncId} (hbody : HasBody P f) (hg : GrowsAt P f) {h : H} {n : Nat} (h0 : 0 < n) (hn : n ≤ 1000000) :
    CallP P f [.sl .full [], .int .i64 n] h fun r h' => r = .msl h.bn 2 0 0 ∧ h' = h.alloc [] := by
  refine ⟨hbody, fun base W w g Args hs hA => ?_⟩
  obtain ⟨hAs, hAr⟩ := hA
  have h0' := hAr 0 (by simp)
  have h1' := hAr 1 (by simp)
  simp only [List.length_cons, List.length_nil] at hAs
  have hArgs : Args = #[Args[0], Args[1]] := by
    apply Array.ext
    · simp; omega
    · intro i hi1 hi2
      have : i = 0 ∨ i = 1 := by simp at hi2; omega
      rcases this with rfl | rfl <;> simp
  generalize hA0 : Args[0] = A0 at h0' hArgs
  generalize hA1 : Args[1] = A1 at h1' hArgs
  subst hArgs
  clear hA0 hA1 hAs hAr
  simp only [List.getElem_cons_zero] at h0'
  simp only [List.getElem_cons_succ, List.getElem_cons_zero] at h1'
  obtain ⟨A, cap, z, Vs, rfl, _, _, _, _, _, _, htok⟩ := h0'.sl_inv
  have hcap : cap = 0 := htok
  subst hcap
  rw [h1'.int_inv]
  refine (hg A n w h0 hn).mono ?_
  rintro e w' ⟨K, T, c, rfl, rfl, hK⟩
  obtain ⟨hs1, he1⟩ := hs.drew
  obtain ⟨hs2, he2⟩ := hs1.allocBox K T [] ⟨Nat.zero_le _, fun k v hk => by simp at hk⟩
  refine ⟨_, _, .msl h.bn 2 0 0, _, rfl, ?_, hs2, he1.trans he2, rfl, rfl⟩
  have hbx : (g.box w.drew.heap.size K.size).bx h.bn = w.heap.size ∧ (g.box w.drew.heap.size K.size).bs h.bn = K.size := by
    refine ⟨?_, ?_⟩
    · show (if h.bn = g.bn then _ else _) = _
      rw [if_pos hs.bn]; rfl
    · show (if h.bn = g.bn then _ else _) = _
      rw [if_pos hs.bn]
  have := Rep.msl (w := w.drew.alloc (.cells K T)) (g := g.box w.drew.heap.size K.size) h.bn 2 0 0 c (by show h.bn < g.bn + 1; rw [hs.bn]; omega) (Nat.zero_le _) (by rw [hbx.2]; omega)
  rw [hbx.1] at this
  exact this

/-- Room for none. -/
def StaysAt (P : Program) (f : FuncId) : Prop := ∀ (A : Option Addr) (w : World), Calls P f #[.slice A 0 0, .int .i64 0] w fun e w' => e = .returned (.slice A 0 0) ∧ w' = w
theorem stay_call {P : Program} {f : FuncId} (hbody : HasBody P f) (hg : StaysAt P f) {h : H} : CallP P f [.sl .full [], .int .i64 0] h fun r h' => r = .sl .full [] ∧ h' = h := by
  refine ⟨hbody, fun base W w g Args hs hA => ?_⟩
  obtain ⟨hAs, hAr⟩ := hA
  have h0' := hAr 0 (by simp)
  have h1' := hAr 1 (by simp)
  simp only [List.length_cons, List.length_nil] at hAs
  have hArgs : Args = #[Args[0], Args[1]] := by
    apply Array.ext
    · simp; omega
    · intro i hi1 hi2
      have : i = 0 ∨ i = 1 := by simp at hi2; omega
      rcases this with rfl | rfl <;> simp
  generalize hA0 : Args[0] = A0 at h0' hArgs
  generalize hA1 : Args[1] = A1 at h1' hArgs
  subst hArgs
  clear hA0 hA1 hAs hAr
  simp only [List.getElem_cons_zero] at h0'
  simp only [List.getElem_cons_succ, List.getElem_cons_zero] at h1'
  have hsl := h0'
  obtain ⟨A, cap, z, Vs, rfl, _, _, _, _, _, _, htok⟩ := h0'.sl_inv
  have hcap : cap = 0 := htok
  subst hcap
  rw [h1'.int_inv]
  refine (hg A w).mono ?_
  rintro e w' ⟨rfl, rfl⟩
  exact ⟨_, g, _, h, rfl, hsl, hs, Ext.refl base W _ g, rfl, rfl⟩
end Go.Am
namespace Go.Proofs
open Go Go.RowKit Go.Am Go.Lib Go.Shelf

def growSpan_ren : Go.Shelf.Ren := ⟨fun | 4 => 110 | n => n, fun | 22 => 28 | 25 => 69 | 3 => 3 | 4 => 4 | 9 => 9 | 20 => 20 | 0 => 0 | 2 => 3 | n => n, fun n => n⟩
set_option maxRecDepth 100000 in
set_option maxHeartbeats 4000000 in
theorem growSpan : Lays8.n4 Try.prog growSpan_ren where
  mixed := by kernel_rfl
  f4 := ⟨"slices.Grow[[]gimmal/api.Span,gimmal/api.Span]", by decide, Try.func110.trans (congrArg some (by kernel_rfl))⟩
  t0 := Try.underlying0
  a0 := Try.isAgg0
  z0 := Try.sizeOf0
  v0 := Try.zeroValue0
  t3 := Try.underlying3
  a3 := Try.isAgg3
  z3 := Try.sizeOf3
  v3 := Try.zeroValue3
  t4 := Try.underlying4
  a4 := Try.isAgg4
  z4 := Try.sizeOf4
  v4 := Try.zeroValue4
  t9 := Try.underlying9
  a9 := Try.isAgg9
  z9 := Try.sizeOf9
  v9 := Try.zeroValue9
  t20 := Try.underlying20
  a20 := Try.isAgg20
  z20 := Try.sizeOf20
  v20 := Try.zeroValue20
  t22 := Try.underlying28
  a22 := Try.isAgg28
  z22 := Try.sizeOf28
  v22 := Try.zeroValue28

theorem Try.hbGrow : HasBody Try.prog 110 := ⟨_, Try.func110, by kernel_rfl, by kernel_rfl⟩
theorem Try.growsSpan : GrowsAt Try.prog 110 := fun A n w h0 hn => by
  have q1 : (Try.prog.info? 69).map (·.size) = some 2 := by kernel_rfl
  have q2 : (Try.prog.info? 69).map (·.bytes) = some 16 := by kernel_rfl
  have q3 : ((Try.prog.info? 69).bind (·.zero)).map (·.cells.size) = some 2 := by kernel_rfl
  obtain ⟨i0, hi, hsz⟩ := Option.map_eq_some_iff.1 q1
  obtain ⟨i1, hi', hby⟩ := Option.map_eq_some_iff.1 q2
  rw [hi] at hi'; cases hi'
  obtain ⟨z, hz, hzs⟩ := Option.map_eq_some_iff.1 q3
  rw [hi, Option.bind_some] at hz
  refine (Any8.slices_Grow_grow growSpan i0 z hi hz (by omega) A 0 0 n [] w (Nat.le_refl _) (by omega) (by rw [hby]; omega) (by omega) (by simp) (fun _ => rfl) (fun a _ j v hj => by simp at hj)).mono ?_
  rintro e w' ⟨rfl, rfl⟩
  refine ⟨_, _, _, rfl, rfl, ?_⟩
  have hge := grownCap_ge w (0 + n) 0 (growSpan_ren.t 25)
  simp only [Array.size_append, zeroCells_size, hzs]
  simp only [List.size_toArray, List.length_nil, Nat.sub_zero]
  omega
theorem Try.staysSpan : StaysAt Try.prog 110 := fun A w => Any8.slices_Grow_room growSpan A 0 0 0 w (Nat.le_refl _) (by omega) (by omega) (Nat.le_refl _)
end Go.Proofs

/- Several lists of spans, one behind the other. -/
namespace Go.Proofs
open Go Go.RowKit Go.Am

def encL (l : List Sp) : AV := .sl .no (l.map avP)
def tot (ls : List (List Sp)) : Nat := ls.flatten.length
theorem tot_succ {ls : List (List Sp)} {j : Nat} (hj : j < ls.length) : tot (ls.take (j + 1)) = tot (ls.take j) + ls[j].length ∧ (ls.take (j + 1)).flatten = (ls.take j).flatten ++ ls[j] := by
  have e : (ls.take (j + 1)).flatten = (ls.take j).flatten ++ ls[j] := by
    rw [List.take_succ_eq_append_getElem hj, List.flatten_append]; simp
  exact ⟨by rw [tot, e, List.length_append]; rfl, e⟩
theorem tot_le (ls : List (List Sp)) (j : Nat) : tot (ls.take j) ≤ tot ls := by
  have e : ls.flatten = (ls.take j).flatten ++ (ls.drop j).flatten := by rw [← List.flatten_append, List.take_append_drop]
  rw [tot, tot, e, List.length_append]; omega
theorem src_P (h : H) (l : List Sp) (t : Tok) : srcA h 2 (.sl t (l.map avP)) = some (l.map avP) := by
  simp only [srcA]
  rw [if_pos avP_len]

set_option maxHeartbeats 1000000 in
theorem concat_ok (ls : List (List Sp)) {h : H} (hn : tot ls ≤ 1000000) (hl : ls.length ≤ 1000000) : CallP Try.prog 90 [.sl .no (ls.map fun l => [encL l])] h fun r h' => (ls.flatten = [] ∧ r = .sl .full []) ∨ (∃ b, r = .msl b 2 0 ls.flatten.length ∧ b < h'.bn ∧ h'.bx b = some (flatP ls.flatten)) := by
  refine CallP.run hb90 ok90 (by simp) ?_
  simp -implicitDefEqProofs []
  refine run_loop (fun n s h1 => ∃ j : Nat, n = ls.length - j ∧ j ≤ ls.length ∧ s 0 = .sl .no (ls.map fun l => [encL l]) ∧ s 3 = .int .i64 (tot (ls.take j)) ∧ s 9 = .sl .no (ls.map fun l => [encL l]) ∧ s 10 = .int .i64 ls.length ∧ s 11 = .int .i64 j) ?_ ls.length ?_
  rotate_left
  · exact ⟨0, by simp [tot]⟩
  rintro n s h1 ⟨j, hn, hj, s0, s3, s9, s10, s11⟩ ih
  by_cases hlt : j < ls.length
  · have hle := tot_le ls (j + 1)
    obtain ⟨ht, _⟩ := tot_succ hlt
    have hw : IntKind.i64.wrap ((tot (ls.take j) : Int) + (ls[j].length : Nat)) = (tot (ls.take (j + 1)) : Nat) := by
      rw [wrap_i64 (by omega) (by omega), ht, Int.natCast_add]
    have hneg : ¬ ((tot (ls.take (j + 1)) : Nat) : Int) < 0 := by omega
    have i1 := idxOf_nat (k := .i64) hlt
    simp -implicitDefEqProofs [s9, s10, s11, s3, hlt, encL, hw, hneg, inc_i64 hlt (by omega), -Int.natCast_add]
    exact ih (ls.length - (j + 1)) _ _ (by omega) ⟨j + 1, rfl, by omega, by simp [s0, encL], by simp, by simp [s9, encL], by simp [s10], by simp⟩
  · obtain rfl : j = ls.length := by omega
    rw [List.take_length] at s3
    by_cases h0 : tot ls = 0
    · have hf : ls.flatten = [] := List.length_eq_zero_iff.1 h0
      rw [h0] at s3
      simp -implicitDefEqProofs [s3, s10, s11]
      refine callQ_ex (stay_call Try.hbGrow Try.staysSpan) ?_
      rintro r h2 ⟨rfl, rfl⟩
      simp -implicitDefEqProofs [s0]
      refine run_loop (fun n s h1 => ∃ j : Nat, n = ls.length - j ∧ j ≤ ls.length ∧ s 6 = .sl .full [] ∧ s 25 = .sl .no (ls.map fun l => [encL l]) ∧ s 26 = .int .i64 ls.length ∧ s 27 = .int .i64 j) ?_ ls.length ?_
      rotate_left
      · exact ⟨0, by simp⟩
      rintro n s h1 ⟨j, hn, hj, s6, s25, s26, s27⟩ ih
      by_cases hlt : j < ls.length
      · have i1 := idxOf_nat (k := .i64) hlt
        have hle := tot_le ls (j + 1)
        obtain ⟨ht, _⟩ := tot_succ hlt
        have hz : ls[j] = [] := List.length_eq_zero_iff.1 (by omega)
        simp -implicitDefEqProofs [s6, s25, s26, s27, hlt, encL, hz]
        refine ⟨_, _, .same _ _ _ (by simp [srcA]), ?_⟩
        simp -implicitDefEqProofs [s27, inc_i64 hlt (by omega), -Int.natCast_add]
        exact ih (ls.length - (j + 1)) _ _ (by omega) ⟨j + 1, rfl, by omega, by simp, by simp [s25, encL], by simp [s26], by simp⟩
      · simp -implicitDefEqProofs [s6, s26, s27, hlt]
        exact fun l hl => List.flatten_eq_nil_iff.1 hf l hl
    · simp -implicitDefEqProofs [s3, s10, s11]
      refine callQ_ex (grow_call Try.hbGrow Try.growsSpan (n := tot ls) (by omega) (by omega)) ?_
      rintro r h2 ⟨rfl, rfl⟩
      simp -implicitDefEqProofs [s0]
      refine run_loop (fun n s h1 => ∃ (j b : Nat), n = ls.length - j ∧ j ≤ ls.length ∧ s 6 = .msl b 2 0 (tot (ls.take j)) ∧ b < h1.bn ∧ h1.bx b = some (flatP (ls.take j).flatten) ∧ s 25 = .sl .no (ls.map fun l => [encL l]) ∧ s 26 = .int .i64 ls.length ∧ s 27 = .int .i64 j) ?_ ls.length ?_
      rotate_left
      · exact ⟨0, h1.bn, by simp [tot, flatP]⟩
      rintro n s h1 ⟨j, b, hn, hj, s6, hb, hc, s25, s26, s27⟩ ih
      by_cases hlt : j < ls.length
      · have i1 := idxOf_nat (k := .i64) hlt
        have hle := tot_le ls (j + 1)
        obtain ⟨ht, hf⟩ := tot_succ hlt
        simp -implicitDefEqProofs [s6, s25, s26, s27, hlt, encL]
        by_cases hz : ls[j] = []
        · rw [hz] at ht hf
          rw [hz]
          refine ⟨_, _, .sameB _ _ _ _ (by simp [srcA]), ?_⟩
          simp -implicitDefEqProofs [s27, inc_i64 hlt (by omega), -Int.natCast_add]
          exact ih (ls.length - (j + 1)) _ _ (by omega) ⟨j + 1, b, rfl, by omega, by simp [ht], hb, by simp [hc, hf], by simp [s25, encL], by simp [s26], by simp⟩
        · have hp : 0 < ls[j].length := List.length_pos_iff.2 hz
          refine ⟨_, _, .box b (tot (ls.take j)) _ (ls[j].map avP) _ hb hc (by rw [flatP_len, tot]; omega) (src_P _ _ _) (by simpa using hp) (by simp only [List.length_map]; omega), ?_⟩
          simp -implicitDefEqProofs [s27, inc_i64 hlt (by omega), -Int.natCast_add]
          refine ih (ls.length - (j + 1)) _ _ (by omega) ⟨j + 1, h1.bn, rfl, by omega, by simp [ht], by simp [H.kill], ?_, by simp [s25, encL], by simp [s26], by simp⟩
          have e : List.take (tot (ls.take j) * 2) (flatP (ls.take j).flatten) = flatP (ls.take j).flatten := List.take_of_length_le (by rw [flatP_len, tot]; omega)
          simp only [H.alloc, H.kill, if_true, e, hf, flatP_app]
          rfl
      · obtain rfl : j = ls.length := by omega
        rw [List.take_length] at s6 hc
        simp -implicitDefEqProofs [s6, s26, s27]
        exact ⟨b, ⟨rfl, by simp [tot]⟩, hb, hc⟩
end Go.Proofs

/- Sets of keys: what the statements say of them, plainly; no program in sight. -/
namespace Go.Proofs
open Go Go.RowKit Go.Am

theorem plainL_congr {l m : List Sp} (h : ∀ k, hasK l k = hasK m k) : plainL l = plainL m := plainOf_congr fun k _ => h k
theorem plainL_idem (l : List Sp) : plainL (plainL l) = plainL l := plainL_plain (plainL_isPlain l)
theorem plainL_bothL (a b : List Sp) : plainL (bothL a b) = bothL a b := plainL_plain (plainL_isPlain _)
theorem plainL_lessL (a b : List Sp) : plainL (lessL a b) = lessL a b := plainL_plain (plainL_isPlain _)

theorem plainL_one (k : Int) : plainL [(k, k)] = if 0 ≤ k ∧ k ≤ 999 then [(k, k)] else [] := by
  symm
  by_cases h : 0 ≤ k ∧ k ≤ 999
  · rw [if_pos h]
    exact plainL_of ⟨fun s hs => by rw [List.mem_singleton.1 hs]; exact mayS_iff.2 ⟨h.1, Int.le_refl _, h.2⟩, List.pairwise_singleton _ _⟩ fun _ => rfl
  · rw [if_neg h]
    refine plainL_of ⟨fun s hs => (by cases hs), List.Pairwise.nil⟩ fun j => ?_
    rw [hasK_nil, hasK_cons, hasK_nil, Bool.or_false]
    symm; rw [Bool.eq_false_iff]; intro e
    have := mayS_iff.1 (inS_iff.1 e).1
    simp only at this
    exact h ⟨this.1, this.2.2⟩

theorem alive_a : plainL [(5, 7), (1, 2), (3, 4)] = [(1, 7)] := by
  symm
  refine plainL_of ⟨fun s hs => by rw [List.mem_singleton.1 hs]; decide, List.pairwise_singleton _ _⟩ fun k => ?_
  have e1 : mayS (1, 7) = true := by decide
  have e2 : mayS (5, 7) = true := by decide
  have e3 : mayS (1, 2) = true := by decide
  have e4 : mayS (3, 4) = true := by decide
  rw [Bool.eq_iff_iff]
  simp only [hasK_cons, hasK_nil, Bool.or_false, inS, e1, e2, e3, e4, Bool.true_and, Bool.or_eq_true, Bool.and_eq_true, decide_eq_true_eq]
  omega
theorem alive_b : lessL [(1, 9)] [(3, 4)] = [(1, 2), (5, 9)] := by
  have h1 : isPlain [(1, 2), (5, 9)] := ⟨fun s hs => by
    simp only [List.mem_cons, List.not_mem_nil, or_false] at hs
    rcases hs with rfl | rfl <;> decide, by simp⟩
  rw [← plainL_plain h1, lessL_plain]
  refine plainOf_congr fun k _ => ?_
  have e1 : mayS (1, 9) = true := by decide
  have e2 : mayS (5, 9) = true := by decide
  have e3 : mayS (1, 2) = true := by decide
  have e4 : mayS (3, 4) = true := by decide
  rw [Bool.eq_iff_iff]
  simp only [hasK_cons, hasK_nil, Bool.or_false, inS, e1, e2, e3, e4, Bool.true_and, Bool.or_eq_true, Bool.and_eq_true, Bool.not_eq_true', Bool.and_eq_false_iff, decide_eq_true_eq, decide_eq_false_iff_not]
  omega

theorem keysOf_len (f : Nat → Bool) (n : Nat) : (keysOf f n).length = ((List.range n).filter f).length := by simp [keysOf]
theorem keysOf_succ (f : Nat → Bool) (n : Nat) : keysOf f (n + 1) = keysOf f n ++ if f n = true then [(n : Int)] else [] := by
  simp only [keysOf, List.range_succ, List.filter_append, List.map_append]
  by_cases h : f n = true <;> simp [h]
theorem keysOf_more (f : Nat → Bool) {n m : Nat} (h : n ≤ m) : ∃ r, keysOf f m = keysOf f n ++ r := by
  induction m with
  | zero => obtain rfl : n = 0 := by omega
            exact ⟨[], by simp⟩
  | succ m ih =>
    by_cases hn : n = m + 1
    · subst hn; exact ⟨[], by simp⟩
    · obtain ⟨r, e⟩ := ih (by omega)
      exact ⟨r ++ if f m = true then [(m : Int)] else [], by rw [keysOf_succ, e, List.append_assoc]⟩
theorem keysOf_at (f : Nat → Bool) {n m : Nat} (h : n < m) (hf : f n = true) : (keysOf f n).length < (keysOf f m).length ∧ (keysOf f m)[(keysOf f n).length]? = some (n : Int) := by
  obtain ⟨r, e⟩ := keysOf_more f (show n + 1 ≤ m by omega)
  rw [keysOf_succ, if_pos hf] at e
  rw [e]
  simp
theorem keysOf_le (f : Nat → Bool) : ∀ n, (keysOf f n).length ≤ n
  | 0 => Nat.le_refl _
  | n + 1 => by
    have := keysOf_le f n
    rw [keysOf_succ, List.length_append]
    by_cases h : f n = true
    · rw [if_pos h]; simp; omega
    · rw [if_neg h]; simp; omega
theorem keysOf_parts (f g : Nat → Bool) : ∀ n, (keysOf (fun k => f k && g k) n).length + (keysOf (fun k => f k && !g k) n).length = (keysOf f n).length
  | 0 => rfl
  | n + 1 => by
    have ih := keysOf_parts f g n
    rw [keysOf_succ, keysOf_succ, keysOf_succ, List.length_append, List.length_append, List.length_append]
    cases f n <;> cases g n <;> simp <;> omega

theorem allL_plainL (l : List Sp) : allL (plainL l) = keysOf (fun k => hasK l k) 1000 := allL_plainOf _
theorem sizeL_plainL (l : List Sp) : sizeL (plainL l) = ((keysOf (fun k => hasK l k) 1000).length : Nat) := by
  rw [sizeL_all (plainL_isPlain l).1, allL_plainL]
theorem parts_size (a b : List Sp) : sizeL (bothL a b) + sizeL (lessL a b) = sizeL (plainL a) := by
  rw [sizeL_all (l := bothL a b) (plainL_isPlain _).1, sizeL_all (l := lessL a b) (plainL_isPlain _).1, sizeL_all (plainL_isPlain _).1, bothL_plain, lessL_plain, plainL, allL_plainOf, allL_plainOf, allL_plainOf]
  have := keysOf_parts (fun k => hasK a k) (fun k => hasK b k) 1000
  omega
theorem parts_union (a b : List Sp) : plainL (bothL a b ++ lessL a b) = plainL a := plainL_congr fun k => by
  rw [hasK_app, bothL_has, lessL_has]
  cases hasK a k <;> cases hasK b k <;> rfl
theorem parts_apart (a b : List Sp) : meetL (bothL a b) (lessL a b) = false := by
  rw [Bool.eq_false_iff]
  intro e
  obtain ⟨k, _, h1, h2⟩ := (meetL_iff _ _).1 e
  rw [bothL_has, Bool.and_eq_true] at h1
  rw [lessL_has, Bool.and_eq_true, h1.2] at h2
  simp at h2
theorem parts_inside (a b c : List Sp) : insideL c (bothL a b) = (insideL c a && insideL c b) := by
  rw [Bool.eq_iff_iff, Bool.and_eq_true, insideL_iff, insideL_iff, insideL_iff]
  constructor
  · intro h
    refine ⟨fun k hk hc => ?_, fun k hk hc => ?_⟩
    · have := h k hk hc; rw [bothL_has, Bool.and_eq_true] at this; exact this.1
    · have := h k hk hc; rw [bothL_has, Bool.and_eq_true] at this; exact this.2
  · rintro ⟨h1, h2⟩ k hk hc
    rw [bothL_has, h1 k hk hc, h2 k hk hc]; rfl
theorem parts_meet (a b : List Sp) : meetL a b = !(bothL a b).isEmpty := by
  rw [Bool.eq_iff_iff, meetL_iff, Bool.not_eq_true', List.isEmpty_eq_false_iff]
  constructor
  · rintro ⟨k, _, h1, h2⟩ e
    have := bothL_has a b k
    rw [e, h1, h2] at this
    cases this
  · intro h
    have hp : isPlain (bothL a b) := plainL_isPlain _
    cases hl : bothL a b with
    | nil => exact absurd hl h
    | cons s l =>
      rw [hl] at hp
      have q := plain_head hp
      rw [← hl, bothL_has, Bool.and_eq_true] at q
      have r := hasK_range q.1
      have e : ((s.1.toNat : Nat) : Int) = s.1 := by omega
      exact ⟨s.1.toNat, by omega, by rw [e]; exact q.1, by rw [e]; exact q.2⟩
theorem plainL_same (a b : List Sp) : plainL a = plainL b ↔ ∀ k : Nat, k < 1000 → hasK a k = hasK b k :=
  ⟨fun h _ hk => plainOf_inj h hk, fun h => plainOf_congr h⟩
theorem plainL_app (a b : List Sp) : plainL (a ++ b) = plainOf fun k => hasK a k || hasK b k := plainOf_congr fun k _ => hasK_app a b k

/-- How long a plain list may be. -/
theorem plain_len : ∀ {l : List Sp}, isPlain l → ∀ n : Int, (∀ s ∈ l, n ≤ s.1) → n ≤ 1000 → 2 * (l.length : Int) ≤ 1001 - n
  | [], _, n, _, hn => by simp; omega
  | s :: l, h, n, h1, hn => by
    obtain ⟨p1, p2, p3⟩ := isPlain_cons.1 h
    have ms := mayS_iff.1 p1
    have := h1 s (by simp)
    by_cases hl : l = []
    · subst hl; simp; omega
    · obtain ⟨t, ht⟩ := List.exists_mem_of_ne_nil _ hl
      have mt := mayS_iff.1 (p3.1 t ht)
      have := p2 t ht
      have ih := plain_len p3 (s.2 + 2) (fun t ht => by have := p2 t ht; omega) (by omega)
      simp only [List.length_cons]
      omega
theorem plainL_len (l : List Sp) : (plainL l).length ≤ 500 := by
  have := plain_len (plainL_isPlain l) 0 (fun s hs => (mayS_iff.1 ((plainL_isPlain l).1 s hs)).1) (by omega)
  omega
theorem meetsL_len (a b : List Sp) : (meetsL a b).length ≤ a.length * b.length := by
  induction a with
  | nil => simp [meetsL]
  | cons x a ih =>
    have e : meetsL (x :: a) b = ((b.map (meet1 x)).filter fun s => decide (s.1 ≤ s.2)) ++ meetsL a b := rfl
    have h1 : ((b.map (meet1 x)).filter fun s => decide (s.1 ≤ s.2)).length ≤ b.length := by
      have := List.length_filter_le (fun s : Sp => decide (s.1 ≤ s.2)) (b.map (meet1 x))
      rwa [List.length_map] at this
    rw [e, List.length_append, List.length_cons, Nat.add_mul]
    omega
end Go.Proofs

/- What two plain lists have in common, one by one: a function over which one ranges. -/
namespace Go.Proofs
open Go Go.RowKit Go.Am

theorem int_max (a b : Int) : (if a < b then b else a) = max a b := by omega
theorem int_min (a b : Int) : (if b < a then b else a) = min a b := by omega
def okS (s : Sp) : Bool := decide (s.1 ≤ s.2)
def doneL (a b : List Sp) (i j : Nat) : List Sp := meetsL (a.take i) b ++ match a[i]? with
  | some x => ((b.take j).map (meet1 x)).filter okS
  | none => []
theorem meetsL_snoc (a b : List Sp) (x : Sp) : meetsL (a ++ [x]) b = meetsL a b ++ (b.map (meet1 x)).filter okS := by
  simp [meetsL]
  rfl
theorem _root_.Go.Am.HF.al {h h1 : H} {B T : Nat → Prop} (e : HF h h1 B T) (cs : List AV) : HF h (h1.alloc cs) B T := e.trans (HF.alloc _ _ _ _)
theorem _root_.Go.Am.HF.st {h h1 : H} {B T : Nat → Prop} (e : HF h h1 B T) {b : Nat} (hb : h.bn ≤ b) (cs : List AV) : HF h (h1.set b cs) B T :=
  e.trans' (HF.set (B := (· = b)) (fun _ => False) rfl) (fun b' h1 (e : b' = b) => absurd e (by omega)) (fun _ _ h => h.elim)
theorem doneL_step {a b : List Sp} {i j : Nat} (hi : i < a.length) (hj : j < b.length) : doneL a b i (j + 1) = doneL a b i j ++ if okS (meet1 a[i] b[j]) = true then [meet1 a[i] b[j]] else [] := by
  simp only [doneL, List.getElem?_eq_getElem hi]
  rw [List.take_succ_eq_append_getElem hj, List.map_append, List.filter_append, List.append_assoc]
  by_cases h : okS (meet1 a[i] b[j]) = true <;> simp [h]
theorem doneL_zero (a b : List Sp) (i : Nat) : doneL a b i 0 = meetsL (a.take i) b := by
  simp only [doneL]
  cases a[i]? <;> simp
theorem doneL_row {a b : List Sp} {i : Nat} (hi : i < a.length) : doneL a b i b.length = meetsL (a.take (i + 1)) b := by
  simp only [doneL, List.getElem?_eq_getElem hi]
  rw [List.take_succ_eq_append_getElem hi, meetsL_snoc, List.take_length]
theorem meetsL_app (a c b : List Sp) : meetsL (a ++ c) b = meetsL a b ++ meetsL c b := by simp [meetsL]
theorem doneL_more {a b : List Sp} {i j : Nat} (hi : i < a.length) : ∃ r, meetsL a b = doneL a b i j ++ r := by
  refine ⟨((b.drop j).map (meet1 a[i])).filter okS ++ meetsL (a.drop (i + 1)) b, ?_⟩
  have e : meetsL [a[i]] b = ((b.take j).map (meet1 a[i])).filter okS ++ ((b.drop j).map (meet1 a[i])).filter okS := by
    rw [← List.filter_append, ← List.map_append, List.take_append_drop]
    exact meetsL_snoc [] b a[i]
  conv => lhs; rw [← List.take_append_drop i a, List.drop_eq_getElem_cons hi, meetsL_app, show a[i] :: a.drop (i + 1) = [a[i]] ++ a.drop (i + 1) from rfl, meetsL_app, e]
  simp only [doneL, List.getElem?_eq_getElem hi, List.append_assoc]
theorem meets_mem {a b : List Sp} {i j : Nat} (hi : i < a.length) (hj : j < b.length) (h : okS (meet1 a[i] b[j]) = true) : ∃ r, meetsL a b = doneL a b i j ++ meet1 a[i] b[j] :: r := by
  obtain ⟨r, e⟩ := doneL_more (b := b) (j := j + 1) hi
  rw [doneL_step hi hj, if_pos h] at e
  exact ⟨r, by rw [e]; simp⟩

theorem meets_ok (a b : List Sp) (h : H) : CallP Try.prog 100 [encL a, encL b] h fun r h' => r = .fn 116 [] [.ptr h.bn 0, .ptr (h.bn + 1) 0] ∧ h' = (h.alloc [encL a]).alloc [encL b] := by
  refine CallP.run hb100 ok100 (by simp) ?_
  simp -implicitDefEqProofs [encL]

set_option maxHeartbeats 2000000 in
/-- One span after the other, as long as one goes on. -/
theorem meets1_ok (a b : List Sp) (ha : a.length ≤ 1000000) (hb : b.length ≤ 1000000) {l p q : Nat} {h : H} (I : List Sp → H → Prop) (J : H → Prop) (B T : Nat → Prop) (hB : ∀ b, B b → b < h.bn)
    (hI : ∀ d h', I d h' → (p < h'.bn ∧ h'.bx p = some [encL a]) ∧ (q < h'.bn ∧ h'.bx q = some [encL b])) (hM : ∀ d h' h'', I d h' → HF h' h'' (fun _ => False) (fun _ => False) → I d h'')
    (hr : ∀ d s h', I d h' → (∃ r, meetsL a b = d ++ s :: r) → ∀ K : AV → H → Prop, (∀ h'', I (d ++ [s]) h'' → HF h' h'' B T → K (.bool true) h'') → (∀ h'', J h'' → K (.bool false) h'') → callQ Try.prog (.yld l) [.agg (avP s)] h' K)
    (h0 : I [] h) : CallP Try.prog 116 [.yld l, .ptr p 0, .ptr q 0] h fun _ h1 => I (meetsL a b) h1 ∨ J h1 := by
  refine CallP.run hb116 ok116 (by simp) ?_
  obtain ⟨⟨p1, p2⟩, _⟩ := hI _ _ h0
  rw [encL] at p2
  simp -implicitDefEqProofs [p1, p2]
  refine run_loop (fun m s h1 => ∃ i : Nat, m = a.length - i ∧ i ≤ a.length ∧ h.bn ≤ h1.bn ∧ s 0 = .yld l ∧ s 1 = .ptr p 0 ∧ s 2 = .ptr q 0 ∧ s 9 = encL a ∧ s 10 = .int .i64 a.length ∧ s 11 = .int .i64 i ∧ I (meetsL (a.take i) b) h1) ?_ a.length ?_
  rotate_left
  · exact ⟨0, by simp [encL, meetsL]; simpa [meetsL] using h0⟩
  rintro m s h1 ⟨i, hn, hi, hle, s0, s1, s2, s9, s10, s11, hin⟩ ih
  by_cases hli : i < a.length
  · obtain ⟨_, ⟨q1, q2⟩⟩ := hI _ _ hin
    rw [encL] at q2 s9
    have i1 := idxOf_nat (k := .i64) hli
    simp -implicitDefEqProofs [s2, s9, s10, s11, hli, q2, show ¬ q = h1.bn by omega, show q < h1.bn + 1 by omega, avP]
    refine run_loop (fun m s h1' => ∃ j : Nat, m = b.length - j ∧ j ≤ b.length ∧ s 0 = .yld l ∧ s 1 = .ptr p 0 ∧ s 2 = .ptr q 0 ∧ s 9 = encL a ∧ s 10 = .int .i64 a.length ∧ s 11 = .int .i64 i ∧ s 5 = .ptr h1.bn 0 ∧ h1.bn < h1'.bn ∧ h1'.bx h1.bn = some (avP a[i]) ∧ s 15 = encL b ∧ s 16 = .int .i64 b.length ∧ s 17 = .int .i64 j ∧ I (doneL a b i j) h1') ?_ b.length ?_
    rotate_left
    · refine ⟨0, ?_⟩
      rw [doneL_zero]
      simp -implicitDefEqProofs [s0, s1, s2, s9, s10, s11, encL, avP]
      exact hM _ _ _ hin (((HF.refl _ _ _).al _).st (Nat.le_refl _) _)
    rintro m s h2 ⟨j, hn, hj, s0, s1, s2, s9, s10, s11, s5, hb5, hc5, s15, s16, s17, hin⟩ ih2
    by_cases hlj : j < b.length
    · rw [encL] at s15
      rw [avP] at hc5
      have i2 := idxOf_nat (k := .i64) hlj
      have hst := doneL_step (b := b) hli hlj
      have n1 : ¬ h1.bn = h2.bn := by omega
      have n2 : ¬ h1.bn = h2.bn + 1 := by omega
      have n3 : h1.bn < h2.bn + 1 := by omega
      by_cases hok : max a[i].1 b[j].1 ≤ min a[i].2 b[j].2
      · have hok' : okS (meet1 a[i] b[j]) = true := by simp only [okS, meet1, hok, decide_true]
        rw [if_pos hok'] at hst
        simp -implicitDefEqProofs [s0, s5, s15, s16, s17, hlj, hc5, avP, n1, n3, int_max, int_min, hok]
        refine hr _ (meet1 a[i] b[j]) _ (hM _ _ _ hin ?_) (meets_mem hli hlj hok') _ (fun h3 hi3 hf3 => ?_) (fun h3 hj3 => ?_)
        · exact ((((HF.refl _ _ _).al _).st (Nat.le_refl _) _).al _).st (by omega) _
        · have hbn3 := hf3.bn
          have hbx3 := hf3.bx h1.bn (by simp; omega) (fun e => by have := hB _ e; omega)
          simp only [alloc_bn, set_bn] at hbn3
          simp [n1, n2, hc5] at hbx3
          simp -implicitDefEqProofs [s17, inc_i64 hlj (by omega), -Int.natCast_add]
          exact ih2 (b.length - (j + 1)) _ _ (by omega) ⟨j + 1, rfl, by omega, by simp [s0], by simp [s1], by simp [s2], by simp [s9], by simp [s10], by simp [s11], by simp [s5], by omega, by rw [hbx3]; rfl, by simp [s15, encL], by simp [s16], by simp, by rw [hst]; exact hi3⟩
        · simp -implicitDefEqProofs []
          exact Or.inr hj3
      · have hok' : ¬ okS (meet1 a[i] b[j]) = true := by simp only [okS, meet1, hok, decide_false]; simp
        rw [if_neg hok', List.append_nil] at hst
        simp -implicitDefEqProofs [s5, s15, s16, s17, hlj, hc5, avP, n1, n3, int_max, int_min, hok, inc_i64 hlj (by omega), -Int.natCast_add]
        exact ih2 (b.length - (j + 1)) _ _ (by omega) ⟨j + 1, rfl, by omega, by simp [s0], by simp [s1], by simp [s2], by simp [s9], by simp [s10], by simp [s11], by simp [s5], by simp; omega, by simp [n1, n2, hc5, avP], by simp [s15, encL], by simp [s16], by simp, by rw [hst]; exact hM _ _ _ hin (((((HF.refl _ _ _).al _).st (Nat.le_refl _) _).al _).st (by omega) _)⟩
    · obtain rfl : j = b.length := by omega
      simp -implicitDefEqProofs [s11, s16, s17, inc_i64 hli (by omega), -Int.natCast_add]
      refine ih (a.length - (i + 1)) _ _ (by omega) ⟨i + 1, rfl, by omega, by omega, by simp [s0], by simp [s1], by simp [s2], by simp [s9], by simp [s10], by simp, ?_⟩
      rw [doneL_row hli] at hin
      exact hin
  · obtain rfl : i = a.length := by omega
    rw [List.take_length] at hin
    simp -implicitDefEqProofs [s10, s11]
    exact Or.inl hin
end Go.Proofs

/- A sort of a box's spans: what the library's own contract says. -/
namespace Go.Am
open Go Go.RowKit Go.Sort Go.Lib Go.Shelf

section
variable {P : Program} {base : Nat} {W : Nat → Prop} {w : World} {g : G} {h : H}

theorem Sim.ahead (hs : Sim P base W w g h) (n : Nat) : Sim P base W (Sort.ahead w n) g h ∧ Ext base W w g (Sort.ahead w n) g := by
  induction n with
  | zero => exact ⟨hs, Ext.refl base W w g⟩
  | succ n ih =>
    obtain ⟨a, b⟩ := ih.1.drew
    rw [ahead_drew] at a b
    exact ⟨a, ih.2.trans b⟩

theorem grow_at (w : World) (os : Array Obj) {B : Nat} (hB : B < w.heap.size) : (Sort.grow w os).heap[B]? = w.heap[B]? := by
  show (w.heap ++ os)[B]? = _
  rw [Array.getElem?_append_left hB]

theorem Sim.grow (hs : Sim P base W w g h) (os : Array Obj) : Sim P base W (Sort.grow w os) g h ∧ Ext base W w g (Sort.grow w os) g := by
  have hsz : w.heap.size ≤ (Sort.grow w os).heap.size := by
    show _ ≤ (w.heap ++ os).size
    simp
  have e : GExt w g (Sort.grow w os) g := GExt.of_blk hsz (fun _ hB => grow_at w os hB) hs.roB (fun _ _ => rfl) (Nat.le_refl _) (fun _ _ => ⟨rfl, rfl⟩) (Nat.le_refl _) (fun _ _ => rfl) (Nat.le_refl _) (fun _ _ => rfl) (Nat.le_refl _) (fun _ _ => rfl)
  exact ⟨hs.step e hsz (fun _ hB => grow_at w os hB) rfl rfl rfl rfl rfl (fun _ _ => rfl) (fun B hB => hs.roB B (Nat.le_trans hsz hB)), Ext.step hs e rfl rfl rfl (fun _ hB => grow_at w os hB) (fun _ _ => rfl)⟩

theorem flatK_get (d : Array (Int × Int)) {i k : Nat} (hi : i < d.size) (hk : k < 2) : (flatK encP 2 d)[i * 2 + k]! = (encP d[i]!)[k]! := by
  have h1 : (i * 2 + k) / 2 = i := by omega
  have h2 : (i * 2 + k) % 2 = k := by omega
  rw [get_flatK encP 2 d _ (by omega), h1, h2]

/-- The cells of spans, seen from the machine. -/
theorem cell_pair {l : List (Int × Int)} {rest : List AV} {C : Array Value} (hr : RepP w g (flatP l ++ rest) C) {i k : Nat} (hi : i < l.length) (hk : k < 2) : C[i * 2 + k]? = some (encP l[i])[k]! := by
  have hlt : i * 2 + k < (flatP l).length := by rw [flatP_len]; omega
  have hg : (flatP l ++ rest)[i * 2 + k]? = (avP l[i])[k]? := by
    rw [List.getElem?_append_left hlt, flatP_get l i k hk, List.getElem?_eq_getElem hi]
    rfl
  have h2 : k = 0 ∨ k = 1 := by omega
  rcases h2 with rfl | rfl
  · obtain ⟨V, q1, q2, _⟩ := hr.2 _ _ (hg.trans rfl)
    rw [q1, q2.int_inv]
    rfl
  · obtain ⟨V, q1, q2, _⟩ := hr.2 _ _ (hg.trans rfl)
    rw [q1, q2.int_inv]
    rfl

/-- The library's sort of spans, by a function on them. -/
def SortsAt (P : Program) (f g0 : FuncId) : Prop := ∀ (blk cap : Nat) (d : Array (Int × Int)) (w : World), HoldsK encP 2 w blk 0 d → blk < w.heap.size → d.size < 4611686018427387904 →
    Calls P f #[.slice (some ⟨blk, 0, none⟩) d.size cap, .func (.func g0) #[] #[]] w fun e w' => e = .returned (.tuple #[]) ∧ ∃ d' n os, PermIn 0 d.size d d' ∧ SortedIn (fun x y : Int × Int => decide (x.1 < y.1)) 0 d.size d' ∧ w' = Go.Proofs.sortWorldK encP 2 w blk 0 n d' os

theorem sort_call {f g0 : FuncId} (hbody : HasBody P f) (hsort : SortsAt P f g0) {b : Nat} {l : List (Int × Int)} {rest : List AV} (hb : b < h.bn) (hc : h.bx b = some (flatP l ++ rest)) (hl : l.length < 4611686018427387904) :
    CallP P f [.msl b 2 0 l.length, .fn g0 [] []] h fun r h' => r = .tup [] ∧ ∃ l' : List (Int × Int), l'.Perm l ∧ (l'.Pairwise fun x y => x.1 ≤ y.1) ∧ h' = h.set b (flatP l' ++ rest) := by
  refine ⟨hbody, fun base W w g Args hs hA => ?_⟩
  obtain ⟨hAs, hAr⟩ := hA
  have h0 := hAr 0 (by simp)
  have h1 := hAr 1 (by simp)
  simp only [List.length_cons, List.length_nil] at hAs
  have hArgs : Args = #[Args[0], Args[1]] := by
    apply Array.ext
    · simp; omega
    · intro i hi1 hi2
      have : i = 0 ∨ i = 1 := by simp at hi2; omega
      rcases this with rfl | rfl <;> simp
  generalize hA0 : Args[0] = A0 at h0 hArgs
  generalize hA1 : Args[1] = A1 at h1 hArgs
  subst hArgs
  clear hA0 hA1 hAs hAr
  simp only [List.getElem_cons_zero] at h0
  simp only [List.getElem_cons_succ, List.getElem_cons_zero] at h1
  obtain ⟨cap, rfl, hgb, hcap, hbs⟩ := h0.msl_inv
  have hA1 : A1 = .func (.func g0) #[] #[] := by
    cases h1 with
    | fn _ _ _ F C hF hC _ _ =>
      have e1 : F = #[] := Array.eq_empty_of_size_eq_zero hF.symm
      have e2 : C = #[] := Array.eq_empty_of_size_eq_zero hC.symm
      rw [e1, e2]
  subst hA1
  obtain ⟨_, hro, C, T, hC, hrep, hCs⟩ := hs.box b _ hb hc
  have hdl : l.toArray.size = l.length := by simp
  have hcl : ∀ k, w.cell? ⟨g.bx b, k, none⟩ = C[k]? := fun k => by rw [cell_at hC]
  have hH : HoldsK encP 2 w (g.bx b) 0 l.toArray := by
    intro j hj
    rw [size_flatK, hdl] at hj
    have hi : j / 2 < l.length := by omega
    have hj2 : j / 2 * 2 + j % 2 = j := by omega
    have hk2 : j % 2 < 2 := by omega
    have := cell_pair hrep hi hk2
    rw [hj2] at this
    refine ⟨?_, ?_⟩
    · have hf := flatK_get l.toArray (i := j / 2) (k := j % 2) (by rw [hdl]; exact hi) hk2
      rw [hj2] at hf
      rw [Nat.zero_add, hcl, this, id, hf]
      congr 2
      simp [hi]
    · simp only [World.frozen?, hC]
      simp
  have hblk : g.bx b < w.heap.size := heap_lt hC
  refine (hsort (g.bx b) cap l.toArray w hH hblk (by rw [hdl]; exact hl)).mono ?_
  rintro e w' ⟨rfl, d', n, os, hp, hso, rfl⟩
  have hd' : d'.size = l.length := hp.1.trans hdl
  have hF : (flatK encP 2 d').size = l.length * 2 := by rw [size_flatK, hd']
  have hperm : d'.toList.Perm l := by
    have := hp.2.2
    rw [hdl] at this
    have e1 : l.take d'.size = l := List.take_of_length_le (by omega)
    simpa [← hd', Array.extract_size, e1] using this
  have hpl : d'.toList.length = l.length := by simp [hd']
  obtain ⟨hs1, he1⟩ := hs.ahead n
  have hC1 : (Sort.ahead w n).heap[g.bx b]? = some (.cells C T (0, 0)) := hC
  have hw1 : (putRowK encP 2 (Sort.ahead w n) (g.bx b) 0 d').heap[g.bx b]? = some (.cells (putCells id 0 (flatK encP 2 d') C) T (0, 0)) := by
    show (Array.modify _ _ _)[_]? = _
    rw [Array.getElem?_modify, if_pos rfl, hC1]
    rfl
  have hrep1 : RepP (Sort.ahead w n) g (flatP d'.toList ++ rest) (putCells id 0 (flatK encP 2 d') C) := by
    have hr1 := hrep.mono he1.toGExt
    have hgetC : ∀ k, (putCells id 0 (flatK encP 2 d') C)[k]? = (C[k]?).map fun x => if k < l.length * 2 then (flatK encP 2 d')[k]! else x := fun k => by
      rw [putCells, Array.getElem?_mapIdx]
      cases C[k]? with
      | none => rfl
      | some x => simp [hF]
    have hlc := hrep.1
    rw [List.length_append, flatP_len] at hlc
    refine ⟨by rw [List.length_append, flatP_len, hpl]; simp [putCells]; omega, fun k v hk => ?_⟩
    rw [hgetC]
    by_cases hlt : k < l.length * 2
    · have hi : k / 2 < l.length := by omega
      have hk2 : k % 2 < 2 := by omega
      have hj2 : k / 2 * 2 + k % 2 = k := by omega
      rw [List.getElem?_append_left (by rw [flatP_len, hpl]; exact hlt), ← hj2, flatP_get _ _ _ hk2, List.getElem?_eq_getElem (by rw [hpl]; exact hi), Option.bind_some] at hk
      have hf := flatK_get d' (i := k / 2) (k := k % 2) (by rw [hd']; exact hi) hk2
      rw [hj2] at hf
      have hCk : C[k]? = some C[k] := Array.getElem?_eq_getElem (by omega)
      rw [hCk, Option.map_some, if_pos hlt, hf]
      have hde : d'[k / 2]! = d'.toList[k / 2]'(by rw [hpl]; exact hi) := by
        rw [getElem!_pos d' (k / 2) (by rw [hd']; exact hi), Array.getElem_toList]
      rw [hde]
      have h2 : k % 2 = 0 ∨ k % 2 = 1 := by omega
      rcases h2 with e | e <;> rw [e] at hk ⊢ <;> cases hk <;> exact ⟨_, rfl, .int _ _, rfl⟩
    · rw [List.getElem?_append_right (by rw [flatP_len, hpl]; omega), flatP_len, hpl] at hk
      have hk' : (flatP l ++ rest)[k]? = some v := by
        rw [List.getElem?_append_right (by rw [flatP_len]; omega), flatP_len]; exact hk
      obtain ⟨V, q1, q2, q3⟩ := hr1.2 k v hk'
      exact ⟨V, by rw [q1, Option.map_some, if_neg hlt], q2, q3⟩
  obtain ⟨hs2, he2⟩ := hs1.setBox hb hc hrep1 hw1 (by simp [putCells]; exact hCs) (by
    show (Array.modify _ _ _).size = _
    simp) (fun B hB => by
    show (Array.modify _ _ _)[_]? = _
    rw [Array.getElem?_modify, if_neg (fun e => hB e.symm)]) rfl rfl rfl
  obtain ⟨hs3, he3⟩ := hs2.grow os
  refine ⟨.tuple #[], g, .tup [], _, rfl, .tup [] #[] rfl (fun k hk => by simp at hk), hs3, (he1.trans he2).trans he3, rfl, d'.toList, hperm, ?_, rfl⟩
  rw [List.pairwise_iff_getElem]
  intro i j hi hj hij
  have := hso i j (Nat.zero_le _) hij (by rw [hdl, ← hpl]; exact hj)
  rw [getElem!_pos d' i (by simpa using hi), getElem!_pos d' j (by simpa using hj), decide_eq_false_iff_not] at this
  simp only [Array.getElem_toList]
  omega

end
end Go.Am
