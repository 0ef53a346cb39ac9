/- What the functions that the statement reaches do: their contracts; and what follows of it. -/
import Derived.Test.YtdcpendppalkgaaGreatSLintAdvice1
import Derived.Shelf.SlSortCmp.WholeK
import Derived.Test.YtdcpendppalkgaaGreatProg
import Derived.Shelf.SlicesG.Cmp
/- Several lists of spans, one behind the other. -/
namespace Go.Proofs
open Go Go.RowKit Go.Am

def encL (l : List Sp) : AV := .sl .no (l.map avP)
def tot (ls : List (List Sp)) : Nat := ls.flatten.length
theorem tot_succ {ls : List (List Sp)} {j : Nat} (hj : j < ls.length) : tot (ls.take (j + 1)) = tot (ls.take j) + ls[j].length ∧ (ls.take (j + 1)).flatten = (ls.take j).flatten ++ ls[j] := by
  have e : (ls.take (j + 1)).flatten = (ls.take j).flatten ++ ls[j] := by
    rw [List.take_succ_eq_append_getElem hj, List.flatten_append]; simp
  exact ⟨by rw [tot, e, List.length_append]; rfl, e⟩
theorem tot_le (ls : List (List Sp)) (j : Nat) : tot (ls.take j) ≤ tot ls := by
  have e : ls.flatten = (ls.take j).flatten ++ (ls.drop j).flatten := by rw [← List.flatten_append, List.take_append_drop]
  rw [tot, tot, e, List.length_append]; omega
theorem src_P (h : H) (l : List Sp) (t : Tok) : srcA h 2 (.sl t (l.map avP)) = some (l.map avP) := by
  simp only [srcA]
  rw [if_pos avP_len]

set_option maxHeartbeats 1000000 in
theorem concat_ok (ls : List (List Sp)) {h : H} (hn : tot ls ≤ 1000000) (hl : ls.length ≤ 1000000) : CallP Tryz.prog 76 [.sl .no (ls.map fun l => [encL l])] h fun r h' => (ls.flatten = [] ∧ r = .sl .full []) ∨ (∃ b, r = .msl b 2 0 ls.flatten.length ∧ b < h'.bn ∧ h'.bx b = some (flatP ls.flatten)) := by
  refine CallP.run hb76 ok76 (by simp) ?_
  simp -implicitDefEqProofs []
  refine run_loop (fun n s h1 => ∃ j : Nat, n = ls.length - j ∧ j ≤ ls.length ∧ s 0 = .sl .no (ls.map fun l => [encL l]) ∧ s 3 = .int .i64 (tot (ls.take j)) ∧ s 9 = .sl .no (ls.map fun l => [encL l]) ∧ s 10 = .int .i64 ls.length ∧ s 11 = .int .i64 j) ?_ ls.length ?_
  rotate_left
  · exact ⟨0, by simp [tot]⟩
  rintro n s h1 ⟨j, hn, hj, s0, s3, s9, s10, s11⟩ ih
  by_cases hlt : j < ls.length
  · have hle := tot_le ls (j + 1)
    obtain ⟨ht, _⟩ := tot_succ hlt
    have hw : IntKind.i64.wrap ((tot (ls.take j) : Int) + (ls[j].length : Nat)) = (tot (ls.take (j + 1)) : Nat) := by
      rw [wrap_i64 (by omega) (by omega), ht, Int.natCast_add]
    have hneg : ¬ ((tot (ls.take (j + 1)) : Nat) : Int) < 0 := by omega
    have i1 := idxOf_nat (k := .i64) hlt
    simp -implicitDefEqProofs [s9, s10, s11, s3, hlt, encL, hw, hneg, inc_i64 hlt (by omega), -Int.natCast_add]
    exact ih (ls.length - (j + 1)) _ _ (by omega) ⟨j + 1, rfl, by omega, by simp [s0, encL], by simp, by simp [s9, encL], by simp [s10], by simp⟩
  · obtain rfl : j = ls.length := by omega
    rw [List.take_length] at s3
    by_cases h0 : tot ls = 0
    · have hf : ls.flatten = [] := List.length_eq_zero_iff.1 h0
      rw [h0] at s3
      simp -implicitDefEqProofs [s3, s10, s11]
      refine callQ_ex (stay_call Tryz.hbGrow Tryz.staysSpan) ?_
      rintro r h2 ⟨rfl, rfl⟩
      simp -implicitDefEqProofs [s0]
      refine run_loop (fun n s h1 => ∃ j : Nat, n = ls.length - j ∧ j ≤ ls.length ∧ s 6 = .sl .full [] ∧ s 25 = .sl .no (ls.map fun l => [encL l]) ∧ s 26 = .int .i64 ls.length ∧ s 27 = .int .i64 j) ?_ ls.length ?_
      rotate_left
      · exact ⟨0, by simp⟩
      rintro n s h1 ⟨j, hn, hj, s6, s25, s26, s27⟩ ih
      by_cases hlt : j < ls.length
      · have i1 := idxOf_nat (k := .i64) hlt
        have hle := tot_le ls (j + 1)
        obtain ⟨ht, _⟩ := tot_succ hlt
        have hz : ls[j] = [] := List.length_eq_zero_iff.1 (by omega)
        simp -implicitDefEqProofs [s6, s25, s26, s27, hlt, encL, hz]
        refine ⟨_, _, .same _ _ _ (by simp [srcA]), ?_⟩
        simp -implicitDefEqProofs [s27, inc_i64 hlt (by omega), -Int.natCast_add]
        exact ih (ls.length - (j + 1)) _ _ (by omega) ⟨j + 1, rfl, by omega, by simp, by simp [s25, encL], by simp [s26], by simp⟩
      · simp -implicitDefEqProofs [s6, s26, s27, hlt]
        exact fun l hl => List.flatten_eq_nil_iff.1 hf l hl
    · simp -implicitDefEqProofs [s3, s10, s11]
      refine callQ_ex (grow_call Tryz.hbGrow Tryz.growsSpan (n := tot ls) (by omega) (by omega)) ?_
      rintro r h2 ⟨rfl, rfl⟩
      simp -implicitDefEqProofs [s0]
      refine run_loop (fun n s h1 => ∃ (j b : Nat), n = ls.length - j ∧ j ≤ ls.length ∧ s 6 = .msl b 2 0 (tot (ls.take j)) ∧ b < h1.bn ∧ h1.bx b = some (flatP (ls.take j).flatten) ∧ s 25 = .sl .no (ls.map fun l => [encL l]) ∧ s 26 = .int .i64 ls.length ∧ s 27 = .int .i64 j) ?_ ls.length ?_
      rotate_left
      · exact ⟨0, h1.bn, by simp [tot, flatP]⟩
      rintro n s h1 ⟨j, b, hn, hj, s6, hb, hc, s25, s26, s27⟩ ih
      by_cases hlt : j < ls.length
      · have i1 := idxOf_nat (k := .i64) hlt
        have hle := tot_le ls (j + 1)
        obtain ⟨ht, hf⟩ := tot_succ hlt
        simp -implicitDefEqProofs [s6, s25, s26, s27, hlt, encL]
        by_cases hz : ls[j] = []
        · rw [hz] at ht hf
          rw [hz]
          refine ⟨_, _, .sameB _ _ _ _ (by simp [srcA]), ?_⟩
          simp -implicitDefEqProofs [s27, inc_i64 hlt (by omega), -Int.natCast_add]
          exact ih (ls.length - (j + 1)) _ _ (by omega) ⟨j + 1, b, rfl, by omega, by simp [ht], hb, by simp [hc, hf], by simp [s25, encL], by simp [s26], by simp⟩
        · have hp : 0 < ls[j].length := List.length_pos_iff.2 hz
          refine ⟨_, _, .box b (tot (ls.take j)) _ (ls[j].map avP) _ hb hc (by rw [flatP_len, tot]; omega) (src_P _ _ _) (by simpa using hp) (by simp only [List.length_map]; omega), ?_⟩
          simp -implicitDefEqProofs [s27, inc_i64 hlt (by omega), -Int.natCast_add]
          refine ih (ls.length - (j + 1)) _ _ (by omega) ⟨j + 1, h1.bn, rfl, by omega, by simp [ht], by simp [H.kill], ?_, by simp [s25, encL], by simp [s26], by simp⟩
          have e : List.take (tot (ls.take j) * 2) (flatP (ls.take j).flatten) = flatP (ls.take j).flatten := List.take_of_length_le (by rw [flatP_len, tot]; omega)
          simp only [H.alloc, H.kill, if_true, e, hf, flatP_app]
          rfl
      · obtain rfl : j = ls.length := by omega
        rw [List.take_length] at s6 hc
        simp -implicitDefEqProofs [s6, s26, s27]
        exact ⟨b, ⟨rfl, by simp [tot]⟩, hb, hc⟩
end Go.Proofs

/- Sets of keys: what the statements say of them, plainly; no program in sight. -/
namespace Go.Proofs
open Go Go.RowKit Go.Am

/-- How long a plain list may be. -/
theorem plain_len : ∀ {l : List Sp}, isPlain l → ∀ n : Int, (∀ s ∈ l, n ≤ s.1) → n ≤ 1000 → 2 * (l.length : Int) ≤ 1001 - n
  | [], _, n, _, hn => by simp; omega
  | s :: l, h, n, h1, hn => by
    obtain ⟨p1, p2, p3⟩ := isPlain_cons.1 h
    have ms := mayS_iff.1 p1
    have := h1 s (by simp)
    by_cases hl : l = []
    · subst hl; simp; omega
    · obtain ⟨t, ht⟩ := List.exists_mem_of_ne_nil _ hl
      have mt := mayS_iff.1 (p3.1 t ht)
      have := p2 t ht
      have ih := plain_len p3 (s.2 + 2) (fun t ht => by have := p2 t ht; omega) (by omega)
      simp only [List.length_cons]
      omega
theorem plainL_len (l : List Sp) : (plainL l).length ≤ 500 := by
  have := plain_len (plainL_isPlain l) 0 (fun s hs => (mayS_iff.1 ((plainL_isPlain l).1 s hs)).1) (by omega)
  omega
end Go.Proofs

/- What two plain lists have in common, one by one: a function over which one ranges. -/
namespace Go.Proofs
open Go Go.RowKit Go.Am

theorem int_max (a b : Int) : (if a < b then b else a) = max a b := by omega
theorem int_min (a b : Int) : (if b < a then b else a) = min a b := by omega
def okS (s : Sp) : Bool := decide (s.1 ≤ s.2)
def doneL (a b : List Sp) (i j : Nat) : List Sp := meetsL (a.take i) b ++ match a[i]? with
  | some x => ((b.take j).map (meet1 x)).filter okS
  | none => []
theorem meetsL_snoc (a b : List Sp) (x : Sp) : meetsL (a ++ [x]) b = meetsL a b ++ (b.map (meet1 x)).filter okS := by
  simp [meetsL]
  rfl
theorem _root_.Go.Am.HF.al {h h1 : H} {B T : Nat → Prop} (e : HF h h1 B T) (cs : List AV) : HF h (h1.alloc cs) B T := e.trans (HF.alloc _ _ _ _)
theorem _root_.Go.Am.HF.st {h h1 : H} {B T : Nat → Prop} (e : HF h h1 B T) {b : Nat} (hb : h.bn ≤ b) (cs : List AV) : HF h (h1.set b cs) B T :=
  e.trans' (HF.set (B := (· = b)) (fun _ => False) rfl) (fun b' h1 (e : b' = b) => absurd e (by omega)) (fun _ _ h => h.elim)
theorem doneL_step {a b : List Sp} {i j : Nat} (hi : i < a.length) (hj : j < b.length) : doneL a b i (j + 1) = doneL a b i j ++ if okS (meet1 a[i] b[j]) = true then [meet1 a[i] b[j]] else [] := by
  simp only [doneL, List.getElem?_eq_getElem hi]
  rw [List.take_succ_eq_append_getElem hj, List.map_append, List.filter_append, List.append_assoc]
  by_cases h : okS (meet1 a[i] b[j]) = true <;> simp [h]
theorem doneL_zero (a b : List Sp) (i : Nat) : doneL a b i 0 = meetsL (a.take i) b := by
  simp only [doneL]
  cases a[i]? <;> simp
theorem doneL_row {a b : List Sp} {i : Nat} (hi : i < a.length) : doneL a b i b.length = meetsL (a.take (i + 1)) b := by
  simp only [doneL, List.getElem?_eq_getElem hi]
  rw [List.take_succ_eq_append_getElem hi, meetsL_snoc, List.take_length]
theorem meetsL_app (a c b : List Sp) : meetsL (a ++ c) b = meetsL a b ++ meetsL c b := by simp [meetsL]
theorem doneL_more {a b : List Sp} {i j : Nat} (hi : i < a.length) : ∃ r, meetsL a b = doneL a b i j ++ r := by
  refine ⟨((b.drop j).map (meet1 a[i])).filter okS ++ meetsL (a.drop (i + 1)) b, ?_⟩
  have e : meetsL [a[i]] b = ((b.take j).map (meet1 a[i])).filter okS ++ ((b.drop j).map (meet1 a[i])).filter okS := by
    rw [← List.filter_append, ← List.map_append, List.take_append_drop]
    exact meetsL_snoc [] b a[i]
  conv => lhs; rw [← List.take_append_drop i a, List.drop_eq_getElem_cons hi, meetsL_app, show a[i] :: a.drop (i + 1) = [a[i]] ++ a.drop (i + 1) from rfl, meetsL_app, e]
  simp only [doneL, List.getElem?_eq_getElem hi, List.append_assoc]
theorem meets_mem {a b : List Sp} {i j : Nat} (hi : i < a.length) (hj : j < b.length) (h : okS (meet1 a[i] b[j]) = true) : ∃ r, meetsL a b = doneL a b i j ++ meet1 a[i] b[j] :: r := by
  obtain ⟨r, e⟩ := doneL_more (b := b) (j := j + 1) hi
  rw [doneL_step hi hj, if_pos h] at e
  exact ⟨r, by rw [e]; simp⟩

theorem meets_ok (a b : List Sp) (h : H) : CallP Tryz.prog 52 [encL a, encL b] h fun r h' => r = .fn 74 [] [.ptr h.bn 0, .ptr (h.bn + 1) 0] ∧ h' = (h.alloc [encL a]).alloc [encL b] := by
  refine CallP.run hb52 ok52 (by simp) ?_
  simp -implicitDefEqProofs [encL]

set_option maxHeartbeats 2000000 in
/-- One span after the other, as long as one goes on. -/
theorem meets1_ok (a b : List Sp) (ha : a.length ≤ 1000000) (hb : b.length ≤ 1000000) {l p q : Nat} {h : H} (I : List Sp → H → Prop) (J : H → Prop) (B T : Nat → Prop) (hB : ∀ b, B b → b < h.bn)
    (hI : ∀ d h', I d h' → (p < h'.bn ∧ h'.bx p = some [encL a]) ∧ (q < h'.bn ∧ h'.bx q = some [encL b])) (hM : ∀ d h' h'', I d h' → HF h' h'' (fun _ => False) (fun _ => False) → I d h'')
    (hr : ∀ d s h', I d h' → (∃ r, meetsL a b = d ++ s :: r) → ∀ K : AV → H → Prop, (∀ h'', I (d ++ [s]) h'' → HF h' h'' B T → K (.bool true) h'') → (∀ h'', J h'' → K (.bool false) h'') → callQ Tryz.prog (.yld l) [.agg (avP s)] h' K)
    (h0 : I [] h) : CallP Tryz.prog 74 [.yld l, .ptr p 0, .ptr q 0] h fun _ h1 => I (meetsL a b) h1 ∨ J h1 := by
  refine CallP.run hb74 ok74 (by simp) ?_
  obtain ⟨⟨p1, p2⟩, _⟩ := hI _ _ h0
  rw [encL] at p2
  simp -implicitDefEqProofs [p1, p2]
  refine run_loop (fun m s h1 => ∃ i : Nat, m = a.length - i ∧ i ≤ a.length ∧ h.bn ≤ h1.bn ∧ s 0 = .yld l ∧ s 1 = .ptr p 0 ∧ s 2 = .ptr q 0 ∧ s 9 = encL a ∧ s 10 = .int .i64 a.length ∧ s 11 = .int .i64 i ∧ I (meetsL (a.take i) b) h1) ?_ a.length ?_
  rotate_left
  · exact ⟨0, by simp [encL, meetsL]; simpa [meetsL] using h0⟩
  rintro m s h1 ⟨i, hn, hi, hle, s0, s1, s2, s9, s10, s11, hin⟩ ih
  by_cases hli : i < a.length
  · obtain ⟨_, ⟨q1, q2⟩⟩ := hI _ _ hin
    rw [encL] at q2 s9
    have i1 := idxOf_nat (k := .i64) hli
    simp -implicitDefEqProofs [s2, s9, s10, s11, hli, q2, show ¬ q = h1.bn by omega, show q < h1.bn + 1 by omega, avP]
    refine run_loop (fun m s h1' => ∃ j : Nat, m = b.length - j ∧ j ≤ b.length ∧ s 0 = .yld l ∧ s 1 = .ptr p 0 ∧ s 2 = .ptr q 0 ∧ s 9 = encL a ∧ s 10 = .int .i64 a.length ∧ s 11 = .int .i64 i ∧ s 5 = .ptr h1.bn 0 ∧ h1.bn < h1'.bn ∧ h1'.bx h1.bn = some (avP a[i]) ∧ s 15 = encL b ∧ s 16 = .int .i64 b.length ∧ s 17 = .int .i64 j ∧ I (doneL a b i j) h1') ?_ b.length ?_
    rotate_left
    · refine ⟨0, ?_⟩
      rw [doneL_zero]
      simp -implicitDefEqProofs [s0, s1, s2, s9, s10, s11, encL, avP]
      exact hM _ _ _ hin (((HF.refl _ _ _).al _).st (Nat.le_refl _) _)
    rintro m s h2 ⟨j, hn, hj, s0, s1, s2, s9, s10, s11, s5, hb5, hc5, s15, s16, s17, hin⟩ ih2
    by_cases hlj : j < b.length
    · rw [encL] at s15
      rw [avP] at hc5
      have i2 := idxOf_nat (k := .i64) hlj
      have hst := doneL_step (b := b) hli hlj
      have n1 : ¬ h1.bn = h2.bn := by omega
      have n2 : ¬ h1.bn = h2.bn + 1 := by omega
      have n3 : h1.bn < h2.bn + 1 := by omega
      by_cases hok : max a[i].1 b[j].1 ≤ min a[i].2 b[j].2
      · have hok' : okS (meet1 a[i] b[j]) = true := by simp only [okS, meet1, hok, decide_true]
        rw [if_pos hok'] at hst
        simp -implicitDefEqProofs [s0, s5, s15, s16, s17, hlj, hc5, avP, n1, n3, int_max, int_min, hok]
        refine hr _ (meet1 a[i] b[j]) _ (hM _ _ _ hin ?_) (meets_mem hli hlj hok') _ (fun h3 hi3 hf3 => ?_) (fun h3 hj3 => ?_)
        · exact ((((HF.refl _ _ _).al _).st (Nat.le_refl _) _).al _).st (by omega) _
        · have hbn3 := hf3.bn
          have hbx3 := hf3.bx h1.bn (by simp; omega) (fun e => by have := hB _ e; omega)
          simp only [alloc_bn, set_bn] at hbn3
          simp [n1, n2, hc5] at hbx3
          simp -implicitDefEqProofs [s17, inc_i64 hlj (by omega), -Int.natCast_add]
          exact ih2 (b.length - (j + 1)) _ _ (by omega) ⟨j + 1, rfl, by omega, by simp [s0], by simp [s1], by simp [s2], by simp [s9], by simp [s10], by simp [s11], by simp [s5], by omega, by rw [hbx3]; rfl, by simp [s15, encL], by simp [s16], by simp, by rw [hst]; exact hi3⟩
        · simp -implicitDefEqProofs []
          exact Or.inr hj3
      · have hok' : ¬ okS (meet1 a[i] b[j]) = true := by simp only [okS, meet1, hok, decide_false]; simp
        rw [if_neg hok', List.append_nil] at hst
        simp -implicitDefEqProofs [s5, s15, s16, s17, hlj, hc5, avP, n1, n3, int_max, int_min, hok, inc_i64 hlj (by omega), -Int.natCast_add]
        exact ih2 (b.length - (j + 1)) _ _ (by omega) ⟨j + 1, rfl, by omega, by simp [s0], by simp [s1], by simp [s2], by simp [s9], by simp [s10], by simp [s11], by simp [s5], by simp; omega, by simp [n1, n2, hc5, avP], by simp [s15, encL], by simp [s16], by simp, by rw [hst]; exact hM _ _ _ hin (((((HF.refl _ _ _).al _).st (Nat.le_refl _) _).al _).st (by omega) _)⟩
    · obtain rfl : j = b.length := by omega
      simp -implicitDefEqProofs [s11, s16, s17, inc_i64 hli (by omega), -Int.natCast_add]
      refine ih (a.length - (i + 1)) _ _ (by omega) ⟨i + 1, rfl, by omega, by omega, by simp [s0], by simp [s1], by simp [s2], by simp [s9], by simp [s10], by simp, ?_⟩
      rw [doneL_row hli] at hin
      exact hin
  · obtain rfl : i = a.length := by omega
    rw [List.take_length] at hin
    simp -implicitDefEqProofs [s10, s11]
    exact Or.inl hin
end Go.Proofs

/- A sort of a box's spans: what the library's own contract says. -/
namespace Go.Am
open Go Go.RowKit Go.Sort Go.Lib Go.Shelf

section
variable {P : Program} {base : Nat} {W : Nat → Prop} {w : World} {g : G} {h : H}

theorem Sim.ahead (hs : Sim P base W w g h) (n : Nat) : Sim P base W (Sort.ahead w n) g h ∧ Ext base W w g (Sort.ahead w n) g := by
  induction n with
  | zero => exact ⟨hs, Ext.refl base W w g⟩
  | succ n ih =>
    obtain ⟨a, b⟩ := ih.1.drew
    rw [ahead_drew] at a b
    exact ⟨a, ih.2.trans b⟩

theorem grow_at (w : World) (os : Array Obj) {B : Nat} (hB : B < w.heap.size) : (Sort.grow w os).heap[B]? = w.heap[B]? := by
  show (w.heap ++ os)[B]? = _
  rw [Array.getElem?_append_left hB]

theorem Sim.grow (hs : Sim P base W w g h) (os : Array Obj) : Sim P base W (Sort.grow w os) g h ∧ Ext base W w g (Sort.grow w os) g := by
  have hsz : w.heap.size ≤ (Sort.grow w os).heap.size := by
    show _ ≤ (w.heap ++ os).size
    simp
  have e : GExt w g (Sort.grow w os) g := GExt.of_blk hsz (fun _ hB => grow_at w os hB) hs.roB (fun _ _ => rfl) (Nat.le_refl _) (fun _ _ => ⟨rfl, rfl⟩) (Nat.le_refl _) (fun _ _ => rfl) (Nat.le_refl _) (fun _ _ => rfl) (Nat.le_refl _) (fun _ _ => rfl)
  exact ⟨hs.step e hsz (fun _ hB => grow_at w os hB) rfl rfl rfl rfl rfl (fun _ _ => rfl) (fun B hB => hs.roB B (Nat.le_trans hsz hB)), Ext.step hs e rfl rfl rfl (fun _ hB => grow_at w os hB) (fun _ _ => rfl)⟩

theorem flatK_get (d : Array (Int × Int)) {i k : Nat} (hi : i < d.size) (hk : k < 2) : (flatK encP 2 d)[i * 2 + k]! = (encP d[i]!)[k]! := by
  have h1 : (i * 2 + k) / 2 = i := by omega
  have h2 : (i * 2 + k) % 2 = k := by omega
  rw [get_flatK encP 2 d _ (by omega), h1, h2]

/-- The cells of spans, seen from the machine. -/
theorem cell_pair {l : List (Int × Int)} {rest : List AV} {C : Array Value} (hr : RepP w g (flatP l ++ rest) C) {i k : Nat} (hi : i < l.length) (hk : k < 2) : C[i * 2 + k]? = some (encP l[i])[k]! := by
  have hlt : i * 2 + k < (flatP l).length := by rw [flatP_len]; omega
  have hg : (flatP l ++ rest)[i * 2 + k]? = (avP l[i])[k]? := by
    rw [List.getElem?_append_left hlt, flatP_get l i k hk, List.getElem?_eq_getElem hi]
    rfl
  have h2 : k = 0 ∨ k = 1 := by omega
  rcases h2 with rfl | rfl
  · obtain ⟨V, q1, q2, _⟩ := hr.2 _ _ (hg.trans rfl)
    rw [q1, q2.int_inv]
    rfl
  · obtain ⟨V, q1, q2, _⟩ := hr.2 _ _ (hg.trans rfl)
    rw [q1, q2.int_inv]
    rfl

/-- The library's sort of spans, by a function on them. -/
def SortsAt (P : Program) (f g0 : FuncId) : Prop := ∀ (blk cap : Nat) (d : Array (Int × Int)) (w : World), HoldsK encP 2 w blk 0 d → blk < w.heap.size → d.size < 4611686018427387904 →
    Calls P f #[.slice (some ⟨blk, 0, none⟩) d.size cap, .func (.func g0) #[] #[]] w fun e w' => e = .returned (.tuple #[]) ∧ ∃ d' n os, PermIn 0 d.size d d' ∧ SortedIn (fun x y : Int × Int => decide (x.1 < y.1)) 0 d.size d' ∧ w' = Go.Proofs.sortWorldK encP 2 w blk 0 n d' os

theorem sort_call {f g0 : FuncId} (hbody : HasBody P f) (hsort : SortsAt P f g0) {b : Nat} {l : List (Int × Int)} {rest : List AV} (hb : b < h.bn) (hc : h.bx b = some (flatP l ++ rest)) (hl : l.length < 4611686018427387904) :
    CallP P f [.msl b 2 0 l.length, .fn g0 [] []] h fun r h' => r = .tup [] ∧ ∃ l' : List (Int × Int), l'.Perm l ∧ (l'.Pairwise fun x y => x.1 ≤ y.1) ∧ h' = h.set b (flatP l' ++ rest) := by
  refine ⟨hbody, fun base W w g Args hs hA => ?_⟩
  obtain ⟨hAs, hAr⟩ := hA
  have h0 := hAr 0 (by simp)
  have h1 := hAr 1 (by simp)
  simp only [List.length_cons, List.length_nil] at hAs
  have hArgs : Args = #[Args[0], Args[1]] := by
    apply Array.ext
    · simp; omega
    · intro i hi1 hi2
      have : i = 0 ∨ i = 1 := by simp at hi2; omega
      rcases this with rfl | rfl <;> simp
  generalize hA0 : Args[0] = A0 at h0 hArgs
  generalize hA1 : Args[1] = A1 at h1 hArgs
  subst hArgs
  clear hA0 hA1 hAs hAr
  simp only [List.getElem_cons_zero] at h0
  simp only [List.getElem_cons_succ, List.getElem_cons_zero] at h1
  obtain ⟨cap, rfl, hgb, hcap, hbs⟩ := h0.msl_inv
  have hA1 : A1 = .func (.func g0) #[] #[] := by
    cases h1 with
    | fn _ _ _ F C hF hC _ _ =>
      have e1 : F = #[] := Array.eq_empty_of_size_eq_zero hF.symm
      have e2 : C = #[] := Array.eq_empty_of_size_eq_zero hC.symm
      rw [e1, e2]
  subst hA1
  obtain ⟨_, hro, C, T, hC, hrep, hCs⟩ := hs.box b _ hb hc
  have hdl : l.toArray.size = l.length := by simp
  have hcl : ∀ k, w.cell? ⟨g.bx b, k, none⟩ = C[k]? := fun k => by rw [cell_at hC]
  have hH : HoldsK encP 2 w (g.bx b) 0 l.toArray := by
    intro j hj
    rw [size_flatK, hdl] at hj
    have hi : j / 2 < l.length := by omega
    have hj2 : j / 2 * 2 + j % 2 = j := by omega
    have hk2 : j % 2 < 2 := by omega
    have := cell_pair hrep hi hk2
    rw [hj2] at this
    refine ⟨?_, ?_⟩
    · have hf := flatK_get l.toArray (i := j / 2) (k := j % 2) (by rw [hdl]; exact hi) hk2
      rw [hj2] at hf
      rw [Nat.zero_add, hcl, this, id, hf]
      congr 2
      simp [hi]
    · simp only [World.frozen?, hC]
      simp
  have hblk : g.bx b < w.heap.size := heap_lt hC
  refine (hsort (g.bx b) cap l.toArray w hH hblk (by rw [hdl]; exact hl)).mono ?_
  rintro e w' ⟨rfl, d', n, os, hp, hso, rfl⟩
  have hd' : d'.size = l.length := hp.1.trans hdl
  have hF : (flatK encP 2 d').size = l.length * 2 := by rw [size_flatK, hd']
  have hperm : d'.toList.Perm l := by
    have := hp.2.2
    rw [hdl] at this
    have e1 : l.take d'.size = l := List.take_of_length_le (by omega)
    simpa [← hd', Array.extract_size, e1] using this
  have hpl : d'.toList.length = l.length := by simp [hd']
  obtain ⟨hs1, he1⟩ := hs.ahead n
  have hC1 : (Sort.ahead w n).heap[g.bx b]? = some (.cells C T (0, 0)) := hC
  have hw1 : (putRowK encP 2 (Sort.ahead w n) (g.bx b) 0 d').heap[g.bx b]? = some (.cells (putCells id 0 (flatK encP 2 d') C) T (0, 0)) := by
    show (Array.modify _ _ _)[_]? = _
    rw [Array.getElem?_modify, if_pos rfl, hC1]
    rfl
  have hrep1 : RepP (Sort.ahead w n) g (flatP d'.toList ++ rest) (putCells id 0 (flatK encP 2 d') C) := by
    have hr1 := hrep.mono he1.toGExt
    have hgetC : ∀ k, (putCells id 0 (flatK encP 2 d') C)[k]? = (C[k]?).map fun x => if k < l.length * 2 then (flatK encP 2 d')[k]! else x := fun k => by
      rw [putCells, Array.getElem?_mapIdx]
      cases C[k]? with
      | none => rfl
      | some x => simp [hF]
    have hlc := hrep.1
    rw [List.length_append, flatP_len] at hlc
    refine ⟨by rw [List.length_append, flatP_len, hpl]; simp [putCells]; omega, fun k v hk => ?_⟩
    rw [hgetC]
    by_cases hlt : k < l.length * 2
    · have hi : k / 2 < l.length := by omega
      have hk2 : k % 2 < 2 := by omega
      have hj2 : k / 2 * 2 + k % 2 = k := by omega
      rw [List.getElem?_append_left (by rw [flatP_len, hpl]; exact hlt), ← hj2, flatP_get _ _ _ hk2, List.getElem?_eq_getElem (by rw [hpl]; exact hi), Option.bind_some] at hk
      have hf := flatK_get d' (i := k / 2) (k := k % 2) (by rw [hd']; exact hi) hk2
      rw [hj2] at hf
      have hCk : C[k]? = some C[k] := Array.getElem?_eq_getElem (by omega)
      rw [hCk, Option.map_some, if_pos hlt, hf]
      have hde : d'[k / 2]! = d'.toList[k / 2]'(by rw [hpl]; exact hi) := by
        rw [getElem!_pos d' (k / 2) (by rw [hd']; exact hi), Array.getElem_toList]
      rw [hde]
      have h2 : k % 2 = 0 ∨ k % 2 = 1 := by omega
      rcases h2 with e | e <;> rw [e] at hk ⊢ <;> cases hk <;> exact ⟨_, rfl, .int _ _, rfl⟩
    · rw [List.getElem?_append_right (by rw [flatP_len, hpl]; omega), flatP_len, hpl] at hk
      have hk' : (flatP l ++ rest)[k]? = some v := by
        rw [List.getElem?_append_right (by rw [flatP_len]; omega), flatP_len]; exact hk
      obtain ⟨V, q1, q2, q3⟩ := hr1.2 k v hk'
      exact ⟨V, by rw [q1, Option.map_some, if_neg hlt], q2, q3⟩
  obtain ⟨hs2, he2⟩ := hs1.setBox hb hc hrep1 hw1 (by simp [putCells]; exact hCs) (by
    show (Array.modify _ _ _).size = _
    simp) (fun B hB => by
    show (Array.modify _ _ _)[_]? = _
    rw [Array.getElem?_modify, if_neg (fun e => hB e.symm)]) rfl rfl rfl
  obtain ⟨hs3, he3⟩ := hs2.grow os
  refine ⟨.tuple #[], g, .tup [], _, rfl, .tup [] #[] rfl (fun k hk => by simp at hk), hs3, (he1.trans he2).trans he3, rfl, d'.toList, hperm, ?_, rfl⟩
  rw [List.pairwise_iff_getElem]
  intro i j hi hj hij
  have := hso i j (Nat.zero_le _) hij (by rw [hdl, ← hpl]; exact hj)
  rw [getElem!_pos d' i (by simpa using hi), getElem!_pos d' j (by simpa using hj), decide_eq_false_iff_not] at this
  simp only [Array.getElem_toList]
  omega

end
end Go.Am

/- The library's own contracts for a sort of spans, laid at the program; the program's function that compares. PRINTED in its first part by laygen.py, a program of this work. -/
namespace Go.Proofs
open Go Go.RowKit Go.Am Go.Sort Go.Lib Go.Shelf

def sortSpan_ren : Go.Shelf.Ren := ⟨fun | 6 => 79 | 15 => 100 | 14 => 99 | 28 => 113 | 29 => 114 | 20 => 105 | 21 => 106 | 22 => 107 | 23 => 108 | 24 => 109 | 25 => 110 | 26 => 111 | 27 => 112 | 46 => 117 | 47 => 118 | 48 => 119 | 49 => 120 | 50 => 121 | 57 => 124 | n => n, fun | 22 => 51 | 24 => 57 | 25 => 115 | 3 => 3 | 39 => 137 | 0 => 0 | 53 => 153 | 55 => 155 | 4 => 4 | 46 => 146 | 45 => 145 | 50 => 150 | 5 => 5 | 9 => 9 | 66 => 158 | 70 => 162 | 76 => 166 | 77 => 167 | n => n, fun n => n⟩
set_option maxRecDepth 100000 in
set_option maxHeartbeats 4000000 in
theorem sortSpan : SlLaysF0.n6 Tryz.prog sortSpan_ren where
  mixed := by kernel_rfl
  f6 := ⟨"slices.SortFunc[[]gimmal/api.Span,gimmal/api.Span]", by decide, Tryz.func79.trans (congrArg some (by kernel_rfl))⟩
  f14 := ⟨"slices.pdqsortCmpFunc[gimmal/api.Span]", by decide, Tryz.func99.trans (congrArg some (by kernel_rfl))⟩
  f15 := Tryz.func100.trans (congrArg some (by kernel_rfl))
  f20 := ⟨"slices.insertionSortCmpFunc[gimmal/api.Span]", by decide, Tryz.func105.trans (congrArg some (by kernel_rfl))⟩
  f21 := ⟨"slices.heapSortCmpFunc[gimmal/api.Span]", by decide, Tryz.func106.trans (congrArg some (by kernel_rfl))⟩
  f22 := ⟨"slices.breakPatternsCmpFunc[gimmal/api.Span]", by decide, Tryz.func107.trans (congrArg some (by kernel_rfl))⟩
  f23 := ⟨"slices.choosePivotCmpFunc[gimmal/api.Span]", by decide, Tryz.func108.trans (congrArg some (by kernel_rfl))⟩
  f24 := ⟨"slices.reverseRangeCmpFunc[gimmal/api.Span]", by decide, Tryz.func109.trans (congrArg some (by kernel_rfl))⟩
  f25 := ⟨"slices.partialInsertionSortCmpFunc[gimmal/api.Span]", by decide, Tryz.func110.trans (congrArg some (by kernel_rfl))⟩
  f26 := ⟨"slices.partitionEqualCmpFunc[gimmal/api.Span]", by decide, Tryz.func111.trans (congrArg some (by kernel_rfl))⟩
  f27 := ⟨"slices.partitionCmpFunc[gimmal/api.Span]", by decide, Tryz.func112.trans (congrArg some (by kernel_rfl))⟩
  f28 := Tryz.func113.trans (congrArg some (by kernel_rfl))
  f29 := Tryz.func114.trans (congrArg some (by kernel_rfl))
  f46 := ⟨"slices.siftDownCmpFunc[gimmal/api.Span]", by decide, Tryz.func117.trans (congrArg some (by kernel_rfl))⟩
  f47 := Tryz.func118.trans (congrArg some (by kernel_rfl))
  f48 := Tryz.func119.trans (congrArg some (by kernel_rfl))
  f49 := ⟨"slices.medianAdjacentCmpFunc[gimmal/api.Span]", by decide, Tryz.func120.trans (congrArg some (by kernel_rfl))⟩
  f50 := ⟨"slices.medianCmpFunc[gimmal/api.Span]", by decide, Tryz.func121.trans (congrArg some (by kernel_rfl))⟩
  f57 := ⟨"slices.order2CmpFunc[gimmal/api.Span]", by decide, Tryz.func124.trans (congrArg some (by kernel_rfl))⟩
  t0 := Tryz.underlying0
  a0 := Tryz.isAgg0
  z0 := Tryz.sizeOf0
  v0 := Tryz.zeroValue0
  t3 := Tryz.underlying3
  a3 := Tryz.isAgg3
  z3 := Tryz.sizeOf3
  v3 := Tryz.zeroValue3
  t4 := Tryz.underlying4
  a4 := Tryz.isAgg4
  z4 := Tryz.sizeOf4
  v4 := Tryz.zeroValue4
  t5 := Tryz.underlying5
  a5 := Tryz.isAgg5
  z5 := Tryz.sizeOf5
  v5 := Tryz.zeroValue5
  t9 := Tryz.underlying9
  a9 := Tryz.isAgg9
  z9 := Tryz.sizeOf9
  v9 := Tryz.zeroValue9
  t22 := Tryz.underlying51
  a22 := Tryz.isAgg51
  z22 := Tryz.sizeOf51
  v22 := Tryz.zeroValue51
  t25 := Tryz.underlying115
  a25 := Tryz.isAgg115
  z25 := Tryz.sizeOf115
  v25 := Tryz.zeroValue115
  t39 := Tryz.underlying137
  a39 := Tryz.isAgg137
  z39 := Tryz.sizeOf137
  v39 := Tryz.zeroValue137
  t45 := Tryz.underlying145
  a45 := Tryz.isAgg145
  z45 := Tryz.sizeOf145
  v45 := Tryz.zeroValue145
  t46 := Tryz.underlying146
  a46 := Tryz.isAgg146
  z46 := Tryz.sizeOf146
  v46 := Tryz.zeroValue146
  t50 := Tryz.underlying150
  a50 := Tryz.isAgg150
  z50 := Tryz.sizeOf150
  v50 := Tryz.zeroValue150
  t53 := Tryz.underlying153
  a53 := Tryz.isAgg153
  z53 := Tryz.sizeOf153
  v53 := Tryz.zeroValue153
  t55 := Tryz.underlying155
  a55 := Tryz.isAgg155
  z55 := Tryz.sizeOf155
  v55 := Tryz.zeroValue155
  t66 := Tryz.underlying158
  a66 := Tryz.isAgg158
  z66 := Tryz.sizeOf158
  v66 := Tryz.zeroValue158
  t70 := Tryz.underlying162
  a70 := Tryz.isAgg162
  z70 := Tryz.sizeOf162
  v70 := Tryz.zeroValue162
  t76 := Tryz.underlying166
  a76 := Tryz.isAgg166
  z76 := Tryz.sizeOf166
  v76 := Tryz.zeroValue166
  t77 := Tryz.underlying167
  a77 := Tryz.isAgg167
  z77 := Tryz.sizeOf167
  v77 := Tryz.zeroValue167

def cmpInt_ren : Go.Shelf.Ren := ⟨fun | 5 => 81 | 7 => 101 | n => n, fun | 22 => 3 | 3 => 3 | 4 => 4 | n => n, fun n => n⟩
set_option maxRecDepth 100000 in
set_option maxHeartbeats 4000000 in
theorem cmpInt : SlLaysC2.n5 Tryz.prog cmpInt_ren where
  mixed := by kernel_rfl
  f5 := ⟨"cmp.Compare[int]", by decide, Tryz.func81.trans (congrArg some (by kernel_rfl))⟩
  f7 := ⟨"cmp.isNaN[int]", by decide, Tryz.func101.trans (congrArg some (by kernel_rfl))⟩
  t3 := Tryz.underlying3
  a3 := Tryz.isAgg3
  z3 := Tryz.sizeOf3
  v3 := Tryz.zeroValue3
  t4 := Tryz.underlying4
  a4 := Tryz.isAgg4
  z4 := Tryz.sizeOf4
  v4 := Tryz.zeroValue4
  t22 := Tryz.underlying3
  a22 := Tryz.isAgg3
  z22 := Tryz.sizeOf3
  v22 := Tryz.zeroValue3

theorem Tryz.spanLt (x y : Int × Int) : ltOf (fun x y : Int × Int => Lib.compareInt x.1 y.1) x y = decide (x.1 < y.1) := by
  unfold ltOf Lib.compareInt
  by_cases h1 : x.1 < y.1
  · simp [h1]
  · by_cases h2 : y.1 < x.1 <;> simp [h1, h2]

/-- 'cmp.Compare(a.Lo, b.Lo) < 0' is a strict weak order. -/
theorem Tryz.spanSwo : SWO (ltOf fun x y : Int × Int => Lib.compareInt x.1 y.1) where
  irrefl x := by rw [Tryz.spanLt]; simp
  trans x y z h1 h2 := by rw [Tryz.spanLt] at *; simp at *; omega
  ntrans x y z h1 h2 := by rw [Tryz.spanLt] at *; simp at *; omega

set_option maxHeartbeats 1000000 in
/-- The program's function that compares two spans, in whatever world. -/
theorem Tryz.spanCmp (x y : Int × Int) (W : World) : Calls Tryz.prog 80 #[.agg #[.int .i64 x.1, .int .i64 x.2], .agg #[.int .i64 y.1, .int .i64 y.2]] W fun e w' => e = .returned (.int .i64 (Lib.compareInt x.1 y.1)) ∧ ∃ q os', w' = Sort.grow (W.drewN q) os' := by
  have hcon := fun W' => AnyG.cmp_Compare_int cmpInt x.1 y.1 W'
  change ∀ W', Calls Tryz.prog 81 _ _ _ at hcon
  generalize Lib.compareInt x.1 y.1 = r at hcon ⊢
  go_enter Tryz.func80, Tryz.ntmps80
  go_wp2_with (go_at_call 81; refine (hcon _).mono ?_; rintro e w' ⟨rfl, rfl⟩)
  go_ret
  exact ⟨rfl, 0, _, by rw [alloc_eq_grow, alloc_eq_grow, grow_grow]; rfl⟩

theorem Tryz.sortsSpan : SortsAt Tryz.prog 79 80 := fun blk cap d w hH hblk hsz => by
  have eg : ∀ args w, (callFunc 80 args).run Tryz.prog w = .ok (.enter 80 args) w := enters_of Tryz.func80 (by kernel_rfl) rfl
  refine (AnyQ.slices_SortFunc sortSpan 2 Tryz.isAgg57 Tryz.sizeOf57 encP (fun _ => rfl) (fun x v hv => by simp [encP] at hv; rcases hv with rfl | rfl <;> rfl) (fun x y => Lib.compareInt x.1 y.1) Tryz.spanSwo 80 #[] blk 0 cap d w eg (fun _ _ _ _ x y => Tryz.spanCmp x y _) hH hblk hsz).mono ?_
  rintro e w' ⟨rfl, d', n, os, hp, hs, rfl⟩
  refine ⟨rfl, d', n, os, hp, fun i j h1 h2 h3 => ?_, rfl⟩
  have := hs i j h1 h2 h3
  rw [Tryz.spanLt] at this
  exact this
end Go.Proofs

/- The plain list of all spans of some lists. -/
namespace Go.Proofs
open Go Go.RowKit Go.Am

theorem plainL_nil : plainL [] = [] := (plainL_of ⟨fun s hs => (by cases hs), List.Pairwise.nil⟩ fun _ => rfl).symm
theorem pure_encL (l : List Sp) : PureV (encL l) := .sl (fun _ e => by cases e) fun e he => by
  obtain ⟨x, _, rfl⟩ := List.mem_map.1 he
  exact pure_avP x
theorem pure_encLL (ls : List (List Sp)) : PureV (.sl .no (ls.map fun l => [encL l])) := .sl (fun _ e => by cases e) fun e he => by
  obtain ⟨x, _, rfl⟩ := List.mem_map.1 he
  intro v hv
  rw [List.mem_singleton.1 hv]
  exact pure_encL x
theorem wk_encL (l : List Sp) : Am.wk (encL l) = encL l := by
  simp [encL, avP]
theorem flatP_last (o : List Sp) (t : Sp) : List.take 1 (List.drop (o.length * 2 + 1) (flatP (o ++ [t]))) = [.int .i64 t.2] := by
  have e := flatP_len o
  rw [flatP_app, ← e, ← List.drop_drop, List.drop_left]
  rfl
theorem flatP_last_put (o : List Sp) (t : Sp) (v : Int) : (flatP (o ++ [t])).take (o.length * 2 + 1) ++ AV.int .i64 v :: (flatP (o ++ [t])).drop (o.length * 2 + 1 + 1) = flatP (o ++ [(t.1, v)]) := by
  have e := flatP_len o
  rw [flatP_app, flatP_app, ← e, List.take_length_add_append, Nat.add_assoc, ← List.drop_drop, List.drop_left]
  simp [flatP, avP]
theorem plain_last {o : List Sp} {t : Sp} (h : isPlain (o ++ [t])) : 0 ≤ t.2 ∧ t.2 ≤ 999 := by
  have := mayS_iff.1 (isPlain_snoc.1 h).2.1
  omega

theorem chunksP : ∀ l : List Sp, chunks 2 l.length (flatP l) = l.map avP
  | [] => rfl
  | x :: l => by
    rw [flatP_cons, List.length_cons, chunks, List.take_left' (by rfl), List.drop_left' (by rfl), chunksP l]
    rfl
theorem indexNil_ok : PCall Tryz.prog 97 [.sl .no [], .fn 77 [] []] (.int .i64 (-1)) := by
  refine PCall.run hb97 ok97 (by simp) (by intro v hv; simp at hv; rcases hv with rfl | rfl <;> first | exact pure_nilsl | exact .fn (fun _ h => by cases h) (fun _ h => by cases h)) (.int _ _) ?_
  simp -implicitDefEqProofs []
  refine run_loop (fun n s h1 => s 7 = .int .i64 0 ∧ s 8 = .int .i64 0) ?_ 0 ?_
  · rintro m s h1 ⟨h7, h8⟩ ih
    simp -implicitDefEqProofs [h7, h8]
  · simp
theorem deleteNil_ok : PCall Tryz.prog 75 [.sl .no [], .fn 77 [] []] (.sl .no []) := by
  refine PCall.run hb75 ok75 (by simp) (by intro v hv; simp at hv; rcases hv with rfl | rfl <;> first | exact pure_nilsl | exact .fn (fun _ h => by cases h) (fun _ h => by cases h)) pure_nilsl ?_
  simp -implicitDefEqProofs []
  refine callQ_p indexNil_ok (by simp) ?_
  simp -implicitDefEqProofs []

set_option maxHeartbeats 2000000 in
theorem plain_ok (ls : List (List Sp)) (hn : tot ls ≤ 1000000) (hl : ls.length ≤ 1000000) : PCall Tryz.prog 53 [.sl .no (ls.map fun l => [encL l])] (encL (plainL ls.flatten)) := by
  refine PCall.run' hb53 ok53 (by simp) (pures1 (pure_encLL ls)) (pure_encL _) (wk_encL _) ?_
  simp -implicitDefEqProofs []
  refine callQ_c (concat_ok ls hn hl) (by simp [wk_encL]) ?_
  rintro r h1 (⟨hz, rfl⟩ | ⟨b, rfl, hb, hc⟩)
  · simp -implicitDefEqProofs []
    refine callQ_p deleteNil_ok (by simp) ?_
    simp -implicitDefEqProofs []
    refine callQ_p sortNil_ok (by simp) ?_
    simp -implicitDefEqProofs []
    refine run_loop (fun n s h1 => s 14 = .int .i64 0 ∧ s 15 = .int .i64 0 ∧ s 4 = .sl .full []) ?_ 0 ?_
    · rintro m s h1 ⟨h14, h15, h4⟩ ih
      simp -implicitDefEqProofs [h14, h15, h4]
      rw [hz, plainL_nil]
      exact ⟨_, .weak (fun _ _ _ h => h.wk) (.refl _ _)⟩
    · simp
  · simp -implicitDefEqProofs []
    refine callQ_c (delete_ok (rest := []) hb (by rw [List.append_nil]; exact hc) (by rw [tot] at hn; exact hn)) (by simp) ?_
    rintro r h2 ⟨rest, rfl, hb2, hc2⟩
    generalize hfl : ls.flatten.filter mayS = fl at hc2 ⊢
    have hfn : fl.length ≤ 1000000 := by
      rw [← hfl]; exact Nat.le_trans (List.length_filter_le _ _) hn
    simp -implicitDefEqProofs []
    refine callQ_c (sort_call hb79 Tryz.sortsSpan hb2 hc2 (by omega)) (by simp) ?_
    rintro r h3 ⟨rfl, l', hp, hso, rfl⟩
    have hpl : l'.length = fl.length := hp.length_eq
    have hres : mrg l' = plainL ls.flatten := mrg_plain (by rw [hfl]; exact hp) hso
    have hmay : ∀ s ∈ l', mayS s = true := fun s hs => by
      have := hp.mem_iff.1 hs
      rw [← hfl] at this
      exact (List.mem_filter.1 this).2
    rw [← hres]
    simp -implicitDefEqProofs []
    refine run_loop (fun n s h => ∃ (j : Nat) (o : List Sp), n = fl.length - j ∧ j ≤ fl.length ∧ o = mrg (l'.take j) ∧ s 13 = .msl b 2 0 fl.length ∧ s 14 = .int .i64 fl.length ∧ s 15 = .int .i64 j ∧ b < h.bn ∧ h.bx b = some (flatP l' ++ rest) ∧
      ((o = [] ∧ s 4 = .sl .full []) ∨ (∃ c, s 4 = .msl c 2 0 o.length ∧ o ≠ [] ∧ ¬ c = b ∧ c < h.bn ∧ h.bx c = some (flatP o)))) ?_ fl.length ?_
    rotate_left
    · exact ⟨0, [], by simp [mrg, hb2]⟩
    rintro n s h ⟨j, o, hn, hj, ho, s13, s14, s15, hb, hc, hout⟩ ih
    by_cases hlt : j < fl.length
    · have hlt' : j < l'.length := by omega
      have f1 := flatP_at (rest := rest) hlt'
      have f2 : j * 2 + 2 ≤ (flatP l' ++ rest).length := by rw [List.length_append, flatP_len]; omega
      have i1 := idxOf_nat (k := .i64) hlt
      have hbne : ¬ b = h.bn := by omega
      have hmj : mrg (l'.take (j + 1)) = mrg1 o l'[j] := by
        rw [List.take_succ_eq_append_getElem hlt', mrg_snoc, ho]
      have hoP : isPlain o ∧ o.length ≤ 1000000 := by
        have q : (∀ s ∈ l'.take j, mayS s = true) := fun s hs => hmay s (List.mem_of_mem_take hs)
        have q2 : (l'.take j).Pairwise fun x y => x.1 ≤ y.1 := hso.sublist (List.take_sublist _ _)
        obtain ⟨q3, _, _⟩ := mrg_ok _ (l'.take j) rfl q q2
        rw [← ho] at q3
        refine ⟨q3, ?_⟩
        have := plainL_len o
        rw [plainL_plain q3] at this
        omega
      simp -implicitDefEqProofs [s13, s14, s15, hlt, hb, hc, f1, f2, -unCells, -List.length_append, avP]
      rcases hout with ⟨rfl, s4⟩ | ⟨c, s4, hne, hcb, hc1, hc2⟩
      · simp -implicitDefEqProofs [s4]
        refine run_dreg c53_d9 ?_
        simp -implicitDefEqProofs [s4]
        refine ⟨_, _, .newbox [] [avP l'[j]] _ (by simp) (by simp [srcA, avP]) (by simp) (by simp), ?_⟩
        simp -implicitDefEqProofs [s15, inc_i64 hlt (by omega), -Int.natCast_add]
        refine ih (fl.length - (j + 1)) _ _ (by omega) ⟨j + 1, _, rfl, by omega, hmj.symm, by simp [s13], by simp [s14], by simp, by simp; omega, by simp [hbne, hc, show ¬ b = h.bn + 1 by omega], ?_⟩
        exact .inr ⟨h.bn + 1, by simp [mrg1], by simp [mrg1], by omega, by simp, by simp [mrg1, flatP]⟩
      · rcases List.eq_nil_or_concat o with e | ⟨o', t, e⟩
        · subst e
          exact absurd rfl hne
        · rw [List.concat_eq_append] at e
          subst e
          have ht := plain_last hoP.1
          have hol := hoP.2
          rw [List.length_append, List.length_singleton] at hol
          have w1 : IntKind.i64.wrap (o'.length : Nat) = (o'.length : Nat) := wrap_i64 (by omega) (by omega)
          have w2 : IntKind.i64.wrap (t.2 + 1) = t.2 + 1 := wrap_i64 (by omega) (by omega)
          have g1 := flatP_last o' t
          have g2 : (flatP (o' ++ [t])).length = (o'.length + 1) * 2 := by rw [flatP_len]; simp
          have g3 : o'.length * 2 + 1 + 1 ≤ (o'.length + 1) * 2 := by omega
          have g5 : (o'.length : Int) < (o'.length : Int) + 1 := by omega
          have hch : ¬ c = h.bn := by omega
          have hc3 : c < h.bn + 1 := by omega
          simp -implicitDefEqProofs [s4]
          refine run_dreg c53_d9 ?_
          rw [mrg1_snoc] at hmj
          by_cases hle : l'[j].1 ≤ t.2 + 1
          · rw [if_pos hle] at hmj
            have g4 := flatP_last_put o' t (max t.2 l'[j].2)
            simp -implicitDefEqProofs [s4, hc2, w1, w2, g1, g2, g3, g5, hch, hc3, hle]
            refine run_dreg c53_d10 ?_
            simp -implicitDefEqProofs [s4, hc2, w1, g1, g2, g3, hch, hc3, int_max, g4, s15, inc_i64 hlt (by omega), -Int.natCast_add]
            refine ih (fl.length - (j + 1)) _ _ (by omega) ⟨j + 1, _, rfl, by omega, hmj.symm, by simp [s13], by simp [s14], by simp, by simp; omega, by simp [hbne, hc, show ¬ b = c by omega], ?_⟩
            exact .inr ⟨c, by simp [s4], by simp, by omega, by simp; omega, by simp []⟩
          · rw [if_neg hle] at hmj
            simp -implicitDefEqProofs [s4, hc2, w1, w2, g1, g2, g3, g5, hch, hc3, hle]
            refine ⟨_, _, .box c (o'.length + 1) (flatP (o' ++ [t])) [avP l'[j]] _ (by simpa using hc3) (by simp [hch, hc2]) (by rw [g2]; omega) (by simp [srcA, avP]) (by simp) (by simp only [List.length_cons, List.length_nil]; omega), ?_⟩
            have g6 : List.take ((o'.length + 1) * 2) (flatP (o' ++ [t])) = flatP (o' ++ [t]) := List.take_of_length_le (by omega)
            simp -implicitDefEqProofs [s15, inc_i64 hlt (by omega), -Int.natCast_add]
            refine ih (fl.length - (j + 1)) _ _ (by omega) ⟨j + 1, _, rfl, by omega, hmj.symm, by simp [s13], by simp [s14], by simp, by simp [H.kill]; omega, ?_, ?_⟩
            · simp [H.kill, hbne, hc, show ¬ b = c by omega, show ¬ b = h.bn + 1 by omega]
            · refine .inr ⟨h.bn + 1, by simp [], by simp, by omega, by simp [H.kill], ?_⟩
              simp only [alloc_bx, alloc_bn, set_bn, H.kill, if_true, g6]
              rw [flatP_app (o' ++ [t])]
              rfl
    · obtain rfl : j = fl.length := by omega
      have e : l'.take fl.length = l' := List.take_of_length_le (by omega)
      rw [e] at ho
      subst ho
      simp -implicitDefEqProofs [s14, s15]
      rcases hout with ⟨e0, s4⟩ | ⟨c, s4, hne, hcb, hc1, hc2⟩
      · simp -implicitDefEqProofs [s4]
        rw [e0]
        exact ⟨_, .weak (fun _ _ _ h => h.wk) (.refl _ _)⟩
      · simp -implicitDefEqProofs [s4]
        have := Gh.msl (z := 2) (n := (mrg l').length) hc1 hc2 (by omega) (by rw [flatP_len]; omega)
        rw [chunksP] at this
        exact ⟨_, this⟩
end Go.Proofs
