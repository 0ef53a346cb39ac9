/- What the functions that the statement reaches do: their contracts; and what follows of it. -/
import Derived.Test.YtaepkklbckgbhabSClassFoot8
import Derived.Test.YtaepkklbckgbhabProg
import Derived.Shelf.SlicesG.Cmp
/- The library's own contracts for a sort of spans, laid at the program; the program's function that compares. PRINTED in its first part by laygen.py, a program of this work. -/
namespace Go.Proofs
open Go Go.RowKit Go.Am Go.Sort Go.Lib Go.Shelf

def sortSpan_ren : Go.Shelf.Ren := ⟨fun | 6 => 93 | 15 => 112 | 14 => 111 | 28 => 126 | 29 => 127 | 20 => 118 | 21 => 119 | 22 => 120 | 23 => 121 | 24 => 122 | 25 => 123 | 26 => 124 | 27 => 125 | 46 => 128 | 47 => 129 | 48 => 130 | 49 => 131 | 50 => 132 | 57 => 133 | n => n, fun | 22 => 28 | 24 => 69 | 25 => 134 | 3 => 3 | 39 => 121 | 0 => 0 | 53 => 163 | 55 => 95 | 4 => 4 | 46 => 157 | 45 => 156 | 50 => 118 | 5 => 5 | 9 => 9 | 66 => 165 | 70 => 169 | 76 => 171 | 77 => 172 | n => n, fun n => n⟩
set_option maxRecDepth 100000 in
set_option maxHeartbeats 4000000 in
theorem sortSpan : SlLaysF0.n6 Try.prog sortSpan_ren where
  mixed := by kernel_rfl
  f6 := ⟨"slices.SortFunc[[]gimmal/api.Span,gimmal/api.Span]", by decide, Try.func93.trans (congrArg some (by kernel_rfl))⟩
  f14 := ⟨"slices.pdqsortCmpFunc[gimmal/api.Span]", by decide, Try.func111.trans (congrArg some (by kernel_rfl))⟩
  f15 := Try.func112.trans (congrArg some (by kernel_rfl))
  f20 := ⟨"slices.insertionSortCmpFunc[gimmal/api.Span]", by decide, Try.func118.trans (congrArg some (by kernel_rfl))⟩
  f21 := ⟨"slices.heapSortCmpFunc[gimmal/api.Span]", by decide, Try.func119.trans (congrArg some (by kernel_rfl))⟩
  f22 := ⟨"slices.breakPatternsCmpFunc[gimmal/api.Span]", by decide, Try.func120.trans (congrArg some (by kernel_rfl))⟩
  f23 := ⟨"slices.choosePivotCmpFunc[gimmal/api.Span]", by decide, Try.func121.trans (congrArg some (by kernel_rfl))⟩
  f24 := ⟨"slices.reverseRangeCmpFunc[gimmal/api.Span]", by decide, Try.func122.trans (congrArg some (by kernel_rfl))⟩
  f25 := ⟨"slices.partialInsertionSortCmpFunc[gimmal/api.Span]", by decide, Try.func123.trans (congrArg some (by kernel_rfl))⟩
  f26 := ⟨"slices.partitionEqualCmpFunc[gimmal/api.Span]", by decide, Try.func124.trans (congrArg some (by kernel_rfl))⟩
  f27 := ⟨"slices.partitionCmpFunc[gimmal/api.Span]", by decide, Try.func125.trans (congrArg some (by kernel_rfl))⟩
  f28 := Try.func126.trans (congrArg some (by kernel_rfl))
  f29 := Try.func127.trans (congrArg some (by kernel_rfl))
  f46 := ⟨"slices.siftDownCmpFunc[gimmal/api.Span]", by decide, Try.func128.trans (congrArg some (by kernel_rfl))⟩
  f47 := Try.func129.trans (congrArg some (by kernel_rfl))
  f48 := Try.func130.trans (congrArg some (by kernel_rfl))
  f49 := ⟨"slices.medianAdjacentCmpFunc[gimmal/api.Span]", by decide, Try.func131.trans (congrArg some (by kernel_rfl))⟩
  f50 := ⟨"slices.medianCmpFunc[gimmal/api.Span]", by decide, Try.func132.trans (congrArg some (by kernel_rfl))⟩
  f57 := ⟨"slices.order2CmpFunc[gimmal/api.Span]", by decide, Try.func133.trans (congrArg some (by kernel_rfl))⟩
  t0 := Try.underlying0
  a0 := Try.isAgg0
  z0 := Try.sizeOf0
  v0 := Try.zeroValue0
  t3 := Try.underlying3
  a3 := Try.isAgg3
  z3 := Try.sizeOf3
  v3 := Try.zeroValue3
  t4 := Try.underlying4
  a4 := Try.isAgg4
  z4 := Try.sizeOf4
  v4 := Try.zeroValue4
  t5 := Try.underlying5
  a5 := Try.isAgg5
  z5 := Try.sizeOf5
  v5 := Try.zeroValue5
  t9 := Try.underlying9
  a9 := Try.isAgg9
  z9 := Try.sizeOf9
  v9 := Try.zeroValue9
  t22 := Try.underlying28
  a22 := Try.isAgg28
  z22 := Try.sizeOf28
  v22 := Try.zeroValue28
  t25 := Try.underlying134
  a25 := Try.isAgg134
  z25 := Try.sizeOf134
  v25 := Try.zeroValue134
  t39 := Try.underlying121
  a39 := Try.isAgg121
  z39 := Try.sizeOf121
  v39 := Try.zeroValue121
  t45 := Try.underlying156
  a45 := Try.isAgg156
  z45 := Try.sizeOf156
  v45 := Try.zeroValue156
  t46 := Try.underlying157
  a46 := Try.isAgg157
  z46 := Try.sizeOf157
  v46 := Try.zeroValue157
  t50 := Try.underlying118
  a50 := Try.isAgg118
  z50 := Try.sizeOf118
  v50 := Try.zeroValue118
  t53 := Try.underlying163
  a53 := Try.isAgg163
  z53 := Try.sizeOf163
  v53 := Try.zeroValue163
  t55 := Try.underlying95
  a55 := Try.isAgg95
  z55 := Try.sizeOf95
  v55 := Try.zeroValue95
  t66 := Try.underlying165
  a66 := Try.isAgg165
  z66 := Try.sizeOf165
  v66 := Try.zeroValue165
  t70 := Try.underlying169
  a70 := Try.isAgg169
  z70 := Try.sizeOf169
  v70 := Try.zeroValue169
  t76 := Try.underlying171
  a76 := Try.isAgg171
  z76 := Try.sizeOf171
  v76 := Try.zeroValue171
  t77 := Try.underlying172
  a77 := Try.isAgg172
  z77 := Try.sizeOf172
  v77 := Try.zeroValue172

def cmpInt_ren : Go.Shelf.Ren := ⟨fun | 5 => 95 | 7 => 113 | n => n, fun | 22 => 3 | 3 => 3 | 4 => 4 | n => n, fun n => n⟩
set_option maxRecDepth 100000 in
set_option maxHeartbeats 4000000 in
theorem cmpInt : SlLaysC2.n5 Try.prog cmpInt_ren where
  mixed := by kernel_rfl
  f5 := ⟨"cmp.Compare[int]", by decide, Try.func95.trans (congrArg some (by kernel_rfl))⟩
  f7 := ⟨"cmp.isNaN[int]", by decide, Try.func113.trans (congrArg some (by kernel_rfl))⟩
  t3 := Try.underlying3
  a3 := Try.isAgg3
  z3 := Try.sizeOf3
  v3 := Try.zeroValue3
  t4 := Try.underlying4
  a4 := Try.isAgg4
  z4 := Try.sizeOf4
  v4 := Try.zeroValue4
  t22 := Try.underlying3
  a22 := Try.isAgg3
  z22 := Try.sizeOf3
  v22 := Try.zeroValue3

theorem Try.spanLt (x y : Int × Int) : ltOf (fun x y : Int × Int => Lib.compareInt x.1 y.1) x y = decide (x.1 < y.1) := by
  unfold ltOf Lib.compareInt
  by_cases h1 : x.1 < y.1
  · simp [h1]
  · by_cases h2 : y.1 < x.1 <;> simp [h1, h2]

/-- 'cmp.Compare(a.Lo, b.Lo) < 0' is a strict weak order. -/
theorem Try.spanSwo : SWO (ltOf fun x y : Int × Int => Lib.compareInt x.1 y.1) where
  irrefl x := by rw [Try.spanLt]; simp
  trans x y z h1 h2 := by rw [Try.spanLt] at *; simp at *; omega
  ntrans x y z h1 h2 := by rw [Try.spanLt] at *; simp at *; omega

set_option maxHeartbeats 1000000 in
/-- The program's function that compares two spans, in whatever world. -/
theorem Try.spanCmp (x y : Int × Int) (W : World) : Calls Try.prog 94 #[.agg #[.int .i64 x.1, .int .i64 x.2], .agg #[.int .i64 y.1, .int .i64 y.2]] W fun e w' => e = .returned (.int .i64 (Lib.compareInt x.1 y.1)) ∧ ∃ q os', w' = Sort.grow (W.drewN q) os' := by
  have hcon := fun W' => AnyG.cmp_Compare_int cmpInt x.1 y.1 W'
  change ∀ W', Calls Try.prog 95 _ _ _ at hcon
  generalize Lib.compareInt x.1 y.1 = r at hcon ⊢
  go_enter Try.func94, Try.ntmps94
  go_wp2_with (go_at_call 95; refine (hcon _).mono ?_; rintro e w' ⟨rfl, rfl⟩)
  go_ret
  exact ⟨rfl, 0, _, by rw [alloc_eq_grow, alloc_eq_grow, grow_grow]; rfl⟩

theorem Try.sortsSpan : SortsAt Try.prog 93 94 := fun blk cap d w hH hblk hsz => by
  have eg : ∀ args w, (callFunc 94 args).run Try.prog w = .ok (.enter 94 args) w := enters_of Try.func94 (by kernel_rfl) rfl
  refine (AnyQ.slices_SortFunc sortSpan 2 Try.isAgg69 Try.sizeOf69 encP (fun _ => rfl) (fun x v hv => by simp [encP] at hv; rcases hv with rfl | rfl <;> rfl) (fun x y => Lib.compareInt x.1 y.1) Try.spanSwo 94 #[] blk 0 cap d w eg (fun _ _ _ _ x y => Try.spanCmp x y _) hH hblk hsz).mono ?_
  rintro e w' ⟨rfl, d', n, os, hp, hs, rfl⟩
  refine ⟨rfl, d', n, os, hp, fun i j h1 h2 h3 => ?_, rfl⟩
  have := hs i j h1 h2 h3
  rw [Try.spanLt] at this
  exact this
end Go.Proofs

/- The plain list of all spans of some lists. -/
namespace Go.Proofs
open Go Go.RowKit Go.Am

theorem plainL_nil : plainL [] = [] := (plainL_of ⟨fun s hs => (by cases hs), List.Pairwise.nil⟩ fun _ => rfl).symm
theorem pure_encL (l : List Sp) : PureV (encL l) := .sl (fun _ e => by cases e) fun e he => by
  obtain ⟨x, _, rfl⟩ := List.mem_map.1 he
  exact pure_avP x
theorem pure_encLL (ls : List (List Sp)) : PureV (.sl .no (ls.map fun l => [encL l])) := .sl (fun _ e => by cases e) fun e he => by
  obtain ⟨x, _, rfl⟩ := List.mem_map.1 he
  intro v hv
  rw [List.mem_singleton.1 hv]
  exact pure_encL x
theorem wk_encL (l : List Sp) : Am.wk (encL l) = encL l := by
  simp [encL, avP]
theorem flatP_last (o : List Sp) (t : Sp) : List.take 1 (List.drop (o.length * 2 + 1) (flatP (o ++ [t]))) = [.int .i64 t.2] := by
  have e := flatP_len o
  rw [flatP_app, ← e, ← List.drop_drop, List.drop_left]
  rfl
theorem flatP_last_put (o : List Sp) (t : Sp) (v : Int) : (flatP (o ++ [t])).take (o.length * 2 + 1) ++ AV.int .i64 v :: (flatP (o ++ [t])).drop (o.length * 2 + 1 + 1) = flatP (o ++ [(t.1, v)]) := by
  have e := flatP_len o
  rw [flatP_app, flatP_app, ← e, List.take_length_add_append, Nat.add_assoc, ← List.drop_drop, List.drop_left]
  simp [flatP, avP]
theorem plain_last {o : List Sp} {t : Sp} (h : isPlain (o ++ [t])) : 0 ≤ t.2 ∧ t.2 ≤ 999 := by
  have := mayS_iff.1 (isPlain_snoc.1 h).2.1
  omega

theorem chunksP : ∀ l : List Sp, chunks 2 l.length (flatP l) = l.map avP
  | [] => rfl
  | x :: l => by
    rw [flatP_cons, List.length_cons, chunks, List.take_left' (by rfl), List.drop_left' (by rfl), chunksP l]
    rfl
theorem indexNil_ok : PCall Try.prog 109 [.sl .no [], .fn 91 [] []] (.int .i64 (-1)) := by
  refine PCall.run hb109 ok109 (by simp) (by intro v hv; simp at hv; rcases hv with rfl | rfl <;> first | exact pure_nilsl | exact .fn (fun _ h => by cases h) (fun _ h => by cases h)) (.int _ _) ?_
  simp -implicitDefEqProofs []
  refine run_loop (fun n s h1 => s 7 = .int .i64 0 ∧ s 8 = .int .i64 0) ?_ 0 ?_
  · rintro m s h1 ⟨h7, h8⟩ ih
    simp -implicitDefEqProofs [h7, h8]
  · simp
theorem deleteNil_ok : PCall Try.prog 89 [.sl .no [], .fn 91 [] []] (.sl .no []) := by
  refine PCall.run hb89 ok89 (by simp) (by intro v hv; simp at hv; rcases hv with rfl | rfl <;> first | exact pure_nilsl | exact .fn (fun _ h => by cases h) (fun _ h => by cases h)) pure_nilsl ?_
  simp -implicitDefEqProofs []
  refine callQ_p indexNil_ok (by simp) ?_
  simp -implicitDefEqProofs []

set_option maxHeartbeats 2000000 in
theorem plain_ok (ls : List (List Sp)) (hn : tot ls ≤ 1000000) (hl : ls.length ≤ 1000000) : PCall Try.prog 64 [.sl .no (ls.map fun l => [encL l])] (encL (plainL ls.flatten)) := by
  refine PCall.run' hb64 ok64 (by simp) (pures1 (pure_encLL ls)) (pure_encL _) (wk_encL _) ?_
  simp -implicitDefEqProofs []
  refine callQ_c (concat_ok ls hn hl) (by simp [wk_encL]) ?_
  rintro r h1 (⟨hz, rfl⟩ | ⟨b, rfl, hb, hc⟩)
  · simp -implicitDefEqProofs []
    refine callQ_p deleteNil_ok (by simp) ?_
    simp -implicitDefEqProofs []
    refine callQ_p sortNil_ok (by simp) ?_
    simp -implicitDefEqProofs []
    refine run_loop (fun n s h1 => s 14 = .int .i64 0 ∧ s 15 = .int .i64 0 ∧ s 4 = .sl .full []) ?_ 0 ?_
    · rintro m s h1 ⟨h14, h15, h4⟩ ih
      simp -implicitDefEqProofs [h14, h15, h4]
      rw [hz, plainL_nil]
      exact ⟨_, .weak (fun _ _ _ h => h.wk) (.refl _ _)⟩
    · simp
  · simp -implicitDefEqProofs []
    refine callQ_c (delete_ok (rest := []) hb (by rw [List.append_nil]; exact hc) (by rw [tot] at hn; exact hn)) (by simp) ?_
    rintro r h2 ⟨rest, rfl, hb2, hc2⟩
    generalize hfl : ls.flatten.filter mayS = fl at hc2 ⊢
    have hfn : fl.length ≤ 1000000 := by
      rw [← hfl]; exact Nat.le_trans (List.length_filter_le _ _) hn
    simp -implicitDefEqProofs []
    refine callQ_c (sort_call hb93 Try.sortsSpan hb2 hc2 (by omega)) (by simp) ?_
    rintro r h3 ⟨rfl, l', hp, hso, rfl⟩
    have hpl : l'.length = fl.length := hp.length_eq
    have hres : mrg l' = plainL ls.flatten := mrg_plain (by rw [hfl]; exact hp) hso
    have hmay : ∀ s ∈ l', mayS s = true := fun s hs => by
      have := hp.mem_iff.1 hs
      rw [← hfl] at this
      exact (List.mem_filter.1 this).2
    rw [← hres]
    simp -implicitDefEqProofs []
    refine run_loop (fun n s h => ∃ (j : Nat) (o : List Sp), n = fl.length - j ∧ j ≤ fl.length ∧ o = mrg (l'.take j) ∧ s 13 = .msl b 2 0 fl.length ∧ s 14 = .int .i64 fl.length ∧ s 15 = .int .i64 j ∧ b < h.bn ∧ h.bx b = some (flatP l' ++ rest) ∧
      ((o = [] ∧ s 4 = .sl .full []) ∨ (∃ c, s 4 = .msl c 2 0 o.length ∧ o ≠ [] ∧ ¬ c = b ∧ c < h.bn ∧ h.bx c = some (flatP o)))) ?_ fl.length ?_
    rotate_left
    · exact ⟨0, [], by simp [mrg, hb2]⟩
    rintro n s h ⟨j, o, hn, hj, ho, s13, s14, s15, hb, hc, hout⟩ ih
    by_cases hlt : j < fl.length
    · have hlt' : j < l'.length := by omega
      have f1 := flatP_at (rest := rest) hlt'
      have f2 : j * 2 + 2 ≤ (flatP l' ++ rest).length := by rw [List.length_append, flatP_len]; omega
      have i1 := idxOf_nat (k := .i64) hlt
      have hbne : ¬ b = h.bn := by omega
      have hmj : mrg (l'.take (j + 1)) = mrg1 o l'[j] := by
        rw [List.take_succ_eq_append_getElem hlt', mrg_snoc, ho]
      have hoP : isPlain o ∧ o.length ≤ 1000000 := by
        have q : (∀ s ∈ l'.take j, mayS s = true) := fun s hs => hmay s (List.mem_of_mem_take hs)
        have q2 : (l'.take j).Pairwise fun x y => x.1 ≤ y.1 := hso.sublist (List.take_sublist _ _)
        obtain ⟨q3, _, _⟩ := mrg_ok _ (l'.take j) rfl q q2
        rw [← ho] at q3
        refine ⟨q3, ?_⟩
        have := plainL_len o
        rw [plainL_plain q3] at this
        omega
      simp -implicitDefEqProofs [s13, s14, s15, hlt, hb, hc, f1, f2, -unCells, -List.length_append, avP]
      rcases hout with ⟨rfl, s4⟩ | ⟨c, s4, hne, hcb, hc1, hc2⟩
      · simp -implicitDefEqProofs [s4]
        refine run_dreg c64_d9 ?_
        simp -implicitDefEqProofs [s4]
        refine ⟨_, _, .newbox [] [avP l'[j]] _ (by simp) (by simp [srcA, avP]) (by simp) (by simp), ?_⟩
        simp -implicitDefEqProofs [s15, inc_i64 hlt (by omega), -Int.natCast_add]
        refine ih (fl.length - (j + 1)) _ _ (by omega) ⟨j + 1, _, rfl, by omega, hmj.symm, by simp [s13], by simp [s14], by simp, by simp; omega, by simp [hbne, hc, show ¬ b = h.bn + 1 by omega], ?_⟩
        exact .inr ⟨h.bn + 1, by simp [mrg1], by simp [mrg1], by omega, by simp, by simp [mrg1, flatP]⟩
      · rcases List.eq_nil_or_concat o with e | ⟨o', t, e⟩
        · subst e
          exact absurd rfl hne
        · rw [List.concat_eq_append] at e
          subst e
          have ht := plain_last hoP.1
          have hol := hoP.2
          rw [List.length_append, List.length_singleton] at hol
          have w1 : IntKind.i64.wrap (o'.length : Nat) = (o'.length : Nat) := wrap_i64 (by omega) (by omega)
          have w2 : IntKind.i64.wrap (t.2 + 1) = t.2 + 1 := wrap_i64 (by omega) (by omega)
          have g1 := flatP_last o' t
          have g2 : (flatP (o' ++ [t])).length = (o'.length + 1) * 2 := by rw [flatP_len]; simp
          have g3 : o'.length * 2 + 1 + 1 ≤ (o'.length + 1) * 2 := by omega
          have g5 : (o'.length : Int) < (o'.length : Int) + 1 := by omega
          have hch : ¬ c = h.bn := by omega
          have hc3 : c < h.bn + 1 := by omega
          simp -implicitDefEqProofs [s4]
          refine run_dreg c64_d9 ?_
          rw [mrg1_snoc] at hmj
          by_cases hle : l'[j].1 ≤ t.2 + 1
          · rw [if_pos hle] at hmj
            have g4 := flatP_last_put o' t (max t.2 l'[j].2)
            simp -implicitDefEqProofs [s4, hc2, w1, w2, g1, g2, g3, g5, hch, hc3, hle]
            refine run_dreg c64_d10 ?_
            simp -implicitDefEqProofs [s4, hc2, w1, g1, g2, g3, hch, hc3, int_max, g4, s15, inc_i64 hlt (by omega), -Int.natCast_add]
            refine ih (fl.length - (j + 1)) _ _ (by omega) ⟨j + 1, _, rfl, by omega, hmj.symm, by simp [s13], by simp [s14], by simp, by simp; omega, by simp [hbne, hc, show ¬ b = c by omega], ?_⟩
            exact .inr ⟨c, by simp [s4], by simp, by omega, by simp; omega, by simp []⟩
          · rw [if_neg hle] at hmj
            simp -implicitDefEqProofs [s4, hc2, w1, w2, g1, g2, g3, g5, hch, hc3, hle]
            refine ⟨_, _, .box c (o'.length + 1) (flatP (o' ++ [t])) [avP l'[j]] _ (by simpa using hc3) (by simp [hch, hc2]) (by rw [g2]; omega) (by simp [srcA, avP]) (by simp) (by simp only [List.length_cons, List.length_nil]; omega), ?_⟩
            have g6 : List.take ((o'.length + 1) * 2) (flatP (o' ++ [t])) = flatP (o' ++ [t]) := List.take_of_length_le (by omega)
            simp -implicitDefEqProofs [s15, inc_i64 hlt (by omega), -Int.natCast_add]
            refine ih (fl.length - (j + 1)) _ _ (by omega) ⟨j + 1, _, rfl, by omega, hmj.symm, by simp [s13], by simp [s14], by simp, by simp [H.kill]; omega, ?_, ?_⟩
            · simp [H.kill, hbne, hc, show ¬ b = c by omega, show ¬ b = h.bn + 1 by omega]
            · refine .inr ⟨h.bn + 1, by simp [], by simp, by omega, by simp [H.kill], ?_⟩
              simp only [alloc_bx, alloc_bn, set_bn, H.kill, if_true, g6]
              rw [flatP_app (o' ++ [t])]
              rfl
    · obtain rfl : j = fl.length := by omega
      have e : l'.take fl.length = l' := List.take_of_length_le (by omega)
      rw [e] at ho
      subst ho
      simp -implicitDefEqProofs [s14, s15]
      rcases hout with ⟨e0, s4⟩ | ⟨c, s4, hne, hcb, hc1, hc2⟩
      · simp -implicitDefEqProofs [s4]
        rw [e0]
        exact ⟨_, .weak (fun _ _ _ h => h.wk) (.refl _ _)⟩
      · simp -implicitDefEqProofs [s4]
        have := Gh.msl (z := 2) (n := (mrg l').length) hc1 hc2 (by omega) (by rw [flatP_len]; omega)
        rw [chunksP] at this
        exact ⟨_, this⟩
end Go.Proofs

/- The document's sets of keys: what its functions say. -/
namespace Go.Am
open Go Go.RowKit
/-- A pointer to a box that no longer turns. -/
theorem Gh.rop {h : H} {b : Nat} {cs : List AV} (hb : b < h.bn) (hc : h.bx b = some cs) : Gh h (.ptr b 0) (h.kill b) (.rop cs) := by
  refine .frz b cs hb hc (fun w g V hro hr => ?_) (.refl _ _)
  cases hr with
  | ptr b o h1 =>
    have key : ∀ k (hk : k < cs.length), ∃ U, k < g.ro (g.bx b) ∧ w.cell? ⟨g.bx b, k, none⟩ = some U ∧ Rep w g cs[k] U ∧ ok1 cs[k] = true := fun k hk => hro k _ (List.getElem?_eq_getElem hk)
    refine Rep.rop cs ⟨g.bx b, 0, none⟩ (fun k => if hk : k < cs.length then Classical.choose (key k hk) else .nilFunc) (fun k hk => ?_) (fun k hk => ?_) (fun k hk => ?_)
    · obtain ⟨q1, q2, _⟩ := Classical.choose_spec (key k hk)
      refine ⟨g.bx b, 0, rfl, by rw [Nat.zero_add]; exact q1, ?_⟩
      rw [dif_pos hk, Nat.zero_add]
      exact q2
    · rw [dif_pos hk]
      exact (Classical.choose_spec (key k hk)).2.2.1
    · exact (Classical.choose_spec (key k hk)).2.2.2
theorem HF.kl {h h1 : H} {B T : Nat → Prop} (e : HF h h1 B T) {b : Nat} (hb : h.bn ≤ b) : HF h (h1.kill b) B T :=
  ⟨e.bn, fun b' h1 hn => by
    have : b' ≠ b := by omega
    simp only [H.kill, if_neg this]
    exact e.bx b' h1 hn, e.tn, e.tk, e.ln, e.lp, e.mn, e.mp⟩
end Go.Am
namespace Go.Proofs
open Go Go.RowKit Go.Am

def setA (f : Nat → Bool) : List AV := (List.range 1000).map fun k => .bool (f k)
@[simp] theorem setA_len (f : Nat → Bool) : (setA f).length = 1000 := by simp only [setA, List.length_map, List.length_range]
theorem setA_get (f : Nat → Bool) {k : Nat} (hk : k < 1000) : (setA f)[k]? = some (.bool (f k)) := by
  rw [setA, List.getElem?_map, List.getElem?_range hk]; rfl
theorem setA_at (f : Nat → Bool) {k : Nat} (hk : k < 1000) : List.take 1 (List.drop k (setA f)) = [.bool (f k)] := by
  have h := setA_get f hk
  obtain ⟨hk', e⟩ := List.getElem?_eq_some_iff.1 h
  rw [List.drop_eq_getElem_cons hk', e]
  rfl
theorem setA_put (f : Nat → Bool) {k : Nat} (hk : k < 1000) (v : Bool) : List.take k (setA f) ++ .bool v :: List.drop (k + 1) (setA f) = setA fun i => if i = k then v else f i := by
  have e : setA (fun i => if i = k then v else f i) = (setA f).set k (.bool v) := by
    apply List.ext_getElem?
    intro i
    rw [List.getElem?_set]
    by_cases h : k = i
    · subst h
      rw [if_pos rfl, if_pos (by rw [setA_len]; exact hk), setA_get _ hk, if_pos rfl]
    · rw [if_neg h]
      by_cases hi : i < 1000
      · rw [setA_get _ hi, setA_get _ hi, if_neg (fun e => h e.symm)]
      · rw [List.getElem?_eq_none (by rw [setA_len]; omega), List.getElem?_eq_none (by rw [setA_len]; omega)]
  rw [e, List.set_eq_take_append_cons_drop, if_pos (by rw [setA_len]; exact hk)]
theorem setA_zero : List.replicate 1000 (AV.bool false) = setA fun _ => false := by
  apply List.ext_getElem?
  intro i
  by_cases hi : i < 1000
  · rw [setA_get _ hi, List.getElem?_replicate, if_pos hi]
  · rw [List.getElem?_eq_none (by rw [List.length_replicate]; omega), List.getElem?_eq_none (by rw [setA_len]; omega)]
theorem setA_congr {f g : Nat → Bool} (h : ∀ k, k < 1000 → f k = g k) : setA f = setA g := by
  apply List.ext_getElem?
  intro i
  by_cases hi : i < 1000
  · rw [setA_get _ hi, setA_get _ hi, h i hi]
  · rw [List.getElem?_eq_none (by rw [setA_len]; omega), List.getElem?_eq_none (by rw [setA_len]; omega)]
theorem pure_setA (f : Nat → Bool) : ∀ v ∈ setA f, PureV v := by
  intro v hv
  obtain ⟨k, _, rfl⟩ := List.mem_map.1 hv
  exact .bool _
theorem wk_setA (f : Nat → Bool) : (setA f).map wk = setA f := by simp [setA]
/-- A set, as the document has it. -/
def setP (f : Nat → Bool) : AV := .rop (setA f)
theorem pure_setP (f : Nat → Bool) : PureV (setP f) := .rop (pure_setA f)
theorem wk_setP (f : Nat → Bool) : Am.wk (setP f) = setP f := by simp [setP, wk_setA]

def upTo (l : List Sp) (lo k : Int) (i : Nat) : Bool := hasK l i || (decide (lo ≤ i) && decide ((i : Int) < k))

set_option maxHeartbeats 1000000 in
theorem refOf_ok (l : List Sp) (hl : l.length ≤ 1000000) : PCall Try.prog 70 [encL l] (setP fun k => hasK l k) := by
  refine PCall.run' hb70 ok70 (by simp) (pures1 (pure_encL l)) (pure_setP _) (wk_setP _) ?_
  simp -implicitDefEqProofs [-List.reduceReplicate, setA_zero, H.nil]
  refine run_loop (fun n s h => ∃ i : Nat, n = l.length - i ∧ i ≤ l.length ∧ s 0 = encL l ∧ s 3 = .ptr 0 0 ∧ s 4 = .int .i64 i ∧ 0 < h.bn ∧ h.bx 0 = some (setA fun k => hasK (l.take i) k)) ?_ l.length ?_
  rotate_left
  · exact ⟨0, by simp [encL, hasK_nil]⟩
  rintro n s h ⟨i, hn, hi, s0, s3, s4, hb, hc⟩ ih
  by_cases hlt : i < l.length
  · rw [encL] at s0
    have i1 := idxOf_nat (k := .i64) hlt
    have hnext : ∀ k, hasK (l.take (i + 1)) k = (hasK (l.take i) k || inS l[i] k) := fun k => by
      rw [List.take_succ_eq_append_getElem hlt, hasK_app, hasK_cons, hasK_nil, Bool.or_false]
    have hskip : mayS l[i] = false → ∀ k : Nat, hasK (l.take (i + 1)) k = hasK (l.take i) k := fun hm k => by
      rw [hnext, inS, hm]; simp
    have hgo : ∀ s1 h1, s1 0 = encL l → s1 3 = .ptr 0 0 → s1 4 = .int .i64 (i + 1 : Nat) → 0 < h1.bn → h1.bx 0 = some (setA fun k => hasK (l.take (i + 1)) k) → Run Try.prog false [.lp c70_l12, .blk 0, .c (.seq (.reg c70_r13) .ret)] (retQ [.t 2] fun r' h1 => ∃ h', Gh h1 r' h' (setP fun k => hasK l k)) s1 h1 := fun s1 h1 q0 q3 q4 q5 q6 =>
      ih (l.length - (i + 1)) _ _ (by omega) ⟨i + 1, rfl, by omega, q0, q3, q4, q5, q6⟩
    by_cases h1 : l[i].1 < 0
    · have hm : mayS l[i] = false := by rw [Bool.eq_false_iff]; intro e; have := mayS_iff.1 e; omega
      simp -implicitDefEqProofs [s0, s4, hlt, avP, h1, inc_i64 hlt (by omega), -Int.natCast_add]
      refine hgo _ _ (by simp [s0, encL]) (by simp [s3]) (by simp) hb (by rw [hc]; exact congrArg some (setA_congr fun k _ => (hskip hm k).symm))
    · by_cases h2 : 999 < l[i].2
      · have hm : mayS l[i] = false := by rw [Bool.eq_false_iff]; intro e; have := mayS_iff.1 e; omega
        simp -implicitDefEqProofs [s0, s4, hlt, avP, h1, h2, inc_i64 hlt (by omega), -Int.natCast_add]
        refine hgo _ _ (by simp [s0, encL]) (by simp [s3]) (by simp) hb (by rw [hc]; exact congrArg some (setA_congr fun k _ => (hskip hm k).symm))
      · simp -implicitDefEqProofs [s0, s4, hlt, avP, h1, h2]
        refine run_loop (fun n s h => ∃ k : Int, n = (l[i].2 + 1 - k).toNat ∧ l[i].1 ≤ k ∧ (k ≤ l[i].2 + 1 ∨ k = l[i].1) ∧ s 0 = encL l ∧ s 3 = .ptr 0 0 ∧ s 4 = .int .i64 i ∧ s 5 = .int .i64 k ∧ 0 < h.bn ∧ h.bx 0 = some (setA (upTo (l.take i) l[i].1 k))) ?_ (l[i].2 + 1 - l[i].1).toNat ?_
        rotate_left
        · refine ⟨l[i].1, rfl, Int.le_refl _, .inr rfl, by simp [s0, encL], by simp [s3], by simp [s4], by simp, hb, ?_⟩
          rw [hc]
          refine congrArg some (setA_congr fun k _ => ?_)
          simp only [upTo]
          rw [show (decide (l[i].1 ≤ (k : Int)) && decide ((k : Int) < l[i].1)) = false by simp, Bool.or_false]
        rintro n s h ⟨k, hn, hk1, hk2, s0, s3, s4, s5, hb, hc⟩ ih2
        rw [encL] at s0
        by_cases hle : k ≤ l[i].2
        · obtain ⟨m, rfl⟩ : ∃ m : Nat, k = m := ⟨k.toNat, by omega⟩
          have hm : m < 1000 := by omega
          have i2 := idxOf_nat (k := .i64) hm
          have hp := setA_put (upTo (l.take i) l[i].1 m) hm true
          simp -implicitDefEqProofs [s0, s3, s4, s5, hlt, hle, avP, hb, hc, hp, show m + 1 ≤ 1000 by omega, show (m : Int) < 1000 by omega, inc_i64 hm (by omega), -Int.natCast_add]
          refine ih2 (l[i].2 + 1 - ((m + 1 : Nat) : Int)).toNat _ _ (by omega) ⟨((m + 1 : Nat) : Int), rfl, by omega, .inl (by omega), by simp [s0, encL], by simp [s3], by simp [s4], by simp, by simpa using hb, ?_⟩
          simp only [set_bx, if_true]
          refine congrArg some (setA_congr fun j _ => ?_)
          by_cases hj : j = m
          · subst hj
            simp only [upTo]
            rw [show decide (l[i].1 ≤ (j : Int)) = true from decide_eq_true (by omega), show decide ((j : Int) < ((j + 1 : Nat) : Int)) = true from decide_eq_true (by omega)]
            simp
          · simp only [upTo]
            have e : decide ((j : Int) < ((m + 1 : Nat) : Int)) = decide ((j : Int) < (m : Int)) := by
              rw [Bool.eq_iff_iff, decide_eq_true_eq, decide_eq_true_eq]
              omega
            rw [e, show decide (j = m) = false from decide_eq_false hj, Bool.false_or]
        · simp -implicitDefEqProofs [s0, s4, s5, hlt, hle, avP, inc_i64 hlt (by omega), -Int.natCast_add]
          refine hgo _ _ (by simp [s0, encL]) (by simp [s3]) (by simp) hb ?_
          rw [hc]
          refine congrArg some (setA_congr fun j _ => ?_)
          rw [hnext]
          simp only [upTo]
          congr 1
          rw [Bool.eq_iff_iff, inS_iff, mayS_iff, Bool.and_eq_true, decide_eq_true_eq, decide_eq_true_eq]
          omega
  · obtain rfl : i = l.length := by omega
    rw [List.take_length] at hc
    simp -implicitDefEqProofs [s0, s3, s4, encL]
    exact ⟨_, Gh.rop hb hc⟩
end Go.Proofs

/- The document's sets of keys: the plain list of a set; the same; a key in common. -/
namespace Go.Proofs
open Go Go.RowKit Go.Am

set_option maxHeartbeats 1000000 in
theorem refPlain_ok (f : Nat → Bool) : PCall Try.prog 24 [setP f] (encL (plainOf f)) := by
  refine PCall.run' hb24 ok24 (by simp) (pures1 (pure_setP f)) (pure_encL _) (wk_encL _) ?_
  simp -implicitDefEqProofs []
  refine run_loop (fun n s h => ∃ k : Nat, n = 1000 - k ∧ k ≤ 1000 ∧ s 0 = setP f ∧ s 4 = .int .i64 k ∧ ((plainTo f k = [] ∧ s 3 = .sl .full []) ∨ (∃ c, plainTo f k ≠ [] ∧ s 3 = .msl c 2 0 (plainTo f k).length ∧ c < h.bn ∧ h.bx c = some (flatP (plainTo f k))))) ?_ 1000 ?_
  rotate_left
  · exact ⟨0, by simp [plainTo]⟩
  rintro n s h ⟨k, hn, hk, s0, s4, hout⟩ ih
  by_cases hlt : k < 1000
  · have hki : (k : Int) < 1000 := by omega
    have i1 := idxOf_nat (k := .i64) hlt
    have g1 := setA_at f hlt
    have g2 : 1 ≤ 1000 - k := by omega
    have g3 : k + 1 ≤ 1000 := by omega
    have hst : plainTo f (k + 1) = if f k then (if 0 < k ∧ f (k - 1) = true then extL (plainTo f k) k else plainTo f k ++ [((k : Int), (k : Int))]) else plainTo f k := rfl
    cases hf : f k with
    | false =>
      rw [hf] at g1 hst
      rw [if_neg (by simp)] at hst
      simp -implicitDefEqProofs [s0, s4, hki, setP, g1, g2, inc_i64 hlt (by omega), -Int.natCast_add]
      refine ih (1000 - (k + 1)) _ _ (by omega) ⟨k + 1, rfl, by omega, by simp [s0, setP], by simp, ?_⟩
      rw [hst]
      simpa using hout
    | true =>
      rw [hf] at g1 hst
      rw [if_pos rfl] at hst
      by_cases hp : 0 < k ∧ f (k - 1) = true
      · rw [if_pos hp] at hst
        obtain ⟨o, t, e, ht⟩ := plainTo_snoc f k hk hp
        rcases hout with ⟨e0, _⟩ | ⟨c, hne, s3, hc1, hc2⟩
        · rw [e0] at e; simp at e
        rw [e, extL_snoc] at hst
        rw [e] at s3 hc2
        have hl : o.length + 1 ≤ 1000000 := by
          have := (plainTo_ok f k hk).1
          have h2 := plainL_len (plainTo f k)
          rw [plainL_plain this, e, List.length_append, List.length_singleton] at h2
          omega
        have hk0 := hp.1
        have hkm : IntKind.i64.wrap ((k : Int) - 1) = ((k - 1 : Nat) : Int) := by rw [wrap_i64 (by omega) (by omega)]; omega
        have i2 := idxOf_nat (k := .i64) (show k - 1 < 1000 by omega)
        have g4 := setA_at f (show k - 1 < 1000 by omega)
        rw [hp.2] at g4
        have w1 : IntKind.i64.wrap (((o.length + 1 : Nat) : Int) - 1) = (o.length : Nat) := by rw [wrap_i64 (by omega) (by omega)]; omega
        have g5 : (o.length : Int) < ((o.length + 1 : Nat) : Int) := by omega
        have g6 : (flatP (o ++ [t])).length = (o.length + 1) * 2 := by rw [flatP_len]; simp
        have g7 : o.length * 2 + 1 + 1 ≤ (o.length + 1) * 2 := by omega
        have g8 := flatP_last_put o t (k : Int)
        simp -implicitDefEqProofs [s0, s3, s4, hki, hk0, hkm, setP, g1, g2, g4, w1, g5, g6, g7, g8, hc1, hc2, show 1 ≤ 1000 - (k - 1) by omega, show ((k - 1 : Nat) : Int) < 1000 by omega, inc_i64 hlt (by omega), -Int.natCast_add]
        refine ih (1000 - (k + 1)) _ _ (by omega) ⟨k + 1, rfl, by omega, by simp [s0, setP], by simp, ?_⟩
        rw [hst]
        exact .inr ⟨c, by simp, by simp [s3], by simpa using hc1, by simp⟩
      · rw [if_neg hp] at hst
        have hb2 : 0 < k ∧ f (k - 1) = false ∨ ¬ 0 < k := by
          by_cases h0 : 0 < k
          · exact .inl ⟨h0, by rw [Bool.eq_false_iff]; exact fun h => hp ⟨by omega, h⟩⟩
          · exact .inr h0
        have happ : ∀ K : AV → H → Prop, (∀ c h1, c < h1.bn → h1.bx c = some (flatP (plainTo f (k + 1))) → K (.msl c 2 0 (plainTo f (k + 1)).length) h1) → appQ h 2 16 (s 3) (.sl .full [[.int .i64 k, .int .i64 k]]) K := by
          intro K hK
          rcases hout with ⟨e0, s3⟩ | ⟨c, hne, s3, hc1, hc2⟩
          · rw [e0] at hst
            rw [s3]
            have q := hK h.bn (h.alloc (flatP [((k : Int), (k : Int))])) (by simp) (by rw [hst]; simp)
            rw [hst] at q
            exact ⟨_, _, .newbox [] [avP ((k : Int), (k : Int))] _ (by simp) (by simp [srcA, avP]) (by simp) (by simp), q⟩
          · rw [s3]
            have hl : (plainTo f k).length ≤ 1000000 := by
              have := (plainTo_ok f k hk).1
              have h2 := plainL_len (plainTo f k)
              rw [plainL_plain this] at h2
              omega
            have g6 : List.take ((plainTo f k).length * 2) (flatP (plainTo f k)) = flatP (plainTo f k) := List.take_of_length_le (by rw [flatP_len]; omega)
            have q := hK h.bn ((h.kill c).alloc (flatP (plainTo f (k + 1)))) (by simp [H.kill]) (by simp [H.kill])
            rw [hst, List.length_append, flatP_app] at q
            rw [← g6] at q
            exact ⟨_, _, .box c (plainTo f k).length (flatP (plainTo f k)) [avP ((k : Int), (k : Int))] _ hc1 hc2 (by rw [flatP_len]; omega) (by simp [srcA, avP]) (by simp) (by simp only [List.length_cons, List.length_nil]; omega), q⟩
        have hne : plainTo f (k + 1) ≠ [] := by rw [hst]; simp
        rcases hb2 with ⟨h0, hp2⟩ | h0
        · have hkm : IntKind.i64.wrap ((k : Int) - 1) = ((k - 1 : Nat) : Int) := by rw [wrap_i64 (by omega) (by omega)]; omega
          have i2 := idxOf_nat (k := .i64) (show k - 1 < 1000 by omega)
          have g4 := setA_at f (show k - 1 < 1000 by omega)
          rw [hp2] at g4
          simp -implicitDefEqProofs [s0, s4, hki, h0, hkm, setP, g1, g2, g4, show 1 ≤ 1000 - (k - 1) by omega, show ((k - 1 : Nat) : Int) < 1000 by omega]
          refine happ _ fun c h1 hc1 hc2 => ?_
          simp -implicitDefEqProofs [s4, inc_i64 hlt (by omega), -Int.natCast_add]
          exact ih (1000 - (k + 1)) _ _ (by omega) ⟨k + 1, rfl, by omega, by simp [s0, setP], by simp, .inr ⟨c, hne, by simp, hc1, hc2⟩⟩
        · simp -implicitDefEqProofs [s0, s4, hki, h0, setP, g1, g2]
          refine happ _ fun c h1 hc1 hc2 => ?_
          simp -implicitDefEqProofs [s4, inc_i64 hlt (by omega), -Int.natCast_add]
          exact ih (1000 - (k + 1)) _ _ (by omega) ⟨k + 1, rfl, by omega, by simp [s0, setP], by simp, .inr ⟨c, hne, by simp, hc1, hc2⟩⟩
  · obtain rfl : k = 1000 := by omega
    simp -implicitDefEqProofs [s4]
    rcases hout with ⟨e0, s3⟩ | ⟨c, hne, s3, hc1, hc2⟩
    · simp -implicitDefEqProofs [s3]
      rw [plainOf, e0]
      exact ⟨_, .weak (fun _ _ _ h => h.wk) (.refl _ _)⟩
    · simp -implicitDefEqProofs [s3]
      have := Gh.msl (z := 2) (n := (plainTo f 1000).length) hc1 hc2 (by omega) (by rw [flatP_len]; omega)
      rw [chunksP] at this
      exact ⟨_, this⟩

set_option maxHeartbeats 1000000 in
theorem refPlainB_ok (f : Nat → Bool) {h0 : H} {b : Nat} (hb : b < h0.bn) (hb2 : h0.bx b = some (setA f)) : SCall Try.prog 24 [.ptr b 0] h0 (encL (plainOf f)) h0 := by
  refine SCall.ro (CallP.gh (CallP.run (K := fun r1 h1 => ∃ h', Gh h1 r1 h' (encL (plainOf f)) ∧ HF h0 h' (fun _ => False) (fun _ => False)) hb24 ok24 (by simp) ?_) fun r1 h1 ⟨h', q1, q2⟩ => ⟨h', _, q1, wk_encL _, q2⟩) (pure_encL _)
  simp -implicitDefEqProofs []
  refine run_loop (fun n s h => ∃ k : Nat, n = 1000 - k ∧ k ≤ 1000 ∧ s 0 = .ptr b 0 ∧ s 4 = .int .i64 k ∧ HF h0 h (fun _ => False) (fun _ => False) ∧ ((plainTo f k = [] ∧ s 3 = .sl .full []) ∨ (∃ c, plainTo f k ≠ [] ∧ s 3 = .msl c 2 0 (plainTo f k).length ∧ h0.bn ≤ c ∧ c < h.bn ∧ h.bx c = some (flatP (plainTo f k))))) ?_ 1000 ?_
  rotate_left
  · exact ⟨0, by simp [plainTo, HF.refl]⟩
  rintro n s h ⟨k, hn, hk, s0, s4, hF, hout⟩ ih
  have hbb : b < h.bn := Nat.lt_of_lt_of_le hb hF.bn
  have hbx : h.bx b = some (setA f) := (hF.bx b hb fun e => e).trans hb2
  by_cases hlt : k < 1000
  · have hki : (k : Int) < 1000 := by omega
    have i1 := idxOf_nat (k := .i64) hlt
    have g1 := setA_at f hlt
    have g2 : 1 ≤ 1000 - k := by omega
    have g3 : k + 1 ≤ 1000 := by omega
    have hst : plainTo f (k + 1) = if f k then (if 0 < k ∧ f (k - 1) = true then extL (plainTo f k) k else plainTo f k ++ [((k : Int), (k : Int))]) else plainTo f k := rfl
    cases hf : f k with
    | false =>
      rw [hf] at g1 hst
      rw [if_neg (by simp)] at hst
      simp -implicitDefEqProofs [s0, s4, hki, g1, g3, hbb, hbx, inc_i64 hlt (by omega), -Int.natCast_add]
      refine ih (1000 - (k + 1)) _ _ (by omega) ⟨k + 1, rfl, by omega, by simp [s0], by simp, hF, ?_⟩
      rw [hst]
      simpa using hout
    | true =>
      rw [hf] at g1 hst
      rw [if_pos rfl] at hst
      by_cases hp : 0 < k ∧ f (k - 1) = true
      · rw [if_pos hp] at hst
        obtain ⟨o, t, e, ht⟩ := plainTo_snoc f k hk hp
        rcases hout with ⟨e0, _⟩ | ⟨c, hne, s3, hc0, hc1, hc2⟩
        · rw [e0] at e; simp at e
        rw [e, extL_snoc] at hst
        rw [e] at s3 hc2
        have hl : o.length + 1 ≤ 1000000 := by
          have := (plainTo_ok f k hk).1
          have h2 := plainL_len (plainTo f k)
          rw [plainL_plain this, e, List.length_append, List.length_singleton] at h2
          omega
        have hk0 := hp.1
        have hkm : IntKind.i64.wrap ((k : Int) - 1) = ((k - 1 : Nat) : Int) := by rw [wrap_i64 (by omega) (by omega)]; omega
        have i2 := idxOf_nat (k := .i64) (show k - 1 < 1000 by omega)
        have g4 := setA_at f (show k - 1 < 1000 by omega)
        rw [hp.2] at g4
        have w1 : IntKind.i64.wrap (((o.length + 1 : Nat) : Int) - 1) = (o.length : Nat) := by rw [wrap_i64 (by omega) (by omega)]; omega
        have g5 : (o.length : Int) < ((o.length + 1 : Nat) : Int) := by omega
        have g6 : (flatP (o ++ [t])).length = (o.length + 1) * 2 := by rw [flatP_len]; simp
        have g7 : o.length * 2 + 1 + 1 ≤ (o.length + 1) * 2 := by omega
        have g8 := flatP_last_put o t (k : Int)
        simp -implicitDefEqProofs [s0, s3, s4, hki, hk0, hkm, g1, g3, g4, w1, g5, g6, g7, g8, hc1, hc2, show ((k - 1 : Nat) : Int) < 1000 by omega, show k - 1 + 1 ≤ 1000 by omega, hbb, hbx, inc_i64 hlt (by omega), -Int.natCast_add]
        refine ih (1000 - (k + 1)) _ _ (by omega) ⟨k + 1, rfl, by omega, by simp [s0], by simp, hF.st hc0 _, ?_⟩
        rw [hst]
        exact .inr ⟨c, by simp, by simp [s3], hc0, by simpa using hc1, by simp⟩
      · rw [if_neg hp] at hst
        have hb2 : 0 < k ∧ f (k - 1) = false ∨ ¬ 0 < k := by
          by_cases h0 : 0 < k
          · exact .inl ⟨h0, by rw [Bool.eq_false_iff]; exact fun h => hp ⟨by omega, h⟩⟩
          · exact .inr h0
        have happ : ∀ K : AV → H → Prop, (∀ c h1, c < h1.bn → h1.bx c = some (flatP (plainTo f (k + 1))) → HF h0 h1 (fun _ => False) (fun _ => False) → h0.bn ≤ c → K (.msl c 2 0 (plainTo f (k + 1)).length) h1) → appQ h 2 16 (s 3) (.sl .full [[.int .i64 k, .int .i64 k]]) K := by
          intro K hK
          rcases hout with ⟨e0, s3⟩ | ⟨c, hne, s3, hc0, hc1, hc2⟩
          · rw [e0] at hst
            rw [s3]
            have q := hK h.bn (h.alloc (flatP [((k : Int), (k : Int))])) (by simp) (by rw [hst]; simp) (hF.al _) hF.bn
            rw [hst] at q
            exact ⟨_, _, .newbox [] [avP ((k : Int), (k : Int))] _ (by simp) (by simp [srcA, avP]) (by simp) (by simp), q⟩
          · rw [s3]
            have hl : (plainTo f k).length ≤ 1000000 := by
              have := (plainTo_ok f k hk).1
              have h2 := plainL_len (plainTo f k)
              rw [plainL_plain this] at h2
              omega
            have g6 : List.take ((plainTo f k).length * 2) (flatP (plainTo f k)) = flatP (plainTo f k) := List.take_of_length_le (by rw [flatP_len]; omega)
            have q := hK h.bn ((h.kill c).alloc (flatP (plainTo f (k + 1)))) (by simp [H.kill]) (by simp [H.kill]) ((hF.kl hc0).al _) hF.bn
            rw [hst, List.length_append, flatP_app] at q
            rw [← g6] at q
            exact ⟨_, _, .box c (plainTo f k).length (flatP (plainTo f k)) [avP ((k : Int), (k : Int))] _ hc1 hc2 (by rw [flatP_len]; omega) (by simp [srcA, avP]) (by simp) (by simp only [List.length_cons, List.length_nil]; omega), q⟩
        have hne : plainTo f (k + 1) ≠ [] := by rw [hst]; simp
        rcases hb2 with ⟨h0, hp2⟩ | h0
        · have hkm : IntKind.i64.wrap ((k : Int) - 1) = ((k - 1 : Nat) : Int) := by rw [wrap_i64 (by omega) (by omega)]; omega
          have i2 := idxOf_nat (k := .i64) (show k - 1 < 1000 by omega)
          have g4 := setA_at f (show k - 1 < 1000 by omega)
          rw [hp2] at g4
          simp -implicitDefEqProofs [s0, s4, hki, h0, hkm, g1, g3, g4, show ((k - 1 : Nat) : Int) < 1000 by omega, show k - 1 + 1 ≤ 1000 by omega, hbb, hbx]
          refine happ _ fun c h1 hc1 hc2 hF1 hc0 => ?_
          simp -implicitDefEqProofs [s4, inc_i64 hlt (by omega), -Int.natCast_add]
          exact ih (1000 - (k + 1)) _ _ (by omega) ⟨k + 1, rfl, by omega, by simp [s0], by simp, hF1, .inr ⟨c, hne, by simp, hc0, hc1, hc2⟩⟩
        · simp -implicitDefEqProofs [s0, s4, hki, h0, g1, g3, hbb, hbx]
          refine happ _ fun c h1 hc1 hc2 hF1 hc0 => ?_
          simp -implicitDefEqProofs [s4, inc_i64 hlt (by omega), -Int.natCast_add]
          exact ih (1000 - (k + 1)) _ _ (by omega) ⟨k + 1, rfl, by omega, by simp [s0], by simp, hF1, .inr ⟨c, hne, by simp, hc0, hc1, hc2⟩⟩
  · obtain rfl : k = 1000 := by omega
    simp -implicitDefEqProofs [s4]
    rcases hout with ⟨e0, s3⟩ | ⟨c, hne, s3, hc0, hc1, hc2⟩
    · simp -implicitDefEqProofs [s3]
      rw [plainOf, e0]
      exact ⟨_, .weak (fun _ _ _ h => h.wk) (.refl _ _), hF⟩
    · simp -implicitDefEqProofs [s3]
      have := Gh.msl (z := 2) (n := (plainTo f 1000).length) hc1 hc2 (by omega) (by rw [flatP_len]; omega)
      rw [chunksP] at this
      exact ⟨_, this, hF.kl hc0⟩

end Go.Proofs

/- The document's sets of keys: are two lists the same, have two sets a key in common? The program's short functions. -/
namespace Go.Proofs
open Go Go.RowKit Go.Am

theorem pures2 {a b : AV} (ha : PureV a) (hb : PureV b) : ∀ v ∈ [a, b], PureV v := pures_cons ha (pures1 hb)
theorem refSame_ok (a b : List Sp) (ha : a.length ≤ 1000000) (hb : b.length ≤ 1000000) : PCall Try.prog 23 [encL a, encL b] (.bool (decide (a = b))) := by
  refine PCall.run hb23 ok23 (by simp) (pures2 (pure_encL a) (pure_encL b)) (.bool _) ?_
  by_cases hl : a.length = b.length
  · simp -implicitDefEqProofs [encL, hl]
    refine run_loop (fun n s h => ∃ j : Nat, n = b.length - j ∧ j ≤ b.length ∧ s 0 = encL a ∧ s 1 = encL b ∧ s 5 = .int .i64 j ∧ a.take j = b.take j) ?_ b.length ?_
    rotate_left
    · exact ⟨0, by simp [encL]⟩
    rintro n s h ⟨j, hn, hj, s0, s1, s5, he⟩ ih
    rw [encL] at s0 s1
    by_cases hlt : j < b.length
    · have hlt' : j < a.length := by omega
      have i1 := idxOf_nat (k := .i64) hlt
      have i2 := idxOf_nat (k := .i64) hlt'
      have hs : a.take (j + 1) = b.take (j + 1) ↔ a[j] = b[j] := by
        rw [List.take_succ_eq_append_getElem (l := b) hlt, List.take_succ_eq_append_getElem (l := a) hlt', he]
        simp only [List.append_cancel_left_eq, List.cons.injEq, and_true]
      have hx : a[j] ≠ b[j] → a ≠ b := fun h e => by subst e; exact h rfl
      simp -implicitDefEqProofs [s0, s5, hl, hlt]
      refine run_dreg c23_d6 ?_
      by_cases h1 : a[j].1 = b[j].1
      · by_cases h2 : a[j].2 = b[j].2
        · simp -implicitDefEqProofs [s0, s1, s5, hl, hlt, avP, h1, h2, inc_i64 hlt (by omega), -Int.natCast_add]
          exact ih (b.length - (j + 1)) _ _ (by omega) ⟨j + 1, rfl, by omega, by simp [s0, encL], by simp [s1, encL], by simp, hs.2 (Prod.ext h1 h2)⟩
        · have hne := hx fun e => h2 (by rw [e])
          simp -implicitDefEqProofs [s0, s1, s5, hl, hlt, avP, h1, h2, hne]
      · have hne := hx fun e => h1 (by rw [e])
        simp -implicitDefEqProofs [s0, s1, s5, hl, hlt, avP, h1, hne]
    · obtain rfl : j = b.length := by omega
      rw [List.take_length, List.take_of_length_le (by omega)] at he
      simp -implicitDefEqProofs [s0, s5, he]
  · have hne : a ≠ b := fun e => hl (by rw [e])
    simp -implicitDefEqProofs [encL, hl, hne]

def meetB (f g : Nat → Bool) : Bool := (List.range 1000).any fun k => f k && g k
theorem meetB_iff (f g : Nat → Bool) : meetB f g = true ↔ ∃ k, k < 1000 ∧ f k = true ∧ g k = true := by
  simp only [meetB, List.any_eq_true, List.mem_range, Bool.and_eq_true]
/-! ### The program's -/
theorem plainA_ok (l : List Sp) (hl : l.length ≤ 1000000) : PCall Try.prog 64 [.sl .no [[encL l]]] (encL (plainL l)) := by
  have := plain_ok [l] (by simpa [tot] using hl) (by simp)
  simpa using this
theorem keysPlain_ok (l : List Sp) (hl : l.length ≤ 1000000) : PCall Try.prog 76 [encL l] (encL (plainL l)) := by
  refine PCall.run hb76 ok76 (by simp) (pures1 (pure_encL l)) (pure_encL _) ?_
  simp -implicitDefEqProofs []
  refine callQ_p (plainA_ok l hl) (by simp [wk_encL]) ?_
  simp -implicitDefEqProofs [wk_encL]
theorem keysUnion_ok (a b : List Sp) (hl : a.length + b.length ≤ 1000000) : PCall Try.prog 39 [encL a, encL b] (encL (plainL (a ++ b))) := by
  refine PCall.run hb39 ok39 (by simp) (pures2 (pure_encL a) (pure_encL b)) (pure_encL _) ?_
  have := plain_ok [a, b] (by simpa [tot] using hl) (by simp)
  simp only [List.map_cons, List.map_nil, List.flatten_cons, List.flatten_nil, List.append_nil] at this
  simp -implicitDefEqProofs []
  refine callQ_p this (by simp [wk_encL]) ?_
  simp -implicitDefEqProofs [wk_encL]
theorem elOK_P : ElOK avP 2 true := ⟨fun _ => rfl, (fun h => by cases h), pure_avP, fun x => by simp [avP]⟩
end Go.Proofs
