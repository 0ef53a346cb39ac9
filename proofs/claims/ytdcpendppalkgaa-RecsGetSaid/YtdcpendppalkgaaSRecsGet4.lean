/- What the functions that the statement reaches do: their contracts; and what follows of it. -/
import Derived.Test.YtdcpendppalkgaaSRecsGet3
import Derived.Test.YtdcpendppalkgaaK4
/- Numbers, spans, changes: are two lists the same? -/
namespace Go.Proofs
open Go Go.RowKit Go.Am

theorem elOK_C : ElOK encChg 3 true := ⟨fun _ => rfl, (fun h => by cases h), pure_encChg, fun x => by simp [encChg]⟩
theorem elOK_I : ElOK encN 1 false := ⟨fun _ => rfl, (fun _ => rfl), pure_encN, fun x => by simp [encN]⟩
theorem cellsEq_Chg (a b : Chg) : cellsEq [.i, .b, .i] (encChg a) (encChg b) = some (decide (a = b)) := by
  obtain ⟨a1, a2, a3⟩ := a
  obtain ⟨b1, b2, b3⟩ := b
  simp only [encChg, cellsEq, cellEq, if_true, Option.bind_some, Option.map_some, Option.some.injEq]
  rw [Bool.eq_iff_iff]
  simp only [Bool.and_eq_true, decide_eq_true_eq, Chg.mk.injEq, and_true]
theorem cellsEq_P (a b : Sp) : cellsEq [.i, .i] (avP a) (avP b) = some (decide (a = b)) := by
  obtain ⟨a1, a2⟩ := a
  obtain ⟨b1, b2⟩ := b
  simp only [avP, cellsEq, cellEq, if_true, Option.bind_some, Option.map_some, Option.some.injEq]
  rw [Bool.eq_iff_iff]
  simp only [Bool.and_eq_true, decide_eq_true_eq, Prod.mk.injEq, and_true]
theorem take_Chg (x : Chg) : List.take 3 (encChg x) = encChg x := rfl
theorem take_P (x : Sp) : List.take 2 (avP x) = avP x := rfl
theorem avP_len2 (x : Sp) : (avP x).length = 2 := rfl

set_option maxHeartbeats 1000000 in
theorem eqSpan_ok (a b : List Sp) (ha : a.length ≤ 9223372036854775807) (hb : b.length ≤ 9223372036854775807) : PCall Try.prog 110 [.sl .no (a.map avP), .sl .no (b.map avP)] (.bool (decide (a = b))) := by
  refine PCall.run hb110 ok110 (by simp) (pures_cons (elOK_P.pureL a) (pures1 (elOK_P.pureL b))) (.bool _) ?_
  by_cases hl : a.length = b.length
  · simp -implicitDefEqProofs [hl]
    refine run_loop (fun n s h => ∃ j : Nat, n = b.length - j ∧ j ≤ b.length ∧ s 0 = .sl .no (a.map avP) ∧ s 1 = .sl .no (b.map avP) ∧ s 11 = .sl .no (a.map avP) ∧ s 12 = .int .i64 b.length ∧ s 13 = .int .i64 j ∧ a.take j = b.take j) ?_ b.length ?_
    rotate_left
    · exact ⟨0, by simp []⟩
    rintro n s h ⟨j, hn, hj, s0, s1, s11, s12, s13, he⟩ ih
    by_cases hlt : j < b.length
    · have hlt' : j < a.length := by omega
      have i1 := idxOf_nat (k := .i64) hlt
      have i2 := idxOf_nat (k := .i64) hlt'
      have hs : a.take (j + 1) = b.take (j + 1) ↔ a[j] = b[j] := by
        rw [List.take_succ_eq_append_getElem (l := b) hlt, List.take_succ_eq_append_getElem (l := a) hlt', he]
        simp only [List.append_cancel_left_eq, List.cons.injEq, and_true]
      have hx : a[j] ≠ b[j] → a ≠ b := fun h e => by subst e; exact h rfl
      have hce := cellsEq_P a[j] b[j]
      have t1 := take_P a[j]
      have t2 := take_P b[j]
      simp -implicitDefEqProofs [s12, s13, hlt]
      refine run_dregL c110_d7 rfl ?_
      by_cases h1 : a[j] = b[j]
      · rw [decide_eq_true h1] at hce
        simp -implicitDefEqProofs [s0, s1, s13, hl, hlt, t1, t2, avP_len2, hce, -cellsEq, inc_i64 hlt (by omega), -Int.natCast_add]
        exact ih (b.length - (j + 1)) _ _ (by omega) ⟨j + 1, rfl, by omega, by simp [s0], by simp [s1], by simp [s11], by simp [s12], by simp, hs.2 h1⟩
      · have hne := hx h1
        rw [decide_eq_false h1] at hce
        simp -implicitDefEqProofs [s0, s1, hl, hlt, t1, t2, avP_len2, hce, -cellsEq, hne]
    · obtain rfl : j = b.length := by omega
      rw [List.take_length, List.take_of_length_le (by omega)] at he
      simp -implicitDefEqProofs [s12, s13, he]
  · have hne : a ≠ b := fun e => hl (by rw [e])
    simp -implicitDefEqProofs [hl, hne]

set_option maxHeartbeats 1000000 in
theorem refSpans18_ok (a b : List Sp) (ha : a.length ≤ 9223372036854775807) (hb : b.length ≤ 9223372036854775807) : PCall Try.prog 109 [.sl .no (a.map avP), .sl .no (b.map avP)] (.bool (decide (a = b))) := by
  refine PCall.run hb109 ok109 (by simp) (pures_cons (elOK_P.pureL a) (pures1 (elOK_P.pureL b))) (.bool _) ?_
  by_cases hl : a.length = b.length
  · simp -implicitDefEqProofs [hl]
    refine run_loop (fun n s h => ∃ j : Nat, n = b.length - j ∧ j ≤ b.length ∧ s 0 = .sl .no (a.map avP) ∧ s 1 = .sl .no (b.map avP) ∧ s 5 = .int .i64 j ∧ a.take j = b.take j) ?_ b.length ?_
    rotate_left
    · exact ⟨0, by simp []⟩
    rintro n s h ⟨j, hn, hj, s0, s1, s5, he⟩ ih
    by_cases hlt : j < b.length
    · have hlt' : j < a.length := by omega
      have i1 := idxOf_nat (k := .i64) hlt
      have i2 := idxOf_nat (k := .i64) hlt'
      have hs : a.take (j + 1) = b.take (j + 1) ↔ a[j] = b[j] := by
        rw [List.take_succ_eq_append_getElem (l := b) hlt, List.take_succ_eq_append_getElem (l := a) hlt', he]
        simp only [List.append_cancel_left_eq, List.cons.injEq, and_true]
      have hx : a[j] ≠ b[j] → a ≠ b := fun h e => by subst e; exact h rfl
      have hce := cellsEq_P a[j] b[j]
      have t1 := take_P a[j]
      have t2 := take_P b[j]
      simp -implicitDefEqProofs [s0, s5, hl, hlt]
      refine run_dregL c109_d6 rfl ?_
      by_cases h1 : a[j] = b[j]
      · rw [decide_eq_true h1] at hce
        simp -implicitDefEqProofs [s0, s1, s5, hl, hlt, t1, t2, avP_len2, hce, -cellsEq, inc_i64 hlt (by omega), -Int.natCast_add]
        exact ih (b.length - (j + 1)) _ _ (by omega) ⟨j + 1, rfl, by omega, by simp [s0], by simp [s1], by simp, hs.2 h1⟩
      · have hne := hx h1
        rw [decide_eq_false h1] at hce
        simp -implicitDefEqProofs [s0, s1, s5, hl, hlt, t1, t2, avP_len2, hce, -cellsEq, hne]
    · obtain rfl : j = b.length := by omega
      rw [List.take_length, List.take_of_length_le (by omega)] at he
      simp -implicitDefEqProofs [s0, s5, he]
  · have hne : a ≠ b := fun e => hl (by rw [e])
    simp -implicitDefEqProofs [hl, hne]

set_option maxHeartbeats 1000000 in
theorem refChanges_ok (a b : List Chg) (ha : a.length ≤ 9223372036854775807) (hb : b.length ≤ 9223372036854775807) : PCall Try.prog 61 [.sl .no (a.map encChg), .sl .no (b.map encChg)] (.bool (decide (a = b))) := by
  refine PCall.run hb61 ok61 (by simp) (pures_cons (elOK_C.pureL a) (pures1 (elOK_C.pureL b))) (.bool _) ?_
  by_cases hl : a.length = b.length
  · simp -implicitDefEqProofs [hl]
    refine run_loop (fun n s h => ∃ j : Nat, n = b.length - j ∧ j ≤ b.length ∧ s 0 = .sl .no (a.map encChg) ∧ s 1 = .sl .no (b.map encChg) ∧ s 5 = .int .i64 j ∧ a.take j = b.take j) ?_ b.length ?_
    rotate_left
    · exact ⟨0, by simp []⟩
    rintro n s h ⟨j, hn, hj, s0, s1, s5, he⟩ ih
    by_cases hlt : j < b.length
    · have hlt' : j < a.length := by omega
      have i1 := idxOf_nat (k := .i64) hlt
      have i2 := idxOf_nat (k := .i64) hlt'
      have hs : a.take (j + 1) = b.take (j + 1) ↔ a[j] = b[j] := by
        rw [List.take_succ_eq_append_getElem (l := b) hlt, List.take_succ_eq_append_getElem (l := a) hlt', he]
        simp only [List.append_cancel_left_eq, List.cons.injEq, and_true]
      have hx : a[j] ≠ b[j] → a ≠ b := fun h e => by subst e; exact h rfl
      have hce := cellsEq_Chg a[j] b[j]
      have t1 := take_Chg a[j]
      have t2 := take_Chg b[j]
      simp -implicitDefEqProofs [s0, s5, hl, hlt]
      refine run_dregL c61_d6 rfl ?_
      by_cases h1 : a[j] = b[j]
      · rw [decide_eq_true h1] at hce
        simp -implicitDefEqProofs [s0, s1, s5, hl, hlt, t1, t2, hce, -cellsEq, inc_i64 hlt (by omega), -Int.natCast_add]
        exact ih (b.length - (j + 1)) _ _ (by omega) ⟨j + 1, rfl, by omega, by simp [s0], by simp [s1], by simp, hs.2 h1⟩
      · have hne := hx h1
        rw [decide_eq_false h1] at hce
        simp -implicitDefEqProofs [s0, s1, s5, hl, hlt, t1, t2, hce, -cellsEq, hne]
    · obtain rfl : j = b.length := by omega
      rw [List.take_length, List.take_of_length_le (by omega)] at he
      simp -implicitDefEqProofs [s0, s5, he]
  · have hne : a ≠ b := fun e => hl (by rw [e])
    simp -implicitDefEqProofs [hl, hne]

set_option maxHeartbeats 1000000 in
theorem eqInt_ok (a b : List Int) (ha : a.length ≤ 9223372036854775807) (hb : b.length ≤ 9223372036854775807) : PCall Try.prog 63 [.sl .no (a.map encN), .sl .no (b.map encN)] (.bool (decide (a = b))) := by
  refine PCall.run hb63 ok63 (by simp) (pures_cons (elOK_I.pureL a) (pures1 (elOK_I.pureL b))) (.bool _) ?_
  by_cases hl : a.length = b.length
  · simp -implicitDefEqProofs [hl]
    refine run_loop (fun n s h => ∃ j : Nat, n = b.length - j ∧ j ≤ b.length ∧ s 0 = .sl .no (a.map encN) ∧ s 1 = .sl .no (b.map encN) ∧ s 11 = .sl .no (a.map encN) ∧ s 12 = .int .i64 b.length ∧ s 13 = .int .i64 j ∧ a.take j = b.take j) ?_ b.length ?_
    rotate_left
    · exact ⟨0, by simp []⟩
    rintro n s h ⟨j, hn, hj, s0, s1, s11, s12, s13, he⟩ ih
    by_cases hlt : j < b.length
    · have hlt' : j < a.length := by omega
      have i1 := idxOf_nat (k := .i64) hlt
      have i2 := idxOf_nat (k := .i64) hlt'
      have hs : a.take (j + 1) = b.take (j + 1) ↔ a[j] = b[j] := by
        rw [List.take_succ_eq_append_getElem (l := b) hlt, List.take_succ_eq_append_getElem (l := a) hlt', he]
        simp only [List.append_cancel_left_eq, List.cons.injEq, and_true]
      have hx : a[j] ≠ b[j] → a ≠ b := fun h e => by subst e; exact h rfl
      simp -implicitDefEqProofs [s12, s13, hlt]
      refine run_dregL c63_d7 rfl ?_
      by_cases h1 : a[j] = b[j]
      · simp -implicitDefEqProofs [s0, s1, s13, hl, hlt, encN, h1, inc_i64 hlt (by omega), -Int.natCast_add]
        exact ih (b.length - (j + 1)) _ _ (by omega) ⟨j + 1, rfl, by omega, by simp [s0], by simp [s1], by simp [s11], by simp [s12], by simp, hs.2 h1⟩
      · have hne := hx h1
        simp -implicitDefEqProofs [s0, s1, hl, hlt, encN, h1, hne]
    · obtain rfl : j = b.length := by omega
      rw [List.take_length, List.take_of_length_le (by omega)] at he
      simp -implicitDefEqProofs [s12, s13, he]
  · have hne : a ≠ b := fun e => hl (by rw [e])
    simp -implicitDefEqProofs [hl, hne]

end Go.Proofs

/- Nodes, records: are they the same? -/
namespace Go.Proofs
open Go Go.RowKit Go.Am

theorem spP_inj : ∀ {a b : List Spn}, a.map spP = b.map spP ↔ a = b
  | [], [] => by simp
  | [], _ :: _ => by simp
  | _ :: _, [] => by simp
  | x :: a, y :: b => by
    rw [List.map_cons, List.map_cons, List.cons.injEq, List.cons.injEq, spP_inj]
    obtain ⟨x1, x2⟩ := x
    obtain ⟨y1, y2⟩ := y
    simp [spP]
theorem spn_sl (l : List Spn) : l.map encSpn = (l.map spP).map avP := by rw [List.map_map]; rfl
theorem refSpn18_ok (a b : List Spn) (ha : a.length ≤ 9223372036854775807) (hb : b.length ≤ 9223372036854775807) : PCall Try.prog 109 [.sl .no (a.map encSpn), .sl .no (b.map encSpn)] (.bool (decide (a = b))) := by
  have h := refSpans18_ok (a.map spP) (b.map spP) (by simpa using ha) (by simpa using hb)
  rw [spn_sl, spn_sl, ← decide_eq_decide.2 (spP_inj (a := a) (b := b))]
  exact h
theorem pure_nods (a : Nod) : PureV (.sl .no [encNod a]) := .sl (fun _ e => by cases e) (fun e he => by rw [List.mem_singleton.1 he]; exact pure_encNod a)
theorem nod_eq {a b : Nod} : a = b ↔ a.saga = b.saga ∧ a.cls = b.cls ∧ a.step = b.step ∧ a.back = b.back ∧ a.reads = b.reads ∧ a.writes = b.writes := by
  obtain ⟨a1, a2, a3, a4, a5, a6⟩ := a
  obtain ⟨b1, b2, b3, b4, b5, b6⟩ := b
  simp only [Nod.mk.injEq]

set_option maxHeartbeats 1000000 in
set_option maxRecDepth 4000 in
/-- The document's, for one node each. -/
theorem refSame18_ok (a b : Nod) (wa : a.wf) (wb : b.wf) : PCall Try.prog 62 [.sl .no [encNod a], .sl .no [encNod b]] (.bool (decide (a = b))) := by
  refine PCall.run hb62 ok62 (by simp) (pures2 (pure_nods a) (pure_nods b)) (.bool _) ?_
  obtain ⟨_, _, _, ⟨a1, _⟩, a2, _⟩ := wa
  obtain ⟨_, _, _, ⟨b1, _⟩, b2, _⟩ := wb
  simp -implicitDefEqProofs []
  refine run_loop (fun n s h => ∃ j : Nat, n = 1 - j ∧ j ≤ 1 ∧ s 0 = .sl .no [encNod a] ∧ s 1 = .sl .no [encNod b] ∧ s 5 = .int .i64 j ∧ (j = 1 → a = b)) ?_ 1 ?_
  rotate_left
  · exact ⟨0, by simp⟩
  rintro n s h ⟨j, hn, hj, s0, s1, s5, he⟩ ih
  by_cases hlt : j < 1
  rotate_left
  · obtain rfl : j = 1 := by omega
    have := he rfl
    simp -implicitDefEqProofs [s0, s5, this]
  obtain rfl : j = 0 := by omega
  simp -implicitDefEqProofs [s0, s5]
  refine run_two (fun j => 19 + j) (fun j => match j with | 1 => .int .i64 0 | 2 => .rop (encNod a) | 3 => .agg (encNod a) | 4 => .sl .no [encNod b] | 5 => .int .i64 0 | 6 => .rop (encNod b) | 7 => .agg (encNod b) | _ => .sl .no [encNod a]) 8 10 6 9 11 7 6
    (zA := [.int .i64 0, .int .i64 0, .int .i64 0, .bool false, .sl .full [], .sl .full []]) (cA := encNod a) (zB := [.int .i64 0, .int .i64 0, .int .i64 0, .bool false, .sl .full [], .sl .full []]) (cB := encNod b) (xA := .t 22) (xB := .t 26) rfl rfl rfl rfl (by decide) (by decide) (by decide) (by decide) (fun a b _ _ _ _ h => by omega) ?_ rfl rfl ?_ ?_ ?_ ?_
  · intro j hj hjn
    omega
  · intro p q done s1 h1 haft tw
    have h3 : s1 22 = _ := tw.li 3 (haft 3 (by decide)) (by decide) (by decide) (by decide) (by decide)
    show fit 6 (s1 22) = _
    rw [h3]
    simp [fit, encNod]
  · intro p q done s1 h1 haft tw
    have h3 : s1 26 = _ := tw.li 7 (haft 7 (by decide)) (by decide) (by decide) (by decide) (by decide)
    show fit 6 (s1 26) = _
    rw [h3]
    simp [fit, encNod]
  · intro j y p q done s1' h1 hy hni haft tw
    have t0 : s1' 0 = .sl .no [encNod a] := by rw [tw.un 0 (by decide) (by decide) (fun i _ _ _ _ _ => by omega)]; simp [s0]
    have t1 : s1' 1 = .sl .no [encNod b] := by rw [tw.un 1 (by decide) (by decide) (fun i _ _ _ _ _ => by omega)]; simp [s1]
    have t5 : s1' 5 = .int .i64 0 := by rw [tw.un 5 (by decide) (by decide) (fun i _ _ _ _ _ => by omega)]; simp [s5]
    have hj : j < 12 := (List.getElem?_eq_some_iff.1 hy).1
    have h8 : j = 0 ∨ j = 1 ∨ j = 2 ∨ j = 3 ∨ j = 4 ∨ j = 5 ∨ j = 6 ∨ j = 7 := by simp at hni; omega
    rcases h8 with rfl | rfl | rfl | rfl | rfl | rfl | rfl | rfl
    · cases hy
      exact ⟨rfl, rfl, .pure _ _ (by simp [t0])⟩
    · cases hy
      exact ⟨rfl, rfl, .pure _ _ (by simp [t5])⟩
    · cases hy
      have e1 : s1' 19 = _ := tw.li 0 (haft 0 (by decide)) (by decide) (by decide) (by decide) (by decide)
      have e2 : s1' 20 = _ := tw.li 1 (haft 1 (by decide)) (by decide) (by decide) (by decide) (by decide)
      exact ⟨rfl, rfl, .pure _ _ (by simp [e1, e2, encNod])⟩
    · cases hy
      have e1 : s1' 21 = _ := tw.li 2 (haft 2 (by decide)) (by decide) (by decide) (by decide) (by decide)
      exact ⟨rfl, rfl, .pure _ _ (by simp [e1, encNod])⟩
    · cases hy
      exact ⟨rfl, rfl, .pure _ _ (by simp [t1])⟩
    · cases hy
      exact ⟨rfl, rfl, .pure _ _ (by simp [t5])⟩
    · cases hy
      have e1 : s1' 23 = _ := tw.li 4 (haft 4 (by decide)) (by decide) (by decide) (by decide) (by decide)
      have e2 : s1' 24 = _ := tw.li 5 (haft 5 (by decide)) (by decide) (by decide) (by decide) (by decide)
      exact ⟨rfl, rfl, .pure _ _ (by simp [e1, e2, encNod])⟩
    · cases hy
      have e1 : s1' 25 = _ := tw.li 6 (haft 6 (by decide)) (by decide) (by decide) (by decide) (by decide)
      exact ⟨rfl, rfl, .pure _ _ (by simp [e1, encNod])⟩
  · intro p q s1' h1 hab sa sb ha hb ha0 hb0 hba hbb hf hs1
    have keep : ∀ y, y < 6 → s1' y = _ := fun y hy => hs1 y (by omega) (by omega) (fun i _ _ => by omega)
    have t0 : s1' 0 = .sl .no [encNod a] := by rw [keep 0 (by decide)]; simp [s0]
    have t1 : s1' 1 = .sl .no [encNod b] := by rw [keep 1 (by decide)]; simp [s1]
    have t5 : s1' 5 = .int .i64 0 := by rw [keep 5 (by decide)]; simp [s5]
    clear hs1 keep hf
    rw [encNod] at hba hbb
    by_cases h1 : a.saga = b.saga
    rotate_left
    · have : a ≠ b := fun e => h1 (by rw [e])
      simp -implicitDefEqProofs [sa, sb, ha, hb, hba, hbb, h1, this]
    by_cases h2 : a.cls = b.cls
    rotate_left
    · have : a ≠ b := fun e => h2 (by rw [e])
      simp -implicitDefEqProofs [sa, sb, ha, hb, hba, hbb, h1, h2, this]
    by_cases h3 : a.step = b.step
    rotate_left
    · have : a ≠ b := fun e => h3 (by rw [e])
      simp -implicitDefEqProofs [sa, sb, ha, hb, hba, hbb, h1, h2, h3, this]
    by_cases h4 : a.back = b.back
    rotate_left
    · have : a ≠ b := fun e => h4 (by rw [e])
      simp -implicitDefEqProofs [sa, sb, ha, hb, hba, hbb, h1, h2, h3, h4, this]
    simp -implicitDefEqProofs [sa, sb, ha, hb, hba, hbb, h1, h2, h3, h4]
    refine callQ_p (refSpn18_ok a.reads b.reads a1 b1) (by simp) ?_
    by_cases h5 : a.reads = b.reads
    rotate_left
    · have : a ≠ b := fun e => h5 (by rw [e])
      simp -implicitDefEqProofs [h5, this]
    simp -implicitDefEqProofs [sa, sb, ha, hb, hba, hbb, h5]
    refine callQ_p (refSpn18_ok a.writes b.writes a2 b2) (by simp) ?_
    by_cases h6 : a.writes = b.writes
    · have hab2 : a = b := nod_eq.2 ⟨h1, h2, h3, h4, h5, h6⟩
      have w : IntKind.i64.wrap 1 = 1 := wrap_i64 (by omega) (by omega)
      simp -implicitDefEqProofs [h6, t5, w]
      exact ih 0 _ _ (by omega) ⟨1, rfl, by omega, by simp [t0], by simp [t1], by simp, fun _ => hab2⟩
    · have : a ≠ b := fun e => h6 (by rw [e])
      simp -implicitDefEqProofs [h6, this]
end Go.Proofs

/- Records: are they the same? -/
namespace Go.Proofs
open Go Go.RowKit Go.Am

theorem recd_eq {a b : Recd} : a = b ↔ a.kind = b.kind ∧ a.saga = b.saga ∧ a.cls = b.cls ∧ a.why = b.why ∧ a.regs = b.regs ∧ a.args = b.args ∧ a.changes = b.changes ∧ a.node = b.node := by
  obtain ⟨a1, a2, a3, a4, a5, a6, a7, a8⟩ := a
  obtain ⟨b1, b2, b3, b4, b5, b6, b7, b8⟩ := b
  simp only [Recd.mk.injEq]
  exact ⟨fun ⟨h1, h2, h3, h4, h5, h6, h7, h8⟩ => ⟨h1, h2, h3, h5, h7, h4, h8, h6⟩, fun ⟨h1, h2, h3, h5, h7, h4, h8, h6⟩ => ⟨h1, h2, h3, h4, h5, h6, h7, h8⟩⟩
theorem regs_four {l : List Int} (h : l.length = 4) : ∃ a b c d, l = [a, b, c, d] := by
  match l, h with
  | [a, b, c, d], _ => exact ⟨a, b, c, d, rfl⟩
/-- A record's cells, with its registers one by one. -/
def cellsR (x : Recd) (r0 r1 r2 r3 : Int) : List AV := [.int .i64 x.kind, .int .i64 x.saga, .int .i64 x.cls, .sl .no (x.args.map encN), .int .i64 x.why, .int .i64 x.node.saga, .int .i64 x.node.cls, .int .i64 x.node.step, .bool x.node.back, .sl .no (x.node.reads.map encSpn), .sl .no (x.node.writes.map encSpn), .int .i64 r0, .int .i64 r1, .int .i64 r2, .int .i64 r3, .sl .no (x.changes.map encChg)]
theorem encRecd_cells {x : Recd} {r0 r1 r2 r3 : Int} (h : x.regs = [r0, r1, r2, r3]) : encRecd x = cellsR x r0 r1 r2 r3 := by
  rw [encRecd, h]; rfl

set_option maxHeartbeats 2000000 in
theorem refRecsSame_ok (a b : Recd) (wa : a.wf) (wb : b.wf) : PCall Try.prog 23 [.agg (encRecd a), .agg (encRecd b)] (.bool (decide (a = b))) := by
  have p := pures2 (.agg (pure_encRecd a)) (.agg (pure_encRecd b))
  obtain ⟨_, _, _, ⟨a1, _⟩, _, a2, ⟨a3, _⟩, a4, _⟩ := wa
  obtain ⟨_, _, _, ⟨b1, _⟩, _, b2, ⟨b3, _⟩, b4, _⟩ := wb
  simp only [maxLen] at a1 b1
  obtain ⟨r0, r1, r2, r3, ra⟩ := regs_four a3
  obtain ⟨q0, q1, q2, q3, rb⟩ := regs_four b3
  rw [encRecd_cells ra, encRecd_cells rb] at p ⊢
  refine PCall.run hb23 ok23 (by simp) p (.bool _) ?_
  by_cases hl : a.args.length = b.args.length
  rotate_left
  · have : a ≠ b := fun e => hl (by rw [e])
    simp -implicitDefEqProofs [cellsR, H.nil, hl, this]
  simp -implicitDefEqProofs [cellsR, H.nil, hl]
  refine run_loop (fun n s h => ∃ j : Nat, n = b.args.length - j ∧ j ≤ b.args.length ∧ s 2 = .ptr 0 0 ∧ s 3 = .ptr 1 0 ∧ s 5 = .int .i64 j ∧ 1 < h.bn ∧ h.bx 0 = some (cellsR a r0 r1 r2 r3) ∧ h.bx 1 = some (cellsR b q0 q1 q2 q3) ∧ a.args.take j = b.args.take j) ?_ b.args.length ?_
  rotate_left
  · exact ⟨0, by simp [cellsR]⟩
  rintro n s h ⟨j, hn, hj, s2, s3, s5, n1, c0, c1, he⟩ ih
  have n0 : 0 < h.bn := by omega
  rw [cellsR] at c0 c1
  by_cases hlt : j < b.args.length
  · have hlt' : j < a.args.length := by omega
    have hs : a.args.take (j + 1) = b.args.take (j + 1) ↔ a.args[j] = b.args[j] := by
      rw [List.take_succ_eq_append_getElem (l := b.args) hlt, List.take_succ_eq_append_getElem (l := a.args) hlt', he]
      simp only [List.append_cancel_left_eq, List.cons.injEq, and_true]
    have i1 := idxOf_nat (k := .i64) hlt
    simp -implicitDefEqProofs [s2, s5, n0, c0, hl, hlt]
    refine run_dreg c23_d6 ?_
    by_cases h1 : a.args[j] = b.args[j]
    · simp -implicitDefEqProofs [s2, s3, s5, n0, n1, c0, c1, hl, hlt, encN, h1, inc_i64 hlt b1, -Int.natCast_add]
      exact ih (b.args.length - (j + 1)) _ _ (by omega) ⟨j + 1, rfl, by omega, by simp [s2], by simp [s3], by simp, n1, by rw [c0, cellsR], by rw [c1, cellsR], hs.2 h1⟩
    · have hne : a ≠ b := fun e => by subst e; exact h1 rfl
      simp -implicitDefEqProofs [s2, s3, s5, n0, n1, c0, c1, hl, hlt, encN, h1, hne]
  obtain rfl : j = b.args.length := by omega
  rw [List.take_length, List.take_of_length_le (by omega)] at he
  by_cases h1 : a.kind = b.kind
  rotate_left
  · have : a ≠ b := fun e => h1 (by rw [e])
    simp -implicitDefEqProofs [s2, s3, s5, n0, n1, c0, c1, hl, h1, this]
  by_cases h2 : a.saga = b.saga
  rotate_left
  · have : a ≠ b := fun e => h2 (by rw [e])
    simp -implicitDefEqProofs [s2, s3, s5, n0, n1, c0, c1, hl, h1, h2, this]
  by_cases h3 : a.cls = b.cls
  rotate_left
  · have : a ≠ b := fun e => h3 (by rw [e])
    simp -implicitDefEqProofs [s2, s3, s5, n0, n1, c0, c1, hl, h1, h2, h3, this]
  by_cases h4 : a.why = b.why
  rotate_left
  · have : a ≠ b := fun e => h4 (by rw [e])
    simp -implicitDefEqProofs [s2, s3, s5, n0, n1, c0, c1, hl, h1, h2, h3, h4, this]
  by_cases g0 : r0 = q0
  rotate_left
  · have : a ≠ b := fun e => by
      have e2 : a.regs = b.regs := by rw [e]
      rw [ra, rb] at e2
      simp at e2
      omega
    simp -implicitDefEqProofs [s2, s3, s5, n0, n1, c0, c1, hl, h1, h2, h3, h4, g0, this]
  by_cases g1 : r1 = q1
  rotate_left
  · have : a ≠ b := fun e => by
      have e2 : a.regs = b.regs := by rw [e]
      rw [ra, rb] at e2
      simp at e2
      omega
    simp -implicitDefEqProofs [s2, s3, s5, n0, n1, c0, c1, hl, h1, h2, h3, h4, g0, g1, this]
  by_cases g2 : r2 = q2
  rotate_left
  · have : a ≠ b := fun e => by
      have e2 : a.regs = b.regs := by rw [e]
      rw [ra, rb] at e2
      simp at e2
      omega
    simp -implicitDefEqProofs [s2, s3, s5, n0, n1, c0, c1, hl, h1, h2, h3, h4, g0, g1, g2, this]
  by_cases g3 : r3 = q3
  rotate_left
  · have : a ≠ b := fun e => by
      have e2 : a.regs = b.regs := by rw [e]
      rw [ra, rb] at e2
      simp at e2
      omega
    simp -implicitDefEqProofs [s2, s3, s5, n0, n1, c0, c1, hl, h1, h2, h3, h4, g0, g1, g2, g3, this]
  have h5 : a.regs = b.regs := by rw [ra, rb, g0, g1, g2, g3]
  simp -implicitDefEqProofs [s2, s3, s5, n0, n1, c0, c1, hl, h1, h2, h3, h4, g0, g1, g2, g3]
  refine callQ_p (refChanges_ok a.changes b.changes a4 b4) (by simp) ?_
  by_cases h7 : a.changes = b.changes
  rotate_left
  · have : a ≠ b := fun e => h7 (by rw [e])
    simp -implicitDefEqProofs [h7, this]
  simp -implicitDefEqProofs [s2, s3, n0, n1, c0, c1, h7]
  refine callQ_p (refSame18_ok a.node b.node a2 b2) (by simp [encNod]) ?_
  by_cases h8 : a.node = b.node
  · have : a = b := recd_eq.2 ⟨h1, h2, h3, h4, h5, he, h7, h8⟩
    simp -implicitDefEqProofs [this]
  · have : a ≠ b := fun e => h8 (by rw [e])
    simp -implicitDefEqProofs [h8, this]
end Go.Proofs

/- The statement KeysTwo: its function hands back true. -/
namespace Go.Proofs
open Go Go.RowKit Go.Am

end Go.Proofs

/- Arguments of a law: from their readings to values. -/
namespace Go.Proofs
open Go Go.RowKit Go.Am

def Item.wf (x : Item) : Prop := inI x.kind ∧ inI x.n ∧ inI x.most ∧ inI x.x ∧ x.s.size ≤ maxLen ∧ x.l.length ≤ maxLen ∧ ∀ w ∈ x.l, w < 18446744073709551616
section
variable {H : Type} {enc : TypeId × Value → H} {P : Program} {w : World} {spare : Nat → Bool} {held : Bool}
/-- An argument of several cells. -/
theorem ent_agg {t : TypeId} {C : Array Value} {x : DataW H} {ps : List MemPlace} {d : Nat} {sh : List Sh} (h : DataW.Trod enc P w 0 spare held t (.agg C) x ps) (hc : shT P d t = some sh) : ∃ vs, isL sh vs ∧ Rep w (G.bare (roW w)) (.agg vs) (.agg C) := by
  obtain ⟨fuel, h⟩ := h
  obtain ⟨vs, h1, h2⟩ := ent fuel d t _ _ _ h hc
  refine ⟨vs, h1, Rep.ofAgg (RepC.mk (by simpa [Value.cells] using h2.1) fun k v hk => ?_)⟩
  obtain ⟨V, q1, q2, q3⟩ := h2.2 k v hk
  exact ⟨V, by simpa [Value.cells] using q1, q2, q3⟩
inductive RepV (w : World) (g : G) : List AV → List Value → Prop where
  | nil : RepV w g [] []
  | cons {a : AV} {v : Value} {l : List AV} {vs : List Value} : Rep w g a v → RepV w g l vs → RepV w g (a :: l) (v :: vs)
theorem RepV.get {w : World} {g : G} {l : List AV} {vs : List Value} (h : RepV w g l vs) : ∃ hl : l.length = vs.length, ∀ k (hk : k < l.length), Rep w g l[k] (vs[k]'(by omega)) := by
  induction h with
  | nil => exact ⟨rfl, fun k hk => by simp at hk⟩
  | cons hv _ ih =>
    obtain ⟨hl, ih⟩ := ih
    refine ⟨by simp [hl], fun k hk => ?_⟩
    cases k with
    | zero => exact hv
    | succ k => exact ih k (by simpa using hk)
theorem RepV.toA {w : World} {g : G} {l : List AV} {vs : List Value} (h : RepV w g l vs) : RepA w g l vs.toArray := by
  obtain ⟨hl, h⟩ := h.get
  exact ⟨by simpa using hl, fun k hk => by simpa using h k hk⟩
end
end Go.Proofs

/- Which programs, footprints, classes and catalogues there may be: the document's answer. -/
namespace Go.Proofs
open Go Go.RowKit Go.Am

end Go.Proofs
