/- What the functions that the statement reaches do: their contracts; and what follows of it. -/
import Derived.Test.YtaepkklbckgbhabSClassFoot4
import Derived.Test.YtaepkklbckgbhabSClassFoot5
import Derived.Test.YtaepkklbckgbhabSClassFoot1
import Derived.Test.YtaepkklbckgbhabK4
/- Lists of instructions, of spans: are they the same? -/
namespace Go.Proofs
open Go Go.RowKit Go.Am

theorem cellsEq_Inst (a b : Inst) : cellsEq [.i, .i, .i, .i, .i, .i, .i, .i, .i] (encInst a) (encInst b) = some (decide (a = b)) := by
  obtain ⟨a1, a2, a3, a4, ⟨a5, a6⟩, ⟨a7, a8⟩, a9⟩ := a
  obtain ⟨b1, b2, b3, b4, ⟨b5, b6⟩, ⟨b7, b8⟩, b9⟩ := b
  simp only [encInst, cellsEq, cellEq, if_true, Option.bind_some, Option.map_some, Option.some.injEq]
  rw [Bool.eq_iff_iff]
  simp only [Bool.and_eq_true, decide_eq_true_eq, Inst.mk.injEq, KeyT.mk.injEq, and_true, and_assoc]
theorem cellsEq_SpanT (a b : SpanT) : cellsEq [.i, .i, .i, .i, .b] (encSpanT a) (encSpanT b) = some (decide (a = b)) := by
  obtain ⟨⟨a1, a2⟩, ⟨a3, a4⟩, a5⟩ := a
  obtain ⟨⟨b1, b2⟩, ⟨b3, b4⟩, b5⟩ := b
  simp only [encSpanT, cellsEq, cellEq, if_true, Option.bind_some, Option.map_some, Option.some.injEq]
  rw [Bool.eq_iff_iff]
  simp only [Bool.and_eq_true, decide_eq_true_eq, SpanT.mk.injEq, KeyT.mk.injEq, and_true, and_assoc]
theorem take_Inst (x : Inst) : List.take 9 (encInst x) = encInst x := rfl
theorem take_SpanT (x : SpanT) : List.take 5 (encSpanT x) = encSpanT x := rfl

set_option maxHeartbeats 1000000 in
theorem eqInst_ok (a b : List Inst) (ha : a.length ≤ 9223372036854775807) (hb : b.length ≤ 9223372036854775807) : PCall Try.prog 65 [.sl .no (a.map encInst), .sl .no (b.map encInst)] (.bool (decide (a = b))) := by
  refine PCall.run hb65 ok65 (by simp) (pures_cons (elOK_Inst.pureL a) (pures1 (elOK_Inst.pureL b))) (.bool _) ?_
  by_cases hl : a.length = b.length
  · simp -implicitDefEqProofs [hl]
    refine run_loop (fun n s h => ∃ j : Nat, n = b.length - j ∧ j ≤ b.length ∧ s 0 = .sl .no (a.map encInst) ∧ s 1 = .sl .no (b.map encInst) ∧ s 11 = .sl .no (a.map encInst) ∧ s 12 = .int .i64 b.length ∧ s 13 = .int .i64 j ∧ a.take j = b.take j) ?_ b.length ?_
    rotate_left
    · exact ⟨0, by simp []⟩
    rintro n s h ⟨j, hn, hj, s0, s1, s11, s12, s13, he⟩ ih
    by_cases hlt : j < b.length
    · have hlt' : j < a.length := by omega
      have i1 := idxOf_nat (k := .i64) hlt
      have i2 := idxOf_nat (k := .i64) hlt'
      have hs : a.take (j + 1) = b.take (j + 1) ↔ a[j] = b[j] := by
        rw [List.take_succ_eq_append_getElem (l := b) hlt, List.take_succ_eq_append_getElem (l := a) hlt', he]
        simp only [List.append_cancel_left_eq, List.cons.injEq, and_true]
      have hx : a[j] ≠ b[j] → a ≠ b := fun h e => by subst e; exact h rfl
      have hce := cellsEq_Inst a[j] b[j]
      have t1 := take_Inst a[j]
      have t2 := take_Inst b[j]
      simp -implicitDefEqProofs [s12, s13, hlt]
      refine run_dregL c65_d7 rfl ?_
      by_cases h1 : a[j] = b[j]
      · rw [decide_eq_true h1] at hce
        simp -implicitDefEqProofs [s0, s1, s13, hl, hlt, t1, t2, hce, -cellsEq, inc_i64 hlt (by omega), -Int.natCast_add]
        exact ih (b.length - (j + 1)) _ _ (by omega) ⟨j + 1, rfl, by omega, by simp [s0], by simp [s1], by simp [s11], by simp [s12], by simp, hs.2 h1⟩
      · have hne := hx h1
        rw [decide_eq_false h1] at hce
        simp -implicitDefEqProofs [s0, s1, hl, hlt, t1, t2, hce, -cellsEq, hne]
    · obtain rfl : j = b.length := by omega
      rw [List.take_length, List.take_of_length_le (by omega)] at he
      simp -implicitDefEqProofs [s12, s13, he]
  · have hne : a ≠ b := fun e => hl (by rw [e])
    simp -implicitDefEqProofs [hl, hne]

set_option maxHeartbeats 1000000 in
theorem eqSpanT_ok (a b : List SpanT) (ha : a.length ≤ 9223372036854775807) (hb : b.length ≤ 9223372036854775807) : PCall Try.prog 66 [.sl .no (a.map encSpanT), .sl .no (b.map encSpanT)] (.bool (decide (a = b))) := by
  refine PCall.run hb66 ok66 (by simp) (pures_cons (elOK_SpanT.pureL a) (pures1 (elOK_SpanT.pureL b))) (.bool _) ?_
  by_cases hl : a.length = b.length
  · simp -implicitDefEqProofs [hl]
    refine run_loop (fun n s h => ∃ j : Nat, n = b.length - j ∧ j ≤ b.length ∧ s 0 = .sl .no (a.map encSpanT) ∧ s 1 = .sl .no (b.map encSpanT) ∧ s 11 = .sl .no (a.map encSpanT) ∧ s 12 = .int .i64 b.length ∧ s 13 = .int .i64 j ∧ a.take j = b.take j) ?_ b.length ?_
    rotate_left
    · exact ⟨0, by simp []⟩
    rintro n s h ⟨j, hn, hj, s0, s1, s11, s12, s13, he⟩ ih
    by_cases hlt : j < b.length
    · have hlt' : j < a.length := by omega
      have i1 := idxOf_nat (k := .i64) hlt
      have i2 := idxOf_nat (k := .i64) hlt'
      have hs : a.take (j + 1) = b.take (j + 1) ↔ a[j] = b[j] := by
        rw [List.take_succ_eq_append_getElem (l := b) hlt, List.take_succ_eq_append_getElem (l := a) hlt', he]
        simp only [List.append_cancel_left_eq, List.cons.injEq, and_true]
      have hx : a[j] ≠ b[j] → a ≠ b := fun h e => by subst e; exact h rfl
      have hce := cellsEq_SpanT a[j] b[j]
      have t1 := take_SpanT a[j]
      have t2 := take_SpanT b[j]
      simp -implicitDefEqProofs [s12, s13, hlt]
      refine run_dregL c66_d7 rfl ?_
      by_cases h1 : a[j] = b[j]
      · rw [decide_eq_true h1] at hce
        simp -implicitDefEqProofs [s0, s1, s13, hl, hlt, t1, t2, hce, -cellsEq, inc_i64 hlt (by omega), -Int.natCast_add]
        exact ih (b.length - (j + 1)) _ _ (by omega) ⟨j + 1, rfl, by omega, by simp [s0], by simp [s1], by simp [s11], by simp [s12], by simp, hs.2 h1⟩
      · have hne := hx h1
        rw [decide_eq_false h1] at hce
        simp -implicitDefEqProofs [s0, s1, hl, hlt, t1, t2, hce, -cellsEq, hne]
    · obtain rfl : j = b.length := by omega
      rw [List.take_length, List.take_of_length_le (by omega)] at he
      simp -implicitDefEqProofs [s12, s13, he]
  · have hne : a ≠ b := fun e => hl (by rw [e])
    simp -implicitDefEqProofs [hl, hne]

set_option maxHeartbeats 1000000 in
theorem refSameInst_ok (a b : List Inst) (ha : a.length ≤ 9223372036854775807) (hb : b.length ≤ 9223372036854775807) : PCall Try.prog 67 [.sl .no (a.map encInst), .sl .no (b.map encInst)] (.bool (decide (a = b))) := by
  refine PCall.run hb67 ok67 (by simp) (pures_cons (elOK_Inst.pureL a) (pures1 (elOK_Inst.pureL b))) (.bool _) ?_
  by_cases hl : a.length = b.length
  · simp -implicitDefEqProofs [hl]
    refine run_loop (fun n s h => ∃ j : Nat, n = b.length - j ∧ j ≤ b.length ∧ s 0 = .sl .no (a.map encInst) ∧ s 1 = .sl .no (b.map encInst) ∧ s 5 = .int .i64 j ∧ a.take j = b.take j) ?_ b.length ?_
    rotate_left
    · exact ⟨0, by simp []⟩
    rintro n s h ⟨j, hn, hj, s0, s1, s5, he⟩ ih
    by_cases hlt : j < b.length
    · have hlt' : j < a.length := by omega
      have i1 := idxOf_nat (k := .i64) hlt
      have i2 := idxOf_nat (k := .i64) hlt'
      have hs : a.take (j + 1) = b.take (j + 1) ↔ a[j] = b[j] := by
        rw [List.take_succ_eq_append_getElem (l := b) hlt, List.take_succ_eq_append_getElem (l := a) hlt', he]
        simp only [List.append_cancel_left_eq, List.cons.injEq, and_true]
      have hx : a[j] ≠ b[j] → a ≠ b := fun h e => by subst e; exact h rfl
      have hce := cellsEq_Inst a[j] b[j]
      have t1 := take_Inst a[j]
      have t2 := take_Inst b[j]
      simp -implicitDefEqProofs [s0, s5, hl, hlt]
      refine run_dregL c67_d6 rfl ?_
      by_cases h1 : a[j] = b[j]
      · rw [decide_eq_true h1] at hce
        simp -implicitDefEqProofs [s0, s1, s5, hl, hlt, t1, t2, hce, -cellsEq, inc_i64 hlt (by omega), -Int.natCast_add]
        exact ih (b.length - (j + 1)) _ _ (by omega) ⟨j + 1, rfl, by omega, by simp [s0], by simp [s1], by simp, hs.2 h1⟩
      · have hne := hx h1
        rw [decide_eq_false h1] at hce
        simp -implicitDefEqProofs [s0, s1, s5, hl, hlt, t1, t2, hce, -cellsEq, hne]
    · obtain rfl : j = b.length := by omega
      rw [List.take_length, List.take_of_length_le (by omega)] at he
      simp -implicitDefEqProofs [s0, s5, he]
  · have hne : a ≠ b := fun e => hl (by rw [e])
    simp -implicitDefEqProofs [hl, hne]

set_option maxHeartbeats 1000000 in
theorem refSameSpanT_ok (a b : List SpanT) (ha : a.length ≤ 9223372036854775807) (hb : b.length ≤ 9223372036854775807) : PCall Try.prog 13 [.sl .no (a.map encSpanT), .sl .no (b.map encSpanT)] (.bool (decide (a = b))) := by
  refine PCall.run hb13 ok13 (by simp) (pures_cons (elOK_SpanT.pureL a) (pures1 (elOK_SpanT.pureL b))) (.bool _) ?_
  by_cases hl : a.length = b.length
  · simp -implicitDefEqProofs [hl]
    refine run_loop (fun n s h => ∃ j : Nat, n = b.length - j ∧ j ≤ b.length ∧ s 0 = .sl .no (a.map encSpanT) ∧ s 1 = .sl .no (b.map encSpanT) ∧ s 5 = .int .i64 j ∧ a.take j = b.take j) ?_ b.length ?_
    rotate_left
    · exact ⟨0, by simp []⟩
    rintro n s h ⟨j, hn, hj, s0, s1, s5, he⟩ ih
    by_cases hlt : j < b.length
    · have hlt' : j < a.length := by omega
      have i1 := idxOf_nat (k := .i64) hlt
      have i2 := idxOf_nat (k := .i64) hlt'
      have hs : a.take (j + 1) = b.take (j + 1) ↔ a[j] = b[j] := by
        rw [List.take_succ_eq_append_getElem (l := b) hlt, List.take_succ_eq_append_getElem (l := a) hlt', he]
        simp only [List.append_cancel_left_eq, List.cons.injEq, and_true]
      have hx : a[j] ≠ b[j] → a ≠ b := fun h e => by subst e; exact h rfl
      have hce := cellsEq_SpanT a[j] b[j]
      have t1 := take_SpanT a[j]
      have t2 := take_SpanT b[j]
      simp -implicitDefEqProofs [s0, s5, hl, hlt]
      refine run_dregL c13_d6 rfl ?_
      by_cases h1 : a[j] = b[j]
      · rw [decide_eq_true h1] at hce
        simp -implicitDefEqProofs [s0, s1, s5, hl, hlt, t1, t2, hce, -cellsEq, inc_i64 hlt (by omega), -Int.natCast_add]
        exact ih (b.length - (j + 1)) _ _ (by omega) ⟨j + 1, rfl, by omega, by simp [s0], by simp [s1], by simp, hs.2 h1⟩
      · have hne := hx h1
        rw [decide_eq_false h1] at hce
        simp -implicitDefEqProofs [s0, s1, s5, hl, hlt, t1, t2, hce, -cellsEq, hne]
    · obtain rfl : j = b.length := by omega
      rw [List.take_length, List.take_of_length_le (by omega)] at he
      simp -implicitDefEqProofs [s0, s5, he]
  · have hne : a ≠ b := fun e => hl (by rw [e])
    simp -implicitDefEqProofs [hl, hne]

end Go.Proofs

/- What is written of a template, an instruction, a span, a program, a footprint, a class, as items; the program's writers. -/
namespace Go.Proofs
open Go Go.RowKit Go.Am

def iN (n most : Int) : Item := ⟨0, n, most, 0, ⟨#[]⟩, []⟩
def iX (x : Int) : Item := ⟨1, 0, 0, x, ⟨#[]⟩, []⟩
def iF (r : Bool) : Item := ⟨2, if r then 1 else 0, 0, 0, ⟨#[]⟩, []⟩
def iS (s : ByteArray) : Item := ⟨3, 0, 0, 0, s, []⟩
def keyItems (k : KeyT) : List Item := [iX k.arg, iN k.base 999]
def instItems (x : Inst) : List Item := [iN x.op 255, iN x.a 255, iN x.b 255, iN x.c 255] ++ (keyItems x.k ++ keyItems x.l) ++ [iX x.x]
def progItems (l : List Inst) : List Item := iN l.length 8 :: l.flatMap instItems
def spanItems (s : SpanT) : List Item := (keyItems s.lo ++ keyItems s.hi) ++ [iF s.write]
def footItems (l : List SpanT) : List Item := iN l.length 4 :: l.flatMap spanItems
def stpItems (s : Stp) : List Item := progItems s.code ++ footItems s.foot
def clsItems (c : Cls) : List Item := [iS c.name, iN c.args 3, iN c.steps.length 4] ++ ((c.steps.zip c.comps).flatMap fun p => stpItems p.1 ++ stpItems p.2) ++ [iF c.resume]

theorem writeAll_app (a b : List Item) : writeAll (a ++ b) = writeAll a ++ writeAll b := by simp [writeAll]
theorem w_iN (n most : Int) : writeW (iN n most) = [n.toNat] := rfl
theorem w_iX (x : Int) : writeW (iX x) = [signed x] := rfl
theorem w_iF (r : Bool) : writeW (iF r) = [if r then 1 else 0] := by cases r <;> rfl
theorem w_iS (s : ByteArray) : writeW (iS s) = textW s := rfl
theorem w_keys (k l : KeyT) : writeAll (keyItems k ++ keyItems l) = [k, l].flatMap fun k => [signed k.arg, k.base.toNat] := rfl
theorem w_inst (x : Inst) : writeAll (instItems x) = [x.op, x.a, x.b, x.c].map Int.toNat ++ ([x.k, x.l].flatMap fun k => [signed k.arg, k.base.toNat]) ++ [signed x.x] := rfl
theorem w_span (s : SpanT) : writeAll (spanItems s) = ([s.lo, s.hi].flatMap fun k => [signed k.arg, k.base.toNat]) ++ [if s.write then 1 else 0] := by
  rw [spanItems, writeAll_app, w_keys]; simp [writeAll, w_iF]
theorem w_instLen (x : Inst) : (writeAll (instItems x)).length = 9 := rfl
theorem w_spanLen (s : SpanT) : (writeAll (spanItems s)).length = 5 := by rw [w_span]; rfl
theorem writeAll_flat {α : Type} (f : α → List Item) (l : List α) : writeAll (l.flatMap f) = l.flatMap fun x => writeAll (f x) := by
  simp [writeAll, List.flatMap_assoc]
theorem flat_snoc {α β : Type} (f : α → List β) {l : List α} {j : Nat} (hj : j < l.length) : (l.take (j + 1)).flatMap f = (l.take j).flatMap f ++ f l[j] := by
  rw [List.take_succ_eq_append_getElem hj, List.flatMap_append]; simp
theorem flat_len {α β : Type} (f : α → List β) (n : Nat) (hf : ∀ x, (f x).length = n) (l : List α) : (l.flatMap f).length = n * l.length := by
  induction l with
  | nil => rfl
  | cons x l ih => rw [List.flatMap_cons, List.length_append, hf, ih, List.length_cons, Nat.mul_add]; omega

theorem WTo.refl {h : H} {b : Nat} {t : Tok} {ws : List Nat} (hw : WB h b t ws) : WTo h b t ws h t := ⟨hw, .inl rfl, HF.refl _ _ _⟩
theorem WTo.al {h h1 : H} {b : Nat} {t t1 : Tok} {ws : List Nat} (a : WTo h b t ws h1 t1) (cs : List AV) : WTo h b t ws (h1.alloc cs) t1 := ⟨a.wb.alloc cs, a.next, a.keep.trans (HF.alloc _ _ _ _)⟩
theorem WTo.so {h h1 : H} {b b' : Nat} {t t1 : Tok} {ws : List Nat} (a : WTo h b t ws h1 t1) (hn : h.bn ≤ b') (hb : b < h.bn) (cs : List AV) : WTo h b t ws (h1.set b' cs) t1 :=
  ⟨⟨by simpa using a.wb.lt, by simp [show ¬ b = b' by omega, a.wb.bx], by simpa using a.wb.live⟩, a.next, a.keep.trans' (HF.set (B := (· = b')) _ rfl) (fun x hx e => by have e : x = b' := e; omega) (fun _ _ h => h)⟩

theorem templates_ok {h : H} {b : Nat} {t : Tok} {ws : List Nat} (hw : WB h b t ws) (ks : List KeyT) (hk : ∀ k ∈ ks, k.wf) (hl : ws.length + 2 * ks.length ≤ 900000) : WAdd 47 [.ptr b 0, .sl .no (ks.map encKeyT)] h b t (ws ++ ks.flatMap fun k => [signed k.arg, k.base.toNat]) := by
  refine CallP.run hb47 ok47 (by simp) ?_
  have hb := hw.lt
  simp -implicitDefEqProofs []
  refine run_loop (fun m S h1 => ∃ (j : Nat) (t1 : Tok), m = ks.length - j ∧ j ≤ ks.length ∧ S 0 = .ptr b 0 ∧ S 6 = .sl .no (ks.map encKeyT) ∧ S 7 = .int .i64 ks.length ∧ S 8 = .int .i64 j ∧ WTo h b t (ws ++ (ks.take j).flatMap fun k => [signed k.arg, k.base.toNat]) h1 t1) ?_ ks.length ?_
  rotate_left
  · exact ⟨0, t, by simpa using WTo.refl hw⟩
  rintro m S h1 ⟨j, t1, hm, hj, s0, s6, s7, s8, hq⟩ ih
  by_cases hlt : j < ks.length
  · have he := flat_snoc (fun k : KeyT => [signed k.arg, k.base.toNat]) hlt
    have hfl := flat_len (fun k : KeyT => [signed k.arg, k.base.toNat]) 2 (fun _ => rfl) (ks.take j)
    rw [List.length_take] at hfl
    obtain ⟨⟨a1, a2⟩, b1, b2⟩ := hk _ (List.getElem_mem hlt)
    have hbn := hq.keep.bn
    have z : ¬ b = h1.bn := by omega
    simp -implicitDefEqProofs [s0, s6, s7, s8, hlt, encKeyT]
    have k1 := (hq.al [.int .i64 0, .int .i64 0]).so (b' := h1.bn) hbn hb [.int .i64 ks[j].arg, .int .i64 ks[j].base]
    refine callW (wsigned_ok k1.wb ks[j].arg a1 a2 (by rw [List.length_append, hfl]; omega)) (by simp) fun r h2 t2 q2 => ?_
    have k2 := k1.trans q2
    have f2 : h2.bx h1.bn = some [.int .i64 ks[j].arg, .int .i64 ks[j].base] := by rw [q2.keep.bx _ (by simp) (fun e => z e.symm)]; simp
    have n2 : h1.bn < h2.bn := Nat.lt_of_lt_of_le (by simp) q2.keep.bn
    simp -implicitDefEqProofs [s0, f2, n2]
    refine callW (count_ok q2.wb ks[j].base b2 (by rw [List.length_append, List.length_append, hfl]; simp; omega)) (by simp) fun r h3 t3 q3 => ?_
    have k3 := k2.trans q3
    rw [List.append_assoc, List.append_assoc, show [signed ks[j].arg] ++ [ks[j].base.toNat] = [signed ks[j].arg, ks[j].base.toNat] from rfl, ← he] at k3
    simp -implicitDefEqProofs [s8, inc_i64 hlt (show ks.length ≤ _ by omega), -Int.natCast_add]
    exact ih (ks.length - (j + 1)) _ _ (by omega) ⟨j + 1, t3, rfl, by omega, by simp [s0], by simp [s6], by simp [s7], by simp, k3⟩
  · obtain rfl : j = ks.length := by omega
    rw [List.take_length] at hq
    simp -implicitDefEqProofs [s7, s8]
    exact ⟨t1, hq⟩
end Go.Proofs

/- The program's writers of programs and footprints. -/
namespace Go.Proofs
open Go Go.RowKit Go.Am

theorem progW_len (l : List Inst) : (writeAll (l.flatMap instItems)).length = 9 * l.length := by
  rw [writeAll_flat]; exact flat_len _ 9 w_instLen l
theorem footW_len (l : List SpanT) : (writeAll (l.flatMap spanItems)).length = 5 * l.length := by
  rw [writeAll_flat]; exact flat_len _ 5 w_spanLen l
theorem writeAll_cons (x : Item) (l : List Item) : writeAll (x :: l) = writeW x ++ writeAll l := by simp [writeAll]

end Go.Proofs

/- The steps of a class, over which one ranges, whatever a round does. -/
namespace Go.Proofs
open Go Go.RowKit Go.Am

set_option maxHeartbeats 1000000 in
theorem each4_run (c : Cls) {l b j : Nat} {s : Slots} {h : H} (hlt : j < c.steps.length) (hlt2 : j < c.comps.length) (s0 : s 0 = .yld l) (s1 : s 1 = .ptr b 0) (s3 : s 3 = .int .i64 j) (b1 : b < h.bn) (b2 : h.bx b = some (encCls c))
    {G B : H → Prop} (hr : ∀ K : AV → H → Prop, (∀ h', G h' → K (.bool true) h') → (∀ h', B h' → K (.bool false) h') → callQ Try.prog (.yld l) [.agg (encStp c.steps[j]), .agg (encStp c.comps[j])] h K)
    {inr : Bool} {k : List It} {Q : Res → Slots → H → Prop} (hk : ∀ S h' r, S 26 = .bool (!r) → (∀ y, y < 14 → S y = s y) → (r = true → G h') → (r = false → B h') → Run Try.prog inr k Q S h') :
    Run Try.prog inr (.c (.dreg c81_r4 c81_a4) :: k) Q s h := by
  let V : Nat → AV := fun i => match i with
    | 0 => .yld l | 1 => .ptr b 2 | 2 => .sl .no (c.steps.map encStp) | 3 => .int .i64 j | 4 => .rop (encStp c.steps[j]) | 5 => .agg (encStp c.steps[j])
    | 6 => .ptr b 3 | 7 => .sl .no (c.comps.map encStp) | 8 => .int .i64 j | 9 => .rop (encStp c.comps[j]) | _ => .agg (encStp c.comps[j])
  let Inv : List Nat → Slots → H → Prop := fun done S h' => (∀ i ∈ done, i < 13) ∧ (∀ i ∈ done, ∀ q ∈ c81_a4.getD i [], q ∈ done) ∧ (∀ y, y < 14 → S y = s y) ∧ (∀ i ∈ done, i < 11 → S (14 + i) = V i) ∧
    (11 ∉ done → h' = h) ∧ (11 ∈ done → ∃ r, S 25 = .bool r ∧ (12 ∈ done → S 26 = .bool (!r)) ∧ (r = true → G h') ∧ (r = false → B h'))
  rw [encCls] at b2
  refine run_topoQ (Inv := Inv) ?_ ⟨(fun i hi => absurd hi List.not_mem_nil), (fun i hi => absurd hi List.not_mem_nil), fun _ _ => rfl, (fun i hi => absurd hi List.not_mem_nil), fun _ => rfl, (fun hi => absurd hi List.not_mem_nil)⟩ ?_
  · rintro i x done S h' hx hnd haft ⟨d0, d1, d2, d3, d4, d5⟩
    have hi : i < 13 := (List.getElem?_eq_some_iff.1 hx).1
    have cl : ∀ m ∈ i :: done, ∀ q ∈ c81_a4.getD m [], q ∈ i :: done := fun m hm q hq => by
      rcases List.mem_cons.1 hm with rfl | hm
      · exact List.mem_cons_of_mem _ (haft q hq)
      · exact List.mem_cons_of_mem _ (d1 m hm q hq)
    have lt : ∀ m ∈ i :: done, m < 13 := fun m hm => by rcases List.mem_cons.1 hm with rfl | hm; exact hi; exact d0 m hm
    -- what stands before the call
    have anc : 11 ∈ done → ∀ q, q < 11 → q ∈ done := fun h11 q hq => by
      have m0 := d1 11 h11 0 (by decide)
      have m5 := d1 11 h11 5 (by decide)
      have m10 := d1 11 h11 10 (by decide)
      have m4 := d1 5 m5 4 (by decide)
      have m2 := d1 4 m4 2 (by decide)
      have m3 := d1 4 m4 3 (by decide)
      have m1 := d1 2 m2 1 (by decide)
      have m9 := d1 10 m10 9 (by decide)
      have m7 := d1 9 m9 7 (by decide)
      have m8 := d1 9 m9 8 (by decide)
      have m6 := d1 7 m7 6 (by decide)
      have : q = 0 ∨ q = 1 ∨ q = 2 ∨ q = 3 ∨ q = 4 ∨ q = 5 ∨ q = 6 ∨ q = 7 ∨ q = 8 ∨ q = 9 ∨ q = 10 := by omega
      rcases this with rfl | rfl | rfl | rfl | rfl | rfl | rfl | rfl | rfl | rfl | rfl <;> assumption
    have light : ∀ (hi11 : i < 11), (11 ∉ done → pv x.op (ev S) h = some (V i)) → x.dst = some (14 + i) → x.g = none → (∀ K : AV → H → Prop, ob (pv x.op (ev S) h') (fun v => K v h') → wpI Try.prog x.op (ev S) h' K) → x.g = none ∧ wpI Try.prog x.op (ev S) h' fun v h1 => Inv (i :: done) (put S x.dst v) h1 := fun hi11 hv hd hg hw => by
      have h11 : 11 ∉ done := fun h => hnd (anc h i hi11)
      refine ⟨hg, hw _ ?_⟩
      obtain rfl := d4 h11
      rw [hv h11]
      refine ⟨lt, cl, fun y hy => ?_, fun m hm hm11 => ?_, fun _ => rfl, fun h => ?_⟩
      · rw [hd]
        show su S (14 + i) _ y = _
        rw [su_ne (by omega)]
        exact d2 y hy
      · rw [hd]
        show su S (14 + i) _ (14 + m) = _
        by_cases e : m = i
        · subst e; exact su_eq
        · rw [su_ne (by omega)]
          exact d3 m (by rcases List.mem_cons.1 hm with h | h; exact absurd h e; exact h) hm11
      · rcases List.mem_cons.1 h with h | h
        · omega
        · exact absurd h h11
    have t0 : S 0 = .yld l := by rw [d2 0 (by decide)]; exact s0
    have t1 : S 1 = .ptr b 0 := by rw [d2 1 (by decide)]; exact s1
    have t3 : S 3 = .int .i64 j := by rw [d2 3 (by decide)]; exact s3
    have h13 : i = 0 ∨ i = 1 ∨ i = 2 ∨ i = 3 ∨ i = 4 ∨ i = 5 ∨ i = 6 ∨ i = 7 ∨ i = 8 ∨ i = 9 ∨ i = 10 ∨ i = 11 ∨ i = 12 := by omega
    rcases h13 with rfl | rfl | rfl | rfl | rfl | rfl | rfl | rfl | rfl | rfl | rfl | rfl | rfl
    · cases hx; exact light (by decide) (fun _ => by simp [t0, V]) rfl rfl fun K hK => hK
    · cases hx; exact light (by decide) (fun _ => by simp [t1, V]) rfl rfl fun K hK => hK
    · cases hx
      have e1 := d3 1 (haft 1 (by decide)) (by decide)
      exact light (by decide) (fun _ => by simp [e1, V, b1, b2]) rfl rfl fun K hK => hK
    · cases hx; exact light (by decide) (fun _ => by simp [t3, V]) rfl rfl fun K hK => hK
    · cases hx
      have e1 := d3 2 (haft 2 (by decide)) (by decide)
      have e2 := d3 3 (haft 3 (by decide)) (by decide)
      exact light (by decide) (fun _ => by simp [e1, e2, V, hlt, encStp]) rfl rfl fun K hK => hK
    · cases hx
      have e1 := d3 4 (haft 4 (by decide)) (by decide)
      exact light (by decide) (fun _ => by simp [e1, V, encStp]) rfl rfl fun K hK => hK
    · cases hx; exact light (by decide) (fun _ => by simp [t1, V]) rfl rfl fun K hK => hK
    · cases hx
      have e1 := d3 6 (haft 6 (by decide)) (by decide)
      exact light (by decide) (fun _ => by simp [e1, V, b1, b2]) rfl rfl fun K hK => hK
    · cases hx; exact light (by decide) (fun _ => by simp [t3, V]) rfl rfl fun K hK => hK
    · cases hx
      have e1 := d3 7 (haft 7 (by decide)) (by decide)
      have e2 := d3 8 (haft 8 (by decide)) (by decide)
      exact light (by decide) (fun _ => by simp [e1, e2, V, hlt2, encStp]) rfl rfl fun K hK => hK
    · cases hx
      have e1 := d3 9 (haft 9 (by decide)) (by decide)
      exact light (by decide) (fun _ => by simp [e1, V, encStp]) rfl rfl fun K hK => hK
    · cases hx
      obtain rfl := d4 hnd
      have e1 : S 14 = _ := d3 0 (haft 0 (by decide)) (by decide)
      have e2 : S 19 = _ := d3 5 (haft 5 (by decide)) (by decide)
      have e3 : S 24 = _ := d3 10 (haft 10 (by decide)) (by decide)
      have hn12 : 12 ∉ done := fun h => hnd (d1 12 h 11 (by decide))
      refine ⟨rfl, ?_⟩
      show callQ Try.prog (S 14) [S 19, S 24] h' _
      rw [e1, e2, e3]
      have fin : ∀ (r : Bool) (h2 : H), (r = true → G h2) → (r = false → B h2) → Inv (11 :: done) (put S (some 25) (.bool r)) h2 := fun r h2 g1 g2 => by
        refine ⟨lt, cl, fun y hy => ?_, fun m hm hm11 => ?_, fun h => absurd (List.mem_cons_self ..) h, fun _ => ⟨r, su_eq, fun h => ?_, g1, g2⟩⟩
        · show su S 25 _ y = _
          rw [su_ne (by omega)]; exact d2 y hy
        · show su S 25 _ (14 + m) = _
          rw [su_ne (by omega)]
          exact d3 m (by rcases List.mem_cons.1 hm with h | h; omega; exact h) hm11
        · rcases List.mem_cons.1 h with h | h
          · cases h
          · exact absurd h hn12
      exact hr _ (fun h2 g => fin true h2 (fun _ => g) (fun h => by cases h)) (fun h2 g => fin false h2 (fun h => by cases h) (fun _ => g))
    · cases hx
      obtain ⟨r, r1, r2, r3, r4⟩ := d5 (haft 11 (by decide))
      refine ⟨rfl, ?_⟩
      show ob (unA .not (S 25)) _
      rw [r1]
      refine ⟨lt, cl, fun y hy => ?_, fun m hm hm11 => ?_, fun h => absurd (List.mem_cons_of_mem _ (haft 11 (by decide))) h, fun _ => ⟨r, ?_, fun _ => su_eq, r3, r4⟩⟩
      · show su S 26 _ y = _
        rw [su_ne (by omega)]; exact d2 y hy
      · show su S 26 _ (14 + m) = _
        rw [su_ne (by omega)]
        exact d3 m (by rcases List.mem_cons.1 hm with h | h; omega; exact h) hm11
      · show su S 26 _ 25 = _
        rw [su_ne (by decide)]; exact r1
  · rintro done S h' hall ⟨d0, d1, d2, d3, d4, d5⟩
    obtain ⟨r, r1, r2, r3, r4⟩ := d5 (hall 11 (by decide))
    exact hk S h' r (r2 (hall 12 (by decide))) d2 r3 r4

theorem each1Q_ok (c : Cls) (hl : c.comps.length = c.steps.length) (hm : c.steps.length ≤ 9223372036854775807) {l b : Nat} {h : H} (I : Nat → H → Prop) (J : H → Prop) (hI : ∀ k h', I k h' → b < h'.bn ∧ h'.bx b = some (encCls c))
    (hr : ∀ k h' (h1 : k < c.steps.length) (h2 : k < c.comps.length), I k h' → ∀ K : AV → H → Prop, (∀ h'', I (k + 1) h'' → K (.bool true) h'') → (∀ h'', J h'' → K (.bool false) h'') → callQ Try.prog (.yld l) [.agg (encStp c.steps[k]), .agg (encStp c.comps[k])] h' K)
    (h0 : I 0 h) : CallP Try.prog 81 [.yld l, .ptr b 0] h fun _ h1 => I c.steps.length h1 ∨ J h1 := by
  refine CallP.run hb81 ok81 (by simp) ?_
  obtain ⟨b1, b2⟩ := hI _ _ h0
  simp -implicitDefEqProofs [b1, b2, encCls, hl]
  refine run_loop (fun m s h1 => ∃ j : Nat, m = c.steps.length - j ∧ j ≤ c.steps.length ∧ s 0 = .yld l ∧ s 1 = .ptr b 0 ∧ s 10 = .int .i64 c.steps.length ∧ s 11 = .int .i64 j ∧ I j h1) ?_ c.steps.length ?_
  rotate_left
  · exact ⟨0, by simpa using h0⟩
  rintro m s h1 ⟨j, hn, hj, s0, s1, s10, s11, hi⟩ ih
  by_cases hlt : j < c.steps.length
  · have hlt2 : j < c.comps.length := by omega
    obtain ⟨b1, b2⟩ := hI _ _ hi
    simp -implicitDefEqProofs [s10, s11, hlt]
    refine each4_run c hlt hlt2 (by simp [s0]) (by simp [s1]) (by simp) b1 b2 (G := I (j + 1)) (B := J) (hr j h1 hlt hlt2 hi) ?_
    intro S h2 r t26 tS g1 g2
    have t0 : S 0 = .yld l := by rw [tS 0 (by decide)]; simp [s0]
    have t1 : S 1 = .ptr b 0 := by rw [tS 1 (by decide)]; simp [s1]
    have t10 : S 10 = .int .i64 c.steps.length := by rw [tS 10 (by decide)]; simp [s10]
    have t11 : S 11 = .int .i64 j := by rw [tS 11 (by decide)]; simp [s11]
    cases r
    · simp -implicitDefEqProofs [t26]
      exact Or.inr (g2 rfl)
    · simp -implicitDefEqProofs [t26, t11, inc_i64 hlt hm, -Int.natCast_add]
      exact ih (c.steps.length - (j + 1)) _ _ (by omega) ⟨j + 1, rfl, by omega, by simp [t0], by simp [t1], by simp [t10], by simp, g1 rfl⟩
  · obtain rfl : j = c.steps.length := by omega
    simp -implicitDefEqProofs [s10, s11]
    exact Or.inl hi
end Go.Proofs

/- The program's writers of footprints, steps and classes. -/
namespace Go.Proofs
open Go Go.RowKit Go.Am

theorem footPut_ok {h : H} {b : Nat} {t : Tok} {ws : List Nat} (hw : WB h b t ws) (l : List SpanT) (h4 : l.length ≤ 4) (hx : ∀ x ∈ l, x.wf) (hl : ws.length ≤ 810000) : WAdd 27 [.ptr b 0, .sl .no (l.map encSpanT)] h b t (ws ++ writeAll (footItems l)) := by
  refine CallP.run hb27 ok27 (by simp) ?_
  have hb := hw.lt
  simp -implicitDefEqProofs []
  refine callW (count_ok hw (l.length : Int) (by omega) (by omega)) (by simp) fun r h0 t0 q0 => ?_
  rw [Int.toNat_natCast] at q0
  simp -implicitDefEqProofs []
  refine run_loop (fun m S h1 => ∃ (j : Nat) (t1 : Tok), m = l.length - j ∧ j ≤ l.length ∧ S 0 = .ptr b 0 ∧ S 10 = .sl .no (l.map encSpanT) ∧ S 11 = .int .i64 l.length ∧ S 12 = .int .i64 j ∧ WTo h b t (ws ++ [l.length] ++ writeAll ((l.take j).flatMap spanItems)) h1 t1) ?_ l.length ?_
  rotate_left
  · exact ⟨0, t0, rfl, Nat.zero_le _, by simp, by simp, by simp, by simp, by simpa [writeAll] using q0⟩
  rintro m S h1 ⟨j, t1, hm, hj, s0, s10, s11, s12, hq⟩ ih
  by_cases hlt : j < l.length
  · have he := flat_snoc spanItems hlt
    have hlen := footW_len (l.take j)
    rw [List.length_take] at hlen
    have hws : (ws ++ [l.length] ++ writeAll ((l.take j).flatMap spanItems)).length ≤ 810100 := by rw [List.length_append, List.length_append, hlen]; simp; omega
    obtain ⟨x1, x2⟩ := hx _ (List.getElem_mem hlt)
    generalize hxe : l[j] = x at he x1 x2
    have hbn := hq.keep.bn
    have z : ¬ b = h1.bn := by omega
    simp -implicitDefEqProofs [s0, s10, s11, s12, hlt, hxe, encSpanT]
    have k1 := (hq.al [.int .i64 0, .int .i64 0, .int .i64 0, .int .i64 0, .bool false]).so (b' := h1.bn) hbn hb (encSpanT x)
    rw [encSpanT] at k1
    have hks : ∀ k ∈ [x.lo, x.hi], k.wf := by intro k hk; simp only [List.mem_cons, List.not_mem_nil, or_false] at hk; rcases hk with rfl | rfl <;> assumption
    refine callW (templates_ok k1.wb [x.lo, x.hi] hks (by simp only [List.length_cons, List.length_nil]; omega)) (by simp [encKeyT]) fun r h2 t2 q2 => ?_
    have k2 := k1.trans q2
    have f2 : h2.bx h1.bn = some (encSpanT x) := by rw [q2.keep.bx _ (by simp) (fun e => z e.symm)]; simp [encSpanT]
    rw [encSpanT] at f2
    have n2 : h1.bn < h2.bn := Nat.lt_of_lt_of_le (by simp) q2.keep.bn
    simp -implicitDefEqProofs [s0, f2, n2]
    refine callW (wflag_ok k2.wb x.write (by rw [List.length_append]; simp only [List.flatMap_cons, List.flatMap_nil, List.length_append, List.length_cons, List.length_nil] at hws ⊢; omega)) (by simp) fun r h3 t3 q3 => ?_
    have k3 := k2.trans q3
    have hw9 : ws ++ [l.length] ++ writeAll ((l.take j).flatMap spanItems) ++ ([x.lo, x.hi].flatMap fun k => [signed k.arg, k.base.toNat]) ++ [if x.write = true then 1 else 0] = ws ++ [l.length] ++ writeAll ((l.take (j + 1)).flatMap spanItems) := by
      rw [he, writeAll_app, w_span]; simp
    rw [hw9] at k3
    simp -implicitDefEqProofs [s12, inc_i64 hlt (show l.length ≤ _ by omega), -Int.natCast_add]
    exact ih (l.length - (j + 1)) _ _ (by omega) ⟨j + 1, t3, rfl, by omega, by simp [s0], by simp [s10], by simp [s11], by simp, k3⟩
  · obtain rfl : j = l.length := by omega
    rw [List.take_length] at hq
    simp -implicitDefEqProofs [s11, s12]
    refine ⟨t1, ?_⟩
    rw [footItems, writeAll_cons, w_iN, Int.toNat_natCast, ← List.append_assoc]
    exact hq

theorem progI_len (l : List Inst) : (writeAll (progItems l)).length = 1 + 9 * l.length := by rw [progItems, writeAll_cons, List.length_append, progW_len]; rfl
theorem footI_len (l : List SpanT) : (writeAll (footItems l)).length = 1 + 5 * l.length := by rw [footItems, writeAll_cons, List.length_append, footW_len]; rfl
theorem stp_len (s : Stp) (h : s.small) : (writeAll (stpItems s)).length ≤ 94 := by
  rw [stpItems, writeAll_app, List.length_append, progI_len, footI_len]
  have := h.1; have := h.2; omega

end Go.Proofs

/- The program's writer of classes. -/
namespace Go.Proofs
open Go Go.RowKit Go.Am

theorem WTo.sl {h h1 : H} {b : Nat} {t t1 : Tok} {ws : List Nat} (a : WTo h b t ws h1 t1) {L : Nat} (hL : h.ln ≤ L) (o : Option LoopA) : WTo h b t ws (h1.setLoop L o) t1 :=
  ⟨⟨a.wb.lt, a.wb.bx, by have := a.wb.live; unfold TLive at this ⊢; split <;> simp_all⟩, a.next, ⟨a.keep.bn, a.keep.bx, a.keep.tn, a.keep.tk, a.keep.ln, fun l hl => by have := a.keep.lp l hl; simp [show ¬ l = L by omega]; exact this, a.keep.mn, a.keep.mp⟩⟩
theorem WTo.nl {h h1 : H} {b : Nat} {t t1 : Tok} {ws : List Nat} (a : WTo h b t ws h1 t1) (q : LoopA) : WTo h b t ws (h1.newLoop q) t1 :=
  ⟨⟨a.wb.lt, a.wb.bx, by have := a.wb.live; unfold TLive at this ⊢; split <;> simp_all⟩, a.next, ⟨a.keep.bn, a.keep.bx, a.keep.tn, a.keep.tk, by have := a.keep.ln; simp; omega, fun l hl => by have := a.keep.lp l hl; have h2 := a.keep.ln; simp [show ¬ l = h1.ln by omega]; exact this, a.keep.mn, a.keep.mp⟩⟩

def pairItems (p : Stp × Stp) : List Item := stpItems p.1 ++ stpItems p.2
theorem pair_len (p : Stp × Stp) (h : p.1.small ∧ p.2.small) : (writeAll (pairItems p)).length ≤ 188 := by
  rw [pairItems, writeAll_app, List.length_append]
  have := stp_len p.1 h.1; have := stp_len p.2 h.2; omega

end Go.Proofs

/- What is written, as items: the document's answer. -/
namespace Go.Proofs
open Go Go.RowKit Go.Am

/-- Cells that are these items', where what a slice is over doesn't count. -/
def AreI (es : List (List AV)) (a : List Item) : Prop := es.map (List.map wk) = a.map encItm
theorem AreI.len {es : List (List AV)} {a : List Item} (h : AreI es a) : es.length = a.length := by have := congrArg List.length h; simpa using this
theorem AreI.six {es : List (List AV)} {a : List Item} (h : AreI es a) : ∀ e ∈ es, e.length = 6 := fun e he => by
  have hm : e.map wk ∈ a.map encItm := by rw [← h]; exact List.mem_map.2 ⟨e, he, rfl⟩
  obtain ⟨x, _, hx⟩ := List.mem_map.1 hm
  have := congrArg List.length hx
  simpa [encItm] using this.symm
theorem AreI.app {es es2 : List (List AV)} {a b : List Item} (h : AreI es a) (h2 : AreI es2 b) : AreI (es ++ es2) (a ++ b) := by unfold AreI at *; rw [List.map_append, List.map_append, h, h2]
theorem AreI.self (a : List Item) : AreI (a.map encItm) a := by unfold AreI; simp []
/-- Items are appended. -/
theorem appQ_i {h : H} {t t2 : Tok} {es es2 : List (List AV)} {a b : List Item} {K : AV → H → Prop} (e1 : AreI es a) (e2 : AreI es2 b) (ht : TLive h t es.length) (hl : a.length + b.length ≤ 100000)
    (hk : ∀ t' h' es', AreI es' (a ++ b) → TLive h' t' es'.length → HF h h' (fun _ => False) (TOwn t) → h'.bn = h.bn → K (.sl t' es') h') : appQ h 6 72 (.sl t es) (.sl t2 es2) K := by
  refine appQ_tok (es2 := es2) ht e1.six ?_ (by rw [e1.len, e2.len]; omega) fun t' h' q1 q2 q3 q4 => hk t' h' _ (e1.app e2) q1 q3 q4
  simp only [srcA]
  rw [if_pos e2.six]

theorem inst_n (x : Inst) : (instItems x).length = 9 := rfl
theorem span_n (x : SpanT) : (spanItems x).length = 5 := rfl
theorem prog_n (l : List Inst) : (l.flatMap instItems).length = 9 * l.length := flat_len _ 9 inst_n l
theorem foot_n (l : List SpanT) : (l.flatMap spanItems).length = 5 * l.length := flat_len _ 5 span_n l

end Go.Proofs

/- What is written of footprints and classes, as items; the words of items: the document's answer. -/
namespace Go.Proofs
open Go Go.RowKit Go.Am

theorem refFootItems_ok (l : List SpanT) (h8 : l.length ≤ 4) : PCall Try.prog 31 [.sl .no (l.map encSpanT)] (encIs (footItems l)) := by
  refine PCall.run hb31 ok31 (by simp) (pures1 (elOK_SpanT.pureL l)) (pure_encIs _) ?_
  simp -implicitDefEqProofs [H.nil]
  refine run_loop (fun m S h1 => ∃ (j : Nat) (t : Tok), m = l.length - j ∧ j ≤ l.length ∧ S 0 = .sl .no (l.map encSpanT) ∧ (∃ es, S 3 = .sl t es ∧ AreI es (iN l.length 4 :: (l.take j).flatMap spanItems) ∧ TLive h1 t es.length) ∧ S 4 = .int .i64 j) ?_ l.length ?_
  rotate_left
  · exact ⟨0, .full, rfl, Nat.zero_le _, by simp, ⟨_, by simp; rfl, by simp [AreI, iN, encItm], trivial⟩, by simp⟩
  rintro m S h1 ⟨j, t, hm, hj, s0, ⟨es, s3, hA0, hL⟩, s4⟩ ih
  by_cases hlt : j < l.length
  · have he := flat_snoc spanItems hlt
    have hn := foot_n (l.take j)
    rw [List.length_take] at hn
    generalize hxe : l[j] = x at he
    generalize hA : iN l.length 4 :: (l.take j).flatMap spanItems = A at hA0
    have hAl : A.length ≤ 80 := by rw [← hA]; simp only [List.length_cons]; omega
    have hfin : A ++ [iX x.lo.arg, iN x.lo.base 999, iX x.hi.arg, iN x.hi.base 999, iF x.write] = iN l.length 4 :: (l.take (j + 1)).flatMap spanItems := by
      rw [he, ← hA, spanItems, keyItems, keyItems]; simp
    cases hwr : x.write
    focus
      simp -implicitDefEqProofs [s0, s4, hlt, hxe, encSpanT, hwr]
    rotate_left
    focus
      simp -implicitDefEqProofs [s0, s4, hlt, hxe, encSpanT, hwr]
    all_goals
      refine run_dreg c31_d8 ?_
      simp -implicitDefEqProofs [s0, s3, s4, hlt, hxe, encSpanT]
      refine appQ_i (b := [iX x.lo.arg, iN x.lo.base 999, iX x.hi.arg, iN x.hi.base 999, iF x.write]) hA0 (by simp [AreI, iN, iX, iF, encItm, hwr]) hL (by simp only [List.length_cons, List.length_nil]; omega) fun t1 h2 e1 a1 p1 p2 p3 => ?_
      rw [hfin] at a1
      simp -implicitDefEqProofs [s4, inc_i64 hlt (show l.length ≤ _ by omega), -Int.natCast_add]
      exact ih (l.length - (j + 1)) _ _ (by omega) ⟨j + 1, t1, rfl, by omega, by simp [s0], ⟨e1, by simp, a1, p1⟩, by simp⟩
  · obtain rfl : j = l.length := by omega
    rw [List.take_length] at hA0
    simp -implicitDefEqProofs [s0, s3, s4]
    rw [encIs, footItems]
    exact congrArg (AV.sl .no) hA0

theorem stpI_n (s : Stp) (h : s.small) : (stpItems s).length ≤ 94 := by
  rw [stpItems, progItems, footItems, List.length_append, List.length_cons, List.length_cons, prog_n, foot_n]
  have := h.1; have := h.2; omega

end Go.Proofs

/- The words of items: the document's answer; what is the same as itself: the program's answer. -/
namespace Go.Proofs
open Go Go.RowKit Go.Am

theorem refWords_ok (l : List Item) (hl : l.length ≤ 5000) (hx : ∀ x ∈ l, x.ok ∧ x.l.length ≤ 100) : PCall Try.prog 30 [encIs l] (encW (writeAll l)) := by
  refine PCall.run hb30 ok30 (by simp) (pures1 (pure_encIs l)) (pure_w64 _) ?_
  simp -implicitDefEqProofs [encIs, H.nil]
  refine run_loop (fun m S h1 => ∃ (j : Nat) (t : Tok), m = l.length - j ∧ j ≤ l.length ∧ S 0 = .sl .no (l.map encItm) ∧ S 3 = .sl t ((writeAll (l.take j)).map w64) ∧ S 4 = .int .i64 j ∧ TLive h1 t (writeAll (l.take j)).length) ?_ l.length ?_
  rotate_left
  · exact ⟨0, .full, rfl, Nat.zero_le _, by simp, by simp [writeAll], by simp, trivial⟩
  rintro m S h1 ⟨j, t, hm, hj, s0, s3, s4, hL⟩ ih
  by_cases hlt : j < l.length
  · have hb := writeAll_len (l.take j) fun x hx' => (hx x (List.mem_of_mem_take hx')).2
    rw [List.length_take] at hb
    obtain ⟨x1, x2⟩ := hx _ (List.getElem_mem hlt)
    have hsnoc : writeAll (l.take (j + 1)) = writeAll (l.take j) ++ writeW l[j] := by
      unfold writeAll
      rw [List.take_succ_eq_append_getElem hlt, List.flatMap_append, List.flatMap_singleton]
    have e6 : (encItm l[j]).length = 6 := rfl
    have e7 : List.take 6 (encItm l[j]) = encItm l[j] := rfl
    simp -implicitDefEqProofs [s0, s3, s4, hlt, e6, e7]
    refine callQ_ex (refWrite_ok hL l[j] x1 (by omega)) fun r2 h2 ⟨t3, q2⟩ => ?_
    obtain ⟨rfl, p2, p3, p4⟩ := q2
    rw [← hsnoc] at p2
    rw [← hsnoc]
    simp -implicitDefEqProofs [s4, inc_i64 hlt (show l.length ≤ _ by omega), -Int.natCast_add]
    exact ih (l.length - (j + 1)) _ _ (by omega) ⟨j + 1, t3, rfl, by omega, by simp [s0], by simp, by simp, p2⟩
  · obtain rfl : j = l.length := by omega
    rw [List.take_length] at s3
    simp -implicitDefEqProofs [s0, s3, s4]

theorem eqSelfInst_ok (l : List Inst) (hl : l.length ≤ 9223372036854775807) : PCall Try.prog 65 [.sl .no (l.map encInst), .sl .no (l.map encInst)] (.bool true) := by
  refine PCall.run hb65 ok65 (by simp) (pures_cons (elOK_Inst.pureL l) (pures1 (elOK_Inst.pureL l))) (.bool _) ?_
  simp -implicitDefEqProofs []
  refine run_loop (fun n s h => ∃ j : Nat, n = l.length - j ∧ j ≤ l.length ∧ s 0 = .sl .no (l.map encInst) ∧ s 1 = .sl .no (l.map encInst) ∧ s 12 = .int .i64 l.length ∧ s 13 = .int .i64 j) ?_ l.length ?_
  rotate_left
  · exact ⟨0, by simp⟩
  rintro n s h ⟨j, hn, hj, s0, s1, s12, s13⟩ ih
  by_cases hlt : j < l.length
  · simp -implicitDefEqProofs [s12, s13, hlt]
    refine run_dregL c65_d7 rfl ?_
    simp -implicitDefEqProofs [s0, s1, s13, hlt, encInst, inc_i64 hlt hl, -Int.natCast_add]
    exact ih (l.length - (j + 1)) _ _ (by omega) ⟨j + 1, rfl, by omega, by simp [s0], by simp [s1], by simp [s12], by simp⟩
  · simp -implicitDefEqProofs [s12, s13, hlt]
theorem eqSelfSpanT_ok (l : List SpanT) (hl : l.length ≤ 9223372036854775807) : PCall Try.prog 66 [.sl .no (l.map encSpanT), .sl .no (l.map encSpanT)] (.bool true) := by
  refine PCall.run hb66 ok66 (by simp) (pures_cons (elOK_SpanT.pureL l) (pures1 (elOK_SpanT.pureL l))) (.bool _) ?_
  simp -implicitDefEqProofs []
  refine run_loop (fun n s h => ∃ j : Nat, n = l.length - j ∧ j ≤ l.length ∧ s 0 = .sl .no (l.map encSpanT) ∧ s 1 = .sl .no (l.map encSpanT) ∧ s 12 = .int .i64 l.length ∧ s 13 = .int .i64 j) ?_ l.length ?_
  rotate_left
  · exact ⟨0, by simp⟩
  rintro n s h ⟨j, hn, hj, s0, s1, s12, s13⟩ ih
  by_cases hlt : j < l.length
  · simp -implicitDefEqProofs [s12, s13, hlt]
    refine run_dregL c66_d7 rfl ?_
    simp -implicitDefEqProofs [s0, s1, s13, hlt, encSpanT, inc_i64 hlt hl, -Int.natCast_add]
    exact ih (l.length - (j + 1)) _ _ (by omega) ⟨j + 1, rfl, by omega, by simp [s0], by simp [s1], by simp [s12], by simp⟩
  · simp -implicitDefEqProofs [s12, s13, hlt]
theorem sameStep_ok (s : Stp) (hs : s.wf) : PCall Try.prog 41 [.agg (encStp s), .agg (encStp s)] (.bool true) := by
  refine PCall.run hb41 ok41 (by simp) (pures_cons (.agg (pure_encStp s)) (pures1 (.agg (pure_encStp s)))) (.bool _) ?_
  simp -implicitDefEqProofs [encStp, H.nil]
  refine callQ_p (eqSelfInst_ok s.code hs.1.1) (by simp) ?_
  simp -implicitDefEqProofs []
  refine callQ_p (eqSelfSpanT_ok s.foot hs.2.1) (by simp) ?_
  simp -implicitDefEqProofs []
theorem eqFunc_ok (l : List Stp) (hl : l.length ≤ 9223372036854775807) (hw : ∀ s ∈ l, s.wf) : PCall Try.prog 40 [.sl .no (l.map encStp), .sl .no (l.map encStp), .fn 41 [] []] (.bool true) := by
  refine PCall.run hb40 ok40 (by simp) (pures_cons (elOK_Stp.pureL l) (pures_cons (elOK_Stp.pureL l) (pures1 (.fn pures_nil pures_nil)))) (.bool _) ?_
  simp -implicitDefEqProofs []
  refine run_loop (fun n s h => ∃ j : Nat, n = l.length - j ∧ j ≤ l.length ∧ s 1 = .sl .no (l.map encStp) ∧ s 2 = .fn 41 [] [] ∧ s 15 = .sl .no (l.map encStp) ∧ s 16 = .int .i64 l.length ∧ s 17 = .int .i64 j) ?_ l.length ?_
  rotate_left
  · exact ⟨0, by simp⟩
  rintro n s h ⟨j, hn, hj, s1, s2, s15, s16, s17⟩ ih
  by_cases hlt : j < l.length
  · simp -implicitDefEqProofs [s1, s2, s15, s16, s17, hlt, encStp]
    refine callQ_p (sameStep_ok l[j] (hw _ (List.getElem_mem hlt))) (by simp [encStp]) ?_
    simp -implicitDefEqProofs [s17, inc_i64 hlt hl, -Int.natCast_add]
    exact ih (l.length - (j + 1)) _ _ (by omega) ⟨j + 1, rfl, by omega, by simp [s1], by simp [s2], by simp [s15], by simp [s16], by simp⟩
  · simp -implicitDefEqProofs [s16, s17, hlt]
theorem classSame_ok (c : Cls) (hc : c.wf) : PCall Try.prog 19 [.agg (encCls c), .agg (encCls c)] (.bool true) := by
  refine PCall.run hb19 ok19 (by simp) (pures_cons (.agg (pure_encCls c)) (pures1 (.agg (pure_encCls c)))) (.bool _) ?_
  obtain ⟨hwn, hwa, ⟨hsl, hsw⟩, hcl, hcw⟩ := hc
  simp -implicitDefEqProofs [encCls, H.nil]
  refine callQ_p (eqFunc_ok c.steps hsl hsw) (by simp) ?_
  simp -implicitDefEqProofs []
  refine callQ_p (eqFunc_ok c.comps hcl hcw) (by simp) ?_
  simp -implicitDefEqProofs []
end Go.Proofs
