/- The statement CodesWrite: what its function hands back. -/
import Derived.Test.YtajmapmledjhjaaSpecH
namespace Go.Proofs
open Go Go.RowKit Go.Am

theorem textW_len (s : ByteArray) : (textW s).length ≤ 10 := by
  have h1 := packed_len (cut64 s)
  have h2 := cut64_size s
  simp only [textW, List.length_cons]
  omega
theorem writeW_len (x : Item) (h : x.l.length ≤ 100) : (writeW x).length ≤ 102 := by
  have ht := textW_len x.s
  unfold writeW
  split
  · simp
  split
  · simp
  split
  · simp
  split
  · omega
  · simp; omega

theorem not_great {l : List Item} (h : great l = false) : l.length ≤ 60 ∧ ∀ x ∈ l, x.l.length ≤ 100 ∧ x.s.size ≤ 200 := by
  simp only [great, Bool.or_eq_false_iff, decide_eq_false_iff_not, List.any_eq_false] at h
  refine ⟨by omega, fun x hx => ?_⟩
  have := h.1 x hx
  simp only [greatI, Bool.or_eq_true, decide_eq_true_eq, not_or] at this
  omega

def writeAll (l : List Item) : List Nat := l.flatMap writeW
theorem writeAll_len : ∀ (l : List Item), (∀ x ∈ l, x.l.length ≤ 100) → (writeAll l).length ≤ 102 * l.length
  | [], _ => by simp [writeAll]
  | x :: l, h => by
    have h1 := writeW_len x (h x (List.mem_cons_self ..))
    have h2 := writeAll_len l fun y hy => h y (List.mem_cons_of_mem _ hy)
    simp only [writeAll, List.flatMap_cons, List.length_append, List.length_cons] at h2 ⊢
    omega

theorem codesWrite_ok (l : List Item) (hl : l.length ≤ 9223372036854775807) (hi : ∀ x ∈ l, inI x.n ∧ inI x.x) : PCall Try.prog 3 [encIs l] (.bool true) := by
  refine PCall.run hb3 ok3 (by simp) (pures1 (pure_encIs l)) (.bool _) ?_
  simp -implicitDefEqProofs [encIs]
  refine callQ_p alive_ok (by simp) ?_
  simp -implicitDefEqProofs
  refine callQ_p (great_ok l hl) (by simp [encIs]) ?_
  cases hg : great l
  · obtain ⟨g1, g2⟩ := not_great hg
    have hok : ∀ x ∈ l, x.ok := fun x hx => ⟨(hi x hx).1, (hi x hx).2, by have := g2 x hx; omega, by have := g2 x hx; omega⟩
    simp -implicitDefEqProofs
    refine run_loop (fun n s h => ∃ (j : Nat) (t t2 : Tok), n = l.length - j ∧ j ≤ l.length ∧ s 0 = .sl .no (l.map encI) ∧ s 5 = .int .i64 j ∧ s 3 = .ptr 0 0 ∧ s 4 = .sl t2 ((writeAll (l.take j)).map w64) ∧ WB h 0 t (writeAll (l.take j)) ∧ TLive h t2 (writeAll (l.take j)).length ∧ TApart t t2) ?_ l.length ?_
    · rintro n s h ⟨j, t, t2, hn, hj, h0, h5, h3, h4, hw, ht2, hap⟩ ih
      simp -implicitDefEqProofs [h0, h5]
      by_cases hlt : j < l.length
      · have hwl : (writeAll (l.take j)).length ≤ 102 * 60 := by
          have := writeAll_len (l.take j) fun x hx => (g2 x (List.mem_of_mem_take hx)).1
          simp only [List.length_take] at this
          omega
        have hx := hok l[j] (List.getElem_mem hlt)
        have e6 : (encI l[j]).length = 6 := rfl
        have e7 : List.take 6 (encI l[j]) = encI l[j] := rfl
        simp -implicitDefEqProofs [hlt, h0, h5, h3, h4, idxOf_nat hlt, e6, e7]
        refine callW (write_ok hw l[j] hx (by omega)) (by simp) fun r h1 t1 q => ?_
        simp -implicitDefEqProofs [hlt, h0, h5, h3, h4, idxOf_nat hlt, e6, e7]
        have ht2' : TLive h1 t2 (writeAll (l.take j)).length := ht2.keep q.keep fun i e1 e2 => hap i e2 e1
        refine callQ_ex (refWrite_ok ht2' l[j] hx (by omega)) fun r2 h2 ⟨t3, q2⟩ => ?_
        obtain ⟨rfl, p2, p3, p4⟩ := q2
        simp -implicitDefEqProofs [h5, wrap_i64 (x := (j : Int) + 1) (by omega) (by omega)]
        have hsnoc : writeAll (l.take (j + 1)) = writeAll (l.take j) ++ writeW l[j] := by
          unfold writeAll
          rw [List.take_succ_eq_append_getElem hlt, List.flatMap_append, List.flatMap_singleton]
        have hap1 : TApart t1 t2 := (TApart.next ht2 hap.symm q.next).symm
        refine ih (l.length - (j + 1)) _ _ (by omega) ⟨j + 1, t1, t3, rfl, by omega, by simp [h0], by simp, by simp [h3], by simp [hsnoc], ?_, by rw [hsnoc]; exact p2, (TApart.next q.wb.live hap1 p3)⟩
        rw [hsnoc]
        exact ⟨Nat.lt_of_lt_of_le q.wb.lt p4.bn, (p4.bx 0 q.wb.lt fun h => h).trans q.wb.bx, q.wb.live.keep p4 fun i e1 e2 => hap1 i e1 e2⟩
      · have hj' : j = l.length := by omega
        subst hj'
        rw [List.take_length] at hw h4 ht2
        have hwl : (writeAll l).length ≤ 102 * 60 := by
          have := writeAll_len l fun x hx => (g2 x hx).1
          omega
        simp -implicitDefEqProofs [hlt, h3]
        refine callQ_of (args := [.ptr 0 0]) (done_ok hw (by omega)) ?_
        simp -implicitDefEqProofs [h4]
        refine callQ_p (words_ok (writeAll l) (writeAll l) (by omega) (by omega)) (by simp) ?_
        try simp -implicitDefEqProofs
    · refine ⟨0, .full, .full, by simp, by omega, by simp, by simp, by simp [H.nil], by simp [writeAll], ?_, ?_, ?_⟩
      · exact WB.new H.nil
      · trivial
      · intro i h; cases h
  · simp -implicitDefEqProofs
end Go.Proofs
