/- What the statements about codes ask first: no more items than are looked at; the document's examples. -/
import Derived.Test.YtajmapmledjhjaaSpecG
namespace Go.Proofs
open Go Go.RowKit Go.Am

def encIs (l : List Item) : AV := .sl .no (l.map encI)

def greatI (x : Item) : Bool := decide (100 < x.l.length) || decide (200 < x.s.size) || decide (x.kind < 0) || decide (4 < x.kind)
def great (l : List Item) : Bool := l.any greatI || decide (60 < l.length)

theorem pure_encI (x : Item) : ∀ v ∈ encI x, PureV v := by
  simp only [encI]
  exact pures_cons (.int _ _) (pures_cons (.int _ _) (pures_cons (.int _ _) (pures_cons (.int _ _) (pures_cons (.str _) (pures1 (pure_w64 _))))))
theorem pure_encIs (l : List Item) : PureV (encIs l) := .sl (fun i h => by cases h) fun e he v hv => by
  obtain ⟨x, _, rfl⟩ := List.mem_map.1 he
  exact pure_encI x v hv
@[simp] theorem wk_encI (x : Item) : List.map wk (encI x) = encI x := by simp [encI]
@[simp] theorem wk_encI' : List.map wk ∘ encI = encI := by funext x; simp

theorem great_ok (l : List Item) (hl : l.length ≤ 9223372036854775807) : PCall Try.prog 15 [encIs l] (.bool (great l)) := by
  refine PCall.run hb15 ok15 (by simp) (pures1 (pure_encIs l)) (.bool _) ?_
  simp -implicitDefEqProofs [encIs]
  refine run_loop (fun n s h => ∃ j : Nat, n = l.length - j ∧ j ≤ l.length ∧ s 0 = .sl .no (l.map encI) ∧ s 3 = .int .i64 j ∧ (l.take j).any greatI = false) ?_ l.length ?_
  · rintro n s h ⟨j, hn, hj, h0, h3, hall⟩ ih
    simp -implicitDefEqProofs [h0, h3]
    by_cases hlt : j < l.length
    · have hi := idxOf_nat (k := .i64) hlt
      have hg : greatI l[j] = (decide (100 < l[j].l.length) || decide (200 < l[j].s.size) || decide (l[j].kind < 0) || decide (4 < l[j].kind)) := rfl
      have yes : greatI l[j] = true → great l = true := fun h => by
        simp only [great, Bool.or_eq_true, List.any_eq_true]
        exact .inl ⟨l[j], List.getElem_mem hlt, h⟩
      have no : greatI l[j] = false → (l.take (j + 1)).any greatI = false := fun h => by
        rw [List.take_succ_eq_append_getElem hlt, List.any_append, hall]
        simp [h]
      by_cases c1 : (100 : Int) < (l[j].l.length : Int)
      · have hy := yes (by rw [hg, decide_eq_true (by omega : 100 < l[j].l.length)]; rfl)
        simp -implicitDefEqProofs [hlt, h0, h3, encI, c1, hy]
      by_cases c2 : (200 : Int) < (l[j].s.size : Int)
      · have hy := yes (by rw [hg, decide_eq_true (by omega : 200 < l[j].s.size)]; simp)
        simp -implicitDefEqProofs [hlt, h0, h3, encI, c1, c2, hy]
      by_cases c3 : l[j].kind < 0
      · have hy := yes (by simp [hg, c3])
        simp -implicitDefEqProofs [hlt, h0, h3, encI, c1, c2, c3, hy]
      by_cases c4 : 4 < l[j].kind
      · have hy := yes (by simp [hg, c4])
        simp -implicitDefEqProofs [hlt, h0, h3, encI, c1, c2, c3, c4, hy]
      · have hno := no (by rw [hg, decide_eq_false (by omega : ¬ 100 < l[j].l.length), decide_eq_false (by omega : ¬ 200 < l[j].s.size), decide_eq_false c3, decide_eq_false c4]; rfl)
        simp -implicitDefEqProofs [hlt, h0, h3, encI, c1, c2, c3, c4, wrap_i64 (x := (j : Int) + 1) (by omega) (by omega)]
        exact ih (l.length - (j + 1)) _ _ (by omega) ⟨j + 1, rfl, by omega, by simp [h0], by simp, hno⟩
    · have hj' : j = l.length := by omega
      subst hj'
      rw [List.take_length] at hall
      simp -implicitDefEqProofs [hlt, h0, great, hall]
      omega
  · exact ⟨0, by simp, by omega, by simp, by simp, by simp⟩

theorem WB.new (h : H) : WB (h.alloc [.sl .full []]) h.bn .full [] := ⟨by simp, by simp, trivial⟩

theorem alive_ok : PCall Try.prog 14 [] (.bool true) := by
  refine PCall.run hb14 ok14 (by simp) pures_nil (.bool _) ?_
  simp -implicitDefEqProofs
  refine callW (wsigned_ok (WB.new H.nil) (-1) (by omega) (by omega) (by simp)) (by simp) fun r1 h1 t1 q1 => ?_
  try simp -implicitDefEqProofs
  refine callW (wsigned_ok q1.wb 1 (by omega) (by omega) (by simp)) (by simp) fun r2 h2 t2 q2 => ?_
  try simp -implicitDefEqProofs
  refine callW (wtext_ok q2.wb ⟨#[97, 98]⟩ (by simp)) (by simp) fun r3 h3 t3 q3 => ?_
  try simp -implicitDefEqProofs
  have hw : ([] ++ [signed (-1)] ++ [signed 1] ++ textW ⟨#[97, 98]⟩ : List Nat) = [1, 2, 2, 25185] := by decide
  have hd := done_ok q3.wb (by rw [hw]; decide)
  rw [hw] at hd
  refine callQ_of (args := [.ptr H.nil.bn 0]) hd ?_
  try simp -implicitDefEqProofs
  refine callQ_p (words_ok [1, 2, 2, 25185] [1, 2, 2, 25185] (by decide) (by decide)) (by simp [w64]) ?_
  try simp -implicitDefEqProofs
end Go.Proofs
