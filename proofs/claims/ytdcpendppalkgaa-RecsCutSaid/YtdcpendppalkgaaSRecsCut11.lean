/- What the functions that the statement reaches do: their contracts; and what follows of it. -/
import Derived.Test.YtdcpendppalkgaaSRecsCut10
/- Which records may be: the document's answer, whole. -/
namespace Go.Proofs
open Go Go.RowKit Go.Am

set_option maxHeartbeats 8000000 in
theorem refMay_ok (x : Recd) (hx : x.wf) (ha : x.args.length ≤ 1000000) (hr : x.node.reads.length ≤ 1000000) (hw : x.node.writes.length ≤ 1000000) : PCall Try.prog 25 [.agg (encRecd x)] (.bool (recMay x)) := by
  have p := pures1 (.agg (pure_encRecd x))
  obtain ⟨r0, r1, r2, r3, ra⟩ := regs_four hx.2.2.2.2.2.2.1.1
  rw [encRecd_cells ra] at p ⊢
  refine PCall.run hb25 ok25 (by simp) p (.bool _) ?_
  have hno : noneR x = (emptyN x.node && decide (x.changes.length = 0) && decide ([r0, r1, r2, r3] = [0, 0, 0, 0])) := by rw [noneR, ra]
  have o := refOf_ok (x.node.writes.map spP) (by simpa using hw)
  have he : x.changes.length ≤ 8 → chgS x.changes x.node.writes = chgT (fun k : Nat => hasK (x.node.writes.map spP) k) x.changes := fun h => by
    rw [chgS, chgT, allL_plainL, decide_eq_true h, Bool.true_and]
  generalize (fun k : Nat => hasK (x.node.writes.map spP) k) = f at o he
  have hloop := fun (h8 : x.changes.length ≤ 8) => refMay_loop x f h8 r0 r1 r2 r3
  simp -implicitDefEqProofs [cellsR, H.nil]
  by_cases p1 : x.node.saga = 0
  rotate_left
  · have hn : noneR x = false := by simp only [noneR, emptyN, decide_eq_false p1, Bool.false_and]
    simp -implicitDefEqProofs [p1]
    by_cases k1 : x.kind = 1
    · have hk : recMay x = (noneR x && decide (x.saga = 0) && decide (x.why = 0) && belowB x.cls 4 && argsOK x.args) := by rw [recMay, if_pos k1]
      rw [hn, Bool.false_and, Bool.false_and, Bool.false_and, Bool.false_and] at hk
      simp -implicitDefEqProofs [k1, hk]
    by_cases k3 : x.kind = 3
    · have hk : recMay x = (noneR x && decide (x.cls = 0) && decide (x.args.length = 0) && belowB x.saga 12 && decide (1 ≤ x.why) && decide (x.why ≤ 15)) := by rw [recMay, if_neg k1, if_neg (by omega), if_pos k3]
      rw [hn, Bool.false_and, Bool.false_and, Bool.false_and, Bool.false_and, Bool.false_and] at hk
      simp -implicitDefEqProofs [k3, hk]
    by_cases k2 : x.kind = 2
    rotate_left
    · have hk : recMay x = false := by rw [recMay, if_neg k1, if_neg k2, if_neg k3]
      simp -implicitDefEqProofs [k1, k2, k3, hk]
    have hk : recMay x = (decide (x.saga = 0) && decide (x.why = 0) && decide (x.cls = 0) && decide (x.args.length = 0) && belowB x.node.saga 12 && belowB x.node.cls 4 && belowB x.node.step 4 && plainS x.node.reads && plainS x.node.writes && chgS x.changes x.node.writes) := by rw [recMay, if_neg k1, if_pos k2]
    by_cases b1 : x.saga = 0
    rotate_left
    · rw [decide_eq_false b1, Bool.false_and, Bool.false_and, Bool.false_and, Bool.false_and, Bool.false_and, Bool.false_and, Bool.false_and, Bool.false_and, Bool.false_and] at hk
      simp -implicitDefEqProofs [k2, b1, hk]
    rw [decide_eq_true b1, Bool.true_and] at hk
    by_cases b2 : x.why = 0
    rotate_left
    · rw [decide_eq_false b2, Bool.false_and, Bool.false_and, Bool.false_and, Bool.false_and, Bool.false_and, Bool.false_and, Bool.false_and, Bool.false_and] at hk
      simp -implicitDefEqProofs [k2, b1, b2, hk]
    rw [decide_eq_true b2, Bool.true_and] at hk
    by_cases b3 : x.cls = 0
    rotate_left
    · rw [decide_eq_false b3, Bool.false_and, Bool.false_and, Bool.false_and, Bool.false_and, Bool.false_and, Bool.false_and, Bool.false_and] at hk
      simp -implicitDefEqProofs [k2, b1, b2, b3, hk]
    rw [decide_eq_true b3, Bool.true_and] at hk
    by_cases b4 : x.args.length = 0
    rotate_left
    · rw [decide_eq_false b4, Bool.false_and, Bool.false_and, Bool.false_and, Bool.false_and, Bool.false_and, Bool.false_and] at hk
      simp -implicitDefEqProofs [k2, b1, b2, b3, show 0 < x.args.length by omega, hk]
    rw [decide_eq_true b4, Bool.true_and] at hk
    by_cases c0 : x.node.saga < 0
    · rw [show belowB x.node.saga 12 = false by simp only [belowB, Bool.and_eq_false_iff, decide_eq_false_iff_not]; omega, Bool.false_and, Bool.false_and, Bool.false_and, Bool.false_and, Bool.false_and] at hk
      simp -implicitDefEqProofs [k2, b1, b2, b3, b4, c0, hk]
    by_cases e0 : 11 < x.node.saga
    · rw [show belowB x.node.saga 12 = false by simp only [belowB, Bool.and_eq_false_iff, decide_eq_false_iff_not]; omega, Bool.false_and, Bool.false_and, Bool.false_and, Bool.false_and, Bool.false_and] at hk
      simp -implicitDefEqProofs [k2, b1, b2, b3, b4, c0, e0, hk]
    rw [show belowB x.node.saga 12 = true by simp only [belowB, Bool.and_eq_true, decide_eq_true_eq]; omega, Bool.true_and] at hk
    by_cases c1 : x.node.cls < 0
    · rw [show belowB x.node.cls 4 = false by simp only [belowB, Bool.and_eq_false_iff, decide_eq_false_iff_not]; omega, Bool.false_and, Bool.false_and, Bool.false_and, Bool.false_and] at hk
      simp -implicitDefEqProofs [k2, b1, b2, b3, b4, c0, e0, c1, hk]
    by_cases e1 : 3 < x.node.cls
    · rw [show belowB x.node.cls 4 = false by simp only [belowB, Bool.and_eq_false_iff, decide_eq_false_iff_not]; omega, Bool.false_and, Bool.false_and, Bool.false_and, Bool.false_and] at hk
      simp -implicitDefEqProofs [k2, b1, b2, b3, b4, c0, e0, c1, e1, hk]
    rw [show belowB x.node.cls 4 = true by simp only [belowB, Bool.and_eq_true, decide_eq_true_eq]; omega, Bool.true_and] at hk
    by_cases c2 : x.node.step < 0
    · rw [show belowB x.node.step 4 = false by simp only [belowB, Bool.and_eq_false_iff, decide_eq_false_iff_not]; omega, Bool.false_and, Bool.false_and, Bool.false_and] at hk
      simp -implicitDefEqProofs [k2, b1, b2, b3, b4, c0, e0, c1, e1, c2, hk]
    by_cases e2 : 3 < x.node.step
    · rw [show belowB x.node.step 4 = false by simp only [belowB, Bool.and_eq_false_iff, decide_eq_false_iff_not]; omega, Bool.false_and, Bool.false_and, Bool.false_and] at hk
      simp -implicitDefEqProofs [k2, b1, b2, b3, b4, c0, e0, c1, e1, c2, e2, hk]
    rw [show belowB x.node.step 4 = true by simp only [belowB, Bool.and_eq_true, decide_eq_true_eq]; omega, Bool.true_and] at hk
    simp -implicitDefEqProofs [k2, b1, b2, b3, b4, c0, e0, c1, e1, c2, e2]
    refine callQ_p (refPlainR_ok x.node.reads hr) (by simp) ?_
    cases d3 : plainS x.node.reads
    · rw [d3, Bool.false_and, Bool.false_and] at hk
      simp -implicitDefEqProofs [hk]
    rw [d3, Bool.true_and] at hk
    simp -implicitDefEqProofs []
    refine callQ_p (refPlainR_ok x.node.writes hw) (by simp) ?_
    cases d4 : plainS x.node.writes
    · rw [d4, Bool.false_and] at hk
      simp -implicitDefEqProofs [hk]
    rw [d4, Bool.true_and] at hk
    by_cases d5 : (8 : Int) < x.changes.length
    · rw [show chgS x.changes x.node.writes = false by simp only [chgS, Bool.and_eq_false_iff, decide_eq_false_iff_not]; omega] at hk
      simp -implicitDefEqProofs [d5, hk]
    rw [he (by omega)] at hk
    rw [hk]
    simp -implicitDefEqProofs [d5]
    refine callQ_p o (by simp [encL_spn, encL, avP]) ?_
    simp -implicitDefEqProofs []
    refine hloop (by omega) _ _ ?_ ?_ ?_ ?_ ?_ ?_ <;> simp [cellsR, k2, b1, b2, b3, p1]
  by_cases p2 : x.node.cls = 0
  rotate_left
  · have hn : noneR x = false := by simp only [noneR, emptyN, decide_eq_false p2, Bool.and_false, Bool.false_and]
    simp -implicitDefEqProofs [p1, p2]
    by_cases k1 : x.kind = 1
    · have hk : recMay x = (noneR x && decide (x.saga = 0) && decide (x.why = 0) && belowB x.cls 4 && argsOK x.args) := by rw [recMay, if_pos k1]
      rw [hn, Bool.false_and, Bool.false_and, Bool.false_and, Bool.false_and] at hk
      simp -implicitDefEqProofs [k1, hk]
    by_cases k3 : x.kind = 3
    · have hk : recMay x = (noneR x && decide (x.cls = 0) && decide (x.args.length = 0) && belowB x.saga 12 && decide (1 ≤ x.why) && decide (x.why ≤ 15)) := by rw [recMay, if_neg k1, if_neg (by omega), if_pos k3]
      rw [hn, Bool.false_and, Bool.false_and, Bool.false_and, Bool.false_and, Bool.false_and] at hk
      simp -implicitDefEqProofs [k3, hk]
    by_cases k2 : x.kind = 2
    rotate_left
    · have hk : recMay x = false := by rw [recMay, if_neg k1, if_neg k2, if_neg k3]
      simp -implicitDefEqProofs [k1, k2, k3, hk]
    have hk : recMay x = (decide (x.saga = 0) && decide (x.why = 0) && decide (x.cls = 0) && decide (x.args.length = 0) && belowB x.node.saga 12 && belowB x.node.cls 4 && belowB x.node.step 4 && plainS x.node.reads && plainS x.node.writes && chgS x.changes x.node.writes) := by rw [recMay, if_neg k1, if_pos k2]
    by_cases b1 : x.saga = 0
    rotate_left
    · rw [decide_eq_false b1, Bool.false_and, Bool.false_and, Bool.false_and, Bool.false_and, Bool.false_and, Bool.false_and, Bool.false_and, Bool.false_and, Bool.false_and] at hk
      simp -implicitDefEqProofs [k2, b1, hk]
    rw [decide_eq_true b1, Bool.true_and] at hk
    by_cases b2 : x.why = 0
    rotate_left
    · rw [decide_eq_false b2, Bool.false_and, Bool.false_and, Bool.false_and, Bool.false_and, Bool.false_and, Bool.false_and, Bool.false_and, Bool.false_and] at hk
      simp -implicitDefEqProofs [k2, b1, b2, hk]
    rw [decide_eq_true b2, Bool.true_and] at hk
    by_cases b3 : x.cls = 0
    rotate_left
    · rw [decide_eq_false b3, Bool.false_and, Bool.false_and, Bool.false_and, Bool.false_and, Bool.false_and, Bool.false_and, Bool.false_and] at hk
      simp -implicitDefEqProofs [k2, b1, b2, b3, hk]
    rw [decide_eq_true b3, Bool.true_and] at hk
    by_cases b4 : x.args.length = 0
    rotate_left
    · rw [decide_eq_false b4, Bool.false_and, Bool.false_and, Bool.false_and, Bool.false_and, Bool.false_and, Bool.false_and] at hk
      simp -implicitDefEqProofs [k2, b1, b2, b3, show 0 < x.args.length by omega, hk]
    rw [decide_eq_true b4, Bool.true_and] at hk
    by_cases c0 : x.node.saga < 0
    · rw [show belowB x.node.saga 12 = false by simp only [belowB, Bool.and_eq_false_iff, decide_eq_false_iff_not]; omega, Bool.false_and, Bool.false_and, Bool.false_and, Bool.false_and, Bool.false_and] at hk
      simp -implicitDefEqProofs [k2, b1, b2, b3, b4, c0, hk]
    by_cases e0 : 11 < x.node.saga
    · rw [show belowB x.node.saga 12 = false by simp only [belowB, Bool.and_eq_false_iff, decide_eq_false_iff_not]; omega, Bool.false_and, Bool.false_and, Bool.false_and, Bool.false_and, Bool.false_and] at hk
      simp -implicitDefEqProofs [k2, b1, b2, b3, b4, c0, e0, hk]
    rw [show belowB x.node.saga 12 = true by simp only [belowB, Bool.and_eq_true, decide_eq_true_eq]; omega, Bool.true_and] at hk
    by_cases c1 : x.node.cls < 0
    · rw [show belowB x.node.cls 4 = false by simp only [belowB, Bool.and_eq_false_iff, decide_eq_false_iff_not]; omega, Bool.false_and, Bool.false_and, Bool.false_and, Bool.false_and] at hk
      simp -implicitDefEqProofs [k2, b1, b2, b3, b4, c0, e0, c1, hk]
    by_cases e1 : 3 < x.node.cls
    · rw [show belowB x.node.cls 4 = false by simp only [belowB, Bool.and_eq_false_iff, decide_eq_false_iff_not]; omega, Bool.false_and, Bool.false_and, Bool.false_and, Bool.false_and] at hk
      simp -implicitDefEqProofs [k2, b1, b2, b3, b4, c0, e0, c1, e1, hk]
    rw [show belowB x.node.cls 4 = true by simp only [belowB, Bool.and_eq_true, decide_eq_true_eq]; omega, Bool.true_and] at hk
    by_cases c2 : x.node.step < 0
    · rw [show belowB x.node.step 4 = false by simp only [belowB, Bool.and_eq_false_iff, decide_eq_false_iff_not]; omega, Bool.false_and, Bool.false_and, Bool.false_and] at hk
      simp -implicitDefEqProofs [k2, b1, b2, b3, b4, c0, e0, c1, e1, c2, hk]
    by_cases e2 : 3 < x.node.step
    · rw [show belowB x.node.step 4 = false by simp only [belowB, Bool.and_eq_false_iff, decide_eq_false_iff_not]; omega, Bool.false_and, Bool.false_and, Bool.false_and] at hk
      simp -implicitDefEqProofs [k2, b1, b2, b3, b4, c0, e0, c1, e1, c2, e2, hk]
    rw [show belowB x.node.step 4 = true by simp only [belowB, Bool.and_eq_true, decide_eq_true_eq]; omega, Bool.true_and] at hk
    simp -implicitDefEqProofs [k2, b1, b2, b3, b4, c0, e0, c1, e1, c2, e2]
    refine callQ_p (refPlainR_ok x.node.reads hr) (by simp) ?_
    cases d3 : plainS x.node.reads
    · rw [d3, Bool.false_and, Bool.false_and] at hk
      simp -implicitDefEqProofs [hk]
    rw [d3, Bool.true_and] at hk
    simp -implicitDefEqProofs []
    refine callQ_p (refPlainR_ok x.node.writes hw) (by simp) ?_
    cases d4 : plainS x.node.writes
    · rw [d4, Bool.false_and] at hk
      simp -implicitDefEqProofs [hk]
    rw [d4, Bool.true_and] at hk
    by_cases d5 : (8 : Int) < x.changes.length
    · rw [show chgS x.changes x.node.writes = false by simp only [chgS, Bool.and_eq_false_iff, decide_eq_false_iff_not]; omega] at hk
      simp -implicitDefEqProofs [d5, hk]
    rw [he (by omega)] at hk
    rw [hk]
    simp -implicitDefEqProofs [d5]
    refine callQ_p o (by simp [encL_spn, encL, avP]) ?_
    simp -implicitDefEqProofs []
    refine hloop (by omega) _ _ ?_ ?_ ?_ ?_ ?_ ?_ <;> simp [cellsR, k2, b1, b2, b3, p1]
  by_cases p3 : x.node.step = 0
  rotate_left
  · have hn : noneR x = false := by simp only [noneR, emptyN, decide_eq_false p3, Bool.and_false, Bool.false_and]
    simp -implicitDefEqProofs [p1, p2, p3]
    by_cases k1 : x.kind = 1
    · have hk : recMay x = (noneR x && decide (x.saga = 0) && decide (x.why = 0) && belowB x.cls 4 && argsOK x.args) := by rw [recMay, if_pos k1]
      rw [hn, Bool.false_and, Bool.false_and, Bool.false_and, Bool.false_and] at hk
      simp -implicitDefEqProofs [k1, hk]
    by_cases k3 : x.kind = 3
    · have hk : recMay x = (noneR x && decide (x.cls = 0) && decide (x.args.length = 0) && belowB x.saga 12 && decide (1 ≤ x.why) && decide (x.why ≤ 15)) := by rw [recMay, if_neg k1, if_neg (by omega), if_pos k3]
      rw [hn, Bool.false_and, Bool.false_and, Bool.false_and, Bool.false_and, Bool.false_and] at hk
      simp -implicitDefEqProofs [k3, hk]
    by_cases k2 : x.kind = 2
    rotate_left
    · have hk : recMay x = false := by rw [recMay, if_neg k1, if_neg k2, if_neg k3]
      simp -implicitDefEqProofs [k1, k2, k3, hk]
    have hk : recMay x = (decide (x.saga = 0) && decide (x.why = 0) && decide (x.cls = 0) && decide (x.args.length = 0) && belowB x.node.saga 12 && belowB x.node.cls 4 && belowB x.node.step 4 && plainS x.node.reads && plainS x.node.writes && chgS x.changes x.node.writes) := by rw [recMay, if_neg k1, if_pos k2]
    by_cases b1 : x.saga = 0
    rotate_left
    · rw [decide_eq_false b1, Bool.false_and, Bool.false_and, Bool.false_and, Bool.false_and, Bool.false_and, Bool.false_and, Bool.false_and, Bool.false_and, Bool.false_and] at hk
      simp -implicitDefEqProofs [k2, b1, hk]
    rw [decide_eq_true b1, Bool.true_and] at hk
    by_cases b2 : x.why = 0
    rotate_left
    · rw [decide_eq_false b2, Bool.false_and, Bool.false_and, Bool.false_and, Bool.false_and, Bool.false_and, Bool.false_and, Bool.false_and, Bool.false_and] at hk
      simp -implicitDefEqProofs [k2, b1, b2, hk]
    rw [decide_eq_true b2, Bool.true_and] at hk
    by_cases b3 : x.cls = 0
    rotate_left
    · rw [decide_eq_false b3, Bool.false_and, Bool.false_and, Bool.false_and, Bool.false_and, Bool.false_and, Bool.false_and, Bool.false_and] at hk
      simp -implicitDefEqProofs [k2, b1, b2, b3, hk]
    rw [decide_eq_true b3, Bool.true_and] at hk
    by_cases b4 : x.args.length = 0
    rotate_left
    · rw [decide_eq_false b4, Bool.false_and, Bool.false_and, Bool.false_and, Bool.false_and, Bool.false_and, Bool.false_and] at hk
      simp -implicitDefEqProofs [k2, b1, b2, b3, show 0 < x.args.length by omega, hk]
    rw [decide_eq_true b4, Bool.true_and] at hk
    by_cases c0 : x.node.saga < 0
    · rw [show belowB x.node.saga 12 = false by simp only [belowB, Bool.and_eq_false_iff, decide_eq_false_iff_not]; omega, Bool.false_and, Bool.false_and, Bool.false_and, Bool.false_and, Bool.false_and] at hk
      simp -implicitDefEqProofs [k2, b1, b2, b3, b4, c0, hk]
    by_cases e0 : 11 < x.node.saga
    · rw [show belowB x.node.saga 12 = false by simp only [belowB, Bool.and_eq_false_iff, decide_eq_false_iff_not]; omega, Bool.false_and, Bool.false_and, Bool.false_and, Bool.false_and, Bool.false_and] at hk
      simp -implicitDefEqProofs [k2, b1, b2, b3, b4, c0, e0, hk]
    rw [show belowB x.node.saga 12 = true by simp only [belowB, Bool.and_eq_true, decide_eq_true_eq]; omega, Bool.true_and] at hk
    by_cases c1 : x.node.cls < 0
    · rw [show belowB x.node.cls 4 = false by simp only [belowB, Bool.and_eq_false_iff, decide_eq_false_iff_not]; omega, Bool.false_and, Bool.false_and, Bool.false_and, Bool.false_and] at hk
      simp -implicitDefEqProofs [k2, b1, b2, b3, b4, c0, e0, c1, hk]
    by_cases e1 : 3 < x.node.cls
    · rw [show belowB x.node.cls 4 = false by simp only [belowB, Bool.and_eq_false_iff, decide_eq_false_iff_not]; omega, Bool.false_and, Bool.false_and, Bool.false_and, Bool.false_and] at hk
      simp -implicitDefEqProofs [k2, b1, b2, b3, b4, c0, e0, c1, e1, hk]
    rw [show belowB x.node.cls 4 = true by simp only [belowB, Bool.and_eq_true, decide_eq_true_eq]; omega, Bool.true_and] at hk
    by_cases c2 : x.node.step < 0
    · rw [show belowB x.node.step 4 = false by simp only [belowB, Bool.and_eq_false_iff, decide_eq_false_iff_not]; omega, Bool.false_and, Bool.false_and, Bool.false_and] at hk
      simp -implicitDefEqProofs [k2, b1, b2, b3, b4, c0, e0, c1, e1, c2, hk]
    by_cases e2 : 3 < x.node.step
    · rw [show belowB x.node.step 4 = false by simp only [belowB, Bool.and_eq_false_iff, decide_eq_false_iff_not]; omega, Bool.false_and, Bool.false_and, Bool.false_and] at hk
      simp -implicitDefEqProofs [k2, b1, b2, b3, b4, c0, e0, c1, e1, c2, e2, hk]
    rw [show belowB x.node.step 4 = true by simp only [belowB, Bool.and_eq_true, decide_eq_true_eq]; omega, Bool.true_and] at hk
    simp -implicitDefEqProofs [k2, b1, b2, b3, b4, c0, e0, c1, e1, c2, e2]
    refine callQ_p (refPlainR_ok x.node.reads hr) (by simp) ?_
    cases d3 : plainS x.node.reads
    · rw [d3, Bool.false_and, Bool.false_and] at hk
      simp -implicitDefEqProofs [hk]
    rw [d3, Bool.true_and] at hk
    simp -implicitDefEqProofs []
    refine callQ_p (refPlainR_ok x.node.writes hw) (by simp) ?_
    cases d4 : plainS x.node.writes
    · rw [d4, Bool.false_and] at hk
      simp -implicitDefEqProofs [hk]
    rw [d4, Bool.true_and] at hk
    by_cases d5 : (8 : Int) < x.changes.length
    · rw [show chgS x.changes x.node.writes = false by simp only [chgS, Bool.and_eq_false_iff, decide_eq_false_iff_not]; omega] at hk
      simp -implicitDefEqProofs [d5, hk]
    rw [he (by omega)] at hk
    rw [hk]
    simp -implicitDefEqProofs [d5]
    refine callQ_p o (by simp [encL_spn, encL, avP]) ?_
    simp -implicitDefEqProofs []
    refine hloop (by omega) _ _ ?_ ?_ ?_ ?_ ?_ ?_ <;> simp [cellsR, k2, b1, b2, b3, p1, p2]
  cases p4 : x.node.back
  rotate_left
  · have hn : noneR x = false := by simp [noneR, emptyN, p4]
    simp -implicitDefEqProofs [p1, p2, p3]
    by_cases k1 : x.kind = 1
    · have hk : recMay x = (noneR x && decide (x.saga = 0) && decide (x.why = 0) && belowB x.cls 4 && argsOK x.args) := by rw [recMay, if_pos k1]
      rw [hn, Bool.false_and, Bool.false_and, Bool.false_and, Bool.false_and] at hk
      simp -implicitDefEqProofs [k1, hk]
    by_cases k3 : x.kind = 3
    · have hk : recMay x = (noneR x && decide (x.cls = 0) && decide (x.args.length = 0) && belowB x.saga 12 && decide (1 ≤ x.why) && decide (x.why ≤ 15)) := by rw [recMay, if_neg k1, if_neg (by omega), if_pos k3]
      rw [hn, Bool.false_and, Bool.false_and, Bool.false_and, Bool.false_and, Bool.false_and] at hk
      simp -implicitDefEqProofs [k3, hk]
    by_cases k2 : x.kind = 2
    rotate_left
    · have hk : recMay x = false := by rw [recMay, if_neg k1, if_neg k2, if_neg k3]
      simp -implicitDefEqProofs [k1, k2, k3, hk]
    have hk : recMay x = (decide (x.saga = 0) && decide (x.why = 0) && decide (x.cls = 0) && decide (x.args.length = 0) && belowB x.node.saga 12 && belowB x.node.cls 4 && belowB x.node.step 4 && plainS x.node.reads && plainS x.node.writes && chgS x.changes x.node.writes) := by rw [recMay, if_neg k1, if_pos k2]
    by_cases b1 : x.saga = 0
    rotate_left
    · rw [decide_eq_false b1, Bool.false_and, Bool.false_and, Bool.false_and, Bool.false_and, Bool.false_and, Bool.false_and, Bool.false_and, Bool.false_and, Bool.false_and] at hk
      simp -implicitDefEqProofs [k2, b1, hk]
    rw [decide_eq_true b1, Bool.true_and] at hk
    by_cases b2 : x.why = 0
    rotate_left
    · rw [decide_eq_false b2, Bool.false_and, Bool.false_and, Bool.false_and, Bool.false_and, Bool.false_and, Bool.false_and, Bool.false_and, Bool.false_and] at hk
      simp -implicitDefEqProofs [k2, b1, b2, hk]
    rw [decide_eq_true b2, Bool.true_and] at hk
    by_cases b3 : x.cls = 0
    rotate_left
    · rw [decide_eq_false b3, Bool.false_and, Bool.false_and, Bool.false_and, Bool.false_and, Bool.false_and, Bool.false_and, Bool.false_and] at hk
      simp -implicitDefEqProofs [k2, b1, b2, b3, hk]
    rw [decide_eq_true b3, Bool.true_and] at hk
    by_cases b4 : x.args.length = 0
    rotate_left
    · rw [decide_eq_false b4, Bool.false_and, Bool.false_and, Bool.false_and, Bool.false_and, Bool.false_and, Bool.false_and] at hk
      simp -implicitDefEqProofs [k2, b1, b2, b3, show 0 < x.args.length by omega, hk]
    rw [decide_eq_true b4, Bool.true_and] at hk
    by_cases c0 : x.node.saga < 0
    · rw [show belowB x.node.saga 12 = false by simp only [belowB, Bool.and_eq_false_iff, decide_eq_false_iff_not]; omega, Bool.false_and, Bool.false_and, Bool.false_and, Bool.false_and, Bool.false_and] at hk
      simp -implicitDefEqProofs [k2, b1, b2, b3, b4, c0, hk]
    by_cases e0 : 11 < x.node.saga
    · rw [show belowB x.node.saga 12 = false by simp only [belowB, Bool.and_eq_false_iff, decide_eq_false_iff_not]; omega, Bool.false_and, Bool.false_and, Bool.false_and, Bool.false_and, Bool.false_and] at hk
      simp -implicitDefEqProofs [k2, b1, b2, b3, b4, c0, e0, hk]
    rw [show belowB x.node.saga 12 = true by simp only [belowB, Bool.and_eq_true, decide_eq_true_eq]; omega, Bool.true_and] at hk
    by_cases c1 : x.node.cls < 0
    · rw [show belowB x.node.cls 4 = false by simp only [belowB, Bool.and_eq_false_iff, decide_eq_false_iff_not]; omega, Bool.false_and, Bool.false_and, Bool.false_and, Bool.false_and] at hk
      simp -implicitDefEqProofs [k2, b1, b2, b3, b4, c0, e0, c1, hk]
    by_cases e1 : 3 < x.node.cls
    · rw [show belowB x.node.cls 4 = false by simp only [belowB, Bool.and_eq_false_iff, decide_eq_false_iff_not]; omega, Bool.false_and, Bool.false_and, Bool.false_and, Bool.false_and] at hk
      simp -implicitDefEqProofs [k2, b1, b2, b3, b4, c0, e0, c1, e1, hk]
    rw [show belowB x.node.cls 4 = true by simp only [belowB, Bool.and_eq_true, decide_eq_true_eq]; omega, Bool.true_and] at hk
    by_cases c2 : x.node.step < 0
    · rw [show belowB x.node.step 4 = false by simp only [belowB, Bool.and_eq_false_iff, decide_eq_false_iff_not]; omega, Bool.false_and, Bool.false_and, Bool.false_and] at hk
      simp -implicitDefEqProofs [k2, b1, b2, b3, b4, c0, e0, c1, e1, c2, hk]
    by_cases e2 : 3 < x.node.step
    · rw [show belowB x.node.step 4 = false by simp only [belowB, Bool.and_eq_false_iff, decide_eq_false_iff_not]; omega, Bool.false_and, Bool.false_and, Bool.false_and] at hk
      simp -implicitDefEqProofs [k2, b1, b2, b3, b4, c0, e0, c1, e1, c2, e2, hk]
    rw [show belowB x.node.step 4 = true by simp only [belowB, Bool.and_eq_true, decide_eq_true_eq]; omega, Bool.true_and] at hk
    simp -implicitDefEqProofs [k2, b1, b2, b3, b4, c0, e0, c1, e1, c2, e2]
    refine callQ_p (refPlainR_ok x.node.reads hr) (by simp) ?_
    cases d3 : plainS x.node.reads
    · rw [d3, Bool.false_and, Bool.false_and] at hk
      simp -implicitDefEqProofs [hk]
    rw [d3, Bool.true_and] at hk
    simp -implicitDefEqProofs []
    refine callQ_p (refPlainR_ok x.node.writes hw) (by simp) ?_
    cases d4 : plainS x.node.writes
    · rw [d4, Bool.false_and] at hk
      simp -implicitDefEqProofs [hk]
    rw [d4, Bool.true_and] at hk
    by_cases d5 : (8 : Int) < x.changes.length
    · rw [show chgS x.changes x.node.writes = false by simp only [chgS, Bool.and_eq_false_iff, decide_eq_false_iff_not]; omega] at hk
      simp -implicitDefEqProofs [d5, hk]
    rw [he (by omega)] at hk
    rw [hk]
    simp -implicitDefEqProofs [d5]
    refine callQ_p o (by simp [encL_spn, encL, avP]) ?_
    simp -implicitDefEqProofs []
    refine hloop (by omega) _ _ ?_ ?_ ?_ ?_ ?_ ?_ <;> simp [cellsR, k2, b1, b2, b3, p1, p2, p3, p4]
  by_cases p5 : x.node.reads.length = 0
  rotate_left
  · have hn : noneR x = false := by simp only [noneR, emptyN, decide_eq_false p5, Bool.and_false, Bool.false_and]
    simp -implicitDefEqProofs [p1, p2, p3, show 0 < x.node.reads.length by omega]
    by_cases k1 : x.kind = 1
    · have hk : recMay x = (noneR x && decide (x.saga = 0) && decide (x.why = 0) && belowB x.cls 4 && argsOK x.args) := by rw [recMay, if_pos k1]
      rw [hn, Bool.false_and, Bool.false_and, Bool.false_and, Bool.false_and] at hk
      simp -implicitDefEqProofs [k1, hk]
    by_cases k3 : x.kind = 3
    · have hk : recMay x = (noneR x && decide (x.cls = 0) && decide (x.args.length = 0) && belowB x.saga 12 && decide (1 ≤ x.why) && decide (x.why ≤ 15)) := by rw [recMay, if_neg k1, if_neg (by omega), if_pos k3]
      rw [hn, Bool.false_and, Bool.false_and, Bool.false_and, Bool.false_and, Bool.false_and] at hk
      simp -implicitDefEqProofs [k3, hk]
    by_cases k2 : x.kind = 2
    rotate_left
    · have hk : recMay x = false := by rw [recMay, if_neg k1, if_neg k2, if_neg k3]
      simp -implicitDefEqProofs [k1, k2, k3, hk]
    have hk : recMay x = (decide (x.saga = 0) && decide (x.why = 0) && decide (x.cls = 0) && decide (x.args.length = 0) && belowB x.node.saga 12 && belowB x.node.cls 4 && belowB x.node.step 4 && plainS x.node.reads && plainS x.node.writes && chgS x.changes x.node.writes) := by rw [recMay, if_neg k1, if_pos k2]
    by_cases b1 : x.saga = 0
    rotate_left
    · rw [decide_eq_false b1, Bool.false_and, Bool.false_and, Bool.false_and, Bool.false_and, Bool.false_and, Bool.false_and, Bool.false_and, Bool.false_and, Bool.false_and] at hk
      simp -implicitDefEqProofs [k2, b1, hk]
    rw [decide_eq_true b1, Bool.true_and] at hk
    by_cases b2 : x.why = 0
    rotate_left
    · rw [decide_eq_false b2, Bool.false_and, Bool.false_and, Bool.false_and, Bool.false_and, Bool.false_and, Bool.false_and, Bool.false_and, Bool.false_and] at hk
      simp -implicitDefEqProofs [k2, b1, b2, hk]
    rw [decide_eq_true b2, Bool.true_and] at hk
    by_cases b3 : x.cls = 0
    rotate_left
    · rw [decide_eq_false b3, Bool.false_and, Bool.false_and, Bool.false_and, Bool.false_and, Bool.false_and, Bool.false_and, Bool.false_and] at hk
      simp -implicitDefEqProofs [k2, b1, b2, b3, hk]
    rw [decide_eq_true b3, Bool.true_and] at hk
    by_cases b4 : x.args.length = 0
    rotate_left
    · rw [decide_eq_false b4, Bool.false_and, Bool.false_and, Bool.false_and, Bool.false_and, Bool.false_and, Bool.false_and] at hk
      simp -implicitDefEqProofs [k2, b1, b2, b3, show 0 < x.args.length by omega, hk]
    rw [decide_eq_true b4, Bool.true_and] at hk
    by_cases c0 : x.node.saga < 0
    · rw [show belowB x.node.saga 12 = false by simp only [belowB, Bool.and_eq_false_iff, decide_eq_false_iff_not]; omega, Bool.false_and, Bool.false_and, Bool.false_and, Bool.false_and, Bool.false_and] at hk
      simp -implicitDefEqProofs [k2, b1, b2, b3, b4, c0, hk]
    by_cases e0 : 11 < x.node.saga
    · rw [show belowB x.node.saga 12 = false by simp only [belowB, Bool.and_eq_false_iff, decide_eq_false_iff_not]; omega, Bool.false_and, Bool.false_and, Bool.false_and, Bool.false_and, Bool.false_and] at hk
      simp -implicitDefEqProofs [k2, b1, b2, b3, b4, c0, e0, hk]
    rw [show belowB x.node.saga 12 = true by simp only [belowB, Bool.and_eq_true, decide_eq_true_eq]; omega, Bool.true_and] at hk
    by_cases c1 : x.node.cls < 0
    · rw [show belowB x.node.cls 4 = false by simp only [belowB, Bool.and_eq_false_iff, decide_eq_false_iff_not]; omega, Bool.false_and, Bool.false_and, Bool.false_and, Bool.false_and] at hk
      simp -implicitDefEqProofs [k2, b1, b2, b3, b4, c0, e0, c1, hk]
    by_cases e1 : 3 < x.node.cls
    · rw [show belowB x.node.cls 4 = false by simp only [belowB, Bool.and_eq_false_iff, decide_eq_false_iff_not]; omega, Bool.false_and, Bool.false_and, Bool.false_and, Bool.false_and] at hk
      simp -implicitDefEqProofs [k2, b1, b2, b3, b4, c0, e0, c1, e1, hk]
    rw [show belowB x.node.cls 4 = true by simp only [belowB, Bool.and_eq_true, decide_eq_true_eq]; omega, Bool.true_and] at hk
    by_cases c2 : x.node.step < 0
    · rw [show belowB x.node.step 4 = false by simp only [belowB, Bool.and_eq_false_iff, decide_eq_false_iff_not]; omega, Bool.false_and, Bool.false_and, Bool.false_and] at hk
      simp -implicitDefEqProofs [k2, b1, b2, b3, b4, c0, e0, c1, e1, c2, hk]
    by_cases e2 : 3 < x.node.step
    · rw [show belowB x.node.step 4 = false by simp only [belowB, Bool.and_eq_false_iff, decide_eq_false_iff_not]; omega, Bool.false_and, Bool.false_and, Bool.false_and] at hk
      simp -implicitDefEqProofs [k2, b1, b2, b3, b4, c0, e0, c1, e1, c2, e2, hk]
    rw [show belowB x.node.step 4 = true by simp only [belowB, Bool.and_eq_true, decide_eq_true_eq]; omega, Bool.true_and] at hk
    simp -implicitDefEqProofs [k2, b1, b2, b3, b4, c0, e0, c1, e1, c2, e2]
    refine callQ_p (refPlainR_ok x.node.reads hr) (by simp) ?_
    cases d3 : plainS x.node.reads
    · rw [d3, Bool.false_and, Bool.false_and] at hk
      simp -implicitDefEqProofs [hk]
    rw [d3, Bool.true_and] at hk
    simp -implicitDefEqProofs []
    refine callQ_p (refPlainR_ok x.node.writes hw) (by simp) ?_
    cases d4 : plainS x.node.writes
    · rw [d4, Bool.false_and] at hk
      simp -implicitDefEqProofs [hk]
    rw [d4, Bool.true_and] at hk
    by_cases d5 : (8 : Int) < x.changes.length
    · rw [show chgS x.changes x.node.writes = false by simp only [chgS, Bool.and_eq_false_iff, decide_eq_false_iff_not]; omega] at hk
      simp -implicitDefEqProofs [d5, hk]
    rw [he (by omega)] at hk
    rw [hk]
    simp -implicitDefEqProofs [d5]
    refine callQ_p o (by simp [encL_spn, encL, avP]) ?_
    simp -implicitDefEqProofs []
    refine hloop (by omega) _ _ ?_ ?_ ?_ ?_ ?_ ?_ <;> simp [cellsR, k2, b1, b2, b3, p1, p2, p3, p4]
  by_cases p6 : x.node.writes.length = 0
  rotate_left
  · have hn : noneR x = false := by simp only [noneR, emptyN, decide_eq_false p6, Bool.and_false, Bool.false_and]
    simp -implicitDefEqProofs [p1, p2, p3, p5, show 0 < x.node.writes.length by omega]
    by_cases k1 : x.kind = 1
    · have hk : recMay x = (noneR x && decide (x.saga = 0) && decide (x.why = 0) && belowB x.cls 4 && argsOK x.args) := by rw [recMay, if_pos k1]
      rw [hn, Bool.false_and, Bool.false_and, Bool.false_and, Bool.false_and] at hk
      simp -implicitDefEqProofs [k1, hk]
    by_cases k3 : x.kind = 3
    · have hk : recMay x = (noneR x && decide (x.cls = 0) && decide (x.args.length = 0) && belowB x.saga 12 && decide (1 ≤ x.why) && decide (x.why ≤ 15)) := by rw [recMay, if_neg k1, if_neg (by omega), if_pos k3]
      rw [hn, Bool.false_and, Bool.false_and, Bool.false_and, Bool.false_and, Bool.false_and] at hk
      simp -implicitDefEqProofs [k3, hk]
    by_cases k2 : x.kind = 2
    rotate_left
    · have hk : recMay x = false := by rw [recMay, if_neg k1, if_neg k2, if_neg k3]
      simp -implicitDefEqProofs [k1, k2, k3, hk]
    have hk : recMay x = (decide (x.saga = 0) && decide (x.why = 0) && decide (x.cls = 0) && decide (x.args.length = 0) && belowB x.node.saga 12 && belowB x.node.cls 4 && belowB x.node.step 4 && plainS x.node.reads && plainS x.node.writes && chgS x.changes x.node.writes) := by rw [recMay, if_neg k1, if_pos k2]
    by_cases b1 : x.saga = 0
    rotate_left
    · rw [decide_eq_false b1, Bool.false_and, Bool.false_and, Bool.false_and, Bool.false_and, Bool.false_and, Bool.false_and, Bool.false_and, Bool.false_and, Bool.false_and] at hk
      simp -implicitDefEqProofs [k2, b1, hk]
    rw [decide_eq_true b1, Bool.true_and] at hk
    by_cases b2 : x.why = 0
    rotate_left
    · rw [decide_eq_false b2, Bool.false_and, Bool.false_and, Bool.false_and, Bool.false_and, Bool.false_and, Bool.false_and, Bool.false_and, Bool.false_and] at hk
      simp -implicitDefEqProofs [k2, b1, b2, hk]
    rw [decide_eq_true b2, Bool.true_and] at hk
    by_cases b3 : x.cls = 0
    rotate_left
    · rw [decide_eq_false b3, Bool.false_and, Bool.false_and, Bool.false_and, Bool.false_and, Bool.false_and, Bool.false_and, Bool.false_and] at hk
      simp -implicitDefEqProofs [k2, b1, b2, b3, hk]
    rw [decide_eq_true b3, Bool.true_and] at hk
    by_cases b4 : x.args.length = 0
    rotate_left
    · rw [decide_eq_false b4, Bool.false_and, Bool.false_and, Bool.false_and, Bool.false_and, Bool.false_and, Bool.false_and] at hk
      simp -implicitDefEqProofs [k2, b1, b2, b3, show 0 < x.args.length by omega, hk]
    rw [decide_eq_true b4, Bool.true_and] at hk
    by_cases c0 : x.node.saga < 0
    · rw [show belowB x.node.saga 12 = false by simp only [belowB, Bool.and_eq_false_iff, decide_eq_false_iff_not]; omega, Bool.false_and, Bool.false_and, Bool.false_and, Bool.false_and, Bool.false_and] at hk
      simp -implicitDefEqProofs [k2, b1, b2, b3, b4, c0, hk]
    by_cases e0 : 11 < x.node.saga
    · rw [show belowB x.node.saga 12 = false by simp only [belowB, Bool.and_eq_false_iff, decide_eq_false_iff_not]; omega, Bool.false_and, Bool.false_and, Bool.false_and, Bool.false_and, Bool.false_and] at hk
      simp -implicitDefEqProofs [k2, b1, b2, b3, b4, c0, e0, hk]
    rw [show belowB x.node.saga 12 = true by simp only [belowB, Bool.and_eq_true, decide_eq_true_eq]; omega, Bool.true_and] at hk
    by_cases c1 : x.node.cls < 0
    · rw [show belowB x.node.cls 4 = false by simp only [belowB, Bool.and_eq_false_iff, decide_eq_false_iff_not]; omega, Bool.false_and, Bool.false_and, Bool.false_and, Bool.false_and] at hk
      simp -implicitDefEqProofs [k2, b1, b2, b3, b4, c0, e0, c1, hk]
    by_cases e1 : 3 < x.node.cls
    · rw [show belowB x.node.cls 4 = false by simp only [belowB, Bool.and_eq_false_iff, decide_eq_false_iff_not]; omega, Bool.false_and, Bool.false_and, Bool.false_and, Bool.false_and] at hk
      simp -implicitDefEqProofs [k2, b1, b2, b3, b4, c0, e0, c1, e1, hk]
    rw [show belowB x.node.cls 4 = true by simp only [belowB, Bool.and_eq_true, decide_eq_true_eq]; omega, Bool.true_and] at hk
    by_cases c2 : x.node.step < 0
    · rw [show belowB x.node.step 4 = false by simp only [belowB, Bool.and_eq_false_iff, decide_eq_false_iff_not]; omega, Bool.false_and, Bool.false_and, Bool.false_and] at hk
      simp -implicitDefEqProofs [k2, b1, b2, b3, b4, c0, e0, c1, e1, c2, hk]
    by_cases e2 : 3 < x.node.step
    · rw [show belowB x.node.step 4 = false by simp only [belowB, Bool.and_eq_false_iff, decide_eq_false_iff_not]; omega, Bool.false_and, Bool.false_and, Bool.false_and] at hk
      simp -implicitDefEqProofs [k2, b1, b2, b3, b4, c0, e0, c1, e1, c2, e2, hk]
    rw [show belowB x.node.step 4 = true by simp only [belowB, Bool.and_eq_true, decide_eq_true_eq]; omega, Bool.true_and] at hk
    simp -implicitDefEqProofs [k2, b1, b2, b3, b4, c0, e0, c1, e1, c2, e2]
    refine callQ_p (refPlainR_ok x.node.reads hr) (by simp) ?_
    cases d3 : plainS x.node.reads
    · rw [d3, Bool.false_and, Bool.false_and] at hk
      simp -implicitDefEqProofs [hk]
    rw [d3, Bool.true_and] at hk
    simp -implicitDefEqProofs []
    refine callQ_p (refPlainR_ok x.node.writes hw) (by simp) ?_
    cases d4 : plainS x.node.writes
    · rw [d4, Bool.false_and] at hk
      simp -implicitDefEqProofs [hk]
    rw [d4, Bool.true_and] at hk
    by_cases d5 : (8 : Int) < x.changes.length
    · rw [show chgS x.changes x.node.writes = false by simp only [chgS, Bool.and_eq_false_iff, decide_eq_false_iff_not]; omega] at hk
      simp -implicitDefEqProofs [d5, hk]
    rw [he (by omega)] at hk
    rw [hk]
    simp -implicitDefEqProofs [d5]
    refine callQ_p o (by simp [encL_spn, encL, avP]) ?_
    simp -implicitDefEqProofs []
    refine hloop (by omega) _ _ ?_ ?_ ?_ ?_ ?_ ?_ <;> simp [cellsR, k2, b1, b2, b3, p1, p2, p3, p4, p5]
  by_cases p7 : x.changes.length = 0
  rotate_left
  · have hn : noneR x = false := by simp only [noneR, emptyN, decide_eq_false p7, Bool.and_false, Bool.false_and]
    simp -implicitDefEqProofs [p1, p2, p3, p5, p6, show 0 < x.changes.length by omega]
    by_cases k1 : x.kind = 1
    · have hk : recMay x = (noneR x && decide (x.saga = 0) && decide (x.why = 0) && belowB x.cls 4 && argsOK x.args) := by rw [recMay, if_pos k1]
      rw [hn, Bool.false_and, Bool.false_and, Bool.false_and, Bool.false_and] at hk
      simp -implicitDefEqProofs [k1, hk]
    by_cases k3 : x.kind = 3
    · have hk : recMay x = (noneR x && decide (x.cls = 0) && decide (x.args.length = 0) && belowB x.saga 12 && decide (1 ≤ x.why) && decide (x.why ≤ 15)) := by rw [recMay, if_neg k1, if_neg (by omega), if_pos k3]
      rw [hn, Bool.false_and, Bool.false_and, Bool.false_and, Bool.false_and, Bool.false_and] at hk
      simp -implicitDefEqProofs [k3, hk]
    by_cases k2 : x.kind = 2
    rotate_left
    · have hk : recMay x = false := by rw [recMay, if_neg k1, if_neg k2, if_neg k3]
      simp -implicitDefEqProofs [k1, k2, k3, hk]
    have hk : recMay x = (decide (x.saga = 0) && decide (x.why = 0) && decide (x.cls = 0) && decide (x.args.length = 0) && belowB x.node.saga 12 && belowB x.node.cls 4 && belowB x.node.step 4 && plainS x.node.reads && plainS x.node.writes && chgS x.changes x.node.writes) := by rw [recMay, if_neg k1, if_pos k2]
    by_cases b1 : x.saga = 0
    rotate_left
    · rw [decide_eq_false b1, Bool.false_and, Bool.false_and, Bool.false_and, Bool.false_and, Bool.false_and, Bool.false_and, Bool.false_and, Bool.false_and, Bool.false_and] at hk
      simp -implicitDefEqProofs [k2, b1, hk]
    rw [decide_eq_true b1, Bool.true_and] at hk
    by_cases b2 : x.why = 0
    rotate_left
    · rw [decide_eq_false b2, Bool.false_and, Bool.false_and, Bool.false_and, Bool.false_and, Bool.false_and, Bool.false_and, Bool.false_and, Bool.false_and] at hk
      simp -implicitDefEqProofs [k2, b1, b2, hk]
    rw [decide_eq_true b2, Bool.true_and] at hk
    by_cases b3 : x.cls = 0
    rotate_left
    · rw [decide_eq_false b3, Bool.false_and, Bool.false_and, Bool.false_and, Bool.false_and, Bool.false_and, Bool.false_and, Bool.false_and] at hk
      simp -implicitDefEqProofs [k2, b1, b2, b3, hk]
    rw [decide_eq_true b3, Bool.true_and] at hk
    by_cases b4 : x.args.length = 0
    rotate_left
    · rw [decide_eq_false b4, Bool.false_and, Bool.false_and, Bool.false_and, Bool.false_and, Bool.false_and, Bool.false_and] at hk
      simp -implicitDefEqProofs [k2, b1, b2, b3, show 0 < x.args.length by omega, hk]
    rw [decide_eq_true b4, Bool.true_and] at hk
    by_cases c0 : x.node.saga < 0
    · rw [show belowB x.node.saga 12 = false by simp only [belowB, Bool.and_eq_false_iff, decide_eq_false_iff_not]; omega, Bool.false_and, Bool.false_and, Bool.false_and, Bool.false_and, Bool.false_and] at hk
      simp -implicitDefEqProofs [k2, b1, b2, b3, b4, c0, hk]
    by_cases e0 : 11 < x.node.saga
    · rw [show belowB x.node.saga 12 = false by simp only [belowB, Bool.and_eq_false_iff, decide_eq_false_iff_not]; omega, Bool.false_and, Bool.false_and, Bool.false_and, Bool.false_and, Bool.false_and] at hk
      simp -implicitDefEqProofs [k2, b1, b2, b3, b4, c0, e0, hk]
    rw [show belowB x.node.saga 12 = true by simp only [belowB, Bool.and_eq_true, decide_eq_true_eq]; omega, Bool.true_and] at hk
    by_cases c1 : x.node.cls < 0
    · rw [show belowB x.node.cls 4 = false by simp only [belowB, Bool.and_eq_false_iff, decide_eq_false_iff_not]; omega, Bool.false_and, Bool.false_and, Bool.false_and, Bool.false_and] at hk
      simp -implicitDefEqProofs [k2, b1, b2, b3, b4, c0, e0, c1, hk]
    by_cases e1 : 3 < x.node.cls
    · rw [show belowB x.node.cls 4 = false by simp only [belowB, Bool.and_eq_false_iff, decide_eq_false_iff_not]; omega, Bool.false_and, Bool.false_and, Bool.false_and, Bool.false_and] at hk
      simp -implicitDefEqProofs [k2, b1, b2, b3, b4, c0, e0, c1, e1, hk]
    rw [show belowB x.node.cls 4 = true by simp only [belowB, Bool.and_eq_true, decide_eq_true_eq]; omega, Bool.true_and] at hk
    by_cases c2 : x.node.step < 0
    · rw [show belowB x.node.step 4 = false by simp only [belowB, Bool.and_eq_false_iff, decide_eq_false_iff_not]; omega, Bool.false_and, Bool.false_and, Bool.false_and] at hk
      simp -implicitDefEqProofs [k2, b1, b2, b3, b4, c0, e0, c1, e1, c2, hk]
    by_cases e2 : 3 < x.node.step
    · rw [show belowB x.node.step 4 = false by simp only [belowB, Bool.and_eq_false_iff, decide_eq_false_iff_not]; omega, Bool.false_and, Bool.false_and, Bool.false_and] at hk
      simp -implicitDefEqProofs [k2, b1, b2, b3, b4, c0, e0, c1, e1, c2, e2, hk]
    rw [show belowB x.node.step 4 = true by simp only [belowB, Bool.and_eq_true, decide_eq_true_eq]; omega, Bool.true_and] at hk
    simp -implicitDefEqProofs [k2, b1, b2, b3, b4, c0, e0, c1, e1, c2, e2]
    refine callQ_p (refPlainR_ok x.node.reads hr) (by simp) ?_
    cases d3 : plainS x.node.reads
    · rw [d3, Bool.false_and, Bool.false_and] at hk
      simp -implicitDefEqProofs [hk]
    rw [d3, Bool.true_and] at hk
    simp -implicitDefEqProofs []
    refine callQ_p (refPlainR_ok x.node.writes hw) (by simp) ?_
    cases d4 : plainS x.node.writes
    · rw [d4, Bool.false_and] at hk
      simp -implicitDefEqProofs [hk]
    rw [d4, Bool.true_and] at hk
    by_cases d5 : (8 : Int) < x.changes.length
    · rw [show chgS x.changes x.node.writes = false by simp only [chgS, Bool.and_eq_false_iff, decide_eq_false_iff_not]; omega] at hk
      simp -implicitDefEqProofs [d5, hk]
    rw [he (by omega)] at hk
    rw [hk]
    simp -implicitDefEqProofs [d5]
    refine callQ_p o (by simp [encL_spn, encL, avP]) ?_
    simp -implicitDefEqProofs []
    refine hloop (by omega) _ _ ?_ ?_ ?_ ?_ ?_ ?_ <;> simp [cellsR, k2, b1, b2, b3, p1, p2, p3, p4, p5, p6]
  by_cases g0 : r0 = 0
  rotate_left
  · have hn : noneR x = false := by rw [hno, show decide ([r0, r1, r2, r3] = [0, 0, 0, 0]) = false from decide_eq_false (by simp only [List.cons.injEq, and_true]; omega), Bool.and_false]
    simp -implicitDefEqProofs [p1, p2, p3, p5, p6, p7, g0]
    by_cases k1 : x.kind = 1
    · have hk : recMay x = (noneR x && decide (x.saga = 0) && decide (x.why = 0) && belowB x.cls 4 && argsOK x.args) := by rw [recMay, if_pos k1]
      rw [hn, Bool.false_and, Bool.false_and, Bool.false_and, Bool.false_and] at hk
      simp -implicitDefEqProofs [k1, hk]
    by_cases k3 : x.kind = 3
    · have hk : recMay x = (noneR x && decide (x.cls = 0) && decide (x.args.length = 0) && belowB x.saga 12 && decide (1 ≤ x.why) && decide (x.why ≤ 15)) := by rw [recMay, if_neg k1, if_neg (by omega), if_pos k3]
      rw [hn, Bool.false_and, Bool.false_and, Bool.false_and, Bool.false_and, Bool.false_and] at hk
      simp -implicitDefEqProofs [k3, hk]
    by_cases k2 : x.kind = 2
    rotate_left
    · have hk : recMay x = false := by rw [recMay, if_neg k1, if_neg k2, if_neg k3]
      simp -implicitDefEqProofs [k1, k2, k3, hk]
    have hk : recMay x = (decide (x.saga = 0) && decide (x.why = 0) && decide (x.cls = 0) && decide (x.args.length = 0) && belowB x.node.saga 12 && belowB x.node.cls 4 && belowB x.node.step 4 && plainS x.node.reads && plainS x.node.writes && chgS x.changes x.node.writes) := by rw [recMay, if_neg k1, if_pos k2]
    by_cases b1 : x.saga = 0
    rotate_left
    · rw [decide_eq_false b1, Bool.false_and, Bool.false_and, Bool.false_and, Bool.false_and, Bool.false_and, Bool.false_and, Bool.false_and, Bool.false_and, Bool.false_and] at hk
      simp -implicitDefEqProofs [k2, b1, hk]
    rw [decide_eq_true b1, Bool.true_and] at hk
    by_cases b2 : x.why = 0
    rotate_left
    · rw [decide_eq_false b2, Bool.false_and, Bool.false_and, Bool.false_and, Bool.false_and, Bool.false_and, Bool.false_and, Bool.false_and, Bool.false_and] at hk
      simp -implicitDefEqProofs [k2, b1, b2, hk]
    rw [decide_eq_true b2, Bool.true_and] at hk
    by_cases b3 : x.cls = 0
    rotate_left
    · rw [decide_eq_false b3, Bool.false_and, Bool.false_and, Bool.false_and, Bool.false_and, Bool.false_and, Bool.false_and, Bool.false_and] at hk
      simp -implicitDefEqProofs [k2, b1, b2, b3, hk]
    rw [decide_eq_true b3, Bool.true_and] at hk
    by_cases b4 : x.args.length = 0
    rotate_left
    · rw [decide_eq_false b4, Bool.false_and, Bool.false_and, Bool.false_and, Bool.false_and, Bool.false_and, Bool.false_and] at hk
      simp -implicitDefEqProofs [k2, b1, b2, b3, show 0 < x.args.length by omega, hk]
    rw [decide_eq_true b4, Bool.true_and] at hk
    by_cases c0 : x.node.saga < 0
    · rw [show belowB x.node.saga 12 = false by simp only [belowB, Bool.and_eq_false_iff, decide_eq_false_iff_not]; omega, Bool.false_and, Bool.false_and, Bool.false_and, Bool.false_and, Bool.false_and] at hk
      simp -implicitDefEqProofs [k2, b1, b2, b3, b4, c0, hk]
    by_cases e0 : 11 < x.node.saga
    · rw [show belowB x.node.saga 12 = false by simp only [belowB, Bool.and_eq_false_iff, decide_eq_false_iff_not]; omega, Bool.false_and, Bool.false_and, Bool.false_and, Bool.false_and, Bool.false_and] at hk
      simp -implicitDefEqProofs [k2, b1, b2, b3, b4, c0, e0, hk]
    rw [show belowB x.node.saga 12 = true by simp only [belowB, Bool.and_eq_true, decide_eq_true_eq]; omega, Bool.true_and] at hk
    by_cases c1 : x.node.cls < 0
    · rw [show belowB x.node.cls 4 = false by simp only [belowB, Bool.and_eq_false_iff, decide_eq_false_iff_not]; omega, Bool.false_and, Bool.false_and, Bool.false_and, Bool.false_and] at hk
      simp -implicitDefEqProofs [k2, b1, b2, b3, b4, c0, e0, c1, hk]
    by_cases e1 : 3 < x.node.cls
    · rw [show belowB x.node.cls 4 = false by simp only [belowB, Bool.and_eq_false_iff, decide_eq_false_iff_not]; omega, Bool.false_and, Bool.false_and, Bool.false_and, Bool.false_and] at hk
      simp -implicitDefEqProofs [k2, b1, b2, b3, b4, c0, e0, c1, e1, hk]
    rw [show belowB x.node.cls 4 = true by simp only [belowB, Bool.and_eq_true, decide_eq_true_eq]; omega, Bool.true_and] at hk
    by_cases c2 : x.node.step < 0
    · rw [show belowB x.node.step 4 = false by simp only [belowB, Bool.and_eq_false_iff, decide_eq_false_iff_not]; omega, Bool.false_and, Bool.false_and, Bool.false_and] at hk
      simp -implicitDefEqProofs [k2, b1, b2, b3, b4, c0, e0, c1, e1, c2, hk]
    by_cases e2 : 3 < x.node.step
    · rw [show belowB x.node.step 4 = false by simp only [belowB, Bool.and_eq_false_iff, decide_eq_false_iff_not]; omega, Bool.false_and, Bool.false_and, Bool.false_and] at hk
      simp -implicitDefEqProofs [k2, b1, b2, b3, b4, c0, e0, c1, e1, c2, e2, hk]
    rw [show belowB x.node.step 4 = true by simp only [belowB, Bool.and_eq_true, decide_eq_true_eq]; omega, Bool.true_and] at hk
    simp -implicitDefEqProofs [k2, b1, b2, b3, b4, c0, e0, c1, e1, c2, e2]
    refine callQ_p (refPlainR_ok x.node.reads hr) (by simp) ?_
    cases d3 : plainS x.node.reads
    · rw [d3, Bool.false_and, Bool.false_and] at hk
      simp -implicitDefEqProofs [hk]
    rw [d3, Bool.true_and] at hk
    simp -implicitDefEqProofs []
    refine callQ_p (refPlainR_ok x.node.writes hw) (by simp) ?_
    cases d4 : plainS x.node.writes
    · rw [d4, Bool.false_and] at hk
      simp -implicitDefEqProofs [hk]
    rw [d4, Bool.true_and] at hk
    by_cases d5 : (8 : Int) < x.changes.length
    · rw [show chgS x.changes x.node.writes = false by simp only [chgS, Bool.and_eq_false_iff, decide_eq_false_iff_not]; omega] at hk
      simp -implicitDefEqProofs [d5, hk]
    rw [he (by omega)] at hk
    rw [hk]
    simp -implicitDefEqProofs [d5]
    refine callQ_p o (by simp [encL_spn, encL, avP]) ?_
    simp -implicitDefEqProofs []
    refine hloop (by omega) _ _ ?_ ?_ ?_ ?_ ?_ ?_ <;> simp [cellsR, k2, b1, b2, b3, p1, p2, p3, p4, p5, p6, p7]
  by_cases g1 : r1 = 0
  rotate_left
  · have hn : noneR x = false := by rw [hno, show decide ([r0, r1, r2, r3] = [0, 0, 0, 0]) = false from decide_eq_false (by simp only [List.cons.injEq, and_true]; omega), Bool.and_false]
    simp -implicitDefEqProofs [p1, p2, p3, p5, p6, p7, g0, g1]
    by_cases k1 : x.kind = 1
    · have hk : recMay x = (noneR x && decide (x.saga = 0) && decide (x.why = 0) && belowB x.cls 4 && argsOK x.args) := by rw [recMay, if_pos k1]
      rw [hn, Bool.false_and, Bool.false_and, Bool.false_and, Bool.false_and] at hk
      simp -implicitDefEqProofs [k1, hk]
    by_cases k3 : x.kind = 3
    · have hk : recMay x = (noneR x && decide (x.cls = 0) && decide (x.args.length = 0) && belowB x.saga 12 && decide (1 ≤ x.why) && decide (x.why ≤ 15)) := by rw [recMay, if_neg k1, if_neg (by omega), if_pos k3]
      rw [hn, Bool.false_and, Bool.false_and, Bool.false_and, Bool.false_and, Bool.false_and] at hk
      simp -implicitDefEqProofs [k3, hk]
    by_cases k2 : x.kind = 2
    rotate_left
    · have hk : recMay x = false := by rw [recMay, if_neg k1, if_neg k2, if_neg k3]
      simp -implicitDefEqProofs [k1, k2, k3, hk]
    have hk : recMay x = (decide (x.saga = 0) && decide (x.why = 0) && decide (x.cls = 0) && decide (x.args.length = 0) && belowB x.node.saga 12 && belowB x.node.cls 4 && belowB x.node.step 4 && plainS x.node.reads && plainS x.node.writes && chgS x.changes x.node.writes) := by rw [recMay, if_neg k1, if_pos k2]
    by_cases b1 : x.saga = 0
    rotate_left
    · rw [decide_eq_false b1, Bool.false_and, Bool.false_and, Bool.false_and, Bool.false_and, Bool.false_and, Bool.false_and, Bool.false_and, Bool.false_and, Bool.false_and] at hk
      simp -implicitDefEqProofs [k2, b1, hk]
    rw [decide_eq_true b1, Bool.true_and] at hk
    by_cases b2 : x.why = 0
    rotate_left
    · rw [decide_eq_false b2, Bool.false_and, Bool.false_and, Bool.false_and, Bool.false_and, Bool.false_and, Bool.false_and, Bool.false_and, Bool.false_and] at hk
      simp -implicitDefEqProofs [k2, b1, b2, hk]
    rw [decide_eq_true b2, Bool.true_and] at hk
    by_cases b3 : x.cls = 0
    rotate_left
    · rw [decide_eq_false b3, Bool.false_and, Bool.false_and, Bool.false_and, Bool.false_and, Bool.false_and, Bool.false_and, Bool.false_and] at hk
      simp -implicitDefEqProofs [k2, b1, b2, b3, hk]
    rw [decide_eq_true b3, Bool.true_and] at hk
    by_cases b4 : x.args.length = 0
    rotate_left
    · rw [decide_eq_false b4, Bool.false_and, Bool.false_and, Bool.false_and, Bool.false_and, Bool.false_and, Bool.false_and] at hk
      simp -implicitDefEqProofs [k2, b1, b2, b3, show 0 < x.args.length by omega, hk]
    rw [decide_eq_true b4, Bool.true_and] at hk
    by_cases c0 : x.node.saga < 0
    · rw [show belowB x.node.saga 12 = false by simp only [belowB, Bool.and_eq_false_iff, decide_eq_false_iff_not]; omega, Bool.false_and, Bool.false_and, Bool.false_and, Bool.false_and, Bool.false_and] at hk
      simp -implicitDefEqProofs [k2, b1, b2, b3, b4, c0, hk]
    by_cases e0 : 11 < x.node.saga
    · rw [show belowB x.node.saga 12 = false by simp only [belowB, Bool.and_eq_false_iff, decide_eq_false_iff_not]; omega, Bool.false_and, Bool.false_and, Bool.false_and, Bool.false_and, Bool.false_and] at hk
      simp -implicitDefEqProofs [k2, b1, b2, b3, b4, c0, e0, hk]
    rw [show belowB x.node.saga 12 = true by simp only [belowB, Bool.and_eq_true, decide_eq_true_eq]; omega, Bool.true_and] at hk
    by_cases c1 : x.node.cls < 0
    · rw [show belowB x.node.cls 4 = false by simp only [belowB, Bool.and_eq_false_iff, decide_eq_false_iff_not]; omega, Bool.false_and, Bool.false_and, Bool.false_and, Bool.false_and] at hk
      simp -implicitDefEqProofs [k2, b1, b2, b3, b4, c0, e0, c1, hk]
    by_cases e1 : 3 < x.node.cls
    · rw [show belowB x.node.cls 4 = false by simp only [belowB, Bool.and_eq_false_iff, decide_eq_false_iff_not]; omega, Bool.false_and, Bool.false_and, Bool.false_and, Bool.false_and] at hk
      simp -implicitDefEqProofs [k2, b1, b2, b3, b4, c0, e0, c1, e1, hk]
    rw [show belowB x.node.cls 4 = true by simp only [belowB, Bool.and_eq_true, decide_eq_true_eq]; omega, Bool.true_and] at hk
    by_cases c2 : x.node.step < 0
    · rw [show belowB x.node.step 4 = false by simp only [belowB, Bool.and_eq_false_iff, decide_eq_false_iff_not]; omega, Bool.false_and, Bool.false_and, Bool.false_and] at hk
      simp -implicitDefEqProofs [k2, b1, b2, b3, b4, c0, e0, c1, e1, c2, hk]
    by_cases e2 : 3 < x.node.step
    · rw [show belowB x.node.step 4 = false by simp only [belowB, Bool.and_eq_false_iff, decide_eq_false_iff_not]; omega, Bool.false_and, Bool.false_and, Bool.false_and] at hk
      simp -implicitDefEqProofs [k2, b1, b2, b3, b4, c0, e0, c1, e1, c2, e2, hk]
    rw [show belowB x.node.step 4 = true by simp only [belowB, Bool.and_eq_true, decide_eq_true_eq]; omega, Bool.true_and] at hk
    simp -implicitDefEqProofs [k2, b1, b2, b3, b4, c0, e0, c1, e1, c2, e2]
    refine callQ_p (refPlainR_ok x.node.reads hr) (by simp) ?_
    cases d3 : plainS x.node.reads
    · rw [d3, Bool.false_and, Bool.false_and] at hk
      simp -implicitDefEqProofs [hk]
    rw [d3, Bool.true_and] at hk
    simp -implicitDefEqProofs []
    refine callQ_p (refPlainR_ok x.node.writes hw) (by simp) ?_
    cases d4 : plainS x.node.writes
    · rw [d4, Bool.false_and] at hk
      simp -implicitDefEqProofs [hk]
    rw [d4, Bool.true_and] at hk
    by_cases d5 : (8 : Int) < x.changes.length
    · rw [show chgS x.changes x.node.writes = false by simp only [chgS, Bool.and_eq_false_iff, decide_eq_false_iff_not]; omega] at hk
      simp -implicitDefEqProofs [d5, hk]
    rw [he (by omega)] at hk
    rw [hk]
    simp -implicitDefEqProofs [d5]
    refine callQ_p o (by simp [encL_spn, encL, avP]) ?_
    simp -implicitDefEqProofs []
    refine hloop (by omega) _ _ ?_ ?_ ?_ ?_ ?_ ?_ <;> simp [cellsR, k2, b1, b2, b3, p1, p2, p3, p4, p5, p6, p7, g0]
  by_cases g2 : r2 = 0
  rotate_left
  · have hn : noneR x = false := by rw [hno, show decide ([r0, r1, r2, r3] = [0, 0, 0, 0]) = false from decide_eq_false (by simp only [List.cons.injEq, and_true]; omega), Bool.and_false]
    simp -implicitDefEqProofs [p1, p2, p3, p5, p6, p7, g0, g1, g2]
    by_cases k1 : x.kind = 1
    · have hk : recMay x = (noneR x && decide (x.saga = 0) && decide (x.why = 0) && belowB x.cls 4 && argsOK x.args) := by rw [recMay, if_pos k1]
      rw [hn, Bool.false_and, Bool.false_and, Bool.false_and, Bool.false_and] at hk
      simp -implicitDefEqProofs [k1, hk]
    by_cases k3 : x.kind = 3
    · have hk : recMay x = (noneR x && decide (x.cls = 0) && decide (x.args.length = 0) && belowB x.saga 12 && decide (1 ≤ x.why) && decide (x.why ≤ 15)) := by rw [recMay, if_neg k1, if_neg (by omega), if_pos k3]
      rw [hn, Bool.false_and, Bool.false_and, Bool.false_and, Bool.false_and, Bool.false_and] at hk
      simp -implicitDefEqProofs [k3, hk]
    by_cases k2 : x.kind = 2
    rotate_left
    · have hk : recMay x = false := by rw [recMay, if_neg k1, if_neg k2, if_neg k3]
      simp -implicitDefEqProofs [k1, k2, k3, hk]
    have hk : recMay x = (decide (x.saga = 0) && decide (x.why = 0) && decide (x.cls = 0) && decide (x.args.length = 0) && belowB x.node.saga 12 && belowB x.node.cls 4 && belowB x.node.step 4 && plainS x.node.reads && plainS x.node.writes && chgS x.changes x.node.writes) := by rw [recMay, if_neg k1, if_pos k2]
    by_cases b1 : x.saga = 0
    rotate_left
    · rw [decide_eq_false b1, Bool.false_and, Bool.false_and, Bool.false_and, Bool.false_and, Bool.false_and, Bool.false_and, Bool.false_and, Bool.false_and, Bool.false_and] at hk
      simp -implicitDefEqProofs [k2, b1, hk]
    rw [decide_eq_true b1, Bool.true_and] at hk
    by_cases b2 : x.why = 0
    rotate_left
    · rw [decide_eq_false b2, Bool.false_and, Bool.false_and, Bool.false_and, Bool.false_and, Bool.false_and, Bool.false_and, Bool.false_and, Bool.false_and] at hk
      simp -implicitDefEqProofs [k2, b1, b2, hk]
    rw [decide_eq_true b2, Bool.true_and] at hk
    by_cases b3 : x.cls = 0
    rotate_left
    · rw [decide_eq_false b3, Bool.false_and, Bool.false_and, Bool.false_and, Bool.false_and, Bool.false_and, Bool.false_and, Bool.false_and] at hk
      simp -implicitDefEqProofs [k2, b1, b2, b3, hk]
    rw [decide_eq_true b3, Bool.true_and] at hk
    by_cases b4 : x.args.length = 0
    rotate_left
    · rw [decide_eq_false b4, Bool.false_and, Bool.false_and, Bool.false_and, Bool.false_and, Bool.false_and, Bool.false_and] at hk
      simp -implicitDefEqProofs [k2, b1, b2, b3, show 0 < x.args.length by omega, hk]
    rw [decide_eq_true b4, Bool.true_and] at hk
    by_cases c0 : x.node.saga < 0
    · rw [show belowB x.node.saga 12 = false by simp only [belowB, Bool.and_eq_false_iff, decide_eq_false_iff_not]; omega, Bool.false_and, Bool.false_and, Bool.false_and, Bool.false_and, Bool.false_and] at hk
      simp -implicitDefEqProofs [k2, b1, b2, b3, b4, c0, hk]
    by_cases e0 : 11 < x.node.saga
    · rw [show belowB x.node.saga 12 = false by simp only [belowB, Bool.and_eq_false_iff, decide_eq_false_iff_not]; omega, Bool.false_and, Bool.false_and, Bool.false_and, Bool.false_and, Bool.false_and] at hk
      simp -implicitDefEqProofs [k2, b1, b2, b3, b4, c0, e0, hk]
    rw [show belowB x.node.saga 12 = true by simp only [belowB, Bool.and_eq_true, decide_eq_true_eq]; omega, Bool.true_and] at hk
    by_cases c1 : x.node.cls < 0
    · rw [show belowB x.node.cls 4 = false by simp only [belowB, Bool.and_eq_false_iff, decide_eq_false_iff_not]; omega, Bool.false_and, Bool.false_and, Bool.false_and, Bool.false_and] at hk
      simp -implicitDefEqProofs [k2, b1, b2, b3, b4, c0, e0, c1, hk]
    by_cases e1 : 3 < x.node.cls
    · rw [show belowB x.node.cls 4 = false by simp only [belowB, Bool.and_eq_false_iff, decide_eq_false_iff_not]; omega, Bool.false_and, Bool.false_and, Bool.false_and, Bool.false_and] at hk
      simp -implicitDefEqProofs [k2, b1, b2, b3, b4, c0, e0, c1, e1, hk]
    rw [show belowB x.node.cls 4 = true by simp only [belowB, Bool.and_eq_true, decide_eq_true_eq]; omega, Bool.true_and] at hk
    by_cases c2 : x.node.step < 0
    · rw [show belowB x.node.step 4 = false by simp only [belowB, Bool.and_eq_false_iff, decide_eq_false_iff_not]; omega, Bool.false_and, Bool.false_and, Bool.false_and] at hk
      simp -implicitDefEqProofs [k2, b1, b2, b3, b4, c0, e0, c1, e1, c2, hk]
    by_cases e2 : 3 < x.node.step
    · rw [show belowB x.node.step 4 = false by simp only [belowB, Bool.and_eq_false_iff, decide_eq_false_iff_not]; omega, Bool.false_and, Bool.false_and, Bool.false_and] at hk
      simp -implicitDefEqProofs [k2, b1, b2, b3, b4, c0, e0, c1, e1, c2, e2, hk]
    rw [show belowB x.node.step 4 = true by simp only [belowB, Bool.and_eq_true, decide_eq_true_eq]; omega, Bool.true_and] at hk
    simp -implicitDefEqProofs [k2, b1, b2, b3, b4, c0, e0, c1, e1, c2, e2]
    refine callQ_p (refPlainR_ok x.node.reads hr) (by simp) ?_
    cases d3 : plainS x.node.reads
    · rw [d3, Bool.false_and, Bool.false_and] at hk
      simp -implicitDefEqProofs [hk]
    rw [d3, Bool.true_and] at hk
    simp -implicitDefEqProofs []
    refine callQ_p (refPlainR_ok x.node.writes hw) (by simp) ?_
    cases d4 : plainS x.node.writes
    · rw [d4, Bool.false_and] at hk
      simp -implicitDefEqProofs [hk]
    rw [d4, Bool.true_and] at hk
    by_cases d5 : (8 : Int) < x.changes.length
    · rw [show chgS x.changes x.node.writes = false by simp only [chgS, Bool.and_eq_false_iff, decide_eq_false_iff_not]; omega] at hk
      simp -implicitDefEqProofs [d5, hk]
    rw [he (by omega)] at hk
    rw [hk]
    simp -implicitDefEqProofs [d5]
    refine callQ_p o (by simp [encL_spn, encL, avP]) ?_
    simp -implicitDefEqProofs []
    refine hloop (by omega) _ _ ?_ ?_ ?_ ?_ ?_ ?_ <;> simp [cellsR, k2, b1, b2, b3, p1, p2, p3, p4, p5, p6, p7, g0, g1]
  by_cases g3 : r3 = 0
  rotate_left
  · have hn : noneR x = false := by rw [hno, show decide ([r0, r1, r2, r3] = [0, 0, 0, 0]) = false from decide_eq_false (by simp only [List.cons.injEq, and_true]; omega), Bool.and_false]
    simp -implicitDefEqProofs [p1, p2, p3, p5, p6, p7, g0, g1, g2, g3]
    by_cases k1 : x.kind = 1
    · have hk : recMay x = (noneR x && decide (x.saga = 0) && decide (x.why = 0) && belowB x.cls 4 && argsOK x.args) := by rw [recMay, if_pos k1]
      rw [hn, Bool.false_and, Bool.false_and, Bool.false_and, Bool.false_and] at hk
      simp -implicitDefEqProofs [k1, hk]
    by_cases k3 : x.kind = 3
    · have hk : recMay x = (noneR x && decide (x.cls = 0) && decide (x.args.length = 0) && belowB x.saga 12 && decide (1 ≤ x.why) && decide (x.why ≤ 15)) := by rw [recMay, if_neg k1, if_neg (by omega), if_pos k3]
      rw [hn, Bool.false_and, Bool.false_and, Bool.false_and, Bool.false_and, Bool.false_and] at hk
      simp -implicitDefEqProofs [k3, hk]
    by_cases k2 : x.kind = 2
    rotate_left
    · have hk : recMay x = false := by rw [recMay, if_neg k1, if_neg k2, if_neg k3]
      simp -implicitDefEqProofs [k1, k2, k3, hk]
    have hk : recMay x = (decide (x.saga = 0) && decide (x.why = 0) && decide (x.cls = 0) && decide (x.args.length = 0) && belowB x.node.saga 12 && belowB x.node.cls 4 && belowB x.node.step 4 && plainS x.node.reads && plainS x.node.writes && chgS x.changes x.node.writes) := by rw [recMay, if_neg k1, if_pos k2]
    by_cases b1 : x.saga = 0
    rotate_left
    · rw [decide_eq_false b1, Bool.false_and, Bool.false_and, Bool.false_and, Bool.false_and, Bool.false_and, Bool.false_and, Bool.false_and, Bool.false_and, Bool.false_and] at hk
      simp -implicitDefEqProofs [k2, b1, hk]
    rw [decide_eq_true b1, Bool.true_and] at hk
    by_cases b2 : x.why = 0
    rotate_left
    · rw [decide_eq_false b2, Bool.false_and, Bool.false_and, Bool.false_and, Bool.false_and, Bool.false_and, Bool.false_and, Bool.false_and, Bool.false_and] at hk
      simp -implicitDefEqProofs [k2, b1, b2, hk]
    rw [decide_eq_true b2, Bool.true_and] at hk
    by_cases b3 : x.cls = 0
    rotate_left
    · rw [decide_eq_false b3, Bool.false_and, Bool.false_and, Bool.false_and, Bool.false_and, Bool.false_and, Bool.false_and, Bool.false_and] at hk
      simp -implicitDefEqProofs [k2, b1, b2, b3, hk]
    rw [decide_eq_true b3, Bool.true_and] at hk
    by_cases b4 : x.args.length = 0
    rotate_left
    · rw [decide_eq_false b4, Bool.false_and, Bool.false_and, Bool.false_and, Bool.false_and, Bool.false_and, Bool.false_and] at hk
      simp -implicitDefEqProofs [k2, b1, b2, b3, show 0 < x.args.length by omega, hk]
    rw [decide_eq_true b4, Bool.true_and] at hk
    by_cases c0 : x.node.saga < 0
    · rw [show belowB x.node.saga 12 = false by simp only [belowB, Bool.and_eq_false_iff, decide_eq_false_iff_not]; omega, Bool.false_and, Bool.false_and, Bool.false_and, Bool.false_and, Bool.false_and] at hk
      simp -implicitDefEqProofs [k2, b1, b2, b3, b4, c0, hk]
    by_cases e0 : 11 < x.node.saga
    · rw [show belowB x.node.saga 12 = false by simp only [belowB, Bool.and_eq_false_iff, decide_eq_false_iff_not]; omega, Bool.false_and, Bool.false_and, Bool.false_and, Bool.false_and, Bool.false_and] at hk
      simp -implicitDefEqProofs [k2, b1, b2, b3, b4, c0, e0, hk]
    rw [show belowB x.node.saga 12 = true by simp only [belowB, Bool.and_eq_true, decide_eq_true_eq]; omega, Bool.true_and] at hk
    by_cases c1 : x.node.cls < 0
    · rw [show belowB x.node.cls 4 = false by simp only [belowB, Bool.and_eq_false_iff, decide_eq_false_iff_not]; omega, Bool.false_and, Bool.false_and, Bool.false_and, Bool.false_and] at hk
      simp -implicitDefEqProofs [k2, b1, b2, b3, b4, c0, e0, c1, hk]
    by_cases e1 : 3 < x.node.cls
    · rw [show belowB x.node.cls 4 = false by simp only [belowB, Bool.and_eq_false_iff, decide_eq_false_iff_not]; omega, Bool.false_and, Bool.false_and, Bool.false_and, Bool.false_and] at hk
      simp -implicitDefEqProofs [k2, b1, b2, b3, b4, c0, e0, c1, e1, hk]
    rw [show belowB x.node.cls 4 = true by simp only [belowB, Bool.and_eq_true, decide_eq_true_eq]; omega, Bool.true_and] at hk
    by_cases c2 : x.node.step < 0
    · rw [show belowB x.node.step 4 = false by simp only [belowB, Bool.and_eq_false_iff, decide_eq_false_iff_not]; omega, Bool.false_and, Bool.false_and, Bool.false_and] at hk
      simp -implicitDefEqProofs [k2, b1, b2, b3, b4, c0, e0, c1, e1, c2, hk]
    by_cases e2 : 3 < x.node.step
    · rw [show belowB x.node.step 4 = false by simp only [belowB, Bool.and_eq_false_iff, decide_eq_false_iff_not]; omega, Bool.false_and, Bool.false_and, Bool.false_and] at hk
      simp -implicitDefEqProofs [k2, b1, b2, b3, b4, c0, e0, c1, e1, c2, e2, hk]
    rw [show belowB x.node.step 4 = true by simp only [belowB, Bool.and_eq_true, decide_eq_true_eq]; omega, Bool.true_and] at hk
    simp -implicitDefEqProofs [k2, b1, b2, b3, b4, c0, e0, c1, e1, c2, e2]
    refine callQ_p (refPlainR_ok x.node.reads hr) (by simp) ?_
    cases d3 : plainS x.node.reads
    · rw [d3, Bool.false_and, Bool.false_and] at hk
      simp -implicitDefEqProofs [hk]
    rw [d3, Bool.true_and] at hk
    simp -implicitDefEqProofs []
    refine callQ_p (refPlainR_ok x.node.writes hw) (by simp) ?_
    cases d4 : plainS x.node.writes
    · rw [d4, Bool.false_and] at hk
      simp -implicitDefEqProofs [hk]
    rw [d4, Bool.true_and] at hk
    by_cases d5 : (8 : Int) < x.changes.length
    · rw [show chgS x.changes x.node.writes = false by simp only [chgS, Bool.and_eq_false_iff, decide_eq_false_iff_not]; omega] at hk
      simp -implicitDefEqProofs [d5, hk]
    rw [he (by omega)] at hk
    rw [hk]
    simp -implicitDefEqProofs [d5]
    refine callQ_p o (by simp [encL_spn, encL, avP]) ?_
    simp -implicitDefEqProofs []
    refine hloop (by omega) _ _ ?_ ?_ ?_ ?_ ?_ ?_ <;> simp [cellsR, k2, b1, b2, b3, p1, p2, p3, p4, p5, p6, p7, g0, g1, g2]
  have hn : noneR x = true := by rw [hno, emptyN, p1, p2, p3, p4, p5, p6, p7, g0, g1, g2, g3]; rfl
  simp -implicitDefEqProofs [p1, p2, p3, p5, p6, p7, g0, g1, g2, g3]
  by_cases k1 : x.kind = 1
  · have hk : recMay x = (noneR x && decide (x.saga = 0) && decide (x.why = 0) && belowB x.cls 4 && argsOK x.args) := by rw [recMay, if_pos k1]
    rw [hn, Bool.true_and] at hk
    by_cases a1 : x.saga = 0
    rotate_left
    · rw [decide_eq_false a1, Bool.false_and, Bool.false_and, Bool.false_and] at hk
      simp -implicitDefEqProofs [k1, a1, hk]
    rw [decide_eq_true a1, Bool.true_and] at hk
    by_cases a2 : x.why = 0
    rotate_left
    · rw [decide_eq_false a2, Bool.false_and, Bool.false_and] at hk
      simp -implicitDefEqProofs [k1, a1, a2, hk]
    rw [decide_eq_true a2, Bool.true_and] at hk
    by_cases a3 : 0 ≤ x.cls
    rotate_left
    · rw [show belowB x.cls 4 = false by simp [belowB, a3], Bool.false_and] at hk
      simp -implicitDefEqProofs [k1, a1, a2, a3, hk]
    by_cases a4 : x.cls < 4
    rotate_left
    · rw [show belowB x.cls 4 = false by simp [belowB, a4], Bool.false_and] at hk
      simp -implicitDefEqProofs [k1, a1, a2, a3, a4, hk]
    rw [show belowB x.cls 4 = true by simp [belowB, a3, a4], Bool.true_and] at hk
    simp -implicitDefEqProofs [k1, a1, a2, a3, a4]
    refine callQ_p (refArgs20_ok x.args ha) (by simp [encA]) ?_
    simp -implicitDefEqProofs [hk]
  by_cases k3 : x.kind = 3
  · have hk : recMay x = (noneR x && decide (x.cls = 0) && decide (x.args.length = 0) && belowB x.saga 12 && decide (1 ≤ x.why) && decide (x.why ≤ 15)) := by rw [recMay, if_neg k1, if_neg (by omega), if_pos k3]
    rw [hn, Bool.true_and] at hk
    by_cases b1 : x.cls = 0
    rotate_left
    · rw [decide_eq_false b1, Bool.false_and, Bool.false_and, Bool.false_and, Bool.false_and] at hk
      simp -implicitDefEqProofs [k3, b1, hk]
    rw [decide_eq_true b1, Bool.true_and] at hk
    by_cases b2 : x.args.length = 0
    rotate_left
    · rw [decide_eq_false b2, Bool.false_and, Bool.false_and, Bool.false_and] at hk
      simp -implicitDefEqProofs [k3, b1, b2, hk]
    rw [decide_eq_true b2, Bool.true_and] at hk
    by_cases b3 : 0 ≤ x.saga
    rotate_left
    · rw [show belowB x.saga 12 = false by simp [belowB, b3], Bool.false_and, Bool.false_and] at hk
      simp -implicitDefEqProofs [k3, b1, b2, b3, hk]
    by_cases b4 : x.saga < 12
    rotate_left
    · rw [show belowB x.saga 12 = false by simp [belowB, b4], Bool.false_and, Bool.false_and] at hk
      simp -implicitDefEqProofs [k3, b1, b2, b3, b4, hk]
    rw [show belowB x.saga 12 = true by simp [belowB, b3, b4], Bool.true_and] at hk
    by_cases b5 : 0 < x.why
    rotate_left
    · rw [decide_eq_false (by omega : ¬ 1 ≤ x.why), Bool.false_and] at hk
      simp -implicitDefEqProofs [k3, b1, b2, b3, b4, b5, hk]
    by_cases b6 : x.why < 16
    · rw [decide_eq_true (by omega : 1 ≤ x.why), decide_eq_true (by omega : x.why ≤ 15)] at hk
      simp -implicitDefEqProofs [k3, b1, b2, b3, b4, b5, b6, hk]
    · rw [decide_eq_true (by omega : 1 ≤ x.why), decide_eq_false (by omega : ¬ x.why ≤ 15)] at hk
      simp -implicitDefEqProofs [k3, b1, b2, b3, b4, b5, b6, hk]
  by_cases k2 : x.kind = 2
  rotate_left
  · have hk : recMay x = false := by rw [recMay, if_neg k1, if_neg k2, if_neg k3]
    simp -implicitDefEqProofs [k1, k2, k3, hk]
  have hk : recMay x = (decide (x.saga = 0) && decide (x.why = 0) && decide (x.cls = 0) && decide (x.args.length = 0) && belowB x.node.saga 12 && belowB x.node.cls 4 && belowB x.node.step 4 && plainS x.node.reads && plainS x.node.writes && chgS x.changes x.node.writes) := by rw [recMay, if_neg k1, if_pos k2]
  by_cases b1 : x.saga = 0
  rotate_left
  · rw [decide_eq_false b1, Bool.false_and, Bool.false_and, Bool.false_and, Bool.false_and, Bool.false_and, Bool.false_and, Bool.false_and, Bool.false_and, Bool.false_and] at hk
    simp -implicitDefEqProofs [k2, b1, hk]
  rw [decide_eq_true b1, Bool.true_and] at hk
  by_cases b2 : x.why = 0
  rotate_left
  · rw [decide_eq_false b2, Bool.false_and, Bool.false_and, Bool.false_and, Bool.false_and, Bool.false_and, Bool.false_and, Bool.false_and, Bool.false_and] at hk
    simp -implicitDefEqProofs [k2, b1, b2, hk]
  rw [decide_eq_true b2, Bool.true_and] at hk
  by_cases b3 : x.cls = 0
  rotate_left
  · rw [decide_eq_false b3, Bool.false_and, Bool.false_and, Bool.false_and, Bool.false_and, Bool.false_and, Bool.false_and, Bool.false_and] at hk
    simp -implicitDefEqProofs [k2, b1, b2, b3, hk]
  rw [decide_eq_true b3, Bool.true_and] at hk
  by_cases b4 : x.args.length = 0
  rotate_left
  · rw [decide_eq_false b4, Bool.false_and, Bool.false_and, Bool.false_and, Bool.false_and, Bool.false_and, Bool.false_and] at hk
    simp -implicitDefEqProofs [k2, b1, b2, b3, show 0 < x.args.length by omega, hk]
  rw [decide_eq_true b4, Bool.true_and] at hk
  by_cases c0 : x.node.saga < 0
  · rw [show belowB x.node.saga 12 = false by simp only [belowB, Bool.and_eq_false_iff, decide_eq_false_iff_not]; omega, Bool.false_and, Bool.false_and, Bool.false_and, Bool.false_and, Bool.false_and] at hk
    simp -implicitDefEqProofs [k2, b1, b2, b3, b4, c0, hk]
  by_cases e0 : 11 < x.node.saga
  · rw [show belowB x.node.saga 12 = false by simp only [belowB, Bool.and_eq_false_iff, decide_eq_false_iff_not]; omega, Bool.false_and, Bool.false_and, Bool.false_and, Bool.false_and, Bool.false_and] at hk
    simp -implicitDefEqProofs [k2, b1, b2, b3, b4, c0, e0, hk]
  rw [show belowB x.node.saga 12 = true by simp only [belowB, Bool.and_eq_true, decide_eq_true_eq]; omega, Bool.true_and] at hk
  by_cases c1 : x.node.cls < 0
  · rw [show belowB x.node.cls 4 = false by simp only [belowB, Bool.and_eq_false_iff, decide_eq_false_iff_not]; omega, Bool.false_and, Bool.false_and, Bool.false_and, Bool.false_and] at hk
    simp -implicitDefEqProofs [k2, b1, b2, b3, b4, c0, e0, c1, hk]
  by_cases e1 : 3 < x.node.cls
  · rw [show belowB x.node.cls 4 = false by simp only [belowB, Bool.and_eq_false_iff, decide_eq_false_iff_not]; omega, Bool.false_and, Bool.false_and, Bool.false_and, Bool.false_and] at hk
    simp -implicitDefEqProofs [k2, b1, b2, b3, b4, c0, e0, c1, e1, hk]
  rw [show belowB x.node.cls 4 = true by simp only [belowB, Bool.and_eq_true, decide_eq_true_eq]; omega, Bool.true_and] at hk
  by_cases c2 : x.node.step < 0
  · rw [show belowB x.node.step 4 = false by simp only [belowB, Bool.and_eq_false_iff, decide_eq_false_iff_not]; omega, Bool.false_and, Bool.false_and, Bool.false_and] at hk
    simp -implicitDefEqProofs [k2, b1, b2, b3, b4, c0, e0, c1, e1, c2, hk]
  by_cases e2 : 3 < x.node.step
  · rw [show belowB x.node.step 4 = false by simp only [belowB, Bool.and_eq_false_iff, decide_eq_false_iff_not]; omega, Bool.false_and, Bool.false_and, Bool.false_and] at hk
    simp -implicitDefEqProofs [k2, b1, b2, b3, b4, c0, e0, c1, e1, c2, e2, hk]
  rw [show belowB x.node.step 4 = true by simp only [belowB, Bool.and_eq_true, decide_eq_true_eq]; omega, Bool.true_and] at hk
  simp -implicitDefEqProofs [k2, b1, b2, b3, b4, c0, e0, c1, e1, c2, e2]
  refine callQ_p (refPlainR_ok x.node.reads hr) (by simp) ?_
  cases d3 : plainS x.node.reads
  · rw [d3, Bool.false_and, Bool.false_and] at hk
    simp -implicitDefEqProofs [hk]
  rw [d3, Bool.true_and] at hk
  simp -implicitDefEqProofs []
  refine callQ_p (refPlainR_ok x.node.writes hw) (by simp) ?_
  cases d4 : plainS x.node.writes
  · rw [d4, Bool.false_and] at hk
    simp -implicitDefEqProofs [hk]
  rw [d4, Bool.true_and] at hk
  by_cases d5 : (8 : Int) < x.changes.length
  · rw [show chgS x.changes x.node.writes = false by simp only [chgS, Bool.and_eq_false_iff, decide_eq_false_iff_not]; omega] at hk
    simp -implicitDefEqProofs [d5, hk]
  rw [he (by omega)] at hk
  rw [hk]
  simp -implicitDefEqProofs [d5]
  refine callQ_p o (by simp [encL_spn, encL, avP]) ?_
  simp -implicitDefEqProofs []
  refine hloop (by omega) _ _ ?_ ?_ ?_ ?_ ?_ ?_ <;> simp [cellsR, k2, b1, b2, b3, p1, p2, p3, p4, p5, p6, p7, g0, g1, g2, g3]
end Go.Proofs
