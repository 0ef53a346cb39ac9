/- What the functions that the statement reaches do: their contracts; and what follows of it. -/
import Derived.Test.YtdcpendppalkgaaSRecsCut6
import Derived.Test.YtdcpendppalkgaaSRecsCut7
/- Which records may be: the program's answer. -/
namespace Go.Proofs
open Go Go.RowKit Go.Am

set_option maxHeartbeats 4000000 in
theorem recMay_ok (x : Recd) (hx : x.wf) (ha : x.args.length ≤ 1000000) (hc : x.changes.length ≤ 1000000) (hr : x.node.reads.length ≤ 1000000) (hw : x.node.writes.length ≤ 1000000) : PCall Try.prog 31 [.agg (encRecd x)] (.bool (recMay x)) := by
  have p := pures1 (.agg (pure_encRecd x))
  obtain ⟨r0, r1, r2, r3, ra⟩ := regs_four hx.2.2.2.2.2.2.1.1
  rw [encRecd_cells ra] at p ⊢
  refine PCall.run hb31 ok31 (by simp) p (.bool _) ?_
  have hno : noneR x = (emptyN x.node && decide (x.changes.length = 0) && decide ([r0, r1, r2, r3] = [0, 0, 0, 0])) := by rw [noneR, ra]
  simp -implicitDefEqProofs [cellsR, H.nil]
  refine callQ_p (emptyR_ok x.node) (by simp [encNod]) ?_
  cases h1 : emptyN x.node
  · have hn : noneR x = false := by rw [hno, h1]; rfl
    simp -implicitDefEqProofs []
    by_cases k1 : x.kind = 1
    · have hk : recMay x = (noneR x && decide (x.saga = 0) && decide (x.why = 0) && belowB x.cls 4 && argsOK x.args) := by rw [recMay, if_pos k1]
      rw [hn, Bool.false_and, Bool.false_and, Bool.false_and, Bool.false_and] at hk
      simp -implicitDefEqProofs [k1, hk]
    by_cases k2 : x.kind = 2
    · have hk : recMay x = (decide (x.saga = 0) && decide (x.why = 0) && decide (x.cls = 0) && decide (x.args.length = 0) && belowB x.node.saga 12 && belowB x.node.cls 4 && belowB x.node.step 4 && plainS x.node.reads && plainS x.node.writes && chgS x.changes x.node.writes) := by rw [recMay, if_neg k1, if_pos k2]
      by_cases b1 : x.saga = 0
      rotate_left
      · rw [decide_eq_false b1, Bool.false_and, Bool.false_and, Bool.false_and, Bool.false_and, Bool.false_and, Bool.false_and, Bool.false_and, Bool.false_and, Bool.false_and] at hk
        simp -implicitDefEqProofs [k2, b1, hk]
      rw [decide_eq_true b1, Bool.true_and] at hk
      by_cases b2 : x.why = 0
      rotate_left
      · rw [decide_eq_false b2, Bool.false_and, Bool.false_and, Bool.false_and, Bool.false_and, Bool.false_and, Bool.false_and, Bool.false_and, Bool.false_and] at hk
        simp -implicitDefEqProofs [k2, b1, b2, hk]
      rw [decide_eq_true b2, Bool.true_and] at hk
      by_cases b3 : x.cls = 0
      rotate_left
      · rw [decide_eq_false b3, Bool.false_and, Bool.false_and, Bool.false_and, Bool.false_and, Bool.false_and, Bool.false_and, Bool.false_and] at hk
        simp -implicitDefEqProofs [k2, b1, b2, b3, hk]
      rw [decide_eq_true b3, Bool.true_and] at hk
      by_cases b4 : x.args.length = 0
      rotate_left
      · rw [decide_eq_false b4, Bool.false_and, Bool.false_and, Bool.false_and, Bool.false_and, Bool.false_and, Bool.false_and] at hk
        simp -implicitDefEqProofs [k2, b1, b2, b3, b4, hk]
      rw [decide_eq_true b4, Bool.true_and] at hk
      simp -implicitDefEqProofs [k2, b1, b2, b3, b4]
      refine callQ_p (below_ok x.node.saga 12) (by simp) ?_
      cases d0 : belowB x.node.saga 12
      · rw [d0, Bool.false_and, Bool.false_and, Bool.false_and, Bool.false_and, Bool.false_and] at hk
        simp -implicitDefEqProofs [hk]
      rw [d0, Bool.true_and] at hk
      simp -implicitDefEqProofs []
      refine callQ_p (below_ok x.node.cls 4) (by simp) ?_
      cases d1 : belowB x.node.cls 4
      · rw [d1, Bool.false_and, Bool.false_and, Bool.false_and, Bool.false_and] at hk
        simp -implicitDefEqProofs [hk]
      rw [d1, Bool.true_and] at hk
      simp -implicitDefEqProofs []
      refine callQ_p (below_ok x.node.step 4) (by simp) ?_
      cases d2 : belowB x.node.step 4
      · rw [d2, Bool.false_and, Bool.false_and, Bool.false_and] at hk
        simp -implicitDefEqProofs [hk]
      rw [d2, Bool.true_and] at hk
      simp -implicitDefEqProofs []
      refine callQ_p (plainR_ok x.node.reads hr) (by simp) ?_
      cases d3 : plainS x.node.reads
      · rw [d3, Bool.false_and, Bool.false_and] at hk
        simp -implicitDefEqProofs [hk]
      rw [d3, Bool.true_and] at hk
      simp -implicitDefEqProofs []
      refine callQ_p (plainR_ok x.node.writes hw) (by simp) ?_
      cases d4 : plainS x.node.writes
      · rw [d4, Bool.false_and] at hk
        simp -implicitDefEqProofs [hk]
      rw [d4, Bool.true_and] at hk
      simp -implicitDefEqProofs []
      refine callQ_p (changesR_ok x.changes x.node.writes hc hw) (by simp) ?_
      rw [hk]
      simp -implicitDefEqProofs []
    by_cases k3 : x.kind = 3
    · have hk : recMay x = (noneR x && decide (x.cls = 0) && decide (x.args.length = 0) && belowB x.saga 12 && decide (1 ≤ x.why) && decide (x.why ≤ 15)) := by rw [recMay, if_neg k1, if_neg k2, if_pos k3]
      rw [hn, Bool.false_and, Bool.false_and, Bool.false_and, Bool.false_and, Bool.false_and] at hk
      simp -implicitDefEqProofs [k3, hk]
    · have hk : recMay x = false := by rw [recMay, if_neg k1, if_neg k2, if_neg k3]
      simp -implicitDefEqProofs [k1, k2, k3, hk]
  by_cases h2 : x.changes.length = 0
  rotate_left
  · have hn : noneR x = false := by rw [hno, h1, decide_eq_false h2]; rfl
    simp -implicitDefEqProofs [h2]
    by_cases k1 : x.kind = 1
    · have hk : recMay x = (noneR x && decide (x.saga = 0) && decide (x.why = 0) && belowB x.cls 4 && argsOK x.args) := by rw [recMay, if_pos k1]
      rw [hn, Bool.false_and, Bool.false_and, Bool.false_and, Bool.false_and] at hk
      simp -implicitDefEqProofs [k1, hk]
    by_cases k2 : x.kind = 2
    · have hk : recMay x = (decide (x.saga = 0) && decide (x.why = 0) && decide (x.cls = 0) && decide (x.args.length = 0) && belowB x.node.saga 12 && belowB x.node.cls 4 && belowB x.node.step 4 && plainS x.node.reads && plainS x.node.writes && chgS x.changes x.node.writes) := by rw [recMay, if_neg k1, if_pos k2]
      by_cases b1 : x.saga = 0
      rotate_left
      · rw [decide_eq_false b1, Bool.false_and, Bool.false_and, Bool.false_and, Bool.false_and, Bool.false_and, Bool.false_and, Bool.false_and, Bool.false_and, Bool.false_and] at hk
        simp -implicitDefEqProofs [k2, b1, hk]
      rw [decide_eq_true b1, Bool.true_and] at hk
      by_cases b2 : x.why = 0
      rotate_left
      · rw [decide_eq_false b2, Bool.false_and, Bool.false_and, Bool.false_and, Bool.false_and, Bool.false_and, Bool.false_and, Bool.false_and, Bool.false_and] at hk
        simp -implicitDefEqProofs [k2, b1, b2, hk]
      rw [decide_eq_true b2, Bool.true_and] at hk
      by_cases b3 : x.cls = 0
      rotate_left
      · rw [decide_eq_false b3, Bool.false_and, Bool.false_and, Bool.false_and, Bool.false_and, Bool.false_and, Bool.false_and, Bool.false_and] at hk
        simp -implicitDefEqProofs [k2, b1, b2, b3, hk]
      rw [decide_eq_true b3, Bool.true_and] at hk
      by_cases b4 : x.args.length = 0
      rotate_left
      · rw [decide_eq_false b4, Bool.false_and, Bool.false_and, Bool.false_and, Bool.false_and, Bool.false_and, Bool.false_and] at hk
        simp -implicitDefEqProofs [k2, b1, b2, b3, b4, hk]
      rw [decide_eq_true b4, Bool.true_and] at hk
      simp -implicitDefEqProofs [k2, b1, b2, b3, b4]
      refine callQ_p (below_ok x.node.saga 12) (by simp) ?_
      cases d0 : belowB x.node.saga 12
      · rw [d0, Bool.false_and, Bool.false_and, Bool.false_and, Bool.false_and, Bool.false_and] at hk
        simp -implicitDefEqProofs [hk]
      rw [d0, Bool.true_and] at hk
      simp -implicitDefEqProofs []
      refine callQ_p (below_ok x.node.cls 4) (by simp) ?_
      cases d1 : belowB x.node.cls 4
      · rw [d1, Bool.false_and, Bool.false_and, Bool.false_and, Bool.false_and] at hk
        simp -implicitDefEqProofs [hk]
      rw [d1, Bool.true_and] at hk
      simp -implicitDefEqProofs []
      refine callQ_p (below_ok x.node.step 4) (by simp) ?_
      cases d2 : belowB x.node.step 4
      · rw [d2, Bool.false_and, Bool.false_and, Bool.false_and] at hk
        simp -implicitDefEqProofs [hk]
      rw [d2, Bool.true_and] at hk
      simp -implicitDefEqProofs []
      refine callQ_p (plainR_ok x.node.reads hr) (by simp) ?_
      cases d3 : plainS x.node.reads
      · rw [d3, Bool.false_and, Bool.false_and] at hk
        simp -implicitDefEqProofs [hk]
      rw [d3, Bool.true_and] at hk
      simp -implicitDefEqProofs []
      refine callQ_p (plainR_ok x.node.writes hw) (by simp) ?_
      cases d4 : plainS x.node.writes
      · rw [d4, Bool.false_and] at hk
        simp -implicitDefEqProofs [hk]
      rw [d4, Bool.true_and] at hk
      simp -implicitDefEqProofs []
      refine callQ_p (changesR_ok x.changes x.node.writes hc hw) (by simp) ?_
      rw [hk]
      simp -implicitDefEqProofs []
    by_cases k3 : x.kind = 3
    · have hk : recMay x = (noneR x && decide (x.cls = 0) && decide (x.args.length = 0) && belowB x.saga 12 && decide (1 ≤ x.why) && decide (x.why ≤ 15)) := by rw [recMay, if_neg k1, if_neg k2, if_pos k3]
      rw [hn, Bool.false_and, Bool.false_and, Bool.false_and, Bool.false_and, Bool.false_and] at hk
      simp -implicitDefEqProofs [k3, hk]
    · have hk : recMay x = false := by rw [recMay, if_neg k1, if_neg k2, if_neg k3]
      simp -implicitDefEqProofs [k1, k2, k3, hk]
  by_cases g0 : r0 = 0
  rotate_left
  · have hn : noneR x = false := by rw [hno, show decide ([r0, r1, r2, r3] = [0, 0, 0, 0]) = false from decide_eq_false (by simp only [List.cons.injEq, and_true]; omega), Bool.and_false]
    simp -implicitDefEqProofs [h2, g0]
    by_cases k1 : x.kind = 1
    · have hk : recMay x = (noneR x && decide (x.saga = 0) && decide (x.why = 0) && belowB x.cls 4 && argsOK x.args) := by rw [recMay, if_pos k1]
      rw [hn, Bool.false_and, Bool.false_and, Bool.false_and, Bool.false_and] at hk
      simp -implicitDefEqProofs [k1, hk]
    by_cases k2 : x.kind = 2
    · have hk : recMay x = (decide (x.saga = 0) && decide (x.why = 0) && decide (x.cls = 0) && decide (x.args.length = 0) && belowB x.node.saga 12 && belowB x.node.cls 4 && belowB x.node.step 4 && plainS x.node.reads && plainS x.node.writes && chgS x.changes x.node.writes) := by rw [recMay, if_neg k1, if_pos k2]
      by_cases b1 : x.saga = 0
      rotate_left
      · rw [decide_eq_false b1, Bool.false_and, Bool.false_and, Bool.false_and, Bool.false_and, Bool.false_and, Bool.false_and, Bool.false_and, Bool.false_and, Bool.false_and] at hk
        simp -implicitDefEqProofs [k2, b1, hk]
      rw [decide_eq_true b1, Bool.true_and] at hk
      by_cases b2 : x.why = 0
      rotate_left
      · rw [decide_eq_false b2, Bool.false_and, Bool.false_and, Bool.false_and, Bool.false_and, Bool.false_and, Bool.false_and, Bool.false_and, Bool.false_and] at hk
        simp -implicitDefEqProofs [k2, b1, b2, hk]
      rw [decide_eq_true b2, Bool.true_and] at hk
      by_cases b3 : x.cls = 0
      rotate_left
      · rw [decide_eq_false b3, Bool.false_and, Bool.false_and, Bool.false_and, Bool.false_and, Bool.false_and, Bool.false_and, Bool.false_and] at hk
        simp -implicitDefEqProofs [k2, b1, b2, b3, hk]
      rw [decide_eq_true b3, Bool.true_and] at hk
      by_cases b4 : x.args.length = 0
      rotate_left
      · rw [decide_eq_false b4, Bool.false_and, Bool.false_and, Bool.false_and, Bool.false_and, Bool.false_and, Bool.false_and] at hk
        simp -implicitDefEqProofs [k2, b1, b2, b3, b4, hk]
      rw [decide_eq_true b4, Bool.true_and] at hk
      simp -implicitDefEqProofs [k2, b1, b2, b3, b4]
      refine callQ_p (below_ok x.node.saga 12) (by simp) ?_
      cases d0 : belowB x.node.saga 12
      · rw [d0, Bool.false_and, Bool.false_and, Bool.false_and, Bool.false_and, Bool.false_and] at hk
        simp -implicitDefEqProofs [hk]
      rw [d0, Bool.true_and] at hk
      simp -implicitDefEqProofs []
      refine callQ_p (below_ok x.node.cls 4) (by simp) ?_
      cases d1 : belowB x.node.cls 4
      · rw [d1, Bool.false_and, Bool.false_and, Bool.false_and, Bool.false_and] at hk
        simp -implicitDefEqProofs [hk]
      rw [d1, Bool.true_and] at hk
      simp -implicitDefEqProofs []
      refine callQ_p (below_ok x.node.step 4) (by simp) ?_
      cases d2 : belowB x.node.step 4
      · rw [d2, Bool.false_and, Bool.false_and, Bool.false_and] at hk
        simp -implicitDefEqProofs [hk]
      rw [d2, Bool.true_and] at hk
      simp -implicitDefEqProofs []
      refine callQ_p (plainR_ok x.node.reads hr) (by simp) ?_
      cases d3 : plainS x.node.reads
      · rw [d3, Bool.false_and, Bool.false_and] at hk
        simp -implicitDefEqProofs [hk]
      rw [d3, Bool.true_and] at hk
      simp -implicitDefEqProofs []
      refine callQ_p (plainR_ok x.node.writes hw) (by simp) ?_
      cases d4 : plainS x.node.writes
      · rw [d4, Bool.false_and] at hk
        simp -implicitDefEqProofs [hk]
      rw [d4, Bool.true_and] at hk
      simp -implicitDefEqProofs []
      refine callQ_p (changesR_ok x.changes x.node.writes hc hw) (by simp) ?_
      rw [hk]
      simp -implicitDefEqProofs []
    by_cases k3 : x.kind = 3
    · have hk : recMay x = (noneR x && decide (x.cls = 0) && decide (x.args.length = 0) && belowB x.saga 12 && decide (1 ≤ x.why) && decide (x.why ≤ 15)) := by rw [recMay, if_neg k1, if_neg k2, if_pos k3]
      rw [hn, Bool.false_and, Bool.false_and, Bool.false_and, Bool.false_and, Bool.false_and] at hk
      simp -implicitDefEqProofs [k3, hk]
    · have hk : recMay x = false := by rw [recMay, if_neg k1, if_neg k2, if_neg k3]
      simp -implicitDefEqProofs [k1, k2, k3, hk]
  by_cases g1 : r1 = 0
  rotate_left
  · have hn : noneR x = false := by rw [hno, show decide ([r0, r1, r2, r3] = [0, 0, 0, 0]) = false from decide_eq_false (by simp only [List.cons.injEq, and_true]; omega), Bool.and_false]
    simp -implicitDefEqProofs [h2, g0, g1]
    by_cases k1 : x.kind = 1
    · have hk : recMay x = (noneR x && decide (x.saga = 0) && decide (x.why = 0) && belowB x.cls 4 && argsOK x.args) := by rw [recMay, if_pos k1]
      rw [hn, Bool.false_and, Bool.false_and, Bool.false_and, Bool.false_and] at hk
      simp -implicitDefEqProofs [k1, hk]
    by_cases k2 : x.kind = 2
    · have hk : recMay x = (decide (x.saga = 0) && decide (x.why = 0) && decide (x.cls = 0) && decide (x.args.length = 0) && belowB x.node.saga 12 && belowB x.node.cls 4 && belowB x.node.step 4 && plainS x.node.reads && plainS x.node.writes && chgS x.changes x.node.writes) := by rw [recMay, if_neg k1, if_pos k2]
      by_cases b1 : x.saga = 0
      rotate_left
      · rw [decide_eq_false b1, Bool.false_and, Bool.false_and, Bool.false_and, Bool.false_and, Bool.false_and, Bool.false_and, Bool.false_and, Bool.false_and, Bool.false_and] at hk
        simp -implicitDefEqProofs [k2, b1, hk]
      rw [decide_eq_true b1, Bool.true_and] at hk
      by_cases b2 : x.why = 0
      rotate_left
      · rw [decide_eq_false b2, Bool.false_and, Bool.false_and, Bool.false_and, Bool.false_and, Bool.false_and, Bool.false_and, Bool.false_and, Bool.false_and] at hk
        simp -implicitDefEqProofs [k2, b1, b2, hk]
      rw [decide_eq_true b2, Bool.true_and] at hk
      by_cases b3 : x.cls = 0
      rotate_left
      · rw [decide_eq_false b3, Bool.false_and, Bool.false_and, Bool.false_and, Bool.false_and, Bool.false_and, Bool.false_and, Bool.false_and] at hk
        simp -implicitDefEqProofs [k2, b1, b2, b3, hk]
      rw [decide_eq_true b3, Bool.true_and] at hk
      by_cases b4 : x.args.length = 0
      rotate_left
      · rw [decide_eq_false b4, Bool.false_and, Bool.false_and, Bool.false_and, Bool.false_and, Bool.false_and, Bool.false_and] at hk
        simp -implicitDefEqProofs [k2, b1, b2, b3, b4, hk]
      rw [decide_eq_true b4, Bool.true_and] at hk
      simp -implicitDefEqProofs [k2, b1, b2, b3, b4]
      refine callQ_p (below_ok x.node.saga 12) (by simp) ?_
      cases d0 : belowB x.node.saga 12
      · rw [d0, Bool.false_and, Bool.false_and, Bool.false_and, Bool.false_and, Bool.false_and] at hk
        simp -implicitDefEqProofs [hk]
      rw [d0, Bool.true_and] at hk
      simp -implicitDefEqProofs []
      refine callQ_p (below_ok x.node.cls 4) (by simp) ?_
      cases d1 : belowB x.node.cls 4
      · rw [d1, Bool.false_and, Bool.false_and, Bool.false_and, Bool.false_and] at hk
        simp -implicitDefEqProofs [hk]
      rw [d1, Bool.true_and] at hk
      simp -implicitDefEqProofs []
      refine callQ_p (below_ok x.node.step 4) (by simp) ?_
      cases d2 : belowB x.node.step 4
      · rw [d2, Bool.false_and, Bool.false_and, Bool.false_and] at hk
        simp -implicitDefEqProofs [hk]
      rw [d2, Bool.true_and] at hk
      simp -implicitDefEqProofs []
      refine callQ_p (plainR_ok x.node.reads hr) (by simp) ?_
      cases d3 : plainS x.node.reads
      · rw [d3, Bool.false_and, Bool.false_and] at hk
        simp -implicitDefEqProofs [hk]
      rw [d3, Bool.true_and] at hk
      simp -implicitDefEqProofs []
      refine callQ_p (plainR_ok x.node.writes hw) (by simp) ?_
      cases d4 : plainS x.node.writes
      · rw [d4, Bool.false_and] at hk
        simp -implicitDefEqProofs [hk]
      rw [d4, Bool.true_and] at hk
      simp -implicitDefEqProofs []
      refine callQ_p (changesR_ok x.changes x.node.writes hc hw) (by simp) ?_
      rw [hk]
      simp -implicitDefEqProofs []
    by_cases k3 : x.kind = 3
    · have hk : recMay x = (noneR x && decide (x.cls = 0) && decide (x.args.length = 0) && belowB x.saga 12 && decide (1 ≤ x.why) && decide (x.why ≤ 15)) := by rw [recMay, if_neg k1, if_neg k2, if_pos k3]
      rw [hn, Bool.false_and, Bool.false_and, Bool.false_and, Bool.false_and, Bool.false_and] at hk
      simp -implicitDefEqProofs [k3, hk]
    · have hk : recMay x = false := by rw [recMay, if_neg k1, if_neg k2, if_neg k3]
      simp -implicitDefEqProofs [k1, k2, k3, hk]
  by_cases g2 : r2 = 0
  rotate_left
  · have hn : noneR x = false := by rw [hno, show decide ([r0, r1, r2, r3] = [0, 0, 0, 0]) = false from decide_eq_false (by simp only [List.cons.injEq, and_true]; omega), Bool.and_false]
    simp -implicitDefEqProofs [h2, g0, g1, g2]
    by_cases k1 : x.kind = 1
    · have hk : recMay x = (noneR x && decide (x.saga = 0) && decide (x.why = 0) && belowB x.cls 4 && argsOK x.args) := by rw [recMay, if_pos k1]
      rw [hn, Bool.false_and, Bool.false_and, Bool.false_and, Bool.false_and] at hk
      simp -implicitDefEqProofs [k1, hk]
    by_cases k2 : x.kind = 2
    · have hk : recMay x = (decide (x.saga = 0) && decide (x.why = 0) && decide (x.cls = 0) && decide (x.args.length = 0) && belowB x.node.saga 12 && belowB x.node.cls 4 && belowB x.node.step 4 && plainS x.node.reads && plainS x.node.writes && chgS x.changes x.node.writes) := by rw [recMay, if_neg k1, if_pos k2]
      by_cases b1 : x.saga = 0
      rotate_left
      · rw [decide_eq_false b1, Bool.false_and, Bool.false_and, Bool.false_and, Bool.false_and, Bool.false_and, Bool.false_and, Bool.false_and, Bool.false_and, Bool.false_and] at hk
        simp -implicitDefEqProofs [k2, b1, hk]
      rw [decide_eq_true b1, Bool.true_and] at hk
      by_cases b2 : x.why = 0
      rotate_left
      · rw [decide_eq_false b2, Bool.false_and, Bool.false_and, Bool.false_and, Bool.false_and, Bool.false_and, Bool.false_and, Bool.false_and, Bool.false_and] at hk
        simp -implicitDefEqProofs [k2, b1, b2, hk]
      rw [decide_eq_true b2, Bool.true_and] at hk
      by_cases b3 : x.cls = 0
      rotate_left
      · rw [decide_eq_false b3, Bool.false_and, Bool.false_and, Bool.false_and, Bool.false_and, Bool.false_and, Bool.false_and, Bool.false_and] at hk
        simp -implicitDefEqProofs [k2, b1, b2, b3, hk]
      rw [decide_eq_true b3, Bool.true_and] at hk
      by_cases b4 : x.args.length = 0
      rotate_left
      · rw [decide_eq_false b4, Bool.false_and, Bool.false_and, Bool.false_and, Bool.false_and, Bool.false_and, Bool.false_and] at hk
        simp -implicitDefEqProofs [k2, b1, b2, b3, b4, hk]
      rw [decide_eq_true b4, Bool.true_and] at hk
      simp -implicitDefEqProofs [k2, b1, b2, b3, b4]
      refine callQ_p (below_ok x.node.saga 12) (by simp) ?_
      cases d0 : belowB x.node.saga 12
      · rw [d0, Bool.false_and, Bool.false_and, Bool.false_and, Bool.false_and, Bool.false_and] at hk
        simp -implicitDefEqProofs [hk]
      rw [d0, Bool.true_and] at hk
      simp -implicitDefEqProofs []
      refine callQ_p (below_ok x.node.cls 4) (by simp) ?_
      cases d1 : belowB x.node.cls 4
      · rw [d1, Bool.false_and, Bool.false_and, Bool.false_and, Bool.false_and] at hk
        simp -implicitDefEqProofs [hk]
      rw [d1, Bool.true_and] at hk
      simp -implicitDefEqProofs []
      refine callQ_p (below_ok x.node.step 4) (by simp) ?_
      cases d2 : belowB x.node.step 4
      · rw [d2, Bool.false_and, Bool.false_and, Bool.false_and] at hk
        simp -implicitDefEqProofs [hk]
      rw [d2, Bool.true_and] at hk
      simp -implicitDefEqProofs []
      refine callQ_p (plainR_ok x.node.reads hr) (by simp) ?_
      cases d3 : plainS x.node.reads
      · rw [d3, Bool.false_and, Bool.false_and] at hk
        simp -implicitDefEqProofs [hk]
      rw [d3, Bool.true_and] at hk
      simp -implicitDefEqProofs []
      refine callQ_p (plainR_ok x.node.writes hw) (by simp) ?_
      cases d4 : plainS x.node.writes
      · rw [d4, Bool.false_and] at hk
        simp -implicitDefEqProofs [hk]
      rw [d4, Bool.true_and] at hk
      simp -implicitDefEqProofs []
      refine callQ_p (changesR_ok x.changes x.node.writes hc hw) (by simp) ?_
      rw [hk]
      simp -implicitDefEqProofs []
    by_cases k3 : x.kind = 3
    · have hk : recMay x = (noneR x && decide (x.cls = 0) && decide (x.args.length = 0) && belowB x.saga 12 && decide (1 ≤ x.why) && decide (x.why ≤ 15)) := by rw [recMay, if_neg k1, if_neg k2, if_pos k3]
      rw [hn, Bool.false_and, Bool.false_and, Bool.false_and, Bool.false_and, Bool.false_and] at hk
      simp -implicitDefEqProofs [k3, hk]
    · have hk : recMay x = false := by rw [recMay, if_neg k1, if_neg k2, if_neg k3]
      simp -implicitDefEqProofs [k1, k2, k3, hk]
  by_cases g3 : r3 = 0
  rotate_left
  · have hn : noneR x = false := by rw [hno, show decide ([r0, r1, r2, r3] = [0, 0, 0, 0]) = false from decide_eq_false (by simp only [List.cons.injEq, and_true]; omega), Bool.and_false]
    simp -implicitDefEqProofs [h2, g0, g1, g2, g3]
    by_cases k1 : x.kind = 1
    · have hk : recMay x = (noneR x && decide (x.saga = 0) && decide (x.why = 0) && belowB x.cls 4 && argsOK x.args) := by rw [recMay, if_pos k1]
      rw [hn, Bool.false_and, Bool.false_and, Bool.false_and, Bool.false_and] at hk
      simp -implicitDefEqProofs [k1, hk]
    by_cases k2 : x.kind = 2
    · have hk : recMay x = (decide (x.saga = 0) && decide (x.why = 0) && decide (x.cls = 0) && decide (x.args.length = 0) && belowB x.node.saga 12 && belowB x.node.cls 4 && belowB x.node.step 4 && plainS x.node.reads && plainS x.node.writes && chgS x.changes x.node.writes) := by rw [recMay, if_neg k1, if_pos k2]
      by_cases b1 : x.saga = 0
      rotate_left
      · rw [decide_eq_false b1, Bool.false_and, Bool.false_and, Bool.false_and, Bool.false_and, Bool.false_and, Bool.false_and, Bool.false_and, Bool.false_and, Bool.false_and] at hk
        simp -implicitDefEqProofs [k2, b1, hk]
      rw [decide_eq_true b1, Bool.true_and] at hk
      by_cases b2 : x.why = 0
      rotate_left
      · rw [decide_eq_false b2, Bool.false_and, Bool.false_and, Bool.false_and, Bool.false_and, Bool.false_and, Bool.false_and, Bool.false_and, Bool.false_and] at hk
        simp -implicitDefEqProofs [k2, b1, b2, hk]
      rw [decide_eq_true b2, Bool.true_and] at hk
      by_cases b3 : x.cls = 0
      rotate_left
      · rw [decide_eq_false b3, Bool.false_and, Bool.false_and, Bool.false_and, Bool.false_and, Bool.false_and, Bool.false_and, Bool.false_and] at hk
        simp -implicitDefEqProofs [k2, b1, b2, b3, hk]
      rw [decide_eq_true b3, Bool.true_and] at hk
      by_cases b4 : x.args.length = 0
      rotate_left
      · rw [decide_eq_false b4, Bool.false_and, Bool.false_and, Bool.false_and, Bool.false_and, Bool.false_and, Bool.false_and] at hk
        simp -implicitDefEqProofs [k2, b1, b2, b3, b4, hk]
      rw [decide_eq_true b4, Bool.true_and] at hk
      simp -implicitDefEqProofs [k2, b1, b2, b3, b4]
      refine callQ_p (below_ok x.node.saga 12) (by simp) ?_
      cases d0 : belowB x.node.saga 12
      · rw [d0, Bool.false_and, Bool.false_and, Bool.false_and, Bool.false_and, Bool.false_and] at hk
        simp -implicitDefEqProofs [hk]
      rw [d0, Bool.true_and] at hk
      simp -implicitDefEqProofs []
      refine callQ_p (below_ok x.node.cls 4) (by simp) ?_
      cases d1 : belowB x.node.cls 4
      · rw [d1, Bool.false_and, Bool.false_and, Bool.false_and, Bool.false_and] at hk
        simp -implicitDefEqProofs [hk]
      rw [d1, Bool.true_and] at hk
      simp -implicitDefEqProofs []
      refine callQ_p (below_ok x.node.step 4) (by simp) ?_
      cases d2 : belowB x.node.step 4
      · rw [d2, Bool.false_and, Bool.false_and, Bool.false_and] at hk
        simp -implicitDefEqProofs [hk]
      rw [d2, Bool.true_and] at hk
      simp -implicitDefEqProofs []
      refine callQ_p (plainR_ok x.node.reads hr) (by simp) ?_
      cases d3 : plainS x.node.reads
      · rw [d3, Bool.false_and, Bool.false_and] at hk
        simp -implicitDefEqProofs [hk]
      rw [d3, Bool.true_and] at hk
      simp -implicitDefEqProofs []
      refine callQ_p (plainR_ok x.node.writes hw) (by simp) ?_
      cases d4 : plainS x.node.writes
      · rw [d4, Bool.false_and] at hk
        simp -implicitDefEqProofs [hk]
      rw [d4, Bool.true_and] at hk
      simp -implicitDefEqProofs []
      refine callQ_p (changesR_ok x.changes x.node.writes hc hw) (by simp) ?_
      rw [hk]
      simp -implicitDefEqProofs []
    by_cases k3 : x.kind = 3
    · have hk : recMay x = (noneR x && decide (x.cls = 0) && decide (x.args.length = 0) && belowB x.saga 12 && decide (1 ≤ x.why) && decide (x.why ≤ 15)) := by rw [recMay, if_neg k1, if_neg k2, if_pos k3]
      rw [hn, Bool.false_and, Bool.false_and, Bool.false_and, Bool.false_and, Bool.false_and] at hk
      simp -implicitDefEqProofs [k3, hk]
    · have hk : recMay x = false := by rw [recMay, if_neg k1, if_neg k2, if_neg k3]
      simp -implicitDefEqProofs [k1, k2, k3, hk]
  have hn : noneR x = true := by rw [hno, h1, decide_eq_true h2, g0, g1, g2, g3]; rfl
  simp -implicitDefEqProofs [h2, g0, g1, g2, g3]
  by_cases k1 : x.kind = 1
  · have hk : recMay x = (noneR x && decide (x.saga = 0) && decide (x.why = 0) && belowB x.cls 4 && argsOK x.args) := by rw [recMay, if_pos k1]
    rw [hn, Bool.true_and] at hk
    by_cases a1 : x.saga = 0
    rotate_left
    · rw [decide_eq_false a1, Bool.false_and, Bool.false_and, Bool.false_and] at hk
      simp -implicitDefEqProofs [k1, a1, hk]
    rw [decide_eq_true a1, Bool.true_and] at hk
    by_cases a2 : x.why = 0
    rotate_left
    · rw [decide_eq_false a2, Bool.false_and, Bool.false_and] at hk
      simp -implicitDefEqProofs [k1, a1, a2, hk]
    rw [decide_eq_true a2, Bool.true_and] at hk
    simp -implicitDefEqProofs [k1, a1, a2]
    refine callQ_p (below_ok x.cls 4) (by simp) ?_
    cases a3 : belowB x.cls 4
    · rw [a3, Bool.false_and] at hk
      simp -implicitDefEqProofs [hk]
    rw [a3, Bool.true_and] at hk
    by_cases a4 : (x.args.length : Int) ≤ 3
    rotate_left
    · have a5 : argsOK x.args = false := by rw [argsOK, decide_eq_false (by omega), Bool.false_and]
      rw [a5] at hk
      simp -implicitDefEqProofs [a4, hk]
    have a5 : argsOK x.args = x.args.all argOK := by rw [argsOK, decide_eq_true (by omega), Bool.true_and]
    simp -implicitDefEqProofs [a4]
    refine callQ_s (contains_gen (F := 81) hb83 ok83 hb125 ok125 elOK_N x.args (by omega) (first := []) (caps := []) (p := fun y => !argOK y) rfl rfl (fun y _ => (may1R_ok y) _)) (by simp []) ?_
    rw [hk, a5, ← any_not]
    simp -implicitDefEqProofs []
  by_cases k2 : x.kind = 2
  · have hk : recMay x = (decide (x.saga = 0) && decide (x.why = 0) && decide (x.cls = 0) && decide (x.args.length = 0) && belowB x.node.saga 12 && belowB x.node.cls 4 && belowB x.node.step 4 && plainS x.node.reads && plainS x.node.writes && chgS x.changes x.node.writes) := by rw [recMay, if_neg k1, if_pos k2]
    by_cases b1 : x.saga = 0
    rotate_left
    · rw [decide_eq_false b1, Bool.false_and, Bool.false_and, Bool.false_and, Bool.false_and, Bool.false_and, Bool.false_and, Bool.false_and, Bool.false_and, Bool.false_and] at hk
      simp -implicitDefEqProofs [k2, b1, hk]
    rw [decide_eq_true b1, Bool.true_and] at hk
    by_cases b2 : x.why = 0
    rotate_left
    · rw [decide_eq_false b2, Bool.false_and, Bool.false_and, Bool.false_and, Bool.false_and, Bool.false_and, Bool.false_and, Bool.false_and, Bool.false_and] at hk
      simp -implicitDefEqProofs [k2, b1, b2, hk]
    rw [decide_eq_true b2, Bool.true_and] at hk
    by_cases b3 : x.cls = 0
    rotate_left
    · rw [decide_eq_false b3, Bool.false_and, Bool.false_and, Bool.false_and, Bool.false_and, Bool.false_and, Bool.false_and, Bool.false_and] at hk
      simp -implicitDefEqProofs [k2, b1, b2, b3, hk]
    rw [decide_eq_true b3, Bool.true_and] at hk
    by_cases b4 : x.args.length = 0
    rotate_left
    · rw [decide_eq_false b4, Bool.false_and, Bool.false_and, Bool.false_and, Bool.false_and, Bool.false_and, Bool.false_and] at hk
      simp -implicitDefEqProofs [k2, b1, b2, b3, b4, hk]
    rw [decide_eq_true b4, Bool.true_and] at hk
    simp -implicitDefEqProofs [k2, b1, b2, b3, b4]
    refine callQ_p (below_ok x.node.saga 12) (by simp) ?_
    cases d0 : belowB x.node.saga 12
    · rw [d0, Bool.false_and, Bool.false_and, Bool.false_and, Bool.false_and, Bool.false_and] at hk
      simp -implicitDefEqProofs [hk]
    rw [d0, Bool.true_and] at hk
    simp -implicitDefEqProofs []
    refine callQ_p (below_ok x.node.cls 4) (by simp) ?_
    cases d1 : belowB x.node.cls 4
    · rw [d1, Bool.false_and, Bool.false_and, Bool.false_and, Bool.false_and] at hk
      simp -implicitDefEqProofs [hk]
    rw [d1, Bool.true_and] at hk
    simp -implicitDefEqProofs []
    refine callQ_p (below_ok x.node.step 4) (by simp) ?_
    cases d2 : belowB x.node.step 4
    · rw [d2, Bool.false_and, Bool.false_and, Bool.false_and] at hk
      simp -implicitDefEqProofs [hk]
    rw [d2, Bool.true_and] at hk
    simp -implicitDefEqProofs []
    refine callQ_p (plainR_ok x.node.reads hr) (by simp) ?_
    cases d3 : plainS x.node.reads
    · rw [d3, Bool.false_and, Bool.false_and] at hk
      simp -implicitDefEqProofs [hk]
    rw [d3, Bool.true_and] at hk
    simp -implicitDefEqProofs []
    refine callQ_p (plainR_ok x.node.writes hw) (by simp) ?_
    cases d4 : plainS x.node.writes
    · rw [d4, Bool.false_and] at hk
      simp -implicitDefEqProofs [hk]
    rw [d4, Bool.true_and] at hk
    simp -implicitDefEqProofs []
    refine callQ_p (changesR_ok x.changes x.node.writes hc hw) (by simp) ?_
    rw [hk]
    simp -implicitDefEqProofs []
  by_cases k3 : x.kind = 3
  · have hk : recMay x = (noneR x && decide (x.cls = 0) && decide (x.args.length = 0) && belowB x.saga 12 && decide (1 ≤ x.why) && decide (x.why ≤ 15)) := by rw [recMay, if_neg k1, if_neg k2, if_pos k3]
    rw [hn, Bool.true_and] at hk
    by_cases b1 : x.cls = 0
    rotate_left
    · rw [decide_eq_false b1, Bool.false_and, Bool.false_and, Bool.false_and, Bool.false_and] at hk
      simp -implicitDefEqProofs [k3, b1, hk]
    rw [decide_eq_true b1, Bool.true_and] at hk
    by_cases b2 : x.args.length = 0
    rotate_left
    · rw [decide_eq_false b2, Bool.false_and, Bool.false_and, Bool.false_and] at hk
      simp -implicitDefEqProofs [k3, b1, b2, hk]
    rw [decide_eq_true b2, Bool.true_and] at hk
    simp -implicitDefEqProofs [k3, b1, b2]
    refine callQ_p (below_ok x.saga 12) (by simp) ?_
    cases b3 : belowB x.saga 12
    · rw [b3, Bool.false_and, Bool.false_and] at hk
      simp -implicitDefEqProofs [hk]
    rw [b3, Bool.true_and] at hk
    by_cases b4 : 1 ≤ x.why
    · simp -implicitDefEqProofs [b4, hk]
    · simp -implicitDefEqProofs [b4, hk]
  · have hk : recMay x = false := by rw [recMay, if_neg k1, if_neg k2, if_neg k3]
    simp -implicitDefEqProofs [k1, k2, k3, hk]
end Go.Proofs

/- The program's frame of a record. -/
namespace Go.Proofs
open Go Go.RowKit Go.Am

/-- What a record is put as. -/
def putV (x : Recd) : AV := if recMay x = true then .tup [.agg [.int .i64 x.kind, encW (recW x)], .bool true] else .tup [.agg [.int .i64 0, encW []], .bool false]
theorem pure_putV (x : Recd) : PureV (putV x) := by
  unfold putV
  split <;> exact .tup (pures_cons (.agg (pures_cons (.int _ _) (pures1 (pure_w64 _)))) (pures1 (.bool _)))
theorem may_cases {x : Recd} (h : recMay x = true) : (x.kind = 1 ∧ x.args.length ≤ 3) ∨ (x.kind = 2 ∧ x.node.reads.length ≤ 8 ∧ x.node.writes.length ≤ 8 ∧ x.changes.length ≤ 8) ∨ x.kind = 3 := by
  unfold recMay at h
  split at h
  · rename_i k
    simp only [Bool.and_eq_true, argsOK, decide_eq_true_eq] at h
    exact .inl ⟨k, by omega⟩
  · split at h
    · rename_i k
      simp only [Bool.and_eq_true, plainS, chgS, decide_eq_true_eq] at h
      exact .inr (.inl ⟨k, by omega, by omega, by omega⟩)
    · split at h
      · exact .inr (.inr (by assumption))
      · cases h

set_option maxHeartbeats 4000000 in
theorem recPut_ok (x : Recd) (hx : x.wf) (ha : x.args.length ≤ 1000000) (hc : x.changes.length ≤ 1000000) (hr : x.node.reads.length ≤ 1000000) (hw : x.node.writes.length ≤ 1000000) : PCall Try.prog 26 [.agg (encRecd x)] (putV x) := by
  have p := pures1 (.agg (pure_encRecd x))
  have hm := recMay_ok x hx ha hc hr hw
  obtain ⟨r0, r1, r2, r3, ra⟩ := regs_four hx.2.2.2.2.2.2.1.1
  have hps := fun (h : H) (b : Nat) (t : Tok) (ws : List Nat) (hw : WB h b t ws) l1 l2 l3 hl => putStep_ok hw x hx l1 l2 l3 hl
  rw [encRecd_cells ra] at p hm hps ⊢
  refine PCall.run hb26 ok26 (by simp) p (pure_putV x) ?_
  simp -implicitDefEqProofs [cellsR, H.nil]
  refine callQ_p hm (by simp [cellsR]) ?_
  have hV : ∀ v, recMay x = v → putV x = if v = true then .tup [.agg [.int .i64 x.kind, encW (recW x)], .bool true] else .tup [.agg [.int .i64 0, encW []], .bool false] := fun v e => by rw [putV, e]
  cases hmay : recMay x
  · have e := hV false hmay
    simp -implicitDefEqProofs [e, encW]
  have e := hV true hmay
  rw [if_pos rfl] at e
  rw [e]
  have hw0 : WB ((((H.mk 0 (fun _ => none) 0 (fun _ => 0) 0 (fun _ => none) 0 (fun _ => none)).alloc (cellsR x r0 r1 r2 r3)).alloc [.int .i64 0, .sl .full []]).alloc [.sl .full []]) 2 .full [] := WB.new _
  have hw0b : ((((H.mk 0 (fun _ => none) 0 (fun _ => 0) 0 (fun _ => none) 0 (fun _ => none)).alloc (cellsR x r0 r1 r2 r3)).alloc [.int .i64 0, .sl .full []]).alloc [.sl .full []]).bn = 3 := rfl
  have hw0c : ((((H.mk 0 (fun _ => none) 0 (fun _ => 0) 0 (fun _ => none) 0 (fun _ => none)).alloc (cellsR x r0 r1 r2 r3)).alloc [.int .i64 0, .sl .full []]).alloc [.sl .full []]).bx 0 = some (cellsR x r0 r1 r2 r3) := by simp
  have hw0d : ((((H.mk 0 (fun _ => none) 0 (fun _ => 0) 0 (fun _ => none) 0 (fun _ => none)).alloc (cellsR x r0 r1 r2 r3)).alloc [.int .i64 0, .sl .full []]).alloc [.sl .full []]).bx 1 = some [.int .i64 0, .sl .full []] := by simp
  have bX : ∀ (h' : H) (t' : Tok) (ws' : List Nat), WTo ((((H.mk 0 (fun _ => none) 0 (fun _ => 0) 0 (fun _ => none) 0 (fun _ => none)).alloc (cellsR x r0 r1 r2 r3)).alloc [.int .i64 0, .sl .full []]).alloc [.sl .full []]) 2 .full ws' h' t' → 0 < h'.bn ∧ 1 < h'.bn ∧ h'.bx 0 = some (cellsR x r0 r1 r2 r3) ∧ h'.bx 1 = some [.int .i64 0, .sl .full []] := fun h' t' ws' q => by
    have := q.keep.bn
    rw [hw0b] at this
    exact ⟨by omega, by omega, by rw [q.keep.bx _ (by rw [hw0b]; omega) (by omega), hw0c], by rw [q.keep.bx _ (by rw [hw0b]; omega) (by omega), hw0d]⟩
  clear hw0b hw0c hw0d
  have hi := hx.2
  rw [cellsR] at bX hw0 hps
  rcases may_cases hmay with ⟨k1, l1⟩ | ⟨k2, l1, l2, l3⟩ | k3
  · rw [recW, recI, if_pos k1]
    rw [k1] at bX hw0 ⊢
    simp -implicitDefEqProofs []
    refine callW (count_ok hw0 x.cls hi.2.1.2 (by simp)) (by simp) fun r h1 t1 q1 => ?_
    obtain ⟨m1, n1, x1, y1⟩ := bX _ _ _ q1
    simp -implicitDefEqProofs [m1, x1]
    have hls := list_int q1.wb x.args (by omega) 69 [.ptr 2 0] [] (by simp) rfl argI (fun x => by rw [w_arg]; simp) (fun a ha2 h6 t6 ws6 k6 hl6 => by
      rw [w_arg]
      exact count_ok k6.wb a (hi.2.2.1.2 a ha2).2 (by omega)) (by simp)
    refine callW hls (by simp) fun r h2 t2 q2 => ?_
    have k2 := q1.trans q2
    obtain ⟨m2, n2, x2, y2⟩ := bX _ _ _ k2
    simp -implicitDefEqProofs []
    refine run_dreg c26_d13 ?_
    simp -implicitDefEqProofs [m2, x2]
    refine callD_s (done_ok k2.wb (by rw [← argsW]; simp [argsW_len]; omega)) (by simp) ?_
    simp -implicitDefEqProofs [m2, n2, x2, y2]
    rw [writeAll_cons, w_iN, argsW]
    simp
  · rw [recW, recI, if_neg (by omega), if_pos k2]
    have hlw : (writeAll (stepI x)).length ≤ 900000 := by
      have e1 := spnsW_len x.node.reads
      have e2 := spnsW_len x.node.writes
      have e3 := chgsW_len x.changes
      rw [stepI, ra, writeAll_app, writeAll_app, writeAll_app, writeAll_app]
      simp only [List.length_append, e1, e2, e3]
      simp [writeAll, w_iN, w_iF, w_iX]
      omega
    have hps2 := hps _ _ _ _ hw0 (by omega) (by omega) (by omega) (by simp)
    rw [k2] at bX hw0 hps2 ⊢
    simp -implicitDefEqProofs []
    refine callW hps2 (by simp) fun r h2 t2 q2 => ?_
    obtain ⟨m2, n2, x2, y2⟩ := bX _ _ _ q2
    simp -implicitDefEqProofs []
    refine run_dreg c26_d13 ?_
    simp -implicitDefEqProofs [m2, x2]
    refine callD_s (done_ok q2.wb (by simpa using Nat.le_trans hlw (by omega))) (by simp) ?_
    simp -implicitDefEqProofs [m2, n2, x2, y2]
  · rw [recW, recI, if_neg (by omega), if_neg (by omega)]
    rw [k3] at bX hw0 ⊢
    simp -implicitDefEqProofs []
    refine callW (count_ok hw0 x.saga hi.1.2 (by simp)) (by simp) fun r h1 t1 q1 => ?_
    obtain ⟨m1, n1, x1, y1⟩ := bX _ _ _ q1
    simp -implicitDefEqProofs [m1, x1]
    refine callW (count_ok q1.wb x.why hi.2.2.2.1.2 (by simp)) (by simp) fun r h2 t2 q2 => ?_
    have k2 := q1.trans q2
    obtain ⟨m2, n2, x2, y2⟩ := bX _ _ _ k2
    simp -implicitDefEqProofs []
    refine run_dreg c26_d13 ?_
    simp -implicitDefEqProofs [m2, x2]
    refine callD_s (done_ok k2.wb (by simp)) (by simp) ?_
    simp -implicitDefEqProofs [m2, n2, x2, y2, writeAll, w_iN]
end Go.Proofs

/- Records are read as they were written: plain laws. -/
namespace Go.Proofs
open Go Go.RowKit Go.Am

def nod0 : Nod := ⟨0, 0, 0, false, [], []⟩
def rec0 : Recd := ⟨0, 0, 0, [], 0, nod0, [0, 0, 0, 0], []⟩
def rdArgs : Rd (List Int) := (rdCount 3).bind fun n => Rd.rep (rdCount 99) n.toNat
def rdSpn : Rd Spn := (rdCount 999).bind fun a => (rdCount 999).bind fun b => Rd.pure ⟨a, b⟩
def rdSpns : Rd (List Spn) := (rdCount 8).bind fun n => Rd.rep rdSpn n.toNat
def rdChg : Rd Chg := (rdCount 999).bind fun k => rdFlag.bind fun g => rdSigned.bind fun v => Rd.pure ⟨k, g, v⟩
def rdChgs : Rd (List Chg) := (rdCount 8).bind fun n => Rd.rep rdChg n.toNat
def rdNod : Rd Nod := (rdCount 12).bind fun a => (rdCount 4).bind fun b => (rdCount 4).bind fun c => rdFlag.bind fun d => rdSpns.bind fun r => rdSpns.bind fun w => Rd.pure ⟨a, b, c, d, r, w⟩
def rdStepR : Rd Recd := rdNod.bind fun n => (Rd.rep rdSigned 4).bind fun r => rdChgs.bind fun c => Rd.pure ⟨2, 0, 0, [], 0, n, r, c⟩
def rdSubR : Rd Recd := (rdCount 4).bind fun c => rdArgs.bind fun a => Rd.pure ⟨1, 0, c, a, 0, nod0, [0, 0, 0, 0], []⟩
def rdAbR : Rd Recd := (rdCount 12).bind fun s => (rdCount 15).bind fun w => Rd.pure ⟨3, s, 0, [], w, nod0, [0, 0, 0, 0], []⟩
/-- What a frame's words are read as. -/
def rdRec (k : Int) : Rd Recd := if k = 1 then rdSubR else if k = 2 then rdStepR else if k = 3 then rdAbR else Rd.pure ⟨k, 0, 0, [], 0, nod0, [0, 0, 0, 0], []⟩

end Go.Proofs
