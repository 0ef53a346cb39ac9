/- What the functions that the statement reaches do: their contracts; and what follows of it. -/
import Derived.Test.YtdcpendppalkgaaSRecsSame8
import Derived.Test.YtdcpendppalkgaaSRecsSame9
import Derived.Test.YtdcpendppalkgaaSRecsSame10
/- The statement RecsSame. -/
namespace Go.Proofs
open Go Go.RowKit Go.Am

theorem recW_len {x : Recd} (h : recMay x = true) (hr : x.regs.length = 4) : (recW x).length ≤ 100 := by
  rcases may_cases h with ⟨k, a⟩ | ⟨k, a, b, c⟩ | k
  · have := argsW_len x.args
    rw [recW, recI, if_pos k, writeAll_cons, w_iN]
    simp only [List.length_append, List.length_cons, List.length_nil]
    omega
  · obtain ⟨r0, r1, r2, r3, ra⟩ := regs_four hr
    have e1 := spnsW_len x.node.reads
    have e2 := spnsW_len x.node.writes
    have e3 := chgsW_len x.changes
    rw [recW, recI, if_neg (by omega), if_pos k, stepI, ra, writeAll_app, writeAll_app, writeAll_app, writeAll_app]
    simp only [List.length_append, e1, e2, e3]
    simp [writeAll, w_iN, w_iF, w_iX]
    omega
  · rw [recW, recI, if_neg (by omega), if_neg (by omega)]
    simp [writeAll, w_iN]
set_option maxHeartbeats 4000000 in
theorem recsSame_ok (a b : Recd) (wa : a.wf) (wb : b.wf) : PCall Try.prog 5 [.agg (encRecd a), .agg (encRecd b)] (.bool true) := by
  have p := pures2 (.agg (pure_encRecd a)) (.agg (pure_encRecd b))
  have hg1 := greatR_ok a wa
  have hg2 := greatR_ok b wb
  have hs1 := refRecsSame_ok a b wa wb
  have hs2 := recsSameB_ok a b wa wb
  have hm1 := refMay_ok a wa
  have hm2 := refMay_ok b wb
  have hp1 := recPut_ok a wa
  have hp2 := recPut_ok b wb
  have ar := wa.2.2.2.2.2.2.1.1
  have br := wb.2.2.2.2.2.2.1.1
  obtain ⟨r0, r1, r2, r3, ra⟩ := regs_four ar
  obtain ⟨q0, q1, q2, q3, rb⟩ := regs_four br
  rw [encRecd_cells ra] at p hg1 hs1 hs2 hm1 hp1 ⊢
  rw [encRecd_cells rb] at p hg2 hs1 hs2 hm2 hp2 ⊢
  have ca : cellsR a r0 r1 r2 r3 = encRecd a := (encRecd_cells ra).symm
  have cb : cellsR b q0 q1 q2 q3 = encRecd b := (encRecd_cells rb).symm
  have la : (cellsR a r0 r1 r2 r3).length = 16 := rfl
  have lb : (cellsR b q0 q1 q2 q3).length = 16 := rfl
  have wka : List.map Am.wk (cellsR a r0 r1 r2 r3) = cellsR a r0 r1 r2 r3 := by simp [cellsR]
  have wkb : List.map Am.wk (cellsR b q0 q1 q2 q3) = cellsR b q0 q1 q2 q3 := by simp [cellsR]
  have ta : List.take 16 (cellsR a r0 r1 r2 r3) = cellsR a r0 r1 r2 r3 := rfl
  have tb : List.take 16 (cellsR b q0 q1 q2 q3) = cellsR b q0 q1 q2 q3 := rfl
  generalize cellsR a r0 r1 r2 r3 = A at *
  generalize cellsR b q0 q1 q2 q3 = B at *
  refine PCall.run hb5 ok5 (by simp) p (.bool _) ?_
  simp -implicitDefEqProofs [H.nil]
  refine callQ_p alive20_ok (by simp) ?_
  simp -implicitDefEqProofs [la, ta]
  refine callQ_p hg1 (by simp [wka]) ?_
  cases g1 : greatR a
  rotate_left
  · simp -implicitDefEqProofs []
  simp -implicitDefEqProofs [lb, tb]
  refine callQ_p hg2 (by simp [wkb]) ?_
  cases g2 : greatR b
  rotate_left
  · simp -implicitDefEqProofs []
  obtain ⟨a1, a2, a3, a4⟩ := not_greatR g1
  obtain ⟨b1, b2, b3, b4⟩ := not_greatR g2
  simp -implicitDefEqProofs [la, lb, ta, tb]
  refine callQ_p hs1 (by simp [wka, wkb]) ?_
  simp -implicitDefEqProofs [la, lb, ta, tb]
  refine callQ_p hs2 (by simp [wka, wkb]) ?_
  simp -implicitDefEqProofs [la, ta]
  refine callQ_p (hm1 (by omega) (by omega) (by omega)) (by simp [wka]) ?_
  cases m1 : recMay a
  · simp -implicitDefEqProofs []
  simp -implicitDefEqProofs [lb, tb]
  refine callQ_p (hm2 (by omega) (by omega) (by omega)) (by simp [wkb]) ?_
  cases m2 : recMay b
  · simp -implicitDefEqProofs []
  have e1 : putV a = .tup [.agg [.int .i64 a.kind, encW (recW a)], .bool true] := by rw [putV, if_pos m1]
  have e2 : putV b = .tup [.agg [.int .i64 b.kind, encW (recW b)], .bool true] := by rw [putV, if_pos m2]
  have hp1 := hp1 (by omega) (by omega) (by omega) (by omega)
  have hp2 := hp2 (by omega) (by omega) (by omega) (by omega)
  rw [e1] at hp1
  rw [e2] at hp2
  simp -implicitDefEqProofs [la, ta]
  refine callQ_p hp1 (by simp [wka]) ?_
  simp -implicitDefEqProofs [lb, tb]
  refine callQ_p hp2 (by simp [wkb]) ?_
  simp -implicitDefEqProofs []
  have n1 := recW_len m1 ar
  have n2 := recW_len m2 br
  refine callQ_p (frmSame_ok ⟨a.kind, recW a⟩ ⟨b.kind, recW b⟩ (by simp only; omega) (by simp only; omega)) (by simp [encFrm]) ?_
  have e : decide (Frm.mk a.kind (recW a) = Frm.mk b.kind (recW b)) = decide (a = b) := by
    rw [decide_eq_decide]
    constructor
    · intro h
      rw [Frm.mk.injEq] at h
      exact rec_inj ar br m1 m2 h.1 h.2
    · rintro rfl
      rfl
  rw [e]
  simp -implicitDefEqProofs []
end Go.Proofs
