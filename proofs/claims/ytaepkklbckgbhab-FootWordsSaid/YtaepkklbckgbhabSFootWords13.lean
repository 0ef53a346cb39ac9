/- What the functions that the statement reaches do: their contracts; and what follows of it. -/
import Derived.Test.YtaepkklbckgbhabSFootWords11
import Derived.Test.YtaepkklbckgbhabSFootWords12
/- The statement FootWords: its function hands back true. -/
namespace Go.Proofs
open Go Go.RowKit Go.Am

set_option maxHeartbeats 1000000 in
set_option maxRecDepth 4000 in
theorem footWords_ok (l : List SpanT) (n : Int) (hw : l.length ≤ 9223372036854775807 ∧ ∀ y ∈ l, y.wf) : PCall Try.prog 6 [.sl .no (l.map encSpanT), .int .i64 n] (.bool true) := by
  refine PCall.run hb6 ok6 (by simp) (pures2 (elOK_SpanT.pureL l) (.int _ _)) (.bool _) ?_
  simp -implicitDefEqProofs [H.nil]
  refine callQ_p alive10_ok (by simp) ?_
  simp -implicitDefEqProofs []
  refine callQ_p (refFootMay_ok l n (by omega)) (by simp) ?_
  cases hm : footMay l n
  · simp -implicitDefEqProofs []
  obtain ⟨h4, hk⟩ := foot_okM hm
  have hit : ∀ x ∈ footItems l, itOK x := fun x hx => by
    simp only [footItems, List.mem_cons, List.mem_flatMap] at hx
    rcases hx with rfl | ⟨y, hy, hx⟩
    · exact it_N (by simp only [inI]; omega)
    · exact it_span (hw.2 y hy) x hx
  have hil : (footItems l).length ≤ 1000 := by
    rw [footItems, List.length_cons, foot_n]; omega
  generalize hW : writeAll (footItems l) = W
  have hWl : W.length ≤ 102 * 1000 := by
    rw [← hW]
    exact Nat.le_trans (writeAll_len _ fun x hx => by rw [(hit x hx).2]; exact Nat.zero_le _) (Nat.mul_le_mul_left _ hil)
  have hWw : ∀ w ∈ W, w < 18446744073709551616 := fun w hw => by
    rw [← hW] at hw
    exact writeAll_less (fun x hx => ⟨(hit x hx).1, by rw [(hit x hx).2]; simp⟩) w hw
  have hbk : runS rdFoot [] (some W) = (l, some []) := by
    have := back_foot h4 hk []
    rw [hW, List.append_nil] at this
    have e : (some W).bind rdFoot = rdFoot W := rfl
    simp only [runS, e, this]
    rfl
  simp -implicitDefEqProofs []
  refine callW (footPut_ok (b := 0) (t := .full) (ws := []) ⟨by simp, by simp, trivial⟩ l h4 hw.2 (by simp)) (by simp) fun r h1 t1 q1 => ?_
  rw [List.nil_append, hW] at q1
  have n1 : 0 < h1.bn := q1.wb.lt
  simp -implicitDefEqProofs []
  refine callQ_s (done_ok q1.wb (by omega)) (by simp) ?_
  simp -implicitDefEqProofs []
  refine callQ_s (newReader_ok W h1) (by simp) ?_
  have hbd : Bd (some W) := fun l e => by cases e; exact ⟨by omega, hWw⟩
  have ri := RIs.new hbd h1
  simp -implicitDefEqProofs []
  have g1 := footGet_rd ri
  refine callQ_s g1.call (by simp) ?_
  have ri2 := g1.to.is
  rw [hbk] at ri2
  simp -implicitDefEqProofs [hbk]
  generalize hX : (H.set _ h1.bn _ : H) = X
  have xr : X.bx h1.bn = some (encRS (some [])) := by rw [← hX]; simp
  have xw : X.bx 0 = some [.sl t1 (W.map w64)] := by rw [← hX]; simp [show ¬ 0 = h1.bn by omega, q1.wb.bx]
  have xl : TLive X t1 W.length := by rw [← hX]; simpa using q1.wb.live
  have xn : X.bn = h1.bn + 1 := by rw [← hX]; simp
  clear hX
  have wbX : WB X 0 t1 W := ⟨by omega, xw, xl⟩
  have riX : RIs X h1.bn (some []) := ⟨by omega, xr, fun l e => by cases e; exact ⟨by simp, by simp⟩⟩
  refine callQ_s (done_ok wbX (by omega)) (by simp) ?_
  simp -implicitDefEqProofs []
  refine callQ_p (refFootItems_ok l h4) (by simp) ?_
  simp -implicitDefEqProofs []
  refine callQ_p (refWords_ok (footItems l) (by omega) fun x hx => ⟨(hit x hx).1, by rw [(hit x hx).2]; exact Nat.zero_le _⟩) (by simp [encIs]) ?_
  rw [hW]
  simp -implicitDefEqProofs []
  refine callQ_p (words_ok W W (by omega) (by omega)) (by simp) ?_
  simp -implicitDefEqProofs []
  refine callQ_s (rEnd_ok riX) (by simp) ?_
  simp -implicitDefEqProofs [endS]
  refine callQ_p (same10_ok l (by omega)) (by simp) ?_
  simp -implicitDefEqProofs []
end Go.Proofs
