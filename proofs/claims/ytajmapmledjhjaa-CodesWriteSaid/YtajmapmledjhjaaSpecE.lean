/- The program's packing of texts: the run. -/
import Derived.Test.YtajmapmledjhjaaSpecD
namespace Go.Proofs
open Go Go.RowKit Go.Am

theorem or_u64 {A B : Nat} (hA : A < 18446744073709551616) (hB : B < 18446744073709551616) : IntKind.u64.wrap ((((A : Int) % 2 ^ IntKind.u64.bits).toNat ||| ((B : Int) % 2 ^ IntKind.u64.bits).toNat : Nat) : Int) = ((A ||| B : Nat) : Int) := by
  have e3 : (2 : Int) ^ IntKind.u64.bits = 18446744073709551616 := rfl
  rw [e3, show ((A : Int) % 18446744073709551616).toNat = A by omega, show ((B : Int) % 18446744073709551616).toNat = B by omega]
  have := Nat.or_lt_two_pow (n := 64) hA hB
  exact wrap_u64 (by omega) (by omega)

theorem packed_ok (s : ByteArray) (hs : s.size ≤ 1000) : PCall Try.prog 102 [.str s] (encW (packed s)) := by
  refine PCall.run' hb102 ok102 (by simp) (pures1 (.str _)) (pure_w64 _) ?_
  have e1 : IntKind.i64.wrap ((s.size : Int) + 8) = (s.size : Int) + 8 := wrap_i64 (by omega) (by omega)
  have e2 : IntKind.i64.wrap ((s.size : Int) + 8 - 1) = (s.size : Int) + 8 - 1 := wrap_i64 (by omega) (by omega)
  have e3 : IntKind.i64.wrap (((s.size : Int) + 8 - 1).tdiv 8) = (((s.size + 7) / 8 : Nat) : Int) := by
    rw [Int.tdiv_eq_ediv_of_nonneg (by omega), wrap_i64 (by omega) (by omega)]
    omega
  simp -implicitDefEqProofs [e1, e2, e3, -Int.natCast_ediv]
  refine ⟨_, _, .mkbox 1 8 [.int .u64 0] (.t 9) (.t 9) .i64 .i64 ((s.size + 7) / 8) (by simp) (by simp) (by omega) (by omega), ?_⟩
  generalize hK : (s.size + 7) / 8 = K
  simp -implicitDefEqProofs
  refine run_loop (fun n s1 h => ∃ i : Nat, n = s.size - i ∧ i ≤ s.size ∧ s1 0 = .str s ∧ s1 3 = .msl 0 1 0 K ∧ s1 12 = .int .i64 s.size ∧ s1 13 = .int .i64 i ∧ 0 < h.bn ∧ h.bx 0 = some (cellsP s K i)) ?_ s.size ?_
  · rintro n s1 h ⟨i, hn, hi, h0, h3, h12, h13, hb, hx⟩ ih
    by_cases hlt : i < s.size
    · have q1 : ((i : Int)).tdiv 8 = ((i / 8 : Nat) : Int) := by rw [Int.tdiv_eq_ediv_of_nonneg (by omega)]; omega
      have q2 : ((i : Int)).tmod 8 = ((i % 8 : Nat) : Int) := by rw [Int.tmod_eq_emod_of_nonneg (by omega)]; omega
      have q3 : IntKind.i64.wrap ((i / 8 : Nat) : Int) = ((i / 8 : Nat) : Int) := wrap_i64 (by omega) (by omega)
      have q4 : IntKind.i64.wrap (8 * ((i % 8 : Nat) : Int)) = ((8 * (i % 8) : Nat) : Int) := by rw [wrap_i64 (by omega) (by omega)]; omega
      have q5 : idxOf (.int .i64 ((i / 8 : Nat) : Int)) K = some (i / 8) := idxOf_nat (by omega)
      have q6 : idxOf (.int .i64 (i : Int)) s.size = some i := idxOf_nat hlt
      have q7 : IntKind.u64.wrap (byteAt s i : Int) = (byteAt s i : Int) := wrap_u64 (by omega) (by have := byteAt_lt s i; omega)
      have q8 : shAmt .u64 ((8 * (i % 8) : Nat) : Int) = 8 * (i % 8) := by simp only [shAmt, IntKind.bits, Int.toNat_natCast]; omega
      simp -implicitDefEqProofs [h13, h12, hlt]
      refine run_dreg c102_d6 ?_
      have hB := byteAt_lt s i
      have hp : 2 ^ (8 * (i % 8)) ≤ 72057594037927936 := Nat.pow_le_pow_right (n := 2) (by omega) (show 8 * (i % 8) ≤ 56 by omega)
      have hBp : byteAt s i * 2 ^ (8 * (i % 8)) < 18446744073709551616 := Nat.lt_of_le_of_lt (Nat.mul_le_mul (Nat.le_of_lt_succ hB) hp) (by omega)
      have hA := num_lt s (i % 8) (8 * (i / 8))
      have hA2 : num s (8 * (i / 8)) (i % 8) < 18446744073709551616 := Nat.lt_of_lt_of_le hA (Nat.pow_le_pow_right (n := 256) (by omega) (show i % 8 ≤ 8 by omega))
      have r1 : i / 8 + 1 ≤ (cellsP s K i).length := by simp [cellsP]; omega
      have r2 : List.take 1 (List.drop (i / 8) (cellsP s K i)) = [.int .u64 (num s (8 * (i / 8)) (i % 8) : Int)] := by
        have : i / 8 < (cellsP s K i).length := r1
        rw [List.drop_eq_getElem_cons this]
        simp [cellsP, show min 8 (i - 8 * (i / 8)) = i % 8 by omega]
      have r4 : IntKind.u64.wrap ((byteAt s i : Int) * 2 ^ (8 * (i % 8))) = ((byteAt s i * 2 ^ (8 * (i % 8)) : Nat) : Int) := by
        rw [show (byteAt s i : Int) * 2 ^ (8 * (i % 8)) = ((byteAt s i * 2 ^ (8 * (i % 8)) : Nat) : Int) by simp]
        exact wrap_u64 (by omega) (by omega)
      have r3 : ¬ ((8 * (i % 8) : Nat) : Int) < 0 := by omega
      have hset := cellsP_set s K i (by omega)
      simp -implicitDefEqProofs [h0, h3, h13, hb, hx, q1, q2, q3, q4, q5, q6, q7, q8, hlt, data_byte, -Int.natCast_ediv, -Int.natCast_emod, -idxOf, -Int.natCast_mul, r1, r2, r3, r4, or_u64 hA2 hBp, wrap_i64 (x := (i : Int) + 1) (by omega) (by omega)]
      refine ih (s.size - (i + 1)) _ _ (by omega) ⟨i + 1, rfl, by omega, by simp [h0], by simp [h3], by simp [h12], by simp, by simpa using hb, ?_⟩
      rw [← hset]
      simp
    · have : i = s.size := by omega
      subst this
      simp -implicitDefEqProofs [h13, h12, h3]
      have := Gh.msl (z := 1) (n := K) hb hx (by omega) (by simp [cellsP])
      rw [← hK, packed_cells] at this
      exact ⟨_, by rw [← hK]; exact this⟩
  · refine ⟨0, by simp, by omega, by simp, by simp [H.nil], by simp, by simp, by simp, ?_⟩
    have : cellsP s K 0 = List.replicate K (.int .u64 0) := by
      rw [List.eq_replicate_iff]
      refine ⟨by simp [cellsP], fun v hv => ?_⟩
      simp only [cellsP, List.mem_map] at hv
      obtain ⟨j, _, rfl⟩ := hv
      simp [num]
    simp [H.nil, this]
end Go.Proofs
