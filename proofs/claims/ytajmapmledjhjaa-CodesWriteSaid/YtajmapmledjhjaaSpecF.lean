/- The writer of texts; copies; what a writer hands back. -/
import Derived.Test.YtajmapmledjhjaaSpecE
namespace Go.Proofs
open Go Go.RowKit Go.Am

def cut64 (s : ByteArray) : ByteArray := s.extract 0 (min s.size 64)
theorem cut64_size (s : ByteArray) : (cut64 s).size = min s.size 64 := by simp [cut64]

theorem packed_len (s : ByteArray) : (packed s).length = (s.size + 7) / 8 := by simp [packed]

def textW (s : ByteArray) : List Nat := (cut64 s).size :: packed (cut64 s)

theorem wtext_ok {h : H} {b : Nat} {t : Tok} {ws : List Nat} (hw : WB h b t ws) (s : ByteArray) (hl : ws.length + 20 ≤ 1000000) : WAdd 55 [.ptr b 0, .str s] h b t (ws ++ textW s) := by
  refine SCall.run hb55 ok55 (by simp) ?_
  have hc := cut64_size s
  have e : (if (64 : Int) < (s.size : Int) then (64 : Int) else (s.size : Int)) = ((min s.size 64 : Nat) : Int) := by split <;> omega
  have e2 : bndOf (some (.int .i64 ((min s.size 64 : Nat) : Int))) s.size s.size = some (min s.size 64) := by
    simp only [bndOf]
    rw [if_pos (by omega)]
    simp
  have e3 : bndOf none (min s.size 64) 0 = some 0 := rfl
  simp -implicitDefEqProofs [e, e2, e3, -bndOf]
  have hps : s.extract 0 (min s.size 64) = cut64 s := rfl
  refine callW (count_ok hw ((min s.size 64 : Nat) : Int) (by omega) (by omega)) (by simp) fun r h1 t1 q => ?_
  try simp -implicitDefEqProofs
  refine callQ_p (packed_ok (cut64 s) (by omega)) (by simp [hps]) ?_
  try simp -implicitDefEqProofs
  have hpl := packed_len (cut64 s)
  refine callW (put_ok q.wb (us := packed (cut64 s)) (by simp; omega)) (by simp) fun r h2 t2 q2 => ?_
  try simp -implicitDefEqProofs
  refine ⟨t2, ?_⟩
  have := q.trans q2
  simpa [textW, hc] using this

theorem clone_ok (us : List Nat) (hl : us.length ≤ 1000000) : PCall Try.prog 61 [encW us] (encW us) := by
  refine clone_gen (n := 1) (b := 8) (z := [.int .u64 0]) hb61 ok61 (us.map w64) (w64_len us) (pure_w64 us) (by simp) (by simp; omega)

theorem done_ok {h : H} {b : Nat} {t : Tok} {ws : List Nat} (hw : WB h b t ws) (hl : ws.length ≤ 1000000) : SCall Try.prog 19 [.ptr b 0] h (encW ws) h := by
  have key : ∃ r h', SCall Try.prog 19 [.ptr b 0] h r h' ∧ r = encW ws ∧ h' = h := by
    refine SCall.run hb19 ok19 (by simp) ?_
    simp -implicitDefEqProofs [hw.bx, hw.lt]
    refine callQ_p (clone_ok ws hl) (by simp) ?_
    try simp -implicitDefEqProofs
  obtain ⟨r, h', q1, rfl, rfl⟩ := key
  exact q1
end Go.Proofs
