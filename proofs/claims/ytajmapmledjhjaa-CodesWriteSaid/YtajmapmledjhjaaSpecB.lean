/- What the writer of codes does. -/
import Derived.Test.YtajmapmledjhjaaSpecA
namespace Go.Proofs
open Go Go.RowKit Go.Am

structure WB (h : H) (b : Nat) (t : Tok) (ws : List Nat) : Prop where
  lt : b < h.bn
  bx : h.bx b = some [.sl t (ws.map w64)]
  live : TLive h t ws.length

structure WTo (h : H) (b : Nat) (t : Tok) (ws : List Nat) (h' : H) (t' : Tok) : Prop where
  wb : WB h' b t' ws
  next : TNext h t t'
  keep : HF h h' (· = b) (TOwn t)

def WAdd (f : FuncId) (args : List AV) (h : H) (b : Nat) (t : Tok) (ws : List Nat) : Prop := ∃ r h', SCall Try.prog f args h r h' ∧ ∃ t', WTo h b t ws h' t'

theorem w64_len (us : List Nat) : ∀ e ∈ us.map w64, e.length = 1 := fun e he => by
  obtain ⟨n, _, rfl⟩ := List.mem_map.1 he
  rfl

theorem src_w64 (h : H) (us : List Nat) (t : Tok) : srcA h 1 (.sl t (us.map w64)) = some (us.map w64) := by
  simp only [srcA]
  rw [if_pos (w64_len us)]

theorem appQ_w {h : H} {t t2 : Tok} {es es2 : List (List AV)} (ws us : List Nat) {K : AV → H → Prop} (e1 : es = ws.map w64) (e2 : es2 = us.map w64) (ht : TLive h t ws.length) (hl : ws.length + us.length ≤ 1000000)
    (hk : ∀ t' h', TLive h' t' (ws ++ us).length → TNext h t t' → HF h h' (fun _ => False) (TOwn t) → h'.bn = h.bn → K (.sl t' ((ws ++ us).map w64)) h') : appQ h 1 8 (.sl t es) (.sl t2 es2) K := by
  subst e1 e2
  refine appQ_tok (es2 := us.map w64) (by simpa using ht) (w64_len ws) (src_w64 h us _) (by simp only [List.length_map]; omega) fun t' h' q1 q2 q3 q4 => ?_
  rw [← List.map_append]
  exact hk t' h' (by simpa using q1) q2 q3 q4

theorem put_ok {h : H} {b : Nat} {t : Tok} {ws us : List Nat} (hw : WB h b t ws) (hl : ws.length + us.length ≤ 1000000) : WAdd 101 [.ptr b 0, encW us] h b t (ws ++ us) := by
  refine SCall.run hb101 ok101 (by simp) ?_
  simp -implicitDefEqProofs [hw.bx, hw.lt]
  refine appQ_tok (es2 := us.map w64) (by simpa using hw.live) (w64_len ws) (src_w64 h us _) (by simp only [List.length_map]; omega) fun t' h' q1 q2 q3 q4 => ?_
  have hb' : h'.bx b = some [.sl t (ws.map w64)] := (q3.bx b hw.lt (fun h => h)).trans hw.bx
  simp -implicitDefEqProofs [hb', q4, hw.lt]
  exact ⟨t', ⟨by simp [q4, hw.lt], by simp, by simpa using q1⟩, q2, (q3.mono (fun _ _ h => h.elim) (fun _ _ h => h)).trans (HF.set _ rfl)⟩

theorem pures1 {v : AV} (h : PureV v) : ∀ u ∈ [v], PureV u := pures_cons h pures_nil

/-- A number with a sign, as a word. -/
def signed (x : Int) : Nat := if 0 ≤ x then (2 * x).toNat else (2 * (-(x + 1)) + 1).toNat

theorem refSigned_ok (x : Int) (h1 : -9223372036854775808 ≤ x) (h2 : x ≤ 9223372036854775807) : PCall Try.prog 59 [.int .i64 x] (.int .u64 (signed x)) := by
  refine PCall.run hb59 ok59 (by simp) (pures1 (.int _ _)) (.int _ _) ?_
  simp -implicitDefEqProofs
  by_cases hx : 0 ≤ x
  · simp -implicitDefEqProofs [hx, signed, wrap_u64 (x := x) (by omega) (by omega), wrap_u64 (x := 2 * x) (by omega) (by omega)]
    omega
  · simp -implicitDefEqProofs [hx, signed, wrap_i64 (x := x + 1) (by omega) (by omega), wrap_i64 (x := -(x + 1)) (by omega) (by omega), wrap_u64 (x := -(x + 1)) (by omega) (by omega), wrap_u64 (x := 2 * -(x + 1)) (by omega) (by omega)]
    rw [wrap_u64 (by omega) (by omega)]
    omega

theorem callW {f : FuncId} {first caps args as' : List AV} {h : H} {b : Nat} {t : Tok} {ws : List Nat} {K : AV → H → Prop} (hc : WAdd f as' h b t ws) (ha : (first ++ args ++ caps).map wk = as') (hk : ∀ r h' t', WTo h b t ws h' t' → K r h') : callQ Try.prog (.fn f first caps) args h K := by
  obtain ⟨r, h', q1, t', q2⟩ := hc
  exact ⟨r, h', SCall.wk (by rw [ha]; exact q1), hk r h' t' q2⟩

theorem count_ok {h : H} {b : Nat} {t : Tok} {ws : List Nat} (hw : WB h b t ws) (n : Int) (hn : n ≤ 9223372036854775807) (hl : ws.length + 1 ≤ 1000000) : WAdd 56 [.ptr b 0, .int .i64 n] h b t (ws ++ [n.toNat]) := by
  refine SCall.run hb56 ok56 (by simp) ?_
  have e : IntKind.u64.wrap (if n < 0 then 0 else n) = (n.toNat : Int) := by
    by_cases h0 : n < 0
    · rw [if_pos h0, wrap_u64 (by omega) (by omega)]; omega
    · rw [if_neg h0, wrap_u64 (by omega) (by omega)]; omega
  simp -implicitDefEqProofs [e]
  refine callW (put_ok hw (us := [n.toNat]) (by simpa using hl)) (by simp [w64]) fun r h' t' q => ?_
  try simp -implicitDefEqProofs
  exact ⟨t', q⟩

theorem xor_ones (a : Nat) (h : a < 18446744073709551616) : a ^^^ 18446744073709551615 = 18446744073709551615 - a := by
  have e : (BitVec.ofNat 64 a ^^^ BitVec.allOnes 64).toNat = 18446744073709551615 - a := by
    rw [BitVec.xor_allOnes, BitVec.toNat_not, BitVec.toNat_ofNat]
    omega
  rw [← e, BitVec.toNat_xor, BitVec.toNat_ofNat, BitVec.toNat_allOnes, Nat.mod_eq_of_lt h]

theorem signed_bits (x : Int) (h1 : -9223372036854775808 ≤ x) (h2 : x ≤ 9223372036854775807) : IntKind.u64.wrap
      ((((IntKind.u64.wrap (IntKind.i64.wrap (x * 2 ^ shAmt IntKind.i64 1)) % 2 ^ IntKind.u64.bits).toNat ^^^
          (IntKind.u64.wrap (x.fdiv (2 ^ shAmt IntKind.i64 63)) % 2 ^ IntKind.u64.bits).toNat) : Nat) : Int) = (signed x : Int) := by
  have e1 : (2 : Int) ^ shAmt IntKind.i64 1 = 2 := rfl
  have e2 : (2 : Int) ^ shAmt IntKind.i64 63 = 9223372036854775808 := rfl
  have e3 : (2 : Int) ^ IntKind.u64.bits = 18446744073709551616 := rfl
  have wu : ∀ y : Int, IntKind.u64.wrap y = y % 18446744073709551616 := fun y => by simp [IntKind.wrap, IntKind.bits, IntKind.signed]
  have wi : ∀ y : Int, IntKind.i64.wrap y = (if 9223372036854775808 ≤ y % 18446744073709551616 then y % 18446744073709551616 - 18446744073709551616 else y % 18446744073709551616) := fun y => by simp [IntKind.wrap, IntKind.bits, IntKind.signed]
  rw [e1, e2, e3]
  have e4 : IntKind.u64.wrap (IntKind.i64.wrap (x * 2)) % 18446744073709551616 = (x * 2) % 18446744073709551616 := by
    rw [wu, wi]; split <;> omega
  rw [e4]
  by_cases hx : 0 ≤ x
  · have e5 : x.fdiv 9223372036854775808 = 0 := by rw [Int.fdiv_eq_ediv_of_nonneg _ (by omega)]; omega
    rw [e5, wu, wu]
    simp only [signed, if_pos hx]
    simp
    omega
  · have e5 : x.fdiv 9223372036854775808 = -1 := by rw [Int.fdiv_eq_ediv_of_nonneg _ (by omega)]; omega
    rw [e5, wu, wu]
    have e6 : ((-1 : Int) % 18446744073709551616 % 18446744073709551616).toNat = 18446744073709551615 := by decide
    rw [e6, xor_ones _ (by omega)]
    simp only [signed, if_neg hx]
    omega

theorem wsigned_ok {h : H} {b : Nat} {t : Tok} {ws : List Nat} (hw : WB h b t ws) (x : Int) (h1 : -9223372036854775808 ≤ x) (h2 : x ≤ 9223372036854775807) (hl : ws.length + 1 ≤ 1000000) : WAdd 54 [.ptr b 0, .int .i64 x] h b t (ws ++ [signed x]) := by
  refine SCall.run hb54 ok54 (by simp) ?_
  simp -implicitDefEqProofs
  refine callW (put_ok hw (us := [signed x]) (by simpa using hl)) ?_ fun r h' t' q => ?_
  · simp -implicitDefEqProofs [w64]
    exact signed_bits x h1 h2
  try simp -implicitDefEqProofs
  exact ⟨t', q⟩

theorem wflag_ok {h : H} {b : Nat} {t : Tok} {ws : List Nat} (hw : WB h b t ws) (x : Bool) (hl : ws.length + 1 ≤ 1000000) : WAdd 57 [.ptr b 0, .bool x] h b t (ws ++ [if x then 1 else 0]) := by
  refine SCall.run hb57 ok57 (by simp) ?_
  cases x
  · simp -implicitDefEqProofs
    refine callW (put_ok hw (us := [0]) (by simpa using hl)) (by simp [w64]) fun r h' t' q => ?_
    try simp -implicitDefEqProofs
    exact ⟨t', q⟩
  · simp -implicitDefEqProofs
    refine callW (put_ok hw (us := [1]) (by simpa using hl)) (by simp [w64]) fun r h' t' q => ?_
    try simp -implicitDefEqProofs
    exact ⟨t', q⟩

theorem TOwn.next {h h1 : H} {t t1 : Tok} {B T : Nat → Prop} (a : TNext h t t1) : ∀ i, i < h.tn → TOwn t1 i → TOwn t i := fun i hi ho => by
  rcases a with rfl | ⟨j, rfl, hj⟩
  · exact ho
  · cases ho; omega
theorem WTo.trans {h h1 h2 : H} {b : Nat} {t t1 t2 : Tok} {ws ws' : List Nat} (a : WTo h b t ws h1 t1) (c : WTo h1 b t1 ws' h2 t2) : WTo h b t ws' h2 t2 :=
  ⟨c.wb, a.next.trans a.keep c.next, a.keep.trans' c.keep (fun _ _ h => h) (TOwn.next (B := fun _ => False) (T := fun _ => False) (h1 := h1) a.next)⟩

theorem wwords_ok {h : H} {b : Nat} {t : Tok} {ws : List Nat} (hw : WB h b t ws) (us : List Nat) (hl : ws.length + us.length + 1 ≤ 1000000) : WAdd 58 [.ptr b 0, encW us] h b t (ws ++ us.length :: us) := by
  refine SCall.run hb58 ok58 (by simp) ?_
  simp -implicitDefEqProofs
  refine callW (count_ok hw (us.length : Int) (by omega) (by omega)) (by simp) fun r h' t' q => ?_
  try simp -implicitDefEqProofs
  refine callW (put_ok q.wb (us := us) (by simp; omega)) (by simp) fun r h'' t'' q' => ?_
  try simp -implicitDefEqProofs
  exact ⟨t'', by simpa using q.trans q'⟩
end Go.Proofs
