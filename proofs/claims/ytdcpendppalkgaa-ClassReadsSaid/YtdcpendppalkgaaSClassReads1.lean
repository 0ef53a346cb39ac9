/- What the functions that the statement reaches do: their contracts; and what follows of it. -/
import Derived.Test.YtdcpendppalkgaaCClassReads
/- What the functions of the statements about codes do. -/
namespace Go.Proofs
open Go Go.RowKit Go.Am

def w64 (n : Nat) : List AV := [.int .u64 n]
@[simp] def encW (l : List Nat) : AV := .sl .no (l.map w64)
@[simp] theorem wk_w64 : List.map wk ∘ w64 = w64 := by funext n; simp [w64]

@[simp] theorem wk_w64' (n : Nat) : List.map wk (w64 n) = w64 n := by simp [w64]

theorem pure_w64 (l : List Nat) : PureV (encW l) := .sl (fun i h => by cases h) fun e he v hv => by
  obtain ⟨n, _, rfl⟩ := List.mem_map.1 he
  simp -implicitDefEqProofs only [w64, List.mem_singleton] at hv
  subst hv
  exact .int _ _

theorem pures_nil : ∀ v ∈ ([] : List AV), PureV v := fun v h => by cases h
theorem pures_cons {v : AV} {l : List AV} (h : PureV v) (hl : ∀ v ∈ l, PureV v) : ∀ u ∈ v :: l, PureV u := fun u hu => by
  rcases List.mem_cons.1 hu with rfl | hu
  · exact h
  · exact hl u hu

end Go.Proofs

/- What the writer of codes does. -/
namespace Go.Proofs
open Go Go.RowKit Go.Am

structure WB (h : H) (b : Nat) (t : Tok) (ws : List Nat) : Prop where
  lt : b < h.bn
  bx : h.bx b = some [.sl t (ws.map w64)]
  live : TLive h t ws.length

structure WTo (h : H) (b : Nat) (t : Tok) (ws : List Nat) (h' : H) (t' : Tok) : Prop where
  wb : WB h' b t' ws
  next : TNext h t t'
  keep : HF h h' (· = b) (TOwn t)

def WAdd (f : FuncId) (args : List AV) (h : H) (b : Nat) (t : Tok) (ws : List Nat) : Prop := CallP Try.prog f args h fun _ h' => ∃ t', WTo h b t ws h' t'

theorem w64_len (us : List Nat) : ∀ e ∈ us.map w64, e.length = 1 := fun e he => by
  obtain ⟨n, _, rfl⟩ := List.mem_map.1 he
  rfl

theorem src_w64 (h : H) (us : List Nat) (t : Tok) : srcA h 1 (.sl t (us.map w64)) = some (us.map w64) := by
  simp only [srcA]
  rw [if_pos (w64_len us)]

theorem appQ_w {h : H} {t t2 : Tok} {es es2 : List (List AV)} (ws us : List Nat) {K : AV → H → Prop} (e1 : es = ws.map w64) (e2 : es2 = us.map w64) (ht : TLive h t ws.length) (hl : ws.length + us.length ≤ 1000000)
    (hk : ∀ t' h', TLive h' t' (ws ++ us).length → TNext h t t' → HF h h' (fun _ => False) (TOwn t) → h'.bn = h.bn → K (.sl t' ((ws ++ us).map w64)) h') : appQ h 1 8 (.sl t es) (.sl t2 es2) K := by
  subst e1 e2
  refine appQ_tok (es2 := us.map w64) (by simpa using ht) (w64_len ws) (src_w64 h us _) (by simp only [List.length_map]; omega) fun t' h' q1 q2 q3 q4 => ?_
  rw [← List.map_append]
  exact hk t' h' (by simpa using q1) q2 q3 q4

theorem put_ok {h : H} {b : Nat} {t : Tok} {ws us : List Nat} (hw : WB h b t ws) (hl : ws.length + us.length ≤ 1000000) : WAdd 111 [.ptr b 0, encW us] h b t (ws ++ us) := by
  refine CallP.run hb111 ok111 (by simp) ?_
  simp -implicitDefEqProofs [hw.bx, hw.lt]
  refine appQ_tok (es2 := us.map w64) (by simpa using hw.live) (w64_len ws) (src_w64 h us _) (by simp only [List.length_map]; omega) fun t' h' q1 q2 q3 q4 => ?_
  have hb' : h'.bx b = some [.sl t (ws.map w64)] := (q3.bx b hw.lt (fun h => h)).trans hw.bx
  simp -implicitDefEqProofs [hb', q4, hw.lt]
  exact ⟨t', ⟨by simp [q4, hw.lt], by simp, by simpa using q1⟩, q2, (q3.mono (fun _ _ h => h.elim) (fun _ _ h => h)).trans (HF.set _ rfl)⟩

theorem pures1 {v : AV} (h : PureV v) : ∀ u ∈ [v], PureV u := pures_cons h pures_nil

/-- A number with a sign, as a word. -/
def signed (x : Int) : Nat := if 0 ≤ x then (2 * x).toNat else (2 * (-(x + 1)) + 1).toNat

theorem refSigned_ok (x : Int) (h1 : -9223372036854775808 ≤ x) (h2 : x ≤ 9223372036854775807) : PCall Try.prog 142 [.int .i64 x] (.int .u64 (signed x)) := by
  refine PCall.run hb142 ok142 (by simp) (pures1 (.int _ _)) (.int _ _) ?_
  simp -implicitDefEqProofs
  by_cases hx : 0 ≤ x
  · simp -implicitDefEqProofs [hx, signed, wrap_u64 (x := x) (by omega) (by omega), wrap_u64 (x := 2 * x) (by omega) (by omega)]
    omega
  · simp -implicitDefEqProofs [hx, signed, wrap_i64 (x := x + 1) (by omega) (by omega), wrap_i64 (x := -(x + 1)) (by omega) (by omega), wrap_u64 (x := -(x + 1)) (by omega) (by omega), wrap_u64 (x := 2 * -(x + 1)) (by omega) (by omega)]
    rw [wrap_u64 (by omega) (by omega)]
    omega

theorem callW {f : FuncId} {first caps args as' : List AV} {h : H} {b : Nat} {t : Tok} {ws : List Nat} {K : AV → H → Prop} (hc : WAdd f as' h b t ws) (ha : (first ++ args ++ caps).map wk = as') (hk : ∀ r h' t', WTo h b t ws h' t' → K r h') : callQ Try.prog (.fn f first caps) args h K := callQ_c hc ha fun r h1 ⟨t', q⟩ => hk r h1 t' q

theorem count_ok {h : H} {b : Nat} {t : Tok} {ws : List Nat} (hw : WB h b t ws) (n : Int) (hn : n ≤ 9223372036854775807) (hl : ws.length + 1 ≤ 1000000) : WAdd 69 [.ptr b 0, .int .i64 n] h b t (ws ++ [n.toNat]) := by
  refine CallP.run hb69 ok69 (by simp) ?_
  have e : IntKind.u64.wrap (if n < 0 then 0 else n) = (n.toNat : Int) := by
    by_cases h0 : n < 0
    · rw [if_pos h0, wrap_u64 (by omega) (by omega)]; omega
    · rw [if_neg h0, wrap_u64 (by omega) (by omega)]; omega
  simp -implicitDefEqProofs [e]
  refine callW (put_ok hw (us := [n.toNat]) (by simpa using hl)) (by simp [w64]) fun r h' t' q => ?_
  try simp -implicitDefEqProofs
  exact ⟨t', q⟩

theorem xor_ones (a : Nat) (h : a < 18446744073709551616) : a ^^^ 18446744073709551615 = 18446744073709551615 - a := by
  have e : (BitVec.ofNat 64 a ^^^ BitVec.allOnes 64).toNat = 18446744073709551615 - a := by
    rw [BitVec.xor_allOnes, BitVec.toNat_not, BitVec.toNat_ofNat]
    omega
  rw [← e, BitVec.toNat_xor, BitVec.toNat_ofNat, BitVec.toNat_allOnes, Nat.mod_eq_of_lt h]

theorem signed_bits (x : Int) (h1 : -9223372036854775808 ≤ x) (h2 : x ≤ 9223372036854775807) : IntKind.u64.wrap
      ((((IntKind.u64.wrap (IntKind.i64.wrap (x * 2 ^ shAmt IntKind.i64 1)) % 2 ^ IntKind.u64.bits).toNat ^^^
          (IntKind.u64.wrap (x.fdiv (2 ^ shAmt IntKind.i64 63)) % 2 ^ IntKind.u64.bits).toNat) : Nat) : Int) = (signed x : Int) := by
  have e1 : (2 : Int) ^ shAmt IntKind.i64 1 = 2 := rfl
  have e2 : (2 : Int) ^ shAmt IntKind.i64 63 = 9223372036854775808 := rfl
  have e3 : (2 : Int) ^ IntKind.u64.bits = 18446744073709551616 := rfl
  have wu : ∀ y : Int, IntKind.u64.wrap y = y % 18446744073709551616 := fun y => by simp [IntKind.wrap, IntKind.bits, IntKind.signed]
  have wi : ∀ y : Int, IntKind.i64.wrap y = (if 9223372036854775808 ≤ y % 18446744073709551616 then y % 18446744073709551616 - 18446744073709551616 else y % 18446744073709551616) := fun y => by simp [IntKind.wrap, IntKind.bits, IntKind.signed]
  rw [e1, e2, e3]
  have e4 : IntKind.u64.wrap (IntKind.i64.wrap (x * 2)) % 18446744073709551616 = (x * 2) % 18446744073709551616 := by
    rw [wu, wi]; split <;> omega
  rw [e4]
  by_cases hx : 0 ≤ x
  · have e5 : x.fdiv 9223372036854775808 = 0 := by rw [Int.fdiv_eq_ediv_of_nonneg _ (by omega)]; omega
    rw [e5, wu, wu]
    simp only [signed, if_pos hx]
    simp
    omega
  · have e5 : x.fdiv 9223372036854775808 = -1 := by rw [Int.fdiv_eq_ediv_of_nonneg _ (by omega)]; omega
    rw [e5, wu, wu]
    have e6 : ((-1 : Int) % 18446744073709551616 % 18446744073709551616).toNat = 18446744073709551615 := by decide
    rw [e6, xor_ones _ (by omega)]
    simp only [signed, if_neg hx]
    omega

theorem wsigned_ok {h : H} {b : Nat} {t : Tok} {ws : List Nat} (hw : WB h b t ws) (x : Int) (h1 : -9223372036854775808 ≤ x) (h2 : x ≤ 9223372036854775807) (hl : ws.length + 1 ≤ 1000000) : WAdd 115 [.ptr b 0, .int .i64 x] h b t (ws ++ [signed x]) := by
  refine CallP.run hb115 ok115 (by simp) ?_
  simp -implicitDefEqProofs
  refine callW (put_ok hw (us := [signed x]) (by simpa using hl)) ?_ fun r h' t' q => ?_
  · simp -implicitDefEqProofs [w64]
    exact signed_bits x h1 h2
  try simp -implicitDefEqProofs
  exact ⟨t', q⟩

theorem wflag_ok {h : H} {b : Nat} {t : Tok} {ws : List Nat} (hw : WB h b t ws) (x : Bool) (hl : ws.length + 1 ≤ 1000000) : WAdd 112 [.ptr b 0, .bool x] h b t (ws ++ [if x then 1 else 0]) := by
  refine CallP.run hb112 ok112 (by simp) ?_
  cases x
  · simp -implicitDefEqProofs
    refine callW (put_ok hw (us := [0]) (by simpa using hl)) (by simp [w64]) fun r h' t' q => ?_
    try simp -implicitDefEqProofs
    exact ⟨t', q⟩
  · simp -implicitDefEqProofs
    refine callW (put_ok hw (us := [1]) (by simpa using hl)) (by simp [w64]) fun r h' t' q => ?_
    try simp -implicitDefEqProofs
    exact ⟨t', q⟩

theorem TOwn.next {h h1 : H} {t t1 : Tok} {B T : Nat → Prop} (a : TNext h t t1) : ∀ i, i < h.tn → TOwn t1 i → TOwn t i := fun i hi ho => by
  rcases a with rfl | ⟨j, rfl, hj⟩
  · exact ho
  · cases ho; omega
theorem WTo.trans {h h1 h2 : H} {b : Nat} {t t1 t2 : Tok} {ws ws' : List Nat} (a : WTo h b t ws h1 t1) (c : WTo h1 b t1 ws' h2 t2) : WTo h b t ws' h2 t2 :=
  ⟨c.wb, a.next.trans a.keep c.next, a.keep.trans' c.keep (fun _ _ h => h) (TOwn.next (B := fun _ => False) (T := fun _ => False) (h1 := h1) a.next)⟩

end Go.Proofs

/- A text's bytes as words: both ways of packing, and the writer of texts. -/
namespace Go.Proofs
open Go Go.RowKit Go.Am

/-- The byte at a place, or none: 0. -/
def byteAt (s : ByteArray) (i : Nat) : Nat := match s.data[i]? with | some c => c.toNat | none => 0
theorem byteAt_lt (s : ByteArray) (i : Nat) : byteAt s i < 256 := by
  unfold byteAt
  split
  · rename_i c _; exact c.toNat_lt
  · omega

theorem idx_byte {s : ByteArray} {j : Nat} (h : j < s.size) : Option.map (fun c : UInt8 => AV.int .u8 c.toNat) s.data[j]? = some (.int .u8 (byteAt s j)) := by
  have h' : j < s.data.size := h
  unfold byteAt
  rw [Array.getElem?_eq_getElem h']
  rfl
theorem data_byte {s : ByteArray} {j : Nat} {h : j < s.data.size} : (s.data[j]'h).toNat = byteAt s j := by
  unfold byteAt
  rw [Array.getElem?_eq_getElem h]
theorem byteAt_out {s : ByteArray} {j : Nat} (h : ¬ j < s.size) : byteAt s j = 0 := by
  have h' : s.data.size ≤ j := Nat.le_of_not_lt h
  unfold byteAt
  rw [Array.getElem?_eq_none h']

/-- k bytes from a place on, as a number, the first the least. -/
def num (s : ByteArray) (at' : Nat) : Nat → Nat
  | 0 => 0
  | k + 1 => byteAt s at' + 256 * num s (at' + 1) k

def packed (s : ByteArray) : List Nat := (List.range ((s.size + 7) / 8)).map fun i => num s (8 * i) 8

theorem num_lt (s : ByteArray) : ∀ (k a : Nat), num s a k < 256 ^ k
  | 0, a => by simp [num]
  | k + 1, a => by
    have h1 := num_lt s k (a + 1)
    have h2 := byteAt_lt s a
    simp only [num, Nat.pow_succ]
    omega
theorem num8_lt (s : ByteArray) (a : Nat) : num s a 8 < 18446744073709551616 := num_lt s 8 a

theorem refPacked_ok (s : ByteArray) (hs : s.size ≤ 1000) : PCall Try.prog 143 [.str s] (encW (packed s)) := by
  refine PCall.run hb143 ok143 (by simp) (pures1 (.str _)) (pure_w64 _) ?_
  simp -implicitDefEqProofs
  refine run_loop (fun n s1 h => ∃ i t, n = (s.size + 7) / 8 - i ∧ i ≤ (s.size + 7) / 8 ∧ s1 0 = .str s ∧ s1 3 = .sl t (((List.range i).map fun i => num s (8 * i) 8).map w64) ∧ TLive h t i ∧ s1 4 = .int .i64 ((8 * i : Nat) : Int)) ?_ ((s.size + 7) / 8) ?_
  · rintro n s1 h ⟨i, t, hn, hi, h0, h3, hl, h4⟩ ih
    simp -implicitDefEqProofs [h0, h4]
    by_cases hlt : 8 * i < s.size
    · have hlt' : (8 : Int) * (i : Int) < (s.size : Int) := by omega
      simp -implicitDefEqProofs [hlt']
      refine run_loop (fun n s2 h2 => ∃ k : Nat, n = k ∧ k ≤ 8 ∧ h2 = h ∧ s2 0 = .str s ∧ s2 3 = s1 3 ∧ s2 4 = s1 4 ∧ s2 6 = .int .i64 ((k : Int) - 1) ∧ s2 5 = .int .u64 (num s (8 * i + k) (8 - k) : Int)) ?_ 8 ?_
      · rintro n s2 h2 ⟨k, rfl, hk, rfl, g0, g3, g4, g6, g5⟩ ih2
        rcases n with _ | m
        · simp -implicitDefEqProofs [g6, g3, h3, g5]
          refine appQ_w ((List.range i).map fun i => num s (8 * i) 8) [num s (8 * i) 8] (by simp) (by simp [w64]) (by simpa using hl) (by simp; omega) fun t' h' q1 q2 q3 q4 => ?_
          simp -implicitDefEqProofs [g4, h4, wrap_i64 (x := 8 * (i : Int) + 8) (by omega) (by omega)]
          refine ih ((s.size + 7) / 8 - (i + 1)) _ _ (by omega) ⟨i + 1, t', rfl, by omega, by simp [g0], by simp [List.range_succ], by simpa using q1, by simp; omega⟩
        · have hm : ((m + 1 : Nat) : Int) - 1 = (m : Int) := by omega
          rw [hm] at g6
          have g5' : s2 5 = .int .u64 (num s (8 * i + (m + 1)) (7 - m) : Int) := by rw [g5, show 8 - (m + 1) = 7 - m by omega]
          have hnum : num s (8 * i + m) (8 - m) = byteAt s (8 * i + m) + 256 * num s (8 * i + (m + 1)) (7 - m) := by
            rw [show 8 - m = (7 - m) + 1 by omega]; rfl
          have hb : num s (8 * i + m) (8 - m) < 18446744073709551616 := Nat.lt_of_lt_of_le (num_lt s (8 - m) (8 * i + m)) (Nat.pow_le_pow_right (n := 256) (by omega) (show 8 - m ≤ 8 by omega))
          have hm2 : IntKind.i64.wrap ((m : Int) - 1) = (m : Int) - 1 := wrap_i64 (by omega) (by omega)
          have hw1 : IntKind.u64.wrap ((num s (8 * i + (m + 1)) (7 - m) : Int) * 256) = (num s (8 * i + (m + 1)) (7 - m) : Int) * 256 := wrap_u64 (by omega) (by omega)
          have hw2 : IntKind.i64.wrap (8 * (i : Int) + (m : Int)) = ((8 * i + m : Nat) : Int) := by rw [wrap_i64 (by omega) (by omega)]; omega
          have h4' : s1 4 = .int .i64 (8 * (i : Int)) := by rw [h4]; simp
          have fin : ∀ s3 : Slots, s3 0 = .str s → s3 3 = s1 3 → s3 4 = s1 4 → s3 6 = .int .i64 ((m : Int) - 1) → s3 5 = .int .u64 (num s (8 * i + m) (8 - m) : Int) → Run Try.prog false [It.lp c143_l12, It.blk 2, It.c (IR.reg c143_r13), It.blk 1, It.c (IR.reg c143_r14), It.lp c143_l15, It.blk 0, It.c ((IR.reg c143_r16).seq IR.ret)]
              (retQ [ResA.t 2] fun r' x => wk r' = AV.sl Tok.no (List.map w64 (packed s))) s3 h2 :=
            fun s3 a0 a3 a4 a6 a5 => ih2 m s3 h2 (by omega) ⟨m, rfl, by omega, rfl, a0, a3, a4, a6, a5⟩
          by_cases hin : 8 * i + m < s.size
          · have hbt := byteAt_lt s (8 * i + m)
            have hw3 : IntKind.u64.wrap (byteAt s (8 * i + m) : Int) = (byteAt s (8 * i + m) : Int) := wrap_u64 (by omega) (by omega)
            have hw4 : IntKind.u64.wrap ((num s (8 * i + (m + 1)) (7 - m) : Int) * 256 + (byteAt s (8 * i + m) : Int)) = (num s (8 * i + (m + 1)) (7 - m) : Int) * 256 + (byteAt s (8 * i + m) : Int) := wrap_u64 (by omega) (by omega)
            have hi1 : idxOf (.int .i64 ((8 * i + m : Nat) : Int)) s.size = some (8 * i + m) := idxOf_nat hin
            simp -implicitDefEqProofs [g6, g5', hw1, g4, h4', g0, hw2, -Int.natCast_add, -idxOf, hin, hi1, data_byte, hw3, hw4, hm2]
            refine fin _ (by simp [g0]) (by simp [g3]) (by simp [g4]) (by simp) ?_
            simp [hnum]
            omega
          · have hz := byteAt_out hin
            simp -implicitDefEqProofs [g6, g5', hw1, g4, h4', g0, hw2, -Int.natCast_add, hin, hm2]
            refine fin _ (by simp [g0]) (by simp [g3]) (by simp [g4]) (by simp) ?_
            simp [hnum, hz]
            omega
      · exact ⟨8, rfl, by omega, rfl, by simp [h0], by simp, by simp, by simp, by simp [num]⟩
    · have hlt' : ¬ (8 : Int) * (i : Int) < (s.size : Int) := by omega
      simp -implicitDefEqProofs [hlt']
      have : i = (s.size + 7) / 8 := by omega
      simp -implicitDefEqProofs [h3, packed, this]
  · exact ⟨0, .full, by simp, by omega, by simp, by simp, trivial, by simp⟩
end Go.Proofs

/- The program's packing of texts. -/
namespace Go.Proofs
open Go Go.RowKit Go.Am

theorem num_snoc (s : ByteArray) : ∀ (k a : Nat), num s a (k + 1) = num s a k + 256 ^ k * byteAt s (a + k)
  | 0, a => by simp [num]
  | k + 1, a => by
    rw [show num s a (k + 1 + 1) = byteAt s a + 256 * num s (a + 1) (k + 1) from rfl, num_snoc s k (a + 1), show num s a (k + 1) = byteAt s a + 256 * num s (a + 1) k from rfl, Nat.pow_succ, show a + 1 + k = a + (k + 1) by omega]
    rw [Nat.mul_add, Nat.add_assoc]
    congr 2
    rw [Nat.mul_comm (256 ^ k) 256, Nat.mul_assoc]

theorem num_cut (s : ByteArray) : ∀ (k a : Nat), num s a k = num s a (min k (s.size - a))
  | 0, a => by simp
  | k + 1, a => by
    by_cases h : a < s.size
    · rw [show min (k + 1) (s.size - a) = min k (s.size - (a + 1)) + 1 by omega]
      simp only [num]
      rw [num_cut s k (a + 1)]
    · rw [show min (k + 1) (s.size - a) = 0 by omega]
      simp only [num]
      rw [byteAt_out h, num_cut s k (a + 1), show min k (s.size - (a + 1)) = 0 by omega]
      simp [num]

def cellsP (s : ByteArray) (n i : Nat) : List AV := (List.range n).map fun j => .int .u64 (num s (8 * j) (min 8 (i - 8 * j)))

theorem or_low (a b r : Nat) (h : a < 256 ^ r) : a ||| b * 2 ^ (8 * r) = a + 256 ^ r * b := by
  have e : 2 ^ (8 * r) = 256 ^ r := by rw [Nat.pow_mul]
  rw [Nat.mul_comm, Nat.or_comm, ← Nat.two_pow_add_eq_or_of_lt (by rw [e]; exact h), e]
  omega

theorem cellsP_set (s : ByteArray) (n i : Nat) (h : i < 8 * n) : (cellsP s n i).take (i / 8) ++ [AV.int .u64 ((num s (8 * (i / 8)) (i % 8) ||| byteAt s i * 2 ^ (8 * (i % 8)) : Nat) : Int)] ++ (cellsP s n i).drop (i / 8 + 1) = cellsP s n (i + 1) := by
  have e : (cellsP s n i).take (i / 8) ++ [AV.int .u64 ((num s (8 * (i / 8)) (i % 8) ||| byteAt s i * 2 ^ (8 * (i % 8)) : Nat) : Int)] ++ (cellsP s n i).drop (i / 8 + 1) = (cellsP s n i).set (i / 8) (AV.int .u64 ((num s (8 * (i / 8)) (i % 8) ||| byteAt s i * 2 ^ (8 * (i % 8)) : Nat) : Int)) := by
    rw [List.set_eq_take_append_cons_drop, if_pos (by simp [cellsP]; omega)]
    simp
  rw [e]
  apply List.ext_getElem
  · simp [cellsP]
  · intro j h1 h2
    rw [List.getElem_set]
    simp only [cellsP, List.getElem_map, List.getElem_range]
    split
    · rename_i hj
      subst hj
      rw [or_low _ _ _ (num_lt s _ _), show min 8 (i + 1 - 8 * (i / 8)) = i % 8 + 1 by omega, num_snoc, show 8 * (i / 8) + i % 8 = i by omega]
    · rename_i hj
      congr 2
      have : min 8 (i - 8 * j) = min 8 (i + 1 - 8 * j) := by omega
      rw [this]

theorem packed_cells (s : ByteArray) : chunks 1 ((s.size + 7) / 8) (cellsP s ((s.size + 7) / 8) s.size) = (packed s).map w64 := by
  have key : ∀ (l : List AV) (n : Nat), l.length = n → chunks 1 n l = l.map fun v => [v] := by
    intro l
    induction l with
    | nil => intro n h; subst h; rfl
    | cons v l ih => intro n h; subst h; simp [chunks, ih l.length rfl]
  rw [key _ _ (by simp [cellsP])]
  simp only [cellsP, packed, List.map_map]
  apply List.map_congr_left
  intro j _
  simp only [Function.comp, w64]
  rw [num_cut s 8 (8 * j)]
end Go.Proofs

/- The program's packing of texts: the run. -/
namespace Go.Proofs
open Go Go.RowKit Go.Am

theorem or_u64 {A B : Nat} (hA : A < 18446744073709551616) (hB : B < 18446744073709551616) : IntKind.u64.wrap ((((A : Int) % 2 ^ IntKind.u64.bits).toNat ||| ((B : Int) % 2 ^ IntKind.u64.bits).toNat : Nat) : Int) = ((A ||| B : Nat) : Int) := by
  have e3 : (2 : Int) ^ IntKind.u64.bits = 18446744073709551616 := rfl
  rw [e3, show ((A : Int) % 18446744073709551616).toNat = A by omega, show ((B : Int) % 18446744073709551616).toNat = B by omega]
  have := Nat.or_lt_two_pow (n := 64) hA hB
  exact wrap_u64 (by omega) (by omega)

theorem packed_ok (s : ByteArray) (hs : s.size ≤ 1000) : PCall Try.prog 90 [.str s] (encW (packed s)) := by
  refine PCall.run' hb90 ok90 (by simp) (pures1 (.str _)) (pure_w64 _) (by simp) ?_
  have e1 : IntKind.i64.wrap ((s.size : Int) + 8) = (s.size : Int) + 8 := wrap_i64 (by omega) (by omega)
  have e2 : IntKind.i64.wrap ((s.size : Int) + 8 - 1) = (s.size : Int) + 8 - 1 := wrap_i64 (by omega) (by omega)
  have e3 : IntKind.i64.wrap (((s.size : Int) + 8 - 1).tdiv 8) = (((s.size + 7) / 8 : Nat) : Int) := by
    rw [Int.tdiv_eq_ediv_of_nonneg (by omega), wrap_i64 (by omega) (by omega)]
    omega
  simp -implicitDefEqProofs [e1, e2, e3, -Int.natCast_ediv]
  refine ⟨_, _, .mkbox 1 8 [.int .u64 0] (.t 9) (.t 9) .i64 .i64 ((s.size + 7) / 8) (by simp) (by simp) (by omega) (by omega), ?_⟩
  generalize hK : (s.size + 7) / 8 = K
  simp -implicitDefEqProofs
  refine run_loop (fun n s1 h => ∃ i : Nat, n = s.size - i ∧ i ≤ s.size ∧ s1 0 = .str s ∧ s1 3 = .msl 0 1 0 K ∧ s1 12 = .int .i64 s.size ∧ s1 13 = .int .i64 i ∧ 0 < h.bn ∧ h.bx 0 = some (cellsP s K i)) ?_ s.size ?_
  · rintro n s1 h ⟨i, hn, hi, h0, h3, h12, h13, hb, hx⟩ ih
    by_cases hlt : i < s.size
    · have q1 : ((i : Int)).tdiv 8 = ((i / 8 : Nat) : Int) := by rw [Int.tdiv_eq_ediv_of_nonneg (by omega)]; omega
      have q2 : ((i : Int)).tmod 8 = ((i % 8 : Nat) : Int) := by rw [Int.tmod_eq_emod_of_nonneg (by omega)]; omega
      have q3 : IntKind.i64.wrap ((i / 8 : Nat) : Int) = ((i / 8 : Nat) : Int) := wrap_i64 (by omega) (by omega)
      have q4 : IntKind.i64.wrap (8 * ((i % 8 : Nat) : Int)) = ((8 * (i % 8) : Nat) : Int) := by rw [wrap_i64 (by omega) (by omega)]; omega
      have q5 : idxOf (.int .i64 ((i / 8 : Nat) : Int)) K = some (i / 8) := idxOf_nat (by omega)
      have q6 : idxOf (.int .i64 (i : Int)) s.size = some i := idxOf_nat hlt
      have q7 : IntKind.u64.wrap (byteAt s i : Int) = (byteAt s i : Int) := wrap_u64 (by omega) (by have := byteAt_lt s i; omega)
      have q8 : shAmt .u64 ((8 * (i % 8) : Nat) : Int) = 8 * (i % 8) := by simp only [shAmt, IntKind.bits, Int.toNat_natCast]; omega
      simp -implicitDefEqProofs [h13, h12, hlt]
      refine run_dreg c90_d6 ?_
      have hB := byteAt_lt s i
      have hp : 2 ^ (8 * (i % 8)) ≤ 72057594037927936 := Nat.pow_le_pow_right (n := 2) (by omega) (show 8 * (i % 8) ≤ 56 by omega)
      have hBp : byteAt s i * 2 ^ (8 * (i % 8)) < 18446744073709551616 := Nat.lt_of_le_of_lt (Nat.mul_le_mul (Nat.le_of_lt_succ hB) hp) (by omega)
      have hA := num_lt s (i % 8) (8 * (i / 8))
      have hA2 : num s (8 * (i / 8)) (i % 8) < 18446744073709551616 := Nat.lt_of_lt_of_le hA (Nat.pow_le_pow_right (n := 256) (by omega) (show i % 8 ≤ 8 by omega))
      have r1 : i / 8 + 1 ≤ (cellsP s K i).length := by simp [cellsP]; omega
      have r2 : List.take 1 (List.drop (i / 8) (cellsP s K i)) = [.int .u64 (num s (8 * (i / 8)) (i % 8) : Int)] := by
        have : i / 8 < (cellsP s K i).length := r1
        rw [List.drop_eq_getElem_cons this]
        simp [cellsP, show min 8 (i - 8 * (i / 8)) = i % 8 by omega]
      have r4 : IntKind.u64.wrap ((byteAt s i : Int) * 2 ^ (8 * (i % 8))) = ((byteAt s i * 2 ^ (8 * (i % 8)) : Nat) : Int) := by
        rw [show (byteAt s i : Int) * 2 ^ (8 * (i % 8)) = ((byteAt s i * 2 ^ (8 * (i % 8)) : Nat) : Int) by simp]
        exact wrap_u64 (by omega) (by omega)
      have r3 : ¬ ((8 * (i % 8) : Nat) : Int) < 0 := by omega
      have hset := cellsP_set s K i (by omega)
      simp -implicitDefEqProofs [h0, h3, h13, hb, hx, q1, q2, q3, q4, q5, q6, q7, q8, hlt, data_byte, -Int.natCast_ediv, -Int.natCast_emod, -idxOf, -Int.natCast_mul, r1, r2, r3, r4, or_u64 hA2 hBp, wrap_i64 (x := (i : Int) + 1) (by omega) (by omega)]
      refine ih (s.size - (i + 1)) _ _ (by omega) ⟨i + 1, rfl, by omega, by simp [h0], by simp [h3], by simp [h12], by simp, by simpa using hb, ?_⟩
      rw [← hset]
      simp
    · have : i = s.size := by omega
      subst this
      simp -implicitDefEqProofs [h13, h12, h3]
      have := Gh.msl (z := 1) (n := K) hb hx (by omega) (by simp [cellsP])
      rw [← hK, packed_cells] at this
      exact ⟨_, by rw [← hK]; exact this⟩
  · refine ⟨0, by simp, by omega, by simp, by simp [H.nil], by simp, by simp, by simp, ?_⟩
    have : cellsP s K 0 = List.replicate K (.int .u64 0) := by
      rw [List.eq_replicate_iff]
      refine ⟨by simp [cellsP], fun v hv => ?_⟩
      simp only [cellsP, List.mem_map] at hv
      obtain ⟨j, _, rfl⟩ := hv
      simp [num]
    simp [H.nil, this]
end Go.Proofs

/- The writer of texts; copies; what a writer hands back. -/
namespace Go.Proofs
open Go Go.RowKit Go.Am

def cut64 (s : ByteArray) : ByteArray := s.extract 0 (min s.size 64)
theorem cut64_size (s : ByteArray) : (cut64 s).size = min s.size 64 := by simp [cut64]

theorem packed_len (s : ByteArray) : (packed s).length = (s.size + 7) / 8 := by simp [packed]

def textW (s : ByteArray) : List Nat := (cut64 s).size :: packed (cut64 s)

theorem clone_ok (us : List Nat) (hl : us.length ≤ 1000000) : PCall Try.prog 118 [encW us] (encW us) := by
  refine clone_gen (n := 1) (b := 8) (z := [.int .u64 0]) hb118 ok118 (us.map w64) (w64_len us) (pure_w64 us) (by simp) (by simp; omega)

theorem done_ok {h : H} {b : Nat} {t : Tok} {ws : List Nat} (hw : WB h b t ws) (hl : ws.length ≤ 1000000) : SCall Try.prog 72 [.ptr b 0] h (encW ws) h := by
  refine CallP.sure (CallP.run hb72 ok72 (by simp) ?_)
  simp -implicitDefEqProofs [hw.bx, hw.lt]
  refine callQ_p (clone_ok ws hl) (by simp) ?_
  try simp -implicitDefEqProofs
end Go.Proofs

/- Items: what is written of them, by the program and by the document. -/
namespace Go.Proofs
open Go Go.RowKit Go.Am

structure Item where
  kind : Int
  n : Int
  most : Int
  x : Int
  s : ByteArray
  l : List Nat

def inI (x : Int) : Prop := -9223372036854775808 ≤ x ∧ x ≤ 9223372036854775807
def Item.ok (x : Item) : Prop := inI x.n ∧ inI x.x ∧ x.s.size ≤ 1000 ∧ x.l.length ≤ 1000
def encItm (x : Item) : List AV := [.int .i64 x.kind, .int .i64 x.n, .int .i64 x.most, .int .i64 x.x, .str x.s, encW x.l]

def writeW (x : Item) : List Nat :=
  if x.kind = 0 then [x.n.toNat] else if x.kind = 1 then [signed x.x] else if x.kind = 2 then [if x.n = 1 then 1 else 0] else if x.kind = 3 then textW x.s else x.l.length :: x.l

theorem WB.alloc {h : H} {b : Nat} {t : Tok} {ws : List Nat} (hw : WB h b t ws) (cs : List AV) : WB (h.alloc cs) b t ws :=
  ⟨by have := hw.lt; simp; omega, by have := hw.lt; have h2 : b ≠ h.bn := by omega
                                     simp [h2, hw.bx], by simpa using hw.live⟩
theorem WTo.alloc {h : H} {b : Nat} {t : Tok} {ws : List Nat} {h' : H} {t' : Tok} {cs : List AV} (q : WTo (h.alloc cs) b t ws h' t') : WTo h b t ws h' t' :=
  ⟨q.wb, q.next, (HF.alloc h cs _ _).trans q.keep⟩

/-- A slice of words that grows. -/
structure STo (h : H) (t : Tok) (ws : List Nat) (r : AV) (h' : H) (t' : Tok) : Prop where
  val : r = .sl t' (ws.map w64)
  live : TLive h' t' ws.length
  next : TNext h t t'
  keep : HF h h' (fun _ => False) (TOwn t)

theorem refWrite_ok {h : H} {t : Tok} {ws : List Nat} (ht : TLive h t ws.length) (x : Item) (hx : x.ok) (hl : ws.length ≤ 900000) : CallP Try.prog 124 [.sl t (ws.map w64), .agg (encItm x)] h fun r h' => ∃ t', STo h t (ws ++ writeW x) r h' t' := by
  refine CallP.run hb124 ok124 (by simp) ?_
  obtain ⟨⟨n1, n2⟩, ⟨x1, x2⟩, s1, l1⟩ := hx
  have hta : ∀ cs, TLive (h.alloc cs) t ws.length := fun cs => by simpa using ht
  have fin : ∀ {cs : List AV} {us : List Nat} {t' : Tok} {h' : H}, TLive h' t' (ws ++ us).length → TNext (h.alloc cs) t t' → HF (h.alloc cs) h' (fun _ => False) (TOwn t) → STo h t (ws ++ us) (.sl t' ((ws ++ us).map w64)) h' t' := fun q1 q2 q3 => ⟨rfl, q1, q2, (HF.alloc h _ _ _).trans q3⟩
  simp -implicitDefEqProofs [encItm]
  by_cases k0 : x.kind = 0
  · simp -implicitDefEqProofs [k0]
    by_cases hn : x.n < 0
    · simp -implicitDefEqProofs [hn]
      refine appQ_w ws [0] rfl (by simp [w64]) (hta _) (by simp; omega) fun t' h' q1 q2 q3 q4 => ?_
      try simp -implicitDefEqProofs
      exact ⟨t', by simpa [writeW, k0, show x.n.toNat = 0 by omega] using fin q1 q2 q3⟩
    · have hw : IntKind.u64.wrap x.n = x.n := wrap_u64 (by omega) (by omega)
      simp -implicitDefEqProofs [hn, hw]
      refine appQ_w ws [x.n.toNat] rfl (by simp [w64]; omega) (hta _) (by simp; omega) fun t' h' q1 q2 q3 q4 => ?_
      try simp -implicitDefEqProofs
      exact ⟨t', by simpa [writeW, k0] using fin q1 q2 q3⟩
  by_cases k1 : x.kind = 1
  · simp -implicitDefEqProofs [k1]
    refine callQ_p (refSigned_ok x.x x1 x2) (by simp) ?_
    try simp -implicitDefEqProofs
    refine appQ_w ws [signed x.x] rfl (by simp [w64]) (hta _) (by simp; omega) fun t' h' q1 q2 q3 q4 => ?_
    try simp -implicitDefEqProofs
    exact ⟨t', by simpa [writeW, k1] using fin q1 q2 q3⟩
  by_cases k2 : x.kind = 2
  · simp -implicitDefEqProofs [k2]
    by_cases hn : x.n = 1
    · simp -implicitDefEqProofs [hn]
      refine appQ_w ws [1] rfl (by simp [w64]) (hta _) (by simp; omega) fun t' h' q1 q2 q3 q4 => ?_
      try simp -implicitDefEqProofs
      exact ⟨t', by simpa [writeW, k2, hn] using fin q1 q2 q3⟩
    · simp -implicitDefEqProofs [hn]
      refine appQ_w ws [0] rfl (by simp [w64]) (hta _) (by simp; omega) fun t' h' q1 q2 q3 q4 => ?_
      try simp -implicitDefEqProofs
      exact ⟨t', by simpa [writeW, k2, hn] using fin q1 q2 q3⟩
  by_cases k3 : x.kind = 3
  · have hfin3 : ∀ (h1 : H) (s2 : Slots), h1 = h1 → True := fun _ _ _ => trivial
    have hpl := packed_len (cut64 x.s)
    have hc := cut64_size x.s
    simp -implicitDefEqProofs [k3]
    by_cases hn : 64 < x.s.size
    · have e2 : bndOf (some (.int .i64 64)) x.s.size x.s.size = some 64 := by
        simp only [bndOf]
        rw [if_pos (by omega)]
        simp
      have e3 : bndOf none 64 0 = some 0 := rfl
      have e4 : x.s.extract 0 64 = cut64 x.s := by simp only [cut64]; rw [show min x.s.size 64 = 64 by omega]
      have e5 : (cut64 x.s).size = 64 := by omega
      have e6 : IntKind.u64.wrap 64 = 64 := wrap_u64 (by omega) (by omega)
      have hn' : (64 : Int) < (x.s.size : Int) := by omega
      simp -implicitDefEqProofs [hn', e2, e3, e4, e5, e6, -bndOf]
      refine appQ_w ws [64] rfl (by simp [w64]) (hta _) (by simp; omega) fun t' h' q1 q2 q3 q4 => ?_
      try simp -implicitDefEqProofs
      refine callQ_p (refPacked_ok (cut64 x.s) (by omega)) (by simp) ?_
      try simp -implicitDefEqProofs
      refine appQ_w (ws ++ [64]) (packed (cut64 x.s)) (by simp) rfl q1 (by simp; omega) fun t'' h'' r1 r2 r3 r4 => ?_
      try simp -implicitDefEqProofs
      refine ⟨t'', ?_⟩
      have hf := q3.trans' r3 (fun _ _ h => h) (TOwn.next (B := fun _ => False) (T := fun _ => False) (h1 := h') q2)
      have := fin (us := 64 :: packed (cut64 x.s)) (by simpa using r1) (q2.trans q3 r2) hf
      simpa [writeW, k3, textW, e5] using this
    · have e4 : x.s = cut64 x.s := by simp only [cut64]; rw [show min x.s.size 64 = x.s.size by omega, ByteArray.extract_zero_size]
      have e6 : IntKind.u64.wrap (x.s.size : Int) = (x.s.size : Int) := wrap_u64 (by omega) (by omega)
      have hn' : ¬ (64 : Int) < (x.s.size : Int) := by omega
      simp -implicitDefEqProofs [hn', e6]
      refine appQ_w ws [x.s.size] rfl (by simp [w64]) (hta _) (by simp; omega) fun t' h' q1 q2 q3 q4 => ?_
      try simp -implicitDefEqProofs
      refine callQ_p (refPacked_ok x.s (by omega)) (by simp) ?_
      try simp -implicitDefEqProofs
      have hpl' := packed_len x.s
      refine appQ_w (ws ++ [x.s.size]) (packed x.s) (by simp) rfl q1 (by simp; omega) fun t'' h'' r1 r2 r3 r4 => ?_
      try simp -implicitDefEqProofs
      refine ⟨t'', ?_⟩
      have hf := q3.trans' r3 (fun _ _ h => h) (TOwn.next (B := fun _ => False) (T := fun _ => False) (h1 := h') q2)
      have := fin (us := x.s.size :: packed x.s) (by simpa using r1) (q2.trans q3 r2) hf
      simpa [writeW, k3, textW, ← e4] using this
  · simp -implicitDefEqProofs [k0, k1, k2, k3]
    refine run_dreg c124_d18 ?_
    have e6 : IntKind.u64.wrap (x.l.length : Int) = (x.l.length : Int) := wrap_u64 (by omega) (by omega)
    simp -implicitDefEqProofs [e6]
    refine appQ_w ws [x.l.length] rfl (by simp [w64]) (hta _) (by simp; omega) fun t' h' q1 q2 q3 q4 => ?_
    have hbx := q3.bx h.bn (by simp) (fun h => h)
    have hbn : h'.bn = h.bn + 1 := by rw [q4]; rfl
    simp -implicitDefEqProofs at hbx
    simp -implicitDefEqProofs [hbx, hbn]
    refine appQ_w (ws ++ [x.l.length]) x.l (by simp) rfl q1 (by simp; omega) fun t'' h'' r1 r2 r3 r4 => ?_
    have hbx2 := r3.bx h.bn (by omega) (fun h => h)
    rw [hbx] at hbx2
    have hbn2 : h''.bn = h.bn + 1 := by rw [r4, hbn]
    simp -implicitDefEqProofs [hbx, hbn, hbx2, hbn2]
    refine ⟨t'', ?_⟩
    have hf := q3.trans' r3 (fun _ _ h => h) (TOwn.next (B := fun _ => False) (T := fun _ => False) (h1 := h') q2)
    have := fin (us := x.l.length :: x.l) (by simpa using r1) (q2.trans q3 r2) hf
    simpa [writeW, k0, k1, k2, k3] using this
end Go.Proofs

/- What the statements about codes ask first: no more items than are looked at; the document's examples. -/
namespace Go.Proofs
open Go Go.RowKit Go.Am

def encIs (l : List Item) : AV := .sl .no (l.map encItm)

def greatI (x : Item) : Bool := decide (100 < x.l.length) || decide (200 < x.s.size) || decide (x.kind < 0) || decide (4 < x.kind)
def great (l : List Item) : Bool := l.any greatI || decide (60 < l.length)

theorem pure_encI (x : Item) : ∀ v ∈ encItm x, PureV v := by
  simp only [encItm]
  exact pures_cons (.int _ _) (pures_cons (.int _ _) (pures_cons (.int _ _) (pures_cons (.int _ _) (pures_cons (.str _) (pures1 (pure_w64 _))))))
theorem pure_encIs (l : List Item) : PureV (encIs l) := .sl (fun i h => by cases h) fun e he v hv => by
  obtain ⟨x, _, rfl⟩ := List.mem_map.1 he
  exact pure_encI x v hv
@[simp] theorem wk_encI (x : Item) : List.map wk (encItm x) = encItm x := by simp [encItm]
@[simp] theorem wk_encI' : List.map wk ∘ encItm = encItm := by funext x; simp

theorem WB.new (h : H) : WB (h.alloc [.sl .full []]) h.bn .full [] := ⟨by simp, by simp, trivial⟩

end Go.Proofs

/- The statement CodesWrite: what its function hands back. -/
namespace Go.Proofs
open Go Go.RowKit Go.Am

theorem textW_len (s : ByteArray) : (textW s).length ≤ 10 := by
  have h1 := packed_len (cut64 s)
  have h2 := cut64_size s
  simp only [textW, List.length_cons]
  omega
theorem writeW_len (x : Item) (h : x.l.length ≤ 100) : (writeW x).length ≤ 102 := by
  have ht := textW_len x.s
  unfold writeW
  split
  · simp
  split
  · simp
  split
  · simp
  split
  · omega
  · simp; omega

theorem not_great {l : List Item} (h : great l = false) : l.length ≤ 60 ∧ ∀ x ∈ l, x.l.length ≤ 100 ∧ x.s.size ≤ 200 := by
  simp only [great, Bool.or_eq_false_iff, decide_eq_false_iff_not, List.any_eq_false] at h
  refine ⟨by omega, fun x hx => ?_⟩
  have := h.1 x hx
  simp only [greatI, Bool.or_eq_true, decide_eq_true_eq, not_or] at this
  omega

def writeAll (l : List Item) : List Nat := l.flatMap writeW
theorem writeAll_len : ∀ (l : List Item), (∀ x ∈ l, x.l.length ≤ 100) → (writeAll l).length ≤ 102 * l.length
  | [], _ => by simp [writeAll]
  | x :: l, h => by
    have h1 := writeW_len x (h x (List.mem_cons_self ..))
    have h2 := writeAll_len l fun y hy => h y (List.mem_cons_of_mem _ hy)
    simp only [writeAll, List.flatMap_cons, List.length_append, List.length_cons] at h2 ⊢
    omega

end Go.Proofs

/- Reading of codes, as lists: what is read of words; a text's bytes in words. -/
namespace Go.Proofs
open Go Go.RowKit Go.Am

def numF (f : Nat → Nat) (a : Nat) : Nat → Nat
  | 0 => 0
  | k + 1 => f a + 256 * numF f (a + 1) k

theorem num_numF (s : ByteArray) : ∀ (k a : Nat), num s a k = numF (byteAt s) a k
  | 0, _ => rfl
  | k + 1, a => by simp only [num, numF, num_numF s k (a + 1)]

theorem numF_congr {f g : Nat → Nat} : ∀ {k a : Nat}, (∀ j, a ≤ j → j < a + k → f j = g j) → numF f a k = numF g a k
  | 0, _, _ => rfl
  | k + 1, a, h => by
    simp only [numF]
    rw [h a (by omega) (by omega), numF_congr (k := k) (a := a + 1) fun j h1 h2 => h j (by omega) (by omega)]

theorem numF_inj {f g : Nat → Nat} (hf : ∀ j, f j < 256) (hg : ∀ j, g j < 256) : ∀ {k a : Nat}, numF f a k = numF g a k → ∀ j, a ≤ j → j < a + k → f j = g j
  | 0, a, _, j, h1, h2 => by omega
  | k + 1, a, h, j, h1, h2 => by
    simp only [numF] at h
    have hfa := hf a
    have hga := hg a
    by_cases hj : j = a
    · subst hj; omega
    · exact numF_inj hf hg (k := k) (a := a + 1) (by omega) j (by omega) (by omega)

theorem numF_digit {f : Nat → Nat} (hf : ∀ j, f j < 256) : ∀ {i k a : Nat}, i < k → numF f a k / 256 ^ i % 256 = f (a + i)
  | _, 0, _, h => by omega
  | 0, k + 1, a, _ => by
    have := hf a
    simp only [numF, Nat.pow_zero, Nat.div_one, Nat.add_zero]
    omega
  | i + 1, k + 1, a, h => by
    have h1 := hf a
    have e : numF f a (k + 1) / 256 ^ (i + 1) = numF f (a + 1) k / 256 ^ i := by
      rw [Nat.pow_succ, Nat.mul_comm, ← Nat.div_div_eq_div_mul]
      congr 1
      simp only [numF]
      omega
    rw [e, numF_digit hf (i := i) (k := k) (a := a + 1) (by omega)]
    congr 1
    omega

theorem numF_whole {f : Nat → Nat} : ∀ {k w a : Nat}, w < 256 ^ k → (∀ j, j < k → f (a + j) = w / 256 ^ j % 256) → numF f a k = w
  | 0, w, _, h, _ => by simp only [Nat.pow_zero] at h; simp only [numF]; omega
  | k + 1, w, a, h, hf => by
    have h0 := hf 0 (by omega)
    have ih := numF_whole (f := f) (k := k) (w := w / 256) (a := a + 1) (by rw [Nat.pow_succ] at h; omega) fun j hj => by
      have := hf (j + 1) (by omega)
      rw [show a + 1 + j = a + (j + 1) by omega, this, Nat.pow_succ, Nat.mul_comm, ← Nat.div_div_eq_div_mul]
    simp only [Nat.add_zero, Nat.pow_zero, Nat.div_one] at h0
    simp only [numF, ih, h0]
    omega

/-- The byte at a place of words. -/
def wbyte (ws : List Nat) (j : Nat) : Nat := ws.getD (j / 8) 0 / 256 ^ (j % 8) % 256
theorem wbyte_lt (ws : List Nat) (j : Nat) : wbyte ws j < 256 := Nat.mod_lt _ (by omega)
def unpack (n : Nat) (ws : List Nat) : ByteArray := ⟨((List.range n).map fun j => UInt8.ofNat (wbyte ws j)).toArray⟩
theorem unpack_size (n : Nat) (ws : List Nat) : (unpack n ws).size = n := by
  show (unpack n ws).data.size = n
  simp [unpack]
theorem byteAt_unpack (n : Nat) (ws : List Nat) (j : Nat) : byteAt (unpack n ws) j = if j < n then wbyte ws j else 0 := by
  by_cases h : j < n
  · have h' : (unpack n ws).data[j]? = some (UInt8.ofNat (wbyte ws j)) := by simp [unpack, h]
    have := wbyte_lt ws j
    simp only [byteAt, h', if_pos h, UInt8.toNat_ofNat']
    omega
  · rw [byteAt_out (by rw [unpack_size]; exact h), if_neg h]

theorem wbyte_word {ws : List Nat} (hw : ∀ w ∈ ws, w < 18446744073709551616) (i : Nat) : numF (wbyte ws) (8 * i) 8 = ws.getD i 0 := by
  refine numF_whole (k := 8) ?_ fun j hj => ?_
  · by_cases h : i < ws.length
    · rw [List.getD_eq_getElem?_getD, List.getElem?_eq_getElem h]
      exact hw _ (List.getElem_mem h)
    · rw [List.getD_eq_getElem?_getD, List.getElem?_eq_none (by omega)]
      simp
  · unfold wbyte
    rw [show (8 * i + j) / 8 = i by omega, show (8 * i + j) % 8 = j by omega]

/-- Words that are a text's: what is behind its bytes is 0. -/
theorem packed_unpack {n : Nat} {ws : List Nat} (hl : ws.length = (n + 7) / 8) (hw : ∀ w ∈ ws, w < 18446744073709551616) : packed (unpack n ws) = ws ↔ ∀ j, n ≤ j → j < 8 * ws.length → wbyte ws j = 0 := by
  have hlen : (packed (unpack n ws)).length = ws.length := by rw [packed_len, unpack_size, hl]
  have hat : ∀ i, i < ws.length → (packed (unpack n ws)).getD i 0 = numF (byteAt (unpack n ws)) (8 * i) 8 := fun i hi => by
    rw [List.getD_eq_getElem?_getD, packed]
    rw [unpack_size, ← hl]
    simp only [List.getElem?_map, List.getElem?_range hi, Option.map_some, Option.getD_some, num_numF]
  constructor
  · intro h j h1 h2
    have e := hat (j / 8) (by omega)
    rw [h, ← wbyte_word hw] at e
    have := numF_inj (wbyte_lt ws) (fun j => byteAt_lt _ j) e j (by omega) (by omega)
    rw [this, byteAt_unpack, if_neg (by omega)]
  · intro h
    refine List.ext_getElem hlen fun i h1 h2 => ?_
    have e := hat i h2
    rw [List.getD_eq_getElem?_getD, List.getElem?_eq_getElem h1] at e
    have e2 := wbyte_word hw i
    rw [List.getD_eq_getElem?_getD, List.getElem?_eq_getElem h2] at e2
    simp only [Option.getD_some] at e e2
    rw [e, ← e2]
    refine numF_congr fun j h3 h4 => ?_
    rw [byteAt_unpack]
    split
    · rfl
    · exact (h j (by omega) (by omega)).symm

theorem bytes_ext {s t : ByteArray} (hs : s.size = t.size) (h : ∀ j, j < s.size → byteAt s j = byteAt t j) : s = t := by
  have : s.data = t.data := by
    refine Array.ext hs fun j h1 h2 => ?_
    have := h j h1
    simp only [byteAt, Array.getElem?_eq_getElem h1, Array.getElem?_eq_getElem h2] at this
    exact UInt8.toNat_inj.1 this
  cases s; cases t; simp_all

theorem wbyte_packed (s : ByteArray) {j : Nat} (h : j < 8 * ((s.size + 7) / 8)) : wbyte (packed s) j = byteAt s j := by
  have e : (packed s).getD (j / 8) 0 = numF (byteAt s) (8 * (j / 8)) 8 := by
    rw [List.getD_eq_getElem?_getD, packed]
    have hi : j / 8 < (s.size + 7) / 8 := by omega
    simp only [List.getElem?_map, List.getElem?_range hi, Option.map_some, Option.getD_some, num_numF]
  unfold wbyte
  rw [e, numF_digit (byteAt_lt s) (by omega)]
  congr 1
  omega

theorem unpack_packed (s : ByteArray) : unpack s.size (packed s) = s := by
  refine bytes_ext (unpack_size _ _) fun j hj => ?_
  rw [unpack_size] at hj
  rw [byteAt_unpack, if_pos hj, wbyte_packed s (by omega)]

theorem packed_lt (s : ByteArray) : ∀ w ∈ packed s, w < 18446744073709551616 := fun w hw => by
  obtain ⟨i, _, rfl⟩ := List.mem_map.1 hw
  exact num8_lt s _

/-! ### What is read -/
def backI (w : Nat) : Int := if w % 2 = 0 then ((w / 2 : Nat) : Int) else -((w / 2 : Nat) : Int) - 1
theorem backI_signed (x : Int) : backI (signed x) = x := by
  unfold backI signed
  split <;> split <;> omega
theorem backI_in {w : Nat} (h : w < 18446744073709551616) : -9223372036854775808 ≤ backI w ∧ backI w ≤ 9223372036854775807 := by
  unfold backI
  split <;> omega
theorem signed_lt {x : Int} (h1 : -9223372036854775808 ≤ x) (h2 : x ≤ 9223372036854775807) : signed x < 18446744073709551616 := by
  unfold signed
  split <;> omega

/-- What is read of words: a value, and what is left. -/
abbrev Rd (α : Type) := List Nat → Option (α × List Nat)
def rdCount (most : Int) : Rd Int
  | [] => none
  | w :: l => if 0 ≤ most ∧ (w : Int) ≤ most then some ((w : Int), l) else none
def rdSigned : Rd Int
  | [] => none
  | w :: l => some (backI w, l)
def rdFlag : Rd Bool := fun l => (rdCount 1 l).map fun p => (decide (p.1 = 1), p.2)
def rdTake (n : Nat) : Rd (List Nat) := fun l => if n ≤ l.length then some (l.take n, l.drop n) else none
def rdWords (most : Int) : Rd (List Nat) := fun l => (rdCount most l).bind fun p => rdTake p.1.toNat p.2
def rdText : Rd ByteArray := fun l => (rdCount 64 l).bind fun p => (rdTake ((p.1.toNat + 7) / 8) p.2).bind fun q => if packed (unpack p.1.toNat q.1) = q.1 then some (unpack p.1.toNat q.1, q.2) else none

theorem rdText_write (s : ByteArray) (l : List Nat) : rdText (textW s ++ l) = some (cut64 s, l) := by
  have h := cut64_size s
  have hl := packed_len (cut64 s)
  have e1 : rdCount 64 (textW s ++ l) = some (((cut64 s).size : Int), packed (cut64 s) ++ l) := by
    simp only [textW, rdCount, List.cons_append]
    rw [if_pos (by omega)]
  simp only [rdText, e1, Option.bind_some, Int.toNat_natCast]
  have e2 : rdTake (((cut64 s).size + 7) / 8) (packed (cut64 s) ++ l) = some (packed (cut64 s), l) := by
    unfold rdTake
    rw [if_pos (by rw [List.length_append, hl]; omega), ← hl, List.take_left, List.drop_left]
  rw [e2]
  simp only [Option.bind_some, unpack_packed, if_true]
end Go.Proofs
