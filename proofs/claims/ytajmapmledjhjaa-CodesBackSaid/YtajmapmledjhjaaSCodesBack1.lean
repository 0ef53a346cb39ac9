/- What the functions that the statement reaches do: their contracts; and what follows of it. -/
import Derived.Test.YtajmapmledjhjaaCCodesBack
import Derived.Test.YtajmapmledjhjaaK4
import Derived.Test.YtajmapmledjhjaaK3
/- What the functions of the statements about codes do. -/
namespace Go.Proofs
open Go Go.RowKit Go.Am

def w64 (n : Nat) : List AV := [.int .u64 n]
@[simp] def encW (l : List Nat) : AV := .sl .no (l.map w64)
@[simp] theorem wk_w64 : List.map wk ∘ w64 = w64 := by funext n; simp [w64]

@[simp] theorem wk_w64' (n : Nat) : List.map wk (w64 n) = w64 n := by simp [w64]

theorem pure_w64 (l : List Nat) : PureV (encW l) := .sl (fun i h => by cases h) fun e he v hv => by
  obtain ⟨n, _, rfl⟩ := List.mem_map.1 he
  simp -implicitDefEqProofs only [w64, List.mem_singleton] at hv
  subst hv
  exact .int _ _

theorem pures_nil : ∀ v ∈ ([] : List AV), PureV v := fun v h => by cases h
theorem pures_cons {v : AV} {l : List AV} (h : PureV v) (hl : ∀ v ∈ l, PureV v) : ∀ u ∈ v :: l, PureV u := fun u hu => by
  rcases List.mem_cons.1 hu with rfl | hu
  · exact h
  · exact hl u hu

theorem words_ok (a b : List Nat) (ha : a.length ≤ 9223372036854775807) (hb : b.length ≤ 9223372036854775807) : PCall Try.prog 18 [encW a, encW b] (.bool (decide (a = b))) := by
  refine PCall.run hb18 ok18 (by simp) (pures_cons (pure_w64 a) (pures_cons (pure_w64 b) pures_nil)) (.bool _) ?_
  simp -implicitDefEqProofs
  by_cases hl : a.length = b.length
  · simp -implicitDefEqProofs [hl]
    refine run_loop (fun n s h => ∃ j, n = a.length - j ∧ j ≤ a.length ∧ s 0 = encW a ∧ s 1 = encW b ∧ s 5 = .int .i64 j ∧ ∀ i, i < j → a[i]? = b[i]?) ?_ a.length ?_
    · rintro n s h ⟨j, hn, hj, h0, h1, h5, hall⟩ ih
      simp -implicitDefEqProofs [h0, h1, h5]
      by_cases hlt : j < a.length
      · simp -implicitDefEqProofs [hlt]
        refine run_dreg c18_d6 ?_
        have hjb : j < b.length := by omega
        simp -implicitDefEqProofs [h0, h1, h5, idxOf_nat hlt, idxOf_nat hjb, hlt, hjb, w64]
        by_cases hab : a[j] = b[j]
        · simp -implicitDefEqProofs [hab, h5, wrap_i64 (x := (j : Int) + 1) (by omega) (by omega)]
          refine ih (a.length - (j + 1)) _ _ (by omega) ⟨j + 1, rfl, by omega, by simp [h0], by simp [h1], by simp, fun i hi => ?_⟩
          by_cases hij : i = j
          · subst hij; simp [hlt, hjb, hab]
          · exact hall i (by omega)
        · have : a ≠ b := fun h => hab (by subst h; rfl)
          simp -implicitDefEqProofs [hab, this]
      · simp -implicitDefEqProofs [hlt]
        have : a = b := by
          apply List.ext_getElem? 
          intro i
          by_cases hi : i < j
          · exact hall i hi
          · rw [List.getElem?_eq_none (by omega), List.getElem?_eq_none (by omega)]
        simp -implicitDefEqProofs [this]
    · exact ⟨0, by simp⟩
  · have hne : a ≠ b := fun h => hl (h ▸ rfl)
    simp -implicitDefEqProofs [hl, hne]
end Go.Proofs

/- What the writer of codes does. -/
namespace Go.Proofs
open Go Go.RowKit Go.Am

structure WB (h : H) (b : Nat) (t : Tok) (ws : List Nat) : Prop where
  lt : b < h.bn
  bx : h.bx b = some [.sl t (ws.map w64)]
  live : TLive h t ws.length

structure WTo (h : H) (b : Nat) (t : Tok) (ws : List Nat) (h' : H) (t' : Tok) : Prop where
  wb : WB h' b t' ws
  next : TNext h t t'
  keep : HF h h' (· = b) (TOwn t)

def WAdd (f : FuncId) (args : List AV) (h : H) (b : Nat) (t : Tok) (ws : List Nat) : Prop := CallP Try.prog f args h fun _ h' => ∃ t', WTo h b t ws h' t'

theorem w64_len (us : List Nat) : ∀ e ∈ us.map w64, e.length = 1 := fun e he => by
  obtain ⟨n, _, rfl⟩ := List.mem_map.1 he
  rfl

theorem src_w64 (h : H) (us : List Nat) (t : Tok) : srcA h 1 (.sl t (us.map w64)) = some (us.map w64) := by
  simp only [srcA]
  rw [if_pos (w64_len us)]

theorem appQ_w {h : H} {t t2 : Tok} {es es2 : List (List AV)} (ws us : List Nat) {K : AV → H → Prop} (e1 : es = ws.map w64) (e2 : es2 = us.map w64) (ht : TLive h t ws.length) (hl : ws.length + us.length ≤ 1000000)
    (hk : ∀ t' h', TLive h' t' (ws ++ us).length → TNext h t t' → HF h h' (fun _ => False) (TOwn t) → h'.bn = h.bn → K (.sl t' ((ws ++ us).map w64)) h') : appQ h 1 8 (.sl t es) (.sl t2 es2) K := by
  subst e1 e2
  refine appQ_tok (es2 := us.map w64) (by simpa using ht) (w64_len ws) (src_w64 h us _) (by simp only [List.length_map]; omega) fun t' h' q1 q2 q3 q4 => ?_
  rw [← List.map_append]
  exact hk t' h' (by simpa using q1) q2 q3 q4

theorem put_ok {h : H} {b : Nat} {t : Tok} {ws us : List Nat} (hw : WB h b t ws) (hl : ws.length + us.length ≤ 1000000) : WAdd 101 [.ptr b 0, encW us] h b t (ws ++ us) := by
  refine CallP.run hb101 ok101 (by simp) ?_
  simp -implicitDefEqProofs [hw.bx, hw.lt]
  refine appQ_tok (es2 := us.map w64) (by simpa using hw.live) (w64_len ws) (src_w64 h us _) (by simp only [List.length_map]; omega) fun t' h' q1 q2 q3 q4 => ?_
  have hb' : h'.bx b = some [.sl t (ws.map w64)] := (q3.bx b hw.lt (fun h => h)).trans hw.bx
  simp -implicitDefEqProofs [hb', q4, hw.lt]
  exact ⟨t', ⟨by simp [q4, hw.lt], by simp, by simpa using q1⟩, q2, (q3.mono (fun _ _ h => h.elim) (fun _ _ h => h)).trans (HF.set _ rfl)⟩

theorem pures1 {v : AV} (h : PureV v) : ∀ u ∈ [v], PureV u := pures_cons h pures_nil

/-- A number with a sign, as a word. -/
def signed (x : Int) : Nat := if 0 ≤ x then (2 * x).toNat else (2 * (-(x + 1)) + 1).toNat

theorem refSigned_ok (x : Int) (h1 : -9223372036854775808 ≤ x) (h2 : x ≤ 9223372036854775807) : PCall Try.prog 59 [.int .i64 x] (.int .u64 (signed x)) := by
  refine PCall.run hb59 ok59 (by simp) (pures1 (.int _ _)) (.int _ _) ?_
  simp -implicitDefEqProofs
  by_cases hx : 0 ≤ x
  · simp -implicitDefEqProofs [hx, signed, wrap_u64 (x := x) (by omega) (by omega), wrap_u64 (x := 2 * x) (by omega) (by omega)]
    omega
  · simp -implicitDefEqProofs [hx, signed, wrap_i64 (x := x + 1) (by omega) (by omega), wrap_i64 (x := -(x + 1)) (by omega) (by omega), wrap_u64 (x := -(x + 1)) (by omega) (by omega), wrap_u64 (x := 2 * -(x + 1)) (by omega) (by omega)]
    rw [wrap_u64 (by omega) (by omega)]
    omega

theorem callW {f : FuncId} {first caps args as' : List AV} {h : H} {b : Nat} {t : Tok} {ws : List Nat} {K : AV → H → Prop} (hc : WAdd f as' h b t ws) (ha : (first ++ args ++ caps).map wk = as') (hk : ∀ r h' t', WTo h b t ws h' t' → K r h') : callQ Try.prog (.fn f first caps) args h K := callQ_c hc ha fun r h1 ⟨t', q⟩ => hk r h1 t' q

theorem count_ok {h : H} {b : Nat} {t : Tok} {ws : List Nat} (hw : WB h b t ws) (n : Int) (hn : n ≤ 9223372036854775807) (hl : ws.length + 1 ≤ 1000000) : WAdd 56 [.ptr b 0, .int .i64 n] h b t (ws ++ [n.toNat]) := by
  refine CallP.run hb56 ok56 (by simp) ?_
  have e : IntKind.u64.wrap (if n < 0 then 0 else n) = (n.toNat : Int) := by
    by_cases h0 : n < 0
    · rw [if_pos h0, wrap_u64 (by omega) (by omega)]; omega
    · rw [if_neg h0, wrap_u64 (by omega) (by omega)]; omega
  simp -implicitDefEqProofs [e]
  refine callW (put_ok hw (us := [n.toNat]) (by simpa using hl)) (by simp [w64]) fun r h' t' q => ?_
  try simp -implicitDefEqProofs
  exact ⟨t', q⟩

theorem xor_ones (a : Nat) (h : a < 18446744073709551616) : a ^^^ 18446744073709551615 = 18446744073709551615 - a := by
  have e : (BitVec.ofNat 64 a ^^^ BitVec.allOnes 64).toNat = 18446744073709551615 - a := by
    rw [BitVec.xor_allOnes, BitVec.toNat_not, BitVec.toNat_ofNat]
    omega
  rw [← e, BitVec.toNat_xor, BitVec.toNat_ofNat, BitVec.toNat_allOnes, Nat.mod_eq_of_lt h]

theorem signed_bits (x : Int) (h1 : -9223372036854775808 ≤ x) (h2 : x ≤ 9223372036854775807) : IntKind.u64.wrap
      ((((IntKind.u64.wrap (IntKind.i64.wrap (x * 2 ^ shAmt IntKind.i64 1)) % 2 ^ IntKind.u64.bits).toNat ^^^
          (IntKind.u64.wrap (x.fdiv (2 ^ shAmt IntKind.i64 63)) % 2 ^ IntKind.u64.bits).toNat) : Nat) : Int) = (signed x : Int) := by
  have e1 : (2 : Int) ^ shAmt IntKind.i64 1 = 2 := rfl
  have e2 : (2 : Int) ^ shAmt IntKind.i64 63 = 9223372036854775808 := rfl
  have e3 : (2 : Int) ^ IntKind.u64.bits = 18446744073709551616 := rfl
  have wu : ∀ y : Int, IntKind.u64.wrap y = y % 18446744073709551616 := fun y => by simp [IntKind.wrap, IntKind.bits, IntKind.signed]
  have wi : ∀ y : Int, IntKind.i64.wrap y = (if 9223372036854775808 ≤ y % 18446744073709551616 then y % 18446744073709551616 - 18446744073709551616 else y % 18446744073709551616) := fun y => by simp [IntKind.wrap, IntKind.bits, IntKind.signed]
  rw [e1, e2, e3]
  have e4 : IntKind.u64.wrap (IntKind.i64.wrap (x * 2)) % 18446744073709551616 = (x * 2) % 18446744073709551616 := by
    rw [wu, wi]; split <;> omega
  rw [e4]
  by_cases hx : 0 ≤ x
  · have e5 : x.fdiv 9223372036854775808 = 0 := by rw [Int.fdiv_eq_ediv_of_nonneg _ (by omega)]; omega
    rw [e5, wu, wu]
    simp only [signed, if_pos hx]
    simp
    omega
  · have e5 : x.fdiv 9223372036854775808 = -1 := by rw [Int.fdiv_eq_ediv_of_nonneg _ (by omega)]; omega
    rw [e5, wu, wu]
    have e6 : ((-1 : Int) % 18446744073709551616 % 18446744073709551616).toNat = 18446744073709551615 := by decide
    rw [e6, xor_ones _ (by omega)]
    simp only [signed, if_neg hx]
    omega

theorem wsigned_ok {h : H} {b : Nat} {t : Tok} {ws : List Nat} (hw : WB h b t ws) (x : Int) (h1 : -9223372036854775808 ≤ x) (h2 : x ≤ 9223372036854775807) (hl : ws.length + 1 ≤ 1000000) : WAdd 54 [.ptr b 0, .int .i64 x] h b t (ws ++ [signed x]) := by
  refine CallP.run hb54 ok54 (by simp) ?_
  simp -implicitDefEqProofs
  refine callW (put_ok hw (us := [signed x]) (by simpa using hl)) ?_ fun r h' t' q => ?_
  · simp -implicitDefEqProofs [w64]
    exact signed_bits x h1 h2
  try simp -implicitDefEqProofs
  exact ⟨t', q⟩

theorem wflag_ok {h : H} {b : Nat} {t : Tok} {ws : List Nat} (hw : WB h b t ws) (x : Bool) (hl : ws.length + 1 ≤ 1000000) : WAdd 57 [.ptr b 0, .bool x] h b t (ws ++ [if x then 1 else 0]) := by
  refine CallP.run hb57 ok57 (by simp) ?_
  cases x
  · simp -implicitDefEqProofs
    refine callW (put_ok hw (us := [0]) (by simpa using hl)) (by simp [w64]) fun r h' t' q => ?_
    try simp -implicitDefEqProofs
    exact ⟨t', q⟩
  · simp -implicitDefEqProofs
    refine callW (put_ok hw (us := [1]) (by simpa using hl)) (by simp [w64]) fun r h' t' q => ?_
    try simp -implicitDefEqProofs
    exact ⟨t', q⟩

theorem TOwn.next {h h1 : H} {t t1 : Tok} {B T : Nat → Prop} (a : TNext h t t1) : ∀ i, i < h.tn → TOwn t1 i → TOwn t i := fun i hi ho => by
  rcases a with rfl | ⟨j, rfl, hj⟩
  · exact ho
  · cases ho; omega
theorem WTo.trans {h h1 h2 : H} {b : Nat} {t t1 t2 : Tok} {ws ws' : List Nat} (a : WTo h b t ws h1 t1) (c : WTo h1 b t1 ws' h2 t2) : WTo h b t ws' h2 t2 :=
  ⟨c.wb, a.next.trans a.keep c.next, a.keep.trans' c.keep (fun _ _ h => h) (TOwn.next (B := fun _ => False) (T := fun _ => False) (h1 := h1) a.next)⟩

theorem wwords_ok {h : H} {b : Nat} {t : Tok} {ws : List Nat} (hw : WB h b t ws) (us : List Nat) (hl : ws.length + us.length + 1 ≤ 1000000) : WAdd 58 [.ptr b 0, encW us] h b t (ws ++ us.length :: us) := by
  refine CallP.run hb58 ok58 (by simp) ?_
  simp -implicitDefEqProofs
  refine callW (count_ok hw (us.length : Int) (by omega) (by omega)) (by simp) fun r h' t' q => ?_
  try simp -implicitDefEqProofs
  refine callW (put_ok q.wb (us := us) (by simp; omega)) (by simp) fun r h'' t'' q' => ?_
  try simp -implicitDefEqProofs
  exact ⟨t'', by simpa using q.trans q'⟩
end Go.Proofs

/- A text's bytes as words: both ways of packing, and the writer of texts. -/
namespace Go.Proofs
open Go Go.RowKit Go.Am

/-- The byte at a place, or none: 0. -/
def byteAt (s : ByteArray) (i : Nat) : Nat := match s.data[i]? with | some c => c.toNat | none => 0
theorem byteAt_lt (s : ByteArray) (i : Nat) : byteAt s i < 256 := by
  unfold byteAt
  split
  · rename_i c _; exact c.toNat_lt
  · omega

theorem idx_byte {s : ByteArray} {j : Nat} (h : j < s.size) : Option.map (fun c : UInt8 => AV.int .u8 c.toNat) s.data[j]? = some (.int .u8 (byteAt s j)) := by
  have h' : j < s.data.size := h
  unfold byteAt
  rw [Array.getElem?_eq_getElem h']
  rfl
theorem data_byte {s : ByteArray} {j : Nat} {h : j < s.data.size} : (s.data[j]'h).toNat = byteAt s j := by
  unfold byteAt
  rw [Array.getElem?_eq_getElem h]
theorem byteAt_out {s : ByteArray} {j : Nat} (h : ¬ j < s.size) : byteAt s j = 0 := by
  have h' : s.data.size ≤ j := Nat.le_of_not_lt h
  unfold byteAt
  rw [Array.getElem?_eq_none h']

/-- k bytes from a place on, as a number, the first the least. -/
def num (s : ByteArray) (at' : Nat) : Nat → Nat
  | 0 => 0
  | k + 1 => byteAt s at' + 256 * num s (at' + 1) k

def packed (s : ByteArray) : List Nat := (List.range ((s.size + 7) / 8)).map fun i => num s (8 * i) 8

theorem num_lt (s : ByteArray) : ∀ (k a : Nat), num s a k < 256 ^ k
  | 0, a => by simp [num]
  | k + 1, a => by
    have h1 := num_lt s k (a + 1)
    have h2 := byteAt_lt s a
    simp only [num, Nat.pow_succ]
    omega
theorem num8_lt (s : ByteArray) (a : Nat) : num s a 8 < 18446744073709551616 := num_lt s 8 a

theorem refPacked_ok (s : ByteArray) (hs : s.size ≤ 1000) : PCall Try.prog 60 [.str s] (encW (packed s)) := by
  refine PCall.run hb60 ok60 (by simp) (pures1 (.str _)) (pure_w64 _) ?_
  simp -implicitDefEqProofs
  refine run_loop (fun n s1 h => ∃ i t, n = (s.size + 7) / 8 - i ∧ i ≤ (s.size + 7) / 8 ∧ s1 0 = .str s ∧ s1 3 = .sl t (((List.range i).map fun i => num s (8 * i) 8).map w64) ∧ TLive h t i ∧ s1 4 = .int .i64 ((8 * i : Nat) : Int)) ?_ ((s.size + 7) / 8) ?_
  · rintro n s1 h ⟨i, t, hn, hi, h0, h3, hl, h4⟩ ih
    simp -implicitDefEqProofs [h0, h4]
    by_cases hlt : 8 * i < s.size
    · have hlt' : (8 : Int) * (i : Int) < (s.size : Int) := by omega
      simp -implicitDefEqProofs [hlt']
      refine run_loop (fun n s2 h2 => ∃ k : Nat, n = k ∧ k ≤ 8 ∧ h2 = h ∧ s2 0 = .str s ∧ s2 3 = s1 3 ∧ s2 4 = s1 4 ∧ s2 6 = .int .i64 ((k : Int) - 1) ∧ s2 5 = .int .u64 (num s (8 * i + k) (8 - k) : Int)) ?_ 8 ?_
      · rintro n s2 h2 ⟨k, rfl, hk, rfl, g0, g3, g4, g6, g5⟩ ih2
        rcases n with _ | m
        · simp -implicitDefEqProofs [g6, g3, h3, g5]
          refine appQ_w ((List.range i).map fun i => num s (8 * i) 8) [num s (8 * i) 8] (by simp) (by simp [w64]) (by simpa using hl) (by simp; omega) fun t' h' q1 q2 q3 q4 => ?_
          simp -implicitDefEqProofs [g4, h4, wrap_i64 (x := 8 * (i : Int) + 8) (by omega) (by omega)]
          refine ih ((s.size + 7) / 8 - (i + 1)) _ _ (by omega) ⟨i + 1, t', rfl, by omega, by simp [g0], by simp [List.range_succ], by simpa using q1, by simp; omega⟩
        · have hm : ((m + 1 : Nat) : Int) - 1 = (m : Int) := by omega
          rw [hm] at g6
          have g5' : s2 5 = .int .u64 (num s (8 * i + (m + 1)) (7 - m) : Int) := by rw [g5, show 8 - (m + 1) = 7 - m by omega]
          have hnum : num s (8 * i + m) (8 - m) = byteAt s (8 * i + m) + 256 * num s (8 * i + (m + 1)) (7 - m) := by
            rw [show 8 - m = (7 - m) + 1 by omega]; rfl
          have hb : num s (8 * i + m) (8 - m) < 18446744073709551616 := Nat.lt_of_lt_of_le (num_lt s (8 - m) (8 * i + m)) (Nat.pow_le_pow_right (n := 256) (by omega) (show 8 - m ≤ 8 by omega))
          have hm2 : IntKind.i64.wrap ((m : Int) - 1) = (m : Int) - 1 := wrap_i64 (by omega) (by omega)
          have hw1 : IntKind.u64.wrap ((num s (8 * i + (m + 1)) (7 - m) : Int) * 256) = (num s (8 * i + (m + 1)) (7 - m) : Int) * 256 := wrap_u64 (by omega) (by omega)
          have hw2 : IntKind.i64.wrap (8 * (i : Int) + (m : Int)) = ((8 * i + m : Nat) : Int) := by rw [wrap_i64 (by omega) (by omega)]; omega
          have h4' : s1 4 = .int .i64 (8 * (i : Int)) := by rw [h4]; simp
          have fin : ∀ s3 : Slots, s3 0 = .str s → s3 3 = s1 3 → s3 4 = s1 4 → s3 6 = .int .i64 ((m : Int) - 1) → s3 5 = .int .u64 (num s (8 * i + m) (8 - m) : Int) → Run Try.prog false [It.lp c60_l12, It.blk 2, It.c (IR.reg c60_r13), It.blk 1, It.c (IR.reg c60_r14), It.lp c60_l15, It.blk 0, It.c ((IR.reg c60_r16).seq IR.ret)]
              (retQ [ResA.t 2] fun r' x => wk r' = AV.sl Tok.no (List.map w64 (packed s))) s3 h2 :=
            fun s3 a0 a3 a4 a6 a5 => ih2 m s3 h2 (by omega) ⟨m, rfl, by omega, rfl, a0, a3, a4, a6, a5⟩
          by_cases hin : 8 * i + m < s.size
          · have hbt := byteAt_lt s (8 * i + m)
            have hw3 : IntKind.u64.wrap (byteAt s (8 * i + m) : Int) = (byteAt s (8 * i + m) : Int) := wrap_u64 (by omega) (by omega)
            have hw4 : IntKind.u64.wrap ((num s (8 * i + (m + 1)) (7 - m) : Int) * 256 + (byteAt s (8 * i + m) : Int)) = (num s (8 * i + (m + 1)) (7 - m) : Int) * 256 + (byteAt s (8 * i + m) : Int) := wrap_u64 (by omega) (by omega)
            have hi1 : idxOf (.int .i64 ((8 * i + m : Nat) : Int)) s.size = some (8 * i + m) := idxOf_nat hin
            simp -implicitDefEqProofs [g6, g5', hw1, g4, h4', g0, hw2, -Int.natCast_add, -idxOf, hin, hi1, data_byte, hw3, hw4, hm2]
            refine fin _ (by simp [g0]) (by simp [g3]) (by simp [g4]) (by simp) ?_
            simp [hnum]
            omega
          · have hz := byteAt_out hin
            simp -implicitDefEqProofs [g6, g5', hw1, g4, h4', g0, hw2, -Int.natCast_add, hin, hm2]
            refine fin _ (by simp [g0]) (by simp [g3]) (by simp [g4]) (by simp) ?_
            simp [hnum, hz]
            omega
      · exact ⟨8, rfl, by omega, rfl, by simp [h0], by simp, by simp, by simp, by simp [num]⟩
    · have hlt' : ¬ (8 : Int) * (i : Int) < (s.size : Int) := by omega
      simp -implicitDefEqProofs [hlt']
      have : i = (s.size + 7) / 8 := by omega
      simp -implicitDefEqProofs [h3, packed, this]
  · exact ⟨0, .full, by simp, by omega, by simp, by simp, trivial, by simp⟩
end Go.Proofs

/- The program's packing of texts. -/
namespace Go.Proofs
open Go Go.RowKit Go.Am

theorem num_snoc (s : ByteArray) : ∀ (k a : Nat), num s a (k + 1) = num s a k + 256 ^ k * byteAt s (a + k)
  | 0, a => by simp [num]
  | k + 1, a => by
    rw [show num s a (k + 1 + 1) = byteAt s a + 256 * num s (a + 1) (k + 1) from rfl, num_snoc s k (a + 1), show num s a (k + 1) = byteAt s a + 256 * num s (a + 1) k from rfl, Nat.pow_succ, show a + 1 + k = a + (k + 1) by omega]
    rw [Nat.mul_add, Nat.add_assoc]
    congr 2
    rw [Nat.mul_comm (256 ^ k) 256, Nat.mul_assoc]

theorem num_cut (s : ByteArray) : ∀ (k a : Nat), num s a k = num s a (min k (s.size - a))
  | 0, a => by simp
  | k + 1, a => by
    by_cases h : a < s.size
    · rw [show min (k + 1) (s.size - a) = min k (s.size - (a + 1)) + 1 by omega]
      simp only [num]
      rw [num_cut s k (a + 1)]
    · rw [show min (k + 1) (s.size - a) = 0 by omega]
      simp only [num]
      rw [byteAt_out h, num_cut s k (a + 1), show min k (s.size - (a + 1)) = 0 by omega]
      simp [num]

def cellsP (s : ByteArray) (n i : Nat) : List AV := (List.range n).map fun j => .int .u64 (num s (8 * j) (min 8 (i - 8 * j)))

theorem or_low (a b r : Nat) (h : a < 256 ^ r) : a ||| b * 2 ^ (8 * r) = a + 256 ^ r * b := by
  have e : 2 ^ (8 * r) = 256 ^ r := by rw [Nat.pow_mul]
  rw [Nat.mul_comm, Nat.or_comm, ← Nat.two_pow_add_eq_or_of_lt (by rw [e]; exact h), e]
  omega

theorem cellsP_set (s : ByteArray) (n i : Nat) (h : i < 8 * n) : (cellsP s n i).take (i / 8) ++ [AV.int .u64 ((num s (8 * (i / 8)) (i % 8) ||| byteAt s i * 2 ^ (8 * (i % 8)) : Nat) : Int)] ++ (cellsP s n i).drop (i / 8 + 1) = cellsP s n (i + 1) := by
  have e : (cellsP s n i).take (i / 8) ++ [AV.int .u64 ((num s (8 * (i / 8)) (i % 8) ||| byteAt s i * 2 ^ (8 * (i % 8)) : Nat) : Int)] ++ (cellsP s n i).drop (i / 8 + 1) = (cellsP s n i).set (i / 8) (AV.int .u64 ((num s (8 * (i / 8)) (i % 8) ||| byteAt s i * 2 ^ (8 * (i % 8)) : Nat) : Int)) := by
    rw [List.set_eq_take_append_cons_drop, if_pos (by simp [cellsP]; omega)]
    simp
  rw [e]
  apply List.ext_getElem
  · simp [cellsP]
  · intro j h1 h2
    rw [List.getElem_set]
    simp only [cellsP, List.getElem_map, List.getElem_range]
    split
    · rename_i hj
      subst hj
      rw [or_low _ _ _ (num_lt s _ _), show min 8 (i + 1 - 8 * (i / 8)) = i % 8 + 1 by omega, num_snoc, show 8 * (i / 8) + i % 8 = i by omega]
    · rename_i hj
      congr 2
      have : min 8 (i - 8 * j) = min 8 (i + 1 - 8 * j) := by omega
      rw [this]

theorem packed_cells (s : ByteArray) : chunks 1 ((s.size + 7) / 8) (cellsP s ((s.size + 7) / 8) s.size) = (packed s).map w64 := by
  have key : ∀ (l : List AV) (n : Nat), l.length = n → chunks 1 n l = l.map fun v => [v] := by
    intro l
    induction l with
    | nil => intro n h; subst h; rfl
    | cons v l ih => intro n h; subst h; simp [chunks, ih l.length rfl]
  rw [key _ _ (by simp [cellsP])]
  simp only [cellsP, packed, List.map_map]
  apply List.map_congr_left
  intro j _
  simp only [Function.comp, w64]
  rw [num_cut s 8 (8 * j)]
end Go.Proofs

/- The program's packing of texts: the run. -/
namespace Go.Proofs
open Go Go.RowKit Go.Am

theorem or_u64 {A B : Nat} (hA : A < 18446744073709551616) (hB : B < 18446744073709551616) : IntKind.u64.wrap ((((A : Int) % 2 ^ IntKind.u64.bits).toNat ||| ((B : Int) % 2 ^ IntKind.u64.bits).toNat : Nat) : Int) = ((A ||| B : Nat) : Int) := by
  have e3 : (2 : Int) ^ IntKind.u64.bits = 18446744073709551616 := rfl
  rw [e3, show ((A : Int) % 18446744073709551616).toNat = A by omega, show ((B : Int) % 18446744073709551616).toNat = B by omega]
  have := Nat.or_lt_two_pow (n := 64) hA hB
  exact wrap_u64 (by omega) (by omega)

theorem packed_ok (s : ByteArray) (hs : s.size ≤ 1000) : PCall Try.prog 102 [.str s] (encW (packed s)) := by
  refine PCall.run' hb102 ok102 (by simp) (pures1 (.str _)) (pure_w64 _) (by simp) ?_
  have e1 : IntKind.i64.wrap ((s.size : Int) + 8) = (s.size : Int) + 8 := wrap_i64 (by omega) (by omega)
  have e2 : IntKind.i64.wrap ((s.size : Int) + 8 - 1) = (s.size : Int) + 8 - 1 := wrap_i64 (by omega) (by omega)
  have e3 : IntKind.i64.wrap (((s.size : Int) + 8 - 1).tdiv 8) = (((s.size + 7) / 8 : Nat) : Int) := by
    rw [Int.tdiv_eq_ediv_of_nonneg (by omega), wrap_i64 (by omega) (by omega)]
    omega
  simp -implicitDefEqProofs [e1, e2, e3, -Int.natCast_ediv]
  refine ⟨_, _, .mkbox 1 8 [.int .u64 0] (.t 9) (.t 9) .i64 .i64 ((s.size + 7) / 8) (by simp) (by simp) (by omega) (by omega), ?_⟩
  generalize hK : (s.size + 7) / 8 = K
  simp -implicitDefEqProofs
  refine run_loop (fun n s1 h => ∃ i : Nat, n = s.size - i ∧ i ≤ s.size ∧ s1 0 = .str s ∧ s1 3 = .msl 0 1 0 K ∧ s1 12 = .int .i64 s.size ∧ s1 13 = .int .i64 i ∧ 0 < h.bn ∧ h.bx 0 = some (cellsP s K i)) ?_ s.size ?_
  · rintro n s1 h ⟨i, hn, hi, h0, h3, h12, h13, hb, hx⟩ ih
    by_cases hlt : i < s.size
    · have q1 : ((i : Int)).tdiv 8 = ((i / 8 : Nat) : Int) := by rw [Int.tdiv_eq_ediv_of_nonneg (by omega)]; omega
      have q2 : ((i : Int)).tmod 8 = ((i % 8 : Nat) : Int) := by rw [Int.tmod_eq_emod_of_nonneg (by omega)]; omega
      have q3 : IntKind.i64.wrap ((i / 8 : Nat) : Int) = ((i / 8 : Nat) : Int) := wrap_i64 (by omega) (by omega)
      have q4 : IntKind.i64.wrap (8 * ((i % 8 : Nat) : Int)) = ((8 * (i % 8) : Nat) : Int) := by rw [wrap_i64 (by omega) (by omega)]; omega
      have q5 : idxOf (.int .i64 ((i / 8 : Nat) : Int)) K = some (i / 8) := idxOf_nat (by omega)
      have q6 : idxOf (.int .i64 (i : Int)) s.size = some i := idxOf_nat hlt
      have q7 : IntKind.u64.wrap (byteAt s i : Int) = (byteAt s i : Int) := wrap_u64 (by omega) (by have := byteAt_lt s i; omega)
      have q8 : shAmt .u64 ((8 * (i % 8) : Nat) : Int) = 8 * (i % 8) := by simp only [shAmt, IntKind.bits, Int.toNat_natCast]; omega
      simp -implicitDefEqProofs [h13, h12, hlt]
      refine run_dreg c102_d6 ?_
      have hB := byteAt_lt s i
      have hp : 2 ^ (8 * (i % 8)) ≤ 72057594037927936 := Nat.pow_le_pow_right (n := 2) (by omega) (show 8 * (i % 8) ≤ 56 by omega)
      have hBp : byteAt s i * 2 ^ (8 * (i % 8)) < 18446744073709551616 := Nat.lt_of_le_of_lt (Nat.mul_le_mul (Nat.le_of_lt_succ hB) hp) (by omega)
      have hA := num_lt s (i % 8) (8 * (i / 8))
      have hA2 : num s (8 * (i / 8)) (i % 8) < 18446744073709551616 := Nat.lt_of_lt_of_le hA (Nat.pow_le_pow_right (n := 256) (by omega) (show i % 8 ≤ 8 by omega))
      have r1 : i / 8 + 1 ≤ (cellsP s K i).length := by simp [cellsP]; omega
      have r2 : List.take 1 (List.drop (i / 8) (cellsP s K i)) = [.int .u64 (num s (8 * (i / 8)) (i % 8) : Int)] := by
        have : i / 8 < (cellsP s K i).length := r1
        rw [List.drop_eq_getElem_cons this]
        simp [cellsP, show min 8 (i - 8 * (i / 8)) = i % 8 by omega]
      have r4 : IntKind.u64.wrap ((byteAt s i : Int) * 2 ^ (8 * (i % 8))) = ((byteAt s i * 2 ^ (8 * (i % 8)) : Nat) : Int) := by
        rw [show (byteAt s i : Int) * 2 ^ (8 * (i % 8)) = ((byteAt s i * 2 ^ (8 * (i % 8)) : Nat) : Int) by simp]
        exact wrap_u64 (by omega) (by omega)
      have r3 : ¬ ((8 * (i % 8) : Nat) : Int) < 0 := by omega
      have hset := cellsP_set s K i (by omega)
      simp -implicitDefEqProofs [h0, h3, h13, hb, hx, q1, q2, q3, q4, q5, q6, q7, q8, hlt, data_byte, -Int.natCast_ediv, -Int.natCast_emod, -idxOf, -Int.natCast_mul, r1, r2, r3, r4, or_u64 hA2 hBp, wrap_i64 (x := (i : Int) + 1) (by omega) (by omega)]
      refine ih (s.size - (i + 1)) _ _ (by omega) ⟨i + 1, rfl, by omega, by simp [h0], by simp [h3], by simp [h12], by simp, by simpa using hb, ?_⟩
      rw [← hset]
      simp
    · have : i = s.size := by omega
      subst this
      simp -implicitDefEqProofs [h13, h12, h3]
      have := Gh.msl (z := 1) (n := K) hb hx (by omega) (by simp [cellsP])
      rw [← hK, packed_cells] at this
      exact ⟨_, by rw [← hK]; exact this⟩
  · refine ⟨0, by simp, by omega, by simp, by simp [H.nil], by simp, by simp, by simp, ?_⟩
    have : cellsP s K 0 = List.replicate K (.int .u64 0) := by
      rw [List.eq_replicate_iff]
      refine ⟨by simp [cellsP], fun v hv => ?_⟩
      simp only [cellsP, List.mem_map] at hv
      obtain ⟨j, _, rfl⟩ := hv
      simp [num]
    simp [H.nil, this]
end Go.Proofs

/- The writer of texts; copies; what a writer hands back. -/
namespace Go.Proofs
open Go Go.RowKit Go.Am

def cut64 (s : ByteArray) : ByteArray := s.extract 0 (min s.size 64)
theorem cut64_size (s : ByteArray) : (cut64 s).size = min s.size 64 := by simp [cut64]

theorem packed_len (s : ByteArray) : (packed s).length = (s.size + 7) / 8 := by simp [packed]

def textW (s : ByteArray) : List Nat := (cut64 s).size :: packed (cut64 s)

theorem wtext_ok {h : H} {b : Nat} {t : Tok} {ws : List Nat} (hw : WB h b t ws) (s : ByteArray) (hl : ws.length + 20 ≤ 1000000) : WAdd 55 [.ptr b 0, .str s] h b t (ws ++ textW s) := by
  refine CallP.run hb55 ok55 (by simp) ?_
  have hc := cut64_size s
  have e : (if (64 : Int) < (s.size : Int) then (64 : Int) else (s.size : Int)) = ((min s.size 64 : Nat) : Int) := by split <;> omega
  have e2 : bndOf (some (.int .i64 ((min s.size 64 : Nat) : Int))) s.size s.size = some (min s.size 64) := by
    simp only [bndOf]
    rw [if_pos (by omega)]
    simp
  have e3 : bndOf none (min s.size 64) 0 = some 0 := rfl
  simp -implicitDefEqProofs [e, e2, e3, -bndOf]
  have hps : s.extract 0 (min s.size 64) = cut64 s := rfl
  refine callW (count_ok hw ((min s.size 64 : Nat) : Int) (by omega) (by omega)) (by simp) fun r h1 t1 q => ?_
  try simp -implicitDefEqProofs
  refine callQ_p (packed_ok (cut64 s) (by omega)) (by simp [hps]) ?_
  try simp -implicitDefEqProofs
  have hpl := packed_len (cut64 s)
  refine callW (put_ok q.wb (us := packed (cut64 s)) (by simp; omega)) (by simp) fun r h2 t2 q2 => ?_
  try simp -implicitDefEqProofs
  refine ⟨t2, ?_⟩
  have := q.trans q2
  simpa [textW, hc] using this

theorem clone_ok (us : List Nat) (hl : us.length ≤ 1000000) : PCall Try.prog 61 [encW us] (encW us) := by
  refine clone_gen (n := 1) (b := 8) (z := [.int .u64 0]) hb61 ok61 (us.map w64) (w64_len us) (pure_w64 us) (by simp) (by simp; omega)

theorem done_ok {h : H} {b : Nat} {t : Tok} {ws : List Nat} (hw : WB h b t ws) (hl : ws.length ≤ 1000000) : SCall Try.prog 19 [.ptr b 0] h (encW ws) h := by
  refine CallP.sure (CallP.run hb19 ok19 (by simp) ?_)
  simp -implicitDefEqProofs [hw.bx, hw.lt]
  refine callQ_p (clone_ok ws hl) (by simp) ?_
  try simp -implicitDefEqProofs
end Go.Proofs

/- Items: what is written of them, by the program and by the document. -/
namespace Go.Proofs
open Go Go.RowKit Go.Am

structure Item where
  kind : Int
  n : Int
  most : Int
  x : Int
  s : ByteArray
  l : List Nat

def inI (x : Int) : Prop := -9223372036854775808 ≤ x ∧ x ≤ 9223372036854775807
def Item.ok (x : Item) : Prop := inI x.n ∧ inI x.x ∧ x.s.size ≤ 1000 ∧ x.l.length ≤ 1000
def encI (x : Item) : List AV := [.int .i64 x.kind, .int .i64 x.n, .int .i64 x.most, .int .i64 x.x, .str x.s, encW x.l]

def writeW (x : Item) : List Nat :=
  if x.kind = 0 then [x.n.toNat] else if x.kind = 1 then [signed x.x] else if x.kind = 2 then [if x.n = 1 then 1 else 0] else if x.kind = 3 then textW x.s else x.l.length :: x.l

theorem WB.alloc {h : H} {b : Nat} {t : Tok} {ws : List Nat} (hw : WB h b t ws) (cs : List AV) : WB (h.alloc cs) b t ws :=
  ⟨by have := hw.lt; simp; omega, by have := hw.lt; have h2 : b ≠ h.bn := by omega
                                     simp [h2, hw.bx], by simpa using hw.live⟩
theorem WTo.alloc {h : H} {b : Nat} {t : Tok} {ws : List Nat} {h' : H} {t' : Tok} {cs : List AV} (q : WTo (h.alloc cs) b t ws h' t') : WTo h b t ws h' t' :=
  ⟨q.wb, q.next, (HF.alloc h cs _ _).trans q.keep⟩

theorem write_ok {h : H} {b : Nat} {t : Tok} {ws : List Nat} (hw : WB h b t ws) (x : Item) (hx : x.ok) (hl : ws.length ≤ 900000) : WAdd 16 [.ptr b 0, .agg (encI x)] h b t (ws ++ writeW x) := by
  refine CallP.run hb16 ok16 (by simp) ?_
  obtain ⟨⟨n1, n2⟩, ⟨x1, x2⟩, s1, l1⟩ := hx
  simp -implicitDefEqProofs [encI]
  by_cases k0 : x.kind = 0
  · simp -implicitDefEqProofs [k0]
    refine callW (count_ok (hw.alloc _) x.n n2 (by omega)) (by simp) fun r h' t' q => ?_
    try simp -implicitDefEqProofs
    exact ⟨t', by simpa [writeW, k0] using q.alloc⟩
  by_cases k1 : x.kind = 1
  · simp -implicitDefEqProofs [k1]
    refine callW (wsigned_ok (hw.alloc _) x.x x1 x2 (by omega)) (by simp) fun r h' t' q => ?_
    try simp -implicitDefEqProofs
    exact ⟨t', by simpa [writeW, k1] using q.alloc⟩
  by_cases k2 : x.kind = 2
  · simp -implicitDefEqProofs [k2]
    refine callW (wflag_ok (hw.alloc _) (decide (x.n = 1)) (by omega)) (by simp) fun r h' t' q => ?_
    try simp -implicitDefEqProofs
    exact ⟨t', by simpa [writeW, k2] using q.alloc⟩
  by_cases k3 : x.kind = 3
  · simp -implicitDefEqProofs [k3]
    refine callW (wtext_ok (hw.alloc _) x.s (by omega)) (by simp) fun r h' t' q => ?_
    try simp -implicitDefEqProofs
    exact ⟨t', by simpa [writeW, k3] using q.alloc⟩
  · simp -implicitDefEqProofs [k0, k1, k2, k3]
    refine callW (wwords_ok (hw.alloc _) x.l (by omega)) (by simp) fun r h' t' q => ?_
    try simp -implicitDefEqProofs
    exact ⟨t', by simpa [writeW, k0, k1, k2, k3] using q.alloc⟩

/-- A slice of words that grows. -/
structure STo (h : H) (t : Tok) (ws : List Nat) (r : AV) (h' : H) (t' : Tok) : Prop where
  val : r = .sl t' (ws.map w64)
  live : TLive h' t' ws.length
  next : TNext h t t'
  keep : HF h h' (fun _ => False) (TOwn t)

theorem refWrite_ok {h : H} {t : Tok} {ws : List Nat} (ht : TLive h t ws.length) (x : Item) (hx : x.ok) (hl : ws.length ≤ 900000) : CallP Try.prog 17 [.sl t (ws.map w64), .agg (encI x)] h fun r h' => ∃ t', STo h t (ws ++ writeW x) r h' t' := by
  refine CallP.run hb17 ok17 (by simp) ?_
  obtain ⟨⟨n1, n2⟩, ⟨x1, x2⟩, s1, l1⟩ := hx
  have hta : ∀ cs, TLive (h.alloc cs) t ws.length := fun cs => by simpa using ht
  have fin : ∀ {cs : List AV} {us : List Nat} {t' : Tok} {h' : H}, TLive h' t' (ws ++ us).length → TNext (h.alloc cs) t t' → HF (h.alloc cs) h' (fun _ => False) (TOwn t) → STo h t (ws ++ us) (.sl t' ((ws ++ us).map w64)) h' t' := fun q1 q2 q3 => ⟨rfl, q1, q2, (HF.alloc h _ _ _).trans q3⟩
  simp -implicitDefEqProofs [encI]
  by_cases k0 : x.kind = 0
  · simp -implicitDefEqProofs [k0]
    by_cases hn : x.n < 0
    · simp -implicitDefEqProofs [hn]
      refine appQ_w ws [0] rfl (by simp [w64]) (hta _) (by simp; omega) fun t' h' q1 q2 q3 q4 => ?_
      try simp -implicitDefEqProofs
      exact ⟨t', by simpa [writeW, k0, show x.n.toNat = 0 by omega] using fin q1 q2 q3⟩
    · have hw : IntKind.u64.wrap x.n = x.n := wrap_u64 (by omega) (by omega)
      simp -implicitDefEqProofs [hn, hw]
      refine appQ_w ws [x.n.toNat] rfl (by simp [w64]; omega) (hta _) (by simp; omega) fun t' h' q1 q2 q3 q4 => ?_
      try simp -implicitDefEqProofs
      exact ⟨t', by simpa [writeW, k0] using fin q1 q2 q3⟩
  by_cases k1 : x.kind = 1
  · simp -implicitDefEqProofs [k1]
    refine callQ_p (refSigned_ok x.x x1 x2) (by simp) ?_
    try simp -implicitDefEqProofs
    refine appQ_w ws [signed x.x] rfl (by simp [w64]) (hta _) (by simp; omega) fun t' h' q1 q2 q3 q4 => ?_
    try simp -implicitDefEqProofs
    exact ⟨t', by simpa [writeW, k1] using fin q1 q2 q3⟩
  by_cases k2 : x.kind = 2
  · simp -implicitDefEqProofs [k2]
    by_cases hn : x.n = 1
    · simp -implicitDefEqProofs [hn]
      refine appQ_w ws [1] rfl (by simp [w64]) (hta _) (by simp; omega) fun t' h' q1 q2 q3 q4 => ?_
      try simp -implicitDefEqProofs
      exact ⟨t', by simpa [writeW, k2, hn] using fin q1 q2 q3⟩
    · simp -implicitDefEqProofs [hn]
      refine appQ_w ws [0] rfl (by simp [w64]) (hta _) (by simp; omega) fun t' h' q1 q2 q3 q4 => ?_
      try simp -implicitDefEqProofs
      exact ⟨t', by simpa [writeW, k2, hn] using fin q1 q2 q3⟩
  by_cases k3 : x.kind = 3
  · have hfin3 : ∀ (h1 : H) (s2 : Slots), h1 = h1 → True := fun _ _ _ => trivial
    have hpl := packed_len (cut64 x.s)
    have hc := cut64_size x.s
    simp -implicitDefEqProofs [k3]
    by_cases hn : 64 < x.s.size
    · have e2 : bndOf (some (.int .i64 64)) x.s.size x.s.size = some 64 := by
        simp only [bndOf]
        rw [if_pos (by omega)]
        simp
      have e3 : bndOf none 64 0 = some 0 := rfl
      have e4 : x.s.extract 0 64 = cut64 x.s := by simp only [cut64]; rw [show min x.s.size 64 = 64 by omega]
      have e5 : (cut64 x.s).size = 64 := by omega
      have e6 : IntKind.u64.wrap 64 = 64 := wrap_u64 (by omega) (by omega)
      have hn' : (64 : Int) < (x.s.size : Int) := by omega
      simp -implicitDefEqProofs [hn', e2, e3, e4, e5, e6, -bndOf]
      refine appQ_w ws [64] rfl (by simp [w64]) (hta _) (by simp; omega) fun t' h' q1 q2 q3 q4 => ?_
      try simp -implicitDefEqProofs
      refine callQ_p (refPacked_ok (cut64 x.s) (by omega)) (by simp) ?_
      try simp -implicitDefEqProofs
      refine appQ_w (ws ++ [64]) (packed (cut64 x.s)) (by simp) rfl q1 (by simp; omega) fun t'' h'' r1 r2 r3 r4 => ?_
      try simp -implicitDefEqProofs
      refine ⟨t'', ?_⟩
      have hf := q3.trans' r3 (fun _ _ h => h) (TOwn.next (B := fun _ => False) (T := fun _ => False) (h1 := h') q2)
      have := fin (us := 64 :: packed (cut64 x.s)) (by simpa using r1) (q2.trans q3 r2) hf
      simpa [writeW, k3, textW, e5] using this
    · have e4 : x.s = cut64 x.s := by simp only [cut64]; rw [show min x.s.size 64 = x.s.size by omega, ByteArray.extract_zero_size]
      have e6 : IntKind.u64.wrap (x.s.size : Int) = (x.s.size : Int) := wrap_u64 (by omega) (by omega)
      have hn' : ¬ (64 : Int) < (x.s.size : Int) := by omega
      simp -implicitDefEqProofs [hn', e6]
      refine appQ_w ws [x.s.size] rfl (by simp [w64]) (hta _) (by simp; omega) fun t' h' q1 q2 q3 q4 => ?_
      try simp -implicitDefEqProofs
      refine callQ_p (refPacked_ok x.s (by omega)) (by simp) ?_
      try simp -implicitDefEqProofs
      have hpl' := packed_len x.s
      refine appQ_w (ws ++ [x.s.size]) (packed x.s) (by simp) rfl q1 (by simp; omega) fun t'' h'' r1 r2 r3 r4 => ?_
      try simp -implicitDefEqProofs
      refine ⟨t'', ?_⟩
      have hf := q3.trans' r3 (fun _ _ h => h) (TOwn.next (B := fun _ => False) (T := fun _ => False) (h1 := h') q2)
      have := fin (us := x.s.size :: packed x.s) (by simpa using r1) (q2.trans q3 r2) hf
      simpa [writeW, k3, textW, ← e4] using this
  · simp -implicitDefEqProofs [k0, k1, k2, k3]
    refine run_dreg c17_d18 ?_
    have e6 : IntKind.u64.wrap (x.l.length : Int) = (x.l.length : Int) := wrap_u64 (by omega) (by omega)
    simp -implicitDefEqProofs [e6]
    refine appQ_w ws [x.l.length] rfl (by simp [w64]) (hta _) (by simp; omega) fun t' h' q1 q2 q3 q4 => ?_
    have hbx := q3.bx h.bn (by simp) (fun h => h)
    have hbn : h'.bn = h.bn + 1 := by rw [q4]; rfl
    simp -implicitDefEqProofs at hbx
    simp -implicitDefEqProofs [hbx, hbn]
    refine appQ_w (ws ++ [x.l.length]) x.l (by simp) rfl q1 (by simp; omega) fun t'' h'' r1 r2 r3 r4 => ?_
    have hbx2 := r3.bx h.bn (by omega) (fun h => h)
    rw [hbx] at hbx2
    have hbn2 : h''.bn = h.bn + 1 := by rw [r4, hbn]
    simp -implicitDefEqProofs [hbx, hbn, hbx2, hbn2]
    refine ⟨t'', ?_⟩
    have hf := q3.trans' r3 (fun _ _ h => h) (TOwn.next (B := fun _ => False) (T := fun _ => False) (h1 := h') q2)
    have := fin (us := x.l.length :: x.l) (by simpa using r1) (q2.trans q3 r2) hf
    simpa [writeW, k0, k1, k2, k3] using this
end Go.Proofs

/- What the statements about codes ask first: no more items than are looked at; the document's examples. -/
namespace Go.Proofs
open Go Go.RowKit Go.Am

def encIs (l : List Item) : AV := .sl .no (l.map encI)

def greatI (x : Item) : Bool := decide (100 < x.l.length) || decide (200 < x.s.size) || decide (x.kind < 0) || decide (4 < x.kind)
def great (l : List Item) : Bool := l.any greatI || decide (60 < l.length)

theorem pure_encI (x : Item) : ∀ v ∈ encI x, PureV v := by
  simp only [encI]
  exact pures_cons (.int _ _) (pures_cons (.int _ _) (pures_cons (.int _ _) (pures_cons (.int _ _) (pures_cons (.str _) (pures1 (pure_w64 _))))))
theorem pure_encIs (l : List Item) : PureV (encIs l) := .sl (fun i h => by cases h) fun e he v hv => by
  obtain ⟨x, _, rfl⟩ := List.mem_map.1 he
  exact pure_encI x v hv
@[simp] theorem wk_encI (x : Item) : List.map wk (encI x) = encI x := by simp [encI]
@[simp] theorem wk_encI' : List.map wk ∘ encI = encI := by funext x; simp

theorem great_ok (l : List Item) (hl : l.length ≤ 9223372036854775807) : PCall Try.prog 15 [encIs l] (.bool (great l)) := by
  refine PCall.run hb15 ok15 (by simp) (pures1 (pure_encIs l)) (.bool _) ?_
  simp -implicitDefEqProofs [encIs]
  refine run_loop (fun n s h => ∃ j : Nat, n = l.length - j ∧ j ≤ l.length ∧ s 0 = .sl .no (l.map encI) ∧ s 3 = .int .i64 j ∧ (l.take j).any greatI = false) ?_ l.length ?_
  · rintro n s h ⟨j, hn, hj, h0, h3, hall⟩ ih
    simp -implicitDefEqProofs [h0, h3]
    by_cases hlt : j < l.length
    · have hi := idxOf_nat (k := .i64) hlt
      have hg : greatI l[j] = (decide (100 < l[j].l.length) || decide (200 < l[j].s.size) || decide (l[j].kind < 0) || decide (4 < l[j].kind)) := rfl
      have yes : greatI l[j] = true → great l = true := fun h => by
        simp only [great, Bool.or_eq_true, List.any_eq_true]
        exact .inl ⟨l[j], List.getElem_mem hlt, h⟩
      have no : greatI l[j] = false → (l.take (j + 1)).any greatI = false := fun h => by
        rw [List.take_succ_eq_append_getElem hlt, List.any_append, hall]
        simp [h]
      by_cases c1 : (100 : Int) < (l[j].l.length : Int)
      · have hy := yes (by rw [hg, decide_eq_true (by omega : 100 < l[j].l.length)]; rfl)
        simp -implicitDefEqProofs [hlt, h0, h3, encI, c1, hy]
      by_cases c2 : (200 : Int) < (l[j].s.size : Int)
      · have hy := yes (by rw [hg, decide_eq_true (by omega : 200 < l[j].s.size)]; simp)
        simp -implicitDefEqProofs [hlt, h0, h3, encI, c1, c2, hy]
      by_cases c3 : l[j].kind < 0
      · have hy := yes (by simp [hg, c3])
        simp -implicitDefEqProofs [hlt, h0, h3, encI, c1, c2, c3, hy]
      by_cases c4 : 4 < l[j].kind
      · have hy := yes (by simp [hg, c4])
        simp -implicitDefEqProofs [hlt, h0, h3, encI, c1, c2, c3, c4, hy]
      · have hno := no (by rw [hg, decide_eq_false (by omega : ¬ 100 < l[j].l.length), decide_eq_false (by omega : ¬ 200 < l[j].s.size), decide_eq_false c3, decide_eq_false c4]; rfl)
        simp -implicitDefEqProofs [hlt, h0, h3, encI, c1, c2, c3, c4, wrap_i64 (x := (j : Int) + 1) (by omega) (by omega)]
        exact ih (l.length - (j + 1)) _ _ (by omega) ⟨j + 1, rfl, by omega, by simp [h0], by simp, hno⟩
    · have hj' : j = l.length := by omega
      subst hj'
      rw [List.take_length] at hall
      simp -implicitDefEqProofs [hlt, h0, great, hall]
      omega
  · exact ⟨0, by simp, by omega, by simp, by simp, by simp⟩

theorem WB.new (h : H) : WB (h.alloc [.sl .full []]) h.bn .full [] := ⟨by simp, by simp, trivial⟩

theorem alive_ok : PCall Try.prog 14 [] (.bool true) := by
  refine PCall.run hb14 ok14 (by simp) pures_nil (.bool _) ?_
  simp -implicitDefEqProofs
  refine callW (wsigned_ok (WB.new H.nil) (-1) (by omega) (by omega) (by simp)) (by simp) fun r1 h1 t1 q1 => ?_
  try simp -implicitDefEqProofs
  refine callW (wsigned_ok q1.wb 1 (by omega) (by omega) (by simp)) (by simp) fun r2 h2 t2 q2 => ?_
  try simp -implicitDefEqProofs
  refine callW (wtext_ok q2.wb ⟨#[97, 98]⟩ (by simp)) (by simp) fun r3 h3 t3 q3 => ?_
  try simp -implicitDefEqProofs
  have hw : ([] ++ [signed (-1)] ++ [signed 1] ++ textW ⟨#[97, 98]⟩ : List Nat) = [1, 2, 2, 25185] := by decide
  have hd := done_ok q3.wb (by rw [hw]; decide)
  rw [hw] at hd
  refine callQ_of (args := [.ptr H.nil.bn 0]) hd ?_
  try simp -implicitDefEqProofs
  refine callQ_p (words_ok [1, 2, 2, 25185] [1, 2, 2, 25185] (by decide) (by decide)) (by simp [w64]) ?_
  try simp -implicitDefEqProofs
end Go.Proofs

/- The statement CodesWrite: what its function hands back. -/
namespace Go.Proofs
open Go Go.RowKit Go.Am

theorem textW_len (s : ByteArray) : (textW s).length ≤ 10 := by
  have h1 := packed_len (cut64 s)
  have h2 := cut64_size s
  simp only [textW, List.length_cons]
  omega
theorem writeW_len (x : Item) (h : x.l.length ≤ 100) : (writeW x).length ≤ 102 := by
  have ht := textW_len x.s
  unfold writeW
  split
  · simp
  split
  · simp
  split
  · simp
  split
  · omega
  · simp; omega

theorem not_great {l : List Item} (h : great l = false) : l.length ≤ 60 ∧ ∀ x ∈ l, x.l.length ≤ 100 ∧ x.s.size ≤ 200 := by
  simp only [great, Bool.or_eq_false_iff, decide_eq_false_iff_not, List.any_eq_false] at h
  refine ⟨by omega, fun x hx => ?_⟩
  have := h.1 x hx
  simp only [greatI, Bool.or_eq_true, decide_eq_true_eq, not_or] at this
  omega

def writeAll (l : List Item) : List Nat := l.flatMap writeW
theorem writeAll_len : ∀ (l : List Item), (∀ x ∈ l, x.l.length ≤ 100) → (writeAll l).length ≤ 102 * l.length
  | [], _ => by simp [writeAll]
  | x :: l, h => by
    have h1 := writeW_len x (h x (List.mem_cons_self ..))
    have h2 := writeAll_len l fun y hy => h y (List.mem_cons_of_mem _ hy)
    simp only [writeAll, List.flatMap_cons, List.length_append, List.length_cons] at h2 ⊢
    omega

theorem codesWrite_ok (l : List Item) (hl : l.length ≤ 9223372036854775807) (hi : ∀ x ∈ l, inI x.n ∧ inI x.x) : PCall Try.prog 3 [encIs l] (.bool true) := by
  refine PCall.run hb3 ok3 (by simp) (pures1 (pure_encIs l)) (.bool _) ?_
  simp -implicitDefEqProofs [encIs]
  refine callQ_p alive_ok (by simp) ?_
  simp -implicitDefEqProofs
  refine callQ_p (great_ok l hl) (by simp [encIs]) ?_
  cases hg : great l
  · obtain ⟨g1, g2⟩ := not_great hg
    have hok : ∀ x ∈ l, x.ok := fun x hx => ⟨(hi x hx).1, (hi x hx).2, by have := g2 x hx; omega, by have := g2 x hx; omega⟩
    simp -implicitDefEqProofs
    refine run_loop (fun n s h => ∃ (j : Nat) (t t2 : Tok), n = l.length - j ∧ j ≤ l.length ∧ s 0 = .sl .no (l.map encI) ∧ s 5 = .int .i64 j ∧ s 3 = .ptr 0 0 ∧ s 4 = .sl t2 ((writeAll (l.take j)).map w64) ∧ WB h 0 t (writeAll (l.take j)) ∧ TLive h t2 (writeAll (l.take j)).length ∧ TApart t t2) ?_ l.length ?_
    · rintro n s h ⟨j, t, t2, hn, hj, h0, h5, h3, h4, hw, ht2, hap⟩ ih
      simp -implicitDefEqProofs [h0, h5]
      by_cases hlt : j < l.length
      · have hwl : (writeAll (l.take j)).length ≤ 102 * 60 := by
          have := writeAll_len (l.take j) fun x hx => (g2 x (List.mem_of_mem_take hx)).1
          simp only [List.length_take] at this
          omega
        have hx := hok l[j] (List.getElem_mem hlt)
        have e6 : (encI l[j]).length = 6 := rfl
        have e7 : List.take 6 (encI l[j]) = encI l[j] := rfl
        simp -implicitDefEqProofs [hlt, h0, h5, h3, h4, idxOf_nat hlt, e6, e7]
        refine callW (write_ok hw l[j] hx (by omega)) (by simp) fun r h1 t1 q => ?_
        simp -implicitDefEqProofs [hlt, h0, h5, h3, h4, idxOf_nat hlt, e6, e7]
        have ht2' : TLive h1 t2 (writeAll (l.take j)).length := ht2.keep q.keep fun i e1 e2 => hap i e2 e1
        refine callQ_ex (refWrite_ok ht2' l[j] hx (by omega)) fun r2 h2 ⟨t3, q2⟩ => ?_
        obtain ⟨rfl, p2, p3, p4⟩ := q2
        simp -implicitDefEqProofs [h5, wrap_i64 (x := (j : Int) + 1) (by omega) (by omega)]
        have hsnoc : writeAll (l.take (j + 1)) = writeAll (l.take j) ++ writeW l[j] := by
          unfold writeAll
          rw [List.take_succ_eq_append_getElem hlt, List.flatMap_append, List.flatMap_singleton]
        have hap1 : TApart t1 t2 := (TApart.next ht2 hap.symm q.next).symm
        refine ih (l.length - (j + 1)) _ _ (by omega) ⟨j + 1, t1, t3, rfl, by omega, by simp [h0], by simp, by simp [h3], by simp [hsnoc], ?_, by rw [hsnoc]; exact p2, (TApart.next q.wb.live hap1 p3)⟩
        rw [hsnoc]
        exact ⟨Nat.lt_of_lt_of_le q.wb.lt p4.bn, (p4.bx 0 q.wb.lt fun h => h).trans q.wb.bx, q.wb.live.keep p4 fun i e1 e2 => hap1 i e1 e2⟩
      · have hj' : j = l.length := by omega
        subst hj'
        rw [List.take_length] at hw h4 ht2
        have hwl : (writeAll l).length ≤ 102 * 60 := by
          have := writeAll_len l fun x hx => (g2 x hx).1
          omega
        simp -implicitDefEqProofs [hlt, h3]
        refine callQ_of (args := [.ptr 0 0]) (done_ok hw (by omega)) ?_
        simp -implicitDefEqProofs [h4]
        refine callQ_p (words_ok (writeAll l) (writeAll l) (by omega) (by omega)) (by simp) ?_
        try simp -implicitDefEqProofs
    · refine ⟨0, .full, .full, by simp, by omega, by simp, by simp, by simp [H.nil], by simp [writeAll], ?_, ?_, ?_⟩
      · exact WB.new H.nil
      · trivial
      · intro i h; cases h
  · simp -implicitDefEqProofs
end Go.Proofs

/- Reading of codes, as lists: what is read of words; a text's bytes in words. -/
namespace Go.Proofs
open Go Go.RowKit Go.Am

def numF (f : Nat → Nat) (a : Nat) : Nat → Nat
  | 0 => 0
  | k + 1 => f a + 256 * numF f (a + 1) k

theorem num_numF (s : ByteArray) : ∀ (k a : Nat), num s a k = numF (byteAt s) a k
  | 0, _ => rfl
  | k + 1, a => by simp only [num, numF, num_numF s k (a + 1)]

theorem numF_congr {f g : Nat → Nat} : ∀ {k a : Nat}, (∀ j, a ≤ j → j < a + k → f j = g j) → numF f a k = numF g a k
  | 0, _, _ => rfl
  | k + 1, a, h => by
    simp only [numF]
    rw [h a (by omega) (by omega), numF_congr (k := k) (a := a + 1) fun j h1 h2 => h j (by omega) (by omega)]

theorem numF_inj {f g : Nat → Nat} (hf : ∀ j, f j < 256) (hg : ∀ j, g j < 256) : ∀ {k a : Nat}, numF f a k = numF g a k → ∀ j, a ≤ j → j < a + k → f j = g j
  | 0, a, _, j, h1, h2 => by omega
  | k + 1, a, h, j, h1, h2 => by
    simp only [numF] at h
    have hfa := hf a
    have hga := hg a
    by_cases hj : j = a
    · subst hj; omega
    · exact numF_inj hf hg (k := k) (a := a + 1) (by omega) j (by omega) (by omega)

theorem numF_digit {f : Nat → Nat} (hf : ∀ j, f j < 256) : ∀ {i k a : Nat}, i < k → numF f a k / 256 ^ i % 256 = f (a + i)
  | _, 0, _, h => by omega
  | 0, k + 1, a, _ => by
    have := hf a
    simp only [numF, Nat.pow_zero, Nat.div_one, Nat.add_zero]
    omega
  | i + 1, k + 1, a, h => by
    have h1 := hf a
    have e : numF f a (k + 1) / 256 ^ (i + 1) = numF f (a + 1) k / 256 ^ i := by
      rw [Nat.pow_succ, Nat.mul_comm, ← Nat.div_div_eq_div_mul]
      congr 1
      simp only [numF]
      omega
    rw [e, numF_digit hf (i := i) (k := k) (a := a + 1) (by omega)]
    congr 1
    omega

theorem numF_whole {f : Nat → Nat} : ∀ {k w a : Nat}, w < 256 ^ k → (∀ j, j < k → f (a + j) = w / 256 ^ j % 256) → numF f a k = w
  | 0, w, _, h, _ => by simp only [Nat.pow_zero] at h; simp only [numF]; omega
  | k + 1, w, a, h, hf => by
    have h0 := hf 0 (by omega)
    have ih := numF_whole (f := f) (k := k) (w := w / 256) (a := a + 1) (by rw [Nat.pow_succ] at h; omega) fun j hj => by
      have := hf (j + 1) (by omega)
      rw [show a + 1 + j = a + (j + 1) by omega, this, Nat.pow_succ, Nat.mul_comm, ← Nat.div_div_eq_div_mul]
    simp only [Nat.add_zero, Nat.pow_zero, Nat.div_one] at h0
    simp only [numF, ih, h0]
    omega

/-- The byte at a place of words. -/
def wbyte (ws : List Nat) (j : Nat) : Nat := ws.getD (j / 8) 0 / 256 ^ (j % 8) % 256
theorem wbyte_lt (ws : List Nat) (j : Nat) : wbyte ws j < 256 := Nat.mod_lt _ (by omega)
def unpack (n : Nat) (ws : List Nat) : ByteArray := ⟨((List.range n).map fun j => UInt8.ofNat (wbyte ws j)).toArray⟩
theorem unpack_size (n : Nat) (ws : List Nat) : (unpack n ws).size = n := by
  show (unpack n ws).data.size = n
  simp [unpack]
theorem byteAt_unpack (n : Nat) (ws : List Nat) (j : Nat) : byteAt (unpack n ws) j = if j < n then wbyte ws j else 0 := by
  by_cases h : j < n
  · have h' : (unpack n ws).data[j]? = some (UInt8.ofNat (wbyte ws j)) := by simp [unpack, h]
    have := wbyte_lt ws j
    simp only [byteAt, h', if_pos h, UInt8.toNat_ofNat']
    omega
  · rw [byteAt_out (by rw [unpack_size]; exact h), if_neg h]

theorem wbyte_word {ws : List Nat} (hw : ∀ w ∈ ws, w < 18446744073709551616) (i : Nat) : numF (wbyte ws) (8 * i) 8 = ws.getD i 0 := by
  refine numF_whole (k := 8) ?_ fun j hj => ?_
  · by_cases h : i < ws.length
    · rw [List.getD_eq_getElem?_getD, List.getElem?_eq_getElem h]
      exact hw _ (List.getElem_mem h)
    · rw [List.getD_eq_getElem?_getD, List.getElem?_eq_none (by omega)]
      simp
  · unfold wbyte
    rw [show (8 * i + j) / 8 = i by omega, show (8 * i + j) % 8 = j by omega]

/-- Words that are a text's: what is behind its bytes is 0. -/
theorem packed_unpack {n : Nat} {ws : List Nat} (hl : ws.length = (n + 7) / 8) (hw : ∀ w ∈ ws, w < 18446744073709551616) : packed (unpack n ws) = ws ↔ ∀ j, n ≤ j → j < 8 * ws.length → wbyte ws j = 0 := by
  have hlen : (packed (unpack n ws)).length = ws.length := by rw [packed_len, unpack_size, hl]
  have hat : ∀ i, i < ws.length → (packed (unpack n ws)).getD i 0 = numF (byteAt (unpack n ws)) (8 * i) 8 := fun i hi => by
    rw [List.getD_eq_getElem?_getD, packed]
    rw [unpack_size, ← hl]
    simp only [List.getElem?_map, List.getElem?_range hi, Option.map_some, Option.getD_some, num_numF]
  constructor
  · intro h j h1 h2
    have e := hat (j / 8) (by omega)
    rw [h, ← wbyte_word hw] at e
    have := numF_inj (wbyte_lt ws) (fun j => byteAt_lt _ j) e j (by omega) (by omega)
    rw [this, byteAt_unpack, if_neg (by omega)]
  · intro h
    refine List.ext_getElem hlen fun i h1 h2 => ?_
    have e := hat i h2
    rw [List.getD_eq_getElem?_getD, List.getElem?_eq_getElem h1] at e
    have e2 := wbyte_word hw i
    rw [List.getD_eq_getElem?_getD, List.getElem?_eq_getElem h2] at e2
    simp only [Option.getD_some] at e e2
    rw [e, ← e2]
    refine numF_congr fun j h3 h4 => ?_
    rw [byteAt_unpack]
    split
    · rfl
    · exact (h j (by omega) (by omega)).symm

theorem bytes_ext {s t : ByteArray} (hs : s.size = t.size) (h : ∀ j, j < s.size → byteAt s j = byteAt t j) : s = t := by
  have : s.data = t.data := by
    refine Array.ext hs fun j h1 h2 => ?_
    have := h j h1
    simp only [byteAt, Array.getElem?_eq_getElem h1, Array.getElem?_eq_getElem h2] at this
    exact UInt8.toNat_inj.1 this
  cases s; cases t; simp_all

theorem wbyte_packed (s : ByteArray) {j : Nat} (h : j < 8 * ((s.size + 7) / 8)) : wbyte (packed s) j = byteAt s j := by
  have e : (packed s).getD (j / 8) 0 = numF (byteAt s) (8 * (j / 8)) 8 := by
    rw [List.getD_eq_getElem?_getD, packed]
    have hi : j / 8 < (s.size + 7) / 8 := by omega
    simp only [List.getElem?_map, List.getElem?_range hi, Option.map_some, Option.getD_some, num_numF]
  unfold wbyte
  rw [e, numF_digit (byteAt_lt s) (by omega)]
  congr 1
  omega

theorem unpack_packed (s : ByteArray) : unpack s.size (packed s) = s := by
  refine bytes_ext (unpack_size _ _) fun j hj => ?_
  rw [unpack_size] at hj
  rw [byteAt_unpack, if_pos hj, wbyte_packed s (by omega)]

theorem packed_lt (s : ByteArray) : ∀ w ∈ packed s, w < 18446744073709551616 := fun w hw => by
  obtain ⟨i, _, rfl⟩ := List.mem_map.1 hw
  exact num8_lt s _

/-! ### What is read -/
def backI (w : Nat) : Int := if w % 2 = 0 then ((w / 2 : Nat) : Int) else -((w / 2 : Nat) : Int) - 1
theorem backI_signed (x : Int) : backI (signed x) = x := by
  unfold backI signed
  split <;> split <;> omega
theorem backI_in {w : Nat} (h : w < 18446744073709551616) : -9223372036854775808 ≤ backI w ∧ backI w ≤ 9223372036854775807 := by
  unfold backI
  split <;> omega
theorem signed_lt {x : Int} (h1 : -9223372036854775808 ≤ x) (h2 : x ≤ 9223372036854775807) : signed x < 18446744073709551616 := by
  unfold signed
  split <;> omega

/-- What is read of words: a value, and what is left. -/
abbrev Rd (α : Type) := List Nat → Option (α × List Nat)
def rdCount (most : Int) : Rd Int
  | [] => none
  | w :: l => if 0 ≤ most ∧ (w : Int) ≤ most then some ((w : Int), l) else none
def rdSigned : Rd Int
  | [] => none
  | w :: l => some (backI w, l)
def rdFlag : Rd Bool := fun l => (rdCount 1 l).map fun p => (decide (p.1 = 1), p.2)
def rdTake (n : Nat) : Rd (List Nat) := fun l => if n ≤ l.length then some (l.take n, l.drop n) else none
def rdWords (most : Int) : Rd (List Nat) := fun l => (rdCount most l).bind fun p => rdTake p.1.toNat p.2
def rdText : Rd ByteArray := fun l => (rdCount 64 l).bind fun p => (rdTake ((p.1.toNat + 7) / 8) p.2).bind fun q => if packed (unpack p.1.toNat q.1) = q.1 then some (unpack p.1.toNat q.1, q.2) else none

theorem rdText_write (s : ByteArray) (l : List Nat) : rdText (textW s ++ l) = some (cut64 s, l) := by
  have h := cut64_size s
  have hl := packed_len (cut64 s)
  have e1 : rdCount 64 (textW s ++ l) = some (((cut64 s).size : Int), packed (cut64 s) ++ l) := by
    simp only [textW, rdCount, List.cons_append]
    rw [if_pos (by omega)]
  simp only [rdText, e1, Option.bind_some, Int.toNat_natCast]
  have e2 : rdTake (((cut64 s).size + 7) / 8) (packed (cut64 s) ++ l) = some (packed (cut64 s), l) := by
    unfold rdTake
    rw [if_pos (by rw [List.length_append, hl]; omega), ← hl, List.take_left, List.drop_left]
  rw [e2]
  simp only [Option.bind_some, unpack_packed, if_true]
end Go.Proofs

/- The program's reader of codes. -/
namespace Go.Proofs
open Go Go.RowKit Go.Am

theorem CallP.wkr {f : FuncId} {args : List AV} {h : H} {K K' : AV → H → Prop} (hc : CallP Try.prog f args h K) (hk : ∀ r h1, K r h1 → K' (wk r) h1) : CallP Try.prog f args h K' :=
  hc.gh fun r h1 q => ⟨h1, wk r, .weak (fun w g V hv => hv.wk) (.refl _ _), hk r h1 q⟩

/-- A reader's state: the words that are left; none: it isn't right. -/
abbrev RS := Option (List Nat)
def encRS : RS → List AV
  | some l => [encW l, .bool false]
  | none => [.any1, .bool true]
def Bd (s : RS) : Prop := ∀ l, s = some l → l.length ≤ 1000000 ∧ ∀ w ∈ l, w < 18446744073709551616
structure RIs (h : H) (b : Nat) (s : RS) : Prop where
  blt : b < h.bn
  bx : h.bx b = some (encRS s)
  bd : Bd s
structure RTo (h : H) (b : Nat) (h' : H) (s' : RS) : Prop where
  keep : HF h h' (· = b) (fun _ => False)
  is : RIs h' b s'
/-- Where a piece of reading ends. -/
def RFin (h : H) (b : Nat) (h' : H) (s' : RS) : Prop := HF h h' (· = b) (fun _ => False) ∧ ∃ cs1, h'.bx b = some cs1 ∧ WkL cs1 (encRS s')
theorem RTo.fin {h h' : H} {b : Nat} {s' : RS} (a : RTo h b h' s') : RFin h b h' s' := ⟨a.keep, _, a.is.bx, WkL.refl _⟩
theorem RFin.bad {h h' : H} {b : Nat} {v : AV} (a : HF h h' (· = b) (fun _ => False)) (hb : h'.bx b = some [v, .bool true]) : RFin h b h' none := ⟨a, _, hb, .cons (.any v) (.cons (.refl _) .nil)⟩
theorem RFin.set {h h' : H} {b : Nat} {v : AV} (a : HF h h' (· = b) (fun _ => False)) : RFin h b (h'.set b [v, .bool true]) none := RFin.bad (v := v) (a.trans (HF.set _ rfl)) (by simp)
theorem RFin.ok {h h' : H} {b : Nat} {cs : List AV} {s : RS} (a : HF h h' (· = b) (fun _ => False)) (e : cs = encRS s) : RFin h b (h'.set b cs) s := by
  subst e
  exact ⟨a.trans (HF.set _ rfl), _, by simp, WkL.refl _⟩
theorem pure_encRS : ∀ (s : RS), ∀ v ∈ encRS s, PureV v
  | some l => pures_cons (pure_w64 l) (pures1 (.bool _))
  | none => pures_cons .any1 (pures1 (.bool _))
theorem RTo.trans {h h1 h2 : H} {b : Nat} {s1 s2 : RS} (a : RTo h b h1 s1) (c : RTo h1 b h2 s2) : RTo h b h2 s2 := ⟨a.keep.trans c.keep, c.is⟩
theorem RTo.refl {h : H} {b : Nat} {s : RS} (a : RIs h b s) : RTo h b h s := ⟨HF.refl _ _ _, a⟩
theorem RTo.set {h : H} {b : Nat} {s s' : RS} (a : RIs h b s) (hb : Bd s') : RTo h b (h.set b (encRS s')) s' := ⟨HF.set _ rfl, by simpa using a.blt, by simp, hb⟩
theorem RIs.alloc {h : H} {b : Nat} {s : RS} (a : RIs h b s) (cs : List AV) : RIs (h.alloc cs) b s := by
  have h1 := a.blt
  have hne : b ≠ h.bn := by omega
  exact ⟨by simp; omega, by simpa [hne] using a.bx, a.bd⟩
theorem RTo.alloc {h h' : H} {b : Nat} {s : RS} {cs : List AV} (a : RTo (h.alloc cs) b h' s) : RTo h b h' s := ⟨(HF.alloc h cs _ _).trans a.keep, a.is⟩
theorem RIs.keep {h h' : H} {b : Nat} {s : RS} (a : RIs h b s) {B T : Nat → Prop} (e : HF h h' B T) (hb : ¬ B b) : RIs h' b s :=
  ⟨Nat.lt_of_lt_of_le a.blt e.bn, (e.bx b a.blt hb).trans a.bx, a.bd⟩

/-- What a piece of reading made of a state. -/
def Got {α : Type} (p : Rd α) (s : RS) (a : α) (s' : RS) : Prop :=
  match s.bind p with
  | some (a', l') => a = a' ∧ s' = some l'
  | none => s' = none
def Rd.bind {α β : Type} (p : Rd α) (q : α → Rd β) : Rd β := fun l => (p l).bind fun x => q x.1 x.2
def Rd.pure {α : Type} (a : α) : Rd α := fun l => some (a, l)
theorem Got.bind {α β : Type} {p : Rd α} {q : α → Rd β} {s s1 s2 : RS} {a : α} {b : β} (h1 : Got p s a s1) (h2 : Got (q a) s1 b s2) : Got (p.bind q) s b s2 := by
  unfold Got at h1 h2 ⊢
  cases s with
  | none => simp only [Option.bind_none] at h1 ⊢; subst h1; simpa using h2
  | some l =>
    simp only [Option.bind_some, Rd.bind] at h1 ⊢
    cases hp : p l with
    | none => rw [hp] at h1; simp only at h1; subst h1; simpa using h2
    | some x => rw [hp] at h1; simp only at h1; obtain ⟨rfl, rfl⟩ := h1; simpa using h2
theorem Got.pure {α : Type} (a : α) (s : RS) : Got (Rd.pure a) s a s := by cases s <;> simp [Got, Rd.pure]
theorem Got.map {α β : Type} {p : Rd α} {f : α → β} {s s1 : RS} {a : α} (h1 : Got p s a s1) : Got (fun l => (p l).map fun x => (f x.1, x.2)) s (f a) s1 := by
  unfold Got at h1 ⊢
  cases s with
  | none => simpa using h1
  | some l =>
    simp only [Option.bind_some] at h1 ⊢
    cases hp : p l with
    | none => rw [hp] at h1; simpa using h1
    | some x => rw [hp] at h1; obtain ⟨rfl, rfl⟩ := h1; simp
/-- A piece that is read; else d. -/
def runS {α : Type} (p : Rd α) (d : α) (s : RS) : α × RS := (s.bind p).elim (d, none) fun x => (x.1, some x.2)
theorem Got.runS {α : Type} (p : Rd α) (d : α) (s : RS) : Got p s (Proofs.runS p d s).1 (Proofs.runS p d s).2 := by
  unfold Got Proofs.runS
  cases s.bind p <;> simp

theorem newReader_ok (l : List Nat) (h : H) : SCall Try.prog 25 [encW l] h (.ptr h.bn 0) (h.alloc (encRS (some l))) := by
  refine SCall.new (CallP.run hb25 ok25 (by simp) ?_) (pure_encRS _)
  simp -implicitDefEqProofs
  exact ⟨HF.alloc _ _ _ _, WkL.refl _⟩

theorem RIs.new {l : List Nat} (hl : Bd (some l)) (h : H) : RIs (h.alloc (encRS (some l))) h.bn (some l) := ⟨by simp, by simp, hl⟩

theorem rOk_ok {h : H} {b : Nat} {s : RS} (hr : RIs h b s) : SCall Try.prog 28 [.ptr b 0] h (.bool s.isSome) h := by
  refine SCall.ro (CallP.run hb28 ok28 (by simp) ?_) (.bool _)
  have h1 := hr.blt
  have h2 := hr.bx
  cases s <;> (simp -implicitDefEqProofs [h1, h2, encRS]; exact HF.refl _ _ _)

def endS : RS → Bool
  | some [] => true
  | _ => false

theorem rEnd_ok {h : H} {b : Nat} {s : RS} (hr : RIs h b s) : SCall Try.prog 29 [.ptr b 0] h (.bool (endS s)) h := by
  refine SCall.ro (CallP.run hb29 ok29 (by simp) ?_) (.bool _)
  have h1 := hr.blt
  have h2 := hr.bx
  cases s with
  | none => simp -implicitDefEqProofs [h1, h2, encRS, endS]; exact HF.refl _ _ _
  | some l =>
    cases l with
    | nil => simp -implicitDefEqProofs [h1, h2, encRS, endS]; exact HF.refl _ _ _
    | cons w l =>
      have : ¬ (l.length : Int) + 1 = 0 := by omega
      simp -implicitDefEqProofs [h1, h2, encRS, endS, this]; exact HF.refl _ _ _

/-- A piece of reading: its value, and what is left; where it isn't right, d. -/
structure RdS {α : Type} (f : FuncId) (args : List AV) (h : H) (b : Nat) (s : RS) (p : Rd α) (d : α) (enc : α → AV) : Prop where
  call : SCall Try.prog f args h (enc (runS p d s).1) (h.set b (encRS (runS p d s).2))
  to : RTo h b (h.set b (encRS (runS p d s).2)) (runS p d s).2

/-- What is left is of what there was. -/
def RdOK {α : Type} (p : Rd α) : Prop := ∀ l a l', p l = some (a, l') → l'.length ≤ l.length ∧ ∀ w ∈ l', w ∈ l
theorem RdOK.bd {α : Type} {p : Rd α} (hp : RdOK p) (d : α) {s : RS} (hs : Bd s) : Bd (runS p d s).2 := fun l' e => by
  unfold runS at e
  cases s with
  | none => simp at e
  | some l =>
    cases hq : p l with
    | none => simp [hq] at e
    | some x =>
      simp [hq] at e; subst e
      obtain ⟨h1, h2⟩ := hs l rfl
      obtain ⟨h3, h4⟩ := hp l x.1 x.2 hq
      exact ⟨Nat.le_trans h3 h1, fun w hw => h2 w (h4 w hw)⟩
theorem RdOK.bind {α β : Type} {p : Rd α} {q : α → Rd β} (hp : RdOK p) (hq : ∀ a, RdOK (q a)) : RdOK (p.bind q) := fun l b l' e => by
  simp only [Rd.bind, Option.bind_eq_some_iff] at e
  obtain ⟨x, e1, e2⟩ := e
  obtain ⟨h1, h2⟩ := hp l x.1 x.2 e1
  obtain ⟨h3, h4⟩ := hq x.1 x.2 b l' e2
  exact ⟨Nat.le_trans h3 h1, fun w hw => h2 w (h4 w hw)⟩
theorem RdOK.pure {α : Type} (a : α) : RdOK (Rd.pure a) := fun l b l' e => by
  simp only [Rd.pure, Option.some.injEq, Prod.mk.injEq] at e
  rw [e.2]; exact ⟨Nat.le_refl _, fun w hw => hw⟩

theorem RdS.mk' {α : Type} {f : FuncId} {args : List AV} {h : H} {b : Nat} {s : RS} {p : Rd α} {d : α} {enc : α → AV} (hr : RIs h b s) (hp : RdOK p) (hv : ∀ a, PureV (enc a)) (hc : CallP Try.prog f args h fun r h1 => wk r = enc (runS p d s).1 ∧ RFin h b h1 (runS p d s).2) : RdS f args h b s p d enc :=
  ⟨SCall.upd hr.blt (hc.mono fun r h1 ⟨q1, q2, q3⟩ => ⟨q1, q2, q3⟩) (hv _) (pure_encRS _), RTo.set hr (hp.bd d hr.bd)⟩

def rdNext (p : Nat → Bool) : Rd Nat
  | [] => none
  | w :: l => if p w = true then some (w, l) else none
theorem rdNext_ok (p : Nat → Bool) : RdOK (rdNext p) := fun l a l' e => by
  cases l with
  | nil => simp [rdNext] at e
  | cons v l =>
    simp only [rdNext] at e
    split at e
    · cases e; exact ⟨by simp, fun w hw => List.mem_cons_of_mem _ hw⟩
    · cases e

theorem next_ok {h : H} {b : Nat} {s : RS} (hr : RIs h b s) {F : FuncId} {first caps : List AV} {p : Nat → Bool} (hw : first.map wk = first) (hw' : caps.map wk = caps) (hp : ∀ w : Nat, SCall Try.prog F (first ++ [.int .u64 w] ++ caps) h (.bool (p w)) h) :
    RdS 105 [.ptr b 0, .fn F first caps] h b s (rdNext p) 0 (fun n => .int .u64 n) := by
  refine RdS.mk' hr (rdNext_ok p) (fun _ => .int _ _) (CallP.run hb105 ok105 (by simp) ?_)
  have h1 := hr.blt
  have h2 := hr.bx
  cases s with
  | none =>
    simp -implicitDefEqProofs [h1, h2, runS, encRS]
    exact RFin.set (HF.refl _ _ _)
  | some l =>
    cases l with
    | nil =>
      simp -implicitDefEqProofs [h1, h2, runS, rdNext, encRS]
      exact RFin.set (HF.refl _ _ _)
    | cons w l =>
      have e0 : ¬ (l.length : Int) + 1 = 0 := by omega
      simp -implicitDefEqProofs [h1, h2, e0, w64, encRS]
      refine callQ_s (hp w) (by simp [hw, hw']) ?_
      cases hpw : p w
      · simp -implicitDefEqProofs [h1, h2, hpw, runS, rdNext, w64, encRS]
        exact RFin.set (HF.refl _ _ _)
      · have e1 : (0 : Int) ≤ (l.length : Int) + 1 := by omega
        have e2 : (1 : Int) ≤ (l.length : Int) + 1 := by omega
        simp -implicitDefEqProofs [h1, h2, hpw, runS, rdNext, w64, e1, e2, bndOf, encRS]
        exact RFin.ok (HF.refl _ _ _) rfl

theorem runS_next {p : Nat → Bool} {α : Type} {q : Rd α} {d : α} {f : Nat → α} (hd : d = f 0) (hq : ∀ l, q l = (rdNext p l).map fun x => (f x.1, x.2)) (s : RS) : runS q d s = (f (runS (rdNext p) 0 s).1, (runS (rdNext p) 0 s).2) := by
  unfold runS
  cases s with
  | none => simp [hd]
  | some l =>
    simp only [Option.bind_some, hq]
    cases rdNext p l <;> simp [hd]
theorem rdCount_next (most : Int) (l : List Nat) : rdCount most l = (rdNext (fun w => decide (0 ≤ most ∧ (w : Int) ≤ most)) l).map fun x => ((x.1 : Int), x.2) := by
  cases l with
  | nil => rfl
  | cons w l => simp only [rdCount, rdNext, decide_eq_true_eq]; split <;> rfl
theorem rdSigned_next (l : List Nat) : rdSigned l = (rdNext (fun _ => true) l).map fun x => (backI x.1, x.2) := by
  cases l <;> rfl

theorem runS_next_lt {p : Nat → Bool} {s : RS} (h : Bd s) : (runS (rdNext p) 0 s).1 < 18446744073709551616 := by
  unfold runS
  cases s with
  | none => simp
  | some l =>
    cases l with
    | nil => simp [rdNext]
    | cons w l =>
      simp only [Option.bind_some, rdNext]
      split
      · exact (h _ rfl).2 w (List.mem_cons_self ..)
      · simp

theorem count1_ok {h : H} {c : Nat} {most : Int} (hc : c < h.bn) (hb : h.bx c = some [.int .i64 most]) (hm : inI most) (w : Nat) : SCall Try.prog 106 [.int .u64 w, .ptr c 0] h (.bool (decide (0 ≤ most ∧ (w : Int) ≤ most))) h := by
  refine SCall.ro (CallP.run hb106 ok106 (by simp) ?_) (.bool _)
  obtain ⟨m1, m2⟩ := hm
  by_cases h0 : 0 ≤ most
  · simp -implicitDefEqProofs [hc, hb, h0, wrap_u64 (x := most) (by omega) (by omega)]
    exact HF.refl _ _ _
  · simp -implicitDefEqProofs [hc, hb, h0]
    exact HF.refl _ _ _

theorem rdMap_ok {α β : Type} {p : Rd α} {q : Rd β} {f : α → β} (hp : RdOK p) (hq : ∀ l, q l = (p l).map fun x => (f x.1, x.2)) : RdOK q := fun l b l' e => by
  rw [hq, Option.map_eq_some_iff] at e
  obtain ⟨x, e1, e2⟩ := e
  cases e2
  exact hp l x.1 x.2 e1
theorem rdCount_ok (most : Int) : RdOK (rdCount most) := rdMap_ok (rdNext_ok _) (rdCount_next most)
theorem rdSigned_ok : RdOK rdSigned := rdMap_ok (rdNext_ok _) rdSigned_next
theorem rdFlag_ok : RdOK rdFlag := rdMap_ok (f := fun n : Int => decide (n = 1)) (rdCount_ok 1) fun _ => rfl
theorem rdTake_ok (n : Nat) : RdOK (rdTake n) := fun l b l' e => by
  simp only [rdTake] at e
  split at e
  · cases e; exact ⟨by simp, fun w hw => List.mem_of_mem_drop hw⟩
  · cases e
theorem rdWords_ok (most : Int) : RdOK (rdWords most) := RdOK.bind (rdCount_ok most) fun _ => rdTake_ok _
theorem rdText_bind : rdText = (rdCount 64).bind fun n => (rdTake ((n.toNat + 7) / 8)).bind fun ws => fun l => if packed (unpack n.toNat ws) = ws then some (unpack n.toNat ws, l) else none := rfl
theorem rdText_ok : RdOK rdText := by
  rw [rdText_bind]
  refine RdOK.bind (rdCount_ok 64) fun n => RdOK.bind (rdTake_ok _) fun ws => fun l b l' e => ?_
  split at e
  · cases e; exact ⟨Nat.le_refl _, fun w hw => hw⟩
  · cases e

theorem rdCount_in {most : Int} (hm : inI most) (s : RS) : 0 ≤ (runS (rdCount most) 0 s).1 ∧ ((runS (rdCount most) 0 s).1 ≤ most ∨ (runS (rdCount most) 0 s).1 = 0) := by
  unfold runS
  cases s with
  | none => simp
  | some l =>
    cases l with
    | nil => simp [rdCount]
    | cons w l =>
      simp only [Option.bind_some, rdCount]
      split
      · simp only [Option.elim]; omega
      · simp

theorem count_rd {h : H} {b : Nat} {s : RS} (hr : RIs h b s) {most : Int} (hm : inI most) : RdS 68 [.ptr b 0, .int .i64 most] h b s (rdCount most) 0 (.int .i64) := by
  refine RdS.mk' hr (rdCount_ok most) (fun _ => .int _ _) (CallP.run hb68 ok68 (by simp) ?_)
  simp -implicitDefEqProofs
  have hn := next_ok (hr.alloc [.int .i64 most]) (F := 106) (first := []) (caps := [.ptr h.bn 0]) rfl (by simp) fun w => count1_ok (by simp) (by simp) hm w
  refine callQ_s hn.call (by simp) ?_
  have q := hn.to
  have hx := runS_next (p := fun w => decide (0 ≤ most ∧ (w : Int) ≤ most)) (q := rdCount most) (d := 0) (f := fun w => (w : Int)) rfl (rdCount_next most) s
  have hin := rdCount_in hm s
  obtain ⟨m1, m2⟩ := hm
  rw [hx] at hin ⊢
  simp only at hin ⊢
  generalize runS (rdNext fun w => decide (0 ≤ most ∧ (w : Int) ≤ most)) 0 s = x at q hin
  simp -implicitDefEqProofs [wrap_i64 (x := (x.1 : Int)) (by omega) (by omega)]
  exact q.alloc.fin

theorem signed1_ok (w : Nat) (h : H) : SCall Try.prog 107 [.int .u64 w] h (.bool true) h := by
  refine SCall.ro (CallP.run hb107 ok107 (by simp) ?_) (.bool _)
  simp -implicitDefEqProofs
  exact HF.refl _ _ _

theorem back_bits {w : Nat} (hw : w < 18446744073709551616) : IntKind.i64.wrap
        ((((IntKind.i64.wrap ((w : Int).fdiv (2 ^ shAmt IntKind.u64 1)) % 2 ^ IntKind.i64.bits).toNat ^^^
            (IntKind.i64.wrap
                  (-IntKind.i64.wrap (IntKind.u64.wrap ((w % 2 ^ IntKind.u64.bits &&& 1 % 2 ^ IntKind.u64.bits : Nat) : Int))) %
                2 ^ IntKind.i64.bits).toNat : Nat)) : Int) =
      backI w := by
  have e1 : (2 : Int) ^ shAmt IntKind.u64 1 = 2 := rfl
  have e3 : (2 : Int) ^ IntKind.i64.bits = 18446744073709551616 := rfl
  have e4 : (2 : Nat) ^ IntKind.u64.bits = 18446744073709551616 := rfl
  have wi : ∀ y : Int, IntKind.i64.wrap y = (if 9223372036854775808 ≤ y % 18446744073709551616 then y % 18446744073709551616 - 18446744073709551616 else y % 18446744073709551616) := fun y => by simp [IntKind.wrap, IntKind.bits, IntKind.signed]
  rw [e1, e3, e4, Nat.mod_eq_of_lt hw, show 1 % 18446744073709551616 = 1 from rfl, Nat.and_one_is_mod, Int.fdiv_eq_ediv_of_nonneg _ (by omega), wrap_i64 (x := (w : Int) / 2) (by omega) (by omega), wrap_u64 (by omega) (by omega), wrap_i64 (x := ((w % 2 : Nat) : Int)) (by omega) (by omega), wrap_i64 (x := -((w % 2 : Nat) : Int)) (by omega) (by omega)]
  have e5 : ((w : Int) / 2 % 18446744073709551616).toNat = w / 2 := by omega
  rw [e5]
  unfold backI
  rcases Nat.mod_two_eq_zero_or_one w with h | h
  · rw [h, if_pos rfl]
    have e6 : (-((0 : Nat) : Int) % 18446744073709551616).toNat = 0 := by decide
    rw [e6, Nat.xor_zero]
    exact wrap_i64 (by omega) (by omega)
  · rw [h, if_neg (by omega)]
    have e6 : (-((1 : Nat) : Int) % 18446744073709551616).toNat = 18446744073709551615 := by decide
    rw [e6, xor_ones _ (by omega), wi]
    split <;> omega

theorem signed_rd {h : H} {b : Nat} {s : RS} (hr : RIs h b s) : RdS 69 [.ptr b 0] h b s rdSigned 0 (.int .i64) := by
  refine RdS.mk' hr rdSigned_ok (fun _ => .int _ _) (CallP.run hb69 ok69 (by simp) ?_)
  simp -implicitDefEqProofs
  have hn := next_ok hr (F := 107) (first := []) (caps := []) rfl rfl fun w => signed1_ok w h
  refine callQ_s hn.call (by simp) ?_
  have q := hn.to
  have hx := runS_next (p := fun _ => true) (q := rdSigned) (d := 0) (f := backI) rfl rdSigned_next s
  have hlt := runS_next_lt (p := fun _ => true) hr.bd
  rw [hx]
  generalize runS (rdNext fun _ => true) 0 s = x at q hlt
  simp -implicitDefEqProofs
  exact ⟨back_bits hlt, q.fin⟩

theorem flag_rd {h : H} {b : Nat} {s : RS} (hr : RIs h b s) : RdS 70 [.ptr b 0] h b s rdFlag false .bool := by
  refine RdS.mk' hr rdFlag_ok (fun _ => .bool _) (CallP.run hb70 ok70 (by simp) ?_)
  simp -implicitDefEqProofs
  have hn := count_rd hr (most := 1) ⟨by omega, by omega⟩
  refine callQ_s hn.call (by simp) ?_
  have q := hn.to
  have hx : runS rdFlag false s = (decide ((runS (rdCount 1) 0 s).1 = 1), (runS (rdCount 1) 0 s).2) := by
    have key : ∀ o : Option (Int × List Nat), ((o.map fun p => (decide (p.1 = 1), p.2)).elim (false, none) fun x => (x.1, some x.2) : Bool × RS) = (decide ((o.elim (0, none) fun x => (x.1, some x.2) : Int × RS).1 = 1), (o.elim (0, none) fun x => (x.1, some x.2) : Int × RS).2) := fun o => by cases o <;> first | rfl | simp
    cases s with
    | none => rfl
    | some l => exact key _
  rw [hx]
  simp -implicitDefEqProofs
  exact q.fin

theorem take_rd {h : H} {b : Nat} {s : RS} (hr : RIs h b s) {n : Nat} (hn : n ≤ 9223372036854775807) : RdS 108 [.ptr b 0, .int .i64 n] h b s (rdTake n) [] encW := by
  refine RdS.mk' hr (rdTake_ok n) pure_w64 (CallP.run hb108 ok108 (by simp) ?_)
  have h1 := hr.blt
  have h2 := hr.bx
  cases s with
  | none =>
    simp -implicitDefEqProofs [h1, h2, runS, encRS]
    exact RFin.set (HF.refl _ _ _)
  | some l =>
    by_cases hl : l.length < n
    · simp -implicitDefEqProofs [h1, h2, hl, runS, rdTake, show ¬ n ≤ l.length by omega, encRS]
      exact RFin.set (HF.refl _ _ _)
    · have hle : n ≤ l.length := by omega
      simp -implicitDefEqProofs [h1, h2, hl, -bndOf, bnd_nat hle, bnd_none, encRS]
      have hlen := (hr.bd l rfl).1
      refine callQ_p (clone_ok (l.take n) (by simp; omega)) (by simp) ?_
      simp -implicitDefEqProofs [h1, h2, -bndOf, bnd_nat hle, bnd_none, runS, rdTake, hle, w64, encRS]
      exact RFin.ok (HF.refl _ _ _) (by simp [encRS])

theorem runS_bind {α β : Type} (p : Rd α) (q : α → Rd β) (d1 : α) (d : β) (s : RS) : runS (p.bind q) d s = runS (q (runS p d1 s).1) d (runS p d1 s).2 := by
  unfold runS Rd.bind
  cases s with
  | none => rfl
  | some l =>
    simp only [Option.bind_some]
    cases p l <;> rfl

theorem words_rd {h : H} {b : Nat} {s : RS} (hr : RIs h b s) {most : Int} (hm : inI most) : RdS 72 [.ptr b 0, .int .i64 most] h b s (rdWords most) [] encW := by
  refine RdS.mk' hr (rdWords_ok most) pure_w64 (CallP.run hb72 ok72 (by simp) ?_)
  simp -implicitDefEqProofs
  have hn := count_rd hr hm
  refine callQ_s hn.call (by simp) ?_
  have q := hn.to
  clear hn
  have hx := runS_bind (rdCount most) (fun n => rdTake n.toNat) 0 [] s
  have hin := rdCount_in hm s
  have hm2 := hm.2
  change runS (rdWords most) [] s = _ at hx
  rw [hx]
  generalize runS (rdCount most) 0 s = x at q hin ⊢
  obtain ⟨n, hn⟩ : ∃ n : Nat, x.1 = n := ⟨x.1.toNat, by omega⟩
  rw [hn, Int.toNat_natCast]
  simp -implicitDefEqProofs [hn]
  have ht := take_rd q.is (n := n) (by omega)
  refine callQ_s ht.call (by simp) ?_
  simp -implicitDefEqProofs
  exact (q.trans ht.to).fin

theorem neOp_w64 : NeOp w64 false (.bin .neq (.t 19) (.t 23)) := fun P s h0 obl K x y hx hy hk => by
  simp only [elV, w64] at hx hy
  simp -implicitDefEqProofs [hx, hy]
  exact hk
theorem elOK_w64 : ElOK w64 1 false := ⟨fun _ => rfl, fun _ => rfl, fun n => pures1 (.int _ _), fun n => by simp [w64]⟩

theorem slEqual_ok (a b : List Nat) (ha : a.length ≤ 9223372036854775807) (hb : b.length ≤ 9223372036854775807) : PCall Try.prog 109 [encW a, encW b] (.bool (decide (a = b))) :=
  equal_gen hb109 ok109 elOK_w64 neOp_w64 c109_d7 a b ha hb

def encB (n : Nat) : List AV := [.int .u8 n]
theorem bytesOf_ok : ∀ (l : List Nat), bytesOfA (l.map encB) = some (l.map fun n : Nat => (n : Int))
  | [] => rfl
  | n :: l => by simp [bytesOfA, byteOfA, encB, bytesOf_ok l]
def wbytes (ws : List Nat) (j : Nat) : List Nat := (List.range j).map (wbyte ws)
@[simp] theorem wbytes_len (ws : List Nat) (j : Nat) : (wbytes ws j).length = j := by simp [wbytes]
theorem wbytes_succ (ws : List Nat) (j : Nat) : wbytes ws (j + 1) = wbytes ws j ++ [wbyte ws j] := by simp [wbytes, List.range_succ]
theorem wbyte_bits {ws : List Nat} {j : Nat} (h : j / 8 < ws.length) : IntKind.u8.wrap (((ws[j / 8] : Nat) : Int).fdiv (2 ^ (8 * (j % 8)))) = (wbyte ws j : Int) := by
  have e : (2 : Int) ^ (8 * (j % 8)) = ((256 ^ (j % 8) : Nat) : Int) := by
    rw [Int.pow_mul]; simp
  have w8 : ∀ y : Int, IntKind.u8.wrap y = y % 256 := fun y => by simp [IntKind.wrap, IntKind.bits, IntKind.signed]
  rw [e, Int.fdiv_eq_ediv_of_nonneg _ (Int.natCast_nonneg _), w8]
  unfold wbyte
  rw [List.getD_eq_getElem?_getD, List.getElem?_eq_getElem h]
  simp
theorem strOf_unpack (n : Nat) (ws : List Nat) : strOfNums ((wbytes ws n).map fun n : Nat => (n : Int)) = unpack n ws := by
  unfold unpack strOfNums wbytes
  simp only [List.map_map]
  rfl
theorem encB_len (us : List Nat) : ∀ e ∈ us.map encB, e.length = 1 := fun e he => by
  obtain ⟨n, _, rfl⟩ := List.mem_map.1 he
  rfl
theorem rdTake_inv {k : Nat} {s : RS} {l2 : List Nat} (h : (runS (rdTake k) [] s).2 = some l2) : ∃ l, s = some l ∧ k ≤ l.length ∧ (runS (rdTake k) [] s).1 = l.take k ∧ l2 = l.drop k := by
  unfold runS at h ⊢
  cases s with
  | none => simp at h
  | some l =>
    simp only [Option.bind_some, rdTake] at h ⊢
    split at h
    · rename_i hk
      simp at h
      exact ⟨l, rfl, hk, by simp [hk], h.symm⟩
    · simp at h

theorem text_rd {h : H} {b : Nat} {s : RS} (hr : RIs h b s) : RdS 71 [.ptr b 0] h b s rdText ⟨#[]⟩ .str := by
  refine RdS.mk' hr rdText_ok (fun _ => .str _) (CallP.run hb71 ok71 (by simp) ?_)
  simp -implicitDefEqProofs
  have hc := count_rd hr (most := 64) ⟨by omega, by omega⟩
  refine callQ_s hc.call (by simp) ?_
  have q := hc.to
  clear hc
  have hin := rdCount_in (most := 64) ⟨by omega, by omega⟩ s
  have hx := runS_bind (rdCount 64) (fun n => (rdTake ((n.toNat + 7) / 8)).bind fun ws => fun l => if packed (unpack n.toNat ws) = ws then some (unpack n.toNat ws, l) else none) 0 ⟨#[]⟩ s
  change runS rdText ⟨#[]⟩ s = _ at hx
  rw [hx]
  clear hx
  generalize runS (rdCount 64) 0 s = x at q hin ⊢
  generalize h.set b (encRS x.2) = h1 at q ⊢
  obtain ⟨n, hn⟩ : ∃ n : Nat, x.1 = n := ⟨x.1.toNat, by omega⟩
  have hn64 : n ≤ 64 := by omega
  have e1 : IntKind.i64.wrap ((n : Int) + 8) = (n : Int) + 8 := wrap_i64 (by omega) (by omega)
  have e2 : IntKind.i64.wrap ((n : Int) + 8 - 1) = (n : Int) + 8 - 1 := wrap_i64 (by omega) (by omega)
  have e3 : IntKind.i64.wrap (((n : Int) + 8 - 1).tdiv 8) = (((n + 7) / 8 : Nat) : Int) := by
    rw [Int.tdiv_eq_ediv_of_nonneg (by omega), wrap_i64 (by omega) (by omega)]
    omega
  rw [hn, Int.toNat_natCast, runS_bind _ _ []]
  simp -implicitDefEqProofs [hn, e1, e2, e3, -Int.natCast_ediv]
  have ht := take_rd q.is (n := (n + 7) / 8) (by omega)
  refine callQ_s ht.call (by simp) ?_
  have q2 := ht.to
  clear ht
  have hinv := @rdTake_inv ((n + 7) / 8) x.2
  have hq2 := q.trans q2
  generalize runS (rdTake ((n + 7) / 8)) [] x.2 = y at q2 hinv hq2 ⊢
  generalize h1.set b (encRS y.2) = h2 at q2 hq2 ⊢
  obtain ⟨ws, s2⟩ := y
  simp only at q2 hinv hq2 ⊢
  have hlt : b < h2.bn := q2.is.blt
  have hbx := q2.is.bx
  cases s2 with
  | none =>
    simp -implicitDefEqProofs [hlt, hbx, runS, encRS]
    exact hq2.fin
  | some l2 =>
    obtain ⟨l, hl, hk, hws, hl2⟩ := hinv rfl
    have hlw := (q.is.bd l hl).2
    simp only [encRS] at hbx
    have hwl : ws.length = (n + 7) / 8 := by rw [hws]; simp; omega
    have hww : ∀ w ∈ ws, w < 18446744073709551616 := fun w hw => hlw w (List.mem_of_mem_take (hws ▸ hw))
    simp -implicitDefEqProofs [hlt, hbx, hn]
    refine run_loop (fun m s h => ∃ (j : Nat) (t : Tok), m = n - j ∧ j ≤ n ∧ s 0 = .ptr b 0 ∧ s 4 = encW ws ∧ s 5 = .sl t ((wbytes ws j).map encB) ∧ TLive h t j ∧ HF h2 h (fun _ => False) (fun _ => False) ∧ (∀ i, t = .own i → h2.tn ≤ i) ∧ s 19 = .int .i64 n ∧ s 20 = .int .i64 j) ?_ n ?_
    · rintro m s h3 ⟨j, t, hm, hj, h0, h4, h5, hlv, hf, hown, h19, h20⟩ ih
      simp -implicitDefEqProofs [h19, h20]
      by_cases hjn : j < n
      · have i1 : idxOf (.int .i64 ((j / 8 : Nat) : Int)) ws.length = some (j / 8) := idxOf_nat (by omega)
        have hj8 : j / 8 < ws.length := by omega
        have q1 : ((j : Int)).tdiv 8 = ((j / 8 : Nat) : Int) := by rw [Int.tdiv_eq_ediv_of_nonneg (by omega)]; omega
        have q3 : ((j : Int)).tmod 8 = ((j % 8 : Nat) : Int) := by rw [Int.tmod_eq_emod_of_nonneg (by omega)]; omega
        have q4 : IntKind.i64.wrap ((j / 8 : Nat) : Int) = ((j / 8 : Nat) : Int) := wrap_i64 (by omega) (by omega)
        have q5 : IntKind.i64.wrap (8 * ((j % 8 : Nat) : Int)) = ((8 * (j % 8) : Nat) : Int) := by rw [wrap_i64 (by omega) (by omega)]; omega
        have q6 : ¬ ((8 * (j % 8) : Nat) : Int) < 0 := by omega
        have q7 : shAmt .u64 ((8 * (j % 8) : Nat) : Int) = 8 * (j % 8) := by simp only [shAmt, IntKind.bits, Int.toNat_natCast]; omega
        have q8 : IntKind.u8.wrap (((ws[j / 8] : Nat) : Int).fdiv (2 ^ (8 * (j % 8)))) = (wbyte ws j : Int) := wbyte_bits hj8
        simp -implicitDefEqProofs [hjn, h20, h4, h5, i1, hj8, q1, q3, q4, q5, q6, q7, q8, w64, -idxOf, -Int.natCast_ediv, -Int.natCast_emod, -Int.natCast_mul]
        refine appQ_tok (es2 := [encB (wbyte ws j)]) (by simpa using hlv) (encB_len _) (by simp [srcA, encB]) (by simp; omega) fun t' h4' p1 p2 p3 p4 => ?_
        simp -implicitDefEqProofs [h20, inc_i64 hjn (by omega), -Int.natCast_add]
        refine ih (n - (j + 1)) _ _ (by omega) ⟨j + 1, t', rfl, by omega, by simp [h0], by simp [h4], by simp [wbytes_succ], by simpa using p1, hf.trans' p3 (fun _ _ h => h) (fun i hi ho => ?_), (fun i hi => ?_), by simp [h19], by simp⟩
        · have := hown i ho; omega
        · rcases p2 with rfl | ⟨i', rfl, hi'⟩
          · exact hown i hi
          · cases hi; exact Nat.le_trans hf.tn hi'
      · have hjn' : j = n := by omega
        subst hjn'
        have hb3 : h3.bx b = some [encW l2, .bool false] := (hf.bx b hlt fun h => h).trans hbx
        have hlt3 : b < h3.bn := Nat.lt_of_lt_of_le hlt hf.bn
        simp -implicitDefEqProofs [hjn, h5, bytesOf_ok, strOf_unpack, -List.map_map]
        refine callQ_p (packed_ok (unpack j ws) (by rw [unpack_size]; omega)) (by simp) ?_
        simp -implicitDefEqProofs [h4]
        refine callQ_p (slEqual_ok (packed (unpack j ws)) ws (by rw [packed_len, unpack_size]; omega) (by omega)) (by simp) ?_
        by_cases hpk : packed (unpack j ws) = ws
        · simp -implicitDefEqProofs [hpk, h5, bytesOf_ok, strOf_unpack, -List.map_map, runS]
          exact RTo.fin ⟨hq2.keep.trans' hf (fun _ _ h => h.elim) (fun _ _ h => h), q2.is.keep hf fun h => h⟩
        · simp -implicitDefEqProofs [hpk, h0, hb3, hlt3, runS]
          exact RFin.set (hq2.keep.trans' hf (fun _ _ h => h.elim) (fun _ _ h => h))
    · exact ⟨0, .full, by simp, by omega, by simp, by simp, by simp [wbytes], trivial, HF.refl _ _ _, (fun i h => by cases h), by simp, by simp⟩
end Go.Proofs

/- The document's reader of codes: gimmalref01.Read. -/
namespace Go.Proofs
open Go Go.RowKit Go.Am

/-- A value that says less. -/
def Wkr (r r' : AV) : Prop := ∀ (w : World) (g : G) (V : Value), Rep w g r V → Rep w g r' V
theorem Wkr.refl (r : AV) : Wkr r r := fun _ _ _ h => h
theorem Wkr.wk {r r' : AV} (h : wk r = r') : Wkr r r' := fun _ _ _ h' => h ▸ h'.wk
theorem Wkr.tup {l l' : List AV} (hl : l.length = l'.length) (h : ∀ (k : Nat) (v v' : AV), l[k]? = some v → l'[k]? = some v' → Wkr v v') : Wkr (.tup l) (.tup l') := fun w g V hr => by
  cases hr with
  | tup cs C hC q =>
    refine .tup l' C (hl ▸ hC) fun k hk => ?_
    exact h k _ _ (List.getElem?_eq_getElem (by omega)) (List.getElem?_eq_getElem hk) w g _ (q k (by omega))
theorem Wkr.agg {l l' : List AV} (h : WkL l l') : Wkr (.agg l) (.agg l') := fun w g V hr => by
  cases hr with
  | agg cs C hC q q2 =>
    refine .agg l' C (h.len ▸ hC) (fun k hk => ?_) fun k hk => ?_
    · obtain ⟨v1, e1, e2⟩ := h.get k _ (List.getElem?_eq_getElem hk)
      obtain ⟨hk', rfl⟩ := List.getElem?_eq_some_iff.1 e1
      exact (e2 (q2 k hk')).2 w g _ (q k hk')
    · obtain ⟨v1, e1, e2⟩ := h.get k _ (List.getElem?_eq_getElem hk)
      obtain ⟨hk', rfl⟩ := List.getElem?_eq_some_iff.1 e1
      exact (e2 (q2 k hk')).1
theorem Wkr.one {v : AV} (h : ok1 v = true) : Wkr v .any1 := fun _ _ V hv => .any1 V (ok1_one hv h)
theorem Wkr.tup3 {a b c a' b' c' : AV} (h1 : Wkr a a') (h2 : Wkr b b') (h3 : Wkr c c') : Wkr (.tup [a, b, c]) (.tup [a', b', c']) := Wkr.tup rfl fun k v v' e e' => by
  rcases k with _ | _ | _ | k <;> simp at e e' <;> subst e e' <;> assumption

theorem PCall.runW {f : FuncId} {F : FnA} {args : List AV} {r : AV} (hb : HasBody Try.prog f) (hf : cFn Try.prog f = some F) (hargs : args.length ≤ F.N) (hp : ∀ v ∈ args, PureV v) (hpr : PureV r) (hw : wk r = r)
    (hr : Run Try.prog false [.c F.body] (retQ F.res fun r' _ => Wkr r' r) (slots0 args) H.nil) : PCall Try.prog f args r :=
  PCall.of ((CallP.body hb hf hargs hr).gh fun r' h1 hq => ⟨h1, r, .weak hq (.refl _ _), hw⟩) hp hpr

theorem refBack_ok (w : Nat) (hw : w < 18446744073709551616) : PCall Try.prog 67 [.int .u64 w] (.int .i64 (backI w)) := by
  refine PCall.run hb67 ok67 (by simp) (pures1 (.int _ _)) (.int _ _) ?_
  have e1 : ((w : Int)).tmod 2 = ((w % 2 : Nat) : Int) := by rw [Int.tmod_eq_emod_of_nonneg (by omega)]; omega
  have e2 : ((w : Int)).tdiv 2 = ((w / 2 : Nat) : Int) := by rw [Int.tdiv_eq_ediv_of_nonneg (by omega)]; omega
  have e3 : IntKind.u64.wrap ((w / 2 : Nat) : Int) = ((w / 2 : Nat) : Int) := wrap_u64 (by omega) (by omega)
  have e4 : IntKind.i64.wrap ((w / 2 : Nat) : Int) = ((w / 2 : Nat) : Int) := wrap_i64 (by omega) (by omega)
  unfold backI
  by_cases h : w % 2 = 0
  · simp -implicitDefEqProofs [e1, e2, e3, e4, h, -Int.natCast_ediv, -Int.natCast_emod]
  · have h' : ¬ ((w % 2 : Nat) : Int) = 0 := by omega
    have e5 : IntKind.i64.wrap (-((w / 2 : Nat) : Int)) = -((w / 2 : Nat) : Int) := wrap_i64 (by omega) (by omega)
    have e6 : IntKind.i64.wrap (-((w / 2 : Nat) : Int) - 1) = -((w / 2 : Nat) : Int) - 1 := wrap_i64 (by omega) (by omega)
    simp -implicitDefEqProofs [e1, e2, e3, e4, e5, e6, h, h', -Int.natCast_ediv, -Int.natCast_emod]

def rdTextW : Rd (ByteArray × List Nat) := (rdCount 64).bind fun n => (rdTake ((n.toNat + 7) / 8)).bind fun ws => fun l => if packed (unpack n.toNat ws) = ws then some ((unpack n.toNat ws, ws), l) else none
theorem rdText_W (l : List Nat) : rdText l = (rdTextW l).map fun x => (x.1.1, x.2) := by
  rw [rdText_bind]
  unfold rdTextW Rd.bind
  cases rdCount 64 l with
  | none => rfl
  | some x =>
    simp only [Option.bind_some]
    cases rdTake ((x.1.toNat + 7) / 8) x.2 with
    | none => rfl
    | some y =>
      simp only [Option.bind_some]
      split <;> rfl

/-- What the document reads of words, as an item. -/
def refRead (kind most : Int) : Rd Item := fun l =>
  if kind = 1 then (rdSigned l).map fun p => (⟨kind, 0, most, p.1, ⟨#[]⟩, []⟩, p.2)
  else if kind = 0 then (rdCount most l).map fun p => (⟨kind, p.1, most, 0, ⟨#[]⟩, []⟩, p.2)
  else if kind = 2 then (rdCount 1 l).map fun p => (⟨kind, p.1, most, 0, ⟨#[]⟩, []⟩, p.2)
  else if kind = 3 then (rdTextW l).map fun p => (⟨kind, 0, most, 0, p.1.1, p.1.2⟩, p.2)
  else (rdWords most l).map fun p => (⟨kind, 0, most, 0, ⟨#[]⟩, p.1⟩, p.2)

def encRead : Option (Item × List Nat) → AV
  | some (x, l) => .tup [.agg (encI x), encW l, .bool true]
  | none => .tup [.agg [.any1, .any1, .any1, .any1, .any1, .any1], .any1, .bool false]

theorem pure_encRead (o : Option (Item × List Nat)) : PureV (encRead o) := by
  cases o with
  | none => exact .tup (pures_cons (.agg (pures_cons .any1 (pures_cons .any1 (pures_cons .any1 (pures_cons .any1 (pures_cons .any1 (pures1 .any1))))))) (pures_cons .any1 (pures1 (.bool _))))
  | some x => exact .tup (pures_cons (.agg (pure_encI _)) (pures_cons (pure_w64 _) (pures1 (.bool _))))
theorem wk_encRead (o : Option (Item × List Nat)) : wk (encRead o) = encRead o := by
  cases o <;> simp [encRead]

theorem bad6 {a b c d e f v : AV} (ha : ok1 a = true) (hv : ok1 v = true) : Wkr (.tup [.agg [a, b, c, d, e, f], v, .bool false]) (encRead none) :=
  Wkr.tup3 (Wkr.agg (.cons (.any _) (.cons (.any _) (.cons (.any _) (.cons (.any _) (.cons (.any _) (.cons (.any _) .nil))))))) (Wkr.one hv) (Wkr.refl _)

def readT26 : IR := .seq (.seq (.reg c26_r26) (.cond (.t 83) (.seq (.reg c26_r27) (.seq (.seq (.reg c26_r28) (.blk 0 (.loop c26_l41))) (.reg c26_r42))) (.skip))) (.seq (.dreg c26_r43 c26_a43) (.ret))
def readT23 : IR := .seq (.seq (.reg c26_r23) (.cond (.t 73) (.seq (.reg c26_r24) (.ret)) (.skip))) (.seq (.reg c26_r25) readT26)
def readT14 : IR := .seq (.seq (.reg c26_r14) (.cond (.t 49) (.seq (.reg c26_r15) (.ret)) (.skip))) (.seq (.reg c26_r16) (.seq (.seq (.reg c26_r17) (.cond (.t 59) (.seq (.reg c26_r18) (.seq (.reg c26_r19) (.ret))) (.skip)))
  (.seq (.reg c26_r20) (.seq (.seq (.reg c26_r21) (.cond (.t 66) (.reg c26_r22) (.skip))) readT23))))

abbrev readQ (o : Option (Item × List Nat)) : Res → Slots → H → Prop := retQ [ResA.cell 6 6 true, ResA.t 7, ResA.t 8] fun r' _ => Wkr r' (encRead o)

structure ReadS (s : Slots) (h : H) (w : Nat) (l : List Nat) (kind most : Int) (cs : List AV) : Prop where
  s0 : s 0 = encW (w :: l)
  s1 : s 1 = .int .i64 kind
  s6 : s 6 = .ptr 0 0
  s9 : s 9 = .ptr 1 0
  s11 : s 11 = encW l
  bn : h.bn = 2
  b0 : h.bx 0 = some [.int .i64 0, .int .i64 0, .int .i64 0, .int .i64 0, .str ⟨#[]⟩, .sl .full []]
  b1 : h.bx 1 = some cs

theorem read43 {s : Slots} {h : H} {w : Nat} {l : List Nat} {kind most : Int} {k : Nat} {x : Item} {t : Tok} (hs : ReadS s h w l kind most [.int .i64 x.kind, .int .i64 x.n, .int .i64 x.most, .int .i64 x.x, .str x.s, .sl t (x.l.map w64)]) (h13 : s 13 = .int .i64 k) (hk : k ≤ l.length) :
    Run Try.prog false [.c (.dreg c26_r43 c26_a43), .c .ret] (readQ (some (x, l.drop k))) s h := by
  obtain ⟨s0, s1, s6, s9, s11, bn, b0, b1⟩ := hs
  refine run_dreg c26_d43 ?_
  simp -implicitDefEqProofs [s9, s6, s11, h13, bn, b0, b1, -bndOf, bnd_nat hk, bnd_none, w64]
  exact Wkr.wk (by simp [encRead, encI])

theorem ReadS.app {s : Slots} {h h' : H} {w : Nat} {l : List Nat} {kind most : Int} {cs : List AV} {T : Nat → Prop} (a : ReadS s h w l kind most cs) (e : HF h h' (fun _ => False) T) (hb : h'.bn = h.bn) : ReadS s h' w l kind most cs :=
  ⟨a.s0, a.s1, a.s6, a.s9, a.s11, hb.trans a.bn, (e.bx 0 (by rw [a.bn]; omega) fun h => h).trans a.b0, (e.bx 1 (by rw [a.bn]; omega) fun h => h).trans a.b1⟩
theorem ReadS.slots {s s' : Slots} {h : H} {w : Nat} {l : List Nat} {kind most : Int} {cs : List AV} (a : ReadS s h w l kind most cs) (h0 : s' 0 = s 0) (h1 : s' 1 = s 1) (h6 : s' 6 = s 6) (h9 : s' 9 = s 9) (h11 : s' 11 = s 11) : ReadS s' h w l kind most cs :=
  ⟨h0.trans a.s0, h1.trans a.s1, h6.trans a.s6, h9.trans a.s9, h11.trans a.s11, a.bn, a.b0, a.b1⟩

theorem wrap_u64n {n : Nat} (h : n < 18446744073709551616) : IntKind.u64.wrap (n : Int) = n := wrap_u64 (by omega) (by omega)
theorem wordDiv {v i : Nat} : v / 256 ^ i / 256 = v / 256 ^ (i + 1) := by rw [Nat.div_div_eq_div_mul, Nat.pow_succ]

theorem read26 {s : Slots} {h : H} {w : Nat} {l : List Nat} {kind most : Int} {n k : Nat} {t : Tok} (hl : ∀ w ∈ l, w < 18446744073709551616) (hs : ReadS s h w l kind most [.int .i64 kind, .int .i64 0, .int .i64 most, .int .i64 0, .str ⟨#[]⟩, .sl t ((l.take k).map w64)])
    (h12 : s 12 = .int .i64 n) (h13 : s 13 = .int .i64 k) (hk : k ≤ l.length) (h3 : kind = 3 → k = (n + 7) / 8 ∧ n ≤ 64) :
    Run Try.prog false [.c readT26] (readQ (if kind = 3 then (if packed (unpack n (l.take k)) = l.take k then some (⟨kind, 0, most, 0, unpack n (l.take k), l.take k⟩, l.drop k) else none) else some (⟨kind, 0, most, 0, ⟨#[]⟩, l.take k⟩, l.drop k))) s h := by
  unfold readT26
  by_cases k3 : kind = 3
  · obtain ⟨hkn, hn⟩ := h3 k3
    have hws : (l.take k).length = (n + 7) / 8 := by simp; omega
    have hww : ∀ w ∈ l.take k, w < 18446744073709551616 := fun w hw => hl w (List.mem_of_mem_take hw)
    have hiff := packed_unpack hws hww
    generalize hW : l.take k = ws at *
    rw [if_pos k3]
    have s1 := hs.s1
    simp -implicitDefEqProofs [s1, k3]
    refine run_loop (fun m s h => ∃ (j : Nat) (t2 : Tok), m = 8 * k - j ∧ j ≤ 8 * k ∧ ReadS s h w l kind most [.int .i64 kind, .int .i64 0, .int .i64 most, .int .i64 0, .str ⟨#[]⟩, .sl t (ws.map w64)] ∧ s 12 = .int .i64 n ∧ s 13 = .int .i64 k ∧ s 15 = .int .i64 j ∧ s 14 = .sl t2 ((wbytes ws (min j n)).map encB) ∧ TLive h t2 (min j n) ∧ ∀ i, n ≤ i → i < j → wbyte ws i = 0) ?_ (8 * k) ?_
    · rintro m s h ⟨j, t2, hm, hj, hs, h12, h13, h15, h14, hlv, hz⟩ ih
      have e8 : IntKind.i64.wrap (8 * (k : Int)) = 8 * (k : Int) := wrap_i64 (by omega) (by omega)
      simp -implicitDefEqProofs [h13, h15, e8]
      by_cases hjk : j < 8 * k
      · have hjk' : (j : Int) < 8 * (k : Int) := by omega
        have hj8 : j / 8 < ws.length := by omega
        have i1 : idxOf (.int .i64 ((j / 8 : Nat) : Int)) ws.length = some (j / 8) := idxOf_nat hj8
        have q1 : ((j : Int)).tdiv 8 = ((j / 8 : Nat) : Int) := by rw [Int.tdiv_eq_ediv_of_nonneg (by omega)]; omega
        have q3 : ((j : Int)).tmod 8 = ((j % 8 : Nat) : Int) := by rw [Int.tmod_eq_emod_of_nonneg (by omega)]; omega
        have q4 : IntKind.i64.wrap ((j / 8 : Nat) : Int) = ((j / 8 : Nat) : Int) := wrap_i64 (by omega) (by omega)
        have wd : wbyte ws j = ws[j / 8] / 256 ^ (j % 8) % 256 := by unfold wbyte; rw [List.getD_eq_getElem?_getD, List.getElem?_eq_getElem hj8]; rfl
        have wl : ws[j / 8] < 18446744073709551616 := hww _ (List.getElem_mem hj8)
        simp -implicitDefEqProofs [hjk', hs.s9, hs.bn, hs.b1, h15, i1, hj8, q1, q3, q4, w64, -idxOf, -Int.natCast_ediv, -Int.natCast_emod]
        refine run_loop (fun m' s2 h2 => ∃ i : Nat, m' = j % 8 - i ∧ i ≤ j % 8 ∧ h2 = h ∧ ReadS s2 h w l kind most [.int .i64 kind, .int .i64 0, .int .i64 most, .int .i64 0, .str ⟨#[]⟩, .sl t (ws.map w64)] ∧ s2 12 = .int .i64 n ∧ s2 13 = .int .i64 k ∧ s2 15 = .int .i64 j ∧ s2 14 = s 14 ∧ s2 16 = .int .u64 (ws[j / 8] / 256 ^ i : Nat) ∧ s2 17 = .int .i64 i) ?_ (j % 8) ?_
        · rintro m' s2 h2 ⟨i, hm', hi, rfl, gs, g12, g13, g15, g14, g16, g17⟩ ih2
          simp -implicitDefEqProofs [g15, g17, q3, -Int.natCast_emod]
          by_cases hij : i < j % 8
          · have d1 : (((ws[j / 8] / 256 ^ i : Nat) : Int)).tdiv 256 = ((ws[j / 8] / 256 ^ (i + 1) : Nat) : Int) := by
              rw [Int.tdiv_eq_ediv_of_nonneg (Int.natCast_nonneg _), ← wordDiv]
              generalize ws[j / 8] / 256 ^ i = y
              omega
            have d2 : ws[j / 8] / 256 ^ (i + 1) ≤ ws[j / 8] := Nat.div_le_self _ _
            have d3 : IntKind.u64.wrap ((ws[j / 8] / 256 ^ (i + 1) : Nat) : Int) = ((ws[j / 8] / 256 ^ (i + 1) : Nat) : Int) := wrap_u64n (Nat.lt_of_le_of_lt d2 wl)
            simp -implicitDefEqProofs [hij, g16, g17, d1, d3, inc_i64 hij (by omega), -Int.natCast_ediv, -Int.natCast_add, -Int.natCast_emod]
            exact ih2 (j % 8 - (i + 1)) _ _ (by omega) ⟨i + 1, rfl, by omega, rfl, gs.slots (by simp) (by simp) (by simp) (by simp) (by simp), by simp [g12], by simp [g13], by simp [g15], by simp [g14], by simp, by simp⟩
          · have hi8 : i = j % 8 := by omega
            subst hi8
            have d1 : (((ws[j / 8] / 256 ^ (j % 8) : Nat) : Int)).tmod 256 = (wbyte ws j : Int) := by
              rw [Int.tmod_eq_emod_of_nonneg (Int.natCast_nonneg _), wd]
              generalize ws[j / 8] / 256 ^ (j % 8) = y
              omega
            have wl2 := wbyte_lt ws j
            have d2 : IntKind.u8.wrap (wbyte ws j : Int) = (wbyte ws j : Int) := by
              have w8 : ∀ y : Int, IntKind.u8.wrap y = y % 256 := fun y => by simp [IntKind.wrap, IntKind.bits, IntKind.signed]
              rw [w8]; omega
            simp -implicitDefEqProofs [hij, g12, g15, -Int.natCast_emod]
            by_cases hjn : j < n
            · have hmin : min j n = j := by omega
              have hmin' : min (j + 1) n = j + 1 := by omega
              rw [hmin] at h14 hlv
              simp -implicitDefEqProofs [hjn, g14, h14, g16, d1, d2, -Int.natCast_ediv]
              refine appQ_tok (es2 := [encB (wbyte ws j)]) (by simpa using hlv) (encB_len _) (by simp [srcA, encB]) (by simp; omega) fun t' h4' p1 p2 p3 p4 => ?_
              simp -implicitDefEqProofs [g15, inc_i64 hjk (by omega), -Int.natCast_add]
              refine ih (8 * k - (j + 1)) _ _ (by omega) ⟨j + 1, t', rfl, by omega, (gs.app p3 p4).slots (by simp) (by simp) (by simp) (by simp) (by simp), by simp [g12], by simp [g13], by simp, by simp [hmin', wbytes_succ], by simpa [hmin'] using p1, fun i h1 h2 => by omega⟩
            · have hmin : min j n = n := by omega
              have hmin' : min (j + 1) n = n := by omega
              by_cases hb0 : wbyte ws j = 0
              · simp -implicitDefEqProofs [hjn, g16, d1, hb0, g15, inc_i64 hjk (by omega), -Int.natCast_ediv, -Int.natCast_add]
                refine ih (8 * k - (j + 1)) _ _ (by omega) ⟨j + 1, t2, rfl, by omega, gs.slots (by simp) (by simp) (by simp) (by simp) (by simp), by simp [g12], by simp [g13], by simp, by simp [hmin', g14, h14, hmin], by rw [hmin', ← hmin]; exact hlv, fun i h1 h2 => ?_⟩
                by_cases hij : i = j
                · rw [hij]; exact hb0
                · exact hz i h1 (by omega)
              · have hnp : ¬ packed (unpack n ws) = ws := fun h => hb0 (hiff.1 h j (by omega) (by omega))
                simp -implicitDefEqProofs [hjn, g16, d1, hb0, gs.s9, gs.s6, gs.s0, gs.bn, gs.b0, gs.b1, hnp, -Int.natCast_ediv]
                exact bad6 rfl rfl
        · exact ⟨0, by simp, by omega, rfl, hs.slots (by simp) (by simp) (by simp) (by simp) (by simp), by simp [h12], by simp [h13], by simp [h15], by simp, by simp, by simp⟩
      · have hjk' : ¬ (j : Int) < 8 * (k : Int) := by omega
        have hp : packed (unpack n ws) = ws := hiff.2 fun i h1 h2 => hz i h1 (by omega)
        have hmin : min j n = n := by omega
        rw [hmin] at h14
        simp -implicitDefEqProofs [hjk', hs.s9, hs.bn, hs.b1, h14, bytesOf_ok, strOf_unpack, -List.map_map, hp]
        subst hW
        have hs' : ReadS s (h.set 1 [.int .i64 kind, .int .i64 0, .int .i64 most, .int .i64 0, .str (unpack n (l.take k)), .sl t ((l.take k).map w64)]) w l kind most [.int .i64 kind, .int .i64 0, .int .i64 most, .int .i64 0, .str (unpack n (l.take k)), .sl t ((l.take k).map w64)] :=
          ⟨hs.s0, hs.s1, hs.s6, hs.s9, hs.s11, hs.bn, by simpa using hs.b0, by simp⟩
        subst k3
        exact read43 (x := ⟨3, 0, most, 0, unpack n (l.take k), l.take k⟩) (hs'.slots (by simp) (by simp) (by simp) (by simp) (by simp)) (by simp [h13]) hk
    · exact ⟨0, .full, by simp, by omega, hs.slots (by simp) (by simp) (by simp) (by simp) (by simp), by simp [h12], by simp [h13], by simp, by simp [wbytes], trivial, fun i h1 h2 => by omega⟩
  · have s1 := hs.s1
    rw [if_neg k3]
    simp -implicitDefEqProofs [s1, k3]
    exact read43 (x := ⟨kind, 0, most, 0, ⟨#[]⟩, l.take k⟩) (hs.slots (by simp) (by simp) (by simp) (by simp) (by simp)) (by simp [h13]) hk

theorem read23 {s : Slots} {h : H} {w : Nat} {l : List Nat} {kind most : Int} {n k : Nat} (hl : ∀ w ∈ l, w < 18446744073709551616) (hlen : l.length ≤ 1000000) (hs : ReadS s h w l kind most [.int .i64 kind, .int .i64 0, .int .i64 most, .int .i64 0, .str ⟨#[]⟩, .sl .full []])
    (h12 : s 12 = .int .i64 n) (h13 : s 13 = .int .i64 k) (h3 : kind = 3 → k = (n + 7) / 8 ∧ n ≤ 64) :
    Run Try.prog false [.c readT23] (readQ (if k ≤ l.length then (if kind = 3 then (if packed (unpack n (l.take k)) = l.take k then some (⟨kind, 0, most, 0, unpack n (l.take k), l.take k⟩, l.drop k) else none) else some (⟨kind, 0, most, 0, ⟨#[]⟩, l.take k⟩, l.drop k)) else none)) s h := by
  unfold readT23
  obtain ⟨s0, s1, s6, s9, s11, bn, b0, b1⟩ := id hs
  by_cases hk : k ≤ l.length
  · rw [if_pos hk]
    have hk' : ¬ l.length < k := by omega
    simp -implicitDefEqProofs [s11, h13, hk', -bndOf, bnd_nat hk, bnd_none]
    refine appQ_w [] (l.take k) (by simp) (by simp) (t := .full) trivial (by simp; omega) fun t' h' q1 q2 q3 q4 => ?_
    have hs' := hs.app q3 q4
    simp -implicitDefEqProofs [s9, hs'.bn, hs'.b1]
    refine read26 (w := w) (t := t') hl ⟨by simp [s0], by simp [s1], by simp [s6], by simp [s9], by simp [s11], by simpa using hs'.bn, by simpa using hs'.b0, by simp⟩ (by simp [h12]) (by simp [h13]) hk h3
  · rw [if_neg hk]
    have hk' : l.length < k := by omega
    simp -implicitDefEqProofs [s11, h13, hk', s9, s6, s0, bn, b0, b1]
    exact bad6 rfl rfl

theorem read14 {s : Slots} {h : H} {w : Nat} {l : List Nat} {kind most M : Int} (hM : inI M) (hl : ∀ w' ∈ w :: l, w' < 18446744073709551616) (hlen : l.length ≤ 1000000) (hs : ReadS s h w l kind most [.int .i64 kind, .int .i64 0, .int .i64 most, .int .i64 0, .str ⟨#[]⟩, .sl .full []])
    (h2 : s 2 = .int .i64 M) (h10 : s 10 = .int .u64 w) (hk1 : kind ≠ 1) (hk2 : kind = 2 → M = 1) (hk3 : kind = 3 → M = 64) (hkM : kind ≠ 2 → kind ≠ 3 → M = most) :
    Run Try.prog false [.c readT14] (readQ (refRead kind most (w :: l))) s h := by
  unfold readT14
  obtain ⟨s0, s1, s6, s9, s11, bn, b0, b1⟩ := id hs
  have hw := hl w (List.mem_cons_self ..)
  have hl' : ∀ w' ∈ l, w' < 18446744073709551616 := fun w' h => hl w' (List.mem_cons_of_mem _ h)
  obtain ⟨M1, M2⟩ := hM
  have hno : ¬ (0 ≤ M ∧ (w : Int) ≤ M) → refRead kind most (w :: l) = none := fun hn => by
    unfold refRead
    rw [if_neg hk1]
    by_cases k0 : kind = 0
    · have := hkM (by omega) (by omega)
      subst this
      simp [k0, rdCount, hn]
    by_cases k2 : kind = 2
    · have := hk2 k2
      subst this
      have : rdCount 1 (w :: l) = none := by exact if_neg hn
      simp [k2, this]
    by_cases k3 : kind = 3
    · have := hk3 k3
      subst this
      have : rdCount 64 (w :: l) = none := by exact if_neg hn
      simp [k3, rdTextW, Rd.bind, this]
    · have := hkM k2 k3
      subst this
      simp [k0, k2, k3, rdWords, rdCount, hn]
  by_cases m0 : M < 0
  · rw [hno (by omega)]
    simp -implicitDefEqProofs [h2, m0, s9, s6, s0, bn, b0, b1]
    exact bad6 rfl rfl
  have eM : IntKind.u64.wrap M = M := wrap_u64 (by omega) (by omega)
  by_cases mw : M < (w : Int)
  · rw [hno (by omega)]
    simp -implicitDefEqProofs [h2, m0, h10, eM, mw, s9, s6, s0, bn, b0, b1]
    exact bad6 rfl rfl
  have eW : IntKind.i64.wrap (w : Int) = (w : Int) := wrap_i64 (by omega) (by omega)
  have ok : 0 ≤ M ∧ (w : Int) ≤ M := by omega
  by_cases k0 : kind = 0
  · have hM := hkM (by omega) (by omega)
    subst hM
    have hr : refRead kind M (w :: l) = some (⟨kind, w, M, 0, ⟨#[]⟩, []⟩, l) := by
      unfold refRead
      simp [k0, rdCount, ok]
    rw [hr]
    simp -implicitDefEqProofs [h2, m0, h10, eM, eW, mw, s1, k0, s9, s6, s0, s11, bn, b0, b1]
    exact Wkr.wk (by simp [encRead, encI])
  by_cases k2 : kind = 2
  · have hM := hk2 k2
    subst hM
    have hr : refRead kind most (w :: l) = some (⟨kind, w, most, 0, ⟨#[]⟩, []⟩, l) := by
      unfold refRead
      simp [k2, rdCount, ok]
    rw [hr]
    simp -implicitDefEqProofs [h2, m0, h10, eM, eW, mw, s1, k2, s9, s6, s0, s11, bn, b0, b1]
    exact Wkr.wk (by simp [encRead, encI])
  by_cases k3 : kind = 3
  · have hM := hk3 k3
    subst hM
    have hw64 : w ≤ 64 := by omega
    have e1 : IntKind.i64.wrap ((w : Int) + 7) = (w : Int) + 7 := wrap_i64 (by omega) (by omega)
    have e3 : IntKind.i64.wrap (((w : Int) + 7).tdiv 8) = (((w + 7) / 8 : Nat) : Int) := by
      rw [Int.tdiv_eq_ediv_of_nonneg (by omega), wrap_i64 (by omega) (by omega)]
      omega
    have hr : refRead kind most (w :: l) = (if (w + 7) / 8 ≤ l.length then (if kind = 3 then (if packed (unpack w (l.take ((w + 7) / 8))) = l.take ((w + 7) / 8) then some (⟨kind, 0, most, 0, unpack w (l.take ((w + 7) / 8)), l.take ((w + 7) / 8)⟩, l.drop ((w + 7) / 8)) else none) else some (⟨kind, 0, most, 0, ⟨#[]⟩, l.take ((w + 7) / 8)⟩, l.drop ((w + 7) / 8))) else none) := by
      have e : rdCount 64 (w :: l) = some ((w : Int), l) := if_pos ok
      unfold refRead
      rw [if_neg hk1, if_neg k0, if_neg k2, if_pos k3]
      simp only [rdTextW, Rd.bind, e, Option.bind_some, Int.toNat_natCast, rdTake]
      by_cases h1 : (w + 7) / 8 ≤ l.length
      · simp only [if_pos h1, Option.bind_some, if_pos k3]
        split <;> simp
      · simp [h1]
    rw [hr]
    simp -implicitDefEqProofs [h2, m0, h10, eM, eW, mw, s1, k3, e1, e3, s9, s6, s0, s11, bn, b0, b1, -Int.natCast_ediv]
    subst k3
    exact read23 hl' hlen (hs.slots (by simp) (by simp) (by simp) (by simp) (by simp)) (by simp) (by simp) fun _ => ⟨rfl, hw64⟩
  · have hM := hkM k2 k3
    subst hM
    have hr : refRead kind M (w :: l) = (if w ≤ l.length then (if kind = 3 then (if packed (unpack w (l.take w)) = l.take w then some (⟨kind, 0, M, 0, unpack w (l.take w), l.take w⟩, l.drop w) else none) else some (⟨kind, 0, M, 0, ⟨#[]⟩, l.take w⟩, l.drop w)) else none) := by
      have e : rdCount M (w :: l) = some ((w : Int), l) := if_pos ok
      unfold refRead
      rw [if_neg hk1, if_neg k0, if_neg k2, if_neg k3]
      simp only [rdWords, e, Option.bind_some, Int.toNat_natCast, rdTake]
      by_cases h1 : w ≤ l.length
      · simp [h1, k3]
      · simp [h1]
    simp -implicitDefEqProofs [h2, m0, h10, eM, eW, mw, s1, k0, k2, k3, s9, s6, s0, s11, bn, b0, b1]
    rw [hr]
    refine read23 (w := w) (n := w) (k := w) hl' hlen ?_ (by simp) (by simp) fun h => absurd h k3
    exact hs.slots (by simp) (by simp) (by simp) (by simp) (by simp)

theorem refRead_ok {l : List Nat} (hl : Bd (some l)) (kind : Int) {most : Int} (hm : inI most) : PCall Try.prog 26 [encW l, .int .i64 kind, .int .i64 most] (encRead (refRead kind most l)) := by
  refine PCall.runW hb26 ok26 (by simp) (pures_cons (pure_w64 l) (pures_cons (.int _ _) (pures1 (.int _ _)))) (pure_encRead _) (wk_encRead _) ?_
  obtain ⟨hlen, hb⟩ := hl l rfl
  obtain ⟨m1, m2⟩ := id hm
  cases l with
  | nil =>
    have : refRead kind most [] = none := by unfold refRead; split <;> (try split) <;> (try split) <;> (try split) <;> rfl
    simp -implicitDefEqProofs [this]
    exact bad6 rfl rfl
  | cons w l =>
    have hw := hb w (List.mem_cons_self ..)
    have e0 : ¬ (l.length : Int) + 1 = 0 := by omega
    have e1 : (1 : Int) ≤ (l.length : Int) + 1 := by omega
    have e2 : List.take l.length (List.map w64 l) = List.map w64 l := List.take_of_length_le (by simp)
    have hlen' : l.length ≤ 1000000 := by simp at hlen; omega
    by_cases k1 : kind = 1
    · simp -implicitDefEqProofs [e0, e1, k1, w64, bndOf]
      refine callQ_p (refBack_ok w hw) (by simp) ?_
      simp -implicitDefEqProofs [e0, e1, e2, k1, w64, bndOf, refRead, rdSigned, encRead, encI]
      exact Wkr.wk (by simp [e2])
    · have hs : ReadS (su (slots0 [encW (w :: l), .int .i64 kind, .int .i64 most]) 6 (.ptr 0 0) |> fun s => su (su s 9 (.ptr 1 0)) 11 (encW l)) (((H.nil.alloc [.int .i64 0, .int .i64 0, .int .i64 0, .int .i64 0, .str ⟨#[]⟩, .sl .full []]).alloc [.int .i64 0, .int .i64 0, .int .i64 0, .int .i64 0, .str ⟨#[]⟩, .sl .full []]).set 1 [.int .i64 kind, .int .i64 0, .int .i64 most, .int .i64 0, .str ⟨#[]⟩, .sl .full []]) w l kind most [.int .i64 kind, .int .i64 0, .int .i64 most, .int .i64 0, .str ⟨#[]⟩, .sl .full []] :=
        ⟨by simp, by simp, by simp, by simp, by simp, rfl, by simp [H.nil], by simp⟩
      simp -implicitDefEqProofs [e0, e1, e2, k1, w64, bndOf]
      refine condQ_split (fun k2 => ?_) (fun k2 => ?_)
      · change Run Try.prog false [It.c (if true = true then IR.reg c26_r11 else IR.skip), It.c (.seq (.seq (.reg c26_r12) (.cond (.t 41) (.reg c26_r13) (.skip))) readT14)] _ _ _
        simp -implicitDefEqProofs [k1, k2]
        subst k2
        refine read14 (M := 1) ⟨by omega, by omega⟩ hb hlen' ?_ (by simp) (by simp) k1 (fun _ => rfl) (fun h => by omega) (fun h => absurd rfl h)
        exact hs.slots (by simp [w64]) (by simp) (by simp [H.nil]) (by simp [H.nil]) (by simp [e2])
      · change Run Try.prog false [It.c (if false = true then IR.reg c26_r11 else IR.skip), It.c (.seq (.seq (.reg c26_r12) (.cond (.t 41) (.reg c26_r13) (.skip))) readT14)] _ _ _
        by_cases k3 : kind = 3
        · simp -implicitDefEqProofs [k1, k2, k3]
          subst k3
          refine read14 (M := 64) ⟨by omega, by omega⟩ hb hlen' ?_ (by simp) (by simp) k1 (fun h => by omega) (fun _ => rfl) (fun _ h => absurd rfl h)
          exact hs.slots (by simp [w64]) (by simp) (by simp [H.nil]) (by simp [H.nil]) (by simp [e2])
        · simp -implicitDefEqProofs [k1, k2, k3]
          refine read14 (M := most) hm hb hlen' ?_ (by simp) (by simp) k1 (fun h => absurd h k2) (fun h => absurd h k3) (fun _ _ => rfl)
          exact hs.slots (by simp [w64]) (by simp) (by simp [H.nil]) (by simp [H.nil]) (by simp [e2])
end Go.Proofs

/- The statements CodesRead and CodesBack: what their functions hand back. -/
namespace Go.Proofs
open Go Go.RowKit Go.Am

/-- An item is read like another one: is it the same? -/
def readS (x : Item) (s : RS) : Bool × RS :=
  if x.kind = 0 then (decide ((runS (rdCount x.most) 0 s).1 = x.n), (runS (rdCount x.most) 0 s).2)
  else if x.kind = 1 then (decide ((runS rdSigned 0 s).1 = x.x), (runS rdSigned 0 s).2)
  else if x.kind = 2 then (decide ((runS rdFlag false s).1 = decide (x.n = 1)), (runS rdFlag false s).2)
  else if x.kind = 3 then (decide ((runS rdText ⟨#[]⟩ s).1 = x.s), (runS rdText ⟨#[]⟩ s).2)
  else (decide ((runS (rdWords x.most) [] s).1 = x.l), (runS (rdWords x.most) [] s).2)

structure RdX (f : FuncId) (args : List AV) (h : H) (b : Nat) (r : AV) (s' : RS) : Prop where
  call : SCall Try.prog f args h r (h.set b (encRS s'))
  to : RTo h b (h.set b (encRS s')) s'
theorem RdX.mk' {f : FuncId} {args : List AV} {h : H} {b : Nat} {s s' : RS} {r : AV} (hr : RIs h b s) (hb : Bd s') (hv : PureV r) (hc : CallP Try.prog f args h fun r1 h1 => wk r1 = r ∧ RFin h b h1 s') : RdX f args h b r s' :=
  ⟨SCall.upd hr.blt (hc.mono fun r1 h1 ⟨q1, q2, q3⟩ => ⟨q1, q2, q3⟩) hv (pure_encRS _), RTo.set hr hb⟩

theorem readS_bd (x : Item) {s : RS} (hs : Bd s) : Bd (readS x s).2 := by
  unfold readS
  split
  · exact (rdCount_ok _).bd _ hs
  split
  · exact rdSigned_ok.bd _ hs
  split
  · exact rdFlag_ok.bd _ hs
  split
  · exact rdText_ok.bd _ hs
  · exact (rdWords_ok _).bd _ hs

theorem rdWords_len {most : Int} {s : RS} (hs : Bd s) : (runS (rdWords most) [] s).1.length ≤ 1000000 := by
  cases s with
  | none => simp [runS]
  | some l =>
    have hl := (hs l rfl).1
    cases l with
    | nil => simp [runS, rdWords, rdCount]
    | cons w l =>
      simp only [runS, Option.bind_some, rdWords, rdCount, rdTake]
      split
      · simp only [Option.bind_some]
        split
        · simp only [Option.elim]; simp at hl ⊢; omega
        · simp
      · simp

theorem lawRead_ok {h : H} {b : Nat} {s : RS} (hr : RIs h b s) (x : Item) (hm : inI x.most) (hl : x.l.length ≤ 9223372036854775807) : RdX 27 [.ptr b 0, .agg (encI x)] h b (.bool (readS x s).1) (readS x s).2 := by
  refine RdX.mk' hr (readS_bd x hr.bd) (.bool _) (CallP.run hb27 ok27 (by simp) ?_)
  have hne : ¬ h.bn = b := by have := hr.blt; omega
  have hra := hr.alloc (encI x)
  simp only [encI] at hra
  simp -implicitDefEqProofs [encI]
  by_cases k0 : x.kind = 0
  · rw [k0] at hra
    simp -implicitDefEqProofs [k0]
    refine run_dreg c27_d4 ?_
    have hn := count_rd hra hm
    simp -implicitDefEqProofs
    refine callD_s hn.call (by simp) ?_
    have q := hn.to
    simp -implicitDefEqProofs [hne, readS, k0]
    exact q.alloc.fin
  by_cases k1 : x.kind = 1
  · rw [k1] at hra
    simp -implicitDefEqProofs [k1]
    refine run_dreg c27_d6 ?_
    have hn := signed_rd hra
    simp -implicitDefEqProofs
    refine callD_s hn.call (by simp) ?_
    have q := hn.to
    simp -implicitDefEqProofs [hne, readS, k1]
    exact q.alloc.fin
  by_cases k2 : x.kind = 2
  · rw [k2] at hra
    simp -implicitDefEqProofs [k2]
    refine run_dreg c27_d8 ?_
    have hn := flag_rd hra
    simp -implicitDefEqProofs
    refine callD_s hn.call (by simp) ?_
    have q := hn.to
    simp -implicitDefEqProofs [hne, readS, k2]
    exact q.alloc.fin
  by_cases k3 : x.kind = 3
  · rw [k3] at hra
    simp -implicitDefEqProofs [k3]
    refine run_dreg c27_d10 ?_
    have hn := text_rd hra
    simp -implicitDefEqProofs
    refine callD_s hn.call (by simp) ?_
    have q := hn.to
    simp -implicitDefEqProofs [hne, readS, k3]
    exact q.alloc.fin
  · simp -implicitDefEqProofs [k0, k1, k2, k3]
    refine run_dreg c27_d11 ?_
    have hn := words_rd hra hm
    have hwl := rdWords_len (most := x.most) hr.bd
    simp -implicitDefEqProofs
    refine callD_s hn.call (by simp) ?_
    have q := hn.to
    simp -implicitDefEqProofs [hne]
    refine lcallQ_p (words_ok (runS (rdWords x.most) [] s).1 x.l (by omega) hl) (by simp) ?_
    simp -implicitDefEqProofs [hne, readS, k0, k1, k2, k3]
    exact q.alloc.fin
end Go.Proofs

/- The statement CodesRead: what its function hands back. -/
namespace Go.Proofs
open Go Go.RowKit Go.Am

theorem RIs.setO {h : H} {b b' : Nat} {s : RS} {cs : List AV} (a : RIs h b s) (hn : ¬ b' = b) : RIs (h.set b' cs) b s :=
  ⟨by simpa using a.blt, by have : ¬ b = b' := fun e => hn e.symm
                            simpa [this] using a.bx, a.bd⟩

def item0 (kind most : Int) : Item := ⟨kind, 0, most, 0, ⟨#[]⟩, []⟩

theorem readS_none (kind most : Int) : readS (item0 kind most) none = (true, none) := by
  unfold readS item0
  simp only [runS, Option.bind_none, Option.elim]
  split
  · rfl
  split
  · rfl
  split
  · rfl
  split
  · rfl
  · rfl

theorem readS_bad {kind most : Int} {l : List Nat} (h : refRead kind most l = none) : readS (item0 kind most) (some l) = (true, none) := by
  unfold refRead at h
  unfold readS item0
  by_cases k1 : kind = 1
  · rw [if_pos k1, Option.map_eq_none_iff] at h
    simp [k1, runS, h]
  rw [if_neg k1] at h
  by_cases k0 : kind = 0
  · rw [if_pos k0, Option.map_eq_none_iff] at h
    simp [k0, runS, h]
  rw [if_neg k0] at h
  by_cases k2 : kind = 2
  · rw [if_pos k2, Option.map_eq_none_iff] at h
    simp [k2, runS, rdFlag, h]
  rw [if_neg k2] at h
  by_cases k3 : kind = 3
  · rw [if_pos k3, Option.map_eq_none_iff] at h
    have := rdText_W l
    rw [h] at this
    simp [k3, runS, this]
  · rw [if_neg k3, Option.map_eq_none_iff] at h
    simp [k0, k1, k2, k3, runS, h]

theorem readS_good {kind most : Int} {l left : List Nat} {y : Item} (h : refRead kind most l = some (y, left)) : readS y (some l) = (true, some left) ∧ y.kind = kind ∧ y.most = most := by
  unfold refRead at h
  unfold readS
  by_cases k1 : kind = 1
  · rw [if_pos k1, Option.map_eq_some_iff] at h
    obtain ⟨p, h1, h2⟩ := h
    cases h2
    simp [k1, runS, h1]
  rw [if_neg k1] at h
  by_cases k0 : kind = 0
  · rw [if_pos k0, Option.map_eq_some_iff] at h
    obtain ⟨p, h1, h2⟩ := h
    cases h2
    simp [k0, runS, h1]
  rw [if_neg k0] at h
  by_cases k2 : kind = 2
  · rw [if_pos k2, Option.map_eq_some_iff] at h
    obtain ⟨p, h1, h2⟩ := h
    cases h2
    simp [k2, runS, rdFlag, h1]
  rw [if_neg k2] at h
  by_cases k3 : kind = 3
  · rw [if_pos k3, Option.map_eq_some_iff] at h
    obtain ⟨p, h1, h2⟩ := h
    cases h2
    have := rdText_W l
    rw [h1] at this
    simp [k3, runS, this]
  · rw [if_neg k3, Option.map_eq_some_iff] at h
    obtain ⟨p, h1, h2⟩ := h
    cases h2
    simp [k0, k1, k2, k3, runS, h1]

theorem refRead_bd {kind most : Int} {l left : List Nat} {y : Item} (hl : Bd (some l)) (h : refRead kind most l = some (y, left)) : Bd (some left) ∧ y.l.length ≤ 1000000 := by
  have hg := (readS_good h).1
  have hb := readS_bd y hl
  rw [hg] at hb
  refine ⟨hb, ?_⟩
  have hlen := (hl l rfl).1
  unfold refRead at h
  split at h
  · rw [Option.map_eq_some_iff] at h; obtain ⟨p, _, h2⟩ := h; cases h2; simp
  split at h
  · rw [Option.map_eq_some_iff] at h; obtain ⟨p, _, h2⟩ := h; cases h2; simp
  split at h
  · rw [Option.map_eq_some_iff] at h; obtain ⟨p, _, h2⟩ := h; cases h2; simp
  split at h
  · rw [Option.map_eq_some_iff] at h
    obtain ⟨p, h1, h2⟩ := h
    cases h2
    simp only [rdTextW, Rd.bind, Option.bind_eq_some_iff] at h1
    obtain ⟨a, ha, c, hc, h1⟩ := h1
    simp only [rdTake] at hc
    split at hc
    · cases hc
      have h3 := (rdCount_ok 64 l a.1 a.2 ha).1
      split at h1
      · cases h1; simp; omega
      · cases h1
    · cases hc
  · rw [Option.map_eq_some_iff] at h
    obtain ⟨p, h1, h2⟩ := h
    cases h2
    have := rdWords_len (most := most) hl
    simp [runS, h1] at this
    exact this

theorem callQ_rdx {f : FuncId} {first caps args as' : List AV} {h : H} {b : Nat} {s s' : RS} {r : AV} {K : AV → H → Prop} (hr : RIs h b s) (hc : RIs h b s → RdX f as' h b r s') (ha : (first ++ args ++ caps).map wk = as')
    (hk : RTo h b (h.set b (encRS s')) s' → K r (h.set b (encRS s'))) : callQ Try.prog (.fn f first caps) args h K := callQ_s (hc hr).call ha (hk (hc hr).to)
theorem lawRead_none {h : H} {b : Nat} {kind most : Int} (hm : inI most) (hr : RIs h b none) : RdX 27 [.ptr b 0, .agg (encI (item0 kind most))] h b (.bool true) none := by
  have := lawRead_ok hr (item0 kind most) hm (by simp [item0])
  rw [readS_none] at this
  exact this
theorem lawRead_bad {h : H} {b : Nat} {kind most : Int} {l : List Nat} (hm : inI most) (hrd : refRead kind most l = none) (hr : RIs h b (some l)) : RdX 27 [.ptr b 0, .agg (encI (item0 kind most))] h b (.bool true) none := by
  have := lawRead_ok hr (item0 kind most) hm (by simp [item0])
  rw [readS_bad hrd] at this
  exact this
theorem lawRead_good {h : H} {b : Nat} {kind most : Int} {l left : List Nat} {y : Item} (hm : inI most) (hrd : refRead kind most l = some (y, left)) (hr : RIs h b (some l)) : RdX 27 [.ptr b 0, .agg (encI y)] h b (.bool true) (some left) := by
  obtain ⟨g1, g2, g3⟩ := readS_good hrd
  obtain ⟨g4, g5⟩ := refRead_bd hr.bd hrd
  have := lawRead_ok hr y (g3 ▸ hm) (by omega)
  rw [g1] at this
  exact this

theorem codesRead_ok (ws : List Nat) (l : List Item) (hl : l.length ≤ 9223372036854775807) (hwl : ws.length ≤ 9223372036854775807) (hw : ∀ w ∈ ws, w < 18446744073709551616) (hi : ∀ x ∈ l, inI x.most) : PCall Try.prog 5 [encW ws, encIs l] (.bool true) := by
  refine PCall.run hb5 ok5 (by simp) (pures_cons (pure_w64 _) (pures1 (pure_encIs l))) (.bool _) ?_
  simp -implicitDefEqProofs [encIs]
  refine callQ_p alive_ok (by simp) ?_
  simp -implicitDefEqProofs
  refine callQ_p (great_ok l hl) (by simp [encIs]) ?_
  by_cases hg : great l = true
  · simp -implicitDefEqProofs [hg]
  have hg : great l = false := by simpa using hg
  by_cases h3 : (300 : Int) < (ws.length : Int)
  · simp -implicitDefEqProofs [hg, h3]
  simp -implicitDefEqProofs [hg, h3]
  refine callQ_s (newReader_ok ws H.nil) (by simp) ?_
  simp -implicitDefEqProofs
  have hbd : Bd (some ws) := fun l e => by cases e; exact ⟨by omega, hw⟩
  have hr0 := RIs.new hbd H.nil
  refine run_loop (fun n s h => ∃ (j : Nat) (rs : RS) (rl : List Nat), n = l.length - j ∧ j ≤ l.length ∧ s 1 = .sl .no (l.map encI) ∧ s 8 = .int .i64 j ∧ s 5 = .ptr 0 0 ∧ s 6 = encW rl ∧ s 7 = .bool rs.isSome ∧ RIs h 0 rs ∧ ∀ l', rs = some l' → rl = l') ?_ l.length ?_
  · rintro n s h ⟨j, rs, rl, hn, hj, h1, h8, h5, h6, h7, hrs, hrl⟩ ih
    by_cases hlt : j < l.length
    · have hx := hi l[j] (List.getElem_mem hlt)
      have i1 := idxOf_nat (k := .i64) hlt
      simp -implicitDefEqProofs [h1, h8, hlt]
      refine run_dreg c5_d10 ?_
      simp -implicitDefEqProofs [h1, h8, hlt, i1, encI]
      have hne : ¬ h.bn = 0 := by have := hrs.blt; omega
      have hne' : ¬ h.bn + 1 = 0 := by omega
      have hlen : (l.length : Int) ≤ 9223372036854775807 := by omega
      cases rs with
      | none =>
        simp -implicitDefEqProofs [h7, h5]
        refine callQ_rdx ((hrs.alloc _).setO hne) (lawRead_none (kind := l[j].kind) hx) (by simp [encI, item0]) fun hto => ?_
        replace hto := hto.is
        simp -implicitDefEqProofs [h5, h7]
        refine callQ_s (rOk_ok hto) (by simp) ?_
        simp -implicitDefEqProofs [h5, h7]
        refine callQ_s (rEnd_ok hto) (by simp) ?_
        simp -implicitDefEqProofs [endS, h8, inc_i64 hlt hl, -Int.natCast_add, h7]
        exact ih (l.length - (j + 1)) _ _ (by omega) ⟨j + 1, none, rl, rfl, by omega, by simp [h1], by simp, by simp [h5], by simp [h6], by simp [h7], hto, fun l' e => by cases e⟩
      | some rl' =>
        have := hrl rl' rfl
        subst this
        have hbd1 := hrs.bd
        simp -implicitDefEqProofs [h7, h6]
        refine callQ_p (refRead_ok hbd1 l[j].kind hx) (by simp) ?_
        cases hrd : refRead l[j].kind l[j].most rl with
        | none =>
          simp -implicitDefEqProofs [encRead, h5]
          refine callQ_rdx ((((hrs.alloc _).setO hne).alloc _).setO hne') (lawRead_bad hx hrd) (by simp [encI, item0]) fun hto => ?_
          replace hto := hto.is
          simp -implicitDefEqProofs [h5, h7]
          refine callQ_s (rOk_ok hto) (by simp) ?_
          simp -implicitDefEqProofs [h5, h7]
          refine callQ_s (rEnd_ok hto) (by simp) ?_
          simp -implicitDefEqProofs [endS, h8, inc_i64 hlt hl, -Int.natCast_add, h7]
          exact ih (l.length - (j + 1)) _ _ (by omega) ⟨j + 1, none, rl, rfl, by omega, by simp [h1], by simp, by simp [h5], by simp [h6], by simp, hto, fun l' e => by cases e⟩
        | some yl =>
          obtain ⟨y, left⟩ := yl
          simp -implicitDefEqProofs [encRead, h5, encI]
          refine callQ_rdx (((((hrs.alloc _).setO hne).alloc _).setO hne').setO hne) (lawRead_good hx hrd) (by simp [encI]) fun hto => ?_
          replace hto := hto.is
          simp -implicitDefEqProofs [h5, h7]
          refine callQ_s (rOk_ok hto) (by simp) ?_
          simp -implicitDefEqProofs [h5, h7]
          refine callQ_s (rEnd_ok hto) (by simp) ?_
          have hend : endS (some left) = decide (left.length = 0) := by cases left <;> simp [endS]
          simp -implicitDefEqProofs [hend, h8, inc_i64 hlt hl, -Int.natCast_add, h7]
          exact ih (l.length - (j + 1)) _ _ (by omega) ⟨j + 1, some left, left, rfl, by omega, by simp [h1], by simp, by simp [h5], by simp, by simp, hto, fun l' e => by cases e; rfl⟩
    · simp -implicitDefEqProofs [h1, h8, hlt]
  · exact ⟨0, some ws, ws, by simp, by omega, by simp, by simp, by simp [H.nil], by simp, by simp, hr0, fun l' e => by cases e; rfl⟩
end Go.Proofs

/- The statement CodesBack: what its function hands back. -/
namespace Go.Proofs
open Go Go.RowKit Go.Am

/-- What is asked back of an item that was written. -/
def backX (x : Item) : Item :=
  let n1 := if x.kind = 0 ∧ x.n < 0 then 0 else x.n
  ⟨x.kind, if x.kind = 2 ∧ n1 ≠ 1 then 0 else n1, if x.kind = 4 then x.l.length else n1, x.x, if 64 < x.s.size then cut64 x.s else x.s, x.l⟩

theorem cut64_small {s : ByteArray} (h : ¬ 64 < s.size) : cut64 s = s := by
  refine bytes_ext (by rw [cut64_size]; omega) fun j hj => ?_
  rw [cut64_size] at hj
  have h1 : s.data.size = s.size := rfl
  have h2 : min s.size 64 = s.size := by omega
  unfold byteAt cut64
  simp only [ByteArray.data_extract, Array.getElem?_extract, h1, h2]
  rw [if_pos (by omega)]
  simp

theorem readS_back {x : Item} (hx : x.ok) (hk : 0 ≤ x.kind ∧ x.kind ≤ 4) (rest : List Nat) : readS (backX x) (some (writeW x ++ rest)) = (true, some rest) := by
  obtain ⟨⟨n1, n2⟩, ⟨x1, x2⟩, s1, l1⟩ := hx
  have hs : (if 64 < x.s.size then cut64 x.s else x.s) = cut64 x.s := by
    split
    · rfl
    · rename_i h; exact (cut64_small h).symm
  unfold readS backX writeW
  by_cases k0 : x.kind = 0
  · by_cases hn : x.n < 0
    · have : x.n.toNat = 0 := by omega
      simp [k0, hn, runS, rdCount, this]
    · have h1 : (0 : Int) ≤ x.n := by omega
      have h2 : ((x.n.toNat : Nat) : Int) = x.n := by omega
      simp [k0, hn, runS, rdCount, h1, h2]
  by_cases k1 : x.kind = 1
  · simp [k1, runS, rdSigned, backI_signed]
  by_cases k2 : x.kind = 2
  · by_cases hn : x.n = 1
    · simp [k2, hn, runS, rdFlag, rdCount]
    · simp [k2, hn, runS, rdFlag, rdCount]
  by_cases k3 : x.kind = 3
  · simp [k3, runS, rdText_write, hs]
  · have k4 : x.kind = 4 := by omega
    have h1 : rdCount (x.l.length : Int) (x.l.length :: (x.l ++ rest)) = some ((x.l.length : Int), x.l ++ rest) := if_pos ⟨by omega, by omega⟩
    have h2 : (x.l.length : Int) ≤ (x.l.length : Int) + (rest.length : Int) := by omega
    simp [k4, runS, rdWords, h1, rdTake, h2]

def backT25 : IR := .seq (.reg c7_r25) (.cond (.t 79) (.seq (.reg c7_r26) (.ret)) (.skip))
def backL : IR := .seq (.seq (.reg c7_r14) (.cond (.t 28) (.skip) (.exit 2))) (.seq (.blk 3 (.seq (.reg c7_r15) (.seq (.seq (.reg c7_r16) (.cond (.t 42) (.reg c7_r17) (.skip))) (.seq (.reg c7_r18) (.seq (.seq (.reg c7_r19) (.cond (.t 54) (.reg c7_r20) (.skip)))
  (.seq (.seq (.reg c7_r21) (.cond (.t 59) (.reg c7_r22) (.skip))) (.seq (.seq (.reg c7_r23) (.cond (.t 66) (.reg c7_r24) (.skip))) backT25))))))) (.reg c7_r27))
theorem backL_eq : c7_l28 = backL := rfl

theorem writeW_lt {x : Item} (hx : x.ok) (hw : ∀ w ∈ x.l, w < 18446744073709551616) : ∀ w ∈ writeW x, w < 18446744073709551616 := fun w h => by
  obtain ⟨⟨n1, n2⟩, ⟨x1, x2⟩, s1, l1⟩ := hx
  unfold writeW at h
  split at h
  · simp at h; omega
  split at h
  · simp at h; subst h; exact signed_lt x1 x2
  split at h
  · simp at h; subst h; split <;> omega
  split at h
  · simp only [textW, List.mem_cons] at h
    rcases h with rfl | h
    · have := cut64_size x.s; omega
    · exact packed_lt _ w h
  · simp only [List.mem_cons] at h
    rcases h with rfl | h
    · omega
    · exact hw w h
theorem writeAll_lt {l : List Item} (h : ∀ x ∈ l, x.ok ∧ ∀ w ∈ x.l, w < 18446744073709551616) : ∀ w ∈ writeAll l, w < 18446744073709551616 := fun w hw => by
  obtain ⟨x, hx, hw⟩ := List.mem_flatMap.1 hw
  exact writeW_lt (h x hx).1 (h x hx).2 w hw

theorem not_great_kind {l : List Item} (h : great l = false) : ∀ x ∈ l, 0 ≤ x.kind ∧ x.kind ≤ 4 := fun x hx => by
  simp only [great, Bool.or_eq_false_iff, decide_eq_false_iff_not, List.any_eq_false] at h
  have := h.1 x hx
  simp only [greatI, Bool.or_eq_true, decide_eq_true_eq, not_or] at this
  omega

theorem codesBack_ok (l : List Item) (hl : l.length ≤ 9223372036854775807) (hi : ∀ x ∈ l, inI x.n ∧ inI x.x ∧ ∀ w ∈ x.l, w < 18446744073709551616) : PCall Try.prog 7 [encIs l] (.bool true) := by
  refine PCall.run hb7 ok7 (by simp) (pures1 (pure_encIs l)) (.bool _) ?_
  simp -implicitDefEqProofs [encIs]
  refine callQ_p alive_ok (by simp) ?_
  simp -implicitDefEqProofs
  refine callQ_p (great_ok l hl) (by simp [encIs]) ?_
  by_cases hg : great l = true
  · simp -implicitDefEqProofs [hg]
  have hg : great l = false := by simpa using hg
  obtain ⟨g1, g2⟩ := not_great hg
  have hkind := not_great_kind hg
  have hok : ∀ x ∈ l, x.ok := fun x hx => ⟨(hi x hx).1, (hi x hx).2.1, by have := g2 x hx; omega, by have := g2 x hx; omega⟩
  have hwl : ∀ l' : List Item, (∀ x ∈ l', x ∈ l) → l'.length ≤ 60 → (writeAll l').length ≤ 102 * 60 := fun l' h1 h2 => by
    have := writeAll_len l' fun x hx => (g2 x (h1 x hx)).1
    omega
  simp -implicitDefEqProofs [hg]
  refine run_loop (fun n s h => ∃ (j : Nat) (t : Tok), n = l.length - j ∧ j ≤ l.length ∧ s 0 = .sl .no (l.map encI) ∧ s 4 = .int .i64 j ∧ s 3 = .ptr 0 0 ∧ WB h 0 t (writeAll (l.take j))) ?_ l.length ?_
  · rintro n s h ⟨j, t, hn, hj, h0, h4, h3, hw⟩ ih
    simp -implicitDefEqProofs [h0, h4]
    by_cases hlt : j < l.length
    · have hlen := hwl (l.take j) (fun x hx => List.mem_of_mem_take hx) (by simp; omega)
      have hx := hok l[j] (List.getElem_mem hlt)
      have e6 : (encI l[j]).length = 6 := rfl
      have e7 : List.take 6 (encI l[j]) = encI l[j] := rfl
      simp -implicitDefEqProofs [hlt, h0, h4, h3, idxOf_nat hlt, e6, e7]
      refine callW (write_ok hw l[j] hx (by omega)) (by simp) fun r h1 t1 q => ?_
      simp -implicitDefEqProofs [h4, inc_i64 hlt hl, -Int.natCast_add]
      have hsnoc : writeAll (l.take (j + 1)) = writeAll (l.take j) ++ writeW l[j] := by
        unfold writeAll
        rw [List.take_succ_eq_append_getElem hlt, List.flatMap_append, List.flatMap_singleton]
      exact ih (l.length - (j + 1)) _ _ (by omega) ⟨j + 1, t1, rfl, by omega, by simp [h0], by simp, by simp [h3], by rw [hsnoc]; exact q.wb⟩
    · have hj' : j = l.length := by omega
      subst hj'
      rw [List.take_length] at hw
      have hlen := hwl l (fun x hx => hx) (by omega)
      simp -implicitDefEqProofs [hlt, h3]
      refine callQ_of (args := [.ptr 0 0]) (done_ok hw (by omega)) ?_
      simp -implicitDefEqProofs
      refine callQ_s (newReader_ok (writeAll l) h) (by simp) ?_
      have hr0 := RIs.new (l := writeAll l) (fun l' e => by cases e; exact ⟨by omega, writeAll_lt fun x hx => ⟨hok x hx, (hi x hx).2.2⟩⟩) h
      have hbn : (h.alloc (encRS (some (writeAll l)))).bn = h.bn + 1 := rfl
      generalize h.alloc (encRS (some (writeAll l))) = h1 at hr0 hbn
      generalize h.bn = b at hr0 hbn
      simp -implicitDefEqProofs
      refine run_loop (fun n s h => ∃ (j : Nat), n = l.length - j ∧ j ≤ l.length ∧ s 0 = .sl .no (l.map encI) ∧ s 6 = .int .i64 j ∧ s 5 = .ptr b 0 ∧ RIs h b (some (writeAll (l.drop j)))) ?_ l.length ?_
      · rintro n s h ⟨j, hn, hj, h0, h6, h5, hr⟩ ih
        change Run Try.prog false (It.c backL :: _) _ _ _
        unfold backL
        by_cases hlt : j < l.length
        · have hx := hok l[j] (List.getElem_mem hlt)
          have hdrop : writeAll (l.drop j) = writeW l[j] ++ writeAll (l.drop (j + 1)) := by
            unfold writeAll
            rw [List.drop_eq_getElem_cons hlt, List.flatMap_cons]
          rw [hdrop] at hr
          have hback := readS_back hx (hkind l[j] (List.getElem_mem hlt)) (writeAll (l.drop (j + 1)))
          have hne : ¬ h.bn = b := by have := hr.blt; omega
          have fin : ∀ (s' : Slots) (h' : H), s' 0 = .sl .no (l.map encI) → s' 6 = .int .i64 j → s' 5 = .ptr b 0 → s' 7 = .ptr h.bn 0 → h.bn < h'.bn → h'.bx h.bn = some (encI (backX l[j])) → RIs h' b (some (writeW l[j] ++ writeAll (l.drop (j + 1)))) →
              Run Try.prog false [It.c backT25, It.blk 3, It.c (.reg c7_r27), It.lp backL, It.blk 2, It.c ((IR.reg c7_r29).seq IR.ret)] (retQ [ResA.t 2] fun r' _ => wk r' = .bool true) s' h' := fun s' h' p0 p6 p5 p7 pb pbx pr => by
            have hbm : inI (backX l[j]).most := by
              obtain ⟨⟨n1, n2⟩, _, _, l1⟩ := hx
              unfold backX inI
              simp only
              split
              · omega
              · split <;> omega
            have hbl : (backX l[j]).l.length ≤ 9223372036854775807 := by
              have := hx.2.2.2
              simp only [backX]; omega
            have hc := lawRead_ok pr (backX l[j]) hbm hbl
            rw [hback] at hc
            have e6 : (encI (backX l[j])).length = 6 := rfl
            have e7 : List.take 6 (encI (backX l[j])) = encI (backX l[j]) := rfl
            unfold backT25
            simp -implicitDefEqProofs [p5, p7, pb, pbx, e6, e7]
            refine callQ_s hc.call (by simp) ?_
            have hto := hc.to.is
            simp -implicitDefEqProofs [p5]
            refine callQ_s (rOk_ok hto) (by simp) ?_
            simp -implicitDefEqProofs [p6, inc_i64 hlt hl, -Int.natCast_add]
            exact ih (l.length - (j + 1)) _ _ (by omega) ⟨j + 1, rfl, by omega, by simp [p0], by simp, by simp [p5], hto⟩
          have hi := idxOf_nat (k := .i64) hlt
          have hcut : 64 < l[j].s.size → l[j].s.extract 0 64 = cut64 l[j].s := fun h => by
            unfold cut64
            rw [show min l[j].s.size 64 = 64 by omega]
          have b64 : 64 < l[j].s.size → bndOf (some (.int .i64 64)) l[j].s.size l[j].s.size = some 64 := fun h => bnd_nat (n := 64) (by omega)
          by_cases hs : 64 < l[j].s.size
          · have hs' : (64 : Int) < (l[j].s.size : Int) := by omega
            have b1 := b64 hs
            have b2 := hcut hs
            by_cases k0 : l[j].kind = 0
            · by_cases hn0 : l[j].n < 0
              · simp -implicitDefEqProofs [h0, h6, hlt, hi, encI, k0, hn0, hs, hs', b1, b2, bnd_none, -bndOf]
                refine fin _ _ (by simp [h0]) (by simp [h6]) (by simp [h5]) (by simp) (by simp) (by simp [encI, backX, k0, hn0, hs]) ?_
                repeat refine RIs.setO ?_ hne
                exact hr.alloc _
              · simp -implicitDefEqProofs [h0, h6, hlt, hi, encI, k0, hn0, hs, hs', b1, b2, bnd_none, -bndOf]
                refine fin _ _ (by simp [h0]) (by simp [h6]) (by simp [h5]) (by simp) (by simp) (by simp [encI, backX, k0, hn0, hs]) ?_
                repeat refine RIs.setO ?_ hne
                exact hr.alloc _
            by_cases k2 : l[j].kind = 2
            · by_cases hn1 : l[j].n = 1
              · simp -implicitDefEqProofs [h0, h6, hlt, hi, encI, k2, hn1, hs, hs', b1, b2, bnd_none, -bndOf]
                refine fin _ _ (by simp [h0]) (by simp [h6]) (by simp [h5]) (by simp) (by simp) (by simp [encI, backX, k2, hn1, hs]) ?_
                repeat refine RIs.setO ?_ hne
                exact hr.alloc _
              · simp -implicitDefEqProofs [h0, h6, hlt, hi, encI, k2, hn1, hs, hs', b1, b2, bnd_none, -bndOf]
                refine fin _ _ (by simp [h0]) (by simp [h6]) (by simp [h5]) (by simp) (by simp) (by simp [encI, backX, k2, hn1, hs]) ?_
                repeat refine RIs.setO ?_ hne
                exact hr.alloc _
            by_cases k4 : l[j].kind = 4
            · simp -implicitDefEqProofs [h0, h6, hlt, hi, encI, k4, hs, hs', b1, b2, bnd_none, -bndOf]
              refine fin _ _ (by simp [h0]) (by simp [h6]) (by simp [h5]) (by simp) (by simp) (by simp [encI, backX, k4, hs]) ?_
              repeat refine RIs.setO ?_ hne
              exact hr.alloc _
            · simp -implicitDefEqProofs [h0, h6, hlt, hi, encI, k0, k2, k4, hs, hs', b1, b2, bnd_none, -bndOf]
              refine fin _ _ (by simp [h0]) (by simp [h6]) (by simp [h5]) (by simp) (by simp) (by simp [encI, backX, k0, k2, k4, hs]) ?_
              repeat refine RIs.setO ?_ hne
              exact hr.alloc _
          · have hs' : ¬ (64 : Int) < (l[j].s.size : Int) := by omega
            by_cases k0 : l[j].kind = 0
            · by_cases hn0 : l[j].n < 0
              · simp -implicitDefEqProofs [h0, h6, hlt, hi, encI, k0, hn0, hs, hs']
                refine fin _ _ (by simp [h0]) (by simp [h6]) (by simp [h5]) (by simp) (by simp) (by simp [encI, backX, k0, hn0, hs]) ?_
                repeat refine RIs.setO ?_ hne
                exact hr.alloc _
              · simp -implicitDefEqProofs [h0, h6, hlt, hi, encI, k0, hn0, hs, hs']
                refine fin _ _ (by simp [h0]) (by simp [h6]) (by simp [h5]) (by simp) (by simp) (by simp [encI, backX, k0, hn0, hs]) ?_
                repeat refine RIs.setO ?_ hne
                exact hr.alloc _
            by_cases k2 : l[j].kind = 2
            · by_cases hn1 : l[j].n = 1
              · simp -implicitDefEqProofs [h0, h6, hlt, hi, encI, k2, hn1, hs, hs']
                refine fin _ _ (by simp [h0]) (by simp [h6]) (by simp [h5]) (by simp) (by simp) (by simp [encI, backX, k2, hn1, hs]) ?_
                repeat refine RIs.setO ?_ hne
                exact hr.alloc _
              · simp -implicitDefEqProofs [h0, h6, hlt, hi, encI, k2, hn1, hs, hs']
                refine fin _ _ (by simp [h0]) (by simp [h6]) (by simp [h5]) (by simp) (by simp) (by simp [encI, backX, k2, hn1, hs]) ?_
                repeat refine RIs.setO ?_ hne
                exact hr.alloc _
            by_cases k4 : l[j].kind = 4
            · simp -implicitDefEqProofs [h0, h6, hlt, hi, encI, k4, hs, hs']
              refine fin _ _ (by simp [h0]) (by simp [h6]) (by simp [h5]) (by simp) (by simp) (by simp [encI, backX, k4, hs]) ?_
              repeat refine RIs.setO ?_ hne
              exact hr.alloc _
            · simp -implicitDefEqProofs [h0, h6, hlt, hi, encI, k0, k2, k4, hs, hs']
              refine fin _ _ (by simp [h0]) (by simp [h6]) (by simp [h5]) (by simp) (by simp) (by simp [encI, backX, k0, k2, k4, hs]) ?_
              repeat refine RIs.setO ?_ hne
              exact hr.alloc _
        · have hj' : j = l.length := by omega
          subst hj'
          simp -implicitDefEqProofs [h0, h6, hlt, h5]
          refine callQ_s (rEnd_ok hr) (by simp) ?_
          simp -implicitDefEqProofs [writeAll, endS]
      · exact ⟨0, by simp, by omega, by simp [h0], by simp, by simp, by simpa using hr0⟩
  · exact ⟨0, .full, by simp, by omega, by simp, by simp, by simp [H.nil], WB.new H.nil⟩
end Go.Proofs

/- PRINTED BY types.py, a program of this work: the program's types as Lean structures; their cells. -/
namespace Go.Proofs
open Go Go.RowKit Go.Am

def encN (n : Int) : List AV := [.int .i64 n]
theorem encN_len (n : Int) : (encN n).length = 1 := rfl
@[simp] theorem wk_encN (n : Int) : List.map wk (encN n) = encN n := by simp [encN]
@[simp] theorem wk_encN' : List.map wk ∘ encN = encN := by funext x; simp
theorem pure_encN (n : Int) : ∀ v ∈ encN n, PureV v := pures1 (.int _ _)
theorem pure_w64' (n : Nat) : ∀ v ∈ w64 n, PureV v := pures1 (.int _ _)
theorem pure_arr (l : List Int) : ∀ v ∈ l.map (AV.int .i64), PureV v := fun v hv => by
  obtain ⟨n, _, rfl⟩ := List.mem_map.1 hv
  exact .int _ _
theorem pures_app {a b : List AV} (ha : ∀ v ∈ a, PureV v) (hb : ∀ v ∈ b, PureV v) : ∀ v ∈ a ++ b, PureV v := fun v hv => by
  rcases List.mem_append.1 hv with h | h
  · exact ha v h
  · exact hb v h
theorem pure_sl {α : Type} {f : α → List AV} (hf : ∀ x, ∀ v ∈ f x, PureV v) (l : List α) : PureV (.sl .no (l.map f)) := .sl (fun i h => by cases h) fun e he v hv => by
  obtain ⟨x, _, rfl⟩ := List.mem_map.1 he
  exact hf x v hv
@[simp] theorem wk_arr (l : List Int) : List.map wk (l.map (AV.int .i64)) = l.map (AV.int .i64) := by
  rw [List.map_map]; apply List.map_congr_left; intro x _; simp
@[simp] theorem wk_arr' : wk ∘ AV.int .i64 = AV.int .i64 := by funext x; simp
theorem lens_map {α : Type} {f : α → List AV} {n : Nat} (hf : ∀ x, (f x).length = n) (l : List α) : ∀ e ∈ l.map f, e.length = n := fun e he => by
  obtain ⟨x, _, rfl⟩ := List.mem_map.1 he
  exact hf x

/-! ### Shapes -/
theorem sh_int {v : AV} (h : (Sh.int .i64).is v) : ∃ n, v = .int .i64 n ∧ inI n := by
  obtain ⟨n, rfl, hw⟩ := h
  refine ⟨n, rfl, ?_⟩
  simp [Lit.wf, IntKind.min, IntKind.max, IntKind.signed, IntKind.bits] at hw
  exact ⟨by omega, by omega⟩
theorem sh_word {v : AV} (h : (Sh.int .u64).is v) : ∃ n : Nat, v = .int .u64 n ∧ n < 18446744073709551616 := by
  obtain ⟨n, rfl, hw⟩ := h
  simp [Lit.wf, IntKind.min, IntKind.max, IntKind.signed, IntKind.bits] at hw
  refine ⟨n.toNat, ?_, by omega⟩
  congr 1
  omega
theorem sh_list {α : Type} {f : α → List AV} {sh : List Sh} {wf : α → Prop} (hf : ∀ vs, isL sh vs → ∃ x, vs = f x ∧ wf x) : ∀ {es : List (List AV)}, (∀ e ∈ es, isL sh e) → ∃ l : List α, es = l.map f ∧ ∀ x ∈ l, wf x
  | [], _ => ⟨[], rfl, fun x hx => by cases hx⟩
  | e :: es, h => by
    obtain ⟨l, rfl, hl⟩ := sh_list hf (es := es) fun e he => h e (List.mem_cons_of_mem _ he)
    obtain ⟨x, rfl, hx⟩ := hf e (h e (List.mem_cons_self ..))
    exact ⟨x :: l, rfl, fun y hy => by
      rcases List.mem_cons.1 hy with rfl | hy
      · exact hx
      · exact hl y hy⟩
theorem isL_app : ∀ {a b : List Sh} {vs : List AV}, isL (a ++ b) vs → ∃ x y, vs = x ++ y ∧ isL a x ∧ isL b y
  | [], b, vs, h => ⟨[], vs, rfl, rfl, h⟩
  | s :: a, b, vs, h => by
    simp only [List.cons_append, isL] at h
    obtain ⟨v, r, rfl, h1, h2⟩ := h
    obtain ⟨x, y, rfl, h3, h4⟩ := isL_app h2
    refine ⟨v :: x, y, rfl, ?_, h4⟩
    simp only [isL]
    exact ⟨v, x, rfl, h1, h3⟩
theorem isL_one {s : Sh} {vs : List AV} (h : isL [s] vs) : ∃ v, vs = [v] ∧ s.is v := by
  simp only [isL] at h
  obtain ⟨v, r, rfl, h1, rfl⟩ := h
  exact ⟨v, rfl, h1⟩
theorem isL_encN {vs : List AV} (h : isL [.int .i64] vs) : ∃ n, vs = encN n ∧ inI n := by
  obtain ⟨v, rfl, h1⟩ := isL_one h
  obtain ⟨n, rfl, hn⟩ := sh_int h1
  exact ⟨n, rfl, hn⟩
theorem isL_w64 {vs : List AV} (h : isL [.int .u64] vs) : ∃ n, vs = w64 n ∧ n < 18446744073709551616 := by
  obtain ⟨v, rfl, h1⟩ := isL_one h
  obtain ⟨n, rfl, hn⟩ := sh_word h1
  exact ⟨n, rfl, hn⟩
theorem isL_arr : ∀ {n : Nat} {vs : List AV}, isL (List.replicate n (.int .i64)) vs → ∃ l : List Int, vs = l.map (AV.int .i64) ∧ l.length = n ∧ ∀ x ∈ l, inI x
  | 0, vs, h => by
    simp only [List.replicate, isL] at h
    exact ⟨[], h, rfl, fun x hx => by cases hx⟩
  | n + 1, vs, h => by
    simp only [List.replicate, isL] at h
    obtain ⟨v, r, rfl, h1, h2⟩ := h
    obtain ⟨l, rfl, h3, h4⟩ := isL_arr h2
    obtain ⟨x, rfl, hx⟩ := sh_int h1
    exact ⟨x :: l, rfl, by simp [h3], fun y hy => by
      rcases List.mem_cons.1 hy with rfl | hy
      · exact hx
      · exact h4 y hy⟩
theorem isL_sl {α : Type} {f : α → List AV} {sh : List Sh} {wf : α → Prop} (hf : ∀ vs, isL sh vs → ∃ x, vs = f x ∧ wf x) {vs : List AV} (h : isL [.sl sh] vs) : ∃ l : List α, vs = [.sl .no (l.map f)] ∧ l.length ≤ maxLen ∧ ∀ x ∈ l, wf x := by
  obtain ⟨v, rfl, h1⟩ := isL_one h
  simp only [Sh.is] at h1
  obtain ⟨es, rfl, h2, h3⟩ := h1
  obtain ⟨l, rfl, h4⟩ := sh_list hf h3
  exact ⟨l, rfl, by simpa using h2, h4⟩

/-! ### KeyT -/
structure KeyT where
  arg : Int
  base : Int
  deriving DecidableEq

def encKeyT (x : KeyT) : List AV := [.int .i64 x.arg, .int .i64 x.base]
def KeyT.wf (x : KeyT) : Prop := inI x.arg ∧ inI x.base
@[simp] theorem encKeyT_len (x : KeyT) : (encKeyT x).length = 2 := rfl
@[simp] theorem wk_encKeyT (x : KeyT) : List.map wk (encKeyT x) = encKeyT x := by simp [encKeyT]
@[simp] theorem wk_encKeyT' : List.map wk ∘ encKeyT = encKeyT := by funext x; simp
theorem pure_encKeyT (x : KeyT) : ∀ v ∈ encKeyT x, PureV v := (pures_cons (.int _ _) (pures_cons (.int _ _) pures_nil))
def shKeyT : List Sh := [.int .i64] ++ [.int .i64]
theorem isL_encKeyT {vs : List AV} (h : isL shKeyT vs) : ∃ x : KeyT, vs = encKeyT x ∧ x.wf := by
  unfold shKeyT at h
  obtain ⟨vs, v1, rfl, h, h1⟩ := isL_app h
  have h0 := h
  obtain ⟨u0, rfl, w0⟩ := isL_encN h0
  obtain ⟨u1, rfl, w1⟩ := isL_encN h1
  refine ⟨⟨u0, u1⟩, ?_, ⟨w0, w1⟩⟩
  simp [encKeyT, encN]

/-! ### Inst -/
structure Inst where
  op : Int
  a : Int
  b : Int
  c : Int
  k : KeyT
  l : KeyT
  x : Int
  deriving DecidableEq

def encInst (x : Inst) : List AV := [.int .i64 x.op, .int .i64 x.a, .int .i64 x.b, .int .i64 x.c, .int .i64 x.k.arg, .int .i64 x.k.base, .int .i64 x.l.arg, .int .i64 x.l.base, .int .i64 x.x]
def Inst.wf (x : Inst) : Prop := inI x.op ∧ inI x.a ∧ inI x.b ∧ inI x.c ∧ x.k.wf ∧ x.l.wf ∧ inI x.x
@[simp] theorem encInst_len (x : Inst) : (encInst x).length = 9 := rfl
@[simp] theorem wk_encInst (x : Inst) : List.map wk (encInst x) = encInst x := by simp [encInst]
@[simp] theorem wk_encInst' : List.map wk ∘ encInst = encInst := by funext x; simp
theorem pure_encInst (x : Inst) : ∀ v ∈ encInst x, PureV v := (pures_cons (.int _ _) (pures_cons (.int _ _) (pures_cons (.int _ _) (pures_cons (.int _ _) (pures_cons (.int _ _) (pures_cons (.int _ _) (pures_cons (.int _ _) (pures_cons (.int _ _) (pures_cons (.int _ _) pures_nil)))))))))
def shInst : List Sh := [.int .i64] ++ [.int .i64] ++ [.int .i64] ++ [.int .i64] ++ shKeyT ++ shKeyT ++ [.int .i64]
theorem isL_encInst {vs : List AV} (h : isL shInst vs) : ∃ x : Inst, vs = encInst x ∧ x.wf := by
  unfold shInst at h
  obtain ⟨vs, v6, rfl, h, h6⟩ := isL_app h
  obtain ⟨vs, v5, rfl, h, h5⟩ := isL_app h
  obtain ⟨vs, v4, rfl, h, h4⟩ := isL_app h
  obtain ⟨vs, v3, rfl, h, h3⟩ := isL_app h
  obtain ⟨vs, v2, rfl, h, h2⟩ := isL_app h
  obtain ⟨vs, v1, rfl, h, h1⟩ := isL_app h
  have h0 := h
  obtain ⟨u0, rfl, w0⟩ := isL_encN h0
  obtain ⟨u1, rfl, w1⟩ := isL_encN h1
  obtain ⟨u2, rfl, w2⟩ := isL_encN h2
  obtain ⟨u3, rfl, w3⟩ := isL_encN h3
  obtain ⟨u4, rfl, w4⟩ := isL_encKeyT h4
  obtain ⟨u5, rfl, w5⟩ := isL_encKeyT h5
  obtain ⟨u6, rfl, w6⟩ := isL_encN h6
  refine ⟨⟨u0, u1, u2, u3, u4, u5, u6⟩, ?_, ⟨w0, w1, w2, w3, w4, w5, w6⟩⟩
  simp [encInst, encN, encKeyT]

/-! ### SpanT -/
structure SpanT where
  lo : KeyT
  hi : KeyT
  write : Bool
  deriving DecidableEq

def encSpanT (x : SpanT) : List AV := [.int .i64 x.lo.arg, .int .i64 x.lo.base, .int .i64 x.hi.arg, .int .i64 x.hi.base, .bool x.write]
def SpanT.wf (x : SpanT) : Prop := x.lo.wf ∧ x.hi.wf
@[simp] theorem encSpanT_len (x : SpanT) : (encSpanT x).length = 5 := rfl
@[simp] theorem wk_encSpanT (x : SpanT) : List.map wk (encSpanT x) = encSpanT x := by simp [encSpanT]
@[simp] theorem wk_encSpanT' : List.map wk ∘ encSpanT = encSpanT := by funext x; simp
theorem pure_encSpanT (x : SpanT) : ∀ v ∈ encSpanT x, PureV v := (pures_cons (.int _ _) (pures_cons (.int _ _) (pures_cons (.int _ _) (pures_cons (.int _ _) (pures_cons (.bool _) pures_nil)))))
def shSpanT : List Sh := shKeyT ++ shKeyT ++ [.bool]
theorem isL_encSpanT {vs : List AV} (h : isL shSpanT vs) : ∃ x : SpanT, vs = encSpanT x ∧ x.wf := by
  unfold shSpanT at h
  obtain ⟨vs, v2, rfl, h, h2⟩ := isL_app h
  obtain ⟨vs, v1, rfl, h, h1⟩ := isL_app h
  have h0 := h
  obtain ⟨u0, rfl, w0⟩ := isL_encKeyT h0
  obtain ⟨u1, rfl, w1⟩ := isL_encKeyT h1
  obtain ⟨_, rfl, u2, rfl⟩ := isL_one h2
  refine ⟨⟨u0, u1, u2⟩, ?_, ⟨w0, w1⟩⟩
  simp [encSpanT, encN, encKeyT]

/-! ### Stp -/
structure Stp where
  code : List Inst
  foot : List SpanT
  deriving DecidableEq

def encStp (x : Stp) : List AV := [.sl .no (x.code.map encInst), .sl .no (x.foot.map encSpanT)]
def Stp.wf (x : Stp) : Prop := (x.code.length ≤ maxLen ∧ ∀ y ∈ x.code, y.wf) ∧ (x.foot.length ≤ maxLen ∧ ∀ y ∈ x.foot, y.wf)
@[simp] theorem encStp_len (x : Stp) : (encStp x).length = 2 := rfl
@[simp] theorem wk_encStp (x : Stp) : List.map wk (encStp x) = encStp x := by simp [encStp]
@[simp] theorem wk_encStp' : List.map wk ∘ encStp = encStp := by funext x; simp
theorem pure_encStp (x : Stp) : ∀ v ∈ encStp x, PureV v := (pures_cons (pure_sl pure_encInst _) (pures_cons (pure_sl pure_encSpanT _) pures_nil))
def shStp : List Sh := [.sl shInst] ++ [.sl shSpanT]
theorem isL_encStp {vs : List AV} (h : isL shStp vs) : ∃ x : Stp, vs = encStp x ∧ x.wf := by
  unfold shStp at h
  obtain ⟨vs, v1, rfl, h, h1⟩ := isL_app h
  have h0 := h
  obtain ⟨u0, rfl, w0⟩ := isL_sl (fun vs h => isL_encInst h) h0
  obtain ⟨u1, rfl, w1⟩ := isL_sl (fun vs h => isL_encSpanT h) h1
  refine ⟨⟨u0, u1⟩, ?_, ⟨w0, w1⟩⟩
  simp [encStp, encN]

/-! ### Cls -/
structure Cls where
  name : ByteArray
  args : Int
  steps : List Stp
  comps : List Stp
  resume : Bool
  deriving DecidableEq

def encCls (x : Cls) : List AV := [.str x.name, .int .i64 x.args, .sl .no (x.steps.map encStp), .sl .no (x.comps.map encStp), .bool x.resume]
def Cls.wf (x : Cls) : Prop := x.name.size ≤ maxLen ∧ inI x.args ∧ (x.steps.length ≤ maxLen ∧ ∀ y ∈ x.steps, y.wf) ∧ (x.comps.length ≤ maxLen ∧ ∀ y ∈ x.comps, y.wf)
@[simp] theorem encCls_len (x : Cls) : (encCls x).length = 5 := rfl
@[simp] theorem wk_encCls (x : Cls) : List.map wk (encCls x) = encCls x := by simp [encCls]
@[simp] theorem wk_encCls' : List.map wk ∘ encCls = encCls := by funext x; simp
theorem pure_encCls (x : Cls) : ∀ v ∈ encCls x, PureV v := (pures_cons (.str _) (pures_cons (.int _ _) (pures_cons (pure_sl pure_encStp _) (pures_cons (pure_sl pure_encStp _) (pures_cons (.bool _) pures_nil)))))
def shCls : List Sh := [.str] ++ [.int .i64] ++ [.sl shStp] ++ [.sl shStp] ++ [.bool]
theorem isL_encCls {vs : List AV} (h : isL shCls vs) : ∃ x : Cls, vs = encCls x ∧ x.wf := by
  unfold shCls at h
  obtain ⟨vs, v4, rfl, h, h4⟩ := isL_app h
  obtain ⟨vs, v3, rfl, h, h3⟩ := isL_app h
  obtain ⟨vs, v2, rfl, h, h2⟩ := isL_app h
  obtain ⟨vs, v1, rfl, h, h1⟩ := isL_app h
  have h0 := h
  obtain ⟨_, rfl, u0, rfl, w0⟩ := isL_one h0
  obtain ⟨u1, rfl, w1⟩ := isL_encN h1
  obtain ⟨u2, rfl, w2⟩ := isL_sl (fun vs h => isL_encStp h) h2
  obtain ⟨u3, rfl, w3⟩ := isL_sl (fun vs h => isL_encStp h) h3
  obtain ⟨_, rfl, u4, rfl⟩ := isL_one h4
  refine ⟨⟨u0, u1, u2, u3, u4⟩, ?_, ⟨w0, w1, w2, w3⟩⟩
  simp [encCls, encN]

/-! ### Ctlg -/
structure Ctlg where
  classes : List Cls
  breaks : List Int
  deriving DecidableEq

def encCtlg (x : Ctlg) : List AV := [.sl .no (x.classes.map encCls)] ++ x.breaks.map (AV.int .i64)
def Ctlg.wf (x : Ctlg) : Prop := (x.classes.length ≤ maxLen ∧ ∀ y ∈ x.classes, y.wf) ∧ (x.breaks.length = 16 ∧ ∀ y ∈ x.breaks, inI y)
theorem encCtlg_len {x : Ctlg} (h : x.wf) : (encCtlg x).length = 17 := by
  simp only [Ctlg.wf] at h
  simp [encCtlg, h]
@[simp] theorem wk_encCtlg (x : Ctlg) : List.map wk (encCtlg x) = encCtlg x := by simp [encCtlg]
@[simp] theorem wk_encCtlg' : List.map wk ∘ encCtlg = encCtlg := by funext x; simp
theorem pure_encCtlg (x : Ctlg) : ∀ v ∈ encCtlg x, PureV v := (pures_app (pures_cons (pure_sl pure_encCls _) pures_nil) (pure_arr _))
def shCtlg : List Sh := [.sl shCls] ++ List.replicate 16 (.int .i64)
theorem isL_encCtlg {vs : List AV} (h : isL shCtlg vs) : ∃ x : Ctlg, vs = encCtlg x ∧ x.wf := by
  unfold shCtlg at h
  obtain ⟨vs, v1, rfl, h, h1⟩ := isL_app h
  have h0 := h
  obtain ⟨u0, rfl, w0⟩ := isL_sl (fun vs h => isL_encCls h) h0
  obtain ⟨u1, rfl, w1⟩ := isL_arr h1
  refine ⟨⟨u0, u1⟩, ?_, ⟨w0, w1⟩⟩
  simp [encCtlg, encN]

/-! ### Spn -/
structure Spn where
  lo : Int
  hi : Int
  deriving DecidableEq

def encSpn (x : Spn) : List AV := [.int .i64 x.lo, .int .i64 x.hi]
def Spn.wf (x : Spn) : Prop := inI x.lo ∧ inI x.hi
@[simp] theorem encSpn_len (x : Spn) : (encSpn x).length = 2 := rfl
@[simp] theorem wk_encSpn (x : Spn) : List.map wk (encSpn x) = encSpn x := by simp [encSpn]
@[simp] theorem wk_encSpn' : List.map wk ∘ encSpn = encSpn := by funext x; simp
theorem pure_encSpn (x : Spn) : ∀ v ∈ encSpn x, PureV v := (pures_cons (.int _ _) (pures_cons (.int _ _) pures_nil))
def shSpn : List Sh := [.int .i64] ++ [.int .i64]
theorem isL_encSpn {vs : List AV} (h : isL shSpn vs) : ∃ x : Spn, vs = encSpn x ∧ x.wf := by
  unfold shSpn at h
  obtain ⟨vs, v1, rfl, h, h1⟩ := isL_app h
  have h0 := h
  obtain ⟨u0, rfl, w0⟩ := isL_encN h0
  obtain ⟨u1, rfl, w1⟩ := isL_encN h1
  refine ⟨⟨u0, u1⟩, ?_, ⟨w0, w1⟩⟩
  simp [encSpn, encN]

/-! ### Nod -/
structure Nod where
  saga : Int
  cls : Int
  step : Int
  back : Bool
  reads : List Spn
  writes : List Spn
  deriving DecidableEq

def encNod (x : Nod) : List AV := [.int .i64 x.saga, .int .i64 x.cls, .int .i64 x.step, .bool x.back, .sl .no (x.reads.map encSpn), .sl .no (x.writes.map encSpn)]
def Nod.wf (x : Nod) : Prop := inI x.saga ∧ inI x.cls ∧ inI x.step ∧ (x.reads.length ≤ maxLen ∧ ∀ y ∈ x.reads, y.wf) ∧ (x.writes.length ≤ maxLen ∧ ∀ y ∈ x.writes, y.wf)
@[simp] theorem encNod_len (x : Nod) : (encNod x).length = 6 := rfl
@[simp] theorem wk_encNod (x : Nod) : List.map wk (encNod x) = encNod x := by simp [encNod]
@[simp] theorem wk_encNod' : List.map wk ∘ encNod = encNod := by funext x; simp
theorem pure_encNod (x : Nod) : ∀ v ∈ encNod x, PureV v := (pures_cons (.int _ _) (pures_cons (.int _ _) (pures_cons (.int _ _) (pures_cons (.bool _) (pures_cons (pure_sl pure_encSpn _) (pures_cons (pure_sl pure_encSpn _) pures_nil))))))
def shNod : List Sh := [.int .i64] ++ [.int .i64] ++ [.int .i64] ++ [.bool] ++ [.sl shSpn] ++ [.sl shSpn]
theorem isL_encNod {vs : List AV} (h : isL shNod vs) : ∃ x : Nod, vs = encNod x ∧ x.wf := by
  unfold shNod at h
  obtain ⟨vs, v5, rfl, h, h5⟩ := isL_app h
  obtain ⟨vs, v4, rfl, h, h4⟩ := isL_app h
  obtain ⟨vs, v3, rfl, h, h3⟩ := isL_app h
  obtain ⟨vs, v2, rfl, h, h2⟩ := isL_app h
  obtain ⟨vs, v1, rfl, h, h1⟩ := isL_app h
  have h0 := h
  obtain ⟨u0, rfl, w0⟩ := isL_encN h0
  obtain ⟨u1, rfl, w1⟩ := isL_encN h1
  obtain ⟨u2, rfl, w2⟩ := isL_encN h2
  obtain ⟨_, rfl, u3, rfl⟩ := isL_one h3
  obtain ⟨u4, rfl, w4⟩ := isL_sl (fun vs h => isL_encSpn h) h4
  obtain ⟨u5, rfl, w5⟩ := isL_sl (fun vs h => isL_encSpn h) h5
  refine ⟨⟨u0, u1, u2, u3, u4, u5⟩, ?_, ⟨w0, w1, w2, w4, w5⟩⟩
  simp [encNod, encN]

/-! ### Chg -/
structure Chg where
  key : Int
  gone : Bool
  value : Int
  deriving DecidableEq

def encChg (x : Chg) : List AV := [.int .i64 x.key, .bool x.gone, .int .i64 x.value]
def Chg.wf (x : Chg) : Prop := inI x.key ∧ inI x.value
@[simp] theorem encChg_len (x : Chg) : (encChg x).length = 3 := rfl
@[simp] theorem wk_encChg (x : Chg) : List.map wk (encChg x) = encChg x := by simp [encChg]
@[simp] theorem wk_encChg' : List.map wk ∘ encChg = encChg := by funext x; simp
theorem pure_encChg (x : Chg) : ∀ v ∈ encChg x, PureV v := (pures_cons (.int _ _) (pures_cons (.bool _) (pures_cons (.int _ _) pures_nil)))
def shChg : List Sh := [.int .i64] ++ [.bool] ++ [.int .i64]
theorem isL_encChg {vs : List AV} (h : isL shChg vs) : ∃ x : Chg, vs = encChg x ∧ x.wf := by
  unfold shChg at h
  obtain ⟨vs, v2, rfl, h, h2⟩ := isL_app h
  obtain ⟨vs, v1, rfl, h, h1⟩ := isL_app h
  have h0 := h
  obtain ⟨u0, rfl, w0⟩ := isL_encN h0
  obtain ⟨_, rfl, u1, rfl⟩ := isL_one h1
  obtain ⟨u2, rfl, w2⟩ := isL_encN h2
  refine ⟨⟨u0, u1, u2⟩, ?_, ⟨w0, w2⟩⟩
  simp [encChg, encN]

/-! ### Recd -/
structure Recd where
  kind : Int
  saga : Int
  cls : Int
  args : List Int
  why : Int
  node : Nod
  regs : List Int
  changes : List Chg
  deriving DecidableEq

def encRecd (x : Recd) : List AV := [.int .i64 x.kind, .int .i64 x.saga, .int .i64 x.cls, .sl .no (x.args.map encN), .int .i64 x.why, .int .i64 x.node.saga, .int .i64 x.node.cls, .int .i64 x.node.step, .bool x.node.back, .sl .no (x.node.reads.map encSpn), .sl .no (x.node.writes.map encSpn)] ++ x.regs.map (AV.int .i64) ++ [.sl .no (x.changes.map encChg)]
def Recd.wf (x : Recd) : Prop := inI x.kind ∧ inI x.saga ∧ inI x.cls ∧ (x.args.length ≤ maxLen ∧ ∀ y ∈ x.args, inI y) ∧ inI x.why ∧ x.node.wf ∧ (x.regs.length = 4 ∧ ∀ y ∈ x.regs, inI y) ∧ (x.changes.length ≤ maxLen ∧ ∀ y ∈ x.changes, y.wf)
theorem encRecd_len {x : Recd} (h : x.wf) : (encRecd x).length = 16 := by
  simp only [Recd.wf] at h
  simp [encRecd, h]
@[simp] theorem wk_encRecd (x : Recd) : List.map wk (encRecd x) = encRecd x := by simp [encRecd]
@[simp] theorem wk_encRecd' : List.map wk ∘ encRecd = encRecd := by funext x; simp
theorem pure_encRecd (x : Recd) : ∀ v ∈ encRecd x, PureV v := (pures_app (pures_app (pures_cons (.int _ _) (pures_cons (.int _ _) (pures_cons (.int _ _) (pures_cons (pure_sl pure_encN _) (pures_cons (.int _ _) (pures_cons (.int _ _) (pures_cons (.int _ _) (pures_cons (.int _ _) (pures_cons (.bool _) (pures_cons (pure_sl pure_encSpn _) (pures_cons (pure_sl pure_encSpn _) pures_nil))))))))))) (pure_arr _)) (pures_cons (pure_sl pure_encChg _) pures_nil))
def shRecd : List Sh := [.int .i64] ++ [.int .i64] ++ [.int .i64] ++ [.sl [.int .i64]] ++ [.int .i64] ++ shNod ++ List.replicate 4 (.int .i64) ++ [.sl shChg]
theorem isL_encRecd {vs : List AV} (h : isL shRecd vs) : ∃ x : Recd, vs = encRecd x ∧ x.wf := by
  unfold shRecd at h
  obtain ⟨vs, v7, rfl, h, h7⟩ := isL_app h
  obtain ⟨vs, v6, rfl, h, h6⟩ := isL_app h
  obtain ⟨vs, v5, rfl, h, h5⟩ := isL_app h
  obtain ⟨vs, v4, rfl, h, h4⟩ := isL_app h
  obtain ⟨vs, v3, rfl, h, h3⟩ := isL_app h
  obtain ⟨vs, v2, rfl, h, h2⟩ := isL_app h
  obtain ⟨vs, v1, rfl, h, h1⟩ := isL_app h
  have h0 := h
  obtain ⟨u0, rfl, w0⟩ := isL_encN h0
  obtain ⟨u1, rfl, w1⟩ := isL_encN h1
  obtain ⟨u2, rfl, w2⟩ := isL_encN h2
  obtain ⟨u3, rfl, w3⟩ := isL_sl (fun vs h => isL_encN h) h3
  obtain ⟨u4, rfl, w4⟩ := isL_encN h4
  obtain ⟨u5, rfl, w5⟩ := isL_encNod h5
  obtain ⟨u6, rfl, w6⟩ := isL_arr h6
  obtain ⟨u7, rfl, w7⟩ := isL_sl (fun vs h => isL_encChg h) h7
  refine ⟨⟨u0, u1, u2, u3, u4, u5, u6, u7⟩, ?_, ⟨w0, w1, w2, w3, w4, w5, w6, w7⟩⟩
  simp [encRecd, encN, encNod]

/-! ### Frm -/
structure Frm where
  kind : Int
  words : List Nat
  deriving DecidableEq

def encFrm (x : Frm) : List AV := [.int .i64 x.kind, .sl .no (x.words.map w64)]
def Frm.wf (x : Frm) : Prop := inI x.kind ∧ (x.words.length ≤ maxLen ∧ ∀ y ∈ x.words, y < 18446744073709551616)
@[simp] theorem encFrm_len (x : Frm) : (encFrm x).length = 2 := rfl
@[simp] theorem wk_encFrm (x : Frm) : List.map wk (encFrm x) = encFrm x := by simp [encFrm]
@[simp] theorem wk_encFrm' : List.map wk ∘ encFrm = encFrm := by funext x; simp
theorem pure_encFrm (x : Frm) : ∀ v ∈ encFrm x, PureV v := (pures_cons (.int _ _) (pures_cons (pure_sl pure_w64' _) pures_nil))
def shFrm : List Sh := [.int .i64] ++ [.sl [.int .u64]]
theorem isL_encFrm {vs : List AV} (h : isL shFrm vs) : ∃ x : Frm, vs = encFrm x ∧ x.wf := by
  unfold shFrm at h
  obtain ⟨vs, v1, rfl, h, h1⟩ := isL_app h
  have h0 := h
  obtain ⟨u0, rfl, w0⟩ := isL_encN h0
  obtain ⟨u1, rfl, w1⟩ := isL_sl (fun vs h => isL_w64 h) h1
  refine ⟨⟨u0, u1⟩, ?_, ⟨w0, w1⟩⟩
  simp [encFrm, encN]

/-! ### Par -/
structure Par where
  key : Int
  value : Int
  deriving DecidableEq

def encPar (x : Par) : List AV := [.int .i64 x.key, .int .i64 x.value]
def Par.wf (x : Par) : Prop := inI x.key ∧ inI x.value
@[simp] theorem encPar_len (x : Par) : (encPar x).length = 2 := rfl
@[simp] theorem wk_encPar (x : Par) : List.map wk (encPar x) = encPar x := by simp [encPar]
@[simp] theorem wk_encPar' : List.map wk ∘ encPar = encPar := by funext x; simp
theorem pure_encPar (x : Par) : ∀ v ∈ encPar x, PureV v := (pures_cons (.int _ _) (pures_cons (.int _ _) pures_nil))
def shPar : List Sh := [.int .i64] ++ [.int .i64]
theorem isL_encPar {vs : List AV} (h : isL shPar vs) : ∃ x : Par, vs = encPar x ∧ x.wf := by
  unfold shPar at h
  obtain ⟨vs, v1, rfl, h, h1⟩ := isL_app h
  have h0 := h
  obtain ⟨u0, rfl, w0⟩ := isL_encN h0
  obtain ⟨u1, rfl, w1⟩ := isL_encN h1
  refine ⟨⟨u0, u1⟩, ?_, ⟨w0, w1⟩⟩
  simp [encPar, encN]

/-! ### Rept -/
structure Rept where
  committed : Int
  compensated : Int
  opn : Int
  steps : Int
  backs : Int
  aborts : List Int
  keys : Int
  deriving DecidableEq

def encRept (x : Rept) : List AV := [.int .i64 x.committed, .int .i64 x.compensated, .int .i64 x.opn, .int .i64 x.steps, .int .i64 x.backs] ++ x.aborts.map (AV.int .i64) ++ [.int .i64 x.keys]
def Rept.wf (x : Rept) : Prop := inI x.committed ∧ inI x.compensated ∧ inI x.opn ∧ inI x.steps ∧ inI x.backs ∧ (x.aborts.length = 16 ∧ ∀ y ∈ x.aborts, inI y) ∧ inI x.keys
theorem encRept_len {x : Rept} (h : x.wf) : (encRept x).length = 22 := by
  simp only [Rept.wf] at h
  simp [encRept, h]
@[simp] theorem wk_encRept (x : Rept) : List.map wk (encRept x) = encRept x := by simp [encRept]
@[simp] theorem wk_encRept' : List.map wk ∘ encRept = encRept := by funext x; simp
theorem pure_encRept (x : Rept) : ∀ v ∈ encRept x, PureV v := (pures_app (pures_app (pures_cons (.int _ _) (pures_cons (.int _ _) (pures_cons (.int _ _) (pures_cons (.int _ _) (pures_cons (.int _ _) pures_nil))))) (pure_arr _)) (pures_cons (.int _ _) pures_nil))
def shRept : List Sh := [.int .i64] ++ [.int .i64] ++ [.int .i64] ++ [.int .i64] ++ [.int .i64] ++ List.replicate 16 (.int .i64) ++ [.int .i64]
theorem isL_encRept {vs : List AV} (h : isL shRept vs) : ∃ x : Rept, vs = encRept x ∧ x.wf := by
  unfold shRept at h
  obtain ⟨vs, v6, rfl, h, h6⟩ := isL_app h
  obtain ⟨vs, v5, rfl, h, h5⟩ := isL_app h
  obtain ⟨vs, v4, rfl, h, h4⟩ := isL_app h
  obtain ⟨vs, v3, rfl, h, h3⟩ := isL_app h
  obtain ⟨vs, v2, rfl, h, h2⟩ := isL_app h
  obtain ⟨vs, v1, rfl, h, h1⟩ := isL_app h
  have h0 := h
  obtain ⟨u0, rfl, w0⟩ := isL_encN h0
  obtain ⟨u1, rfl, w1⟩ := isL_encN h1
  obtain ⟨u2, rfl, w2⟩ := isL_encN h2
  obtain ⟨u3, rfl, w3⟩ := isL_encN h3
  obtain ⟨u4, rfl, w4⟩ := isL_encN h4
  obtain ⟨u5, rfl, w5⟩ := isL_arr h5
  obtain ⟨u6, rfl, w6⟩ := isL_encN h6
  refine ⟨⟨u0, u1, u2, u3, u4, u5, u6⟩, ?_, ⟨w0, w1, w2, w3, w4, w5, w6⟩⟩
  simp [encRept, encN]

end Go.Proofs

/- Arguments of a law: from their readings to values. -/
namespace Go.Proofs
open Go Go.RowKit Go.Am

theorem sh_one {s : Sh} {a : AV} (h : s.is a) : isL [s] [a] := by
  simp only [isL]
  exact ⟨a, [], rfl, h, rfl⟩
theorem sl_is {α : Type} {f : α → List AV} {sh : List Sh} {wf : α → Prop} (hf : ∀ vs, isL sh vs → ∃ x, vs = f x ∧ wf x) {v : AV} (h : (Sh.sl sh).is v) : ∃ l : List α, v = .sl .no (l.map f) ∧ l.length ≤ maxLen ∧ ∀ x ∈ l, wf x := by
  obtain ⟨l, e, h1, h2⟩ := isL_sl hf (sh_one h)
  simp at e
  exact ⟨l, e, h1, h2⟩
def shItem : List Sh := [.int .i64] ++ [.int .i64] ++ [.int .i64] ++ [.int .i64] ++ [.str] ++ [.sl [.int .u64]]
def Item.wf (x : Item) : Prop := inI x.kind ∧ inI x.n ∧ inI x.most ∧ inI x.x ∧ x.s.size ≤ maxLen ∧ x.l.length ≤ maxLen ∧ ∀ w ∈ x.l, w < 18446744073709551616
theorem isL_encItem {vs : List AV} (h : isL shItem vs) : ∃ x : Item, vs = encI x ∧ x.wf := by
  unfold shItem at h
  obtain ⟨vs, v5, rfl, h, h5⟩ := isL_app h
  obtain ⟨vs, v4, rfl, h, h4⟩ := isL_app h
  obtain ⟨vs, v3, rfl, h, h3⟩ := isL_app h
  obtain ⟨vs, v2, rfl, h, h2⟩ := isL_app h
  obtain ⟨vs, v1, rfl, h, h1⟩ := isL_app h
  obtain ⟨u0, rfl, w0⟩ := isL_encN h
  obtain ⟨u1, rfl, w1⟩ := isL_encN h1
  obtain ⟨u2, rfl, w2⟩ := isL_encN h2
  obtain ⟨u3, rfl, w3⟩ := isL_encN h3
  obtain ⟨_, rfl, u4, rfl, w4⟩ := isL_one h4
  obtain ⟨u5, rfl, w5⟩ := isL_sl (fun vs h => isL_w64 h) h5
  refine ⟨⟨u0, u1, u2, u3, u4, u5⟩, ?_, w0, w1, w2, w3, w4, w5⟩
  simp [encI, encN]

section
variable {H : Type} {enc : TypeId × Value → H} {P : Program} {w : World} {spare : Nat → Bool} {held : Bool}
/-- An argument of several cells. -/
theorem ent_agg {t : TypeId} {C : Array Value} {x : DataW H} {ps : List MemPlace} {d : Nat} {sh : List Sh} (h : DataW.Trod enc P w 0 spare held t (.agg C) x ps) (hc : shT P d t = some sh) : ∃ vs, isL sh vs ∧ Rep w (G.bare (roW w)) (.agg vs) (.agg C) := by
  obtain ⟨fuel, h⟩ := h
  obtain ⟨vs, h1, h2⟩ := ent fuel d t _ _ _ h hc
  refine ⟨vs, h1, Rep.ofAgg (RepC.mk (by simpa [Value.cells] using h2.1) fun k v hk => ?_)⟩
  obtain ⟨V, q1, q2, q3⟩ := h2.2 k v hk
  exact ⟨V, by simpa [Value.cells] using q1, q2, q3⟩
inductive RepV (w : World) (g : G) : List AV → List Value → Prop where
  | nil : RepV w g [] []
  | cons {a : AV} {v : Value} {l : List AV} {vs : List Value} : Rep w g a v → RepV w g l vs → RepV w g (a :: l) (v :: vs)
theorem RepV.get {w : World} {g : G} {l : List AV} {vs : List Value} (h : RepV w g l vs) : ∃ hl : l.length = vs.length, ∀ k (hk : k < l.length), Rep w g l[k] (vs[k]'(by omega)) := by
  induction h with
  | nil => exact ⟨rfl, fun k hk => by simp at hk⟩
  | cons hv _ ih =>
    obtain ⟨hl, ih⟩ := ih
    refine ⟨by simp [hl], fun k hk => ?_⟩
    cases k with
    | zero => exact hv
    | succ k => exact ih k (by simpa using hk)
theorem RepV.toA {w : World} {g : G} {l : List AV} {vs : List Value} (h : RepV w g l vs) : RepA w g l vs.toArray := by
  obtain ⟨hl, h⟩ := h.get
  exact ⟨by simpa using hl, fun k hk => by simpa using h k hk⟩
end
end Go.Proofs
