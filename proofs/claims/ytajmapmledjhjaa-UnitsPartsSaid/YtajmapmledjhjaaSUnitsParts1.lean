/- What the functions that the statement reaches do: their contracts; and what follows of it. -/
import Derived.Test.YtajmapmledjhjaaCUnitsParts
import Derived.Test.YtajmapmledjhjaaK4
/- What the functions of the statements about codes do. -/
namespace Go.Proofs
open Go Go.RowKit Go.Am

def w64 (n : Nat) : List AV := [.int .u64 n]
@[simp] def encW (l : List Nat) : AV := .sl .no (l.map w64)
@[simp] theorem wk_w64 : List.map wk ∘ w64 = w64 := by funext n; simp [w64]

@[simp] theorem wk_w64' (n : Nat) : List.map wk (w64 n) = w64 n := by simp [w64]

theorem pure_w64 (l : List Nat) : PureV (encW l) := .sl (fun i h => by cases h) fun e he v hv => by
  obtain ⟨n, _, rfl⟩ := List.mem_map.1 he
  simp -implicitDefEqProofs only [w64, List.mem_singleton] at hv
  subst hv
  exact .int _ _

theorem pures_nil : ∀ v ∈ ([] : List AV), PureV v := fun v h => by cases h
theorem pures_cons {v : AV} {l : List AV} (h : PureV v) (hl : ∀ v ∈ l, PureV v) : ∀ u ∈ v :: l, PureV u := fun u hu => by
  rcases List.mem_cons.1 hu with rfl | hu
  · exact h
  · exact hl u hu

theorem words_ok (a b : List Nat) (ha : a.length ≤ 9223372036854775807) (hb : b.length ≤ 9223372036854775807) : PCall Try.prog 18 [encW a, encW b] (.bool (decide (a = b))) := by
  refine PCall.run hb18 ok18 (by simp) (pures_cons (pure_w64 a) (pures_cons (pure_w64 b) pures_nil)) (.bool _) ?_
  simp -implicitDefEqProofs
  by_cases hl : a.length = b.length
  · simp -implicitDefEqProofs [hl]
    refine run_loop (fun n s h => ∃ j, n = a.length - j ∧ j ≤ a.length ∧ s 0 = encW a ∧ s 1 = encW b ∧ s 5 = .int .i64 j ∧ ∀ i, i < j → a[i]? = b[i]?) ?_ a.length ?_
    · rintro n s h ⟨j, hn, hj, h0, h1, h5, hall⟩ ih
      simp -implicitDefEqProofs [h0, h1, h5]
      by_cases hlt : j < a.length
      · simp -implicitDefEqProofs [hlt]
        refine run_dreg c18_d6 ?_
        have hjb : j < b.length := by omega
        simp -implicitDefEqProofs [h0, h1, h5, idxOf_nat hlt, idxOf_nat hjb, hlt, hjb, w64]
        by_cases hab : a[j] = b[j]
        · simp -implicitDefEqProofs [hab, h5, wrap_i64 (x := (j : Int) + 1) (by omega) (by omega)]
          refine ih (a.length - (j + 1)) _ _ (by omega) ⟨j + 1, rfl, by omega, by simp [h0], by simp [h1], by simp, fun i hi => ?_⟩
          by_cases hij : i = j
          · subst hij; simp [hlt, hjb, hab]
          · exact hall i (by omega)
        · have : a ≠ b := fun h => hab (by subst h; rfl)
          simp -implicitDefEqProofs [hab, this]
      · simp -implicitDefEqProofs [hlt]
        have : a = b := by
          apply List.ext_getElem? 
          intro i
          by_cases hi : i < j
          · exact hall i hi
          · rw [List.getElem?_eq_none (by omega), List.getElem?_eq_none (by omega)]
        simp -implicitDefEqProofs [this]
    · exact ⟨0, by simp⟩
  · have hne : a ≠ b := fun h => hl (h ▸ rfl)
    simp -implicitDefEqProofs [hl, hne]
end Go.Proofs

/- What the writer of codes does. -/
namespace Go.Proofs
open Go Go.RowKit Go.Am

structure WB (h : H) (b : Nat) (t : Tok) (ws : List Nat) : Prop where
  lt : b < h.bn
  bx : h.bx b = some [.sl t (ws.map w64)]
  live : TLive h t ws.length

structure WTo (h : H) (b : Nat) (t : Tok) (ws : List Nat) (h' : H) (t' : Tok) : Prop where
  wb : WB h' b t' ws
  next : TNext h t t'
  keep : HF h h' (· = b) (TOwn t)

def WAdd (f : FuncId) (args : List AV) (h : H) (b : Nat) (t : Tok) (ws : List Nat) : Prop := CallP Try.prog f args h fun _ h' => ∃ t', WTo h b t ws h' t'

theorem w64_len (us : List Nat) : ∀ e ∈ us.map w64, e.length = 1 := fun e he => by
  obtain ⟨n, _, rfl⟩ := List.mem_map.1 he
  rfl

theorem src_w64 (h : H) (us : List Nat) (t : Tok) : srcA h 1 (.sl t (us.map w64)) = some (us.map w64) := by
  simp only [srcA]
  rw [if_pos (w64_len us)]

theorem appQ_w {h : H} {t t2 : Tok} {es es2 : List (List AV)} (ws us : List Nat) {K : AV → H → Prop} (e1 : es = ws.map w64) (e2 : es2 = us.map w64) (ht : TLive h t ws.length) (hl : ws.length + us.length ≤ 1000000)
    (hk : ∀ t' h', TLive h' t' (ws ++ us).length → TNext h t t' → HF h h' (fun _ => False) (TOwn t) → h'.bn = h.bn → K (.sl t' ((ws ++ us).map w64)) h') : appQ h 1 8 (.sl t es) (.sl t2 es2) K := by
  subst e1 e2
  refine appQ_tok (es2 := us.map w64) (by simpa using ht) (w64_len ws) (src_w64 h us _) (by simp only [List.length_map]; omega) fun t' h' q1 q2 q3 q4 => ?_
  rw [← List.map_append]
  exact hk t' h' (by simpa using q1) q2 q3 q4

theorem put_ok {h : H} {b : Nat} {t : Tok} {ws us : List Nat} (hw : WB h b t ws) (hl : ws.length + us.length ≤ 1000000) : WAdd 101 [.ptr b 0, encW us] h b t (ws ++ us) := by
  refine CallP.run hb101 ok101 (by simp) ?_
  simp -implicitDefEqProofs [hw.bx, hw.lt]
  refine appQ_tok (es2 := us.map w64) (by simpa using hw.live) (w64_len ws) (src_w64 h us _) (by simp only [List.length_map]; omega) fun t' h' q1 q2 q3 q4 => ?_
  have hb' : h'.bx b = some [.sl t (ws.map w64)] := (q3.bx b hw.lt (fun h => h)).trans hw.bx
  simp -implicitDefEqProofs [hb', q4, hw.lt]
  exact ⟨t', ⟨by simp [q4, hw.lt], by simp, by simpa using q1⟩, q2, (q3.mono (fun _ _ h => h.elim) (fun _ _ h => h)).trans (HF.set _ rfl)⟩

theorem pures1 {v : AV} (h : PureV v) : ∀ u ∈ [v], PureV u := pures_cons h pures_nil

/-- A number with a sign, as a word. -/
def signed (x : Int) : Nat := if 0 ≤ x then (2 * x).toNat else (2 * (-(x + 1)) + 1).toNat

theorem refSigned_ok (x : Int) (h1 : -9223372036854775808 ≤ x) (h2 : x ≤ 9223372036854775807) : PCall Try.prog 59 [.int .i64 x] (.int .u64 (signed x)) := by
  refine PCall.run hb59 ok59 (by simp) (pures1 (.int _ _)) (.int _ _) ?_
  simp -implicitDefEqProofs
  by_cases hx : 0 ≤ x
  · simp -implicitDefEqProofs [hx, signed, wrap_u64 (x := x) (by omega) (by omega), wrap_u64 (x := 2 * x) (by omega) (by omega)]
    omega
  · simp -implicitDefEqProofs [hx, signed, wrap_i64 (x := x + 1) (by omega) (by omega), wrap_i64 (x := -(x + 1)) (by omega) (by omega), wrap_u64 (x := -(x + 1)) (by omega) (by omega), wrap_u64 (x := 2 * -(x + 1)) (by omega) (by omega)]
    rw [wrap_u64 (by omega) (by omega)]
    omega

theorem callW {f : FuncId} {first caps args as' : List AV} {h : H} {b : Nat} {t : Tok} {ws : List Nat} {K : AV → H → Prop} (hc : WAdd f as' h b t ws) (ha : (first ++ args ++ caps).map wk = as') (hk : ∀ r h' t', WTo h b t ws h' t' → K r h') : callQ Try.prog (.fn f first caps) args h K := callQ_c hc ha fun r h1 ⟨t', q⟩ => hk r h1 t' q

theorem count_ok {h : H} {b : Nat} {t : Tok} {ws : List Nat} (hw : WB h b t ws) (n : Int) (hn : n ≤ 9223372036854775807) (hl : ws.length + 1 ≤ 1000000) : WAdd 56 [.ptr b 0, .int .i64 n] h b t (ws ++ [n.toNat]) := by
  refine CallP.run hb56 ok56 (by simp) ?_
  have e : IntKind.u64.wrap (if n < 0 then 0 else n) = (n.toNat : Int) := by
    by_cases h0 : n < 0
    · rw [if_pos h0, wrap_u64 (by omega) (by omega)]; omega
    · rw [if_neg h0, wrap_u64 (by omega) (by omega)]; omega
  simp -implicitDefEqProofs [e]
  refine callW (put_ok hw (us := [n.toNat]) (by simpa using hl)) (by simp [w64]) fun r h' t' q => ?_
  try simp -implicitDefEqProofs
  exact ⟨t', q⟩

theorem xor_ones (a : Nat) (h : a < 18446744073709551616) : a ^^^ 18446744073709551615 = 18446744073709551615 - a := by
  have e : (BitVec.ofNat 64 a ^^^ BitVec.allOnes 64).toNat = 18446744073709551615 - a := by
    rw [BitVec.xor_allOnes, BitVec.toNat_not, BitVec.toNat_ofNat]
    omega
  rw [← e, BitVec.toNat_xor, BitVec.toNat_ofNat, BitVec.toNat_allOnes, Nat.mod_eq_of_lt h]

theorem signed_bits (x : Int) (h1 : -9223372036854775808 ≤ x) (h2 : x ≤ 9223372036854775807) : IntKind.u64.wrap
      ((((IntKind.u64.wrap (IntKind.i64.wrap (x * 2 ^ shAmt IntKind.i64 1)) % 2 ^ IntKind.u64.bits).toNat ^^^
          (IntKind.u64.wrap (x.fdiv (2 ^ shAmt IntKind.i64 63)) % 2 ^ IntKind.u64.bits).toNat) : Nat) : Int) = (signed x : Int) := by
  have e1 : (2 : Int) ^ shAmt IntKind.i64 1 = 2 := rfl
  have e2 : (2 : Int) ^ shAmt IntKind.i64 63 = 9223372036854775808 := rfl
  have e3 : (2 : Int) ^ IntKind.u64.bits = 18446744073709551616 := rfl
  have wu : ∀ y : Int, IntKind.u64.wrap y = y % 18446744073709551616 := fun y => by simp [IntKind.wrap, IntKind.bits, IntKind.signed]
  have wi : ∀ y : Int, IntKind.i64.wrap y = (if 9223372036854775808 ≤ y % 18446744073709551616 then y % 18446744073709551616 - 18446744073709551616 else y % 18446744073709551616) := fun y => by simp [IntKind.wrap, IntKind.bits, IntKind.signed]
  rw [e1, e2, e3]
  have e4 : IntKind.u64.wrap (IntKind.i64.wrap (x * 2)) % 18446744073709551616 = (x * 2) % 18446744073709551616 := by
    rw [wu, wi]; split <;> omega
  rw [e4]
  by_cases hx : 0 ≤ x
  · have e5 : x.fdiv 9223372036854775808 = 0 := by rw [Int.fdiv_eq_ediv_of_nonneg _ (by omega)]; omega
    rw [e5, wu, wu]
    simp only [signed, if_pos hx]
    simp
    omega
  · have e5 : x.fdiv 9223372036854775808 = -1 := by rw [Int.fdiv_eq_ediv_of_nonneg _ (by omega)]; omega
    rw [e5, wu, wu]
    have e6 : ((-1 : Int) % 18446744073709551616 % 18446744073709551616).toNat = 18446744073709551615 := by decide
    rw [e6, xor_ones _ (by omega)]
    simp only [signed, if_neg hx]
    omega

theorem wsigned_ok {h : H} {b : Nat} {t : Tok} {ws : List Nat} (hw : WB h b t ws) (x : Int) (h1 : -9223372036854775808 ≤ x) (h2 : x ≤ 9223372036854775807) (hl : ws.length + 1 ≤ 1000000) : WAdd 54 [.ptr b 0, .int .i64 x] h b t (ws ++ [signed x]) := by
  refine CallP.run hb54 ok54 (by simp) ?_
  simp -implicitDefEqProofs
  refine callW (put_ok hw (us := [signed x]) (by simpa using hl)) ?_ fun r h' t' q => ?_
  · simp -implicitDefEqProofs [w64]
    exact signed_bits x h1 h2
  try simp -implicitDefEqProofs
  exact ⟨t', q⟩

theorem wflag_ok {h : H} {b : Nat} {t : Tok} {ws : List Nat} (hw : WB h b t ws) (x : Bool) (hl : ws.length + 1 ≤ 1000000) : WAdd 57 [.ptr b 0, .bool x] h b t (ws ++ [if x then 1 else 0]) := by
  refine CallP.run hb57 ok57 (by simp) ?_
  cases x
  · simp -implicitDefEqProofs
    refine callW (put_ok hw (us := [0]) (by simpa using hl)) (by simp [w64]) fun r h' t' q => ?_
    try simp -implicitDefEqProofs
    exact ⟨t', q⟩
  · simp -implicitDefEqProofs
    refine callW (put_ok hw (us := [1]) (by simpa using hl)) (by simp [w64]) fun r h' t' q => ?_
    try simp -implicitDefEqProofs
    exact ⟨t', q⟩

theorem TOwn.next {h h1 : H} {t t1 : Tok} {B T : Nat → Prop} (a : TNext h t t1) : ∀ i, i < h.tn → TOwn t1 i → TOwn t i := fun i hi ho => by
  rcases a with rfl | ⟨j, rfl, hj⟩
  · exact ho
  · cases ho; omega
theorem WTo.trans {h h1 h2 : H} {b : Nat} {t t1 t2 : Tok} {ws ws' : List Nat} (a : WTo h b t ws h1 t1) (c : WTo h1 b t1 ws' h2 t2) : WTo h b t ws' h2 t2 :=
  ⟨c.wb, a.next.trans a.keep c.next, a.keep.trans' c.keep (fun _ _ h => h) (TOwn.next (B := fun _ => False) (T := fun _ => False) (h1 := h1) a.next)⟩

theorem wwords_ok {h : H} {b : Nat} {t : Tok} {ws : List Nat} (hw : WB h b t ws) (us : List Nat) (hl : ws.length + us.length + 1 ≤ 1000000) : WAdd 58 [.ptr b 0, encW us] h b t (ws ++ us.length :: us) := by
  refine CallP.run hb58 ok58 (by simp) ?_
  simp -implicitDefEqProofs
  refine callW (count_ok hw (us.length : Int) (by omega) (by omega)) (by simp) fun r h' t' q => ?_
  try simp -implicitDefEqProofs
  refine callW (put_ok q.wb (us := us) (by simp; omega)) (by simp) fun r h'' t'' q' => ?_
  try simp -implicitDefEqProofs
  exact ⟨t'', by simpa using q.trans q'⟩
end Go.Proofs

/- A text's bytes as words: both ways of packing, and the writer of texts. -/
namespace Go.Proofs
open Go Go.RowKit Go.Am

/-- The byte at a place, or none: 0. -/
def byteAt (s : ByteArray) (i : Nat) : Nat := match s.data[i]? with | some c => c.toNat | none => 0
theorem byteAt_lt (s : ByteArray) (i : Nat) : byteAt s i < 256 := by
  unfold byteAt
  split
  · rename_i c _; exact c.toNat_lt
  · omega

theorem idx_byte {s : ByteArray} {j : Nat} (h : j < s.size) : Option.map (fun c : UInt8 => AV.int .u8 c.toNat) s.data[j]? = some (.int .u8 (byteAt s j)) := by
  have h' : j < s.data.size := h
  unfold byteAt
  rw [Array.getElem?_eq_getElem h']
  rfl
theorem data_byte {s : ByteArray} {j : Nat} {h : j < s.data.size} : (s.data[j]'h).toNat = byteAt s j := by
  unfold byteAt
  rw [Array.getElem?_eq_getElem h]
theorem byteAt_out {s : ByteArray} {j : Nat} (h : ¬ j < s.size) : byteAt s j = 0 := by
  have h' : s.data.size ≤ j := Nat.le_of_not_lt h
  unfold byteAt
  rw [Array.getElem?_eq_none h']

/-- k bytes from a place on, as a number, the first the least. -/
def num (s : ByteArray) (at' : Nat) : Nat → Nat
  | 0 => 0
  | k + 1 => byteAt s at' + 256 * num s (at' + 1) k

def packed (s : ByteArray) : List Nat := (List.range ((s.size + 7) / 8)).map fun i => num s (8 * i) 8

theorem num_lt (s : ByteArray) : ∀ (k a : Nat), num s a k < 256 ^ k
  | 0, a => by simp [num]
  | k + 1, a => by
    have h1 := num_lt s k (a + 1)
    have h2 := byteAt_lt s a
    simp only [num, Nat.pow_succ]
    omega
theorem num8_lt (s : ByteArray) (a : Nat) : num s a 8 < 18446744073709551616 := num_lt s 8 a

theorem refPacked_ok (s : ByteArray) (hs : s.size ≤ 1000) : PCall Try.prog 60 [.str s] (encW (packed s)) := by
  refine PCall.run hb60 ok60 (by simp) (pures1 (.str _)) (pure_w64 _) ?_
  simp -implicitDefEqProofs
  refine run_loop (fun n s1 h => ∃ i t, n = (s.size + 7) / 8 - i ∧ i ≤ (s.size + 7) / 8 ∧ s1 0 = .str s ∧ s1 3 = .sl t (((List.range i).map fun i => num s (8 * i) 8).map w64) ∧ TLive h t i ∧ s1 4 = .int .i64 ((8 * i : Nat) : Int)) ?_ ((s.size + 7) / 8) ?_
  · rintro n s1 h ⟨i, t, hn, hi, h0, h3, hl, h4⟩ ih
    simp -implicitDefEqProofs [h0, h4]
    by_cases hlt : 8 * i < s.size
    · have hlt' : (8 : Int) * (i : Int) < (s.size : Int) := by omega
      simp -implicitDefEqProofs [hlt']
      refine run_loop (fun n s2 h2 => ∃ k : Nat, n = k ∧ k ≤ 8 ∧ h2 = h ∧ s2 0 = .str s ∧ s2 3 = s1 3 ∧ s2 4 = s1 4 ∧ s2 6 = .int .i64 ((k : Int) - 1) ∧ s2 5 = .int .u64 (num s (8 * i + k) (8 - k) : Int)) ?_ 8 ?_
      · rintro n s2 h2 ⟨k, rfl, hk, rfl, g0, g3, g4, g6, g5⟩ ih2
        rcases n with _ | m
        · simp -implicitDefEqProofs [g6, g3, h3, g5]
          refine appQ_w ((List.range i).map fun i => num s (8 * i) 8) [num s (8 * i) 8] (by simp) (by simp [w64]) (by simpa using hl) (by simp; omega) fun t' h' q1 q2 q3 q4 => ?_
          simp -implicitDefEqProofs [g4, h4, wrap_i64 (x := 8 * (i : Int) + 8) (by omega) (by omega)]
          refine ih ((s.size + 7) / 8 - (i + 1)) _ _ (by omega) ⟨i + 1, t', rfl, by omega, by simp [g0], by simp [List.range_succ], by simpa using q1, by simp; omega⟩
        · have hm : ((m + 1 : Nat) : Int) - 1 = (m : Int) := by omega
          rw [hm] at g6
          have g5' : s2 5 = .int .u64 (num s (8 * i + (m + 1)) (7 - m) : Int) := by rw [g5, show 8 - (m + 1) = 7 - m by omega]
          have hnum : num s (8 * i + m) (8 - m) = byteAt s (8 * i + m) + 256 * num s (8 * i + (m + 1)) (7 - m) := by
            rw [show 8 - m = (7 - m) + 1 by omega]; rfl
          have hb : num s (8 * i + m) (8 - m) < 18446744073709551616 := Nat.lt_of_lt_of_le (num_lt s (8 - m) (8 * i + m)) (Nat.pow_le_pow_right (n := 256) (by omega) (show 8 - m ≤ 8 by omega))
          have hm2 : IntKind.i64.wrap ((m : Int) - 1) = (m : Int) - 1 := wrap_i64 (by omega) (by omega)
          have hw1 : IntKind.u64.wrap ((num s (8 * i + (m + 1)) (7 - m) : Int) * 256) = (num s (8 * i + (m + 1)) (7 - m) : Int) * 256 := wrap_u64 (by omega) (by omega)
          have hw2 : IntKind.i64.wrap (8 * (i : Int) + (m : Int)) = ((8 * i + m : Nat) : Int) := by rw [wrap_i64 (by omega) (by omega)]; omega
          have h4' : s1 4 = .int .i64 (8 * (i : Int)) := by rw [h4]; simp
          have fin : ∀ s3 : Slots, s3 0 = .str s → s3 3 = s1 3 → s3 4 = s1 4 → s3 6 = .int .i64 ((m : Int) - 1) → s3 5 = .int .u64 (num s (8 * i + m) (8 - m) : Int) → Run Try.prog false [It.lp c60_l12, It.blk 2, It.c (IR.reg c60_r13), It.blk 1, It.c (IR.reg c60_r14), It.lp c60_l15, It.blk 0, It.c ((IR.reg c60_r16).seq IR.ret)]
              (retQ [ResA.t 2] fun r' x => wk r' = AV.sl Tok.no (List.map w64 (packed s))) s3 h2 :=
            fun s3 a0 a3 a4 a6 a5 => ih2 m s3 h2 (by omega) ⟨m, rfl, by omega, rfl, a0, a3, a4, a6, a5⟩
          by_cases hin : 8 * i + m < s.size
          · have hbt := byteAt_lt s (8 * i + m)
            have hw3 : IntKind.u64.wrap (byteAt s (8 * i + m) : Int) = (byteAt s (8 * i + m) : Int) := wrap_u64 (by omega) (by omega)
            have hw4 : IntKind.u64.wrap ((num s (8 * i + (m + 1)) (7 - m) : Int) * 256 + (byteAt s (8 * i + m) : Int)) = (num s (8 * i + (m + 1)) (7 - m) : Int) * 256 + (byteAt s (8 * i + m) : Int) := wrap_u64 (by omega) (by omega)
            have hi1 : idxOf (.int .i64 ((8 * i + m : Nat) : Int)) s.size = some (8 * i + m) := idxOf_nat hin
            simp -implicitDefEqProofs [g6, g5', hw1, g4, h4', g0, hw2, -Int.natCast_add, -idxOf, hin, hi1, data_byte, hw3, hw4, hm2]
            refine fin _ (by simp [g0]) (by simp [g3]) (by simp [g4]) (by simp) ?_
            simp [hnum]
            omega
          · have hz := byteAt_out hin
            simp -implicitDefEqProofs [g6, g5', hw1, g4, h4', g0, hw2, -Int.natCast_add, hin, hm2]
            refine fin _ (by simp [g0]) (by simp [g3]) (by simp [g4]) (by simp) ?_
            simp [hnum, hz]
            omega
      · exact ⟨8, rfl, by omega, rfl, by simp [h0], by simp, by simp, by simp, by simp [num]⟩
    · have hlt' : ¬ (8 : Int) * (i : Int) < (s.size : Int) := by omega
      simp -implicitDefEqProofs [hlt']
      have : i = (s.size + 7) / 8 := by omega
      simp -implicitDefEqProofs [h3, packed, this]
  · exact ⟨0, .full, by simp, by omega, by simp, by simp, trivial, by simp⟩
end Go.Proofs

/- The program's packing of texts. -/
namespace Go.Proofs
open Go Go.RowKit Go.Am

theorem num_snoc (s : ByteArray) : ∀ (k a : Nat), num s a (k + 1) = num s a k + 256 ^ k * byteAt s (a + k)
  | 0, a => by simp [num]
  | k + 1, a => by
    rw [show num s a (k + 1 + 1) = byteAt s a + 256 * num s (a + 1) (k + 1) from rfl, num_snoc s k (a + 1), show num s a (k + 1) = byteAt s a + 256 * num s (a + 1) k from rfl, Nat.pow_succ, show a + 1 + k = a + (k + 1) by omega]
    rw [Nat.mul_add, Nat.add_assoc]
    congr 2
    rw [Nat.mul_comm (256 ^ k) 256, Nat.mul_assoc]

theorem num_cut (s : ByteArray) : ∀ (k a : Nat), num s a k = num s a (min k (s.size - a))
  | 0, a => by simp
  | k + 1, a => by
    by_cases h : a < s.size
    · rw [show min (k + 1) (s.size - a) = min k (s.size - (a + 1)) + 1 by omega]
      simp only [num]
      rw [num_cut s k (a + 1)]
    · rw [show min (k + 1) (s.size - a) = 0 by omega]
      simp only [num]
      rw [byteAt_out h, num_cut s k (a + 1), show min k (s.size - (a + 1)) = 0 by omega]
      simp [num]

def cellsP (s : ByteArray) (n i : Nat) : List AV := (List.range n).map fun j => .int .u64 (num s (8 * j) (min 8 (i - 8 * j)))

theorem or_low (a b r : Nat) (h : a < 256 ^ r) : a ||| b * 2 ^ (8 * r) = a + 256 ^ r * b := by
  have e : 2 ^ (8 * r) = 256 ^ r := by rw [Nat.pow_mul]
  rw [Nat.mul_comm, Nat.or_comm, ← Nat.two_pow_add_eq_or_of_lt (by rw [e]; exact h), e]
  omega

theorem cellsP_set (s : ByteArray) (n i : Nat) (h : i < 8 * n) : (cellsP s n i).take (i / 8) ++ [AV.int .u64 ((num s (8 * (i / 8)) (i % 8) ||| byteAt s i * 2 ^ (8 * (i % 8)) : Nat) : Int)] ++ (cellsP s n i).drop (i / 8 + 1) = cellsP s n (i + 1) := by
  have e : (cellsP s n i).take (i / 8) ++ [AV.int .u64 ((num s (8 * (i / 8)) (i % 8) ||| byteAt s i * 2 ^ (8 * (i % 8)) : Nat) : Int)] ++ (cellsP s n i).drop (i / 8 + 1) = (cellsP s n i).set (i / 8) (AV.int .u64 ((num s (8 * (i / 8)) (i % 8) ||| byteAt s i * 2 ^ (8 * (i % 8)) : Nat) : Int)) := by
    rw [List.set_eq_take_append_cons_drop, if_pos (by simp [cellsP]; omega)]
    simp
  rw [e]
  apply List.ext_getElem
  · simp [cellsP]
  · intro j h1 h2
    rw [List.getElem_set]
    simp only [cellsP, List.getElem_map, List.getElem_range]
    split
    · rename_i hj
      subst hj
      rw [or_low _ _ _ (num_lt s _ _), show min 8 (i + 1 - 8 * (i / 8)) = i % 8 + 1 by omega, num_snoc, show 8 * (i / 8) + i % 8 = i by omega]
    · rename_i hj
      congr 2
      have : min 8 (i - 8 * j) = min 8 (i + 1 - 8 * j) := by omega
      rw [this]

theorem packed_cells (s : ByteArray) : chunks 1 ((s.size + 7) / 8) (cellsP s ((s.size + 7) / 8) s.size) = (packed s).map w64 := by
  have key : ∀ (l : List AV) (n : Nat), l.length = n → chunks 1 n l = l.map fun v => [v] := by
    intro l
    induction l with
    | nil => intro n h; subst h; rfl
    | cons v l ih => intro n h; subst h; simp [chunks, ih l.length rfl]
  rw [key _ _ (by simp [cellsP])]
  simp only [cellsP, packed, List.map_map]
  apply List.map_congr_left
  intro j _
  simp only [Function.comp, w64]
  rw [num_cut s 8 (8 * j)]
end Go.Proofs

/- The program's packing of texts: the run. -/
namespace Go.Proofs
open Go Go.RowKit Go.Am

theorem or_u64 {A B : Nat} (hA : A < 18446744073709551616) (hB : B < 18446744073709551616) : IntKind.u64.wrap ((((A : Int) % 2 ^ IntKind.u64.bits).toNat ||| ((B : Int) % 2 ^ IntKind.u64.bits).toNat : Nat) : Int) = ((A ||| B : Nat) : Int) := by
  have e3 : (2 : Int) ^ IntKind.u64.bits = 18446744073709551616 := rfl
  rw [e3, show ((A : Int) % 18446744073709551616).toNat = A by omega, show ((B : Int) % 18446744073709551616).toNat = B by omega]
  have := Nat.or_lt_two_pow (n := 64) hA hB
  exact wrap_u64 (by omega) (by omega)

theorem packed_ok (s : ByteArray) (hs : s.size ≤ 1000) : PCall Try.prog 102 [.str s] (encW (packed s)) := by
  refine PCall.run' hb102 ok102 (by simp) (pures1 (.str _)) (pure_w64 _) (by simp) ?_
  have e1 : IntKind.i64.wrap ((s.size : Int) + 8) = (s.size : Int) + 8 := wrap_i64 (by omega) (by omega)
  have e2 : IntKind.i64.wrap ((s.size : Int) + 8 - 1) = (s.size : Int) + 8 - 1 := wrap_i64 (by omega) (by omega)
  have e3 : IntKind.i64.wrap (((s.size : Int) + 8 - 1).tdiv 8) = (((s.size + 7) / 8 : Nat) : Int) := by
    rw [Int.tdiv_eq_ediv_of_nonneg (by omega), wrap_i64 (by omega) (by omega)]
    omega
  simp -implicitDefEqProofs [e1, e2, e3, -Int.natCast_ediv]
  refine ⟨_, _, .mkbox 1 8 [.int .u64 0] (.t 9) (.t 9) .i64 .i64 ((s.size + 7) / 8) (by simp) (by simp) (by omega) (by omega), ?_⟩
  generalize hK : (s.size + 7) / 8 = K
  simp -implicitDefEqProofs
  refine run_loop (fun n s1 h => ∃ i : Nat, n = s.size - i ∧ i ≤ s.size ∧ s1 0 = .str s ∧ s1 3 = .msl 0 1 0 K ∧ s1 12 = .int .i64 s.size ∧ s1 13 = .int .i64 i ∧ 0 < h.bn ∧ h.bx 0 = some (cellsP s K i)) ?_ s.size ?_
  · rintro n s1 h ⟨i, hn, hi, h0, h3, h12, h13, hb, hx⟩ ih
    by_cases hlt : i < s.size
    · have q1 : ((i : Int)).tdiv 8 = ((i / 8 : Nat) : Int) := by rw [Int.tdiv_eq_ediv_of_nonneg (by omega)]; omega
      have q2 : ((i : Int)).tmod 8 = ((i % 8 : Nat) : Int) := by rw [Int.tmod_eq_emod_of_nonneg (by omega)]; omega
      have q3 : IntKind.i64.wrap ((i / 8 : Nat) : Int) = ((i / 8 : Nat) : Int) := wrap_i64 (by omega) (by omega)
      have q4 : IntKind.i64.wrap (8 * ((i % 8 : Nat) : Int)) = ((8 * (i % 8) : Nat) : Int) := by rw [wrap_i64 (by omega) (by omega)]; omega
      have q5 : idxOf (.int .i64 ((i / 8 : Nat) : Int)) K = some (i / 8) := idxOf_nat (by omega)
      have q6 : idxOf (.int .i64 (i : Int)) s.size = some i := idxOf_nat hlt
      have q7 : IntKind.u64.wrap (byteAt s i : Int) = (byteAt s i : Int) := wrap_u64 (by omega) (by have := byteAt_lt s i; omega)
      have q8 : shAmt .u64 ((8 * (i % 8) : Nat) : Int) = 8 * (i % 8) := by simp only [shAmt, IntKind.bits, Int.toNat_natCast]; omega
      simp -implicitDefEqProofs [h13, h12, hlt]
      refine run_dreg c102_d6 ?_
      have hB := byteAt_lt s i
      have hp : 2 ^ (8 * (i % 8)) ≤ 72057594037927936 := Nat.pow_le_pow_right (n := 2) (by omega) (show 8 * (i % 8) ≤ 56 by omega)
      have hBp : byteAt s i * 2 ^ (8 * (i % 8)) < 18446744073709551616 := Nat.lt_of_le_of_lt (Nat.mul_le_mul (Nat.le_of_lt_succ hB) hp) (by omega)
      have hA := num_lt s (i % 8) (8 * (i / 8))
      have hA2 : num s (8 * (i / 8)) (i % 8) < 18446744073709551616 := Nat.lt_of_lt_of_le hA (Nat.pow_le_pow_right (n := 256) (by omega) (show i % 8 ≤ 8 by omega))
      have r1 : i / 8 + 1 ≤ (cellsP s K i).length := by simp [cellsP]; omega
      have r2 : List.take 1 (List.drop (i / 8) (cellsP s K i)) = [.int .u64 (num s (8 * (i / 8)) (i % 8) : Int)] := by
        have : i / 8 < (cellsP s K i).length := r1
        rw [List.drop_eq_getElem_cons this]
        simp [cellsP, show min 8 (i - 8 * (i / 8)) = i % 8 by omega]
      have r4 : IntKind.u64.wrap ((byteAt s i : Int) * 2 ^ (8 * (i % 8))) = ((byteAt s i * 2 ^ (8 * (i % 8)) : Nat) : Int) := by
        rw [show (byteAt s i : Int) * 2 ^ (8 * (i % 8)) = ((byteAt s i * 2 ^ (8 * (i % 8)) : Nat) : Int) by simp]
        exact wrap_u64 (by omega) (by omega)
      have r3 : ¬ ((8 * (i % 8) : Nat) : Int) < 0 := by omega
      have hset := cellsP_set s K i (by omega)
      simp -implicitDefEqProofs [h0, h3, h13, hb, hx, q1, q2, q3, q4, q5, q6, q7, q8, hlt, data_byte, -Int.natCast_ediv, -Int.natCast_emod, -idxOf, -Int.natCast_mul, r1, r2, r3, r4, or_u64 hA2 hBp, wrap_i64 (x := (i : Int) + 1) (by omega) (by omega)]
      refine ih (s.size - (i + 1)) _ _ (by omega) ⟨i + 1, rfl, by omega, by simp [h0], by simp [h3], by simp [h12], by simp, by simpa using hb, ?_⟩
      rw [← hset]
      simp
    · have : i = s.size := by omega
      subst this
      simp -implicitDefEqProofs [h13, h12, h3]
      have := Gh.msl (z := 1) (n := K) hb hx (by omega) (by simp [cellsP])
      rw [← hK, packed_cells] at this
      exact ⟨_, by rw [← hK]; exact this⟩
  · refine ⟨0, by simp, by omega, by simp, by simp [H.nil], by simp, by simp, by simp, ?_⟩
    have : cellsP s K 0 = List.replicate K (.int .u64 0) := by
      rw [List.eq_replicate_iff]
      refine ⟨by simp [cellsP], fun v hv => ?_⟩
      simp only [cellsP, List.mem_map] at hv
      obtain ⟨j, _, rfl⟩ := hv
      simp [num]
    simp [H.nil, this]
end Go.Proofs

/- The writer of texts; copies; what a writer hands back. -/
namespace Go.Proofs
open Go Go.RowKit Go.Am

def cut64 (s : ByteArray) : ByteArray := s.extract 0 (min s.size 64)
theorem cut64_size (s : ByteArray) : (cut64 s).size = min s.size 64 := by simp [cut64]

theorem packed_len (s : ByteArray) : (packed s).length = (s.size + 7) / 8 := by simp [packed]

def textW (s : ByteArray) : List Nat := (cut64 s).size :: packed (cut64 s)

theorem wtext_ok {h : H} {b : Nat} {t : Tok} {ws : List Nat} (hw : WB h b t ws) (s : ByteArray) (hl : ws.length + 20 ≤ 1000000) : WAdd 55 [.ptr b 0, .str s] h b t (ws ++ textW s) := by
  refine CallP.run hb55 ok55 (by simp) ?_
  have hc := cut64_size s
  have e : (if (64 : Int) < (s.size : Int) then (64 : Int) else (s.size : Int)) = ((min s.size 64 : Nat) : Int) := by split <;> omega
  have e2 : bndOf (some (.int .i64 ((min s.size 64 : Nat) : Int))) s.size s.size = some (min s.size 64) := by
    simp only [bndOf]
    rw [if_pos (by omega)]
    simp
  have e3 : bndOf none (min s.size 64) 0 = some 0 := rfl
  simp -implicitDefEqProofs [e, e2, e3, -bndOf]
  have hps : s.extract 0 (min s.size 64) = cut64 s := rfl
  refine callW (count_ok hw ((min s.size 64 : Nat) : Int) (by omega) (by omega)) (by simp) fun r h1 t1 q => ?_
  try simp -implicitDefEqProofs
  refine callQ_p (packed_ok (cut64 s) (by omega)) (by simp [hps]) ?_
  try simp -implicitDefEqProofs
  have hpl := packed_len (cut64 s)
  refine callW (put_ok q.wb (us := packed (cut64 s)) (by simp; omega)) (by simp) fun r h2 t2 q2 => ?_
  try simp -implicitDefEqProofs
  refine ⟨t2, ?_⟩
  have := q.trans q2
  simpa [textW, hc] using this

theorem clone_ok (us : List Nat) (hl : us.length ≤ 1000000) : PCall Try.prog 61 [encW us] (encW us) := by
  refine clone_gen (n := 1) (b := 8) (z := [.int .u64 0]) hb61 ok61 (us.map w64) (w64_len us) (pure_w64 us) (by simp) (by simp; omega)

theorem done_ok {h : H} {b : Nat} {t : Tok} {ws : List Nat} (hw : WB h b t ws) (hl : ws.length ≤ 1000000) : SCall Try.prog 19 [.ptr b 0] h (encW ws) h := by
  refine CallP.sure (CallP.run hb19 ok19 (by simp) ?_)
  simp -implicitDefEqProofs [hw.bx, hw.lt]
  refine callQ_p (clone_ok ws hl) (by simp) ?_
  try simp -implicitDefEqProofs
end Go.Proofs

/- Items: what is written of them, by the program and by the document. -/
namespace Go.Proofs
open Go Go.RowKit Go.Am

structure Item where
  kind : Int
  n : Int
  most : Int
  x : Int
  s : ByteArray
  l : List Nat

def inI (x : Int) : Prop := -9223372036854775808 ≤ x ∧ x ≤ 9223372036854775807
def Item.ok (x : Item) : Prop := inI x.n ∧ inI x.x ∧ x.s.size ≤ 1000 ∧ x.l.length ≤ 1000
def encI (x : Item) : List AV := [.int .i64 x.kind, .int .i64 x.n, .int .i64 x.most, .int .i64 x.x, .str x.s, encW x.l]

def writeW (x : Item) : List Nat :=
  if x.kind = 0 then [x.n.toNat] else if x.kind = 1 then [signed x.x] else if x.kind = 2 then [if x.n = 1 then 1 else 0] else if x.kind = 3 then textW x.s else x.l.length :: x.l

theorem WB.alloc {h : H} {b : Nat} {t : Tok} {ws : List Nat} (hw : WB h b t ws) (cs : List AV) : WB (h.alloc cs) b t ws :=
  ⟨by have := hw.lt; simp; omega, by have := hw.lt; have h2 : b ≠ h.bn := by omega
                                     simp [h2, hw.bx], by simpa using hw.live⟩
theorem WTo.alloc {h : H} {b : Nat} {t : Tok} {ws : List Nat} {h' : H} {t' : Tok} {cs : List AV} (q : WTo (h.alloc cs) b t ws h' t') : WTo h b t ws h' t' :=
  ⟨q.wb, q.next, (HF.alloc h cs _ _).trans q.keep⟩

theorem write_ok {h : H} {b : Nat} {t : Tok} {ws : List Nat} (hw : WB h b t ws) (x : Item) (hx : x.ok) (hl : ws.length ≤ 900000) : WAdd 16 [.ptr b 0, .agg (encI x)] h b t (ws ++ writeW x) := by
  refine CallP.run hb16 ok16 (by simp) ?_
  obtain ⟨⟨n1, n2⟩, ⟨x1, x2⟩, s1, l1⟩ := hx
  simp -implicitDefEqProofs [encI]
  by_cases k0 : x.kind = 0
  · simp -implicitDefEqProofs [k0]
    refine callW (count_ok (hw.alloc _) x.n n2 (by omega)) (by simp) fun r h' t' q => ?_
    try simp -implicitDefEqProofs
    exact ⟨t', by simpa [writeW, k0] using q.alloc⟩
  by_cases k1 : x.kind = 1
  · simp -implicitDefEqProofs [k1]
    refine callW (wsigned_ok (hw.alloc _) x.x x1 x2 (by omega)) (by simp) fun r h' t' q => ?_
    try simp -implicitDefEqProofs
    exact ⟨t', by simpa [writeW, k1] using q.alloc⟩
  by_cases k2 : x.kind = 2
  · simp -implicitDefEqProofs [k2]
    refine callW (wflag_ok (hw.alloc _) (decide (x.n = 1)) (by omega)) (by simp) fun r h' t' q => ?_
    try simp -implicitDefEqProofs
    exact ⟨t', by simpa [writeW, k2] using q.alloc⟩
  by_cases k3 : x.kind = 3
  · simp -implicitDefEqProofs [k3]
    refine callW (wtext_ok (hw.alloc _) x.s (by omega)) (by simp) fun r h' t' q => ?_
    try simp -implicitDefEqProofs
    exact ⟨t', by simpa [writeW, k3] using q.alloc⟩
  · simp -implicitDefEqProofs [k0, k1, k2, k3]
    refine callW (wwords_ok (hw.alloc _) x.l (by omega)) (by simp) fun r h' t' q => ?_
    try simp -implicitDefEqProofs
    exact ⟨t', by simpa [writeW, k0, k1, k2, k3] using q.alloc⟩

/-- A slice of words that grows. -/
structure STo (h : H) (t : Tok) (ws : List Nat) (r : AV) (h' : H) (t' : Tok) : Prop where
  val : r = .sl t' (ws.map w64)
  live : TLive h' t' ws.length
  next : TNext h t t'
  keep : HF h h' (fun _ => False) (TOwn t)

theorem refWrite_ok {h : H} {t : Tok} {ws : List Nat} (ht : TLive h t ws.length) (x : Item) (hx : x.ok) (hl : ws.length ≤ 900000) : CallP Try.prog 17 [.sl t (ws.map w64), .agg (encI x)] h fun r h' => ∃ t', STo h t (ws ++ writeW x) r h' t' := by
  refine CallP.run hb17 ok17 (by simp) ?_
  obtain ⟨⟨n1, n2⟩, ⟨x1, x2⟩, s1, l1⟩ := hx
  have hta : ∀ cs, TLive (h.alloc cs) t ws.length := fun cs => by simpa using ht
  have fin : ∀ {cs : List AV} {us : List Nat} {t' : Tok} {h' : H}, TLive h' t' (ws ++ us).length → TNext (h.alloc cs) t t' → HF (h.alloc cs) h' (fun _ => False) (TOwn t) → STo h t (ws ++ us) (.sl t' ((ws ++ us).map w64)) h' t' := fun q1 q2 q3 => ⟨rfl, q1, q2, (HF.alloc h _ _ _).trans q3⟩
  simp -implicitDefEqProofs [encI]
  by_cases k0 : x.kind = 0
  · simp -implicitDefEqProofs [k0]
    by_cases hn : x.n < 0
    · simp -implicitDefEqProofs [hn]
      refine appQ_w ws [0] rfl (by simp [w64]) (hta _) (by simp; omega) fun t' h' q1 q2 q3 q4 => ?_
      try simp -implicitDefEqProofs
      exact ⟨t', by simpa [writeW, k0, show x.n.toNat = 0 by omega] using fin q1 q2 q3⟩
    · have hw : IntKind.u64.wrap x.n = x.n := wrap_u64 (by omega) (by omega)
      simp -implicitDefEqProofs [hn, hw]
      refine appQ_w ws [x.n.toNat] rfl (by simp [w64]; omega) (hta _) (by simp; omega) fun t' h' q1 q2 q3 q4 => ?_
      try simp -implicitDefEqProofs
      exact ⟨t', by simpa [writeW, k0] using fin q1 q2 q3⟩
  by_cases k1 : x.kind = 1
  · simp -implicitDefEqProofs [k1]
    refine callQ_p (refSigned_ok x.x x1 x2) (by simp) ?_
    try simp -implicitDefEqProofs
    refine appQ_w ws [signed x.x] rfl (by simp [w64]) (hta _) (by simp; omega) fun t' h' q1 q2 q3 q4 => ?_
    try simp -implicitDefEqProofs
    exact ⟨t', by simpa [writeW, k1] using fin q1 q2 q3⟩
  by_cases k2 : x.kind = 2
  · simp -implicitDefEqProofs [k2]
    by_cases hn : x.n = 1
    · simp -implicitDefEqProofs [hn]
      refine appQ_w ws [1] rfl (by simp [w64]) (hta _) (by simp; omega) fun t' h' q1 q2 q3 q4 => ?_
      try simp -implicitDefEqProofs
      exact ⟨t', by simpa [writeW, k2, hn] using fin q1 q2 q3⟩
    · simp -implicitDefEqProofs [hn]
      refine appQ_w ws [0] rfl (by simp [w64]) (hta _) (by simp; omega) fun t' h' q1 q2 q3 q4 => ?_
      try simp -implicitDefEqProofs
      exact ⟨t', by simpa [writeW, k2, hn] using fin q1 q2 q3⟩
  by_cases k3 : x.kind = 3
  · have hfin3 : ∀ (h1 : H) (s2 : Slots), h1 = h1 → True := fun _ _ _ => trivial
    have hpl := packed_len (cut64 x.s)
    have hc := cut64_size x.s
    simp -implicitDefEqProofs [k3]
    by_cases hn : 64 < x.s.size
    · have e2 : bndOf (some (.int .i64 64)) x.s.size x.s.size = some 64 := by
        simp only [bndOf]
        rw [if_pos (by omega)]
        simp
      have e3 : bndOf none 64 0 = some 0 := rfl
      have e4 : x.s.extract 0 64 = cut64 x.s := by simp only [cut64]; rw [show min x.s.size 64 = 64 by omega]
      have e5 : (cut64 x.s).size = 64 := by omega
      have e6 : IntKind.u64.wrap 64 = 64 := wrap_u64 (by omega) (by omega)
      have hn' : (64 : Int) < (x.s.size : Int) := by omega
      simp -implicitDefEqProofs [hn', e2, e3, e4, e5, e6, -bndOf]
      refine appQ_w ws [64] rfl (by simp [w64]) (hta _) (by simp; omega) fun t' h' q1 q2 q3 q4 => ?_
      try simp -implicitDefEqProofs
      refine callQ_p (refPacked_ok (cut64 x.s) (by omega)) (by simp) ?_
      try simp -implicitDefEqProofs
      refine appQ_w (ws ++ [64]) (packed (cut64 x.s)) (by simp) rfl q1 (by simp; omega) fun t'' h'' r1 r2 r3 r4 => ?_
      try simp -implicitDefEqProofs
      refine ⟨t'', ?_⟩
      have hf := q3.trans' r3 (fun _ _ h => h) (TOwn.next (B := fun _ => False) (T := fun _ => False) (h1 := h') q2)
      have := fin (us := 64 :: packed (cut64 x.s)) (by simpa using r1) (q2.trans q3 r2) hf
      simpa [writeW, k3, textW, e5] using this
    · have e4 : x.s = cut64 x.s := by simp only [cut64]; rw [show min x.s.size 64 = x.s.size by omega, ByteArray.extract_zero_size]
      have e6 : IntKind.u64.wrap (x.s.size : Int) = (x.s.size : Int) := wrap_u64 (by omega) (by omega)
      have hn' : ¬ (64 : Int) < (x.s.size : Int) := by omega
      simp -implicitDefEqProofs [hn', e6]
      refine appQ_w ws [x.s.size] rfl (by simp [w64]) (hta _) (by simp; omega) fun t' h' q1 q2 q3 q4 => ?_
      try simp -implicitDefEqProofs
      refine callQ_p (refPacked_ok x.s (by omega)) (by simp) ?_
      try simp -implicitDefEqProofs
      have hpl' := packed_len x.s
      refine appQ_w (ws ++ [x.s.size]) (packed x.s) (by simp) rfl q1 (by simp; omega) fun t'' h'' r1 r2 r3 r4 => ?_
      try simp -implicitDefEqProofs
      refine ⟨t'', ?_⟩
      have hf := q3.trans' r3 (fun _ _ h => h) (TOwn.next (B := fun _ => False) (T := fun _ => False) (h1 := h') q2)
      have := fin (us := x.s.size :: packed x.s) (by simpa using r1) (q2.trans q3 r2) hf
      simpa [writeW, k3, textW, ← e4] using this
  · simp -implicitDefEqProofs [k0, k1, k2, k3]
    refine run_dreg c17_d18 ?_
    have e6 : IntKind.u64.wrap (x.l.length : Int) = (x.l.length : Int) := wrap_u64 (by omega) (by omega)
    simp -implicitDefEqProofs [e6]
    refine appQ_w ws [x.l.length] rfl (by simp [w64]) (hta _) (by simp; omega) fun t' h' q1 q2 q3 q4 => ?_
    have hbx := q3.bx h.bn (by simp) (fun h => h)
    have hbn : h'.bn = h.bn + 1 := by rw [q4]; rfl
    simp -implicitDefEqProofs at hbx
    simp -implicitDefEqProofs [hbx, hbn]
    refine appQ_w (ws ++ [x.l.length]) x.l (by simp) rfl q1 (by simp; omega) fun t'' h'' r1 r2 r3 r4 => ?_
    have hbx2 := r3.bx h.bn (by omega) (fun h => h)
    rw [hbx] at hbx2
    have hbn2 : h''.bn = h.bn + 1 := by rw [r4, hbn]
    simp -implicitDefEqProofs [hbx, hbn, hbx2, hbn2]
    refine ⟨t'', ?_⟩
    have hf := q3.trans' r3 (fun _ _ h => h) (TOwn.next (B := fun _ => False) (T := fun _ => False) (h1 := h') q2)
    have := fin (us := x.l.length :: x.l) (by simpa using r1) (q2.trans q3 r2) hf
    simpa [writeW, k0, k1, k2, k3] using this
end Go.Proofs

/- What the statements about codes ask first: no more items than are looked at; the document's examples. -/
namespace Go.Proofs
open Go Go.RowKit Go.Am

def encIs (l : List Item) : AV := .sl .no (l.map encI)

def greatI (x : Item) : Bool := decide (100 < x.l.length) || decide (200 < x.s.size) || decide (x.kind < 0) || decide (4 < x.kind)
def great (l : List Item) : Bool := l.any greatI || decide (60 < l.length)

theorem pure_encI (x : Item) : ∀ v ∈ encI x, PureV v := by
  simp only [encI]
  exact pures_cons (.int _ _) (pures_cons (.int _ _) (pures_cons (.int _ _) (pures_cons (.int _ _) (pures_cons (.str _) (pures1 (pure_w64 _))))))
theorem pure_encIs (l : List Item) : PureV (encIs l) := .sl (fun i h => by cases h) fun e he v hv => by
  obtain ⟨x, _, rfl⟩ := List.mem_map.1 he
  exact pure_encI x v hv
@[simp] theorem wk_encI (x : Item) : List.map wk (encI x) = encI x := by simp [encI]
@[simp] theorem wk_encI' : List.map wk ∘ encI = encI := by funext x; simp

theorem great_ok (l : List Item) (hl : l.length ≤ 9223372036854775807) : PCall Try.prog 15 [encIs l] (.bool (great l)) := by
  refine PCall.run hb15 ok15 (by simp) (pures1 (pure_encIs l)) (.bool _) ?_
  simp -implicitDefEqProofs [encIs]
  refine run_loop (fun n s h => ∃ j : Nat, n = l.length - j ∧ j ≤ l.length ∧ s 0 = .sl .no (l.map encI) ∧ s 3 = .int .i64 j ∧ (l.take j).any greatI = false) ?_ l.length ?_
  · rintro n s h ⟨j, hn, hj, h0, h3, hall⟩ ih
    simp -implicitDefEqProofs [h0, h3]
    by_cases hlt : j < l.length
    · have hi := idxOf_nat (k := .i64) hlt
      have hg : greatI l[j] = (decide (100 < l[j].l.length) || decide (200 < l[j].s.size) || decide (l[j].kind < 0) || decide (4 < l[j].kind)) := rfl
      have yes : greatI l[j] = true → great l = true := fun h => by
        simp only [great, Bool.or_eq_true, List.any_eq_true]
        exact .inl ⟨l[j], List.getElem_mem hlt, h⟩
      have no : greatI l[j] = false → (l.take (j + 1)).any greatI = false := fun h => by
        rw [List.take_succ_eq_append_getElem hlt, List.any_append, hall]
        simp [h]
      by_cases c1 : (100 : Int) < (l[j].l.length : Int)
      · have hy := yes (by rw [hg, decide_eq_true (by omega : 100 < l[j].l.length)]; rfl)
        simp -implicitDefEqProofs [hlt, h0, h3, encI, c1, hy]
      by_cases c2 : (200 : Int) < (l[j].s.size : Int)
      · have hy := yes (by rw [hg, decide_eq_true (by omega : 200 < l[j].s.size)]; simp)
        simp -implicitDefEqProofs [hlt, h0, h3, encI, c1, c2, hy]
      by_cases c3 : l[j].kind < 0
      · have hy := yes (by simp [hg, c3])
        simp -implicitDefEqProofs [hlt, h0, h3, encI, c1, c2, c3, hy]
      by_cases c4 : 4 < l[j].kind
      · have hy := yes (by simp [hg, c4])
        simp -implicitDefEqProofs [hlt, h0, h3, encI, c1, c2, c3, c4, hy]
      · have hno := no (by rw [hg, decide_eq_false (by omega : ¬ 100 < l[j].l.length), decide_eq_false (by omega : ¬ 200 < l[j].s.size), decide_eq_false c3, decide_eq_false c4]; rfl)
        simp -implicitDefEqProofs [hlt, h0, h3, encI, c1, c2, c3, c4, wrap_i64 (x := (j : Int) + 1) (by omega) (by omega)]
        exact ih (l.length - (j + 1)) _ _ (by omega) ⟨j + 1, rfl, by omega, by simp [h0], by simp, hno⟩
    · have hj' : j = l.length := by omega
      subst hj'
      rw [List.take_length] at hall
      simp -implicitDefEqProofs [hlt, h0, great, hall]
      omega
  · exact ⟨0, by simp, by omega, by simp, by simp, by simp⟩

theorem WB.new (h : H) : WB (h.alloc [.sl .full []]) h.bn .full [] := ⟨by simp, by simp, trivial⟩

theorem alive_ok : PCall Try.prog 14 [] (.bool true) := by
  refine PCall.run hb14 ok14 (by simp) pures_nil (.bool _) ?_
  simp -implicitDefEqProofs
  refine callW (wsigned_ok (WB.new H.nil) (-1) (by omega) (by omega) (by simp)) (by simp) fun r1 h1 t1 q1 => ?_
  try simp -implicitDefEqProofs
  refine callW (wsigned_ok q1.wb 1 (by omega) (by omega) (by simp)) (by simp) fun r2 h2 t2 q2 => ?_
  try simp -implicitDefEqProofs
  refine callW (wtext_ok q2.wb ⟨#[97, 98]⟩ (by simp)) (by simp) fun r3 h3 t3 q3 => ?_
  try simp -implicitDefEqProofs
  have hw : ([] ++ [signed (-1)] ++ [signed 1] ++ textW ⟨#[97, 98]⟩ : List Nat) = [1, 2, 2, 25185] := by decide
  have hd := done_ok q3.wb (by rw [hw]; decide)
  rw [hw] at hd
  refine callQ_of (args := [.ptr H.nil.bn 0]) hd ?_
  try simp -implicitDefEqProofs
  refine callQ_p (words_ok [1, 2, 2, 25185] [1, 2, 2, 25185] (by decide) (by decide)) (by simp [w64]) ?_
  try simp -implicitDefEqProofs
end Go.Proofs

/- The statement CodesWrite: what its function hands back. -/
namespace Go.Proofs
open Go Go.RowKit Go.Am

theorem textW_len (s : ByteArray) : (textW s).length ≤ 10 := by
  have h1 := packed_len (cut64 s)
  have h2 := cut64_size s
  simp only [textW, List.length_cons]
  omega
theorem writeW_len (x : Item) (h : x.l.length ≤ 100) : (writeW x).length ≤ 102 := by
  have ht := textW_len x.s
  unfold writeW
  split
  · simp
  split
  · simp
  split
  · simp
  split
  · omega
  · simp; omega

theorem not_great {l : List Item} (h : great l = false) : l.length ≤ 60 ∧ ∀ x ∈ l, x.l.length ≤ 100 ∧ x.s.size ≤ 200 := by
  simp only [great, Bool.or_eq_false_iff, decide_eq_false_iff_not, List.any_eq_false] at h
  refine ⟨by omega, fun x hx => ?_⟩
  have := h.1 x hx
  simp only [greatI, Bool.or_eq_true, decide_eq_true_eq, not_or] at this
  omega

def writeAll (l : List Item) : List Nat := l.flatMap writeW
theorem writeAll_len : ∀ (l : List Item), (∀ x ∈ l, x.l.length ≤ 100) → (writeAll l).length ≤ 102 * l.length
  | [], _ => by simp [writeAll]
  | x :: l, h => by
    have h1 := writeW_len x (h x (List.mem_cons_self ..))
    have h2 := writeAll_len l fun y hy => h y (List.mem_cons_of_mem _ hy)
    simp only [writeAll, List.flatMap_cons, List.length_append, List.length_cons] at h2 ⊢
    omega

theorem codesWrite_ok (l : List Item) (hl : l.length ≤ 9223372036854775807) (hi : ∀ x ∈ l, inI x.n ∧ inI x.x) : PCall Try.prog 3 [encIs l] (.bool true) := by
  refine PCall.run hb3 ok3 (by simp) (pures1 (pure_encIs l)) (.bool _) ?_
  simp -implicitDefEqProofs [encIs]
  refine callQ_p alive_ok (by simp) ?_
  simp -implicitDefEqProofs
  refine callQ_p (great_ok l hl) (by simp [encIs]) ?_
  cases hg : great l
  · obtain ⟨g1, g2⟩ := not_great hg
    have hok : ∀ x ∈ l, x.ok := fun x hx => ⟨(hi x hx).1, (hi x hx).2, by have := g2 x hx; omega, by have := g2 x hx; omega⟩
    simp -implicitDefEqProofs
    refine run_loop (fun n s h => ∃ (j : Nat) (t t2 : Tok), n = l.length - j ∧ j ≤ l.length ∧ s 0 = .sl .no (l.map encI) ∧ s 5 = .int .i64 j ∧ s 3 = .ptr 0 0 ∧ s 4 = .sl t2 ((writeAll (l.take j)).map w64) ∧ WB h 0 t (writeAll (l.take j)) ∧ TLive h t2 (writeAll (l.take j)).length ∧ TApart t t2) ?_ l.length ?_
    · rintro n s h ⟨j, t, t2, hn, hj, h0, h5, h3, h4, hw, ht2, hap⟩ ih
      simp -implicitDefEqProofs [h0, h5]
      by_cases hlt : j < l.length
      · have hwl : (writeAll (l.take j)).length ≤ 102 * 60 := by
          have := writeAll_len (l.take j) fun x hx => (g2 x (List.mem_of_mem_take hx)).1
          simp only [List.length_take] at this
          omega
        have hx := hok l[j] (List.getElem_mem hlt)
        have e6 : (encI l[j]).length = 6 := rfl
        have e7 : List.take 6 (encI l[j]) = encI l[j] := rfl
        simp -implicitDefEqProofs [hlt, h0, h5, h3, h4, idxOf_nat hlt, e6, e7]
        refine callW (write_ok hw l[j] hx (by omega)) (by simp) fun r h1 t1 q => ?_
        simp -implicitDefEqProofs [hlt, h0, h5, h3, h4, idxOf_nat hlt, e6, e7]
        have ht2' : TLive h1 t2 (writeAll (l.take j)).length := ht2.keep q.keep fun i e1 e2 => hap i e2 e1
        refine callQ_ex (refWrite_ok ht2' l[j] hx (by omega)) fun r2 h2 ⟨t3, q2⟩ => ?_
        obtain ⟨rfl, p2, p3, p4⟩ := q2
        simp -implicitDefEqProofs [h5, wrap_i64 (x := (j : Int) + 1) (by omega) (by omega)]
        have hsnoc : writeAll (l.take (j + 1)) = writeAll (l.take j) ++ writeW l[j] := by
          unfold writeAll
          rw [List.take_succ_eq_append_getElem hlt, List.flatMap_append, List.flatMap_singleton]
        have hap1 : TApart t1 t2 := (TApart.next ht2 hap.symm q.next).symm
        refine ih (l.length - (j + 1)) _ _ (by omega) ⟨j + 1, t1, t3, rfl, by omega, by simp [h0], by simp, by simp [h3], by simp [hsnoc], ?_, by rw [hsnoc]; exact p2, (TApart.next q.wb.live hap1 p3)⟩
        rw [hsnoc]
        exact ⟨Nat.lt_of_lt_of_le q.wb.lt p4.bn, (p4.bx 0 q.wb.lt fun h => h).trans q.wb.bx, q.wb.live.keep p4 fun i e1 e2 => hap1 i e1 e2⟩
      · have hj' : j = l.length := by omega
        subst hj'
        rw [List.take_length] at hw h4 ht2
        have hwl : (writeAll l).length ≤ 102 * 60 := by
          have := writeAll_len l fun x hx => (g2 x hx).1
          omega
        simp -implicitDefEqProofs [hlt, h3]
        refine callQ_of (args := [.ptr 0 0]) (done_ok hw (by omega)) ?_
        simp -implicitDefEqProofs [h4]
        refine callQ_p (words_ok (writeAll l) (writeAll l) (by omega) (by omega)) (by simp) ?_
        try simp -implicitDefEqProofs
    · refine ⟨0, .full, .full, by simp, by omega, by simp, by simp, by simp [H.nil], by simp [writeAll], ?_, ?_, ?_⟩
      · exact WB.new H.nil
      · trivial
      · intro i h; cases h
  · simp -implicitDefEqProofs
end Go.Proofs

/- PRINTED BY types.py, a program of this work: the program's types as Lean structures; their cells. -/
namespace Go.Proofs
open Go Go.RowKit Go.Am

def encN (n : Int) : List AV := [.int .i64 n]
theorem encN_len (n : Int) : (encN n).length = 1 := rfl
@[simp] theorem wk_encN (n : Int) : List.map wk (encN n) = encN n := by simp [encN]
@[simp] theorem wk_encN' : List.map wk ∘ encN = encN := by funext x; simp
theorem pure_encN (n : Int) : ∀ v ∈ encN n, PureV v := pures1 (.int _ _)
theorem pure_w64' (n : Nat) : ∀ v ∈ w64 n, PureV v := pures1 (.int _ _)
theorem pure_arr (l : List Int) : ∀ v ∈ l.map (AV.int .i64), PureV v := fun v hv => by
  obtain ⟨n, _, rfl⟩ := List.mem_map.1 hv
  exact .int _ _
theorem pures_app {a b : List AV} (ha : ∀ v ∈ a, PureV v) (hb : ∀ v ∈ b, PureV v) : ∀ v ∈ a ++ b, PureV v := fun v hv => by
  rcases List.mem_append.1 hv with h | h
  · exact ha v h
  · exact hb v h
theorem pure_sl {α : Type} {f : α → List AV} (hf : ∀ x, ∀ v ∈ f x, PureV v) (l : List α) : PureV (.sl .no (l.map f)) := .sl (fun i h => by cases h) fun e he v hv => by
  obtain ⟨x, _, rfl⟩ := List.mem_map.1 he
  exact hf x v hv
@[simp] theorem wk_arr (l : List Int) : List.map wk (l.map (AV.int .i64)) = l.map (AV.int .i64) := by
  rw [List.map_map]; apply List.map_congr_left; intro x _; simp
@[simp] theorem wk_arr' : wk ∘ AV.int .i64 = AV.int .i64 := by funext x; simp
theorem lens_map {α : Type} {f : α → List AV} {n : Nat} (hf : ∀ x, (f x).length = n) (l : List α) : ∀ e ∈ l.map f, e.length = n := fun e he => by
  obtain ⟨x, _, rfl⟩ := List.mem_map.1 he
  exact hf x

/-! ### Shapes -/
theorem sh_int {v : AV} (h : (Sh.int .i64).is v) : ∃ n, v = .int .i64 n ∧ inI n := by
  obtain ⟨n, rfl, hw⟩ := h
  refine ⟨n, rfl, ?_⟩
  simp [Lit.wf, IntKind.min, IntKind.max, IntKind.signed, IntKind.bits] at hw
  exact ⟨by omega, by omega⟩
theorem sh_word {v : AV} (h : (Sh.int .u64).is v) : ∃ n : Nat, v = .int .u64 n ∧ n < 18446744073709551616 := by
  obtain ⟨n, rfl, hw⟩ := h
  simp [Lit.wf, IntKind.min, IntKind.max, IntKind.signed, IntKind.bits] at hw
  refine ⟨n.toNat, ?_, by omega⟩
  congr 1
  omega
theorem sh_list {α : Type} {f : α → List AV} {sh : List Sh} {wf : α → Prop} (hf : ∀ vs, isL sh vs → ∃ x, vs = f x ∧ wf x) : ∀ {es : List (List AV)}, (∀ e ∈ es, isL sh e) → ∃ l : List α, es = l.map f ∧ ∀ x ∈ l, wf x
  | [], _ => ⟨[], rfl, fun x hx => by cases hx⟩
  | e :: es, h => by
    obtain ⟨l, rfl, hl⟩ := sh_list hf (es := es) fun e he => h e (List.mem_cons_of_mem _ he)
    obtain ⟨x, rfl, hx⟩ := hf e (h e (List.mem_cons_self ..))
    exact ⟨x :: l, rfl, fun y hy => by
      rcases List.mem_cons.1 hy with rfl | hy
      · exact hx
      · exact hl y hy⟩
theorem isL_app : ∀ {a b : List Sh} {vs : List AV}, isL (a ++ b) vs → ∃ x y, vs = x ++ y ∧ isL a x ∧ isL b y
  | [], b, vs, h => ⟨[], vs, rfl, rfl, h⟩
  | s :: a, b, vs, h => by
    simp only [List.cons_append, isL] at h
    obtain ⟨v, r, rfl, h1, h2⟩ := h
    obtain ⟨x, y, rfl, h3, h4⟩ := isL_app h2
    refine ⟨v :: x, y, rfl, ?_, h4⟩
    simp only [isL]
    exact ⟨v, x, rfl, h1, h3⟩
theorem isL_one {s : Sh} {vs : List AV} (h : isL [s] vs) : ∃ v, vs = [v] ∧ s.is v := by
  simp only [isL] at h
  obtain ⟨v, r, rfl, h1, rfl⟩ := h
  exact ⟨v, rfl, h1⟩
theorem isL_encN {vs : List AV} (h : isL [.int .i64] vs) : ∃ n, vs = encN n ∧ inI n := by
  obtain ⟨v, rfl, h1⟩ := isL_one h
  obtain ⟨n, rfl, hn⟩ := sh_int h1
  exact ⟨n, rfl, hn⟩
theorem isL_w64 {vs : List AV} (h : isL [.int .u64] vs) : ∃ n, vs = w64 n ∧ n < 18446744073709551616 := by
  obtain ⟨v, rfl, h1⟩ := isL_one h
  obtain ⟨n, rfl, hn⟩ := sh_word h1
  exact ⟨n, rfl, hn⟩
theorem isL_arr : ∀ {n : Nat} {vs : List AV}, isL (List.replicate n (.int .i64)) vs → ∃ l : List Int, vs = l.map (AV.int .i64) ∧ l.length = n ∧ ∀ x ∈ l, inI x
  | 0, vs, h => by
    simp only [List.replicate, isL] at h
    exact ⟨[], h, rfl, fun x hx => by cases hx⟩
  | n + 1, vs, h => by
    simp only [List.replicate, isL] at h
    obtain ⟨v, r, rfl, h1, h2⟩ := h
    obtain ⟨l, rfl, h3, h4⟩ := isL_arr h2
    obtain ⟨x, rfl, hx⟩ := sh_int h1
    exact ⟨x :: l, rfl, by simp [h3], fun y hy => by
      rcases List.mem_cons.1 hy with rfl | hy
      · exact hx
      · exact h4 y hy⟩
theorem isL_sl {α : Type} {f : α → List AV} {sh : List Sh} {wf : α → Prop} (hf : ∀ vs, isL sh vs → ∃ x, vs = f x ∧ wf x) {vs : List AV} (h : isL [.sl sh] vs) : ∃ l : List α, vs = [.sl .no (l.map f)] ∧ l.length ≤ maxLen ∧ ∀ x ∈ l, wf x := by
  obtain ⟨v, rfl, h1⟩ := isL_one h
  simp only [Sh.is] at h1
  obtain ⟨es, rfl, h2, h3⟩ := h1
  obtain ⟨l, rfl, h4⟩ := sh_list hf h3
  exact ⟨l, rfl, by simpa using h2, h4⟩

/-! ### KeyT -/
structure KeyT where
  arg : Int
  base : Int
  deriving DecidableEq

def encKeyT (x : KeyT) : List AV := [.int .i64 x.arg, .int .i64 x.base]
def KeyT.wf (x : KeyT) : Prop := inI x.arg ∧ inI x.base
@[simp] theorem encKeyT_len (x : KeyT) : (encKeyT x).length = 2 := rfl
@[simp] theorem wk_encKeyT (x : KeyT) : List.map wk (encKeyT x) = encKeyT x := by simp [encKeyT]
@[simp] theorem wk_encKeyT' : List.map wk ∘ encKeyT = encKeyT := by funext x; simp
theorem pure_encKeyT (x : KeyT) : ∀ v ∈ encKeyT x, PureV v := (pures_cons (.int _ _) (pures_cons (.int _ _) pures_nil))
def shKeyT : List Sh := [.int .i64] ++ [.int .i64]
theorem isL_encKeyT {vs : List AV} (h : isL shKeyT vs) : ∃ x : KeyT, vs = encKeyT x ∧ x.wf := by
  unfold shKeyT at h
  obtain ⟨vs, v1, rfl, h, h1⟩ := isL_app h
  have h0 := h
  obtain ⟨u0, rfl, w0⟩ := isL_encN h0
  obtain ⟨u1, rfl, w1⟩ := isL_encN h1
  refine ⟨⟨u0, u1⟩, ?_, ⟨w0, w1⟩⟩
  simp [encKeyT, encN]

/-! ### Inst -/
structure Inst where
  op : Int
  a : Int
  b : Int
  c : Int
  k : KeyT
  l : KeyT
  x : Int
  deriving DecidableEq

def encInst (x : Inst) : List AV := [.int .i64 x.op, .int .i64 x.a, .int .i64 x.b, .int .i64 x.c, .int .i64 x.k.arg, .int .i64 x.k.base, .int .i64 x.l.arg, .int .i64 x.l.base, .int .i64 x.x]
def Inst.wf (x : Inst) : Prop := inI x.op ∧ inI x.a ∧ inI x.b ∧ inI x.c ∧ x.k.wf ∧ x.l.wf ∧ inI x.x
@[simp] theorem encInst_len (x : Inst) : (encInst x).length = 9 := rfl
@[simp] theorem wk_encInst (x : Inst) : List.map wk (encInst x) = encInst x := by simp [encInst]
@[simp] theorem wk_encInst' : List.map wk ∘ encInst = encInst := by funext x; simp
theorem pure_encInst (x : Inst) : ∀ v ∈ encInst x, PureV v := (pures_cons (.int _ _) (pures_cons (.int _ _) (pures_cons (.int _ _) (pures_cons (.int _ _) (pures_cons (.int _ _) (pures_cons (.int _ _) (pures_cons (.int _ _) (pures_cons (.int _ _) (pures_cons (.int _ _) pures_nil)))))))))
def shInst : List Sh := [.int .i64] ++ [.int .i64] ++ [.int .i64] ++ [.int .i64] ++ shKeyT ++ shKeyT ++ [.int .i64]
theorem isL_encInst {vs : List AV} (h : isL shInst vs) : ∃ x : Inst, vs = encInst x ∧ x.wf := by
  unfold shInst at h
  obtain ⟨vs, v6, rfl, h, h6⟩ := isL_app h
  obtain ⟨vs, v5, rfl, h, h5⟩ := isL_app h
  obtain ⟨vs, v4, rfl, h, h4⟩ := isL_app h
  obtain ⟨vs, v3, rfl, h, h3⟩ := isL_app h
  obtain ⟨vs, v2, rfl, h, h2⟩ := isL_app h
  obtain ⟨vs, v1, rfl, h, h1⟩ := isL_app h
  have h0 := h
  obtain ⟨u0, rfl, w0⟩ := isL_encN h0
  obtain ⟨u1, rfl, w1⟩ := isL_encN h1
  obtain ⟨u2, rfl, w2⟩ := isL_encN h2
  obtain ⟨u3, rfl, w3⟩ := isL_encN h3
  obtain ⟨u4, rfl, w4⟩ := isL_encKeyT h4
  obtain ⟨u5, rfl, w5⟩ := isL_encKeyT h5
  obtain ⟨u6, rfl, w6⟩ := isL_encN h6
  refine ⟨⟨u0, u1, u2, u3, u4, u5, u6⟩, ?_, ⟨w0, w1, w2, w3, w4, w5, w6⟩⟩
  simp [encInst, encN, encKeyT]

/-! ### SpanT -/
structure SpanT where
  lo : KeyT
  hi : KeyT
  write : Bool
  deriving DecidableEq

def encSpanT (x : SpanT) : List AV := [.int .i64 x.lo.arg, .int .i64 x.lo.base, .int .i64 x.hi.arg, .int .i64 x.hi.base, .bool x.write]
def SpanT.wf (x : SpanT) : Prop := x.lo.wf ∧ x.hi.wf
@[simp] theorem encSpanT_len (x : SpanT) : (encSpanT x).length = 5 := rfl
@[simp] theorem wk_encSpanT (x : SpanT) : List.map wk (encSpanT x) = encSpanT x := by simp [encSpanT]
@[simp] theorem wk_encSpanT' : List.map wk ∘ encSpanT = encSpanT := by funext x; simp
theorem pure_encSpanT (x : SpanT) : ∀ v ∈ encSpanT x, PureV v := (pures_cons (.int _ _) (pures_cons (.int _ _) (pures_cons (.int _ _) (pures_cons (.int _ _) (pures_cons (.bool _) pures_nil)))))
def shSpanT : List Sh := shKeyT ++ shKeyT ++ [.bool]
theorem isL_encSpanT {vs : List AV} (h : isL shSpanT vs) : ∃ x : SpanT, vs = encSpanT x ∧ x.wf := by
  unfold shSpanT at h
  obtain ⟨vs, v2, rfl, h, h2⟩ := isL_app h
  obtain ⟨vs, v1, rfl, h, h1⟩ := isL_app h
  have h0 := h
  obtain ⟨u0, rfl, w0⟩ := isL_encKeyT h0
  obtain ⟨u1, rfl, w1⟩ := isL_encKeyT h1
  obtain ⟨_, rfl, u2, rfl⟩ := isL_one h2
  refine ⟨⟨u0, u1, u2⟩, ?_, ⟨w0, w1⟩⟩
  simp [encSpanT, encN, encKeyT]

/-! ### Stp -/
structure Stp where
  code : List Inst
  foot : List SpanT
  deriving DecidableEq

def encStp (x : Stp) : List AV := [.sl .no (x.code.map encInst), .sl .no (x.foot.map encSpanT)]
def Stp.wf (x : Stp) : Prop := (x.code.length ≤ maxLen ∧ ∀ y ∈ x.code, y.wf) ∧ (x.foot.length ≤ maxLen ∧ ∀ y ∈ x.foot, y.wf)
@[simp] theorem encStp_len (x : Stp) : (encStp x).length = 2 := rfl
@[simp] theorem wk_encStp (x : Stp) : List.map wk (encStp x) = encStp x := by simp [encStp]
@[simp] theorem wk_encStp' : List.map wk ∘ encStp = encStp := by funext x; simp
theorem pure_encStp (x : Stp) : ∀ v ∈ encStp x, PureV v := (pures_cons (pure_sl pure_encInst _) (pures_cons (pure_sl pure_encSpanT _) pures_nil))
def shStp : List Sh := [.sl shInst] ++ [.sl shSpanT]
theorem isL_encStp {vs : List AV} (h : isL shStp vs) : ∃ x : Stp, vs = encStp x ∧ x.wf := by
  unfold shStp at h
  obtain ⟨vs, v1, rfl, h, h1⟩ := isL_app h
  have h0 := h
  obtain ⟨u0, rfl, w0⟩ := isL_sl (fun vs h => isL_encInst h) h0
  obtain ⟨u1, rfl, w1⟩ := isL_sl (fun vs h => isL_encSpanT h) h1
  refine ⟨⟨u0, u1⟩, ?_, ⟨w0, w1⟩⟩
  simp [encStp, encN]

/-! ### Cls -/
structure Cls where
  name : ByteArray
  args : Int
  steps : List Stp
  comps : List Stp
  resume : Bool
  deriving DecidableEq

def encCls (x : Cls) : List AV := [.str x.name, .int .i64 x.args, .sl .no (x.steps.map encStp), .sl .no (x.comps.map encStp), .bool x.resume]
def Cls.wf (x : Cls) : Prop := x.name.size ≤ maxLen ∧ inI x.args ∧ (x.steps.length ≤ maxLen ∧ ∀ y ∈ x.steps, y.wf) ∧ (x.comps.length ≤ maxLen ∧ ∀ y ∈ x.comps, y.wf)
@[simp] theorem encCls_len (x : Cls) : (encCls x).length = 5 := rfl
@[simp] theorem wk_encCls (x : Cls) : List.map wk (encCls x) = encCls x := by simp [encCls]
@[simp] theorem wk_encCls' : List.map wk ∘ encCls = encCls := by funext x; simp
theorem pure_encCls (x : Cls) : ∀ v ∈ encCls x, PureV v := (pures_cons (.str _) (pures_cons (.int _ _) (pures_cons (pure_sl pure_encStp _) (pures_cons (pure_sl pure_encStp _) (pures_cons (.bool _) pures_nil)))))
def shCls : List Sh := [.str] ++ [.int .i64] ++ [.sl shStp] ++ [.sl shStp] ++ [.bool]
theorem isL_encCls {vs : List AV} (h : isL shCls vs) : ∃ x : Cls, vs = encCls x ∧ x.wf := by
  unfold shCls at h
  obtain ⟨vs, v4, rfl, h, h4⟩ := isL_app h
  obtain ⟨vs, v3, rfl, h, h3⟩ := isL_app h
  obtain ⟨vs, v2, rfl, h, h2⟩ := isL_app h
  obtain ⟨vs, v1, rfl, h, h1⟩ := isL_app h
  have h0 := h
  obtain ⟨_, rfl, u0, rfl, w0⟩ := isL_one h0
  obtain ⟨u1, rfl, w1⟩ := isL_encN h1
  obtain ⟨u2, rfl, w2⟩ := isL_sl (fun vs h => isL_encStp h) h2
  obtain ⟨u3, rfl, w3⟩ := isL_sl (fun vs h => isL_encStp h) h3
  obtain ⟨_, rfl, u4, rfl⟩ := isL_one h4
  refine ⟨⟨u0, u1, u2, u3, u4⟩, ?_, ⟨w0, w1, w2, w3⟩⟩
  simp [encCls, encN]

/-! ### Ctlg -/
structure Ctlg where
  classes : List Cls
  breaks : List Int
  deriving DecidableEq

def encCtlg (x : Ctlg) : List AV := [.sl .no (x.classes.map encCls)] ++ x.breaks.map (AV.int .i64)
def Ctlg.wf (x : Ctlg) : Prop := (x.classes.length ≤ maxLen ∧ ∀ y ∈ x.classes, y.wf) ∧ (x.breaks.length = 16 ∧ ∀ y ∈ x.breaks, inI y)
theorem encCtlg_len {x : Ctlg} (h : x.wf) : (encCtlg x).length = 17 := by
  simp only [Ctlg.wf] at h
  simp [encCtlg, h]
@[simp] theorem wk_encCtlg (x : Ctlg) : List.map wk (encCtlg x) = encCtlg x := by simp [encCtlg]
@[simp] theorem wk_encCtlg' : List.map wk ∘ encCtlg = encCtlg := by funext x; simp
theorem pure_encCtlg (x : Ctlg) : ∀ v ∈ encCtlg x, PureV v := (pures_app (pures_cons (pure_sl pure_encCls _) pures_nil) (pure_arr _))
def shCtlg : List Sh := [.sl shCls] ++ List.replicate 16 (.int .i64)
theorem isL_encCtlg {vs : List AV} (h : isL shCtlg vs) : ∃ x : Ctlg, vs = encCtlg x ∧ x.wf := by
  unfold shCtlg at h
  obtain ⟨vs, v1, rfl, h, h1⟩ := isL_app h
  have h0 := h
  obtain ⟨u0, rfl, w0⟩ := isL_sl (fun vs h => isL_encCls h) h0
  obtain ⟨u1, rfl, w1⟩ := isL_arr h1
  refine ⟨⟨u0, u1⟩, ?_, ⟨w0, w1⟩⟩
  simp [encCtlg, encN]

/-! ### Spn -/
structure Spn where
  lo : Int
  hi : Int
  deriving DecidableEq

def encSpn (x : Spn) : List AV := [.int .i64 x.lo, .int .i64 x.hi]
def Spn.wf (x : Spn) : Prop := inI x.lo ∧ inI x.hi
@[simp] theorem encSpn_len (x : Spn) : (encSpn x).length = 2 := rfl
@[simp] theorem wk_encSpn (x : Spn) : List.map wk (encSpn x) = encSpn x := by simp [encSpn]
@[simp] theorem wk_encSpn' : List.map wk ∘ encSpn = encSpn := by funext x; simp
theorem pure_encSpn (x : Spn) : ∀ v ∈ encSpn x, PureV v := (pures_cons (.int _ _) (pures_cons (.int _ _) pures_nil))
def shSpn : List Sh := [.int .i64] ++ [.int .i64]
theorem isL_encSpn {vs : List AV} (h : isL shSpn vs) : ∃ x : Spn, vs = encSpn x ∧ x.wf := by
  unfold shSpn at h
  obtain ⟨vs, v1, rfl, h, h1⟩ := isL_app h
  have h0 := h
  obtain ⟨u0, rfl, w0⟩ := isL_encN h0
  obtain ⟨u1, rfl, w1⟩ := isL_encN h1
  refine ⟨⟨u0, u1⟩, ?_, ⟨w0, w1⟩⟩
  simp [encSpn, encN]

/-! ### Nod -/
structure Nod where
  saga : Int
  cls : Int
  step : Int
  back : Bool
  reads : List Spn
  writes : List Spn
  deriving DecidableEq

def encNod (x : Nod) : List AV := [.int .i64 x.saga, .int .i64 x.cls, .int .i64 x.step, .bool x.back, .sl .no (x.reads.map encSpn), .sl .no (x.writes.map encSpn)]
def Nod.wf (x : Nod) : Prop := inI x.saga ∧ inI x.cls ∧ inI x.step ∧ (x.reads.length ≤ maxLen ∧ ∀ y ∈ x.reads, y.wf) ∧ (x.writes.length ≤ maxLen ∧ ∀ y ∈ x.writes, y.wf)
@[simp] theorem encNod_len (x : Nod) : (encNod x).length = 6 := rfl
@[simp] theorem wk_encNod (x : Nod) : List.map wk (encNod x) = encNod x := by simp [encNod]
@[simp] theorem wk_encNod' : List.map wk ∘ encNod = encNod := by funext x; simp
theorem pure_encNod (x : Nod) : ∀ v ∈ encNod x, PureV v := (pures_cons (.int _ _) (pures_cons (.int _ _) (pures_cons (.int _ _) (pures_cons (.bool _) (pures_cons (pure_sl pure_encSpn _) (pures_cons (pure_sl pure_encSpn _) pures_nil))))))
def shNod : List Sh := [.int .i64] ++ [.int .i64] ++ [.int .i64] ++ [.bool] ++ [.sl shSpn] ++ [.sl shSpn]
theorem isL_encNod {vs : List AV} (h : isL shNod vs) : ∃ x : Nod, vs = encNod x ∧ x.wf := by
  unfold shNod at h
  obtain ⟨vs, v5, rfl, h, h5⟩ := isL_app h
  obtain ⟨vs, v4, rfl, h, h4⟩ := isL_app h
  obtain ⟨vs, v3, rfl, h, h3⟩ := isL_app h
  obtain ⟨vs, v2, rfl, h, h2⟩ := isL_app h
  obtain ⟨vs, v1, rfl, h, h1⟩ := isL_app h
  have h0 := h
  obtain ⟨u0, rfl, w0⟩ := isL_encN h0
  obtain ⟨u1, rfl, w1⟩ := isL_encN h1
  obtain ⟨u2, rfl, w2⟩ := isL_encN h2
  obtain ⟨_, rfl, u3, rfl⟩ := isL_one h3
  obtain ⟨u4, rfl, w4⟩ := isL_sl (fun vs h => isL_encSpn h) h4
  obtain ⟨u5, rfl, w5⟩ := isL_sl (fun vs h => isL_encSpn h) h5
  refine ⟨⟨u0, u1, u2, u3, u4, u5⟩, ?_, ⟨w0, w1, w2, w4, w5⟩⟩
  simp [encNod, encN]

/-! ### Chg -/
structure Chg where
  key : Int
  gone : Bool
  value : Int
  deriving DecidableEq

def encChg (x : Chg) : List AV := [.int .i64 x.key, .bool x.gone, .int .i64 x.value]
def Chg.wf (x : Chg) : Prop := inI x.key ∧ inI x.value
@[simp] theorem encChg_len (x : Chg) : (encChg x).length = 3 := rfl
@[simp] theorem wk_encChg (x : Chg) : List.map wk (encChg x) = encChg x := by simp [encChg]
@[simp] theorem wk_encChg' : List.map wk ∘ encChg = encChg := by funext x; simp
theorem pure_encChg (x : Chg) : ∀ v ∈ encChg x, PureV v := (pures_cons (.int _ _) (pures_cons (.bool _) (pures_cons (.int _ _) pures_nil)))
def shChg : List Sh := [.int .i64] ++ [.bool] ++ [.int .i64]
theorem isL_encChg {vs : List AV} (h : isL shChg vs) : ∃ x : Chg, vs = encChg x ∧ x.wf := by
  unfold shChg at h
  obtain ⟨vs, v2, rfl, h, h2⟩ := isL_app h
  obtain ⟨vs, v1, rfl, h, h1⟩ := isL_app h
  have h0 := h
  obtain ⟨u0, rfl, w0⟩ := isL_encN h0
  obtain ⟨_, rfl, u1, rfl⟩ := isL_one h1
  obtain ⟨u2, rfl, w2⟩ := isL_encN h2
  refine ⟨⟨u0, u1, u2⟩, ?_, ⟨w0, w2⟩⟩
  simp [encChg, encN]

/-! ### Recd -/
structure Recd where
  kind : Int
  saga : Int
  cls : Int
  args : List Int
  why : Int
  node : Nod
  regs : List Int
  changes : List Chg
  deriving DecidableEq

def encRecd (x : Recd) : List AV := [.int .i64 x.kind, .int .i64 x.saga, .int .i64 x.cls, .sl .no (x.args.map encN), .int .i64 x.why, .int .i64 x.node.saga, .int .i64 x.node.cls, .int .i64 x.node.step, .bool x.node.back, .sl .no (x.node.reads.map encSpn), .sl .no (x.node.writes.map encSpn)] ++ x.regs.map (AV.int .i64) ++ [.sl .no (x.changes.map encChg)]
def Recd.wf (x : Recd) : Prop := inI x.kind ∧ inI x.saga ∧ inI x.cls ∧ (x.args.length ≤ maxLen ∧ ∀ y ∈ x.args, inI y) ∧ inI x.why ∧ x.node.wf ∧ (x.regs.length = 4 ∧ ∀ y ∈ x.regs, inI y) ∧ (x.changes.length ≤ maxLen ∧ ∀ y ∈ x.changes, y.wf)
theorem encRecd_len {x : Recd} (h : x.wf) : (encRecd x).length = 16 := by
  simp only [Recd.wf] at h
  simp [encRecd, h]
@[simp] theorem wk_encRecd (x : Recd) : List.map wk (encRecd x) = encRecd x := by simp [encRecd]
@[simp] theorem wk_encRecd' : List.map wk ∘ encRecd = encRecd := by funext x; simp
theorem pure_encRecd (x : Recd) : ∀ v ∈ encRecd x, PureV v := (pures_app (pures_app (pures_cons (.int _ _) (pures_cons (.int _ _) (pures_cons (.int _ _) (pures_cons (pure_sl pure_encN _) (pures_cons (.int _ _) (pures_cons (.int _ _) (pures_cons (.int _ _) (pures_cons (.int _ _) (pures_cons (.bool _) (pures_cons (pure_sl pure_encSpn _) (pures_cons (pure_sl pure_encSpn _) pures_nil))))))))))) (pure_arr _)) (pures_cons (pure_sl pure_encChg _) pures_nil))
def shRecd : List Sh := [.int .i64] ++ [.int .i64] ++ [.int .i64] ++ [.sl [.int .i64]] ++ [.int .i64] ++ shNod ++ List.replicate 4 (.int .i64) ++ [.sl shChg]
theorem isL_encRecd {vs : List AV} (h : isL shRecd vs) : ∃ x : Recd, vs = encRecd x ∧ x.wf := by
  unfold shRecd at h
  obtain ⟨vs, v7, rfl, h, h7⟩ := isL_app h
  obtain ⟨vs, v6, rfl, h, h6⟩ := isL_app h
  obtain ⟨vs, v5, rfl, h, h5⟩ := isL_app h
  obtain ⟨vs, v4, rfl, h, h4⟩ := isL_app h
  obtain ⟨vs, v3, rfl, h, h3⟩ := isL_app h
  obtain ⟨vs, v2, rfl, h, h2⟩ := isL_app h
  obtain ⟨vs, v1, rfl, h, h1⟩ := isL_app h
  have h0 := h
  obtain ⟨u0, rfl, w0⟩ := isL_encN h0
  obtain ⟨u1, rfl, w1⟩ := isL_encN h1
  obtain ⟨u2, rfl, w2⟩ := isL_encN h2
  obtain ⟨u3, rfl, w3⟩ := isL_sl (fun vs h => isL_encN h) h3
  obtain ⟨u4, rfl, w4⟩ := isL_encN h4
  obtain ⟨u5, rfl, w5⟩ := isL_encNod h5
  obtain ⟨u6, rfl, w6⟩ := isL_arr h6
  obtain ⟨u7, rfl, w7⟩ := isL_sl (fun vs h => isL_encChg h) h7
  refine ⟨⟨u0, u1, u2, u3, u4, u5, u6, u7⟩, ?_, ⟨w0, w1, w2, w3, w4, w5, w6, w7⟩⟩
  simp [encRecd, encN, encNod]

/-! ### Frm -/
structure Frm where
  kind : Int
  words : List Nat
  deriving DecidableEq

def encFrm (x : Frm) : List AV := [.int .i64 x.kind, .sl .no (x.words.map w64)]
def Frm.wf (x : Frm) : Prop := inI x.kind ∧ (x.words.length ≤ maxLen ∧ ∀ y ∈ x.words, y < 18446744073709551616)
@[simp] theorem encFrm_len (x : Frm) : (encFrm x).length = 2 := rfl
@[simp] theorem wk_encFrm (x : Frm) : List.map wk (encFrm x) = encFrm x := by simp [encFrm]
@[simp] theorem wk_encFrm' : List.map wk ∘ encFrm = encFrm := by funext x; simp
theorem pure_encFrm (x : Frm) : ∀ v ∈ encFrm x, PureV v := (pures_cons (.int _ _) (pures_cons (pure_sl pure_w64' _) pures_nil))
def shFrm : List Sh := [.int .i64] ++ [.sl [.int .u64]]
theorem isL_encFrm {vs : List AV} (h : isL shFrm vs) : ∃ x : Frm, vs = encFrm x ∧ x.wf := by
  unfold shFrm at h
  obtain ⟨vs, v1, rfl, h, h1⟩ := isL_app h
  have h0 := h
  obtain ⟨u0, rfl, w0⟩ := isL_encN h0
  obtain ⟨u1, rfl, w1⟩ := isL_sl (fun vs h => isL_w64 h) h1
  refine ⟨⟨u0, u1⟩, ?_, ⟨w0, w1⟩⟩
  simp [encFrm, encN]

/-! ### Par -/
structure Par where
  key : Int
  value : Int
  deriving DecidableEq

def encPar (x : Par) : List AV := [.int .i64 x.key, .int .i64 x.value]
def Par.wf (x : Par) : Prop := inI x.key ∧ inI x.value
@[simp] theorem encPar_len (x : Par) : (encPar x).length = 2 := rfl
@[simp] theorem wk_encPar (x : Par) : List.map wk (encPar x) = encPar x := by simp [encPar]
@[simp] theorem wk_encPar' : List.map wk ∘ encPar = encPar := by funext x; simp
theorem pure_encPar (x : Par) : ∀ v ∈ encPar x, PureV v := (pures_cons (.int _ _) (pures_cons (.int _ _) pures_nil))
def shPar : List Sh := [.int .i64] ++ [.int .i64]
theorem isL_encPar {vs : List AV} (h : isL shPar vs) : ∃ x : Par, vs = encPar x ∧ x.wf := by
  unfold shPar at h
  obtain ⟨vs, v1, rfl, h, h1⟩ := isL_app h
  have h0 := h
  obtain ⟨u0, rfl, w0⟩ := isL_encN h0
  obtain ⟨u1, rfl, w1⟩ := isL_encN h1
  refine ⟨⟨u0, u1⟩, ?_, ⟨w0, w1⟩⟩
  simp [encPar, encN]

/-! ### Rept -/
structure Rept where
  committed : Int
  compensated : Int
  opn : Int
  steps : Int
  backs : Int
  aborts : List Int
  keys : Int
  deriving DecidableEq

def encRept (x : Rept) : List AV := [.int .i64 x.committed, .int .i64 x.compensated, .int .i64 x.opn, .int .i64 x.steps, .int .i64 x.backs] ++ x.aborts.map (AV.int .i64) ++ [.int .i64 x.keys]
def Rept.wf (x : Rept) : Prop := inI x.committed ∧ inI x.compensated ∧ inI x.opn ∧ inI x.steps ∧ inI x.backs ∧ (x.aborts.length = 16 ∧ ∀ y ∈ x.aborts, inI y) ∧ inI x.keys
theorem encRept_len {x : Rept} (h : x.wf) : (encRept x).length = 22 := by
  simp only [Rept.wf] at h
  simp [encRept, h]
@[simp] theorem wk_encRept (x : Rept) : List.map wk (encRept x) = encRept x := by simp [encRept]
@[simp] theorem wk_encRept' : List.map wk ∘ encRept = encRept := by funext x; simp
theorem pure_encRept (x : Rept) : ∀ v ∈ encRept x, PureV v := (pures_app (pures_app (pures_cons (.int _ _) (pures_cons (.int _ _) (pures_cons (.int _ _) (pures_cons (.int _ _) (pures_cons (.int _ _) pures_nil))))) (pure_arr _)) (pures_cons (.int _ _) pures_nil))
def shRept : List Sh := [.int .i64] ++ [.int .i64] ++ [.int .i64] ++ [.int .i64] ++ [.int .i64] ++ List.replicate 16 (.int .i64) ++ [.int .i64]
theorem isL_encRept {vs : List AV} (h : isL shRept vs) : ∃ x : Rept, vs = encRept x ∧ x.wf := by
  unfold shRept at h
  obtain ⟨vs, v6, rfl, h, h6⟩ := isL_app h
  obtain ⟨vs, v5, rfl, h, h5⟩ := isL_app h
  obtain ⟨vs, v4, rfl, h, h4⟩ := isL_app h
  obtain ⟨vs, v3, rfl, h, h3⟩ := isL_app h
  obtain ⟨vs, v2, rfl, h, h2⟩ := isL_app h
  obtain ⟨vs, v1, rfl, h, h1⟩ := isL_app h
  have h0 := h
  obtain ⟨u0, rfl, w0⟩ := isL_encN h0
  obtain ⟨u1, rfl, w1⟩ := isL_encN h1
  obtain ⟨u2, rfl, w2⟩ := isL_encN h2
  obtain ⟨u3, rfl, w3⟩ := isL_encN h3
  obtain ⟨u4, rfl, w4⟩ := isL_encN h4
  obtain ⟨u5, rfl, w5⟩ := isL_arr h5
  obtain ⟨u6, rfl, w6⟩ := isL_encN h6
  refine ⟨⟨u0, u1, u2, u3, u4, u5, u6⟩, ?_, ⟨w0, w1, w2, w3, w4, w5, w6⟩⟩
  simp [encRept, encN]

end Go.Proofs

/- Arguments of a law: from their readings to values. -/
namespace Go.Proofs
open Go Go.RowKit Go.Am

theorem sh_one {s : Sh} {a : AV} (h : s.is a) : isL [s] [a] := by
  simp only [isL]
  exact ⟨a, [], rfl, h, rfl⟩
theorem sl_is {α : Type} {f : α → List AV} {sh : List Sh} {wf : α → Prop} (hf : ∀ vs, isL sh vs → ∃ x, vs = f x ∧ wf x) {v : AV} (h : (Sh.sl sh).is v) : ∃ l : List α, v = .sl .no (l.map f) ∧ l.length ≤ maxLen ∧ ∀ x ∈ l, wf x := by
  obtain ⟨l, e, h1, h2⟩ := isL_sl hf (sh_one h)
  simp at e
  exact ⟨l, e, h1, h2⟩
def shItem : List Sh := [.int .i64] ++ [.int .i64] ++ [.int .i64] ++ [.int .i64] ++ [.str] ++ [.sl [.int .u64]]
def Item.wf (x : Item) : Prop := inI x.kind ∧ inI x.n ∧ inI x.most ∧ inI x.x ∧ x.s.size ≤ maxLen ∧ x.l.length ≤ maxLen ∧ ∀ w ∈ x.l, w < 18446744073709551616
theorem isL_encItem {vs : List AV} (h : isL shItem vs) : ∃ x : Item, vs = encI x ∧ x.wf := by
  unfold shItem at h
  obtain ⟨vs, v5, rfl, h, h5⟩ := isL_app h
  obtain ⟨vs, v4, rfl, h, h4⟩ := isL_app h
  obtain ⟨vs, v3, rfl, h, h3⟩ := isL_app h
  obtain ⟨vs, v2, rfl, h, h2⟩ := isL_app h
  obtain ⟨vs, v1, rfl, h, h1⟩ := isL_app h
  obtain ⟨u0, rfl, w0⟩ := isL_encN h
  obtain ⟨u1, rfl, w1⟩ := isL_encN h1
  obtain ⟨u2, rfl, w2⟩ := isL_encN h2
  obtain ⟨u3, rfl, w3⟩ := isL_encN h3
  obtain ⟨_, rfl, u4, rfl, w4⟩ := isL_one h4
  obtain ⟨u5, rfl, w5⟩ := isL_sl (fun vs h => isL_w64 h) h5
  refine ⟨⟨u0, u1, u2, u3, u4, u5⟩, ?_, w0, w1, w2, w3, w4, w5⟩
  simp [encI, encN]

section
variable {H : Type} {enc : TypeId × Value → H} {P : Program} {w : World} {spare : Nat → Bool} {held : Bool}
/-- An argument of several cells. -/
theorem ent_agg {t : TypeId} {C : Array Value} {x : DataW H} {ps : List MemPlace} {d : Nat} {sh : List Sh} (h : DataW.Trod enc P w 0 spare held t (.agg C) x ps) (hc : shT P d t = some sh) : ∃ vs, isL sh vs ∧ Rep w (G.bare (roW w)) (.agg vs) (.agg C) := by
  obtain ⟨fuel, h⟩ := h
  obtain ⟨vs, h1, h2⟩ := ent fuel d t _ _ _ h hc
  refine ⟨vs, h1, Rep.ofAgg (RepC.mk (by simpa [Value.cells] using h2.1) fun k v hk => ?_)⟩
  obtain ⟨V, q1, q2, q3⟩ := h2.2 k v hk
  exact ⟨V, by simpa [Value.cells] using q1, q2, q3⟩
inductive RepV (w : World) (g : G) : List AV → List Value → Prop where
  | nil : RepV w g [] []
  | cons {a : AV} {v : Value} {l : List AV} {vs : List Value} : Rep w g a v → RepV w g l vs → RepV w g (a :: l) (v :: vs)
theorem RepV.get {w : World} {g : G} {l : List AV} {vs : List Value} (h : RepV w g l vs) : ∃ hl : l.length = vs.length, ∀ k (hk : k < l.length), Rep w g l[k] (vs[k]'(by omega)) := by
  induction h with
  | nil => exact ⟨rfl, fun k hk => by simp at hk⟩
  | cons hv _ ih =>
    obtain ⟨hl, ih⟩ := ih
    refine ⟨by simp [hl], fun k hk => ?_⟩
    cases k with
    | zero => exact hv
    | succ k => exact ih k (by simpa using hk)
theorem RepV.toA {w : World} {g : G} {l : List AV} {vs : List Value} (h : RepV w g l vs) : RepA w g l vs.toArray := by
  obtain ⟨hl, h⟩ := h.get
  exact ⟨by simpa using hl, fun k hk => by simpa using h k hk⟩
end
end Go.Proofs

/- Which programs, footprints, classes and catalogues there may be: the document's answer. -/
namespace Go.Proofs
open Go Go.RowKit Go.Am

def mayKey (k : KeyT) (args : Int) : Bool := decide (-1 ≤ k.arg) && decide (k.arg < args) && decide (0 ≤ k.base) && decide (k.base ≤ 900)

theorem pureKey (k : KeyT) : PureV (.agg (encKeyT k)) := .agg (pure_encKeyT k)

theorem refMayKey_ok (k : KeyT) (args : Int) : PCall Try.prog 130 [.agg (encKeyT k), .int .i64 args] (.bool (mayKey k args)) := by
  refine PCall.run hb130 ok130 (by simp) (pures_cons (pureKey k) (pures1 (.int _ _))) (.bool _) ?_
  simp (maxSteps := 2000000) +contextual -implicitDefEqProofs [↓gdL_T, ↓gdL_F, ↓condQ_b, -Int.not_lt, -Int.not_le, -Nat.not_lt, -Nat.not_le, encKeyT, mayKey]

def isReg (n : Int) : Bool := !decide (n < 0) && !decide (3 < n)
def keyNone (k : KeyT) : Bool := decide (k.arg = 0 ∧ k.base = 0)
/-- May an instruction be? -/
def oneInst (x : Inst) (args : Int) : Bool :=
  if x.op = 1 ∨ x.op = 2 then isReg x.a && decide (x.x = 0) && decide (x.b = 0) && decide (x.c = 0) && keyNone x.l && mayKey x.k args
  else if x.op = 3 then decide (x.a = 0) && decide (x.x = 0) && decide (x.b = 0) && decide (x.c = 0) && keyNone x.l && mayKey x.k args
  else if x.op = 4 then isReg x.a && decide (x.x = 0) && decide (x.b = 0) && decide (x.c = 0) && mayKey x.k args && mayKey x.l args
  else if x.op = 5 ∨ x.op = 8 then isReg x.a && decide (x.b = 0) && decide (x.c = 0) && keyNone x.k && keyNone x.l
  else if x.op = 6 ∨ x.op = 7 then isReg x.a && decide (x.x = 0) && isReg x.b && isReg x.c && keyNone x.k && keyNone x.l
  else false

theorem pureInst (x : Inst) : PureV (.agg (encInst x)) := .agg (pure_encInst x)

end Go.Proofs

/- Which instructions there may be: the document's answer, path by path. PRINTED BY one.py, a program of this work. -/
namespace Go.Proofs
open Go Go.RowKit Go.Am

set_option maxRecDepth 20000 in
set_option maxHeartbeats 4000000 in
theorem refOne1 (x : Inst) (args : Int) (o : x.op = 1) : Run Try.prog false [.c c129] (retQ [.t 4] fun r' _ => wk r' = .bool (oneInst x args)) (slots0 [.agg (encInst x), .int .i64 args]) H.nil := by
  by_cases a1 : x.a < 0
  · simp -implicitDefEqProofs [encInst, oneInst, isReg, keyNone, o, a1]
  · by_cases a2 : 3 < x.a
    · simp -implicitDefEqProofs [encInst, oneInst, isReg, keyNone, o, a1, a2]
    · by_cases x1 : x.x = 0
      · by_cases b1 : x.b = 0
        · by_cases b2 : x.c = 0
          · by_cases l1 : x.l.arg = 0
            · by_cases l2 : x.l.base = 0
              · simp -implicitDefEqProofs [encInst, o, a1, a2, x1, b1, b2, l1, l2]
                refine callQ_p (refMayKey_ok x.k args) (by simp [encKeyT]) ?_
                cases hk : mayKey x.k args
                · simp -implicitDefEqProofs [oneInst, isReg, keyNone, hk, o, a1, a2, x1, b1, b2, l1, l2]
                · simp -implicitDefEqProofs [oneInst, isReg, keyNone, hk, o, a1, a2, x1, b1, b2, l1, l2]
              · simp -implicitDefEqProofs [encInst, oneInst, isReg, keyNone, o, a1, a2, x1, b1, b2, l1, l2]
            · simp -implicitDefEqProofs [encInst, oneInst, isReg, keyNone, o, a1, a2, x1, b1, b2, l1]
          · simp -implicitDefEqProofs [encInst, oneInst, isReg, keyNone, o, a1, a2, x1, b1, b2]
        · simp -implicitDefEqProofs [encInst, oneInst, isReg, keyNone, o, a1, a2, x1, b1]
      · simp -implicitDefEqProofs [encInst, oneInst, isReg, keyNone, o, a1, a2, x1]
set_option maxRecDepth 20000 in
set_option maxHeartbeats 4000000 in
theorem refOne2 (x : Inst) (args : Int) (o : x.op = 2) : Run Try.prog false [.c c129] (retQ [.t 4] fun r' _ => wk r' = .bool (oneInst x args)) (slots0 [.agg (encInst x), .int .i64 args]) H.nil := by
  by_cases a1 : x.a < 0
  · simp -implicitDefEqProofs [encInst, oneInst, isReg, keyNone, o, a1]
  · by_cases a2 : 3 < x.a
    · simp -implicitDefEqProofs [encInst, oneInst, isReg, keyNone, o, a1, a2]
    · by_cases x1 : x.x = 0
      · by_cases b1 : x.b = 0
        · by_cases b2 : x.c = 0
          · by_cases l1 : x.l.arg = 0
            · by_cases l2 : x.l.base = 0
              · simp -implicitDefEqProofs [encInst, o, a1, a2, x1, b1, b2, l1, l2]
                refine callQ_p (refMayKey_ok x.k args) (by simp [encKeyT]) ?_
                cases hk : mayKey x.k args
                · simp -implicitDefEqProofs [oneInst, isReg, keyNone, hk, o, a1, a2, x1, b1, b2, l1, l2]
                · simp -implicitDefEqProofs [oneInst, isReg, keyNone, hk, o, a1, a2, x1, b1, b2, l1, l2]
              · simp -implicitDefEqProofs [encInst, oneInst, isReg, keyNone, o, a1, a2, x1, b1, b2, l1, l2]
            · simp -implicitDefEqProofs [encInst, oneInst, isReg, keyNone, o, a1, a2, x1, b1, b2, l1]
          · simp -implicitDefEqProofs [encInst, oneInst, isReg, keyNone, o, a1, a2, x1, b1, b2]
        · simp -implicitDefEqProofs [encInst, oneInst, isReg, keyNone, o, a1, a2, x1, b1]
      · simp -implicitDefEqProofs [encInst, oneInst, isReg, keyNone, o, a1, a2, x1]
set_option maxRecDepth 20000 in
set_option maxHeartbeats 4000000 in
theorem refOne3 (x : Inst) (args : Int) (o : x.op = 3) : Run Try.prog false [.c c129] (retQ [.t 4] fun r' _ => wk r' = .bool (oneInst x args)) (slots0 [.agg (encInst x), .int .i64 args]) H.nil := by
  by_cases a1 : x.a < 0
  · simp -implicitDefEqProofs [encInst, oneInst, isReg, keyNone, o, a1]
    intro h; omega
  · by_cases a2 : 3 < x.a
    · simp -implicitDefEqProofs [encInst, oneInst, isReg, keyNone, o, a1, a2]
      intro h; omega
    · by_cases a3 : x.a = 0
      · by_cases x1 : x.x = 0
        · by_cases b1 : x.b = 0
          · by_cases b2 : x.c = 0
            · by_cases l1 : x.l.arg = 0
              · by_cases l2 : x.l.base = 0
                · simp -implicitDefEqProofs [encInst, o, a1, a2, a3, x1, b1, b2, l1, l2]
                  refine callQ_p (refMayKey_ok x.k args) (by simp [encKeyT]) ?_
                  cases hk : mayKey x.k args
                  · simp -implicitDefEqProofs [oneInst, isReg, keyNone, hk, o, a1, a2, a3, x1, b1, b2, l1, l2]
                  · simp -implicitDefEqProofs [oneInst, isReg, keyNone, hk, o, a1, a2, a3, x1, b1, b2, l1, l2]
                · simp -implicitDefEqProofs [encInst, oneInst, isReg, keyNone, o, a1, a2, a3, x1, b1, b2, l1, l2]
              · simp -implicitDefEqProofs [encInst, oneInst, isReg, keyNone, o, a1, a2, a3, x1, b1, b2, l1]
            · simp -implicitDefEqProofs [encInst, oneInst, isReg, keyNone, o, a1, a2, a3, x1, b1, b2]
          · simp -implicitDefEqProofs [encInst, oneInst, isReg, keyNone, o, a1, a2, a3, x1, b1]
        · simp -implicitDefEqProofs [encInst, oneInst, isReg, keyNone, o, a1, a2, a3, x1]
      · simp -implicitDefEqProofs [encInst, oneInst, isReg, keyNone, o, a1, a2, a3]
set_option maxRecDepth 20000 in
set_option maxHeartbeats 4000000 in
theorem refOne4 (x : Inst) (args : Int) (o : x.op = 4) : Run Try.prog false [.c c129] (retQ [.t 4] fun r' _ => wk r' = .bool (oneInst x args)) (slots0 [.agg (encInst x), .int .i64 args]) H.nil := by
  by_cases a1 : x.a < 0
  · simp -implicitDefEqProofs [encInst, oneInst, isReg, keyNone, o, a1]
  · by_cases a2 : 3 < x.a
    · simp -implicitDefEqProofs [encInst, oneInst, isReg, keyNone, o, a1, a2]
    · by_cases x1 : x.x = 0
      · by_cases b1 : x.b = 0
        · by_cases b2 : x.c = 0
          · simp -implicitDefEqProofs [encInst, o, a1, a2, x1, b1, b2]
            refine callQ_p (refMayKey_ok x.k args) (by simp [encKeyT]) ?_
            cases hk : mayKey x.k args
            · simp -implicitDefEqProofs [oneInst, isReg, keyNone, hk, o, a1, a2, x1, b1, b2]
            · simp -implicitDefEqProofs [encInst, o, a1, a2, x1, b1, b2]
              refine callQ_p (refMayKey_ok x.l args) (by simp [encKeyT]) ?_
              simp -implicitDefEqProofs [oneInst, isReg, keyNone, hk, o, a1, a2, x1, b1, b2]
          · simp -implicitDefEqProofs [encInst, oneInst, isReg, keyNone, o, a1, a2, x1, b1, b2]
        · simp -implicitDefEqProofs [encInst, oneInst, isReg, keyNone, o, a1, a2, x1, b1]
      · simp -implicitDefEqProofs [encInst, oneInst, isReg, keyNone, o, a1, a2, x1]
set_option maxRecDepth 20000 in
set_option maxHeartbeats 4000000 in
theorem refOne5 (x : Inst) (args : Int) (o : x.op = 5) : Run Try.prog false [.c c129] (retQ [.t 4] fun r' _ => wk r' = .bool (oneInst x args)) (slots0 [.agg (encInst x), .int .i64 args]) H.nil := by
  by_cases a1 : x.a < 0
  · simp -implicitDefEqProofs [encInst, oneInst, isReg, keyNone, o, a1]
  · by_cases a2 : 3 < x.a
    · simp -implicitDefEqProofs [encInst, oneInst, isReg, keyNone, o, a1, a2]
    · by_cases b1 : x.b = 0
      · by_cases b2 : x.c = 0
        · by_cases k1 : x.k.arg = 0
          · by_cases k2 : x.k.base = 0
            · by_cases l1 : x.l.arg = 0
              · by_cases l2 : x.l.base = 0
                · simp -implicitDefEqProofs [encInst, oneInst, isReg, keyNone, o, a1, a2, b1, b2, k1, k2, l1, l2]
                · simp -implicitDefEqProofs [encInst, oneInst, isReg, keyNone, o, a1, a2, b1, b2, k1, k2, l1, l2]
              · simp -implicitDefEqProofs [encInst, oneInst, isReg, keyNone, o, a1, a2, b1, b2, k1, k2, l1]
            · simp -implicitDefEqProofs [encInst, oneInst, isReg, keyNone, o, a1, a2, b1, b2, k1, k2]
          · simp -implicitDefEqProofs [encInst, oneInst, isReg, keyNone, o, a1, a2, b1, b2, k1]
        · simp -implicitDefEqProofs [encInst, oneInst, isReg, keyNone, o, a1, a2, b1, b2]
      · simp -implicitDefEqProofs [encInst, oneInst, isReg, keyNone, o, a1, a2, b1]
set_option maxRecDepth 20000 in
set_option maxHeartbeats 4000000 in
theorem refOne6 (x : Inst) (args : Int) (o : x.op = 6) : Run Try.prog false [.c c129] (retQ [.t 4] fun r' _ => wk r' = .bool (oneInst x args)) (slots0 [.agg (encInst x), .int .i64 args]) H.nil := by
  by_cases a1 : x.a < 0
  · simp -implicitDefEqProofs [encInst, oneInst, isReg, keyNone, o, a1]
  · by_cases a2 : 3 < x.a
    · simp -implicitDefEqProofs [encInst, oneInst, isReg, keyNone, o, a1, a2]
    · by_cases x1 : x.x = 0
      · by_cases k1 : x.k.arg = 0
        · by_cases k2 : x.k.base = 0
          · by_cases l1 : x.l.arg = 0
            · by_cases l2 : x.l.base = 0
              · by_cases r1 : x.b < 0
                · simp -implicitDefEqProofs [encInst, oneInst, isReg, keyNone, o, a1, a2, x1, k1, k2, l1, l2, r1]
                · by_cases r2 : 3 < x.b
                  · simp -implicitDefEqProofs [encInst, oneInst, isReg, keyNone, o, a1, a2, x1, k1, k2, l1, l2, r1, r2]
                  · by_cases r3 : x.c < 0
                    · simp -implicitDefEqProofs [encInst, oneInst, isReg, keyNone, o, a1, a2, x1, k1, k2, l1, l2, r1, r2, r3]
                    · by_cases r4 : 3 < x.c
                      · simp -implicitDefEqProofs [encInst, oneInst, isReg, keyNone, o, a1, a2, x1, k1, k2, l1, l2, r1, r2, r3, r4]
                      · simp -implicitDefEqProofs [encInst, oneInst, isReg, keyNone, o, a1, a2, x1, k1, k2, l1, l2, r1, r2, r3, r4]
              · simp -implicitDefEqProofs [encInst, oneInst, isReg, keyNone, o, a1, a2, x1, k1, k2, l1, l2]
            · simp -implicitDefEqProofs [encInst, oneInst, isReg, keyNone, o, a1, a2, x1, k1, k2, l1]
          · simp -implicitDefEqProofs [encInst, oneInst, isReg, keyNone, o, a1, a2, x1, k1, k2]
        · simp -implicitDefEqProofs [encInst, oneInst, isReg, keyNone, o, a1, a2, x1, k1]
      · simp -implicitDefEqProofs [encInst, oneInst, isReg, keyNone, o, a1, a2, x1]
set_option maxRecDepth 20000 in
set_option maxHeartbeats 4000000 in
theorem refOne7 (x : Inst) (args : Int) (o : x.op = 7) : Run Try.prog false [.c c129] (retQ [.t 4] fun r' _ => wk r' = .bool (oneInst x args)) (slots0 [.agg (encInst x), .int .i64 args]) H.nil := by
  by_cases a1 : x.a < 0
  · simp -implicitDefEqProofs [encInst, oneInst, isReg, keyNone, o, a1]
  · by_cases a2 : 3 < x.a
    · simp -implicitDefEqProofs [encInst, oneInst, isReg, keyNone, o, a1, a2]
    · by_cases x1 : x.x = 0
      · by_cases k1 : x.k.arg = 0
        · by_cases k2 : x.k.base = 0
          · by_cases l1 : x.l.arg = 0
            · by_cases l2 : x.l.base = 0
              · by_cases r1 : x.b < 0
                · simp -implicitDefEqProofs [encInst, oneInst, isReg, keyNone, o, a1, a2, x1, k1, k2, l1, l2, r1]
                · by_cases r2 : 3 < x.b
                  · simp -implicitDefEqProofs [encInst, oneInst, isReg, keyNone, o, a1, a2, x1, k1, k2, l1, l2, r1, r2]
                  · by_cases r3 : x.c < 0
                    · simp -implicitDefEqProofs [encInst, oneInst, isReg, keyNone, o, a1, a2, x1, k1, k2, l1, l2, r1, r2, r3]
                    · by_cases r4 : 3 < x.c
                      · simp -implicitDefEqProofs [encInst, oneInst, isReg, keyNone, o, a1, a2, x1, k1, k2, l1, l2, r1, r2, r3, r4]
                      · simp -implicitDefEqProofs [encInst, oneInst, isReg, keyNone, o, a1, a2, x1, k1, k2, l1, l2, r1, r2, r3, r4]
              · simp -implicitDefEqProofs [encInst, oneInst, isReg, keyNone, o, a1, a2, x1, k1, k2, l1, l2]
            · simp -implicitDefEqProofs [encInst, oneInst, isReg, keyNone, o, a1, a2, x1, k1, k2, l1]
          · simp -implicitDefEqProofs [encInst, oneInst, isReg, keyNone, o, a1, a2, x1, k1, k2]
        · simp -implicitDefEqProofs [encInst, oneInst, isReg, keyNone, o, a1, a2, x1, k1]
      · simp -implicitDefEqProofs [encInst, oneInst, isReg, keyNone, o, a1, a2, x1]
set_option maxRecDepth 20000 in
set_option maxHeartbeats 4000000 in
theorem refOne8 (x : Inst) (args : Int) (o : x.op = 8) : Run Try.prog false [.c c129] (retQ [.t 4] fun r' _ => wk r' = .bool (oneInst x args)) (slots0 [.agg (encInst x), .int .i64 args]) H.nil := by
  by_cases a1 : x.a < 0
  · simp -implicitDefEqProofs [encInst, oneInst, isReg, keyNone, o, a1]
  · by_cases a2 : 3 < x.a
    · simp -implicitDefEqProofs [encInst, oneInst, isReg, keyNone, o, a1, a2]
    · by_cases b1 : x.b = 0
      · by_cases b2 : x.c = 0
        · by_cases k1 : x.k.arg = 0
          · by_cases k2 : x.k.base = 0
            · by_cases l1 : x.l.arg = 0
              · by_cases l2 : x.l.base = 0
                · simp -implicitDefEqProofs [encInst, oneInst, isReg, keyNone, o, a1, a2, b1, b2, k1, k2, l1, l2]
                · simp -implicitDefEqProofs [encInst, oneInst, isReg, keyNone, o, a1, a2, b1, b2, k1, k2, l1, l2]
              · simp -implicitDefEqProofs [encInst, oneInst, isReg, keyNone, o, a1, a2, b1, b2, k1, k2, l1]
            · simp -implicitDefEqProofs [encInst, oneInst, isReg, keyNone, o, a1, a2, b1, b2, k1, k2]
          · simp -implicitDefEqProofs [encInst, oneInst, isReg, keyNone, o, a1, a2, b1, b2, k1]
        · simp -implicitDefEqProofs [encInst, oneInst, isReg, keyNone, o, a1, a2, b1, b2]
      · simp -implicitDefEqProofs [encInst, oneInst, isReg, keyNone, o, a1, a2, b1]

theorem refOne_ok (x : Inst) (args : Int) : PCall Try.prog 129 [.agg (encInst x), .int .i64 args] (.bool (oneInst x args)) := by
  refine PCall.run hb129 ok129 (by simp) (pures_cons (pureInst x) (pures1 (.int _ _))) (.bool _) ?_
  by_cases o1 : x.op = 1
  · exact refOne1 x args o1
  by_cases o2 : x.op = 2
  · exact refOne2 x args o2
  by_cases o3 : x.op = 3
  · exact refOne3 x args o3
  by_cases o4 : x.op = 4
  · exact refOne4 x args o4
  by_cases o5 : x.op = 5
  · exact refOne5 x args o5
  by_cases o6 : x.op = 6
  · exact refOne6 x args o6
  by_cases o7 : x.op = 7
  · exact refOne7 x args o7
  by_cases o8 : x.op = 8
  · exact refOne8 x args o8
  have hf : oneInst x args = false := by simp [oneInst, o1, o2, o3, o4, o5, o6, o7, o8]
  by_cases u1 : x.op < 1
  · simp -implicitDefEqProofs [encInst, u1, hf]
  · have u2 : 8 < x.op := by omega
    simp -implicitDefEqProofs [encInst, u1, u2, hf]
end Go.Proofs

/- Which programs, footprints, classes and catalogues there may be: the document's answer. -/
namespace Go.Proofs
open Go Go.RowKit Go.Am

theorem elOK_Inst : ElOK encInst 9 true := ⟨fun _ => rfl, (fun h => by cases h), pure_encInst, wk_encInst⟩
theorem elOK_SpanT : ElOK encSpanT 5 true := ⟨fun _ => rfl, (fun h => by cases h), pure_encSpanT, wk_encSpanT⟩
theorem elOK_Stp : ElOK encStp 2 true := ⟨fun _ => rfl, (fun h => by cases h), pure_encStp, wk_encStp⟩
theorem elOK_Cls : ElOK encCls 5 true := ⟨fun _ => rfl, (fun h => by cases h), pure_encCls, wk_encCls⟩
theorem elOK_Spn : ElOK encSpn 2 true := ⟨fun _ => rfl, (fun h => by cases h), pure_encSpn, wk_encSpn⟩
theorem elOK_Nod : ElOK encNod 6 true := ⟨fun _ => rfl, (fun h => by cases h), pure_encNod, wk_encNod⟩
theorem elOK_Chg : ElOK encChg 3 true := ⟨fun _ => rfl, (fun h => by cases h), pure_encChg, wk_encChg⟩
theorem elOK_KeyT : ElOK encKeyT 2 true := ⟨fun _ => rfl, (fun h => by cases h), pure_encKeyT, wk_encKeyT⟩

def progMay (l : List Inst) (args : Int) : Bool := !decide (args < 0) && !decide (3 < args) && !decide (l.length < 1) && !decide (8 < l.length) && l.all fun x => oneInst x args
def footMay (l : List SpanT) (args : Int) : Bool := !decide (args < 0) && !decide (3 < args) && !decide (4 < l.length) && l.all fun s => mayKey s.lo args && mayKey s.hi args

theorem all_take_false {α : Type} {p : α → Bool} {l : List α} {j : Nat} (hj : j < l.length) (h : p l[j] = false) : l.all p = false := by
  rw [List.all_eq_false]
  exact ⟨l[j], List.getElem_mem hj, by simp [h]⟩
theorem all_whole {α : Type} {p : α → Bool} {l : List α} {j : Nat} (hj : l.length ≤ j) (h : ∀ i (hi : i < l.length), i < j → p l[i] = true) : l.all p = true := by
  rw [List.all_eq_true]
  intro x hx
  obtain ⟨i, hi, rfl⟩ := List.mem_iff_getElem.1 hx
  exact h i hi (by omega)

theorem refProgMay_ok (l : List Inst) (args : Int) (hl : l.length ≤ 9223372036854775807) : PCall Try.prog 93 [.sl .no (l.map encInst), .int .i64 args] (.bool (progMay l args)) := by
  refine PCall.run hb93 ok93 (by simp) (pures_cons (elOK_Inst.pureL l) (pures1 (.int _ _))) (.bool _) ?_
  by_cases bad : ((args < 0 ∨ 3 < args) ∨ (l.length : Int) < 1) ∨ (8 : Int) < (l.length : Int)
  · have hf : progMay l args = false := by
      simp only [progMay, Bool.and_eq_false_iff, Bool.not_eq_false', decide_eq_true_eq]
      omega
    simp (maxSteps := 2000000) +contextual -implicitDefEqProofs [↓gdL_T, ↓gdL_F, ↓condQ_b, -Int.not_lt, -Int.not_le, -Nat.not_lt, -Nat.not_le, hf]
    all_goals (intros; omega)
  · have hm : progMay l args = l.all fun x => oneInst x args := by
      simp only [progMay, show ¬ args < 0 by omega, show ¬ 3 < args by omega, show ¬ l.length < 1 by omega, show ¬ 8 < l.length by omega]
      simp
    simp (maxSteps := 2000000) +contextual -implicitDefEqProofs [↓gdL_T, ↓gdL_F, ↓condQ_b, -Int.not_lt, -Int.not_le, -Nat.not_lt, -Nat.not_le, show ¬ args < 0 by omega, show ¬ 3 < args by omega, show ¬ (l.length : Int) < 1 by omega, show ¬ (8 : Int) < (l.length : Int) by omega, hm]
    refine run_loop (fun n s h => ∃ j : Nat, n = l.length - j ∧ j ≤ l.length ∧ s 0 = .sl .no (l.map encInst) ∧ s 1 = .int .i64 args ∧ s 5 = .int .i64 j ∧ ∀ i (hi : i < l.length), i < j → oneInst l[i] args = true) ?_ l.length ?_
    · rintro n s h ⟨j, hn, hj, h0, h1, h5, hall⟩ ih
      by_cases hlt : j < l.length
      · simp -implicitDefEqProofs [h0, h1, h5, hlt, idxOf_nat hlt, elOK_Inst.un, -unCells]
        refine callQ_p (refOne_ok l[j] args) (by simp [elV]) ?_
        cases hp : oneInst l[j] args
        · simp -implicitDefEqProofs [all_take_false (p := fun x => oneInst x args) hlt hp]
        · simp -implicitDefEqProofs [h5, inc_i64 hlt hl, -Int.natCast_add]
          exact ih (l.length - (j + 1)) _ _ (by omega) ⟨j + 1, rfl, by omega, by simp [h0], by simp [h1], by simp, fun i hi hij => by
            by_cases h : i = j
            · subst h; exact hp
            · exact hall i hi (by omega)⟩
      · simp -implicitDefEqProofs [h0, h1, h5, hlt, all_whole (p := fun x => oneInst x args) (by omega) hall]
    · exact ⟨0, by simp⟩

theorem refFootMay_ok (l : List SpanT) (args : Int) (hl : l.length ≤ 9223372036854775807) : PCall Try.prog 94 [.sl .no (l.map encSpanT), .int .i64 args] (.bool (footMay l args)) := by
  refine PCall.run hb94 ok94 (by simp) (pures_cons (elOK_SpanT.pureL l) (pures1 (.int _ _))) (.bool _) ?_
  by_cases bad : (args < 0 ∨ 3 < args) ∨ (4 : Int) < (l.length : Int)
  · have hf : footMay l args = false := by
      simp only [footMay, Bool.and_eq_false_iff, Bool.not_eq_false', decide_eq_true_eq]
      omega
    simp (maxSteps := 2000000) +contextual -implicitDefEqProofs [↓gdL_T, ↓gdL_F, ↓condQ_b, -Int.not_lt, -Int.not_le, -Nat.not_lt, -Nat.not_le, hf]
    all_goals (intros; omega)
  · have hm : footMay l args = l.all fun s => mayKey s.lo args && mayKey s.hi args := by
      simp only [footMay, show ¬ args < 0 by omega, show ¬ 3 < args by omega, show ¬ 4 < l.length by omega]
      simp
    simp (maxSteps := 2000000) +contextual -implicitDefEqProofs [↓gdL_T, ↓gdL_F, ↓condQ_b, -Int.not_lt, -Int.not_le, -Nat.not_lt, -Nat.not_le, show ¬ args < 0 by omega, show ¬ 3 < args by omega, show ¬ (4 : Int) < (l.length : Int) by omega, hm]
    refine run_loop (fun n s h => ∃ j : Nat, n = l.length - j ∧ j ≤ l.length ∧ s 0 = .sl .no (l.map encSpanT) ∧ s 1 = .int .i64 args ∧ s 5 = .int .i64 j ∧ ∀ i (hi : i < l.length), i < j → (mayKey l[i].lo args && mayKey l[i].hi args) = true) ?_ l.length ?_
    · rintro n s h ⟨j, hn, hj, h0, h1, h5, hall⟩ ih
      by_cases hlt : j < l.length
      · simp -implicitDefEqProofs [h0, h1, h5, hlt, idxOf_nat hlt, encSpanT]
        refine callQ_p (refMayKey_ok l[j].lo args) (by simp [encKeyT]) ?_
        cases hp : mayKey l[j].lo args
        · simp -implicitDefEqProofs [all_take_false (p := fun s => mayKey s.lo args && mayKey s.hi args) hlt (by simp [hp])]
        · simp -implicitDefEqProofs [h0, h1, h5, hlt, idxOf_nat hlt, encSpanT]
          refine callQ_p (refMayKey_ok l[j].hi args) (by simp [encKeyT]) ?_
          cases hq : mayKey l[j].hi args
          · simp -implicitDefEqProofs [all_take_false (p := fun s => mayKey s.lo args && mayKey s.hi args) hlt (by simp [hp, hq])]
          · simp -implicitDefEqProofs [h5, inc_i64 hlt hl, -Int.natCast_add]
            exact ih (l.length - (j + 1)) _ _ (by omega) ⟨j + 1, rfl, by omega, by simp [h0], by simp [h1], by simp, fun i hi hij => by
              by_cases h : i = j
              · subst h; simp [hp, hq]
              · exact hall i hi (by omega)⟩
      · have hw := all_whole (p := fun s : SpanT => mayKey s.lo args && mayKey s.hi args) (by omega) hall
        simp -implicitDefEqProofs [h0, h1, h5, hlt, hw]
    · exact ⟨0, by simp⟩
end Go.Proofs

/- Which classes and catalogues there may be: the document's answer. -/
namespace Go.Proofs
open Go Go.RowKit Go.Am

def backMay (c : Stp) (args : Int) : Bool := (!decide (0 < c.code.length) || progMay c.code args) && c.code.all fun x => decide (x.op < 6)
def stepMay (args : Int) (p : Stp × Stp) : Bool := progMay p.1.code args && footMay p.1.foot args && footMay p.2.foot args && backMay p.2 args
def clsMay (x : Cls) : Bool :=
  !decide (x.name.size < 1) && !decide (16 < x.name.size) && !decide (x.args < 0) && !decide (3 < x.args) && !decide (x.steps.length < 1) && !decide (4 < x.steps.length) && decide (x.comps.length = x.steps.length) &&
    (x.steps.zip x.comps).all (stepMay x.args)

theorem refClsMay_ok (x : Cls) (hx : x.wf) : PCall Try.prog 49 [.agg (encCls x)] (.bool (clsMay x)) := by
  refine PCall.run hb49 ok49 (by simp) (pures1 (.agg (pure_encCls x))) (.bool _) ?_
  obtain ⟨hwn, hwa, ⟨hsl, hsw⟩, hcl, hcw⟩ := hx
  by_cases bad : x.name.size < 1 ∨ 16 < x.name.size ∨ x.args < 0 ∨ 3 < x.args ∨ x.steps.length < 1 ∨ 4 < x.steps.length ∨ x.comps.length ≠ x.steps.length
  · have hf : clsMay x = false := by
      simp only [clsMay, Bool.and_eq_false_iff, Bool.not_eq_false', decide_eq_true_eq, decide_eq_false_iff_not]
      omega
    simp (maxSteps := 2000000) +contextual -implicitDefEqProofs [↓gdL_T, ↓gdL_F, ↓condQ_b, -Int.not_lt, -Int.not_le, -Nat.not_lt, -Nat.not_le, hf, encCls]
    all_goals (intros; omega)
  · have hm : clsMay x = (x.steps.zip x.comps).all (stepMay x.args) := by
      simp only [clsMay, show ¬ x.name.size < 1 by omega, show ¬ 16 < x.name.size by omega, show ¬ x.args < 0 by omega, show ¬ 3 < x.args by omega, show ¬ x.steps.length < 1 by omega, show ¬ 4 < x.steps.length by omega, show x.comps.length = x.steps.length by omega]
      simp
    have hcs : x.comps.length = x.steps.length := by omega
    have hzl : (x.steps.zip x.comps).length = x.steps.length := by simp [hcs]
    have e1 : ¬ (x.name.size : Int) < 1 := by omega
    have e2 : ¬ (16 : Int) < (x.name.size : Int) := by omega
    have e5 : ¬ (x.steps.length : Int) < 1 := by omega
    have e6 : ¬ (4 : Int) < (x.steps.length : Int) := by omega
    simp -implicitDefEqProofs [encCls, e1, e2, show ¬ x.args < 0 by omega, show ¬ 3 < x.args by omega, e5, e6, hcs, hm]
    refine run_loop (fun n s h => ∃ j : Nat, n = x.steps.length - j ∧ j ≤ x.steps.length ∧ s 1 = .ptr 0 0 ∧ 0 < h.bn ∧ h.bx 0 = some [.str x.name, .int .i64 x.args, .sl .no (x.steps.map encStp), .sl .no (x.comps.map encStp), .bool x.resume] ∧ s 3 = .int .i64 x.steps.length ∧ s 4 = .int .i64 j ∧ ∀ i (hi : i < (x.steps.zip x.comps).length), i < j → stepMay x.args (x.steps.zip x.comps)[i] = true) ?_ x.steps.length ?_
    · rintro n s h ⟨j, hn, hj, h1, h0, hb, h3, h4, hall⟩ ih
      by_cases hlt : j < x.steps.length
      · have hlt2 : j < x.comps.length := by omega
        have hlz : j < (x.steps.zip x.comps).length := by omega
        have hws := hsw _ (List.getElem_mem hlt)
        have hwc := hcw _ (List.getElem_mem hlt2)
        have hno : stepMay x.args (x.steps.zip x.comps)[j] = false → (x.steps.zip x.comps).all (stepMay x.args) = false := all_take_false hlz
        rw [List.getElem_zip] at hno
        simp -implicitDefEqProofs [h1, h0, hb, h3, h4, hlt]
        refine run_dregL c49_d7 rfl ?_
        simp -implicitDefEqProofs [h1, h0, hb, h3, h4, hlt, hlt2, idxOf_nat hlt, idxOf_nat hlt2, encStp]
        refine callC_p (refProgMay_ok x.steps[j].code x.args hws.1.1) (by simp) ?_
        cases hp : progMay x.steps[j].code x.args
        · have := hno (by simp [stepMay, hp])
          simp -implicitDefEqProofs [this]
        simp -implicitDefEqProofs [h1, h0, hb, h3, h4, hlt, hlt2, idxOf_nat hlt, idxOf_nat hlt2, encStp]
        refine callC_p (refFootMay_ok x.steps[j].foot x.args hws.2.1) (by simp) ?_
        cases hq : footMay x.steps[j].foot x.args
        · have := hno (by simp [stepMay, hp, hq])
          simp -implicitDefEqProofs [this]
        simp -implicitDefEqProofs [h1, h0, hb, h3, h4, hlt, hlt2, idxOf_nat hlt, idxOf_nat hlt2, encStp]
        refine callC_p (refFootMay_ok x.comps[j].foot x.args hwc.2.1) (by simp) ?_
        cases hr : footMay x.comps[j].foot x.args
        · have := hno (by simp [stepMay, hp, hq, hr])
          simp -implicitDefEqProofs [this]
        simp -implicitDefEqProofs [h1, h0, hb, h3, h4, hlt, hlt2, idxOf_nat hlt, idxOf_nat hlt2, encStp]
        have hb2 : backMay x.comps[j] x.args = false → (x.steps.zip x.comps).all (stepMay x.args) = false := fun h => hno (by simp [stepMay, h])
        have hb3 : backMay x.comps[j] x.args = true → stepMay x.args (x.steps[j], x.comps[j]) = true := fun h => by simp [stepMay, hp, hq, hr, h]
        clear hno
        have hend : ∀ i (hi : i < (x.steps.zip x.comps).length), backMay x.comps[j] x.args = true → i < j + 1 → stepMay x.args (x.steps.zip x.comps)[i] = true := fun i hi hbm hij => by
          by_cases h : i = j
          · subst h; rw [List.getElem_zip]; exact hb3 hbm
          · exact hall i hi (by omega)
        by_cases hc : 0 < x.comps[j].code.length
        focus
          simp -implicitDefEqProofs [hc, h1, h0, hb]
          refine callQ_p (refProgMay_ok x.comps[j].code x.args hwc.1.1) (by simp) ?_
          cases hs : progMay x.comps[j].code x.args
          · have := hb2 (by simp [backMay, hc, hs])
            simp -implicitDefEqProofs [this, hc]
          simp -implicitDefEqProofs [hc]
          have hcode : (!decide (0 < x.comps[j].code.length) || progMay x.comps[j].code x.args) = true := by simp [hs]
        rotate_left
        focus
          simp -implicitDefEqProofs [hc]
          have hcode : (!decide (0 < x.comps[j].code.length) || progMay x.comps[j].code x.args) = true := by simp [hc]
        all_goals
          have hbm : backMay x.comps[j] x.args = x.comps[j].code.all fun x => decide (x.op < 6) := by simp [backMay, hcode]
          refine run_loop (fun n s h => ∃ k : Nat, n = x.comps[j].code.length - k ∧ k ≤ x.comps[j].code.length ∧ s 1 = .ptr 0 0 ∧ 0 < h.bn ∧ h.bx 0 = some [.str x.name, .int .i64 x.args, .sl .no (x.steps.map encStp), .sl .no (x.comps.map encStp), .bool x.resume] ∧ s 3 = .int .i64 x.steps.length ∧ s 4 = .int .i64 j ∧ s 5 = .sl .no (x.comps[j].code.map encInst) ∧ s 6 = .int .i64 k ∧ ∀ i (hi : i < x.comps[j].code.length), i < k → decide (x.comps[j].code[i].op < 6) = true) ?_ x.comps[j].code.length ?_
          · rintro n s h ⟨k, hn, hk, h1, h0, hb, h3, h4, h5, h6, hal⟩ ih2
            by_cases hlk : k < x.comps[j].code.length
            · by_cases ho : x.comps[j].code[k].op < 6
              · simp -implicitDefEqProofs [h1, h0, hb, h3, h4, h5, h6, hlk, idxOf_nat hlk, encInst, show ¬ 6 ≤ x.comps[j].code[k].op by omega, inc_i64 hlk hwc.1.1, -Int.natCast_add]
                exact ih2 (x.comps[j].code.length - (k + 1)) _ _ (by omega) ⟨k + 1, rfl, by omega, by simp [h1], by simpa using h0, by simp [hb], by simp [h3], by simp [h4], by simp [h5, encInst], by simp, fun i hi hij => by
                  by_cases h : i = k
                  · subst h; simpa using ho
                  · exact hal i hi (by omega)⟩
              · have := hb2 (hbm ▸ all_take_false (p := fun x : Inst => decide (x.op < 6)) hlk (by simpa using ho))
                simp -implicitDefEqProofs [h1, h0, hb, h3, h4, h5, h6, hlk, idxOf_nat hlk, encInst, show 6 ≤ x.comps[j].code[k].op by omega, this]
            · have hbt := hbm.trans (all_whole (p := fun x : Inst => decide (x.op < 6)) (by omega) hal)
              simp -implicitDefEqProofs [h1, h0, hb, h3, h4, h5, h6, hlk, inc_i64 hlt hsl, -Int.natCast_add]
              exact ih (x.steps.length - (j + 1)) _ _ (by omega) ⟨j + 1, rfl, by omega, by simp [h1], by simpa using h0, by simp [hb], by simp [h3], by simp, fun i hi hij => hend i hi hbt hij⟩
          · exact ⟨0, by simp [h1, h0, hb, h3, h4]⟩
      · have hw := all_whole (p := stepMay x.args) (by omega) hall
        simp -implicitDefEqProofs [h1, h0, hb, h3, h4, hlt, hw]
    · exact ⟨0, by simp [H.nil]⟩
end Go.Proofs

/- Which catalogues there may be: the document's answer. -/
namespace Go.Proofs
open Go Go.RowKit Go.Am

def Ctlg.nameAt (x : Ctlg) (i : Nat) : ByteArray := (x.classes[i]?.map (·.name)).getD ByteArray.empty
def Ctlg.stepsN (x : Ctlg) (i : Nat) : Nat := (x.classes[i]?.map (·.steps.length)).getD 0
def Ctlg.brk (x : Ctlg) (c d : Nat) : Int := (x.breaks[4 * c + d]?).getD 0
def Ctlg.mostB (x : Ctlg) (c d : Nat) : Int := if c < x.classes.length ∧ d < x.classes.length then 2 ^ (x.stepsN c - 1) else 1
def Ctlg.brkOK (x : Ctlg) (c d : Nat) : Bool := !decide (x.brk c d < 0) && !decide (x.mostB c d ≤ x.brk c d)
def Ctlg.namesOK (x : Ctlg) (i : Nat) : Bool := (List.range i).all fun j => !decide (x.nameAt j = x.nameAt i)
def Ctlg.clsOK (x : Ctlg) (i : Nat) : Bool := (x.classes[i]?.map clsMay).getD false
def catMay (x : Ctlg) : Bool :=
  !decide (x.classes.length < 1) && !decide (4 < x.classes.length) && ((List.range x.classes.length).all fun i => x.clsOK i && x.namesOK i) && (List.range 4).all fun c => (List.range 4).all (x.brkOK c)

theorem allR_false {p : Nat → Bool} {n j : Nat} (hj : j < n) (h : p j = false) : (List.range n).all p = false := by
  rw [List.all_eq_false]
  exact ⟨j, List.mem_range.2 hj, by simp [h]⟩
theorem allR_true {p : Nat → Bool} {n j : Nat} (hj : n ≤ j) (h : ∀ i, i < j → p i = true) : (List.range n).all p = true := by
  rw [List.all_eq_true]
  intro x hx
  exact h x (by have := List.mem_range.1 hx; omega)
@[simp] theorem take_encCls (y : Cls) : List.take 5 (encCls y) = encCls y := rfl
theorem Ctlg.brk_of {x : Ctlg} {c d : Nat} (hb : x.breaks.length = 16) (hc : c < 4) (hd : d < 4) : x.brk c d = x.breaks[4 * c + d] := by simp [brk, show 4 * c + d < x.breaks.length by omega]
theorem Ctlg.brk_load {x : Ctlg} (v : AV) {c d : Nat} (hb : x.breaks.length = 16) (hc : c < 4) (hd : d < 4) : List.take 1 (List.drop (1 + c * 4 + d) (v :: x.breaks.map (AV.int .i64))) = [.int .i64 (x.brk c d)] := by
  rw [show 1 + c * 4 + d = (4 * c + d) + 1 by omega, List.drop_succ_cons, brk_of hb hc hd, List.drop_eq_getElem_cons (by simp; omega)]
  simp
theorem Ctlg.nameAt_of {x : Ctlg} {i : Nat} (h : i < x.classes.length) : x.nameAt i = x.classes[i].name := by simp [nameAt, h]
theorem Ctlg.stepsN_of {x : Ctlg} {i : Nat} (h : i < x.classes.length) : x.stepsN i = x.classes[i].steps.length := by simp [stepsN, h]
theorem Ctlg.clsOK_of {x : Ctlg} {i : Nat} (h : i < x.classes.length) : x.clsOK i = clsMay x.classes[i] := by simp [clsOK, h]

set_option maxHeartbeats 1000000 in
theorem refCatMay_ok (x : Ctlg) (hx : x.wf) : PCall Try.prog 21 [.agg (encCtlg x)] (.bool (catMay x)) := by
  refine PCall.run hb21 ok21 (by simp) (pures1 (.agg (pure_encCtlg x))) (.bool _) ?_
  obtain ⟨⟨hcl, hcw⟩, hbl, hbw⟩ := hx
  by_cases bad : x.classes.length < 1 ∨ 4 < x.classes.length
  · have hf : catMay x = false := by
      simp only [catMay, Bool.and_eq_false_iff, Bool.not_eq_false', decide_eq_true_eq, decide_eq_false_iff_not]
      omega
    simp (maxSteps := 2000000) +contextual -implicitDefEqProofs [↓gdL_T, ↓gdL_F, ↓condQ_b, -Int.not_lt, -Int.not_le, -Nat.not_lt, -Nat.not_le, hf, encCtlg]
    all_goals (intros; omega)
  · have hm : catMay x = (((List.range x.classes.length).all fun i => x.clsOK i && x.namesOK i) && (List.range 4).all fun c => (List.range 4).all (x.brkOK c)) := by
      simp only [catMay, show ¬ x.classes.length < 1 by omega, show ¬ 4 < x.classes.length by omega]
      simp
    have e5 : ¬ (x.classes.length : Int) < 1 := by omega
    have e6 : ¬ (4 : Int) < (x.classes.length : Int) := by omega
    simp -implicitDefEqProofs [encCtlg, e5, e6, hm]
    refine run_loop (fun n s h => ∃ j : Nat, n = x.classes.length - j ∧ j ≤ x.classes.length ∧ s 1 = .ptr 0 0 ∧ 0 < h.bn ∧ h.bx 0 = some ([.sl .no (x.classes.map encCls)] ++ x.breaks.map (AV.int .i64)) ∧ s 3 = .int .i64 x.classes.length ∧ s 4 = .int .i64 j ∧ ∀ i, i < j → (x.clsOK i && x.namesOK i) = true) ?_ x.classes.length ?_
    · rintro n s h ⟨j, hn, hj, h1, h0, hb, h3, h4, hall⟩ ih
      by_cases hlt : j < x.classes.length
      · have hno : (x.clsOK j && x.namesOK j) = false → ((List.range x.classes.length).all fun i => x.clsOK i && x.namesOK i) = false := allR_false (p := fun i => x.clsOK i && x.namesOK i) hlt
        simp -implicitDefEqProofs [h1, h0, hb, h3, h4, hlt, idxOf_nat hlt]
        refine callQ_p (refClsMay_ok x.classes[j] (hcw _ (List.getElem_mem hlt))) (by simp) ?_
        cases hp : clsMay x.classes[j]
        · have := hno (by simp [Ctlg.clsOK_of hlt, hp])
          simp -implicitDefEqProofs [this]
        simp -implicitDefEqProofs [h1, h0, hb, h3, h4]
        refine run_loop (fun n s h => ∃ k : Nat, n = j - k ∧ k ≤ j ∧ s 1 = .ptr 0 0 ∧ 0 < h.bn ∧ h.bx 0 = some ([.sl .no (x.classes.map encCls)] ++ x.breaks.map (AV.int .i64)) ∧ s 3 = .int .i64 x.classes.length ∧ s 4 = .int .i64 j ∧ s 5 = .int .i64 k ∧ ∀ i, i < k → (!decide (x.nameAt i = x.nameAt j)) = true) ?_ j ?_
        · rintro n s h ⟨k, hn, hk, h1, h0, hb, h3, h4, h5, hal⟩ ih2
          by_cases hlk : k < j
          · have hlk2 : k < x.classes.length := by omega
            simp -implicitDefEqProofs [h1, h0, hb, h3, h4, h5, hlk]
            refine run_dregL c21_d11 rfl ?_
            simp -implicitDefEqProofs [h1, h0, hb, h3, h4, h5, hlk, hlk2, hlt, idxOf_nat hlk2, idxOf_nat hlt, encCls]
            by_cases he : x.classes[k].name = x.classes[j].name
            · have := hno (by
                rw [allR_false (n := j) hlk (p := fun k => !decide (x.nameAt k = x.nameAt j)) (by simp [Ctlg.nameAt_of hlk2, Ctlg.nameAt_of hlt, he]) |> (show x.namesOK j = false from ·)]
                simp)
              simp -implicitDefEqProofs [he, this]
            · simp -implicitDefEqProofs [he, h5, inc_i64 hlk (by omega), -Int.natCast_add]
              exact ih2 (j - (k + 1)) _ _ (by omega) ⟨k + 1, rfl, by omega, by simp [h1], by simpa using h0, by simp [hb], by simp [h3], by simp [h4], by simp, fun i hij => by
                by_cases h : i = k
                · subst h; simpa [Ctlg.nameAt_of hlk2, Ctlg.nameAt_of hlt] using he
                · exact hal i (by omega)⟩
          · have hn : x.namesOK j = true := allR_true (by omega) hal
            simp -implicitDefEqProofs [h1, h0, hb, h3, h4, h5, hlk, inc_i64 hlt hcl, -Int.natCast_add]
            exact ih (x.classes.length - (j + 1)) _ _ (by omega) ⟨j + 1, rfl, by omega, by simp [h1], by simpa using h0, by simp [hb], by simp [h3], by simp, fun i hij => by
              by_cases h : i = j
              · subst h; simp [Ctlg.clsOK_of hlt, hp, hn]
              · exact hall i (by omega)⟩
        · exact ⟨0, by simp [h1, h0, hb, h3, h4]⟩
      · have hw : ((List.range x.classes.length).all fun i => x.clsOK i && x.namesOK i) = true := allR_true (by omega) hall
        have hst : ∀ c, c < x.classes.length → x.stepsN c ≤ 4 := fun c hc => by
          have h := hall c (by omega)
          rw [Bool.and_eq_true, Ctlg.clsOK_of hc] at h
          have h := h.1
          simp only [clsMay, Bool.and_eq_true, Bool.not_eq_true', decide_eq_false_iff_not] at h
          rw [Ctlg.stepsN_of hc]
          omega
        simp -implicitDefEqProofs [h1, h0, hb, h3, h4, hlt, hw]
        clear ih hall hw hm
        refine run_loop (fun n s h => ∃ c : Nat, n = 4 - c ∧ c ≤ 4 ∧ s 1 = .ptr 0 0 ∧ 0 < h.bn ∧ h.bx 0 = some ([.sl .no (x.classes.map encCls)] ++ x.breaks.map (AV.int .i64)) ∧ s 3 = .int .i64 x.classes.length ∧ s 6 = .int .i64 c ∧ ∀ i, i < c → (List.range 4).all (x.brkOK i) = true) ?_ 4 ?_
        · rintro n s h ⟨c, hn, hc, h1, h0, hb, h3, h6, hal⟩ ih
          by_cases hlc : c < 4
          · have hno : (List.range 4).all (x.brkOK c) = false → ((List.range 4).all fun c => (List.range 4).all (x.brkOK c)) = false := allR_false (p := fun c => (List.range 4).all (x.brkOK c)) hlc
            simp -implicitDefEqProofs [h1, h0, hb, h3, h6, show (c : Int) < 4 by omega]
            refine run_loop (fun n s h => ∃ d : Nat, n = 4 - d ∧ d ≤ 4 ∧ s 1 = .ptr 0 0 ∧ 0 < h.bn ∧ h.bx 0 = some ([.sl .no (x.classes.map encCls)] ++ x.breaks.map (AV.int .i64)) ∧ s 3 = .int .i64 x.classes.length ∧ s 6 = .int .i64 c ∧ s 7 = .int .i64 d ∧ ∀ i, i < d → x.brkOK c i = true) ?_ 4 ?_
            · rintro n s h ⟨d, hn, hd, h1, h0, hb, h3, h6, h7, hal2⟩ ih2
              by_cases hld : d < 4
              · have hno2 : x.brkOK c d = false → ((List.range 4).all fun c => (List.range 4).all (x.brkOK c)) = false := fun h => hno (allR_false hld h)
                simp -implicitDefEqProofs [h1, h0, hb, h3, h6, h7, show (d : Int) < 4 by omega]
                by_cases hb2 : c < x.classes.length ∧ d < x.classes.length
                focus
                  obtain ⟨hc2, hd2⟩ := hb2
                  have hms : x.mostB c d = 2 ^ (x.stepsN c - 1) := if_pos ⟨hc2, hd2⟩
                  have h4 := hst c hc2
                  rw [Ctlg.stepsN_of hc2] at hms h4
                  simp -implicitDefEqProofs [h1, h0, hb, h3, h6, h7, hc2, hd2]
                  refine run_loop (fun n s h => ∃ k : Nat, n = 5 - k ∧ 1 ≤ k ∧ (k = 1 ∨ k ≤ x.classes[c].steps.length) ∧ s 1 = .ptr 0 0 ∧ 0 < h.bn ∧ h.bx 0 = some ([.sl .no (x.classes.map encCls)] ++ x.breaks.map (AV.int .i64)) ∧ s 3 = .int .i64 x.classes.length ∧ s 6 = .int .i64 c ∧ s 7 = .int .i64 d ∧ s 9 = .int .i64 k ∧ s 8 = .int .i64 (2 ^ (k - 1))) ?_ 4 ?_
                  rotate_left
                  · exact ⟨1, by simp [h1, h0, hb, h3, h6, h7]⟩
                  rintro n s h ⟨k, hn, hk1, hk, h1, h0, hb, h3, h6, h7, h9, h8⟩ ih3
                  by_cases hlk : k < x.classes[c].steps.length
                  · have hk4 : k = 1 ∨ k = 2 ∨ k = 3 := by omega
                    have hw8 : IntKind.i64.wrap (2 * 2 ^ (k - 1)) = 2 ^ (k + 1 - 1) := by
                      rcases hk4 with rfl | rfl | rfl <;> decide
                    simp -implicitDefEqProofs [h1, h0, hb, h3, h6, h7, h8, h9, hc2, hlk, idxOf_nat hc2, encCls, inc_i64 hlk (by omega), -Int.natCast_add, hw8]
                    exact ih3 (5 - (k + 1)) _ _ (by omega) ⟨k + 1, rfl, by omega, by omega, by simp [h1], by simpa using h0, by simp [hb], by simp [h3], by simp [h6], by simp [h7], by simp, by simp⟩
                  have hms2 : (2 : Int) ^ (k - 1) = x.mostB c d := by
                    rw [hms]; congr 1; omega
                  rw [hms2] at h8
                  simp -implicitDefEqProofs [h1, h0, hb, h3, h6, h7, h8, h9, hc2, hlk, idxOf_nat hc2, encCls]
                rotate_left
                focus
                  have hms : x.mostB c d = 1 := if_neg hb2
                  by_cases hc2 : c < x.classes.length
                  focus
                    simp -implicitDefEqProofs [h1, h0, hb, h3, h6, h7, hms, hc2, show ¬ d < x.classes.length from fun h => hb2 ⟨hc2, h⟩]
                    rw [← hms]
                    have h8 := hc
                  rotate_left
                  focus
                    simp -implicitDefEqProofs [h1, h0, hb, h3, h6, h7, hms, hc2]
                    rw [← hms]
                    have h8 := hc
                all_goals
                  have hbk := Ctlg.brk_load (x := x) (.sl .no (x.classes.map encCls)) hbl hlc hld
                  by_cases hneg : x.brk c d < 0 ∨ x.mostB c d ≤ x.brk c d
                  · have hf : x.brkOK c d = false := by
                      simp only [Ctlg.brkOK, Bool.and_eq_false_iff, Bool.not_eq_false', decide_eq_true_eq]
                      exact hneg
                    simp (maxSteps := 2000000) +contextual -implicitDefEqProofs [↓gdL_T, ↓gdL_F, ↓condQ_b, -Int.not_lt, -Int.not_le, -Nat.not_lt, -Nat.not_le, h1, h0, hb, h3, h6, h7, h8, show (c : Int) < 4 by omega, show (d : Int) < 4 by omega, hbk, hbl, show 1 + c * 4 + d + 1 ≤ 16 + 1 by omega, hno2 hf]
                    all_goals (intros; omega)
                  · have hf : x.brkOK c d = true := by
                      simp only [Ctlg.brkOK, Bool.and_eq_true, Bool.not_eq_true', decide_eq_false_iff_not]
                      omega
                    simp -implicitDefEqProofs [h1, h0, hb, h3, h6, h7, h8, show (c : Int) < 4 by omega, show (d : Int) < 4 by omega, hbk, hbl, show 1 + c * 4 + d + 1 ≤ 16 + 1 by omega, show ¬ x.brk c d < 0 by omega, show ¬ x.mostB c d ≤ x.brk c d by omega, inc_i64 hld (show 4 ≤ _ by omega), -Int.natCast_add]
                    exact ih2 (4 - (d + 1)) _ _ (by omega) ⟨d + 1, rfl, by omega, by simp [h1], by simpa using h0, by simp [hb], by simp [h3], by simp [h6], by simp, fun i hij => by
                      by_cases h : i = d
                      · subst h; exact hf
                      · exact hal2 i (by omega)⟩
              · have hw : (List.range 4).all (x.brkOK c) = true := allR_true (by omega) hal2
                simp -implicitDefEqProofs [h1, h0, hb, h3, h6, h7, show ¬ (d : Int) < 4 by omega]
                simp -implicitDefEqProofs [inc_i64 hlc (show 4 ≤ _ by omega), -Int.natCast_add]
                exact ih (4 - (c + 1)) _ _ (by omega) ⟨c + 1, rfl, by omega, by simp [h1], by simpa using h0, by simp [hb], by simp [h3], by simp, fun i hij => by
                  by_cases h : i = c
                  · subst h; exact hw
                  · exact hal i (by omega)⟩
            · exact ⟨0, by simp [h1, h0, hb, h3, h6]⟩
          · have hw : ((List.range 4).all fun c => (List.range 4).all (x.brkOK c)) = true := allR_true (by omega) hal
            simp -implicitDefEqProofs [h1, h0, hb, h3, h6, show ¬ (c : Int) < 4 by omega, hw]
        · exact ⟨0, by simp [h1, h0, hb, h3]⟩
    · exact ⟨0, by simp [H.nil]⟩
end Go.Proofs

/- Breakpoints: the document's answer and the program's. -/
namespace Go.Proofs
open Go Go.RowKit Go.Am

def bitN (b i : Nat) : Bool := decide (b / 2 ^ i % 2 = 1)
def Ctlg.inn (x : Ctlg) (c : Int) : Bool := decide (0 ≤ c) && decide (c < (x.classes.length : Int)) && decide (c < 4)
def Ctlg.brkAt (x : Ctlg) (c d i : Int) : Bool := x.inn c && x.inn d && decide (0 ≤ i) && decide (i + 1 < (x.stepsN c.toNat : Int)) && bitN (x.brk c.toNat d.toNat).toNat i.toNat

theorem refBit_ok (b : Nat) (i : Nat) (hb : b < 9223372036854775808) (hi : i < 9223372036854775808) : PCall Try.prog 79 [.int .i64 b, .int .i64 i] (.bool (bitN b i)) := by
  refine PCall.run hb79 ok79 (by simp) (pures_cons (.int _ _) (pures1 (.int _ _))) (.bool _) ?_
  simp -implicitDefEqProofs []
  refine run_loop (fun n s h => ∃ j m : Nat, n = i - j ∧ j ≤ i ∧ m = b / 2 ^ j ∧ s 0 = .int .i64 m ∧ s 1 = .int .i64 i ∧ s 5 = .int .i64 j) ?_ i ?_
  · rintro n s h ⟨j, m, hn, hj, hm, h0, h1, h5⟩ ih
    have hd : m ≤ b := hm ▸ Nat.div_le_self _ _
    by_cases hlt : j < i
    · have hq : IntKind.i64.wrap ((m : Int).tdiv 2) = ((m / 2 : Nat) : Int) := by
        rw [Int.tdiv_eq_ediv_of_nonneg (by omega), wrap_i64] <;> omega
      have hq2 : IntKind.i64.wrap ((m : Int) / 2) = (m : Int) / 2 := by
        rw [wrap_i64] <;> omega
      simp -implicitDefEqProofs [h0, h1, h5, hlt, hq, -Int.natCast_ediv, inc_i64 hlt (by omega), -Int.natCast_add]
      exact ih (i - (j + 1)) _ _ (by omega) ⟨j + 1, m / 2, rfl, by omega, by rw [hm, Nat.div_div_eq_div_mul, Nat.pow_succ], by simp [hq2], by simp [h1], by simp⟩
    · obtain rfl : j = i := by omega
      have hr : IntKind.i64.wrap ((m : Int).tmod 2) = ((m % 2 : Nat) : Int) := by
        rw [Int.tmod_eq_emod_of_nonneg (by omega), wrap_i64] <;> omega
      have hr2 : (m : Int).tmod 2 = ((m % 2 : Nat) : Int) := by
        rw [Int.tmod_eq_emod_of_nonneg (by omega)]; omega
      have he : ((m % 2 : Nat) : Int) = 1 ↔ m % 2 = 1 := by omega
      simp -implicitDefEqProofs [h0, h1, h5, hr, hr2, he, -Int.natCast_emod]
      simp [bitN, hm]
  · exact ⟨0, b, by simp⟩

theorem Ctlg.take16 (x : Ctlg) (hb : x.breaks.length = 16) : List.take 16 (x.breaks.map (AV.int .i64)) = x.breaks.map (AV.int .i64) := List.take_of_length_le (by simp [hb])

theorem refBreak_ok (x : Ctlg) (hx : x.wf) (hp : ∀ c d, 0 ≤ x.brk c d) {c d i : Int} (hc : inI c) (hd : inI d) (hi : inI i) : PCall Try.prog 38 [.agg (encCtlg x), .int .i64 c, .int .i64 d, .int .i64 i] (.bool (x.brkAt c d i)) := by
  refine PCall.run hb38 ok38 (by simp) (pures_cons (.agg (pure_encCtlg x)) (pures_cons (.int _ _) (pures_cons (.int _ _) (pures1 (.int _ _))))) (.bool _) ?_
  obtain ⟨⟨hcl, hcw⟩, hbl, hbw⟩ := hx
  by_cases a1 : 0 ≤ c
  rotate_left
  · simp -implicitDefEqProofs [encCtlg, Ctlg.brkAt, Ctlg.inn, a1]
  obtain ⟨c, rfl⟩ := Int.eq_ofNat_of_zero_le a1
  by_cases a2 : c < x.classes.length
  rotate_left
  · simp -implicitDefEqProofs [encCtlg, Ctlg.brkAt, Ctlg.inn, a2]
  by_cases a3 : (c : Int) < 4
  rotate_left
  · simp -implicitDefEqProofs [encCtlg, Ctlg.brkAt, Ctlg.inn, a2, a3]
  by_cases b1 : 0 ≤ d
  rotate_left
  · simp -implicitDefEqProofs [encCtlg, Ctlg.brkAt, Ctlg.inn, a2, a3, b1]
  obtain ⟨d, rfl⟩ := Int.eq_ofNat_of_zero_le b1
  by_cases b2 : d < x.classes.length
  rotate_left
  · simp -implicitDefEqProofs [encCtlg, Ctlg.brkAt, Ctlg.inn, a2, a3, b2]
  by_cases b3 : (d : Int) < 4
  rotate_left
  · simp -implicitDefEqProofs [encCtlg, Ctlg.brkAt, Ctlg.inn, a2, a3, b2, b3]
  by_cases i1 : 0 ≤ i
  rotate_left
  · simp -implicitDefEqProofs [encCtlg, Ctlg.brkAt, Ctlg.inn, a2, a3, b2, b3, i1]
  obtain ⟨i, rfl⟩ := Int.eq_ofNat_of_zero_le i1
  have hbk := Ctlg.brk_load (x := x) (.sl .no (x.classes.map encCls)) hbl (show c < 4 by omega) (show d < 4 by omega)
  obtain ⟨b, hbe⟩ := Int.eq_ofNat_of_zero_le (hp c d)
  have hbi : inI (x.brk c d) := by
    rw [Ctlg.brk_of hbl (show c < 4 by omega) (show d < 4 by omega)]
    exact hbw _ (List.getElem_mem _)
  simp only [inI, Int.ofNat_eq_natCast] at hbi hi hbe
  rw [hbe] at hbk hbi
  have hsl := (hcw _ (List.getElem_mem a2)).2.2.1.1
  simp only [maxLen] at hsl
  by_cases i2 : (i : Int) + 1 < x.classes[c].steps.length
  · simp -implicitDefEqProofs [encCtlg, a2, a3, b2, b3, idxOf_nat a2, encCls, hbl, hbk, show 1 + c * 4 + d + 1 ≤ 16 + 1 by omega, wrap_i64 (show -9223372036854775808 ≤ (i : Int) + 1 by omega) (by omega), i2]
    refine callQ_p (refBit_ok b i (by omega) (by omega)) (by simp) ?_
    simp -implicitDefEqProofs [Ctlg.brkAt, Ctlg.inn, a2, a3, b2, b3, hbe, Ctlg.stepsN_of a2, i2]
  by_cases i3 : (i : Int) = 9223372036854775807
  · simp -implicitDefEqProofs [encCtlg, a2, a3, b2, b3, idxOf_nat a2, encCls, hbl, hbk, show 1 + c * 4 + d + 1 ≤ 16 + 1 by omega, show IntKind.i64.wrap ((i : Int) + 1) = -9223372036854775808 by rw [i3]; decide, show (-9223372036854775808 : Int) < x.classes[c].steps.length by omega]
    refine callQ_p (refBit_ok b i (by omega) (by omega)) (by simp) ?_
    have hz : bitN b i = false := by
      have hb2 : b < 2 ^ i := by
        obtain rfl : i = 9223372036854775807 := by omega
        exact Nat.lt_of_lt_of_le (by omega) (Nat.pow_le_pow_right (n := 2) (by omega) (show 63 ≤ 9223372036854775807 by omega))
      simp [bitN, Nat.div_eq_of_lt hb2]
    simp -implicitDefEqProofs [Ctlg.brkAt, Ctlg.inn, a2, a3, b2, b3, hbe, Ctlg.stepsN_of a2, i2, hz]
  · simp -implicitDefEqProofs [encCtlg, a2, a3, b2, b3, idxOf_nat a2, encCls, hbl, hbk, show 1 + c * 4 + d + 1 ≤ 16 + 1 by omega, wrap_i64 (show -9223372036854775808 ≤ (i : Int) + 1 by omega) (by omega), i2, Ctlg.brkAt, Ctlg.inn, Ctlg.stepsN_of a2]

theorem refThere_ok (x : Ctlg) (hx : x.wf) {c : Int} (hc : inI c) : PCall Try.prog 22 [.agg (encCtlg x), .int .i64 c] (.bool (decide (0 ≤ c) && decide (c < (x.classes.length : Int)))) := by
  refine PCall.run hb22 ok22 (by simp) (pures_cons (.agg (pure_encCtlg x)) (pures1 (.int _ _))) (.bool _) ?_
  by_cases a1 : 0 ≤ c
  · simp -implicitDefEqProofs [encCtlg, a1]
  · simp -implicitDefEqProofs [encCtlg, a1]

theorem there_ok (x : Ctlg) (hx : x.wf) {c : Int} (hc : inI c) : PCall Try.prog 62 [.agg (encCtlg x), .int .i64 c] (.bool (x.inn c)) := by
  refine PCall.run hb62 ok62 (by simp) (pures_cons (.agg (pure_encCtlg x)) (pures1 (.int _ _))) (.bool _) ?_
  by_cases a1 : 0 ≤ c
  · by_cases a2 : c < (x.classes.length : Int)
    · simp -implicitDefEqProofs [encCtlg, a1, a2, Ctlg.inn]
    · simp -implicitDefEqProofs [encCtlg, a1, a2, Ctlg.inn]
  · simp -implicitDefEqProofs [encCtlg, a1, Ctlg.inn]

/-- The unit of a step, as the document counts: how many breakpoints there are before it. -/
def Ctlg.unitN (x : Ctlg) (c d : Int) (i : Nat) : Nat := ((List.range i).filter fun j : Nat => x.brkAt c d j).length

theorem refUnit_ok (x : Ctlg) (hx : x.wf) (hp : ∀ c d, 0 ≤ x.brk c d) {c d : Int} (hc : inI c) (hd : inI d) {i : Nat} (hi : i < 9223372036854775808) : PCall Try.prog 73 [.agg (encCtlg x), .int .i64 c, .int .i64 d, .int .i64 i] (.int .i64 (x.unitN c d i)) := by
  refine PCall.run hb73 ok73 (by simp) (pures_cons (.agg (pure_encCtlg x)) (pures_cons (.int _ _) (pures_cons (.int _ _) (pures1 (.int _ _))))) (.int _ _) ?_
  simp -implicitDefEqProofs [encCtlg]
  refine run_loop (fun n s h => ∃ j : Nat, n = i - j ∧ j ≤ i ∧ s 4 = .ptr 0 0 ∧ 0 < h.bn ∧ h.bx 0 = some ([.sl .no (x.classes.map encCls)] ++ x.breaks.map (AV.int .i64)) ∧ s 1 = .int .i64 c ∧ s 2 = .int .i64 d ∧ s 3 = .int .i64 i ∧ s 10 = .int .i64 j ∧ s 9 = .int .i64 (x.unitN c d j)) ?_ i ?_
  · rintro n s h ⟨j, hn, hj, h4, h0, hb, h1, h2, h3, h10, h9⟩ ih
    by_cases hlt : j < i
    · have hle : x.unitN c d j ≤ j := Nat.le_trans (List.length_filter_le _ _) (by simp)
      have hsu : x.unitN c d (j + 1) = x.unitN c d j + (if x.brkAt c d j then 1 else 0) := by
        unfold Ctlg.unitN
        rw [List.range_succ, List.filter_append, List.length_append]
        by_cases h : x.brkAt c d j <;> simp [h]
      simp -implicitDefEqProofs [h4, h0, hb, h1, h2, h3, h10, h9, hlt, hx.2.1]
      refine callQ_p (refBreak_ok x hx hp hc hd (i := j) (by simp only [inI]; omega)) (by simp [encCtlg, x.take16 hx.2.1]) ?_
      cases hbr : x.brkAt c d j
      · simp -implicitDefEqProofs [h10, inc_i64 hlt (by omega), -Int.natCast_add]
        exact ih (i - (j + 1)) _ _ (by omega) ⟨j + 1, rfl, by omega, by simp [h4], by simpa using h0, by simp [hb], by simp [h1], by simp [h2], by simp [h3], by simp, by simp [h9, hsu, hbr]⟩
      · simp -implicitDefEqProofs [h9, h10, inc_i64 hlt (by omega), inc_i64 (show x.unitN c d j < i by omega) (by omega), -Int.natCast_add]
        exact ih (i - (j + 1)) _ _ (by omega) ⟨j + 1, rfl, by omega, by simp [h4], by simpa using h0, by simp [hb], by simp [h1], by simp [h2], by simp [h3], by simp, by simp [hsu, hbr]⟩
    · obtain rfl : j = i := by omega
      simp -implicitDefEqProofs [h4, h0, hb, h1, h2, h3, h10, h9]
  · exact ⟨0, by simp [H.nil, Ctlg.unitN]⟩
end Go.Proofs

/- Units: their bounds, the document's and the program's. -/
namespace Go.Proofs
open Go Go.RowKit Go.Am

/-! ### The plain law -/
def loF (p : Nat → Bool) : Nat → Nat
  | 0 => 0
  | i + 1 => if p i then i + 1 else loF p i
def hiF (p : Nat → Bool) : Nat → Nat → Nat
  | 0, i => i
  | k + 1, i => if p i then i else hiF p k (i + 1)

theorem loF_le (p : Nat → Bool) (i : Nat) : loF p i ≤ i := by
  induction i with
  | zero => simp [loF]
  | succ i ih => simp only [loF]; split <;> omega
theorem loF_no (p : Nat → Bool) (i : Nat) : ∀ j, loF p i ≤ j → j < i → p j = false := by
  induction i with
  | zero => intro j _ h; omega
  | succ i ih =>
    intro j h1 h2
    simp only [loF] at h1
    split at h1
    · omega
    · by_cases h : j = i
      · subst h; simp_all
      · exact ih j h1 (by omega)
theorem loF_at (p : Nat → Bool) (i : Nat) : loF p i = 0 ∨ p (loF p i - 1) = true := by
  induction i with
  | zero => simp [loF]
  | succ i ih =>
    simp only [loF]
    split
    · right; simpa
    · exact ih
theorem hiF_ge (p : Nat → Bool) (k i : Nat) : i ≤ hiF p k i ∧ hiF p k i ≤ i + k := by
  induction k generalizing i with
  | zero => simp [hiF]
  | succ k ih =>
    simp only [hiF]
    have := ih (i + 1)
    split <;> omega
theorem hiF_no (p : Nat → Bool) (k i : Nat) : ∀ j, i ≤ j → j < hiF p k i → p j = false := by
  induction k generalizing i with
  | zero => intro j h1 h2; simp only [hiF] at h2; omega
  | succ k ih =>
    intro j h1 h2
    simp only [hiF] at h2
    split at h2
    · omega
    · by_cases h : j = i
      · subst h; simp_all
      · exact ih (i + 1) j (by omega) h2
theorem hiF_at (p : Nat → Bool) (k i : Nat) : hiF p k i = i + k ∨ p (hiF p k i) = true := by
  induction k generalizing i with
  | zero => simp [hiF]
  | succ k ih =>
    simp only [hiF]
    split
    · right; assumption
    · rcases ih (i + 1) with h | h
      · left; omega
      · right; exact h

/-- How many there are below. -/
def cntF (p : Nat → Bool) : Nat → Nat
  | 0 => 0
  | j + 1 => cntF p j + if p j then 1 else 0
theorem cntF_mono (p : Nat → Bool) {a b : Nat} (h : a ≤ b) : cntF p a ≤ cntF p b := by
  induction b with
  | zero => have : a = 0 := by omega
            subst this; exact Nat.le_refl _
  | succ b ih =>
    by_cases hb : a = b + 1
    · subst hb; exact Nat.le_refl _
    · have := ih (by omega)
      simp only [cntF]; omega
theorem cntF_same (p : Nat → Bool) {a b : Nat} (h : a ≤ b) (hn : ∀ j, a ≤ j → j < b → p j = false) : cntF p a = cntF p b := by
  induction b with
  | zero => have : a = 0 := by omega
            subst this; rfl
  | succ b ih =>
    by_cases hb : a = b + 1
    · subst hb; rfl
    · have h1 := ih (by omega) fun j h1 h2 => hn j h1 (by omega)
      have h2 := hn b (by omega) (by omega)
      simp [cntF, h1, h2]
theorem cntF_iff (p : Nat → Bool) {n i k : Nat} (hi : i < n) (hk : k < n) : cntF p k = cntF p i ↔ loF p i ≤ k ∧ k ≤ hiF p (n - 1 - i) i := by
  have l1 := loF_le p i
  have l2 := loF_no p i
  have l3 := loF_at p i
  have g1 := hiF_ge p (n - 1 - i) i
  have g2 := hiF_no p (n - 1 - i) i
  have g3 := hiF_at p (n - 1 - i) i
  generalize loF p i = lo at *
  generalize hiF p (n - 1 - i) i = hh at *
  constructor
  · intro he
    constructor
    · apply Nat.le_of_not_lt
      intro hlt
      rcases l3 with h | h
      · omega
      · have a1 := cntF_mono p (show k ≤ lo - 1 by omega)
        have a2 : cntF p (lo - 1 + 1) = cntF p (lo - 1) + 1 := by simp [cntF, h]
        have a3 := cntF_mono p (show lo - 1 + 1 ≤ i by omega)
        omega
    · apply Nat.le_of_not_lt
      intro hlt
      rcases g3 with h | h
      · omega
      · have a1 := cntF_mono p (show i ≤ hh by omega)
        have a2 : cntF p (hh + 1) = cntF p hh + 1 := by simp [cntF, h]
        have a3 := cntF_mono p (show hh + 1 ≤ k by omega)
        omega
  · rintro ⟨h1, h2⟩
    by_cases hki : k ≤ i
    · exact cntF_same p hki fun j q1 q2 => l2 j (by omega) q2
    · exact (cntF_same p (show i ≤ k by omega) fun j q1 q2 => g2 j q1 (by omega)).symm

theorem Ctlg.unitN_cnt (x : Ctlg) (c d : Int) (i : Nat) : x.unitN c d i = cntF (fun j : Nat => x.brkAt c d j) i := by
  induction i with
  | zero => simp [unitN, cntF]
  | succ i ih =>
    unfold unitN at ih ⊢
    rw [List.range_succ, List.filter_append, List.length_append, ih]
    by_cases h : x.brkAt c d i <;> simp [cntF, h]

def Ctlg.lo (x : Ctlg) (c d : Int) (i : Nat) : Nat := loF (fun j : Nat => x.brkAt c d j) i
def Ctlg.hi (x : Ctlg) (c d : Int) (i : Nat) : Nat := hiF (fun j : Nat => x.brkAt c d j) (x.stepsN c.toNat - 1 - i) i
def Ctlg.inb (x : Ctlg) (c d i : Int) : Bool := x.inn c && x.inn d && decide (0 ≤ i) && decide (i < (x.stepsN c.toNat : Int))
def bndV (x : Ctlg) (c d i : Int) : AV := if x.inb c d i then .tup [.int .i64 (x.lo c d i.toNat), .int .i64 (x.hi c d i.toNat), .bool true] else .tup [.int .i64 0, .int .i64 0, .bool false]

theorem pure_bndV (x : Ctlg) (c d i : Int) : PureV (bndV x c d i) := by
  unfold bndV
  split
  · exact .tup (pures_cons (.int _ _) (pures_cons (.int _ _) (pures1 (.bool _))))
  · exact .tup (pures_cons (.int _ _) (pures_cons (.int _ _) (pures1 (.bool _))))

/-! ### The document's -/
theorem refBounds_ok (x : Ctlg) (hx : x.wf) (hp : ∀ c d, 0 ≤ x.brk c d) (h4 : x.classes.length ≤ 4) {c d i : Int} (hc : inI c) (hd : inI d) (hi : inI i) : PCall Try.prog 30 [.agg (encCtlg x), .int .i64 c, .int .i64 d, .int .i64 i] (bndV x c d i) := by
  refine PCall.run hb30 ok30 (by simp) (pures_cons (.agg (pure_encCtlg x)) (pures_cons (.int _ _) (pures_cons (.int _ _) (pures1 (.int _ _))))) (pure_bndV _ _ _ _) ?_
  have htk := x.take16 hx.2.1
  have hx' := hx
  obtain ⟨⟨hcl, hcw⟩, hbl, hbw⟩ := hx'
  simp -implicitDefEqProofs [encCtlg, htk, hbl]
  refine callQ_p (refThere_ok x hx hc) (by simp [encCtlg, htk]) ?_
  by_cases a1 : 0 ≤ c
  rotate_left
  · simp -implicitDefEqProofs [bndV, Ctlg.inb, Ctlg.inn, a1]
  obtain ⟨c, rfl⟩ := Int.eq_ofNat_of_zero_le a1
  by_cases a2 : c < x.classes.length
  rotate_left
  · simp -implicitDefEqProofs [bndV, Ctlg.inb, Ctlg.inn, a2]
  simp -implicitDefEqProofs [a2, htk, hbl]
  refine callQ_p (refThere_ok x hx hd) (by simp [encCtlg, htk]) ?_
  by_cases b1 : 0 ≤ d
  rotate_left
  · simp -implicitDefEqProofs [bndV, Ctlg.inb, Ctlg.inn, a2, b1]
  obtain ⟨d, rfl⟩ := Int.eq_ofNat_of_zero_le b1
  by_cases b2 : d < x.classes.length
  rotate_left
  · simp -implicitDefEqProofs [bndV, Ctlg.inb, Ctlg.inn, a2, b2]
  by_cases i1 : 0 ≤ i
  rotate_left
  · simp -implicitDefEqProofs [bndV, Ctlg.inb, Ctlg.inn, a2, b2, i1, show i < 0 by omega]
  obtain ⟨i, rfl⟩ := Int.eq_ofNat_of_zero_le i1
  by_cases i2 : i < x.classes[c].steps.length
  rotate_left
  · simp -implicitDefEqProofs [bndV, Ctlg.inb, Ctlg.inn, a2, b2, i2, idxOf_nat a2, encCls, Ctlg.stepsN_of a2, show ¬ (i : Int) < 0 by omega, show x.classes[c].steps.length ≤ i by omega]
  have hin : x.inb c d i = true := by
    simp [Ctlg.inb, Ctlg.inn, a2, b2, i2, Ctlg.stepsN_of a2]
    omega
  simp -implicitDefEqProofs [a2, b2, i2, idxOf_nat a2, encCls, show ¬ (i : Int) < 0 by omega, show ¬ x.classes[c].steps.length ≤ i by omega, bndV, hin]
  have hsl := (hcw _ (List.getElem_mem a2)).2.2.1.1
  simp only [maxLen] at hsl
  have hlo : x.lo c d i ≤ i := loF_le _ _
  have hhi := hiF_ge (fun j : Nat => x.brkAt c d j) (x.stepsN (c : Int).toNat - 1 - i) i
  have hiff : ∀ k, k < x.classes[c].steps.length → (x.unitN c d k = x.unitN c d i ↔ x.lo c d i ≤ k ∧ k ≤ x.hi c d i) := fun k hk => by
    rw [Ctlg.unitN_cnt, Ctlg.unitN_cnt]
    have := cntF_iff (fun j : Nat => x.brkAt c d j) i2 hk
    simpa [Ctlg.lo, Ctlg.hi, Ctlg.stepsN_of a2] using this
  change i ≤ x.hi c d i ∧ x.hi c d i ≤ _ at hhi
  rw [Int.toNat_natCast, Ctlg.stepsN_of a2] at hhi
  generalize x.lo c d i = lo at *
  generalize x.hi c d i = hh at *
  refine run_loop (fun n s h => ∃ j : Nat, n = x.classes[c].steps.length - j ∧ j ≤ x.classes[c].steps.length ∧ s 4 = .ptr 0 0 ∧ 0 < h.bn ∧ h.bx 0 = some ([.sl .no (x.classes.map encCls)] ++ x.breaks.map (AV.int .i64)) ∧ s 1 = .int .i64 c ∧ s 2 = .int .i64 d ∧ s 3 = .int .i64 i ∧ s 13 = .int .i64 j ∧ s 11 = .int .i64 (if j ≤ lo then -1 else lo) ∧ s 12 = .int .i64 (if j ≤ lo then -1 else if hh < j then hh else j - 1)) ?_ x.classes[c].steps.length ?_
  · rintro n s h ⟨j, hn, hj, h4, h0, hb, h1, h2, h3, h13, h11, h12⟩ ih
    by_cases hlt : j < x.classes[c].steps.length
    · simp -implicitDefEqProofs [h4, h0, hb, h1, h2, h3, h13, h11, h12, hlt, a2, idxOf_nat a2, encCls]
      refine run_dregL c30_d7 rfl ?_
      simp -implicitDefEqProofs [h4, h0, hb, h1, h2, h3, h13, h11, h12, hbl]
      refine callC_p (refUnit_ok x hx hp (c := c) (d := d) hc hd (i := j) (by omega)) (by simp [encCtlg, htk]) ?_
      simp -implicitDefEqProofs [h4, h0, hb, h1, h2, h3, h13, h11, h12, hbl]
      refine callC_p (refUnit_ok x hx hp (c := c) (d := d) hc hd (i := i) (by omega)) (by simp [encCtlg, htk]) ?_
      have hif := hiff j hlt
      by_cases hu : x.unitN c d j = x.unitN c d i
      · have hj2 := hif.1 hu
        by_cases hlo2 : j ≤ lo
        · obtain rfl : j = lo := by omega
          simp -implicitDefEqProofs [h4, h0, hb, h1, h2, h3, h13, h11, h12, hu, inc_i64 hlt hsl, -Int.natCast_add]
          exact ih (x.classes[c].steps.length - (j + 1)) _ _ (by omega) ⟨j + 1, rfl, by omega, by simp [h4], by simpa using h0, by simp [hb], by simp [h1], by simp [h2], by simp [h3], by simp, by simp, by
            simp
            omega⟩
        · simp -implicitDefEqProofs [h4, h0, hb, h1, h2, h3, h13, h11, h12, hu, hlo2, show ¬ (lo : Int) < 0 by omega, inc_i64 hlt hsl, -Int.natCast_add]
          exact ih (x.classes[c].steps.length - (j + 1)) _ _ (by omega) ⟨j + 1, rfl, by omega, by simp [h4], by simpa using h0, by simp [hb], by simp [h1], by simp [h2], by simp [h3], by simp, by simp [h11, hlo2, show ¬ j + 1 ≤ lo by omega], by
            simp [show ¬ j + 1 ≤ lo by omega]
            omega⟩
      · have hj2 : ¬ (lo ≤ j ∧ j ≤ hh) := fun h => hu (hif.2 h)
        simp -implicitDefEqProofs [h4, h0, hb, h1, h2, h3, h13, h11, h12, hu, inc_i64 hlt hsl, -Int.natCast_add]
        exact ih (x.classes[c].steps.length - (j + 1)) _ _ (by omega) ⟨j + 1, rfl, by omega, by simp [h4], by simpa using h0, by simp [hb], by simp [h1], by simp [h2], by simp [h3], by simp, by
          simp [h11]
          split <;> split <;> omega, by
          simp [h12]
          (repeat' split) <;> omega⟩
    · obtain rfl : j = x.classes[c].steps.length := by omega
      simp -implicitDefEqProofs [h4, h0, hb, h1, h2, h3, h13, h11, h12, a2, idxOf_nat a2, encCls]
      exact ⟨by omega, by rw [if_neg (by omega), if_pos (by omega)]⟩
  · exact ⟨0, by simp [H.nil]⟩

/-! ### The program's -/
theorem break1_ok (x : Ctlg) {h : H} {b : Nat} (hb : b < h.bn) (hx : h.bx b = some (encCtlg x)) {c : Int} : SCall Try.prog 78 [.int .i64 c, .ptr b 0] h (.bool (x.inn c)) h := by
  refine SCall.ro (CallP.run hb78 ok78 (by simp) ?_) (.bool _)
  simp only [encCtlg] at hx
  by_cases a1 : 0 ≤ c
  · simp -implicitDefEqProofs [hb, hx, a1, Ctlg.inn]
    exact ⟨by rw [Bool.eq_iff_iff]; simp; split <;> omega, HF.refl _ _ _⟩
  · simp -implicitDefEqProofs [hb, hx, a1, Ctlg.inn]
    exact HF.refl _ _ _

theorem bit_and {b i : Nat} (hb : b < 9223372036854775808) (hi : i ≤ 64) : IntKind.i64.wrap (((((b : Int).fdiv (2 ^ shAmt IntKind.i64 i) % 2 ^ IntKind.i64.bits).toNat &&& ((1 : Int) % 2 ^ IntKind.i64.bits).toNat : Nat)) : Int) = ((b / 2 ^ i % 2 : Nat) : Int) := by
  have e1 : shAmt IntKind.i64 (i : Int) = i := by simp only [shAmt, Int.toNat_natCast]; exact Nat.min_eq_left hi
  have e2 : (b : Int).fdiv (2 ^ i) = ((b / 2 ^ i : Nat) : Int) := by
    rw [Int.fdiv_eq_ediv_of_nonneg _ (by exact Int.pow_nonneg (by omega))]
    push_cast
    rfl
  have e3 : IntKind.i64.bits = 64 := rfl
  have hq : b / 2 ^ i ≤ b := Nat.div_le_self _ _
  rw [e1, e2, e3]
  generalize b / 2 ^ i = q at hq ⊢
  have e5 : ((q : Int) % 2 ^ 64).toNat = q := by omega
  have e6 : ((1 : Int) % 2 ^ 64).toNat = 1 := by decide
  rw [e5, e6, Nat.and_one_is_mod, wrap_i64] <;> omega

structure Ctlg.good (x : Ctlg) : Prop where
  wf : x.wf
  n4 : x.classes.length ≤ 4
  s4 : ∀ c (h : c < x.classes.length), x.classes[c].steps.length ≤ 4
  nn : ∀ c d, 0 ≤ x.brk c d

theorem break_ok (x : Ctlg) (hx : x.good) {c d i : Int} (hc : inI c) (hd : inI d) (hi : inI i) : PCall Try.prog 37 [.agg (encCtlg x), .int .i64 c, .int .i64 d, .int .i64 i] (.bool (x.brkAt c d i)) := by
  refine PCall.run hb37 ok37 (by simp) (pures_cons (.agg (pure_encCtlg x)) (pures_cons (.int _ _) (pures_cons (.int _ _) (pures1 (.int _ _))))) (.bool _) ?_
  obtain ⟨hw, h4, hs4, hnn⟩ := hx
  have htk := x.take16 hw.2.1
  have hbl := hw.2.1
  have hcw := hw.1.2
  simp -implicitDefEqProofs [encCtlg, htk, hbl]
  refine callQ_s (break1_ok x (c := c) (b := 0) (by simp [H.nil]) (by simp [H.nil, encCtlg])) (by simp [H.nil]) ?_
  cases ec : x.inn c
  · simp -implicitDefEqProofs [Ctlg.brkAt, ec]
  simp -implicitDefEqProofs [hbl]
  refine callQ_s (break1_ok x (c := d) (b := 0) (by simp [H.nil]) (by simp [H.nil, encCtlg])) (by simp [H.nil]) ?_
  cases ed : x.inn d
  · simp -implicitDefEqProofs [Ctlg.brkAt, ec, ed]
  simp only [Ctlg.inn, Bool.and_eq_true, decide_eq_true_eq] at ec ed
  obtain ⟨⟨a1, a2⟩, a3⟩ := ec
  obtain ⟨⟨b1, b2⟩, b3⟩ := ed
  obtain ⟨c, rfl⟩ := Int.eq_ofNat_of_zero_le a1
  obtain ⟨d, rfl⟩ := Int.eq_ofNat_of_zero_le b1
  have a2 : c < x.classes.length := by omega
  have b2 : d < x.classes.length := by omega
  by_cases i1 : 0 ≤ i
  rotate_left
  · simp -implicitDefEqProofs [Ctlg.brkAt, i1, show i < 0 by omega]
  obtain ⟨i, rfl⟩ := Int.eq_ofNat_of_zero_le i1
  have hsl := hs4 c a2
  have hw1 : IntKind.i64.wrap ((x.classes[c].steps.length : Int) - 1) = (x.classes[c].steps.length : Int) - 1 := wrap_i64 (by omega) (by omega)
  by_cases i2 : i + 1 < x.classes[c].steps.length
  rotate_left
  · simp -implicitDefEqProofs [Ctlg.brkAt, a2, idxOf_nat a2, encCls, Ctlg.stepsN_of a2, hw1, show ¬ (i : Int) < 0 by omega, show (x.classes[c].steps.length : Int) - 1 ≤ i by omega, show ¬ (i : Int) + 1 < x.classes[c].steps.length by omega]
  have hbk := Ctlg.brk_load (x := x) (.sl .no (x.classes.map encCls)) hbl (show c < 4 by omega) (show d < 4 by omega)
  obtain ⟨b, hbe⟩ := Int.eq_ofNat_of_zero_le (hnn c d)
  simp -implicitDefEqProofs [a2, b2, a3, b3, idxOf_nat a2, encCls, hw1, show ¬ (i : Int) < 0 by omega, show ¬ (x.classes[c].steps.length : Int) - 1 ≤ i by omega, hbk, hbl, show 1 + c * 4 + d + 1 ≤ 16 + 1 by omega, hbe, H.nil]
  have hbb : b < 9223372036854775808 := by
    have hbi : inI (x.brk c d) := by
      rw [Ctlg.brk_of hbl (show c < 4 by omega) (show d < 4 by omega)]
      exact hw.2.2 _ (List.getElem_mem _)
    rw [hbe] at hbi
    simp only [inI, Int.ofNat_eq_natCast] at hbi
    omega
  have hand := bit_and (i := i) hbb (by omega)
  rw [hand]
  have he : ((b / 2 ^ i % 2 : Nat) : Int) = 1 ↔ b / 2 ^ i % 2 = 1 := by omega
  simp only [he]
  simp [Ctlg.brkAt, Ctlg.inn, a2, b2, a3, b3, Ctlg.stepsN_of a2, hbe, bitN, show (i : Int) + 1 < x.classes[c].steps.length by omega]
end Go.Proofs

/- Units: their bounds, the program's; whether a place is open. -/
namespace Go.Proofs
open Go Go.RowKit Go.Am

theorem bounds_ok (x : Ctlg) (hx : x.good) {c d i : Int} (hc : inI c) (hd : inI d) (hi : inI i) : PCall Try.prog 23 [.agg (encCtlg x), .int .i64 c, .int .i64 d, .int .i64 i] (bndV x c d i) := by
  refine PCall.run hb23 ok23 (by simp) (pures_cons (.agg (pure_encCtlg x)) (pures_cons (.int _ _) (pures_cons (.int _ _) (pures1 (.int _ _))))) (pure_bndV _ _ _ _) ?_
  have hx' := hx
  obtain ⟨hw, h4, hs4, hnn⟩ := hx'
  have htk := x.take16 hw.2.1
  have hbl := hw.2.1
  simp -implicitDefEqProofs [encCtlg, htk, hbl]
  refine callQ_p (there_ok x hw hc) (by simp [encCtlg, htk]) ?_
  cases ec : x.inn c
  · simp -implicitDefEqProofs [bndV, Ctlg.inb, ec]
  simp -implicitDefEqProofs [htk, hbl]
  refine callQ_p (there_ok x hw hd) (by simp [encCtlg, htk]) ?_
  cases ed : x.inn d
  · simp -implicitDefEqProofs [bndV, Ctlg.inb, ec, ed]
  have ec' := ec
  simp only [Ctlg.inn, Bool.and_eq_true, decide_eq_true_eq] at ec'
  obtain ⟨⟨a1, a2⟩, a3⟩ := ec'
  obtain ⟨c, rfl⟩ := Int.eq_ofNat_of_zero_le a1
  have a2 : c < x.classes.length := by omega
  by_cases i1 : 0 ≤ i
  rotate_left
  · simp -implicitDefEqProofs [bndV, Ctlg.inb, i1, show i < 0 by omega]
  obtain ⟨i, rfl⟩ := Int.eq_ofNat_of_zero_le i1
  have hsl := hs4 c a2
  by_cases i2 : i < x.classes[c].steps.length
  rotate_left
  · simp -implicitDefEqProofs [bndV, Ctlg.inb, a2, i2, idxOf_nat a2, encCls, Ctlg.stepsN_of a2, show ¬ (i : Int) < 0 by omega, show x.classes[c].steps.length ≤ i by omega]
  have hin : x.inb c d i = true := by
    simp [Ctlg.inb, ec, ed, i2, Ctlg.stepsN_of a2]
  simp -implicitDefEqProofs [a2, i2, idxOf_nat a2, encCls, show ¬ (i : Int) < 0 by omega, show ¬ x.classes[c].steps.length ≤ i by omega, bndV, hin]
  refine run_loop (fun n s h => ∃ j : Nat, n = j ∧ j ≤ i ∧ s 4 = .ptr 0 0 ∧ 0 < h.bn ∧ h.bx 0 = some ([.sl .no (x.classes.map encCls)] ++ x.breaks.map (AV.int .i64)) ∧ s 1 = .int .i64 c ∧ s 2 = .int .i64 d ∧ s 12 = .int .i64 i ∧ s 11 = .int .i64 j ∧ x.lo c d i = x.lo c d j) ?_ i ?_
  rotate_left
  · exact ⟨i, by simp [H.nil]⟩
  rintro n s h ⟨j, hn, hj, h4, h0, hb, h1, h2, h12, h11, hlo⟩ ih
  by_cases hj0 : j = 0
  focus
    subst hj0
    have h11' : s 11 = .int .i64 (x.lo c d i) := by rw [h11, hlo]; simp [Ctlg.lo, loF]
    simp -implicitDefEqProofs [h4, h0, hb, h1, h2, h11, h12]
  rotate_left
  focus
    have hw1 : IntKind.i64.wrap ((j : Int) - 1) = ((j - 1 : Nat) : Int) := by rw [wrap_i64] <;> omega
    simp -implicitDefEqProofs [h4, h0, hb, h1, h2, h11, h12, hbl, hw1, show 0 < j by omega, -Int.natCast_sub]
    refine callQ_p (break_ok x hx (c := c) (d := d) hc hd (i := (j - 1 : Nat)) (by simp only [inI]; omega)) (by simp [encCtlg, htk]) ?_
    obtain ⟨k, rfl⟩ : ∃ k, j = k + 1 := ⟨j - 1, by omega⟩
    simp only [Nat.add_sub_cancel] at hw1 ⊢
    have hwk : IntKind.i64.wrap (k : Int) = k := by rw [wrap_i64] <;> omega
    cases hbr : x.brkAt c d k
    · simp -implicitDefEqProofs [h11, hw1]
      exact ih k _ _ (by omega) ⟨k, rfl, by omega, by simp [h4], by simpa using h0, by simp [hb], by simp [h1], by simp [h2], by simp [h12], by simp [hwk], by
        rw [hlo]
        simp [Ctlg.lo, loF, hbr]⟩
    have h11' : s 11 = .int .i64 (x.lo c d i) := by rw [h11, hlo]; simp [Ctlg.lo, loF, hbr]
    simp -implicitDefEqProofs [h11]
  all_goals
    have hlo2 : x.lo c d i ≤ i := loF_le _ _
    refine run_loop (fun n s h => ∃ j : Nat, n = x.classes[c].steps.length - j ∧ j < x.classes[c].steps.length ∧ s 4 = .ptr 0 0 ∧ 0 < h.bn ∧ h.bx 0 = some ([.sl .no (x.classes.map encCls)] ++ x.breaks.map (AV.int .i64)) ∧ s 1 = .int .i64 c ∧ s 2 = .int .i64 d ∧ s 11 = .int .i64 (x.lo c d i) ∧ s 12 = .int .i64 j ∧ x.hi c d i = x.hi c d j) ?_ (x.classes[c].steps.length - i) ?_
    rotate_left
    · exact ⟨i, by simp [h4, h0, hb, h1, h2, h11', h12, i2]⟩
    clear ih h4 h0 hb h1 h2 h11 h12 h11' hlo
    rintro n s h ⟨j, hn, hj, h4, h0, hb, h1, h2, h11, h12, hhi⟩ ih
    have hw1 : IntKind.i64.wrap ((j : Int) + 1) = ((j + 1 : Nat) : Int) := by rw [wrap_i64] <;> omega
    by_cases hj0 : j + 1 < x.classes[c].steps.length
    · simp -implicitDefEqProofs [h4, h0, hb, h1, h2, h11, h12, hbl, hw1, hj0, a2, idxOf_nat a2, encCls, -Int.natCast_add]
      refine callQ_p (break_ok x hx (c := c) (d := d) hc hd (i := j) (by simp only [inI]; omega)) (by simp [encCtlg, htk]) ?_
      have hhj : x.hi c d j = if x.brkAt c d j then j else x.hi c d (j + 1) := by
        unfold Ctlg.hi
        simp only [Int.toNat_natCast, Ctlg.stepsN_of a2]
        obtain ⟨m, hm⟩ : ∃ m, x.classes[c].steps.length - 1 - j = m + 1 := ⟨x.classes[c].steps.length - 1 - j - 1, by omega⟩
        rw [hm, show x.classes[c].steps.length - 1 - (j + 1) = m by omega]
        rfl
      cases hbr : x.brkAt c d j
      · simp -implicitDefEqProofs [h12, hw1, -Int.natCast_add]
        exact ih (x.classes[c].steps.length - (j + 1)) _ _ (by omega) ⟨j + 1, rfl, by omega, by simp [h4], by simpa using h0, by simp [hb], by simp [h1], by simp [h2], by simp [h11], by simp, by
          rw [hhi, hhj, hbr]; rfl⟩
      · have : x.hi c d i = j := by rw [hhi, hhj, hbr]; rfl
        simp -implicitDefEqProofs [h11, h12, this]
    · have : x.hi c d i = j := by
        rw [hhi]
        unfold Ctlg.hi
        simp only [Int.toNat_natCast, Ctlg.stepsN_of a2]
        rw [show x.classes[c].steps.length - 1 - j = 0 by omega]
        rfl
      simp -implicitDefEqProofs [h4, h0, hb, h1, h2, h11, h12, hbl, hw1, hj0, a2, idxOf_nat a2, encCls, this, -Int.natCast_add]

/-- Is the place before a step open? -/
def Ctlg.openAt (x : Ctlg) (c d i : Int) : Bool := x.inb c d (i - 1) && decide (i - 1 < (x.hi c d (i - 1).toNat : Int))
theorem open_ok (x : Ctlg) (hx : x.good) {c d i : Int} (hc : inI c) (hd : inI d) (hi : inI i) : PCall Try.prog 31 [.agg (encCtlg x), .int .i64 c, .int .i64 d, .int .i64 i] (.bool (x.openAt c d i)) := by
  refine PCall.run hb31 ok31 (by simp) (pures_cons (.agg (pure_encCtlg x)) (pures_cons (.int _ _) (pures_cons (.int _ _) (pures1 (.int _ _))))) (.bool _) ?_
  have htk := x.take16 hx.wf.2.1
  have hbl := hx.wf.2.1
  have hdec : decide (i - 1 < (x.hi c d (i - 1).toNat : Int)) = decide (i - 1 < (x.hi c d (i - 1).toNat : Int)) := rfl
  by_cases him : i = -9223372036854775808
  · have hw : IntKind.i64.wrap (i - 1) = 9223372036854775807 := by rw [him]; decide
    simp -implicitDefEqProofs [encCtlg, htk, hbl, hw]
    refine callQ_p (bounds_ok x hx hc hd (i := 9223372036854775807) (by simp only [inI]; omega)) (by simp [encCtlg, htk]) ?_
    have hno : x.inb c d 9223372036854775807 = false := by
      simp only [Ctlg.inb, Ctlg.inn]
      by_cases a1 : 0 ≤ c
      · obtain ⟨c, rfl⟩ := Int.eq_ofNat_of_zero_le a1
        by_cases a2 : c < x.classes.length
        · have := hx.s4 c a2
          simp [Ctlg.stepsN_of a2]
          omega
        · simp [a2]
      · simp [a1]
    have hbv : bndV x c d 9223372036854775807 = .tup [.int .i64 0, .int .i64 0, .bool false] := by simp [bndV, hno]
    simp -implicitDefEqProofs [hbv, Ctlg.openAt, Ctlg.inb, show ¬ 1 ≤ i by omega]
  · have hw : IntKind.i64.wrap (i - 1) = i - 1 := wrap_i64 (by simp only [inI] at hi; omega) (by simp only [inI] at hi; omega)
    simp -implicitDefEqProofs [encCtlg, htk, hbl, hw]
    refine callQ_p (bounds_ok x hx hc hd (i := i - 1) (by simp only [inI] at hi ⊢; omega)) (by simp [encCtlg, htk]) ?_
    cases hin : x.inb c d (i - 1)
    · simp -implicitDefEqProofs [bndV, hin, Ctlg.openAt]
    · simp -implicitDefEqProofs [bndV, hin, Ctlg.openAt, hw]
end Go.Proofs

/- Units: the law's own first look; catalogues that are opened and closed. -/
namespace Go.Proofs
open Go Go.RowKit Go.Am

def aliveC : Ctlg := ⟨[⟨⟨#[97]⟩, 0, List.replicate 3 ⟨[⟨5, 0, 0, 0, ⟨0, 0⟩, ⟨0, 0⟩, 0⟩], []⟩, List.replicate 3 ⟨[], []⟩, false⟩], 2 :: List.replicate 15 0⟩
theorem aliveC_good : aliveC.good where
  wf := by
    refine ⟨⟨by decide, ?_⟩, by decide, ?_⟩
    · intro y hy
      simp only [aliveC, List.mem_singleton] at hy
      subst hy
      refine ⟨by decide, by simp [inI], ⟨by decide, ?_⟩, by decide, ?_⟩
      · intro y hy
        obtain rfl := List.eq_of_mem_replicate hy
        refine ⟨⟨by decide, ?_⟩, by decide, by simp⟩
        intro y hy
        simp only [List.mem_singleton] at hy
        subst hy
        simp [Inst.wf, KeyT.wf, inI]
      · intro y hy
        obtain rfl := List.eq_of_mem_replicate hy
        exact ⟨⟨by decide, by simp⟩, by decide, by simp⟩
    · intro y hy
      simp only [aliveC, List.mem_cons, List.mem_replicate] at hy
      rcases hy with rfl | ⟨_, rfl⟩ <;> simp [inI]
  n4 := by decide
  s4 := by
    intro c h
    simp [aliveC] at h
    subst h
    simp [aliveC]
  nn := by
    intro c d
    have : ∀ k : Nat, 0 ≤ (aliveC.breaks[k]?).getD 0 := by
      intro k
      rcases h : aliveC.breaks[k]? with _ | v
      · simp
      · have := List.mem_of_getElem? h
        simp only [aliveC, List.mem_cons, List.mem_replicate] at this
        rcases this with rfl | ⟨_, rfl⟩ <;> simp
    exact this (4 * c + d)

theorem alive14_ok : PCall Try.prog 20 [] (.bool true) := by
  refine PCall.run hb20 ok20 (by simp) (by simp) (.bool _) ?_
  simp -implicitDefEqProofs []
  refine run_dreg c20_d3 ?_
  simp -implicitDefEqProofs []
  refine ⟨.sl .full (List.replicate 3 [.sl .full [], .sl .full []]), fun h => .mkval 2 48 _ _ _ .i64 .i64 3 rfl rfl (by omega) (by omega), ?_⟩
  simp -implicitDefEqProofs [H.nil]
  have hb : bndV aliveC 0 0 0 = .tup [.int .i64 0, .int .i64 1, .bool true] := by
    have h1 : aliveC.inb 0 0 0 = true := by decide
    have h2 : aliveC.lo 0 0 (0 : Int).toNat = 0 := by decide
    have h3 : aliveC.hi 0 0 (0 : Int).toNat = 1 := by decide
    rw [bndV, if_pos h1, h2, h3]; rfl
  refine callQ_p (bounds_ok aliveC aliveC_good (c := 0) (d := 0) (i := 0) (by simp [inI]) (by simp [inI]) (by simp [inI])) (by simp [encCtlg, aliveC, encCls, encStp, encInst]) ?_
  simp -implicitDefEqProofs [hb]
end Go.Proofs

/- Catalogues that are copied. -/
namespace Go.Proofs
open Go Go.RowKit Go.Am

section
variable {α : Type} {enc : α → List AV} {z : Nat}
theorem flatM_len (he : ∀ x, (enc x).length = z) (l : List α) : (l.map enc).flatten.length = l.length * z := by
  rw [flatten_len (z := z) (by simp [he]), List.length_map]
theorem chunks_of (he : ∀ x, (enc x).length = z) : ∀ (l : List α) (r : List AV), chunks z l.length ((l.map enc).flatten ++ r) = l.map enc
  | [], _ => rfl
  | x :: l, r => by
    have e1 : (enc x).length = z := he x
    simp only [List.map_cons, List.flatten_cons, List.length_cons, chunks, List.append_assoc]
    rw [List.take_left' e1, List.drop_left' e1, chunks_of he l]
theorem flat_take (he : ∀ x, (enc x).length = z) : ∀ (l : List α) (j : Nat) (h : j < l.length), List.take z (List.drop (j * z) (l.map enc).flatten) = enc l[j]
  | x :: l, 0, _ => by simp [List.take_left' (he x)]
  | x :: l, j + 1, h => by
    rw [List.map_cons, List.flatten_cons, show (j + 1) * z = (enc x).length + j * z by rw [he x, Nat.add_mul]; omega, ← List.drop_drop, List.drop_left' rfl, flat_take he l j (by simpa using h)]
    rfl
theorem flat_set (he : ∀ x, (enc x).length = z) : ∀ (l : List α) (j : Nat) (y : α), j < l.length → List.take (j * z) (l.map enc).flatten ++ (enc y ++ List.drop (j * z + z) (l.map enc).flatten) = ((l.set j y).map enc).flatten
  | x :: l, 0, y, _ => by simp [List.drop_left' (he x)]
  | x :: l, j + 1, y, h => by
    have ih := flat_set he l j y (by simpa using h)
    rw [List.map_cons, List.flatten_cons, show (j + 1) * z = (enc x).length + j * z by rw [he x, Nat.add_mul]; omega, List.take_length_add_append, Nat.add_assoc, ← List.drop_drop, List.drop_left' rfl, List.append_assoc, ih]
    rfl
end

def Stp.small (s : Stp) : Prop := s.code.length ≤ 8 ∧ s.foot.length ≤ 4

theorem cloneInst_ok (l : List Inst) (hl : l.length ≤ 1000) : PCall Try.prog 138 [.sl .no (l.map encInst)] (.sl .no (l.map encInst)) :=
  clone_gen hb138 ok138 _ (by simp) (elOK_Inst.pureL l) (by simp) (by simp; omega)
theorem cloneSpanT_ok (l : List SpanT) (hl : l.length ≤ 1000) : PCall Try.prog 139 [.sl .no (l.map encSpanT)] (.sl .no (l.map encSpanT)) :=
  clone_gen hb139 ok139 _ (by simp) (elOK_SpanT.pureL l) (by simp) (by simp; omega)

theorem steps_ok (l : List Stp) (h0 : 0 < l.length) (h4 : l.length ≤ 4) (hs : ∀ s ∈ l, s.small) : PCall Try.prog 104 [.sl .no (l.map encStp)] (.sl .no (l.map encStp)) := by
  refine PCall.run' hb104 ok104 (by simp) (pures1 (pure_sl pure_encStp _)) (pure_sl pure_encStp _) (by simp) ?_
  simp -implicitDefEqProofs []
  refine callQ_s (clone_box hb137 ok137 (h := H.nil) (l.map encStp) (by simpa using h0) (by simp) (by
    intro v hv
    simp only [List.mem_flatten, List.mem_map] at hv
    obtain ⟨_, ⟨s, _, rfl⟩, hv⟩ := hv
    exact pure_encStp s v hv) (by simp; omega)) (by simp) ?_
  simp -implicitDefEqProofs [H.nil]
  have hfl : (l.map encStp).flatten.length = l.length * 2 := flatM_len (by simp) l
  refine run_loop (fun n s h => ∃ j : Nat, n = l.length - j ∧ j ≤ l.length ∧ s 3 = .msl 0 2 0 l.length ∧ s 8 = .msl 0 2 0 l.length ∧ 0 < h.bn ∧ h.bx 0 = some (l.map encStp).flatten ∧ s 9 = .int .i64 l.length ∧ s 10 = .int .i64 j) ?_ l.length ?_
  rotate_left
  · exact ⟨0, by simp⟩
  rintro n s h ⟨j, hn, hj, h3, h8, h0, hb, h9, h10⟩ ih
  by_cases hlt : j < l.length
  · have htk := flat_take (z := 2) (enc := encStp) (by simp) l j hlt
    have hle : j * 2 + 2 ≤ l.length * 2 := by omega
    have hsm := hs _ (List.getElem_mem hlt)
    have hset := flat_set (z := 2) (enc := encStp) (by simp) l j l[j] hlt
    rw [List.set_getElem_self] at hset
    simp only [encStp, List.cons_append, List.nil_append] at hset htk
    simp -implicitDefEqProofs [h3, h8, h0, hb, h9, h10, hlt, hfl, hle, idxOf_nat hlt, htk]
    refine run_dreg c104_d6 ?_
    simp -implicitDefEqProofs [h3, h8, h0, hb, h9, h10, hlt, hfl, hle, idxOf_nat hlt]
    refine lcallQ_p (cloneInst_ok l[j].code (by have := hsm.1; omega)) (by simp) ?_
    simp -implicitDefEqProofs [h3, h8, h0, hb, h9, h10, hlt, hfl, hle, idxOf_nat hlt]
    refine lcallQ_p (cloneSpanT_ok l[j].foot (by have := hsm.2; omega)) (by simp) ?_
    simp -implicitDefEqProofs [h3, h8, h0, hb, h9, h10, hlt, hfl, hle, idxOf_nat hlt, hset, show ¬ 0 = h.bn by omega, inc_i64 hlt (by omega), -Int.natCast_add]
    exact ih (l.length - (j + 1)) _ _ (by omega) ⟨j + 1, rfl, by omega, by simp [h3], by simp [h8], by simp, by simp, by simp [h9], by simp⟩
  · simp -implicitDefEqProofs [h3, h8, h0, hb, h9, h10, hlt]
    have := Gh.msl (z := 2) (n := l.length) h0 hb (by omega) (by omega)
    have e := chunks_of (z := 2) (enc := encStp) (by simp) l []
    rw [List.append_nil] at e
    rw [e] at this
    exact ⟨_, this⟩

def Cls.small (c : Cls) : Prop := 0 < c.steps.length ∧ c.steps.length ≤ 4 ∧ c.comps.length = c.steps.length ∧ (∀ s ∈ c.steps, s.small) ∧ ∀ s ∈ c.comps, s.small
def Ctlg.small (x : Ctlg) : Prop := 0 < x.classes.length ∧ x.classes.length ≤ 4 ∧ (∀ c ∈ x.classes, c.small) ∧ x.breaks.length = 16

theorem put_same {F : List AV} {k : Nat} {v : AV} (h : F[k]? = some v) : List.take k F ++ v :: List.drop (k + 1) F = F := by
  obtain ⟨hk, rfl⟩ := List.getElem?_eq_some_iff.1 h
  rw [← List.drop_eq_getElem_cons hk, List.take_append_drop]
theorem flatC_get (l : List Cls) {j k : Nat} (hj : j < l.length) (hk : k < 5) : (l.map encCls).flatten[j * 5 + k]? = some ((encCls l[j])[k]'(by simpa using hk)) := by
  rw [flatten_get (z := 5) (by simp) j k hk, List.getElem?_map, List.getElem?_eq_getElem hj]
  simp [List.getElem?_eq_getElem, hk]

theorem copied_ok (x : Ctlg) (hx : x.small) : PCall Try.prog 63 [.agg (encCtlg x)] (.agg (encCtlg x)) := by
  refine PCall.run' hb63 ok63 (by simp) (pures1 (.agg (pure_encCtlg x))) (.agg (pure_encCtlg x)) (by simp) ?_
  obtain ⟨hn0, hn4, hcs, hbl⟩ := hx
  have htk := x.take16 hbl
  simp -implicitDefEqProofs [encCtlg, htk, hbl]
  refine callQ_s (clone_box hb103 ok103 (x.classes.map encCls) (by simpa using hn0) (by simp) (by
    intro v hv
    simp only [List.mem_flatten, List.mem_map] at hv
    obtain ⟨_, ⟨s, _, rfl⟩, hv⟩ := hv
    exact pure_encCls s v hv) (by simp; omega)) (by simp) ?_
  simp -implicitDefEqProofs [H.nil, htk, hbl]
  have hfl : (x.classes.map encCls).flatten.length = x.classes.length * 5 := flatM_len (by simp) x.classes
  refine run_loop (fun n s h => ∃ j : Nat, n = x.classes.length - j ∧ j ≤ x.classes.length ∧ s 1 = .ptr 0 0 ∧ s 2 = .ptr 1 0 ∧ s 10 = .msl 2 5 0 x.classes.length ∧ 2 < h.bn ∧ h.bx 0 = some (.msl 2 5 0 x.classes.length :: x.breaks.map (AV.int .i64)) ∧ (∃ cs, h.bx 1 = some cs ∧ cs.length = 17) ∧ h.bx 2 = some (x.classes.map encCls).flatten ∧ s 11 = .int .i64 x.classes.length ∧ s 12 = .int .i64 j) ?_ x.classes.length ?_
  rotate_left
  · exact ⟨0, by simp⟩
  rintro n s h ⟨j, hn, hj, h1, h2, h10, h0, hb0, ⟨cs, hb1, hcl⟩, hb2, h11, h12⟩ ih
  by_cases hlt : j < x.classes.length
  · have htk := flat_take (z := 5) (enc := encCls) (by simp) x.classes j hlt
    have hle : j * 5 + 5 ≤ x.classes.length * 5 := by omega
    have hsm := hcs _ (List.getElem_mem hlt)
    have hset := flat_set (z := 5) (enc := encCls) (by simp) x.classes j x.classes[j] hlt
    rw [List.set_getElem_self] at hset
    simp -implicitDefEqProofs [h1, h2, h10, h0, hb0, hb1, hb2, h11, h12, hlt, hfl, hle, idxOf_nat hlt, htk]
    refine run_dreg c63_d6 ?_
    simp -implicitDefEqProofs [h1, h2, h10, h0, hb0, hb1, hb2, h11, h12, hlt, hfl, hle, idxOf_nat hlt, show ¬ 2 = h.bn by omega, show ¬ 0 = h.bn by omega, encCls, show 0 < h.bn + 1 by omega]
    have hst : x.classes[j].steps.length ≤ 4 := hsm.2.1
    refine lcallQ_p (steps_ok x.classes[j].steps hsm.1 hst hsm.2.2.2.1) (by simp) ?_
    simp -implicitDefEqProofs [h1, h2, h10, h0, hb0, hb1, hb2, h11, h12, hlt, hfl, hle, idxOf_nat hlt, show ¬ 2 = h.bn by omega, show ¬ 0 = h.bn by omega]
    refine lcallQ_p (steps_ok x.classes[j].comps (by rw [hsm.2.2.1]; exact hsm.1) (by rw [hsm.2.2.1]; exact hst) hsm.2.2.2.2) (by simp) ?_
    have hp2 := put_same (flatC_get x.classes hlt (k := 2) (by omega))
    have hp3 := put_same (flatC_get x.classes hlt (k := 3) (by omega))
    simp only [encCls, List.getElem_cons_succ, List.getElem_cons_zero] at hp2 hp3
    simp -implicitDefEqProofs [h1, h2, h10, h0, hb0, hb1, hb2, h11, h12, hlt, hfl, hle, idxOf_nat hlt, show ¬ 2 = h.bn by omega, show ¬ 0 = h.bn by omega, hp2, hp3, inc_i64 hlt (by omega), -Int.natCast_add, show j * 5 + 2 + 1 ≤ x.classes.length * 5 by omega, show j * 5 + 3 + 1 ≤ x.classes.length * 5 by omega, show 2 < h.bn + 1 by omega, show ¬ 1 = h.bn by omega, show ¬ h.bn = 2 by omega, encCls]
    refine ⟨by omega, ?_⟩
    exact ih (x.classes.length - (j + 1)) _ _ (by omega) ⟨j + 1, rfl, by omega, by simp [h1], by simp [h2], by simp [h10], by simp; omega, by simp [hb0, show ¬ 0 = h.bn by omega], ⟨cs, by simp [hb1, show ¬ 1 = h.bn by omega], hcl⟩, by simp, by simp [h11], by simp⟩
  · simp -implicitDefEqProofs [h1, h2, h10, h0, hb0, hb1, hb2, h11, h12, hlt, hbl, htk, hcl, show 0 < h.bn by omega, show 1 < h.bn by omega]
    have := Gh.aggMsl (z := 5) (n := x.classes.length) (h := h.set 1 (.msl 2 5 0 x.classes.length :: (x.breaks.map (AV.int .i64) ++ List.drop 17 cs))) (b := 2) (cs := (x.classes.map encCls).flatten) (rest := x.breaks.map (AV.int .i64)) (by simpa using h0) (by simp [hb2]) (by omega) (by omega)
    have e := chunks_of (z := 5) (enc := encCls) (by simp) x.classes []
    rw [List.append_nil] at e
    rw [e] at this
    exact ⟨_, this⟩

/-- A catalogue with other breakpoints. -/
def Ctlg.with (x : Ctlg) (l : List Int) : Ctlg := ⟨x.classes, l⟩
def closedOf (x : Ctlg) : Ctlg := x.with (List.replicate 16 0)

theorem closed_ok (x : Ctlg) (hx : x.small) : PCall Try.prog 32 [.agg (encCtlg x)] (.agg (encCtlg (closedOf x))) := by
  refine PCall.run hb32 ok32 (by simp) (pures1 (.agg (pure_encCtlg x))) (.agg (pure_encCtlg _)) ?_
  have htk := x.take16 hx.2.2.2
  have hbl := hx.2.2.2
  simp -implicitDefEqProofs [encCtlg, htk, hbl]
  refine callQ_p (copied_ok x hx) (by simp [encCtlg, htk]) ?_
  simp -implicitDefEqProofs [encCtlg, htk, hbl, H.nil]
  exact ⟨rfl, rfl⟩

def Cls.all (c : Cls) : Int := 2 ^ (c.steps.length - 1) - 1
theorem all_ok (c : Cls) (hc : c.small) : PCall Try.prog 66 [.agg (encCls c)] (.int .i64 c.all) := by
  refine PCall.run hb66 ok66 (by simp) (pures1 (.agg (pure_encCls c))) (.int _ _) ?_
  have h := hc
  obtain ⟨h0, h4, _⟩ := h
  have w0 : ∀ k : Nat, k ≤ 15 → IntKind.i64.wrap (k : Int) = k := fun k hk => wrap_i64 (by omega) (by omega)
  have wa := w0 0 (by omega)
  have wb := w0 1 (by omega)
  have wc := w0 2 (by omega)
  have wd := w0 3 (by omega)
  have we := w0 4 (by omega)
  have wf := w0 7 (by omega)
  have wg := w0 8 (by omega)
  simp only [Int.ofNat_eq_natCast, Int.cast_ofNat_Int] at wa wb wc wd we wf wg
  have hl : c.steps.length = 1 ∨ c.steps.length = 2 ∨ c.steps.length = 3 ∨ c.steps.length = 4 := by omega
  rcases hl with hl | hl | hl | hl <;> simp -implicitDefEqProofs [encCls, hl, wa, wb, wc, wd, we, wf, wg, shAmt, IntKind.bits, Cls.all]
end Go.Proofs

/- Pairs of classes, by a function over which one ranges; a catalogue that is opened. -/
namespace Go.Proofs
open Go Go.RowKit Go.Am

theorem pairs_ok (x : Ctlg) (hw : x.breaks.length = 16) (h : H) : SCall Try.prog 82 [.agg (encCtlg x)] h (.fn 116 [] [.ptr h.bn 0]) (h.alloc (encCtlg x)) := by
  refine SCall.newG (fun b => .fn 116 [] [.ptr b 0]) (fun _ _ _ _ _ _ _ h1 h2 => Low.fn1 (Low.ptr h1 h2)) (CallP.run hb82 ok82 (by simp) ?_) (pure_encCtlg x)
  have htk := x.take16 hw
  simp -implicitDefEqProofs [encCtlg, htk, hw]
  exact ⟨HF.alloc _ _ _ _, WkL.refl _⟩

/-- One round after the other. -/
theorem pairs1_ok (x : Ctlg) (n4 : x.classes.length ≤ 4) {l b : Nat} {h : H} (I : Nat → H → Prop) (hI : ∀ k h', I k h' → b < h'.bn ∧ h'.bx b = some (encCtlg x))
    (hr : ∀ c d h', c < x.classes.length → d < x.classes.length → I (c * x.classes.length + d) h' → ∀ K : AV → H → Prop, (∀ h'', I (c * x.classes.length + d + 1) h'' → K (.bool true) h'') → callQ Try.prog (.yld l) [.int .i64 c, .int .i64 d] h' K)
    (h0 : I 0 h) : CallP Try.prog 116 [.yld l, .ptr b 0] h fun _ h1 => I (x.classes.length * x.classes.length) h1 := by
  refine CallP.run hb116 ok116 (by simp) ?_
  obtain ⟨b1, b2⟩ := hI _ _ h0
  have hmn : ¬ (4 : Int) < x.classes.length := by omega
  simp -implicitDefEqProofs [b1, b2, encCtlg, hmn]
  refine run_loop (fun m s h1 => ∃ c : Nat, m = x.classes.length - c ∧ c ≤ x.classes.length ∧ s 0 = .yld l ∧ s 3 = .int .i64 x.classes.length ∧ s 10 = .int .i64 x.classes.length ∧ s 11 = .int .i64 c ∧ I (c * x.classes.length) h1) ?_ x.classes.length ?_
  rotate_left
  · exact ⟨0, by simpa using h0⟩
  rintro m s h1 ⟨c, hn, hc, s0, s3, s10, s11, hi⟩ ih
  by_cases hlc : c < x.classes.length
  · simp -implicitDefEqProofs [s0, s3, s10, s11, hlc]
    refine run_loop (fun m s h1 => ∃ d : Nat, m = x.classes.length - d ∧ d ≤ x.classes.length ∧ s 0 = .yld l ∧ s 3 = .int .i64 x.classes.length ∧ s 10 = .int .i64 x.classes.length ∧ s 11 = .int .i64 c ∧ s 4 = .int .i64 c ∧ s 14 = .int .i64 x.classes.length ∧ s 15 = .int .i64 d ∧ I (c * x.classes.length + d) h1) ?_ x.classes.length ?_
    rotate_left
    · exact ⟨0, by simp [s0, s3, s10, s11, hi]⟩
    rintro m s h1 ⟨d, hn, hd, s0, s3, s10, s11, s4, s14, s15, hi⟩ ih2
    by_cases hld : d < x.classes.length
    · simp -implicitDefEqProofs [s0, s3, s10, s11, s4, s14, s15, hld]
      refine hr c d _ hlc hld hi _ fun h2 hi2 => ?_
      simp -implicitDefEqProofs [s15, inc_i64 hld (by omega), -Int.natCast_add]
      exact ih2 (x.classes.length - (d + 1)) _ _ (by omega) ⟨d + 1, rfl, by omega, by simp [s0], by simp [s3], by simp [s10], by simp [s11], by simp [s4], by simp [s14], by simp, hi2⟩
    · obtain rfl : d = x.classes.length := by omega
      simp -implicitDefEqProofs [s0, s3, s10, s11, s4, s14, s15, inc_i64 hlc (by omega), -Int.natCast_add]
      exact ih (x.classes.length - (c + 1)) _ _ (by omega) ⟨c + 1, rfl, by omega, by simp [s0], by simp [s3], by simp [s10], by simp, by rw [Nat.add_mul, Nat.one_mul]; exact hi⟩
  · obtain rfl : c = x.classes.length := by omega
    simp -implicitDefEqProofs [s0, s3, s10, s11]
    exact hi

/-- The breakpoints that are turned, after so many pairs. -/
def turnL (n : Nat) (t : Nat → Nat → Int) (k : Nat) : List Int := (List.range 16).map fun i => if i / 4 < n ∧ i % 4 < n ∧ i / 4 * n + i % 4 < k then t (i / 4) (i % 4) else 0

theorem turnL_len (n : Nat) (t : Nat → Nat → Int) (k : Nat) : (turnL n t k).length = 16 := by simp [turnL]
theorem turnL_get (n : Nat) (t : Nat → Nat → Int) (k : Nat) {i : Nat} (hi : i < (turnL n t k).length) : (turnL n t k)[i] = if i / 4 < n ∧ i % 4 < n ∧ i / 4 * n + i % 4 < k then t (i / 4) (i % 4) else 0 := by
  simp [turnL]
theorem turnL_step {n : Nat} (n4 : n ≤ 4) (t : Nat → Nat → Int) {c d : Nat} (hc : c < n) (hd : d < n) : List.take (c * 4 + d) ((turnL n t (c * n + d)).map (AV.int .i64)) ++ AV.int .i64 (t c d) :: List.drop (c * 4 + d + 1) ((turnL n t (c * n + d)).map (AV.int .i64)) = (turnL n t (c * n + d + 1)).map (AV.int .i64) := by
  have hl := turnL_len n t (c * n + d)
  have hl2 := turnL_len n t (c * n + d + 1)
  have key : turnL n t (c * n + d + 1) = (turnL n t (c * n + d)).set (c * 4 + d) (t c d) := by
    apply List.ext_getElem
    · simp [hl, hl2]
    intro i h1 h2
    rw [List.getElem_set, turnL_get]
    by_cases h : c * 4 + d = i
    · subst h
      have e1 : (c * 4 + d) / 4 = c := by omega
      have e2 : (c * 4 + d) % 4 = d := by omega
      rw [e1, e2, if_pos ⟨hc, hd, by omega⟩, if_pos rfl]
    · rw [if_neg h, turnL_get]
      have e : (i / 4 < n ∧ i % 4 < n ∧ i / 4 * n + i % 4 < c * n + d + 1) ↔ (i / 4 < n ∧ i % 4 < n ∧ i / 4 * n + i % 4 < c * n + d) := by
        constructor
        · rintro ⟨a, b, e⟩
          refine ⟨a, b, ?_⟩
          have hne : i / 4 * n + i % 4 ≠ c * n + d := fun he => by
            have q1 : i / 4 = c := by
              rcases Nat.lt_trichotomy (i / 4) c with q | q | q
              · have := Nat.mul_le_mul_right n (show i / 4 + 1 ≤ c by omega)
                rw [Nat.add_mul] at this; omega
              · exact q
              · have := Nat.mul_le_mul_right n (show c + 1 ≤ i / 4 by omega)
                rw [Nat.add_mul] at this; omega
            rw [q1] at he
            omega
          omega
        · rintro ⟨a, b, e⟩
          exact ⟨a, b, by omega⟩
      simp only [e]
  rw [key, List.map_set, List.set_eq_take_append_cons_drop, if_pos (by simp [hl]; omega)]

theorem turned_run (x : Ctlg) (n4 : x.classes.length ≤ 4) {h : H} {G : FuncId} {first caps : List AV} (hf : first.map wk = first) (hcp : caps.map wk = caps) (t : Nat → Nat → Int)
    (ht : ∀ c d h', c < x.classes.length → d < x.classes.length → HF h h' (fun _ => False) (fun _ => False) → SCall Try.prog G (first ++ [.int .i64 c, .int .i64 d] ++ caps) h' (.int .i64 (t c d)) h')
    {S : Slots} {h5 : H} {Q : Res → Slots → H → Prop} {k : List It} (s3 : S 3 = .ptr (h.bn + 1) 0) (s4 : S 4 = .ptr (h.bn + 2) 0) (s5 : S 5 = .ptr (h.bn + 3) 0) (s9 : S 9 = .fn 116 [] [.ptr (h.bn + 4) 0])
    (hln : h5.ln = h.ln) (hbn : h5.bn = h.bn + 5) (b1 : h5.bx (h.bn + 1) = some [.fn G first caps]) (b2 : ∃ cs, h5.bx (h.bn + 2) = some cs ∧ cs.length = 16) (b3 : h5.bx (h.bn + 3) = some ((turnL x.classes.length t 0).map (AV.int .i64))) (b4 : h5.bx (h.bn + 4) = some (encCtlg x)) (hhf : HF h h5 (fun _ => False) (fun _ => False))
    (hk : ∀ h', h.bn + 5 ≤ h'.bn → (∃ cs, h'.bx (h.bn + 2) = some cs ∧ cs.length = 16) → h'.bx (h.bn + 3) = some ((turnL x.classes.length t (x.classes.length * x.classes.length)).map (AV.int .i64)) → HF h h' (fun _ => False) (fun _ => False) → Run Try.prog false k Q S h') :
    Run Try.prog false (.c (.rngf (.t 9) [10, 11] c64_x7 c64_y8) :: k) Q S h5 := by
  let J : Nat → H → Prop := fun k h' => h.ln < h'.ln ∧ h'.lp h.ln = some ⟨S, [10, 11], c64_x7, c64_y8, .ready, none⟩ ∧ h.bn + 5 ≤ h'.bn ∧ h'.bx (h.bn + 1) = some [.fn G first caps] ∧ (∃ cs, h'.bx (h.bn + 2) = some cs ∧ cs.length = 16) ∧ h'.bx (h.bn + 3) = some ((turnL x.classes.length t k).map (AV.int .i64)) ∧ h'.bx (h.bn + 4) = some (encCtlg x) ∧ HF h h' (fun _ => False) (fun _ => False)
  refine .rngf (Z := fun _ h1 => J (x.classes.length * x.classes.length) h1) (F := 116) (first := []) (caps := [.ptr (h.bn + 4) 0]) rfl (by simpa using s9) (pairs1_ok x n4 J (fun k h' ⟨_, _, q1, _, _, _, q2, _⟩ => ⟨by omega, q2⟩) ?_ ?_) ?_ ?_
  · rintro c d h' hc hd ⟨j1, j2, j3, j4, ⟨cs, j5, j5'⟩, j6, j7, j8⟩ K hK
    rw [hln]
    refine callQ_y (q := ⟨S, [10, 11], c64_x7, c64_y8, .ready, none⟩) j1 j2 rfl ?_
    have hst := turnL_step n4 t hc hd
    have hl := turnL_len x.classes.length t (c * x.classes.length + d)
    simp -implicitDefEqProofs [slotsP, j1, j2]
    refine run_dreg c64_d6 ?_
    simp -implicitDefEqProofs [s3, s4, s5, j1, j2, j4, show h.bn + 1 < h'.bn by omega]
    refine callD_s (ht c d (h'.setLoop h.ln _) hc hd ⟨j8.bn, j8.bx, j8.tn, j8.tk, j8.ln, fun l hl => by simp [show l ≠ h.ln by omega]; exact j8.lp l hl, j8.mn, j8.mp⟩) (by simp [hf, hcp]) ?_
    simp -implicitDefEqProofs [s3, s4, s5, j1, j2, j4, j6, show (c : Int) < 4 by omega, show (d : Int) < 4 by omega, hst, hl, show h.bn + 3 < h'.bn by omega, show c * 4 + d + 1 ≤ 16 by omega, roundQ]
    refine ⟨by omega, hK _ ⟨by simpa using j1, by simp, by simpa using j3, by simp [j4], ⟨cs, by simp [j5], j5'⟩, by simp, by simp [j7], ⟨by simpa using j8.bn, fun b hb hn => by simp [show b ≠ h.bn + 3 by omega]; exact j8.bx b hb hn, j8.tn, j8.tk, j8.ln, fun l hl => ?_, j8.mn, j8.mp⟩⟩⟩
    have : l ≠ h.ln := by omega
    simpa [this] using j8.lp l hl
  · exact ⟨by simp [hln], by simp [hln], by simp [hbn], by simpa using b1, by simpa using b2, by simpa using b3, by simpa using b4, ⟨by simpa using hhf.bn, hhf.bx, hhf.tn, hhf.tk, by simp [hln], fun l hl => by simp [hln, show l ≠ h.ln by omega]; exact hhf.lp l hl, hhf.mn, hhf.mp⟩⟩
  · rintro v h2 ⟨j1, j2, j3, j4, j5, j6, j7, j8⟩
    rw [hln]
    exact ⟨j1, _, j2, by simp⟩
  · rintro v h2 q ⟨j1, j2, j3, j4, j5, j6, j7, j8⟩ hq
    rw [hln] at hq ⊢
    rw [j2] at hq
    cases hq
    exact hk _ (by simpa using j3) (by simpa using j5) (by simpa using j6) ⟨j8.bn, j8.bx, j8.tn, j8.tk, j8.ln, fun l hl => by simp [show l ≠ h.ln by omega]; exact j8.lp l hl, j8.mn, j8.mp⟩

theorem turned_ok (x : Ctlg) (hw : x.breaks.length = 16) (n4 : x.classes.length ≤ 4) {h : H} {G : FuncId} {first caps : List AV} (hf : first.map wk = first) (hcp : caps.map wk = caps) (t : Nat → Nat → Int)
    (ht : ∀ c d h', c < x.classes.length → d < x.classes.length → HF h h' (fun _ => False) (fun _ => False) → SCall Try.prog G (first ++ [.int .i64 c, .int .i64 d] ++ caps) h' (.int .i64 (t c d)) h') :
    SCall Try.prog 64 [.agg (encCtlg x), .fn G first caps] h (.agg ((turnL x.classes.length t (x.classes.length * x.classes.length)).map (AV.int .i64))) h := by
  refine SCall.ro (CallP.run hb64 ok64 (by simp) ?_) (.agg (pure_arr _))
  have htk := x.take16 hw
  simp -implicitDefEqProofs [encCtlg, htk, hw]
  refine callQ_s (pairs_ok x hw _) (by simp [encCtlg, htk]) ?_
  simp -implicitDefEqProofs []
  have hz : turnL x.classes.length t 0 = List.replicate 16 0 := by simp [turnL, List.replicate, List.range, List.range.loop]
  refine turned_run x n4 (h := h) hf hcp t ht (by simp) (by simp) (by simp) (by simp) (by simp) (by simp) (by simp) (by simp) (by simp [hz, List.replicate]) (by simp [encCtlg]) ((((HF.alloc _ _ _ _).trans (HF.alloc _ _ _ _)).trans (HF.alloc _ _ _ _)).trans ((HF.alloc _ _ _ _).trans (HF.alloc _ _ _ _))) ?_
  rintro h' q1 ⟨cs, q2, q2'⟩ q3 q4
  have hl := turnL_len x.classes.length t (x.classes.length * x.classes.length)
  have htk2 : List.take 16 ((turnL x.classes.length t (x.classes.length * x.classes.length)).map (AV.int .i64)) = (turnL x.classes.length t (x.classes.length * x.classes.length)).map (AV.int .i64) := List.take_of_length_le (by simp [hl])
  simp -implicitDefEqProofs [q2, q3, hl, htk2, q2', show h.bn + 1 + 1 + 1 < h'.bn by omega, show h.bn + 1 + 1 < h'.bn by omega]
  exact q4.trans' (HF.set (B := (· = h.bn + 1 + 1)) _ rfl) (fun b hb e => by have e : b = h.bn + 1 + 1 := e; omega) (fun _ _ h => h)

def openT (x : Ctlg) (c _ : Nat) : Int := if h : c < x.classes.length then x.classes[c].all else 0
def openOf (x : Ctlg) : Ctlg := x.with (turnL x.classes.length (openT x) (x.classes.length * x.classes.length))

theorem open1_ok (x : Ctlg) (hx : x.small) {h : H} {b c d : Nat} (hb : b < h.bn) (hbx : h.bx b = some (encCtlg x)) (hc : c < x.classes.length) : SCall Try.prog 65 [.int .i64 c, .int .i64 d, .ptr b 0] h (.int .i64 (openT x c d)) h := by
  refine SCall.ro (CallP.run hb65 ok65 (by simp) ?_) (.int _ _)
  rw [encCtlg] at hbx
  simp -implicitDefEqProofs [hb, hbx, hc, idxOf_nat hc]
  refine callQ_p (all_ok x.classes[c] (hx.2.2.1 _ (List.getElem_mem hc))) (by simp) ?_
  simp -implicitDefEqProofs [openT, hc]
  exact HF.refl _ _ _

theorem Ctlg.with_len (x : Ctlg) (l : List Int) : (x.with l).classes = x.classes := rfl
theorem opened_ok (x : Ctlg) (hx : x.small) : PCall Try.prog 24 [.agg (encCtlg x)] (.agg (encCtlg (openOf x))) := by
  refine PCall.run hb24 ok24 (by simp) (pures1 (.agg (pure_encCtlg x))) (.agg (pure_encCtlg _)) ?_
  have htk := x.take16 hx.2.2.2
  have hbl := hx.2.2.2
  simp -implicitDefEqProofs [encCtlg, htk, hbl]
  refine callQ_p (copied_ok x hx) (by simp [encCtlg, htk]) ?_
  simp -implicitDefEqProofs [encCtlg, htk, hbl, H.nil]
  refine callQ_s (turned_ok x hbl hx.2.1 (first := []) (caps := [.ptr 0 0]) rfl (by simp) (openT x) fun c d h' hc hd hf => open1_ok x hx ?_ ?_ hc) (by simp [encCtlg, htk]) ?_
  · have := hf.bn
    simp at this
    omega
  · rw [hf.bx 0 (by simp) (fun h => h)]
    simp [encCtlg, hbl]
  have hl := turnL_len x.classes.length (openT x) (x.classes.length * x.classes.length)
  have hdr : List.drop 16 (x.breaks.map (AV.int .i64)) = [] := by simp [hbl]
  simp -implicitDefEqProofs [hbl, hl, hdr, H.nil]
  exact ⟨rfl, by rw [List.take_of_length_le (by simp [hl]), List.take_of_length_le (by simp [hl])]; rfl⟩
end Go.Proofs
