/- What the functions that the statement reaches do: their contracts; and what follows of it. -/
import Derived.Test.YtdcpendppalkgaaGreatSLintAdvice2
import Derived.Test.YtdcpendppalkgaaGreatSLintAdvice1
import Derived.Test.YtdcpendppalkgaaGreatK4
/- The document's sets of keys: what its functions say. -/
namespace Go.Am
open Go Go.RowKit
/-- A pointer to a box that no longer turns. -/
theorem Gh.rop {h : H} {b : Nat} {cs : List AV} (hb : b < h.bn) (hc : h.bx b = some cs) : Gh h (.ptr b 0) (h.kill b) (.rop cs) := by
  refine .frz b cs hb hc (fun w g V hro hr => ?_) (.refl _ _)
  cases hr with
  | ptr b o h1 =>
    have key : ∀ k (hk : k < cs.length), ∃ U, k < g.ro (g.bx b) ∧ w.cell? ⟨g.bx b, k, none⟩ = some U ∧ Rep w g cs[k] U ∧ ok1 cs[k] = true := fun k hk => hro k _ (List.getElem?_eq_getElem hk)
    refine Rep.rop cs ⟨g.bx b, 0, none⟩ (fun k => if hk : k < cs.length then Classical.choose (key k hk) else .nilFunc) (fun k hk => ?_) (fun k hk => ?_) (fun k hk => ?_)
    · obtain ⟨q1, q2, _⟩ := Classical.choose_spec (key k hk)
      refine ⟨g.bx b, 0, rfl, by rw [Nat.zero_add]; exact q1, ?_⟩
      rw [dif_pos hk, Nat.zero_add]
      exact q2
    · rw [dif_pos hk]
      exact (Classical.choose_spec (key k hk)).2.2.1
    · exact (Classical.choose_spec (key k hk)).2.2.2
end Go.Am
namespace Go.Proofs
open Go Go.RowKit Go.Am

def setA (f : Nat → Bool) : List AV := (List.range 1000).map fun k => .bool (f k)
@[simp] theorem setA_len (f : Nat → Bool) : (setA f).length = 1000 := by simp only [setA, List.length_map, List.length_range]
theorem setA_get (f : Nat → Bool) {k : Nat} (hk : k < 1000) : (setA f)[k]? = some (.bool (f k)) := by
  rw [setA, List.getElem?_map, List.getElem?_range hk]; rfl
theorem setA_at (f : Nat → Bool) {k : Nat} (hk : k < 1000) : List.take 1 (List.drop k (setA f)) = [.bool (f k)] := by
  have h := setA_get f hk
  obtain ⟨hk', e⟩ := List.getElem?_eq_some_iff.1 h
  rw [List.drop_eq_getElem_cons hk', e]
  rfl
theorem setA_put (f : Nat → Bool) {k : Nat} (hk : k < 1000) (v : Bool) : List.take k (setA f) ++ .bool v :: List.drop (k + 1) (setA f) = setA fun i => if i = k then v else f i := by
  have e : setA (fun i => if i = k then v else f i) = (setA f).set k (.bool v) := by
    apply List.ext_getElem?
    intro i
    rw [List.getElem?_set]
    by_cases h : k = i
    · subst h
      rw [if_pos rfl, if_pos (by rw [setA_len]; exact hk), setA_get _ hk, if_pos rfl]
    · rw [if_neg h]
      by_cases hi : i < 1000
      · rw [setA_get _ hi, setA_get _ hi, if_neg (fun e => h e.symm)]
      · rw [List.getElem?_eq_none (by rw [setA_len]; omega), List.getElem?_eq_none (by rw [setA_len]; omega)]
  rw [e, List.set_eq_take_append_cons_drop, if_pos (by rw [setA_len]; exact hk)]
theorem setA_zero : List.replicate 1000 (AV.bool false) = setA fun _ => false := by
  apply List.ext_getElem?
  intro i
  by_cases hi : i < 1000
  · rw [setA_get _ hi, List.getElem?_replicate, if_pos hi]
  · rw [List.getElem?_eq_none (by rw [List.length_replicate]; omega), List.getElem?_eq_none (by rw [setA_len]; omega)]
theorem setA_congr {f g : Nat → Bool} (h : ∀ k, k < 1000 → f k = g k) : setA f = setA g := by
  apply List.ext_getElem?
  intro i
  by_cases hi : i < 1000
  · rw [setA_get _ hi, setA_get _ hi, h i hi]
  · rw [List.getElem?_eq_none (by rw [setA_len]; omega), List.getElem?_eq_none (by rw [setA_len]; omega)]
theorem pure_setA (f : Nat → Bool) : ∀ v ∈ setA f, PureV v := by
  intro v hv
  obtain ⟨k, _, rfl⟩ := List.mem_map.1 hv
  exact .bool _
theorem wk_setA (f : Nat → Bool) : (setA f).map wk = setA f := by simp [setA]
/-- A set, as the document has it. -/
def setP (f : Nat → Bool) : AV := .rop (setA f)
theorem pure_setP (f : Nat → Bool) : PureV (setP f) := .rop (pure_setA f)
theorem wk_setP (f : Nat → Bool) : Am.wk (setP f) = setP f := by simp [setP, wk_setA]

def upTo (l : List Sp) (lo k : Int) (i : Nat) : Bool := hasK l i || (decide (lo ≤ i) && decide ((i : Int) < k))

set_option maxHeartbeats 1000000 in
theorem refOf_ok (l : List Sp) (hl : l.length ≤ 1000000) : PCall Tryz.prog 122 [encL l] (setP fun k => hasK l k) := by
  refine PCall.run' hb122 ok122 (by simp) (pures1 (pure_encL l)) (pure_setP _) (wk_setP _) ?_
  simp -implicitDefEqProofs [-List.reduceReplicate, setA_zero, H.nil]
  refine run_loop (fun n s h => ∃ i : Nat, n = l.length - i ∧ i ≤ l.length ∧ s 0 = encL l ∧ s 3 = .ptr 0 0 ∧ s 4 = .int .i64 i ∧ 0 < h.bn ∧ h.bx 0 = some (setA fun k => hasK (l.take i) k)) ?_ l.length ?_
  rotate_left
  · exact ⟨0, by simp [encL, hasK_nil]⟩
  rintro n s h ⟨i, hn, hi, s0, s3, s4, hb, hc⟩ ih
  by_cases hlt : i < l.length
  · rw [encL] at s0
    have i1 := idxOf_nat (k := .i64) hlt
    have hnext : ∀ k, hasK (l.take (i + 1)) k = (hasK (l.take i) k || inS l[i] k) := fun k => by
      rw [List.take_succ_eq_append_getElem hlt, hasK_app, hasK_cons, hasK_nil, Bool.or_false]
    have hskip : mayS l[i] = false → ∀ k : Nat, hasK (l.take (i + 1)) k = hasK (l.take i) k := fun hm k => by
      rw [hnext, inS, hm]; simp
    have hgo : ∀ s1 h1, s1 0 = encL l → s1 3 = .ptr 0 0 → s1 4 = .int .i64 (i + 1 : Nat) → 0 < h1.bn → h1.bx 0 = some (setA fun k => hasK (l.take (i + 1)) k) → Run Tryz.prog false [.lp c122_l12, .blk 0, .c (.seq (.reg c122_r13) .ret)] (retQ [.t 2] fun r' h1 => ∃ h', Gh h1 r' h' (setP fun k => hasK l k)) s1 h1 := fun s1 h1 q0 q3 q4 q5 q6 =>
      ih (l.length - (i + 1)) _ _ (by omega) ⟨i + 1, rfl, by omega, q0, q3, q4, q5, q6⟩
    by_cases h1 : l[i].1 < 0
    · have hm : mayS l[i] = false := by rw [Bool.eq_false_iff]; intro e; have := mayS_iff.1 e; omega
      simp -implicitDefEqProofs [s0, s4, hlt, avP, h1, inc_i64 hlt (by omega), -Int.natCast_add]
      refine hgo _ _ (by simp [s0, encL]) (by simp [s3]) (by simp) hb (by rw [hc]; exact congrArg some (setA_congr fun k _ => (hskip hm k).symm))
    · by_cases h2 : 999 < l[i].2
      · have hm : mayS l[i] = false := by rw [Bool.eq_false_iff]; intro e; have := mayS_iff.1 e; omega
        simp -implicitDefEqProofs [s0, s4, hlt, avP, h1, h2, inc_i64 hlt (by omega), -Int.natCast_add]
        refine hgo _ _ (by simp [s0, encL]) (by simp [s3]) (by simp) hb (by rw [hc]; exact congrArg some (setA_congr fun k _ => (hskip hm k).symm))
      · simp -implicitDefEqProofs [s0, s4, hlt, avP, h1, h2]
        refine run_loop (fun n s h => ∃ k : Int, n = (l[i].2 + 1 - k).toNat ∧ l[i].1 ≤ k ∧ (k ≤ l[i].2 + 1 ∨ k = l[i].1) ∧ s 0 = encL l ∧ s 3 = .ptr 0 0 ∧ s 4 = .int .i64 i ∧ s 5 = .int .i64 k ∧ 0 < h.bn ∧ h.bx 0 = some (setA (upTo (l.take i) l[i].1 k))) ?_ (l[i].2 + 1 - l[i].1).toNat ?_
        rotate_left
        · refine ⟨l[i].1, rfl, Int.le_refl _, .inr rfl, by simp [s0, encL], by simp [s3], by simp [s4], by simp, hb, ?_⟩
          rw [hc]
          refine congrArg some (setA_congr fun k _ => ?_)
          simp only [upTo]
          rw [show (decide (l[i].1 ≤ (k : Int)) && decide ((k : Int) < l[i].1)) = false by simp, Bool.or_false]
        rintro n s h ⟨k, hn, hk1, hk2, s0, s3, s4, s5, hb, hc⟩ ih2
        rw [encL] at s0
        by_cases hle : k ≤ l[i].2
        · obtain ⟨m, rfl⟩ : ∃ m : Nat, k = m := ⟨k.toNat, by omega⟩
          have hm : m < 1000 := by omega
          have i2 := idxOf_nat (k := .i64) hm
          have hp := setA_put (upTo (l.take i) l[i].1 m) hm true
          simp -implicitDefEqProofs [s0, s3, s4, s5, hlt, hle, avP, hb, hc, hp, show m + 1 ≤ 1000 by omega, show (m : Int) < 1000 by omega, inc_i64 hm (by omega), -Int.natCast_add]
          refine ih2 (l[i].2 + 1 - ((m + 1 : Nat) : Int)).toNat _ _ (by omega) ⟨((m + 1 : Nat) : Int), rfl, by omega, .inl (by omega), by simp [s0, encL], by simp [s3], by simp [s4], by simp, by simpa using hb, ?_⟩
          simp only [set_bx, if_true]
          refine congrArg some (setA_congr fun j _ => ?_)
          by_cases hj : j = m
          · subst hj
            simp only [upTo]
            rw [show decide (l[i].1 ≤ (j : Int)) = true from decide_eq_true (by omega), show decide ((j : Int) < ((j + 1 : Nat) : Int)) = true from decide_eq_true (by omega)]
            simp
          · simp only [upTo]
            have e : decide ((j : Int) < ((m + 1 : Nat) : Int)) = decide ((j : Int) < (m : Int)) := by
              rw [Bool.eq_iff_iff, decide_eq_true_eq, decide_eq_true_eq]
              omega
            rw [e, show decide (j = m) = false from decide_eq_false hj, Bool.false_or]
        · simp -implicitDefEqProofs [s0, s4, s5, hlt, hle, avP, inc_i64 hlt (by omega), -Int.natCast_add]
          refine hgo _ _ (by simp [s0, encL]) (by simp [s3]) (by simp) hb ?_
          rw [hc]
          refine congrArg some (setA_congr fun j _ => ?_)
          rw [hnext]
          simp only [upTo]
          congr 1
          rw [Bool.eq_iff_iff, inS_iff, mayS_iff, Bool.and_eq_true, decide_eq_true_eq, decide_eq_true_eq]
          omega
  · obtain rfl : i = l.length := by omega
    rw [List.take_length] at hc
    simp -implicitDefEqProofs [s0, s3, s4, encL]
    exact ⟨_, Gh.rop hb hc⟩
end Go.Proofs

/- The document's sets of keys: the plain list of a set; the same; a key in common. -/
namespace Go.Proofs
open Go Go.RowKit Go.Am

end Go.Proofs

/- The document's sets of keys: are two lists the same, have two sets a key in common? The program's short functions. -/
namespace Go.Proofs
open Go Go.RowKit Go.Am

theorem pures2 {a b : AV} (ha : PureV a) (hb : PureV b) : ∀ v ∈ [a, b], PureV v := pures_cons ha (pures1 hb)
theorem refSame_ok (a b : List Sp) (ha : a.length ≤ 1000000) (hb : b.length ≤ 1000000) : PCall Tryz.prog 20 [encL a, encL b] (.bool (decide (a = b))) := by
  refine PCall.run hb20 ok20 (by simp) (pures2 (pure_encL a) (pure_encL b)) (.bool _) ?_
  by_cases hl : a.length = b.length
  · simp -implicitDefEqProofs [encL, hl]
    refine run_loop (fun n s h => ∃ j : Nat, n = b.length - j ∧ j ≤ b.length ∧ s 0 = encL a ∧ s 1 = encL b ∧ s 5 = .int .i64 j ∧ a.take j = b.take j) ?_ b.length ?_
    rotate_left
    · exact ⟨0, by simp [encL]⟩
    rintro n s h ⟨j, hn, hj, s0, s1, s5, he⟩ ih
    rw [encL] at s0 s1
    by_cases hlt : j < b.length
    · have hlt' : j < a.length := by omega
      have i1 := idxOf_nat (k := .i64) hlt
      have i2 := idxOf_nat (k := .i64) hlt'
      have hs : a.take (j + 1) = b.take (j + 1) ↔ a[j] = b[j] := by
        rw [List.take_succ_eq_append_getElem (l := b) hlt, List.take_succ_eq_append_getElem (l := a) hlt', he]
        simp only [List.append_cancel_left_eq, List.cons.injEq, and_true]
      have hx : a[j] ≠ b[j] → a ≠ b := fun h e => by subst e; exact h rfl
      simp -implicitDefEqProofs [s0, s5, hl, hlt]
      refine run_dreg c20_d6 ?_
      by_cases h1 : a[j].1 = b[j].1
      · by_cases h2 : a[j].2 = b[j].2
        · simp -implicitDefEqProofs [s0, s1, s5, hl, hlt, avP, h1, h2, inc_i64 hlt (by omega), -Int.natCast_add]
          exact ih (b.length - (j + 1)) _ _ (by omega) ⟨j + 1, rfl, by omega, by simp [s0, encL], by simp [s1, encL], by simp, hs.2 (Prod.ext h1 h2)⟩
        · have hne := hx fun e => h2 (by rw [e])
          simp -implicitDefEqProofs [s0, s1, s5, hl, hlt, avP, h1, h2, hne]
      · have hne := hx fun e => h1 (by rw [e])
        simp -implicitDefEqProofs [s0, s1, s5, hl, hlt, avP, h1, hne]
    · obtain rfl : j = b.length := by omega
      rw [List.take_length, List.take_of_length_le (by omega)] at he
      simp -implicitDefEqProofs [s0, s5, he]
  · have hne : a ≠ b := fun e => hl (by rw [e])
    simp -implicitDefEqProofs [encL, hl, hne]

def meetB (f g : Nat → Bool) : Bool := (List.range 1000).any fun k => f k && g k
theorem meetB_iff (f g : Nat → Bool) : meetB f g = true ↔ ∃ k, k < 1000 ∧ f k = true ∧ g k = true := by
  simp only [meetB, List.any_eq_true, List.mem_range, Bool.and_eq_true]
theorem refMeet_ok (f g : Nat → Bool) : PCall Tryz.prog 28 [setP f, setP g] (.bool (meetB f g)) := by
  refine PCall.run hb28 ok28 (by simp) (pures2 (pure_setP f) (pure_setP g)) (.bool _) ?_
  simp -implicitDefEqProofs []
  refine run_loop (fun n s h => ∃ k : Nat, n = 1000 - k ∧ k ≤ 1000 ∧ s 0 = setP f ∧ s 1 = setP g ∧ s 5 = .int .i64 k ∧ ∀ i, i < k → (f i && g i) = false) ?_ 1000 ?_
  rotate_left
  · exact ⟨0, by simp⟩
  rintro n s h ⟨k, hn, hk, s0, s1, s5, hall⟩ ih
  by_cases hlt : k < 1000
  · have hki : (k : Int) < 1000 := by omega
    have i1 := idxOf_nat (k := .i64) hlt
    have g1 := setA_at f hlt
    have g2 := setA_at g hlt
    have hgo : ∀ s1 h1, s1 0 = setP f → s1 1 = setP g → s1 5 = .int .i64 (k + 1 : Nat) → (f k && g k) = false → Run Tryz.prog false [.lp c28_l7, .blk 0, .c (.seq (.reg c28_r8) .ret)] (retQ [.t 4] fun r' h1 => Am.wk r' = .bool (meetB f g)) s1 h1 := fun s1 h1 q0 q3 q4 q5 =>
      ih (1000 - (k + 1)) _ _ (by omega) ⟨k + 1, rfl, by omega, q0, q3, q4, fun i hi => by
        by_cases h : i = k
        · subst h; exact q5
        · exact hall i (by omega)⟩
    cases hf : f k with
    | false =>
      rw [hf] at g1
      simp -implicitDefEqProofs [s0, s5, hki, setP, g1, show 1 ≤ 1000 - k by omega, inc_i64 hlt (by omega), -Int.natCast_add]
      exact hgo _ _ (by simp [s0, setP]) (by simp [s1, setP]) (by simp) (by rw [hf]; rfl)
    | true =>
      rw [hf] at g1
      cases hg : g k with
      | false =>
        rw [hg] at g2
        simp -implicitDefEqProofs [s0, s1, s5, hki, setP, g1, g2, show 1 ≤ 1000 - k by omega, inc_i64 hlt (by omega), -Int.natCast_add]
        exact hgo _ _ (by simp [s0, setP]) (by simp [s1, setP]) (by simp) (by rw [hf, hg]; rfl)
      | true =>
        rw [hg] at g2
        have := (meetB_iff f g).2 ⟨k, hlt, hf, hg⟩
        simp -implicitDefEqProofs [s0, s1, s5, hki, setP, g1, g2, show 1 ≤ 1000 - k by omega, this]
  · obtain rfl : k = 1000 := by omega
    have : meetB f g = false := by
      rw [Bool.eq_false_iff]
      intro e
      obtain ⟨i, hi, h1, h2⟩ := (meetB_iff f g).1 e
      have := hall i hi
      rw [h1, h2] at this
      cases this
    simp -implicitDefEqProofs [s5, this]

/-! ### The program's -/
theorem plainA_ok (l : List Sp) (hl : l.length ≤ 1000000) : PCall Tryz.prog 53 [.sl .no [[encL l]]] (encL (plainL l)) := by
  have := plain_ok [l] (by simpa [tot] using hl) (by simp)
  simpa using this
theorem keysPlain_ok (l : List Sp) (hl : l.length ≤ 1000000) : PCall Tryz.prog 36 [encL l] (encL (plainL l)) := by
  refine PCall.run hb36 ok36 (by simp) (pures1 (pure_encL l)) (pure_encL _) ?_
  simp -implicitDefEqProofs []
  refine callQ_p (plainA_ok l hl) (by simp [wk_encL]) ?_
  simp -implicitDefEqProofs [wk_encL]
theorem keysUnion_ok (a b : List Sp) (hl : a.length + b.length ≤ 1000000) : PCall Tryz.prog 51 [encL a, encL b] (encL (plainL (a ++ b))) := by
  refine PCall.run hb51 ok51 (by simp) (pures2 (pure_encL a) (pure_encL b)) (pure_encL _) ?_
  have := plain_ok [a, b] (by simpa [tot] using hl) (by simp)
  simp only [List.map_cons, List.map_nil, List.flatten_cons, List.flatten_nil, List.append_nil] at this
  simp -implicitDefEqProofs []
  refine callQ_p this (by simp [wk_encL]) ?_
  simp -implicitDefEqProofs [wk_encL]
end Go.Proofs

/- A text's bytes as words: both ways of packing, and the writer of texts. -/
namespace Go.Proofs
open Go Go.RowKit Go.Am

end Go.Proofs

/- The program's packing of texts. -/
namespace Go.Proofs
open Go Go.RowKit Go.Am

end Go.Proofs

/- The program's packing of texts: the run. -/
namespace Go.Proofs
open Go Go.RowKit Go.Am

end Go.Proofs

/- The writer of texts; copies; what a writer hands back. -/
namespace Go.Proofs
open Go Go.RowKit Go.Am

end Go.Proofs

/- Items: what is written of them, by the program and by the document. -/
namespace Go.Proofs
open Go Go.RowKit Go.Am

structure Item where
  kind : Int
  n : Int
  most : Int
  x : Int
  s : ByteArray
  l : List Nat

def inI (x : Int) : Prop := -9223372036854775808 ≤ x ∧ x ≤ 9223372036854775807
def Item.ok (x : Item) : Prop := inI x.n ∧ inI x.x ∧ x.s.size ≤ 1000 ∧ x.l.length ≤ 1000
def encItm (x : Item) : List AV := [.int .i64 x.kind, .int .i64 x.n, .int .i64 x.most, .int .i64 x.x, .str x.s, encW x.l]

theorem WB.alloc {h : H} {b : Nat} {t : Tok} {ws : List Nat} (hw : WB h b t ws) (cs : List AV) : WB (h.alloc cs) b t ws :=
  ⟨by have := hw.lt; simp; omega, by have := hw.lt; have h2 : b ≠ h.bn := by omega
                                     simp [h2, hw.bx], by simpa using hw.live⟩
theorem WTo.alloc {h : H} {b : Nat} {t : Tok} {ws : List Nat} {h' : H} {t' : Tok} {cs : List AV} (q : WTo (h.alloc cs) b t ws h' t') : WTo h b t ws h' t' :=
  ⟨q.wb, q.next, (HF.alloc h cs _ _).trans q.keep⟩

/-- A slice of words that grows. -/
structure STo (h : H) (t : Tok) (ws : List Nat) (r : AV) (h' : H) (t' : Tok) : Prop where
  val : r = .sl t' (ws.map w64)
  live : TLive h' t' ws.length
  next : TNext h t t'
  keep : HF h h' (fun _ => False) (TOwn t)

end Go.Proofs

/- What the statements about codes ask first: no more items than are looked at; the document's examples. -/
namespace Go.Proofs
open Go Go.RowKit Go.Am

def greatI (x : Item) : Bool := decide (100 < x.l.length) || decide (200 < x.s.size) || decide (x.kind < 0) || decide (4 < x.kind)
def great (l : List Item) : Bool := l.any greatI || decide (60 < l.length)

@[simp] theorem wk_encI (x : Item) : List.map wk (encItm x) = encItm x := by simp [encItm]
@[simp] theorem wk_encI' : List.map wk ∘ encItm = encItm := by funext x; simp

theorem WB.new (h : H) : WB (h.alloc [.sl .full []]) h.bn .full [] := ⟨by simp, by simp, trivial⟩

end Go.Proofs

/- The statement CodesWrite: what its function hands back. -/
namespace Go.Proofs
open Go Go.RowKit Go.Am

end Go.Proofs

/- PRINTED BY types.py, a program of this work: the program's types as Lean structures; their cells. -/
namespace Go.Proofs
open Go Go.RowKit Go.Am

def encN (n : Int) : List AV := [.int .i64 n]
@[simp] theorem wk_encN (n : Int) : List.map wk (encN n) = encN n := by simp [encN]
@[simp] theorem wk_encN' : List.map wk ∘ encN = encN := by funext x; simp
theorem pure_arr (l : List Int) : ∀ v ∈ l.map (AV.int .i64), PureV v := fun v hv => by
  obtain ⟨n, _, rfl⟩ := List.mem_map.1 hv
  exact .int _ _
theorem pures_app {a b : List AV} (ha : ∀ v ∈ a, PureV v) (hb : ∀ v ∈ b, PureV v) : ∀ v ∈ a ++ b, PureV v := fun v hv => by
  rcases List.mem_append.1 hv with h | h
  · exact ha v h
  · exact hb v h
theorem pure_sl {α : Type} {f : α → List AV} (hf : ∀ x, ∀ v ∈ f x, PureV v) (l : List α) : PureV (.sl .no (l.map f)) := .sl (fun i h => by cases h) fun e he v hv => by
  obtain ⟨x, _, rfl⟩ := List.mem_map.1 he
  exact hf x v hv
@[simp] theorem wk_arr (l : List Int) : List.map wk (l.map (AV.int .i64)) = l.map (AV.int .i64) := by
  rw [List.map_map]; apply List.map_congr_left; intro x _; simp
@[simp] theorem wk_arr' : wk ∘ AV.int .i64 = AV.int .i64 := by funext x; simp
/-! ### Shapes -/
theorem sh_int {v : AV} (h : (Sh.int .i64).is v) : ∃ n, v = .int .i64 n ∧ inI n := by
  obtain ⟨n, rfl, hw⟩ := h
  refine ⟨n, rfl, ?_⟩
  simp [Lit.wf, IntKind.min, IntKind.max, IntKind.signed, IntKind.bits] at hw
  exact ⟨by omega, by omega⟩
theorem sh_list {α : Type} {f : α → List AV} {sh : List Sh} {wf : α → Prop} (hf : ∀ vs, isL sh vs → ∃ x, vs = f x ∧ wf x) : ∀ {es : List (List AV)}, (∀ e ∈ es, isL sh e) → ∃ l : List α, es = l.map f ∧ ∀ x ∈ l, wf x
  | [], _ => ⟨[], rfl, fun x hx => by cases hx⟩
  | e :: es, h => by
    obtain ⟨l, rfl, hl⟩ := sh_list hf (es := es) fun e he => h e (List.mem_cons_of_mem _ he)
    obtain ⟨x, rfl, hx⟩ := hf e (h e (List.mem_cons_self ..))
    exact ⟨x :: l, rfl, fun y hy => by
      rcases List.mem_cons.1 hy with rfl | hy
      · exact hx
      · exact hl y hy⟩
theorem isL_app : ∀ {a b : List Sh} {vs : List AV}, isL (a ++ b) vs → ∃ x y, vs = x ++ y ∧ isL a x ∧ isL b y
  | [], b, vs, h => ⟨[], vs, rfl, rfl, h⟩
  | s :: a, b, vs, h => by
    simp only [List.cons_append, isL] at h
    obtain ⟨v, r, rfl, h1, h2⟩ := h
    obtain ⟨x, y, rfl, h3, h4⟩ := isL_app h2
    refine ⟨v :: x, y, rfl, ?_, h4⟩
    simp only [isL]
    exact ⟨v, x, rfl, h1, h3⟩
theorem isL_one {s : Sh} {vs : List AV} (h : isL [s] vs) : ∃ v, vs = [v] ∧ s.is v := by
  simp only [isL] at h
  obtain ⟨v, r, rfl, h1, rfl⟩ := h
  exact ⟨v, rfl, h1⟩
theorem isL_encN {vs : List AV} (h : isL [.int .i64] vs) : ∃ n, vs = encN n ∧ inI n := by
  obtain ⟨v, rfl, h1⟩ := isL_one h
  obtain ⟨n, rfl, hn⟩ := sh_int h1
  exact ⟨n, rfl, hn⟩
theorem isL_arr : ∀ {n : Nat} {vs : List AV}, isL (List.replicate n (.int .i64)) vs → ∃ l : List Int, vs = l.map (AV.int .i64) ∧ l.length = n ∧ ∀ x ∈ l, inI x
  | 0, vs, h => by
    simp only [List.replicate, isL] at h
    exact ⟨[], h, rfl, fun x hx => by cases hx⟩
  | n + 1, vs, h => by
    simp only [List.replicate, isL] at h
    obtain ⟨v, r, rfl, h1, h2⟩ := h
    obtain ⟨l, rfl, h3, h4⟩ := isL_arr h2
    obtain ⟨x, rfl, hx⟩ := sh_int h1
    exact ⟨x :: l, rfl, by simp [h3], fun y hy => by
      rcases List.mem_cons.1 hy with rfl | hy
      · exact hx
      · exact h4 y hy⟩
theorem isL_sl {α : Type} {f : α → List AV} {sh : List Sh} {wf : α → Prop} (hf : ∀ vs, isL sh vs → ∃ x, vs = f x ∧ wf x) {vs : List AV} (h : isL [.sl sh] vs) : ∃ l : List α, vs = [.sl .no (l.map f)] ∧ l.length ≤ maxLen ∧ ∀ x ∈ l, wf x := by
  obtain ⟨v, rfl, h1⟩ := isL_one h
  simp only [Sh.is] at h1
  obtain ⟨es, rfl, h2, h3⟩ := h1
  obtain ⟨l, rfl, h4⟩ := sh_list hf h3
  exact ⟨l, rfl, by simpa using h2, h4⟩

/-! ### KeyT -/
structure KeyT where
  arg : Int
  base : Int
  deriving DecidableEq

def encKeyT (x : KeyT) : List AV := [.int .i64 x.arg, .int .i64 x.base]
def KeyT.wf (x : KeyT) : Prop := inI x.arg ∧ inI x.base
@[simp] theorem encKeyT_len (x : KeyT) : (encKeyT x).length = 2 := rfl
@[simp] theorem wk_encKeyT (x : KeyT) : List.map wk (encKeyT x) = encKeyT x := by simp [encKeyT]
@[simp] theorem wk_encKeyT' : List.map wk ∘ encKeyT = encKeyT := by funext x; simp
theorem pure_encKeyT (x : KeyT) : ∀ v ∈ encKeyT x, PureV v := (pures_cons (.int _ _) (pures_cons (.int _ _) pures_nil))
def shKeyT : List Sh := [.int .i64] ++ [.int .i64]
theorem isL_encKeyT {vs : List AV} (h : isL shKeyT vs) : ∃ x : KeyT, vs = encKeyT x ∧ x.wf := by
  unfold shKeyT at h
  obtain ⟨vs, v1, rfl, h, h1⟩ := isL_app h
  have h0 := h
  obtain ⟨u0, rfl, w0⟩ := isL_encN h0
  obtain ⟨u1, rfl, w1⟩ := isL_encN h1
  refine ⟨⟨u0, u1⟩, ?_, ⟨w0, w1⟩⟩
  simp [encKeyT, encN]

/-! ### Inst -/
structure Inst where
  op : Int
  a : Int
  b : Int
  c : Int
  k : KeyT
  l : KeyT
  x : Int
  deriving DecidableEq

def encInst (x : Inst) : List AV := [.int .i64 x.op, .int .i64 x.a, .int .i64 x.b, .int .i64 x.c, .int .i64 x.k.arg, .int .i64 x.k.base, .int .i64 x.l.arg, .int .i64 x.l.base, .int .i64 x.x]
def Inst.wf (x : Inst) : Prop := inI x.op ∧ inI x.a ∧ inI x.b ∧ inI x.c ∧ x.k.wf ∧ x.l.wf ∧ inI x.x
@[simp] theorem encInst_len (x : Inst) : (encInst x).length = 9 := rfl
@[simp] theorem wk_encInst (x : Inst) : List.map wk (encInst x) = encInst x := by simp [encInst]
@[simp] theorem wk_encInst' : List.map wk ∘ encInst = encInst := by funext x; simp
theorem pure_encInst (x : Inst) : ∀ v ∈ encInst x, PureV v := (pures_cons (.int _ _) (pures_cons (.int _ _) (pures_cons (.int _ _) (pures_cons (.int _ _) (pures_cons (.int _ _) (pures_cons (.int _ _) (pures_cons (.int _ _) (pures_cons (.int _ _) (pures_cons (.int _ _) pures_nil)))))))))
def shInst : List Sh := [.int .i64] ++ [.int .i64] ++ [.int .i64] ++ [.int .i64] ++ shKeyT ++ shKeyT ++ [.int .i64]
theorem isL_encInst {vs : List AV} (h : isL shInst vs) : ∃ x : Inst, vs = encInst x ∧ x.wf := by
  unfold shInst at h
  obtain ⟨vs, v6, rfl, h, h6⟩ := isL_app h
  obtain ⟨vs, v5, rfl, h, h5⟩ := isL_app h
  obtain ⟨vs, v4, rfl, h, h4⟩ := isL_app h
  obtain ⟨vs, v3, rfl, h, h3⟩ := isL_app h
  obtain ⟨vs, v2, rfl, h, h2⟩ := isL_app h
  obtain ⟨vs, v1, rfl, h, h1⟩ := isL_app h
  have h0 := h
  obtain ⟨u0, rfl, w0⟩ := isL_encN h0
  obtain ⟨u1, rfl, w1⟩ := isL_encN h1
  obtain ⟨u2, rfl, w2⟩ := isL_encN h2
  obtain ⟨u3, rfl, w3⟩ := isL_encN h3
  obtain ⟨u4, rfl, w4⟩ := isL_encKeyT h4
  obtain ⟨u5, rfl, w5⟩ := isL_encKeyT h5
  obtain ⟨u6, rfl, w6⟩ := isL_encN h6
  refine ⟨⟨u0, u1, u2, u3, u4, u5, u6⟩, ?_, ⟨w0, w1, w2, w3, w4, w5, w6⟩⟩
  simp [encInst, encN, encKeyT]

/-! ### SpanT -/
structure SpanT where
  lo : KeyT
  hi : KeyT
  write : Bool
  deriving DecidableEq

def encSpanT (x : SpanT) : List AV := [.int .i64 x.lo.arg, .int .i64 x.lo.base, .int .i64 x.hi.arg, .int .i64 x.hi.base, .bool x.write]
def SpanT.wf (x : SpanT) : Prop := x.lo.wf ∧ x.hi.wf
@[simp] theorem encSpanT_len (x : SpanT) : (encSpanT x).length = 5 := rfl
@[simp] theorem wk_encSpanT (x : SpanT) : List.map wk (encSpanT x) = encSpanT x := by simp [encSpanT]
@[simp] theorem wk_encSpanT' : List.map wk ∘ encSpanT = encSpanT := by funext x; simp
theorem pure_encSpanT (x : SpanT) : ∀ v ∈ encSpanT x, PureV v := (pures_cons (.int _ _) (pures_cons (.int _ _) (pures_cons (.int _ _) (pures_cons (.int _ _) (pures_cons (.bool _) pures_nil)))))
def shSpanT : List Sh := shKeyT ++ shKeyT ++ [.bool]
theorem isL_encSpanT {vs : List AV} (h : isL shSpanT vs) : ∃ x : SpanT, vs = encSpanT x ∧ x.wf := by
  unfold shSpanT at h
  obtain ⟨vs, v2, rfl, h, h2⟩ := isL_app h
  obtain ⟨vs, v1, rfl, h, h1⟩ := isL_app h
  have h0 := h
  obtain ⟨u0, rfl, w0⟩ := isL_encKeyT h0
  obtain ⟨u1, rfl, w1⟩ := isL_encKeyT h1
  obtain ⟨_, rfl, u2, rfl⟩ := isL_one h2
  refine ⟨⟨u0, u1, u2⟩, ?_, ⟨w0, w1⟩⟩
  simp [encSpanT, encKeyT]

/-! ### Stp -/
structure Stp where
  code : List Inst
  foot : List SpanT
  deriving DecidableEq

def encStp (x : Stp) : List AV := [.sl .no (x.code.map encInst), .sl .no (x.foot.map encSpanT)]
def Stp.wf (x : Stp) : Prop := (x.code.length ≤ maxLen ∧ ∀ y ∈ x.code, y.wf) ∧ (x.foot.length ≤ maxLen ∧ ∀ y ∈ x.foot, y.wf)
@[simp] theorem encStp_len (x : Stp) : (encStp x).length = 2 := rfl
@[simp] theorem wk_encStp (x : Stp) : List.map wk (encStp x) = encStp x := by simp [encStp]
@[simp] theorem wk_encStp' : List.map wk ∘ encStp = encStp := by funext x; simp
theorem pure_encStp (x : Stp) : ∀ v ∈ encStp x, PureV v := (pures_cons (pure_sl pure_encInst _) (pures_cons (pure_sl pure_encSpanT _) pures_nil))
def shStp : List Sh := [.sl shInst] ++ [.sl shSpanT]
theorem isL_encStp {vs : List AV} (h : isL shStp vs) : ∃ x : Stp, vs = encStp x ∧ x.wf := by
  unfold shStp at h
  obtain ⟨vs, v1, rfl, h, h1⟩ := isL_app h
  have h0 := h
  obtain ⟨u0, rfl, w0⟩ := isL_sl (fun vs h => isL_encInst h) h0
  obtain ⟨u1, rfl, w1⟩ := isL_sl (fun vs h => isL_encSpanT h) h1
  refine ⟨⟨u0, u1⟩, ?_, ⟨w0, w1⟩⟩
  simp [encStp]

/-! ### Cls -/
structure Cls where
  name : ByteArray
  args : Int
  steps : List Stp
  comps : List Stp
  resume : Bool
  deriving DecidableEq

def encCls (x : Cls) : List AV := [.str x.name, .int .i64 x.args, .sl .no (x.steps.map encStp), .sl .no (x.comps.map encStp), .bool x.resume]
def Cls.wf (x : Cls) : Prop := x.name.size ≤ maxLen ∧ inI x.args ∧ (x.steps.length ≤ maxLen ∧ ∀ y ∈ x.steps, y.wf) ∧ (x.comps.length ≤ maxLen ∧ ∀ y ∈ x.comps, y.wf)
@[simp] theorem encCls_len (x : Cls) : (encCls x).length = 5 := rfl
@[simp] theorem wk_encCls (x : Cls) : List.map wk (encCls x) = encCls x := by simp [encCls]
@[simp] theorem wk_encCls' : List.map wk ∘ encCls = encCls := by funext x; simp
theorem pure_encCls (x : Cls) : ∀ v ∈ encCls x, PureV v := (pures_cons (.str _) (pures_cons (.int _ _) (pures_cons (pure_sl pure_encStp _) (pures_cons (pure_sl pure_encStp _) (pures_cons (.bool _) pures_nil)))))
def shCls : List Sh := [.str] ++ [.int .i64] ++ [.sl shStp] ++ [.sl shStp] ++ [.bool]
theorem isL_encCls {vs : List AV} (h : isL shCls vs) : ∃ x : Cls, vs = encCls x ∧ x.wf := by
  unfold shCls at h
  obtain ⟨vs, v4, rfl, h, h4⟩ := isL_app h
  obtain ⟨vs, v3, rfl, h, h3⟩ := isL_app h
  obtain ⟨vs, v2, rfl, h, h2⟩ := isL_app h
  obtain ⟨vs, v1, rfl, h, h1⟩ := isL_app h
  have h0 := h
  obtain ⟨_, rfl, u0, rfl, w0⟩ := isL_one h0
  obtain ⟨u1, rfl, w1⟩ := isL_encN h1
  obtain ⟨u2, rfl, w2⟩ := isL_sl (fun vs h => isL_encStp h) h2
  obtain ⟨u3, rfl, w3⟩ := isL_sl (fun vs h => isL_encStp h) h3
  obtain ⟨_, rfl, u4, rfl⟩ := isL_one h4
  refine ⟨⟨u0, u1, u2, u3, u4⟩, ?_, ⟨w0, w1, w2, w3⟩⟩
  simp [encCls, encN]

/-! ### Ctlg -/
structure Ctlg where
  classes : List Cls
  breaks : List Int
  deriving DecidableEq

def encCtlg (x : Ctlg) : List AV := [.sl .no (x.classes.map encCls)] ++ x.breaks.map (AV.int .i64)
def Ctlg.wf (x : Ctlg) : Prop := (x.classes.length ≤ maxLen ∧ ∀ y ∈ x.classes, y.wf) ∧ (x.breaks.length = 16 ∧ ∀ y ∈ x.breaks, inI y)
@[simp] theorem wk_encCtlg (x : Ctlg) : List.map wk (encCtlg x) = encCtlg x := by simp [encCtlg]
@[simp] theorem wk_encCtlg' : List.map wk ∘ encCtlg = encCtlg := by funext x; simp
theorem pure_encCtlg (x : Ctlg) : ∀ v ∈ encCtlg x, PureV v := (pures_app (pures_cons (pure_sl pure_encCls _) pures_nil) (pure_arr _))
def shCtlg : List Sh := [.sl shCls] ++ List.replicate 16 (.int .i64)
theorem isL_encCtlg {vs : List AV} (h : isL shCtlg vs) : ∃ x : Ctlg, vs = encCtlg x ∧ x.wf := by
  unfold shCtlg at h
  obtain ⟨vs, v1, rfl, h, h1⟩ := isL_app h
  have h0 := h
  obtain ⟨u0, rfl, w0⟩ := isL_sl (fun vs h => isL_encCls h) h0
  obtain ⟨u1, rfl, w1⟩ := isL_arr h1
  refine ⟨⟨u0, u1⟩, ?_, ⟨w0, w1⟩⟩
  simp [encCtlg]

/-! ### Spn -/
structure Spn where
  lo : Int
  hi : Int
  deriving DecidableEq

def encSpn (x : Spn) : List AV := [.int .i64 x.lo, .int .i64 x.hi]
def Spn.wf (x : Spn) : Prop := inI x.lo ∧ inI x.hi
@[simp] theorem encSpn_len (x : Spn) : (encSpn x).length = 2 := rfl
@[simp] theorem wk_encSpn (x : Spn) : List.map wk (encSpn x) = encSpn x := by simp [encSpn]
@[simp] theorem wk_encSpn' : List.map wk ∘ encSpn = encSpn := by funext x; simp
theorem pure_encSpn (x : Spn) : ∀ v ∈ encSpn x, PureV v := (pures_cons (.int _ _) (pures_cons (.int _ _) pures_nil))
def shSpn : List Sh := [.int .i64] ++ [.int .i64]
theorem isL_encSpn {vs : List AV} (h : isL shSpn vs) : ∃ x : Spn, vs = encSpn x ∧ x.wf := by
  unfold shSpn at h
  obtain ⟨vs, v1, rfl, h, h1⟩ := isL_app h
  have h0 := h
  obtain ⟨u0, rfl, w0⟩ := isL_encN h0
  obtain ⟨u1, rfl, w1⟩ := isL_encN h1
  refine ⟨⟨u0, u1⟩, ?_, ⟨w0, w1⟩⟩
  simp [encSpn, encN]

/-! ### Nod -/
structure Nod where
  saga : Int
  cls : Int
  step : Int
  back : Bool
  reads : List Spn
  writes : List Spn
  deriving DecidableEq

def encNod (x : Nod) : List AV := [.int .i64 x.saga, .int .i64 x.cls, .int .i64 x.step, .bool x.back, .sl .no (x.reads.map encSpn), .sl .no (x.writes.map encSpn)]
def Nod.wf (x : Nod) : Prop := inI x.saga ∧ inI x.cls ∧ inI x.step ∧ (x.reads.length ≤ maxLen ∧ ∀ y ∈ x.reads, y.wf) ∧ (x.writes.length ≤ maxLen ∧ ∀ y ∈ x.writes, y.wf)
@[simp] theorem encNod_len (x : Nod) : (encNod x).length = 6 := rfl
@[simp] theorem wk_encNod (x : Nod) : List.map wk (encNod x) = encNod x := by simp [encNod]
@[simp] theorem wk_encNod' : List.map wk ∘ encNod = encNod := by funext x; simp
theorem pure_encNod (x : Nod) : ∀ v ∈ encNod x, PureV v := (pures_cons (.int _ _) (pures_cons (.int _ _) (pures_cons (.int _ _) (pures_cons (.bool _) (pures_cons (pure_sl pure_encSpn _) (pures_cons (pure_sl pure_encSpn _) pures_nil))))))
def shNod : List Sh := [.int .i64] ++ [.int .i64] ++ [.int .i64] ++ [.bool] ++ [.sl shSpn] ++ [.sl shSpn]
theorem isL_encNod {vs : List AV} (h : isL shNod vs) : ∃ x : Nod, vs = encNod x ∧ x.wf := by
  unfold shNod at h
  obtain ⟨vs, v5, rfl, h, h5⟩ := isL_app h
  obtain ⟨vs, v4, rfl, h, h4⟩ := isL_app h
  obtain ⟨vs, v3, rfl, h, h3⟩ := isL_app h
  obtain ⟨vs, v2, rfl, h, h2⟩ := isL_app h
  obtain ⟨vs, v1, rfl, h, h1⟩ := isL_app h
  have h0 := h
  obtain ⟨u0, rfl, w0⟩ := isL_encN h0
  obtain ⟨u1, rfl, w1⟩ := isL_encN h1
  obtain ⟨u2, rfl, w2⟩ := isL_encN h2
  obtain ⟨_, rfl, u3, rfl⟩ := isL_one h3
  obtain ⟨u4, rfl, w4⟩ := isL_sl (fun vs h => isL_encSpn h) h4
  obtain ⟨u5, rfl, w5⟩ := isL_sl (fun vs h => isL_encSpn h) h5
  refine ⟨⟨u0, u1, u2, u3, u4, u5⟩, ?_, ⟨w0, w1, w2, w4, w5⟩⟩
  simp [encNod, encN]

/-! ### Chg -/
structure Chg where
  key : Int
  gone : Bool
  value : Int
  deriving DecidableEq

def encChg (x : Chg) : List AV := [.int .i64 x.key, .bool x.gone, .int .i64 x.value]
def Chg.wf (x : Chg) : Prop := inI x.key ∧ inI x.value
@[simp] theorem encChg_len (x : Chg) : (encChg x).length = 3 := rfl
@[simp] theorem wk_encChg (x : Chg) : List.map wk (encChg x) = encChg x := by simp [encChg]
@[simp] theorem wk_encChg' : List.map wk ∘ encChg = encChg := by funext x; simp
/-! ### Recd -/
structure Recd where
  kind : Int
  saga : Int
  cls : Int
  args : List Int
  why : Int
  node : Nod
  regs : List Int
  changes : List Chg
  deriving DecidableEq

def encRecd (x : Recd) : List AV := [.int .i64 x.kind, .int .i64 x.saga, .int .i64 x.cls, .sl .no (x.args.map encN), .int .i64 x.why, .int .i64 x.node.saga, .int .i64 x.node.cls, .int .i64 x.node.step, .bool x.node.back, .sl .no (x.node.reads.map encSpn), .sl .no (x.node.writes.map encSpn)] ++ x.regs.map (AV.int .i64) ++ [.sl .no (x.changes.map encChg)]
def Recd.wf (x : Recd) : Prop := inI x.kind ∧ inI x.saga ∧ inI x.cls ∧ (x.args.length ≤ maxLen ∧ ∀ y ∈ x.args, inI y) ∧ inI x.why ∧ x.node.wf ∧ (x.regs.length = 4 ∧ ∀ y ∈ x.regs, inI y) ∧ (x.changes.length ≤ maxLen ∧ ∀ y ∈ x.changes, y.wf)
@[simp] theorem wk_encRecd (x : Recd) : List.map wk (encRecd x) = encRecd x := by simp [encRecd]
@[simp] theorem wk_encRecd' : List.map wk ∘ encRecd = encRecd := by funext x; simp
/-! ### Frm -/
structure Frm where
  kind : Int
  words : List Nat
  deriving DecidableEq

def encFrm (x : Frm) : List AV := [.int .i64 x.kind, .sl .no (x.words.map w64)]
def Frm.wf (x : Frm) : Prop := inI x.kind ∧ (x.words.length ≤ maxLen ∧ ∀ y ∈ x.words, y < 18446744073709551616)
@[simp] theorem encFrm_len (x : Frm) : (encFrm x).length = 2 := rfl
@[simp] theorem wk_encFrm (x : Frm) : List.map wk (encFrm x) = encFrm x := by simp [encFrm]
@[simp] theorem wk_encFrm' : List.map wk ∘ encFrm = encFrm := by funext x; simp
/-! ### Par -/
structure Par where
  key : Int
  value : Int
  deriving DecidableEq

def encPar (x : Par) : List AV := [.int .i64 x.key, .int .i64 x.value]
def Par.wf (x : Par) : Prop := inI x.key ∧ inI x.value
@[simp] theorem encPar_len (x : Par) : (encPar x).length = 2 := rfl
@[simp] theorem wk_encPar (x : Par) : List.map wk (encPar x) = encPar x := by simp [encPar]
@[simp] theorem wk_encPar' : List.map wk ∘ encPar = encPar := by funext x; simp
/-! ### Rept -/
structure Rept where
  committed : Int
  compensated : Int
  opn : Int
  steps : Int
  backs : Int
  aborts : List Int
  keys : Int
  deriving DecidableEq

def encRept (x : Rept) : List AV := [.int .i64 x.committed, .int .i64 x.compensated, .int .i64 x.opn, .int .i64 x.steps, .int .i64 x.backs] ++ x.aborts.map (AV.int .i64) ++ [.int .i64 x.keys]
def Rept.wf (x : Rept) : Prop := inI x.committed ∧ inI x.compensated ∧ inI x.opn ∧ inI x.steps ∧ inI x.backs ∧ (x.aborts.length = 16 ∧ ∀ y ∈ x.aborts, inI y) ∧ inI x.keys
@[simp] theorem wk_encRept (x : Rept) : List.map wk (encRept x) = encRept x := by simp [encRept]
@[simp] theorem wk_encRept' : List.map wk ∘ encRept = encRept := by funext x; simp
end Go.Proofs

/- The program's sets of keys: what isn't there, how many, all of them. -/
namespace Go.Proofs
open Go Go.RowKit Go.Am

end Go.Proofs

/- The program's sets of keys: in common, without; do they meet, is the one inside the other? -/
namespace Go.Proofs
open Go Go.RowKit Go.Am

set_option maxHeartbeats 1000000 in
theorem keysMeet_ok (a b : List Sp) (ha : a.length ≤ 1000000) (hb : b.length ≤ 1000000) : PCall Tryz.prog 32 [encL a, encL b] (.bool (meetL a b)) := by
  refine PCall.run hb32 ok32 (by simp) (pures2 (pure_encL a) (pure_encL b)) (.bool _) ?_
  have h2 := plainL_len a
  have h3 := plainL_len b
  simp -implicitDefEqProofs []
  refine callQ_p (plainA_ok a ha) (by simp [wk_encL]) ?_
  simp -implicitDefEqProofs []
  refine callQ_p (plainA_ok b hb) (by simp [wk_encL]) ?_
  simp -implicitDefEqProofs []
  refine callQ_c (meets_ok (plainL a) (plainL b) _) (by simp [wk_encL]) ?_
  rintro r h1 ⟨rfl, rfl⟩
  simp -implicitDefEqProofs [H.nil]
  generalize hS : (su _ 11 _ : Slots) = S
  have s4 : S 4 = .ptr 0 0 := by rw [← hS]; simp
  have s11 : S 11 = .fn 74 [] [.ptr 1 0, .ptr 2 0] := by rw [← hS]; simp
  clear hS
  rw [meetL]
  generalize plainL a = a at h2 ⊢
  generalize plainL b = b at h3 ⊢
  let q0 : LoopA := ⟨S, [12], c32_x4, c32_y5, .ready, none⟩
  let qE : LoopA := ⟨S, [12], c32_x4, c32_y5, .done, some .ret⟩
  let I : List Sp → H → Prop := fun d h' => d = [] ∧ 0 < h'.ln ∧ h'.lp 0 = some q0 ∧ 3 ≤ h'.bn ∧ h'.bx 0 = some [.bool false] ∧ h'.bx 1 = some [encL a] ∧ h'.bx 2 = some [encL b]
  let J : H → Prop := fun h' => 0 < h'.ln ∧ h'.lp 0 = some qE ∧ 3 ≤ h'.bn ∧ h'.bx 0 = some [.bool true] ∧ (meetsL a b).isEmpty = false
  refine .rngf (Z := fun _ h1 => I (meetsL a b) h1 ∨ J h1) (F := 74) (first := []) (caps := [.ptr 1 0, .ptr 2 0]) rfl (by simpa using s11) (meets1_ok a b (by omega) (by omega) (l := 0) (p := 1) (q := 2) I J (fun _ => False) (fun _ => False) (fun b e => e.elim) ?_ ?_ ?_ ?_) ?_ ?_
  · rintro d h' ⟨_, _, _, i3, _, i5, i6⟩
    exact ⟨⟨by omega, i5⟩, ⟨by omega, i6⟩⟩
  · rintro d h' h'' ⟨i0, i1, i2, i3, i4, i5, i6⟩ hf
    have f1 := hf.ln
    have f2 := hf.bn
    exact ⟨i0, by omega, (hf.lp _ i1).trans i2, by omega, (hf.bx _ (by omega) fun e => e).trans i4, (hf.bx _ (by omega) fun e => e).trans i5, (hf.bx _ (by omega) fun e => e).trans i6⟩
  · rintro d s h' ⟨i0, i1, i2, i3, i4, i5, i6⟩ ⟨r, hr⟩ K _ hK
    refine callQ_y (q := q0) i1 i2 rfl ?_
    simp -implicitDefEqProofs [slotsP, i1, i2, q0, s4, i4, show 0 < h'.bn by omega, roundQ]
    refine hK _ ⟨by simpa using i1, by simp [qE], by simpa using i3, by simp, ?_⟩
    rw [hr]
    simp
  · exact ⟨rfl, by simp, by simp [q0], by simp, by simp, by simp, by simp⟩
  · rintro v h2 (⟨_, i1, i2, _⟩ | ⟨i1, i2, _⟩)
    · exact ⟨i1, q0, i2, by simp [q0]⟩
    · exact ⟨i1, qE, i2, by simp [qE]⟩
  · rintro v h2 q1 (⟨i0, i1, i2, i3, i4, i5, i6⟩ | ⟨i1, i2, i3, i4, i5⟩) hq1
    · simp only [alloc_ln] at hq1 ⊢
      rw [i2] at hq1
      cases hq1
      simp only [q0, pendK, List.nil_append]
      simp -implicitDefEqProofs [s4, i4, i0, show 0 < h2.bn by omega]
    · simp only [alloc_ln] at hq1 ⊢
      rw [i2] at hq1
      cases hq1
      simp only [qE, pendK]
      simp -implicitDefEqProofs [s4, i4, i5, show 0 < h2.bn by omega]
end Go.Proofs

/- The document's example of sets of keys; the statement KeysSets: its function hands back true. -/
namespace Go.Proofs
open Go Go.RowKit Go.Am

def spP (s : Spn) : Sp := (s.lo, s.hi)
theorem encL_spn (l : List Spn) : AV.sl .no (l.map encSpn) = encL (l.map spP) := by
  rw [encL, List.map_map]; rfl

end Go.Proofs

/- The statements KeysParts, KeysTwo: their functions hand back true. -/
namespace Go.Proofs
open Go Go.RowKit Go.Am

end Go.Proofs

/- The statement KeysTwo: its function hands back true. -/
namespace Go.Proofs
open Go Go.RowKit Go.Am

theorem meet_sets (a b : List Sp) : meetL a b = meetB (fun k => hasK a k) (fun k => hasK b k) := by
  rw [Bool.eq_iff_iff, meetL_iff, meetB_iff]
end Go.Proofs

/- Arguments of a law: from their readings to values. -/
namespace Go.Proofs
open Go Go.RowKit Go.Am

theorem sh_one {s : Sh} {a : AV} (h : s.is a) : isL [s] [a] := by
  simp only [isL]
  exact ⟨a, [], rfl, h, rfl⟩
theorem sl_is {α : Type} {f : α → List AV} {sh : List Sh} {wf : α → Prop} (hf : ∀ vs, isL sh vs → ∃ x, vs = f x ∧ wf x) {v : AV} (h : (Sh.sl sh).is v) : ∃ l : List α, v = .sl .no (l.map f) ∧ l.length ≤ maxLen ∧ ∀ x ∈ l, wf x := by
  obtain ⟨l, e, h1, h2⟩ := isL_sl hf (sh_one h)
  simp at e
  exact ⟨l, e, h1, h2⟩
def Item.wf (x : Item) : Prop := inI x.kind ∧ inI x.n ∧ inI x.most ∧ inI x.x ∧ x.s.size ≤ maxLen ∧ x.l.length ≤ maxLen ∧ ∀ w ∈ x.l, w < 18446744073709551616
section
variable {H : Type} {enc : TypeId × Value → H} {P : Program} {w : World} {spare : Nat → Bool} {held : Bool}
/-- An argument of several cells. -/
theorem ent_agg {t : TypeId} {C : Array Value} {x : DataW H} {ps : List MemPlace} {d : Nat} {sh : List Sh} (h : DataW.Trod enc P w 0 spare held t (.agg C) x ps) (hc : shT P d t = some sh) : ∃ vs, isL sh vs ∧ Rep w (G.bare (roW w)) (.agg vs) (.agg C) := by
  obtain ⟨fuel, h⟩ := h
  obtain ⟨vs, h1, h2⟩ := ent fuel d t _ _ _ h hc
  refine ⟨vs, h1, Rep.ofAgg (RepC.mk (by simpa [Value.cells] using h2.1) fun k v hk => ?_)⟩
  obtain ⟨V, q1, q2, q3⟩ := h2.2 k v hk
  exact ⟨V, by simpa [Value.cells] using q1, q2, q3⟩
inductive RepV (w : World) (g : G) : List AV → List Value → Prop where
  | nil : RepV w g [] []
  | cons {a : AV} {v : Value} {l : List AV} {vs : List Value} : Rep w g a v → RepV w g l vs → RepV w g (a :: l) (v :: vs)
theorem RepV.get {w : World} {g : G} {l : List AV} {vs : List Value} (h : RepV w g l vs) : ∃ hl : l.length = vs.length, ∀ k (hk : k < l.length), Rep w g l[k] (vs[k]'(by omega)) := by
  induction h with
  | nil => exact ⟨rfl, fun k hk => by simp at hk⟩
  | cons hv _ ih =>
    obtain ⟨hl, ih⟩ := ih
    refine ⟨by simp [hl], fun k hk => ?_⟩
    cases k with
    | zero => exact hv
    | succ k => exact ih k (by simpa using hk)
theorem RepV.toA {w : World} {g : G} {l : List AV} {vs : List Value} (h : RepV w g l vs) : RepA w g l vs.toArray := by
  obtain ⟨hl, h⟩ := h.get
  exact ⟨by simpa using hl, fun k hk => by simpa using h k hk⟩
end
end Go.Proofs

/- Which programs, footprints, classes and catalogues there may be: the document's answer. -/
namespace Go.Proofs
open Go Go.RowKit Go.Am

def mayKey (k : KeyT) (args : Int) : Bool := decide (-1 ≤ k.arg) && decide (k.arg < args) && decide (0 ≤ k.base) && decide (k.base ≤ 900)

theorem pureKey (k : KeyT) : PureV (.agg (encKeyT k)) := .agg (pure_encKeyT k)

theorem refMayKey_ok (k : KeyT) (args : Int) : PCall Tryz.prog 66 [.agg (encKeyT k), .int .i64 args] (.bool (mayKey k args)) := by
  refine PCall.run hb66 ok66 (by simp) (pures_cons (pureKey k) (pures1 (.int _ _))) (.bool _) ?_
  simp (maxSteps := 2000000) +contextual -implicitDefEqProofs [↓gdL_T, -Int.not_lt, -Int.not_le, -Nat.not_lt, -Nat.not_le, encKeyT, mayKey]

def isReg (n : Int) : Bool := !decide (n < 0) && !decide (3 < n)
def keyNone (k : KeyT) : Bool := decide (k.arg = 0 ∧ k.base = 0)
/-- May an instruction be? -/
def oneInst (x : Inst) (args : Int) : Bool :=
  if x.op = 1 ∨ x.op = 2 then isReg x.a && decide (x.x = 0) && decide (x.b = 0) && decide (x.c = 0) && keyNone x.l && mayKey x.k args
  else if x.op = 3 then decide (x.a = 0) && decide (x.x = 0) && decide (x.b = 0) && decide (x.c = 0) && keyNone x.l && mayKey x.k args
  else if x.op = 4 then isReg x.a && decide (x.x = 0) && decide (x.b = 0) && decide (x.c = 0) && mayKey x.k args && mayKey x.l args
  else if x.op = 5 ∨ x.op = 8 then isReg x.a && decide (x.b = 0) && decide (x.c = 0) && keyNone x.k && keyNone x.l
  else if x.op = 6 ∨ x.op = 7 then isReg x.a && decide (x.x = 0) && isReg x.b && isReg x.c && keyNone x.k && keyNone x.l
  else false

theorem pureInst (x : Inst) : PureV (.agg (encInst x)) := .agg (pure_encInst x)

end Go.Proofs
