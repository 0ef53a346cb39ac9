/- What the functions that the statement reaches do: their contracts; and what follows of it. -/
import Derived.Test.YtdcpendppalkgaaSRecsCut2
import Derived.Test.YtdcpendppalkgaaSRecsCut1
/- The document's sets of keys: what its functions say. -/
namespace Go.Am
open Go Go.RowKit
/-- A pointer to a box that no longer turns. -/
theorem Gh.rop {h : H} {b : Nat} {cs : List AV} (hb : b < h.bn) (hc : h.bx b = some cs) : Gh h (.ptr b 0) (h.kill b) (.rop cs) := by
  refine .frz b cs hb hc (fun w g V hro hr => ?_) (.refl _ _)
  cases hr with
  | ptr b o h1 =>
    have key : ∀ k (hk : k < cs.length), ∃ U, k < g.ro (g.bx b) ∧ w.cell? ⟨g.bx b, k, none⟩ = some U ∧ Rep w g cs[k] U ∧ ok1 cs[k] = true := fun k hk => hro k _ (List.getElem?_eq_getElem hk)
    refine Rep.rop cs ⟨g.bx b, 0, none⟩ (fun k => if hk : k < cs.length then Classical.choose (key k hk) else .nilFunc) (fun k hk => ?_) (fun k hk => ?_) (fun k hk => ?_)
    · obtain ⟨q1, q2, _⟩ := Classical.choose_spec (key k hk)
      refine ⟨g.bx b, 0, rfl, by rw [Nat.zero_add]; exact q1, ?_⟩
      rw [dif_pos hk, Nat.zero_add]
      exact q2
    · rw [dif_pos hk]
      exact (Classical.choose_spec (key k hk)).2.2.1
    · exact (Classical.choose_spec (key k hk)).2.2.2
end Go.Am
namespace Go.Proofs
open Go Go.RowKit Go.Am

def setA (f : Nat → Bool) : List AV := (List.range 1000).map fun k => .bool (f k)
@[simp] theorem setA_len (f : Nat → Bool) : (setA f).length = 1000 := by simp only [setA, List.length_map, List.length_range]
theorem setA_get (f : Nat → Bool) {k : Nat} (hk : k < 1000) : (setA f)[k]? = some (.bool (f k)) := by
  rw [setA, List.getElem?_map, List.getElem?_range hk]; rfl
theorem setA_at (f : Nat → Bool) {k : Nat} (hk : k < 1000) : List.take 1 (List.drop k (setA f)) = [.bool (f k)] := by
  have h := setA_get f hk
  obtain ⟨hk', e⟩ := List.getElem?_eq_some_iff.1 h
  rw [List.drop_eq_getElem_cons hk', e]
  rfl
theorem setA_put (f : Nat → Bool) {k : Nat} (hk : k < 1000) (v : Bool) : List.take k (setA f) ++ .bool v :: List.drop (k + 1) (setA f) = setA fun i => if i = k then v else f i := by
  have e : setA (fun i => if i = k then v else f i) = (setA f).set k (.bool v) := by
    apply List.ext_getElem?
    intro i
    rw [List.getElem?_set]
    by_cases h : k = i
    · subst h
      rw [if_pos rfl, if_pos (by rw [setA_len]; exact hk), setA_get _ hk, if_pos rfl]
    · rw [if_neg h]
      by_cases hi : i < 1000
      · rw [setA_get _ hi, setA_get _ hi, if_neg (fun e => h e.symm)]
      · rw [List.getElem?_eq_none (by rw [setA_len]; omega), List.getElem?_eq_none (by rw [setA_len]; omega)]
  rw [e, List.set_eq_take_append_cons_drop, if_pos (by rw [setA_len]; exact hk)]
theorem setA_zero : List.replicate 1000 (AV.bool false) = setA fun _ => false := by
  apply List.ext_getElem?
  intro i
  by_cases hi : i < 1000
  · rw [setA_get _ hi, List.getElem?_replicate, if_pos hi]
  · rw [List.getElem?_eq_none (by rw [List.length_replicate]; omega), List.getElem?_eq_none (by rw [setA_len]; omega)]
theorem setA_congr {f g : Nat → Bool} (h : ∀ k, k < 1000 → f k = g k) : setA f = setA g := by
  apply List.ext_getElem?
  intro i
  by_cases hi : i < 1000
  · rw [setA_get _ hi, setA_get _ hi, h i hi]
  · rw [List.getElem?_eq_none (by rw [setA_len]; omega), List.getElem?_eq_none (by rw [setA_len]; omega)]
theorem pure_setA (f : Nat → Bool) : ∀ v ∈ setA f, PureV v := by
  intro v hv
  obtain ⟨k, _, rfl⟩ := List.mem_map.1 hv
  exact .bool _
theorem wk_setA (f : Nat → Bool) : (setA f).map wk = setA f := by simp [setA]
/-- A set, as the document has it. -/
def setP (f : Nat → Bool) : AV := .rop (setA f)
theorem pure_setP (f : Nat → Bool) : PureV (setP f) := .rop (pure_setA f)
theorem wk_setP (f : Nat → Bool) : Am.wk (setP f) = setP f := by simp [setP, wk_setA]

def upTo (l : List Sp) (lo k : Int) (i : Nat) : Bool := hasK l i || (decide (lo ≤ i) && decide ((i : Int) < k))

set_option maxHeartbeats 1000000 in
theorem refOf_ok (l : List Sp) (hl : l.length ≤ 1000000) : PCall Try.prog 68 [encL l] (setP fun k => hasK l k) := by
  refine PCall.run' hb68 ok68 (by simp) (pures1 (pure_encL l)) (pure_setP _) (wk_setP _) ?_
  simp -implicitDefEqProofs [-List.reduceReplicate, setA_zero, H.nil]
  refine run_loop (fun n s h => ∃ i : Nat, n = l.length - i ∧ i ≤ l.length ∧ s 0 = encL l ∧ s 3 = .ptr 0 0 ∧ s 4 = .int .i64 i ∧ 0 < h.bn ∧ h.bx 0 = some (setA fun k => hasK (l.take i) k)) ?_ l.length ?_
  rotate_left
  · exact ⟨0, by simp [encL, hasK_nil]⟩
  rintro n s h ⟨i, hn, hi, s0, s3, s4, hb, hc⟩ ih
  by_cases hlt : i < l.length
  · rw [encL] at s0
    have i1 := idxOf_nat (k := .i64) hlt
    have hnext : ∀ k, hasK (l.take (i + 1)) k = (hasK (l.take i) k || inS l[i] k) := fun k => by
      rw [List.take_succ_eq_append_getElem hlt, hasK_app, hasK_cons, hasK_nil, Bool.or_false]
    have hskip : mayS l[i] = false → ∀ k : Nat, hasK (l.take (i + 1)) k = hasK (l.take i) k := fun hm k => by
      rw [hnext, inS, hm]; simp
    have hgo : ∀ s1 h1, s1 0 = encL l → s1 3 = .ptr 0 0 → s1 4 = .int .i64 (i + 1 : Nat) → 0 < h1.bn → h1.bx 0 = some (setA fun k => hasK (l.take (i + 1)) k) → Run Try.prog false [.lp c68_l12, .blk 0, .c (.seq (.reg c68_r13) .ret)] (retQ [.t 2] fun r' h1 => ∃ h', Gh h1 r' h' (setP fun k => hasK l k)) s1 h1 := fun s1 h1 q0 q3 q4 q5 q6 =>
      ih (l.length - (i + 1)) _ _ (by omega) ⟨i + 1, rfl, by omega, q0, q3, q4, q5, q6⟩
    by_cases h1 : l[i].1 < 0
    · have hm : mayS l[i] = false := by rw [Bool.eq_false_iff]; intro e; have := mayS_iff.1 e; omega
      simp -implicitDefEqProofs [s0, s4, hlt, avP, h1, inc_i64 hlt (by omega), -Int.natCast_add]
      refine hgo _ _ (by simp [s0, encL]) (by simp [s3]) (by simp) hb (by rw [hc]; exact congrArg some (setA_congr fun k _ => (hskip hm k).symm))
    · by_cases h2 : 999 < l[i].2
      · have hm : mayS l[i] = false := by rw [Bool.eq_false_iff]; intro e; have := mayS_iff.1 e; omega
        simp -implicitDefEqProofs [s0, s4, hlt, avP, h1, h2, inc_i64 hlt (by omega), -Int.natCast_add]
        refine hgo _ _ (by simp [s0, encL]) (by simp [s3]) (by simp) hb (by rw [hc]; exact congrArg some (setA_congr fun k _ => (hskip hm k).symm))
      · simp -implicitDefEqProofs [s0, s4, hlt, avP, h1, h2]
        refine run_loop (fun n s h => ∃ k : Int, n = (l[i].2 + 1 - k).toNat ∧ l[i].1 ≤ k ∧ (k ≤ l[i].2 + 1 ∨ k = l[i].1) ∧ s 0 = encL l ∧ s 3 = .ptr 0 0 ∧ s 4 = .int .i64 i ∧ s 5 = .int .i64 k ∧ 0 < h.bn ∧ h.bx 0 = some (setA (upTo (l.take i) l[i].1 k))) ?_ (l[i].2 + 1 - l[i].1).toNat ?_
        rotate_left
        · refine ⟨l[i].1, rfl, Int.le_refl _, .inr rfl, by simp [s0, encL], by simp [s3], by simp [s4], by simp, hb, ?_⟩
          rw [hc]
          refine congrArg some (setA_congr fun k _ => ?_)
          simp only [upTo]
          rw [show (decide (l[i].1 ≤ (k : Int)) && decide ((k : Int) < l[i].1)) = false by simp, Bool.or_false]
        rintro n s h ⟨k, hn, hk1, hk2, s0, s3, s4, s5, hb, hc⟩ ih2
        rw [encL] at s0
        by_cases hle : k ≤ l[i].2
        · obtain ⟨m, rfl⟩ : ∃ m : Nat, k = m := ⟨k.toNat, by omega⟩
          have hm : m < 1000 := by omega
          have i2 := idxOf_nat (k := .i64) hm
          have hp := setA_put (upTo (l.take i) l[i].1 m) hm true
          simp -implicitDefEqProofs [s0, s3, s4, s5, hlt, hle, avP, hb, hc, hp, show m + 1 ≤ 1000 by omega, show (m : Int) < 1000 by omega, inc_i64 hm (by omega), -Int.natCast_add]
          refine ih2 (l[i].2 + 1 - ((m + 1 : Nat) : Int)).toNat _ _ (by omega) ⟨((m + 1 : Nat) : Int), rfl, by omega, .inl (by omega), by simp [s0, encL], by simp [s3], by simp [s4], by simp, by simpa using hb, ?_⟩
          simp only [set_bx, if_true]
          refine congrArg some (setA_congr fun j _ => ?_)
          by_cases hj : j = m
          · subst hj
            simp only [upTo]
            rw [show decide (l[i].1 ≤ (j : Int)) = true from decide_eq_true (by omega), show decide ((j : Int) < ((j + 1 : Nat) : Int)) = true from decide_eq_true (by omega)]
            simp
          · simp only [upTo]
            have e : decide ((j : Int) < ((m + 1 : Nat) : Int)) = decide ((j : Int) < (m : Int)) := by
              rw [Bool.eq_iff_iff, decide_eq_true_eq, decide_eq_true_eq]
              omega
            rw [e, show decide (j = m) = false from decide_eq_false hj, Bool.false_or]
        · simp -implicitDefEqProofs [s0, s4, s5, hlt, hle, avP, inc_i64 hlt (by omega), -Int.natCast_add]
          refine hgo _ _ (by simp [s0, encL]) (by simp [s3]) (by simp) hb ?_
          rw [hc]
          refine congrArg some (setA_congr fun j _ => ?_)
          rw [hnext]
          simp only [upTo]
          congr 1
          rw [Bool.eq_iff_iff, inS_iff, mayS_iff, Bool.and_eq_true, decide_eq_true_eq, decide_eq_true_eq]
          omega
  · obtain rfl : i = l.length := by omega
    rw [List.take_length] at hc
    simp -implicitDefEqProofs [s0, s3, s4, encL]
    exact ⟨_, Gh.rop hb hc⟩
end Go.Proofs

/- The document's sets of keys: the plain list of a set; the same; a key in common. -/
namespace Go.Proofs
open Go Go.RowKit Go.Am

set_option maxHeartbeats 1000000 in
theorem refPlain_ok (f : Nat → Bool) : PCall Try.prog 60 [setP f] (encL (plainOf f)) := by
  refine PCall.run' hb60 ok60 (by simp) (pures1 (pure_setP f)) (pure_encL _) (wk_encL _) ?_
  simp -implicitDefEqProofs []
  refine run_loop (fun n s h => ∃ k : Nat, n = 1000 - k ∧ k ≤ 1000 ∧ s 0 = setP f ∧ s 4 = .int .i64 k ∧ ((plainTo f k = [] ∧ s 3 = .sl .full []) ∨ (∃ c, plainTo f k ≠ [] ∧ s 3 = .msl c 2 0 (plainTo f k).length ∧ c < h.bn ∧ h.bx c = some (flatP (plainTo f k))))) ?_ 1000 ?_
  rotate_left
  · exact ⟨0, by simp [plainTo]⟩
  rintro n s h ⟨k, hn, hk, s0, s4, hout⟩ ih
  by_cases hlt : k < 1000
  · have hki : (k : Int) < 1000 := by omega
    have i1 := idxOf_nat (k := .i64) hlt
    have g1 := setA_at f hlt
    have g2 : 1 ≤ 1000 - k := by omega
    have g3 : k + 1 ≤ 1000 := by omega
    have hst : plainTo f (k + 1) = if f k then (if 0 < k ∧ f (k - 1) = true then extL (plainTo f k) k else plainTo f k ++ [((k : Int), (k : Int))]) else plainTo f k := rfl
    cases hf : f k with
    | false =>
      rw [hf] at g1 hst
      rw [if_neg (by simp)] at hst
      simp -implicitDefEqProofs [s0, s4, hki, setP, g1, g2, inc_i64 hlt (by omega), -Int.natCast_add]
      refine ih (1000 - (k + 1)) _ _ (by omega) ⟨k + 1, rfl, by omega, by simp [s0, setP], by simp, ?_⟩
      rw [hst]
      simpa using hout
    | true =>
      rw [hf] at g1 hst
      rw [if_pos rfl] at hst
      by_cases hp : 0 < k ∧ f (k - 1) = true
      · rw [if_pos hp] at hst
        obtain ⟨o, t, e, ht⟩ := plainTo_snoc f k hk hp
        rcases hout with ⟨e0, _⟩ | ⟨c, hne, s3, hc1, hc2⟩
        · rw [e0] at e; simp at e
        rw [e, extL_snoc] at hst
        rw [e] at s3 hc2
        have hl : o.length + 1 ≤ 1000000 := by
          have := (plainTo_ok f k hk).1
          have h2 := plainL_len (plainTo f k)
          rw [plainL_plain this, e, List.length_append, List.length_singleton] at h2
          omega
        have hk0 := hp.1
        have hkm : IntKind.i64.wrap ((k : Int) - 1) = ((k - 1 : Nat) : Int) := by rw [wrap_i64 (by omega) (by omega)]; omega
        have i2 := idxOf_nat (k := .i64) (show k - 1 < 1000 by omega)
        have g4 := setA_at f (show k - 1 < 1000 by omega)
        rw [hp.2] at g4
        have w1 : IntKind.i64.wrap (((o.length + 1 : Nat) : Int) - 1) = (o.length : Nat) := by rw [wrap_i64 (by omega) (by omega)]; omega
        have g5 : (o.length : Int) < ((o.length + 1 : Nat) : Int) := by omega
        have g6 : (flatP (o ++ [t])).length = (o.length + 1) * 2 := by rw [flatP_len]; simp
        have g7 : o.length * 2 + 1 + 1 ≤ (o.length + 1) * 2 := by omega
        have g8 := flatP_last_put o t (k : Int)
        simp -implicitDefEqProofs [s0, s3, s4, hki, hk0, hkm, setP, g1, g2, g4, w1, g5, g6, g7, g8, hc1, hc2, show 1 ≤ 1000 - (k - 1) by omega, show ((k - 1 : Nat) : Int) < 1000 by omega, inc_i64 hlt (by omega), -Int.natCast_add]
        refine ih (1000 - (k + 1)) _ _ (by omega) ⟨k + 1, rfl, by omega, by simp [s0, setP], by simp, ?_⟩
        rw [hst]
        exact .inr ⟨c, by simp, by simp [s3], by simpa using hc1, by simp⟩
      · rw [if_neg hp] at hst
        have hb2 : 0 < k ∧ f (k - 1) = false ∨ ¬ 0 < k := by
          by_cases h0 : 0 < k
          · exact .inl ⟨h0, by rw [Bool.eq_false_iff]; exact fun h => hp ⟨by omega, h⟩⟩
          · exact .inr h0
        have happ : ∀ K : AV → H → Prop, (∀ c h1, c < h1.bn → h1.bx c = some (flatP (plainTo f (k + 1))) → K (.msl c 2 0 (plainTo f (k + 1)).length) h1) → appQ h 2 16 (s 3) (.sl .full [[.int .i64 k, .int .i64 k]]) K := by
          intro K hK
          rcases hout with ⟨e0, s3⟩ | ⟨c, hne, s3, hc1, hc2⟩
          · rw [e0] at hst
            rw [s3]
            have q := hK h.bn (h.alloc (flatP [((k : Int), (k : Int))])) (by simp) (by rw [hst]; simp)
            rw [hst] at q
            exact ⟨_, _, .newbox [] [avP ((k : Int), (k : Int))] _ (by simp) (by simp [srcA, avP]) (by simp) (by simp), q⟩
          · rw [s3]
            have hl : (plainTo f k).length ≤ 1000000 := by
              have := (plainTo_ok f k hk).1
              have h2 := plainL_len (plainTo f k)
              rw [plainL_plain this] at h2
              omega
            have g6 : List.take ((plainTo f k).length * 2) (flatP (plainTo f k)) = flatP (plainTo f k) := List.take_of_length_le (by rw [flatP_len]; omega)
            have q := hK h.bn ((h.kill c).alloc (flatP (plainTo f (k + 1)))) (by simp [H.kill]) (by simp [H.kill])
            rw [hst, List.length_append, flatP_app] at q
            rw [← g6] at q
            exact ⟨_, _, .box c (plainTo f k).length (flatP (plainTo f k)) [avP ((k : Int), (k : Int))] _ hc1 hc2 (by rw [flatP_len]; omega) (by simp [srcA, avP]) (by simp) (by simp only [List.length_cons, List.length_nil]; omega), q⟩
        have hne : plainTo f (k + 1) ≠ [] := by rw [hst]; simp
        rcases hb2 with ⟨h0, hp2⟩ | h0
        · have hkm : IntKind.i64.wrap ((k : Int) - 1) = ((k - 1 : Nat) : Int) := by rw [wrap_i64 (by omega) (by omega)]; omega
          have i2 := idxOf_nat (k := .i64) (show k - 1 < 1000 by omega)
          have g4 := setA_at f (show k - 1 < 1000 by omega)
          rw [hp2] at g4
          simp -implicitDefEqProofs [s0, s4, hki, h0, hkm, setP, g1, g2, g4, show 1 ≤ 1000 - (k - 1) by omega, show ((k - 1 : Nat) : Int) < 1000 by omega]
          refine happ _ fun c h1 hc1 hc2 => ?_
          simp -implicitDefEqProofs [s4, inc_i64 hlt (by omega), -Int.natCast_add]
          exact ih (1000 - (k + 1)) _ _ (by omega) ⟨k + 1, rfl, by omega, by simp [s0, setP], by simp, .inr ⟨c, hne, by simp, hc1, hc2⟩⟩
        · simp -implicitDefEqProofs [s0, s4, hki, h0, setP, g1, g2]
          refine happ _ fun c h1 hc1 hc2 => ?_
          simp -implicitDefEqProofs [s4, inc_i64 hlt (by omega), -Int.natCast_add]
          exact ih (1000 - (k + 1)) _ _ (by omega) ⟨k + 1, rfl, by omega, by simp [s0, setP], by simp, .inr ⟨c, hne, by simp, hc1, hc2⟩⟩
  · obtain rfl : k = 1000 := by omega
    simp -implicitDefEqProofs [s4]
    rcases hout with ⟨e0, s3⟩ | ⟨c, hne, s3, hc1, hc2⟩
    · simp -implicitDefEqProofs [s3]
      rw [plainOf, e0]
      exact ⟨_, .weak (fun _ _ _ h => h.wk) (.refl _ _)⟩
    · simp -implicitDefEqProofs [s3]
      have := Gh.msl (z := 2) (n := (plainTo f 1000).length) hc1 hc2 (by omega) (by rw [flatP_len]; omega)
      rw [chunksP] at this
      exact ⟨_, this⟩

end Go.Proofs

/- The document's sets of keys: are two lists the same, have two sets a key in common? The program's short functions. -/
namespace Go.Proofs
open Go Go.RowKit Go.Am

theorem pures2 {a b : AV} (ha : PureV a) (hb : PureV b) : ∀ v ∈ [a, b], PureV v := pures_cons ha (pures1 hb)
theorem refSame_ok (a b : List Sp) (ha : a.length ≤ 1000000) (hb : b.length ≤ 1000000) : PCall Try.prog 45 [encL a, encL b] (.bool (decide (a = b))) := by
  refine PCall.run hb45 ok45 (by simp) (pures2 (pure_encL a) (pure_encL b)) (.bool _) ?_
  by_cases hl : a.length = b.length
  · simp -implicitDefEqProofs [encL, hl]
    refine run_loop (fun n s h => ∃ j : Nat, n = b.length - j ∧ j ≤ b.length ∧ s 0 = encL a ∧ s 1 = encL b ∧ s 5 = .int .i64 j ∧ a.take j = b.take j) ?_ b.length ?_
    rotate_left
    · exact ⟨0, by simp [encL]⟩
    rintro n s h ⟨j, hn, hj, s0, s1, s5, he⟩ ih
    rw [encL] at s0 s1
    by_cases hlt : j < b.length
    · have hlt' : j < a.length := by omega
      have i1 := idxOf_nat (k := .i64) hlt
      have i2 := idxOf_nat (k := .i64) hlt'
      have hs : a.take (j + 1) = b.take (j + 1) ↔ a[j] = b[j] := by
        rw [List.take_succ_eq_append_getElem (l := b) hlt, List.take_succ_eq_append_getElem (l := a) hlt', he]
        simp only [List.append_cancel_left_eq, List.cons.injEq, and_true]
      have hx : a[j] ≠ b[j] → a ≠ b := fun h e => by subst e; exact h rfl
      simp -implicitDefEqProofs [s0, s5, hl, hlt]
      refine run_dreg c45_d6 ?_
      by_cases h1 : a[j].1 = b[j].1
      · by_cases h2 : a[j].2 = b[j].2
        · simp -implicitDefEqProofs [s0, s1, s5, hl, hlt, avP, h1, h2, inc_i64 hlt (by omega), -Int.natCast_add]
          exact ih (b.length - (j + 1)) _ _ (by omega) ⟨j + 1, rfl, by omega, by simp [s0, encL], by simp [s1, encL], by simp, hs.2 (Prod.ext h1 h2)⟩
        · have hne := hx fun e => h2 (by rw [e])
          simp -implicitDefEqProofs [s0, s1, s5, hl, hlt, avP, h1, h2, hne]
      · have hne := hx fun e => h1 (by rw [e])
        simp -implicitDefEqProofs [s0, s1, s5, hl, hlt, avP, h1, hne]
    · obtain rfl : j = b.length := by omega
      rw [List.take_length, List.take_of_length_le (by omega)] at he
      simp -implicitDefEqProofs [s0, s5, he]
  · have hne : a ≠ b := fun e => hl (by rw [e])
    simp -implicitDefEqProofs [encL, hl, hne]

/-! ### The program's -/
theorem plainA_ok (l : List Sp) (hl : l.length ≤ 1000000) : PCall Try.prog 134 [.sl .no [[encL l]]] (encL (plainL l)) := by
  have := plain_ok [l] (by simpa [tot] using hl) (by simp)
  simpa using this
theorem keysPlain_ok (l : List Sp) (hl : l.length ≤ 1000000) : PCall Try.prog 101 [encL l] (encL (plainL l)) := by
  refine PCall.run hb101 ok101 (by simp) (pures1 (pure_encL l)) (pure_encL _) ?_
  simp -implicitDefEqProofs []
  refine callQ_p (plainA_ok l hl) (by simp [wk_encL]) ?_
  simp -implicitDefEqProofs [wk_encL]
theorem elOK_P : ElOK avP 2 true := ⟨fun _ => rfl, (fun h => by cases h), pure_avP, fun x => by simp [avP]⟩
end Go.Proofs

/- A text's bytes as words: both ways of packing, and the writer of texts. -/
namespace Go.Proofs
open Go Go.RowKit Go.Am

/-- The byte at a place, or none: 0. -/
def byteAt (s : ByteArray) (i : Nat) : Nat := match s.data[i]? with | some c => c.toNat | none => 0
theorem byteAt_lt (s : ByteArray) (i : Nat) : byteAt s i < 256 := by
  unfold byteAt
  split
  · rename_i c _; exact c.toNat_lt
  · omega

theorem data_byte {s : ByteArray} {j : Nat} {h : j < s.data.size} : (s.data[j]'h).toNat = byteAt s j := by
  unfold byteAt
  rw [Array.getElem?_eq_getElem h]
theorem byteAt_out {s : ByteArray} {j : Nat} (h : ¬ j < s.size) : byteAt s j = 0 := by
  have h' : s.data.size ≤ j := Nat.le_of_not_lt h
  unfold byteAt
  rw [Array.getElem?_eq_none h']

/-- k bytes from a place on, as a number, the first the least. -/
def num (s : ByteArray) (at' : Nat) : Nat → Nat
  | 0 => 0
  | k + 1 => byteAt s at' + 256 * num s (at' + 1) k

def packed (s : ByteArray) : List Nat := (List.range ((s.size + 7) / 8)).map fun i => num s (8 * i) 8

theorem num_lt (s : ByteArray) : ∀ (k a : Nat), num s a k < 256 ^ k
  | 0, a => by simp [num]
  | k + 1, a => by
    have h1 := num_lt s k (a + 1)
    have h2 := byteAt_lt s a
    simp only [num, Nat.pow_succ]
    omega
theorem num8_lt (s : ByteArray) (a : Nat) : num s a 8 < 18446744073709551616 := num_lt s 8 a

theorem refPacked_ok (s : ByteArray) (hs : s.size ≤ 1000) : PCall Try.prog 143 [.str s] (encW (packed s)) := by
  refine PCall.run hb143 ok143 (by simp) (pures1 (.str _)) (pure_w64 _) ?_
  simp -implicitDefEqProofs
  refine run_loop (fun n s1 h => ∃ i t, n = (s.size + 7) / 8 - i ∧ i ≤ (s.size + 7) / 8 ∧ s1 0 = .str s ∧ s1 3 = .sl t (((List.range i).map fun i => num s (8 * i) 8).map w64) ∧ TLive h t i ∧ s1 4 = .int .i64 ((8 * i : Nat) : Int)) ?_ ((s.size + 7) / 8) ?_
  · rintro n s1 h ⟨i, t, hn, hi, h0, h3, hl, h4⟩ ih
    simp -implicitDefEqProofs [h0, h4]
    by_cases hlt : 8 * i < s.size
    · have hlt' : (8 : Int) * (i : Int) < (s.size : Int) := by omega
      simp -implicitDefEqProofs [hlt']
      refine run_loop (fun n s2 h2 => ∃ k : Nat, n = k ∧ k ≤ 8 ∧ h2 = h ∧ s2 0 = .str s ∧ s2 3 = s1 3 ∧ s2 4 = s1 4 ∧ s2 6 = .int .i64 ((k : Int) - 1) ∧ s2 5 = .int .u64 (num s (8 * i + k) (8 - k) : Int)) ?_ 8 ?_
      · rintro n s2 h2 ⟨k, rfl, hk, rfl, g0, g3, g4, g6, g5⟩ ih2
        rcases n with _ | m
        · simp -implicitDefEqProofs [g6, g3, h3, g5]
          refine appQ_w ((List.range i).map fun i => num s (8 * i) 8) [num s (8 * i) 8] (by simp) (by simp [w64]) (by simpa using hl) (by simp; omega) fun t' h' q1 q2 q3 q4 => ?_
          simp -implicitDefEqProofs [g4, h4, wrap_i64 (x := 8 * (i : Int) + 8) (by omega) (by omega)]
          refine ih ((s.size + 7) / 8 - (i + 1)) _ _ (by omega) ⟨i + 1, t', rfl, by omega, by simp [g0], by simp [List.range_succ], by simpa using q1, by simp; omega⟩
        · have hm : ((m + 1 : Nat) : Int) - 1 = (m : Int) := by omega
          rw [hm] at g6
          have g5' : s2 5 = .int .u64 (num s (8 * i + (m + 1)) (7 - m) : Int) := by rw [g5, show 8 - (m + 1) = 7 - m by omega]
          have hnum : num s (8 * i + m) (8 - m) = byteAt s (8 * i + m) + 256 * num s (8 * i + (m + 1)) (7 - m) := by
            rw [show 8 - m = (7 - m) + 1 by omega]; rfl
          have hb : num s (8 * i + m) (8 - m) < 18446744073709551616 := Nat.lt_of_lt_of_le (num_lt s (8 - m) (8 * i + m)) (Nat.pow_le_pow_right (n := 256) (by omega) (show 8 - m ≤ 8 by omega))
          have hm2 : IntKind.i64.wrap ((m : Int) - 1) = (m : Int) - 1 := wrap_i64 (by omega) (by omega)
          have hw1 : IntKind.u64.wrap ((num s (8 * i + (m + 1)) (7 - m) : Int) * 256) = (num s (8 * i + (m + 1)) (7 - m) : Int) * 256 := wrap_u64 (by omega) (by omega)
          have hw2 : IntKind.i64.wrap (8 * (i : Int) + (m : Int)) = ((8 * i + m : Nat) : Int) := by rw [wrap_i64 (by omega) (by omega)]; omega
          have h4' : s1 4 = .int .i64 (8 * (i : Int)) := by rw [h4]; simp
          have fin : ∀ s3 : Slots, s3 0 = .str s → s3 3 = s1 3 → s3 4 = s1 4 → s3 6 = .int .i64 ((m : Int) - 1) → s3 5 = .int .u64 (num s (8 * i + m) (8 - m) : Int) → Run Try.prog false [It.lp c143_l12, It.blk 2, It.c (IR.reg c143_r13), It.blk 1, It.c (IR.reg c143_r14), It.lp c143_l15, It.blk 0, It.c ((IR.reg c143_r16).seq IR.ret)]
              (retQ [ResA.t 2] fun r' x => wk r' = AV.sl Tok.no (List.map w64 (packed s))) s3 h2 :=
            fun s3 a0 a3 a4 a6 a5 => ih2 m s3 h2 (by omega) ⟨m, rfl, by omega, rfl, a0, a3, a4, a6, a5⟩
          by_cases hin : 8 * i + m < s.size
          · have hbt := byteAt_lt s (8 * i + m)
            have hw3 : IntKind.u64.wrap (byteAt s (8 * i + m) : Int) = (byteAt s (8 * i + m) : Int) := wrap_u64 (by omega) (by omega)
            have hw4 : IntKind.u64.wrap ((num s (8 * i + (m + 1)) (7 - m) : Int) * 256 + (byteAt s (8 * i + m) : Int)) = (num s (8 * i + (m + 1)) (7 - m) : Int) * 256 + (byteAt s (8 * i + m) : Int) := wrap_u64 (by omega) (by omega)
            have hi1 : idxOf (.int .i64 ((8 * i + m : Nat) : Int)) s.size = some (8 * i + m) := idxOf_nat hin
            simp -implicitDefEqProofs [g6, g5', hw1, g4, h4', g0, hw2, -Int.natCast_add, -idxOf, hin, hi1, data_byte, hw3, hw4, hm2]
            refine fin _ (by simp [g0]) (by simp [g3]) (by simp [g4]) (by simp) ?_
            simp [hnum]
            omega
          · have hz := byteAt_out hin
            simp -implicitDefEqProofs [g6, g5', hw1, g4, h4', g0, hw2, -Int.natCast_add, hin, hm2]
            refine fin _ (by simp [g0]) (by simp [g3]) (by simp [g4]) (by simp) ?_
            simp [hnum, hz]
            omega
      · exact ⟨8, rfl, by omega, rfl, by simp [h0], by simp, by simp, by simp, by simp [num]⟩
    · have hlt' : ¬ (8 : Int) * (i : Int) < (s.size : Int) := by omega
      simp -implicitDefEqProofs [hlt']
      have : i = (s.size + 7) / 8 := by omega
      simp -implicitDefEqProofs [h3, packed, this]
  · exact ⟨0, .full, by simp, by omega, by simp, by simp, trivial, by simp⟩
end Go.Proofs

/- The program's packing of texts. -/
namespace Go.Proofs
open Go Go.RowKit Go.Am

end Go.Proofs

/- The program's packing of texts: the run. -/
namespace Go.Proofs
open Go Go.RowKit Go.Am

end Go.Proofs

/- The writer of texts; copies; what a writer hands back. -/
namespace Go.Proofs
open Go Go.RowKit Go.Am

def cut64 (s : ByteArray) : ByteArray := s.extract 0 (min s.size 64)
theorem cut64_size (s : ByteArray) : (cut64 s).size = min s.size 64 := by simp [cut64]

theorem packed_len (s : ByteArray) : (packed s).length = (s.size + 7) / 8 := by simp [packed]

def textW (s : ByteArray) : List Nat := (cut64 s).size :: packed (cut64 s)

theorem clone_ok (us : List Nat) (hl : us.length ≤ 1000000) : PCall Try.prog 118 [encW us] (encW us) := by
  refine clone_gen (n := 1) (b := 8) (z := [.int .u64 0]) hb118 ok118 (us.map w64) (w64_len us) (pure_w64 us) (by simp) (by simp; omega)

theorem done_ok {h : H} {b : Nat} {t : Tok} {ws : List Nat} (hw : WB h b t ws) (hl : ws.length ≤ 1000000) : SCall Try.prog 72 [.ptr b 0] h (encW ws) h := by
  refine CallP.sure (CallP.run hb72 ok72 (by simp) ?_)
  simp -implicitDefEqProofs [hw.bx, hw.lt]
  refine callQ_p (clone_ok ws hl) (by simp) ?_
  try simp -implicitDefEqProofs
end Go.Proofs

/- Items: what is written of them, by the program and by the document. -/
namespace Go.Proofs
open Go Go.RowKit Go.Am

structure Item where
  kind : Int
  n : Int
  most : Int
  x : Int
  s : ByteArray
  l : List Nat

def inI (x : Int) : Prop := -9223372036854775808 ≤ x ∧ x ≤ 9223372036854775807
def Item.ok (x : Item) : Prop := inI x.n ∧ inI x.x ∧ x.s.size ≤ 1000 ∧ x.l.length ≤ 1000
def encItm (x : Item) : List AV := [.int .i64 x.kind, .int .i64 x.n, .int .i64 x.most, .int .i64 x.x, .str x.s, encW x.l]

def writeW (x : Item) : List Nat :=
  if x.kind = 0 then [x.n.toNat] else if x.kind = 1 then [signed x.x] else if x.kind = 2 then [if x.n = 1 then 1 else 0] else if x.kind = 3 then textW x.s else x.l.length :: x.l

theorem WB.alloc {h : H} {b : Nat} {t : Tok} {ws : List Nat} (hw : WB h b t ws) (cs : List AV) : WB (h.alloc cs) b t ws :=
  ⟨by have := hw.lt; simp; omega, by have := hw.lt; have h2 : b ≠ h.bn := by omega
                                     simp [h2, hw.bx], by simpa using hw.live⟩
theorem WTo.alloc {h : H} {b : Nat} {t : Tok} {ws : List Nat} {h' : H} {t' : Tok} {cs : List AV} (q : WTo (h.alloc cs) b t ws h' t') : WTo h b t ws h' t' :=
  ⟨q.wb, q.next, (HF.alloc h cs _ _).trans q.keep⟩

/-- A slice of words that grows. -/
structure STo (h : H) (t : Tok) (ws : List Nat) (r : AV) (h' : H) (t' : Tok) : Prop where
  val : r = .sl t' (ws.map w64)
  live : TLive h' t' ws.length
  next : TNext h t t'
  keep : HF h h' (fun _ => False) (TOwn t)

theorem refWrite_ok {h : H} {t : Tok} {ws : List Nat} (ht : TLive h t ws.length) (x : Item) (hx : x.ok) (hl : ws.length ≤ 900000) : CallP Try.prog 124 [.sl t (ws.map w64), .agg (encItm x)] h fun r h' => ∃ t', STo h t (ws ++ writeW x) r h' t' := by
  refine CallP.run hb124 ok124 (by simp) ?_
  obtain ⟨⟨n1, n2⟩, ⟨x1, x2⟩, s1, l1⟩ := hx
  have hta : ∀ cs, TLive (h.alloc cs) t ws.length := fun cs => by simpa using ht
  have fin : ∀ {cs : List AV} {us : List Nat} {t' : Tok} {h' : H}, TLive h' t' (ws ++ us).length → TNext (h.alloc cs) t t' → HF (h.alloc cs) h' (fun _ => False) (TOwn t) → STo h t (ws ++ us) (.sl t' ((ws ++ us).map w64)) h' t' := fun q1 q2 q3 => ⟨rfl, q1, q2, (HF.alloc h _ _ _).trans q3⟩
  simp -implicitDefEqProofs [encItm]
  by_cases k0 : x.kind = 0
  · simp -implicitDefEqProofs [k0]
    by_cases hn : x.n < 0
    · simp -implicitDefEqProofs [hn]
      refine appQ_w ws [0] rfl (by simp [w64]) (hta _) (by simp; omega) fun t' h' q1 q2 q3 q4 => ?_
      try simp -implicitDefEqProofs
      exact ⟨t', by simpa [writeW, k0, show x.n.toNat = 0 by omega] using fin q1 q2 q3⟩
    · have hw : IntKind.u64.wrap x.n = x.n := wrap_u64 (by omega) (by omega)
      simp -implicitDefEqProofs [hn, hw]
      refine appQ_w ws [x.n.toNat] rfl (by simp [w64]; omega) (hta _) (by simp; omega) fun t' h' q1 q2 q3 q4 => ?_
      try simp -implicitDefEqProofs
      exact ⟨t', by simpa [writeW, k0] using fin q1 q2 q3⟩
  by_cases k1 : x.kind = 1
  · simp -implicitDefEqProofs [k1]
    refine callQ_p (refSigned_ok x.x x1 x2) (by simp) ?_
    try simp -implicitDefEqProofs
    refine appQ_w ws [signed x.x] rfl (by simp [w64]) (hta _) (by simp; omega) fun t' h' q1 q2 q3 q4 => ?_
    try simp -implicitDefEqProofs
    exact ⟨t', by simpa [writeW, k1] using fin q1 q2 q3⟩
  by_cases k2 : x.kind = 2
  · simp -implicitDefEqProofs [k2]
    by_cases hn : x.n = 1
    · simp -implicitDefEqProofs [hn]
      refine appQ_w ws [1] rfl (by simp [w64]) (hta _) (by simp; omega) fun t' h' q1 q2 q3 q4 => ?_
      try simp -implicitDefEqProofs
      exact ⟨t', by simpa [writeW, k2, hn] using fin q1 q2 q3⟩
    · simp -implicitDefEqProofs [hn]
      refine appQ_w ws [0] rfl (by simp [w64]) (hta _) (by simp; omega) fun t' h' q1 q2 q3 q4 => ?_
      try simp -implicitDefEqProofs
      exact ⟨t', by simpa [writeW, k2, hn] using fin q1 q2 q3⟩
  by_cases k3 : x.kind = 3
  · have hfin3 : ∀ (h1 : H) (s2 : Slots), h1 = h1 → True := fun _ _ _ => trivial
    have hpl := packed_len (cut64 x.s)
    have hc := cut64_size x.s
    simp -implicitDefEqProofs [k3]
    by_cases hn : 64 < x.s.size
    · have e2 : bndOf (some (.int .i64 64)) x.s.size x.s.size = some 64 := by
        simp only [bndOf]
        rw [if_pos (by omega)]
        simp
      have e3 : bndOf none 64 0 = some 0 := rfl
      have e4 : x.s.extract 0 64 = cut64 x.s := by simp only [cut64]; rw [show min x.s.size 64 = 64 by omega]
      have e5 : (cut64 x.s).size = 64 := by omega
      have e6 : IntKind.u64.wrap 64 = 64 := wrap_u64 (by omega) (by omega)
      have hn' : (64 : Int) < (x.s.size : Int) := by omega
      simp -implicitDefEqProofs [hn', e2, e3, e4, e5, e6, -bndOf]
      refine appQ_w ws [64] rfl (by simp [w64]) (hta _) (by simp; omega) fun t' h' q1 q2 q3 q4 => ?_
      try simp -implicitDefEqProofs
      refine callQ_p (refPacked_ok (cut64 x.s) (by omega)) (by simp) ?_
      try simp -implicitDefEqProofs
      refine appQ_w (ws ++ [64]) (packed (cut64 x.s)) (by simp) rfl q1 (by simp; omega) fun t'' h'' r1 r2 r3 r4 => ?_
      try simp -implicitDefEqProofs
      refine ⟨t'', ?_⟩
      have hf := q3.trans' r3 (fun _ _ h => h) (TOwn.next (B := fun _ => False) (T := fun _ => False) (h1 := h') q2)
      have := fin (us := 64 :: packed (cut64 x.s)) (by simpa using r1) (q2.trans q3 r2) hf
      simpa [writeW, k3, textW, e5] using this
    · have e4 : x.s = cut64 x.s := by simp only [cut64]; rw [show min x.s.size 64 = x.s.size by omega, ByteArray.extract_zero_size]
      have e6 : IntKind.u64.wrap (x.s.size : Int) = (x.s.size : Int) := wrap_u64 (by omega) (by omega)
      have hn' : ¬ (64 : Int) < (x.s.size : Int) := by omega
      simp -implicitDefEqProofs [hn', e6]
      refine appQ_w ws [x.s.size] rfl (by simp [w64]) (hta _) (by simp; omega) fun t' h' q1 q2 q3 q4 => ?_
      try simp -implicitDefEqProofs
      refine callQ_p (refPacked_ok x.s (by omega)) (by simp) ?_
      try simp -implicitDefEqProofs
      have hpl' := packed_len x.s
      refine appQ_w (ws ++ [x.s.size]) (packed x.s) (by simp) rfl q1 (by simp; omega) fun t'' h'' r1 r2 r3 r4 => ?_
      try simp -implicitDefEqProofs
      refine ⟨t'', ?_⟩
      have hf := q3.trans' r3 (fun _ _ h => h) (TOwn.next (B := fun _ => False) (T := fun _ => False) (h1 := h') q2)
      have := fin (us := x.s.size :: packed x.s) (by simpa using r1) (q2.trans q3 r2) hf
      simpa [writeW, k3, textW, ← e4] using this
  · simp -implicitDefEqProofs [k0, k1, k2, k3]
    refine run_dreg c124_d18 ?_
    have e6 : IntKind.u64.wrap (x.l.length : Int) = (x.l.length : Int) := wrap_u64 (by omega) (by omega)
    simp -implicitDefEqProofs [e6]
    refine appQ_w ws [x.l.length] rfl (by simp [w64]) (hta _) (by simp; omega) fun t' h' q1 q2 q3 q4 => ?_
    have hbx := q3.bx h.bn (by simp) (fun h => h)
    have hbn : h'.bn = h.bn + 1 := by rw [q4]; rfl
    simp -implicitDefEqProofs at hbx
    simp -implicitDefEqProofs [hbx, hbn]
    refine appQ_w (ws ++ [x.l.length]) x.l (by simp) rfl q1 (by simp; omega) fun t'' h'' r1 r2 r3 r4 => ?_
    have hbx2 := r3.bx h.bn (by omega) (fun h => h)
    rw [hbx] at hbx2
    have hbn2 : h''.bn = h.bn + 1 := by rw [r4, hbn]
    simp -implicitDefEqProofs [hbx, hbn, hbx2, hbn2]
    refine ⟨t'', ?_⟩
    have hf := q3.trans' r3 (fun _ _ h => h) (TOwn.next (B := fun _ => False) (T := fun _ => False) (h1 := h') q2)
    have := fin (us := x.l.length :: x.l) (by simpa using r1) (q2.trans q3 r2) hf
    simpa [writeW, k0, k1, k2, k3] using this
end Go.Proofs

/- What the statements about codes ask first: no more items than are looked at; the document's examples. -/
namespace Go.Proofs
open Go Go.RowKit Go.Am

def encIs (l : List Item) : AV := .sl .no (l.map encItm)

def greatI (x : Item) : Bool := decide (100 < x.l.length) || decide (200 < x.s.size) || decide (x.kind < 0) || decide (4 < x.kind)
def great (l : List Item) : Bool := l.any greatI || decide (60 < l.length)

theorem pure_encI (x : Item) : ∀ v ∈ encItm x, PureV v := by
  simp only [encItm]
  exact pures_cons (.int _ _) (pures_cons (.int _ _) (pures_cons (.int _ _) (pures_cons (.int _ _) (pures_cons (.str _) (pures1 (pure_w64 _))))))
theorem pure_encIs (l : List Item) : PureV (encIs l) := .sl (fun i h => by cases h) fun e he v hv => by
  obtain ⟨x, _, rfl⟩ := List.mem_map.1 he
  exact pure_encI x v hv
@[simp] theorem wk_encI (x : Item) : List.map wk (encItm x) = encItm x := by simp [encItm]
@[simp] theorem wk_encI' : List.map wk ∘ encItm = encItm := by funext x; simp

theorem WB.new (h : H) : WB (h.alloc [.sl .full []]) h.bn .full [] := ⟨by simp, by simp, trivial⟩

end Go.Proofs

/- The statement CodesWrite: what its function hands back. -/
namespace Go.Proofs
open Go Go.RowKit Go.Am

theorem textW_len (s : ByteArray) : (textW s).length ≤ 10 := by
  have h1 := packed_len (cut64 s)
  have h2 := cut64_size s
  simp only [textW, List.length_cons]
  omega
theorem writeW_len (x : Item) (h : x.l.length ≤ 100) : (writeW x).length ≤ 102 := by
  have ht := textW_len x.s
  unfold writeW
  split
  · simp
  split
  · simp
  split
  · simp
  split
  · omega
  · simp; omega

def writeAll (l : List Item) : List Nat := l.flatMap writeW
theorem writeAll_len : ∀ (l : List Item), (∀ x ∈ l, x.l.length ≤ 100) → (writeAll l).length ≤ 102 * l.length
  | [], _ => by simp [writeAll]
  | x :: l, h => by
    have h1 := writeW_len x (h x (List.mem_cons_self ..))
    have h2 := writeAll_len l fun y hy => h y (List.mem_cons_of_mem _ hy)
    simp only [writeAll, List.flatMap_cons, List.length_append, List.length_cons] at h2 ⊢
    omega

end Go.Proofs
