/- What the functions that the statement reaches do: their contracts; and what follows of it. -/
import Derived.Test.YtdcpendppalkgaaSRecsGet2
import Derived.Test.YtdcpendppalkgaaSRecsGet1
import Derived.Test.YtdcpendppalkgaaK4
/- The document's sets of keys: what its functions say. -/
namespace Go.Am
open Go Go.RowKit
/-- A pointer to a box that no longer turns. -/
theorem Gh.rop {h : H} {b : Nat} {cs : List AV} (hb : b < h.bn) (hc : h.bx b = some cs) : Gh h (.ptr b 0) (h.kill b) (.rop cs) := by
  refine .frz b cs hb hc (fun w g V hro hr => ?_) (.refl _ _)
  cases hr with
  | ptr b o h1 =>
    have key : ∀ k (hk : k < cs.length), ∃ U, k < g.ro (g.bx b) ∧ w.cell? ⟨g.bx b, k, none⟩ = some U ∧ Rep w g cs[k] U ∧ ok1 cs[k] = true := fun k hk => hro k _ (List.getElem?_eq_getElem hk)
    refine Rep.rop cs ⟨g.bx b, 0, none⟩ (fun k => if hk : k < cs.length then Classical.choose (key k hk) else .nilFunc) (fun k hk => ?_) (fun k hk => ?_) (fun k hk => ?_)
    · obtain ⟨q1, q2, _⟩ := Classical.choose_spec (key k hk)
      refine ⟨g.bx b, 0, rfl, by rw [Nat.zero_add]; exact q1, ?_⟩
      rw [dif_pos hk, Nat.zero_add]
      exact q2
    · rw [dif_pos hk]
      exact (Classical.choose_spec (key k hk)).2.2.1
    · exact (Classical.choose_spec (key k hk)).2.2.2
end Go.Am
namespace Go.Proofs
open Go Go.RowKit Go.Am

def setA (f : Nat → Bool) : List AV := (List.range 1000).map fun k => .bool (f k)
@[simp] theorem setA_len (f : Nat → Bool) : (setA f).length = 1000 := by simp only [setA, List.length_map, List.length_range]
theorem setA_get (f : Nat → Bool) {k : Nat} (hk : k < 1000) : (setA f)[k]? = some (.bool (f k)) := by
  rw [setA, List.getElem?_map, List.getElem?_range hk]; rfl
theorem setA_at (f : Nat → Bool) {k : Nat} (hk : k < 1000) : List.take 1 (List.drop k (setA f)) = [.bool (f k)] := by
  have h := setA_get f hk
  obtain ⟨hk', e⟩ := List.getElem?_eq_some_iff.1 h
  rw [List.drop_eq_getElem_cons hk', e]
  rfl
theorem setA_put (f : Nat → Bool) {k : Nat} (hk : k < 1000) (v : Bool) : List.take k (setA f) ++ .bool v :: List.drop (k + 1) (setA f) = setA fun i => if i = k then v else f i := by
  have e : setA (fun i => if i = k then v else f i) = (setA f).set k (.bool v) := by
    apply List.ext_getElem?
    intro i
    rw [List.getElem?_set]
    by_cases h : k = i
    · subst h
      rw [if_pos rfl, if_pos (by rw [setA_len]; exact hk), setA_get _ hk, if_pos rfl]
    · rw [if_neg h]
      by_cases hi : i < 1000
      · rw [setA_get _ hi, setA_get _ hi, if_neg (fun e => h e.symm)]
      · rw [List.getElem?_eq_none (by rw [setA_len]; omega), List.getElem?_eq_none (by rw [setA_len]; omega)]
  rw [e, List.set_eq_take_append_cons_drop, if_pos (by rw [setA_len]; exact hk)]
theorem setA_zero : List.replicate 1000 (AV.bool false) = setA fun _ => false := by
  apply List.ext_getElem?
  intro i
  by_cases hi : i < 1000
  · rw [setA_get _ hi, List.getElem?_replicate, if_pos hi]
  · rw [List.getElem?_eq_none (by rw [List.length_replicate]; omega), List.getElem?_eq_none (by rw [setA_len]; omega)]
theorem setA_congr {f g : Nat → Bool} (h : ∀ k, k < 1000 → f k = g k) : setA f = setA g := by
  apply List.ext_getElem?
  intro i
  by_cases hi : i < 1000
  · rw [setA_get _ hi, setA_get _ hi, h i hi]
  · rw [List.getElem?_eq_none (by rw [setA_len]; omega), List.getElem?_eq_none (by rw [setA_len]; omega)]
theorem pure_setA (f : Nat → Bool) : ∀ v ∈ setA f, PureV v := by
  intro v hv
  obtain ⟨k, _, rfl⟩ := List.mem_map.1 hv
  exact .bool _
theorem wk_setA (f : Nat → Bool) : (setA f).map wk = setA f := by simp [setA]
/-- A set, as the document has it. -/
def setP (f : Nat → Bool) : AV := .rop (setA f)
theorem pure_setP (f : Nat → Bool) : PureV (setP f) := .rop (pure_setA f)
theorem wk_setP (f : Nat → Bool) : Am.wk (setP f) = setP f := by simp [setP, wk_setA]

def upTo (l : List Sp) (lo k : Int) (i : Nat) : Bool := hasK l i || (decide (lo ≤ i) && decide ((i : Int) < k))

set_option maxHeartbeats 1000000 in
theorem refOf_ok (l : List Sp) (hl : l.length ≤ 1000000) : PCall Try.prog 68 [encL l] (setP fun k => hasK l k) := by
  refine PCall.run' hb68 ok68 (by simp) (pures1 (pure_encL l)) (pure_setP _) (wk_setP _) ?_
  simp -implicitDefEqProofs [-List.reduceReplicate, setA_zero, H.nil]
  refine run_loop (fun n s h => ∃ i : Nat, n = l.length - i ∧ i ≤ l.length ∧ s 0 = encL l ∧ s 3 = .ptr 0 0 ∧ s 4 = .int .i64 i ∧ 0 < h.bn ∧ h.bx 0 = some (setA fun k => hasK (l.take i) k)) ?_ l.length ?_
  rotate_left
  · exact ⟨0, by simp [encL, hasK_nil]⟩
  rintro n s h ⟨i, hn, hi, s0, s3, s4, hb, hc⟩ ih
  by_cases hlt : i < l.length
  · rw [encL] at s0
    have i1 := idxOf_nat (k := .i64) hlt
    have hnext : ∀ k, hasK (l.take (i + 1)) k = (hasK (l.take i) k || inS l[i] k) := fun k => by
      rw [List.take_succ_eq_append_getElem hlt, hasK_app, hasK_cons, hasK_nil, Bool.or_false]
    have hskip : mayS l[i] = false → ∀ k : Nat, hasK (l.take (i + 1)) k = hasK (l.take i) k := fun hm k => by
      rw [hnext, inS, hm]; simp
    have hgo : ∀ s1 h1, s1 0 = encL l → s1 3 = .ptr 0 0 → s1 4 = .int .i64 (i + 1 : Nat) → 0 < h1.bn → h1.bx 0 = some (setA fun k => hasK (l.take (i + 1)) k) → Run Try.prog false [.lp c68_l12, .blk 0, .c (.seq (.reg c68_r13) .ret)] (retQ [.t 2] fun r' h1 => ∃ h', Gh h1 r' h' (setP fun k => hasK l k)) s1 h1 := fun s1 h1 q0 q3 q4 q5 q6 =>
      ih (l.length - (i + 1)) _ _ (by omega) ⟨i + 1, rfl, by omega, q0, q3, q4, q5, q6⟩
    by_cases h1 : l[i].1 < 0
    · have hm : mayS l[i] = false := by rw [Bool.eq_false_iff]; intro e; have := mayS_iff.1 e; omega
      simp -implicitDefEqProofs [s0, s4, hlt, avP, h1, inc_i64 hlt (by omega), -Int.natCast_add]
      refine hgo _ _ (by simp [s0, encL]) (by simp [s3]) (by simp) hb (by rw [hc]; exact congrArg some (setA_congr fun k _ => (hskip hm k).symm))
    · by_cases h2 : 999 < l[i].2
      · have hm : mayS l[i] = false := by rw [Bool.eq_false_iff]; intro e; have := mayS_iff.1 e; omega
        simp -implicitDefEqProofs [s0, s4, hlt, avP, h1, h2, inc_i64 hlt (by omega), -Int.natCast_add]
        refine hgo _ _ (by simp [s0, encL]) (by simp [s3]) (by simp) hb (by rw [hc]; exact congrArg some (setA_congr fun k _ => (hskip hm k).symm))
      · simp -implicitDefEqProofs [s0, s4, hlt, avP, h1, h2]
        refine run_loop (fun n s h => ∃ k : Int, n = (l[i].2 + 1 - k).toNat ∧ l[i].1 ≤ k ∧ (k ≤ l[i].2 + 1 ∨ k = l[i].1) ∧ s 0 = encL l ∧ s 3 = .ptr 0 0 ∧ s 4 = .int .i64 i ∧ s 5 = .int .i64 k ∧ 0 < h.bn ∧ h.bx 0 = some (setA (upTo (l.take i) l[i].1 k))) ?_ (l[i].2 + 1 - l[i].1).toNat ?_
        rotate_left
        · refine ⟨l[i].1, rfl, Int.le_refl _, .inr rfl, by simp [s0, encL], by simp [s3], by simp [s4], by simp, hb, ?_⟩
          rw [hc]
          refine congrArg some (setA_congr fun k _ => ?_)
          simp only [upTo]
          rw [show (decide (l[i].1 ≤ (k : Int)) && decide ((k : Int) < l[i].1)) = false by simp, Bool.or_false]
        rintro n s h ⟨k, hn, hk1, hk2, s0, s3, s4, s5, hb, hc⟩ ih2
        rw [encL] at s0
        by_cases hle : k ≤ l[i].2
        · obtain ⟨m, rfl⟩ : ∃ m : Nat, k = m := ⟨k.toNat, by omega⟩
          have hm : m < 1000 := by omega
          have i2 := idxOf_nat (k := .i64) hm
          have hp := setA_put (upTo (l.take i) l[i].1 m) hm true
          simp -implicitDefEqProofs [s0, s3, s4, s5, hlt, hle, avP, hb, hc, hp, show m + 1 ≤ 1000 by omega, show (m : Int) < 1000 by omega, inc_i64 hm (by omega), -Int.natCast_add]
          refine ih2 (l[i].2 + 1 - ((m + 1 : Nat) : Int)).toNat _ _ (by omega) ⟨((m + 1 : Nat) : Int), rfl, by omega, .inl (by omega), by simp [s0, encL], by simp [s3], by simp [s4], by simp, by simpa using hb, ?_⟩
          simp only [set_bx, if_true]
          refine congrArg some (setA_congr fun j _ => ?_)
          by_cases hj : j = m
          · subst hj
            simp only [upTo]
            rw [show decide (l[i].1 ≤ (j : Int)) = true from decide_eq_true (by omega), show decide ((j : Int) < ((j + 1 : Nat) : Int)) = true from decide_eq_true (by omega)]
            simp
          · simp only [upTo]
            have e : decide ((j : Int) < ((m + 1 : Nat) : Int)) = decide ((j : Int) < (m : Int)) := by
              rw [Bool.eq_iff_iff, decide_eq_true_eq, decide_eq_true_eq]
              omega
            rw [e, show decide (j = m) = false from decide_eq_false hj, Bool.false_or]
        · simp -implicitDefEqProofs [s0, s4, s5, hlt, hle, avP, inc_i64 hlt (by omega), -Int.natCast_add]
          refine hgo _ _ (by simp [s0, encL]) (by simp [s3]) (by simp) hb ?_
          rw [hc]
          refine congrArg some (setA_congr fun j _ => ?_)
          rw [hnext]
          simp only [upTo]
          congr 1
          rw [Bool.eq_iff_iff, inS_iff, mayS_iff, Bool.and_eq_true, decide_eq_true_eq, decide_eq_true_eq]
          omega
  · obtain rfl : i = l.length := by omega
    rw [List.take_length] at hc
    simp -implicitDefEqProofs [s0, s3, s4, encL]
    exact ⟨_, Gh.rop hb hc⟩
end Go.Proofs

/- The document's sets of keys: the plain list of a set; the same; a key in common. -/
namespace Go.Proofs
open Go Go.RowKit Go.Am

set_option maxHeartbeats 1000000 in
theorem refPlain_ok (f : Nat → Bool) : PCall Try.prog 60 [setP f] (encL (plainOf f)) := by
  refine PCall.run' hb60 ok60 (by simp) (pures1 (pure_setP f)) (pure_encL _) (wk_encL _) ?_
  simp -implicitDefEqProofs []
  refine run_loop (fun n s h => ∃ k : Nat, n = 1000 - k ∧ k ≤ 1000 ∧ s 0 = setP f ∧ s 4 = .int .i64 k ∧ ((plainTo f k = [] ∧ s 3 = .sl .full []) ∨ (∃ c, plainTo f k ≠ [] ∧ s 3 = .msl c 2 0 (plainTo f k).length ∧ c < h.bn ∧ h.bx c = some (flatP (plainTo f k))))) ?_ 1000 ?_
  rotate_left
  · exact ⟨0, by simp [plainTo]⟩
  rintro n s h ⟨k, hn, hk, s0, s4, hout⟩ ih
  by_cases hlt : k < 1000
  · have hki : (k : Int) < 1000 := by omega
    have i1 := idxOf_nat (k := .i64) hlt
    have g1 := setA_at f hlt
    have g2 : 1 ≤ 1000 - k := by omega
    have g3 : k + 1 ≤ 1000 := by omega
    have hst : plainTo f (k + 1) = if f k then (if 0 < k ∧ f (k - 1) = true then extL (plainTo f k) k else plainTo f k ++ [((k : Int), (k : Int))]) else plainTo f k := rfl
    cases hf : f k with
    | false =>
      rw [hf] at g1 hst
      rw [if_neg (by simp)] at hst
      simp -implicitDefEqProofs [s0, s4, hki, setP, g1, g2, inc_i64 hlt (by omega), -Int.natCast_add]
      refine ih (1000 - (k + 1)) _ _ (by omega) ⟨k + 1, rfl, by omega, by simp [s0, setP], by simp, ?_⟩
      rw [hst]
      simpa using hout
    | true =>
      rw [hf] at g1 hst
      rw [if_pos rfl] at hst
      by_cases hp : 0 < k ∧ f (k - 1) = true
      · rw [if_pos hp] at hst
        obtain ⟨o, t, e, ht⟩ := plainTo_snoc f k hk hp
        rcases hout with ⟨e0, _⟩ | ⟨c, hne, s3, hc1, hc2⟩
        · rw [e0] at e; simp at e
        rw [e, extL_snoc] at hst
        rw [e] at s3 hc2
        have hl : o.length + 1 ≤ 1000000 := by
          have := (plainTo_ok f k hk).1
          have h2 := plainL_len (plainTo f k)
          rw [plainL_plain this, e, List.length_append, List.length_singleton] at h2
          omega
        have hk0 := hp.1
        have hkm : IntKind.i64.wrap ((k : Int) - 1) = ((k - 1 : Nat) : Int) := by rw [wrap_i64 (by omega) (by omega)]; omega
        have i2 := idxOf_nat (k := .i64) (show k - 1 < 1000 by omega)
        have g4 := setA_at f (show k - 1 < 1000 by omega)
        rw [hp.2] at g4
        have w1 : IntKind.i64.wrap (((o.length + 1 : Nat) : Int) - 1) = (o.length : Nat) := by rw [wrap_i64 (by omega) (by omega)]; omega
        have g5 : (o.length : Int) < ((o.length + 1 : Nat) : Int) := by omega
        have g6 : (flatP (o ++ [t])).length = (o.length + 1) * 2 := by rw [flatP_len]; simp
        have g7 : o.length * 2 + 1 + 1 ≤ (o.length + 1) * 2 := by omega
        have g8 := flatP_last_put o t (k : Int)
        simp -implicitDefEqProofs [s0, s3, s4, hki, hk0, hkm, setP, g1, g2, g4, w1, g5, g6, g7, g8, hc1, hc2, show 1 ≤ 1000 - (k - 1) by omega, show ((k - 1 : Nat) : Int) < 1000 by omega, inc_i64 hlt (by omega), -Int.natCast_add]
        refine ih (1000 - (k + 1)) _ _ (by omega) ⟨k + 1, rfl, by omega, by simp [s0, setP], by simp, ?_⟩
        rw [hst]
        exact .inr ⟨c, by simp, by simp [s3], by simpa using hc1, by simp⟩
      · rw [if_neg hp] at hst
        have hb2 : 0 < k ∧ f (k - 1) = false ∨ ¬ 0 < k := by
          by_cases h0 : 0 < k
          · exact .inl ⟨h0, by rw [Bool.eq_false_iff]; exact fun h => hp ⟨by omega, h⟩⟩
          · exact .inr h0
        have happ : ∀ K : AV → H → Prop, (∀ c h1, c < h1.bn → h1.bx c = some (flatP (plainTo f (k + 1))) → K (.msl c 2 0 (plainTo f (k + 1)).length) h1) → appQ h 2 16 (s 3) (.sl .full [[.int .i64 k, .int .i64 k]]) K := by
          intro K hK
          rcases hout with ⟨e0, s3⟩ | ⟨c, hne, s3, hc1, hc2⟩
          · rw [e0] at hst
            rw [s3]
            have q := hK h.bn (h.alloc (flatP [((k : Int), (k : Int))])) (by simp) (by rw [hst]; simp)
            rw [hst] at q
            exact ⟨_, _, .newbox [] [avP ((k : Int), (k : Int))] _ (by simp) (by simp [srcA, avP]) (by simp) (by simp), q⟩
          · rw [s3]
            have hl : (plainTo f k).length ≤ 1000000 := by
              have := (plainTo_ok f k hk).1
              have h2 := plainL_len (plainTo f k)
              rw [plainL_plain this] at h2
              omega
            have g6 : List.take ((plainTo f k).length * 2) (flatP (plainTo f k)) = flatP (plainTo f k) := List.take_of_length_le (by rw [flatP_len]; omega)
            have q := hK h.bn ((h.kill c).alloc (flatP (plainTo f (k + 1)))) (by simp [H.kill]) (by simp [H.kill])
            rw [hst, List.length_append, flatP_app] at q
            rw [← g6] at q
            exact ⟨_, _, .box c (plainTo f k).length (flatP (plainTo f k)) [avP ((k : Int), (k : Int))] _ hc1 hc2 (by rw [flatP_len]; omega) (by simp [srcA, avP]) (by simp) (by simp only [List.length_cons, List.length_nil]; omega), q⟩
        have hne : plainTo f (k + 1) ≠ [] := by rw [hst]; simp
        rcases hb2 with ⟨h0, hp2⟩ | h0
        · have hkm : IntKind.i64.wrap ((k : Int) - 1) = ((k - 1 : Nat) : Int) := by rw [wrap_i64 (by omega) (by omega)]; omega
          have i2 := idxOf_nat (k := .i64) (show k - 1 < 1000 by omega)
          have g4 := setA_at f (show k - 1 < 1000 by omega)
          rw [hp2] at g4
          simp -implicitDefEqProofs [s0, s4, hki, h0, hkm, setP, g1, g2, g4, show 1 ≤ 1000 - (k - 1) by omega, show ((k - 1 : Nat) : Int) < 1000 by omega]
          refine happ _ fun c h1 hc1 hc2 => ?_
          simp -implicitDefEqProofs [s4, inc_i64 hlt (by omega), -Int.natCast_add]
          exact ih (1000 - (k + 1)) _ _ (by omega) ⟨k + 1, rfl, by omega, by simp [s0, setP], by simp, .inr ⟨c, hne, by simp, hc1, hc2⟩⟩
        · simp -implicitDefEqProofs [s0, s4, hki, h0, setP, g1, g2]
          refine happ _ fun c h1 hc1 hc2 => ?_
          simp -implicitDefEqProofs [s4, inc_i64 hlt (by omega), -Int.natCast_add]
          exact ih (1000 - (k + 1)) _ _ (by omega) ⟨k + 1, rfl, by omega, by simp [s0, setP], by simp, .inr ⟨c, hne, by simp, hc1, hc2⟩⟩
  · obtain rfl : k = 1000 := by omega
    simp -implicitDefEqProofs [s4]
    rcases hout with ⟨e0, s3⟩ | ⟨c, hne, s3, hc1, hc2⟩
    · simp -implicitDefEqProofs [s3]
      rw [plainOf, e0]
      exact ⟨_, .weak (fun _ _ _ h => h.wk) (.refl _ _)⟩
    · simp -implicitDefEqProofs [s3]
      have := Gh.msl (z := 2) (n := (plainTo f 1000).length) hc1 hc2 (by omega) (by rw [flatP_len]; omega)
      rw [chunksP] at this
      exact ⟨_, this⟩

end Go.Proofs

/- The document's sets of keys: are two lists the same, have two sets a key in common? The program's short functions. -/
namespace Go.Proofs
open Go Go.RowKit Go.Am

theorem pures2 {a b : AV} (ha : PureV a) (hb : PureV b) : ∀ v ∈ [a, b], PureV v := pures_cons ha (pures1 hb)
theorem refSame_ok (a b : List Sp) (ha : a.length ≤ 1000000) (hb : b.length ≤ 1000000) : PCall Try.prog 45 [encL a, encL b] (.bool (decide (a = b))) := by
  refine PCall.run hb45 ok45 (by simp) (pures2 (pure_encL a) (pure_encL b)) (.bool _) ?_
  by_cases hl : a.length = b.length
  · simp -implicitDefEqProofs [encL, hl]
    refine run_loop (fun n s h => ∃ j : Nat, n = b.length - j ∧ j ≤ b.length ∧ s 0 = encL a ∧ s 1 = encL b ∧ s 5 = .int .i64 j ∧ a.take j = b.take j) ?_ b.length ?_
    rotate_left
    · exact ⟨0, by simp [encL]⟩
    rintro n s h ⟨j, hn, hj, s0, s1, s5, he⟩ ih
    rw [encL] at s0 s1
    by_cases hlt : j < b.length
    · have hlt' : j < a.length := by omega
      have i1 := idxOf_nat (k := .i64) hlt
      have i2 := idxOf_nat (k := .i64) hlt'
      have hs : a.take (j + 1) = b.take (j + 1) ↔ a[j] = b[j] := by
        rw [List.take_succ_eq_append_getElem (l := b) hlt, List.take_succ_eq_append_getElem (l := a) hlt', he]
        simp only [List.append_cancel_left_eq, List.cons.injEq, and_true]
      have hx : a[j] ≠ b[j] → a ≠ b := fun h e => by subst e; exact h rfl
      simp -implicitDefEqProofs [s0, s5, hl, hlt]
      refine run_dreg c45_d6 ?_
      by_cases h1 : a[j].1 = b[j].1
      · by_cases h2 : a[j].2 = b[j].2
        · simp -implicitDefEqProofs [s0, s1, s5, hl, hlt, avP, h1, h2, inc_i64 hlt (by omega), -Int.natCast_add]
          exact ih (b.length - (j + 1)) _ _ (by omega) ⟨j + 1, rfl, by omega, by simp [s0, encL], by simp [s1, encL], by simp, hs.2 (Prod.ext h1 h2)⟩
        · have hne := hx fun e => h2 (by rw [e])
          simp -implicitDefEqProofs [s0, s1, s5, hl, hlt, avP, h1, h2, hne]
      · have hne := hx fun e => h1 (by rw [e])
        simp -implicitDefEqProofs [s0, s1, s5, hl, hlt, avP, h1, hne]
    · obtain rfl : j = b.length := by omega
      rw [List.take_length, List.take_of_length_le (by omega)] at he
      simp -implicitDefEqProofs [s0, s5, he]
  · have hne : a ≠ b := fun e => hl (by rw [e])
    simp -implicitDefEqProofs [encL, hl, hne]

/-! ### The program's -/
theorem plainA_ok (l : List Sp) (hl : l.length ≤ 1000000) : PCall Try.prog 134 [.sl .no [[encL l]]] (encL (plainL l)) := by
  have := plain_ok [l] (by simpa [tot] using hl) (by simp)
  simpa using this
theorem keysPlain_ok (l : List Sp) (hl : l.length ≤ 1000000) : PCall Try.prog 101 [encL l] (encL (plainL l)) := by
  refine PCall.run hb101 ok101 (by simp) (pures1 (pure_encL l)) (pure_encL _) ?_
  simp -implicitDefEqProofs []
  refine callQ_p (plainA_ok l hl) (by simp [wk_encL]) ?_
  simp -implicitDefEqProofs [wk_encL]
theorem elOK_P : ElOK avP 2 true := ⟨fun _ => rfl, (fun h => by cases h), pure_avP, fun x => by simp [avP]⟩
end Go.Proofs

/- A text's bytes as words: both ways of packing, and the writer of texts. -/
namespace Go.Proofs
open Go Go.RowKit Go.Am

/-- The byte at a place, or none: 0. -/
def byteAt (s : ByteArray) (i : Nat) : Nat := match s.data[i]? with | some c => c.toNat | none => 0
theorem byteAt_lt (s : ByteArray) (i : Nat) : byteAt s i < 256 := by
  unfold byteAt
  split
  · rename_i c _; exact c.toNat_lt
  · omega

theorem byteAt_out {s : ByteArray} {j : Nat} (h : ¬ j < s.size) : byteAt s j = 0 := by
  have h' : s.data.size ≤ j := Nat.le_of_not_lt h
  unfold byteAt
  rw [Array.getElem?_eq_none h']

/-- k bytes from a place on, as a number, the first the least. -/
def num (s : ByteArray) (at' : Nat) : Nat → Nat
  | 0 => 0
  | k + 1 => byteAt s at' + 256 * num s (at' + 1) k

def packed (s : ByteArray) : List Nat := (List.range ((s.size + 7) / 8)).map fun i => num s (8 * i) 8

end Go.Proofs

/- The program's packing of texts. -/
namespace Go.Proofs
open Go Go.RowKit Go.Am

end Go.Proofs

/- The program's packing of texts: the run. -/
namespace Go.Proofs
open Go Go.RowKit Go.Am

end Go.Proofs

/- The writer of texts; copies; what a writer hands back. -/
namespace Go.Proofs
open Go Go.RowKit Go.Am

def cut64 (s : ByteArray) : ByteArray := s.extract 0 (min s.size 64)
theorem packed_len (s : ByteArray) : (packed s).length = (s.size + 7) / 8 := by simp [packed]

def textW (s : ByteArray) : List Nat := (cut64 s).size :: packed (cut64 s)

theorem clone_ok (us : List Nat) (hl : us.length ≤ 1000000) : PCall Try.prog 118 [encW us] (encW us) := by
  refine clone_gen (n := 1) (b := 8) (z := [.int .u64 0]) hb118 ok118 (us.map w64) (w64_len us) (pure_w64 us) (by simp) (by simp; omega)

theorem done_ok {h : H} {b : Nat} {t : Tok} {ws : List Nat} (hw : WB h b t ws) (hl : ws.length ≤ 1000000) : SCall Try.prog 72 [.ptr b 0] h (encW ws) h := by
  refine CallP.sure (CallP.run hb72 ok72 (by simp) ?_)
  simp -implicitDefEqProofs [hw.bx, hw.lt]
  refine callQ_p (clone_ok ws hl) (by simp) ?_
  try simp -implicitDefEqProofs
end Go.Proofs

/- Items: what is written of them, by the program and by the document. -/
namespace Go.Proofs
open Go Go.RowKit Go.Am

structure Item where
  kind : Int
  n : Int
  most : Int
  x : Int
  s : ByteArray
  l : List Nat

def inI (x : Int) : Prop := -9223372036854775808 ≤ x ∧ x ≤ 9223372036854775807
def Item.ok (x : Item) : Prop := inI x.n ∧ inI x.x ∧ x.s.size ≤ 1000 ∧ x.l.length ≤ 1000
def encItm (x : Item) : List AV := [.int .i64 x.kind, .int .i64 x.n, .int .i64 x.most, .int .i64 x.x, .str x.s, encW x.l]

def writeW (x : Item) : List Nat :=
  if x.kind = 0 then [x.n.toNat] else if x.kind = 1 then [signed x.x] else if x.kind = 2 then [if x.n = 1 then 1 else 0] else if x.kind = 3 then textW x.s else x.l.length :: x.l

theorem WB.alloc {h : H} {b : Nat} {t : Tok} {ws : List Nat} (hw : WB h b t ws) (cs : List AV) : WB (h.alloc cs) b t ws :=
  ⟨by have := hw.lt; simp; omega, by have := hw.lt; have h2 : b ≠ h.bn := by omega
                                     simp [h2, hw.bx], by simpa using hw.live⟩
theorem WTo.alloc {h : H} {b : Nat} {t : Tok} {ws : List Nat} {h' : H} {t' : Tok} {cs : List AV} (q : WTo (h.alloc cs) b t ws h' t') : WTo h b t ws h' t' :=
  ⟨q.wb, q.next, (HF.alloc h cs _ _).trans q.keep⟩

/-- A slice of words that grows. -/
structure STo (h : H) (t : Tok) (ws : List Nat) (r : AV) (h' : H) (t' : Tok) : Prop where
  val : r = .sl t' (ws.map w64)
  live : TLive h' t' ws.length
  next : TNext h t t'
  keep : HF h h' (fun _ => False) (TOwn t)

end Go.Proofs

/- What the statements about codes ask first: no more items than are looked at; the document's examples. -/
namespace Go.Proofs
open Go Go.RowKit Go.Am

def greatI (x : Item) : Bool := decide (100 < x.l.length) || decide (200 < x.s.size) || decide (x.kind < 0) || decide (4 < x.kind)
def great (l : List Item) : Bool := l.any greatI || decide (60 < l.length)

theorem pure_encI (x : Item) : ∀ v ∈ encItm x, PureV v := by
  simp only [encItm]
  exact pures_cons (.int _ _) (pures_cons (.int _ _) (pures_cons (.int _ _) (pures_cons (.int _ _) (pures_cons (.str _) (pures1 (pure_w64 _))))))
@[simp] theorem wk_encI (x : Item) : List.map wk (encItm x) = encItm x := by simp [encItm]
@[simp] theorem wk_encI' : List.map wk ∘ encItm = encItm := by funext x; simp

theorem WB.new (h : H) : WB (h.alloc [.sl .full []]) h.bn .full [] := ⟨by simp, by simp, trivial⟩

end Go.Proofs

/- The statement CodesWrite: what its function hands back. -/
namespace Go.Proofs
open Go Go.RowKit Go.Am

def writeAll (l : List Item) : List Nat := l.flatMap writeW
end Go.Proofs

/- PRINTED BY types.py, a program of this work: the program's types as Lean structures; their cells. -/
namespace Go.Proofs
open Go Go.RowKit Go.Am

def encN (n : Int) : List AV := [.int .i64 n]
@[simp] theorem wk_encN (n : Int) : List.map wk (encN n) = encN n := by simp [encN]
@[simp] theorem wk_encN' : List.map wk ∘ encN = encN := by funext x; simp
theorem pure_encN (n : Int) : ∀ v ∈ encN n, PureV v := pures1 (.int _ _)
theorem pure_w64' (n : Nat) : ∀ v ∈ w64 n, PureV v := pures1 (.int _ _)
theorem pure_arr (l : List Int) : ∀ v ∈ l.map (AV.int .i64), PureV v := fun v hv => by
  obtain ⟨n, _, rfl⟩ := List.mem_map.1 hv
  exact .int _ _
theorem pures_app {a b : List AV} (ha : ∀ v ∈ a, PureV v) (hb : ∀ v ∈ b, PureV v) : ∀ v ∈ a ++ b, PureV v := fun v hv => by
  rcases List.mem_append.1 hv with h | h
  · exact ha v h
  · exact hb v h
theorem pure_sl {α : Type} {f : α → List AV} (hf : ∀ x, ∀ v ∈ f x, PureV v) (l : List α) : PureV (.sl .no (l.map f)) := .sl (fun i h => by cases h) fun e he v hv => by
  obtain ⟨x, _, rfl⟩ := List.mem_map.1 he
  exact hf x v hv
@[simp] theorem wk_arr (l : List Int) : List.map wk (l.map (AV.int .i64)) = l.map (AV.int .i64) := by
  rw [List.map_map]; apply List.map_congr_left; intro x _; simp
@[simp] theorem wk_arr' : wk ∘ AV.int .i64 = AV.int .i64 := by funext x; simp
/-! ### Shapes -/
theorem sh_int {v : AV} (h : (Sh.int .i64).is v) : ∃ n, v = .int .i64 n ∧ inI n := by
  obtain ⟨n, rfl, hw⟩ := h
  refine ⟨n, rfl, ?_⟩
  simp [Lit.wf, IntKind.min, IntKind.max, IntKind.signed, IntKind.bits] at hw
  exact ⟨by omega, by omega⟩
theorem sh_word {v : AV} (h : (Sh.int .u64).is v) : ∃ n : Nat, v = .int .u64 n ∧ n < 18446744073709551616 := by
  obtain ⟨n, rfl, hw⟩ := h
  simp [Lit.wf, IntKind.min, IntKind.max, IntKind.signed, IntKind.bits] at hw
  refine ⟨n.toNat, ?_, by omega⟩
  congr 1
  omega
theorem sh_list {α : Type} {f : α → List AV} {sh : List Sh} {wf : α → Prop} (hf : ∀ vs, isL sh vs → ∃ x, vs = f x ∧ wf x) : ∀ {es : List (List AV)}, (∀ e ∈ es, isL sh e) → ∃ l : List α, es = l.map f ∧ ∀ x ∈ l, wf x
  | [], _ => ⟨[], rfl, fun x hx => by cases hx⟩
  | e :: es, h => by
    obtain ⟨l, rfl, hl⟩ := sh_list hf (es := es) fun e he => h e (List.mem_cons_of_mem _ he)
    obtain ⟨x, rfl, hx⟩ := hf e (h e (List.mem_cons_self ..))
    exact ⟨x :: l, rfl, fun y hy => by
      rcases List.mem_cons.1 hy with rfl | hy
      · exact hx
      · exact hl y hy⟩
theorem isL_app : ∀ {a b : List Sh} {vs : List AV}, isL (a ++ b) vs → ∃ x y, vs = x ++ y ∧ isL a x ∧ isL b y
  | [], b, vs, h => ⟨[], vs, rfl, rfl, h⟩
  | s :: a, b, vs, h => by
    simp only [List.cons_append, isL] at h
    obtain ⟨v, r, rfl, h1, h2⟩ := h
    obtain ⟨x, y, rfl, h3, h4⟩ := isL_app h2
    refine ⟨v :: x, y, rfl, ?_, h4⟩
    simp only [isL]
    exact ⟨v, x, rfl, h1, h3⟩
theorem isL_one {s : Sh} {vs : List AV} (h : isL [s] vs) : ∃ v, vs = [v] ∧ s.is v := by
  simp only [isL] at h
  obtain ⟨v, r, rfl, h1, rfl⟩ := h
  exact ⟨v, rfl, h1⟩
theorem isL_encN {vs : List AV} (h : isL [.int .i64] vs) : ∃ n, vs = encN n ∧ inI n := by
  obtain ⟨v, rfl, h1⟩ := isL_one h
  obtain ⟨n, rfl, hn⟩ := sh_int h1
  exact ⟨n, rfl, hn⟩
theorem isL_w64 {vs : List AV} (h : isL [.int .u64] vs) : ∃ n, vs = w64 n ∧ n < 18446744073709551616 := by
  obtain ⟨v, rfl, h1⟩ := isL_one h
  obtain ⟨n, rfl, hn⟩ := sh_word h1
  exact ⟨n, rfl, hn⟩
theorem isL_sl {α : Type} {f : α → List AV} {sh : List Sh} {wf : α → Prop} (hf : ∀ vs, isL sh vs → ∃ x, vs = f x ∧ wf x) {vs : List AV} (h : isL [.sl sh] vs) : ∃ l : List α, vs = [.sl .no (l.map f)] ∧ l.length ≤ maxLen ∧ ∀ x ∈ l, wf x := by
  obtain ⟨v, rfl, h1⟩ := isL_one h
  simp only [Sh.is] at h1
  obtain ⟨es, rfl, h2, h3⟩ := h1
  obtain ⟨l, rfl, h4⟩ := sh_list hf h3
  exact ⟨l, rfl, by simpa using h2, h4⟩

/-! ### KeyT -/
structure KeyT where
  arg : Int
  base : Int
  deriving DecidableEq

def encKeyT (x : KeyT) : List AV := [.int .i64 x.arg, .int .i64 x.base]
def KeyT.wf (x : KeyT) : Prop := inI x.arg ∧ inI x.base
@[simp] theorem encKeyT_len (x : KeyT) : (encKeyT x).length = 2 := rfl
@[simp] theorem wk_encKeyT (x : KeyT) : List.map wk (encKeyT x) = encKeyT x := by simp [encKeyT]
@[simp] theorem wk_encKeyT' : List.map wk ∘ encKeyT = encKeyT := by funext x; simp
/-! ### Inst -/
structure Inst where
  op : Int
  a : Int
  b : Int
  c : Int
  k : KeyT
  l : KeyT
  x : Int
  deriving DecidableEq

def encInst (x : Inst) : List AV := [.int .i64 x.op, .int .i64 x.a, .int .i64 x.b, .int .i64 x.c, .int .i64 x.k.arg, .int .i64 x.k.base, .int .i64 x.l.arg, .int .i64 x.l.base, .int .i64 x.x]
def Inst.wf (x : Inst) : Prop := inI x.op ∧ inI x.a ∧ inI x.b ∧ inI x.c ∧ x.k.wf ∧ x.l.wf ∧ inI x.x
@[simp] theorem encInst_len (x : Inst) : (encInst x).length = 9 := rfl
@[simp] theorem wk_encInst (x : Inst) : List.map wk (encInst x) = encInst x := by simp [encInst]
@[simp] theorem wk_encInst' : List.map wk ∘ encInst = encInst := by funext x; simp
/-! ### SpanT -/
structure SpanT where
  lo : KeyT
  hi : KeyT
  write : Bool
  deriving DecidableEq

def encSpanT (x : SpanT) : List AV := [.int .i64 x.lo.arg, .int .i64 x.lo.base, .int .i64 x.hi.arg, .int .i64 x.hi.base, .bool x.write]
def SpanT.wf (x : SpanT) : Prop := x.lo.wf ∧ x.hi.wf
@[simp] theorem encSpanT_len (x : SpanT) : (encSpanT x).length = 5 := rfl
@[simp] theorem wk_encSpanT (x : SpanT) : List.map wk (encSpanT x) = encSpanT x := by simp [encSpanT]
@[simp] theorem wk_encSpanT' : List.map wk ∘ encSpanT = encSpanT := by funext x; simp
/-! ### Stp -/
structure Stp where
  code : List Inst
  foot : List SpanT
  deriving DecidableEq

def encStp (x : Stp) : List AV := [.sl .no (x.code.map encInst), .sl .no (x.foot.map encSpanT)]
def Stp.wf (x : Stp) : Prop := (x.code.length ≤ maxLen ∧ ∀ y ∈ x.code, y.wf) ∧ (x.foot.length ≤ maxLen ∧ ∀ y ∈ x.foot, y.wf)
@[simp] theorem encStp_len (x : Stp) : (encStp x).length = 2 := rfl
@[simp] theorem wk_encStp (x : Stp) : List.map wk (encStp x) = encStp x := by simp [encStp]
@[simp] theorem wk_encStp' : List.map wk ∘ encStp = encStp := by funext x; simp
/-! ### Cls -/
structure Cls where
  name : ByteArray
  args : Int
  steps : List Stp
  comps : List Stp
  resume : Bool
  deriving DecidableEq

def encCls (x : Cls) : List AV := [.str x.name, .int .i64 x.args, .sl .no (x.steps.map encStp), .sl .no (x.comps.map encStp), .bool x.resume]
def Cls.wf (x : Cls) : Prop := x.name.size ≤ maxLen ∧ inI x.args ∧ (x.steps.length ≤ maxLen ∧ ∀ y ∈ x.steps, y.wf) ∧ (x.comps.length ≤ maxLen ∧ ∀ y ∈ x.comps, y.wf)
@[simp] theorem encCls_len (x : Cls) : (encCls x).length = 5 := rfl
@[simp] theorem wk_encCls (x : Cls) : List.map wk (encCls x) = encCls x := by simp [encCls]
@[simp] theorem wk_encCls' : List.map wk ∘ encCls = encCls := by funext x; simp
/-! ### Ctlg -/
structure Ctlg where
  classes : List Cls
  breaks : List Int
  deriving DecidableEq

def encCtlg (x : Ctlg) : List AV := [.sl .no (x.classes.map encCls)] ++ x.breaks.map (AV.int .i64)
def Ctlg.wf (x : Ctlg) : Prop := (x.classes.length ≤ maxLen ∧ ∀ y ∈ x.classes, y.wf) ∧ (x.breaks.length = 16 ∧ ∀ y ∈ x.breaks, inI y)
@[simp] theorem wk_encCtlg (x : Ctlg) : List.map wk (encCtlg x) = encCtlg x := by simp [encCtlg]
@[simp] theorem wk_encCtlg' : List.map wk ∘ encCtlg = encCtlg := by funext x; simp
/-! ### Spn -/
structure Spn where
  lo : Int
  hi : Int
  deriving DecidableEq

def encSpn (x : Spn) : List AV := [.int .i64 x.lo, .int .i64 x.hi]
def Spn.wf (x : Spn) : Prop := inI x.lo ∧ inI x.hi
@[simp] theorem encSpn_len (x : Spn) : (encSpn x).length = 2 := rfl
@[simp] theorem wk_encSpn (x : Spn) : List.map wk (encSpn x) = encSpn x := by simp [encSpn]
@[simp] theorem wk_encSpn' : List.map wk ∘ encSpn = encSpn := by funext x; simp
theorem pure_encSpn (x : Spn) : ∀ v ∈ encSpn x, PureV v := (pures_cons (.int _ _) (pures_cons (.int _ _) pures_nil))
/-! ### Nod -/
structure Nod where
  saga : Int
  cls : Int
  step : Int
  back : Bool
  reads : List Spn
  writes : List Spn
  deriving DecidableEq

def encNod (x : Nod) : List AV := [.int .i64 x.saga, .int .i64 x.cls, .int .i64 x.step, .bool x.back, .sl .no (x.reads.map encSpn), .sl .no (x.writes.map encSpn)]
def Nod.wf (x : Nod) : Prop := inI x.saga ∧ inI x.cls ∧ inI x.step ∧ (x.reads.length ≤ maxLen ∧ ∀ y ∈ x.reads, y.wf) ∧ (x.writes.length ≤ maxLen ∧ ∀ y ∈ x.writes, y.wf)
@[simp] theorem encNod_len (x : Nod) : (encNod x).length = 6 := rfl
@[simp] theorem wk_encNod (x : Nod) : List.map wk (encNod x) = encNod x := by simp [encNod]
@[simp] theorem wk_encNod' : List.map wk ∘ encNod = encNod := by funext x; simp
theorem pure_encNod (x : Nod) : ∀ v ∈ encNod x, PureV v := (pures_cons (.int _ _) (pures_cons (.int _ _) (pures_cons (.int _ _) (pures_cons (.bool _) (pures_cons (pure_sl pure_encSpn _) (pures_cons (pure_sl pure_encSpn _) pures_nil))))))
/-! ### Chg -/
structure Chg where
  key : Int
  gone : Bool
  value : Int
  deriving DecidableEq

def encChg (x : Chg) : List AV := [.int .i64 x.key, .bool x.gone, .int .i64 x.value]
def Chg.wf (x : Chg) : Prop := inI x.key ∧ inI x.value
@[simp] theorem encChg_len (x : Chg) : (encChg x).length = 3 := rfl
@[simp] theorem wk_encChg (x : Chg) : List.map wk (encChg x) = encChg x := by simp [encChg]
@[simp] theorem wk_encChg' : List.map wk ∘ encChg = encChg := by funext x; simp
theorem pure_encChg (x : Chg) : ∀ v ∈ encChg x, PureV v := (pures_cons (.int _ _) (pures_cons (.bool _) (pures_cons (.int _ _) pures_nil)))
/-! ### Recd -/
structure Recd where
  kind : Int
  saga : Int
  cls : Int
  args : List Int
  why : Int
  node : Nod
  regs : List Int
  changes : List Chg
  deriving DecidableEq

def encRecd (x : Recd) : List AV := [.int .i64 x.kind, .int .i64 x.saga, .int .i64 x.cls, .sl .no (x.args.map encN), .int .i64 x.why, .int .i64 x.node.saga, .int .i64 x.node.cls, .int .i64 x.node.step, .bool x.node.back, .sl .no (x.node.reads.map encSpn), .sl .no (x.node.writes.map encSpn)] ++ x.regs.map (AV.int .i64) ++ [.sl .no (x.changes.map encChg)]
def Recd.wf (x : Recd) : Prop := inI x.kind ∧ inI x.saga ∧ inI x.cls ∧ (x.args.length ≤ maxLen ∧ ∀ y ∈ x.args, inI y) ∧ inI x.why ∧ x.node.wf ∧ (x.regs.length = 4 ∧ ∀ y ∈ x.regs, inI y) ∧ (x.changes.length ≤ maxLen ∧ ∀ y ∈ x.changes, y.wf)
theorem encRecd_len {x : Recd} (h : x.wf) : (encRecd x).length = 16 := by
  simp only [Recd.wf] at h
  simp [encRecd, h]
@[simp] theorem wk_encRecd (x : Recd) : List.map wk (encRecd x) = encRecd x := by simp [encRecd]
@[simp] theorem wk_encRecd' : List.map wk ∘ encRecd = encRecd := by funext x; simp
theorem pure_encRecd (x : Recd) : ∀ v ∈ encRecd x, PureV v := (pures_app (pures_app (pures_cons (.int _ _) (pures_cons (.int _ _) (pures_cons (.int _ _) (pures_cons (pure_sl pure_encN _) (pures_cons (.int _ _) (pures_cons (.int _ _) (pures_cons (.int _ _) (pures_cons (.int _ _) (pures_cons (.bool _) (pures_cons (pure_sl pure_encSpn _) (pures_cons (pure_sl pure_encSpn _) pures_nil))))))))))) (pure_arr _)) (pures_cons (pure_sl pure_encChg _) pures_nil))
/-! ### Frm -/
structure Frm where
  kind : Int
  words : List Nat
  deriving DecidableEq

def encFrm (x : Frm) : List AV := [.int .i64 x.kind, .sl .no (x.words.map w64)]
def Frm.wf (x : Frm) : Prop := inI x.kind ∧ (x.words.length ≤ maxLen ∧ ∀ y ∈ x.words, y < 18446744073709551616)
@[simp] theorem encFrm_len (x : Frm) : (encFrm x).length = 2 := rfl
@[simp] theorem wk_encFrm (x : Frm) : List.map wk (encFrm x) = encFrm x := by simp [encFrm]
@[simp] theorem wk_encFrm' : List.map wk ∘ encFrm = encFrm := by funext x; simp
theorem pure_encFrm (x : Frm) : ∀ v ∈ encFrm x, PureV v := (pures_cons (.int _ _) (pures_cons (pure_sl pure_w64' _) pures_nil))
def shFrm : List Sh := [.int .i64] ++ [.sl [.int .u64]]
theorem isL_encFrm {vs : List AV} (h : isL shFrm vs) : ∃ x : Frm, vs = encFrm x ∧ x.wf := by
  unfold shFrm at h
  obtain ⟨vs, v1, rfl, h, h1⟩ := isL_app h
  have h0 := h
  obtain ⟨u0, rfl, w0⟩ := isL_encN h0
  obtain ⟨u1, rfl, w1⟩ := isL_sl (fun vs h => isL_w64 h) h1
  refine ⟨⟨u0, u1⟩, ?_, ⟨w0, w1⟩⟩
  simp [encFrm, encN]

/-! ### Par -/
structure Par where
  key : Int
  value : Int
  deriving DecidableEq

def encPar (x : Par) : List AV := [.int .i64 x.key, .int .i64 x.value]
def Par.wf (x : Par) : Prop := inI x.key ∧ inI x.value
@[simp] theorem encPar_len (x : Par) : (encPar x).length = 2 := rfl
@[simp] theorem wk_encPar (x : Par) : List.map wk (encPar x) = encPar x := by simp [encPar]
@[simp] theorem wk_encPar' : List.map wk ∘ encPar = encPar := by funext x; simp
/-! ### Rept -/
structure Rept where
  committed : Int
  compensated : Int
  opn : Int
  steps : Int
  backs : Int
  aborts : List Int
  keys : Int
  deriving DecidableEq

def encRept (x : Rept) : List AV := [.int .i64 x.committed, .int .i64 x.compensated, .int .i64 x.opn, .int .i64 x.steps, .int .i64 x.backs] ++ x.aborts.map (AV.int .i64) ++ [.int .i64 x.keys]
def Rept.wf (x : Rept) : Prop := inI x.committed ∧ inI x.compensated ∧ inI x.opn ∧ inI x.steps ∧ inI x.backs ∧ (x.aborts.length = 16 ∧ ∀ y ∈ x.aborts, inI y) ∧ inI x.keys
@[simp] theorem wk_encRept (x : Rept) : List.map wk (encRept x) = encRept x := by simp [encRept]
@[simp] theorem wk_encRept' : List.map wk ∘ encRept = encRept := by funext x; simp
end Go.Proofs

/- The program's sets of keys: what isn't there, how many, all of them. -/
namespace Go.Proofs
open Go Go.RowKit Go.Am

def keysTo (lo k : Int) : List Int := (List.range (k - lo).toNat).map fun i => lo + (i : Nat)
theorem keysTo_succ {lo k : Int} (h : lo ≤ k) : keysTo lo (k + 1) = keysTo lo k ++ [k] := by
  have e : (k + 1 - lo).toNat = (k - lo).toNat + 1 := by omega
  simp only [keysTo, e, List.range_succ, List.map_append, List.map_cons, List.map_nil]
  congr 2
  omega
theorem keysTo_all (s : Sp) : keysTo s.1 (s.2 + 1) = keysS s := by
  have e : (s.2 + 1 - s.1).toNat = (s.2 - s.1 + 1).toNat := by omega
  simp only [keysTo, keysS, e]
theorem encN_len1 (l : List Int) : ∀ e ∈ l.map encN, e.length = 1 := fun e he => by
  obtain ⟨n, _, rfl⟩ := List.mem_map.1 he
  rfl

set_option maxHeartbeats 1000000 in
theorem keysAll_ok (l : List Sp) (hl : l.length ≤ 1000000) : PCall Try.prog 126 [encL l] (.sl .no ((allL (plainL l)).map encN)) := by
  refine PCall.run hb126 ok126 (by simp) (pures1 (pure_encL l)) (pure_sl pure_encN _) ?_
  simp -implicitDefEqProofs []
  refine callQ_p (plainA_ok l hl) (by simp [wk_encL]) ?_
  have hp := plainL_isPlain l
  have hpl := plainL_len l
  generalize plainL l = p at hp hpl ⊢
  simp -implicitDefEqProofs [encL]
  refine run_loop (fun n s h => ∃ (j : Nat) (t : Tok) (d : List Int), n = p.length - j ∧ j ≤ p.length ∧ s 9 = encL p ∧ s 10 = .int .i64 p.length ∧ s 11 = .int .i64 j ∧ d = allL (p.take j) ∧ d.length ≤ j * 1000 ∧ s 3 = .sl t (d.map encN) ∧ TLive h t d.length) ?_ p.length ?_
  rotate_left
  · exact ⟨0, .full, [], by simp [encL, allL, TLive]⟩
  rintro n s h ⟨j, t, d, hn, hj, s9, s10, s11, hd, hdl, s3, ht⟩ ih
  rw [encL] at s9
  by_cases hlt : j < p.length
  · have i1 := idxOf_nat (k := .i64) hlt
    have ms := mayS_iff.1 (hp.1 _ (List.getElem_mem hlt))
    simp -implicitDefEqProofs [s9, s10, s11, hlt, avP]
    refine run_loop (fun n s h2 => ∃ (k : Int) (t : Tok) (e : List Int), n = (p[j].2 + 1 - k).toNat ∧ p[j].1 ≤ k ∧ k ≤ p[j].2 + 1 ∧ s 9 = encL p ∧ s 10 = .int .i64 p.length ∧ s 11 = .int .i64 j ∧ s 6 = .int .i64 k ∧ s 5 = .ptr h.bn 0 ∧ h.bn < h2.bn ∧ h2.bx h.bn = some (avP p[j]) ∧ e = d ++ keysTo p[j].1 k ∧ s 3 = .sl t (e.map encN) ∧ TLive h2 t e.length) ?_ (p[j].2 + 1 - p[j].1).toNat ?_
    rotate_left
    · exact ⟨p[j].1, t, d, by simp [s3, s9, s10, s11, encL, avP, keysTo, ht]; omega⟩
    rintro n s h2 ⟨k, t, e, hn, hk1, hk2, s9, s10, s11, s6, s5, hb5, hc5, he, s3, ht⟩ ih2
    rw [avP] at hc5
    have hel : e.length ≤ 600000 := by
      rw [he, List.length_append]
      simp only [keysTo, List.length_map, List.length_range]
      omega
    by_cases hle : k ≤ p[j].2
    · have w1 : IntKind.i64.wrap (k + 1) = k + 1 := wrap_i64 (by omega) (by omega)
      simp -implicitDefEqProofs [s3, s5, s6, hb5, hc5, hle]
      refine appQ_tok (es2 := [encN k]) (by simpa using ht) (encN_len1 e) (by simp [srcA, encN]) (by simp; omega) fun t' h' q1 q2 q3 q4 => ?_
      have hb' := q3.bx h.bn hb5 (fun e => e)
      simp -implicitDefEqProofs [s6, w1]
      refine ih2 (p[j].2 + 1 - (k + 1)).toNat _ _ (by omega) ⟨k + 1, t', e ++ [k], rfl, by omega, by omega, by simp [s9], by simp [s10], by simp [s11], by simp, by simp [s5], by omega, by rw [hb', hc5]; rfl, by rw [keysTo_succ hk1, he, List.append_assoc], by simp, by simpa using q1⟩
    · obtain rfl : k = p[j].2 + 1 := by omega
      rw [keysTo_all] at he
      have hd2 : e = allL (p.take (j + 1)) := by rw [he, hd, List.take_succ_eq_append_getElem hlt, allL_app, allL_one]
      have hks := keysS_len p[j] (by omega)
      have hel2 : e.length ≤ (j + 1) * 1000 := by rw [he, List.length_append]; omega
      simp -implicitDefEqProofs [s5, s6, s11, hb5, hc5, hle, inc_i64 hlt (by omega), -Int.natCast_add]
      exact ih (p.length - (j + 1)) _ _ (by omega) ⟨j + 1, t, e, rfl, by omega, by simp [s9], by simp [s10], by simp, hd2, hel2, by simp [s3], ht⟩
  · obtain rfl : j = p.length := by omega
    rw [List.take_length] at hd
    simp -implicitDefEqProofs [s3, s10, s11, hd]
end Go.Proofs

/- The program's sets of keys: in common, without; do they meet, is the one inside the other? -/
namespace Go.Proofs
open Go Go.RowKit Go.Am

end Go.Proofs

/- The document's example of sets of keys; the statement KeysSets: its function hands back true. -/
namespace Go.Proofs
open Go Go.RowKit Go.Am

def spP (s : Spn) : Sp := (s.lo, s.hi)
theorem encL_spn (l : List Spn) : AV.sl .no (l.map encSpn) = encL (l.map spP) := by
  rw [encL, List.map_map]; rfl

end Go.Proofs

/- The statements KeysParts, KeysTwo: their functions hand back true. -/
namespace Go.Proofs
open Go Go.RowKit Go.Am

end Go.Proofs
