/- What the functions that the statement reaches do: their contracts; and what follows of it. -/
import Derived.Test.YtdcpendppalkgaaSLintSure5
/- The document's store: an array of keys and one of values. -/
namespace Go.Proofs
open Go Go.RowKit Go.Am

def cellsN (n : Nat) (F : Nat → AV) : List AV := (List.range n).map F
@[simp] theorem cellsN_len (n : Nat) (F : Nat → AV) : (cellsN n F).length = n := by simp only [cellsN, List.length_map, List.length_range]
theorem cellsN_get {n : Nat} (F : Nat → AV) {k : Nat} (hk : k < n) : (cellsN n F)[k]? = some (F k) := by
  rw [cellsN, List.getElem?_map, List.getElem?_range hk]; rfl
theorem cellsN_at {n : Nat} (F : Nat → AV) {k : Nat} (hk : k < n) : List.take 1 (List.drop k (cellsN n F)) = [F k] := by
  have h := cellsN_get F hk
  have hl : k < (cellsN n F).length := by rw [cellsN_len]; exact hk
  rw [List.getElem?_eq_getElem hl, Option.some.injEq] at h
  rw [List.drop_eq_getElem_cons hl, h]
  rfl
theorem cellsN_put {n : Nat} (F : Nat → AV) {k : Nat} (hk : k < n) (v : AV) : List.take k (cellsN n F) ++ v :: List.drop (k + 1) (cellsN n F) = cellsN n fun i => if i = k then v else F i := by
  have e : cellsN n (fun i => if i = k then v else F i) = (cellsN n F).set k v := by
    refine List.ext_getElem? fun i => ?_
    rw [List.getElem?_set]
    by_cases hi : i < n
    · by_cases hik : k = i
      · subst hik
        rw [if_pos rfl, if_pos (by rw [cellsN_len]; exact hk), cellsN_get _ hk, if_pos rfl]
      · rw [if_neg hik, cellsN_get _ hi, cellsN_get _ hi, if_neg (fun e => hik e.symm)]
    · by_cases hik : k = i
      · omega
      · rw [if_neg hik, List.getElem?_eq_none (by rw [cellsN_len]; omega), List.getElem?_eq_none (by rw [cellsN_len]; omega)]
  rw [e, List.set_eq_take_append_cons_drop, if_pos (by rw [cellsN_len]; exact hk)]
def mapF (f : Nat → Bool) (g : Nat → Int) (k : Nat) : AV := if k < 1000 then .bool (f k) else .int .i64 (g (k - 1000))
/-- The cells of a store. -/
def mapA (f : Nat → Bool) (g : Nat → Int) : List AV := cellsN 2000 (mapF f g)
def upB (f : Nat → Bool) (k : Nat) (v : Bool) : Nat → Bool := fun i => if i = k then v else f i
def upV (g : Nat → Int) (k : Nat) (v : Int) : Nat → Int := fun i => if i = k then v else g i
@[simp] theorem mapA_len (f : Nat → Bool) (g : Nat → Int) : (mapA f g).length = 2000 := cellsN_len _ _
theorem mapA_is (f : Nat → Bool) (g : Nat → Int) {k : Nat} (hk : k < 1000) : List.take 1 (List.drop k (mapA f g)) = [.bool (f k)] := by
  rw [mapA, cellsN_at _ (by omega), mapF, if_pos hk]
theorem mapA_v (f : Nat → Bool) (g : Nat → Int) {k : Nat} (hk : k < 1000) : List.take 1 (List.drop (1000 + k) (mapA f g)) = [.int .i64 (g k)] := by
  rw [mapA, cellsN_at _ (by omega), mapF, if_neg (by omega), Nat.add_sub_cancel_left]
theorem mapA_putB (f : Nat → Bool) (g : Nat → Int) {k : Nat} (hk : k < 1000) (v : Bool) : List.take k (mapA f g) ++ .bool v :: List.drop (k + 1) (mapA f g) = mapA (upB f k v) g := by
  rw [mapA, cellsN_put _ (by omega)]
  unfold mapA
  congr 1
  funext i
  unfold mapF upB
  by_cases h : i = k
  · subst h
    rw [if_pos rfl, if_pos hk, if_pos rfl]
  · rw [if_neg h]
    by_cases h2 : i < 1000
    · rw [if_pos h2, if_pos h2, if_neg h]
    · rw [if_neg h2, if_neg h2]
theorem mapA_putV (f : Nat → Bool) (g : Nat → Int) {k : Nat} (hk : k < 1000) (v : Int) : List.take (1000 + k) (mapA f g) ++ .int .i64 v :: List.drop (1000 + k + 1) (mapA f g) = mapA f (upV g k v) := by
  rw [mapA, cellsN_put _ (by omega)]
  unfold mapA
  congr 1
  funext i
  unfold mapF upV
  by_cases h : i = 1000 + k
  · subst h
    rw [if_pos rfl, if_neg (by omega), Nat.add_sub_cancel_left, if_pos rfl]
  · rw [if_neg h]
    by_cases h2 : i < 1000
    · rw [if_pos h2, if_pos h2]
    · rw [if_neg h2, if_neg h2, if_neg (by omega)]
theorem mapA_zero : List.replicate 1000 (AV.bool false) ++ List.replicate 1000 (AV.int .i64 0) = mapA (fun _ => false) fun _ => 0 := by
  refine List.ext_getElem? fun i => ?_
  by_cases h : i < 2000
  · rw [mapA, cellsN_get _ h, mapF]
    by_cases h2 : i < 1000
    · rw [if_pos h2, List.getElem?_append_left (by rw [List.length_replicate]; exact h2), List.getElem?_replicate, if_pos h2]
    · rw [if_neg h2, List.getElem?_append_right (by rw [List.length_replicate]; omega), List.getElem?_replicate, List.length_replicate, if_pos (by omega)]
  · rw [List.getElem?_eq_none (by rw [List.length_append, List.length_replicate, List.length_replicate]; omega), List.getElem?_eq_none (by rw [mapA_len]; omega)]
theorem pure_mapA (f : Nat → Bool) (g : Nat → Int) : ∀ v ∈ mapA f g, PureV v := fun v hv => by
  unfold mapA cellsN at hv
  obtain ⟨k, _, rfl⟩ := List.mem_map.1 hv
  unfold mapF
  split
  · exact .bool _
  · exact .int _ _
theorem wk_mapA (f : Nat → Bool) (g : Nat → Int) : (mapA f g).map wk = mapA f g := by
  unfold mapA cellsN
  rw [List.map_map]
  congr 1
  funext k
  show wk (mapF f g k) = mapF f g k
  unfold mapF
  split <;> rfl
theorem take_mapA (f : Nat → Bool) (g : Nat → Int) : List.take 2000 (mapA f g) = mapA f g := List.take_of_length_le (by rw [mapA_len]; exact Nat.le_refl _)
def mapP (f : Nat → Bool) (g : Nat → Int) : AV := .rop (mapA f g)
theorem pure_mapP (f : Nat → Bool) (g : Nat → Int) : PureV (mapP f g) := .rop (pure_mapA f g)
theorem wk_mapP (f : Nat → Bool) (g : Nat → Int) : Am.wk (mapP f g) = mapP f g := by simp [mapP, wk_mapA]

def mapStep (m : (Nat → Bool) × (Nat → Int)) (p : Spn) : (Nat → Bool) × (Nat → Int) := if 0 ≤ p.lo ∧ p.lo ≤ 999 then (upB m.1 p.lo.toNat true, upV m.2 p.lo.toNat p.hi) else m
def mapOf (l : List Spn) : (Nat → Bool) × (Nat → Int) := l.foldl mapStep (fun _ => false, fun _ => 0)
theorem mapOf_next {l : List Spn} {i : Nat} (h : i < l.length) : mapOf (l.take (i + 1)) = mapStep (mapOf (l.take i)) l[i] := by
  rw [List.take_succ_eq_append_getElem h, mapOf, List.foldl_append]
  rfl

set_option maxHeartbeats 1000000 in
theorem of13_ok (l : List Spn) (hl : l.length ≤ 1000000) : PCall Try.prog 20 [.sl .no (l.map encSpn)] (mapP (mapOf l).1 (mapOf l).2) := by
  refine PCall.run' hb20 ok20 (by simp) (pures1 (elOK_Spn.pureL l)) (pure_mapP _ _) (wk_mapP _ _) ?_
  simp -implicitDefEqProofs [-List.reduceReplicate, mapA_zero, H.nil]
  refine run_loop (fun n s h => ∃ i : Nat, n = l.length - i ∧ i ≤ l.length ∧ s 0 = .sl .no (l.map encSpn) ∧ s 3 = .ptr 0 0 ∧ s 4 = .int .i64 i ∧ 0 < h.bn ∧ h.bx 0 = some (mapA (mapOf (l.take i)).1 (mapOf (l.take i)).2)) ?_ l.length ?_
  rotate_left
  · exact ⟨0, by simp [mapOf]⟩
  rintro n s h ⟨i, hn, hi, s0, s3, s4, hb, hc⟩ ih
  by_cases hlt : i < l.length
  · have i1 := idxOf_nat (k := .i64) hlt
    have hnx := mapOf_next hlt
    by_cases h0 : 0 ≤ l[i].lo
    rotate_left
    · have e : mapStep (mapOf (l.take i)) l[i] = mapOf (l.take i) := by rw [mapStep, if_neg (by omega)]
      rw [e] at hnx
      simp -implicitDefEqProofs [s0, s4, hlt, encSpn, h0, inc_i64 hlt (by omega), -Int.natCast_add]
      exact ih (l.length - (i + 1)) _ _ (by omega) ⟨i + 1, rfl, by omega, by simp [s0], by simp [s3], by simp, hb, by rw [hnx]; exact hc⟩
    by_cases h9 : l[i].lo ≤ 999
    rotate_left
    · have e : mapStep (mapOf (l.take i)) l[i] = mapOf (l.take i) := by rw [mapStep, if_neg (by omega)]
      rw [e] at hnx
      simp -implicitDefEqProofs [s0, s4, hlt, encSpn, h0, h9, inc_i64 hlt (by omega), -Int.natCast_add]
      exact ih (l.length - (i + 1)) _ _ (by omega) ⟨i + 1, rfl, by omega, by simp [s0], by simp [s3], by simp, hb, by rw [hnx]; exact hc⟩
    have e : mapStep (mapOf (l.take i)) l[i] = (upB (mapOf (l.take i)).1 l[i].lo.toNat true, upV (mapOf (l.take i)).2 l[i].lo.toNat l[i].hi) := by rw [mapStep, if_pos ⟨h0, h9⟩]
    rw [e] at hnx
    generalize mapOf (l.take i) = M at hnx hc
    obtain ⟨m, hm⟩ := Int.eq_ofNat_of_zero_le h0
    have hm9 : m < 1000 := by omega
    have i2 := idxOf_nat (k := .i64) hm9
    rw [hm, Int.toNat_natCast] at hnx
    have p1 := mapA_putB M.1 M.2 hm9 true
    have p2 := mapA_putV (upB M.1 m true) M.2 hm9 l[i].hi
    have hm1 : (m : Int) ≤ 999 := by omega
    have hm2 : (m : Int) < 1000 := by omega
    simp -implicitDefEqProofs [s0, s4, hlt, encSpn, hm, hm1]
    refine run_dreg c20_d6 ?_
    simp -implicitDefEqProofs [s0, s3, s4, hlt, encSpn, hm, hb, hc, hm2, p1, show m + 1 ≤ 2000 by omega]
    refine run_dreg c20_d7 ?_
    simp -implicitDefEqProofs [s0, s3, s4, hlt, encSpn, hm, hb, hm2, p2, show 1000 + m + 1 ≤ 2000 by omega, inc_i64 hlt (by omega), -Int.natCast_add]
    exact ih (l.length - (i + 1)) _ _ (by omega) ⟨i + 1, rfl, by omega, by simp [s0], by simp [s3], by simp, by simpa using hb, by rw [hnx]; simp⟩
  · obtain rfl : i = l.length := by omega
    rw [List.take_length] at hc
    simp -implicitDefEqProofs [s0, s3, s4]
    exact ⟨_, Gh.rop hb hc⟩

theorem copy13_ok (f : Nat → Bool) (g : Nat → Int) (h : H) : SCall Try.prog 56 [mapP f g] h (.ptr h.bn 0) (h.alloc (mapA f g)) := by
  refine SCall.new (CallP.run hb56 ok56 (by simp) ?_) (pure_mapA f g)
  have e : List.drop 2000 (mapA (fun _ => false) fun _ => 0) = [] := List.drop_eq_nil_of_le (by rw [mapA_len]; exact Nat.le_refl _)
  simp -implicitDefEqProofs [mapP, take_mapA, -List.reduceReplicate, mapA_zero, e]
  exact ⟨(HF.alloc _ _ _ _).trans' (HF.set (B := (· = h.bn)) _ rfl) (fun x hx e => by have e : x = h.bn := e; omega) (fun _ _ h => h), WkL.refl _⟩
theorem sum13_ok (a b : Int) : ∃ v ok, PCall Try.prog 58 [.int .i64 a, .int .i64 b] (.tup [.int .i64 v, .bool ok]) := by
  by_cases c1 : 0 < b ∧ IntKind.i64.wrap (9223372036854775807 - b) < a
  · refine ⟨0, false, PCall.run hb58 ok58 (by simp) (pures2 (.int _ _) (.int _ _)) (.tup (pures2 (.int _ _) (.bool _))) ?_⟩
    simp -implicitDefEqProofs [c1.1, c1.2]
  by_cases c2 : b < 0 ∧ a < IntKind.i64.wrap (-9223372036854775808 - b)
  · refine ⟨0, false, PCall.run hb58 ok58 (by simp) (pures2 (.int _ _) (.int _ _)) (.tup (pures2 (.int _ _) (.bool _))) ?_⟩
    simp -implicitDefEqProofs [c2.1, c2.2, show ¬ 0 < b by omega]
  refine ⟨IntKind.i64.wrap (a + b), true, PCall.run hb58 ok58 (by simp) (pures2 (.int _ _) (.int _ _)) (.tup (pures2 (.int _ _) (.bool _))) ?_⟩
  by_cases d1 : 0 < b
  · have e1 : ¬ IntKind.i64.wrap (9223372036854775807 - b) < a := fun h => c1 ⟨d1, h⟩
    simp -implicitDefEqProofs [d1, e1, show ¬ b < 0 by omega]
  · by_cases d2 : b < 0
    · have e2 : ¬ a < IntKind.i64.wrap (-9223372036854775808 - b) := fun h => c2 ⟨d2, h⟩
      simp -implicitDefEqProofs [d1, d2, e2]
    · simp -implicitDefEqProofs [d1, d2]
theorem less13_ok (a b : Int) : ∃ v ok, PCall Try.prog 59 [.int .i64 a, .int .i64 b] (.tup [.int .i64 v, .bool ok]) := by
  by_cases c1 : b < 0 ∧ IntKind.i64.wrap (9223372036854775807 + b) < a
  · refine ⟨0, false, PCall.run hb59 ok59 (by simp) (pures2 (.int _ _) (.int _ _)) (.tup (pures2 (.int _ _) (.bool _))) ?_⟩
    simp -implicitDefEqProofs [c1.1, c1.2]
  by_cases c2 : 0 < b ∧ a < IntKind.i64.wrap (-9223372036854775808 + b)
  · refine ⟨0, false, PCall.run hb59 ok59 (by simp) (pures2 (.int _ _) (.int _ _)) (.tup (pures2 (.int _ _) (.bool _))) ?_⟩
    simp -implicitDefEqProofs [c2.1, c2.2, show ¬ b < 0 by omega]
  refine ⟨IntKind.i64.wrap (a - b), true, PCall.run hb59 ok59 (by simp) (pures2 (.int _ _) (.int _ _)) (.tup (pures2 (.int _ _) (.bool _))) ?_⟩
  by_cases d1 : b < 0
  · have e1 : ¬ IntKind.i64.wrap (9223372036854775807 + b) < a := fun h => c1 ⟨d1, h⟩
    simp -implicitDefEqProofs [d1, e1, show ¬ 0 < b by omega]
  · by_cases d2 : 0 < b
    · have e2 : ¬ a < IntKind.i64.wrap (-9223372036854775808 + b) := fun h => c2 ⟨d2, h⟩
      simp -implicitDefEqProofs [d1, d2, e2]
    · simp -implicitDefEqProofs [d1, d2]
/-- May a step be, for arguments? -/
def rightS (s : Stp) (a : List Int) : Bool := argsOK a && stpB s a.length
theorem right13_ok (s : Stp) (a : List Int) (hc : s.code.length ≤ 1000000) (hf : s.foot.length ≤ 1000000) (ha : a.length ≤ 1000000) : PCall Try.prog 54 [.agg (encStp s), encA a] (.bool (rightS s a)) := by
  refine PCall.run hb54 ok54 (by simp) (pures2 (pure_encStp1 s) (pure_encA a)) (.bool _) ?_
  simp -implicitDefEqProofs [encStp, encA, H.nil]
  refine callQ_p (refArgs_ok a ha) (by simp [encA]) ?_
  cases h1 : argsOK a
  · simp -implicitDefEqProofs [rightS, h1]
  by_cases e : s.code.length = 0
  · have hs : stpB s a.length = footMay s.foot a.length := by simp [stpB, e]
    simp -implicitDefEqProofs [e]
    refine callQ_p (refFootMay_ok s.foot a.length (by omega)) (by simp) ?_
    simp -implicitDefEqProofs [rightS, h1, hs]
  · simp -implicitDefEqProofs [e]
    refine callQ_p (refProgMay_ok s.code a.length (by omega)) (by simp) ?_
    cases hp : progMay s.code a.length
    · have hs : stpB s a.length = false := by simp [stpB, e, hp]
      simp -implicitDefEqProofs [rightS, h1, hs]
    have hs : stpB s a.length = footMay s.foot a.length := by simp [stpB, hp]
    simp -implicitDefEqProofs []
    refine callQ_p (refFootMay_ok s.foot a.length (by omega)) (by simp) ?_
    simp -implicitDefEqProofs [rightS, h1, hs]
end Go.Proofs

/- The document's run of a step: each kind of instruction. -/
namespace Go.Proofs
open Go Go.RowKit Go.Am

def regsA (r : Nat → Int) : List AV := cellsN 4 fun k => .int .i64 (r k)
@[simp] theorem regsA_len (r : Nat → Int) : (regsA r).length = 4 := cellsN_len _ _
theorem regsA_at (r : Nat → Int) {k : Nat} (hk : k < 4) : List.take 1 (List.drop k (regsA r)) = [.int .i64 (r k)] := cellsN_at _ hk
theorem regsA_put (r : Nat → Int) {k : Nat} (hk : k < 4) (v : Int) : List.take k (regsA r) ++ .int .i64 v :: List.drop (k + 1) (regsA r) = regsA (upV r k v) := by
  rw [regsA, cellsN_put _ hk]
  unfold regsA
  congr 1
  funext i
  unfold upV
  split <;> rfl
theorem take_regsA (r : Nat → Int) : List.take 4 (regsA r) = regsA r := List.take_of_length_le (by rw [regsA_len]; exact Nat.le_refl _)
theorem wk_regsA (r : Nat → Int) : (regsA r).map wk = regsA r := by
  unfold regsA cellsN
  rw [List.map_map]
  rfl

/-- What the slots have while an instruction is run. -/
structure It13s (a : List Int) (fr fw : Nat → Bool) (i n : Nat) (kk : Int) (S : Slots) : Prop where
  t1 : S 1 = encA a
  t4 : S 4 = .bool true
  t5 : S 5 = .ptr 0 0
  t7 : S 7 = .ptr 1 0
  t10 : S 10 = .ptr 2 0
  t11 : S 11 = setP fr
  t12 : S 12 = setP fw
  t13 : S 13 = .ptr 3 0
  t14 : S 14 = .ptr 4 0
  t15 : S 15 = .ptr 5 0
  t16 : S 16 = .ptr 6 0
  t17 : S 17 = .int .i64 i
  t18 : S 18 = .ptr n 0
  t19 : S 19 = .int .i64 kk
theorem It13s.to {a : List Int} {fr fw : Nat → Bool} {i n : Nat} {kk : Int} {S S' : Slots} (I : It13s a fr fw i n kk S) (h : ∀ y, y < 20 → S' y = S y) : It13s a fr fw i n kk S' :=
  ⟨(h 1 (by decide)).trans I.t1, (h 4 (by decide)).trans I.t4, (h 5 (by decide)).trans I.t5, (h 7 (by decide)).trans I.t7, (h 10 (by decide)).trans I.t10, (h 11 (by decide)).trans I.t11, (h 12 (by decide)).trans I.t12, (h 13 (by decide)).trans I.t13, (h 14 (by decide)).trans I.t14, (h 15 (by decide)).trans I.t15, (h 16 (by decide)).trans I.t16, (h 17 (by decide)).trans I.t17, (h 18 (by decide)).trans I.t18, (h 19 (by decide)).trans I.t19⟩
/-- What the boxes have while an instruction is run. -/
structure It13h (s : Stp) (q : Nat → Int) (n : Nat) (x : Inst) (h : H) : Prop where
  n7 : 7 ≤ n
  bn : n < h.bn
  b0 : h.bx 0 = some (encStp s)
  b1 : h.bx 1 = some (regsA q)
  b2 : ∃ C, h.bx 2 = some C ∧ C.length = 9
  b3 : ∃ f g, h.bx 3 = some (mapA f g)
  b4 : ∃ r, h.bx 4 = some (regsA r)
  b5 : ∃ f, h.bx 5 = some (setA f)
  b6 : ∃ f, h.bx 6 = some (setA f)
  bx : h.bx n = some (encInst x)
theorem It13h.set3 {s : Stp} {q : Nat → Int} {n : Nat} {x : Inst} {h : H} (I : It13h s q n x h) (f : Nat → Bool) (g : Nat → Int) : It13h s q n x (h.set 3 (mapA f g)) :=
  ⟨I.n7, by simpa using I.bn, by simpa using I.b0, by simpa using I.b1, by simpa using I.b2, ⟨f, g, by simp⟩, by simpa using I.b4, by simpa using I.b5, by simpa using I.b6, by have := I.n7; simpa [show ¬ n = 3 by omega] using I.bx⟩
theorem It13h.set4 {s : Stp} {q : Nat → Int} {n : Nat} {x : Inst} {h : H} (I : It13h s q n x h) (r : Nat → Int) : It13h s q n x (h.set 4 (regsA r)) :=
  ⟨I.n7, by simpa using I.bn, by simpa using I.b0, by simpa using I.b1, by simpa using I.b2, by simpa using I.b3, ⟨r, by simp⟩, by simpa using I.b5, by simpa using I.b6, by have := I.n7; simpa [show ¬ n = 4 by omega] using I.bx⟩
theorem It13h.set5 {s : Stp} {q : Nat → Int} {n : Nat} {x : Inst} {h : H} (I : It13h s q n x h) (f : Nat → Bool) : It13h s q n x (h.set 5 (setA f)) :=
  ⟨I.n7, by simpa using I.bn, by simpa using I.b0, by simpa using I.b1, by simpa using I.b2, by simpa using I.b3, by simpa using I.b4, ⟨f, by simp⟩, by simpa using I.b6, by have := I.n7; simpa [show ¬ n = 5 by omega] using I.bx⟩
theorem It13h.set6 {s : Stp} {q : Nat → Int} {n : Nat} {x : Inst} {h : H} (I : It13h s q n x h) (f : Nat → Bool) : It13h s q n x (h.set 6 (setA f)) :=
  ⟨I.n7, by simpa using I.bn, by simpa using I.b0, by simpa using I.b1, by simpa using I.b2, by simpa using I.b3, by simpa using I.b4, by simpa using I.b5, ⟨f, by simp⟩, by have := I.n7; simpa [show ¬ n = 6 by omega] using I.bx⟩

section
variable {s : Stp} {a : List Int} {fr fw : Nat → Bool} {q : Nat → Int} {i n : Nat} {x : Inst} {kk : Int} {S : Slots} {h : H} {k : List It} {Q : Res → Slots → H → Prop}

def sk1 : IR := .seq (.reg c19_r17) (.cond (.t 78) (.reg c19_r18) (.seq (.reg c19_r19) (.seq (.reg c19_r20) (.seq (.reg c19_r21) (.cond (.t 89) (.dreg c19_r22 c19_a22) (.skip))))))
set_option maxHeartbeats 1000000 in
theorem run_op1 (I : It13s a fr fw i n kk S) (J : It13h s q n x h) (t20 : S 20 = .int .i64 0) (m : Nat) (hm : kk = m) (hm9 : m < 1000) (hf : fr m = true) (ja : Nat) (ha : x.a = ja) (ha4 : ja < 4)
    (hk : ∀ S' h', It13s a fr fw i n kk S' → It13h s q n x h' → S' 20 = .int .i64 0 → Run Try.prog false k Q S' h') : Run Try.prog false (.c sk1 :: k) Q S h := by
  unfold sk1
  subst hm
  have n7 := J.n7
  have bn := J.bn
  have bx := J.bx
  rw [encInst, ha] at bx
  obtain ⟨f, g, b3⟩ := J.b3
  obtain ⟨r, b4⟩ := J.b4
  obtain ⟨f5, b5⟩ := J.b5
  have m3 : 3 < h.bn := by omega
  have m4 : 4 < h.bn := by omega
  have m5 : 5 < h.bn := by omega
  have i1 := idxOf_nat (k := .i64) hm9
  have i2 := idxOf_nat (k := .i64) ha4
  have ki : (m : Int) < 1000 := by omega
  have ji : (ja : Int) < 4 := by omega
  have g1 := setA_at fr hm9
  rw [hf] at g1
  have p5 := setA_put f5 hm9 true
  have p4 := regsA_put r ha4 0
  have nz5 : ¬ n = 5 := by omega
  have nz4 : ¬ n = 4 := by omega
  simp -implicitDefEqProofs [I.t4, I.t11, I.t19, setP, g1, ki, show 1 ≤ 1000 - m by omega]
  simp -implicitDefEqProofs [I.t15, b5, m5, show m + 1 ≤ 1000 by omega]
  simp -implicitDefEqProofs [I.t14, I.t18, bx, bn, b4, m4, ji, nz5, show ja + 1 ≤ 4 by omega]
  have p3 := mapA_is f g hm9
  cases hfm : f m
  · rw [hfm] at p3
    simp -implicitDefEqProofs [I.t13, I.t19, b3, m3, p3, ki, show m ≤ 1999 by omega]
    rw [p5, p4]
    refine hk _ _ (I.to fun y hy => ?_) ((J.set5 _).set4 _) ?_
    · simp only [su]; repeat (rw [if_neg (by omega)])
    · simp [t20]
  · rw [hfm] at p3
    simp -implicitDefEqProofs [I.t13, I.t19, b3, m3, p3, ki, show m ≤ 1999 by omega]
    have p7 := mapA_v f g hm9
    have p8 := regsA_put (upV r ja 0) ha4 (g m)
    rw [p5, p4]
    refine run_dreg c19_d22 ?_
    simp -implicitDefEqProofs [I.t13, I.t14, I.t18, I.t19, bx, bn, b3, m3, m4, p7, ki, ji, nz5, nz4, show 1000 + m ≤ 1999 by omega, show ja + 1 ≤ 4 by omega]
    rw [p8]
    refine hk _ _ (I.to fun y hy => ?_) (((J.set5 _).set4 _).set4 _) ?_
    · simp only [su]; repeat (rw [if_neg (by omega)])
    · simp [t20]

def sk2 : IR := .seq (.reg c19_r25) (.cond (.t 110) (.reg c19_r26) (.seq (.reg c19_r27) (.seq (.dreg c19_r28 c19_a28) (.seq (.reg c19_r29) (.cond (.t 123) (.dreg c19_r30 c19_a30) (.skip))))))
set_option maxHeartbeats 1000000 in
theorem run_op2 (I : It13s a fr fw i n kk S) (J : It13h s q n x h) (t20 : S 20 = .int .i64 0) (m : Nat) (hm : kk = m) (hm9 : m < 1000) (hf : fw m = true) (ja : Nat) (ha : x.a = ja) (ha4 : ja < 4)
    (hk : ∀ S' h', It13s a fr fw i n kk S' → It13h s q n x h' → S' 20 = .int .i64 0 → Run Try.prog false k Q S' h') : Run Try.prog false (.c sk2 :: k) Q S h := by
  unfold sk2
  subst hm
  have n7 := J.n7
  have bn := J.bn
  have bx := J.bx
  rw [encInst, ha] at bx
  obtain ⟨f, g, b3⟩ := J.b3
  obtain ⟨r, b4⟩ := J.b4
  obtain ⟨f6, b6⟩ := J.b6
  have m3 : 3 < h.bn := by omega
  have m4 : 4 < h.bn := by omega
  have m6 : 6 < h.bn := by omega
  have i1 := idxOf_nat (k := .i64) hm9
  have i2 := idxOf_nat (k := .i64) ha4
  have ki : (m : Int) < 1000 := by omega
  have ji : (ja : Int) < 4 := by omega
  have g1 := setA_at fw hm9
  rw [hf] at g1
  have p6 := setA_put f6 hm9 true
  have nz6 : ¬ n = 6 := by omega
  have nz3 : ¬ n = 3 := by omega
  have nz4 : ¬ n = 4 := by omega
  simp -implicitDefEqProofs [I.t4, I.t12, I.t19, setP, g1, ki, show 1 ≤ 1000 - m by omega]
  simp -implicitDefEqProofs [I.t16, b6, m6, show m + 1 ≤ 1000 by omega]
  rw [p6]
  by_cases h2 : x.op = 2
  · have p3 := mapA_putB f g hm9 true
    refine run_dreg c19_d28 ?_
    simp -implicitDefEqProofs [I.t13, I.t18, I.t19, bx, bn, b3, m3, ki, nz6, nz3, h2, show m + 1 ≤ 2000 by omega]
    rw [p3]
    have p7 := mapA_putV (upB f m true) g hm9 (r ja)
    have r4 := regsA_at r ha4
    refine run_dreg c19_d30 ?_
    simp -implicitDefEqProofs [I.t13, I.t14, I.t18, I.t19, bx, bn, b4, m3, m4, r4, ki, ji, nz6, nz3, show 1000 + m + 1 ≤ 2000 by omega, show ja ≤ 3 by omega]
    rw [p7]
    refine hk _ _ (I.to fun y hy => ?_) (((J.set6 _).set3 _ _).set3 _ _) ?_
    · simp only [su]; repeat (rw [if_neg (by omega)])
    · simp [t20]
  · have p3 := mapA_putB f g hm9 false
    refine run_dreg c19_d28 ?_
    simp -implicitDefEqProofs [I.t13, I.t18, I.t19, bx, bn, b3, m3, ki, nz6, nz3, h2, show m + 1 ≤ 2000 by omega]
    rw [p3]
    refine hk _ _ (I.to fun y hy => ?_) ((J.set6 _).set3 _ _) ?_
    · simp only [su]; repeat (rw [if_neg (by omega)])
    · simp [t20]

def sk5 : IR := .reg c19_r50
set_option maxHeartbeats 1000000 in
theorem run_op5 (I : It13s a fr fw i n kk S) (J : It13h s q n x h) (t20 : S 20 = .int .i64 0) (ja : Nat) (ha : x.a = ja) (ha4 : ja < 4)
    (hk : ∀ S' h', It13s a fr fw i n kk S' → It13h s q n x h' → S' 20 = .int .i64 0 → Run Try.prog false k Q S' h') : Run Try.prog false (.c sk5 :: k) Q S h := by
  unfold sk5
  have n7 := J.n7
  have bn := J.bn
  have bx := J.bx
  rw [encInst, ha] at bx
  obtain ⟨r, b4⟩ := J.b4
  have m4 : 4 < h.bn := by omega
  have i2 := idxOf_nat (k := .i64) ha4
  have ji : (ja : Int) < 4 := by omega
  have p4 := regsA_put r ha4 x.x
  have nz4 : ¬ n = 4 := by omega
  simp -implicitDefEqProofs [I.t14, I.t18, bx, bn, b4, m4, ji, show ja + 1 ≤ 4 by omega]
  rw [p4]
  refine hk _ _ (I.to fun y hy => ?_) (J.set4 _) ?_
  · simp only [su]; repeat (rw [if_neg (by omega)])
  · simp [t20]

def sk67 : IR := .seq (.dreg c19_r53 c19_a53) (.seq (.seq (.reg c19_r54) (.cond (.t 200) (.dreg c19_r55 c19_a55) (.skip))) (.seq (.reg c19_r56) (.cond (.t 213) (.reg c19_r57) (.reg c19_r58))))
set_option maxHeartbeats 1000000 in
theorem run_op67 (I : It13s a fr fw i n kk S) (J : It13h s q n x h) (t20 : S 20 = .int .i64 0) (ja jb jc : Nat) (ha : x.a = ja) (ha4 : ja < 4) (hb : x.b = jb) (hb4 : jb < 4) (hc : x.c = jc) (hc4 : jc < 4)
    (hk : ∀ S' h' e, It13s a fr fw i n kk S' → It13h s q n x h' → S' 20 = .int .i64 e → e ≠ 9 → Run Try.prog false k Q S' h') : Run Try.prog false (.c sk67 :: k) Q S h := by
  unfold sk67
  have n7 := J.n7
  have bn := J.bn
  have bx := J.bx
  rw [encInst, ha, hb, hc] at bx
  obtain ⟨r, b4⟩ := J.b4
  have m4 : 4 < h.bn := by omega
  have i2 := idxOf_nat (k := .i64) ha4
  have i3 := idxOf_nat (k := .i64) hb4
  have i4 := idxOf_nat (k := .i64) hc4
  have ji : (ja : Int) < 4 := by omega
  have jbi : (jb : Int) < 4 := by omega
  have jci : (jc : Int) < 4 := by omega
  have rb := regsA_at r hb4
  have rc := regsA_at r hc4
  have nz4 : ¬ n = 4 := by omega
  obtain ⟨v, ok, hs⟩ := sum13_ok (r jb) (r jc)
  obtain ⟨v2, ok2, hs2⟩ := less13_ok (r jb) (r jc)
  simp -implicitDefEqProofs []
  refine run_dreg c19_d53 ?_
  simp -implicitDefEqProofs [I.t14, I.t18, bx, bn, b4, m4, rb, rc, jbi, jci, show jb ≤ 3 by omega, show jc ≤ 3 by omega]
  refine lcallQ_p hs (by simp) ?_
  simp -implicitDefEqProofs [I.t18, bx, bn, b4, m4, rb, rc, show jb ≤ 3 by omega, show jc ≤ 3 by omega]
  by_cases h7 : x.op = 7
  · simp -implicitDefEqProofs [h7]
    refine run_dreg c19_d55 ?_
    simp -implicitDefEqProofs [I.t14, I.t18, bx, bn, b4, m4, rb, rc, jbi, jci, show jb ≤ 3 by omega, show jc ≤ 3 by omega]
    refine lcallQ_p hs2 (by simp) ?_
    cases ok2
    · simp -implicitDefEqProofs [bx, bn, b4, m4, rb, rc, show jb ≤ 3 by omega, show jc ≤ 3 by omega]
      refine hk _ _ 8 (I.to fun y hy => ?_) J (by simp) (by decide)
      simp only [su]; repeat (rw [if_neg (by omega)])
    · simp -implicitDefEqProofs [I.t14, I.t18, bx, bn, b4, m4, rb, rc, ji, show jb ≤ 3 by omega, show jc ≤ 3 by omega, show ja + 1 ≤ 4 by omega]
      rw [regsA_put r ha4 v2]
      refine hk _ _ 0 (I.to fun y hy => ?_) (J.set4 _) (by simp [t20]) (by decide)
      simp only [su]; repeat (rw [if_neg (by omega)])
  · cases ok
    · simp -implicitDefEqProofs [h7]
      refine hk _ _ 8 (I.to fun y hy => ?_) J (by simp) (by decide)
      simp only [su]; repeat (rw [if_neg (by omega)])
    · simp -implicitDefEqProofs [I.t14, I.t18, bx, bn, b4, m4, ji, h7, show ja + 1 ≤ 4 by omega]
      rw [regsA_put r ha4 v]
      refine hk _ _ 0 (I.to fun y hy => ?_) (J.set4 _) (by simp [t20]) (by decide)
      simp only [su]; repeat (rw [if_neg (by omega)])

def sk8 : IR := .seq (.dreg c19_r60 c19_a60) (.cond (.t 226) (.reg c19_r61) (.skip))
set_option maxHeartbeats 1000000 in
theorem run_op8 (I : It13s a fr fw i n kk S) (J : It13h s q n x h) (t20 : S 20 = .int .i64 0) (ja : Nat) (ha : x.a = ja) (ha4 : ja < 4)
    (hk : ∀ S' h' e, It13s a fr fw i n kk S' → It13h s q n x h' → S' 20 = .int .i64 e → e ≠ 9 → Run Try.prog false k Q S' h') : Run Try.prog false (.c sk8 :: k) Q S h := by
  unfold sk8
  have n7 := J.n7
  have bn := J.bn
  have bx := J.bx
  rw [encInst, ha] at bx
  obtain ⟨r, b4⟩ := J.b4
  have m4 : 4 < h.bn := by omega
  have i2 := idxOf_nat (k := .i64) ha4
  have ji : (ja : Int) < 4 := by omega
  have ra := regsA_at r ha4
  have nz4 : ¬ n = 4 := by omega
  simp -implicitDefEqProofs []
  refine run_dreg c19_d60 ?_
  simp -implicitDefEqProofs [I.t14, I.t18, bx, bn, b4, m4, ra, ji, show ja ≤ 3 by omega]
  by_cases hl : r ja < x.x
  · simp -implicitDefEqProofs [hl]
    refine hk _ _ 7 (I.to fun y hy => ?_) J (by simp) (by decide)
    simp only [su]; repeat (rw [if_neg (by omega)])
  · simp -implicitDefEqProofs [hl]
    refine hk _ _ 0 (I.to fun y hy => ?_) J (by simp [t20]) (by decide)
    simp only [su]; repeat (rw [if_neg (by omega)])
end
end Go.Proofs

/- The document's run of a step: scans; an instruction. -/
namespace Go.Proofs
open Go Go.RowKit Go.Am

section
variable {s : Stp} {a : List Int} {fr fw : Nat → Bool} {q : Nat → Int} {i n : Nat} {x : Inst} {kk : Int} {S : Slots} {h : H} {k : List It} {Q : Res → Slots → H → Prop}

def sk4 : IR := .seq (.reg c19_r32) (.seq (.reg c19_r33) (.seq (.seq (.reg c19_r34) (.blk 3 (.loop c19_l41))) (.seq (.reg c19_r42) (.cond (.t 163) (.seq (.seq (.reg c19_r43) (.blk 5 (.loop c19_l47))) (.reg c19_r48)) (.skip)))))
set_option maxHeartbeats 1000000 in
theorem run_op4 (I : It13s a fr fw i n kk S) (J : It13h s q n x h) (t20 : S 20 = .int .i64 0) (h0 : 0 ≤ kk) (hkey : keyOKs x.l a = true) (hi : Int) (hhi : keyV x.l a = hi) (h9 : hi ≤ 999) (hf : ∀ m : Nat, kk ≤ m → (m : Int) ≤ hi → fr m = true) (ja : Nat) (ha : x.a = ja) (ha4 : ja < 4)
    (hk : ∀ S' h', It13s a fr fw i n kk S' → It13h s q n x h' → S' 20 = .int .i64 0 → Run Try.prog false k Q S' h') : Run Try.prog false (.c sk4 :: k) Q S h := by
  unfold sk4
  have n7 := J.n7
  have bn := J.bn
  have bx := J.bx
  have hkc := refKey_ok x.l a hkey
  rw [hhi] at hkc
  rw [encInst, ha] at bx
  simp -implicitDefEqProofs [I.t1, I.t18, bx, bn]
  refine callQ_p hkc (by simp [encKeyT, encA]) ?_
  simp -implicitDefEqProofs [I.t19]
  refine run_loop (fun mm S' h' => ∃ (z c : Int), mm = (hi + 1 - z).toNat ∧ kk ≤ z ∧ (z ≤ hi + 1 ∨ z = kk) ∧ It13s a fr fw i n kk S' ∧ S' 20 = .int .i64 0 ∧ S' 21 = .int .i64 hi ∧ S' 22 = .int .i64 c ∧ S' 23 = .int .i64 z ∧ It13h s q n x h') ?_ (hi + 1 - kk).toNat ?_
  rotate_left
  · refine ⟨kk, 0, rfl, Int.le_refl _, .inr rfl, I.to fun y hy => ?_, by simp [t20], by simp, by simp, by simp, J⟩
    simp only [su]; repeat (rw [if_neg (by omega)])
  clear I J t20 bx bn hkc
  rintro mm S h ⟨z, c, hmm, hz, hz2, I, t20, t21, t22, t23, J⟩ ih
  have bn := J.bn
  by_cases hle : z ≤ hi
  · obtain ⟨m, rfl⟩ : ∃ m : Nat, z = m := ⟨z.toNat, by omega⟩
    have hm : m < 1000 := by omega
    have i2 := idxOf_nat (k := .i64) hm
    have ki : (m : Int) < 1000 := by omega
    have g1 := setA_at fr hm
    rw [hf m hz hle] at g1
    obtain ⟨f, g, b3⟩ := J.b3
    have m3 : 3 < h.bn := by omega
    have p3 := mapA_is f g hm
    simp -implicitDefEqProofs [t21, t23, hle, I.t4, I.t11, setP, g1, ki, show 1 ≤ 1000 - m by omega]
    cases hfm : f m
    · rw [hfm] at p3
      simp -implicitDefEqProofs [I.t13, t23, b3, m3, p3, show m ≤ 1999 by omega, inc_i64 hm (by omega), -Int.natCast_add]
      refine ih (hi + 1 - ((m + 1 : Nat) : Int)).toNat _ _ (by omega) ⟨((m + 1 : Nat) : Int), c, rfl, by omega, .inl (by omega), I.to fun y hy => ?_, by simp [t20], by simp [t21], by simp [t22], by simp, J⟩
      simp only [su]; repeat (rw [if_neg (by omega)])
    · rw [hfm] at p3
      simp -implicitDefEqProofs [I.t13, t22, t23, b3, m3, p3, show m ≤ 1999 by omega, inc_i64 hm (by omega), -Int.natCast_add]
      refine ih (hi + 1 - ((m + 1 : Nat) : Int)).toNat _ _ (by omega) ⟨((m + 1 : Nat) : Int), _, rfl, by omega, .inl (by omega), I.to fun y hy => ?_, by simp [t20], by simp [t21], by simp; exact rfl, by simp, J⟩
      simp only [su]; repeat (rw [if_neg (by omega)])
  · clear ih
    simp -implicitDefEqProofs [t20, t21, t23, hle, I.t19]
    refine run_loop (fun mm S' h' => ∃ (z c : Int), mm = (hi + 1 - z).toNat ∧ kk ≤ z ∧ (z ≤ hi + 1 ∨ z = kk) ∧ It13s a fr fw i n kk S' ∧ S' 20 = .int .i64 0 ∧ S' 21 = .int .i64 hi ∧ S' 22 = .int .i64 c ∧ S' 24 = .int .i64 z ∧ It13h s q n x h') ?_ (hi + 1 - kk).toNat ?_
    rotate_left
    · refine ⟨kk, c, rfl, Int.le_refl _, .inr rfl, I.to fun y hy => ?_, by simp [t20], by simp [t21], by simp [t22], by simp, J⟩
      simp only [su]; repeat (rw [if_neg (by omega)])
    clear I J t20 t21 t22 t23 bn hle hmm hz hz2 z c
    rintro mm S h ⟨z, c, hmm, hz, hz2, I, t20, t21, t22, t24, J⟩ ih
    have bn := J.bn
    by_cases hle : z ≤ hi
    · obtain ⟨m, rfl⟩ : ∃ m : Nat, z = m := ⟨z.toNat, by omega⟩
      have hm : m < 1000 := by omega
      have i2 := idxOf_nat (k := .i64) hm
      have ki : (m : Int) < 1000 := by omega
      obtain ⟨f5, b5⟩ := J.b5
      have m5 : 5 < h.bn := by omega
      have p5 := setA_put f5 hm true
      simp -implicitDefEqProofs [t21, t24, hle, I.t15, b5, m5, ki, show m + 1 ≤ 1000 by omega, inc_i64 hm (by omega), -Int.natCast_add]
      rw [p5]
      refine ih (hi + 1 - ((m + 1 : Nat) : Int)).toNat _ _ (by omega) ⟨((m + 1 : Nat) : Int), c, rfl, by omega, .inl (by omega), I.to fun y hy => ?_, by simp [t20], by simp [t21], by simp [t22], by simp, J.set5 _⟩
      simp only [su]; repeat (rw [if_neg (by omega)])
    · have bx := J.bx
      rw [encInst, ha] at bx
      obtain ⟨r, b4⟩ := J.b4
      have m4 : 4 < h.bn := by omega
      have i2 := idxOf_nat (k := .i64) ha4
      have ji : (ja : Int) < 4 := by omega
      simp -implicitDefEqProofs [t21, t22, t24, hle, I.t14, I.t18, bx, bn, b4, m4, ji, show ja + 1 ≤ 4 by omega]
      rw [regsA_put r ha4 c]
      refine hk _ _ (I.to fun y hy => ?_) (J.set4 _) (by simp [t20])
      simp only [su]; repeat (rw [if_neg (by omega)])

def skAll : IR := .seq (.reg c19_r16) (.cond (.t 68) sk1 (.seq (.seq (.reg c19_r23) (.cond (.t 99) (.skip) (.reg c19_r24))) (.cond (.t 99) sk2 (.seq (.reg c19_r31) (.cond (.t 133) sk4 (.seq (.reg c19_r49) (.cond (.t 176) sk5 (.seq (.seq (.reg c19_r51) (.cond (.t 183) (.skip) (.reg c19_r52))) (.cond (.t 183) sk67 (.seq (.reg c19_r59) (.cond (.t 218) sk8 (.skip))))))))))))
/-- A register's number. -/
theorem reg_nat {r : Int} (h : isReg r = true) : ∃ j : Nat, r = j ∧ j < 4 := by
  have := (isReg_iff r).1 h
  exact ⟨r.toNat, by omega, by omega⟩
theorem ones_of {x : Inst} {args : Int} (h : oneInst x args = true) : (x.op = 1 ∧ isReg x.a = true ∧ mayKey x.k args = true) ∨ (x.op = 2 ∧ isReg x.a = true ∧ mayKey x.k args = true) ∨ (x.op = 3 ∧ x.a = 0 ∧ mayKey x.k args = true) ∨ (x.op = 4 ∧ isReg x.a = true ∧ mayKey x.k args = true ∧ mayKey x.l args = true) ∨ (x.op = 5 ∧ isReg x.a = true) ∨ (x.op = 8 ∧ isReg x.a = true) ∨ ((x.op = 6 ∨ x.op = 7) ∧ isReg x.a = true ∧ isReg x.b = true ∧ isReg x.c = true) := by
  unfold oneInst at h
  split at h
  · simp only [Bool.and_eq_true] at h
    rename_i c
    rcases c with c | c
    · exact .inl ⟨c, h.1.1.1.1.1, h.2⟩
    · exact .inr (.inl ⟨c, h.1.1.1.1.1, h.2⟩)
  · split at h
    · simp only [Bool.and_eq_true, decide_eq_true_eq] at h
      rename_i c
      exact .inr (.inr (.inl ⟨c, h.1.1.1.1.1, h.2⟩))
    · split at h
      · simp only [Bool.and_eq_true] at h
        rename_i c
        exact .inr (.inr (.inr (.inl ⟨c, h.1.1.1.1.1, h.1.2, h.2⟩)))
      · split at h
        · simp only [Bool.and_eq_true] at h
          rename_i c
          rcases c with c | c
          · exact .inr (.inr (.inr (.inr (.inl ⟨c, h.1.1.1.1⟩))))
          · exact .inr (.inr (.inr (.inr (.inr (.inl ⟨c, h.1.1.1.1⟩)))))
        · split at h
          · simp only [Bool.and_eq_true] at h
            rename_i c
            exact .inr (.inr (.inr (.inr (.inr (.inr ⟨c, h.1.1.1.1.1, h.1.1.1.2, h.1.1.2⟩)))))
          · cases h
theorem keyV_in {key : KeyT} {a : List Int} (h : keyOKs key a = true) : 0 ≤ keyV key a ∧ keyV key a ≤ 999 := by
  have hm := mayKey_iff.1 (by simp only [keyOKs, Bool.and_eq_true] at h; exact h.1)
  unfold keyV
  split
  · omega
  · obtain ⟨j, _, _, e, b1, b2⟩ := key_at h (by omega)
    omega
set_option maxHeartbeats 1000000 in
theorem run_one (I : It13s a fr fw i n kk S) (J : It13h s q n x h) (t20 : S 20 = .int .i64 0) (t67 : S 67 = .int .i64 x.op) (hone : oneInst x a.length = true) (hargs : argsOK a = true) (hkk : x.op ≤ 4 → kk = keyV x.k a)
    (hr : x.op = 1 ∨ x.op = 4 → ∀ m : Nat, keyV x.k a ≤ m → (m : Int) ≤ keyV (lastI x) a → fr m = true) (hw : x.op = 2 ∨ x.op = 3 → ∀ m : Nat, keyV x.k a ≤ m → (m : Int) ≤ keyV (lastI x) a → fw m = true)
    (hk : ∀ S' h' e, It13s a fr fw i n kk S' → It13h s q n x h' → S' 20 = .int .i64 e → e ≠ 9 → Run Try.prog false k Q S' h') : Run Try.prog false (.c skAll :: k) Q S h := by
  unfold skAll
  have hkey : ∀ key : KeyT, mayKey key a.length = true → keyOKs key a = true := fun key h => by simp [keyOKs, h, hargs]
  have hto : ∀ {S' : Slots}, (∀ y, y < 21 → S' y = S y) → It13s a fr fw i n kk S' ∧ S' 20 = .int .i64 0 := fun h => ⟨I.to fun y hy => h y (by omega), (h 20 (by decide)).trans t20⟩
  rcases ones_of hone with ⟨o, r, k1⟩ | ⟨o, r, k1⟩ | ⟨o, r, k1⟩ | ⟨o, r, k1, k2⟩ | ⟨o, r⟩ | ⟨o, r⟩ | ⟨o, r, r2, r3⟩
  · obtain ⟨ja, ha, ha4⟩ := reg_nat r
    have hv := keyV_in (hkey _ k1)
    have hl : lastI x = x.k := by rw [lastI, if_neg (by omega)]
    rw [hl] at hr
    obtain ⟨m, hm⟩ := Int.eq_ofNat_of_zero_le hv.1
    simp -implicitDefEqProofs [t67, o]
    refine run_op1 (I.to fun y hy => ?_) J (by simp [t20]) m (by rw [hkk (by omega), hm]) (by omega) (hr (.inl o) m (by omega) (by omega)) ja ha ha4 fun S' h' I J t => hk S' h' 0 I J t (by decide)
    simp only [su]; repeat (rw [if_neg (by omega)])
  · obtain ⟨ja, ha, ha4⟩ := reg_nat r
    have hv := keyV_in (hkey _ k1)
    have hl : lastI x = x.k := by rw [lastI, if_neg (by omega)]
    rw [hl] at hw
    obtain ⟨m, hm⟩ := Int.eq_ofNat_of_zero_le hv.1
    simp -implicitDefEqProofs [t67, o]
    refine run_op2 (I.to fun y hy => ?_) J (by simp [t20]) m (by rw [hkk (by omega), hm]) (by omega) (hw (.inl o) m (by omega) (by omega)) ja ha ha4 fun S' h' I J t => hk S' h' 0 I J t (by decide)
    simp only [su]; repeat (rw [if_neg (by omega)])
  · have hv := keyV_in (hkey _ k1)
    have hl : lastI x = x.k := by rw [lastI, if_neg (by omega)]
    rw [hl] at hw
    obtain ⟨m, hm⟩ := Int.eq_ofNat_of_zero_le hv.1
    simp -implicitDefEqProofs [t67, o]
    refine run_op2 (I.to fun y hy => ?_) J (by simp [t20]) m (by rw [hkk (by omega), hm]) (by omega) (hw (.inr o) m (by omega) (by omega)) 0 r (by decide) fun S' h' I J t => hk S' h' 0 I J t (by decide)
    simp only [su]; repeat (rw [if_neg (by omega)])
  · obtain ⟨ja, ha, ha4⟩ := reg_nat r
    have hv := keyV_in (hkey _ k1)
    have hv2 := keyV_in (hkey _ k2)
    have hl : lastI x = x.l := by rw [lastI, if_pos o]
    rw [hl] at hr
    simp -implicitDefEqProofs [t67, o]
    refine run_op4 (I.to fun y hy => ?_) J (by simp [t20]) (by rw [hkk (by omega)]; exact hv.1) (hkey _ k2) _ rfl hv2.2 (by rw [hkk (by omega)]; exact hr (.inr o)) ja ha ha4 fun S' h' I J t => hk S' h' 0 I J t (by decide)
    simp only [su]; repeat (rw [if_neg (by omega)])
  · obtain ⟨ja, ha, ha4⟩ := reg_nat r
    simp -implicitDefEqProofs [t67, o]
    refine run_op5 (I.to fun y hy => ?_) J (by simp [t20]) ja ha ha4 fun S' h' I J t => hk S' h' 0 I J t (by decide)
    simp only [su]; repeat (rw [if_neg (by omega)])
  · obtain ⟨ja, ha, ha4⟩ := reg_nat r
    simp -implicitDefEqProofs [t67, o]
    refine run_op8 (I.to fun y hy => ?_) J (by simp [t20]) ja ha ha4 hk
    simp only [su]; repeat (rw [if_neg (by omega)])
  · obtain ⟨ja, ha, ha4⟩ := reg_nat r
    obtain ⟨jb, hb, hb4⟩ := reg_nat r2
    obtain ⟨jc, hc, hc4⟩ := reg_nat r3
    rcases o with o | o
    · simp -implicitDefEqProofs [t67, o]
      refine run_op67 (I.to fun y hy => ?_) J (by simp [t20]) ja jb jc ha ha4 hb hb4 hc hc4 hk
      simp only [su]; repeat (rw [if_neg (by omega)])
    · simp -implicitDefEqProofs [t67, o]
      refine run_op67 (I.to fun y hy => ?_) J (by simp [t20]) ja jb jc ha ha4 hb hb4 hc hc4 hk
      simp only [su]; repeat (rw [if_neg (by omega)])
end
end Go.Proofs
