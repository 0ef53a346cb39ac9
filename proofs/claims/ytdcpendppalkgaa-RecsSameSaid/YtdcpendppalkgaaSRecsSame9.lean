/- What the functions that the statement reaches do: their contracts; and what follows of it. -/
import Derived.Test.YtdcpendppalkgaaSRecsSame8
import Derived.Test.YtdcpendppalkgaaSRecsSame6
/- Records are read as they were written: plain laws. -/
namespace Go.Proofs
open Go Go.RowKit Go.Am

def nod0 : Nod := ⟨0, 0, 0, false, [], []⟩
def rdArgs : Rd (List Int) := (rdCount 3).bind fun n => Rd.rep (rdCount 99) n.toNat
def rdSpn : Rd Spn := (rdCount 999).bind fun a => (rdCount 999).bind fun b => Rd.pure ⟨a, b⟩
def rdSpns : Rd (List Spn) := (rdCount 8).bind fun n => Rd.rep rdSpn n.toNat
def rdChg : Rd Chg := (rdCount 999).bind fun k => rdFlag.bind fun g => rdSigned.bind fun v => Rd.pure ⟨k, g, v⟩
def rdChgs : Rd (List Chg) := (rdCount 8).bind fun n => Rd.rep rdChg n.toNat
def rdNod : Rd Nod := (rdCount 12).bind fun a => (rdCount 4).bind fun b => (rdCount 4).bind fun c => rdFlag.bind fun d => rdSpns.bind fun r => rdSpns.bind fun w => Rd.pure ⟨a, b, c, d, r, w⟩
def rdStepR : Rd Recd := rdNod.bind fun n => (Rd.rep rdSigned 4).bind fun r => rdChgs.bind fun c => Rd.pure ⟨2, 0, 0, [], 0, n, r, c⟩
def rdSubR : Rd Recd := (rdCount 4).bind fun c => rdArgs.bind fun a => Rd.pure ⟨1, 0, c, a, 0, nod0, [0, 0, 0, 0], []⟩
def rdAbR : Rd Recd := (rdCount 12).bind fun s => (rdCount 15).bind fun w => Rd.pure ⟨3, s, 0, [], w, nod0, [0, 0, 0, 0], []⟩
/-- What a frame's words are read as. -/
def rdRec (k : Int) : Rd Recd := if k = 1 then rdSubR else if k = 2 then rdStepR else if k = 3 then rdAbR else Rd.pure ⟨k, 0, 0, [], 0, nod0, [0, 0, 0, 0], []⟩

theorem back_args {l : List Int} (h : argsOK l = true) : Back rdArgs (writeAll (argsI l)) l := by
  simp only [argsOK, Bool.and_eq_true, decide_eq_true_eq, List.all_eq_true, argOK_iff] at h
  rw [argsW, writeAll_flat]
  refine (Back.count (n := l.length) (most := 3) (by omega) (by omega)).bind ?_
  rw [Int.toNat_natCast]
  exact Back.rep fun a ha => by
    rw [w_arg]
    exact Back.count (h.2 a ha).1 (h.2 a ha).2
theorem plainS_ok {l : List Spn} (h : plainS l = true) : l.length ≤ 8 ∧ ∀ s ∈ l, (0 ≤ s.lo ∧ s.lo ≤ 999) ∧ 0 ≤ s.hi ∧ s.hi ≤ 999 := by
  simp only [plainS, Bool.and_eq_true, decide_eq_true_eq] at h
  refine ⟨h.1, fun s hs => ?_⟩
  have h1 : spP s ∈ l.map spP := List.mem_map_of_mem hs
  rw [h.2] at h1
  have h2 := mayS_iff.1 ((plainL_isPlain _).1 _ h1)
  simp only [spP] at h2
  omega
theorem back_spns {l : List Spn} (h : plainS l = true) : Back rdSpns (writeAll (spnsI l)) l := by
  obtain ⟨h1, h2⟩ := plainS_ok h
  rw [spnsW, writeAll_flat]
  refine (Back.count (n := l.length) (most := 8) (by omega) (by omega)).bind ?_
  rw [Int.toNat_natCast]
  exact Back.rep fun a ha => by
    rw [w_spn]
    obtain ⟨⟨a1, a2⟩, a3, a4⟩ := h2 a ha
    exact (Back.count a1 a2).bind (w2 := [a.hi.toNat]) ((Back.count a3 a4).last (Back.pure _))
theorem chgS_ok {l : List Chg} {w : List Spn} (h : chgS l w = true) : l.length ≤ 8 ∧ ∀ c ∈ l, 0 ≤ c.key ∧ c.key ≤ 999 := by
  simp only [chgS, Bool.and_eq_true, decide_eq_true_eq] at h
  refine ⟨h.2.1, fun c hc => ?_⟩
  have h1 : c.key ∈ l.map (·.key) := List.mem_map_of_mem (f := (·.key)) hc
  rw [h.2.2, allL_plainL, keysOf, List.mem_map] at h1
  obtain ⟨k, hk, e⟩ := h1
  have := List.mem_range.1 (List.mem_filter.1 hk).1
  omega
theorem back_chgs {l : List Chg} {w : List Spn} (h : chgS l w = true) : Back rdChgs (writeAll (chgsI l)) l := by
  obtain ⟨h1, h2⟩ := chgS_ok h
  rw [chgsW, writeAll_flat]
  refine (Back.count (n := l.length) (most := 8) (by omega) (by omega)).bind ?_
  rw [Int.toNat_natCast]
  exact Back.rep fun a ha => by
    rw [w_chg]
    obtain ⟨a1, a2⟩ := h2 a ha
    exact (Back.count a1 a2).bind (w2 := [if a.gone then 1 else 0, signed a.value]) ((Back.flag a.gone).bind (w2 := [signed a.value]) ((Back.signed a.value).last (Back.pure _)))
theorem back_regs (l : List Int) : Back (Rd.rep rdSigned l.length) (writeAll (l.map iX)) l := by
  have e : writeAll (l.map iX) = l.flatMap fun x => [signed x] := by
    simp [writeAll, List.flatMap_map, w_iX]
  rw [e]
  exact Back.rep fun a _ => Back.signed a
theorem belowB_ok {n m : Int} (h : belowB n m = true) : 0 ≤ n ∧ n < m := by
  simpa [belowB] using h
theorem noneR_ok {x : Recd} (h : noneR x = true) : x.node = nod0 ∧ x.changes = [] ∧ x.regs = [0, 0, 0, 0] := by
  simp only [noneR, emptyN, Bool.and_eq_true, decide_eq_true_eq, Bool.not_eq_true', List.length_eq_zero_iff] at h
  obtain ⟨⟨⟨⟨⟨⟨⟨a1, a2⟩, a3⟩, a4⟩, a5⟩, a6⟩, a7⟩, a8⟩ := h
  refine ⟨?_, a7, a8⟩
  generalize x.node = n at *
  cases n
  simp only at a1 a2 a3 a4 a5 a6
  subst a1 a2 a3 a4 a5 a6
  rfl
theorem back_rec {x : Recd} (hr : x.regs.length = 4) (h : recMay x = true) : Back (rdRec x.kind) (recW x) x := by
  unfold recMay at h
  unfold rdRec recW recI
  split at h
  · rename_i k
    rw [if_pos k, if_pos k]
    simp only [Bool.and_eq_true, decide_eq_true_eq] at h
    obtain ⟨⟨⟨⟨a1, a2⟩, a3⟩, a4⟩, a5⟩ := h
    obtain ⟨b1, b2, b3⟩ := noneR_ok a1
    obtain ⟨c1, c2⟩ := belowB_ok a4
    rw [writeAll_cons, w_iN]
    have e : x = ⟨1, 0, x.cls, x.args, 0, nod0, [0, 0, 0, 0], []⟩ := by cases x; simp only at k a2 a3 b1 b2 b3; subst k a2 a3 b1 b2 b3; rfl
    generalize hc : x.cls = c at *
    generalize ha : x.args = a at *
    rw [e]
    exact (Back.count c1 (by omega)).bind ((back_args a5).last (Back.pure _))
  · rename_i k1
    split at h
    · rename_i k
      rw [if_neg k1, if_pos k, if_neg k1, if_pos k]
      simp only [Bool.and_eq_true, decide_eq_true_eq] at h
      obtain ⟨⟨⟨⟨⟨⟨⟨⟨⟨a1, a2⟩, a3⟩, a4⟩, a5⟩, a6⟩, a7⟩, a8⟩, a9⟩, a10⟩ := h
      obtain ⟨c1, c2⟩ := belowB_ok a5
      obtain ⟨d1, d2⟩ := belowB_ok a6
      obtain ⟨e1, e2⟩ := belowB_ok a7
      have e : x = ⟨2, 0, 0, [], 0, x.node, x.regs, x.changes⟩ := by cases x; simp only [List.length_eq_zero_iff] at k a1 a2 a3 a4; subst k a1 a2 a3 a4; rfl
      have hw : writeAll (stepI x) = ([x.node.saga.toNat] ++ ([x.node.cls.toNat] ++ ([x.node.step.toNat] ++ ([if x.node.back then 1 else 0] ++ (writeAll (spnsI x.node.reads) ++ writeAll (spnsI x.node.writes)))))) ++ (writeAll (x.regs.map iX) ++ writeAll (chgsI x.changes)) := by
        rw [stepI, writeAll_app, writeAll_app, writeAll_app, writeAll_app]
        simp [writeAll, w_iN, w_iF]
      rw [hw]
      have hN : Back rdNod ([x.node.saga.toNat] ++ ([x.node.cls.toNat] ++ ([x.node.step.toNat] ++ ([if x.node.back then 1 else 0] ++ (writeAll (spnsI x.node.reads) ++ writeAll (spnsI x.node.writes)))))) x.node :=
        (Back.count c1 (by omega)).bind ((Back.count d1 (by omega)).bind ((Back.count e1 (by omega)).bind ((Back.flag _).bind ((back_spns a8).bind ((back_spns a9).last (Back.pure _))))))
      have hR := back_regs x.regs
      rw [hr] at hR
      have hC := back_chgs a10
      have := hN.bind (q := fun n => (Rd.rep rdSigned 4).bind fun r => rdChgs.bind fun c => Rd.pure (⟨2, 0, 0, [], 0, n, r, c⟩ : Recd)) (hR.bind (hC.last (Back.pure _)))
      rw [← e] at this
      exact this
    · rename_i k2
      split at h
      · rename_i k
        rw [if_neg k1, if_neg k2, if_pos k, if_neg k1, if_neg k2]
        simp only [Bool.and_eq_true, decide_eq_true_eq] at h
        obtain ⟨⟨⟨⟨⟨a1, a2⟩, a3⟩, a4⟩, a5⟩, a6⟩ := h
        obtain ⟨b1, b2, b3⟩ := noneR_ok a1
        obtain ⟨c1, c2⟩ := belowB_ok a4
        have e : x = ⟨3, x.saga, 0, [], x.why, nod0, [0, 0, 0, 0], []⟩ := by cases x; simp only [List.length_eq_zero_iff] at k a2 a3 b1 b2 b3; subst k a2 a3 b1 b2 b3; rfl
        generalize hc : x.saga = c at *
        generalize ha : x.why = a at *
        rw [e]
        have ew : writeAll [iN c 12, iN a 15] = [c.toNat] ++ [a.toNat] := rfl
        rw [ew]
        exact (Back.count c1 (by omega)).bind ((Back.count (by omega) a6).last (Back.pure _))
      · cases h
/-- Records that may be have the same frame just if they are the same. -/
theorem rec_inj {a b : Recd} (ra : a.regs.length = 4) (rb : b.regs.length = 4) (ha : recMay a = true) (hb : recMay b = true) (hk : a.kind = b.kind) (hw : recW a = recW b) : a = b := by
  have h1 := back_rec ra ha []
  have h2 := back_rec rb hb []
  rw [hk, hw, h2] at h1
  simpa using h1.symm
end Go.Proofs

/- Which records may be: the document's answer. -/
namespace Go.Proofs
open Go Go.RowKit Go.Am

theorem refArgs20_ok (a : List Int) (hl : a.length ≤ 1000000) : PCall Try.prog 66 [encA a] (.bool (argsOK a)) := by
  refine PCall.run hb66 ok66 (by simp) (pures1 (pure_encA a)) (.bool _) ?_
  simp -implicitDefEqProofs []
  refine callQ_p (refArgs_ok a hl) (by simp [wk_encA]) ?_
  simp -implicitDefEqProofs []

def chgT (f : Nat → Bool) (l : List Chg) : Bool := l.all chgOK && decide (l.map (·.key) = keysOf f 1000)
theorem chgT_key {f : Nat → Bool} {l : List Chg} {k : Nat} (hk : k < 1000) (hf : f k = true) (hs : (l[(keysOf f k).length]?).map (·.key) ≠ some (k : Int)) : chgT f l = false := by
  rw [chgT, Bool.and_eq_false_iff]
  right
  rw [decide_eq_false_iff_not]
  intro e
  apply hs
  rw [← (keysOf_at f hk hf).2, ← e, List.getElem?_map]
theorem chgT_bad {f : Nat → Bool} {l : List Chg} {j : Nat} (hj : j < l.length) (h : chgOK l[j] = false) : chgT f l = false := by
  rw [chgT, Bool.and_eq_false_iff]
  left
  rw [List.all_eq_false]
  exact ⟨_, List.getElem_mem hj, by rw [h]; simp⟩

set_option maxHeartbeats 4000000 in
theorem refMay_loop (x : Recd) (f : Nat → Bool) (h8 : x.changes.length ≤ 8) (r0 r1 r2 r3 : Int) (s2 : Slots) (h2 : H) (e1 : s2 1 = .ptr 0 0) (e5 : s2 5 = setP f) (e6 : s2 6 = .int .i64 0) (e7 : s2 7 = .int .i64 0) (eb : h2.bx 0 = some (cellsR x r0 r1 r2 r3)) (en : 0 < h2.bn) :
    Run Try.prog false [It.c c25_l21.loop, It.blk 0, It.c ((IR.reg c25_r22).seq IR.ret)] (retQ [ResA.t 2] fun r' _ => Am.wk r' = AV.bool (chgT f x.changes)) s2 h2 := by
  refine run_loop (fun n s h => ∃ k : Nat, n = 1000 - k ∧ k ≤ 1000 ∧ s 1 = .ptr 0 0 ∧ s 5 = setP f ∧ s 6 = .int .i64 (keysOf f k).length ∧ s 7 = .int .i64 k ∧ h.bx 0 = some (cellsR x r0 r1 r2 r3) ∧ 0 < h.bn ∧ (keysOf f k).length ≤ x.changes.length ∧ (x.changes.take (keysOf f k).length).map (·.key) = keysOf f k ∧ (x.changes.take (keysOf f k).length).all chgOK = true) ?_ 1000 ?_
  rotate_left
  · exact ⟨0, by simp [keysOf, e1, e5, e6, e7, eb, en]⟩
  rintro n s h ⟨k, hn, hk, s1, s5, s6, s7, hb, hbn, hle, hmap, hall⟩ ih
  by_cases hlt : k < 1000
  · have hki : (k : Int) < 1000 := by omega
    have i1 := idxOf_nat (k := .i64) hlt
    have g1 := setA_at f hlt
    cases hf : f k with
    | false =>
      rw [hf] at g1
      have e : keysOf f (k + 1) = keysOf f k := by rw [keysOf_succ, hf]; simp
      simp -implicitDefEqProofs [s5, s7, hki, setP, g1, show 1 ≤ 1000 - k by omega, inc_i64 hlt (by omega), -Int.natCast_add]
      exact ih (1000 - (k + 1)) _ _ (by omega) ⟨k + 1, rfl, by omega, by simp [s1], by simp [s5, setP], by simp [s6, e], by simp, by simpa using hb, by simpa using hbn, by rw [e]; exact hle, by rw [e]; exact hmap, by rw [e]; exact hall⟩
    | true =>
      rw [hf] at g1
      generalize hat : (keysOf f k).length = at' at *
      have hbx := hb
      unfold cellsR at hbx
      by_cases hge : at' < x.changes.length
      rotate_left
      · have hF : chgT f x.changes = false := chgT_key hlt hf (by rw [hat, List.getElem?_eq_none (by omega)]; simp)
        have hge2 : x.changes.length ≤ at' := by omega
        simp -implicitDefEqProofs [s1, s5, s6, s7, hki, setP, g1, hbx, hbn, hge2, hF, show 1 ≤ 1000 - k by omega]
      have hge2 : ¬ x.changes.length ≤ at' := by omega
      have i2 := idxOf_nat (k := .i64) hge
      by_cases hkey : x.changes[at'].key = k
      rotate_left
      · have hF : chgT f x.changes = false := chgT_key hlt hf (by rw [hat, List.getElem?_eq_getElem hge]; simpa using hkey)
        simp -implicitDefEqProofs [s1, s5, s6, s7, hki, setP, g1, hbx, hbn, hge, hge2, hkey, encChg, hF, show 1 ≤ 1000 - k by omega]
      have hsucc : keysOf f (k + 1) = keysOf f k ++ [(k : Int)] := by rw [keysOf_succ, if_pos hf]
      have hl1 : (keysOf f (k + 1)).length = at' + 1 := by rw [hsucc, List.length_append, hat]; rfl
      have htk : x.changes.take (at' + 1) = x.changes.take at' ++ [x.changes[at']] := by rw [List.take_succ_eq_append_getElem hge]
      have hgood : chgOK x.changes[at'] = true → ∀ (s3 : Slots) (h3 : H), s3 1 = .ptr 0 0 → s3 5 = setP f → s3 6 = .int .i64 (at' + 1 : Nat) → s3 7 = .int .i64 (k + 1 : Nat) → h3.bx 0 = some (cellsR x r0 r1 r2 r3) → 0 < h3.bn → Run Try.prog false [.lp c25_l21, .blk 0, .c (.seq (.reg c25_r22) .ret)] (retQ [.t 2] fun r' _ => Am.wk r' = .bool (chgT f x.changes)) s3 h3 := fun e s3 h3 q1 q5 q6 q7 qb qn =>
        ih (1000 - (k + 1)) _ _ (by omega) ⟨k + 1, rfl, by omega, q1, q5, by rw [hl1]; exact q6, q7, qb, qn, by rw [hl1]; omega, by rw [hl1, hsucc, htk, List.map_append, hmap, List.map_cons, List.map_nil, hkey], by rw [hl1, htk, List.all_append, hall]; simp [e]⟩
      cases hg : x.changes[at'].gone
      · have hc : chgOK x.changes[at'] = true := by simp [chgOK, hg]
        simp -implicitDefEqProofs [s1, s5, s6, s7, hki, setP, g1, hbx, hbn, hge, hge2, hkey, hg, encChg, show 1 ≤ 1000 - k by omega, inc_i64 hlt (by omega), inc_i64 hge (by omega), -Int.natCast_add]
        exact hgood hc _ _ (by simp [s1]) (by simp [s5, setP]) (by simp) (by simp) (by simpa using hb) (by simpa using hbn)
      · by_cases hv : x.changes[at'].value = 0
        · have hc : chgOK x.changes[at'] = true := by simp [chgOK, hg, hv]
          simp -implicitDefEqProofs [s1, s5, s6, s7, hki, setP, g1, hbx, hbn, hge, hge2, hkey, hg, hv, encChg, show 1 ≤ 1000 - k by omega, inc_i64 hlt (by omega), inc_i64 hge (by omega), -Int.natCast_add]
          exact hgood hc _ _ (by simp [s1]) (by simp [s5, setP]) (by simp) (by simp) (by simpa using hb) (by simpa using hbn)
        · have hF : chgT f x.changes = false := chgT_bad hge (by simp [chgOK, hg, hv])
          simp -implicitDefEqProofs [s1, s5, s6, s7, hki, setP, g1, hbx, hbn, hge, hge2, hkey, hg, hv, encChg, hF, show 1 ≤ 1000 - k by omega]
  · obtain rfl : k = 1000 := by omega
    have hbx := hb
    unfold cellsR at hbx
    have hF : chgT f x.changes = decide ((keysOf f 1000).length = x.changes.length) := by
      by_cases h : (keysOf f 1000).length = x.changes.length
      · rw [h, List.take_length] at hmap hall
        simp [chgT, hall, hmap, h]
      · rw [decide_eq_false h, chgT, Bool.and_eq_false_iff]
        right
        rw [decide_eq_false_iff_not]
        intro e
        exact h (by rw [← e, List.length_map])
    rw [hF]
    simp -implicitDefEqProofs [s1, s6, s7, hbx, hbn]

end Go.Proofs
