/- What the functions that the statement reaches do: their contracts; and what follows of it. -/
import Derived.Test.YtedmjhckiiponaaSUnitsNodes6
import Derived.Test.YtedmjhckiiponaaSUnitsNodes7
/- Breakpoints that are counted; a catalogue's breakpoints that may be: plain laws. -/
namespace Go.Proofs
open Go Go.RowKit Go.Am

def sumN (f : Nat → Nat) : Nat → Nat
  | 0 => 0
  | k + 1 => sumN f k + f k
theorem sumN_le {f g : Nat → Nat} : ∀ k : Nat, (∀ j, j < k → f j ≤ g j) → sumN f k ≤ sumN g k
  | 0, _ => Nat.le_refl _
  | k + 1, h => Nat.add_le_add (sumN_le k fun j hj => h j (by omega)) (h k (by omega))
theorem sumN_congr {f g : Nat → Nat} : ∀ k : Nat, (∀ j, j < k → f j = g j) → sumN f k = sumN g k
  | 0, _ => rfl
  | k + 1, h => by rw [sumN, sumN, sumN_congr k fun j hj => h j (by omega), h k (by omega)]
theorem sumN_bound {f : Nat → Nat} {m : Nat} (hf : ∀ j, f j ≤ m) : ∀ k : Nat, sumN f k ≤ m * k
  | 0 => Nat.zero_le _
  | k + 1 => by
    have := sumN_bound hf k
    have := hf k
    rw [sumN, Nat.mul_add]; omega
theorem sumN_zero {f : Nat → Nat} (k : Nat) (h : ∀ j, j < k → f j = 0) : sumN f k = 0 := by
  have := sumN_congr (g := fun _ => 0) k h
  rw [this]
  have : ∀ k, sumN (fun _ => 0) k = 0 := fun k => by
    induction k with
    | zero => rfl
    | succ k ih => rw [sumN, ih]
  exact this k

def popc (v : Nat) : Nat := v % 2 + v / 2 % 2 + v / 4 % 2
theorem popc_le (v : Nat) : popc v ≤ 3 := by simp only [popc]; omega
def Ctlg.pcB (x : Ctlg) (c d : Nat) : Nat := popc (x.brk c d).toNat
def Ctlg.cntB (x : Ctlg) : Nat := sumN (fun c => sumN (fun d => x.pcB c d) x.classes.length) x.classes.length
def Ctlg.one (x : Ctlg) (c d i : Nat) : Nat := if x.brkAt c d i = true then 1 else 0

theorem may_brk {x : Ctlg} (h : catMay x = true) (c d : Nat) (hc : c < 4) (hd : d < 4) : 0 ≤ x.brk c d ∧ x.brk c d < x.mostB c d := by
  simp only [catMay, Bool.and_eq_true, Bool.not_eq_true', decide_eq_false_iff_not] at h
  obtain ⟨_, h4⟩ := h
  rw [List.all_eq_true] at h4
  have := h4 c (List.mem_range.2 hc)
  rw [List.all_eq_true] at this
  have := this d (List.mem_range.2 hd)
  simp only [Ctlg.brkOK, Bool.and_eq_true, Bool.not_eq_true', decide_eq_false_iff_not] at this
  omega

theorem bits_cnt : ∀ s : Fin 4, ∀ v : Fin 8, v.1 < 2 ^ s.1 → popc v = (if bitN v 0 = true ∧ 1 < s.1 + 1 then 1 else 0) + (if bitN v 1 = true ∧ 2 < s.1 + 1 then 1 else 0) + (if bitN v 2 = true ∧ 3 < s.1 + 1 then 1 else 0) := by decide

theorem pc_one {x : Ctlg} (hw : x.wf) (h : catMay x = true) {c d : Nat} (hc : c < x.classes.length) (hd : d < x.classes.length) : sumN (x.one c d) 4 = x.pcB c d := by
  obtain ⟨hs, hg⟩ := catMay_small hw h
  have h4 := hs.2.1
  obtain ⟨b0, b1⟩ := may_brk h c d (by omega) (by omega)
  obtain ⟨v, hv⟩ := Int.eq_ofNat_of_zero_le b0
  have hst : x.stepsN c = x.classes[c].steps.length := Ctlg.stepsN_of hc
  obtain ⟨s0, s4, _⟩ := hs.2.2.1 _ (List.getElem_mem hc)
  obtain ⟨s, hss⟩ : ∃ s, x.classes[c].steps.length = s + 1 := ⟨x.classes[c].steps.length - 1, by omega⟩
  rw [Ctlg.mostB, if_pos ⟨hc, hd⟩, hst, hss, hv] at b1
  have hv2 : v < 2 ^ s := by
    have e : s + 1 - 1 = s := by omega
    rw [e] at b1
    exact_mod_cast b1
  have hv8 : v < 8 := Nat.lt_of_lt_of_le hv2 (by
    have : (2 : Nat) ^ s ≤ 2 ^ 3 := Nat.pow_le_pow_right (by omega) (by omega)
    simpa using this)
  have hin : ∀ k : Nat, k < x.classes.length → x.inn k = true := fun k hk => by
    simp only [Ctlg.inn, Bool.and_eq_true, decide_eq_true_eq]; omega
  have hat : ∀ i : Nat, x.brkAt c d i = (decide (i + 1 < s + 1) && bitN v i) := fun i => by
    simp only [Ctlg.brkAt, hin c hc, hin d hd, Int.toNat_natCast, hst, hss, hv, Bool.true_and]
    congr 1
    rw [Bool.eq_iff_iff]
    simp
  have key := bits_cnt ⟨s, by omega⟩ ⟨v, hv8⟩ hv2
  simp only [Ctlg.pcB, hv, Int.toNat_natCast]
  rw [key]
  simp only [sumN, Ctlg.one, hat]
  have e3 : (decide (3 + 1 < s + 1) && bitN v 3) = false := by
    rw [Bool.and_eq_false_iff]; left; simp; omega
  rw [e3]
  simp only [Bool.and_eq_true, decide_eq_true_eq]
  simp only [and_comm]
  simp

theorem cnt_one {x : Ctlg} (hw : x.wf) (h : catMay x = true) : x.cntB = sumN (fun c => sumN (fun d => sumN (x.one c d) 4) x.classes.length) x.classes.length :=
  sumN_congr _ fun _ hc => sumN_congr _ fun _ hd => (pc_one hw h hc hd).symm

theorem with_may {x : Ctlg} (h : catMay x = true) {l : List Int} (hl : ∀ c d, c < 4 → d < 4 → (x.with l).brkOK c d = true) : catMay (x.with l) = true := by
  simp only [catMay, Bool.and_eq_true] at h ⊢
  refine ⟨h.1, ?_⟩
  rw [List.all_eq_true]
  intro c hc
  rw [List.all_eq_true]
  intro d hd
  exact hl c d (List.mem_range.1 hc) (List.mem_range.1 hd)

theorem turnL_at {n : Nat} (n4 : n ≤ 4) (t : Nat → Nat → Int) {c d : Nat} (hc : c < 4) (hd : d < 4) : ((turnL n t (n * n))[4 * c + d]?).getD 0 = if c < n ∧ d < n then t c d else 0 := by
  have hlt : 4 * c + d < (turnL n t (n * n)).length := by rw [turnL_len]; omega
  rw [List.getElem?_eq_getElem hlt, Option.getD_some, turnL_get, show (4 * c + d) / 4 = c by omega, show (4 * c + d) % 4 = d by omega]
  by_cases h : c < n ∧ d < n
  · have := Nat.mul_le_mul_right n (show c + 1 ≤ n by omega)
    rw [Nat.add_mul] at this
    rw [if_pos h, if_pos ⟨h.1, h.2, by omega⟩]
  · rw [if_neg h, if_neg fun q => h ⟨q.1, q.2.1⟩]

theorem open_may {x : Ctlg} (hw : x.wf) (h : catMay x = true) : catMay (openOf x) = true := by
  obtain ⟨hs, hg⟩ := catMay_small hw h
  refine with_may h fun c d hc hd => ?_
  have hb : (openOf x).brk c d = if c < x.classes.length ∧ d < x.classes.length then openT x c d else 0 := turnL_at hs.2.1 _ hc hd
  show (openOf x).brkOK c d = true
  simp only [Ctlg.brkOK, Bool.and_eq_true, Bool.not_eq_true', decide_eq_false_iff_not, hb]
  have hm : (openOf x).mostB c d = x.mostB c d := rfl
  rw [hm, Ctlg.mostB]
  by_cases hcd : c < x.classes.length ∧ d < x.classes.length
  · rw [if_pos hcd, if_pos hcd, openT, dif_pos hcd.1, Ctlg.stepsN_of hcd.1, Cls.all]
    obtain ⟨s0, s4, _⟩ := hs.2.2.1 _ (List.getElem_mem hcd.1)
    have : x.classes[c].steps.length - 1 = 0 ∨ x.classes[c].steps.length - 1 = 1 ∨ x.classes[c].steps.length - 1 = 2 ∨ x.classes[c].steps.length - 1 = 3 := by omega
    rcases this with e | e | e | e <;> rw [e] <;> decide
  · rw [if_neg hcd, if_neg hcd]; decide
theorem closed_brk (x : Ctlg) (c d : Nat) : (closedOf x).brk c d = 0 := by
  unfold Ctlg.brk closedOf Ctlg.with
  rcases h2 : (List.replicate 16 (0 : Int))[4 * c + d]? with _ | v
  · simp
  · have := List.eq_of_mem_replicate (List.mem_of_getElem? h2)
    simp [this]
theorem closed_may {x : Ctlg} (h : catMay x = true) : catMay (closedOf x) = true := by
  refine with_may h fun c d hc hd => ?_
  show (closedOf x).brkOK c d = true
  have hm : 1 ≤ (closedOf x).mostB c d := by
    rw [Ctlg.mostB]
    split
    · have : (0 : Int) < 2 ^ ((closedOf x).stepsN c - 1) := Int.pow_pos (by decide)
      omega
    · exact Int.le_refl _
  simp only [Ctlg.brkOK, Bool.and_eq_true, Bool.not_eq_true', decide_eq_false_iff_not, closed_brk]
  omega
theorem closed_cnt (x : Ctlg) : (closedOf x).cntB = 0 :=
  sumN_zero _ fun c _ => sumN_zero _ fun d _ => by rw [Ctlg.pcB, closed_brk]; rfl
theorem open_wf {x : Ctlg} (hw : x.wf) (h : catMay x = true) : (openOf x).wf := (open_good (catMay_small hw h).1 (catMay_small hw h).2).wf
theorem closed_wf {x : Ctlg} (hw : x.wf) (h : catMay x = true) : (closedOf x).wf := (closed_good (catMay_small hw h).1 (catMay_small hw h).2).wf
theorem brk_open {x : Ctlg} (hs : x.small) {c d i : Int} (h : x.brkAt c d i = true) : (openOf x).brkAt c d i = true := by
  have h0 := h
  simp only [Ctlg.brkAt, Ctlg.inn, Bool.and_eq_true, decide_eq_true_eq] at h
  obtain ⟨⟨⟨⟨⟨⟨a1, a2⟩, _⟩, ⟨b1, b2⟩, _⟩, i1⟩, i2⟩, _⟩ := h
  obtain ⟨c, rfl⟩ := Int.eq_ofNat_of_zero_le a1
  obtain ⟨d, rfl⟩ := Int.eq_ofNat_of_zero_le b1
  obtain ⟨i, rfl⟩ := Int.eq_ofNat_of_zero_le i1
  have hc : c < x.classes.length := by omega
  rw [open_at hs hc (by omega), decide_eq_true_eq]
  rw [Int.toNat_natCast, Ctlg.stepsN_of hc] at i2
  omega
theorem cnt_open {x : Ctlg} (hw : x.wf) (h : catMay x = true) : x.cntB ≤ (openOf x).cntB := by
  obtain ⟨hs, _⟩ := catMay_small hw h
  rw [cnt_one hw h, cnt_one (open_wf hw h) (open_may hw h)]
  refine sumN_le _ fun c _ => sumN_le _ fun d _ => sumN_le _ fun i _ => ?_
  simp only [Ctlg.one]
  by_cases hb : x.brkAt c d i = true
  · rw [if_pos hb, if_pos (brk_open hs hb)]; exact Nat.le_refl _
  · rw [if_neg hb]; exact Nat.zero_le _
theorem closed_none (x : Ctlg) (c d i : Int) : (closedOf x).brkAt c d i = false := by
  simp [Ctlg.brkAt, closed_brk, bitN]

/-- What is compared where a catalogue may be: each breakpoint with its own low bits. -/
def mayT (x : Ctlg) (c d : Nat) : Int := x.brk c d % 2 ^ (x.stepsN c - 1)
theorem may_turn {x : Ctlg} (n4 : x.classes.length ≤ 4) (hb : x.breaks.length = 16) : decide (x.breaks = turnL x.classes.length (mayT x) (x.classes.length * x.classes.length)) = (List.range 4).all fun c => (List.range 4).all (x.brkOK c) := by
  have hp : ∀ k : Nat, (0 : Int) < 2 ^ k := fun k => Int.pow_pos (by decide)
  rw [Bool.eq_iff_iff, decide_eq_true_eq, List.all_eq_true]
  constructor
  · intro h c hc
    rw [List.all_eq_true]
    intro d hd
    have hc := List.mem_range.1 hc
    have hd := List.mem_range.1 hd
    have hv : x.brk c d = if c < x.classes.length ∧ d < x.classes.length then mayT x c d else 0 := by
      have e : x.brk c d = ((turnL x.classes.length (mayT x) (x.classes.length * x.classes.length))[4 * c + d]?).getD 0 := by rw [Ctlg.brk, ← h]
      rw [e]; exact turnL_at n4 _ hc hd
    simp only [Ctlg.brkOK, Bool.and_eq_true, Bool.not_eq_true', decide_eq_false_iff_not]
    by_cases hcd : c < x.classes.length ∧ d < x.classes.length
    · have hmo : x.mostB c d = 2 ^ (x.stepsN c - 1) := if_pos hcd
      rw [if_pos hcd] at hv
      rw [mayT] at hv
      have := Int.emod_nonneg (x.brk c d) (b := 2 ^ (x.stepsN c - 1)) (by have := hp (x.stepsN c - 1); omega)
      have := Int.emod_lt_of_pos (x.brk c d) (hp (x.stepsN c - 1))
      omega
    · have hmo : x.mostB c d = 1 := if_neg hcd
      rw [if_neg hcd] at hv
      omega
  · intro h
    apply List.ext_getElem
    · rw [hb, turnL_len]
    intro i h1 h2
    have hc : i / 4 < 4 := by omega
    have hd : i % 4 < 4 := by omega
    have hh := h (i / 4) (List.mem_range.2 hc)
    rw [List.all_eq_true] at hh
    have hh := hh (i % 4) (List.mem_range.2 hd)
    simp only [Ctlg.brkOK, Bool.and_eq_true, Bool.not_eq_true', decide_eq_false_iff_not] at hh
    have hi : 4 * (i / 4) + i % 4 = i := by omega
    have ht := turnL_at n4 (mayT x) hc hd
    rw [hi, List.getElem?_eq_getElem h2, Option.getD_some] at ht
    have hx : x.brk (i / 4) (i % 4) = x.breaks[i] := by rw [Ctlg.brk_of hb hc hd]; simp only [hi]
    rw [ht, ← hx]
    by_cases hcd : i / 4 < x.classes.length ∧ i % 4 < x.classes.length
    · have hmo : x.mostB (i / 4) (i % 4) = 2 ^ (x.stepsN (i / 4) - 1) := if_pos hcd
      rw [if_pos hcd, mayT, Int.emod_eq_of_lt] <;> omega
    · have hmo : x.mostB (i / 4) (i % 4) = 1 := if_neg hcd
      rw [if_neg hcd]
      omega

theorem cells_ints : ∀ (l m : List Int), l.length = m.length → cellsEq (List.replicate l.length LK.i) (l.map (AV.int .i64)) (m.map (AV.int .i64)) = some (decide (l = m))
  | [], [], _ => rfl
  | a :: l, b :: m, h => by
    have ih := cells_ints l m (by simpa using h)
    rw [List.length_cons, List.replicate_succ, List.map_cons, List.map_cons]
    simp only [cellsEq, cellEq, if_true, Option.bind_some, ih, Option.map_some]
    congr 1
    rw [Bool.eq_iff_iff]
    simp
  | [], _ :: _, h => by simp at h
  | _ :: _, [], h => by simp at h
end Go.Proofs

/- Which catalogues there may be: the program's answer. -/
namespace Go.Proofs
open Go Go.RowKit Go.Am

theorem named1_ok (c d : Cls) {h : H} {b : Nat} (hb : b < h.bn) (hbx : h.bx b = some (encCls c)) : SCall Try.prog 115 [.agg (encCls d), .ptr b 0] h (.bool (decide (d.name = c.name))) h := by
  refine SCall.ro (CallP.run hb115 ok115 (by simp) ?_) (.bool _)
  rw [encCls] at hbx
  simp -implicitDefEqProofs [encCls, hbx, show ¬ b = h.bn by omega, show b < h.bn + 1 by omega]
  exact HF.alloc _ _ _ _

theorem names_any {x : Ctlg} {i : Nat} (hi : i < x.classes.length) : ((x.classes.take i).any fun d => decide (d.name = x.classes[i].name)) = !x.namesOK i := by
  rw [Bool.eq_iff_iff]
  simp only [List.any_eq_true, decide_eq_true_eq, Bool.not_eq_true', Ctlg.namesOK, List.all_eq_false, List.mem_range]
  constructor
  · rintro ⟨d, hd, he⟩
    obtain ⟨j, hj, rfl⟩ := List.mem_iff_getElem.1 hd
    rw [List.length_take] at hj
    refine ⟨j, by omega, ?_⟩
    rw [List.getElem_take] at he
    simp [Ctlg.nameAt_of hi, Ctlg.nameAt_of (show j < x.classes.length by omega), he]
  · rintro ⟨j, hj, he⟩
    have hl : j < x.classes.length := by omega
    refine ⟨x.classes[j], ?_, ?_⟩
    · exact List.mem_iff_getElem.2 ⟨j, by rw [List.length_take]; omega, by rw [List.getElem_take]⟩
    · simpa [Ctlg.nameAt_of hi, Ctlg.nameAt_of hl] using he

theorem named_ok (x : Ctlg) (hl : x.classes.length ≤ 9223372036854775807) (hw : ∀ y ∈ x.classes, y.wf) : PCall Try.prog 80 [.sl .no (x.classes.map encCls)] (.bool ((List.range x.classes.length).all fun i => x.clsOK i && x.namesOK i)) := by
  refine PCall.run hb80 ok80 (by simp) (pures1 (elOK_Cls.pureL x.classes)) (.bool _) ?_
  simp -implicitDefEqProofs []
  refine run_loop (fun n s h => ∃ j : Nat, n = x.classes.length - j ∧ j ≤ x.classes.length ∧ s 0 = .sl .no (x.classes.map encCls) ∧ s 5 = .sl .no (x.classes.map encCls) ∧ s 6 = .int .i64 x.classes.length ∧ s 7 = .int .i64 j ∧ ∀ i, i < j → (x.clsOK i && x.namesOK i) = true) ?_ x.classes.length ?_
  rotate_left
  · exact ⟨0, by simp⟩
  rintro n s h ⟨j, hn, hj, s0, s5, s6, s7, hall⟩ ih
  by_cases hlt : j < x.classes.length
  · have hno : (x.clsOK j && x.namesOK j) = false → ((List.range x.classes.length).all fun i => x.clsOK i && x.namesOK i) = false := allR_false (p := fun i => x.clsOK i && x.namesOK i) hlt
    have hjs : (j : Int) ≤ (x.classes.length : Int) := by omega
    simp -implicitDefEqProofs [s5, s6, s7, hlt, encCls]
    refine callQ_p (classMay_ok x.classes[j] (hw _ (List.getElem_mem hlt))) (by simp [encCls]) ?_
    cases hp : clsMay x.classes[j]
    · have := hno (by simp [Ctlg.clsOK_of hlt, hp])
      simp -implicitDefEqProofs [this]
    simp -implicitDefEqProofs [s0, hj]
    refine callQ_s (contains_gen hb114 ok114 hb141 ok141 elOK_Cls (x.classes.take j) (by rw [List.length_take]; omega) (first := []) (caps := [.ptr h.bn 0]) (p := fun d => decide (d.name = x.classes[j].name)) rfl (by simp) (fun d _ => named1_ok x.classes[j] d (by simp) (by simp [encCls]))) (by simp [List.map_take]) ?_
    have hna := names_any hlt
    cases hq : x.namesOK j
    · have := hno (by simp [hq])
      rw [hq] at hna
      simp -implicitDefEqProofs [hna, this]
    rw [hq] at hna
    simp -implicitDefEqProofs [hna, s7, inc_i64 hlt hl, -Int.natCast_add]
    exact ih (x.classes.length - (j + 1)) _ _ (by omega) ⟨j + 1, rfl, by omega, by simp [s0], by simp [s5], by simp [s6], by simp, fun i hij => by
      by_cases h : i = j
      · subst h; simp [Ctlg.clsOK_of hlt, hp, hq]
      · exact hall i (by omega)⟩
  · have hw : ((List.range x.classes.length).all fun i => x.clsOK i && x.namesOK i) = true := allR_true (by omega) hall
    simp -implicitDefEqProofs [s6, s7, hlt, hw]

theorem and_low (v : Int) {k : Nat} (hk : k ≤ 3) : IntKind.i64.wrap ((((v % 2 ^ IntKind.i64.bits).toNat &&& (((2 : Int) ^ k - 1) % 2 ^ IntKind.i64.bits).toNat : Nat)) : Int) = v % 2 ^ k := by
  have hb : IntKind.i64.bits = 64 := rfl
  have h4 : k = 0 ∨ k = 1 ∨ k = 2 ∨ k = 3 := by omega
  have e : (((2 : Int) ^ k - 1) % 2 ^ IntKind.i64.bits).toNat = 2 ^ k - 1 := by
    rcases h4 with rfl | rfl | rfl | rfl <;> decide
  rw [e, Nat.and_two_pow_sub_one_eq_mod, hb]
  rcases h4 with rfl | rfl | rfl | rfl <;> (rw [wrap_i64] <;> omega)

theorem catMay1_ok (x : Ctlg) (hb16 : x.breaks.length = 16) {h : H} {b c d : Nat} (hb : b < h.bn) (hbx : h.bx b = some (encCtlg x)) (hc : c < x.classes.length) (n4 : x.classes.length ≤ 4) (hd : d < x.classes.length) (hs : x.classes[c].small) : SCall Try.prog 81 [.int .i64 c, .int .i64 d, .ptr b 0] h (.int .i64 (mayT x c d)) h := by
  refine SCall.ro (CallP.run hb81 ok81 (by simp) ?_) (.int _ _)
  rw [encCtlg] at hbx
  have hbk := Ctlg.brk_load (x := x) (.sl .no (x.classes.map encCls)) hb16 (show c < 4 by omega) (show d < 4 by omega)
  simp -implicitDefEqProofs []
  refine run_dregL c81_d2 rfl ?_
  simp -implicitDefEqProofs [hb, hbx, hc, hbk, hb16, show (c : Int) < 4 by omega, show (d : Int) < 4 by omega, show 1 + c * 4 + d + 1 ≤ 16 + 1 by omega]
  refine callC_p (all_ok x.classes[c] hs) (by simp) ?_
  have hk : x.classes[c].steps.length - 1 ≤ 3 := by have := hs.2.1; omega
  have ha := and_low (x.brk c d) hk
  simp -implicitDefEqProofs [Cls.all, ha, mayT, Ctlg.stepsN_of hc]
  exact HF.refl _ _ _

theorem catMayP_ok (x : Ctlg) (hx : x.wf) : PCall Try.prog 39 [.agg (encCtlg x)] (.bool (catMay x)) := by
  refine PCall.run hb39 ok39 (by simp) (pures1 (.agg (pure_encCtlg x))) (.bool _) ?_
  have htk := x.take16 hx.2.1
  obtain ⟨⟨hcl, hcw⟩, hbl, hbw⟩ := hx
  by_cases c1 : (x.classes.length : Int) < 1
  · have hf : catMay x = false := by simp [catMay, show x.classes.length < 1 by omega]
    simp -implicitDefEqProofs [encCtlg, c1, hf]
  by_cases c4 : (4 : Int) < x.classes.length
  · have hf : catMay x = false := by simp [catMay, show 4 < x.classes.length by omega]
    simp -implicitDefEqProofs [encCtlg, c1, c4, hf]
  have n4 : x.classes.length ≤ 4 := by omega
  have hm : catMay x = (((List.range x.classes.length).all fun i => x.clsOK i && x.namesOK i) && (List.range 4).all fun c => (List.range 4).all (x.brkOK c)) := by
    simp only [catMay, show ¬ x.classes.length < 1 by omega, show ¬ 4 < x.classes.length by omega]
    simp
  rw [← may_turn n4 hbl] at hm
  simp -implicitDefEqProofs [encCtlg, c1, c4]
  refine callQ_p (named_ok x hcl hcw) (by simp) ?_
  cases hna : (List.range x.classes.length).all fun i => x.clsOK i && x.namesOK i
  · rw [hna] at hm
    simp -implicitDefEqProofs [hm]
  rw [hna] at hm
  have hsm : ∀ c (h : c < x.classes.length), x.classes[c].small := fun c h => by
    rw [List.all_eq_true] at hna
    have := hna c (List.mem_range.2 h)
    rw [Bool.and_eq_true, Ctlg.clsOK_of h] at this
    exact clsMay_small this.1
  simp -implicitDefEqProofs [H.nil]
  refine run_dreg c39_d5 ?_
  simp -implicitDefEqProofs [htk, hbl]
  refine callD_s (turned_ok x hbl n4 (first := []) (caps := [.ptr 0 0]) rfl (by simp) (mayT x) fun c d h' hc hd hf => catMay1_ok x hbl ?_ ?_ hc n4 hd (hsm c hc)) (by simp [encCtlg]) ?_
  · have := hf.bn
    simp at this
    omega
  · rw [hf.bx 0 (by simp) (fun h => h)]
    simp [encCtlg]
  have hl := turnL_len x.classes.length (mayT x) (x.classes.length * x.classes.length)
  have hce := cells_ints x.breaks (turnL x.classes.length (mayT x) (x.classes.length * x.classes.length)) (by rw [hbl, hl])
  rw [hbl] at hce
  simp only [List.replicate] at hce
  simp -implicitDefEqProofs [hce, hm, htk, hbl]
end Go.Proofs

/- Which histories there may be: the program's answer. -/
namespace Go.Proofs
open Go Go.RowKit Go.Am

def fE (p : Int × AV) : AV × AV := (.int .i64 p.1, p.2)
def findE : List (Int × AV) → Int → Option AV
  | [], _ => none
  | (k, w) :: E, s => if s = k then some w else findE E s
def putE (s : Int) (v : AV) : List (Int × AV) → List (Int × AV)
  | [] => [(s, v)]
  | (k, w) :: E => if s = k then (k, v) :: E else (k, w) :: putE s v E
theorem mapFind_E (s : Int) : ∀ (E : List (Int × AV)) (i : Nat), ∃ q, mapFind .i64 s (E.map fE) i = some ((findE E s).map fun v => (q, v))
  | [], i => ⟨0, rfl⟩
  | (k, w) :: E, i => by
    by_cases h : s = k
    · exact ⟨i, by simp [mapFind, fE, findE, h]⟩
    · obtain ⟨q, hq⟩ := mapFind_E s E (i + 1)
      exact ⟨q, by simp only [List.map_cons, fE, mapFind, if_true, if_neg h, findE]; exact hq⟩
theorem mapPut_E' (s : Int) (v : AV) : ∀ (E : List (Int × AV)) (i : Nat), (mapFind .i64 s (E.map fE) i = some none ∧ putE s v E = E ++ [(s, v)]) ∨ ∃ j w, mapFind .i64 s (E.map fE) i = some (some (i + j, w)) ∧ (putE s v E).map fE = (E.map fE).modify j fun e => (e.1, v)
  | [], i => .inl ⟨rfl, rfl⟩
  | (k, w) :: E, i => by
    by_cases h : s = k
    · right
      refine ⟨0, w, by simp [mapFind, fE, h], ?_⟩
      simp [putE, h, fE]
    · rcases mapPut_E' s v E (i + 1) with ⟨q1, q2⟩ | ⟨j, u, q1, q2⟩
      · left
        refine ⟨by simp only [List.map_cons, fE, mapFind, if_true, if_neg h]; exact q1, ?_⟩
        rw [putE, if_neg h, q2]; rfl
      · right
        refine ⟨j + 1, u, by simp only [List.map_cons, fE, mapFind, if_true, if_neg h]; rw [show i + (j + 1) = i + 1 + j by omega]; exact q1, ?_⟩
        rw [putE, if_neg h, List.map_cons, List.map_cons, List.modify_succ_cons, ← q2]
theorem mapPut_E (s : Int) (v : AV) (E : List (Int × AV)) : mapPut .i64 s v (E.map fE) = some ((putE s v E).map fE) := by
  rcases mapPut_E' s v E 0 with ⟨q1, q2⟩ | ⟨j, w, q1, q2⟩
  · simp only [mapPut, q1, Option.map_some, q2, List.map_append]; rfl
  · simp only [mapPut, q1, Option.map_some, q2, Nat.zero_add]
theorem findE_put (s t : Int) (v : AV) : ∀ E : List (Int × AV), findE (putE s v E) t = if t = s then some v else findE E t
  | [] => by simp [putE, findE]
  | (k, w) :: E => by
    by_cases h : s = k
    · subst h
      simp only [putE, if_true, findE]
      by_cases ht : t = s <;> simp [ht]
    · simp only [putE, if_neg h, findE, findE_put s t v E]
      by_cases ht : t = k
      · subst ht; simp [Ne.symm h]
      · simp [ht]

structure MapI (E : List (Int × AV)) (T : Int → Tok) (pre : List Nod) (h : H) : Prop where
  fnd : ∀ s, (findE E s).getD (.sl .full []) = .sl (T s) ((ownOf pre s).map encNod)
  live : ∀ s, TLive h (T s) (ownOf pre s).length
  apart : ∀ s s', s ≠ s' → TApart (T s) (T s')
theorem MapI.keep {E : List (Int × AV)} {T : Int → Tok} {pre : List Nod} {h h' : H} (m : MapI E T pre h) (htn : h'.tn = h.tn) (htk : h'.tk = h.tk) : MapI E T pre h' :=
  ⟨m.fnd, fun s => by
    have := m.live s
    unfold TLive at this ⊢
    split at this
    · exact this
    · trivial
    · rw [htn, htk]; exact this, m.apart⟩
theorem MapI.start (h : H) : MapI [] (fun _ => .full) [] h := ⟨fun s => rfl, fun s => trivial, fun s s' _ i h => by cases h⟩
theorem MapI.put {E : List (Int × AV)} {T : Int → Tok} {pre : List Nod} {h h' : H} {B : Nat → Prop} (m : MapI E T pre h) {n : Nod} {t' : Tok} (hl : TLive h' t' (ownOf pre n.saga ++ [n]).length) (hn : TNext h (T n.saga) t') (hf : HF h h' B (TOwn (T n.saga))) :
    MapI (putE n.saga (.sl t' ((ownOf pre n.saga ++ [n]).map encNod)) E) (fun s => if s = n.saga then t' else T s) (pre ++ [n]) h' := by
  refine ⟨fun s => ?_, fun s => ?_, fun s s' hs => ?_⟩
  · rw [findE_put, ownOf_snoc]
    by_cases h : s = n.saga
    · subst h; simp
    · rw [if_neg h, if_neg (Ne.symm h), List.append_nil, if_neg h]; exact m.fnd s
  · rw [ownOf_snoc]
    by_cases h : s = n.saga
    · subst h; simpa using hl
    · rw [if_neg h, if_neg (Ne.symm h), List.append_nil]
      exact (m.live s).keep hf fun i hi ht => m.apart s n.saga h i hi ht
  · by_cases h : s = n.saga
    · by_cases h2 : s' = n.saga
      · exact absurd (h.trans h2.symm) hs
      · rw [if_pos h, if_neg h2]
        exact (TApart.next (m.live s') (m.apart s' n.saga h2) hn).symm
    · by_cases h2 : s' = n.saga
      · rw [if_neg h, if_pos h2]
        exact TApart.next (m.live s) (m.apart s n.saga h) hn
      · rw [if_neg h, if_neg h2]; exact m.apart s s' hs

set_option maxHeartbeats 1000000 in
theorem histMayP_ok (x : Ctlg) (hx : x.wf) (l : List Nod) (hl : l.length ≤ 9223372036854775807) (hw : ∀ n ∈ l, n.wf) : PCall Try.prog 34 [.agg (encCtlg x), .sl .no (l.map encNod)] (.bool (histMay x l)) := by
  refine PCall.run hb34 ok34 (by simp) (pures_cons (.agg (pure_encCtlg x)) (pures1 (elOK_Nod.pureL l))) (.bool _) ?_
  have htk := x.take16 hx.2.1
  have hbl := hx.2.1
  simp -implicitDefEqProofs [encCtlg, H.nil]
  simp -implicitDefEqProofs [htk, hbl]
  refine callQ_p (catMayP_ok x hx) (by simp [encCtlg]) ?_
  cases hm : catMay x
  · simp -implicitDefEqProofs [histMay, hm]
  by_cases h100 : (100 : Int) < l.length
  · have hf : histMay x l = false := by simp [histMay, show ¬ l.length ≤ 100 by omega]
    simp -implicitDefEqProofs [h100, hf]
  have hms : histMay x l = (List.range l.length).all (nodeAt x l) := by simp [histMay, hm, show l.length ≤ 100 by omega]
  obtain ⟨hs, hg⟩ := catMay_small hx hm
  have n4 := hs.2.1
  simp -implicitDefEqProofs [h100]
  refine run_loop (fun n s h => ∃ j : Nat, n = l.length - j ∧ j ≤ l.length ∧ s 2 = .ptr 0 0 ∧ s 5 = .map 0 ∧ s 17 = .sl .no (l.map encNod) ∧ s 18 = .int .i64 l.length ∧ s 19 = .int .i64 j ∧ 0 < h.bn ∧ h.bx 0 = some (.sl .no (x.classes.map encCls) :: x.breaks.map (AV.int .i64)) ∧ 0 < h.mn ∧ (∃ E T, h.mp 0 = some (E.map fE) ∧ MapI E T (l.take j) h) ∧ ∀ i, i < j → nodeAt x l i = true) ?_ l.length ?_
  rotate_left
  · exact ⟨0, by simp, by simp, by simp, by simp, by simp, by simp, by simp, by simp [H.newMap], by simp [H.newMap], by simp [H.newMap], ⟨[], fun _ => .full, by simp [H.newMap], MapI.start _⟩, fun i hi => absurd hi (by omega)⟩
  rintro n s h ⟨j, hn, hj, s2, s5, s17, s18, s19, b0, b1, m0, ⟨E, T, m1, mi⟩, hall⟩ ih
  by_cases hlt : j < l.length
  rotate_left
  · have hwh := allR_true (n := l.length) (by omega) hall
    simp -implicitDefEqProofs [s18, s19, hlt, hms, hwh]
  have hno : nodeAt x l j = false → histMay x l = false := fun h => hms.trans (allR_false hlt h)
  rw [nodeAt_of x hlt] at hno
  have hyes : nodeOK x (l.take j) l[j] = true → ∀ i, i < j + 1 → nodeAt x l i = true := fun h i hij => by
    by_cases e : i = j
    · subst e; rw [nodeAt_of x hlt]; exact h
    · exact hall i (by omega)
  have hwn := hw _ (List.getElem_mem hlt)
  have hpre := take_within hs j hj hall
  have htake := take_snoc hlt
  generalize hnd : l[j] = nd at hno hyes hwn htake
  have hnd' : (l.map encNod)[j]'(by simpa using hlt) = encNod nd := by simp [hnd]
  have z0 : ¬ 0 = h.bn := by omega
  have c0 : 0 < h.bn + 1 := by omega
  simp -implicitDefEqProofs [s17, s18, s19, hlt, hnd, encNod]
  refine run_dregL c34_d8 rfl ?_
  by_cases g1 : nd.saga < 0
  · have := hno (by simp [nodeOK, show ¬ 0 ≤ nd.saga by omega])
    simp -implicitDefEqProofs [g1, this]
  simp -implicitDefEqProofs [s2, b1, z0, c0, g1, htk, hbl]
  refine callC_p (there_ok x hx hwn.2.1) (by simp [encCtlg]) ?_
  cases g2 : x.inn nd.cls
  · have := hno (by simp [nodeOK, g2])
    simp -implicitDefEqProofs [this]
  by_cases g3 : nd.step < 0
  · have := hno (by simp [nodeOK, show ¬ 0 ≤ nd.step by omega])
    simp -implicitDefEqProofs [g3, this]
  simp -implicitDefEqProofs [g3]
  refine callC_p (spans_ok nd.reads hwn.2.2.2.1.1) (by simp) ?_
  cases g4 : spansOK nd.reads
  · have := hno (by simp [nodeOK, g4])
    simp -implicitDefEqProofs [this]
  simp -implicitDefEqProofs []
  refine callC_p (spans_ok nd.writes hwn.2.2.2.2.1) (by simp) ?_
  cases g5 : spansOK nd.writes
  · have := hno (by simp [nodeOK, g5])
    simp -implicitDefEqProofs [this]
  obtain ⟨c, hc, hcl⟩ : ∃ c : Nat, c < x.classes.length ∧ nd.cls = c := by
    simp only [Ctlg.inn, Bool.and_eq_true, decide_eq_true_eq] at g2
    exact ⟨nd.cls.toNat, by omega, by omega⟩
  have hst : x.stepsN nd.cls.toNat = x.classes[c].steps.length := by rw [hcl, Int.toNat_natCast, Ctlg.stepsN_of hc]
  have hmem : ∀ m ∈ ownOf (l.take j) nd.saga, 0 ≤ m.step ∧ m.step ≤ 1000 := fun m hm => by
    obtain ⟨_, w2, w3⟩ := hpre m (List.mem_filter.1 hm).1
    have := small4 hs m.cls.toNat
    omega
  have hol : (ownOf (l.take j) nd.saga).length ≤ 100 := by
    have := List.length_filter_le (fun n : Nod => decide (n.saga = nd.saga)) (l.take j)
    rw [List.length_take] at this
    simp only [ownOf]
    omega
  have hok : nodeOK x (l.take j) nd = nextP (ownOf (l.take j) nd.saga) nd x.classes[c].steps.length := by
    simp [nodeOK, g2, g4, g5, show 0 ≤ nd.saga by omega, show 0 ≤ nd.step by omega, hst]
  rw [hok] at hno hyes
  have hnext := next_ok (ownOf (l.take j) nd.saga) nd (steps := x.classes[c].steps.length) (by omega) hmem
  have hput := fun (h' : H) (t' : Tok) (q1 : TLive h' t' (((ownOf (l.take j) nd.saga).map encNod).length + 1)) => MapI.put (h' := h') (n := nd) (t' := t') (B := fun _ => False) mi (by simpa using q1)
  have hwx : ((ownOf (l.take j) nd.saga).map encNod).map (List.map wk) = (ownOf (l.take j) nd.saga).map encNod := by simp
  obtain ⟨q, hq⟩ := mapFind_E nd.saga E 0
  have hfd := mi.fnd nd.saga
  have hlive : TLive h (T nd.saga) ((ownOf (l.take j) nd.saga).map encNod).length := by simpa using mi.live nd.saga
  have hle : ∀ e ∈ (ownOf (l.take j) nd.saga).map encNod, e.length = 6 := by simp [encNod]
  have hlen : ((ownOf (l.take j) nd.saga).map encNod).length ≤ 100 := by simpa using hol
  rw [List.map_append] at hput
  generalize hT : T nd.saga = t0 at hfd hlive hput
  generalize hX : (ownOf (l.take j) nd.saga).map encNod = xs at hfd hlive hle hlen hnext hput hwx
  cases hfe : findE E nd.saga
  focus
    rw [hfe] at hfd hq
    simp only [Option.getD_none, Option.map_none, AV.sl.injEq] at hfd hq
    obtain ⟨rfl, rfl⟩ := hfd
  rotate_left
  focus
    rw [hfe] at hfd hq
    simp only [Option.getD_some, Option.map_some] at hfd hq
    subst hfd
  all_goals
    simp -implicitDefEqProofs [s2, s5, m0, m1, hq, b1, z0, c0, hcl, hc, encCls]
    refine callC_p hnext (by simp [encNod, hcl, hwx]) ?_
    cases g6 : nextP (ownOf (l.take j) nd.saga) nd x.classes[c].steps.length
    · have := hno g6
      simp -implicitDefEqProofs [this]
    have hyes := hyes g6
    simp -implicitDefEqProofs []
    refine run_dreg c34_d10 ?_
    simp -implicitDefEqProofs [s5, m0, m1, hq]
    refine appQ_tok (es2 := [encNod nd]) hlive hle (by simp [srcA, encNod, hcl]) (by have h1 := hlen; show (_ + 1) * 80 ≤ _; omega) fun t' h' q1 q2 q3 q4 => ?_
    have f0 : h'.bx 0 = some (.sl .no (x.classes.map encCls) :: x.breaks.map (AV.int .i64)) := by rw [q3.bx 0 (by simp) (fun h => h)]; simp [z0, b1]
    have f1 : h'.bx h.bn = some (encNod nd) := by rw [q3.bx h.bn (by simp) (fun h => h)]; simp [encNod, hcl]
    rw [encNod] at f1
    have f2 : h.bn < h'.bn := by rw [q4]; simp
    have f3 : 0 < h'.bn := by omega
    have f4 : 0 < h'.mn := Nat.lt_of_lt_of_le m0 q3.mn
    have f5 : h'.mp 0 = some (E.map fE) := (q3.mp 0 m0).trans m1
    have hf1 : HF h h' (fun _ => False) (TOwn _) := ((HF.alloc h _ _ _).trans' (HF.set (B := (· = h.bn)) _ rfl) (fun b hb e => by have e : b = h.bn := e; omega) (fun _ _ h => h)).trans q3
    have hmi := hput h' t' (by rw [List.length_append] at q1; exact q1) q2 hf1
    have hcells : List.map encNod [nd] = [[.int .i64 nd.saga, .int .i64 c, .int .i64 nd.step, .bool nd.back, .sl .no (nd.reads.map encSpn), .sl .no (nd.writes.map encSpn)]] := by simp [encNod, hcl]
    simp only [List.nil_append, hcells] at hmi
    rw [← htake] at hmi
    have hpe := fun v => mapPut_E nd.saga v E
    simp -implicitDefEqProofs [encNod, hcl]
    refine ⟨f4, ?_⟩
    rw [f5]
    refine ⟨rfl, ?_⟩
    rw [hpe]
    simp -implicitDefEqProofs [s19, m0, m1, hq, encNod, f1, f2, hcl, inc_i64 hlt hl, -Int.natCast_add]
    exact ih (l.length - (j + 1)) _ _ (by omega) ⟨j + 1, rfl, by omega, by simp [s2], by simp [s5], by simp [s17], by simp [s18], by simp, by simpa [H.setMap] using f3, by simpa [H.setMap] using f0, by simpa [H.setMap] using f4, ⟨_, _, by simp [H.setMap], hmi.keep rfl rfl⟩, hyes⟩
end Go.Proofs

/- Which histories there may be: the document's answer. -/
namespace Go.Proofs
open Go Go.RowKit Go.Am

def lastN (l : List Nod) (s : Int) : Nat → Option Nat
  | 0 => none
  | k + 1 => if l[k]?.map (·.saga) = some s then some k else lastN l s k
def lastV : Option Nat → Int
  | none => -1
  | some j => j
theorem lastN_lt (l : List Nod) (s : Int) : ∀ (k q : Nat), lastN l s k = some q → q < k
  | 0, q, h => by cases h
  | k + 1, q, h => by
    simp only [lastN] at h
    split at h
    · cases h; omega
    · have := lastN_lt l s k q h; omega
theorem own_last (l : List Nod) (s : Int) : ∀ k, k ≤ l.length → (ownOf (l.take k) s).getLast? = (lastN l s k).bind fun q => l[q]?
  | 0, _ => by simp [ownOf, lastN]
  | k + 1, hk => by
    have hk' : k < l.length := by omega
    rw [take_snoc hk', ownOf_snoc, lastN]
    by_cases h : l[k].saga = s
    · simp [h, hk']
    · have h2 : ¬ (l[k]?.map (·.saga) = some s) := by simp [hk', h]
      rw [if_neg h, if_neg h2, List.append_nil]
      exact own_last l s k (by omega)

set_option maxHeartbeats 1000000 in
set_option maxRecDepth 4000 in
theorem refHistMay_ok (x : Ctlg) (hx : x.wf) (l : List Nod) (hl : l.length ≤ 9223372036854775807) (hw : ∀ n ∈ l, n.wf) : PCall Try.prog 35 [.agg (encCtlg x), .sl .no (l.map encNod)] (.bool (histMay x l)) := by
  refine PCall.run hb35 ok35 (by simp) (pures_cons (.agg (pure_encCtlg x)) (pures1 (elOK_Nod.pureL l))) (.bool _) ?_
  have htk := x.take16 hx.2.1
  have hbl := hx.2.1
  simp -implicitDefEqProofs [encCtlg, H.nil]
  simp -implicitDefEqProofs [htk, hbl]
  refine callQ_p (refCatMay_ok x hx) (by simp [encCtlg]) ?_
  cases hm : catMay x
  · simp -implicitDefEqProofs [histMay, hm]
  by_cases h100 : (100 : Int) < l.length
  · have hf : histMay x l = false := by simp [histMay, show ¬ l.length ≤ 100 by omega]
    simp -implicitDefEqProofs [h100, hf]
  have hms : histMay x l = (List.range l.length).all (nodeAt x l) := by simp [histMay, hm, show l.length ≤ 100 by omega]
  obtain ⟨hs, hg⟩ := catMay_small hx hm
  have n4 := hs.2.1
  simp -implicitDefEqProofs [h100]
  refine run_loop (fun n s h => ∃ j : Nat, n = l.length - j ∧ j ≤ l.length ∧ s 2 = .ptr 0 0 ∧ s 1 = .sl .no (l.map encNod) ∧ s 5 = .int .i64 j ∧ 0 < h.bn ∧ h.bx 0 = some (.sl .no (x.classes.map encCls) :: x.breaks.map (AV.int .i64)) ∧ ∀ i, i < j → nodeAt x l i = true) ?_ l.length ?_
  rotate_left
  · exact ⟨0, by simp⟩
  rintro n s h ⟨j, hn, hj, s2, s1, s5, b0, b1, hall⟩ ih
  by_cases hlt : j < l.length
  rotate_left
  · have hwh := allR_true (n := l.length) (by omega) hall
    simp -implicitDefEqProofs [s1, s5, hlt, hms, hwh]
  have hno : nodeAt x l j = false → histMay x l = false := fun h => hms.trans (allR_false hlt h)
  rw [nodeAt_of x hlt] at hno
  have hyes : nodeOK x (l.take j) l[j] = true → ∀ i, i < j + 1 → nodeAt x l i = true := fun h i hij => by
    by_cases e : i = j
    · subst e; rw [nodeAt_of x hlt]; exact h
    · exact hall i (by omega)
  have hwn := hw _ (List.getElem_mem hlt)
  have hpre := take_within hs j hj hall
  have hown := own_last l l[j].saga j hj
  generalize hnd : l[j] = nd at hno hyes hwn hown
  have z0 : ¬ 0 = h.bn := by omega
  have c0 : 0 < h.bn + 1 := by omega
  simp -implicitDefEqProofs [s1, s5, hlt, hnd, encNod]
  refine run_dregL c35_d7 rfl ?_
  by_cases g1 : nd.saga < 0
  · have := hno (by simp [nodeOK, show ¬ 0 ≤ nd.saga by omega])
    simp -implicitDefEqProofs [g1, this]
  simp -implicitDefEqProofs [s2, b1, z0, c0, g1, htk, hbl]
  refine callC_p (refThere_ok x hx hwn.2.1) (by simp [encCtlg]) ?_
  have hinn : (decide (0 ≤ nd.cls) && decide (nd.cls < (x.classes.length : Int))) = x.inn nd.cls := by
    rw [Ctlg.inn, Bool.eq_iff_iff]
    simp
    omega
  rw [hinn]
  cases g2 : x.inn nd.cls
  · have := hno (by simp [nodeOK, g2])
    simp -implicitDefEqProofs [this]
  simp -implicitDefEqProofs []
  refine callC_p (refSpans_ok nd.reads hwn.2.2.2.1.1) (by simp) ?_
  cases g4 : spansOK nd.reads
  · have := hno (by simp [nodeOK, g4])
    simp -implicitDefEqProofs [this]
  simp -implicitDefEqProofs []
  refine callC_p (refSpans_ok nd.writes hwn.2.2.2.2.1) (by simp) ?_
  cases g5 : spansOK nd.writes
  · have := hno (by simp [nodeOK, g5])
    simp -implicitDefEqProofs [this]
  by_cases g3 : nd.step < 0
  · have := hno (by simp [nodeOK, show ¬ 0 ≤ nd.step by omega])
    simp -implicitDefEqProofs [g3, this]
  obtain ⟨c, hc, hcl⟩ : ∃ c : Nat, c < x.classes.length ∧ nd.cls = c := by
    simp only [Ctlg.inn, Bool.and_eq_true, decide_eq_true_eq] at g2
    exact ⟨nd.cls.toNat, by omega, by omega⟩
  have hst : x.stepsN nd.cls.toNat = x.classes[c].steps.length := by rw [hcl, Int.toNat_natCast, Ctlg.stepsN_of hc]
  have hsl4 := small4 hs c
  rw [Ctlg.stepsN_of hc] at hsl4
  by_cases g6 : (x.classes[c].steps.length : Int) ≤ nd.step
  · have := hno (by
      cases hq : nodeOK x (l.take j) nd
      · rfl
      · have := (nodes_within hs _ hpre hq).2.2
        rw [hst] at this
        omega)
    simp -implicitDefEqProofs [s2, b1, z0, c0, g3, hcl, hc, encCls, g6, this]
  have hok : nodeOK x (l.take j) nd = nextP (ownOf (l.take j) nd.saga) nd x.classes[c].steps.length := by
    simp [nodeOK, g2, g4, g5, show 0 ≤ nd.saga by omega, show 0 ≤ nd.step by omega, hst]
  rw [hok, nextP, hown] at hno hyes
  simp -implicitDefEqProofs [s2, b1, z0, c0, g3, hcl, hc, encCls, g6]
  refine run_loop (fun n s h' => ∃ k : Nat, n = j - k ∧ k ≤ j ∧ s 2 = .ptr 0 0 ∧ s 1 = .sl .no (l.map encNod) ∧ s 5 = .int .i64 j ∧ s 6 = .ptr h.bn 0 ∧ s 7 = .int .i64 (lastV (lastN l nd.saga k)) ∧ s 8 = .int .i64 k ∧ h.bn < h'.bn ∧ h'.bx 0 = some (.sl .no (x.classes.map encCls) :: x.breaks.map (AV.int .i64)) ∧ h'.bx h.bn = some [.int .i64 nd.saga, .int .i64 c, .int .i64 nd.step, .bool nd.back, .sl .no (nd.reads.map encSpn), .sl .no (nd.writes.map encSpn)]) ?_ j ?_
  rotate_left
  · exact ⟨0, by simp [s1, s2, s5, b1, z0, lastN, lastV]⟩
  rintro n s h' ⟨k, hn, hk, s2, s1, s5, s6, s7, s8, b0, b1, b2⟩ ih2
  by_cases hlk : k < j
  · have hlk2 : k < l.length := by omega
    simp -implicitDefEqProofs [s5, s8, hlk]
    refine run_dregL c35_d12 rfl ?_
    by_cases he : l[k].saga = nd.saga
    · have e1 : lastN l nd.saga (k + 1) = some k := by rw [lastN, if_pos (by simp [hlk2, he])]
      simp -implicitDefEqProofs [s1, s6, s8, hlk2, b0, b2, encNod, he, inc_i64 hlk (by omega), -Int.natCast_add]
      exact ih2 (j - (k + 1)) _ _ (by omega) ⟨k + 1, rfl, by omega, by simp [s2], by simp [s1], by simp [s5], by simp [s6], by simp [e1, lastV], by simp, by simpa using b0, by simp [b1], by simp [b2]⟩
    · have e1 : lastN l nd.saga (k + 1) = lastN l nd.saga k := by rw [lastN, if_neg (by simp [hlk2, he])]
      simp -implicitDefEqProofs [s1, s6, s8, hlk2, b0, b2, encNod, he, inc_i64 hlk (by omega), -Int.natCast_add]
      exact ih2 (j - (k + 1)) _ _ (by omega) ⟨k + 1, rfl, by omega, by simp [s2], by simp [s1], by simp [s5], by simp [s6], by simp [e1, s7], by simp, by simpa using b0, by simp [b1], by simp [b2]⟩
  obtain rfl : k = j := by omega
  have b3 : 0 < h'.bn := by omega
  cases hla : lastN l nd.saga k with
  | none =>
    rw [hla] at s7 hno hyes
    simp only [lastV] at s7
    simp only [Option.bind_none] at hno hyes
    by_cases hbad : nd.back = true ∨ ¬ nd.step = 0
    · have := hno (by
        rcases hbad with h | h
        · simp [h]
        · simp [h])
      cases hb : nd.back
      · have hs0 : ¬ nd.step = 0 := by rcases hbad with h | h; rw [hb] at h; cases h; exact h
        simp -implicitDefEqProofs [s5, s6, s7, s8, b0, b2, hb, hs0, this]
      · simp -implicitDefEqProofs [s5, s6, s7, s8, b0, b2, hb, this]
    · have hb : nd.back = false := by
        cases h : nd.back
        · rfl
        · exact absurd (.inl h) hbad
      have hs0 : nd.step = 0 := Classical.byContradiction fun h => hbad (.inr h)
      have hy := hyes (by simp [hb, hs0])
      simp -implicitDefEqProofs [s5, s6, s7, s8, b0, b2, hb, hs0, inc_i64 hlt hl, -Int.natCast_add]
      exact ih (l.length - (k + 1)) _ _ (by omega) ⟨k + 1, rfl, by omega, by simp [s2], by simp [s1], by simp, by simpa using b3, by simp [b1], hy⟩
  | some q =>
    have hqk := lastN_lt _ _ _ _ hla
    have hql : q < l.length := by omega
    rw [hla] at s7 hno hyes
    simp only [lastV] at s7
    have hq2 : l[q]? = some l[q] := by simp [hql]
    simp only [Option.bind_some, hq2] at hno hyes
    have hqm : l[q] ∈ l.take k := List.mem_iff_getElem.2 ⟨q, by rw [List.length_take]; omega, by rw [List.getElem_take]⟩
    obtain ⟨_, w2, w3⟩ := hpre _ hqm
    have w4 := small4 hs l[q].cls.toNat
    generalize hmq : l[q] = m at hno hyes w2 w3 w4
    have hw1 : IntKind.i64.wrap (m.step + 1) = m.step + 1 := wrap_i64 (by omega) (by omega)
    have hw2 : IntKind.i64.wrap (m.step - 1) = m.step - 1 := wrap_i64 (by omega) (by omega)
    have z4 : ¬ h.bn = h'.bn := by omega
    have z5 : ¬ 0 = h'.bn := by omega
    have z6 : h.bn < h'.bn + 1 := by omega
    have z7 : ¬ (q : Int) < 0 := by omega
    rw [aftP, hcl] at hno hyes
    cases hb : nd.back
    · by_cases hc2 : (c : Int) = m.cls
      rotate_left
      · have := hno (by simp [hc2])
        simp -implicitDefEqProofs [s1, s5, s6, s7, s8, b2, hql, hmq, encNod, z4, z6, z7, hb, hw1, hc2, this]
      by_cases hs2 : nd.step = m.step + 1
      rotate_left
      · have := hno (by simp [hb, hs2])
        simp -implicitDefEqProofs [s1, s5, s6, s7, s8, b2, hql, hmq, encNod, z4, z6, z7, hb, hw1, hc2, hs2, this]
      cases hmb : m.back
      rotate_left
      · have := hno (by simp [hb, hmb])
        simp -implicitDefEqProofs [s1, s5, s6, s7, s8, b2, hql, hmq, encNod, z4, z6, z7, hb, hw1, hc2, hs2, hmb, this]
      have hy := hyes (by simp [hc2, hb, hs2, hmb]; omega)
      simp -implicitDefEqProofs [s1, s5, s6, s7, s8, b2, hql, hmq, encNod, z4, z6, z7, hb, hw1, hc2, hs2, hmb, inc_i64 hlt hl, -Int.natCast_add]
      exact ih (l.length - (k + 1)) _ _ (by omega) ⟨k + 1, rfl, by omega, by simp [s2], by simp [s1], by simp, by simp, by simp [b1, z5], hy⟩
    · by_cases hc2 : (c : Int) = m.cls
      rotate_left
      · have := hno (by simp [hc2])
        cases hmb : m.back
        · simp -implicitDefEqProofs [s1, s5, s6, s7, s8, b2, hql, hmq, encNod, z4, z6, z7, hb, hw1, hc2, hmb, this]
        · simp -implicitDefEqProofs [s1, s5, s6, s7, s8, b2, hql, hmq, encNod, z4, z6, z7, hb, hw1, hw2, hc2, hmb, this]
      cases hmb : m.back
      · by_cases hs2 : nd.step = m.step
        rotate_left
        · have := hno (by simp [hb, hmb, hs2])
          simp -implicitDefEqProofs [s1, s5, s6, s7, s8, b2, hql, hmq, encNod, z4, z6, z7, hb, hw1, hc2, hs2, hmb, this]
        have hy := hyes (by simp [hc2, hb, hs2, hmb])
        simp -implicitDefEqProofs [s1, s5, s6, s7, s8, b2, hql, hmq, encNod, z4, z6, z7, hb, hw1, hc2, hs2, hmb, inc_i64 hlt hl, -Int.natCast_add]
        exact ih (l.length - (k + 1)) _ _ (by omega) ⟨k + 1, rfl, by omega, by simp [s2], by simp [s1], by simp, by simp, by simp [b1, z5], hy⟩
      · by_cases hs2 : nd.step = m.step - 1
        rotate_left
        · have := hno (by simp [hb, hmb, hs2])
          simp -implicitDefEqProofs [s1, s5, s6, s7, s8, b2, hql, hmq, encNod, z4, z6, z7, hb, hw1, hw2, hc2, hs2, hmb, this]
        have hy := hyes (by simp [hc2, hb, hs2, hmb])
        simp -implicitDefEqProofs [s1, s5, s6, s7, s8, b2, hql, hmq, encNod, z4, z6, z7, hb, hw1, hw2, hc2, hs2, hmb, inc_i64 hlt hl, -Int.natCast_add]
        exact ih (l.length - (k + 1)) _ _ (by omega) ⟨k + 1, rfl, by omega, by simp [s2], by simp [s1], by simp, by simp, by simp [b1, z5], hy⟩
end Go.Proofs
