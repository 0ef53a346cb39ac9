/- What the functions that the statement reaches do: their contracts; and what follows of it. -/
import Derived.Test.YtedmjhckiiponaaSUnitsNodes8
import Derived.Test.YtedmjhckiiponaaK4
/- Units of nodes: plain laws of histories that may be. -/
namespace Go.Proofs
open Go Go.RowKit Go.Am

def unitP (x : Ctlg) (d : Int) (m n : Nod) : Bool :=
  if m.back = true ∨ n.back = true then decide (n.saga = m.saga) && decide (n.back = m.back) && decide (n.step = m.step)
  else decide (n.saga = m.saga) && decide ((x.lo m.cls d m.step.toNat : Int) ≤ n.step) && decide (n.step ≤ (x.hi m.cls d m.step.toNat : Int))
def inP (x : Ctlg) (l : List Nod) (d : Int) (i k : Nat) (hi : i < l.length) (hk : k < l.length) : Bool :=
  decide (i = k) || (decide (l[i].saga = l[k].saga) && !l[i].back && !l[k].back && decide (x.unitN l[i].cls d l[i].step.toNat = x.unitN l[i].cls d l[k].step.toNat))

theorem lastN_max (l : List Nod) (s : Int) : ∀ (k r : Nat), lastN l s k = some r → (∃ h : r < l.length, l[r].saga = s) ∧ ∀ p (hp : p < l.length), r < p → p < k → l[p].saga ≠ s
  | 0, r, h => by cases h
  | k + 1, r, h => by
    simp only [lastN] at h
    split at h
    · rename_i hk
      cases h
      rw [Option.map_eq_some_iff] at hk
      obtain ⟨n, hn, hs⟩ := hk
      obtain ⟨h1, h2⟩ := List.getElem?_eq_some_iff.1 hn
      exact ⟨⟨h1, by rw [h2]; exact hs⟩, fun p hp h1 h2 => by omega⟩
    · rename_i hk
      obtain ⟨q1, q2⟩ := lastN_max l s k r h
      refine ⟨q1, fun p hp h1 h2 => ?_⟩
      by_cases e : p = k
      · subst e
        intro hs
        exact hk (by simp [hp, hs])
      · exact q2 p hp h1 (by omega)
theorem lastN_some (l : List Nod) (s : Int) : ∀ (k p : Nat) (hp : p < l.length), p < k → l[p].saga = s → ∃ r, lastN l s k = some r ∧ p ≤ r
  | 0, p, _, h, _ => by omega
  | k + 1, p, hp, h, hs => by
    by_cases e : p = k
    · subst e
      exact ⟨p, by simp [lastN, hp, hs], Nat.le_refl _⟩
    · obtain ⟨r, h1, h2⟩ := lastN_some l s k p hp (by omega) hs
      by_cases hk : l[k]?.map (·.saga) = some s
      · exact ⟨k, by rw [lastN, if_pos hk], by omega⟩
      · exact ⟨r, by rw [lastN, if_neg hk]; exact h1, h2⟩

/-- What nodes of one saga are to one another. -/
theorem nodes_ord {x : Ctlg} {l : List Nod} (hall : ∀ i, i < l.length → nodeAt x l i = true) : ∀ (q p : Nat) (hq : q < l.length) (hp : p < l.length), p < q → l[p].saga = l[q].saga → l[p].cls = l[q].cls ∧ (l[p].back = true → l[q].back = true ∧ l[q].step < l[p].step) := by
  intro q
  induction q using Nat.strongRecOn with
  | ind q ih =>
    intro p hq hp hpq hs
    obtain ⟨r, h1, h2⟩ := lastN_some l l[q].saga q p hp hpq hs
    obtain ⟨⟨hr, hrs⟩, _⟩ := lastN_max l _ q r h1
    have hrq := lastN_lt l _ q r h1
    have ho := own_last l l[q].saga q (by omega)
    rw [h1] at ho
    simp only [Option.bind_some, List.getElem?_eq_getElem hr] at ho
    have hn := hall q hq
    rw [nodeAt_of x hq] at hn
    simp only [nodeOK, nextP, ho, Bool.and_eq_true] at hn
    have ha := hn.2
    simp only [aftP, Bool.and_eq_true, decide_eq_true_eq] at ha
    obtain ⟨a1, a2⟩ := ha
    have key : l[r].back = true → l[q].back = true ∧ l[q].step < l[r].step := fun hb => by
      cases hqb : l[q].back
      · rw [hqb] at a2
        simp [hb] at a2
      · rw [hqb] at a2
        simp [hb] at a2
        exact ⟨rfl, by omega⟩
    by_cases e : p = r
    · subst e
      exact ⟨a1.symm, key⟩
    · obtain ⟨i1, i2⟩ := ih r hrq p hr hp (by omega) (by rw [hrs]; exact hs)
      refine ⟨by rw [i1, a1], fun hb => ?_⟩
      obtain ⟨k1, k2⟩ := i2 hb
      obtain ⟨k3, k4⟩ := key k1
      exact ⟨k3, by omega⟩

theorem in_unit {x : Ctlg} (hs : x.small) {l : List Nod} (hall : ∀ i, i < l.length → nodeAt x l i = true) {d : Int} {i k : Nat} (hi : i < l.length) (hk : k < l.length) : inP x l d i k hi hk = unitP x d l[i] l[k] := by
  have hw := take_within hs l.length (Nat.le_refl _) hall
  rw [List.take_length] at hw
  obtain ⟨u1, u2, u3⟩ := hw _ (List.getElem_mem hi)
  obtain ⟨v1, v2, v3⟩ := hw _ (List.getElem_mem hk)
  have hcls : l[i].saga = l[k].saga → l[i].cls = l[k].cls := fun h => by
    rcases Nat.lt_trichotomy i k with q | q | q
    · exact (nodes_ord hall k i hk hi q h).1
    · subst q; rfl
    · exact (nodes_ord hall i k hi hk q h.symm).1.symm
  have huniq : l[i].saga = l[k].saga → l[i].back = true → l[k].back = true → l[i].step = l[k].step → i = k := fun h b1 b2 hst => by
    rcases Nat.lt_trichotomy i k with q | q | q
    · have := ((nodes_ord hall k i hk hi q h).2 b1).2; omega
    · exact q
    · have := ((nodes_ord hall i k hi hk q h.symm).2 b2).2; omega
  have hcnt : l[i].saga = l[k].saga → (x.unitN l[i].cls d l[k].step.toNat = x.unitN l[i].cls d l[i].step.toNat ↔ (x.lo l[i].cls d l[i].step.toNat : Int) ≤ l[k].step ∧ l[k].step ≤ (x.hi l[i].cls d l[i].step.toNat : Int)) := fun h => by
    rw [Ctlg.unitN_cnt, Ctlg.unitN_cnt]
    have hc := hcls h
    rw [← hc] at v3
    have := cntF_iff (fun j : Nat => x.brkAt l[i].cls d j) (n := x.stepsN l[i].cls.toNat) (i := l[i].step.toNat) (k := l[k].step.toNat) (by omega) (by omega)
    rw [this, Ctlg.lo, Ctlg.hi]
    omega
  rw [Bool.eq_iff_iff]
  simp only [inP, unitP, Bool.or_eq_true, Bool.and_eq_true, decide_eq_true_eq, Bool.not_eq_true']
  by_cases hb : l[i].back = true ∨ l[k].back = true
  · rw [if_pos hb]
    simp only [Bool.and_eq_true, decide_eq_true_eq]
    constructor
    · rintro (h | ⟨⟨⟨_, h1⟩, h2⟩, _⟩)
      · subst h; exact ⟨⟨rfl, rfl⟩, rfl⟩
      · rcases hb with h | h
        · rw [h] at h1; cases h1
        · rw [h] at h2; cases h2
    · rintro ⟨⟨h1, h2⟩, h3⟩
      left
      rcases hb with h | h
      · exact huniq h1.symm h (by rw [h2]; exact h) h3.symm
      · exact huniq h1.symm (by rw [← h2]; exact h) h h3.symm
  · rw [if_neg hb]
    have hb1 : l[i].back = false := by
      cases h : l[i].back
      · rfl
      · exact absurd (.inl h) hb
    have hb2 : l[k].back = false := by
      cases h : l[k].back
      · rfl
      · exact absurd (.inr h) hb
    simp only [Bool.and_eq_true, decide_eq_true_eq, hb1, hb2, and_true]
    constructor
    · rintro (h | ⟨h1, h2⟩)
      · subst h
        have := (hcnt rfl).1 rfl
        exact ⟨⟨rfl, this.1⟩, this.2⟩
      · have := (hcnt h1).1 h2.symm
        exact ⟨⟨h1.symm, this.1⟩, this.2⟩
    · rintro ⟨⟨h1, h2⟩, h3⟩
      right
      exact ⟨h1.symm, ((hcnt h1.symm).2 ⟨h2, h3⟩).symm⟩
end Go.Proofs

/- A node's unit as a test of others; the first node of it. -/
namespace Go.Proofs
open Go Go.RowKit Go.Am

theorem unit1_ok (x : Ctlg) (d : Int) (m n : Nod) {h : H} {a b c : Nat} (ha : a < h.bn) (hb : b < h.bn) (hc : c < h.bn) (ba : h.bx a = some (encNod m)) (bb : h.bx b = some [.int .i64 (x.lo m.cls d m.step.toNat)]) (bc : h.bx c = some [.int .i64 (x.hi m.cls d m.step.toNat)]) :
    SCall Try.prog 127 [.agg (encNod n), .ptr a 0, .ptr b 0, .ptr c 0] h (.bool (unitP x d m n)) h := by
  refine SCall.ro (CallP.run hb127 ok127 (by simp) ?_) (.bool _)
  rw [encNod] at ba
  have za : ¬ a = h.bn := by omega
  have zb : ¬ b = h.bn := by omega
  have zc : ¬ c = h.bn := by omega
  have la : a < h.bn + 1 := by omega
  have lb : b < h.bn + 1 := by omega
  have lc : c < h.bn + 1 := by omega
  by_cases hs : n.saga = m.saga
  · cases h1 : m.back
    · cases h2 : n.back
      · by_cases h3 : (x.lo m.cls d m.step.toNat : Int) ≤ n.step
        · simp -implicitDefEqProofs [ba, bb, bc, za, zb, zc, la, lb, lc, encNod, hs, h1, h2, h3, unitP]
          exact HF.alloc _ _ _ _
        · simp -implicitDefEqProofs [ba, bb, za, zb, la, lb, encNod, hs, h1, h2, h3, unitP]
          exact HF.alloc _ _ _ _
      · simp -implicitDefEqProofs [ba, za, la, encNod, hs, h1, h2, unitP]
        exact HF.alloc _ _ _ _
    · cases h2 : n.back
      · simp -implicitDefEqProofs [ba, za, la, encNod, hs, h1, h2, unitP]
        exact HF.alloc _ _ _ _
      · simp -implicitDefEqProofs [ba, za, la, encNod, hs, h1, h2, unitP]
        exact HF.alloc _ _ _ _
  · cases h1 : m.back
    · cases h2 : n.back
      · simp -implicitDefEqProofs [ba, za, la, encNod, hs, h1, h2, unitP]
        exact HF.alloc _ _ _ _
      · simp -implicitDefEqProofs [ba, za, la, encNod, hs, h1, h2, unitP]
        exact HF.alloc _ _ _ _
    · simp -implicitDefEqProofs [ba, za, la, encNod, hs, h1, unitP]
      exact HF.alloc _ _ _ _

/-- Is there a unit of a node, relative to a class? -/
def unitIs (x : Ctlg) (l : List Nod) (i d : Int) : Bool := histMay x l && decide (0 ≤ i) && decide (i < l.length) && x.inn d

theorem unit_no (x : Ctlg) (hx : x.wf) (l : List Nod) (hl : l.length ≤ 9223372036854775807) (hw : ∀ n ∈ l, n.wf) {i d : Int} (hd : inI d) (hu : unitIs x l i d = false) (h : H) :
    CallP Try.prog 90 [.agg (encCtlg x), .sl .no (l.map encNod), .int .i64 i, .int .i64 d] h fun r h1 => r = .tup [.nilfn, .bool false] ∧ HF h h1 (fun _ => False) (fun _ => False) := by
  refine CallP.run hb90 ok90 (by simp) ?_
  have htk := x.take16 hx.2.1
  have hbl := hx.2.1
  simp -implicitDefEqProofs [encCtlg]
  simp -implicitDefEqProofs [htk, hbl]
  refine callQ_p (histMayP_ok x hx l hl hw) (by simp [encCtlg]) ?_
  cases hm : histMay x l
  · simp -implicitDefEqProofs []
    exact HF.alloc _ _ _ _
  by_cases i0 : i < 0
  · simp -implicitDefEqProofs [i0]
    exact HF.alloc _ _ _ _
  by_cases i1 : (l.length : Int) ≤ i
  · simp -implicitDefEqProofs [i0, i1]
    exact HF.alloc _ _ _ _
  have hn : x.inn d = false := by
    simp only [unitIs, hm, Bool.true_and, Bool.and_eq_false_iff, decide_eq_false_iff_not] at hu
    rcases hu with (h | h) | h
    · omega
    · omega
    · exact h
  simp -implicitDefEqProofs [i0, i1, htk, hbl]
  refine callQ_p (there_ok x hx hd) (by simp [encCtlg]) ?_
  simp -implicitDefEqProofs [hn]
  exact HF.alloc _ _ _ _

theorem unit_yes (x : Ctlg) (hx : x.wf) (l : List Nod) (hl : l.length ≤ 9223372036854775807) (hw : ∀ n ∈ l, n.wf) {i : Nat} {d : Int} (hd : inI d) (hi : i < l.length) (hm : histMay x l = true) (hn : x.inn d = true) (h : H) :
    CallP Try.prog 90 [.agg (encCtlg x), .sl .no (l.map encNod), .int .i64 i, .int .i64 d] h fun r h1 => ∃ a b c, r = .tup [.fn 127 [] [.ptr a 0, .ptr b 0, .ptr c 0], .bool true] ∧ a < h1.bn ∧ b < h1.bn ∧ c < h1.bn ∧ h1.bx a = some (encNod l[i]) ∧ h1.bx b = some [.int .i64 (x.lo l[i].cls d l[i].step.toNat)] ∧ h1.bx c = some [.int .i64 (x.hi l[i].cls d l[i].step.toNat)] ∧ HF h h1 (fun _ => False) (fun _ => False) := by
  refine CallP.run hb90 ok90 (by simp) ?_
  have htk := x.take16 hx.2.1
  have hbl := hx.2.1
  have i1 : ¬ (l.length : Int) ≤ (i : Int) := by omega
  have hcm : catMay x = true := by
    simp only [histMay, Bool.and_eq_true] at hm
    exact hm.1.1
  have hall : ∀ j, j < l.length → nodeAt x l j = true := fun j hj => by
    simp only [histMay, Bool.and_eq_true, List.all_eq_true, List.mem_range] at hm
    exact hm.2 j hj
  obtain ⟨hs, hg⟩ := catMay_small hx hcm
  have hwi := take_within hs l.length (Nat.le_refl _) hall
  rw [List.take_length] at hwi
  obtain ⟨u1, u2, u3⟩ := hwi _ (List.getElem_mem hi)
  have hwn := hw _ (List.getElem_mem hi)
  have hin : x.inb l[i].cls d l[i].step = true := by simp [Ctlg.inb, u1, hn, u2, u3]
  simp -implicitDefEqProofs [encCtlg]
  simp -implicitDefEqProofs [htk, hbl]
  refine callQ_p (histMayP_ok x hx l hl hw) (by simp [encCtlg]) ?_
  have i0 : ¬ (i : Int) < 0 := by omega
  have i1b : ¬ l.length ≤ i := by omega
  simp -implicitDefEqProofs [hm, i0, i1b, htk, hbl]
  refine callQ_p (there_ok x hx hd) (by simp [encCtlg]) ?_
  generalize hnd : l[i] = nd at hwn hin
  have z0 : ¬ h.bn = h.bn + 1 := by omega
  simp -implicitDefEqProofs [hn, hi, hnd, encNod, htk, hbl]
  refine callQ_p (bounds_ok x hg hwn.2.1 hd hwn.2.2.1) (by simp [encCtlg]) ?_
  simp -implicitDefEqProofs [bnd_true x hin]
  refine ⟨h.bn + 1, h.bn + 1 + 1, h.bn + 1 + 1 + 1, ⟨rfl, rfl, rfl⟩, by omega, by omega, by omega, by simp [encNod], by simp, by simp, ?_⟩
  refine ⟨by simp; omega, fun b hb hn => ?_, by simp, by simp, by simp, by simp, by simp, by simp⟩
  simp [show ¬ b = h.bn by omega, show ¬ b = h.bn + 1 by omega, show ¬ b = h.bn + 1 + 1 by omega, show ¬ b = h.bn + 1 + 1 + 1 by omega]

theorem first_no (x : Ctlg) (hx : x.wf) (l : List Nod) (hl : l.length ≤ 9223372036854775807) (hw : ∀ n ∈ l, n.wf) {i d : Int} (hd : inI d) (hu : unitIs x l i d = false) :
    PCall Try.prog 47 [.agg (encCtlg x), .sl .no (l.map encNod), .int .i64 i, .int .i64 d] (.int .i64 (-1)) := by
  refine PCall.run hb47 ok47 (by simp) (pures_cons (.agg (pure_encCtlg x)) (pures_cons (elOK_Nod.pureL l) (pures_cons (.int _ _) (pures1 (.int _ _))))) (.int _ _) ?_
  have htk := x.take16 hx.2.1
  have hbl := hx.2.1
  simp -implicitDefEqProofs [encCtlg, H.nil]
  simp -implicitDefEqProofs [htk, hbl]
  refine callQ_c (unit_no x hx l hl hw hd hu _) (by simp [encCtlg]) fun r h1 ⟨e, _⟩ => ?_
  subst e
  simp -implicitDefEqProofs []
theorem first_yes (x : Ctlg) (hx : x.wf) (l : List Nod) (hl : l.length ≤ 9223372036854775807) (hw : ∀ n ∈ l, n.wf) {i : Nat} {d : Int} (hd : inI d) (hi : i < l.length) (hm : histMay x l = true) (hn : x.inn d = true) :
    PCall Try.prog 47 [.agg (encCtlg x), .sl .no (l.map encNod), .int .i64 i, .int .i64 d] (.int .i64 (idxI (unitP x d l[i]) l)) := by
  refine PCall.run hb47 ok47 (by simp) (pures_cons (.agg (pure_encCtlg x)) (pures_cons (elOK_Nod.pureL l) (pures_cons (.int _ _) (pures1 (.int _ _))))) (.int _ _) ?_
  have htk := x.take16 hx.2.1
  have hbl := hx.2.1
  simp -implicitDefEqProofs [encCtlg, H.nil]
  simp -implicitDefEqProofs [htk, hbl]
  refine callQ_c (unit_yes x hx l hl hw hd hi hm hn _) (by simp [encCtlg]) ?_
  rintro r h1 ⟨a, b, c, rfl, ha, hb, hc, ba, bb, bc, hf⟩
  simp -implicitDefEqProofs []
  refine callQ_s (index_gen hb91 ok91 elOK_Nod l hl (first := []) (caps := [.ptr a 0, .ptr b 0, .ptr c 0]) (p := unitP x d l[i]) rfl rfl (fun n _ => unit1_ok x d l[i] n ha hb hc ba bb bc)) (by simp) ?_
  simp -implicitDefEqProofs []

/-! ### The last node of it -/
theorem back_ok (l : List Nod) (h : H) : SCall Try.prog 92 [.sl .no (l.map encNod)] h (.fn 128 [] [.ptr h.bn 0]) (h.alloc [.sl .no (l.map encNod)]) := by
  refine SCall.newG (fun b => .fn 128 [] [.ptr b 0]) (fun _ _ _ _ _ _ _ h1 h2 => Low.fn1 (Low.ptr h1 h2)) (CallP.run hb92 ok92 (by simp) ?_) (pures1 (elOK_Nod.pureL l))
  simp -implicitDefEqProofs []
  exact ⟨HF.alloc _ _ _ _, WkL.refl _⟩

theorem back1_ok (l : List Nod) (hl : l.length ≤ 9223372036854775807) {L b : Nat} {h : H} (I : Nat → H → Prop) (J : H → Prop) (hI : ∀ k h', I k h' → b < h'.bn ∧ h'.bx b = some [.sl .no (l.map encNod)])
    (hr : ∀ k h' (hk : k < l.length), I (k + 1) h' → ∀ K : AV → H → Prop, (∀ h'', I k h'' → K (.bool true) h'') → (∀ h'', J h'' → K (.bool false) h'') → callQ Try.prog (.yld L) [.int .i64 k, .agg (encNod l[k])] h' K)
    (h0 : I l.length h) : CallP Try.prog 128 [.yld L, .ptr b 0] h fun _ h1 => I 0 h1 ∨ J h1 := by
  refine CallP.run hb128 ok128 (by simp) ?_
  obtain ⟨b1, b2⟩ := hI _ _ h0
  have hw0 : IntKind.i64.wrap ((l.length : Int) - 1) = (l.length : Int) - 1 := wrap_i64 (by omega) (by omega)
  simp -implicitDefEqProofs [b1, b2, hw0]
  refine run_loop (fun m s h1 => ∃ k : Nat, m = k ∧ k ≤ l.length ∧ s 0 = .yld L ∧ s 1 = .ptr b 0 ∧ s 3 = .int .i64 ((k : Int) - 1) ∧ I k h1) ?_ l.length ?_
  rotate_left
  · exact ⟨l.length, rfl, Nat.le_refl _, by simp, by simp, by simp, h0⟩
  rintro m s h1 ⟨k, hm, hk, s0, s1, s3, hi⟩ ih
  cases k with
  | zero =>
    simp -implicitDefEqProofs [s3]
    exact Or.inl hi
  | succ k =>
    have hlt : k < l.length := by omega
    obtain ⟨b1, b2⟩ := hI _ _ hi
    have e : ((k + 1 : Nat) : Int) - 1 = (k : Int) := by omega
    rw [e] at s3
    have hw1 : IntKind.i64.wrap ((k : Int) - 1) = (k : Int) - 1 := wrap_i64 (by omega) (by omega)
    simp -implicitDefEqProofs [s0, s1, s3, b1, b2, hlt]
    refine hr k h1 hlt hi _ (fun h2 h => ?_) (fun h2 h => ?_)
    · simp -implicitDefEqProofs [s3, hw1]
      exact ih k _ _ (by omega) ⟨k, rfl, by omega, by simp [s0], by simp [s1], by simp, h⟩
    · simp -implicitDefEqProofs []
      exact Or.inr h

def lstI {α : Type} (p : α → Bool) (l : List α) : Nat → Int
  | 0 => -1
  | k + 1 => if (l[k]?.map p).getD false = true then k else lstI p l k
end Go.Proofs

/- The last node of a unit. -/
namespace Go.Proofs
open Go Go.RowKit Go.Am

theorem last_no (x : Ctlg) (hx : x.wf) (l : List Nod) (hl : l.length ≤ 9223372036854775807) (hw : ∀ n ∈ l, n.wf) {i d : Int} (hd : inI d) (hu : unitIs x l i d = false) :
    PCall Try.prog 48 [.agg (encCtlg x), .sl .no (l.map encNod), .int .i64 i, .int .i64 d] (.int .i64 (-1)) := by
  refine PCall.run hb48 ok48 (by simp) (pures_cons (.agg (pure_encCtlg x)) (pures_cons (elOK_Nod.pureL l) (pures_cons (.int _ _) (pures1 (.int _ _))))) (.int _ _) ?_
  have htk := x.take16 hx.2.1
  have hbl := hx.2.1
  simp -implicitDefEqProofs [encCtlg, H.nil]
  simp -implicitDefEqProofs [htk, hbl]
  refine callQ_c (unit_no x hx l hl hw hd hu _) (by simp [encCtlg]) fun r h1 ⟨e, hf⟩ => ?_
  subst e
  have b1 : h1.bx 1 = some [.int .i64 0] := by rw [hf.bx 1 (by simp) (fun h => h)]; simp
  have n1 : 1 < h1.bn := Nat.lt_of_lt_of_le (by simp) hf.bn
  simp -implicitDefEqProofs [b1, show ¬ 1 = h1.bn by omega, show 1 < h1.bn + 1 by omega]

theorem last_yes (x : Ctlg) (hx : x.wf) (l : List Nod) (hl : l.length ≤ 9223372036854775807) (hw : ∀ n ∈ l, n.wf) {i : Nat} {d : Int} (hd : inI d) (hi : i < l.length) (hm : histMay x l = true) (hn : x.inn d = true) :
    PCall Try.prog 48 [.agg (encCtlg x), .sl .no (l.map encNod), .int .i64 i, .int .i64 d] (.int .i64 (lstI (unitP x d l[i]) l l.length)) := by
  refine PCall.run hb48 ok48 (by simp) (pures_cons (.agg (pure_encCtlg x)) (pures_cons (elOK_Nod.pureL l) (pures_cons (.int _ _) (pures1 (.int _ _))))) (.int _ _) ?_
  have htk := x.take16 hx.2.1
  have hbl := hx.2.1
  simp -implicitDefEqProofs [encCtlg, H.nil]
  simp -implicitDefEqProofs [htk, hbl]
  refine callQ_c (unit_yes x hx l hl hw hd hi hm hn _) (by simp [encCtlg]) ?_
  rintro r h1 ⟨a, b, c, rfl, ha, hb, hc, ba, bb, bc, hf⟩
  have b1 : h1.bx 1 = some [.int .i64 0] := by rw [hf.bx 1 (by simp) (fun h => h)]; simp
  have n1 : 1 < h1.bn := Nat.lt_of_lt_of_le (by simp) hf.bn
  simp -implicitDefEqProofs []
  refine callQ_s (back_ok l _) (by simp) ?_
  simp -implicitDefEqProofs []
  generalize hS : (su _ 24 _ : Slots) = S
  have s8 : S 8 = .ptr 1 0 := by rw [← hS]; simp
  have s9 : S 9 = .ptr h1.bn 0 := by rw [← hS]; simp
  have s24 : S 24 = .fn 128 [] [.ptr (h1.bn + 1) 0] := by rw [← hS]; simp
  clear hS
  generalize hB : (H.alloc _ _ : H) = h2
  have e0 : h2.bn = h1.bn + 2 := by rw [← hB]; simp
  have e1 : h2.bx 1 = some [.int .i64 0] := by rw [← hB]; simp [show ¬ 1 = h1.bn by omega, b1, show ¬ h1.bn = 0 by omega]
  have e2 : h2.bx h1.bn = some [.fn 127 [] [.ptr a 0, .ptr b 0, .ptr c 0]] := by rw [← hB]; simp
  have e3 : h2.bx (h1.bn + 1) = some [.sl .no (l.map encNod)] := by rw [← hB]; simp
  have eq : ∀ y, y < h1.bn → h2.bx y = h1.bx y := fun y hy => by rw [← hB]; simp [show ¬ y = h1.bn by omega, show ¬ y = h1.bn + 1 by omega]
  rw [← eq a ha] at ba
  rw [← eq b hb] at bb
  rw [← eq c hc] at bc
  clear hB eq
  generalize hp : unitP x d l[i] = p
  have hcall : ∀ (n : Nod) (h' : H), h2.bn ≤ h'.bn → (∀ y, y < h2.bn → h'.bx y = h2.bx y) → SCall Try.prog 127 [.agg (encNod n), .ptr a 0, .ptr b 0, .ptr c 0] h' (.bool (p n)) h' := fun n h' q1 q2 => by
    rw [← hp]
    exact unit1_ok x d l[i] n (by omega) (by omega) (by omega) (by rw [q2 a (by omega)]; exact ba) (by rw [q2 b (by omega)]; exact bb) (by rw [q2 c (by omega)]; exact bc)
  let q0 : LoopA := ⟨S, [25, 26], c48_x10, c48_y11, .ready, none⟩
  let qE : LoopA := ⟨S, [25, 26], c48_x10, c48_y11, .done, some .ret⟩
  let I : Nat → H → Prop := fun k h' => h2.ln < h'.ln ∧ h'.lp h2.ln = some q0 ∧ h2.bn ≤ h'.bn ∧ (∀ y, y < h2.bn → h'.bx y = h2.bx y) ∧ lstI p l l.length = lstI p l k
  let J : H → Prop := fun h' => h2.ln < h'.ln ∧ h'.lp h2.ln = some qE ∧ 1 < h'.bn ∧ h'.bx 1 = some [.int .i64 (lstI p l l.length)]
  refine .rngf (Z := fun _ h' => I 0 h' ∨ J h') (F := 128) (first := []) (caps := [.ptr (h1.bn + 1) 0]) rfl (by simpa using s24) (back1_ok l hl I J (fun k h' ⟨_, _, q1, q2, _⟩ => ⟨by omega, by rw [q2 _ (by omega)]; exact e3⟩) ?_ ?_) ?_ ?_
  · rintro k h' hk ⟨j1, j2, j3, j4, j5⟩ K hK1 hK2
    have f2 : h'.bx h1.bn = some [.fn 127 [] [.ptr a 0, .ptr b 0, .ptr c 0]] := by rw [j4 _ (by omega)]; exact e2
    have f1 : h'.bx 1 = some [.int .i64 0] := by rw [j4 _ (by omega)]; exact e1
    have z1 : ¬ h1.bn = h'.bn := by omega
    have z2 : h1.bn < h'.bn + 1 := by omega
    have z3 : ¬ 1 = h'.bn := by omega
    have z4 : 1 < h'.bn + 1 := by omega
    have z5 : ¬ h'.bn = 0 := by omega
    refine callQ_y (q := q0) j1 j2 rfl ?_
    simp -implicitDefEqProofs [slotsP, j1, j2, q0, s9, f2, z1, z2, encNod]
    refine callQ_s (hcall l[k] _ (by simp; omega) (fun y hy => ?_)) (by simp [encNod]) ?_
    · simp [show ¬ y = h'.bn by omega]; exact j4 y hy
    have hst : lstI p l (k + 1) = if p l[k] = true then (k : Int) else lstI p l k := by simp [lstI, hk]
    cases hpk : p l[k]
    · rw [hpk] at hst
      simp -implicitDefEqProofs [roundQ, j1]
      refine hK1 _ ⟨by simpa using j1, by simp [q0], by simp; omega, fun y hy => ?_, by rw [j5, hst]; simp⟩
      simp [show ¬ y = h'.bn by omega]; exact j4 y hy
    · rw [hpk] at hst
      simp -implicitDefEqProofs [roundQ, j1, s8, f1, z3, z4]
      refine hK2 _ ⟨by simpa using j1, by simp [qE], by simp; omega, ?_⟩
      rw [j5, hst]
      simp
  · exact ⟨by simp, by simp [q0], by simp, fun y _ => by simp, rfl⟩
  · rintro v h3 (⟨j1, j2, _⟩ | ⟨j1, j2, _⟩)
    · exact ⟨j1, _, j2, by simp [q0]⟩
    · exact ⟨j1, _, j2, by simp [qE]⟩
  · rintro v h3 q (⟨j1, j2, j3, j4, j5⟩ | ⟨j1, j2, j3, j4⟩) hq
    · rw [j2] at hq
      cases hq
      have f1 : h3.bx 1 = some [.int .i64 0] := by rw [j4 _ (by omega)]; exact e1
      simp -implicitDefEqProofs [pendK, q0, s8, f1, show 1 < h3.bn by omega, j5, lstI]
    · rw [j2] at hq
      cases hq
      simp -implicitDefEqProofs [pendK, qE, s8, j3, j4]
end Go.Proofs

/- Is a node in the unit of another one: the document's answer. -/
namespace Go.Proofs
open Go Go.RowKit Go.Am

set_option maxRecDepth 4000 in
theorem refIn_ok (x : Ctlg) (hx : x.wf) (l : List Nod) (hl : l.length ≤ 9223372036854775807) (hw : ∀ n ∈ l, n.wf) {i k : Nat} {d : Int} (hd : inI d) (hi : i < l.length) (hk : k < l.length) (hm : histMay x l = true) :
    PCall Try.prog 46 [.agg (encCtlg x), .sl .no (l.map encNod), .int .i64 i, .int .i64 k, .int .i64 d] (.bool (inP x l d i k hi hk)) := by
  refine PCall.run hb46 ok46 (by simp) (pures_cons (.agg (pure_encCtlg x)) (pures_cons (elOK_Nod.pureL l) (pures_cons (.int _ _) (pures_cons (.int _ _) (pures1 (.int _ _)))))) (.bool _) ?_
  have htk := x.take16 hx.2.1
  have hbl := hx.2.1
  have hcm : catMay x = true := by
    simp only [histMay, Bool.and_eq_true] at hm
    exact hm.1.1
  have hall : ∀ j, j < l.length → nodeAt x l j = true := fun j hj => by
    simp only [histMay, Bool.and_eq_true, List.all_eq_true, List.mem_range] at hm
    exact hm.2 j hj
  obtain ⟨hs, hg⟩ := catMay_small hx hcm
  have hwi := take_within hs l.length (Nat.le_refl _) hall
  rw [List.take_length] at hwi
  obtain ⟨u1, u2, u3⟩ := hwi _ (List.getElem_mem hi)
  obtain ⟨v1, v2, v3⟩ := hwi _ (List.getElem_mem hk)
  have w1 := (hw _ (List.getElem_mem hi)).2.1
  have u4 := small4 hs l[i].cls.toNat
  have v4 := small4 hs l[k].cls.toNat
  simp -implicitDefEqProofs [encCtlg, H.nil]
  refine run_two (fun j => 13 + j) (fun j => match j with | 1 => .int .i64 i | 2 => .rop (encNod l[i]) | 3 => .agg (encNod l[i]) | 5 => .int .i64 k | 6 => .rop (encNod l[k]) | 7 => .agg (encNod l[k]) | _ => .sl .no (l.map encNod)) 8 10 11 9 11 12 6
    (zA := [.int .i64 0, .int .i64 0, .int .i64 0, .bool false, .sl .full [], .sl .full []]) (cA := encNod l[i]) (zB := [.int .i64 0, .int .i64 0, .int .i64 0, .bool false, .sl .full [], .sl .full []]) (cB := encNod l[k]) (xA := .t 16) (xB := .t 20) rfl rfl rfl rfl (by decide) (by decide) (by decide) (by decide) (fun a b _ _ _ _ h => by omega) ?_ rfl rfl ?_ ?_ ?_ ?_
  · intro j hj hjn
    have : j < 12 := hj
    simp at hjn
    omega
  · intro a b done s1 h1 haft tw
    have h3 : s1 16 = _ := tw.li 3 (haft 3 (by decide)) (by decide) (by decide) (by decide) (by decide)
    show fit 6 (s1 16) = _
    rw [h3]
    simp [fit, encNod]
  · intro a b done s1 h1 haft tw
    have h3 : s1 20 = _ := tw.li 7 (haft 7 (by decide)) (by decide) (by decide) (by decide) (by decide)
    show fit 6 (s1 20) = _
    rw [h3]
    simp [fit, encNod]
  · intro j y a b done s1 h1 hy hni haft tw
    have t1 : s1 1 = .sl .no (l.map encNod) := by rw [tw.un 1 (by decide) (by decide) (fun i _ _ _ _ _ => by omega)]; simp
    have t2 : s1 2 = .int .i64 i := by rw [tw.un 2 (by decide) (by decide) (fun i _ _ _ _ _ => by omega)]; simp
    have t3 : s1 3 = .int .i64 k := by rw [tw.un 3 (by decide) (by decide) (fun i _ _ _ _ _ => by omega)]; simp
    have hj : j < 12 := (List.getElem?_eq_some_iff.1 hy).1
    have h8 : j = 0 ∨ j = 1 ∨ j = 2 ∨ j = 3 ∨ j = 4 ∨ j = 5 ∨ j = 6 ∨ j = 7 := by simp at hni; omega
    rcases h8 with rfl | rfl | rfl | rfl | rfl | rfl | rfl | rfl
    · cases hy
      exact ⟨rfl, rfl, .pure _ _ (by simp [t1])⟩
    · cases hy
      exact ⟨rfl, rfl, .pure _ _ (by simp [t2])⟩
    · cases hy
      have e1 : s1 13 = _ := tw.li 0 (haft 0 (by decide)) (by decide) (by decide) (by decide) (by decide)
      have e2 : s1 14 = _ := tw.li 1 (haft 1 (by decide)) (by decide) (by decide) (by decide) (by decide)
      exact ⟨rfl, rfl, .pure _ _ (by simp [e1, e2, hi, encNod])⟩
    · cases hy
      have e1 : s1 15 = _ := tw.li 2 (haft 2 (by decide)) (by decide) (by decide) (by decide) (by decide)
      exact ⟨rfl, rfl, .pure _ _ (by simp [e1, encNod])⟩
    · cases hy
      exact ⟨rfl, rfl, .pure _ _ (by simp [t1])⟩
    · cases hy
      exact ⟨rfl, rfl, .pure _ _ (by simp [t3])⟩
    · cases hy
      have e1 : s1 17 = _ := tw.li 4 (haft 4 (by decide)) (by decide) (by decide) (by decide) (by decide)
      have e2 : s1 18 = _ := tw.li 5 (haft 5 (by decide)) (by decide) (by decide) (by decide) (by decide)
      exact ⟨rfl, rfl, .pure _ _ (by simp [e1, e2, hk, encNod])⟩
    · cases hy
      have e1 : s1 19 = _ := tw.li 6 (haft 6 (by decide)) (by decide) (by decide) (by decide) (by decide)
      exact ⟨rfl, rfl, .pure _ _ (by simp [e1, encNod])⟩
  · intro a b s1 h1 hab sa sb ha hb ha0 hb0 hba hbb hf hs1
    have keep : ∀ y, y < 11 → s1 y = _ := fun y hy => hs1 y (by omega) (by omega) (fun i _ _ => by omega)
    have t2 : s1 2 = .int .i64 i := by rw [keep 2 (by decide)]; simp
    have t3 : s1 3 = .int .i64 k := by rw [keep 3 (by decide)]; simp
    have t4 : s1 4 = .int .i64 d := by rw [keep 4 (by decide)]; simp
    have t5 : s1 5 = .ptr 0 0 := by rw [keep 5 (by decide)]; simp
    have n0 : 0 < h1.bn := Nat.lt_of_lt_of_le (by simp) hf.bn
    have b0 : h1.bx 0 = some (.sl .no (x.classes.map encCls) :: x.breaks.map (AV.int .i64)) := by rw [hf.bx 0 (by simp) (fun h => h)]; simp
    clear hs1 keep hf
    rw [encNod] at hba hbb
    by_cases hik : i = k
    · simp -implicitDefEqProofs [t2, t3, hik, inP]
    simp -implicitDefEqProofs [t2, t3, hik]
    refine run_dregL c46_d5 rfl ?_
    by_cases hsg : l[i].saga = l[k].saga
    rotate_left
    · simp -implicitDefEqProofs [sa, sb, ha, hb, hba, hbb, hsg, inP, hik]
    cases h1b : l[i].back
    rotate_left
    · simp -implicitDefEqProofs [sa, sb, ha, hb, hba, hbb, hsg, h1b, inP, hik]
    cases h2b : l[k].back
    rotate_left
    · simp -implicitDefEqProofs [sa, sb, ha, hb, hba, hbb, hsg, h1b, h2b, inP, hik]
    obtain ⟨p, hp⟩ := Int.eq_ofNat_of_zero_le u2
    obtain ⟨q, hq⟩ := Int.eq_ofNat_of_zero_le v2
    rw [hp] at hba
    rw [hq] at hbb
    simp -implicitDefEqProofs [sa, sb, ha, hb, hba, hbb, hsg, h1b, h2b, t4, t5, n0, b0, htk, hbl]
    refine callC_p (refUnit_ok x hx hg.nn w1 hd (i := p) (by omega)) (by simp [encCtlg]) ?_
    simp -implicitDefEqProofs [sa, sb, ha, hb, hba, hbb, hsg, h1b, h2b, t4, t5, n0, b0, htk, hbl]
    refine callC_p (refUnit_ok x hx hg.nn w1 hd (i := q) (by omega)) (by simp [encCtlg]) ?_
    simp -implicitDefEqProofs [inP, hik, hsg, h1b, h2b, hp, hq]
end Go.Proofs

/- The law of histories that may be. -/
namespace Go.Proofs
open Go Go.RowKit Go.Am

theorem unitsMay_ok (x : Ctlg) (l : List Nod) (hx : x.wf) (hl : l.length ≤ 9223372036854775807 ∧ ∀ n ∈ l, n.wf) : PCall Try.prog 8 [.agg (encCtlg x), .sl .no (l.map encNod)] (.bool true) := by
  refine PCall.run hb8 ok8 (by simp) (pures_cons (.agg (pure_encCtlg x)) (pures1 (elOK_Nod.pureL l))) (.bool _) ?_
  obtain ⟨hl, hw⟩ := hl
  have htk := x.take16 hx.2.1
  have hbl := hx.2.1
  simp -implicitDefEqProofs [encCtlg, H.nil]
  refine callQ_p alive14_ok (by simp) ?_
  simp -implicitDefEqProofs []
  refine run_dregL c8_d4 rfl ?_
  simp -implicitDefEqProofs [htk, hbl]
  refine callC_p (great14_ok x hx l hl) (by simp [encCtlg]) ?_
  cases hg : bigH x l
  rotate_left
  · simp -implicitDefEqProofs []
  simp -implicitDefEqProofs [htk, hbl]
  refine callC_p (histMayP_ok x hx l hl hw) (by simp [encCtlg]) ?_
  simp -implicitDefEqProofs [htk, hbl]
  refine callC_p (refHistMay_ok x hx l hl hw) (by simp [encCtlg]) ?_
  simp -implicitDefEqProofs []
end Go.Proofs

/- The law of the first and the last node of a unit. -/
namespace Go.Proofs
open Go Go.RowKit Go.Am

theorem idxI_none {α : Type} {p : α → Bool} {l : List α} (h : ∀ i (hi : i < l.length), p l[i] = false) : idxI p l = -1 := by
  have hf : l.findIdx? p = none := by
    rw [List.findIdx?_eq_none_iff]
    intro x hx
    obtain ⟨i, hi, rfl⟩ := List.mem_iff_getElem.1 hx
    exact h i hi
  simp [idxI, hf]
theorem idxI_some {α : Type} {p : α → Bool} {l : List α} {j : Nat} (hj : j < l.length) (hp : p l[j] = true) (hall : ∀ i (hi : i < j), p l[i] = false) : idxI p l = j := by
  simp [idxI, findIdx_at hj hp hall]

set_option maxRecDepth 4000 in
theorem unitsNodes_ok (x : Ctlg) (l : List Nod) (i d : Int) (hx : x.wf) (hl : l.length ≤ 9223372036854775807 ∧ ∀ n ∈ l, n.wf) (hi : inI i) (hd : inI d) : PCall Try.prog 12 [.agg (encCtlg x), .sl .no (l.map encNod), .int .i64 i, .int .i64 d] (.bool true) := by
  refine PCall.run hb12 ok12 (by simp) (pures_cons (.agg (pure_encCtlg x)) (pures_cons (elOK_Nod.pureL l) (pures_cons (.int _ _) (pures1 (.int _ _))))) (.bool _) ?_
  obtain ⟨hl, hw⟩ := hl
  have htk := x.take16 hx.2.1
  have hbl := hx.2.1
  simp -implicitDefEqProofs [encCtlg, H.nil]
  refine callQ_p alive14_ok (by simp) ?_
  simp -implicitDefEqProofs [htk, hbl]
  refine callQ_p (great14_ok x hx l hl) (by simp [encCtlg]) ?_
  cases hg : bigH x l
  rotate_left
  · simp -implicitDefEqProofs []
  simp -implicitDefEqProofs [htk, hbl]
  refine callQ_p (refHistMay_ok x hx l hl hw) (by simp [encCtlg]) ?_
  have hfno := first_no x hx l hl hw (i := i) (d := d) hd
  have hlno := last_no x hx l hl hw (i := i) (d := d) hd
  cases hm : histMay x l
  · have hu : unitIs x l i d = false := by simp [unitIs, hm]
    simp -implicitDefEqProofs [htk, hbl]
    refine callQ_p (hfno hu) (by simp [encCtlg]) ?_
    simp -implicitDefEqProofs [htk, hbl]
    refine callQ_p (hlno hu) (by simp [encCtlg]) ?_
    simp -implicitDefEqProofs []
  by_cases i0 : 0 ≤ i
  rotate_left
  · have hu : unitIs x l i d = false := by simp [unitIs, i0]
    simp -implicitDefEqProofs [i0, htk, hbl]
    refine callQ_p (hfno hu) (by simp [encCtlg]) ?_
    simp -implicitDefEqProofs [htk, hbl]
    refine callQ_p (hlno hu) (by simp [encCtlg]) ?_
    simp -implicitDefEqProofs []
  by_cases i1 : i < (l.length : Int)
  rotate_left
  · have hu : unitIs x l i d = false := by simp [unitIs, i1]
    simp -implicitDefEqProofs [i0, i1, htk, hbl]
    refine callQ_p (hfno hu) (by simp [encCtlg]) ?_
    simp -implicitDefEqProofs [htk, hbl]
    refine callQ_p (hlno hu) (by simp [encCtlg]) ?_
    simp -implicitDefEqProofs []
  have hcm : catMay x = true := by
    simp only [histMay, Bool.and_eq_true] at hm
    exact hm.1.1
  have hall : ∀ j, j < l.length → nodeAt x l j = true := fun j hj => by
    simp only [histMay, Bool.and_eq_true, List.all_eq_true, List.mem_range] at hm
    exact hm.2 j hj
  have hlen : l.length ≤ 100 := by
    simp only [histMay, Bool.and_eq_true, decide_eq_true_eq] at hm
    exact hm.1.2
  obtain ⟨hs, hgd⟩ := catMay_small hx hcm
  have n4 := hs.2.1
  have hinn : (decide (0 ≤ d) && decide (d < (x.classes.length : Int))) = x.inn d := by
    rw [Ctlg.inn, Bool.eq_iff_iff]
    simp
    omega
  simp -implicitDefEqProofs [i0, i1, htk, hbl]
  refine callQ_p (refThere_ok x hx hd) (by simp [encCtlg]) ?_
  rw [hinn]
  cases hn : x.inn d
  · have hu : unitIs x l i d = false := by simp [unitIs, hn]
    simp -implicitDefEqProofs [htk, hbl]
    refine callQ_p (hfno hu) (by simp [encCtlg]) ?_
    simp -implicitDefEqProofs [htk, hbl]
    refine callQ_p (hlno hu) (by simp [encCtlg]) ?_
    simp -implicitDefEqProofs []
  obtain ⟨i, rfl⟩ := Int.eq_ofNat_of_zero_le i0
  have i2 : i < l.length := by omega
  generalize hp : unitP x d l[i] = p
  have hin : ∀ k (hk : k < l.length), inP x l d i k i2 hk = p l[k] := fun k hk => by rw [← hp]; exact in_unit hs hall i2 hk
  simp -implicitDefEqProofs []
  refine run_loop (fun n s h => ∃ k : Nat, n = l.length - k ∧ k ≤ l.length ∧ s 4 = .ptr 0 0 ∧ s 1 = .sl .no (l.map encNod) ∧ s 2 = .int .i64 i ∧ s 3 = .int .i64 d ∧ 0 < h.bn ∧ h.bx 0 = some (.sl .no (x.classes.map encCls) :: x.breaks.map (AV.int .i64)) ∧ s 10 = .int .i64 (lstI p l k) ∧ s 11 = .int .i64 k ∧
    ((s 9 = .int .i64 (-1) ∧ ∀ j (hj : j < l.length), j < k → p l[j] = false) ∨ ∃ (f : Nat) (hf : f < l.length), s 9 = .int .i64 f ∧ p l[f] = true ∧ ∀ j (hj : j < f), p l[j] = false)) ?_ l.length ?_
  rotate_left
  · exact ⟨0, by simp [lstI]⟩
  rintro n s h ⟨k, hn', hk, s4, s1, s2, s3, b0, b1, s10, s11, hfst⟩ ih
  by_cases hlk : k < l.length
  · have hst : lstI p l (k + 1) = if p l[k] = true then (k : Int) else lstI p l k := by simp [lstI, hlk]
    simp -implicitDefEqProofs [s1, s2, s3, s4, s11, hlk, b0, b1, htk, hbl]
    refine callQ_p (refIn_ok x hx l hl hw (i := i) (k := k) hd i2 hlk hm) (by simp [encCtlg]) ?_
    rw [hin k hlk]
    cases hpk : p l[k]
    · rw [hpk] at hst
      simp -implicitDefEqProofs [s11, inc_i64 hlk (by omega), -Int.natCast_add]
      refine ih (l.length - (k + 1)) _ _ (by omega) ⟨k + 1, rfl, by omega, by simp [s4], by simp [s1], by simp [s2], by simp [s3], by simpa using b0, by simp [b1], by rw [hst]; simp [s10], by simp, ?_⟩
      rcases hfst with ⟨q1, q2⟩ | ⟨f, hf, q1, q2, q3⟩
      · exact Or.inl ⟨by simp [q1], fun j hj hjk => by
          by_cases e : j = k
          · subst e; exact hpk
          · exact q2 j hj (by omega)⟩
      · exact Or.inr ⟨f, hf, by simp [q1], q2, q3⟩
    · rw [hpk] at hst
      rcases hfst with ⟨q1, q2⟩ | ⟨f, hf, q1, q2, q3⟩
      · simp -implicitDefEqProofs [s11, q1, inc_i64 hlk (by omega), -Int.natCast_add]
        exact ih (l.length - (k + 1)) _ _ (by omega) ⟨k + 1, rfl, by omega, by simp [s4], by simp [s1], by simp [s2], by simp [s3], by simpa using b0, by simp [b1], by rw [hst]; simp, by simp, Or.inr ⟨k, hlk, by simp, hpk, fun j hj => q2 j (by omega) hj⟩⟩
      · simp -implicitDefEqProofs [s11, q1, show ¬ (f : Int) < 0 by omega, inc_i64 hlk (by omega), -Int.natCast_add]
        exact ih (l.length - (k + 1)) _ _ (by omega) ⟨k + 1, rfl, by omega, by simp [s4], by simp [s1], by simp [s2], by simp [s3], by simpa using b0, by simp [b1], by rw [hst]; simp, by simp, Or.inr ⟨f, hf, by simp [q1], q2, q3⟩⟩
  · obtain rfl : k = l.length := by omega
    have hidx : s 9 = .int .i64 (idxI p l) := by
      rcases hfst with ⟨q1, q2⟩ | ⟨f, hf, q1, q2, q3⟩
      · rw [idxI_none fun i hi => q2 i hi hi]; exact q1
      · rw [idxI_some hf q2 q3]; exact q1
    have hfy := first_yes x hx l hl hw hd i2 hm hn
    have hly := last_yes x hx l hl hw hd i2 hm hn
    rw [hp] at hfy hly
    simp -implicitDefEqProofs [s1, s2, s3, s4, s11, b0, b1, htk, hbl]
    refine callQ_p hfy (by simp [encCtlg]) ?_
    simp -implicitDefEqProofs [hidx, s1, s2, s3, s4, b0, b1, htk, hbl]
    refine callQ_p hly (by simp [encCtlg]) ?_
    simp -implicitDefEqProofs [s10]
end Go.Proofs
