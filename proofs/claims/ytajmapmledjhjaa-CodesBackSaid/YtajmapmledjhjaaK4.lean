/- The abstract machine of this work: values, its soundness against the machine of the model, forward runs; part of the proof of the claim, it holds of every program. -/
import Derived.Test.YtajmapmledjhjaaK3
/- Functions of Go's library, at any type: slices.Equal, IndexFunc, ContainsFunc, EqualFunc. -/
namespace Go.Am
open Go Go.RowKit

@[simp] theorem lt_a2 (n : Nat) : n < n + 1 + 1 := by omega
@[simp] theorem lt_a3 (n : Nat) : n < n + 1 + 1 + 1 := by omega
@[simp] theorem lt_a4 (n : Nat) : n < n + 1 + 1 + 1 + 1 := by omega
@[simp] theorem ne_a2 (n : Nat) : ¬ n = n + 1 + 1 := by omega
@[simp] theorem ne_a3 (n : Nat) : ¬ n = n + 1 + 1 + 1 := by omega
@[simp] theorem ne_b2 (n : Nat) : ¬ n + 1 + 1 = n := by omega
@[simp] theorem ne_b3 (n : Nat) : ¬ n + 1 + 1 + 1 = n := by omega
theorem bnd_nat {k : IntKind} {n m d : Nat} (h : n ≤ m) : bndOf (some (.int k (n : Int))) m d = some n := by
  simp only [bndOf]
  rw [if_pos (by omega)]
  simp
theorem bnd_none {m d : Nat} : bndOf none m d = some d := rfl
theorem inc_i64 {j n : Nat} (h : j < n) (hn : n ≤ 9223372036854775807) : IntKind.i64.wrap ((j : Int) + 1) = ((j + 1 : Nat) : Int) := by
  rw [wrap_i64 (by omega) (by omega)]; omega

/-- An element as a value. -/
def elV (ag : Bool) (cs : List AV) : AV :=
  if ag then .agg cs else match cs with
    | [v] => v
    | _ => .undef
/-- Elements of this many cells. -/
structure ElOK {α : Type} (enc : α → List AV) (n : Nat) (ag : Bool) : Prop where
  len : ∀ x, (enc x).length = n
  one : ag = false → n = 1
  pure : ∀ x, ∀ v ∈ enc x, PureV v
  wk : ∀ x, (enc x).map wk = enc x
theorem ElOK.un {α : Type} {enc : α → List AV} {n : Nat} {ag : Bool} (h : ElOK enc n ag) (x : α) : unCells ag ((enc x).take n) = some (elV ag (enc x)) := by
  have e : (enc x).take n = enc x := List.take_of_length_le (by rw [h.len]; exact Nat.le_refl _)
  rw [e]
  cases ag with
  | true => rfl
  | false =>
    have hl := h.len x
    rw [h.one rfl] at hl
    obtain ⟨v, hv⟩ := List.length_eq_one_iff.1 hl
    simp [unCells, elV, hv]
theorem ElOK.pureL {α : Type} {enc : α → List AV} {n : Nat} {ag : Bool} (h : ElOK enc n ag) (l : List α) : PureV (.sl .no (l.map enc)) := .sl (fun i h => by cases h) fun e he v hv => by
  obtain ⟨x, _, rfl⟩ := List.mem_map.1 he
  exact h.pure x v hv
theorem ElOK.wkL {α : Type} {enc : α → List AV} {n : Nat} {ag : Bool} (h : ElOK enc n ag) (l : List α) : Am.wk (.sl .no (l.map enc)) = .sl .no (l.map enc) := by
  simp only [Am.wk, wkLL_map, List.map_map]
  congr 1
  exact List.map_congr_left fun x _ => h.wk x
theorem ElOK.wkV {α : Type} {enc : α → List AV} {n : Nat} {ag : Bool} (h : ElOK enc n ag) (x : α) : Am.wk (elV ag (enc x)) = elV ag (enc x) := by
  cases ag with
  | true => simp only [elV, if_true, Am.wk, wkL_map, h.wk]
  | false =>
    have hl := h.len x
    rw [h.one rfl] at hl
    obtain ⟨v, hv⟩ := List.length_eq_one_iff.1 hl
    have := h.wk x
    rw [hv] at this
    simp at this
    simp [elV, hv, this]

section
variable {P : Program}

/-- An element out of a slice, at a place. -/
theorem iaddr_el {α : Type} {enc : α → List AV} {n : Nat} {ag : Bool} (h : ElOK enc n ag) {l : List α} {j : Nat} (hj : j < l.length) {t : Tok} {k : IntKind} {e : Opd → AV} {x i : Opd} (hx : e x = .sl t (l.map enc)) (hi : e i = .int k (j : Int)) {hh : H} :
    pv (.iaddr n x i) e hh = some (.rop (enc l[j])) := by
  have hi' : idxOf (.int k (j : Int)) l.length = some j := idxOf_nat hj
  simp only [pv, hx, hi, List.length_map, hi', Option.bind_some, List.getElem?_map, List.getElem?_eq_getElem hj, Option.map_some, h.len, if_true]
theorem load_el {α : Type} {enc : α → List AV} {n : Nat} {ag : Bool} (h : ElOK enc n ag) {x : α} {e : Opd → AV} {o : Opd} (hx : e o = .rop (enc x)) {hh : H} : pv (.load n ag o) e hh = some (elV ag (enc x)) := by
  simp only [pv, hx, h.len, Nat.le_refl, if_true, h.un]

def equalR (n : Nat) (ag : Bool) (op : IOp) : List Ins := [⟨some 16, none, .mov (.t 0)⟩, ⟨some 17, none, .mov (.t 5)⟩, ⟨some 18, none, .iaddr n (.t 16) (.t 17)⟩, ⟨some 19, none, .load n ag (.t 18)⟩,
  ⟨some 20, none, .mov (.t 1)⟩, ⟨some 21, none, .mov (.t 5)⟩, ⟨some 22, none, .iaddr n (.t 20) (.t 21)⟩, ⟨some 23, none, .load n ag (.t 22)⟩, ⟨some 24, none, op⟩]
def equalA : List (List Nat) := [[], [], [0, 1], [2], [], [], [4, 5], [6], [3, 7]]
def equalM : List Am.Mark := List.replicate 9 ⟨false, 0, 0⟩
def equalL (n : Nat) (ag : Bool) (op : IOp) : IR := .seq (.reg [⟨some 14, none, .bin .lss (.t 13) (.t 12)⟩]) (.seq (.cond (.t 14) (.skip) (.exit 0))
  (.seq (.blk 1 (.seq (.reg [⟨some 15, none, .mov (.t 13)⟩, ⟨some 5, none, .mov (.t 15)⟩]) (.seq (.dreg (equalR n ag op) equalA) (.cond (.t 24) (.seq (.reg [⟨some 4, none, .mov (.c (.bool false))⟩]) (.ret)) (.skip)))))
    (.reg [⟨some 25, none, .bin .add (.t 13) (.c (.int .i64 1))⟩, ⟨some 13, none, .mov (.t 25)⟩])))
/-- slices.Equal -/
def equalF (n : Nat) (ag : Bool) (op : IOp) : FnA := ⟨26, .seq (.reg [⟨some 4, none, .mov (.c (.bool false))⟩])
  (.seq (.seq (.reg [⟨some 6, none, .mov (.t 0)⟩, ⟨some 7, none, .len (.t 6)⟩, ⟨some 8, none, .mov (.t 1)⟩, ⟨some 9, none, .len (.t 8)⟩, ⟨some 10, none, .bin .neq (.t 7) (.t 9)⟩])
      (.cond (.t 10) (.seq (.reg [⟨some 4, none, .mov (.c (.bool false))⟩]) (.ret)) (.skip)))
    (.seq (.seq (.reg [⟨some 11, none, .mov (.t 0)⟩, ⟨some 12, none, .len (.t 11)⟩, ⟨some 13, none, .mov (.c (.int .i64 0))⟩]) (.blk 0 (.loop (equalL n ag op)))) (.seq (.reg [⟨some 4, none, .mov (.c (.bool true))⟩]) (.ret)))), [.t 4]⟩

/-- A comparison of two elements. -/
def NeOp {α : Type} [DecidableEq α] (enc : α → List AV) (ag : Bool) (op : IOp) : Prop := ∀ (P : Program) (s : Slots) (h0 : H) (obl : List Obl) (K : AV → List Obl → Prop) (x y : α), s 19 = elV ag (enc x) → s 23 = elV ag (enc y) → K (.bool (!decide (x = y))) obl → wpL P op s h0 [] 0 0 obl K

theorem equal_gen {f : FuncId} {n : Nat} {ag : Bool} {op : IOp} {α : Type} [DecidableEq α] {enc : α → List AV} (hb : HasBody P f) (hf : cFn P f = some (equalF n ag op)) (he : ElOK enc n ag) (hop : NeOp enc ag op) (hd : drawFine (equalR n ag op) equalA equalM = true)
    (a b : List α) (ha : a.length ≤ 9223372036854775807) (hbl : b.length ≤ 9223372036854775807) : PCall P f [.sl .no (a.map enc), .sl .no (b.map enc)] (.bool (decide (a = b))) := by
  refine PCall.run hb hf (by simp [equalF]) (fun v hv => by
    rcases List.mem_cons.1 hv with rfl | hv
    · exact he.pureL a
    · rw [List.mem_singleton.1 hv]; exact he.pureL b) (.bool _) ?_
  simp -implicitDefEqProofs [equalF]
  by_cases hl : a.length = b.length
  · simp -implicitDefEqProofs [hl]
    refine run_loop (fun n s h => ∃ j : Nat, n = a.length - j ∧ j ≤ a.length ∧ s 0 = .sl .no (a.map enc) ∧ s 1 = .sl .no (b.map enc) ∧ s 12 = .int .i64 a.length ∧ s 13 = .int .i64 j ∧ ∀ i, i < j → a[i]? = b[i]?) ?_ a.length ?_
    · rintro m s h ⟨j, hn, hj, h0, h1, h12, h13, hall⟩ ih
      simp -implicitDefEqProofs [equalL, h12, h13]
      by_cases hlt : j < a.length
      · simp -implicitDefEqProofs [hlt, h13]
        refine run_dreg hd ?_
        have hjb : j < b.length := by omega
        have l1 : ∀ (e : Opd → AV) (x : Opd) (hh : H), e x = .rop (enc a[j]) → pv (.load n ag x) e hh = some (elV ag (enc a[j])) := fun e x hh hx => load_el he hx
        have l2 : ∀ (e : Opd → AV) (x : Opd) (hh : H), e x = .rop (enc b[j]) → pv (.load n ag x) e hh = some (elV ag (enc b[j])) := fun e x hh hx => load_el he hx
        have i1 := idxOf_nat (k := .i64) hlt
        have i2 := idxOf_nat (k := .i64) hjb
        simp -implicitDefEqProofs [equalR, equalM, List.replicate, h0, h1, h13, i1, i2, hlt, hjb, he.len, he.un, -unCells]
        refine hop _ _ _ _ _ a[j] b[j] (by simp) (by simp) ?_
        by_cases hab : a[j] = b[j]
        · simp -implicitDefEqProofs [hab, h13, inc_i64 hlt ha, -Int.natCast_add, he.un, he.len, -unCells]
          refine ih (a.length - (j + 1)) _ _ (by omega) ⟨j + 1, rfl, by omega, by simp [h0], by simp [h1], by simp [h12], by simp, fun i hi => ?_⟩
          by_cases hij : i = j
          · subst hij; simp [hlt, hjb, hab]
          · exact hall i (by omega)
        · have : a ≠ b := fun h => hab (by subst h; rfl)
          simp -implicitDefEqProofs [hab, this, he.un, he.len, -unCells]
      · simp -implicitDefEqProofs [hlt]
        have : a = b := by
          apply List.ext_getElem?
          intro i
          by_cases hi : i < j
          · exact hall i hi
          · rw [List.getElem?_eq_none (by omega), List.getElem?_eq_none (by omega)]
        simp -implicitDefEqProofs [this]
    · exact ⟨0, by simp [hl]⟩
  · have hne : a ≠ b := fun h => hl (h ▸ rfl)
    have hl' : ¬ (a.length : Int) = (b.length : Int) := by omega
    simp -implicitDefEqProofs [hl, hl', hne]

def indexL (n : Nat) (ag : Bool) : IR := .seq (.reg [⟨some 9, none, .bin .lss (.t 8) (.t 7)⟩]) (.seq (.cond (.t 9) (.skip) (.exit 0))
  (.seq (.blk 1 (.seq (.reg [⟨some 10, none, .mov (.t 8)⟩, ⟨some 5, none, .mov (.t 10)⟩])
      (.seq (.reg [⟨some 11, none, .mov (.t 1)⟩, ⟨some 12, none, .mov (.t 0)⟩, ⟨some 13, none, .mov (.t 5)⟩, ⟨some 14, none, .iaddr n (.t 12) (.t 13)⟩, ⟨some 15, none, .load n ag (.t 14)⟩, ⟨some 16, none, .call (.t 11) [.t 15]⟩])
        (.cond (.t 16) (.seq (.reg [⟨some 17, none, .mov (.t 5)⟩, ⟨some 4, none, .mov (.t 17)⟩]) (.ret)) (.skip))))) (.reg [⟨some 18, none, .bin .add (.t 8) (.c (.int .i64 1))⟩, ⟨some 8, none, .mov (.t 18)⟩])))
/-- slices.IndexFunc -/
def indexF (n : Nat) (ag : Bool) : FnA := ⟨19, .seq (.reg [⟨some 4, none, .mov (.c (.int .i64 0))⟩])
  (.seq (.seq (.reg [⟨some 6, none, .mov (.t 0)⟩, ⟨some 7, none, .len (.t 6)⟩, ⟨some 8, none, .mov (.c (.int .i64 0))⟩]) (.blk 0 (.loop (indexL n ag)))) (.seq (.reg [⟨some 4, none, .mov (.c (.int .i64 (-1)))⟩]) (.ret))), [.t 4]⟩

/-- The first place where something holds; else -1. -/
def idxI {α : Type} (p : α → Bool) (l : List α) : Int := match l.findIdx? p with
  | some i => i
  | none => -1

theorem findIdx_at {α : Type} {p : α → Bool} {l : List α} {j : Nat} (hj : j < l.length) (hp : p l[j] = true) (hall : ∀ i (hi : i < j), p l[i] = false) : l.findIdx? p = some j := by
  rw [List.findIdx?_eq_some_iff_getElem]
  exact ⟨hj, hp, fun i hi => by simp [hall i hi]⟩

theorem index_gen {f : FuncId} {n : Nat} {ag : Bool} {α : Type} {enc : α → List AV} (hb : HasBody P f) (hf : cFn P f = some (indexF n ag)) (he : ElOK enc n ag) (l : List α) (hl : l.length ≤ 9223372036854775807) {h : H} {F : FuncId} {first caps : List AV} {p : α → Bool}
    (hw : first.map wk = first) (hw' : caps.map wk = caps) (hc : ∀ x ∈ l, SCall P F (first ++ [elV ag (enc x)] ++ caps) h (.bool (p x)) h) : SCall P f [.sl .no (l.map enc), .fn F first caps] h (.int .i64 (idxI p l)) h := by
  refine SCall.ro (CallP.run hb hf (by simp [indexF]) ?_) (.int _ _)
  simp -implicitDefEqProofs [indexF]
  refine run_loop (fun n s h1 => ∃ j : Nat, n = l.length - j ∧ j ≤ l.length ∧ h1 = h ∧ s 0 = .sl .no (l.map enc) ∧ s 1 = .fn F first caps ∧ s 7 = .int .i64 l.length ∧ s 8 = .int .i64 j ∧ ∀ i (hi : i < l.length), i < j → p l[i] = false) ?_ l.length ?_
  · rintro m s h1 ⟨j, hn, hj, rfl, h0, h1, h7, h8, hall⟩ ih
    simp -implicitDefEqProofs [indexL, h7, h8]
    by_cases hlt : j < l.length
    · have i1 := idxOf_nat (k := .i64) hlt
      simp -implicitDefEqProofs [hlt, h0, h1, h8, i1, he.len, he.un, -unCells]
      refine callQ_s (hc l[j] (List.getElem_mem hlt)) (by simp [hw, hw', he.wkV]) ?_
      cases hp : p l[j]
      · simp -implicitDefEqProofs [h8, inc_i64 hlt hl, -Int.natCast_add]
        refine ih (l.length - (j + 1)) _ _ (by omega) ⟨j + 1, rfl, by omega, rfl, by simp [h0], by simp [h1], by simp [h7], by simp, fun i hi hij => ?_⟩
        by_cases h : i = j
        · subst h; exact hp
        · exact hall i hi (by omega)
      · have hf : l.findIdx? p = some j := findIdx_at hlt hp fun i hi => hall i (by omega) hi
        simp -implicitDefEqProofs [h8, idxI, hf]
        exact HF.refl _ _ _
    · have hf : l.findIdx? p = none := by
        rw [List.findIdx?_eq_none_iff]
        intro x hx
        obtain ⟨i, hi, rfl⟩ := List.mem_iff_getElem.1 hx
        exact hall i hi (by omega)
      simp -implicitDefEqProofs [hlt, idxI, hf]
      exact HF.refl _ _ _
  · exact ⟨0, by simp⟩

/-- slices.ContainsFunc -/
def containsF (g : FuncId) : FnA := ⟨9, .seq (.reg [⟨some 4, none, .mov (.c (.bool false))⟩])
  (.seq (.reg [⟨some 5, none, .mov (.t 0)⟩, ⟨some 6, none, .mov (.t 1)⟩, ⟨some 7, none, .call (.c (.fn g [] [])) [.t 5, .t 6]⟩, ⟨some 8, none, .bin .geq (.t 7) (.c (.int .i64 0))⟩, ⟨some 4, none, .mov (.t 8)⟩]) (.ret)), [.t 4]⟩

theorem idxI_any {α : Type} (p : α → Bool) (l : List α) : decide (0 ≤ idxI p l) = l.any p := by
  unfold idxI
  cases hf : l.findIdx? p with
  | none =>
    rw [List.findIdx?_eq_none_iff] at hf
    have : l.any p = false := by
      rw [List.any_eq_false]
      exact fun x hx => by simp [hf x hx]
    simp [this]
  | some j =>
    rw [List.findIdx?_eq_some_iff_getElem] at hf
    obtain ⟨hj, hp, _⟩ := hf
    have : l.any p = true := List.any_eq_true.2 ⟨l[j], List.getElem_mem hj, hp⟩
    simp [this]

theorem contains_gen {f g : FuncId} {n : Nat} {ag : Bool} {α : Type} {enc : α → List AV} (hb : HasBody P f) (hf : cFn P f = some (containsF g)) (hbg : HasBody P g) (hfg : cFn P g = some (indexF n ag)) (he : ElOK enc n ag) (l : List α) (hl : l.length ≤ 9223372036854775807) {h : H} {F : FuncId} {first caps : List AV} {p : α → Bool}
    (hw : first.map wk = first) (hw' : caps.map wk = caps) (hc : ∀ x ∈ l, SCall P F (first ++ [elV ag (enc x)] ++ caps) h (.bool (p x)) h) : SCall P f [.sl .no (l.map enc), .fn F first caps] h (.bool (l.any p)) h := by
  refine SCall.ro (CallP.run hb hf (by simp [containsF]) ?_) (.bool _)
  simp -implicitDefEqProofs [containsF]
  refine callQ_s (index_gen hbg hfg he l hl hw hw' hc) (by simp [hw, hw', he.wk]) ?_
  simp -implicitDefEqProofs [idxI_any]
  exact HF.refl _ _ _

def equalFL (n : Nat) (ag : Bool) (z : List AV) : IR := .seq (.reg [⟨some 18, none, .bin .lss (.t 17) (.t 16)⟩]) (.seq (.cond (.t 18) (.skip) (.exit 0))
  (.seq (.blk 1 (.seq (.reg [⟨some 19, none, .mov (.t 17)⟩, ⟨some 20, none, .iaddr n (.t 15) (.t 17)⟩, ⟨some 21, none, .load n ag (.t 20)⟩, ⟨some 8, none, .alloc z⟩, ⟨some 7, none, .mov (.t 19)⟩, ⟨none, none, .store n (.t 8) (.t 21)⟩])
      (.seq (.reg [⟨some 22, none, .mov (.t 1)⟩, ⟨some 23, none, .mov (.t 7)⟩, ⟨some 24, none, .iaddr n (.t 22) (.t 23)⟩, ⟨some 25, none, .load n ag (.t 24)⟩, ⟨some 9, none, .alloc z⟩, ⟨none, none, .store n (.t 9) (.t 25)⟩])
        (.seq (.reg [⟨some 26, none, .mov (.t 2)⟩, ⟨some 27, none, .load n ag (.t 8)⟩, ⟨some 28, none, .load n ag (.t 9)⟩, ⟨some 29, none, .call (.t 26) [.t 27, .t 28]⟩, ⟨some 30, none, .un .not (.t 29)⟩])
          (.cond (.t 30) (.seq (.reg [⟨some 6, none, .mov (.c (.bool false))⟩]) (.ret)) (.skip)))))) (.reg [⟨some 31, none, .bin .add (.t 17) (.c (.int .i64 1))⟩, ⟨some 17, none, .mov (.t 31)⟩])))
/-- slices.EqualFunc, of structs -/
def equalFF (n : Nat) (ag : Bool) (z : List AV) : FnA := ⟨32, .seq (.reg [⟨some 6, none, .mov (.c (.bool false))⟩])
  (.seq (.seq (.reg [⟨some 10, none, .mov (.t 0)⟩, ⟨some 11, none, .len (.t 10)⟩, ⟨some 12, none, .mov (.t 1)⟩, ⟨some 13, none, .len (.t 12)⟩, ⟨some 14, none, .bin .neq (.t 11) (.t 13)⟩])
      (.cond (.t 14) (.seq (.reg [⟨some 6, none, .mov (.c (.bool false))⟩]) (.ret)) (.skip)))
    (.seq (.seq (.reg [⟨some 15, none, .mov (.t 0)⟩, ⟨some 16, none, .len (.t 15)⟩, ⟨some 17, none, .mov (.c (.int .i64 0))⟩]) (.blk 0 (.loop (equalFL n ag z)))) (.seq (.reg [⟨some 6, none, .mov (.c (.bool true))⟩]) (.ret)))), [.t 6]⟩

/-- slices.EqualFunc with a function of the elements alone. -/
theorem equalFunc_gen {f : FuncId} {n : Nat} {z : List AV} {α : Type} [DecidableEq α] {enc : α → List AV} (hb : HasBody P f) (hf : cFn P f = some (equalFF n true z)) (hz : z.length = n) (he : ElOK enc n true) {F : FuncId}
    (a b : List α) (ha : a.length ≤ 9223372036854775807) (hbl : b.length ≤ 9223372036854775807) (hc : ∀ x ∈ a, ∀ y ∈ b, PCall P F [.agg (enc x), .agg (enc y)] (.bool (decide (x = y)))) : PCall P f [.sl .no (a.map enc), .sl .no (b.map enc), .fn F [] []] (.bool (decide (a = b))) := by
  refine PCall.run hb hf (by simp [equalFF]) (fun v hv => by
    rcases List.mem_cons.1 hv with rfl | hv
    · exact he.pureL a
    rcases List.mem_cons.1 hv with rfl | hv
    · exact he.pureL b
    · rw [List.mem_singleton.1 hv]; exact .fn (fun v h => by cases h) (fun v h => by cases h)) (.bool _) ?_
  simp -implicitDefEqProofs [equalFF]
  by_cases hl : a.length = b.length
  · simp -implicitDefEqProofs [hl]
    refine run_loop (fun n s h => ∃ j : Nat, n = a.length - j ∧ j ≤ a.length ∧ s 0 = .sl .no (a.map enc) ∧ s 1 = .sl .no (b.map enc) ∧ s 2 = .fn F [] [] ∧ s 15 = .sl .no (a.map enc) ∧ s 16 = .int .i64 a.length ∧ s 17 = .int .i64 j ∧ ∀ i, i < j → a[i]? = b[i]?) ?_ a.length ?_
    · rintro m s h ⟨j, hn, hj, h0, h1, h2, h15, h16, h17, hall⟩ ih
      simp -implicitDefEqProofs [equalFL, h16, h17]
      by_cases hlt : j < a.length
      · have hjb : j < b.length := by omega
        have i1 := idxOf_nat (k := .i64) hlt
        have i2 := idxOf_nat (k := .i64) hjb
        have t1 : ∀ x, (enc x).take n = enc x := fun x => List.take_of_length_le (by rw [he.len]; exact Nat.le_refl _)
        have d1 : ∀ x, (enc x).drop n = [] := fun x => List.drop_of_length_le (by rw [he.len]; exact Nat.le_refl _)
        have d2 : z.drop n = [] := List.drop_of_length_le (by omega)
        simp -implicitDefEqProofs [hlt, h0, h1, h2, h15, h17, i1, i2, he.len, t1, d1, d2, hz, hjb]
        refine callQ_p (hc a[j] (List.getElem_mem hlt) b[j] (List.getElem_mem hjb)) (by simp [he.wk]) ?_
        by_cases hab : a[j] = b[j]
        · simp -implicitDefEqProofs [hab, h17, inc_i64 hlt ha, -Int.natCast_add]
          refine ih (a.length - (j + 1)) _ _ (by omega) ⟨j + 1, rfl, by omega, by simp [h0], by simp [h1], by simp [h2], by simp [h15], by simp [h16], by simp, fun i hi => ?_⟩
          by_cases hij : i = j
          · subst hij; simp [hlt, hjb, hab]
          · exact hall i (by omega)
        · have : a ≠ b := fun h => hab (by subst h; rfl)
          simp -implicitDefEqProofs [hab, this]
      · simp -implicitDefEqProofs [hlt]
        have : a = b := by
          apply List.ext_getElem?
          intro i
          by_cases hi : i < j
          · exact hall i hi
          · rw [List.getElem?_eq_none (by omega), List.getElem?_eq_none (by omega)]
        simp -implicitDefEqProofs [this]
    · exact ⟨0, by simp [hl]⟩
  · have hne : a ≠ b := fun h => hl (h ▸ rfl)
    have hl' : ¬ (a.length : Int) = (b.length : Int) := by omega
    simp -implicitDefEqProofs [hl, hl', hne]
/-! ### Branches, both looked at at once -/
theorem gdQ_dT {p : Prop} [Decidable p] {A B : Prop} : gdQ (.bool (decide p)) true A B = ((p → A) ∧ (¬ p → B)) := by
  by_cases h : p <;> simp [gdQ, h]
theorem gdQ_dF {p : Prop} [Decidable p] {A B : Prop} : gdQ (.bool (decide p)) false A B = ((¬ p → A) ∧ (p → B)) := by
  by_cases h : p <;> simp [gdQ, h]
theorem condQ_d {p : Prop} [Decidable p] {K : Bool → Prop} : condQ (.bool (decide p)) K = ((p → K true) ∧ (¬ p → K false)) := by
  by_cases h : p <;> simp [condQ, h]
theorem gdQ_nT {p : Prop} [Decidable p] {A B : Prop} : gdQ (.bool (!decide p)) true A B = ((¬ p → A) ∧ (p → B)) := by
  by_cases h : p <;> simp [gdQ, h]
theorem gdQ_nF {p : Prop} [Decidable p] {A B : Prop} : gdQ (.bool (!decide p)) false A B = ((p → A) ∧ (¬ p → B)) := by
  by_cases h : p <;> simp [gdQ, h]
theorem condQ_n {p : Prop} [Decidable p] {K : Bool → Prop} : condQ (.bool (!decide p)) K = ((p → K false) ∧ (¬ p → K true)) := by
  by_cases h : p <;> simp [condQ, h]
theorem gdQ_bT {b : Bool} {A B : Prop} : gdQ (.bool b) true A B = ((b = true → A) ∧ (b = false → B)) := by
  cases b <;> simp
theorem gdQ_bF {b : Bool} {A B : Prop} : gdQ (.bool b) false A B = ((b = false → A) ∧ (b = true → B)) := by
  cases b <;> simp
theorem condQ_b {b : Bool} {K : Bool → Prop} : condQ (.bool b) K = ((b = true → K true) ∧ (b = false → K false)) := by
  cases b <;> simp
end
end Go.Am
