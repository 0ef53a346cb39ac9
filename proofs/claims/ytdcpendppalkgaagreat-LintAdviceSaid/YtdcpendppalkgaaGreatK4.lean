/- The abstract machine of this work: values, its soundness against the machine of the model, forward runs; part of the proof of the claim, it holds of every program. -/
import Derived.Test.YtdcpendppalkgaaGreatK3
import Derived.Below
/- A law's function at the worlds of a row: it hands back true, and writes nothing that was there. -/
namespace Go.Am
open Go Go.RowKit

theorem roW_out (w : World) : ∀ B, w.heap.size ≤ B → roW w B = 0 := fun B hB => by
  unfold roW
  rw [Array.getElem?_eq_none hB]

theorem Sim.entry (P : Program) (w : World) : Sim P w.heap.size (fun _ => False) w (G.bare (roW w)) H.nil :=
  ⟨Nat.le_refl _, rfl, rfl, rfl, rfl, fun b _ hb => by simp [H.nil] at hb, fun b _ hb => by simp [H.nil] at hb, fun i hi => by simp [H.nil] at hi, fun i _ hi => by simp [H.nil] at hi, roW_out w,
    fun l _ hl => by simp [H.nil] at hl, fun l _ hl => by simp [H.nil] at hl, fun l _ hl => by simp [H.nil] at hl, fun l _ hl => by simp [H.nil] at hl⟩

theorem Ext.below {w w' : World} {g g' : G} (e : Ext w.heap.size (fun _ => False) w g w' g') : Below w.heap.size w w' :=
  ⟨e.os, e.tape, e.output, e.size, fun k hk => e.blk k hk fun h => h⟩

theorem law_run {P : Program} {f : FuncId} {args : List AV} {Args : Array Value} {w : World} {b : Bool} (hc : PCall P f args (.bool b)) (hA : RepA w (G.bare (roW w)) args Args) :
    Calls P f Args w fun e w' => e = .returned (.bool b) ∧ Below w.heap.size w w' := by
  refine ((hc H.nil).2 _ _ w _ Args (Sim.entry P w) hA).mono ?_
  rintro e w' ⟨R, g', rfl, q1, _, q3⟩
  obtain rfl := q1.bool_inv
  exact ⟨rfl, q3.below⟩

section
variable {H : Type} {enc : TypeId × Value → H} {P : Program} {w : World} {spare : Nat → Bool} {held : Bool}

/-- An argument of one cell. -/
theorem ent_one {t : TypeId} {v : Value} {x : DataW H} {ps : List MemPlace} {d : Nat} {s : Sh} (h : DataW.Trod enc P w 0 spare held t v x ps) (hc : shT P d t = some [s]) (hv : v.cells = #[v]) : ∃ a, s.is a ∧ Rep w (G.bare (roW w)) a v := by
  obtain ⟨fuel, h⟩ := h
  obtain ⟨vs, h1, h2⟩ := ent fuel d t _ _ _ h hc
  simp only [isL] at h1
  obtain ⟨a, r, rfl, h1, rfl⟩ := h1
  obtain ⟨V, q1, q2, _⟩ := h2.2 0 a rfl
  rw [hv] at q1
  simp at q1
  subst q1
  exact ⟨a, h1, q2⟩

theorem RepA.nil {g : G} : RepA w g [] #[] := ⟨rfl, fun k hk => by simp at hk⟩
theorem RepA.one {g : G} {a : AV} {v : Value} (h : Rep w g a v) : RepA w g [a] #[v] := ⟨rfl, fun k hk => by
  have : k = 0 := by simp at hk; omega
  subst this
  exact h⟩
end
end Go.Am

/- Functions of Go's library, at any type: slices.Equal, IndexFunc, ContainsFunc, EqualFunc. -/
namespace Go.Am
open Go Go.RowKit

@[simp] theorem lt_a2 (n : Nat) : n < n + 1 + 1 := by omega
@[simp] theorem lt_a3 (n : Nat) : n < n + 1 + 1 + 1 := by omega
@[simp] theorem lt_a4 (n : Nat) : n < n + 1 + 1 + 1 + 1 := by omega
@[simp] theorem ne_a2 (n : Nat) : ¬ n = n + 1 + 1 := by omega
@[simp] theorem ne_a3 (n : Nat) : ¬ n = n + 1 + 1 + 1 := by omega
@[simp] theorem ne_b2 (n : Nat) : ¬ n + 1 + 1 = n := by omega
@[simp] theorem ne_b3 (n : Nat) : ¬ n + 1 + 1 + 1 = n := by omega
theorem bnd_nat {k : IntKind} {n m d : Nat} (h : n ≤ m) : bndOf (some (.int k (n : Int))) m d = some n := by
  simp only [bndOf]
  rw [if_pos (by omega)]
  simp
theorem bnd_none {m d : Nat} : bndOf none m d = some d := rfl
theorem inc_i64 {j n : Nat} (h : j < n) (hn : n ≤ 9223372036854775807) : IntKind.i64.wrap ((j : Int) + 1) = ((j + 1 : Nat) : Int) := by
  rw [wrap_i64 (by omega) (by omega)]; omega

/-- An element as a value. -/
def elV (ag : Bool) (cs : List AV) : AV :=
  if ag then .agg cs else match cs with
    | [v] => v
    | _ => .undef
/-- Elements of this many cells. -/
structure ElOK {α : Type} (enc : α → List AV) (n : Nat) (ag : Bool) : Prop where
  len : ∀ x, (enc x).length = n
  one : ag = false → n = 1
  pure : ∀ x, ∀ v ∈ enc x, PureV v
  wk : ∀ x, (enc x).map wk = enc x
theorem ElOK.un {α : Type} {enc : α → List AV} {n : Nat} {ag : Bool} (h : ElOK enc n ag) (x : α) : unCells ag ((enc x).take n) = some (elV ag (enc x)) := by
  have e : (enc x).take n = enc x := List.take_of_length_le (by rw [h.len]; exact Nat.le_refl _)
  rw [e]
  cases ag with
  | true => rfl
  | false =>
    have hl := h.len x
    rw [h.one rfl] at hl
    obtain ⟨v, hv⟩ := List.length_eq_one_iff.1 hl
    simp [unCells, elV, hv]
theorem ElOK.pureL {α : Type} {enc : α → List AV} {n : Nat} {ag : Bool} (h : ElOK enc n ag) (l : List α) : PureV (.sl .no (l.map enc)) := .sl (fun i h => by cases h) fun e he v hv => by
  obtain ⟨x, _, rfl⟩ := List.mem_map.1 he
  exact h.pure x v hv
theorem ElOK.wkL {α : Type} {enc : α → List AV} {n : Nat} {ag : Bool} (h : ElOK enc n ag) (l : List α) : Am.wk (.sl .no (l.map enc)) = .sl .no (l.map enc) := by
  simp only [Am.wk, wkLL_map, List.map_map]
  congr 1
  exact List.map_congr_left fun x _ => h.wk x
theorem ElOK.wkV {α : Type} {enc : α → List AV} {n : Nat} {ag : Bool} (h : ElOK enc n ag) (x : α) : Am.wk (elV ag (enc x)) = elV ag (enc x) := by
  cases ag with
  | true => simp only [elV, if_true, Am.wk, wkL_map, h.wk]
  | false =>
    have hl := h.len x
    rw [h.one rfl] at hl
    obtain ⟨v, hv⟩ := List.length_eq_one_iff.1 hl
    have := h.wk x
    rw [hv] at this
    simp at this
    simp [elV, hv, this]

section
variable {P : Program}

/-- An element out of a slice, at a place. -/
theorem iaddr_el {α : Type} {enc : α → List AV} {n : Nat} {ag : Bool} (h : ElOK enc n ag) {l : List α} {j : Nat} (hj : j < l.length) {t : Tok} {k : IntKind} {e : Opd → AV} {x i : Opd} (hx : e x = .sl t (l.map enc)) (hi : e i = .int k (j : Int)) {hh : H} :
    pv (.iaddr n x i) e hh = some (.rop (enc l[j])) := by
  have hi' : idxOf (.int k (j : Int)) l.length = some j := idxOf_nat hj
  simp only [pv, hx, hi, List.length_map, hi', Option.bind_some, List.getElem?_map, List.getElem?_eq_getElem hj, Option.map_some, h.len, if_true]
theorem load_el {α : Type} {enc : α → List AV} {n : Nat} {ag : Bool} (h : ElOK enc n ag) {x : α} {e : Opd → AV} {o : Opd} (hx : e o = .rop (enc x)) {hh : H} : pv (.load n ag o) e hh = some (elV ag (enc x)) := by
  simp only [pv, hx, h.len, Nat.le_refl, if_true, h.un]

def equalR (n : Nat) (ag : Bool) (op : IOp) : List Ins := [⟨some 16, none, .mov (.t 0)⟩, ⟨some 17, none, .mov (.t 5)⟩, ⟨some 18, none, .iaddr n (.t 16) (.t 17)⟩, ⟨some 19, none, .load n ag (.t 18)⟩,
  ⟨some 20, none, .mov (.t 1)⟩, ⟨some 21, none, .mov (.t 5)⟩, ⟨some 22, none, .iaddr n (.t 20) (.t 21)⟩, ⟨some 23, none, .load n ag (.t 22)⟩, ⟨some 24, none, op⟩]
def equalA : List (List Nat) := [[], [], [0, 1], [2], [], [], [4, 5], [6], [3, 7]]
def equalM : List Am.Mark := List.replicate 9 ⟨false, 0, 0⟩
def equalL (n : Nat) (ag : Bool) (op : IOp) : IR := .seq (.reg [⟨some 14, none, .bin .lss (.t 13) (.t 12)⟩]) (.seq (.cond (.t 14) (.skip) (.exit 0))
  (.seq (.blk 1 (.seq (.reg [⟨some 15, none, .mov (.t 13)⟩, ⟨some 5, none, .mov (.t 15)⟩]) (.seq (.dreg (equalR n ag op) equalA) (.cond (.t 24) (.seq (.reg [⟨some 4, none, .mov (.c (.bool false))⟩]) (.ret)) (.skip)))))
    (.reg [⟨some 25, none, .bin .add (.t 13) (.c (.int .i64 1))⟩, ⟨some 13, none, .mov (.t 25)⟩])))
/-- slices.Equal -/
def equalF (n : Nat) (ag : Bool) (op : IOp) : FnA := ⟨26, .seq (.reg [⟨some 4, none, .mov (.c (.bool false))⟩])
  (.seq (.seq (.reg [⟨some 6, none, .mov (.t 0)⟩, ⟨some 7, none, .len (.t 6)⟩, ⟨some 8, none, .mov (.t 1)⟩, ⟨some 9, none, .len (.t 8)⟩, ⟨some 10, none, .bin .neq (.t 7) (.t 9)⟩])
      (.cond (.t 10) (.seq (.reg [⟨some 4, none, .mov (.c (.bool false))⟩]) (.ret)) (.skip)))
    (.seq (.seq (.reg [⟨some 11, none, .mov (.t 0)⟩, ⟨some 12, none, .len (.t 11)⟩, ⟨some 13, none, .mov (.c (.int .i64 0))⟩]) (.blk 0 (.loop (equalL n ag op)))) (.seq (.reg [⟨some 4, none, .mov (.c (.bool true))⟩]) (.ret)))), [.t 4]⟩

/-- A comparison of two elements. -/
def NeOp {α : Type} [DecidableEq α] (enc : α → List AV) (ag : Bool) (op : IOp) : Prop := ∀ (P : Program) (s : Slots) (h0 : H) (obl : List Obl) (K : AV → List Obl → Prop) (x y : α), s 19 = elV ag (enc x) → s 23 = elV ag (enc y) → K (.bool (!decide (x = y))) obl → wpL P op s h0 [] 0 0 obl K

theorem equal_gen {f : FuncId} {n : Nat} {ag : Bool} {op : IOp} {α : Type} [DecidableEq α] {enc : α → List AV} (hb : HasBody P f) (hf : cFn P f = some (equalF n ag op)) (he : ElOK enc n ag) (hop : NeOp enc ag op) (hd : drawFine (equalR n ag op) equalA equalM = true)
    (a b : List α) (ha : a.length ≤ 9223372036854775807) (hbl : b.length ≤ 9223372036854775807) : PCall P f [.sl .no (a.map enc), .sl .no (b.map enc)] (.bool (decide (a = b))) := by
  refine PCall.run hb hf (by simp [equalF]) (fun v hv => by
    rcases List.mem_cons.1 hv with rfl | hv
    · exact he.pureL a
    · rw [List.mem_singleton.1 hv]; exact he.pureL b) (.bool _) ?_
  simp -implicitDefEqProofs [equalF]
  by_cases hl : a.length = b.length
  · simp -implicitDefEqProofs [hl]
    refine run_loop (fun n s h => ∃ j : Nat, n = a.length - j ∧ j ≤ a.length ∧ s 0 = .sl .no (a.map enc) ∧ s 1 = .sl .no (b.map enc) ∧ s 12 = .int .i64 a.length ∧ s 13 = .int .i64 j ∧ ∀ i, i < j → a[i]? = b[i]?) ?_ a.length ?_
    · rintro m s h ⟨j, hn, hj, h0, h1, h12, h13, hall⟩ ih
      simp -implicitDefEqProofs [equalL, h12, h13]
      by_cases hlt : j < a.length
      · simp -implicitDefEqProofs [hlt, h13]
        refine run_dreg hd ?_
        have hjb : j < b.length := by omega
        have l1 : ∀ (e : Opd → AV) (x : Opd) (hh : H), e x = .rop (enc a[j]) → pv (.load n ag x) e hh = some (elV ag (enc a[j])) := fun e x hh hx => load_el he hx
        have l2 : ∀ (e : Opd → AV) (x : Opd) (hh : H), e x = .rop (enc b[j]) → pv (.load n ag x) e hh = some (elV ag (enc b[j])) := fun e x hh hx => load_el he hx
        have i1 := idxOf_nat (k := .i64) hlt
        have i2 := idxOf_nat (k := .i64) hjb
        simp -implicitDefEqProofs [equalR, equalM, List.replicate, h0, h1, h13, i1, i2, hlt, hjb, he.len, he.un, -unCells]
        refine hop _ _ _ _ _ a[j] b[j] (by simp) (by simp) ?_
        by_cases hab : a[j] = b[j]
        · simp -implicitDefEqProofs [hab, h13, inc_i64 hlt ha, -Int.natCast_add, he.un, he.len, -unCells]
          refine ih (a.length - (j + 1)) _ _ (by omega) ⟨j + 1, rfl, by omega, by simp [h0], by simp [h1], by simp [h12], by simp, fun i hi => ?_⟩
          by_cases hij : i = j
          · subst hij; simp [hlt, hjb, hab]
          · exact hall i (by omega)
        · have : a ≠ b := fun h => hab (by subst h; rfl)
          simp -implicitDefEqProofs [hab, this, he.un, he.len, -unCells]
      · simp -implicitDefEqProofs [hlt]
        have : a = b := by
          apply List.ext_getElem?
          intro i
          by_cases hi : i < j
          · exact hall i hi
          · rw [List.getElem?_eq_none (by omega), List.getElem?_eq_none (by omega)]
        simp -implicitDefEqProofs [this]
    · exact ⟨0, by simp [hl]⟩
  · have hne : a ≠ b := fun h => hl (h ▸ rfl)
    have hl' : ¬ (a.length : Int) = (b.length : Int) := by omega
    simp -implicitDefEqProofs [hl, hl', hne]

def indexL (n : Nat) (ag : Bool) : IR := .seq (.reg [⟨some 9, none, .bin .lss (.t 8) (.t 7)⟩]) (.seq (.cond (.t 9) (.skip) (.exit 0))
  (.seq (.blk 1 (.seq (.reg [⟨some 10, none, .mov (.t 8)⟩, ⟨some 5, none, .mov (.t 10)⟩])
      (.seq (.reg [⟨some 11, none, .mov (.t 1)⟩, ⟨some 12, none, .mov (.t 0)⟩, ⟨some 13, none, .mov (.t 5)⟩, ⟨some 14, none, .iaddr n (.t 12) (.t 13)⟩, ⟨some 15, none, .load n ag (.t 14)⟩, ⟨some 16, none, .call (.t 11) [.t 15]⟩])
        (.cond (.t 16) (.seq (.reg [⟨some 17, none, .mov (.t 5)⟩, ⟨some 4, none, .mov (.t 17)⟩]) (.ret)) (.skip))))) (.reg [⟨some 18, none, .bin .add (.t 8) (.c (.int .i64 1))⟩, ⟨some 8, none, .mov (.t 18)⟩])))
/-- slices.IndexFunc -/
def indexF (n : Nat) (ag : Bool) : FnA := ⟨19, .seq (.reg [⟨some 4, none, .mov (.c (.int .i64 0))⟩])
  (.seq (.seq (.reg [⟨some 6, none, .mov (.t 0)⟩, ⟨some 7, none, .len (.t 6)⟩, ⟨some 8, none, .mov (.c (.int .i64 0))⟩]) (.blk 0 (.loop (indexL n ag)))) (.seq (.reg [⟨some 4, none, .mov (.c (.int .i64 (-1)))⟩]) (.ret))), [.t 4]⟩

/-- The first place where something holds; else -1. -/
def idxI {α : Type} (p : α → Bool) (l : List α) : Int := match l.findIdx? p with
  | some i => i
  | none => -1

theorem findIdx_at {α : Type} {p : α → Bool} {l : List α} {j : Nat} (hj : j < l.length) (hp : p l[j] = true) (hall : ∀ i (hi : i < j), p l[i] = false) : l.findIdx? p = some j := by
  rw [List.findIdx?_eq_some_iff_getElem]
  exact ⟨hj, hp, fun i hi => by simp [hall i hi]⟩

theorem index_gen {f : FuncId} {n : Nat} {ag : Bool} {α : Type} {enc : α → List AV} (hb : HasBody P f) (hf : cFn P f = some (indexF n ag)) (he : ElOK enc n ag) (l : List α) (hl : l.length ≤ 9223372036854775807) {h : H} {F : FuncId} {first caps : List AV} {p : α → Bool}
    (hw : first.map wk = first) (hw' : caps.map wk = caps) (hc : ∀ x ∈ l, SCall P F (first ++ [elV ag (enc x)] ++ caps) h (.bool (p x)) h) : SCall P f [.sl .no (l.map enc), .fn F first caps] h (.int .i64 (idxI p l)) h := by
  refine SCall.ro (CallP.run hb hf (by simp [indexF]) ?_) (.int _ _)
  simp -implicitDefEqProofs [indexF]
  refine run_loop (fun n s h1 => ∃ j : Nat, n = l.length - j ∧ j ≤ l.length ∧ h1 = h ∧ s 0 = .sl .no (l.map enc) ∧ s 1 = .fn F first caps ∧ s 7 = .int .i64 l.length ∧ s 8 = .int .i64 j ∧ ∀ i (hi : i < l.length), i < j → p l[i] = false) ?_ l.length ?_
  · rintro m s h1 ⟨j, hn, hj, rfl, h0, h1, h7, h8, hall⟩ ih
    simp -implicitDefEqProofs [indexL, h7, h8]
    by_cases hlt : j < l.length
    · have i1 := idxOf_nat (k := .i64) hlt
      simp -implicitDefEqProofs [hlt, h0, h1, h8, i1, he.len, he.un, -unCells]
      refine callQ_s (hc l[j] (List.getElem_mem hlt)) (by simp [hw, hw', he.wkV]) ?_
      cases hp : p l[j]
      · simp -implicitDefEqProofs [h8, inc_i64 hlt hl, -Int.natCast_add]
        refine ih (l.length - (j + 1)) _ _ (by omega) ⟨j + 1, rfl, by omega, rfl, by simp [h0], by simp [h1], by simp [h7], by simp, fun i hi hij => ?_⟩
        by_cases h : i = j
        · subst h; exact hp
        · exact hall i hi (by omega)
      · have hf : l.findIdx? p = some j := findIdx_at hlt hp fun i hi => hall i (by omega) hi
        simp -implicitDefEqProofs [h8, idxI, hf]
        exact HF.refl _ _ _
    · have hf : l.findIdx? p = none := by
        rw [List.findIdx?_eq_none_iff]
        intro x hx
        obtain ⟨i, hi, rfl⟩ := List.mem_iff_getElem.1 hx
        exact hall i hi (by omega)
      simp -implicitDefEqProofs [hlt, idxI, hf]
      exact HF.refl _ _ _
  · exact ⟨0, by simp⟩

/-- slices.ContainsFunc -/
def containsF (g : FuncId) : FnA := ⟨9, .seq (.reg [⟨some 4, none, .mov (.c (.bool false))⟩])
  (.seq (.reg [⟨some 5, none, .mov (.t 0)⟩, ⟨some 6, none, .mov (.t 1)⟩, ⟨some 7, none, .call (.c (.fn g [] [])) [.t 5, .t 6]⟩, ⟨some 8, none, .bin .geq (.t 7) (.c (.int .i64 0))⟩, ⟨some 4, none, .mov (.t 8)⟩]) (.ret)), [.t 4]⟩

theorem idxI_any {α : Type} (p : α → Bool) (l : List α) : decide (0 ≤ idxI p l) = l.any p := by
  unfold idxI
  cases hf : l.findIdx? p with
  | none =>
    rw [List.findIdx?_eq_none_iff] at hf
    have : l.any p = false := by
      rw [List.any_eq_false]
      exact fun x hx => by simp [hf x hx]
    simp [this]
  | some j =>
    rw [List.findIdx?_eq_some_iff_getElem] at hf
    obtain ⟨hj, hp, _⟩ := hf
    have : l.any p = true := List.any_eq_true.2 ⟨l[j], List.getElem_mem hj, hp⟩
    simp [this]

theorem contains_gen {f g : FuncId} {n : Nat} {ag : Bool} {α : Type} {enc : α → List AV} (hb : HasBody P f) (hf : cFn P f = some (containsF g)) (hbg : HasBody P g) (hfg : cFn P g = some (indexF n ag)) (he : ElOK enc n ag) (l : List α) (hl : l.length ≤ 9223372036854775807) {h : H} {F : FuncId} {first caps : List AV} {p : α → Bool}
    (hw : first.map wk = first) (hw' : caps.map wk = caps) (hc : ∀ x ∈ l, SCall P F (first ++ [elV ag (enc x)] ++ caps) h (.bool (p x)) h) : SCall P f [.sl .no (l.map enc), .fn F first caps] h (.bool (l.any p)) h := by
  refine SCall.ro (CallP.run hb hf (by simp [containsF]) ?_) (.bool _)
  simp -implicitDefEqProofs [containsF]
  refine callQ_s (index_gen hbg hfg he l hl hw hw' hc) (by simp [hw, hw', he.wk]) ?_
  simp -implicitDefEqProofs [idxI_any]
  exact HF.refl _ _ _

def equalFL (n : Nat) (ag : Bool) (z : List AV) : IR := .seq (.reg [⟨some 18, none, .bin .lss (.t 17) (.t 16)⟩]) (.seq (.cond (.t 18) (.skip) (.exit 0))
  (.seq (.blk 1 (.seq (.reg [⟨some 19, none, .mov (.t 17)⟩, ⟨some 20, none, .iaddr n (.t 15) (.t 17)⟩, ⟨some 21, none, .load n ag (.t 20)⟩, ⟨some 8, none, .alloc z⟩, ⟨some 7, none, .mov (.t 19)⟩, ⟨none, none, .store n (.t 8) (.t 21)⟩])
      (.seq (.reg [⟨some 22, none, .mov (.t 1)⟩, ⟨some 23, none, .mov (.t 7)⟩, ⟨some 24, none, .iaddr n (.t 22) (.t 23)⟩, ⟨some 25, none, .load n ag (.t 24)⟩, ⟨some 9, none, .alloc z⟩, ⟨none, none, .store n (.t 9) (.t 25)⟩])
        (.seq (.reg [⟨some 26, none, .mov (.t 2)⟩, ⟨some 27, none, .load n ag (.t 8)⟩, ⟨some 28, none, .load n ag (.t 9)⟩, ⟨some 29, none, .call (.t 26) [.t 27, .t 28]⟩, ⟨some 30, none, .un .not (.t 29)⟩])
          (.cond (.t 30) (.seq (.reg [⟨some 6, none, .mov (.c (.bool false))⟩]) (.ret)) (.skip)))))) (.reg [⟨some 31, none, .bin .add (.t 17) (.c (.int .i64 1))⟩, ⟨some 17, none, .mov (.t 31)⟩])))
/-- slices.EqualFunc, of structs -/
def equalFF (n : Nat) (ag : Bool) (z : List AV) : FnA := ⟨32, .seq (.reg [⟨some 6, none, .mov (.c (.bool false))⟩])
  (.seq (.seq (.reg [⟨some 10, none, .mov (.t 0)⟩, ⟨some 11, none, .len (.t 10)⟩, ⟨some 12, none, .mov (.t 1)⟩, ⟨some 13, none, .len (.t 12)⟩, ⟨some 14, none, .bin .neq (.t 11) (.t 13)⟩])
      (.cond (.t 14) (.seq (.reg [⟨some 6, none, .mov (.c (.bool false))⟩]) (.ret)) (.skip)))
    (.seq (.seq (.reg [⟨some 15, none, .mov (.t 0)⟩, ⟨some 16, none, .len (.t 15)⟩, ⟨some 17, none, .mov (.c (.int .i64 0))⟩]) (.blk 0 (.loop (equalFL n ag z)))) (.seq (.reg [⟨some 6, none, .mov (.c (.bool true))⟩]) (.ret)))), [.t 6]⟩

/-- slices.EqualFunc with a function of the elements alone. -/
theorem equalFunc_gen {f : FuncId} {n : Nat} {z : List AV} {α : Type} [DecidableEq α] {enc : α → List AV} (hb : HasBody P f) (hf : cFn P f = some (equalFF n true z)) (hz : z.length = n) (he : ElOK enc n true) {F : FuncId}
    (a b : List α) (ha : a.length ≤ 9223372036854775807) (hbl : b.length ≤ 9223372036854775807) (hc : ∀ x ∈ a, ∀ y ∈ b, PCall P F [.agg (enc x), .agg (enc y)] (.bool (decide (x = y)))) : PCall P f [.sl .no (a.map enc), .sl .no (b.map enc), .fn F [] []] (.bool (decide (a = b))) := by
  refine PCall.run hb hf (by simp [equalFF]) (fun v hv => by
    rcases List.mem_cons.1 hv with rfl | hv
    · exact he.pureL a
    rcases List.mem_cons.1 hv with rfl | hv
    · exact he.pureL b
    · rw [List.mem_singleton.1 hv]; exact .fn (fun v h => by cases h) (fun v h => by cases h)) (.bool _) ?_
  simp -implicitDefEqProofs [equalFF]
  by_cases hl : a.length = b.length
  · simp -implicitDefEqProofs [hl]
    refine run_loop (fun n s h => ∃ j : Nat, n = a.length - j ∧ j ≤ a.length ∧ s 0 = .sl .no (a.map enc) ∧ s 1 = .sl .no (b.map enc) ∧ s 2 = .fn F [] [] ∧ s 15 = .sl .no (a.map enc) ∧ s 16 = .int .i64 a.length ∧ s 17 = .int .i64 j ∧ ∀ i, i < j → a[i]? = b[i]?) ?_ a.length ?_
    · rintro m s h ⟨j, hn, hj, h0, h1, h2, h15, h16, h17, hall⟩ ih
      simp -implicitDefEqProofs [equalFL, h16, h17]
      by_cases hlt : j < a.length
      · have hjb : j < b.length := by omega
        have i1 := idxOf_nat (k := .i64) hlt
        have i2 := idxOf_nat (k := .i64) hjb
        have t1 : ∀ x, (enc x).take n = enc x := fun x => List.take_of_length_le (by rw [he.len]; exact Nat.le_refl _)
        have d1 : ∀ x, (enc x).drop n = [] := fun x => List.drop_of_length_le (by rw [he.len]; exact Nat.le_refl _)
        have d2 : z.drop n = [] := List.drop_of_length_le (by omega)
        simp -implicitDefEqProofs [hlt, h0, h1, h2, h15, h17, i1, i2, he.len, t1, d1, d2, hz, hjb]
        refine callQ_p (hc a[j] (List.getElem_mem hlt) b[j] (List.getElem_mem hjb)) (by simp [he.wk]) ?_
        by_cases hab : a[j] = b[j]
        · simp -implicitDefEqProofs [hab, h17, inc_i64 hlt ha, -Int.natCast_add]
          refine ih (a.length - (j + 1)) _ _ (by omega) ⟨j + 1, rfl, by omega, by simp [h0], by simp [h1], by simp [h2], by simp [h15], by simp [h16], by simp, fun i hi => ?_⟩
          by_cases hij : i = j
          · subst hij; simp [hlt, hjb, hab]
          · exact hall i (by omega)
        · have : a ≠ b := fun h => hab (by subst h; rfl)
          simp -implicitDefEqProofs [hab, this]
      · simp -implicitDefEqProofs [hlt]
        have : a = b := by
          apply List.ext_getElem?
          intro i
          by_cases hi : i < j
          · exact hall i hi
          · rw [List.getElem?_eq_none (by omega), List.getElem?_eq_none (by omega)]
        simp -implicitDefEqProofs [this]
    · exact ⟨0, by simp [hl]⟩
  · have hne : a ≠ b := fun h => hl (h ▸ rfl)
    have hl' : ¬ (a.length : Int) = (b.length : Int) := by omega
    simp -implicitDefEqProofs [hl, hl', hne]
/-! ### Branches, both looked at at once -/
theorem gdQ_dT {p : Prop} [Decidable p] {A B : Prop} : gdQ (.bool (decide p)) true A B = ((p → A) ∧ (¬ p → B)) := by
  by_cases h : p <;> simp [gdQ, h]
theorem gdQ_dF {p : Prop} [Decidable p] {A B : Prop} : gdQ (.bool (decide p)) false A B = ((¬ p → A) ∧ (p → B)) := by
  by_cases h : p <;> simp [gdQ, h]
theorem condQ_d {p : Prop} [Decidable p] {K : Bool → Prop} : condQ (.bool (decide p)) K = ((p → K true) ∧ (¬ p → K false)) := by
  by_cases h : p <;> simp [condQ, h]
theorem gdQ_nT {p : Prop} [Decidable p] {A B : Prop} : gdQ (.bool (!decide p)) true A B = ((¬ p → A) ∧ (p → B)) := by
  by_cases h : p <;> simp [gdQ, h]
theorem gdQ_nF {p : Prop} [Decidable p] {A B : Prop} : gdQ (.bool (!decide p)) false A B = ((p → A) ∧ (¬ p → B)) := by
  by_cases h : p <;> simp [gdQ, h]
theorem condQ_n {p : Prop} [Decidable p] {K : Bool → Prop} : condQ (.bool (!decide p)) K = ((p → K false) ∧ (¬ p → K true)) := by
  by_cases h : p <;> simp [condQ, h]
theorem gdQ_bT {b : Bool} {A B : Prop} : gdQ (.bool b) true A B = ((b = true → A) ∧ (b = false → B)) := by
  cases b <;> simp
theorem gdQ_bF {b : Bool} {A B : Prop} : gdQ (.bool b) false A B = ((b = false → A) ∧ (b = true → B)) := by
  cases b <;> simp
theorem condQ_b {b : Bool} {K : Bool → Prop} : condQ (.bool b) K = ((b = true → K true) ∧ (b = false → K false)) := by
  cases b <;> simp
end
end Go.Am

/- Guards that are not known, and both ways at once; drawn regions that change nothing. -/
namespace Go.Am
open Go Go.RowKit

def IOp.lt : IOp → Bool
  | .alloc _ | .box _ | .store .. | .append .. | .mksl .. | .mkmap | .mapup .. | .clear .. | .call .. => false
  | _ => true

/-- A light operation behind a guard. -/
def gdL (c : AV) (b : Bool) (o : Option AV) (K : AV → Prop) : Prop := gdQ c b (ob o K) (K .skp)
/-- The same, where the guard is a bool: done if it is true, and if it is false. -/
def gdB (b : Bool) (o : Option AV) (K : AV → Prop) : Prop := gdQ (.bool b) true (ob o K) (K .skp)
def gdN (b : Bool) (o : Option AV) (K : AV → Prop) : Prop := gdQ (.bool b) false (ob o K) (K .skp)
@[congr] theorem gdL_congr {t0 : Nat} {c c' : AV} {b : Bool} {o : Option AV} {K : AV → Prop} (e : c = c') (_ : tick = t0) : gdL c b o K = gdL c' b o K := by rw [e]
@[congr] theorem gdB_congr {t0 : Nat} {b b' : Bool} {p : Prop} {o o' : Option AV} {K : AV → Prop} (e : b = b') (ep : (b' = true) = p) (eo : b' = true → p → o = o') (_ : tick = t0) : gdB b o K = gdB b' o' K := by
  subst e ep
  cases b
  · rfl
  · rw [eo rfl rfl]
@[congr] theorem gdN_congr {t0 : Nat} {b b' : Bool} {p : Prop} {o o' : Option AV} {K : AV → Prop} (e : b = b') (ep : (b' = false) = p) (eo : b' = false → p → o = o') (_ : tick = t0) : gdN b o K = gdN b' o' K := by
  subst e ep
  cases b
  · rw [eo rfl rfl]
  · rfl
@[simp ↓] theorem gdL_tt {o : Option AV} {K : AV → Prop} : gdL (.bool true) true o K = ob o K := rfl
@[simp ↓] theorem gdL_ff {o : Option AV} {K : AV → Prop} : gdL (.bool false) false o K = ob o K := rfl
@[simp ↓] theorem gdL_tf {o : Option AV} {K : AV → Prop} : gdL (.bool true) false o K = K .skp := rfl
@[simp ↓] theorem gdL_ft {o : Option AV} {K : AV → Prop} : gdL (.bool false) true o K = K .skp := rfl
@[simp ↓] theorem gdL_skp {b : Bool} {o : Option AV} {K : AV → Prop} : gdL .skp b o K = K .skp := by cases b <;> rfl
theorem gdL_T {b : Bool} {o : Option AV} {K : AV → Prop} : gdL (.bool b) true o K = gdB b o K := rfl
theorem gdL_F {b : Bool} {o : Option AV} {K : AV → Prop} : gdL (.bool b) false o K = gdN b o K := rfl
@[simp ↓] theorem gdB_true {o : Option AV} {K : AV → Prop} : gdB true o K = ob o K := rfl
@[simp ↓] theorem gdB_false {o : Option AV} {K : AV → Prop} : gdB false o K = K .skp := rfl
@[simp ↓] theorem gdN_true {o : Option AV} {K : AV → Prop} : gdN true o K = K .skp := rfl
@[simp ↓] theorem gdN_false {o : Option AV} {K : AV → Prop} : gdN false o K = ob o K := rfl
@[simp ↓] theorem gdB_some {b : Bool} {v : AV} {K : AV → Prop} : gdB b (some v) K = K (bif b then v else .skp) := by cases b <;> rfl
@[simp ↓] theorem gdN_some {b : Bool} {v : AV} {K : AV → Prop} : gdN b (some v) K = K (bif b then .skp else v) := by cases b <;> rfl

def gdTT (b1 b2 : Bool) (o : Option AV) (K : AV → Prop) : Prop := gdB (b1 && b2) o K
@[congr] theorem gdTT_congr {t0 : Nat} {b1 b2 b1' b2' : Bool} {p1 p2 : Prop} {o o' : Option AV} {K : AV → Prop} (e1 : b1 = b1') (q1 : (b1' = true) = p1) (e2 : b1' = true → b2 = b2') (q2 : (b2' = true) = p2) (eo : b1' = true → b2' = true → p1 → p2 → o = o') (_ : tick = t0) : gdTT b1 b2 o K = gdTT b1' b2' o' K := by
  subst q1 q2
  unfold gdTT
  have f1 := e1
  subst f1
  cases b1
  · simp [gdB]
  · have f2 := e2 rfl
    subst f2
    cases b2
    · simp [gdB]
    · rw [eo rfl rfl rfl rfl]
@[simp ↓] theorem gdL_gdTT {b1 b2 : Bool} {o : Option AV} {K : AV → Prop} : gdL (bif b1 then .bool b2 else .skp) true o K = gdTT b1 b2 o K := by cases b1 <;> cases b2 <;> rfl
@[simp ↓] theorem gdTT_some {b1 b2 : Bool} {v : AV} {K : AV → Prop} : gdTT b1 b2 (some v) K = K (bif b1 then (bif b2 then v else .skp) else .skp) := by cases b1 <;> cases b2 <;> rfl
def gdTF (b1 b2 : Bool) (o : Option AV) (K : AV → Prop) : Prop := gdB (b1 && !b2) o K
@[congr] theorem gdTF_congr {t0 : Nat} {b1 b2 b1' b2' : Bool} {p1 p2 : Prop} {o o' : Option AV} {K : AV → Prop} (e1 : b1 = b1') (q1 : (b1' = true) = p1) (e2 : b1' = true → b2 = b2') (q2 : (b2' = false) = p2) (eo : b1' = true → b2' = false → p1 → p2 → o = o') (_ : tick = t0) : gdTF b1 b2 o K = gdTF b1' b2' o' K := by
  subst q1 q2
  unfold gdTF
  have f1 := e1
  subst f1
  cases b1
  · simp [gdB]
  · have f2 := e2 rfl
    subst f2
    cases b2
    · rw [eo rfl rfl rfl rfl]
    · simp [gdB]
@[simp ↓] theorem gdL_gdTF {b1 b2 : Bool} {o : Option AV} {K : AV → Prop} : gdL (bif b1 then .bool b2 else .skp) false o K = gdTF b1 b2 o K := by cases b1 <;> cases b2 <;> rfl
@[simp ↓] theorem gdTF_some {b1 b2 : Bool} {v : AV} {K : AV → Prop} : gdTF b1 b2 (some v) K = K (bif b1 then (bif b2 then .skp else v) else .skp) := by cases b1 <;> cases b2 <;> rfl
def gdFT (b1 b2 : Bool) (o : Option AV) (K : AV → Prop) : Prop := gdB (!b1 && b2) o K
@[congr] theorem gdFT_congr {t0 : Nat} {b1 b2 b1' b2' : Bool} {p1 p2 : Prop} {o o' : Option AV} {K : AV → Prop} (e1 : b1 = b1') (q1 : (b1' = false) = p1) (e2 : b1' = false → b2 = b2') (q2 : (b2' = true) = p2) (eo : b1' = false → b2' = true → p1 → p2 → o = o') (_ : tick = t0) : gdFT b1 b2 o K = gdFT b1' b2' o' K := by
  subst q1 q2
  unfold gdFT
  have f1 := e1
  subst f1
  cases b1
  · have f2 := e2 rfl
    subst f2
    cases b2
    · simp [gdB]
    · rw [eo rfl rfl rfl rfl]
  · simp [gdB]
@[simp ↓] theorem gdL_gdFT {b1 b2 : Bool} {o : Option AV} {K : AV → Prop} : gdL (bif b1 then .skp else .bool b2) true o K = gdFT b1 b2 o K := by cases b1 <;> cases b2 <;> rfl
@[simp ↓] theorem gdFT_some {b1 b2 : Bool} {v : AV} {K : AV → Prop} : gdFT b1 b2 (some v) K = K (bif b1 then .skp else (bif b2 then v else .skp)) := by cases b1 <;> cases b2 <;> rfl
def gdFF (b1 b2 : Bool) (o : Option AV) (K : AV → Prop) : Prop := gdB (!b1 && !b2) o K
@[congr] theorem gdFF_congr {t0 : Nat} {b1 b2 b1' b2' : Bool} {p1 p2 : Prop} {o o' : Option AV} {K : AV → Prop} (e1 : b1 = b1') (q1 : (b1' = false) = p1) (e2 : b1' = false → b2 = b2') (q2 : (b2' = false) = p2) (eo : b1' = false → b2' = false → p1 → p2 → o = o') (_ : tick = t0) : gdFF b1 b2 o K = gdFF b1' b2' o' K := by
  subst q1 q2
  unfold gdFF
  have f1 := e1
  subst f1
  cases b1
  · have f2 := e2 rfl
    subst f2
    cases b2
    · rw [eo rfl rfl rfl rfl]
    · simp [gdB]
  · simp [gdB]
@[simp ↓] theorem gdL_gdFF {b1 b2 : Bool} {o : Option AV} {K : AV → Prop} : gdL (bif b1 then .skp else .bool b2) false o K = gdFF b1 b2 o K := by cases b1 <;> cases b2 <;> rfl
@[simp ↓] theorem gdFF_some {b1 b2 : Bool} {v : AV} {K : AV → Prop} : gdFF b1 b2 (some v) K = K (bif b1 then .skp else (bif b2 then .skp else v)) := by cases b1 <;> cases b2 <;> rfl
def gdTTT (b1 b2 b3 : Bool) (o : Option AV) (K : AV → Prop) : Prop := gdB (b1 && b2 && b3) o K
@[congr] theorem gdTTT_congr {t0 : Nat} {b1 b2 b3 b1' b2' b3' : Bool} {p1 p2 p3 : Prop} {o o' : Option AV} {K : AV → Prop} (e1 : b1 = b1') (q1 : (b1' = true) = p1) (e2 : b1' = true → b2 = b2') (q2 : (b2' = true) = p2) (e3 : b1' = true → b2' = true → b3 = b3') (q3 : (b3' = true) = p3) (eo : b1' = true → b2' = true → b3' = true → p1 → p2 → p3 → o = o') (_ : tick = t0) : gdTTT b1 b2 b3 o K = gdTTT b1' b2' b3' o' K := by
  subst q1 q2 q3
  unfold gdTTT
  have f1 := e1
  subst f1
  cases b1
  · simp [gdB]
  · have f2 := e2 rfl
    subst f2
    cases b2
    · simp [gdB]
    · have f3 := e3 rfl rfl
      subst f3
      cases b3
      · simp [gdB]
      · rw [eo rfl rfl rfl rfl rfl rfl]
@[simp ↓] theorem gdL_gdTTT {b1 b2 b3 : Bool} {o : Option AV} {K : AV → Prop} : gdL (bif b1 then (bif b2 then .bool b3 else .skp) else .skp) true o K = gdTTT b1 b2 b3 o K := by cases b1 <;> cases b2 <;> cases b3 <;> rfl
@[simp ↓] theorem gdTTT_some {b1 b2 b3 : Bool} {v : AV} {K : AV → Prop} : gdTTT b1 b2 b3 (some v) K = K (bif b1 then (bif b2 then (bif b3 then v else .skp) else .skp) else .skp) := by cases b1 <;> cases b2 <;> cases b3 <;> rfl
def gdTTF (b1 b2 b3 : Bool) (o : Option AV) (K : AV → Prop) : Prop := gdB (b1 && b2 && !b3) o K
@[congr] theorem gdTTF_congr {t0 : Nat} {b1 b2 b3 b1' b2' b3' : Bool} {p1 p2 p3 : Prop} {o o' : Option AV} {K : AV → Prop} (e1 : b1 = b1') (q1 : (b1' = true) = p1) (e2 : b1' = true → b2 = b2') (q2 : (b2' = true) = p2) (e3 : b1' = true → b2' = true → b3 = b3') (q3 : (b3' = false) = p3) (eo : b1' = true → b2' = true → b3' = false → p1 → p2 → p3 → o = o') (_ : tick = t0) : gdTTF b1 b2 b3 o K = gdTTF b1' b2' b3' o' K := by
  subst q1 q2 q3
  unfold gdTTF
  have f1 := e1
  subst f1
  cases b1
  · simp [gdB]
  · have f2 := e2 rfl
    subst f2
    cases b2
    · simp [gdB]
    · have f3 := e3 rfl rfl
      subst f3
      cases b3
      · rw [eo rfl rfl rfl rfl rfl rfl]
      · simp [gdB]
@[simp ↓] theorem gdL_gdTTF {b1 b2 b3 : Bool} {o : Option AV} {K : AV → Prop} : gdL (bif b1 then (bif b2 then .bool b3 else .skp) else .skp) false o K = gdTTF b1 b2 b3 o K := by cases b1 <;> cases b2 <;> cases b3 <;> rfl
@[simp ↓] theorem gdTTF_some {b1 b2 b3 : Bool} {v : AV} {K : AV → Prop} : gdTTF b1 b2 b3 (some v) K = K (bif b1 then (bif b2 then (bif b3 then .skp else v) else .skp) else .skp) := by cases b1 <;> cases b2 <;> cases b3 <;> rfl
def gdTFT (b1 b2 b3 : Bool) (o : Option AV) (K : AV → Prop) : Prop := gdB (b1 && !b2 && b3) o K
@[congr] theorem gdTFT_congr {t0 : Nat} {b1 b2 b3 b1' b2' b3' : Bool} {p1 p2 p3 : Prop} {o o' : Option AV} {K : AV → Prop} (e1 : b1 = b1') (q1 : (b1' = true) = p1) (e2 : b1' = true → b2 = b2') (q2 : (b2' = false) = p2) (e3 : b1' = true → b2' = false → b3 = b3') (q3 : (b3' = true) = p3) (eo : b1' = true → b2' = false → b3' = true → p1 → p2 → p3 → o = o') (_ : tick = t0) : gdTFT b1 b2 b3 o K = gdTFT b1' b2' b3' o' K := by
  subst q1 q2 q3
  unfold gdTFT
  have f1 := e1
  subst f1
  cases b1
  · simp [gdB]
  · have f2 := e2 rfl
    subst f2
    cases b2
    · have f3 := e3 rfl rfl
      subst f3
      cases b3
      · simp [gdB]
      · rw [eo rfl rfl rfl rfl rfl rfl]
    · simp [gdB]
@[simp ↓] theorem gdL_gdTFT {b1 b2 b3 : Bool} {o : Option AV} {K : AV → Prop} : gdL (bif b1 then (bif b2 then .skp else .bool b3) else .skp) true o K = gdTFT b1 b2 b3 o K := by cases b1 <;> cases b2 <;> cases b3 <;> rfl
@[simp ↓] theorem gdTFT_some {b1 b2 b3 : Bool} {v : AV} {K : AV → Prop} : gdTFT b1 b2 b3 (some v) K = K (bif b1 then (bif b2 then .skp else (bif b3 then v else .skp)) else .skp) := by cases b1 <;> cases b2 <;> cases b3 <;> rfl
def gdTFF (b1 b2 b3 : Bool) (o : Option AV) (K : AV → Prop) : Prop := gdB (b1 && !b2 && !b3) o K
@[congr] theorem gdTFF_congr {t0 : Nat} {b1 b2 b3 b1' b2' b3' : Bool} {p1 p2 p3 : Prop} {o o' : Option AV} {K : AV → Prop} (e1 : b1 = b1') (q1 : (b1' = true) = p1) (e2 : b1' = true → b2 = b2') (q2 : (b2' = false) = p2) (e3 : b1' = true → b2' = false → b3 = b3') (q3 : (b3' = false) = p3) (eo : b1' = true → b2' = false → b3' = false → p1 → p2 → p3 → o = o') (_ : tick = t0) : gdTFF b1 b2 b3 o K = gdTFF b1' b2' b3' o' K := by
  subst q1 q2 q3
  unfold gdTFF
  have f1 := e1
  subst f1
  cases b1
  · simp [gdB]
  · have f2 := e2 rfl
    subst f2
    cases b2
    · have f3 := e3 rfl rfl
      subst f3
      cases b3
      · rw [eo rfl rfl rfl rfl rfl rfl]
      · simp [gdB]
    · simp [gdB]
@[simp ↓] theorem gdL_gdTFF {b1 b2 b3 : Bool} {o : Option AV} {K : AV → Prop} : gdL (bif b1 then (bif b2 then .skp else .bool b3) else .skp) false o K = gdTFF b1 b2 b3 o K := by cases b1 <;> cases b2 <;> cases b3 <;> rfl
@[simp ↓] theorem gdTFF_some {b1 b2 b3 : Bool} {v : AV} {K : AV → Prop} : gdTFF b1 b2 b3 (some v) K = K (bif b1 then (bif b2 then .skp else (bif b3 then .skp else v)) else .skp) := by cases b1 <;> cases b2 <;> cases b3 <;> rfl
def gdFTT (b1 b2 b3 : Bool) (o : Option AV) (K : AV → Prop) : Prop := gdB (!b1 && b2 && b3) o K
@[congr] theorem gdFTT_congr {t0 : Nat} {b1 b2 b3 b1' b2' b3' : Bool} {p1 p2 p3 : Prop} {o o' : Option AV} {K : AV → Prop} (e1 : b1 = b1') (q1 : (b1' = false) = p1) (e2 : b1' = false → b2 = b2') (q2 : (b2' = true) = p2) (e3 : b1' = false → b2' = true → b3 = b3') (q3 : (b3' = true) = p3) (eo : b1' = false → b2' = true → b3' = true → p1 → p2 → p3 → o = o') (_ : tick = t0) : gdFTT b1 b2 b3 o K = gdFTT b1' b2' b3' o' K := by
  subst q1 q2 q3
  unfold gdFTT
  have f1 := e1
  subst f1
  cases b1
  · have f2 := e2 rfl
    subst f2
    cases b2
    · simp [gdB]
    · have f3 := e3 rfl rfl
      subst f3
      cases b3
      · simp [gdB]
      · rw [eo rfl rfl rfl rfl rfl rfl]
  · simp [gdB]
@[simp ↓] theorem gdL_gdFTT {b1 b2 b3 : Bool} {o : Option AV} {K : AV → Prop} : gdL (bif b1 then .skp else (bif b2 then .bool b3 else .skp)) true o K = gdFTT b1 b2 b3 o K := by cases b1 <;> cases b2 <;> cases b3 <;> rfl
@[simp ↓] theorem gdFTT_some {b1 b2 b3 : Bool} {v : AV} {K : AV → Prop} : gdFTT b1 b2 b3 (some v) K = K (bif b1 then .skp else (bif b2 then (bif b3 then v else .skp) else .skp)) := by cases b1 <;> cases b2 <;> cases b3 <;> rfl
def gdFTF (b1 b2 b3 : Bool) (o : Option AV) (K : AV → Prop) : Prop := gdB (!b1 && b2 && !b3) o K
@[congr] theorem gdFTF_congr {t0 : Nat} {b1 b2 b3 b1' b2' b3' : Bool} {p1 p2 p3 : Prop} {o o' : Option AV} {K : AV → Prop} (e1 : b1 = b1') (q1 : (b1' = false) = p1) (e2 : b1' = false → b2 = b2') (q2 : (b2' = true) = p2) (e3 : b1' = false → b2' = true → b3 = b3') (q3 : (b3' = false) = p3) (eo : b1' = false → b2' = true → b3' = false → p1 → p2 → p3 → o = o') (_ : tick = t0) : gdFTF b1 b2 b3 o K = gdFTF b1' b2' b3' o' K := by
  subst q1 q2 q3
  unfold gdFTF
  have f1 := e1
  subst f1
  cases b1
  · have f2 := e2 rfl
    subst f2
    cases b2
    · simp [gdB]
    · have f3 := e3 rfl rfl
      subst f3
      cases b3
      · rw [eo rfl rfl rfl rfl rfl rfl]
      · simp [gdB]
  · simp [gdB]
@[simp ↓] theorem gdL_gdFTF {b1 b2 b3 : Bool} {o : Option AV} {K : AV → Prop} : gdL (bif b1 then .skp else (bif b2 then .bool b3 else .skp)) false o K = gdFTF b1 b2 b3 o K := by cases b1 <;> cases b2 <;> cases b3 <;> rfl
@[simp ↓] theorem gdFTF_some {b1 b2 b3 : Bool} {v : AV} {K : AV → Prop} : gdFTF b1 b2 b3 (some v) K = K (bif b1 then .skp else (bif b2 then (bif b3 then .skp else v) else .skp)) := by cases b1 <;> cases b2 <;> cases b3 <;> rfl
def gdFFT (b1 b2 b3 : Bool) (o : Option AV) (K : AV → Prop) : Prop := gdB (!b1 && !b2 && b3) o K
@[congr] theorem gdFFT_congr {t0 : Nat} {b1 b2 b3 b1' b2' b3' : Bool} {p1 p2 p3 : Prop} {o o' : Option AV} {K : AV → Prop} (e1 : b1 = b1') (q1 : (b1' = false) = p1) (e2 : b1' = false → b2 = b2') (q2 : (b2' = false) = p2) (e3 : b1' = false → b2' = false → b3 = b3') (q3 : (b3' = true) = p3) (eo : b1' = false → b2' = false → b3' = true → p1 → p2 → p3 → o = o') (_ : tick = t0) : gdFFT b1 b2 b3 o K = gdFFT b1' b2' b3' o' K := by
  subst q1 q2 q3
  unfold gdFFT
  have f1 := e1
  subst f1
  cases b1
  · have f2 := e2 rfl
    subst f2
    cases b2
    · have f3 := e3 rfl rfl
      subst f3
      cases b3
      · simp [gdB]
      · rw [eo rfl rfl rfl rfl rfl rfl]
    · simp [gdB]
  · simp [gdB]
@[simp ↓] theorem gdL_gdFFT {b1 b2 b3 : Bool} {o : Option AV} {K : AV → Prop} : gdL (bif b1 then .skp else (bif b2 then .skp else .bool b3)) true o K = gdFFT b1 b2 b3 o K := by cases b1 <;> cases b2 <;> cases b3 <;> rfl
@[simp ↓] theorem gdFFT_some {b1 b2 b3 : Bool} {v : AV} {K : AV → Prop} : gdFFT b1 b2 b3 (some v) K = K (bif b1 then .skp else (bif b2 then .skp else (bif b3 then v else .skp))) := by cases b1 <;> cases b2 <;> cases b3 <;> rfl
def gdFFF (b1 b2 b3 : Bool) (o : Option AV) (K : AV → Prop) : Prop := gdB (!b1 && !b2 && !b3) o K
@[congr] theorem gdFFF_congr {t0 : Nat} {b1 b2 b3 b1' b2' b3' : Bool} {p1 p2 p3 : Prop} {o o' : Option AV} {K : AV → Prop} (e1 : b1 = b1') (q1 : (b1' = false) = p1) (e2 : b1' = false → b2 = b2') (q2 : (b2' = false) = p2) (e3 : b1' = false → b2' = false → b3 = b3') (q3 : (b3' = false) = p3) (eo : b1' = false → b2' = false → b3' = false → p1 → p2 → p3 → o = o') (_ : tick = t0) : gdFFF b1 b2 b3 o K = gdFFF b1' b2' b3' o' K := by
  subst q1 q2 q3
  unfold gdFFF
  have f1 := e1
  subst f1
  cases b1
  · have f2 := e2 rfl
    subst f2
    cases b2
    · have f3 := e3 rfl rfl
      subst f3
      cases b3
      · rw [eo rfl rfl rfl rfl rfl rfl]
      · simp [gdB]
    · simp [gdB]
  · simp [gdB]
@[simp ↓] theorem gdL_gdFFF {b1 b2 b3 : Bool} {o : Option AV} {K : AV → Prop} : gdL (bif b1 then .skp else (bif b2 then .skp else .bool b3)) false o K = gdFFF b1 b2 b3 o K := by cases b1 <;> cases b2 <;> cases b3 <;> rfl
@[simp ↓] theorem gdFFF_some {b1 b2 b3 : Bool} {v : AV} {K : AV → Prop} : gdFFF b1 b2 b3 (some v) K = K (bif b1 then .skp else (bif b2 then .skp else (bif b3 then .skp else v))) := by cases b1 <;> cases b2 <;> cases b3 <;> rfl

/-- A choice, by a bool. -/
def pickV (c x y : AV) : Option AV :=
  match c with
  | .bool t => some (bif t then x else y)
  | _ => none
@[simp ↓] theorem pv_pick {c a b : Opd} {e : Opd → AV} {h : H} : pv (.pick c a b) e h = pickV (e c) (e a) (e b) := by
  cases hc : e c <;> simp only [pv, pickV, hc]
  rename_i t
  cases t <;> rfl
@[simp] theorem pickV_bool {t : Bool} {x y : AV} : pickV (.bool t) x y = some (bif t then x else y) := rfl
theorem cond_ctx {α : Type} {b b' : Bool} {x x' y y' : α} (e : b = b') (ex : b' = true → x = x') (ey : b' = false → y = y') : (bif b then x else y) = bif b' then x' else y' := by
  subst e
  cases b
  · exact ey rfl
  · exact ex rfl
@[simp] theorem cond_same_r {α : Type} {b : Bool} {x y z : α} : (bif b then x else bif b then y else z) = bif b then x else z := by cases b <;> rfl
@[simp] theorem cond_same_l {α : Type} {b : Bool} {x y z : α} : (bif b then (bif b then x else y) else z) = bif b then x else z := by cases b <;> rfl
@[simp] theorem cond_boolV {p : Bool} {a b : Bool} : (bif p then AV.bool a else AV.bool b) = AV.bool (bif p then a else b) := by cases p <;> rfl
@[simp] theorem cond_intV {p : Bool} {k : IntKind} {a b : Int} : (bif p then AV.int k a else AV.int k b) = AV.int k (bif p then a else b) := by cases p <;> rfl

section
variable {P : Program}

theorem wpI_light {op : IOp} (hl : op.lt = true) {e : Opd → AV} {h : H} {K : AV → H → Prop} : wpI P op e h K = ob (pv op e h) fun v => K v h := by
  cases op <;> first | rfl | cases hl

theorem RO_guardL {d : Option Nat} {op : IOp} {t : Nat} {b : Bool} {is : List Ins} {s : Slots} {h : H} {Q : Slots → H → Prop} (hl : op.lt = true) :
    RO P (⟨d, some (t, b), op⟩ :: is) s h Q = gdL (s t) b (pv op (ev s) h) fun v => RO P is (put s d v) h Q := by
  rw [RO_guard, wpI_light hl]
  rfl

theorem RO_guardH {d : Option Nat} {op : IOp} {t : Nat} {b : Bool} {is : List Ins} {s : Slots} {h : H} {Q : Slots → H → Prop} (_ : op.lt = false) :
    RO P (⟨d, some (t, b), op⟩ :: is) s h Q = gdQ (s t) b (wpI P op (ev s) h fun v h1 => RO P is (put s d v) h1 Q) (RO P is (put s d .skp) h Q) := RO_guard

/-- A guarded call of a function of plain values: both ways at once. -/
theorem gdQ_callT {b : Bool} {F : FuncId} {first caps args as' : List AV} {h : H} {r : AV} {K : AV → H → Prop} {B : Prop} (hB : B = K .skp h) (hc : b = true → SCall P F as' h r h) (ha : b = true → (first ++ args ++ caps).map wk = as') (hk : K (bif b then r else .skp) h) :
    gdQ (.bool b) true (callQ P (.fn F first caps) args h K) B := by
  subst hB
  cases b
  · exact hk
  · exact callQ_s (hc rfl) (ha rfl) hk
theorem gdQ_callF {b : Bool} {F : FuncId} {first caps args as' : List AV} {h : H} {r : AV} {K : AV → H → Prop} {B : Prop} (hB : B = K .skp h) (hc : b = false → SCall P F as' h r h) (ha : b = false → (first ++ args ++ caps).map wk = as') (hk : K (bif b then .skp else r) h) :
    gdQ (.bool b) false (callQ P (.fn F first caps) args h K) B := by
  subst hB
  cases b
  · exact callQ_s (hc rfl) (ha rfl) hk
  · exact hk

/-! ### Drawn regions that leave the state as it is -/
/-- A call that leaves the state as it is. -/
def callC (P : Program) (f : AV) (args : List AV) (h : H) (K : AV → Prop) : Prop := ∃ v, CallR P f args h v h ∧ K v
def wpC (P : Program) (op : IOp) (e : Opd → AV) (h : H) (K : AV → Prop) : Prop :=
  match op with
  | .call f args => callC P (e f) (args.map e) h K
  | .alloc _ | .box _ | .store .. | .append .. | .mksl .. | .mkmap | .mapup .. => False
  | op => ob (pv op e h) K
def RL (P : Program) : List Ins → Slots → H → (Slots → Prop) → Prop
  | [], s, _, Q => Q s
  | x :: is, s, h, Q => gd x.g s (wpC P x.op (ev s) h fun v => RL P is (put s x.dst v) h Q) (RL P is (put s x.dst .skp) h Q)

theorem wpC_sound {op : IOp} {e : Opd → AV} {h : H} {K : AV → Prop} (hw : wpC P op e h K) : ∃ v, InsR P e h op v h ∧ K v := by
  have hp : ob (pv op e h) K → ∃ v, InsR P e h op v h ∧ K v := fun hw => by
    cases hv : pv op e h with
    | none => rw [hv] at hw; exact hw.elim
    | some v => rw [hv] at hw; exact ⟨v, .pure op v hv, hw⟩
  cases op with
  | call f args =>
    obtain ⟨v, q1, q2⟩ := hw
    refine ⟨v, ?_, q2⟩
    simp only [CallR] at q1
    split at q1
    · rename_i F first caps hf
      exact .callF f args F first caps v h hf q1
    · rename_i l hl
      exact .callY f args l v h hl q1
    · exact q1.elim
  | alloc z => exact hw.elim
  | box x => exact hw.elim
  | store n a x => exact hw.elim
  | append a b c d => exact hw.elim
  | mksl a b c d f => exact hw.elim
  | mkmap => exact hw.elim
  | mapup a b c => exact hw.elim
  | _ => exact hp hw

theorem RL_vals : ∀ {is : List Ins} {s : Slots} {h : H} {Q : Slots → Prop}, RL P is s h Q → ∃ vs : List AV, vs.length = is.length ∧ Q (slN is (fun i => vs.getD i .undef) s (txt is.length)) ∧
    ∀ i, i < is.length → ∀ x, is[i]? = some x → StepR P x (slN is (fun i => vs.getD i .undef) s (txt i)) h (vs.getD i .undef) h
  | [], s, h, Q, hr => ⟨[], rfl, by simpa [txt, slN, RL] using hr, fun i hi => by simp at hi⟩
  | x :: is, s, h, Q, hr => by
    have fin : ∀ {v : AV}, StepR P x s h v h → RL P is (put s x.dst v) h Q → ∃ vs : List AV, vs.length = (x :: is).length ∧ Q (slN (x :: is) (fun i => vs.getD i .undef) s (txt (x :: is).length)) ∧
        ∀ i, i < (x :: is).length → ∀ y, (x :: is)[i]? = some y → StepR P y (slN (x :: is) (fun i => vs.getD i .undef) s (txt i)) h (vs.getD i .undef) h := fun {v} hst hr => by
      obtain ⟨vs, h1, h2, h3⟩ := RL_vals hr
      refine ⟨v :: vs, by simp [h1], by rw [List.length_cons, slN_cons]; exact h2, fun i hi y hy => ?_⟩
      cases i with
      | zero =>
        simp only [List.getElem?_cons_zero, Option.some.injEq] at hy
        subst hy
        exact hst
      | succ i =>
        have := h3 i (by simpa using hi) y (by simpa using hy)
        rw [slN_cons]
        simpa using this
    rcases gd_sound hr with ⟨t, b, q1, q2, q3⟩ | ⟨q1, q2⟩
    · exact fin (.inl ⟨t, b, q1, q2, rfl, rfl⟩) q3
    · obtain ⟨v, p1, p2⟩ := wpC_sound q2
      exact fin (.inr ⟨q1, p1⟩) p2

def allLt (ms : List Mark) : Bool := ms.all fun m => !m.hv
theorem allLt_hv {ms : List Mark} (h : allLt ms = true) (i : Nat) : isHv ms i = false := by
  unfold isHv
  cases hm : ms[i]? with
  | none => rfl
  | some m =>
    have := List.all_eq_true.1 h m (List.mem_of_getElem? hm)
    simpa using this
theorem allLt_hc {ms : List Mark} (h : allLt ms = true) : ∀ i, hcN ms i = 0
  | 0 => rfl
  | i + 1 => by simp [hcN, allLt_hc h i, allLt_hv h i]

variable {inr : Bool} {k : List It} {Q : Res → Slots → H → Prop} {s : Slots} {h : H}
theorem run_dregL {is : List Ins} {aft : List (List Nat)} {ms : List Mark} (hf : drawFine is aft ms = true) (hl : allLt ms = true) (hr : RL P is s h fun s1 => Run P inr k Q s1 h) : Run P inr (.c (.dreg is aft) :: k) Q s h := by
  obtain ⟨vs, h1, h2, h3⟩ := RL_vals hr
  refine .dreg (fun s1 h1 => s1 = slN is (fun i => vs.getD i .undef) s (txt is.length) ∧ h1 = h) (fun t ht xs hx => ⟨_, _, draw_sound (P := P) hf (v := fun i => vs.getD i .undef) (hs := fun _ => h) (s := s) (fun i hi x hx => ?_) t ht xs hx, rfl, rfl⟩) (by rintro s1 h1 ⟨rfl, rfl⟩; exact h2)
  rw [if_neg (by rw [allLt_hv hl]; simp)]
  exact fun _ _ _ _ => h3 i hi x hx

@[simp ↓] theorem RL_nil {Q : Slots → Prop} : RL P [] s h Q = Q s := rfl
@[simp ↓] theorem RL_call {d : Option Nat} {f : Opd} {a : List Opd} {is : List Ins} {Q : Slots → Prop} : RL P (⟨d, none, .call f a⟩ :: is) s h Q = callC P (ev s f) (a.map (ev s)) h fun v => RL P is (put s d v) h Q := rfl
@[simp ↓] theorem RL_callG {d : Option Nat} {f : Opd} {a : List Opd} {t : Nat} {b : Bool} {is : List Ins} {Q : Slots → Prop} : RL P (⟨d, some (t, b), .call f a⟩ :: is) s h Q = gdQ (s t) b (callC P (ev s f) (a.map (ev s)) h fun v => RL P is (put s d v) h Q) (RL P is (put s d .skp) h Q) := rfl
theorem wpC_light {op : IOp} (hl : op.lt = true) {e : Opd → AV} {K : AV → Prop} : wpC P op e h K = ob (pv op e h) K := by
  cases op <;> first | rfl | cases hl
theorem RL_cons {d : Option Nat} {op : IOp} {is : List Ins} {Q : Slots → Prop} (hl : op.lt = true) : RL P (⟨d, none, op⟩ :: is) s h Q = ob (pv op (ev s) h) fun v => RL P is (put s d v) h Q := by
  rw [← wpC_light (P := P) hl]; rfl
theorem RL_guard {d : Option Nat} {op : IOp} {t : Nat} {b : Bool} {is : List Ins} {Q : Slots → Prop} (hl : op.lt = true) : RL P (⟨d, some (t, b), op⟩ :: is) s h Q = gdL (s t) b (pv op (ev s) h) fun v => RL P is (put s d v) h Q := by
  unfold gdL
  rw [← wpC_light (P := P) hl]; rfl
@[congr] theorem callC_congr {t0 : Nat} {f f' : AV} {a a' : List AV} {h h1 : H} {K : AV → Prop} (e : f = f') (e' : a = a') (eh : h = h1) (_ : tick = t0) : callC P f a h K = callC P f' a' h1 K := by rw [e, e', eh]
theorem callC_s {F : FuncId} {first caps args as' : List AV} {r : AV} {K : AV → Prop} (hc : SCall P F as' h r h) (ha : (first ++ args ++ caps).map wk = as') (hk : K r) : callC P (.fn F first caps) args h K :=
  ⟨r, SCall.wk (by rw [ha]; exact hc), hk⟩
theorem callC_p {F : FuncId} {first caps args as' : List AV} {r : AV} {K : AV → Prop} (hc : PCall P F as' r) (ha : (first ++ args ++ caps).map wk = as') (hk : K r) : callC P (.fn F first caps) args h K := callC_s (hc h) ha hk
theorem gdC_T {b : Bool} {F : FuncId} {first caps args as' : List AV} {r : AV} {K : AV → Prop} {B : Prop} (hB : B = K .skp) (hc : b = true → SCall P F as' h r h) (ha : b = true → (first ++ args ++ caps).map wk = as') (hk : K (bif b then r else .skp)) :
    gdQ (.bool b) true (callC P (.fn F first caps) args h K) B := by
  subst hB
  cases b
  · exact hk
  · exact callC_s (hc rfl) (ha rfl) hk
theorem gdC_F {b : Bool} {F : FuncId} {first caps args as' : List AV} {r : AV} {K : AV → Prop} {B : Prop} (hB : B = K .skp) (hc : b = false → SCall P F as' h r h) (ha : b = false → (first ++ args ++ caps).map wk = as') (hk : K (bif b then .skp else r)) :
    gdQ (.bool b) false (callC P (.fn F first caps) args h K) B := by
  subst hB
  cases b
  · exact callC_s (hc rfl) (ha rfl) hk
  · exact hk

/-! ### Operation by operation -/
@[simp ↓] theorem ROg_mov {d : Option Nat} {t : Nat} {b : Bool} {is : List Ins} {s : Slots} {h : H} {x : Opd} {Q : Slots → H → Prop} : RO P (⟨d, some (t, b), .mov x⟩ :: is) s h Q = gdL (s t) b (pv (.mov x) (ev s) h) fun v => RO P is (put s d v) h Q := RO_guardL rfl
@[simp ↓] theorem RLc_mov {d : Option Nat} {is : List Ins} {s : Slots} {h : H} {x : Opd} {Q : Slots → Prop} : RL P (⟨d, none, .mov x⟩ :: is) s h Q = ob (pv (.mov x) (ev s) h) fun v => RL P is (put s d v) h Q := RL_cons rfl
@[simp ↓] theorem RLg_mov {d : Option Nat} {t : Nat} {b : Bool} {is : List Ins} {s : Slots} {h : H} {x : Opd} {Q : Slots → Prop} : RL P (⟨d, some (t, b), .mov x⟩ :: is) s h Q = gdL (s t) b (pv (.mov x) (ev s) h) fun v => RL P is (put s d v) h Q := RL_guard rfl
@[simp ↓] theorem ROg_pick {d : Option Nat} {t : Nat} {b : Bool} {is : List Ins} {s : Slots} {h : H} {c a b' : Opd} {Q : Slots → H → Prop} : RO P (⟨d, some (t, b), .pick c a b'⟩ :: is) s h Q = gdL (s t) b (pv (.pick c a b') (ev s) h) fun v => RO P is (put s d v) h Q := RO_guardL rfl
@[simp ↓] theorem RLc_pick {d : Option Nat} {is : List Ins} {s : Slots} {h : H} {c a b' : Opd} {Q : Slots → Prop} : RL P (⟨d, none, .pick c a b'⟩ :: is) s h Q = ob (pv (.pick c a b') (ev s) h) fun v => RL P is (put s d v) h Q := RL_cons rfl
@[simp ↓] theorem RLg_pick {d : Option Nat} {t : Nat} {b : Bool} {is : List Ins} {s : Slots} {h : H} {c a b' : Opd} {Q : Slots → Prop} : RL P (⟨d, some (t, b), .pick c a b'⟩ :: is) s h Q = gdL (s t) b (pv (.pick c a b') (ev s) h) fun v => RL P is (put s d v) h Q := RL_guard rfl
@[simp ↓] theorem ROg_build {d : Option Nat} {t : Nat} {b : Bool} {is : List Ins} {s : Slots} {h : H} {z : List AV} {ps : List (Nat × Nat × Opd)} {Q : Slots → H → Prop} : RO P (⟨d, some (t, b), .build z ps⟩ :: is) s h Q = gdL (s t) b (pv (.build z ps) (ev s) h) fun v => RO P is (put s d v) h Q := RO_guardL rfl
@[simp ↓] theorem RLc_build {d : Option Nat} {is : List Ins} {s : Slots} {h : H} {z : List AV} {ps : List (Nat × Nat × Opd)} {Q : Slots → Prop} : RL P (⟨d, none, .build z ps⟩ :: is) s h Q = ob (pv (.build z ps) (ev s) h) fun v => RL P is (put s d v) h Q := RL_cons rfl
@[simp ↓] theorem RLg_build {d : Option Nat} {t : Nat} {b : Bool} {is : List Ins} {s : Slots} {h : H} {z : List AV} {ps : List (Nat × Nat × Opd)} {Q : Slots → Prop} : RL P (⟨d, some (t, b), .build z ps⟩ :: is) s h Q = gdL (s t) b (pv (.build z ps) (ev s) h) fun v => RL P is (put s d v) h Q := RL_guard rfl
@[simp ↓] theorem ROg_bsl {d : Option Nat} {t : Nat} {b : Bool} {is : List Ins} {s : Slots} {h : H} {sz l : Nat} {z : List AV} {ps : List (Nat × Opd)} {Q : Slots → H → Prop} : RO P (⟨d, some (t, b), .bsl sz l z ps⟩ :: is) s h Q = gdL (s t) b (pv (.bsl sz l z ps) (ev s) h) fun v => RO P is (put s d v) h Q := RO_guardL rfl
@[simp ↓] theorem RLc_bsl {d : Option Nat} {is : List Ins} {s : Slots} {h : H} {sz l : Nat} {z : List AV} {ps : List (Nat × Opd)} {Q : Slots → Prop} : RL P (⟨d, none, .bsl sz l z ps⟩ :: is) s h Q = ob (pv (.bsl sz l z ps) (ev s) h) fun v => RL P is (put s d v) h Q := RL_cons rfl
@[simp ↓] theorem RLg_bsl {d : Option Nat} {t : Nat} {b : Bool} {is : List Ins} {s : Slots} {h : H} {sz l : Nat} {z : List AV} {ps : List (Nat × Opd)} {Q : Slots → Prop} : RL P (⟨d, some (t, b), .bsl sz l z ps⟩ :: is) s h Q = gdL (s t) b (pv (.bsl sz l z ps) (ev s) h) fun v => RL P is (put s d v) h Q := RL_guard rfl
@[simp ↓] theorem ROg_load {d : Option Nat} {t : Nat} {b : Bool} {is : List Ins} {s : Slots} {h : H} {n : Nat} {ag : Bool} {x : Opd} {Q : Slots → H → Prop} : RO P (⟨d, some (t, b), .load n ag x⟩ :: is) s h Q = gdL (s t) b (pv (.load n ag x) (ev s) h) fun v => RO P is (put s d v) h Q := RO_guardL rfl
@[simp ↓] theorem RLc_load {d : Option Nat} {is : List Ins} {s : Slots} {h : H} {n : Nat} {ag : Bool} {x : Opd} {Q : Slots → Prop} : RL P (⟨d, none, .load n ag x⟩ :: is) s h Q = ob (pv (.load n ag x) (ev s) h) fun v => RL P is (put s d v) h Q := RL_cons rfl
@[simp ↓] theorem RLg_load {d : Option Nat} {t : Nat} {b : Bool} {is : List Ins} {s : Slots} {h : H} {n : Nat} {ag : Bool} {x : Opd} {Q : Slots → Prop} : RL P (⟨d, some (t, b), .load n ag x⟩ :: is) s h Q = gdL (s t) b (pv (.load n ag x) (ev s) h) fun v => RL P is (put s d v) h Q := RL_guard rfl
@[simp ↓] theorem ROg_bin {d : Option Nat} {t : Nat} {b : Bool} {is : List Ins} {s : Slots} {h : H} {o : BinOp} {x y : Opd} {Q : Slots → H → Prop} : RO P (⟨d, some (t, b), .bin o x y⟩ :: is) s h Q = gdL (s t) b (pv (.bin o x y) (ev s) h) fun v => RO P is (put s d v) h Q := RO_guardL rfl
@[simp ↓] theorem RLc_bin {d : Option Nat} {is : List Ins} {s : Slots} {h : H} {o : BinOp} {x y : Opd} {Q : Slots → Prop} : RL P (⟨d, none, .bin o x y⟩ :: is) s h Q = ob (pv (.bin o x y) (ev s) h) fun v => RL P is (put s d v) h Q := RL_cons rfl
@[simp ↓] theorem RLg_bin {d : Option Nat} {t : Nat} {b : Bool} {is : List Ins} {s : Slots} {h : H} {o : BinOp} {x y : Opd} {Q : Slots → Prop} : RL P (⟨d, some (t, b), .bin o x y⟩ :: is) s h Q = gdL (s t) b (pv (.bin o x y) (ev s) h) fun v => RL P is (put s d v) h Q := RL_guard rfl
@[simp ↓] theorem ROg_eq {d : Option Nat} {t : Nat} {b : Bool} {is : List Ins} {s : Slots} {h : H} {ks : List LK} {a n : Bool} {x y : Opd} {Q : Slots → H → Prop} : RO P (⟨d, some (t, b), .eq ks a n x y⟩ :: is) s h Q = gdL (s t) b (pv (.eq ks a n x y) (ev s) h) fun v => RO P is (put s d v) h Q := RO_guardL rfl
@[simp ↓] theorem RLc_eq {d : Option Nat} {is : List Ins} {s : Slots} {h : H} {ks : List LK} {a n : Bool} {x y : Opd} {Q : Slots → Prop} : RL P (⟨d, none, .eq ks a n x y⟩ :: is) s h Q = ob (pv (.eq ks a n x y) (ev s) h) fun v => RL P is (put s d v) h Q := RL_cons rfl
@[simp ↓] theorem RLg_eq {d : Option Nat} {t : Nat} {b : Bool} {is : List Ins} {s : Slots} {h : H} {ks : List LK} {a n : Bool} {x y : Opd} {Q : Slots → Prop} : RL P (⟨d, some (t, b), .eq ks a n x y⟩ :: is) s h Q = gdL (s t) b (pv (.eq ks a n x y) (ev s) h) fun v => RL P is (put s d v) h Q := RL_guard rfl
@[simp ↓] theorem ROg_un {d : Option Nat} {t : Nat} {b : Bool} {is : List Ins} {s : Slots} {h : H} {o : UnOp} {x : Opd} {Q : Slots → H → Prop} : RO P (⟨d, some (t, b), .un o x⟩ :: is) s h Q = gdL (s t) b (pv (.un o x) (ev s) h) fun v => RO P is (put s d v) h Q := RO_guardL rfl
@[simp ↓] theorem RLc_un {d : Option Nat} {is : List Ins} {s : Slots} {h : H} {o : UnOp} {x : Opd} {Q : Slots → Prop} : RL P (⟨d, none, .un o x⟩ :: is) s h Q = ob (pv (.un o x) (ev s) h) fun v => RL P is (put s d v) h Q := RL_cons rfl
@[simp ↓] theorem RLg_un {d : Option Nat} {t : Nat} {b : Bool} {is : List Ins} {s : Slots} {h : H} {o : UnOp} {x : Opd} {Q : Slots → Prop} : RL P (⟨d, some (t, b), .un o x⟩ :: is) s h Q = gdL (s t) b (pv (.un o x) (ev s) h) fun v => RL P is (put s d v) h Q := RL_guard rfl
@[simp ↓] theorem ROg_conv {d : Option Nat} {t : Nat} {b : Bool} {is : List Ins} {s : Slots} {h : H} {k : IntKind} {x : Opd} {Q : Slots → H → Prop} : RO P (⟨d, some (t, b), .conv k x⟩ :: is) s h Q = gdL (s t) b (pv (.conv k x) (ev s) h) fun v => RO P is (put s d v) h Q := RO_guardL rfl
@[simp ↓] theorem RLc_conv {d : Option Nat} {is : List Ins} {s : Slots} {h : H} {k : IntKind} {x : Opd} {Q : Slots → Prop} : RL P (⟨d, none, .conv k x⟩ :: is) s h Q = ob (pv (.conv k x) (ev s) h) fun v => RL P is (put s d v) h Q := RL_cons rfl
@[simp ↓] theorem RLg_conv {d : Option Nat} {t : Nat} {b : Bool} {is : List Ins} {s : Slots} {h : H} {k : IntKind} {x : Opd} {Q : Slots → Prop} : RL P (⟨d, some (t, b), .conv k x⟩ :: is) s h Q = gdL (s t) b (pv (.conv k x) (ev s) h) fun v => RL P is (put s d v) h Q := RL_guard rfl
@[simp ↓] theorem ROg_b2s {d : Option Nat} {t : Nat} {b : Bool} {is : List Ins} {s : Slots} {h : H} {x : Opd} {Q : Slots → H → Prop} : RO P (⟨d, some (t, b), .b2s x⟩ :: is) s h Q = gdL (s t) b (pv (.b2s x) (ev s) h) fun v => RO P is (put s d v) h Q := RO_guardL rfl
@[simp ↓] theorem RLc_b2s {d : Option Nat} {is : List Ins} {s : Slots} {h : H} {x : Opd} {Q : Slots → Prop} : RL P (⟨d, none, .b2s x⟩ :: is) s h Q = ob (pv (.b2s x) (ev s) h) fun v => RL P is (put s d v) h Q := RL_cons rfl
@[simp ↓] theorem RLg_b2s {d : Option Nat} {t : Nat} {b : Bool} {is : List Ins} {s : Slots} {h : H} {x : Opd} {Q : Slots → Prop} : RL P (⟨d, some (t, b), .b2s x⟩ :: is) s h Q = gdL (s t) b (pv (.b2s x) (ev s) h) fun v => RL P is (put s d v) h Q := RL_guard rfl
@[simp ↓] theorem ROg_s2b {d : Option Nat} {t : Nat} {b : Bool} {is : List Ins} {s : Slots} {h : H} {x : Opd} {Q : Slots → H → Prop} : RO P (⟨d, some (t, b), .s2b x⟩ :: is) s h Q = gdL (s t) b (pv (.s2b x) (ev s) h) fun v => RO P is (put s d v) h Q := RO_guardL rfl
@[simp ↓] theorem RLc_s2b {d : Option Nat} {is : List Ins} {s : Slots} {h : H} {x : Opd} {Q : Slots → Prop} : RL P (⟨d, none, .s2b x⟩ :: is) s h Q = ob (pv (.s2b x) (ev s) h) fun v => RL P is (put s d v) h Q := RL_cons rfl
@[simp ↓] theorem RLg_s2b {d : Option Nat} {t : Nat} {b : Bool} {is : List Ins} {s : Slots} {h : H} {x : Opd} {Q : Slots → Prop} : RL P (⟨d, some (t, b), .s2b x⟩ :: is) s h Q = gdL (s t) b (pv (.s2b x) (ev s) h) fun v => RL P is (put s d v) h Q := RL_guard rfl
@[simp ↓] theorem ROg_faddr {d : Option Nat} {t : Nat} {b : Bool} {is : List Ins} {s : Slots} {h : H} {o : Nat} {x : Opd} {Q : Slots → H → Prop} : RO P (⟨d, some (t, b), .faddr o x⟩ :: is) s h Q = gdL (s t) b (pv (.faddr o x) (ev s) h) fun v => RO P is (put s d v) h Q := RO_guardL rfl
@[simp ↓] theorem RLc_faddr {d : Option Nat} {is : List Ins} {s : Slots} {h : H} {o : Nat} {x : Opd} {Q : Slots → Prop} : RL P (⟨d, none, .faddr o x⟩ :: is) s h Q = ob (pv (.faddr o x) (ev s) h) fun v => RL P is (put s d v) h Q := RL_cons rfl
@[simp ↓] theorem RLg_faddr {d : Option Nat} {t : Nat} {b : Bool} {is : List Ins} {s : Slots} {h : H} {o : Nat} {x : Opd} {Q : Slots → Prop} : RL P (⟨d, some (t, b), .faddr o x⟩ :: is) s h Q = gdL (s t) b (pv (.faddr o x) (ev s) h) fun v => RL P is (put s d v) h Q := RL_guard rfl
@[simp ↓] theorem ROg_fld {d : Option Nat} {t : Nat} {b : Bool} {is : List Ins} {s : Slots} {h : H} {o n : Nat} {a : Bool} {x : Opd} {Q : Slots → H → Prop} : RO P (⟨d, some (t, b), .fld o n a x⟩ :: is) s h Q = gdL (s t) b (pv (.fld o n a x) (ev s) h) fun v => RO P is (put s d v) h Q := RO_guardL rfl
@[simp ↓] theorem RLc_fld {d : Option Nat} {is : List Ins} {s : Slots} {h : H} {o n : Nat} {a : Bool} {x : Opd} {Q : Slots → Prop} : RL P (⟨d, none, .fld o n a x⟩ :: is) s h Q = ob (pv (.fld o n a x) (ev s) h) fun v => RL P is (put s d v) h Q := RL_cons rfl
@[simp ↓] theorem RLg_fld {d : Option Nat} {t : Nat} {b : Bool} {is : List Ins} {s : Slots} {h : H} {o n : Nat} {a : Bool} {x : Opd} {Q : Slots → Prop} : RL P (⟨d, some (t, b), .fld o n a x⟩ :: is) s h Q = gdL (s t) b (pv (.fld o n a x) (ev s) h) fun v => RL P is (put s d v) h Q := RL_guard rfl
@[simp ↓] theorem ROg_iaddr {d : Option Nat} {t : Nat} {b : Bool} {is : List Ins} {s : Slots} {h : H} {n : Nat} {x i : Opd} {Q : Slots → H → Prop} : RO P (⟨d, some (t, b), .iaddr n x i⟩ :: is) s h Q = gdL (s t) b (pv (.iaddr n x i) (ev s) h) fun v => RO P is (put s d v) h Q := RO_guardL rfl
@[simp ↓] theorem RLc_iaddr {d : Option Nat} {is : List Ins} {s : Slots} {h : H} {n : Nat} {x i : Opd} {Q : Slots → Prop} : RL P (⟨d, none, .iaddr n x i⟩ :: is) s h Q = ob (pv (.iaddr n x i) (ev s) h) fun v => RL P is (put s d v) h Q := RL_cons rfl
@[simp ↓] theorem RLg_iaddr {d : Option Nat} {t : Nat} {b : Bool} {is : List Ins} {s : Slots} {h : H} {n : Nat} {x i : Opd} {Q : Slots → Prop} : RL P (⟨d, some (t, b), .iaddr n x i⟩ :: is) s h Q = gdL (s t) b (pv (.iaddr n x i) (ev s) h) fun v => RL P is (put s d v) h Q := RL_guard rfl
@[simp ↓] theorem ROg_iaddrA {d : Option Nat} {t : Nat} {b : Bool} {is : List Ins} {s : Slots} {h : H} {l n : Nat} {x i : Opd} {Q : Slots → H → Prop} : RO P (⟨d, some (t, b), .iaddrA l n x i⟩ :: is) s h Q = gdL (s t) b (pv (.iaddrA l n x i) (ev s) h) fun v => RO P is (put s d v) h Q := RO_guardL rfl
@[simp ↓] theorem RLc_iaddrA {d : Option Nat} {is : List Ins} {s : Slots} {h : H} {l n : Nat} {x i : Opd} {Q : Slots → Prop} : RL P (⟨d, none, .iaddrA l n x i⟩ :: is) s h Q = ob (pv (.iaddrA l n x i) (ev s) h) fun v => RL P is (put s d v) h Q := RL_cons rfl
@[simp ↓] theorem RLg_iaddrA {d : Option Nat} {t : Nat} {b : Bool} {is : List Ins} {s : Slots} {h : H} {l n : Nat} {x i : Opd} {Q : Slots → Prop} : RL P (⟨d, some (t, b), .iaddrA l n x i⟩ :: is) s h Q = gdL (s t) b (pv (.iaddrA l n x i) (ev s) h) fun v => RL P is (put s d v) h Q := RL_guard rfl
@[simp ↓] theorem ROg_idxS {d : Option Nat} {t : Nat} {b : Bool} {is : List Ins} {s : Slots} {h : H} {x i : Opd} {Q : Slots → H → Prop} : RO P (⟨d, some (t, b), .idxS x i⟩ :: is) s h Q = gdL (s t) b (pv (.idxS x i) (ev s) h) fun v => RO P is (put s d v) h Q := RO_guardL rfl
@[simp ↓] theorem RLc_idxS {d : Option Nat} {is : List Ins} {s : Slots} {h : H} {x i : Opd} {Q : Slots → Prop} : RL P (⟨d, none, .idxS x i⟩ :: is) s h Q = ob (pv (.idxS x i) (ev s) h) fun v => RL P is (put s d v) h Q := RL_cons rfl
@[simp ↓] theorem RLg_idxS {d : Option Nat} {t : Nat} {b : Bool} {is : List Ins} {s : Slots} {h : H} {x i : Opd} {Q : Slots → Prop} : RL P (⟨d, some (t, b), .idxS x i⟩ :: is) s h Q = gdL (s t) b (pv (.idxS x i) (ev s) h) fun v => RL P is (put s d v) h Q := RL_guard rfl
@[simp ↓] theorem ROg_idxA {d : Option Nat} {t : Nat} {b : Bool} {is : List Ins} {s : Slots} {h : H} {l n : Nat} {a : Bool} {x i : Opd} {Q : Slots → H → Prop} : RO P (⟨d, some (t, b), .idxA l n a x i⟩ :: is) s h Q = gdL (s t) b (pv (.idxA l n a x i) (ev s) h) fun v => RO P is (put s d v) h Q := RO_guardL rfl
@[simp ↓] theorem RLc_idxA {d : Option Nat} {is : List Ins} {s : Slots} {h : H} {l n : Nat} {a : Bool} {x i : Opd} {Q : Slots → Prop} : RL P (⟨d, none, .idxA l n a x i⟩ :: is) s h Q = ob (pv (.idxA l n a x i) (ev s) h) fun v => RL P is (put s d v) h Q := RL_cons rfl
@[simp ↓] theorem RLg_idxA {d : Option Nat} {t : Nat} {b : Bool} {is : List Ins} {s : Slots} {h : H} {l n : Nat} {a : Bool} {x i : Opd} {Q : Slots → Prop} : RL P (⟨d, some (t, b), .idxA l n a x i⟩ :: is) s h Q = gdL (s t) b (pv (.idxA l n a x i) (ev s) h) fun v => RL P is (put s d v) h Q := RL_guard rfl
@[simp ↓] theorem ROg_slice {d : Option Nat} {t : Nat} {b : Bool} {is : List Ins} {s : Slots} {h : H} {n : Nat} {x : Opd} {lo hi mx : Option Opd} {Q : Slots → H → Prop} : RO P (⟨d, some (t, b), .slice n x lo hi mx⟩ :: is) s h Q = gdL (s t) b (pv (.slice n x lo hi mx) (ev s) h) fun v => RO P is (put s d v) h Q := RO_guardL rfl
@[simp ↓] theorem RLc_slice {d : Option Nat} {is : List Ins} {s : Slots} {h : H} {n : Nat} {x : Opd} {lo hi mx : Option Opd} {Q : Slots → Prop} : RL P (⟨d, none, .slice n x lo hi mx⟩ :: is) s h Q = ob (pv (.slice n x lo hi mx) (ev s) h) fun v => RL P is (put s d v) h Q := RL_cons rfl
@[simp ↓] theorem RLg_slice {d : Option Nat} {t : Nat} {b : Bool} {is : List Ins} {s : Slots} {h : H} {n : Nat} {x : Opd} {lo hi mx : Option Opd} {Q : Slots → Prop} : RL P (⟨d, some (t, b), .slice n x lo hi mx⟩ :: is) s h Q = gdL (s t) b (pv (.slice n x lo hi mx) (ev s) h) fun v => RL P is (put s d v) h Q := RL_guard rfl
@[simp ↓] theorem ROg_sliceS {d : Option Nat} {t : Nat} {b : Bool} {is : List Ins} {s : Slots} {h : H} {x : Opd} {lo hi : Option Opd} {Q : Slots → H → Prop} : RO P (⟨d, some (t, b), .sliceS x lo hi⟩ :: is) s h Q = gdL (s t) b (pv (.sliceS x lo hi) (ev s) h) fun v => RO P is (put s d v) h Q := RO_guardL rfl
@[simp ↓] theorem RLc_sliceS {d : Option Nat} {is : List Ins} {s : Slots} {h : H} {x : Opd} {lo hi : Option Opd} {Q : Slots → Prop} : RL P (⟨d, none, .sliceS x lo hi⟩ :: is) s h Q = ob (pv (.sliceS x lo hi) (ev s) h) fun v => RL P is (put s d v) h Q := RL_cons rfl
@[simp ↓] theorem RLg_sliceS {d : Option Nat} {t : Nat} {b : Bool} {is : List Ins} {s : Slots} {h : H} {x : Opd} {lo hi : Option Opd} {Q : Slots → Prop} : RL P (⟨d, some (t, b), .sliceS x lo hi⟩ :: is) s h Q = gdL (s t) b (pv (.sliceS x lo hi) (ev s) h) fun v => RL P is (put s d v) h Q := RL_guard rfl
@[simp ↓] theorem ROg_ext {d : Option Nat} {t : Nat} {b : Bool} {is : List Ins} {s : Slots} {h : H} {x : Opd} {n : Nat} {Q : Slots → H → Prop} : RO P (⟨d, some (t, b), .ext x n⟩ :: is) s h Q = gdL (s t) b (pv (.ext x n) (ev s) h) fun v => RO P is (put s d v) h Q := RO_guardL rfl
@[simp ↓] theorem RLc_ext {d : Option Nat} {is : List Ins} {s : Slots} {h : H} {x : Opd} {n : Nat} {Q : Slots → Prop} : RL P (⟨d, none, .ext x n⟩ :: is) s h Q = ob (pv (.ext x n) (ev s) h) fun v => RL P is (put s d v) h Q := RL_cons rfl
@[simp ↓] theorem RLg_ext {d : Option Nat} {t : Nat} {b : Bool} {is : List Ins} {s : Slots} {h : H} {x : Opd} {n : Nat} {Q : Slots → Prop} : RL P (⟨d, some (t, b), .ext x n⟩ :: is) s h Q = gdL (s t) b (pv (.ext x n) (ev s) h) fun v => RL P is (put s d v) h Q := RL_guard rfl
@[simp ↓] theorem ROg_mkfn {d : Option Nat} {t : Nat} {b : Bool} {is : List Ins} {s : Slots} {h : H} {f : FuncId} {fs cs : List Opd} {Q : Slots → H → Prop} : RO P (⟨d, some (t, b), .mkfn f fs cs⟩ :: is) s h Q = gdL (s t) b (pv (.mkfn f fs cs) (ev s) h) fun v => RO P is (put s d v) h Q := RO_guardL rfl
@[simp ↓] theorem RLc_mkfn {d : Option Nat} {is : List Ins} {s : Slots} {h : H} {f : FuncId} {fs cs : List Opd} {Q : Slots → Prop} : RL P (⟨d, none, .mkfn f fs cs⟩ :: is) s h Q = ob (pv (.mkfn f fs cs) (ev s) h) fun v => RL P is (put s d v) h Q := RL_cons rfl
@[simp ↓] theorem RLg_mkfn {d : Option Nat} {t : Nat} {b : Bool} {is : List Ins} {s : Slots} {h : H} {f : FuncId} {fs cs : List Opd} {Q : Slots → Prop} : RL P (⟨d, some (t, b), .mkfn f fs cs⟩ :: is) s h Q = gdL (s t) b (pv (.mkfn f fs cs) (ev s) h) fun v => RL P is (put s d v) h Q := RL_guard rfl
@[simp ↓] theorem ROg_nilck {d : Option Nat} {t : Nat} {b : Bool} {is : List Ins} {s : Slots} {h : H} {x : Opd} {Q : Slots → H → Prop} : RO P (⟨d, some (t, b), .nilck x⟩ :: is) s h Q = gdL (s t) b (pv (.nilck x) (ev s) h) fun v => RO P is (put s d v) h Q := RO_guardL rfl
@[simp ↓] theorem RLc_nilck {d : Option Nat} {is : List Ins} {s : Slots} {h : H} {x : Opd} {Q : Slots → Prop} : RL P (⟨d, none, .nilck x⟩ :: is) s h Q = ob (pv (.nilck x) (ev s) h) fun v => RL P is (put s d v) h Q := RL_cons rfl
@[simp ↓] theorem RLg_nilck {d : Option Nat} {t : Nat} {b : Bool} {is : List Ins} {s : Slots} {h : H} {x : Opd} {Q : Slots → Prop} : RL P (⟨d, some (t, b), .nilck x⟩ :: is) s h Q = gdL (s t) b (pv (.nilck x) (ev s) h) fun v => RL P is (put s d v) h Q := RL_guard rfl
@[simp ↓] theorem ROg_isnil {d : Option Nat} {t : Nat} {b : Bool} {is : List Ins} {s : Slots} {h : H} {n : Bool} {x : Opd} {Q : Slots → H → Prop} : RO P (⟨d, some (t, b), .isnil n x⟩ :: is) s h Q = gdL (s t) b (pv (.isnil n x) (ev s) h) fun v => RO P is (put s d v) h Q := RO_guardL rfl
@[simp ↓] theorem RLc_isnil {d : Option Nat} {is : List Ins} {s : Slots} {h : H} {n : Bool} {x : Opd} {Q : Slots → Prop} : RL P (⟨d, none, .isnil n x⟩ :: is) s h Q = ob (pv (.isnil n x) (ev s) h) fun v => RL P is (put s d v) h Q := RL_cons rfl
@[simp ↓] theorem RLg_isnil {d : Option Nat} {t : Nat} {b : Bool} {is : List Ins} {s : Slots} {h : H} {n : Bool} {x : Opd} {Q : Slots → Prop} : RL P (⟨d, some (t, b), .isnil n x⟩ :: is) s h Q = gdL (s t) b (pv (.isnil n x) (ev s) h) fun v => RL P is (put s d v) h Q := RL_guard rfl
@[simp ↓] theorem ROg_len {d : Option Nat} {t : Nat} {b : Bool} {is : List Ins} {s : Slots} {h : H} {x : Opd} {Q : Slots → H → Prop} : RO P (⟨d, some (t, b), .len x⟩ :: is) s h Q = gdL (s t) b (pv (.len x) (ev s) h) fun v => RO P is (put s d v) h Q := RO_guardL rfl
@[simp ↓] theorem ROg_cap {d : Option Nat} {t : Nat} {b : Bool} {is : List Ins} {s : Slots} {h : H} {x : Opd} {Q : Slots → H → Prop} : RO P (⟨d, some (t, b), .cap x⟩ :: is) s h Q = gdL (s t) b (pv (.cap x) (ev s) h) fun v => RO P is (put s d v) h Q := RO_guardL rfl
@[simp ↓] theorem ROg_clear {d : Option Nat} {t : Nat} {b : Bool} {is : List Ins} {s : Slots} {h : H} {n : Nat} {z : List AV} {x : Opd} {Q : Slots → H → Prop} : RO P (⟨d, some (t, b), .clear n z x⟩ :: is) s h Q = gdQ (s t) b (wpI P (.clear n z x) (ev s) h fun v h1 => RO P is (put s d v) h1 Q) (RO P is (put s d .skp) h Q) := RO_guard
@[simp ↓] theorem RLc_len {d : Option Nat} {is : List Ins} {s : Slots} {h : H} {x : Opd} {Q : Slots → Prop} : RL P (⟨d, none, .len x⟩ :: is) s h Q = ob (pv (.len x) (ev s) h) fun v => RL P is (put s d v) h Q := RL_cons rfl
@[simp ↓] theorem RLg_len {d : Option Nat} {t : Nat} {b : Bool} {is : List Ins} {s : Slots} {h : H} {x : Opd} {Q : Slots → Prop} : RL P (⟨d, some (t, b), .len x⟩ :: is) s h Q = gdL (s t) b (pv (.len x) (ev s) h) fun v => RL P is (put s d v) h Q := RL_guard rfl
@[simp ↓] theorem ROg_lenS {d : Option Nat} {t : Nat} {b : Bool} {is : List Ins} {s : Slots} {h : H} {x : Opd} {Q : Slots → H → Prop} : RO P (⟨d, some (t, b), .lenS x⟩ :: is) s h Q = gdL (s t) b (pv (.lenS x) (ev s) h) fun v => RO P is (put s d v) h Q := RO_guardL rfl
@[simp ↓] theorem RLc_lenS {d : Option Nat} {is : List Ins} {s : Slots} {h : H} {x : Opd} {Q : Slots → Prop} : RL P (⟨d, none, .lenS x⟩ :: is) s h Q = ob (pv (.lenS x) (ev s) h) fun v => RL P is (put s d v) h Q := RL_cons rfl
@[simp ↓] theorem RLg_lenS {d : Option Nat} {t : Nat} {b : Bool} {is : List Ins} {s : Slots} {h : H} {x : Opd} {Q : Slots → Prop} : RL P (⟨d, some (t, b), .lenS x⟩ :: is) s h Q = gdL (s t) b (pv (.lenS x) (ev s) h) fun v => RL P is (put s d v) h Q := RL_guard rfl
@[simp ↓] theorem ROg_lenA {d : Option Nat} {t : Nat} {b : Bool} {is : List Ins} {s : Slots} {h : H} {n : Nat} {Q : Slots → H → Prop} : RO P (⟨d, some (t, b), .lenA n⟩ :: is) s h Q = gdL (s t) b (pv (.lenA n) (ev s) h) fun v => RO P is (put s d v) h Q := RO_guardL rfl
@[simp ↓] theorem RLc_lenA {d : Option Nat} {is : List Ins} {s : Slots} {h : H} {n : Nat} {Q : Slots → Prop} : RL P (⟨d, none, .lenA n⟩ :: is) s h Q = ob (pv (.lenA n) (ev s) h) fun v => RL P is (put s d v) h Q := RL_cons rfl
@[simp ↓] theorem RLg_lenA {d : Option Nat} {t : Nat} {b : Bool} {is : List Ins} {s : Slots} {h : H} {n : Nat} {Q : Slots → Prop} : RL P (⟨d, some (t, b), .lenA n⟩ :: is) s h Q = gdL (s t) b (pv (.lenA n) (ev s) h) fun v => RL P is (put s d v) h Q := RL_guard rfl
@[simp ↓] theorem ROg_mn {d : Option Nat} {t : Nat} {b : Bool} {is : List Ins} {s : Slots} {h : H} {xs : List Opd} {Q : Slots → H → Prop} : RO P (⟨d, some (t, b), .mn xs⟩ :: is) s h Q = gdL (s t) b (pv (.mn xs) (ev s) h) fun v => RO P is (put s d v) h Q := RO_guardL rfl
@[simp ↓] theorem RLc_mn {d : Option Nat} {is : List Ins} {s : Slots} {h : H} {xs : List Opd} {Q : Slots → Prop} : RL P (⟨d, none, .mn xs⟩ :: is) s h Q = ob (pv (.mn xs) (ev s) h) fun v => RL P is (put s d v) h Q := RL_cons rfl
@[simp ↓] theorem RLg_mn {d : Option Nat} {t : Nat} {b : Bool} {is : List Ins} {s : Slots} {h : H} {xs : List Opd} {Q : Slots → Prop} : RL P (⟨d, some (t, b), .mn xs⟩ :: is) s h Q = gdL (s t) b (pv (.mn xs) (ev s) h) fun v => RL P is (put s d v) h Q := RL_guard rfl
@[simp ↓] theorem ROg_mx {d : Option Nat} {t : Nat} {b : Bool} {is : List Ins} {s : Slots} {h : H} {xs : List Opd} {Q : Slots → H → Prop} : RO P (⟨d, some (t, b), .mx xs⟩ :: is) s h Q = gdL (s t) b (pv (.mx xs) (ev s) h) fun v => RO P is (put s d v) h Q := RO_guardL rfl
@[simp ↓] theorem RLc_mx {d : Option Nat} {is : List Ins} {s : Slots} {h : H} {xs : List Opd} {Q : Slots → Prop} : RL P (⟨d, none, .mx xs⟩ :: is) s h Q = ob (pv (.mx xs) (ev s) h) fun v => RL P is (put s d v) h Q := RL_cons rfl
@[simp ↓] theorem RLg_mx {d : Option Nat} {t : Nat} {b : Bool} {is : List Ins} {s : Slots} {h : H} {xs : List Opd} {Q : Slots → Prop} : RL P (⟨d, some (t, b), .mx xs⟩ :: is) s h Q = gdL (s t) b (pv (.mx xs) (ev s) h) fun v => RL P is (put s d v) h Q := RL_guard rfl
@[simp ↓] theorem ROg_lookup {d : Option Nat} {t : Nat} {b : Bool} {is : List Ins} {s : Slots} {h : H} {z : AV} {m k : Opd} {ok : Bool} {Q : Slots → H → Prop} : RO P (⟨d, some (t, b), .lookup z m k ok⟩ :: is) s h Q = gdL (s t) b (pv (.lookup z m k ok) (ev s) h) fun v => RO P is (put s d v) h Q := RO_guardL rfl
@[simp ↓] theorem RLc_lookup {d : Option Nat} {is : List Ins} {s : Slots} {h : H} {z : AV} {m k : Opd} {ok : Bool} {Q : Slots → Prop} : RL P (⟨d, none, .lookup z m k ok⟩ :: is) s h Q = ob (pv (.lookup z m k ok) (ev s) h) fun v => RL P is (put s d v) h Q := RL_cons rfl
@[simp ↓] theorem RLg_lookup {d : Option Nat} {t : Nat} {b : Bool} {is : List Ins} {s : Slots} {h : H} {z : AV} {m k : Opd} {ok : Bool} {Q : Slots → Prop} : RL P (⟨d, some (t, b), .lookup z m k ok⟩ :: is) s h Q = gdL (s t) b (pv (.lookup z m k ok) (ev s) h) fun v => RL P is (put s d v) h Q := RL_guard rfl
@[simp ↓] theorem ROg_alloc {d : Option Nat} {t : Nat} {b : Bool} {is : List Ins} {s : Slots} {h : H} {z : List AV} {Q : Slots → H → Prop} : RO P (⟨d, some (t, b), .alloc z⟩ :: is) s h Q = gdQ (s t) b (wpI P (.alloc z) (ev s) h fun v h1 => RO P is (put s d v) h1 Q) (RO P is (put s d .skp) h Q) := RO_guard
@[simp ↓] theorem ROg_box {d : Option Nat} {t : Nat} {b : Bool} {is : List Ins} {s : Slots} {h : H} {x : Opd} {Q : Slots → H → Prop} : RO P (⟨d, some (t, b), .box x⟩ :: is) s h Q = gdQ (s t) b (wpI P (.box x) (ev s) h fun v h1 => RO P is (put s d v) h1 Q) (RO P is (put s d .skp) h Q) := RO_guard
@[simp ↓] theorem ROg_store {d : Option Nat} {t : Nat} {b : Bool} {is : List Ins} {s : Slots} {h : H} {n : Nat} {a x : Opd} {Q : Slots → H → Prop} : RO P (⟨d, some (t, b), .store n a x⟩ :: is) s h Q = gdQ (s t) b (wpI P (.store n a x) (ev s) h fun v h1 => RO P is (put s d v) h1 Q) (RO P is (put s d .skp) h Q) := RO_guard
@[simp ↓] theorem ROg_append {d : Option Nat} {t : Nat} {b : Bool} {is : List Ins} {s : Slots} {h : H} {sz by' : Nat} {x y : Opd} {Q : Slots → H → Prop} : RO P (⟨d, some (t, b), .append sz by' x y⟩ :: is) s h Q = gdQ (s t) b (wpI P (.append sz by' x y) (ev s) h fun v h1 => RO P is (put s d v) h1 Q) (RO P is (put s d .skp) h Q) := RO_guard
@[simp ↓] theorem ROg_mksl {d : Option Nat} {t : Nat} {b : Bool} {is : List Ins} {s : Slots} {h : H} {sz by' : Nat} {z : List AV} {l c : Opd} {Q : Slots → H → Prop} : RO P (⟨d, some (t, b), .mksl sz by' z l c⟩ :: is) s h Q = gdQ (s t) b (wpI P (.mksl sz by' z l c) (ev s) h fun v h1 => RO P is (put s d v) h1 Q) (RO P is (put s d .skp) h Q) := RO_guard
@[simp ↓] theorem ROg_mkmap {d : Option Nat} {t : Nat} {b : Bool} {is : List Ins} {s : Slots} {h : H}  {Q : Slots → H → Prop} : RO P (⟨d, some (t, b), .mkmap⟩ :: is) s h Q = gdQ (s t) b (wpI P (.mkmap) (ev s) h fun v h1 => RO P is (put s d v) h1 Q) (RO P is (put s d .skp) h Q) := RO_guard
@[simp ↓] theorem ROg_mapup {d : Option Nat} {t : Nat} {b : Bool} {is : List Ins} {s : Slots} {h : H} {m k v : Opd} {Q : Slots → H → Prop} : RO P (⟨d, some (t, b), .mapup m k v⟩ :: is) s h Q = gdQ (s t) b (wpI P (.mapup m k v) (ev s) h fun v h1 => RO P is (put s d v) h1 Q) (RO P is (put s d .skp) h Q) := RO_guard
@[simp ↓] theorem ROg_call {d : Option Nat} {t : Nat} {b : Bool} {is : List Ins} {s : Slots} {h : H} {f : Opd} {as : List Opd} {Q : Slots → H → Prop} : RO P (⟨d, some (t, b), .call f as⟩ :: is) s h Q = gdQ (s t) b (wpI P (.call f as) (ev s) h fun v h1 => RO P is (put s d v) h1 Q) (RO P is (put s d .skp) h Q) := RO_guard
end
end Go.Am

/- New boxes that are handed back as slices or in functions; slices.Clone into a box; frozen slices inside an aggregate. -/
namespace Go.Am
open Go Go.RowKit
section
variable {P : Program}
theorem SCall.newG {f : FuncId} {args : List AV} {h : H} {cs : List AV} (rf : Nat → AV) (hrf : ∀ ρ nb nt nl nm b b', b' < nb → ρ b' = b → Low ρ nb nt nl nm (rf b) (rf b')) (hc : CallP P f args h fun r1 h1 => ∃ i, r1 = rf i ∧ h.bn ≤ i ∧ i < h1.bn ∧ HF h h1 (fun _ => False) (fun _ => False) ∧ ∃ cs1, h1.bx i = some cs1 ∧ WkL cs1 cs) (hcs : ∀ v ∈ cs, PureV v) :
    SCall P f args h (rf h.bn) (h.alloc cs) := by
  refine CallP.sure (hc.cut fun r1 h1 ⟨i, e, hi, hi1, hf, cs1, hb1, hcs1⟩ => ⟨h.alloc cs, fun b => if b = h.bn then i else b, rf h.bn, ?_, rfl, rfl⟩)
  subst e
  have hbn : (h.alloc cs).bn = h.bn + 1 := rfl
  have h0 : ∀ b, b < h.bn → (if b = h.bn then i else b) = b := fun b hb => if_neg (by omega)
  refine ⟨by rw [hbn]; omega, h0, fun b hb => ?_, fun b b' hb hb' hbb => ?_, fun b' cs' hb' hcs' => ?_, ⟨Nat.le_refl _, hf.tn⟩, fun i hi => (hf.tk i hi fun h => h).symm, ⟨rfl, hf.ln⟩,
    fun l q hl hq => ⟨(hf.lp l hl).trans hq, q, hq, rfl⟩, ⟨rfl, hf.mn⟩, fun m es hm hes => ⟨(hf.mp m hm).trans hes, hes⟩, hrf _ _ _ _ _ _ _ (by rw [hbn]; omega) (if_pos rfl)⟩
  · have := hf.bn
    show (if b = h.bn then i else b) < h1.bn
    split <;> omega
  · have hbb' : (if b = h.bn then i else b) = (if b' = h.bn then i else b') := hbb
    rw [hbn] at hb hb'
    split at hbb' <;> split at hbb' <;> omega
  · by_cases hbb : b' = h.bn
    · subst hbb
      have : cs = cs' := by simpa [H.alloc] using hcs'
      subst this
      exact .inr ⟨cs1, by simpa using hb1, hcs1, fun v hv => (hcs v hv).low _ _ _ _ _⟩
    · have h2 : h.bx b' = some cs' := by simpa [H.alloc, hbb] using hcs'
      have h3 : b' < h.bn := by rw [hbn] at hb'; omega
      exact .inl ⟨h3, (hf.bx b' h3 fun h => h).trans h2, h2⟩


theorem Low.msl {ρ : Nat → Nat} {nb nt nl nm b b' z n : Nat} (hb : b' < nb) (e : ρ b' = b) : Low ρ nb nt nl nm (.msl b z 0 n) (.msl b' z 0 n) := fun w g V h1 h2 h3 h4 h => by
  obtain ⟨cap, rfl, q1, q2, q3⟩ := h.msl_inv
  have := Rep.msl (w := w) (g := g.cutR ρ nb nt nl nm) b' z 0 n cap hb q2 (by show _ ≤ g.bs (ρ b'); rw [e]; exact q3)
  have e2 : (g.cutR ρ nb nt nl nm).bx b' = g.bx b := by show g.bx (ρ b') = _; rw [e]
  rw [e2] at this
  exact this

theorem clone_box {f : FuncId} {n b : Nat} {z : List AV} (hb : HasBody P f) (hf : cFn P f = some (cloneF n b z)) {h : H} (es : List (List AV)) (h0 : 0 < es.length) (he : ∀ e ∈ es, e.length = n) (hp : ∀ v ∈ es.flatten, PureV v) (hl : es.length * b ≤ 140737488355328) :
    SCall P f [.sl .no es] h (.msl h.bn n 0 es.length) (h.alloc es.flatten) := by
  cases es with
  | nil => simp at h0
  | cons e es =>
    refine SCall.newG (fun b => .msl b n 0 (e :: es).length) (fun _ _ _ _ _ _ _ h1 h2 => Low.msl h1 h2) (CallP.run hb hf (by simp [cloneF]) ?_) hp
    simp -implicitDefEqProofs [cloneF]
    refine ⟨_, _, .newbox [] (e :: es) _ (fun e he => by cases he) ?_ (by simp) (by simpa using hl), ?_⟩
    · simp only [srcA]
      rw [if_pos he]
    · simp -implicitDefEqProofs
      exact ⟨HF.alloc _ _ _ _, WkL.refl _⟩

theorem Low.fn1 {ρ : Nat → Nat} {nb nt nl nm : Nat} {F : FuncId} {v v' : AV} (hv : Low ρ nb nt nl nm v v') : Low ρ nb nt nl nm (.fn F [] [v]) (.fn F [] [v']) := fun w g V h1 h2 h3 h4 h => by
  cases h with
  | fn f first caps FS C hF hC q1 q2 =>
    refine .fn F [] [v'] FS C hF (by simpa using hC) (fun k hk => by simp at hk) fun k hk => ?_
    have hk0 : k = 0 := by simp at hk; omega
    subst hk0
    exact hv w g _ h1 h2 h3 h4 (q2 0 (by simp))

theorem msl_fz {h : H} {b z n : Nat} {cs : List AV} {w : World} {g : G} {V : Value} (hb : b < h.bn) (hc : h.bx b = some cs) (hz : 0 < z) (hl : n * z ≤ cs.length) (hro : ∀ k v, cs[k]? = some v → ∃ U, k < g.ro (g.bx b) ∧ w.cell? ⟨g.bx b, k, none⟩ = some U ∧ Rep w g v U ∧ ok1 v = true) (hr : Rep w g (.msl b z 0 n) V) : Rep w g (.sl .no (chunks z n cs)) V := by
  cases hr with
  | msl b z off len cap h1 h2 h3 =>
    have hf := chunks_flatten hl
    have hcl := chunks_len (z := z) (n := n) (l := cs)
    have key : ∀ k (hk : k < (chunks z n cs).flatten.length), ∃ U, k < g.ro (g.bx b) ∧ w.cell? ⟨g.bx b, k, none⟩ = some U ∧ Rep w g (chunks z n cs).flatten[k] U ∧ ok1 (chunks z n cs).flatten[k] = true := fun k hk => by
      have hk2 : (chunks z n cs).flatten[k]? = cs[k]? := by
        rw [hf, List.getElem?_take]
        rw [hf, List.length_take] at hk
        rw [if_pos (by omega)]
      have hkc : k < cs.length := by rw [hf, List.length_take] at hk; omega
      exact hro k _ (by rw [← hk2]; exact List.getElem?_eq_getElem hk)
    have := Rep.sl (w := w) (g := g) .no (chunks z n cs) (some ⟨g.bx b, 0, none⟩) cap z (fun k => if hk : k < (chunks z n cs).flatten.length then Classical.choose (key k hk) else .nilFunc) ⟨hz, chunks_each hl⟩ (by rw [hcl]; exact h2) (fun k hk => ?_) (fun k hk => ?_) (fun k hk => ?_) trivial
    · rw [hcl] at this; exact this
    · obtain ⟨q1, q2, _⟩ := Classical.choose_spec (key k hk)
      refine ⟨g.bx b, 0, rfl, by rw [Nat.zero_add]; exact q1, ?_⟩
      rw [dif_pos hk, Nat.zero_add]
      exact q2
    · rw [dif_pos hk]
      exact (Classical.choose_spec (key k hk)).2.2.1
    · exact (Classical.choose_spec (key k hk)).2.2.2

/-- An aggregate whose first cell is a slice over a box that no longer turns. -/
theorem Gh.aggMsl {h : H} {b z n : Nat} {cs rest : List AV} (hb : b < h.bn) (hc : h.bx b = some cs) (hz : 0 < z) (hl : n * z ≤ cs.length) : Gh h (.agg (.msl b z 0 n :: rest)) (h.kill b) (.agg (.sl .no (chunks z n cs) :: rest)) := by
  refine .frz b cs hb hc (fun w g V hro hr => ?_) (.refl _ _)
  cases hr with
  | agg cs' C hC q1 q2 =>
    refine .agg _ C (by simpa using hC) (fun k hk => ?_) (fun k hk => ?_)
    · rcases k with _ | k
      · exact msl_fz hb hc hz hl hro (q1 0 (by simp))
      · exact q1 (k + 1) (by simpa using hk)
    · rcases k with _ | k
      · rfl
      · exact q2 (k + 1) (by simpa using hk)

variable {h : H} {l : Nat} {q : LoopA} {o : Option LoopA}
@[simp] theorem newLoop_bn : (h.newLoop q).bn = h.bn := rfl
@[simp] theorem newLoop_bx : (h.newLoop q).bx = h.bx := rfl
@[simp] theorem newLoop_tn : (h.newLoop q).tn = h.tn := rfl
@[simp] theorem newLoop_tk : (h.newLoop q).tk = h.tk := rfl
@[simp] theorem newLoop_mn : (h.newLoop q).mn = h.mn := rfl
@[simp] theorem newLoop_mp : (h.newLoop q).mp = h.mp := rfl
@[simp] theorem setLoop_bn : (h.setLoop l o).bn = h.bn := rfl
@[simp] theorem setLoop_bx : (h.setLoop l o).bx = h.bx := rfl
@[simp] theorem setLoop_tn : (h.setLoop l o).tn = h.tn := rfl
@[simp] theorem setLoop_tk : (h.setLoop l o).tk = h.tk := rfl
@[simp] theorem setLoop_mn : (h.setLoop l o).mn = h.mn := rfl
@[simp] theorem setLoop_mp : (h.setLoop l o).mp = h.mp := rfl
@[simp] theorem newLoop_ln : (h.newLoop q).ln = h.ln + 1 := rfl
@[simp] theorem newLoop_lp {k : Nat} : (h.newLoop q).lp k = if k = h.ln then some q else h.lp k := rfl
@[simp] theorem setLoop_ln : (h.setLoop l o).ln = h.ln := rfl
@[simp] theorem setLoop_lp {k : Nat} : (h.setLoop l o).lp k = if k = l then o else h.lp k := rfl
end
end Go.Am

/- A drawn region with two new boxes, in either order. -/
namespace Go.Am
open Go Go.RowKit
section
variable {P : Program} {inr : Bool} {k : List It} {Q : Res → Slots → H → Prop}

theorem su_eq {s : Slots} {i : Nat} {v : AV} : su s i v i = v := if_pos rfl
theorem su_ne {s : Slots} {i j : Nat} {v : AV} (h : j ≠ i) : su s i v j = s j := if_neg h

theorem topo_inv {is : List Ins} {aft : List (List Nat)} {Inv : List Nat → Slots → H → Prop}
    (step : ∀ i x done s h, is[i]? = some x → i ∉ done → (∀ j ∈ aft.getD i [], j ∈ done) → Inv done s h → ∃ v h1, x.g = none ∧ InsR P (ev s) h x.op v h1 ∧ Inv (i :: done) (put s x.dst v) h1) :
    ∀ (t done : List Nat) (s : Slots) (h : H) (xs : List Ins), TopoFrom aft done t → pick is t = some xs → Inv done s h → ∃ s1 h1, OpsR P xs s h s1 h1 ∧ Inv (t.reverse ++ done) s1 h1
  | [], done, s, h, xs, _, hp, hi => by
    cases hp
    exact ⟨s, h, .nil s h, hi⟩
  | i :: t, done, s, h, xs, ht, hp, hi => by
    simp only [pick] at hp
    obtain ⟨x, hx, hp⟩ := Option.bind_eq_some_iff.1 hp
    obtain ⟨ys, hy, rfl⟩ := Option.map_eq_some_iff.1 hp
    obtain ⟨v, h1, hg, hin, hi1⟩ := step i x done s h hx ht.1 ht.2.1 hi
    obtain ⟨s2, h2, ho, hi2⟩ := topo_inv step t (i :: done) _ h1 ys ht.2.2 hy hi1
    refine ⟨s2, h2, .step x ys s h v h1 s2 h2 (fun t b e => by rw [hg] at e; cases e) hin ho, ?_⟩
    rw [List.reverse_cons, List.append_assoc]
    exact hi2

theorem run_topo {is : List Ins} {aft : List (List Nat)} {Inv : List Nat → Slots → H → Prop} {s : Slots} {h : H}
    (step : ∀ i x done s h, is[i]? = some x → i ∉ done → (∀ j ∈ aft.getD i [], j ∈ done) → Inv done s h → ∃ v h1, x.g = none ∧ InsR P (ev s) h x.op v h1 ∧ Inv (i :: done) (put s x.dst v) h1)
    (h0 : Inv [] s h) (hk : ∀ done s1 h1, (∀ i, i < is.length → i ∈ done) → Inv done s1 h1 → Run P inr k Q s1 h1) : Run P inr (.c (.dreg is aft) :: k) Q s h := by
  refine .dreg (fun s1 h1 => ∃ done, (∀ i, i < is.length → i ∈ done) ∧ Inv done s1 h1) (fun t ht xs hx => ?_) fun s1 h1 ⟨done, q1, q2⟩ => hk done s1 h1 q1 q2
  obtain ⟨s1, h1, q1, q2⟩ := topo_inv step t [] s h xs ht.order hx h0
  exact ⟨s1, h1, q1, _, fun i hi => by simpa using ht.all i hi, q2⟩

/-- What a region with two new boxes has done. -/
structure Two (h0 : H) (s0 : Slots) (dst : Nat → Nat) (V : Nat → AV) (ia sa ta ib sb tb : Nat) (zA cA zB cB : List AV) (a b : Nat) (done : List Nat) (s : Slots) (h : H) : Prop where
  hf : HF h0 h (fun _ => False) (fun _ => False)
  un : ∀ x, x ≠ ta → x ≠ tb → (∀ i ∈ done, i ≠ ia → i ≠ ib → i ≠ sa → i ≠ sb → x ≠ dst i) → s x = s0 x
  li : ∀ i ∈ done, i ≠ ia → i ≠ ib → i ≠ sa → i ≠ sb → s (dst i) = V i
  aa : ia ∈ done → s ta = .ptr a 0 ∧ h0.bn ≤ a ∧ a < h.bn ∧ h.bx a = some (if sa ∈ done then cA else zA)
  bb : ib ∈ done → s tb = .ptr b 0 ∧ h0.bn ≤ b ∧ b < h.bn ∧ h.bx b = some (if sb ∈ done then cB else zB)
  ab : ia ∈ done → ib ∈ done → a ≠ b

theorem run_two {is : List Ins} {aft : List (List Nat)} {s : Slots} {h : H} (dst : Nat → Nat) (V : Nat → AV) (ia sa ta ib sb tb n : Nat) (zA cA zB cB : List AV) {xA xB : Opd}
    (hia : is[ia]? = some ⟨some ta, none, .alloc zA⟩) (hib : is[ib]? = some ⟨some tb, none, .alloc zB⟩) (hsa : is[sa]? = some ⟨none, none, .store n (.t ta) xA⟩) (hsb : is[sb]? = some ⟨none, none, .store n (.t tb) xB⟩)
    (hne : [ia, ib, sa, sb].Nodup) (htt : ta ≠ tb) (haa : ia ∈ aft.getD sa []) (hbb : ib ∈ aft.getD sb [])
    (hdst : ∀ i j, i < is.length → j < is.length → i ∉ [ia, ib, sa, sb] → j ∉ [ia, ib, sa, sb] → dst i = dst j → i = j) (hdt : ∀ i, i < is.length → i ∉ [ia, ib, sa, sb] → dst i ≠ ta ∧ dst i ≠ tb)
    (hzA : zA.length = n) (hzB : zB.length = n)
    (hfA : ∀ a b done s1 h1, (∀ j ∈ aft.getD sa [], j ∈ done) → Two h s dst V ia sa ta ib sb tb zA cA zB cB a b done s1 h1 → fit n (ev s1 xA) = some cA)
    (hfB : ∀ a b done s1 h1, (∀ j ∈ aft.getD sb [], j ∈ done) → Two h s dst V ia sa ta ib sb tb zA cA zB cB a b done s1 h1 → fit n (ev s1 xB) = some cB)
    (hl : ∀ i x a b done s1 h1, is[i]? = some x → i ∉ [ia, ib, sa, sb] → (∀ j ∈ aft.getD i [], j ∈ done) → Two h s dst V ia sa ta ib sb tb zA cA zB cB a b done s1 h1 → x.g = none ∧ x.dst = some (dst i) ∧ InsR P (ev s1) h1 x.op (V i) h1)
    (hk : ∀ a b s1 h1, a ≠ b → s1 ta = .ptr a 0 → s1 tb = .ptr b 0 → a < h1.bn → b < h1.bn → h.bn ≤ a → h.bn ≤ b → h1.bx a = some cA → h1.bx b = some cB → HF h h1 (fun _ => False) (fun _ => False) → (∀ x, x ≠ ta → x ≠ tb → (∀ i, i < is.length → i ∉ [ia, ib, sa, sb] → x ≠ dst i) → s1 x = s x) → Run P inr k Q s1 h1) :
    Run P inr (.c (.dreg is aft) :: k) Q s h := by
  have lt_of : ∀ {i x}, is[i]? = some x → i < is.length := fun {i x} e => (List.getElem?_eq_some_iff.1 e).1
  simp only [List.nodup_cons, List.mem_cons, List.not_mem_nil, or_false, not_or, List.nodup_nil, and_true, not_false_eq_true] at hne
  obtain ⟨⟨n1, n2, n3⟩, ⟨n4, n5⟩, n6⟩ := hne
  refine run_topo (Inv := fun done s1 h1 => (∀ i ∈ done, i < is.length) ∧ (∀ i ∈ done, ∀ j ∈ aft.getD i [], j ∈ done) ∧ ∃ a b, Two h s dst V ia sa ta ib sb tb zA cA zB cB a b done s1 h1) ?_ ⟨(fun i hi => absurd hi List.not_mem_nil), (fun i hi => absurd hi List.not_mem_nil), 0, 0, HF.refl _ _ _, fun _ _ _ _ => rfl, (fun i hi => absurd hi List.not_mem_nil), (fun hi => absurd hi List.not_mem_nil), (fun hi => absurd hi List.not_mem_nil), (fun hi => absurd hi List.not_mem_nil)⟩ ?_
  · rintro i x done s1 h1 hx hnd haft ⟨hlt, hcl, a, b, tw⟩
    have hilt := lt_of hx
    have hlt' : ∀ j ∈ i :: done, j < is.length := fun j hj => by rcases List.mem_cons.1 hj with rfl | hj; exact hilt; exact hlt j hj
    have hcl' : ∀ m ∈ i :: done, ∀ j ∈ aft.getD m [], j ∈ i :: done := fun m hm j hj => by
      rcases List.mem_cons.1 hm with rfl | hm
      · exact List.mem_cons_of_mem _ (haft j hj)
      · exact List.mem_cons_of_mem _ (hcl m hm j hj)
    by_cases e1 : i = ia
    · subst e1
      rw [hia] at hx
      cases hx
      have hsa' : sa ∉ done := fun hsd => hnd (hcl sa hsd i haa)
      refine ⟨_, _, rfl, .alloc zA, hlt', hcl', h1.bn, b, tw.hf.trans (HF.alloc _ _ _ _), ?_, ?_, ?_, ?_, ?_⟩
      · intro y hy1 hy2 hy
        show su s1 ta _ y = _
        rw [su_ne hy1]
        exact tw.un y hy1 hy2 fun j hj => hy j (List.mem_cons_of_mem _ hj)
      · intro j hj q1 q2 q3 q4
        rcases List.mem_cons.1 hj with rfl | hj
        · exact absurd rfl q1
        · show su s1 ta _ (dst j) = _
          rw [su_ne (hdt j (hlt j hj) (by simp [q1, q2, q3, q4])).1]
          exact tw.li j hj q1 q2 q3 q4
      · intro _
        exact ⟨su_eq, tw.hf.bn, Nat.lt_succ_self _, by simp [hsa', Ne.symm n2]⟩
      · intro hj
        rcases List.mem_cons.1 hj with e | hj
        · exact absurd e.symm n1
        · obtain ⟨q1, q2, q3, q4⟩ := tw.bb hj
          exact ⟨by show su s1 ta _ tb = _; rw [su_ne (Ne.symm htt)]; exact q1, q2, Nat.lt_succ_of_lt q3, by simp [show b ≠ h1.bn by omega, q4, Ne.symm n3]⟩
      · intro _ hj
        rcases List.mem_cons.1 hj with e | hj
        · exact absurd e.symm n1
        · have := (tw.bb hj).2.2.1
          omega
    by_cases e2 : i = ib
    · subst e2
      rw [hib] at hx
      cases hx
      have hsb' : sb ∉ done := fun hsd => hnd (hcl sb hsd i hbb)
      refine ⟨_, _, rfl, .alloc zB, hlt', hcl', a, h1.bn, tw.hf.trans (HF.alloc _ _ _ _), ?_, ?_, ?_, ?_, ?_⟩
      · intro y hy1 hy2 hy
        show su s1 tb _ y = _
        rw [su_ne hy2]
        exact tw.un y hy1 hy2 fun j hj => hy j (List.mem_cons_of_mem _ hj)
      · intro j hj q1 q2 q3 q4
        rcases List.mem_cons.1 hj with rfl | hj
        · exact absurd rfl q2
        · show su s1 tb _ (dst j) = _
          rw [su_ne (hdt j (hlt j hj) (by simp [q1, q2, q3, q4])).2]
          exact tw.li j hj q1 q2 q3 q4
      · intro hj
        rcases List.mem_cons.1 hj with e | hj
        · exact absurd e n1
        · obtain ⟨q1, q2, q3, q4⟩ := tw.aa hj
          exact ⟨by show su s1 tb _ ta = _; rw [su_ne htt]; exact q1, q2, Nat.lt_succ_of_lt q3, by simp [show a ≠ h1.bn by omega, q4, Ne.symm n4]⟩
      · intro _
        exact ⟨su_eq, tw.hf.bn, Nat.lt_succ_self _, by simp [hsb', Ne.symm n5]⟩
      · intro hj _
        rcases List.mem_cons.1 hj with e | hj
        · exact absurd e n1
        · have := (tw.aa hj).2.2.1
          omega
    by_cases e3 : i = sa
    · subst e3
      rw [hsa] at hx
      cases hx
      have hia' : ia ∈ done := haft ia haa
      obtain ⟨q1, q2, q3, q4⟩ := tw.aa hia'
      rw [if_neg hnd] at q4
      refine ⟨_, _, rfl, .store n (.t ta) xA a 0 zA cA q1 q3 q4 (hfA a b done s1 h1 haft tw) (by omega), hlt', hcl', a, b, ?_⟩
      have hz : List.take 0 zA ++ cA ++ List.drop (0 + n) zA = cA := by simp [← hzA]
      rw [hz]
      refine ⟨tw.hf.trans' (HF.set (B := (· = a)) _ rfl) (fun b' hb' e => by have e : b' = a := e; omega) (fun _ _ h => h), ?_, ?_, ?_, ?_, ?_⟩
      · intro y hy1 hy2 hy
        exact tw.un y hy1 hy2 fun j hj => hy j (List.mem_cons_of_mem _ hj)
      · intro j hj p1 p2 p3 p4
        rcases List.mem_cons.1 hj with rfl | hj
        · exact absurd rfl p3
        · exact tw.li j hj p1 p2 p3 p4
      · intro _
        exact ⟨q1, q2, q3, by simp⟩
      · intro hj
        rcases List.mem_cons.1 hj with e | hj
        · exact absurd e n4
        · obtain ⟨r1, r2, r3, r4⟩ := tw.bb hj
          have := tw.ab hia' hj
          exact ⟨r1, r2, r3, by simp [Ne.symm this, r4, Ne.symm n6]⟩
      · intro h1' hj
        rcases List.mem_cons.1 hj with e | hj
        · exact absurd e n4
        · exact tw.ab hia' hj
    by_cases e4 : i = sb
    · subst e4
      rw [hsb] at hx
      cases hx
      have hib' : ib ∈ done := haft ib hbb
      obtain ⟨q1, q2, q3, q4⟩ := tw.bb hib'
      rw [if_neg hnd] at q4
      refine ⟨_, _, rfl, .store n (.t tb) xB b 0 zB cB q1 q3 q4 (hfB a b done s1 h1 haft tw) (by omega), hlt', hcl', a, b, ?_⟩
      have hz : List.take 0 zB ++ cB ++ List.drop (0 + n) zB = cB := by simp [← hzB]
      rw [hz]
      refine ⟨tw.hf.trans' (HF.set (B := (· = b)) _ rfl) (fun b' hb' e => by have e : b' = b := e; omega) (fun _ _ h => h), ?_, ?_, ?_, ?_, ?_⟩
      · intro y hy1 hy2 hy
        exact tw.un y hy1 hy2 fun j hj => hy j (List.mem_cons_of_mem _ hj)
      · intro j hj p1 p2 p3 p4
        rcases List.mem_cons.1 hj with rfl | hj
        · exact absurd rfl p4
        · exact tw.li j hj p1 p2 p3 p4
      · intro hj
        rcases List.mem_cons.1 hj with e | hj
        · exact absurd e n3
        · obtain ⟨r1, r2, r3, r4⟩ := tw.aa hj
          have := tw.ab hj hib'
          exact ⟨r1, r2, r3, by simp [this, r4, n6]⟩
      · intro _
        exact ⟨q1, q2, q3, by simp⟩
      · intro hj h1'
        rcases List.mem_cons.1 hj with e | hj
        · exact absurd e n3
        · exact tw.ab hj hib'
    · have hni : i ∉ [ia, ib, sa, sb] := by simp [e1, e2, e3, e4]
      obtain ⟨hg, hd, hin⟩ := hl i x a b done s1 h1 hx hni haft tw
      obtain ⟨d1, d2⟩ := hdt i hilt hni
      rw [hd]
      have mem' : ∀ {j}, j ∈ i :: done → j ≠ i → j ∈ done := fun {j} hj hne => (List.mem_cons.1 hj).resolve_left hne
      refine ⟨V i, h1, hg, hin, hlt', hcl', a, b, tw.hf, ?_, ?_, ?_, ?_, ?_⟩
      · intro y hy1 hy2 hy
        show su s1 (dst i) _ y = _
        rw [su_ne (hy i (List.mem_cons_self ..) e1 e2 e3 e4)]
        exact tw.un y hy1 hy2 fun j hj => hy j (List.mem_cons_of_mem _ hj)
      · intro j hj p1 p2 p3 p4
        show su s1 (dst i) _ (dst j) = _
        by_cases hji : j = i
        · subst hji; exact su_eq
        · have hjd := mem' hj hji
          rw [su_ne fun e => hji (hdst j i (hlt j hjd) hilt (by simp [p1, p2, p3, p4]) hni e)]
          exact tw.li j hjd p1 p2 p3 p4
      · intro hj
        obtain ⟨q1, q2, q3, q4⟩ := tw.aa (mem' hj (Ne.symm e1))
        exact ⟨by show su s1 (dst i) _ ta = _; rw [su_ne (Ne.symm d1)]; exact q1, q2, q3, by simp [q4, Ne.symm e3]⟩
      · intro hj
        obtain ⟨q1, q2, q3, q4⟩ := tw.bb (mem' hj (Ne.symm e2))
        exact ⟨by show su s1 (dst i) _ tb = _; rw [su_ne (Ne.symm d2)]; exact q1, q2, q3, by simp [q4, Ne.symm e4]⟩
      · intro p1 p2
        exact tw.ab (mem' p1 (Ne.symm e1)) (mem' p2 (Ne.symm e2))
  · rintro done s1 h1 hall ⟨hlt, hcl, a, b, tw⟩
    obtain ⟨q1, q2, q3, q4⟩ := tw.aa (hall ia (lt_of hia))
    obtain ⟨r1, r2, r3, r4⟩ := tw.bb (hall ib (lt_of hib))
    rw [if_pos (hall sa (lt_of hsa))] at q4
    rw [if_pos (hall sb (lt_of hsb))] at r4
    exact hk a b s1 h1 (tw.ab (hall ia (lt_of hia)) (hall ib (lt_of hib))) q1 r1 q3 r3 q2 r2 q4 r4 tw.hf fun x hx1 hx2 hx => tw.un x hx1 hx2 fun i hi p1 p2 p3 p4 => hx i (hlt i hi) (by simp [p1, p2, p3, p4])
end
end Go.Am

/- A round of a loop over a function that is known to the last: it may stand in a drawn region. -/
namespace Go.Am
open Go Go.RowKit
section
variable {P : Program}

theorem YldP.sure {l : Nat} {args : List AV} {h : H} {r : AV} {h' : H} (hl : l < h.ln) (hc : YldP P l args h fun r1 h1 => r1 = r ∧ h1 = h') : SYld P l args h r h' :=
  ⟨hl, fun base W w g Args c cs hs hA => by
    obtain ⟨F, tm, x, y, h1, h2⟩ := hc base W w g Args hs hA
    obtain ⟨R, w', g', r', h'', q1, q2, q3, q4, rfl, rfl⟩ := h2 c cs
    exact ⟨F, tm, x, y, h1, R, w', g', q1, q2, q3, q4⟩⟩

/-- One round, out of a run of the body. -/
theorem SYld.of {l : Nat} {args : List AV} {h : H} {r : AV} {h' : H} {q : LoopA} (hl : l < h.ln) (hq : h.lp l = some q) (hn : args.length = q.ps.length)
    (hr : Run P true [.c q.assign, .beg l, .c q.body] (roundQ l fun r1 h1 => r1 = r ∧ h1 = h') (slotsP q.s q.ps args) h) : SYld P l args h r h' :=
  YldP.sure hl (YldP.of hl hq hn hr)

/-- What a round leaves behind is let go. -/
theorem SYld.cut {l : Nat} {args : List AV} {h h2 : H} {r' : AV} {K : AV → H → Prop} (hl : l < h.ln) (hc : YldP P l args h K) (hk : ∀ r h1, K r h1 → ∃ ρ, CutOK h h1 h2 ρ r r') : SYld P l args h r' h2 :=
  ⟨hl, fun base W w g Args c cs hs hA => by
    obtain ⟨F, tm, x, y, p1, p2⟩ := hc base W w g Args hs hA
    obtain ⟨R, w', g', r, h1, q1, q2, q3, q4, q5⟩ := p2 c cs
    obtain ⟨ρ, hcut⟩ := hk r h1 q5
    obtain ⟨g2, t1, t2, t3⟩ := hs.cut q3 q4 hcut q2
    exact ⟨F, tm, x, y, p1, R, w', g2, q1, t1, t2, t3⟩⟩

/-- A round that changes nothing but how the loop stands. -/
theorem SYld.ro {l : Nat} {args : List AV} {h : H} {r : AV} {q q' : LoopA} (hl : l < h.ln) (hq : h.lp l = some q) (hs : q.s = q'.s) (hn : args.length = q.ps.length) (hr : PureV r)
    (hrun : Run P true [.c q.assign, .beg l, .c q.body] (roundQ l fun r1 h1 => r1 = r ∧ h1.lp l = some q' ∧ HF h (h1.setLoop l (some q)) (fun _ => False) (fun _ => False)) (slotsP q.s q.ps args) h) :
    SYld P l args h r (h.setLoop l (some q')) := by
  refine SYld.cut hl (YldP.of hl hq hn hrun) fun r1 h1 ⟨e, e2, hf⟩ => ⟨id, ?_⟩
  have hbn : h.bn ≤ h1.bn := hf.bn
  have hln : h.ln ≤ h1.ln := hf.ln
  have hmn : h.mn ≤ h1.mn := hf.mn
  refine ⟨Nat.le_refl _, fun _ _ => rfl, fun b hb => Nat.lt_of_lt_of_le hb hbn, fun _ _ _ _ h => h, fun b cs hb hcs => .inl ⟨hb, (hf.bx b hb fun h => h).trans hcs, hcs⟩, ⟨Nat.le_refl _, hf.tn⟩, fun i hi => (hf.tk i hi fun h => h).symm, ⟨rfl, hln⟩,
    fun l2 q2 hl2 hq2 => ?_, ⟨rfl, hmn⟩, fun m es hm hes => ⟨(hf.mp m hm).trans hes, hes⟩, ?_⟩
  · by_cases hll : l2 = l
    · subst hll
      have : q' = q2 := by simpa using hq2
      subst this
      exact ⟨e2, q, hq, hs⟩
    · have h3 : h.lp l2 = some q2 := by simpa [hll] using hq2
      have h4 := hf.lp l2 hl2
      have h5 : h1.lp l2 = h.lp l2 := by simpa [hll] using h4
      exact ⟨h5.trans h3, q2, h3, rfl⟩
  · subst e
    exact hr.low _ _ _ _ _

theorem callD_y {l : Nat} {args as' : List AV} {h : H} {r : AV} {h' : H} {K : AV → H → Prop} (hy : SYld P l as' h r h') (ha : args = as') (hk : K r h') : callD P (.yld l) args h K := ⟨r, h', by subst ha; exact hy, hk⟩
theorem callQ_sy {l : Nat} {args as' : List AV} {h : H} {r : AV} {h' : H} {K : AV → H → Prop} (hy : SYld P l as' h r h') (ha : args = as') (hk : K r h') : callQ P (.yld l) args h K := ⟨hy.1, by
  subst ha
  intro base W w g Args hs hA
  have key := fun c cs => hy.2 base W w g Args c cs hs hA
  obtain ⟨F, tm, x, y, h1, _⟩ := key default []
  refine ⟨F, tm, x, y, h1, fun c cs => ?_⟩
  obtain ⟨F', tm', x', y', h1', R, w', g', q1, q2, q3, q4⟩ := key c cs
  rw [h1] at h1'
  cases h1'
  exact ⟨R, w', g', r, h', q1, q2, q3, q4, hk⟩⟩
end
end Go.Am

/- A drawn region, in whatever order, whatever its operations bring about. -/
namespace Go.Am
open Go Go.RowKit
section
variable {P : Program} {inr : Bool} {k : List It} {Q : Res → Slots → H → Prop}

theorem topo_invQ {is : List Ins} {aft : List (List Nat)} {Inv : List Nat → Slots → H → Prop} {R : Slots → H → Prop}
    (step : ∀ i x done s h, is[i]? = some x → i ∉ done → (∀ j ∈ aft.getD i [], j ∈ done) → Inv done s h → x.g = none ∧ wpI P x.op (ev s) h fun v h1 => Inv (i :: done) (put s x.dst v) h1) :
    ∀ (t done : List Nat) (s : Slots) (h : H) (xs : List Ins), TopoFrom aft done t → pick is t = some xs → Inv done s h → (∀ s1 h1, Inv (t.reverse ++ done) s1 h1 → R s1 h1) → RO P xs s h R
  | [], done, s, h, xs, _, hp, hi, hr => by
    cases hp
    exact hr s h hi
  | i :: t, done, s, h, xs, ht, hp, hi, hr => by
    simp only [pick] at hp
    obtain ⟨x, hx, hp⟩ := Option.bind_eq_some_iff.1 hp
    obtain ⟨ys, hy, rfl⟩ := Option.map_eq_some_iff.1 hp
    obtain ⟨hg, hw⟩ := step i x done s h hx ht.1 ht.2.1 hi
    have key : wpI P x.op (ev s) h fun v h1 => RO P ys (put s x.dst v) h1 R := wpI_mono (fun v h1 hi1 => topo_invQ step t (i :: done) _ h1 ys ht.2.2 hy hi1 fun s1 h1 hq => hr s1 h1 (by rw [List.reverse_cons, List.append_assoc]; exact hq)) hw
    obtain ⟨d, g, op⟩ := x
    simp only at hg
    subst hg
    exact key

theorem run_topoQ {is : List Ins} {aft : List (List Nat)} {Inv : List Nat → Slots → H → Prop} {s : Slots} {h : H}
    (step : ∀ i x done s h, is[i]? = some x → i ∉ done → (∀ j ∈ aft.getD i [], j ∈ done) → Inv done s h → x.g = none ∧ wpI P x.op (ev s) h fun v h1 => Inv (i :: done) (put s x.dst v) h1)
    (h0 : Inv [] s h) (hk : ∀ done s1 h1, (∀ i, i < is.length → i ∈ done) → Inv done s1 h1 → Run P inr k Q s1 h1) : Run P inr (.c (.dreg is aft) :: k) Q s h := by
  refine .dregQ (fun s1 h1 => ∃ done, (∀ i, i < is.length → i ∈ done) ∧ Inv done s1 h1) (fun t ht xs hx => ?_) fun s1 h1 ⟨done, q1, q2⟩ => hk done s1 h1 q1 q2
  exact topo_invQ step t [] s h xs ht.order hx h0 fun s1 h1 hq => ⟨_, fun i hi => by simpa using ht.all i hi, hq⟩
end
end Go.Am
