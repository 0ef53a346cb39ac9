/- The abstract machine of this work: values, its soundness against the machine of the model, forward runs; part of the proof of the claim, it holds of every program. -/
import Derived.Test.YtdcpendppalkgaaGreatK2
import Derived.RangeFuncIn
import Derived.DataReads
import Derived.ChangeArms
import Derived.OpenShut
/- Regions whose order is drawn: a run in the order of the text is a run in every order. -/
namespace Go.Am
open Go Go.RowKit

/-! ### What an operation reads -/
def Opd.rd : Opd → List Nat
  | .t i => [i]
  | .c _ => []
def rdO : Option Opd → List Nat
  | none => []
  | some x => x.rd

def IOp.rd : IOp → List Nat
  | .mov x | .box x | .load _ _ x | .un _ x | .conv _ x | .b2s x | .s2b x | .faddr _ x | .fld _ _ _ x | .ext x _ | .nilck x | .len x | .cap x | .lenS x | .isnil _ x | .clear _ _ x => x.rd
  | .pick c a b => c.rd ++ a.rd ++ b.rd
  | .alloc _ | .lenA _ | .mkmap => []
  | .build _ ps => ps.flatMap fun p => p.2.2.rd
  | .bsl _ _ _ ps => ps.flatMap fun p => p.2.rd
  | .store _ a x => a.rd ++ x.rd
  | .bin _ x y | .eq _ _ _ x y | .iaddr _ x y | .iaddrA _ _ x y | .idxS x y | .idxA _ _ _ x y | .append _ _ x y | .copy _ x y => x.rd ++ y.rd
  | .slice _ x lo hi m => x.rd ++ rdO lo ++ rdO hi ++ rdO m
  | .sliceS x lo hi => x.rd ++ rdO lo ++ rdO hi
  | .mkfn _ a b => a.flatMap Opd.rd ++ b.flatMap Opd.rd
  | .mksl _ _ _ l c => l.rd ++ c.rd
  | .mn xs | .mx xs => xs.flatMap Opd.rd
  | .call f args => f.rd ++ args.flatMap Opd.rd
  | .lookup _ m k _ => m.rd ++ k.rd
  | .mapup m k v => m.rd ++ k.rd ++ v.rd

def Ins.rd (x : Ins) : List Nat := (match x.g with | none => [] | some p => [p.1]) ++ x.op.rd

theorem ev_congr {s1 s2 : Slots} {x : Opd} (h : ∀ t ∈ x.rd, s1 t = s2 t) : ev s1 x = ev s2 x := by
  cases x with
  | t i => exact h i (by simp [Opd.rd])
  | c v => rfl

theorem evO_congr {s1 s2 : Slots} {x : Option Opd} (h : ∀ t ∈ rdO x, s1 t = s2 t) : x.map (ev s1) = x.map (ev s2) := by
  cases x with
  | none => rfl
  | some x => simp only [Option.map_some]; rw [ev_congr h]

theorem evL_congr {s1 s2 : Slots} {xs : List Opd} (h : ∀ t ∈ xs.flatMap Opd.rd, s1 t = s2 t) : xs.map (ev s1) = xs.map (ev s2) :=
  List.map_congr_left fun x hx => ev_congr fun t ht => h t (List.mem_flatMap.2 ⟨x, hx, ht⟩)

section
variable {P : Program}

theorem pv_congr {op : IOp} {s1 s2 : Slots} {h : H} (hr : ∀ t ∈ op.rd, s1 t = s2 t) : pv op (ev s1) h = pv op (ev s2) h := by
  cases op with
  | mov x => have := ev_congr (x := x) hr; simp only [pv, this]
  | pick c a b =>
    have h1 := ev_congr (x := c) (fun t ht => hr t (by simp [IOp.rd, ht]))
    have h2 := ev_congr (x := a) (fun t ht => hr t (by simp [IOp.rd, ht]))
    have h3 := ev_congr (x := b) (fun t ht => hr t (by simp [IOp.rd, ht]))
    simp only [pv, h1, h2, h3]
  | alloc z => rfl
  | box x => rfl
  | build z ps =>
    have : ps.map (fun p => (p.1, p.2.1, ev s1 p.2.2)) = ps.map (fun p => (p.1, p.2.1, ev s2 p.2.2)) := List.map_congr_left fun p hp => by
      rw [ev_congr (x := p.2.2) fun t ht => hr t (List.mem_flatMap.2 ⟨p, hp, ht⟩)]
    simp only [pv, this]
  | bsl a b c ps =>
    have : ps.map (fun p => ev s1 p.2) = ps.map (fun p => ev s2 p.2) := List.map_congr_left fun p hp => by
      rw [ev_congr (x := p.2) fun t ht => hr t (List.mem_flatMap.2 ⟨p, hp, ht⟩)]
    simp only [pv, this]
  | load n ag x => have := ev_congr (x := x) hr; simp only [pv, this]
  | store n a x => rfl
  | un o x => have := ev_congr (x := x) hr; simp only [pv, this]
  | conv k x => have := ev_congr (x := x) hr; simp only [pv, this]
  | b2s x => have := ev_congr (x := x) hr; simp only [pv, this]
  | s2b x => rfl
  | faddr o x => have := ev_congr (x := x) hr; simp only [pv, this]
  | fld o n ag x => have := ev_congr (x := x) hr; simp only [pv, this]
  | ext x n => have := ev_congr (x := x) hr; simp only [pv, this]
  | nilck x => have := ev_congr (x := x) hr; simp only [pv, this]
  | len x => have := ev_congr (x := x) hr; simp only [pv, this]
  | cap x => have := ev_congr (x := x) hr; simp only [pv, this]
  | lenS x => have := ev_congr (x := x) hr; simp only [pv, this]
  | lenA n => rfl
  | isnil n x => have := ev_congr (x := x) hr; simp only [pv, this]
  | clear a b x => rfl
  | mkmap => rfl
  | copy n d x => rfl
  | append a b x y => rfl
  | mksl a b c d e => rfl
  | call f args => rfl
  | mapup m k v => rfl
  | mn xs => have := evL_congr (xs := xs) hr; simp only [pv, this]
  | mx xs => have := evL_congr (xs := xs) hr; simp only [pv, this]
  | mkfn f a b =>
    have h1 := evL_congr (xs := a) (fun t ht => hr t (List.mem_append_left _ ht))
    have h2 := evL_congr (xs := b) (fun t ht => hr t (List.mem_append_right _ ht))
    simp only [pv, h1, h2]
  | slice n x lo hi mx =>
    have h1 := ev_congr (x := x) (fun t ht => hr t (by simp [IOp.rd, ht]))
    have h2 := evO_congr (x := lo) (fun t ht => hr t (by simp [IOp.rd, ht]))
    have h3 := evO_congr (x := hi) (fun t ht => hr t (by simp [IOp.rd, ht]))
    have h4 : ∀ m, mx = some m → ev s1 m = ev s2 m := fun m hm => ev_congr (fun t ht => hr t (by subst hm; simp [IOp.rd, rdO, ht]))
    have h5 : ∀ m, hi = some m → ev s1 m = ev s2 m := fun m hm => ev_congr (fun t ht => hr t (by subst hm; simp [IOp.rd, rdO, ht]))
    simp only [pv, h1, h2, h3]
    cases mx with
    | none => rfl
    | some m =>
      cases hi with
      | none => rfl
      | some m' => simp only [h4 m rfl, h5 m' rfl]
  | sliceS x lo hi =>
    have h1 := ev_congr (x := x) (fun t ht => hr t (by simp [IOp.rd, ht]))
    have h2 := evO_congr (x := lo) (fun t ht => hr t (by simp [IOp.rd, ht]))
    have h3 := evO_congr (x := hi) (fun t ht => hr t (by simp [IOp.rd, ht]))
    simp only [pv, h1, h2, h3]
  | bin o x y =>
    have h1 := ev_congr (x := x) (fun t ht => hr t (by simp [IOp.rd, ht]))
    have h2 := ev_congr (x := y) (fun t ht => hr t (by simp [IOp.rd, ht]))
    simp only [pv, h1, h2]
  | eq a b c x y =>
    have h1 := ev_congr (x := x) (fun t ht => hr t (by simp [IOp.rd, ht]))
    have h2 := ev_congr (x := y) (fun t ht => hr t (by simp [IOp.rd, ht]))
    simp only [pv, h1, h2]
  | iaddr a x y =>
    have h1 := ev_congr (x := x) (fun t ht => hr t (by simp [IOp.rd, ht]))
    have h2 := ev_congr (x := y) (fun t ht => hr t (by simp [IOp.rd, ht]))
    simp only [pv, h1, h2]
  | iaddrA a b x y =>
    have h1 := ev_congr (x := x) (fun t ht => hr t (by simp [IOp.rd, ht]))
    have h2 := ev_congr (x := y) (fun t ht => hr t (by simp [IOp.rd, ht]))
    simp only [pv, h1, h2]
  | idxS x y =>
    have h1 := ev_congr (x := x) (fun t ht => hr t (by simp [IOp.rd, ht]))
    have h2 := ev_congr (x := y) (fun t ht => hr t (by simp [IOp.rd, ht]))
    simp only [pv, h1, h2]
  | idxA a b c x y =>
    have h1 := ev_congr (x := x) (fun t ht => hr t (by simp [IOp.rd, ht]))
    have h2 := ev_congr (x := y) (fun t ht => hr t (by simp [IOp.rd, ht]))
    simp only [pv, h1, h2]
  | lookup z m k ok =>
    have h1 := ev_congr (x := m) (fun t ht => hr t (by simp [IOp.rd, ht]))
    have h2 := ev_congr (x := k) (fun t ht => hr t (by simp [IOp.rd, ht]))
    simp only [pv, h1, h2]

theorem InsR_congr {op : IOp} {s1 s2 : Slots} {h h1 : H} {v : AV} (hr : ∀ t ∈ op.rd, s1 t = s2 t) (hi : InsR P (ev s1) h op v h1) : InsR P (ev s2) h op v h1 := by
  cases hi with
  | pure op v hv => exact .pure op v (by rw [← pv_congr hr]; exact hv)
  | alloc z => exact .alloc z
  | box x cs hc => exact .box x cs (by rw [← ev_congr (x := x) hr]; exact hc)
  | store n a x b o cs xs q1 q2 q3 q4 q5 =>
    exact .store n a x b o cs xs (by rw [← ev_congr (x := a) (fun t ht => hr t (by simp [IOp.rd, ht]))]; exact q1) q2 q3 (by rw [← ev_congr (x := x) (fun t ht => hr t (by simp [IOp.rd, ht]))]; exact q4) q5
  | append sz bytes s x v h' q =>
    exact .append sz bytes s x v h1 (by rw [← ev_congr (x := s) (fun t ht => hr t (by simp [IOp.rd, ht])), ← ev_congr (x := x) (fun t ht => hr t (by simp [IOp.rd, ht]))]; exact q)
  | mkval sz bytes z l c k k' n q1 q2 q3 q4 =>
    exact .mkval sz bytes z l c k k' n (by rw [← ev_congr (x := l) (fun t ht => hr t (by simp [IOp.rd, ht]))]; exact q1) (by rw [← ev_congr (x := c) (fun t ht => hr t (by simp [IOp.rd, ht]))]; exact q2) q3 q4
  | mkbox sz bytes z l c k k' n q1 q2 q3 q4 =>
    exact .mkbox sz bytes z l c k k' n (by rw [← ev_congr (x := l) (fun t ht => hr t (by simp [IOp.rd, ht]))]; exact q1) (by rw [← ev_congr (x := c) (fun t ht => hr t (by simp [IOp.rd, ht]))]; exact q2) q3 q4
  | callF f args F first caps r h' q1 q2 =>
    exact .callF f args F first caps v h1 (by rw [← ev_congr (x := f) (fun t ht => hr t (by simp [IOp.rd, ht]))]; exact q1) (by rw [← evL_congr (xs := args) (fun t ht => hr t (List.mem_append_right _ ht))]; exact q2)
  | clear sz z x b off len cs q1 q2 q3 q4 q5 => exact .clear sz z x b off len cs (by rw [← ev_congr (x := x) hr]; exact q1) q2 q3 q4 q5
  | mkmap => exact .mkmap
  | mapup m k v mi es es' kk n q1 q2 q3 q4 q5 q6 =>
    exact .mapup m k v mi es es' kk n (by rw [← ev_congr (x := m) (fun t ht => hr t (by simp [IOp.rd, ht]))]; exact q1) q2 q3 (by rw [← ev_congr (x := k) (fun t ht => hr t (by simp [IOp.rd, ht]))]; exact q4)
      (by rw [← ev_congr (x := v) (fun t ht => hr t (by simp [IOp.rd, ht]))]; exact q5) (by rw [← ev_congr (x := v) (fun t ht => hr t (by simp [IOp.rd, ht]))]; exact q6)
  | callY f args l r h' q1 q2 =>
    exact .callY f args l v h1 (by rw [← ev_congr (x := f) (fun t ht => hr t (by simp [IOp.rd, ht]))]; exact q1) (by rw [← evL_congr (xs := args) (fun t ht => hr t (List.mem_append_right _ ht))]; exact q2)

/-- One operation with its guard. -/
def StepR (P : Program) (x : Ins) (s : Slots) (h : H) (v : AV) (h1 : H) : Prop :=
  (∃ t b, x.g = some (t, b) ∧ (s t = .bool (!b) ∨ s t = .skp) ∧ v = .skp ∧ h1 = h) ∨ ((∀ t b, x.g = some (t, b) → s t = .bool b) ∧ InsR P (ev s) h x.op v h1)

theorem StepR_congr {x : Ins} {s1 s2 : Slots} {h h1 : H} {v : AV} (hr : ∀ t ∈ x.rd, s1 t = s2 t) (hi : StepR P x s1 h v h1) : StepR P x s2 h v h1 := by
  rcases hi with ⟨t, b, q1, q2, q3, q4⟩ | ⟨q1, q2⟩
  · exact .inl ⟨t, b, q1, by rw [← hr t (by simp [Ins.rd, q1])]; exact q2, q3, q4⟩
  · refine .inr ⟨fun t b hg => ?_, InsR_congr (fun t ht => hr t (List.mem_append_right _ ht)) q2⟩
    rw [← hr t (by simp [Ins.rd, hg])]
    exact q1 t b hg

theorem StepR.ops {x : Ins} {s : Slots} {h h1 : H} {v : AV} (hi : StepR P x s h v h1) {xs : List Ins} {s' : Slots} {h' : H} (hr : OpsR P xs (put s x.dst v) h1 s' h') : OpsR P (x :: xs) s h s' h' := by
  rcases hi with ⟨t, b, q1, q2, q3, q4⟩ | ⟨q1, q2⟩
  · subst q3 q4
    exact .skip x xs s _ s' h' t b q1 q2 hr
  · exact .step x xs s h v h1 s' h' q1 q2 hr

/-! ### The check of a region -/
structure Mark where
  hv : Bool
  lo : Nat
  hi : Nat

def isHv (ms : List Mark) (i : Nat) : Bool :=
  match ms[i]? with
  | some m => m.hv
  | none => false
def hcN (ms : List Mark) : Nat → Nat
  | 0 => 0
  | i + 1 => hcN ms i + if isHv ms i then 1 else 0
def loN (ms : List Mark) (i : Nat) : Nat :=
  match ms[i]? with
  | some m => m.lo
  | none => 0
def hiN (ms : List Mark) (i : Nat) : Nat :=
  match ms[i]? with
  | some m => m.hi
  | none => 0
def dstN (is : List Ins) (i : Nat) : Option Nat :=
  match is[i]? with
  | some x => x.dst
  | none => none

structure DrawFine (is : List Ins) (aft : List (List Nat)) (ms : List Mark) : Prop where
  back : ∀ i, i < is.length → ∀ j ∈ aft.getD i [], j < i
  nodup : ∀ i, i < is.length → ∀ j, j < is.length → ∀ t, dstN is i = some t → dstN is j = some t → i = j
  reads : ∀ i x, is[i]? = some x → ∀ r ∈ x.rd, ∀ j, j < is.length → dstN is j = some r → j ∈ aft.getD i [] ∨ i ∈ aft.getD j []
  lo : ∀ i, i < is.length → loN ms i = 0 ∨ ∃ j ∈ aft.getD i [], loN ms i ≤ if isHv ms j then hcN ms j + 1 else loN ms j
  heavy : ∀ i, i < is.length → isHv ms i = true → loN ms i = hcN ms i
  hi : ∀ i, i < is.length → isHv ms i = false → hcN ms is.length ≤ hiN ms i ∨ ∃ q, q < is.length ∧ isHv ms q = true ∧ hcN ms q = hiN ms i ∧ i ∈ aft.getD q []

def drawFine (is : List Ins) (aft : List (List Nat)) (ms : List Mark) : Bool :=
  (List.range is.length).all fun i =>
    ((aft.getD i []).all fun j => decide (j < i)) &&
    ((List.range is.length).all fun j => i == j || (match dstN is i with | none => true | some t => !(dstN is j == some t))) &&
    ((match is[i]? with | none => [] | some x => x.rd).all fun r => (List.range is.length).all fun j => !(dstN is j == some r) || (aft.getD i []).contains j || (aft.getD j []).contains i) &&
    (loN ms i == 0 || (aft.getD i []).any fun j => decide (loN ms i ≤ if isHv ms j then hcN ms j + 1 else loN ms j)) &&
    (!isHv ms i || loN ms i == hcN ms i) &&
    (isHv ms i || decide (hcN ms is.length ≤ hiN ms i) || (List.range is.length).any fun q => isHv ms q && hcN ms q == hiN ms i && (aft.getD q []).contains i)

theorem drawFine_is {is : List Ins} {aft : List (List Nat)} {ms : List Mark} (h : drawFine is aft ms = true) : DrawFine is aft ms := by
  simp only [drawFine, List.all_eq_true, List.mem_range, Bool.and_eq_true] at h
  refine ⟨fun i hi j hj => ?_, fun i hi j hj t h1 h2 => ?_, fun i x hx r hr j hj hd => ?_, fun i hi => ?_, fun i hi hv => ?_, fun i hi hv => ?_⟩
  · exact of_decide_eq_true ((h i hi).1.1.1.1.1 j hj)
  · have := (h i hi).1.1.1.1.2 j hj
    rw [h1] at this
    simp only [h2] at this
    simpa using this
  · have hi := (List.getElem?_eq_some_iff.1 hx).1
    have := (h i hi).1.1.1.2 r (by rw [hx]; exact hr) j hj
    simp only [hd] at this
    simpa using this
  · have := (h i hi).1.1.2
    simp only [Bool.or_eq_true, beq_iff_eq, List.any_eq_true, decide_eq_true_eq] at this
    exact this
  · have := (h i hi).1.2
    rw [hv] at this
    simpa using this
  · have := (h i hi).2
    rw [hv] at this
    simp only [Bool.false_or, Bool.or_eq_true, decide_eq_true_eq, List.any_eq_true, List.mem_range, Bool.and_eq_true, beq_iff_eq, List.contains_eq_mem] at this
    rcases this with h1 | ⟨q, q1, ⟨q2, q3⟩, q4⟩
    · exact .inl h1
    · exact .inr ⟨q, q1, q2, q3, q4⟩

/-! ### Slots and counts of what is done -/
def slN (is : List Ins) (v : Nat → AV) (s : Slots) : List Nat → Slots
  | [] => s
  | i :: D => put (slN is v s D) (dstN is i) (v i)
def hcL (ms : List Mark) : List Nat → Nat
  | [] => 0
  | i :: D => hcL ms D + if isHv ms i then 1 else 0

theorem slN_out {is : List Ins} {v : Nat → AV} {s : Slots} {t : Nat} : ∀ {D : List Nat}, (∀ j ∈ D, dstN is j ≠ some t) → slN is v s D t = s t
  | [], _ => rfl
  | i :: D, h => by
    have h1 := h i (List.mem_cons_self ..)
    have h2 := slN_out (is := is) (v := v) (s := s) (t := t) (D := D) fun j hj => h j (List.mem_cons_of_mem _ hj)
    simp only [slN]
    cases hd : dstN is i with
    | none => exact h2
    | some u =>
      rw [hd] at h1
      have : t ≠ u := fun h => h1 (by rw [h])
      simp only [put, su, if_neg this]
      exact h2

theorem slN_in {is : List Ins} {v : Nat → AV} {s : Slots} {t j : Nat} (hj : dstN is j = some t) : ∀ {D : List Nat}, (∀ i ∈ D, dstN is i = some t → i = j) → j ∈ D → slN is v s D t = v j
  | [], _, h => by cases h
  | i :: D, hu, h => by
    simp only [slN]
    by_cases hij : i = j
    · subst hij
      rw [hj]
      simp [put, su]
    · have hjD : j ∈ D := by
        rcases List.mem_cons.1 h with h | h
        · exact absurd h.symm hij
        · exact h
      have ih := slN_in (v := v) (s := s) hj (D := D) (fun i hi => hu i (List.mem_cons_of_mem _ hi)) hjD
      cases hd : dstN is i with
      | none => exact ih
      | some u =>
        have : t ≠ u := fun h => hij (hu i (List.mem_cons_self ..) (by rw [hd, h]))
        simp only [put, su, if_neg this]
        exact ih

def txt : Nat → List Nat
  | 0 => []
  | i + 1 => i :: txt i
theorem mem_txt {i j : Nat} : j ∈ txt i ↔ j < i := by
  induction i with
  | zero => simp [txt]
  | succ i ih => simp [txt, ih]; omega
theorem hcL_txt (ms : List Mark) (i : Nat) : hcL ms (txt i) = hcN ms i := by
  induction i with
  | zero => rfl
  | succ i ih => simp only [txt, hcL, hcN, ih]

theorem hcN_mono (ms : List Mark) {i j : Nat} (h : i ≤ j) : hcN ms i ≤ hcN ms j := by
  induction j with
  | zero => rw [Nat.le_zero.1 h]; exact Nat.le_refl _
  | succ j ih =>
    by_cases hij : i = j + 1
    · rw [hij]; exact Nat.le_refl _
    · have := ih (by omega)
      simp only [hcN]; omega
theorem hcN_lt (ms : List Mark) {i j : Nat} (h : i < j) (hv : isHv ms i = true) : hcN ms i < hcN ms j := by
  have h1 := hcN_mono ms (i := i + 1) (j := j) h
  simp only [hcN, hv, if_true] at h1
  omega
theorem hcN_inj (ms : List Mark) {i j : Nat} (hi : isHv ms i = true) (hj : isHv ms j = true) (h : hcN ms i = hcN ms j) : i = j := by
  rcases Nat.lt_trichotomy i j with h1 | h1 | h1
  · have := hcN_lt ms h1 hi; omega
  · exact h1
  · have := hcN_lt ms h1 hj; omega
theorem hcN_ex (ms : List Mark) : ∀ {n m : Nat}, m < hcN ms n → ∃ q, q < n ∧ isHv ms q = true ∧ hcN ms q = m
  | 0, m, h => by simp [hcN] at h
  | n + 1, m, h => by
    by_cases hm : m < hcN ms n
    · obtain ⟨q, h1, h2, h3⟩ := hcN_ex ms hm
      exact ⟨q, by omega, h2, h3⟩
    · simp only [hcN] at h
      by_cases hv : isHv ms n = true
      · simp only [hv, if_true] at h
        exact ⟨n, by omega, hv, by omega⟩
      · simp only [hv] at h
        simp at h; omega

/-- What each operation does, in the text's order. -/
def SpecAt (P : Program) (is : List Ins) (ms : List Mark) (v : Nat → AV) (hs : Nat → H) (s : Slots) (i : Nat) : Prop :=
  ∀ x, is[i]? = some x → if isHv ms i then StepR P x (slN is v s (txt i)) (hs (hcN ms i)) (v i) (hs (hcN ms i + 1)) else ∀ k, loN ms i ≤ k → k ≤ hiN ms i → k ≤ hcN ms is.length → StepR P x (slN is v s (txt i)) (hs k) (v i) (hs k)

theorem draw_any {is : List Ins} {aft : List (List Nat)} {ms : List Mark} (hf : DrawFine is aft ms) {v : Nat → AV} {hs : Nat → H} {s : Slots} (hsp : ∀ i, i < is.length → SpecAt P is ms v hs s i) :
    ∀ (l D : List Nat) (xs : List Ins), TopoFrom aft D l → (∀ i ∈ l, i < is.length) → (∀ i ∈ D, i < is.length) → (∀ i, i < is.length → i ∈ D ∨ i ∈ l) → pick is l = some xs →
      (∀ j ∈ D, ∀ q ∈ aft.getD j [], q ∈ D) → (∀ j, j < is.length → isHv ms j = true → (j ∈ D ↔ hcN ms j < hcL ms D)) → (∀ j ∈ D, loN ms j ≤ hcL ms D) → hcL ms D ≤ hcN ms is.length →
      OpsR P xs (slN is v s D) (hs (hcL ms D)) (slN is v s (txt is.length)) (hs (hcN ms is.length))
  | [], D, xs, _, _, hD, hall, hp, _, hI, _, hK => by
    simp only [pick, Option.some.injEq] at hp
    subst hp
    have hin : ∀ i, i < is.length → i ∈ D := fun i hi => by
      rcases hall i hi with h | h
      · exact h
      · cases h
    have e1 : slN is v s D = slN is v s (txt is.length) := by
      funext t
      by_cases ht : ∃ j, j < is.length ∧ dstN is j = some t
      · obtain ⟨j, hj, hd⟩ := ht
        rw [slN_in hd (fun i hi hdi => hf.nodup i (hD i hi) j hj t hdi hd) (hin j hj), slN_in hd (fun i hi hdi => hf.nodup i (mem_txt.1 hi) j hj t hdi hd) (mem_txt.2 hj)]
      · rw [slN_out fun j hj hd => ht ⟨j, hD j hj, hd⟩, slN_out fun j hj hd => ht ⟨j, mem_txt.1 hj, hd⟩]
    have e2 : hcL ms D = hcN ms is.length := by
      rcases Nat.lt_or_ge (hcL ms D) (hcN ms is.length) with h | h
      · obtain ⟨q, q1, q2, q3⟩ := hcN_ex ms h
        have := (hI q q1 q2).1 (hin q q1)
        omega
      · omega
    rw [e1, e2]
    exact .nil _ _
  | i :: l, D, xs, ⟨ht1, ht2, ht3⟩, hl, hD, hall, hp, hcl, hI, hL, hK => by
    simp only [pick, Option.bind_eq_some_iff, Option.map_eq_some_iff] at hp
    obtain ⟨x, hx, xs', hxs', rfl⟩ := hp
    have hi := hl i (List.mem_cons_self ..)
    have hdst : dstN is i = x.dst := by simp [dstN, hx]
    -- the slots that it reads
    have hr : ∀ r ∈ x.rd, slN is v s (txt i) r = slN is v s D r := fun r hr => by
      by_cases hw : ∃ j, j < is.length ∧ dstN is j = some r
      · obtain ⟨j, hj, hd⟩ := hw
        rcases hf.reads i x hx r hr j hj hd with h | h
        · rw [slN_in hd (fun k hk hdk => hf.nodup k (by have := mem_txt.1 hk; omega) j hj r hdk hd) (mem_txt.2 (hf.back i hi j h)), slN_in hd (fun k hk hdk => hf.nodup k (hD k hk) j hj r hdk hd) (ht2 j h)]
        · have hji := hf.back j hj i h
          rw [slN_out fun k hk hdk => ?_, slN_out fun k hk hdk => ?_]
          · have := hf.nodup k (hD k hk) j hj r hdk hd
            subst this
            exact ht1 (hcl k hk i h)
          · have := mem_txt.1 hk
            have := hf.nodup k (by omega) j hj r hdk hd
            omega
      · rw [slN_out fun k hk hdk => hw ⟨k, by have := mem_txt.1 hk; omega, hdk⟩, slN_out fun k hk hdk => hw ⟨k, hD k hk, hdk⟩]
    have hlo : loN ms i ≤ hcL ms D := by
      rcases hf.lo i hi with h | ⟨j, hj, h⟩
      · omega
      · have hjD := ht2 j hj
        by_cases hv : isHv ms j = true
        · rw [if_pos hv] at h
          have := (hI j (hD j hjD) hv).1 hjD
          omega
        · rw [if_neg hv] at h
          have := hL j hjD
          omega
    have hD' : ∀ j ∈ i :: D, j < is.length := fun j hj => by
      rcases List.mem_cons.1 hj with h | h
      · omega
      · exact hD j h
    have hall' : ∀ j, j < is.length → j ∈ i :: D ∨ j ∈ l := fun j hj => by
      rcases hall j hj with h | h
      · exact .inl (List.mem_cons_of_mem _ h)
      · rcases List.mem_cons.1 h with h | h
        · exact .inl (h ▸ List.mem_cons_self ..)
        · exact .inr h
    have hcl' : ∀ j ∈ i :: D, ∀ q ∈ aft.getD j [], q ∈ i :: D := fun j hj q hq => by
      rcases List.mem_cons.1 hj with h | h
      · subst h; exact List.mem_cons_of_mem _ (ht2 q hq)
      · exact List.mem_cons_of_mem _ (hcl j h q hq)
    have hs' := hsp i hi x hx
    have hgo := fun (h1 : ∀ j, j < is.length → isHv ms j = true → (j ∈ i :: D ↔ hcN ms j < hcL ms (i :: D))) (h2 : ∀ j ∈ i :: D, loN ms j ≤ hcL ms (i :: D)) (h3 : hcL ms (i :: D) ≤ hcN ms is.length) =>
      draw_any hf hsp l (i :: D) xs' ht3 (fun j hj => hl j (List.mem_cons_of_mem _ hj)) hD' hall' hxs' hcl' h1 h2 h3
    by_cases hv : isHv ms i = true
    · rw [if_pos hv] at hs'
      have hm : hcN ms i = hcL ms D := by
        have h1 := hf.heavy i hi hv
        have h2 : ¬ hcN ms i < hcL ms D := fun h => ht1 ((hI i hi hv).2 h)
        omega
      have hc' : hcL ms (i :: D) = hcL ms D + 1 := by simp only [hcL, hv, if_true]
      have := hgo (fun j hj hvj => by
        rw [hc', List.mem_cons, hI j hj hvj]
        constructor
        · rintro (h | h)
          · subst h; omega
          · omega
        · intro h
          by_cases hj' : hcN ms j = hcN ms i
          · exact .inl (hcN_inj ms hvj hv hj')
          · exact .inr (by omega)) (fun j hj => by
        rcases List.mem_cons.1 hj with h | h
        · subst h; omega
        · have := hL j h; omega) (by
        have := hcN_lt ms hi hv
        omega)
      refine StepR.ops (v := v i) (h1 := hs (hcL ms (i :: D))) ?_ ?_
      · rw [hc', ← hm]
        exact StepR_congr hr hs'
      · rw [← hdst]; exact this
    · rw [if_neg hv] at hs'
      have hc' : hcL ms (i :: D) = hcL ms D := by simp only [hcL]; simp [hv]
      have := hgo (fun j hj hvj => by
        rw [hc', List.mem_cons, hI j hj hvj]
        constructor
        · rintro (h | h)
          · subst h; exact absurd hvj hv
          · exact h
        · exact fun h => .inr h) (fun j hj => by
        rw [hc']
        rcases List.mem_cons.1 hj with h | h
        · subst h; exact hlo
        · exact hL j h) (by rw [hc']; exact hK)
      have hhi : hcL ms D ≤ hiN ms i := by
        rcases hf.hi i hi (by simpa using hv) with h | ⟨q, q1, q2, q3, q4⟩
        · omega
        · rcases Nat.lt_or_ge (hiN ms i) (hcL ms D) with h | h
          · exact absurd (hcl q ((hI q q1 q2).2 (by omega)) i q4) ht1
          · exact h
      refine StepR.ops (v := v i) (h1 := hs (hcL ms (i :: D))) ?_ ?_
      · rw [hc']
        exact StepR_congr hr (hs' _ hlo hhi hK)
      · rw [← hdst]; exact this

theorem draw_sound {is : List Ins} {aft : List (List Nat)} {ms : List Mark} (hf : drawFine is aft ms = true) {v : Nat → AV} {hs : Nat → H} {s : Slots} (hsp : ∀ i, i < is.length → SpecAt P is ms v hs s i)
    (t : List Nat) (ht : Topo aft is.length t) (xs : List Ins) (hx : pick is t = some xs) : OpsR P xs s (hs 0) (slN is v s (txt is.length)) (hs (hcN ms is.length)) :=
  draw_any (drawFine_is hf) hsp t [] xs ht.order ht.lt (fun i hi => by cases hi) (fun i hi => .inr (ht.all i hi)) hx (fun j hj => by cases hj) (fun j hj hv => by simp [hcL]) (fun j hj => by cases hj) (Nat.zero_le _)

end
end Go.Am

/- Drawn regions forward; the run of a frame's code, forward. -/
namespace Go.Am
open Go Go.RowKit

def CallR (P : Program) (f : AV) (args : List AV) (h : H) (r : AV) (h1 : H) : Prop :=
  match f with
  | .fn F first caps => SCall P F (first ++ args ++ caps) h r h1
  | .yld l => SYld P l args h r h1
  | _ => False
/-- A call in a drawn region: what it does is known to the last. -/
def callD (P : Program) (f : AV) (args : List AV) (h : H) (K : AV → H → Prop) : Prop := ∃ r h1, CallR P f args h r h1 ∧ K r h1
def wpD (P : Program) (op : IOp) (e : Opd → AV) (h : H) (K : AV → H → Prop) : Prop :=
  match op with
  | .call f args => callD P (e f) (args.map e) h K
  | op => wpI P op e h K

section
variable {P : Program} {base : Nat} {W : Nat → Prop}

theorem wpD_sound {op : IOp} {e : Opd → AV} {h : H} {K : AV → H → Prop} (hw : wpD P op e h K) : ∃ v h1, InsR P e h op v h1 ∧ K v h1 := by
  cases op with
  | call f args =>
    obtain ⟨v, h1, q1, q2⟩ := hw
    refine ⟨v, h1, ?_, q2⟩
    simp only [CallR] at q1
    split at q1
    · rename_i F first caps hf
      exact .callF f args F first caps v h1 hf q1
    · rename_i l hl
      exact .callY f args l v h1 hl q1
    · exact q1.elim
  | _ =>
    simp only [wpD] at hw
    rcases wpI_sound hw with h | ⟨f, args, h, _⟩
    · exact h
    · cases h

/-! ### Drawn regions -/
structure Obl where
  lo : Nat
  hi : Nat
  p : H → Prop

def Obl.ok (o : Obl) (hist : List H) : Prop := ∀ h ∈ (hist.drop o.lo).take (o.hi + 1 - o.lo), o.p h

def lastH (h0 : H) : List H → H
  | [] => h0
  | h :: hs => lastH h hs

def IOp.free : IOp → Bool
  | .load .. | .lookup .. | .append .. | .call .. | .alloc _ | .box _ | .store .. | .mksl .. | .mkmap | .mapup .. => false
  | _ => true

theorem pv_free {op : IOp} (hf : op.free = true) (e : Opd → AV) (h h' : H) : pv op e h = pv op e h' := by
  cases op <;> first | rfl | cases hf

def RD (P : Program) : List Ins → List Mark → Slots → H → List H → List Obl → (Slots → H → Prop) → Prop
  | [], _, s, h0, hist, obl, Q => (∀ o ∈ obl, o.ok (h0 :: hist)) ∧ Q s (lastH h0 hist)
  | x :: is, ⟨true, _, _⟩ :: ms, s, h0, hist, obl, Q =>
    gd x.g s (wpD P x.op (ev s) (lastH h0 hist) fun v h1 => RD P is ms (put s x.dst v) h0 (hist ++ [h1]) obl Q) (RD P is ms (put s x.dst .skp) h0 (hist ++ [lastH h0 hist]) obl Q)
  | x :: is, ⟨false, lo, hi⟩ :: ms, s, h0, hist, obl, Q =>
    gd x.g s (match x.op with
      | .load n ag y => ob (pv (.load n ag y) (ev s) (lastH h0 hist)) fun v => RD P is ms (put s x.dst v) h0 hist (⟨lo, hi, fun h => pv (.load n ag y) (ev s) h = some v⟩ :: obl) Q
      | .lookup z m k ok => ob (pv (.lookup z m k ok) (ev s) (lastH h0 hist)) fun v => RD P is ms (put s x.dst v) h0 hist (⟨lo, hi, fun h => pv (.lookup z m k ok) (ev s) h = some v⟩ :: obl) Q
      | .call f args => ∃ v, (∀ h, CallR P (ev s f) (args.map (ev s)) h v h) ∧ RD P is ms (put s x.dst v) h0 hist obl Q
      | .append sz b y z => ∃ v, (∀ h, AppR h sz b (ev s y) (ev s z) v h) ∧ RD P is ms (put s x.dst v) h0 hist obl Q
      | .mksl sz b z l c => ∃ v, (∀ h, InsR P (ev s) h (.mksl sz b z l c) v h) ∧ RD P is ms (put s x.dst v) h0 hist obl Q
      | .alloc _ | .box _ | .store .. | .mkmap | .mapup .. => False
      | op => ob (pv op (ev s) h0) fun v => RD P is ms (put s x.dst v) h0 hist obl Q) (RD P is ms (put s x.dst .skp) h0 hist obl Q)
  | _ :: _, [], _, _, _, _, _ => False

/-- What a drawn region's forward run has shown. -/
structure Shown (P : Program) (is : List Ins) (ms : List Mark) (s : Slots) (h0 : H) (hist : List H) (obl : List Obl) (Q : Slots → H → Prop) (vs : List AV) (more : List H) : Prop where
  len : vs.length = is.length
  obl : ∀ o ∈ obl, o.ok (h0 :: (hist ++ more))
  cnt : more.length = hcN ms is.length
  fin : Q (slN is (fun i => vs.getD i .undef) s (txt is.length)) (lastH h0 (hist ++ more))
  spec : ∀ i, i < is.length → ∀ x, is[i]? = some x → if isHv ms i then StepR P x (slN is (fun i => vs.getD i .undef) s (txt i)) ((h0 :: (hist ++ more)).getD (hist.length + hcN ms i) h0) (vs.getD i .undef) ((h0 :: (hist ++ more)).getD (hist.length + hcN ms i + 1) h0)
    else ∀ k, loN ms i ≤ k → k ≤ hiN ms i → k ≤ hist.length + hcN ms is.length → StepR P x (slN is (fun i => vs.getD i .undef) s (txt i)) ((h0 :: (hist ++ more)).getD k h0) (vs.getD i .undef) ((h0 :: (hist ++ more)).getD k h0)

theorem hcN_cons (m : Mark) (ms : List Mark) (i : Nat) : hcN (m :: ms) (i + 1) = (if m.hv then 1 else 0) + hcN ms i := by
  induction i with
  | zero => simp [hcN, isHv]
  | succ i ih =>
    have : isHv (m :: ms) (i + 1) = isHv ms i := by simp [isHv]
    rw [show hcN (m :: ms) (i + 1 + 1) = hcN (m :: ms) (i + 1) + (if isHv (m :: ms) (i + 1) then 1 else 0) from rfl, ih, this]
    simp only [hcN]
    omega

theorem slN_cons (x : Ins) (is : List Ins) (v : AV) (vs : List AV) (s : Slots) (i : Nat) :
    slN (x :: is) (fun i => (v :: vs).getD i .undef) s (txt (i + 1)) = slN is (fun i => vs.getD i .undef) (put s x.dst v) (txt i) := by
  induction i with
  | zero => simp [txt, slN, dstN]
  | succ i ih =>
    have h1 : dstN (x :: is) (i + 1) = dstN is i := by simp [dstN]
    rw [show txt (i + 1 + 1) = (i + 1) :: txt (i + 1) from rfl]
    simp only [slN, h1]
    rw [ih]
    simp [txt, slN]

theorem lastH_snoc (h0 : H) (hist : List H) (h1 : H) : lastH h0 (hist ++ [h1]) = h1 := by
  induction hist generalizing h0 with
  | nil => rfl
  | cons h hist ih => exact ih h

theorem getD_last (h0 : H) (hist more : List H) (d : H) : (h0 :: (hist ++ more)).getD hist.length d = lastH h0 hist := by
  induction hist generalizing h0 with
  | nil => rfl
  | cons h hist ih => exact ih h

/-- One operation more, ahead. -/
theorem Shown.cons {x : Ins} {is : List Ins} {m : Mark} {ms : List Mark} {s : Slots} {h0 : H} {hist hist1 : List H} {obl obl1 : List Obl} {Q : Slots → H → Prop} {v : AV} {vs : List AV} {more more1 : List H}
    (hs : Shown P is ms (put s x.dst v) h0 hist1 obl1 Q vs more1) (hh : hist1 ++ more1 = hist ++ more) (hl : hist1.length = hist.length + if m.hv then 1 else 0) (ho : ∀ o ∈ obl, o ∈ obl1)
    (hx : if m.hv then StepR P x s ((h0 :: (hist ++ more)).getD hist.length h0) v ((h0 :: (hist ++ more)).getD (hist.length + 1) h0) else ∀ k, m.lo ≤ k → k ≤ m.hi → k ≤ hist.length + hcN ms is.length → StepR P x s ((h0 :: (hist ++ more)).getD k h0) v ((h0 :: (hist ++ more)).getD k h0)) :
    Shown P (x :: is) (m :: ms) s h0 hist obl Q (v :: vs) more := by
  have hcnt : hist.length + more.length = hist1.length + more1.length := by
    have := congrArg List.length hh
    simpa using this.symm
  refine ⟨by simp [hs.len], fun o h => by rw [← hh]; exact hs.obl o (ho o h), ?_, ?_, fun i hi y hy => ?_⟩
  · rw [List.length_cons, hcN_cons, ← hs.cnt]
    omega
  · rw [List.length_cons, slN_cons, ← hh]
    exact hs.fin
  · cases i with
    | zero =>
      simp only [List.getElem?_cons_zero, Option.some.injEq] at hy
      subst hy
      have e1 : isHv (m :: ms) 0 = m.hv := rfl
      have e2 : loN (m :: ms) 0 = m.lo := rfl
      have e3 : hiN (m :: ms) 0 = m.hi := rfl
      rw [e1, e2, e3]
      by_cases hv : m.hv = true
      · rw [if_pos hv] at hx ⊢
        exact hx
      · rw [if_neg hv] at hx ⊢
        intro k h1 h2 h3
        refine hx k h1 h2 ?_
        rw [List.length_cons, hcN_cons, if_neg hv] at h3
        omega
    | succ i =>
      have hi' : i < is.length := by simpa using hi
      have := hs.spec i hi' y (by simpa using hy)
      have e1 : isHv (m :: ms) (i + 1) = isHv ms i := by simp [isHv]
      have e2 : loN (m :: ms) (i + 1) = loN ms i := by simp [loN]
      have e3 : hiN (m :: ms) (i + 1) = hiN ms i := by simp [hiN]
      have e4 : ((v :: vs).getD (i + 1) AV.undef) = vs.getD i .undef := by simp
      rw [e1, e2, e3, e4, slN_cons, hcN_cons, List.length_cons, hcN_cons]
      rw [hh] at this
      rw [show hist.length + ((if m.hv then 1 else 0) + hcN ms i) = hist1.length + hcN ms i by omega, show hist.length + ((if m.hv then 1 else 0) + hcN ms is.length) = hist1.length + hcN ms is.length by omega]
      exact this

theorem getD_mem_obl {o : Obl} {l : List H} {h0 : H} (ho : o.ok l) {k : Nat} (h1 : o.lo ≤ k) (h2 : k ≤ o.hi) (h3 : k < l.length) : o.p (l.getD k h0) := by
  refine ho _ ?_
  rw [List.mem_iff_getElem?]
  refine ⟨k - o.lo, ?_⟩
  rw [List.getElem?_take, if_pos (by omega), List.getElem?_drop, show o.lo + (k - o.lo) = k by omega, List.getD_eq_getElem?_getD, List.getElem?_eq_getElem h3]
  rfl

theorem RD_shown : ∀ {is : List Ins} {ms : List Mark} {s : Slots} {h0 : H} {hist : List H} {obl : List Obl} {Q : Slots → H → Prop}, RD P is ms s h0 hist obl Q → ∃ vs more, Shown P is ms s h0 hist obl Q vs more
  | [], ms, s, h0, hist, obl, Q, hr => ⟨[], [], ⟨rfl, by simpa using hr.1, by simp [hcN], by simpa [txt, slN] using hr.2, fun i hi => by simp at hi⟩⟩
  | x :: is, ⟨true, lo, hi⟩ :: ms, s, h0, hist, obl, Q, hr => by
    simp only [RD] at hr
    have fin : ∀ {v : AV} {h1 : H}, StepR P x s (lastH h0 hist) v h1 → RD P is ms (put s x.dst v) h0 (hist ++ [h1]) obl Q → ∃ vs more, Shown P (x :: is) (⟨true, lo, hi⟩ :: ms) s h0 hist obl Q vs more := fun {v h1} hst hr => by
      obtain ⟨vs, more, hsh⟩ := RD_shown hr
      refine ⟨v :: vs, h1 :: more, hsh.cons (by simp) (by simp) (fun o h => h) ?_⟩
      rw [if_pos rfl, getD_last]
      have : (h0 :: (hist ++ h1 :: more)).getD (hist.length + 1) h0 = h1 := by simp
      rw [this]
      exact hst
    rcases gd_sound hr with ⟨t, b, q1, q2, q3⟩ | ⟨q1, q2⟩
    · exact fin (.inl ⟨t, b, q1, q2, rfl, rfl⟩) q3
    · obtain ⟨v, h1, p1, p2⟩ := wpD_sound q2
      exact fin (.inr ⟨q1, p1⟩) p2
  | x :: is, ⟨false, lo, hi⟩ :: ms, s, h0, hist, obl, Q, hr => by
    simp only [RD] at hr
    have fin : ∀ {v : AV}, (∀ h, StepR P x s h v h) → RD P is ms (put s x.dst v) h0 hist obl Q → ∃ vs more, Shown P (x :: is) (⟨false, lo, hi⟩ :: ms) s h0 hist obl Q vs more := fun {v} hst hr => by
      obtain ⟨vs, more, hsh⟩ := RD_shown hr
      exact ⟨v :: vs, more, hsh.cons rfl (by simp) (fun o h => h) (by rw [if_neg (by simp)]; exact fun k _ _ _ => hst _)⟩
    have fino : ∀ {v : AV} {op : IOp}, (∀ t b, x.g = some (t, b) → s t = .bool b) → x.op = op → RD P is ms (put s x.dst v) h0 hist (⟨lo, hi, fun h => pv op (ev s) h = some v⟩ :: obl) Q → ∃ vs more, Shown P (x :: is) (⟨false, lo, hi⟩ :: ms) s h0 hist obl Q vs more := fun {v op} hg hop hr => by
      obtain ⟨vs, more, hsh⟩ := RD_shown hr
      refine ⟨v :: vs, more, hsh.cons rfl (by simp) (fun o h => List.mem_cons_of_mem _ h) ?_⟩
      rw [if_neg (by simp)]
      intro k h1 h2 h3
      have hok := hsh.obl _ (List.mem_cons_self ..)
      have := getD_mem_obl (h0 := h0) hok (k := k) h1 h2 (by
        have := hsh.cnt
        simp only [List.length_cons, List.length_append]
        omega)
      exact .inr ⟨hg, by rw [hop]; exact .pure _ v this⟩
    rcases gd_sound hr with ⟨t, b, q1, q2, q3⟩ | ⟨q1, q2⟩
    · exact fin (fun h => .inl ⟨t, b, q1, q2, rfl, rfl⟩) q3
    · have hob : ∀ {o : Option AV} {K : AV → Prop}, ob o K → ∃ v, o = some v ∧ K v := fun {o K} h => by
        cases o with
        | none => exact h.elim
        | some v => exact ⟨v, rfl, h⟩
      have hfree : x.op.free = true → ob (pv x.op (ev s) h0) (fun v => RD P is ms (put s x.dst v) h0 hist obl Q) → ∃ vs more, Shown P (x :: is) (⟨false, lo, hi⟩ :: ms) s h0 hist obl Q vs more := fun hf h => by
        obtain ⟨v, hv, hk⟩ := hob h
        exact fin (fun h => .inr ⟨q1, .pure _ v (by rw [pv_free hf (ev s) h h0]; exact hv)⟩) hk
      cases hop : x.op with
      | load n ag y =>
        rw [hop] at q2
        obtain ⟨v, hv, hk⟩ := hob q2
        exact fino q1 hop hk
      | lookup z m k ok =>
        rw [hop] at q2
        obtain ⟨v, hv, hk⟩ := hob q2
        exact fino q1 hop hk
      | call f args =>
        rw [hop] at q2
        obtain ⟨v, hv, hk⟩ := q2
        refine fin (fun h => .inr ⟨q1, ?_⟩) hk
        rw [hop]
        have := hv h
        simp only [CallR] at this
        split at this
        · rename_i F first caps hf
          exact .callF f args F first caps v h hf this
        · rename_i l hl
          exact .callY f args l v h hl this
        · exact this.elim
      | append sz b y z =>
        rw [hop] at q2
        obtain ⟨v, hv, hk⟩ := q2
        exact fin (fun h => .inr ⟨q1, by rw [hop]; exact .append sz b y z v h (hv h)⟩) hk
      | mksl sz b z l c =>
        rw [hop] at q2
        obtain ⟨v, hv, hk⟩ := q2
        exact fin (fun h => .inr ⟨q1, by rw [hop]; exact hv h⟩) hk
      | alloc z => rw [hop] at q2; exact q2.elim
      | box y => rw [hop] at q2; exact q2.elim
      | store n a y => rw [hop] at q2; exact q2.elim
      | mkmap => rw [hop] at q2; exact q2.elim
      | mapup m k v => rw [hop] at q2; exact q2.elim
      | _ => rw [hop] at q2; exact hfree (by rw [hop]; rfl) (by rw [hop]; exact q2)
  | _ :: _, [], _, _, _, _, _, hr => hr.elim

theorem draw_run {is : List Ins} {aft : List (List Nat)} {ms : List Mark} (hf : drawFine is aft ms = true) {s : Slots} {h : H} {Q : Slots → H → Prop} (hr : RD P is ms s h [] [] Q) :
    ∃ s1 h1, (∀ t, Topo aft is.length t → ∀ xs, pick is t = some xs → OpsR P xs s h s1 h1) ∧ Q s1 h1 := by
  obtain ⟨vs, more, hsh⟩ := RD_shown hr
  have hF := drawFine_is hf
  have key := fun hsp t ht xs hx => draw_sound (P := P) hf (v := fun i => vs.getD i .undef) (hs := fun k => (h :: more).getD k h) (s := s) hsp t ht xs hx
  refine ⟨_, _, fun t ht xs hx => key (fun i hi x hx => ?_) t ht xs hx, ?_⟩
  · have := hsh.spec i hi x hx
    simp only [List.nil_append, List.length_nil, Nat.zero_add] at this
    by_cases hv : isHv ms i = true
    · rw [if_pos hv] at this ⊢; exact this
    · rw [if_neg hv] at this ⊢
      exact this
  · have := hsh.fin
    simp only [List.nil_append] at this
    have e : (h :: more).getD (hcN ms is.length) h = lastH h more := by
      rw [← hsh.cnt]
      have := getD_last h more [] h
      simpa using this
    show Q _ ((h :: more).getD (hcN ms is.length) h)
    rw [e]
    exact this

/-- The run, forward. -/
inductive Run (P : Program) (inr : Bool) : List It → (Res → Slots → H → Prop) → Slots → H → Prop where
  | nil {Q : Res → Slots → H → Prop} {s : Slots} {h : H} : Q .norm s h → Run P inr [] Q s h
  | skip {k : List It} {Q : Res → Slots → H → Prop} {s : Slots} {h : H} : Run P inr k Q s h → Run P inr (.c .skip :: k) Q s h
  | seq {a b : IR} {k : List It} {Q : Res → Slots → H → Prop} {s : Slots} {h : H} : Run P inr (.c a :: .c b :: k) Q s h → Run P inr (.c (.seq a b) :: k) Q s h
  | cond {c : Opd} {x y : IR} {t : Bool} {k : List It} {Q : Res → Slots → H → Prop} {s : Slots} {h : H} : ev s c = .bool t → Run P inr (.c (if t then x else y) :: k) Q s h → Run P inr (.c (.cond c x y) :: k) Q s h
  | condU {c : Opd} {x y : IR} {k : List It} {Q : Res → Slots → H → Prop} {s : Slots} {h : H} : ev s c = .ubool → Run P inr (.c x :: k) Q s h → Run P inr (.c y :: k) Q s h → Run P inr (.c (.cond c x y) :: k) Q s h
  | scp {b : IR} {k : List It} {Q : Res → Slots → H → Prop} {s : Slots} {h : H} : Run P inr (.c b :: .scp :: k) Q s h → Run P inr (.c (.scp b) :: k) Q s h
  | scpEnd {k : List It} {Q : Res → Slots → H → Prop} {s : Slots} {h : H} : Run P inr k Q s h → Run P inr (.scp :: k) Q s h
  | blk {id : Nat} {b : IR} {k : List It} {Q : Res → Slots → H → Prop} {s : Slots} {h : H} : Run P inr (.c b :: .blk id :: k) Q s h → Run P inr (.c (.blk id b) :: k) Q s h
  | blkEnd {id : Nat} {k : List It} {Q : Res → Slots → H → Prop} {s : Slots} {h : H} : Run P inr k Q s h → Run P inr (.blk id :: k) Q s h
  | loop {b : IR} {k : List It} {Q : Res → Slots → H → Prop} {s : Slots} {h : H} : Run P inr (.c b :: .lp b :: k) Q s h → Run P inr (.c (.loop b) :: k) Q s h
  | lp {b : IR} {k : List It} {Q : Res → Slots → H → Prop} {s : Slots} {h : H} : Run P inr (.c b :: .lp b :: k) Q s h → Run P inr (.lp b :: k) Q s h
  | exit {id : Nat} {k k' : List It} {Q : Res → Slots → H → Prop} {s : Slots} {h : H} : exitA id k = some k' → Run P inr k' Q s h → Run P inr (.c (.exit id) :: k) Q s h
  | exitOut {id : Nat} {k : List It} {Q : Res → Slots → H → Prop} {s : Slots} {h : H} : exitA id k = none → Q (.exit id) s h → Run P inr (.c (.exit id) :: k) Q s h
  | ret {k : List It} {Q : Res → Slots → H → Prop} {s : Slots} {h : H} : Q .ret s h → Run P inr (.c .ret :: k) Q s h
  | reg {is : List Ins} {k : List It} {Q : Res → Slots → H → Prop} {s : Slots} {h : H} (R : Slots → H → Prop) : RO P is s h R → (∀ s1 h1, R s1 h1 → Run P inr k Q s1 h1) → Run P inr (.c (.reg is) :: k) Q s h
  | dreg {is : List Ins} {aft : List (List Nat)} {k : List It} {Q : Res → Slots → H → Prop} {s : Slots} {h : H} (R : Slots → H → Prop) : (∀ t, Topo aft is.length t → ∀ xs, pick is t = some xs → ∃ s1 h1, OpsR P xs s h s1 h1 ∧ R s1 h1) → (∀ s1 h1, R s1 h1 → Run P inr k Q s1 h1) → Run P inr (.c (.dreg is aft) :: k) Q s h
  | dregQ {is : List Ins} {aft : List (List Nat)} {k : List It} {Q : Res → Slots → H → Prop} {s : Slots} {h : H} (R : Slots → H → Prop) : (∀ t, Topo aft is.length t → ∀ xs, pick is t = some xs → RO P xs s h R) → (∀ s1 h1, R s1 h1 → Run P inr k Q s1 h1) → Run P inr (.c (.dreg is aft) :: k) Q s h
  | beg {l : Nat} {q : LoopA} {k : List It} {Q : Res → Slots → H → Prop} {s : Slots} {h : H} : l < h.ln → h.lp l = some q → q.st = .ready → Run P inr k Q s (h.setLoop l (some { q with st := .busy })) → Run P inr (.beg l :: k) Q s h
  | rngf {f : Opd} {ps : List Nat} {x y : IR} {k : List It} {Q : Res → Slots → H → Prop} {s : Slots} {h : H} {F : FuncId} {first caps : List AV} (Z : AV → H → Prop) :
      inr = false → ev s f = .fn F first caps → CallP P F (first ++ [.yld h.ln] ++ caps) (h.newLoop ⟨s, ps, x, y, .ready, none⟩) Z → (∀ v h2, Z v h2 → h.ln < h2.ln ∧ ∃ q, h2.lp h.ln = some q ∧ q.st ≠ .busy) →
      (∀ v h2 q, Z v h2 → h2.lp h.ln = some q → Run P inr (pendK q.pend ++ k) Q s (h2.setLoop h.ln none)) → Run P inr (.c (.rngf f ps x y) :: k) Q s h


end
end Go.Am

/- A frame's run is sound; a round of a loop over a function. -/
namespace Go.Am
open Go Go.RowKit
section
variable {P : Program} {base : Nat} {W : Nat → Prop}

theorem setObj_at (w : World) (B : Nat) (o : Obj) {o' : Obj} (h : w.heap[B]? = some o') :
    ({ w with heap := w.heap.setIfInBounds B o } : World).heap[B]? = some o ∧ ({ w with heap := w.heap.setIfInBounds B o } : World).heap.size = w.heap.size ∧ ∀ B', B' ≠ B → ({ w with heap := w.heap.setIfInBounds B o } : World).heap[B']? = w.heap[B']? := by
  have hlt := heap_lt h
  refine ⟨?_, by simp, fun B' hB' => ?_⟩
  · simp [hlt]
  · simp only [Array.getElem?_setIfInBounds]
    rw [if_neg (fun h => hB' h.symm)]

theorem run_getLoop {w : World} {B : Nat} {L : Loop} (h : w.heap[B]? = some (.loop L)) : (Instr.getLoop B).run P w = .ok L w := by
  simp only [Instr.getLoop, getObj, Sem.run_bind, Sem.run, h, Result.andThen_ok]
  rfl

theorem run_setObjLoop {w : World} {B : Nat} {L L' : Loop} (h : w.heap[B]? = some (.loop L)) : (setObj B (.loop L')).run P w = .ok () { w with heap := w.heap.setIfInBounds B (.loop L') } := by
  simp only [setObj, Sem.run, h]

section steps
variable {b : Frame} {a : Act} {k : List Item} {cs : List Frame} {w : World}
theorem stepA_scope {c : Code} : step P (lone (b.atR a (.code (.scope c) :: k)) cs w) = .next (lone (b.atR a (.code c :: .inScope c :: k)) cs w) := step_lone_go (by simp [stepG, stepG.exec, Frame.atR])
theorem stepA_inScope {c : Code} : step P (lone (b.atR a (.inScope c :: k)) cs w) = .next (lone (b.atR a k) cs w) := step_lone_go (by simp [stepG, stepG.exec, Frame.atR])
end steps

/-- Where a run of a frame comes to, whatever it is. -/
def CameQ (P : Program) (base : Nat) (W : Nat → Prop) (N : Nat) (b : Frame) (cs : List Frame) (m : Machine) (a : Act) (w : World) (g : G) (Q : Res → Slots → H → Prop) : Prop := ∃ r s' h', Q r s' h' ∧ Came P base W N b cs m a w g r s' h'
theorem CameQ.of {N : Nat} {b : Frame} {cs : List Frame} {m m1 : Machine} {a a1 : Act} {w w1 : World} {g g1 : G} {Q : Res → Slots → H → Prop} (h : CameQ P base W N b cs m1 a1 w1 g1 Q) (hst : Steps P m m1) (hd : a1.defers = a.defers) (e : Ext base W w g w1 g1) :
    CameQ P base W N b cs m a w g Q := by
  obtain ⟨r, s', h', hq, hc⟩ := h
  exact ⟨r, s', h', hq, Came.of hst hd e hc⟩

theorem run_sound {inr : Bool} {N : Nat} {k : List It} {Q : Res → Slots → H → Prop} {s : Slots} {h : H} (hk : Run P inr k Q s h) :
    ∀ {b : Frame} {a : Act} {w : World} {g : G} {todo : List Item} {cs : List Frame}, (inr = false → b.roundOf = none) → KRel P N g b k todo → Sim P base W w g h → RepS w g s a.tmps → a.tmps.size = N →
      CameQ P base W N b cs (lone (b.atR a todo) cs w) a w g Q := by
  induction hk with
  | nil hq =>
    intro b a w g todo cs hb hrel hs hr hN
    cases todo with
    | nil => exact ⟨_, _, _, hq, a, w, g, [], [], .refl _ _, rfl, hr, hN, rfl, ⟨by simp, by simp⟩, fun _ => rfl, hs, Ext.refl base W w g⟩
    | cons x t => exact hrel.elim
  | skip _ ih =>
    intro b a w g todo cs hb hrel hs hr hN
    cases todo with
    | nil => exact hrel.elim
    | cons x t =>
      cases x with
      | code c =>
        obtain ⟨hc, hrel⟩ := hrel
        rcases cCode_inv hc with rfl | ⟨l, rfl⟩
        · exact (ih hb hrel hs hr hN).of (.one stepR_skip) rfl (Ext.refl base W w g)
        · exact (ih hb hrel hs hr hN).of (.one stepR_label) rfl (Ext.refl base W w g)
      | _ => exact hrel.elim
  | seq _ ih =>
    intro b a w g todo cs hb hrel hs hr hN
    cases todo with
    | nil => exact hrel.elim
    | cons x t =>
      cases x with
      | code c =>
        obtain ⟨hc, hrel⟩ := hrel
        obtain ⟨x, y, rfl, hx, hy⟩ := cCode_inv hc
        exact (ih (todo := .code x :: .code y :: t) hb ⟨hx, hy, hrel⟩ hs hr hN).of (.one stepR_seq) rfl (Ext.refl base W w g)
      | _ => exact hrel.elim
  | @cond c x y t k Q s h hev _ ih =>
    intro b a w g todo cs hb hrel hs hr hN
    cases todo with
    | nil => exact hrel.elim
    | cons z tl =>
      cases z with
      | code c0 =>
        obtain ⟨hc, hrel⟩ := hrel
        obtain ⟨q, x', y', rfl, hq, hx, hy⟩ := cCode_inv hc
        have hcv := ev_rep hr hq
        rw [hev] at hcv
        have hcv' := hcv.bool_inv
        refine (ih (todo := .code (if t then x' else y') :: tl) hb ⟨?_, hrel⟩ hs hr hN).of (.one (stepR_cond hcv')) rfl (Ext.refl base W w g)
        cases t
        · exact hy
        · exact hx
      | _ => exact hrel.elim
  | @condU c x y k Q s h hev _ _ ih1 ih2 =>
    intro b a w g todo cs hb hrel hs hr hN
    cases todo with
    | nil => exact hrel.elim
    | cons z tl =>
      cases z with
      | code c0 =>
        obtain ⟨hc, hrel⟩ := hrel
        obtain ⟨q, x', y', rfl, hq, hx, hy⟩ := cCode_inv hc
        have hcv := ev_rep hr hq
        rw [hev] at hcv
        obtain ⟨t, hcv'⟩ : ∃ t, a.eval q = .bool t := by
          generalize a.eval q = V at hcv
          cases hcv with
          | ubool t => exact ⟨t, rfl⟩
        cases t
        · exact (ih2 (todo := .code y' :: tl) hb ⟨hy, hrel⟩ hs hr hN).of (.one (stepR_cond hcv')) rfl (Ext.refl base W w g)
        · exact (ih1 (todo := .code x' :: tl) hb ⟨hx, hrel⟩ hs hr hN).of (.one (stepR_cond hcv')) rfl (Ext.refl base W w g)
      | _ => exact hrel.elim
  | scp _ ih =>
    intro b a w g todo cs hb hrel hs hr hN
    cases todo with
    | nil => exact hrel.elim
    | cons z tl =>
      cases z with
      | code c0 =>
        obtain ⟨hc, hrel⟩ := hrel
        obtain ⟨x, rfl, hx⟩ := cCode_inv hc
        exact (ih (todo := .code x :: .inScope x :: tl) hb ⟨hx, hrel⟩ hs hr hN).of (.one stepA_scope) rfl (Ext.refl base W w g)
      | _ => exact hrel.elim
  | scpEnd _ ih =>
    intro b a w g todo cs hb hrel hs hr hN
    cases todo with
    | nil => exact hrel.elim
    | cons z tl =>
      cases z with
      | inScope x => exact (ih hb hrel hs hr hN).of (.one stepA_inScope) rfl (Ext.refl base W w g)
      | _ => exact hrel.elim
  | blk _ ih =>
    intro b a w g todo cs hb hrel hs hr hN
    cases todo with
    | nil => exact hrel.elim
    | cons z tl =>
      cases z with
      | code c0 =>
        obtain ⟨hc, hrel⟩ := hrel
        obtain ⟨x, rfl, hx⟩ := cCode_inv hc
        exact (ih (todo := .code x :: .inBlock _ :: tl) hb ⟨hx, rfl, hrel⟩ hs hr hN).of (.one stepR_block) rfl (Ext.refl base W w g)
      | _ => exact hrel.elim
  | blkEnd _ ih =>
    intro b a w g todo cs hb hrel hs hr hN
    cases todo with
    | nil => exact hrel.elim
    | cons z tl =>
      cases z with
      | inBlock id' => exact (ih hb hrel.2 hs hr hN).of (.one stepR_inBlock) rfl (Ext.refl base W w g)
      | _ => exact hrel.elim
  | loop _ ih =>
    intro b a w g todo cs hb hrel hs hr hN
    cases todo with
    | nil => exact hrel.elim
    | cons z tl =>
      cases z with
      | code c0 =>
        obtain ⟨hc, hrel⟩ := hrel
        obtain ⟨x, rfl, hx⟩ := cCode_inv hc
        exact (ih (todo := .code x :: .inLoop x :: tl) hb ⟨hx, hx, hrel⟩ hs hr hN).of (.one stepR_loop) rfl (Ext.refl base W w g)
      | _ => exact hrel.elim
  | lp _ ih =>
    intro b a w g todo cs hb hrel hs hr hN
    cases todo with
    | nil => exact hrel.elim
    | cons z tl =>
      cases z with
      | inLoop x => exact (ih (todo := .code x :: .inLoop x :: tl) hb ⟨hrel.1, hrel.1, hrel.2⟩ hs hr hN).of (.one stepR_inLoop) rfl (Ext.refl base W w g)
      | _ => exact hrel.elim
  | exit hex _ ih =>
    intro b a w g todo cs hb hrel hs hr hN
    cases todo with
    | nil => exact hrel.elim
    | cons z tl =>
      cases z with
      | code c0 =>
        obtain ⟨hc, hrel⟩ := hrel
        have hh := cCode_inv hc
        simp only at hh
        subst hh
        obtain ⟨t', ht', hrel'⟩ := (KRel.exit hrel).1 _ hex
        exact (ih hb hrel' hs hr hN).of (.one (stepR_exit ht')) rfl (Ext.refl base W w g)
      | _ => exact hrel.elim
  | exitOut hex hq =>
    intro b a w g todo cs hb hrel hs hr hN
    cases todo with
    | nil => exact hrel.elim
    | cons z tl =>
      cases z with
      | code c0 =>
        obtain ⟨hc, hrel⟩ := hrel
        have hh := cCode_inv hc
        simp only at hh
        subst hh
        exact ⟨_, _, _, hq, a, w, g, _, [], .refl _ _, ⟨tl, rfl, (KRel.exit hrel).2 hex⟩, hr, hN, rfl, ⟨by simp, by simp⟩, fun _ => rfl, hs, Ext.refl base W w g⟩
      | _ => exact hrel.elim
  | ret hq =>
    intro b a w g todo cs hb hrel hs hr hN
    cases todo with
    | nil => exact hrel.elim
    | cons z tl =>
      cases z with
      | code c0 =>
        obtain ⟨hc, hrel⟩ := hrel
        have hh := cCode_inv hc
        simp only at hh
        subst hh
        exact ⟨_, _, _, hq, a, w, g, _, [], .refl _ _, ⟨tl, rfl⟩, hr, hN, rfl, ⟨by simp, by simp⟩, fun _ => rfl, hs, Ext.refl base W w g⟩
      | _ => exact hrel.elim
  | reg R hops _ ih =>
    intro b a w g todo cs hb hrel hs hr hN
    cases todo with
    | nil => exact hrel.elim
    | cons z tl =>
      cases z with
      | code c0 =>
        obtain ⟨hc, hrel⟩ := hrel
        obtain ⟨id, ops, rfl, hins⟩ := cCode_inv hc
        have hat := InsAt_range (P := P) (N := N) (ops := ops) ops.toList _ 0 hins (fun i o ho => by simpa using ho)
        rw [Array.length_toList, ← List.range_eq_range'] at hat
        obtain ⟨a1, w1, g1, s1, h1, q0, q1, q2, q3, q4, q5, q6⟩ := ops_soundQ (b := b) (k := tl) (cs := cs) hat hops hs hr hN
        exact (ih s1 h1 q0 hb (KRel.mono q6.toGExt hrel) q5 q2 q3).of (.head stepR_region q1) q4 q6
      | _ => exact hrel.elim
  | dreg R hops _ ih =>
    intro b a w g todo cs hb hrel hs hr hN
    cases todo with
    | nil => exact hrel.elim
    | cons z tl =>
      cases z with
      | code c0 =>
        obtain ⟨hc, hrel⟩ := hrel
        obtain ⟨id, ops, rfl, hins, rfl, hok⟩ := cCode_inv hc
        have htopo := schedule_topo ops hok (P.follows .mixedOrders) (w.tape w.drawn (.order b.fn id))
        have hlen := cInsL_len _ _ hins
        have hsz : ops.toList.length = ops.size := by simp
        rw [hsz] at hlen
        obtain ⟨xs, hxs, hat⟩ := pick_at hins _ htopo.lt
        obtain ⟨s1, h1, hopsx, hR⟩ := hops _ (by rw [hlen]; exact htopo) xs hxs
        obtain ⟨hsD, heD⟩ := hs.drew
        obtain ⟨a1, w1, g1, q1, q2, q3, q4, q5, q6⟩ := ops_sound (b := b) (k := tl) (cs := cs) hat hopsx hsD (hr.mono heD.toGExt) hN
        exact (ih s1 h1 hR hb (KRel.mono (heD.trans q6).toGExt hrel) q5 q2 q3).of (.head stepR_region_draw q1) q4 (heD.trans q6)
      | _ => exact hrel.elim
  | dregQ R hops _ ih =>
    intro b a w g todo cs hb hrel hs hr hN
    cases todo with
    | nil => exact hrel.elim
    | cons z tl =>
      cases z with
      | code c0 =>
        obtain ⟨hc, hrel⟩ := hrel
        obtain ⟨id, ops, rfl, hins, rfl, hok⟩ := cCode_inv hc
        have htopo := schedule_topo ops hok (P.follows .mixedOrders) (w.tape w.drawn (.order b.fn id))
        have hlen := cInsL_len _ _ hins
        have hsz : ops.toList.length = ops.size := by simp
        rw [hsz] at hlen
        obtain ⟨xs, hxs, hat⟩ := pick_at hins _ htopo.lt
        have hopsx := hops _ (by rw [hlen]; exact htopo) xs hxs
        obtain ⟨hsD, heD⟩ := hs.drew
        obtain ⟨a1, w1, g1, s1, h1, hR, q1, q2, q3, q4, q5, q6⟩ := ops_soundQ (b := b) (k := tl) (cs := cs) hat hopsx hsD (hr.mono heD.toGExt) hN
        exact (ih s1 h1 hR hb (KRel.mono (heD.trans q6).toGExt hrel) q5 q2 q3).of (.head stepR_region_draw q1) q4 (heD.trans q6)
      | _ => exact hrel.elim
  | @beg l q k Q s h hl hq hst _ ih =>
    intro b a w g todo cs hb hrel hs hr hN
    cases todo with
    | nil => exact hrel.elim
    | cons z tl =>
      cases z with
      | beginRound =>
        obtain ⟨hl', hro, hrel⟩ := hrel
        obtain ⟨_, L, hL, hLok⟩ := hs.loop l q hl hq
        have hLst : L.state = .ready := hLok.st.trans hst
        obtain ⟨p1, p2, p3⟩ := setObj_at w (g.lp l) (.loop { L with state := .busy }) hL
        obtain ⟨hS, hE⟩ := hs.setLoop hl hq (L' := { L with state := .busy }) (r' := some { q with st := .busy }) (fun q' hq' => by
          cases hq'
          exact ⟨hLok.asg, hLok.body, hLok.tmps, hLok.params, hLok.plt, rfl, hLok.pend⟩) p1 p2 p3 rfl rfl rfl
        have hrun : (Instr.beginRound (g.lp l)).run P w = .ok () { w with heap := w.heap.setIfInBounds (g.lp l) (.loop { L with state := .busy }) } := by
          simp only [Instr.beginRound, Sem.run_bind, run_getLoop hL, Result.andThen_ok, run_setObjLoop hL, hLst, Sem.run_pure]
        exact (ih hb (KRel.mono hE.toGExt hrel) hS (hr.mono hE.toGExt) hN).of (.one (stepR_beginRound hro hrun)) rfl hE
      | _ => exact hrel.elim
  | @rngf f ps x y k Q s h F first caps Z hin hev hcall hZ _ ih =>
    intro b a w g todo cs hb hrel hs hr hN
    cases todo with
    | nil => exact hrel.elim
    | cons z tl =>
      cases z with
      | code c0 =>
        obtain ⟨hc, hrel⟩ := hrel
        obtain ⟨fo, qs, xc, yc, rfl, hfo, rfl, hps, hx, hy⟩ := cCode_inv hc
        have hro := hb hin
        -- the iterator's value
        have hF := ev_rep hr hfo
        rw [hev] at hF
        obtain ⟨Fi, Ca, hX, hFi, hCa⟩ : ∃ Fi Ca, a.eval fo = .func (.func F) Fi Ca ∧ RepA w g first Fi ∧ RepA w g caps Ca := by
          generalize a.eval fo = X at hF
          cases hF with
          | fn f first caps Fi Ca h1 h2 h3 h4 => exact ⟨Fi, Ca, rfl, ⟨h1, h3⟩, ⟨h2, h4⟩⟩
        -- the record is laid
        obtain ⟨hs1, he1⟩ := hs.allocObj (.deferred (some []))
        have hr1 := hr.mono he1.toGExt
        let L : Loop := { state := .ready, pending := none, fn := b.fn, tmps := a.tmps, params := qs, assign := xc, body := yc, defers := w.heap.size }
        obtain ⟨hs2, he2⟩ := hs1.allocLoop L ⟨s, qs.toList, x, y, .ready, none⟩ ⟨by show cCode P a.tmps.size xc = _; rw [hN]; exact hx, by show cCode P a.tmps.size yc = _; rw [hN]; exact hy, hr1, rfl, fun p hp => by show p < a.tmps.size; rw [hN]; exact hps p hp, rfl, trivial⟩
        have he12 := he1.trans he2
        have hsz1 : (w.alloc (.deferred (some []))).heap.size = w.heap.size + 1 := by simp
        have henter : (Instr.enterLoop b.fn a.tmps qs xc yc b.roundOf).run P w = .ok (w.heap.size + 1, [markOf w.heap.size]) ((w.alloc (.deferred (some []))).alloc (.loop L)) := by
          rw [hro]
          simp only [Instr.enterLoop, Sem.run_bind, run_newObj, Result.andThen_ok, Sem.run_pure]
          simp only [Array.size_push]
          rfl
        have hyl : (g.newLoop (w.heap.size + 1)).lp h.ln = w.heap.size + 1 := by
          show (if h.ln = g.ln then _ else _) = _
          rw [if_pos hs.ln]
        rw [hsz1] at hs2 he2 he12
        have hA : RepA ((w.alloc (.deferred (some []))).alloc (.loop L)) (g.newLoop (w.heap.size + 1)) (first ++ [.yld h.ln] ++ caps) (Fi ++ #[.func (.yield (w.heap.size + 1)) #[] #[]] ++ Ca) := by
          refine RepA.app (RepA.app (hFi.mono he12.toGExt) ⟨rfl, fun k hk => ?_⟩) (hCa.mono he12.toGExt)
          have hk0 : k = 0 := by simp at hk; omega
          subst hk0
          have := Rep.yld (w := (w.alloc (.deferred (some []))).alloc (.loop L)) (g := g.newLoop (w.heap.size + 1)) h.ln (by show h.ln < g.ln + 1; rw [hs.ln]; omega)
          rw [hyl] at this
          exact this
        obtain ⟨⟨fn, hfn, hbody⟩, hcalls⟩ := hcall
        have hcalls := hcalls base W _ _ _ hs2 hA
        have hres : (resolve a.eval (rangeCall fo (w.heap.size + 1)) 0).run P ((w.alloc (.deferred (some []))).alloc (.loop L)) = .ok { target := .fn (.func F) Ca, args := Fi ++ #[.func (.yield (w.heap.size + 1)) #[] #[]] } ((w.alloc (.deferred (some []))).alloc (.loop L)) := by
          have hev1 : a.eval (.const (.func (.yield (w.heap.size + 1)) #[] #[])) = .func (.yield (w.heap.size + 1)) #[] #[] := rfl
          simp only [resolve, hX, Deferred.ofValue, Sem.run_pure]
          simp [hev1]
        have hinv : (invoke (.fn (.func F) Ca) (Fi ++ #[.func (.yield (w.heap.size + 1)) #[] #[]])).run P ((w.alloc (.deferred (some []))).alloc (.loop L)) = .ok (.enter F (Fi ++ #[.func (.yield (w.heap.size + 1)) #[] #[]] ++ Ca)) ((w.alloc (.deferred (some []))).alloc (.loop L)) := by
          simp only [invoke, callFunc, Sem.run_bind, run_program, Result.andThen_ok, hfn, hbody.1, hbody.2, Bool.false_eq_true, if_false]
          rfl
        have hst := stepR_rangeFunc (P := P) (b := b) (a := a) (k := tl) (cs := cs) (w := w) henter hres hinv
        obtain ⟨e, w3, fr, ⟨R, g3, v, h2, rfl, s2, s3, s4, hz⟩, hcomes, _, hleave⟩ := hcalls (b.atR { a with defers := [markOf w.heap.size] ++ a.defers } (.inRangeFunc (w.heap.size + 1) :: tl) :: cs)
        have hback := step_leave_returned (c := b.atR { a with defers := [markOf w.heap.size] ++ a.defers } (.inRangeFunc (w.heap.size + 1) :: tl)) (cs := cs) hleave
        rw [finish_atR_inRangeFunc] at hback
        -- the loop ends
        obtain ⟨hlt, q, hq, hnb⟩ := hZ v h2 hz
        obtain ⟨_, L3, hL3, hLok⟩ := s3.loop h.ln q hlt hq
        have hlp3 : g3.lp h.ln = w.heap.size + 1 := by
          rw [s4.lp h.ln (by show h.ln < g.ln + 1; rw [hs.ln]; omega)]; exact hyl
        rw [hlp3] at hL3
        obtain ⟨p1, p2, p3⟩ := setObj_at w3 (w.heap.size + 1) (.loop { L3 with state := .exhausted }) hL3
        obtain ⟨hS4, hE4⟩ := s3.setLoop hlt hq (L' := { L3 with state := .exhausted }) (r' := none) (fun q' hq' => by cases hq') (by rw [hlp3]; exact p1) p2 (by rw [hlp3]; exact p3) rfl rfl rfl
        have hnb' : (L3.state == .busy) = false := by
          rw [hLok.st]
          cases hqs : q.st with
          | busy => exact absurd hqs hnb
          | _ => rfl
        have hend : (Instr.endLoop (w.heap.size + 1)).run P w3 = .ok L3.pending { w3 with heap := w3.heap.setIfInBounds (w.heap.size + 1) (.loop { L3 with state := .exhausted }) } := by
          simp only [Instr.endLoop, Sem.run_bind, run_getLoop hL3, Result.andThen_ok, hnb', Bool.false_eq_true, if_false, run_setObjLoop hL3, Sem.run_pure]
        have hst2 := stepR_endRangeFunc (P := P) (b := b) (a := { a with defers := [markOf w.heap.size] ++ a.defers }) (k := tl) (cs := cs) hend
        have heAll := (he12.trans s4).trans hE4
        have hrelJ : KRel P N g3 b (pendK q.pend ++ k) ((L3.pending.map Item.code).toList ++ tl) := by
          have hrel' := KRel.mono heAll.toGExt hrel
          have hp := hLok.pend
          cases hqp : q.pend with
          | none =>
            rw [hqp] at hp
            cases hLp : L3.pending with
            | none => simpa [pendK] using hrel'
            | some c => rw [hLp] at hp; exact hp.elim
          | some i =>
            rw [hqp] at hp
            cases hLp : L3.pending with
            | none => rw [hLp] at hp; cases i <;> exact hp.elim
            | some c =>
              rw [hLp] at hp
              cases i with
              | ret => cases c <;> first | exact hp.elim | exact ⟨rfl, hrel'⟩
              | exit id =>
                cases c with
                | exit id' =>
                  have : id = id' := hp
                  subst this
                  exact ⟨rfl, hrel'⟩
                | _ => exact hp.elim
              | _ => cases c <;> exact hp.elim
        obtain ⟨r, s', h', hQ, a', w', g', todo', rs, q1, q2, q3, q4, q5, q6, q7, q8, q9⟩ := ih v h2 q hz hq (a := { a with defers := [markOf w.heap.size] ++ a.defers }) (cs := cs) hb hrelJ hS4 (hr.mono heAll.toGExt) hN
        have hsz3 : w.heap.size + 1 < w3.heap.size := heap_lt hL3
        refine ⟨r, s', h', hQ, a', w', g', todo', rs ++ [w.heap.size], .head hst (Steps.trans hcomes (.head hback (.head hst2 q1))), q2, q3, q4, by rw [q5]; simp, ⟨?_, ?_⟩, fun hne => absurd hro hne, q8, heAll.trans q9⟩
        · rw [List.nodup_append]
          refine ⟨q6.1, by simp, fun r1 hr1 r2 hr2 heq => ?_⟩
          have h1 := (q6.2 r1 hr1).1
          rw [List.mem_singleton] at hr2
          have hsz4 : w3.heap.size ≤ ({ w3 with heap := w3.heap.setIfInBounds (w.heap.size + 1) (.loop { L3 with state := .exhausted }) } : World).heap.size := by rw [p2]; exact Nat.le_refl _
          omega
        · intro r1 hr1
          rcases List.mem_append.1 hr1 with h1 | h1
          · have := q6.2 r1 h1
            have hsz4 : w3.heap.size ≤ ({ w3 with heap := w3.heap.setIfInBounds (w.heap.size + 1) (.loop { L3 with state := .exhausted }) } : World).heap.size := by rw [p2]; exact Nat.le_refl _
            exact ⟨by omega, this.2⟩
          · rw [List.mem_singleton] at h1
            subst h1
            refine ⟨Nat.le_refl _, ?_⟩
            exact ((he2.trans s4).trans hE4 |>.trans q9).obj _ _ alloc_new
      | _ => exact hrel.elim

/-! ### A round of a loop over a function -/
def slotsP (s : Slots) : List Nat → List AV → Slots
  | p :: ps, v :: vs => slotsP (su s p v) ps vs
  | _, _ => s

/-- What is asked where a round ends. -/
def roundQ (l : Nat) (K : AV → H → Prop) : Res → Slots → H → Prop
  | .norm, _, h => l < h.ln ∧ ob (h.lp l) fun q => K (.bool true) (h.setLoop l (some { q with st := .ready, pend := none }))
  | .ret, _, h => l < h.ln ∧ ob (h.lp l) fun q => K (.bool false) (h.setLoop l (some { q with st := .done, pend := some .ret }))
  | .exit id, _, h => l < h.ln ∧ ob (h.lp l) fun q => K (.bool false) (h.setLoop l (some { q with st := .done, pend := some (.exit id) }))

theorem RepS.slotsP {w : World} {g : G} {N : Nat} : ∀ {ps : List Nat} {vs : List AV} {Vs : List Value} {s : Slots} {tm : Array Value}, RepS w g s tm → tm.size = N → (∀ p ∈ ps, p < N) → (hl : vs.length = Vs.length) → (∀ k (hk : k < vs.length), Rep w g vs[k] Vs[k]) →
    RepS w g (Am.slotsP s ps vs) ((ps.zip Vs).foldl (fun tm p => tm.setIfInBounds p.1 p.2) tm) ∧ ((ps.zip Vs).foldl (fun tm p => tm.setIfInBounds p.1 p.2) tm).size = N
  | [], vs, Vs, s, tm, hr, hN, _, _, _ => by cases vs <;> exact ⟨hr, hN⟩
  | p :: ps, [], [], s, tm, hr, hN, _, _, _ => ⟨hr, hN⟩
  | p :: ps, [], _ :: _, _, _, _, _, _, hl, _ => by simp at hl
  | p :: ps, _ :: _, [], _, _, _, _, _, hl, _ => by simp at hl
  | p :: ps, v :: vs, V :: Vs, s, tm, hr, hN, hps, hl, hv => by
    have h0 := hv 0 (by simp)
    obtain ⟨q1, q2, _⟩ := RepS.put (a := { tmps := tm, defers := [] }) (N := N) hr hN (d := some p) (fun t ht => by cases ht; exact hps p (List.mem_cons_self ..)) h0
    exact RepS.slotsP (ps := ps) (vs := vs) (Vs := Vs) q1 q2 (fun p hp => hps p (List.mem_cons_of_mem _ hp)) (by simpa using hl) (fun k hk => hv (k + 1) (by simpa using hk))

theorem YldP.of {l : Nat} {args : List AV} {h : H} {K : AV → H → Prop} {q : LoopA} (hl : l < h.ln) (hq : h.lp l = some q) (hn : args.length = q.ps.length)
    (hr : Run P true [.c q.assign, .beg l, .c q.body] (roundQ l K) (slotsP q.s q.ps args) h) : YldP P l args h K := fun base W w g Args hs hA => by
  obtain ⟨_, L, hL, hok⟩ := hs.loop l q hl hq
  have hsz : L.params.size = q.ps.length := by rw [← hok.params]; simp
  have hAs : args.length = Args.size := hA.1
  let tm : Array Value := (L.params.zip Args).foldl (fun tmps (t, a) => tmps.setIfInBounds t a) L.tmps
  refine ⟨L.fn, tm, L.assign, L.body, ?_, fun c cs => ?_⟩
  · have : ¬ Args.size ≠ L.params.size := by omega
    simp only [Instr.yield, Sem.run_bind, run_getLoop hL, Result.andThen_ok, if_neg this, Sem.run_pure]
    rfl
  · have htm : tm = (q.ps.zip Args.toList).foldl (fun tm p => tm.setIfInBounds p.1 p.2) L.tmps := by
      show (L.params.zip Args).foldl (fun tmps (x : Nat × Value) => tmps.setIfInBounds x.1 x.2) L.tmps = _
      rw [← Array.foldl_toList, Array.toList_zip, hok.params]
    obtain ⟨p1, p2⟩ := RepS.slotsP (N := L.tmps.size) (vs := args) (Vs := Args.toList) hok.tmps rfl (by intro p hp; exact hok.plt p hp) (by simpa using hAs) (fun k hk => by simpa using hA.2 k hk)
    rw [← htm] at p1 p2
    let b : Frame := { (default : Frame) with fn := L.fn, kind := .normal, roundOf := some (g.lp l) }
    have hb0 : Frame.round (g.lp l) L.fn tm L.assign L.body .normal = b.atR { tmps := tm, defers := [] } [.code L.assign, .beginRound, .code L.body] := by
      simp [Frame.round, Frame.atR, b]
    have hrel : KRel P L.tmps.size g b [.c q.assign, .beg l, .c q.body] [.code L.assign, .beginRound, .code L.body] := ⟨hok.asg, by rw [← hs.ln]; exact hl, rfl, hok.body, trivial⟩
    obtain ⟨r, s', h', hQ, a', w', g', todo', rs, q1, q2, q3, q4, q5, q6, q7, q8, q9⟩ := run_sound hr (b := b) (a := { tmps := tm, defers := [] }) (cs := c :: cs) (fun h => by cases h) hrel hs p1 p2
    rw [hb0]
    have hlp : g'.lp l = g.lp l := q9.lp l (by rw [← hs.ln]; exact hl)
    have fin : ∀ {jump : Option Code} {pj : Option IR} {st : LoopState}, PendOK pj jump → (st = if jump.isNone then .ready else .done) → (∀ {q' : LoopA}, l < h'.ln → h'.lp l = some q' → K (.bool jump.isNone) (h'.setLoop l (some { q' with st := st, pend := pj })) →
        ∃ v w2, (Instr.endRound (g.lp l) jump).run P w' = .ok v w2 ∧ ∃ g2 r h2, Rep w2 g2 r v ∧ Sim P base W w2 g2 h2 ∧ Ext base W w g w2 g2 ∧ K r h2) := fun {jump pj st} hpj hst {q'} hl' hq' hk => by
      obtain ⟨_, L', hL', hok'⟩ := q8.loop l q' hl' hq'
      rw [hlp] at hL'
      obtain ⟨s1, s2, s3⟩ := setObj_at w' (g.lp l) (.loop { L' with state := st, pending := jump }) hL'
      obtain ⟨hS, hE⟩ := q8.setLoop hl' hq' (L' := { L' with state := st, pending := jump }) (r' := some { q' with st := st, pend := pj }) (fun q2 hq2 => by
        cases hq2
        exact ⟨hok'.asg, hok'.body, hok'.tmps, hok'.params, hok'.plt, rfl, hpj⟩) (by rw [hlp]; exact s1) s2 (by rw [hlp]; exact s3) rfl rfl rfl
      refine ⟨.bool jump.isNone, _, ?_, g', _, _, .bool _, hS, q9.trans hE, hk⟩
      simp only [Instr.endRound, Sem.run_bind, run_getLoop hL', Result.andThen_ok, run_setObjLoop hL', Sem.run_pure, ← hst]
    cases r with
    | norm =>
      have : todo' = [] := q2
      subst this
      obtain ⟨hl', hQ⟩ := hQ
      cases hq' : h'.lp l with
      | none => rw [hq'] at hQ; exact hQ.elim
      | some q' =>
        rw [hq'] at hQ
        obtain ⟨v, w2, e1, g2, r, h2, e2, e3, e4, e5⟩ := fin (jump := none) (pj := none) trivial rfl hl' hq' hQ
        exact ⟨v, w2, g2, r, h2, q1.trans (.one (stepR_round_end rfl rfl e1)), e2, e3, e4, e5⟩
    | ret =>
      obtain ⟨k1, rfl⟩ := q2
      obtain ⟨hl', hQ⟩ := hQ
      cases hq' : h'.lp l with
      | none => rw [hq'] at hQ; exact hQ.elim
      | some q' =>
        rw [hq'] at hQ
        obtain ⟨v, w2, e1, g2, r, h2, e2, e3, e4, e5⟩ := fin (jump := some .ret) (pj := some .ret) trivial rfl hl' hq' hQ
        exact ⟨v, w2, g2, r, h2, q1.trans (.one (stepR_round_ret rfl rfl e1)), e2, e3, e4, e5⟩
    | exit id =>
      obtain ⟨k1, rfl, hx⟩ := q2
      obtain ⟨hl', hQ⟩ := hQ
      cases hq' : h'.lp l with
      | none => rw [hq'] at hQ; exact hQ.elim
      | some q' =>
        rw [hq'] at hQ
        obtain ⟨v, w2, e1, g2, r, h2, e2, e3, e4, e5⟩ := fin (jump := some (.exit id)) (pj := some (.exit id)) rfl rfl hl' hq' hQ
        exact ⟨v, w2, g2, r, h2, q1.trans (.one (stepR_round_exit rfl rfl hx e1)), e2, e3, e4, e5⟩

end
end Go.Am

/- Functions: a contract out of a run; how a contract proved in a small state serves in a greater one; what a function leaves behind is let go. -/
namespace Go.Am
open Go Go.RowKit

def slots0 (args : List AV) : Slots := fun i => args.getD i .undef

def resA (s : Slots) (h : H) : List ResA → Option (List AV)
  | [] => some []
  | .t i :: rs => (resA s h rs).map fun vs => s i :: vs
  | .cell a n ag :: rs => (pv (.load n ag (.t a)) (ev s) h).bind fun v => (resA s h rs).map fun vs => v :: vs

def tupA : List AV → AV
  | [v] => v
  | vs => .tup vs

/-- What the ghost may do where a function ends: a value says less; a box that it leads to is let go. -/
inductive Gh : H → AV → H → AV → Prop where
  | refl (h : H) (r : AV) : Gh h r h r
  | weak {h : H} {r r1 : AV} {h' : H} {r' : AV} : (∀ w g V, Rep w g r V → Rep w g r1 V) → Gh h r1 h' r' → Gh h r h' r'
  | frz {h : H} {r r1 : AV} {h' : H} {r' : AV} (b : Nat) (cs : List AV) : b < h.bn → h.bx b = some cs →
      (∀ w g V, (∀ k v, cs[k]? = some v → ∃ U, k < g.ro (g.bx b) ∧ w.cell? ⟨g.bx b, k, none⟩ = some U ∧ Rep w g v U ∧ ok1 v = true) → Rep w g r V → Rep w g r1 V) → Gh (h.kill b) r1 h' r' → Gh h r h' r'

def resOne (tmps : Array Value) : ResultVar → Sem Value
  | .tmp t => pure (tmps.getD t undef)
  | .cell a t => do loadVar t (← asAddr (tmps.getD a undef))

section
variable {P : Program} {base : Nat} {W : Nat → Prop} {w : World} {g : G} {h : H}

theorem run_resA {N : Nat} {s : Slots} {tmps : Array Value} (hs : Sim P base W w g h) (hr : RepS w g s tmps) : ∀ {rvs : List ResultVar} {ras : List ResA} {vs : List AV}, cRes P N rvs = some ras → resA s h ras = some vs →
    ∃ Vs : List Value, (rvs.mapM (resOne tmps) : Sem (List Value)).run P w = .ok Vs w ∧ ∃ hl : vs.length = Vs.length, ∀ k (hk : k < vs.length), Rep w g vs[k] Vs[k]
  | [], ras, vs, hc, hv => by
    simp only [cRes, Option.some.injEq] at hc
    subst hc
    simp only [resA, Option.some.injEq] at hv
    subst hv
    exact ⟨[], by simp, rfl, fun k hk => by simp at hk⟩
  | .tmp t :: rvs, ras, vs, hc, hv => by
    simp only [cRes] at hc
    split at hc
    · simp only [Option.map_eq_some_iff] at hc
      obtain ⟨r, hr', rfl⟩ := hc
      simp only [resA, Option.map_eq_some_iff] at hv
      obtain ⟨us, hus, rfl⟩ := hv
      obtain ⟨Vs, h1, hl, h2⟩ := run_resA hs hr hr' hus
      refine ⟨tmps.getD t undef :: Vs, ?_, by simp [hl], fun k hk => ?_⟩
      · simp only [List.mapM_cons, Sem.run_bind, resOne, Sem.run_pure, Result.andThen_ok, h1]
      · cases k with
        | zero => exact hr t
        | succ k => exact h2 k (by simpa using hk)
    · cases hc
  | .cell a t :: rvs, ras, vs, hc, hv => by
    simp only [cRes] at hc
    split at hc
    · simp only [Option.bind_eq_some_iff] at hc
      obtain ⟨n, hn, ag, hag, hc⟩ := hc
      split at hc
      · rename_i hor
        simp only [Option.map_eq_some_iff] at hc
        obtain ⟨r, hr', rfl⟩ := hc
        simp only [resA, Option.bind_eq_some_iff, Option.map_eq_some_iff] at hv
        obtain ⟨v, hv1, us, hus, rfl⟩ := hv
        obtain ⟨Vs, h1, hl, h2⟩ := run_resA hs hr hr' hus
        obtain ⟨V, q1, q2⟩ := run_loadAtA hn hag hor hs (hr a) (e := ev s) (o := .t a) rfl hv1
        have hp : ∃ ad, tmps.getD a undef = .pointer (some ad) := by
          generalize hX : tmps.getD a undef = X at q1
          cases X with
          | pointer p =>
            cases p with
            | some ad => exact ⟨ad, rfl⟩
            | none => simp [Instr.loadAt, Instr.sureAddr] at q1
          | _ => simp [Instr.loadAt, Instr.sureAddr] at q1
        obtain ⟨ad, hX⟩ := hp
        rw [hX] at q1
        have q1' : (loadVar t ad).run P w = .ok V w := by simpa [Instr.loadAt, Instr.sureAddr] using q1
        refine ⟨V :: Vs, ?_, by simp [hl], fun k hk => ?_⟩
        · have hone : (resOne tmps (.cell a t)).run P w = .ok V w := by
            simp only [resOne, hX, asAddr, Sem.run_bind, Sem.run_pure, Result.andThen_ok, q1']
          simp only [List.mapM_cons, Sem.run_bind, hone, Sem.run_pure, Result.andThen_ok, h1]
        · cases k with
          | zero => exact q2
          | succ k => exact h2 k (by simpa using hk)
      · cases hc
    · cases hc

theorem Gh.sound {h h' : H} {r r' : AV} (hg : Gh h r h' r') : ∀ {g : G} {V : Value}, Sim P base W w g h → Rep w g r V → ∃ g', Rep w g' r' V ∧ Sim P base W w g' h' ∧ Ext base W w g w g' := by
  induction hg with
  | refl h r => intro g V hs hr; exact ⟨g, hr, hs, Ext.refl base W w g⟩
  | weak hw _ ih => intro g V hs hr; exact ih hs (hw w g V hr)
  | frz b cs hb hc hf _ ih =>
    intro g V hs hr
    obtain ⟨hS, hE, hcells⟩ := hs.kill hb hc
    obtain ⟨g', q1, q2, q3⟩ := ih hS (hf w _ V hcells (hr.mono hE.toGExt))
    exact ⟨g', q1, q2, hE.trans q3⟩

/-- A mark's block is emptied. -/
theorem Sim.emptied (hs : Sim P base W w g h) {r : Nat} (hr : w.heap[r]? = some (.deferred (some []))) {n : Nat} (hn : n ≤ r) (hbn : base ≤ n) {w0 : World} {g0 : G} (hE : Ext base W w0 g0 w g) (hw0 : w0.heap.size ≤ n) :
    let w' : World := { w with heap := w.heap.setIfInBounds r (.deferred none) }
    Sim P base W w' g h ∧ GExt w g w' g ∧ Ext base W w0 g0 w' g ∧ ∀ r', r' ≠ r → w'.heap[r']? = w.heap[r']? := by
  intro w'
  obtain ⟨p1, p2, p3⟩ := setObj_at w r (.deferred none) hr
  have hcell : ∀ B k, w'.cell? ⟨B, k, none⟩ = w.cell? ⟨B, k, none⟩ := fun B k => by
    by_cases hB : B = r
    · subst hB
      simp only [World.cell?, w', p1, hr]
    · exact cell_of_heap (p3 B hB)
  have e : GExt w g w' g := ⟨by show _ ≤ w'.heap.size; rw [show w'.heap.size = w.heap.size from p2]; exact Nat.le_refl _, fun B k hk => ⟨hk, hcell B k⟩, Nat.le_refl _, fun _ _ => ⟨rfl, rfl⟩, Nat.le_refl _, fun _ _ => ⟨Nat.le_refl _, fun _ => rfl⟩, Nat.le_refl _, fun _ _ => rfl, Nat.le_refl _, fun _ _ => rfl⟩
  have hsz : w'.heap.size = w.heap.size := p2
  refine ⟨⟨by rw [hsz]; exact hs.base_le, hs.bn, hs.tn, hs.ln, hs.mn, ?_, hs.boxinj, ?_, hs.tokinj, by rw [hsz]; exact hs.roB, ?_, hs.loopinj, ?_, hs.mapinj⟩, e, ⟨hE.toGExt.trans e, hE.os, hE.tape, hE.output, fun B hB hW => ?_, hE.roO, fun B ds hd => ?_⟩, p3⟩
  · intro b cs hb hc
    obtain ⟨h1, h2, C, T, h3, h4, h5⟩ := hs.box b cs hb hc
    have hne : g.bx b ≠ r := fun heq => by rw [heq, hr] at h3; cases h3
    exact ⟨h1, h2, C, T, (p3 _ hne).trans h3, h4.mono e, h5⟩
  · intro i hi
    obtain ⟨h1, h2, h3, h4, h5, C, T, h6, h7⟩ := hs.tok i hi
    have hne : (g.tk i).B ≠ r := fun heq => by rw [heq, hr] at h6; cases h6
    exact ⟨h1, h2, h3, h4, h5, C, T, (p3 _ hne).trans h6, h7⟩
  · intro l q hl hq
    obtain ⟨h1, L, h3, h4⟩ := hs.loop l q hl hq
    have hne : g.lp l ≠ r := fun heq => by rw [heq, hr] at h3; cases h3
    exact ⟨h1, L, (p3 _ hne).trans h3, h4.mono e⟩
  · intro m es hm hes
    obtain ⟨h1, E, c, h3, h4⟩ := hs.map m es hm hes
    have hne : g.mp m ≠ r := fun heq => by rw [heq, hr] at h3; cases h3
    exact ⟨h1, E, c, (p3 _ hne).trans h3, h4.mono e⟩
  · have hne : B ≠ r := by omega
    rw [p3 B hne]
    exact hE.blk B hB hW
  · have hB := heap_lt hd
    have hne : B ≠ r := by omega
    rw [p3 B hne]
    exact hE.obj B ds hd

/-- The frame gives up its marks. -/
theorem unwind_marks {b : Frame} {cs : List Frame} {todo : List Item} {tm : Array Value} (hb : b.kind = .normal) : ∀ (rs : List Nat) {w : World} {g : G} {w0 : World} {g0 : G}, MarksOK w0.heap.size w rs → base ≤ w0.heap.size → Sim P base W w g h → Ext base W w0 g0 w g →
    ∃ w', Steps P (lone { b.atR { tmps := tm, defers := rs.map markOf } todo with mode := .returning } cs w) (lone { b.atR { tmps := tm, defers := [] } todo with mode := .returning } cs w') ∧ Sim P base W w' g h ∧ GExt w g w' g ∧ Ext base W w0 g0 w' g
  | [], w, g, w0, g0, _, _, hs, hE => ⟨w, .refl _ _, hs, GExt.refl w g, hE⟩
  | r :: rs, w, g, w0, g0, hm, hbase, hs, hE => by
    obtain ⟨hnd, hall⟩ := hm
    obtain ⟨hr1, hr2⟩ := hall r (List.mem_cons_self ..)
    obtain ⟨q1, q2, q3, q4⟩ := hs.emptied hr2 hr1 hbase hE (Nat.le_refl _)
    have hnd' := List.nodup_cons.1 hnd
    obtain ⟨w', s1, s2, s3, s4⟩ := unwind_marks hb rs (w := { w with heap := w.heap.setIfInBounds r (.deferred none) }) (g := g) (w0 := w0) (g0 := g0) ⟨hnd'.2, fun r' hr' => by
      have hne : r' ≠ r := fun h => hnd'.1 (h ▸ hr')
      have := hall r' (List.mem_cons_of_mem _ hr')
      exact ⟨this.1, by rw [q4 r' hne]; exact this.2⟩⟩ hbase q1 q3
    refine ⟨w', .head (step_lone_go ?_) s1, s2, q2.trans s3, s4⟩
    have htake : (Instr.takeDeferred r).run P w = .ok [] { w with heap := w.heap.setIfInBounds r (.deferred none) } := by
      simp only [Instr.takeDeferred, getObj, Sem.run_bind, Sem.run, hr2, Result.andThen_ok]
      simp only [setObj, Sem.run, hr2, Result.andThen_ok]
      simp
    simp [stepG, unwind, Frame.atR, markOf, Sem.runT_eq, htake]

theorem results_eq (fn : Func) (tmps : Array Value) : results fn tmps = (do let vs ← fn.results.mapM (resOne tmps); pure (if h : vs.size = 1 then vs[0] else .tuple vs)) := by
  have hf : ∀ x : ResultVar, (match x with | .tmp t => pure (tmps.getD t undef) | .cell a t => do loadVar t (← asAddr (tmps.getD a undef)) : Sem Value) = resOne tmps x := fun x => by cases x <;> rfl
  unfold results
  exact congrArg (fun (f : ResultVar → Sem Value) => (Array.mapM f fn.results >>= fun (vs : Array Value) => (pure (if h : vs.size = 1 then vs[0] else Value.tuple vs) : Sem Value))) (funext hf)

/-- Called by name: the function's table has it, with a body. -/
def HasBody (P : Program) (f : FuncId) : Prop := ∃ fn, P.funcs[f]? = some fn ∧ (fn.name == "runtime.NumGoroutine") = false ∧ fn.body.isNone = false

/-! ### What is asked where a function ends -/
def retQ (rs : List ResA) (K : AV → H → Prop) : Res → Slots → H → Prop
  | .exit _, _, _ => False
  | _, s, h => ob (resA s h rs) fun vs => K (tupA vs) h
@[simp] theorem retQ_ret {rs : List ResA} {s : Slots} {h : H} {K : AV → H → Prop} : retQ rs K .ret s h = ob (resA s h rs) fun vs => K (tupA vs) h := rfl
@[simp] theorem retQ_norm {rs : List ResA} {s : Slots} {h : H} {K : AV → H → Prop} : retQ rs K .norm s h = ob (resA s h rs) fun vs => K (tupA vs) h := rfl

theorem retQ_inv {rs : List ResA} {s : Slots} {h : H} {K : AV → H → Prop} {r : Res} (hq : retQ rs K r s h) : (∀ id, r ≠ .exit id) ∧ ∃ vs, resA s h rs = some vs ∧ K (tupA vs) h := by
  cases r with
  | exit id => exact hq.elim
  | norm =>
    refine ⟨fun id h => (by cases h), ?_⟩
    simp only [retQ, ob] at hq
    split at hq
    · rename_i vs hv; exact ⟨vs, hv, hq⟩
    · exact hq.elim
  | ret =>
    refine ⟨fun id h => (by cases h), ?_⟩
    simp only [retQ, ob] at hq
    split at hq
    · rename_i vs hv; exact ⟨vs, hv, hq⟩
    · exact hq.elim


/-- **A function's contract out of a run of its body.** -/
theorem CallP.body {f : FuncId} {F : FnA} {args : List AV} {h : H} {K : AV → H → Prop} (hb : HasBody P f) (hf : cFn P f = some F) (hargs : args.length ≤ F.N) (hk : Run P false [.c F.body] (retQ F.res K) (slots0 args) h) : CallP P f args h K := by
  refine ⟨hb, fun base W w g Args hs hA cs => ?_⟩
  simp only [cFn, Option.bind_eq_some_iff, Option.map_eq_some_iff] at hf
  obtain ⟨fn, hfn, c, hc, ir, hir, ras, hras, rfl⟩ := hf
  let b : Frame := { (default : Frame) with fn := f, kind := .normal }
  let a : Act := { tmps := Args ++ Array.replicate (fn.ntmps - Args.size) undef, defers := [] }
  have henter : Frame.enter P f Args .normal = b.atR a [.code c] := by
    simp [Frame.enter, Frame.atR, hfn, hc, b, a]
    rfl
  have hAl := hA.1
  have hN : a.tmps.size = fn.ntmps := by
    have hle : args.length ≤ fn.ntmps := hargs
    simp [a]; omega
  have hr : RepS w g (slots0 args) a.tmps := fun t => by
    show Rep w g (args.getD t .undef) _
    by_cases ht : t < args.length
    · have e1 : a.tmps.getD t undef = Args[t]'(by omega) := by
        have hlt : t < a.tmps.size := by simp [a]; omega
        rw [Array.getD_eq_getD_getElem?, Array.getElem?_eq_getElem hlt]
        simp only [Option.getD_some, a]
        rw [Array.getElem_append_left (by omega)]
      rw [e1, List.getD_eq_getElem?_getD, List.getElem?_eq_getElem ht]
      exact hA.2 t ht
    · rw [List.getD_eq_getElem?_getD, List.getElem?_eq_none (by omega)]
      exact .undef _
  obtain ⟨ex, s1, h1, hQ, a', w', g', todo', rs, q1, q2, q3, q4, q5, q6, q7, q8, q9⟩ := run_sound hk (b := b) (a := a) (w := w) (g := g) (todo := [.code c]) (cs := cs) (fun _ => rfl) ⟨hir, trivial⟩ hs hr hN
  obtain ⟨hex, vs, hv, hK⟩ := retQ_inv hQ
  have q5' : a'.defers = rs.map markOf := by rw [q5]; simp [a]
  have ha' : a' = { tmps := a'.tmps, defers := rs.map markOf } := by rw [← q5']
  -- the frame returns
  have hret : Steps P (lone (b.atR a' todo') cs w') (lone { b.atR { tmps := a'.tmps, defers := rs.map markOf } todo' with mode := .returning } cs w') := by
    rw [← ha']
    cases ex with
    | norm =>
      have : todo' = [] := q2
      subst this
      exact .one (stepR_end rfl)
    | ret =>
      obtain ⟨k, rfl⟩ := q2
      exact .one (stepR_ret rfl)
    | exit id => exact absurd rfl (hex id)
  obtain ⟨w2, u1, u2, u3, u4⟩ := unwind_marks (base := base) (b := b) (cs := cs) (todo := todo') (tm := a'.tmps) rfl rs q6 hs.base_le q8 q9
  obtain ⟨Vs, r1, hl, r2⟩ := run_resA u2 (q3.mono u3) hras hv
  have hres : (results fn a'.tmps).run P w2 = .ok (if h : Vs.toArray.size = 1 then Vs.toArray[0] else .tuple Vs.toArray) w2 := by
    have hm : (fn.results.mapM (resOne a'.tmps) : Sem (Array Value)).run P w2 = .ok Vs.toArray w2 := by
      rw [Array.mapM_eq_mapM_toList, Sem.run_map, r1]
      rfl
    rw [results_eq, Sem.run_bind, hm]
    simp only [Result.andThen_ok, Sem.run_pure]
  have hval : Rep w2 g' (tupA vs) (if h : Vs.toArray.size = 1 then Vs.toArray[0] else .tuple Vs.toArray) := by
    match vs, Vs, hl, r2 with
    | [v], [V], _, r2 => exact r2 0 (by simp)
    | [], [], _, r2 => exact .tup [] _ rfl (fun k hk => by simp at hk)
    | v :: v' :: vs, V :: V' :: Vs, hl, r2 =>
      have hne : ¬ (V :: V' :: Vs).toArray.size = 1 := by simp
      rw [dif_neg hne]
      exact .tup _ _ (by simpa using hl) (fun k hk => by simpa using r2 k hk)
  refine ⟨.returned _, w2, { b.atR { tmps := a'.tmps, defers := [] } todo' with mode := .returning }, ⟨_, g', _, _, rfl, hval, u2, u4, hK⟩, ?_, rfl, rfl, rfl, rfl, fn, hfn, hres⟩
  rw [henter]
  exact q1.trans (hret.trans u1)

/-! ### Pure values: no ghost number in them -/
def PureV (v : AV) : Prop := ∀ (w : World) (g g' : G) (V : Value), g'.ro = g.ro → Rep w g v V → Rep w g' v V

theorem PureV.bool (b : Bool) : PureV (.bool b) := fun _ _ _ _ _ h => by cases h; exact .bool b
theorem PureV.ubool : PureV .ubool := fun _ _ _ _ _ h => by cases h; exact .ubool _
theorem PureV.any1 : PureV .any1 := fun _ _ _ _ _ h => by cases h with | any1 V hV => exact .any1 _ hV
theorem PureV.int (k : IntKind) (n : Int) : PureV (.int k n) := fun _ _ _ _ _ h => by cases h; exact .int k n
theorem PureV.str (s : ByteArray) : PureV (.str s) := fun _ _ _ _ _ h => by cases h; exact .str s
theorem PureV.undef : PureV .undef := fun _ _ _ _ _ _ => .undef _
theorem PureV.nilptr : PureV .nilptr := fun _ _ _ _ _ h => by cases h; exact .nilptr
theorem PureV.nilfn : PureV .nilfn := fun _ _ _ _ _ h => by cases h; exact .nilfn
theorem PureV.niface : PureV .niface := fun _ _ _ _ _ h => by cases h; exact .niface
theorem PureV.nilmap : PureV .nilmap := fun _ _ _ _ _ h => by cases h; exact .nilmap
theorem PureV.iface {t : TypeId} {v : AV} (hv : PureV v) : PureV (.iface t v) := fun w g g' V e h => by
  cases h with
  | iface t v V h => exact .iface t v V (hv w g g' V e h)
theorem PureV.agg {cs : List AV} (h : ∀ v ∈ cs, PureV v) : PureV (.agg cs) := fun w g g' V e hr => by
  cases hr with
  | agg cs C hC h1 h2 => exact .agg cs C hC (fun k hk => h _ (List.getElem_mem hk) w g g' _ e (h1 k hk)) h2
theorem PureV.tup {cs : List AV} (h : ∀ v ∈ cs, PureV v) : PureV (.tup cs) := fun w g g' V e hr => by
  cases hr with
  | tup cs C hC h1 => exact .tup cs C hC (fun k hk => h _ (List.getElem_mem hk) w g g' _ e (h1 k hk))
theorem PureV.sl {t : Tok} {es : List (List AV)} (ht : ∀ i, t ≠ .own i) (h : ∀ e ∈ es, ∀ v ∈ e, PureV v) : PureV (.sl t es) := fun w g g' V e hr => by
  cases hr with
  | sl t es A cap z Vs h1 h2 h3 h4 h5 h6 =>
    refine .sl t es A cap z Vs h1 h2 (fun k hk => ?_) (fun k hk => ?_) h5 ?_
    · obtain ⟨B, o, hA, hro, hc⟩ := h3 k hk
      exact ⟨B, o, hA, by rw [e]; exact hro, hc⟩
    · have hm : es.flatten[k] ∈ es.flatten := List.getElem_mem hk
      obtain ⟨el, he1, he2⟩ := List.mem_flatten.1 hm
      exact h el he1 _ he2 w g g' _ e (h4 k hk)
    · cases t with
      | no => trivial
      | full => exact h6
      | own i => exact absurd rfl (ht i)
theorem PureV.fn {f : FuncId} {first caps : List AV} (h1 : ∀ v ∈ first, PureV v) (h2 : ∀ v ∈ caps, PureV v) : PureV (.fn f first caps) := fun w g g' V e hr => by
  cases hr with
  | fn f first caps F C hF hC q1 q2 => exact .fn f first caps F C hF hC (fun k hk => h1 _ (List.getElem_mem hk) w g g' _ e (q1 k hk)) (fun k hk => h2 _ (List.getElem_mem hk) w g g' _ e (q2 k hk))
theorem PureV.rop {cs : List AV} (h : ∀ v ∈ cs, PureV v) : PureV (.rop cs) := fun w g g' V e hr => by
  cases hr with
  | rop cs a Vs h1 h2 h3 =>
    refine .rop cs a Vs (fun k hk => ?_) (fun k hk => h _ (List.getElem_mem hk) w g g' _ e (h2 k hk)) h3
    obtain ⟨B, o, hA, hro, hc⟩ := h1 k hk
    exact ⟨B, o, hA, by rw [e]; exact hro, hc⟩

theorem RepA.pure {args : List AV} {Args : Array Value} {g' : G} (hp : ∀ v ∈ args, PureV v) (e : g'.ro = g.ro) (h : RepA w g args Args) : RepA w g' args Args :=
  ⟨h.1, fun k hk => hp _ (List.getElem_mem hk) w g g' _ e (h.2 k hk)⟩

def G.bare (ro : Nat → Nat) : G := { bn := 0, bx := fun _ => 0, bs := fun _ => 0, tn := 0, tk := fun _ => ⟨0, 0, 0, 0, 0⟩, ln := 0, lp := fun _ => 0, mn := 0, mp := fun _ => 0, ro := ro }

theorem Sim.bare (hs : Sim P base W w g h) : Sim P w.heap.size (fun _ => False) w (G.bare g.ro) H.nil :=
  ⟨Nat.le_refl _, rfl, rfl, rfl, rfl, fun b _ hb => by simp [H.nil] at hb, fun b _ hb => by simp [H.nil] at hb, fun i hi => by simp [H.nil] at hi, fun i _ hi => by simp [H.nil] at hi, hs.roB,
    fun l _ hl => by simp [H.nil] at hl, fun l _ hl => by simp [H.nil] at hl, fun l _ hl => by simp [H.nil] at hl, fun l _ hl => by simp [H.nil] at hl⟩

/-- What an inner run, that may write nothing that was there, leaves of an outer state. -/
theorem Sim.outer (hs : Sim P base W w g h) {w' : World} {g0 g1 : G} {h1 : H} {base1 : Nat} {W1 : Nat → Prop} (e : Ext w.heap.size (fun _ => False) w g0 w' g1) (h0 : g0.ro = g.ro) (hs1 : Sim P base1 W1 w' g1 h1) :
    Sim P base W w' { g with ro := g1.ro } h ∧ Ext base W w g w' { g with ro := g1.ro } := by
  have hblk : ∀ B, B < w.heap.size → w'.heap[B]? = w.heap[B]? := fun B hB => e.blk B hB (fun h => h)
  have hro : ∀ B, B < w.heap.size → g1.ro B = g.ro B := fun B hB => by rw [e.roO B hB (fun h => h), h0]
  have e' : GExt w g w' { g with ro := g1.ro } := GExt.of_blk e.size hblk hs.roB hro (Nat.le_refl _) (fun _ _ => ⟨rfl, rfl⟩) (Nat.le_refl _) (fun _ _ => rfl) (Nat.le_refl _) (fun _ _ => rfl) (Nat.le_refl _) (fun _ _ => rfl)
  exact ⟨hs.step e' e.size hblk rfl rfl rfl rfl rfl hro hs1.roB, Ext.step hs e' e.os e.tape e.output hblk hro⟩

/-- **A function of plain values alone: proved in the empty state, it serves in every state.** -/
theorem SCall.pure {f : FuncId} {args : List AV} {r : AV} {h0 : H} (hc : SCall P f args H.nil r h0) (hp : ∀ v ∈ args, PureV v) (hr : PureV r) (h : H) : SCall P f args h r h := by
  refine ⟨hc.1, fun base W w g Args hs hA => ?_⟩
  refine (hc.2 w.heap.size (fun _ => False) w (G.bare g.ro) Args hs.bare (RepA.pure (g := g) (g' := G.bare g.ro) hp rfl hA)).mono ?_
  rintro e w' ⟨R, g1, rfl, q1, q2, q3⟩
  obtain ⟨s1, s2⟩ := hs.outer q3 rfl q2
  exact ⟨R, { g with ro := g1.ro }, rfl, hr w' g1 _ R rfl q1, s1, s2⟩

end

/-! ### A value that says less: no token -/
mutual
def wk : AV → AV
  | .sl _ es => .sl .no (wkLL es)
  | .rop cs => .rop (wkL cs)
  | .fn f a b => .fn f (wkL a) (wkL b)
  | .agg cs => .agg (wkL cs)
  | .tup cs => .tup (wkL cs)
  | .iface t v => .iface t (wk v)
  | .undef => .undef
  | .skp => .skp
  | .bool b => .bool b
  | .ubool => .ubool
  | .any1 => .any1
  | .int k n => .int k n
  | .str s => .str s
  | .msl b z o l => .msl b z o l
  | .nilptr => .nilptr
  | .ptr b o => .ptr b o
  | .nilfn => .nilfn
  | .yld l => .yld l
  | .nilmap => .nilmap
  | .map m => .map m
  | .niface => .niface
def wkL : List AV → List AV
  | [] => []
  | v :: vs => wk v :: wkL vs
def wkLL : List (List AV) → List (List AV)
  | [] => []
  | v :: vs => wkL v :: wkLL vs
end

theorem wkL_map : ∀ (l : List AV), wkL l = l.map wk
  | [] => by simp [wkL]
  | v :: l => by simp [wkL, wkL_map l]
theorem wkLL_map : ∀ (l : List (List AV)), wkLL l = l.map (List.map wk)
  | [] => by simp [wkLL]
  | v :: l => by simp [wkLL, wkLL_map l, wkL_map]

theorem ok1_wk (v : AV) : ok1 (wk v) = ok1 v := by cases v <;> simp [wk, ok1]

section
variable {P : Program} {base : Nat} {W : Nat → Prop}

theorem Rep.wk {w : World} {g : G} {v : AV} {V : Value} (h : Rep w g v V) : Rep w g (wk v) V := by
  induction h with
  | undef V => simp only [Am.wk]; exact .undef V
  | skp => simp only [Am.wk]; exact .skp
  | bool b => simp only [Am.wk]; exact .bool b
  | ubool b => simp only [Am.wk]; exact .ubool b
  | any1 V hV => simp only [Am.wk]; exact .any1 V hV
  | int k n => simp only [Am.wk]; exact .int k n
  | str s => simp only [Am.wk]; exact .str s
  | sl t es A cap z Vs h1 h2 h3 _ h4 h5 ih =>
    simp only [Am.wk, wkLL_map]
    have hf : (es.map (List.map Am.wk)).flatten = es.flatten.map Am.wk := by rw [List.map_flatten]
    have hl : es.length = (es.map (List.map Am.wk)).length := by simp
    rw [hl]
    refine .sl .no (es.map (List.map Am.wk)) A cap z Vs ⟨h1.1, fun e he => ?_⟩ (by simpa using h2) (fun k hk => h3 k (by rw [hf, List.length_map] at hk; exact hk)) (fun k hk => ?_) (fun k hk => ?_) trivial
    · obtain ⟨e', he', rfl⟩ := List.mem_map.1 he
      simpa using h1.2 e' he'
    · have hk' : k < es.flatten.length := by rw [hf, List.length_map] at hk; exact hk
      have e1 : (es.map (List.map Am.wk)).flatten[k] = Am.wk es.flatten[k] := by simp only [hf, List.getElem_map]
      rw [e1]
      exact ih k hk'
    · have hk' : k < es.flatten.length := by rw [hf, List.length_map] at hk; exact hk
      have e1 : (es.map (List.map Am.wk)).flatten[k] = Am.wk es.flatten[k] := by simp only [hf, List.getElem_map]
      rw [e1, ok1_wk]
      exact h4 k hk'
  | msl b z off len cap hb hl hz => simp only [Am.wk]; exact .msl b z off len cap hb hl hz
  | nilptr => simp only [Am.wk]; exact .nilptr
  | ptr b o hb => simp only [Am.wk]; exact .ptr b o hb
  | rop cs a Vs h1 _ h2 ih =>
    simp only [Am.wk, wkL_map]
    refine .rop _ a Vs (fun k hk => h1 k (by simpa using hk)) (fun k hk => ?_) (fun k hk => ?_)
    · simp only [List.getElem_map]; exact ih k (by simpa using hk)
    · simp only [List.getElem_map, ok1_wk]; exact h2 k (by simpa using hk)
  | nilfn => simp only [Am.wk]; exact .nilfn
  | fn f first caps F C hF hC _ _ ih1 ih2 =>
    simp only [Am.wk, wkL_map]
    refine .fn f _ _ F C (by simpa using hF) (by simpa using hC) (fun k hk => ?_) (fun k hk => ?_)
    · simp only [List.getElem_map]; exact ih1 k (by simpa using hk)
    · simp only [List.getElem_map]; exact ih2 k (by simpa using hk)
  | yld l hl => simp only [Am.wk]; exact .yld l hl
  | agg cs C hC _ h2 ih =>
    simp only [Am.wk, wkL_map]
    refine .agg _ C (by simpa using hC) (fun k hk => ?_) (fun k hk => ?_)
    · simp only [List.getElem_map]; exact ih k (by simpa using hk)
    · simp only [List.getElem_map, ok1_wk]; exact h2 k (by simpa using hk)
  | tup cs C hC _ ih =>
    simp only [Am.wk, wkL_map]
    refine .tup _ C (by simpa using hC) (fun k hk => ?_)
    simp only [List.getElem_map]; exact ih k (by simpa using hk)
  | nilmap => simp only [Am.wk]; exact .nilmap
  | map m hm => simp only [Am.wk]; exact .map m hm
  | niface => simp only [Am.wk]; exact .niface
  | iface t v V _ ih => simp only [Am.wk]; exact .iface t _ V ih

theorem SCall.wk {f : FuncId} {args : List AV} {h : H} {r : AV} {h' : H} (hc : SCall P f (args.map wk) h r h') : SCall P f args h r h' :=
  ⟨hc.1, fun base W w g Args hs hA => hc.2 base W w g Args hs ⟨by simpa using hA.1, fun k hk => by simp only [List.getElem_map]; exact (hA.2 k (by simpa using hk)).wk⟩⟩

/-- A function that reads its arguments and hands back a value, and no more. -/
def PCall (P : Program) (f : FuncId) (args : List AV) (r : AV) : Prop := ∀ h, SCall P f args h r h


theorem CallP.wk {f : FuncId} {args : List AV} {h : H} {K : AV → H → Prop} (hc : CallP P f (args.map Am.wk) h K) : CallP P f args h K :=
  ⟨hc.1, fun base W w g Args hs hA => hc.2 base W w g Args hs ⟨by simpa using hA.1, fun k hk => by simp only [List.getElem_map]; exact (hA.2 k (by simpa using hk)).wk⟩⟩

theorem CallP.gh {f : FuncId} {args : List AV} {h : H} {K K' : AV → H → Prop} (hc : CallP P f args h K) (hk : ∀ r h1, K r h1 → ∃ h' r', Gh h1 r h' r' ∧ K' r' h') : CallP P f args h K' :=
  ⟨hc.1, fun base W w g Args hs hA => (hc.2 base W w g Args hs hA).mono (by
    rintro e w' ⟨R, g', r, h1, rfl, q2, q3, q4, q5⟩
    obtain ⟨h', r', q6, q7⟩ := hk r h1 q5
    obtain ⟨g2, t1, t2, t3⟩ := q6.sound q3 q2
    exact ⟨R, g2, r', h', rfl, t1, t2, q4.trans t3, q7⟩)⟩

/-- All stays but these boxes and these tokens. -/
structure HF (h h' : H) (B T : Nat → Prop) : Prop where
  bn : h.bn ≤ h'.bn
  bx : ∀ b, b < h.bn → ¬ B b → h'.bx b = h.bx b
  tn : h.tn ≤ h'.tn
  tk : ∀ i, i < h.tn → ¬ T i → h'.tk i = h.tk i
  ln : h.ln ≤ h'.ln
  lp : ∀ l, l < h.ln → h'.lp l = h.lp l
  mn : h.mn ≤ h'.mn
  mp : ∀ m, m < h.mn → h'.mp m = h.mp m

/-! ### What is left behind is let go -/
def G.cutR (g : G) (ρ : Nat → Nat) (nb nt nl nm : Nat) : G := { g with bn := nb, bx := fun b => g.bx (ρ b), bs := fun b => g.bs (ρ b), tn := nt, ln := nl, mn := nm }

/-- A value that is there without what is let go, by another name of the boxes. -/
def Low (ρ : Nat → Nat) (nb nt nl nm : Nat) (v v' : AV) : Prop := ∀ (w : World) (g : G) (V : Value), (∀ b, b < nb → ρ b < g.bn) → nt ≤ g.tn → nl ≤ g.ln → nm ≤ g.mn → Rep w g v V → Rep w (g.cutR ρ nb nt nl nm) v' V

theorem PureV.low {v : AV} (hv : PureV v) (ρ : Nat → Nat) (nb nt nl nm : Nat) : Low ρ nb nt nl nm v v := fun w g V _ _ _ _ h => hv w g _ V rfl h
theorem Low.weak {ρ : Nat → Nat} {nb nt nl nm : Nat} {v v' : AV} (h : Low ρ nb nt nl nm v v') : Low ρ nb nt nl nm v (Am.wk v') := fun w g V a b c d e => (h w g V a b c d e).wk
theorem Low.weak' {ρ : Nat → Nat} {nb nt nl nm : Nat} {v v' : AV} (h : Low ρ nb nt nl nm (Am.wk v) v') : Low ρ nb nt nl nm v v' := fun w g V a b c d e => h w g V a b c d e.wk
theorem Low.ptr {ρ : Nat → Nat} {nb nt nl nm b b' o : Nat} (hb : b' < nb) (e : ρ b' = b) : Low ρ nb nt nl nm (.ptr b o) (.ptr b' o) := fun w g V h1 h2 h3 h4 h => by
  obtain ⟨_, rfl⟩ := h.ptr_inv
  have := Rep.ptr (w := w) (g := g.cutR ρ nb nt nl nm) b' o hb
  have e2 : (g.cutR ρ nb nt nl nm).bx b' = g.bx b := by show g.bx (ρ b') = _; rw [e]
  rw [e2] at this
  exact this

/-- What is read in a smaller state is there without what came later. -/
theorem Rep.low {w0 : World} {g0 : G} {v : AV} {V0 : Value} (h0 : Rep w0 g0 v V0) {ρ : Nat → Nat} {nb nt nl nm : Nat} (hρ : ∀ b, b < g0.bn → ρ b = b) (hb : g0.bn ≤ nb) (ht : g0.tn ≤ nt) (hl : g0.ln ≤ nl) (hm : g0.mn ≤ nm) : Low ρ nb nt nl nm v v := by
  intro w g V c1 c2 c3 c4 h
  have hbx : ∀ b, b < g0.bn → (g.cutR ρ nb nt nl nm).bx b = g.bx b ∧ (g.cutR ρ nb nt nl nm).bs b = g.bs b := fun b hb => by
    show g.bx (ρ b) = _ ∧ g.bs (ρ b) = _
    rw [hρ b hb]; exact ⟨rfl, rfl⟩
  have hro : ∀ {A : Option Addr} {k : Nat} {V : Value}, ROat w g A k V → ROat w (g.cutR ρ nb nt nl nm) A k V := fun h => h
  induction h0 generalizing V with
  | undef V => exact .undef _
  | skp => cases h; exact .skp
  | bool b => cases h; exact .bool b
  | ubool b => cases h; exact .ubool _
  | any1 V hV => cases h with | any1 V hV => exact .any1 _ hV
  | int k n => cases h; exact .int k n
  | str s => cases h; exact .str s
  | sl t es A cap z Vs h1 h2 h3 _ h4 h5 ih =>
    cases h with
    | sl t es A' cap' z' Vs' p1 p2 p3 p4 p5 p6 =>
      refine .sl t es A' cap' z' Vs' p1 p2 p3 (fun k hk => ih k hk _ (p4 k hk)) p5 ?_
      cases t with
      | no => trivial
      | full => exact p6
      | own i => exact ⟨Nat.lt_of_lt_of_le h5.1 ht, p6.2⟩
  | msl b z off len cap hb' hl' hz' =>
    cases h with
    | msl b z off len cap' p1 p2 p3 =>
      rw [← (hbx b hb').1]
      exact .msl b z off len cap' (Nat.lt_of_lt_of_le hb' hb) p2 (by rw [(hbx b hb').2]; exact p3)
  | nilptr => cases h; exact .nilptr
  | ptr b o hb' => obtain ⟨_, rfl⟩ := h.ptr_inv; rw [← (hbx b hb').1]; exact .ptr b o (Nat.lt_of_lt_of_le hb' hb)
  | rop cs a Vs h1 _ h2 ih =>
    cases h with
    | rop cs a' Vs' p1 p2 p3 => exact .rop cs a' Vs' p1 (fun k hk => ih k hk _ (p2 k hk)) p3
  | nilfn => cases h; exact .nilfn
  | fn f first caps F C hF hC _ _ ih1 ih2 =>
    cases h with
    | fn f first caps F' C' p1 p2 p3 p4 => exact .fn f first caps F' C' p1 p2 (fun k hk => ih1 k hk _ (p3 k hk)) (fun k hk => ih2 k hk _ (p4 k hk))
  | yld l hl' =>
    cases h with
    | yld l p1 => exact .yld (g := g.cutR ρ nb nt nl nm) l (Nat.lt_of_lt_of_le hl' hl)
  | agg cs C hC _ h2 ih =>
    cases h with
    | agg cs C' p1 p2 p3 => exact .agg cs C' p1 (fun k hk => ih k hk _ (p2 k hk)) p3
  | tup cs C hC _ ih =>
    cases h with
    | tup cs C' p1 p2 => exact .tup cs C' p1 (fun k hk => ih k hk _ (p2 k hk))
  | nilmap => cases h; exact .nilmap
  | map m hm' =>
    cases h with
    | map m p1 => exact .map (g := g.cutR ρ nb nt nl nm) m (Nat.lt_of_lt_of_le hm' hm)
  | niface => cases h; exact .niface
  | iface t v V' _ ih =>
    cases h with
    | iface t v V2 p1 => exact .iface t v V2 (ih _ p1)

/-- A cell that says less. -/
def WkTo (v1 v : AV) : Prop := ok1 v1 = true → ok1 v = true ∧ ∀ (w : World) (g : G) (V : Value), Rep w g v1 V → Rep w g v V
theorem WkTo.refl (v : AV) : WkTo v v := fun h => ⟨h, fun _ _ _ h => h⟩
theorem WkTo.wk (v : AV) : WkTo v (Am.wk v) := fun h => ⟨by rw [ok1_wk]; exact h, fun _ _ _ h => h.wk⟩
theorem WkTo.any (v : AV) : WkTo v .any1 := fun h => ⟨rfl, fun _ _ V hv => .any1 V (ok1_one hv h)⟩
inductive WkL : List AV → List AV → Prop where
  | nil : WkL [] []
  | cons {v1 v : AV} {l1 l : List AV} : WkTo v1 v → WkL l1 l → WkL (v1 :: l1) (v :: l)
theorem WkL.len {l1 l : List AV} (h : WkL l1 l) : l1.length = l.length := by
  induction h with
  | nil => rfl
  | cons _ _ ih => simp [ih]
theorem WkL.get {l1 l : List AV} (h : WkL l1 l) : ∀ (k : Nat) (v : AV), l[k]? = some v → ∃ v1, l1[k]? = some v1 ∧ WkTo v1 v := by
  induction h with
  | nil => intro k v h; simp at h
  | cons hv _ ih =>
    intro k v h
    cases k with
    | zero => simp at h; subst h; exact ⟨_, rfl, hv⟩
    | succ k => simpa using ih k v (by simpa using h)
theorem WkL.map : ∀ (l : List AV), WkL l (l.map Am.wk)
  | [] => .nil
  | v :: l => .cons (.wk v) (WkL.map l)
theorem WkL.refl : ∀ (l : List AV), WkL l l
  | [] => .nil
  | v :: l => .cons (.refl v) (WkL.refl l)
theorem WkL.wk {l1 l : List AV} (h : l1.map Am.wk = l) : WkL l1 l := h ▸ WkL.map l1

structure CutOK (h h1 h2 : H) (ρ : Nat → Nat) (r r' : AV) : Prop where
  bn : h.bn ≤ h2.bn
  ρ0 : ∀ b, b < h.bn → ρ b = b
  ρ1 : ∀ b, b < h2.bn → ρ b < h1.bn
  ρi : ∀ b b', b < h2.bn → b' < h2.bn → ρ b = ρ b' → b = b'
  bx : ∀ b cs, b < h2.bn → h2.bx b = some cs → (b < h.bn ∧ h1.bx b = some cs ∧ h.bx b = some cs) ∨ ∃ cs1, h1.bx (ρ b) = some cs1 ∧ WkL cs1 cs ∧ ∀ v ∈ cs, Low ρ h2.bn h2.tn h2.ln h2.mn v v
  tn : h.tn ≤ h2.tn ∧ h2.tn ≤ h1.tn
  tk : ∀ i, i < h2.tn → h2.tk i = h1.tk i
  ln : h2.ln = h.ln ∧ h.ln ≤ h1.ln
  lp : ∀ l q, l < h.ln → h2.lp l = some q → h1.lp l = some q ∧ ∃ q0, h.lp l = some q0 ∧ q0.s = q.s
  mn : h2.mn = h.mn ∧ h.mn ≤ h1.mn
  mp : ∀ m es, m < h.mn → h2.mp m = some es → h1.mp m = some es ∧ h.mp m = some es
  r : Low ρ h2.bn h2.tn h2.ln h2.mn r r'

theorem Sim.cut {w0 w : World} {g0 g : G} {h h1 h2 : H} {ρ : Nat → Nat} {r r' : AV} (hs0 : Sim P base W w0 g0 h) (hs : Sim P base W w g h1) (e : Ext base W w0 g0 w g) (hc : CutOK h h1 h2 ρ r r') {R : Value} (hr : Rep w g r R) :
    ∃ g', Rep w g' r' R ∧ Sim P base W w g' h2 ∧ Ext base W w0 g0 w g' := by
  let g' := g.cutR ρ h2.bn h2.tn h2.ln h2.mn
  have c1 : ∀ b, b < h2.bn → ρ b < g.bn := fun b hb => hs.bn ▸ hc.ρ1 b hb
  have c2 : h2.tn ≤ g.tn := hs.tn ▸ hc.tn.2
  have c3 : h2.ln ≤ g.ln := by rw [hc.ln.1, ← hs.ln]; exact hc.ln.2
  have c4 : h2.mn ≤ g.mn := by rw [hc.mn.1, ← hs.mn]; exact hc.mn.2
  have hlow : ∀ {v : AV} {V0 V : Value}, Rep w0 g0 v V0 → Rep w g v V → Rep w g' v V := fun h0 h1' =>
    h0.low (ρ := ρ) (nb := h2.bn) (nt := h2.tn) (nl := h2.ln) (nm := h2.mn) (fun b hb => hc.ρ0 b (hs0.bn ▸ hb)) (hs0.bn ▸ hc.bn) (hs0.tn ▸ hc.tn.1) (by rw [hc.ln.1, hs0.ln]; exact Nat.le_refl _) (by rw [hc.mn.1, hs0.mn]; exact Nat.le_refl _) w g _ c1 c2 c3 c4 h1'
  refine ⟨g', hc.r w g R c1 c2 c3 c4 hr, ⟨hs.base_le, rfl, rfl, rfl, rfl, ?_, ?_, ?_, ?_, hs.roB, ?_, ?_, ?_, ?_⟩, ⟨⟨e.size, e.ro, hs0.bn ▸ hc.bn, fun b hb => ?_, hs0.tn ▸ hc.tn.1, e.tk, ?_, e.lp, ?_, e.mp⟩, e.os, e.tape, e.output, e.blk, e.roO, e.obj⟩⟩
  · intro b cs hb hcs
    rcases hc.bx b cs hb hcs with ⟨hb0, hx1, hx0⟩ | ⟨cs1, hx1, hwl, hl⟩
    · obtain ⟨q1, q2, C, T, q3, q4, q5⟩ := hs.box b cs (by have := hc.ρ1 b hb; rw [hc.ρ0 b hb0] at this; exact this) hx1
      obtain ⟨_, _, C0, _, _, p4, _⟩ := hs0.box b cs hb0 hx0
      have e1 : g'.bx b = g.bx b ∧ g'.bs b = g.bs b := by
        show g.bx (ρ b) = _ ∧ g.bs (ρ b) = _
        rw [hc.ρ0 b hb0]; exact ⟨rfl, rfl⟩
      rw [e1.1, e1.2]
      refine ⟨q1, q2, C, T, q3, ⟨q4.1, fun k v hk => ?_⟩, q5⟩
      obtain ⟨V, v1, v2, v3⟩ := q4.2 k v hk
      obtain ⟨V0, _, u2, _⟩ := p4.2 k v hk
      exact ⟨V, v1, hlow u2 v2, v3⟩
    · obtain ⟨q1, q2, C, T, q3, q4, q5⟩ := hs.box (ρ b) cs1 (hc.ρ1 b hb) hx1
      refine ⟨q1, q2, C, T, q3, ⟨by rw [← hwl.len]; exact q4.1, fun k v hk => ?_⟩, q5⟩
      obtain ⟨v0, hv0, hvw⟩ := hwl.get k v hk
      obtain ⟨V, v1, v2, v3⟩ := q4.2 k v0 hv0
      exact ⟨V, v1, hl _ (List.mem_of_getElem? hk) w g V c1 c2 c3 c4 ((hvw v3).2 _ _ _ v2), (hvw v3).1⟩
  · intro b b' hb hb' i1 i2 heq
    have key : ∀ b, b < h2.bn → (h2.bx b).isSome = true → (h1.bx (ρ b)).isSome = true := fun b hb i => by
      obtain ⟨cs, hcs⟩ := Option.isSome_iff_exists.1 i
      rcases hc.bx b cs hb hcs with ⟨hb0, hx1, _⟩ | ⟨cs1, hx1, _, _⟩
      · rw [hc.ρ0 b hb0, hx1]; rfl
      · rw [hx1]; rfl
    exact hc.ρi b b' hb hb' (hs.boxinj (ρ b) (ρ b') (hc.ρ1 b hb) (hc.ρ1 b' hb') (key b hb i1) (key b' hb' i2) heq)
  · intro i hi
    have := hs.tok i (Nat.lt_of_lt_of_le hi hc.tn.2)
    rw [hc.tk i hi]
    exact this
  · intro i j hi hj
    exact hs.tokinj i j (Nat.lt_of_lt_of_le hi hc.tn.2) (Nat.lt_of_lt_of_le hj hc.tn.2)
  · intro l q hl hq
    rw [hc.ln.1] at hl
    obtain ⟨p1, q0, p2, p3⟩ := hc.lp l q hl hq
    obtain ⟨q1, L, q2, q3⟩ := hs.loop l q (Nat.lt_of_lt_of_le hl hc.ln.2) p1
    obtain ⟨_, L0, _, u3⟩ := hs0.loop l q0 hl p2
    exact ⟨q1, L, q2, q3.asg, q3.body, fun t => hlow (p3 ▸ u3.tmps t) (q3.tmps t), q3.params, q3.plt, q3.st, q3.pend⟩
  · intro l l' hl hl' i1 i2 heq
    rw [hc.ln.1] at hl hl'
    have key : ∀ l, l < h.ln → (h2.lp l).isSome = true → (h1.lp l).isSome = true := fun l hl i => by
      obtain ⟨q, hq⟩ := Option.isSome_iff_exists.1 i
      rw [(hc.lp l q hl hq).1]; rfl
    exact hs.loopinj l l' (Nat.lt_of_lt_of_le hl hc.ln.2) (Nat.lt_of_lt_of_le hl' hc.ln.2) (key l hl i1) (key l' hl' i2) heq
  · intro m es hm hes
    rw [hc.mn.1] at hm
    obtain ⟨p1, p2⟩ := hc.mp m es hm hes
    obtain ⟨q1, E, c, q2, q3⟩ := hs.map m es (Nat.lt_of_lt_of_le hm hc.mn.2) p1
    obtain ⟨_, E0, _, _, u3⟩ := hs0.map m es hm p2
    refine ⟨q1, E, c, q2, q3.1, fun k hk => ?_⟩
    obtain ⟨v1, v2, v3, v4⟩ := q3.2 k hk
    obtain ⟨_, u4, u5, _⟩ := u3.2 k hk
    exact ⟨v1, hlow u4 v2, hlow u5 v3, v4⟩
  · intro l l' hl hl' i1 i2 heq
    rw [hc.mn.1] at hl hl'
    have key : ∀ l, l < h.mn → (h2.mp l).isSome = true → (h1.mp l).isSome = true := fun l hl i => by
      obtain ⟨q, hq⟩ := Option.isSome_iff_exists.1 i
      rw [(hc.mp l q hl hq).1]; rfl
    exact hs.mapinj l l' (Nat.lt_of_lt_of_le hl hc.mn.2) (Nat.lt_of_lt_of_le hl' hc.mn.2) (key l hl i1) (key l' hl' i2) heq
  · have h0 : ρ b = b := hc.ρ0 b (hs0.bn ▸ hb)
    have := e.bx b hb
    show g.bx (ρ b) = _ ∧ g.bs (ρ b) = _
    rw [h0]
    exact this
  · show g0.ln ≤ h2.ln
    rw [hc.ln.1, hs0.ln]; exact Nat.le_refl _
  · show g0.mn ≤ h2.mn
    rw [hc.mn.1, hs0.mn]; exact Nat.le_refl _

theorem CallP.cut {f : FuncId} {args : List AV} {h : H} {K K' : AV → H → Prop} (hc : CallP P f args h K) (hk : ∀ r h1, K r h1 → ∃ h2 ρ r', CutOK h h1 h2 ρ r r' ∧ K' r' h2) : CallP P f args h K' :=
  ⟨hc.1, fun base W w g Args hs hA => (hc.2 base W w g Args hs hA).mono (by
    rintro e w' ⟨R, g', r, h1, rfl, q2, q3, q4, q5⟩
    obtain ⟨h2, ρ, r', q6, q7⟩ := hk r h1 q5
    obtain ⟨g2, t1, t2, t3⟩ := hs.cut q3 q4 q6 q2
    exact ⟨R, g2, r', h2, rfl, t1, t2, t3, q7⟩)⟩

/-- A function that reads what there is, and leaves it. -/
theorem SCall.ro {f : FuncId} {args : List AV} {h : H} {r : AV} (hc : CallP P f args h fun r1 h1 => Am.wk r1 = r ∧ HF h h1 (fun _ => False) (fun _ => False)) (hr : PureV r) : SCall P f args h r h := by
  refine CallP.sure (hc.cut fun r1 h1 ⟨e, hf⟩ => ⟨h, id, r, ?_, rfl, rfl⟩)
  refine ⟨Nat.le_refl _, fun _ _ => rfl, fun b hb => Nat.lt_of_lt_of_le hb hf.bn, fun _ _ _ _ h => h, fun b cs hb hcs => .inl ⟨hb, (hf.bx b hb fun h => h).trans hcs, hcs⟩, ⟨Nat.le_refl _, hf.tn⟩, fun i hi => (hf.tk i hi fun h => h).symm, ⟨rfl, hf.ln⟩,
    fun l q hl hq => ⟨(hf.lp l hl).trans hq, q, hq, rfl⟩, ⟨rfl, hf.mn⟩, fun m es hm hes => ⟨(hf.mp m hm).trans hes, hes⟩, Low.weak' ?_⟩
  rw [e]
  exact hr.low _ _ _ _ _

/-- A function that turns one box. -/
theorem SCall.upd {f : FuncId} {args : List AV} {h : H} {r : AV} {b : Nat} {cs : List AV} (hb : b < h.bn) (hc : CallP P f args h fun r1 h1 => Am.wk r1 = r ∧ HF h h1 (· = b) (fun _ => False) ∧ ∃ cs1, h1.bx b = some cs1 ∧ WkL cs1 cs) (hr : PureV r) (hcs : ∀ v ∈ cs, PureV v) :
    SCall P f args h r (h.set b cs) := by
  refine CallP.sure (hc.cut fun r1 h1 ⟨e, hf, cs1, hb1, hcs1⟩ => ⟨h.set b cs, id, r, ?_, rfl, rfl⟩)
  refine ⟨Nat.le_refl _, fun _ _ => rfl, fun b hb => Nat.lt_of_lt_of_le hb hf.bn, fun _ _ _ _ h => h, fun b' cs' hb' hcs' => ?_, ⟨Nat.le_refl _, hf.tn⟩, fun i hi => (hf.tk i hi fun h => h).symm, ⟨rfl, hf.ln⟩,
    fun l q hl hq => ⟨(hf.lp l hl).trans hq, q, hq, rfl⟩, ⟨rfl, hf.mn⟩, fun m es hm hes => ⟨(hf.mp m hm).trans hes, hes⟩, Low.weak' ?_⟩
  · by_cases hbb : b' = b
    · subst hbb
      have : cs = cs' := by simpa [H.set] using hcs'
      subst this
      exact .inr ⟨cs1, hb1, hcs1, fun v hv => (hcs v hv).low _ _ _ _ _⟩
    · have : h.bx b' = some cs' := by simpa [H.set, hbb] using hcs'
      exact .inl ⟨hb', (hf.bx b' hb' hbb).trans this, this⟩
  · rw [e]
    exact hr.low _ _ _ _ _

/-- A function that hands back a new box. -/
theorem SCall.new {f : FuncId} {args : List AV} {h : H} {cs : List AV} (hc : CallP P f args h fun r1 h1 => ∃ i, r1 = .ptr i 0 ∧ h.bn ≤ i ∧ i < h1.bn ∧ HF h h1 (fun _ => False) (fun _ => False) ∧ ∃ cs1, h1.bx i = some cs1 ∧ WkL cs1 cs) (hcs : ∀ v ∈ cs, PureV v) :
    SCall P f args h (.ptr h.bn 0) (h.alloc cs) := by
  refine CallP.sure (hc.cut fun r1 h1 ⟨i, e, hi, hi1, hf, cs1, hb1, hcs1⟩ => ⟨h.alloc cs, fun b => if b = h.bn then i else b, .ptr h.bn 0, ?_, rfl, rfl⟩)
  subst e
  have hbn : (h.alloc cs).bn = h.bn + 1 := rfl
  have h0 : ∀ b, b < h.bn → (if b = h.bn then i else b) = b := fun b hb => if_neg (by omega)
  refine ⟨by rw [hbn]; omega, h0, fun b hb => ?_, fun b b' hb hb' hbb => ?_, fun b' cs' hb' hcs' => ?_, ⟨Nat.le_refl _, hf.tn⟩, fun i hi => (hf.tk i hi fun h => h).symm, ⟨rfl, hf.ln⟩,
    fun l q hl hq => ⟨(hf.lp l hl).trans hq, q, hq, rfl⟩, ⟨rfl, hf.mn⟩, fun m es hm hes => ⟨(hf.mp m hm).trans hes, hes⟩, Low.ptr (by rw [hbn]; omega) (if_pos rfl)⟩
  · have := hf.bn
    show (if b = h.bn then i else b) < h1.bn
    split <;> omega
  · have hbb' : (if b = h.bn then i else b) = (if b' = h.bn then i else b') := hbb
    rw [hbn] at hb hb'
    split at hbb' <;> split at hbb' <;> omega
  · by_cases hbb : b' = h.bn
    · subst hbb
      have : cs = cs' := by simpa [H.alloc] using hcs'
      subst this
      exact .inr ⟨cs1, by simpa using hb1, hcs1, fun v hv => (hcs v hv).low _ _ _ _ _⟩
    · have h2 : h.bx b' = some cs' := by simpa [H.alloc, hbb] using hcs'
      have h3 : b' < h.bn := by rw [hbn] at hb'; omega
      exact .inl ⟨h3, (hf.bx b' h3 fun h => h).trans h2, h2⟩

end
end Go.Am

/- Running a frame's code forward; contracts of functions out of such runs. -/
namespace Go.Am
open Go Go.RowKit

/-- For the congruences: a hypothesis that is always simplified, so that what is to come is never looked into. -/
def tick : Nat := 0
@[simp] theorem tick_eq : tick = 0 := rfl

section
variable {P : Program} {inr : Bool} {k : List It} {Q : Res → Slots → H → Prop} {s : Slots} {h : H}

theorem ob_mono {α : Type} {o : Option α} {K K' : α → Prop} (hk : ∀ v, K v → K' v) (h : ob o K) : ob o K' := by
  cases o with
  | none => exact h
  | some v => exact hk v h
theorem wpI_mono {op : IOp} {e : Opd → AV} {h : H} {K K' : AV → H → Prop} (hk : ∀ v h1, K v h1 → K' v h1) (hw : wpI P op e h K) : wpI P op e h K' := by
  have hp : ob (pv op e h) (fun v => K v h) → ob (pv op e h) (fun v => K' v h) := ob_mono fun v => hk v h
  cases op with
  | alloc z => exact hk _ _ hw
  | box x => exact ob_mono (fun _ => hk _ _) hw
  | store n a x =>
    simp only [wpI, storeQ] at hw ⊢
    split at hw
    · rename_i b o ha
      exact ob_mono (fun cs h => ob_mono (fun xs h => ⟨h.1, hk _ _ h.2⟩) h) hw
    · exact hw
  | append sz b s x => obtain ⟨v, h1, q1, q2⟩ := hw; exact ⟨v, h1, q1, hk _ _ q2⟩
  | mksl sz b z l c => obtain ⟨v, h1, q1, q2⟩ := hw; exact ⟨v, h1, q1, hk _ _ q2⟩
  | clear sz z x =>
    simp only [wpI, clearQ] at hw ⊢
    split at hw
    · exact ob_mono (fun cs h => ⟨h.1, hk _ _ h.2⟩) hw
    · exact hw
  | mkmap => exact hk _ _ hw
  | mapup m k v =>
    simp only [wpI, mapupQ] at hw ⊢
    split at hw
    · exact ⟨hw.1, ob_mono (fun es h => ⟨h.1, ob_mono (fun _ => hk _ _) h.2⟩) hw.2⟩
    · exact hw
  | call f args => exact callQ_mono hk hw
  | _ => exact hp hw
theorem gd_mono {g : Option (Nat × Bool)} {s : Slots} {A A' B B' : Prop} (hA : A → A') (hB : B → B') (h : gd g s A B) : gd g s A' B' := by
  cases g with
  | none => exact hA h
  | some p =>
    obtain ⟨t, b⟩ := p
    simp only [gd, gdQ] at h ⊢
    split at h
    · rename_i c hc
      split at h
      · rename_i hcb; rw [if_pos hcb]; exact hA h
      · rename_i hcb; rw [if_neg hcb]; exact hB h
    · exact hB h
    · exact h
theorem RO_mono : ∀ {is : List Ins} {s : Slots} {h : H} {R R' : Slots → H → Prop}, (∀ s1 h1, R s1 h1 → R' s1 h1) → RO P is s h R → RO P is s h R'
  | [], _, _, _, _, hR, h => hR _ _ h
  | _ :: _, _, _, _, _, hR, h => gd_mono (wpI_mono fun _ _ => RO_mono hR) (RO_mono hR) h

@[simp ↓] theorem Run_nil : Run P inr [] Q s h = Q .norm s h := propext ⟨fun hr => by cases hr; assumption, .nil⟩
@[simp ↓] theorem Run_skip : Run P inr (.c .skip :: k) Q s h = Run P inr k Q s h := propext ⟨fun hr => by cases hr; assumption, .skip⟩
@[simp ↓] theorem Run_seq {a b : IR} : Run P inr (.c (.seq a b) :: k) Q s h = Run P inr (.c a :: .c b :: k) Q s h := propext ⟨fun hr => by cases hr; assumption, .seq⟩
@[simp ↓] theorem Run_blk {id : Nat} {b : IR} : Run P inr (.c (.blk id b) :: k) Q s h = Run P inr (.c b :: .blk id :: k) Q s h := propext ⟨fun hr => by cases hr; assumption, .blk⟩
@[simp ↓] theorem Run_blkEnd {id : Nat} : Run P inr (.blk id :: k) Q s h = Run P inr k Q s h := propext ⟨fun hr => by cases hr; assumption, .blkEnd⟩
@[simp ↓] theorem Run_scp {b : IR} : Run P inr (.c (.scp b) :: k) Q s h = Run P inr (.c b :: .scp :: k) Q s h := propext ⟨fun hr => by cases hr; assumption, .scp⟩
@[simp ↓] theorem Run_scpEnd : Run P inr (.scp :: k) Q s h = Run P inr k Q s h := propext ⟨fun hr => by cases hr; assumption, .scpEnd⟩
@[simp ↓] theorem Run_ret : Run P inr (.c .ret :: k) Q s h = Q .ret s h := propext ⟨fun hr => by cases hr; assumption, .ret⟩
@[simp ↓] theorem Run_reg {is : List Ins} : Run P inr (.c (.reg is) :: k) Q s h = RO P is s h fun s1 h1 => Run P inr k Q s1 h1 := propext ⟨fun hr => by
  cases hr with
  | reg R hr hR => exact RO_mono hR hr, fun hr => .reg _ hr fun _ _ h => h⟩
theorem run_dreg {is : List Ins} {aft : List (List Nat)} {ms : List Mark} (hf : drawFine is aft ms = true) (hr : RD P is ms s h [] [] fun s1 h1 => Run P inr k Q s1 h1) : Run P inr (.c (.dreg is aft) :: k) Q s h := by
  obtain ⟨s1, h1, q1, q2⟩ := draw_run hf hr
  exact .dreg (fun s h => Run P inr k Q s h) (fun t ht xs hx => ⟨s1, h1, q1 t ht xs hx, q2⟩) fun _ _ h => h

def exitQ (o : Option (List It)) (A : List It → Prop) (B : Prop) : Prop :=
  match o with
  | some k => A k
  | none => B
@[simp ↓] theorem exitQ_some {k : List It} {A : List It → Prop} {B : Prop} : exitQ (some k) A B = A k := rfl
@[simp ↓] theorem exitQ_none {A : List It → Prop} {B : Prop} : exitQ none A B = B := rfl
@[congr] theorem exitQ_congr {t0 : Nat} {o o' : Option (List It)} {A : List It → Prop} {B : Prop} (e : o = o') (_ : tick = t0) : exitQ o A B = exitQ o' A B := by rw [e]
@[simp ↓] theorem Run_exit {id : Nat} : Run P inr (.c (.exit id) :: k) Q s h = exitQ (exitA id k) (fun k' => Run P inr k' Q s h) (Q (.exit id) s h) := propext ⟨fun hr => by
    cases hr with
    | exit he hk => rw [he]; exact hk
    | exitOut he hq => rw [he]; exact hq, fun hq => by
    cases he : exitA id k with
    | none => rw [he] at hq; exact .exitOut he hq
    | some k' => rw [he] at hq; exact .exit he hq⟩
@[simp] theorem exitA_blk {id id' : Nat} {k : List It} : exitA id (.blk id' :: k) = if id' = id then some k else exitA id k := by simp [exitA]
@[simp] theorem exitA_c {id : Nat} {c : IR} {k : List It} : exitA id (.c c :: k) = exitA id k := by simp [exitA]
@[simp] theorem exitA_lp {id : Nat} {c : IR} {k : List It} : exitA id (.lp c :: k) = exitA id k := by simp [exitA]
@[simp] theorem exitA_scp {id : Nat} {k : List It} : exitA id (.scp :: k) = exitA id k := by simp [exitA]
@[simp] theorem exitA_beg {id l : Nat} {k : List It} : exitA id (.beg l :: k) = exitA id k := by simp [exitA]
@[simp] theorem exitA_nil {id : Nat} : exitA id [] = none := by simp [exitA]

theorem condQ_true {K : Bool → Prop} : condQ (.bool true) K = K true := rfl
theorem condQ_false {K : Bool → Prop} : condQ (.bool false) K = K false := rfl
theorem condQ_u {K : Bool → Prop} : condQ .ubool K = (K true ∧ K false) := rfl
attribute [simp ↓] condQ_true condQ_false condQ_u
@[congr] theorem condQ_congr {t0 : Nat} {v v' : AV} {K : Bool → Prop} (e : v = v') (_ : tick = t0) : condQ v K = condQ v' K := by rw [e]
@[simp ↓] theorem Run_cond {c : Opd} {x y : IR} : Run P inr (.c (.cond c x y) :: k) Q s h = condQ (ev s c) fun t => Run P inr (.c (if t then x else y) :: k) Q s h := propext ⟨fun hr => by
    cases hr with
    | cond he hk => rw [he]; exact hk
    | condU he h1 h2 => rw [he]; exact ⟨h1, h2⟩, fun hq => by
    simp only [condQ] at hq
    split at hq
    · rename_i b hb
      exact .cond hb hq
    · rename_i hb
      exact .condU hb hq.1 hq.2
    · exact hq.elim⟩
@[simp ↓] theorem Run_ifT {x y : IR} : Run P inr (.c (if true = true then x else y) :: k) Q s h = Run P inr (.c x :: k) Q s h := by simp only [if_true]
@[simp ↓] theorem Run_ifF {x y : IR} : Run P inr (.c (if false = true then x else y) :: k) Q s h = Run P inr (.c y :: k) Q s h := by simp only [Bool.false_eq_true, if_false]
theorem condQ_split {p : Prop} [Decidable p] {K : Bool → Prop} (h1 : p → K true) (h2 : ¬ p → K false) : condQ (.bool (decide p)) K := by
  by_cases hp : p
  · simp only [hp, decide_true]; exact h1 hp
  · simp only [hp, decide_false]; exact h2 hp
theorem condQ_split' {b : Bool} {K : Bool → Prop} (h1 : b = true → K true) (h2 : b = false → K false) : condQ (.bool b) K := by
  cases b
  · exact h2 rfl
  · exact h1 rfl

/-- A loop, by what stays true of it. -/
theorem run_loop {b : IR} (I : Nat → Slots → H → Prop) (hI : ∀ n s h, I n s h → (∀ m s1 h1, m < n → I m s1 h1 → Run P inr (.lp b :: k) Q s1 h1) → Run P inr (.c b :: .lp b :: k) Q s h) (n : Nat) (h0 : I n s h) : Run P inr (.c (.loop b) :: k) Q s h := by
  have key : ∀ n s h, I n s h → Run P inr (.c b :: .lp b :: k) Q s h := by
    intro n
    induction n using Nat.strongRecOn with
    | ind n ih => exact fun s h hi => hI n s h hi fun m s1 h1 hm hi1 => .lp (ih m hm s1 h1 hi1)
  exact .loop (key n s h h0)

/-! ### Reading off -/
@[simp ↓] theorem ob_some {α : Type} {v : α} {K : α → Prop} : ob (some v) K = K v := rfl
@[simp ↓] theorem ob_none {α : Type} {K : α → Prop} : ob none K = False := rfl
@[congr] theorem ob_congr {t0 : Nat} {α : Type} {o o' : Option α} {K : α → Prop} (e : o = o') (_ : tick = t0) : ob o K = ob o' K := by rw [e]
@[congr] theorem callQ_congr {t0 : Nat} {f f' : AV} {a a' : List AV} {h h1 : H} {K : AV → H → Prop} (e : f = f') (e' : a = a') (eh : h = h1) (_ : tick = t0) : callQ P f a h K = callQ P f' a' h1 K := by rw [e, e', eh]
@[congr] theorem appQ_congr {t0 : Nat} {sz by' : Nat} {x x' y y' : AV} {h h1 : H} {K : AV → H → Prop} (e : x = x') (e' : y = y') (eh : h = h1) (_ : tick = t0) : appQ h sz by' x y K = appQ h1 sz by' x' y' K := by rw [e, e', eh]
@[congr] theorem storeQ_congr {t0 : Nat} {n : Nat} {x x' y y' : AV} {h h1 : H} {K : AV → H → Prop} (e : x = x') (e' : y = y') (eh : h = h1) (_ : tick = t0) : storeQ h n x y K = storeQ h1 n x' y' K := by rw [e, e', eh]
@[congr] theorem mkQ_congr {t0 : Nat} {e : Opd → AV} {op : IOp} {h h1 : H} {K : AV → H → Prop} (eh : h = h1) (_ : tick = t0) : mkQ P e h op K = mkQ P e h1 op K := by rw [eh]

/-- A value, looked at first. -/
def vb (v : AV) (K : AV → Prop) : Prop := K v
@[congr] theorem vb_congr {t0 : Nat} {v v' : AV} {K : AV → Prop} (e : v = v') (_ : tick = t0) : vb v K = vb v' K := by rw [e]
@[simp] theorem vb_eq {v : AV} {K : AV → Prop} : vb v K = K v := rfl

@[simp ↓] theorem RO_nil {Q : Slots → H → Prop} : RO P [] s h Q = Q s h := rfl
@[simp ↓] theorem RO_cons {d : Option Nat} {op : IOp} {is : List Ins} {Q : Slots → H → Prop} : RO P (⟨d, none, op⟩ :: is) s h Q = wpI P op (ev s) h fun v h1 => RO P is (put s d v) h1 Q := rfl
theorem RO_guard {d : Option Nat} {op : IOp} {t : Nat} {b : Bool} {is : List Ins} {Q : Slots → H → Prop} : RO P (⟨d, some (t, b), op⟩ :: is) s h Q = gdQ (s t) b (wpI P op (ev s) h fun v h1 => RO P is (put s d v) h1 Q) (RO P is (put s d .skp) h Q) := rfl
@[congr] theorem gdQ_congr {t0 : Nat} {v v' : AV} {b : Bool} {A B : Prop} (e : v = v') (_ : tick = t0) : gdQ v b A B = gdQ v' b A B := by rw [e]
@[simp ↓] theorem gdQ_tt {A B : Prop} : gdQ (.bool true) true A B = A := by simp [gdQ]
@[simp ↓] theorem gdQ_skp {b : Bool} {A B : Prop} : gdQ .skp b A B = B := rfl
@[simp ↓] theorem gdQ_tf {A B : Prop} : gdQ (.bool true) false A B = B := by simp [gdQ]
@[simp ↓] theorem gdQ_ft {A B : Prop} : gdQ (.bool false) true A B = B := by simp [gdQ]
@[simp ↓] theorem gdQ_ff {A B : Prop} : gdQ (.bool false) false A B = A := by simp [gdQ]

@[simp ↓] theorem RD_nil {ms : List Mark} {h0 : H} {hist : List H} {obl : List Obl} {Q : Slots → H → Prop} : RD P [] ms s h0 hist obl Q = ((∀ o ∈ obl, o.ok (h0 :: hist)) ∧ Q s (lastH h0 hist)) := by cases ms <;> rfl
@[simp ↓] theorem RD_heavy {d : Option Nat} {op : IOp} {is : List Ins} {lo hi : Nat} {ms : List Mark} {h0 : H} {hist : List H} {obl : List Obl} {Q : Slots → H → Prop} :
    RD P (⟨d, none, op⟩ :: is) (⟨true, lo, hi⟩ :: ms) s h0 hist obl Q = wpD P op (ev s) (lastH h0 hist) fun v h1 => RD P is ms (put s d v) h0 (hist ++ [h1]) obl Q := rfl
@[simp ↓] theorem RD_heavyG {d : Option Nat} {op : IOp} {t : Nat} {b : Bool} {is : List Ins} {lo hi : Nat} {ms : List Mark} {h0 : H} {hist : List H} {obl : List Obl} {Q : Slots → H → Prop} :
    RD P (⟨d, some (t, b), op⟩ :: is) (⟨true, lo, hi⟩ :: ms) s h0 hist obl Q = gdQ (s t) b (wpD P op (ev s) (lastH h0 hist) fun v h1 => RD P is ms (put s d v) h0 (hist ++ [h1]) obl Q) (RD P is ms (put s d .skp) h0 (hist ++ [lastH h0 hist]) obl Q) := rfl

/-- A light operation of a drawn region. -/
def wpL (P : Program) (op : IOp) (s : Slots) (h0 : H) (hist : List H) (lo hi : Nat) (obl : List Obl) (K : AV → List Obl → Prop) : Prop :=
  match op with
  | .load n ag y => ob (pv (.load n ag y) (ev s) (lastH h0 hist)) fun v => K v (⟨lo, hi, fun h => pv (.load n ag y) (ev s) h = some v⟩ :: obl)
  | .lookup z m k ok => ob (pv (.lookup z m k ok) (ev s) (lastH h0 hist)) fun v => K v (⟨lo, hi, fun h => pv (.lookup z m k ok) (ev s) h = some v⟩ :: obl)
  | .call f args => ∃ v, (∀ h, CallR P (ev s f) (args.map (ev s)) h v h) ∧ K v obl
  | .append sz b y z => ∃ v, (∀ h, AppR h sz b (ev s y) (ev s z) v h) ∧ K v obl
  | .mksl sz b z l c => ∃ v, (∀ h, InsR P (ev s) h (.mksl sz b z l c) v h) ∧ K v obl
  | .alloc _ | .box _ | .store .. | .mkmap | .mapup .. => False
  | op => ob (pv op (ev s) h0) fun v => K v obl
theorem RD_light0 {x : Ins} {is : List Ins} {lo hi : Nat} {ms : List Mark} {h0 : H} {hist : List H} {obl : List Obl} {Q : Slots → H → Prop} :
    RD P (x :: is) (⟨false, lo, hi⟩ :: ms) s h0 hist obl Q = gd x.g s (wpL P x.op s h0 hist lo hi obl fun v obl => RD P is ms (put s x.dst v) h0 hist obl Q) (RD P is ms (put s x.dst .skp) h0 hist obl Q) := by
  obtain ⟨d, g, op⟩ := x
  cases op <;> rfl
@[simp ↓] theorem RD_light {d : Option Nat} {op : IOp} {is : List Ins} {lo hi : Nat} {ms : List Mark} {h0 : H} {hist : List H} {obl : List Obl} {Q : Slots → H → Prop} :
    RD P (⟨d, none, op⟩ :: is) (⟨false, lo, hi⟩ :: ms) s h0 hist obl Q = wpL P op s h0 hist lo hi obl fun v obl => RD P is ms (put s d v) h0 hist obl Q := RD_light0
@[simp ↓] theorem RD_lightG {d : Option Nat} {op : IOp} {t : Nat} {b : Bool} {is : List Ins} {lo hi : Nat} {ms : List Mark} {h0 : H} {hist : List H} {obl : List Obl} {Q : Slots → H → Prop} :
    RD P (⟨d, some (t, b), op⟩ :: is) (⟨false, lo, hi⟩ :: ms) s h0 hist obl Q = gdQ (s t) b (wpL P op s h0 hist lo hi obl fun v obl => RD P is ms (put s d v) h0 hist obl Q) (RD P is ms (put s d .skp) h0 hist obl Q) := RD_light0

/-- A call in a drawn region that changes nothing. -/
def lcallQ (P : Program) (f : AV) (args : List AV) (K : AV → Prop) : Prop := ∃ v, (∀ h, CallR P f args h v h) ∧ K v
@[congr] theorem lcallQ_congr {t0 : Nat} {f f' : AV} {a a' : List AV} {K : AV → Prop} (e : f = f') (e' : a = a') (_ : tick = t0) : lcallQ P f a K = lcallQ P f' a' K := by rw [e, e']

@[congr] theorem callD_congr {t0 : Nat} {f f' : AV} {a a' : List AV} {h h1 : H} {K : AV → H → Prop} (e : f = f') (e' : a = a') (eh : h = h1) (_ : tick = t0) : callD P f a h K = callD P f' a' h1 K := by rw [e, e', eh]
@[congr] theorem mapupQ_congr {t0 : Nat} {m m' x x' y y' : AV} {h h1 : H} {K : AV → H → Prop} (em : m = m') (e : x = x') (e' : y = y') (eh : h = h1) (_ : tick = t0) : mapupQ h m x y K = mapupQ h1 m' x' y' K := by rw [em, e, e', eh]
section dops
variable {K : AV → H → Prop} {e : Opd → AV}
@[simp ↓] theorem wpD_alloc {z : List AV} : wpD P (.alloc z) e h K = K (.ptr h.bn 0) (h.alloc z) := rfl
@[simp ↓] theorem wpD_box {x : Opd} : wpD P (.box x) e h K = ob (boxCells (e x)) fun cs => K (.ptr h.bn 0) (h.alloc cs) := rfl
@[simp ↓] theorem wpD_store {n : Nat} {a x : Opd} : wpD P (.store n a x) e h K = storeQ h n (e a) (e x) K := rfl
@[simp ↓] theorem wpD_append {sz b : Nat} {x y : Opd} : wpD P (.append sz b x y) e h K = appQ h sz b (e x) (e y) K := rfl
@[simp ↓] theorem wpD_call {f : Opd} {a : List Opd} : wpD P (.call f a) e h K = callD P (e f) (a.map e) h K := rfl
@[simp ↓] theorem wpD_mksl {sz b : Nat} {z : List AV} {l c : Opd} : wpD P (.mksl sz b z l c) e h K = mkQ P e h (.mksl sz b z l c) K := rfl
@[simp ↓] theorem wpD_mkmap : wpD P .mkmap e h K = K (.map h.mn) h.newMap := rfl
@[simp ↓] theorem wpD_mapup {m k v : Opd} : wpD P (.mapup m k v) e h K = mapupQ h (e m) (e k) (e v) K := rfl
end dops

section ops
variable {K : AV → H → Prop} {e : Opd → AV}
@[simp ↓] theorem wpI_alloc {z : List AV} : wpI P (.alloc z) e h K = K (.ptr h.bn 0) (h.alloc z) := rfl
@[simp ↓] theorem wpI_box {x : Opd} : wpI P (.box x) e h K = ob (boxCells (e x)) fun cs => K (.ptr h.bn 0) (h.alloc cs) := rfl
@[simp ↓] theorem wpI_store {n : Nat} {a x : Opd} : wpI P (.store n a x) e h K = storeQ h n (e a) (e x) K := rfl
@[simp ↓] theorem wpI_append {sz b : Nat} {x y : Opd} : wpI P (.append sz b x y) e h K = appQ h sz b (e x) (e y) K := rfl
@[simp ↓] theorem wpI_call {f : Opd} {a : List Opd} : wpI P (.call f a) e h K = callQ P (e f) (a.map e) h K := rfl
@[simp ↓] theorem wpI_mkmap : wpI P .mkmap e h K = K (.map h.mn) h.newMap := rfl
@[simp ↓] theorem wpI_mapup {m k v : Opd} : wpI P (.mapup m k v) e h K = mapupQ h (e m) (e k) (e v) K := rfl
@[simp ↓] theorem wpI_mksl {sz b : Nat} {z : List AV} {l c : Opd} : wpI P (.mksl sz b z l c) e h K = mkQ P e h (.mksl sz b z l c) K := rfl
@[simp ↓] theorem wpI_mov {x : Opd} : wpI P (.mov x) e h K = vb (e x) fun v => K v h := rfl
@[simp ↓] theorem wpI_pick {c a b : Opd} : wpI P (.pick c a b) e h K = ob (pv (.pick c a b) e h) fun v => K v h := rfl
@[simp ↓] theorem wpI_build {z : List AV} {ps : List (Nat × Nat × Opd)} : wpI P (.build z ps) e h K = ob (pv (.build z ps) e h) fun v => K v h := rfl
@[simp ↓] theorem wpI_bsl {sz l : Nat} {z : List AV} {ps : List (Nat × Opd)} : wpI P (.bsl sz l z ps) e h K = ob (pv (.bsl sz l z ps) e h) fun v => K v h := rfl
@[simp ↓] theorem wpI_load {n : Nat} {ag : Bool} {x : Opd} : wpI P (.load n ag x) e h K = ob (pv (.load n ag x) e h) fun v => K v h := rfl
@[simp ↓] theorem wpI_bin {o : BinOp} {x y : Opd} : wpI P (.bin o x y) e h K = ob (binA o (e x) (e y)) fun v => K v h := rfl
@[simp ↓] theorem wpI_eq {ks : List LK} {a n : Bool} {x y : Opd} : wpI P (.eq ks a n x y) e h K = ob (pv (.eq ks a n x y) e h) fun v => K v h := rfl
@[simp ↓] theorem wpI_un {o : UnOp} {x : Opd} : wpI P (.un o x) e h K = ob (unA o (e x)) fun v => K v h := rfl
@[simp ↓] theorem wpI_conv {k : IntKind} {x : Opd} : wpI P (.conv k x) e h K = ob (pv (.conv k x) e h) fun v => K v h := rfl
@[simp ↓] theorem wpI_b2s {x : Opd} : wpI P (.b2s x) e h K = ob (pv (.b2s x) e h) fun v => K v h := rfl
@[simp ↓] theorem wpI_s2b {x : Opd} : wpI P (.s2b x) e h K = ob (pv (.s2b x) e h) fun v => K v h := rfl
@[simp ↓] theorem wpI_faddr {o : Nat} {x : Opd} : wpI P (.faddr o x) e h K = ob (pv (.faddr o x) e h) fun v => K v h := rfl
@[simp ↓] theorem wpI_fld {o n : Nat} {a : Bool} {x : Opd} : wpI P (.fld o n a x) e h K = ob (pv (.fld o n a x) e h) fun v => K v h := rfl
@[simp ↓] theorem wpI_iaddr {n : Nat} {x i : Opd} : wpI P (.iaddr n x i) e h K = ob (pv (.iaddr n x i) e h) fun v => K v h := rfl
@[simp ↓] theorem wpI_iaddrA {l n : Nat} {x i : Opd} : wpI P (.iaddrA l n x i) e h K = ob (pv (.iaddrA l n x i) e h) fun v => K v h := rfl
@[simp ↓] theorem wpI_idxS {x i : Opd} : wpI P (.idxS x i) e h K = ob (pv (.idxS x i) e h) fun v => K v h := rfl
@[simp ↓] theorem wpI_idxA {l n : Nat} {a : Bool} {x i : Opd} : wpI P (.idxA l n a x i) e h K = ob (pv (.idxA l n a x i) e h) fun v => K v h := rfl
@[simp ↓] theorem wpI_slice {n : Nat} {x : Opd} {a b c : Option Opd} : wpI P (.slice n x a b c) e h K = ob (pv (.slice n x a b c) e h) fun v => K v h := rfl
@[simp ↓] theorem wpI_sliceS {x : Opd} {a b : Option Opd} : wpI P (.sliceS x a b) e h K = ob (pv (.sliceS x a b) e h) fun v => K v h := rfl
@[simp ↓] theorem wpI_ext {x : Opd} {n : Nat} : wpI P (.ext x n) e h K = ob (pv (.ext x n) e h) fun v => K v h := rfl
@[simp ↓] theorem wpI_mkfn {f : FuncId} {a b : List Opd} : wpI P (.mkfn f a b) e h K = vb (.fn f (a.map e) (b.map e)) fun v => K v h := rfl
@[simp ↓] theorem wpI_nilck {x : Opd} : wpI P (.nilck x) e h K = ob (pv (.nilck x) e h) fun v => K v h := rfl
@[simp ↓] theorem wpI_isnil {n : Bool} {x : Opd} : wpI P (.isnil n x) e h K = ob (pv (.isnil n x) e h) fun v => K v h := rfl
@[simp ↓] theorem wpI_len {x : Opd} : wpI P (.len x) e h K = ob (pv (.len x) e h) fun v => K v h := rfl
@[simp ↓] theorem wpI_cap {x : Opd} : wpI P (.cap x) e h K = ob (pv (.cap x) e h) fun v => K v h := rfl
@[simp ↓] theorem wpI_clear {n : Nat} {z : List AV} {x : Opd} : wpI P (.clear n z x) e h K = clearQ h n z (e x) K := rfl
@[simp ↓] theorem wpI_lenS {x : Opd} : wpI P (.lenS x) e h K = ob (pv (.lenS x) e h) fun v => K v h := rfl
@[simp ↓] theorem wpI_lenA {n : Nat} : wpI P (.lenA n) e h K = K (.int .i64 n) h := rfl
@[simp ↓] theorem wpI_mn {xs : List Opd} : wpI P (.mn xs) e h K = ob (pv (.mn xs) e h) fun v => K v h := rfl
@[simp ↓] theorem wpI_mx {xs : List Opd} : wpI P (.mx xs) e h K = ob (pv (.mx xs) e h) fun v => K v h := rfl
@[simp ↓] theorem wpI_lookup {z : AV} {m k : Opd} {b : Bool} : wpI P (.lookup z m k b) e h K = ob (pv (.lookup z m k b) e h) fun v => K v h := rfl
end ops

section lops
variable {K : AV → List Obl → Prop} {h0 : H} {hist : List H} {lo hi : Nat} {obl : List Obl}
@[simp ↓] theorem wpL_load {n : Nat} {ag : Bool} {x : Opd} : wpL P (.load n ag x) s h0 hist lo hi obl K = ob (pv (.load n ag x) (ev s) (lastH h0 hist)) fun v => K v (⟨lo, hi, fun h => pv (.load n ag x) (ev s) h = some v⟩ :: obl) := rfl
@[simp ↓] theorem wpL_lookup {z : AV} {m k : Opd} {b : Bool} : wpL P (.lookup z m k b) s h0 hist lo hi obl K = ob (pv (.lookup z m k b) (ev s) (lastH h0 hist)) fun v => K v (⟨lo, hi, fun h => pv (.lookup z m k b) (ev s) h = some v⟩ :: obl) := rfl
@[simp ↓] theorem wpL_call {f : Opd} {a : List Opd} : wpL P (.call f a) s h0 hist lo hi obl K = lcallQ P (ev s f) (a.map (ev s)) fun v => K v obl := rfl
@[simp ↓] theorem wpL_mov {x : Opd} : wpL P (.mov x) s h0 hist lo hi obl K = vb (ev s x) fun v => K v obl := rfl
@[simp ↓] theorem wpL_pick {c a b : Opd} : wpL P (.pick c a b) s h0 hist lo hi obl K = ob (pv (.pick c a b) (ev s) h0) fun v => K v obl := rfl
@[simp ↓] theorem wpL_build {z : List AV} {ps : List (Nat × Nat × Opd)} : wpL P (.build z ps) s h0 hist lo hi obl K = ob (pv (.build z ps) (ev s) h0) fun v => K v obl := rfl
@[simp ↓] theorem wpL_bsl {sz l : Nat} {z : List AV} {ps : List (Nat × Opd)} : wpL P (.bsl sz l z ps) s h0 hist lo hi obl K = ob (pv (.bsl sz l z ps) (ev s) h0) fun v => K v obl := rfl
@[simp ↓] theorem wpL_bin {o : BinOp} {x y : Opd} : wpL P (.bin o x y) s h0 hist lo hi obl K = ob (binA o (ev s x) (ev s y)) fun v => K v obl := rfl
@[simp ↓] theorem wpL_eq {ks : List LK} {a n : Bool} {x y : Opd} : wpL P (.eq ks a n x y) s h0 hist lo hi obl K = ob (pv (.eq ks a n x y) (ev s) h0) fun v => K v obl := rfl
@[simp ↓] theorem wpL_un {o : UnOp} {x : Opd} : wpL P (.un o x) s h0 hist lo hi obl K = ob (unA o (ev s x)) fun v => K v obl := rfl
@[simp ↓] theorem wpL_conv {k : IntKind} {x : Opd} : wpL P (.conv k x) s h0 hist lo hi obl K = ob (pv (.conv k x) (ev s) h0) fun v => K v obl := rfl
@[simp ↓] theorem wpL_b2s {x : Opd} : wpL P (.b2s x) s h0 hist lo hi obl K = ob (pv (.b2s x) (ev s) h0) fun v => K v obl := rfl
@[simp ↓] theorem wpL_faddr {o : Nat} {x : Opd} : wpL P (.faddr o x) s h0 hist lo hi obl K = ob (pv (.faddr o x) (ev s) h0) fun v => K v obl := rfl
@[simp ↓] theorem wpL_fld {o n : Nat} {a : Bool} {x : Opd} : wpL P (.fld o n a x) s h0 hist lo hi obl K = ob (pv (.fld o n a x) (ev s) h0) fun v => K v obl := rfl
@[simp ↓] theorem wpL_iaddr {n : Nat} {x i : Opd} : wpL P (.iaddr n x i) s h0 hist lo hi obl K = ob (pv (.iaddr n x i) (ev s) h0) fun v => K v obl := rfl
@[simp ↓] theorem wpL_iaddrA {l n : Nat} {x i : Opd} : wpL P (.iaddrA l n x i) s h0 hist lo hi obl K = ob (pv (.iaddrA l n x i) (ev s) h0) fun v => K v obl := rfl
@[simp ↓] theorem wpL_idxS {x i : Opd} : wpL P (.idxS x i) s h0 hist lo hi obl K = ob (pv (.idxS x i) (ev s) h0) fun v => K v obl := rfl
@[simp ↓] theorem wpL_idxA {l n : Nat} {a : Bool} {x i : Opd} : wpL P (.idxA l n a x i) s h0 hist lo hi obl K = ob (pv (.idxA l n a x i) (ev s) h0) fun v => K v obl := rfl
@[simp ↓] theorem wpL_slice {n : Nat} {x : Opd} {a b c : Option Opd} : wpL P (.slice n x a b c) s h0 hist lo hi obl K = ob (pv (.slice n x a b c) (ev s) h0) fun v => K v obl := rfl
@[simp ↓] theorem wpL_sliceS {x : Opd} {a b : Option Opd} : wpL P (.sliceS x a b) s h0 hist lo hi obl K = ob (pv (.sliceS x a b) (ev s) h0) fun v => K v obl := rfl
@[simp ↓] theorem wpL_ext {x : Opd} {n : Nat} : wpL P (.ext x n) s h0 hist lo hi obl K = ob (pv (.ext x n) (ev s) h0) fun v => K v obl := rfl
@[simp ↓] theorem wpL_nilck {x : Opd} : wpL P (.nilck x) s h0 hist lo hi obl K = ob (pv (.nilck x) (ev s) h0) fun v => K v obl := rfl
@[simp ↓] theorem wpL_isnil {n : Bool} {x : Opd} : wpL P (.isnil n x) s h0 hist lo hi obl K = ob (pv (.isnil n x) (ev s) h0) fun v => K v obl := rfl
@[simp ↓] theorem wpL_len {x : Opd} : wpL P (.len x) s h0 hist lo hi obl K = ob (pv (.len x) (ev s) h0) fun v => K v obl := rfl
@[simp ↓] theorem wpL_lenS {x : Opd} : wpL P (.lenS x) s h0 hist lo hi obl K = ob (pv (.lenS x) (ev s) h0) fun v => K v obl := rfl
@[simp ↓] theorem wpL_lenA {n : Nat} : wpL P (.lenA n) s h0 hist lo hi obl K = K (.int .i64 n) obl := rfl
@[simp ↓] theorem wpL_mn {xs : List Opd} : wpL P (.mn xs) s h0 hist lo hi obl K = ob (pv (.mn xs) (ev s) h0) fun v => K v obl := rfl
@[simp ↓] theorem wpL_mx {xs : List Opd} : wpL P (.mx xs) s h0 hist lo hi obl K = ob (pv (.mx xs) (ev s) h0) fun v => K v obl := rfl
end lops

@[simp] theorem put_none {v : AV} : put s none v = s := rfl
@[simp] theorem put_some {d : Nat} {v : AV} : put s (some d) v = su s d v := rfl
@[simp] theorem ev_t {i : Nat} : ev s (.t i) = s i := rfl
@[simp] theorem ev_c {v : AV} : ev s (.c v) = v := rfl
attribute [simp] su_get
@[simp] theorem slots0_get {args : List AV} {i : Nat} : slots0 args i = args.getD i .undef := rfl

@[simp] theorem alloc_bn {cs : List AV} : (h.alloc cs).bn = h.bn + 1 := rfl
@[simp] theorem alloc_bx {cs : List AV} {b : Nat} : (h.alloc cs).bx b = if b = h.bn then some cs else h.bx b := rfl
@[simp] theorem alloc_tn {cs : List AV} : (h.alloc cs).tn = h.tn := rfl
@[simp] theorem alloc_tk {cs : List AV} : (h.alloc cs).tk = h.tk := rfl
@[simp] theorem alloc_ln {cs : List AV} : (h.alloc cs).ln = h.ln := rfl
@[simp] theorem alloc_lp {cs : List AV} : (h.alloc cs).lp = h.lp := rfl
@[simp] theorem alloc_mn {cs : List AV} : (h.alloc cs).mn = h.mn := rfl
@[simp] theorem alloc_mp {cs : List AV} : (h.alloc cs).mp = h.mp := rfl
@[simp] theorem set_bn {b : Nat} {cs : List AV} : (h.set b cs).bn = h.bn := rfl
@[simp] theorem set_bx {b : Nat} {cs : List AV} {b' : Nat} : (h.set b cs).bx b' = if b' = b then some cs else h.bx b' := rfl
@[simp] theorem set_tn {b : Nat} {cs : List AV} : (h.set b cs).tn = h.tn := rfl
@[simp] theorem set_tk {b : Nat} {cs : List AV} : (h.set b cs).tk = h.tk := rfl
@[simp] theorem set_ln {b : Nat} {cs : List AV} : (h.set b cs).ln = h.ln := rfl
@[simp] theorem set_lp {b : Nat} {cs : List AV} : (h.set b cs).lp = h.lp := rfl
@[simp] theorem set_mn {b : Nat} {cs : List AV} : (h.set b cs).mn = h.mn := rfl
@[simp] theorem set_mp {b : Nat} {cs : List AV} : (h.set b cs).mp = h.mp := rfl
@[simp] theorem newTok_bn {n : Nat} : (h.newTok n).bn = h.bn := rfl
@[simp] theorem newTok_bx {n : Nat} : (h.newTok n).bx = h.bx := rfl
@[simp] theorem newTok_tn {n : Nat} : (h.newTok n).tn = h.tn + 1 := rfl
@[simp] theorem newTok_tk {n i : Nat} : (h.newTok n).tk i = if i = h.tn then n else h.tk i := rfl
@[simp] theorem newTok_ln {n : Nat} : (h.newTok n).ln = h.ln := rfl
@[simp] theorem newTok_lp {n : Nat} : (h.newTok n).lp = h.lp := rfl
@[simp] theorem newTok_mn {n : Nat} : (h.newTok n).mn = h.mn := rfl
@[simp] theorem newTok_mp {n : Nat} : (h.newTok n).mp = h.mp := rfl
@[simp] theorem setTok_bn {i n : Nat} : (h.setTok i n).bn = h.bn := rfl
@[simp] theorem setTok_bx {i n : Nat} : (h.setTok i n).bx = h.bx := rfl
@[simp] theorem setTok_tn {i n : Nat} : (h.setTok i n).tn = h.tn := rfl
@[simp] theorem setTok_tk {i n j : Nat} : (h.setTok i n).tk j = if j = i then n else h.tk j := rfl
@[simp] theorem setTok_ln {i n : Nat} : (h.setTok i n).ln = h.ln := rfl
@[simp] theorem setTok_lp {i n : Nat} : (h.setTok i n).lp = h.lp := rfl
@[simp] theorem setTok_mn {i n : Nat} : (h.setTok i n).mn = h.mn := rfl
@[simp] theorem setTok_mp {i n : Nat} : (h.setTok i n).mp = h.mp := rfl
@[simp] theorem lastH_nil {h0 : H} : lastH h0 [] = h0 := rfl
@[simp] theorem lastH_cons {h0 h1 : H} {l : List H} : lastH h0 (h1 :: l) = lastH h1 l := rfl

theorem storeQ_ptr {n b o : Nat} {x : AV} {K : AV → H → Prop} : storeQ h n (.ptr b o) x K = ob (h.bx b) fun cs => ob (fit n x) fun xs => (b < h.bn ∧ o + n ≤ cs.length) ∧ K .undef (h.set b (cs.take o ++ xs ++ cs.drop (o + n))) := rfl
attribute [simp] storeQ_ptr
attribute [simp] pv binA unA intBin unCells fit boxCells idxOf bndOf eqA cellEq cellsEq fillA rowA minA maxA foldA tokCut resA tupA

theorem idxOf_nat {k : IntKind} {j n : Nat} (h : j < n) : idxOf (.int k (j : Int)) n = some j := by
  simp only [idxOf]
  rw [if_pos ⟨by omega, by omega⟩]
  simp

@[simp] theorem Obl_ok {lo hi : Nat} {p : H → Prop} {hist : List H} : Obl.ok ⟨lo, hi, p⟩ hist = ∀ h ∈ (hist.drop lo).take (hi + 1 - lo), p h := rfl
theorem natCast_eq {a b : Nat} : ((a : Int) = (b : Int)) = (a = b) := propext ⟨fun h => by omega, fun h => by rw [h]⟩
attribute [simp] natCast_eq
attribute [simp] wk wkL_map wkLL_map ok1

/-! ### Contracts out of runs -/
theorem CallP.run {f : FuncId} {F : FnA} {args : List AV} {h : H} {K : AV → H → Prop} (hb : HasBody P f) (hf : cFn P f = some F) (hargs : args.length ≤ F.N) (hr : Run P false [.c F.body] (retQ F.res K) (slots0 args) h) : CallP P f args h K := CallP.body hb hf hargs hr

theorem HF.nil (h : H) (B T : Nat → Prop) : HF H.nil h B T :=
  ⟨Nat.zero_le _, fun _ hb => absurd hb (Nat.not_lt_zero _), Nat.zero_le _, fun _ hb => absurd hb (Nat.not_lt_zero _), Nat.zero_le _, fun _ hb => absurd hb (Nat.not_lt_zero _), Nat.zero_le _, fun _ hb => absurd hb (Nat.not_lt_zero _)⟩

theorem PCall.of {f : FuncId} {args : List AV} {r : AV} (hc : CallP P f args H.nil fun r' _ => Am.wk r' = r) (hp : ∀ v ∈ args, PureV v) (hpr : PureV r) : PCall P f args r :=
  fun h => SCall.pure (SCall.ro (hc.mono fun _ h1 e => ⟨e, HF.nil h1 _ _⟩) hpr) hp hpr h

theorem PCall.run {f : FuncId} {F : FnA} {args : List AV} {r : AV} (hb : HasBody P f) (hf : cFn P f = some F) (hargs : args.length ≤ F.N) (hp : ∀ v ∈ args, PureV v) (hpr : PureV r)
    (hr : Run P false [.c F.body] (retQ F.res fun r' _ => Am.wk r' = r) (slots0 args) H.nil) : PCall P f args r := PCall.of (CallP.body hb hf hargs hr) hp hpr

/-- A pure function, whatever the ghost does at its end. -/
theorem PCall.run' {f : FuncId} {F : FnA} {args : List AV} {r : AV} (hb : HasBody P f) (hf : cFn P f = some F) (hargs : args.length ≤ F.N) (hp : ∀ v ∈ args, PureV v) (hpr : PureV r) (hw : Am.wk r = r)
    (hr : Run P false [.c F.body] (retQ F.res fun r' h1 => ∃ h', Gh h1 r' h' r) (slots0 args) H.nil) : PCall P f args r :=
  PCall.of ((CallP.body hb hf hargs hr).gh fun _ _ ⟨h', hg⟩ => ⟨h', r, hg, hw⟩) hp hpr

theorem wrap_i64 {x : Int} (h1 : -9223372036854775808 ≤ x) (h2 : x ≤ 9223372036854775807) : IntKind.i64.wrap x = x := by
  have e : IntKind.i64.wrap x = (if 9223372036854775808 ≤ x % 18446744073709551616 then x % 18446744073709551616 - 18446744073709551616 else x % 18446744073709551616) := by
    simp [IntKind.wrap, IntKind.bits, IntKind.signed]
  rw [e]
  omega
theorem wrap_u64 {x : Int} (h1 : 0 ≤ x) (h2 : x ≤ 18446744073709551615) : IntKind.u64.wrap x = x := by
  have e : IntKind.u64.wrap x = x % 18446744073709551616 := by
    simp [IntKind.wrap, IntKind.bits, IntKind.signed]
  rw [e]
  omega

theorem callQ_of {F : FuncId} {first caps args : List AV} {h : H} {r : AV} {h1 : H} {K : AV → H → Prop} (hc : SCall P F (first ++ args ++ caps) h r h1) (hk : K r h1) : callQ P (.fn F first caps) args h K := hc.callP hk
theorem callQ_s {F : FuncId} {first caps args as' : List AV} {h : H} {r : AV} {h1 : H} {K : AV → H → Prop} (hc : SCall P F as' h r h1) (ha : (first ++ args ++ caps).map wk = as') (hk : K r h1) : callQ P (.fn F first caps) args h K := by
  subst ha
  exact (SCall.callP hc hk).wk
theorem callQ_c {F : FuncId} {first caps args as' : List AV} {h : H} {Z K : AV → H → Prop} (hc : CallP P F as' h Z) (ha : (first ++ args ++ caps).map wk = as') (hk : ∀ r h1, Z r h1 → K r h1) : callQ P (.fn F first caps) args h K := by
  subst ha
  exact (hc.mono hk).wk
theorem callQ_ex {F : FuncId} {first caps args : List AV} {h : H} {Z : AV → H → Prop} {K : AV → H → Prop} (hc : CallP P F (first ++ args ++ caps) h Z) (hk : ∀ r h1, Z r h1 → K r h1) : callQ P (.fn F first caps) args h K := hc.mono hk
theorem callQ_p {F : FuncId} {first caps args as' : List AV} {h : H} {r : AV} {K : AV → H → Prop} (hc : PCall P F as' r) (ha : (first ++ args ++ caps).map wk = as') (hk : K r h) : callQ P (.fn F first caps) args h K := callQ_s (hc h) ha hk
theorem callD_s {F : FuncId} {first caps args as' : List AV} {h : H} {r : AV} {h1 : H} {K : AV → H → Prop} (hc : SCall P F as' h r h1) (ha : (first ++ args ++ caps).map wk = as') (hk : K r h1) : callD P (.fn F first caps) args h K :=
  ⟨r, h1, SCall.wk (by rw [ha]; exact hc), hk⟩
theorem callD_p {F : FuncId} {first caps args as' : List AV} {h : H} {r : AV} {K : AV → H → Prop} (hc : PCall P F as' r) (ha : (first ++ args ++ caps).map wk = as') (hk : K r h) : callD P (.fn F first caps) args h K := callD_s (hc h) ha hk
theorem lcallQ_p {F : FuncId} {first caps args as' : List AV} {r : AV} {K : AV → Prop} (hc : PCall P F as' r) (ha : (first ++ args ++ caps).map wk = as') (hk : K r) : lcallQ P (.fn F first caps) args K :=
  ⟨r, fun h => SCall.wk (by rw [ha]; exact hc h), hk⟩
theorem callQ_y {l : Nat} {args : List AV} {h : H} {K : AV → H → Prop} {q : LoopA} (hl : l < h.ln) (hq : h.lp l = some q) (hn : args.length = q.ps.length)
    (hr : Run P true [.c q.assign, .beg l, .c q.body] (roundQ l K) (slotsP q.s q.ps args) h) : callQ P (.yld l) args h K := ⟨hl, YldP.of hl hq hn hr⟩
@[simp ↓] theorem Run_beg {l : Nat} : Run P inr (.beg l :: k) Q s h = (l < h.ln ∧ ob (h.lp l) fun q => q.st = .ready ∧ Run P inr k Q s (h.setLoop l (some { q with st := .busy }))) := propext ⟨fun hr => by
    cases hr with
    | beg h1 h2 h3 h4 => rw [h2]; exact ⟨h1, h3, h4⟩, fun hr => by
    obtain ⟨h1, hr⟩ := hr
    cases hq : h.lp l with
    | none => rw [hq] at hr; exact hr.elim
    | some q => rw [hq] at hr; exact .beg h1 hq hr.1 hr.2⟩

end
end Go.Am

/- What a state keeps; slices that grow; a slice that is no longer written to. -/
namespace Go.Am
open Go Go.RowKit

theorem HF.refl (h : H) (B T : Nat → Prop) : HF h h B T := ⟨Nat.le_refl _, fun _ _ _ => rfl, Nat.le_refl _, fun _ _ _ => rfl, Nat.le_refl _, fun _ _ => rfl, Nat.le_refl _, fun _ _ => rfl⟩
theorem HF.mono {h h' : H} {B B' T T' : Nat → Prop} (e : HF h h' B T) (hB : ∀ b, b < h.bn → B b → B' b) (hT : ∀ i, i < h.tn → T i → T' i) : HF h h' B' T' :=
  ⟨e.bn, fun b hb hn => e.bx b hb fun h => hn (hB b hb h), e.tn, fun i hi hn => e.tk i hi fun h => hn (hT i hi h), e.ln, e.lp, e.mn, e.mp⟩
theorem HF.trans' {h h1 h2 : H} {B T B1 T1 : Nat → Prop} (e : HF h h1 B T) (f : HF h1 h2 B1 T1) (hB : ∀ b, b < h.bn → B1 b → B b) (hT : ∀ i, i < h.tn → T1 i → T i) : HF h h2 B T :=
  ⟨Nat.le_trans e.bn f.bn, fun b hb hn => (f.bx b (Nat.lt_of_lt_of_le hb e.bn) fun h => hn (hB b hb h)).trans (e.bx b hb hn), Nat.le_trans e.tn f.tn, fun i hi hn => (f.tk i (Nat.lt_of_lt_of_le hi e.tn) fun h => hn (hT i hi h)).trans (e.tk i hi hn),
    Nat.le_trans e.ln f.ln, fun l hl => (f.lp l (Nat.lt_of_lt_of_le hl e.ln)).trans (e.lp l hl), Nat.le_trans e.mn f.mn, fun l hl => (f.mp l (Nat.lt_of_lt_of_le hl e.mn)).trans (e.mp l hl)⟩
theorem HF.trans {h h1 h2 : H} {B T : Nat → Prop} (e : HF h h1 B T) (f : HF h1 h2 B T) : HF h h2 B T := e.trans' f (fun _ _ h => h) (fun _ _ h => h)
theorem HF.alloc (h : H) (cs : List AV) (B T : Nat → Prop) : HF h (h.alloc cs) B T :=
  ⟨by simp, fun b hb _ => by have : b ≠ h.bn := by omega
                             simp [this], by simp, fun _ _ _ => rfl, Nat.le_refl _, fun _ _ => rfl, Nat.le_refl _, fun _ _ => rfl⟩
theorem HF.set {h : H} {b : Nat} {cs : List AV} {B : Nat → Prop} (T : Nat → Prop) (hb : B b) : HF h (h.set b cs) B T :=
  ⟨by simp, fun b' _ hn => by have : b' ≠ b := fun e => hn (e ▸ hb)
                              simp [this], by simp, fun _ _ _ => rfl, Nat.le_refl _, fun _ _ => rfl, Nat.le_refl _, fun _ _ => rfl⟩

/-- A token is alive at a length. -/
def TLive (h : H) (t : Tok) (n : Nat) : Prop :=
  match t with
  | .no => False
  | .full => True
  | .own i => i < h.tn ∧ h.tk i = n
@[simp] theorem TLive_set {h : H} {b : Nat} {cs : List AV} {t : Tok} {n : Nat} : TLive (h.set b cs) t n = TLive h t n := by cases t <;> rfl
@[simp] theorem TLive_alloc {h : H} {cs : List AV} {t : Tok} {n : Nat} : TLive (h.alloc cs) t n = TLive h t n := by cases t <;> rfl
def TOwn (t : Tok) (i : Nat) : Prop := t = .own i
/-- A slice's token behind an append: the same, or a new one. -/
def TNext (h : H) (t t' : Tok) : Prop := t' = t ∨ ∃ i, t' = .own i ∧ h.tn ≤ i

theorem TNext.trans {h h1 : H} {t t1 t2 : Tok} {B T : Nat → Prop} (e : HF h h1 B T) (a : TNext h t t1) (b : TNext h1 t1 t2) : TNext h t t2 := by
  rcases b with rfl | ⟨i, rfl, hi⟩
  · exact a
  · exact .inr ⟨i, rfl, Nat.le_trans e.tn hi⟩
/-- A token that none of the touched ones is lives on. -/
theorem TLive.keep {h h' : H} {B T : Nat → Prop} (e : HF h h' B T) {t : Tok} {n : Nat} (hl : TLive h t n) (hn : ∀ i, t = .own i → ¬ T i) : TLive h' t n := by
  cases t with
  | no => exact hl
  | full => exact hl
  | own i => exact ⟨Nat.lt_of_lt_of_le hl.1 e.tn, (e.tk i hl.1 (hn i rfl)).trans hl.2⟩
/-- Two tokens that are apart. -/
def TApart (t u : Tok) : Prop := ∀ i, t = .own i → u ≠ .own i
theorem TApart.next {h : H} {t u u' : Tok} {n : Nat} (ht : TLive h t n) (ha : TApart t u) (hu : TNext h u u') : TApart t u' := by
  intro i hi
  rcases hu with rfl | ⟨j, rfl, hj⟩
  · exact ha i hi
  · subst hi
    intro h
    cases h
    have := ht.1
    omega
theorem TApart.symm {t u : Tok} (h : TApart t u) : TApart u t := fun i hu ht => h i ht hu

theorem appQ_tok {h : H} {sz bytes : Nat} {t : Tok} {es es2 : List (List AV)} {x : AV} {K : AV → H → Prop} (ht : TLive h t es.length) (he : ∀ e ∈ es, e.length = sz) (hx : srcA h sz x = some es2)
    (hb : (es.length + es2.length) * bytes ≤ 140737488355328) (hk : ∀ t' h', TLive h' t' (es ++ es2).length → TNext h t t' → HF h h' (fun _ => False) (TOwn t) → h'.bn = h.bn → K (.sl t' (es ++ es2)) h') : appQ h sz bytes (.sl t es) x K := by
  by_cases h0 : es2 = []
  · subst h0
    refine ⟨_, _, .same t es x hx, ?_⟩
    have := hk t h (by simpa using ht) (.inl rfl) (HF.refl _ _ _) rfl
    simpa using this
  · have hpos : 0 < es2.length := List.length_pos_iff.2 h0
    cases t with
    | no => exact ht.elim
    | full =>
      refine ⟨_, _, .new es es2 x he hx hpos hb, hk _ _ ⟨by simp, by simp⟩ (.inr ⟨_, rfl, Nat.le_refl _⟩) ⟨by simp, fun _ _ _ => rfl, by simp, fun i hi _ => ?_, Nat.le_refl _, fun _ _ => rfl, Nat.le_refl _, fun _ _ => rfl⟩ rfl⟩
      have : i ≠ h.tn := by omega
      simp [this]
    | own i =>
      refine ⟨_, _, .own i es es2 x he ht.1 ht.2 hx hpos hb, hk _ _ ⟨by simpa using ht.1, by simp⟩ (.inl rfl) ⟨by simp, fun _ _ _ => rfl, by simp, fun j hj hn => ?_, Nat.le_refl _, fun _ _ => rfl, Nat.le_refl _, fun _ _ => rfl⟩ rfl⟩
      have : j ≠ i := fun e => hn (by subst e; rfl)
      simp [this]

section
variable {P : Program}

/-- A slice over a box that no longer turns is a plain slice. -/
theorem Gh.msl {h : H} {b z n : Nat} {cs : List AV} (hb : b < h.bn) (hc : h.bx b = some cs) (hz : 0 < z) (hl : n * z ≤ cs.length) : Gh h (.msl b z 0 n) (h.kill b) (.sl .no (chunks z n cs)) := by
  refine .frz b cs hb hc (fun w g V hro hr => ?_) (.refl _ _)
  cases hr with
  | msl b z off len cap h1 h2 h3 =>
    have hf := chunks_flatten hl
    have hcl := chunks_len (z := z) (n := n) (l := cs)
    have key : ∀ k (hk : k < (chunks z n cs).flatten.length), ∃ U, k < g.ro (g.bx b) ∧ w.cell? ⟨g.bx b, k, none⟩ = some U ∧ Rep w g (chunks z n cs).flatten[k] U ∧ ok1 (chunks z n cs).flatten[k] = true := fun k hk => by
      have hk2 : (chunks z n cs).flatten[k]? = cs[k]? := by
        rw [hf, List.getElem?_take]
        rw [hf, List.length_take] at hk
        rw [if_pos (by omega)]
      have hkc : k < cs.length := by rw [hf, List.length_take] at hk; omega
      exact hro k _ (by rw [← hk2]; exact List.getElem?_eq_getElem hk)
    have := Rep.sl (w := w) (g := g) .no (chunks z n cs) (some ⟨g.bx b, 0, none⟩) cap z (fun k => if hk : k < (chunks z n cs).flatten.length then Classical.choose (key k hk) else .nilFunc) ⟨hz, chunks_each hl⟩ (by rw [hcl]; exact h2) (fun k hk => ?_) (fun k hk => ?_) (fun k hk => ?_) trivial
    · rw [hcl] at this; exact this
    · obtain ⟨q1, q2, _⟩ := Classical.choose_spec (key k hk)
      refine ⟨g.bx b, 0, rfl, by rw [Nat.zero_add]; exact q1, ?_⟩
      rw [dif_pos hk, Nat.zero_add]
      exact q2
    · rw [dif_pos hk]
      exact (Classical.choose_spec (key k hk)).2.2.1
    · exact (Classical.choose_spec (key k hk)).2.2.2

/-- slices.Clone, at any type. -/
def cloneF (n b : Nat) (z : List AV) : FnA := ⟨8, .seq (.reg [⟨some 2, none, .mov (.c (.sl .full []))⟩])
  (.seq (.seq (.reg [⟨some 3, none, .mov (.t 0)⟩, ⟨some 4, none, .isnil false (.t 3)⟩]) (.cond (.t 4) (.seq (.reg [⟨some 2, none, .mov (.c (.sl .full []))⟩]) (.ret)) (.skip)))
    (.seq (.reg [⟨some 5, none, .bsl n 0 z []⟩, ⟨some 6, none, .mov (.t 0)⟩, ⟨some 7, none, .append n b (.t 5) (.t 6)⟩, ⟨some 2, none, .mov (.t 7)⟩]) (.ret))), [.t 2]⟩

theorem clone_gen {f : FuncId} {n b : Nat} {z : List AV} (hb : HasBody P f) (hf : cFn P f = some (cloneF n b z)) (es : List (List AV)) (he : ∀ e ∈ es, e.length = n) (hp : PureV (.sl .no es)) (hw : es.map (List.map wk) = es) (hl : es.length * b ≤ 140737488355328) :
    PCall P f [.sl .no es] (.sl .no es) := by
  cases es with
  | nil =>
    refine PCall.run hb hf (by simp [cloneF]) (fun v hv => by rw [List.mem_singleton.1 hv]; exact hp) hp ?_
    simp -implicitDefEqProofs [cloneF]
    exact ⟨_, _, .same .full [] _ (by simp [srcA]), by simp⟩
  | cons e es =>
    refine PCall.run hb hf (by simp [cloneF]) (fun v hv => by rw [List.mem_singleton.1 hv]; exact hp) hp ?_
    simp -implicitDefEqProofs [cloneF]
    refine appQ_tok (t := .full) (es := []) (es2 := e :: es) trivial (fun e he => by cases he) ?_ (by simpa using hl) fun t' h' q1 q2 q3 q4 => ?_
    · simp only [srcA]
      rw [if_pos he]
    · simp -implicitDefEqProofs
      simpa using hw


end
end Go.Am

/- From the reading of an argument to its value by value: the entry of a law's function. -/
namespace Go.Am
open Go Go.RowKit

inductive Sh where
  | bool
  | int (k : IntKind)
  | str
  | sl (fs : List Sh)

mutual
def Sh.is : Sh → AV → Prop
  | .bool, v => ∃ b, v = .bool b
  | .int k, v => ∃ n, v = .int k n ∧ (Lit.int k n).wf = true
  | .str, v => ∃ s, v = .str s ∧ s.size ≤ maxLen
  | .sl fs, v => ∃ es : List (List AV), v = .sl .no es ∧ es.length ≤ maxLen ∧ ∀ e ∈ es, isL fs e
def isL : List Sh → List AV → Prop
  | [], vs => vs = []
  | f :: fs, vs => ∃ v r, vs = v :: r ∧ f.is v ∧ isL fs r
end

def shF (P : Program) (rec : TypeId → Option (List Sh)) : List Field → Nat → Option (List Sh)
  | [], _ => some []
  | f :: fs, off => if f.offset = off then (rec f.type).bind fun c => if P.cellsOf f.type = c.length then (shF P rec fs (off + c.length)).map fun r => c ++ r else none else none

def shT (P : Program) : Nat → TypeId → Option (List Sh)
  | 0, _ => none
  | d + 1, t =>
    match P.underlying t with
    | some .bool => some [.bool]
    | some (.int k) => some [.int k]
    | some .string => some [.str]
    | some (.slice e) => (shT P d e).bind fun c => if P.cellsOf e = c.length ∧ 0 < c.length then some [.sl c] else none
    | some (.struct fs) => (shF P (shT P d) fs.toList 0).bind fun c => if P.cellsOf t = c.length then some c else none
    | some (.array n e) => (shT P d e).bind fun c => if P.cellsOf e = c.length ∧ P.cellsOf t = n * c.length then some (List.replicate n c).flatten else none
    | _ => none

theorem isL_len : ∀ {fs : List Sh} {vs : List AV}, isL fs vs → vs.length = fs.length
  | [], vs, h => by simp only [isL] at h; subst h; rfl
  | f :: fs, vs, h => by
    simp only [isL] at h
    obtain ⟨v, r, rfl, _, h⟩ := h
    simp [isL_len h]
theorem isL_append : ∀ {a b : List Sh} {vs us : List AV}, isL a vs → isL b us → isL (a ++ b) (vs ++ us)
  | [], b, vs, us, h1, h2 => by simp only [isL] at h1; subst h1; exact h2
  | f :: a, b, vs, us, h1, h2 => by
    simp only [isL] at h1
    obtain ⟨v, r, rfl, h, h1⟩ := h1
    simp only [List.cons_append, isL]
    exact ⟨v, r ++ us, rfl, h, isL_append h1 h2⟩
theorem isL_one {f : Sh} {v : AV} (h : f.is v) : isL [f] [v] := by
  simp only [isL]
  exact ⟨v, [], rfl, h, rfl⟩

/-- Cells, one by one. -/
def RepL (w : World) (g : G) (vs : List AV) (cs : List Value) : Prop := vs.length = cs.length ∧ ∀ (k : Nat) (v : AV), vs[k]? = some v → ∃ V, cs[k]? = some V ∧ Rep w g v V ∧ ok1 v = true

theorem RepL.nil (w : World) (g : G) : RepL w g [] [] := ⟨rfl, fun k v h => by simp at h⟩
theorem RepL.one {w : World} {g : G} {v : AV} {V : Value} (h : Rep w g v V) (ho : ok1 v = true) : RepL w g [v] [V] :=
  ⟨rfl, fun k u hk => by
    cases k with
    | zero => simp at hk; subst hk; exact ⟨V, rfl, h, ho⟩
    | succ k => simp at hk⟩
theorem RepL.append {w : World} {g : G} {vs us : List AV} {cs ds : List Value} (h1 : RepL w g vs cs) (h2 : RepL w g us ds) : RepL w g (vs ++ us) (cs ++ ds) :=
  ⟨by simp [h1.1, h2.1], fun k v hk => by
    rw [List.getElem?_append] at hk
    rw [List.getElem?_append, ← h1.1]
    split at hk
    · rename_i hlt
      rw [if_pos hlt]
      exact h1.2 k v hk
    · rename_i hlt
      rw [if_neg hlt]
      exact h2.2 _ v hk⟩

def roW (w : World) (B : Nat) : Nat :=
  match w.heap[B]? with
  | some (.cells c _ _) => c.size
  | _ => 0

theorem cell_roW {w : World} {a : Addr} {V : Value} (h : w.cell? a = some V) : a.spot = none ∧ a.off < roW w a.block := by
  unfold World.cell? at h
  unfold roW
  split at h
  · rename_i c e f hb
    split at h
    · cases h
    · rename_i hs
      refine ⟨by cases hsp : a.spot with | none => rfl | some _ => rw [hsp] at hs; exact absurd rfl hs, ?_⟩
      rw [hb]
      exact (Array.getElem?_eq_some_iff.1 h).1
  · cases h

theorem ROat_of {w : World} {a : Addr} {k : Nat} {V : Value} (hs : a.spot = none) (h : w.cell? (a.add k) = some V) : ROat w (G.bare (roW w)) (some a) k V := by
  obtain ⟨B, o, sp⟩ := a
  simp only at hs
  subst hs
  have e : (Addr.add ⟨B, o, none⟩ k) = ⟨B, o + k, none⟩ := by unfold Addr.add; split <;> simp_all
  rw [e] at h
  exact ⟨B, o, rfl, (cell_roW h).2, h⟩

section
variable {H : Type} {enc : TypeId × Value → H} {P : Program} {w : World} {spare : Nat → Bool} {held : Bool}

theorem shF_ent {d : Nat} {fuel : Nat} (ih : ∀ (t : TypeId) (cs : List Value) (x : DataW H × List MemPlace) (c : List Sh), DataW.trod enc P w 0 spare held fuel t cs = some x → shT P d t = some c → ∃ vs, isL c vs ∧ RepL w (G.bare (roW w)) vs cs) (cs : List Value) :
    ∀ (fs : List Field) (off : Nat) (xs : List (DataW H × List MemPlace)) (c : List Sh), xs.length = fs.length → (∀ (i : Nat) (f : Field), fs[i]? = some f → DataW.trod enc P w 0 spare held fuel f.type ((cs.drop f.offset).take (P.cellsOf f.type)) = xs[i]?) → shF P (shT P d) fs off = some c →
      off + c.length ≤ cs.length → ∃ vs, isL c vs ∧ RepL w (G.bare (roW w)) vs ((cs.drop off).take c.length)
  | [], off, xs, c, _, _, hc, _ => by
    simp only [shF, Option.some.injEq] at hc
    subst hc
    exact ⟨[], by simp [isL], by simpa using RepL.nil _ _⟩
  | f :: fs, off, xs, c, hxl, hx, hc, hl => by
    simp only [shF] at hc
    split at hc
    · rename_i hoff
      simp only [Option.bind_eq_some_iff] at hc
      obtain ⟨c1, hc1, hc⟩ := hc
      split at hc
      · rename_i hn
        simp only [Option.map_eq_some_iff] at hc
        obtain ⟨c2, hc2, rfl⟩ := hc
        simp only [List.length_append] at hl
        obtain ⟨x, xs', rfl⟩ : ∃ x xs', xs = x :: xs' := by
          cases xs with
          | nil => simp at hxl
          | cons x xs' => exact ⟨x, xs', rfl⟩
        have h0 := hx 0 f rfl
        simp only [List.getElem?_cons_zero] at h0
        obtain ⟨vs1, i1, r1⟩ := ih _ _ _ _ h0 hc1
        obtain ⟨vs2, i2, r2⟩ := shF_ent ih cs fs (off + c1.length) xs' c2 (by simpa using hxl) (fun i f hi => by simpa using hx (i + 1) f (by simpa using hi)) hc2 (by omega)
        refine ⟨vs1 ++ vs2, isL_append i1 i2, ?_⟩
        have e : (cs.drop off).take (c1 ++ c2).length = (cs.drop off).take c1.length ++ (cs.drop (off + c1.length)).take c2.length := by
          rw [List.length_append, List.take_add, List.drop_drop]
        rw [e]
        rw [hoff, hn] at r1
        exact r1.append r2
      · cases hc
    · cases hc

theorem isL_reps {c : List Sh} : ∀ {n : Nat} {vss : List (List AV)}, vss.length = n → (∀ vs ∈ vss, isL c vs) → isL (List.replicate n c).flatten vss.flatten
  | 0, vss, hl, _ => by
    have : vss = [] := List.length_eq_zero_iff.1 hl
    subst this
    simp [isL]
  | n + 1, vss, hl, h => by
    cases vss with
    | nil => simp at hl
    | cons vs vss =>
      simp only [List.replicate_succ, List.flatten_cons]
      exact isL_append (h vs (List.mem_cons_self ..)) (isL_reps (by simpa using hl) fun u hu => h u (List.mem_cons_of_mem _ hu))

/-- Rows of cells, one behind the other. -/
theorem RepL_rows {g : G} {z : Nat} (cs : Nat → Option Value) : ∀ (vss : List (List AV)) (off : Nat), (∀ (i : Nat) (vs : List AV), vss[i]? = some vs → vs.length = z ∧ ∀ (k : Nat) (v : AV), vs[k]? = some v → ∃ V, cs (off + i * z + k) = some V ∧ Rep w g v V ∧ ok1 v = true) →
    ∀ (k : Nat) (v : AV), vss.flatten[k]? = some v → ∃ V, cs (off + k) = some V ∧ Rep w g v V ∧ ok1 v = true
  | [], _, _, k, v, hk => by simp at hk
  | vs :: vss, off, h, k, v, hk => by
    obtain ⟨hl, hv⟩ := h 0 vs rfl
    rw [List.flatten_cons, List.getElem?_append] at hk
    split at hk
    · obtain ⟨V, q1, q2⟩ := hv k v hk
      exact ⟨V, by simpa using q1, q2⟩
    · rename_i hlt
      obtain ⟨V, q1, q2⟩ := RepL_rows cs vss (off + z) (fun i us hi => by
        obtain ⟨q1, q2⟩ := h (i + 1) us (by simpa using hi)
        refine ⟨q1, fun k v hk => ?_⟩
        obtain ⟨V, p1, p2⟩ := q2 k v hk
        exact ⟨V, by rw [← p1]; congr 1; rw [Nat.add_mul]; omega, p2⟩) (k - vs.length) v hk
      exact ⟨V, by rw [← q1]; congr 1; omega, q2⟩

theorem list_of {β : Type} {p : Nat → β → Prop} : ∀ (n : Nat), (∀ i, i < n → ∃ y, p i y) → ∃ l : List β, l.length = n ∧ ∀ (i : Nat) (y : β), l[i]? = some y → p i y
  | 0, _ => ⟨[], rfl, fun i y h => by simp at h⟩
  | n + 1, h => by
    obtain ⟨l, h1, h2⟩ := list_of n fun i hi => h i (by omega)
    obtain ⟨y, hy⟩ := h n (by omega)
    refine ⟨l ++ [y], by simp [h1], fun i z hz => ?_⟩
    rw [List.getElem?_append] at hz
    split at hz
    · exact h2 i z hz
    · rename_i hlt
      have : i = n := by
        have := (List.getElem?_eq_some_iff.1 hz).1
        simp at this; omega
      subst this
      rw [h1] at hz
      simp at hz
      subst hz
      exact hy

theorem add_add (a : Addr) (m k : Nat) : (a.add m).add k = a.add (m + k) := by
  obtain ⟨B, o, sp⟩ := a
  unfold Addr.add
  by_cases hm : m = 0 <;> by_cases hk : k = 0 <;> simp [hm, hk] <;> omega

theorem ent : ∀ (fuel d : Nat) (t : TypeId) (cs : List Value) (x : DataW H × List MemPlace) (c : List Sh), DataW.trod enc P w 0 spare held fuel t cs = some x → shT P d t = some c → ∃ vs, isL c vs ∧ RepL w (G.bare (roW w)) vs cs
  | 0, _, _, _, _, _, h, _ => by simp [DataW.trod] at h
  | _ + 1, 0, _, _, _, _, _, hc => by simp [shT] at hc
  | fuel + 1, d + 1, t, cs, x, c, h, hc => by
    simp only [shT] at hc
    split at hc
    · rename_i hu
      cases hc
      obtain ⟨b, rfl, _⟩ := DataW.trod_bool hu h
      exact ⟨[.bool b], isL_one (by simp [Sh.is]), .one (.bool b) rfl⟩
    · rename_i k hu
      cases hc
      obtain ⟨n, rfl, _, hw⟩ := DataW.trod_int hu h
      exact ⟨[.int k n], isL_one (by simp only [Sh.is]; exact ⟨n, rfl, hw⟩), .one (.int k n) rfl⟩
    · rename_i hu
      cases hc
      obtain ⟨s, rfl, _, hs⟩ := DataW.trod_string hu h
      exact ⟨[.str s], isL_one (by simp only [Sh.is]; exact ⟨s, rfl, hs⟩), .one (.str s) rfl⟩
    · rename_i e hu
      simp only [Option.bind_eq_some_iff] at hc
      obtain ⟨ce, hce, hc⟩ := hc
      split at hc
      · rename_i hn
        cases hc
        rcases DataW.trod_slice hu h with ⟨rfl, _⟩ | ⟨a, len, cap, elems, rest, n, hfu, rfl, _, _, hlc, hcm, hel, hget, _⟩
        · refine ⟨[.sl .no []], isL_one (by simp only [Sh.is]; exact ⟨[], rfl, by simp, fun e he => by cases he⟩), .one ?_ rfl⟩
          exact .sl .no [] none 0 1 (fun _ => .nilFunc) ⟨by omega, fun e he => by cases he⟩ (Nat.le_refl _) (fun k hk => by simp at hk) (fun k hk => by simp at hk) (fun k hk => by simp at hk) trivial
        · have hfu' : fuel = n := by omega
          subst hfu'
          have key : ∀ i, i < len → ∃ vs, isL ce vs ∧ vs.length = ce.length ∧ ∀ (k : Nat) (v : AV), vs[k]? = some v → ∃ V, w.cell? (a.add (i * ce.length + k)) = some V ∧ Rep w (G.bare (roW w)) v V ∧ ok1 v = true := fun i hi => by
            have := hget i hi
            rw [List.getElem?_eq_getElem (by omega), Option.bind_eq_some_iff] at this
            obtain ⟨cse, h1, h2⟩ := this
            obtain ⟨vs, q1, q2, q3⟩ := ent fuel d e cse _ ce h2 hce
            obtain ⟨p1, p2, p3⟩ := World.cells?_some h1
            refine ⟨vs, q1, isL_len q1, fun k v hk => ?_⟩
            obtain ⟨V, r1, r2⟩ := q3 k v hk
            have hkl := (List.getElem?_eq_some_iff.1 r1).1
            refine ⟨V, ?_, r2⟩
            have := p3 k (by omega)
            rw [r1, hn.1] at this
            rw [← this]
            rw [add_add]
          obtain ⟨vss, l1, l2⟩ := list_of len key
          have hrow := RepL_rows (w := w) (g := G.bare (roW w)) (z := ce.length) (fun j => w.cell? (a.add j)) vss 0 fun i vs hi => by
            obtain ⟨q1, q2, q3⟩ := l2 i vs hi
            exact ⟨q2, fun k v hk => by simpa using q3 k v hk⟩
          have hrow' : ∀ k (hk : k < vss.flatten.length), ∃ V, w.cell? (a.add k) = some V ∧ Rep w (G.bare (roW w)) vss.flatten[k] V ∧ ok1 vss.flatten[k] = true := fun k hk => by
            have := hrow k _ (List.getElem?_eq_getElem hk)
            simpa using this
          have hisl : ∀ e ∈ vss, isL ce e := fun e he => by
            obtain ⟨i, hi⟩ := List.mem_iff_getElem?.1 he
            exact (l2 i e hi).1
          refine ⟨[.sl .no vss], isL_one (by simp only [Sh.is]; exact ⟨vss, rfl, by omega, hisl⟩), .one ?_ rfl⟩
          · rw [← l1]
            refine .sl .no vss (some a) cap ce.length (fun k => if hk : k < vss.flatten.length then Classical.choose (hrow' k hk) else .nilFunc) ⟨hn.2, fun e he => ?_⟩ (by omega) (fun k hk => ?_) (fun k hk => ?_) (fun k hk => (hrow' k hk).choose_spec.2.2) trivial
            · obtain ⟨i, hi⟩ := List.mem_iff_getElem?.1 he
              exact (l2 i e hi).2.1
            · have h0 : a.spot = none := by
                obtain ⟨V, h0, _⟩ := hrow' 0 (by omega)
                have e0 : a.add 0 = a := by simp [Addr.add]
                rw [e0] at h0
                exact (cell_roW h0).1
              rw [dif_pos hk]
              exact ROat_of h0 (Classical.choose_spec (hrow' k hk)).1
            · rw [dif_pos hk]
              exact (Classical.choose_spec (hrow' k hk)).2.1
      · cases hc
    · rename_i fs hu
      simp only [Option.bind_eq_some_iff] at hc
      obtain ⟨cf, hcf, hc⟩ := hc
      split at hc
      · rename_i hn
        cases hc
        obtain ⟨xs, n, hfu, _, hlen, hxl, hget⟩ := DataW.trod_struct hu h
        have hfu' : fuel = n := by omega
        subst hfu'
        obtain ⟨vs, q1, q2⟩ := shF_ent (ent fuel d) cs fs.toList 0 xs _ (by simpa using hxl) (fun i f hi => hget i f (by simpa using hi)) hcf (by omega)
        refine ⟨vs, q1, ?_⟩
        rw [← hn, ← hlen] at q2
        simpa using q2
      · cases hc
    · rename_i n e hu
      simp only [Option.bind_eq_some_iff] at hc
      obtain ⟨ce, hce, hc⟩ := hc
      split at hc
      · rename_i hn
        cases hc
        obtain ⟨xs, m, hfu, _, hlen, hxl, hget⟩ := DataW.trod_array hu h
        have hfu' : fuel = m := by omega
        subst hfu'
        obtain ⟨vss, l1, l2⟩ := list_of (p := fun i vs => isL ce vs ∧ RepL w (G.bare (roW w)) vs ((cs.drop (i * ce.length)).take ce.length)) n fun i hi => by
          have := hget i hi
          rw [List.getElem?_eq_getElem (by omega), hn.1] at this
          exact ent fuel d e _ _ ce this hce
        refine ⟨vss.flatten, isL_reps l1 fun vs hvs => ?_, ?_, ?_⟩
        · obtain ⟨i, hi⟩ := List.mem_iff_getElem?.1 hvs
          exact (l2 i vs hi).1
        · rw [hlen, hn.2, ← l1]
          exact flatten_len fun vs hvs => by
            obtain ⟨i, hi⟩ := List.mem_iff_getElem?.1 hvs
            exact isL_len (l2 i vs hi).1
        · intro k v hk
          have := RepL_rows (w := w) (g := G.bare (roW w)) (z := ce.length) (fun j => cs[j]?) vss 0 (fun i vs hi => by
            obtain ⟨q1, q2⟩ := l2 i vs hi
            refine ⟨isL_len q1, fun k v hk => ?_⟩
            obtain ⟨V, p1, p2⟩ := q2.2 k v hk
            refine ⟨V, ?_, p2⟩
            rw [List.getElem?_take] at p1
            split at p1
            · rw [List.getElem?_drop] at p1
              simpa using p1
            · cases p1) k v hk
          simpa using this
      · cases hc
    · cases hc

end
end Go.Am
