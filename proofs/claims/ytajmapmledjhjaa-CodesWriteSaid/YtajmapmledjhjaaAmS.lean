/- Regions whose order is drawn: a run in the order of the text is a run in every order. -/
import Derived.Test.YtajmapmledjhjaaAmR
namespace Go.Am
open Go Go.RowKit

/-! ### What an operation reads -/
def Opd.rd : Opd → List Nat
  | .t i => [i]
  | .c _ => []
def rdO : Option Opd → List Nat
  | none => []
  | some x => x.rd

def IOp.rd : IOp → List Nat
  | .mov x | .box x | .load _ _ x | .un _ x | .conv _ x | .b2s x | .s2b x | .faddr _ x | .fld _ _ _ x | .ext x _ | .nilck x | .len x | .lenS x | .isnil _ x | .clear _ _ x => x.rd
  | .pick c a b => c.rd ++ a.rd ++ b.rd
  | .alloc _ | .lenA _ | .mkmap => []
  | .build _ ps => ps.flatMap fun p => p.2.2.rd
  | .bsl _ _ _ ps => ps.flatMap fun p => p.2.rd
  | .store _ a x => a.rd ++ x.rd
  | .bin _ x y | .eq _ _ _ x y | .iaddr _ x y | .iaddrA _ _ x y | .idxS x y | .idxA _ _ _ x y | .append _ _ x y | .copy _ x y => x.rd ++ y.rd
  | .slice _ x lo hi m => x.rd ++ rdO lo ++ rdO hi ++ rdO m
  | .sliceS x lo hi => x.rd ++ rdO lo ++ rdO hi
  | .mkfn _ a b => a.flatMap Opd.rd ++ b.flatMap Opd.rd
  | .mksl _ _ _ l c => l.rd ++ c.rd
  | .mn xs | .mx xs => xs.flatMap Opd.rd
  | .call f args => f.rd ++ args.flatMap Opd.rd
  | .lookup _ m k _ => m.rd ++ k.rd
  | .mapup m k v => m.rd ++ k.rd ++ v.rd

def Ins.rd (x : Ins) : List Nat := (match x.g with | none => [] | some p => [p.1]) ++ x.op.rd

theorem ev_congr {s1 s2 : Slots} {x : Opd} (h : ∀ t ∈ x.rd, s1 t = s2 t) : ev s1 x = ev s2 x := by
  cases x with
  | t i => exact h i (by simp [Opd.rd])
  | c v => rfl

theorem evO_congr {s1 s2 : Slots} {x : Option Opd} (h : ∀ t ∈ rdO x, s1 t = s2 t) : x.map (ev s1) = x.map (ev s2) := by
  cases x with
  | none => rfl
  | some x => simp only [Option.map_some]; rw [ev_congr h]

theorem evL_congr {s1 s2 : Slots} {xs : List Opd} (h : ∀ t ∈ xs.flatMap Opd.rd, s1 t = s2 t) : xs.map (ev s1) = xs.map (ev s2) :=
  List.map_congr_left fun x hx => ev_congr fun t ht => h t (List.mem_flatMap.2 ⟨x, hx, ht⟩)

section
variable {P : Program}

theorem pv_congr {op : IOp} {s1 s2 : Slots} {h : H} (hr : ∀ t ∈ op.rd, s1 t = s2 t) : pv op (ev s1) h = pv op (ev s2) h := by
  cases op with
  | mov x => have := ev_congr (x := x) hr; simp only [pv, this]
  | pick c a b =>
    have h1 := ev_congr (x := c) (fun t ht => hr t (by simp [IOp.rd, ht]))
    have h2 := ev_congr (x := a) (fun t ht => hr t (by simp [IOp.rd, ht]))
    have h3 := ev_congr (x := b) (fun t ht => hr t (by simp [IOp.rd, ht]))
    simp only [pv, h1, h2, h3]
  | alloc z => rfl
  | box x => rfl
  | build z ps =>
    have : ps.map (fun p => (p.1, p.2.1, ev s1 p.2.2)) = ps.map (fun p => (p.1, p.2.1, ev s2 p.2.2)) := List.map_congr_left fun p hp => by
      rw [ev_congr (x := p.2.2) fun t ht => hr t (List.mem_flatMap.2 ⟨p, hp, ht⟩)]
    simp only [pv, this]
  | bsl a b c ps =>
    have : ps.map (fun p => ev s1 p.2) = ps.map (fun p => ev s2 p.2) := List.map_congr_left fun p hp => by
      rw [ev_congr (x := p.2) fun t ht => hr t (List.mem_flatMap.2 ⟨p, hp, ht⟩)]
    simp only [pv, this]
  | load n ag x => have := ev_congr (x := x) hr; simp only [pv, this]
  | store n a x => rfl
  | un o x => have := ev_congr (x := x) hr; simp only [pv, this]
  | conv k x => have := ev_congr (x := x) hr; simp only [pv, this]
  | b2s x => have := ev_congr (x := x) hr; simp only [pv, this]
  | s2b x => rfl
  | faddr o x => have := ev_congr (x := x) hr; simp only [pv, this]
  | fld o n ag x => have := ev_congr (x := x) hr; simp only [pv, this]
  | ext x n => have := ev_congr (x := x) hr; simp only [pv, this]
  | nilck x => have := ev_congr (x := x) hr; simp only [pv, this]
  | len x => have := ev_congr (x := x) hr; simp only [pv, this]
  | lenS x => have := ev_congr (x := x) hr; simp only [pv, this]
  | lenA n => rfl
  | isnil n x => have := ev_congr (x := x) hr; simp only [pv, this]
  | clear a b x => rfl
  | mkmap => rfl
  | copy n d x => rfl
  | append a b x y => rfl
  | mksl a b c d e => rfl
  | call f args => rfl
  | mapup m k v => rfl
  | mn xs => have := evL_congr (xs := xs) hr; simp only [pv, this]
  | mx xs => have := evL_congr (xs := xs) hr; simp only [pv, this]
  | mkfn f a b =>
    have h1 := evL_congr (xs := a) (fun t ht => hr t (List.mem_append_left _ ht))
    have h2 := evL_congr (xs := b) (fun t ht => hr t (List.mem_append_right _ ht))
    simp only [pv, h1, h2]
  | slice n x lo hi mx =>
    have h1 := ev_congr (x := x) (fun t ht => hr t (by simp [IOp.rd, ht]))
    have h2 := evO_congr (x := lo) (fun t ht => hr t (by simp [IOp.rd, ht]))
    have h3 := evO_congr (x := hi) (fun t ht => hr t (by simp [IOp.rd, ht]))
    have h4 : ∀ m, mx = some m → ev s1 m = ev s2 m := fun m hm => ev_congr (fun t ht => hr t (by subst hm; simp [IOp.rd, rdO, ht]))
    have h5 : ∀ m, hi = some m → ev s1 m = ev s2 m := fun m hm => ev_congr (fun t ht => hr t (by subst hm; simp [IOp.rd, rdO, ht]))
    simp only [pv, h1, h2, h3]
    cases mx with
    | none => rfl
    | some m =>
      cases hi with
      | none => rfl
      | some m' => simp only [h4 m rfl, h5 m' rfl]
  | sliceS x lo hi =>
    have h1 := ev_congr (x := x) (fun t ht => hr t (by simp [IOp.rd, ht]))
    have h2 := evO_congr (x := lo) (fun t ht => hr t (by simp [IOp.rd, ht]))
    have h3 := evO_congr (x := hi) (fun t ht => hr t (by simp [IOp.rd, ht]))
    simp only [pv, h1, h2, h3]
  | bin o x y =>
    have h1 := ev_congr (x := x) (fun t ht => hr t (by simp [IOp.rd, ht]))
    have h2 := ev_congr (x := y) (fun t ht => hr t (by simp [IOp.rd, ht]))
    simp only [pv, h1, h2]
  | eq a b c x y =>
    have h1 := ev_congr (x := x) (fun t ht => hr t (by simp [IOp.rd, ht]))
    have h2 := ev_congr (x := y) (fun t ht => hr t (by simp [IOp.rd, ht]))
    simp only [pv, h1, h2]
  | iaddr a x y =>
    have h1 := ev_congr (x := x) (fun t ht => hr t (by simp [IOp.rd, ht]))
    have h2 := ev_congr (x := y) (fun t ht => hr t (by simp [IOp.rd, ht]))
    simp only [pv, h1, h2]
  | iaddrA a b x y =>
    have h1 := ev_congr (x := x) (fun t ht => hr t (by simp [IOp.rd, ht]))
    have h2 := ev_congr (x := y) (fun t ht => hr t (by simp [IOp.rd, ht]))
    simp only [pv, h1, h2]
  | idxS x y =>
    have h1 := ev_congr (x := x) (fun t ht => hr t (by simp [IOp.rd, ht]))
    have h2 := ev_congr (x := y) (fun t ht => hr t (by simp [IOp.rd, ht]))
    simp only [pv, h1, h2]
  | idxA a b c x y =>
    have h1 := ev_congr (x := x) (fun t ht => hr t (by simp [IOp.rd, ht]))
    have h2 := ev_congr (x := y) (fun t ht => hr t (by simp [IOp.rd, ht]))
    simp only [pv, h1, h2]
  | lookup z m k ok => rfl

theorem InsR_congr {op : IOp} {s1 s2 : Slots} {h h1 : H} {v : AV} (hr : ∀ t ∈ op.rd, s1 t = s2 t) (hi : InsR P (ev s1) h op v h1) : InsR P (ev s2) h op v h1 := by
  cases hi with
  | pure op v hv => exact .pure op v (by rw [← pv_congr hr]; exact hv)
  | alloc z => exact .alloc z
  | box x cs hc => exact .box x cs (by rw [← ev_congr (x := x) hr]; exact hc)
  | store n a x b o cs xs q1 q2 q3 q4 q5 =>
    exact .store n a x b o cs xs (by rw [← ev_congr (x := a) (fun t ht => hr t (by simp [IOp.rd, ht]))]; exact q1) q2 q3 (by rw [← ev_congr (x := x) (fun t ht => hr t (by simp [IOp.rd, ht]))]; exact q4) q5
  | append sz bytes s x v h' q =>
    exact .append sz bytes s x v h1 (by rw [← ev_congr (x := s) (fun t ht => hr t (by simp [IOp.rd, ht])), ← ev_congr (x := x) (fun t ht => hr t (by simp [IOp.rd, ht]))]; exact q)
  | mkval sz bytes z l c k k' n q1 q2 q3 q4 =>
    exact .mkval sz bytes z l c k k' n (by rw [← ev_congr (x := l) (fun t ht => hr t (by simp [IOp.rd, ht]))]; exact q1) (by rw [← ev_congr (x := c) (fun t ht => hr t (by simp [IOp.rd, ht]))]; exact q2) q3 q4
  | mkbox sz bytes z l c k k' n q1 q2 q3 q4 =>
    exact .mkbox sz bytes z l c k k' n (by rw [← ev_congr (x := l) (fun t ht => hr t (by simp [IOp.rd, ht]))]; exact q1) (by rw [← ev_congr (x := c) (fun t ht => hr t (by simp [IOp.rd, ht]))]; exact q2) q3 q4
  | callF f args F first caps r h' q1 q2 =>
    exact .callF f args F first caps v h1 (by rw [← ev_congr (x := f) (fun t ht => hr t (by simp [IOp.rd, ht]))]; exact q1) (by rw [← evL_congr (xs := args) (fun t ht => hr t (List.mem_append_right _ ht))]; exact q2)
  | callY f args l r h' q1 q2 =>
    exact .callY f args l v h1 (by rw [← ev_congr (x := f) (fun t ht => hr t (by simp [IOp.rd, ht]))]; exact q1) (by rw [← evL_congr (xs := args) (fun t ht => hr t (List.mem_append_right _ ht))]; exact q2)

/-- One operation with its guard. -/
def StepR (P : Program) (x : Ins) (s : Slots) (h : H) (v : AV) (h1 : H) : Prop :=
  (∃ t b, x.g = some (t, b) ∧ s t = .bool (!b) ∧ v = .undef ∧ h1 = h) ∨ ((∀ t b, x.g = some (t, b) → s t = .bool b) ∧ InsR P (ev s) h x.op v h1)

theorem StepR_congr {x : Ins} {s1 s2 : Slots} {h h1 : H} {v : AV} (hr : ∀ t ∈ x.rd, s1 t = s2 t) (hi : StepR P x s1 h v h1) : StepR P x s2 h v h1 := by
  rcases hi with ⟨t, b, q1, q2, q3, q4⟩ | ⟨q1, q2⟩
  · exact .inl ⟨t, b, q1, by rw [← hr t (by simp [Ins.rd, q1])]; exact q2, q3, q4⟩
  · refine .inr ⟨fun t b hg => ?_, InsR_congr (fun t ht => hr t (List.mem_append_right _ ht)) q2⟩
    rw [← hr t (by simp [Ins.rd, hg])]
    exact q1 t b hg

theorem StepR.ops {x : Ins} {s : Slots} {h h1 : H} {v : AV} (hi : StepR P x s h v h1) {xs : List Ins} {s' : Slots} {h' : H} (hr : OpsR P xs (put s x.dst v) h1 s' h') : OpsR P (x :: xs) s h s' h' := by
  rcases hi with ⟨t, b, q1, q2, q3, q4⟩ | ⟨q1, q2⟩
  · subst q3 q4
    exact .skip x xs s _ s' h' t b q1 q2 hr
  · exact .step x xs s h v h1 s' h' q1 q2 hr

/-! ### The check of a region -/
structure Mark where
  hv : Bool
  lo : Nat
  hi : Nat

def isHv (ms : List Mark) (i : Nat) : Bool :=
  match ms[i]? with
  | some m => m.hv
  | none => false
def hcN (ms : List Mark) : Nat → Nat
  | 0 => 0
  | i + 1 => hcN ms i + if isHv ms i then 1 else 0
def loN (ms : List Mark) (i : Nat) : Nat :=
  match ms[i]? with
  | some m => m.lo
  | none => 0
def hiN (ms : List Mark) (i : Nat) : Nat :=
  match ms[i]? with
  | some m => m.hi
  | none => 0
def dstN (is : List Ins) (i : Nat) : Option Nat :=
  match is[i]? with
  | some x => x.dst
  | none => none

structure DrawFine (is : List Ins) (aft : List (List Nat)) (ms : List Mark) : Prop where
  back : ∀ i, i < is.length → ∀ j ∈ aft.getD i [], j < i
  nodup : ∀ i, i < is.length → ∀ j, j < is.length → ∀ t, dstN is i = some t → dstN is j = some t → i = j
  reads : ∀ i x, is[i]? = some x → ∀ r ∈ x.rd, ∀ j, j < is.length → dstN is j = some r → j ∈ aft.getD i [] ∨ i ∈ aft.getD j []
  lo : ∀ i, i < is.length → loN ms i = 0 ∨ ∃ j ∈ aft.getD i [], loN ms i ≤ if isHv ms j then hcN ms j + 1 else loN ms j
  heavy : ∀ i, i < is.length → isHv ms i = true → loN ms i = hcN ms i
  hi : ∀ i, i < is.length → isHv ms i = false → hcN ms is.length ≤ hiN ms i ∨ ∃ q, q < is.length ∧ isHv ms q = true ∧ hcN ms q = hiN ms i ∧ i ∈ aft.getD q []

def drawFine (is : List Ins) (aft : List (List Nat)) (ms : List Mark) : Bool :=
  (List.range is.length).all fun i =>
    ((aft.getD i []).all fun j => decide (j < i)) &&
    ((List.range is.length).all fun j => i == j || (match dstN is i with | none => true | some t => !(dstN is j == some t))) &&
    ((match is[i]? with | none => [] | some x => x.rd).all fun r => (List.range is.length).all fun j => !(dstN is j == some r) || (aft.getD i []).contains j || (aft.getD j []).contains i) &&
    (loN ms i == 0 || (aft.getD i []).any fun j => decide (loN ms i ≤ if isHv ms j then hcN ms j + 1 else loN ms j)) &&
    (!isHv ms i || loN ms i == hcN ms i) &&
    (isHv ms i || decide (hcN ms is.length ≤ hiN ms i) || (List.range is.length).any fun q => isHv ms q && hcN ms q == hiN ms i && (aft.getD q []).contains i)

theorem drawFine_is {is : List Ins} {aft : List (List Nat)} {ms : List Mark} (h : drawFine is aft ms = true) : DrawFine is aft ms := by
  simp only [drawFine, List.all_eq_true, List.mem_range, Bool.and_eq_true] at h
  refine ⟨fun i hi j hj => ?_, fun i hi j hj t h1 h2 => ?_, fun i x hx r hr j hj hd => ?_, fun i hi => ?_, fun i hi hv => ?_, fun i hi hv => ?_⟩
  · exact of_decide_eq_true ((h i hi).1.1.1.1.1 j hj)
  · have := (h i hi).1.1.1.1.2 j hj
    rw [h1] at this
    simp only [h2] at this
    simpa using this
  · have hi := (List.getElem?_eq_some_iff.1 hx).1
    have := (h i hi).1.1.1.2 r (by rw [hx]; exact hr) j hj
    simp only [hd] at this
    simpa using this
  · have := (h i hi).1.1.2
    simp only [Bool.or_eq_true, beq_iff_eq, List.any_eq_true, decide_eq_true_eq] at this
    exact this
  · have := (h i hi).1.2
    rw [hv] at this
    simpa using this
  · have := (h i hi).2
    rw [hv] at this
    simp only [Bool.false_or, Bool.or_eq_true, decide_eq_true_eq, List.any_eq_true, List.mem_range, Bool.and_eq_true, beq_iff_eq, List.contains_eq_mem] at this
    rcases this with h1 | ⟨q, q1, ⟨q2, q3⟩, q4⟩
    · exact .inl h1
    · exact .inr ⟨q, q1, q2, q3, q4⟩

/-! ### Slots and counts of what is done -/
def slN (is : List Ins) (v : Nat → AV) (s : Slots) : List Nat → Slots
  | [] => s
  | i :: D => put (slN is v s D) (dstN is i) (v i)
def hcL (ms : List Mark) : List Nat → Nat
  | [] => 0
  | i :: D => hcL ms D + if isHv ms i then 1 else 0

theorem slN_out {is : List Ins} {v : Nat → AV} {s : Slots} {t : Nat} : ∀ {D : List Nat}, (∀ j ∈ D, dstN is j ≠ some t) → slN is v s D t = s t
  | [], _ => rfl
  | i :: D, h => by
    have h1 := h i (List.mem_cons_self ..)
    have h2 := slN_out (is := is) (v := v) (s := s) (t := t) (D := D) fun j hj => h j (List.mem_cons_of_mem _ hj)
    simp only [slN]
    cases hd : dstN is i with
    | none => exact h2
    | some u =>
      rw [hd] at h1
      have : t ≠ u := fun h => h1 (by rw [h])
      simp only [put, su, if_neg this]
      exact h2

theorem slN_in {is : List Ins} {v : Nat → AV} {s : Slots} {t j : Nat} (hj : dstN is j = some t) : ∀ {D : List Nat}, (∀ i ∈ D, dstN is i = some t → i = j) → j ∈ D → slN is v s D t = v j
  | [], _, h => by cases h
  | i :: D, hu, h => by
    simp only [slN]
    by_cases hij : i = j
    · subst hij
      rw [hj]
      simp [put, su]
    · have hjD : j ∈ D := by
        rcases List.mem_cons.1 h with h | h
        · exact absurd h.symm hij
        · exact h
      have ih := slN_in (v := v) (s := s) hj (D := D) (fun i hi => hu i (List.mem_cons_of_mem _ hi)) hjD
      cases hd : dstN is i with
      | none => exact ih
      | some u =>
        have : t ≠ u := fun h => hij (hu i (List.mem_cons_self ..) (by rw [hd, h]))
        simp only [put, su, if_neg this]
        exact ih

def txt : Nat → List Nat
  | 0 => []
  | i + 1 => i :: txt i
theorem mem_txt {i j : Nat} : j ∈ txt i ↔ j < i := by
  induction i with
  | zero => simp [txt]
  | succ i ih => simp [txt, ih]; omega
theorem hcL_txt (ms : List Mark) (i : Nat) : hcL ms (txt i) = hcN ms i := by
  induction i with
  | zero => rfl
  | succ i ih => simp only [txt, hcL, hcN, ih]

theorem hcN_mono (ms : List Mark) {i j : Nat} (h : i ≤ j) : hcN ms i ≤ hcN ms j := by
  induction j with
  | zero => rw [Nat.le_zero.1 h]; exact Nat.le_refl _
  | succ j ih =>
    by_cases hij : i = j + 1
    · rw [hij]; exact Nat.le_refl _
    · have := ih (by omega)
      simp only [hcN]; omega
theorem hcN_lt (ms : List Mark) {i j : Nat} (h : i < j) (hv : isHv ms i = true) : hcN ms i < hcN ms j := by
  have h1 := hcN_mono ms (i := i + 1) (j := j) h
  simp only [hcN, hv, if_true] at h1
  omega
theorem hcN_inj (ms : List Mark) {i j : Nat} (hi : isHv ms i = true) (hj : isHv ms j = true) (h : hcN ms i = hcN ms j) : i = j := by
  rcases Nat.lt_trichotomy i j with h1 | h1 | h1
  · have := hcN_lt ms h1 hi; omega
  · exact h1
  · have := hcN_lt ms h1 hj; omega
theorem hcN_ex (ms : List Mark) : ∀ {n m : Nat}, m < hcN ms n → ∃ q, q < n ∧ isHv ms q = true ∧ hcN ms q = m
  | 0, m, h => by simp [hcN] at h
  | n + 1, m, h => by
    by_cases hm : m < hcN ms n
    · obtain ⟨q, h1, h2, h3⟩ := hcN_ex ms hm
      exact ⟨q, by omega, h2, h3⟩
    · simp only [hcN] at h
      by_cases hv : isHv ms n = true
      · simp only [hv, if_true] at h
        exact ⟨n, by omega, hv, by omega⟩
      · simp only [hv] at h
        simp at h; omega

/-- What each operation does, in the text's order. -/
def SpecAt (P : Program) (is : List Ins) (ms : List Mark) (v : Nat → AV) (hs : Nat → H) (s : Slots) (i : Nat) : Prop :=
  ∀ x, is[i]? = some x → if isHv ms i then StepR P x (slN is v s (txt i)) (hs (hcN ms i)) (v i) (hs (hcN ms i + 1)) else ∀ k, loN ms i ≤ k → k ≤ hiN ms i → k ≤ hcN ms is.length → StepR P x (slN is v s (txt i)) (hs k) (v i) (hs k)

theorem draw_any {is : List Ins} {aft : List (List Nat)} {ms : List Mark} (hf : DrawFine is aft ms) {v : Nat → AV} {hs : Nat → H} {s : Slots} (hsp : ∀ i, i < is.length → SpecAt P is ms v hs s i) :
    ∀ (l D : List Nat) (xs : List Ins), TopoFrom aft D l → (∀ i ∈ l, i < is.length) → (∀ i ∈ D, i < is.length) → (∀ i, i < is.length → i ∈ D ∨ i ∈ l) → pick is l = some xs →
      (∀ j ∈ D, ∀ q ∈ aft.getD j [], q ∈ D) → (∀ j, j < is.length → isHv ms j = true → (j ∈ D ↔ hcN ms j < hcL ms D)) → (∀ j ∈ D, loN ms j ≤ hcL ms D) → hcL ms D ≤ hcN ms is.length →
      OpsR P xs (slN is v s D) (hs (hcL ms D)) (slN is v s (txt is.length)) (hs (hcN ms is.length))
  | [], D, xs, _, _, hD, hall, hp, _, hI, _, hK => by
    simp only [pick, Option.some.injEq] at hp
    subst hp
    have hin : ∀ i, i < is.length → i ∈ D := fun i hi => by
      rcases hall i hi with h | h
      · exact h
      · cases h
    have e1 : slN is v s D = slN is v s (txt is.length) := by
      funext t
      by_cases ht : ∃ j, j < is.length ∧ dstN is j = some t
      · obtain ⟨j, hj, hd⟩ := ht
        rw [slN_in hd (fun i hi hdi => hf.nodup i (hD i hi) j hj t hdi hd) (hin j hj), slN_in hd (fun i hi hdi => hf.nodup i (mem_txt.1 hi) j hj t hdi hd) (mem_txt.2 hj)]
      · rw [slN_out fun j hj hd => ht ⟨j, hD j hj, hd⟩, slN_out fun j hj hd => ht ⟨j, mem_txt.1 hj, hd⟩]
    have e2 : hcL ms D = hcN ms is.length := by
      rcases Nat.lt_or_ge (hcL ms D) (hcN ms is.length) with h | h
      · obtain ⟨q, q1, q2, q3⟩ := hcN_ex ms h
        have := (hI q q1 q2).1 (hin q q1)
        omega
      · omega
    rw [e1, e2]
    exact .nil _ _
  | i :: l, D, xs, ⟨ht1, ht2, ht3⟩, hl, hD, hall, hp, hcl, hI, hL, hK => by
    simp only [pick, Option.bind_eq_some_iff, Option.map_eq_some_iff] at hp
    obtain ⟨x, hx, xs', hxs', rfl⟩ := hp
    have hi := hl i (List.mem_cons_self ..)
    have hdst : dstN is i = x.dst := by simp [dstN, hx]
    -- the slots that it reads
    have hr : ∀ r ∈ x.rd, slN is v s (txt i) r = slN is v s D r := fun r hr => by
      by_cases hw : ∃ j, j < is.length ∧ dstN is j = some r
      · obtain ⟨j, hj, hd⟩ := hw
        rcases hf.reads i x hx r hr j hj hd with h | h
        · rw [slN_in hd (fun k hk hdk => hf.nodup k (by have := mem_txt.1 hk; omega) j hj r hdk hd) (mem_txt.2 (hf.back i hi j h)), slN_in hd (fun k hk hdk => hf.nodup k (hD k hk) j hj r hdk hd) (ht2 j h)]
        · have hji := hf.back j hj i h
          rw [slN_out fun k hk hdk => ?_, slN_out fun k hk hdk => ?_]
          · have := hf.nodup k (hD k hk) j hj r hdk hd
            subst this
            exact ht1 (hcl k hk i h)
          · have := mem_txt.1 hk
            have := hf.nodup k (by omega) j hj r hdk hd
            omega
      · rw [slN_out fun k hk hdk => hw ⟨k, by have := mem_txt.1 hk; omega, hdk⟩, slN_out fun k hk hdk => hw ⟨k, hD k hk, hdk⟩]
    have hlo : loN ms i ≤ hcL ms D := by
      rcases hf.lo i hi with h | ⟨j, hj, h⟩
      · omega
      · have hjD := ht2 j hj
        by_cases hv : isHv ms j = true
        · rw [if_pos hv] at h
          have := (hI j (hD j hjD) hv).1 hjD
          omega
        · rw [if_neg hv] at h
          have := hL j hjD
          omega
    have hD' : ∀ j ∈ i :: D, j < is.length := fun j hj => by
      rcases List.mem_cons.1 hj with h | h
      · omega
      · exact hD j h
    have hall' : ∀ j, j < is.length → j ∈ i :: D ∨ j ∈ l := fun j hj => by
      rcases hall j hj with h | h
      · exact .inl (List.mem_cons_of_mem _ h)
      · rcases List.mem_cons.1 h with h | h
        · exact .inl (h ▸ List.mem_cons_self ..)
        · exact .inr h
    have hcl' : ∀ j ∈ i :: D, ∀ q ∈ aft.getD j [], q ∈ i :: D := fun j hj q hq => by
      rcases List.mem_cons.1 hj with h | h
      · subst h; exact List.mem_cons_of_mem _ (ht2 q hq)
      · exact List.mem_cons_of_mem _ (hcl j h q hq)
    have hs' := hsp i hi x hx
    have hgo := fun (h1 : ∀ j, j < is.length → isHv ms j = true → (j ∈ i :: D ↔ hcN ms j < hcL ms (i :: D))) (h2 : ∀ j ∈ i :: D, loN ms j ≤ hcL ms (i :: D)) (h3 : hcL ms (i :: D) ≤ hcN ms is.length) =>
      draw_any hf hsp l (i :: D) xs' ht3 (fun j hj => hl j (List.mem_cons_of_mem _ hj)) hD' hall' hxs' hcl' h1 h2 h3
    by_cases hv : isHv ms i = true
    · rw [if_pos hv] at hs'
      have hm : hcN ms i = hcL ms D := by
        have h1 := hf.heavy i hi hv
        have h2 : ¬ hcN ms i < hcL ms D := fun h => ht1 ((hI i hi hv).2 h)
        omega
      have hc' : hcL ms (i :: D) = hcL ms D + 1 := by simp only [hcL, hv, if_true]
      have := hgo (fun j hj hvj => by
        rw [hc', List.mem_cons, hI j hj hvj]
        constructor
        · rintro (h | h)
          · subst h; omega
          · omega
        · intro h
          by_cases hj' : hcN ms j = hcN ms i
          · exact .inl (hcN_inj ms hvj hv hj')
          · exact .inr (by omega)) (fun j hj => by
        rcases List.mem_cons.1 hj with h | h
        · subst h; omega
        · have := hL j h; omega) (by
        have := hcN_lt ms hi hv
        omega)
      refine StepR.ops (v := v i) (h1 := hs (hcL ms (i :: D))) ?_ ?_
      · rw [hc', ← hm]
        exact StepR_congr hr hs'
      · rw [← hdst]; exact this
    · rw [if_neg hv] at hs'
      have hc' : hcL ms (i :: D) = hcL ms D := by simp only [hcL]; simp [hv]
      have := hgo (fun j hj hvj => by
        rw [hc', List.mem_cons, hI j hj hvj]
        constructor
        · rintro (h | h)
          · subst h; exact absurd hvj hv
          · exact h
        · exact fun h => .inr h) (fun j hj => by
        rw [hc']
        rcases List.mem_cons.1 hj with h | h
        · subst h; exact hlo
        · exact hL j h) (by rw [hc']; exact hK)
      have hhi : hcL ms D ≤ hiN ms i := by
        rcases hf.hi i hi (by simpa using hv) with h | ⟨q, q1, q2, q3, q4⟩
        · omega
        · rcases Nat.lt_or_ge (hiN ms i) (hcL ms D) with h | h
          · exact absurd (hcl q ((hI q q1 q2).2 (by omega)) i q4) ht1
          · exact h
      refine StepR.ops (v := v i) (h1 := hs (hcL ms (i :: D))) ?_ ?_
      · rw [hc']
        exact StepR_congr hr (hs' _ hlo hhi hK)
      · rw [← hdst]; exact this

theorem draw_sound {is : List Ins} {aft : List (List Nat)} {ms : List Mark} (hf : drawFine is aft ms = true) {v : Nat → AV} {hs : Nat → H} {s : Slots} (hsp : ∀ i, i < is.length → SpecAt P is ms v hs s i)
    (t : List Nat) (ht : Topo aft is.length t) (xs : List Ins) (hx : pick is t = some xs) : OpsR P xs s (hs 0) (slN is v s (txt is.length)) (hs (hcN ms is.length)) :=
  draw_any (drawFine_is hf) hsp t [] xs ht.order ht.lt (fun i hi => by cases hi) (fun i hi => .inr (ht.all i hi)) hx (fun j hj => by cases hj) (fun j hj hv => by simp [hcL]) (fun j hj => by cases hj) (Nat.zero_le _)

end
end Go.Am
