/- What the functions that the statement reaches do: their contracts; and what follows of it. -/
import Derived.Test.YtdcpendppalkgaaGreatSLintAdvice7
import Derived.Test.YtdcpendppalkgaaGreatSLintAdvice3
import Derived.Test.YtdcpendppalkgaaGreatSLintAdvice6
/- A relation that is closed, as the document closes it: its ways; a finer history's ways (plain laws). -/
namespace Go.Proofs
open Go Go.RowKit Go.Am

def upd2 (W : Nat → Nat → Bool) (i k : Nat) : Nat → Nat → Bool := fun a b => if a = i ∧ b = k then true else W a b
def fwK (m i : Nat) (W : Nat → Nat → Bool) : Nat → Nat → Nat → Bool
  | 0 => W
  | k + 1 => if fwK m i W k i m = true ∧ fwK m i W k m k = true then upd2 (fwK m i W k) i k else fwK m i W k
def fwI (n m : Nat) (W : Nat → Nat → Bool) : Nat → Nat → Nat → Bool
  | 0 => W
  | i + 1 => fwK m i (fwI n m W i) n
def fwM (n : Nat) (W : Nat → Nat → Bool) : Nat → Nat → Nat → Bool
  | 0 => W
  | m + 1 => fwI n m (fwM n W m) n
/-- A relation, closed. -/
def fw (n : Nat) (W : Nat → Nat → Bool) : Nat → Nat → Bool := fwM n W n
/-- A way, between the ends over nodes below m. -/
inductive Via (E : Nat → Nat → Prop) (m : Nat) : Nat → Nat → Prop where
  | edge {u v : Nat} : E u v → Via E m u v
  | step {u w v : Nat} : Via E m u w → w < m → Via E m w v → Via E m u v

theorem upd2_le {W : Nat → Nat → Bool} {i k a b : Nat} (h : W a b = true) : upd2 W i k a b = true := by
  unfold upd2
  split
  · rfl
  · exact h
theorem fwK_le {m i : Nat} {W : Nat → Nat → Bool} {a b : Nat} (h : W a b = true) : ∀ k, fwK m i W k a b = true
  | 0 => h
  | k + 1 => by
    unfold fwK
    split
    · exact upd2_le (fwK_le h k)
    · exact fwK_le h k
theorem fwK_le2 {m i : Nat} {W : Nat → Nat → Bool} {a b k : Nat} (h : fwK m i W k a b = true) : ∀ j, fwK m i W (k + j) a b = true
  | 0 => h
  | j + 1 => by
    have ih := fwK_le2 h j
    show fwK m i W ((k + j) + 1) a b = true
    unfold fwK
    split
    · exact upd2_le ih
    · exact ih
theorem fwI_le {n m : Nat} {W : Nat → Nat → Bool} {a b : Nat} (h : W a b = true) : ∀ i, fwI n m W i a b = true
  | 0 => h
  | i + 1 => fwK_le (fwI_le h i) n
theorem fwI_le2 {n m : Nat} {W : Nat → Nat → Bool} {a b i : Nat} (h : fwI n m W i a b = true) : ∀ j, fwI n m W (i + j) a b = true
  | 0 => h
  | j + 1 => fwK_le (fwI_le2 h j) n
theorem fwK_sound {E : Nat → Nat → Prop} {N m i : Nat} (hm : m < N) {W : Nat → Nat → Bool} (h : ∀ a b, W a b = true → Via E N a b) : ∀ (k : Nat) (a b : Nat), fwK m i W k a b = true → Via E N a b
  | 0, a, b, q => h a b q
  | k + 1, a, b, q => by
    have ih := fwK_sound (i := i) hm h k
    unfold fwK at q
    split at q
    · rename_i hc
      unfold upd2 at q
      split at q
      · rename_i he
        obtain ⟨rfl, rfl⟩ := he
        exact .step (ih _ _ hc.1) hm (ih _ _ hc.2)
      · exact ih a b q
    · exact ih a b q
theorem fwI_sound {E : Nat → Nat → Prop} {N n m : Nat} (hm : m < N) {W : Nat → Nat → Bool} (h : ∀ a b, W a b = true → Via E N a b) : ∀ (i : Nat) (a b : Nat), fwI n m W i a b = true → Via E N a b
  | 0, a, b, q => h a b q
  | i + 1, a, b, q => fwK_sound hm (fwI_sound hm h i) n a b q
theorem fwM_sound {E : Nat → Nat → Prop} {N n : Nat} {W : Nat → Nat → Bool} (h : ∀ a b, W a b = true → E a b) : ∀ (m : Nat), m ≤ N → ∀ (a b : Nat), fwM n W m a b = true → Via E N a b
  | 0, _, a, b, q => .edge (h a b q)
  | m + 1, hm, a, b, q => fwI_sound (by omega) (fwM_sound h m (by omega)) n a b q
theorem fw_sound {n : Nat} {W : Nat → Nat → Bool} {a b : Nat} (q : fw n W a b = true) : Via (fun a b => W a b = true) n a b := fwM_sound (fun _ _ h => h) n (Nat.le_refl _) a b q

theorem Via.split {E : Nat → Nat → Prop} {m : Nat} {u v : Nat} (h : Via E (m + 1) u v) : Via E m u v ∨ (Via E m u m ∧ Via E m m v) := by
  induction h with
  | edge h => exact .inl (.edge h)
  | @step u w v h1 hw h2 i1 i2 =>
    by_cases hwm : w < m
    · rcases i1 with a | ⟨a1, a2⟩
      · rcases i2 with b | ⟨b1, b2⟩
        · exact .inl (.step a hwm b)
        · exact .inr ⟨.step a hwm b1, b2⟩
      · rcases i2 with b | ⟨b1, b2⟩
        · exact .inr ⟨a1, .step a2 hwm b⟩
        · exact .inr ⟨a1, b2⟩
    · obtain rfl : w = m := by omega
      have a : Via E w u w := by rcases i1 with a | ⟨a1, a2⟩; exact a; exact a1
      have b : Via E w w v := by rcases i2 with b | ⟨b1, b2⟩; exact b; exact b2
      exact .inr ⟨a, b⟩
theorem fwK_set {m i : Nat} {W : Nat → Nat → Bool} {k n : Nat} (hk : k < n) (h1 : W i m = true) (h2 : W m k = true) : fwK m i W n i k = true := by
  have hs : fwK m i W (k + 1) i k = true := by
    unfold fwK
    rw [if_pos ⟨fwK_le h1 k, fwK_le h2 k⟩]
    simp [upd2]
  have := fwK_le2 hs (n - (k + 1))
  rwa [show k + 1 + (n - (k + 1)) = n by omega] at this
theorem fwI_set {n m : Nat} {W : Nat → Nat → Bool} {i k : Nat} (hi : i < n) (hk : k < n) (h1 : W i m = true) (h2 : W m k = true) : fwI n m W n i k = true := by
  have hs : fwI n m W (i + 1) i k = true := fwK_set hk (fwI_le h1 i) (fwI_le h2 i)
  have := fwI_le2 hs (n - (i + 1))
  rwa [show i + 1 + (n - (i + 1)) = n by omega] at this
theorem fwM_full {E : Nat → Nat → Prop} {n : Nat} {W : Nat → Nat → Bool} (h : ∀ a b, a < n → b < n → E a b → W a b = true) : ∀ (m : Nat), m ≤ n → ∀ (a b : Nat), a < n → b < n → Via E m a b → fwM n W m a b = true
  | 0, _, a, b, ha, hb, q => by
    cases q with
    | edge q => exact h a b ha hb q
    | step _ hw _ => omega
  | m + 1, hm, a, b, ha, hb, q => by
    have ih := fwM_full h m (by omega)
    rcases q.split with q | ⟨q1, q2⟩
    · exact fwI_le (ih a b ha hb q) n
    · exact fwI_set ha hb (ih a m ha (by omega) q1) (ih m b (by omega) hb q2)
theorem fw_full {n : Nat} {W : Nat → Nat → Bool} {a b : Nat} (ha : a < n) (hb : b < n) (q : Via (fun a b => W a b = true) n a b) : fw n W a b = true := fwM_full (fun _ _ _ _ h => h) n (Nat.le_refl _) a b ha hb q
theorem Via.map {E F : Nat → Nat → Prop} {n : Nat} (h : ∀ u v, E u v → Via F n u v) {u v : Nat} (q : Via E n u v) : Via F n u v := by
  induction q with
  | edge q => exact h _ _ q
  | step _ hw _ i1 i2 => exact .step i1 hw i2
/-- Where each arc of one relation is a way of another, a loop of the one is a loop of the other. -/
theorem fw_loop {n : Nat} {W V : Nat → Nat → Bool} (h : ∀ u v, W u v = true → Via (fun a b => V a b = true) n u v) {a : Nat} (ha : a < n) (q : fw n W a a = true) : fw n V a a = true :=
  fw_full ha ha ((fw_sound q).map h)

/-! ### A history's arcs -/
def ndOf (h : List Nod) (i : Nat) : Nod := (h[i]?).getD ⟨0, 0, 0, false, [], []⟩
theorem ndOf_of {h : List Nod} {i : Nat} (hi : i < h.length) : ndOf h i = h[i] := by simp [ndOf, hi]
/-- Is the node k in the unit of the node i, relative to a class? -/
def inU (x : Ctlg) (h : List Nod) (i k : Nat) (d : Int) : Bool := decide (i = k) || (decide ((ndOf h i).saga = (ndOf h k).saga) && !(ndOf h i).back && !(ndOf h k).back && decide (x.unitN (ndOf h i).cls d (ndOf h i).step.toNat = x.unitN (ndOf h i).cls d (ndOf h k).step.toNat))
def endU (x : Ctlg) (h : List Nod) (k : Nat) (d : Int) : Nat → Option Nat
  | 0 => none
  | m + 1 => if inU x h k m d = true then some m else endU x h k d m
def fstU (x : Ctlg) (h : List Nod) (k : Nat) (d : Int) : Nat → Option Nat
  | 0 => none
  | m + 1 => if (fstU x h k d m).isNone && inU x h k m d then some m else fstU x h k d m
theorem endU_max {x : Ctlg} {h : List Nod} {k : Nat} {d : Int} : ∀ (n m : Nat), m < n → inU x h k m d = true → ∃ e, endU x h k d n = some e ∧ m ≤ e ∧ e < n ∧ inU x h k e d = true
  | n + 1, m, hm, hi => by
    unfold endU
    by_cases hn : inU x h k n d = true
    · rw [if_pos hn]
      exact ⟨n, rfl, by omega, by omega, hn⟩
    · rw [if_neg hn]
      have : m ≠ n := fun e => hn (e ▸ hi)
      obtain ⟨e, e1, e2, e3, e4⟩ := endU_max n m (by omega) hi
      exact ⟨e, e1, e2, by omega, e4⟩
theorem fstU_min {x : Ctlg} {h : List Nod} {k : Nat} {d : Int} : ∀ (n m : Nat), m < n → inU x h k m d = true → ∃ e, fstU x h k d n = some e ∧ e ≤ m ∧ inU x h k e d = true
  | n + 1, m, hm, hi => by
    unfold fstU
    by_cases hn : (fstU x h k d n).isNone = true
    · have hmn : m = n := by
        by_cases hmn : m = n
        · exact hmn
        · obtain ⟨e, e1, _⟩ := fstU_min n m (by omega) hi
          rw [e1] at hn
          cases hn
      subst hmn
      rw [hn, hi]
      exact ⟨m, rfl, Nat.le_refl _, hi⟩
    · have hn : (fstU x h k d n).isNone = false := Bool.eq_false_iff.2 hn
      rw [hn]
      simp only [Bool.false_and, Bool.false_eq_true, if_false]
      by_cases hmn : m < n
      · exact fstU_min n m hmn hi
      · obtain rfl : m = n := by omega
        cases hf : fstU x h k d m with
        | none => rw [hf] at hn; cases hn
        | some e =>
          have key : ∀ (n e : Nat), fstU x h k d n = some e → e < n ∧ inU x h k e d = true := fun n => by
            induction n with
            | zero => intro e he; cases he
            | succ n ih =>
              intro e he
              unfold fstU at he
              split at he
              · rename_i hc
                cases he
                simp only [Bool.and_eq_true] at hc
                exact ⟨by omega, hc.2⟩
              · obtain ⟨a, b⟩ := ih e he
                exact ⟨by omega, b⟩
          obtain ⟨a, b⟩ := key m e hf
          exact ⟨e, rfl, by omega, b⟩
theorem inU_self (x : Ctlg) (h : List Nod) (k : Nat) (d : Int) : inU x h k k d = true := by simp [inU]
theorem inU_saga {x : Ctlg} {h : List Nod} {k m : Nat} {d : Int} (q : inU x h k m d = true) : (ndOf h k).saga = (ndOf h m).saga := by
  simp only [inU, Bool.or_eq_true, Bool.and_eq_true, decide_eq_true_eq] at q
  rcases q with rfl | q
  · rfl
  · exact q.1.1.1
/-- Of a catalogue with more breakpoints no unit is greater. -/
theorem unitN_finer {x y : Ctlg} (hf : ∀ c d i, x.brkAt c d i = true → y.brkAt c d i = true) {c d : Int} {a b : Nat} (q : y.unitN c d a = y.unitN c d b) : x.unitN c d a = x.unitN c d b := by
  have key : ∀ a b : Nat, a ≤ b → y.unitN c d a = y.unitN c d b → x.unitN c d a = x.unitN c d b := fun a b hab q => by
    induction b with
    | zero => rw [show a = 0 by omega]
    | succ b ih =>
      by_cases hb : a = b + 1
      · rw [hb]
      · have e : ∀ z : Ctlg, z.unitN c d (b + 1) = z.unitN c d b + if z.brkAt c d b = true then 1 else 0 := fun z => by
          unfold Ctlg.unitN
          rw [List.range_succ, List.filter_append, List.length_append]
          congr 1
          by_cases hz : z.brkAt c d b = true <;> simp [hz]
        have mono : ∀ z : Ctlg, ∀ p q : Nat, p ≤ q → z.unitN c d p ≤ z.unitN c d q := fun z p q hpq => by
          unfold Ctlg.unitN
          obtain ⟨r, rfl⟩ := Nat.exists_eq_add_of_le hpq
          rw [List.range_add, List.filter_append, List.length_append]
          omega
        have m1 := mono y a b (by omega)
        rw [e y] at q
        have hy : ¬ y.brkAt c d b = true := fun h => by rw [if_pos h] at q; omega
        rw [if_neg hy] at q
        rw [e x, if_neg fun h => hy (hf _ _ _ h)]
        exact ih (by omega) q
  rcases Nat.le_total a b with h | h
  · exact key a b h q
  · exact (key b a h q.symm).symm
theorem inU_finer {x y : Ctlg} (hf : ∀ c d i, x.brkAt c d i = true → y.brkAt c d i = true) {h : List Nod} {k m : Nat} {d : Int} (q : inU y h k m d = true) : inU x h k m d = true := by
  simp only [inU, Bool.or_eq_true, Bool.and_eq_true, decide_eq_true_eq] at q ⊢
  rcases q with q | q
  · exact .inl q
  · exact .inr ⟨q.1, unitN_finer hf q.2⟩
/-- The arcs of a history: D says which depends on which. -/
def arcB (x : Ctlg) (h : List Nod) (D : Nat → Nat → Bool) (u v : Nat) : Nat → Bool
  | 1 => decide (lastN h (ndOf h v).saga v = some u)
  | 2 => decide ((ndOf h u).saga ≠ (ndOf h v).saga) && D v u
  | 3 => (List.range h.length).any fun k => decide ((ndOf h k).saga ≠ (ndOf h v).saga) && D v k && decide (endU x h k (ndOf h v).cls h.length = some u)
  | 4 => (List.range h.length).any fun i => decide ((ndOf h i).saga ≠ (ndOf h u).saga) && D i u && decide (fstU x h i (ndOf h u).cls h.length = some v)
  | _ => false
def edgB (x : Ctlg) (h : List Nod) (D : Nat → Nat → Bool) (u v : Nat) : Bool := decide (u < h.length) && decide (v < h.length) && (arcB x h D u v 1 || arcB x h D u v 2 || arcB x h D u v 3 || arcB x h D u v 4)
theorem lastN_saga (l : List Nod) (s : Int) : ∀ (k q : Nat), lastN l s k = some q → q < l.length ∧ (ndOf l q).saga = s
  | 0, q, h => by cases h
  | k + 1, q, h => by
    unfold lastN at h
    split at h
    · rename_i hc
      cases h
      cases hk : l[k]? with
      | none => rw [hk] at hc; cases hc
      | some n =>
        rw [hk] at hc
        obtain ⟨hlt, rfl⟩ := List.getElem?_eq_some_iff.1 hk
        refine ⟨hlt, ?_⟩
        rw [ndOf_of hlt]
        simpa using hc
    · exact lastN_saga l s k q h
theorem lastN_ge (l : List Nod) (s : Int) : ∀ (k a : Nat), a < k → a < l.length → (ndOf l a).saga = s → ∃ q, lastN l s k = some q ∧ a ≤ q
  | k + 1, a, hk, hl, hs => by
    unfold lastN
    by_cases hc : l[k]?.map (·.saga) = some s
    · rw [if_pos hc]
      exact ⟨k, rfl, by omega⟩
    · rw [if_neg hc]
      have : a ≠ k := fun e => by
        subst e
        rw [List.getElem?_eq_getElem hl] at hc
        rw [ndOf_of hl] at hs
        exact hc (by simp [hs])
      exact lastN_ge l s k a (by omega) hl hs
/-- A saga's nodes: from each a way to each later one. -/
theorem chain_way (x : Ctlg) (h : List Nod) (D : Nat → Nat → Bool) : ∀ (b a : Nat), a < b → b < h.length → (ndOf h a).saga = (ndOf h b).saga → Via (fun u v => edgB x h D u v = true) h.length a b := fun b => by
  induction b using Nat.strongRecOn with
  | ind b ih =>
    intro a hab hb hs
    obtain ⟨q, hq, haq⟩ := lastN_ge h (ndOf h b).saga b a hab (by omega) hs
    obtain ⟨q1, q2⟩ := lastN_saga h _ _ _ hq
    have q3 := lastN_lt h _ _ _ hq
    have he : edgB x h D q b = true := by simp [edgB, q1, hb, arcB, hq]
    by_cases e : a = q
    · subst e
      exact .edge he
    · exact .step (ih q q3 a (by omega) q1 (by rw [q2, hs])) q1 (.edge he)
theorem finer_way {x y : Ctlg} (hf : ∀ c d i, x.brkAt c d i = true → y.brkAt c d i = true) {h : List Nod} {D : Nat → Nat → Bool} {u v : Nat} (q : edgB y h D u v = true) : Via (fun u v => edgB x h D u v = true) h.length u v := by
  simp only [edgB, Bool.and_eq_true, Bool.or_eq_true, decide_eq_true_eq] at q
  obtain ⟨⟨hu, hv⟩, q⟩ := q
  rcases q with ((q | q) | q) | q
  · refine .edge ?_
    have : arcB x h D u v 1 = true := q
    simp [edgB, hu, hv, this]
  · refine .edge ?_
    have : arcB x h D u v 2 = true := q
    simp [edgB, hu, hv, this]
  · simp only [arcB, List.any_eq_true, List.mem_range, Bool.and_eq_true, decide_eq_true_eq] at q
    obtain ⟨k, hk, ⟨hs, hd⟩, he⟩ := q
    obtain ⟨e', e1, e2, e3, e4⟩ := endU_max (x := y) (h := h) (k := k) (d := (ndOf h v).cls) h.length k hk (inU_self _ _ _ _)
    rw [he] at e1
    cases e1
    obtain ⟨e, f1, f2, f3, f4⟩ := endU_max (x := x) (h := h) (k := k) (d := (ndOf h v).cls) h.length u hu (inU_finer hf e4)
    have hedge : edgB x h D e v = true := by
      have : arcB x h D e v 3 = true := by
        simp only [arcB, List.any_eq_true, List.mem_range, Bool.and_eq_true, decide_eq_true_eq]
        exact ⟨k, hk, ⟨hs, hd⟩, f1⟩
      simp [edgB, f3, hv, this]
    by_cases eu : u = e
    · subst eu; exact .edge hedge
    · exact .step (chain_way x h D e u (by omega) f3 (by rw [← inU_saga e4, inU_saga f4])) f3 (.edge hedge)
  · simp only [arcB, List.any_eq_true, List.mem_range, Bool.and_eq_true, decide_eq_true_eq] at q
    obtain ⟨i, hi, ⟨hs, hd⟩, he⟩ := q
    obtain ⟨e', e1, e2, e4⟩ := fstU_min (x := y) (h := h) (k := i) (d := (ndOf h u).cls) h.length i hi (inU_self _ _ _ _)
    rw [he] at e1
    cases e1
    obtain ⟨e, f1, f2, f4⟩ := fstU_min (x := x) (h := h) (k := i) (d := (ndOf h u).cls) h.length v hv (inU_finer hf e4)
    have f3 : e < h.length := by omega
    have hedge : edgB x h D u e = true := by
      have : arcB x h D u e 4 = true := by
        simp only [arcB, List.any_eq_true, List.mem_range, Bool.and_eq_true, decide_eq_true_eq]
        exact ⟨i, hi, ⟨hs, hd⟩, f1⟩
      simp [edgB, f3, hu, this]
    by_cases ev : e = v
    · subst ev; exact .edge hedge
    · exact .step (.edge hedge) f3 (chain_way x h D v e (by omega) hv (by rw [← inU_saga f4, inU_saga e4]))
/-- Is a history, and its graph? -/
def goodB (x : Ctlg) (h : List Nod) (D : Nat → Nat → Bool) : Bool := histMay x h && (List.range h.length).all fun a => !fw h.length (edgB x h D) a a
theorem good_finer {x y : Ctlg} (hf : ∀ c d i, x.brkAt c d i = true → y.brkAt c d i = true) {h : List Nod} {D : Nat → Nat → Bool} (hm : histMay y h = true) (q : goodB x h D = true) : goodB y h D = true := by
  simp only [goodB, Bool.and_eq_true, List.all_eq_true, List.mem_range, Bool.not_eq_true'] at q ⊢
  refine ⟨hm, fun a ha => ?_⟩
  rw [Bool.eq_false_iff]
  intro hl
  have := fw_loop (fun u v e => finer_way hf e) ha hl
  rw [q.2 a ha] at this
  cases this
end Go.Proofs

/- The statement UnitsConflict: its function hands back true. -/
namespace Go.Proofs
open Go Go.RowKit Go.Am

def rdS (n : Nod) : List Sp := n.reads.map spP
def wrS (n : Nod) : List Sp := n.writes.map spP
def Nod.small (n : Nod) : Prop := n.reads.length ≤ 40 ∧ n.writes.length ≤ 40
/-- Do two nodes conflict? -/
def confl (a b : Nod) : Bool := decide (a.saga ≠ b.saga) && (meetL (wrS a) (rdS b) || meetL (wrS a) (wrS b) || meetL (rdS a) (wrS b))
theorem encNod_sp (n : Nod) : encNod n = [.int .i64 n.saga, .int .i64 n.cls, .int .i64 n.step, .bool n.back, encL (rdS n), encL (wrS n)] := by
  rw [encNod, encL_spn, encL_spn]; rfl

set_option maxHeartbeats 1000000 in
theorem refConflict_ok (a b : Nod) (ha : a.small) (hb : b.small) : PCall Tryz.prog 115 [.agg (encNod a), .agg (encNod b)] (.bool (confl a b)) := by
  have p := pures2 (.agg (pure_encNod a)) (.agg (pure_encNod b))
  have l1 : (rdS a).length ≤ 40 := by rw [rdS, List.length_map]; exact ha.1
  have l2 : (wrS a).length ≤ 40 := by rw [wrS, List.length_map]; exact ha.2
  have l3 : (rdS b).length ≤ 40 := by rw [rdS, List.length_map]; exact hb.1
  have l4 : (wrS b).length ≤ 40 := by rw [wrS, List.length_map]; exact hb.2
  rw [encNod_sp, encNod_sp] at p ⊢
  refine PCall.run hb115 ok115 (by simp) p (.bool _) ?_
  by_cases hs : a.saga = b.saga
  · simp -implicitDefEqProofs [H.nil, confl, hs]
  · simp -implicitDefEqProofs [H.nil, confl, hs]
    rw [meet_sets, meet_sets, meet_sets]
    have o1 := refOf_ok (rdS a) (by omega)
    have o2 := refOf_ok (wrS a) (by omega)
    have o3 := refOf_ok (rdS b) (by omega)
    have o4 := refOf_ok (wrS b) (by omega)
    generalize (fun k : Nat => hasK (rdS a) k) = f1 at o1 ⊢
    generalize (fun k : Nat => hasK (wrS a) k) = f2 at o2 ⊢
    generalize (fun k : Nat => hasK (rdS b) k) = f3 at o3 ⊢
    generalize (fun k : Nat => hasK (wrS b) k) = f4 at o4 ⊢
    refine run_dreg c115_d4 ?_
    simp -implicitDefEqProofs []
    refine callD_p o1 (by simp [wk_encL]) ?_
    simp -implicitDefEqProofs []
    refine callD_p o2 (by simp [wk_encL]) ?_
    simp -implicitDefEqProofs []
    refine callD_p o3 (by simp [wk_encL]) ?_
    simp -implicitDefEqProofs []
    refine callD_p o4 (by simp [wk_encL]) ?_
    simp -implicitDefEqProofs []
    refine callQ_p (refMeet_ok f2 f3) (by simp [wk_setP]) ?_
    cases h1 : meetB f2 f3
    · simp -implicitDefEqProofs []
      refine callQ_p (refMeet_ok f2 f4) (by simp [wk_setP]) ?_
      cases h2 : meetB f2 f4
      · simp -implicitDefEqProofs []
        refine callQ_p (refMeet_ok f1 f4) (by simp [wk_setP]) ?_
        simp -implicitDefEqProofs []
      · simp -implicitDefEqProofs []
    · simp -implicitDefEqProofs []

end Go.Proofs

/- A relation in boxes: a list of rows. The document closes it. -/
namespace Go.Proofs
open Go Go.RowKit Go.Am

def rowN (n : Nat) (F : Nat → AV) : List AV := (List.range n).map F
@[simp] theorem rowN_len (n : Nat) (F : Nat → AV) : (rowN n F).length = n := by simp only [rowN, List.length_map, List.length_range]
theorem rowN_get {n : Nat} (F : Nat → AV) {k : Nat} (hk : k < n) : (rowN n F)[k]? = some (F k) := by
  rw [rowN, List.getElem?_map, List.getElem?_range hk]; rfl
theorem rowN_at {n : Nat} (F : Nat → AV) {k : Nat} (hk : k < n) : List.take 1 (List.drop k (rowN n F)) = [F k] := by
  have h := rowN_get F hk
  have hl : k < (rowN n F).length := by rw [rowN_len]; exact hk
  rw [List.getElem?_eq_getElem hl, Option.some.injEq] at h
  rw [List.drop_eq_getElem_cons hl, h]
  rfl
theorem rowN_put {n : Nat} (F : Nat → AV) {k : Nat} (hk : k < n) (v : AV) : List.take k (rowN n F) ++ v :: List.drop (k + 1) (rowN n F) = rowN n fun i => if i = k then v else F i := by
  have e : rowN n (fun i => if i = k then v else F i) = (rowN n F).set k v := by
    refine List.ext_getElem? fun i => ?_
    rw [List.getElem?_set]
    by_cases hi : i < n
    · by_cases hik : k = i
      · subst hik
        rw [if_pos rfl, if_pos (by rw [rowN_len]; exact hk), rowN_get _ hk, if_pos rfl]
      · rw [if_neg hik, rowN_get _ hi, rowN_get _ hi, if_neg (fun e => hik e.symm)]
    · by_cases hik : k = i
      · omega
      · rw [if_neg hik, List.getElem?_eq_none (by rw [rowN_len]; omega), List.getElem?_eq_none (by rw [rowN_len]; omega)]
  rw [e, List.set_eq_take_append_cons_drop, if_pos (by rw [rowN_len]; exact hk)]
theorem rowN_congr {n : Nat} {F G : Nat → AV} (h : ∀ k, k < n → F k = G k) : rowN n F = rowN n G := by
  unfold rowN
  exact List.map_congr_left fun k hk => h k (List.mem_range.1 hk)
theorem rowN_rep (n : Nat) (v : AV) : (List.replicate n [v]).flatten = rowN n fun _ => v := by
  refine List.ext_getElem? fun i => ?_
  have e : (List.replicate n [v]).flatten = List.replicate n v := by
    induction n with
    | zero => rfl
    | succ n ih => rw [List.replicate_succ, List.flatten_cons, ih]; rfl
  rw [e]
  by_cases hi : i < n
  · rw [rowN_get _ hi, List.getElem?_replicate, if_pos hi]
  · rw [List.getElem?_eq_none (by rw [List.length_replicate]; omega), List.getElem?_eq_none (by rw [rowN_len]; omega)]

/-- A relation of n nodes that lies in a box of rows. -/
structure Rel (h : H) (b : Nat) (c : Nat → Nat) (n : Nat) (W : Nat → Nat → Bool) : Prop where
  bl : b < h.bn
  bx : h.bx b = some (rowN n fun i => .msl (c i) 1 0 n)
  cl : ∀ i, i < n → c i < h.bn
  cb : ∀ i, i < n → c i ≠ b
  cc : ∀ i j, i < n → j < n → i ≠ j → c i ≠ c j
  cx : ∀ i, i < n → h.bx (c i) = some (rowN n fun k => .bool (W i k))
theorem Rel.set {h : H} {b n i k : Nat} {c : Nat → Nat} {W : Nat → Nat → Bool} (R : Rel h b c n W) (hi : i < n) (v : Bool) (V : Nat → Nat → Bool) (hV : ∀ a j, V a j = if a = i ∧ j = k then v else W a j) : Rel (h.set (c i) (rowN n fun j => if j = k then .bool v else .bool (W i j))) b c n V := by
  refine ⟨by simpa using R.bl, ?_, fun a ha => by simpa using R.cl a ha, R.cb, R.cc, fun a ha => ?_⟩
  · have := R.cb i hi
    simp only [set_bx]
    rw [if_neg (Ne.symm this)]
    exact R.bx
  · simp only [set_bx]
    by_cases e : a = i
    · subst e
      rw [if_pos rfl]
      refine congrArg some (rowN_congr fun j _ => ?_)
      rw [hV]
      by_cases hj : j = k
      · rw [if_pos hj, if_pos ⟨rfl, hj⟩]
      · rw [if_neg hj, if_neg fun q => hj q.2]
    · rw [if_neg (R.cc a i ha hi e), R.cx a ha]
      refine congrArg some (rowN_congr fun j _ => ?_)
      rw [hV, if_neg fun q => e q.1]
theorem Rel.keep {h h' : H} {b n : Nat} {c : Nat → Nat} {W : Nat → Nat → Bool} {B T : Nat → Prop} (R : Rel h b c n W) (f : HF h h' B T) (hb : ¬ B b) (hc : ∀ i, i < n → ¬ B (c i)) : Rel h' b c n W :=
  ⟨Nat.lt_of_lt_of_le R.bl f.bn, by rw [f.bx b R.bl hb, R.bx], fun i hi => Nat.lt_of_lt_of_le (R.cl i hi) f.bn, R.cb, R.cc, fun i hi => by rw [f.bx _ (R.cl i hi) (hc i hi), R.cx i hi]⟩
theorem Rel.congr {h : H} {b n : Nat} {c : Nat → Nat} {W V : Nat → Nat → Bool} (R : Rel h b c n W) (e : ∀ i j, i < n → j < n → W i j = V i j) : Rel h b c n V :=
  ⟨R.bl, R.bx, R.cl, R.cb, R.cc, fun i hi => by rw [R.cx i hi]; exact congrArg some (rowN_congr fun k hk => by rw [e i k hi hk])⟩

set_option maxHeartbeats 2000000 in
theorem fwOf_run {n b : Nat} {c : Nat → Nat} {W : Nat → Nat → Bool} (hn : n ≤ 100) {S : Slots} {h : H} (R : Rel h b c n W) (sn : S 3 = .int .i64 n) (sw : S 4 = .msl b 1 0 n) (sm : S 7 = .int .i64 0) {k : List It} {Q : Res → Slots → H → Prop}
    (hk : ∀ S' h', S' 3 = .int .i64 n → S' 4 = .msl b 1 0 n → (∀ y, y < 7 → S' y = S y) → Rel h' b c n (fw n W) → HF h h' (fun x => ∃ i, i < n ∧ x = c i) (fun _ => False) → h'.bn = h.bn → Run Tryz.prog false k Q S' h') :
    Run Tryz.prog false (.c (.loop c102_l27) :: .blk 4 :: k) Q S h := by
  let h0 := h
  let S0 := S
  refine run_loop (fun q S h => ∃ m : Nat, q = n - m ∧ m ≤ n ∧ S 3 = .int .i64 n ∧ S 4 = .msl b 1 0 n ∧ S 7 = .int .i64 m ∧ (∀ y, y < 7 → S y = S0 y) ∧ Rel h b c n (fwM n W m) ∧ HF h0 h (fun x => ∃ i, i < n ∧ x = c i) (fun _ => False) ∧ h.bn = h0.bn) ?_ n ?_
  rotate_left
  · exact ⟨0, rfl, Nat.zero_le _, sn, sw, sm, fun _ _ => rfl, R, HF.refl _ _ _, rfl⟩
  clear sn sw sm R
  rintro q S h ⟨m, hq, hm, sn, sw, sm, un, R, hf, hb⟩ ih
  by_cases hlm : m < n
  · have im := idxOf_nat (k := .i64) hlm
    simp -implicitDefEqProofs [sn, sm, hlm]
    refine run_loop (fun q S h => ∃ i : Nat, q = n - i ∧ i ≤ n ∧ S 3 = .int .i64 n ∧ S 4 = .msl b 1 0 n ∧ S 7 = .int .i64 m ∧ S 8 = .int .i64 i ∧ (∀ y, y < 7 → S y = S0 y) ∧ Rel h b c n (fwI n m (fwM n W m) i) ∧ HF h0 h (fun x => ∃ i, i < n ∧ x = c i) (fun _ => False) ∧ h.bn = h0.bn) ?_ n ?_
    rotate_left
    · refine ⟨0, rfl, Nat.zero_le _, by simp [sn], by simp [sw], by simp [sm], by simp, fun y hy => ?_, R, hf, hb⟩
      refine Eq.trans ?_ (un y hy)
      simp only [su]; repeat (rw [if_neg (by omega)])
    clear sn sw sm un R hf hb
    rintro q S h ⟨i, hq, hi, sn, sw, sm, si, un, R, hf, hb⟩ ih2
    by_cases hli : i < n
    · have ii := idxOf_nat (k := .i64) hli
      simp -implicitDefEqProofs [sn, si, hli]
      refine run_loop (fun q S h => ∃ j : Nat, q = n - j ∧ j ≤ n ∧ S 3 = .int .i64 n ∧ S 4 = .msl b 1 0 n ∧ S 7 = .int .i64 m ∧ S 8 = .int .i64 i ∧ S 9 = .int .i64 j ∧ (∀ y, y < 7 → S y = S0 y) ∧ Rel h b c n (fwK m i (fwI n m (fwM n W m) i) j) ∧ HF h0 h (fun x => ∃ i, i < n ∧ x = c i) (fun _ => False) ∧ h.bn = h0.bn) ?_ n ?_
      rotate_left
      · refine ⟨0, rfl, Nat.zero_le _, by simp [sn], by simp [sw], by simp [sm], by simp [si], by simp, fun y hy => ?_, R, hf, hb⟩
        refine Eq.trans ?_ (un y hy)
        simp only [su]; repeat (rw [if_neg (by omega)])
      clear sn sw sm si un R hf hb
      rintro q S h ⟨j, hq, hj, sn, sw, sm, si, sj, un, R, hf, hb⟩ ih3
      by_cases hlj : j < n
      · have ij := idxOf_nat (k := .i64) hlj
        generalize hV : fwK m i (fwI n m (fwM n W m) i) j = V at R
        have hnx : fwK m i (fwI n m (fwM n W m) i) (j + 1) = if V i m = true ∧ V m j = true then upd2 V i j else V := by
          show (if fwK m i (fwI n m (fwM n W m) i) j i m = true ∧ fwK m i (fwI n m (fwM n W m) i) j m j = true then upd2 (fwK m i (fwI n m (fwM n W m) i) j) i j else fwK m i (fwI n m (fwM n W m) i) j) = _
          rw [hV]
        have rb := R.bx
        have rl := R.bl
        have ri := R.cx i hli
        have li := R.cl i hli
        have rm := R.cx m hlm
        have lm := R.cl m hlm
        have ab := rowN_at (n := n) (fun i => AV.msl (c i) 1 0 n) hli
        have am := rowN_at (n := n) (fun i => AV.msl (c i) 1 0 n) hlm
        have a1 := rowN_at (n := n) (fun k => AV.bool (V i k)) hlm
        have a2 := rowN_at (n := n) (fun k => AV.bool (V m k)) hlj
        have hge1 : m + 1 ≤ n := hlm
        have hge2 : i + 1 ≤ n := hli
        have hge3 : j + 1 ≤ n := hlj
        cases v1 : V i m
        · rw [v1] at a1
          have hw : (if V i m = true ∧ V m j = true then upd2 V i j else V) = V := if_neg fun q => by rw [v1] at q; exact absurd q.1 (by decide)
          rw [hw] at hnx
          simp -implicitDefEqProofs [sn, sw, sm, si, sj, hlj, rb, rl, ri, li, ab, a1, hli, hlm, hge1, hge2, inc_i64 hlj (by omega), -Int.natCast_add]
          refine ih3 (n - (j + 1)) _ _ (by omega) ⟨j + 1, rfl, by omega, by simp [sn], by simp [sw], by simp [sm], by simp [si], by simp, fun y hy => ?_, by rw [hnx]; exact R, hf, hb⟩
          refine Eq.trans ?_ (un y hy)
          simp only [su]; repeat (rw [if_neg (by omega)])
        · rw [v1] at a1
          cases v2 : V m j
          · rw [v2] at a2
            have hw : (if V i m = true ∧ V m j = true then upd2 V i j else V) = V := if_neg fun q => by rw [v2] at q; exact absurd q.2 (by decide)
            rw [hw] at hnx
            simp -implicitDefEqProofs [sn, sw, sm, si, sj, hlj, rb, rl, ri, li, rm, lm, ab, am, a1, a2, hli, hlm, hge1, hge2, hge3, inc_i64 hlj (by omega), -Int.natCast_add]
            refine ih3 (n - (j + 1)) _ _ (by omega) ⟨j + 1, rfl, by omega, by simp [sn], by simp [sw], by simp [sm], by simp [si], by simp, fun y hy => ?_, by rw [hnx]; exact R, hf, hb⟩
            refine Eq.trans ?_ (un y hy)
            simp only [su]; repeat (rw [if_neg (by omega)])
          · rw [v2] at a2
            have hw : (if V i m = true ∧ V m j = true then upd2 V i j else V) = upd2 V i j := if_pos ⟨v1, v2⟩
            rw [hw] at hnx
            have hp := rowN_put (n := n) (fun k => AV.bool (V i k)) hlj (.bool true)
            simp -implicitDefEqProofs [sn, sw, sm, si, sj, hlj, rb, rl, ri, li, rm, lm, ab, am, a1, a2, hli, hlm, hge1, hge2, hge3, inc_i64 hlj (by omega), -Int.natCast_add]
            rw [hp]
            refine ih3 (n - (j + 1)) _ _ (by omega) ⟨j + 1, rfl, by omega, by simp [sn], by simp [sw], by simp [sm], by simp [si], by simp, fun y hy => ?_, by rw [hnx]; exact R.set hli true _ fun a d => rfl, hf.trans (HF.set (B := fun x => ∃ i, i < n ∧ x = c i) _ ⟨i, hli, rfl⟩), by simpa using hb⟩
            refine Eq.trans ?_ (un y hy)
            simp only [su]; repeat (rw [if_neg (by omega)])
      · obtain rfl : j = n := by omega
        simp -implicitDefEqProofs [sn, si, sj, inc_i64 hli (by omega), -Int.natCast_add]
        refine ih2 (j - (i + 1)) _ _ (by omega) ⟨i + 1, rfl, by omega, by simp [sn], by simp [sw], by simp [sm], by simp, fun y hy => ?_, R, hf, hb⟩
        refine Eq.trans ?_ (un y hy)
        simp only [su]; repeat (rw [if_neg (by omega)])
    · obtain rfl : i = n := by omega
      simp -implicitDefEqProofs [sn, sm, si, inc_i64 hlm (by omega), -Int.natCast_add]
      refine ih (i - (m + 1)) _ _ (by omega) ⟨m + 1, rfl, by omega, by simp [sn], by simp [sw], by simp, fun y hy => ?_, R, hf, hb⟩
      refine Eq.trans ?_ (un y hy)
      simp only [su]; repeat (rw [if_neg (by omega)])
  · obtain rfl : m = n := by omega
    simp -implicitDefEqProofs [sn, sm]
    refine hk _ _ (by simp [sn]) (by simp [sw]) (fun y hy => ?_) R hf hb
    refine Eq.trans ?_ (un y hy)
    simp only [su]; repeat (rw [if_neg (by omega)])

set_option maxHeartbeats 2000000 in
theorem fwWays_run {n b : Nat} {c : Nat → Nat} {W : Nat → Nat → Bool} (hn : n ≤ 100) {S : Slots} {h : H} (R : Rel h b c n W) (sn : S 5 = .int .i64 n) (sw : S 6 = .msl b 1 0 n) (sm : S 10 = .int .i64 0) {k : List It} {Q : Res → Slots → H → Prop}
    (hk : ∀ S' h', S' 5 = .int .i64 n → S' 6 = .msl b 1 0 n → (∀ y, y < 10 → S' y = S y) → Rel h' b c n (fw n W) → HF h h' (fun x => ∃ i, i < n ∧ x = c i) (fun _ => False) → h'.bn = h.bn → Run Tryz.prog false k Q S' h') :
    Run Tryz.prog false (.c (.loop c56_l28) :: .blk 4 :: k) Q S h := by
  let h0 := h
  let S0 := S
  refine run_loop (fun q S h => ∃ m : Nat, q = n - m ∧ m ≤ n ∧ S 5 = .int .i64 n ∧ S 6 = .msl b 1 0 n ∧ S 10 = .int .i64 m ∧ (∀ y, y < 10 → S y = S0 y) ∧ Rel h b c n (fwM n W m) ∧ HF h0 h (fun x => ∃ i, i < n ∧ x = c i) (fun _ => False) ∧ h.bn = h0.bn) ?_ n ?_
  rotate_left
  · exact ⟨0, rfl, Nat.zero_le _, sn, sw, sm, fun _ _ => rfl, R, HF.refl _ _ _, rfl⟩
  clear sn sw sm R
  rintro q S h ⟨m, hq, hm, sn, sw, sm, un, R, hf, hb⟩ ih
  by_cases hlm : m < n
  · have im := idxOf_nat (k := .i64) hlm
    simp -implicitDefEqProofs [sn, sm, hlm]
    refine run_loop (fun q S h => ∃ i : Nat, q = n - i ∧ i ≤ n ∧ S 5 = .int .i64 n ∧ S 6 = .msl b 1 0 n ∧ S 10 = .int .i64 m ∧ S 11 = .int .i64 i ∧ (∀ y, y < 10 → S y = S0 y) ∧ Rel h b c n (fwI n m (fwM n W m) i) ∧ HF h0 h (fun x => ∃ i, i < n ∧ x = c i) (fun _ => False) ∧ h.bn = h0.bn) ?_ n ?_
    rotate_left
    · refine ⟨0, rfl, Nat.zero_le _, by simp [sn], by simp [sw], by simp [sm], by simp, fun y hy => ?_, R, hf, hb⟩
      refine Eq.trans ?_ (un y hy)
      simp only [su]; repeat (rw [if_neg (by omega)])
    clear sn sw sm un R hf hb
    rintro q S h ⟨i, hq, hi, sn, sw, sm, si, un, R, hf, hb⟩ ih2
    by_cases hli : i < n
    · have ii := idxOf_nat (k := .i64) hli
      simp -implicitDefEqProofs [sn, si, hli]
      refine run_loop (fun q S h => ∃ j : Nat, q = n - j ∧ j ≤ n ∧ S 5 = .int .i64 n ∧ S 6 = .msl b 1 0 n ∧ S 10 = .int .i64 m ∧ S 11 = .int .i64 i ∧ S 12 = .int .i64 j ∧ (∀ y, y < 10 → S y = S0 y) ∧ Rel h b c n (fwK m i (fwI n m (fwM n W m) i) j) ∧ HF h0 h (fun x => ∃ i, i < n ∧ x = c i) (fun _ => False) ∧ h.bn = h0.bn) ?_ n ?_
      rotate_left
      · refine ⟨0, rfl, Nat.zero_le _, by simp [sn], by simp [sw], by simp [sm], by simp [si], by simp, fun y hy => ?_, R, hf, hb⟩
        refine Eq.trans ?_ (un y hy)
        simp only [su]; repeat (rw [if_neg (by omega)])
      clear sn sw sm si un R hf hb
      rintro q S h ⟨j, hq, hj, sn, sw, sm, si, sj, un, R, hf, hb⟩ ih3
      by_cases hlj : j < n
      · have ij := idxOf_nat (k := .i64) hlj
        generalize hV : fwK m i (fwI n m (fwM n W m) i) j = V at R
        have hnx : fwK m i (fwI n m (fwM n W m) i) (j + 1) = if V i m = true ∧ V m j = true then upd2 V i j else V := by
          show (if fwK m i (fwI n m (fwM n W m) i) j i m = true ∧ fwK m i (fwI n m (fwM n W m) i) j m j = true then upd2 (fwK m i (fwI n m (fwM n W m) i) j) i j else fwK m i (fwI n m (fwM n W m) i) j) = _
          rw [hV]
        have rb := R.bx
        have rl := R.bl
        have ri := R.cx i hli
        have li := R.cl i hli
        have rm := R.cx m hlm
        have lm := R.cl m hlm
        have ab := rowN_at (n := n) (fun i => AV.msl (c i) 1 0 n) hli
        have am := rowN_at (n := n) (fun i => AV.msl (c i) 1 0 n) hlm
        have a1 := rowN_at (n := n) (fun k => AV.bool (V i k)) hlm
        have a2 := rowN_at (n := n) (fun k => AV.bool (V m k)) hlj
        have hge1 : m + 1 ≤ n := hlm
        have hge2 : i + 1 ≤ n := hli
        have hge3 : j + 1 ≤ n := hlj
        cases v1 : V i m
        · rw [v1] at a1
          have hw : (if V i m = true ∧ V m j = true then upd2 V i j else V) = V := if_neg fun q => by rw [v1] at q; exact absurd q.1 (by decide)
          rw [hw] at hnx
          simp -implicitDefEqProofs [sn, sw, sm, si, sj, hlj, rb, rl, ri, li, ab, a1, hli, hlm, hge1, hge2, inc_i64 hlj (by omega), -Int.natCast_add]
          refine ih3 (n - (j + 1)) _ _ (by omega) ⟨j + 1, rfl, by omega, by simp [sn], by simp [sw], by simp [sm], by simp [si], by simp, fun y hy => ?_, by rw [hnx]; exact R, hf, hb⟩
          refine Eq.trans ?_ (un y hy)
          simp only [su]; repeat (rw [if_neg (by omega)])
        · rw [v1] at a1
          cases v2 : V m j
          · rw [v2] at a2
            have hw : (if V i m = true ∧ V m j = true then upd2 V i j else V) = V := if_neg fun q => by rw [v2] at q; exact absurd q.2 (by decide)
            rw [hw] at hnx
            simp -implicitDefEqProofs [sn, sw, sm, si, sj, hlj, rb, rl, ri, li, rm, lm, ab, am, a1, a2, hli, hlm, hge1, hge2, hge3, inc_i64 hlj (by omega), -Int.natCast_add]
            refine ih3 (n - (j + 1)) _ _ (by omega) ⟨j + 1, rfl, by omega, by simp [sn], by simp [sw], by simp [sm], by simp [si], by simp, fun y hy => ?_, by rw [hnx]; exact R, hf, hb⟩
            refine Eq.trans ?_ (un y hy)
            simp only [su]; repeat (rw [if_neg (by omega)])
          · rw [v2] at a2
            have hw : (if V i m = true ∧ V m j = true then upd2 V i j else V) = upd2 V i j := if_pos ⟨v1, v2⟩
            rw [hw] at hnx
            have hp := rowN_put (n := n) (fun k => AV.bool (V i k)) hlj (.bool true)
            simp -implicitDefEqProofs [sn, sw, sm, si, sj, hlj, rb, rl, ri, li, rm, lm, ab, am, a1, a2, hli, hlm, hge1, hge2, hge3, inc_i64 hlj (by omega), -Int.natCast_add]
            rw [hp]
            refine ih3 (n - (j + 1)) _ _ (by omega) ⟨j + 1, rfl, by omega, by simp [sn], by simp [sw], by simp [sm], by simp [si], by simp, fun y hy => ?_, by rw [hnx]; exact R.set hli true _ fun a d => rfl, hf.trans (HF.set (B := fun x => ∃ i, i < n ∧ x = c i) _ ⟨i, hli, rfl⟩), by simpa using hb⟩
            refine Eq.trans ?_ (un y hy)
            simp only [su]; repeat (rw [if_neg (by omega)])
      · obtain rfl : j = n := by omega
        simp -implicitDefEqProofs [sn, si, sj, inc_i64 hli (by omega), -Int.natCast_add]
        refine ih2 (j - (i + 1)) _ _ (by omega) ⟨i + 1, rfl, by omega, by simp [sn], by simp [sw], by simp [sm], by simp, fun y hy => ?_, R, hf, hb⟩
        refine Eq.trans ?_ (un y hy)
        simp only [su]; repeat (rw [if_neg (by omega)])
    · obtain rfl : i = n := by omega
      simp -implicitDefEqProofs [sn, sm, si, inc_i64 hlm (by omega), -Int.natCast_add]
      refine ih (i - (m + 1)) _ _ (by omega) ⟨m + 1, rfl, by omega, by simp [sn], by simp [sw], by simp, fun y hy => ?_, R, hf, hb⟩
      refine Eq.trans ?_ (un y hy)
      simp only [su]; repeat (rw [if_neg (by omega)])
  · obtain rfl : m = n := by omega
    simp -implicitDefEqProofs [sn, sm]
    refine hk _ _ (by simp [sn]) (by simp [sw]) (fun y hy => ?_) R hf hb
    refine Eq.trans ?_ (un y hy)
    simp only [su]; repeat (rw [if_neg (by omega)])
end Go.Proofs
