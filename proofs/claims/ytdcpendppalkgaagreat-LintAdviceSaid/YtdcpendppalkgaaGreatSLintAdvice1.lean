/- What the functions that the statement reaches do: their contracts; and what follows of it. -/
import Derived.Test.YtdcpendppalkgaaGreatK4
import Derived.Test.YtdcpendppalkgaaGreatCLintAdvice
import Derived.Test.YtdcpendppalkgaaGreatProg
import Derived.Shelf.Spec.SlicesGrow
/- Sets of keys, as spans: plain lists, plainly; no program in sight. -/
namespace Go.Proofs
open Go Go.RowKit Go.Am

abbrev Sp := Int × Int
def mayS (s : Sp) : Bool := decide (0 ≤ s.1) && decide (s.1 ≤ s.2) && decide (s.2 ≤ 999)
def inS (s : Sp) (k : Int) : Bool := mayS s && decide (s.1 ≤ k) && decide (k ≤ s.2)
def hasK (l : List Sp) (k : Int) : Bool := l.any fun s => inS s k
def isPlain (l : List Sp) : Prop := (∀ s ∈ l, mayS s = true) ∧ l.Pairwise fun s t => s.2 + 1 < t.1

theorem mayS_iff {s : Sp} : mayS s = true ↔ 0 ≤ s.1 ∧ s.1 ≤ s.2 ∧ s.2 ≤ 999 := by
  simp only [mayS, Bool.and_eq_true, decide_eq_true_eq, and_assoc]
theorem inS_iff {s : Sp} {k : Int} : inS s k = true ↔ mayS s = true ∧ s.1 ≤ k ∧ k ≤ s.2 := by
  simp only [inS, Bool.and_eq_true, decide_eq_true_eq, and_assoc]
theorem hasK_iff {l : List Sp} {k : Int} : hasK l k = true ↔ ∃ s ∈ l, mayS s = true ∧ s.1 ≤ k ∧ k ≤ s.2 := by
  simp only [hasK, List.any_eq_true, inS_iff]
theorem hasK_nil (k : Int) : hasK [] k = false := rfl
theorem hasK_cons (s : Sp) (l : List Sp) (k : Int) : hasK (s :: l) k = (inS s k || hasK l k) := rfl
theorem hasK_app (l m : List Sp) (k : Int) : hasK (l ++ m) k = (hasK l k || hasK m k) := by simp [hasK]
theorem hasK_range {l : List Sp} {k : Int} (h : hasK l k = true) : 0 ≤ k ∧ k ≤ 999 := by
  obtain ⟨s, _, h1, h2, h3⟩ := hasK_iff.1 h
  have := mayS_iff.1 h1
  omega
theorem hasK_perm {l m : List Sp} (h : l.Perm m) (k : Int) : hasK l k = hasK m k := by
  rw [Bool.eq_iff_iff, hasK_iff, hasK_iff]
  exact ⟨fun ⟨s, q1, q2⟩ => ⟨s, h.mem_iff.1 q1, q2⟩, fun ⟨s, q1, q2⟩ => ⟨s, h.mem_iff.2 q1, q2⟩⟩
theorem hasK_filter (l : List Sp) (k : Int) : hasK (l.filter mayS) k = hasK l k := by
  rw [Bool.eq_iff_iff, hasK_iff, hasK_iff]
  exact ⟨fun ⟨s, q1, q2⟩ => ⟨s, (List.mem_filter.1 q1).1, q2⟩, fun ⟨s, q1, q2⟩ => ⟨s, List.mem_filter.2 ⟨q1, q2.1⟩, q2⟩⟩

theorem isPlain_cons {s : Sp} {l : List Sp} : isPlain (s :: l) ↔ mayS s = true ∧ (∀ t ∈ l, s.2 + 1 < t.1) ∧ isPlain l := by
  simp only [isPlain, List.mem_cons, forall_eq_or_imp, List.pairwise_cons]
  exact ⟨fun ⟨⟨a, b⟩, c, d⟩ => ⟨a, c, b, d⟩, fun ⟨a, c, b, d⟩ => ⟨⟨a, b⟩, c, d⟩⟩

theorem plain_low {s : Sp} {l : List Sp} (h : isPlain (s :: l)) {k : Int} (hk : hasK (s :: l) k = true) : s.1 ≤ k := by
  obtain ⟨h1, h2, h3⟩ := isPlain_cons.1 h
  obtain ⟨t, q1, q2, q3, q4⟩ := hasK_iff.1 hk
  have := mayS_iff.1 h1
  rcases List.mem_cons.1 q1 with rfl | q1
  · exact q3
  · have := h2 t q1; omega
theorem plain_head {s : Sp} {l : List Sp} (h : isPlain (s :: l)) : hasK (s :: l) s.1 = true := by
  obtain ⟨h1, _, _⟩ := isPlain_cons.1 h
  have := mayS_iff.1 h1
  exact hasK_iff.2 ⟨s, by simp, h1, by omega, by omega⟩
theorem plain_gap {s : Sp} {l : List Sp} (h : isPlain (s :: l)) {k : Int} (hk : hasK (s :: l) k = true) : k ≤ s.2 ∨ s.2 + 1 < k := by
  obtain ⟨h1, h2, h3⟩ := isPlain_cons.1 h
  obtain ⟨t, q1, q2, q3, q4⟩ := hasK_iff.1 hk
  rcases List.mem_cons.1 q1 with rfl | q1
  · exact .inl q4
  · have := h2 t q1; exact .inr (by omega)
theorem plain_tail {s : Sp} {l : List Sp} (h : isPlain (s :: l)) (k : Int) : hasK l k = (hasK (s :: l) k && decide (s.2 < k)) := by
  obtain ⟨h1, h2, h3⟩ := isPlain_cons.1 h
  rw [hasK_cons]
  by_cases hk : s.2 < k
  · have : inS s k = false := by
      rw [Bool.eq_false_iff]; intro e
      have := inS_iff.1 e; omega
    rw [this]; simp [hk]
  · have : hasK l k = false := by
      rw [Bool.eq_false_iff]; intro e
      obtain ⟨t, q1, _, q3, _⟩ := hasK_iff.1 e
      have := h2 t q1; omega
    rw [this]; simp [hk]

theorem plain_unique : ∀ {l m : List Sp}, isPlain l → isPlain m → (∀ k, hasK l k = hasK m k) → l = m
  | [], [], _, _, _ => rfl
  | [], t :: m, _, hm, h => by have := plain_head hm; rw [← h] at this; cases this
  | s :: l, [], hl, _, h => by have := plain_head hl; rw [h] at this; cases this
  | s :: l, t :: m, hl, hm, h => by
    have a1 := plain_low hm (by rw [← h]; exact plain_head hl)
    have a2 := plain_low hl (by rw [h]; exact plain_head hm)
    have ms := mayS_iff.1 (isPlain_cons.1 hl).1
    have mt := mayS_iff.1 (isPlain_cons.1 hm).1
    have b1 : s.2 ≤ t.2 := by
      have : hasK (s :: l) s.2 = true := hasK_iff.2 ⟨s, by simp, (isPlain_cons.1 hl).1, by omega, by omega⟩
      have g := fun k (hk : hasK (s :: l) k = true) => plain_gap hm (by rw [← h]; exact hk)
      by_cases hlt : s.2 ≤ t.2
      · exact hlt
      · exfalso
        have := g (t.2 + 1) (hasK_iff.2 ⟨s, by simp, (isPlain_cons.1 hl).1, by omega, by omega⟩)
        omega
    have b2 : t.2 ≤ s.2 := by
      have g := fun k (hk : hasK (t :: m) k = true) => plain_gap hl (by rw [h]; exact hk)
      by_cases hlt : t.2 ≤ s.2
      · exact hlt
      · exfalso
        have := g (s.2 + 1) (hasK_iff.2 ⟨t, by simp, (isPlain_cons.1 hm).1, by omega, by omega⟩)
        omega
    have e : s = t := Prod.ext (by omega) (by omega)
    subst e
    rw [plain_unique (isPlain_cons.1 hl).2.2 (isPlain_cons.1 hm).2.2 fun k => by rw [plain_tail hl, plain_tail hm, h]]

/-! ### The plain list of a set -/
def extL (l : List Sp) (k : Int) : List Sp :=
  match l.getLast? with
  | some t => l.dropLast ++ [(t.1, k)]
  | none => []
def plainTo (f : Nat → Bool) : Nat → List Sp
  | 0 => []
  | k + 1 => if f k then (if 0 < k ∧ f (k - 1) = true then extL (plainTo f k) k else plainTo f k ++ [((k : Int), (k : Int))]) else plainTo f k
def plainOf (f : Nat → Bool) : List Sp := plainTo f 1000

theorem extL_snoc (o : List Sp) (t : Sp) (k : Int) : extL (o ++ [t]) k = o ++ [(t.1, k)] := by
  simp [extL]

def setOf (f : Nat → Bool) (n : Nat) (k : Int) : Bool := decide (0 ≤ k) && decide (k < n) && f k.toNat
theorem setOf_iff {f : Nat → Bool} {n : Nat} {k : Int} : setOf f n k = true ↔ 0 ≤ k ∧ k < n ∧ f k.toNat = true := by
  simp only [setOf, Bool.and_eq_true, decide_eq_true_eq, and_assoc]

theorem isPlain_snoc {o : List Sp} {t : Sp} : isPlain (o ++ [t]) ↔ isPlain o ∧ mayS t = true ∧ ∀ s ∈ o, s.2 + 1 < t.1 := by
  simp only [isPlain, List.mem_append, List.mem_singleton, List.pairwise_append, List.pairwise_singleton, true_and]
  constructor
  · rintro ⟨h1, h2, h3⟩
    exact ⟨⟨fun s hs => h1 s (.inl hs), h2⟩, h1 t (.inr rfl), fun s hs => h3 s hs t rfl⟩
  · rintro ⟨⟨h1, h2⟩, h3, h4⟩
    refine ⟨fun s hs => ?_, h2, fun s hs u hu => ?_⟩
    · rcases hs with hs | rfl
      · exact h1 s hs
      · exact h3
    · rw [hu]; exact h4 s hs

/-- What the plain list of a set is, as far as n. -/
theorem plainTo_ok (f : Nat → Bool) : ∀ n, n ≤ 1000 → isPlain (plainTo f n) ∧ (∀ k, hasK (plainTo f n) k = setOf f n k) ∧ (∀ s ∈ plainTo f n, s.2 < n) ∧
    (if 0 < n ∧ f (n - 1) = true then ∃ o t, plainTo f n = o ++ [t] ∧ t.2 = (n : Int) - 1 else ∀ s ∈ plainTo f n, s.2 + 1 < n)
  | 0, _ => ⟨⟨fun s hs => (by cases hs), List.Pairwise.nil⟩, fun k => by
      rw [show hasK (plainTo f 0) k = false from rfl]
      symm; rw [Bool.eq_false_iff]; intro e; have := setOf_iff.1 e; omega, fun s hs => (by cases hs), by
      rw [if_neg (by omega)]; intro s hs; cases hs⟩
  | n + 1, hn => by
    obtain ⟨h1, h2, h3, h4⟩ := plainTo_ok f n (by omega)
    have hset : ∀ k, setOf f (n + 1) k = (setOf f n k || (decide (k = n) && f n)) := fun k => by
      rw [Bool.eq_iff_iff, setOf_iff, Bool.or_eq_true, setOf_iff, Bool.and_eq_true, decide_eq_true_eq]
      constructor
      · rintro ⟨a, b, c⟩
        by_cases hk : k = n
        · subst hk; exact .inr ⟨rfl, by simpa using c⟩
        · exact .inl ⟨a, by omega, c⟩
      · rintro (⟨a, b, c⟩ | ⟨rfl, c⟩)
        · exact ⟨a, by omega, c⟩
        · exact ⟨by omega, by omega, by simpa using c⟩
    by_cases hf : f n = true
    · by_cases hp : 0 < n ∧ f (n - 1) = true
      · rw [if_pos hp] at h4
        obtain ⟨o, t, e, ht⟩ := h4
        have e2 : plainTo f (n + 1) = o ++ [(t.1, (n : Int))] := by
          show (if f n = true then _ else _) = _
          rw [if_pos hf, if_pos hp, e, extL_snoc]
        rw [e] at h1 h2 h3
        obtain ⟨p1, p2, p3⟩ := isPlain_snoc.1 h1
        have mt := mayS_iff.1 p2
        have mt' : mayS (t.1, (n : Int)) = true := mayS_iff.2 ⟨mt.1, by simp only; omega, by simp only; omega⟩
        rw [e2]
        refine ⟨isPlain_snoc.2 ⟨p1, mt', p3⟩, fun k => ?_, fun s hs => ?_, ?_⟩
        · rw [hset, ← h2, hasK_app, hasK_app, Bool.or_assoc]
          congr 1
          rw [Bool.eq_iff_iff, hasK_cons, hasK_cons, hasK_nil, Bool.or_false, Bool.or_false, inS_iff, Bool.or_eq_true, inS_iff, Bool.and_eq_true, decide_eq_true_eq]
          constructor
          · rintro ⟨_, a, b⟩
            simp only at a b
            by_cases hk : k = n
            · exact .inr ⟨hk, hf⟩
            · exact .inl ⟨p2, a, by omega⟩
          · rintro (⟨_, a, b⟩ | ⟨rfl, _⟩)
            · exact ⟨mt', a, by simp only; omega⟩
            · exact ⟨mt', by simp only; omega, by simp only; omega⟩
        · rcases List.mem_append.1 hs with hs | hs
          · have := h3 s (by simp [hs]); omega
          · rw [List.mem_singleton.1 hs]; simp only; omega
        · rw [if_pos ⟨by omega, by simpa using hf⟩]
          exact ⟨o, _, rfl, by simp⟩
      · rw [if_neg hp] at h4
        have e2 : plainTo f (n + 1) = plainTo f n ++ [((n : Int), (n : Int))] := by
          show (if f n = true then _ else _) = _
          rw [if_pos hf, if_neg hp]
        have mt' : mayS ((n : Int), (n : Int)) = true := mayS_iff.2 ⟨by simp only; omega, by simp only; omega, by simp only; omega⟩
        rw [e2]
        refine ⟨isPlain_snoc.2 ⟨h1, mt', fun s hs => by simpa using h4 s hs⟩, fun k => ?_, fun s hs => ?_, ?_⟩
        · rw [hset, hasK_app, h2]
          congr 1
          rw [Bool.eq_iff_iff, hasK_cons, hasK_nil, Bool.or_false, inS_iff, Bool.and_eq_true, decide_eq_true_eq]
          exact ⟨fun ⟨_, a, b⟩ => ⟨by simp only at a b; omega, hf⟩, fun ⟨a, _⟩ => ⟨mt', by simp only; omega, by simp only; omega⟩⟩
        · rcases List.mem_append.1 hs with hs | hs
          · have := h3 s hs; omega
          · rw [List.mem_singleton.1 hs]; simp only; omega
        · rw [if_pos ⟨by omega, by simpa using hf⟩]
          exact ⟨_, _, rfl, by simp⟩
    · have e2 : plainTo f (n + 1) = plainTo f n := by
        show (if f n = true then _ else _) = _
        rw [if_neg hf]
      rw [e2]
      refine ⟨h1, fun k => ?_, fun s hs => by have := h3 s hs; omega, ?_⟩
      · rw [hset, h2]
        simp [hf]
      · rw [if_neg (by simp [hf])]
        intro s hs
        have := h3 s hs
        omega

theorem plainOf_isPlain (f : Nat → Bool) : isPlain (plainOf f) := (plainTo_ok f 1000 (Nat.le_refl _)).1
theorem plainOf_has (f : Nat → Bool) (k : Int) : hasK (plainOf f) k = setOf f 1000 k := (plainTo_ok f 1000 (Nat.le_refl _)).2.1 k
theorem plainOf_of {l : List Sp} (h : isPlain l) {f : Nat → Bool} (hf : ∀ k, k < 1000 → hasK l (k : Nat) = f k) : l = plainOf f := by
  refine plain_unique h (plainOf_isPlain f) fun k => ?_
  rw [plainOf_has, Bool.eq_iff_iff, setOf_iff]
  constructor
  · intro hk
    have := hasK_range hk
    have e : ((k.toNat : Nat) : Int) = k := by omega
    exact ⟨by omega, by omega, by rw [← hf _ (by omega), e]; exact hk⟩
  · rintro ⟨a, b, c⟩
    have e : ((k.toNat : Nat) : Int) = k := by omega
    rw [← hf _ (by omega), e] at c; exact c
theorem plainOf_get (f : Nat → Bool) {k : Nat} (hk : k < 1000) : hasK (plainOf f) k = f k := by
  rw [plainOf_has, Bool.eq_iff_iff, setOf_iff]
  exact ⟨fun h => by simpa using h.2.2, fun h => ⟨by omega, by omega, by simpa using h⟩⟩
/-- The plain list of spans. -/
def plainL (l : List Sp) : List Sp := plainOf fun k => hasK l k
theorem plainL_has (l : List Sp) (k : Int) : hasK (plainL l) k = hasK l k := by
  by_cases h : hasK l k = true
  · have := hasK_range h
    have e : ((k.toNat : Nat) : Int) = k := by omega
    rw [← e]; exact plainOf_get _ (by omega)
  · by_cases h2 : hasK (plainL l) k = true
    · have := hasK_range h2
      have e : ((k.toNat : Nat) : Int) = k := by omega
      have q := plainOf_get (fun k => hasK l k) (k := k.toNat) (by omega)
      rw [e] at q
      exact q
    · simp only [Bool.not_eq_true] at h h2; rw [h, h2]
theorem plainL_of {l m : List Sp} (h : isPlain m) (hm : ∀ k, hasK m k = hasK l k) : m = plainL l := plainOf_of h fun k _ => hm k
theorem plainL_plain {l : List Sp} (h : isPlain l) : plainL l = l := (plainL_of h fun _ => rfl).symm

/-! ### How the program makes it: sorted spans, one by one -/
def mrg1 (out : List Sp) (s : Sp) : List Sp :=
  match out.getLast? with
  | some t => if s.1 ≤ t.2 + 1 then out.dropLast ++ [(t.1, max t.2 s.2)] else out ++ [s]
  | none => [s]
def mrg (l : List Sp) : List Sp := l.foldl mrg1 []
theorem mrg_snoc (l : List Sp) (s : Sp) : mrg (l ++ [s]) = mrg1 (mrg l) s := by simp [mrg]
theorem mrg1_snoc (o : List Sp) (t s : Sp) : mrg1 (o ++ [t]) s = if s.1 ≤ t.2 + 1 then o ++ [(t.1, max t.2 s.2)] else o ++ [t] ++ [s] := by
  simp [mrg1]

theorem mrg_ok : ∀ n (l : List Sp), l.length = n → (∀ s ∈ l, mayS s = true) → (l.Pairwise fun x y => x.1 ≤ y.1) → isPlain (mrg l) ∧ (∀ k, hasK (mrg l) k = hasK l k) ∧ (∀ t ∈ mrg l, ∃ s ∈ l, t.1 = s.1)
  | 0, l, hl, _, _ => by
    have : l = [] := List.length_eq_zero_iff.1 hl
    subst this
    exact ⟨⟨fun s hs => (by cases hs), List.Pairwise.nil⟩, fun k => rfl, fun s hs => (by cases hs)⟩
  | n + 1, l, hl, hm, hp => by
    obtain ⟨l', s, rfl⟩ : ∃ l' s, l = l' ++ [s] := by
      have h0 : l ≠ [] := fun e => by rw [e] at hl; cases hl
      exact ⟨l.dropLast, l.getLast h0, (List.dropLast_concat_getLast h0).symm⟩
    obtain ⟨hp1, _, hp2⟩ := List.pairwise_append.1 hp
    have hl' : l'.length = n := by simpa using hl
    obtain ⟨i1, i2, i3⟩ := mrg_ok n l' hl' (fun x hx => hm x (by simp [hx])) hp1
    have ms := mayS_iff.1 (hm s (by simp))
    have hs : ∀ k, hasK [s] k = inS s k := fun k => by rw [hasK_cons, hasK_nil, Bool.or_false]
    rw [mrg_snoc]
    rcases List.eq_nil_or_concat (mrg l') with e | ⟨o, t, e⟩
    · rw [e] at i1 i2 i3 ⊢
      refine ⟨⟨fun x hx => by rw [List.mem_singleton.1 hx]; exact hm s (by simp), List.pairwise_singleton _ _⟩, fun k => ?_, fun x hx => ⟨s, by simp, by rw [List.mem_singleton.1 hx]⟩⟩
      rw [hasK_app, ← i2, hasK_nil, Bool.false_or]; rfl
    · rw [List.concat_eq_append] at e
      rw [e] at i1 i2 i3 ⊢
      rw [mrg1_snoc]
      obtain ⟨p1, p2, p3⟩ := isPlain_snoc.1 i1
      have mt := mayS_iff.1 p2
      obtain ⟨u, hu, htu⟩ := i3 t (by simp)
      have hts : t.1 ≤ s.1 := by rw [htu]; exact hp2 u hu s (by simp)
      by_cases hlt : s.1 ≤ t.2 + 1
      · rw [if_pos hlt]
        have mt' : mayS (t.1, max t.2 s.2) = true := mayS_iff.2 ⟨mt.1, by simp only; omega, by simp only; omega⟩
        refine ⟨isPlain_snoc.2 ⟨p1, mt', p3⟩, fun k => ?_, fun x hx => ?_⟩
        · rw [hasK_app l' [s], ← i2, hasK_app, hasK_app, Bool.or_assoc]
          congr 1
          rw [hasK_cons, hasK_cons, hasK_nil, Bool.or_false, Bool.or_false, hs, Bool.eq_iff_iff, Bool.or_eq_true, inS_iff, inS_iff, inS_iff]
          constructor
          · rintro ⟨_, a, b⟩
            simp only at a b
            by_cases hk : k ≤ t.2
            · exact .inl ⟨p2, a, hk⟩
            · exact .inr ⟨hm s (by simp), by omega, by omega⟩
          · rintro (⟨_, a, b⟩ | ⟨_, a, b⟩)
            · exact ⟨mt', a, by simp only; omega⟩
            · exact ⟨mt', by simp only; omega, by simp only; omega⟩
        · rcases List.mem_append.1 hx with hx | hx
          · obtain ⟨v, hv, e⟩ := i3 x (by simp [hx]); exact ⟨v, by simp [hv], e⟩
          · rw [List.mem_singleton.1 hx]; exact ⟨u, by simp [hu], htu⟩
      · rw [if_neg hlt]
        refine ⟨isPlain_snoc.2 ⟨i1, hm s (by simp), fun x hx => ?_⟩, fun k => ?_, fun x hx => ?_⟩
        · rcases List.mem_append.1 hx with hx | hx
          · have := p3 x hx; omega
          · rw [List.mem_singleton.1 hx]; omega
        · rw [hasK_app _ [s], hasK_app l' [s], i2]
        · rcases List.mem_append.1 hx with hx | hx
          · obtain ⟨v, hv, e⟩ := i3 x hx; exact ⟨v, by simp [hv], e⟩
          · rw [List.mem_singleton.1 hx]; exact ⟨s, by simp, rfl⟩

/-- What the program makes of spans, by whatever sort. -/
theorem mrg_plain {l l' : List Sp} (hp : l'.Perm (l.filter mayS)) (hs : l'.Pairwise fun x y => x.1 ≤ y.1) : mrg l' = plainL l := by
  obtain ⟨h1, h2, _⟩ := mrg_ok _ l' rfl (fun s hs => (List.mem_filter.1 (hp.mem_iff.1 hs)).2) hs
  exact plainL_of h1 fun k => by rw [h2, hasK_perm hp, hasK_filter]

end Go.Proofs

/- Sets of keys, as spans: what two have in common, what one hasn't, their keys; plainly. -/
namespace Go.Proofs
open Go Go.RowKit Go.Am

theorem plainL_isPlain (l : List Sp) : isPlain (plainL l) := plainOf_isPlain _

/-! ### In common -/
def meet1 (x y : Sp) : Sp := (max x.1 y.1, min x.2 y.2)
def meetsL (a b : List Sp) : List Sp := a.flatMap fun x => (b.map (meet1 x)).filter fun s => decide (s.1 ≤ s.2)
theorem meetsL_may {a b : List Sp} (ha : ∀ s ∈ a, mayS s = true) (hb : ∀ s ∈ b, mayS s = true) : ∀ s ∈ meetsL a b, mayS s = true := by
  intro s hs
  obtain ⟨x, hx, hs⟩ := List.mem_flatMap.1 hs
  obtain ⟨hs, hd⟩ := List.mem_filter.1 hs
  obtain ⟨y, hy, rfl⟩ := List.mem_map.1 hs
  have h1 := mayS_iff.1 (ha x hx)
  have h2 := mayS_iff.1 (hb y hy)
  have hd := of_decide_eq_true hd
  exact mayS_iff.2 ⟨by simp only [meet1]; omega, hd, by simp only [meet1]; omega⟩
theorem meetsL_has {a b : List Sp} (ha : ∀ s ∈ a, mayS s = true) (hb : ∀ s ∈ b, mayS s = true) (k : Int) : hasK (meetsL a b) k = (hasK a k && hasK b k) := by
  rw [Bool.eq_iff_iff, hasK_iff, Bool.and_eq_true, hasK_iff, hasK_iff]
  constructor
  · rintro ⟨s, hs, _, q1, q2⟩
    obtain ⟨x, hx, hs⟩ := List.mem_flatMap.1 hs
    obtain ⟨hs, hd⟩ := List.mem_filter.1 hs
    obtain ⟨y, hy, rfl⟩ := List.mem_map.1 hs
    simp only [meet1] at q1 q2
    exact ⟨⟨x, hx, ha x hx, by omega, by omega⟩, ⟨y, hy, hb y hy, by omega, by omega⟩⟩
  · rintro ⟨⟨x, hx, hmx, q1, q2⟩, ⟨y, hy, hmy, p1, p2⟩⟩
    have hm : meet1 x y ∈ meetsL a b := List.mem_flatMap.2 ⟨x, hx, List.mem_filter.2 ⟨List.mem_map.2 ⟨y, hy, rfl⟩, decide_eq_true (by simp only [meet1]; omega)⟩⟩
    exact ⟨_, hm, meetsL_may ha hb _ hm, by simp only [meet1]; omega, by simp only [meet1]; omega⟩
def meetL (a b : List Sp) : Bool := !(meetsL (plainL a) (plainL b)).isEmpty
theorem meetL_iff (a b : List Sp) : meetL a b = true ↔ ∃ k : Nat, k < 1000 ∧ hasK a k = true ∧ hasK b k = true := by
  have hm := meetsL_may (plainL_isPlain a).1 (plainL_isPlain b).1
  have hh := meetsL_has (plainL_isPlain a).1 (plainL_isPlain b).1
  simp only [meetL, Bool.not_eq_true', List.isEmpty_eq_false_iff]
  constructor
  · intro h
    obtain ⟨s, hs⟩ := List.exists_mem_of_ne_nil _ h
    have ms := mayS_iff.1 (hm s hs)
    have : hasK (meetsL (plainL a) (plainL b)) s.1 = true := hasK_iff.2 ⟨s, hs, hm s hs, by omega, by omega⟩
    rw [hh, plainL_has, plainL_has, Bool.and_eq_true] at this
    have e : ((s.1.toNat : Nat) : Int) = s.1 := by omega
    exact ⟨s.1.toNat, by omega, by rw [e]; exact this.1, by rw [e]; exact this.2⟩
  · rintro ⟨k, _, h1, h2⟩ e
    have := hh k
    rw [e, plainL_has, plainL_has, h1, h2] at this
    cases this

/-! ### What isn't there -/
/-! ### The keys, one by one -/
end Go.Proofs

/- Spans in a box: how they lie there. -/
namespace Go.Am
open Go Go.RowKit

def encP (x : Int × Int) : List Value := [.int .i64 x.1, .int .i64 x.2]
def avP (x : Int × Int) : List AV := [.int .i64 x.1, .int .i64 x.2]
def flatP (l : List (Int × Int)) : List AV := (l.map avP).flatten

theorem avP_len : ∀ {l : List (Int × Int)}, ∀ e ∈ l.map avP, e.length = 2 := fun e he => by
  obtain ⟨x, _, rfl⟩ := List.mem_map.1 he
  rfl
theorem flatP_len (l : List (Int × Int)) : (flatP l).length = l.length * 2 := by
  have := flatten_len (z := 2) (es := l.map avP) avP_len
  rw [flatP, this, List.length_map]
theorem flatP_get (l : List (Int × Int)) (i j : Nat) (hj : j < 2) : (flatP l)[i * 2 + j]? = (l[i]?).bind fun x => (avP x)[j]? := by
  rw [flatP, flatten_get avP_len i j hj, List.getElem?_map]
  cases l[i]? <;> rfl

end Go.Am

/- What the functions of the statements about codes do. -/
namespace Go.Proofs
open Go Go.RowKit Go.Am

def w64 (n : Nat) : List AV := [.int .u64 n]
@[simp] def encW (l : List Nat) : AV := .sl .no (l.map w64)
@[simp] theorem wk_w64 : List.map wk ∘ w64 = w64 := by funext n; simp [w64]

@[simp] theorem wk_w64' (n : Nat) : List.map wk (w64 n) = w64 n := by simp [w64]

theorem pures_nil : ∀ v ∈ ([] : List AV), PureV v := fun v h => by cases h
theorem pures_cons {v : AV} {l : List AV} (h : PureV v) (hl : ∀ v ∈ l, PureV v) : ∀ u ∈ v :: l, PureV u := fun u hu => by
  rcases List.mem_cons.1 hu with rfl | hu
  · exact h
  · exact hl u hu

end Go.Proofs

/- What the writer of codes does. -/
namespace Go.Proofs
open Go Go.RowKit Go.Am

structure WB (h : H) (b : Nat) (t : Tok) (ws : List Nat) : Prop where
  lt : b < h.bn
  bx : h.bx b = some [.sl t (ws.map w64)]
  live : TLive h t ws.length

structure WTo (h : H) (b : Nat) (t : Tok) (ws : List Nat) (h' : H) (t' : Tok) : Prop where
  wb : WB h' b t' ws
  next : TNext h t t'
  keep : HF h h' (· = b) (TOwn t)

theorem pures1 {v : AV} (h : PureV v) : ∀ u ∈ [v], PureV u := pures_cons h pures_nil

/-- A number with a sign, as a word. -/
def signed (x : Int) : Nat := if 0 ≤ x then (2 * x).toNat else (2 * (-(x + 1)) + 1).toNat

theorem TOwn.next {h h1 : H} {t t1 : Tok} {B T : Nat → Prop} (a : TNext h t t1) : ∀ i, i < h.tn → TOwn t1 i → TOwn t i := fun i hi ho => by
  rcases a with rfl | ⟨j, rfl, hj⟩
  · exact ho
  · cases ho; omega
theorem WTo.trans {h h1 h2 : H} {b : Nat} {t t1 t2 : Tok} {ws ws' : List Nat} (a : WTo h b t ws h1 t1) (c : WTo h1 b t1 ws' h2 t2) : WTo h b t ws' h2 t2 :=
  ⟨c.wb, a.next.trans a.keep c.next, a.keep.trans' c.keep (fun _ _ h => h) (TOwn.next (B := fun _ => False) (T := fun _ => False) (h1 := h1) a.next)⟩

end Go.Proofs

/- Spans in a box: which may be, the first that may not, those that may be. -/
namespace Go.Proofs
open Go Go.RowKit Go.Am

theorem flatP_cons (x : Sp) (l : List Sp) : flatP (x :: l) = avP x ++ flatP l := by simp [flatP]
theorem flatP_app (l m : List Sp) : flatP (l ++ m) = flatP l ++ flatP m := by simp [flatP]
theorem flatP_split {l : List Sp} {j : Nat} (hj : j < l.length) : flatP l = flatP (l.take j) ++ (avP l[j] ++ flatP (l.drop (j + 1))) := by
  conv => lhs; rw [← List.take_append_drop j l, List.drop_eq_getElem_cons hj]
  rw [flatP_app, flatP_cons]
theorem flatP_at {l : List Sp} {rest : List AV} {j : Nat} (hj : j < l.length) : ((flatP l ++ rest).drop (j * 2)).take 2 = avP l[j] := by
  have e : (flatP (l.take j)).length = j * 2 := by rw [flatP_len, List.length_take]; omega
  rw [flatP_split hj, List.append_assoc, ← e, List.drop_left, List.append_assoc]
  rfl
theorem flatP_put {l : List Sp} {rest : List AV} {j : Nat} (hj : j < l.length) (y : Sp) : (flatP l ++ rest).take (j * 2) ++ (avP y ++ (flatP l ++ rest).drop (j * 2 + 2)) = flatP (l.set j y) ++ rest := by
  have e : (flatP (l.take j)).length = j * 2 := by rw [flatP_len, List.length_take]; omega
  have h1 : (flatP l ++ rest).take (j * 2) = flatP (l.take j) := by
    rw [flatP_split hj, List.append_assoc, ← e, List.take_left]
  have h2 : (flatP l ++ rest).drop (j * 2 + 2) = flatP (l.drop (j + 1)) ++ rest := by
    rw [flatP_split hj, ← e, List.append_assoc, ← List.drop_drop, List.drop_left, List.append_assoc]
    rfl
  rw [h1, h2, List.set_eq_take_append_cons_drop, if_pos hj, flatP_app, flatP_cons]
  simp only [List.append_assoc]
theorem pure_avP (x : Sp) : ∀ v ∈ avP x, PureV v := by
  intro v hv
  simp only [avP, List.mem_cons, List.not_mem_nil, or_false] at hv
  rcases hv with rfl | rfl <;> exact .int _ _
theorem avP_un (x : Sp) : unCells true (avP x) = some (.agg (avP x)) := rfl

theorem spanMay_ok (s : Sp) : PCall Tryz.prog 78 [.agg (avP s)] (.bool (mayS s)) := by
  refine PCall.run hb78 ok78 (by simp) (pures1 (.agg (pure_avP s))) (.bool _) ?_
  simp (maxSteps := 2000000) +contextual -implicitDefEqProofs [↓gdL_T, ↓gdL_F, ↓condQ_b, -Int.not_lt, -Int.not_le, -Nat.not_lt, -Nat.not_le, avP, mayS]

theorem plain1_ok (s : Sp) : PCall Tryz.prog 77 [.agg (avP s)] (.bool (!mayS s)) := by
  refine PCall.run hb77 ok77 (by simp) (pures1 (.agg (pure_avP s))) (.bool _) ?_
  simp -implicitDefEqProofs [avP]
  refine callQ_p (spanMay_ok s) (by simp [avP]) ?_
  simp -implicitDefEqProofs []

def badI (l : List Sp) : Int := idxI (fun s => !mayS s) l

theorem indexBox_ok {h : H} {b : Nat} {l : List Sp} {rest : List AV} (hb : b < h.bn) (hc : h.bx b = some (flatP l ++ rest)) (hl : l.length ≤ 9223372036854775807) :
    SCall Tryz.prog 97 [.msl b 2 0 l.length, .fn 77 [] []] h (.int .i64 (badI l)) h := by
  refine SCall.ro (CallP.run hb97 ok97 (by simp) ?_) (.int _ _)
  simp -implicitDefEqProofs []
  refine run_loop (fun n s h1 => ∃ j : Nat, n = l.length - j ∧ j ≤ l.length ∧ h1 = h ∧ s 0 = .msl b 2 0 l.length ∧ s 1 = .fn 77 [] [] ∧ s 7 = .int .i64 l.length ∧ s 8 = .int .i64 j ∧ ∀ i (hi : i < l.length), i < j → (!mayS l[i]) = false) ?_ l.length ?_
  · rintro m s h1 ⟨j, hn, hj, rfl, h0, h1, h7, h8, hall⟩ ih
    by_cases hlt : j < l.length
    · have i1 := idxOf_nat (k := .i64) hlt
      have f1 := flatP_at (rest := rest) hlt
      have f2 : j * 2 + 2 ≤ (flatP l ++ rest).length := by rw [List.length_append, flatP_len]; omega
      simp -implicitDefEqProofs [h7, h8, hlt, h0, h1, hb, hc, f1, f2, avP_un, -unCells, -List.length_append]
      refine callQ_p (plain1_ok l[j]) (by simp [avP]) ?_
      cases hp : mayS l[j]
      · have hf : l.findIdx? (fun s => !mayS s) = some j := findIdx_at hlt (by simp [hp]) fun i hi => hall i (by omega) hi
        simp -implicitDefEqProofs [badI, idxI, hf]
        exact HF.refl _ _ _
      · simp -implicitDefEqProofs [h8, inc_i64 hlt hl, -Int.natCast_add]
        refine ih (l.length - (j + 1)) _ _ (by omega) ⟨j + 1, rfl, by omega, rfl, by simp [h0], by simp [h1], by simp [h7], by simp, fun i hi hij => ?_⟩
        by_cases h : i = j
        · subst h; simp [hp]
        · exact hall i hi (by omega)
    · have hf : l.findIdx? (fun s => !mayS s) = none := by
        rw [List.findIdx?_eq_none_iff]
        intro x hx
        obtain ⟨i, hi, rfl⟩ := List.mem_iff_getElem.1 hx
        exact hall i hi (by omega)
      simp -implicitDefEqProofs [h7, h8, hlt, badI, idxI, hf]
      exact HF.refl _ _ _
  · exact ⟨0, by simp⟩

end Go.Proofs

/- Spans in a box: those that may be, alone; several lists, one behind the other; the plain list. -/
namespace Go.Proofs
open Go Go.RowKit Go.Am

/-! ### A sort of nothing -/
theorem w0_i : IntKind.i64.wrap 0 = 0 := wrap_i64 (by omega) (by omega)
theorem w1_i : IntKind.i64.wrap 1 = 1 := wrap_i64 (by omega) (by omega)
theorem w0_u : IntKind.u64.wrap 0 = 0 := wrap_u64 (by omega) (by omega)
theorem w0_u8 : IntKind.u8.wrap 0 = 0 := by decide
theorem pure_nilsl : PureV (.sl .no []) := .sl (fun _ e => by cases e) (fun _ e => by cases e)
set_option maxRecDepth 10000 in
theorem len64_zero : PCall Tryz.prog 114 [.int .u64 0] (.int .i64 0) := by
  refine PCall.run hb114 ok114 (by simp) (pures1 (.int _ _)) (.int _ _) ?_
  simp -implicitDefEqProofs [w0_u8]
  exact Eq.refl (AV.int .i64 0)
theorem len_zero : PCall Tryz.prog 100 [.int .u64 0] (.int .i64 0) := by
  refine PCall.run hb100 ok100 (by simp) (pures1 (.int _ _)) (.int _ _) ?_
  simp -implicitDefEqProofs []
  refine callQ_p len64_zero (by simp) ?_
  simp -implicitDefEqProofs []
theorem insertNil_ok : PCall Tryz.prog 105 [.sl .no [], .int .i64 0, .int .i64 0, .fn 80 [] []] (.tup []) := by
  refine PCall.run hb105 ok105 (by simp) (by intro v hv; simp at hv; rcases hv with rfl | rfl | rfl | rfl <;> first | exact .int _ _ | exact pure_nilsl | exact .fn (fun _ h => by cases h) (fun _ h => by cases h)) (.tup (by simp)) ?_
  simp -implicitDefEqProofs [w1_i]
  refine run_loop (fun n s h1 => s 8 = .int .i64 1 ∧ s 2 = .int .i64 0 ∧ HF H.nil h1 (fun _ => False) (fun _ => False)) ?_ 0 ?_
  · rintro m s h1 ⟨h8, h2, hf⟩ ih
    simp -implicitDefEqProofs [h8, h2]
  · simp [HF.refl]
theorem pdqNil_ok (k : Int) : PCall Tryz.prog 99 [.sl .no [], .int .i64 0, .int .i64 0, .int .i64 k, .fn 80 [] []] (.tup []) := by
  refine PCall.run hb99 ok99 (by simp) (by intro v hv; simp at hv; rcases hv with rfl | rfl | rfl | rfl | rfl <;> first | exact .int _ _ | exact pure_nilsl | exact .fn (fun _ h => by cases h) (fun _ h => by cases h)) (.tup (by simp)) ?_
  simp -implicitDefEqProofs []
  refine run_loop (fun n s h1 => s 0 = .sl .no [] ∧ s 1 = .int .i64 0 ∧ s 2 = .int .i64 0 ∧ s 4 = .fn 80 [] [] ∧ HF H.nil h1 (fun _ => False) (fun _ => False)) ?_ 0 ?_
  · rintro m s h1 ⟨h0, hi, h2, h4, hf⟩ ih
    simp -implicitDefEqProofs [h0, hi, h2, h4, w0_i]
    refine callQ_p insertNil_ok (by simp) ?_
    simp -implicitDefEqProofs []
  · simp [HF.refl]
theorem sortNil_ok : PCall Tryz.prog 79 [.sl .no [], .fn 80 [] []] (.tup []) := by
  refine PCall.run hb79 ok79 (by simp) (by intro v hv; simp at hv; rcases hv with rfl | rfl <;> first | exact pure_nilsl | exact .fn (fun _ h => by cases h) (fun _ h => by cases h)) (.tup (by simp)) ?_
  simp -implicitDefEqProofs [w0_u]
  refine callQ_p len_zero (by simp) ?_
  simp -implicitDefEqProofs []
  refine callQ_p (pdqNil_ok 0) (by simp) ?_
  simp -implicitDefEqProofs []

/-! ### Those that may be, alone -/
theorem badI_none {l : List Sp} (h : l.findIdx? (fun s => !mayS s) = none) : badI l = -1 ∧ l.filter mayS = l := by
  refine ⟨by simp [badI, idxI, h], ?_⟩
  rw [List.findIdx?_eq_none_iff] at h
  exact List.filter_eq_self.2 fun s hs => by have := h s hs; simpa using this
theorem badI_some {l : List Sp} {i : Nat} (h : l.findIdx? (fun s => !mayS s) = some i) : badI l = i ∧ ∃ hi : i < l.length, mayS l[i] = false ∧ (l.take i).filter mayS = l.take i := by
  refine ⟨by simp [badI, idxI, h], ?_⟩
  rw [List.findIdx?_eq_some_iff_getElem] at h
  obtain ⟨hi, h1, h2⟩ := h
  refine ⟨hi, by simpa using h1, List.filter_eq_self.2 fun s hs => ?_⟩
  obtain ⟨k, hk, rfl⟩ := List.mem_iff_getElem.1 hs
  rw [List.length_take] at hk
  have := h2 k (by omega)
  simpa using this
theorem take_succ_filter {l : List Sp} {j : Nat} (hj : j < l.length) : (l.take (j + 1)).filter mayS = (l.take j).filter mayS ++ if mayS l[j] = true then [l[j]] else [] := by
  rw [List.take_succ_eq_append_getElem hj, List.filter_append]
  by_cases h : mayS l[j] = true <;> simp [h]

theorem delete_ok {h : H} {b : Nat} {l : List Sp} {rest : List AV} (hb : b < h.bn) (hc : h.bx b = some (flatP l ++ rest)) (hl : l.length ≤ 1000000) :
    CallP Tryz.prog 75 [.msl b 2 0 l.length, .fn 77 [] []] h fun r h' => ∃ rest', r = .msl b 2 0 (l.filter mayS).length ∧ b < h'.bn ∧ h'.bx b = some (flatP (l.filter mayS) ++ rest') := by
  refine CallP.run hb75 ok75 (by simp) ?_
  simp -implicitDefEqProofs []
  refine callQ_s (indexBox_ok hb hc (by omega)) (by simp) ?_
  cases hf : l.findIdx? (fun s => !mayS s) with
  | none =>
    obtain ⟨e1, e2⟩ := badI_none hf
    rw [e1, e2]
    simp -implicitDefEqProofs []
    exact ⟨hb, rest, hc⟩
  | some i =>
    obtain ⟨e1, hi, hi1, hi2⟩ := badI_some hf
    rw [e1]
    have hne : ¬ (i : Int) = -1 := by omega
    simp -implicitDefEqProofs [hne, inc_i64 (show i < 1000000 by omega) (by omega), -Int.natCast_add]
    refine run_loop (fun n s h1 => ∃ (j k : Nat) (cur : List Sp), n = l.length - j ∧ j ≤ l.length ∧ k < j ∧ k = ((l.take j).filter mayS).length ∧ cur.length = l.length ∧ cur.take k = (l.take j).filter mayS ∧ cur.drop j = l.drop j ∧ s 0 = .msl b 2 0 l.length ∧ s 1 = .fn 77 [] [] ∧ s 5 = .int .i64 k ∧ s 6 = .int .i64 j ∧ b < h1.bn ∧ h1.bx b = some (flatP cur ++ rest)) ?_ (l.length - (i + 1)) ?_
    rotate_left
    · refine ⟨i + 1, i, l, rfl, by omega, by omega, ?_, rfl, ?_, rfl, by simp, by simp, by simp, by simp, hb, hc⟩
      · rw [take_succ_filter hi, hi1, hi2]; simp; omega
      · rw [take_succ_filter hi, hi1, hi2]; simp
    rintro n s h1 ⟨j, k, cur, hn, hj, hkj, hk, hcl, ht, hd, s0, s1, s5, s6, b1, c1⟩ ih
    by_cases hlt : j < l.length
    · have hjc : j < cur.length := by omega
      have hkc : k < cur.length := by omega
      have ej : cur[j] = l[j] := by
        have := congrArg List.head? hd
        rw [List.head?_drop, List.head?_drop, List.getElem?_eq_getElem hjc, List.getElem?_eq_getElem hlt] at this
        exact Option.some.inj this
      have edj : cur.drop (j + 1) = l.drop (j + 1) := by rw [← List.drop_drop, hd, List.drop_drop]
      have f1 := flatP_at (rest := rest) hjc
      have f2 : j * 2 + 2 ≤ (flatP cur ++ rest).length := by rw [List.length_append, flatP_len]; omega
      have f3 : k * 2 + 2 ≤ (flatP cur ++ rest).length := by rw [List.length_append, flatP_len]; omega
      have f4 := flatP_put (rest := rest) hkc l[j]
      rw [ej] at f1
      have i1 := idxOf_nat (k := .i64) hlt
      have i2 := idxOf_nat (k := .i64) (show k < l.length by omega)
      have hbne : ¬ b = h1.bn := by omega
      have hs := take_succ_filter hlt
      simp -implicitDefEqProofs [s0, s1, s6, hlt, b1, c1, f1, f2, -unCells, -List.length_append, avP]
      refine callQ_p (plain1_ok l[j]) (by simp [avP]) ?_
      cases hp : mayS l[j]
      · rw [hp] at hs
        simp -implicitDefEqProofs [s6, inc_i64 hlt (by omega), -Int.natCast_add]
        exact ih (l.length - (j + 1)) _ _ (by omega) ⟨j + 1, k, cur, rfl, by omega, by omega, by rw [hs, hk]; simp, hcl, by rw [hs, ht]; simp, edj, by simp [s0], by simp [s1], by simp [s5], by simp, by simp; omega, by simp [hbne, c1]⟩
      · rw [hp] at hs
        rw [avP] at f4
        simp -implicitDefEqProofs [s0, s5, s6, show k < l.length by omega, c1, hbne, f3, inc_i64 (show k < 1000000 by omega) (by omega), inc_i64 hlt (by omega), -Int.natCast_add, -List.length_append, show b < h1.bn + 1 by omega]
        refine ih (l.length - (j + 1)) _ _ (by omega) ⟨j + 1, k + 1, cur.set k l[j], rfl, by omega, by omega, by rw [hs, List.length_append, ← hk]; simp, by simp [hcl], ?_, ?_, by simp [s0], by simp [s1], by simp, by simp, by simp; omega, by simpa using f4⟩
        · rw [hs, ← ht, List.take_set, List.take_succ_eq_append_getElem hkc, List.set_append_right _ _ (by simp; omega)]
          simp [Nat.min_eq_left (show k ≤ cur.length by omega)]
        · rw [List.drop_set_of_lt (by omega), edj]
    · obtain rfl : j = l.length := by omega
      rw [List.take_length] at ht hk
      have i2 := idxOf_nat (k := .i64) (show k < l.length by omega)
      have f3 : l.length * 2 ≤ (flatP cur ++ rest).length := by rw [List.length_append, flatP_len]; omega
      have e1 : k * 2 + (l.length - k) * 2 = l.length * 2 := by omega
      simp -implicitDefEqProofs [s0, s5, s6, show k ≤ l.length by omega, show ¬ k = l.length by omega, -List.length_append]
      have e2 : List.take (k * 2) (flatP cur ++ rest) = flatP (l.filter mayS) := by
        rw [List.take_append_of_le_length (by rw [flatP_len]; omega), ← ht]
        have e3 : (flatP (cur.take k)).length = k * 2 := by rw [flatP_len, List.length_take]; omega
        conv => lhs; rw [← List.take_append_drop k cur, flatP_app, ← e3, List.take_left]
      simp only [clearQ, c1, ob, e1, e2]
      refine ⟨⟨trivial, b1, by omega, f3⟩, hk, by simpa using b1, (List.replicate (l.length - k) [AV.int .i64 0, .int .i64 0]).flatten ++ List.drop (l.length * 2) (flatP cur ++ rest), ?_⟩
      simp only [H.set, if_true, List.append_assoc]

end Go.Proofs

/- Room for spans: the library's own contract, laid at the program, over boxes. PRINTED in its first part by laygen.py, a program of this work. -/
namespace Go.Am
open Go Go.RowKit Go.Lib Go.Shelf

/-- Room for n spans, where there is none. -/
def GrowsAt (P : Program) (f : FuncId) : Prop := ∀ (A : Option Addr) (n : Nat) (w : World), 0 < n → n ≤ 1000000 →
    Calls P f #[.slice A 0 0, .int .i64 n] w fun e w' => ∃ K T c, e = .returned (.slice (some ⟨w.heap.size, 0, none⟩) 0 c) ∧ w' = w.drew.alloc (.cells K T) ∧ K.size = c * 2

theorem grow_call {P : Program} {f : FuncId} (hbody : HasBody P f) (hg : GrowsAt P f) {h : H} {n : Nat} (h0 : 0 < n) (hn : n ≤ 1000000) :
    CallP P f [.sl .full [], .int .i64 n] h fun r h' => r = .msl h.bn 2 0 0 ∧ h' = h.alloc [] := by
  refine ⟨hbody, fun base W w g Args hs hA => ?_⟩
  obtain ⟨hAs, hAr⟩ := hA
  have h0' := hAr 0 (by simp)
  have h1' := hAr 1 (by simp)
  simp only [List.length_cons, List.length_nil] at hAs
  have hArgs : Args = #[Args[0], Args[1]] := by
    apply Array.ext
    · simp; omega
    · intro i hi1 hi2
      have : i = 0 ∨ i = 1 := by simp at hi2; omega
      rcases this with rfl | rfl <;> simp
  generalize hA0 : Args[0] = A0 at h0' hArgs
  generalize hA1 : Args[1] = A1 at h1' hArgs
  subst hArgs
  clear hA0 hA1 hAs hAr
  simp only [List.getElem_cons_zero] at h0'
  simp only [List.getElem_cons_succ, List.getElem_cons_zero] at h1'
  obtain ⟨A, cap, z, Vs, rfl, _, _, _, _, _, _, htok⟩ := h0'.sl_inv
  have hcap : cap = 0 := htok
  subst hcap
  rw [h1'.int_inv]
  refine (hg A n w h0 hn).mono ?_
  rintro e w' ⟨K, T, c, rfl, rfl, hK⟩
  obtain ⟨hs1, he1⟩ := hs.drew
  obtain ⟨hs2, he2⟩ := hs1.allocBox K T [] ⟨Nat.zero_le _, fun k v hk => by simp at hk⟩
  refine ⟨_, _, .msl h.bn 2 0 0, _, rfl, ?_, hs2, he1.trans he2, rfl, rfl⟩
  have hbx : (g.box w.drew.heap.size K.size).bx h.bn = w.heap.size ∧ (g.box w.drew.heap.size K.size).bs h.bn = K.size := by
    refine ⟨?_, ?_⟩
    · show (if h.bn = g.bn then _ else _) = _
      rw [if_pos hs.bn]; rfl
    · show (if h.bn = g.bn then _ else _) = _
      rw [if_pos hs.bn]
  have := Rep.msl (w := w.drew.alloc (.cells K T)) (g := g.box w.drew.heap.size K.size) h.bn 2 0 0 c (by show h.bn < g.bn + 1; rw [hs.bn]; omega) (Nat.zero_le _) (by rw [hbx.2]; omega)
  rw [hbx.1] at this
  exact this

/-- Room for none. -/
def StaysAt (P : Program) (f : FuncId) : Prop := ∀ (A : Option Addr) (w : World), Calls P f #[.slice A 0 0, .int .i64 0] w fun e w' => e = .returned (.slice A 0 0) ∧ w' = w
theorem stay_call {P : Program} {f : FuncId} (hbody : HasBody P f) (hg : StaysAt P f) {h : H} : CallP P f [.sl .full [], .int .i64 0] h fun r h' => r = .sl .full [] ∧ h' = h := by
  refine ⟨hbody, fun base W w g Args hs hA => ?_⟩
  obtain ⟨hAs, hAr⟩ := hA
  have h0' := hAr 0 (by simp)
  have h1' := hAr 1 (by simp)
  simp only [List.length_cons, List.length_nil] at hAs
  have hArgs : Args = #[Args[0], Args[1]] := by
    apply Array.ext
    · simp; omega
    · intro i hi1 hi2
      have : i = 0 ∨ i = 1 := by simp at hi2; omega
      rcases this with rfl | rfl <;> simp
  generalize hA0 : Args[0] = A0 at h0' hArgs
  generalize hA1 : Args[1] = A1 at h1' hArgs
  subst hArgs
  clear hA0 hA1 hAs hAr
  simp only [List.getElem_cons_zero] at h0'
  simp only [List.getElem_cons_succ, List.getElem_cons_zero] at h1'
  have hsl := h0'
  obtain ⟨A, cap, z, Vs, rfl, _, _, _, _, _, _, htok⟩ := h0'.sl_inv
  have hcap : cap = 0 := htok
  subst hcap
  rw [h1'.int_inv]
  refine (hg A w).mono ?_
  rintro e w' ⟨rfl, rfl⟩
  exact ⟨_, g, _, h, rfl, hsl, hs, Ext.refl base W _ g, rfl, rfl⟩
end Go.Am
namespace Go.Proofs
open Go Go.RowKit Go.Am Go.Lib Go.Shelf

def growSpan_ren : Go.Shelf.Ren := ⟨fun | 4 => 98 | n => n, fun | 22 => 51 | 25 => 57 | 3 => 3 | 4 => 4 | 9 => 9 | 20 => 20 | 0 => 0 | 2 => 3 | n => n, fun n => n⟩
set_option maxRecDepth 100000 in
set_option maxHeartbeats 4000000 in
theorem growSpan : Lays8.n4 Tryz.prog growSpan_ren where
  mixed := by kernel_rfl
  f4 := ⟨"slices.Grow[[]gimmal/api.Span,gimmal/api.Span]", by decide, Tryz.func98.trans (congrArg some (by kernel_rfl))⟩
  t0 := Tryz.underlying0
  a0 := Tryz.isAgg0
  z0 := Tryz.sizeOf0
  v0 := Tryz.zeroValue0
  t3 := Tryz.underlying3
  a3 := Tryz.isAgg3
  z3 := Tryz.sizeOf3
  v3 := Tryz.zeroValue3
  t4 := Tryz.underlying4
  a4 := Tryz.isAgg4
  z4 := Tryz.sizeOf4
  v4 := Tryz.zeroValue4
  t9 := Tryz.underlying9
  a9 := Tryz.isAgg9
  z9 := Tryz.sizeOf9
  v9 := Tryz.zeroValue9
  t20 := Tryz.underlying20
  a20 := Tryz.isAgg20
  z20 := Tryz.sizeOf20
  v20 := Tryz.zeroValue20
  t22 := Tryz.underlying51
  a22 := Tryz.isAgg51
  z22 := Tryz.sizeOf51
  v22 := Tryz.zeroValue51

theorem Tryz.hbGrow : HasBody Tryz.prog 98 := ⟨_, Tryz.func98, by kernel_rfl, by kernel_rfl⟩
theorem Tryz.growsSpan : GrowsAt Tryz.prog 98 := fun A n w h0 hn => by
  have q1 : (Tryz.prog.info? 57).map (·.size) = some 2 := by kernel_rfl
  have q2 : (Tryz.prog.info? 57).map (·.bytes) = some 16 := by kernel_rfl
  have q3 : ((Tryz.prog.info? 57).bind (·.zero)).map (·.cells.size) = some 2 := by kernel_rfl
  obtain ⟨i0, hi, hsz⟩ := Option.map_eq_some_iff.1 q1
  obtain ⟨i1, hi', hby⟩ := Option.map_eq_some_iff.1 q2
  rw [hi] at hi'; cases hi'
  obtain ⟨z, hz, hzs⟩ := Option.map_eq_some_iff.1 q3
  rw [hi, Option.bind_some] at hz
  refine (Any8.slices_Grow_grow growSpan i0 z hi hz (by omega) A 0 0 n [] w (Nat.le_refl _) (by omega) (by rw [hby]; omega) (by omega) (by simp) (fun _ => rfl) (fun a _ j v hj => by simp at hj)).mono ?_
  rintro e w' ⟨rfl, rfl⟩
  refine ⟨_, _, _, rfl, rfl, ?_⟩
  have hge := grownCap_ge w (0 + n) 0 (growSpan_ren.t 25)
  simp only [Array.size_append, zeroCells_size, hzs]
  simp only [List.size_toArray, List.length_nil, Nat.sub_zero]
  omega
theorem Tryz.staysSpan : StaysAt Tryz.prog 98 := fun A w => Any8.slices_Grow_room growSpan A 0 0 0 w (Nat.le_refl _) (by omega) (by omega) (Nat.le_refl _)
end Go.Proofs
