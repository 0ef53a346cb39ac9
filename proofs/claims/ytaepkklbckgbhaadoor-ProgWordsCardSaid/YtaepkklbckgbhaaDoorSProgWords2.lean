/- What the functions that the statement reaches do: their contracts; and what follows of it. -/
import Derived.Test.YtaepkklbckgbhaaDoorSProgWords1
import Derived.Test.YtaepkklbckgbhaaDoorK4
import Derived.Test.YtaepkklbckgbhaaDoorCProgWords
import Derived.Test.YtaepkklbckgbhaaDoorProg
import Derived.Shelf.Spec.SlicesGrow
/- Sets of keys, as spans: what two have in common, what one hasn't, their keys; plainly. -/
namespace Go.Proofs
open Go Go.RowKit Go.Am

theorem mayS_of_plain {l : List Sp} (h : isPlain l) : ∀ s ∈ l, mayS s = true := h.1
theorem plainL_isPlain (l : List Sp) : isPlain (plainL l) := plainOf_isPlain _

/-! ### In common -/
def meet1 (x y : Sp) : Sp := (max x.1 y.1, min x.2 y.2)
def meetsL (a b : List Sp) : List Sp := a.flatMap fun x => (b.map (meet1 x)).filter fun s => decide (s.1 ≤ s.2)
theorem meetsL_may {a b : List Sp} (ha : ∀ s ∈ a, mayS s = true) (hb : ∀ s ∈ b, mayS s = true) : ∀ s ∈ meetsL a b, mayS s = true := by
  intro s hs
  obtain ⟨x, hx, hs⟩ := List.mem_flatMap.1 hs
  obtain ⟨hs, hd⟩ := List.mem_filter.1 hs
  obtain ⟨y, hy, rfl⟩ := List.mem_map.1 hs
  have h1 := mayS_iff.1 (ha x hx)
  have h2 := mayS_iff.1 (hb y hy)
  have hd := of_decide_eq_true hd
  exact mayS_iff.2 ⟨by simp only [meet1]; omega, hd, by simp only [meet1]; omega⟩
theorem meetsL_has {a b : List Sp} (ha : ∀ s ∈ a, mayS s = true) (hb : ∀ s ∈ b, mayS s = true) (k : Int) : hasK (meetsL a b) k = (hasK a k && hasK b k) := by
  rw [Bool.eq_iff_iff, hasK_iff, Bool.and_eq_true, hasK_iff, hasK_iff]
  constructor
  · rintro ⟨s, hs, _, q1, q2⟩
    obtain ⟨x, hx, hs⟩ := List.mem_flatMap.1 hs
    obtain ⟨hs, hd⟩ := List.mem_filter.1 hs
    obtain ⟨y, hy, rfl⟩ := List.mem_map.1 hs
    simp only [meet1] at q1 q2
    exact ⟨⟨x, hx, ha x hx, by omega, by omega⟩, ⟨y, hy, hb y hy, by omega, by omega⟩⟩
  · rintro ⟨⟨x, hx, hmx, q1, q2⟩, ⟨y, hy, hmy, p1, p2⟩⟩
    have hm : meet1 x y ∈ meetsL a b := List.mem_flatMap.2 ⟨x, hx, List.mem_filter.2 ⟨List.mem_map.2 ⟨y, hy, rfl⟩, decide_eq_true (by simp only [meet1]; omega)⟩⟩
    exact ⟨_, hm, meetsL_may ha hb _ hm, by simp only [meet1]; omega, by simp only [meet1]; omega⟩
def bothL (a b : List Sp) : List Sp := plainL (meetsL (plainL a) (plainL b))
theorem bothL_has (a b : List Sp) (k : Int) : hasK (bothL a b) k = (hasK a k && hasK b k) := by
  rw [bothL, plainL_has, meetsL_has (plainL_isPlain a).1 (plainL_isPlain b).1, plainL_has, plainL_has]
def meetL (a b : List Sp) : Bool := !(meetsL (plainL a) (plainL b)).isEmpty
theorem meetL_iff (a b : List Sp) : meetL a b = true ↔ ∃ k : Nat, k < 1000 ∧ hasK a k = true ∧ hasK b k = true := by
  have hm := meetsL_may (plainL_isPlain a).1 (plainL_isPlain b).1
  have hh := meetsL_has (plainL_isPlain a).1 (plainL_isPlain b).1
  simp only [meetL, Bool.not_eq_true', List.isEmpty_eq_false_iff]
  constructor
  · intro h
    obtain ⟨s, hs⟩ := List.exists_mem_of_ne_nil _ h
    have ms := mayS_iff.1 (hm s hs)
    have : hasK (meetsL (plainL a) (plainL b)) s.1 = true := hasK_iff.2 ⟨s, hs, hm s hs, by omega, by omega⟩
    rw [hh, plainL_has, plainL_has, Bool.and_eq_true] at this
    have e : ((s.1.toNat : Nat) : Int) = s.1 := by omega
    exact ⟨s.1.toNat, by omega, by rw [e]; exact this.1, by rw [e]; exact this.2⟩
  · rintro ⟨k, _, h1, h2⟩ e
    have := hh k
    rw [e, plainL_has, plainL_has, h1, h2] at this
    cases this

/-! ### What isn't there -/
def gaps : List Sp → Int → List Sp
  | [], k => [(k, 999)]
  | s :: l, k => (k, s.1 - 1) :: gaps l (s.2 + 1)
theorem gaps_has : ∀ {l : List Sp} {n : Int}, isPlain l → (∀ s ∈ l, n ≤ s.1) → 0 ≤ n → ∀ k, hasK (gaps l n) k = (decide (n ≤ k) && decide (k ≤ 999) && !hasK l k)
  | [], n, _, _, h0, k => by
    rw [Bool.eq_iff_iff, gaps, hasK_cons, hasK_nil, Bool.or_false, inS_iff, Bool.not_false, Bool.and_true, Bool.and_eq_true, decide_eq_true_eq, decide_eq_true_eq]
    exact ⟨fun ⟨_, a, b⟩ => ⟨a, b⟩, fun ⟨a, b⟩ => ⟨mayS_iff.2 ⟨h0, by simp only; omega, by simp⟩, a, b⟩⟩
  | s :: l, n, hp, hn, h0, k => by
    obtain ⟨h1, h2, h3⟩ := isPlain_cons.1 hp
    have ms := mayS_iff.1 h1
    have hns := hn s (by simp)
    have ih := gaps_has (n := s.2 + 1) h3 (fun t ht => by have := h2 t ht; omega) (by omega) k
    have ht := plain_tail hp k
    have hc : hasK (s :: l) k = (inS s k || hasK l k) := rfl
    rw [gaps, hasK_cons, ih, hc]
    have hlow : hasK l k = true → s.2 < k := fun e => by
      rw [ht, Bool.and_eq_true, decide_eq_true_eq] at e
      exact e.2
    by_cases hk1 : k < s.1
    · have e1 : inS s k = false := by rw [Bool.eq_false_iff]; intro e; have := inS_iff.1 e; omega
      have e2 : hasK l k = false := by rw [Bool.eq_false_iff]; intro e; have := hlow e; omega
      rw [e1, e2, Bool.eq_iff_iff]
      simp only [Bool.or_eq_true, inS_iff, mayS_iff, Bool.and_eq_true, decide_eq_true_eq, Bool.not_false, Bool.or_false, and_true]
      constructor
      · rintro (⟨_, a, b⟩ | ⟨a, b⟩) <;> exact ⟨by omega, by omega⟩
      · rintro ⟨a, b⟩; exact .inl ⟨⟨h0, by omega, by omega⟩, a, by omega⟩
    · have e3 : inS (n, s.1 - 1) k = false := by rw [Bool.eq_false_iff]; intro e; have := inS_iff.1 e; simp only at this; omega
      rw [e3, Bool.false_or]
      by_cases hk2 : k ≤ s.2
      · have e1 : inS s k = true := inS_iff.2 ⟨h1, by omega, hk2⟩
        rw [e1]
        simp only [Bool.true_or, Bool.not_true, Bool.and_false, Bool.and_eq_false_iff, decide_eq_false_iff_not]
        exact .inl (.inl (by omega))
      · have e1 : inS s k = false := by rw [Bool.eq_false_iff]; intro e; have := inS_iff.1 e; omega
        rw [e1, Bool.false_or]
        congr 2
        rw [Bool.eq_iff_iff, decide_eq_true_eq, decide_eq_true_eq]
        exact ⟨fun a => by omega, fun a => by omega⟩
def othersL (l : List Sp) : List Sp := plainL (gaps l 0)
theorem othersL_has {l : List Sp} (h : isPlain l) (k : Int) : hasK (othersL l) k = (decide (0 ≤ k) && decide (k ≤ 999) && !hasK l k) := by
  rw [othersL, plainL_has, gaps_has h (fun s hs => (mayS_iff.1 (h.1 s hs)).1) (by omega)]
def lessL (a b : List Sp) : List Sp := bothL a (othersL (plainL b))
theorem lessL_has (a b : List Sp) (k : Int) : hasK (lessL a b) k = (hasK a k && !hasK b k) := by
  rw [lessL, bothL_has, othersL_has (plainL_isPlain b), plainL_has]
  by_cases h : hasK a k = true
  · have := hasK_range h
    simp [h, this.1, this.2]
  · simp only [Bool.not_eq_true] at h; simp [h]
theorem bothL_plain (a b : List Sp) : bothL a b = plainOf fun k => hasK a k && hasK b k := plainOf_of (plainL_isPlain _) fun k _ => bothL_has a b k
theorem lessL_plain (a b : List Sp) : lessL a b = plainOf fun k => hasK a k && !hasK b k := plainOf_of (plainL_isPlain _) fun k _ => lessL_has a b k
def insideL (a b : List Sp) : Bool := (lessL a b).isEmpty
theorem insideL_iff (a b : List Sp) : insideL a b = true ↔ ∀ k : Nat, k < 1000 → hasK a k = true → hasK b k = true := by
  rw [insideL, List.isEmpty_iff]
  constructor
  · intro h k _ ha
    have := lessL_has a b k
    rw [h, ha] at this
    simpa [hasK_nil] using this
  · intro h
    have hp : isPlain (lessL a b) := plainL_isPlain _
    cases hl : lessL a b with
    | nil => rfl
    | cons s l =>
      exfalso
      rw [hl] at hp
      have q := plain_head hp
      rw [← hl, lessL_has, Bool.and_eq_true, Bool.not_eq_true'] at q
      have r := hasK_range q.1
      have e : ((s.1.toNat : Nat) : Int) = s.1 := by omega
      have := h s.1.toNat (by omega) (by rw [e]; exact q.1)
      rw [e, q.2] at this
      cases this

/-! ### The keys, one by one -/
def keysS (s : Sp) : List Int := (List.range (s.2 - s.1 + 1).toNat).map fun i => s.1 + (i : Nat)
def allL (l : List Sp) : List Int := l.flatMap keysS
def keysOf (f : Nat → Bool) (n : Nat) : List Int := ((List.range n).filter f).map fun k => ((k : Nat) : Int)
theorem allL_app (l m : List Sp) : allL (l ++ m) = allL l ++ allL m := by simp [allL]
theorem allL_one (s : Sp) : allL [s] = keysS s := by simp [allL]
theorem keysS_len (s : Sp) (h : s.1 ≤ s.2) : ((keysS s).length : Int) = s.2 - s.1 + 1 := by simp [keysS]; omega
theorem keysS_ext {a b : Int} (h : a ≤ b + 1) : keysS (a, b + 1) = keysS (a, b) ++ [b + 1] := by
  have e : (b + 1 - a + 1).toNat = (b - a + 1).toNat + 1 := by omega
  simp only [keysS, e, List.range_succ, List.map_append, List.map_cons, List.map_nil]
  congr 2
  omega

theorem plainTo_snoc (f : Nat → Bool) (n : Nat) (hn : n ≤ 1000) (h : 0 < n ∧ f (n - 1) = true) : ∃ o t, plainTo f n = o ++ [t] ∧ t.2 = (n : Int) - 1 := by
  have := (plainTo_ok f n hn).2.2.2
  rwa [if_pos h] at this

theorem allL_plainTo (f : Nat → Bool) : ∀ n, n ≤ 1000 → allL (plainTo f n) = keysOf f n
  | 0, _ => rfl
  | n + 1, hn => by
    have ih := allL_plainTo f n (by omega)
    have hk : keysOf f (n + 1) = keysOf f n ++ if f n = true then [(n : Int)] else [] := by
      simp only [keysOf, List.range_succ, List.filter_append, List.map_append]
      by_cases h : f n = true <;> simp [h]
    rw [hk, ← ih]
    show allL (if f n = true then _ else _) = _
    by_cases hf : f n = true
    · rw [if_pos hf, if_pos hf]
      by_cases hp : 0 < n ∧ f (n - 1) = true
      · rw [if_pos hp]
        obtain ⟨o, t, e, ht⟩ := plainTo_snoc f n (by omega) hp
        have hpl := (plainTo_ok f n (by omega)).1
        rw [e] at hpl ⊢
        have mt := mayS_iff.1 (isPlain_snoc.1 hpl).2.1
        have hx := keysS_ext (a := t.1) (b := t.2) (by omega)
        rw [show t.2 + 1 = (n : Int) by omega] at hx
        rw [extL_snoc, allL_app, allL_app, allL_one, allL_one, hx, List.append_assoc]
      · rw [if_neg hp, allL_app, allL_one]
        congr 1
        simp [keysS]
    · rw [if_neg hf, if_neg hf, List.append_nil]
theorem allL_plainOf (f : Nat → Bool) : allL (plainOf f) = keysOf f 1000 := allL_plainTo f 1000 (Nat.le_refl _)
def sizeL (l : List Sp) : Int := (l.map fun s => s.2 - s.1 + 1).sum
theorem sizeL_all : ∀ {l : List Sp}, (∀ s ∈ l, mayS s = true) → sizeL l = ((allL l).length : Nat)
  | [], _ => rfl
  | s :: l, h => by
    have ih := sizeL_all (l := l) fun t ht => h t (by simp [ht])
    have ms := mayS_iff.1 (h s (by simp))
    have hl := keysS_len s (by omega)
    rw [show allL (s :: l) = keysS s ++ allL l from by simp [allL], List.length_append]
    simp only [sizeL, List.map_cons, List.sum_cons] at ih ⊢
    omega

end Go.Proofs

/- Spans in a box: how they lie there. -/
namespace Go.Am
open Go Go.RowKit

def encP (x : Int × Int) : List Value := [.int .i64 x.1, .int .i64 x.2]
def avP (x : Int × Int) : List AV := [.int .i64 x.1, .int .i64 x.2]
def flatP (l : List (Int × Int)) : List AV := (l.map avP).flatten

theorem avP_len : ∀ {l : List (Int × Int)}, ∀ e ∈ l.map avP, e.length = 2 := fun e he => by
  obtain ⟨x, _, rfl⟩ := List.mem_map.1 he
  rfl
theorem flatP_len (l : List (Int × Int)) : (flatP l).length = l.length * 2 := by
  have := flatten_len (z := 2) (es := l.map avP) avP_len
  rw [flatP, this, List.length_map]
theorem flatP_get (l : List (Int × Int)) (i j : Nat) (hj : j < 2) : (flatP l)[i * 2 + j]? = (l[i]?).bind fun x => (avP x)[j]? := by
  rw [flatP, flatten_get avP_len i j hj, List.getElem?_map]
  cases l[i]? <;> rfl

end Go.Am

/- What the functions of the statements about codes do. -/
namespace Go.Proofs
open Go Go.RowKit Go.Am

def w64 (n : Nat) : List AV := [.int .u64 n]
@[simp] def encW (l : List Nat) : AV := .sl .no (l.map w64)
@[simp] theorem wk_w64 : List.map wk ∘ w64 = w64 := by funext n; simp [w64]

@[simp] theorem wk_w64' (n : Nat) : List.map wk (w64 n) = w64 n := by simp [w64]

theorem pure_w64 (l : List Nat) : PureV (encW l) := .sl (fun i h => by cases h) fun e he v hv => by
  obtain ⟨n, _, rfl⟩ := List.mem_map.1 he
  simp -implicitDefEqProofs only [w64, List.mem_singleton] at hv
  subst hv
  exact .int _ _

theorem pures_nil : ∀ v ∈ ([] : List AV), PureV v := fun v h => by cases h
theorem pures_cons {v : AV} {l : List AV} (h : PureV v) (hl : ∀ v ∈ l, PureV v) : ∀ u ∈ v :: l, PureV u := fun u hu => by
  rcases List.mem_cons.1 hu with rfl | hu
  · exact h
  · exact hl u hu

theorem words_ok (a b : List Nat) (ha : a.length ≤ 9223372036854775807) (hb : b.length ≤ 9223372036854775807) : PCall Tryd.prog 23 [encW a, encW b] (.bool (decide (a = b))) := by
  refine PCall.run hb23 ok23 (by simp) (pures_cons (pure_w64 a) (pures_cons (pure_w64 b) pures_nil)) (.bool _) ?_
  simp -implicitDefEqProofs
  by_cases hl : a.length = b.length
  · simp -implicitDefEqProofs [hl]
    refine run_loop (fun n s h => ∃ j, n = a.length - j ∧ j ≤ a.length ∧ s 0 = encW a ∧ s 1 = encW b ∧ s 5 = .int .i64 j ∧ ∀ i, i < j → a[i]? = b[i]?) ?_ a.length ?_
    · rintro n s h ⟨j, hn, hj, h0, h1, h5, hall⟩ ih
      simp -implicitDefEqProofs [h0, h5]
      by_cases hlt : j < a.length
      · simp -implicitDefEqProofs [hlt]
        refine run_dreg c23_d6 ?_
        have hjb : j < b.length := by omega
        simp -implicitDefEqProofs [h0, h1, h5, hlt, hjb, w64]
        by_cases hab : a[j] = b[j]
        · simp -implicitDefEqProofs [hab, h5, wrap_i64 (x := (j : Int) + 1) (by omega) (by omega)]
          refine ih (a.length - (j + 1)) _ _ (by omega) ⟨j + 1, rfl, by omega, by simp [h0], by simp [h1], by simp, fun i hi => ?_⟩
          by_cases hij : i = j
          · subst hij; simp [hlt, hjb, hab]
          · exact hall i (by omega)
        · have : a ≠ b := fun h => hab (by subst h; rfl)
          simp -implicitDefEqProofs [hab, this]
      · simp -implicitDefEqProofs [hlt]
        have : a = b := by
          apply List.ext_getElem? 
          intro i
          by_cases hi : i < j
          · exact hall i hi
          · rw [List.getElem?_eq_none (by omega), List.getElem?_eq_none (by omega)]
        simp -implicitDefEqProofs [this]
    · exact ⟨0, by simp⟩
  · have hne : a ≠ b := fun h => hl (h ▸ rfl)
    simp -implicitDefEqProofs [hl, hne]
end Go.Proofs

/- What the writer of codes does. -/
namespace Go.Proofs
open Go Go.RowKit Go.Am

structure WB (h : H) (b : Nat) (t : Tok) (ws : List Nat) : Prop where
  lt : b < h.bn
  bx : h.bx b = some [.sl t (ws.map w64)]
  live : TLive h t ws.length

structure WTo (h : H) (b : Nat) (t : Tok) (ws : List Nat) (h' : H) (t' : Tok) : Prop where
  wb : WB h' b t' ws
  next : TNext h t t'
  keep : HF h h' (· = b) (TOwn t)

def WAdd (f : FuncId) (args : List AV) (h : H) (b : Nat) (t : Tok) (ws : List Nat) : Prop := CallP Tryd.prog f args h fun _ h' => ∃ t', WTo h b t ws h' t'

theorem w64_len (us : List Nat) : ∀ e ∈ us.map w64, e.length = 1 := fun e he => by
  obtain ⟨n, _, rfl⟩ := List.mem_map.1 he
  rfl

theorem src_w64 (h : H) (us : List Nat) (t : Tok) : srcA h 1 (.sl t (us.map w64)) = some (us.map w64) := by
  simp only [srcA]
  rw [if_pos (w64_len us)]

theorem appQ_w {h : H} {t t2 : Tok} {es es2 : List (List AV)} (ws us : List Nat) {K : AV → H → Prop} (e1 : es = ws.map w64) (e2 : es2 = us.map w64) (ht : TLive h t ws.length) (hl : ws.length + us.length ≤ 1000000)
    (hk : ∀ t' h', TLive h' t' (ws ++ us).length → TNext h t t' → HF h h' (fun _ => False) (TOwn t) → h'.bn = h.bn → K (.sl t' ((ws ++ us).map w64)) h') : appQ h 1 8 (.sl t es) (.sl t2 es2) K := by
  subst e1 e2
  refine appQ_tok (es2 := us.map w64) (by simpa using ht) (w64_len ws) (src_w64 h us _) (by simp only [List.length_map]; omega) fun t' h' q1 q2 q3 q4 => ?_
  rw [← List.map_append]
  exact hk t' h' (by simpa using q1) q2 q3 q4

theorem put_ok {h : H} {b : Nat} {t : Tok} {ws us : List Nat} (hw : WB h b t ws) (hl : ws.length + us.length ≤ 1000000) : WAdd 62 [.ptr b 0, encW us] h b t (ws ++ us) := by
  refine CallP.run hb62 ok62 (by simp) ?_
  simp -implicitDefEqProofs [hw.bx, hw.lt]
  refine appQ_tok (es2 := us.map w64) (by simpa using hw.live) (w64_len ws) (src_w64 h us _) (by simp only [List.length_map]; omega) fun t' h' q1 q2 q3 q4 => ?_
  have hb' : h'.bx b = some [.sl t (ws.map w64)] := (q3.bx b hw.lt (fun h => h)).trans hw.bx
  simp -implicitDefEqProofs [hb', q4, hw.lt]
  exact ⟨t', ⟨by simp [q4, hw.lt], by simp, by simpa using q1⟩, q2, (q3.mono (fun _ _ h => h.elim) (fun _ _ h => h)).trans (HF.set _ rfl)⟩

theorem pures1 {v : AV} (h : PureV v) : ∀ u ∈ [v], PureV u := pures_cons h pures_nil

/-- A number with a sign, as a word. -/
def signed (x : Int) : Nat := if 0 ≤ x then (2 * x).toNat else (2 * (-(x + 1)) + 1).toNat

theorem refSigned_ok (x : Int) (h1 : -9223372036854775808 ≤ x) (h2 : x ≤ 9223372036854775807) : PCall Tryd.prog 63 [.int .i64 x] (.int .u64 (signed x)) := by
  refine PCall.run hb63 ok63 (by simp) (pures1 (.int _ _)) (.int _ _) ?_
  simp -implicitDefEqProofs
  by_cases hx : 0 ≤ x
  · simp -implicitDefEqProofs [hx, signed, wrap_u64 (x := x) (by omega) (by omega), wrap_u64 (x := 2 * x) (by omega) (by omega)]
    omega
  · simp -implicitDefEqProofs [hx, signed, wrap_i64 (x := x + 1) (by omega) (by omega), wrap_i64 (x := -(x + 1)) (by omega) (by omega), wrap_u64 (x := -(x + 1)) (by omega) (by omega), wrap_u64 (x := 2 * -(x + 1)) (by omega) (by omega)]
    rw [wrap_u64 (by omega) (by omega)]
    omega

theorem callW {f : FuncId} {first caps args as' : List AV} {h : H} {b : Nat} {t : Tok} {ws : List Nat} {K : AV → H → Prop} (hc : WAdd f as' h b t ws) (ha : (first ++ args ++ caps).map wk = as') (hk : ∀ r h' t', WTo h b t ws h' t' → K r h') : callQ Tryd.prog (.fn f first caps) args h K := callQ_c hc ha fun r h1 ⟨t', q⟩ => hk r h1 t' q

theorem count_ok {h : H} {b : Nat} {t : Tok} {ws : List Nat} (hw : WB h b t ws) (n : Int) (hn : n ≤ 9223372036854775807) (hl : ws.length + 1 ≤ 1000000) : WAdd 40 [.ptr b 0, .int .i64 n] h b t (ws ++ [n.toNat]) := by
  refine CallP.run hb40 ok40 (by simp) ?_
  have e : IntKind.u64.wrap (if n < 0 then 0 else n) = (n.toNat : Int) := by
    by_cases h0 : n < 0
    · rw [if_pos h0, wrap_u64 (by omega) (by omega)]; omega
    · rw [if_neg h0, wrap_u64 (by omega) (by omega)]; omega
  simp -implicitDefEqProofs [e]
  refine callW (put_ok hw (us := [n.toNat]) (by simpa using hl)) (by simp [w64]) fun r h' t' q => ?_
  try simp -implicitDefEqProofs
  exact ⟨t', q⟩

theorem xor_ones (a : Nat) (h : a < 18446744073709551616) : a ^^^ 18446744073709551615 = 18446744073709551615 - a := by
  have e : (BitVec.ofNat 64 a ^^^ BitVec.allOnes 64).toNat = 18446744073709551615 - a := by
    rw [BitVec.xor_allOnes, BitVec.toNat_not, BitVec.toNat_ofNat]
    omega
  rw [← e, BitVec.toNat_xor, BitVec.toNat_ofNat, BitVec.toNat_allOnes, Nat.mod_eq_of_lt h]

theorem signed_bits (x : Int) (h1 : -9223372036854775808 ≤ x) (h2 : x ≤ 9223372036854775807) : IntKind.u64.wrap
      ((((IntKind.u64.wrap (IntKind.i64.wrap (x * 2 ^ shAmt IntKind.i64 1)) % 2 ^ IntKind.u64.bits).toNat ^^^
          (IntKind.u64.wrap (x.fdiv (2 ^ shAmt IntKind.i64 63)) % 2 ^ IntKind.u64.bits).toNat) : Nat) : Int) = (signed x : Int) := by
  have e1 : (2 : Int) ^ shAmt IntKind.i64 1 = 2 := rfl
  have e2 : (2 : Int) ^ shAmt IntKind.i64 63 = 9223372036854775808 := rfl
  have e3 : (2 : Int) ^ IntKind.u64.bits = 18446744073709551616 := rfl
  have wu : ∀ y : Int, IntKind.u64.wrap y = y % 18446744073709551616 := fun y => by simp [IntKind.wrap, IntKind.bits, IntKind.signed]
  have wi : ∀ y : Int, IntKind.i64.wrap y = (if 9223372036854775808 ≤ y % 18446744073709551616 then y % 18446744073709551616 - 18446744073709551616 else y % 18446744073709551616) := fun y => by simp [IntKind.wrap, IntKind.bits, IntKind.signed]
  rw [e1, e2, e3]
  have e4 : IntKind.u64.wrap (IntKind.i64.wrap (x * 2)) % 18446744073709551616 = (x * 2) % 18446744073709551616 := by
    rw [wu, wi]; split <;> omega
  rw [e4]
  by_cases hx : 0 ≤ x
  · have e5 : x.fdiv 9223372036854775808 = 0 := by rw [Int.fdiv_eq_ediv_of_nonneg _ (by omega)]; omega
    rw [e5, wu, wu]
    simp only [signed, if_pos hx]
    simp
    omega
  · have e5 : x.fdiv 9223372036854775808 = -1 := by rw [Int.fdiv_eq_ediv_of_nonneg _ (by omega)]; omega
    rw [e5, wu, wu]
    have e6 : ((-1 : Int) % 18446744073709551616 % 18446744073709551616).toNat = 18446744073709551615 := by decide
    rw [e6, xor_ones _ (by omega)]
    simp only [signed, if_neg hx]
    omega

theorem wsigned_ok {h : H} {b : Nat} {t : Tok} {ws : List Nat} (hw : WB h b t ws) (x : Int) (h1 : -9223372036854775808 ≤ x) (h2 : x ≤ 9223372036854775807) (hl : ws.length + 1 ≤ 1000000) : WAdd 42 [.ptr b 0, .int .i64 x] h b t (ws ++ [signed x]) := by
  refine CallP.run hb42 ok42 (by simp) ?_
  simp -implicitDefEqProofs
  refine callW (put_ok hw (us := [signed x]) (by simpa using hl)) ?_ fun r h' t' q => ?_
  · simp -implicitDefEqProofs [w64]
    exact signed_bits x h1 h2
  try simp -implicitDefEqProofs
  exact ⟨t', q⟩

theorem TOwn.next {h h1 : H} {t t1 : Tok} {B T : Nat → Prop} (a : TNext h t t1) : ∀ i, i < h.tn → TOwn t1 i → TOwn t i := fun i hi ho => by
  rcases a with rfl | ⟨j, rfl, hj⟩
  · exact ho
  · cases ho; omega
theorem WTo.trans {h h1 h2 : H} {b : Nat} {t t1 t2 : Tok} {ws ws' : List Nat} (a : WTo h b t ws h1 t1) (c : WTo h1 b t1 ws' h2 t2) : WTo h b t ws' h2 t2 :=
  ⟨c.wb, a.next.trans a.keep c.next, a.keep.trans' c.keep (fun _ _ h => h) (TOwn.next (B := fun _ => False) (T := fun _ => False) (h1 := h1) a.next)⟩

end Go.Proofs

/- Spans in a box: which may be, the first that may not, those that may be. -/
namespace Go.Proofs
open Go Go.RowKit Go.Am

def zeroP : Sp := (0, 0)
theorem flatP_nil : flatP [] = [] := rfl
theorem flatP_cons (x : Sp) (l : List Sp) : flatP (x :: l) = avP x ++ flatP l := by simp [flatP]
theorem flatP_app (l m : List Sp) : flatP (l ++ m) = flatP l ++ flatP m := by simp [flatP]
theorem flatP_split {l : List Sp} {j : Nat} (hj : j < l.length) : flatP l = flatP (l.take j) ++ (avP l[j] ++ flatP (l.drop (j + 1))) := by
  conv => lhs; rw [← List.take_append_drop j l, List.drop_eq_getElem_cons hj]
  rw [flatP_app, flatP_cons]
theorem flatP_at {l : List Sp} {rest : List AV} {j : Nat} (hj : j < l.length) : ((flatP l ++ rest).drop (j * 2)).take 2 = avP l[j] := by
  have e : (flatP (l.take j)).length = j * 2 := by rw [flatP_len, List.length_take]; omega
  rw [flatP_split hj, List.append_assoc, ← e, List.drop_left, List.append_assoc]
  rfl
theorem flatP_put {l : List Sp} {rest : List AV} {j : Nat} (hj : j < l.length) (y : Sp) : (flatP l ++ rest).take (j * 2) ++ (avP y ++ (flatP l ++ rest).drop (j * 2 + 2)) = flatP (l.set j y) ++ rest := by
  have e : (flatP (l.take j)).length = j * 2 := by rw [flatP_len, List.length_take]; omega
  have h1 : (flatP l ++ rest).take (j * 2) = flatP (l.take j) := by
    rw [flatP_split hj, List.append_assoc, ← e, List.take_left]
  have h2 : (flatP l ++ rest).drop (j * 2 + 2) = flatP (l.drop (j + 1)) ++ rest := by
    rw [flatP_split hj, ← e, List.append_assoc, ← List.drop_drop, List.drop_left, List.append_assoc]
    rfl
  rw [h1, h2, List.set_eq_take_append_cons_drop, if_pos hj, flatP_app, flatP_cons]
  simp only [List.append_assoc]
theorem pure_avP (x : Sp) : ∀ v ∈ avP x, PureV v := by
  intro v hv
  simp only [avP, List.mem_cons, List.not_mem_nil, or_false] at hv
  rcases hv with rfl | rfl <;> exact .int _ _
theorem avP_un (x : Sp) : unCells true (avP x) = some (.agg (avP x)) := rfl

def badI (l : List Sp) : Int := idxI (fun s => !mayS s) l

end Go.Proofs

/- Spans in a box: those that may be, alone; several lists, one behind the other; the plain list. -/
namespace Go.Proofs
open Go Go.RowKit Go.Am

/-! ### A sort of nothing -/
theorem w0_i : IntKind.i64.wrap 0 = 0 := wrap_i64 (by omega) (by omega)
theorem w1_i : IntKind.i64.wrap 1 = 1 := wrap_i64 (by omega) (by omega)
theorem w0_u : IntKind.u64.wrap 0 = 0 := wrap_u64 (by omega) (by omega)
theorem w0_u8 : IntKind.u8.wrap 0 = 0 := by decide
theorem pure_nilsl : PureV (.sl .no []) := .sl (fun _ e => by cases e) (fun _ e => by cases e)
set_option maxRecDepth 10000 in
theorem len64_zero : PCall Tryd.prog 78 [.int .u64 0] (.int .i64 0) := by
  refine PCall.run hb78 ok78 (by simp) (pures1 (.int _ _)) (.int _ _) ?_
  simp -implicitDefEqProofs [w0_u8]
  exact Eq.refl (AV.int .i64 0)
/-! ### Those that may be, alone -/
theorem badI_none {l : List Sp} (h : l.findIdx? (fun s => !mayS s) = none) : badI l = -1 ∧ l.filter mayS = l := by
  refine ⟨by simp [badI, idxI, h], ?_⟩
  rw [List.findIdx?_eq_none_iff] at h
  exact List.filter_eq_self.2 fun s hs => by have := h s hs; simpa using this
theorem badI_some {l : List Sp} {i : Nat} (h : l.findIdx? (fun s => !mayS s) = some i) : badI l = i ∧ ∃ hi : i < l.length, mayS l[i] = false ∧ (l.take i).filter mayS = l.take i := by
  refine ⟨by simp [badI, idxI, h], ?_⟩
  rw [List.findIdx?_eq_some_iff_getElem] at h
  obtain ⟨hi, h1, h2⟩ := h
  refine ⟨hi, by simpa using h1, List.filter_eq_self.2 fun s hs => ?_⟩
  obtain ⟨k, hk, rfl⟩ := List.mem_iff_getElem.1 hs
  rw [List.length_take] at hk
  have := h2 k (by omega)
  simpa using this
theorem take_succ_filter {l : List Sp} {j : Nat} (hj : j < l.length) : (l.take (j + 1)).filter mayS = (l.take j).filter mayS ++ if mayS l[j] = true then [l[j]] else [] := by
  rw [List.take_succ_eq_append_getElem hj, List.filter_append]
  by_cases h : mayS l[j] = true <;> simp [h]

end Go.Proofs

/- Room for spans: the library's own contract, laid at the program, over boxes. PRINTED in its first part by laygen.py, a program of this work. -/
namespace Go.Am
open Go Go.RowKit Go.Lib Go.Shelf

/-- Room for n spans, where there is none. -/
def GrowsAt (P : Program) (f : FuncId) : Prop := ∀ (A : Option Addr) (n : Nat) (w : World), 0 < n → n ≤ 1000000 →
    Calls P f #[.slice A 0 0, .int .i64 n] w fun e w' => ∃ K T c, e = .returned (.slice (some ⟨w.heap.size, 0, none⟩) 0 c) ∧ w' = w.drew.alloc (.cells K T) ∧ K.size = c * 2

theorem grow_call {P : Program} {f : FuncId} (hbody : HasBody P f) (hg : GrowsAt P f) {h : H} {n : Nat} (h0 : 0 < n) (hn : n ≤ 1000000) :
    CallP P f [.sl .full [], .int .i64 n] h fun r h' => r = .msl h.bn 2 0 0 ∧ h' = h.alloc [] := by
  refine ⟨hbody, fun base W w g Args hs hA => ?_⟩
  obtain ⟨hAs, hAr⟩ := hA
  have h0' := hAr 0 (by simp)
  have h1' := hAr 1 (by simp)
  simp only [List.length_cons, List.length_nil] at hAs
  have hArgs : Args = #[Args[0], Args[1]] := by
    apply Array.ext
    · simp; omega
    · intro i hi1 hi2
      have : i = 0 ∨ i = 1 := by simp at hi2; omega
      rcases this with rfl | rfl <;> simp
  generalize hA0 : Args[0] = A0 at h0' hArgs
  generalize hA1 : Args[1] = A1 at h1' hArgs
  subst hArgs
  clear hA0 hA1 hAs hAr
  simp only [List.getElem_cons_zero] at h0'
  simp only [List.getElem_cons_succ, List.getElem_cons_zero] at h1'
  obtain ⟨A, cap, z, Vs, rfl, _, _, _, _, _, _, htok⟩ := h0'.sl_inv
  have hcap : cap = 0 := htok
  subst hcap
  rw [h1'.int_inv]
  refine (hg A n w h0 hn).mono ?_
  rintro e w' ⟨K, T, c, rfl, rfl, hK⟩
  obtain ⟨hs1, he1⟩ := hs.drew
  obtain ⟨hs2, he2⟩ := hs1.allocBox K T [] ⟨Nat.zero_le _, fun k v hk => by simp at hk⟩
  refine ⟨_, _, .msl h.bn 2 0 0, _, rfl, ?_, hs2, he1.trans he2, rfl, rfl⟩
  have hbx : (g.box w.drew.heap.size K.size).bx h.bn = w.heap.size ∧ (g.box w.drew.heap.size K.size).bs h.bn = K.size := by
    refine ⟨?_, ?_⟩
    · show (if h.bn = g.bn then _ else _) = _
      rw [if_pos hs.bn]; rfl
    · show (if h.bn = g.bn then _ else _) = _
      rw [if_pos hs.bn]
  have := Rep.msl (w := w.drew.alloc (.cells K T)) (g := g.box w.drew.heap.size K.size) h.bn 2 0 0 c (by show h.bn < g.bn + 1; rw [hs.bn]; omega) (Nat.zero_le _) (by rw [hbx.2]; omega)
  rw [hbx.1] at this
  exact this

/-- Room for none. -/
def StaysAt (P : Program) (f : FuncId) : Prop := ∀ (A : Option Addr) (w : World), Calls P f #[.slice A 0 0, .int .i64 0] w fun e w' => e = .returned (.slice A 0 0) ∧ w' = w
theorem stay_call {P : Program} {f : FuncId} (hbody : HasBody P f) (hg : StaysAt P f) {h : H} : CallP P f [.sl .full [], .int .i64 0] h fun r h' => r = .sl .full [] ∧ h' = h := by
  refine ⟨hbody, fun base W w g Args hs hA => ?_⟩
  obtain ⟨hAs, hAr⟩ := hA
  have h0' := hAr 0 (by simp)
  have h1' := hAr 1 (by simp)
  simp only [List.length_cons, List.length_nil] at hAs
  have hArgs : Args = #[Args[0], Args[1]] := by
    apply Array.ext
    · simp; omega
    · intro i hi1 hi2
      have : i = 0 ∨ i = 1 := by simp at hi2; omega
      rcases this with rfl | rfl <;> simp
  generalize hA0 : Args[0] = A0 at h0' hArgs
  generalize hA1 : Args[1] = A1 at h1' hArgs
  subst hArgs
  clear hA0 hA1 hAs hAr
  simp only [List.getElem_cons_zero] at h0'
  simp only [List.getElem_cons_succ, List.getElem_cons_zero] at h1'
  have hsl := h0'
  obtain ⟨A, cap, z, Vs, rfl, _, _, _, _, _, _, htok⟩ := h0'.sl_inv
  have hcap : cap = 0 := htok
  subst hcap
  rw [h1'.int_inv]
  refine (hg A w).mono ?_
  rintro e w' ⟨rfl, rfl⟩
  exact ⟨_, g, _, h, rfl, hsl, hs, Ext.refl base W _ g, rfl, rfl⟩
end Go.Am
namespace Go.Proofs
open Go Go.RowKit Go.Am Go.Lib Go.Shelf

end Go.Proofs

/- Several lists of spans, one behind the other. -/
namespace Go.Proofs
open Go Go.RowKit Go.Am

def encL (l : List Sp) : AV := .sl .no (l.map avP)
def tot (ls : List (List Sp)) : Nat := ls.flatten.length
theorem tot_succ {ls : List (List Sp)} {j : Nat} (hj : j < ls.length) : tot (ls.take (j + 1)) = tot (ls.take j) + ls[j].length ∧ (ls.take (j + 1)).flatten = (ls.take j).flatten ++ ls[j] := by
  have e : (ls.take (j + 1)).flatten = (ls.take j).flatten ++ ls[j] := by
    rw [List.take_succ_eq_append_getElem hj, List.flatten_append]; simp
  exact ⟨by rw [tot, e, List.length_append]; rfl, e⟩
theorem tot_le (ls : List (List Sp)) (j : Nat) : tot (ls.take j) ≤ tot ls := by
  have e : ls.flatten = (ls.take j).flatten ++ (ls.drop j).flatten := by rw [← List.flatten_append, List.take_append_drop]
  rw [tot, tot, e, List.length_append]; omega
theorem src_P (h : H) (l : List Sp) (t : Tok) : srcA h 2 (.sl t (l.map avP)) = some (l.map avP) := by
  simp only [srcA]
  rw [if_pos avP_len]

end Go.Proofs

/- Sets of keys: what the statements say of them, plainly; no program in sight. -/
namespace Go.Proofs
open Go Go.RowKit Go.Am

theorem plainL_congr {l m : List Sp} (h : ∀ k, hasK l k = hasK m k) : plainL l = plainL m := plainOf_congr fun k _ => h k
theorem plainL_idem (l : List Sp) : plainL (plainL l) = plainL l := plainL_plain (plainL_isPlain l)
theorem plainL_bothL (a b : List Sp) : plainL (bothL a b) = bothL a b := plainL_plain (plainL_isPlain _)
theorem plainL_lessL (a b : List Sp) : plainL (lessL a b) = lessL a b := plainL_plain (plainL_isPlain _)

theorem plainL_one (k : Int) : plainL [(k, k)] = if 0 ≤ k ∧ k ≤ 999 then [(k, k)] else [] := by
  symm
  by_cases h : 0 ≤ k ∧ k ≤ 999
  · rw [if_pos h]
    exact plainL_of ⟨fun s hs => by rw [List.mem_singleton.1 hs]; exact mayS_iff.2 ⟨h.1, Int.le_refl _, h.2⟩, List.pairwise_singleton _ _⟩ fun _ => rfl
  · rw [if_neg h]
    refine plainL_of ⟨fun s hs => (by cases hs), List.Pairwise.nil⟩ fun j => ?_
    rw [hasK_nil, hasK_cons, hasK_nil, Bool.or_false]
    symm; rw [Bool.eq_false_iff]; intro e
    have := mayS_iff.1 (inS_iff.1 e).1
    simp only at this
    exact h ⟨this.1, this.2.2⟩

theorem alive_a : plainL [(5, 7), (1, 2), (3, 4)] = [(1, 7)] := by
  symm
  refine plainL_of ⟨fun s hs => by rw [List.mem_singleton.1 hs]; decide, List.pairwise_singleton _ _⟩ fun k => ?_
  have e1 : mayS (1, 7) = true := by decide
  have e2 : mayS (5, 7) = true := by decide
  have e3 : mayS (1, 2) = true := by decide
  have e4 : mayS (3, 4) = true := by decide
  rw [Bool.eq_iff_iff]
  simp only [hasK_cons, hasK_nil, Bool.or_false, inS, e1, e2, e3, e4, Bool.true_and, Bool.or_eq_true, Bool.and_eq_true, decide_eq_true_eq]
  omega
theorem alive_b : lessL [(1, 9)] [(3, 4)] = [(1, 2), (5, 9)] := by
  have h1 : isPlain [(1, 2), (5, 9)] := ⟨fun s hs => by
    simp only [List.mem_cons, List.not_mem_nil, or_false] at hs
    rcases hs with rfl | rfl <;> decide, by simp⟩
  rw [← plainL_plain h1, lessL_plain]
  refine plainOf_congr fun k _ => ?_
  have e1 : mayS (1, 9) = true := by decide
  have e2 : mayS (5, 9) = true := by decide
  have e3 : mayS (1, 2) = true := by decide
  have e4 : mayS (3, 4) = true := by decide
  rw [Bool.eq_iff_iff]
  simp only [hasK_cons, hasK_nil, Bool.or_false, inS, e1, e2, e3, e4, Bool.true_and, Bool.or_eq_true, Bool.and_eq_true, Bool.not_eq_true', Bool.and_eq_false_iff, decide_eq_true_eq, decide_eq_false_iff_not]
  omega

theorem keysOf_len (f : Nat → Bool) (n : Nat) : (keysOf f n).length = ((List.range n).filter f).length := by simp [keysOf]
theorem keysOf_succ (f : Nat → Bool) (n : Nat) : keysOf f (n + 1) = keysOf f n ++ if f n = true then [(n : Int)] else [] := by
  simp only [keysOf, List.range_succ, List.filter_append, List.map_append]
  by_cases h : f n = true <;> simp [h]
theorem keysOf_more (f : Nat → Bool) {n m : Nat} (h : n ≤ m) : ∃ r, keysOf f m = keysOf f n ++ r := by
  induction m with
  | zero => obtain rfl : n = 0 := by omega
            exact ⟨[], by simp⟩
  | succ m ih =>
    by_cases hn : n = m + 1
    · subst hn; exact ⟨[], by simp⟩
    · obtain ⟨r, e⟩ := ih (by omega)
      exact ⟨r ++ if f m = true then [(m : Int)] else [], by rw [keysOf_succ, e, List.append_assoc]⟩
theorem keysOf_at (f : Nat → Bool) {n m : Nat} (h : n < m) (hf : f n = true) : (keysOf f n).length < (keysOf f m).length ∧ (keysOf f m)[(keysOf f n).length]? = some (n : Int) := by
  obtain ⟨r, e⟩ := keysOf_more f (show n + 1 ≤ m by omega)
  rw [keysOf_succ, if_pos hf] at e
  rw [e]
  simp
theorem keysOf_le (f : Nat → Bool) : ∀ n, (keysOf f n).length ≤ n
  | 0 => Nat.le_refl _
  | n + 1 => by
    have := keysOf_le f n
    rw [keysOf_succ, List.length_append]
    by_cases h : f n = true
    · rw [if_pos h]; simp; omega
    · rw [if_neg h]; simp; omega
theorem keysOf_parts (f g : Nat → Bool) : ∀ n, (keysOf (fun k => f k && g k) n).length + (keysOf (fun k => f k && !g k) n).length = (keysOf f n).length
  | 0 => rfl
  | n + 1 => by
    have ih := keysOf_parts f g n
    rw [keysOf_succ, keysOf_succ, keysOf_succ, List.length_append, List.length_append, List.length_append]
    cases f n <;> cases g n <;> simp <;> omega

theorem allL_plainL (l : List Sp) : allL (plainL l) = keysOf (fun k => hasK l k) 1000 := allL_plainOf _
theorem sizeL_plainL (l : List Sp) : sizeL (plainL l) = ((keysOf (fun k => hasK l k) 1000).length : Nat) := by
  rw [sizeL_all (plainL_isPlain l).1, allL_plainL]
theorem parts_size (a b : List Sp) : sizeL (bothL a b) + sizeL (lessL a b) = sizeL (plainL a) := by
  rw [sizeL_all (l := bothL a b) (plainL_isPlain _).1, sizeL_all (l := lessL a b) (plainL_isPlain _).1, sizeL_all (plainL_isPlain _).1, bothL_plain, lessL_plain, plainL, allL_plainOf, allL_plainOf, allL_plainOf]
  have := keysOf_parts (fun k => hasK a k) (fun k => hasK b k) 1000
  omega
theorem parts_union (a b : List Sp) : plainL (bothL a b ++ lessL a b) = plainL a := plainL_congr fun k => by
  rw [hasK_app, bothL_has, lessL_has]
  cases hasK a k <;> cases hasK b k <;> rfl
theorem parts_apart (a b : List Sp) : meetL (bothL a b) (lessL a b) = false := by
  rw [Bool.eq_false_iff]
  intro e
  obtain ⟨k, _, h1, h2⟩ := (meetL_iff _ _).1 e
  rw [bothL_has, Bool.and_eq_true] at h1
  rw [lessL_has, Bool.and_eq_true, h1.2] at h2
  simp at h2
theorem parts_inside (a b c : List Sp) : insideL c (bothL a b) = (insideL c a && insideL c b) := by
  rw [Bool.eq_iff_iff, Bool.and_eq_true, insideL_iff, insideL_iff, insideL_iff]
  constructor
  · intro h
    refine ⟨fun k hk hc => ?_, fun k hk hc => ?_⟩
    · have := h k hk hc; rw [bothL_has, Bool.and_eq_true] at this; exact this.1
    · have := h k hk hc; rw [bothL_has, Bool.and_eq_true] at this; exact this.2
  · rintro ⟨h1, h2⟩ k hk hc
    rw [bothL_has, h1 k hk hc, h2 k hk hc]; rfl
theorem parts_meet (a b : List Sp) : meetL a b = !(bothL a b).isEmpty := by
  rw [Bool.eq_iff_iff, meetL_iff, Bool.not_eq_true', List.isEmpty_eq_false_iff]
  constructor
  · rintro ⟨k, _, h1, h2⟩ e
    have := bothL_has a b k
    rw [e, h1, h2] at this
    cases this
  · intro h
    have hp : isPlain (bothL a b) := plainL_isPlain _
    cases hl : bothL a b with
    | nil => exact absurd hl h
    | cons s l =>
      rw [hl] at hp
      have q := plain_head hp
      rw [← hl, bothL_has, Bool.and_eq_true] at q
      have r := hasK_range q.1
      have e : ((s.1.toNat : Nat) : Int) = s.1 := by omega
      exact ⟨s.1.toNat, by omega, by rw [e]; exact q.1, by rw [e]; exact q.2⟩
theorem plainL_same (a b : List Sp) : plainL a = plainL b ↔ ∀ k : Nat, k < 1000 → hasK a k = hasK b k :=
  ⟨fun h _ hk => plainOf_inj h hk, fun h => plainOf_congr h⟩
theorem plainL_app (a b : List Sp) : plainL (a ++ b) = plainOf fun k => hasK a k || hasK b k := plainOf_congr fun k _ => hasK_app a b k

/-- How long a plain list may be. -/
theorem plain_len : ∀ {l : List Sp}, isPlain l → ∀ n : Int, (∀ s ∈ l, n ≤ s.1) → n ≤ 1000 → 2 * (l.length : Int) ≤ 1001 - n
  | [], _, n, _, hn => by simp; omega
  | s :: l, h, n, h1, hn => by
    obtain ⟨p1, p2, p3⟩ := isPlain_cons.1 h
    have ms := mayS_iff.1 p1
    have := h1 s (by simp)
    by_cases hl : l = []
    · subst hl; simp; omega
    · obtain ⟨t, ht⟩ := List.exists_mem_of_ne_nil _ hl
      have mt := mayS_iff.1 (p3.1 t ht)
      have := p2 t ht
      have ih := plain_len p3 (s.2 + 2) (fun t ht => by have := p2 t ht; omega) (by omega)
      simp only [List.length_cons]
      omega
theorem plainL_len (l : List Sp) : (plainL l).length ≤ 500 := by
  have := plain_len (plainL_isPlain l) 0 (fun s hs => (mayS_iff.1 ((plainL_isPlain l).1 s hs)).1) (by omega)
  omega
theorem meetsL_len (a b : List Sp) : (meetsL a b).length ≤ a.length * b.length := by
  induction a with
  | nil => simp [meetsL]
  | cons x a ih =>
    have e : meetsL (x :: a) b = ((b.map (meet1 x)).filter fun s => decide (s.1 ≤ s.2)) ++ meetsL a b := rfl
    have h1 : ((b.map (meet1 x)).filter fun s => decide (s.1 ≤ s.2)).length ≤ b.length := by
      have := List.length_filter_le (fun s : Sp => decide (s.1 ≤ s.2)) (b.map (meet1 x))
      rwa [List.length_map] at this
    rw [e, List.length_append, List.length_cons, Nat.add_mul]
    omega
end Go.Proofs

/- What two plain lists have in common, one by one: a function over which one ranges. -/
namespace Go.Proofs
open Go Go.RowKit Go.Am

theorem int_max (a b : Int) : (if a < b then b else a) = max a b := by omega
theorem int_min (a b : Int) : (if b < a then b else a) = min a b := by omega
def okS (s : Sp) : Bool := decide (s.1 ≤ s.2)
def doneL (a b : List Sp) (i j : Nat) : List Sp := meetsL (a.take i) b ++ match a[i]? with
  | some x => ((b.take j).map (meet1 x)).filter okS
  | none => []
theorem meetsL_snoc (a b : List Sp) (x : Sp) : meetsL (a ++ [x]) b = meetsL a b ++ (b.map (meet1 x)).filter okS := by
  simp [meetsL]
  rfl
theorem _root_.Go.Am.HF.al {h h1 : H} {B T : Nat → Prop} (e : HF h h1 B T) (cs : List AV) : HF h (h1.alloc cs) B T := e.trans (HF.alloc _ _ _ _)
theorem _root_.Go.Am.HF.st {h h1 : H} {B T : Nat → Prop} (e : HF h h1 B T) {b : Nat} (hb : h.bn ≤ b) (cs : List AV) : HF h (h1.set b cs) B T :=
  e.trans' (HF.set (B := (· = b)) (fun _ => False) rfl) (fun b' h1 (e : b' = b) => absurd e (by omega)) (fun _ _ h => h.elim)
theorem doneL_step {a b : List Sp} {i j : Nat} (hi : i < a.length) (hj : j < b.length) : doneL a b i (j + 1) = doneL a b i j ++ if okS (meet1 a[i] b[j]) = true then [meet1 a[i] b[j]] else [] := by
  simp only [doneL, List.getElem?_eq_getElem hi]
  rw [List.take_succ_eq_append_getElem hj, List.map_append, List.filter_append, List.append_assoc]
  by_cases h : okS (meet1 a[i] b[j]) = true <;> simp [h]
theorem doneL_zero (a b : List Sp) (i : Nat) : doneL a b i 0 = meetsL (a.take i) b := by
  simp only [doneL]
  cases a[i]? <;> simp
theorem doneL_row {a b : List Sp} {i : Nat} (hi : i < a.length) : doneL a b i b.length = meetsL (a.take (i + 1)) b := by
  simp only [doneL, List.getElem?_eq_getElem hi]
  rw [List.take_succ_eq_append_getElem hi, meetsL_snoc, List.take_length]
theorem meetsL_app (a c b : List Sp) : meetsL (a ++ c) b = meetsL a b ++ meetsL c b := by simp [meetsL]
theorem doneL_more {a b : List Sp} {i j : Nat} (hi : i < a.length) : ∃ r, meetsL a b = doneL a b i j ++ r := by
  refine ⟨((b.drop j).map (meet1 a[i])).filter okS ++ meetsL (a.drop (i + 1)) b, ?_⟩
  have e : meetsL [a[i]] b = ((b.take j).map (meet1 a[i])).filter okS ++ ((b.drop j).map (meet1 a[i])).filter okS := by
    rw [← List.filter_append, ← List.map_append, List.take_append_drop]
    exact meetsL_snoc [] b a[i]
  conv => lhs; rw [← List.take_append_drop i a, List.drop_eq_getElem_cons hi, meetsL_app, show a[i] :: a.drop (i + 1) = [a[i]] ++ a.drop (i + 1) from rfl, meetsL_app, e]
  simp only [doneL, List.getElem?_eq_getElem hi, List.append_assoc]
theorem meets_mem {a b : List Sp} {i j : Nat} (hi : i < a.length) (hj : j < b.length) (h : okS (meet1 a[i] b[j]) = true) : ∃ r, meetsL a b = doneL a b i j ++ meet1 a[i] b[j] :: r := by
  obtain ⟨r, e⟩ := doneL_more (b := b) (j := j + 1) hi
  rw [doneL_step hi hj, if_pos h] at e
  exact ⟨r, by rw [e]; simp⟩

end Go.Proofs
