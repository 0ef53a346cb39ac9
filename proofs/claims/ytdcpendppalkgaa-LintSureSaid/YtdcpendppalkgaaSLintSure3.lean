/- What the functions that the statement reaches do: their contracts; and what follows of it. -/
import Derived.Test.YtdcpendppalkgaaSLintSure2
import Derived.Test.YtdcpendppalkgaaSLintSure1
import Derived.Test.YtdcpendppalkgaaK4
/- The document's sets of keys: the plain list of a set; the same; a key in common. -/
namespace Go.Proofs
open Go Go.RowKit Go.Am

set_option maxHeartbeats 1000000 in
theorem refPlainB_ok (f : Nat → Bool) {h0 : H} {b : Nat} (hb : b < h0.bn) (hb2 : h0.bx b = some (setA f)) : SCall Try.prog 60 [.ptr b 0] h0 (encL (plainOf f)) h0 := by
  refine SCall.ro (CallP.gh (CallP.run (K := fun r1 h1 => ∃ h', Gh h1 r1 h' (encL (plainOf f)) ∧ HF h0 h' (fun _ => False) (fun _ => False)) hb60 ok60 (by simp) ?_) fun r1 h1 ⟨h', q1, q2⟩ => ⟨h', _, q1, wk_encL _, q2⟩) (pure_encL _)
  simp -implicitDefEqProofs []
  refine run_loop (fun n s h => ∃ k : Nat, n = 1000 - k ∧ k ≤ 1000 ∧ s 0 = .ptr b 0 ∧ s 4 = .int .i64 k ∧ HF h0 h (fun _ => False) (fun _ => False) ∧ ((plainTo f k = [] ∧ s 3 = .sl .full []) ∨ (∃ c, plainTo f k ≠ [] ∧ s 3 = .msl c 2 0 (plainTo f k).length ∧ h0.bn ≤ c ∧ c < h.bn ∧ h.bx c = some (flatP (plainTo f k))))) ?_ 1000 ?_
  rotate_left
  · exact ⟨0, by simp [plainTo, HF.refl]⟩
  rintro n s h ⟨k, hn, hk, s0, s4, hF, hout⟩ ih
  have hbb : b < h.bn := Nat.lt_of_lt_of_le hb hF.bn
  have hbx : h.bx b = some (setA f) := (hF.bx b hb fun e => e).trans hb2
  by_cases hlt : k < 1000
  · have hki : (k : Int) < 1000 := by omega
    have i1 := idxOf_nat (k := .i64) hlt
    have g1 := setA_at f hlt
    have g2 : 1 ≤ 1000 - k := by omega
    have g3 : k + 1 ≤ 1000 := by omega
    have hst : plainTo f (k + 1) = if f k then (if 0 < k ∧ f (k - 1) = true then extL (plainTo f k) k else plainTo f k ++ [((k : Int), (k : Int))]) else plainTo f k := rfl
    cases hf : f k with
    | false =>
      rw [hf] at g1 hst
      rw [if_neg (by simp)] at hst
      simp -implicitDefEqProofs [s0, s4, hki, g1, g3, hbb, hbx, inc_i64 hlt (by omega), -Int.natCast_add]
      refine ih (1000 - (k + 1)) _ _ (by omega) ⟨k + 1, rfl, by omega, by simp [s0], by simp, hF, ?_⟩
      rw [hst]
      simpa using hout
    | true =>
      rw [hf] at g1 hst
      rw [if_pos rfl] at hst
      by_cases hp : 0 < k ∧ f (k - 1) = true
      · rw [if_pos hp] at hst
        obtain ⟨o, t, e, ht⟩ := plainTo_snoc f k hk hp
        rcases hout with ⟨e0, _⟩ | ⟨c, hne, s3, hc0, hc1, hc2⟩
        · rw [e0] at e; simp at e
        rw [e, extL_snoc] at hst
        rw [e] at s3 hc2
        have hl : o.length + 1 ≤ 1000000 := by
          have := (plainTo_ok f k hk).1
          have h2 := plainL_len (plainTo f k)
          rw [plainL_plain this, e, List.length_append, List.length_singleton] at h2
          omega
        have hk0 := hp.1
        have hkm : IntKind.i64.wrap ((k : Int) - 1) = ((k - 1 : Nat) : Int) := by rw [wrap_i64 (by omega) (by omega)]; omega
        have i2 := idxOf_nat (k := .i64) (show k - 1 < 1000 by omega)
        have g4 := setA_at f (show k - 1 < 1000 by omega)
        rw [hp.2] at g4
        have w1 : IntKind.i64.wrap (((o.length + 1 : Nat) : Int) - 1) = (o.length : Nat) := by rw [wrap_i64 (by omega) (by omega)]; omega
        have g5 : (o.length : Int) < ((o.length + 1 : Nat) : Int) := by omega
        have g6 : (flatP (o ++ [t])).length = (o.length + 1) * 2 := by rw [flatP_len]; simp
        have g7 : o.length * 2 + 1 + 1 ≤ (o.length + 1) * 2 := by omega
        have g8 := flatP_last_put o t (k : Int)
        simp -implicitDefEqProofs [s0, s3, s4, hki, hk0, hkm, g1, g3, g4, w1, g5, g6, g7, g8, hc1, hc2, show ((k - 1 : Nat) : Int) < 1000 by omega, show k - 1 + 1 ≤ 1000 by omega, hbb, hbx, inc_i64 hlt (by omega), -Int.natCast_add]
        refine ih (1000 - (k + 1)) _ _ (by omega) ⟨k + 1, rfl, by omega, by simp [s0], by simp, hF.st hc0 _, ?_⟩
        rw [hst]
        exact .inr ⟨c, by simp, by simp [s3], hc0, by simpa using hc1, by simp⟩
      · rw [if_neg hp] at hst
        have hb2 : 0 < k ∧ f (k - 1) = false ∨ ¬ 0 < k := by
          by_cases h0 : 0 < k
          · exact .inl ⟨h0, by rw [Bool.eq_false_iff]; exact fun h => hp ⟨by omega, h⟩⟩
          · exact .inr h0
        have happ : ∀ K : AV → H → Prop, (∀ c h1, c < h1.bn → h1.bx c = some (flatP (plainTo f (k + 1))) → HF h0 h1 (fun _ => False) (fun _ => False) → h0.bn ≤ c → K (.msl c 2 0 (plainTo f (k + 1)).length) h1) → appQ h 2 16 (s 3) (.sl .full [[.int .i64 k, .int .i64 k]]) K := by
          intro K hK
          rcases hout with ⟨e0, s3⟩ | ⟨c, hne, s3, hc0, hc1, hc2⟩
          · rw [e0] at hst
            rw [s3]
            have q := hK h.bn (h.alloc (flatP [((k : Int), (k : Int))])) (by simp) (by rw [hst]; simp) (hF.al _) hF.bn
            rw [hst] at q
            exact ⟨_, _, .newbox [] [avP ((k : Int), (k : Int))] _ (by simp) (by simp [srcA, avP]) (by simp) (by simp), q⟩
          · rw [s3]
            have hl : (plainTo f k).length ≤ 1000000 := by
              have := (plainTo_ok f k hk).1
              have h2 := plainL_len (plainTo f k)
              rw [plainL_plain this] at h2
              omega
            have g6 : List.take ((plainTo f k).length * 2) (flatP (plainTo f k)) = flatP (plainTo f k) := List.take_of_length_le (by rw [flatP_len]; omega)
            have q := hK h.bn ((h.kill c).alloc (flatP (plainTo f (k + 1)))) (by simp [H.kill]) (by simp [H.kill]) ((hF.kl hc0).al _) hF.bn
            rw [hst, List.length_append, flatP_app] at q
            rw [← g6] at q
            exact ⟨_, _, .box c (plainTo f k).length (flatP (plainTo f k)) [avP ((k : Int), (k : Int))] _ hc1 hc2 (by rw [flatP_len]; omega) (by simp [srcA, avP]) (by simp) (by simp only [List.length_cons, List.length_nil]; omega), q⟩
        have hne : plainTo f (k + 1) ≠ [] := by rw [hst]; simp
        rcases hb2 with ⟨h0, hp2⟩ | h0
        · have hkm : IntKind.i64.wrap ((k : Int) - 1) = ((k - 1 : Nat) : Int) := by rw [wrap_i64 (by omega) (by omega)]; omega
          have i2 := idxOf_nat (k := .i64) (show k - 1 < 1000 by omega)
          have g4 := setA_at f (show k - 1 < 1000 by omega)
          rw [hp2] at g4
          simp -implicitDefEqProofs [s0, s4, hki, h0, hkm, g1, g3, g4, show ((k - 1 : Nat) : Int) < 1000 by omega, show k - 1 + 1 ≤ 1000 by omega, hbb, hbx]
          refine happ _ fun c h1 hc1 hc2 hF1 hc0 => ?_
          simp -implicitDefEqProofs [s4, inc_i64 hlt (by omega), -Int.natCast_add]
          exact ih (1000 - (k + 1)) _ _ (by omega) ⟨k + 1, rfl, by omega, by simp [s0], by simp, hF1, .inr ⟨c, hne, by simp, hc0, hc1, hc2⟩⟩
        · simp -implicitDefEqProofs [s0, s4, hki, h0, g1, g3, hbb, hbx]
          refine happ _ fun c h1 hc1 hc2 hF1 hc0 => ?_
          simp -implicitDefEqProofs [s4, inc_i64 hlt (by omega), -Int.natCast_add]
          exact ih (1000 - (k + 1)) _ _ (by omega) ⟨k + 1, rfl, by omega, by simp [s0], by simp, hF1, .inr ⟨c, hne, by simp, hc0, hc1, hc2⟩⟩
  · obtain rfl : k = 1000 := by omega
    simp -implicitDefEqProofs [s4]
    rcases hout with ⟨e0, s3⟩ | ⟨c, hne, s3, hc0, hc1, hc2⟩
    · simp -implicitDefEqProofs [s3]
      rw [plainOf, e0]
      exact ⟨_, .weak (fun _ _ _ h => h.wk) (.refl _ _), hF⟩
    · simp -implicitDefEqProofs [s3]
      have := Gh.msl (z := 2) (n := (plainTo f 1000).length) hc1 hc2 (by omega) (by rw [flatP_len]; omega)
      rw [chunksP] at this
      exact ⟨_, this, hF.kl hc0⟩

end Go.Proofs

/- The document's sets of keys: are two lists the same, have two sets a key in common? The program's short functions. -/
namespace Go.Proofs
open Go Go.RowKit Go.Am

theorem pures2 {a b : AV} (ha : PureV a) (hb : PureV b) : ∀ v ∈ [a, b], PureV v := pures_cons ha (pures1 hb)
theorem refSame_ok (a b : List Sp) (ha : a.length ≤ 1000000) (hb : b.length ≤ 1000000) : PCall Try.prog 45 [encL a, encL b] (.bool (decide (a = b))) := by
  refine PCall.run hb45 ok45 (by simp) (pures2 (pure_encL a) (pure_encL b)) (.bool _) ?_
  by_cases hl : a.length = b.length
  · simp -implicitDefEqProofs [encL, hl]
    refine run_loop (fun n s h => ∃ j : Nat, n = b.length - j ∧ j ≤ b.length ∧ s 0 = encL a ∧ s 1 = encL b ∧ s 5 = .int .i64 j ∧ a.take j = b.take j) ?_ b.length ?_
    rotate_left
    · exact ⟨0, by simp [encL]⟩
    rintro n s h ⟨j, hn, hj, s0, s1, s5, he⟩ ih
    rw [encL] at s0 s1
    by_cases hlt : j < b.length
    · have hlt' : j < a.length := by omega
      have i1 := idxOf_nat (k := .i64) hlt
      have i2 := idxOf_nat (k := .i64) hlt'
      have hs : a.take (j + 1) = b.take (j + 1) ↔ a[j] = b[j] := by
        rw [List.take_succ_eq_append_getElem (l := b) hlt, List.take_succ_eq_append_getElem (l := a) hlt', he]
        simp only [List.append_cancel_left_eq, List.cons.injEq, and_true]
      have hx : a[j] ≠ b[j] → a ≠ b := fun h e => by subst e; exact h rfl
      simp -implicitDefEqProofs [s0, s5, hl, hlt]
      refine run_dreg c45_d6 ?_
      by_cases h1 : a[j].1 = b[j].1
      · by_cases h2 : a[j].2 = b[j].2
        · simp -implicitDefEqProofs [s0, s1, s5, hl, hlt, avP, h1, h2, inc_i64 hlt (by omega), -Int.natCast_add]
          exact ih (b.length - (j + 1)) _ _ (by omega) ⟨j + 1, rfl, by omega, by simp [s0, encL], by simp [s1, encL], by simp, hs.2 (Prod.ext h1 h2)⟩
        · have hne := hx fun e => h2 (by rw [e])
          simp -implicitDefEqProofs [s0, s1, s5, hl, hlt, avP, h1, h2, hne]
      · have hne := hx fun e => h1 (by rw [e])
        simp -implicitDefEqProofs [s0, s1, s5, hl, hlt, avP, h1, hne]
    · obtain rfl : j = b.length := by omega
      rw [List.take_length, List.take_of_length_le (by omega)] at he
      simp -implicitDefEqProofs [s0, s5, he]
  · have hne : a ≠ b := fun e => hl (by rw [e])
    simp -implicitDefEqProofs [encL, hl, hne]

/-! ### The program's -/
theorem plainA_ok (l : List Sp) (hl : l.length ≤ 1000000) : PCall Try.prog 134 [.sl .no [[encL l]]] (encL (plainL l)) := by
  have := plain_ok [l] (by simpa [tot] using hl) (by simp)
  simpa using this
theorem keysPlain_ok (l : List Sp) (hl : l.length ≤ 1000000) : PCall Try.prog 101 [encL l] (encL (plainL l)) := by
  refine PCall.run hb101 ok101 (by simp) (pures1 (pure_encL l)) (pure_encL _) ?_
  simp -implicitDefEqProofs []
  refine callQ_p (plainA_ok l hl) (by simp [wk_encL]) ?_
  simp -implicitDefEqProofs [wk_encL]
end Go.Proofs

/- A text's bytes as words: both ways of packing, and the writer of texts. -/
namespace Go.Proofs
open Go Go.RowKit Go.Am

end Go.Proofs

/- The program's packing of texts. -/
namespace Go.Proofs
open Go Go.RowKit Go.Am

end Go.Proofs

/- The program's packing of texts: the run. -/
namespace Go.Proofs
open Go Go.RowKit Go.Am

end Go.Proofs

/- The writer of texts; copies; what a writer hands back. -/
namespace Go.Proofs
open Go Go.RowKit Go.Am

end Go.Proofs

/- Items: what is written of them, by the program and by the document. -/
namespace Go.Proofs
open Go Go.RowKit Go.Am

structure Item where
  kind : Int
  n : Int
  most : Int
  x : Int
  s : ByteArray
  l : List Nat

def inI (x : Int) : Prop := -9223372036854775808 ≤ x ∧ x ≤ 9223372036854775807
def Item.ok (x : Item) : Prop := inI x.n ∧ inI x.x ∧ x.s.size ≤ 1000 ∧ x.l.length ≤ 1000
def encItm (x : Item) : List AV := [.int .i64 x.kind, .int .i64 x.n, .int .i64 x.most, .int .i64 x.x, .str x.s, encW x.l]

theorem WB.alloc {h : H} {b : Nat} {t : Tok} {ws : List Nat} (hw : WB h b t ws) (cs : List AV) : WB (h.alloc cs) b t ws :=
  ⟨by have := hw.lt; simp; omega, by have := hw.lt; have h2 : b ≠ h.bn := by omega
                                     simp [h2, hw.bx], by simpa using hw.live⟩
theorem WTo.alloc {h : H} {b : Nat} {t : Tok} {ws : List Nat} {h' : H} {t' : Tok} {cs : List AV} (q : WTo (h.alloc cs) b t ws h' t') : WTo h b t ws h' t' :=
  ⟨q.wb, q.next, (HF.alloc h cs _ _).trans q.keep⟩

/-- A slice of words that grows. -/
structure STo (h : H) (t : Tok) (ws : List Nat) (r : AV) (h' : H) (t' : Tok) : Prop where
  val : r = .sl t' (ws.map w64)
  live : TLive h' t' ws.length
  next : TNext h t t'
  keep : HF h h' (fun _ => False) (TOwn t)

end Go.Proofs

/- What the statements about codes ask first: no more items than are looked at; the document's examples. -/
namespace Go.Proofs
open Go Go.RowKit Go.Am

@[simp] theorem wk_encI (x : Item) : List.map wk (encItm x) = encItm x := by simp [encItm]
@[simp] theorem wk_encI' : List.map wk ∘ encItm = encItm := by funext x; simp

theorem WB.new (h : H) : WB (h.alloc [.sl .full []]) h.bn .full [] := ⟨by simp, by simp, trivial⟩

end Go.Proofs

/- The statement CodesWrite: what its function hands back. -/
namespace Go.Proofs
open Go Go.RowKit Go.Am

end Go.Proofs

/- PRINTED BY types.py, a program of this work: the program's types as Lean structures; their cells. -/
namespace Go.Proofs
open Go Go.RowKit Go.Am

def encN (n : Int) : List AV := [.int .i64 n]
@[simp] theorem wk_encN (n : Int) : List.map wk (encN n) = encN n := by simp [encN]
@[simp] theorem wk_encN' : List.map wk ∘ encN = encN := by funext x; simp
theorem pure_encN (n : Int) : ∀ v ∈ encN n, PureV v := pures1 (.int _ _)
theorem pure_sl {α : Type} {f : α → List AV} (hf : ∀ x, ∀ v ∈ f x, PureV v) (l : List α) : PureV (.sl .no (l.map f)) := .sl (fun i h => by cases h) fun e he v hv => by
  obtain ⟨x, _, rfl⟩ := List.mem_map.1 he
  exact hf x v hv
@[simp] theorem wk_arr (l : List Int) : List.map wk (l.map (AV.int .i64)) = l.map (AV.int .i64) := by
  rw [List.map_map]; apply List.map_congr_left; intro x _; simp
@[simp] theorem wk_arr' : wk ∘ AV.int .i64 = AV.int .i64 := by funext x; simp
/-! ### Shapes -/
theorem sh_int {v : AV} (h : (Sh.int .i64).is v) : ∃ n, v = .int .i64 n ∧ inI n := by
  obtain ⟨n, rfl, hw⟩ := h
  refine ⟨n, rfl, ?_⟩
  simp [Lit.wf, IntKind.min, IntKind.max, IntKind.signed, IntKind.bits] at hw
  exact ⟨by omega, by omega⟩
theorem sh_list {α : Type} {f : α → List AV} {sh : List Sh} {wf : α → Prop} (hf : ∀ vs, isL sh vs → ∃ x, vs = f x ∧ wf x) : ∀ {es : List (List AV)}, (∀ e ∈ es, isL sh e) → ∃ l : List α, es = l.map f ∧ ∀ x ∈ l, wf x
  | [], _ => ⟨[], rfl, fun x hx => by cases hx⟩
  | e :: es, h => by
    obtain ⟨l, rfl, hl⟩ := sh_list hf (es := es) fun e he => h e (List.mem_cons_of_mem _ he)
    obtain ⟨x, rfl, hx⟩ := hf e (h e (List.mem_cons_self ..))
    exact ⟨x :: l, rfl, fun y hy => by
      rcases List.mem_cons.1 hy with rfl | hy
      · exact hx
      · exact hl y hy⟩
theorem isL_app : ∀ {a b : List Sh} {vs : List AV}, isL (a ++ b) vs → ∃ x y, vs = x ++ y ∧ isL a x ∧ isL b y
  | [], b, vs, h => ⟨[], vs, rfl, rfl, h⟩
  | s :: a, b, vs, h => by
    simp only [List.cons_append, isL] at h
    obtain ⟨v, r, rfl, h1, h2⟩ := h
    obtain ⟨x, y, rfl, h3, h4⟩ := isL_app h2
    refine ⟨v :: x, y, rfl, ?_, h4⟩
    simp only [isL]
    exact ⟨v, x, rfl, h1, h3⟩
theorem isL_one {s : Sh} {vs : List AV} (h : isL [s] vs) : ∃ v, vs = [v] ∧ s.is v := by
  simp only [isL] at h
  obtain ⟨v, r, rfl, h1, rfl⟩ := h
  exact ⟨v, rfl, h1⟩
theorem isL_encN {vs : List AV} (h : isL [.int .i64] vs) : ∃ n, vs = encN n ∧ inI n := by
  obtain ⟨v, rfl, h1⟩ := isL_one h
  obtain ⟨n, rfl, hn⟩ := sh_int h1
  exact ⟨n, rfl, hn⟩
theorem isL_arr : ∀ {n : Nat} {vs : List AV}, isL (List.replicate n (.int .i64)) vs → ∃ l : List Int, vs = l.map (AV.int .i64) ∧ l.length = n ∧ ∀ x ∈ l, inI x
  | 0, vs, h => by
    simp only [List.replicate, isL] at h
    exact ⟨[], h, rfl, fun x hx => by cases hx⟩
  | n + 1, vs, h => by
    simp only [List.replicate, isL] at h
    obtain ⟨v, r, rfl, h1, h2⟩ := h
    obtain ⟨l, rfl, h3, h4⟩ := isL_arr h2
    obtain ⟨x, rfl, hx⟩ := sh_int h1
    exact ⟨x :: l, rfl, by simp [h3], fun y hy => by
      rcases List.mem_cons.1 hy with rfl | hy
      · exact hx
      · exact h4 y hy⟩
theorem isL_sl {α : Type} {f : α → List AV} {sh : List Sh} {wf : α → Prop} (hf : ∀ vs, isL sh vs → ∃ x, vs = f x ∧ wf x) {vs : List AV} (h : isL [.sl sh] vs) : ∃ l : List α, vs = [.sl .no (l.map f)] ∧ l.length ≤ maxLen ∧ ∀ x ∈ l, wf x := by
  obtain ⟨v, rfl, h1⟩ := isL_one h
  simp only [Sh.is] at h1
  obtain ⟨es, rfl, h2, h3⟩ := h1
  obtain ⟨l, rfl, h4⟩ := sh_list hf h3
  exact ⟨l, rfl, by simpa using h2, h4⟩

/-! ### KeyT -/
structure KeyT where
  arg : Int
  base : Int
  deriving DecidableEq

def encKeyT (x : KeyT) : List AV := [.int .i64 x.arg, .int .i64 x.base]
def KeyT.wf (x : KeyT) : Prop := inI x.arg ∧ inI x.base
@[simp] theorem encKeyT_len (x : KeyT) : (encKeyT x).length = 2 := rfl
@[simp] theorem wk_encKeyT (x : KeyT) : List.map wk (encKeyT x) = encKeyT x := by simp [encKeyT]
@[simp] theorem wk_encKeyT' : List.map wk ∘ encKeyT = encKeyT := by funext x; simp
theorem pure_encKeyT (x : KeyT) : ∀ v ∈ encKeyT x, PureV v := (pures_cons (.int _ _) (pures_cons (.int _ _) pures_nil))
def shKeyT : List Sh := [.int .i64] ++ [.int .i64]
theorem isL_encKeyT {vs : List AV} (h : isL shKeyT vs) : ∃ x : KeyT, vs = encKeyT x ∧ x.wf := by
  unfold shKeyT at h
  obtain ⟨vs, v1, rfl, h, h1⟩ := isL_app h
  have h0 := h
  obtain ⟨u0, rfl, w0⟩ := isL_encN h0
  obtain ⟨u1, rfl, w1⟩ := isL_encN h1
  refine ⟨⟨u0, u1⟩, ?_, ⟨w0, w1⟩⟩
  simp [encKeyT, encN]

/-! ### Inst -/
structure Inst where
  op : Int
  a : Int
  b : Int
  c : Int
  k : KeyT
  l : KeyT
  x : Int
  deriving DecidableEq

def encInst (x : Inst) : List AV := [.int .i64 x.op, .int .i64 x.a, .int .i64 x.b, .int .i64 x.c, .int .i64 x.k.arg, .int .i64 x.k.base, .int .i64 x.l.arg, .int .i64 x.l.base, .int .i64 x.x]
def Inst.wf (x : Inst) : Prop := inI x.op ∧ inI x.a ∧ inI x.b ∧ inI x.c ∧ x.k.wf ∧ x.l.wf ∧ inI x.x
@[simp] theorem encInst_len (x : Inst) : (encInst x).length = 9 := rfl
@[simp] theorem wk_encInst (x : Inst) : List.map wk (encInst x) = encInst x := by simp [encInst]
@[simp] theorem wk_encInst' : List.map wk ∘ encInst = encInst := by funext x; simp
theorem pure_encInst (x : Inst) : ∀ v ∈ encInst x, PureV v := (pures_cons (.int _ _) (pures_cons (.int _ _) (pures_cons (.int _ _) (pures_cons (.int _ _) (pures_cons (.int _ _) (pures_cons (.int _ _) (pures_cons (.int _ _) (pures_cons (.int _ _) (pures_cons (.int _ _) pures_nil)))))))))
def shInst : List Sh := [.int .i64] ++ [.int .i64] ++ [.int .i64] ++ [.int .i64] ++ shKeyT ++ shKeyT ++ [.int .i64]
theorem isL_encInst {vs : List AV} (h : isL shInst vs) : ∃ x : Inst, vs = encInst x ∧ x.wf := by
  unfold shInst at h
  obtain ⟨vs, v6, rfl, h, h6⟩ := isL_app h
  obtain ⟨vs, v5, rfl, h, h5⟩ := isL_app h
  obtain ⟨vs, v4, rfl, h, h4⟩ := isL_app h
  obtain ⟨vs, v3, rfl, h, h3⟩ := isL_app h
  obtain ⟨vs, v2, rfl, h, h2⟩ := isL_app h
  obtain ⟨vs, v1, rfl, h, h1⟩ := isL_app h
  have h0 := h
  obtain ⟨u0, rfl, w0⟩ := isL_encN h0
  obtain ⟨u1, rfl, w1⟩ := isL_encN h1
  obtain ⟨u2, rfl, w2⟩ := isL_encN h2
  obtain ⟨u3, rfl, w3⟩ := isL_encN h3
  obtain ⟨u4, rfl, w4⟩ := isL_encKeyT h4
  obtain ⟨u5, rfl, w5⟩ := isL_encKeyT h5
  obtain ⟨u6, rfl, w6⟩ := isL_encN h6
  refine ⟨⟨u0, u1, u2, u3, u4, u5, u6⟩, ?_, ⟨w0, w1, w2, w3, w4, w5, w6⟩⟩
  simp [encInst, encN, encKeyT]

/-! ### SpanT -/
structure SpanT where
  lo : KeyT
  hi : KeyT
  write : Bool
  deriving DecidableEq

def encSpanT (x : SpanT) : List AV := [.int .i64 x.lo.arg, .int .i64 x.lo.base, .int .i64 x.hi.arg, .int .i64 x.hi.base, .bool x.write]
def SpanT.wf (x : SpanT) : Prop := x.lo.wf ∧ x.hi.wf
@[simp] theorem encSpanT_len (x : SpanT) : (encSpanT x).length = 5 := rfl
@[simp] theorem wk_encSpanT (x : SpanT) : List.map wk (encSpanT x) = encSpanT x := by simp [encSpanT]
@[simp] theorem wk_encSpanT' : List.map wk ∘ encSpanT = encSpanT := by funext x; simp
theorem pure_encSpanT (x : SpanT) : ∀ v ∈ encSpanT x, PureV v := (pures_cons (.int _ _) (pures_cons (.int _ _) (pures_cons (.int _ _) (pures_cons (.int _ _) (pures_cons (.bool _) pures_nil)))))
def shSpanT : List Sh := shKeyT ++ shKeyT ++ [.bool]
theorem isL_encSpanT {vs : List AV} (h : isL shSpanT vs) : ∃ x : SpanT, vs = encSpanT x ∧ x.wf := by
  unfold shSpanT at h
  obtain ⟨vs, v2, rfl, h, h2⟩ := isL_app h
  obtain ⟨vs, v1, rfl, h, h1⟩ := isL_app h
  have h0 := h
  obtain ⟨u0, rfl, w0⟩ := isL_encKeyT h0
  obtain ⟨u1, rfl, w1⟩ := isL_encKeyT h1
  obtain ⟨_, rfl, u2, rfl⟩ := isL_one h2
  refine ⟨⟨u0, u1, u2⟩, ?_, ⟨w0, w1⟩⟩
  simp [encSpanT, encKeyT]

/-! ### Stp -/
structure Stp where
  code : List Inst
  foot : List SpanT
  deriving DecidableEq

def encStp (x : Stp) : List AV := [.sl .no (x.code.map encInst), .sl .no (x.foot.map encSpanT)]
def Stp.wf (x : Stp) : Prop := (x.code.length ≤ maxLen ∧ ∀ y ∈ x.code, y.wf) ∧ (x.foot.length ≤ maxLen ∧ ∀ y ∈ x.foot, y.wf)
@[simp] theorem encStp_len (x : Stp) : (encStp x).length = 2 := rfl
@[simp] theorem wk_encStp (x : Stp) : List.map wk (encStp x) = encStp x := by simp [encStp]
@[simp] theorem wk_encStp' : List.map wk ∘ encStp = encStp := by funext x; simp
theorem pure_encStp (x : Stp) : ∀ v ∈ encStp x, PureV v := (pures_cons (pure_sl pure_encInst _) (pures_cons (pure_sl pure_encSpanT _) pures_nil))
def shStp : List Sh := [.sl shInst] ++ [.sl shSpanT]
theorem isL_encStp {vs : List AV} (h : isL shStp vs) : ∃ x : Stp, vs = encStp x ∧ x.wf := by
  unfold shStp at h
  obtain ⟨vs, v1, rfl, h, h1⟩ := isL_app h
  have h0 := h
  obtain ⟨u0, rfl, w0⟩ := isL_sl (fun vs h => isL_encInst h) h0
  obtain ⟨u1, rfl, w1⟩ := isL_sl (fun vs h => isL_encSpanT h) h1
  refine ⟨⟨u0, u1⟩, ?_, ⟨w0, w1⟩⟩
  simp [encStp]

/-! ### Cls -/
structure Cls where
  name : ByteArray
  args : Int
  steps : List Stp
  comps : List Stp
  resume : Bool
  deriving DecidableEq

def encCls (x : Cls) : List AV := [.str x.name, .int .i64 x.args, .sl .no (x.steps.map encStp), .sl .no (x.comps.map encStp), .bool x.resume]
def Cls.wf (x : Cls) : Prop := x.name.size ≤ maxLen ∧ inI x.args ∧ (x.steps.length ≤ maxLen ∧ ∀ y ∈ x.steps, y.wf) ∧ (x.comps.length ≤ maxLen ∧ ∀ y ∈ x.comps, y.wf)
@[simp] theorem encCls_len (x : Cls) : (encCls x).length = 5 := rfl
@[simp] theorem wk_encCls (x : Cls) : List.map wk (encCls x) = encCls x := by simp [encCls]
@[simp] theorem wk_encCls' : List.map wk ∘ encCls = encCls := by funext x; simp
/-! ### Ctlg -/
structure Ctlg where
  classes : List Cls
  breaks : List Int
  deriving DecidableEq

def encCtlg (x : Ctlg) : List AV := [.sl .no (x.classes.map encCls)] ++ x.breaks.map (AV.int .i64)
def Ctlg.wf (x : Ctlg) : Prop := (x.classes.length ≤ maxLen ∧ ∀ y ∈ x.classes, y.wf) ∧ (x.breaks.length = 16 ∧ ∀ y ∈ x.breaks, inI y)
@[simp] theorem wk_encCtlg (x : Ctlg) : List.map wk (encCtlg x) = encCtlg x := by simp [encCtlg]
@[simp] theorem wk_encCtlg' : List.map wk ∘ encCtlg = encCtlg := by funext x; simp
/-! ### Spn -/
structure Spn where
  lo : Int
  hi : Int
  deriving DecidableEq

def encSpn (x : Spn) : List AV := [.int .i64 x.lo, .int .i64 x.hi]
def Spn.wf (x : Spn) : Prop := inI x.lo ∧ inI x.hi
@[simp] theorem encSpn_len (x : Spn) : (encSpn x).length = 2 := rfl
@[simp] theorem wk_encSpn (x : Spn) : List.map wk (encSpn x) = encSpn x := by simp [encSpn]
@[simp] theorem wk_encSpn' : List.map wk ∘ encSpn = encSpn := by funext x; simp
theorem pure_encSpn (x : Spn) : ∀ v ∈ encSpn x, PureV v := (pures_cons (.int _ _) (pures_cons (.int _ _) pures_nil))
def shSpn : List Sh := [.int .i64] ++ [.int .i64]
theorem isL_encSpn {vs : List AV} (h : isL shSpn vs) : ∃ x : Spn, vs = encSpn x ∧ x.wf := by
  unfold shSpn at h
  obtain ⟨vs, v1, rfl, h, h1⟩ := isL_app h
  have h0 := h
  obtain ⟨u0, rfl, w0⟩ := isL_encN h0
  obtain ⟨u1, rfl, w1⟩ := isL_encN h1
  refine ⟨⟨u0, u1⟩, ?_, ⟨w0, w1⟩⟩
  simp [encSpn, encN]

/-! ### Nod -/
structure Nod where
  saga : Int
  cls : Int
  step : Int
  back : Bool
  reads : List Spn
  writes : List Spn
  deriving DecidableEq

def encNod (x : Nod) : List AV := [.int .i64 x.saga, .int .i64 x.cls, .int .i64 x.step, .bool x.back, .sl .no (x.reads.map encSpn), .sl .no (x.writes.map encSpn)]
def Nod.wf (x : Nod) : Prop := inI x.saga ∧ inI x.cls ∧ inI x.step ∧ (x.reads.length ≤ maxLen ∧ ∀ y ∈ x.reads, y.wf) ∧ (x.writes.length ≤ maxLen ∧ ∀ y ∈ x.writes, y.wf)
@[simp] theorem encNod_len (x : Nod) : (encNod x).length = 6 := rfl
@[simp] theorem wk_encNod (x : Nod) : List.map wk (encNod x) = encNod x := by simp [encNod]
@[simp] theorem wk_encNod' : List.map wk ∘ encNod = encNod := by funext x; simp
/-! ### Chg -/
structure Chg where
  key : Int
  gone : Bool
  value : Int
  deriving DecidableEq

def encChg (x : Chg) : List AV := [.int .i64 x.key, .bool x.gone, .int .i64 x.value]
def Chg.wf (x : Chg) : Prop := inI x.key ∧ inI x.value
@[simp] theorem encChg_len (x : Chg) : (encChg x).length = 3 := rfl
@[simp] theorem wk_encChg (x : Chg) : List.map wk (encChg x) = encChg x := by simp [encChg]
@[simp] theorem wk_encChg' : List.map wk ∘ encChg = encChg := by funext x; simp
theorem pure_encChg (x : Chg) : ∀ v ∈ encChg x, PureV v := (pures_cons (.int _ _) (pures_cons (.bool _) (pures_cons (.int _ _) pures_nil)))
/-! ### Recd -/
structure Recd where
  kind : Int
  saga : Int
  cls : Int
  args : List Int
  why : Int
  node : Nod
  regs : List Int
  changes : List Chg
  deriving DecidableEq

def encRecd (x : Recd) : List AV := [.int .i64 x.kind, .int .i64 x.saga, .int .i64 x.cls, .sl .no (x.args.map encN), .int .i64 x.why, .int .i64 x.node.saga, .int .i64 x.node.cls, .int .i64 x.node.step, .bool x.node.back, .sl .no (x.node.reads.map encSpn), .sl .no (x.node.writes.map encSpn)] ++ x.regs.map (AV.int .i64) ++ [.sl .no (x.changes.map encChg)]
def Recd.wf (x : Recd) : Prop := inI x.kind ∧ inI x.saga ∧ inI x.cls ∧ (x.args.length ≤ maxLen ∧ ∀ y ∈ x.args, inI y) ∧ inI x.why ∧ x.node.wf ∧ (x.regs.length = 4 ∧ ∀ y ∈ x.regs, inI y) ∧ (x.changes.length ≤ maxLen ∧ ∀ y ∈ x.changes, y.wf)
@[simp] theorem wk_encRecd (x : Recd) : List.map wk (encRecd x) = encRecd x := by simp [encRecd]
@[simp] theorem wk_encRecd' : List.map wk ∘ encRecd = encRecd := by funext x; simp
/-! ### Frm -/
structure Frm where
  kind : Int
  words : List Nat
  deriving DecidableEq

def encFrm (x : Frm) : List AV := [.int .i64 x.kind, .sl .no (x.words.map w64)]
def Frm.wf (x : Frm) : Prop := inI x.kind ∧ (x.words.length ≤ maxLen ∧ ∀ y ∈ x.words, y < 18446744073709551616)
@[simp] theorem encFrm_len (x : Frm) : (encFrm x).length = 2 := rfl
@[simp] theorem wk_encFrm (x : Frm) : List.map wk (encFrm x) = encFrm x := by simp [encFrm]
@[simp] theorem wk_encFrm' : List.map wk ∘ encFrm = encFrm := by funext x; simp
/-! ### Par -/
structure Par where
  key : Int
  value : Int
  deriving DecidableEq

def encPar (x : Par) : List AV := [.int .i64 x.key, .int .i64 x.value]
def Par.wf (x : Par) : Prop := inI x.key ∧ inI x.value
@[simp] theorem encPar_len (x : Par) : (encPar x).length = 2 := rfl
@[simp] theorem wk_encPar (x : Par) : List.map wk (encPar x) = encPar x := by simp [encPar]
@[simp] theorem wk_encPar' : List.map wk ∘ encPar = encPar := by funext x; simp
/-! ### Rept -/
structure Rept where
  committed : Int
  compensated : Int
  opn : Int
  steps : Int
  backs : Int
  aborts : List Int
  keys : Int
  deriving DecidableEq

def encRept (x : Rept) : List AV := [.int .i64 x.committed, .int .i64 x.compensated, .int .i64 x.opn, .int .i64 x.steps, .int .i64 x.backs] ++ x.aborts.map (AV.int .i64) ++ [.int .i64 x.keys]
def Rept.wf (x : Rept) : Prop := inI x.committed ∧ inI x.compensated ∧ inI x.opn ∧ inI x.steps ∧ inI x.backs ∧ (x.aborts.length = 16 ∧ ∀ y ∈ x.aborts, inI y) ∧ inI x.keys
@[simp] theorem wk_encRept (x : Rept) : List.map wk (encRept x) = encRept x := by simp [encRept]
@[simp] theorem wk_encRept' : List.map wk ∘ encRept = encRept := by funext x; simp
end Go.Proofs

/- The program's sets of keys: what isn't there, how many, all of them. -/
namespace Go.Proofs
open Go Go.RowKit Go.Am

theorem P_len (l : List Sp) : ∀ e ∈ l.map avP, e.length = 2 := avP_len

end Go.Proofs

/- The program's sets of keys: in common, without; do they meet, is the one inside the other? -/
namespace Go.Proofs
open Go Go.RowKit Go.Am

end Go.Proofs

/- The document's example of sets of keys; the statement KeysSets: its function hands back true. -/
namespace Go.Proofs
open Go Go.RowKit Go.Am

end Go.Proofs

/- The statements KeysParts, KeysTwo: their functions hand back true. -/
namespace Go.Proofs
open Go Go.RowKit Go.Am

theorem pures3 {a b c : AV} (ha : PureV a) (hb : PureV b) (hc : PureV c) : ∀ v ∈ [a, b, c], PureV v := pures_cons ha (pures2 hb hc)
end Go.Proofs

/- The statement KeysTwo: its function hands back true. -/
namespace Go.Proofs
open Go Go.RowKit Go.Am

end Go.Proofs

/- Arguments of a law: from their readings to values. -/
namespace Go.Proofs
open Go Go.RowKit Go.Am

theorem sh_one {s : Sh} {a : AV} (h : s.is a) : isL [s] [a] := by
  simp only [isL]
  exact ⟨a, [], rfl, h, rfl⟩
theorem sl_is {α : Type} {f : α → List AV} {sh : List Sh} {wf : α → Prop} (hf : ∀ vs, isL sh vs → ∃ x, vs = f x ∧ wf x) {v : AV} (h : (Sh.sl sh).is v) : ∃ l : List α, v = .sl .no (l.map f) ∧ l.length ≤ maxLen ∧ ∀ x ∈ l, wf x := by
  obtain ⟨l, e, h1, h2⟩ := isL_sl hf (sh_one h)
  simp at e
  exact ⟨l, e, h1, h2⟩
def Item.wf (x : Item) : Prop := inI x.kind ∧ inI x.n ∧ inI x.most ∧ inI x.x ∧ x.s.size ≤ maxLen ∧ x.l.length ≤ maxLen ∧ ∀ w ∈ x.l, w < 18446744073709551616
section
variable {H : Type} {enc : TypeId × Value → H} {P : Program} {w : World} {spare : Nat → Bool} {held : Bool}
/-- An argument of several cells. -/
theorem ent_agg {t : TypeId} {C : Array Value} {x : DataW H} {ps : List MemPlace} {d : Nat} {sh : List Sh} (h : DataW.Trod enc P w 0 spare held t (.agg C) x ps) (hc : shT P d t = some sh) : ∃ vs, isL sh vs ∧ Rep w (G.bare (roW w)) (.agg vs) (.agg C) := by
  obtain ⟨fuel, h⟩ := h
  obtain ⟨vs, h1, h2⟩ := ent fuel d t _ _ _ h hc
  refine ⟨vs, h1, Rep.ofAgg (RepC.mk (by simpa [Value.cells] using h2.1) fun k v hk => ?_)⟩
  obtain ⟨V, q1, q2, q3⟩ := h2.2 k v hk
  exact ⟨V, by simpa [Value.cells] using q1, q2, q3⟩
inductive RepV (w : World) (g : G) : List AV → List Value → Prop where
  | nil : RepV w g [] []
  | cons {a : AV} {v : Value} {l : List AV} {vs : List Value} : Rep w g a v → RepV w g l vs → RepV w g (a :: l) (v :: vs)
theorem RepV.get {w : World} {g : G} {l : List AV} {vs : List Value} (h : RepV w g l vs) : ∃ hl : l.length = vs.length, ∀ k (hk : k < l.length), Rep w g l[k] (vs[k]'(by omega)) := by
  induction h with
  | nil => exact ⟨rfl, fun k hk => by simp at hk⟩
  | cons hv _ ih =>
    obtain ⟨hl, ih⟩ := ih
    refine ⟨by simp [hl], fun k hk => ?_⟩
    cases k with
    | zero => exact hv
    | succ k => exact ih k (by simpa using hk)
theorem RepV.toA {w : World} {g : G} {l : List AV} {vs : List Value} (h : RepV w g l vs) : RepA w g l vs.toArray := by
  obtain ⟨hl, h⟩ := h.get
  exact ⟨by simpa using hl, fun k hk => by simpa using h k hk⟩
end
end Go.Proofs

/- Which programs, footprints, classes and catalogues there may be: the document's answer. -/
namespace Go.Proofs
open Go Go.RowKit Go.Am

def mayKey (k : KeyT) (args : Int) : Bool := decide (-1 ≤ k.arg) && decide (k.arg < args) && decide (0 ≤ k.base) && decide (k.base ≤ 900)

theorem pureKey (k : KeyT) : PureV (.agg (encKeyT k)) := .agg (pure_encKeyT k)

theorem refMayKey_ok (k : KeyT) (args : Int) : PCall Try.prog 133 [.agg (encKeyT k), .int .i64 args] (.bool (mayKey k args)) := by
  refine PCall.run hb133 ok133 (by simp) (pures_cons (pureKey k) (pures1 (.int _ _))) (.bool _) ?_
  simp (maxSteps := 2000000) +contextual -implicitDefEqProofs [↓gdL_T, -Int.not_lt, -Int.not_le, -Nat.not_lt, -Nat.not_le, encKeyT, mayKey]

def isReg (n : Int) : Bool := !decide (n < 0) && !decide (3 < n)
def keyNone (k : KeyT) : Bool := decide (k.arg = 0 ∧ k.base = 0)
/-- May an instruction be? -/
def oneInst (x : Inst) (args : Int) : Bool :=
  if x.op = 1 ∨ x.op = 2 then isReg x.a && decide (x.x = 0) && decide (x.b = 0) && decide (x.c = 0) && keyNone x.l && mayKey x.k args
  else if x.op = 3 then decide (x.a = 0) && decide (x.x = 0) && decide (x.b = 0) && decide (x.c = 0) && keyNone x.l && mayKey x.k args
  else if x.op = 4 then isReg x.a && decide (x.x = 0) && decide (x.b = 0) && decide (x.c = 0) && mayKey x.k args && mayKey x.l args
  else if x.op = 5 ∨ x.op = 8 then isReg x.a && decide (x.b = 0) && decide (x.c = 0) && keyNone x.k && keyNone x.l
  else if x.op = 6 ∨ x.op = 7 then isReg x.a && decide (x.x = 0) && isReg x.b && isReg x.c && keyNone x.k && keyNone x.l
  else false

theorem pureInst (x : Inst) : PureV (.agg (encInst x)) := .agg (pure_encInst x)

end Go.Proofs
