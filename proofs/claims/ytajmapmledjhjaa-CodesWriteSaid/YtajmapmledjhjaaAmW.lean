/- From the reading of an argument to its value by value: the entry of a law's function. -/
import Derived.Test.YtajmapmledjhjaaAmV
import Derived.DataReads
import Derived.ChangeArms
import Derived.OpenShut
namespace Go.Am
open Go Go.RowKit

inductive Sh where
  | bool
  | int (k : IntKind)
  | str
  | sl (fs : List Sh)

mutual
def Sh.is : Sh → AV → Prop
  | .bool, v => ∃ b, v = .bool b
  | .int k, v => ∃ n, v = .int k n ∧ (Lit.int k n).wf = true
  | .str, v => ∃ s, v = .str s ∧ s.size ≤ maxLen
  | .sl fs, v => ∃ es : List (List AV), v = .sl .no es ∧ es.length ≤ maxLen ∧ ∀ e ∈ es, isL fs e
def isL : List Sh → List AV → Prop
  | [], vs => vs = []
  | f :: fs, vs => ∃ v r, vs = v :: r ∧ f.is v ∧ isL fs r
end

def shF (P : Program) (rec : TypeId → Option (List Sh)) : List Field → Nat → Option (List Sh)
  | [], _ => some []
  | f :: fs, off => if f.offset = off then (rec f.type).bind fun c => if P.cellsOf f.type = c.length then (shF P rec fs (off + c.length)).map fun r => c ++ r else none else none

def shT (P : Program) : Nat → TypeId → Option (List Sh)
  | 0, _ => none
  | d + 1, t =>
    match P.underlying t with
    | some .bool => some [.bool]
    | some (.int k) => some [.int k]
    | some .string => some [.str]
    | some (.slice e) => (shT P d e).bind fun c => if P.cellsOf e = c.length ∧ 0 < c.length then some [.sl c] else none
    | some (.struct fs) => (shF P (shT P d) fs.toList 0).bind fun c => if P.cellsOf t = c.length then some c else none
    | some (.array n e) => (shT P d e).bind fun c => if P.cellsOf e = c.length ∧ P.cellsOf t = n * c.length then some (List.replicate n c).flatten else none
    | _ => none

theorem isL_len : ∀ {fs : List Sh} {vs : List AV}, isL fs vs → vs.length = fs.length
  | [], vs, h => by simp only [isL] at h; subst h; rfl
  | f :: fs, vs, h => by
    simp only [isL] at h
    obtain ⟨v, r, rfl, _, h⟩ := h
    simp [isL_len h]
theorem isL_append : ∀ {a b : List Sh} {vs us : List AV}, isL a vs → isL b us → isL (a ++ b) (vs ++ us)
  | [], b, vs, us, h1, h2 => by simp only [isL] at h1; subst h1; exact h2
  | f :: a, b, vs, us, h1, h2 => by
    simp only [isL] at h1
    obtain ⟨v, r, rfl, h, h1⟩ := h1
    simp only [List.cons_append, isL]
    exact ⟨v, r ++ us, rfl, h, isL_append h1 h2⟩
theorem isL_one {f : Sh} {v : AV} (h : f.is v) : isL [f] [v] := by
  simp only [isL]
  exact ⟨v, [], rfl, h, rfl⟩

/-- Cells, one by one. -/
def RepL (w : World) (g : G) (vs : List AV) (cs : List Value) : Prop := vs.length = cs.length ∧ ∀ (k : Nat) (v : AV), vs[k]? = some v → ∃ V, cs[k]? = some V ∧ Rep w g v V ∧ ok1 v = true

theorem RepL.nil (w : World) (g : G) : RepL w g [] [] := ⟨rfl, fun k v h => by simp at h⟩
theorem RepL.one {w : World} {g : G} {v : AV} {V : Value} (h : Rep w g v V) (ho : ok1 v = true) : RepL w g [v] [V] :=
  ⟨rfl, fun k u hk => by
    cases k with
    | zero => simp at hk; subst hk; exact ⟨V, rfl, h, ho⟩
    | succ k => simp at hk⟩
theorem RepL.append {w : World} {g : G} {vs us : List AV} {cs ds : List Value} (h1 : RepL w g vs cs) (h2 : RepL w g us ds) : RepL w g (vs ++ us) (cs ++ ds) :=
  ⟨by simp [h1.1, h2.1], fun k v hk => by
    rw [List.getElem?_append] at hk
    rw [List.getElem?_append, ← h1.1]
    split at hk
    · rename_i hlt
      rw [if_pos hlt]
      exact h1.2 k v hk
    · rename_i hlt
      rw [if_neg hlt]
      exact h2.2 _ v hk⟩

def roW (w : World) (B : Nat) : Nat :=
  match w.heap[B]? with
  | some (.cells c _ _) => c.size
  | _ => 0

theorem cell_roW {w : World} {a : Addr} {V : Value} (h : w.cell? a = some V) : a.spot = none ∧ a.off < roW w a.block := by
  unfold World.cell? at h
  unfold roW
  split at h
  · rename_i c e f hb
    split at h
    · cases h
    · rename_i hs
      refine ⟨by cases hsp : a.spot with | none => rfl | some _ => rw [hsp] at hs; exact absurd rfl hs, ?_⟩
      rw [hb]
      exact (Array.getElem?_eq_some_iff.1 h).1
  · cases h

theorem ROat_of {w : World} {a : Addr} {k : Nat} {V : Value} (hs : a.spot = none) (h : w.cell? (a.add k) = some V) : ROat w (G.bare (roW w)) (some a) k V := by
  obtain ⟨B, o, sp⟩ := a
  simp only at hs
  subst hs
  have e : (Addr.add ⟨B, o, none⟩ k) = ⟨B, o + k, none⟩ := by unfold Addr.add; split <;> simp_all
  rw [e] at h
  exact ⟨B, o, rfl, (cell_roW h).2, h⟩

section
variable {H : Type} {enc : TypeId × Value → H} {P : Program} {w : World} {spare : Nat → Bool} {held : Bool}

theorem shF_ent {d : Nat} {fuel : Nat} (ih : ∀ (t : TypeId) (cs : List Value) (x : DataW H × List MemPlace) (c : List Sh), DataW.trod enc P w 0 spare held fuel t cs = some x → shT P d t = some c → ∃ vs, isL c vs ∧ RepL w (G.bare (roW w)) vs cs) (cs : List Value) :
    ∀ (fs : List Field) (off : Nat) (xs : List (DataW H × List MemPlace)) (c : List Sh), xs.length = fs.length → (∀ (i : Nat) (f : Field), fs[i]? = some f → DataW.trod enc P w 0 spare held fuel f.type ((cs.drop f.offset).take (P.cellsOf f.type)) = xs[i]?) → shF P (shT P d) fs off = some c →
      off + c.length ≤ cs.length → ∃ vs, isL c vs ∧ RepL w (G.bare (roW w)) vs ((cs.drop off).take c.length)
  | [], off, xs, c, _, _, hc, _ => by
    simp only [shF, Option.some.injEq] at hc
    subst hc
    exact ⟨[], by simp [isL], by simpa using RepL.nil _ _⟩
  | f :: fs, off, xs, c, hxl, hx, hc, hl => by
    simp only [shF] at hc
    split at hc
    · rename_i hoff
      simp only [Option.bind_eq_some_iff] at hc
      obtain ⟨c1, hc1, hc⟩ := hc
      split at hc
      · rename_i hn
        simp only [Option.map_eq_some_iff] at hc
        obtain ⟨c2, hc2, rfl⟩ := hc
        simp only [List.length_append] at hl
        obtain ⟨x, xs', rfl⟩ : ∃ x xs', xs = x :: xs' := by
          cases xs with
          | nil => simp at hxl
          | cons x xs' => exact ⟨x, xs', rfl⟩
        have h0 := hx 0 f rfl
        simp only [List.getElem?_cons_zero] at h0
        obtain ⟨vs1, i1, r1⟩ := ih _ _ _ _ h0 hc1
        obtain ⟨vs2, i2, r2⟩ := shF_ent ih cs fs (off + c1.length) xs' c2 (by simpa using hxl) (fun i f hi => by simpa using hx (i + 1) f (by simpa using hi)) hc2 (by omega)
        refine ⟨vs1 ++ vs2, isL_append i1 i2, ?_⟩
        have e : (cs.drop off).take (c1 ++ c2).length = (cs.drop off).take c1.length ++ (cs.drop (off + c1.length)).take c2.length := by
          rw [List.length_append, List.take_add, List.drop_drop]
        rw [e]
        rw [hoff, hn] at r1
        exact r1.append r2
      · cases hc
    · cases hc

theorem isL_reps {c : List Sh} : ∀ {n : Nat} {vss : List (List AV)}, vss.length = n → (∀ vs ∈ vss, isL c vs) → isL (List.replicate n c).flatten vss.flatten
  | 0, vss, hl, _ => by
    have : vss = [] := List.length_eq_zero_iff.1 hl
    subst this
    simp [isL]
  | n + 1, vss, hl, h => by
    cases vss with
    | nil => simp at hl
    | cons vs vss =>
      simp only [List.replicate_succ, List.flatten_cons]
      exact isL_append (h vs (List.mem_cons_self ..)) (isL_reps (by simpa using hl) fun u hu => h u (List.mem_cons_of_mem _ hu))

/-- Rows of cells, one behind the other. -/
theorem RepL_rows {g : G} {z : Nat} (cs : Nat → Option Value) : ∀ (vss : List (List AV)) (off : Nat), (∀ (i : Nat) (vs : List AV), vss[i]? = some vs → vs.length = z ∧ ∀ (k : Nat) (v : AV), vs[k]? = some v → ∃ V, cs (off + i * z + k) = some V ∧ Rep w g v V ∧ ok1 v = true) →
    ∀ (k : Nat) (v : AV), vss.flatten[k]? = some v → ∃ V, cs (off + k) = some V ∧ Rep w g v V ∧ ok1 v = true
  | [], _, _, k, v, hk => by simp at hk
  | vs :: vss, off, h, k, v, hk => by
    obtain ⟨hl, hv⟩ := h 0 vs rfl
    rw [List.flatten_cons, List.getElem?_append] at hk
    split at hk
    · obtain ⟨V, q1, q2⟩ := hv k v hk
      exact ⟨V, by simpa using q1, q2⟩
    · rename_i hlt
      obtain ⟨V, q1, q2⟩ := RepL_rows cs vss (off + z) (fun i us hi => by
        obtain ⟨q1, q2⟩ := h (i + 1) us (by simpa using hi)
        refine ⟨q1, fun k v hk => ?_⟩
        obtain ⟨V, p1, p2⟩ := q2 k v hk
        exact ⟨V, by rw [← p1]; congr 1; rw [Nat.add_mul]; omega, p2⟩) (k - vs.length) v hk
      exact ⟨V, by rw [← q1]; congr 1; omega, q2⟩

theorem list_of {β : Type} {p : Nat → β → Prop} : ∀ (n : Nat), (∀ i, i < n → ∃ y, p i y) → ∃ l : List β, l.length = n ∧ ∀ (i : Nat) (y : β), l[i]? = some y → p i y
  | 0, _ => ⟨[], rfl, fun i y h => by simp at h⟩
  | n + 1, h => by
    obtain ⟨l, h1, h2⟩ := list_of n fun i hi => h i (by omega)
    obtain ⟨y, hy⟩ := h n (by omega)
    refine ⟨l ++ [y], by simp [h1], fun i z hz => ?_⟩
    rw [List.getElem?_append] at hz
    split at hz
    · exact h2 i z hz
    · rename_i hlt
      have : i = n := by
        have := (List.getElem?_eq_some_iff.1 hz).1
        simp at this; omega
      subst this
      rw [h1] at hz
      simp at hz
      subst hz
      exact hy

theorem add_add (a : Addr) (m k : Nat) : (a.add m).add k = a.add (m + k) := by
  obtain ⟨B, o, sp⟩ := a
  unfold Addr.add
  by_cases hm : m = 0 <;> by_cases hk : k = 0 <;> simp [hm, hk] <;> omega

theorem ent : ∀ (fuel d : Nat) (t : TypeId) (cs : List Value) (x : DataW H × List MemPlace) (c : List Sh), DataW.trod enc P w 0 spare held fuel t cs = some x → shT P d t = some c → ∃ vs, isL c vs ∧ RepL w (G.bare (roW w)) vs cs
  | 0, _, _, _, _, _, h, _ => by simp [DataW.trod] at h
  | _ + 1, 0, _, _, _, _, _, hc => by simp [shT] at hc
  | fuel + 1, d + 1, t, cs, x, c, h, hc => by
    simp only [shT] at hc
    split at hc
    · rename_i hu
      cases hc
      obtain ⟨b, rfl, _⟩ := DataW.trod_bool hu h
      exact ⟨[.bool b], isL_one (by simp [Sh.is]), .one (.bool b) rfl⟩
    · rename_i k hu
      cases hc
      obtain ⟨n, rfl, _, hw⟩ := DataW.trod_int hu h
      exact ⟨[.int k n], isL_one (by simp only [Sh.is]; exact ⟨n, rfl, hw⟩), .one (.int k n) rfl⟩
    · rename_i hu
      cases hc
      obtain ⟨s, rfl, _, hs⟩ := DataW.trod_string hu h
      exact ⟨[.str s], isL_one (by simp only [Sh.is]; exact ⟨s, rfl, hs⟩), .one (.str s) rfl⟩
    · rename_i e hu
      simp only [Option.bind_eq_some_iff] at hc
      obtain ⟨ce, hce, hc⟩ := hc
      split at hc
      · rename_i hn
        cases hc
        rcases DataW.trod_slice hu h with ⟨rfl, _⟩ | ⟨a, len, cap, elems, rest, n, hfu, rfl, _, _, hlc, hcm, hel, hget, _⟩
        · refine ⟨[.sl .no []], isL_one (by simp only [Sh.is]; exact ⟨[], rfl, by simp, fun e he => by cases he⟩), .one ?_ rfl⟩
          exact .sl .no [] none 0 1 (fun _ => .nilFunc) ⟨by omega, fun e he => by cases he⟩ (Nat.le_refl _) (fun k hk => by simp at hk) (fun k hk => by simp at hk) (fun k hk => by simp at hk) trivial
        · have hfu' : fuel = n := by omega
          subst hfu'
          have key : ∀ i, i < len → ∃ vs, isL ce vs ∧ vs.length = ce.length ∧ ∀ (k : Nat) (v : AV), vs[k]? = some v → ∃ V, w.cell? (a.add (i * ce.length + k)) = some V ∧ Rep w (G.bare (roW w)) v V ∧ ok1 v = true := fun i hi => by
            have := hget i hi
            rw [List.getElem?_eq_getElem (by omega), Option.bind_eq_some_iff] at this
            obtain ⟨cse, h1, h2⟩ := this
            obtain ⟨vs, q1, q2, q3⟩ := ent fuel d e cse _ ce h2 hce
            obtain ⟨p1, p2, p3⟩ := World.cells?_some h1
            refine ⟨vs, q1, isL_len q1, fun k v hk => ?_⟩
            obtain ⟨V, r1, r2⟩ := q3 k v hk
            have hkl := (List.getElem?_eq_some_iff.1 r1).1
            refine ⟨V, ?_, r2⟩
            have := p3 k (by omega)
            rw [r1, hn.1] at this
            rw [← this]
            rw [add_add]
          obtain ⟨vss, l1, l2⟩ := list_of len key
          have hrow := RepL_rows (w := w) (g := G.bare (roW w)) (z := ce.length) (fun j => w.cell? (a.add j)) vss 0 fun i vs hi => by
            obtain ⟨q1, q2, q3⟩ := l2 i vs hi
            exact ⟨q2, fun k v hk => by simpa using q3 k v hk⟩
          have hrow' : ∀ k (hk : k < vss.flatten.length), ∃ V, w.cell? (a.add k) = some V ∧ Rep w (G.bare (roW w)) vss.flatten[k] V ∧ ok1 vss.flatten[k] = true := fun k hk => by
            have := hrow k _ (List.getElem?_eq_getElem hk)
            simpa using this
          have hisl : ∀ e ∈ vss, isL ce e := fun e he => by
            obtain ⟨i, hi⟩ := List.mem_iff_getElem?.1 he
            exact (l2 i e hi).1
          refine ⟨[.sl .no vss], isL_one (by simp only [Sh.is]; exact ⟨vss, rfl, by omega, hisl⟩), .one ?_ rfl⟩
          · rw [← l1]
            refine .sl .no vss (some a) cap ce.length (fun k => if hk : k < vss.flatten.length then Classical.choose (hrow' k hk) else .nilFunc) ⟨hn.2, fun e he => ?_⟩ (by omega) (fun k hk => ?_) (fun k hk => ?_) (fun k hk => (hrow' k hk).choose_spec.2.2) trivial
            · obtain ⟨i, hi⟩ := List.mem_iff_getElem?.1 he
              exact (l2 i e hi).2.1
            · have h0 : a.spot = none := by
                obtain ⟨V, h0, _⟩ := hrow' 0 (by omega)
                have e0 : a.add 0 = a := by simp [Addr.add]
                rw [e0] at h0
                exact (cell_roW h0).1
              rw [dif_pos hk]
              exact ROat_of h0 (Classical.choose_spec (hrow' k hk)).1
            · rw [dif_pos hk]
              exact (Classical.choose_spec (hrow' k hk)).2.1
      · cases hc
    · rename_i fs hu
      simp only [Option.bind_eq_some_iff] at hc
      obtain ⟨cf, hcf, hc⟩ := hc
      split at hc
      · rename_i hn
        cases hc
        obtain ⟨xs, n, hfu, _, hlen, hxl, hget⟩ := DataW.trod_struct hu h
        have hfu' : fuel = n := by omega
        subst hfu'
        obtain ⟨vs, q1, q2⟩ := shF_ent (ent fuel d) cs fs.toList 0 xs _ (by simpa using hxl) (fun i f hi => hget i f (by simpa using hi)) hcf (by omega)
        refine ⟨vs, q1, ?_⟩
        rw [← hn, ← hlen] at q2
        simpa using q2
      · cases hc
    · rename_i n e hu
      simp only [Option.bind_eq_some_iff] at hc
      obtain ⟨ce, hce, hc⟩ := hc
      split at hc
      · rename_i hn
        cases hc
        obtain ⟨xs, m, hfu, _, hlen, hxl, hget⟩ := DataW.trod_array hu h
        have hfu' : fuel = m := by omega
        subst hfu'
        obtain ⟨vss, l1, l2⟩ := list_of (p := fun i vs => isL ce vs ∧ RepL w (G.bare (roW w)) vs ((cs.drop (i * ce.length)).take ce.length)) n fun i hi => by
          have := hget i hi
          rw [List.getElem?_eq_getElem (by omega), hn.1] at this
          exact ent fuel d e _ _ ce this hce
        refine ⟨vss.flatten, isL_reps l1 fun vs hvs => ?_, ?_, ?_⟩
        · obtain ⟨i, hi⟩ := List.mem_iff_getElem?.1 hvs
          exact (l2 i vs hi).1
        · rw [hlen, hn.2, ← l1]
          exact flatten_len fun vs hvs => by
            obtain ⟨i, hi⟩ := List.mem_iff_getElem?.1 hvs
            exact isL_len (l2 i vs hi).1
        · intro k v hk
          have := RepL_rows (w := w) (g := G.bare (roW w)) (z := ce.length) (fun j => cs[j]?) vss 0 (fun i vs hi => by
            obtain ⟨q1, q2⟩ := l2 i vs hi
            refine ⟨isL_len q1, fun k v hk => ?_⟩
            obtain ⟨V, p1, p2⟩ := q2.2 k v hk
            refine ⟨V, ?_, p2⟩
            rw [List.getElem?_take] at p1
            split at p1
            · rw [List.getElem?_drop] at p1
              simpa using p1
            · cases p1) k v hk
          simpa using this
      · cases hc
    · cases hc

end
end Go.Am
