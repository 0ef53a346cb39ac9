/- What a state keeps; slices that grow; a slice that is no longer written to. -/
import Derived.Test.YtajmapmledjhjaaAmU
namespace Go.Am
open Go Go.RowKit

/-- All stays but these boxes and these tokens. -/
structure HF (h h' : H) (B T : Nat → Prop) : Prop where
  bn : h.bn ≤ h'.bn
  bx : ∀ b, b < h.bn → ¬ B b → h'.bx b = h.bx b
  tn : h.tn ≤ h'.tn
  tk : ∀ i, i < h.tn → ¬ T i → h'.tk i = h.tk i
  ln : h'.ln = h.ln
  lp : h'.lp = h.lp
  mn : h'.mn = h.mn
  mp : h'.mp = h.mp

theorem HF.refl (h : H) (B T : Nat → Prop) : HF h h B T := ⟨Nat.le_refl _, fun _ _ _ => rfl, Nat.le_refl _, fun _ _ _ => rfl, rfl, rfl, rfl, rfl⟩
theorem HF.mono {h h' : H} {B B' T T' : Nat → Prop} (e : HF h h' B T) (hB : ∀ b, b < h.bn → B b → B' b) (hT : ∀ i, i < h.tn → T i → T' i) : HF h h' B' T' :=
  ⟨e.bn, fun b hb hn => e.bx b hb fun h => hn (hB b hb h), e.tn, fun i hi hn => e.tk i hi fun h => hn (hT i hi h), e.ln, e.lp, e.mn, e.mp⟩
theorem HF.trans {h h1 h2 : H} {B T : Nat → Prop} (e : HF h h1 B T) (f : HF h1 h2 B T) : HF h h2 B T :=
  ⟨Nat.le_trans e.bn f.bn, fun b hb hn => (f.bx b (Nat.lt_of_lt_of_le hb e.bn) hn).trans (e.bx b hb hn), Nat.le_trans e.tn f.tn, fun i hi hn => (f.tk i (Nat.lt_of_lt_of_le hi e.tn) hn).trans (e.tk i hi hn),
    f.ln.trans e.ln, f.lp.trans e.lp, f.mn.trans e.mn, f.mp.trans e.mp⟩
/-- What was done on the side may do what it will to what is new. -/
theorem HF.trans' {h h1 h2 : H} {B T B1 T1 : Nat → Prop} (e : HF h h1 B T) (f : HF h1 h2 B1 T1) (hB : ∀ b, b < h.bn → B1 b → B b) (hT : ∀ i, i < h.tn → T1 i → T i) : HF h h2 B T :=
  ⟨Nat.le_trans e.bn f.bn, fun b hb hn => (f.bx b (Nat.lt_of_lt_of_le hb e.bn) fun h => hn (hB b hb h)).trans (e.bx b hb hn), Nat.le_trans e.tn f.tn, fun i hi hn => (f.tk i (Nat.lt_of_lt_of_le hi e.tn) fun h => hn (hT i hi h)).trans (e.tk i hi hn),
    f.ln.trans e.ln, f.lp.trans e.lp, f.mn.trans e.mn, f.mp.trans e.mp⟩
theorem HF.alloc (h : H) (cs : List AV) (B T : Nat → Prop) : HF h (h.alloc cs) B T :=
  ⟨by simp, fun b hb _ => by have : b ≠ h.bn := by omega
                             simp [this], by simp, fun _ _ _ => rfl, rfl, rfl, rfl, rfl⟩
theorem HF.set {h : H} {b : Nat} {cs : List AV} {B : Nat → Prop} (T : Nat → Prop) (hb : B b) : HF h (h.set b cs) B T :=
  ⟨by simp, fun b' _ hn => by have : b' ≠ b := fun e => hn (e ▸ hb)
                              simp [this], by simp, fun _ _ _ => rfl, rfl, rfl, rfl, rfl⟩

/-- A token is alive at a length. -/
def TLive (h : H) (t : Tok) (n : Nat) : Prop :=
  match t with
  | .no => False
  | .full => True
  | .own i => i < h.tn ∧ h.tk i = n
@[simp] theorem TLive_set {h : H} {b : Nat} {cs : List AV} {t : Tok} {n : Nat} : TLive (h.set b cs) t n = TLive h t n := by cases t <;> rfl
@[simp] theorem TLive_alloc {h : H} {cs : List AV} {t : Tok} {n : Nat} : TLive (h.alloc cs) t n = TLive h t n := by cases t <;> rfl
def TOwn (t : Tok) (i : Nat) : Prop := t = .own i
/-- A slice's token behind an append: the same, or a new one. -/
def TNext (h : H) (t t' : Tok) : Prop := t' = t ∨ ∃ i, t' = .own i ∧ h.tn ≤ i

theorem TNext.trans {h h1 : H} {t t1 t2 : Tok} {B T : Nat → Prop} (e : HF h h1 B T) (a : TNext h t t1) (b : TNext h1 t1 t2) : TNext h t t2 := by
  rcases b with rfl | ⟨i, rfl, hi⟩
  · exact a
  · exact .inr ⟨i, rfl, Nat.le_trans e.tn hi⟩
/-- A token that none of the touched ones is lives on. -/
theorem TLive.keep {h h' : H} {B T : Nat → Prop} (e : HF h h' B T) {t : Tok} {n : Nat} (hl : TLive h t n) (hn : ∀ i, t = .own i → ¬ T i) : TLive h' t n := by
  cases t with
  | no => exact hl
  | full => exact hl
  | own i => exact ⟨Nat.lt_of_lt_of_le hl.1 e.tn, (e.tk i hl.1 (hn i rfl)).trans hl.2⟩
/-- Two tokens that are apart. -/
def TApart (t u : Tok) : Prop := ∀ i, t = .own i → u ≠ .own i
theorem TApart.next {h : H} {t u u' : Tok} {n : Nat} (ht : TLive h t n) (ha : TApart t u) (hu : TNext h u u') : TApart t u' := by
  intro i hi
  rcases hu with rfl | ⟨j, rfl, hj⟩
  · exact ha i hi
  · subst hi
    intro h
    cases h
    have := ht.1
    omega
theorem TApart.symm {t u : Tok} (h : TApart t u) : TApart u t := fun i hu ht => h i ht hu

theorem appQ_tok {h : H} {sz bytes : Nat} {t : Tok} {es es2 : List (List AV)} {x : AV} {K : AV → H → Prop} (ht : TLive h t es.length) (he : ∀ e ∈ es, e.length = sz) (hx : srcA h sz x = some es2)
    (hb : (es.length + es2.length) * bytes ≤ 140737488355328) (hk : ∀ t' h', TLive h' t' (es ++ es2).length → TNext h t t' → HF h h' (fun _ => False) (TOwn t) → h'.bn = h.bn → K (.sl t' (es ++ es2)) h') : appQ h sz bytes (.sl t es) x K := by
  by_cases h0 : es2 = []
  · subst h0
    refine ⟨_, _, .same t es x hx, ?_⟩
    have := hk t h (by simpa using ht) (.inl rfl) (HF.refl _ _ _) rfl
    simpa using this
  · have hpos : 0 < es2.length := List.length_pos_iff.2 h0
    cases t with
    | no => exact ht.elim
    | full =>
      refine ⟨_, _, .new es es2 x he hx hpos hb, hk _ _ ⟨by simp, by simp⟩ (.inr ⟨_, rfl, Nat.le_refl _⟩) ⟨by simp, fun _ _ _ => rfl, by simp, fun i hi _ => ?_, rfl, rfl, rfl, rfl⟩ rfl⟩
      have : i ≠ h.tn := by omega
      simp [this]
    | own i =>
      refine ⟨_, _, .own i es es2 x he ht.1 ht.2 hx hpos hb, hk _ _ ⟨by simpa using ht.1, by simp⟩ (.inl rfl) ⟨by simp, fun _ _ _ => rfl, by simp, fun j hj hn => ?_, rfl, rfl, rfl, rfl⟩ rfl⟩
      have : j ≠ i := fun e => hn (by subst e; rfl)
      simp [this]

section
variable {P : Program}

/-- A slice over a box that no longer turns is a plain slice. -/
theorem Gh.msl {h : H} {b z n : Nat} {cs : List AV} (hb : b < h.bn) (hc : h.bx b = some cs) (hz : 0 < z) (hl : n * z ≤ cs.length) : Gh h (.msl b z 0 n) (h.kill b) (.sl .no (chunks z n cs)) := by
  refine .frz b cs hb hc (fun w g V hro hr => ?_) (.refl _ _)
  cases hr with
  | msl b z off len cap h1 h2 h3 =>
    have hf := chunks_flatten hl
    have hcl := chunks_len (z := z) (n := n) (l := cs)
    have key : ∀ k (hk : k < (chunks z n cs).flatten.length), ∃ U, k < g.ro (g.bx b) ∧ w.cell? ⟨g.bx b, k, none⟩ = some U ∧ Rep w g (chunks z n cs).flatten[k] U ∧ ok1 (chunks z n cs).flatten[k] = true := fun k hk => by
      have hk2 : (chunks z n cs).flatten[k]? = cs[k]? := by
        rw [hf, List.getElem?_take]
        rw [hf, List.length_take] at hk
        rw [if_pos (by omega)]
      have hkc : k < cs.length := by rw [hf, List.length_take] at hk; omega
      exact hro k _ (by rw [← hk2]; exact List.getElem?_eq_getElem hk)
    have := Rep.sl (w := w) (g := g) .no (chunks z n cs) (some ⟨g.bx b, 0, none⟩) cap z (fun k => if hk : k < (chunks z n cs).flatten.length then Classical.choose (key k hk) else .nilFunc) ⟨hz, chunks_each hl⟩ (by rw [hcl]; exact h2) (fun k hk => ?_) (fun k hk => ?_) (fun k hk => ?_) trivial
    · rw [hcl] at this; exact this
    · obtain ⟨q1, q2, _⟩ := Classical.choose_spec (key k hk)
      refine ⟨g.bx b, 0, rfl, by rw [Nat.zero_add]; exact q1, ?_⟩
      rw [dif_pos hk, Nat.zero_add]
      exact q2
    · rw [dif_pos hk]
      exact (Classical.choose_spec (key k hk)).2.2.1
    · exact (Classical.choose_spec (key k hk)).2.2.2

theorem SCall.weakR {f : FuncId} {args : List AV} {h : H} {r : AV} {h' : H} (hc : SCall P f args h r h') : SCall P f args h (Am.wk r) h' :=
  ⟨hc.1, fun base W w g Args hs hA => (hc.2 base W w g Args hs hA).mono (by rintro e w' ⟨R, g', h1, h2, h3, h4⟩; exact ⟨R, g', h1, h2.wk, h3, h4⟩)⟩

theorem RunS.seq {inr : Bool} {a b : IR} {k : List It} {Q : Res → Slots → H → Prop} {s : Slots} {h : H} (hr : RunS P inr (.c a :: .c b :: k) Q s h) : RunS P inr (.c (.seq a b) :: k) Q s h := by
  obtain ⟨_, _, _, hk, hq⟩ := hr
  exact ⟨_, _, _, .seq hk, hq⟩
theorem RunS.reg {inr : Bool} {is : List Ins} {k : List It} {Q : Res → Slots → H → Prop} {s : Slots} {h : H} (hr : RO P is s h fun s1 h1 => RunS P inr k Q s1 h1) : RunS P inr (.c (.reg is) :: k) Q s h := by
  obtain ⟨s1, h1, q1, _, _, _, hk, hq⟩ := RO_sound hr
  exact ⟨_, _, _, .reg q1 hk, hq⟩
/-- A branch on a bool that is not known: either way must come to one state. -/
theorem RunS.condU {inr : Bool} {c : Opd} {x y : IR} {k : List It} {Q : Res → Slots → H → Prop} {s : Slots} {h : H} (R : Res) (s' : Slots) (h' : H) (hc : ev s c = .ubool)
    (h1 : Run P inr (.c x :: k) (fun r s1 h1 => r = R ∧ h1 = h' ∧ ∀ t, s' t = s1 t ∨ s' t = .undef) s h) (h2 : Run P inr (.c y :: k) (fun r s1 h1 => r = R ∧ h1 = h' ∧ ∀ t, s' t = s1 t ∨ s' t = .undef) s h)
    (hq : Q R s' h') : RunS P inr (.c (.cond c x y) :: k) Q s h := by
  obtain ⟨_, s1, _, k1, rfl, rfl, e1⟩ := h1.sem
  obtain ⟨_, s2, _, k2, e, e', e2⟩ := h2.sem
  subst e e'
  exact ⟨_, _, _, .condU hc k1 k2 e1 e2, hq⟩

theorem PCall.runS {f : FuncId} {F : FnA} {args : List AV} {r : AV} (hb : HasBody P f) (hf : cFn P f = some F) (hargs : args.length ≤ F.N) (hp : ∀ v ∈ args, PureV v) (hpr : PureV r)
    (hr : RunS P false [.c F.body] (retQ F.res fun r' _ => wk r' = r) (slots0 args) H.nil) : PCall P f args r := by
  obtain ⟨ex, s1, h1, hk, hq⟩ := hr
  obtain ⟨q1, vs, q2, q3⟩ := retQ_inv hq
  exact fun h => SCall.pure (SCall.body hb hf hargs hk q1 q2 (.weak (r1 := r) (fun w g V hv => q3 ▸ hv.wk) (.refl _ _))) hp hpr h

/-- slices.Clone, at any type. -/
def cloneF (n b : Nat) (z : List AV) : FnA := ⟨8, .seq (.reg [⟨some 2, none, .mov (.c (.sl .full []))⟩])
  (.seq (.seq (.reg [⟨some 3, none, .mov (.t 0)⟩, ⟨some 4, none, .isnil false (.t 3)⟩]) (.cond (.t 4) (.seq (.reg [⟨some 2, none, .mov (.c (.sl .full []))⟩]) (.ret)) (.skip)))
    (.seq (.reg [⟨some 5, none, .bsl n 0 z []⟩, ⟨some 6, none, .mov (.t 0)⟩, ⟨some 7, none, .append n b (.t 5) (.t 6)⟩, ⟨some 2, none, .mov (.t 7)⟩]) (.ret))), [.t 2]⟩

theorem clone_gen {f : FuncId} {n b : Nat} {z : List AV} (hb : HasBody P f) (hf : cFn P f = some (cloneF n b z)) (es : List (List AV)) (he : ∀ e ∈ es, e.length = n) (hp : PureV (.sl .no es)) (hw : es.map (List.map wk) = es) (hl : es.length * b ≤ 140737488355328) :
    PCall P f [.sl .no es] (.sl .no es) := by
  cases es with
  | nil =>
    refine PCall.runS hb hf (by simp [cloneF]) (fun v hv => by rw [List.mem_singleton.1 hv]; exact hp) hp ?_
    refine RunS.seq (RunS.reg ?_)
    simp -implicitDefEqProofs
    refine RunS.seq (RunS.seq (RunS.reg ?_))
    simp -implicitDefEqProofs
    refine RunS.condU .ret (fun t => if t = 2 then .sl .full [] else .undef) H.nil (by simp) ?_ ?_ (by simp [cloneF])
    · simp -implicitDefEqProofs
      intro t
      by_cases ht : t = 2
      · simp [ht]
      · simp [ht]
    · simp -implicitDefEqProofs
      refine ⟨_, _, .same .full [] _ (by simp [srcA]), ?_⟩
      simp -implicitDefEqProofs
      intro t
      by_cases ht : t = 2
      · simp [ht]
      · simp [ht]
  | cons e es =>
    refine PCall.run hb hf (by simp [cloneF]) (fun v hv => by rw [List.mem_singleton.1 hv]; exact hp) hp ?_
    simp -implicitDefEqProofs [cloneF]
    refine appQ_tok (t := .full) (es := []) (es2 := e :: es) trivial (fun e he => by cases he) ?_ (by simpa using hl) fun t' h' q1 q2 q3 q4 => ?_
    · simp only [srcA]
      rw [if_pos he]
    · simp -implicitDefEqProofs
      simpa using hw

/-- A pure function, whatever the ghost does at its end. -/
theorem PCall.run' {f : FuncId} {F : FnA} {args : List AV} {r : AV} (hb : HasBody P f) (hf : cFn P f = some F) (hargs : args.length ≤ F.N) (hp : ∀ v ∈ args, PureV v) (hpr : PureV r)
    (hr : Run P false [.c F.body] (retQ F.res fun r' h1 => ∃ h', Gh h1 r' h' r) (slots0 args) H.nil) : PCall P f args r := by
  obtain ⟨ex, s1, h1, hk, hq⟩ := hr.sem
  obtain ⟨q1, vs, q2, h', q3⟩ := retQ_inv hq
  exact fun h => SCall.pure (SCall.body hb hf hargs hk q1 q2 q3) hp hpr h

end
end Go.Am
