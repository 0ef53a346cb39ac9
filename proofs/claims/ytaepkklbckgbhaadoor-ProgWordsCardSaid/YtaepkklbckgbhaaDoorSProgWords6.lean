/- What the functions that the statement reaches do: their contracts; and what follows of it. -/
import Derived.Test.YtaepkklbckgbhaaDoorSProgWords5
import Derived.Test.YtaepkklbckgbhaaDoorSProgWords4
import Derived.Test.YtaepkklbckgbhaaDoorK4
/- The statements CodesRead and CodesBack: what their functions hand back. -/
namespace Go.Proofs
open Go Go.RowKit Go.Am

/-- An item is read like another one: is it the same? -/
def readS (x : Item) (s : RS) : Bool × RS :=
  if x.kind = 0 then (decide ((runS (rdCount x.most) 0 s).1 = x.n), (runS (rdCount x.most) 0 s).2)
  else if x.kind = 1 then (decide ((runS rdSigned 0 s).1 = x.x), (runS rdSigned 0 s).2)
  else if x.kind = 2 then (decide ((runS rdFlag false s).1 = decide (x.n = 1)), (runS rdFlag false s).2)
  else if x.kind = 3 then (decide ((runS rdText ⟨#[]⟩ s).1 = x.s), (runS rdText ⟨#[]⟩ s).2)
  else (decide ((runS (rdWords x.most) [] s).1 = x.l), (runS (rdWords x.most) [] s).2)

structure RdX (f : FuncId) (args : List AV) (h : H) (b : Nat) (r : AV) (s' : RS) : Prop where
  call : SCall Tryd.prog f args h r (h.set b (encRS s'))
  to : RTo h b (h.set b (encRS s')) s'
theorem RdX.mk' {f : FuncId} {args : List AV} {h : H} {b : Nat} {s s' : RS} {r : AV} (hr : RIs h b s) (hb : Bd s') (hv : PureV r) (hc : CallP Tryd.prog f args h fun r1 h1 => wk r1 = r ∧ RFin h b h1 s') : RdX f args h b r s' :=
  ⟨SCall.upd hr.blt (hc.mono fun r1 h1 ⟨q1, q2, q3⟩ => ⟨q1, q2, q3⟩) hv (pure_encRS _), RTo.set hr hb⟩

theorem readS_bd (x : Item) {s : RS} (hs : Bd s) : Bd (readS x s).2 := by
  unfold readS
  split
  · exact (rdCount_ok _).bd _ hs
  split
  · exact rdSigned_ok.bd _ hs
  split
  · exact rdFlag_ok.bd _ hs
  split
  · exact rdText_ok.bd _ hs
  · exact (rdWords_ok _).bd _ hs

theorem rdWords_len {most : Int} {s : RS} (hs : Bd s) : (runS (rdWords most) [] s).1.length ≤ 1000000 := by
  cases s with
  | none => simp [runS]
  | some l =>
    have hl := (hs l rfl).1
    cases l with
    | nil => simp [runS, rdWords, rdCount]
    | cons w l =>
      simp only [runS, Option.bind_some, rdWords, rdCount, rdTake]
      split
      · simp only [Option.bind_some]
        split
        · simp only [Option.elim]; simp at hl ⊢; omega
        · simp
      · simp

end Go.Proofs

/- The statement CodesRead: what its function hands back. -/
namespace Go.Proofs
open Go Go.RowKit Go.Am

theorem RIs.setO {h : H} {b b' : Nat} {s : RS} {cs : List AV} (a : RIs h b s) (hn : ¬ b' = b) : RIs (h.set b' cs) b s :=
  ⟨by simpa using a.blt, by have : ¬ b = b' := fun e => hn e.symm
                            simpa [this] using a.bx, a.bd⟩

def item0 (kind most : Int) : Item := ⟨kind, 0, most, 0, ⟨#[]⟩, []⟩

theorem readS_none (kind most : Int) : readS (item0 kind most) none = (true, none) := by
  unfold readS item0
  simp only [runS, Option.bind_none, Option.elim]
  split
  · rfl
  split
  · rfl
  split
  · rfl
  split
  · rfl
  · rfl

theorem readS_bad {kind most : Int} {l : List Nat} (h : refRead kind most l = none) : readS (item0 kind most) (some l) = (true, none) := by
  unfold refRead at h
  unfold readS item0
  by_cases k1 : kind = 1
  · rw [if_pos k1, Option.map_eq_none_iff] at h
    simp [k1, runS, h]
  rw [if_neg k1] at h
  by_cases k0 : kind = 0
  · rw [if_pos k0, Option.map_eq_none_iff] at h
    simp [k0, runS, h]
  rw [if_neg k0] at h
  by_cases k2 : kind = 2
  · rw [if_pos k2, Option.map_eq_none_iff] at h
    simp [k2, runS, rdFlag, h]
  rw [if_neg k2] at h
  by_cases k3 : kind = 3
  · rw [if_pos k3, Option.map_eq_none_iff] at h
    have := rdText_W l
    rw [h] at this
    simp [k3, runS, this]
  · rw [if_neg k3, Option.map_eq_none_iff] at h
    simp [k0, k1, k2, k3, runS, h]

theorem readS_good {kind most : Int} {l left : List Nat} {y : Item} (h : refRead kind most l = some (y, left)) : readS y (some l) = (true, some left) ∧ y.kind = kind ∧ y.most = most := by
  unfold refRead at h
  unfold readS
  by_cases k1 : kind = 1
  · rw [if_pos k1, Option.map_eq_some_iff] at h
    obtain ⟨p, h1, h2⟩ := h
    cases h2
    simp [k1, runS, h1]
  rw [if_neg k1] at h
  by_cases k0 : kind = 0
  · rw [if_pos k0, Option.map_eq_some_iff] at h
    obtain ⟨p, h1, h2⟩ := h
    cases h2
    simp [k0, runS, h1]
  rw [if_neg k0] at h
  by_cases k2 : kind = 2
  · rw [if_pos k2, Option.map_eq_some_iff] at h
    obtain ⟨p, h1, h2⟩ := h
    cases h2
    simp [k2, runS, rdFlag, h1]
  rw [if_neg k2] at h
  by_cases k3 : kind = 3
  · rw [if_pos k3, Option.map_eq_some_iff] at h
    obtain ⟨p, h1, h2⟩ := h
    cases h2
    have := rdText_W l
    rw [h1] at this
    simp [k3, runS, this]
  · rw [if_neg k3, Option.map_eq_some_iff] at h
    obtain ⟨p, h1, h2⟩ := h
    cases h2
    simp [k0, k1, k2, k3, runS, h1]

theorem refRead_bd {kind most : Int} {l left : List Nat} {y : Item} (hl : Bd (some l)) (h : refRead kind most l = some (y, left)) : Bd (some left) ∧ y.l.length ≤ 1000000 := by
  have hg := (readS_good h).1
  have hb := readS_bd y hl
  rw [hg] at hb
  refine ⟨hb, ?_⟩
  have hlen := (hl l rfl).1
  unfold refRead at h
  split at h
  · rw [Option.map_eq_some_iff] at h; obtain ⟨p, _, h2⟩ := h; cases h2; simp
  split at h
  · rw [Option.map_eq_some_iff] at h; obtain ⟨p, _, h2⟩ := h; cases h2; simp
  split at h
  · rw [Option.map_eq_some_iff] at h; obtain ⟨p, _, h2⟩ := h; cases h2; simp
  split at h
  · rw [Option.map_eq_some_iff] at h
    obtain ⟨p, h1, h2⟩ := h
    cases h2
    simp only [rdTextW, Rd.bind, Option.bind_eq_some_iff] at h1
    obtain ⟨a, ha, c, hc, h1⟩ := h1
    simp only [rdTake] at hc
    split at hc
    · cases hc
      have h3 := (rdCount_ok 64 l a.1 a.2 ha).1
      split at h1
      · cases h1; simp; omega
      · cases h1
    · cases hc
  · rw [Option.map_eq_some_iff] at h
    obtain ⟨p, h1, h2⟩ := h
    cases h2
    have := rdWords_len (most := most) hl
    simp [runS, h1] at this
    exact this

theorem callQ_rdx {f : FuncId} {first caps args as' : List AV} {h : H} {b : Nat} {s s' : RS} {r : AV} {K : AV → H → Prop} (hr : RIs h b s) (hc : RIs h b s → RdX f as' h b r s') (ha : (first ++ args ++ caps).map wk = as')
    (hk : RTo h b (h.set b (encRS s')) s' → K r (h.set b (encRS s'))) : callQ Tryd.prog (.fn f first caps) args h K := callQ_s (hc hr).call ha (hk (hc hr).to)
end Go.Proofs

/- Arguments of a law: from their readings to values. -/
namespace Go.Proofs
open Go Go.RowKit Go.Am

theorem sh_one {s : Sh} {a : AV} (h : s.is a) : isL [s] [a] := by
  simp only [isL]
  exact ⟨a, [], rfl, h, rfl⟩
theorem sl_is {α : Type} {f : α → List AV} {sh : List Sh} {wf : α → Prop} (hf : ∀ vs, isL sh vs → ∃ x, vs = f x ∧ wf x) {v : AV} (h : (Sh.sl sh).is v) : ∃ l : List α, v = .sl .no (l.map f) ∧ l.length ≤ maxLen ∧ ∀ x ∈ l, wf x := by
  obtain ⟨l, e, h1, h2⟩ := isL_sl hf (sh_one h)
  simp at e
  exact ⟨l, e, h1, h2⟩
def shItem : List Sh := [.int .i64] ++ [.int .i64] ++ [.int .i64] ++ [.int .i64] ++ [.str] ++ [.sl [.int .u64]]
def Item.wf (x : Item) : Prop := inI x.kind ∧ inI x.n ∧ inI x.most ∧ inI x.x ∧ x.s.size ≤ maxLen ∧ x.l.length ≤ maxLen ∧ ∀ w ∈ x.l, w < 18446744073709551616
theorem isL_encItem {vs : List AV} (h : isL shItem vs) : ∃ x : Item, vs = encItm x ∧ x.wf := by
  unfold shItem at h
  obtain ⟨vs, v5, rfl, h, h5⟩ := isL_app h
  obtain ⟨vs, v4, rfl, h, h4⟩ := isL_app h
  obtain ⟨vs, v3, rfl, h, h3⟩ := isL_app h
  obtain ⟨vs, v2, rfl, h, h2⟩ := isL_app h
  obtain ⟨vs, v1, rfl, h, h1⟩ := isL_app h
  obtain ⟨u0, rfl, w0⟩ := isL_encN h
  obtain ⟨u1, rfl, w1⟩ := isL_encN h1
  obtain ⟨u2, rfl, w2⟩ := isL_encN h2
  obtain ⟨u3, rfl, w3⟩ := isL_encN h3
  obtain ⟨_, rfl, u4, rfl, w4⟩ := isL_one h4
  obtain ⟨u5, rfl, w5⟩ := isL_sl (fun vs h => isL_w64 h) h5
  refine ⟨⟨u0, u1, u2, u3, u4, u5⟩, ?_, w0, w1, w2, w3, w4, w5⟩
  simp [encItm, encN]

section
variable {H : Type} {enc : TypeId × Value → H} {P : Program} {w : World} {spare : Nat → Bool} {held : Bool}
/-- An argument of several cells. -/
theorem ent_agg {t : TypeId} {C : Array Value} {x : DataW H} {ps : List MemPlace} {d : Nat} {sh : List Sh} (h : DataW.Trod enc P w 0 spare held t (.agg C) x ps) (hc : shT P d t = some sh) : ∃ vs, isL sh vs ∧ Rep w (G.bare (roW w)) (.agg vs) (.agg C) := by
  obtain ⟨fuel, h⟩ := h
  obtain ⟨vs, h1, h2⟩ := ent fuel d t _ _ _ h hc
  refine ⟨vs, h1, Rep.ofAgg (RepC.mk (by simpa [Value.cells] using h2.1) fun k v hk => ?_)⟩
  obtain ⟨V, q1, q2, q3⟩ := h2.2 k v hk
  exact ⟨V, by simpa [Value.cells] using q1, q2, q3⟩
inductive RepV (w : World) (g : G) : List AV → List Value → Prop where
  | nil : RepV w g [] []
  | cons {a : AV} {v : Value} {l : List AV} {vs : List Value} : Rep w g a v → RepV w g l vs → RepV w g (a :: l) (v :: vs)
theorem RepV.get {w : World} {g : G} {l : List AV} {vs : List Value} (h : RepV w g l vs) : ∃ hl : l.length = vs.length, ∀ k (hk : k < l.length), Rep w g l[k] (vs[k]'(by omega)) := by
  induction h with
  | nil => exact ⟨rfl, fun k hk => by simp at hk⟩
  | cons hv _ ih =>
    obtain ⟨hl, ih⟩ := ih
    refine ⟨by simp [hl], fun k hk => ?_⟩
    cases k with
    | zero => exact hv
    | succ k => exact ih k (by simpa using hk)
theorem RepV.toA {w : World} {g : G} {l : List AV} {vs : List Value} (h : RepV w g l vs) : RepA w g l vs.toArray := by
  obtain ⟨hl, h⟩ := h.get
  exact ⟨by simpa using hl, fun k hk => by simpa using h k hk⟩
end
end Go.Proofs

/- Which programs, footprints, classes and catalogues there may be: the document's answer. -/
namespace Go.Proofs
open Go Go.RowKit Go.Am

def mayKey (k : KeyT) (args : Int) : Bool := decide (-1 ≤ k.arg) && decide (k.arg < args) && decide (0 ≤ k.base) && decide (k.base ≤ 900)

theorem pureKey (k : KeyT) : PureV (.agg (encKeyT k)) := .agg (pure_encKeyT k)

theorem refMayKey_ok (k : KeyT) (args : Int) : PCall Tryd.prog 18 [.agg (encKeyT k), .int .i64 args] (.bool (mayKey k args)) := by
  refine PCall.run hb18 ok18 (by simp) (pures_cons (pureKey k) (pures1 (.int _ _))) (.bool _) ?_
  simp (maxSteps := 2000000) +contextual -implicitDefEqProofs [↓gdL_T, -Int.not_lt, -Int.not_le, -Nat.not_lt, -Nat.not_le, encKeyT, mayKey]

def isReg (n : Int) : Bool := !decide (n < 0) && !decide (3 < n)
def keyNone (k : KeyT) : Bool := decide (k.arg = 0 ∧ k.base = 0)
/-- May an instruction be? -/
def oneInst (x : Inst) (args : Int) : Bool :=
  if x.op = 1 ∨ x.op = 2 then isReg x.a && decide (x.x = 0) && decide (x.b = 0) && decide (x.c = 0) && keyNone x.l && mayKey x.k args
  else if x.op = 3 then decide (x.a = 0) && decide (x.x = 0) && decide (x.b = 0) && decide (x.c = 0) && keyNone x.l && mayKey x.k args
  else if x.op = 4 then isReg x.a && decide (x.x = 0) && decide (x.b = 0) && decide (x.c = 0) && mayKey x.k args && mayKey x.l args
  else if x.op = 5 ∨ x.op = 8 then isReg x.a && decide (x.b = 0) && decide (x.c = 0) && keyNone x.k && keyNone x.l
  else if x.op = 6 ∨ x.op = 7 then isReg x.a && decide (x.x = 0) && isReg x.b && isReg x.c && keyNone x.k && keyNone x.l
  else false

theorem pureInst (x : Inst) : PureV (.agg (encInst x)) := .agg (pure_encInst x)

end Go.Proofs
