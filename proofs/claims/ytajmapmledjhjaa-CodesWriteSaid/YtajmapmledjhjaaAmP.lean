/- Running code: the abstract machine's run of a frame, and that the machine's frame goes the same way. -/
import Derived.Test.YtajmapmledjhjaaAmO
namespace Go.Am
open Go Go.RowKit

inductive Res where
  | norm
  | ret
  | exit (id : Nat)

inductive It where
  | c (i : IR)
  | blk (id : Nat)
  | lp (b : IR)
  | beg (l : Nat)

def exitA (id : Nat) : List It → Option (List It)
  | .blk id' :: k => if id' == id then some k else exitA id k
  | _ :: k => exitA id k
  | [] => none

def pendK : Option IR → List It
  | none => []
  | some c => [.c c]

/-- The instructions at these places. -/
def pick (is : List Ins) : List Nat → Option (List Ins)
  | [] => some []
  | i :: l => (is[i]?).bind fun x => (pick is l).map fun xs => x :: xs

inductive KRun (P : Program) (inr : Bool) : List It → Slots → H → Res → Slots → H → Prop where
  | done (s : Slots) (h : H) : KRun P inr [] s h .norm s h
  | skip {k : List It} {s : Slots} {h : H} {r : Res} {s' : Slots} {h' : H} : KRun P inr k s h r s' h' → KRun P inr (.c .skip :: k) s h r s' h'
  | seq {a b : IR} {k : List It} {s : Slots} {h : H} {r : Res} {s' : Slots} {h' : H} : KRun P inr (.c a :: .c b :: k) s h r s' h' → KRun P inr (.c (.seq a b) :: k) s h r s' h'
  | cond {c : Opd} {x y : IR} {t : Bool} {k : List It} {s : Slots} {h : H} {r : Res} {s' : Slots} {h' : H} : ev s c = .bool t → KRun P inr (.c (if t then x else y) :: k) s h r s' h' → KRun P inr (.c (.cond c x y) :: k) s h r s' h'
  | condU {c : Opd} {x y : IR} {k : List It} {s : Slots} {h : H} {r : Res} {s1 s2 s' : Slots} {h' : H} : ev s c = .ubool → KRun P inr (.c x :: k) s h r s1 h' → KRun P inr (.c y :: k) s h r s2 h' → (∀ t, s' t = s1 t ∨ s' t = .undef) → (∀ t, s' t = s2 t ∨ s' t = .undef) → KRun P inr (.c (.cond c x y) :: k) s h r s' h'
  | blk {id : Nat} {b : IR} {k : List It} {s : Slots} {h : H} {r : Res} {s' : Slots} {h' : H} : KRun P inr (.c b :: .blk id :: k) s h r s' h' → KRun P inr (.c (.blk id b) :: k) s h r s' h'
  | blkEnd {id : Nat} {k : List It} {s : Slots} {h : H} {r : Res} {s' : Slots} {h' : H} : KRun P inr k s h r s' h' → KRun P inr (.blk id :: k) s h r s' h'
  | loop {b : IR} {k : List It} {s : Slots} {h : H} {r : Res} {s' : Slots} {h' : H} : KRun P inr (.c b :: .lp b :: k) s h r s' h' → KRun P inr (.c (.loop b) :: k) s h r s' h'
  | lp {b : IR} {k : List It} {s : Slots} {h : H} {r : Res} {s' : Slots} {h' : H} : KRun P inr (.c b :: .lp b :: k) s h r s' h' → KRun P inr (.lp b :: k) s h r s' h'
  | exit {id : Nat} {k k' : List It} {s : Slots} {h : H} {r : Res} {s' : Slots} {h' : H} : exitA id k = some k' → KRun P inr k' s h r s' h' → KRun P inr (.c (.exit id) :: k) s h r s' h'
  | exitOut {id : Nat} {k : List It} {s : Slots} {h : H} : exitA id k = none → KRun P inr (.c (.exit id) :: k) s h (.exit id) s h
  | ret {k : List It} {s : Slots} {h : H} : KRun P inr (.c .ret :: k) s h .ret s h
  | reg {is : List Ins} {k : List It} {s s1 : Slots} {h h1 : H} {r : Res} {s' : Slots} {h' : H} : OpsR P is s h s1 h1 → KRun P inr k s1 h1 r s' h' → KRun P inr (.c (.reg is) :: k) s h r s' h'
  | dreg {is : List Ins} {aft : List (List Nat)} {k : List It} {s s1 : Slots} {h h1 : H} {r : Res} {s' : Slots} {h' : H} : (∀ t, Topo aft is.length t → ∀ xs, pick is t = some xs → OpsR P xs s h s1 h1) → KRun P inr k s1 h1 r s' h' → KRun P inr (.c (.dreg is aft) :: k) s h r s' h'
  | beg {l : Nat} {q : LoopA} {k : List It} {s : Slots} {h : H} {r : Res} {s' : Slots} {h' : H} : l < h.ln → h.lp l = some q → q.st = .ready → KRun P inr k s (h.setLoop l (some { q with st := .busy })) r s' h' → KRun P inr (.beg l :: k) s h r s' h'
  | rngf {f : Opd} {ps : List Nat} {x y : IR} {k : List It} {s : Slots} {h : H} {F : FuncId} {first caps : List AV} {v : AV} {h2 : H} {q : LoopA} {r : Res} {s' : Slots} {h' : H} :
      inr = false → ev s f = .fn F first caps → SCall P F (first ++ [.yld h.ln] ++ caps) (h.newLoop ⟨s, ps, x, y, .ready, none⟩) v h2 → h.ln < h2.ln → h2.lp h.ln = some q → q.st ≠ .busy →
      KRun P inr (pendK q.pend ++ k) s (h2.setLoop h.ln none) r s' h' → KRun P inr (.c (.rngf f ps x y) :: k) s h r s' h'

section
variable {P : Program} {base : Nat} {W : Nat → Prop}

/-- What is to be done, here and there. -/
def KRel (P : Program) (N : Nat) (g : G) (b : Frame) : List It → List Item → Prop
  | [], [] => True
  | .c i :: k, .code c :: t => cCode P N c = some i ∧ KRel P N g b k t
  | .blk id :: k, .inBlock id' :: t => id = id' ∧ KRel P N g b k t
  | .lp i :: k, .inLoop c :: t => cCode P N c = some i ∧ KRel P N g b k t
  | .beg l :: k, .beginRound :: t => l < g.ln ∧ b.roundOf = some (g.lp l) ∧ KRel P N g b k t
  | _, _ => False

theorem KRel.mono {N : Nat} {g g' : G} {b : Frame} {w w' : World} (e : GExt w g w' g') : ∀ {k : List It} {t : List Item}, KRel P N g b k t → KRel P N g' b k t
  | [], [], _ => trivial
  | .c _ :: _, .code _ :: _, h => ⟨h.1, KRel.mono e h.2⟩
  | .blk _ :: _, .inBlock _ :: _, h => ⟨h.1, KRel.mono e h.2⟩
  | .lp _ :: _, .inLoop _ :: _, h => ⟨h.1, KRel.mono e h.2⟩
  | .beg l :: _, .beginRound :: _, h => ⟨Nat.lt_of_lt_of_le h.1 e.ln, by rw [e.lp l h.1]; exact h.2.1, KRel.mono e h.2.2⟩

theorem KRel.exit {N : Nat} {g : G} {b : Frame} {id : Nat} : ∀ {k : List It} {t : List Item}, KRel P N g b k t → (∀ k', exitA id k = some k' → ∃ t', exitTo id t = some t' ∧ KRel P N g b k' t') ∧ (exitA id k = none → exitTo id t = none)
  | [], [], _ => ⟨fun k' h => by simp [exitA] at h, fun _ => rfl⟩
  | .c _ :: _, .code _ :: _, h => by simp only [exitA, exitTo]; exact KRel.exit h.2
  | .lp _ :: _, .inLoop _ :: _, h => by simp only [exitA, exitTo]; exact KRel.exit h.2
  | .beg _ :: _, .beginRound :: _, h => by simp only [exitA, exitTo]; exact KRel.exit h.2.2
  | .blk id1 :: k, .inBlock id2 :: t, h => by
    obtain ⟨rfl, h2⟩ := h
    simp only [exitA, exitTo]
    by_cases hid : (id1 == id) = true
    · simp only [hid, if_true]
      exact ⟨fun k' hk => by cases hk; exact ⟨t, rfl, h2⟩, fun hk => by cases hk⟩
    · simp only [hid]
      exact KRel.exit h2

/-- The marks of loops over functions, among a frame's deferred calls. -/
def markOf (r : Nat) : Deferred := { target := .collected r, args := #[] }
def MarksOK (n : Nat) (w : World) (rs : List Nat) : Prop := rs.Nodup ∧ ∀ r ∈ rs, n ≤ r ∧ w.heap[r]? = some (.deferred (some []))

theorem MarksOK.ext {n : Nat} {w w' : World} {g g' : G} {rs : List Nat} (h : MarksOK n w rs) (e : Ext base W w g w' g') : MarksOK n w' rs :=
  ⟨h.1, fun r hr => ⟨(h.2 r hr).1, e.obj r _ (h.2 r hr).2⟩⟩

def EndOK (r : Res) (todo : List Item) : Prop :=
  match r with
  | .norm => todo = []
  | .ret => ∃ k, todo = .code .ret :: k
  | .exit id => ∃ k, todo = .code (.exit id) :: k ∧ exitTo id k = none

/-- Where a run of a frame comes to. -/
def Came (P : Program) (base : Nat) (W : Nat → Prop) (N : Nat) (b : Frame) (cs : List Frame) (m : Machine) (a : Act) (w : World) (g : G) (r : Res) (s' : Slots) (h' : H) : Prop :=
  ∃ a' w' g' todo' rs, Steps P m (lone (b.atR a' todo') cs w') ∧ EndOK r todo' ∧ RepS w' g' s' a'.tmps ∧ a'.tmps.size = N ∧ a'.defers = rs.map markOf ++ a.defers ∧ MarksOK w.heap.size w' rs ∧ (b.roundOf ≠ none → rs = []) ∧ Sim P base W w' g' h' ∧ Ext base W w g w' g'

theorem Came.of {N : Nat} {b : Frame} {cs : List Frame} {m m1 : Machine} {a a1 : Act} {w w1 : World} {g g1 : G} {r : Res} {s' : Slots} {h' : H} (hst : Steps P m m1) (hd : a1.defers = a.defers) (e : Ext base W w g w1 g1)
    (h : Came P base W N b cs m1 a1 w1 g1 r s' h') : Came P base W N b cs m a w g r s' h' := by
  obtain ⟨a', w', g', todo', rs, q1, q2, q3, q4, q5, q6, q7, q8, q9⟩ := h
  exact ⟨a', w', g', todo', rs, hst.trans q1, q2, q3, q4, by rw [q5, hd], ⟨q6.1, fun r hr => ⟨Nat.le_trans e.size (q6.2 r hr).1, (q6.2 r hr).2⟩⟩, q7, q8, e.trans q9⟩

theorem pick_at {N : Nat} {ops : Array Oper} {is : List Ins} (h : cInsL P N ops ops.toList = some is) : ∀ (t : List Nat), (∀ i ∈ t, i < ops.size) → ∃ xs, pick is t = some xs ∧ InsAt P N ops t xs
  | [], _ => ⟨[], rfl, trivial⟩
  | i :: t, hlt => by
    obtain ⟨xs, h1, h2⟩ := pick_at h t (fun j hj => hlt j (List.mem_cons_of_mem _ hj))
    have key : ∀ (os : List Oper) (is : List Ins), cInsL P N ops os = some is → ∀ (i : Nat) (o : Oper), os[i]? = some o → ∃ x, is[i]? = some x ∧ cIns P N ops o = some x := by
      intro os
      induction os with
      | nil => intro is _ i o ho; simp at ho
      | cons o os ih =>
        intro is h i o' ho
        simp only [cInsL, Option.bind_eq_some_iff, Option.map_eq_some_iff] at h
        obtain ⟨x, hx, is', his, rfl⟩ := h
        cases i with
        | zero => simp at ho; subst ho; exact ⟨x, rfl, hx⟩
        | succ i => simpa using ih is' his i o' (by simpa using ho)
    have hi := hlt i (List.mem_cons_self ..)
    obtain ⟨x, hx1, hx2⟩ := key ops.toList is h i ops[i] (by simp [hi])
    exact ⟨x :: xs, by simp [pick, hx1, h1], ⟨ops[i], Array.getElem?_eq_getElem hi, hx2⟩, h2⟩

theorem cInsL_len {N : Nat} {ops : Array Oper} : ∀ (os : List Oper) (is : List Ins), cInsL P N ops os = some is → is.length = os.length
  | [], is, h => by simp only [cInsL, Option.some.injEq] at h; subst h; rfl
  | o :: os, is, h => by
    simp only [cInsL, Option.bind_eq_some_iff, Option.map_eq_some_iff] at h
    obtain ⟨x, _, is', his, rfl⟩ := h
    simp [cInsL_len os is' his]

/-- What code a piece of the machine's code was. -/
theorem cCode_inv {N : Nat} {c : Code} {i : IR} (h : cCode P N c = some i) :
    match i with
    | .skip => c = .skip ∨ ∃ l, c = .label l
    | .reg is => ∃ id ops, c = .region id ops false ∧ cInsL P N ops ops.toList = some is
    | .dreg is aft => ∃ id ops, c = .region id ops true ∧ cInsL P N ops ops.toList = some is ∧ aft = aftOf ops ∧ drawOk ops = true
    | .seq a b => ∃ x y, c = .seq x y ∧ cCode P N x = some a ∧ cCode P N y = some b
    | .cond t a b => ∃ q x y, c = .cond q x y ∧ cOpd N q = some t ∧ cCode P N x = some a ∧ cCode P N y = some b
    | .blk id b => ∃ x, c = .block id x ∧ cCode P N x = some b
    | .loop b => ∃ x, c = .loop x ∧ cCode P N x = some b
    | .rngf f ps a b => ∃ q qs x y, c = .rangeFunc q qs x y ∧ cOpd N q = some f ∧ ps = qs.toList ∧ (∀ p ∈ ps, p < N) ∧ cCode P N x = some a ∧ cCode P N y = some b
    | .exit id => c = .exit id
    | .ret => c = .ret := by
  cases c with
  | skip => simp only [cCode, Option.some.injEq] at h; subst h; exact .inl rfl
  | label l => simp only [cCode, Option.some.injEq] at h; subst h; exact .inr ⟨l, rfl⟩
  | region id ops d =>
    simp only [cCode, Option.bind_eq_some_iff] at h
    obtain ⟨is, his, h⟩ := h
    cases d with
    | true =>
      simp only [if_true] at h
      split at h
      · rename_i hok
        cases h
        exact ⟨id, ops, rfl, his, rfl, hok⟩
      · cases h
    | false =>
      simp only [Bool.false_eq_true, if_false, Option.some.injEq] at h
      subst h
      exact ⟨id, ops, rfl, his⟩
  | seq a b =>
    simp only [cCode, Option.bind_eq_some_iff, Option.map_eq_some_iff] at h
    obtain ⟨x, hx, y, hy, rfl⟩ := h
    exact ⟨a, b, rfl, hx, hy⟩
  | cond q a b =>
    simp only [cCode, Option.bind_eq_some_iff, Option.map_eq_some_iff] at h
    obtain ⟨t, ht, x, hx, y, hy, rfl⟩ := h
    exact ⟨q, a, b, rfl, ht, hx, hy⟩
  | block id b =>
    simp only [cCode, Option.map_eq_some_iff] at h
    obtain ⟨x, hx, rfl⟩ := h
    exact ⟨b, rfl, hx⟩
  | loop b =>
    simp only [cCode, Option.map_eq_some_iff] at h
    obtain ⟨x, hx, rfl⟩ := h
    exact ⟨b, rfl, hx⟩
  | rangeFunc f ps a b =>
    simp only [cCode, Option.bind_eq_some_iff] at h
    obtain ⟨t, ht, x, hx, y, hy, h⟩ := h
    split at h
    · rename_i hps
      cases h
      refine ⟨f, ps, a, b, rfl, ht, rfl, fun p hp => ?_, hx, hy⟩
      have := Array.all_eq_true_iff_forall_mem.1 hps p (Array.mem_toList_iff.1 hp)
      exact of_decide_eq_true this
    · cases h
  | exit id => simp only [cCode, Option.some.injEq] at h; subst h; rfl
  | scope b => simp [cCode] at h
  | goto l => simp [cCode] at h
  | ret => simp only [cCode, Option.some.injEq] at h; subst h; rfl
  | refuse w => simp [cCode] at h

end
end Go.Am
