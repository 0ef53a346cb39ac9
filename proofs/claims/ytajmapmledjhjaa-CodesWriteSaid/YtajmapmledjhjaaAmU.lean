/- Running a frame's code forward; contracts of functions out of such runs. -/
import Derived.Test.YtajmapmledjhjaaAmT
namespace Go.Am
open Go Go.RowKit

def RunS (P : Program) (inr : Bool) (k : List It) (Q : Res → Slots → H → Prop) (s : Slots) (h : H) : Prop := ∃ r s' h', KRun P inr k s h r s' h' ∧ Q r s' h'

/-- The run, forward. -/
inductive Run (P : Program) (inr : Bool) : List It → (Res → Slots → H → Prop) → Slots → H → Prop where
  | nil {Q : Res → Slots → H → Prop} {s : Slots} {h : H} : Q .norm s h → Run P inr [] Q s h
  | skip {k : List It} {Q : Res → Slots → H → Prop} {s : Slots} {h : H} : Run P inr k Q s h → Run P inr (.c .skip :: k) Q s h
  | seq {a b : IR} {k : List It} {Q : Res → Slots → H → Prop} {s : Slots} {h : H} : Run P inr (.c a :: .c b :: k) Q s h → Run P inr (.c (.seq a b) :: k) Q s h
  | cond {c : Opd} {x y : IR} {t : Bool} {k : List It} {Q : Res → Slots → H → Prop} {s : Slots} {h : H} : ev s c = .bool t → Run P inr (.c (if t then x else y) :: k) Q s h → Run P inr (.c (.cond c x y) :: k) Q s h
  | blk {id : Nat} {b : IR} {k : List It} {Q : Res → Slots → H → Prop} {s : Slots} {h : H} : Run P inr (.c b :: .blk id :: k) Q s h → Run P inr (.c (.blk id b) :: k) Q s h
  | blkEnd {id : Nat} {k : List It} {Q : Res → Slots → H → Prop} {s : Slots} {h : H} : Run P inr k Q s h → Run P inr (.blk id :: k) Q s h
  | loop {b : IR} {k : List It} {Q : Res → Slots → H → Prop} {s : Slots} {h : H} : Run P inr (.c b :: .lp b :: k) Q s h → Run P inr (.c (.loop b) :: k) Q s h
  | lp {b : IR} {k : List It} {Q : Res → Slots → H → Prop} {s : Slots} {h : H} : Run P inr (.c b :: .lp b :: k) Q s h → Run P inr (.lp b :: k) Q s h
  | exit {id : Nat} {k k' : List It} {Q : Res → Slots → H → Prop} {s : Slots} {h : H} : exitA id k = some k' → Run P inr k' Q s h → Run P inr (.c (.exit id) :: k) Q s h
  | exitOut {id : Nat} {k : List It} {Q : Res → Slots → H → Prop} {s : Slots} {h : H} : exitA id k = none → Q (.exit id) s h → Run P inr (.c (.exit id) :: k) Q s h
  | ret {k : List It} {Q : Res → Slots → H → Prop} {s : Slots} {h : H} : Q .ret s h → Run P inr (.c .ret :: k) Q s h
  | reg {is : List Ins} {k : List It} {Q : Res → Slots → H → Prop} {s : Slots} {h : H} (R : Slots → H → Prop) : RO P is s h R → (∀ s1 h1, R s1 h1 → Run P inr k Q s1 h1) → Run P inr (.c (.reg is) :: k) Q s h
  | dreg {is : List Ins} {aft : List (List Nat)} {k : List It} {Q : Res → Slots → H → Prop} {s : Slots} {h : H} (ms : List Mark) (R : Slots → H → Prop) : drawFine is aft ms = true → RD P is ms s h [] [] R → (∀ s1 h1, R s1 h1 → Run P inr k Q s1 h1) → Run P inr (.c (.dreg is aft) :: k) Q s h
  | beg {l : Nat} {q : LoopA} {k : List It} {Q : Res → Slots → H → Prop} {s : Slots} {h : H} : l < h.ln → h.lp l = some q → q.st = .ready → Run P inr k Q s (h.setLoop l (some { q with st := .busy })) → Run P inr (.beg l :: k) Q s h
  | rngf {f : Opd} {ps : List Nat} {x y : IR} {k : List It} {Q : Res → Slots → H → Prop} {s : Slots} {h : H} {F : FuncId} {first caps : List AV} {v : AV} {h2 : H} {q : LoopA} :
      inr = false → ev s f = .fn F first caps → SCall P F (first ++ [.yld h.ln] ++ caps) (h.newLoop ⟨s, ps, x, y, .ready, none⟩) v h2 → h.ln < h2.ln → h2.lp h.ln = some q → q.st ≠ .busy →
      Run P inr (pendK q.pend ++ k) Q s (h2.setLoop h.ln none) → Run P inr (.c (.rngf f ps x y) :: k) Q s h

/-- For the congruences: a hypothesis that is always simplified, so that what is to come is never looked into. -/
def tick : Nat := 0
@[simp] theorem tick_eq : tick = 0 := rfl

section
variable {P : Program} {inr : Bool} {k : List It} {Q : Res → Slots → H → Prop} {s : Slots} {h : H}

theorem Run.sem (hr : Run P inr k Q s h) : RunS P inr k Q s h := by
  induction hr with
  | nil hq => exact ⟨_, _, _, .done _ _, hq⟩
  | skip _ ih => obtain ⟨_, _, _, hk, hq⟩ := ih; exact ⟨_, _, _, .skip hk, hq⟩
  | seq _ ih => obtain ⟨_, _, _, hk, hq⟩ := ih; exact ⟨_, _, _, .seq hk, hq⟩
  | cond he _ ih => obtain ⟨_, _, _, hk, hq⟩ := ih; exact ⟨_, _, _, .cond he hk, hq⟩
  | blk _ ih => obtain ⟨_, _, _, hk, hq⟩ := ih; exact ⟨_, _, _, .blk hk, hq⟩
  | blkEnd _ ih => obtain ⟨_, _, _, hk, hq⟩ := ih; exact ⟨_, _, _, .blkEnd hk, hq⟩
  | loop _ ih => obtain ⟨_, _, _, hk, hq⟩ := ih; exact ⟨_, _, _, .loop hk, hq⟩
  | lp _ ih => obtain ⟨_, _, _, hk, hq⟩ := ih; exact ⟨_, _, _, .lp hk, hq⟩
  | exit he _ ih => obtain ⟨_, _, _, hk, hq⟩ := ih; exact ⟨_, _, _, .exit he hk, hq⟩
  | exitOut he hq => exact ⟨_, _, _, .exitOut he, hq⟩
  | ret hq => exact ⟨_, _, _, .ret, hq⟩
  | reg R hr _ ih =>
    obtain ⟨s1, h1, q1, q2⟩ := RO_sound hr
    obtain ⟨_, _, _, hk, hq⟩ := ih s1 h1 q2
    exact ⟨_, _, _, .reg q1 hk, hq⟩
  | dreg ms R hf hr _ ih =>
    obtain ⟨s1, h1, q1, q2⟩ := draw_run hf hr
    obtain ⟨_, _, _, hk, hq⟩ := ih s1 h1 q2
    exact ⟨_, _, _, .dreg q1 hk, hq⟩
  | beg h1 h2 h3 _ ih => obtain ⟨_, _, _, hk, hq⟩ := ih; exact ⟨_, _, _, .beg h1 h2 h3 hk, hq⟩
  | rngf h1 h2 h3 h4 h5 h6 _ ih => obtain ⟨_, _, _, hk, hq⟩ := ih; exact ⟨_, _, _, .rngf h1 h2 h3 h4 h5 h6 hk, hq⟩

theorem ob_mono {α : Type} {o : Option α} {K K' : α → Prop} (hk : ∀ v, K v → K' v) (h : ob o K) : ob o K' := by
  cases o with
  | none => exact h
  | some v => exact hk v h
theorem wpI_mono {op : IOp} {e : Opd → AV} {h : H} {K K' : AV → H → Prop} (hk : ∀ v h1, K v h1 → K' v h1) (hw : wpI P op e h K) : wpI P op e h K' := by
  have hp : ob (pv op e h) (fun v => K v h) → ob (pv op e h) (fun v => K' v h) := ob_mono fun v => hk v h
  cases op with
  | alloc z => exact hk _ _ hw
  | box x => exact ob_mono (fun _ => hk _ _) hw
  | store n a x =>
    simp only [wpI, storeQ] at hw ⊢
    split at hw
    · rename_i b o ha
      exact ob_mono (fun cs h => ob_mono (fun xs h => ⟨h.1, hk _ _ h.2⟩) h) hw
    · exact hw
  | append sz b s x => obtain ⟨v, h1, q1, q2⟩ := hw; exact ⟨v, h1, q1, hk _ _ q2⟩
  | mksl sz b z l c => obtain ⟨v, h1, q1, q2⟩ := hw; exact ⟨v, h1, q1, hk _ _ q2⟩
  | call f args => obtain ⟨v, h1, q1, q2⟩ := hw; exact ⟨v, h1, q1, hk _ _ q2⟩
  | _ => exact hp hw
theorem gd_mono {g : Option (Nat × Bool)} {s : Slots} {A A' B B' : Prop} (hA : A → A') (hB : B → B') (h : gd g s A B) : gd g s A' B' := by
  cases g with
  | none => exact hA h
  | some p =>
    obtain ⟨t, b⟩ := p
    simp only [gd, condQ] at h ⊢
    split at h
    · rename_i c hc
      split at h
      · rename_i hcb; rw [if_pos hcb]; exact hA h
      · rename_i hcb; rw [if_neg hcb]; exact hB h
    · exact h
theorem RO_mono : ∀ {is : List Ins} {s : Slots} {h : H} {R R' : Slots → H → Prop}, (∀ s1 h1, R s1 h1 → R' s1 h1) → RO P is s h R → RO P is s h R'
  | [], _, _, _, _, hR, h => hR _ _ h
  | _ :: _, _, _, _, _, hR, h => gd_mono (wpI_mono fun _ _ => RO_mono hR) (RO_mono hR) h

@[simp ↓] theorem Run_nil : Run P inr [] Q s h = Q .norm s h := propext ⟨fun hr => by cases hr; assumption, .nil⟩
@[simp ↓] theorem Run_skip : Run P inr (.c .skip :: k) Q s h = Run P inr k Q s h := propext ⟨fun hr => by cases hr; assumption, .skip⟩
@[simp ↓] theorem Run_seq {a b : IR} : Run P inr (.c (.seq a b) :: k) Q s h = Run P inr (.c a :: .c b :: k) Q s h := propext ⟨fun hr => by cases hr; assumption, .seq⟩
@[simp ↓] theorem Run_blk {id : Nat} {b : IR} : Run P inr (.c (.blk id b) :: k) Q s h = Run P inr (.c b :: .blk id :: k) Q s h := propext ⟨fun hr => by cases hr; assumption, .blk⟩
@[simp ↓] theorem Run_blkEnd {id : Nat} : Run P inr (.blk id :: k) Q s h = Run P inr k Q s h := propext ⟨fun hr => by cases hr; assumption, .blkEnd⟩
@[simp ↓] theorem Run_ret : Run P inr (.c .ret :: k) Q s h = Q .ret s h := propext ⟨fun hr => by cases hr; assumption, .ret⟩
@[simp ↓] theorem Run_reg {is : List Ins} : Run P inr (.c (.reg is) :: k) Q s h = RO P is s h fun s1 h1 => Run P inr k Q s1 h1 := propext ⟨fun hr => by
  cases hr with
  | reg R hr hR => exact RO_mono hR hr, fun hr => .reg _ hr fun _ _ h => h⟩
theorem run_dreg {is : List Ins} {aft : List (List Nat)} {ms : List Mark} (hf : drawFine is aft ms = true) (hr : RD P is ms s h [] [] fun s1 h1 => Run P inr k Q s1 h1) : Run P inr (.c (.dreg is aft) :: k) Q s h :=
  .dreg ms _ hf hr fun _ _ h => h

def exitQ (o : Option (List It)) (A : List It → Prop) (B : Prop) : Prop :=
  match o with
  | some k => A k
  | none => B
@[simp ↓] theorem exitQ_some {k : List It} {A : List It → Prop} {B : Prop} : exitQ (some k) A B = A k := rfl
@[simp ↓] theorem exitQ_none {A : List It → Prop} {B : Prop} : exitQ none A B = B := rfl
@[congr] theorem exitQ_congr {t0 : Nat} {o o' : Option (List It)} {A : List It → Prop} {B : Prop} (e : o = o') (_ : tick = t0) : exitQ o A B = exitQ o' A B := by rw [e]
@[simp ↓] theorem Run_exit {id : Nat} : Run P inr (.c (.exit id) :: k) Q s h = exitQ (exitA id k) (fun k' => Run P inr k' Q s h) (Q (.exit id) s h) := propext ⟨fun hr => by
    cases hr with
    | exit he hk => rw [he]; exact hk
    | exitOut he hq => rw [he]; exact hq, fun hq => by
    cases he : exitA id k with
    | none => rw [he] at hq; exact .exitOut he hq
    | some k' => rw [he] at hq; exact .exit he hq⟩
@[simp] theorem exitA_blk {id id' : Nat} {k : List It} : exitA id (.blk id' :: k) = if id' = id then some k else exitA id k := by simp [exitA]
@[simp] theorem exitA_c {id : Nat} {c : IR} {k : List It} : exitA id (.c c :: k) = exitA id k := by simp [exitA]
@[simp] theorem exitA_lp {id : Nat} {c : IR} {k : List It} : exitA id (.lp c :: k) = exitA id k := by simp [exitA]
@[simp] theorem exitA_beg {id l : Nat} {k : List It} : exitA id (.beg l :: k) = exitA id k := by simp [exitA]
@[simp] theorem exitA_nil {id : Nat} : exitA id [] = none := by simp [exitA]

theorem condQ_true {K : Bool → Prop} : condQ (.bool true) K = K true := rfl
theorem condQ_false {K : Bool → Prop} : condQ (.bool false) K = K false := rfl
attribute [simp ↓] condQ_true condQ_false
@[congr] theorem condQ_congr {t0 : Nat} {v v' : AV} {K : Bool → Prop} (e : v = v') (_ : tick = t0) : condQ v K = condQ v' K := by rw [e]
@[simp ↓] theorem Run_cond {c : Opd} {x y : IR} : Run P inr (.c (.cond c x y) :: k) Q s h = condQ (ev s c) fun t => Run P inr (.c (if t then x else y) :: k) Q s h := propext ⟨fun hr => by
    cases hr with
    | cond he hk => rw [he]; exact hk, fun hq => by
    simp only [condQ] at hq
    split at hq
    · rename_i b hb
      exact .cond hb hq
    · exact hq.elim⟩
@[simp ↓] theorem Run_ifT {x y : IR} : Run P inr (.c (if true = true then x else y) :: k) Q s h = Run P inr (.c x :: k) Q s h := by simp only [if_true]
@[simp ↓] theorem Run_ifF {x y : IR} : Run P inr (.c (if false = true then x else y) :: k) Q s h = Run P inr (.c y :: k) Q s h := by simp only [Bool.false_eq_true, if_false]
theorem condQ_split {p : Prop} [Decidable p] {K : Bool → Prop} (h1 : p → K true) (h2 : ¬ p → K false) : condQ (.bool (decide p)) K := by
  by_cases hp : p
  · simp only [hp, decide_true]; exact h1 hp
  · simp only [hp, decide_false]; exact h2 hp
theorem condQ_split' {b : Bool} {K : Bool → Prop} (h1 : b = true → K true) (h2 : b = false → K false) : condQ (.bool b) K := by
  cases b
  · exact h2 rfl
  · exact h1 rfl

/-- A loop, by what stays true of it. -/
theorem run_loop {b : IR} (I : Nat → Slots → H → Prop) (hI : ∀ n s h, I n s h → (∀ m s1 h1, m < n → I m s1 h1 → Run P inr (.lp b :: k) Q s1 h1) → Run P inr (.c b :: .lp b :: k) Q s h) (n : Nat) (h0 : I n s h) : Run P inr (.c (.loop b) :: k) Q s h := by
  have key : ∀ n s h, I n s h → Run P inr (.c b :: .lp b :: k) Q s h := by
    intro n
    induction n using Nat.strongRecOn with
    | ind n ih => exact fun s h hi => hI n s h hi fun m s1 h1 hm hi1 => .lp (ih m hm s1 h1 hi1)
  exact .loop (key n s h h0)

/-! ### Reading off -/
@[simp ↓] theorem ob_some {α : Type} {v : α} {K : α → Prop} : ob (some v) K = K v := rfl
@[simp ↓] theorem ob_none {α : Type} {K : α → Prop} : ob none K = False := rfl
@[congr] theorem ob_congr {t0 : Nat} {α : Type} {o o' : Option α} {K : α → Prop} (e : o = o') (_ : tick = t0) : ob o K = ob o' K := by rw [e]
@[congr] theorem callQ_congr {t0 : Nat} {f f' : AV} {a a' : List AV} {h h1 : H} {K : AV → H → Prop} (e : f = f') (e' : a = a') (eh : h = h1) (_ : tick = t0) : callQ P f a h K = callQ P f' a' h1 K := by rw [e, e', eh]
@[congr] theorem appQ_congr {t0 : Nat} {sz by' : Nat} {x x' y y' : AV} {h h1 : H} {K : AV → H → Prop} (e : x = x') (e' : y = y') (eh : h = h1) (_ : tick = t0) : appQ h sz by' x y K = appQ h1 sz by' x' y' K := by rw [e, e', eh]
@[congr] theorem storeQ_congr {t0 : Nat} {n : Nat} {x x' y y' : AV} {h h1 : H} {K : AV → H → Prop} (e : x = x') (e' : y = y') (eh : h = h1) (_ : tick = t0) : storeQ h n x y K = storeQ h1 n x' y' K := by rw [e, e', eh]
@[congr] theorem mkQ_congr {t0 : Nat} {e : Opd → AV} {op : IOp} {h h1 : H} {K : AV → H → Prop} (eh : h = h1) (_ : tick = t0) : mkQ P e h op K = mkQ P e h1 op K := by rw [eh]

/-- A value, looked at first. -/
def vb (v : AV) (K : AV → Prop) : Prop := K v
@[congr] theorem vb_congr {t0 : Nat} {v v' : AV} {K : AV → Prop} (e : v = v') (_ : tick = t0) : vb v K = vb v' K := by rw [e]
@[simp] theorem vb_eq {v : AV} {K : AV → Prop} : vb v K = K v := rfl

@[simp ↓] theorem RO_nil {Q : Slots → H → Prop} : RO P [] s h Q = Q s h := rfl
@[simp ↓] theorem RO_cons {d : Option Nat} {op : IOp} {is : List Ins} {Q : Slots → H → Prop} : RO P (⟨d, none, op⟩ :: is) s h Q = wpI P op (ev s) h fun v h1 => RO P is (put s d v) h1 Q := rfl
def gdQ (v : AV) (b : Bool) (A B : Prop) : Prop := condQ v fun c => if c = b then A else B
@[simp ↓] theorem RO_guard {d : Option Nat} {op : IOp} {t : Nat} {b : Bool} {is : List Ins} {Q : Slots → H → Prop} : RO P (⟨d, some (t, b), op⟩ :: is) s h Q = gdQ (s t) b (wpI P op (ev s) h fun v h1 => RO P is (put s d v) h1 Q) (RO P is (put s d .undef) h Q) := rfl
@[congr] theorem gdQ_congr {t0 : Nat} {v v' : AV} {b : Bool} {A B : Prop} (e : v = v') (_ : tick = t0) : gdQ v b A B = gdQ v' b A B := by rw [e]
@[simp ↓] theorem gdQ_tt {A B : Prop} : gdQ (.bool true) true A B = A := by simp [gdQ]
@[simp ↓] theorem gdQ_tf {A B : Prop} : gdQ (.bool true) false A B = B := by simp [gdQ]
@[simp ↓] theorem gdQ_ft {A B : Prop} : gdQ (.bool false) true A B = B := by simp [gdQ]
@[simp ↓] theorem gdQ_ff {A B : Prop} : gdQ (.bool false) false A B = A := by simp [gdQ]

@[simp ↓] theorem RD_nil {ms : List Mark} {h0 : H} {hist : List H} {obl : List Obl} {Q : Slots → H → Prop} : RD P [] ms s h0 hist obl Q = ((∀ o ∈ obl, o.ok (h0 :: hist)) ∧ Q s (lastH h0 hist)) := by cases ms <;> rfl
@[simp ↓] theorem RD_heavy {d : Option Nat} {op : IOp} {is : List Ins} {lo hi : Nat} {ms : List Mark} {h0 : H} {hist : List H} {obl : List Obl} {Q : Slots → H → Prop} :
    RD P (⟨d, none, op⟩ :: is) (⟨true, lo, hi⟩ :: ms) s h0 hist obl Q = wpI P op (ev s) (lastH h0 hist) fun v h1 => RD P is ms (put s d v) h0 (hist ++ [h1]) obl Q := rfl
@[simp ↓] theorem RD_heavyG {d : Option Nat} {op : IOp} {t : Nat} {b : Bool} {is : List Ins} {lo hi : Nat} {ms : List Mark} {h0 : H} {hist : List H} {obl : List Obl} {Q : Slots → H → Prop} :
    RD P (⟨d, some (t, b), op⟩ :: is) (⟨true, lo, hi⟩ :: ms) s h0 hist obl Q = gdQ (s t) b (wpI P op (ev s) (lastH h0 hist) fun v h1 => RD P is ms (put s d v) h0 (hist ++ [h1]) obl Q) (RD P is ms (put s d .undef) h0 (hist ++ [lastH h0 hist]) obl Q) := rfl

/-- A light operation of a drawn region. -/
def wpL (P : Program) (op : IOp) (s : Slots) (h0 : H) (hist : List H) (lo hi : Nat) (obl : List Obl) (K : AV → List Obl → Prop) : Prop :=
  match op with
  | .load n ag y => ob (pv (.load n ag y) (ev s) (lastH h0 hist)) fun v => K v (⟨lo, hi, fun h => pv (.load n ag y) (ev s) h = some v⟩ :: obl)
  | .lookup z m k ok => ob (pv (.lookup z m k ok) (ev s) (lastH h0 hist)) fun v => K v (⟨lo, hi, fun h => pv (.lookup z m k ok) (ev s) h = some v⟩ :: obl)
  | .call f args => ∃ v, (∀ h, CallR P (ev s f) (args.map (ev s)) h v h) ∧ K v obl
  | .append sz b y z => ∃ v, (∀ h, AppR h sz b (ev s y) (ev s z) v h) ∧ K v obl
  | .mksl sz b z l c => ∃ v, (∀ h, InsR P (ev s) h (.mksl sz b z l c) v h) ∧ K v obl
  | .alloc _ | .box _ | .store .. => False
  | op => ob (pv op (ev s) h0) fun v => K v obl
theorem RD_light0 {x : Ins} {is : List Ins} {lo hi : Nat} {ms : List Mark} {h0 : H} {hist : List H} {obl : List Obl} {Q : Slots → H → Prop} :
    RD P (x :: is) (⟨false, lo, hi⟩ :: ms) s h0 hist obl Q = gd x.g s (wpL P x.op s h0 hist lo hi obl fun v obl => RD P is ms (put s x.dst v) h0 hist obl Q) (RD P is ms (put s x.dst .undef) h0 hist obl Q) := by
  obtain ⟨d, g, op⟩ := x
  cases op <;> rfl
@[simp ↓] theorem RD_light {d : Option Nat} {op : IOp} {is : List Ins} {lo hi : Nat} {ms : List Mark} {h0 : H} {hist : List H} {obl : List Obl} {Q : Slots → H → Prop} :
    RD P (⟨d, none, op⟩ :: is) (⟨false, lo, hi⟩ :: ms) s h0 hist obl Q = wpL P op s h0 hist lo hi obl fun v obl => RD P is ms (put s d v) h0 hist obl Q := RD_light0
@[simp ↓] theorem RD_lightG {d : Option Nat} {op : IOp} {t : Nat} {b : Bool} {is : List Ins} {lo hi : Nat} {ms : List Mark} {h0 : H} {hist : List H} {obl : List Obl} {Q : Slots → H → Prop} :
    RD P (⟨d, some (t, b), op⟩ :: is) (⟨false, lo, hi⟩ :: ms) s h0 hist obl Q = gdQ (s t) b (wpL P op s h0 hist lo hi obl fun v obl => RD P is ms (put s d v) h0 hist obl Q) (RD P is ms (put s d .undef) h0 hist obl Q) := RD_light0

/-- A call in a drawn region that changes nothing. -/
def lcallQ (P : Program) (f : AV) (args : List AV) (K : AV → Prop) : Prop := ∃ v, (∀ h, CallR P f args h v h) ∧ K v
@[congr] theorem lcallQ_congr {t0 : Nat} {f f' : AV} {a a' : List AV} {K : AV → Prop} (e : f = f') (e' : a = a') (_ : tick = t0) : lcallQ P f a K = lcallQ P f' a' K := by rw [e, e']

section ops
variable {K : AV → H → Prop} {e : Opd → AV}
@[simp ↓] theorem wpI_alloc {z : List AV} : wpI P (.alloc z) e h K = K (.ptr h.bn 0) (h.alloc z) := rfl
@[simp ↓] theorem wpI_box {x : Opd} : wpI P (.box x) e h K = ob (boxCells (e x)) fun cs => K (.ptr h.bn 0) (h.alloc cs) := rfl
@[simp ↓] theorem wpI_store {n : Nat} {a x : Opd} : wpI P (.store n a x) e h K = storeQ h n (e a) (e x) K := rfl
@[simp ↓] theorem wpI_append {sz b : Nat} {x y : Opd} : wpI P (.append sz b x y) e h K = appQ h sz b (e x) (e y) K := rfl
@[simp ↓] theorem wpI_call {f : Opd} {a : List Opd} : wpI P (.call f a) e h K = callQ P (e f) (a.map e) h K := rfl
@[simp ↓] theorem wpI_mksl {sz b : Nat} {z : List AV} {l c : Opd} : wpI P (.mksl sz b z l c) e h K = mkQ P e h (.mksl sz b z l c) K := rfl
@[simp ↓] theorem wpI_mov {x : Opd} : wpI P (.mov x) e h K = vb (e x) fun v => K v h := rfl
@[simp ↓] theorem wpI_pick {c a b : Opd} : wpI P (.pick c a b) e h K = ob (pv (.pick c a b) e h) fun v => K v h := rfl
@[simp ↓] theorem wpI_build {z : List AV} {ps : List (Nat × Nat × Opd)} : wpI P (.build z ps) e h K = ob (pv (.build z ps) e h) fun v => K v h := rfl
@[simp ↓] theorem wpI_bsl {sz l : Nat} {z : List AV} {ps : List (Nat × Opd)} : wpI P (.bsl sz l z ps) e h K = ob (pv (.bsl sz l z ps) e h) fun v => K v h := rfl
@[simp ↓] theorem wpI_load {n : Nat} {ag : Bool} {x : Opd} : wpI P (.load n ag x) e h K = ob (pv (.load n ag x) e h) fun v => K v h := rfl
@[simp ↓] theorem wpI_bin {o : BinOp} {x y : Opd} : wpI P (.bin o x y) e h K = ob (binA o (e x) (e y)) fun v => K v h := rfl
@[simp ↓] theorem wpI_eq {ks : List LK} {a n : Bool} {x y : Opd} : wpI P (.eq ks a n x y) e h K = ob (pv (.eq ks a n x y) e h) fun v => K v h := rfl
@[simp ↓] theorem wpI_un {o : UnOp} {x : Opd} : wpI P (.un o x) e h K = ob (unA o (e x)) fun v => K v h := rfl
@[simp ↓] theorem wpI_conv {k : IntKind} {x : Opd} : wpI P (.conv k x) e h K = ob (pv (.conv k x) e h) fun v => K v h := rfl
@[simp ↓] theorem wpI_b2s {x : Opd} : wpI P (.b2s x) e h K = ob (pv (.b2s x) e h) fun v => K v h := rfl
@[simp ↓] theorem wpI_s2b {x : Opd} : wpI P (.s2b x) e h K = ob (pv (.s2b x) e h) fun v => K v h := rfl
@[simp ↓] theorem wpI_faddr {o : Nat} {x : Opd} : wpI P (.faddr o x) e h K = ob (pv (.faddr o x) e h) fun v => K v h := rfl
@[simp ↓] theorem wpI_fld {o n : Nat} {a : Bool} {x : Opd} : wpI P (.fld o n a x) e h K = ob (pv (.fld o n a x) e h) fun v => K v h := rfl
@[simp ↓] theorem wpI_iaddr {n : Nat} {x i : Opd} : wpI P (.iaddr n x i) e h K = ob (pv (.iaddr n x i) e h) fun v => K v h := rfl
@[simp ↓] theorem wpI_iaddrA {l n : Nat} {x i : Opd} : wpI P (.iaddrA l n x i) e h K = ob (pv (.iaddrA l n x i) e h) fun v => K v h := rfl
@[simp ↓] theorem wpI_idxS {x i : Opd} : wpI P (.idxS x i) e h K = ob (pv (.idxS x i) e h) fun v => K v h := rfl
@[simp ↓] theorem wpI_idxA {l n : Nat} {a : Bool} {x i : Opd} : wpI P (.idxA l n a x i) e h K = ob (pv (.idxA l n a x i) e h) fun v => K v h := rfl
@[simp ↓] theorem wpI_slice {n : Nat} {x : Opd} {a b c : Option Opd} : wpI P (.slice n x a b c) e h K = ob (pv (.slice n x a b c) e h) fun v => K v h := rfl
@[simp ↓] theorem wpI_sliceS {x : Opd} {a b : Option Opd} : wpI P (.sliceS x a b) e h K = ob (pv (.sliceS x a b) e h) fun v => K v h := rfl
@[simp ↓] theorem wpI_ext {x : Opd} {n : Nat} : wpI P (.ext x n) e h K = ob (pv (.ext x n) e h) fun v => K v h := rfl
@[simp ↓] theorem wpI_mkfn {f : FuncId} {a b : List Opd} : wpI P (.mkfn f a b) e h K = vb (.fn f (a.map e) (b.map e)) fun v => K v h := rfl
@[simp ↓] theorem wpI_nilck {x : Opd} : wpI P (.nilck x) e h K = ob (pv (.nilck x) e h) fun v => K v h := rfl
@[simp ↓] theorem wpI_isnil {n : Bool} {x : Opd} : wpI P (.isnil n x) e h K = ob (pv (.isnil n x) e h) fun v => K v h := rfl
@[simp ↓] theorem wpI_len {x : Opd} : wpI P (.len x) e h K = ob (pv (.len x) e h) fun v => K v h := rfl
@[simp ↓] theorem wpI_lenS {x : Opd} : wpI P (.lenS x) e h K = ob (pv (.lenS x) e h) fun v => K v h := rfl
@[simp ↓] theorem wpI_lenA {n : Nat} : wpI P (.lenA n) e h K = K (.int .i64 n) h := rfl
@[simp ↓] theorem wpI_mn {xs : List Opd} : wpI P (.mn xs) e h K = ob (pv (.mn xs) e h) fun v => K v h := rfl
@[simp ↓] theorem wpI_mx {xs : List Opd} : wpI P (.mx xs) e h K = ob (pv (.mx xs) e h) fun v => K v h := rfl
@[simp ↓] theorem wpI_lookup {z : AV} {m k : Opd} {b : Bool} : wpI P (.lookup z m k b) e h K = ob (pv (.lookup z m k b) e h) fun v => K v h := rfl
end ops

section lops
variable {K : AV → List Obl → Prop} {h0 : H} {hist : List H} {lo hi : Nat} {obl : List Obl}
@[simp ↓] theorem wpL_load {n : Nat} {ag : Bool} {x : Opd} : wpL P (.load n ag x) s h0 hist lo hi obl K = ob (pv (.load n ag x) (ev s) (lastH h0 hist)) fun v => K v (⟨lo, hi, fun h => pv (.load n ag x) (ev s) h = some v⟩ :: obl) := rfl
@[simp ↓] theorem wpL_lookup {z : AV} {m k : Opd} {b : Bool} : wpL P (.lookup z m k b) s h0 hist lo hi obl K = ob (pv (.lookup z m k b) (ev s) (lastH h0 hist)) fun v => K v (⟨lo, hi, fun h => pv (.lookup z m k b) (ev s) h = some v⟩ :: obl) := rfl
@[simp ↓] theorem wpL_call {f : Opd} {a : List Opd} : wpL P (.call f a) s h0 hist lo hi obl K = lcallQ P (ev s f) (a.map (ev s)) fun v => K v obl := rfl
@[simp ↓] theorem wpL_mov {x : Opd} : wpL P (.mov x) s h0 hist lo hi obl K = vb (ev s x) fun v => K v obl := rfl
@[simp ↓] theorem wpL_pick {c a b : Opd} : wpL P (.pick c a b) s h0 hist lo hi obl K = ob (pv (.pick c a b) (ev s) h0) fun v => K v obl := rfl
@[simp ↓] theorem wpL_build {z : List AV} {ps : List (Nat × Nat × Opd)} : wpL P (.build z ps) s h0 hist lo hi obl K = ob (pv (.build z ps) (ev s) h0) fun v => K v obl := rfl
@[simp ↓] theorem wpL_bsl {sz l : Nat} {z : List AV} {ps : List (Nat × Opd)} : wpL P (.bsl sz l z ps) s h0 hist lo hi obl K = ob (pv (.bsl sz l z ps) (ev s) h0) fun v => K v obl := rfl
@[simp ↓] theorem wpL_bin {o : BinOp} {x y : Opd} : wpL P (.bin o x y) s h0 hist lo hi obl K = ob (binA o (ev s x) (ev s y)) fun v => K v obl := rfl
@[simp ↓] theorem wpL_eq {ks : List LK} {a n : Bool} {x y : Opd} : wpL P (.eq ks a n x y) s h0 hist lo hi obl K = ob (pv (.eq ks a n x y) (ev s) h0) fun v => K v obl := rfl
@[simp ↓] theorem wpL_un {o : UnOp} {x : Opd} : wpL P (.un o x) s h0 hist lo hi obl K = ob (unA o (ev s x)) fun v => K v obl := rfl
@[simp ↓] theorem wpL_conv {k : IntKind} {x : Opd} : wpL P (.conv k x) s h0 hist lo hi obl K = ob (pv (.conv k x) (ev s) h0) fun v => K v obl := rfl
@[simp ↓] theorem wpL_b2s {x : Opd} : wpL P (.b2s x) s h0 hist lo hi obl K = ob (pv (.b2s x) (ev s) h0) fun v => K v obl := rfl
@[simp ↓] theorem wpL_faddr {o : Nat} {x : Opd} : wpL P (.faddr o x) s h0 hist lo hi obl K = ob (pv (.faddr o x) (ev s) h0) fun v => K v obl := rfl
@[simp ↓] theorem wpL_fld {o n : Nat} {a : Bool} {x : Opd} : wpL P (.fld o n a x) s h0 hist lo hi obl K = ob (pv (.fld o n a x) (ev s) h0) fun v => K v obl := rfl
@[simp ↓] theorem wpL_iaddr {n : Nat} {x i : Opd} : wpL P (.iaddr n x i) s h0 hist lo hi obl K = ob (pv (.iaddr n x i) (ev s) h0) fun v => K v obl := rfl
@[simp ↓] theorem wpL_iaddrA {l n : Nat} {x i : Opd} : wpL P (.iaddrA l n x i) s h0 hist lo hi obl K = ob (pv (.iaddrA l n x i) (ev s) h0) fun v => K v obl := rfl
@[simp ↓] theorem wpL_idxS {x i : Opd} : wpL P (.idxS x i) s h0 hist lo hi obl K = ob (pv (.idxS x i) (ev s) h0) fun v => K v obl := rfl
@[simp ↓] theorem wpL_idxA {l n : Nat} {a : Bool} {x i : Opd} : wpL P (.idxA l n a x i) s h0 hist lo hi obl K = ob (pv (.idxA l n a x i) (ev s) h0) fun v => K v obl := rfl
@[simp ↓] theorem wpL_slice {n : Nat} {x : Opd} {a b c : Option Opd} : wpL P (.slice n x a b c) s h0 hist lo hi obl K = ob (pv (.slice n x a b c) (ev s) h0) fun v => K v obl := rfl
@[simp ↓] theorem wpL_sliceS {x : Opd} {a b : Option Opd} : wpL P (.sliceS x a b) s h0 hist lo hi obl K = ob (pv (.sliceS x a b) (ev s) h0) fun v => K v obl := rfl
@[simp ↓] theorem wpL_ext {x : Opd} {n : Nat} : wpL P (.ext x n) s h0 hist lo hi obl K = ob (pv (.ext x n) (ev s) h0) fun v => K v obl := rfl
@[simp ↓] theorem wpL_nilck {x : Opd} : wpL P (.nilck x) s h0 hist lo hi obl K = ob (pv (.nilck x) (ev s) h0) fun v => K v obl := rfl
@[simp ↓] theorem wpL_isnil {n : Bool} {x : Opd} : wpL P (.isnil n x) s h0 hist lo hi obl K = ob (pv (.isnil n x) (ev s) h0) fun v => K v obl := rfl
@[simp ↓] theorem wpL_len {x : Opd} : wpL P (.len x) s h0 hist lo hi obl K = ob (pv (.len x) (ev s) h0) fun v => K v obl := rfl
@[simp ↓] theorem wpL_lenS {x : Opd} : wpL P (.lenS x) s h0 hist lo hi obl K = ob (pv (.lenS x) (ev s) h0) fun v => K v obl := rfl
@[simp ↓] theorem wpL_lenA {n : Nat} : wpL P (.lenA n) s h0 hist lo hi obl K = K (.int .i64 n) obl := rfl
@[simp ↓] theorem wpL_mn {xs : List Opd} : wpL P (.mn xs) s h0 hist lo hi obl K = ob (pv (.mn xs) (ev s) h0) fun v => K v obl := rfl
@[simp ↓] theorem wpL_mx {xs : List Opd} : wpL P (.mx xs) s h0 hist lo hi obl K = ob (pv (.mx xs) (ev s) h0) fun v => K v obl := rfl
end lops

@[simp] theorem put_none {v : AV} : put s none v = s := rfl
@[simp] theorem put_some {d : Nat} {v : AV} : put s (some d) v = su s d v := rfl
@[simp] theorem ev_t {i : Nat} : ev s (.t i) = s i := rfl
@[simp] theorem ev_c {v : AV} : ev s (.c v) = v := rfl
attribute [simp] su_get
@[simp] theorem slots0_get {args : List AV} {i : Nat} : slots0 args i = args.getD i .undef := rfl

@[simp] theorem alloc_bn {cs : List AV} : (h.alloc cs).bn = h.bn + 1 := rfl
@[simp] theorem alloc_bx {cs : List AV} {b : Nat} : (h.alloc cs).bx b = if b = h.bn then some cs else h.bx b := rfl
@[simp] theorem alloc_tn {cs : List AV} : (h.alloc cs).tn = h.tn := rfl
@[simp] theorem alloc_tk {cs : List AV} : (h.alloc cs).tk = h.tk := rfl
@[simp] theorem alloc_ln {cs : List AV} : (h.alloc cs).ln = h.ln := rfl
@[simp] theorem alloc_lp {cs : List AV} : (h.alloc cs).lp = h.lp := rfl
@[simp] theorem alloc_mn {cs : List AV} : (h.alloc cs).mn = h.mn := rfl
@[simp] theorem alloc_mp {cs : List AV} : (h.alloc cs).mp = h.mp := rfl
@[simp] theorem set_bn {b : Nat} {cs : List AV} : (h.set b cs).bn = h.bn := rfl
@[simp] theorem set_bx {b : Nat} {cs : List AV} {b' : Nat} : (h.set b cs).bx b' = if b' = b then some cs else h.bx b' := rfl
@[simp] theorem set_tn {b : Nat} {cs : List AV} : (h.set b cs).tn = h.tn := rfl
@[simp] theorem set_tk {b : Nat} {cs : List AV} : (h.set b cs).tk = h.tk := rfl
@[simp] theorem set_ln {b : Nat} {cs : List AV} : (h.set b cs).ln = h.ln := rfl
@[simp] theorem set_lp {b : Nat} {cs : List AV} : (h.set b cs).lp = h.lp := rfl
@[simp] theorem set_mn {b : Nat} {cs : List AV} : (h.set b cs).mn = h.mn := rfl
@[simp] theorem set_mp {b : Nat} {cs : List AV} : (h.set b cs).mp = h.mp := rfl
@[simp] theorem newTok_bn {n : Nat} : (h.newTok n).bn = h.bn := rfl
@[simp] theorem newTok_bx {n : Nat} : (h.newTok n).bx = h.bx := rfl
@[simp] theorem newTok_tn {n : Nat} : (h.newTok n).tn = h.tn + 1 := rfl
@[simp] theorem newTok_tk {n i : Nat} : (h.newTok n).tk i = if i = h.tn then n else h.tk i := rfl
@[simp] theorem newTok_ln {n : Nat} : (h.newTok n).ln = h.ln := rfl
@[simp] theorem newTok_lp {n : Nat} : (h.newTok n).lp = h.lp := rfl
@[simp] theorem newTok_mn {n : Nat} : (h.newTok n).mn = h.mn := rfl
@[simp] theorem newTok_mp {n : Nat} : (h.newTok n).mp = h.mp := rfl
@[simp] theorem setTok_bn {i n : Nat} : (h.setTok i n).bn = h.bn := rfl
@[simp] theorem setTok_bx {i n : Nat} : (h.setTok i n).bx = h.bx := rfl
@[simp] theorem setTok_tn {i n : Nat} : (h.setTok i n).tn = h.tn := rfl
@[simp] theorem setTok_tk {i n j : Nat} : (h.setTok i n).tk j = if j = i then n else h.tk j := rfl
@[simp] theorem setTok_ln {i n : Nat} : (h.setTok i n).ln = h.ln := rfl
@[simp] theorem setTok_lp {i n : Nat} : (h.setTok i n).lp = h.lp := rfl
@[simp] theorem setTok_mn {i n : Nat} : (h.setTok i n).mn = h.mn := rfl
@[simp] theorem setTok_mp {i n : Nat} : (h.setTok i n).mp = h.mp := rfl
@[simp] theorem lastH_nil {h0 : H} : lastH h0 [] = h0 := rfl
@[simp] theorem lastH_cons {h0 h1 : H} {l : List H} : lastH h0 (h1 :: l) = lastH h1 l := rfl

theorem storeQ_ptr {n b o : Nat} {x : AV} {K : AV → H → Prop} : storeQ h n (.ptr b o) x K = ob (h.bx b) fun cs => ob (fit n x) fun xs => (b < h.bn ∧ o + n ≤ cs.length) ∧ K .undef (h.set b (cs.take o ++ xs ++ cs.drop (o + n))) := rfl
attribute [simp] storeQ_ptr
attribute [simp] pv binA unA intBin unCells fit boxCells idxOf bndOf eqA cellEq cellsEq fillA rowA minA maxA foldA tokCut resA tupA

theorem idxOf_nat {k : IntKind} {j n : Nat} (h : j < n) : idxOf (.int k (j : Int)) n = some j := by
  simp only [idxOf]
  rw [if_pos ⟨by omega, by omega⟩]
  simp

@[simp] theorem Obl_ok {lo hi : Nat} {p : H → Prop} {hist : List H} : Obl.ok ⟨lo, hi, p⟩ hist = ∀ h ∈ (hist.drop lo).take (hi + 1 - lo), p h := rfl
theorem natCast_eq {a b : Nat} : ((a : Int) = (b : Int)) = (a = b) := propext ⟨fun h => by omega, fun h => by rw [h]⟩
attribute [simp] natCast_eq
attribute [simp] wk wkL_map wkLL_map ok1

/-! ### Contracts out of runs -/
def retQ (rs : List ResA) (K : AV → H → Prop) : Res → Slots → H → Prop
  | .exit _, _, _ => False
  | _, s, h => ob (resA s h rs) fun vs => K (tupA vs) h
@[simp] theorem retQ_ret {rs : List ResA} {K : AV → H → Prop} : retQ rs K .ret s h = ob (resA s h rs) fun vs => K (tupA vs) h := rfl
@[simp] theorem retQ_norm {rs : List ResA} {K : AV → H → Prop} : retQ rs K .norm s h = ob (resA s h rs) fun vs => K (tupA vs) h := rfl

theorem retQ_inv {rs : List ResA} {K : AV → H → Prop} {r : Res} (hq : retQ rs K r s h) : (∀ id, r ≠ .exit id) ∧ ∃ vs, resA s h rs = some vs ∧ K (tupA vs) h := by
  cases r with
  | exit id => exact hq.elim
  | norm =>
    refine ⟨fun id h => (by cases h), ?_⟩
    simp only [retQ, ob] at hq
    split at hq
    · rename_i vs hv; exact ⟨vs, hv, hq⟩
    · exact hq.elim
  | ret =>
    refine ⟨fun id h => (by cases h), ?_⟩
    simp only [retQ, ob] at hq
    split at hq
    · rename_i vs hv; exact ⟨vs, hv, hq⟩
    · exact hq.elim

theorem SCall.run {f : FuncId} {F : FnA} {args : List AV} {h : H} {K : AV → H → Prop} (hb : HasBody P f) (hf : cFn P f = some F) (hargs : args.length ≤ F.N) (hr : Run P false [.c F.body] (retQ F.res K) (slots0 args) h) :
    ∃ r h', SCall P f args h r h' ∧ K r h' := by
  obtain ⟨ex, s1, h1, hk, hq⟩ := hr.sem
  obtain ⟨q1, vs, q2, q3⟩ := retQ_inv hq
  exact ⟨_, _, SCall.body hb hf hargs hk q1 q2 (.refl _ _), q3⟩

theorem PCall.run {f : FuncId} {F : FnA} {args : List AV} {r : AV} (hb : HasBody P f) (hf : cFn P f = some F) (hargs : args.length ≤ F.N) (hp : ∀ v ∈ args, PureV v) (hpr : PureV r)
    (hr : Run P false [.c F.body] (retQ F.res fun r' _ => wk r' = r) (slots0 args) H.nil) : PCall P f args r := by
  obtain ⟨ex, s1, h1, hk, hq⟩ := hr.sem
  obtain ⟨q1, vs, q2, q3⟩ := retQ_inv hq
  exact fun h => SCall.pure (SCall.body hb hf hargs hk q1 q2 (.weak (r1 := r) (fun w g V hv => q3 ▸ hv.wk) (.refl _ _))) hp hpr h

theorem wrap_i64 {x : Int} (h1 : -9223372036854775808 ≤ x) (h2 : x ≤ 9223372036854775807) : IntKind.i64.wrap x = x := by
  have e : IntKind.i64.wrap x = (if 9223372036854775808 ≤ x % 18446744073709551616 then x % 18446744073709551616 - 18446744073709551616 else x % 18446744073709551616) := by
    simp [IntKind.wrap, IntKind.bits, IntKind.signed]
  rw [e]
  omega
theorem wrap_u64 {x : Int} (h1 : 0 ≤ x) (h2 : x ≤ 18446744073709551615) : IntKind.u64.wrap x = x := by
  have e : IntKind.u64.wrap x = x % 18446744073709551616 := by
    simp [IntKind.wrap, IntKind.bits, IntKind.signed]
  rw [e]
  omega

theorem callQ_of {F : FuncId} {first caps args : List AV} {h : H} {r : AV} {h1 : H} {K : AV → H → Prop} (hc : SCall P F (first ++ args ++ caps) h r h1) (hk : K r h1) : callQ P (.fn F first caps) args h K := ⟨r, h1, hc, hk⟩
theorem callQ_ex {F : FuncId} {first caps args : List AV} {h : H} {Z : AV → H → Prop} {K : AV → H → Prop} (hc : ∃ r h1, SCall P F (first ++ args ++ caps) h r h1 ∧ Z r h1) (hk : ∀ r h1, Z r h1 → K r h1) : callQ P (.fn F first caps) args h K := by
  obtain ⟨r, h1, q1, q2⟩ := hc
  exact ⟨r, h1, q1, hk r h1 q2⟩
theorem callQ_p {F : FuncId} {first caps args as' : List AV} {h : H} {r : AV} {K : AV → H → Prop} (hc : PCall P F as' r) (ha : (first ++ args ++ caps).map wk = as') (hk : K r h) : callQ P (.fn F first caps) args h K :=
  ⟨r, h, SCall.wk (by rw [ha]; exact hc h), hk⟩
theorem lcallQ_p {F : FuncId} {first caps args as' : List AV} {r : AV} {K : AV → Prop} (hc : PCall P F as' r) (ha : (first ++ args ++ caps).map wk = as') (hk : K r) : lcallQ P (.fn F first caps) args K :=
  ⟨r, fun h => SCall.wk (by rw [ha]; exact hc h), hk⟩

end
end Go.Am
