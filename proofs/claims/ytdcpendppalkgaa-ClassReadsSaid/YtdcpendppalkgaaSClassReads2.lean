/- What the functions that the statement reaches do: their contracts; and what follows of it. -/
import Derived.Test.YtdcpendppalkgaaSClassReads1
import Derived.Test.YtdcpendppalkgaaK4
/- The program's reader of codes. -/
namespace Go.Proofs
open Go Go.RowKit Go.Am

theorem CallP.wkr {f : FuncId} {args : List AV} {h : H} {K K' : AV → H → Prop} (hc : CallP Try.prog f args h K) (hk : ∀ r h1, K r h1 → K' (wk r) h1) : CallP Try.prog f args h K' :=
  hc.gh fun r h1 q => ⟨h1, wk r, .weak (fun w g V hv => hv.wk) (.refl _ _), hk r h1 q⟩

/-- A reader's state: the words that are left; none: it isn't right. -/
abbrev RS := Option (List Nat)
def encRS : RS → List AV
  | some l => [encW l, .bool false]
  | none => [.any1, .bool true]
def Bd (s : RS) : Prop := ∀ l, s = some l → l.length ≤ 1000000 ∧ ∀ w ∈ l, w < 18446744073709551616
structure RIs (h : H) (b : Nat) (s : RS) : Prop where
  blt : b < h.bn
  bx : h.bx b = some (encRS s)
  bd : Bd s
structure RTo (h : H) (b : Nat) (h' : H) (s' : RS) : Prop where
  keep : HF h h' (· = b) (fun _ => False)
  is : RIs h' b s'
/-- Where a piece of reading ends. -/
def RFin (h : H) (b : Nat) (h' : H) (s' : RS) : Prop := HF h h' (· = b) (fun _ => False) ∧ ∃ cs1, h'.bx b = some cs1 ∧ WkL cs1 (encRS s')
theorem RTo.fin {h h' : H} {b : Nat} {s' : RS} (a : RTo h b h' s') : RFin h b h' s' := ⟨a.keep, _, a.is.bx, WkL.refl _⟩
theorem RFin.bad {h h' : H} {b : Nat} {v : AV} (a : HF h h' (· = b) (fun _ => False)) (hb : h'.bx b = some [v, .bool true]) : RFin h b h' none := ⟨a, _, hb, .cons (.any v) (.cons (.refl _) .nil)⟩
theorem RFin.set {h h' : H} {b : Nat} {v : AV} (a : HF h h' (· = b) (fun _ => False)) : RFin h b (h'.set b [v, .bool true]) none := RFin.bad (v := v) (a.trans (HF.set _ rfl)) (by simp)
theorem RFin.ok {h h' : H} {b : Nat} {cs : List AV} {s : RS} (a : HF h h' (· = b) (fun _ => False)) (e : cs = encRS s) : RFin h b (h'.set b cs) s := by
  subst e
  exact ⟨a.trans (HF.set _ rfl), _, by simp, WkL.refl _⟩
theorem pure_encRS : ∀ (s : RS), ∀ v ∈ encRS s, PureV v
  | some l => pures_cons (pure_w64 l) (pures1 (.bool _))
  | none => pures_cons .any1 (pures1 (.bool _))
theorem RTo.trans {h h1 h2 : H} {b : Nat} {s1 s2 : RS} (a : RTo h b h1 s1) (c : RTo h1 b h2 s2) : RTo h b h2 s2 := ⟨a.keep.trans c.keep, c.is⟩
theorem RTo.refl {h : H} {b : Nat} {s : RS} (a : RIs h b s) : RTo h b h s := ⟨HF.refl _ _ _, a⟩
theorem RTo.set {h : H} {b : Nat} {s s' : RS} (a : RIs h b s) (hb : Bd s') : RTo h b (h.set b (encRS s')) s' := ⟨HF.set _ rfl, by simpa using a.blt, by simp, hb⟩
theorem RIs.alloc {h : H} {b : Nat} {s : RS} (a : RIs h b s) (cs : List AV) : RIs (h.alloc cs) b s := by
  have h1 := a.blt
  have hne : b ≠ h.bn := by omega
  exact ⟨by simp; omega, by simpa [hne] using a.bx, a.bd⟩
theorem RTo.alloc {h h' : H} {b : Nat} {s : RS} {cs : List AV} (a : RTo (h.alloc cs) b h' s) : RTo h b h' s := ⟨(HF.alloc h cs _ _).trans a.keep, a.is⟩
theorem RIs.keep {h h' : H} {b : Nat} {s : RS} (a : RIs h b s) {B T : Nat → Prop} (e : HF h h' B T) (hb : ¬ B b) : RIs h' b s :=
  ⟨Nat.lt_of_lt_of_le a.blt e.bn, (e.bx b a.blt hb).trans a.bx, a.bd⟩

/-- What a piece of reading made of a state. -/
def Got {α : Type} (p : Rd α) (s : RS) (a : α) (s' : RS) : Prop :=
  match s.bind p with
  | some (a', l') => a = a' ∧ s' = some l'
  | none => s' = none
def Rd.bind {α β : Type} (p : Rd α) (q : α → Rd β) : Rd β := fun l => (p l).bind fun x => q x.1 x.2
def Rd.pure {α : Type} (a : α) : Rd α := fun l => some (a, l)
theorem Got.bind {α β : Type} {p : Rd α} {q : α → Rd β} {s s1 s2 : RS} {a : α} {b : β} (h1 : Got p s a s1) (h2 : Got (q a) s1 b s2) : Got (p.bind q) s b s2 := by
  unfold Got at h1 h2 ⊢
  cases s with
  | none => simp only [Option.bind_none] at h1 ⊢; subst h1; simpa using h2
  | some l =>
    simp only [Option.bind_some, Rd.bind] at h1 ⊢
    cases hp : p l with
    | none => rw [hp] at h1; simp only at h1; subst h1; simpa using h2
    | some x => rw [hp] at h1; simp only at h1; obtain ⟨rfl, rfl⟩ := h1; simpa using h2
theorem Got.pure {α : Type} (a : α) (s : RS) : Got (Rd.pure a) s a s := by cases s <;> simp [Got, Rd.pure]
theorem Got.map {α β : Type} {p : Rd α} {f : α → β} {s s1 : RS} {a : α} (h1 : Got p s a s1) : Got (fun l => (p l).map fun x => (f x.1, x.2)) s (f a) s1 := by
  unfold Got at h1 ⊢
  cases s with
  | none => simpa using h1
  | some l =>
    simp only [Option.bind_some] at h1 ⊢
    cases hp : p l with
    | none => rw [hp] at h1; simpa using h1
    | some x => rw [hp] at h1; obtain ⟨rfl, rfl⟩ := h1; simp
/-- A piece that is read; else d. -/
def runS {α : Type} (p : Rd α) (d : α) (s : RS) : α × RS := (s.bind p).elim (d, none) fun x => (x.1, some x.2)
theorem Got.runS {α : Type} (p : Rd α) (d : α) (s : RS) : Got p s (Proofs.runS p d s).1 (Proofs.runS p d s).2 := by
  unfold Got Proofs.runS
  cases s.bind p <;> simp

theorem newReader_ok (l : List Nat) (h : H) : SCall Try.prog 10 [encW l] h (.ptr h.bn 0) (h.alloc (encRS (some l))) := by
  refine SCall.new (CallP.run hb10 ok10 (by simp) ?_) (pure_encRS _)
  simp -implicitDefEqProofs
  exact ⟨HF.alloc _ _ _ _, WkL.refl _⟩

theorem RIs.new {l : List Nat} (hl : Bd (some l)) (h : H) : RIs (h.alloc (encRS (some l))) h.bn (some l) := ⟨by simp, by simp, hl⟩

theorem rOk_ok {h : H} {b : Nat} {s : RS} (hr : RIs h b s) : SCall Try.prog 14 [.ptr b 0] h (.bool s.isSome) h := by
  refine SCall.ro (CallP.run hb14 ok14 (by simp) ?_) (.bool _)
  have h1 := hr.blt
  have h2 := hr.bx
  cases s <;> (simp -implicitDefEqProofs [h1, h2, encRS]; exact HF.refl _ _ _)

def endS : RS → Bool
  | some [] => true
  | _ => false

theorem rEnd_ok {h : H} {b : Nat} {s : RS} (hr : RIs h b s) : SCall Try.prog 15 [.ptr b 0] h (.bool (endS s)) h := by
  refine SCall.ro (CallP.run hb15 ok15 (by simp) ?_) (.bool _)
  have h1 := hr.blt
  have h2 := hr.bx
  cases s with
  | none => simp -implicitDefEqProofs [h1, h2, encRS, endS]; exact HF.refl _ _ _
  | some l =>
    cases l with
    | nil => simp -implicitDefEqProofs [h1, h2, encRS, endS]; exact HF.refl _ _ _
    | cons w l =>
      have : ¬ (l.length : Int) + 1 = 0 := by omega
      simp -implicitDefEqProofs [h1, h2, encRS, endS, this]; exact HF.refl _ _ _

/-- A piece of reading: its value, and what is left; where it isn't right, d. -/
structure RdS {α : Type} (f : FuncId) (args : List AV) (h : H) (b : Nat) (s : RS) (p : Rd α) (d : α) (enc : α → AV) : Prop where
  call : SCall Try.prog f args h (enc (runS p d s).1) (h.set b (encRS (runS p d s).2))
  to : RTo h b (h.set b (encRS (runS p d s).2)) (runS p d s).2

/-- What is left is of what there was. -/
def RdOK {α : Type} (p : Rd α) : Prop := ∀ l a l', p l = some (a, l') → l'.length ≤ l.length ∧ ∀ w ∈ l', w ∈ l
theorem RdOK.bd {α : Type} {p : Rd α} (hp : RdOK p) (d : α) {s : RS} (hs : Bd s) : Bd (runS p d s).2 := fun l' e => by
  unfold runS at e
  cases s with
  | none => simp at e
  | some l =>
    cases hq : p l with
    | none => simp [hq] at e
    | some x =>
      simp [hq] at e; subst e
      obtain ⟨h1, h2⟩ := hs l rfl
      obtain ⟨h3, h4⟩ := hp l x.1 x.2 hq
      exact ⟨Nat.le_trans h3 h1, fun w hw => h2 w (h4 w hw)⟩
theorem RdOK.bind {α β : Type} {p : Rd α} {q : α → Rd β} (hp : RdOK p) (hq : ∀ a, RdOK (q a)) : RdOK (p.bind q) := fun l b l' e => by
  simp only [Rd.bind, Option.bind_eq_some_iff] at e
  obtain ⟨x, e1, e2⟩ := e
  obtain ⟨h1, h2⟩ := hp l x.1 x.2 e1
  obtain ⟨h3, h4⟩ := hq x.1 x.2 b l' e2
  exact ⟨Nat.le_trans h3 h1, fun w hw => h2 w (h4 w hw)⟩
theorem RdOK.pure {α : Type} (a : α) : RdOK (Rd.pure a) := fun l b l' e => by
  simp only [Rd.pure, Option.some.injEq, Prod.mk.injEq] at e
  rw [e.2]; exact ⟨Nat.le_refl _, fun w hw => hw⟩

theorem RdS.mk' {α : Type} {f : FuncId} {args : List AV} {h : H} {b : Nat} {s : RS} {p : Rd α} {d : α} {enc : α → AV} (hr : RIs h b s) (hp : RdOK p) (hv : ∀ a, PureV (enc a)) (hc : CallP Try.prog f args h fun r h1 => wk r = enc (runS p d s).1 ∧ RFin h b h1 (runS p d s).2) : RdS f args h b s p d enc :=
  ⟨SCall.upd hr.blt (hc.mono fun r h1 ⟨q1, q2, q3⟩ => ⟨q1, q2, q3⟩) (hv _) (pure_encRS _), RTo.set hr (hp.bd d hr.bd)⟩

def rdNext (p : Nat → Bool) : Rd Nat
  | [] => none
  | w :: l => if p w = true then some (w, l) else none
theorem rdNext_ok (p : Nat → Bool) : RdOK (rdNext p) := fun l a l' e => by
  cases l with
  | nil => simp [rdNext] at e
  | cons v l =>
    simp only [rdNext] at e
    split at e
    · cases e; exact ⟨by simp, fun w hw => List.mem_cons_of_mem _ hw⟩
    · cases e

theorem next_ok {h : H} {b : Nat} {s : RS} (hr : RIs h b s) {F : FuncId} {first caps : List AV} {p : Nat → Bool} (hw : first.map wk = first) (hw' : caps.map wk = caps) (hp : ∀ w : Nat, SCall Try.prog F (first ++ [.int .u64 w] ++ caps) h (.bool (p w)) h) :
    RdS 91 [.ptr b 0, .fn F first caps] h b s (rdNext p) 0 (fun n => .int .u64 n) := by
  refine RdS.mk' hr (rdNext_ok p) (fun _ => .int _ _) (CallP.run hb91 ok91 (by simp) ?_)
  have h1 := hr.blt
  have h2 := hr.bx
  cases s with
  | none =>
    simp -implicitDefEqProofs [h1, h2, runS, encRS]
    exact RFin.set (HF.refl _ _ _)
  | some l =>
    cases l with
    | nil =>
      simp -implicitDefEqProofs [h1, h2, runS, rdNext, encRS]
      exact RFin.set (HF.refl _ _ _)
    | cons w l =>
      have e0 : ¬ (l.length : Int) + 1 = 0 := by omega
      simp -implicitDefEqProofs [h1, h2, e0, w64, encRS]
      refine callQ_s (hp w) (by simp [hw, hw']) ?_
      cases hpw : p w
      · simp -implicitDefEqProofs [h1, h2, hpw, runS, rdNext, w64, encRS]
        exact RFin.set (HF.refl _ _ _)
      · have e1 : (0 : Int) ≤ (l.length : Int) + 1 := by omega
        have e2 : (1 : Int) ≤ (l.length : Int) + 1 := by omega
        simp -implicitDefEqProofs [h1, h2, hpw, runS, rdNext, w64, e2, bndOf, encRS]
        exact RFin.ok (HF.refl _ _ _) rfl

theorem runS_next {p : Nat → Bool} {α : Type} {q : Rd α} {d : α} {f : Nat → α} (hd : d = f 0) (hq : ∀ l, q l = (rdNext p l).map fun x => (f x.1, x.2)) (s : RS) : runS q d s = (f (runS (rdNext p) 0 s).1, (runS (rdNext p) 0 s).2) := by
  unfold runS
  cases s with
  | none => simp [hd]
  | some l =>
    simp only [Option.bind_some, hq]
    cases rdNext p l <;> simp [hd]
theorem rdCount_next (most : Int) (l : List Nat) : rdCount most l = (rdNext (fun w => decide (0 ≤ most ∧ (w : Int) ≤ most)) l).map fun x => ((x.1 : Int), x.2) := by
  cases l with
  | nil => rfl
  | cons w l => simp only [rdCount, rdNext, decide_eq_true_eq]; split <;> rfl
theorem rdSigned_next (l : List Nat) : rdSigned l = (rdNext (fun _ => true) l).map fun x => (backI x.1, x.2) := by
  cases l <;> rfl

theorem runS_next_lt {p : Nat → Bool} {s : RS} (h : Bd s) : (runS (rdNext p) 0 s).1 < 18446744073709551616 := by
  unfold runS
  cases s with
  | none => simp
  | some l =>
    cases l with
    | nil => simp [rdNext]
    | cons w l =>
      simp only [Option.bind_some, rdNext]
      split
      · exact (h _ rfl).2 w (List.mem_cons_self ..)
      · simp

theorem count1_ok {h : H} {c : Nat} {most : Int} (hc : c < h.bn) (hb : h.bx c = some [.int .i64 most]) (hm : inI most) (w : Nat) : SCall Try.prog 92 [.int .u64 w, .ptr c 0] h (.bool (decide (0 ≤ most ∧ (w : Int) ≤ most))) h := by
  refine SCall.ro (CallP.run hb92 ok92 (by simp) ?_) (.bool _)
  obtain ⟨m1, m2⟩ := hm
  by_cases h0 : 0 ≤ most
  · simp -implicitDefEqProofs [hc, hb, h0, wrap_u64 (x := most) (by omega) (by omega)]
    exact HF.refl _ _ _
  · simp -implicitDefEqProofs [hc, hb, h0]
    exact HF.refl _ _ _

theorem rdMap_ok {α β : Type} {p : Rd α} {q : Rd β} {f : α → β} (hp : RdOK p) (hq : ∀ l, q l = (p l).map fun x => (f x.1, x.2)) : RdOK q := fun l b l' e => by
  rw [hq, Option.map_eq_some_iff] at e
  obtain ⟨x, e1, e2⟩ := e
  cases e2
  exact hp l x.1 x.2 e1
theorem rdCount_ok (most : Int) : RdOK (rdCount most) := rdMap_ok (rdNext_ok _) (rdCount_next most)
theorem rdSigned_ok : RdOK rdSigned := rdMap_ok (rdNext_ok _) rdSigned_next
theorem rdFlag_ok : RdOK rdFlag := rdMap_ok (f := fun n : Int => decide (n = 1)) (rdCount_ok 1) fun _ => rfl
theorem rdTake_ok (n : Nat) : RdOK (rdTake n) := fun l b l' e => by
  simp only [rdTake] at e
  split at e
  · cases e; exact ⟨by simp, fun w hw => List.mem_of_mem_drop hw⟩
  · cases e
theorem rdWords_ok (most : Int) : RdOK (rdWords most) := RdOK.bind (rdCount_ok most) fun _ => rdTake_ok _
theorem rdText_bind : rdText = (rdCount 64).bind fun n => (rdTake ((n.toNat + 7) / 8)).bind fun ws => fun l => if packed (unpack n.toNat ws) = ws then some (unpack n.toNat ws, l) else none := rfl
theorem rdText_ok : RdOK rdText := by
  rw [rdText_bind]
  refine RdOK.bind (rdCount_ok 64) fun n => RdOK.bind (rdTake_ok _) fun ws => fun l b l' e => ?_
  split at e
  · cases e; exact ⟨Nat.le_refl _, fun w hw => hw⟩
  · cases e

theorem rdCount_in {most : Int} (hm : inI most) (s : RS) : 0 ≤ (runS (rdCount most) 0 s).1 ∧ ((runS (rdCount most) 0 s).1 ≤ most ∨ (runS (rdCount most) 0 s).1 = 0) := by
  unfold runS
  cases s with
  | none => simp
  | some l =>
    cases l with
    | nil => simp [rdCount]
    | cons w l =>
      simp only [Option.bind_some, rdCount]
      split
      · simp only [Option.elim]; omega
      · simp

theorem count_rd {h : H} {b : Nat} {s : RS} (hr : RIs h b s) {most : Int} (hm : inI most) : RdS 35 [.ptr b 0, .int .i64 most] h b s (rdCount most) 0 (.int .i64) := by
  refine RdS.mk' hr (rdCount_ok most) (fun _ => .int _ _) (CallP.run hb35 ok35 (by simp) ?_)
  simp -implicitDefEqProofs
  have hn := next_ok (hr.alloc [.int .i64 most]) (F := 92) (first := []) (caps := [.ptr h.bn 0]) rfl (by simp) fun w => count1_ok (by simp) (by simp) hm w
  refine callQ_s hn.call (by simp) ?_
  have q := hn.to
  have hx := runS_next (p := fun w => decide (0 ≤ most ∧ (w : Int) ≤ most)) (q := rdCount most) (d := 0) (f := fun w => (w : Int)) rfl (rdCount_next most) s
  have hin := rdCount_in hm s
  obtain ⟨m1, m2⟩ := hm
  rw [hx] at hin ⊢
  simp only at hin ⊢
  generalize runS (rdNext fun w => decide (0 ≤ most ∧ (w : Int) ≤ most)) 0 s = x at q hin
  simp -implicitDefEqProofs [wrap_i64 (x := (x.1 : Int)) (by omega) (by omega)]
  exact q.alloc.fin

theorem signed1_ok (w : Nat) (h : H) : SCall Try.prog 141 [.int .u64 w] h (.bool true) h := by
  refine SCall.ro (CallP.run hb141 ok141 (by simp) ?_) (.bool _)
  simp -implicitDefEqProofs
  exact HF.refl _ _ _

theorem back_bits {w : Nat} (hw : w < 18446744073709551616) : IntKind.i64.wrap
        ((((IntKind.i64.wrap ((w : Int).fdiv (2 ^ shAmt IntKind.u64 1)) % 2 ^ IntKind.i64.bits).toNat ^^^
            (IntKind.i64.wrap
                  (-IntKind.i64.wrap (IntKind.u64.wrap ((w % 2 ^ IntKind.u64.bits &&& 1 % 2 ^ IntKind.u64.bits : Nat) : Int))) %
                2 ^ IntKind.i64.bits).toNat : Nat)) : Int) =
      backI w := by
  have e1 : (2 : Int) ^ shAmt IntKind.u64 1 = 2 := rfl
  have e3 : (2 : Int) ^ IntKind.i64.bits = 18446744073709551616 := rfl
  have e4 : (2 : Nat) ^ IntKind.u64.bits = 18446744073709551616 := rfl
  have wi : ∀ y : Int, IntKind.i64.wrap y = (if 9223372036854775808 ≤ y % 18446744073709551616 then y % 18446744073709551616 - 18446744073709551616 else y % 18446744073709551616) := fun y => by simp [IntKind.wrap, IntKind.bits, IntKind.signed]
  rw [e1, e3, e4, Nat.mod_eq_of_lt hw, show 1 % 18446744073709551616 = 1 from rfl, Nat.and_one_is_mod, Int.fdiv_eq_ediv_of_nonneg _ (by omega), wrap_i64 (x := (w : Int) / 2) (by omega) (by omega), wrap_u64 (by omega) (by omega), wrap_i64 (x := ((w % 2 : Nat) : Int)) (by omega) (by omega), wrap_i64 (x := -((w % 2 : Nat) : Int)) (by omega) (by omega)]
  have e5 : ((w : Int) / 2 % 18446744073709551616).toNat = w / 2 := by omega
  rw [e5]
  unfold backI
  rcases Nat.mod_two_eq_zero_or_one w with h | h
  · rw [h, if_pos rfl]
    have e6 : (-((0 : Nat) : Int) % 18446744073709551616).toNat = 0 := by decide
    rw [e6, Nat.xor_zero]
    exact wrap_i64 (by omega) (by omega)
  · rw [h, if_neg (by omega)]
    have e6 : (-((1 : Nat) : Int) % 18446744073709551616).toNat = 18446744073709551615 := by decide
    rw [e6, xor_ones _ (by omega), wi]
    split <;> omega

theorem signed_rd {h : H} {b : Nat} {s : RS} (hr : RIs h b s) : RdS 121 [.ptr b 0] h b s rdSigned 0 (.int .i64) := by
  refine RdS.mk' hr rdSigned_ok (fun _ => .int _ _) (CallP.run hb121 ok121 (by simp) ?_)
  simp -implicitDefEqProofs
  have hn := next_ok hr (F := 141) (first := []) (caps := []) rfl rfl fun w => signed1_ok w h
  refine callQ_s hn.call (by simp) ?_
  have q := hn.to
  have hx := runS_next (p := fun _ => true) (q := rdSigned) (d := 0) (f := backI) rfl rdSigned_next s
  have hlt := runS_next_lt (p := fun _ => true) hr.bd
  rw [hx]
  generalize runS (rdNext fun _ => true) 0 s = x at q hlt
  simp -implicitDefEqProofs
  exact ⟨back_bits hlt, q.fin⟩

theorem flag_rd {h : H} {b : Nat} {s : RS} (hr : RIs h b s) : RdS 37 [.ptr b 0] h b s rdFlag false .bool := by
  refine RdS.mk' hr rdFlag_ok (fun _ => .bool _) (CallP.run hb37 ok37 (by simp) ?_)
  simp -implicitDefEqProofs
  have hn := count_rd hr (most := 1) ⟨by omega, by omega⟩
  refine callQ_s hn.call (by simp) ?_
  have q := hn.to
  have hx : runS rdFlag false s = (decide ((runS (rdCount 1) 0 s).1 = 1), (runS (rdCount 1) 0 s).2) := by
    have key : ∀ o : Option (Int × List Nat), ((o.map fun p => (decide (p.1 = 1), p.2)).elim (false, none) fun x => (x.1, some x.2) : Bool × RS) = (decide ((o.elim (0, none) fun x => (x.1, some x.2) : Int × RS).1 = 1), (o.elim (0, none) fun x => (x.1, some x.2) : Int × RS).2) := fun o => by cases o <;> first | rfl | simp
    cases s with
    | none => rfl
    | some l => exact key _
  rw [hx]
  simp -implicitDefEqProofs
  exact q.fin

theorem take_rd {h : H} {b : Nat} {s : RS} (hr : RIs h b s) {n : Nat} (hn : n ≤ 9223372036854775807) : RdS 88 [.ptr b 0, .int .i64 n] h b s (rdTake n) [] encW := by
  refine RdS.mk' hr (rdTake_ok n) pure_w64 (CallP.run hb88 ok88 (by simp) ?_)
  have h1 := hr.blt
  have h2 := hr.bx
  cases s with
  | none =>
    simp -implicitDefEqProofs [h1, h2, runS, encRS]
    exact RFin.set (HF.refl _ _ _)
  | some l =>
    by_cases hl : l.length < n
    · simp -implicitDefEqProofs [h1, h2, hl, runS, rdTake, show ¬ n ≤ l.length by omega, encRS]
      exact RFin.set (HF.refl _ _ _)
    · have hle : n ≤ l.length := by omega
      simp -implicitDefEqProofs [h1, h2, hl, -bndOf, bnd_nat hle, bnd_none, encRS]
      have hlen := (hr.bd l rfl).1
      refine callQ_p (clone_ok (l.take n) (by simp; omega)) (by simp) ?_
      simp -implicitDefEqProofs [h1, h2, -bndOf, bnd_nat hle, bnd_none, runS, rdTake, hle, w64, encRS]
      exact RFin.ok (HF.refl _ _ _) (by simp [encRS])

theorem runS_bind {α β : Type} (p : Rd α) (q : α → Rd β) (d1 : α) (d : β) (s : RS) : runS (p.bind q) d s = runS (q (runS p d1 s).1) d (runS p d1 s).2 := by
  unfold runS Rd.bind
  cases s with
  | none => rfl
  | some l =>
    simp only [Option.bind_some]
    cases p l <;> rfl

theorem neOp_w64 : NeOp w64 false (.bin .neq (.t 19) (.t 23)) := fun P s h0 obl K x y hx hy hk => by
  simp only [elV, w64] at hx hy
  simp -implicitDefEqProofs [hx, hy]
  exact hk
theorem elOK_w64 : ElOK w64 1 false := ⟨fun _ => rfl, fun _ => rfl, fun n => pures1 (.int _ _), fun n => by simp [w64]⟩

theorem slEqual_ok (a b : List Nat) (ha : a.length ≤ 9223372036854775807) (hb : b.length ≤ 9223372036854775807) : PCall Try.prog 89 [encW a, encW b] (.bool (decide (a = b))) :=
  equal_gen hb89 ok89 elOK_w64 neOp_w64 c89_d7 a b ha hb

def encB (n : Nat) : List AV := [.int .u8 n]
theorem bytesOf_ok : ∀ (l : List Nat), bytesOfA (l.map encB) = some (l.map fun n : Nat => (n : Int))
  | [] => rfl
  | n :: l => by simp [bytesOfA, byteOfA, encB, bytesOf_ok l]
def wbytes (ws : List Nat) (j : Nat) : List Nat := (List.range j).map (wbyte ws)
@[simp] theorem wbytes_len (ws : List Nat) (j : Nat) : (wbytes ws j).length = j := by simp [wbytes]
theorem wbytes_succ (ws : List Nat) (j : Nat) : wbytes ws (j + 1) = wbytes ws j ++ [wbyte ws j] := by simp [wbytes, List.range_succ]
theorem wbyte_bits {ws : List Nat} {j : Nat} (h : j / 8 < ws.length) : IntKind.u8.wrap (((ws[j / 8] : Nat) : Int).fdiv (2 ^ (8 * (j % 8)))) = (wbyte ws j : Int) := by
  have e : (2 : Int) ^ (8 * (j % 8)) = ((256 ^ (j % 8) : Nat) : Int) := by
    rw [Int.pow_mul]; simp
  have w8 : ∀ y : Int, IntKind.u8.wrap y = y % 256 := fun y => by simp [IntKind.wrap, IntKind.bits, IntKind.signed]
  rw [e, Int.fdiv_eq_ediv_of_nonneg _ (Int.natCast_nonneg _), w8]
  unfold wbyte
  rw [List.getD_eq_getElem?_getD, List.getElem?_eq_getElem h]
  simp
theorem strOf_unpack (n : Nat) (ws : List Nat) : strOfNums ((wbytes ws n).map fun n : Nat => (n : Int)) = unpack n ws := by
  unfold unpack strOfNums wbytes
  simp only [List.map_map]
  rfl
theorem encB_len (us : List Nat) : ∀ e ∈ us.map encB, e.length = 1 := fun e he => by
  obtain ⟨n, _, rfl⟩ := List.mem_map.1 he
  rfl
theorem rdTake_inv {k : Nat} {s : RS} {l2 : List Nat} (h : (runS (rdTake k) [] s).2 = some l2) : ∃ l, s = some l ∧ k ≤ l.length ∧ (runS (rdTake k) [] s).1 = l.take k ∧ l2 = l.drop k := by
  unfold runS at h ⊢
  cases s with
  | none => simp at h
  | some l =>
    simp only [Option.bind_some, rdTake] at h ⊢
    split at h
    · rename_i hk
      simp at h
      exact ⟨l, rfl, hk, by simp [hk], h.symm⟩
    · simp at h

theorem text_rd {h : H} {b : Nat} {s : RS} (hr : RIs h b s) : RdS 34 [.ptr b 0] h b s rdText ⟨#[]⟩ .str := by
  refine RdS.mk' hr rdText_ok (fun _ => .str _) (CallP.run hb34 ok34 (by simp) ?_)
  simp -implicitDefEqProofs
  have hc := count_rd hr (most := 64) ⟨by omega, by omega⟩
  refine callQ_s hc.call (by simp) ?_
  have q := hc.to
  clear hc
  have hin := rdCount_in (most := 64) ⟨by omega, by omega⟩ s
  have hx := runS_bind (rdCount 64) (fun n => (rdTake ((n.toNat + 7) / 8)).bind fun ws => fun l => if packed (unpack n.toNat ws) = ws then some (unpack n.toNat ws, l) else none) 0 ⟨#[]⟩ s
  change runS rdText ⟨#[]⟩ s = _ at hx
  rw [hx]
  clear hx
  generalize runS (rdCount 64) 0 s = x at q hin ⊢
  generalize h.set b (encRS x.2) = h1 at q ⊢
  obtain ⟨n, hn⟩ : ∃ n : Nat, x.1 = n := ⟨x.1.toNat, by omega⟩
  have hn64 : n ≤ 64 := by omega
  have e1 : IntKind.i64.wrap ((n : Int) + 8) = (n : Int) + 8 := wrap_i64 (by omega) (by omega)
  have e2 : IntKind.i64.wrap ((n : Int) + 8 - 1) = (n : Int) + 8 - 1 := wrap_i64 (by omega) (by omega)
  have e3 : IntKind.i64.wrap (((n : Int) + 8 - 1).tdiv 8) = (((n + 7) / 8 : Nat) : Int) := by
    rw [Int.tdiv_eq_ediv_of_nonneg (by omega), wrap_i64 (by omega) (by omega)]
    omega
  rw [hn, Int.toNat_natCast, runS_bind _ _ []]
  simp -implicitDefEqProofs [e1, e2, e3, -Int.natCast_ediv]
  have ht := take_rd q.is (n := (n + 7) / 8) (by omega)
  refine callQ_s ht.call (by simp) ?_
  have q2 := ht.to
  clear ht
  have hinv := @rdTake_inv ((n + 7) / 8) x.2
  have hq2 := q.trans q2
  generalize runS (rdTake ((n + 7) / 8)) [] x.2 = y at q2 hinv hq2 ⊢
  generalize h1.set b (encRS y.2) = h2 at q2 hq2 ⊢
  obtain ⟨ws, s2⟩ := y
  simp only at q2 hinv hq2 ⊢
  have hlt : b < h2.bn := q2.is.blt
  have hbx := q2.is.bx
  cases s2 with
  | none =>
    simp -implicitDefEqProofs [hlt, hbx, runS, encRS]
    exact hq2.fin
  | some l2 =>
    obtain ⟨l, hl, hk, hws, hl2⟩ := hinv rfl
    have hlw := (q.is.bd l hl).2
    simp only [encRS] at hbx
    have hwl : ws.length = (n + 7) / 8 := by rw [hws]; simp; omega
    have hww : ∀ w ∈ ws, w < 18446744073709551616 := fun w hw => hlw w (List.mem_of_mem_take (hws ▸ hw))
    simp -implicitDefEqProofs [hlt, hbx]
    refine run_loop (fun m s h => ∃ (j : Nat) (t : Tok), m = n - j ∧ j ≤ n ∧ s 0 = .ptr b 0 ∧ s 4 = encW ws ∧ s 5 = .sl t ((wbytes ws j).map encB) ∧ TLive h t j ∧ HF h2 h (fun _ => False) (fun _ => False) ∧ (∀ i, t = .own i → h2.tn ≤ i) ∧ s 19 = .int .i64 n ∧ s 20 = .int .i64 j) ?_ n ?_
    · rintro m s h3 ⟨j, t, hm, hj, h0, h4, h5, hlv, hf, hown, h19, h20⟩ ih
      simp -implicitDefEqProofs [h19, h20]
      by_cases hjn : j < n
      · have i1 : idxOf (.int .i64 ((j / 8 : Nat) : Int)) ws.length = some (j / 8) := idxOf_nat (by omega)
        have hj8 : j / 8 < ws.length := by omega
        have q1 : ((j : Int)).tdiv 8 = ((j / 8 : Nat) : Int) := by rw [Int.tdiv_eq_ediv_of_nonneg (by omega)]; omega
        have q3 : ((j : Int)).tmod 8 = ((j % 8 : Nat) : Int) := by rw [Int.tmod_eq_emod_of_nonneg (by omega)]; omega
        have q4 : IntKind.i64.wrap ((j / 8 : Nat) : Int) = ((j / 8 : Nat) : Int) := wrap_i64 (by omega) (by omega)
        have q5 : IntKind.i64.wrap (8 * ((j % 8 : Nat) : Int)) = ((8 * (j % 8) : Nat) : Int) := by rw [wrap_i64 (by omega) (by omega)]; omega
        have q6 : ¬ ((8 * (j % 8) : Nat) : Int) < 0 := by omega
        have q7 : shAmt .u64 ((8 * (j % 8) : Nat) : Int) = 8 * (j % 8) := by simp only [shAmt, IntKind.bits, Int.toNat_natCast]; omega
        have q8 : IntKind.u8.wrap (((ws[j / 8] : Nat) : Int).fdiv (2 ^ (8 * (j % 8)))) = (wbyte ws j : Int) := wbyte_bits hj8
        simp -implicitDefEqProofs [hjn, h20, h4, h5, i1, hj8, q1, q3, q4, q5, q6, q7, q8, w64, -idxOf, -Int.natCast_ediv, -Int.natCast_emod, -Int.natCast_mul]
        refine appQ_tok (es2 := [encB (wbyte ws j)]) (by simpa using hlv) (encB_len _) (by simp [srcA, encB]) (by simp; omega) fun t' h4' p1 p2 p3 p4 => ?_
        simp -implicitDefEqProofs [h20, inc_i64 hjn (by omega), -Int.natCast_add]
        refine ih (n - (j + 1)) _ _ (by omega) ⟨j + 1, t', rfl, by omega, by simp [h0], by simp [h4], by simp [wbytes_succ], by simpa using p1, hf.trans' p3 (fun _ _ h => h) (fun i hi ho => ?_), (fun i hi => ?_), by simp [h19], by simp⟩
        · have := hown i ho; omega
        · rcases p2 with rfl | ⟨i', rfl, hi'⟩
          · exact hown i hi
          · cases hi; exact Nat.le_trans hf.tn hi'
      · have hjn' : j = n := by omega
        subst hjn'
        have hb3 : h3.bx b = some [encW l2, .bool false] := (hf.bx b hlt fun h => h).trans hbx
        have hlt3 : b < h3.bn := Nat.lt_of_lt_of_le hlt hf.bn
        simp -implicitDefEqProofs [hjn, h5, bytesOf_ok, strOf_unpack, -List.map_map]
        refine callQ_p (packed_ok (unpack j ws) (by rw [unpack_size]; omega)) (by simp) ?_
        simp -implicitDefEqProofs [h4]
        refine callQ_p (slEqual_ok (packed (unpack j ws)) ws (by rw [packed_len, unpack_size]; omega) (by omega)) (by simp) ?_
        by_cases hpk : packed (unpack j ws) = ws
        · simp -implicitDefEqProofs [hpk, h5, bytesOf_ok, strOf_unpack, -List.map_map, runS]
          exact RTo.fin ⟨hq2.keep.trans' hf (fun _ _ h => h.elim) (fun _ _ h => h), q2.is.keep hf fun h => h⟩
        · simp -implicitDefEqProofs [hpk, h0, hb3, hlt3, runS]
          exact RFin.set (hq2.keep.trans' hf (fun _ _ h => h.elim) (fun _ _ h => h))
    · exact ⟨0, .full, by simp, by omega, by simp, by simp, by simp [wbytes], trivial, HF.refl _ _ _, (fun i h => by cases h), by simp, by simp⟩
end Go.Proofs
